/- Printed by gen.py: the Go functions as plain functions, and that the code does what they say. -/
import Derived.Test.YtkcpjnjneehecaaChecked
import Derived.Test.YtkcpjnjneehecaaVcYB
import Derived.Test.YtkcpjnjneehecaaVcZ
import Derived.Test.YtkcpjnjneehecaaVcGC
import Derived.KernelRfl
import Derived.Test.YtkcpjnjneehecaaFnsB
import Derived.Test.YtkcpjnjneehecaaExt
import Derived.Test.YtkcpjnjneehecaaVcWS
import Derived.Test.YtkcpjnjneehecaaVcQu
import Derived.Test.YtkcpjnjneehecaaVcAC
namespace Go.Proofs.Ytkcpjnjneehecaa
open Go Go.Vc
open Try
open Go.Vc.OpJ (assign alloc lss pickT pickF extract lenD indexD loadD eqlI gtr callVal leq geq loadR nilP indexS buildSlice lenS fieldD neqI pickAnd pickOr)
set_option maxHeartbeats 4000000
set_option maxRecDepth 100000
noncomputable section
def slices_Equal_L0 (a0:(List aItem)) (a1:(List aItem)) (s2:Int):Option (((Unit)⊕(Unit))⊕(Int)) :=
 (if (decide (s2<(a0.length:Int)))=true then
 (idx a0 s2).bind fun x14 =>
 (idx a1 s2).bind fun x15 =>
 (if (!((x14.fSwitch==x15.fSwitch)&&((x14.fIndex==x15.fIndex)&&true)))=true then
 some (.inl (.inl ()))
 else
 some (.inr (w64 (s2+1))))
 else
 some (.inl (.inr ())))
def slices_Equal (a0:(List aItem)) (a1:(List aItem)):Option (Bool) :=
 (if ((a0.length:Int) != (a1.length:Int))=true then
 some false
 else
 (loop (slices_Equal_L0 a0 a1) 0).bind fun x17=>match x17 with
 | (.inl _) =>
  some false
 | (.inr _) =>
  some true)
theorem slices_Equal_ac (a0:(List aItem)) (a1:(List aItem)) (r:Bool) (h:slices_Equal a0 a1=some r):AC Try.prog 44 [(.d (.list 2 (a0.map e_aItem))),(.d (.list 2 (a1.map e_aItem)))] [] (.d (.bool r)) []:=by
 refine ac2 Try.func44 rfl rfl fun B hB hN L => ?_
 delta slices_Equal at h
 refine sr (SQ tt) ?_
 apply AWp.seq
 refine sr (SQ tt) ?_
 apply AWp.cond rfl<;>intro hg1
 ·have h:=ite_t hg1 h
  refine sr (SQ tt) ?_
  apply AWp.ret
  apply seqQ_r
  obtain rfl:=oi h
  exact rt (kp [(4,_)] [] hB rfl rfl (by rfl)) [(bo false)] (Res.tmp (by rfl) (by rfl) Res.nil) rfl
 ·have h:=ite_f hg1 h
  apply AWp.skip
  apply seqQ_n
  apply AWp.seq
  refine sr (SQ tt) ?_
  apply AWp.block
  obtain⟨x17,hx18,h⟩:=bindS h
  refine lg (slices_Equal_L0 a0 a1) (fun s2:Int=>([(0,(qe_aItem_2 a0)),(1,(qe_aItem_2 a1)),(12,(i6 (a0.length:Int))),(13,(i6 s2))]:EL)) (fun s2:Int=>([]:OL)) (fun(x:(Unit)⊕(Unit)) e E' O'=>match x with | (.inl _p)=>e = .ret∧Mat B E' O' ([(4,(bo false))]:EL) ([]:OL) | (.inr _p)=>e = .exit 0∧Mat B E' O' ([]:EL) ([]:OL)) hx18 (mp [] _ _ hB) (fun s2 y h => ?_) (fun e E' O' hR => ?_)
  ·unfold slices_Equal_L0 at h
   refine sr (SQ tt) ?_
   apply AWp.seq
   apply AWp.cond rfl<;>intro hg13
   ·have h:=ite_t hg13 h
    apply AWp.skip
    apply seqQ_n
    apply AWp.seq
    apply AWp.block
    refine sr (SQ tt) ?_
    obtain⟨x14,hx14,h⟩:=bindS h
    obtain⟨x15,hx15,h⟩:=bindS h
    apply sd (c (mv hN (q 0)) rfl (c (mv hN (q 5)) rfl (c (indexD underlying22 tyS63 (idx_some hx14).1 (get_map e_aItem (idx_some hx14).2) (L rfl) (q 16) (q 17)) rfl (c (loadD tyS63 (by rfl) (by rfl) (L rfl) (q 18)) rfl (c (mv hN (q 1)) rfl (c (mv hN (q 5)) rfl (c (indexD underlying22 tyS63 (idx_some hx15).1 (get_map e_aItem (idx_some hx15).2) (L rfl) (q 20) (q 21)) rfl (c (loadD tyS63 (by rfl) (by rfl) (L rfl) (q 22)) rfl (c (OpJ.neqD (h:=2) (FitE.st underlying63 rfl held63 (FitF.cons (x:=(.bool x14.fSwitch)) (y:=(.bool x15.fSwitch)) (by decide) rfl tyS4 ⟨rfl,rfl⟩ ⟨rfl,rfl⟩ (FitE.bool (h:=0) x14.fSwitch x15.fSwitch underlying4) (FitF.cons (x:=(.int .i64 x14.fIndex)) (y:=(.int .i64 x15.fIndex)) (by decide) rfl tyS3 ⟨rfl,rfl⟩ ⟨rfl,rfl⟩ (FitE.int (h:=0) x14.fIndex x15.fIndex underlying3) FitF.nil))) eqg63 ⟨rfl,rfl⟩ (by rfl) (L rfl) (q 19) (q 23)) rfl cn))))))))) (by kernel_rfl) (by kernel_rfl)
    apply AWp.cond rfl<;>intro hg16
    ·have h:=ite_t hg16 h
     refine sr (SQ tt) ?_
     apply AWp.ret
     apply blkQ_r
     apply seqQ_r
     obtain rfl:=oi h
     exact⟨(fun hc=>by cases hc),rfl,(mp [] _ _ hB)⟩
    ·have h:=ite_f hg16 h
     apply AWp.skip
     apply blkQ_n
     apply seqQ_n
     refine rg (SQ tt) ?_
     obtain rfl:=oi h
     exact⟨rfl,(mp [] _ _ hB)⟩
   ·have h:=ite_f hg13 h
    apply AWp.exit
    apply seqQ_e
    obtain rfl:=oi h
    exact⟨(fun hc=>by cases hc),rfl,(mp [] _ _ hB)⟩
  ·rcases x17 with _ | _
   ·obtain⟨rfl,hmat⟩:=hR
    apply blkQ_r
    apply seqQ_r
    obtain rfl:=oi h
    exact rt (Mat.trans hmat (mp [] [(4,(bo false))] [] hB)) [(bo false)] (Res.tmp (by rfl) (by rfl) Res.nil) rfl
   ·obtain⟨rfl,hmat⟩:=hR
    apply blkQ_hit
    apply seqQ_n
    refine AWp.ghost hmat ?_
    refine sr (SQ tt) ?_
    apply AWp.ret
    obtain rfl:=oi h
    exact rt (kp [(4,_)] [] hB rfl rfl (by rfl)) [(bo true)] (Res.tmp (by rfl) (by rfl) Res.nil) rfl
def plan_Check_1 (a0:aShed) (a1:aShed):Option (Bool) :=
 (slices_Equal a0.fItems a1.fItems).bind fun r1 =>
 some r1
theorem plan_Check_1_ac (a0:aShed) (a1:aShed) (r:Bool) (h:plan_Check_1 a0 a1=some r):AC Try.prog 43 [(.d (e_aShed a0)),(.d (e_aShed a1))] [] (.d (.bool r)) []:=by
 refine AC.of_code2 Try.func43 rfl rfl (Nat.le_of_ble_eq_true (by rfl)) fun B hB hN => ?_
 delta plan_Check_1 at h
 refine sr (SQ tt) ?_
 obtain⟨r1,hr1,h⟩:=bindS h
 refine sr (SQ (fa (cl [] (slices_Equal_ac a0.fItems a1.fItems r1 hr1)) tt)) ?_
 apply AWp.ret
 obtain rfl:=oi h
 exact rt (kp [(4,_)] [] hB rfl rfl (by rfl)) [(bo r1)] (Res.tmp (by rfl) (by rfl) Res.nil) rfl
def slices_EqualFunc_L0 (a0:(List aShed)) (a1:(List aShed)) (s2:Int):Option (((Unit)⊕(Unit))⊕(Int)) :=
 (if (decide (s2<(a0.length:Int)))=true then
 (idx a0 s2).bind fun x16 =>
 (idx a1 s2).bind fun x17 =>
 (plan_Check_1 x16 x17).bind fun r18 =>
 (if (!r18)=true then
 some (.inl (.inl ()))
 else
 some (.inr (w64 (s2+1))))
 else
 some (.inl (.inr ())))
def slices_EqualFunc (a0:(List aShed)) (a1:(List aShed)):Option (Bool) :=
 (if ((a0.length:Int) != (a1.length:Int))=true then
 some false
 else
 (loop (slices_EqualFunc_L0 a0 a1) 0).bind fun x20=>match x20 with
 | (.inl _) =>
  some false
 | (.inr _) =>
  some true)
theorem slices_EqualFunc_ac (a0:(List aShed)) (a1:(List aShed)) (r:Bool) (h:slices_EqualFunc a0 a1=some r):AC Try.prog 42 [(.d (.list 2 (a0.map e_aShed))),(.d (.list 2 (a1.map e_aShed))),(.func 43 [])] [] (.d (.bool r)) []:=by
 refine ac2 Try.func42 rfl rfl fun B hB hN L => ?_
 delta slices_EqualFunc at h
 refine sr (SQ tt) ?_
 apply AWp.seq
 refine sr (SQ tt) ?_
 apply AWp.cond rfl<;>intro hg1
 ·have h:=ite_t hg1 h
  refine sr (SQ tt) ?_
  apply AWp.ret
  apply seqQ_r
  obtain rfl:=oi h
  exact rt (kp [(6,_)] [] hB rfl rfl (by rfl)) [(bo false)] (Res.tmp (by rfl) (by rfl) Res.nil) rfl
 ·have h:=ite_f hg1 h
  apply AWp.skip
  apply seqQ_n
  apply AWp.seq
  refine sr (SQ tt) ?_
  apply AWp.block
  obtain⟨x20,hx21,h⟩:=bindS h
  refine lg (slices_EqualFunc_L0 a0 a1) (fun s2:Int=>([(1,(qe_aShed_2 a1)),(2,(.func 43 [])),(15,(qe_aShed_2 a0)),(16,(i6 (a0.length:Int))),(17,(i6 s2))]:EL)) (fun s2:Int=>([]:OL)) (fun(x:(Unit)⊕(Unit)) e E' O'=>match x with | (.inl _p)=>e = .ret∧Mat B E' O' ([(6,(bo false))]:EL) ([]:OL) | (.inr _p)=>e = .exit 0∧Mat B E' O' ([]:EL) ([]:OL)) hx21 (mp [] _ _ hB) (fun s2 y h => ?_) (fun e E' O' hR => ?_)
  ·unfold slices_EqualFunc_L0 at h
   refine sr (SQ tt) ?_
   apply AWp.seq
   apply AWp.cond rfl<;>intro hg15
   ·have h:=ite_t hg15 h
    apply AWp.skip
    apply seqQ_n
    apply AWp.seq
    apply AWp.block
    obtain⟨x16,hx16,h⟩:=bindS h
    refine sr (SQ (fa hx16 tt)) ?_
    obtain⟨x17,hx17,h⟩:=bindS h
    refine sr (SQ (fa hx17 tt)) ?_
    obtain⟨r18,hr18,h⟩:=bindS h
    refine sr (SQ (fa (cl [] (plan_Check_1_ac x16 x17 r18 hr18)) tt)) ?_
    apply AWp.cond rfl<;>intro hg19
    ·have h:=ite_t hg19 h
     refine sr (SQ tt) ?_
     apply AWp.ret
     apply blkQ_r
     apply seqQ_r
     obtain rfl:=oi h
     exact⟨(fun hc=>by cases hc),rfl,(mp [] _ _ hB)⟩
    ·have h:=ite_f hg19 h
     apply AWp.skip
     apply blkQ_n
     apply seqQ_n
     refine rg (SQ tt) ?_
     obtain rfl:=oi h
     exact⟨rfl,(mp [] _ _ hB)⟩
   ·have h:=ite_f hg15 h
    apply AWp.exit
    apply seqQ_e
    obtain rfl:=oi h
    exact⟨(fun hc=>by cases hc),rfl,(mp [] _ _ hB)⟩
  ·rcases x20 with _ | _
   ·obtain⟨rfl,hmat⟩:=hR
    apply blkQ_r
    apply seqQ_r
    obtain rfl:=oi h
    exact rt (Mat.trans hmat (mp [] [(6,(bo false))] [] hB)) [(bo false)] (Res.tmp (by rfl) (by rfl) Res.nil) rfl
   ·obtain⟨rfl,hmat⟩:=hR
    apply blkQ_hit
    apply seqQ_n
    refine AWp.ghost hmat ?_
    refine sr (SQ tt) ?_
    apply AWp.ret
    obtain rfl:=oi h
    exact rt (kp [(6,_)] [] hB rfl rfl (by rfl)) [(bo true)] (Res.tmp (by rfl) (by rfl) Res.nil) rfl
def slices_Equal_2_L0 (a0:(List Int)) (a1:(List Int)) (s2:Int):Option (((Unit)⊕(Unit))⊕(Int)) :=
 (if (decide (s2<(a0.length:Int)))=true then
 (idx a0 s2).bind fun x14 =>
 (idx a1 s2).bind fun x15 =>
 (if (x14 != x15)=true then
 some (.inl (.inl ()))
 else
 some (.inr (w64 (s2+1))))
 else
 some (.inl (.inr ())))
def slices_Equal_2 (a0:(List Int)) (a1:(List Int)):Option (Bool) :=
 (if ((a0.length:Int) != (a1.length:Int))=true then
 some false
 else
 (loop (slices_Equal_2_L0 a0 a1) 0).bind fun x17=>match x17 with
 | (.inl _) =>
  some false
 | (.inr _) =>
  some true)
theorem slices_Equal_2_ac (a0:(List Int)) (a1:(List Int)) (r:Bool) (h:slices_Equal_2 a0 a1=some r):AC Try.prog 46 [(.d (.list 1 (a0.map (eI .i64)))),(.d (.list 1 (a1.map (eI .i64))))] [] (.d (.bool r)) []:=by
 refine ac2 Try.func46 rfl rfl fun B hB hN L => ?_
 delta slices_Equal_2 at h
 refine sr (SQ tt) ?_
 apply AWp.seq
 refine sr (SQ tt) ?_
 apply AWp.cond rfl<;>intro hg1
 ·have h:=ite_t hg1 h
  refine sr (SQ tt) ?_
  apply AWp.ret
  apply seqQ_r
  obtain rfl:=oi h
  exact rt (kp [(4,_)] [] hB rfl rfl (by rfl)) [(bo false)] (Res.tmp (by rfl) (by rfl) Res.nil) rfl
 ·have h:=ite_f hg1 h
  apply AWp.skip
  apply seqQ_n
  apply AWp.seq
  refine sr (SQ tt) ?_
  apply AWp.block
  obtain⟨x17,hx18,h⟩:=bindS h
  refine lg (slices_Equal_2_L0 a0 a1) (fun s2:Int=>([(0,(qI_1 a0)),(1,(qI_1 a1)),(12,(i6 (a0.length:Int))),(13,(i6 s2))]:EL)) (fun s2:Int=>([]:OL)) (fun(x:(Unit)⊕(Unit)) e E' O'=>match x with | (.inl _p)=>e = .ret∧Mat B E' O' ([(4,(bo false))]:EL) ([]:OL) | (.inr _p)=>e = .exit 0∧Mat B E' O' ([]:EL) ([]:OL)) hx18 (mp [] _ _ hB) (fun s2 y h => ?_) (fun e E' O' hR => ?_)
  ·unfold slices_Equal_2_L0 at h
   refine sr (SQ tt) ?_
   apply AWp.seq
   apply AWp.cond rfl<;>intro hg13
   ·have h:=ite_t hg13 h
    apply AWp.skip
    apply seqQ_n
    apply AWp.seq
    apply AWp.block
    refine sr (SQ tt) ?_
    obtain⟨_,hx14,h⟩:=bindS h
    obtain⟨_,hx15,h⟩:=bindS h
    refine sdS (SQ (fa hx14 (fa hx15 tt))) ?_
    apply AWp.cond rfl<;>intro hg16
    ·have h:=ite_t hg16 h
     refine sr (SQ tt) ?_
     apply AWp.ret
     apply blkQ_r
     apply seqQ_r
     obtain rfl:=oi h
     exact⟨(fun hc=>by cases hc),rfl,(mp [] _ _ hB)⟩
    ·have h:=ite_f hg16 h
     apply AWp.skip
     apply blkQ_n
     apply seqQ_n
     refine rg (SQ tt) ?_
     obtain rfl:=oi h
     exact⟨rfl,(mp [] _ _ hB)⟩
   ·have h:=ite_f hg13 h
    apply AWp.exit
    apply seqQ_e
    obtain rfl:=oi h
    exact⟨(fun hc=>by cases hc),rfl,(mp [] _ _ hB)⟩
  ·rcases x17 with _ | _
   ·obtain⟨rfl,hmat⟩:=hR
    apply blkQ_r
    apply seqQ_r
    obtain rfl:=oi h
    exact rt (Mat.trans hmat (mp [] [(4,(bo false))] [] hB)) [(bo false)] (Res.tmp (by rfl) (by rfl) Res.nil) rfl
   ·obtain⟨rfl,hmat⟩:=hR
    apply blkQ_hit
    apply seqQ_n
    refine AWp.ghost hmat ?_
    refine sr (SQ tt) ?_
    apply AWp.ret
    obtain rfl:=oi h
    exact rt (kp [(4,_)] [] hB rfl rfl (by rfl)) [(bo true)] (Res.tmp (by rfl) (by rfl) Res.nil) rfl
def plan_Check_2 (a0:aShed) (a1:aShed):Option (Bool) :=
 (slices_Equal_2 a0.fLoads a1.fLoads).bind fun r1 =>
 some r1
theorem plan_Check_2_ac (a0:aShed) (a1:aShed) (r:Bool) (h:plan_Check_2 a0 a1=some r):AC Try.prog 45 [(.d (e_aShed a0)),(.d (e_aShed a1))] [] (.d (.bool r)) []:=by
 refine AC.of_code2 Try.func45 rfl rfl (Nat.le_of_ble_eq_true (by rfl)) fun B hB hN => ?_
 delta plan_Check_2 at h
 refine sr (SQ tt) ?_
 obtain⟨r1,hr1,h⟩:=bindS h
 refine sr (SQ (fa (cl [] (slices_Equal_2_ac a0.fLoads a1.fLoads r1 hr1)) tt)) ?_
 apply AWp.ret
 obtain rfl:=oi h
 exact rt (kp [(4,_)] [] hB rfl rfl (by rfl)) [(bo r1)] (Res.tmp (by rfl) (by rfl) Res.nil) rfl
def slices_EqualFunc_2_L0 (a0:(List aShed)) (a1:(List aShed)) (s2:Int):Option (((Unit)⊕(Unit))⊕(Int)) :=
 (if (decide (s2<(a0.length:Int)))=true then
 (idx a0 s2).bind fun x16 =>
 (idx a1 s2).bind fun x17 =>
 (plan_Check_2 x16 x17).bind fun r18 =>
 (if (!r18)=true then
 some (.inl (.inl ()))
 else
 some (.inr (w64 (s2+1))))
 else
 some (.inl (.inr ())))
def slices_EqualFunc_2 (a0:(List aShed)) (a1:(List aShed)):Option (Bool) :=
 (if ((a0.length:Int) != (a1.length:Int))=true then
 some false
 else
 (loop (slices_EqualFunc_2_L0 a0 a1) 0).bind fun x20=>match x20 with
 | (.inl _) =>
  some false
 | (.inr _) =>
  some true)
theorem slices_EqualFunc_2_ac (a0:(List aShed)) (a1:(List aShed)) (r:Bool) (h:slices_EqualFunc_2 a0 a1=some r):AC Try.prog 42 [(.d (.list 2 (a0.map e_aShed))),(.d (.list 2 (a1.map e_aShed))),(.func 45 [])] [] (.d (.bool r)) []:=by
 refine ac2 Try.func42 rfl rfl fun B hB hN L => ?_
 delta slices_EqualFunc_2 at h
 refine sr (SQ tt) ?_
 apply AWp.seq
 refine sr (SQ tt) ?_
 apply AWp.cond rfl<;>intro hg1
 ·have h:=ite_t hg1 h
  refine sr (SQ tt) ?_
  apply AWp.ret
  apply seqQ_r
  obtain rfl:=oi h
  exact rt (kp [(6,_)] [] hB rfl rfl (by rfl)) [(bo false)] (Res.tmp (by rfl) (by rfl) Res.nil) rfl
 ·have h:=ite_f hg1 h
  apply AWp.skip
  apply seqQ_n
  apply AWp.seq
  refine sr (SQ tt) ?_
  apply AWp.block
  obtain⟨x20,hx21,h⟩:=bindS h
  refine lg (slices_EqualFunc_2_L0 a0 a1) (fun s2:Int=>([(1,(qe_aShed_2 a1)),(2,(.func 45 [])),(15,(qe_aShed_2 a0)),(16,(i6 (a0.length:Int))),(17,(i6 s2))]:EL)) (fun s2:Int=>([]:OL)) (fun(x:(Unit)⊕(Unit)) e E' O'=>match x with | (.inl _p)=>e = .ret∧Mat B E' O' ([(6,(bo false))]:EL) ([]:OL) | (.inr _p)=>e = .exit 0∧Mat B E' O' ([]:EL) ([]:OL)) hx21 (mp [] _ _ hB) (fun s2 y h => ?_) (fun e E' O' hR => ?_)
  ·unfold slices_EqualFunc_2_L0 at h
   refine sr (SQ tt) ?_
   apply AWp.seq
   apply AWp.cond rfl<;>intro hg15
   ·have h:=ite_t hg15 h
    apply AWp.skip
    apply seqQ_n
    apply AWp.seq
    apply AWp.block
    obtain⟨x16,hx16,h⟩:=bindS h
    refine sr (SQ (fa hx16 tt)) ?_
    obtain⟨x17,hx17,h⟩:=bindS h
    refine sr (SQ (fa hx17 tt)) ?_
    obtain⟨r18,hr18,h⟩:=bindS h
    refine sr (SQ (fa (cl [] (plan_Check_2_ac x16 x17 r18 hr18)) tt)) ?_
    apply AWp.cond rfl<;>intro hg19
    ·have h:=ite_t hg19 h
     refine sr (SQ tt) ?_
     apply AWp.ret
     apply blkQ_r
     apply seqQ_r
     obtain rfl:=oi h
     exact⟨(fun hc=>by cases hc),rfl,(mp [] _ _ hB)⟩
    ·have h:=ite_f hg19 h
     apply AWp.skip
     apply blkQ_n
     apply seqQ_n
     refine rg (SQ tt) ?_
     obtain rfl:=oi h
     exact⟨rfl,(mp [] _ _ hB)⟩
   ·have h:=ite_f hg15 h
    apply AWp.exit
    apply seqQ_e
    obtain rfl:=oi h
    exact⟨(fun hc=>by cases hc),rfl,(mp [] _ _ hB)⟩
  ·rcases x20 with _ | _
   ·obtain⟨rfl,hmat⟩:=hR
    apply blkQ_r
    apply seqQ_r
    obtain rfl:=oi h
    exact rt (Mat.trans hmat (mp [] [(6,(bo false))] [] hB)) [(bo false)] (Res.tmp (by rfl) (by rfl) Res.nil) rfl
   ·obtain⟨rfl,hmat⟩:=hR
    apply blkQ_hit
    apply seqQ_n
    refine AWp.ghost hmat ?_
    refine sr (SQ tt) ?_
    apply AWp.ret
    obtain rfl:=oi h
    exact rt (kp [(6,_)] [] hB rfl rfl (by rfl)) [(bo true)] (Res.tmp (by rfl) (by rfl) Res.nil) rfl
def plan_Check (a0:aFabric) (a1:(List aLoad)) (a2:(List Int)) (a3:(List aShed)):Option (Int) :=
 (plan_Build a0 a1 a2).bind fun r1 =>
 (if (r1.2 != 0)=true then
 some r1.2
 else
 (slices_EqualFunc a3 r1.1).bind fun r3 =>
 (if (!r3)=true then
 some 39
 else
 (slices_EqualFunc_2 a3 r1.1).bind fun r5 =>
 (if (!r5)=true then
 some 41
 else
 some 0)))
theorem plan_Check_ac (a0:aFabric) (a1:(List aLoad)) (a2:(List Int)) (a3:(List aShed)) (r:Int) (h:plan_Check a0 a1 a2 a3=some r):AC Try.prog 20 [(.d (e_aFabric a0)),(.d (.list 3 (a1.map e_aLoad))),(.d (.list 1 (a2.map (eI .i64)))),(.d (.list 2 (a3.map e_aShed)))] [] (.d (.int .i64 r)) []:=by
 refine ac2 Try.func20 rfl rfl fun B hB hN L => ?_
 delta plan_Check at h
 refine sr (SQ tt) ?_
 obtain⟨r1,hr1,h⟩:=bindS h
 refine sr (SQ (fa (cl [] (plan_Build_ac a0 a1 a2 r1 hr1)) tt)) ?_
 apply AWp.seq
 refine sr (SQ tt) ?_
 apply AWp.cond rfl<;>intro hg2
 ·have h:=ite_t hg2 h
  refine sr (SQ tt) ?_
  apply AWp.ret
  apply seqQ_r
  obtain rfl:=oi h
  exact rt (kp [(8,_)] [] hB rfl rfl (by rfl)) [(i6 r1.2)] (Res.tmp (by rfl) (by rfl) Res.nil) rfl
 ·have h:=ite_f hg2 h
  apply AWp.skip
  apply seqQ_n
  apply AWp.seq
  obtain⟨r3,hr3,h⟩:=bindS h
  refine sr (SQ (fa (cl [] (slices_EqualFunc_ac a3 r1.1 r3 hr3)) tt)) ?_
  apply AWp.cond rfl<;>intro hg4
  ·have h:=ite_t hg4 h
   refine sr (SQ tt) ?_
   apply AWp.ret
   apply seqQ_r
   obtain rfl:=oi h
   exact rt (kp [(8,_)] [] hB rfl rfl (by rfl)) [(i6 39)] (Res.tmp (by rfl) (by rfl) Res.nil) rfl
  ·have h:=ite_f hg4 h
   apply AWp.skip
   apply seqQ_n
   apply AWp.seq
   obtain⟨r5,hr5,h⟩:=bindS h
   refine sr (SQ (fa (cl [] (slices_EqualFunc_2_ac a3 r1.1 r5 hr5)) tt)) ?_
   apply AWp.cond rfl<;>intro hg6
   ·have h:=ite_t hg6 h
    refine sr (SQ tt) ?_
    apply AWp.ret
    apply seqQ_r
    obtain rfl:=oi h
    exact rt (kp [(8,_)] [] hB rfl rfl (by rfl)) [(i6 41)] (Res.tmp (by rfl) (by rfl) Res.nil) rfl
   ·have h:=ite_f hg6 h
    apply AWp.skip
    apply seqQ_n
    refine sr (SQ tt) ?_
    apply AWp.ret
    obtain rfl:=oi h
    exact rt (kp [(8,_)] [] hB rfl rfl (by rfl)) [(i6 0)] (Res.tmp (by rfl) (by rfl) Res.nil) rfl
def xref43_Check_L0 (a3:(List aShed)) (r1:(List aShed)×Int) (s4:Int):Option (((Unit)⊕(Unit))⊕(Int)) :=
 (if (decide (s4<(a3.length:Int)))=true then
 (idx a3 s4).bind fun x18 =>
 (idx r1.1 s4).bind fun x19 =>
 (xref42_SameItems x18.fItems x19.fItems).bind fun r20 =>
 (if (!r20)=true then
 some (.inl (.inl ()))
 else
 some (.inr (w64 (s4+1))))
 else
 some (.inl (.inr ())))
def xref43_Check_L1 (a3:(List aShed)) (r1:(List aShed)×Int) (s24:Int):Option (((Unit)⊕(Unit))⊕(Int)) :=
 (if (decide (s24<(a3.length:Int)))=true then
 (idx a3 s24).bind fun x38 =>
 (idx r1.1 s24).bind fun x39 =>
 (xref23_SameInts x38.fLoads x39.fLoads).bind fun r40 =>
 (if (!r40)=true then
 some (.inl (.inl ()))
 else
 some (.inr (w64 (s24+1))))
 else
 some (.inl (.inr ())))
def xref43_Check (a0:aFabric) (a1:(List aLoad)) (a2:(List Int)) (a3:(List aShed)):Option (Int) :=
 (xref43_Build a0 a1 a2).bind fun r1 =>
 (if (r1.2 != 0)=true then
 some r1.2
 else
 (if ((a3.length:Int) != (r1.1.length:Int))=true then
 some 39
 else
 (loop (xref43_Check_L0 a3 r1) 0).bind fun x22=>match x22 with
 | (.inl _) =>
  some 39
 | (.inr _) =>
  (loop (xref43_Check_L1 a3 r1) 0).bind fun x42=>match x42 with
  | (.inl _) =>
   some 41
  | (.inr _) =>
   some 0))
theorem xref43_Check_ac (a0:aFabric) (a1:(List aLoad)) (a2:(List Int)) (a3:(List aShed)) (r:Int) (h:xref43_Check a0 a1 a2 a3=some r):AC Try.prog 25 [(.d (e_aFabric a0)),(.d (.list 3 (a1.map e_aLoad))),(.d (.list 1 (a2.map (eI .i64)))),(.d (.list 2 (a3.map e_aShed)))] [] (.d (.int .i64 r)) []:=by
 refine ac2 Try.func25 rfl rfl fun B hB hN L => ?_
 delta xref43_Check at h
 refine sr (SQ tt) ?_
 obtain⟨r1,hr1,h⟩:=bindS h
 refine sr (SQ (fa (cl [] (xref43_Build_ac a0 a1 a2 r1 hr1)) tt)) ?_
 apply AWp.seq
 refine sr (SQ tt) ?_
 apply AWp.cond rfl<;>intro hg2
 ·have h:=ite_t hg2 h
  refine sr (SQ tt) ?_
  apply AWp.ret
  apply seqQ_r
  obtain rfl:=oi h
  exact rt (kp [(8,_)] [] hB rfl rfl (by rfl)) [(i6 r1.2)] (Res.tmp (by rfl) (by rfl) Res.nil) rfl
 ·have h:=ite_f hg2 h
  apply AWp.skip
  apply seqQ_n
  apply AWp.seq
  refine sr (SQ tt) ?_
  apply AWp.cond rfl<;>intro hg3
  ·have h:=ite_t hg3 h
   refine sr (SQ tt) ?_
   apply AWp.ret
   apply seqQ_r
   obtain rfl:=oi h
   exact rt (kp [(8,_)] [] hB rfl rfl (by rfl)) [(i6 39)] (Res.tmp (by rfl) (by rfl) Res.nil) rfl
  ·have h:=ite_f hg3 h
   apply AWp.skip
   apply seqQ_n
   apply AWp.seq
   refine sr (SQ tt) ?_
   apply AWp.block
   obtain⟨x22,hx23,h⟩:=bindS h
   refine lg (xref43_Check_L0 a3 r1) (fun s4:Int=>([(3,(qe_aShed_2 a3)),(9,(qe_aShed_2 r1.1)),(29,(i6 (a3.length:Int))),(30,(i6 s4))]:EL)) (fun s4:Int=>([]:OL)) (fun(x:(Unit)⊕(Unit)) e E' O'=>match x with | (.inl _p)=>e = .ret∧Mat B E' O' ([(8,(i6 39))]:EL) ([]:OL) | (.inr _p)=>e = .exit 0∧Mat B E' O' ([(3,(qe_aShed_2 a3)),(9,(qe_aShed_2 r1.1))]:EL) ([]:OL)) hx23 (mp [] _ _ hB) (fun s4 y h => ?_) (fun e E' O' hR => ?_)
   ·unfold xref43_Check_L0 at h
    refine sr (SQ tt) ?_
    apply AWp.seq
    apply AWp.cond rfl<;>intro hg17
    ·have h:=ite_t hg17 h
     apply AWp.skip
     apply seqQ_n
     apply AWp.seq
     apply AWp.block
     refine sr (SQ tt) ?_
     obtain⟨x18,hx18,h⟩:=bindS h
     obtain⟨x19,hx19,h⟩:=bindS h
     obtain⟨r20,hr20,h⟩:=bindS h
     refine sdS (SQ (fa hx18 (fa hx19 (fa (cl [] (xref42_SameItems_ac x18.fItems x19.fItems r20 hr20)) tt)))) ?_
     apply AWp.cond rfl<;>intro hg21
     ·have h:=ite_t hg21 h
      refine sr (SQ tt) ?_
      apply AWp.ret
      apply blkQ_r
      apply seqQ_r
      obtain rfl:=oi h
      exact⟨(fun hc=>by cases hc),rfl,(mp [] _ _ hB)⟩
     ·have h:=ite_f hg21 h
      apply AWp.skip
      apply blkQ_n
      apply seqQ_n
      refine rg (SQ tt) ?_
      obtain rfl:=oi h
      exact⟨rfl,(mp [] _ _ hB)⟩
    ·have h:=ite_f hg17 h
     apply AWp.exit
     apply seqQ_e
     obtain rfl:=oi h
     exact⟨(fun hc=>by cases hc),rfl,(mp [] _ _ hB)⟩
   ·rcases x22 with _ | _
    ·obtain⟨rfl,hmat⟩:=hR
     apply blkQ_r
     apply seqQ_r
     obtain rfl:=oi h
     exact rt (Mat.trans hmat (mp [] [(8,(i6 39))] [] hB)) [(i6 39)] (Res.tmp (by rfl) (by rfl) Res.nil) rfl
    ·obtain⟨rfl,hmat⟩:=hR
     apply blkQ_hit
     apply seqQ_n
     refine AWp.ghost hmat ?_
     apply AWp.seq
     refine sr (SQ tt) ?_
     apply AWp.block
     obtain⟨x42,hx43,h⟩:=bindS h
     refine lg (xref43_Check_L1 a3 r1) (fun s24:Int=>([(3,(qe_aShed_2 a3)),(9,(qe_aShed_2 r1.1)),(47,(i6 (a3.length:Int))),(48,(i6 s24))]:EL)) (fun s24:Int=>([]:OL)) (fun(x:(Unit)⊕(Unit)) e E' O'=>match x with | (.inl _p)=>e = .ret∧Mat B E' O' ([(8,(i6 41))]:EL) ([]:OL) | (.inr _p)=>e = .exit 2∧Mat B E' O' ([]:EL) ([]:OL)) hx43 (mp [] _ _ hB) (fun s24 y h => ?_) (fun e E' O' hR => ?_)
     ·unfold xref43_Check_L1 at h
      refine sr (SQ tt) ?_
      apply AWp.seq
      apply AWp.cond rfl<;>intro hg37
      ·have h:=ite_t hg37 h
       apply AWp.skip
       apply seqQ_n
       apply AWp.seq
       apply AWp.block
       refine sr (SQ tt) ?_
       obtain⟨x38,hx38,h⟩:=bindS h
       obtain⟨x39,hx39,h⟩:=bindS h
       obtain⟨r40,hr40,h⟩:=bindS h
       refine sdS (SQ (fa hx38 (fa hx39 (fa (cl [] (xref23_SameInts_ac x38.fLoads x39.fLoads r40 hr40)) tt)))) ?_
       apply AWp.cond rfl<;>intro hg41
       ·have h:=ite_t hg41 h
        refine sr (SQ tt) ?_
        apply AWp.ret
        apply blkQ_r
        apply seqQ_r
        obtain rfl:=oi h
        exact⟨(fun hc=>by cases hc),rfl,(mp [] _ _ hB)⟩
       ·have h:=ite_f hg41 h
        apply AWp.skip
        apply blkQ_n
        apply seqQ_n
        refine rg (SQ tt) ?_
        obtain rfl:=oi h
        exact⟨rfl,(mp [] _ _ hB)⟩
      ·have h:=ite_f hg37 h
       apply AWp.exit
       apply seqQ_e
       obtain rfl:=oi h
       exact⟨(fun hc=>by cases hc),rfl,(mp [] _ _ hB)⟩
     ·rcases x42 with _ | _
      ·obtain⟨rfl,hmat⟩:=hR
       apply blkQ_r
       apply seqQ_r
       obtain rfl:=oi h
       exact rt (Mat.trans hmat (mp [] [(8,(i6 41))] [] hB)) [(i6 41)] (Res.tmp (by rfl) (by rfl) Res.nil) rfl
      ·obtain⟨rfl,hmat⟩:=hR
       apply blkQ_hit
       apply seqQ_n
       refine AWp.ghost hmat ?_
       refine sr (SQ tt) ?_
       apply AWp.ret
       obtain rfl:=oi h
       exact rt (kp [(8,_)] [] hB rfl rfl (by rfl)) [(i6 0)] (Res.tmp (by rfl) (by rfl) Res.nil) rfl
def clone_List_5 (a0:(List aItem)):Option ((List aItem)) :=
 chk (decide (a0.length≤LIM)) <|
 some a0
theorem clone_List_5_ac (a0:(List aItem)) (r:(List aItem)) (h:clone_List_5 a0=some r):AC Try.prog 51 [(.d (.list 2 (a0.map e_aItem)))] [] (.sref 900000 2 0 r.length) [(900000,some (.row 63 2 (r.map e_aItem)))]:=by
 refine AC.of_code2 Try.func51 rfl rfl (Nat.le_of_ble_eq_true (by rfl)) fun B hB hN => ?_
 delta clone_List_5 at h
 refine sr (SQ tt) ?_
 obtain⟨hc1,h⟩:=chk_some h
 refine sr (SQ (fa hc1 tt)) ?_
 apply AWp.ret
 obtain rfl:=oi h
 exact rt (mp [(900000,1004)] [(2,(.sref 900000 2 0 a0.length))] [(900000,some (we_aItem_63_2 a0))] hB) [(.sref 900000 2 0 a0.length)] (Res.tmp (by rfl) (by rfl) Res.nil) rfl
def slices_Reverse_L0 (s1:Int×Int×(List aItem)):Option ((((List aItem)))⊕(Int×Int×(List aItem))) :=
 (if (decide (s1.1<s1.2.1))=true then
 (idx s1.2.2 s1.2.1).bind fun _ =>
 (idx s1.2.2 s1.2.1).bind fun x23 =>
 (idx s1.2.2 s1.1).bind fun _ =>
 (idx s1.2.2 s1.1).bind fun x25 =>
 (idx s1.2.2 s1.1).bind fun _ =>
 (idx s1.2.2 s1.1).bind fun _ =>
 (idx (s1.2.2.set s1.1.toNat x23) s1.2.1).bind fun _ =>
 (idx (s1.2.2.set s1.1.toNat x23) s1.2.1).bind fun _ =>
 some (.inr ((w64 (s1.1+1)),(w64 (s1.2.1-1)),((s1.2.2.set s1.1.toNat x23).set s1.2.1.toNat x25)))
 else
 some (.inl s1.2.2))
def slices_Reverse (a0:(List aItem)):Option ((List aItem)) :=
 (loop (slices_Reverse_L0) (0,(w64 ((a0.length:Int)-1)),a0)).bind fun p20 =>
 some p20
theorem slices_Reverse_ac (a0:(List aItem)) (r:(List aItem)) (h:slices_Reverse a0=some r):AC Try.prog 52 [(.sref 0 2 0 a0.length)] [(0,(.row 63 2 (a0.map e_aItem)))] (.tup []) [(0,some (.row 63 2 (r.map e_aItem)))]:=by
 refine ac2 Try.func52 rfl rfl fun B hB hN L => ?_
 delta slices_Reverse at h
 refine sr (SQ tt) ?_
 apply AWp.block
 obtain⟨p20,hx31,h⟩:=bindS h
 refine lg (slices_Reverse_L0) (fun s1:Int×Int×(List aItem)=>([(0,(.sref 0 2 0 s1.2.2.length)),(2,(i6 s1.1)),(3,(i6 s1.2.1))]:EL)) (fun s1:Int×Int×(List aItem)=>([(0,some (we_aItem_63_2 s1.2.2))]:OL)) (fun(p20:((List aItem))) e E' O'=>e = .exit 0∧Mat B E' O' ([]:EL) ([(0,some (we_aItem_63_2 p20))]:OL)) hx31 (mp [] _ _ hB) (fun s1 y h => ?_) (fun e E' O' hR => ?_)
 ·unfold slices_Reverse_L0 at h
  apply AWp.seq
  refine sr (SQ tt) ?_
  apply AWp.cond rfl<;>intro hg21
  ·have h:=ite_t hg21 h
   apply AWp.skip
   apply seqQ_n
   apply AWp.seq
   apply AWp.block
   obtain⟨_,hx22,h⟩:=bindS h
   obtain⟨x23,hx23,h⟩:=bindS h
   obtain⟨_,hx24,h⟩:=bindS h
   obtain⟨x25,hx25,h⟩:=bindS h
   obtain⟨_,hx26,h⟩:=bindS h
   obtain⟨_,hx27,h⟩:=bindS h
   obtain⟨_,hx28,h⟩:=bindS h
   obtain⟨_,hx29,h⟩:=bindS h
   apply dr (c (mv hN (q 0)) rfl (c (mv hN (q 2)) rfl (c (mv hN (q 0)) rfl (c (mv hN (q 3)) rfl (c (mv hN (q 0)) rfl (c (mv hN (q 3)) rfl (c (OpJ.val (v':=(.ptr 0 (s1.2.1.toNat*2) [s1.2.1.toNat])) (by simp) (indexS underlying22 tyS63 (idx_some hx22).1 (by have:=idx_lt hx22;first | (simpa using this) | ((try simp only [List.length_map] at this);(try simp only [List.length_map]);omega)) (L rfl) (q 18) (q 19))) rfl (c (loadR (e:=63) (sz:=2) tyS63 (get_map e_aItem (idx_some hx23).2) (o:=0) (At.here _) (by rfl) (by rfl) (by rfl) (L rfl) (q 20)) rfl (c (mv hN (q 0)) rfl (c (mv hN (q 2)) rfl (c (OpJ.val (v':=(.ptr 0 (s1.1.toNat*2) [s1.1.toNat])) (by simp) (indexS underlying22 tyS63 (idx_some hx24).1 (by have:=idx_lt hx24;first | (simpa using this) | ((try simp only [List.length_map] at this);(try simp only [List.length_map]);omega)) (L rfl) (q 22) (q 23))) rfl (c (loadR (e:=63) (sz:=2) tyS63 (get_map e_aItem (idx_some hx25).2) (o:=0) (At.here _) (by rfl) (by rfl) (by rfl) (L rfl) (q 24)) rfl (c (OpJ.val (v':=(.ptr 0 (s1.1.toNat*2) [s1.1.toNat])) (by simp) (indexS underlying22 tyS63 (idx_some hx26).1 (by have:=idx_lt hx26;first | (simpa using this) | ((try simp only [List.length_map] at this);(try simp only [List.length_map]);omega)) (L rfl) (q 14) (q 15))) rfl (cg (OpJ.storeR (e:=63) (sz:=2) (es':=(s1.2.2.set s1.1.toNat x23).map e_aItem) tyS63 (get_map e_aItem (idx_some hx27).2) (o:=0) (SetAt.here _ _) (by rfl) (map_set _ _ _ _) (by rfl) (by rfl) (q 26) (q 21)) rfl (c (OpJ.val (v':=(.ptr 0 (s1.2.1.toNat*2) [s1.2.1.toNat])) (by simp) (indexS underlying22 tyS63 (idx_some hx28).1 (by have:=idx_lt hx28;first | (simpa using this) | ((try simp only [List.length_map] at this);(try simp only [List.length_map]);omega)) (L rfl) (q 16) (q 17))) rfl (cg (OpJ.storeR (e:=63) (sz:=2) (es':=((s1.2.2.set s1.1.toNat x23).set s1.2.1.toNat x25).map e_aItem) tyS63 (get_map e_aItem (idx_some hx29).2) (o:=0) (SetAt.here _ _) (by rfl) (map_set _ _ _ _) (by rfl) (by rfl) (q 27) (q 25)) rfl cn)))))))))))))))) (by kernel_rfl) (by kernel_rfl)
   apply blkQ_n
   apply seqQ_n
   refine rg (SQ tt) ?_
   obtain rfl:=oi h
   exact⟨rfl,(Mat.trans (mp [] [(0,(.sref 0 2 0 s1.2.2.length)),(2,(i6 (w64 (s1.1+1)))),(3,(i6 (w64 (s1.2.1-1))))] [(0,some (we_aItem_63_2 ((s1.2.2.set s1.1.toNat x23).set s1.2.1.toNat x25)))] hB) (Mat.trans (Mat.lenP (Ts:=[(0,(.sref 0 2 0 (((s1.2.2.set s1.1.toNat x23).set s1.2.1.toNat x25).length)))]) (Bs:=[]) (TwT.cons (x:=(.sref 0 2 0 s1.2.2.length)) (by rfl) (Tw.leaf ⟨_,_,_,_,_,rfl,rfl,(by first | rfl | (simp;done) | (simp;omega) | omega)⟩) TwT.nil) TwB.nil) (mp [] _ _ hB)))⟩
  ·have h:=ite_f hg21 h
   apply AWp.exit
   apply seqQ_e
   obtain rfl:=oi h
   exact⟨(fun hc=>by cases hc),rfl,(mp [] _ _ hB)⟩
 ·obtain⟨rfl,hmat⟩:=hR
  apply blkQ_hit
  obtain rfl:=oi h
  exact⟨.inr rfl,_,_,(Mat.trans hmat (mp [] [] [(0,some (we_aItem_63_2 p20))] hB)),[],Res.nil,rfl,by rfl,by rfl,by rfl⟩
def clone_List_6 (a0:(List Int)):Option ((List Int)) :=
 chk (decide (a0.length*8≤ROOM)) <|
 some a0
theorem clone_List_6_ac (a0:(List Int)) (r:(List Int)) (h:clone_List_6 a0=some r):AC Try.prog 53 [(.d (.list 1 (a0.map (eI .i64))))] [] (.d (.list 1 (r.map (eI .i64)))) []:=by
 refine AC.of_code2 Try.func53 rfl rfl (Nat.le_of_ble_eq_true (by rfl)) fun B hB hN => ?_
 delta clone_List_6 at h
 refine sr (SQ tt) ?_
 obtain⟨hc1,h⟩:=chk_some h
 apply sr (c (mv hN (q 0)) rfl (cg (OpJ.appendN hB underlying23 tyE3 (nm:=1004) (by decide) (ys:=a0.map (eI .i64)) (len:=a0.length) (by simp) (map_sz (f:=(eI .i64)) (fun _=>rfl)) (by rw [List.length_map];exact room_mul hc1) (by rw [List.length_map];exact room_le hc1 (by decide)) (ltN hN rfl) Opd.nils (q 3)) rfl (c (assign (ltN hN rfl) (q 4)) rfl cn)))
 apply AWp.ret
 obtain rfl:=oi h
 exact rt (Mat.trans (Mat.freezeP (n:=1004) (e:=3) (sz:=1) (es:=a0.map (eI .i64)) (Ts:=[(2,(qI_1 a0))]) (Bs:=[]) (by rfl) (TwT.cons (x:=(.sref 1004 1 0 a0.length)) (by rfl) (FrzL.all (by first | rfl | (simp;done) | (simp;omega) | omega)) TwT.nil) TwB.nil) (mp [] [(2,(qI_1 a0))] [] hB)) [(qI_1 a0)] (Res.tmp (by rfl) (by rfl) Res.nil) rfl
def plan_Lookup_L0 (a0:(List aShed)) (a1:(List aItem)) (s4:(List aItem)×Int):Option ((((List Int))⊕(Unit))⊕((List aItem)×Int)) :=
 (if (decide (s4.2<(a0.length:Int)))=true then
 (idx a0 s4.2).bind fun x35 =>
 jn (fun m40:Bool =>
 (if m40=true then
 (clone_List_6 x35.fLoads).bind fun r43 =>
 some (.inl (.inl r43))
 else
 some (.inr (s4.1,(w64 (s4.2+1)))))) (fun j41 =>
 (slices_Equal x35.fItems a1).bind fun r44 =>
 (if r44=true then
 j41 true
 else
 (slices_Equal x35.fItems s4.1).bind fun r46 =>
 j41 r46))
 else
 some (.inl (.inr ())))
def plan_Lookup (a0:(List aShed)) (a1:(List aItem)):Option ((List Int)×Bool) :=
 (clone_List_5 a1).bind fun r1 =>
 (slices_Reverse r1).bind fun r2 =>
 chk (decide (r2.length=r1.length)) <|
 (loop (plan_Lookup_L0 a0 a1) (((r2.drop 0).take r1.length),0)).bind fun x47=>match x47 with
 | (.inl p32) =>
  some (p32,true)
 | (.inr _) =>
  some (([]:List Int),false)
theorem plan_Lookup_ac (a0:(List aShed)) (a1:(List aItem)) (r:(List Int)×Bool) (h:plan_Lookup a0 a1=some r):AC Try.prog 26 [(.d (.list 2 (a0.map e_aShed))),(.d (.list 2 (a1.map e_aItem)))] [] (.tup [(.d (.list 1 (r.1.map (eI .i64)))),(.d (.bool r.2))]) []:=by
 refine ac2 Try.func26 rfl rfl fun B hB hN L => ?_
 delta plan_Lookup at h
 refine sr (SQ tt) ?_
 apply AWp.seq
 obtain⟨r1,hr1,h⟩:=bindS h
 refine rg (SQ (fa (cl [(900000,100000)] (clone_List_5_ac a1 r1 hr1)) tt)) ?_
 apply seqQ_n
 refine AWp.ghost (mp [] [(0,(qe_aShed_2 a0)),(1,(qe_aItem_2 a1)),(6,(.sref 100000 2 0 r1.length))] [(100000,some (we_aItem_63_2 r1))] hB) ?_
 apply AWp.seq
 obtain⟨r2,hr2,h⟩:=bindS h
 obtain⟨hc3,h⟩:=chk_some h
 have lhc3:=of_decide_eq_true hc3
 have hc3_o:=of_decide_eq_true hc3
 refine rg (SQ (fa (cl [(0,100000)] (slices_Reverse_ac r1 r2 hr2)) tt)) ?_
 apply seqQ_n
 refine AWp.ghost (mp [] [(0,(qe_aShed_2 a0)),(1,(qe_aItem_2 a1)),(6,(.sref 100000 2 0 r1.length))] [(100000,some (we_aItem_63_2 r2))] hB) ?_
 apply AWp.seq
 refine sr (SQ tt) ?_
 apply AWp.block
 obtain⟨x47,hx48,h⟩:=bindS h
 refine lg (plan_Lookup_L0 a0 a1) (fun s4:(List aItem)×Int=>([(1,(qe_aItem_2 a1)),(6,(qe_aItem_2 s4.1)),(13,(qe_aShed_2 a0)),(14,(i6 (a0.length:Int))),(15,(i6 s4.2))]:EL)) (fun s4:(List aItem)×Int=>([]:OL)) (fun(x:((List Int))⊕(Unit)) e E' O'=>match x with | (.inl p32)=>e = .ret∧Mat B E' O' ([(4,(qI_1 p32)),(5,(bo true))]:EL) ([]:OL) | (.inr _p)=>e = .exit 0∧Mat B E' O' ([]:EL) ([]:OL)) hx48 (Mat.trans (Mat.freezeP (n:=100000) (e:=63) (sz:=2) (es:=r2.map e_aItem) (Ts:=[(6,(qe_aItem_2 ((r2.drop 0).take r1.length)))]) (Bs:=[]) (by rfl) (TwT.cons (x:=(.sref 100000 2 0 r1.length)) (by rfl) (FrzL.cut (fs:=((r2.drop 0).take r1.length).map e_aItem) (by simp only [List.length_map,List.length_append,List.length_take,List.length_drop,List.length_replicate,List.length_set];omega) (by first | rw [List.map_drop,List.map_take] | (simp [List.map_take,List.map_drop];done) | simp [List.take_of_length_le])) TwT.nil) TwB.nil) (mp [] _ _ hB)) (fun s4 y h => ?_) (fun e E' O' hR => ?_)
 ·unfold plan_Lookup_L0 at h
  refine sr (SQ tt) ?_
  apply AWp.seq
  apply AWp.cond rfl<;>intro hg34
  ·have h:=ite_t hg34 h
   apply AWp.skip
   apply seqQ_n
   apply AWp.seq
   apply AWp.block
   obtain⟨x35,hx35,h⟩:=bindS h
   refine sr (SQ (fa hx35 tt)) ?_
   apply AWp.seq
   refine AWp.cut h (fun m40:Bool=>([(1,(qe_aItem_2 a1)),(6,(qe_aItem_2 s4.1)),(8,(pt 1008)),(13,(qe_aShed_2 a0)),(14,(i6 (a0.length:Int))),(15,(i6 s4.2)),(28,(bo m40))]:EL)) (fun m40:Bool=>([(1008,bd 53 (e_aShed x35))]:OL)) (fun m40 h E' O' hmat => ?_) (fun j41 hjj41 h => ?_)
   ·apply seqQ_n
    refine AWp.ghost hmat ?_
    apply AWp.cond rfl<;>intro hg42
    ·have h:=ite_t hg42 h
     obtain⟨r43,hr43,h⟩:=bindS h
     refine sr (SQ (fa (cl [] (clone_List_6_ac x35.fLoads r43 hr43)) tt)) ?_
     apply AWp.ret
     apply blkQ_r
     apply seqQ_r
     obtain rfl:=oi h
     exact⟨(fun hc=>by cases hc),rfl,(mp [] _ _ hB)⟩
    ·have h:=ite_f hg42 h
     apply AWp.skip
     apply blkQ_n
     apply seqQ_n
     refine rg (SQ tt) ?_
     obtain rfl:=oi h
     exact⟨rfl,(mp [] _ _ hB)⟩
   ·obtain⟨r44,hr44,h⟩:=bindS h
    rcases bft r44 with hg45 | hg45
    ·have h:=ite_t hg45 h
     refine rg (SQ (fa (cl [] (slices_Equal_ac x35.fItems a1 r44 hr44)) (fa hg45 tt))) ?_
     exact hjj41 _ h _ _ (mp [] _ _ hB)
    ·have h:=ite_f hg45 h
     obtain⟨r46,hr46,h⟩:=bindS h
     refine rg (SQ (fa (cl [] (slices_Equal_ac x35.fItems a1 r44 hr44)) (fa hg45 (fa (cl [] (slices_Equal_ac x35.fItems s4.1 r46 hr46)) tt)))) ?_
     exact hjj41 _ h _ _ (mp [] _ _ hB)
  ·have h:=ite_f hg34 h
   apply AWp.exit
   apply seqQ_e
   obtain rfl:=oi h
   exact⟨(fun hc=>by cases hc),rfl,(mp [] _ _ hB)⟩
 ·rcases x47 with p32 | _
  ·obtain⟨rfl,hmat⟩:=hR
   apply blkQ_r
   apply seqQ_r
   obtain rfl:=oi h
   exact rt (Mat.trans hmat (mp [] [(4,(qI_1 p32)),(5,(bo true))] [] hB)) [(qI_1 p32),(bo true)] (Res.tmp (by rfl) (by rfl) (Res.tmp (by rfl) (by rfl) Res.nil)) rfl
  ·obtain⟨rfl,hmat⟩:=hR
   apply blkQ_hit
   apply seqQ_n
   refine AWp.ghost hmat ?_
   refine sr (SQ tt) ?_
   apply AWp.ret
   obtain rfl:=oi h
   exact rt (Mat.trans (Mat.coeP (Ts:=[(4,(qI_1 ([]:List Int)))]) (Bs:=[]) (TwT.cons (x:=.nils) (by rfl) (Tw.leaf ⟨_,(Co.nils 1),rfl⟩) TwT.nil) TwB.nil) (mp [] [(4,(qI_1 ([]:List Int))),(5,(bo false))] [] hB)) [(qI_1 ([]:List Int)),(bo false)] (Res.tmp (by rfl) (by rfl) (Res.tmp (by rfl) (by rfl) Res.nil)) rfl
def xref43_Lookup_L0 (a1:(List aItem)) (s1:Int×(List aItem)):Option ((((List aItem)))⊕(Int×(List aItem))) :=
 (if (decide (0≤s1.1))=true then
 (idx a1 s1.1).bind fun x10 =>
 chk (decide ((s1.2++[x10]).length≤LIM)) <|
 some (.inr ((w64 (s1.1-1)),(s1.2++[x10])))
 else
 some (.inl s1.2))
def xref43_Lookup_L1 (a0:(List aShed)) (a1:(List aItem)) (p8:(List aItem)) (s14:Int):Option ((((List Int))⊕(Unit))⊕(Int)) :=
 (if (decide (s14<(a0.length:Int)))=true then
 (idx a0 s14).bind fun x45 =>
 jn (fun m50:Bool =>
 (if m50=true then
 chk (decide (x45.fLoads.length*8≤ROOM)) <|
 some (.inl (.inl x45.fLoads))
 else
 some (.inr (w64 (s14+1))))) (fun j51 =>
 (xref42_SameItems x45.fItems a1).bind fun r54 =>
 (if r54=true then
 j51 true
 else
 (xref42_SameItems x45.fItems p8).bind fun r56 =>
 j51 r56))
 else
 some (.inl (.inr ())))
def xref43_Lookup (a0:(List aShed)) (a1:(List aItem)):Option ((List Int)×Bool) :=
 (loop (xref43_Lookup_L0 a1) ((w64 ((a1.length:Int)-1)),([]:List aItem))).bind fun p8 =>
 (loop (xref43_Lookup_L1 a0 a1 p8) 0).bind fun x57=>match x57 with
 | (.inl p42) =>
  some (p42,true)
 | (.inr _) =>
  some (([]:List Int),false)
theorem xref43_Lookup_ac (a0:(List aShed)) (a1:(List aItem)) (r:(List Int)×Bool) (h:xref43_Lookup a0 a1=some r):AC Try.prog 27 [(.d (.list 2 (a0.map e_aShed))),(.d (.list 2 (a1.map e_aItem)))] [] (.tup [(.d (.list 1 (r.1.map (eI .i64)))),(.d (.bool r.2))]) []:=by
 refine ac2 Try.func27 rfl rfl fun B hB hN L => ?_
 delta xref43_Lookup at h
 refine sr (SQ tt) ?_
 refine sr (SQ tt) ?_
 apply AWp.seq
 refine sr (SQ tt) ?_
 apply AWp.block
 obtain⟨p8,hx13,h⟩:=bindS h
 refine lg (xref43_Lookup_L0 a1) (fun s1:Int×(List aItem)=>([(0,(qe_aShed_2 a0)),(1,(qe_aItem_2 a1)),(6,(.sref 3006 2 0 s1.2.length)),(7,(i6 s1.1))]:EL)) (fun s1:Int×(List aItem)=>([(3006,some (we_aItem_63_2 s1.2))]:OL)) (fun(p8:((List aItem))) e E' O'=>e = .exit 0∧Mat B E' O' ([(0,(qe_aShed_2 a0)),(1,(qe_aItem_2 a1)),(6,(.sref 3006 2 0 p8.length))]:EL) ([(3006,some (we_aItem_63_2 p8))]:OL)) hx13 (Mat.trans (Mat.beginP (n:=3006) (e:=63) (sz:=2) (Ts:=[(6,(.sref 3006 2 0 0))]) (Bs:=[]) hB (by decide) (by rfl) (by decide) (TwT.cons (x:=.nils) (by rfl) (Tw.leaf ⟨rfl,rfl⟩) TwT.nil) TwB.nil) (mp [] _ _ hB)) (fun s1 y h => ?_) (fun e E' O' hR => ?_)
 ·unfold xref43_Lookup_L0 at h
  apply AWp.seq
  refine sr (SQ tt) ?_
  apply AWp.cond rfl<;>intro hg9
  ·have h:=ite_t hg9 h
   apply AWp.skip
   apply seqQ_n
   apply AWp.seq
   apply AWp.block
   obtain⟨_,hx10,h⟩:=bindS h
   obtain⟨hc11,h⟩:=chk_some h
   refine rg (SQ (fa hx10 (fa hc11 tt))) ?_
   apply blkQ_n
   apply seqQ_n
   refine rg (SQ tt) ?_
   obtain rfl:=oi h
   exact⟨rfl,(mp [(3006,1023)] _ _ hB)⟩
  ·have h:=ite_f hg9 h
   apply AWp.exit
   apply seqQ_e
   obtain rfl:=oi h
   exact⟨(fun hc=>by cases hc),rfl,(mp [] _ _ hB)⟩
 ·obtain⟨rfl,hmat⟩:=hR
  apply blkQ_hit
  apply seqQ_n
  refine AWp.ghost hmat ?_
  apply AWp.seq
  refine sr (SQ tt) ?_
  apply AWp.block
  obtain⟨x57,hx58,h⟩:=bindS h
  refine lg (xref43_Lookup_L1 a0 a1 p8) (fun s14:Int=>([(1,(qe_aItem_2 a1)),(6,(qe_aItem_2 p8)),(24,(qe_aShed_2 a0)),(25,(i6 (a0.length:Int))),(26,(i6 s14))]:EL)) (fun s14:Int=>([]:OL)) (fun(x:((List Int))⊕(Unit)) e E' O'=>match x with | (.inl p42)=>e = .ret∧Mat B E' O' ([(4,(.sref 1042 1 0 p42.length)),(5,(bo true))]:EL) ([(1042,some (wI_3_1 p42))]:OL) | (.inr _p)=>e = .exit 2∧Mat B E' O' ([]:EL) ([]:OL)) hx58 (Mat.trans (Mat.freezeP (n:=3006) (e:=63) (sz:=2) (es:=p8.map e_aItem) (Ts:=[(6,(qe_aItem_2 p8))]) (Bs:=[]) (by rfl) (TwT.cons (x:=(.sref 3006 2 0 p8.length)) (by rfl) (FrzL.all (by first | rfl | (simp;done) | (simp;omega) | omega)) TwT.nil) TwB.nil) (mp [] _ _ hB)) (fun s14 y h => ?_) (fun e E' O' hR => ?_)
  ·unfold xref43_Lookup_L1 at h
   refine sr (SQ tt) ?_
   apply AWp.seq
   apply AWp.cond rfl<;>intro hg44
   ·have h:=ite_t hg44 h
    apply AWp.skip
    apply seqQ_n
    apply AWp.seq
    apply AWp.block
    obtain⟨x45,hx45,h⟩:=bindS h
    refine sr (SQ (fa hx45 tt)) ?_
    apply AWp.seq
    refine AWp.cut h (fun m50:Bool=>([(1,(qe_aItem_2 a1)),(6,(qe_aItem_2 p8)),(9,(pt 1009)),(24,(qe_aShed_2 a0)),(25,(i6 (a0.length:Int))),(26,(i6 s14)),(39,(bo m50))]:EL)) (fun m50:Bool=>([(1009,bd 53 (e_aShed x45))]:OL)) (fun m50 h E' O' hmat => ?_) (fun j51 hjj51 h => ?_)
    ·apply seqQ_n
     refine AWp.ghost hmat ?_
     apply AWp.cond rfl<;>intro hg52
     ·have h:=ite_t hg52 h
      obtain⟨hc53,h⟩:=chk_some h
      apply sr (c (fo 1009 1 [1] hN underlying53 1 tyS23 (q 9)) rfl (c (la hN 53 tyS23 (q 40)) rfl (cg (OpJ.appendN hB underlying23 tyE3 (nm:=1042) (by decide) (ys:=x45.fLoads.map (eI .i64)) (len:=x45.fLoads.length) (by simp) (map_sz (f:=(eI .i64)) (fun _=>rfl)) (by rw [List.length_map];exact room_mul hc53) (by rw [List.length_map];exact room_le hc53 (by decide)) (L rfl) Opd.nils (q 41)) rfl (c (assign (L rfl) (q 42)) rfl (c (assign (L rfl) (Opd.bool true)) rfl cn)))))
      apply AWp.ret
      apply blkQ_r
      apply seqQ_r
      obtain rfl:=oi h
      exact⟨(fun hc=>by cases hc),rfl,(mp [] _ _ hB)⟩
     ·have h:=ite_f hg52 h
      apply AWp.skip
      apply blkQ_n
      apply seqQ_n
      refine rg (SQ tt) ?_
      obtain rfl:=oi h
      exact⟨rfl,(mp [] _ _ hB)⟩
    ·obtain⟨r54,hr54,h⟩:=bindS h
     rcases bft r54 with hg55 | hg55
     ·have h:=ite_t hg55 h
      refine rg (SQ (fa (cl [] (xref42_SameItems_ac x45.fItems a1 r54 hr54)) (fa hg55 tt))) ?_
      exact hjj51 _ h _ _ (mp [] _ _ hB)
     ·have h:=ite_f hg55 h
      obtain⟨r56,hr56,h⟩:=bindS h
      refine rg (SQ (fa (cl [] (xref42_SameItems_ac x45.fItems a1 r54 hr54)) (fa hg55 (fa (cl [] (xref42_SameItems_ac x45.fItems p8 r56 hr56)) tt)))) ?_
      exact hjj51 _ h _ _ (mp [] _ _ hB)
   ·have h:=ite_f hg44 h
    apply AWp.exit
    apply seqQ_e
    obtain rfl:=oi h
    exact⟨(fun hc=>by cases hc),rfl,(mp [] _ _ hB)⟩
  ·rcases x57 with p42 | _
   ·obtain⟨rfl,hmat⟩:=hR
    apply blkQ_r
    apply seqQ_r
    obtain rfl:=oi h
    exact rt (Mat.trans hmat (Mat.trans (Mat.freezeP (n:=1042) (e:=3) (sz:=1) (es:=p42.map (eI .i64)) (Ts:=[(4,(qI_1 p42))]) (Bs:=[]) (by rfl) (TwT.cons (x:=(.sref 1042 1 0 p42.length)) (by rfl) (FrzL.all (by first | rfl | (simp;done) | (simp;omega) | omega)) TwT.nil) TwB.nil) (mp [] [(4,(qI_1 p42)),(5,(bo true))] [] hB))) [(qI_1 p42),(bo true)] (Res.tmp (by rfl) (by rfl) (Res.tmp (by rfl) (by rfl) Res.nil)) rfl
   ·obtain⟨rfl,hmat⟩:=hR
    apply blkQ_hit
    apply seqQ_n
    refine AWp.ghost hmat ?_
    refine sr (SQ tt) ?_
    apply AWp.ret
    obtain rfl:=oi h
    exact rt (Mat.trans (Mat.coeP (Ts:=[(4,(qI_1 ([]:List Int)))]) (Bs:=[]) (TwT.cons (x:=.nils) (by rfl) (Tw.leaf ⟨_,(Co.nils 1),rfl⟩) TwT.nil) TwB.nil) (mp [] [(4,(qI_1 ([]:List Int))),(5,(bo false))] [] hB)) [(qI_1 ([]:List Int)),(bo false)] (Res.tmp (by rfl) (by rfl) (Res.tmp (by rfl) (by rfl) Res.nil)) rfl
def xlaw43_PlanBuilds_L1 (x138:(List aShed)) (x142:aShed) (s143:Int):Option (((Unit)⊕(Unit))⊕(Int)) :=
 (if (decide (s143<(([x142.fItems,[(aItem.mk false 1),(aItem.mk false 0)],([]:List aItem)]:List (List aItem)).length:Int)))=true then
 (idx ([x142.fItems,[(aItem.mk false 1),(aItem.mk false 0)],([]:List aItem)]:List (List aItem)) s143).bind fun x169 =>
 (plan_Lookup x138 x169).bind fun r170 =>
 (xref43_Lookup x138 x169).bind fun r171 =>
 jn (fun m174:Bool =>
 (if m174=true then
 some (.inl (.inl ()))
 else
 some (.inr (w64 (s143+1))))) (fun j175 =>
 (if (r170.2 != r171.2)=true then
 j175 true
 else
 (xref23_SameInts r170.1 r171.1).bind fun r178 =>
 j175 (!r178)))
 else
 some (.inl (.inr ())))
def xlaw43_PlanBuilds_L0 (a0:(List aShed)) (r4:aFabric×(List aLoad)×(List Int)×exchangepointmill_Deck) (r6:(List aShed)×Int) (r13:Int) (m42:(List aShed)) (s44:Int):Option (((Unit)⊕(Unit))⊕(Int)) :=
 (if (decide (s44<(([r6.1,m42,a0]:List (List aShed)).length:Int)))=true then
 (idx ([r6.1,m42,a0]:List (List aShed)) s44).bind fun x138 =>
 (plan_Check r4.1 r4.2.1 r4.2.2.1 x138).bind fun r139 =>
 (xref43_Check r4.1 r4.2.1 r4.2.2.1 x138).bind fun r140 =>
 (if (r139 != r140)=true then
 some (.inl (.inl ()))
 else
 (idx r6.1 r13).bind fun x142 =>
 (loop (xlaw43_PlanBuilds_L1 x138 x142) 0).bind fun x179=>match x179 with
 | (.inl _) =>
  some (.inl (.inl ()))
 | (.inr _) =>
  some (.inr (w64 (s44+1))))
 else
 some (.inl (.inr ())))
def xlaw43_PlanBuilds (a0:(List aShed)) (a1:(List Int)) (a2:Int) (a3:Int):Option (Bool) :=
 (if (decide (60<(a0.length:Int)))=true then
 (xlaw43_awake).bind fun r2 =>
 some r2
 else
 (exchangepointmill_New a1).bind fun r3 =>
 (xlaw43_scene r3).bind fun r4 =>
 (plan_Build r4.1 r4.2.1 r4.2.2.1).bind fun r5 =>
 (xref43_Build r4.1 r4.2.1 r4.2.2.1).bind fun r6 =>
 jn (fun m9:Bool =>
 (if m9=true then
 some false
 else
 chk (decide (r6.1.length≤LIM)) <|
 (exchangepointmill_Mod a3 (r6.1.length:Int)).bind fun r13 =>
 (exchangepointmill_Mod a2 3).bind fun r14 =>
 jn (fun m42:(List aShed) =>
 (loop (xlaw43_PlanBuilds_L0 a0 r4 r6 r13 m42) 0).bind fun x181=>match x181 with
 | (.inl _) =>
  some false
 | (.inr _) =>
  (xlaw43_awake).bind fun r183 =>
  some r183) (fun j43 =>
 (if (r14==0)=true then
 (idx r6.1 r13).bind fun _ =>
 (idx r6.1 r13).bind fun x186 =>
 chk (decide (x186.fLoads.length≤LIM)) <|
 chk (decide ((x186.fLoads++([99]:List Int)).length≤LIM)) <|
 (idx r6.1 r13).bind fun _ =>
 (idx r6.1 r13).bind fun x190 =>
 j43 (r6.1.set r13.toNat (aShed.mk x190.fItems (x186.fLoads++([99]:List Int))))
 else
 (if (r14==1)=true then
 chk ((decide (0≤r13)&&decide (0≤r13.toNat)&&decide (r13.toNat≤r6.1.length))) <|
 chk ((decide (0≤(w64 (r13+1)))&&decide ((w64 (r13+1)).toNat≤r6.1.length)&&decide (r6.1.length≤r6.1.length))) <|
 chk (decide (r13.toNat<(w64 (r13+1)).toNat)) <|
 chk (decide ((w64 (r13+1)).toNat≤r6.1.length)) <|
 j43 (r6.1.take r13.toNat++r6.1.drop ((w64 (r13+1)).toNat))
 else
 (if (r14==2)=true then
 (idx r6.1 r13).bind fun _ =>
 (idx r6.1 r13).bind fun x198 =>
 chk (decide (([(aItem.mk false 50)]++x198.fItems).length≤LIM)) <|
 (idx r6.1 r13).bind fun _ =>
 (idx r6.1 r13).bind fun x201 =>
 j43 (r6.1.set r13.toNat (aShed.mk ([(aItem.mk false 50)]++x198.fItems) x201.fLoads))
 else
 j43 r6.1)))))) (fun j10 =>
 (if (r5.2 != r6.2)=true then
 j10 true
 else
 (xref43_Same r5.1 r6.1).bind fun r203 =>
 j10 ((!r203) || ((r6.1.length:Int)==0)))))
theorem xlaw43_PlanBuilds_ac (a0:(List aShed)) (a1:(List Int)) (a2:Int) (a3:Int) (r:Bool) (h:xlaw43_PlanBuilds a0 a1 a2 a3=some r):AC Try.prog 6 [(.d (.list 2 (a0.map e_aShed))),(.d (.list 1 (a1.map (eI .i64)))),(.d (.int .i64 a2)),(.d (.int .i64 a3))] [] (.d (.bool r)) []:=by
 refine ac2 Try.func6 rfl rfl fun B hB hN L => ?_
 delta xlaw43_PlanBuilds at h
 refine sr (SQ tt) ?_
 apply AWp.seq
 refine sr (SQ tt) ?_
 apply AWp.cond rfl<;>intro hg1
 ·have h:=ite_t hg1 h
  obtain⟨r2,hr2,h⟩:=bindS h
  refine sr (SQ (fa (cl [] (xlaw43_awake_ac r2 hr2)) tt)) ?_
  apply AWp.ret
  apply seqQ_r
  obtain rfl:=oi h
  exact rt (kp [(8,_)] [] hB rfl rfl (by rfl)) [(bo r2)] (Res.tmp (by rfl) (by rfl) Res.nil) rfl
 ·have h:=ite_f hg1 h
  apply AWp.skip
  apply seqQ_n
  apply AWp.seq
  obtain⟨r3,hr3,h⟩:=bindS h
  refine rg (SQ (fa (cl [(1005,100100)] (exchangepointmill_New_ac a1 r3 hr3)) tt)) ?_
  apply seqQ_n
  refine AWp.ghost (mp [] [(0,(qe_aShed_2 a0)),(2,(i6 a2)),(3,(i6 a3)),(9,(pt 100100))] [(100100,bd 68 (e_exchangepointmill_Deck r3))] hB) ?_
  apply AWp.seq
  obtain⟨r4,hr4,h⟩:=bindS h
  refine rg (SQ (fa (cl [(0,100100)] (xlaw43_scene_ac r3 r4 hr4)) tt)) ?_
  apply seqQ_n
  refine AWp.ghost (mp [] [(0,(qe_aShed_2 a0)),(2,(i6 a2)),(3,(i6 a3)),(10,(pt 1010)),(11,(qe_aLoad_3 r4.2.1)),(12,(qI_1 r4.2.2.1))] [(1010,bd 30 (e_aFabric r4.1))] hB) ?_
  obtain⟨r5,hr5,h⟩:=bindS h
  refine sr (SQ (fa (cl [] (plan_Build_ac r4.1 r4.2.1 r4.2.2.1 r5 hr5)) tt)) ?_
  obtain⟨r6,hr6,h⟩:=bindS h
  refine sr (SQ (fa (cl [] (xref43_Build_ac r4.1 r4.2.1 r4.2.2.1 r6 hr6)) tt)) ?_
  apply AWp.seq
  apply AWp.seq
  refine AWp.cut h (fun m9:Bool=>([(0,(qe_aShed_2 a0)),(2,(i6 a2)),(3,(i6 a3)),(10,(pt 1010)),(11,(qe_aLoad_3 r4.2.1)),(12,(qI_1 r4.2.2.1)),(15,(qe_aShed_2 r6.1)),(66,(bo m9))]:EL)) (fun m9:Bool=>([(1010,bd 30 (e_aFabric r4.1))]:OL)) (fun m9 h E' O' hmat => ?_) (fun j10 hjj10 h => ?_)
  ·apply seqQ_n
   refine AWp.ghost hmat ?_
   apply AWp.cond rfl<;>intro hg11
   ·have h:=ite_t hg11 h
    refine sr (SQ tt) ?_
    apply AWp.ret
    apply seqQ_r
    obtain rfl:=oi h
    exact rt (kp [(8,_)] [] hB rfl rfl (by rfl)) [(bo false)] (Res.tmp (by rfl) (by rfl) Res.nil) rfl
   ·have h:=ite_f hg11 h
    apply AWp.skip
    apply seqQ_n
    obtain⟨hc12,h⟩:=chk_some h
    refine sr (SQ (fa hc12 tt)) ?_
    obtain⟨r13,hr13,h⟩:=bindS h
    refine sr (SQ (fa (cl [] (exchangepointmill_Mod_ac a3 (r6.1.length:Int) r13 hr13)) tt)) ?_
    apply AWp.seq
    obtain⟨r14,hr14,h⟩:=bindS h
    refine sr (SQ (fa (cl [] (exchangepointmill_Mod_ac a2 3 r14 hr14)) tt)) ?_
    apply AWp.block
    refine sr (SQ tt) ?_
    refine gh [(0,_),(10,_),(11,_),(12,_),(15,_),(17,_),(18,_),(74,_),(75,_)] [(1010,some _),(1068,some _)] hB rfl rfl (by rfl) ?_
    refine AWp.cut h (fun m42:(List aShed)=>([(0,(qe_aShed_2 a0)),(10,(pt 1010)),(11,(qe_aLoad_3 r4.2.1)),(12,(qI_1 r4.2.2.1)),(15,(qe_aShed_2 r6.1)),(17,(.sref 1068 2 0 m42.length)),(18,(i6 r13))]:EL)) (fun m42:(List aShed)=>([(1010,bd 30 (e_aFabric r4.1)),(1068,some (we_aShed_53_2 m42))]:OL)) (fun m42 h E' O' hmat => ?_) (fun j43 hjj43 h => ?_)
    ·apply blkQ_n
     apply seqQ_n
     refine AWp.ghost hmat ?_
     apply AWp.seq
     apply AWp.seq
     refine AWp.ghost (Mat.freezeP (n:=1068) (e:=53) (sz:=2) (es:=m42.map e_aShed) (Ts:=[(17,(qe_aShed_2 m42))]) (Bs:=[]) (by rfl) (TwT.cons (x:=(.sref 1068 2 0 m42.length)) (by rfl) (FrzL.all (by first | rfl | (simp;done) | (simp;omega) | omega)) TwT.nil) TwB.nil) ?_
     refine rg (SQ tt) ?_
     apply seqQ_n
     apply AWp.block
     obtain⟨x181,hx182,h⟩:=bindS h
     refine lg (xlaw43_PlanBuilds_L0 a0 r4 r6 r13 m42) (fun s44:Int=>([(10,(pt 1010)),(11,(qe_aLoad_3 r4.2.1)),(12,(qI_1 r4.2.2.1)),(15,(qe_aShed_2 r6.1)),(18,(i6 r13)),(116,(.d (.list 1 (([r6.1,m42,a0]:List (List aShed)).map e_LeapiShed)))),(117,(i6 (([r6.1,m42,a0]:List (List aShed)).length:Int))),(118,(i6 s44))]:EL)) (fun s44:Int=>([(1010,bd 30 (e_aFabric r4.1))]:OL)) (fun(x:(Unit)⊕(Unit)) e E' O'=>match x with | (.inl _p)=>e = .ret∧Mat B E' O' ([(8,(bo false))]:EL) ([]:OL) | (.inr _p)=>e = .exit 1∧Mat B E' O' ([]:EL) ([]:OL)) hx182 (mp [] _ _ hB) (fun s44 y h => ?_) (fun e E' O' hR => ?_)
     ·unfold xlaw43_PlanBuilds_L0 at h
      refine sr (SQ tt) ?_
      apply AWp.seq
      apply AWp.cond rfl<;>intro hg137
      ·have h:=ite_t hg137 h
       apply AWp.skip
       apply seqQ_n
       apply AWp.seq
       apply AWp.block
       obtain⟨x138,hx138,h⟩:=bindS h
       refine sr (SQ (fa hx138 tt)) ?_
       apply AWp.seq
       obtain⟨r139,hr139,h⟩:=bindS h
       obtain⟨r140,hr140,h⟩:=bindS h
       refine sdS (SQ (fa (cl [] (plan_Check_ac r4.1 r4.2.1 r4.2.2.1 x138 r139 hr139)) (fa (cl [] (xref43_Check_ac r4.1 r4.2.1 r4.2.2.1 x138 r140 hr140)) tt))) ?_
       apply AWp.cond rfl<;>intro hg141
       ·have h:=ite_t hg141 h
        refine sr (SQ tt) ?_
        apply AWp.ret
        apply seqQ_r
        apply blkQ_r
        apply seqQ_r
        obtain rfl:=oi h
        exact⟨(fun hc=>by cases hc),rfl,(mp [] _ _ hB)⟩
       ·have h:=ite_f hg141 h
        apply AWp.skip
        apply seqQ_n
        obtain⟨x142,hx142,h⟩:=bindS h
        refine sr (SQ (fa hx142 tt)) ?_
        apply AWp.block
        obtain⟨x179,hx180,h⟩:=bindS h
        refine lg (xlaw43_PlanBuilds_L1 x138 x142) (fun s143:Int=>([(10,(pt 1010)),(11,(qe_aLoad_3 r4.2.1)),(12,(qI_1 r4.2.2.1)),(15,(qe_aShed_2 r6.1)),(18,(i6 r13)),(20,(qe_aShed_2 x138)),(116,(.d (.list 1 (([r6.1,m42,a0]:List (List aShed)).map e_LeapiShed)))),(117,(i6 (([r6.1,m42,a0]:List (List aShed)).length:Int))),(118,(i6 s44)),(141,(.d (.list 1 (([x142.fItems,[(aItem.mk false 1),(aItem.mk false 0)],([]:List aItem)]:List (List aItem)).map e_LeapiItem)))),(142,(i6 (([x142.fItems,[(aItem.mk false 1),(aItem.mk false 0)],([]:List aItem)]:List (List aItem)).length:Int))),(143,(i6 s143))]:EL)) (fun s143:Int=>([(1010,bd 30 (e_aFabric r4.1))]:OL)) (fun(x:(Unit)⊕(Unit)) e E' O'=>match x with | (.inl _p)=>e = .ret∧Mat B E' O' ([(8,(bo false))]:EL) ([]:OL) | (.inr _p)=>e = .exit 3∧Mat B E' O' ([(10,(pt 1010)),(11,(qe_aLoad_3 r4.2.1)),(12,(qI_1 r4.2.2.1)),(15,(qe_aShed_2 r6.1)),(18,(i6 r13)),(116,(.d (.list 1 (([r6.1,m42,a0]:List (List aShed)).map e_LeapiShed)))),(117,(i6 (([r6.1,m42,a0]:List (List aShed)).length:Int))),(118,(i6 s44))]:EL) ([(1010,bd 30 (e_aFabric r4.1))]:OL)) hx180 (mp [] _ _ hB) (fun s143 y h => ?_) (fun e E' O' hR => ?_)
        ·unfold xlaw43_PlanBuilds_L1 at h
         refine sr (SQ tt) ?_
         apply AWp.seq
         apply AWp.cond rfl<;>intro hg168
         ·have h:=ite_t hg168 h
          apply AWp.skip
          apply seqQ_n
          apply AWp.seq
          apply AWp.block
          obtain⟨x169,hx169,h⟩:=bindS h
          refine sr (SQ (fa hx169 tt)) ?_
          obtain⟨r170,hr170,h⟩:=bindS h
          refine sr (SQ (fa (cl [] (plan_Lookup_ac x138 x169 r170 hr170)) tt)) ?_
          obtain⟨r171,hr171,h⟩:=bindS h
          refine sr (SQ (fa (cl [] (xref43_Lookup_ac x138 x169 r171 hr171)) tt)) ?_
          apply AWp.seq
          refine AWp.cut h (fun m174:Bool=>([(10,(pt 1010)),(11,(qe_aLoad_3 r4.2.1)),(12,(qI_1 r4.2.2.1)),(15,(qe_aShed_2 r6.1)),(18,(i6 r13)),(20,(qe_aShed_2 x138)),(116,(.d (.list 1 (([r6.1,m42,a0]:List (List aShed)).map e_LeapiShed)))),(117,(i6 (([r6.1,m42,a0]:List (List aShed)).length:Int))),(118,(i6 s44)),(141,(.d (.list 1 (([x142.fItems,[(aItem.mk false 1),(aItem.mk false 0)],([]:List aItem)]:List (List aItem)).map e_LeapiItem)))),(142,(i6 (([x142.fItems,[(aItem.mk false 1),(aItem.mk false 0)],([]:List aItem)]:List (List aItem)).length:Int))),(143,(i6 s143)),(167,(bo m174))]:EL)) (fun m174:Bool=>([(1010,bd 30 (e_aFabric r4.1))]:OL)) (fun m174 h E' O' hmat => ?_) (fun j175 hjj175 h => ?_)
          ·apply seqQ_n
           refine AWp.ghost hmat ?_
           apply AWp.cond rfl<;>intro hg176
           ·have h:=ite_t hg176 h
            refine sr (SQ tt) ?_
            apply AWp.ret
            apply blkQ_r
            apply seqQ_r
            obtain rfl:=oi h
            exact⟨(fun hc=>by cases hc),rfl,(mp [] _ _ hB)⟩
           ·have h:=ite_f hg176 h
            apply AWp.skip
            apply blkQ_n
            apply seqQ_n
            refine rg (SQ tt) ?_
            obtain rfl:=oi h
            exact⟨rfl,(mp [] _ _ hB)⟩
          ·rcases bft (r170.2 != r171.2) with hg177 | hg177
           ·have h:=ite_t hg177 h
            refine rg (SQ (fa hg177 tt)) ?_
            exact hjj175 _ h _ _ (mp [] _ _ hB)
           ·have h:=ite_f hg177 h
            obtain⟨r178,hr178,h⟩:=bindS h
            refine rg (SQ (fa hg177 (fa (cl [] (xref23_SameInts_ac r170.1 r171.1 r178 hr178)) tt))) ?_
            exact hjj175 _ h _ _ (mp [] _ _ hB)
         ·have h:=ite_f hg168 h
          apply AWp.exit
          apply seqQ_e
          obtain rfl:=oi h
          exact⟨(fun hc=>by cases hc),rfl,(mp [] _ _ hB)⟩
        ·rcases x179 with _ | _
         ·obtain⟨rfl,hmat⟩:=hR
          apply blkQ_r
          apply blkQ_r
          apply seqQ_r
          obtain rfl:=oi h
          exact⟨(fun hc=>by cases hc),rfl,(Mat.trans hmat (mp [] _ _ hB))⟩
         ·obtain⟨rfl,hmat⟩:=hR
          apply blkQ_hit
          apply blkQ_n
          apply seqQ_n
          refine AWp.ghost hmat ?_
          refine rg (SQ tt) ?_
          obtain rfl:=oi h
          exact⟨rfl,(mp [] _ _ hB)⟩
      ·have h:=ite_f hg137 h
       apply AWp.exit
       apply seqQ_e
       obtain rfl:=oi h
       exact⟨(fun hc=>by cases hc),rfl,(mp [] _ _ hB)⟩
     ·rcases x181 with _ | _
      ·obtain⟨rfl,hmat⟩:=hR
       apply blkQ_r
       apply seqQ_r
       obtain rfl:=oi h
       exact rt (Mat.trans hmat (mp [] [(8,(bo false))] [] hB)) [(bo false)] (Res.tmp (by rfl) (by rfl) Res.nil) rfl
      ·obtain⟨rfl,hmat⟩:=hR
       apply blkQ_hit
       apply seqQ_n
       refine AWp.ghost hmat ?_
       obtain⟨r183,hr183,h⟩:=bindS h
       refine sr (SQ (fa (cl [] (xlaw43_awake_ac r183 hr183)) tt)) ?_
       apply AWp.ret
       obtain rfl:=oi h
       exact rt (kp [(8,_)] [] hB rfl rfl (by rfl)) [(bo r183)] (Res.tmp (by rfl) (by rfl) Res.nil) rfl
    ·apply AWp.cond rfl<;>intro hg184
     ·have h:=ite_t hg184 h
      obtain⟨_,hx185,h⟩:=bindS h
      obtain⟨x186,hx186,h⟩:=bindS h
      obtain⟨hc187,h⟩:=chk_some h
      obtain⟨hc188,h⟩:=chk_some h
      obtain⟨_,hx189,h⟩:=bindS h
      obtain⟨x190,hx190,h⟩:=bindS h
      apply rg (c (mv hN (q 17)) rfl (c (mv hN (q 18)) rfl (c (mv hN (q 17)) rfl (c (mv hN (q 18)) rfl (c (OpJ.val (v':=(.ptr 1068 (r13.toNat*2) [r13.toNat])) (by simp) (indexS underlying46 tyS53 (idx_some hx185).1 (by have:=idx_lt hx185;first | (simpa using this) | ((try simp only [List.length_map] at this);(try simp only [List.length_map]);omega)) (L rfl) (q 79) (q 80))) rfl (c (ov (.ptr 1068 ((r13.toNat*2)+1) [r13.toNat,1]) (fp hN underlying53 1 tyS23 _ (q 81))) rfl (c (loadR (e:=53) (sz:=2) tyS23 (get_map e_aShed (idx_some hx186).2) (o:=1) (ad _) (by rfl) (by rfl) (by rfl) (L rfl) (q 82)) rfl (cg (OpJ.appendN hB underlying23 tyE3 (nm:=1084) (by decide) (ys:=x186.fLoads.map (eI .i64)) (len:=x186.fLoads.length) (by simp) (map_sz (f:=(eI .i64)) (fun _=>rfl)) (by rw [List.length_map];exact lim_mulN hc187 (by decide)) (by rw [List.length_map];exact lim_leN hc187) (L rfl) Opd.nils (q 83)) rfl (c (buildSlice underlying23 tyS3 tyZD3 (by rfl) (by decide) (by decide) (Opds.cons (ii 99) Opds.nil) (by kernel_rfl) (es:=([(.int .i64 99)]:List D)) (by rfl) (by rfl) (by kernel_rfl) (by simp) (L rfl)) rfl (cg (OpJ.frz (apd hB underlying23 tyE3 1086 (eI .i64) x186.fLoads ([99]:List Int) hc188 (L rfl) (q 84) (q 85)) (by simp)) rfl (c (OpJ.val (v':=(.ptr 1068 (r13.toNat*2) [r13.toNat])) (by simp) (indexS underlying46 tyS53 (idx_some hx189).1 (by have:=idx_lt hx189;first | (simpa using this) | ((try simp only [List.length_map] at this);(try simp only [List.length_map]);omega)) (L rfl) (q 77) (q 78))) rfl (c (ov (.ptr 1068 ((r13.toNat*2)+1) [r13.toNat,1]) (fp hN underlying53 1 tyS23 _ (q 87))) rfl (cg (OpJ.storeR (e:=53) (sz:=2) (es':=(r6.1.set r13.toNat (aShed.mk x190.fItems (x186.fLoads++([99]:List Int)))).map e_aShed) tyS23 (get_map e_aShed (idx_some hx190).2) (o:=1) (SetAt.dst1 (by rfl) (by rfl) (SetAt.here _ _) (by rfl) (by rfl) (by first | rfl | omega)) (by rfl) (map_set _ _ _ _) (by rfl) (by rfl) (q 88) (q 86)) rfl cn)))))))))))))
      exact hjj43 _ h _ _ (Mat.trans (mp [] [(0,(qe_aShed_2 a0)),(10,(pt 1010)),(11,(qe_aLoad_3 r4.2.1)),(12,(qI_1 r4.2.2.1)),(15,(qe_aShed_2 r6.1)),(17,(.sref 1068 2 0 r6.1.length)),(18,(i6 r13))] [(1010,bd 30 (e_aFabric r4.1)),(1068,some (we_aShed_53_2 (r6.1.set r13.toNat (aShed.mk x190.fItems (x186.fLoads++([99]:List Int))))))] hB) (Mat.trans (Mat.lenP (Ts:=[(17,(.sref 1068 2 0 ((r6.1.set r13.toNat (aShed.mk x190.fItems (x186.fLoads++([99]:List Int)))).length)))]) (Bs:=[]) (TwT.cons (x:=(.sref 1068 2 0 r6.1.length)) (by rfl) (Tw.leaf ⟨_,_,_,_,_,rfl,rfl,(by first | rfl | (simp;done) | (simp;omega) | omega)⟩) TwT.nil) TwB.nil) (mp [] _ _ hB)))
     ·have h:=ite_f hg184 h
      refine sr (SQ tt) ?_
      apply AWp.cond rfl<;>intro hg191
      ·have h:=ite_t hg191 h
       obtain⟨hc192,h⟩:=chk_some h
       obtain⟨hc193,h⟩:=chk_some h
       obtain⟨hc194,h⟩:=chk_some h
       obtain⟨hc195,h⟩:=chk_some h
       apply dr (c (mv hN (q 17)) rfl (c (mv hN (q 18)) rfl (c (OpJ.cutS underlying46 tyS53 (l:=0) (h:=r13.toNat) (off':=0) (len':=r13.toNat) (.inl ⟨rfl,rfl,rfl⟩) (.inr ⟨_,_,_,rfl,(ot 92 (i6 r13)),(of_decide_eq_true (and_l2 (and_l2 hc192))),rfl⟩) (of_decide_eq_true (and_r2 (and_l2 hc192))) (of_decide_eq_true (and_r2 hc192)) (by simp) (by simp) (L rfl) (q 91)) rfl (c (mv hN (q 17)) rfl (c (mv hN (q 18)) rfl (c (add6 (L rfl) (q 95) (ii 1)) rfl (c (OpJ.cutS underlying46 tyS53 (l:=(w64 (r13+1)).toNat) (h:=r6.1.length) (off':=(w64 (r13+1)).toNat) (len':=(r6.1.length-(w64 (r13+1)).toNat)) (.inr ⟨_,_,_,rfl,(ot 96 (i6 (w64 (r13+1)))),(of_decide_eq_true (and_l2 (and_l2 hc193))),rfl⟩) (.inl ⟨rfl,rfl,rfl⟩) (of_decide_eq_true (and_r2 (and_l2 hc193))) (of_decide_eq_true (and_r2 hc193)) (by simp) (by simp) (L rfl) (q 94)) rfl (cg (OpJ.appendCut (f:=e_aShed) (xs:=r6.1) (i:=r13.toNat) (j:=((w64 (r13+1)).toNat)) (len:=(r6.1.take r13.toNat++r6.1.drop ((w64 (r13+1)).toNat)).length) (m:=(r6.1.length-(w64 (r13+1)).toNat)) underlying46 tyS53 (by decide) (of_decide_eq_true hc194) (of_decide_eq_true hc195) rfl (by first | rfl | simp | omega) (L rfl) (q 93) (q 97)) rfl (c (assign (L rfl) (q 98)) rfl cn))))))))) (by kernel_rfl) (by kernel_rfl)
       exact hjj43 _ h _ _ (mp [] _ _ hB)
      ·have h:=ite_f hg191 h
       refine sr (SQ tt) ?_
       apply AWp.cond rfl<;>intro hg196
       ·have h:=ite_t hg196 h
        obtain⟨_,hx197,h⟩:=bindS h
        obtain⟨x198,hx198,h⟩:=bindS h
        obtain⟨hc199,h⟩:=chk_some h
        obtain⟨_,hx200,h⟩:=bindS h
        obtain⟨x201,hx201,h⟩:=bindS h
        apply rg (c (mv hN (q 17)) rfl (c (mv hN (q 18)) rfl (c (OpJ.coe (v:=(.st [(bo false),(i6 50)])) (y:=(.st [(.bool false),(.int .i64 50)])) (Co.st (CoL.cons (Co.d _) (CoL.cons (Co.d _) CoL.nil))) rfl (OpJ.build (places:=[(0,1),(1,1)]) ⟨underlying63,fun w=>by kernel_rfl⟩ tyZS63 (Opds.cons (ii 50) Opds.nil) (by kernel_rfl) (r:=(.st [(bo false),(i6 50)])) (by rfl) (L rfl))) rfl (cg (OpJ.buildSliceR underlying22 tyS63 tyZD63 (by rfl) (by decide) (by decide) hB (nm:=1104) (by decide) (len:=[(aItem.mk false 50)].length) (by rfl) (Opds.cons (q 103) Opds.nil) (by kernel_rfl) (es:=[(aItem.mk false 50)].map e_aItem) (by rfl) (by rfl) (by kernel_rfl) (by simp) (L rfl)) rfl (c (mv hN (q 17)) rfl (c (mv hN (q 18)) rfl (c (OpJ.val (v':=(.ptr 1068 (r13.toNat*2) [r13.toNat])) (by simp) (indexS underlying46 tyS53 (idx_some hx197).1 (by have:=idx_lt hx197;first | (simpa using this) | ((try simp only [List.length_map] at this);(try simp only [List.length_map]);omega)) (L rfl) (q 105) (q 106))) rfl (c (ov (.ptr 1068 ((r13.toNat*2)+0) [r13.toNat,0]) (fp hN underlying53 0 tyS22 _ (q 107))) rfl (c (loadR (e:=53) (sz:=2) tyS22 (get_map e_aShed (idx_some hx198).2) (o:=0) (ad _) (by rfl) (by rfl) (by rfl) (L rfl) (q 108)) rfl (cg (OpJ.frz (apd hB underlying22 tyE63 1110 e_aItem [(aItem.mk false 50)] x198.fItems hc199 (L rfl) (q 104) (q 109)) (by simp)) rfl (c (OpJ.val (v':=(.ptr 1068 (r13.toNat*2) [r13.toNat])) (by simp) (indexS underlying46 tyS53 (idx_some hx200).1 (by have:=idx_lt hx200;first | (simpa using this) | ((try simp only [List.length_map] at this);(try simp only [List.length_map]);omega)) (L rfl) (q 101) (q 102))) rfl (c (ov (.ptr 1068 ((r13.toNat*2)+0) [r13.toNat,0]) (fp hN underlying53 0 tyS22 _ (q 111))) rfl (cg (OpJ.storeR (e:=53) (sz:=2) (es':=(r6.1.set r13.toNat (aShed.mk ([(aItem.mk false 50)]++x198.fItems) x201.fLoads)).map e_aShed) tyS22 (get_map e_aShed (idx_some hx201).2) (o:=0) (SetAt.dst1 (by rfl) (by rfl) (SetAt.here _ _) (by rfl) (by rfl) (by first | rfl | omega)) (by rfl) (map_set _ _ _ _) (by rfl) (by rfl) (q 112) (q 110)) rfl cn)))))))))))))
        exact hjj43 _ h _ _ (Mat.trans (mp [] [(0,(qe_aShed_2 a0)),(10,(pt 1010)),(11,(qe_aLoad_3 r4.2.1)),(12,(qI_1 r4.2.2.1)),(15,(qe_aShed_2 r6.1)),(17,(.sref 1068 2 0 r6.1.length)),(18,(i6 r13))] [(1010,bd 30 (e_aFabric r4.1)),(1068,some (we_aShed_53_2 (r6.1.set r13.toNat (aShed.mk ([(aItem.mk false 50)]++x198.fItems) x201.fLoads))))] hB) (Mat.trans (Mat.lenP (Ts:=[(17,(.sref 1068 2 0 ((r6.1.set r13.toNat (aShed.mk ([(aItem.mk false 50)]++x198.fItems) x201.fLoads)).length)))]) (Bs:=[]) (TwT.cons (x:=(.sref 1068 2 0 r6.1.length)) (by rfl) (Tw.leaf ⟨_,_,_,_,_,rfl,rfl,(by first | rfl | (simp;done) | (simp;omega) | omega)⟩) TwT.nil) TwB.nil) (mp [] _ _ hB)))
       ·have h:=ite_f hg196 h
        apply AWp.skip
        exact hjj43 _ h _ _ (mp [] _ _ hB)
  ·rcases bft (r5.2 != r6.2) with hg202 | hg202
   ·have h:=ite_t hg202 h
    refine rg (SQ (fa hg202 tt)) ?_
    exact hjj10 _ h _ _ (mp [] _ _ hB)
   ·have h:=ite_f hg202 h
    obtain⟨r203,hr203,h⟩:=bindS h
    refine rg (SQ (fa hg202 (fa (cl [] (xref43_Same_ac r5.1 r6.1 r203 hr203)) tt))) ?_
    exact hjj10 _ h _ _ (mp [] _ _ hB)
end
end Go.Proofs.Ytkcpjnjneehecaa
