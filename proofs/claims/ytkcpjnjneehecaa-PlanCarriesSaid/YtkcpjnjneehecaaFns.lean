/- Printed by gen.py: the Go functions as plain functions, and that the code does what they say. -/
import Derived.Test.YtkcpjnjneehecaaChecked
import Derived.Test.YtkcpjnjneehecaaVcYB
import Derived.Test.YtkcpjnjneehecaaVcZ
import Derived.Test.YtkcpjnjneehecaaVcGC
import Derived.KernelRfl
import Derived.Test.YtkcpjnjneehecaaFnsB
import Derived.Test.YtkcpjnjneehecaaExt
import Derived.Test.YtkcpjnjneehecaaVcWS
import Derived.Test.YtkcpjnjneehecaaVcQu
namespace Go.Proofs.Ytkcpjnjneehecaa
open Go Go.Vc
open Go.Vc.OpJ (assign alloc lss pickT pickF extract lenD indexD loadD eqlI gtr callVal leq geq loadR nilP indexS buildSlice lenS fieldD neqI pickAnd pickOr)
set_option maxHeartbeats 4000000
set_option maxRecDepth 100000
noncomputable section
def slices_EqualFunc_2_L0 (a0:(List aShed)) (a1:(List aShed)) (s2:Int):Option (((Unit)⊕(Unit))⊕(Int)) :=
 (if (decide (s2<(a0.length:Int)))=true then
 (idx a0 s2).bind fun x16 =>
 (idx a1 s2).bind fun x17 =>
 (plan_Check_2 x16 x17).bind fun r18 =>
 (if (!r18)=true then
 some (.inl (.inl ()))
 else
 some (.inr (w64 (s2+1))))
 else
 some (.inl (.inr ())))
def slices_EqualFunc_2 (a0:(List aShed)) (a1:(List aShed)):Option (Bool) :=
 (if ((a0.length:Int) != (a1.length:Int))=true then
 some false
 else
 (loop (slices_EqualFunc_2_L0 a0 a1) 0).bind fun x20=>match x20 with
 | (.inl _) =>
  some false
 | (.inr _) =>
  some true)
theorem slices_EqualFunc_2_ac (a0:(List aShed)) (a1:(List aShed)) (r:Bool) (h:slices_EqualFunc_2 a0 a1=some r):AC Try.prog 42 [(.d (.list 2 (a0.map e_aShed))),(.d (.list 2 (a1.map e_aShed))),(.func 45 [])] [] (.d (.bool r)) []:=by
 refine ac2 Try.func42 rfl rfl fun B hB hN L => ?_
 delta slices_EqualFunc_2 at h
 refine sr (SQ tt) ?_
 apply AWp.seq
 refine sr (SQ tt) ?_
 apply AWp.cond rfl<;>intro hg1
 ·have h:=ite_t hg1 h
  refine sr (SQ tt) ?_
  apply AWp.ret
  apply seqQ_r
  obtain rfl:=oi h
  exact rt (kp [(6,_)] [] hB rfl rfl (by rfl)) [(bo false)] (Res.tmp (by rfl) (by rfl) Res.nil) rfl
 ·have h:=ite_f hg1 h
  apply AWp.skip
  apply seqQ_n
  apply AWp.seq
  refine sr (SQ tt) ?_
  apply AWp.block
  obtain⟨x20,hx21,h⟩:=bindS h
  refine lg (slices_EqualFunc_2_L0 a0 a1) (fun s2:Int=>([(1,(qe_aShed_2 a1)),(2,(.func 45 [])),(15,(qe_aShed_2 a0)),(16,(i6 (a0.length:Int))),(17,(i6 s2))]:EL)) (fun s2:Int=>([]:OL)) (fun(x:(Unit)⊕(Unit)) e E' O'=>match x with | (.inl _p)=>e = .ret∧Mat B E' O' ([(6,(bo false))]:EL) ([]:OL) | (.inr _p)=>e = .exit 0∧Mat B E' O' ([]:EL) ([]:OL)) hx21 (mp [] _ _ hB) (fun s2 y h => ?_) (fun e E' O' hR => ?_)
  ·unfold slices_EqualFunc_2_L0 at h
   refine sr (SQ tt) ?_
   apply AWp.seq
   apply AWp.cond rfl<;>intro hg15
   ·have h:=ite_t hg15 h
    apply AWp.skip
    apply seqQ_n
    apply AWp.seq
    apply AWp.block
    obtain⟨x16,hx16,h⟩:=bindS h
    refine sr (SQ (fa hx16 tt)) ?_
    obtain⟨x17,hx17,h⟩:=bindS h
    refine sr (SQ (fa hx17 tt)) ?_
    obtain⟨r18,hr18,h⟩:=bindS h
    refine sr (SQ (fa (cl [] (plan_Check_2_ac x16 x17 r18 hr18)) tt)) ?_
    apply AWp.cond rfl<;>intro hg19
    ·have h:=ite_t hg19 h
     refine sr (SQ tt) ?_
     apply AWp.ret
     apply blkQ_r
     apply seqQ_r
     obtain rfl:=oi h
     exact⟨(fun hc=>by cases hc),rfl,(mp [] _ _ hB)⟩
    ·have h:=ite_f hg19 h
     apply AWp.skip
     apply blkQ_n
     apply seqQ_n
     refine rg (SQ tt) ?_
     obtain rfl:=oi h
     exact⟨rfl,(mp [] _ _ hB)⟩
   ·have h:=ite_f hg15 h
    apply AWp.exit
    apply seqQ_e
    obtain rfl:=oi h
    exact⟨(fun hc=>by cases hc),rfl,(mp [] _ _ hB)⟩
  ·rcases x20 with _ | _
   ·obtain⟨rfl,hmat⟩:=hR
    apply blkQ_r
    apply seqQ_r
    obtain rfl:=oi h
    exact rt (Mat.trans hmat (mp [] [(6,(bo false))] [] hB)) [(bo false)] (Res.tmp (by rfl) (by rfl) Res.nil) rfl
   ·obtain⟨rfl,hmat⟩:=hR
    apply blkQ_hit
    apply seqQ_n
    refine AWp.ghost hmat ?_
    refine sr (SQ tt) ?_
    apply AWp.ret
    obtain rfl:=oi h
    exact rt (kp [(6,_)] [] hB rfl rfl (by rfl)) [(bo true)] (Res.tmp (by rfl) (by rfl) Res.nil) rfl
def plan_Check (a0:aFabric) (a1:(List aLoad)) (a2:(List Int)) (a3:(List aShed)):Option (Int) :=
 (plan_Build a0 a1 a2).bind fun r1 =>
 (if (r1.2 != 0)=true then
 some r1.2
 else
 (slices_EqualFunc a3 r1.1).bind fun r3 =>
 (if (!r3)=true then
 some 39
 else
 (slices_EqualFunc_2 a3 r1.1).bind fun r5 =>
 (if (!r5)=true then
 some 41
 else
 some 0)))
theorem plan_Check_ac (a0:aFabric) (a1:(List aLoad)) (a2:(List Int)) (a3:(List aShed)) (r:Int) (h:plan_Check a0 a1 a2 a3=some r):AC Try.prog 20 [(.d (e_aFabric a0)),(.d (.list 3 (a1.map e_aLoad))),(.d (.list 1 (a2.map (eI .i64)))),(.d (.list 2 (a3.map e_aShed)))] [] (.d (.int .i64 r)) []:=by
 refine ac2 Try.func20 rfl rfl fun B hB hN L => ?_
 delta plan_Check at h
 refine sr (SQ tt) ?_
 obtain⟨r1,hr1,h⟩:=bindS h
 refine sr (SQ (fa (cl [] (plan_Build_ac a0 a1 a2 r1 hr1)) tt)) ?_
 apply AWp.seq
 refine sr (SQ tt) ?_
 apply AWp.cond rfl<;>intro hg2
 ·have h:=ite_t hg2 h
  refine sr (SQ tt) ?_
  apply AWp.ret
  apply seqQ_r
  obtain rfl:=oi h
  exact rt (kp [(8,_)] [] hB rfl rfl (by rfl)) [(i6 r1.2)] (Res.tmp (by rfl) (by rfl) Res.nil) rfl
 ·have h:=ite_f hg2 h
  apply AWp.skip
  apply seqQ_n
  apply AWp.seq
  obtain⟨r3,hr3,h⟩:=bindS h
  refine sr (SQ (fa (cl [] (slices_EqualFunc_ac a3 r1.1 r3 hr3)) tt)) ?_
  apply AWp.cond rfl<;>intro hg4
  ·have h:=ite_t hg4 h
   refine sr (SQ tt) ?_
   apply AWp.ret
   apply seqQ_r
   obtain rfl:=oi h
   exact rt (kp [(8,_)] [] hB rfl rfl (by rfl)) [(i6 39)] (Res.tmp (by rfl) (by rfl) Res.nil) rfl
  ·have h:=ite_f hg4 h
   apply AWp.skip
   apply seqQ_n
   apply AWp.seq
   obtain⟨r5,hr5,h⟩:=bindS h
   refine sr (SQ (fa (cl [] (slices_EqualFunc_2_ac a3 r1.1 r5 hr5)) tt)) ?_
   apply AWp.cond rfl<;>intro hg6
   ·have h:=ite_t hg6 h
    refine sr (SQ tt) ?_
    apply AWp.ret
    apply seqQ_r
    obtain rfl:=oi h
    exact rt (kp [(8,_)] [] hB rfl rfl (by rfl)) [(i6 41)] (Res.tmp (by rfl) (by rfl) Res.nil) rfl
   ·have h:=ite_f hg6 h
    apply AWp.skip
    apply seqQ_n
    refine sr (SQ tt) ?_
    apply AWp.ret
    obtain rfl:=oi h
    exact rt (kp [(8,_)] [] hB rfl rfl (by rfl)) [(i6 0)] (Res.tmp (by rfl) (by rfl) Res.nil) rfl
def xlaw43_PlanCarries_L1 (r2:aFabric×(List aLoad)×(List Int)×exchangepointmill_Deck) (x681:aShed) (s683:Int×(List Bool)):Option (((Unit)⊕((List Bool)))⊕(Int×(List Bool))) :=
 (if (decide (s683.1<(x681.fLoads.length:Int)))=true then
 (idx x681.fLoads s683.1).bind fun x697 =>
 (if ((decide (x697<0)) || (decide ((r2.2.1.length:Int)≤x697)))=true then
 some (.inl (.inl ()))
 else
 (idx s683.2 x697).bind fun _ =>
 (idx s683.2 x697).bind fun _ =>
 some (.inr ((w64 (s683.1+1)),(s683.2.set x697.toNat true))))
 else
 some (.inl (.inr s683.2)))
def xlaw43_PlanCarries_L3 (r2:aFabric×(List aLoad)×(List Int)×exchangepointmill_Deck) (p695:(List Bool)) (x895:Int) (r898:(List Int)×Bool) (s917:Int×(List Int)):Option ((((List Int)))⊕(Int×(List Int))) :=
 (if (decide (s917.1<(r898.1.length:Int)))=true then
 (idx r898.1 s917.1).bind fun x956 =>
 (idx p695 x895).bind fun _ =>
 (idx p695 x895).bind fun x958 =>
 jn (fun m965:(List Int) =>
 some (.inr ((w64 (s917.1+1)),m965))) (fun j966 =>
 (if (!x958)=true then
 (idx s917.2 x956).bind fun _ =>
 (idx s917.2 x956).bind fun x969 =>
 (idx r2.2.1 x895).bind fun x970 =>
 (idx s917.2 x956).bind fun _ =>
 (idx s917.2 x956).bind fun _ =>
 j966 (s917.2.set x956.toNat (w64 (x969+x970.fRate)))
 else
 j966 s917.2))
 else
 some (.inl s917.2))
def xlaw43_PlanCarries_L2 (r2:aFabric×(List aLoad)×(List Int)×exchangepointmill_Deck) (p695:(List Bool)) (r705:aFabric) (s707:Bool×Int×(List Int)):Option (((Unit)⊕((List Int)))⊕(Bool×Int×(List Int))) :=
 (if (decide (s707.2.1<(r2.2.2.1.length:Int)))=true then
 (idx r2.2.2.1 s707.2.1).bind fun x895 =>
 (idx r2.2.1 x895).bind fun x896 =>
 (idx r2.2.1 x895).bind fun x897 =>
 (xref14_Way r705 x896.fA x897.fB x895).bind fun r898 =>
 jn (fun m909:Bool =>
 (if m909=true then
 some (.inl (.inl ()))
 else
 jn (fun m915:Bool =>
 (loop (xlaw43_PlanCarries_L3 r2 p695 x895 r898) (0,s707.2.2)).bind fun p954 =>
 some (.inr (m915,(w64 (s707.2.1+1)),p954))) (fun j916 =>
 (if s707.1=true then
 j916 true
 else
 (idx p695 x895).bind fun _ =>
 (idx p695 x895).bind fun x977 =>
 j916 (!x977))))) (fun j910 =>
 (if r898.2=true then
 (idx p695 x895).bind fun _ =>
 (idx p695 x895).bind fun x980 =>
 (if (x980&&s707.1)=true then
 j910 true
 else
 (if (!r898.2)=true then
 (idx p695 x895).bind fun _ =>
 (idx p695 x895).bind fun x984 =>
 j910 (!x984)
 else
 j910 false))
 else
 (if (!r898.2)=true then
 (idx p695 x895).bind fun _ =>
 (idx p695 x895).bind fun x987 =>
 j910 (!x987)
 else
 j910 false)))
 else
 some (.inl (.inr s707.2.2)))
def xlaw43_PlanCarries_L4 (r2:aFabric×(List aLoad)×(List Int)×exchangepointmill_Deck) (p893:(List Int)) (s990:Int):Option (((Unit)⊕(Unit))⊕(Int)) :=
 (if (decide (s990<(p893.length:Int)))=true then
 (idx p893 s990).bind fun _ =>
 (idx p893 s990).bind fun x1005 =>
 (idx r2.1.fLinks s990).bind fun x1006 =>
 (if (decide ((w64 (1000*x1006.fCapacity))<x1005))=true then
 some (.inl (.inl ()))
 else
 some (.inr (w64 (s990+1))))
 else
 some (.inl (.inr ())))
def xlaw43_PlanCarries_L0 (r2:aFabric×(List aLoad)×(List Int)×exchangepointmill_Deck) (r3:(List aShed)×Int) (s9:Int):Option (((Unit)⊕(Unit))⊕(Int)) :=
 (if (decide (s9<(r3.1.length:Int)))=true then
 (idx r3.1 s9).bind fun x681 =>
 chk ((decide (0≤(r2.2.1.length:Int))&&decide ((r2.2.1.length:Int)≤(r2.2.1.length:Int))&&decide ((r2.2.1.length:Int)≤(LIM:Int)))) <|
 (loop (xlaw43_PlanCarries_L1 r2 x681) (0,(List.replicate (r2.2.1.length:Int).toNat false))).bind fun x701=>match x701 with
 | (.inl _) =>
  some (.inl (.inl ()))
 | (.inr p695) =>
  (xref42_Valid r2.1 r2.2.1 x681.fItems).bind fun r703 =>
  (if (!r703)=true then
  some (.inl (.inl ()))
  else
  (xref42_Without r2.1 x681.fItems).bind fun r705 =>
  chk ((decide (0≤(r2.1.fLinks.length:Int))&&decide ((r2.1.fLinks.length:Int)≤(r2.1.fLinks.length:Int))&&decide ((r2.1.fLinks.length:Int)≤(LIM:Int)))) <|
  (loop (xlaw43_PlanCarries_L2 r2 p695 r705) (false,0,(List.replicate (r2.1.fLinks.length:Int).toNat 0))).bind fun x988=>match x988 with
  | (.inl _) =>
   some (.inl (.inl ()))
  | (.inr p893) =>
   (loop (xlaw43_PlanCarries_L4 r2 p893) 0).bind fun x1008=>match x1008 with
   | (.inl _) =>
    some (.inl (.inl ()))
   | (.inr _) =>
    some (.inr (w64 (s9+1))))
 else
 some (.inl (.inr ())))
def xlaw43_PlanCarries (a0:(List Int)):Option (Bool) :=
 (exchangepointmill_New a0).bind fun r1 =>
 (xlaw43_scene r1).bind fun r2 =>
 (plan_Build r2.1 r2.2.1 r2.2.2.1).bind fun r3 =>
 jn (fun m6:Bool =>
 (if m6=true then
 some false
 else
 (loop (xlaw43_PlanCarries_L0 r2 r3) 0).bind fun x1010=>match x1010 with
 | (.inl _) =>
  some false
 | (.inr _) =>
  (xlaw43_awake).bind fun r1012 =>
  some r1012)) (fun j7 =>
 (if (r3.2 != 0)=true then
 j7 true
 else
 (plan_Check r2.1 r2.2.1 r2.2.2.1 r3.1).bind fun r1014 =>
 j7 (r1014 != 0)))
theorem xlaw43_PlanCarries_ac (a0:(List Int)) (r:Bool) (h:xlaw43_PlanCarries a0=some r):AC Try.prog 5 [(.d (.list 1 (a0.map (eI .i64))))] [] (.d (.bool r)) []:=by
 refine ac2 Try.func5 rfl rfl fun B hB hN L => ?_
 delta xlaw43_PlanCarries at h
 refine sr (SQ tt) ?_
 apply AWp.seq
 obtain⟨r1,hr1,h⟩:=bindS h
 obtain⟨r2,hr2,h⟩:=bindS h
 refine rg (SQ (fa (cl [(1005,100000)] (exchangepointmill_New_ac a0 r1 hr1)) (fa (cl [(0,100000)] (xlaw43_scene_ac r1 r2 hr2)) tt))) ?_
 apply seqQ_n
 refine AWp.ghost (mp [] [(3,(pt 1003)),(4,(qe_aLoad_3 r2.2.1)),(5,(qI_1 r2.2.2.1))] [(1003,bd 30 (e_aFabric r2.1))] hB) ?_
 obtain⟨r3,hr3,h⟩:=bindS h
 refine sr (SQ (fa (cl [] (plan_Build_ac r2.1 r2.2.1 r2.2.2.1 r3 hr3)) tt)) ?_
 apply AWp.seq
 apply AWp.seq
 refine AWp.cut h (fun m6:Bool=>([(3,(pt 1003)),(4,(qe_aLoad_3 r2.2.1)),(5,(qI_1 r2.2.2.1)),(6,(qe_aShed_2 r3.1)),(47,(bo m6))]:EL)) (fun m6:Bool=>([(1003,bd 30 (e_aFabric r2.1))]:OL)) (fun m6 h E' O' hmat => ?_) (fun j7 hjj7 h => ?_)
 ·apply seqQ_n
  refine AWp.ghost hmat ?_
  apply AWp.cond rfl<;>intro hg8
  ·have h:=ite_t hg8 h
   refine sr (SQ tt) ?_
   apply AWp.ret
   apply seqQ_r
   obtain rfl:=oi h
   exact rt (kp [(2,_)] [] hB rfl rfl (by rfl)) [(bo false)] (Res.tmp (by rfl) (by rfl) Res.nil) rfl
  ·have h:=ite_f hg8 h
   apply AWp.skip
   apply seqQ_n
   apply AWp.seq
   refine sr (SQ tt) ?_
   apply AWp.block
   obtain⟨x1010,hx1011,h⟩:=bindS h
   refine lg (xlaw43_PlanCarries_L0 r2 r3) (fun s9:Int=>([(3,(pt 1003)),(4,(qe_aLoad_3 r2.2.1)),(5,(qI_1 r2.2.2.1)),(48,(qe_aShed_2 r3.1)),(49,(i6 (r3.1.length:Int))),(50,(i6 s9))]:EL)) (fun s9:Int=>([(1003,bd 30 (e_aFabric r2.1))]:OL)) (fun(x:(Unit)⊕(Unit)) e E' O'=>match x with | (.inl _p)=>e = .ret∧Mat B E' O' ([(2,(bo false))]:EL) ([]:OL) | (.inr _p)=>e = .exit 0∧Mat B E' O' ([]:EL) ([]:OL)) hx1011 (mp [] _ _ hB) (fun s9 y h => ?_) (fun e E' O' hR => ?_)
   ·unfold xlaw43_PlanCarries_L0 at h
    refine sr (SQ tt) ?_
    apply AWp.seq
    apply AWp.cond rfl<;>intro hg680
    ·have h:=ite_t hg680 h
     apply AWp.skip
     apply seqQ_n
     apply AWp.seq
     apply AWp.block
     obtain⟨x681,hx681,h⟩:=bindS h
     refine sr (SQ (fa hx681 tt)) ?_
     obtain⟨hc682,h⟩:=chk_some h
     refine sr (SQ (fa hc682 tt)) ?_
     apply AWp.seq
     refine sr (SQ tt) ?_
     apply AWp.block
     obtain⟨x701,hx702,h⟩:=bindS h
     refine lg (xlaw43_PlanCarries_L1 r2 x681) (fun s683:Int×(List Bool)=>([(3,(pt 1003)),(4,(qe_aLoad_3 r2.2.1)),(5,(qI_1 r2.2.2.1)),(9,(pt 1009)),(10,(.sref 1056 1 0 s683.2.length)),(48,(qe_aShed_2 r3.1)),(49,(i6 (r3.1.length:Int))),(50,(i6 s9)),(58,(qI_1 x681.fLoads)),(59,(i6 (x681.fLoads.length:Int))),(60,(i6 s683.1))]:EL)) (fun s683:Int×(List Bool)=>([(1003,bd 30 (e_aFabric r2.1)),(1009,bd 53 (e_aShed x681)),(1056,some (.row 4 1 (s683.2.map eB)))]:OL)) (fun(x:(Unit)⊕((List Bool))) e E' O'=>match x with | (.inl _p)=>e = .ret∧Mat B E' O' ([(2,(bo false))]:EL) ([]:OL) | (.inr p695)=>e = .exit 2∧Mat B E' O' ([(3,(pt 1003)),(4,(qe_aLoad_3 r2.2.1)),(5,(qI_1 r2.2.2.1)),(9,(pt 1009)),(10,(.sref 1056 1 0 p695.length)),(48,(qe_aShed_2 r3.1)),(49,(i6 (r3.1.length:Int))),(50,(i6 s9))]:EL) ([(1003,bd 30 (e_aFabric r2.1)),(1009,bd 53 (e_aShed x681)),(1056,some (.row 4 1 (p695.map eB)))]:OL)) hx702 (mp [] _ _ hB) (fun s683 y h => ?_) (fun e E' O' hR => ?_)
     ·unfold xlaw43_PlanCarries_L1 at h
      refine sr (SQ tt) ?_
      apply AWp.seq
      apply AWp.cond rfl<;>intro hg696
      ·have h:=ite_t hg696 h
       apply AWp.skip
       apply seqQ_n
       apply AWp.seq
       apply AWp.block
       obtain⟨x697,hx697,h⟩:=bindS h
       refine sr (SQ (fa hx697 tt)) ?_
       apply AWp.seq
       refine sr (SQ tt) ?_
       apply AWp.cond rfl<;>intro hg698
       ·have h:=ite_t hg698 h
        refine sr (SQ tt) ?_
        apply AWp.ret
        apply seqQ_r
        apply blkQ_r
        apply seqQ_r
        obtain rfl:=oi h
        exact⟨(fun hc=>by cases hc),rfl,(mp [] _ _ hB)⟩
       ·have h:=ite_f hg698 h
        apply AWp.skip
        apply seqQ_n
        obtain⟨_,hx699,h⟩:=bindS h
        obtain⟨_,hx700,h⟩:=bindS h
        refine rg (SQ (fa hx699 (fa hx700 (fa (sv true) tt)))) ?_
        apply blkQ_n
        apply seqQ_n
        refine rg (SQ tt) ?_
        obtain rfl:=oi h
        exact⟨rfl,(Mat.trans (mp [] [(3,(pt 1003)),(4,(qe_aLoad_3 r2.2.1)),(5,(qI_1 r2.2.2.1)),(9,(pt 1009)),(10,(.sref 1056 1 0 s683.2.length)),(48,(qe_aShed_2 r3.1)),(49,(i6 (r3.1.length:Int))),(50,(i6 s9)),(58,(qI_1 x681.fLoads)),(59,(i6 (x681.fLoads.length:Int))),(60,(i6 (w64 (s683.1+1))))] [(1003,bd 30 (e_aFabric r2.1)),(1009,bd 53 (e_aShed x681)),(1056,some (.row 4 1 ((s683.2.set x697.toNat true).map eB)))] hB) (Mat.trans (Mat.lenP (Ts:=[(10,(.sref 1056 1 0 ((s683.2.set x697.toNat true).length)))]) (Bs:=[]) (TwT.cons (x:=(.sref 1056 1 0 s683.2.length)) (by rfl) (Tw.leaf ⟨_,_,_,_,_,rfl,rfl,(by first | rfl | (simp;done) | (simp;omega) | omega)⟩) TwT.nil) TwB.nil) (mp [] _ _ hB)))⟩
      ·have h:=ite_f hg696 h
       apply AWp.exit
       apply seqQ_e
       obtain rfl:=oi h
       exact⟨(fun hc=>by cases hc),rfl,(mp [] _ _ hB)⟩
     ·rcases x701 with _ | p695
      ·obtain⟨rfl,hmat⟩:=hR
       apply blkQ_r
       apply seqQ_r
       apply blkQ_r
       apply seqQ_r
       obtain rfl:=oi h
       exact⟨(fun hc=>by cases hc),rfl,(Mat.trans hmat (mp [] _ _ hB))⟩
      ·obtain⟨rfl,hmat⟩:=hR
       apply blkQ_hit
       apply seqQ_n
       refine AWp.ghost hmat ?_
       apply AWp.seq
       obtain⟨r703,hr703,h⟩:=bindS h
       refine sr (SQ (fa (cl [] (xref42_Valid_ac r2.1 r2.2.1 x681.fItems r703 hr703)) tt)) ?_
       apply AWp.cond rfl<;>intro hg704
       ·have h:=ite_t hg704 h
        refine sr (SQ tt) ?_
        apply AWp.ret
        apply seqQ_r
        apply blkQ_r
        apply seqQ_r
        obtain rfl:=oi h
        exact⟨(fun hc=>by cases hc),rfl,(mp [] _ _ hB)⟩
       ·have h:=ite_f hg704 h
        apply AWp.skip
        apply seqQ_n
        obtain⟨r705,hr705,h⟩:=bindS h
        refine sr (SQ (fa (cl [] (xref42_Without_ac r2.1 x681.fItems r705 hr705)) tt)) ?_
        obtain⟨hc706,h⟩:=chk_some h
        refine sr (SQ (fa hc706 tt)) ?_
        refine sr (SQ tt) ?_
        apply AWp.seq
        refine sr (SQ tt) ?_
        apply AWp.block
        obtain⟨x988,hx989,h⟩:=bindS h
        refine lg (xlaw43_PlanCarries_L2 r2 p695 r705) (fun s707:Bool×Int×(List Int)=>([(3,(pt 1003)),(4,(qe_aLoad_3 r2.2.1)),(5,(qI_1 r2.2.2.1)),(10,(.sref 1056 1 0 p695.length)),(13,(pt 1013)),(14,(.sref 1089 1 0 s707.2.2.length)),(15,(bo s707.1)),(48,(qe_aShed_2 r3.1)),(49,(i6 (r3.1.length:Int))),(50,(i6 s9)),(90,(qI_1 r2.2.2.1)),(91,(i6 (r2.2.2.1.length:Int))),(92,(i6 s707.2.1))]:EL)) (fun s707:Bool×Int×(List Int)=>([(1003,bd 30 (e_aFabric r2.1)),(1013,bd 30 (e_aFabric r705)),(1056,some (.row 4 1 (p695.map eB))),(1089,some (wI_3_1 s707.2.2))]:OL)) (fun(x:(Unit)⊕((List Int))) e E' O'=>match x with | (.inl _p)=>e = .ret∧Mat B E' O' ([(2,(bo false))]:EL) ([]:OL) | (.inr p893)=>e = .exit 4∧Mat B E' O' ([(3,(pt 1003)),(4,(qe_aLoad_3 r2.2.1)),(5,(qI_1 r2.2.2.1)),(14,(.sref 1089 1 0 p893.length)),(48,(qe_aShed_2 r3.1)),(49,(i6 (r3.1.length:Int))),(50,(i6 s9))]:EL) ([(1003,bd 30 (e_aFabric r2.1)),(1089,some (wI_3_1 p893))]:OL)) hx989 (mp [] _ _ hB) (fun s707 y h => ?_) (fun e E' O' hR => ?_)
        ·unfold xlaw43_PlanCarries_L2 at h
         refine sr (SQ tt) ?_
         apply AWp.seq
         apply AWp.cond rfl<;>intro hg894
         ·have h:=ite_t hg894 h
          apply AWp.skip
          apply seqQ_n
          apply AWp.seq
          apply AWp.block
          obtain⟨x895,hx895,h⟩:=bindS h
          refine sr (SQ (fa hx895 tt)) ?_
          obtain⟨x896,hx896,h⟩:=bindS h
          obtain⟨x897,hx897,h⟩:=bindS h
          obtain⟨r898,hr898,h⟩:=bindS h
          refine sdS (SQ (fa hx896 (fa hx897 (fa (cl [] (xref14_Way_ac r705 x896.fA x897.fB x895 r898 hr898)) tt)))) ?_
          apply AWp.seq
          apply AWp.seq
          refine AWp.cut h (fun m909:Bool=>([(3,(pt 1003)),(4,(qe_aLoad_3 r2.2.1)),(5,(qI_1 r2.2.2.1)),(10,(.sref 1056 1 0 p695.length)),(13,(pt 1013)),(14,(.sref 1089 1 0 s707.2.2.length)),(15,(bo s707.1)),(17,(i6 x895)),(18,(qI_1 r898.1)),(48,(qe_aShed_2 r3.1)),(49,(i6 (r3.1.length:Int))),(50,(i6 s9)),(90,(qI_1 r2.2.2.1)),(91,(i6 (r2.2.2.1.length:Int))),(92,(i6 s707.2.1)),(132,(bo m909))]:EL)) (fun m909:Bool=>([(1003,bd 30 (e_aFabric r2.1)),(1013,bd 30 (e_aFabric r705)),(1056,some (.row 4 1 (p695.map eB))),(1089,some (wI_3_1 s707.2.2))]:OL)) (fun m909 h E' O' hmat => ?_) (fun j910 hjj910 h => ?_)
          ·apply seqQ_n
           refine AWp.ghost hmat ?_
           apply AWp.cond rfl<;>intro hg911
           ·have h:=ite_t hg911 h
            refine sr (SQ tt) ?_
            apply AWp.ret
            apply seqQ_r
            apply blkQ_r
            apply seqQ_r
            obtain rfl:=oi h
            exact⟨(fun hc=>by cases hc),rfl,(mp [] _ _ hB)⟩
           ·have h:=ite_f hg911 h
            apply AWp.skip
            apply seqQ_n
            apply AWp.seq
            refine AWp.cut h (fun m915:Bool=>([(3,(pt 1003)),(4,(qe_aLoad_3 r2.2.1)),(5,(qI_1 r2.2.2.1)),(10,(.sref 1056 1 0 p695.length)),(13,(pt 1013)),(14,(.sref 1089 1 0 s707.2.2.length)),(15,(bo m915)),(17,(i6 x895)),(18,(qI_1 r898.1)),(48,(qe_aShed_2 r3.1)),(49,(i6 (r3.1.length:Int))),(50,(i6 s9)),(90,(qI_1 r2.2.2.1)),(91,(i6 (r2.2.2.1.length:Int))),(92,(i6 s707.2.1))]:EL)) (fun m915:Bool=>([(1003,bd 30 (e_aFabric r2.1)),(1013,bd 30 (e_aFabric r705)),(1056,some (.row 4 1 (p695.map eB))),(1089,some (wI_3_1 s707.2.2))]:OL)) (fun m915 h E' O' hmat => ?_) (fun j916 hjj916 h => ?_)
            ·apply seqQ_n
             refine AWp.ghost hmat ?_
             refine sr (SQ tt) ?_
             apply AWp.block
             obtain⟨p954,hx974,h⟩:=bindS h
             refine lg (xlaw43_PlanCarries_L3 r2 p695 x895 r898) (fun s917:Int×(List Int)=>([(3,(pt 1003)),(4,(qe_aLoad_3 r2.2.1)),(5,(qI_1 r2.2.2.1)),(10,(.sref 1056 1 0 p695.length)),(13,(pt 1013)),(14,(.sref 1089 1 0 s917.2.length)),(15,(bo m915)),(17,(i6 x895)),(48,(qe_aShed_2 r3.1)),(49,(i6 (r3.1.length:Int))),(50,(i6 s9)),(90,(qI_1 r2.2.2.1)),(91,(i6 (r2.2.2.1.length:Int))),(92,(i6 s707.2.1)),(141,(qI_1 r898.1)),(142,(i6 (r898.1.length:Int))),(143,(i6 s917.1))]:EL)) (fun s917:Int×(List Int)=>([(1003,bd 30 (e_aFabric r2.1)),(1013,bd 30 (e_aFabric r705)),(1056,some (.row 4 1 (p695.map eB))),(1089,some (wI_3_1 s917.2))]:OL)) (fun(p954:((List Int))) e E' O'=>e = .exit 6∧Mat B E' O' ([(3,(pt 1003)),(4,(qe_aLoad_3 r2.2.1)),(5,(qI_1 r2.2.2.1)),(10,(.sref 1056 1 0 p695.length)),(13,(pt 1013)),(14,(.sref 1089 1 0 p954.length)),(15,(bo m915)),(48,(qe_aShed_2 r3.1)),(49,(i6 (r3.1.length:Int))),(50,(i6 s9)),(90,(qI_1 r2.2.2.1)),(91,(i6 (r2.2.2.1.length:Int))),(92,(i6 s707.2.1))]:EL) ([(1003,bd 30 (e_aFabric r2.1)),(1013,bd 30 (e_aFabric r705)),(1056,some (.row 4 1 (p695.map eB))),(1089,some (wI_3_1 p954))]:OL)) hx974 (mp [] _ _ hB) (fun s917 y h => ?_) (fun e E' O' hR => ?_)
             ·unfold xlaw43_PlanCarries_L3 at h
              refine sr (SQ tt) ?_
              apply AWp.seq
              apply AWp.cond rfl<;>intro hg955
              ·have h:=ite_t hg955 h
               apply AWp.skip
               apply seqQ_n
               apply AWp.seq
               apply AWp.block
               obtain⟨x956,hx956,h⟩:=bindS h
               refine sr (SQ (fa hx956 tt)) ?_
               obtain⟨_,hx957,h⟩:=bindS h
               obtain⟨_,hx958,h⟩:=bindS h
               refine sr (SQ (fa hx957 (fa hx958 tt))) ?_
               refine gh [(3,_),(4,_),(5,_),(10,_),(13,_),(14,_),(15,_),(17,_),(21,_),(48,_),(49,_),(50,_),(90,_),(91,_),(92,_),(141,_),(142,_),(143,_),(151,_)] [(1003,some _),(1013,some _),(1056,some _),(1089,some _)] hB rfl rfl (by rfl) ?_
               refine AWp.cut h (fun m965:(List Int)=>([(3,(pt 1003)),(4,(qe_aLoad_3 r2.2.1)),(5,(qI_1 r2.2.2.1)),(10,(.sref 1056 1 0 p695.length)),(13,(pt 1013)),(14,(.sref 1089 1 0 m965.length)),(15,(bo m915)),(17,(i6 x895)),(48,(qe_aShed_2 r3.1)),(49,(i6 (r3.1.length:Int))),(50,(i6 s9)),(90,(qI_1 r2.2.2.1)),(91,(i6 (r2.2.2.1.length:Int))),(92,(i6 s707.2.1)),(141,(qI_1 r898.1)),(142,(i6 (r898.1.length:Int))),(143,(i6 s917.1))]:EL)) (fun m965:(List Int)=>([(1003,bd 30 (e_aFabric r2.1)),(1013,bd 30 (e_aFabric r705)),(1056,some (.row 4 1 (p695.map eB))),(1089,some (wI_3_1 m965))]:OL)) (fun m965 h E' O' hmat => ?_) (fun j966 hjj966 h => ?_)
               ·apply blkQ_n
                apply seqQ_n
                refine AWp.ghost hmat ?_
                refine rg (SQ tt) ?_
                obtain rfl:=oi h
                exact⟨rfl,(mp [] _ _ hB)⟩
               ·apply AWp.cond rfl<;>intro hg967
                ·have h:=ite_t hg967 h
                 obtain⟨_,hx968,h⟩:=bindS h
                 obtain⟨x969,hx969,h⟩:=bindS h
                 obtain⟨x970,hx970,h⟩:=bindS h
                 obtain⟨_,hx971,h⟩:=bindS h
                 obtain⟨_,hx972,h⟩:=bindS h
                 refine drS (SQ (fa hx968 (fa hx969 (fa hx970 (fa hx971 (fa hx972 (fa (sv (w64 (x969+x970.fRate))) tt))))))) ?_
                 exact hjj966 _ h _ _ (Mat.trans (mp [] [(3,(pt 1003)),(4,(qe_aLoad_3 r2.2.1)),(5,(qI_1 r2.2.2.1)),(10,(.sref 1056 1 0 p695.length)),(13,(pt 1013)),(14,(.sref 1089 1 0 s917.2.length)),(15,(bo m915)),(17,(i6 x895)),(48,(qe_aShed_2 r3.1)),(49,(i6 (r3.1.length:Int))),(50,(i6 s9)),(90,(qI_1 r2.2.2.1)),(91,(i6 (r2.2.2.1.length:Int))),(92,(i6 s707.2.1)),(141,(qI_1 r898.1)),(142,(i6 (r898.1.length:Int))),(143,(i6 s917.1))] [(1003,bd 30 (e_aFabric r2.1)),(1013,bd 30 (e_aFabric r705)),(1056,some (.row 4 1 (p695.map eB))),(1089,some (wI_3_1 (s917.2.set x956.toNat (w64 (x969+x970.fRate)))))] hB) (Mat.trans (Mat.lenP (Ts:=[(14,(.sref 1089 1 0 ((s917.2.set x956.toNat (w64 (x969+x970.fRate))).length)))]) (Bs:=[]) (TwT.cons (x:=(.sref 1089 1 0 s917.2.length)) (by rfl) (Tw.leaf ⟨_,_,_,_,_,rfl,rfl,(by first | rfl | (simp;done) | (simp;omega) | omega)⟩) TwT.nil) TwB.nil) (mp [] _ _ hB)))
                ·have h:=ite_f hg967 h
                 apply AWp.skip
                 exact hjj966 _ h _ _ (mp [] _ _ hB)
              ·have h:=ite_f hg955 h
               apply AWp.exit
               apply seqQ_e
               obtain rfl:=oi h
               exact⟨(fun hc=>by cases hc),rfl,(mp [] _ _ hB)⟩
             ·obtain⟨rfl,hmat⟩:=hR
              apply blkQ_hit
              apply blkQ_n
              apply seqQ_n
              refine AWp.ghost hmat ?_
              refine rg (SQ tt) ?_
              obtain rfl:=oi h
              exact⟨rfl,(mp [] _ _ hB)⟩
            ·rcases bft s707.1 with hg975 | hg975
             ·have h:=ite_t hg975 h
              refine rg (SQ (fa hg975 tt)) ?_
              exact hjj916 _ h _ _ (mp [] _ _ hB)
             ·have h:=ite_f hg975 h
              obtain⟨_,hx976,h⟩:=bindS h
              obtain⟨_,hx977,h⟩:=bindS h
              refine rg (SQ (fa hg975 (fa hx976 (fa hx977 tt)))) ?_
              exact hjj916 _ h _ _ (mp [] _ _ hB)
          ·rcases bft r898.2 with hg978 | hg978
           ·have h:=ite_t hg978 h
            obtain⟨_,hx979,h⟩:=bindS h
            obtain⟨x980,hx980,h⟩:=bindS h
            rcases bft (x980&&s707.1) with hg981 | hg981
            ·have h:=ite_t hg981 h
             refine rg (SQ (fa hg978 (fa hx979 (fa hx980 (fa hg981 tt))))) ?_
             exact hjj910 _ h _ _ (mp [] _ _ hB)
            ·have h:=ite_f hg981 h
             rcases bft (!r898.2) with hg982 | hg982
             ·have h:=ite_t hg982 h
              obtain⟨_,hx983,h⟩:=bindS h
              obtain⟨_,hx984,h⟩:=bindS h
              refine rg (SQ (fa hg978 (fa hx979 (fa hx980 (fa hg981 (fa hg982 (fa hx983 (fa hx984 tt)))))))) ?_
              exact hjj910 _ h _ _ (mp [] _ _ hB)
             ·have h:=ite_f hg982 h
              refine rg (SQ (fa hg978 (fa hx979 (fa hx980 (fa hg981 (fa hg982 tt)))))) ?_
              exact hjj910 _ h _ _ (mp [] _ _ hB)
           ·have h:=ite_f hg978 h
            rcases bft (!r898.2) with hg985 | hg985
            ·have h:=ite_t hg985 h
             obtain⟨_,hx986,h⟩:=bindS h
             obtain⟨_,hx987,h⟩:=bindS h
             refine rg (SQ (fa hg978 (fa hg985 (fa hx986 (fa hx987 tt))))) ?_
             exact hjj910 _ h _ _ (mp [] _ _ hB)
            ·have h:=ite_f hg985 h
             refine rg (SQ (fa hg978 (fa hg985 tt))) ?_
             exact hjj910 _ h _ _ (mp [] _ _ hB)
         ·have h:=ite_f hg894 h
          apply AWp.exit
          apply seqQ_e
          obtain rfl:=oi h
          exact⟨(fun hc=>by cases hc),rfl,(mp [] _ _ hB)⟩
        ·rcases x988 with _ | p893
         ·obtain⟨rfl,hmat⟩:=hR
          apply blkQ_r
          apply seqQ_r
          apply blkQ_r
          apply seqQ_r
          obtain rfl:=oi h
          exact⟨(fun hc=>by cases hc),rfl,(Mat.trans hmat (mp [] _ _ hB))⟩
         ·obtain⟨rfl,hmat⟩:=hR
          apply blkQ_hit
          apply seqQ_n
          refine AWp.ghost hmat ?_
          refine sr (SQ tt) ?_
          apply AWp.block
          obtain⟨x1008,hx1009,h⟩:=bindS h
          refine lg (xlaw43_PlanCarries_L4 r2 p893) (fun s990:Int=>([(3,(pt 1003)),(4,(qe_aLoad_3 r2.2.1)),(5,(qI_1 r2.2.2.1)),(48,(qe_aShed_2 r3.1)),(49,(i6 (r3.1.length:Int))),(50,(i6 s9)),(165,(.sref 1089 1 0 p893.length)),(166,(i6 (p893.length:Int))),(167,(i6 s990))]:EL)) (fun s990:Int=>([(1003,bd 30 (e_aFabric r2.1)),(1089,some (wI_3_1 p893))]:OL)) (fun(x:(Unit)⊕(Unit)) e E' O'=>match x with | (.inl _p)=>e = .ret∧Mat B E' O' ([(2,(bo false))]:EL) ([]:OL) | (.inr _p)=>e = .exit 8∧Mat B E' O' ([(3,(pt 1003)),(4,(qe_aLoad_3 r2.2.1)),(5,(qI_1 r2.2.2.1)),(48,(qe_aShed_2 r3.1)),(49,(i6 (r3.1.length:Int))),(50,(i6 s9))]:EL) ([(1003,bd 30 (e_aFabric r2.1))]:OL)) hx1009 (mp [] _ _ hB) (fun s990 y h => ?_) (fun e E' O' hR => ?_)
          ·unfold xlaw43_PlanCarries_L4 at h
           refine sr (SQ tt) ?_
           apply AWp.seq
           apply AWp.cond rfl<;>intro hg1003
           ·have h:=ite_t hg1003 h
            apply AWp.skip
            apply seqQ_n
            apply AWp.seq
            apply AWp.block
            obtain⟨_,hx1004,h⟩:=bindS h
            obtain⟨_,hx1005,h⟩:=bindS h
            refine sr (SQ (fa hx1004 (fa hx1005 tt))) ?_
            obtain⟨_,hx1006,h⟩:=bindS h
            refine sr (SQ (fa hx1006 tt)) ?_
            apply AWp.cond rfl<;>intro hg1007
            ·have h:=ite_t hg1007 h
             refine sr (SQ tt) ?_
             apply AWp.ret
             apply blkQ_r
             apply seqQ_r
             obtain rfl:=oi h
             exact⟨(fun hc=>by cases hc),rfl,(mp [] _ _ hB)⟩
            ·have h:=ite_f hg1007 h
             apply AWp.skip
             apply blkQ_n
             apply seqQ_n
             refine rg (SQ tt) ?_
             obtain rfl:=oi h
             exact⟨rfl,(mp [] _ _ hB)⟩
           ·have h:=ite_f hg1003 h
            apply AWp.exit
            apply seqQ_e
            obtain rfl:=oi h
            exact⟨(fun hc=>by cases hc),rfl,(mp [] _ _ hB)⟩
          ·rcases x1008 with _ | _
           ·obtain⟨rfl,hmat⟩:=hR
            apply blkQ_r
            apply blkQ_r
            apply seqQ_r
            obtain rfl:=oi h
            exact⟨(fun hc=>by cases hc),rfl,(Mat.trans hmat (mp [] _ _ hB))⟩
           ·obtain⟨rfl,hmat⟩:=hR
            apply blkQ_hit
            apply blkQ_n
            apply seqQ_n
            refine AWp.ghost hmat ?_
            refine rg (SQ tt) ?_
            obtain rfl:=oi h
            exact⟨rfl,(mp [] _ _ hB)⟩
    ·have h:=ite_f hg680 h
     apply AWp.exit
     apply seqQ_e
     obtain rfl:=oi h
     exact⟨(fun hc=>by cases hc),rfl,(mp [] _ _ hB)⟩
   ·rcases x1010 with _ | _
    ·obtain⟨rfl,hmat⟩:=hR
     apply blkQ_r
     apply seqQ_r
     obtain rfl:=oi h
     exact rt (Mat.trans hmat (mp [] [(2,(bo false))] [] hB)) [(bo false)] (Res.tmp (by rfl) (by rfl) Res.nil) rfl
    ·obtain⟨rfl,hmat⟩:=hR
     apply blkQ_hit
     apply seqQ_n
     refine AWp.ghost hmat ?_
     obtain⟨r1012,hr1012,h⟩:=bindS h
     refine sr (SQ (fa (cl [] (xlaw43_awake_ac r1012 hr1012)) tt)) ?_
     apply AWp.ret
     obtain rfl:=oi h
     exact rt (kp [(2,_)] [] hB rfl rfl (by rfl)) [(bo r1012)] (Res.tmp (by rfl) (by rfl) Res.nil) rfl
 ·rcases bft (r3.2 != 0) with hg1013 | hg1013
  ·have h:=ite_t hg1013 h
   refine rg (SQ (fa hg1013 tt)) ?_
   exact hjj7 _ h _ _ (mp [] _ _ hB)
  ·have h:=ite_f hg1013 h
   obtain⟨r1014,hr1014,h⟩:=bindS h
   refine rg (SQ (fa hg1013 (fa (cl [] (plan_Check_ac r2.1 r2.2.1 r2.2.2.1 r3.1 r1014 hr1014)) tt))) ?_
   exact hjj7 _ h _ _ (mp [] _ _ hB)
end
end Go.Proofs.Ytkcpjnjneehecaa
