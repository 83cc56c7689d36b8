/- Printed by gen.py: the Go functions as plain functions, and that the code does what they say. -/
import Derived.Test.YtkcpjnjneehecaaChecked
import Derived.Test.YtkcpjnjneehecaaVcYB
import Derived.Test.YtkcpjnjneehecaaVcZ
import Derived.Test.YtkcpjnjneehecaaVcGC
import Derived.KernelRfl
import Derived.Test.YtkcpjnjneehecaaFnsB
import Derived.Test.YtkcpjnjneehecaaExt
import Derived.Test.YtkcpjnjneehecaaVcWS
import Derived.Test.YtkcpjnjneehecaaVcQu
namespace Go.Proofs.Ytkcpjnjneehecaa
open Go Go.Vc
open Go.Vc.OpJ (assign alloc lss pickT pickF extract lenD indexD loadD eqlI gtr callVal leq geq loadR nilP indexS buildSlice lenS fieldD neqI pickAnd pickOr)
set_option maxHeartbeats 4000000
set_option maxRecDepth 100000
noncomputable section
def xlaw43_PlanSheds_L1 (a1:(List Int)) (r4:aFabric×(List aLoad)×(List Int)×exchangepointmill_Deck) (x96:(List aItem)) (s97:Int):Option (((Unit)⊕(Unit))⊕(Int)) :=
 (if (decide (s97<(([r4.2.2.1,a1]:List (List Int)).length:Int)))=true then
 (idx ([r4.2.2.1,a1]:List (List Int)) s97).bind fun x123 =>
 (plan_Shed r4.1 r4.2.1 x123 x96).bind fun r124 =>
 (xref43_Shed r4.1 r4.2.1 x123 x96).bind fun r125 =>
 jn (fun m128:Bool =>
 (if m128=true then
 some (.inl (.inl ()))
 else
 some (.inr (w64 (s97+1))))) (fun j129 =>
 (if (r124.2 != r125.2)=true then
 j129 true
 else
 (xref23_SameInts r124.1 r125.1).bind fun r132 =>
 j129 (!r132)))
 else
 some (.inl (.inr ())))
def xlaw43_PlanSheds_L0 (a0:(List aItem)) (a1:(List Int)) (r4:aFabric×(List aLoad)×(List Int)×exchangepointmill_Deck) (r9:(List aItem)×exchangepointmill_Deck) (s10:Int):Option (((Unit)⊕(Unit))⊕(Int)) :=
 (if (decide (s10<(([([]:List aItem),a0,r9.1]:List (List aItem)).length:Int)))=true then
 (idx ([([]:List aItem),a0,r9.1]:List (List aItem)) s10).bind fun x96 =>
 (loop (xlaw43_PlanSheds_L1 a1 r4 x96) 0).bind fun x133=>match x133 with
 | (.inl _) =>
  some (.inl (.inl ()))
 | (.inr _) =>
  some (.inr (w64 (s10+1)))
 else
 some (.inl (.inr ())))
def xlaw43_PlanSheds (a0:(List aItem)) (a1:(List Int)) (a2:(List Int)):Option (Bool) :=
 (if ((decide (20<(a0.length:Int))) || (decide (60<(a1.length:Int))))=true then
 (xlaw43_awake).bind fun r2 =>
 some r2
 else
 (exchangepointmill_New a2).bind fun r3 =>
 (xlaw43_scene r3).bind fun r4 =>
 (plan_Failures r4.1).bind fun r5 =>
 (xref43_Failures r4.1).bind fun r6 =>
 (xref42_SameRounds r5 r6).bind fun r7 =>
 (if (!r7)=true then
 some false
 else
 (exchangepointmill_Deck_Items r4.2.2.2 r4.1 3).bind fun r9 =>
 (loop (xlaw43_PlanSheds_L0 a0 a1 r4 r9) 0).bind fun x135=>match x135 with
 | (.inl _) =>
  some false
 | (.inr _) =>
  (xlaw43_awake).bind fun r137 =>
  some r137))
theorem xlaw43_PlanSheds_ac (a0:(List aItem)) (a1:(List Int)) (a2:(List Int)) (r:Bool) (h:xlaw43_PlanSheds a0 a1 a2=some r):AC Try.prog 3 [(.d (.list 2 (a0.map e_aItem))),(.d (.list 1 (a1.map (eI .i64)))),(.d (.list 1 (a2.map (eI .i64))))] [] (.d (.bool r)) []:=by
 refine ac2 Try.func3 rfl rfl fun B hB hN L => ?_
 delta xlaw43_PlanSheds at h
 refine sr (SQ tt) ?_
 apply AWp.seq
 refine sr (SQ tt) ?_
 apply AWp.cond rfl<;>intro hg1
 ·have h:=ite_t hg1 h
  obtain⟨r2,hr2,h⟩:=bindS h
  refine sr (SQ (fa (cl [] (xlaw43_awake_ac r2 hr2)) tt)) ?_
  apply AWp.ret
  apply seqQ_r
  obtain rfl:=oi h
  exact rt (kp [(6,_)] [] hB rfl rfl (by rfl)) [(bo r2)] (Res.tmp (by rfl) (by rfl) Res.nil) rfl
 ·have h:=ite_f hg1 h
  apply AWp.skip
  apply seqQ_n
  apply AWp.seq
  obtain⟨r3,hr3,h⟩:=bindS h
  refine rg (SQ (fa (cl [(1005,100100)] (exchangepointmill_New_ac a2 r3 hr3)) tt)) ?_
  apply seqQ_n
  refine AWp.ghost (mp [] [(0,(qe_aItem_2 a0)),(1,(qI_1 a1)),(7,(pt 100100))] [(100100,bd 68 (e_exchangepointmill_Deck r3))] hB) ?_
  apply AWp.seq
  obtain⟨r4,hr4,h⟩:=bindS h
  refine rg (SQ (fa (cl [(0,100100)] (xlaw43_scene_ac r3 r4 hr4)) tt)) ?_
  apply seqQ_n
  refine AWp.ghost (mp [] [(0,(qe_aItem_2 a0)),(1,(qI_1 a1)),(7,(pt 100100)),(8,(pt 1008)),(9,(qe_aLoad_3 r4.2.1)),(10,(qI_1 r4.2.2.1))] [(1008,bd 30 (e_aFabric r4.1)),(100100,bd 68 (e_exchangepointmill_Deck r4.2.2.2))] hB) ?_
  obtain⟨r5,hr5,h⟩:=bindS h
  obtain⟨r6,hr6,h⟩:=bindS h
  refine sdS (SQ (fa (cl [] (plan_Failures_ac r4.1 r5 hr5)) (fa (cl [] (xref43_Failures_ac r4.1 r6 hr6)) tt))) ?_
  apply AWp.seq
  obtain⟨r7,hr7,h⟩:=bindS h
  refine sr (SQ (fa (cl [] (xref42_SameRounds_ac r5 r6 r7 hr7)) tt)) ?_
  apply AWp.cond rfl<;>intro hg8
  ·have h:=ite_t hg8 h
   refine sr (SQ tt) ?_
   apply AWp.ret
   apply seqQ_r
   obtain rfl:=oi h
   exact rt (kp [(6,_)] [] hB rfl rfl (by rfl)) [(bo false)] (Res.tmp (by rfl) (by rfl) Res.nil) rfl
  ·have h:=ite_f hg8 h
   apply AWp.skip
   apply seqQ_n
   apply AWp.seq
   apply AWp.seq
   obtain⟨r9,hr9,h⟩:=bindS h
   refine rg (SQ (fa (cl [(0,100100)] (exchangepointmill_Deck_Items_ac r4.2.2.2 r4.1 3 r9 hr9)) tt)) ?_
   apply seqQ_n
   refine AWp.ghost (mp [] [(1,(qI_1 a1)),(8,(pt 1008)),(9,(qe_aLoad_3 r4.2.1)),(10,(qI_1 r4.2.2.1)),(50,(.d (.list 1 (([([]:List aItem),a0,r9.1]:List (List aItem)).map e_LeapiItem)))),(51,(i6 (([([]:List aItem),a0,r9.1]:List (List aItem)).length:Int))),(52,(i6 0))] [(1008,bd 30 (e_aFabric r4.1))] hB) ?_
   apply AWp.block
   obtain⟨x135,hx136,h⟩:=bindS h
   refine lg (xlaw43_PlanSheds_L0 a0 a1 r4 r9) (fun s10:Int=>([(1,(qI_1 a1)),(8,(pt 1008)),(9,(qe_aLoad_3 r4.2.1)),(10,(qI_1 r4.2.2.1)),(50,(.d (.list 1 (([([]:List aItem),a0,r9.1]:List (List aItem)).map e_LeapiItem)))),(51,(i6 (([([]:List aItem),a0,r9.1]:List (List aItem)).length:Int))),(52,(i6 s10))]:EL)) (fun s10:Int=>([(1008,bd 30 (e_aFabric r4.1))]:OL)) (fun(x:(Unit)⊕(Unit)) e E' O'=>match x with | (.inl _p)=>e = .ret∧Mat B E' O' ([(6,(bo false))]:EL) ([]:OL) | (.inr _p)=>e = .exit 0∧Mat B E' O' ([]:EL) ([]:OL)) hx136 (mp [] _ _ hB) (fun s10 y h => ?_) (fun e E' O' hR => ?_)
   ·unfold xlaw43_PlanSheds_L0 at h
    refine sr (SQ tt) ?_
    apply AWp.seq
    apply AWp.cond rfl<;>intro hg95
    ·have h:=ite_t hg95 h
     apply AWp.skip
     apply seqQ_n
     apply AWp.seq
     apply AWp.block
     obtain⟨x96,hx96,h⟩:=bindS h
     refine sr (SQ (fa hx96 tt)) ?_
     refine sr (SQ tt) ?_
     apply AWp.block
     obtain⟨x133,hx134,h⟩:=bindS h
     refine lg (xlaw43_PlanSheds_L1 a1 r4 x96) (fun s97:Int=>([(1,(qI_1 a1)),(8,(pt 1008)),(9,(qe_aLoad_3 r4.2.1)),(10,(qI_1 r4.2.2.1)),(14,(qe_aItem_2 x96)),(50,(.d (.list 1 (([([]:List aItem),a0,r9.1]:List (List aItem)).map e_LeapiItem)))),(51,(i6 (([([]:List aItem),a0,r9.1]:List (List aItem)).length:Int))),(52,(i6 s10)),(58,(.d (.list 1 (([r4.2.2.1,a1]:List (List Int)).map e_LeIi64)))),(59,(i6 (([r4.2.2.1,a1]:List (List Int)).length:Int))),(60,(i6 s97))]:EL)) (fun s97:Int=>([(1008,bd 30 (e_aFabric r4.1))]:OL)) (fun(x:(Unit)⊕(Unit)) e E' O'=>match x with | (.inl _p)=>e = .ret∧Mat B E' O' ([(6,(bo false))]:EL) ([]:OL) | (.inr _p)=>e = .exit 2∧Mat B E' O' ([(1,(qI_1 a1)),(8,(pt 1008)),(9,(qe_aLoad_3 r4.2.1)),(10,(qI_1 r4.2.2.1)),(50,(.d (.list 1 (([([]:List aItem),a0,r9.1]:List (List aItem)).map e_LeapiItem)))),(51,(i6 (([([]:List aItem),a0,r9.1]:List (List aItem)).length:Int))),(52,(i6 s10))]:EL) ([(1008,bd 30 (e_aFabric r4.1))]:OL)) hx134 (mp [] _ _ hB) (fun s97 y h => ?_) (fun e E' O' hR => ?_)
     ·unfold xlaw43_PlanSheds_L1 at h
      refine sr (SQ tt) ?_
      apply AWp.seq
      apply AWp.cond rfl<;>intro hg122
      ·have h:=ite_t hg122 h
       apply AWp.skip
       apply seqQ_n
       apply AWp.seq
       apply AWp.block
       obtain⟨x123,hx123,h⟩:=bindS h
       refine sr (SQ (fa hx123 tt)) ?_
       obtain⟨r124,hr124,h⟩:=bindS h
       refine sr (SQ (fa (cl [] (plan_Shed_ac r4.1 r4.2.1 x123 x96 r124 hr124)) tt)) ?_
       obtain⟨r125,hr125,h⟩:=bindS h
       refine sr (SQ (fa (cl [] (xref43_Shed_ac r4.1 r4.2.1 x123 x96 r125 hr125)) tt)) ?_
       apply AWp.seq
       refine AWp.cut h (fun m128:Bool=>([(1,(qI_1 a1)),(8,(pt 1008)),(9,(qe_aLoad_3 r4.2.1)),(10,(qI_1 r4.2.2.1)),(14,(qe_aItem_2 x96)),(50,(.d (.list 1 (([([]:List aItem),a0,r9.1]:List (List aItem)).map e_LeapiItem)))),(51,(i6 (([([]:List aItem),a0,r9.1]:List (List aItem)).length:Int))),(52,(i6 s10)),(58,(.d (.list 1 (([r4.2.2.1,a1]:List (List Int)).map e_LeIi64)))),(59,(i6 (([r4.2.2.1,a1]:List (List Int)).length:Int))),(60,(i6 s97)),(88,(bo m128))]:EL)) (fun m128:Bool=>([(1008,bd 30 (e_aFabric r4.1))]:OL)) (fun m128 h E' O' hmat => ?_) (fun j129 hjj129 h => ?_)
       ·apply seqQ_n
        refine AWp.ghost hmat ?_
        apply AWp.cond rfl<;>intro hg130
        ·have h:=ite_t hg130 h
         refine sr (SQ tt) ?_
         apply AWp.ret
         apply blkQ_r
         apply seqQ_r
         obtain rfl:=oi h
         exact⟨(fun hc=>by cases hc),rfl,(mp [] _ _ hB)⟩
        ·have h:=ite_f hg130 h
         apply AWp.skip
         apply blkQ_n
         apply seqQ_n
         refine rg (SQ tt) ?_
         obtain rfl:=oi h
         exact⟨rfl,(mp [] _ _ hB)⟩
       ·rcases bft (r124.2 != r125.2) with hg131 | hg131
        ·have h:=ite_t hg131 h
         refine rg (SQ (fa hg131 tt)) ?_
         exact hjj129 _ h _ _ (mp [] _ _ hB)
        ·have h:=ite_f hg131 h
         obtain⟨r132,hr132,h⟩:=bindS h
         refine rg (SQ (fa hg131 (fa (cl [] (xref23_SameInts_ac r124.1 r125.1 r132 hr132)) tt))) ?_
         exact hjj129 _ h _ _ (mp [] _ _ hB)
      ·have h:=ite_f hg122 h
       apply AWp.exit
       apply seqQ_e
       obtain rfl:=oi h
       exact⟨(fun hc=>by cases hc),rfl,(mp [] _ _ hB)⟩
     ·rcases x133 with _ | _
      ·obtain⟨rfl,hmat⟩:=hR
       apply blkQ_r
       apply blkQ_r
       apply seqQ_r
       obtain rfl:=oi h
       exact⟨(fun hc=>by cases hc),rfl,(Mat.trans hmat (mp [] _ _ hB))⟩
      ·obtain⟨rfl,hmat⟩:=hR
       apply blkQ_hit
       apply blkQ_n
       apply seqQ_n
       refine AWp.ghost hmat ?_
       refine rg (SQ tt) ?_
       obtain rfl:=oi h
       exact⟨rfl,(mp [] _ _ hB)⟩
    ·have h:=ite_f hg95 h
     apply AWp.exit
     apply seqQ_e
     obtain rfl:=oi h
     exact⟨(fun hc=>by cases hc),rfl,(mp [] _ _ hB)⟩
   ·rcases x135 with _ | _
    ·obtain⟨rfl,hmat⟩:=hR
     apply blkQ_r
     apply seqQ_r
     obtain rfl:=oi h
     exact rt (Mat.trans hmat (mp [] [(6,(bo false))] [] hB)) [(bo false)] (Res.tmp (by rfl) (by rfl) Res.nil) rfl
    ·obtain⟨rfl,hmat⟩:=hR
     apply blkQ_hit
     apply seqQ_n
     refine AWp.ghost hmat ?_
     obtain⟨r137,hr137,h⟩:=bindS h
     refine sr (SQ (fa (cl [] (xlaw43_awake_ac r137 hr137)) tt)) ?_
     apply AWp.ret
     obtain rfl:=oi h
     exact rt (kp [(6,_)] [] hB rfl rfl (by rfl)) [(bo r137)] (Res.tmp (by rfl) (by rfl) Res.nil) rfl
end
end Go.Proofs.Ytkcpjnjneehecaa
