/- Printed by gen.py: the Go functions as plain functions, and that the code does what they say. -/
import Derived.Test.YtplbaenjbihekaaGreatDoorChecked
import Derived.Test.YtplbaenjbihekaaGreatDoorVcYB
import Derived.Test.YtplbaenjbihekaaGreatDoorVcZ
import Derived.Test.YtplbaenjbihekaaGreatDoorVcGC
import Derived.KernelRfl
import Derived.Test.YtplbaenjbihekaaGreatDoorVcMD
import Derived.Test.YtplbaenjbihekaaGreatDoorVcMQ
import Derived.Test.YtplbaenjbihekaaGreatDoorVcSG
import Derived.Test.YtplbaenjbihekaaGreatDoorFnsB
import Derived.Test.YtplbaenjbihekaaGreatDoorExt
import Derived.Test.YtplbaenjbihekaaGreatDoorVcPm
import Derived.Test.YtplbaenjbihekaaGreatDoorVcRg
import Derived.Test.YtplbaenjbihekaaGreatDoorVcSt
import Derived.Test.YtplbaenjbihekaaGreatDoorVcMR
import Derived.Test.YtplbaenjbihekaaGreatDoorVcFu
namespace Go.Proofs.YtplbaenjbihekaaGreatDoor
open Go Go.Vc
open Tryz
open Go.Vc.OpJ (assign alloc lss pickT pickF extract lenD indexD loadD eqlI gtr callVal leq geq loadR nilP indexS buildSlice lenS fieldD neqI pickAnd pickOr)
open Go.Vc.AWp (seq ghost ret block)
set_option maxHeartbeats 4000000
set_option maxRecDepth 100000
noncomputable section
def R8 (a0:(List A7)) (s1:Int):Option (((Unit)⊕(Unit))⊕(Int)) :=
 (if (decide (s1<(a0.length:Int)))=true then
 (idx a0 s1).bind fun x41 =>
 jn (fun m49:Bool =>
 (if m49=true then
 some (.inl (.inl ()))
 else
 some (.inr (w64 (s1+1))))) (fun j50 =>
 (A0s x41.fType).bind fun r52 =>
 (if (!r52)=true then
 j50 true
 else
 (H4 x41.fType 1 255).bind fun r54 =>
 (if (((!r54) || (x41.fFlags != 224)) || (decide (255<(x41.fData.length:Int))))=true then
 j50 true
 else
 (if (decide (0<s1))=true then
 (idx a0 (w64 (s1-1))).bind fun x57 =>
 j50 (decide (x41.fType≤x57.fType))
 else
 j50 false))))
 else
 some (.inl (.inr ())))
def O5 (a0:(List A7)):Option (Bool) :=
 (loop (R8 a0) 0).bind fun x58=>match x58 with
 | (.inl _) =>
  some false
 | (.inr _) =>
  some (decide ((a0.length:Int)≤8))
theorem A22 (a0:(List A7)) (r:Bool) (h:O5 a0=some r):AC Tryz.prog 164 [(.d (.list 3 (a0.map A5)))] [(500,(.know (globD 0 (.imap gv0))))] (.d (.bool r)) [(500,some (.know (globD 0 (.imap gv0))))]:=by
 refine ac2 Tryz.func164 rfl rfl fun B hB hN L => ?_
 delta O5 at h
 apply sr (c (assign (L rfl) (Opd.bool false)) rfl cn)
 apply seq
 apply sr (c (mv hN (q 0)) rfl (c (OpJ.val (v':=(i6 (a0.length:Int))) (by simp) (lenD underlying37 (L rfl) (q 5))) rfl (c (mv hN (ii 0)) rfl cn)))
 apply block
 obtain⟨x58,hx59,h⟩:=bindS h
 refine lg (R8 a0) (fun s1:Int=>([(0,(E8 a0)),(5,(E8 a0)),(6,(i6 (a0.length:Int))),(7,(i6 s1))]:EL)) (fun s1:Int=>([(500,some (.know (globD 0 (.imap gv0))))]:OL)) (fun(x:(Unit)⊕(Unit)) e E' O'=>match x with | (.inl _p)=>e = .ret∧Mat B E' O' ([(2,(bo false))]:EL) ([(500,some (.know (globD 0 (.imap gv0))))]:OL) | (.inr _p)=>e = .exit 0∧Mat B E' O' ([(0,(E8 a0))]:EL) ([(500,some (.know (globD 0 (.imap gv0))))]:OL)) hx59 (mp [] _ _ hB) (fun s1 y h => ?_) (fun e E' O' hR => ?_)
 ·unfold R8 at h
  apply sr (c (lss (L rfl) (q 7) (q 6)) rfl cn)
  apply seq
  apply AWp.cond rfl<;>intro hg40
  ·have h:=B6 hg40 h
   apply AWp.skip
   apply A3
   apply seq
   apply block
   obtain⟨x41,hx41,h⟩:=bindS h
   apply sr (c (mv hN (q 7)) rfl (c (indexD underlying37 tyS78 (A4 hx41).1 (C8 A5 (A4 hx41).2) (L rfl) (q 5) (q 7)) rfl (c (loadD tyS78 (by rfl) (by rfl) (L rfl) (q 10)) rfl (cg (alloc hB tyZ78 (nm:=1004) (by decide) (L rfl)) rfl (c (assign (L rfl) (q 9)) rfl (cg (sB tyS78 (q 4) (q 11)) rfl cn))))))
   apply seq
   refine AWp.cut h (fun m49:Bool=>([(0,(E8 a0)),(5,(E8 a0)),(6,(i6 (a0.length:Int))),(7,(i6 s1)),(47,(bo m49))]:EL)) (fun m49:Bool=>([(500,some (.know (globD 0 (.imap gv0))))]:OL)) (fun m49 h E' O' hmat => ?_) (fun j50 hjj50 h => ?_)
   ·apply A3
    refine ghost hmat ?_
    apply AWp.cond rfl<;>intro hg51
    ·have h:=B6 hg51 h
     apply sr (c (assign (L rfl) (Opd.bool false)) rfl cn)
     apply ret
     apply F7
     apply D4
     obtain rfl:=oi h
     exact⟨(fun hc=>by cases hc),rfl,(mp [] _ _ hB)⟩
    ·have h:=B7 hg51 h
     apply AWp.skip
     apply F8
     apply A3
     apply rg (c (add6 (L rfl) (q 7) (ii 1)) rfl (c (mv hN (q 48)) rfl cn))
     obtain rfl:=oi h
     exact⟨rfl,(mp [] _ _ hB)⟩
   ·obtain⟨r52,hr52,h⟩:=bindS h
    rcases bft (!r52) with hg53 | hg53
    ·have h:=B6 hg53 h
     refine AWp.draws (by kernel_rfl) (oc (ov (.ptr 1004 1 [1]) (fp hN underlying78 1 tyS3 (.box 78 (.d (A5 x41))) (ot 4 (pt 1004))))
      (oc (lb hN 78 (.d (A5 x41)) (i6 x41.fType) tyS3 (ad (.int .i64 x41.fType)) (ot 12 (.ptr 1004 1 [1])))
      (oc (OpJ.callFn hB fnOk175 (Q6 x41.fType r52 hr52) [(500,500)] (by kernel_rfl) (L rfl) (by kernel_rfl) (OpdL.cons (ot 13 (i6 x41.fType)) OpdL.nil))
      (oc (OpJ.not (L rfl) (ot 14 (bo r52)))
      (oc (OpJ.val (v':=.d (.bool true)) (by rw [hg53]<;>rfl) (mv hN (ot 15 (bo (!r52)))))
      (oc (sU 16 (L rfl))
      (oc (sU 16 (L rfl))
      (oc (sU 16 (L rfl))
      (oc (sU 16 (L rfl))
      (oc (pickT (L rfl) (ot 16 (bo true)) (Opd.bool true))
      (oc (mv hN (ot 21 (bo true)))
      (oc (sU 22 (L rfl))
      (oc (sU 22 (L rfl))
      (oc (sU 22 (L rfl))
      (oc (pickT (L rfl) (ot 22 (bo true)) (Opd.bool true))
      (oc (mv hN (ot 26 (bo true)))
      (oc (sU 27 (L rfl))
      (oc (sU 27 (L rfl))
      (oc (sU 27 (L rfl))
      (oc (sU 27 (L rfl))
      (oc (pickT (L rfl) (ot 27 (bo true)) (Opd.bool true))
      (oc (mv hN (ot 32 (bo true)))
      (oc (sU 33 (L rfl))
      (oc (sU 33 (L rfl))
      (oc (sU 33 (L rfl))
      (oc (sV 36 (L rfl))
      (oc (sV 36 (L rfl))
      (oc (sV 36 (L rfl))
      (oc (sV 36 (L rfl))
      (oc (sV 36 (L rfl))
      (oc (sV 36 (L rfl))
      (oc (sV 36 (L rfl))
      (oc (sV 36 (L rfl))
      (oc (sV 36 (L rfl))
      (oc (sU 33 (L rfl))
      (oc (pickT (L rfl) (ot 33 (bo true)) (Opd.bool true))
      (OpJs.nil))))))))))))))))))))))))))))))))))))) (by kernel_rfl) (by rfl) (by rfl) ?_
     exact hjj50 _ h _ _ (mp [] _ _ hB)
    ·have h:=B7 hg53 h
     obtain⟨r54,hr54,h⟩:=bindS h
     rcases bft (((!r54) || (x41.fFlags != 224)) || (decide (255<(x41.fData.length:Int)))) with hg55 | hg55
     ·have h:=B6 hg55 h
      refine AWp.draws (by kernel_rfl) (oc (ov (.ptr 1004 1 [1]) (fp hN underlying78 1 tyS3 (.box 78 (.d (A5 x41))) (ot 4 (pt 1004))))
       (oc (lb hN 78 (.d (A5 x41)) (i6 x41.fType) tyS3 (ad (.int .i64 x41.fType)) (ot 12 (.ptr 1004 1 [1])))
       (oc (OpJ.callFn hB fnOk175 (Q6 x41.fType r52 hr52) [(500,500)] (by kernel_rfl) (L rfl) (by kernel_rfl) (OpdL.cons (ot 13 (i6 x41.fType)) OpdL.nil))
       (oc (OpJ.not (L rfl) (ot 14 (bo r52)))
       (oc (OpJ.val (v':=.d (.bool false)) (by rw [hg53]<;>rfl) (mv hN (ot 15 (bo (!r52)))))
       (oc (gd 16 (ov (.ptr 1004 1 [1]) (fp hN underlying78 1 tyS3 (.box 78 (.d (A5 x41))) (ot 4 (pt 1004)))))
       (oc (gd 16 (lb hN 78 (.d (A5 x41)) (i6 x41.fType) tyS3 (ad (.int .i64 x41.fType)) (ot 17 (.ptr 1004 1 [1]))))
       (oc (gd 16 (cf hB fnOk159 (C2 x41.fType 1 255 r54 hr54) (L rfl) (OpdL.cons (ot 18 (i6 x41.fType)) (OpdL.cons (ii 1) (OpdL.cons (ii 255) OpdL.nil)))))
       (oc (gd 16 (OpJ.not (L rfl) (ot 19 (bo r54))))
       (oc (pickF (L rfl) (ot 16 (bo false)) (ot 20 (bo (!r54))))
       (oc (mv hN (ot 21 (bo (!r54))))
       (oc (op hN 22 (.ptr 1004 0 [0]) (ov (.ptr 1004 0 [0]) (fp hN underlying78 0 tyS3 (.box 78 (.d (A5 x41))) (ot 4 (pt 1004)))) (OptL.keep rfl OptL.nil) (GuardV.plain _))
       (oc (op hN 22 (i6 x41.fFlags) (lb hN 78 (.d (A5 x41)) (i6 x41.fFlags) tyS3 (ad (.int .i64 x41.fFlags)) (ot 23 (.ptr 1004 0 [0]))) (OptL.opt OptL.nil) (GuardV.plain _))
       (oc (op hN 22 (bo (x41.fFlags != 224)) (neqI (L rfl) (ot 24 (i6 x41.fFlags)) (ii 224)) (OptL.opt OptL.nil) (GuardV.plain _))
       (oc (pickOr rfl (L rfl) (ot 22 (bo (!r54))) (ot 25 (.opt ((!r54)==false) (bo (x41.fFlags != 224)))))
       (oc (mv hN (ot 26 (bo ((!r54) || (x41.fFlags != 224)))))
       (oc (op hN 27 (.ptr 1004 2 [2]) (ov (.ptr 1004 2 [2]) (fp hN underlying78 2 tyS76 (.box 78 (.d (A5 x41))) (ot 4 (pt 1004)))) (OptL.keep rfl OptL.nil) (GuardV.plain _))
       (oc (op hN 27 (.d (.list 1 (x41.fData.map (eI .u8)))) (lb hN 78 (.d (A5 x41)) (.d (.list 1 (x41.fData.map (eI .u8)))) tyS76 (ad (.list 1 (x41.fData.map (eI .u8)))) (ot 28 (.ptr 1004 2 [2]))) (OptL.opt OptL.nil) (GuardV.plain _))
       (oc (op hN 27 (i6 (x41.fData.length:Int)) (OpJ.val (v':=(i6 (x41.fData.length:Int))) (by simp) (lenD underlying76 (L rfl) (ot 29 (.d (.list 1 (x41.fData.map (eI .u8))))))) (OptL.opt OptL.nil) (GuardV.plain _))
       (oc (op hN 27 (bo (decide (255<(x41.fData.length:Int)))) (gtr (L rfl) (ot 30 (i6 (x41.fData.length:Int))) (ii 255)) (OptL.opt OptL.nil) (GuardV.plain _))
       (oc (pickOr rfl (L rfl) (ot 27 (bo ((!r54) || (x41.fFlags != 224)))) (ot 31 (.opt (((!r54) || (x41.fFlags != 224))==false) (bo (decide (255<(x41.fData.length:Int)))))))
       (oc (OpJ.val (v':=.d (.bool true)) (by rw [hg55]<;>rfl) (mv hN (ot 32 (bo (((!r54) || (x41.fFlags != 224)) || (decide (255<(x41.fData.length:Int))))))))
       (oc (sU 33 (L rfl))
       (oc (sU 33 (L rfl))
       (oc (sU 33 (L rfl))
       (oc (sV 36 (L rfl))
       (oc (sV 36 (L rfl))
       (oc (sV 36 (L rfl))
       (oc (sV 36 (L rfl))
       (oc (sV 36 (L rfl))
       (oc (sV 36 (L rfl))
       (oc (sV 36 (L rfl))
       (oc (sV 36 (L rfl))
       (oc (sV 36 (L rfl))
       (oc (sU 33 (L rfl))
       (oc (pickT (L rfl) (ot 33 (bo true)) (Opd.bool true))
       (OpJs.nil))))))))))))))))))))))))))))))))))))) (by kernel_rfl) (by rfl) (by rfl) ?_
      exact hjj50 _ h _ _ (mp [] _ _ hB)
     ·have h:=B7 hg55 h
      rcases bft (decide (0<s1)) with hg56 | hg56
      ·have h:=B6 hg56 h
       obtain⟨x57,hx57,h⟩:=bindS h
       refine AWp.draws (by kernel_rfl) (oc (ov (.ptr 1004 1 [1]) (fp hN underlying78 1 tyS3 (.box 78 (.d (A5 x41))) (ot 4 (pt 1004))))
        (oc (lb hN 78 (.d (A5 x41)) (i6 x41.fType) tyS3 (ad (.int .i64 x41.fType)) (ot 12 (.ptr 1004 1 [1])))
        (oc (OpJ.callFn hB fnOk175 (Q6 x41.fType r52 hr52) [(500,500)] (by kernel_rfl) (L rfl) (by kernel_rfl) (OpdL.cons (ot 13 (i6 x41.fType)) OpdL.nil))
        (oc (OpJ.not (L rfl) (ot 14 (bo r52)))
        (oc (OpJ.val (v':=.d (.bool false)) (by rw [hg53]<;>rfl) (mv hN (ot 15 (bo (!r52)))))
        (oc (gd 16 (ov (.ptr 1004 1 [1]) (fp hN underlying78 1 tyS3 (.box 78 (.d (A5 x41))) (ot 4 (pt 1004)))))
        (oc (gd 16 (lb hN 78 (.d (A5 x41)) (i6 x41.fType) tyS3 (ad (.int .i64 x41.fType)) (ot 17 (.ptr 1004 1 [1]))))
        (oc (gd 16 (cf hB fnOk159 (C2 x41.fType 1 255 r54 hr54) (L rfl) (OpdL.cons (ot 18 (i6 x41.fType)) (OpdL.cons (ii 1) (OpdL.cons (ii 255) OpdL.nil)))))
        (oc (gd 16 (OpJ.not (L rfl) (ot 19 (bo r54))))
        (oc (pickF (L rfl) (ot 16 (bo false)) (ot 20 (bo (!r54))))
        (oc (mv hN (ot 21 (bo (!r54))))
        (oc (op hN 22 (.ptr 1004 0 [0]) (ov (.ptr 1004 0 [0]) (fp hN underlying78 0 tyS3 (.box 78 (.d (A5 x41))) (ot 4 (pt 1004)))) (OptL.keep rfl OptL.nil) (GuardV.plain _))
        (oc (op hN 22 (i6 x41.fFlags) (lb hN 78 (.d (A5 x41)) (i6 x41.fFlags) tyS3 (ad (.int .i64 x41.fFlags)) (ot 23 (.ptr 1004 0 [0]))) (OptL.opt OptL.nil) (GuardV.plain _))
        (oc (op hN 22 (bo (x41.fFlags != 224)) (neqI (L rfl) (ot 24 (i6 x41.fFlags)) (ii 224)) (OptL.opt OptL.nil) (GuardV.plain _))
        (oc (pickOr rfl (L rfl) (ot 22 (bo (!r54))) (ot 25 (.opt ((!r54)==false) (bo (x41.fFlags != 224)))))
        (oc (mv hN (ot 26 (bo ((!r54) || (x41.fFlags != 224)))))
        (oc (op hN 27 (.ptr 1004 2 [2]) (ov (.ptr 1004 2 [2]) (fp hN underlying78 2 tyS76 (.box 78 (.d (A5 x41))) (ot 4 (pt 1004)))) (OptL.keep rfl OptL.nil) (GuardV.plain _))
        (oc (op hN 27 (.d (.list 1 (x41.fData.map (eI .u8)))) (lb hN 78 (.d (A5 x41)) (.d (.list 1 (x41.fData.map (eI .u8)))) tyS76 (ad (.list 1 (x41.fData.map (eI .u8)))) (ot 28 (.ptr 1004 2 [2]))) (OptL.opt OptL.nil) (GuardV.plain _))
        (oc (op hN 27 (i6 (x41.fData.length:Int)) (OpJ.val (v':=(i6 (x41.fData.length:Int))) (by simp) (lenD underlying76 (L rfl) (ot 29 (.d (.list 1 (x41.fData.map (eI .u8))))))) (OptL.opt OptL.nil) (GuardV.plain _))
        (oc (op hN 27 (bo (decide (255<(x41.fData.length:Int)))) (gtr (L rfl) (ot 30 (i6 (x41.fData.length:Int))) (ii 255)) (OptL.opt OptL.nil) (GuardV.plain _))
        (oc (pickOr rfl (L rfl) (ot 27 (bo ((!r54) || (x41.fFlags != 224)))) (ot 31 (.opt (((!r54) || (x41.fFlags != 224))==false) (bo (decide (255<(x41.fData.length:Int)))))))
        (oc (OpJ.val (v':=.d (.bool false)) (by rw [hg55]<;>rfl) (mv hN (ot 32 (bo (((!r54) || (x41.fFlags != 224)) || (decide (255<(x41.fData.length:Int))))))))
        (oc (gd 33 (mv hN (ot 3 (i6 s1))))
        (oc (gd 33 (gtr (L rfl) (ot 34 (i6 s1)) (ii 0)))
        (oc (gd 33 (OpJ.val (v':=.d (.bool true)) (by rw [hg56]<;>rfl) (mv hN (ot 35 (bo (decide (0<s1)))))))
        (oc (gd 36 (mv hN (ot 0 (E8 a0))))
        (oc (gd 36 (mv hN (ot 3 (i6 s1))))
        (oc (gd 36 (sub6 (L rfl) (ot 38 (i6 s1)) (ii 1)))
        (oc (gd 36 (indexD (el:=(A5 x57)) underlying37 tyS78 (A4 hx57).1 (C8 A5 (A4 hx57).2) (L rfl) (ot 37 (E8 a0)) (ot 39 (i6 (w64 (s1-1))))))
        (oc (gd 36 (fieldD underlying78 (by rfl) (o:=1) (by rfl) tyS3 (by decide) (ds:=[(.int .i64 x57.fFlags),(.int .i64 x57.fType),(.list 1 (x57.fData.map (eI .u8)))]) (e:=(.int .i64 x57.fType)) (by rfl) (by rfl) (L rfl) (ot 40 (.dptr (A5 x57)))))
        (oc (gd 36 (loadD tyS3 (by rfl) (by rfl) (L rfl) (ot 41 (.dptr (.int .i64 x57.fType)))))
        (oc (gd 36 (ov (.ptr 1004 1 [1]) (fp hN underlying78 1 tyS3 (.box 78 (.d (A5 x41))) (ot 4 (pt 1004)))))
        (oc (gd 36 (lb hN 78 (.d (A5 x41)) (i6 x41.fType) tyS3 (ad (.int .i64 x41.fType)) (ot 43 (.ptr 1004 1 [1]))))
        (oc (gd 36 (geq (L rfl) (ot 42 (i6 x57.fType)) (ot 44 (i6 x41.fType))))
        (oc (gd 33 (pickT (L rfl) (ot 36 (bo true)) (ot 45 (bo (decide (x41.fType≤x57.fType))))))
        (oc (pickF (L rfl) (ot 33 (bo false)) (ot 46 (bo (decide (x41.fType≤x57.fType)))))
        (OpJs.nil))))))))))))))))))))))))))))))))))))) (by kernel_rfl) (by rfl) (by rfl) ?_
       exact hjj50 _ h _ _ (mp [] _ _ hB)
      ·have h:=B7 hg56 h
       refine AWp.draws (by kernel_rfl) (oc (ov (.ptr 1004 1 [1]) (fp hN underlying78 1 tyS3 (.box 78 (.d (A5 x41))) (ot 4 (pt 1004))))
        (oc (lb hN 78 (.d (A5 x41)) (i6 x41.fType) tyS3 (ad (.int .i64 x41.fType)) (ot 12 (.ptr 1004 1 [1])))
        (oc (OpJ.callFn hB fnOk175 (Q6 x41.fType r52 hr52) [(500,500)] (by kernel_rfl) (L rfl) (by kernel_rfl) (OpdL.cons (ot 13 (i6 x41.fType)) OpdL.nil))
        (oc (OpJ.not (L rfl) (ot 14 (bo r52)))
        (oc (OpJ.val (v':=.d (.bool false)) (by rw [hg53]<;>rfl) (mv hN (ot 15 (bo (!r52)))))
        (oc (gd 16 (ov (.ptr 1004 1 [1]) (fp hN underlying78 1 tyS3 (.box 78 (.d (A5 x41))) (ot 4 (pt 1004)))))
        (oc (gd 16 (lb hN 78 (.d (A5 x41)) (i6 x41.fType) tyS3 (ad (.int .i64 x41.fType)) (ot 17 (.ptr 1004 1 [1]))))
        (oc (gd 16 (cf hB fnOk159 (C2 x41.fType 1 255 r54 hr54) (L rfl) (OpdL.cons (ot 18 (i6 x41.fType)) (OpdL.cons (ii 1) (OpdL.cons (ii 255) OpdL.nil)))))
        (oc (gd 16 (OpJ.not (L rfl) (ot 19 (bo r54))))
        (oc (pickF (L rfl) (ot 16 (bo false)) (ot 20 (bo (!r54))))
        (oc (mv hN (ot 21 (bo (!r54))))
        (oc (op hN 22 (.ptr 1004 0 [0]) (ov (.ptr 1004 0 [0]) (fp hN underlying78 0 tyS3 (.box 78 (.d (A5 x41))) (ot 4 (pt 1004)))) (OptL.keep rfl OptL.nil) (GuardV.plain _))
        (oc (op hN 22 (i6 x41.fFlags) (lb hN 78 (.d (A5 x41)) (i6 x41.fFlags) tyS3 (ad (.int .i64 x41.fFlags)) (ot 23 (.ptr 1004 0 [0]))) (OptL.opt OptL.nil) (GuardV.plain _))
        (oc (op hN 22 (bo (x41.fFlags != 224)) (neqI (L rfl) (ot 24 (i6 x41.fFlags)) (ii 224)) (OptL.opt OptL.nil) (GuardV.plain _))
        (oc (pickOr rfl (L rfl) (ot 22 (bo (!r54))) (ot 25 (.opt ((!r54)==false) (bo (x41.fFlags != 224)))))
        (oc (mv hN (ot 26 (bo ((!r54) || (x41.fFlags != 224)))))
        (oc (op hN 27 (.ptr 1004 2 [2]) (ov (.ptr 1004 2 [2]) (fp hN underlying78 2 tyS76 (.box 78 (.d (A5 x41))) (ot 4 (pt 1004)))) (OptL.keep rfl OptL.nil) (GuardV.plain _))
        (oc (op hN 27 (.d (.list 1 (x41.fData.map (eI .u8)))) (lb hN 78 (.d (A5 x41)) (.d (.list 1 (x41.fData.map (eI .u8)))) tyS76 (ad (.list 1 (x41.fData.map (eI .u8)))) (ot 28 (.ptr 1004 2 [2]))) (OptL.opt OptL.nil) (GuardV.plain _))
        (oc (op hN 27 (i6 (x41.fData.length:Int)) (OpJ.val (v':=(i6 (x41.fData.length:Int))) (by simp) (lenD underlying76 (L rfl) (ot 29 (.d (.list 1 (x41.fData.map (eI .u8))))))) (OptL.opt OptL.nil) (GuardV.plain _))
        (oc (op hN 27 (bo (decide (255<(x41.fData.length:Int)))) (gtr (L rfl) (ot 30 (i6 (x41.fData.length:Int))) (ii 255)) (OptL.opt OptL.nil) (GuardV.plain _))
        (oc (pickOr rfl (L rfl) (ot 27 (bo ((!r54) || (x41.fFlags != 224)))) (ot 31 (.opt (((!r54) || (x41.fFlags != 224))==false) (bo (decide (255<(x41.fData.length:Int)))))))
        (oc (OpJ.val (v':=.d (.bool false)) (by rw [hg55]<;>rfl) (mv hN (ot 32 (bo (((!r54) || (x41.fFlags != 224)) || (decide (255<(x41.fData.length:Int))))))))
        (oc (gd 33 (mv hN (ot 3 (i6 s1))))
        (oc (gd 33 (gtr (L rfl) (ot 34 (i6 s1)) (ii 0)))
        (oc (gd 33 (OpJ.val (v':=.d (.bool false)) (by rw [hg56]<;>rfl) (mv hN (ot 35 (bo (decide (0<s1)))))))
        (oc (sU 36 (L rfl))
        (oc (sU 36 (L rfl))
        (oc (sU 36 (L rfl))
        (oc (sU 36 (L rfl))
        (oc (sU 36 (L rfl))
        (oc (sU 36 (L rfl))
        (oc (sU 36 (L rfl))
        (oc (sU 36 (L rfl))
        (oc (sU 36 (L rfl))
        (oc (gd 33 (pickF (L rfl) (ot 36 (bo false)) (Opd.bool false)))
        (oc (pickF (L rfl) (ot 33 (bo false)) (ot 46 (bo false)))
        (OpJs.nil))))))))))))))))))))))))))))))))))))) (by kernel_rfl) (by rfl) (by rfl) ?_
       exact hjj50 _ h _ _ (mp [] _ _ hB)
  ·have h:=B7 hg40 h
   apply AWp.exit
   apply F6
   obtain rfl:=oi h
   exact⟨(fun hc=>by cases hc),rfl,(mp [] _ _ hB)⟩
 ·rcases x58 with _ | _
  ·obtain⟨rfl,hmat⟩:=hR
   apply F7
   apply D4
   obtain rfl:=oi h
   exact rt (Mat.trans hmat (mp [] [(2,(bo false))] [(500,some (.know (globD 0 (.imap gv0))))] hB)) [(bo false)] (rT rN) rfl
  ·obtain⟨rfl,hmat⟩:=hR
   apply E4
   apply A3
   refine ghost hmat ?_
   apply sr (c (mv hN (q 0)) rfl (c (OpJ.val (v':=(i6 (a0.length:Int))) (by simp) (lenD underlying37 (L rfl) (q 49))) rfl (c (leq (L rfl) (q 50) (ii 8)) rfl (c (assign (L rfl) (q 51)) rfl cn))))
   apply ret
   obtain rfl:=oi h
   exact rt (kp [(2,_)] [(500,some _)] hB rfl rfl (by rfl)) [(bo (decide ((a0.length:Int)≤8)))] (rT rN) rfl
def J7 (a0:D9):Option (Bool) :=
 jn (fun m25:Bool =>
 some m25) (fun j26 =>
 (H4 a0.fOrigin (-1) 2).bind fun r27 =>
 (if r27=true then
 (T3 a0.fPath).bind fun r29 =>
 (if r29=true then
 (W9 a0.fNext).bind fun r31 =>
 (if r31=true then
 (H4 a0.fMED (-1) 4294967295).bind fun r33 =>
 (if r33=true then
 (H4 a0.fPref (-1) 4294967295).bind fun r35 =>
 (if r35=true then
 (if (a0.fOTC==(-1))=true then
 (Q0 a0.fCommunities).bind fun r38 =>
 (if r38=true then
 (K1 a0.fLarge).bind fun r40 =>
 (if r40=true then
 (O5 a0.fOther).bind fun r42 =>
 j26 r42
 else
 j26 false)
 else
 j26 false)
 else
 (Z7 a0.fOTC).bind fun r43 =>
 (if r43=true then
 (Q0 a0.fCommunities).bind fun r45 =>
 (if r45=true then
 (K1 a0.fLarge).bind fun r47 =>
 (if r47=true then
 (O5 a0.fOther).bind fun r49 =>
 j26 r49
 else
 j26 false)
 else
 j26 false)
 else
 j26 false))
 else
 j26 false)
 else
 j26 false)
 else
 j26 false)
 else
 j26 false)
 else
 j26 false))
theorem A04 (a0:D9) (r:Bool) (h:J7 a0=some r):AC Tryz.prog 154 [(.d (A8 a0))] [(500,(.know (globD 0 (.imap gv0))))] (.d (.bool r)) [(500,some (.know (globD 0 (.imap gv0))))]:=by
 refine ac2 Tryz.func154 rfl rfl fun B hB hN L => ?_
 delta J7 at h
 apply sr (cg (OpJ.box hB (nm:=1001) (by decide) (by simp) rfl (L rfl) (q 0)) rfl (c (assign (L rfl) (Opd.bool false)) rfl cn))
 apply seq
 refine AWp.cut h (fun m25:Bool=>([(2,(bo m25))]:EL)) (fun m25:Bool=>([(500,some (.know (globD 0 (.imap gv0))))]:OL)) (fun m25 h E' O' hmat => ?_) (fun j26 hjj26 h => ?_)
 ·apply A3
  refine ghost hmat ?_
  apply ret
  obtain rfl:=oi h
  exact rt (kp [(2,_)] [(500,some _)] hB rfl rfl (by rfl)) [(bo m25)] (rT rN) rfl
 ·obtain⟨r27,hr27,h⟩:=bindS h
  rcases bft r27 with hg28 | hg28
  ·have h:=B6 hg28 h
   obtain⟨r29,hr29,h⟩:=bindS h
   rcases bft r29 with hg30 | hg30
   ·have h:=B6 hg30 h
    obtain⟨r31,hr31,h⟩:=bindS h
    rcases bft r31 with hg32 | hg32
    ·have h:=B6 hg32 h
     obtain⟨r33,hr33,h⟩:=bindS h
     rcases bft r33 with hg34 | hg34
     ·have h:=B6 hg34 h
      obtain⟨r35,hr35,h⟩:=bindS h
      rcases bft r35 with hg36 | hg36
      ·have h:=B6 hg36 h
       rcases bft (a0.fOTC==(-1)) with hg37 | hg37
       ·have h:=B6 hg37 h
        obtain⟨r38,hr38,h⟩:=bindS h
        rcases bft r38 with hg39 | hg39
        ·have h:=B6 hg39 h
         obtain⟨r40,hr40,h⟩:=bindS h
         rcases bft r40 with hg41 | hg41
         ·have h:=B6 hg41 h
          obtain⟨r42,hr42,h⟩:=bindS h
          refine AWp.region (oc (ov (.ptr 1001 0 [0]) (fp hN underlying39 0 tyS3 (.box 39 (.d (A8 a0))) (ot 1 (pt 1001))))
           (oc (lb hN 39 (.d (A8 a0)) (i6 a0.fOrigin) tyS3 (ad (.int .i64 a0.fOrigin)) (ot 3 (.ptr 1001 0 [0])))
           (oc (cf hB fnOk159 (C2 a0.fOrigin (-1) 2 r27 hr27) (L rfl) (OpdL.cons (ot 4 (i6 a0.fOrigin)) (OpdL.cons (ii (-1)) (OpdL.cons (ii 2) OpdL.nil))))
           (oc (OpJ.val (v':=.d (.bool true)) (by rw [hg28]<;>rfl) (mv hN (ot 5 (bo r27))))
           (oc (gd 6 (ov (.ptr 1001 1 [1]) (fp hN underlying39 1 tyS34 (.box 39 (.d (A8 a0))) (ot 1 (pt 1001)))))
           (oc (gd 6 (lb hN 39 (.d (A8 a0)) (D0 a0.fPath) tyS34 (ad (.list 2 (a0.fPath.map B4))) (ot 7 (.ptr 1001 1 [1]))))
           (oc (gd 6 (cf hB fnOk160 (H8 a0.fPath r29 hr29) (L rfl) (OpdL.cons (ot 8 (D0 a0.fPath)) OpdL.nil)))
           (oc (pickT (L rfl) (ot 6 (bo true)) (ot 9 (bo r29)))
           (oc (OpJ.val (v':=.d (.bool true)) (by rw [hg30]<;>rfl) (mv hN (ot 10 (bo r29))))
           (oc (gd 11 (ov (.ptr 1001 2 [2]) (fp hN underlying39 2 tyS31 (.box 39 (.d (A8 a0))) (ot 1 (pt 1001)))))
           (oc (gd 11 (lb hN 39 (.d (A8 a0)) (.d (C5 a0.fNext)) tyS31 (ad (C5 a0.fNext)) (ot 12 (.ptr 1001 2 [2]))))
           (oc (gd 11 (cf hB fnOk141 (H5 a0.fNext r31 hr31) (L rfl) (OpdL.cons (ot 13 (.d (C5 a0.fNext))) OpdL.nil)))
           (oc (pickT (L rfl) (ot 11 (bo true)) (ot 14 (bo r31)))
           (oc (OpJ.val (v':=.d (.bool true)) (by rw [hg32]<;>rfl) (mv hN (ot 15 (bo r31))))
           (oc (gd 16 (ov (.ptr 1001 5 [3]) (fp hN underlying39 5 tyS3 (.box 39 (.d (A8 a0))) (ot 1 (pt 1001)))))
           (oc (gd 16 (lb hN 39 (.d (A8 a0)) (i6 a0.fMED) tyS3 (ad (.int .i64 a0.fMED)) (ot 17 (.ptr 1001 5 [3]))))
           (oc (gd 16 (cf hB fnOk159 (C2 a0.fMED (-1) 4294967295 r33 hr33) (L rfl) (OpdL.cons (ot 18 (i6 a0.fMED)) (OpdL.cons (ii (-1)) (OpdL.cons (ii 4294967295) OpdL.nil)))))
           (oc (pickT (L rfl) (ot 16 (bo true)) (ot 19 (bo r33)))
           (oc (OpJ.val (v':=.d (.bool true)) (by rw [hg34]<;>rfl) (mv hN (ot 20 (bo r33))))
           (oc (gd 21 (ov (.ptr 1001 6 [4]) (fp hN underlying39 6 tyS3 (.box 39 (.d (A8 a0))) (ot 1 (pt 1001)))))
           (oc (gd 21 (lb hN 39 (.d (A8 a0)) (i6 a0.fPref) tyS3 (ad (.int .i64 a0.fPref)) (ot 22 (.ptr 1001 6 [4]))))
           (oc (gd 21 (cf hB fnOk159 (C2 a0.fPref (-1) 4294967295 r35 hr35) (L rfl) (OpdL.cons (ot 23 (i6 a0.fPref)) (OpdL.cons (ii (-1)) (OpdL.cons (ii 4294967295) OpdL.nil)))))
           (oc (pickT (L rfl) (ot 21 (bo true)) (ot 24 (bo r35)))
           (oc (OpJ.val (v':=.d (.bool true)) (by rw [hg36]<;>rfl) (mv hN (ot 25 (bo r35))))
           (oc (gd 26 (ov (.ptr 1001 7 [5]) (fp hN underlying39 7 tyS3 (.box 39 (.d (A8 a0))) (ot 1 (pt 1001)))))
           (oc (gd 26 (lb hN 39 (.d (A8 a0)) (i6 a0.fOTC) tyS3 (ad (.int .i64 a0.fOTC)) (ot 27 (.ptr 1001 7 [5]))))
           (oc (gd 26 (eqlI (L rfl) (ot 28 (i6 a0.fOTC)) (ii (-1))))
           (oc (gd 26 (OpJ.val (v':=.d (.bool true)) (by rw [hg37]<;>rfl) (mv hN (ot 29 (bo (a0.fOTC==(-1)))))))
           (oc (sU 30 (L rfl))
           (oc (sU 30 (L rfl))
           (oc (sU 30 (L rfl))
           (oc (gd 26 (pickT (L rfl) (ot 30 (bo true)) (Opd.bool true)))
           (oc (pickT (L rfl) (ot 26 (bo true)) (ot 34 (bo true)))
           (oc (mv hN (ot 35 (bo true)))
           (oc (gd 36 (ov (.ptr 1001 8 [6]) (fp hN underlying39 8 tyS35 (.box 39 (.d (A8 a0))) (ot 1 (pt 1001)))))
           (oc (gd 36 (lb hN 39 (.d (A8 a0)) (B5 a0.fCommunities) tyS35 (ad (.list 2 (a0.fCommunities.map B1))) (ot 37 (.ptr 1001 8 [6]))))
           (oc (gd 36 (cf hB fnOk162 (L9 a0.fCommunities r38 hr38) (L rfl) (OpdL.cons (ot 38 (B5 a0.fCommunities)) OpdL.nil)))
           (oc (pickT (L rfl) (ot 36 (bo true)) (ot 39 (bo r38)))
           (oc (OpJ.val (v':=.d (.bool true)) (by rw [hg39]<;>rfl) (mv hN (ot 40 (bo r38))))
           (oc (gd 41 (ov (.ptr 1001 9 [7]) (fp hN underlying39 9 tyS36 (.box 39 (.d (A8 a0))) (ot 1 (pt 1001)))))
           (oc (gd 41 (lb hN 39 (.d (A8 a0)) (D6 a0.fLarge) tyS36 (ad (.list 3 (a0.fLarge.map C7))) (ot 42 (.ptr 1001 9 [7]))))
           (oc (gd 41 (cf hB fnOk163 (M8 a0.fLarge r40 hr40) (L rfl) (OpdL.cons (ot 43 (D6 a0.fLarge)) OpdL.nil)))
           (oc (pickT (L rfl) (ot 41 (bo true)) (ot 44 (bo r40)))
           (oc (OpJ.val (v':=.d (.bool true)) (by rw [hg41]<;>rfl) (mv hN (ot 45 (bo r40))))
           (oc (gd 46 (ov (.ptr 1001 10 [8]) (fp hN underlying39 10 tyS37 (.box 39 (.d (A8 a0))) (ot 1 (pt 1001)))))
           (oc (gd 46 (lb hN 39 (.d (A8 a0)) (E8 a0.fOther) tyS37 (ad (.list 3 (a0.fOther.map A5))) (ot 47 (.ptr 1001 10 [8]))))
           (oc (gd 46 (OpJ.callFn hB fnOk164 (A22 a0.fOther r42 hr42) [(500,500)] (by kernel_rfl) (L rfl) (by kernel_rfl) (OpdL.cons (ot 48 (E8 a0.fOther)) OpdL.nil)))
           (oc (pickT (L rfl) (ot 46 (bo true)) (ot 49 (bo r42)))
           (oc (assign (L rfl) (ot 50 (bo r42)))
           (OpJs.nil)))))))))))))))))))))))))))))))))))))))))))))))))) (by rfl) (by rfl) ?_
          exact hjj26 _ h _ _ (mp [] _ _ hB)
         ·have h:=B7 hg41 h
          apply rg (c (fo 1001 0 [0] hN underlying39 0 tyS3 (q 1)) rfl (c (la hN 39 tyS3 (q 3)) rfl (cg (cf hB fnOk159 (C2 a0.fOrigin (-1) 2 r27 hr27) (L rfl) (OpdL.cons (q 4) (OpdL.cons (ii (-1)) (OpdL.cons (ii 2) OpdL.nil)))) rfl (c (OpJ.val (v':=.d (.bool true)) (by rw [hg28]<;>rfl) (mv hN (q 5))) rfl (c (gd 6 (fo 1001 1 [1] hN underlying39 1 tyS34 (q 1))) rfl (c (gd 6 (la hN 39 tyS34 (q 7))) rfl (cg (gd 6 (cf hB fnOk160 (H8 a0.fPath r29 hr29) (L rfl) (OpdL.cons (q 8) OpdL.nil))) rfl (c (pickT (L rfl) (q 6) (q 9)) rfl (c (OpJ.val (v':=.d (.bool true)) (by rw [hg30]<;>rfl) (mv hN (q 10))) rfl (c (gd 11 (fo 1001 2 [2] hN underlying39 2 tyS31 (q 1))) rfl (c (gd 11 (la hN 39 tyS31 (q 12))) rfl (cg (gd 11 (cf hB fnOk141 (H5 a0.fNext r31 hr31) (L rfl) (OpdL.cons (q 13) OpdL.nil))) rfl (c (pickT (L rfl) (q 11) (q 14)) rfl (c (OpJ.val (v':=.d (.bool true)) (by rw [hg32]<;>rfl) (mv hN (q 15))) rfl (c (gd 16 (fo 1001 5 [3] hN underlying39 5 tyS3 (q 1))) rfl (c (gd 16 (la hN 39 tyS3 (q 17))) rfl (cg (gd 16 (cf hB fnOk159 (C2 a0.fMED (-1) 4294967295 r33 hr33) (L rfl) (OpdL.cons (q 18) (OpdL.cons (ii (-1)) (OpdL.cons (ii 4294967295) OpdL.nil))))) rfl (c (pickT (L rfl) (q 16) (q 19)) rfl (c (OpJ.val (v':=.d (.bool true)) (by rw [hg34]<;>rfl) (mv hN (q 20))) rfl (c (gd 21 (fo 1001 6 [4] hN underlying39 6 tyS3 (q 1))) rfl (c (gd 21 (la hN 39 tyS3 (q 22))) rfl (cg (gd 21 (cf hB fnOk159 (C2 a0.fPref (-1) 4294967295 r35 hr35) (L rfl) (OpdL.cons (q 23) (OpdL.cons (ii (-1)) (OpdL.cons (ii 4294967295) OpdL.nil))))) rfl (c (pickT (L rfl) (q 21) (q 24)) rfl (c (OpJ.val (v':=.d (.bool true)) (by rw [hg36]<;>rfl) (mv hN (q 25))) rfl (c (gd 26 (fo 1001 7 [5] hN underlying39 7 tyS3 (q 1))) rfl (c (gd 26 (la hN 39 tyS3 (q 27))) rfl (c (gd 26 (eqlI (L rfl) (q 28) (ii (-1)))) rfl (c (gd 26 (OpJ.val (v':=.d (.bool true)) (by rw [hg37]<;>rfl) (mv hN (q 29)))) rfl (ks 30 (L rfl) (ks 30 (L rfl) (ks 30 (L rfl) (c (gd 26 (pickT (L rfl) (q 30) (Opd.bool true))) rfl (c (pickT (L rfl) (q 26) (q 34)) rfl (c (mv hN (q 35)) rfl (c (gd 36 (fo 1001 8 [6] hN underlying39 8 tyS35 (q 1))) rfl (c (gd 36 (la hN 39 tyS35 (q 37))) rfl (cg (gd 36 (cf hB fnOk162 (L9 a0.fCommunities r38 hr38) (L rfl) (OpdL.cons (q 38) OpdL.nil))) rfl (c (pickT (L rfl) (q 36) (q 39)) rfl (c (OpJ.val (v':=.d (.bool true)) (by rw [hg39]<;>rfl) (mv hN (q 40))) rfl (c (gd 41 (fo 1001 9 [7] hN underlying39 9 tyS36 (q 1))) rfl (c (gd 41 (la hN 39 tyS36 (q 42))) rfl (cg (gd 41 (cf hB fnOk163 (M8 a0.fLarge r40 hr40) (L rfl) (OpdL.cons (q 43) OpdL.nil))) rfl (c (pickT (L rfl) (q 41) (q 44)) rfl (c (OpJ.val (v':=.d (.bool false)) (by rw [hg41]<;>rfl) (mv hN (q 45))) rfl (ks 46 (L rfl) (ks 46 (L rfl) (ks 46 (L rfl) (c (pickF (L rfl) (q 46) (Opd.bool false)) rfl (c (assign (L rfl) (q 50)) rfl cn)))))))))))))))))))))))))))))))))))))))))))))))))
          exact hjj26 _ h _ _ (mp [] _ _ hB)
        ·have h:=B7 hg39 h
         apply rg (c (fo 1001 0 [0] hN underlying39 0 tyS3 (q 1)) rfl (c (la hN 39 tyS3 (q 3)) rfl (cg (cf hB fnOk159 (C2 a0.fOrigin (-1) 2 r27 hr27) (L rfl) (OpdL.cons (q 4) (OpdL.cons (ii (-1)) (OpdL.cons (ii 2) OpdL.nil)))) rfl (c (OpJ.val (v':=.d (.bool true)) (by rw [hg28]<;>rfl) (mv hN (q 5))) rfl (c (gd 6 (fo 1001 1 [1] hN underlying39 1 tyS34 (q 1))) rfl (c (gd 6 (la hN 39 tyS34 (q 7))) rfl (cg (gd 6 (cf hB fnOk160 (H8 a0.fPath r29 hr29) (L rfl) (OpdL.cons (q 8) OpdL.nil))) rfl (c (pickT (L rfl) (q 6) (q 9)) rfl (c (OpJ.val (v':=.d (.bool true)) (by rw [hg30]<;>rfl) (mv hN (q 10))) rfl (c (gd 11 (fo 1001 2 [2] hN underlying39 2 tyS31 (q 1))) rfl (c (gd 11 (la hN 39 tyS31 (q 12))) rfl (cg (gd 11 (cf hB fnOk141 (H5 a0.fNext r31 hr31) (L rfl) (OpdL.cons (q 13) OpdL.nil))) rfl (c (pickT (L rfl) (q 11) (q 14)) rfl (c (OpJ.val (v':=.d (.bool true)) (by rw [hg32]<;>rfl) (mv hN (q 15))) rfl (c (gd 16 (fo 1001 5 [3] hN underlying39 5 tyS3 (q 1))) rfl (c (gd 16 (la hN 39 tyS3 (q 17))) rfl (cg (gd 16 (cf hB fnOk159 (C2 a0.fMED (-1) 4294967295 r33 hr33) (L rfl) (OpdL.cons (q 18) (OpdL.cons (ii (-1)) (OpdL.cons (ii 4294967295) OpdL.nil))))) rfl (c (pickT (L rfl) (q 16) (q 19)) rfl (c (OpJ.val (v':=.d (.bool true)) (by rw [hg34]<;>rfl) (mv hN (q 20))) rfl (c (gd 21 (fo 1001 6 [4] hN underlying39 6 tyS3 (q 1))) rfl (c (gd 21 (la hN 39 tyS3 (q 22))) rfl (cg (gd 21 (cf hB fnOk159 (C2 a0.fPref (-1) 4294967295 r35 hr35) (L rfl) (OpdL.cons (q 23) (OpdL.cons (ii (-1)) (OpdL.cons (ii 4294967295) OpdL.nil))))) rfl (c (pickT (L rfl) (q 21) (q 24)) rfl (c (OpJ.val (v':=.d (.bool true)) (by rw [hg36]<;>rfl) (mv hN (q 25))) rfl (c (gd 26 (fo 1001 7 [5] hN underlying39 7 tyS3 (q 1))) rfl (c (gd 26 (la hN 39 tyS3 (q 27))) rfl (c (gd 26 (eqlI (L rfl) (q 28) (ii (-1)))) rfl (c (gd 26 (OpJ.val (v':=.d (.bool true)) (by rw [hg37]<;>rfl) (mv hN (q 29)))) rfl (ks 30 (L rfl) (ks 30 (L rfl) (ks 30 (L rfl) (c (gd 26 (pickT (L rfl) (q 30) (Opd.bool true))) rfl (c (pickT (L rfl) (q 26) (q 34)) rfl (c (mv hN (q 35)) rfl (c (gd 36 (fo 1001 8 [6] hN underlying39 8 tyS35 (q 1))) rfl (c (gd 36 (la hN 39 tyS35 (q 37))) rfl (cg (gd 36 (cf hB fnOk162 (L9 a0.fCommunities r38 hr38) (L rfl) (OpdL.cons (q 38) OpdL.nil))) rfl (c (pickT (L rfl) (q 36) (q 39)) rfl (c (OpJ.val (v':=.d (.bool false)) (by rw [hg39]<;>rfl) (mv hN (q 40))) rfl (ks 41 (L rfl) (ks 41 (L rfl) (ks 41 (L rfl) (c (pickF (L rfl) (q 41) (Opd.bool false)) rfl (c (mv hN (q 45)) rfl (ks 46 (L rfl) (ks 46 (L rfl) (ks 46 (L rfl) (c (pickF (L rfl) (q 46) (Opd.bool false)) rfl (c (assign (L rfl) (q 50)) rfl cn)))))))))))))))))))))))))))))))))))))))))))))))))
         exact hjj26 _ h _ _ (mp [] _ _ hB)
       ·have h:=B7 hg37 h
        obtain⟨r43,hr43,h⟩:=bindS h
        rcases bft r43 with hg44 | hg44
        ·have h:=B6 hg44 h
         obtain⟨r45,hr45,h⟩:=bindS h
         rcases bft r45 with hg46 | hg46
         ·have h:=B6 hg46 h
          obtain⟨r47,hr47,h⟩:=bindS h
          rcases bft r47 with hg48 | hg48
          ·have h:=B6 hg48 h
           obtain⟨r49,hr49,h⟩:=bindS h
           refine AWp.region (oc (ov (.ptr 1001 0 [0]) (fp hN underlying39 0 tyS3 (.box 39 (.d (A8 a0))) (ot 1 (pt 1001))))
            (oc (lb hN 39 (.d (A8 a0)) (i6 a0.fOrigin) tyS3 (ad (.int .i64 a0.fOrigin)) (ot 3 (.ptr 1001 0 [0])))
            (oc (cf hB fnOk159 (C2 a0.fOrigin (-1) 2 r27 hr27) (L rfl) (OpdL.cons (ot 4 (i6 a0.fOrigin)) (OpdL.cons (ii (-1)) (OpdL.cons (ii 2) OpdL.nil))))
            (oc (OpJ.val (v':=.d (.bool true)) (by rw [hg28]<;>rfl) (mv hN (ot 5 (bo r27))))
            (oc (gd 6 (ov (.ptr 1001 1 [1]) (fp hN underlying39 1 tyS34 (.box 39 (.d (A8 a0))) (ot 1 (pt 1001)))))
            (oc (gd 6 (lb hN 39 (.d (A8 a0)) (D0 a0.fPath) tyS34 (ad (.list 2 (a0.fPath.map B4))) (ot 7 (.ptr 1001 1 [1]))))
            (oc (gd 6 (cf hB fnOk160 (H8 a0.fPath r29 hr29) (L rfl) (OpdL.cons (ot 8 (D0 a0.fPath)) OpdL.nil)))
            (oc (pickT (L rfl) (ot 6 (bo true)) (ot 9 (bo r29)))
            (oc (OpJ.val (v':=.d (.bool true)) (by rw [hg30]<;>rfl) (mv hN (ot 10 (bo r29))))
            (oc (gd 11 (ov (.ptr 1001 2 [2]) (fp hN underlying39 2 tyS31 (.box 39 (.d (A8 a0))) (ot 1 (pt 1001)))))
            (oc (gd 11 (lb hN 39 (.d (A8 a0)) (.d (C5 a0.fNext)) tyS31 (ad (C5 a0.fNext)) (ot 12 (.ptr 1001 2 [2]))))
            (oc (gd 11 (cf hB fnOk141 (H5 a0.fNext r31 hr31) (L rfl) (OpdL.cons (ot 13 (.d (C5 a0.fNext))) OpdL.nil)))
            (oc (pickT (L rfl) (ot 11 (bo true)) (ot 14 (bo r31)))
            (oc (OpJ.val (v':=.d (.bool true)) (by rw [hg32]<;>rfl) (mv hN (ot 15 (bo r31))))
            (oc (gd 16 (ov (.ptr 1001 5 [3]) (fp hN underlying39 5 tyS3 (.box 39 (.d (A8 a0))) (ot 1 (pt 1001)))))
            (oc (gd 16 (lb hN 39 (.d (A8 a0)) (i6 a0.fMED) tyS3 (ad (.int .i64 a0.fMED)) (ot 17 (.ptr 1001 5 [3]))))
            (oc (gd 16 (cf hB fnOk159 (C2 a0.fMED (-1) 4294967295 r33 hr33) (L rfl) (OpdL.cons (ot 18 (i6 a0.fMED)) (OpdL.cons (ii (-1)) (OpdL.cons (ii 4294967295) OpdL.nil)))))
            (oc (pickT (L rfl) (ot 16 (bo true)) (ot 19 (bo r33)))
            (oc (OpJ.val (v':=.d (.bool true)) (by rw [hg34]<;>rfl) (mv hN (ot 20 (bo r33))))
            (oc (gd 21 (ov (.ptr 1001 6 [4]) (fp hN underlying39 6 tyS3 (.box 39 (.d (A8 a0))) (ot 1 (pt 1001)))))
            (oc (gd 21 (lb hN 39 (.d (A8 a0)) (i6 a0.fPref) tyS3 (ad (.int .i64 a0.fPref)) (ot 22 (.ptr 1001 6 [4]))))
            (oc (gd 21 (cf hB fnOk159 (C2 a0.fPref (-1) 4294967295 r35 hr35) (L rfl) (OpdL.cons (ot 23 (i6 a0.fPref)) (OpdL.cons (ii (-1)) (OpdL.cons (ii 4294967295) OpdL.nil)))))
            (oc (pickT (L rfl) (ot 21 (bo true)) (ot 24 (bo r35)))
            (oc (OpJ.val (v':=.d (.bool true)) (by rw [hg36]<;>rfl) (mv hN (ot 25 (bo r35))))
            (oc (gd 26 (ov (.ptr 1001 7 [5]) (fp hN underlying39 7 tyS3 (.box 39 (.d (A8 a0))) (ot 1 (pt 1001)))))
            (oc (gd 26 (lb hN 39 (.d (A8 a0)) (i6 a0.fOTC) tyS3 (ad (.int .i64 a0.fOTC)) (ot 27 (.ptr 1001 7 [5]))))
            (oc (gd 26 (eqlI (L rfl) (ot 28 (i6 a0.fOTC)) (ii (-1))))
            (oc (gd 26 (OpJ.val (v':=.d (.bool false)) (by rw [hg37]<;>rfl) (mv hN (ot 29 (bo (a0.fOTC==(-1)))))))
            (oc (gd 30 (ov (.ptr 1001 7 [5]) (fp hN underlying39 7 tyS3 (.box 39 (.d (A8 a0))) (ot 1 (pt 1001)))))
            (oc (gd 30 (lb hN 39 (.d (A8 a0)) (i6 a0.fOTC) tyS3 (ad (.int .i64 a0.fOTC)) (ot 31 (.ptr 1001 7 [5]))))
            (oc (gd 30 (cf hB fnOk161 (L8 a0.fOTC r43 hr43) (L rfl) (OpdL.cons (ot 32 (i6 a0.fOTC)) OpdL.nil)))
            (oc (gd 26 (pickF (L rfl) (ot 30 (bo false)) (ot 33 (bo r43))))
            (oc (pickT (L rfl) (ot 26 (bo true)) (ot 34 (bo r43)))
            (oc (OpJ.val (v':=.d (.bool true)) (by rw [hg44]<;>rfl) (mv hN (ot 35 (bo r43))))
            (oc (gd 36 (ov (.ptr 1001 8 [6]) (fp hN underlying39 8 tyS35 (.box 39 (.d (A8 a0))) (ot 1 (pt 1001)))))
            (oc (gd 36 (lb hN 39 (.d (A8 a0)) (B5 a0.fCommunities) tyS35 (ad (.list 2 (a0.fCommunities.map B1))) (ot 37 (.ptr 1001 8 [6]))))
            (oc (gd 36 (cf hB fnOk162 (L9 a0.fCommunities r45 hr45) (L rfl) (OpdL.cons (ot 38 (B5 a0.fCommunities)) OpdL.nil)))
            (oc (pickT (L rfl) (ot 36 (bo true)) (ot 39 (bo r45)))
            (oc (OpJ.val (v':=.d (.bool true)) (by rw [hg46]<;>rfl) (mv hN (ot 40 (bo r45))))
            (oc (gd 41 (ov (.ptr 1001 9 [7]) (fp hN underlying39 9 tyS36 (.box 39 (.d (A8 a0))) (ot 1 (pt 1001)))))
            (oc (gd 41 (lb hN 39 (.d (A8 a0)) (D6 a0.fLarge) tyS36 (ad (.list 3 (a0.fLarge.map C7))) (ot 42 (.ptr 1001 9 [7]))))
            (oc (gd 41 (cf hB fnOk163 (M8 a0.fLarge r47 hr47) (L rfl) (OpdL.cons (ot 43 (D6 a0.fLarge)) OpdL.nil)))
            (oc (pickT (L rfl) (ot 41 (bo true)) (ot 44 (bo r47)))
            (oc (OpJ.val (v':=.d (.bool true)) (by rw [hg48]<;>rfl) (mv hN (ot 45 (bo r47))))
            (oc (gd 46 (ov (.ptr 1001 10 [8]) (fp hN underlying39 10 tyS37 (.box 39 (.d (A8 a0))) (ot 1 (pt 1001)))))
            (oc (gd 46 (lb hN 39 (.d (A8 a0)) (E8 a0.fOther) tyS37 (ad (.list 3 (a0.fOther.map A5))) (ot 47 (.ptr 1001 10 [8]))))
            (oc (gd 46 (OpJ.callFn hB fnOk164 (A22 a0.fOther r49 hr49) [(500,500)] (by kernel_rfl) (L rfl) (by kernel_rfl) (OpdL.cons (ot 48 (E8 a0.fOther)) OpdL.nil)))
            (oc (pickT (L rfl) (ot 46 (bo true)) (ot 49 (bo r49)))
            (oc (assign (L rfl) (ot 50 (bo r49)))
            (OpJs.nil)))))))))))))))))))))))))))))))))))))))))))))))))) (by rfl) (by rfl) ?_
           exact hjj26 _ h _ _ (mp [] _ _ hB)
          ·have h:=B7 hg48 h
           apply rg (c (fo 1001 0 [0] hN underlying39 0 tyS3 (q 1)) rfl (c (la hN 39 tyS3 (q 3)) rfl (cg (cf hB fnOk159 (C2 a0.fOrigin (-1) 2 r27 hr27) (L rfl) (OpdL.cons (q 4) (OpdL.cons (ii (-1)) (OpdL.cons (ii 2) OpdL.nil)))) rfl (c (OpJ.val (v':=.d (.bool true)) (by rw [hg28]<;>rfl) (mv hN (q 5))) rfl (c (gd 6 (fo 1001 1 [1] hN underlying39 1 tyS34 (q 1))) rfl (c (gd 6 (la hN 39 tyS34 (q 7))) rfl (cg (gd 6 (cf hB fnOk160 (H8 a0.fPath r29 hr29) (L rfl) (OpdL.cons (q 8) OpdL.nil))) rfl (c (pickT (L rfl) (q 6) (q 9)) rfl (c (OpJ.val (v':=.d (.bool true)) (by rw [hg30]<;>rfl) (mv hN (q 10))) rfl (c (gd 11 (fo 1001 2 [2] hN underlying39 2 tyS31 (q 1))) rfl (c (gd 11 (la hN 39 tyS31 (q 12))) rfl (cg (gd 11 (cf hB fnOk141 (H5 a0.fNext r31 hr31) (L rfl) (OpdL.cons (q 13) OpdL.nil))) rfl (c (pickT (L rfl) (q 11) (q 14)) rfl (c (OpJ.val (v':=.d (.bool true)) (by rw [hg32]<;>rfl) (mv hN (q 15))) rfl (c (gd 16 (fo 1001 5 [3] hN underlying39 5 tyS3 (q 1))) rfl (c (gd 16 (la hN 39 tyS3 (q 17))) rfl (cg (gd 16 (cf hB fnOk159 (C2 a0.fMED (-1) 4294967295 r33 hr33) (L rfl) (OpdL.cons (q 18) (OpdL.cons (ii (-1)) (OpdL.cons (ii 4294967295) OpdL.nil))))) rfl (c (pickT (L rfl) (q 16) (q 19)) rfl (c (OpJ.val (v':=.d (.bool true)) (by rw [hg34]<;>rfl) (mv hN (q 20))) rfl (c (gd 21 (fo 1001 6 [4] hN underlying39 6 tyS3 (q 1))) rfl (c (gd 21 (la hN 39 tyS3 (q 22))) rfl (cg (gd 21 (cf hB fnOk159 (C2 a0.fPref (-1) 4294967295 r35 hr35) (L rfl) (OpdL.cons (q 23) (OpdL.cons (ii (-1)) (OpdL.cons (ii 4294967295) OpdL.nil))))) rfl (c (pickT (L rfl) (q 21) (q 24)) rfl (c (OpJ.val (v':=.d (.bool true)) (by rw [hg36]<;>rfl) (mv hN (q 25))) rfl (c (gd 26 (fo 1001 7 [5] hN underlying39 7 tyS3 (q 1))) rfl (c (gd 26 (la hN 39 tyS3 (q 27))) rfl (c (gd 26 (eqlI (L rfl) (q 28) (ii (-1)))) rfl (c (gd 26 (OpJ.val (v':=.d (.bool false)) (by rw [hg37]<;>rfl) (mv hN (q 29)))) rfl (c (gd 30 (fo 1001 7 [5] hN underlying39 7 tyS3 (q 1))) rfl (c (gd 30 (la hN 39 tyS3 (q 31))) rfl (cg (gd 30 (cf hB fnOk161 (L8 a0.fOTC r43 hr43) (L rfl) (OpdL.cons (q 32) OpdL.nil))) rfl (c (gd 26 (pickF (L rfl) (q 30) (q 33))) rfl (c (pickT (L rfl) (q 26) (q 34)) rfl (c (OpJ.val (v':=.d (.bool true)) (by rw [hg44]<;>rfl) (mv hN (q 35))) rfl (c (gd 36 (fo 1001 8 [6] hN underlying39 8 tyS35 (q 1))) rfl (c (gd 36 (la hN 39 tyS35 (q 37))) rfl (cg (gd 36 (cf hB fnOk162 (L9 a0.fCommunities r45 hr45) (L rfl) (OpdL.cons (q 38) OpdL.nil))) rfl (c (pickT (L rfl) (q 36) (q 39)) rfl (c (OpJ.val (v':=.d (.bool true)) (by rw [hg46]<;>rfl) (mv hN (q 40))) rfl (c (gd 41 (fo 1001 9 [7] hN underlying39 9 tyS36 (q 1))) rfl (c (gd 41 (la hN 39 tyS36 (q 42))) rfl (cg (gd 41 (cf hB fnOk163 (M8 a0.fLarge r47 hr47) (L rfl) (OpdL.cons (q 43) OpdL.nil))) rfl (c (pickT (L rfl) (q 41) (q 44)) rfl (c (OpJ.val (v':=.d (.bool false)) (by rw [hg48]<;>rfl) (mv hN (q 45))) rfl (ks 46 (L rfl) (ks 46 (L rfl) (ks 46 (L rfl) (c (pickF (L rfl) (q 46) (Opd.bool false)) rfl (c (assign (L rfl) (q 50)) rfl cn)))))))))))))))))))))))))))))))))))))))))))))))))
           exact hjj26 _ h _ _ (mp [] _ _ hB)
         ·have h:=B7 hg46 h
          apply rg (c (fo 1001 0 [0] hN underlying39 0 tyS3 (q 1)) rfl (c (la hN 39 tyS3 (q 3)) rfl (cg (cf hB fnOk159 (C2 a0.fOrigin (-1) 2 r27 hr27) (L rfl) (OpdL.cons (q 4) (OpdL.cons (ii (-1)) (OpdL.cons (ii 2) OpdL.nil)))) rfl (c (OpJ.val (v':=.d (.bool true)) (by rw [hg28]<;>rfl) (mv hN (q 5))) rfl (c (gd 6 (fo 1001 1 [1] hN underlying39 1 tyS34 (q 1))) rfl (c (gd 6 (la hN 39 tyS34 (q 7))) rfl (cg (gd 6 (cf hB fnOk160 (H8 a0.fPath r29 hr29) (L rfl) (OpdL.cons (q 8) OpdL.nil))) rfl (c (pickT (L rfl) (q 6) (q 9)) rfl (c (OpJ.val (v':=.d (.bool true)) (by rw [hg30]<;>rfl) (mv hN (q 10))) rfl (c (gd 11 (fo 1001 2 [2] hN underlying39 2 tyS31 (q 1))) rfl (c (gd 11 (la hN 39 tyS31 (q 12))) rfl (cg (gd 11 (cf hB fnOk141 (H5 a0.fNext r31 hr31) (L rfl) (OpdL.cons (q 13) OpdL.nil))) rfl (c (pickT (L rfl) (q 11) (q 14)) rfl (c (OpJ.val (v':=.d (.bool true)) (by rw [hg32]<;>rfl) (mv hN (q 15))) rfl (c (gd 16 (fo 1001 5 [3] hN underlying39 5 tyS3 (q 1))) rfl (c (gd 16 (la hN 39 tyS3 (q 17))) rfl (cg (gd 16 (cf hB fnOk159 (C2 a0.fMED (-1) 4294967295 r33 hr33) (L rfl) (OpdL.cons (q 18) (OpdL.cons (ii (-1)) (OpdL.cons (ii 4294967295) OpdL.nil))))) rfl (c (pickT (L rfl) (q 16) (q 19)) rfl (c (OpJ.val (v':=.d (.bool true)) (by rw [hg34]<;>rfl) (mv hN (q 20))) rfl (c (gd 21 (fo 1001 6 [4] hN underlying39 6 tyS3 (q 1))) rfl (c (gd 21 (la hN 39 tyS3 (q 22))) rfl (cg (gd 21 (cf hB fnOk159 (C2 a0.fPref (-1) 4294967295 r35 hr35) (L rfl) (OpdL.cons (q 23) (OpdL.cons (ii (-1)) (OpdL.cons (ii 4294967295) OpdL.nil))))) rfl (c (pickT (L rfl) (q 21) (q 24)) rfl (c (OpJ.val (v':=.d (.bool true)) (by rw [hg36]<;>rfl) (mv hN (q 25))) rfl (c (gd 26 (fo 1001 7 [5] hN underlying39 7 tyS3 (q 1))) rfl (c (gd 26 (la hN 39 tyS3 (q 27))) rfl (c (gd 26 (eqlI (L rfl) (q 28) (ii (-1)))) rfl (c (gd 26 (OpJ.val (v':=.d (.bool false)) (by rw [hg37]<;>rfl) (mv hN (q 29)))) rfl (c (gd 30 (fo 1001 7 [5] hN underlying39 7 tyS3 (q 1))) rfl (c (gd 30 (la hN 39 tyS3 (q 31))) rfl (cg (gd 30 (cf hB fnOk161 (L8 a0.fOTC r43 hr43) (L rfl) (OpdL.cons (q 32) OpdL.nil))) rfl (c (gd 26 (pickF (L rfl) (q 30) (q 33))) rfl (c (pickT (L rfl) (q 26) (q 34)) rfl (c (OpJ.val (v':=.d (.bool true)) (by rw [hg44]<;>rfl) (mv hN (q 35))) rfl (c (gd 36 (fo 1001 8 [6] hN underlying39 8 tyS35 (q 1))) rfl (c (gd 36 (la hN 39 tyS35 (q 37))) rfl (cg (gd 36 (cf hB fnOk162 (L9 a0.fCommunities r45 hr45) (L rfl) (OpdL.cons (q 38) OpdL.nil))) rfl (c (pickT (L rfl) (q 36) (q 39)) rfl (c (OpJ.val (v':=.d (.bool false)) (by rw [hg46]<;>rfl) (mv hN (q 40))) rfl (ks 41 (L rfl) (ks 41 (L rfl) (ks 41 (L rfl) (c (pickF (L rfl) (q 41) (Opd.bool false)) rfl (c (mv hN (q 45)) rfl (ks 46 (L rfl) (ks 46 (L rfl) (ks 46 (L rfl) (c (pickF (L rfl) (q 46) (Opd.bool false)) rfl (c (assign (L rfl) (q 50)) rfl cn)))))))))))))))))))))))))))))))))))))))))))))))))
          exact hjj26 _ h _ _ (mp [] _ _ hB)
        ·have h:=B7 hg44 h
         apply rg (c (fo 1001 0 [0] hN underlying39 0 tyS3 (q 1)) rfl (c (la hN 39 tyS3 (q 3)) rfl (cg (cf hB fnOk159 (C2 a0.fOrigin (-1) 2 r27 hr27) (L rfl) (OpdL.cons (q 4) (OpdL.cons (ii (-1)) (OpdL.cons (ii 2) OpdL.nil)))) rfl (c (OpJ.val (v':=.d (.bool true)) (by rw [hg28]<;>rfl) (mv hN (q 5))) rfl (c (gd 6 (fo 1001 1 [1] hN underlying39 1 tyS34 (q 1))) rfl (c (gd 6 (la hN 39 tyS34 (q 7))) rfl (cg (gd 6 (cf hB fnOk160 (H8 a0.fPath r29 hr29) (L rfl) (OpdL.cons (q 8) OpdL.nil))) rfl (c (pickT (L rfl) (q 6) (q 9)) rfl (c (OpJ.val (v':=.d (.bool true)) (by rw [hg30]<;>rfl) (mv hN (q 10))) rfl (c (gd 11 (fo 1001 2 [2] hN underlying39 2 tyS31 (q 1))) rfl (c (gd 11 (la hN 39 tyS31 (q 12))) rfl (cg (gd 11 (cf hB fnOk141 (H5 a0.fNext r31 hr31) (L rfl) (OpdL.cons (q 13) OpdL.nil))) rfl (c (pickT (L rfl) (q 11) (q 14)) rfl (c (OpJ.val (v':=.d (.bool true)) (by rw [hg32]<;>rfl) (mv hN (q 15))) rfl (c (gd 16 (fo 1001 5 [3] hN underlying39 5 tyS3 (q 1))) rfl (c (gd 16 (la hN 39 tyS3 (q 17))) rfl (cg (gd 16 (cf hB fnOk159 (C2 a0.fMED (-1) 4294967295 r33 hr33) (L rfl) (OpdL.cons (q 18) (OpdL.cons (ii (-1)) (OpdL.cons (ii 4294967295) OpdL.nil))))) rfl (c (pickT (L rfl) (q 16) (q 19)) rfl (c (OpJ.val (v':=.d (.bool true)) (by rw [hg34]<;>rfl) (mv hN (q 20))) rfl (c (gd 21 (fo 1001 6 [4] hN underlying39 6 tyS3 (q 1))) rfl (c (gd 21 (la hN 39 tyS3 (q 22))) rfl (cg (gd 21 (cf hB fnOk159 (C2 a0.fPref (-1) 4294967295 r35 hr35) (L rfl) (OpdL.cons (q 23) (OpdL.cons (ii (-1)) (OpdL.cons (ii 4294967295) OpdL.nil))))) rfl (c (pickT (L rfl) (q 21) (q 24)) rfl (c (OpJ.val (v':=.d (.bool true)) (by rw [hg36]<;>rfl) (mv hN (q 25))) rfl (c (gd 26 (fo 1001 7 [5] hN underlying39 7 tyS3 (q 1))) rfl (c (gd 26 (la hN 39 tyS3 (q 27))) rfl (c (gd 26 (eqlI (L rfl) (q 28) (ii (-1)))) rfl (c (gd 26 (OpJ.val (v':=.d (.bool false)) (by rw [hg37]<;>rfl) (mv hN (q 29)))) rfl (c (gd 30 (fo 1001 7 [5] hN underlying39 7 tyS3 (q 1))) rfl (c (gd 30 (la hN 39 tyS3 (q 31))) rfl (cg (gd 30 (cf hB fnOk161 (L8 a0.fOTC r43 hr43) (L rfl) (OpdL.cons (q 32) OpdL.nil))) rfl (c (gd 26 (pickF (L rfl) (q 30) (q 33))) rfl (c (pickT (L rfl) (q 26) (q 34)) rfl (c (OpJ.val (v':=.d (.bool false)) (by rw [hg44]<;>rfl) (mv hN (q 35))) rfl (ks 36 (L rfl) (ks 36 (L rfl) (ks 36 (L rfl) (c (pickF (L rfl) (q 36) (Opd.bool false)) rfl (c (mv hN (q 40)) rfl (ks 41 (L rfl) (ks 41 (L rfl) (ks 41 (L rfl) (c (pickF (L rfl) (q 41) (Opd.bool false)) rfl (c (mv hN (q 45)) rfl (ks 46 (L rfl) (ks 46 (L rfl) (ks 46 (L rfl) (c (pickF (L rfl) (q 46) (Opd.bool false)) rfl (c (assign (L rfl) (q 50)) rfl cn)))))))))))))))))))))))))))))))))))))))))))))))))
         exact hjj26 _ h _ _ (mp [] _ _ hB)
      ·have h:=B7 hg36 h
       apply rg (c (fo 1001 0 [0] hN underlying39 0 tyS3 (q 1)) rfl (c (la hN 39 tyS3 (q 3)) rfl (cg (cf hB fnOk159 (C2 a0.fOrigin (-1) 2 r27 hr27) (L rfl) (OpdL.cons (q 4) (OpdL.cons (ii (-1)) (OpdL.cons (ii 2) OpdL.nil)))) rfl (c (OpJ.val (v':=.d (.bool true)) (by rw [hg28]<;>rfl) (mv hN (q 5))) rfl (c (gd 6 (fo 1001 1 [1] hN underlying39 1 tyS34 (q 1))) rfl (c (gd 6 (la hN 39 tyS34 (q 7))) rfl (cg (gd 6 (cf hB fnOk160 (H8 a0.fPath r29 hr29) (L rfl) (OpdL.cons (q 8) OpdL.nil))) rfl (c (pickT (L rfl) (q 6) (q 9)) rfl (c (OpJ.val (v':=.d (.bool true)) (by rw [hg30]<;>rfl) (mv hN (q 10))) rfl (c (gd 11 (fo 1001 2 [2] hN underlying39 2 tyS31 (q 1))) rfl (c (gd 11 (la hN 39 tyS31 (q 12))) rfl (cg (gd 11 (cf hB fnOk141 (H5 a0.fNext r31 hr31) (L rfl) (OpdL.cons (q 13) OpdL.nil))) rfl (c (pickT (L rfl) (q 11) (q 14)) rfl (c (OpJ.val (v':=.d (.bool true)) (by rw [hg32]<;>rfl) (mv hN (q 15))) rfl (c (gd 16 (fo 1001 5 [3] hN underlying39 5 tyS3 (q 1))) rfl (c (gd 16 (la hN 39 tyS3 (q 17))) rfl (cg (gd 16 (cf hB fnOk159 (C2 a0.fMED (-1) 4294967295 r33 hr33) (L rfl) (OpdL.cons (q 18) (OpdL.cons (ii (-1)) (OpdL.cons (ii 4294967295) OpdL.nil))))) rfl (c (pickT (L rfl) (q 16) (q 19)) rfl (c (OpJ.val (v':=.d (.bool true)) (by rw [hg34]<;>rfl) (mv hN (q 20))) rfl (c (gd 21 (fo 1001 6 [4] hN underlying39 6 tyS3 (q 1))) rfl (c (gd 21 (la hN 39 tyS3 (q 22))) rfl (cg (gd 21 (cf hB fnOk159 (C2 a0.fPref (-1) 4294967295 r35 hr35) (L rfl) (OpdL.cons (q 23) (OpdL.cons (ii (-1)) (OpdL.cons (ii 4294967295) OpdL.nil))))) rfl (c (pickT (L rfl) (q 21) (q 24)) rfl (c (OpJ.val (v':=.d (.bool false)) (by rw [hg36]<;>rfl) (mv hN (q 25))) rfl (ks 26 (L rfl) (ks 26 (L rfl) (ks 26 (L rfl) (ks 26 (L rfl) (cg (sV 30 (L rfl)) rfl (cg (sV 30 (L rfl)) rfl (cg (sV 30 (L rfl)) rfl (ks 26 (L rfl) (c (pickF (L rfl) (q 26) (Opd.bool false)) rfl (c (mv hN (q 35)) rfl (ks 36 (L rfl) (ks 36 (L rfl) (ks 36 (L rfl) (c (pickF (L rfl) (q 36) (Opd.bool false)) rfl (c (mv hN (q 40)) rfl (ks 41 (L rfl) (ks 41 (L rfl) (ks 41 (L rfl) (c (pickF (L rfl) (q 41) (Opd.bool false)) rfl (c (mv hN (q 45)) rfl (ks 46 (L rfl) (ks 46 (L rfl) (ks 46 (L rfl) (c (pickF (L rfl) (q 46) (Opd.bool false)) rfl (c (assign (L rfl) (q 50)) rfl cn)))))))))))))))))))))))))))))))))))))))))))))))))
       exact hjj26 _ h _ _ (mp [] _ _ hB)
     ·have h:=B7 hg34 h
      apply rg (c (fo 1001 0 [0] hN underlying39 0 tyS3 (q 1)) rfl (c (la hN 39 tyS3 (q 3)) rfl (cg (cf hB fnOk159 (C2 a0.fOrigin (-1) 2 r27 hr27) (L rfl) (OpdL.cons (q 4) (OpdL.cons (ii (-1)) (OpdL.cons (ii 2) OpdL.nil)))) rfl (c (OpJ.val (v':=.d (.bool true)) (by rw [hg28]<;>rfl) (mv hN (q 5))) rfl (c (gd 6 (fo 1001 1 [1] hN underlying39 1 tyS34 (q 1))) rfl (c (gd 6 (la hN 39 tyS34 (q 7))) rfl (cg (gd 6 (cf hB fnOk160 (H8 a0.fPath r29 hr29) (L rfl) (OpdL.cons (q 8) OpdL.nil))) rfl (c (pickT (L rfl) (q 6) (q 9)) rfl (c (OpJ.val (v':=.d (.bool true)) (by rw [hg30]<;>rfl) (mv hN (q 10))) rfl (c (gd 11 (fo 1001 2 [2] hN underlying39 2 tyS31 (q 1))) rfl (c (gd 11 (la hN 39 tyS31 (q 12))) rfl (cg (gd 11 (cf hB fnOk141 (H5 a0.fNext r31 hr31) (L rfl) (OpdL.cons (q 13) OpdL.nil))) rfl (c (pickT (L rfl) (q 11) (q 14)) rfl (c (OpJ.val (v':=.d (.bool true)) (by rw [hg32]<;>rfl) (mv hN (q 15))) rfl (c (gd 16 (fo 1001 5 [3] hN underlying39 5 tyS3 (q 1))) rfl (c (gd 16 (la hN 39 tyS3 (q 17))) rfl (cg (gd 16 (cf hB fnOk159 (C2 a0.fMED (-1) 4294967295 r33 hr33) (L rfl) (OpdL.cons (q 18) (OpdL.cons (ii (-1)) (OpdL.cons (ii 4294967295) OpdL.nil))))) rfl (c (pickT (L rfl) (q 16) (q 19)) rfl (c (OpJ.val (v':=.d (.bool false)) (by rw [hg34]<;>rfl) (mv hN (q 20))) rfl (ks 21 (L rfl) (ks 21 (L rfl) (ks 21 (L rfl) (c (pickF (L rfl) (q 21) (Opd.bool false)) rfl (c (mv hN (q 25)) rfl (ks 26 (L rfl) (ks 26 (L rfl) (ks 26 (L rfl) (ks 26 (L rfl) (cg (sV 30 (L rfl)) rfl (cg (sV 30 (L rfl)) rfl (cg (sV 30 (L rfl)) rfl (ks 26 (L rfl) (c (pickF (L rfl) (q 26) (Opd.bool false)) rfl (c (mv hN (q 35)) rfl (ks 36 (L rfl) (ks 36 (L rfl) (ks 36 (L rfl) (c (pickF (L rfl) (q 36) (Opd.bool false)) rfl (c (mv hN (q 40)) rfl (ks 41 (L rfl) (ks 41 (L rfl) (ks 41 (L rfl) (c (pickF (L rfl) (q 41) (Opd.bool false)) rfl (c (mv hN (q 45)) rfl (ks 46 (L rfl) (ks 46 (L rfl) (ks 46 (L rfl) (c (pickF (L rfl) (q 46) (Opd.bool false)) rfl (c (assign (L rfl) (q 50)) rfl cn)))))))))))))))))))))))))))))))))))))))))))))))))
      exact hjj26 _ h _ _ (mp [] _ _ hB)
    ·have h:=B7 hg32 h
     apply rg (c (fo 1001 0 [0] hN underlying39 0 tyS3 (q 1)) rfl (c (la hN 39 tyS3 (q 3)) rfl (cg (cf hB fnOk159 (C2 a0.fOrigin (-1) 2 r27 hr27) (L rfl) (OpdL.cons (q 4) (OpdL.cons (ii (-1)) (OpdL.cons (ii 2) OpdL.nil)))) rfl (c (OpJ.val (v':=.d (.bool true)) (by rw [hg28]<;>rfl) (mv hN (q 5))) rfl (c (gd 6 (fo 1001 1 [1] hN underlying39 1 tyS34 (q 1))) rfl (c (gd 6 (la hN 39 tyS34 (q 7))) rfl (cg (gd 6 (cf hB fnOk160 (H8 a0.fPath r29 hr29) (L rfl) (OpdL.cons (q 8) OpdL.nil))) rfl (c (pickT (L rfl) (q 6) (q 9)) rfl (c (OpJ.val (v':=.d (.bool true)) (by rw [hg30]<;>rfl) (mv hN (q 10))) rfl (c (gd 11 (fo 1001 2 [2] hN underlying39 2 tyS31 (q 1))) rfl (c (gd 11 (la hN 39 tyS31 (q 12))) rfl (cg (gd 11 (cf hB fnOk141 (H5 a0.fNext r31 hr31) (L rfl) (OpdL.cons (q 13) OpdL.nil))) rfl (c (pickT (L rfl) (q 11) (q 14)) rfl (c (OpJ.val (v':=.d (.bool false)) (by rw [hg32]<;>rfl) (mv hN (q 15))) rfl (ks 16 (L rfl) (ks 16 (L rfl) (ks 16 (L rfl) (c (pickF (L rfl) (q 16) (Opd.bool false)) rfl (c (mv hN (q 20)) rfl (ks 21 (L rfl) (ks 21 (L rfl) (ks 21 (L rfl) (c (pickF (L rfl) (q 21) (Opd.bool false)) rfl (c (mv hN (q 25)) rfl (ks 26 (L rfl) (ks 26 (L rfl) (ks 26 (L rfl) (ks 26 (L rfl) (cg (sV 30 (L rfl)) rfl (cg (sV 30 (L rfl)) rfl (cg (sV 30 (L rfl)) rfl (ks 26 (L rfl) (c (pickF (L rfl) (q 26) (Opd.bool false)) rfl (c (mv hN (q 35)) rfl (ks 36 (L rfl) (ks 36 (L rfl) (ks 36 (L rfl) (c (pickF (L rfl) (q 36) (Opd.bool false)) rfl (c (mv hN (q 40)) rfl (ks 41 (L rfl) (ks 41 (L rfl) (ks 41 (L rfl) (c (pickF (L rfl) (q 41) (Opd.bool false)) rfl (c (mv hN (q 45)) rfl (ks 46 (L rfl) (ks 46 (L rfl) (ks 46 (L rfl) (c (pickF (L rfl) (q 46) (Opd.bool false)) rfl (c (assign (L rfl) (q 50)) rfl cn)))))))))))))))))))))))))))))))))))))))))))))))))
     exact hjj26 _ h _ _ (mp [] _ _ hB)
   ·have h:=B7 hg30 h
    apply rg (c (fo 1001 0 [0] hN underlying39 0 tyS3 (q 1)) rfl (c (la hN 39 tyS3 (q 3)) rfl (cg (cf hB fnOk159 (C2 a0.fOrigin (-1) 2 r27 hr27) (L rfl) (OpdL.cons (q 4) (OpdL.cons (ii (-1)) (OpdL.cons (ii 2) OpdL.nil)))) rfl (c (OpJ.val (v':=.d (.bool true)) (by rw [hg28]<;>rfl) (mv hN (q 5))) rfl (c (gd 6 (fo 1001 1 [1] hN underlying39 1 tyS34 (q 1))) rfl (c (gd 6 (la hN 39 tyS34 (q 7))) rfl (cg (gd 6 (cf hB fnOk160 (H8 a0.fPath r29 hr29) (L rfl) (OpdL.cons (q 8) OpdL.nil))) rfl (c (pickT (L rfl) (q 6) (q 9)) rfl (c (OpJ.val (v':=.d (.bool false)) (by rw [hg30]<;>rfl) (mv hN (q 10))) rfl (ks 11 (L rfl) (ks 11 (L rfl) (ks 11 (L rfl) (c (pickF (L rfl) (q 11) (Opd.bool false)) rfl (c (mv hN (q 15)) rfl (ks 16 (L rfl) (ks 16 (L rfl) (ks 16 (L rfl) (c (pickF (L rfl) (q 16) (Opd.bool false)) rfl (c (mv hN (q 20)) rfl (ks 21 (L rfl) (ks 21 (L rfl) (ks 21 (L rfl) (c (pickF (L rfl) (q 21) (Opd.bool false)) rfl (c (mv hN (q 25)) rfl (ks 26 (L rfl) (ks 26 (L rfl) (ks 26 (L rfl) (ks 26 (L rfl) (cg (sV 30 (L rfl)) rfl (cg (sV 30 (L rfl)) rfl (cg (sV 30 (L rfl)) rfl (ks 26 (L rfl) (c (pickF (L rfl) (q 26) (Opd.bool false)) rfl (c (mv hN (q 35)) rfl (ks 36 (L rfl) (ks 36 (L rfl) (ks 36 (L rfl) (c (pickF (L rfl) (q 36) (Opd.bool false)) rfl (c (mv hN (q 40)) rfl (ks 41 (L rfl) (ks 41 (L rfl) (ks 41 (L rfl) (c (pickF (L rfl) (q 41) (Opd.bool false)) rfl (c (mv hN (q 45)) rfl (ks 46 (L rfl) (ks 46 (L rfl) (ks 46 (L rfl) (c (pickF (L rfl) (q 46) (Opd.bool false)) rfl (c (assign (L rfl) (q 50)) rfl cn)))))))))))))))))))))))))))))))))))))))))))))))))
    exact hjj26 _ h _ _ (mp [] _ _ hB)
  ·have h:=B7 hg28 h
   apply rg (c (fo 1001 0 [0] hN underlying39 0 tyS3 (q 1)) rfl (c (la hN 39 tyS3 (q 3)) rfl (cg (cf hB fnOk159 (C2 a0.fOrigin (-1) 2 r27 hr27) (L rfl) (OpdL.cons (q 4) (OpdL.cons (ii (-1)) (OpdL.cons (ii 2) OpdL.nil)))) rfl (c (OpJ.val (v':=.d (.bool false)) (by rw [hg28]<;>rfl) (mv hN (q 5))) rfl (ks 6 (L rfl) (ks 6 (L rfl) (ks 6 (L rfl) (c (pickF (L rfl) (q 6) (Opd.bool false)) rfl (c (mv hN (q 10)) rfl (ks 11 (L rfl) (ks 11 (L rfl) (ks 11 (L rfl) (c (pickF (L rfl) (q 11) (Opd.bool false)) rfl (c (mv hN (q 15)) rfl (ks 16 (L rfl) (ks 16 (L rfl) (ks 16 (L rfl) (c (pickF (L rfl) (q 16) (Opd.bool false)) rfl (c (mv hN (q 20)) rfl (ks 21 (L rfl) (ks 21 (L rfl) (ks 21 (L rfl) (c (pickF (L rfl) (q 21) (Opd.bool false)) rfl (c (mv hN (q 25)) rfl (ks 26 (L rfl) (ks 26 (L rfl) (ks 26 (L rfl) (ks 26 (L rfl) (cg (sV 30 (L rfl)) rfl (cg (sV 30 (L rfl)) rfl (cg (sV 30 (L rfl)) rfl (ks 26 (L rfl) (c (pickF (L rfl) (q 26) (Opd.bool false)) rfl (c (mv hN (q 35)) rfl (ks 36 (L rfl) (ks 36 (L rfl) (ks 36 (L rfl) (c (pickF (L rfl) (q 36) (Opd.bool false)) rfl (c (mv hN (q 40)) rfl (ks 41 (L rfl) (ks 41 (L rfl) (ks 41 (L rfl) (c (pickF (L rfl) (q 41) (Opd.bool false)) rfl (c (mv hN (q 45)) rfl (ks 46 (L rfl) (ks 46 (L rfl) (ks 46 (L rfl) (c (pickF (L rfl) (q 46) (Opd.bool false)) rfl (c (assign (L rfl) (q 50)) rfl cn)))))))))))))))))))))))))))))))))))))))))))))))))
   exact hjj26 _ h _ _ (mp [] _ _ hB)
def A2z (a0:A0) (a1:C9):Option (Bool) :=
 some (a0.fAddr.fV6 != a1.fAttrs.fNext.fV6)
theorem A6l (a0:A0) (a1:C9) (r:Bool) (h:A2z a0 a1=some r):AC Tryz.prog 153 [(.d (A2 a0)),(pt 0)] [(0,(.box 71 (.d (B9 a1))))] (.d (.bool r)) [(0,bd 71 (B9 a1))]:=by
 refine AC.of_code2 Tryz.func153 rfl rfl (Nat.le_of_ble_eq_true (by rfl)) fun B hB hN => ?_
 delta A2z at h
 apply sr (cg (OpJ.box hB (nm:=1002) (by decide) (by simp) rfl (ltN hN rfl) (q 0)) rfl (c (assign (ltN hN rfl) (Opd.bool false)) rfl cn))
 apply sr (c (fo 1002 0 [0] hN underlying33 0 tyS31 (q 2)) rfl (c (fo 1002 0 [0,0] hN underlying31 0 tyS4 (q 4)) rfl (c (lb hN 33 _ _ tyS4 (At.dst1 (by rfl) (by rfl) (ad _) (by first | rfl | omega)) (q 5)) rfl (c (fo 0 1 [1] hN underlying71 1 tyS39 (q 1)) rfl (c (fo 0 3 [1,2] hN underlying39 2 tyS31 (q 7)) rfl (c (fo 0 3 [1,2,0] hN underlying31 0 tyS4 (q 8)) rfl (c (lb hN 71 _ _ tyS4 (At.dst1 (by rfl) (by rfl) (At.dst1 (by rfl) (by rfl) (ad _) (by first | rfl | omega)) (by first | rfl | omega)) (q 9)) rfl (c (OpJ.neqB underlying4 (ltN hN rfl) (q 6) (q 10)) rfl (c (assign (ltN hN rfl) (q 11)) rfl cn)))))))))
 apply ret
 obtain rfl:=oi h
 exact rt (kp [(3,_)] [(0,some _)] hB rfl rfl (by rfl)) [(bo (a0.fAddr.fV6 != a1.fAttrs.fNext.fV6))] (rT rN) rfl
def K9 (a0:(List A0)) (a1:C9) (s1:Int):Option (((Int)⊕(Unit))⊕(Int)) :=
 (if (decide (s1<(a0.length:Int)))=true then
 (idx a0 s1).bind fun x13 =>
 (A2z x13 a1).bind fun r14 =>
 (if r14=true then
 some (.inl (.inl s1))
 else
 some (.inr (w64 (s1+1))))
 else
 some (.inl (.inr ())))
def T6 (a0:(List A0)) (a1:C9):Option (Int) :=
 (loop (K9 a0 a1) 0).bind fun x16=>match x16 with
 | (.inl p10) =>
  some p10
 | (.inr _) =>
  some (-1)
theorem A45 (a0:(List A0)) (a1:C9) (r:Int) (h:T6 a0 a1=some r):AC Tryz.prog 151 [(.d (.list 4 (a0.map A2))),(.func 153 [(pt 0)])] [(0,(.box 71 (.d (B9 a1))))] (.d (.int .i64 r)) [(0,bd 71 (B9 a1))]:=by
 refine AC.of_code2 Tryz.func151 rfl rfl (Nat.le_of_ble_eq_true (by rfl)) fun B hB hN => ?_
 delta T6 at h
 apply sr (c (assign (ltN hN rfl) (ii 0)) rfl cn)
 apply seq
 apply sr (c (mv hN (q 0)) rfl (c (OpJ.val (v':=(i6 (a0.length:Int))) (by simp) (lenD underlying69 (ltN hN rfl) (q 6))) rfl (c (mv hN (ii 0)) rfl cn)))
 apply block
 obtain⟨x16,hx17,h⟩:=bindS h
 refine lg (K9 a0 a1) (fun s1:Int=>([(0,(C1 a0)),(1,(.func 153 [(pt 0)])),(7,(i6 (a0.length:Int))),(8,(i6 s1))]:EL)) (fun s1:Int=>([(0,bd 71 (B9 a1))]:OL)) (fun(x:(Int)⊕(Unit)) e E' O'=>match x with | (.inl p10)=>e = .ret∧Mat B E' O' ([(4,(i6 p10))]:EL) ([(0,bd 71 (B9 a1))]:OL) | (.inr _p)=>e = .exit 0∧Mat B E' O' ([]:EL) ([(0,bd 71 (B9 a1))]:OL)) hx17 (mp [] _ _ hB) (fun s1 y h => ?_) (fun e E' O' hR => ?_)
 ·unfold K9 at h
  apply sr (c (lss (ltN hN rfl) (q 8) (q 7)) rfl cn)
  apply seq
  apply AWp.cond rfl<;>intro hg12
  ·have h:=B6 hg12 h
   apply AWp.skip
   apply A3
   apply seq
   apply block
   apply sr (c (mv hN (q 8)) rfl (c (assign (ltN hN rfl) (q 10)) rfl cn))
   apply seq
   obtain⟨x13,hx13,h⟩:=bindS h
   obtain⟨r14,hr14,h⟩:=bindS h
   refine AWp.region (oc (mv hN (ot 1 (.func 153 [(pt 0)])))
    (oc (mv hN (ot 0 (C1 a0)))
    (oc (mv hN (ot 5 (i6 s1)))
    (oc (indexD (el:=(A2 x13)) underlying69 tyS33 (A4 hx13).1 (C8 A2 (A4 hx13).2) (ltN hN rfl) (ot 12 (C1 a0)) (ot 13 (i6 s1)))
    (oc (loadD tyS33 (by rfl) (by rfl) (ltN hN rfl) (ot 14 (.dptr (A2 x13))))
    (oc (callVal (args:=[(.d (A2 x13))]) (caps:=[(pt 0)]) hB fnOk153 [(0,0)] (A6l x13 a1 r14 hr14) (by kernel_rfl) (ltN hN rfl) (by kernel_rfl) (by kernel_rfl) (OpdL.cons (ot 15 (.d (A2 x13))) OpdL.nil))
    (OpJs.nil))))))) (by rfl) (by rfl) ?_
   apply A3
   refine ghost (mp [] [(0,(C1 a0)),(1,(.func 153 [(pt 0)])),(5,(i6 s1)),(7,(i6 (a0.length:Int))),(8,(i6 s1)),(16,(bo r14))] [(0,bd 71 (B9 a1))] hB) ?_
   apply AWp.cond rfl<;>intro hg15
   ·have h:=B6 hg15 h
    apply sr (c (mv hN (q 5)) rfl (c (assign (ltN hN rfl) (q 17)) rfl cn))
    apply ret
    apply F7
    apply D4
    obtain rfl:=oi h
    exact⟨(fun hc=>by cases hc),rfl,(mp [] _ _ hB)⟩
   ·have h:=B7 hg15 h
    apply AWp.skip
    apply F8
    apply A3
    apply rg (c (add6 (ltN hN rfl) (q 8) (ii 1)) rfl (c (mv hN (q 18)) rfl cn))
    obtain rfl:=oi h
    exact⟨rfl,(mp [] _ _ hB)⟩
  ·have h:=B7 hg12 h
   apply AWp.exit
   apply F6
   obtain rfl:=oi h
   exact⟨(fun hc=>by cases hc),rfl,(mp [] _ _ hB)⟩
 ·rcases x16 with p10 | _
  ·obtain⟨rfl,hmat⟩:=hR
   apply F7
   apply D4
   obtain rfl:=oi h
   exact rt (Mat.trans hmat (mp [] [(4,(i6 p10))] [(0,bd 71 (B9 a1))] hB)) [(i6 p10)] (rT rN) rfl
  ·obtain⟨rfl,hmat⟩:=hR
   apply E4
   apply A3
   refine ghost hmat ?_
   apply sr (c (assign (ltN hN rfl) (ii (-1))) rfl cn)
   apply ret
   obtain rfl:=oi h
   exact rt (kp [(4,_)] [(0,some _)] hB rfl rfl (by rfl)) [(i6 (-1))] (rT rN) rfl
def L0 (a0:(List A0)) (a1:C9):Option (Bool) :=
 (T6 a0 a1).bind fun r1 =>
 some (decide (0≤r1))
theorem A30 (a0:(List A0)) (a1:C9) (r:Bool) (h:L0 a0 a1=some r):AC Tryz.prog 145 [(.d (.list 4 (a0.map A2))),(.func 153 [(pt 0)])] [(0,(.box 71 (.d (B9 a1))))] (.d (.bool r)) [(0,bd 71 (B9 a1))]:=by
 refine AC.of_code2 Tryz.func145 rfl rfl (Nat.le_of_ble_eq_true (by rfl)) fun B hB hN => ?_
 delta L0 at h
 apply sr (c (assign (ltN hN rfl) (Opd.bool false)) rfl cn)
 apply seq
 obtain⟨r1,hr1,h⟩:=bindS h
 refine AWp.region (oc (mv hN (ot 0 (C1 a0)))
 (oc (mv hN (ot 1 (.func 153 [(pt 0)])))
 (oc (OpJ.callFn hB fnOk151 (A45 a0 a1 r1 hr1) [(0,0)] (by kernel_rfl) (ltN hN rfl) (by kernel_rfl) (OpdL.cons (ot 5 (C1 a0)) (OpdL.cons (ot 6 (.func 153 [(pt 0)])) OpdL.nil)))
 (oc (geq (ltN hN rfl) (ot 7 (i6 r1)) (ii 0))
 (oc (assign (ltN hN rfl) (ot 8 (bo (decide (0≤r1)))))
 (OpJs.nil)))))) (by rfl) (by rfl) ?_
 apply A3
 refine ghost (mp [] [(4,(bo (decide (0≤r1))))] [(0,bd 71 (B9 a1))] hB) ?_
 apply ret
 obtain rfl:=oi h
 exact rt (kp [(4,_)] [(0,some _)] hB rfl rfl (by rfl)) [(bo (decide (0≤r1)))] (rT rN) rfl
def X1 (a0:C9):Option (Bool) :=
 (if ((a0.fAnnounce.length:Int)==0)=true then
 (A0p a0.fAttrs).bind fun r2 =>
 some r2
 else
 jn (fun m7:Bool =>
 some m7) (fun j8 =>
 (J7 a0.fAttrs).bind fun r9 =>
 (if ((r9&&(a0.fAttrs.fOrigin != (-1)))&&(!((a0.fAttrs.fNext.fV6==false)&&((a0.fAttrs.fNext.fHi==0)&&((a0.fAttrs.fNext.fLo==0)&&true)))))=true then
 (L0 a0.fAnnounce a0).bind fun r11 =>
 j8 (!r11)
 else
 j8 false)))
theorem A8g (a0:C9) (r:Bool) (h:X1 a0=some r):AC Tryz.prog 146 [(.d (B9 a0))] [(500,(.know (globD 0 (.imap gv0))))] (.d (.bool r)) [(500,some (.know (globD 0 (.imap gv0))))]:=by
 refine ac2 Tryz.func146 rfl rfl fun B hB hN L => ?_
 delta X1 at h
 apply sr (cg (OpJ.box hB (nm:=1001) (by decide) (by simp) rfl (L rfl) (q 0)) rfl (c (assign (L rfl) (Opd.bool false)) rfl cn))
 apply seq
 apply sr (c (fo 1001 12 [2] hN underlying71 12 tyS69 (q 1)) rfl (c (la hN 71 tyS69 (q 4)) rfl (c (OpJ.val (v':=(i6 (a0.fAnnounce.length:Int))) (by simp) (lenD underlying69 (L rfl) (q 5))) rfl (c (eqlI (L rfl) (q 6) (ii 0)) rfl cn))))
 apply AWp.cond rfl<;>intro hg1
 ·have h:=B6 hg1 h
  obtain⟨r2,hr2,h⟩:=bindS h
  apply sr (c (fo 1001 1 [1] hN underlying71 1 tyS39 (q 1)) rfl (c (la hN 71 tyS39 (q 8)) rfl (cg (cf hB fnOk152 (A7n a0.fAttrs r2 hr2) (L rfl) (OpdL.cons (q 9) OpdL.nil)) rfl (c (assign (L rfl) (q 10)) rfl cn))))
  apply ret
  apply D4
  obtain rfl:=oi h
  exact rt (kp [(2,_)] [(500,some _)] hB rfl rfl (by rfl)) [(bo r2)] (rT rN) rfl
 ·have h:=B7 hg1 h
  apply AWp.skip
  apply A3
  apply sr (cg (OpJ.makeF (OpdL.cons (q 1) OpdL.nil) rfl rfl (L rfl)) rfl (c (assign (L rfl) (q 11)) rfl cn))
  apply seq
  refine AWp.cut h (fun m7:Bool=>([(2,(bo m7))]:EL)) (fun m7:Bool=>([(500,some (.know (globD 0 (.imap gv0))))]:OL)) (fun m7 h E' O' hmat => ?_) (fun j8 hjj8 h => ?_)
  ·apply A3
   refine ghost hmat ?_
   apply ret
   obtain rfl:=oi h
   exact rt (kp [(2,_)] [(500,some _)] hB rfl rfl (by rfl)) [(bo m7)] (rT rN) rfl
  ·obtain⟨r9,hr9,h⟩:=bindS h
   rcases bft ((r9&&(a0.fAttrs.fOrigin != (-1)))&&(!((a0.fAttrs.fNext.fV6==false)&&((a0.fAttrs.fNext.fHi==0)&&((a0.fAttrs.fNext.fLo==0)&&true))))) with hg10 | hg10
   ·have h:=B6 hg10 h
    obtain⟨r11,hr11,h⟩:=bindS h
    refine AWp.region (oc (ov (.ptr 1001 1 [1]) (fp hN underlying71 1 tyS39 (.box 71 (.d (B9 a0))) (ot 1 (pt 1001))))
     (oc (lb hN 71 (.d (B9 a0)) (.d (A8 a0.fAttrs)) tyS39 (ad (A8 a0.fAttrs)) (ot 12 (.ptr 1001 1 [1])))
     (oc (OpJ.callFn hB fnOk154 (A04 a0.fAttrs r9 hr9) [(500,500)] (by kernel_rfl) (L rfl) (by kernel_rfl) (OpdL.cons (ot 13 (.d (A8 a0.fAttrs))) OpdL.nil))
     (oc (mv hN (ot 14 (bo r9)))
     (oc (op hN 15 (.ptr 1001 1 [1]) (ov (.ptr 1001 1 [1]) (fp hN underlying71 1 tyS39 (.box 71 (.d (B9 a0))) (ot 1 (pt 1001)))) (OptL.keep rfl OptL.nil) (GuardV.plain _))
     (oc (op hN 15 (.ptr 1001 1 [1,0]) (ov (.ptr 1001 1 [1,0]) (fp hN underlying39 0 tyS3 (.box 71 (.d (B9 a0))) (ot 16 (.ptr 1001 1 [1])))) (OptL.opt OptL.nil) (GuardV.plain _))
     (oc (op hN 15 (i6 a0.fAttrs.fOrigin) (lb hN 71 (.d (B9 a0)) (i6 a0.fAttrs.fOrigin) tyS3 (At.dst1 (f:=(A8 a0.fAttrs)) (by rfl) (by rfl) (ad (.int .i64 a0.fAttrs.fOrigin)) (by first | rfl | omega)) (ot 17 (.ptr 1001 1 [1,0]))) (OptL.opt OptL.nil) (GuardV.plain _))
     (oc (op hN 15 (bo (a0.fAttrs.fOrigin != (-1))) (neqI (L rfl) (ot 18 (i6 a0.fAttrs.fOrigin)) (ii (-1))) (OptL.opt OptL.nil) (GuardV.plain _))
     (oc (pickAnd rfl (L rfl) (ot 15 (bo r9)) (ot 19 (.opt (r9==true) (bo (a0.fAttrs.fOrigin != (-1))))))
     (oc (mv hN (ot 20 (bo (r9&&(a0.fAttrs.fOrigin != (-1))))))
     (oc (op hN 21 (.ptr 1001 1 [1]) (ov (.ptr 1001 1 [1]) (fp hN underlying71 1 tyS39 (.box 71 (.d (B9 a0))) (ot 1 (pt 1001)))) (OptL.keep rfl OptL.nil) (GuardV.plain _))
     (oc (op hN 21 (.ptr 1001 3 [1,2]) (ov (.ptr 1001 3 [1,2]) (fp hN underlying39 2 tyS31 (.box 71 (.d (B9 a0))) (ot 22 (.ptr 1001 1 [1])))) (OptL.opt OptL.nil) (GuardV.plain _))
     (oc (op hN 21 (.d (C5 a0.fAttrs.fNext)) (lb hN 71 (.d (B9 a0)) (.d (C5 a0.fAttrs.fNext)) tyS31 (At.dst1 (f:=(A8 a0.fAttrs)) (by rfl) (by rfl) (ad (C5 a0.fAttrs.fNext)) (by first | rfl | omega)) (ot 23 (.ptr 1001 3 [1,2]))) (OptL.opt OptL.nil) (GuardV.plain _))
     (oc (op hN 21 (.d (.st [(.bool false),(.int .u64 0),(.int .u64 0)])) (OpJ.coe (v:=(.st [(bo false),(.d (.int .u64 0)),(.d (.int .u64 0))])) (y:=(.st [(.bool false),(.int .u64 0),(.int .u64 0)])) (Co.st (CoL.cons (Co.d _) (CoL.cons (Co.d _) (CoL.cons (Co.d _) CoL.nil)))) rfl (OpJ.build (places:=[(0,1),(1,1),(2,1)]) ⟨underlying31,fun w=>by kernel_rfl⟩ tyZS31 Opds.nil (by kernel_rfl) (r:=(.st [(bo false),(.d (.int .u64 0)),(.d (.int .u64 0))])) (by rfl) (L rfl))) OptL.nil (GuardV.plain _))
     (oc (op hN 21 (bo (!((a0.fAttrs.fNext.fV6==false)&&((a0.fAttrs.fNext.fHi==0)&&((a0.fAttrs.fNext.fLo==0)&&true))))) (OpJ.neqD (h:=2) (B03 a0.fAttrs.fNext) eqg31 ⟨rfl,rfl⟩ (by rfl) (L rfl) (ot 24 (.d (C5 a0.fAttrs.fNext))) (ot 25 (.d (.st [(.bool false),(.int .u64 0),(.int .u64 0)])))) (OptL.opt (OptL.opt OptL.nil)) (GuardV.plain _))
     (oc (pickAnd rfl (L rfl) (ot 21 (bo (r9&&(a0.fAttrs.fOrigin != (-1))))) (ot 26 (.opt ((r9&&(a0.fAttrs.fOrigin != (-1)))==true) (bo (!((a0.fAttrs.fNext.fV6==false)&&((a0.fAttrs.fNext.fHi==0)&&((a0.fAttrs.fNext.fLo==0)&&true))))))))
     (oc (OpJ.val (v':=.d (.bool true)) (by rw [hg10]<;>rfl) (mv hN (ot 27 (bo ((r9&&(a0.fAttrs.fOrigin != (-1)))&&(!((a0.fAttrs.fNext.fV6==false)&&((a0.fAttrs.fNext.fHi==0)&&((a0.fAttrs.fNext.fLo==0)&&true)))))))))
     (oc (gd 28 (ov (.ptr 1001 12 [2]) (fp hN underlying71 12 tyS69 (.box 71 (.d (B9 a0))) (ot 1 (pt 1001)))))
     (oc (gd 28 (lb hN 71 (.d (B9 a0)) (C1 a0.fAnnounce) tyS69 (ad (.list 4 (a0.fAnnounce.map A2))) (ot 29 (.ptr 1001 12 [2]))))
     (oc (gd 28 (mv hN (ot 3 (.func 153 [(pt 1001)]))))
     (oc (gd 28 (OpJ.callFn hB fnOk145 (A30 a0.fAnnounce a0 r11 hr11) [(0,1001)] (by kernel_rfl) (L rfl) (by kernel_rfl) (OpdL.cons (ot 30 (C1 a0.fAnnounce)) (OpdL.cons (ot 31 (.func 153 [(pt 1001)])) OpdL.nil))))
     (oc (gd 28 (OpJ.not (L rfl) (ot 32 (bo r11))))
     (oc (pickT (L rfl) (ot 28 (bo true)) (ot 33 (bo (!r11))))
     (oc (assign (L rfl) (ot 34 (bo (!r11))))
     (OpJs.nil))))))))))))))))))))))))) (by rfl) (by rfl) ?_
    exact hjj8 _ h _ _ (mp [] _ _ hB)
   ·have h:=B7 hg10 h
    refine AWp.region (oc (ov (.ptr 1001 1 [1]) (fp hN underlying71 1 tyS39 (.box 71 (.d (B9 a0))) (ot 1 (pt 1001))))
     (oc (lb hN 71 (.d (B9 a0)) (.d (A8 a0.fAttrs)) tyS39 (ad (A8 a0.fAttrs)) (ot 12 (.ptr 1001 1 [1])))
     (oc (OpJ.callFn hB fnOk154 (A04 a0.fAttrs r9 hr9) [(500,500)] (by kernel_rfl) (L rfl) (by kernel_rfl) (OpdL.cons (ot 13 (.d (A8 a0.fAttrs))) OpdL.nil))
     (oc (mv hN (ot 14 (bo r9)))
     (oc (op hN 15 (.ptr 1001 1 [1]) (ov (.ptr 1001 1 [1]) (fp hN underlying71 1 tyS39 (.box 71 (.d (B9 a0))) (ot 1 (pt 1001)))) (OptL.keep rfl OptL.nil) (GuardV.plain _))
     (oc (op hN 15 (.ptr 1001 1 [1,0]) (ov (.ptr 1001 1 [1,0]) (fp hN underlying39 0 tyS3 (.box 71 (.d (B9 a0))) (ot 16 (.ptr 1001 1 [1])))) (OptL.opt OptL.nil) (GuardV.plain _))
     (oc (op hN 15 (i6 a0.fAttrs.fOrigin) (lb hN 71 (.d (B9 a0)) (i6 a0.fAttrs.fOrigin) tyS3 (At.dst1 (f:=(A8 a0.fAttrs)) (by rfl) (by rfl) (ad (.int .i64 a0.fAttrs.fOrigin)) (by first | rfl | omega)) (ot 17 (.ptr 1001 1 [1,0]))) (OptL.opt OptL.nil) (GuardV.plain _))
     (oc (op hN 15 (bo (a0.fAttrs.fOrigin != (-1))) (neqI (L rfl) (ot 18 (i6 a0.fAttrs.fOrigin)) (ii (-1))) (OptL.opt OptL.nil) (GuardV.plain _))
     (oc (pickAnd rfl (L rfl) (ot 15 (bo r9)) (ot 19 (.opt (r9==true) (bo (a0.fAttrs.fOrigin != (-1))))))
     (oc (mv hN (ot 20 (bo (r9&&(a0.fAttrs.fOrigin != (-1))))))
     (oc (op hN 21 (.ptr 1001 1 [1]) (ov (.ptr 1001 1 [1]) (fp hN underlying71 1 tyS39 (.box 71 (.d (B9 a0))) (ot 1 (pt 1001)))) (OptL.keep rfl OptL.nil) (GuardV.plain _))
     (oc (op hN 21 (.ptr 1001 3 [1,2]) (ov (.ptr 1001 3 [1,2]) (fp hN underlying39 2 tyS31 (.box 71 (.d (B9 a0))) (ot 22 (.ptr 1001 1 [1])))) (OptL.opt OptL.nil) (GuardV.plain _))
     (oc (op hN 21 (.d (C5 a0.fAttrs.fNext)) (lb hN 71 (.d (B9 a0)) (.d (C5 a0.fAttrs.fNext)) tyS31 (At.dst1 (f:=(A8 a0.fAttrs)) (by rfl) (by rfl) (ad (C5 a0.fAttrs.fNext)) (by first | rfl | omega)) (ot 23 (.ptr 1001 3 [1,2]))) (OptL.opt OptL.nil) (GuardV.plain _))
     (oc (op hN 21 (.d (.st [(.bool false),(.int .u64 0),(.int .u64 0)])) (OpJ.coe (v:=(.st [(bo false),(.d (.int .u64 0)),(.d (.int .u64 0))])) (y:=(.st [(.bool false),(.int .u64 0),(.int .u64 0)])) (Co.st (CoL.cons (Co.d _) (CoL.cons (Co.d _) (CoL.cons (Co.d _) CoL.nil)))) rfl (OpJ.build (places:=[(0,1),(1,1),(2,1)]) ⟨underlying31,fun w=>by kernel_rfl⟩ tyZS31 Opds.nil (by kernel_rfl) (r:=(.st [(bo false),(.d (.int .u64 0)),(.d (.int .u64 0))])) (by rfl) (L rfl))) OptL.nil (GuardV.plain _))
     (oc (op hN 21 (bo (!((a0.fAttrs.fNext.fV6==false)&&((a0.fAttrs.fNext.fHi==0)&&((a0.fAttrs.fNext.fLo==0)&&true))))) (OpJ.neqD (h:=2) (B03 a0.fAttrs.fNext) eqg31 ⟨rfl,rfl⟩ (by rfl) (L rfl) (ot 24 (.d (C5 a0.fAttrs.fNext))) (ot 25 (.d (.st [(.bool false),(.int .u64 0),(.int .u64 0)])))) (OptL.opt (OptL.opt OptL.nil)) (GuardV.plain _))
     (oc (pickAnd rfl (L rfl) (ot 21 (bo (r9&&(a0.fAttrs.fOrigin != (-1))))) (ot 26 (.opt ((r9&&(a0.fAttrs.fOrigin != (-1)))==true) (bo (!((a0.fAttrs.fNext.fV6==false)&&((a0.fAttrs.fNext.fHi==0)&&((a0.fAttrs.fNext.fLo==0)&&true))))))))
     (oc (OpJ.val (v':=.d (.bool false)) (by rw [hg10]<;>rfl) (mv hN (ot 27 (bo ((r9&&(a0.fAttrs.fOrigin != (-1)))&&(!((a0.fAttrs.fNext.fV6==false)&&((a0.fAttrs.fNext.fHi==0)&&((a0.fAttrs.fNext.fLo==0)&&true)))))))))
     (oc (sU 28 (L rfl))
     (oc (sU 28 (L rfl))
     (oc (sU 28 (L rfl))
     (oc (sU 28 (L rfl))
     (oc (sU 28 (L rfl))
     (oc (pickF (L rfl) (ot 28 (bo false)) (Opd.bool false))
     (oc (assign (L rfl) (ot 34 (bo false)))
     (OpJs.nil))))))))))))))))))))))))) (by rfl) (by rfl) ?_
    exact hjj8 _ h _ _ (mp [] _ _ hB)
def J4 (a0:Bool) (a1:Int) (a2:(List Int)):Option ((List A7)) :=
 jn (fun m3:(List A7) =>
 some m3) (fun j4 =>
 (if a0=true then
 chk (decide ([(A7.mk (ilk gv0 a1) a1 a2)].length≤LIM)) <|
 j4 [(A7.mk (ilk gv0 a1) a1 a2)]
 else
 j4 ([]:List A7)))
theorem A4p (a0:Bool) (a1:Int) (a2:(List Int)) (r:(List A7)) (h:J4 a0 a1 a2=some r):AC Tryz.prog 176 [(.d (.bool a0)),(.d (.int .i64 a1)),(.d (.list 1 (a2.map (eI .u8)))),(pt 0)] [(0,(.box 37 .nils)),(500,(.know (globD 0 (.imap gv0))))] (.tup []) [(0,some (.box 37 (.sref 950000 3 0 r.length))),(500,some (.know (globD 0 (.imap gv0)))),(950000,some (.row 78 3 (r.map A5)))]:=by
 refine AC.of_code2 Tryz.func176 rfl rfl (Nat.le_of_ble_eq_true (by rfl)) fun B hB hN => ?_
 delta J4 at h
 apply sr (c (mv hN (q 0)) rfl cn)
 refine gh [(1,_),(2,_),(3,_),(7,_)] [(0,some _),(500,some _)] hB rfl rfl (by rfl) ?_
 refine AWp.cut h (fun m3:(List A7)=>([]:EL)) (fun m3:(List A7)=>([(0,some (.box 37 (.sref 3000 3 0 m3.length))),(500,some (.know (globD 0 (.imap gv0)))),(3000,some (F0 m3))]:OL)) (fun m3 h E' O' hmat => ?_) (fun j4 hjj4 h => ?_)
 ·obtain rfl:=oi h
  exact⟨.inr rfl,_,_,(Mat.trans hmat (mp [(950000,3000)] [] [(0,some (.box 37 (.sref 950000 3 0 m3.length))),(500,some (.know (globD 0 (.imap gv0)))),(950000,some (F0 m3))] hB)),[],rN,rfl,by rfl,by rfl,by rfl⟩
 ·apply AWp.cond rfl<;>intro hg5
  ·have h:=B6 hg5 h
   obtain⟨hc6,h⟩:=D3 h
   apply rg (c (lb hN 37 _ _ tyS37 (At.here _) (q 3)) rfl (cg (OpJ.loadGD (nm:=500) (.imap gv0) tyS210 (by rfl) (by rfl) (by simp) (ltN hN rfl)) rfl (c (mv hN (q 1)) rfl (cg (OpJ.ilook tyU210 underlying3 keyEq3 tyZD3 (ltN hN rfl) (q 9) (q 10)) rfl (c (mv hN (q 1)) rfl (c (mv hN (q 2)) rfl (c (OpJ.coe (v:=(.st [(i6 (ilk gv0 a1)),(i6 a1),(.d (.list 1 (a2.map (eI .u8))))])) (y:=(.st [(.int .i64 (ilk gv0 a1)),(.int .i64 a1),(.list 1 (a2.map (eI .u8)))])) (Co.st (CoL.cons (Co.d _) (CoL.cons (Co.d _) (CoL.cons (Co.d _) CoL.nil)))) rfl (OpJ.build (places:=[(0,1),(1,1),(2,1)]) ⟨underlying78,fun w=>by kernel_rfl⟩ tyZS78 (Opds.cons (q 11) (Opds.cons (q 12) (Opds.cons (q 13) Opds.nil))) (by kernel_rfl) (r:=(.st [(i6 (ilk gv0 a1)),(i6 a1),(.d (.list 1 (a2.map (eI .u8))))])) (by rfl) (ltN hN rfl))) rfl (c (buildSlice underlying37 tyS78 tyZD78 (by rfl) (by decide) (by decide) (Opds.cons (q 14) Opds.nil) (by kernel_rfl) (es:=([(.st [(.int .i64 (ilk gv0 a1)),(.int .i64 a1),(.list 1 (a2.map (eI .u8)))])]:List D)) (by rfl) (by rfl) (by kernel_rfl) (by simp) (ltN hN rfl)) rfl (cg (OpJ.appendN hB underlying37 tyE78 (nm:=1016) (by decide) (ys:=[(A7.mk (ilk gv0 a1) a1 a2)].map A5) (len:=[(A7.mk (ilk gv0 a1) a1 a2)].length) (by simp) (R4 (f:=A5) (fun _=>rfl)) (by rw [List.length_map];exact J6 hc6 (by decide)) (by rw [List.length_map];exact M6 hc6) (ltN hN rfl) (q 8) (q 15)) rfl (cg (sB tyS37 (q 3) (q 16)) rfl cn))))))))))
   exact hjj4 _ h _ _ (mp [(3000,1016)] _ _ hB)
  ·have h:=B7 hg5 h
   apply AWp.skip
   exact hjj4 _ h _ _ (Mat.trans (Mat.beginP (n:=3000) (e:=78) (sz:=3) (Ts:=[]) (Bs:=[(0,some (.box 37 (.sref 3000 3 0 0)))]) hB (by decide) (by rfl) (by decide) TwT.nil (TwB.cons (x:=.nils) (by rfl) (Tw.leaf ⟨rfl,rfl⟩) TwB.nil)) (mp [] _ _ hB))
def O9 (a1:(List Int)) (s1:Int×(List Int)):Option ((((List Int)))⊕(Int×(List Int))) :=
 (if (decide (s1.1<(a1.length:Int)))=true then
 (idx a1 s1.1).bind fun x10 =>
 chk (decide ((s1.2++([(IntKind.u8.wrap (shrI .i64 x10 24)),(IntKind.u8.wrap (shrI .i64 x10 16)),(IntKind.u8.wrap (shrI .i64 x10 8)),(IntKind.u8.wrap x10)]:List Int)).length≤LIM)) <|
 some (.inr ((w64 (s1.1+1)),(s1.2++([(IntKind.u8.wrap (shrI .i64 x10 24)),(IntKind.u8.wrap (shrI .i64 x10 16)),(IntKind.u8.wrap (shrI .i64 x10 8)),(IntKind.u8.wrap x10)]:List Int))))
 else
 some (.inl s1.2))
def N1 (a0:(List Int)) (a1:(List Int)):Option ((List Int)) :=
 (loop (O9 a1) (0,a0)).bind fun p8 =>
 some p8
theorem A05 (a0:(List Int)) (a1:(List Int)) (r:(List Int)) (h:N1 a0 a1=some r):AC Tryz.prog 178 [(.sref 0 1 0 a0.length),(.d (.list 1 (a1.map (eI .i64))))] [(0,(.row 5 1 (a0.map (eI .u8))))] (.sref 900000 1 0 r.length) [(0,none),(900000,some (.row 5 1 (r.map (eI .u8))))]:=by
 refine ac2 Tryz.func178 rfl rfl fun B hB hN L => ?_
 delta N1 at h
 apply sr (c (assign (L rfl) Opd.nils) rfl cn)
 apply seq
 apply sr (c (mv hN (q 1)) rfl (c (OpJ.val (v':=(i6 (a1.length:Int))) (by simp) (lenD underlying27 (L rfl) (q 7))) rfl (c (mv hN (ii 0)) rfl cn)))
 apply block
 obtain⟨p8,hx13,h⟩:=bindS h
 refine lg (O9 a1) (fun s1:Int×(List Int)=>([(0,(.sref 3000 1 0 s1.2.length)),(7,(qI_1 a1)),(8,(i6 (a1.length:Int))),(9,(i6 s1.1))]:EL)) (fun s1:Int×(List Int)=>([(3000,some (.row 5 1 (s1.2.map (eI .u8))))]:OL)) (fun(p8:((List Int))) e E' O'=>e = .exit 0∧Mat B E' O' ([(0,(.sref 3000 1 0 p8.length))]:EL) ([(3000,some (.row 5 1 (p8.map (eI .u8))))]:OL)) hx13 (mp [(3000,0)] _ _ hB) (fun s1 y h => ?_) (fun e E' O' hR => ?_)
 ·unfold O9 at h
  apply sr (c (lss (L rfl) (q 9) (q 8)) rfl cn)
  apply seq
  apply AWp.cond rfl<;>intro hg9
  ·have h:=B6 hg9 h
   apply AWp.skip
   apply A3
   apply seq
   apply block
   obtain⟨x10,hx10,h⟩:=bindS h
   apply sr (c (indexD underlying27 tyS3 (A4 hx10).1 (C8 (eI .i64) (A4 hx10).2) (L rfl) (q 7) (q 9)) rfl (c (loadD tyS3 (by rfl) (by rfl) (L rfl) (q 11)) rfl (c (assign (L rfl) (q 12)) rfl cn)))
   obtain⟨hc11,h⟩:=D3 h
   have hc11_o:=hc11
   simp only [decide_eq_true_eq] at hc11_o
   apply rg (c (mv hN (q 0)) rfl (c (mv hN (q 6)) rfl (c (OpJ.shr (L rfl) (q 14) (Opd.int .u64 (24)) (by decide)) rfl (c (OpJ.conv underlying3 underlying5 (L rfl) (q 15)) rfl (c (mv hN (q 6)) rfl (c (OpJ.shr (L rfl) (q 17) (Opd.int .u64 (16)) (by decide)) rfl (c (OpJ.conv underlying3 underlying5 (L rfl) (q 18)) rfl (c (mv hN (q 6)) rfl (c (OpJ.shr (L rfl) (q 20) (Opd.int .u64 (8)) (by decide)) rfl (c (OpJ.conv underlying3 underlying5 (L rfl) (q 21)) rfl (c (mv hN (q 6)) rfl (c (OpJ.conv underlying3 underlying5 (L rfl) (q 23)) rfl (c (buildSlice underlying76 tyS5 tyZD5 (by rfl) (by decide) (by decide) (Opds.cons (q 16) (Opds.cons (q 19) (Opds.cons (q 22) (Opds.cons (q 24) Opds.nil)))) (by kernel_rfl) (es:=([(.int .u8 (IntKind.u8.wrap (shrI .i64 x10 24))),(.int .u8 (IntKind.u8.wrap (shrI .i64 x10 16))),(.int .u8 (IntKind.u8.wrap (shrI .i64 x10 8))),(.int .u8 (IntKind.u8.wrap x10))]:List D)) (by rfl) (by rfl) (by kernel_rfl) (by simp) (L rfl)) rfl (cg (apd hB underlying76 tyE5 1026 (eI .u8) s1.2 ([(IntKind.u8.wrap (shrI .i64 x10 24)),(IntKind.u8.wrap (shrI .i64 x10 16)),(IntKind.u8.wrap (shrI .i64 x10 8)),(IntKind.u8.wrap x10)]:List Int) hc11 (L rfl) (q 13) (q 25)) rfl (c (assign (L rfl) (q 26)) rfl cn)))))))))))))))
   apply F8
   apply A3
   apply rg (c (add6 (L rfl) (q 9) (ii 1)) rfl (c (mv hN (q 27)) rfl cn))
   obtain rfl:=oi h
   exact⟨rfl,(mp [(3000,1026)] _ _ hB)⟩
  ·have h:=B7 hg9 h
   apply AWp.exit
   apply F6
   obtain rfl:=oi h
   exact⟨(fun hc=>by cases hc),rfl,(mp [] _ _ hB)⟩
 ·obtain⟨rfl,hmat⟩:=hR
  apply E4
  apply A3
  refine ghost hmat ?_
  apply sr (c (mv hN (q 0)) rfl (c (assign (L rfl) (q 28)) rfl cn))
  apply ret
  obtain rfl:=oi h
  exact rt (mp [(900000,3000)] [(4,(.sref 900000 1 0 p8.length))] [(900000,some (.row 5 1 (p8.map (eI .u8))))] hB) [(.sref 900000 1 0 p8.length)] (rT rN) rfl
def M9 (a0:(List B2)) (s1:Int×(List Int)):Option ((((List Int)))⊕(Int×(List Int))) :=
 (if (decide (s1.1<(a0.length:Int)))=true then
 (idx a0 s1.1).bind fun x20 =>
 jn (fun m22:Int =>
 chk (decide ((s1.2++([m22,(IntKind.u8.wrap (x20.fASNs.length:Int))]:List Int)).length≤LIM)) <|
 (N1 (s1.2++([m22,(IntKind.u8.wrap (x20.fASNs.length:Int))]:List Int)) x20.fASNs).bind fun r25 =>
 some (.inr ((w64 (s1.1+1)),r25))) (fun j23 =>
 (if x20.fSet=true then
 j23 1
 else
 j23 2))
 else
 some (.inl s1.2))
def P0 (a0:(List B2)):Option ((List Int)) :=
 (loop (M9 a0) (0,([]:List Int))).bind fun p18 =>
 some p18
theorem A65 (a0:(List B2)) (r:(List Int)) (h:P0 a0=some r):AC Tryz.prog 177 [(.d (.list 2 (a0.map B4)))] [] (.d (.list 1 (r.map (eI .u8)))) []:=by
 refine ac2 Tryz.func177 rfl rfl fun B hB hN L => ?_
 delta P0 at h
 apply sr (c (assign (L rfl) Opd.nils) rfl cn)
 apply sr (c (assign (L rfl) Opd.nils) rfl cn)
 apply seq
 apply sr (c (mv hN (q 0)) rfl (c (OpJ.val (v':=(i6 (a0.length:Int))) (by simp) (lenD underlying34 (L rfl) (q 7))) rfl (c (mv hN (ii 0)) rfl cn)))
 apply block
 obtain⟨p18,hx28,h⟩:=bindS h
 refine lg (M9 a0) (fun s1:Int×(List Int)=>([(3,(.sref 3003 1 0 s1.2.length)),(7,(D0 a0)),(8,(i6 (a0.length:Int))),(9,(i6 s1.1))]:EL)) (fun s1:Int×(List Int)=>([(3003,some (.row 5 1 (s1.2.map (eI .u8))))]:OL)) (fun(p18:((List Int))) e E' O'=>e = .exit 0∧Mat B E' O' ([(3,(.sref 3003 1 0 p18.length))]:EL) ([(3003,some (.row 5 1 (p18.map (eI .u8))))]:OL)) hx28 (Mat.trans (Mat.beginP (n:=3003) (e:=5) (sz:=1) (Ts:=[(3,(.sref 3003 1 0 0))]) (Bs:=[]) hB (by decide) (by rfl) (by decide) (TwT.cons (x:=.nils) (by rfl) (Tw.leaf ⟨rfl,rfl⟩) TwT.nil) TwB.nil) (mp [] _ _ hB)) (fun s1 y h => ?_) (fun e E' O' hR => ?_)
 ·unfold M9 at h
  apply sr (c (lss (L rfl) (q 9) (q 8)) rfl cn)
  apply seq
  apply AWp.cond rfl<;>intro hg19
  ·have h:=B6 hg19 h
   apply AWp.skip
   apply A3
   apply seq
   apply block
   obtain⟨x20,hx20,h⟩:=bindS h
   apply sr (c (indexD underlying34 tyS75 (A4 hx20).1 (C8 B4 (A4 hx20).2) (L rfl) (q 7) (q 9)) rfl (c (loadD tyS75 (by rfl) (by rfl) (L rfl) (q 11)) rfl (cg (alloc hB tyZ75 (nm:=1005) (by decide) (L rfl)) rfl (cg (sB tyS75 (q 5) (q 12)) rfl cn))))
   apply sr (c (assign (L rfl) (Opd.int .u8 (2))) rfl cn)
   apply seq
   apply sr (c (fo 1005 0 [0] hN underlying75 0 tyS4 (q 5)) rfl (c (la hN 75 tyS4 (q 13)) rfl cn))
   refine gh [(3,_),(5,_),(6,_),(7,_),(8,_),(9,_),(14,_)] [(1005,some _),(3003,some _)] hB rfl rfl (by rfl) ?_
   refine AWp.cut h (fun m22:Int=>([(3,(.sref 3003 1 0 s1.2.length)),(5,(pt 1005)),(6,(.d (.int .u8 m22))),(7,(D0 a0)),(8,(i6 (a0.length:Int))),(9,(i6 s1.1))]:EL)) (fun m22:Int=>([(1005,bd 75 (B4 x20)),(3003,some (.row 5 1 (s1.2.map (eI .u8))))]:OL)) (fun m22 h E' O' hmat => ?_) (fun j23 hjj23 h => ?_)
   ·apply A3
    refine ghost hmat ?_
    obtain⟨hc24,h⟩:=D3 h
    obtain⟨r25,hr25,h⟩:=bindS h
    refine AWp.draws (by kernel_rfl) (oc (mv hN (ot 3 (.sref 3003 1 0 s1.2.length)))
     (oc (mv hN (ot 6 (.d (.int .u8 m22))))
     (oc (ov (.ptr 1005 1 [1]) (fp hN underlying75 1 tyS27 (.box 75 (.d (B4 x20))) (ot 5 (pt 1005))))
     (oc (lb hN 75 (.d (B4 x20)) (qI_1 x20.fASNs) tyS27 (ad (.list 1 (x20.fASNs.map (eI .i64)))) (ot 17 (.ptr 1005 1 [1])))
     (oc (OpJ.val (v':=(i6 (x20.fASNs.length:Int))) (by simp) (lenD underlying27 (L rfl) (ot 18 (qI_1 x20.fASNs))))
     (oc (OpJ.conv underlying3 underlying5 (L rfl) (ot 19 (i6 (x20.fASNs.length:Int))))
     (oc (buildSlice underlying76 tyS5 tyZD5 (by rfl) (by decide) (by decide) (Opds.cons (ot 16 (.d (.int .u8 m22))) (Opds.cons (ot 20 (.d (.int .u8 (IntKind.u8.wrap (x20.fASNs.length:Int))))) Opds.nil)) (by kernel_rfl) (es:=([(.int .u8 m22),(.int .u8 (IntKind.u8.wrap (x20.fASNs.length:Int)))]:List D)) (by rfl) (by rfl) (by kernel_rfl) (by simp) (L rfl))
     (oc (apd hB underlying76 tyE5 1022 (eI .u8) s1.2 ([m22,(IntKind.u8.wrap (x20.fASNs.length:Int))]:List Int) hc24 (L rfl) (ot 15 (.sref 3003 1 0 s1.2.length)) (ot 21 (.d (.list 1 (([m22,(IntKind.u8.wrap (x20.fASNs.length:Int))]:List Int).map (eI .u8))))))
     (oc (ov (.ptr 1005 1 [1]) (fp hN underlying75 1 tyS27 (.box 75 (.d (B4 x20))) (ot 5 (pt 1005))))
     (oc (lb hN 75 (.d (B4 x20)) (qI_1 x20.fASNs) tyS27 (ad (.list 1 (x20.fASNs.map (eI .i64)))) (ot 23 (.ptr 1005 1 [1])))
     (oc (OpJ.callFn hB fnOk178 (A05 (s1.2++([m22,(IntKind.u8.wrap (x20.fASNs.length:Int))]:List Int)) x20.fASNs r25 hr25) [(0,1022),(900000,100000)] (by kernel_rfl) (L rfl) (by kernel_rfl) (OpdL.cons (ot 22 (.sref 1022 1 0 ((s1.2++([m22,(IntKind.u8.wrap (x20.fASNs.length:Int))]:List Int)).length))) (OpdL.cons (ot 24 (qI_1 x20.fASNs)) OpdL.nil)))
     (oc (assign (L rfl) (ot 25 (.sref 100000 1 0 r25.length)))
     (OpJs.nil))))))))))))) (by kernel_rfl) (by rfl) (by rfl) ?_
    apply F8
    apply A3
    refine ghost (mp [] [(3,(.sref 100000 1 0 r25.length)),(7,(D0 a0)),(8,(i6 (a0.length:Int))),(9,(i6 s1.1))] [(100000,some (.row 5 1 (r25.map (eI .u8))))] hB) ?_
    apply rg (c (add6 (L rfl) (q 9) (ii 1)) rfl (c (mv hN (q 26)) rfl cn))
    obtain rfl:=oi h
    exact⟨rfl,(mp [(3003,100000)] _ _ hB)⟩
   ·apply AWp.cond rfl<;>intro hg26
    ·have h:=B6 hg26 h
     apply rg (c (assign (L rfl) (Opd.int .u8 (1))) rfl cn)
     exact hjj23 _ h _ _ (mp [] _ _ hB)
    ·have h:=B7 hg26 h
     apply AWp.skip
     exact hjj23 _ h _ _ (mp [] _ _ hB)
  ·have h:=B7 hg19 h
   apply AWp.exit
   apply F6
   obtain rfl:=oi h
   exact⟨(fun hc=>by cases hc),rfl,(mp [] _ _ hB)⟩
 ·obtain⟨rfl,hmat⟩:=hR
  apply E4
  apply A3
  refine ghost hmat ?_
  apply sr (c (mv hN (q 3)) rfl (c (assign (L rfl) (q 27)) rfl cn))
  apply ret
  obtain rfl:=oi h
  exact rt (Mat.trans (Mat.freezeP (n:=3003) (e:=5) (sz:=1) (es:=p18.map (eI .u8)) (Ts:=[(2,(.d (.list 1 (p18.map (eI .u8)))))]) (Bs:=[]) (by rfl) (TwT.cons (x:=(.sref 3003 1 0 p18.length)) (by rfl) (FrzL.all (by first | rfl | (simp;done) | (simp;omega) | omega)) TwT.nil) TwB.nil) (mp [] [(2,(.d (.list 1 (p18.map (eI .u8)))))] [] hB)) [(.d (.list 1 (p18.map (eI .u8))))] (rT rN) rfl
def D7 (a0:Bool) (a1:Int) (a2:(List Int)) (a3:(List A7)):Option ((List A7)) :=
 jn (fun m3:(List A7) =>
 some m3) (fun j4 =>
 (if a0=true then
 chk (decide ((a3++[(A7.mk (ilk gv0 a1) a1 a2)]).length≤LIM)) <|
 j4 (a3++[(A7.mk (ilk gv0 a1) a1 a2)])
 else
 j4 a3))
theorem H6 (a0:Bool) (a1:Int) (a2:(List Int)) (a3:(List A7)) (r:(List A7)) (h:D7 a0 a1 a2 a3=some r):AC Tryz.prog 176 [(.d (.bool a0)),(.d (.int .i64 a1)),(.d (.list 1 (a2.map (eI .u8)))),(pt 0)] [(0,(.box 37 (.sref 1 3 0 a3.length))),(1,(.row 78 3 (a3.map A5))),(500,(.know (globD 0 (.imap gv0))))] (.tup []) [(1,none),(0,some (.box 37 (.sref 950000 3 0 r.length))),(500,some (.know (globD 0 (.imap gv0)))),(950000,some (.row 78 3 (r.map A5)))]:=by
 refine AC.of_code2 Tryz.func176 rfl rfl (Nat.le_of_ble_eq_true (by rfl)) fun B hB hN => ?_
 delta D7 at h
 apply sr (c (mv hN (q 0)) rfl cn)
 refine gh [(1,_),(2,_),(3,_),(7,_)] [(0,some _),(1,some _),(500,some _)] hB rfl rfl (by rfl) ?_
 refine AWp.cut h (fun m3:(List A7)=>([]:EL)) (fun m3:(List A7)=>([(0,some (.box 37 (.sref 3000 3 0 m3.length))),(500,some (.know (globD 0 (.imap gv0)))),(3000,some (F0 m3))]:OL)) (fun m3 h E' O' hmat => ?_) (fun j4 hjj4 h => ?_)
 ·obtain rfl:=oi h
  exact⟨.inr rfl,_,_,(Mat.trans hmat (mp [(950000,3000)] [] [(0,some (.box 37 (.sref 950000 3 0 m3.length))),(500,some (.know (globD 0 (.imap gv0)))),(950000,some (F0 m3))] hB)),[],rN,rfl,by rfl,by rfl,by rfl⟩
 ·apply AWp.cond rfl<;>intro hg5
  ·have h:=B6 hg5 h
   obtain⟨hc6,h⟩:=D3 h
   have hc6_o:=hc6
   simp only [decide_eq_true_eq] at hc6_o
   apply rg (c (lb hN 37 _ _ tyS37 (At.here _) (q 3)) rfl (cg (OpJ.loadGD (nm:=500) (.imap gv0) tyS210 (by rfl) (by rfl) (by simp) (ltN hN rfl)) rfl (c (mv hN (q 1)) rfl (cg (OpJ.ilook tyU210 underlying3 keyEq3 tyZD3 (ltN hN rfl) (q 9) (q 10)) rfl (c (mv hN (q 1)) rfl (c (mv hN (q 2)) rfl (c (OpJ.coe (v:=(.st [(i6 (ilk gv0 a1)),(i6 a1),(.d (.list 1 (a2.map (eI .u8))))])) (y:=(.st [(.int .i64 (ilk gv0 a1)),(.int .i64 a1),(.list 1 (a2.map (eI .u8)))])) (Co.st (CoL.cons (Co.d _) (CoL.cons (Co.d _) (CoL.cons (Co.d _) CoL.nil)))) rfl (OpJ.build (places:=[(0,1),(1,1),(2,1)]) ⟨underlying78,fun w=>by kernel_rfl⟩ tyZS78 (Opds.cons (q 11) (Opds.cons (q 12) (Opds.cons (q 13) Opds.nil))) (by kernel_rfl) (r:=(.st [(i6 (ilk gv0 a1)),(i6 a1),(.d (.list 1 (a2.map (eI .u8))))])) (by rfl) (ltN hN rfl))) rfl (c (buildSlice underlying37 tyS78 tyZD78 (by rfl) (by decide) (by decide) (Opds.cons (q 14) Opds.nil) (by kernel_rfl) (es:=([(.st [(.int .i64 (ilk gv0 a1)),(.int .i64 a1),(.list 1 (a2.map (eI .u8)))])]:List D)) (by rfl) (by rfl) (by kernel_rfl) (by simp) (ltN hN rfl)) rfl (cg (OpJ.append hB underlying37 tyE78 (nm:=1016) (by decide) (es:=a3.map A5) (ys:=[(A7.mk (ilk gv0 a1) a1 a2)].map A5) (es':=(a3++[(A7.mk (ilk gv0 a1) a1 a2)]).map A5) (len:=(a3++[(A7.mk (ilk gv0 a1) a1 a2)]).length) (by simp) (by simp) (R4 (f:=A5) (fun _=>rfl)) (by rw [List.length_map];exact J6 hc6 (by decide)) (by rw [List.length_map];exact M6 hc6) (ltN hN rfl) (by simp) (q 8) (q 15)) rfl (cg (sB tyS37 (q 3) (q 16)) rfl cn))))))))))
   exact hjj4 _ h _ _ (mp [(3000,1016)] _ _ hB)
  ·have h:=B7 hg5 h
   apply AWp.skip
   exact hjj4 _ h _ _ (mp [(3000,1)] _ _ hB)
def A1l (s7:Int×(List Int)×E7):Option ((((List Int)))⊕(Int×(List Int)×E7)) :=
 (if (decide (0≤s7.1))=true then
 (idx s7.2.1 s7.1).bind fun _ =>
 (idx s7.2.1 s7.1).bind fun _ =>
 some (.inr ((w64 (s7.1-1)),(s7.2.1.set s7.1.toNat (IntKind.u8.wrap s7.2.2.fLo)),(E7.mk s7.2.2.fV6 (shrI .u64 s7.2.2.fHi 8) (bitI .or .u64 (shrI .u64 s7.2.2.fLo 8) (shlI .u64 s7.2.2.fHi 56)))))
 else
 some (.inl s7.2.1))
def T7 (a0:E7):Option ((List Int)) :=
 (W9 a0).bind fun r1 =>
 (if (!r1)=true then
 some ([]:List Int)
 else
 jn (fun m4:Int =>
 chk ((decide (0≤m4)&&decide (m4≤m4)&&decide (m4≤(LIM:Int)))) <|
 (loop (A1l) ((w64 (m4-1)),(List.replicate m4.toNat 0),a0)).bind fun p14 =>
 some p14) (fun j5 =>
 (if a0.fV6=true then
 j5 16
 else
 j5 4)))
theorem A1m (a0:E7) (r:(List Int)) (h:T7 a0=some r):AC Tryz.prog 166 [(.d (C5 a0))] [] (.d (.list 1 (r.map (eI .u8)))) []:=by
 refine ac2 Tryz.func166 rfl rfl fun B hB hN L => ?_
 delta T7 at h
 apply sr (cg (OpJ.box hB (nm:=1001) (by decide) (by simp) rfl (L rfl) (q 0)) rfl (c (assign (L rfl) Opd.nils) rfl cn))
 apply seq
 obtain⟨r1,hr1,h⟩:=bindS h
 apply sr (c (lb hN 31 _ _ tyS31 (At.here _) (q 1)) rfl (cg (cf hB fnOk141 (H5 a0 r1 hr1) (L rfl) (OpdL.cons (q 6) OpdL.nil)) rfl (c (OpJ.not (L rfl) (q 7)) rfl cn)))
 apply AWp.cond rfl<;>intro hg2
 ·have h:=B6 hg2 h
  apply sr (c (assign (L rfl) Opd.nils) rfl cn)
  apply ret
  apply D4
  obtain rfl:=oi h
  exact rt (Mat.trans (Mat.coeP (Ts:=[(2,(.d (.list 1 (([]:List Int).map (eI .u8)))))]) (Bs:=[]) (TwT.cons (x:=.nils) (by rfl) (Tw.leaf ⟨_,(Co.nils 1),rfl⟩) TwT.nil) TwB.nil) (mp [] [(2,(.d (.list 1 (([]:List Int).map (eI .u8)))))] [] hB)) [(.d (.list 1 (([]:List Int).map (eI .u8))))] (rT rN) rfl
 ·have h:=B7 hg2 h
  apply AWp.skip
  apply A3
  apply sr (c (assign (L rfl) (ii 4)) rfl cn)
  apply seq
  apply sr (c (fo 1001 0 [0] hN underlying31 0 tyS4 (q 1)) rfl (c (la hN 31 tyS4 (q 9)) rfl cn))
  refine gh [(1,_),(3,_),(10,_)] [(1001,some _)] hB rfl rfl (by rfl) ?_
  refine AWp.cut h (fun m4:Int=>([(1,(pt 1001)),(3,(i6 m4))]:EL)) (fun m4:Int=>([(1001,bd 31 (C5 a0))]:OL)) (fun m4 h E' O' hmat => ?_) (fun j5 hjj5 h => ?_)
  ·apply A3
   refine ghost hmat ?_
   obtain⟨hc6,h⟩:=D3 h
   apply sr (c (mv hN (q 3)) rfl (cg (OpJ.make hB underlying76 tyE5 tyZD5 (by rfl) (nm:=1012) (by decide) (of_decide_eq_true (G5 (G5 hc6))) (of_decide_eq_true (I6 (G5 hc6))) (B5o (of_decide_eq_true (I6 hc6)) (by decide)) (B6h (of_decide_eq_true (I6 hc6))) (L rfl) (es:=(List.replicate m4.toNat 0).map (eI .u8)) (by rw [List.map_replicate];rfl) (len:=(List.replicate m4.toNat (0:Int)).length) (by simp) (q 11) (q 11)) rfl (c (assign (L rfl) (q 12)) rfl cn)))
   apply seq
   apply sr (c (mv hN (q 3)) rfl (c (sub6 (L rfl) (q 13) (ii 1)) rfl (c (assign (L rfl) (q 14)) rfl cn)))
   apply block
   obtain⟨p14,hx19,h⟩:=bindS h
   refine lg (A1l) (fun s7:Int×(List Int)×E7=>([(1,(pt 1001)),(4,(.sref 1012 1 0 s7.2.1.length)),(5,(i6 s7.1))]:EL)) (fun s7:Int×(List Int)×E7=>([(1001,bd 31 (C5 s7.2.2)),(1012,some (.row 5 1 (s7.2.1.map (eI .u8))))]:OL)) (fun(p14:((List Int))) e E' O'=>e = .exit 0∧Mat B E' O' ([(4,(.sref 1012 1 0 p14.length))]:EL) ([(1012,some (.row 5 1 (p14.map (eI .u8))))]:OL)) hx19 (mp [] _ _ hB) (fun s7 y h => ?_) (fun e E' O' hR => ?_)
   ·unfold A1l at h
    apply seq
    apply sr (c (mv hN (q 5)) rfl (c (geq (L rfl) (q 15) (ii 0)) rfl cn))
    apply AWp.cond rfl<;>intro hg15
    ·have h:=B6 hg15 h
     apply AWp.skip
     apply A3
     apply seq
     apply block
     obtain⟨_,hx16,h⟩:=bindS h
     obtain⟨_,hx17,h⟩:=bindS h
     apply sr (c (mv hN (q 4)) rfl (c (mv hN (q 5)) rfl (c (fo 1001 2 [2] hN underlying31 2 tyS29 (q 1)) rfl (c (la hN 31 tyS29 (q 21)) rfl (c (OpJ.conv underlying29 underlying5 (L rfl) (q 22)) rfl (c (OpJ.val (v':=(.ptr 1012 (s7.1.toNat*1) [s7.1.toNat])) (by simp) (indexS underlying76 tyS5 (A4 hx16).1 (by have:=A1b hx16;first | (simpa using this) | ((try simp only [List.length_map] at this);(try simp only [List.length_map]);omega)) (L rfl) (q 19) (q 20))) rfl (cg (OpJ.storeR (e:=5) (sz:=1) (es':=(s7.2.1.set s7.1.toNat (IntKind.u8.wrap s7.2.2.fLo)).map (eI .u8)) tyS5 (C8 (eI .u8) (A4 hx17).2) (o:=0) (SetAt.here _ _) (by rfl) (A61 _ _ _ _) (by rfl) (by rfl) (q 24) (q 23)) rfl cn)))))))
     apply sr (c (fo 1001 2 [2] hN underlying31 2 tyS29 (q 1)) rfl (c (la hN 31 tyS29 (q 25)) rfl (c (OpJ.shr (L rfl) (q 26) (Opd.int .u64 (8)) (by decide)) rfl (c (fo 1001 1 [1] hN underlying31 1 tyS29 (q 1)) rfl (c (la hN 31 tyS29 (q 28)) rfl (c (OpJ.shl (L rfl) (q 29) (Opd.int .u64 (56)) (by decide)) rfl (c (OpJ.bits (.inr (.inl rfl)) (L rfl) (q 27) (q 30)) rfl (c (fo 1001 2 [2] hN underlying31 2 tyS29 (q 1)) rfl (cg (OpJ.storeB tyS29 (SetAt.dst1 (by rfl) (by rfl) (SetAt.here _ _) (by rfl) (by rfl) (by first | rfl | omega)) (by rfl) (by rfl) (by simp) rfl (q 32) (q 31)) rfl cn)))))))))
     apply rg (c (fo 1001 1 [1] hN underlying31 1 tyS29 (q 1)) rfl (c (la hN 31 tyS29 (q 33)) rfl (c (OpJ.shr (L rfl) (q 34) (Opd.int .u64 (8)) (by decide)) rfl (c (fo 1001 1 [1] hN underlying31 1 tyS29 (q 1)) rfl (cg (OpJ.storeB tyS29 (SetAt.dst1 (by rfl) (by rfl) (SetAt.here _ _) (by rfl) (by rfl) (by first | rfl | omega)) (by rfl) (by rfl) (by simp) rfl (q 36) (q 35)) rfl cn)))))
     apply F8
     apply A3
     apply rg (c (mv hN (q 5)) rfl (c (sub6 (L rfl) (q 17) (ii 1)) rfl (c (assign (L rfl) (q 18)) rfl cn)))
     obtain rfl:=oi h
     exact⟨rfl,(Mat.trans (mp [] [(1,(pt 1001)),(4,(.sref 1012 1 0 s7.2.1.length)),(5,(i6 (w64 (s7.1-1))))] [(1001,some (.box 31 (.d (.st [(.bool s7.2.2.fV6),(.int .u64 (shrI .u64 s7.2.2.fHi 8)),(.int .u64 (bitI .or .u64 (shrI .u64 s7.2.2.fLo 8) (shlI .u64 s7.2.2.fHi 56)))])))),(1012,some (.row 5 1 ((s7.2.1.set s7.1.toNat (IntKind.u8.wrap s7.2.2.fLo)).map (eI .u8))))] hB) (Mat.trans (Mat.lenP (Ts:=[(4,(.sref 1012 1 0 ((s7.2.1.set s7.1.toNat (IntKind.u8.wrap s7.2.2.fLo)).length)))]) (Bs:=[]) (TwT.cons (x:=(.sref 1012 1 0 s7.2.1.length)) (by rfl) (Tw.leaf ⟨_,_,_,_,_,rfl,rfl,(by first | rfl | (simp;done) | (simp;omega) | omega)⟩) TwT.nil) TwB.nil) (mp [] _ _ hB)))⟩
    ·have h:=B7 hg15 h
     apply AWp.exit
     apply F6
     obtain rfl:=oi h
     exact⟨(fun hc=>by cases hc),rfl,(mp [] _ _ hB)⟩
   ·obtain⟨rfl,hmat⟩:=hR
    apply E4
    apply A3
    refine ghost hmat ?_
    apply sr (c (mv hN (q 4)) rfl (c (assign (L rfl) (q 37)) rfl cn))
    apply ret
    obtain rfl:=oi h
    exact rt (Mat.trans (Mat.freezeP (n:=1012) (e:=5) (sz:=1) (es:=p14.map (eI .u8)) (Ts:=[(2,(.d (.list 1 (p14.map (eI .u8)))))]) (Bs:=[]) (by rfl) (TwT.cons (x:=(.sref 1012 1 0 p14.length)) (by rfl) (FrzL.all (by first | rfl | (simp;done) | (simp;omega) | omega)) TwT.nil) TwB.nil) (mp [] [(2,(.d (.list 1 (p14.map (eI .u8)))))] [] hB)) [(.d (.list 1 (p14.map (eI .u8))))] (rT rN) rfl
  ·apply AWp.cond rfl<;>intro hg20
   ·have h:=B6 hg20 h
    apply rg (c (assign (L rfl) (ii 16)) rfl cn)
    exact hjj5 _ h _ _ (mp [] _ _ hB)
   ·have h:=B7 hg20 h
    apply AWp.skip
    exact hjj5 _ h _ _ (mp [] _ _ hB)
def P1 (a0:(List Int)) (s1:Int×(List Int)):Option ((((List Int)))⊕(Int×(List Int))) :=
 (if (decide (s1.1<(a0.length:Int)))=true then
 (idx a0 s1.1).bind fun x10 =>
 chk (decide ((s1.2++([(IntKind.u8.wrap (shrI .i64 x10 24)),(IntKind.u8.wrap (shrI .i64 x10 16)),(IntKind.u8.wrap (shrI .i64 x10 8)),(IntKind.u8.wrap x10)]:List Int)).length≤LIM)) <|
 some (.inr ((w64 (s1.1+1)),(s1.2++([(IntKind.u8.wrap (shrI .i64 x10 24)),(IntKind.u8.wrap (shrI .i64 x10 16)),(IntKind.u8.wrap (shrI .i64 x10 8)),(IntKind.u8.wrap x10)]:List Int))))
 else
 some (.inl s1.2))
def N2 (a0:(List Int)):Option ((List Int)) :=
 (loop (P1 a0) (0,([]:List Int))).bind fun p8 =>
 some p8
theorem A06 (a0:(List Int)) (r:(List Int)) (h:N2 a0=some r):AC Tryz.prog 178 [.nils,(.d (.list 1 (a0.map (eI .i64))))] [] (.d (.list 1 (r.map (eI .u8)))) []:=by
 refine ac2 Tryz.func178 rfl rfl fun B hB hN L => ?_
 delta N2 at h
 apply sr (c (assign (L rfl) Opd.nils) rfl cn)
 apply seq
 apply sr (c (mv hN (q 1)) rfl (c (OpJ.val (v':=(i6 (a0.length:Int))) (by simp) (lenD underlying27 (L rfl) (q 7))) rfl (c (mv hN (ii 0)) rfl cn)))
 apply block
 obtain⟨p8,hx13,h⟩:=bindS h
 refine lg (P1 a0) (fun s1:Int×(List Int)=>([(0,(.sref 3000 1 0 s1.2.length)),(7,(qI_1 a0)),(8,(i6 (a0.length:Int))),(9,(i6 s1.1))]:EL)) (fun s1:Int×(List Int)=>([(3000,some (.row 5 1 (s1.2.map (eI .u8))))]:OL)) (fun(p8:((List Int))) e E' O'=>e = .exit 0∧Mat B E' O' ([(0,(.sref 3000 1 0 p8.length))]:EL) ([(3000,some (.row 5 1 (p8.map (eI .u8))))]:OL)) hx13 (Mat.trans (Mat.beginP (n:=3000) (e:=5) (sz:=1) (Ts:=[(0,(.sref 3000 1 0 0))]) (Bs:=[]) hB (by decide) (by rfl) (by decide) (TwT.cons (x:=.nils) (by rfl) (Tw.leaf ⟨rfl,rfl⟩) TwT.nil) TwB.nil) (mp [] _ _ hB)) (fun s1 y h => ?_) (fun e E' O' hR => ?_)
 ·unfold P1 at h
  apply sr (c (lss (L rfl) (q 9) (q 8)) rfl cn)
  apply seq
  apply AWp.cond rfl<;>intro hg9
  ·have h:=B6 hg9 h
   apply AWp.skip
   apply A3
   apply seq
   apply block
   obtain⟨x10,hx10,h⟩:=bindS h
   apply sr (c (indexD underlying27 tyS3 (A4 hx10).1 (C8 (eI .i64) (A4 hx10).2) (L rfl) (q 7) (q 9)) rfl (c (loadD tyS3 (by rfl) (by rfl) (L rfl) (q 11)) rfl (c (assign (L rfl) (q 12)) rfl cn)))
   obtain⟨hc11,h⟩:=D3 h
   apply rg (c (mv hN (q 0)) rfl (c (mv hN (q 6)) rfl (c (OpJ.shr (L rfl) (q 14) (Opd.int .u64 (24)) (by decide)) rfl (c (OpJ.conv underlying3 underlying5 (L rfl) (q 15)) rfl (c (mv hN (q 6)) rfl (c (OpJ.shr (L rfl) (q 17) (Opd.int .u64 (16)) (by decide)) rfl (c (OpJ.conv underlying3 underlying5 (L rfl) (q 18)) rfl (c (mv hN (q 6)) rfl (c (OpJ.shr (L rfl) (q 20) (Opd.int .u64 (8)) (by decide)) rfl (c (OpJ.conv underlying3 underlying5 (L rfl) (q 21)) rfl (c (mv hN (q 6)) rfl (c (OpJ.conv underlying3 underlying5 (L rfl) (q 23)) rfl (c (buildSlice underlying76 tyS5 tyZD5 (by rfl) (by decide) (by decide) (Opds.cons (q 16) (Opds.cons (q 19) (Opds.cons (q 22) (Opds.cons (q 24) Opds.nil)))) (by kernel_rfl) (es:=([(.int .u8 (IntKind.u8.wrap (shrI .i64 x10 24))),(.int .u8 (IntKind.u8.wrap (shrI .i64 x10 16))),(.int .u8 (IntKind.u8.wrap (shrI .i64 x10 8))),(.int .u8 (IntKind.u8.wrap x10))]:List D)) (by rfl) (by rfl) (by kernel_rfl) (by simp) (L rfl)) rfl (cg (apd hB underlying76 tyE5 1026 (eI .u8) s1.2 ([(IntKind.u8.wrap (shrI .i64 x10 24)),(IntKind.u8.wrap (shrI .i64 x10 16)),(IntKind.u8.wrap (shrI .i64 x10 8)),(IntKind.u8.wrap x10)]:List Int) hc11 (L rfl) (q 13) (q 25)) rfl (c (assign (L rfl) (q 26)) rfl cn)))))))))))))))
   apply F8
   apply A3
   apply rg (c (add6 (L rfl) (q 9) (ii 1)) rfl (c (mv hN (q 27)) rfl cn))
   obtain rfl:=oi h
   exact⟨rfl,(mp [(3000,1026)] _ _ hB)⟩
  ·have h:=B7 hg9 h
   apply AWp.exit
   apply F6
   obtain rfl:=oi h
   exact⟨(fun hc=>by cases hc),rfl,(mp [] _ _ hB)⟩
 ·obtain⟨rfl,hmat⟩:=hR
  apply E4
  apply A3
  refine ghost hmat ?_
  apply sr (c (mv hN (q 0)) rfl (c (assign (L rfl) (q 28)) rfl cn))
  apply ret
  obtain rfl:=oi h
  exact rt (Mat.trans (Mat.freezeP (n:=3000) (e:=5) (sz:=1) (es:=p8.map (eI .u8)) (Ts:=[(4,(.d (.list 1 (p8.map (eI .u8)))))]) (Bs:=[]) (by rfl) (TwT.cons (x:=(.sref 3000 1 0 p8.length)) (by rfl) (FrzL.all (by first | rfl | (simp;done) | (simp;omega) | omega)) TwT.nil) TwB.nil) (mp [] [(4,(.d (.list 1 (p8.map (eI .u8)))))] [] hB)) [(.d (.list 1 (p8.map (eI .u8))))] (rT rN) rfl
def M0 (a0:(List C6)) (s1:Int×(List Int)):Option ((((List Int)))⊕(Int×(List Int))) :=
 (if (decide (s1.1<(a0.length:Int)))=true then
 (idx a0 s1.1).bind fun x10 =>
 (N1 s1.2 ([(bitI .or .i64 (shlI .i64 x10.fA 16) x10.fB)]:List Int)).bind fun r11 =>
 some (.inr ((w64 (s1.1+1)),r11))
 else
 some (.inl s1.2))
def L1 (a0:(List C6)):Option ((List Int)) :=
 (loop (M0 a0) (0,([]:List Int))).bind fun p8 =>
 some p8
theorem A31 (a0:(List C6)) (r:(List Int)) (h:L1 a0=some r):AC Tryz.prog 179 [(.d (.list 2 (a0.map B1)))] [] (.d (.list 1 (r.map (eI .u8)))) []:=by
 refine ac2 Tryz.func179 rfl rfl fun B hB hN L => ?_
 delta L1 at h
 apply sr (c (assign (L rfl) Opd.nils) rfl cn)
 apply sr (c (assign (L rfl) Opd.nils) rfl cn)
 apply seq
 apply sr (c (mv hN (q 0)) rfl (c (OpJ.val (v':=(i6 (a0.length:Int))) (by simp) (lenD underlying35 (L rfl) (q 6))) rfl (c (mv hN (ii 0)) rfl cn)))
 apply block
 obtain⟨p8,hx13,h⟩:=bindS h
 refine lg (M0 a0) (fun s1:Int×(List Int)=>([(3,(.sref 3003 1 0 s1.2.length)),(6,(B5 a0)),(7,(i6 (a0.length:Int))),(8,(i6 s1.1))]:EL)) (fun s1:Int×(List Int)=>([(3003,some (.row 5 1 (s1.2.map (eI .u8))))]:OL)) (fun(p8:((List Int))) e E' O'=>e = .exit 0∧Mat B E' O' ([(3,(.sref 3003 1 0 p8.length))]:EL) ([(3003,some (.row 5 1 (p8.map (eI .u8))))]:OL)) hx13 (Mat.trans (Mat.beginP (n:=3003) (e:=5) (sz:=1) (Ts:=[(3,(.sref 3003 1 0 0))]) (Bs:=[]) hB (by decide) (by rfl) (by decide) (TwT.cons (x:=.nils) (by rfl) (Tw.leaf ⟨rfl,rfl⟩) TwT.nil) TwB.nil) (mp [] _ _ hB)) (fun s1 y h => ?_) (fun e E' O' hR => ?_)
 ·unfold M0 at h
  apply sr (c (lss (L rfl) (q 8) (q 7)) rfl cn)
  apply seq
  apply AWp.cond rfl<;>intro hg9
  ·have h:=B6 hg9 h
   apply AWp.skip
   apply A3
   apply seq
   apply block
   obtain⟨x10,hx10,h⟩:=bindS h
   apply sr (c (indexD underlying35 tyS132 (A4 hx10).1 (C8 B1 (A4 hx10).2) (L rfl) (q 6) (q 8)) rfl (c (loadD tyS132 (by rfl) (by rfl) (L rfl) (q 10)) rfl (cg (alloc hB tyZ132 (nm:=1005) (by decide) (L rfl)) rfl (cg (sB tyS132 (q 5) (q 11)) rfl cn))))
   obtain⟨r11,hr11,h⟩:=bindS h
   refine AWp.region (oc (mv hN (ot 3 (.sref 3003 1 0 s1.2.length)))
    (oc (ov (.ptr 1005 0 [0]) (fp hN underlying132 0 tyS3 (.box 132 (.d (B1 x10))) (ot 5 (pt 1005))))
    (oc (lb hN 132 (.d (B1 x10)) (i6 x10.fA) tyS3 (ad (.int .i64 x10.fA)) (ot 13 (.ptr 1005 0 [0])))
    (oc (OpJ.shl (L rfl) (ot 14 (i6 x10.fA)) (Opd.int .u64 (16)) (by decide))
    (oc (ov (.ptr 1005 1 [1]) (fp hN underlying132 1 tyS3 (.box 132 (.d (B1 x10))) (ot 5 (pt 1005))))
    (oc (lb hN 132 (.d (B1 x10)) (i6 x10.fB) tyS3 (ad (.int .i64 x10.fB)) (ot 16 (.ptr 1005 1 [1])))
    (oc (OpJ.bits (.inr (.inl rfl)) (L rfl) (ot 15 (i6 (shlI .i64 x10.fA 16))) (ot 17 (i6 x10.fB)))
    (oc (buildSlice underlying27 tyS3 tyZD3 (by rfl) (by decide) (by decide) (Opds.cons (ot 18 (i6 (bitI .or .i64 (shlI .i64 x10.fA 16) x10.fB))) Opds.nil) (by kernel_rfl) (es:=([(.int .i64 (bitI .or .i64 (shlI .i64 x10.fA 16) x10.fB))]:List D)) (by rfl) (by rfl) (by kernel_rfl) (by simp) (L rfl))
    (oc (OpJ.callFn hB fnOk178 (A05 s1.2 ([(bitI .or .i64 (shlI .i64 x10.fA 16) x10.fB)]:List Int) r11 hr11) [(0,3003),(900000,100000)] (by kernel_rfl) (L rfl) (by kernel_rfl) (OpdL.cons (ot 12 (.sref 3003 1 0 s1.2.length)) (OpdL.cons (ot 19 (qI_1 ([(bitI .or .i64 (shlI .i64 x10.fA 16) x10.fB)]:List Int))) OpdL.nil)))
    (oc (assign (L rfl) (ot 20 (.sref 100000 1 0 r11.length)))
    (OpJs.nil))))))))))) (by rfl) (by rfl) ?_
   apply F8
   apply A3
   refine ghost (mp [] [(3,(.sref 100000 1 0 r11.length)),(6,(B5 a0)),(7,(i6 (a0.length:Int))),(8,(i6 s1.1))] [(100000,some (.row 5 1 (r11.map (eI .u8))))] hB) ?_
   apply rg (c (add6 (L rfl) (q 8) (ii 1)) rfl (c (mv hN (q 21)) rfl cn))
   obtain rfl:=oi h
   exact⟨rfl,(mp [(3003,100000)] _ _ hB)⟩
  ·have h:=B7 hg9 h
   apply AWp.exit
   apply F6
   obtain rfl:=oi h
   exact⟨(fun hc=>by cases hc),rfl,(mp [] _ _ hB)⟩
 ·obtain⟨rfl,hmat⟩:=hR
  apply E4
  apply A3
  refine ghost hmat ?_
  apply sr (c (mv hN (q 3)) rfl (c (assign (L rfl) (q 22)) rfl cn))
  apply ret
  obtain rfl:=oi h
  exact rt (Mat.trans (Mat.freezeP (n:=3003) (e:=5) (sz:=1) (es:=p8.map (eI .u8)) (Ts:=[(2,(.d (.list 1 (p8.map (eI .u8)))))]) (Bs:=[]) (by rfl) (TwT.cons (x:=(.sref 3003 1 0 p8.length)) (by rfl) (FrzL.all (by first | rfl | (simp;done) | (simp;omega) | omega)) TwT.nil) TwB.nil) (mp [] [(2,(.d (.list 1 (p8.map (eI .u8)))))] [] hB)) [(.d (.list 1 (p8.map (eI .u8))))] (rT rN) rfl
def T8 (a0:(List G0)) (s1:Int×(List Int)):Option ((((List Int)))⊕(Int×(List Int))) :=
 (if (decide (s1.1<(a0.length:Int)))=true then
 (idx a0 s1.1).bind fun x10 =>
 (N1 s1.2 ([x10.fA,x10.fB,x10.fC]:List Int)).bind fun r11 =>
 some (.inr ((w64 (s1.1+1)),r11))
 else
 some (.inl s1.2))
def U9 (a0:(List G0)):Option ((List Int)) :=
 (loop (T8 a0) (0,([]:List Int))).bind fun p8 =>
 some p8
theorem A5s (a0:(List G0)) (r:(List Int)) (h:U9 a0=some r):AC Tryz.prog 180 [(.d (.list 3 (a0.map C7)))] [] (.d (.list 1 (r.map (eI .u8)))) []:=by
 refine AC.of_code2 Tryz.func180 rfl rfl (Nat.le_of_ble_eq_true (by rfl)) fun B hB hN => ?_
 delta U9 at h
 apply sr (c (assign (ltN hN rfl) Opd.nils) rfl cn)
 apply sr (c (assign (ltN hN rfl) Opd.nils) rfl cn)
 apply seq
 apply sr (c (mv hN (q 0)) rfl (c (OpJ.val (v':=(i6 (a0.length:Int))) (by simp) (lenD underlying36 (ltN hN rfl) (q 6))) rfl (c (mv hN (ii 0)) rfl cn)))
 apply block
 obtain⟨p8,hx13,h⟩:=bindS h
 refine lg (T8 a0) (fun s1:Int×(List Int)=>([(3,(.sref 3003 1 0 s1.2.length)),(6,(D6 a0)),(7,(i6 (a0.length:Int))),(8,(i6 s1.1))]:EL)) (fun s1:Int×(List Int)=>([(3003,some (.row 5 1 (s1.2.map (eI .u8))))]:OL)) (fun(p8:((List Int))) e E' O'=>e = .exit 0∧Mat B E' O' ([(3,(.sref 3003 1 0 p8.length))]:EL) ([(3003,some (.row 5 1 (p8.map (eI .u8))))]:OL)) hx13 (Mat.trans (Mat.beginP (n:=3003) (e:=5) (sz:=1) (Ts:=[(3,(.sref 3003 1 0 0))]) (Bs:=[]) hB (by decide) (by rfl) (by decide) (TwT.cons (x:=.nils) (by rfl) (Tw.leaf ⟨rfl,rfl⟩) TwT.nil) TwB.nil) (mp [] _ _ hB)) (fun s1 y h => ?_) (fun e E' O' hR => ?_)
 ·unfold T8 at h
  apply sr (c (lss (ltN hN rfl) (q 8) (q 7)) rfl cn)
  apply seq
  apply AWp.cond rfl<;>intro hg9
  ·have h:=B6 hg9 h
   apply AWp.skip
   apply A3
   apply seq
   apply block
   obtain⟨x10,hx10,h⟩:=bindS h
   apply sr (c (indexD underlying36 tyS134 (A4 hx10).1 (C8 C7 (A4 hx10).2) (ltN hN rfl) (q 6) (q 8)) rfl (c (loadD tyS134 (by rfl) (by rfl) (ltN hN rfl) (q 10)) rfl (cg (alloc hB tyZ134 (nm:=1005) (by decide) (ltN hN rfl)) rfl (cg (sB tyS134 (q 5) (q 11)) rfl cn))))
   obtain⟨r11,hr11,h⟩:=bindS h
   refine AWp.region (oc (mv hN (ot 3 (.sref 3003 1 0 s1.2.length)))
    (oc (ov (.ptr 1005 0 [0]) (fp hN underlying134 0 tyS3 (.box 134 (.d (C7 x10))) (ot 5 (pt 1005))))
    (oc (lb hN 134 (.d (C7 x10)) (i6 x10.fA) tyS3 (ad (.int .i64 x10.fA)) (ot 13 (.ptr 1005 0 [0])))
    (oc (ov (.ptr 1005 1 [1]) (fp hN underlying134 1 tyS3 (.box 134 (.d (C7 x10))) (ot 5 (pt 1005))))
    (oc (lb hN 134 (.d (C7 x10)) (i6 x10.fB) tyS3 (ad (.int .i64 x10.fB)) (ot 15 (.ptr 1005 1 [1])))
    (oc (ov (.ptr 1005 2 [2]) (fp hN underlying134 2 tyS3 (.box 134 (.d (C7 x10))) (ot 5 (pt 1005))))
    (oc (lb hN 134 (.d (C7 x10)) (i6 x10.fC) tyS3 (ad (.int .i64 x10.fC)) (ot 17 (.ptr 1005 2 [2])))
    (oc (buildSlice underlying27 tyS3 tyZD3 (by rfl) (by decide) (by decide) (Opds.cons (ot 14 (i6 x10.fA)) (Opds.cons (ot 16 (i6 x10.fB)) (Opds.cons (ot 18 (i6 x10.fC)) Opds.nil))) (by kernel_rfl) (es:=([(.int .i64 x10.fA),(.int .i64 x10.fB),(.int .i64 x10.fC)]:List D)) (by rfl) (by rfl) (by kernel_rfl) (by simp) (ltN hN rfl))
    (oc (OpJ.callFn hB fnOk178 (A05 s1.2 ([x10.fA,x10.fB,x10.fC]:List Int) r11 hr11) [(0,3003),(900000,100000)] (by kernel_rfl) (ltN hN rfl) (by kernel_rfl) (OpdL.cons (ot 12 (.sref 3003 1 0 s1.2.length)) (OpdL.cons (ot 19 (qI_1 ([x10.fA,x10.fB,x10.fC]:List Int))) OpdL.nil)))
    (oc (assign (ltN hN rfl) (ot 20 (.sref 100000 1 0 r11.length)))
    (OpJs.nil))))))))))) (by rfl) (by rfl) ?_
   apply F8
   apply A3
   refine ghost (mp [] [(3,(.sref 100000 1 0 r11.length)),(6,(D6 a0)),(7,(i6 (a0.length:Int))),(8,(i6 s1.1))] [(100000,some (.row 5 1 (r11.map (eI .u8))))] hB) ?_
   apply rg (c (add6 (ltN hN rfl) (q 8) (ii 1)) rfl (c (mv hN (q 21)) rfl cn))
   obtain rfl:=oi h
   exact⟨rfl,(mp [(3003,100000)] _ _ hB)⟩
  ·have h:=B7 hg9 h
   apply AWp.exit
   apply F6
   obtain rfl:=oi h
   exact⟨(fun hc=>by cases hc),rfl,(mp [] _ _ hB)⟩
 ·obtain⟨rfl,hmat⟩:=hR
  apply E4
  apply A3
  refine ghost hmat ?_
  apply sr (c (mv hN (q 3)) rfl (c (assign (ltN hN rfl) (q 22)) rfl cn))
  apply ret
  obtain rfl:=oi h
  exact rt (Mat.trans (Mat.freezeP (n:=3003) (e:=5) (sz:=1) (es:=p8.map (eI .u8)) (Ts:=[(2,(.d (.list 1 (p8.map (eI .u8)))))]) (Bs:=[]) (by rfl) (TwT.cons (x:=(.sref 3003 1 0 p8.length)) (by rfl) (FrzL.all (by first | rfl | (simp;done) | (simp;omega) | omega)) TwT.nil) TwB.nil) (mp [] [(2,(.d (.list 1 (p8.map (eI .u8)))))] [] hB)) [(.d (.list 1 (p8.map (eI .u8))))] (rT rN) rfl
def A1a (a0:(List Int)):Option (List Int):=chk (decide (a0.length≤LIM)) <|
 some a0
theorem A32 (a0:(List Int)) (r:List Int) (h:A1a a0=some r):AC Tryz.prog 181 [(.d (.list 1 (a0.map (eI .u8))))] [] (.d (.list 1 (r.map (eI .u8)))) []:=by
 obtain⟨hc,h⟩:=D3 h
 obtain rfl:=oi h
 exact AC.cloneD cloneOk181 (by rw [List.length_map];exact J6 hc (by decide)) (R4 (f:=(eI .u8)) (fun _=>rfl))
def J5 (a0:A7) (a1:A7):Option (Int) :=
 (J3 a0.fType a1.fType).bind fun r1 =>
 some r1
theorem A4q (a0:A7) (a1:A7) (r:Int) (h:J5 a0 a1=some r):AC Tryz.prog 182 [(.d (A5 a0)),(.d (A5 a1))] [] (.d (.int .i64 r)) []:=by
 refine AC.of_code2 Tryz.func182 rfl rfl (Nat.le_of_ble_eq_true (by rfl)) fun B hB hN => ?_
 delta J5 at h
 apply sr (cg (OpJ.box hB (nm:=1002) (by decide) (by simp) rfl (ltN hN rfl) (q 0)) rfl (cg (OpJ.box hB (nm:=1003) (by decide) (by simp) rfl (ltN hN rfl) (q 1)) rfl (c (assign (ltN hN rfl) (ii 0)) rfl cn)))
 obtain⟨r1,hr1,h⟩:=bindS h
 apply sr (c (fo 1002 1 [1] hN underlying78 1 tyS3 (q 2)) rfl (c (la hN 78 tyS3 (q 5)) rfl (c (fo 1003 1 [1] hN underlying78 1 tyS3 (q 3)) rfl (c (la hN 78 tyS3 (q 7)) rfl (cg (OpJ.callFn hB fnOk74 (K4 a0.fType a1.fType r1 hr1) [] (by kernel_rfl) (ltN hN rfl) (by kernel_rfl) (OpdL.cons (q 6) (OpdL.cons (q 8) OpdL.nil))) rfl (c (assign (ltN hN rfl) (q 9)) rfl cn))))))
 apply ret
 obtain rfl:=oi h
 exact rt (kp [(4,_)] [] hB rfl rfl (by rfl)) [(i6 r1)] (rT rN) rfl
def L2 (a0:(List A7)):Option (List A7):=sortF a0 fun x y=>J5 x y
theorem S9 (a0:(List A7)) (r:List A7) (h:L2 a0=some r):AC Tryz.prog 167 [(.sref 0 3 0 a0.length),.func 182 []] [(0,(.row 78 3 (a0.map A5)))] (.tup []) [(0,some (.row 78 3 (r.map A5)))] :=
 AC.sortF A5 (fun x y=>J5 x y) a0 r h sortOk167 fnOk182 (fun _=>rfl) rfl rfl (fun x y c hc=>A4q x y c hc)
def V0 (a1:(List A0)) (a2:Bool) (s1:Int×(List Int)):Option ((((List Int)))⊕(Int×(List Int))) :=
 (if (decide (s1.1<(a1.length:Int)))=true then
 (idx a1 s1.1).bind fun x32 =>
 jn (fun m38:(List Int) =>
 some (.inr ((w64 (s1.1+1)),m38))) (fun j39 =>
 (if (x32.fAddr.fV6==a2)=true then
 chk (decide ((s1.2++([(IntKind.u8.wrap x32.fLen)]:List Int)).length≤LIM)) <|
 (T7 x32.fAddr).bind fun r42 =>
 chk ((decide (0≤(w64 (Int.tdiv (w64 (x32.fLen+7)) 8)))&&decide (0≤(w64 (Int.tdiv (w64 (x32.fLen+7)) 8)).toNat)&&decide ((w64 (Int.tdiv (w64 (x32.fLen+7)) 8)).toNat≤r42.length))) <|
 chk (decide (((s1.2++([(IntKind.u8.wrap x32.fLen)]:List Int))++((r42.take ((w64 (Int.tdiv (w64 (x32.fLen+7)) 8)).toNat)).drop 0)).length≤LIM)) <|
 j39 ((s1.2++([(IntKind.u8.wrap x32.fLen)]:List Int))++((r42.take ((w64 (Int.tdiv (w64 (x32.fLen+7)) 8)).toNat)).drop 0))
 else
 j39 s1.2))
 else
 some (.inl s1.2))
def T9 (a0:(List Int)) (a1:(List A0)) (a2:Bool):Option ((List Int)) :=
 (loop (V0 a1 a2) (0,a0)).bind fun p30 =>
 some p30
theorem A41 (a0:(List Int)) (a1:(List A0)) (a2:Bool) (r:(List Int)) (h:T9 a0 a1 a2=some r):AC Tryz.prog 157 [(.sref 0 1 0 a0.length),(.d (.list 4 (a1.map A2))),(.d (.bool a2))] [(0,(.row 5 1 (a0.map (eI .u8))))] (.d (.list 1 (r.map (eI .u8)))) [(0,none)]:=by
 refine ac2 Tryz.func157 rfl rfl fun B hB hN L => ?_
 delta T9 at h
 apply sr (c (assign (L rfl) Opd.nils) rfl cn)
 apply seq
 apply sr (c (mv hN (q 1)) rfl (c (OpJ.val (v':=(i6 (a1.length:Int))) (by simp) (lenD underlying69 (L rfl) (q 9))) rfl (c (mv hN (ii 0)) rfl cn)))
 apply block
 obtain⟨p30,hx46,h⟩:=bindS h
 refine lg (V0 a1 a2) (fun s1:Int×(List Int)=>([(0,(.sref 3000 1 0 s1.2.length)),(2,(bo a2)),(9,(C1 a1)),(10,(i6 (a1.length:Int))),(11,(i6 s1.1))]:EL)) (fun s1:Int×(List Int)=>([(3000,some (.row 5 1 (s1.2.map (eI .u8))))]:OL)) (fun(p30:((List Int))) e E' O'=>e = .exit 0∧Mat B E' O' ([(0,(.sref 3000 1 0 p30.length))]:EL) ([(3000,some (.row 5 1 (p30.map (eI .u8))))]:OL)) hx46 (mp [(3000,0)] _ _ hB) (fun s1 y h => ?_) (fun e E' O' hR => ?_)
 ·unfold V0 at h
  apply sr (c (lss (L rfl) (q 11) (q 10)) rfl cn)
  apply seq
  apply AWp.cond rfl<;>intro hg31
  ·have h:=B6 hg31 h
   apply AWp.skip
   apply A3
   apply seq
   apply block
   obtain⟨x32,hx32,h⟩:=bindS h
   apply sr (c (indexD underlying69 tyS33 (A4 hx32).1 (C8 A2 (A4 hx32).2) (L rfl) (q 9) (q 11)) rfl (c (loadD tyS33 (by rfl) (by rfl) (L rfl) (q 13)) rfl (cg (alloc hB tyZ33 (nm:=1008) (by decide) (L rfl)) rfl (cg (sB tyS33 (q 8) (q 14)) rfl cn))))
   apply sr (c (fo 1008 0 [0] hN underlying33 0 tyS31 (q 8)) rfl (c (fo 1008 0 [0,0] hN underlying31 0 tyS4 (q 15)) rfl (c (lb hN 33 _ _ tyS4 (At.dst1 (by rfl) (by rfl) (ad _) (by first | rfl | omega)) (q 16)) rfl (c (mv hN (q 2)) rfl (c (OpJ.eqlB underlying4 (L rfl) (q 17) (q 18)) rfl cn)))))
   refine gh [(0,_),(2,_),(8,_),(9,_),(10,_),(11,_),(19,_)] [(1008,some _),(3000,some _)] hB rfl rfl (by rfl) ?_
   refine AWp.cut h (fun m38:(List Int)=>([(0,(.sref 3000 1 0 m38.length)),(2,(bo a2)),(9,(C1 a1)),(10,(i6 (a1.length:Int))),(11,(i6 s1.1))]:EL)) (fun m38:(List Int)=>([(3000,some (.row 5 1 (m38.map (eI .u8))))]:OL)) (fun m38 h E' O' hmat => ?_) (fun j39 hjj39 h => ?_)
   ·apply F8
    apply A3
    refine ghost hmat ?_
    apply rg (c (add6 (L rfl) (q 11) (ii 1)) rfl (c (mv hN (q 35)) rfl cn))
    obtain rfl:=oi h
    exact⟨rfl,(mp [] _ _ hB)⟩
   ·apply AWp.cond rfl<;>intro hg40
    ·have h:=B6 hg40 h
     obtain⟨hc41,h⟩:=D3 h
     have hc41_o:=hc41
     simp only [decide_eq_true_eq] at hc41_o
     obtain⟨r42,hr42,h⟩:=bindS h
     obtain⟨hc43,h⟩:=D3 h
     have hc43_o:=hc43
     simp only [Bool.and_eq_true,decide_eq_true_eq] at hc43_o
     obtain⟨hc44,h⟩:=D3 h
     have hc44_o:=hc44
     simp only [decide_eq_true_eq] at hc44_o
     apply dr (c (mv hN (q 0)) rfl (c (fo 1008 3 [1] hN underlying33 3 tyS3 (q 8)) rfl (c (la hN 33 tyS3 (q 21)) rfl (c (OpJ.conv underlying3 underlying5 (L rfl) (q 22)) rfl (c (buildSlice underlying76 tyS5 tyZD5 (by rfl) (by decide) (by decide) (Opds.cons (q 23) Opds.nil) (by kernel_rfl) (es:=([(.int .u8 (IntKind.u8.wrap x32.fLen))]:List D)) (by rfl) (by rfl) (by kernel_rfl) (by simp) (L rfl)) rfl (cg (apd hB underlying76 tyE5 1025 (eI .u8) s1.2 ([(IntKind.u8.wrap x32.fLen)]:List Int) hc41 (L rfl) (q 20) (q 24)) rfl (c (fo 1008 0 [0] hN underlying33 0 tyS31 (q 8)) rfl (c (la hN 33 tyS31 (q 26)) rfl (cg (cf hB fnOk166 (A1m x32.fAddr r42 hr42) (L rfl) (OpdL.cons (q 27) OpdL.nil)) rfl (c (fo 1008 3 [1] hN underlying33 3 tyS3 (q 8)) rfl (c (la hN 33 tyS3 (q 29)) rfl (c (add6 (L rfl) (q 30) (ii 7)) rfl (c (quo6 (L rfl) (q 31) (ii 8) (by decide)) rfl (c (OpJ.cutD underlying76 tyS5 (es':=((r42.take ((w64 (Int.tdiv (w64 (x32.fLen+7)) 8)).toNat)).drop 0).map (eI .u8)) (l:=0) (h:=(w64 (Int.tdiv (w64 (x32.fLen+7)) 8)).toNat) (.inl ⟨rfl,rfl,rfl⟩) (.inr ⟨_,_,_,rfl,(ot 32 (i6 (w64 (Int.tdiv (w64 (x32.fLen+7)) 8)))),(of_decide_eq_true (G5 (G5 hc43))),rfl⟩) (of_decide_eq_true (I6 (G5 hc43))) (by first | (simp;done) | simpa using (of_decide_eq_true (I6 hc43))) (by first | rw [List.map_drop,List.map_take] | (simp [List.map_take,List.map_drop];done) | simp [List.take_of_length_le]) (L rfl) (q 28)) rfl (cg (apd hB underlying76 tyE5 1034 (eI .u8) (s1.2++([(IntKind.u8.wrap x32.fLen)]:List Int)) ((r42.take ((w64 (Int.tdiv (w64 (x32.fLen+7)) 8)).toNat)).drop 0) hc44 (L rfl) (q 25) (q 33)) rfl (c (assign (L rfl) (q 34)) rfl cn)))))))))))))))) (by kernel_rfl) (by kernel_rfl)
     exact hjj39 _ h _ _ (mp [(3000,1034)] _ _ hB)
    ·have h:=B7 hg40 h
     apply AWp.skip
     exact hjj39 _ h _ _ (mp [] _ _ hB)
  ·have h:=B7 hg31 h
   apply AWp.exit
   apply F6
   obtain rfl:=oi h
   exact⟨(fun hc=>by cases hc),rfl,(mp [] _ _ hB)⟩
 ·obtain⟨rfl,hmat⟩:=hR
  apply E4
  apply A3
  refine ghost hmat ?_
  apply sr (c (mv hN (q 0)) rfl (c (assign (L rfl) (q 36)) rfl cn))
  apply ret
  obtain rfl:=oi h
  exact rt (Mat.trans (Mat.freezeP (n:=3000) (e:=5) (sz:=1) (es:=p30.map (eI .u8)) (Ts:=[(6,(.d (.list 1 (p30.map (eI .u8)))))]) (Bs:=[]) (by rfl) (TwT.cons (x:=(.sref 3000 1 0 p30.length)) (by rfl) (FrzL.all (by first | rfl | (simp;done) | (simp;omega) | omega)) TwT.nil) TwB.nil) (mp [] [(6,(.d (.list 1 (p30.map (eI .u8)))))] [] hB)) [(.d (.list 1 (p30.map (eI .u8))))] (rT rN) rfl
def M3 (a0:D9) (s18:Int×(List A7)):Option ((((List A7)))⊕(Int×(List A7))) :=
 (if (decide (s18.1<(a0.fOther.length:Int)))=true then
 (idx a0.fOther s18.1).bind fun x29 =>
 (A1a x29.fData).bind fun r30 =>
 chk (decide ((s18.2++[(A7.mk x29.fFlags x29.fType r30)]).length≤LIM)) <|
 some (.inr ((w64 (s18.1+1)),(s18.2++[(A7.mk x29.fFlags x29.fType r30)])))
 else
 some (.inl s18.2))
def K5 (a0:D9):Option ((List A7)×Int) :=
 (J7 a0).bind fun r1 =>
 (if (!r1)=true then
 some (([]:List A7),1)
 else
 (J4 (a0.fOrigin != (-1)) 1 ([(IntKind.u8.wrap a0.fOrigin)]:List Int)).bind fun r3 =>
 (P0 a0.fPath).bind fun r4 =>
 (D7 ((a0.fOrigin != (-1)) || (decide (0<(a0.fPath.length:Int)))) 2 r4 r3).bind fun r5 =>
 (T7 a0.fNext).bind fun r6 =>
 (D7 ((!a0.fNext.fV6)&&(!((a0.fNext.fV6==false)&&((a0.fNext.fHi==0)&&((a0.fNext.fLo==0)&&true))))) 3 r6 r5).bind fun r7 =>
 (N2 ([a0.fMED]:List Int)).bind fun r8 =>
 (D7 (a0.fMED != (-1)) 4 r8 r7).bind fun r9 =>
 (N2 ([a0.fPref]:List Int)).bind fun r10 =>
 (D7 (a0.fPref != (-1)) 5 r10 r9).bind fun r11 =>
 (L1 a0.fCommunities).bind fun r12 =>
 (D7 (decide (0<(a0.fCommunities.length:Int))) 8 r12 r11).bind fun r13 =>
 (U9 a0.fLarge).bind fun r14 =>
 (D7 (decide (0<(a0.fLarge.length:Int))) 32 r14 r13).bind fun r15 =>
 (N2 ([a0.fOTC]:List Int)).bind fun r16 =>
 (D7 (a0.fOTC != (-1)) 35 r16 r15).bind fun r17 =>
 (loop (M3 a0) (0,r17)).bind fun p27 =>
 (L2 p27).bind fun r34 =>
 chk (decide (r34.length=p27.length)) <|
 some (r34,0))
theorem A4r (a0:D9) (r:(List A7)×Int) (h:K5 a0=some r):AC Tryz.prog 165 [(.d (A8 a0))] [(500,(.know (globD 0 (.imap gv0))))] (.tup [(.sref 900000 3 0 r.1.length),(.d (.int .i64 r.2))]) [(500,some (.know (globD 0 (.imap gv0)))),(900000,some (.row 78 3 (r.1.map A5)))]:=by
 refine ac2 Tryz.func165 rfl rfl fun B hB hN L => ?_
 delta K5 at h
 apply sr (cg (OpJ.box hB (nm:=1001) (by decide) (by simp) rfl (L rfl) (q 0)) rfl (c (assign (L rfl) Opd.nils) rfl (c (assign (L rfl) (ii 0)) rfl cn)))
 apply seq
 apply seq
 obtain⟨r1,hr1,h⟩:=bindS h
 refine AWp.region (oc (lb hN 39 (.d (A8 a0)) (.d (A8 a0)) tyS39 (At.here _) (ot 1 (pt 1001)))
 (oc (OpJ.callFn hB fnOk154 (A04 a0 r1 hr1) [(500,500)] (by kernel_rfl) (L rfl) (by kernel_rfl) (OpdL.cons (ot 8 (.d (A8 a0))) OpdL.nil))
 (oc (OpJ.not (L rfl) (ot 9 (bo r1)))
 (OpJs.nil)))) (by rfl) (by rfl) ?_
 apply A3
 refine ghost (mp [] [(1,(pt 1001)),(10,(bo (!r1)))] [(500,some (.know (globD 0 (.imap gv0)))),(1001,bd 39 (A8 a0))] hB) ?_
 apply AWp.cond rfl<;>intro hg2
 ·have h:=B6 hg2 h
  apply sr (c (assign (L rfl) Opd.nils) rfl (c (assign (L rfl) (ii 1)) rfl cn))
  apply ret
  apply D4
  obtain rfl:=oi h
  exact rt (Mat.trans (Mat.beginP (n:=900500) (e:=78) (sz:=3) (Ts:=[(2,(.sref 900500 3 0 0))]) (Bs:=[]) hB (by decide) (by rfl) (by decide) (TwT.cons (x:=.nils) (by rfl) (Tw.leaf ⟨rfl,rfl⟩) TwT.nil) TwB.nil) (Mat.trans (Mat.lenP (Ts:=[(2,(.sref 900500 3 0 (([]:List A7).length)))]) (Bs:=[]) (TwT.cons (x:=(.sref 900500 3 0 0)) (by rfl) (Tw.leaf ⟨_,_,_,_,_,rfl,rfl,(by first | rfl | (simp;done) | (simp;omega) | omega)⟩) TwT.nil) TwB.nil) (mp [(900000,900500)] [(2,(.sref 900000 3 0 (([]:List A7).length))),(3,(i6 1))] [(500,some (.know (globD 0 (.imap gv0)))),(900000,some (F0 ([]:List A7)))] hB))) [(.sref 900000 3 0 (([]:List A7).length)),(i6 1)] (rT (rT rN)) rfl
 ·have h:=B7 hg2 h
  apply AWp.skip
  apply A3
  apply sr (cg (alloc hB tyZ37 (nm:=1004) (by decide) (L rfl)) rfl cn)
  apply sr (cg (OpJ.makeF (OpdL.cons (q 4) OpdL.nil) rfl rfl (L rfl)) rfl (c (assign (L rfl) (q 11)) rfl cn))
  apply seq
  obtain⟨r3,hr3,h⟩:=bindS h
  refine AWp.region (oc (mv hN (ot 5 (.func 176 [(pt 1004)])))
   (oc (ov (.ptr 1001 0 [0]) (fp hN underlying39 0 tyS3 (.box 39 (.d (A8 a0))) (ot 1 (pt 1001))))
   (oc (lb hN 39 (.d (A8 a0)) (i6 a0.fOrigin) tyS3 (ad (.int .i64 a0.fOrigin)) (ot 13 (.ptr 1001 0 [0])))
   (oc (neqI (L rfl) (ot 14 (i6 a0.fOrigin)) (ii (-1)))
   (oc (ov (.ptr 1001 0 [0]) (fp hN underlying39 0 tyS3 (.box 39 (.d (A8 a0))) (ot 1 (pt 1001))))
   (oc (lb hN 39 (.d (A8 a0)) (i6 a0.fOrigin) tyS3 (ad (.int .i64 a0.fOrigin)) (ot 16 (.ptr 1001 0 [0])))
   (oc (OpJ.conv underlying3 underlying5 (L rfl) (ot 17 (i6 a0.fOrigin)))
   (oc (buildSlice underlying76 tyS5 tyZD5 (by rfl) (by decide) (by decide) (Opds.cons (ot 18 (.d (.int .u8 (IntKind.u8.wrap a0.fOrigin)))) Opds.nil) (by kernel_rfl) (es:=([(.int .u8 (IntKind.u8.wrap a0.fOrigin))]:List D)) (by rfl) (by rfl) (by kernel_rfl) (by simp) (L rfl))
   (oc (callVal (args:=[(bo (a0.fOrigin != (-1))),(i6 1),(.d (.list 1 (([(IntKind.u8.wrap a0.fOrigin)]:List Int).map (eI .u8))))]) (caps:=[(pt 0)]) hB fnOk176 [(0,1004),(500,500),(950000,100100)] (A4p (a0.fOrigin != (-1)) 1 ([(IntKind.u8.wrap a0.fOrigin)]:List Int) r3 hr3) (by kernel_rfl) (L rfl) (by kernel_rfl) (by kernel_rfl) (OpdL.cons (ot 15 (bo (a0.fOrigin != (-1)))) (OpdL.cons (ii 1) (OpdL.cons (ot 19 (.d (.list 1 (([(IntKind.u8.wrap a0.fOrigin)]:List Int).map (eI .u8))))) OpdL.nil))))
   (OpJs.nil)))))))))) (by rfl) (by rfl) ?_
  apply A3
  refine ghost (mp [] [(1,(pt 1001)),(4,(pt 1004)),(5,(.func 176 [(pt 1004)]))] [(500,some (.know (globD 0 (.imap gv0)))),(1001,bd 39 (A8 a0)),(1004,some (.box 37 (.sref 100100 3 0 r3.length))),(100100,some (F0 r3))] hB) ?_
  apply seq
  obtain⟨r4,hr4,h⟩:=bindS h
  obtain⟨r5,hr5,h⟩:=bindS h
  refine AWp.draws (by kernel_rfl) (oc (mv hN (ot 5 (.func 176 [(pt 1004)])))
   (oc (ov (.ptr 1001 0 [0]) (fp hN underlying39 0 tyS3 (.box 39 (.d (A8 a0))) (ot 1 (pt 1001))))
   (oc (lb hN 39 (.d (A8 a0)) (i6 a0.fOrigin) tyS3 (ad (.int .i64 a0.fOrigin)) (ot 22 (.ptr 1001 0 [0])))
   (oc (neqI (L rfl) (ot 23 (i6 a0.fOrigin)) (ii (-1)))
   (oc (mv hN (ot 24 (bo (a0.fOrigin != (-1)))))
   (oc (op hN 25 (.ptr 1001 1 [1]) (ov (.ptr 1001 1 [1]) (fp hN underlying39 1 tyS34 (.box 39 (.d (A8 a0))) (ot 1 (pt 1001)))) (OptL.keep rfl OptL.nil) (GuardV.plain _))
   (oc (op hN 25 (D0 a0.fPath) (lb hN 39 (.d (A8 a0)) (D0 a0.fPath) tyS34 (ad (.list 2 (a0.fPath.map B4))) (ot 26 (.ptr 1001 1 [1]))) (OptL.opt OptL.nil) (GuardV.plain _))
   (oc (op hN 25 (i6 (a0.fPath.length:Int)) (OpJ.val (v':=(i6 (a0.fPath.length:Int))) (by simp) (lenD underlying34 (L rfl) (ot 27 (D0 a0.fPath)))) (OptL.opt OptL.nil) (GuardV.plain _))
   (oc (op hN 25 (bo (decide (0<(a0.fPath.length:Int)))) (gtr (L rfl) (ot 28 (i6 (a0.fPath.length:Int))) (ii 0)) (OptL.opt OptL.nil) (GuardV.plain _))
   (oc (pickOr rfl (L rfl) (ot 25 (bo (a0.fOrigin != (-1)))) (ot 29 (.opt ((a0.fOrigin != (-1))==false) (bo (decide (0<(a0.fPath.length:Int)))))))
   (oc (ov (.ptr 1001 1 [1]) (fp hN underlying39 1 tyS34 (.box 39 (.d (A8 a0))) (ot 1 (pt 1001))))
   (oc (lb hN 39 (.d (A8 a0)) (D0 a0.fPath) tyS34 (ad (.list 2 (a0.fPath.map B4))) (ot 31 (.ptr 1001 1 [1])))
   (oc (cf hB fnOk177 (A65 a0.fPath r4 hr4) (L rfl) (OpdL.cons (ot 32 (D0 a0.fPath)) OpdL.nil))
   (oc (callVal (args:=[(bo ((a0.fOrigin != (-1)) || (decide (0<(a0.fPath.length:Int))))),(i6 2),(.d (.list 1 (r4.map (eI .u8))))]) (caps:=[(pt 0)]) hB fnOk176 [(0,1004),(1,100100),(500,500),(950000,100300)] (H6 ((a0.fOrigin != (-1)) || (decide (0<(a0.fPath.length:Int)))) 2 r4 r3 r5 hr5) (by kernel_rfl) (L rfl) (by kernel_rfl) (by kernel_rfl) (OpdL.cons (ot 30 (bo ((a0.fOrigin != (-1)) || (decide (0<(a0.fPath.length:Int)))))) (OpdL.cons (ii 2) (OpdL.cons (ot 33 (.d (.list 1 (r4.map (eI .u8))))) OpdL.nil))))
   (OpJs.nil))))))))))))))) (by kernel_rfl) (by rfl) (by rfl) ?_
  apply A3
  refine ghost (mp [] [(1,(pt 1001)),(4,(pt 1004)),(5,(.func 176 [(pt 1004)]))] [(500,some (.know (globD 0 (.imap gv0)))),(1001,bd 39 (A8 a0)),(1004,some (.box 37 (.sref 100300 3 0 r5.length))),(100300,some (F0 r5))] hB) ?_
  apply seq
  obtain⟨r6,hr6,h⟩:=bindS h
  obtain⟨r7,hr7,h⟩:=bindS h
  refine AWp.draws (by kernel_rfl) (oc (mv hN (ot 5 (.func 176 [(pt 1004)])))
   (oc (ov (.ptr 1001 2 [2]) (fp hN underlying39 2 tyS31 (.box 39 (.d (A8 a0))) (ot 1 (pt 1001))))
   (oc (ov (.ptr 1001 2 [2,0]) (fp hN underlying31 0 tyS4 (.box 39 (.d (A8 a0))) (ot 36 (.ptr 1001 2 [2]))))
   (oc (lb hN 39 (.d (A8 a0)) (bo a0.fNext.fV6) tyS4 (At.dst1 (f:=(C5 a0.fNext)) (by rfl) (by rfl) (ad (.bool a0.fNext.fV6)) (by first | rfl | omega)) (ot 37 (.ptr 1001 2 [2,0])))
   (oc (OpJ.not (L rfl) (ot 38 (bo a0.fNext.fV6)))
   (oc (mv hN (ot 39 (bo (!a0.fNext.fV6))))
   (oc (op hN 40 (.ptr 1001 2 [2]) (ov (.ptr 1001 2 [2]) (fp hN underlying39 2 tyS31 (.box 39 (.d (A8 a0))) (ot 1 (pt 1001)))) (OptL.keep rfl OptL.nil) (GuardV.plain _))
   (oc (op hN 40 (.d (C5 a0.fNext)) (lb hN 39 (.d (A8 a0)) (.d (C5 a0.fNext)) tyS31 (ad (C5 a0.fNext)) (ot 41 (.ptr 1001 2 [2]))) (OptL.opt OptL.nil) (GuardV.plain _))
   (oc (op hN 40 (.d (.st [(.bool false),(.int .u64 0),(.int .u64 0)])) (OpJ.coe (v:=(.st [(bo false),(.d (.int .u64 0)),(.d (.int .u64 0))])) (y:=(.st [(.bool false),(.int .u64 0),(.int .u64 0)])) (Co.st (CoL.cons (Co.d _) (CoL.cons (Co.d _) (CoL.cons (Co.d _) CoL.nil)))) rfl (OpJ.build (places:=[(0,1),(1,1),(2,1)]) ⟨underlying31,fun w=>by kernel_rfl⟩ tyZS31 Opds.nil (by kernel_rfl) (r:=(.st [(bo false),(.d (.int .u64 0)),(.d (.int .u64 0))])) (by rfl) (L rfl))) OptL.nil (GuardV.plain _))
   (oc (op hN 40 (bo (!((a0.fNext.fV6==false)&&((a0.fNext.fHi==0)&&((a0.fNext.fLo==0)&&true))))) (OpJ.neqD (h:=2) (B03 a0.fNext) eqg31 ⟨rfl,rfl⟩ (by rfl) (L rfl) (ot 42 (.d (C5 a0.fNext))) (ot 43 (.d (.st [(.bool false),(.int .u64 0),(.int .u64 0)])))) (OptL.opt (OptL.opt OptL.nil)) (GuardV.plain _))
   (oc (pickAnd rfl (L rfl) (ot 40 (bo (!a0.fNext.fV6))) (ot 44 (.opt ((!a0.fNext.fV6)==true) (bo (!((a0.fNext.fV6==false)&&((a0.fNext.fHi==0)&&((a0.fNext.fLo==0)&&true))))))))
   (oc (ov (.ptr 1001 2 [2]) (fp hN underlying39 2 tyS31 (.box 39 (.d (A8 a0))) (ot 1 (pt 1001))))
   (oc (lb hN 39 (.d (A8 a0)) (.d (C5 a0.fNext)) tyS31 (ad (C5 a0.fNext)) (ot 46 (.ptr 1001 2 [2])))
   (oc (cf hB fnOk166 (A1m a0.fNext r6 hr6) (L rfl) (OpdL.cons (ot 47 (.d (C5 a0.fNext))) OpdL.nil))
   (oc (callVal (args:=[(bo ((!a0.fNext.fV6)&&(!((a0.fNext.fV6==false)&&((a0.fNext.fHi==0)&&((a0.fNext.fLo==0)&&true)))))),(i6 3),(.d (.list 1 (r6.map (eI .u8))))]) (caps:=[(pt 0)]) hB fnOk176 [(0,1004),(1,100300),(500,500),(950000,100500)] (H6 ((!a0.fNext.fV6)&&(!((a0.fNext.fV6==false)&&((a0.fNext.fHi==0)&&((a0.fNext.fLo==0)&&true))))) 3 r6 r5 r7 hr7) (by kernel_rfl) (L rfl) (by kernel_rfl) (by kernel_rfl) (OpdL.cons (ot 45 (bo ((!a0.fNext.fV6)&&(!((a0.fNext.fV6==false)&&((a0.fNext.fHi==0)&&((a0.fNext.fLo==0)&&true))))))) (OpdL.cons (ii 3) (OpdL.cons (ot 48 (.d (.list 1 (r6.map (eI .u8))))) OpdL.nil))))
   (OpJs.nil)))))))))))))))) (by kernel_rfl) (by rfl) (by rfl) ?_
  apply A3
  refine ghost (mp [] [(1,(pt 1001)),(4,(pt 1004)),(5,(.func 176 [(pt 1004)]))] [(500,some (.know (globD 0 (.imap gv0)))),(1001,bd 39 (A8 a0)),(1004,some (.box 37 (.sref 100500 3 0 r7.length))),(100500,some (F0 r7))] hB) ?_
  apply seq
  obtain⟨r8,hr8,h⟩:=bindS h
  obtain⟨r9,hr9,h⟩:=bindS h
  refine AWp.draws (by kernel_rfl) (oc (mv hN (ot 5 (.func 176 [(pt 1004)])))
   (oc (ov (.ptr 1001 5 [3]) (fp hN underlying39 5 tyS3 (.box 39 (.d (A8 a0))) (ot 1 (pt 1001))))
   (oc (lb hN 39 (.d (A8 a0)) (i6 a0.fMED) tyS3 (ad (.int .i64 a0.fMED)) (ot 51 (.ptr 1001 5 [3])))
   (oc (neqI (L rfl) (ot 52 (i6 a0.fMED)) (ii (-1)))
   (oc (ov (.ptr 1001 5 [3]) (fp hN underlying39 5 tyS3 (.box 39 (.d (A8 a0))) (ot 1 (pt 1001))))
   (oc (lb hN 39 (.d (A8 a0)) (i6 a0.fMED) tyS3 (ad (.int .i64 a0.fMED)) (ot 54 (.ptr 1001 5 [3])))
   (oc (buildSlice underlying27 tyS3 tyZD3 (by rfl) (by decide) (by decide) (Opds.cons (ot 55 (i6 a0.fMED)) Opds.nil) (by kernel_rfl) (es:=([(.int .i64 a0.fMED)]:List D)) (by rfl) (by rfl) (by kernel_rfl) (by simp) (L rfl))
   (oc (cf hB fnOk178 (A06 ([a0.fMED]:List Int) r8 hr8) (L rfl) (OpdL.cons Opd.nils (OpdL.cons (ot 56 (qI_1 ([a0.fMED]:List Int))) OpdL.nil)))
   (oc (callVal (args:=[(bo (a0.fMED != (-1))),(i6 4),(.d (.list 1 (r8.map (eI .u8))))]) (caps:=[(pt 0)]) hB fnOk176 [(0,1004),(1,100500),(500,500),(950000,100700)] (H6 (a0.fMED != (-1)) 4 r8 r7 r9 hr9) (by kernel_rfl) (L rfl) (by kernel_rfl) (by kernel_rfl) (OpdL.cons (ot 53 (bo (a0.fMED != (-1)))) (OpdL.cons (ii 4) (OpdL.cons (ot 57 (.d (.list 1 (r8.map (eI .u8))))) OpdL.nil))))
   (OpJs.nil)))))))))) (by kernel_rfl) (by rfl) (by rfl) ?_
  apply A3
  refine ghost (mp [] [(1,(pt 1001)),(4,(pt 1004)),(5,(.func 176 [(pt 1004)]))] [(500,some (.know (globD 0 (.imap gv0)))),(1001,bd 39 (A8 a0)),(1004,some (.box 37 (.sref 100700 3 0 r9.length))),(100700,some (F0 r9))] hB) ?_
  apply seq
  obtain⟨r10,hr10,h⟩:=bindS h
  obtain⟨r11,hr11,h⟩:=bindS h
  refine AWp.draws (by kernel_rfl) (oc (mv hN (ot 5 (.func 176 [(pt 1004)])))
   (oc (ov (.ptr 1001 6 [4]) (fp hN underlying39 6 tyS3 (.box 39 (.d (A8 a0))) (ot 1 (pt 1001))))
   (oc (lb hN 39 (.d (A8 a0)) (i6 a0.fPref) tyS3 (ad (.int .i64 a0.fPref)) (ot 60 (.ptr 1001 6 [4])))
   (oc (neqI (L rfl) (ot 61 (i6 a0.fPref)) (ii (-1)))
   (oc (ov (.ptr 1001 6 [4]) (fp hN underlying39 6 tyS3 (.box 39 (.d (A8 a0))) (ot 1 (pt 1001))))
   (oc (lb hN 39 (.d (A8 a0)) (i6 a0.fPref) tyS3 (ad (.int .i64 a0.fPref)) (ot 63 (.ptr 1001 6 [4])))
   (oc (buildSlice underlying27 tyS3 tyZD3 (by rfl) (by decide) (by decide) (Opds.cons (ot 64 (i6 a0.fPref)) Opds.nil) (by kernel_rfl) (es:=([(.int .i64 a0.fPref)]:List D)) (by rfl) (by rfl) (by kernel_rfl) (by simp) (L rfl))
   (oc (cf hB fnOk178 (A06 ([a0.fPref]:List Int) r10 hr10) (L rfl) (OpdL.cons Opd.nils (OpdL.cons (ot 65 (qI_1 ([a0.fPref]:List Int))) OpdL.nil)))
   (oc (callVal (args:=[(bo (a0.fPref != (-1))),(i6 5),(.d (.list 1 (r10.map (eI .u8))))]) (caps:=[(pt 0)]) hB fnOk176 [(0,1004),(1,100700),(500,500),(950000,100900)] (H6 (a0.fPref != (-1)) 5 r10 r9 r11 hr11) (by kernel_rfl) (L rfl) (by kernel_rfl) (by kernel_rfl) (OpdL.cons (ot 62 (bo (a0.fPref != (-1)))) (OpdL.cons (ii 5) (OpdL.cons (ot 66 (.d (.list 1 (r10.map (eI .u8))))) OpdL.nil))))
   (OpJs.nil)))))))))) (by kernel_rfl) (by rfl) (by rfl) ?_
  apply A3
  refine ghost (mp [] [(1,(pt 1001)),(4,(pt 1004)),(5,(.func 176 [(pt 1004)]))] [(500,some (.know (globD 0 (.imap gv0)))),(1001,bd 39 (A8 a0)),(1004,some (.box 37 (.sref 100900 3 0 r11.length))),(100900,some (F0 r11))] hB) ?_
  apply seq
  obtain⟨r12,hr12,h⟩:=bindS h
  obtain⟨r13,hr13,h⟩:=bindS h
  refine AWp.draws (by kernel_rfl) (oc (mv hN (ot 5 (.func 176 [(pt 1004)])))
   (oc (ov (.ptr 1001 8 [6]) (fp hN underlying39 8 tyS35 (.box 39 (.d (A8 a0))) (ot 1 (pt 1001))))
   (oc (lb hN 39 (.d (A8 a0)) (B5 a0.fCommunities) tyS35 (ad (.list 2 (a0.fCommunities.map B1))) (ot 69 (.ptr 1001 8 [6])))
   (oc (OpJ.val (v':=(i6 (a0.fCommunities.length:Int))) (by simp) (lenD underlying35 (L rfl) (ot 70 (B5 a0.fCommunities))))
   (oc (gtr (L rfl) (ot 71 (i6 (a0.fCommunities.length:Int))) (ii 0))
   (oc (ov (.ptr 1001 8 [6]) (fp hN underlying39 8 tyS35 (.box 39 (.d (A8 a0))) (ot 1 (pt 1001))))
   (oc (lb hN 39 (.d (A8 a0)) (B5 a0.fCommunities) tyS35 (ad (.list 2 (a0.fCommunities.map B1))) (ot 73 (.ptr 1001 8 [6])))
   (oc (cf hB fnOk179 (A31 a0.fCommunities r12 hr12) (L rfl) (OpdL.cons (ot 74 (B5 a0.fCommunities)) OpdL.nil))
   (oc (callVal (args:=[(bo (decide (0<(a0.fCommunities.length:Int)))),(i6 8),(.d (.list 1 (r12.map (eI .u8))))]) (caps:=[(pt 0)]) hB fnOk176 [(0,1004),(1,100900),(500,500),(950000,101100)] (H6 (decide (0<(a0.fCommunities.length:Int))) 8 r12 r11 r13 hr13) (by kernel_rfl) (L rfl) (by kernel_rfl) (by kernel_rfl) (OpdL.cons (ot 72 (bo (decide (0<(a0.fCommunities.length:Int))))) (OpdL.cons (ii 8) (OpdL.cons (ot 75 (.d (.list 1 (r12.map (eI .u8))))) OpdL.nil))))
   (OpJs.nil)))))))))) (by kernel_rfl) (by rfl) (by rfl) ?_
  apply A3
  refine ghost (mp [] [(1,(pt 1001)),(4,(pt 1004)),(5,(.func 176 [(pt 1004)]))] [(500,some (.know (globD 0 (.imap gv0)))),(1001,bd 39 (A8 a0)),(1004,some (.box 37 (.sref 101100 3 0 r13.length))),(101100,some (F0 r13))] hB) ?_
  apply seq
  obtain⟨r14,hr14,h⟩:=bindS h
  obtain⟨r15,hr15,h⟩:=bindS h
  refine AWp.draws (by kernel_rfl) (oc (mv hN (ot 5 (.func 176 [(pt 1004)])))
   (oc (ov (.ptr 1001 9 [7]) (fp hN underlying39 9 tyS36 (.box 39 (.d (A8 a0))) (ot 1 (pt 1001))))
   (oc (lb hN 39 (.d (A8 a0)) (D6 a0.fLarge) tyS36 (ad (.list 3 (a0.fLarge.map C7))) (ot 78 (.ptr 1001 9 [7])))
   (oc (OpJ.val (v':=(i6 (a0.fLarge.length:Int))) (by simp) (lenD underlying36 (L rfl) (ot 79 (D6 a0.fLarge))))
   (oc (gtr (L rfl) (ot 80 (i6 (a0.fLarge.length:Int))) (ii 0))
   (oc (ov (.ptr 1001 9 [7]) (fp hN underlying39 9 tyS36 (.box 39 (.d (A8 a0))) (ot 1 (pt 1001))))
   (oc (lb hN 39 (.d (A8 a0)) (D6 a0.fLarge) tyS36 (ad (.list 3 (a0.fLarge.map C7))) (ot 82 (.ptr 1001 9 [7])))
   (oc (cf hB fnOk180 (A5s a0.fLarge r14 hr14) (L rfl) (OpdL.cons (ot 83 (D6 a0.fLarge)) OpdL.nil))
   (oc (callVal (args:=[(bo (decide (0<(a0.fLarge.length:Int)))),(i6 32),(.d (.list 1 (r14.map (eI .u8))))]) (caps:=[(pt 0)]) hB fnOk176 [(0,1004),(1,101100),(500,500),(950000,101300)] (H6 (decide (0<(a0.fLarge.length:Int))) 32 r14 r13 r15 hr15) (by kernel_rfl) (L rfl) (by kernel_rfl) (by kernel_rfl) (OpdL.cons (ot 81 (bo (decide (0<(a0.fLarge.length:Int))))) (OpdL.cons (ii 32) (OpdL.cons (ot 84 (.d (.list 1 (r14.map (eI .u8))))) OpdL.nil))))
   (OpJs.nil)))))))))) (by kernel_rfl) (by rfl) (by rfl) ?_
  apply A3
  refine ghost (mp [] [(1,(pt 1001)),(4,(pt 1004)),(5,(.func 176 [(pt 1004)]))] [(500,some (.know (globD 0 (.imap gv0)))),(1001,bd 39 (A8 a0)),(1004,some (.box 37 (.sref 101300 3 0 r15.length))),(101300,some (F0 r15))] hB) ?_
  apply seq
  obtain⟨r16,hr16,h⟩:=bindS h
  obtain⟨r17,hr17,h⟩:=bindS h
  refine AWp.draws (by kernel_rfl) (oc (mv hN (ot 5 (.func 176 [(pt 1004)])))
   (oc (ov (.ptr 1001 7 [5]) (fp hN underlying39 7 tyS3 (.box 39 (.d (A8 a0))) (ot 1 (pt 1001))))
   (oc (lb hN 39 (.d (A8 a0)) (i6 a0.fOTC) tyS3 (ad (.int .i64 a0.fOTC)) (ot 87 (.ptr 1001 7 [5])))
   (oc (neqI (L rfl) (ot 88 (i6 a0.fOTC)) (ii (-1)))
   (oc (ov (.ptr 1001 7 [5]) (fp hN underlying39 7 tyS3 (.box 39 (.d (A8 a0))) (ot 1 (pt 1001))))
   (oc (lb hN 39 (.d (A8 a0)) (i6 a0.fOTC) tyS3 (ad (.int .i64 a0.fOTC)) (ot 90 (.ptr 1001 7 [5])))
   (oc (buildSlice underlying27 tyS3 tyZD3 (by rfl) (by decide) (by decide) (Opds.cons (ot 91 (i6 a0.fOTC)) Opds.nil) (by kernel_rfl) (es:=([(.int .i64 a0.fOTC)]:List D)) (by rfl) (by rfl) (by kernel_rfl) (by simp) (L rfl))
   (oc (cf hB fnOk178 (A06 ([a0.fOTC]:List Int) r16 hr16) (L rfl) (OpdL.cons Opd.nils (OpdL.cons (ot 92 (qI_1 ([a0.fOTC]:List Int))) OpdL.nil)))
   (oc (callVal (args:=[(bo (a0.fOTC != (-1))),(i6 35),(.d (.list 1 (r16.map (eI .u8))))]) (caps:=[(pt 0)]) hB fnOk176 [(0,1004),(1,101300),(500,500),(950000,101500)] (H6 (a0.fOTC != (-1)) 35 r16 r15 r17 hr17) (by kernel_rfl) (L rfl) (by kernel_rfl) (by kernel_rfl) (OpdL.cons (ot 89 (bo (a0.fOTC != (-1)))) (OpdL.cons (ii 35) (OpdL.cons (ot 93 (.d (.list 1 (r16.map (eI .u8))))) OpdL.nil))))
   (OpJs.nil)))))))))) (by kernel_rfl) (by rfl) (by rfl) ?_
  apply A3
  refine ghost (mp [] [(1,(pt 1001)),(4,(pt 1004))] [(500,some (.know (globD 0 (.imap gv0)))),(1001,bd 39 (A8 a0)),(1004,some (.box 37 (.sref 101500 3 0 r17.length))),(101500,some (F0 r17))] hB) ?_
  apply seq
  apply sr (c (fo 1001 10 [8] hN underlying39 10 tyS37 (q 1)) rfl (c (la hN 39 tyS37 (q 95)) rfl (c (OpJ.val (v':=(i6 (a0.fOther.length:Int))) (by simp) (lenD underlying37 (L rfl) (q 96))) rfl (c (mv hN (ii 0)) rfl cn))))
  apply block
  obtain⟨p27,hx33,h⟩:=bindS h
  refine lg (M3 a0) (fun s18:Int×(List A7)=>([(4,(pt 1004)),(96,(E8 a0.fOther)),(97,(i6 (a0.fOther.length:Int))),(98,(i6 s18.1))]:EL)) (fun s18:Int×(List A7)=>([(500,some (.know (globD 0 (.imap gv0)))),(1004,some (.box 37 (.sref 4004 3 0 s18.2.length))),(4004,some (F0 s18.2))]:OL)) (fun(p27:((List A7))) e E' O'=>e = .exit 0∧Mat B E' O' ([(4,(pt 1004))]:EL) ([(500,some (.know (globD 0 (.imap gv0)))),(1004,some (.box 37 (.sref 4004 3 0 p27.length))),(4004,some (F0 p27))]:OL)) hx33 (mp [(4004,101500)] _ _ hB) (fun s18 y h => ?_) (fun e E' O' hR => ?_)
  ·unfold M3 at h
   apply sr (c (lss (L rfl) (q 98) (q 97)) rfl cn)
   apply seq
   apply AWp.cond rfl<;>intro hg28
   ·have h:=B6 hg28 h
    apply AWp.skip
    apply A3
    apply seq
    apply block
    obtain⟨x29,hx29,h⟩:=bindS h
    apply sr (c (indexD underlying37 tyS78 (A4 hx29).1 (C8 A5 (A4 hx29).2) (L rfl) (q 96) (q 98)) rfl (c (loadD tyS78 (by rfl) (by rfl) (L rfl) (q 100)) rfl (cg (alloc hB tyZ78 (nm:=1007) (by decide) (L rfl)) rfl (cg (sB tyS78 (q 7) (q 101)) rfl cn))))
    obtain⟨r30,hr30,h⟩:=bindS h
    apply sr (c (fo 1007 2 [2] hN underlying78 2 tyS76 (q 7)) rfl (c (la hN 78 tyS76 (q 102)) rfl (cg (cf hB fnOk181 (A32 x29.fData r30 hr30) (L rfl) (OpdL.cons (q 103) OpdL.nil)) rfl (c (fo 1007 2 [2] hN underlying78 2 tyS76 (q 7)) rfl (cg (OpJ.storeB tyS76 (SetAt.dst1 (by rfl) (by rfl) (SetAt.here _ _) (by rfl) (by rfl) (by first | rfl | omega)) (by rfl) (by rfl) (by simp) rfl (q 105) (q 104)) rfl cn)))))
    obtain⟨hc31,h⟩:=D3 h
    apply rg (c (lb hN 37 _ _ tyS37 (At.here _) (q 4)) rfl (c (lb hN 78 _ _ tyS78 (At.here _) (q 7)) rfl (c (buildSlice underlying37 tyS78 tyZD78 (by rfl) (by decide) (by decide) (Opds.cons (q 107) Opds.nil) (by kernel_rfl) (es:=([(.st [(.int .i64 x29.fFlags),(.int .i64 x29.fType),(.list 1 (r30.map (eI .u8)))])]:List D)) (by rfl) (by rfl) (by kernel_rfl) (by simp) (L rfl)) rfl (cg (apd hB underlying37 tyE78 1109 A5 s18.2 [(A7.mk x29.fFlags x29.fType r30)] hc31 (L rfl) (q 106) (q 108)) rfl (cg (sB tyS37 (q 4) (q 109)) rfl cn)))))
    apply F8
    apply A3
    apply rg (c (add6 (L rfl) (q 98) (ii 1)) rfl (c (mv hN (q 110)) rfl cn))
    obtain rfl:=oi h
    exact⟨rfl,(mp [(4004,1109)] _ _ hB)⟩
   ·have h:=B7 hg28 h
    apply AWp.exit
    apply F6
    obtain rfl:=oi h
    exact⟨(fun hc=>by cases hc),rfl,(mp [] _ _ hB)⟩
  ·obtain⟨rfl,hmat⟩:=hR
   apply E4
   apply A3
   refine ghost hmat ?_
   apply seq
   obtain⟨r34,hr34,h⟩:=bindS h
   obtain⟨hc35,h⟩:=D3 h
   have lhc35:=of_decide_eq_true hc35
   have hc35_o:=of_decide_eq_true hc35
   refine AWp.region (oc (lb hN 37 (.sref 4004 3 0 p27.length) (.sref 4004 3 0 p27.length) tyS37 (At.here _) (ot 4 (pt 1004)))
    (oc (OpJ.callFn hB fnOk167 (S9 p27 r34 hr34) [(0,4004)] (by kernel_rfl) (L rfl) (by kernel_rfl) (OpdL.cons (ot 111 (.sref 4004 3 0 p27.length)) (OpdL.cons (Opd.func 182) OpdL.nil)))
    (OpJs.nil))) (by rfl) (by rfl) ?_
   apply A3
   refine ghost (mp [] [(4,(pt 1004))] [(500,some (.know (globD 0 (.imap gv0)))),(1004,some (.box 37 (.sref 4004 3 0 p27.length))),(4004,some (F0 r34))] hB) ?_
   apply sr (c (lb hN 37 _ _ tyS37 (At.here _) (q 4)) rfl (c (assign (L rfl) (q 113)) rfl (c (assign (L rfl) (ii 0)) rfl cn)))
   apply ret
   obtain rfl:=oi h
   exact rt (Mat.trans (Mat.lenP (Ts:=[(2,(.sref 4004 3 0 r34.length))]) (Bs:=[]) (TwT.cons (x:=(.sref 4004 3 0 p27.length)) (by rfl) (Tw.leaf ⟨_,_,_,_,_,rfl,rfl,(by first | rfl | (simp;done) | (simp;omega) | omega)⟩) TwT.nil) TwB.nil) (mp [(900000,4004)] [(2,(.sref 900000 3 0 r34.length)),(3,(i6 0))] [(500,some (.know (globD 0 (.imap gv0)))),(900000,some (F0 r34))] hB)) [(.sref 900000 3 0 r34.length),(i6 0)] (rT (rT rN)) rfl
def A0t (a0:(List A0)) (a1:Bool) (s1:Int×(List Int)):Option ((((List Int)))⊕(Int×(List Int))) :=
 (if (decide (s1.1<(a0.length:Int)))=true then
 (idx a0 s1.1).bind fun x32 =>
 jn (fun m38:(List Int) =>
 some (.inr ((w64 (s1.1+1)),m38))) (fun j39 =>
 (if (x32.fAddr.fV6==a1)=true then
 chk (decide ((s1.2++([(IntKind.u8.wrap x32.fLen)]:List Int)).length≤LIM)) <|
 (T7 x32.fAddr).bind fun r42 =>
 chk ((decide (0≤(w64 (Int.tdiv (w64 (x32.fLen+7)) 8)))&&decide (0≤(w64 (Int.tdiv (w64 (x32.fLen+7)) 8)).toNat)&&decide ((w64 (Int.tdiv (w64 (x32.fLen+7)) 8)).toNat≤r42.length))) <|
 chk (decide (((s1.2++([(IntKind.u8.wrap x32.fLen)]:List Int))++((r42.take ((w64 (Int.tdiv (w64 (x32.fLen+7)) 8)).toNat)).drop 0)).length≤LIM)) <|
 j39 ((s1.2++([(IntKind.u8.wrap x32.fLen)]:List Int))++((r42.take ((w64 (Int.tdiv (w64 (x32.fLen+7)) 8)).toNat)).drop 0))
 else
 j39 s1.2))
 else
 some (.inl s1.2))
def M4 (a0:(List A0)) (a1:Bool):Option ((List Int)) :=
 (loop (A0t a0 a1) (0,([]:List Int))).bind fun p30 =>
 some p30
theorem A2p (a0:(List A0)) (a1:Bool) (r:(List Int)) (h:M4 a0 a1=some r):AC Tryz.prog 157 [.nils,(.d (.list 4 (a0.map A2))),(.d (.bool a1))] [] (.d (.list 1 (r.map (eI .u8)))) []:=by
 refine ac2 Tryz.func157 rfl rfl fun B hB hN L => ?_
 delta M4 at h
 apply sr (c (assign (L rfl) Opd.nils) rfl cn)
 apply seq
 apply sr (c (mv hN (q 1)) rfl (c (OpJ.val (v':=(i6 (a0.length:Int))) (by simp) (lenD underlying69 (L rfl) (q 9))) rfl (c (mv hN (ii 0)) rfl cn)))
 apply block
 obtain⟨p30,hx46,h⟩:=bindS h
 refine lg (A0t a0 a1) (fun s1:Int×(List Int)=>([(0,(.sref 3000 1 0 s1.2.length)),(2,(bo a1)),(9,(C1 a0)),(10,(i6 (a0.length:Int))),(11,(i6 s1.1))]:EL)) (fun s1:Int×(List Int)=>([(3000,some (.row 5 1 (s1.2.map (eI .u8))))]:OL)) (fun(p30:((List Int))) e E' O'=>e = .exit 0∧Mat B E' O' ([(0,(.sref 3000 1 0 p30.length))]:EL) ([(3000,some (.row 5 1 (p30.map (eI .u8))))]:OL)) hx46 (Mat.trans (Mat.beginP (n:=3000) (e:=5) (sz:=1) (Ts:=[(0,(.sref 3000 1 0 0))]) (Bs:=[]) hB (by decide) (by rfl) (by decide) (TwT.cons (x:=.nils) (by rfl) (Tw.leaf ⟨rfl,rfl⟩) TwT.nil) TwB.nil) (mp [] _ _ hB)) (fun s1 y h => ?_) (fun e E' O' hR => ?_)
 ·unfold A0t at h
  apply sr (c (lss (L rfl) (q 11) (q 10)) rfl cn)
  apply seq
  apply AWp.cond rfl<;>intro hg31
  ·have h:=B6 hg31 h
   apply AWp.skip
   apply A3
   apply seq
   apply block
   obtain⟨x32,hx32,h⟩:=bindS h
   apply sr (c (indexD underlying69 tyS33 (A4 hx32).1 (C8 A2 (A4 hx32).2) (L rfl) (q 9) (q 11)) rfl (c (loadD tyS33 (by rfl) (by rfl) (L rfl) (q 13)) rfl (cg (alloc hB tyZ33 (nm:=1008) (by decide) (L rfl)) rfl (cg (sB tyS33 (q 8) (q 14)) rfl cn))))
   apply sr (c (fo 1008 0 [0] hN underlying33 0 tyS31 (q 8)) rfl (c (fo 1008 0 [0,0] hN underlying31 0 tyS4 (q 15)) rfl (c (lb hN 33 _ _ tyS4 (At.dst1 (by rfl) (by rfl) (ad _) (by first | rfl | omega)) (q 16)) rfl (c (mv hN (q 2)) rfl (c (OpJ.eqlB underlying4 (L rfl) (q 17) (q 18)) rfl cn)))))
   refine gh [(0,_),(2,_),(8,_),(9,_),(10,_),(11,_),(19,_)] [(1008,some _),(3000,some _)] hB rfl rfl (by rfl) ?_
   refine AWp.cut h (fun m38:(List Int)=>([(0,(.sref 3000 1 0 m38.length)),(2,(bo a1)),(9,(C1 a0)),(10,(i6 (a0.length:Int))),(11,(i6 s1.1))]:EL)) (fun m38:(List Int)=>([(3000,some (.row 5 1 (m38.map (eI .u8))))]:OL)) (fun m38 h E' O' hmat => ?_) (fun j39 hjj39 h => ?_)
   ·apply F8
    apply A3
    refine ghost hmat ?_
    apply rg (c (add6 (L rfl) (q 11) (ii 1)) rfl (c (mv hN (q 35)) rfl cn))
    obtain rfl:=oi h
    exact⟨rfl,(mp [] _ _ hB)⟩
   ·apply AWp.cond rfl<;>intro hg40
    ·have h:=B6 hg40 h
     obtain⟨hc41,h⟩:=D3 h
     obtain⟨r42,hr42,h⟩:=bindS h
     obtain⟨hc43,h⟩:=D3 h
     obtain⟨hc44,h⟩:=D3 h
     apply dr (c (mv hN (q 0)) rfl (c (fo 1008 3 [1] hN underlying33 3 tyS3 (q 8)) rfl (c (la hN 33 tyS3 (q 21)) rfl (c (OpJ.conv underlying3 underlying5 (L rfl) (q 22)) rfl (c (buildSlice underlying76 tyS5 tyZD5 (by rfl) (by decide) (by decide) (Opds.cons (q 23) Opds.nil) (by kernel_rfl) (es:=([(.int .u8 (IntKind.u8.wrap x32.fLen))]:List D)) (by rfl) (by rfl) (by kernel_rfl) (by simp) (L rfl)) rfl (cg (apd hB underlying76 tyE5 1025 (eI .u8) s1.2 ([(IntKind.u8.wrap x32.fLen)]:List Int) hc41 (L rfl) (q 20) (q 24)) rfl (c (fo 1008 0 [0] hN underlying33 0 tyS31 (q 8)) rfl (c (la hN 33 tyS31 (q 26)) rfl (cg (cf hB fnOk166 (A1m x32.fAddr r42 hr42) (L rfl) (OpdL.cons (q 27) OpdL.nil)) rfl (c (fo 1008 3 [1] hN underlying33 3 tyS3 (q 8)) rfl (c (la hN 33 tyS3 (q 29)) rfl (c (add6 (L rfl) (q 30) (ii 7)) rfl (c (quo6 (L rfl) (q 31) (ii 8) (by decide)) rfl (c (OpJ.cutD underlying76 tyS5 (es':=((r42.take ((w64 (Int.tdiv (w64 (x32.fLen+7)) 8)).toNat)).drop 0).map (eI .u8)) (l:=0) (h:=(w64 (Int.tdiv (w64 (x32.fLen+7)) 8)).toNat) (.inl ⟨rfl,rfl,rfl⟩) (.inr ⟨_,_,_,rfl,(ot 32 (i6 (w64 (Int.tdiv (w64 (x32.fLen+7)) 8)))),(of_decide_eq_true (G5 (G5 hc43))),rfl⟩) (of_decide_eq_true (I6 (G5 hc43))) (by first | (simp;done) | simpa using (of_decide_eq_true (I6 hc43))) (by first | rw [List.map_drop,List.map_take] | (simp [List.map_take,List.map_drop];done) | simp [List.take_of_length_le]) (L rfl) (q 28)) rfl (cg (apd hB underlying76 tyE5 1034 (eI .u8) (s1.2++([(IntKind.u8.wrap x32.fLen)]:List Int)) ((r42.take ((w64 (Int.tdiv (w64 (x32.fLen+7)) 8)).toNat)).drop 0) hc44 (L rfl) (q 25) (q 33)) rfl (c (assign (L rfl) (q 34)) rfl cn)))))))))))))))) (by kernel_rfl) (by kernel_rfl)
     exact hjj39 _ h _ _ (mp [(3000,1034)] _ _ hB)
    ·have h:=B7 hg40 h
     apply AWp.skip
     exact hjj39 _ h _ _ (mp [] _ _ hB)
  ·have h:=B7 hg31 h
   apply AWp.exit
   apply F6
   obtain rfl:=oi h
   exact⟨(fun hc=>by cases hc),rfl,(mp [] _ _ hB)⟩
 ·obtain⟨rfl,hmat⟩:=hR
  apply E4
  apply A3
  refine ghost hmat ?_
  apply sr (c (mv hN (q 0)) rfl (c (assign (L rfl) (q 36)) rfl cn))
  apply ret
  obtain rfl:=oi h
  exact rt (Mat.trans (Mat.freezeP (n:=3000) (e:=5) (sz:=1) (es:=p30.map (eI .u8)) (Ts:=[(6,(.d (.list 1 (p30.map (eI .u8)))))]) (Bs:=[]) (by rfl) (TwT.cons (x:=(.sref 3000 1 0 p30.length)) (by rfl) (FrzL.all (by first | rfl | (simp;done) | (simp;omega) | omega)) TwT.nil) TwB.nil) (mp [] [(6,(.d (.list 1 (p30.map (eI .u8)))))] [] hB)) [(.d (.list 1 (p30.map (eI .u8))))] (rT rN) rfl
def V2 (a0:A7) (a1:A7):Option (Int) :=
 (J3 a0.fType a1.fType).bind fun r1 =>
 some r1
theorem A6m (a0:A7) (a1:A7) (r:Int) (h:V2 a0 a1=some r):AC Tryz.prog 168 [(.d (A5 a0)),(.d (A5 a1))] [] (.d (.int .i64 r)) []:=by
 refine AC.of_code2 Tryz.func168 rfl rfl (Nat.le_of_ble_eq_true (by rfl)) fun B hB hN => ?_
 delta V2 at h
 apply sr (cg (OpJ.box hB (nm:=1002) (by decide) (by simp) rfl (ltN hN rfl) (q 0)) rfl (cg (OpJ.box hB (nm:=1003) (by decide) (by simp) rfl (ltN hN rfl) (q 1)) rfl (c (assign (ltN hN rfl) (ii 0)) rfl cn)))
 obtain⟨r1,hr1,h⟩:=bindS h
 apply sr (c (fo 1002 1 [1] hN underlying78 1 tyS3 (q 2)) rfl (c (la hN 78 tyS3 (q 5)) rfl (c (fo 1003 1 [1] hN underlying78 1 tyS3 (q 3)) rfl (c (la hN 78 tyS3 (q 7)) rfl (cg (OpJ.callFn hB fnOk74 (K4 a0.fType a1.fType r1 hr1) [] (by kernel_rfl) (ltN hN rfl) (by kernel_rfl) (OpdL.cons (q 6) (OpdL.cons (q 8) OpdL.nil))) rfl (c (assign (ltN hN rfl) (q 9)) rfl cn))))))
 apply ret
 obtain rfl:=oi h
 exact rt (kp [(4,_)] [] hB rfl rfl (by rfl)) [(i6 r1)] (rT rN) rfl
def J2 (a0:(List A7)):Option (List A7):=sortF a0 fun x y=>V2 x y
theorem V7 (a0:(List A7)) (r:List A7) (h:J2 a0=some r):AC Tryz.prog 167 [(.sref 0 3 0 a0.length),.func 168 []] [(0,(.row 78 3 (a0.map A5)))] (.tup []) [(0,some (.row 78 3 (r.map A5)))] :=
 AC.sortF A5 (fun x y=>V2 x y) a0 r h sortOk167 fnOk168 (fun _=>rfl) rfl rfl (fun x y c hc=>A6m x y c hc)
end
end Go.Proofs.YtplbaenjbihekaaGreatDoor
