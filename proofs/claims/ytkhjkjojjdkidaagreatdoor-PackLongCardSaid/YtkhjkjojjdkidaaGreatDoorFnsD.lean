/- Printed by gen.py: the Go functions as plain functions, and that the code does what they say. -/
import Derived.Test.YtkhjkjojjdkidaaGreatDoorChecked
import Derived.Test.YtkhjkjojjdkidaaGreatDoorVcYB
import Derived.Test.YtkhjkjojjdkidaaGreatDoorVcZ
import Derived.Test.YtkhjkjojjdkidaaGreatDoorVcGC
import Derived.KernelRfl
import Derived.Test.YtkhjkjojjdkidaaGreatDoorVcMD
import Derived.Test.YtkhjkjojjdkidaaGreatDoorVcMQ
import Derived.Test.YtkhjkjojjdkidaaGreatDoorVcSG
import Derived.Test.YtkhjkjojjdkidaaGreatDoorFnsC
import Derived.Test.YtkhjkjojjdkidaaGreatDoorExt
import Derived.Test.YtkhjkjojjdkidaaGreatDoorVcPm
import Derived.Test.YtkhjkjojjdkidaaGreatDoorVcRg
import Derived.Test.YtkhjkjojjdkidaaGreatDoorVcSt
import Derived.Test.YtkhjkjojjdkidaaGreatDoorVcMR
namespace Go.Proofs.YtkhjkjojjdkidaaGreatDoor
open Go Go.Vc
open Tryz
open Go.Vc.OpJ (assign alloc lss pickT pickF extract lenD indexD loadD eqlI gtr callVal leq geq loadR nilP indexS buildSlice lenS fieldD neqI pickAnd pickOr)
open Go.Vc.AWp (seq ghost ret block)
set_option maxHeartbeats 4000000
set_option maxRecDepth 100000
noncomputable section
def A0e (a0:D1) (a1:D1):Option (Bool) :=
 jn (fun m9:Bool =>
 some m9) (fun j10 =>
 (if (a0.fOrigin==a1.fOrigin)=true then
 (A1u a0.fPath a1.fPath).bind fun r12 =>
 (if ((((r12&&((a0.fNext.fV6==a1.fNext.fV6)&&((a0.fNext.fHi==a1.fNext.fHi)&&((a0.fNext.fLo==a1.fNext.fLo)&&true))))&&(a0.fMED==a1.fMED))&&(a0.fPref==a1.fPref))&&(a0.fOTC==a1.fOTC))=true then
 (A1v a0.fCommunities a1.fCommunities).bind fun r14 =>
 (if r14=true then
 (R5 a0.fLarge a1.fLarge).bind fun r16 =>
 (if r16=true then
 (T9 a0.fOther a1.fOther).bind fun r18 =>
 j10 r18
 else
 j10 false)
 else
 j10 false)
 else
 j10 false)
 else
 j10 false))
theorem A8z (a0:D1) (a1:D1) (r:Bool) (h:A0e a0 a1=some r):AC Tryz.prog 43 [(.d (A3 a0)),(.d (A3 a1))] [] (.d (.bool r)) []:=by
 refine ac2 Tryz.func43 rfl rfl fun B hB hN L => ?_
 delta A0e at h
 apply sr (cg (OpJ.box hB (nm:=1002) (by decide) (by simp) rfl (L rfl) (q 0)) rfl (cg (OpJ.box hB (nm:=1003) (by decide) (by simp) rfl (L rfl) (q 1)) rfl (c (assign (L rfl) (Opd.bool false)) rfl cn)))
 apply seq
 refine AWp.cut h (fun m9:Bool=>([(4,(bo m9))]:EL)) (fun m9:Bool=>([]:OL)) (fun m9 h E' O' hmat => ?_) (fun j10 hjj10 h => ?_)
 ·apply A0
  refine ghost hmat ?_
  apply ret
  obtain rfl:=oi h
  exact rt (kp [(4,_)] [] hB rfl rfl (by rfl)) [(bo m9)] (rT rN) rfl
 ·rcases bft (a0.fOrigin==a1.fOrigin) with hg11 | hg11
  ·have h:=A5 hg11 h
   obtain⟨r12,hr12,h⟩:=bindS h
   rcases bft ((((r12&&((a0.fNext.fV6==a1.fNext.fV6)&&((a0.fNext.fHi==a1.fNext.fHi)&&((a0.fNext.fLo==a1.fNext.fLo)&&true))))&&(a0.fMED==a1.fMED))&&(a0.fPref==a1.fPref))&&(a0.fOTC==a1.fOTC)) with hg13 | hg13
   ·have h:=A5 hg13 h
    obtain⟨r14,hr14,h⟩:=bindS h
    rcases bft r14 with hg15 | hg15
    ·have h:=A5 hg15 h
     obtain⟨r16,hr16,h⟩:=bindS h
     rcases bft r16 with hg17 | hg17
     ·have h:=A5 hg17 h
      obtain⟨r18,hr18,h⟩:=bindS h
      apply rg (c (fo 1002 0 [0] hN underlying35 0 tyS3 (q 2)) rfl (c (la hN 35 tyS3 (q 5)) rfl (c (fo 1003 0 [0] hN underlying35 0 tyS3 (q 3)) rfl (c (la hN 35 tyS3 (q 7)) rfl (c (eqlI (L rfl) (q 6) (q 8)) rfl (c (OpJ.val (v':=.d (.bool true)) (by rw [hg11]<;>rfl) (mv hN (q 9))) rfl (c (gd 10 (fo 1002 1 [1] hN underlying35 1 tyS30 (q 2))) rfl (c (gd 10 (la hN 35 tyS30 (q 11))) rfl (c (gd 10 (fo 1003 1 [1] hN underlying35 1 tyS30 (q 3))) rfl (c (gd 10 (la hN 35 tyS30 (q 13))) rfl (cg (gd 10 (cf hB fnOk73 (A14 a0.fPath a1.fPath r12 hr12) (L rfl) (OpdL.cons (q 12) (OpdL.cons (q 14) OpdL.nil)))) rfl (c (pickT (L rfl) (q 10) (q 15)) rfl (c (mv hN (q 16)) rfl (c (oq hN 17 (fo 1002 2 [2] hN underlying35 2 tyS27 (q 2)) (OptL.keep (by rfl) OptL.nil) (GuardV.plain _)) rfl (c (oq hN 17 (la hN 35 tyS27 (q 18)) (OptL.opt OptL.nil) (GuardV.plain _)) rfl (c (oq hN 17 (fo 1003 2 [2] hN underlying35 2 tyS27 (q 3)) (OptL.keep (by rfl) OptL.nil) (GuardV.plain _)) rfl (c (oq hN 17 (la hN 35 tyS27 (q 20)) (OptL.opt OptL.nil) (GuardV.plain _)) rfl (c (oq hN 17 (OpJ.eqlD (h:=2) (feq27 a0.fNext a1.fNext) eqg27 ⟨rfl,rfl⟩ (by rfl) (L rfl) (q 19) (q 21)) (OptL.opt (OptL.opt OptL.nil)) (GuardV.plain _)) rfl (c (pickAnd rfl (L rfl) (q 17) (q 22)) rfl (c (mv hN (q 23)) rfl (c (oq hN 24 (fo 1002 5 [3] hN underlying35 5 tyS3 (q 2)) (OptL.keep (by rfl) OptL.nil) (GuardV.plain _)) rfl (c (oq hN 24 (la hN 35 tyS3 (q 25)) (OptL.opt OptL.nil) (GuardV.plain _)) rfl (c (oq hN 24 (fo 1003 5 [3] hN underlying35 5 tyS3 (q 3)) (OptL.keep (by rfl) OptL.nil) (GuardV.plain _)) rfl (c (oq hN 24 (la hN 35 tyS3 (q 27)) (OptL.opt OptL.nil) (GuardV.plain _)) rfl (c (oq hN 24 (eqlI (L rfl) (q 26) (q 28)) (OptL.opt (OptL.opt OptL.nil)) (GuardV.plain _)) rfl (c (pickAnd rfl (L rfl) (q 24) (q 29)) rfl (c (mv hN (q 30)) rfl (c (oq hN 31 (fo 1002 6 [4] hN underlying35 6 tyS3 (q 2)) (OptL.keep (by rfl) OptL.nil) (GuardV.plain _)) rfl (c (oq hN 31 (la hN 35 tyS3 (q 32)) (OptL.opt OptL.nil) (GuardV.plain _)) rfl (c (oq hN 31 (fo 1003 6 [4] hN underlying35 6 tyS3 (q 3)) (OptL.keep (by rfl) OptL.nil) (GuardV.plain _)) rfl (c (oq hN 31 (la hN 35 tyS3 (q 34)) (OptL.opt OptL.nil) (GuardV.plain _)) rfl (c (oq hN 31 (eqlI (L rfl) (q 33) (q 35)) (OptL.opt (OptL.opt OptL.nil)) (GuardV.plain _)) rfl (c (pickAnd rfl (L rfl) (q 31) (q 36)) rfl (c (mv hN (q 37)) rfl (c (oq hN 38 (fo 1002 7 [5] hN underlying35 7 tyS3 (q 2)) (OptL.keep (by rfl) OptL.nil) (GuardV.plain _)) rfl (c (oq hN 38 (la hN 35 tyS3 (q 39)) (OptL.opt OptL.nil) (GuardV.plain _)) rfl (c (oq hN 38 (fo 1003 7 [5] hN underlying35 7 tyS3 (q 3)) (OptL.keep (by rfl) OptL.nil) (GuardV.plain _)) rfl (c (oq hN 38 (la hN 35 tyS3 (q 41)) (OptL.opt OptL.nil) (GuardV.plain _)) rfl (c (oq hN 38 (eqlI (L rfl) (q 40) (q 42)) (OptL.opt (OptL.opt OptL.nil)) (GuardV.plain _)) rfl (c (pickAnd rfl (L rfl) (q 38) (q 43)) rfl (c (OpJ.val (v':=.d (.bool true)) (by rw [hg13]<;>rfl) (mv hN (q 44))) rfl (c (gd 45 (fo 1002 8 [6] hN underlying35 8 tyS31 (q 2))) rfl (c (gd 45 (la hN 35 tyS31 (q 46))) rfl (c (gd 45 (fo 1003 8 [6] hN underlying35 8 tyS31 (q 3))) rfl (c (gd 45 (la hN 35 tyS31 (q 48))) rfl (cg (gd 45 (cf hB fnOk74 (A2v a0.fCommunities a1.fCommunities r14 hr14) (L rfl) (OpdL.cons (q 47) (OpdL.cons (q 49) OpdL.nil)))) rfl (c (pickT (L rfl) (q 45) (q 50)) rfl (c (OpJ.val (v':=.d (.bool true)) (by rw [hg15]<;>rfl) (mv hN (q 51))) rfl (c (gd 52 (fo 1002 9 [7] hN underlying35 9 tyS32 (q 2))) rfl (c (gd 52 (la hN 35 tyS32 (q 53))) rfl (c (gd 52 (fo 1003 9 [7] hN underlying35 9 tyS32 (q 3))) rfl (c (gd 52 (la hN 35 tyS32 (q 55))) rfl (cg (gd 52 (cf hB fnOk75 (A2b a0.fLarge a1.fLarge r16 hr16) (L rfl) (OpdL.cons (q 54) (OpdL.cons (q 56) OpdL.nil)))) rfl (c (pickT (L rfl) (q 52) (q 57)) rfl (c (OpJ.val (v':=.d (.bool true)) (by rw [hg17]<;>rfl) (mv hN (q 58))) rfl (c (gd 59 (fo 1002 10 [8] hN underlying35 10 tyS33 (q 2))) rfl (c (gd 59 (la hN 35 tyS33 (q 60))) rfl (c (gd 59 (fo 1003 10 [8] hN underlying35 10 tyS33 (q 3))) rfl (c (gd 59 (la hN 35 tyS33 (q 62))) rfl (cg (gd 59 (cf hB fnOk76 (A5x a0.fOther a1.fOther r18 hr18) (L rfl) (OpdL.cons (q 61) (OpdL.cons (q 63) OpdL.nil)))) rfl (c (pickT (L rfl) (q 59) (q 64)) rfl (c (assign (L rfl) (q 65)) rfl cn))))))))))))))))))))))))))))))))))))))))))))))))))))))))))))))
      exact hjj10 _ h _ _ (mp [] _ _ hB)
     ·have h:=A6 hg17 h
      apply rg (c (fo 1002 0 [0] hN underlying35 0 tyS3 (q 2)) rfl (c (la hN 35 tyS3 (q 5)) rfl (c (fo 1003 0 [0] hN underlying35 0 tyS3 (q 3)) rfl (c (la hN 35 tyS3 (q 7)) rfl (c (eqlI (L rfl) (q 6) (q 8)) rfl (c (OpJ.val (v':=.d (.bool true)) (by rw [hg11]<;>rfl) (mv hN (q 9))) rfl (c (gd 10 (fo 1002 1 [1] hN underlying35 1 tyS30 (q 2))) rfl (c (gd 10 (la hN 35 tyS30 (q 11))) rfl (c (gd 10 (fo 1003 1 [1] hN underlying35 1 tyS30 (q 3))) rfl (c (gd 10 (la hN 35 tyS30 (q 13))) rfl (cg (gd 10 (cf hB fnOk73 (A14 a0.fPath a1.fPath r12 hr12) (L rfl) (OpdL.cons (q 12) (OpdL.cons (q 14) OpdL.nil)))) rfl (c (pickT (L rfl) (q 10) (q 15)) rfl (c (mv hN (q 16)) rfl (c (oq hN 17 (fo 1002 2 [2] hN underlying35 2 tyS27 (q 2)) (OptL.keep (by rfl) OptL.nil) (GuardV.plain _)) rfl (c (oq hN 17 (la hN 35 tyS27 (q 18)) (OptL.opt OptL.nil) (GuardV.plain _)) rfl (c (oq hN 17 (fo 1003 2 [2] hN underlying35 2 tyS27 (q 3)) (OptL.keep (by rfl) OptL.nil) (GuardV.plain _)) rfl (c (oq hN 17 (la hN 35 tyS27 (q 20)) (OptL.opt OptL.nil) (GuardV.plain _)) rfl (c (oq hN 17 (OpJ.eqlD (h:=2) (feq27 a0.fNext a1.fNext) eqg27 ⟨rfl,rfl⟩ (by rfl) (L rfl) (q 19) (q 21)) (OptL.opt (OptL.opt OptL.nil)) (GuardV.plain _)) rfl (c (pickAnd rfl (L rfl) (q 17) (q 22)) rfl (c (mv hN (q 23)) rfl (c (oq hN 24 (fo 1002 5 [3] hN underlying35 5 tyS3 (q 2)) (OptL.keep (by rfl) OptL.nil) (GuardV.plain _)) rfl (c (oq hN 24 (la hN 35 tyS3 (q 25)) (OptL.opt OptL.nil) (GuardV.plain _)) rfl (c (oq hN 24 (fo 1003 5 [3] hN underlying35 5 tyS3 (q 3)) (OptL.keep (by rfl) OptL.nil) (GuardV.plain _)) rfl (c (oq hN 24 (la hN 35 tyS3 (q 27)) (OptL.opt OptL.nil) (GuardV.plain _)) rfl (c (oq hN 24 (eqlI (L rfl) (q 26) (q 28)) (OptL.opt (OptL.opt OptL.nil)) (GuardV.plain _)) rfl (c (pickAnd rfl (L rfl) (q 24) (q 29)) rfl (c (mv hN (q 30)) rfl (c (oq hN 31 (fo 1002 6 [4] hN underlying35 6 tyS3 (q 2)) (OptL.keep (by rfl) OptL.nil) (GuardV.plain _)) rfl (c (oq hN 31 (la hN 35 tyS3 (q 32)) (OptL.opt OptL.nil) (GuardV.plain _)) rfl (c (oq hN 31 (fo 1003 6 [4] hN underlying35 6 tyS3 (q 3)) (OptL.keep (by rfl) OptL.nil) (GuardV.plain _)) rfl (c (oq hN 31 (la hN 35 tyS3 (q 34)) (OptL.opt OptL.nil) (GuardV.plain _)) rfl (c (oq hN 31 (eqlI (L rfl) (q 33) (q 35)) (OptL.opt (OptL.opt OptL.nil)) (GuardV.plain _)) rfl (c (pickAnd rfl (L rfl) (q 31) (q 36)) rfl (c (mv hN (q 37)) rfl (c (oq hN 38 (fo 1002 7 [5] hN underlying35 7 tyS3 (q 2)) (OptL.keep (by rfl) OptL.nil) (GuardV.plain _)) rfl (c (oq hN 38 (la hN 35 tyS3 (q 39)) (OptL.opt OptL.nil) (GuardV.plain _)) rfl (c (oq hN 38 (fo 1003 7 [5] hN underlying35 7 tyS3 (q 3)) (OptL.keep (by rfl) OptL.nil) (GuardV.plain _)) rfl (c (oq hN 38 (la hN 35 tyS3 (q 41)) (OptL.opt OptL.nil) (GuardV.plain _)) rfl (c (oq hN 38 (eqlI (L rfl) (q 40) (q 42)) (OptL.opt (OptL.opt OptL.nil)) (GuardV.plain _)) rfl (c (pickAnd rfl (L rfl) (q 38) (q 43)) rfl (c (OpJ.val (v':=.d (.bool true)) (by rw [hg13]<;>rfl) (mv hN (q 44))) rfl (c (gd 45 (fo 1002 8 [6] hN underlying35 8 tyS31 (q 2))) rfl (c (gd 45 (la hN 35 tyS31 (q 46))) rfl (c (gd 45 (fo 1003 8 [6] hN underlying35 8 tyS31 (q 3))) rfl (c (gd 45 (la hN 35 tyS31 (q 48))) rfl (cg (gd 45 (cf hB fnOk74 (A2v a0.fCommunities a1.fCommunities r14 hr14) (L rfl) (OpdL.cons (q 47) (OpdL.cons (q 49) OpdL.nil)))) rfl (c (pickT (L rfl) (q 45) (q 50)) rfl (c (OpJ.val (v':=.d (.bool true)) (by rw [hg15]<;>rfl) (mv hN (q 51))) rfl (c (gd 52 (fo 1002 9 [7] hN underlying35 9 tyS32 (q 2))) rfl (c (gd 52 (la hN 35 tyS32 (q 53))) rfl (c (gd 52 (fo 1003 9 [7] hN underlying35 9 tyS32 (q 3))) rfl (c (gd 52 (la hN 35 tyS32 (q 55))) rfl (cg (gd 52 (cf hB fnOk75 (A2b a0.fLarge a1.fLarge r16 hr16) (L rfl) (OpdL.cons (q 54) (OpdL.cons (q 56) OpdL.nil)))) rfl (c (pickT (L rfl) (q 52) (q 57)) rfl (c (OpJ.val (v':=.d (.bool false)) (by rw [hg17]<;>rfl) (mv hN (q 58))) rfl (ks 59 (L rfl) (ks 59 (L rfl) (ks 59 (L rfl) (ks 59 (L rfl) (ks 59 (L rfl) (c (pickF (L rfl) (q 59) (Opd.bool false)) rfl (c (assign (L rfl) (q 65)) rfl cn))))))))))))))))))))))))))))))))))))))))))))))))))))))))))))))
      exact hjj10 _ h _ _ (mp [] _ _ hB)
    ·have h:=A6 hg15 h
     apply rg (c (fo 1002 0 [0] hN underlying35 0 tyS3 (q 2)) rfl (c (la hN 35 tyS3 (q 5)) rfl (c (fo 1003 0 [0] hN underlying35 0 tyS3 (q 3)) rfl (c (la hN 35 tyS3 (q 7)) rfl (c (eqlI (L rfl) (q 6) (q 8)) rfl (c (OpJ.val (v':=.d (.bool true)) (by rw [hg11]<;>rfl) (mv hN (q 9))) rfl (c (gd 10 (fo 1002 1 [1] hN underlying35 1 tyS30 (q 2))) rfl (c (gd 10 (la hN 35 tyS30 (q 11))) rfl (c (gd 10 (fo 1003 1 [1] hN underlying35 1 tyS30 (q 3))) rfl (c (gd 10 (la hN 35 tyS30 (q 13))) rfl (cg (gd 10 (cf hB fnOk73 (A14 a0.fPath a1.fPath r12 hr12) (L rfl) (OpdL.cons (q 12) (OpdL.cons (q 14) OpdL.nil)))) rfl (c (pickT (L rfl) (q 10) (q 15)) rfl (c (mv hN (q 16)) rfl (c (oq hN 17 (fo 1002 2 [2] hN underlying35 2 tyS27 (q 2)) (OptL.keep (by rfl) OptL.nil) (GuardV.plain _)) rfl (c (oq hN 17 (la hN 35 tyS27 (q 18)) (OptL.opt OptL.nil) (GuardV.plain _)) rfl (c (oq hN 17 (fo 1003 2 [2] hN underlying35 2 tyS27 (q 3)) (OptL.keep (by rfl) OptL.nil) (GuardV.plain _)) rfl (c (oq hN 17 (la hN 35 tyS27 (q 20)) (OptL.opt OptL.nil) (GuardV.plain _)) rfl (c (oq hN 17 (OpJ.eqlD (h:=2) (feq27 a0.fNext a1.fNext) eqg27 ⟨rfl,rfl⟩ (by rfl) (L rfl) (q 19) (q 21)) (OptL.opt (OptL.opt OptL.nil)) (GuardV.plain _)) rfl (c (pickAnd rfl (L rfl) (q 17) (q 22)) rfl (c (mv hN (q 23)) rfl (c (oq hN 24 (fo 1002 5 [3] hN underlying35 5 tyS3 (q 2)) (OptL.keep (by rfl) OptL.nil) (GuardV.plain _)) rfl (c (oq hN 24 (la hN 35 tyS3 (q 25)) (OptL.opt OptL.nil) (GuardV.plain _)) rfl (c (oq hN 24 (fo 1003 5 [3] hN underlying35 5 tyS3 (q 3)) (OptL.keep (by rfl) OptL.nil) (GuardV.plain _)) rfl (c (oq hN 24 (la hN 35 tyS3 (q 27)) (OptL.opt OptL.nil) (GuardV.plain _)) rfl (c (oq hN 24 (eqlI (L rfl) (q 26) (q 28)) (OptL.opt (OptL.opt OptL.nil)) (GuardV.plain _)) rfl (c (pickAnd rfl (L rfl) (q 24) (q 29)) rfl (c (mv hN (q 30)) rfl (c (oq hN 31 (fo 1002 6 [4] hN underlying35 6 tyS3 (q 2)) (OptL.keep (by rfl) OptL.nil) (GuardV.plain _)) rfl (c (oq hN 31 (la hN 35 tyS3 (q 32)) (OptL.opt OptL.nil) (GuardV.plain _)) rfl (c (oq hN 31 (fo 1003 6 [4] hN underlying35 6 tyS3 (q 3)) (OptL.keep (by rfl) OptL.nil) (GuardV.plain _)) rfl (c (oq hN 31 (la hN 35 tyS3 (q 34)) (OptL.opt OptL.nil) (GuardV.plain _)) rfl (c (oq hN 31 (eqlI (L rfl) (q 33) (q 35)) (OptL.opt (OptL.opt OptL.nil)) (GuardV.plain _)) rfl (c (pickAnd rfl (L rfl) (q 31) (q 36)) rfl (c (mv hN (q 37)) rfl (c (oq hN 38 (fo 1002 7 [5] hN underlying35 7 tyS3 (q 2)) (OptL.keep (by rfl) OptL.nil) (GuardV.plain _)) rfl (c (oq hN 38 (la hN 35 tyS3 (q 39)) (OptL.opt OptL.nil) (GuardV.plain _)) rfl (c (oq hN 38 (fo 1003 7 [5] hN underlying35 7 tyS3 (q 3)) (OptL.keep (by rfl) OptL.nil) (GuardV.plain _)) rfl (c (oq hN 38 (la hN 35 tyS3 (q 41)) (OptL.opt OptL.nil) (GuardV.plain _)) rfl (c (oq hN 38 (eqlI (L rfl) (q 40) (q 42)) (OptL.opt (OptL.opt OptL.nil)) (GuardV.plain _)) rfl (c (pickAnd rfl (L rfl) (q 38) (q 43)) rfl (c (OpJ.val (v':=.d (.bool true)) (by rw [hg13]<;>rfl) (mv hN (q 44))) rfl (c (gd 45 (fo 1002 8 [6] hN underlying35 8 tyS31 (q 2))) rfl (c (gd 45 (la hN 35 tyS31 (q 46))) rfl (c (gd 45 (fo 1003 8 [6] hN underlying35 8 tyS31 (q 3))) rfl (c (gd 45 (la hN 35 tyS31 (q 48))) rfl (cg (gd 45 (cf hB fnOk74 (A2v a0.fCommunities a1.fCommunities r14 hr14) (L rfl) (OpdL.cons (q 47) (OpdL.cons (q 49) OpdL.nil)))) rfl (c (pickT (L rfl) (q 45) (q 50)) rfl (c (OpJ.val (v':=.d (.bool false)) (by rw [hg15]<;>rfl) (mv hN (q 51))) rfl (ks 52 (L rfl) (ks 52 (L rfl) (ks 52 (L rfl) (ks 52 (L rfl) (ks 52 (L rfl) (c (pickF (L rfl) (q 52) (Opd.bool false)) rfl (c (mv hN (q 58)) rfl (ks 59 (L rfl) (ks 59 (L rfl) (ks 59 (L rfl) (ks 59 (L rfl) (ks 59 (L rfl) (c (pickF (L rfl) (q 59) (Opd.bool false)) rfl (c (assign (L rfl) (q 65)) rfl cn))))))))))))))))))))))))))))))))))))))))))))))))))))))))))))))
     exact hjj10 _ h _ _ (mp [] _ _ hB)
   ·have h:=A6 hg13 h
    apply rg (c (fo 1002 0 [0] hN underlying35 0 tyS3 (q 2)) rfl (c (la hN 35 tyS3 (q 5)) rfl (c (fo 1003 0 [0] hN underlying35 0 tyS3 (q 3)) rfl (c (la hN 35 tyS3 (q 7)) rfl (c (eqlI (L rfl) (q 6) (q 8)) rfl (c (OpJ.val (v':=.d (.bool true)) (by rw [hg11]<;>rfl) (mv hN (q 9))) rfl (c (gd 10 (fo 1002 1 [1] hN underlying35 1 tyS30 (q 2))) rfl (c (gd 10 (la hN 35 tyS30 (q 11))) rfl (c (gd 10 (fo 1003 1 [1] hN underlying35 1 tyS30 (q 3))) rfl (c (gd 10 (la hN 35 tyS30 (q 13))) rfl (cg (gd 10 (cf hB fnOk73 (A14 a0.fPath a1.fPath r12 hr12) (L rfl) (OpdL.cons (q 12) (OpdL.cons (q 14) OpdL.nil)))) rfl (c (pickT (L rfl) (q 10) (q 15)) rfl (c (mv hN (q 16)) rfl (c (oq hN 17 (fo 1002 2 [2] hN underlying35 2 tyS27 (q 2)) (OptL.keep (by rfl) OptL.nil) (GuardV.plain _)) rfl (c (oq hN 17 (la hN 35 tyS27 (q 18)) (OptL.opt OptL.nil) (GuardV.plain _)) rfl (c (oq hN 17 (fo 1003 2 [2] hN underlying35 2 tyS27 (q 3)) (OptL.keep (by rfl) OptL.nil) (GuardV.plain _)) rfl (c (oq hN 17 (la hN 35 tyS27 (q 20)) (OptL.opt OptL.nil) (GuardV.plain _)) rfl (c (oq hN 17 (OpJ.eqlD (h:=2) (feq27 a0.fNext a1.fNext) eqg27 ⟨rfl,rfl⟩ (by rfl) (L rfl) (q 19) (q 21)) (OptL.opt (OptL.opt OptL.nil)) (GuardV.plain _)) rfl (c (pickAnd rfl (L rfl) (q 17) (q 22)) rfl (c (mv hN (q 23)) rfl (c (oq hN 24 (fo 1002 5 [3] hN underlying35 5 tyS3 (q 2)) (OptL.keep (by rfl) OptL.nil) (GuardV.plain _)) rfl (c (oq hN 24 (la hN 35 tyS3 (q 25)) (OptL.opt OptL.nil) (GuardV.plain _)) rfl (c (oq hN 24 (fo 1003 5 [3] hN underlying35 5 tyS3 (q 3)) (OptL.keep (by rfl) OptL.nil) (GuardV.plain _)) rfl (c (oq hN 24 (la hN 35 tyS3 (q 27)) (OptL.opt OptL.nil) (GuardV.plain _)) rfl (c (oq hN 24 (eqlI (L rfl) (q 26) (q 28)) (OptL.opt (OptL.opt OptL.nil)) (GuardV.plain _)) rfl (c (pickAnd rfl (L rfl) (q 24) (q 29)) rfl (c (mv hN (q 30)) rfl (c (oq hN 31 (fo 1002 6 [4] hN underlying35 6 tyS3 (q 2)) (OptL.keep (by rfl) OptL.nil) (GuardV.plain _)) rfl (c (oq hN 31 (la hN 35 tyS3 (q 32)) (OptL.opt OptL.nil) (GuardV.plain _)) rfl (c (oq hN 31 (fo 1003 6 [4] hN underlying35 6 tyS3 (q 3)) (OptL.keep (by rfl) OptL.nil) (GuardV.plain _)) rfl (c (oq hN 31 (la hN 35 tyS3 (q 34)) (OptL.opt OptL.nil) (GuardV.plain _)) rfl (c (oq hN 31 (eqlI (L rfl) (q 33) (q 35)) (OptL.opt (OptL.opt OptL.nil)) (GuardV.plain _)) rfl (c (pickAnd rfl (L rfl) (q 31) (q 36)) rfl (c (mv hN (q 37)) rfl (c (oq hN 38 (fo 1002 7 [5] hN underlying35 7 tyS3 (q 2)) (OptL.keep (by rfl) OptL.nil) (GuardV.plain _)) rfl (c (oq hN 38 (la hN 35 tyS3 (q 39)) (OptL.opt OptL.nil) (GuardV.plain _)) rfl (c (oq hN 38 (fo 1003 7 [5] hN underlying35 7 tyS3 (q 3)) (OptL.keep (by rfl) OptL.nil) (GuardV.plain _)) rfl (c (oq hN 38 (la hN 35 tyS3 (q 41)) (OptL.opt OptL.nil) (GuardV.plain _)) rfl (c (oq hN 38 (eqlI (L rfl) (q 40) (q 42)) (OptL.opt (OptL.opt OptL.nil)) (GuardV.plain _)) rfl (c (pickAnd rfl (L rfl) (q 38) (q 43)) rfl (c (OpJ.val (v':=.d (.bool false)) (by rw [hg13]<;>rfl) (mv hN (q 44))) rfl (ks 45 (L rfl) (ks 45 (L rfl) (ks 45 (L rfl) (ks 45 (L rfl) (ks 45 (L rfl) (c (pickF (L rfl) (q 45) (Opd.bool false)) rfl (c (mv hN (q 51)) rfl (ks 52 (L rfl) (ks 52 (L rfl) (ks 52 (L rfl) (ks 52 (L rfl) (ks 52 (L rfl) (c (pickF (L rfl) (q 52) (Opd.bool false)) rfl (c (mv hN (q 58)) rfl (ks 59 (L rfl) (ks 59 (L rfl) (ks 59 (L rfl) (ks 59 (L rfl) (ks 59 (L rfl) (c (pickF (L rfl) (q 59) (Opd.bool false)) rfl (c (assign (L rfl) (q 65)) rfl cn))))))))))))))))))))))))))))))))))))))))))))))))))))))))))))))
    exact hjj10 _ h _ _ (mp [] _ _ hB)
  ·have h:=A6 hg11 h
   apply rg (c (fo 1002 0 [0] hN underlying35 0 tyS3 (q 2)) rfl (c (la hN 35 tyS3 (q 5)) rfl (c (fo 1003 0 [0] hN underlying35 0 tyS3 (q 3)) rfl (c (la hN 35 tyS3 (q 7)) rfl (c (eqlI (L rfl) (q 6) (q 8)) rfl (c (OpJ.val (v':=.d (.bool false)) (by rw [hg11]<;>rfl) (mv hN (q 9))) rfl (ks 10 (L rfl) (ks 10 (L rfl) (ks 10 (L rfl) (ks 10 (L rfl) (ks 10 (L rfl) (c (pickF (L rfl) (q 10) (Opd.bool false)) rfl (c (mv hN (q 16)) rfl (ks 17 (L rfl) (ks 17 (L rfl) (ks 17 (L rfl) (ks 17 (L rfl) (ks 17 (L rfl) (c (pickF (L rfl) (q 17) (Opd.bool false)) rfl (c (mv hN (q 23)) rfl (ks 24 (L rfl) (ks 24 (L rfl) (ks 24 (L rfl) (ks 24 (L rfl) (ks 24 (L rfl) (c (pickF (L rfl) (q 24) (Opd.bool false)) rfl (c (mv hN (q 30)) rfl (ks 31 (L rfl) (ks 31 (L rfl) (ks 31 (L rfl) (ks 31 (L rfl) (ks 31 (L rfl) (c (pickF (L rfl) (q 31) (Opd.bool false)) rfl (c (mv hN (q 37)) rfl (ks 38 (L rfl) (ks 38 (L rfl) (ks 38 (L rfl) (ks 38 (L rfl) (ks 38 (L rfl) (c (pickF (L rfl) (q 38) (Opd.bool false)) rfl (c (mv hN (q 44)) rfl (ks 45 (L rfl) (ks 45 (L rfl) (ks 45 (L rfl) (ks 45 (L rfl) (ks 45 (L rfl) (c (pickF (L rfl) (q 45) (Opd.bool false)) rfl (c (mv hN (q 51)) rfl (ks 52 (L rfl) (ks 52 (L rfl) (ks 52 (L rfl) (ks 52 (L rfl) (ks 52 (L rfl) (c (pickF (L rfl) (q 52) (Opd.bool false)) rfl (c (mv hN (q 58)) rfl (ks 59 (L rfl) (ks 59 (L rfl) (ks 59 (L rfl) (ks 59 (L rfl) (ks 59 (L rfl) (c (pickF (L rfl) (q 59) (Opd.bool false)) rfl (c (assign (L rfl) (q 65)) rfl cn))))))))))))))))))))))))))))))))))))))))))))))))))))))))))))))
   exact hjj10 _ h _ _ (mp [] _ _ hB)
def Y5 (a0:Int):Option (Int) :=
 jn (fun m4:Bool =>
 (if m4=true then
 some 64
 else
 (if (a0==4)=true then
 some 128
 else
 jn (fun m10:Bool =>
 (if m10=true then
 some 192
 else
 some 0)) (fun j11 =>
 (if (a0==8)=true then
 j11 (a0==8)
 else
 (if (a0==32)=true then
 j11 (a0==32)
 else
 j11 (a0==35))))))) (fun j5 =>
 (if (a0==1)=true then
 j5 (a0==1)
 else
 (if (a0==2)=true then
 j5 (a0==2)
 else
 (if (a0==3)=true then
 j5 (a0==3)
 else
 j5 (a0==5)))))
theorem A4g (a0:Int) (r:Int) (h:Y5 a0=some r):AC Tryz.prog 101 [(.d (.int .i64 a0))] [] (.d (.int .i64 r)) []:=by
 refine ac2 Tryz.func101 rfl rfl fun B hB hN L => ?_
 delta Y5 at h
 refine sr (SQ tt) ?_
 apply seq
 refine sr (SQ tt) ?_
 apply block
 apply seq
 refine sr (SQ tt) ?_
 refine gh [(3,_),(4,_)] [] hB rfl rfl (by rfl) ?_
 refine AWp.cut h (fun m4:Bool=>([(3,(i6 a0)),(4,(bo m4))]:EL)) (fun m4:Bool=>([]:OL)) (fun m4 h E' O' hmat => ?_) (fun j5 hjj5 h => ?_)
 ·apply A0
  refine ghost hmat ?_
  apply AWp.cond rfl<;>intro hg6
  ·have h:=A5 hg6 h
   refine sr (SQ tt) ?_
   apply ret
   apply D7
   apply B9
   obtain rfl:=oi h
   exact rt (kp [(2,_)] [] hB rfl rfl (by rfl)) [(i6 64)] (rT rN) rfl
  ·have h:=A6 hg6 h
   refine sr (SQ tt) ?_
   apply AWp.cond rfl<;>intro hg7
   ·have h:=A5 hg7 h
    refine sr (SQ tt) ?_
    apply ret
    apply D7
    apply B9
    obtain rfl:=oi h
    exact rt (kp [(2,_)] [] hB rfl rfl (by rfl)) [(i6 128)] (rT rN) rfl
   ·have h:=A6 hg7 h
    apply seq
    refine sr (SQ tt) ?_
    refine gh [(3,_),(11,_)] [] hB rfl rfl (by rfl) ?_
    refine AWp.cut h (fun m10:Bool=>([(11,(bo m10))]:EL)) (fun m10:Bool=>([]:OL)) (fun m10 h E' O' hmat => ?_) (fun j11 hjj11 h => ?_)
    ·apply A0
     refine ghost hmat ?_
     apply AWp.cond rfl<;>intro hg12
     ·have h:=A5 hg12 h
      refine sr (SQ tt) ?_
      apply ret
      apply D7
      apply B9
      obtain rfl:=oi h
      exact rt (kp [(2,_)] [] hB rfl rfl (by rfl)) [(i6 192)] (rT rN) rfl
     ·have h:=A6 hg12 h
      apply AWp.skip
      apply E4
      apply A0
      refine sr (SQ tt) ?_
      apply ret
      obtain rfl:=oi h
      exact rt (kp [(2,_)] [] hB rfl rfl (by rfl)) [(i6 0)] (rT rN) rfl
    ·apply AWp.cond rfl<;>intro hg13
     ·have h:=A5 hg13 h
      apply AWp.skip
      exact hjj11 _ h _ _ (mp [] _ _ hB)
     ·have h:=A6 hg13 h
      refine sr (SQ tt) ?_
      apply AWp.cond rfl<;>intro hg14
      ·have h:=A5 hg14 h
       apply AWp.skip
       exact hjj11 _ h _ _ (mp [] _ _ hB)
      ·have h:=A6 hg14 h
       refine rg (SQ tt) ?_
       exact hjj11 _ h _ _ (mp [] _ _ hB)
 ·apply AWp.cond rfl<;>intro hg15
  ·have h:=A5 hg15 h
   apply AWp.skip
   exact hjj5 _ h _ _ (mp [] _ _ hB)
  ·have h:=A6 hg15 h
   refine sr (SQ tt) ?_
   apply AWp.cond rfl<;>intro hg16
   ·have h:=A5 hg16 h
    apply AWp.skip
    exact hjj5 _ h _ _ (mp [] _ _ hB)
   ·have h:=A6 hg16 h
    refine sr (SQ tt) ?_
    apply AWp.cond rfl<;>intro hg17
    ·have h:=A5 hg17 h
     apply AWp.skip
     exact hjj5 _ h _ _ (mp [] _ _ hB)
    ·have h:=A6 hg17 h
     refine rg (SQ tt) ?_
     exact hjj5 _ h _ _ (mp [] _ _ hB)
def A2w (a0:Int):Option (Bool) :=
 (Y5 a0).bind fun r1 =>
 some (((r1==0)&&(a0 != 14))&&(a0 != 15))
theorem A16 (a0:Int) (r:Bool) (h:A2w a0=some r):AC Tryz.prog 77 [(.d (.int .i64 a0))] [] (.d (.bool r)) []:=by
 refine AC.of_code2 Tryz.func77 rfl rfl (Nat.le_of_ble_eq_true (by rfl)) fun B hB hN => ?_
 delta A2w at h
 refine sr (SQ tt) ?_
 obtain⟨r1,hr1,h⟩:=bindS h
 refine sr (SQ (fa (cl [] (A4g a0 r1 hr1)) tt)) ?_
 apply ret
 obtain rfl:=oi h
 exact rt (kp [(2,_)] [] hB rfl rfl (by rfl)) [(bo (((r1==0)&&(a0 != 14))&&(a0 != 15)))] (rT rN) rfl
def U0 (x105:B8) (s112:Int):Option (((Unit)⊕(Unit))⊕(Int)) :=
 (if (decide (s112<(x105.fASNs.length:Int)))=true then
 (idx x105.fASNs s112).bind fun x138 =>
 jn (fun m142:Bool =>
 (if m142=true then
 some (.inl (.inl ()))
 else
 some (.inr (w64 (s112+1))))) (fun j143 =>
 (if ((decide (x138<1)) || (decide (4294967295<x138)))=true then
 j143 true
 else
 (if (x105.fSet&&(decide (0<s112)))=true then
 (idx x105.fASNs (w64 (s112-1))).bind fun x147 =>
 j143 (decide (x138≤x147))
 else
 j143 false)))
 else
 some (.inl (.inr ())))
def U1 (a0:(List B8)) (s1:Int×Int):Option (((Unit)⊕(Int))⊕(Int×Int)) :=
 (if (decide (s1.2<(a0.length:Int)))=true then
 (idx a0 s1.2).bind fun x105 =>
 jn (fun m109:Bool =>
 (if m109=true then
 some (.inl (.inl ()))
 else
 (loop (U0 x105) 0).bind fun x148=>match x148 with
 | (.inl _) =>
  some (.inl (.inl ()))
 | (.inr _) =>
  some (.inr ((w64 (s1.1+(x105.fASNs.length:Int))),(w64 (s1.2+1)))))) (fun j110 =>
 (if ((x105.fASNs.length:Int)==0)=true then
 j110 true
 else
 (if ((decide (0<s1.2))&&(!x105.fSet))=true then
 (idx a0 (w64 (s1.2-1))).bind fun x152 =>
 j110 (!x152.fSet)
 else
 j110 false)))
 else
 some (.inl (.inr s1.1)))
def A17 (a0:(List B8)):Option (Bool) :=
 (loop (U1 a0) (0,0)).bind fun x153=>match x153 with
 | (.inl _) =>
  some false
 | (.inr p103) =>
  some (decide (p103≤64))
theorem M5 (a0:(List B8)) (r:Bool) (h:A17 a0=some r):AC Tryz.prog 71 [(.d (.list 2 (a0.map C4)))] [] (.d (.bool r)) []:=by
 refine ac2 Tryz.func71 rfl rfl fun B hB hN L => ?_
 delta A17 at h
 refine sr (SQ tt) ?_
 refine sr (SQ tt) ?_
 apply seq
 refine sr (SQ tt) ?_
 apply block
 obtain⟨x153,hx154,h⟩:=bindS h
 refine lg (U1 a0) (fun s1:Int×Int=>([(0,(B0 a0)),(3,(i6 s1.1)),(8,(B0 a0)),(9,(i6 (a0.length:Int))),(10,(i6 s1.2))]:EL)) (fun s1:Int×Int=>([]:OL)) (fun(x:(Unit)⊕(Int)) e E' O'=>match x with | (.inl _p)=>e = .ret∧Mat B E' O' ([(2,(bo false))]:EL) ([]:OL) | (.inr p103)=>e = .exit 0∧Mat B E' O' ([(3,(i6 p103))]:EL) ([]:OL)) hx154 (mp [] _ _ hB) (fun s1 y h => ?_) (fun e E' O' hR => ?_)
 ·unfold U1 at h
  refine sr (SQ tt) ?_
  apply seq
  apply AWp.cond rfl<;>intro hg104
  ·have h:=A5 hg104 h
   apply AWp.skip
   apply A0
   apply seq
   apply block
   obtain⟨x105,hx105,h⟩:=bindS h
   refine sr (SQ (fa hx105 tt)) ?_
   apply seq
   apply seq
   refine AWp.cut h (fun m109:Bool=>([(0,(B0 a0)),(3,(i6 s1.1)),(5,(pt 1005)),(8,(B0 a0)),(9,(i6 (a0.length:Int))),(10,(i6 s1.2)),(36,(bo m109))]:EL)) (fun m109:Bool=>([(1005,bd 66 (C4 x105))]:OL)) (fun m109 h E' O' hmat => ?_) (fun j110 hjj110 h => ?_)
   ·apply A0
    refine ghost hmat ?_
    apply AWp.cond rfl<;>intro hg111
    ·have h:=A5 hg111 h
     refine sr (SQ tt) ?_
     apply ret
     apply B9
     apply D7
     apply B9
     obtain rfl:=oi h
     exact⟨(fun hc=>by cases hc),rfl,(mp [] _ _ hB)⟩
    ·have h:=A6 hg111 h
     apply AWp.skip
     apply A0
     apply seq
     refine sr (SQ tt) ?_
     apply block
     obtain⟨x148,hx149,h⟩:=bindS h
     refine lg (U0 x105) (fun s112:Int=>([(0,(B0 a0)),(3,(i6 s1.1)),(5,(pt 1005)),(8,(B0 a0)),(9,(i6 (a0.length:Int))),(10,(i6 s1.2)),(38,(qI_1 x105.fASNs)),(39,(i6 (x105.fASNs.length:Int))),(40,(i6 s112))]:EL)) (fun s112:Int=>([(1005,bd 66 (C4 x105))]:OL)) (fun(x:(Unit)⊕(Unit)) e E' O'=>match x with | (.inl _p)=>e = .ret∧Mat B E' O' ([(2,(bo false))]:EL) ([]:OL) | (.inr _p)=>e = .exit 2∧Mat B E' O' ([(0,(B0 a0)),(3,(i6 s1.1)),(5,(pt 1005)),(8,(B0 a0)),(9,(i6 (a0.length:Int))),(10,(i6 s1.2))]:EL) ([(1005,bd 66 (C4 x105))]:OL)) hx149 (mp [] _ _ hB) (fun s112 y h => ?_) (fun e E' O' hR => ?_)
     ·unfold U0 at h
      refine sr (SQ tt) ?_
      apply seq
      apply AWp.cond rfl<;>intro hg137
      ·have h:=A5 hg137 h
       apply AWp.skip
       apply A0
       apply seq
       apply block
       obtain⟨x138,hx138,h⟩:=bindS h
       refine sr (SQ (fa hx138 tt)) ?_
       apply seq
       refine AWp.cut h (fun m142:Bool=>([(0,(B0 a0)),(3,(i6 s1.1)),(5,(pt 1005)),(8,(B0 a0)),(9,(i6 (a0.length:Int))),(10,(i6 s1.2)),(38,(qI_1 x105.fASNs)),(39,(i6 (x105.fASNs.length:Int))),(40,(i6 s112)),(68,(bo m142))]:EL)) (fun m142:Bool=>([(1005,bd 66 (C4 x105))]:OL)) (fun m142 h E' O' hmat => ?_) (fun j143 hjj143 h => ?_)
       ·apply A0
        refine ghost hmat ?_
        apply AWp.cond rfl<;>intro hg144
        ·have h:=A5 hg144 h
         refine sr (SQ tt) ?_
         apply ret
         apply D7
         apply B9
         obtain rfl:=oi h
         exact⟨(fun hc=>by cases hc),rfl,(mp [] _ _ hB)⟩
        ·have h:=A6 hg144 h
         apply AWp.skip
         apply E4
         apply A0
         refine rg (SQ tt) ?_
         obtain rfl:=oi h
         exact⟨rfl,(mp [] _ _ hB)⟩
       ·rcases bft ((decide (x138<1)) || (decide (4294967295<x138))) with hg145 | hg145
        ·have h:=A5 hg145 h
         refine rg (SQ (fa hg145 tt)) ?_
         exact hjj143 _ h _ _ (mp [] _ _ hB)
        ·have h:=A6 hg145 h
         rcases bft (x105.fSet&&(decide (0<s112))) with hg146 | hg146
         ·have h:=A5 hg146 h
          obtain⟨_,hx147,h⟩:=bindS h
          refine rg (SQ (fa hg145 (fa hg146 (fa hx147 tt)))) ?_
          exact hjj143 _ h _ _ (mp [] _ _ hB)
         ·have h:=A6 hg146 h
          refine rg (SQ (fa hg145 (fa hg146 tt))) ?_
          exact hjj143 _ h _ _ (mp [] _ _ hB)
      ·have h:=A6 hg137 h
       apply AWp.exit
       apply E5
       obtain rfl:=oi h
       exact⟨(fun hc=>by cases hc),rfl,(mp [] _ _ hB)⟩
     ·rcases x148 with _ | _
      ·obtain⟨rfl,hmat⟩:=hR
       apply D7
       apply B9
       apply D7
       apply B9
       obtain rfl:=oi h
       exact⟨(fun hc=>by cases hc),rfl,(Mat.trans hmat (mp [] _ _ hB))⟩
      ·obtain⟨rfl,hmat⟩:=hR
       apply C6
       apply A0
       refine ghost hmat ?_
       refine rg (SQ tt) ?_
       apply E4
       apply A0
       refine rg (SQ tt) ?_
       obtain rfl:=oi h
       exact⟨rfl,(mp [] _ _ hB)⟩
   ·rcases bft ((x105.fASNs.length:Int)==0) with hg150 | hg150
    ·have h:=A5 hg150 h
     refine rg (SQ (fa hg150 tt)) ?_
     exact hjj110 _ h _ _ (mp [] _ _ hB)
    ·have h:=A6 hg150 h
     rcases bft ((decide (0<s1.2))&&(!x105.fSet)) with hg151 | hg151
     ·have h:=A5 hg151 h
      obtain⟨_,hx152,h⟩:=bindS h
      refine rg (SQ (fa hg150 (fa hg151 (fa hx152 tt)))) ?_
      exact hjj110 _ h _ _ (mp [] _ _ hB)
     ·have h:=A6 hg151 h
      refine rg (SQ (fa hg150 (fa hg151 tt))) ?_
      exact hjj110 _ h _ _ (mp [] _ _ hB)
  ·have h:=A6 hg104 h
   apply AWp.exit
   apply E5
   obtain rfl:=oi h
   exact⟨(fun hc=>by cases hc),rfl,(mp [] _ _ hB)⟩
 ·rcases x153 with _ | p103
  ·obtain⟨rfl,hmat⟩:=hR
   apply D7
   apply B9
   obtain rfl:=oi h
   exact rt (Mat.trans hmat (mp [] [(2,(bo false))] [] hB)) [(bo false)] (rT rN) rfl
  ·obtain⟨rfl,hmat⟩:=hR
   apply C6
   apply A0
   refine ghost hmat ?_
   refine sr (SQ tt) ?_
   apply ret
   obtain rfl:=oi h
   exact rt (kp [(2,_)] [] hB rfl rfl (by rfl)) [(bo (decide (p103≤64)))] (rT rN) rfl
def A49 (a0:B4):Option (Bool) :=
 some ((((decide (0≤a0.fA))&&(decide (a0.fA≤65535)))&&(decide (0≤a0.fB)))&&(decide (a0.fB≤65535)))
theorem A27 (a0:B4) (r:Bool) (h:A49 a0=some r):AC Tryz.prog 102 [(.d (B7 a0))] [] (.d (.bool r)) []:=by
 refine AC.of_code2 Tryz.func102 rfl rfl (Nat.le_of_ble_eq_true (by rfl)) fun B hB hN => ?_
 delta A49 at h
 refine sr (SQ tt) ?_
 refine sr (SQ tt) ?_
 apply ret
 obtain rfl:=oi h
 exact rt (kp [(2,_)] [] hB rfl rfl (by rfl)) [(bo ((((decide (0≤a0.fA))&&(decide (a0.fA≤65535)))&&(decide (0≤a0.fB)))&&(decide (a0.fB≤65535))))] (rT rN) rfl
def A59 (a0:B4) (a1:B4):Option (Bool) :=
 jn (fun m2:Bool =>
 some m2) (fun j3 =>
 (if (decide (a0.fA<a1.fA))=true then
 j3 true
 else
 j3 ((a0.fA==a1.fA)&&(decide (a0.fB<a1.fB)))))
theorem A90 (a0:B4) (a1:B4) (r:Bool) (h:A59 a0 a1=some r):AC Tryz.prog 103 [(.d (B7 a0)),(.d (B7 a1))] [] (.d (.bool r)) []:=by
 refine ac2 Tryz.func103 rfl rfl fun B hB hN L => ?_
 delta A59 at h
 refine sr (SQ tt) ?_
 apply seq
 refine AWp.cut h (fun m2:Bool=>([(4,(bo m2))]:EL)) (fun m2:Bool=>([]:OL)) (fun m2 h E' O' hmat => ?_) (fun j3 hjj3 h => ?_)
 ·apply A0
  refine ghost hmat ?_
  apply ret
  obtain rfl:=oi h
  exact rt (kp [(4,_)] [] hB rfl rfl (by rfl)) [(bo m2)] (rT rN) rfl
 ·rcases bft (decide (a0.fA<a1.fA)) with hg4 | hg4
  ·have h:=A5 hg4 h
   refine rg (SQ (fa hg4 tt)) ?_
   exact hjj3 _ h _ _ (mp [] _ _ hB)
  ·have h:=A6 hg4 h
   refine rg (SQ (fa hg4 tt)) ?_
   exact hjj3 _ h _ _ (mp [] _ _ hB)
def Z8 (a0:(List B4)) (s1:Int):Option (((Unit)⊕(Unit))⊕(Int)) :=
 (if (decide (s1<(a0.length:Int)))=true then
 (idx a0 s1).bind fun x37 =>
 jn (fun m44:Bool =>
 (if m44=true then
 some (.inl (.inl ()))
 else
 some (.inr (w64 (s1+1))))) (fun j45 =>
 (A49 x37).bind fun r47 =>
 (if (!r47)=true then
 j45 true
 else
 (if (decide (0<s1))=true then
 (idx a0 (w64 (s1-1))).bind fun x50 =>
 (A59 x50 x37).bind fun r51 =>
 j45 (!r51)
 else
 j45 false)))
 else
 some (.inl (.inr ())))
def Y6 (a0:(List B4)):Option (Bool) :=
 (loop (Z8 a0) 0).bind fun x52=>match x52 with
 | (.inl _) =>
  some false
 | (.inr _) =>
  some (decide ((a0.length:Int)≤64))
theorem Z9 (a0:(List B4)) (r:Bool) (h:Y6 a0=some r):AC Tryz.prog 79 [(.d (.list 2 (a0.map B7)))] [] (.d (.bool r)) []:=by
 refine ac2 Tryz.func79 rfl rfl fun B hB hN L => ?_
 delta Y6 at h
 refine sr (SQ tt) ?_
 apply seq
 refine sr (SQ tt) ?_
 apply block
 obtain⟨x52,hx53,h⟩:=bindS h
 refine lg (Z8 a0) (fun s1:Int=>([(0,(A9 a0)),(5,(A9 a0)),(6,(i6 (a0.length:Int))),(7,(i6 s1))]:EL)) (fun s1:Int=>([]:OL)) (fun(x:(Unit)⊕(Unit)) e E' O'=>match x with | (.inl _p)=>e = .ret∧Mat B E' O' ([(2,(bo false))]:EL) ([]:OL) | (.inr _p)=>e = .exit 0∧Mat B E' O' ([(0,(A9 a0))]:EL) ([]:OL)) hx53 (mp [] _ _ hB) (fun s1 y h => ?_) (fun e E' O' hR => ?_)
 ·unfold Z8 at h
  refine sr (SQ tt) ?_
  apply seq
  apply AWp.cond rfl<;>intro hg36
  ·have h:=A5 hg36 h
   apply AWp.skip
   apply A0
   apply seq
   apply block
   obtain⟨x37,hx37,h⟩:=bindS h
   refine sr (SQ (fa hx37 tt)) ?_
   apply seq
   refine AWp.cut h (fun m44:Bool=>([(0,(A9 a0)),(5,(A9 a0)),(6,(i6 (a0.length:Int))),(7,(i6 s1)),(28,(bo m44))]:EL)) (fun m44:Bool=>([]:OL)) (fun m44 h E' O' hmat => ?_) (fun j45 hjj45 h => ?_)
   ·apply A0
    refine ghost hmat ?_
    apply AWp.cond rfl<;>intro hg46
    ·have h:=A5 hg46 h
     refine sr (SQ tt) ?_
     apply ret
     apply D7
     apply B9
     obtain rfl:=oi h
     exact⟨(fun hc=>by cases hc),rfl,(mp [] _ _ hB)⟩
    ·have h:=A6 hg46 h
     apply AWp.skip
     apply E4
     apply A0
     refine rg (SQ tt) ?_
     obtain rfl:=oi h
     exact⟨rfl,(mp [] _ _ hB)⟩
   ·obtain⟨r47,hr47,h⟩:=bindS h
    rcases bft (!r47) with hg48 | hg48
    ·have h:=A5 hg48 h
     refine drS (SQ (fa (cl [] (A27 x37 r47 hr47)) (fa hg48 tt))) ?_
     exact hjj45 _ h _ _ (mp [] _ _ hB)
    ·have h:=A6 hg48 h
     rcases bft (decide (0<s1)) with hg49 | hg49
     ·have h:=A5 hg49 h
      obtain⟨x50,hx50,h⟩:=bindS h
      obtain⟨r51,hr51,h⟩:=bindS h
      refine drS (SQ (fa (cl [] (A27 x37 r47 hr47)) (fa hg48 (fa hg49 (fa hx50 (fa (cl [] (A90 x50 x37 r51 hr51)) tt)))))) ?_
      exact hjj45 _ h _ _ (mp [] _ _ hB)
     ·have h:=A6 hg49 h
      refine drS (SQ (fa (cl [] (A27 x37 r47 hr47)) (fa hg48 (fa hg49 tt)))) ?_
      exact hjj45 _ h _ _ (mp [] _ _ hB)
  ·have h:=A6 hg36 h
   apply AWp.exit
   apply E5
   obtain rfl:=oi h
   exact⟨(fun hc=>by cases hc),rfl,(mp [] _ _ hB)⟩
 ·rcases x52 with _ | _
  ·obtain⟨rfl,hmat⟩:=hR
   apply D7
   apply B9
   obtain rfl:=oi h
   exact rt (Mat.trans hmat (mp [] [(2,(bo false))] [] hB)) [(bo false)] (rT rN) rfl
  ·obtain⟨rfl,hmat⟩:=hR
   apply C6
   apply A0
   refine ghost hmat ?_
   refine sr (SQ tt) ?_
   apply ret
   obtain rfl:=oi h
   exact rt (kp [(2,_)] [] hB rfl rfl (by rfl)) [(bo (decide ((a0.length:Int)≤64)))] (rT rN) rfl
def A18 (a0:E6):Option (Bool) :=
 some ((((((decide (0≤a0.fA))&&(decide (a0.fA≤4294967295)))&&(decide (0≤a0.fB)))&&(decide (a0.fB≤4294967295)))&&(decide (0≤a0.fC)))&&(decide (a0.fC≤4294967295)))
theorem W9 (a0:E6) (r:Bool) (h:A18 a0=some r):AC Tryz.prog 104 [(.d (D8 a0))] [] (.d (.bool r)) []:=by
 refine ac2 Tryz.func104 rfl rfl fun B hB hN L => ?_
 delta A18 at h
 refine sr (SQ tt) ?_
 refine sr (SQ tt) ?_
 apply ret
 obtain rfl:=oi h
 exact rt (kp [(2,_)] [] hB rfl rfl (by rfl)) [(bo ((((((decide (0≤a0.fA))&&(decide (a0.fA≤4294967295)))&&(decide (0≤a0.fB)))&&(decide (a0.fB≤4294967295)))&&(decide (0≤a0.fC)))&&(decide (a0.fC≤4294967295))))] (rT rN) rfl
def A1h (a0:E6) (a1:E6):Option (Bool) :=
 jn (fun m4:Bool =>
 some m4) (fun j5 =>
 (if (decide (a0.fA<a1.fA))=true then
 j5 true
 else
 (if (a0.fA==a1.fA)=true then
 (if (decide (a0.fB<a1.fB))=true then
 j5 true
 else
 j5 ((a0.fB==a1.fB)&&(decide (a0.fC<a1.fC))))
 else
 j5 false)))
theorem A5l (a0:E6) (a1:E6) (r:Bool) (h:A1h a0 a1=some r):AC Tryz.prog 105 [(.d (D8 a0)),(.d (D8 a1))] [] (.d (.bool r)) []:=by
 refine ac2 Tryz.func105 rfl rfl fun B hB hN L => ?_
 delta A1h at h
 refine sr (SQ tt) ?_
 apply seq
 refine AWp.cut h (fun m4:Bool=>([(4,(bo m4))]:EL)) (fun m4:Bool=>([]:OL)) (fun m4 h E' O' hmat => ?_) (fun j5 hjj5 h => ?_)
 ·apply A0
  refine ghost hmat ?_
  apply ret
  obtain rfl:=oi h
  exact rt (kp [(4,_)] [] hB rfl rfl (by rfl)) [(bo m4)] (rT rN) rfl
 ·rcases bft (decide (a0.fA<a1.fA)) with hg6 | hg6
  ·have h:=A5 hg6 h
   refine rg (SQ (fa hg6 tt)) ?_
   exact hjj5 _ h _ _ (mp [] _ _ hB)
  ·have h:=A6 hg6 h
   rcases bft (a0.fA==a1.fA) with hg7 | hg7
   ·have h:=A5 hg7 h
    rcases bft (decide (a0.fB<a1.fB)) with hg8 | hg8
    ·have h:=A5 hg8 h
     refine rg (SQ (fa hg6 (fa hg7 (fa hg8 tt)))) ?_
     exact hjj5 _ h _ _ (mp [] _ _ hB)
    ·have h:=A6 hg8 h
     refine rg (SQ (fa hg6 (fa hg7 (fa hg8 tt)))) ?_
     exact hjj5 _ h _ _ (mp [] _ _ hB)
   ·have h:=A6 hg7 h
    refine rg (SQ (fa hg6 (fa hg7 tt))) ?_
    exact hjj5 _ h _ _ (mp [] _ _ hB)
def Q1 (a0:(List E6)) (s1:Int):Option (((Unit)⊕(Unit))⊕(Int)) :=
 (if (decide (s1<(a0.length:Int)))=true then
 (idx a0 s1).bind fun x37 =>
 jn (fun m44:Bool =>
 (if m44=true then
 some (.inl (.inl ()))
 else
 some (.inr (w64 (s1+1))))) (fun j45 =>
 (A18 x37).bind fun r47 =>
 (if (!r47)=true then
 j45 true
 else
 (if (decide (0<s1))=true then
 (idx a0 (w64 (s1-1))).bind fun x50 =>
 (A1h x50 x37).bind fun r51 =>
 j45 (!r51)
 else
 j45 false)))
 else
 some (.inl (.inr ())))
def M2 (a0:(List E6)):Option (Bool) :=
 (loop (Q1 a0) 0).bind fun x52=>match x52 with
 | (.inl _) =>
  some false
 | (.inr _) =>
  some (decide ((a0.length:Int)≤64))
theorem A1w (a0:(List E6)) (r:Bool) (h:M2 a0=some r):AC Tryz.prog 80 [(.d (.list 3 (a0.map D8)))] [] (.d (.bool r)) []:=by
 refine ac2 Tryz.func80 rfl rfl fun B hB hN L => ?_
 delta M2 at h
 refine sr (SQ tt) ?_
 apply seq
 refine sr (SQ tt) ?_
 apply block
 obtain⟨x52,hx53,h⟩:=bindS h
 refine lg (Q1 a0) (fun s1:Int=>([(0,(D0 a0)),(5,(D0 a0)),(6,(i6 (a0.length:Int))),(7,(i6 s1))]:EL)) (fun s1:Int=>([]:OL)) (fun(x:(Unit)⊕(Unit)) e E' O'=>match x with | (.inl _p)=>e = .ret∧Mat B E' O' ([(2,(bo false))]:EL) ([]:OL) | (.inr _p)=>e = .exit 0∧Mat B E' O' ([(0,(D0 a0))]:EL) ([]:OL)) hx53 (mp [] _ _ hB) (fun s1 y h => ?_) (fun e E' O' hR => ?_)
 ·unfold Q1 at h
  refine sr (SQ tt) ?_
  apply seq
  apply AWp.cond rfl<;>intro hg36
  ·have h:=A5 hg36 h
   apply AWp.skip
   apply A0
   apply seq
   apply block
   obtain⟨x37,hx37,h⟩:=bindS h
   refine sr (SQ (fa hx37 tt)) ?_
   apply seq
   refine AWp.cut h (fun m44:Bool=>([(0,(D0 a0)),(5,(D0 a0)),(6,(i6 (a0.length:Int))),(7,(i6 s1)),(28,(bo m44))]:EL)) (fun m44:Bool=>([]:OL)) (fun m44 h E' O' hmat => ?_) (fun j45 hjj45 h => ?_)
   ·apply A0
    refine ghost hmat ?_
    apply AWp.cond rfl<;>intro hg46
    ·have h:=A5 hg46 h
     refine sr (SQ tt) ?_
     apply ret
     apply D7
     apply B9
     obtain rfl:=oi h
     exact⟨(fun hc=>by cases hc),rfl,(mp [] _ _ hB)⟩
    ·have h:=A6 hg46 h
     apply AWp.skip
     apply E4
     apply A0
     refine rg (SQ tt) ?_
     obtain rfl:=oi h
     exact⟨rfl,(mp [] _ _ hB)⟩
   ·obtain⟨r47,hr47,h⟩:=bindS h
    rcases bft (!r47) with hg48 | hg48
    ·have h:=A5 hg48 h
     refine drS (SQ (fa (cl [] (W9 x37 r47 hr47)) (fa hg48 tt))) ?_
     exact hjj45 _ h _ _ (mp [] _ _ hB)
    ·have h:=A6 hg48 h
     rcases bft (decide (0<s1)) with hg49 | hg49
     ·have h:=A5 hg49 h
      obtain⟨x50,hx50,h⟩:=bindS h
      obtain⟨r51,hr51,h⟩:=bindS h
      refine drS (SQ (fa (cl [] (W9 x37 r47 hr47)) (fa hg48 (fa hg49 (fa hx50 (fa (cl [] (A5l x50 x37 r51 hr51)) tt)))))) ?_
      exact hjj45 _ h _ _ (mp [] _ _ hB)
     ·have h:=A6 hg49 h
      refine drS (SQ (fa (cl [] (W9 x37 r47 hr47)) (fa hg48 (fa hg49 tt)))) ?_
      exact hjj45 _ h _ _ (mp [] _ _ hB)
  ·have h:=A6 hg36 h
   apply AWp.exit
   apply E5
   obtain rfl:=oi h
   exact⟨(fun hc=>by cases hc),rfl,(mp [] _ _ hB)⟩
 ·rcases x52 with _ | _
  ·obtain⟨rfl,hmat⟩:=hR
   apply D7
   apply B9
   obtain rfl:=oi h
   exact rt (Mat.trans hmat (mp [] [(2,(bo false))] [] hB)) [(bo false)] (rT rN) rfl
  ·obtain⟨rfl,hmat⟩:=hR
   apply C6
   apply A0
   refine ghost hmat ?_
   refine sr (SQ tt) ?_
   apply ret
   obtain rfl:=oi h
   exact rt (kp [(2,_)] [] hB rfl rfl (by rfl)) [(bo (decide ((a0.length:Int)≤64)))] (rT rN) rfl
def A00 (a0:D1) (s1:Int):Option (((Unit)⊕(Unit))⊕(Int)) :=
 (if (decide (s1<(a0.fOther.length:Int)))=true then
 (idx a0.fOther s1).bind fun x35 =>
 jn (fun m41:Bool =>
 (if m41=true then
 some (.inl (.inl ()))
 else
 some (.inr (w64 (s1+1))))) (fun j42 =>
 (if ((decide (x35.fType<1)) || (decide (255<x35.fType)))=true then
 j42 true
 else
 (A2w x35.fType).bind fun r45 =>
 (if (((!r45) || (x35.fFlags != 224)) || (decide (255<(x35.fData.length:Int))))=true then
 j42 true
 else
 (if (decide (0<s1))=true then
 (idx a0.fOther (w64 (s1-1))).bind fun x48 =>
 j42 (decide (x35.fType≤x48.fType))
 else
 j42 false))))
 else
 some (.inl (.inr ())))
def T0 (a0:D1):Option (Bool) :=
 (loop (A00 a0) 0).bind fun x49=>match x49 with
 | (.inl _) =>
  some false
 | (.inr _) =>
  jn (fun m64:Bool =>
  some m64) (fun j65 =>
  (if ((decide ((-1)≤a0.fOrigin))&&(decide (a0.fOrigin≤2)))=true then
  (A17 a0.fPath).bind fun r67 =>
  (if r67=true then
  (Q0 a0.fNext).bind fun r69 =>
  (if ((((r69&&(decide ((-1)≤a0.fMED)))&&(decide (a0.fMED≤4294967295)))&&(decide ((-1)≤a0.fPref)))&&(decide (a0.fPref≤4294967295)))=true then
  (if (a0.fOTC==(-1))=true then
  (Y6 a0.fCommunities).bind fun r72 =>
  (if r72=true then
  (M2 a0.fLarge).bind fun r74 =>
  j65 (r74&&(decide ((a0.fOther.length:Int)≤8)))
  else
  j65 false)
  else
  (if ((decide (1≤a0.fOTC))&&(decide (a0.fOTC≤4294967295)))=true then
  (Y6 a0.fCommunities).bind fun r76 =>
  (if r76=true then
  (M2 a0.fLarge).bind fun r78 =>
  j65 (r78&&(decide ((a0.fOther.length:Int)≤8)))
  else
  j65 false)
  else
  j65 false))
  else
  j65 false)
  else
  j65 false)
  else
  j65 false))
theorem A4h (a0:D1) (r:Bool) (h:T0 a0=some r):AC Tryz.prog 44 [(.d (A3 a0))] [] (.d (.bool r)) []:=by
 refine ac2 Tryz.func44 rfl rfl fun B hB hN L => ?_
 delta T0 at h
 apply sr (cg (OpJ.box hB (nm:=1001) (by decide) (by simp) rfl (L rfl) (q 0)) rfl (c (assign (L rfl) (Opd.bool false)) rfl cn))
 apply seq
 apply sr (c (fo 1001 10 [8] hN underlying35 10 tyS33 (q 1)) rfl (c (la hN 35 tyS33 (q 5)) rfl (c (OpJ.val (v':=(i6 (a0.fOther.length:Int))) (by simp) (lenD underlying33 (L rfl) (q 6))) rfl (c (mv hN (ii 0)) rfl cn))))
 apply block
 obtain⟨x49,hx50,h⟩:=bindS h
 refine lg (A00 a0) (fun s1:Int=>([(1,(pt 1001)),(6,(B2 a0.fOther)),(7,(i6 (a0.fOther.length:Int))),(8,(i6 s1))]:EL)) (fun s1:Int=>([(1001,bd 35 (A3 a0))]:OL)) (fun(x:(Unit)⊕(Unit)) e E' O'=>match x with | (.inl _p)=>e = .ret∧Mat B E' O' ([(2,(bo false))]:EL) ([]:OL) | (.inr _p)=>e = .exit 0∧Mat B E' O' ([(1,(pt 1001))]:EL) ([(1001,bd 35 (A3 a0))]:OL)) hx50 (mp [] _ _ hB) (fun s1 y h => ?_) (fun e E' O' hR => ?_)
 ·unfold A00 at h
  apply sr (c (lss (L rfl) (q 8) (q 7)) rfl cn)
  apply seq
  apply AWp.cond rfl<;>intro hg34
  ·have h:=A5 hg34 h
   apply AWp.skip
   apply A0
   apply seq
   apply block
   obtain⟨x35,hx35,h⟩:=bindS h
   apply sr (c (mv hN (q 8)) rfl (c (indexD underlying33 tyS69 (B5 hx35).1 (F0 A8 (B5 hx35).2) (L rfl) (q 6) (q 8)) rfl (c (loadD tyS69 (by rfl) (by rfl) (L rfl) (q 11)) rfl (cg (alloc hB tyZ69 (nm:=1004) (by decide) (L rfl)) rfl (c (assign (L rfl) (q 10)) rfl (cg (sB tyS69 (q 4) (q 12)) rfl cn))))))
   apply seq
   refine AWp.cut h (fun m41:Bool=>([(1,(pt 1001)),(6,(B2 a0.fOther)),(7,(i6 (a0.fOther.length:Int))),(8,(i6 s1)),(53,(bo m41))]:EL)) (fun m41:Bool=>([(1001,bd 35 (A3 a0))]:OL)) (fun m41 h E' O' hmat => ?_) (fun j42 hjj42 h => ?_)
   ·apply A0
    refine ghost hmat ?_
    apply AWp.cond rfl<;>intro hg43
    ·have h:=A5 hg43 h
     apply sr (c (assign (L rfl) (Opd.bool false)) rfl cn)
     apply ret
     apply D7
     apply B9
     obtain rfl:=oi h
     exact⟨(fun hc=>by cases hc),rfl,(mp [] _ _ hB)⟩
    ·have h:=A6 hg43 h
     apply AWp.skip
     apply E4
     apply A0
     apply rg (c (add6 (L rfl) (q 8) (ii 1)) rfl (c (mv hN (q 54)) rfl cn))
     obtain rfl:=oi h
     exact⟨rfl,(mp [] _ _ hB)⟩
   ·rcases bft ((decide (x35.fType<1)) || (decide (255<x35.fType))) with hg44 | hg44
    ·have h:=A5 hg44 h
     apply dr (c (fo 1004 1 [1] hN underlying69 1 tyS3 (q 4)) rfl (c (la hN 69 tyS3 (q 13)) rfl (c (lss (L rfl) (q 14) (ii 1)) rfl (c (mv hN (q 15)) rfl (c (oq hN 16 (fo 1004 1 [1] hN underlying69 1 tyS3 (q 4)) (OptL.keep (by rfl) OptL.nil) (GuardV.plain _)) rfl (c (oq hN 16 (la hN 69 tyS3 (q 17)) (OptL.opt OptL.nil) (GuardV.plain _)) rfl (c (oq hN 16 (gtr (L rfl) (q 18) (ii 255)) (OptL.opt OptL.nil) (GuardV.plain _)) rfl (c (pickOr rfl (L rfl) (q 16) (q 19)) rfl (c (OpJ.val (v':=.d (.bool true)) (by rw [hg44]<;>rfl) (mv hN (q 20))) rfl (ks 21 (L rfl) (ks 21 (L rfl) (ks 21 (L rfl) (ks 21 (L rfl) (c (pickT (L rfl) (q 21) (Opd.bool true)) rfl (c (mv hN (q 26)) rfl (ks 27 (L rfl) (ks 27 (L rfl) (ks 27 (L rfl) (c (pickT (L rfl) (q 27) (Opd.bool true)) rfl (c (mv hN (q 31)) rfl (ks 32 (L rfl) (ks 32 (L rfl) (ks 32 (L rfl) (ks 32 (L rfl) (c (pickT (L rfl) (q 32) (Opd.bool true)) rfl (c (mv hN (q 37)) rfl (ks 38 (L rfl) (ks 38 (L rfl) (ks 38 (L rfl) (cg (sV 41 (L rfl)) rfl (cg (sV 41 (L rfl)) rfl (cg (sV 41 (L rfl)) rfl (cg (sV 41 (L rfl)) rfl (cg (sV 41 (L rfl)) rfl (cg (sV 41 (L rfl)) rfl (cg (sV 41 (L rfl)) rfl (cg (sV 41 (L rfl)) rfl (cg (sV 41 (L rfl)) rfl (cg (sV 41 (L rfl)) rfl (ks 38 (L rfl) (c (pickT (L rfl) (q 38) (Opd.bool true)) rfl cn))))))))))))))))))))))))))))))))))))))))) (by kernel_rfl) (by kernel_rfl)
     exact hjj42 _ h _ _ (mp [] _ _ hB)
    ·have h:=A6 hg44 h
     obtain⟨r45,hr45,h⟩:=bindS h
     rcases bft (((!r45) || (x35.fFlags != 224)) || (decide (255<(x35.fData.length:Int)))) with hg46 | hg46
     ·have h:=A5 hg46 h
      apply dr (c (fo 1004 1 [1] hN underlying69 1 tyS3 (q 4)) rfl (c (la hN 69 tyS3 (q 13)) rfl (c (lss (L rfl) (q 14) (ii 1)) rfl (c (mv hN (q 15)) rfl (c (oq hN 16 (fo 1004 1 [1] hN underlying69 1 tyS3 (q 4)) (OptL.keep (by rfl) OptL.nil) (GuardV.plain _)) rfl (c (oq hN 16 (la hN 69 tyS3 (q 17)) (OptL.opt OptL.nil) (GuardV.plain _)) rfl (c (oq hN 16 (gtr (L rfl) (q 18) (ii 255)) (OptL.opt OptL.nil) (GuardV.plain _)) rfl (c (pickOr rfl (L rfl) (q 16) (q 19)) rfl (c (OpJ.val (v':=.d (.bool false)) (by rw [hg44]<;>rfl) (mv hN (q 20))) rfl (c (gd 21 (fo 1004 1 [1] hN underlying69 1 tyS3 (q 4))) rfl (c (gd 21 (la hN 69 tyS3 (q 22))) rfl (cg (gd 21 (cf hB fnOk77 (A16 x35.fType r45 hr45) (L rfl) (OpdL.cons (q 23) OpdL.nil))) rfl (c (gd 21 (OpJ.not (L rfl) (q 24))) rfl (c (pickF (L rfl) (q 21) (q 25)) rfl (c (mv hN (q 26)) rfl (c (oq hN 27 (fo 1004 0 [0] hN underlying69 0 tyS3 (q 4)) (OptL.keep (by rfl) OptL.nil) (GuardV.plain _)) rfl (c (oq hN 27 (la hN 69 tyS3 (q 28)) (OptL.opt OptL.nil) (GuardV.plain _)) rfl (c (oq hN 27 (neqI (L rfl) (q 29) (ii 224)) (OptL.opt OptL.nil) (GuardV.plain _)) rfl (c (pickOr rfl (L rfl) (q 27) (q 30)) rfl (c (mv hN (q 31)) rfl (c (oq hN 32 (fo 1004 2 [2] hN underlying69 2 tyS67 (q 4)) (OptL.keep (by rfl) OptL.nil) (GuardV.plain _)) rfl (c (oq hN 32 (la hN 69 tyS67 (q 33)) (OptL.opt OptL.nil) (GuardV.plain _)) rfl (c (oq hN 32 (OpJ.val (v':=(i6 (x35.fData.length:Int))) (by simp) (lenD underlying67 (L rfl) (q 34))) (OptL.opt OptL.nil) (GuardV.plain _)) rfl (c (oq hN 32 (gtr (L rfl) (q 35) (ii 255)) (OptL.opt OptL.nil) (GuardV.plain _)) rfl (c (pickOr rfl (L rfl) (q 32) (q 36)) rfl (c (OpJ.val (v':=.d (.bool true)) (by rw [hg46]<;>rfl) (mv hN (q 37))) rfl (ks 38 (L rfl) (ks 38 (L rfl) (ks 38 (L rfl) (cg (sV 41 (L rfl)) rfl (cg (sV 41 (L rfl)) rfl (cg (sV 41 (L rfl)) rfl (cg (sV 41 (L rfl)) rfl (cg (sV 41 (L rfl)) rfl (cg (sV 41 (L rfl)) rfl (cg (sV 41 (L rfl)) rfl (cg (sV 41 (L rfl)) rfl (cg (sV 41 (L rfl)) rfl (cg (sV 41 (L rfl)) rfl (ks 38 (L rfl) (c (pickT (L rfl) (q 38) (Opd.bool true)) rfl cn))))))))))))))))))))))))))))))))))))))))) (by kernel_rfl) (by kernel_rfl)
      exact hjj42 _ h _ _ (mp [] _ _ hB)
     ·have h:=A6 hg46 h
      rcases bft (decide (0<s1)) with hg47 | hg47
      ·have h:=A5 hg47 h
       obtain⟨_,hx48,h⟩:=bindS h
       apply dr (c (fo 1004 1 [1] hN underlying69 1 tyS3 (q 4)) rfl (c (la hN 69 tyS3 (q 13)) rfl (c (lss (L rfl) (q 14) (ii 1)) rfl (c (mv hN (q 15)) rfl (c (oq hN 16 (fo 1004 1 [1] hN underlying69 1 tyS3 (q 4)) (OptL.keep (by rfl) OptL.nil) (GuardV.plain _)) rfl (c (oq hN 16 (la hN 69 tyS3 (q 17)) (OptL.opt OptL.nil) (GuardV.plain _)) rfl (c (oq hN 16 (gtr (L rfl) (q 18) (ii 255)) (OptL.opt OptL.nil) (GuardV.plain _)) rfl (c (pickOr rfl (L rfl) (q 16) (q 19)) rfl (c (OpJ.val (v':=.d (.bool false)) (by rw [hg44]<;>rfl) (mv hN (q 20))) rfl (c (gd 21 (fo 1004 1 [1] hN underlying69 1 tyS3 (q 4))) rfl (c (gd 21 (la hN 69 tyS3 (q 22))) rfl (cg (gd 21 (cf hB fnOk77 (A16 x35.fType r45 hr45) (L rfl) (OpdL.cons (q 23) OpdL.nil))) rfl (c (gd 21 (OpJ.not (L rfl) (q 24))) rfl (c (pickF (L rfl) (q 21) (q 25)) rfl (c (mv hN (q 26)) rfl (c (oq hN 27 (fo 1004 0 [0] hN underlying69 0 tyS3 (q 4)) (OptL.keep (by rfl) OptL.nil) (GuardV.plain _)) rfl (c (oq hN 27 (la hN 69 tyS3 (q 28)) (OptL.opt OptL.nil) (GuardV.plain _)) rfl (c (oq hN 27 (neqI (L rfl) (q 29) (ii 224)) (OptL.opt OptL.nil) (GuardV.plain _)) rfl (c (pickOr rfl (L rfl) (q 27) (q 30)) rfl (c (mv hN (q 31)) rfl (c (oq hN 32 (fo 1004 2 [2] hN underlying69 2 tyS67 (q 4)) (OptL.keep (by rfl) OptL.nil) (GuardV.plain _)) rfl (c (oq hN 32 (la hN 69 tyS67 (q 33)) (OptL.opt OptL.nil) (GuardV.plain _)) rfl (c (oq hN 32 (OpJ.val (v':=(i6 (x35.fData.length:Int))) (by simp) (lenD underlying67 (L rfl) (q 34))) (OptL.opt OptL.nil) (GuardV.plain _)) rfl (c (oq hN 32 (gtr (L rfl) (q 35) (ii 255)) (OptL.opt OptL.nil) (GuardV.plain _)) rfl (c (pickOr rfl (L rfl) (q 32) (q 36)) rfl (c (OpJ.val (v':=.d (.bool false)) (by rw [hg46]<;>rfl) (mv hN (q 37))) rfl (c (gd 38 (mv hN (q 3))) rfl (c (gd 38 (gtr (L rfl) (q 39) (ii 0))) rfl (c (gd 38 (OpJ.val (v':=.d (.bool true)) (by rw [hg47]<;>rfl) (mv hN (q 40)))) rfl (c (gd 41 (fo 1001 10 [8] hN underlying35 10 tyS33 (q 1))) rfl (c (gd 41 (la hN 35 tyS33 (q 42))) rfl (c (gd 41 (mv hN (q 3))) rfl (c (gd 41 (sub6 (L rfl) (q 44) (ii 1))) rfl (c (gd 41 (indexD underlying33 tyS69 (B5 hx48).1 (F0 A8 (B5 hx48).2) (L rfl) (q 43) (q 45))) rfl (c (gd 41 (fieldD underlying69 (by rfl) (o:=1) (by rfl) tyS3 (by decide) (by rfl) (by rfl) (L rfl) (q 46))) rfl (c (gd 41 (loadD tyS3 (by rfl) (by rfl) (L rfl) (q 47))) rfl (c (gd 41 (fo 1004 1 [1] hN underlying69 1 tyS3 (q 4))) rfl (c (gd 41 (la hN 69 tyS3 (q 49))) rfl (c (gd 41 (geq (L rfl) (q 48) (q 50))) rfl (c (gd 38 (pickT (L rfl) (q 41) (q 51))) rfl (c (pickF (L rfl) (q 38) (q 52)) rfl cn))))))))))))))))))))))))))))))))))))))))) (by kernel_rfl) (by kernel_rfl)
       exact hjj42 _ h _ _ (mp [] _ _ hB)
      ·have h:=A6 hg47 h
       apply dr (c (fo 1004 1 [1] hN underlying69 1 tyS3 (q 4)) rfl (c (la hN 69 tyS3 (q 13)) rfl (c (lss (L rfl) (q 14) (ii 1)) rfl (c (mv hN (q 15)) rfl (c (oq hN 16 (fo 1004 1 [1] hN underlying69 1 tyS3 (q 4)) (OptL.keep (by rfl) OptL.nil) (GuardV.plain _)) rfl (c (oq hN 16 (la hN 69 tyS3 (q 17)) (OptL.opt OptL.nil) (GuardV.plain _)) rfl (c (oq hN 16 (gtr (L rfl) (q 18) (ii 255)) (OptL.opt OptL.nil) (GuardV.plain _)) rfl (c (pickOr rfl (L rfl) (q 16) (q 19)) rfl (c (OpJ.val (v':=.d (.bool false)) (by rw [hg44]<;>rfl) (mv hN (q 20))) rfl (c (gd 21 (fo 1004 1 [1] hN underlying69 1 tyS3 (q 4))) rfl (c (gd 21 (la hN 69 tyS3 (q 22))) rfl (cg (gd 21 (cf hB fnOk77 (A16 x35.fType r45 hr45) (L rfl) (OpdL.cons (q 23) OpdL.nil))) rfl (c (gd 21 (OpJ.not (L rfl) (q 24))) rfl (c (pickF (L rfl) (q 21) (q 25)) rfl (c (mv hN (q 26)) rfl (c (oq hN 27 (fo 1004 0 [0] hN underlying69 0 tyS3 (q 4)) (OptL.keep (by rfl) OptL.nil) (GuardV.plain _)) rfl (c (oq hN 27 (la hN 69 tyS3 (q 28)) (OptL.opt OptL.nil) (GuardV.plain _)) rfl (c (oq hN 27 (neqI (L rfl) (q 29) (ii 224)) (OptL.opt OptL.nil) (GuardV.plain _)) rfl (c (pickOr rfl (L rfl) (q 27) (q 30)) rfl (c (mv hN (q 31)) rfl (c (oq hN 32 (fo 1004 2 [2] hN underlying69 2 tyS67 (q 4)) (OptL.keep (by rfl) OptL.nil) (GuardV.plain _)) rfl (c (oq hN 32 (la hN 69 tyS67 (q 33)) (OptL.opt OptL.nil) (GuardV.plain _)) rfl (c (oq hN 32 (OpJ.val (v':=(i6 (x35.fData.length:Int))) (by simp) (lenD underlying67 (L rfl) (q 34))) (OptL.opt OptL.nil) (GuardV.plain _)) rfl (c (oq hN 32 (gtr (L rfl) (q 35) (ii 255)) (OptL.opt OptL.nil) (GuardV.plain _)) rfl (c (pickOr rfl (L rfl) (q 32) (q 36)) rfl (c (OpJ.val (v':=.d (.bool false)) (by rw [hg46]<;>rfl) (mv hN (q 37))) rfl (c (gd 38 (mv hN (q 3))) rfl (c (gd 38 (gtr (L rfl) (q 39) (ii 0))) rfl (c (gd 38 (OpJ.val (v':=.d (.bool false)) (by rw [hg47]<;>rfl) (mv hN (q 40)))) rfl (ks 41 (L rfl) (ks 41 (L rfl) (ks 41 (L rfl) (ks 41 (L rfl) (ks 41 (L rfl) (ks 41 (L rfl) (ks 41 (L rfl) (ks 41 (L rfl) (ks 41 (L rfl) (ks 41 (L rfl) (c (gd 38 (pickF (L rfl) (q 41) (Opd.bool false))) rfl (c (pickF (L rfl) (q 38) (q 52)) rfl cn))))))))))))))))))))))))))))))))))))))))) (by kernel_rfl) (by kernel_rfl)
       exact hjj42 _ h _ _ (mp [] _ _ hB)
  ·have h:=A6 hg34 h
   apply AWp.exit
   apply E5
   obtain rfl:=oi h
   exact⟨(fun hc=>by cases hc),rfl,(mp [] _ _ hB)⟩
 ·rcases x49 with _ | _
  ·obtain⟨rfl,hmat⟩:=hR
   apply D7
   apply B9
   obtain rfl:=oi h
   exact rt (Mat.trans hmat (mp [] [(2,(bo false))] [] hB)) [(bo false)] (rT rN) rfl
  ·obtain⟨rfl,hmat⟩:=hR
   apply C6
   apply A0
   refine ghost hmat ?_
   apply seq
   refine AWp.cut h (fun m64:Bool=>([(2,(bo m64))]:EL)) (fun m64:Bool=>([]:OL)) (fun m64 h E' O' hmat => ?_) (fun j65 hjj65 h => ?_)
   ·apply A0
    refine ghost hmat ?_
    apply ret
    obtain rfl:=oi h
    exact rt (kp [(2,_)] [] hB rfl rfl (by rfl)) [(bo m64)] (rT rN) rfl
   ·rcases bft ((decide ((-1)≤a0.fOrigin))&&(decide (a0.fOrigin≤2))) with hg66 | hg66
    ·have h:=A5 hg66 h
     obtain⟨r67,hr67,h⟩:=bindS h
     rcases bft r67 with hg68 | hg68
     ·have h:=A5 hg68 h
      obtain⟨r69,hr69,h⟩:=bindS h
      rcases bft ((((r69&&(decide ((-1)≤a0.fMED)))&&(decide (a0.fMED≤4294967295)))&&(decide ((-1)≤a0.fPref)))&&(decide (a0.fPref≤4294967295))) with hg70 | hg70
      ·have h:=A5 hg70 h
       rcases bft (a0.fOTC==(-1)) with hg71 | hg71
       ·have h:=A5 hg71 h
        obtain⟨r72,hr72,h⟩:=bindS h
        rcases bft r72 with hg73 | hg73
        ·have h:=A5 hg73 h
         obtain⟨r74,hr74,h⟩:=bindS h
         apply rg (c (fo 1001 0 [0] hN underlying35 0 tyS3 (q 1)) rfl (c (la hN 35 tyS3 (q 55)) rfl (c (geq (L rfl) (q 56) (ii (-1))) rfl (c (mv hN (q 57)) rfl (c (oq hN 58 (fo 1001 0 [0] hN underlying35 0 tyS3 (q 1)) (OptL.keep (by rfl) OptL.nil) (GuardV.plain _)) rfl (c (oq hN 58 (la hN 35 tyS3 (q 59)) (OptL.opt OptL.nil) (GuardV.plain _)) rfl (c (oq hN 58 (leq (L rfl) (q 60) (ii 2)) (OptL.opt OptL.nil) (GuardV.plain _)) rfl (c (pickAnd rfl (L rfl) (q 58) (q 61)) rfl (c (OpJ.val (v':=.d (.bool true)) (by rw [hg66]<;>rfl) (mv hN (q 62))) rfl (c (gd 63 (fo 1001 1 [1] hN underlying35 1 tyS30 (q 1))) rfl (c (gd 63 (la hN 35 tyS30 (q 64))) rfl (cg (gd 63 (cf hB fnOk71 (M5 a0.fPath r67 hr67) (L rfl) (OpdL.cons (q 65) OpdL.nil))) rfl (c (pickT (L rfl) (q 63) (q 66)) rfl (c (OpJ.val (v':=.d (.bool true)) (by rw [hg68]<;>rfl) (mv hN (q 67))) rfl (c (gd 68 (fo 1001 2 [2] hN underlying35 2 tyS27 (q 1))) rfl (c (gd 68 (la hN 35 tyS27 (q 69))) rfl (cg (gd 68 (cf hB fnOk78 (I4 a0.fNext r69 hr69) (L rfl) (OpdL.cons (q 70) OpdL.nil))) rfl (c (pickT (L rfl) (q 68) (q 71)) rfl (c (mv hN (q 72)) rfl (c (oq hN 73 (fo 1001 5 [3] hN underlying35 5 tyS3 (q 1)) (OptL.keep (by rfl) OptL.nil) (GuardV.plain _)) rfl (c (oq hN 73 (la hN 35 tyS3 (q 74)) (OptL.opt OptL.nil) (GuardV.plain _)) rfl (c (oq hN 73 (geq (L rfl) (q 75) (ii (-1))) (OptL.opt OptL.nil) (GuardV.plain _)) rfl (c (pickAnd rfl (L rfl) (q 73) (q 76)) rfl (c (mv hN (q 77)) rfl (c (oq hN 78 (fo 1001 5 [3] hN underlying35 5 tyS3 (q 1)) (OptL.keep (by rfl) OptL.nil) (GuardV.plain _)) rfl (c (oq hN 78 (la hN 35 tyS3 (q 79)) (OptL.opt OptL.nil) (GuardV.plain _)) rfl (c (oq hN 78 (leq (L rfl) (q 80) (ii 4294967295)) (OptL.opt OptL.nil) (GuardV.plain _)) rfl (c (pickAnd rfl (L rfl) (q 78) (q 81)) rfl (c (mv hN (q 82)) rfl (c (oq hN 83 (fo 1001 6 [4] hN underlying35 6 tyS3 (q 1)) (OptL.keep (by rfl) OptL.nil) (GuardV.plain _)) rfl (c (oq hN 83 (la hN 35 tyS3 (q 84)) (OptL.opt OptL.nil) (GuardV.plain _)) rfl (c (oq hN 83 (geq (L rfl) (q 85) (ii (-1))) (OptL.opt OptL.nil) (GuardV.plain _)) rfl (c (pickAnd rfl (L rfl) (q 83) (q 86)) rfl (c (mv hN (q 87)) rfl (c (oq hN 88 (fo 1001 6 [4] hN underlying35 6 tyS3 (q 1)) (OptL.keep (by rfl) OptL.nil) (GuardV.plain _)) rfl (c (oq hN 88 (la hN 35 tyS3 (q 89)) (OptL.opt OptL.nil) (GuardV.plain _)) rfl (c (oq hN 88 (leq (L rfl) (q 90) (ii 4294967295)) (OptL.opt OptL.nil) (GuardV.plain _)) rfl (c (pickAnd rfl (L rfl) (q 88) (q 91)) rfl (c (OpJ.val (v':=.d (.bool true)) (by rw [hg70]<;>rfl) (mv hN (q 92))) rfl (c (gd 93 (fo 1001 7 [5] hN underlying35 7 tyS3 (q 1))) rfl (c (gd 93 (la hN 35 tyS3 (q 94))) rfl (c (gd 93 (eqlI (L rfl) (q 95) (ii (-1)))) rfl (c (gd 93 (OpJ.val (v':=.d (.bool true)) (by rw [hg71]<;>rfl) (mv hN (q 96)))) rfl (ks 97 (L rfl) (ks 97 (L rfl) (ks 97 (L rfl) (ks 97 (L rfl) (cg (sV 101 (L rfl)) rfl (cg (sV 101 (L rfl)) rfl (cg (sV 101 (L rfl)) rfl (ks 97 (L rfl) (c (gd 93 (pickT (L rfl) (q 97) (Opd.bool true))) rfl (c (pickT (L rfl) (q 93) (q 106)) rfl (c (mv hN (q 107)) rfl (c (gd 108 (fo 1001 8 [6] hN underlying35 8 tyS31 (q 1))) rfl (c (gd 108 (la hN 35 tyS31 (q 109))) rfl (cg (gd 108 (cf hB fnOk79 (Z9 a0.fCommunities r72 hr72) (L rfl) (OpdL.cons (q 110) OpdL.nil))) rfl (c (pickT (L rfl) (q 108) (q 111)) rfl (c (OpJ.val (v':=.d (.bool true)) (by rw [hg73]<;>rfl) (mv hN (q 112))) rfl (c (gd 113 (fo 1001 9 [7] hN underlying35 9 tyS32 (q 1))) rfl (c (gd 113 (la hN 35 tyS32 (q 114))) rfl (cg (gd 113 (cf hB fnOk80 (A1w a0.fLarge r74 hr74) (L rfl) (OpdL.cons (q 115) OpdL.nil))) rfl (c (pickT (L rfl) (q 113) (q 116)) rfl (c (mv hN (q 117)) rfl (c (oq hN 118 (fo 1001 10 [8] hN underlying35 10 tyS33 (q 1)) (OptL.keep (by rfl) OptL.nil) (GuardV.plain _)) rfl (c (oq hN 118 (la hN 35 tyS33 (q 119)) (OptL.opt OptL.nil) (GuardV.plain _)) rfl (c (oq hN 118 (OpJ.val (v':=(i6 (a0.fOther.length:Int))) (by simp) (lenD underlying33 (L rfl) (q 120))) (OptL.opt OptL.nil) (GuardV.plain _)) rfl (c (oq hN 118 (leq (L rfl) (q 121) (ii 8)) (OptL.opt OptL.nil) (GuardV.plain _)) rfl (c (pickAnd rfl (L rfl) (q 118) (q 122)) rfl (c (assign (L rfl) (q 123)) rfl cn))))))))))))))))))))))))))))))))))))))))))))))))))))))))))))))))))))))
         exact hjj65 _ h _ _ (mp [] _ _ hB)
        ·have h:=A6 hg73 h
         apply rg (c (fo 1001 0 [0] hN underlying35 0 tyS3 (q 1)) rfl (c (la hN 35 tyS3 (q 55)) rfl (c (geq (L rfl) (q 56) (ii (-1))) rfl (c (mv hN (q 57)) rfl (c (oq hN 58 (fo 1001 0 [0] hN underlying35 0 tyS3 (q 1)) (OptL.keep (by rfl) OptL.nil) (GuardV.plain _)) rfl (c (oq hN 58 (la hN 35 tyS3 (q 59)) (OptL.opt OptL.nil) (GuardV.plain _)) rfl (c (oq hN 58 (leq (L rfl) (q 60) (ii 2)) (OptL.opt OptL.nil) (GuardV.plain _)) rfl (c (pickAnd rfl (L rfl) (q 58) (q 61)) rfl (c (OpJ.val (v':=.d (.bool true)) (by rw [hg66]<;>rfl) (mv hN (q 62))) rfl (c (gd 63 (fo 1001 1 [1] hN underlying35 1 tyS30 (q 1))) rfl (c (gd 63 (la hN 35 tyS30 (q 64))) rfl (cg (gd 63 (cf hB fnOk71 (M5 a0.fPath r67 hr67) (L rfl) (OpdL.cons (q 65) OpdL.nil))) rfl (c (pickT (L rfl) (q 63) (q 66)) rfl (c (OpJ.val (v':=.d (.bool true)) (by rw [hg68]<;>rfl) (mv hN (q 67))) rfl (c (gd 68 (fo 1001 2 [2] hN underlying35 2 tyS27 (q 1))) rfl (c (gd 68 (la hN 35 tyS27 (q 69))) rfl (cg (gd 68 (cf hB fnOk78 (I4 a0.fNext r69 hr69) (L rfl) (OpdL.cons (q 70) OpdL.nil))) rfl (c (pickT (L rfl) (q 68) (q 71)) rfl (c (mv hN (q 72)) rfl (c (oq hN 73 (fo 1001 5 [3] hN underlying35 5 tyS3 (q 1)) (OptL.keep (by rfl) OptL.nil) (GuardV.plain _)) rfl (c (oq hN 73 (la hN 35 tyS3 (q 74)) (OptL.opt OptL.nil) (GuardV.plain _)) rfl (c (oq hN 73 (geq (L rfl) (q 75) (ii (-1))) (OptL.opt OptL.nil) (GuardV.plain _)) rfl (c (pickAnd rfl (L rfl) (q 73) (q 76)) rfl (c (mv hN (q 77)) rfl (c (oq hN 78 (fo 1001 5 [3] hN underlying35 5 tyS3 (q 1)) (OptL.keep (by rfl) OptL.nil) (GuardV.plain _)) rfl (c (oq hN 78 (la hN 35 tyS3 (q 79)) (OptL.opt OptL.nil) (GuardV.plain _)) rfl (c (oq hN 78 (leq (L rfl) (q 80) (ii 4294967295)) (OptL.opt OptL.nil) (GuardV.plain _)) rfl (c (pickAnd rfl (L rfl) (q 78) (q 81)) rfl (c (mv hN (q 82)) rfl (c (oq hN 83 (fo 1001 6 [4] hN underlying35 6 tyS3 (q 1)) (OptL.keep (by rfl) OptL.nil) (GuardV.plain _)) rfl (c (oq hN 83 (la hN 35 tyS3 (q 84)) (OptL.opt OptL.nil) (GuardV.plain _)) rfl (c (oq hN 83 (geq (L rfl) (q 85) (ii (-1))) (OptL.opt OptL.nil) (GuardV.plain _)) rfl (c (pickAnd rfl (L rfl) (q 83) (q 86)) rfl (c (mv hN (q 87)) rfl (c (oq hN 88 (fo 1001 6 [4] hN underlying35 6 tyS3 (q 1)) (OptL.keep (by rfl) OptL.nil) (GuardV.plain _)) rfl (c (oq hN 88 (la hN 35 tyS3 (q 89)) (OptL.opt OptL.nil) (GuardV.plain _)) rfl (c (oq hN 88 (leq (L rfl) (q 90) (ii 4294967295)) (OptL.opt OptL.nil) (GuardV.plain _)) rfl (c (pickAnd rfl (L rfl) (q 88) (q 91)) rfl (c (OpJ.val (v':=.d (.bool true)) (by rw [hg70]<;>rfl) (mv hN (q 92))) rfl (c (gd 93 (fo 1001 7 [5] hN underlying35 7 tyS3 (q 1))) rfl (c (gd 93 (la hN 35 tyS3 (q 94))) rfl (c (gd 93 (eqlI (L rfl) (q 95) (ii (-1)))) rfl (c (gd 93 (OpJ.val (v':=.d (.bool true)) (by rw [hg71]<;>rfl) (mv hN (q 96)))) rfl (ks 97 (L rfl) (ks 97 (L rfl) (ks 97 (L rfl) (ks 97 (L rfl) (cg (sV 101 (L rfl)) rfl (cg (sV 101 (L rfl)) rfl (cg (sV 101 (L rfl)) rfl (ks 97 (L rfl) (c (gd 93 (pickT (L rfl) (q 97) (Opd.bool true))) rfl (c (pickT (L rfl) (q 93) (q 106)) rfl (c (mv hN (q 107)) rfl (c (gd 108 (fo 1001 8 [6] hN underlying35 8 tyS31 (q 1))) rfl (c (gd 108 (la hN 35 tyS31 (q 109))) rfl (cg (gd 108 (cf hB fnOk79 (Z9 a0.fCommunities r72 hr72) (L rfl) (OpdL.cons (q 110) OpdL.nil))) rfl (c (pickT (L rfl) (q 108) (q 111)) rfl (c (OpJ.val (v':=.d (.bool false)) (by rw [hg73]<;>rfl) (mv hN (q 112))) rfl (ks 113 (L rfl) (ks 113 (L rfl) (ks 113 (L rfl) (c (pickF (L rfl) (q 113) (Opd.bool false)) rfl (c (mv hN (q 117)) rfl (ks 118 (L rfl) (ks 118 (L rfl) (ks 118 (L rfl) (ks 118 (L rfl) (c (pickF (L rfl) (q 118) (Opd.bool false)) rfl (c (assign (L rfl) (q 123)) rfl cn))))))))))))))))))))))))))))))))))))))))))))))))))))))))))))))))))))))
         exact hjj65 _ h _ _ (mp [] _ _ hB)
       ·have h:=A6 hg71 h
        rcases bft ((decide (1≤a0.fOTC))&&(decide (a0.fOTC≤4294967295))) with hg75 | hg75
        ·have h:=A5 hg75 h
         obtain⟨r76,hr76,h⟩:=bindS h
         rcases bft r76 with hg77 | hg77
         ·have h:=A5 hg77 h
          obtain⟨r78,hr78,h⟩:=bindS h
          apply rg (c (fo 1001 0 [0] hN underlying35 0 tyS3 (q 1)) rfl (c (la hN 35 tyS3 (q 55)) rfl (c (geq (L rfl) (q 56) (ii (-1))) rfl (c (mv hN (q 57)) rfl (c (oq hN 58 (fo 1001 0 [0] hN underlying35 0 tyS3 (q 1)) (OptL.keep (by rfl) OptL.nil) (GuardV.plain _)) rfl (c (oq hN 58 (la hN 35 tyS3 (q 59)) (OptL.opt OptL.nil) (GuardV.plain _)) rfl (c (oq hN 58 (leq (L rfl) (q 60) (ii 2)) (OptL.opt OptL.nil) (GuardV.plain _)) rfl (c (pickAnd rfl (L rfl) (q 58) (q 61)) rfl (c (OpJ.val (v':=.d (.bool true)) (by rw [hg66]<;>rfl) (mv hN (q 62))) rfl (c (gd 63 (fo 1001 1 [1] hN underlying35 1 tyS30 (q 1))) rfl (c (gd 63 (la hN 35 tyS30 (q 64))) rfl (cg (gd 63 (cf hB fnOk71 (M5 a0.fPath r67 hr67) (L rfl) (OpdL.cons (q 65) OpdL.nil))) rfl (c (pickT (L rfl) (q 63) (q 66)) rfl (c (OpJ.val (v':=.d (.bool true)) (by rw [hg68]<;>rfl) (mv hN (q 67))) rfl (c (gd 68 (fo 1001 2 [2] hN underlying35 2 tyS27 (q 1))) rfl (c (gd 68 (la hN 35 tyS27 (q 69))) rfl (cg (gd 68 (cf hB fnOk78 (I4 a0.fNext r69 hr69) (L rfl) (OpdL.cons (q 70) OpdL.nil))) rfl (c (pickT (L rfl) (q 68) (q 71)) rfl (c (mv hN (q 72)) rfl (c (oq hN 73 (fo 1001 5 [3] hN underlying35 5 tyS3 (q 1)) (OptL.keep (by rfl) OptL.nil) (GuardV.plain _)) rfl (c (oq hN 73 (la hN 35 tyS3 (q 74)) (OptL.opt OptL.nil) (GuardV.plain _)) rfl (c (oq hN 73 (geq (L rfl) (q 75) (ii (-1))) (OptL.opt OptL.nil) (GuardV.plain _)) rfl (c (pickAnd rfl (L rfl) (q 73) (q 76)) rfl (c (mv hN (q 77)) rfl (c (oq hN 78 (fo 1001 5 [3] hN underlying35 5 tyS3 (q 1)) (OptL.keep (by rfl) OptL.nil) (GuardV.plain _)) rfl (c (oq hN 78 (la hN 35 tyS3 (q 79)) (OptL.opt OptL.nil) (GuardV.plain _)) rfl (c (oq hN 78 (leq (L rfl) (q 80) (ii 4294967295)) (OptL.opt OptL.nil) (GuardV.plain _)) rfl (c (pickAnd rfl (L rfl) (q 78) (q 81)) rfl (c (mv hN (q 82)) rfl (c (oq hN 83 (fo 1001 6 [4] hN underlying35 6 tyS3 (q 1)) (OptL.keep (by rfl) OptL.nil) (GuardV.plain _)) rfl (c (oq hN 83 (la hN 35 tyS3 (q 84)) (OptL.opt OptL.nil) (GuardV.plain _)) rfl (c (oq hN 83 (geq (L rfl) (q 85) (ii (-1))) (OptL.opt OptL.nil) (GuardV.plain _)) rfl (c (pickAnd rfl (L rfl) (q 83) (q 86)) rfl (c (mv hN (q 87)) rfl (c (oq hN 88 (fo 1001 6 [4] hN underlying35 6 tyS3 (q 1)) (OptL.keep (by rfl) OptL.nil) (GuardV.plain _)) rfl (c (oq hN 88 (la hN 35 tyS3 (q 89)) (OptL.opt OptL.nil) (GuardV.plain _)) rfl (c (oq hN 88 (leq (L rfl) (q 90) (ii 4294967295)) (OptL.opt OptL.nil) (GuardV.plain _)) rfl (c (pickAnd rfl (L rfl) (q 88) (q 91)) rfl (c (OpJ.val (v':=.d (.bool true)) (by rw [hg70]<;>rfl) (mv hN (q 92))) rfl (c (gd 93 (fo 1001 7 [5] hN underlying35 7 tyS3 (q 1))) rfl (c (gd 93 (la hN 35 tyS3 (q 94))) rfl (c (gd 93 (eqlI (L rfl) (q 95) (ii (-1)))) rfl (c (gd 93 (OpJ.val (v':=.d (.bool false)) (by rw [hg71]<;>rfl) (mv hN (q 96)))) rfl (c (gd 97 (fo 1001 7 [5] hN underlying35 7 tyS3 (q 1))) rfl (c (gd 97 (la hN 35 tyS3 (q 98))) rfl (c (gd 97 (geq (L rfl) (q 99) (ii 1))) rfl (c (gd 97 (mv hN (q 100))) rfl (c (oq hN 101 (fo 1001 7 [5] hN underlying35 7 tyS3 (q 1)) (OptL.keep (by rfl) OptL.nil) (GuardV.plain _)) rfl (c (oq hN 101 (la hN 35 tyS3 (q 102)) (OptL.opt OptL.nil) (GuardV.plain _)) rfl (c (oq hN 101 (leq (L rfl) (q 103) (ii 4294967295)) (OptL.opt OptL.nil) (GuardV.plain _)) rfl (c (gd 97 (pickAnd rfl (L rfl) (q 101) (q 104))) rfl (c (gd 93 (pickF (L rfl) (q 97) (q 105))) rfl (c (pickT (L rfl) (q 93) (q 106)) rfl (c (OpJ.val (v':=.d (.bool true)) (by rw [hg75]<;>rfl) (mv hN (q 107))) rfl (c (gd 108 (fo 1001 8 [6] hN underlying35 8 tyS31 (q 1))) rfl (c (gd 108 (la hN 35 tyS31 (q 109))) rfl (cg (gd 108 (cf hB fnOk79 (Z9 a0.fCommunities r76 hr76) (L rfl) (OpdL.cons (q 110) OpdL.nil))) rfl (c (pickT (L rfl) (q 108) (q 111)) rfl (c (OpJ.val (v':=.d (.bool true)) (by rw [hg77]<;>rfl) (mv hN (q 112))) rfl (c (gd 113 (fo 1001 9 [7] hN underlying35 9 tyS32 (q 1))) rfl (c (gd 113 (la hN 35 tyS32 (q 114))) rfl (cg (gd 113 (cf hB fnOk80 (A1w a0.fLarge r78 hr78) (L rfl) (OpdL.cons (q 115) OpdL.nil))) rfl (c (pickT (L rfl) (q 113) (q 116)) rfl (c (mv hN (q 117)) rfl (c (oq hN 118 (fo 1001 10 [8] hN underlying35 10 tyS33 (q 1)) (OptL.keep (by rfl) OptL.nil) (GuardV.plain _)) rfl (c (oq hN 118 (la hN 35 tyS33 (q 119)) (OptL.opt OptL.nil) (GuardV.plain _)) rfl (c (oq hN 118 (OpJ.val (v':=(i6 (a0.fOther.length:Int))) (by simp) (lenD underlying33 (L rfl) (q 120))) (OptL.opt OptL.nil) (GuardV.plain _)) rfl (c (oq hN 118 (leq (L rfl) (q 121) (ii 8)) (OptL.opt OptL.nil) (GuardV.plain _)) rfl (c (pickAnd rfl (L rfl) (q 118) (q 122)) rfl (c (assign (L rfl) (q 123)) rfl cn))))))))))))))))))))))))))))))))))))))))))))))))))))))))))))))))))))))
          exact hjj65 _ h _ _ (mp [] _ _ hB)
         ·have h:=A6 hg77 h
          apply rg (c (fo 1001 0 [0] hN underlying35 0 tyS3 (q 1)) rfl (c (la hN 35 tyS3 (q 55)) rfl (c (geq (L rfl) (q 56) (ii (-1))) rfl (c (mv hN (q 57)) rfl (c (oq hN 58 (fo 1001 0 [0] hN underlying35 0 tyS3 (q 1)) (OptL.keep (by rfl) OptL.nil) (GuardV.plain _)) rfl (c (oq hN 58 (la hN 35 tyS3 (q 59)) (OptL.opt OptL.nil) (GuardV.plain _)) rfl (c (oq hN 58 (leq (L rfl) (q 60) (ii 2)) (OptL.opt OptL.nil) (GuardV.plain _)) rfl (c (pickAnd rfl (L rfl) (q 58) (q 61)) rfl (c (OpJ.val (v':=.d (.bool true)) (by rw [hg66]<;>rfl) (mv hN (q 62))) rfl (c (gd 63 (fo 1001 1 [1] hN underlying35 1 tyS30 (q 1))) rfl (c (gd 63 (la hN 35 tyS30 (q 64))) rfl (cg (gd 63 (cf hB fnOk71 (M5 a0.fPath r67 hr67) (L rfl) (OpdL.cons (q 65) OpdL.nil))) rfl (c (pickT (L rfl) (q 63) (q 66)) rfl (c (OpJ.val (v':=.d (.bool true)) (by rw [hg68]<;>rfl) (mv hN (q 67))) rfl (c (gd 68 (fo 1001 2 [2] hN underlying35 2 tyS27 (q 1))) rfl (c (gd 68 (la hN 35 tyS27 (q 69))) rfl (cg (gd 68 (cf hB fnOk78 (I4 a0.fNext r69 hr69) (L rfl) (OpdL.cons (q 70) OpdL.nil))) rfl (c (pickT (L rfl) (q 68) (q 71)) rfl (c (mv hN (q 72)) rfl (c (oq hN 73 (fo 1001 5 [3] hN underlying35 5 tyS3 (q 1)) (OptL.keep (by rfl) OptL.nil) (GuardV.plain _)) rfl (c (oq hN 73 (la hN 35 tyS3 (q 74)) (OptL.opt OptL.nil) (GuardV.plain _)) rfl (c (oq hN 73 (geq (L rfl) (q 75) (ii (-1))) (OptL.opt OptL.nil) (GuardV.plain _)) rfl (c (pickAnd rfl (L rfl) (q 73) (q 76)) rfl (c (mv hN (q 77)) rfl (c (oq hN 78 (fo 1001 5 [3] hN underlying35 5 tyS3 (q 1)) (OptL.keep (by rfl) OptL.nil) (GuardV.plain _)) rfl (c (oq hN 78 (la hN 35 tyS3 (q 79)) (OptL.opt OptL.nil) (GuardV.plain _)) rfl (c (oq hN 78 (leq (L rfl) (q 80) (ii 4294967295)) (OptL.opt OptL.nil) (GuardV.plain _)) rfl (c (pickAnd rfl (L rfl) (q 78) (q 81)) rfl (c (mv hN (q 82)) rfl (c (oq hN 83 (fo 1001 6 [4] hN underlying35 6 tyS3 (q 1)) (OptL.keep (by rfl) OptL.nil) (GuardV.plain _)) rfl (c (oq hN 83 (la hN 35 tyS3 (q 84)) (OptL.opt OptL.nil) (GuardV.plain _)) rfl (c (oq hN 83 (geq (L rfl) (q 85) (ii (-1))) (OptL.opt OptL.nil) (GuardV.plain _)) rfl (c (pickAnd rfl (L rfl) (q 83) (q 86)) rfl (c (mv hN (q 87)) rfl (c (oq hN 88 (fo 1001 6 [4] hN underlying35 6 tyS3 (q 1)) (OptL.keep (by rfl) OptL.nil) (GuardV.plain _)) rfl (c (oq hN 88 (la hN 35 tyS3 (q 89)) (OptL.opt OptL.nil) (GuardV.plain _)) rfl (c (oq hN 88 (leq (L rfl) (q 90) (ii 4294967295)) (OptL.opt OptL.nil) (GuardV.plain _)) rfl (c (pickAnd rfl (L rfl) (q 88) (q 91)) rfl (c (OpJ.val (v':=.d (.bool true)) (by rw [hg70]<;>rfl) (mv hN (q 92))) rfl (c (gd 93 (fo 1001 7 [5] hN underlying35 7 tyS3 (q 1))) rfl (c (gd 93 (la hN 35 tyS3 (q 94))) rfl (c (gd 93 (eqlI (L rfl) (q 95) (ii (-1)))) rfl (c (gd 93 (OpJ.val (v':=.d (.bool false)) (by rw [hg71]<;>rfl) (mv hN (q 96)))) rfl (c (gd 97 (fo 1001 7 [5] hN underlying35 7 tyS3 (q 1))) rfl (c (gd 97 (la hN 35 tyS3 (q 98))) rfl (c (gd 97 (geq (L rfl) (q 99) (ii 1))) rfl (c (gd 97 (mv hN (q 100))) rfl (c (oq hN 101 (fo 1001 7 [5] hN underlying35 7 tyS3 (q 1)) (OptL.keep (by rfl) OptL.nil) (GuardV.plain _)) rfl (c (oq hN 101 (la hN 35 tyS3 (q 102)) (OptL.opt OptL.nil) (GuardV.plain _)) rfl (c (oq hN 101 (leq (L rfl) (q 103) (ii 4294967295)) (OptL.opt OptL.nil) (GuardV.plain _)) rfl (c (gd 97 (pickAnd rfl (L rfl) (q 101) (q 104))) rfl (c (gd 93 (pickF (L rfl) (q 97) (q 105))) rfl (c (pickT (L rfl) (q 93) (q 106)) rfl (c (OpJ.val (v':=.d (.bool true)) (by rw [hg75]<;>rfl) (mv hN (q 107))) rfl (c (gd 108 (fo 1001 8 [6] hN underlying35 8 tyS31 (q 1))) rfl (c (gd 108 (la hN 35 tyS31 (q 109))) rfl (cg (gd 108 (cf hB fnOk79 (Z9 a0.fCommunities r76 hr76) (L rfl) (OpdL.cons (q 110) OpdL.nil))) rfl (c (pickT (L rfl) (q 108) (q 111)) rfl (c (OpJ.val (v':=.d (.bool false)) (by rw [hg77]<;>rfl) (mv hN (q 112))) rfl (ks 113 (L rfl) (ks 113 (L rfl) (ks 113 (L rfl) (c (pickF (L rfl) (q 113) (Opd.bool false)) rfl (c (mv hN (q 117)) rfl (ks 118 (L rfl) (ks 118 (L rfl) (ks 118 (L rfl) (ks 118 (L rfl) (c (pickF (L rfl) (q 118) (Opd.bool false)) rfl (c (assign (L rfl) (q 123)) rfl cn))))))))))))))))))))))))))))))))))))))))))))))))))))))))))))))))))))))
          exact hjj65 _ h _ _ (mp [] _ _ hB)
        ·have h:=A6 hg75 h
         apply rg (c (fo 1001 0 [0] hN underlying35 0 tyS3 (q 1)) rfl (c (la hN 35 tyS3 (q 55)) rfl (c (geq (L rfl) (q 56) (ii (-1))) rfl (c (mv hN (q 57)) rfl (c (oq hN 58 (fo 1001 0 [0] hN underlying35 0 tyS3 (q 1)) (OptL.keep (by rfl) OptL.nil) (GuardV.plain _)) rfl (c (oq hN 58 (la hN 35 tyS3 (q 59)) (OptL.opt OptL.nil) (GuardV.plain _)) rfl (c (oq hN 58 (leq (L rfl) (q 60) (ii 2)) (OptL.opt OptL.nil) (GuardV.plain _)) rfl (c (pickAnd rfl (L rfl) (q 58) (q 61)) rfl (c (OpJ.val (v':=.d (.bool true)) (by rw [hg66]<;>rfl) (mv hN (q 62))) rfl (c (gd 63 (fo 1001 1 [1] hN underlying35 1 tyS30 (q 1))) rfl (c (gd 63 (la hN 35 tyS30 (q 64))) rfl (cg (gd 63 (cf hB fnOk71 (M5 a0.fPath r67 hr67) (L rfl) (OpdL.cons (q 65) OpdL.nil))) rfl (c (pickT (L rfl) (q 63) (q 66)) rfl (c (OpJ.val (v':=.d (.bool true)) (by rw [hg68]<;>rfl) (mv hN (q 67))) rfl (c (gd 68 (fo 1001 2 [2] hN underlying35 2 tyS27 (q 1))) rfl (c (gd 68 (la hN 35 tyS27 (q 69))) rfl (cg (gd 68 (cf hB fnOk78 (I4 a0.fNext r69 hr69) (L rfl) (OpdL.cons (q 70) OpdL.nil))) rfl (c (pickT (L rfl) (q 68) (q 71)) rfl (c (mv hN (q 72)) rfl (c (oq hN 73 (fo 1001 5 [3] hN underlying35 5 tyS3 (q 1)) (OptL.keep (by rfl) OptL.nil) (GuardV.plain _)) rfl (c (oq hN 73 (la hN 35 tyS3 (q 74)) (OptL.opt OptL.nil) (GuardV.plain _)) rfl (c (oq hN 73 (geq (L rfl) (q 75) (ii (-1))) (OptL.opt OptL.nil) (GuardV.plain _)) rfl (c (pickAnd rfl (L rfl) (q 73) (q 76)) rfl (c (mv hN (q 77)) rfl (c (oq hN 78 (fo 1001 5 [3] hN underlying35 5 tyS3 (q 1)) (OptL.keep (by rfl) OptL.nil) (GuardV.plain _)) rfl (c (oq hN 78 (la hN 35 tyS3 (q 79)) (OptL.opt OptL.nil) (GuardV.plain _)) rfl (c (oq hN 78 (leq (L rfl) (q 80) (ii 4294967295)) (OptL.opt OptL.nil) (GuardV.plain _)) rfl (c (pickAnd rfl (L rfl) (q 78) (q 81)) rfl (c (mv hN (q 82)) rfl (c (oq hN 83 (fo 1001 6 [4] hN underlying35 6 tyS3 (q 1)) (OptL.keep (by rfl) OptL.nil) (GuardV.plain _)) rfl (c (oq hN 83 (la hN 35 tyS3 (q 84)) (OptL.opt OptL.nil) (GuardV.plain _)) rfl (c (oq hN 83 (geq (L rfl) (q 85) (ii (-1))) (OptL.opt OptL.nil) (GuardV.plain _)) rfl (c (pickAnd rfl (L rfl) (q 83) (q 86)) rfl (c (mv hN (q 87)) rfl (c (oq hN 88 (fo 1001 6 [4] hN underlying35 6 tyS3 (q 1)) (OptL.keep (by rfl) OptL.nil) (GuardV.plain _)) rfl (c (oq hN 88 (la hN 35 tyS3 (q 89)) (OptL.opt OptL.nil) (GuardV.plain _)) rfl (c (oq hN 88 (leq (L rfl) (q 90) (ii 4294967295)) (OptL.opt OptL.nil) (GuardV.plain _)) rfl (c (pickAnd rfl (L rfl) (q 88) (q 91)) rfl (c (OpJ.val (v':=.d (.bool true)) (by rw [hg70]<;>rfl) (mv hN (q 92))) rfl (c (gd 93 (fo 1001 7 [5] hN underlying35 7 tyS3 (q 1))) rfl (c (gd 93 (la hN 35 tyS3 (q 94))) rfl (c (gd 93 (eqlI (L rfl) (q 95) (ii (-1)))) rfl (c (gd 93 (OpJ.val (v':=.d (.bool false)) (by rw [hg71]<;>rfl) (mv hN (q 96)))) rfl (c (gd 97 (fo 1001 7 [5] hN underlying35 7 tyS3 (q 1))) rfl (c (gd 97 (la hN 35 tyS3 (q 98))) rfl (c (gd 97 (geq (L rfl) (q 99) (ii 1))) rfl (c (gd 97 (mv hN (q 100))) rfl (c (oq hN 101 (fo 1001 7 [5] hN underlying35 7 tyS3 (q 1)) (OptL.keep (by rfl) OptL.nil) (GuardV.plain _)) rfl (c (oq hN 101 (la hN 35 tyS3 (q 102)) (OptL.opt OptL.nil) (GuardV.plain _)) rfl (c (oq hN 101 (leq (L rfl) (q 103) (ii 4294967295)) (OptL.opt OptL.nil) (GuardV.plain _)) rfl (c (gd 97 (pickAnd rfl (L rfl) (q 101) (q 104))) rfl (c (gd 93 (pickF (L rfl) (q 97) (q 105))) rfl (c (pickT (L rfl) (q 93) (q 106)) rfl (c (OpJ.val (v':=.d (.bool false)) (by rw [hg75]<;>rfl) (mv hN (q 107))) rfl (ks 108 (L rfl) (ks 108 (L rfl) (ks 108 (L rfl) (c (pickF (L rfl) (q 108) (Opd.bool false)) rfl (c (mv hN (q 112)) rfl (ks 113 (L rfl) (ks 113 (L rfl) (ks 113 (L rfl) (c (pickF (L rfl) (q 113) (Opd.bool false)) rfl (c (mv hN (q 117)) rfl (ks 118 (L rfl) (ks 118 (L rfl) (ks 118 (L rfl) (ks 118 (L rfl) (c (pickF (L rfl) (q 118) (Opd.bool false)) rfl (c (assign (L rfl) (q 123)) rfl cn))))))))))))))))))))))))))))))))))))))))))))))))))))))))))))))))))))))
         exact hjj65 _ h _ _ (mp [] _ _ hB)
      ·have h:=A6 hg70 h
       apply rg (c (fo 1001 0 [0] hN underlying35 0 tyS3 (q 1)) rfl (c (la hN 35 tyS3 (q 55)) rfl (c (geq (L rfl) (q 56) (ii (-1))) rfl (c (mv hN (q 57)) rfl (c (oq hN 58 (fo 1001 0 [0] hN underlying35 0 tyS3 (q 1)) (OptL.keep (by rfl) OptL.nil) (GuardV.plain _)) rfl (c (oq hN 58 (la hN 35 tyS3 (q 59)) (OptL.opt OptL.nil) (GuardV.plain _)) rfl (c (oq hN 58 (leq (L rfl) (q 60) (ii 2)) (OptL.opt OptL.nil) (GuardV.plain _)) rfl (c (pickAnd rfl (L rfl) (q 58) (q 61)) rfl (c (OpJ.val (v':=.d (.bool true)) (by rw [hg66]<;>rfl) (mv hN (q 62))) rfl (c (gd 63 (fo 1001 1 [1] hN underlying35 1 tyS30 (q 1))) rfl (c (gd 63 (la hN 35 tyS30 (q 64))) rfl (cg (gd 63 (cf hB fnOk71 (M5 a0.fPath r67 hr67) (L rfl) (OpdL.cons (q 65) OpdL.nil))) rfl (c (pickT (L rfl) (q 63) (q 66)) rfl (c (OpJ.val (v':=.d (.bool true)) (by rw [hg68]<;>rfl) (mv hN (q 67))) rfl (c (gd 68 (fo 1001 2 [2] hN underlying35 2 tyS27 (q 1))) rfl (c (gd 68 (la hN 35 tyS27 (q 69))) rfl (cg (gd 68 (cf hB fnOk78 (I4 a0.fNext r69 hr69) (L rfl) (OpdL.cons (q 70) OpdL.nil))) rfl (c (pickT (L rfl) (q 68) (q 71)) rfl (c (mv hN (q 72)) rfl (c (oq hN 73 (fo 1001 5 [3] hN underlying35 5 tyS3 (q 1)) (OptL.keep (by rfl) OptL.nil) (GuardV.plain _)) rfl (c (oq hN 73 (la hN 35 tyS3 (q 74)) (OptL.opt OptL.nil) (GuardV.plain _)) rfl (c (oq hN 73 (geq (L rfl) (q 75) (ii (-1))) (OptL.opt OptL.nil) (GuardV.plain _)) rfl (c (pickAnd rfl (L rfl) (q 73) (q 76)) rfl (c (mv hN (q 77)) rfl (c (oq hN 78 (fo 1001 5 [3] hN underlying35 5 tyS3 (q 1)) (OptL.keep (by rfl) OptL.nil) (GuardV.plain _)) rfl (c (oq hN 78 (la hN 35 tyS3 (q 79)) (OptL.opt OptL.nil) (GuardV.plain _)) rfl (c (oq hN 78 (leq (L rfl) (q 80) (ii 4294967295)) (OptL.opt OptL.nil) (GuardV.plain _)) rfl (c (pickAnd rfl (L rfl) (q 78) (q 81)) rfl (c (mv hN (q 82)) rfl (c (oq hN 83 (fo 1001 6 [4] hN underlying35 6 tyS3 (q 1)) (OptL.keep (by rfl) OptL.nil) (GuardV.plain _)) rfl (c (oq hN 83 (la hN 35 tyS3 (q 84)) (OptL.opt OptL.nil) (GuardV.plain _)) rfl (c (oq hN 83 (geq (L rfl) (q 85) (ii (-1))) (OptL.opt OptL.nil) (GuardV.plain _)) rfl (c (pickAnd rfl (L rfl) (q 83) (q 86)) rfl (c (mv hN (q 87)) rfl (c (oq hN 88 (fo 1001 6 [4] hN underlying35 6 tyS3 (q 1)) (OptL.keep (by rfl) OptL.nil) (GuardV.plain _)) rfl (c (oq hN 88 (la hN 35 tyS3 (q 89)) (OptL.opt OptL.nil) (GuardV.plain _)) rfl (c (oq hN 88 (leq (L rfl) (q 90) (ii 4294967295)) (OptL.opt OptL.nil) (GuardV.plain _)) rfl (c (pickAnd rfl (L rfl) (q 88) (q 91)) rfl (c (OpJ.val (v':=.d (.bool false)) (by rw [hg70]<;>rfl) (mv hN (q 92))) rfl (ks 93 (L rfl) (ks 93 (L rfl) (ks 93 (L rfl) (ks 93 (L rfl) (cg (sV 97 (L rfl)) rfl (cg (sV 97 (L rfl)) rfl (cg (sV 97 (L rfl)) rfl (cg (sV 97 (L rfl)) rfl (cg (sV 101 (L rfl)) rfl (cg (sV 101 (L rfl)) rfl (cg (sV 101 (L rfl)) rfl (cg (sV 97 (L rfl)) rfl (ks 93 (L rfl) (c (pickF (L rfl) (q 93) (Opd.bool false)) rfl (c (mv hN (q 107)) rfl (ks 108 (L rfl) (ks 108 (L rfl) (ks 108 (L rfl) (c (pickF (L rfl) (q 108) (Opd.bool false)) rfl (c (mv hN (q 112)) rfl (ks 113 (L rfl) (ks 113 (L rfl) (ks 113 (L rfl) (c (pickF (L rfl) (q 113) (Opd.bool false)) rfl (c (mv hN (q 117)) rfl (ks 118 (L rfl) (ks 118 (L rfl) (ks 118 (L rfl) (ks 118 (L rfl) (c (pickF (L rfl) (q 118) (Opd.bool false)) rfl (c (assign (L rfl) (q 123)) rfl cn))))))))))))))))))))))))))))))))))))))))))))))))))))))))))))))))))))))
       exact hjj65 _ h _ _ (mp [] _ _ hB)
     ·have h:=A6 hg68 h
      apply rg (c (fo 1001 0 [0] hN underlying35 0 tyS3 (q 1)) rfl (c (la hN 35 tyS3 (q 55)) rfl (c (geq (L rfl) (q 56) (ii (-1))) rfl (c (mv hN (q 57)) rfl (c (oq hN 58 (fo 1001 0 [0] hN underlying35 0 tyS3 (q 1)) (OptL.keep (by rfl) OptL.nil) (GuardV.plain _)) rfl (c (oq hN 58 (la hN 35 tyS3 (q 59)) (OptL.opt OptL.nil) (GuardV.plain _)) rfl (c (oq hN 58 (leq (L rfl) (q 60) (ii 2)) (OptL.opt OptL.nil) (GuardV.plain _)) rfl (c (pickAnd rfl (L rfl) (q 58) (q 61)) rfl (c (OpJ.val (v':=.d (.bool true)) (by rw [hg66]<;>rfl) (mv hN (q 62))) rfl (c (gd 63 (fo 1001 1 [1] hN underlying35 1 tyS30 (q 1))) rfl (c (gd 63 (la hN 35 tyS30 (q 64))) rfl (cg (gd 63 (cf hB fnOk71 (M5 a0.fPath r67 hr67) (L rfl) (OpdL.cons (q 65) OpdL.nil))) rfl (c (pickT (L rfl) (q 63) (q 66)) rfl (c (OpJ.val (v':=.d (.bool false)) (by rw [hg68]<;>rfl) (mv hN (q 67))) rfl (ks 68 (L rfl) (ks 68 (L rfl) (ks 68 (L rfl) (c (pickF (L rfl) (q 68) (Opd.bool false)) rfl (c (mv hN (q 72)) rfl (ks 73 (L rfl) (ks 73 (L rfl) (ks 73 (L rfl) (c (pickF (L rfl) (q 73) (Opd.bool false)) rfl (c (mv hN (q 77)) rfl (ks 78 (L rfl) (ks 78 (L rfl) (ks 78 (L rfl) (c (pickF (L rfl) (q 78) (Opd.bool false)) rfl (c (mv hN (q 82)) rfl (ks 83 (L rfl) (ks 83 (L rfl) (ks 83 (L rfl) (c (pickF (L rfl) (q 83) (Opd.bool false)) rfl (c (mv hN (q 87)) rfl (ks 88 (L rfl) (ks 88 (L rfl) (ks 88 (L rfl) (c (pickF (L rfl) (q 88) (Opd.bool false)) rfl (c (mv hN (q 92)) rfl (ks 93 (L rfl) (ks 93 (L rfl) (ks 93 (L rfl) (ks 93 (L rfl) (cg (sV 97 (L rfl)) rfl (cg (sV 97 (L rfl)) rfl (cg (sV 97 (L rfl)) rfl (cg (sV 97 (L rfl)) rfl (cg (sV 101 (L rfl)) rfl (cg (sV 101 (L rfl)) rfl (cg (sV 101 (L rfl)) rfl (cg (sV 97 (L rfl)) rfl (ks 93 (L rfl) (c (pickF (L rfl) (q 93) (Opd.bool false)) rfl (c (mv hN (q 107)) rfl (ks 108 (L rfl) (ks 108 (L rfl) (ks 108 (L rfl) (c (pickF (L rfl) (q 108) (Opd.bool false)) rfl (c (mv hN (q 112)) rfl (ks 113 (L rfl) (ks 113 (L rfl) (ks 113 (L rfl) (c (pickF (L rfl) (q 113) (Opd.bool false)) rfl (c (mv hN (q 117)) rfl (ks 118 (L rfl) (ks 118 (L rfl) (ks 118 (L rfl) (ks 118 (L rfl) (c (pickF (L rfl) (q 118) (Opd.bool false)) rfl (c (assign (L rfl) (q 123)) rfl cn))))))))))))))))))))))))))))))))))))))))))))))))))))))))))))))))))))))
      exact hjj65 _ h _ _ (mp [] _ _ hB)
    ·have h:=A6 hg66 h
     apply rg (c (fo 1001 0 [0] hN underlying35 0 tyS3 (q 1)) rfl (c (la hN 35 tyS3 (q 55)) rfl (c (geq (L rfl) (q 56) (ii (-1))) rfl (c (mv hN (q 57)) rfl (c (oq hN 58 (fo 1001 0 [0] hN underlying35 0 tyS3 (q 1)) (OptL.keep (by rfl) OptL.nil) (GuardV.plain _)) rfl (c (oq hN 58 (la hN 35 tyS3 (q 59)) (OptL.opt OptL.nil) (GuardV.plain _)) rfl (c (oq hN 58 (leq (L rfl) (q 60) (ii 2)) (OptL.opt OptL.nil) (GuardV.plain _)) rfl (c (pickAnd rfl (L rfl) (q 58) (q 61)) rfl (c (OpJ.val (v':=.d (.bool false)) (by rw [hg66]<;>rfl) (mv hN (q 62))) rfl (ks 63 (L rfl) (ks 63 (L rfl) (ks 63 (L rfl) (c (pickF (L rfl) (q 63) (Opd.bool false)) rfl (c (mv hN (q 67)) rfl (ks 68 (L rfl) (ks 68 (L rfl) (ks 68 (L rfl) (c (pickF (L rfl) (q 68) (Opd.bool false)) rfl (c (mv hN (q 72)) rfl (ks 73 (L rfl) (ks 73 (L rfl) (ks 73 (L rfl) (c (pickF (L rfl) (q 73) (Opd.bool false)) rfl (c (mv hN (q 77)) rfl (ks 78 (L rfl) (ks 78 (L rfl) (ks 78 (L rfl) (c (pickF (L rfl) (q 78) (Opd.bool false)) rfl (c (mv hN (q 82)) rfl (ks 83 (L rfl) (ks 83 (L rfl) (ks 83 (L rfl) (c (pickF (L rfl) (q 83) (Opd.bool false)) rfl (c (mv hN (q 87)) rfl (ks 88 (L rfl) (ks 88 (L rfl) (ks 88 (L rfl) (c (pickF (L rfl) (q 88) (Opd.bool false)) rfl (c (mv hN (q 92)) rfl (ks 93 (L rfl) (ks 93 (L rfl) (ks 93 (L rfl) (ks 93 (L rfl) (cg (sV 97 (L rfl)) rfl (cg (sV 97 (L rfl)) rfl (cg (sV 97 (L rfl)) rfl (cg (sV 97 (L rfl)) rfl (cg (sV 101 (L rfl)) rfl (cg (sV 101 (L rfl)) rfl (cg (sV 101 (L rfl)) rfl (cg (sV 97 (L rfl)) rfl (ks 93 (L rfl) (c (pickF (L rfl) (q 93) (Opd.bool false)) rfl (c (mv hN (q 107)) rfl (ks 108 (L rfl) (ks 108 (L rfl) (ks 108 (L rfl) (c (pickF (L rfl) (q 108) (Opd.bool false)) rfl (c (mv hN (q 112)) rfl (ks 113 (L rfl) (ks 113 (L rfl) (ks 113 (L rfl) (c (pickF (L rfl) (q 113) (Opd.bool false)) rfl (c (mv hN (q 117)) rfl (ks 118 (L rfl) (ks 118 (L rfl) (ks 118 (L rfl) (ks 118 (L rfl) (c (pickF (L rfl) (q 118) (Opd.bool false)) rfl (c (assign (L rfl) (q 123)) rfl cn))))))))))))))))))))))))))))))))))))))))))))))))))))))))))))))))))))))
     exact hjj65 _ h _ _ (mp [] _ _ hB)
def L9 (a0:Int) (s1:Int×(List Int)):Option ((((List Int)))⊕(Int×(List Int))) :=
 (if (decide (0≤s1.1))=true then
 chk (decide ((s1.2++([(IntKind.u8.wrap (shrI .i64 a0 (IntKind.u64.wrap (8*(IntKind.u64.wrap s1.1)))))]:List Int)).length≤LIM)) <|
 some (.inr ((w64 (s1.1-1)),(s1.2++([(IntKind.u8.wrap (shrI .i64 a0 (IntKind.u64.wrap (8*(IntKind.u64.wrap s1.1)))))]:List Int))))
 else
 some (.inl s1.2))
def I7 (a0:Int) (a1:Int):Option ((List Int)) :=
 (loop (L9 a0) ((w64 (a1-1)),([]:List Int))).bind fun p6 =>
 some p6
theorem J2 (a0:Int) (a1:Int) (r:(List Int)) (h:I7 a0 a1=some r):AC Tryz.prog 106 [(.d (.int .i64 a0)),(.d (.int .i64 a1))] [] (.d (.list 1 (r.map (eI .u8)))) []:=by
 refine ac2 Tryz.func106 rfl rfl fun B hB hN L => ?_
 delta I7 at h
 refine sr (SQ tt) ?_
 refine sr (SQ tt) ?_
 apply seq
 refine sr (SQ tt) ?_
 apply block
 obtain⟨p6,hx10,h⟩:=bindS h
 refine lg (L9 a0) (fun s1:Int×(List Int)=>([(0,(i6 a0)),(5,(.sref 3005 1 0 s1.2.length)),(6,(i6 s1.1))]:EL)) (fun s1:Int×(List Int)=>([(3005,some (.row 5 1 (s1.2.map (eI .u8))))]:OL)) (fun(p6:((List Int))) e E' O'=>e = .exit 0∧Mat B E' O' ([(5,(.sref 3005 1 0 p6.length))]:EL) ([(3005,some (.row 5 1 (p6.map (eI .u8))))]:OL)) hx10 (Mat.trans (Mat.beginP (n:=3005) (e:=5) (sz:=1) (Ts:=[(5,(.sref 3005 1 0 0))]) (Bs:=[]) hB (by decide) (by rfl) (by decide) (TwT.cons (x:=.nils) (by rfl) (Tw.leaf ⟨rfl,rfl⟩) TwT.nil) TwB.nil) (mp [] _ _ hB)) (fun s1 y h => ?_) (fun e E' O' hR => ?_)
 ·unfold L9 at h
  apply seq
  refine sr (SQ tt) ?_
  apply AWp.cond rfl<;>intro hg7
  ·have h:=A5 hg7 h
   apply AWp.skip
   apply A0
   apply seq
   apply block
   obtain⟨hc8,h⟩:=C0 h
   refine rg (SQ (fa hc8 tt)) ?_
   apply E4
   apply A0
   refine rg (SQ tt) ?_
   obtain rfl:=oi h
   exact⟨rfl,(mp [(3005,1021)] _ _ hB)⟩
  ·have h:=A6 hg7 h
   apply AWp.exit
   apply E5
   obtain rfl:=oi h
   exact⟨(fun hc=>by cases hc),rfl,(mp [] _ _ hB)⟩
 ·obtain⟨rfl,hmat⟩:=hR
  apply C6
  apply A0
  refine ghost hmat ?_
  refine sr (SQ tt) ?_
  apply ret
  obtain rfl:=oi h
  exact rt (Mat.trans (Mat.freezeP (n:=3005) (e:=5) (sz:=1) (es:=p6.map (eI .u8)) (Ts:=[(4,(.d (.list 1 (p6.map (eI .u8)))))]) (Bs:=[]) (by rfl) (TwT.cons (x:=(.sref 3005 1 0 p6.length)) (by rfl) (FrzL.all (by first | rfl | (simp;done) | (simp;omega) | omega)) TwT.nil) TwB.nil) (mp [] [(4,(.d (.list 1 (p6.map (eI .u8)))))] [] hB)) [(.d (.list 1 (p6.map (eI .u8))))] (rT rN) rfl
def U2 (a0:D1) (s98:Int×(List (Int×(List Int)))):Option ((((List (Int×(List Int)))))⊕(Int×(List (Int×(List Int))))) :=
 (if (decide (s98.1<(a0.fCommunities.length:Int)))=true then
 (idx a0.fCommunities s98.1).bind fun x113 =>
 (I7 x113.fA 2).bind fun r114 =>
 chk (decide ((((mget keq3 s98.2 8).getD [])++r114).length≤LIM)) <|
 (I7 x113.fB 2).bind fun r116 =>
 chk (decide (((((mget keq3 s98.2 8).getD [])++r114)++r116).length≤LIM)) <|
 some (.inr ((w64 (s98.1+1)),(mput keq3 s98.2 8 ((((mget keq3 s98.2 8).getD [])++r114)++r116))))
 else
 some (.inl s98.2))
def U3 (a0:D1) (s120:Int×(List (Int×(List Int)))):Option ((((List (Int×(List Int)))))⊕(Int×(List (Int×(List Int))))) :=
 (if (decide (s120.1<(a0.fLarge.length:Int)))=true then
 (idx a0.fLarge s120.1).bind fun x139 =>
 (I7 x139.fA 4).bind fun r140 =>
 chk (decide ((((mget keq3 s120.2 32).getD [])++r140).length≤LIM)) <|
 (I7 x139.fB 4).bind fun r142 =>
 chk (decide (((((mget keq3 s120.2 32).getD [])++r140)++r142).length≤LIM)) <|
 (I7 x139.fC 4).bind fun r144 =>
 chk (decide ((((((mget keq3 s120.2 32).getD [])++r140)++r142)++r144).length≤LIM)) <|
 some (.inr ((w64 (s120.1+1)),(mput keq3 s120.2 32 (((((mget keq3 s120.2 32).getD [])++r140)++r142)++r144))))
 else
 some (.inl s120.2))
def A01 (a0:D1) (s152:Int×(List A1)) (s256:Int×(List A1)):Option ((((List A1)))⊕(Int×(List A1))) :=
 (if (decide (s256.1<(a0.fOther.length:Int)))=true then
 (idx a0.fOther s256.1).bind fun x279 =>
 jn (fun m283:(List A1) =>
 some (.inr ((w64 (s256.1+1)),m283))) (fun j284 =>
 (if (x279.fType==s152.1)=true then
 chk (decide (x279.fData.length≤LIM)) <|
 chk (decide ((s256.2++[(A1.mk x279.fFlags s152.1 x279.fData)]).length≤LIM)) <|
 j284 (s256.2++[(A1.mk x279.fFlags s152.1 x279.fData)])
 else
 j284 s256.2))
 else
 some (.inl s256.2))
def M6 (a0:D1) (m150:(List (Int×(List Int)))) (s152:Int×(List A1)):Option ((((List A1)))⊕(Int×(List A1))) :=
 (if (decide (s152.1<256))=true then
 jn (fun m254:(List A1) =>
 (loop (A01 a0 s152) (0,m254)).bind fun p277 =>
 some (.inr ((w64 (s152.1+1)),p277))) (fun j255 =>
 (if (mget keq3 m150 s152.1).isSome=true then
 (Y5 s152.1).bind fun r291 =>
 chk (decide (((mget keq3 m150 s152.1).getD ([]:List Int)).length≤LIM)) <|
 chk (decide ((s152.2++([(A1.mk r291 s152.1 ((mget keq3 m150 s152.1).getD ([]:List Int)))]:List A1)).length≤LIM)) <|
 j255 (s152.2++([(A1.mk r291 s152.1 ((mget keq3 m150 s152.1).getD ([]:List Int)))]:List A1))
 else
 j255 s152.2))
 else
 some (.inl s152.2))
def U4 (x356:B8) (s361:Int×(List Int)):Option ((((List Int)))⊕(Int×(List Int))) :=
 (if (decide (s361.1<(x356.fASNs.length:Int)))=true then
 (idx x356.fASNs s361.1).bind fun x372 =>
 (I7 x372 4).bind fun r373 =>
 chk (decide ((s361.2++r373).length≤LIM)) <|
 some (.inr ((w64 (s361.1+1)),(s361.2++r373)))
 else
 some (.inl s361.2))
def P0 (a0:D1) (s305:Int×(List Int)):Option ((((List Int)))⊕(Int×(List Int))) :=
 (if (decide (s305.1<(a0.fPath.length:Int)))=true then
 (idx a0.fPath s305.1).bind fun x356 =>
 jn (fun m358:Int =>
 chk (decide ((s305.2++([m358,(IntKind.u8.wrap (x356.fASNs.length:Int))]:List Int)).length≤LIM)) <|
 (loop (U4 x356) (0,(s305.2++([m358,(IntKind.u8.wrap (x356.fASNs.length:Int))]:List Int)))).bind fun p370 =>
 some (.inr ((w64 (s305.1+1)),p370))) (fun j359 =>
 (if x356.fSet=true then
 j359 1
 else
 j359 2))
 else
 some (.inl s305.2))
def A19 (a0:D1):Option ((List A1)×Int) :=
 (T0 a0).bind fun r1 =>
 (if (!r1)=true then
 some (([]:List A1),1)
 else
 jn (fun m4:(List (Int×(List Int))) =>
 jn (fun m84:(List (Int×(List Int))) =>
 jn (fun m88:(List (Int×(List Int))) =>
 jn (fun m92:(List (Int×(List Int))) =>
 jn (fun m96:(List (Int×(List Int))) =>
 (loop (U2 a0) (0,m96)).bind fun p111 =>
 (loop (U3 a0) (0,p111)).bind fun p137 =>
 jn (fun m150:(List (Int×(List Int))) =>
 (loop (M6 a0 m150) (0,([]:List A1))).bind fun p248 =>
 some (p248,0)) (fun j151 =>
 (if (decide (0≤a0.fOTC))=true then
 (I7 a0.fOTC 4).bind fun r297 =>
 j151 (mput keq3 p137 35 r297)
 else
 j151 p137))) (fun j97 =>
 (if (decide (0≤a0.fPref))=true then
 (I7 a0.fPref 4).bind fun r299 =>
 j97 (mput keq3 m92 5 r299)
 else
 j97 m92))) (fun j93 =>
 (if (decide (0≤a0.fMED))=true then
 (I7 a0.fMED 4).bind fun r301 =>
 j93 (mput keq3 m88 4 r301)
 else
 j93 m88))) (fun j89 =>
 (if ((!((a0.fNext.fV6==false)&&((a0.fNext.fHi==0)&&((a0.fNext.fLo==0)&&true))))&&(!a0.fNext.fV6))=true then
 (L4 a0.fNext).bind fun r303 =>
 j89 (mput keq3 m84 3 r303)
 else
 j89 m84))) (fun j85 =>
 (if ((decide (0≤a0.fOrigin)) || (decide (0<(a0.fPath.length:Int))))=true then
 (loop (P0 a0) (0,([]:List Int))).bind fun p354 =>
 j85 (mput keq3 m4 2 p354)
 else
 j85 m4))) (fun j5 =>
 (if (decide (0≤a0.fOrigin))=true then
 j5 (mput keq3 ([]:List (Int×(List Int))) 1 ([(IntKind.u8.wrap a0.fOrigin)]:List Int))
 else
 j5 ([]:List (Int×(List Int))))))
theorem A7y (a0:D1) (r:(List A1)×Int) (h:A19 a0=some r):AC Tryz.prog 81 [(.d (A3 a0))] [] (.tup [(.d (.list 3 (r.1.map A8))),(.d (.int .i64 r.2))]) []:=by
 refine ac2 Tryz.func81 rfl rfl fun B hB hN L => ?_
 delta A19 at h
 apply sr (cg (OpJ.box hB (nm:=1001) (by decide) (by simp) rfl (L rfl) (q 0)) rfl (c (assign (L rfl) Opd.nils) rfl (c (assign (L rfl) (ii 0)) rfl cn)))
 apply seq
 obtain⟨r1,hr1,h⟩:=bindS h
 apply sr (c (lb hN 35 _ _ tyS35 (At.here _) (q 1)) rfl (cg (cf hB fnOk44 (A4h a0 r1 hr1) (L rfl) (OpdL.cons (q 21) OpdL.nil)) rfl (c (OpJ.not (L rfl) (q 22)) rfl cn)))
 apply AWp.cond rfl<;>intro hg2
 ·have h:=A5 hg2 h
  apply sr (c (assign (L rfl) Opd.nils) rfl (c (assign (L rfl) (ii 1)) rfl cn))
  apply ret
  apply B9
  obtain rfl:=oi h
  exact rt (Mat.trans (Mat.coeP (Ts:=[(2,(B2 ([]:List A1)))]) (Bs:=[]) (TwT.cons (x:=.nils) (by rfl) (Tw.leaf ⟨_,(Co.nils 3),rfl⟩) TwT.nil) TwB.nil) (mp [] [(2,(B2 ([]:List A1))),(3,(i6 1))] [] hB)) [(B2 ([]:List A1)),(i6 1)] (rT (rT rN)) rfl
 ·have h:=A6 hg2 h
  apply AWp.skip
  apply A0
  apply sr (c (assign (L rfl) Opd.nils) rfl cn)
  apply sr (cg (OpJ.mkmapM hB (nm:=1024) (by decide) (h:=(eI .u8)) (e2:=5) (sz2:=1) (own:=[8,32]) (by decide) (fun _=>rfl) (L rfl)) rfl (c (assign (L rfl) (q 24)) rfl cn))
  apply seq
  apply sr (c (fo 1001 0 [0] hN underlying35 0 tyS3 (q 1)) rfl (c (la hN 35 tyS3 (q 25)) rfl (c (geq (L rfl) (q 26) (ii 0)) rfl cn)))
  refine gh [(1,_),(4,_),(5,_),(27,_)] [(1001,some _),(1024,some _)] hB rfl rfl (by rfl) ?_
  refine AWp.cut h (fun m4:(List (Int×(List Int)))=>([(1,(pt 1001)),(4,.nils),(5,(.mref 1024))]:EL)) (fun m4:(List (Int×(List Int)))=>([(1001,bd 35 (A3 a0)),(1024,some (.reg (mrow (eI .u8) 5 1 [8,32] m4 none)))]:OL)) (fun m4 h E' O' hmat => ?_) (fun j5 hjj5 h => ?_)
  ·apply A0
   refine ghost hmat ?_
   apply seq
   apply sr (c (fo 1001 0 [0] hN underlying35 0 tyS3 (q 1)) rfl (c (la hN 35 tyS3 (q 33)) rfl (c (geq (L rfl) (q 34) (ii 0)) rfl (c (mv hN (q 35)) rfl (c (oq hN 36 (fo 1001 1 [1] hN underlying35 1 tyS30 (q 1)) (OptL.keep (by rfl) OptL.nil) (GuardV.plain _)) rfl (c (oq hN 36 (la hN 35 tyS30 (q 37)) (OptL.opt OptL.nil) (GuardV.plain _)) rfl (c (oq hN 36 (OpJ.val (v':=(i6 (a0.fPath.length:Int))) (by simp) (lenD underlying30 (L rfl) (q 38))) (OptL.opt OptL.nil) (GuardV.plain _)) rfl (c (oq hN 36 (gtr (L rfl) (q 39) (ii 0)) (OptL.opt OptL.nil) (GuardV.plain _)) rfl (c (pickOr rfl (L rfl) (q 36) (q 40)) rfl cn)))))))))
   refine gh [(1,_),(4,_),(5,_),(41,_)] [(1001,some _),(1024,some _)] hB rfl rfl (by rfl) ?_
   refine AWp.cut h (fun m84:(List (Int×(List Int)))=>([(1,(pt 1001)),(4,.nils),(5,(.mref 1024))]:EL)) (fun m84:(List (Int×(List Int)))=>([(1001,bd 35 (A3 a0)),(1024,some (.reg (mrow (eI .u8) 5 1 [8,32] m84 none)))]:OL)) (fun m84 h E' O' hmat => ?_) (fun j85 hjj85 h => ?_)
   ·apply A0
    refine ghost hmat ?_
    apply seq
    apply sr (c (fo 1001 2 [2] hN underlying35 2 tyS27 (q 1)) rfl (c (la hN 35 tyS27 (q 75)) rfl (c (OpJ.coe (v:=(.st [(bo false),(.d (.int .u64 0)),(.d (.int .u64 0))])) (y:=(.st [(.bool false),(.int .u64 0),(.int .u64 0)])) (Co.st (CoL.cons (Co.d _) (CoL.cons (Co.d _) (CoL.cons (Co.d _) CoL.nil)))) rfl (OpJ.build (places:=[(0,1),(1,1),(2,1)]) ⟨underlying27,fun w=>by kernel_rfl⟩ tyZS27 Opds.nil (by kernel_rfl) (r:=(.st [(bo false),(.d (.int .u64 0)),(.d (.int .u64 0))])) (by rfl) (L rfl))) rfl (c (OpJ.neqD (h:=2) (B0e a0.fNext) eqg27 ⟨rfl,rfl⟩ (by rfl) (L rfl) (q 76) (q 77)) rfl (c (mv hN (q 78)) rfl (c (oq hN 79 (fo 1001 2 [2] hN underlying35 2 tyS27 (q 1)) (OptL.keep (by rfl) OptL.nil) (GuardV.plain _)) rfl (c (oq hN 79 (fo 1001 2 [2,0] hN underlying27 0 tyS4 (q 80)) (OptL.opt OptL.nil) (GuardV.plain _)) rfl (c (oq hN 79 (lb hN 35 _ _ tyS4 (At.dst1 (by rfl) (by rfl) (ad _) (by first | rfl | omega)) (q 81)) (OptL.opt OptL.nil) (GuardV.plain _)) rfl (c (oq hN 79 (OpJ.not (L rfl) (q 82)) (OptL.opt OptL.nil) (GuardV.plain _)) rfl (c (pickAnd rfl (L rfl) (q 79) (q 83)) rfl cn))))))))))
    refine gh [(1,_),(4,_),(5,_),(84,_)] [(1001,some _),(1024,some _)] hB rfl rfl (by rfl) ?_
    refine AWp.cut h (fun m88:(List (Int×(List Int)))=>([(1,(pt 1001)),(4,.nils),(5,(.mref 1024))]:EL)) (fun m88:(List (Int×(List Int)))=>([(1001,bd 35 (A3 a0)),(1024,some (.reg (mrow (eI .u8) 5 1 [8,32] m88 none)))]:OL)) (fun m88 h E' O' hmat => ?_) (fun j89 hjj89 h => ?_)
    ·apply A0
     refine ghost hmat ?_
     apply seq
     apply sr (c (fo 1001 5 [3] hN underlying35 5 tyS3 (q 1)) rfl (c (la hN 35 tyS3 (q 89)) rfl (c (geq (L rfl) (q 90) (ii 0)) rfl cn)))
     refine gh [(1,_),(4,_),(5,_),(91,_)] [(1001,some _),(1024,some _)] hB rfl rfl (by rfl) ?_
     refine AWp.cut h (fun m92:(List (Int×(List Int)))=>([(1,(pt 1001)),(4,.nils),(5,(.mref 1024))]:EL)) (fun m92:(List (Int×(List Int)))=>([(1001,bd 35 (A3 a0)),(1024,some (.reg (mrow (eI .u8) 5 1 [8,32] m92 none)))]:OL)) (fun m92 h E' O' hmat => ?_) (fun j93 hjj93 h => ?_)
     ·apply A0
      refine ghost hmat ?_
      apply seq
      apply sr (c (fo 1001 6 [4] hN underlying35 6 tyS3 (q 1)) rfl (c (la hN 35 tyS3 (q 96)) rfl (c (geq (L rfl) (q 97) (ii 0)) rfl cn)))
      refine gh [(1,_),(4,_),(5,_),(98,_)] [(1001,some _),(1024,some _)] hB rfl rfl (by rfl) ?_
      refine AWp.cut h (fun m96:(List (Int×(List Int)))=>([(1,(pt 1001)),(4,.nils),(5,(.mref 1024))]:EL)) (fun m96:(List (Int×(List Int)))=>([(1001,bd 35 (A3 a0)),(1024,some (.reg (mrow (eI .u8) 5 1 [8,32] m96 none)))]:OL)) (fun m96 h E' O' hmat => ?_) (fun j97 hjj97 h => ?_)
      ·apply A0
       refine ghost hmat ?_
       apply seq
       apply sr (c (fo 1001 8 [6] hN underlying35 8 tyS31 (q 1)) rfl (c (la hN 35 tyS31 (q 103)) rfl (c (OpJ.val (v':=(i6 (a0.fCommunities.length:Int))) (by simp) (lenD underlying31 (L rfl) (q 104))) rfl (c (mv hN (ii 0)) rfl cn))))
       apply block
       obtain⟨p111,hx119,h⟩:=bindS h
       refine lg (U2 a0) (fun s98:Int×(List (Int×(List Int)))=>([(1,(pt 1001)),(4,.nils),(5,(.mref 1024)),(104,(A9 a0.fCommunities)),(105,(i6 (a0.fCommunities.length:Int))),(106,(i6 s98.1))]:EL)) (fun s98:Int×(List (Int×(List Int)))=>([(1001,bd 35 (A3 a0)),(1024,some (.reg (mrow (eI .u8) 5 1 [8,32] s98.2 none)))]:OL)) (fun(p111:((List (Int×(List Int))))) e E' O'=>e = .exit 4∧Mat B E' O' ([(1,(pt 1001)),(4,.nils),(5,(.mref 1024))]:EL) ([(1001,bd 35 (A3 a0)),(1024,some (.reg (mrow (eI .u8) 5 1 [8,32] p111 none)))]:OL)) hx119 (mp [] _ _ hB) (fun s98 y h => ?_) (fun e E' O' hR => ?_)
       ·unfold U2 at h
        apply sr (c (lss (L rfl) (q 106) (q 105)) rfl cn)
        apply seq
        apply AWp.cond rfl<;>intro hg112
        ·have h:=A5 hg112 h
         apply AWp.skip
         apply A0
         apply seq
         apply block
         obtain⟨x113,hx113,h⟩:=bindS h
         apply sr (c (indexD underlying31 tyS98 (B5 hx113).1 (F0 B7 (B5 hx113).2) (L rfl) (q 104) (q 106)) rfl (c (loadD tyS98 (by rfl) (by rfl) (L rfl) (q 108)) rfl (cg (alloc hB tyZ98 (nm:=1013) (by decide) (L rfl)) rfl (cg (sB tyS98 (q 13) (q 109)) rfl cn))))
         obtain⟨r114,hr114,h⟩:=bindS h
         obtain⟨hc115,h⟩:=C0 h
         obtain⟨r116,hr116,h⟩:=bindS h
         obtain⟨hc117,h⟩:=C0 h
         apply dr (c (mv hN (q 5)) rfl (c (mv hN (q 5)) rfl (cg (OpJ.mtakeM (m:=1112) (h:=(eI .u8)) (e2:=5) (sz2:=1) (own:=[8,32]) (eq:=keq3) (l:=s98.2) (k:=8) hB (fun _ _=>rfl) tyU147 underlying3 tyZ67 (by decide) (by decide) (xs:=((mget keq3 s98.2 8).getD [])) rfl (len:=((mget keq3 s98.2 8).getD []).length) rfl (L rfl) (q 111) (ii 8)) rfl (c (fo 1013 0 [0] hN underlying98 0 tyS3 (q 13)) rfl (c (la hN 98 tyS3 (q 113)) rfl (cg (cf hB fnOk106 (J2 x113.fA 2 r114 hr114) (L rfl) (OpdL.cons (q 114) (OpdL.cons (ii 2) OpdL.nil))) rfl (cg (apd hB underlying67 tyE5 1116 (eI .u8) ((mget keq3 s98.2 8).getD []) r114 hc115 (L rfl) (q 112) (q 115)) rfl (c (fo 1013 1 [1] hN underlying98 1 tyS3 (q 13)) rfl (c (la hN 98 tyS3 (q 117)) rfl (cg (cf hB fnOk106 (J2 x113.fB 2 r116 hr116) (L rfl) (OpdL.cons (q 118) (OpdL.cons (ii 2) OpdL.nil))) rfl (cg (apd hB underlying67 tyE5 1120 (eI .u8) (((mget keq3 s98.2 8).getD [])++r114) r116 hc117 (L rfl) (q 116) (q 119)) rfl (cg (OpJ.mputR (h:=(eI .u8)) (e2:=5) (sz2:=1) (own:=[8,32]) (eq:=keq3) (l:=s98.2) (k:=8) (xs:=((((mget keq3 s98.2 8).getD [])++r114)++r116)) (fun _ _=>rfl) tyU147 underlying3 (by decide) (len:=((((mget keq3 s98.2 8).getD [])++r114)++r116).length) rfl (q 110) (ii 8) (q 120)) rfl cn)))))))))))) (by kernel_rfl) (by kernel_rfl)
         apply E4
         apply A0
         apply rg (c (add6 (L rfl) (q 106) (ii 1)) rfl (c (mv hN (q 121)) rfl cn))
         obtain rfl:=oi h
         exact⟨rfl,(mp [] _ _ hB)⟩
        ·have h:=A6 hg112 h
         apply AWp.exit
         apply E5
         obtain rfl:=oi h
         exact⟨(fun hc=>by cases hc),rfl,(mp [] _ _ hB)⟩
       ·obtain⟨rfl,hmat⟩:=hR
        apply C6
        apply A0
        refine ghost hmat ?_
        apply seq
        apply sr (c (fo 1001 9 [7] hN underlying35 9 tyS32 (q 1)) rfl (c (la hN 35 tyS32 (q 122)) rfl (c (OpJ.val (v':=(i6 (a0.fLarge.length:Int))) (by simp) (lenD underlying32 (L rfl) (q 123))) rfl (c (mv hN (ii 0)) rfl cn))))
        apply block
        obtain⟨p137,hx147,h⟩:=bindS h
        refine lg (U3 a0) (fun s120:Int×(List (Int×(List Int)))=>([(1,(pt 1001)),(4,.nils),(5,(.mref 1024)),(123,(D0 a0.fLarge)),(124,(i6 (a0.fLarge.length:Int))),(125,(i6 s120.1))]:EL)) (fun s120:Int×(List (Int×(List Int)))=>([(1001,bd 35 (A3 a0)),(1024,some (.reg (mrow (eI .u8) 5 1 [8,32] s120.2 none)))]:OL)) (fun(p137:((List (Int×(List Int))))) e E' O'=>e = .exit 6∧Mat B E' O' ([(1,(pt 1001)),(4,.nils),(5,(.mref 1024))]:EL) ([(1001,bd 35 (A3 a0)),(1024,some (.reg (mrow (eI .u8) 5 1 [8,32] p137 none)))]:OL)) hx147 (mp [] _ _ hB) (fun s120 y h => ?_) (fun e E' O' hR => ?_)
        ·unfold U3 at h
         apply sr (c (lss (L rfl) (q 125) (q 124)) rfl cn)
         apply seq
         apply AWp.cond rfl<;>intro hg138
         ·have h:=A5 hg138 h
          apply AWp.skip
          apply A0
          apply seq
          apply block
          obtain⟨x139,hx139,h⟩:=bindS h
          apply sr (c (indexD underlying32 tyS100 (B5 hx139).1 (F0 D8 (B5 hx139).2) (L rfl) (q 123) (q 125)) rfl (c (loadD tyS100 (by rfl) (by rfl) (L rfl) (q 127)) rfl (cg (alloc hB tyZ100 (nm:=1015) (by decide) (L rfl)) rfl (cg (sB tyS100 (q 15) (q 128)) rfl cn))))
          obtain⟨r140,hr140,h⟩:=bindS h
          obtain⟨hc141,h⟩:=C0 h
          obtain⟨r142,hr142,h⟩:=bindS h
          obtain⟨hc143,h⟩:=C0 h
          obtain⟨r144,hr144,h⟩:=bindS h
          obtain⟨hc145,h⟩:=C0 h
          apply dr (c (mv hN (q 5)) rfl (c (mv hN (q 5)) rfl (cg (OpJ.mtakeM (m:=1131) (h:=(eI .u8)) (e2:=5) (sz2:=1) (own:=[8,32]) (eq:=keq3) (l:=s120.2) (k:=32) hB (fun _ _=>rfl) tyU147 underlying3 tyZ67 (by decide) (by decide) (xs:=((mget keq3 s120.2 32).getD [])) rfl (len:=((mget keq3 s120.2 32).getD []).length) rfl (L rfl) (q 130) (ii 32)) rfl (c (fo 1015 0 [0] hN underlying100 0 tyS3 (q 15)) rfl (c (la hN 100 tyS3 (q 132)) rfl (cg (cf hB fnOk106 (J2 x139.fA 4 r140 hr140) (L rfl) (OpdL.cons (q 133) (OpdL.cons (ii 4) OpdL.nil))) rfl (cg (apd hB underlying67 tyE5 1135 (eI .u8) ((mget keq3 s120.2 32).getD []) r140 hc141 (L rfl) (q 131) (q 134)) rfl (c (fo 1015 1 [1] hN underlying100 1 tyS3 (q 15)) rfl (c (la hN 100 tyS3 (q 136)) rfl (cg (cf hB fnOk106 (J2 x139.fB 4 r142 hr142) (L rfl) (OpdL.cons (q 137) (OpdL.cons (ii 4) OpdL.nil))) rfl (cg (apd hB underlying67 tyE5 1139 (eI .u8) (((mget keq3 s120.2 32).getD [])++r140) r142 hc143 (L rfl) (q 135) (q 138)) rfl (c (fo 1015 2 [2] hN underlying100 2 tyS3 (q 15)) rfl (c (la hN 100 tyS3 (q 140)) rfl (cg (cf hB fnOk106 (J2 x139.fC 4 r144 hr144) (L rfl) (OpdL.cons (q 141) (OpdL.cons (ii 4) OpdL.nil))) rfl (cg (apd hB underlying67 tyE5 1143 (eI .u8) ((((mget keq3 s120.2 32).getD [])++r140)++r142) r144 hc145 (L rfl) (q 139) (q 142)) rfl (cg (OpJ.mputR (h:=(eI .u8)) (e2:=5) (sz2:=1) (own:=[8,32]) (eq:=keq3) (l:=s120.2) (k:=32) (xs:=(((((mget keq3 s120.2 32).getD [])++r140)++r142)++r144)) (fun _ _=>rfl) tyU147 underlying3 (by decide) (len:=(((((mget keq3 s120.2 32).getD [])++r140)++r142)++r144).length) rfl (q 129) (ii 32) (q 143)) rfl cn)))))))))))))))) (by kernel_rfl) (by kernel_rfl)
          apply E4
          apply A0
          apply rg (c (add6 (L rfl) (q 125) (ii 1)) rfl (c (mv hN (q 144)) rfl cn))
          obtain rfl:=oi h
          exact⟨rfl,(mp [] _ _ hB)⟩
         ·have h:=A6 hg138 h
          apply AWp.exit
          apply E5
          obtain rfl:=oi h
          exact⟨(fun hc=>by cases hc),rfl,(mp [] _ _ hB)⟩
        ·obtain⟨rfl,hmat⟩:=hR
         apply C6
         apply A0
         refine ghost hmat ?_
         apply seq
         apply sr (c (fo 1001 7 [5] hN underlying35 7 tyS3 (q 1)) rfl (c (la hN 35 tyS3 (q 145)) rfl (c (geq (L rfl) (q 146) (ii 0)) rfl cn)))
         refine gh [(1,_),(4,_),(5,_),(147,_)] [(1001,some _),(1024,some _)] hB rfl rfl (by rfl) ?_
         refine AWp.cut h (fun m150:(List (Int×(List Int)))=>([(1,(pt 1001)),(4,.nils),(5,(.mref 1024))]:EL)) (fun m150:(List (Int×(List Int)))=>([(1001,bd 35 (A3 a0)),(1024,some (.reg (mrow (eI .u8) 5 1 [8,32] m150 none)))]:OL)) (fun m150 h E' O' hmat => ?_) (fun j151 hjj151 h => ?_)
         ·apply A0
          refine ghost hmat ?_
          apply seq
          apply sr (c (mv hN (ii 0)) rfl cn)
          apply block
          obtain⟨p248,hx295,h⟩:=bindS h
          refine lg (M6 a0 m150) (fun s152:Int×(List A1)=>([(1,(pt 1001)),(4,(.sref 3004 3 0 s152.2.length)),(5,(.mref 1024)),(152,(i6 s152.1))]:EL)) (fun s152:Int×(List A1)=>([(1001,bd 35 (A3 a0)),(1024,some (.blk (mapQ (mpairs (eI .i64) A5f m150)))),(3004,some (D2 s152.2))]:OL)) (fun(p248:((List A1))) e E' O'=>e = .exit 8∧Mat B E' O' ([(4,(.sref 3004 3 0 p248.length))]:EL) ([(3004,some (D2 p248))]:OL)) hx295 (Mat.trans (Mat.freezeM (n:=1024) (h:=(eI .u8)) (e2:=5) (sz2:=1) (own:=[8,32]) (l:=m150) (by rfl)) (Mat.trans (Mat.beginP (n:=3004) (e:=69) (sz:=3) (Ts:=[(4,(.sref 3004 3 0 0))]) (Bs:=[]) hB (by decide) (by rfl) (by decide) (TwT.cons (x:=.nils) (by rfl) (Tw.leaf ⟨rfl,rfl⟩) TwT.nil) TwB.nil) (mp [] _ _ hB))) (fun s152 y h => ?_) (fun e E' O' hR => ?_)
          ·unfold M6 at h
           apply sr (c (lss (L rfl) (q 152) (ii 256)) rfl cn)
           apply seq
           apply AWp.cond rfl<;>intro hg249
           ·have h:=A5 hg249 h
            apply AWp.skip
            apply A0
            apply seq
            apply block
            apply sr (c (mv hN (q 152)) rfl (c (assign (L rfl) (q 154)) rfl cn))
            apply seq
            apply sr (c (mv hN (q 5)) rfl (c (mv hN (q 16)) rfl (cg (OpJ.mlook2Q (g:=A5f) (l:=m150) (k:=s152.1) tyU147 underlying3 keyEq3 (z:=([]:List Int)) tyZD67 (L rfl) (q 156) (q 157)) rfl (c (mv hN (q 158)) rfl (c (extract (by rfl) rfl (L rfl) (q 155)) rfl (c (extract (by rfl) rfl (L rfl) (q 155)) rfl (c (assign (L rfl) (q 159)) rfl (c (assign (L rfl) (q 160)) rfl cn))))))))
            apply sr (c (mv hN (q 18)) rfl cn)
            refine gh [(1,_),(4,_),(5,_),(16,_),(17,_),(152,_),(161,_)] [(1001,some _),(1024,some _),(3004,some _)] hB rfl rfl (by rfl) ?_
            refine AWp.cut h (fun m254:(List A1)=>([(1,(pt 1001)),(4,(.sref 3004 3 0 m254.length)),(5,(.mref 1024)),(16,(i6 s152.1)),(152,(i6 s152.1))]:EL)) (fun m254:(List A1)=>([(1001,bd 35 (A3 a0)),(1024,some (.blk (mapQ (mpairs (eI .i64) A5f m150)))),(3004,some (D2 m254))]:OL)) (fun m254 h E' O' hmat => ?_) (fun j255 hjj255 h => ?_)
            ·apply A0
             refine ghost hmat ?_
             apply sr (c (fo 1001 10 [8] hN underlying35 10 tyS33 (q 1)) rfl (c (la hN 35 tyS33 (q 171)) rfl (c (OpJ.val (v':=(i6 (a0.fOther.length:Int))) (by simp) (lenD underlying33 (L rfl) (q 172))) rfl (c (mv hN (ii 0)) rfl cn))))
             apply block
             obtain⟨p277,hx289,h⟩:=bindS h
             refine lg (A01 a0 s152) (fun s256:Int×(List A1)=>([(1,(pt 1001)),(4,(.sref 3004 3 0 s256.2.length)),(5,(.mref 1024)),(16,(i6 s152.1)),(152,(i6 s152.1)),(172,(B2 a0.fOther)),(173,(i6 (a0.fOther.length:Int))),(174,(i6 s256.1))]:EL)) (fun s256:Int×(List A1)=>([(1001,bd 35 (A3 a0)),(1024,some (.blk (mapQ (mpairs (eI .i64) A5f m150)))),(3004,some (D2 s256.2))]:OL)) (fun(p277:((List A1))) e E' O'=>e = .exit 10∧Mat B E' O' ([(1,(pt 1001)),(4,(.sref 3004 3 0 p277.length)),(5,(.mref 1024)),(152,(i6 s152.1))]:EL) ([(1001,bd 35 (A3 a0)),(1024,some (.blk (mapQ (mpairs (eI .i64) A5f m150)))),(3004,some (D2 p277))]:OL)) hx289 (mp [] _ _ hB) (fun s256 y h => ?_) (fun e E' O' hR => ?_)
             ·unfold A01 at h
              apply sr (c (lss (L rfl) (q 174) (q 173)) rfl cn)
              apply seq
              apply AWp.cond rfl<;>intro hg278
              ·have h:=A5 hg278 h
               apply AWp.skip
               apply A0
               apply seq
               apply block
               obtain⟨x279,hx279,h⟩:=bindS h
               apply sr (c (indexD underlying33 tyS69 (B5 hx279).1 (F0 A8 (B5 hx279).2) (L rfl) (q 172) (q 174)) rfl (c (loadD tyS69 (by rfl) (by rfl) (L rfl) (q 176)) rfl (cg (alloc hB tyZ69 (nm:=1020) (by decide) (L rfl)) rfl (cg (sB tyS69 (q 20) (q 177)) rfl cn))))
               apply sr (c (fo 1020 1 [1] hN underlying69 1 tyS3 (q 20)) rfl (c (la hN 69 tyS3 (q 178)) rfl (c (mv hN (q 16)) rfl (c (eqlI (L rfl) (q 179) (q 180)) rfl cn))))
               refine gh [(1,_),(4,_),(5,_),(16,_),(20,_),(152,_),(172,_),(173,_),(174,_),(181,_)] [(1001,some _),(1020,some _),(1024,some _),(3004,some _)] hB rfl rfl (by rfl) ?_
               refine AWp.cut h (fun m283:(List A1)=>([(1,(pt 1001)),(4,(.sref 3004 3 0 m283.length)),(5,(.mref 1024)),(16,(i6 s152.1)),(152,(i6 s152.1)),(172,(B2 a0.fOther)),(173,(i6 (a0.fOther.length:Int))),(174,(i6 s256.1))]:EL)) (fun m283:(List A1)=>([(1001,bd 35 (A3 a0)),(1024,some (.blk (mapQ (mpairs (eI .i64) A5f m150)))),(3004,some (D2 m283))]:OL)) (fun m283 h E' O' hmat => ?_) (fun j284 hjj284 h => ?_)
               ·apply E4
                apply A0
                refine ghost hmat ?_
                apply rg (c (add6 (L rfl) (q 174) (ii 1)) rfl (c (mv hN (q 192)) rfl cn))
                obtain rfl:=oi h
                exact⟨rfl,(mp [] _ _ hB)⟩
               ·apply AWp.cond rfl<;>intro hg285
                ·have h:=A5 hg285 h
                 obtain⟨hc286,h⟩:=C0 h
                 obtain⟨hc287,h⟩:=C0 h
                 apply dr (c (mv hN (q 4)) rfl (c (fo 1020 0 [0] hN underlying69 0 tyS3 (q 20)) rfl (c (la hN 69 tyS3 (q 183)) rfl (c (mv hN (q 16)) rfl (c (fo 1020 2 [2] hN underlying69 2 tyS67 (q 20)) rfl (c (la hN 69 tyS67 (q 186)) rfl (cg (OpJ.frz (OpJ.appendN hB underlying67 tyE5 (nm:=1188) (by decide) (ys:=x279.fData.map (eI .u8)) (len:=x279.fData.length) (by simp) (A45 (f:=(eI .u8)) (fun _=>rfl)) (by rw [List.length_map];exact Y8 hc286 (by decide)) (by rw [List.length_map];exact A2c hc286) (L rfl) Opd.nils (q 187)) (by simp)) rfl (c (OpJ.coe (v:=(.st [(i6 x279.fFlags),(i6 s152.1),(.d (.list 1 (x279.fData.map (eI .u8))))])) (y:=(.st [(.int .i64 x279.fFlags),(.int .i64 s152.1),(.list 1 (x279.fData.map (eI .u8)))])) (Co.st (CoL.cons (Co.d _) (CoL.cons (Co.d _) (CoL.cons (Co.d _) CoL.nil)))) rfl (OpJ.build (places:=[(0,1),(1,1),(2,1)]) ⟨underlying69,fun w=>by kernel_rfl⟩ tyZS69 (Opds.cons (q 184) (Opds.cons (q 185) (Opds.cons (q 188) Opds.nil))) (by kernel_rfl) (r:=(.st [(i6 x279.fFlags),(i6 s152.1),(.d (.list 1 (x279.fData.map (eI .u8))))])) (by rfl) (L rfl))) rfl (c (buildSlice underlying33 tyS69 tyZD69 (by rfl) (by decide) (by decide) (Opds.cons (q 189) Opds.nil) (by kernel_rfl) (es:=([(.st [(.int .i64 x279.fFlags),(.int .i64 s152.1),(.list 1 (x279.fData.map (eI .u8)))])]:List D)) (by rfl) (by rfl) (by kernel_rfl) (by simp) (L rfl)) rfl (cg (apd hB underlying33 tyE69 1191 A8 s256.2 [(A1.mk x279.fFlags s152.1 x279.fData)] hc287 (L rfl) (q 182) (q 190)) rfl (c (assign (L rfl) (q 191)) rfl cn))))))))))) (by kernel_rfl) (by kernel_rfl)
                 exact hjj284 _ h _ _ (mp [(3004,1191)] _ _ hB)
                ·have h:=A6 hg285 h
                 apply AWp.skip
                 exact hjj284 _ h _ _ (mp [] _ _ hB)
              ·have h:=A6 hg278 h
               apply AWp.exit
               apply E5
               obtain rfl:=oi h
               exact⟨(fun hc=>by cases hc),rfl,(mp [] _ _ hB)⟩
             ·obtain⟨rfl,hmat⟩:=hR
              apply C6
              apply E4
              apply A0
              refine ghost hmat ?_
              apply rg (c (add6 (L rfl) (q 152) (ii 1)) rfl (c (mv hN (q 193)) rfl cn))
              obtain rfl:=oi h
              exact⟨rfl,(mp [] _ _ hB)⟩
            ·apply AWp.cond rfl<;>intro hg290
             ·have h:=A5 hg290 h
              obtain⟨r291,hr291,h⟩:=bindS h
              obtain⟨hc292,h⟩:=C0 h
              obtain⟨hc293,h⟩:=C0 h
              apply rg (c (mv hN (q 4)) rfl (c (mv hN (q 16)) rfl (cg (cf hB fnOk101 (A4g s152.1 r291 hr291) (L rfl) (OpdL.cons (q 163) OpdL.nil)) rfl (c (mv hN (q 16)) rfl (c (mv hN (q 17)) rfl (cg (OpJ.frz (OpJ.appendN hB underlying67 tyE5 (nm:=1167) (by decide) (ys:=((mget keq3 m150 s152.1).getD ([]:List Int)).map (eI .u8)) (len:=((mget keq3 m150 s152.1).getD ([]:List Int)).length) (by simp) (A45 (f:=(eI .u8)) (fun _=>rfl)) (by rw [List.length_map];exact Y8 hc292 (by decide)) (by rw [List.length_map];exact A2c hc292) (L rfl) Opd.nils (q 166)) (by simp)) rfl (c (OpJ.coe (v:=(.st [(i6 r291),(i6 s152.1),(.d (.list 1 (((mget keq3 m150 s152.1).getD ([]:List Int)).map (eI .u8))))])) (y:=(.st [(.int .i64 r291),(.int .i64 s152.1),(.list 1 (((mget keq3 m150 s152.1).getD ([]:List Int)).map (eI .u8)))])) (Co.st (CoL.cons (Co.d _) (CoL.cons (Co.d _) (CoL.cons (Co.d _) CoL.nil)))) rfl (OpJ.build (places:=[(0,1),(1,1),(2,1)]) ⟨underlying69,fun w=>by kernel_rfl⟩ tyZS69 (Opds.cons (q 164) (Opds.cons (q 165) (Opds.cons (q 167) Opds.nil))) (by kernel_rfl) (r:=(.st [(i6 r291),(i6 s152.1),(.d (.list 1 (((mget keq3 m150 s152.1).getD ([]:List Int)).map (eI .u8))))])) (by rfl) (L rfl))) rfl (c (buildSlice underlying33 tyS69 tyZD69 (by rfl) (by decide) (by decide) (Opds.cons (q 168) Opds.nil) (by kernel_rfl) (es:=([(.st [(.int .i64 r291),(.int .i64 s152.1),(.list 1 (((mget keq3 m150 s152.1).getD ([]:List Int)).map (eI .u8)))])]:List D)) (by rfl) (by rfl) (by kernel_rfl) (by simp) (L rfl)) rfl (cg (apd hB underlying33 tyE69 1170 A8 s152.2 ([(A1.mk r291 s152.1 ((mget keq3 m150 s152.1).getD ([]:List Int)))]:List A1) hc293 (L rfl) (q 162) (q 169)) rfl (c (assign (L rfl) (q 170)) rfl cn))))))))))
              exact hjj255 _ h _ _ (mp [(3004,1170)] _ _ hB)
             ·have h:=A6 hg290 h
              apply AWp.skip
              exact hjj255 _ h _ _ (mp [] _ _ hB)
           ·have h:=A6 hg249 h
            apply AWp.exit
            apply E5
            obtain rfl:=oi h
            exact⟨(fun hc=>by cases hc),rfl,(mp [] _ _ hB)⟩
          ·obtain⟨rfl,hmat⟩:=hR
           apply C6
           apply A0
           refine ghost hmat ?_
           apply sr (c (mv hN (q 4)) rfl (c (assign (L rfl) (q 194)) rfl (c (assign (L rfl) (ii 0)) rfl cn)))
           apply ret
           obtain rfl:=oi h
           exact rt (Mat.trans (Mat.freezeP (n:=3004) (e:=69) (sz:=3) (es:=p248.map A8) (Ts:=[(2,(B2 p248))]) (Bs:=[]) (by rfl) (TwT.cons (x:=(.sref 3004 3 0 p248.length)) (by rfl) (FrzL.all (by first | rfl | (simp;done) | (simp;omega) | omega)) TwT.nil) TwB.nil) (mp [] [(2,(B2 p248)),(3,(i6 0))] [] hB)) [(B2 p248),(i6 0)] (rT (rT rN)) rfl
         ·apply AWp.cond rfl<;>intro hg296
          ·have h:=A5 hg296 h
           obtain⟨r297,hr297,h⟩:=bindS h
           apply rg (c (mv hN (q 5)) rfl (c (fo 1001 7 [5] hN underlying35 7 tyS3 (q 1)) rfl (c (la hN 35 tyS3 (q 149)) rfl (cg (cf hB fnOk106 (J2 a0.fOTC 4 r297 hr297) (L rfl) (OpdL.cons (q 150) (OpdL.cons (ii 4) OpdL.nil))) rfl (cg (OpJ.mputM (h:=(eI .u8)) (e2:=5) (sz2:=1) (own:=[8,32]) (eq:=keq3) (l:=p137) (k:=35) (xs:=r297) (fun _ _=>rfl) tyU147 underlying3 (by decide) (q 148) (ii 35) (q 151)) rfl cn)))))
           exact hjj151 _ h _ _ (mp [] _ _ hB)
          ·have h:=A6 hg296 h
           apply AWp.skip
           exact hjj151 _ h _ _ (mp [] _ _ hB)
      ·apply AWp.cond rfl<;>intro hg298
       ·have h:=A5 hg298 h
        obtain⟨r299,hr299,h⟩:=bindS h
        apply rg (c (mv hN (q 5)) rfl (c (fo 1001 6 [4] hN underlying35 6 tyS3 (q 1)) rfl (c (la hN 35 tyS3 (q 100)) rfl (cg (cf hB fnOk106 (J2 a0.fPref 4 r299 hr299) (L rfl) (OpdL.cons (q 101) (OpdL.cons (ii 4) OpdL.nil))) rfl (cg (OpJ.mputM (h:=(eI .u8)) (e2:=5) (sz2:=1) (own:=[8,32]) (eq:=keq3) (l:=m92) (k:=5) (xs:=r299) (fun _ _=>rfl) tyU147 underlying3 (by decide) (q 99) (ii 5) (q 102)) rfl cn)))))
        exact hjj97 _ h _ _ (mp [] _ _ hB)
       ·have h:=A6 hg298 h
        apply AWp.skip
        exact hjj97 _ h _ _ (mp [] _ _ hB)
     ·apply AWp.cond rfl<;>intro hg300
      ·have h:=A5 hg300 h
       obtain⟨r301,hr301,h⟩:=bindS h
       apply rg (c (mv hN (q 5)) rfl (c (fo 1001 5 [3] hN underlying35 5 tyS3 (q 1)) rfl (c (la hN 35 tyS3 (q 93)) rfl (cg (cf hB fnOk106 (J2 a0.fMED 4 r301 hr301) (L rfl) (OpdL.cons (q 94) (OpdL.cons (ii 4) OpdL.nil))) rfl (cg (OpJ.mputM (h:=(eI .u8)) (e2:=5) (sz2:=1) (own:=[8,32]) (eq:=keq3) (l:=m88) (k:=4) (xs:=r301) (fun _ _=>rfl) tyU147 underlying3 (by decide) (q 92) (ii 4) (q 95)) rfl cn)))))
       exact hjj93 _ h _ _ (mp [] _ _ hB)
      ·have h:=A6 hg300 h
       apply AWp.skip
       exact hjj93 _ h _ _ (mp [] _ _ hB)
    ·apply AWp.cond rfl<;>intro hg302
     ·have h:=A5 hg302 h
      obtain⟨r303,hr303,h⟩:=bindS h
      apply rg (c (mv hN (q 5)) rfl (c (fo 1001 2 [2] hN underlying35 2 tyS27 (q 1)) rfl (c (la hN 35 tyS27 (q 86)) rfl (cg (cf hB fnOk84 (A26 a0.fNext r303 hr303) (L rfl) (OpdL.cons (q 87) OpdL.nil)) rfl (cg (OpJ.mputM (h:=(eI .u8)) (e2:=5) (sz2:=1) (own:=[8,32]) (eq:=keq3) (l:=m84) (k:=3) (xs:=r303) (fun _ _=>rfl) tyU147 underlying3 (by decide) (q 85) (ii 3) (q 88)) rfl cn)))))
      exact hjj89 _ h _ _ (mp [] _ _ hB)
     ·have h:=A6 hg302 h
      apply AWp.skip
      exact hjj89 _ h _ _ (mp [] _ _ hB)
   ·apply AWp.cond rfl<;>intro hg304
    ·have h:=A5 hg304 h
     apply sr (cg (OpJ.buildSliceR underlying67 tyS5 tyZD5 (by rfl) (by decide) (by decide) hB (nm:=1042) (by decide) (len:=([]:List Int).length) (by rfl) Opds.nil (by kernel_rfl) (es:=([]:List Int).map (eI .u8)) (by rfl) (by rfl) (by kernel_rfl) (by simp) (L rfl)) rfl (c (assign (L rfl) (q 42)) rfl cn))
     apply seq
     apply sr (c (fo 1001 1 [1] hN underlying35 1 tyS30 (q 1)) rfl (c (la hN 35 tyS30 (q 43)) rfl (c (OpJ.val (v':=(i6 (a0.fPath.length:Int))) (by simp) (lenD underlying30 (L rfl) (q 44))) rfl (c (mv hN (ii 0)) rfl cn))))
     apply block
     obtain⟨p354,hx379,h⟩:=bindS h
     refine lg (P0 a0) (fun s305:Int×(List Int)=>([(1,(pt 1001)),(4,.nils),(5,(.mref 1024)),(6,(.sref 3006 1 0 s305.2.length)),(44,(B0 a0.fPath)),(45,(i6 (a0.fPath.length:Int))),(46,(i6 s305.1))]:EL)) (fun s305:Int×(List Int)=>([(1001,bd 35 (A3 a0)),(1024,some (.reg (mrow (eI .u8) 5 1 [8,32] m4 none))),(3006,some (.row 5 1 (s305.2.map (eI .u8))))]:OL)) (fun(p354:((List Int))) e E' O'=>e = .exit 0∧Mat B E' O' ([(1,(pt 1001)),(4,.nils),(5,(.mref 1024)),(6,(.sref 3006 1 0 p354.length))]:EL) ([(1001,bd 35 (A3 a0)),(1024,some (.reg (mrow (eI .u8) 5 1 [8,32] m4 none))),(3006,some (.row 5 1 (p354.map (eI .u8))))]:OL)) hx379 (mp [(3006,1042)] _ _ hB) (fun s305 y h => ?_) (fun e E' O' hR => ?_)
     ·unfold P0 at h
      apply sr (c (lss (L rfl) (q 46) (q 45)) rfl cn)
      apply seq
      apply AWp.cond rfl<;>intro hg355
      ·have h:=A5 hg355 h
       apply AWp.skip
       apply A0
       apply seq
       apply block
       obtain⟨x356,hx356,h⟩:=bindS h
       apply sr (c (indexD underlying30 tyS66 (B5 hx356).1 (F0 C4 (B5 hx356).2) (L rfl) (q 44) (q 46)) rfl (c (loadD tyS66 (by rfl) (by rfl) (L rfl) (q 48)) rfl (cg (alloc hB tyZ66 (nm:=1008) (by decide) (L rfl)) rfl (cg (sB tyS66 (q 8) (q 49)) rfl cn))))
       apply sr (c (assign (L rfl) (Opd.int .u8 (2))) rfl cn)
       apply seq
       apply sr (c (fo 1008 0 [0] hN underlying66 0 tyS4 (q 8)) rfl (c (la hN 66 tyS4 (q 50)) rfl cn))
       refine gh [(1,_),(4,_),(5,_),(6,_),(8,_),(9,_),(44,_),(45,_),(46,_),(51,_)] [(1001,some _),(1008,some _),(1024,some _),(3006,some _)] hB rfl rfl (by rfl) ?_
       refine AWp.cut h (fun m358:Int=>([(1,(pt 1001)),(4,.nils),(5,(.mref 1024)),(6,(.sref 3006 1 0 s305.2.length)),(8,(pt 1008)),(9,(.d (.int .u8 m358))),(44,(B0 a0.fPath)),(45,(i6 (a0.fPath.length:Int))),(46,(i6 s305.1))]:EL)) (fun m358:Int=>([(1001,bd 35 (A3 a0)),(1008,bd 66 (C4 x356)),(1024,some (.reg (mrow (eI .u8) 5 1 [8,32] m4 none))),(3006,some (.row 5 1 (s305.2.map (eI .u8))))]:OL)) (fun m358 h E' O' hmat => ?_) (fun j359 hjj359 h => ?_)
       ·apply A0
        refine ghost hmat ?_
        obtain⟨hc360,h⟩:=C0 h
        apply sr (c (mv hN (q 6)) rfl (c (mv hN (q 9)) rfl (c (fo 1008 1 [1] hN underlying66 1 tyS23 (q 8)) rfl (c (la hN 66 tyS23 (q 54)) rfl (c (OpJ.val (v':=(i6 (x356.fASNs.length:Int))) (by simp) (lenD underlying23 (L rfl) (q 55))) rfl (c (OpJ.conv underlying3 underlying5 (L rfl) (q 56)) rfl (c (buildSlice underlying67 tyS5 tyZD5 (by rfl) (by decide) (by decide) (Opds.cons (q 53) (Opds.cons (q 57) Opds.nil)) (by kernel_rfl) (es:=([(.int .u8 m358),(.int .u8 (IntKind.u8.wrap (x356.fASNs.length:Int)))]:List D)) (by rfl) (by rfl) (by kernel_rfl) (by simp) (L rfl)) rfl (cg (apd hB underlying67 tyE5 1059 (eI .u8) s305.2 ([m358,(IntKind.u8.wrap (x356.fASNs.length:Int))]:List Int) hc360 (L rfl) (q 52) (q 58)) rfl (c (assign (L rfl) (q 59)) rfl cn)))))))))
        apply sr (c (fo 1008 1 [1] hN underlying66 1 tyS23 (q 8)) rfl (c (la hN 66 tyS23 (q 60)) rfl (c (OpJ.val (v':=(i6 (x356.fASNs.length:Int))) (by simp) (lenD underlying23 (L rfl) (q 61))) rfl (c (mv hN (ii 0)) rfl cn))))
        apply block
        obtain⟨p370,hx376,h⟩:=bindS h
        refine lg (U4 x356) (fun s361:Int×(List Int)=>([(1,(pt 1001)),(4,.nils),(5,(.mref 1024)),(6,(.sref 3006 1 0 s361.2.length)),(44,(B0 a0.fPath)),(45,(i6 (a0.fPath.length:Int))),(46,(i6 s305.1)),(61,(qI_1 x356.fASNs)),(62,(i6 (x356.fASNs.length:Int))),(63,(i6 s361.1))]:EL)) (fun s361:Int×(List Int)=>([(1001,bd 35 (A3 a0)),(1024,some (.reg (mrow (eI .u8) 5 1 [8,32] m4 none))),(3006,some (.row 5 1 (s361.2.map (eI .u8))))]:OL)) (fun(p370:((List Int))) e E' O'=>e = .exit 2∧Mat B E' O' ([(1,(pt 1001)),(4,.nils),(5,(.mref 1024)),(6,(.sref 3006 1 0 p370.length)),(44,(B0 a0.fPath)),(45,(i6 (a0.fPath.length:Int))),(46,(i6 s305.1))]:EL) ([(1001,bd 35 (A3 a0)),(1024,some (.reg (mrow (eI .u8) 5 1 [8,32] m4 none))),(3006,some (.row 5 1 (p370.map (eI .u8))))]:OL)) hx376 (mp [(3006,1059)] _ _ hB) (fun s361 y h => ?_) (fun e E' O' hR => ?_)
        ·unfold U4 at h
         apply sr (c (lss (L rfl) (q 63) (q 62)) rfl cn)
         apply seq
         apply AWp.cond rfl<;>intro hg371
         ·have h:=A5 hg371 h
          apply AWp.skip
          apply A0
          apply seq
          apply block
          obtain⟨x372,hx372,h⟩:=bindS h
          apply sr (c (indexD underlying23 tyS3 (B5 hx372).1 (F0 (eI .i64) (B5 hx372).2) (L rfl) (q 61) (q 63)) rfl (c (loadD tyS3 (by rfl) (by rfl) (L rfl) (q 65)) rfl (c (assign (L rfl) (q 66)) rfl cn)))
          obtain⟨r373,hr373,h⟩:=bindS h
          obtain⟨hc374,h⟩:=C0 h
          apply rg (c (mv hN (q 6)) rfl (c (mv hN (q 11)) rfl (cg (cf hB fnOk106 (J2 x372 4 r373 hr373) (L rfl) (OpdL.cons (q 68) (OpdL.cons (ii 4) OpdL.nil))) rfl (cg (apd hB underlying67 tyE5 1070 (eI .u8) s361.2 r373 hc374 (L rfl) (q 67) (q 69)) rfl (c (assign (L rfl) (q 70)) rfl cn)))))
          apply E4
          apply A0
          apply rg (c (add6 (L rfl) (q 63) (ii 1)) rfl (c (mv hN (q 71)) rfl cn))
          obtain rfl:=oi h
          exact⟨rfl,(mp [(3006,1070)] _ _ hB)⟩
         ·have h:=A6 hg371 h
          apply AWp.exit
          apply E5
          obtain rfl:=oi h
          exact⟨(fun hc=>by cases hc),rfl,(mp [] _ _ hB)⟩
        ·obtain⟨rfl,hmat⟩:=hR
         apply C6
         apply E4
         apply A0
         refine ghost hmat ?_
         apply rg (c (add6 (L rfl) (q 46) (ii 1)) rfl (c (mv hN (q 72)) rfl cn))
         obtain rfl:=oi h
         exact⟨rfl,(mp [] _ _ hB)⟩
       ·apply AWp.cond rfl<;>intro hg377
        ·have h:=A5 hg377 h
         apply rg (c (assign (L rfl) (Opd.int .u8 (1))) rfl cn)
         exact hjj359 _ h _ _ (mp [] _ _ hB)
        ·have h:=A6 hg377 h
         apply AWp.skip
         exact hjj359 _ h _ _ (mp [] _ _ hB)
      ·have h:=A6 hg355 h
       apply AWp.exit
       apply E5
       obtain rfl:=oi h
       exact⟨(fun hc=>by cases hc),rfl,(mp [] _ _ hB)⟩
     ·obtain⟨rfl,hmat⟩:=hR
      apply C6
      apply A0
      refine ghost hmat ?_
      refine ghost (Mat.freezeP (n:=3006) (e:=5) (sz:=1) (es:=p354.map (eI .u8)) (Ts:=[(6,(.d (.list 1 (p354.map (eI .u8)))))]) (Bs:=[]) (by rfl) (TwT.cons (x:=(.sref 3006 1 0 p354.length)) (by rfl) (FrzL.all (by first | rfl | (simp;done) | (simp;omega) | omega)) TwT.nil) TwB.nil) ?_
      apply rg (c (mv hN (q 5)) rfl (c (mv hN (q 6)) rfl (cg (OpJ.mputM (h:=(eI .u8)) (e2:=5) (sz2:=1) (own:=[8,32]) (eq:=keq3) (l:=m4) (k:=2) (xs:=p354) (fun _ _=>rfl) tyU147 underlying3 (by decide) (q 73) (ii 2) (q 74)) rfl cn)))
      exact hjj85 _ h _ _ (mp [] _ _ hB)
    ·have h:=A6 hg304 h
     apply AWp.skip
     exact hjj85 _ h _ _ (mp [] _ _ hB)
  ·apply AWp.cond rfl<;>intro hg380
   ·have h:=A5 hg380 h
    apply rg (c (mv hN (q 5)) rfl (c (fo 1001 0 [0] hN underlying35 0 tyS3 (q 1)) rfl (c (la hN 35 tyS3 (q 29)) rfl (c (OpJ.conv underlying3 underlying5 (L rfl) (q 30)) rfl (c (buildSlice underlying67 tyS5 tyZD5 (by rfl) (by decide) (by decide) (Opds.cons (q 31) Opds.nil) (by kernel_rfl) (es:=([(.int .u8 (IntKind.u8.wrap a0.fOrigin))]:List D)) (by rfl) (by rfl) (by kernel_rfl) (by simp) (L rfl)) rfl (cg (OpJ.mputM (h:=(eI .u8)) (e2:=5) (sz2:=1) (own:=[8,32]) (eq:=keq3) (l:=([]:List (Int×(List Int)))) (k:=1) (xs:=([(IntKind.u8.wrap a0.fOrigin)]:List Int)) (fun _ _=>rfl) tyU147 underlying3 (by decide) (q 28) (ii 1) (q 32)) rfl cn))))))
    exact hjj5 _ h _ _ (mp [] _ _ hB)
   ·have h:=A6 hg380 h
    apply AWp.skip
    exact hjj5 _ h _ _ (mp [] _ _ hB)
def U5 (a0:(List A2)) (a1:Bool) (s1:Int×(List Int)):Option ((((List Int)))⊕(Int×(List Int))) :=
 (if (decide (s1.1<(a0.length:Int)))=true then
 (idx a0 s1.1).bind fun x32 =>
 jn (fun m38:(List Int) =>
 some (.inr ((w64 (s1.1+1)),m38))) (fun j39 =>
 (if (x32.fAddr.fV6==a1)=true then
 chk (decide ((s1.2++([(IntKind.u8.wrap x32.fLen)]:List Int)).length≤LIM)) <|
 (L4 x32.fAddr).bind fun r42 =>
 chk ((decide (0≤(w64 (Int.tdiv (w64 (x32.fLen+7)) 8)))&&decide (0≤(w64 (Int.tdiv (w64 (x32.fLen+7)) 8)).toNat)&&decide ((w64 (Int.tdiv (w64 (x32.fLen+7)) 8)).toNat≤r42.length))) <|
 chk (decide (((s1.2++([(IntKind.u8.wrap x32.fLen)]:List Int))++((r42.take ((w64 (Int.tdiv (w64 (x32.fLen+7)) 8)).toNat)).drop 0)).length≤LIM)) <|
 j39 ((s1.2++([(IntKind.u8.wrap x32.fLen)]:List Int))++((r42.take ((w64 (Int.tdiv (w64 (x32.fLen+7)) 8)).toNat)).drop 0))
 else
 j39 s1.2))
 else
 some (.inl s1.2))
def H3 (a0:(List A2)) (a1:Bool):Option ((List Int)) :=
 (loop (U5 a0 a1) (0,([]:List Int))).bind fun p30 =>
 some p30
theorem A02 (a0:(List A2)) (a1:Bool) (r:(List Int)) (h:H3 a0 a1=some r):AC Tryz.prog 82 [(.d (.list 4 (a0.map B3))),(.d (.bool a1))] [] (.d (.list 1 (r.map (eI .u8)))) []:=by
 refine ac2 Tryz.func82 rfl rfl fun B hB hN L => ?_
 delta H3 at h
 refine sr (SQ tt) ?_
 refine sr (SQ tt) ?_
 apply seq
 refine sr (SQ tt) ?_
 apply block
 obtain⟨p30,hx46,h⟩:=bindS h
 refine lg (U5 a0 a1) (fun s1:Int×(List Int)=>([(1,(bo a1)),(5,(.sref 3005 1 0 s1.2.length)),(8,(E0 a0)),(9,(i6 (a0.length:Int))),(10,(i6 s1.1))]:EL)) (fun s1:Int×(List Int)=>([(3005,some (.row 5 1 (s1.2.map (eI .u8))))]:OL)) (fun(p30:((List Int))) e E' O'=>e = .exit 0∧Mat B E' O' ([(5,(.sref 3005 1 0 p30.length))]:EL) ([(3005,some (.row 5 1 (p30.map (eI .u8))))]:OL)) hx46 (Mat.trans (Mat.beginP (n:=3005) (e:=5) (sz:=1) (Ts:=[(5,(.sref 3005 1 0 0))]) (Bs:=[]) hB (by decide) (by rfl) (by decide) (TwT.cons (x:=.nils) (by rfl) (Tw.leaf ⟨rfl,rfl⟩) TwT.nil) TwB.nil) (mp [] _ _ hB)) (fun s1 y h => ?_) (fun e E' O' hR => ?_)
 ·unfold U5 at h
  refine sr (SQ tt) ?_
  apply seq
  apply AWp.cond rfl<;>intro hg31
  ·have h:=A5 hg31 h
   apply AWp.skip
   apply A0
   apply seq
   apply block
   obtain⟨x32,hx32,h⟩:=bindS h
   refine sr (SQ (fa hx32 tt)) ?_
   refine sr (SQ tt) ?_
   refine gh [(1,_),(5,_),(7,_),(8,_),(9,_),(10,_),(18,_)] [(1007,some _),(3005,some _)] hB rfl rfl (by rfl) ?_
   refine AWp.cut h (fun m38:(List Int)=>([(1,(bo a1)),(5,(.sref 3005 1 0 m38.length)),(8,(E0 a0)),(9,(i6 (a0.length:Int))),(10,(i6 s1.1))]:EL)) (fun m38:(List Int)=>([(3005,some (.row 5 1 (m38.map (eI .u8))))]:OL)) (fun m38 h E' O' hmat => ?_) (fun j39 hjj39 h => ?_)
   ·apply E4
    apply A0
    refine ghost hmat ?_
    refine rg (SQ tt) ?_
    obtain rfl:=oi h
    exact⟨rfl,(mp [] _ _ hB)⟩
   ·apply AWp.cond rfl<;>intro hg40
    ·have h:=A5 hg40 h
     obtain⟨hc41,h⟩:=C0 h
     obtain⟨r42,hr42,h⟩:=bindS h
     obtain⟨hc43,h⟩:=C0 h
     obtain⟨hc44,h⟩:=C0 h
     refine drS (SQ (fa hc41 (fa (cl [] (A26 x32.fAddr r42 hr42)) (fa hc43 (fa hc44 tt))))) ?_
     exact hjj39 _ h _ _ (mp [(3005,1033)] _ _ hB)
    ·have h:=A6 hg40 h
     apply AWp.skip
     exact hjj39 _ h _ _ (mp [] _ _ hB)
  ·have h:=A6 hg31 h
   apply AWp.exit
   apply E5
   obtain rfl:=oi h
   exact⟨(fun hc=>by cases hc),rfl,(mp [] _ _ hB)⟩
 ·obtain⟨rfl,hmat⟩:=hR
  apply C6
  apply A0
  refine ghost hmat ?_
  refine sr (SQ tt) ?_
  apply ret
  obtain rfl:=oi h
  exact rt (Mat.trans (Mat.freezeP (n:=3005) (e:=5) (sz:=1) (es:=p30.map (eI .u8)) (Ts:=[(4,(.d (.list 1 (p30.map (eI .u8)))))]) (Bs:=[]) (by rfl) (TwT.cons (x:=(.sref 3005 1 0 p30.length)) (by rfl) (FrzL.all (by first | rfl | (simp;done) | (simp;omega) | omega)) TwT.nil) TwB.nil) (mp [] [(4,(.d (.list 1 (p30.map (eI .u8)))))] [] hB)) [(.d (.list 1 (p30.map (eI .u8))))] (rT rN) rfl
def A1p (a0:(List A1)) (a1:A1) (s1:Int):Option (((Int))⊕(Int)) :=
 jn (fun m19:Bool =>
 (if m19=true then
 some (.inr (w64 (s1+1)))
 else
 some (.inl s1))) (fun j20 =>
 (if (decide (s1<(a0.length:Int)))=true then
 (idx a0 s1).bind fun x23 =>
 j20 (decide (x23.fType<a1.fType))
 else
 j20 false))
def A1i (a0:(List A1)) (a1:A1):Option ((List A1)) :=
 (loop (A1p a0 a1) 0).bind fun p16 =>
 chk ((decide (0≤p16)&&decide (0≤p16.toNat)&&decide (p16.toNat≤a0.length))) <|
 chk (decide (((a0.take p16.toNat).drop 0).length≤LIM)) <|
 chk (decide ((((a0.take p16.toNat).drop 0)++[a1]).length≤LIM)) <|
 chk ((decide (0≤p16)&&decide (p16.toNat≤a0.length)&&decide (a0.length≤a0.length))) <|
 chk (decide (((((a0.take p16.toNat).drop 0)++[a1])++((a0.take a0.length).drop p16.toNat)).length≤LIM)) <|
 some ((((a0.take p16.toNat).drop 0)++[a1])++((a0.take a0.length).drop p16.toNat))
theorem A5p (a0:(List A1)) (a1:A1) (r:(List A1)) (h:A1i a0 a1=some r):AC Tryz.prog 83 [(.d (.list 3 (a0.map A8))),(.d (A8 a1))] [] (.d (.list 3 (r.map A8))) []:=by
 refine ac2 Tryz.func83 rfl rfl fun B hB hN L => ?_
 delta A1i at h
 refine sr (SQ tt) ?_
 refine sr (SQ tt) ?_
 apply seq
 apply block
 obtain⟨p16,hx25,h⟩:=bindS h
 refine lg (A1p a0 a1) (fun s1:Int=>([(0,(B2 a0)),(3,(pt 1003)),(5,(i6 s1))]:EL)) (fun s1:Int=>([(1003,bd 69 (A8 a1))]:OL)) (fun(p16:(Int)) e E' O'=>e = .exit 0∧Mat B E' O' ([(0,(B2 a0)),(3,(pt 1003)),(5,(i6 p16))]:EL) ([(1003,bd 69 (A8 a1))]:OL)) hx25 (mp [] _ _ hB) (fun s1 y h => ?_) (fun e E' O' hR => ?_)
 ·unfold A1p at h
  apply seq
  apply seq
  refine AWp.cut h (fun m19:Bool=>([(0,(B2 a0)),(3,(pt 1003)),(5,(i6 s1)),(19,(bo m19))]:EL)) (fun m19:Bool=>([(1003,bd 69 (A8 a1))]:OL)) (fun m19 h E' O' hmat => ?_) (fun j20 hjj20 h => ?_)
  ·apply A0
   refine ghost hmat ?_
   apply AWp.cond rfl<;>intro hg21
   ·have h:=A5 hg21 h
    apply AWp.skip
    apply A0
    apply block
    refine rg (SQ tt) ?_
    apply E4
    obtain rfl:=oi h
    exact⟨rfl,(mp [] _ _ hB)⟩
   ·have h:=A6 hg21 h
    apply AWp.exit
    apply E5
    obtain rfl:=oi h
    exact⟨(fun hc=>by cases hc),rfl,(mp [] _ _ hB)⟩
  ·rcases bft (decide (s1<(a0.length:Int))) with hg22 | hg22
   ·have h:=A5 hg22 h
    obtain⟨_,hx23,h⟩:=bindS h
    refine drS (SQ (fa hg22 (fa hx23 tt))) ?_
    exact hjj20 _ h _ _ (mp [] _ _ hB)
   ·have h:=A6 hg22 h
    refine drS (SQ (fa hg22 tt)) ?_
    exact hjj20 _ h _ _ (mp [] _ _ hB)
 ·obtain⟨rfl,hmat⟩:=hR
  apply C6
  apply A0
  refine ghost hmat ?_
  obtain⟨hc26,h⟩:=C0 h
  obtain⟨hc27,h⟩:=C0 h
  obtain⟨hc28,h⟩:=C0 h
  obtain⟨hc29,h⟩:=C0 h
  obtain⟨hc30,h⟩:=C0 h
  refine sdS (SQ (fa hc26 (fa hc27 (fa hc28 (fa hc29 (fa hc30 tt)))))) ?_
  apply ret
  obtain rfl:=oi h
  exact rt (Mat.trans (Mat.freezeP (n:=1032) (e:=69) (sz:=3) (es:=((((a0.take p16.toNat).drop 0)++[a1])++((a0.take a0.length).drop p16.toNat)).map A8) (Ts:=[(4,(B2 ((((a0.take p16.toNat).drop 0)++[a1])++((a0.take a0.length).drop p16.toNat))))]) (Bs:=[]) (by rfl) (TwT.cons (x:=(.sref 1032 3 0 (((((a0.take p16.toNat).drop 0)++[a1])++((a0.take a0.length).drop p16.toNat)).length))) (by rfl) (FrzL.all (by first | rfl | (simp;done) | (simp;omega) | omega)) TwT.nil) TwB.nil) (mp [] [(4,(B2 ((((a0.take p16.toNat).drop 0)++[a1])++((a0.take a0.length).drop p16.toNat))))] [] hB)) [(B2 ((((a0.take p16.toNat).drop 0)++[a1])++((a0.take a0.length).drop p16.toNat)))] (rT rN) rfl
def X0 (a0:(List A1)) (s1:Int):Option (((Unit)⊕(Unit))⊕(Int)) :=
 (if (decide (s1<(a0.length:Int)))=true then
 (idx a0 s1).bind fun x11 =>
 (if (((((decide (x11.fFlags<0)) || (decide (255<x11.fFlags))) || (decide (x11.fType<0))) || (decide (255<x11.fType))) || (decide (65535<(x11.fData.length:Int))))=true then
 some (.inl (.inl ()))
 else
 some (.inr (w64 (s1+1))))
 else
 some (.inl (.inr ())))
def X1 (a0:(List A1)) (s15:Int×(List Int)):Option ((((List Int)))⊕(Int×(List Int))) :=
 (if (decide (s15.1<(a0.length:Int)))=true then
 (idx a0 s15.1).bind fun x40 =>
 jn (fun m44:(List Int) =>
 chk (decide ((m44++x40.fData).length≤LIM)) <|
 some (.inr ((w64 (s15.1+1)),(m44++x40.fData)))) (fun j45 =>
 (if (decide (255<(x40.fData.length:Int)))=true then
 chk (decide ((s15.2++([(bitI .or .u8 (bitI .and .u8 (IntKind.u8.wrap x40.fFlags) 224) 16),(IntKind.u8.wrap x40.fType),(IntKind.u8.wrap (shrI .i64 (x40.fData.length:Int) 8)),(IntKind.u8.wrap (x40.fData.length:Int))]:List Int)).length≤LIM)) <|
 j45 (s15.2++([(bitI .or .u8 (bitI .and .u8 (IntKind.u8.wrap x40.fFlags) 224) 16),(IntKind.u8.wrap x40.fType),(IntKind.u8.wrap (shrI .i64 (x40.fData.length:Int) 8)),(IntKind.u8.wrap (x40.fData.length:Int))]:List Int))
 else
 chk (decide ((s15.2++([(bitI .and .u8 (IntKind.u8.wrap x40.fFlags) 224),(IntKind.u8.wrap x40.fType),(IntKind.u8.wrap (x40.fData.length:Int))]:List Int)).length≤LIM)) <|
 j45 (s15.2++([(bitI .and .u8 (IntKind.u8.wrap x40.fFlags) 224),(IntKind.u8.wrap x40.fType),(IntKind.u8.wrap (x40.fData.length:Int))]:List Int))))
 else
 some (.inl s15.2))
def A0f (a0:(List A1)):Option ((List Int)×Int) :=
 (loop (X0 a0) 0).bind fun x13=>match x13 with
 | (.inl _) =>
  some (([]:List Int),1)
 | (.inr _) =>
  (loop (X1 a0) (0,([]:List Int))).bind fun p38 =>
  (if (decide (2048<(p38.length:Int)))=true then
  some (([]:List Int),3)
  else
  some (p38,0))
theorem A91 (a0:(List A1)) (r:(List Int)×Int) (h:A0f a0=some r):AC Tryz.prog 85 [(.d (.list 3 (a0.map A8)))] [] (.tup [(.d (.list 1 (r.1.map (eI .u8)))),(.d (.int .i64 r.2))]) []:=by
 refine ac2 Tryz.func85 rfl rfl fun B hB hN L => ?_
 delta A0f at h
 refine sr (SQ tt) ?_
 apply seq
 refine sr (SQ tt) ?_
 apply block
 obtain⟨x13,hx14,h⟩:=bindS h
 refine lg (X0 a0) (fun s1:Int=>([(0,(B2 a0)),(10,(B2 a0)),(11,(i6 (a0.length:Int))),(12,(i6 s1))]:EL)) (fun s1:Int=>([]:OL)) (fun(x:(Unit)⊕(Unit)) e E' O'=>match x with | (.inl _p)=>e = .ret∧Mat B E' O' ([(2,.nils),(3,(i6 1))]:EL) ([]:OL) | (.inr _p)=>e = .exit 0∧Mat B E' O' ([(0,(B2 a0))]:EL) ([]:OL)) hx14 (mp [] _ _ hB) (fun s1 y h => ?_) (fun e E' O' hR => ?_)
 ·unfold X0 at h
  refine sr (SQ tt) ?_
  apply seq
  apply AWp.cond rfl<;>intro hg10
  ·have h:=A5 hg10 h
   apply AWp.skip
   apply A0
   apply seq
   apply block
   obtain⟨_,hx11,h⟩:=bindS h
   refine sr (SQ (fa hx11 tt)) ?_
   refine sr (SQ tt) ?_
   apply AWp.cond rfl<;>intro hg12
   ·have h:=A5 hg12 h
    refine sr (SQ tt) ?_
    apply ret
    apply D7
    apply B9
    obtain rfl:=oi h
    exact⟨(fun hc=>by cases hc),rfl,(mp [] _ _ hB)⟩
   ·have h:=A6 hg12 h
    apply AWp.skip
    apply E4
    apply A0
    refine rg (SQ tt) ?_
    obtain rfl:=oi h
    exact⟨rfl,(mp [] _ _ hB)⟩
  ·have h:=A6 hg10 h
   apply AWp.exit
   apply E5
   obtain rfl:=oi h
   exact⟨(fun hc=>by cases hc),rfl,(mp [] _ _ hB)⟩
 ·rcases x13 with _ | _
  ·obtain⟨rfl,hmat⟩:=hR
   apply D7
   apply B9
   obtain rfl:=oi h
   exact rt (Mat.trans hmat (Mat.trans (Mat.coeP (Ts:=[(2,(.d (.list 1 (([]:List Int).map (eI .u8)))))]) (Bs:=[]) (TwT.cons (x:=.nils) (by rfl) (Tw.leaf ⟨_,(Co.nils 1),rfl⟩) TwT.nil) TwB.nil) (mp [] [(2,(.d (.list 1 (([]:List Int).map (eI .u8))))),(3,(i6 1))] [] hB))) [(.d (.list 1 (([]:List Int).map (eI .u8)))),(i6 1)] (rT (rT rN)) rfl
  ·obtain⟨rfl,hmat⟩:=hR
   apply C6
   apply A0
   refine ghost hmat ?_
   refine sr (SQ tt) ?_
   apply seq
   refine sr (SQ tt) ?_
   apply block
   obtain⟨p38,hx51,h⟩:=bindS h
   refine lg (X1 a0) (fun s15:Int×(List Int)=>([(6,(.sref 3006 1 0 s15.2.length)),(41,(B2 a0)),(42,(i6 (a0.length:Int))),(43,(i6 s15.1))]:EL)) (fun s15:Int×(List Int)=>([(3006,some (.row 5 1 (s15.2.map (eI .u8))))]:OL)) (fun(p38:((List Int))) e E' O'=>e = .exit 2∧Mat B E' O' ([(6,(.sref 3006 1 0 p38.length))]:EL) ([(3006,some (.row 5 1 (p38.map (eI .u8))))]:OL)) hx51 (Mat.trans (Mat.beginP (n:=3006) (e:=5) (sz:=1) (Ts:=[(6,(.sref 3006 1 0 0))]) (Bs:=[]) hB (by decide) (by rfl) (by decide) (TwT.cons (x:=.nils) (by rfl) (Tw.leaf ⟨rfl,rfl⟩) TwT.nil) TwB.nil) (mp [] _ _ hB)) (fun s15 y h => ?_) (fun e E' O' hR => ?_)
   ·unfold X1 at h
    refine sr (SQ tt) ?_
    apply seq
    apply AWp.cond rfl<;>intro hg39
    ·have h:=A5 hg39 h
     apply AWp.skip
     apply A0
     apply seq
     apply block
     obtain⟨x40,hx40,h⟩:=bindS h
     refine sr (SQ (fa hx40 tt)) ?_
     refine sr (SQ tt) ?_
     apply seq
     refine sr (SQ tt) ?_
     refine gh [(6,_),(8,_),(9,_),(41,_),(42,_),(43,_),(51,_)] [(1008,some _),(3006,some _)] hB rfl rfl (by rfl) ?_
     refine AWp.cut h (fun m44:(List Int)=>([(6,(.sref 3006 1 0 m44.length)),(8,(pt 1008)),(41,(B2 a0)),(42,(i6 (a0.length:Int))),(43,(i6 s15.1))]:EL)) (fun m44:(List Int)=>([(1008,bd 69 (A8 x40)),(3006,some (.row 5 1 (m44.map (eI .u8))))]:OL)) (fun m44 h E' O' hmat => ?_) (fun j45 hjj45 h => ?_)
     ·apply A0
      refine ghost hmat ?_
      obtain⟨hc46,h⟩:=C0 h
      refine rg (SQ (fa hc46 tt)) ?_
      apply E4
      apply A0
      refine rg (SQ tt) ?_
      obtain rfl:=oi h
      exact⟨rfl,(mp [(3006,1083)] _ _ hB)⟩
     ·apply AWp.cond rfl<;>intro hg47
      ·have h:=A5 hg47 h
       obtain⟨hc48,h⟩:=C0 h
       refine rg (SQ (fa hc48 tt)) ?_
       exact hjj45 _ h _ _ (mp [(3006,1067)] _ _ hB)
      ·have h:=A6 hg47 h
       obtain⟨hc49,h⟩:=C0 h
       refine rg (SQ (fa hc49 tt)) ?_
       exact hjj45 _ h _ _ (mp [(3006,1079)] _ _ hB)
    ·have h:=A6 hg39 h
     apply AWp.exit
     apply E5
     obtain rfl:=oi h
     exact⟨(fun hc=>by cases hc),rfl,(mp [] _ _ hB)⟩
   ·obtain⟨rfl,hmat⟩:=hR
    apply C6
    apply A0
    refine ghost hmat ?_
    apply seq
    refine sr (SQ tt) ?_
    apply AWp.cond rfl<;>intro hg52
    ·have h:=A5 hg52 h
     refine sr (SQ tt) ?_
     apply ret
     apply B9
     obtain rfl:=oi h
     exact rt (Mat.trans (Mat.coeP (Ts:=[(2,(.d (.list 1 (([]:List Int).map (eI .u8)))))]) (Bs:=[]) (TwT.cons (x:=.nils) (by rfl) (Tw.leaf ⟨_,(Co.nils 1),rfl⟩) TwT.nil) TwB.nil) (mp [] [(2,(.d (.list 1 (([]:List Int).map (eI .u8))))),(3,(i6 3))] [] hB)) [(.d (.list 1 (([]:List Int).map (eI .u8)))),(i6 3)] (rT (rT rN)) rfl
    ·have h:=A6 hg52 h
     apply AWp.skip
     apply A0
     refine sr (SQ tt) ?_
     apply ret
     obtain rfl:=oi h
     exact rt (Mat.trans (Mat.freezeP (n:=3006) (e:=5) (sz:=1) (es:=p38.map (eI .u8)) (Ts:=[(2,(.d (.list 1 (p38.map (eI .u8)))))]) (Bs:=[]) (by rfl) (TwT.cons (x:=(.sref 3006 1 0 p38.length)) (by rfl) (FrzL.all (by first | rfl | (simp;done) | (simp;omega) | omega)) TwT.nil) TwB.nil) (mp [] [(2,(.d (.list 1 (p38.map (eI .u8))))),(3,(i6 0))] [] hB)) [(.d (.list 1 (p38.map (eI .u8)))),(i6 0)] (rT (rT rN)) rfl
end
end Go.Proofs.YtkhjkjojjdkidaaGreatDoor
