/- Printed by gen.py: the Go functions as plain functions, and that the code does what they say. -/
import Derived.Test.YtgfoabcickjphaaGreatDoorChecked
import Derived.Test.YtgfoabcickjphaaGreatDoorVcYB
import Derived.Test.YtgfoabcickjphaaGreatDoorVcZ
import Derived.KernelRfl
import Derived.Test.YtgfoabcickjphaaGreatDoorVcMD
import Derived.Test.YtgfoabcickjphaaGreatDoorVcMQ
import Derived.Test.YtgfoabcickjphaaGreatDoorVcSG
import Derived.Test.YtgfoabcickjphaaGreatDoorFnsC
import Derived.Test.YtgfoabcickjphaaGreatDoorExt
import Derived.Test.YtgfoabcickjphaaGreatDoorVcGl
import Derived.Test.YtgfoabcickjphaaGreatDoorVcWS
namespace Go.Proofs.YtgfoabcickjphaaGreatDoor
open Go Go.Vc
open Tryz
open Go.Vc.OpJ (assign alloc lss pickT pickF extract lenD indexD loadD eqlI gtr callVal leq geq loadR nilP indexS buildSlice lenS fieldD neqI pickAnd pickOr)
set_option maxHeartbeats 4000000
set_option maxRecDepth 100000
noncomputable section
def xmake_Deck_Addr (a0:xmake_Deck):Option (aAddr×xmake_Deck) :=
 (xmake_Deck_Next a0 6).bind fun r1 =>
 (if (r1.1==0)=true then
 (xmake_Deck_Next r1.2 8).bind fun r3 =>
 (xmake_Deck_Next r3.2 4).bind fun r4 =>
 some ((aAddr.mk false 0 (IntKind.u64.wrap (w64 ((w64 (167772160+(shlI .i64 r3.1 8)))+r4.1)))),r4.2)
 else
 (if (r1.1==1)=true then
 (xmake_Deck_Next r1.2 4).bind fun r6 =>
 (xmake_Deck_Next r6.2 8).bind fun r7 =>
 some ((aAddr.mk true (IntKind.u64.wrap (2306139568115548160+(IntKind.u64.wrap r6.1))) (IntKind.u64.wrap r7.1)),r7.2)
 else
 (if (r1.1==2)=true then
 (xmake_Deck_Next r1.2 5).bind fun r9 =>
 (idx ([0,1,4294967295,2147483647,2147483648]:List Int) r9.1).bind fun x10 =>
 some ((aAddr.mk false 0 x10),r9.2)
 else
 (if (r1.1==3)=true then
 (xmake_Deck_Next r1.2 4).bind fun r12 =>
 (idx ([0,1,18446744073709551615,9223372036854775808]:List Int) r12.1).bind fun x13 =>
 (xmake_Deck_Next r12.2 4).bind fun r14 =>
 (idx ([0,1,18446744073709551615,9223372036854775808]:List Int) r14.1).bind fun x15 =>
 some ((aAddr.mk true x13 x15),r14.2)
 else
 (if (r1.1==4)=true then
 (xmake_Deck_Next r1.2 1073741824).bind fun r17 =>
 (xmake_Deck_Next r17.2 5).bind fun r18 =>
 (xmake_Deck_Next r18.2 1073741824).bind fun r19 =>
 (xmake_Deck_Next r19.2 5).bind fun r20 =>
 some ((aAddr.mk true (shlI .u64 (IntKind.u64.wrap r17.1) (IntKind.u64.wrap (w64 (r18.1*8)))) (shlI .u64 (IntKind.u64.wrap r19.1) (IntKind.u64.wrap (w64 (r20.1*8))))),r20.2)
 else
 (xmake_Deck_Next r1.2 1073741824).bind fun r21 =>
 some ((aAddr.mk false 0 (IntKind.u64.wrap r21.1)),r21.2))))))
theorem xmake_Deck_Addr_ac (a0:xmake_Deck) (r:aAddr×xmake_Deck) (h:xmake_Deck_Addr a0=some r):AC Tryz.prog 43 [(pt 0)] [(0,(.box 80 (.d (e_xmake_Deck a0))))] (.d (e_aAddr r.1)) [(0,bd 80 (e_xmake_Deck r.2))]:=by
 refine ac2 Tryz.func43 rfl rfl fun B hB hN L => ?_
 delta xmake_Deck_Addr at h
 apply sr (cg (alloc hB tyZ44 (nm:=1002) (by decide) (L rfl)) rfl cn)
 apply AWp.seq
 apply AWp.seq
 obtain⟨r1,hr1,h⟩:=bindS h
 refine AWp.region (oc (mv hN (ot 0 (pt 0)))
 (oc (OpJ.callFn hB fnOk30 (xmake_Deck_Next_ac a0 6 r1 hr1) [(0,0)] (by kernel_rfl) (L rfl) (by kernel_rfl) (OpdL.cons (ot 3 (pt 0)) (OpdL.cons (ii 6) OpdL.nil)))
 (OpJs.nil))) (by rfl) (by rfl) ?_
 apply seqQ_n
 refine AWp.ghost (mp [] [(0,(pt 0)),(2,(pt 1002)),(4,(i6 r1.1))] [(0,bd 80 (e_xmake_Deck r1.2)),(1002,bd 44 (.st [(.bool false),(.int .u64 0),(.int .u64 0)]))] hB) ?_
 apply AWp.block
 apply sr (c (eqlI (L rfl) (q 4) (ii 0)) rfl (c (assign (L rfl) (q 6)) rfl cn))
 apply AWp.cond rfl<;>intro hg2
 ·have h:=ite_t hg2 h
  apply AWp.seq
  obtain⟨r3,hr3,h⟩:=bindS h
  obtain⟨r4,hr4,h⟩:=bindS h
  refine AWp.region (oc (mv hN (ot 0 (pt 0)))
   (oc (OpJ.callFn hB fnOk30 (xmake_Deck_Next_ac r1.2 8 r3 hr3) [(0,0)] (by kernel_rfl) (L rfl) (by kernel_rfl) (OpdL.cons (ot 7 (pt 0)) (OpdL.cons (ii 8) OpdL.nil)))
   (oc (OpJ.shl (L rfl) (ot 8 (i6 r3.1)) (Opd.int .u64 (8)) (by decide))
   (oc (add6 (L rfl) (ii 167772160) (ot 9 (i6 (shlI .i64 r3.1 8))))
   (oc (mv hN (ot 0 (pt 0)))
   (oc (OpJ.callFn hB fnOk30 (xmake_Deck_Next_ac r3.2 4 r4 hr4) [(0,0)] (by kernel_rfl) (L rfl) (by kernel_rfl) (OpdL.cons (ot 11 (pt 0)) (OpdL.cons (ii 4) OpdL.nil)))
   (oc (add6 (L rfl) (ot 10 (i6 (w64 (167772160+(shlI .i64 r3.1 8))))) (ot 12 (i6 r4.1)))
   (oc (OpJ.conv underlying3 underlying42 (L rfl) (ot 13 (i6 (w64 ((w64 (167772160+(shlI .i64 r3.1 8)))+r4.1)))))
   (oc (OpJ.coe (v:=(.st [(bo false),(.d (.int .u64 0)),(.d (.int .u64 (IntKind.u64.wrap (w64 ((w64 (167772160+(shlI .i64 r3.1 8)))+r4.1)))))])) (y:=(.st [(.bool false),(.int .u64 0),(.int .u64 (IntKind.u64.wrap (w64 ((w64 (167772160+(shlI .i64 r3.1 8)))+r4.1))))])) (Co.st (CoL.cons (Co.d _) (CoL.cons (Co.d _) (CoL.cons (Co.d _) CoL.nil)))) rfl (OpJ.build (places:=[(0,1),(1,1),(2,1)]) ⟨underlying44,fun w=>by kernel_rfl⟩ tyZS44 (Opds.cons (ot 14 (.d (.int .u64 (IntKind.u64.wrap (w64 ((w64 (167772160+(shlI .i64 r3.1 8)))+r4.1)))))) Opds.nil) (by kernel_rfl) (r:=(.st [(bo false),(.d (.int .u64 0)),(.d (.int .u64 (IntKind.u64.wrap (w64 ((w64 (167772160+(shlI .i64 r3.1 8)))+r4.1)))))])) (by rfl) (L rfl)))
   (oc (OpJ.storeB (bt:=44) (c:=(.d (.st [(.bool false),(.int .u64 0),(.int .u64 0)]))) (v:=(.d (.st [(.bool false),(.int .u64 0),(.int .u64 (IntKind.u64.wrap (w64 ((w64 (167772160+(shlI .i64 r3.1 8)))+r4.1))))]))) (c':=(.d (.st [(.bool false),(.int .u64 0),(.int .u64 (IntKind.u64.wrap (w64 ((w64 (167772160+(shlI .i64 r3.1 8)))+r4.1))))]))) tyS44 (SetAt.here _ _) (by rfl) (by rfl) (by simp) rfl (ot 2 (pt 1002)) (ot 15 (.d (.st [(.bool false),(.int .u64 0),(.int .u64 (IntKind.u64.wrap (w64 ((w64 (167772160+(shlI .i64 r3.1 8)))+r4.1))))]))))
   (OpJs.nil))))))))))) (by rfl) (by rfl) ?_
  apply seqQ_n
  refine AWp.ghost (mp [] [(2,(pt 1002))] [(0,bd 80 (e_xmake_Deck r4.2)),(1002,some (.box 44 (.d (.st [(.bool false),(.int .u64 0),(.int .u64 (IntKind.u64.wrap (w64 ((w64 (167772160+(shlI .i64 r3.1 8)))+r4.1))))]))))] hB) ?_
  apply AWp.ret
  apply blkQ_r
  apply seqQ_r
  obtain rfl:=oi h
  exact rt (kp [(2,_)] [(0,some _),(1002,some _)] hB rfl rfl (by rfl)) [(.d (.st [(.bool false),(.int .u64 0),(.int .u64 (IntKind.u64.wrap (w64 ((w64 (167772160+(shlI .i64 r3.1 8)))+r4.1))))]))] (Res.cell (c:=(.d (.st [(.bool false),(.int .u64 0),(.int .u64 (IntKind.u64.wrap (w64 ((w64 (167772160+(shlI .i64 r3.1 8)))+r4.1))))]))) (by rfl) (by rfl) tyS44 (by rfl) (by rfl) (by rfl) Res.nil) rfl
 ·have h:=ite_f hg2 h
  apply sr (c (eqlI (L rfl) (q 4) (ii 1)) rfl (c (assign (L rfl) (q 17)) rfl cn))
  apply AWp.cond rfl<;>intro hg5
  ·have h:=ite_t hg5 h
   apply AWp.seq
   obtain⟨r6,hr6,h⟩:=bindS h
   obtain⟨r7,hr7,h⟩:=bindS h
   refine AWp.region (oc (mv hN (ot 0 (pt 0)))
    (oc (OpJ.callFn hB fnOk30 (xmake_Deck_Next_ac r1.2 4 r6 hr6) [(0,0)] (by kernel_rfl) (L rfl) (by kernel_rfl) (OpdL.cons (ot 18 (pt 0)) (OpdL.cons (ii 4) OpdL.nil)))
    (oc (OpJ.conv underlying3 underlying42 (L rfl) (ot 19 (i6 r6.1)))
    (oc (OpJ.add (L rfl) (Opd.int .u64 (2306139568115548160)) (ot 20 (.d (.int .u64 (IntKind.u64.wrap r6.1)))))
    (oc (mv hN (ot 0 (pt 0)))
    (oc (OpJ.callFn hB fnOk30 (xmake_Deck_Next_ac r6.2 8 r7 hr7) [(0,0)] (by kernel_rfl) (L rfl) (by kernel_rfl) (OpdL.cons (ot 22 (pt 0)) (OpdL.cons (ii 8) OpdL.nil)))
    (oc (OpJ.conv underlying3 underlying42 (L rfl) (ot 23 (i6 r7.1)))
    (oc (OpJ.coe (v:=(.st [(bo true),(.d (.int .u64 (IntKind.u64.wrap (2306139568115548160+(IntKind.u64.wrap r6.1))))),(.d (.int .u64 (IntKind.u64.wrap r7.1)))])) (y:=(.st [(.bool true),(.int .u64 (IntKind.u64.wrap (2306139568115548160+(IntKind.u64.wrap r6.1)))),(.int .u64 (IntKind.u64.wrap r7.1))])) (Co.st (CoL.cons (Co.d _) (CoL.cons (Co.d _) (CoL.cons (Co.d _) CoL.nil)))) rfl (OpJ.build (places:=[(0,1),(1,1),(2,1)]) ⟨underlying44,fun w=>by kernel_rfl⟩ tyZS44 (Opds.cons (Opd.bool true) (Opds.cons (ot 21 (.d (.int .u64 (IntKind.u64.wrap (2306139568115548160+(IntKind.u64.wrap r6.1)))))) (Opds.cons (ot 24 (.d (.int .u64 (IntKind.u64.wrap r7.1)))) Opds.nil))) (by kernel_rfl) (r:=(.st [(bo true),(.d (.int .u64 (IntKind.u64.wrap (2306139568115548160+(IntKind.u64.wrap r6.1))))),(.d (.int .u64 (IntKind.u64.wrap r7.1)))])) (by rfl) (L rfl)))
    (oc (OpJ.storeB (bt:=44) (c:=(.d (.st [(.bool false),(.int .u64 0),(.int .u64 0)]))) (v:=(.d (.st [(.bool true),(.int .u64 (IntKind.u64.wrap (2306139568115548160+(IntKind.u64.wrap r6.1)))),(.int .u64 (IntKind.u64.wrap r7.1))]))) (c':=(.d (.st [(.bool true),(.int .u64 (IntKind.u64.wrap (2306139568115548160+(IntKind.u64.wrap r6.1)))),(.int .u64 (IntKind.u64.wrap r7.1))]))) tyS44 (SetAt.here _ _) (by rfl) (by rfl) (by simp) rfl (ot 2 (pt 1002)) (ot 25 (.d (.st [(.bool true),(.int .u64 (IntKind.u64.wrap (2306139568115548160+(IntKind.u64.wrap r6.1)))),(.int .u64 (IntKind.u64.wrap r7.1))]))))
    (OpJs.nil)))))))))) (by rfl) (by rfl) ?_
   apply seqQ_n
   refine AWp.ghost (mp [] [(2,(pt 1002))] [(0,bd 80 (e_xmake_Deck r7.2)),(1002,some (.box 44 (.d (.st [(.bool true),(.int .u64 (IntKind.u64.wrap (2306139568115548160+(IntKind.u64.wrap r6.1)))),(.int .u64 (IntKind.u64.wrap r7.1))]))))] hB) ?_
   apply AWp.ret
   apply blkQ_r
   apply seqQ_r
   obtain rfl:=oi h
   exact rt (kp [(2,_)] [(0,some _),(1002,some _)] hB rfl rfl (by rfl)) [(.d (.st [(.bool true),(.int .u64 (IntKind.u64.wrap (2306139568115548160+(IntKind.u64.wrap r6.1)))),(.int .u64 (IntKind.u64.wrap r7.1))]))] (Res.cell (c:=(.d (.st [(.bool true),(.int .u64 (IntKind.u64.wrap (2306139568115548160+(IntKind.u64.wrap r6.1)))),(.int .u64 (IntKind.u64.wrap r7.1))]))) (by rfl) (by rfl) tyS44 (by rfl) (by rfl) (by rfl) Res.nil) rfl
  ·have h:=ite_f hg5 h
   apply sr (c (eqlI (L rfl) (q 4) (ii 2)) rfl (c (assign (L rfl) (q 27)) rfl cn))
   apply AWp.cond rfl<;>intro hg8
   ·have h:=ite_t hg8 h
    apply AWp.seq
    obtain⟨r9,hr9,h⟩:=bindS h
    obtain⟨x10,hx10,h⟩:=bindS h
    refine AWp.region (oc (buildSlice underlying128 tyS42 tyZD42 (by rfl) (by decide) (by decide) (Opds.cons (Opd.int .u64 (0)) (Opds.cons (Opd.int .u64 (1)) (Opds.cons (Opd.int .u64 (4294967295)) (Opds.cons (Opd.int .u64 (2147483647)) (Opds.cons (Opd.int .u64 (2147483648)) Opds.nil))))) (by kernel_rfl) (es:=([(.int .u64 0),(.int .u64 1),(.int .u64 4294967295),(.int .u64 2147483647),(.int .u64 2147483648)]:List D)) (by rfl) (by rfl) (by kernel_rfl) (by simp) (L rfl))
     (oc (mv hN (ot 0 (pt 0)))
     (oc (OpJ.callFn hB fnOk30 (xmake_Deck_Next_ac r1.2 5 r9 hr9) [(0,0)] (by kernel_rfl) (L rfl) (by kernel_rfl) (OpdL.cons (ot 29 (pt 0)) (OpdL.cons (ii 5) OpdL.nil)))
     (oc (indexD (el:=(.int .u64 x10)) underlying128 tyS42 (idx_some hx10).1 (get_map (eI .u64) (idx_some hx10).2) (L rfl) (ot 28 (.d (.list 1 (([0,1,4294967295,2147483647,2147483648]:List Int).map (eI .u64))))) (ot 30 (i6 r9.1)))
     (oc (loadD tyS42 (by rfl) (by rfl) (L rfl) (ot 31 (.dptr (.int .u64 x10))))
     (oc (OpJ.coe (v:=(.st [(bo false),(.d (.int .u64 0)),(.d (.int .u64 x10))])) (y:=(.st [(.bool false),(.int .u64 0),(.int .u64 x10)])) (Co.st (CoL.cons (Co.d _) (CoL.cons (Co.d _) (CoL.cons (Co.d _) CoL.nil)))) rfl (OpJ.build (places:=[(0,1),(1,1),(2,1)]) ⟨underlying44,fun w=>by kernel_rfl⟩ tyZS44 (Opds.cons (ot 32 (.d (.int .u64 x10))) Opds.nil) (by kernel_rfl) (r:=(.st [(bo false),(.d (.int .u64 0)),(.d (.int .u64 x10))])) (by rfl) (L rfl)))
     (oc (OpJ.storeB (bt:=44) (c:=(.d (.st [(.bool false),(.int .u64 0),(.int .u64 0)]))) (v:=(.d (.st [(.bool false),(.int .u64 0),(.int .u64 x10)]))) (c':=(.d (.st [(.bool false),(.int .u64 0),(.int .u64 x10)]))) tyS44 (SetAt.here _ _) (by rfl) (by rfl) (by simp) rfl (ot 2 (pt 1002)) (ot 33 (.d (.st [(.bool false),(.int .u64 0),(.int .u64 x10)]))))
     (OpJs.nil)))))))) (by rfl) (by rfl) ?_
    apply seqQ_n
    refine AWp.ghost (mp [] [(2,(pt 1002))] [(0,bd 80 (e_xmake_Deck r9.2)),(1002,bd 44 (.st [(.bool false),(.int .u64 0),(.int .u64 x10)]))] hB) ?_
    apply AWp.ret
    apply blkQ_r
    apply seqQ_r
    obtain rfl:=oi h
    exact rt (kp [(2,_)] [(0,some _),(1002,some _)] hB rfl rfl (by rfl)) [(.d (.st [(.bool false),(.int .u64 0),(.int .u64 x10)]))] (Res.cell (c:=(.d (.st [(.bool false),(.int .u64 0),(.int .u64 x10)]))) (by rfl) (by rfl) tyS44 (by rfl) (by rfl) (by rfl) Res.nil) rfl
   ·have h:=ite_f hg8 h
    apply sr (c (eqlI (L rfl) (q 4) (ii 3)) rfl (c (assign (L rfl) (q 35)) rfl cn))
    apply AWp.cond rfl<;>intro hg11
    ·have h:=ite_t hg11 h
     apply AWp.seq
     obtain⟨r12,hr12,h⟩:=bindS h
     obtain⟨x13,hx13,h⟩:=bindS h
     obtain⟨r14,hr14,h⟩:=bindS h
     obtain⟨x15,hx15,h⟩:=bindS h
     refine AWp.draws (by kernel_rfl) (oc (buildSlice underlying128 tyS42 tyZD42 (by rfl) (by decide) (by decide) (Opds.cons (Opd.int .u64 (0)) (Opds.cons (Opd.int .u64 (1)) (Opds.cons (Opd.int .u64 (18446744073709551615)) (Opds.cons (Opd.int .u64 (9223372036854775808)) Opds.nil)))) (by kernel_rfl) (es:=([(.int .u64 0),(.int .u64 1),(.int .u64 18446744073709551615),(.int .u64 9223372036854775808)]:List D)) (by rfl) (by rfl) (by kernel_rfl) (by simp) (L rfl))
      (oc (mv hN (ot 0 (pt 0)))
      (oc (OpJ.callFn hB fnOk30 (xmake_Deck_Next_ac r1.2 4 r12 hr12) [(0,0)] (by kernel_rfl) (L rfl) (by kernel_rfl) (OpdL.cons (ot 37 (pt 0)) (OpdL.cons (ii 4) OpdL.nil)))
      (oc (indexD (el:=(.int .u64 x13)) underlying128 tyS42 (idx_some hx13).1 (get_map (eI .u64) (idx_some hx13).2) (L rfl) (ot 36 (.d (.list 1 (([0,1,18446744073709551615,9223372036854775808]:List Int).map (eI .u64))))) (ot 38 (i6 r12.1)))
      (oc (loadD tyS42 (by rfl) (by rfl) (L rfl) (ot 39 (.dptr (.int .u64 x13))))
      (oc (buildSlice underlying128 tyS42 tyZD42 (by rfl) (by decide) (by decide) (Opds.cons (Opd.int .u64 (0)) (Opds.cons (Opd.int .u64 (1)) (Opds.cons (Opd.int .u64 (18446744073709551615)) (Opds.cons (Opd.int .u64 (9223372036854775808)) Opds.nil)))) (by kernel_rfl) (es:=([(.int .u64 0),(.int .u64 1),(.int .u64 18446744073709551615),(.int .u64 9223372036854775808)]:List D)) (by rfl) (by rfl) (by kernel_rfl) (by simp) (L rfl))
      (oc (mv hN (ot 0 (pt 0)))
      (oc (OpJ.callFn hB fnOk30 (xmake_Deck_Next_ac r12.2 4 r14 hr14) [(0,0)] (by kernel_rfl) (L rfl) (by kernel_rfl) (OpdL.cons (ot 42 (pt 0)) (OpdL.cons (ii 4) OpdL.nil)))
      (oc (indexD (el:=(.int .u64 x15)) underlying128 tyS42 (idx_some hx15).1 (get_map (eI .u64) (idx_some hx15).2) (L rfl) (ot 41 (.d (.list 1 (([0,1,18446744073709551615,9223372036854775808]:List Int).map (eI .u64))))) (ot 43 (i6 r14.1)))
      (oc (loadD tyS42 (by rfl) (by rfl) (L rfl) (ot 44 (.dptr (.int .u64 x15))))
      (oc (OpJ.coe (v:=(.st [(bo true),(.d (.int .u64 x13)),(.d (.int .u64 x15))])) (y:=(.st [(.bool true),(.int .u64 x13),(.int .u64 x15)])) (Co.st (CoL.cons (Co.d _) (CoL.cons (Co.d _) (CoL.cons (Co.d _) CoL.nil)))) rfl (OpJ.build (places:=[(0,1),(1,1),(2,1)]) ⟨underlying44,fun w=>by kernel_rfl⟩ tyZS44 (Opds.cons (Opd.bool true) (Opds.cons (ot 40 (.d (.int .u64 x13))) (Opds.cons (ot 45 (.d (.int .u64 x15))) Opds.nil))) (by kernel_rfl) (r:=(.st [(bo true),(.d (.int .u64 x13)),(.d (.int .u64 x15))])) (by rfl) (L rfl)))
      (oc (OpJ.storeB (bt:=44) (c:=(.d (.st [(.bool false),(.int .u64 0),(.int .u64 0)]))) (v:=(.d (.st [(.bool true),(.int .u64 x13),(.int .u64 x15)]))) (c':=(.d (.st [(.bool true),(.int .u64 x13),(.int .u64 x15)]))) tyS44 (SetAt.here _ _) (by rfl) (by rfl) (by simp) rfl (ot 2 (pt 1002)) (ot 46 (.d (.st [(.bool true),(.int .u64 x13),(.int .u64 x15)]))))
      (OpJs.nil))))))))))))) (by kernel_rfl) (by rfl) (by rfl) ?_
     apply seqQ_n
     refine AWp.ghost (mp [] [(2,(pt 1002))] [(0,bd 80 (e_xmake_Deck r14.2)),(1002,bd 44 (.st [(.bool true),(.int .u64 x13),(.int .u64 x15)]))] hB) ?_
     apply AWp.ret
     apply blkQ_r
     apply seqQ_r
     obtain rfl:=oi h
     exact rt (kp [(2,_)] [(0,some _),(1002,some _)] hB rfl rfl (by rfl)) [(.d (.st [(.bool true),(.int .u64 x13),(.int .u64 x15)]))] (Res.cell (c:=(.d (.st [(.bool true),(.int .u64 x13),(.int .u64 x15)]))) (by rfl) (by rfl) tyS44 (by rfl) (by rfl) (by rfl) Res.nil) rfl
    ·have h:=ite_f hg11 h
     apply sr (c (eqlI (L rfl) (q 4) (ii 4)) rfl (c (assign (L rfl) (q 48)) rfl cn))
     apply AWp.cond rfl<;>intro hg16
     ·have h:=ite_t hg16 h
      apply AWp.seq
      obtain⟨r17,hr17,h⟩:=bindS h
      obtain⟨r18,hr18,h⟩:=bindS h
      obtain⟨r19,hr19,h⟩:=bindS h
      obtain⟨r20,hr20,h⟩:=bindS h
      refine AWp.region (oc (mv hN (ot 0 (pt 0)))
       (oc (OpJ.callFn hB fnOk30 (xmake_Deck_Next_ac r1.2 1073741824 r17 hr17) [(0,0)] (by kernel_rfl) (L rfl) (by kernel_rfl) (OpdL.cons (ot 49 (pt 0)) (OpdL.cons (ii 1073741824) OpdL.nil)))
       (oc (OpJ.conv underlying3 underlying42 (L rfl) (ot 50 (i6 r17.1)))
       (oc (mv hN (ot 0 (pt 0)))
       (oc (OpJ.callFn hB fnOk30 (xmake_Deck_Next_ac r17.2 5 r18 hr18) [(0,0)] (by kernel_rfl) (L rfl) (by kernel_rfl) (OpdL.cons (ot 52 (pt 0)) (OpdL.cons (ii 5) OpdL.nil)))
       (oc (mul6 (L rfl) (ot 53 (i6 r18.1)) (ii 8))
       (oc (OpJ.conv underlying3 underlying73 (L rfl) (ot 54 (i6 (w64 (r18.1*8)))))
       (oc (OpJ.shl (L rfl) (ot 51 (.d (.int .u64 (IntKind.u64.wrap r17.1)))) (ot 55 (.d (.int .u64 (IntKind.u64.wrap (w64 (r18.1*8)))))) (wrap_nonneg rfl _))
       (oc (mv hN (ot 0 (pt 0)))
       (oc (OpJ.callFn hB fnOk30 (xmake_Deck_Next_ac r18.2 1073741824 r19 hr19) [(0,0)] (by kernel_rfl) (L rfl) (by kernel_rfl) (OpdL.cons (ot 57 (pt 0)) (OpdL.cons (ii 1073741824) OpdL.nil)))
       (oc (OpJ.conv underlying3 underlying42 (L rfl) (ot 58 (i6 r19.1)))
       (oc (mv hN (ot 0 (pt 0)))
       (oc (OpJ.callFn hB fnOk30 (xmake_Deck_Next_ac r19.2 5 r20 hr20) [(0,0)] (by kernel_rfl) (L rfl) (by kernel_rfl) (OpdL.cons (ot 60 (pt 0)) (OpdL.cons (ii 5) OpdL.nil)))
       (oc (mul6 (L rfl) (ot 61 (i6 r20.1)) (ii 8))
       (oc (OpJ.conv underlying3 underlying73 (L rfl) (ot 62 (i6 (w64 (r20.1*8)))))
       (oc (OpJ.shl (L rfl) (ot 59 (.d (.int .u64 (IntKind.u64.wrap r19.1)))) (ot 63 (.d (.int .u64 (IntKind.u64.wrap (w64 (r20.1*8)))))) (wrap_nonneg rfl _))
       (oc (OpJ.coe (v:=(.st [(bo true),(.d (.int .u64 (shlI .u64 (IntKind.u64.wrap r17.1) (IntKind.u64.wrap (w64 (r18.1*8)))))),(.d (.int .u64 (shlI .u64 (IntKind.u64.wrap r19.1) (IntKind.u64.wrap (w64 (r20.1*8))))))])) (y:=(.st [(.bool true),(.int .u64 (shlI .u64 (IntKind.u64.wrap r17.1) (IntKind.u64.wrap (w64 (r18.1*8))))),(.int .u64 (shlI .u64 (IntKind.u64.wrap r19.1) (IntKind.u64.wrap (w64 (r20.1*8)))))])) (Co.st (CoL.cons (Co.d _) (CoL.cons (Co.d _) (CoL.cons (Co.d _) CoL.nil)))) rfl (OpJ.build (places:=[(0,1),(1,1),(2,1)]) ⟨underlying44,fun w=>by kernel_rfl⟩ tyZS44 (Opds.cons (Opd.bool true) (Opds.cons (ot 56 (.d (.int .u64 (shlI .u64 (IntKind.u64.wrap r17.1) (IntKind.u64.wrap (w64 (r18.1*8))))))) (Opds.cons (ot 64 (.d (.int .u64 (shlI .u64 (IntKind.u64.wrap r19.1) (IntKind.u64.wrap (w64 (r20.1*8))))))) Opds.nil))) (by kernel_rfl) (r:=(.st [(bo true),(.d (.int .u64 (shlI .u64 (IntKind.u64.wrap r17.1) (IntKind.u64.wrap (w64 (r18.1*8)))))),(.d (.int .u64 (shlI .u64 (IntKind.u64.wrap r19.1) (IntKind.u64.wrap (w64 (r20.1*8))))))])) (by rfl) (L rfl)))
       (oc (OpJ.storeB (bt:=44) (c:=(.d (.st [(.bool false),(.int .u64 0),(.int .u64 0)]))) (v:=(.d (.st [(.bool true),(.int .u64 (shlI .u64 (IntKind.u64.wrap r17.1) (IntKind.u64.wrap (w64 (r18.1*8))))),(.int .u64 (shlI .u64 (IntKind.u64.wrap r19.1) (IntKind.u64.wrap (w64 (r20.1*8)))))]))) (c':=(.d (.st [(.bool true),(.int .u64 (shlI .u64 (IntKind.u64.wrap r17.1) (IntKind.u64.wrap (w64 (r18.1*8))))),(.int .u64 (shlI .u64 (IntKind.u64.wrap r19.1) (IntKind.u64.wrap (w64 (r20.1*8)))))]))) tyS44 (SetAt.here _ _) (by rfl) (by rfl) (by simp) rfl (ot 2 (pt 1002)) (ot 65 (.d (.st [(.bool true),(.int .u64 (shlI .u64 (IntKind.u64.wrap r17.1) (IntKind.u64.wrap (w64 (r18.1*8))))),(.int .u64 (shlI .u64 (IntKind.u64.wrap r19.1) (IntKind.u64.wrap (w64 (r20.1*8)))))]))))
       (OpJs.nil))))))))))))))))))) (by rfl) (by rfl) ?_
      apply seqQ_n
      refine AWp.ghost (mp [] [(2,(pt 1002))] [(0,bd 80 (e_xmake_Deck r20.2)),(1002,some (.box 44 (.d (.st [(.bool true),(.int .u64 (shlI .u64 (IntKind.u64.wrap r17.1) (IntKind.u64.wrap (w64 (r18.1*8))))),(.int .u64 (shlI .u64 (IntKind.u64.wrap r19.1) (IntKind.u64.wrap (w64 (r20.1*8)))))]))))] hB) ?_
      apply AWp.ret
      apply blkQ_r
      apply seqQ_r
      obtain rfl:=oi h
      exact rt (kp [(2,_)] [(0,some _),(1002,some _)] hB rfl rfl (by rfl)) [(.d (.st [(.bool true),(.int .u64 (shlI .u64 (IntKind.u64.wrap r17.1) (IntKind.u64.wrap (w64 (r18.1*8))))),(.int .u64 (shlI .u64 (IntKind.u64.wrap r19.1) (IntKind.u64.wrap (w64 (r20.1*8)))))]))] (Res.cell (c:=(.d (.st [(.bool true),(.int .u64 (shlI .u64 (IntKind.u64.wrap r17.1) (IntKind.u64.wrap (w64 (r18.1*8))))),(.int .u64 (shlI .u64 (IntKind.u64.wrap r19.1) (IntKind.u64.wrap (w64 (r20.1*8)))))]))) (by rfl) (by rfl) tyS44 (by rfl) (by rfl) (by rfl) Res.nil) rfl
     ·have h:=ite_f hg16 h
      apply AWp.skip
      apply blkQ_n
      apply seqQ_n
      apply AWp.seq
      obtain⟨r21,hr21,h⟩:=bindS h
      refine AWp.region (oc (mv hN (ot 0 (pt 0)))
       (oc (OpJ.callFn hB fnOk30 (xmake_Deck_Next_ac r1.2 1073741824 r21 hr21) [(0,0)] (by kernel_rfl) (L rfl) (by kernel_rfl) (OpdL.cons (ot 66 (pt 0)) (OpdL.cons (ii 1073741824) OpdL.nil)))
       (oc (OpJ.conv underlying3 underlying42 (L rfl) (ot 67 (i6 r21.1)))
       (oc (OpJ.coe (v:=(.st [(bo false),(.d (.int .u64 0)),(.d (.int .u64 (IntKind.u64.wrap r21.1)))])) (y:=(.st [(.bool false),(.int .u64 0),(.int .u64 (IntKind.u64.wrap r21.1))])) (Co.st (CoL.cons (Co.d _) (CoL.cons (Co.d _) (CoL.cons (Co.d _) CoL.nil)))) rfl (OpJ.build (places:=[(0,1),(1,1),(2,1)]) ⟨underlying44,fun w=>by kernel_rfl⟩ tyZS44 (Opds.cons (ot 68 (.d (.int .u64 (IntKind.u64.wrap r21.1)))) Opds.nil) (by kernel_rfl) (r:=(.st [(bo false),(.d (.int .u64 0)),(.d (.int .u64 (IntKind.u64.wrap r21.1)))])) (by rfl) (L rfl)))
       (oc (OpJ.storeB (bt:=44) (c:=(.d (.st [(.bool false),(.int .u64 0),(.int .u64 0)]))) (v:=(.d (.st [(.bool false),(.int .u64 0),(.int .u64 (IntKind.u64.wrap r21.1))]))) (c':=(.d (.st [(.bool false),(.int .u64 0),(.int .u64 (IntKind.u64.wrap r21.1))]))) tyS44 (SetAt.here _ _) (by rfl) (by rfl) (by simp) rfl (ot 2 (pt 1002)) (ot 69 (.d (.st [(.bool false),(.int .u64 0),(.int .u64 (IntKind.u64.wrap r21.1))]))))
       (OpJs.nil)))))) (by rfl) (by rfl) ?_
      apply seqQ_n
      refine AWp.ghost (mp [] [(2,(pt 1002))] [(0,bd 80 (e_xmake_Deck r21.2)),(1002,bd 44 (.st [(.bool false),(.int .u64 0),(.int .u64 (IntKind.u64.wrap r21.1))]))] hB) ?_
      apply AWp.ret
      obtain rfl:=oi h
      exact rt (kp [(2,_)] [(0,some _),(1002,some _)] hB rfl rfl (by rfl)) [(.d (.st [(.bool false),(.int .u64 0),(.int .u64 (IntKind.u64.wrap r21.1))]))] (Res.cell (c:=(.d (.st [(.bool false),(.int .u64 0),(.int .u64 (IntKind.u64.wrap r21.1))]))) (by rfl) (by rfl) tyS44 (by rfl) (by rfl) (by rfl) Res.nil) rfl
def xmake_Deck_Prefix (a0:xmake_Deck):Option (aPrefix×xmake_Deck) :=
 (xmake_Deck_Addr a0).bind fun r1 =>
 jn (fun m3:Int =>
 (xmake_Deck_Next r1.2 4).bind fun r5 =>
 jn (fun m13:Int×xmake_Deck =>
 (xref02_Make r1.1 m13.1).bind fun r15 =>
 some (r15.1,m13.2)) (fun j14 =>
 (if (r5.1==0)=true then
 (xmake_Deck_Next r5.2 (w64 (m3+1))).bind fun r17 =>
 j14 (r17.1,r17.2)
 else
 (if (r5.1==1)=true then
 (xmake_Deck_Next r5.2 9).bind fun r19 =>
 j14 ((w64 (m3-r19.1)),r19.2)
 else
 (if (r5.1==2)=true then
 (xmake_Deck_Next r5.2 5).bind fun r21 =>
 (idx ([8,22,23,24,16]:List Int) r21.1).bind fun x22 =>
 j14 (x22,r21.2)
 else
 j14 (m3,r5.2)))))) (fun j4 =>
 (if r1.1.fV6=true then
 j4 128
 else
 j4 32))
theorem xmake_Deck_Prefix_ac (a0:xmake_Deck) (r:aPrefix×xmake_Deck) (h:xmake_Deck_Prefix a0=some r):AC Tryz.prog 17 [(pt 0)] [(0,(.box 80 (.d (e_xmake_Deck a0))))] (.d (e_aPrefix r.1)) [(0,bd 80 (e_xmake_Deck r.2))]:=by
 refine ac2 Tryz.func17 rfl rfl fun B hB hN L => ?_
 delta xmake_Deck_Prefix at h
 apply sr (cg (alloc hB tyZ46 (nm:=1002) (by decide) (L rfl)) rfl cn)
 apply AWp.seq
 obtain⟨r1,hr1,h⟩:=bindS h
 refine AWp.region (oc (mv hN (ot 0 (pt 0)))
 (oc (OpJ.callFn hB fnOk43 (xmake_Deck_Addr_ac a0 r1 hr1) [(0,0)] (by kernel_rfl) (L rfl) (by kernel_rfl) (OpdL.cons (ot 7 (pt 0)) OpdL.nil))
 (oc (alloc hB tyZ44 (nm:=1003) (by decide) (L rfl))
 (oc (OpJ.storeB (bt:=44) (c:=(.d (.st [(.bool false),(.int .u64 0),(.int .u64 0)]))) (v:=(.d (e_aAddr r1.1))) (c':=(.d (e_aAddr r1.1))) tyS44 (SetAt.here _ _) (by rfl) (by rfl) (by simp) rfl (ot 3 (pt 1003)) (ot 8 (.d (e_aAddr r1.1))))
 (OpJs.nil))))) (by rfl) (by rfl) ?_
 apply seqQ_n
 refine AWp.ghost (mp [] [(0,(pt 0)),(2,(pt 1002)),(3,(pt 1003))] [(0,bd 80 (e_xmake_Deck r1.2)),(1002,bd 46 (.st [(.st [(.bool false),(.int .u64 0),(.int .u64 0)]),(.int .i64 0)])),(1003,bd 44 (e_aAddr r1.1))] hB) ?_
 apply sr (c (assign (L rfl) (ii 32)) rfl cn)
 apply AWp.seq
 apply sr (c (fo 1003 0 [0] hN underlying44 0 tyS4 (q 3)) rfl (c (la hN 44 tyS4 (q 9)) rfl cn))
 refine gh [(0,_),(2,_),(3,_),(4,_),(10,_)] [(0,some _),(1002,some _),(1003,some _)] hB rfl rfl (by rfl) ?_
 refine AWp.cut h (fun m3:Int=>([(0,(pt 0)),(2,(pt 1002)),(3,(pt 1003)),(4,(i6 m3))]:EL)) (fun m3:Int=>([(0,bd 80 (e_xmake_Deck r1.2)),(1002,bd 46 (.st [(.st [(.bool false),(.int .u64 0),(.int .u64 0)]),(.int .i64 0)])),(1003,bd 44 (e_aAddr r1.1))]:OL)) (fun m3 h E' O' hmat => ?_) (fun j4 hjj4 h => ?_)
 ·apply seqQ_n
  refine AWp.ghost hmat ?_
  apply AWp.seq
  apply AWp.seq
  obtain⟨r5,hr5,h⟩:=bindS h
  refine AWp.region (oc (mv hN (ot 0 (pt 0)))
   (oc (OpJ.callFn hB fnOk30 (xmake_Deck_Next_ac r1.2 4 r5 hr5) [(0,0)] (by kernel_rfl) (L rfl) (by kernel_rfl) (OpdL.cons (ot 11 (pt 0)) (OpdL.cons (ii 4) OpdL.nil)))
   (OpJs.nil))) (by rfl) (by rfl) ?_
  apply seqQ_n
  refine AWp.ghost (mp [] [(0,(pt 0)),(2,(pt 1002)),(3,(pt 1003)),(4,(i6 m3)),(12,(i6 r5.1))] [(0,bd 80 (e_xmake_Deck r5.2)),(1002,bd 46 (.st [(.st [(.bool false),(.int .u64 0),(.int .u64 0)]),(.int .i64 0)])),(1003,bd 44 (e_aAddr r1.1))] hB) ?_
  apply AWp.block
  apply sr (c (eqlI (L rfl) (q 12) (ii 0)) rfl (c (assign (L rfl) (q 14)) rfl cn))
  refine gh [(0,_),(2,_),(3,_),(4,_),(12,_),(13,_)] [(0,some _),(1002,some _),(1003,some _)] hB rfl rfl (by rfl) ?_
  refine AWp.cut h (fun m13:Int×xmake_Deck=>([(2,(pt 1002)),(3,(pt 1003)),(4,(i6 m13.1))]:EL)) (fun m13:Int×xmake_Deck=>([(0,bd 80 (e_xmake_Deck m13.2)),(1002,bd 46 (.st [(.st [(.bool false),(.int .u64 0),(.int .u64 0)]),(.int .i64 0)])),(1003,bd 44 (e_aAddr r1.1))]:OL)) (fun m13 h E' O' hmat => ?_) (fun j14 hjj14 h => ?_)
  ·apply blkQ_n
   apply seqQ_n
   refine AWp.ghost hmat ?_
   obtain⟨r15,hr15,h⟩:=bindS h
   apply sr (c (lb hN 44 _ _ tyS44 (At.here _) (q 3)) rfl (c (mv hN (q 4)) rfl (cg (cf hB fnOk44 (xref02_Make_ac r1.1 m13.1 r15 hr15) (L rfl) (OpdL.cons (q 33) (OpdL.cons (q 34) OpdL.nil))) rfl (c (mv hN (q 35)) rfl (c (extract (by rfl) rfl (L rfl) (q 32)) rfl (c (extract (by rfl) rfl (L rfl) (q 32)) rfl (cg (alloc hB tyZ46 (nm:=1005) (by decide) (L rfl)) rfl (cg (sB tyS46 (q 5) (q 36)) rfl (c (assign (L rfl) (q 37)) rfl cn)))))))))
   apply sr (c (lb hN 46 _ _ tyS46 (At.here _) (q 5)) rfl (cg (sB tyS46 (q 2) (q 38)) rfl cn))
   apply AWp.ret
   obtain rfl:=oi h
   exact rt (kp [(2,_)] [(0,some _),(1002,some _)] hB rfl rfl (by rfl)) [(.d (e_aPrefix r15.1))] (Res.cell (c:=(.d (e_aPrefix r15.1))) (by rfl) (by rfl) tyS46 (by rfl) (by rfl) (by rfl) Res.nil) rfl
  ·apply AWp.cond rfl<;>intro hg16
   ·have h:=ite_t hg16 h
    obtain⟨r17,hr17,h⟩:=bindS h
    refine AWp.region (oc (mv hN (ot 0 (pt 0)))
     (oc (mv hN (ot 4 (i6 m3)))
     (oc (add6 (L rfl) (ot 16 (i6 m3)) (ii 1))
     (oc (OpJ.callFn hB fnOk30 (xmake_Deck_Next_ac r5.2 (w64 (m3+1)) r17 hr17) [(0,0)] (by kernel_rfl) (L rfl) (by kernel_rfl) (OpdL.cons (ot 15 (pt 0)) (OpdL.cons (ot 17 (i6 (w64 (m3+1)))) OpdL.nil)))
     (oc (assign (L rfl) (ot 18 (i6 r17.1)))
     (OpJs.nil)))))) (by rfl) (by rfl) ?_
    exact hjj14 _ h _ _ (mp [] _ _ hB)
   ·have h:=ite_f hg16 h
    apply sr (c (eqlI (L rfl) (q 12) (ii 1)) rfl (c (assign (L rfl) (q 20)) rfl cn))
    apply AWp.cond rfl<;>intro hg18
    ·have h:=ite_t hg18 h
     obtain⟨r19,hr19,h⟩:=bindS h
     refine AWp.region (oc (mv hN (ot 4 (i6 m3)))
      (oc (mv hN (ot 0 (pt 0)))
      (oc (OpJ.callFn hB fnOk30 (xmake_Deck_Next_ac r5.2 9 r19 hr19) [(0,0)] (by kernel_rfl) (L rfl) (by kernel_rfl) (OpdL.cons (ot 22 (pt 0)) (OpdL.cons (ii 9) OpdL.nil)))
      (oc (sub6 (L rfl) (ot 21 (i6 m3)) (ot 23 (i6 r19.1)))
      (oc (assign (L rfl) (ot 24 (i6 (w64 (m3-r19.1)))))
      (OpJs.nil)))))) (by rfl) (by rfl) ?_
     exact hjj14 _ h _ _ (mp [] _ _ hB)
    ·have h:=ite_f hg18 h
     apply sr (c (eqlI (L rfl) (q 12) (ii 2)) rfl (c (assign (L rfl) (q 26)) rfl cn))
     apply AWp.cond rfl<;>intro hg20
     ·have h:=ite_t hg20 h
      obtain⟨r21,hr21,h⟩:=bindS h
      obtain⟨x22,hx22,h⟩:=bindS h
      refine AWp.region (oc (buildSlice underlying23 tyS3 tyZD3 (by rfl) (by decide) (by decide) (Opds.cons (ii 8) (Opds.cons (ii 22) (Opds.cons (ii 23) (Opds.cons (ii 24) (Opds.cons (ii 16) Opds.nil))))) (by kernel_rfl) (es:=([(.int .i64 8),(.int .i64 22),(.int .i64 23),(.int .i64 24),(.int .i64 16)]:List D)) (by rfl) (by rfl) (by kernel_rfl) (by simp) (L rfl))
       (oc (mv hN (ot 0 (pt 0)))
       (oc (OpJ.callFn hB fnOk30 (xmake_Deck_Next_ac r5.2 5 r21 hr21) [(0,0)] (by kernel_rfl) (L rfl) (by kernel_rfl) (OpdL.cons (ot 28 (pt 0)) (OpdL.cons (ii 5) OpdL.nil)))
       (oc (indexD (el:=(.int .i64 x22)) underlying23 tyS3 (idx_some hx22).1 (get_map (eI .i64) (idx_some hx22).2) (L rfl) (ot 27 (qI_1 ([8,22,23,24,16]:List Int))) (ot 29 (i6 r21.1)))
       (oc (loadD tyS3 (by rfl) (by rfl) (L rfl) (ot 30 (.dptr (.int .i64 x22))))
       (oc (assign (L rfl) (ot 31 (i6 x22)))
       (OpJs.nil))))))) (by rfl) (by rfl) ?_
      exact hjj14 _ h _ _ (mp [] _ _ hB)
     ·have h:=ite_f hg20 h
      apply AWp.skip
      exact hjj14 _ h _ _ (mp [] _ _ hB)
 ·apply AWp.cond rfl<;>intro hg23
  ·have h:=ite_t hg23 h
   apply rg (c (assign (L rfl) (ii 128)) rfl cn)
   exact hjj4 _ h _ _ (mp [] _ _ hB)
  ·have h:=ite_f hg23 h
   apply AWp.skip
   exact hjj4 _ h _ _ (mp [] _ _ hB)
def xmake_Deck_Resources_L0 (s2:Int×(List aPrefix)×xmake_Deck):Option ((((List aPrefix)×xmake_Deck))⊕(Int×(List aPrefix)×xmake_Deck)) :=
 (if (decide (0<s2.1))=true then
 (xmake_Deck_Prefix s2.2.2).bind fun r11 =>
 chk (decide ((s2.2.1++[r11.1]).length≤LIM)) <|
 some (.inr ((w64 (s2.1-1)),(s2.2.1++[r11.1]),r11.2))
 else
 some (.inl (s2.2.1,s2.2.2)))
def xmake_Deck_Resources_L1 (s16:Int×(List aSpan)×xmake_Deck):Option (((xmake_Deck×(List aSpan)))⊕(Int×(List aSpan)×xmake_Deck)) :=
 (if (decide (0<s16.1))=true then
 (xmake_Deck_Next s16.2.2 20).bind fun r31 =>
 (xmake_Deck_Next r31.2 5).bind fun r32 =>
 (idx ([0,1,5,4294967286,r31.1]:List Int) r32.1).bind fun x33 =>
 (xmake_Deck_Next r32.2 10).bind fun r34 =>
 chk (decide ((s16.2.1++[(aSpan.mk x33 (w64 (x33+r34.1)))]).length≤LIM)) <|
 some (.inr ((w64 (s16.1-1)),(s16.2.1++[(aSpan.mk x33 (w64 (x33+r34.1)))]),r34.2))
 else
 some (.inl (s16.2.2,s16.2.1)))
def xmake_Deck_Resources (a0:xmake_Deck):Option (aResources×xmake_Deck) :=
 (xmake_Deck_Next a0 6).bind fun r1 =>
 (loop (xmake_Deck_Resources_L0) (r1.1,([]:List aPrefix),r1.2)).bind fun p9 =>
 (xmake_Deck_Next p9.2 4).bind fun r15 =>
 (loop (xmake_Deck_Resources_L1) (r15.1,([]:List aSpan),r15.2)).bind fun p29 =>
 (xref21_Of p9.1 p29.2).bind fun r38 =>
 some (r38.1,p29.1)
theorem xmake_Deck_Resources_ac (a0:xmake_Deck) (r:aResources×xmake_Deck) (h:xmake_Deck_Resources a0=some r):AC Tryz.prog 49 [(pt 0)] [(0,(.box 80 (.d (e_xmake_Deck a0))))] (.d (e_aResources r.1)) [(0,bd 80 (e_xmake_Deck r.2))]:=by
 refine ac2 Tryz.func49 rfl rfl fun B hB hN L => ?_
 delta xmake_Deck_Resources at h
 apply sr (cg (alloc hB tyZ57 (nm:=1002) (by decide) (L rfl)) rfl cn)
 apply sr (c (assign (L rfl) Opd.nils) rfl cn)
 apply sr (c (assign (L rfl) Opd.nils) rfl cn)
 apply AWp.seq
 apply AWp.seq
 obtain⟨r1,hr1,h⟩:=bindS h
 refine AWp.region (oc (mv hN (ot 0 (pt 0)))
 (oc (OpJ.callFn hB fnOk30 (xmake_Deck_Next_ac a0 6 r1 hr1) [(0,0)] (by kernel_rfl) (L rfl) (by kernel_rfl) (OpdL.cons (ot 10 (pt 0)) (OpdL.cons (ii 6) OpdL.nil)))
 (oc (assign (L rfl) (ot 11 (i6 r1.1)))
 (OpJs.nil)))) (by rfl) (by rfl) ?_
 apply seqQ_n
 refine AWp.ghost (mp [] [(0,(pt 0)),(2,(pt 1002)),(3,.nils),(4,.nils),(5,(i6 r1.1))] [(0,bd 80 (e_xmake_Deck r1.2)),(1002,some (.box 57 (.st [.nils,.nils])))] hB) ?_
 apply AWp.block
 obtain⟨p9,hx14,h⟩:=bindS h
 refine lg (xmake_Deck_Resources_L0) (fun s2:Int×(List aPrefix)×xmake_Deck=>([(0,(pt 0)),(2,(pt 1002)),(3,(.sref 3003 4 0 s2.2.1.length)),(4,.nils),(5,(i6 s2.1))]:EL)) (fun s2:Int×(List aPrefix)×xmake_Deck=>([(0,bd 80 (e_xmake_Deck s2.2.2)),(1002,some (.box 57 (.st [.nils,.nils]))),(3003,some (we_aPrefix_46_4 s2.2.1))]:OL)) (fun(p9:((List aPrefix)×xmake_Deck)) e E' O'=>e = .exit 0∧Mat B E' O' ([(0,(pt 0)),(2,(pt 1002)),(3,(.sref 3003 4 0 p9.1.length)),(4,.nils)]:EL) ([(0,bd 80 (e_xmake_Deck p9.2)),(1002,some (.box 57 (.st [.nils,.nils]))),(3003,some (we_aPrefix_46_4 p9.1))]:OL)) hx14 (Mat.trans (Mat.beginP (n:=3003) (e:=46) (sz:=4) (Ts:=[(3,(.sref 3003 4 0 0))]) (Bs:=[]) hB (by decide) (by rfl) (by decide) (TwT.cons (x:=.nils) (by rfl) (Tw.leaf ⟨rfl,rfl⟩) TwT.nil) TwB.nil) (mp [] _ _ hB)) (fun s2 y h => ?_) (fun e E' O' hR => ?_)
 ·unfold xmake_Deck_Resources_L0 at h
  apply AWp.seq
  apply sr (c (mv hN (q 5)) rfl (c (gtr (L rfl) (q 12) (ii 0)) rfl cn))
  apply AWp.cond rfl<;>intro hg10
  ·have h:=ite_t hg10 h
   apply AWp.skip
   apply seqQ_n
   apply AWp.seq
   apply AWp.block
   obtain⟨r11,hr11,h⟩:=bindS h
   obtain⟨hc12,h⟩:=chk_some h
   refine AWp.region (oc (mv hN (ot 3 (.sref 3003 4 0 s2.2.1.length)))
    (oc (mv hN (ot 0 (pt 0)))
    (oc (OpJ.callFn hB fnOk17 (xmake_Deck_Prefix_ac s2.2.2 r11 hr11) [(0,0)] (by kernel_rfl) (L rfl) (by kernel_rfl) (OpdL.cons (ot 17 (pt 0)) OpdL.nil))
    (oc (buildSlice underlying50 tyS46 tyZD46 (by rfl) (by decide) (by decide) (Opds.cons (ot 18 (.d (e_aPrefix r11.1))) Opds.nil) (by kernel_rfl) (es:=([(e_aPrefix r11.1)]:List D)) (by rfl) (by rfl) (by kernel_rfl) (by simp) (L rfl))
    (oc (apd hB underlying50 tyE46 1020 e_aPrefix s2.2.1 [r11.1] hc12 (L rfl) (ot 16 (.sref 3003 4 0 s2.2.1.length)) (ot 19 (qe_aPrefix_4 [r11.1])))
    (oc (assign (L rfl) (ot 20 (.sref 1020 4 0 ((s2.2.1++[r11.1]).length))))
    (OpJs.nil))))))) (by rfl) (by rfl) ?_
   apply blkQ_n
   apply seqQ_n
   refine AWp.ghost (mp [] [(0,(pt 0)),(2,(pt 1002)),(3,(.sref 1020 4 0 ((s2.2.1++[r11.1]).length))),(4,.nils),(5,(i6 s2.1))] [(0,bd 80 (e_xmake_Deck r11.2)),(1002,some (.box 57 (.st [.nils,.nils]))),(1020,some (we_aPrefix_46_4 (s2.2.1++[r11.1])))] hB) ?_
   apply rg (c (mv hN (q 5)) rfl (c (sub6 (L rfl) (q 14) (ii 1)) rfl (c (assign (L rfl) (q 15)) rfl cn)))
   obtain rfl:=oi h
   exact⟨rfl,(mp [(3003,1020)] _ _ hB)⟩
  ·have h:=ite_f hg10 h
   apply AWp.exit
   apply seqQ_e
   obtain rfl:=oi h
   exact⟨(fun hc=>by cases hc),rfl,(mp [] _ _ hB)⟩
 ·obtain⟨rfl,hmat⟩:=hR
  apply blkQ_hit
  apply seqQ_n
  refine AWp.ghost hmat ?_
  apply AWp.seq
  apply AWp.seq
  obtain⟨r15,hr15,h⟩:=bindS h
  refine AWp.region (oc (mv hN (ot 0 (pt 0)))
   (oc (OpJ.callFn hB fnOk30 (xmake_Deck_Next_ac p9.2 4 r15 hr15) [(0,0)] (by kernel_rfl) (L rfl) (by kernel_rfl) (OpdL.cons (ot 21 (pt 0)) (OpdL.cons (ii 4) OpdL.nil)))
   (oc (assign (L rfl) (ot 22 (i6 r15.1)))
   (OpJs.nil)))) (by rfl) (by rfl) ?_
  apply seqQ_n
  refine AWp.ghost (mp [] [(0,(pt 0)),(2,(pt 1002)),(3,(.sref 3003 4 0 p9.1.length)),(4,.nils),(6,(i6 r15.1))] [(0,bd 80 (e_xmake_Deck r15.2)),(1002,some (.box 57 (.st [.nils,.nils]))),(3003,some (we_aPrefix_46_4 p9.1))] hB) ?_
  apply AWp.block
  obtain⟨p29,hx37,h⟩:=bindS h
  refine lg (xmake_Deck_Resources_L1) (fun s16:Int×(List aSpan)×xmake_Deck=>([(0,(pt 0)),(2,(pt 1002)),(3,(.sref 3003 4 0 p9.1.length)),(4,(.sref 3004 2 0 s16.2.1.length)),(6,(i6 s16.1))]:EL)) (fun s16:Int×(List aSpan)×xmake_Deck=>([(0,bd 80 (e_xmake_Deck s16.2.2)),(1002,some (.box 57 (.st [.nils,.nils]))),(3003,some (we_aPrefix_46_4 p9.1)),(3004,some (we_aSpan_101_2 s16.2.1))]:OL)) (fun(p29:(xmake_Deck×(List aSpan))) e E' O'=>e = .exit 2∧Mat B E' O' ([(2,(pt 1002)),(3,(.sref 3003 4 0 p9.1.length)),(4,(.sref 3004 2 0 p29.2.length))]:EL) ([(0,bd 80 (e_xmake_Deck p29.1)),(1002,some (.box 57 (.st [.nils,.nils]))),(3003,some (we_aPrefix_46_4 p9.1)),(3004,some (we_aSpan_101_2 p29.2))]:OL)) hx37 (Mat.trans (Mat.beginP (n:=3004) (e:=101) (sz:=2) (Ts:=[(4,(.sref 3004 2 0 0))]) (Bs:=[]) hB (by decide) (by rfl) (by decide) (TwT.cons (x:=.nils) (by rfl) (Tw.leaf ⟨rfl,rfl⟩) TwT.nil) TwB.nil) (mp [] _ _ hB)) (fun s16 y h => ?_) (fun e E' O' hR => ?_)
  ·unfold xmake_Deck_Resources_L1 at h
   apply AWp.seq
   apply sr (c (mv hN (q 6)) rfl (c (gtr (L rfl) (q 23) (ii 0)) rfl cn))
   apply AWp.cond rfl<;>intro hg30
   ·have h:=ite_t hg30 h
    apply AWp.skip
    apply seqQ_n
    apply AWp.seq
    apply AWp.block
    apply AWp.seq
    obtain⟨r31,hr31,h⟩:=bindS h
    obtain⟨r32,hr32,h⟩:=bindS h
    obtain⟨x33,hx33,h⟩:=bindS h
    refine AWp.region (oc (mv hN (ot 0 (pt 0)))
     (oc (OpJ.callFn hB fnOk30 (xmake_Deck_Next_ac s16.2.2 20 r31 hr31) [(0,0)] (by kernel_rfl) (L rfl) (by kernel_rfl) (OpdL.cons (ot 27 (pt 0)) (OpdL.cons (ii 20) OpdL.nil)))
     (oc (buildSlice underlying23 tyS3 tyZD3 (by rfl) (by decide) (by decide) (Opds.cons (ii 0) (Opds.cons (ii 1) (Opds.cons (ii 5) (Opds.cons (ii 4294967286) (Opds.cons (ot 28 (i6 r31.1)) Opds.nil))))) (by kernel_rfl) (es:=([(.int .i64 0),(.int .i64 1),(.int .i64 5),(.int .i64 4294967286),(.int .i64 r31.1)]:List D)) (by rfl) (by rfl) (by kernel_rfl) (by simp) (L rfl))
     (oc (mv hN (ot 0 (pt 0)))
     (oc (OpJ.callFn hB fnOk30 (xmake_Deck_Next_ac r31.2 5 r32 hr32) [(0,0)] (by kernel_rfl) (L rfl) (by kernel_rfl) (OpdL.cons (ot 30 (pt 0)) (OpdL.cons (ii 5) OpdL.nil)))
     (oc (indexD (el:=(.int .i64 x33)) underlying23 tyS3 (idx_some hx33).1 (get_map (eI .i64) (idx_some hx33).2) (L rfl) (ot 29 (qI_1 ([0,1,5,4294967286,r31.1]:List Int))) (ot 31 (i6 r32.1)))
     (oc (loadD tyS3 (by rfl) (by rfl) (L rfl) (ot 32 (.dptr (.int .i64 x33))))
     (oc (assign (L rfl) (ot 33 (i6 x33)))
     (OpJs.nil))))))))) (by rfl) (by rfl) ?_
    apply seqQ_n
    refine AWp.ghost (mp [] [(0,(pt 0)),(2,(pt 1002)),(3,(.sref 3003 4 0 p9.1.length)),(4,(.sref 3004 2 0 s16.2.1.length)),(6,(i6 s16.1)),(7,(i6 x33))] [(0,bd 80 (e_xmake_Deck r32.2)),(1002,some (.box 57 (.st [.nils,.nils]))),(3003,some (we_aPrefix_46_4 p9.1)),(3004,some (we_aSpan_101_2 s16.2.1))] hB) ?_
    obtain⟨r34,hr34,h⟩:=bindS h
    obtain⟨hc35,h⟩:=chk_some h
    refine AWp.region (oc (mv hN (ot 4 (.sref 3004 2 0 s16.2.1.length)))
     (oc (mv hN (ot 7 (i6 x33)))
     (oc (mv hN (ot 7 (i6 x33)))
     (oc (mv hN (ot 0 (pt 0)))
     (oc (OpJ.callFn hB fnOk30 (xmake_Deck_Next_ac r32.2 10 r34 hr34) [(0,0)] (by kernel_rfl) (L rfl) (by kernel_rfl) (OpdL.cons (ot 37 (pt 0)) (OpdL.cons (ii 10) OpdL.nil)))
     (oc (add6 (L rfl) (ot 36 (i6 x33)) (ot 38 (i6 r34.1)))
     (oc (OpJ.coe (v:=(.st [(i6 x33),(i6 (w64 (x33+r34.1)))])) (y:=(.st [(.int .i64 x33),(.int .i64 (w64 (x33+r34.1)))])) (Co.st (CoL.cons (Co.d _) (CoL.cons (Co.d _) CoL.nil))) rfl (OpJ.build (places:=[(0,1),(1,1)]) ⟨underlying101,fun w=>by kernel_rfl⟩ tyZS101 (Opds.cons (ot 35 (i6 x33)) (Opds.cons (ot 39 (i6 (w64 (x33+r34.1)))) Opds.nil)) (by kernel_rfl) (r:=(.st [(i6 x33),(i6 (w64 (x33+r34.1)))])) (by rfl) (L rfl)))
     (oc (buildSlice underlying55 tyS101 tyZD101 (by rfl) (by decide) (by decide) (Opds.cons (ot 40 (.d (.st [(.int .i64 x33),(.int .i64 (w64 (x33+r34.1)))]))) Opds.nil) (by kernel_rfl) (es:=([(.st [(.int .i64 x33),(.int .i64 (w64 (x33+r34.1)))])]:List D)) (by rfl) (by rfl) (by kernel_rfl) (by simp) (L rfl))
     (oc (apd hB underlying55 tyE101 1042 e_aSpan s16.2.1 [(aSpan.mk x33 (w64 (x33+r34.1)))] hc35 (L rfl) (ot 34 (.sref 3004 2 0 s16.2.1.length)) (ot 41 (qe_aSpan_2 [(aSpan.mk x33 (w64 (x33+r34.1)))])))
     (oc (assign (L rfl) (ot 42 (.sref 1042 2 0 ((s16.2.1++[(aSpan.mk x33 (w64 (x33+r34.1)))]).length))))
     (OpJs.nil))))))))))) (by rfl) (by rfl) ?_
    apply blkQ_n
    apply seqQ_n
    refine AWp.ghost (mp [] [(0,(pt 0)),(2,(pt 1002)),(3,(.sref 3003 4 0 p9.1.length)),(4,(.sref 1042 2 0 ((s16.2.1++[(aSpan.mk x33 (w64 (x33+r34.1)))]).length))),(6,(i6 s16.1))] [(0,bd 80 (e_xmake_Deck r34.2)),(1002,some (.box 57 (.st [.nils,.nils]))),(1042,some (we_aSpan_101_2 (s16.2.1++[(aSpan.mk x33 (w64 (x33+r34.1)))]))),(3003,some (we_aPrefix_46_4 p9.1))] hB) ?_
    apply rg (c (mv hN (q 6)) rfl (c (sub6 (L rfl) (q 25) (ii 1)) rfl (c (assign (L rfl) (q 26)) rfl cn)))
    obtain rfl:=oi h
    exact⟨rfl,(mp [(3004,1042)] _ _ hB)⟩
   ·have h:=ite_f hg30 h
    apply AWp.exit
    apply seqQ_e
    obtain rfl:=oi h
    exact⟨(fun hc=>by cases hc),rfl,(mp [] _ _ hB)⟩
  ·obtain⟨rfl,hmat⟩:=hR
   apply blkQ_hit
   apply seqQ_n
   refine AWp.ghost hmat ?_
   apply AWp.seq
   refine AWp.ghost (Mat.freezeP (n:=3003) (e:=46) (sz:=4) (es:=p9.1.map e_aPrefix) (Ts:=[(3,(qe_aPrefix_4 p9.1))]) (Bs:=[]) (by rfl) (TwT.cons (x:=(.sref 3003 4 0 p9.1.length)) (by rfl) (FrzL.all (by first | rfl | (simp;done) | (simp;omega) | omega)) TwT.nil) TwB.nil) ?_
   refine AWp.ghost (Mat.freezeP (n:=3004) (e:=101) (sz:=2) (es:=p29.2.map e_aSpan) (Ts:=[(4,(qe_aSpan_2 p29.2))]) (Bs:=[]) (by rfl) (TwT.cons (x:=(.sref 3004 2 0 p29.2.length)) (by rfl) (FrzL.all (by first | rfl | (simp;done) | (simp;omega) | omega)) TwT.nil) TwB.nil) ?_
   obtain⟨r38,hr38,h⟩:=bindS h
   apply rg (c (mv hN (q 3)) rfl (c (mv hN (q 4)) rfl (cg (cf hB fnOk28 (xref21_Of_ac p9.1 p29.2 r38 hr38) (L rfl) (OpdL.cons (q 44) (OpdL.cons (q 45) OpdL.nil))) rfl (c (mv hN (q 46)) rfl (c (extract (by rfl) rfl (L rfl) (q 43)) rfl (c (extract (by rfl) rfl (L rfl) (q 43)) rfl (cg (alloc hB tyZ57 (nm:=1008) (by decide) (L rfl)) rfl (cg (sB tyS57 (q 8) (q 47)) rfl (c (assign (L rfl) (q 48)) rfl cn)))))))))
   apply seqQ_n
   apply sr (c (lb hN 57 _ _ tyS57 (At.here _) (q 8)) rfl (cg (sB tyS57 (q 2) (q 49)) rfl cn))
   apply AWp.ret
   obtain rfl:=oi h
   exact rt (kp [(2,_)] [(0,some _),(1002,some _)] hB rfl rfl (by rfl)) [(.d (e_aResources r38.1))] (Res.cell (c:=(.d (e_aResources r38.1))) (by rfl) (by rfl) tyS57 (by rfl) (by rfl) (by rfl) Res.nil) rfl
def xref21_Valid_L0 (a0:aResources) (s1:Int):Option (((Unit)⊕(Unit))⊕(Int)) :=
 (if (decide (s1<(a0.fAddrs.length:Int)))=true then
 jn (fun _:Unit =>
 some (.inr (w64 (s1+1)))) (fun j142 =>
 (idx a0.fAddrs s1).bind fun x143 =>
 jn (fun m150:Bool =>
 (if m150=true then
 some (.inl (.inl ()))
 else
 (if (s1==0)=true then
 j142 ()
 else
 (idx a0.fAddrs (w64 (s1-1))).bind fun x154 =>
 (xref01_Next x154.fTo).bind fun r155 =>
 jn (fun m159:Bool =>
 (if m159=true then
 some (.inl (.inl ()))
 else
 j142 ())) (fun j160 =>
 (xref01_Cmp x154.fTo x143.fFrom).bind fun r162 =>
 (if (decide (0≤r162))=true then
 j160 true
 else
 j160 (r155.2&&((r155.1.fV6==x143.fFrom.fV6)&&((r155.1.fHi==x143.fFrom.fHi)&&((r155.1.fLo==x143.fFrom.fLo)&&true))))))))) (fun j151 =>
 (xref01_Valid x143.fFrom).bind fun r164 =>
 (if (!r164)=true then
 j151 true
 else
 (xref01_Valid x143.fTo).bind fun r166 =>
 (if ((!r166) || (x143.fFrom.fV6 != x143.fTo.fV6))=true then
 j151 true
 else
 (xref01_Cmp x143.fFrom x143.fTo).bind fun r168 =>
 j151 (decide (0<r168))))))
 else
 some (.inl (.inr ())))
def xref21_Valid_L1 (a0:aResources) (s171:Int):Option (((Unit)⊕(Unit))⊕(Int)) :=
 (if (decide (s171<(a0.fASNs.length:Int)))=true then
 (idx a0.fASNs s171).bind fun x197 =>
 jn (fun m201:Bool =>
 (if m201=true then
 some (.inl (.inl ()))
 else
 some (.inr (w64 (s171+1))))) (fun j202 =>
 (if (((decide (x197.fFrom<0)) || (decide (x197.fTo<x197.fFrom))) || (decide (4294967295<x197.fTo)))=true then
 j202 true
 else
 (if (decide (0<s171))=true then
 (idx a0.fASNs (w64 (s171-1))).bind fun x206 =>
 j202 (decide ((w64 (x197.fFrom-1))≤x206.fTo))
 else
 j202 false)))
 else
 some (.inl (.inr ())))
def xref21_Valid (a0:aResources):Option (Bool) :=
 (loop (xref21_Valid_L0 a0) 0).bind fun x169=>match x169 with
 | (.inl _) =>
  some false
 | (.inr _) =>
  (loop (xref21_Valid_L1 a0) 0).bind fun x207=>match x207 with
  | (.inl _) =>
   some false
  | (.inr _) =>
   some ((decide ((a0.fAddrs.length:Int)≤256))&&(decide ((a0.fASNs.length:Int)≤256)))
theorem xref21_Valid_ac (a0:aResources) (r:Bool) (h:xref21_Valid a0=some r):AC Tryz.prog 39 [(.d (e_aResources a0))] [] (.d (.bool r)) []:=by
 refine ac2 Tryz.func39 rfl rfl fun B hB hN L => ?_
 delta xref21_Valid at h
 apply sr (cg (OpJ.box hB (nm:=1001) (by decide) (by simp) rfl (L rfl) (q 0)) rfl (c (assign (L rfl) (Opd.bool false)) rfl cn))
 apply AWp.seq
 apply sr (c (fo 1001 0 [0] hN underlying57 0 tyS54 (q 1)) rfl (c (la hN 57 tyS54 (q 10)) rfl (c (OpJ.val (v':=(i6 (a0.fAddrs.length:Int))) (by simp) (lenD underlying54 (L rfl) (q 11))) rfl (c (mv hN (ii 0)) rfl cn))))
 apply AWp.block
 obtain⟨x169,hx170,h⟩:=bindS h
 refine lg (xref21_Valid_L0 a0) (fun s1:Int=>([(1,(pt 1001)),(11,(qe_aRange_6 a0.fAddrs)),(12,(i6 (a0.fAddrs.length:Int))),(13,(i6 s1))]:EL)) (fun s1:Int=>([(1001,bd 57 (e_aResources a0))]:OL)) (fun(x:(Unit)⊕(Unit)) e E' O'=>match x with | (.inl _p)=>e = .ret∧Mat B E' O' ([(2,(bo false))]:EL) ([]:OL) | (.inr _p)=>e = .exit 0∧Mat B E' O' ([(1,(pt 1001))]:EL) ([(1001,bd 57 (e_aResources a0))]:OL)) hx170 (mp [] _ _ hB) (fun s1 y h => ?_) (fun e E' O' hR => ?_)
 ·unfold xref21_Valid_L0 at h
  apply sr (c (lss (L rfl) (q 13) (q 12)) rfl cn)
  apply AWp.seq
  apply AWp.cond rfl<;>intro hg114
  ·have h:=ite_t hg114 h
   apply AWp.skip
   apply seqQ_n
   apply AWp.seq
   refine AWp.cut h (fun _:Unit=>([(1,(pt 1001)),(11,(qe_aRange_6 a0.fAddrs)),(12,(i6 (a0.fAddrs.length:Int))),(13,(i6 s1))]:EL)) (fun _:Unit=>([(1001,bd 57 (e_aResources a0))]:OL)) (fun _m h E' O' hmat => ?_) (fun j142 hjj142 h => ?_)
   ·apply seqQ_n
    refine AWp.ghost hmat ?_
    apply rg (c (add6 (L rfl) (q 13) (ii 1)) rfl (c (mv hN (q 73)) rfl cn))
    obtain rfl:=oi h
    exact⟨rfl,(mp [] _ _ hB)⟩
   ·apply AWp.block
    obtain⟨x143,hx143,h⟩:=bindS h
    apply sr (c (mv hN (q 13)) rfl (c (indexD underlying54 tyS92 (idx_some hx143).1 (get_map e_aRange (idx_some hx143).2) (L rfl) (q 11) (q 13)) rfl (c (loadD tyS92 (by rfl) (by rfl) (L rfl) (q 16)) rfl (cg (alloc hB tyZ92 (nm:=1004) (by decide) (L rfl)) rfl (c (assign (L rfl) (q 15)) rfl (cg (sB tyS92 (q 4) (q 17)) rfl cn))))))
    apply AWp.seq
    apply AWp.seq
    refine AWp.cut h (fun m150:Bool=>([(1,(pt 1001)),(3,(i6 s1)),(4,(pt 1004)),(11,(qe_aRange_6 a0.fAddrs)),(12,(i6 (a0.fAddrs.length:Int))),(13,(i6 s1)),(44,(bo m150))]:EL)) (fun m150:Bool=>([(1001,bd 57 (e_aResources a0)),(1004,bd 92 (e_aRange x143))]:OL)) (fun m150 h E' O' hmat => ?_) (fun j151 hjj151 h => ?_)
    ·apply seqQ_n
     refine AWp.ghost hmat ?_
     apply AWp.cond rfl<;>intro hg152
     ·have h:=ite_t hg152 h
      apply sr (c (assign (L rfl) (Opd.bool false)) rfl cn)
      apply AWp.ret
      apply seqQ_r
      apply blkQ_r
      apply seqQ_r
      obtain rfl:=oi h
      exact⟨(fun hc=>by cases hc),rfl,(mp [] _ _ hB)⟩
     ·have h:=ite_f hg152 h
      apply AWp.skip
      apply seqQ_n
      apply AWp.seq
      apply sr (c (mv hN (q 3)) rfl (c (eqlI (L rfl) (q 45) (ii 0)) rfl cn))
      apply AWp.cond rfl<;>intro hg153
      ·have h:=ite_t hg153 h
       apply AWp.exit
       apply seqQ_e
       apply blkQ_hit
       exact hjj142 _ h _ _ (mp [] _ _ hB)
      ·have h:=ite_f hg153 h
       apply AWp.skip
       apply seqQ_n
       obtain⟨x154,hx154,h⟩:=bindS h
       apply sr (c (fo 1001 0 [0] hN underlying57 0 tyS54 (q 1)) rfl (c (la hN 57 tyS54 (q 47)) rfl (c (mv hN (q 3)) rfl (c (sub6 (L rfl) (q 49) (ii 1)) rfl (c (indexD underlying54 tyS92 (idx_some hx154).1 (get_map e_aRange (idx_some hx154).2) (L rfl) (q 48) (q 50)) rfl (c (fieldD underlying92 (by rfl) (o:=3) (by rfl) tyS44 (by decide) (by rfl) (by rfl) (L rfl) (q 51)) rfl (c (loadD tyS44 (by rfl) (by rfl) (L rfl) (q 52)) rfl (cg (alloc hB tyZ44 (nm:=1005) (by decide) (L rfl)) rfl (cg (sB tyS44 (q 5) (q 53)) rfl cn)))))))))
       obtain⟨r155,hr155,h⟩:=bindS h
       apply sr (c (lb hN 44 _ _ tyS44 (At.here _) (q 5)) rfl (cg (cf hB fnOk69 (xref01_Next_ac x154.fTo r155 hr155) (L rfl) (OpdL.cons (q 55) OpdL.nil)) rfl (c (mv hN (q 56)) rfl (c (extract (by rfl) rfl (L rfl) (q 54)) rfl (c (extract (by rfl) rfl (L rfl) (q 54)) rfl (cg (alloc hB tyZ44 (nm:=1006) (by decide) (L rfl)) rfl (cg (sB tyS44 (q 6) (q 57)) rfl (c (assign (L rfl) (q 58)) rfl cn))))))))
       apply AWp.seq
       refine AWp.cut h (fun m159:Bool=>([(1,(pt 1001)),(11,(qe_aRange_6 a0.fAddrs)),(12,(i6 (a0.fAddrs.length:Int))),(13,(i6 s1)),(72,(bo m159))]:EL)) (fun m159:Bool=>([(1001,bd 57 (e_aResources a0))]:OL)) (fun m159 h E' O' hmat => ?_) (fun j160 hjj160 h => ?_)
       ·apply seqQ_n
        refine AWp.ghost hmat ?_
        apply AWp.cond rfl<;>intro hg161
        ·have h:=ite_t hg161 h
         apply sr (c (assign (L rfl) (Opd.bool false)) rfl cn)
         apply AWp.ret
         apply blkQ_r
         apply seqQ_r
         obtain rfl:=oi h
         exact⟨(fun hc=>by cases hc),rfl,(mp [] _ _ hB)⟩
        ·have h:=ite_f hg161 h
         apply AWp.skip
         apply blkQ_n
         exact hjj142 _ h _ _ (mp [] _ _ hB)
       ·obtain⟨r162,hr162,h⟩:=bindS h
        rcases bft (decide (0≤r162)) with hg163 | hg163
        ·have h:=ite_t hg163 h
         apply rg (c (lb hN 44 _ _ tyS44 (At.here _) (q 5)) rfl (c (fo 1004 0 [0] hN underlying92 0 tyS44 (q 4)) rfl (c (la hN 92 tyS44 (q 60)) rfl (cg (cf hB fnOk46 (xref01_Cmp_ac x154.fTo x143.fFrom r162 hr162) (L rfl) (OpdL.cons (q 59) (OpdL.cons (q 61) OpdL.nil))) rfl (c (geq (L rfl) (q 62) (ii 0)) rfl (c (OpJ.val (v':=.d (.bool true)) (by rw [hg163]<;>rfl) (mv hN (q 63))) rfl (ks 64 (L rfl) (ks 64 (L rfl) (cg (sV 66 (L rfl)) rfl (cg (sV 66 (L rfl)) rfl (cg (sV 66 (L rfl)) rfl (cg (sV 66 (L rfl)) rfl (ks 64 (L rfl) (c (pickT (L rfl) (q 64) (Opd.bool true)) rfl cn))))))))))))))
         exact hjj160 _ h _ _ (mp [] _ _ hB)
        ·have h:=ite_f hg163 h
         apply rg (c (lb hN 44 _ _ tyS44 (At.here _) (q 5)) rfl (c (fo 1004 0 [0] hN underlying92 0 tyS44 (q 4)) rfl (c (la hN 92 tyS44 (q 60)) rfl (cg (cf hB fnOk46 (xref01_Cmp_ac x154.fTo x143.fFrom r162 hr162) (L rfl) (OpdL.cons (q 59) (OpdL.cons (q 61) OpdL.nil))) rfl (c (geq (L rfl) (q 62) (ii 0)) rfl (c (OpJ.val (v':=.d (.bool false)) (by rw [hg163]<;>rfl) (mv hN (q 63))) rfl (c (gd 64 (mv hN (q 7))) rfl (c (gd 64 (mv hN (q 65))) rfl (c (oq hN 66 (lb hN 44 _ _ tyS44 (At.here _) (q 6)) (OptL.keep (by rfl) OptL.nil) (GuardV.plain _)) rfl (c (oq hN 66 (fo 1004 0 [0] hN underlying92 0 tyS44 (q 4)) (OptL.keep (by rfl) OptL.nil) (GuardV.plain _)) rfl (c (oq hN 66 (la hN 92 tyS44 (q 68)) (OptL.opt OptL.nil) (GuardV.plain _)) rfl (c (oq hN 66 (OpJ.eqlD (h:=2) (FitE.st underlying44 rfl held44 (FitF.cons (x:=(.bool r155.1.fV6)) (y:=(.bool x143.fFrom.fV6)) (by decide) rfl tyS4 ⟨rfl,rfl⟩ ⟨rfl,rfl⟩ (FitE.bool (h:=0) r155.1.fV6 x143.fFrom.fV6 underlying4) (FitF.cons (x:=(.int .u64 r155.1.fHi)) (y:=(.int .u64 x143.fFrom.fHi)) (by decide) rfl tyS42 ⟨rfl,rfl⟩ ⟨rfl,rfl⟩ (FitE.int (h:=0) r155.1.fHi x143.fFrom.fHi underlying42) (FitF.cons (x:=(.int .u64 r155.1.fLo)) (y:=(.int .u64 x143.fFrom.fLo)) (by decide) rfl tyS42 ⟨rfl,rfl⟩ ⟨rfl,rfl⟩ (FitE.int (h:=0) r155.1.fLo x143.fFrom.fLo underlying42) FitF.nil)))) eqg44 ⟨rfl,rfl⟩ (by rfl) (L rfl) (q 67) (q 69)) (OptL.opt (OptL.opt OptL.nil)) (GuardV.plain _)) rfl (c (gd 64 (pickAnd rfl (L rfl) (q 66) (q 70))) rfl (c (pickF (L rfl) (q 64) (q 71)) rfl cn))))))))))))))
         exact hjj160 _ h _ _ (mp [] _ _ hB)
    ·obtain⟨r164,hr164,h⟩:=bindS h
     rcases bft (!r164) with hg165 | hg165
     ·have h:=ite_t hg165 h
      apply rg (c (fo 1004 0 [0] hN underlying92 0 tyS44 (q 4)) rfl (c (la hN 92 tyS44 (q 18)) rfl (cg (cf hB fnOk68 (xref01_Valid_ac x143.fFrom r164 hr164) (L rfl) (OpdL.cons (q 19) OpdL.nil)) rfl (c (OpJ.not (L rfl) (q 20)) rfl (c (OpJ.val (v':=.d (.bool true)) (by rw [hg165]<;>rfl) (mv hN (q 21))) rfl (ks 22 (L rfl) (ks 22 (L rfl) (ks 22 (L rfl) (ks 22 (L rfl) (c (pickT (L rfl) (q 22) (Opd.bool true)) rfl (c (mv hN (q 27)) rfl (ks 28 (L rfl) (ks 28 (L rfl) (ks 28 (L rfl) (ks 28 (L rfl) (ks 28 (L rfl) (ks 28 (L rfl) (ks 28 (L rfl) (c (pickT (L rfl) (q 28) (Opd.bool true)) rfl (c (mv hN (q 36)) rfl (ks 37 (L rfl) (ks 37 (L rfl) (ks 37 (L rfl) (ks 37 (L rfl) (ks 37 (L rfl) (ks 37 (L rfl) (c (pickT (L rfl) (q 37) (Opd.bool true)) rfl cn)))))))))))))))))))))))))))
      exact hjj151 _ h _ _ (mp [] _ _ hB)
     ·have h:=ite_f hg165 h
      obtain⟨r166,hr166,h⟩:=bindS h
      rcases bft ((!r166) || (x143.fFrom.fV6 != x143.fTo.fV6)) with hg167 | hg167
      ·have h:=ite_t hg167 h
       apply rg (c (fo 1004 0 [0] hN underlying92 0 tyS44 (q 4)) rfl (c (la hN 92 tyS44 (q 18)) rfl (cg (cf hB fnOk68 (xref01_Valid_ac x143.fFrom r164 hr164) (L rfl) (OpdL.cons (q 19) OpdL.nil)) rfl (c (OpJ.not (L rfl) (q 20)) rfl (c (OpJ.val (v':=.d (.bool false)) (by rw [hg165]<;>rfl) (mv hN (q 21))) rfl (c (gd 22 (fo 1004 3 [1] hN underlying92 3 tyS44 (q 4))) rfl (c (gd 22 (la hN 92 tyS44 (q 23))) rfl (cg (gd 22 (cf hB fnOk68 (xref01_Valid_ac x143.fTo r166 hr166) (L rfl) (OpdL.cons (q 24) OpdL.nil))) rfl (c (gd 22 (OpJ.not (L rfl) (q 25))) rfl (c (pickF (L rfl) (q 22) (q 26)) rfl (c (mv hN (q 27)) rfl (c (oq hN 28 (fo 1004 0 [0] hN underlying92 0 tyS44 (q 4)) (OptL.keep (by rfl) OptL.nil) (GuardV.plain _)) rfl (c (oq hN 28 (fo 1004 0 [0,0] hN underlying44 0 tyS4 (q 29)) (OptL.opt OptL.nil) (GuardV.plain _)) rfl (c (oq hN 28 (lb hN 92 _ _ tyS4 (At.dst1 (by rfl) (by rfl) (ad _) (by first | rfl | omega)) (q 30)) (OptL.opt OptL.nil) (GuardV.plain _)) rfl (c (oq hN 28 (fo 1004 3 [1] hN underlying92 3 tyS44 (q 4)) (OptL.keep (by rfl) OptL.nil) (GuardV.plain _)) rfl (c (oq hN 28 (fo 1004 3 [1,0] hN underlying44 0 tyS4 (q 32)) (OptL.opt OptL.nil) (GuardV.plain _)) rfl (c (oq hN 28 (lb hN 92 _ _ tyS4 (At.dst1 (by rfl) (by rfl) (ad _) (by first | rfl | omega)) (q 33)) (OptL.opt OptL.nil) (GuardV.plain _)) rfl (c (oq hN 28 (OpJ.neqB underlying4 (L rfl) (q 31) (q 34)) (OptL.opt (OptL.opt OptL.nil)) (GuardV.plain _)) rfl (c (pickOr rfl (L rfl) (q 28) (q 35)) rfl (c (OpJ.val (v':=.d (.bool true)) (by rw [hg167]<;>rfl) (mv hN (q 36))) rfl (ks 37 (L rfl) (ks 37 (L rfl) (ks 37 (L rfl) (ks 37 (L rfl) (ks 37 (L rfl) (ks 37 (L rfl) (c (pickT (L rfl) (q 37) (Opd.bool true)) rfl cn)))))))))))))))))))))))))))
       exact hjj151 _ h _ _ (mp [] _ _ hB)
      ·have h:=ite_f hg167 h
       obtain⟨r168,hr168,h⟩:=bindS h
       apply rg (c (fo 1004 0 [0] hN underlying92 0 tyS44 (q 4)) rfl (c (la hN 92 tyS44 (q 18)) rfl (cg (cf hB fnOk68 (xref01_Valid_ac x143.fFrom r164 hr164) (L rfl) (OpdL.cons (q 19) OpdL.nil)) rfl (c (OpJ.not (L rfl) (q 20)) rfl (c (OpJ.val (v':=.d (.bool false)) (by rw [hg165]<;>rfl) (mv hN (q 21))) rfl (c (gd 22 (fo 1004 3 [1] hN underlying92 3 tyS44 (q 4))) rfl (c (gd 22 (la hN 92 tyS44 (q 23))) rfl (cg (gd 22 (cf hB fnOk68 (xref01_Valid_ac x143.fTo r166 hr166) (L rfl) (OpdL.cons (q 24) OpdL.nil))) rfl (c (gd 22 (OpJ.not (L rfl) (q 25))) rfl (c (pickF (L rfl) (q 22) (q 26)) rfl (c (mv hN (q 27)) rfl (c (oq hN 28 (fo 1004 0 [0] hN underlying92 0 tyS44 (q 4)) (OptL.keep (by rfl) OptL.nil) (GuardV.plain _)) rfl (c (oq hN 28 (fo 1004 0 [0,0] hN underlying44 0 tyS4 (q 29)) (OptL.opt OptL.nil) (GuardV.plain _)) rfl (c (oq hN 28 (lb hN 92 _ _ tyS4 (At.dst1 (by rfl) (by rfl) (ad _) (by first | rfl | omega)) (q 30)) (OptL.opt OptL.nil) (GuardV.plain _)) rfl (c (oq hN 28 (fo 1004 3 [1] hN underlying92 3 tyS44 (q 4)) (OptL.keep (by rfl) OptL.nil) (GuardV.plain _)) rfl (c (oq hN 28 (fo 1004 3 [1,0] hN underlying44 0 tyS4 (q 32)) (OptL.opt OptL.nil) (GuardV.plain _)) rfl (c (oq hN 28 (lb hN 92 _ _ tyS4 (At.dst1 (by rfl) (by rfl) (ad _) (by first | rfl | omega)) (q 33)) (OptL.opt OptL.nil) (GuardV.plain _)) rfl (c (oq hN 28 (OpJ.neqB underlying4 (L rfl) (q 31) (q 34)) (OptL.opt (OptL.opt OptL.nil)) (GuardV.plain _)) rfl (c (pickOr rfl (L rfl) (q 28) (q 35)) rfl (c (OpJ.val (v':=.d (.bool false)) (by rw [hg167]<;>rfl) (mv hN (q 36))) rfl (c (gd 37 (fo 1004 0 [0] hN underlying92 0 tyS44 (q 4))) rfl (c (gd 37 (la hN 92 tyS44 (q 38))) rfl (c (gd 37 (fo 1004 3 [1] hN underlying92 3 tyS44 (q 4))) rfl (c (gd 37 (la hN 92 tyS44 (q 40))) rfl (cg (gd 37 (cf hB fnOk46 (xref01_Cmp_ac x143.fFrom x143.fTo r168 hr168) (L rfl) (OpdL.cons (q 39) (OpdL.cons (q 41) OpdL.nil)))) rfl (c (gd 37 (gtr (L rfl) (q 42) (ii 0))) rfl (c (pickF (L rfl) (q 37) (q 43)) rfl cn)))))))))))))))))))))))))))
       exact hjj151 _ h _ _ (mp [] _ _ hB)
  ·have h:=ite_f hg114 h
   apply AWp.exit
   apply seqQ_e
   obtain rfl:=oi h
   exact⟨(fun hc=>by cases hc),rfl,(mp [] _ _ hB)⟩
 ·rcases x169 with _ | _
  ·obtain⟨rfl,hmat⟩:=hR
   apply blkQ_r
   apply seqQ_r
   obtain rfl:=oi h
   exact rt (Mat.trans hmat (mp [] [(2,(bo false))] [] hB)) [(bo false)] (Res.tmp (by rfl) (by rfl) Res.nil) rfl
  ·obtain⟨rfl,hmat⟩:=hR
   apply blkQ_hit
   apply seqQ_n
   refine AWp.ghost hmat ?_
   apply AWp.seq
   apply sr (c (fo 1001 1 [1] hN underlying57 1 tyS55 (q 1)) rfl (c (la hN 57 tyS55 (q 74)) rfl (c (OpJ.val (v':=(i6 (a0.fASNs.length:Int))) (by simp) (lenD underlying55 (L rfl) (q 75))) rfl (c (mv hN (ii 0)) rfl cn))))
   apply AWp.block
   obtain⟨x207,hx208,h⟩:=bindS h
   refine lg (xref21_Valid_L1 a0) (fun s171:Int=>([(1,(pt 1001)),(75,(qe_aSpan_2 a0.fASNs)),(76,(i6 (a0.fASNs.length:Int))),(77,(i6 s171))]:EL)) (fun s171:Int=>([(1001,bd 57 (e_aResources a0))]:OL)) (fun(x:(Unit)⊕(Unit)) e E' O'=>match x with | (.inl _p)=>e = .ret∧Mat B E' O' ([(2,(bo false))]:EL) ([]:OL) | (.inr _p)=>e = .exit 2∧Mat B E' O' ([(1,(pt 1001))]:EL) ([(1001,bd 57 (e_aResources a0))]:OL)) hx208 (mp [] _ _ hB) (fun s171 y h => ?_) (fun e E' O' hR => ?_)
   ·unfold xref21_Valid_L1 at h
    apply sr (c (lss (L rfl) (q 77) (q 76)) rfl cn)
    apply AWp.seq
    apply AWp.cond rfl<;>intro hg196
    ·have h:=ite_t hg196 h
     apply AWp.skip
     apply seqQ_n
     apply AWp.seq
     apply AWp.block
     obtain⟨x197,hx197,h⟩:=bindS h
     apply sr (c (mv hN (q 77)) rfl (c (indexD underlying55 tyS101 (idx_some hx197).1 (get_map e_aSpan (idx_some hx197).2) (L rfl) (q 75) (q 77)) rfl (c (loadD tyS101 (by rfl) (by rfl) (L rfl) (q 80)) rfl (cg (alloc hB tyZ101 (nm:=1009) (by decide) (L rfl)) rfl (c (assign (L rfl) (q 79)) rfl (cg (sB tyS101 (q 9) (q 81)) rfl cn))))))
     apply AWp.seq
     refine AWp.cut h (fun m201:Bool=>([(1,(pt 1001)),(75,(qe_aSpan_2 a0.fASNs)),(76,(i6 (a0.fASNs.length:Int))),(77,(i6 s171)),(113,(bo m201))]:EL)) (fun m201:Bool=>([(1001,bd 57 (e_aResources a0))]:OL)) (fun m201 h E' O' hmat => ?_) (fun j202 hjj202 h => ?_)
     ·apply seqQ_n
      refine AWp.ghost hmat ?_
      apply AWp.cond rfl<;>intro hg203
      ·have h:=ite_t hg203 h
       apply sr (c (assign (L rfl) (Opd.bool false)) rfl cn)
       apply AWp.ret
       apply blkQ_r
       apply seqQ_r
       obtain rfl:=oi h
       exact⟨(fun hc=>by cases hc),rfl,(mp [] _ _ hB)⟩
      ·have h:=ite_f hg203 h
       apply AWp.skip
       apply blkQ_n
       apply seqQ_n
       apply rg (c (add6 (L rfl) (q 77) (ii 1)) rfl (c (mv hN (q 114)) rfl cn))
       obtain rfl:=oi h
       exact⟨rfl,(mp [] _ _ hB)⟩
     ·rcases bft (((decide (x197.fFrom<0)) || (decide (x197.fTo<x197.fFrom))) || (decide (4294967295<x197.fTo))) with hg204 | hg204
      ·have h:=ite_t hg204 h
       apply dr (c (fo 1009 0 [0] hN underlying101 0 tyS3 (q 9)) rfl (c (la hN 101 tyS3 (q 82)) rfl (c (lss (L rfl) (q 83) (ii 0)) rfl (c (mv hN (q 84)) rfl (c (oq hN 85 (fo 1009 0 [0] hN underlying101 0 tyS3 (q 9)) (OptL.keep (by rfl) OptL.nil) (GuardV.plain _)) rfl (c (oq hN 85 (la hN 101 tyS3 (q 86)) (OptL.opt OptL.nil) (GuardV.plain _)) rfl (c (oq hN 85 (fo 1009 1 [1] hN underlying101 1 tyS3 (q 9)) (OptL.keep (by rfl) OptL.nil) (GuardV.plain _)) rfl (c (oq hN 85 (la hN 101 tyS3 (q 88)) (OptL.opt OptL.nil) (GuardV.plain _)) rfl (c (oq hN 85 (gtr (L rfl) (q 87) (q 89)) (OptL.opt (OptL.opt OptL.nil)) (GuardV.plain _)) rfl (c (pickOr rfl (L rfl) (q 85) (q 90)) rfl (c (mv hN (q 91)) rfl (c (oq hN 92 (fo 1009 1 [1] hN underlying101 1 tyS3 (q 9)) (OptL.keep (by rfl) OptL.nil) (GuardV.plain _)) rfl (c (oq hN 92 (la hN 101 tyS3 (q 93)) (OptL.opt OptL.nil) (GuardV.plain _)) rfl (c (oq hN 92 (gtr (L rfl) (q 94) (ii 4294967295)) (OptL.opt OptL.nil) (GuardV.plain _)) rfl (c (pickOr rfl (L rfl) (q 92) (q 95)) rfl (c (OpJ.val (v':=.d (.bool true)) (by rw [hg204]<;>rfl) (mv hN (q 96))) rfl (ks 97 (L rfl) (ks 97 (L rfl) (ks 97 (L rfl) (cg (sV 100 (L rfl)) rfl (cg (sV 100 (L rfl)) rfl (cg (sV 100 (L rfl)) rfl (cg (sV 100 (L rfl)) rfl (cg (sV 100 (L rfl)) rfl (cg (sV 100 (L rfl)) rfl (cg (sV 100 (L rfl)) rfl (cg (sV 100 (L rfl)) rfl (cg (sV 100 (L rfl)) rfl (cg (sV 100 (L rfl)) rfl (cg (sV 100 (L rfl)) rfl (ks 97 (L rfl) (c (pickT (L rfl) (q 97) (Opd.bool true)) rfl cn)))))))))))))))))))))))))))))))) (by kernel_rfl) (by kernel_rfl)
       exact hjj202 _ h _ _ (mp [] _ _ hB)
      ·have h:=ite_f hg204 h
       rcases bft (decide (0<s171)) with hg205 | hg205
       ·have h:=ite_t hg205 h
        obtain⟨x206,hx206,h⟩:=bindS h
        apply dr (c (fo 1009 0 [0] hN underlying101 0 tyS3 (q 9)) rfl (c (la hN 101 tyS3 (q 82)) rfl (c (lss (L rfl) (q 83) (ii 0)) rfl (c (mv hN (q 84)) rfl (c (oq hN 85 (fo 1009 0 [0] hN underlying101 0 tyS3 (q 9)) (OptL.keep (by rfl) OptL.nil) (GuardV.plain _)) rfl (c (oq hN 85 (la hN 101 tyS3 (q 86)) (OptL.opt OptL.nil) (GuardV.plain _)) rfl (c (oq hN 85 (fo 1009 1 [1] hN underlying101 1 tyS3 (q 9)) (OptL.keep (by rfl) OptL.nil) (GuardV.plain _)) rfl (c (oq hN 85 (la hN 101 tyS3 (q 88)) (OptL.opt OptL.nil) (GuardV.plain _)) rfl (c (oq hN 85 (gtr (L rfl) (q 87) (q 89)) (OptL.opt (OptL.opt OptL.nil)) (GuardV.plain _)) rfl (c (pickOr rfl (L rfl) (q 85) (q 90)) rfl (c (mv hN (q 91)) rfl (c (oq hN 92 (fo 1009 1 [1] hN underlying101 1 tyS3 (q 9)) (OptL.keep (by rfl) OptL.nil) (GuardV.plain _)) rfl (c (oq hN 92 (la hN 101 tyS3 (q 93)) (OptL.opt OptL.nil) (GuardV.plain _)) rfl (c (oq hN 92 (gtr (L rfl) (q 94) (ii 4294967295)) (OptL.opt OptL.nil) (GuardV.plain _)) rfl (c (pickOr rfl (L rfl) (q 92) (q 95)) rfl (c (OpJ.val (v':=.d (.bool false)) (by rw [hg204]<;>rfl) (mv hN (q 96))) rfl (c (gd 97 (mv hN (q 8))) rfl (c (gd 97 (gtr (L rfl) (q 98) (ii 0))) rfl (c (gd 97 (OpJ.val (v':=.d (.bool true)) (by rw [hg205]<;>rfl) (mv hN (q 99)))) rfl (c (gd 100 (fo 1001 1 [1] hN underlying57 1 tyS55 (q 1))) rfl (c (gd 100 (la hN 57 tyS55 (q 101))) rfl (c (gd 100 (mv hN (q 8))) rfl (c (gd 100 (sub6 (L rfl) (q 103) (ii 1))) rfl (c (gd 100 (indexD underlying55 tyS101 (idx_some hx206).1 (get_map e_aSpan (idx_some hx206).2) (L rfl) (q 102) (q 104))) rfl (c (gd 100 (fieldD underlying101 (by rfl) (o:=1) (by rfl) tyS3 (by decide) (by rfl) (by rfl) (L rfl) (q 105))) rfl (c (gd 100 (loadD tyS3 (by rfl) (by rfl) (L rfl) (q 106))) rfl (c (gd 100 (fo 1009 0 [0] hN underlying101 0 tyS3 (q 9))) rfl (c (gd 100 (la hN 101 tyS3 (q 108))) rfl (c (gd 100 (sub6 (L rfl) (q 109) (ii 1))) rfl (c (gd 100 (geq (L rfl) (q 107) (q 110))) rfl (c (gd 97 (pickT (L rfl) (q 100) (q 111))) rfl (c (pickF (L rfl) (q 97) (q 112)) rfl cn)))))))))))))))))))))))))))))))) (by kernel_rfl) (by kernel_rfl)
        exact hjj202 _ h _ _ (mp [] _ _ hB)
       ·have h:=ite_f hg205 h
        apply dr (c (fo 1009 0 [0] hN underlying101 0 tyS3 (q 9)) rfl (c (la hN 101 tyS3 (q 82)) rfl (c (lss (L rfl) (q 83) (ii 0)) rfl (c (mv hN (q 84)) rfl (c (oq hN 85 (fo 1009 0 [0] hN underlying101 0 tyS3 (q 9)) (OptL.keep (by rfl) OptL.nil) (GuardV.plain _)) rfl (c (oq hN 85 (la hN 101 tyS3 (q 86)) (OptL.opt OptL.nil) (GuardV.plain _)) rfl (c (oq hN 85 (fo 1009 1 [1] hN underlying101 1 tyS3 (q 9)) (OptL.keep (by rfl) OptL.nil) (GuardV.plain _)) rfl (c (oq hN 85 (la hN 101 tyS3 (q 88)) (OptL.opt OptL.nil) (GuardV.plain _)) rfl (c (oq hN 85 (gtr (L rfl) (q 87) (q 89)) (OptL.opt (OptL.opt OptL.nil)) (GuardV.plain _)) rfl (c (pickOr rfl (L rfl) (q 85) (q 90)) rfl (c (mv hN (q 91)) rfl (c (oq hN 92 (fo 1009 1 [1] hN underlying101 1 tyS3 (q 9)) (OptL.keep (by rfl) OptL.nil) (GuardV.plain _)) rfl (c (oq hN 92 (la hN 101 tyS3 (q 93)) (OptL.opt OptL.nil) (GuardV.plain _)) rfl (c (oq hN 92 (gtr (L rfl) (q 94) (ii 4294967295)) (OptL.opt OptL.nil) (GuardV.plain _)) rfl (c (pickOr rfl (L rfl) (q 92) (q 95)) rfl (c (OpJ.val (v':=.d (.bool false)) (by rw [hg204]<;>rfl) (mv hN (q 96))) rfl (c (gd 97 (mv hN (q 8))) rfl (c (gd 97 (gtr (L rfl) (q 98) (ii 0))) rfl (c (gd 97 (OpJ.val (v':=.d (.bool false)) (by rw [hg205]<;>rfl) (mv hN (q 99)))) rfl (ks 100 (L rfl) (ks 100 (L rfl) (ks 100 (L rfl) (ks 100 (L rfl) (ks 100 (L rfl) (ks 100 (L rfl) (ks 100 (L rfl) (ks 100 (L rfl) (ks 100 (L rfl) (ks 100 (L rfl) (ks 100 (L rfl) (c (gd 97 (pickF (L rfl) (q 100) (Opd.bool false))) rfl (c (pickF (L rfl) (q 97) (q 112)) rfl cn)))))))))))))))))))))))))))))))) (by kernel_rfl) (by kernel_rfl)
        exact hjj202 _ h _ _ (mp [] _ _ hB)
    ·have h:=ite_f hg196 h
     apply AWp.exit
     apply seqQ_e
     obtain rfl:=oi h
     exact⟨(fun hc=>by cases hc),rfl,(mp [] _ _ hB)⟩
   ·rcases x207 with _ | _
    ·obtain⟨rfl,hmat⟩:=hR
     apply blkQ_r
     apply seqQ_r
     obtain rfl:=oi h
     exact rt (Mat.trans hmat (mp [] [(2,(bo false))] [] hB)) [(bo false)] (Res.tmp (by rfl) (by rfl) Res.nil) rfl
    ·obtain⟨rfl,hmat⟩:=hR
     apply blkQ_hit
     apply seqQ_n
     refine AWp.ghost hmat ?_
     apply sr (c (fo 1001 0 [0] hN underlying57 0 tyS54 (q 1)) rfl (c (la hN 57 tyS54 (q 115)) rfl (c (OpJ.val (v':=(i6 (a0.fAddrs.length:Int))) (by simp) (lenD underlying54 (L rfl) (q 116))) rfl (c (leq (L rfl) (q 117) (ii 256)) rfl (c (mv hN (q 118)) rfl (c (oq hN 119 (fo 1001 1 [1] hN underlying57 1 tyS55 (q 1)) (OptL.keep (by rfl) OptL.nil) (GuardV.plain _)) rfl (c (oq hN 119 (la hN 57 tyS55 (q 120)) (OptL.opt OptL.nil) (GuardV.plain _)) rfl (c (oq hN 119 (OpJ.val (v':=(i6 (a0.fASNs.length:Int))) (by simp) (lenD underlying55 (L rfl) (q 121))) (OptL.opt OptL.nil) (GuardV.plain _)) rfl (c (oq hN 119 (leq (L rfl) (q 122) (ii 256)) (OptL.opt OptL.nil) (GuardV.plain _)) rfl (c (pickAnd rfl (L rfl) (q 119) (q 123)) rfl (c (assign (L rfl) (q 124)) rfl cn)))))))))))
     apply AWp.ret
     obtain rfl:=oi h
     exact rt (kp [(2,_)] [] hB rfl rfl (by rfl)) [(bo ((decide ((a0.fAddrs.length:Int)≤256))&&(decide ((a0.fASNs.length:Int)≤256))))] (Res.tmp (by rfl) (by rfl) Res.nil) rfl
def xref21_greater (a0:aAddr) (a1:aAddr):Option (aAddr) :=
 (xref01_Cmp a0 a1).bind fun r1 =>
 (if (decide (r1<0))=true then
 some a1
 else
 some a0)
theorem xref21_greater_ac (a0:aAddr) (a1:aAddr) (r:aAddr) (h:xref21_greater a0 a1=some r):AC Tryz.prog 81 [(.d (e_aAddr a0)),(.d (e_aAddr a1))] [] (.d (e_aAddr r)) []:=by
 refine AC.of_code2 Tryz.func81 rfl rfl (Nat.le_of_ble_eq_true (by rfl)) fun B hB hN => ?_
 delta xref21_greater at h
 apply sr (cg (OpJ.box hB (nm:=1002) (by decide) (by simp) rfl (ltN hN rfl) (q 0)) rfl (cg (OpJ.box hB (nm:=1003) (by decide) (by simp) rfl (ltN hN rfl) (q 1)) rfl (cg (alloc hB tyZ44 (nm:=1004) (by decide) (ltN hN rfl)) rfl cn)))
 apply AWp.seq
 obtain⟨r1,hr1,h⟩:=bindS h
 apply sr (c (lb hN 44 _ _ tyS44 (At.here _) (q 2)) rfl (c (lb hN 44 _ _ tyS44 (At.here _) (q 3)) rfl (cg (OpJ.callFn hB fnOk46 (xref01_Cmp_ac a0 a1 r1 hr1) [] (by kernel_rfl) (ltN hN rfl) (by kernel_rfl) (OpdL.cons (q 5) (OpdL.cons (q 6) OpdL.nil))) rfl (c (lss (ltN hN rfl) (q 7) (ii 0)) rfl cn))))
 apply AWp.cond rfl<;>intro hg2
 ·have h:=ite_t hg2 h
  apply sr (c (lb hN 44 _ _ tyS44 (At.here _) (q 3)) rfl (cg (sB tyS44 (q 4) (q 9)) rfl cn))
  apply AWp.ret
  apply seqQ_r
  obtain rfl:=oi h
  exact rt (kp [(4,_)] [(1004,some _)] hB rfl rfl (by rfl)) [(.d (e_aAddr a1))] (Res.cell (c:=(.d (e_aAddr a1))) (by rfl) (by rfl) tyS44 (by rfl) (by rfl) (by rfl) Res.nil) rfl
 ·have h:=ite_f hg2 h
  apply AWp.skip
  apply seqQ_n
  apply sr (c (lb hN 44 _ _ tyS44 (At.here _) (q 2)) rfl (cg (sB tyS44 (q 4) (q 10)) rfl cn))
  apply AWp.ret
  obtain rfl:=oi h
  exact rt (kp [(4,_)] [(1004,some _)] hB rfl rfl (by rfl)) [(.d (e_aAddr a0))] (Res.cell (c:=(.d (e_aAddr a0))) (by rfl) (by rfl) tyS44 (by rfl) (by rfl) (by rfl) Res.nil) rfl
def xref21_lesser (a0:aAddr) (a1:aAddr):Option (aAddr) :=
 (xref01_Cmp a0 a1).bind fun r1 =>
 (if (decide (r1<0))=true then
 some a0
 else
 some a1)
theorem xref21_lesser_ac (a0:aAddr) (a1:aAddr) (r:aAddr) (h:xref21_lesser a0 a1=some r):AC Tryz.prog 82 [(.d (e_aAddr a0)),(.d (e_aAddr a1))] [] (.d (e_aAddr r)) []:=by
 refine AC.of_code2 Tryz.func82 rfl rfl (Nat.le_of_ble_eq_true (by rfl)) fun B hB hN => ?_
 delta xref21_lesser at h
 apply sr (cg (OpJ.box hB (nm:=1002) (by decide) (by simp) rfl (ltN hN rfl) (q 0)) rfl (cg (OpJ.box hB (nm:=1003) (by decide) (by simp) rfl (ltN hN rfl) (q 1)) rfl (cg (alloc hB tyZ44 (nm:=1004) (by decide) (ltN hN rfl)) rfl cn)))
 apply AWp.seq
 obtain⟨r1,hr1,h⟩:=bindS h
 apply sr (c (lb hN 44 _ _ tyS44 (At.here _) (q 2)) rfl (c (lb hN 44 _ _ tyS44 (At.here _) (q 3)) rfl (cg (OpJ.callFn hB fnOk46 (xref01_Cmp_ac a0 a1 r1 hr1) [] (by kernel_rfl) (ltN hN rfl) (by kernel_rfl) (OpdL.cons (q 5) (OpdL.cons (q 6) OpdL.nil))) rfl (c (lss (ltN hN rfl) (q 7) (ii 0)) rfl cn))))
 apply AWp.cond rfl<;>intro hg2
 ·have h:=ite_t hg2 h
  apply sr (c (lb hN 44 _ _ tyS44 (At.here _) (q 2)) rfl (cg (sB tyS44 (q 4) (q 9)) rfl cn))
  apply AWp.ret
  apply seqQ_r
  obtain rfl:=oi h
  exact rt (kp [(4,_)] [(1004,some _)] hB rfl rfl (by rfl)) [(.d (e_aAddr a0))] (Res.cell (c:=(.d (e_aAddr a0))) (by rfl) (by rfl) tyS44 (by rfl) (by rfl) (by rfl) Res.nil) rfl
 ·have h:=ite_f hg2 h
  apply AWp.skip
  apply seqQ_n
  apply sr (c (lb hN 44 _ _ tyS44 (At.here _) (q 3)) rfl (cg (sB tyS44 (q 4) (q 10)) rfl cn))
  apply AWp.ret
  obtain rfl:=oi h
  exact rt (kp [(4,_)] [(1004,some _)] hB rfl rfl (by rfl)) [(.d (e_aAddr a1))] (Res.cell (c:=(.d (e_aAddr a1))) (by rfl) (by rfl) tyS44 (by rfl) (by rfl) (by rfl) Res.nil) rfl
def xref21_Intersect_L1 (a1:aResources) (x121:aRange) (s122:Int×(List aRange)):Option ((((List aRange)))⊕(Int×(List aRange))) :=
 (if (decide (s122.1<(a1.fAddrs.length:Int)))=true then
 (idx a1.fAddrs s122.1).bind fun x157 =>
 (xref21_greater x121.fFrom x157.fFrom).bind fun r158 =>
 (xref21_lesser x121.fTo x157.fTo).bind fun r159 =>
 jn (fun m162:Bool =>
 jn (fun m166:(List aRange) =>
 some (.inr ((w64 (s122.1+1)),m166))) (fun j167 =>
 (if m162=true then
 chk (decide ((s122.2++[(aRange.mk r158 r159)]).length≤LIM)) <|
 j167 (s122.2++[(aRange.mk r158 r159)])
 else
 j167 s122.2))) (fun j163 =>
 (if (x121.fFrom.fV6==x157.fFrom.fV6)=true then
 (xref01_Cmp r158 r159).bind fun r171 =>
 j163 (decide (r171≤0))
 else
 j163 false))
 else
 some (.inl s122.2))
def xref21_Intersect_L0 (a0:aResources) (a1:aResources) (s8:Int×(List aRange)):Option ((((List aRange)))⊕(Int×(List aRange))) :=
 (if (decide (s8.1<(a0.fAddrs.length:Int)))=true then
 (idx a0.fAddrs s8.1).bind fun x121 =>
 (loop (xref21_Intersect_L1 a1 x121) (0,s8.2)).bind fun p155 =>
 some (.inr ((w64 (s8.1+1)),p155))
 else
 some (.inl s8.2))
def xref21_Intersect_L3 (a1:aResources) (x241:aSpan) (s242:Int×(List aSpan)):Option ((((List aSpan)))⊕(Int×(List aSpan))) :=
 (if (decide (s242.1<(a1.fASNs.length:Int)))=true then
 (idx a1.fASNs s242.1).bind fun x261 =>
 jn (fun m264:(List aSpan) =>
 some (.inr ((w64 (s242.1+1)),m264))) (fun j265 =>
 (if (decide ((maxI x241.fFrom x261.fFrom)≤(minI x241.fTo x261.fTo)))=true then
 chk (decide ((s242.2++[(aSpan.mk (maxI x241.fFrom x261.fFrom) (minI x241.fTo x261.fTo))]).length≤LIM)) <|
 j265 (s242.2++[(aSpan.mk (maxI x241.fFrom x261.fFrom) (minI x241.fTo x261.fTo))])
 else
 j265 s242.2))
 else
 some (.inl s242.2))
def xref21_Intersect_L2 (a0:aResources) (a1:aResources) (s176:Int×(List aSpan)):Option ((((List aSpan)))⊕(Int×(List aSpan))) :=
 (if (decide (s176.1<(a0.fASNs.length:Int)))=true then
 (idx a0.fASNs s176.1).bind fun x241 =>
 (loop (xref21_Intersect_L3 a1 x241) (0,s176.2)).bind fun p259 =>
 some (.inr ((w64 (s176.1+1)),p259))
 else
 some (.inl s176.2))
def xref21_Intersect (a0:aResources) (a1:aResources):Option (aResources×Int) :=
 jn (fun m5:Bool =>
 (if m5=true then
 some ((aResources.mk ([]:List aRange) ([]:List aSpan)),1)
 else
 (loop (xref21_Intersect_L0 a0 a1) (0,([]:List aRange))).bind fun p119 =>
 (loop (xref21_Intersect_L2 a0 a1) (0,([]:List aSpan))).bind fun p239 =>
 (xref21_ranges p119).bind fun r273 =>
 (xref21_spans p239).bind fun r274 =>
 (xref21_limited r273 r274).bind fun r275 =>
 some (r275.1,r275.2))) (fun j6 =>
 (xref21_Valid a0).bind fun r276 =>
 (if (!r276)=true then
 j6 true
 else
 (xref21_Valid a1).bind fun r278 =>
 j6 (!r278)))
theorem xref21_Intersect_ac (a0:aResources) (a1:aResources) (r:aResources×Int) (h:xref21_Intersect a0 a1=some r):AC Tryz.prog 50 [(.d (e_aResources a0)),(.d (e_aResources a1))] [] (.tup [(.d (e_aResources r.1)),(.d (.int .i64 r.2))]) []:=by
 refine ac2 Tryz.func50 rfl rfl fun B hB hN L => ?_
 delta xref21_Intersect at h
 apply sr (cg (OpJ.box hB (nm:=1002) (by decide) (by simp) rfl (L rfl) (q 0)) rfl (cg (OpJ.box hB (nm:=1003) (by decide) (by simp) rfl (L rfl) (q 1)) rfl (cg (alloc hB tyZ57 (nm:=1004) (by decide) (L rfl)) rfl (c (assign (L rfl) (ii 0)) rfl cn))))
 apply AWp.seq
 apply AWp.seq
 refine AWp.cut h (fun m5:Bool=>([(2,(pt 1002)),(3,(pt 1003)),(4,(pt 1004)),(27,(bo m5))]:EL)) (fun m5:Bool=>([(1002,bd 57 (e_aResources a0)),(1003,bd 57 (e_aResources a1)),(1004,some (.box 57 (.st [.nils,.nils])))]:OL)) (fun m5 h E' O' hmat => ?_) (fun j6 hjj6 h => ?_)
 ·apply seqQ_n
  refine AWp.ghost hmat ?_
  apply AWp.cond rfl<;>intro hg7
  ·have h:=ite_t hg7 h
   apply sr (c (OpJ.build (places:=[(0,1),(1,1)]) ⟨underlying57,fun w=>by kernel_rfl⟩ tyZS57 Opds.nil (by kernel_rfl) (r:=(.st [.nils,.nils])) (by rfl) (L rfl)) rfl (cg (sB tyS57 (q 4) (q 28)) rfl (c (assign (L rfl) (ii 1)) rfl cn)))
   apply AWp.ret
   apply seqQ_r
   obtain rfl:=oi h
   exact rt (Mat.trans (Mat.coeP (Ts:=[]) (Bs:=[(1004,bd 57 (.st [(.list 6 (([]:List aRange).map e_aRange)),(.list 2 (([]:List aSpan).map e_aSpan))]))]) TwT.nil (TwB.cons (x:=(.st [.nils,.nils])) (by rfl) (Tw.leaf ⟨_,(Co.st (CoL.cons (Co.nils 6) (CoL.cons (Co.nils 2) CoL.nil))),rfl⟩) TwB.nil)) (mp [] [(4,(pt 1004)),(5,(i6 1))] [(1004,bd 57 (.st [(.list 6 (([]:List aRange).map e_aRange)),(.list 2 (([]:List aSpan).map e_aSpan))]))] hB)) [(.d (.st [(.list 6 (([]:List aRange).map e_aRange)),(.list 2 (([]:List aSpan).map e_aSpan))])),(i6 1)] (Res.cell (c:=(.d (.st [(.list 6 (([]:List aRange).map e_aRange)),(.list 2 (([]:List aSpan).map e_aSpan))]))) (by rfl) (by rfl) tyS57 (by rfl) (by rfl) (by rfl) (Res.tmp (by rfl) (by rfl) Res.nil)) rfl
  ·have h:=ite_f hg7 h
   apply AWp.skip
   apply seqQ_n
   apply sr (c (assign (L rfl) Opd.nils) rfl cn)
   apply AWp.seq
   apply sr (c (fo 1002 0 [0] hN underlying57 0 tyS54 (q 2)) rfl (c (la hN 57 tyS54 (q 29)) rfl (c (OpJ.val (v':=(i6 (a0.fAddrs.length:Int))) (by simp) (lenD underlying54 (L rfl) (q 30))) rfl (c (mv hN (ii 0)) rfl cn))))
   apply AWp.block
   obtain⟨p119,hx175,h⟩:=bindS h
   refine lg (xref21_Intersect_L0 a0 a1) (fun s8:Int×(List aRange)=>([(2,(pt 1002)),(3,(pt 1003)),(4,(pt 1004)),(6,(.sref 3006 6 0 s8.2.length)),(30,(qe_aRange_6 a0.fAddrs)),(31,(i6 (a0.fAddrs.length:Int))),(32,(i6 s8.1))]:EL)) (fun s8:Int×(List aRange)=>([(1002,bd 57 (e_aResources a0)),(1003,bd 57 (e_aResources a1)),(1004,some (.box 57 (.st [.nils,.nils]))),(3006,some (we_aRange_92_6 s8.2))]:OL)) (fun(p119:((List aRange))) e E' O'=>e = .exit 0∧Mat B E' O' ([(2,(pt 1002)),(3,(pt 1003)),(4,(pt 1004)),(6,(.sref 3006 6 0 p119.length))]:EL) ([(1002,bd 57 (e_aResources a0)),(1003,bd 57 (e_aResources a1)),(1004,some (.box 57 (.st [.nils,.nils]))),(3006,some (we_aRange_92_6 p119))]:OL)) hx175 (Mat.trans (Mat.beginP (n:=3006) (e:=92) (sz:=6) (Ts:=[(6,(.sref 3006 6 0 0))]) (Bs:=[]) hB (by decide) (by rfl) (by decide) (TwT.cons (x:=.nils) (by rfl) (Tw.leaf ⟨rfl,rfl⟩) TwT.nil) TwB.nil) (mp [] _ _ hB)) (fun s8 y h => ?_) (fun e E' O' hR => ?_)
   ·unfold xref21_Intersect_L0 at h
    apply sr (c (lss (L rfl) (q 32) (q 31)) rfl cn)
    apply AWp.seq
    apply AWp.cond rfl<;>intro hg120
    ·have h:=ite_t hg120 h
     apply AWp.skip
     apply seqQ_n
     apply AWp.seq
     apply AWp.block
     obtain⟨x121,hx121,h⟩:=bindS h
     apply sr (c (indexD underlying54 tyS92 (idx_some hx121).1 (get_map e_aRange (idx_some hx121).2) (L rfl) (q 30) (q 32)) rfl (c (loadD tyS92 (by rfl) (by rfl) (L rfl) (q 34)) rfl (cg (alloc hB tyZ92 (nm:=1008) (by decide) (L rfl)) rfl (cg (sB tyS92 (q 8) (q 35)) rfl cn))))
     apply sr (c (fo 1003 0 [0] hN underlying57 0 tyS54 (q 3)) rfl (c (la hN 57 tyS54 (q 36)) rfl (c (OpJ.val (v':=(i6 (a1.fAddrs.length:Int))) (by simp) (lenD underlying54 (L rfl) (q 37))) rfl (c (mv hN (ii 0)) rfl cn))))
     apply AWp.block
     obtain⟨p155,hx173,h⟩:=bindS h
     refine lg (xref21_Intersect_L1 a1 x121) (fun s122:Int×(List aRange)=>([(2,(pt 1002)),(3,(pt 1003)),(4,(pt 1004)),(6,(.sref 3006 6 0 s122.2.length)),(8,(pt 1008)),(30,(qe_aRange_6 a0.fAddrs)),(31,(i6 (a0.fAddrs.length:Int))),(32,(i6 s8.1)),(37,(qe_aRange_6 a1.fAddrs)),(38,(i6 (a1.fAddrs.length:Int))),(39,(i6 s122.1))]:EL)) (fun s122:Int×(List aRange)=>([(1002,bd 57 (e_aResources a0)),(1003,bd 57 (e_aResources a1)),(1004,some (.box 57 (.st [.nils,.nils]))),(1008,bd 92 (e_aRange x121)),(3006,some (we_aRange_92_6 s122.2))]:OL)) (fun(p155:((List aRange))) e E' O'=>e = .exit 2∧Mat B E' O' ([(2,(pt 1002)),(3,(pt 1003)),(4,(pt 1004)),(6,(.sref 3006 6 0 p155.length)),(30,(qe_aRange_6 a0.fAddrs)),(31,(i6 (a0.fAddrs.length:Int))),(32,(i6 s8.1))]:EL) ([(1002,bd 57 (e_aResources a0)),(1003,bd 57 (e_aResources a1)),(1004,some (.box 57 (.st [.nils,.nils]))),(3006,some (we_aRange_92_6 p155))]:OL)) hx173 (mp [] _ _ hB) (fun s122 y h => ?_) (fun e E' O' hR => ?_)
     ·unfold xref21_Intersect_L1 at h
      apply sr (c (lss (L rfl) (q 39) (q 38)) rfl cn)
      apply AWp.seq
      apply AWp.cond rfl<;>intro hg156
      ·have h:=ite_t hg156 h
       apply AWp.skip
       apply seqQ_n
       apply AWp.seq
       apply AWp.block
       obtain⟨x157,hx157,h⟩:=bindS h
       apply sr (c (indexD underlying54 tyS92 (idx_some hx157).1 (get_map e_aRange (idx_some hx157).2) (L rfl) (q 37) (q 39)) rfl (c (loadD tyS92 (by rfl) (by rfl) (L rfl) (q 41)) rfl (cg (alloc hB tyZ92 (nm:=1010) (by decide) (L rfl)) rfl (cg (sB tyS92 (q 10) (q 42)) rfl cn))))
       obtain⟨r158,hr158,h⟩:=bindS h
       obtain⟨r159,hr159,h⟩:=bindS h
       apply sd (c (fo 1008 0 [0] hN underlying92 0 tyS44 (q 8)) rfl (c (la hN 92 tyS44 (q 43)) rfl (c (fo 1010 0 [0] hN underlying92 0 tyS44 (q 10)) rfl (c (la hN 92 tyS44 (q 45)) rfl (cg (cf hB fnOk81 (xref21_greater_ac x121.fFrom x157.fFrom r158 hr158) (L rfl) (OpdL.cons (q 44) (OpdL.cons (q 46) OpdL.nil))) rfl (c (fo 1008 3 [1] hN underlying92 3 tyS44 (q 8)) rfl (c (la hN 92 tyS44 (q 48)) rfl (c (fo 1010 3 [1] hN underlying92 3 tyS44 (q 10)) rfl (c (la hN 92 tyS44 (q 50)) rfl (cg (cf hB fnOk82 (xref21_lesser_ac x121.fTo x157.fTo r159 hr159) (L rfl) (OpdL.cons (q 49) (OpdL.cons (q 51) OpdL.nil))) rfl (cg (alloc hB tyZ44 (nm:=1011) (by decide) (L rfl)) rfl (cg (alloc hB tyZ44 (nm:=1012) (by decide) (L rfl)) rfl (cg (sB tyS44 (q 11) (q 47)) rfl (cg (sB tyS44 (q 12) (q 52)) rfl cn)))))))))))))) (by kernel_rfl) (by kernel_rfl)
       apply AWp.seq
       refine AWp.cut h (fun m162:Bool=>([(2,(pt 1002)),(3,(pt 1003)),(4,(pt 1004)),(6,(.sref 3006 6 0 s122.2.length)),(8,(pt 1008)),(11,(pt 1011)),(12,(pt 1012)),(30,(qe_aRange_6 a0.fAddrs)),(31,(i6 (a0.fAddrs.length:Int))),(32,(i6 s8.1)),(37,(qe_aRange_6 a1.fAddrs)),(38,(i6 (a1.fAddrs.length:Int))),(39,(i6 s122.1)),(65,(bo m162))]:EL)) (fun m162:Bool=>([(1002,bd 57 (e_aResources a0)),(1003,bd 57 (e_aResources a1)),(1004,some (.box 57 (.st [.nils,.nils]))),(1008,bd 92 (e_aRange x121)),(1011,bd 44 (e_aAddr r158)),(1012,bd 44 (e_aAddr r159)),(3006,some (we_aRange_92_6 s122.2))]:OL)) (fun m162 h E' O' hmat => ?_) (fun j163 hjj163 h => ?_)
       ·apply seqQ_n
        refine AWp.ghost hmat ?_
        refine AWp.cut h (fun m166:(List aRange)=>([(2,(pt 1002)),(3,(pt 1003)),(4,(pt 1004)),(6,(.sref 3006 6 0 m166.length)),(8,(pt 1008)),(30,(qe_aRange_6 a0.fAddrs)),(31,(i6 (a0.fAddrs.length:Int))),(32,(i6 s8.1)),(37,(qe_aRange_6 a1.fAddrs)),(38,(i6 (a1.fAddrs.length:Int))),(39,(i6 s122.1))]:EL)) (fun m166:(List aRange)=>([(1002,bd 57 (e_aResources a0)),(1003,bd 57 (e_aResources a1)),(1004,some (.box 57 (.st [.nils,.nils]))),(1008,bd 92 (e_aRange x121)),(3006,some (we_aRange_92_6 m166))]:OL)) (fun m166 h E' O' hmat => ?_) (fun j167 hjj167 h => ?_)
        ·apply blkQ_n
         apply seqQ_n
         refine AWp.ghost hmat ?_
         apply rg (c (add6 (L rfl) (q 39) (ii 1)) rfl (c (mv hN (q 72)) rfl cn))
         obtain rfl:=oi h
         exact⟨rfl,(mp [] _ _ hB)⟩
        ·apply AWp.cond rfl<;>intro hg168
         ·have h:=ite_t hg168 h
          obtain⟨hc169,h⟩:=chk_some h
          apply rg (c (mv hN (q 6)) rfl (c (lb hN 44 _ _ tyS44 (At.here _) (q 11)) rfl (c (lb hN 44 _ _ tyS44 (At.here _) (q 12)) rfl (c (OpJ.coe (v:=(.st [(.d (e_aAddr r158)),(.d (e_aAddr r159))])) (y:=(.st [(e_aAddr r158),(e_aAddr r159)])) (Co.st (CoL.cons (Co.d _) (CoL.cons (Co.d _) CoL.nil))) rfl (OpJ.build (places:=[(0,3),(3,3)]) ⟨underlying92,fun w=>by kernel_rfl⟩ tyZS92 (Opds.cons (q 67) (Opds.cons (q 68) Opds.nil)) (by kernel_rfl) (r:=(.st [(.d (e_aAddr r158)),(.d (e_aAddr r159))])) (by rfl) (L rfl))) rfl (c (buildSlice underlying54 tyS92 tyZD92 (by rfl) (by decide) (by decide) (Opds.cons (q 69) Opds.nil) (by kernel_rfl) (es:=([(.st [(e_aAddr r158),(e_aAddr r159)])]:List D)) (by rfl) (by rfl) (by kernel_rfl) (by simp) (L rfl)) rfl (cg (apd hB underlying54 tyE92 1071 e_aRange s122.2 [(aRange.mk r158 r159)] hc169 (L rfl) (q 66) (q 70)) rfl (c (assign (L rfl) (q 71)) rfl cn)))))))
          exact hjj167 _ h _ _ (mp [(3006,1071)] _ _ hB)
         ·have h:=ite_f hg168 h
          apply AWp.skip
          exact hjj167 _ h _ _ (mp [] _ _ hB)
       ·rcases bft (x121.fFrom.fV6==x157.fFrom.fV6) with hg170 | hg170
        ·have h:=ite_t hg170 h
         obtain⟨r171,hr171,h⟩:=bindS h
         apply rg (c (fo 1008 0 [0] hN underlying92 0 tyS44 (q 8)) rfl (c (fo 1008 0 [0,0] hN underlying44 0 tyS4 (q 53)) rfl (c (lb hN 92 _ _ tyS4 (At.dst1 (by rfl) (by rfl) (ad _) (by first | rfl | omega)) (q 54)) rfl (c (fo 1010 0 [0] hN underlying92 0 tyS44 (q 10)) rfl (c (fo 1010 0 [0,0] hN underlying44 0 tyS4 (q 56)) rfl (c (lb hN 92 _ _ tyS4 (At.dst1 (by rfl) (by rfl) (ad _) (by first | rfl | omega)) (q 57)) rfl (c (OpJ.eqlB underlying4 (L rfl) (q 55) (q 58)) rfl (c (OpJ.val (v':=.d (.bool true)) (by rw [hg170]<;>rfl) (mv hN (q 59))) rfl (c (gd 60 (lb hN 44 _ _ tyS44 (At.here _) (q 11))) rfl (c (gd 60 (lb hN 44 _ _ tyS44 (At.here _) (q 12))) rfl (cg (gd 60 (cf hB fnOk46 (xref01_Cmp_ac r158 r159 r171 hr171) (L rfl) (OpdL.cons (q 61) (OpdL.cons (q 62) OpdL.nil)))) rfl (c (gd 60 (leq (L rfl) (q 63) (ii 0))) rfl (c (pickT (L rfl) (q 60) (q 64)) rfl cn)))))))))))))
         exact hjj163 _ h _ _ (mp [] _ _ hB)
        ·have h:=ite_f hg170 h
         apply rg (c (fo 1008 0 [0] hN underlying92 0 tyS44 (q 8)) rfl (c (fo 1008 0 [0,0] hN underlying44 0 tyS4 (q 53)) rfl (c (lb hN 92 _ _ tyS4 (At.dst1 (by rfl) (by rfl) (ad _) (by first | rfl | omega)) (q 54)) rfl (c (fo 1010 0 [0] hN underlying92 0 tyS44 (q 10)) rfl (c (fo 1010 0 [0,0] hN underlying44 0 tyS4 (q 56)) rfl (c (lb hN 92 _ _ tyS4 (At.dst1 (by rfl) (by rfl) (ad _) (by first | rfl | omega)) (q 57)) rfl (c (OpJ.eqlB underlying4 (L rfl) (q 55) (q 58)) rfl (c (OpJ.val (v':=.d (.bool false)) (by rw [hg170]<;>rfl) (mv hN (q 59))) rfl (ks 60 (L rfl) (ks 60 (L rfl) (ks 60 (L rfl) (ks 60 (L rfl) (c (pickF (L rfl) (q 60) (Opd.bool false)) rfl cn)))))))))))))
         exact hjj163 _ h _ _ (mp [] _ _ hB)
      ·have h:=ite_f hg156 h
       apply AWp.exit
       apply seqQ_e
       obtain rfl:=oi h
       exact⟨(fun hc=>by cases hc),rfl,(mp [] _ _ hB)⟩
     ·obtain⟨rfl,hmat⟩:=hR
      apply blkQ_hit
      apply blkQ_n
      apply seqQ_n
      refine AWp.ghost hmat ?_
      apply rg (c (add6 (L rfl) (q 32) (ii 1)) rfl (c (mv hN (q 73)) rfl cn))
      obtain rfl:=oi h
      exact⟨rfl,(mp [] _ _ hB)⟩
    ·have h:=ite_f hg120 h
     apply AWp.exit
     apply seqQ_e
     obtain rfl:=oi h
     exact⟨(fun hc=>by cases hc),rfl,(mp [] _ _ hB)⟩
   ·obtain⟨rfl,hmat⟩:=hR
    apply blkQ_hit
    apply seqQ_n
    refine AWp.ghost hmat ?_
    apply sr (c (assign (L rfl) Opd.nils) rfl cn)
    apply AWp.seq
    apply sr (c (fo 1002 1 [1] hN underlying57 1 tyS55 (q 2)) rfl (c (la hN 57 tyS55 (q 74)) rfl (c (OpJ.val (v':=(i6 (a0.fASNs.length:Int))) (by simp) (lenD underlying55 (L rfl) (q 75))) rfl (c (mv hN (ii 0)) rfl cn))))
    apply AWp.block
    obtain⟨p239,hx271,h⟩:=bindS h
    refine lg (xref21_Intersect_L2 a0 a1) (fun s176:Int×(List aSpan)=>([(3,(pt 1003)),(4,(pt 1004)),(6,(.sref 3006 6 0 p119.length)),(13,(.sref 3013 2 0 s176.2.length)),(75,(qe_aSpan_2 a0.fASNs)),(76,(i6 (a0.fASNs.length:Int))),(77,(i6 s176.1))]:EL)) (fun s176:Int×(List aSpan)=>([(1003,bd 57 (e_aResources a1)),(1004,some (.box 57 (.st [.nils,.nils]))),(3006,some (we_aRange_92_6 p119)),(3013,some (we_aSpan_101_2 s176.2))]:OL)) (fun(p239:((List aSpan))) e E' O'=>e = .exit 4∧Mat B E' O' ([(4,(pt 1004)),(6,(.sref 3006 6 0 p119.length)),(13,(.sref 3013 2 0 p239.length))]:EL) ([(1004,some (.box 57 (.st [.nils,.nils]))),(3006,some (we_aRange_92_6 p119)),(3013,some (we_aSpan_101_2 p239))]:OL)) hx271 (Mat.trans (Mat.beginP (n:=3013) (e:=101) (sz:=2) (Ts:=[(13,(.sref 3013 2 0 0))]) (Bs:=[]) hB (by decide) (by rfl) (by decide) (TwT.cons (x:=.nils) (by rfl) (Tw.leaf ⟨rfl,rfl⟩) TwT.nil) TwB.nil) (mp [] _ _ hB)) (fun s176 y h => ?_) (fun e E' O' hR => ?_)
    ·unfold xref21_Intersect_L2 at h
     apply sr (c (lss (L rfl) (q 77) (q 76)) rfl cn)
     apply AWp.seq
     apply AWp.cond rfl<;>intro hg240
     ·have h:=ite_t hg240 h
      apply AWp.skip
      apply seqQ_n
      apply AWp.seq
      apply AWp.block
      obtain⟨x241,hx241,h⟩:=bindS h
      apply sr (c (indexD underlying55 tyS101 (idx_some hx241).1 (get_map e_aSpan (idx_some hx241).2) (L rfl) (q 75) (q 77)) rfl (c (loadD tyS101 (by rfl) (by rfl) (L rfl) (q 79)) rfl (cg (alloc hB tyZ101 (nm:=1015) (by decide) (L rfl)) rfl (cg (sB tyS101 (q 15) (q 80)) rfl cn))))
      apply sr (c (fo 1003 1 [1] hN underlying57 1 tyS55 (q 3)) rfl (c (la hN 57 tyS55 (q 81)) rfl (c (OpJ.val (v':=(i6 (a1.fASNs.length:Int))) (by simp) (lenD underlying55 (L rfl) (q 82))) rfl (c (mv hN (ii 0)) rfl cn))))
      apply AWp.block
      obtain⟨p259,hx269,h⟩:=bindS h
      refine lg (xref21_Intersect_L3 a1 x241) (fun s242:Int×(List aSpan)=>([(3,(pt 1003)),(4,(pt 1004)),(6,(.sref 3006 6 0 p119.length)),(13,(.sref 3013 2 0 s242.2.length)),(15,(pt 1015)),(75,(qe_aSpan_2 a0.fASNs)),(76,(i6 (a0.fASNs.length:Int))),(77,(i6 s176.1)),(82,(qe_aSpan_2 a1.fASNs)),(83,(i6 (a1.fASNs.length:Int))),(84,(i6 s242.1))]:EL)) (fun s242:Int×(List aSpan)=>([(1003,bd 57 (e_aResources a1)),(1004,some (.box 57 (.st [.nils,.nils]))),(1015,bd 101 (e_aSpan x241)),(3006,some (we_aRange_92_6 p119)),(3013,some (we_aSpan_101_2 s242.2))]:OL)) (fun(p259:((List aSpan))) e E' O'=>e = .exit 6∧Mat B E' O' ([(3,(pt 1003)),(4,(pt 1004)),(6,(.sref 3006 6 0 p119.length)),(13,(.sref 3013 2 0 p259.length)),(75,(qe_aSpan_2 a0.fASNs)),(76,(i6 (a0.fASNs.length:Int))),(77,(i6 s176.1))]:EL) ([(1003,bd 57 (e_aResources a1)),(1004,some (.box 57 (.st [.nils,.nils]))),(3006,some (we_aRange_92_6 p119)),(3013,some (we_aSpan_101_2 p259))]:OL)) hx269 (mp [] _ _ hB) (fun s242 y h => ?_) (fun e E' O' hR => ?_)
      ·unfold xref21_Intersect_L3 at h
       apply sr (c (lss (L rfl) (q 84) (q 83)) rfl cn)
       apply AWp.seq
       apply AWp.cond rfl<;>intro hg260
       ·have h:=ite_t hg260 h
        apply AWp.skip
        apply seqQ_n
        apply AWp.seq
        apply AWp.block
        obtain⟨x261,hx261,h⟩:=bindS h
        apply sr (c (indexD underlying55 tyS101 (idx_some hx261).1 (get_map e_aSpan (idx_some hx261).2) (L rfl) (q 82) (q 84)) rfl (c (loadD tyS101 (by rfl) (by rfl) (L rfl) (q 86)) rfl (cg (alloc hB tyZ101 (nm:=1017) (by decide) (L rfl)) rfl (cg (sB tyS101 (q 17) (q 87)) rfl cn))))
        apply sd (c (fo 1015 0 [0] hN underlying101 0 tyS3 (q 15)) rfl (c (la hN 101 tyS3 (q 88)) rfl (c (fo 1017 0 [0] hN underlying101 0 tyS3 (q 17)) rfl (c (la hN 101 tyS3 (q 90)) rfl (c (OpJ.max (L rfl) (q 89) (q 91)) rfl (c (fo 1015 1 [1] hN underlying101 1 tyS3 (q 15)) rfl (c (la hN 101 tyS3 (q 93)) rfl (c (fo 1017 1 [1] hN underlying101 1 tyS3 (q 17)) rfl (c (la hN 101 tyS3 (q 95)) rfl (c (OpJ.min (L rfl) (q 94) (q 96)) rfl (c (assign (L rfl) (q 92)) rfl (c (assign (L rfl) (q 97)) rfl cn)))))))))))) (by kernel_rfl) (by kernel_rfl)
        apply sr (c (mv hN (q 18)) rfl (c (mv hN (q 19)) rfl (c (leq (L rfl) (q 98) (q 99)) rfl cn)))
        refine gh [(3,_),(4,_),(6,_),(13,_),(15,_),(18,_),(19,_),(75,_),(76,_),(77,_),(82,_),(83,_),(84,_),(100,_)] [(1003,some _),(1004,some _),(1015,some _),(3006,some _),(3013,some _)] hB rfl rfl (by rfl) ?_
        refine AWp.cut h (fun m264:(List aSpan)=>([(3,(pt 1003)),(4,(pt 1004)),(6,(.sref 3006 6 0 p119.length)),(13,(.sref 3013 2 0 m264.length)),(15,(pt 1015)),(75,(qe_aSpan_2 a0.fASNs)),(76,(i6 (a0.fASNs.length:Int))),(77,(i6 s176.1)),(82,(qe_aSpan_2 a1.fASNs)),(83,(i6 (a1.fASNs.length:Int))),(84,(i6 s242.1))]:EL)) (fun m264:(List aSpan)=>([(1003,bd 57 (e_aResources a1)),(1004,some (.box 57 (.st [.nils,.nils]))),(1015,bd 101 (e_aSpan x241)),(3006,some (we_aRange_92_6 p119)),(3013,some (we_aSpan_101_2 m264))]:OL)) (fun m264 h E' O' hmat => ?_) (fun j265 hjj265 h => ?_)
        ·apply blkQ_n
         apply seqQ_n
         refine AWp.ghost hmat ?_
         apply rg (c (add6 (L rfl) (q 84) (ii 1)) rfl (c (mv hN (q 107)) rfl cn))
         obtain rfl:=oi h
         exact⟨rfl,(mp [] _ _ hB)⟩
        ·apply AWp.cond rfl<;>intro hg266
         ·have h:=ite_t hg266 h
          obtain⟨hc267,h⟩:=chk_some h
          apply rg (c (mv hN (q 13)) rfl (c (mv hN (q 18)) rfl (c (mv hN (q 19)) rfl (c (OpJ.coe (v:=(.st [(i6 (maxI x241.fFrom x261.fFrom)),(i6 (minI x241.fTo x261.fTo))])) (y:=(.st [(.int .i64 (maxI x241.fFrom x261.fFrom)),(.int .i64 (minI x241.fTo x261.fTo))])) (Co.st (CoL.cons (Co.d _) (CoL.cons (Co.d _) CoL.nil))) rfl (OpJ.build (places:=[(0,1),(1,1)]) ⟨underlying101,fun w=>by kernel_rfl⟩ tyZS101 (Opds.cons (q 102) (Opds.cons (q 103) Opds.nil)) (by kernel_rfl) (r:=(.st [(i6 (maxI x241.fFrom x261.fFrom)),(i6 (minI x241.fTo x261.fTo))])) (by rfl) (L rfl))) rfl (c (buildSlice underlying55 tyS101 tyZD101 (by rfl) (by decide) (by decide) (Opds.cons (q 104) Opds.nil) (by kernel_rfl) (es:=([(.st [(.int .i64 (maxI x241.fFrom x261.fFrom)),(.int .i64 (minI x241.fTo x261.fTo))])]:List D)) (by rfl) (by rfl) (by kernel_rfl) (by simp) (L rfl)) rfl (cg (apd hB underlying55 tyE101 1106 e_aSpan s242.2 [(aSpan.mk (maxI x241.fFrom x261.fFrom) (minI x241.fTo x261.fTo))] hc267 (L rfl) (q 101) (q 105)) rfl (c (assign (L rfl) (q 106)) rfl cn)))))))
          exact hjj265 _ h _ _ (mp [(3013,1106)] _ _ hB)
         ·have h:=ite_f hg266 h
          apply AWp.skip
          exact hjj265 _ h _ _ (mp [] _ _ hB)
       ·have h:=ite_f hg260 h
        apply AWp.exit
        apply seqQ_e
        obtain rfl:=oi h
        exact⟨(fun hc=>by cases hc),rfl,(mp [] _ _ hB)⟩
      ·obtain⟨rfl,hmat⟩:=hR
       apply blkQ_hit
       apply blkQ_n
       apply seqQ_n
       refine AWp.ghost hmat ?_
       apply rg (c (add6 (L rfl) (q 77) (ii 1)) rfl (c (mv hN (q 108)) rfl cn))
       obtain rfl:=oi h
       exact⟨rfl,(mp [] _ _ hB)⟩
     ·have h:=ite_f hg240 h
      apply AWp.exit
      apply seqQ_e
      obtain rfl:=oi h
      exact⟨(fun hc=>by cases hc),rfl,(mp [] _ _ hB)⟩
    ·obtain⟨rfl,hmat⟩:=hR
     apply blkQ_hit
     apply seqQ_n
     refine AWp.ghost hmat ?_
     apply AWp.seq
     refine AWp.ghost (Mat.freezeP (n:=3006) (e:=92) (sz:=6) (es:=p119.map e_aRange) (Ts:=[(6,(qe_aRange_6 p119))]) (Bs:=[]) (by rfl) (TwT.cons (x:=(.sref 3006 6 0 p119.length)) (by rfl) (FrzL.all (by first | rfl | (simp;done) | (simp;omega) | omega)) TwT.nil) TwB.nil) ?_
     refine AWp.ghost (Mat.freezeP (n:=3013) (e:=101) (sz:=2) (es:=p239.map e_aSpan) (Ts:=[(13,(qe_aSpan_2 p239))]) (Bs:=[]) (by rfl) (TwT.cons (x:=(.sref 3013 2 0 p239.length)) (by rfl) (FrzL.all (by first | rfl | (simp;done) | (simp;omega) | omega)) TwT.nil) TwB.nil) ?_
     obtain⟨r273,hr273,h⟩:=bindS h
     obtain⟨r274,hr274,h⟩:=bindS h
     obtain⟨r275,hr275,h⟩:=bindS h
     apply rg (c (mv hN (q 6)) rfl (cg (cf hB fnOk55 (xref21_ranges_ac p119 r273 hr273) (L rfl) (OpdL.cons (q 109) OpdL.nil)) rfl (c (mv hN (q 13)) rfl (cg (cf hB fnOk56 (xref21_spans_ac p239 r274 hr274) (L rfl) (OpdL.cons (q 111) OpdL.nil)) rfl (cg (cf hB fnOk54 (xref21_limited_ac r273 r274 r275 hr275) (L rfl) (OpdL.cons (q 110) (OpdL.cons (q 112) OpdL.nil))) rfl (c (extract (by rfl) rfl (L rfl) (q 113)) rfl (c (extract (by rfl) rfl (L rfl) (q 113)) rfl (cg (sB tyS57 (q 4) (q 114)) rfl (c (assign (L rfl) (q 115)) rfl cn)))))))))
     apply seqQ_n
     apply AWp.ret
     obtain rfl:=oi h
     exact rt (kp [(4,_),(5,_)] [(1004,some _)] hB rfl rfl (by rfl)) [(.d (e_aResources r275.1)),(i6 r275.2)] (Res.cell (c:=(.d (e_aResources r275.1))) (by rfl) (by rfl) tyS57 (by rfl) (by rfl) (by rfl) (Res.tmp (by rfl) (by rfl) Res.nil)) rfl
 ·obtain⟨r276,hr276,h⟩:=bindS h
  rcases bft (!r276) with hg277 | hg277
  ·have h:=ite_t hg277 h
   apply rg (c (lb hN 57 _ _ tyS57 (At.here _) (q 2)) rfl (cg (cf hB fnOk39 (xref21_Valid_ac a0 r276 hr276) (L rfl) (OpdL.cons (q 20) OpdL.nil)) rfl (c (OpJ.not (L rfl) (q 21)) rfl (c (OpJ.val (v':=.d (.bool true)) (by rw [hg277]<;>rfl) (mv hN (q 22))) rfl (ks 23 (L rfl) (ks 23 (L rfl) (ks 23 (L rfl) (c (pickT (L rfl) (q 23) (Opd.bool true)) rfl cn))))))))
   exact hjj6 _ h _ _ (mp [] _ _ hB)
  ·have h:=ite_f hg277 h
   obtain⟨r278,hr278,h⟩:=bindS h
   apply rg (c (lb hN 57 _ _ tyS57 (At.here _) (q 2)) rfl (cg (cf hB fnOk39 (xref21_Valid_ac a0 r276 hr276) (L rfl) (OpdL.cons (q 20) OpdL.nil)) rfl (c (OpJ.not (L rfl) (q 21)) rfl (c (OpJ.val (v':=.d (.bool false)) (by rw [hg277]<;>rfl) (mv hN (q 22))) rfl (c (gd 23 (lb hN 57 _ _ tyS57 (At.here _) (q 3))) rfl (cg (gd 23 (cf hB fnOk39 (xref21_Valid_ac a1 r278 hr278) (L rfl) (OpdL.cons (q 24) OpdL.nil))) rfl (c (gd 23 (OpJ.not (L rfl) (q 25))) rfl (c (pickF (L rfl) (q 23) (q 26)) rfl cn))))))))
   exact hjj6 _ h _ _ (mp [] _ _ hB)
def xmake_Deck_Certs_L0 (s2:Int×(List aCert)×xmake_Deck):Option (((xmake_Deck×(List aCert)))⊕(Int×(List aCert)×xmake_Deck)) :=
 (if (decide (0<s2.1))=true then
 (xmake_Deck_Next s2.2.2 7).bind fun r69 =>
 (xmake_Deck_Next r69.2 7).bind fun r70 =>
 (xmake_Deck_Next r70.2 4).bind fun r71 =>
 (xmake_Deck_Next r71.2 9).bind fun r72 =>
 (xmake_Deck_Resources r72.2).bind fun r73 =>
 (xmake_Deck_Next r73.2 4).bind fun r74 =>
 jn (fun m87:Int×aResources×xmake_Deck =>
 chk (decide ((s2.2.1++[(aCert.mk (w64 (1+r69.1)) m87.1 r71.1 (w64 (10+r72.1)) m87.2.1)]).length≤LIM)) <|
 some (.inr ((w64 (s2.1-1)),(s2.2.1++[(aCert.mk (w64 (1+r69.1)) m87.1 r71.1 (w64 (10+r72.1)) m87.2.1)]),m87.2.2))) (fun j88 =>
 (if (r74.1==0)=true then
 j88 ((w64 (1+r69.1)),r73.1,r74.2)
 else
 (if (r74.1==1)=true then
 (if (decide (0<(s2.2.1.length:Int)))=true then
 (xmake_Deck_Next r74.2 (s2.2.1.length:Int)).bind fun r93 =>
 (idx s2.2.1 r93.1).bind fun x94 =>
 (idx s2.2.1 r93.1).bind fun x95 =>
 (xref21_Intersect x95.fResources r73.1).bind fun r96 =>
 j88 (x95.fKey,r96.1,r93.2)
 else
 j88 ((w64 (1+r70.1)),r73.1,r74.2))
 else
 (if (r74.1==2)=true then
 (if (decide (0<(s2.2.1.length:Int)))=true then
 (xmake_Deck_Next r74.2 (s2.2.1.length:Int)).bind fun r99 =>
 (idx s2.2.1 r99.1).bind fun x100 =>
 (idx s2.2.1 r99.1).bind fun x101 =>
 j88 (x101.fKey,x101.fResources,r99.2)
 else
 j88 ((w64 (1+r70.1)),r73.1,r74.2))
 else
 j88 ((w64 (1+r70.1)),r73.1,r74.2)))))
 else
 some (.inl (s2.2.2,s2.2.1)))
def xmake_Deck_Certs (a0:xmake_Deck):Option ((List aCert)×xmake_Deck) :=
 (xmake_Deck_Next a0 9).bind fun r1 =>
 (loop (xmake_Deck_Certs_L0) ((w64 (1+r1.1)),([]:List aCert),r1.2)).bind fun p67 =>
 some (p67.2,p67.1)
theorem xmake_Deck_Certs_ac (a0:xmake_Deck) (r:(List aCert)×xmake_Deck) (h:xmake_Deck_Certs a0=some r):AC Tryz.prog 22 [(pt 0)] [(0,(.box 80 (.d (e_xmake_Deck a0))))] (.d (.list 6 (r.1.map e_aCert))) [(0,bd 80 (e_xmake_Deck r.2))]:=by
 refine ac2 Tryz.func22 rfl rfl fun B hB hN L => ?_
 delta xmake_Deck_Certs at h
 apply sr (c (assign (L rfl) Opd.nils) rfl cn)
 apply sr (c (assign (L rfl) Opd.nils) rfl cn)
 apply AWp.seq
 apply AWp.seq
 obtain⟨r1,hr1,h⟩:=bindS h
 refine AWp.region (oc (mv hN (ot 0 (pt 0)))
 (oc (OpJ.callFn hB fnOk30 (xmake_Deck_Next_ac a0 9 r1 hr1) [(0,0)] (by kernel_rfl) (L rfl) (by kernel_rfl) (OpdL.cons (ot 8 (pt 0)) (OpdL.cons (ii 9) OpdL.nil)))
 (oc (add6 (L rfl) (ii 1) (ot 9 (i6 r1.1)))
 (oc (assign (L rfl) (ot 10 (i6 (w64 (1+r1.1)))))
 (OpJs.nil))))) (by rfl) (by rfl) ?_
 apply seqQ_n
 refine AWp.ghost (mp [] [(0,(pt 0)),(3,.nils),(4,(i6 (w64 (1+r1.1))))] [(0,bd 80 (e_xmake_Deck r1.2))] hB) ?_
 apply AWp.block
 obtain⟨p67,hx103,h⟩:=bindS h
 refine lg (xmake_Deck_Certs_L0) (fun s2:Int×(List aCert)×xmake_Deck=>([(0,(pt 0)),(3,(.sref 3003 6 0 s2.2.1.length)),(4,(i6 s2.1))]:EL)) (fun s2:Int×(List aCert)×xmake_Deck=>([(0,bd 80 (e_xmake_Deck s2.2.2)),(3003,some (we_aCert_59_6 s2.2.1))]:OL)) (fun(p67:(xmake_Deck×(List aCert))) e E' O'=>e = .exit 0∧Mat B E' O' ([(3,(.sref 3003 6 0 p67.2.length))]:EL) ([(0,bd 80 (e_xmake_Deck p67.1)),(3003,some (we_aCert_59_6 p67.2))]:OL)) hx103 (Mat.trans (Mat.beginP (n:=3003) (e:=59) (sz:=6) (Ts:=[(3,(.sref 3003 6 0 0))]) (Bs:=[]) hB (by decide) (by rfl) (by decide) (TwT.cons (x:=.nils) (by rfl) (Tw.leaf ⟨rfl,rfl⟩) TwT.nil) TwB.nil) (mp [] _ _ hB)) (fun s2 y h => ?_) (fun e E' O' hR => ?_)
 ·unfold xmake_Deck_Certs_L0 at h
  apply AWp.seq
  apply sr (c (mv hN (q 4)) rfl (c (gtr (L rfl) (q 11) (ii 0)) rfl cn))
  apply AWp.cond rfl<;>intro hg68
  ·have h:=ite_t hg68 h
   apply AWp.skip
   apply seqQ_n
   apply AWp.seq
   apply AWp.block
   apply AWp.seq
   obtain⟨r69,hr69,h⟩:=bindS h
   obtain⟨r70,hr70,h⟩:=bindS h
   obtain⟨r71,hr71,h⟩:=bindS h
   obtain⟨r72,hr72,h⟩:=bindS h
   obtain⟨r73,hr73,h⟩:=bindS h
   refine AWp.region (oc (mv hN (ot 0 (pt 0)))
    (oc (OpJ.callFn hB fnOk30 (xmake_Deck_Next_ac s2.2.2 7 r69 hr69) [(0,0)] (by kernel_rfl) (L rfl) (by kernel_rfl) (OpdL.cons (ot 15 (pt 0)) (OpdL.cons (ii 7) OpdL.nil)))
    (oc (add6 (L rfl) (ii 1) (ot 16 (i6 r69.1)))
    (oc (mv hN (ot 0 (pt 0)))
    (oc (OpJ.callFn hB fnOk30 (xmake_Deck_Next_ac r69.2 7 r70 hr70) [(0,0)] (by kernel_rfl) (L rfl) (by kernel_rfl) (OpdL.cons (ot 18 (pt 0)) (OpdL.cons (ii 7) OpdL.nil)))
    (oc (add6 (L rfl) (ii 1) (ot 19 (i6 r70.1)))
    (oc (mv hN (ot 0 (pt 0)))
    (oc (OpJ.callFn hB fnOk30 (xmake_Deck_Next_ac r70.2 4 r71 hr71) [(0,0)] (by kernel_rfl) (L rfl) (by kernel_rfl) (OpdL.cons (ot 21 (pt 0)) (OpdL.cons (ii 4) OpdL.nil)))
    (oc (mv hN (ot 0 (pt 0)))
    (oc (OpJ.callFn hB fnOk30 (xmake_Deck_Next_ac r71.2 9 r72 hr72) [(0,0)] (by kernel_rfl) (L rfl) (by kernel_rfl) (OpdL.cons (ot 23 (pt 0)) (OpdL.cons (ii 9) OpdL.nil)))
    (oc (add6 (L rfl) (ii 10) (ot 24 (i6 r72.1)))
    (oc (mv hN (ot 0 (pt 0)))
    (oc (OpJ.callFn hB fnOk49 (xmake_Deck_Resources_ac r72.2 r73 hr73) [(0,0)] (by kernel_rfl) (L rfl) (by kernel_rfl) (OpdL.cons (ot 26 (pt 0)) OpdL.nil))
    (oc (OpJ.coe (v:=(.st [(i6 (w64 (1+r69.1))),(i6 (w64 (1+r70.1))),(i6 r71.1),(i6 (w64 (10+r72.1))),(.d (e_aResources r73.1))])) (y:=(.st [(.int .i64 (w64 (1+r69.1))),(.int .i64 (w64 (1+r70.1))),(.int .i64 r71.1),(.int .i64 (w64 (10+r72.1))),(e_aResources r73.1)])) (Co.st (CoL.cons (Co.d _) (CoL.cons (Co.d _) (CoL.cons (Co.d _) (CoL.cons (Co.d _) (CoL.cons (Co.d _) CoL.nil)))))) rfl (OpJ.build (places:=[(0,1),(1,1),(2,1),(3,1),(4,2)]) ⟨underlying59,fun w=>by kernel_rfl⟩ tyZS59 (Opds.cons (ot 17 (i6 (w64 (1+r69.1)))) (Opds.cons (ot 20 (i6 (w64 (1+r70.1)))) (Opds.cons (ot 22 (i6 r71.1)) (Opds.cons (ot 25 (i6 (w64 (10+r72.1)))) (Opds.cons (ot 27 (.d (e_aResources r73.1))) Opds.nil))))) (by kernel_rfl) (r:=(.st [(i6 (w64 (1+r69.1))),(i6 (w64 (1+r70.1))),(i6 r71.1),(i6 (w64 (10+r72.1))),(.d (e_aResources r73.1))])) (by rfl) (L rfl)))
    (oc (alloc hB tyZ59 (nm:=1005) (by decide) (L rfl))
    (oc (OpJ.storeB (bt:=59) (c:=(.st [(i6 0),(i6 0),(i6 0),(i6 0),(.st [.nils,.nils])])) (v:=(.d (.st [(.int .i64 (w64 (1+r69.1))),(.int .i64 (w64 (1+r70.1))),(.int .i64 r71.1),(.int .i64 (w64 (10+r72.1))),(e_aResources r73.1)]))) (c':=(.d (.st [(.int .i64 (w64 (1+r69.1))),(.int .i64 (w64 (1+r70.1))),(.int .i64 r71.1),(.int .i64 (w64 (10+r72.1))),(e_aResources r73.1)]))) tyS59 (SetAt.here _ _) (by rfl) (by rfl) (by simp) rfl (ot 5 (pt 1005)) (ot 28 (.d (.st [(.int .i64 (w64 (1+r69.1))),(.int .i64 (w64 (1+r70.1))),(.int .i64 r71.1),(.int .i64 (w64 (10+r72.1))),(e_aResources r73.1)]))))
    (OpJs.nil))))))))))))))))) (by rfl) (by rfl) ?_
   apply seqQ_n
   refine AWp.ghost (mp [] [(0,(pt 0)),(3,(.sref 3003 6 0 s2.2.1.length)),(4,(i6 s2.1)),(5,(pt 1005))] [(0,bd 80 (e_xmake_Deck r73.2)),(1005,some (.box 59 (.d (.st [(.int .i64 (w64 (1+r69.1))),(.int .i64 (w64 (1+r70.1))),(.int .i64 r71.1),(.int .i64 (w64 (10+r72.1))),(e_aResources r73.1)])))),(3003,some (we_aCert_59_6 s2.2.1))] hB) ?_
   apply AWp.seq
   apply AWp.seq
   obtain⟨r74,hr74,h⟩:=bindS h
   refine AWp.region (oc (mv hN (ot 0 (pt 0)))
    (oc (OpJ.callFn hB fnOk30 (xmake_Deck_Next_ac r73.2 4 r74 hr74) [(0,0)] (by kernel_rfl) (L rfl) (by kernel_rfl) (OpdL.cons (ot 29 (pt 0)) (OpdL.cons (ii 4) OpdL.nil)))
    (OpJs.nil))) (by rfl) (by rfl) ?_
   apply seqQ_n
   refine AWp.ghost (mp [] [(0,(pt 0)),(3,(.sref 3003 6 0 s2.2.1.length)),(4,(i6 s2.1)),(5,(pt 1005)),(30,(i6 r74.1))] [(0,bd 80 (e_xmake_Deck r74.2)),(1005,some (.box 59 (.d (.st [(.int .i64 (w64 (1+r69.1))),(.int .i64 (w64 (1+r70.1))),(.int .i64 r71.1),(.int .i64 (w64 (10+r72.1))),(e_aResources r73.1)])))),(3003,some (we_aCert_59_6 s2.2.1))] hB) ?_
   apply AWp.block
   apply sr (c (eqlI (L rfl) (q 30) (ii 0)) rfl (c (assign (L rfl) (q 32)) rfl cn))
   refine gh [(0,_),(3,_),(4,_),(5,_),(30,_),(31,_)] [(0,some _),(1005,some _),(3003,some _)] hB rfl rfl (by rfl) ?_
   refine AWp.cut h (fun m87:Int×aResources×xmake_Deck=>([(0,(pt 0)),(3,(.sref 3003 6 0 s2.2.1.length)),(4,(i6 s2.1)),(5,(pt 1005))]:EL)) (fun m87:Int×aResources×xmake_Deck=>([(0,bd 80 (e_xmake_Deck m87.2.2)),(1005,some (.box 59 (.d (.st [(.int .i64 (w64 (1+r69.1))),(.int .i64 m87.1),(.int .i64 r71.1),(.int .i64 (w64 (10+r72.1))),(e_aResources m87.2.1)])))),(3003,some (we_aCert_59_6 s2.2.1))]:OL)) (fun m87 h E' O' hmat => ?_) (fun j88 hjj88 h => ?_)
   ·apply blkQ_n
    apply seqQ_n
    refine AWp.ghost hmat ?_
    obtain⟨hc89,h⟩:=chk_some h
    apply rg (c (mv hN (q 3)) rfl (c (lb hN 59 _ _ tyS59 (At.here _) (q 5)) rfl (c (buildSlice underlying22 tyS59 tyZD59 (by rfl) (by decide) (by decide) (Opds.cons (q 79) Opds.nil) (by kernel_rfl) (es:=([(.st [(.int .i64 (w64 (1+r69.1))),(.int .i64 m87.1),(.int .i64 r71.1),(.int .i64 (w64 (10+r72.1))),(e_aResources m87.2.1)])]:List D)) (by rfl) (by rfl) (by kernel_rfl) (by simp) (L rfl)) rfl (cg (apd hB underlying22 tyE59 1081 e_aCert s2.2.1 [(aCert.mk (w64 (1+r69.1)) m87.1 r71.1 (w64 (10+r72.1)) m87.2.1)] hc89 (L rfl) (q 78) (q 80)) rfl (c (assign (L rfl) (q 81)) rfl cn)))))
    apply blkQ_n
    apply seqQ_n
    apply rg (c (mv hN (q 4)) rfl (c (sub6 (L rfl) (q 13) (ii 1)) rfl (c (assign (L rfl) (q 14)) rfl cn)))
    obtain rfl:=oi h
    exact⟨rfl,(mp [(3003,1081)] _ _ hB)⟩
   ·apply AWp.cond rfl<;>intro hg90
    ·have h:=ite_t hg90 h
     apply rg (c (fo 1005 0 [0] hN underlying59 0 tyS3 (q 5)) rfl (c (la hN 59 tyS3 (q 33)) rfl (c (fo 1005 1 [1] hN underlying59 1 tyS3 (q 5)) rfl (cg (OpJ.storeB tyS3 (SetAt.dst1 (by rfl) (by rfl) (SetAt.here _ _) (by rfl) (by rfl) (by first | rfl | omega)) (by rfl) (by rfl) (by simp) rfl (q 35) (q 34)) rfl cn))))
     exact hjj88 _ h _ _ (mp [] _ _ hB)
    ·have h:=ite_f hg90 h
     apply sr (c (eqlI (L rfl) (q 30) (ii 1)) rfl (c (assign (L rfl) (q 37)) rfl cn))
     apply AWp.cond rfl<;>intro hg91
     ·have h:=ite_t hg91 h
      apply sr (c (mv hN (q 3)) rfl (c (lenS underlying22 (L rfl) (q 38)) rfl (c (gtr (L rfl) (q 39) (ii 0)) rfl cn)))
      apply AWp.cond rfl<;>intro hg92
      ·have h:=ite_t hg92 h
       apply AWp.seq
       obtain⟨r93,hr93,h⟩:=bindS h
       obtain⟨x94,hx94,h⟩:=bindS h
       obtain⟨x95,hx95,h⟩:=bindS h
       refine AWp.region (oc (mv hN (ot 3 (.sref 3003 6 0 s2.2.1.length)))
        (oc (mv hN (ot 0 (pt 0)))
        (oc (mv hN (ot 3 (.sref 3003 6 0 s2.2.1.length)))
        (oc (lenS (obj:=(we_aCert_59_6 s2.2.1)) underlying22 (L rfl) (ot 43 (.sref 3003 6 0 s2.2.1.length)))
        (oc (OpJ.callFn hB fnOk30 (xmake_Deck_Next_ac r74.2 (s2.2.1.length:Int) r93 hr93) [(0,0)] (by kernel_rfl) (L rfl) (by kernel_rfl) (OpdL.cons (ot 42 (pt 0)) (OpdL.cons (ot 44 (i6 (s2.2.1.length:Int))) OpdL.nil)))
        (oc (OpJ.val (v':=(.ptr 3003 (r93.1.toNat*6) [r93.1.toNat])) (by simp) (indexS underlying22 tyS59 (obj:=(we_aCert_59_6 s2.2.1)) (idx_some hx94).1 (by have:=idx_lt hx94;first | (simpa using this) | ((try simp only [List.length_map] at this);(try simp only [List.length_map]);omega)) (L rfl) (ot 41 (.sref 3003 6 0 s2.2.1.length)) (ot 45 (i6 r93.1))))
        (oc (loadR (e:=59) (sz:=6) (es:=s2.2.1.map e_aCert) tyS59 (get_map e_aCert (idx_some hx95).2) (o:=0) (v:=(e_aCert x95)) (At.here _) (by rfl) (by rfl) (by rfl) (L rfl) (ot 46 (.ptr 3003 (r93.1.toNat*6) [r93.1.toNat])))
        (oc (alloc hB tyZ59 (nm:=1006) (by decide) (L rfl))
        (oc (OpJ.storeB (bt:=59) (c:=(.st [(i6 0),(i6 0),(i6 0),(i6 0),(.st [.nils,.nils])])) (v:=(.d (e_aCert x95))) (c':=(.d (e_aCert x95))) tyS59 (SetAt.here _ _) (by rfl) (by rfl) (by simp) rfl (ot 6 (pt 1006)) (ot 47 (.d (e_aCert x95))))
        (OpJs.nil)))))))))) (by rfl) (by rfl) ?_
       apply seqQ_n
       refine AWp.ghost (mp [] [(0,(pt 0)),(3,(.sref 3003 6 0 s2.2.1.length)),(4,(i6 s2.1)),(5,(pt 1005)),(6,(pt 1006))] [(0,bd 80 (e_xmake_Deck r93.2)),(1005,some (.box 59 (.d (.st [(.int .i64 (w64 (1+r69.1))),(.int .i64 (w64 (1+r70.1))),(.int .i64 r71.1),(.int .i64 (w64 (10+r72.1))),(e_aResources r73.1)])))),(1006,bd 59 (e_aCert x95)),(3003,some (we_aCert_59_6 s2.2.1))] hB) ?_
       apply sr (c (fo 1006 0 [0] hN underlying59 0 tyS3 (q 6)) rfl (c (la hN 59 tyS3 (q 48)) rfl (c (fo 1005 1 [1] hN underlying59 1 tyS3 (q 5)) rfl (cg (OpJ.storeB tyS3 (SetAt.dst1 (by rfl) (by rfl) (SetAt.here _ _) (by rfl) (by rfl) (by first | rfl | omega)) (by rfl) (by rfl) (by simp) rfl (q 50) (q 49)) rfl cn))))
       obtain⟨r96,hr96,h⟩:=bindS h
       apply rg (c (fo 1006 4 [4] hN underlying59 4 tyS57 (q 6)) rfl (c (la hN 59 tyS57 (q 52)) rfl (c (fo 1005 4 [4] hN underlying59 4 tyS57 (q 5)) rfl (c (la hN 59 tyS57 (q 54)) rfl (cg (cf hB fnOk50 (xref21_Intersect_ac x95.fResources r73.1 r96 hr96) (L rfl) (OpdL.cons (q 53) (OpdL.cons (q 55) OpdL.nil))) rfl (c (mv hN (q 56)) rfl (c (extract (by rfl) rfl (L rfl) (q 51)) rfl (c (extract (by rfl) rfl (L rfl) (q 51)) rfl (c (fo 1005 4 [4] hN underlying59 4 tyS57 (q 5)) rfl (cg (OpJ.storeB tyS57 (SetAt.dst1 (by rfl) (by rfl) (SetAt.here _ _) (by rfl) (by rfl) (by first | rfl | omega)) (by rfl) (by rfl) (by simp) rfl (q 59) (q 57)) rfl cn))))))))))
       exact hjj88 _ h _ _ (mp [] _ _ hB)
      ·have h:=ite_f hg92 h
       apply AWp.skip
       exact hjj88 _ h _ _ (mp [] _ _ hB)
     ·have h:=ite_f hg91 h
      apply sr (c (eqlI (L rfl) (q 30) (ii 2)) rfl (c (assign (L rfl) (q 61)) rfl cn))
      apply AWp.cond rfl<;>intro hg97
      ·have h:=ite_t hg97 h
       apply sr (c (mv hN (q 3)) rfl (c (lenS underlying22 (L rfl) (q 62)) rfl (c (gtr (L rfl) (q 63) (ii 0)) rfl cn)))
       apply AWp.cond rfl<;>intro hg98
       ·have h:=ite_t hg98 h
        apply AWp.seq
        obtain⟨r99,hr99,h⟩:=bindS h
        obtain⟨x100,hx100,h⟩:=bindS h
        obtain⟨x101,hx101,h⟩:=bindS h
        refine AWp.region (oc (mv hN (ot 3 (.sref 3003 6 0 s2.2.1.length)))
         (oc (mv hN (ot 0 (pt 0)))
         (oc (mv hN (ot 3 (.sref 3003 6 0 s2.2.1.length)))
         (oc (lenS (obj:=(we_aCert_59_6 s2.2.1)) underlying22 (L rfl) (ot 67 (.sref 3003 6 0 s2.2.1.length)))
         (oc (OpJ.callFn hB fnOk30 (xmake_Deck_Next_ac r74.2 (s2.2.1.length:Int) r99 hr99) [(0,0)] (by kernel_rfl) (L rfl) (by kernel_rfl) (OpdL.cons (ot 66 (pt 0)) (OpdL.cons (ot 68 (i6 (s2.2.1.length:Int))) OpdL.nil)))
         (oc (OpJ.val (v':=(.ptr 3003 (r99.1.toNat*6) [r99.1.toNat])) (by simp) (indexS underlying22 tyS59 (obj:=(we_aCert_59_6 s2.2.1)) (idx_some hx100).1 (by have:=idx_lt hx100;first | (simpa using this) | ((try simp only [List.length_map] at this);(try simp only [List.length_map]);omega)) (L rfl) (ot 65 (.sref 3003 6 0 s2.2.1.length)) (ot 69 (i6 r99.1))))
         (oc (loadR (e:=59) (sz:=6) (es:=s2.2.1.map e_aCert) tyS59 (get_map e_aCert (idx_some hx101).2) (o:=0) (v:=(e_aCert x101)) (At.here _) (by rfl) (by rfl) (by rfl) (L rfl) (ot 70 (.ptr 3003 (r99.1.toNat*6) [r99.1.toNat])))
         (oc (alloc hB tyZ59 (nm:=1007) (by decide) (L rfl))
         (oc (OpJ.storeB (bt:=59) (c:=(.st [(i6 0),(i6 0),(i6 0),(i6 0),(.st [.nils,.nils])])) (v:=(.d (e_aCert x101))) (c':=(.d (e_aCert x101))) tyS59 (SetAt.here _ _) (by rfl) (by rfl) (by simp) rfl (ot 7 (pt 1007)) (ot 71 (.d (e_aCert x101))))
         (OpJs.nil)))))))))) (by rfl) (by rfl) ?_
        apply seqQ_n
        refine AWp.ghost (mp [] [(0,(pt 0)),(3,(.sref 3003 6 0 s2.2.1.length)),(4,(i6 s2.1)),(5,(pt 1005)),(7,(pt 1007))] [(0,bd 80 (e_xmake_Deck r99.2)),(1005,some (.box 59 (.d (.st [(.int .i64 (w64 (1+r69.1))),(.int .i64 (w64 (1+r70.1))),(.int .i64 r71.1),(.int .i64 (w64 (10+r72.1))),(e_aResources r73.1)])))),(1007,bd 59 (e_aCert x101)),(3003,some (we_aCert_59_6 s2.2.1))] hB) ?_
        apply dr (c (fo 1007 0 [0] hN underlying59 0 tyS3 (q 7)) rfl (c (la hN 59 tyS3 (q 72)) rfl (c (fo 1007 4 [4] hN underlying59 4 tyS57 (q 7)) rfl (c (la hN 59 tyS57 (q 74)) rfl (c (fo 1005 1 [1] hN underlying59 1 tyS3 (q 5)) rfl (cg (OpJ.storeB tyS3 (SetAt.dst1 (by rfl) (by rfl) (SetAt.here _ _) (by rfl) (by rfl) (by first | rfl | omega)) (by rfl) (by rfl) (by simp) rfl (q 76) (q 73)) rfl (c (fo 1005 4 [4] hN underlying59 4 tyS57 (q 5)) rfl (cg (OpJ.storeB tyS57 (SetAt.dst1 (by rfl) (by rfl) (SetAt.here _ _) (by rfl) (by rfl) (by first | rfl | omega)) (by rfl) (by rfl) (by simp) rfl (q 77) (q 75)) rfl cn)))))))) (by kernel_rfl) (by kernel_rfl)
        exact hjj88 _ h _ _ (mp [] _ _ hB)
       ·have h:=ite_f hg98 h
        apply AWp.skip
        exact hjj88 _ h _ _ (mp [] _ _ hB)
      ·have h:=ite_f hg97 h
       apply AWp.skip
       exact hjj88 _ h _ _ (mp [] _ _ hB)
  ·have h:=ite_f hg68 h
   apply AWp.exit
   apply seqQ_e
   obtain rfl:=oi h
   exact⟨(fun hc=>by cases hc),rfl,(mp [] _ _ hB)⟩
 ·obtain⟨rfl,hmat⟩:=hR
  apply blkQ_hit
  apply seqQ_n
  refine AWp.ghost hmat ?_
  apply sr (c (mv hN (q 3)) rfl (c (assign (L rfl) (q 82)) rfl cn))
  apply AWp.ret
  obtain rfl:=oi h
  exact rt (Mat.trans (Mat.freezeP (n:=3003) (e:=59) (sz:=6) (es:=p67.2.map e_aCert) (Ts:=[(2,(qe_aCert_6 p67.2))]) (Bs:=[]) (by rfl) (TwT.cons (x:=(.sref 3003 6 0 p67.2.length)) (by rfl) (FrzL.all (by first | rfl | (simp;done) | (simp;omega) | omega)) TwT.nil) TwB.nil) (mp [] [(2,(qe_aCert_6 p67.2))] [(0,bd 80 (e_xmake_Deck p67.1))] hB)) [(qe_aCert_6 p67.2)] (Res.tmp (by rfl) (by rfl) Res.nil) rfl
def xmake_Deck_Object (a0:xmake_Deck):Option (aObject×xmake_Deck) :=
 (xmake_Deck_Prefix a0).bind fun r1 =>
 jn (fun m3:Int =>
 (xmake_Deck_Next r1.2 4).bind fun r5 =>
 (xmake_Deck_Next r5.2 4).bind fun r6 =>
 (xmake_Deck_Next r6.2 5).bind fun r7 =>
 some ((aObject.mk r1.1 (minI m3 (w64 (r1.1.fLen+(w64 (r5.1*r6.1))))) (w64 (1+r7.1))),r7.2)) (fun j4 =>
 (if r1.1.fAddr.fV6=true then
 j4 128
 else
 j4 32))
theorem xmake_Deck_Object_ac (a0:xmake_Deck) (r:aObject×xmake_Deck) (h:xmake_Deck_Object a0=some r):AC Tryz.prog 57 [(pt 0)] [(0,(.box 80 (.d (e_xmake_Deck a0))))] (.d (e_aObject r.1)) [(0,bd 80 (e_xmake_Deck r.2))]:=by
 refine ac2 Tryz.func57 rfl rfl fun B hB hN L => ?_
 delta xmake_Deck_Object at h
 apply sr (cg (alloc hB tyZ48 (nm:=1002) (by decide) (L rfl)) rfl cn)
 apply AWp.seq
 obtain⟨r1,hr1,h⟩:=bindS h
 refine AWp.region (oc (mv hN (ot 0 (pt 0)))
 (oc (OpJ.callFn hB fnOk17 (xmake_Deck_Prefix_ac a0 r1 hr1) [(0,0)] (by kernel_rfl) (L rfl) (by kernel_rfl) (OpdL.cons (ot 5 (pt 0)) OpdL.nil))
 (oc (alloc hB tyZ46 (nm:=1003) (by decide) (L rfl))
 (oc (OpJ.storeB (bt:=46) (c:=(.d (.st [(.st [(.bool false),(.int .u64 0),(.int .u64 0)]),(.int .i64 0)]))) (v:=(.d (e_aPrefix r1.1))) (c':=(.d (e_aPrefix r1.1))) tyS46 (SetAt.here _ _) (by rfl) (by rfl) (by simp) rfl (ot 3 (pt 1003)) (ot 6 (.d (e_aPrefix r1.1))))
 (OpJs.nil))))) (by rfl) (by rfl) ?_
 apply seqQ_n
 refine AWp.ghost (mp [] [(0,(pt 0)),(2,(pt 1002)),(3,(pt 1003))] [(0,bd 80 (e_xmake_Deck r1.2)),(1002,bd 48 (.st [(.st [(.st [(.bool false),(.int .u64 0),(.int .u64 0)]),(.int .i64 0)]),(.int .i64 0),(.int .i64 0)])),(1003,bd 46 (e_aPrefix r1.1))] hB) ?_
 apply sr (c (assign (L rfl) (ii 32)) rfl cn)
 apply AWp.seq
 apply sr (c (fo 1003 0 [0] hN underlying46 0 tyS44 (q 3)) rfl (c (fo 1003 0 [0,0] hN underlying44 0 tyS4 (q 7)) rfl (c (lb hN 46 _ _ tyS4 (At.dst1 (by rfl) (by rfl) (ad _) (by first | rfl | omega)) (q 8)) rfl cn)))
 refine gh [(0,_),(2,_),(3,_),(4,_),(9,_)] [(0,some _),(1002,some _),(1003,some _)] hB rfl rfl (by rfl) ?_
 refine AWp.cut h (fun m3:Int=>([(0,(pt 0)),(2,(pt 1002)),(3,(pt 1003)),(4,(i6 m3))]:EL)) (fun m3:Int=>([(0,bd 80 (e_xmake_Deck r1.2)),(1002,bd 48 (.st [(.st [(.st [(.bool false),(.int .u64 0),(.int .u64 0)]),(.int .i64 0)]),(.int .i64 0),(.int .i64 0)])),(1003,bd 46 (e_aPrefix r1.1))]:OL)) (fun m3 h E' O' hmat => ?_) (fun j4 hjj4 h => ?_)
 ·apply seqQ_n
  refine AWp.ghost hmat ?_
  apply AWp.seq
  obtain⟨r5,hr5,h⟩:=bindS h
  obtain⟨r6,hr6,h⟩:=bindS h
  obtain⟨r7,hr7,h⟩:=bindS h
  refine AWp.draws (by kernel_rfl) (oc (lb hN 46 (.d (e_aPrefix r1.1)) (.d (e_aPrefix r1.1)) tyS46 (At.here _) (ot 3 (pt 1003)))
   (oc (mv hN (ot 4 (i6 m3)))
   (oc (ov (.ptr 1003 3 [1]) (fp hN underlying46 3 tyS3 (.box 46 (.d (e_aPrefix r1.1))) (ot 3 (pt 1003))))
   (oc (lb hN 46 (.d (e_aPrefix r1.1)) (i6 r1.1.fLen) tyS3 (ad (.int .i64 r1.1.fLen)) (ot 12 (.ptr 1003 3 [1])))
   (oc (mv hN (ot 0 (pt 0)))
   (oc (OpJ.callFn hB fnOk30 (xmake_Deck_Next_ac r1.2 4 r5 hr5) [(0,0)] (by kernel_rfl) (L rfl) (by kernel_rfl) (OpdL.cons (ot 14 (pt 0)) (OpdL.cons (ii 4) OpdL.nil)))
   (oc (mv hN (ot 0 (pt 0)))
   (oc (OpJ.callFn hB fnOk30 (xmake_Deck_Next_ac r5.2 4 r6 hr6) [(0,0)] (by kernel_rfl) (L rfl) (by kernel_rfl) (OpdL.cons (ot 16 (pt 0)) (OpdL.cons (ii 4) OpdL.nil)))
   (oc (mul6 (L rfl) (ot 15 (i6 r5.1)) (ot 17 (i6 r6.1)))
   (oc (add6 (L rfl) (ot 13 (i6 r1.1.fLen)) (ot 18 (i6 (w64 (r5.1*r6.1)))))
   (oc (OpJ.min (L rfl) (ot 11 (i6 m3)) (ot 19 (i6 (w64 (r1.1.fLen+(w64 (r5.1*r6.1)))))))
   (oc (mv hN (ot 0 (pt 0)))
   (oc (OpJ.callFn hB fnOk30 (xmake_Deck_Next_ac r6.2 5 r7 hr7) [(0,0)] (by kernel_rfl) (L rfl) (by kernel_rfl) (OpdL.cons (ot 21 (pt 0)) (OpdL.cons (ii 5) OpdL.nil)))
   (oc (add6 (L rfl) (ii 1) (ot 22 (i6 r7.1)))
   (oc (OpJ.coe (v:=(.st [(.d (e_aPrefix r1.1)),(i6 (minI m3 (w64 (r1.1.fLen+(w64 (r5.1*r6.1)))))),(i6 (w64 (1+r7.1)))])) (y:=(.st [(e_aPrefix r1.1),(.int .i64 (minI m3 (w64 (r1.1.fLen+(w64 (r5.1*r6.1)))))),(.int .i64 (w64 (1+r7.1)))])) (Co.st (CoL.cons (Co.d _) (CoL.cons (Co.d _) (CoL.cons (Co.d _) CoL.nil)))) rfl (OpJ.build (places:=[(0,4),(4,1),(5,1)]) ⟨underlying48,fun w=>by kernel_rfl⟩ tyZS48 (Opds.cons (ot 10 (.d (e_aPrefix r1.1))) (Opds.cons (ot 20 (i6 (minI m3 (w64 (r1.1.fLen+(w64 (r5.1*r6.1))))))) (Opds.cons (ot 23 (i6 (w64 (1+r7.1)))) Opds.nil))) (by kernel_rfl) (r:=(.st [(.d (e_aPrefix r1.1)),(i6 (minI m3 (w64 (r1.1.fLen+(w64 (r5.1*r6.1)))))),(i6 (w64 (1+r7.1)))])) (by rfl) (L rfl)))
   (oc (OpJ.storeB (bt:=48) (c:=(.d (.st [(.st [(.st [(.bool false),(.int .u64 0),(.int .u64 0)]),(.int .i64 0)]),(.int .i64 0),(.int .i64 0)]))) (v:=(.d (.st [(e_aPrefix r1.1),(.int .i64 (minI m3 (w64 (r1.1.fLen+(w64 (r5.1*r6.1)))))),(.int .i64 (w64 (1+r7.1)))]))) (c':=(.d (.st [(e_aPrefix r1.1),(.int .i64 (minI m3 (w64 (r1.1.fLen+(w64 (r5.1*r6.1)))))),(.int .i64 (w64 (1+r7.1)))]))) tyS48 (SetAt.here _ _) (by rfl) (by rfl) (by simp) rfl (ot 2 (pt 1002)) (ot 24 (.d (.st [(e_aPrefix r1.1),(.int .i64 (minI m3 (w64 (r1.1.fLen+(w64 (r5.1*r6.1)))))),(.int .i64 (w64 (1+r7.1)))]))))
   (OpJs.nil))))))))))))))))) (by kernel_rfl) (by rfl) (by rfl) ?_
  apply seqQ_n
  refine AWp.ghost (mp [] [(2,(pt 1002))] [(0,bd 80 (e_xmake_Deck r7.2)),(1002,some (.box 48 (.d (.st [(e_aPrefix r1.1),(.int .i64 (minI m3 (w64 (r1.1.fLen+(w64 (r5.1*r6.1)))))),(.int .i64 (w64 (1+r7.1)))]))))] hB) ?_
  apply AWp.ret
  obtain rfl:=oi h
  exact rt (kp [(2,_)] [(0,some _),(1002,some _)] hB rfl rfl (by rfl)) [(.d (.st [(e_aPrefix r1.1),(.int .i64 (minI m3 (w64 (r1.1.fLen+(w64 (r5.1*r6.1)))))),(.int .i64 (w64 (1+r7.1)))]))] (Res.cell (c:=(.d (.st [(e_aPrefix r1.1),(.int .i64 (minI m3 (w64 (r1.1.fLen+(w64 (r5.1*r6.1)))))),(.int .i64 (w64 (1+r7.1)))]))) (by rfl) (by rfl) tyS48 (by rfl) (by rfl) (by rfl) Res.nil) rfl
 ·apply AWp.cond rfl<;>intro hg8
  ·have h:=ite_t hg8 h
   apply rg (c (assign (L rfl) (ii 128)) rfl cn)
   exact hjj4 _ h _ _ (mp [] _ _ hB)
  ·have h:=ite_f hg8 h
   apply AWp.skip
   exact hjj4 _ h _ _ (mp [] _ _ hB)
def xref02_Halves (a0:aPrefix):Option (aPrefix×aPrefix×Int) :=
 (xref02_Valid a0).bind fun r1 =>
 (if (!r1)=true then
 some ((aPrefix.mk (aAddr.mk false 0 0) 0),(aPrefix.mk (aAddr.mk false 0 0) 0),1)
 else
 (xref02_width a0.fAddr).bind fun r3 =>
 (if (a0.fLen==r3)=true then
 some ((aPrefix.mk (aAddr.mk false 0 0) 0),(aPrefix.mk (aAddr.mk false 0 0) 0),9)
 else
 (xref01_Bytes_2 a0.fAddr).bind fun r5 =>
 (idx r5 (w64 (Int.tdiv a0.fLen 8))).bind fun x6 =>
 (idx r5 (w64 (Int.tdiv a0.fLen 8))).bind fun x7 =>
 (idx r5 (w64 (Int.tdiv a0.fLen 8))).bind fun x8 =>
 (idx r5 (w64 (Int.tdiv a0.fLen 8))).bind fun x9 =>
 (xref01_FromBytes (((r5.set (w64 (Int.tdiv a0.fLen 8)).toNat (bitI .or .u8 x7 (shrI .u8 128 (IntKind.u64.wrap (Int.tmod a0.fLen 8))))).drop 0).take r5.length)).bind fun r10 =>
 some ((aPrefix.mk a0.fAddr (w64 (a0.fLen+1))),(aPrefix.mk r10.1 (w64 (a0.fLen+1))),0)))
theorem xref02_Halves_ac (a0:aPrefix) (r:aPrefix×aPrefix×Int) (h:xref02_Halves a0=some r):AC Tryz.prog 102 [(.d (e_aPrefix a0))] [] (.tup [(.d (e_aPrefix r.1)),(.d (e_aPrefix r.2.1)),(.d (.int .i64 r.2.2))]) []:=by
 refine ac2 Tryz.func102 rfl rfl fun B hB hN L => ?_
 delta xref02_Halves at h
 apply sr (cg (OpJ.box hB (nm:=1001) (by decide) (by simp) rfl (L rfl) (q 0)) rfl (cg (alloc hB tyZ46 (nm:=1002) (by decide) (L rfl)) rfl (cg (alloc hB tyZ46 (nm:=1003) (by decide) (L rfl)) rfl (c (assign (L rfl) (ii 0)) rfl cn))))
 apply AWp.seq
 apply AWp.block
 obtain⟨r1,hr1,h⟩:=bindS h
 apply sr (c (lb hN 46 _ _ tyS46 (At.here _) (q 1)) rfl (cg (cf hB fnOk53 (xref02_Valid_ac a0 r1 hr1) (L rfl) (OpdL.cons (q 9) OpdL.nil)) rfl (c (OpJ.not (L rfl) (q 10)) rfl (c (assign (L rfl) (q 11)) rfl cn))))
 apply AWp.cond rfl<;>intro hg2
 ·have h:=ite_t hg2 h
  apply sr (c (OpJ.coe (v:=(.st [(.d (.st [(.bool false),(.int .u64 0),(.int .u64 0)])),(i6 0)])) (y:=(.st [(.st [(.bool false),(.int .u64 0),(.int .u64 0)]),(.int .i64 0)])) (Co.st (CoL.cons (Co.d _) (CoL.cons (Co.d _) CoL.nil))) rfl (OpJ.build (places:=[(0,3),(3,1)]) ⟨underlying46,fun w=>by kernel_rfl⟩ tyZS46 Opds.nil (by kernel_rfl) (r:=(.st [(.d (.st [(.bool false),(.int .u64 0),(.int .u64 0)])),(i6 0)])) (by rfl) (L rfl))) rfl (c (OpJ.coe (v:=(.st [(.d (.st [(.bool false),(.int .u64 0),(.int .u64 0)])),(i6 0)])) (y:=(.st [(.st [(.bool false),(.int .u64 0),(.int .u64 0)]),(.int .i64 0)])) (Co.st (CoL.cons (Co.d _) (CoL.cons (Co.d _) CoL.nil))) rfl (OpJ.build (places:=[(0,3),(3,1)]) ⟨underlying46,fun w=>by kernel_rfl⟩ tyZS46 Opds.nil (by kernel_rfl) (r:=(.st [(.d (.st [(.bool false),(.int .u64 0),(.int .u64 0)])),(i6 0)])) (by rfl) (L rfl))) rfl (cg (sB tyS46 (q 2) (q 12)) rfl (cg (sB tyS46 (q 3) (q 13)) rfl (c (assign (L rfl) (ii 1)) rfl cn)))))
  apply AWp.ret
  apply blkQ_r
  apply seqQ_r
  obtain rfl:=oi h
  exact rt (kp [(2,_),(3,_),(4,_)] [(1002,some _),(1003,some _)] hB rfl rfl (by rfl)) [(.d (.st [(.st [(.bool false),(.int .u64 0),(.int .u64 0)]),(.int .i64 0)])),(.d (.st [(.st [(.bool false),(.int .u64 0),(.int .u64 0)]),(.int .i64 0)])),(i6 1)] (Res.cell (c:=(.d (.st [(.st [(.bool false),(.int .u64 0),(.int .u64 0)]),(.int .i64 0)]))) (by rfl) (by rfl) tyS46 (by rfl) (by rfl) (by rfl) (Res.cell (c:=(.d (.st [(.st [(.bool false),(.int .u64 0),(.int .u64 0)]),(.int .i64 0)]))) (by rfl) (by rfl) tyS46 (by rfl) (by rfl) (by rfl) (Res.tmp (by rfl) (by rfl) Res.nil))) rfl
 ·have h:=ite_f hg2 h
  obtain⟨r3,hr3,h⟩:=bindS h
  apply sd (c (fo 1001 3 [1] hN underlying46 3 tyS3 (q 1)) rfl (c (la hN 46 tyS3 (q 15)) rfl (c (fo 1001 0 [0] hN underlying46 0 tyS44 (q 1)) rfl (c (la hN 46 tyS44 (q 17)) rfl (cg (cf hB fnOk77 (xref02_width_ac a0.fAddr r3 hr3) (L rfl) (OpdL.cons (q 18) OpdL.nil)) rfl (c (eqlI (L rfl) (q 16) (q 19)) rfl (c (assign (L rfl) (q 20)) rfl cn))))))) (by kernel_rfl) (by kernel_rfl)
  apply AWp.cond rfl<;>intro hg4
  ·have h:=ite_t hg4 h
   apply sr (c (OpJ.coe (v:=(.st [(.d (.st [(.bool false),(.int .u64 0),(.int .u64 0)])),(i6 0)])) (y:=(.st [(.st [(.bool false),(.int .u64 0),(.int .u64 0)]),(.int .i64 0)])) (Co.st (CoL.cons (Co.d _) (CoL.cons (Co.d _) CoL.nil))) rfl (OpJ.build (places:=[(0,3),(3,1)]) ⟨underlying46,fun w=>by kernel_rfl⟩ tyZS46 Opds.nil (by kernel_rfl) (r:=(.st [(.d (.st [(.bool false),(.int .u64 0),(.int .u64 0)])),(i6 0)])) (by rfl) (L rfl))) rfl (c (OpJ.coe (v:=(.st [(.d (.st [(.bool false),(.int .u64 0),(.int .u64 0)])),(i6 0)])) (y:=(.st [(.st [(.bool false),(.int .u64 0),(.int .u64 0)]),(.int .i64 0)])) (Co.st (CoL.cons (Co.d _) (CoL.cons (Co.d _) CoL.nil))) rfl (OpJ.build (places:=[(0,3),(3,1)]) ⟨underlying46,fun w=>by kernel_rfl⟩ tyZS46 Opds.nil (by kernel_rfl) (r:=(.st [(.d (.st [(.bool false),(.int .u64 0),(.int .u64 0)])),(i6 0)])) (by rfl) (L rfl))) rfl (cg (sB tyS46 (q 2) (q 21)) rfl (cg (sB tyS46 (q 3) (q 22)) rfl (c (assign (L rfl) (ii 9)) rfl cn)))))
   apply AWp.ret
   apply blkQ_r
   apply seqQ_r
   obtain rfl:=oi h
   exact rt (kp [(2,_),(3,_),(4,_)] [(1002,some _),(1003,some _)] hB rfl rfl (by rfl)) [(.d (.st [(.st [(.bool false),(.int .u64 0),(.int .u64 0)]),(.int .i64 0)])),(.d (.st [(.st [(.bool false),(.int .u64 0),(.int .u64 0)]),(.int .i64 0)])),(i6 9)] (Res.cell (c:=(.d (.st [(.st [(.bool false),(.int .u64 0),(.int .u64 0)]),(.int .i64 0)]))) (by rfl) (by rfl) tyS46 (by rfl) (by rfl) (by rfl) (Res.cell (c:=(.d (.st [(.st [(.bool false),(.int .u64 0),(.int .u64 0)]),(.int .i64 0)]))) (by rfl) (by rfl) tyS46 (by rfl) (by rfl) (by rfl) (Res.tmp (by rfl) (by rfl) Res.nil))) rfl
  ·have h:=ite_f hg4 h
   apply AWp.skip
   apply blkQ_n
   apply seqQ_n
   apply AWp.seq
   obtain⟨r5,hr5,h⟩:=bindS h
   refine AWp.region (oc (ov (.ptr 1001 0 [0]) (fp hN underlying46 0 tyS44 (.box 46 (.d (e_aPrefix a0))) (ot 1 (pt 1001))))
    (oc (lb hN 46 (.d (e_aPrefix a0)) (.d (e_aAddr a0.fAddr)) tyS44 (ad (e_aAddr a0.fAddr)) (ot 23 (.ptr 1001 0 [0])))
    (oc (OpJ.callFn hB fnOk78 (xref01_Bytes_2_ac a0.fAddr r5 hr5) [(900000,100200)] (by kernel_rfl) (L rfl) (by kernel_rfl) (OpdL.cons (ot 24 (.d (e_aAddr a0.fAddr))) OpdL.nil))
    (oc (assign (L rfl) (ot 25 (.sref 100200 1 0 r5.length)))
    (OpJs.nil))))) (by rfl) (by rfl) ?_
   apply seqQ_n
   refine AWp.ghost (mp [] [(1,(pt 1001)),(2,(pt 1002)),(3,(pt 1003)),(5,(.sref 100200 1 0 r5.length))] [(1001,bd 46 (e_aPrefix a0)),(1002,bd 46 (.st [(.st [(.bool false),(.int .u64 0),(.int .u64 0)]),(.int .i64 0)])),(1003,bd 46 (.st [(.st [(.bool false),(.int .u64 0),(.int .u64 0)]),(.int .i64 0)])),(100200,some (.row 5 1 (r5.map (eI .u8))))] hB) ?_
   obtain⟨x6,hx6,h⟩:=bindS h
   obtain⟨x7,hx7,h⟩:=bindS h
   obtain⟨x8,hx8,h⟩:=bindS h
   obtain⟨x9,hx9,h⟩:=bindS h
   apply sd (c (mv hN (q 5)) rfl (c (fo 1001 3 [1] hN underlying46 3 tyS3 (q 1)) rfl (c (la hN 46 tyS3 (q 27)) rfl (c (quo6 (L rfl) (q 28) (ii 8) (by decide)) rfl (c (OpJ.val (v':=(.ptr 100200 ((w64 (Int.tdiv a0.fLen 8)).toNat*1) [(w64 (Int.tdiv a0.fLen 8)).toNat])) (by simp) (indexS underlying130 tyS5 (idx_some hx6).1 (by have:=idx_lt hx6;first | (simpa using this) | ((try simp only [List.length_map] at this);(try simp only [List.length_map]);omega)) (L rfl) (q 26) (q 29))) rfl (c (loadR (e:=5) (sz:=1) tyS5 (get_map (eI .u8) (idx_some hx7).2) (o:=0) (At.here _) (by rfl) (by rfl) (by rfl) (L rfl) (q 30)) rfl (c (fo 1001 3 [1] hN underlying46 3 tyS3 (q 1)) rfl (c (la hN 46 tyS3 (q 32)) rfl (c (OpJ.rem (L rfl) (q 33) (ii 8) (by decide)) rfl (c (OpJ.conv underlying3 underlying73 (L rfl) (q 34)) rfl (c (OpJ.shr (L rfl) (Opd.int .u8 (128)) (q 35) (wrap_nonneg rfl _)) rfl (c (OpJ.bits (.inr (.inl rfl)) (L rfl) (q 31) (q 36)) rfl (c (OpJ.val (v':=(.ptr 100200 ((w64 (Int.tdiv a0.fLen 8)).toNat*1) [(w64 (Int.tdiv a0.fLen 8)).toNat])) (by simp) (indexS underlying130 tyS5 (idx_some hx8).1 (by have:=idx_lt hx8;first | (simpa using this) | ((try simp only [List.length_map] at this);(try simp only [List.length_map]);omega)) (L rfl) (q 26) (q 29))) rfl (cg (OpJ.storeR (e:=5) (sz:=1) (es':=(r5.set (w64 (Int.tdiv a0.fLen 8)).toNat (bitI .or .u8 x7 (shrI .u8 128 (IntKind.u64.wrap (Int.tmod a0.fLen 8))))).map (eI .u8)) tyS5 (get_map (eI .u8) (idx_some hx9).2) (o:=0) (SetAt.here _ _) (by rfl) (map_set _ _ _ _) (by rfl) (by rfl) (q 38) (q 37)) rfl cn)))))))))))))) (by kernel_rfl) (by kernel_rfl)
   apply AWp.seq
   refine AWp.ghost (Mat.freezeP (n:=100200) (e:=5) (sz:=1) (es:=(r5.set (w64 (Int.tdiv a0.fLen 8)).toNat (bitI .or .u8 x7 (shrI .u8 128 (IntKind.u64.wrap (Int.tmod a0.fLen 8))))).map (eI .u8)) (Ts:=[(5,(.d (.list 1 ((((r5.set (w64 (Int.tdiv a0.fLen 8)).toNat (bitI .or .u8 x7 (shrI .u8 128 (IntKind.u64.wrap (Int.tmod a0.fLen 8))))).drop 0).take r5.length).map (eI .u8)))))]) (Bs:=[]) (by rfl) (TwT.cons (x:=(.sref 100200 1 0 r5.length)) (by rfl) (FrzL.cut (fs:=(((r5.set (w64 (Int.tdiv a0.fLen 8)).toNat (bitI .or .u8 x7 (shrI .u8 128 (IntKind.u64.wrap (Int.tmod a0.fLen 8))))).drop 0).take r5.length).map (eI .u8)) (by simp only [List.length_map,List.length_append,List.length_take,List.length_drop,List.length_replicate,List.length_set];omega) (by first | rw [List.map_drop,List.map_take] | simp [List.map_take,List.map_drop])) TwT.nil) TwB.nil) ?_
   obtain⟨r10,hr10,h⟩:=bindS h
   apply rg (c (mv hN (q 5)) rfl (cg (OpJ.callFn hB fnOk79 (xref01_FromBytes_ac (((r5.set (w64 (Int.tdiv a0.fLen 8)).toNat (bitI .or .u8 x7 (shrI .u8 128 (IntKind.u64.wrap (Int.tmod a0.fLen 8))))).drop 0).take r5.length) r10 hr10) [] (by kernel_rfl) (L rfl) (by kernel_rfl) (OpdL.cons (q 40) OpdL.nil)) rfl (c (mv hN (q 41)) rfl (c (extract (by rfl) rfl (L rfl) (q 39)) rfl (c (extract (by rfl) rfl (L rfl) (q 39)) rfl (cg (alloc hB tyZ44 (nm:=1006) (by decide) (L rfl)) rfl (cg (sB tyS44 (q 6) (q 42)) rfl (c (assign (L rfl) (q 43)) rfl cn))))))))
   apply seqQ_n
   apply sd (c (fo 1001 0 [0] hN underlying46 0 tyS44 (q 1)) rfl (c (la hN 46 tyS44 (q 44)) rfl (c (fo 1001 3 [1] hN underlying46 3 tyS3 (q 1)) rfl (c (la hN 46 tyS3 (q 46)) rfl (c (add6 (L rfl) (q 47) (ii 1)) rfl (c (OpJ.coe (v:=(.st [(.d (e_aAddr a0.fAddr)),(i6 (w64 (a0.fLen+1)))])) (y:=(.st [(e_aAddr a0.fAddr),(.int .i64 (w64 (a0.fLen+1)))])) (Co.st (CoL.cons (Co.d _) (CoL.cons (Co.d _) CoL.nil))) rfl (OpJ.build (places:=[(0,3),(3,1)]) ⟨underlying46,fun w=>by kernel_rfl⟩ tyZS46 (Opds.cons (q 45) (Opds.cons (q 48) Opds.nil)) (by kernel_rfl) (r:=(.st [(.d (e_aAddr a0.fAddr)),(i6 (w64 (a0.fLen+1)))])) (by rfl) (L rfl))) rfl (c (lb hN 44 _ _ tyS44 (At.here _) (q 6)) rfl (c (fo 1001 3 [1] hN underlying46 3 tyS3 (q 1)) rfl (c (la hN 46 tyS3 (q 51)) rfl (c (add6 (L rfl) (q 52) (ii 1)) rfl (c (OpJ.coe (v:=(.st [(.d (e_aAddr r10.1)),(i6 (w64 (a0.fLen+1)))])) (y:=(.st [(e_aAddr r10.1),(.int .i64 (w64 (a0.fLen+1)))])) (Co.st (CoL.cons (Co.d _) (CoL.cons (Co.d _) CoL.nil))) rfl (OpJ.build (places:=[(0,3),(3,1)]) ⟨underlying46,fun w=>by kernel_rfl⟩ tyZS46 (Opds.cons (q 50) (Opds.cons (q 53) Opds.nil)) (by kernel_rfl) (r:=(.st [(.d (e_aAddr r10.1)),(i6 (w64 (a0.fLen+1)))])) (by rfl) (L rfl))) rfl (cg (sB tyS46 (q 2) (q 49)) rfl (cg (sB tyS46 (q 3) (q 54)) rfl (c (assign (L rfl) (ii 0)) rfl cn)))))))))))))) (by kernel_rfl) (by kernel_rfl)
   apply AWp.ret
   obtain rfl:=oi h
   exact rt (kp [(2,_),(3,_),(4,_)] [(1002,some _),(1003,some _)] hB rfl rfl (by rfl)) [(.d (.st [(e_aAddr a0.fAddr),(.int .i64 (w64 (a0.fLen+1)))])),(.d (.st [(e_aAddr r10.1),(.int .i64 (w64 (a0.fLen+1)))])),(i6 0)] (Res.cell (c:=(.d (.st [(e_aAddr a0.fAddr),(.int .i64 (w64 (a0.fLen+1)))]))) (by rfl) (by rfl) tyS46 (by rfl) (by rfl) (by rfl) (Res.cell (c:=(.d (.st [(e_aAddr r10.1),(.int .i64 (w64 (a0.fLen+1)))]))) (by rfl) (by rfl) tyS46 (by rfl) (by rfl) (by rfl) (Res.tmp (by rfl) (by rfl) Res.nil))) rfl
def xref21_divide:Nat→aPrefix→aRange→Option ((List aPrefix))
 | 0,_,_=>none
 | fuel+1,a0,a1 =>
  (xref02_Last a0).bind fun r1 =>
  jn (fun m6:Bool =>
  (if m6=true then
  some ([]:List aPrefix)
  else
  jn (fun m13:Bool =>
  (if m13=true then
  some [a0]
  else
  (xref02_Halves a0).bind fun r16 =>
  (xref21_divide fuel r16.1 a1).bind fun r19 =>
  (xref21_divide fuel r16.2.1 a1).bind fun r20 =>
  chk (decide ((r19++r20).length≤LIM)) <|
  some (r19++r20))) (fun j14 =>
  (xref01_Cmp a1.fFrom a0.fAddr).bind fun r22 =>
  (if (decide (r22≤0))=true then
  (xref01_Cmp r1 a1.fTo).bind fun r24 =>
  j14 (decide (r24≤0))
  else
  j14 false)))) (fun j7 =>
  (xref01_Cmp r1 a1.fFrom).bind fun r25 =>
  (if (decide (r25<0))=true then
  j7 true
  else
  (xref01_Cmp a1.fTo a0.fAddr).bind fun r27 =>
  j7 (decide (r27<0))))
theorem xref21_divide_ac (fuel:Nat):∀ (a0:aPrefix) (a1:aRange) (r:(List aPrefix)) (h:xref21_divide fuel a0 a1=some r),AC Tryz.prog 84 [(.d (e_aPrefix a0)),(.d (e_aRange a1))] [] (.sref 900000 4 0 r.length) [(900000,some (.row 46 4 (r.map e_aPrefix)))]:=by
 induction fuel with
 | zero =>
  intro a0 a1 r h
  rw [xref21_divide] at h
  cases h
 | succ fuel ih =>
  intro a0 a1 r h
  refine ac2 Tryz.func84 rfl rfl fun B hB hN L => ?_
  rw [xref21_divide] at h
  apply sr (cg (OpJ.box hB (nm:=1002) (by decide) (by simp) rfl (L rfl) (q 0)) rfl (cg (OpJ.box hB (nm:=1003) (by decide) (by simp) rfl (L rfl) (q 1)) rfl (c (assign (L rfl) Opd.nils) rfl cn)))
  obtain⟨r1,hr1,h⟩:=bindS h
  apply sr (c (lb hN 46 _ _ tyS46 (At.here _) (q 2)) rfl (cg (cf hB fnOk47 (xref02_Last_ac a0 r1 hr1) (L rfl) (OpdL.cons (q 9) OpdL.nil)) rfl (cg (alloc hB tyZ44 (nm:=1005) (by decide) (L rfl)) rfl (cg (sB tyS44 (q 5) (q 10)) rfl cn))))
  apply AWp.seq
  apply AWp.seq
  refine AWp.cut h (fun m6:Bool=>([(2,(pt 1002)),(3,(pt 1003)),(5,(pt 1005)),(23,(bo m6))]:EL)) (fun m6:Bool=>([(1002,bd 46 (e_aPrefix a0)),(1003,bd 92 (e_aRange a1)),(1005,bd 44 (e_aAddr r1))]:OL)) (fun m6 h E' O' hmat => ?_) (fun j7 hjj7 h => ?_)
  ·apply seqQ_n
   refine AWp.ghost hmat ?_
   apply AWp.cond rfl<;>intro hg8
   ·have h:=ite_t hg8 h
    apply sr (c (assign (L rfl) Opd.nils) rfl cn)
    apply AWp.ret
    apply seqQ_r
    obtain rfl:=oi h
    exact rt (Mat.trans (Mat.beginP (n:=900500) (e:=46) (sz:=4) (Ts:=[(4,(.sref 900500 4 0 0))]) (Bs:=[]) hB (by decide) (by rfl) (by decide) (TwT.cons (x:=.nils) (by rfl) (Tw.leaf ⟨rfl,rfl⟩) TwT.nil) TwB.nil) (Mat.trans (Mat.lenP (Ts:=[(4,(.sref 900500 4 0 (([]:List aPrefix).length)))]) (Bs:=[]) (TwT.cons (x:=(.sref 900500 4 0 0)) (by rfl) (Tw.leaf ⟨_,_,_,_,_,rfl,rfl,(by first | rfl | (simp;done) | (simp;omega) | omega)⟩) TwT.nil) TwB.nil) (mp [(900000,900500)] [(4,(.sref 900000 4 0 (([]:List aPrefix).length)))] [(900000,some (we_aPrefix_46_4 ([]:List aPrefix)))] hB))) [(.sref 900000 4 0 (([]:List aPrefix).length))] (Res.tmp (by rfl) (by rfl) Res.nil) rfl
   ·have h:=ite_f hg8 h
    apply AWp.skip
    apply seqQ_n
    apply AWp.seq
    apply AWp.seq
    refine AWp.cut h (fun m13:Bool=>([(2,(pt 1002)),(3,(pt 1003)),(36,(bo m13))]:EL)) (fun m13:Bool=>([(1002,bd 46 (e_aPrefix a0)),(1003,bd 92 (e_aRange a1))]:OL)) (fun m13 h E' O' hmat => ?_) (fun j14 hjj14 h => ?_)
    ·apply seqQ_n
     refine AWp.ghost hmat ?_
     apply AWp.cond rfl<;>intro hg15
     ·have h:=ite_t hg15 h
      apply sr (c (lb hN 46 _ _ tyS46 (At.here _) (q 2)) rfl (cg (OpJ.buildSliceR underlying50 tyS46 tyZD46 (by rfl) (by decide) (by decide) hB (nm:=1038) (by decide) (len:=[a0].length) (by rfl) (Opds.cons (q 37) Opds.nil) (by kernel_rfl) (es:=[a0].map e_aPrefix) (by rfl) (by rfl) (by kernel_rfl) (by simp) (L rfl)) rfl (c (assign (L rfl) (q 38)) rfl cn)))
      apply AWp.ret
      apply seqQ_r
      obtain rfl:=oi h
      exact rt (mp [(900000,1038)] [(4,(.sref 900000 4 0 ([a0].length)))] [(900000,some (we_aPrefix_46_4 [a0]))] hB) [(.sref 900000 4 0 ([a0].length))] (Res.tmp (by rfl) (by rfl) Res.nil) rfl
     ·have h:=ite_f hg15 h
      apply AWp.skip
      apply seqQ_n
      obtain⟨r16,hr16,h⟩:=bindS h
      apply sr (c (lb hN 46 _ _ tyS46 (At.here _) (q 2)) rfl (cg (cf hB fnOk102 (xref02_Halves_ac a0 r16 hr16) (L rfl) (OpdL.cons (q 40) OpdL.nil)) rfl (c (mv hN (q 41)) rfl (c (extract (by rfl) rfl (L rfl) (q 39)) rfl (c (extract (by rfl) rfl (L rfl) (q 39)) rfl (c (extract (by rfl) rfl (L rfl) (q 39)) rfl (cg (alloc hB tyZ46 (nm:=1006) (by decide) (L rfl)) rfl (cg (alloc hB tyZ46 (nm:=1007) (by decide) (L rfl)) rfl (cg (sB tyS46 (q 6) (q 42)) rfl (cg (sB tyS46 (q 7) (q 43)) rfl (c (assign (L rfl) (q 44)) rfl cn)))))))))))
      apply AWp.seq
      obtain⟨r19,hr19,h⟩:=bindS h
      obtain⟨r20,hr20,h⟩:=bindS h
      obtain⟨hc21,h⟩:=chk_some h
      refine AWp.draws (by kernel_rfl) (oc (lb hN 46 (.d (e_aPrefix r16.1)) (.d (e_aPrefix r16.1)) tyS46 (At.here _) (ot 6 (pt 1006)))
       (oc (lb hN 92 (.d (e_aRange a1)) (.d (e_aRange a1)) tyS92 (At.here _) (ot 3 (pt 1003)))
       (oc (OpJ.callFn hB fnOk84 (ih r16.1 a1 r19 hr19) [(900000,100600)] (by kernel_rfl) (L rfl) (by kernel_rfl) (OpdL.cons (ot 45 (.d (e_aPrefix r16.1))) (OpdL.cons (ot 46 (.d (e_aRange a1))) OpdL.nil)))
       (oc (lb hN 46 (.d (e_aPrefix r16.2.1)) (.d (e_aPrefix r16.2.1)) tyS46 (At.here _) (ot 7 (pt 1007)))
       (oc (lb hN 92 (.d (e_aRange a1)) (.d (e_aRange a1)) tyS92 (At.here _) (ot 3 (pt 1003)))
       (oc (OpJ.frz (OpJ.callFn hB fnOk84 (ih r16.2.1 a1 r20 hr20) [(900000,100700)] (by kernel_rfl) (L rfl) (by kernel_rfl) (OpdL.cons (ot 48 (.d (e_aPrefix r16.2.1))) (OpdL.cons (ot 49 (.d (e_aRange a1))) OpdL.nil))) (by simp))
       (oc (apd hB underlying50 tyE46 1051 e_aPrefix r19 r20 hc21 (L rfl) (ot 47 (.sref 100600 4 0 r19.length)) (ot 50 (qe_aPrefix_4 r20)))
       (oc (assign (L rfl) (ot 51 (.sref 1051 4 0 ((r19++r20).length))))
       (OpJs.nil))))))))) (by kernel_rfl) (by rfl) (by rfl) ?_
      apply seqQ_n
      refine AWp.ghost (mp [] [(4,(.sref 1051 4 0 ((r19++r20).length)))] [(1051,some (we_aPrefix_46_4 (r19++r20)))] hB) ?_
      apply AWp.ret
      obtain rfl:=oi h
      exact rt (mp [(900000,1051)] [(4,(.sref 900000 4 0 ((r19++r20).length)))] [(900000,some (we_aPrefix_46_4 (r19++r20)))] hB) [(.sref 900000 4 0 ((r19++r20).length))] (Res.tmp (by rfl) (by rfl) Res.nil) rfl
    ·obtain⟨r22,hr22,h⟩:=bindS h
     rcases bft (decide (r22≤0)) with hg23 | hg23
     ·have h:=ite_t hg23 h
      obtain⟨r24,hr24,h⟩:=bindS h
      apply rg (c (fo 1003 0 [0] hN underlying92 0 tyS44 (q 3)) rfl (c (la hN 92 tyS44 (q 24)) rfl (c (fo 1002 0 [0] hN underlying46 0 tyS44 (q 2)) rfl (c (la hN 46 tyS44 (q 26)) rfl (cg (cf hB fnOk46 (xref01_Cmp_ac a1.fFrom a0.fAddr r22 hr22) (L rfl) (OpdL.cons (q 25) (OpdL.cons (q 27) OpdL.nil))) rfl (c (leq (L rfl) (q 28) (ii 0)) rfl (c (OpJ.val (v':=.d (.bool true)) (by rw [hg23]<;>rfl) (mv hN (q 29))) rfl (c (gd 30 (lb hN 44 _ _ tyS44 (At.here _) (q 5))) rfl (c (gd 30 (fo 1003 3 [1] hN underlying92 3 tyS44 (q 3))) rfl (c (gd 30 (la hN 92 tyS44 (q 32))) rfl (cg (gd 30 (cf hB fnOk46 (xref01_Cmp_ac r1 a1.fTo r24 hr24) (L rfl) (OpdL.cons (q 31) (OpdL.cons (q 33) OpdL.nil)))) rfl (c (gd 30 (leq (L rfl) (q 34) (ii 0))) rfl (c (pickT (L rfl) (q 30) (q 35)) rfl cn)))))))))))))
      exact hjj14 _ h _ _ (mp [] _ _ hB)
     ·have h:=ite_f hg23 h
      apply rg (c (fo 1003 0 [0] hN underlying92 0 tyS44 (q 3)) rfl (c (la hN 92 tyS44 (q 24)) rfl (c (fo 1002 0 [0] hN underlying46 0 tyS44 (q 2)) rfl (c (la hN 46 tyS44 (q 26)) rfl (cg (cf hB fnOk46 (xref01_Cmp_ac a1.fFrom a0.fAddr r22 hr22) (L rfl) (OpdL.cons (q 25) (OpdL.cons (q 27) OpdL.nil))) rfl (c (leq (L rfl) (q 28) (ii 0)) rfl (c (OpJ.val (v':=.d (.bool false)) (by rw [hg23]<;>rfl) (mv hN (q 29))) rfl (ks 30 (L rfl) (ks 30 (L rfl) (ks 30 (L rfl) (ks 30 (L rfl) (ks 30 (L rfl) (c (pickF (L rfl) (q 30) (Opd.bool false)) rfl cn)))))))))))))
      exact hjj14 _ h _ _ (mp [] _ _ hB)
  ·obtain⟨r25,hr25,h⟩:=bindS h
   rcases bft (decide (r25<0)) with hg26 | hg26
   ·have h:=ite_t hg26 h
    apply rg (c (lb hN 44 _ _ tyS44 (At.here _) (q 5)) rfl (c (fo 1003 0 [0] hN underlying92 0 tyS44 (q 3)) rfl (c (la hN 92 tyS44 (q 12)) rfl (cg (cf hB fnOk46 (xref01_Cmp_ac r1 a1.fFrom r25 hr25) (L rfl) (OpdL.cons (q 11) (OpdL.cons (q 13) OpdL.nil))) rfl (c (lss (L rfl) (q 14) (ii 0)) rfl (c (OpJ.val (v':=.d (.bool true)) (by rw [hg26]<;>rfl) (mv hN (q 15))) rfl (ks 16 (L rfl) (ks 16 (L rfl) (ks 16 (L rfl) (ks 16 (L rfl) (ks 16 (L rfl) (ks 16 (L rfl) (c (pickT (L rfl) (q 16) (Opd.bool true)) rfl cn)))))))))))))
    exact hjj7 _ h _ _ (mp [] _ _ hB)
   ·have h:=ite_f hg26 h
    obtain⟨r27,hr27,h⟩:=bindS h
    apply rg (c (lb hN 44 _ _ tyS44 (At.here _) (q 5)) rfl (c (fo 1003 0 [0] hN underlying92 0 tyS44 (q 3)) rfl (c (la hN 92 tyS44 (q 12)) rfl (cg (cf hB fnOk46 (xref01_Cmp_ac r1 a1.fFrom r25 hr25) (L rfl) (OpdL.cons (q 11) (OpdL.cons (q 13) OpdL.nil))) rfl (c (lss (L rfl) (q 14) (ii 0)) rfl (c (OpJ.val (v':=.d (.bool false)) (by rw [hg26]<;>rfl) (mv hN (q 15))) rfl (c (gd 16 (fo 1003 3 [1] hN underlying92 3 tyS44 (q 3))) rfl (c (gd 16 (la hN 92 tyS44 (q 17))) rfl (c (gd 16 (fo 1002 0 [0] hN underlying46 0 tyS44 (q 2))) rfl (c (gd 16 (la hN 46 tyS44 (q 19))) rfl (cg (gd 16 (cf hB fnOk46 (xref01_Cmp_ac a1.fTo a0.fAddr r27 hr27) (L rfl) (OpdL.cons (q 18) (OpdL.cons (q 20) OpdL.nil)))) rfl (c (gd 16 (lss (L rfl) (q 21) (ii 0))) rfl (c (pickF (L rfl) (q 16) (q 22)) rfl cn)))))))))))))
    exact hjj7 _ h _ _ (mp [] _ _ hB)
def xref21_Prefixes_L0 (a0:aResources) (s1:Int×(List aPrefix)):Option ((((List aPrefix)))⊕(Int×(List aPrefix))) :=
 (if (decide (s1.1<(a0.fAddrs.length:Int)))=true then
 (idx a0.fAddrs s1.1).bind fun x13 =>
 (xref21_divide 1000 (aPrefix.mk (aAddr.mk x13.fFrom.fV6 0 0) 0) x13).bind fun r14 =>
 chk (decide ((s1.2++r14).length≤LIM)) <|
 some (.inr ((w64 (s1.1+1)),(s1.2++r14)))
 else
 some (.inl s1.2))
def xref21_Prefixes (a0:aResources):Option ((List aPrefix)) :=
 (loop (xref21_Prefixes_L0 a0) (0,([]:List aPrefix))).bind fun p11 =>
 some p11
theorem xref21_Prefixes_ac (a0:aResources) (r:(List aPrefix)) (h:xref21_Prefixes a0=some r):AC Tryz.prog 58 [(.d (e_aResources a0))] [] (.d (.list 4 (r.map e_aPrefix))) []:=by
 refine ac2 Tryz.func58 rfl rfl fun B hB hN L => ?_
 delta xref21_Prefixes at h
 apply sr (cg (OpJ.box hB (nm:=1001) (by decide) (by simp) rfl (L rfl) (q 0)) rfl (c (assign (L rfl) Opd.nils) rfl cn))
 apply sr (c (assign (L rfl) Opd.nils) rfl cn)
 apply AWp.seq
 apply sr (c (fo 1001 0 [0] hN underlying57 0 tyS54 (q 1)) rfl (c (la hN 57 tyS54 (q 6)) rfl (c (OpJ.val (v':=(i6 (a0.fAddrs.length:Int))) (by simp) (lenD underlying54 (L rfl) (q 7))) rfl (c (mv hN (ii 0)) rfl cn))))
 apply AWp.block
 obtain⟨p11,hx17,h⟩:=bindS h
 refine lg (xref21_Prefixes_L0 a0) (fun s1:Int×(List aPrefix)=>([(3,(.sref 3003 4 0 s1.2.length)),(7,(qe_aRange_6 a0.fAddrs)),(8,(i6 (a0.fAddrs.length:Int))),(9,(i6 s1.1))]:EL)) (fun s1:Int×(List aPrefix)=>([(3003,some (we_aPrefix_46_4 s1.2))]:OL)) (fun(p11:((List aPrefix))) e E' O'=>e = .exit 0∧Mat B E' O' ([(3,(.sref 3003 4 0 p11.length))]:EL) ([(3003,some (we_aPrefix_46_4 p11))]:OL)) hx17 (Mat.trans (Mat.beginP (n:=3003) (e:=46) (sz:=4) (Ts:=[(3,(.sref 3003 4 0 0))]) (Bs:=[]) hB (by decide) (by rfl) (by decide) (TwT.cons (x:=.nils) (by rfl) (Tw.leaf ⟨rfl,rfl⟩) TwT.nil) TwB.nil) (mp [] _ _ hB)) (fun s1 y h => ?_) (fun e E' O' hR => ?_)
 ·unfold xref21_Prefixes_L0 at h
  apply sr (c (lss (L rfl) (q 9) (q 8)) rfl cn)
  apply AWp.seq
  apply AWp.cond rfl<;>intro hg12
  ·have h:=ite_t hg12 h
   apply AWp.skip
   apply seqQ_n
   apply AWp.seq
   apply AWp.block
   obtain⟨x13,hx13,h⟩:=bindS h
   apply sr (c (indexD underlying54 tyS92 (idx_some hx13).1 (get_map e_aRange (idx_some hx13).2) (L rfl) (q 7) (q 9)) rfl (c (loadD tyS92 (by rfl) (by rfl) (L rfl) (q 11)) rfl (cg (alloc hB tyZ92 (nm:=1005) (by decide) (L rfl)) rfl (cg (sB tyS92 (q 5) (q 12)) rfl cn))))
   obtain⟨r14,hr14,h⟩:=bindS h
   obtain⟨hc15,h⟩:=chk_some h
   refine AWp.region (oc (mv hN (ot 3 (.sref 3003 4 0 s1.2.length)))
    (oc (ov (.ptr 1005 0 [0]) (fp hN underlying92 0 tyS44 (.box 92 (.d (e_aRange x13))) (ot 5 (pt 1005))))
    (oc (ov (.ptr 1005 0 [0,0]) (fp hN underlying44 0 tyS4 (.box 92 (.d (e_aRange x13))) (ot 14 (.ptr 1005 0 [0]))))
    (oc (lb hN 92 (.d (e_aRange x13)) (bo x13.fFrom.fV6) tyS4 (At.dst1 (f:=(e_aAddr x13.fFrom)) (by rfl) (by rfl) (ad (.bool x13.fFrom.fV6)) (by first | rfl | omega)) (ot 15 (.ptr 1005 0 [0,0])))
    (oc (OpJ.coe (v:=(.st [(bo x13.fFrom.fV6),(.d (.int .u64 0)),(.d (.int .u64 0))])) (y:=(.st [(.bool x13.fFrom.fV6),(.int .u64 0),(.int .u64 0)])) (Co.st (CoL.cons (Co.d _) (CoL.cons (Co.d _) (CoL.cons (Co.d _) CoL.nil)))) rfl (OpJ.build (places:=[(0,1),(1,1),(2,1)]) ⟨underlying44,fun w=>by kernel_rfl⟩ tyZS44 (Opds.cons (ot 16 (bo x13.fFrom.fV6)) Opds.nil) (by kernel_rfl) (r:=(.st [(bo x13.fFrom.fV6),(.d (.int .u64 0)),(.d (.int .u64 0))])) (by rfl) (L rfl)))
    (oc (OpJ.coe (v:=(.st [(.d (.st [(.bool x13.fFrom.fV6),(.int .u64 0),(.int .u64 0)])),(i6 0)])) (y:=(.st [(.st [(.bool x13.fFrom.fV6),(.int .u64 0),(.int .u64 0)]),(.int .i64 0)])) (Co.st (CoL.cons (Co.d _) (CoL.cons (Co.d _) CoL.nil))) rfl (OpJ.build (places:=[(0,3),(3,1)]) ⟨underlying46,fun w=>by kernel_rfl⟩ tyZS46 (Opds.cons (ot 17 (.d (.st [(.bool x13.fFrom.fV6),(.int .u64 0),(.int .u64 0)]))) Opds.nil) (by kernel_rfl) (r:=(.st [(.d (.st [(.bool x13.fFrom.fV6),(.int .u64 0),(.int .u64 0)])),(i6 0)])) (by rfl) (L rfl)))
    (oc (lb hN 92 (.d (e_aRange x13)) (.d (e_aRange x13)) tyS92 (At.here _) (ot 5 (pt 1005)))
    (oc (OpJ.frz (OpJ.callFn hB fnOk84 (xref21_divide_ac 1000 (aPrefix.mk (aAddr.mk x13.fFrom.fV6 0 0) 0) x13 r14 hr14) [(900000,100000)] (by kernel_rfl) (L rfl) (by kernel_rfl) (OpdL.cons (ot 18 (.d (.st [(.st [(.bool x13.fFrom.fV6),(.int .u64 0),(.int .u64 0)]),(.int .i64 0)]))) (OpdL.cons (ot 19 (.d (e_aRange x13))) OpdL.nil))) (by simp))
    (oc (apd hB underlying50 tyE46 1021 e_aPrefix s1.2 r14 hc15 (L rfl) (ot 13 (.sref 3003 4 0 s1.2.length)) (ot 20 (qe_aPrefix_4 r14)))
    (oc (assign (L rfl) (ot 21 (.sref 1021 4 0 ((s1.2++r14).length))))
    (OpJs.nil))))))))))) (by rfl) (by rfl) ?_
   apply blkQ_n
   apply seqQ_n
   refine AWp.ghost (mp [] [(3,(.sref 1021 4 0 ((s1.2++r14).length))),(7,(qe_aRange_6 a0.fAddrs)),(8,(i6 (a0.fAddrs.length:Int))),(9,(i6 s1.1))] [(1021,some (we_aPrefix_46_4 (s1.2++r14)))] hB) ?_
   apply rg (c (add6 (L rfl) (q 9) (ii 1)) rfl (c (mv hN (q 22)) rfl cn))
   obtain rfl:=oi h
   exact⟨rfl,(mp [(3003,1021)] _ _ hB)⟩
  ·have h:=ite_f hg12 h
   apply AWp.exit
   apply seqQ_e
   obtain rfl:=oi h
   exact⟨(fun hc=>by cases hc),rfl,(mp [] _ _ hB)⟩
 ·obtain⟨rfl,hmat⟩:=hR
  apply blkQ_hit
  apply seqQ_n
  refine AWp.ghost hmat ?_
  apply sr (c (mv hN (q 3)) rfl (c (assign (L rfl) (q 23)) rfl cn))
  apply AWp.ret
  obtain rfl:=oi h
  exact rt (Mat.trans (Mat.freezeP (n:=3003) (e:=46) (sz:=4) (es:=p11.map e_aPrefix) (Ts:=[(2,(qe_aPrefix_4 p11))]) (Bs:=[]) (by rfl) (TwT.cons (x:=(.sref 3003 4 0 p11.length)) (by rfl) (FrzL.all (by first | rfl | (simp;done) | (simp;omega) | omega)) TwT.nil) TwB.nil) (mp [] [(2,(qe_aPrefix_4 p11))] [] hB)) [(qe_aPrefix_4 p11)] (Res.tmp (by rfl) (by rfl) Res.nil) rfl
end
end Go.Proofs.YtgfoabcickjphaaGreatDoor
