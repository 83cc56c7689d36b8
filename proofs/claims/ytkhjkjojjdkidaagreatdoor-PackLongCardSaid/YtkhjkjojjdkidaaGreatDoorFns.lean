/- Printed by gen.py: the Go functions as plain functions, and that the code does what they say. -/
import Derived.Test.YtkhjkjojjdkidaaGreatDoorChecked
import Derived.Test.YtkhjkjojjdkidaaGreatDoorVcYB
import Derived.Test.YtkhjkjojjdkidaaGreatDoorVcZ
import Derived.Test.YtkhjkjojjdkidaaGreatDoorVcGC
import Derived.KernelRfl
import Derived.Test.YtkhjkjojjdkidaaGreatDoorVcMD
import Derived.Test.YtkhjkjojjdkidaaGreatDoorVcMQ
import Derived.Test.YtkhjkjojjdkidaaGreatDoorVcSG
import Derived.Test.YtkhjkjojjdkidaaGreatDoorFnsD
import Derived.Test.YtkhjkjojjdkidaaGreatDoorExt
import Derived.Test.YtkhjkjojjdkidaaGreatDoorVcPm
import Derived.Test.YtkhjkjojjdkidaaGreatDoorVcRg
import Derived.Test.YtkhjkjojjdkidaaGreatDoorVcSt
import Derived.Test.YtkhjkjojjdkidaaGreatDoorVcMR
namespace Go.Proofs.YtkhjkjojjdkidaaGreatDoor
open Go Go.Vc
open Tryz
open Go.Vc.OpJ (assign alloc lss pickT pickF extract lenD indexD loadD eqlI gtr callVal leq geq loadR nilP indexS buildSlice lenS fieldD neqI pickAnd pickOr)
open Go.Vc.AWp (seq ghost ret block)
set_option maxHeartbeats 4000000
set_option maxRecDepth 100000
noncomputable section
def T1 (a0:A7):Option ((List Int)×Int) :=
 jn (fun m4:(List A1) =>
 (H3 a0.fAnnounce true).bind fun r6 =>
 jn (fun m17:(List A1) =>
 (H3 a0.fWithdraw true).bind fun r19 =>
 jn (fun m24:(List A1) =>
 (A0f m24).bind fun r26 =>
 (if (r26.2 != 0)=true then
 some (([]:List Int),r26.2)
 else
 (H3 a0.fWithdraw false).bind fun r28 =>
 chk (decide ((([(IntKind.u8.wrap (shrI .i64 (r28.length:Int) 8)),(IntKind.u8.wrap (r28.length:Int))]:List Int)++r28).length≤LIM)) <|
 chk (decide (((([(IntKind.u8.wrap (shrI .i64 (r28.length:Int) 8)),(IntKind.u8.wrap (r28.length:Int))]:List Int)++r28)++([(IntKind.u8.wrap (shrI .i64 (r26.1.length:Int) 8)),(IntKind.u8.wrap (r26.1.length:Int))]:List Int)).length≤LIM)) <|
 chk (decide ((((([(IntKind.u8.wrap (shrI .i64 (r28.length:Int) 8)),(IntKind.u8.wrap (r28.length:Int))]:List Int)++r28)++([(IntKind.u8.wrap (shrI .i64 (r26.1.length:Int) 8)),(IntKind.u8.wrap (r26.1.length:Int))]:List Int))++r26.1).length≤LIM)) <|
 (H3 a0.fAnnounce false).bind fun r32 =>
 chk (decide (((((([(IntKind.u8.wrap (shrI .i64 (r28.length:Int) 8)),(IntKind.u8.wrap (r28.length:Int))]:List Int)++r28)++([(IntKind.u8.wrap (shrI .i64 (r26.1.length:Int) 8)),(IntKind.u8.wrap (r26.1.length:Int))]:List Int))++r26.1)++r32).length≤LIM)) <|
 some (((((([(IntKind.u8.wrap (shrI .i64 (r28.length:Int) 8)),(IntKind.u8.wrap (r28.length:Int))]:List Int)++r28)++([(IntKind.u8.wrap (shrI .i64 (r26.1.length:Int) 8)),(IntKind.u8.wrap (r26.1.length:Int))]:List Int))++r26.1)++r32),0))) (fun j25 =>
 (if (decide (0<(r19.length:Int)))=true then
 chk (decide ((([0,2,1]:List Int)++r19).length≤LIM)) <|
 (A1i m17 (A1.mk 128 15 (([0,2,1]:List Int)++r19))).bind fun r36 =>
 j25 r36
 else
 j25 m17))) (fun j18 =>
 (if (decide (0<(r6.length:Int)))=true then
 (L4 a0.fAttrs.fNext).bind fun r38 =>
 chk (decide ((([0,2,1,16]:List Int)++r38).length≤LIM)) <|
 chk (decide (((([0,2,1,16]:List Int)++r38)++([0]:List Int)).length≤LIM)) <|
 chk (decide ((((([0,2,1,16]:List Int)++r38)++([0]:List Int))++r6).length≤LIM)) <|
 (A1i m4 (A1.mk 128 14 (((([0,2,1,16]:List Int)++r38)++([0]:List Int))++r6))).bind fun r42 =>
 j18 r42
 else
 j18 m4))) (fun j5 =>
 (if (decide (0<(a0.fAnnounce.length:Int)))=true then
 (A19 a0.fAttrs).bind fun r44 =>
 (if (r44.2 != 0)=true then
 some (([]:List Int),r44.2)
 else
 j5 r44.1)
 else
 j5 ([]:List A1)))
theorem A7z (a0:A7) (r:(List Int)×Int) (h:T1 a0=some r):AC Tryz.prog 45 [(.d (D4 a0))] [] (.tup [(.d (.list 1 (r.1.map (eI .u8)))),(.d (.int .i64 r.2))]) []:=by
 refine ac2 Tryz.func45 rfl rfl fun B hB hN L => ?_
 delta T1 at h
 apply sr (cg (OpJ.box hB (nm:=1001) (by decide) (by simp) rfl (L rfl) (q 0)) rfl (c (assign (L rfl) Opd.nils) rfl (c (assign (L rfl) (ii 0)) rfl cn)))
 apply sr (c (assign (L rfl) Opd.nils) rfl cn)
 apply seq
 apply sr (c (fo 1001 12 [2] hN underlying61 12 tyS59 (q 1)) rfl (c (la hN 61 tyS59 (q 13)) rfl (c (OpJ.val (v':=(i6 (a0.fAnnounce.length:Int))) (by simp) (lenD underlying59 (L rfl) (q 14))) rfl (c (gtr (L rfl) (q 15) (ii 0)) rfl cn))))
 refine gh [(1,_),(4,_),(16,_)] [(1001,some _)] hB rfl rfl (by rfl) ?_
 refine AWp.cut h (fun m4:(List A1)=>([(1,(pt 1001)),(4,(B2 m4))]:EL)) (fun m4:(List A1)=>([(1001,bd 61 (D4 a0))]:OL)) (fun m4 h E' O' hmat => ?_) (fun j5 hjj5 h => ?_)
 ·apply A0
  refine ghost hmat ?_
  apply seq
  obtain⟨r6,hr6,h⟩:=bindS h
  apply sr (c (fo 1001 12 [2] hN underlying61 12 tyS59 (q 1)) rfl (c (la hN 61 tyS59 (q 27)) rfl (cg (cf hB fnOk82 (A02 a0.fAnnounce true r6 hr6) (L rfl) (OpdL.cons (q 28) (OpdL.cons (Opd.bool true) OpdL.nil))) rfl (c (assign (L rfl) (q 29)) rfl cn))))
  apply sr (c (mv hN (q 7)) rfl (c (OpJ.val (v':=(i6 (r6.length:Int))) (by simp) (lenD underlying67 (L rfl) (q 30))) rfl (c (gtr (L rfl) (q 31) (ii 0)) rfl cn)))
  refine gh [(1,_),(4,_),(7,_),(32,_)] [(1001,some _)] hB rfl rfl (by rfl) ?_
  refine AWp.cut h (fun m17:(List A1)=>([(1,(pt 1001)),(4,(B2 m17))]:EL)) (fun m17:(List A1)=>([(1001,bd 61 (D4 a0))]:OL)) (fun m17 h E' O' hmat => ?_) (fun j18 hjj18 h => ?_)
  ·apply A0
   refine ghost hmat ?_
   apply seq
   obtain⟨r19,hr19,h⟩:=bindS h
   apply sr (c (fo 1001 0 [0] hN underlying61 0 tyS59 (q 1)) rfl (c (la hN 61 tyS59 (q 46)) rfl (cg (cf hB fnOk82 (A02 a0.fWithdraw true r19 hr19) (L rfl) (OpdL.cons (q 47) (OpdL.cons (Opd.bool true) OpdL.nil))) rfl (c (assign (L rfl) (q 48)) rfl cn))))
   apply sr (c (mv hN (q 8)) rfl (c (OpJ.val (v':=(i6 (r19.length:Int))) (by simp) (lenD underlying67 (L rfl) (q 49))) rfl (c (gtr (L rfl) (q 50) (ii 0)) rfl cn)))
   refine gh [(1,_),(4,_),(8,_),(51,_)] [(1001,some _)] hB rfl rfl (by rfl) ?_
   refine AWp.cut h (fun m24:(List A1)=>([(1,(pt 1001)),(4,(B2 m24))]:EL)) (fun m24:(List A1)=>([(1001,bd 61 (D4 a0))]:OL)) (fun m24 h E' O' hmat => ?_) (fun j25 hjj25 h => ?_)
   ·apply A0
    refine ghost hmat ?_
    obtain⟨r26,hr26,h⟩:=bindS h
    apply sr (c (mv hN (q 4)) rfl (cg (cf hB fnOk85 (A91 m24 r26 hr26) (L rfl) (OpdL.cons (q 59) OpdL.nil)) rfl (c (mv hN (q 60)) rfl (c (extract (by rfl) rfl (L rfl) (q 58)) rfl (c (extract (by rfl) rfl (L rfl) (q 58)) rfl (c (assign (L rfl) (q 61)) rfl (c (assign (L rfl) (q 62)) rfl cn)))))))
    apply seq
    apply sr (c (mv hN (q 10)) rfl (c (neqI (L rfl) (q 63) (ii 0)) rfl cn))
    apply AWp.cond rfl<;>intro hg27
    ·have h:=A5 hg27 h
     apply sr (c (mv hN (q 10)) rfl (c (assign (L rfl) Opd.nils) rfl (c (assign (L rfl) (q 65)) rfl cn)))
     apply ret
     apply B9
     obtain rfl:=oi h
     exact rt (Mat.trans (Mat.coeP (Ts:=[(2,(.d (.list 1 (([]:List Int).map (eI .u8)))))]) (Bs:=[]) (TwT.cons (x:=.nils) (by rfl) (Tw.leaf ⟨_,(Co.nils 1),rfl⟩) TwT.nil) TwB.nil) (mp [] [(2,(.d (.list 1 (([]:List Int).map (eI .u8))))),(3,(i6 r26.2))] [] hB)) [(.d (.list 1 (([]:List Int).map (eI .u8)))),(i6 r26.2)] (rT (rT rN)) rfl
    ·have h:=A6 hg27 h
     apply AWp.skip
     apply A0
     obtain⟨r28,hr28,h⟩:=bindS h
     apply sr (c (fo 1001 0 [0] hN underlying61 0 tyS59 (q 1)) rfl (c (la hN 61 tyS59 (q 66)) rfl (cg (cf hB fnOk82 (A02 a0.fWithdraw false r28 hr28) (L rfl) (OpdL.cons (q 67) (OpdL.cons (Opd.bool false) OpdL.nil))) rfl (c (assign (L rfl) (q 68)) rfl cn))))
     obtain⟨hc29,h⟩:=C0 h
     apply sr (c (mv hN (q 11)) rfl (c (OpJ.val (v':=(i6 (r28.length:Int))) (by simp) (lenD underlying67 (L rfl) (q 69))) rfl (c (OpJ.shr (L rfl) (q 70) (Opd.int .u64 (8)) (by decide)) rfl (c (OpJ.conv underlying3 underlying5 (L rfl) (q 71)) rfl (c (mv hN (q 11)) rfl (c (OpJ.val (v':=(i6 (r28.length:Int))) (by simp) (lenD underlying67 (L rfl) (q 73))) rfl (c (OpJ.conv underlying3 underlying5 (L rfl) (q 74)) rfl (cg (OpJ.buildSliceR underlying67 tyS5 tyZD5 (by rfl) (by decide) (by decide) hB (nm:=1076) (by decide) (len:=([(IntKind.u8.wrap (shrI .i64 (r28.length:Int) 8)),(IntKind.u8.wrap (r28.length:Int))]:List Int).length) (by rfl) (Opds.cons (q 72) (Opds.cons (q 75) Opds.nil)) (by kernel_rfl) (es:=([(IntKind.u8.wrap (shrI .i64 (r28.length:Int) 8)),(IntKind.u8.wrap (r28.length:Int))]:List Int).map (eI .u8)) (by rfl) (by rfl) (by kernel_rfl) (by simp) (L rfl)) rfl (c (mv hN (q 11)) rfl (cg (apd hB underlying67 tyE5 1078 (eI .u8) ([(IntKind.u8.wrap (shrI .i64 (r28.length:Int) 8)),(IntKind.u8.wrap (r28.length:Int))]:List Int) r28 hc29 (L rfl) (q 76) (q 77)) rfl (c (assign (L rfl) (q 78)) rfl cn)))))))))))
     obtain⟨hc30,h⟩:=C0 h
     obtain⟨hc31,h⟩:=C0 h
     apply sr (c (mv hN (q 12)) rfl (c (mv hN (q 9)) rfl (c (OpJ.val (v':=(i6 (r26.1.length:Int))) (by simp) (lenD underlying67 (L rfl) (q 80))) rfl (c (OpJ.shr (L rfl) (q 81) (Opd.int .u64 (8)) (by decide)) rfl (c (OpJ.conv underlying3 underlying5 (L rfl) (q 82)) rfl (c (mv hN (q 9)) rfl (c (OpJ.val (v':=(i6 (r26.1.length:Int))) (by simp) (lenD underlying67 (L rfl) (q 84))) rfl (c (OpJ.conv underlying3 underlying5 (L rfl) (q 85)) rfl (c (buildSlice underlying67 tyS5 tyZD5 (by rfl) (by decide) (by decide) (Opds.cons (q 83) (Opds.cons (q 86) Opds.nil)) (by kernel_rfl) (es:=([(.int .u8 (IntKind.u8.wrap (shrI .i64 (r26.1.length:Int) 8))),(.int .u8 (IntKind.u8.wrap (r26.1.length:Int)))]:List D)) (by rfl) (by rfl) (by kernel_rfl) (by simp) (L rfl)) rfl (cg (apd hB underlying67 tyE5 1088 (eI .u8) (([(IntKind.u8.wrap (shrI .i64 (r28.length:Int) 8)),(IntKind.u8.wrap (r28.length:Int))]:List Int)++r28) ([(IntKind.u8.wrap (shrI .i64 (r26.1.length:Int) 8)),(IntKind.u8.wrap (r26.1.length:Int))]:List Int) hc30 (L rfl) (q 79) (q 87)) rfl (c (mv hN (q 9)) rfl (cg (apd hB underlying67 tyE5 1090 (eI .u8) ((([(IntKind.u8.wrap (shrI .i64 (r28.length:Int) 8)),(IntKind.u8.wrap (r28.length:Int))]:List Int)++r28)++([(IntKind.u8.wrap (shrI .i64 (r26.1.length:Int) 8)),(IntKind.u8.wrap (r26.1.length:Int))]:List Int)) r26.1 hc31 (L rfl) (q 88) (q 89)) rfl (c (assign (L rfl) (q 90)) rfl cn)))))))))))))
     obtain⟨r32,hr32,h⟩:=bindS h
     obtain⟨hc33,h⟩:=C0 h
     apply sr (c (mv hN (q 12)) rfl (c (fo 1001 12 [2] hN underlying61 12 tyS59 (q 1)) rfl (c (la hN 61 tyS59 (q 92)) rfl (cg (cf hB fnOk82 (A02 a0.fAnnounce false r32 hr32) (L rfl) (OpdL.cons (q 93) (OpdL.cons (Opd.bool false) OpdL.nil))) rfl (cg (apd hB underlying67 tyE5 1095 (eI .u8) (((([(IntKind.u8.wrap (shrI .i64 (r28.length:Int) 8)),(IntKind.u8.wrap (r28.length:Int))]:List Int)++r28)++([(IntKind.u8.wrap (shrI .i64 (r26.1.length:Int) 8)),(IntKind.u8.wrap (r26.1.length:Int))]:List Int))++r26.1) r32 hc33 (L rfl) (q 91) (q 94)) rfl (c (assign (L rfl) (q 95)) rfl (c (assign (L rfl) (ii 0)) rfl cn)))))))
     apply ret
     obtain rfl:=oi h
     exact rt (Mat.trans (Mat.freezeP (n:=1095) (e:=5) (sz:=1) (es:=((((([(IntKind.u8.wrap (shrI .i64 (r28.length:Int) 8)),(IntKind.u8.wrap (r28.length:Int))]:List Int)++r28)++([(IntKind.u8.wrap (shrI .i64 (r26.1.length:Int) 8)),(IntKind.u8.wrap (r26.1.length:Int))]:List Int))++r26.1)++r32).map (eI .u8)) (Ts:=[(2,(.d (.list 1 (((((([(IntKind.u8.wrap (shrI .i64 (r28.length:Int) 8)),(IntKind.u8.wrap (r28.length:Int))]:List Int)++r28)++([(IntKind.u8.wrap (shrI .i64 (r26.1.length:Int) 8)),(IntKind.u8.wrap (r26.1.length:Int))]:List Int))++r26.1)++r32).map (eI .u8)))))]) (Bs:=[]) (by rfl) (TwT.cons (x:=(.sref 1095 1 0 (((((([(IntKind.u8.wrap (shrI .i64 (r28.length:Int) 8)),(IntKind.u8.wrap (r28.length:Int))]:List Int)++r28)++([(IntKind.u8.wrap (shrI .i64 (r26.1.length:Int) 8)),(IntKind.u8.wrap (r26.1.length:Int))]:List Int))++r26.1)++r32).length))) (by rfl) (FrzL.all (by first | rfl | (simp;done) | (simp;omega) | omega)) TwT.nil) TwB.nil) (mp [] [(2,(.d (.list 1 (((((([(IntKind.u8.wrap (shrI .i64 (r28.length:Int) 8)),(IntKind.u8.wrap (r28.length:Int))]:List Int)++r28)++([(IntKind.u8.wrap (shrI .i64 (r26.1.length:Int) 8)),(IntKind.u8.wrap (r26.1.length:Int))]:List Int))++r26.1)++r32).map (eI .u8))))),(3,(i6 0))] [] hB)) [(.d (.list 1 (((((([(IntKind.u8.wrap (shrI .i64 (r28.length:Int) 8)),(IntKind.u8.wrap (r28.length:Int))]:List Int)++r28)++([(IntKind.u8.wrap (shrI .i64 (r26.1.length:Int) 8)),(IntKind.u8.wrap (r26.1.length:Int))]:List Int))++r26.1)++r32).map (eI .u8)))),(i6 0)] (rT (rT rN)) rfl
   ·apply AWp.cond rfl<;>intro hg34
    ·have h:=A5 hg34 h
     obtain⟨hc35,h⟩:=C0 h
     obtain⟨r36,hr36,h⟩:=bindS h
     apply rg (c (mv hN (q 4)) rfl (cg (OpJ.buildSliceR underlying67 tyS5 tyZD5 (by rfl) (by decide) (by decide) hB (nm:=1053) (by decide) (len:=([0,2,1]:List Int).length) (by rfl) (Opds.cons (Opd.int .u8 (0)) (Opds.cons (Opd.int .u8 (2)) (Opds.cons (Opd.int .u8 (1)) Opds.nil))) (by kernel_rfl) (es:=([0,2,1]:List Int).map (eI .u8)) (by rfl) (by rfl) (by kernel_rfl) (by simp) (L rfl)) rfl (c (mv hN (q 8)) rfl (cg (OpJ.frz (apd hB underlying67 tyE5 1055 (eI .u8) ([0,2,1]:List Int) r19 hc35 (L rfl) (q 53) (q 54)) (by simp)) rfl (c (OpJ.coe (v:=(.st [(i6 128),(i6 15),(.d (.list 1 ((([0,2,1]:List Int)++r19).map (eI .u8))))])) (y:=(.st [(.int .i64 128),(.int .i64 15),(.list 1 ((([0,2,1]:List Int)++r19).map (eI .u8)))])) (Co.st (CoL.cons (Co.d _) (CoL.cons (Co.d _) (CoL.cons (Co.d _) CoL.nil)))) rfl (OpJ.build (places:=[(0,1),(1,1),(2,1)]) ⟨underlying69,fun w=>by kernel_rfl⟩ tyZS69 (Opds.cons (ii 128) (Opds.cons (ii 15) (Opds.cons (q 55) Opds.nil))) (by kernel_rfl) (r:=(.st [(i6 128),(i6 15),(.d (.list 1 ((([0,2,1]:List Int)++r19).map (eI .u8))))])) (by rfl) (L rfl))) rfl (cg (OpJ.callFn hB fnOk83 (A5p m17 (A1.mk 128 15 (([0,2,1]:List Int)++r19)) r36 hr36) [] (by kernel_rfl) (L rfl) (by kernel_rfl) (OpdL.cons (q 52) (OpdL.cons (q 56) OpdL.nil))) rfl (c (assign (L rfl) (q 57)) rfl cn)))))))
     exact hjj25 _ h _ _ (mp [] _ _ hB)
    ·have h:=A6 hg34 h
     apply AWp.skip
     exact hjj25 _ h _ _ (mp [] _ _ hB)
  ·apply AWp.cond rfl<;>intro hg37
   ·have h:=A5 hg37 h
    obtain⟨r38,hr38,h⟩:=bindS h
    obtain⟨hc39,h⟩:=C0 h
    obtain⟨hc40,h⟩:=C0 h
    obtain⟨hc41,h⟩:=C0 h
    obtain⟨r42,hr42,h⟩:=bindS h
    apply rg (c (mv hN (q 4)) rfl (cg (OpJ.buildSliceR underlying67 tyS5 tyZD5 (by rfl) (by decide) (by decide) hB (nm:=1034) (by decide) (len:=([0,2,1,16]:List Int).length) (by rfl) (Opds.cons (Opd.int .u8 (0)) (Opds.cons (Opd.int .u8 (2)) (Opds.cons (Opd.int .u8 (1)) (Opds.cons (Opd.int .u8 (16)) Opds.nil)))) (by kernel_rfl) (es:=([0,2,1,16]:List Int).map (eI .u8)) (by rfl) (by rfl) (by kernel_rfl) (by simp) (L rfl)) rfl (c (fo 1001 1 [1] hN underlying61 1 tyS35 (q 1)) rfl (c (fo 1001 3 [1,2] hN underlying35 2 tyS27 (q 35)) rfl (c (lb hN 61 _ _ tyS27 (At.dst1 (by rfl) (by rfl) (ad _) (by first | rfl | omega)) (q 36)) rfl (cg (cf hB fnOk84 (A26 a0.fAttrs.fNext r38 hr38) (L rfl) (OpdL.cons (q 37) OpdL.nil)) rfl (cg (apd hB underlying67 tyE5 1039 (eI .u8) ([0,2,1,16]:List Int) r38 hc39 (L rfl) (q 34) (q 38)) rfl (c (buildSlice underlying67 tyS5 tyZD5 (by rfl) (by decide) (by decide) (Opds.cons (Opd.int .u8 (0)) Opds.nil) (by kernel_rfl) (es:=([(.int .u8 0)]:List D)) (by rfl) (by rfl) (by kernel_rfl) (by simp) (L rfl)) rfl (cg (apd hB underlying67 tyE5 1041 (eI .u8) (([0,2,1,16]:List Int)++r38) ([0]:List Int) hc40 (L rfl) (q 39) (q 40)) rfl (c (mv hN (q 7)) rfl (cg (OpJ.frz (apd hB underlying67 tyE5 1043 (eI .u8) ((([0,2,1,16]:List Int)++r38)++([0]:List Int)) r6 hc41 (L rfl) (q 41) (q 42)) (by simp)) rfl (c (OpJ.coe (v:=(.st [(i6 128),(i6 14),(.d (.list 1 ((((([0,2,1,16]:List Int)++r38)++([0]:List Int))++r6).map (eI .u8))))])) (y:=(.st [(.int .i64 128),(.int .i64 14),(.list 1 ((((([0,2,1,16]:List Int)++r38)++([0]:List Int))++r6).map (eI .u8)))])) (Co.st (CoL.cons (Co.d _) (CoL.cons (Co.d _) (CoL.cons (Co.d _) CoL.nil)))) rfl (OpJ.build (places:=[(0,1),(1,1),(2,1)]) ⟨underlying69,fun w=>by kernel_rfl⟩ tyZS69 (Opds.cons (ii 128) (Opds.cons (ii 14) (Opds.cons (q 43) Opds.nil))) (by kernel_rfl) (r:=(.st [(i6 128),(i6 14),(.d (.list 1 ((((([0,2,1,16]:List Int)++r38)++([0]:List Int))++r6).map (eI .u8))))])) (by rfl) (L rfl))) rfl (cg (OpJ.callFn hB fnOk83 (A5p m4 (A1.mk 128 14 (((([0,2,1,16]:List Int)++r38)++([0]:List Int))++r6)) r42 hr42) [] (by kernel_rfl) (L rfl) (by kernel_rfl) (OpdL.cons (q 33) (OpdL.cons (q 44) OpdL.nil))) rfl (c (assign (L rfl) (q 45)) rfl cn))))))))))))))
    exact hjj18 _ h _ _ (mp [] _ _ hB)
   ·have h:=A6 hg37 h
    apply AWp.skip
    exact hjj18 _ h _ _ (mp [] _ _ hB)
 ·apply AWp.cond rfl<;>intro hg43
  ·have h:=A5 hg43 h
   obtain⟨r44,hr44,h⟩:=bindS h
   apply sr (c (fo 1001 1 [1] hN underlying61 1 tyS35 (q 1)) rfl (c (la hN 61 tyS35 (q 18)) rfl (cg (cf hB fnOk81 (A7y a0.fAttrs r44 hr44) (L rfl) (OpdL.cons (q 19) OpdL.nil)) rfl (c (mv hN (q 20)) rfl (c (extract (by rfl) rfl (L rfl) (q 17)) rfl (c (extract (by rfl) rfl (L rfl) (q 17)) rfl (c (assign (L rfl) (q 21)) rfl (c (assign (L rfl) (q 22)) rfl cn))))))))
   apply seq
   apply sr (c (mv hN (q 6)) rfl (c (neqI (L rfl) (q 23) (ii 0)) rfl cn))
   apply AWp.cond rfl<;>intro hg45
   ·have h:=A5 hg45 h
    apply sr (c (mv hN (q 6)) rfl (c (assign (L rfl) Opd.nils) rfl (c (assign (L rfl) (q 25)) rfl cn)))
    apply ret
    apply B9
    apply B9
    obtain rfl:=oi h
    exact rt (Mat.trans (Mat.coeP (Ts:=[(2,(.d (.list 1 (([]:List Int).map (eI .u8)))))]) (Bs:=[]) (TwT.cons (x:=.nils) (by rfl) (Tw.leaf ⟨_,(Co.nils 1),rfl⟩) TwT.nil) TwB.nil) (mp [] [(2,(.d (.list 1 (([]:List Int).map (eI .u8))))),(3,(i6 r44.2))] [] hB)) [(.d (.list 1 (([]:List Int).map (eI .u8)))),(i6 r44.2)] (rT (rT rN)) rfl
   ·have h:=A6 hg45 h
    apply AWp.skip
    apply A0
    apply rg (c (mv hN (q 5)) rfl (c (assign (L rfl) (q 26)) rfl cn))
    exact hjj5 _ h _ _ (mp [] _ _ hB)
  ·have h:=A6 hg43 h
   apply AWp.skip
   exact hjj5 _ h _ _ (Mat.trans (Mat.coeP (Ts:=[(4,(B2 ([]:List A1)))]) (Bs:=[]) (TwT.cons (x:=.nils) (by rfl) (Tw.leaf ⟨_,(Co.nils 3),rfl⟩) TwT.nil) TwB.nil) (mp [] _ _ hB))
def P1 (a0:A7) (s4:Int):Option (((Unit)⊕(Unit))⊕(Int)) :=
 (if (decide (s4<((a0.fWithdraw++a0.fAnnounce).length:Int)))=true then
 (idx (a0.fWithdraw++a0.fAnnounce) s4).bind fun _ =>
 (idx (a0.fWithdraw++a0.fAnnounce) s4).bind fun x19 =>
 (Y4 x19).bind fun r20 =>
 (if (!r20)=true then
 some (.inl (.inl ()))
 else
 some (.inr (w64 (s4+1))))
 else
 some (.inl (.inr ())))
def P2 (a0:A7) (s30:Int):Option (((Unit)⊕(Unit))⊕(Int)) :=
 (if (decide (s30<(a0.fAnnounce.length:Int)))=true then
 (idx a0.fAnnounce s30).bind fun x52 =>
 jn (fun m55:Bool =>
 (if m55=true then
 some (.inl (.inl ()))
 else
 some (.inr (w64 (s30+1))))) (fun j56 =>
 (if (((x52.fAddr.fV6 != a0.fAttrs.fNext.fV6) || (a0.fAttrs.fOrigin==(-1))) || ((a0.fAttrs.fNext.fV6==false)&&((a0.fAttrs.fNext.fHi==0)&&((a0.fAttrs.fNext.fLo==0)&&true))))=true then
 j56 true
 else
 (T0 a0.fAttrs).bind fun r59 =>
 j56 (!r59)))
 else
 some (.inl (.inr ())))
def L5 (a0:A7):Option (Bool) :=
 (if ((decide (256<(a0.fWithdraw.length:Int))) || (decide (256<(a0.fAnnounce.length:Int))))=true then
 some false
 else
 chk (decide (a0.fWithdraw.length≤LIM)) <|
 chk (decide ((a0.fWithdraw++a0.fAnnounce).length≤LIM)) <|
 (loop (P1 a0) 0).bind fun x22=>match x22 with
 | (.inl _) =>
  some false
 | (.inr _) =>
  jn (fun m27:Bool =>
  (if m27=true then
  some false
  else
  (loop (P2 a0) 0).bind fun x60=>match x60 with
  | (.inl _) =>
   some false
  | (.inr _) =>
   (T1 a0).bind fun r62 =>
   some ((r62.2==0)&&(decide ((r62.1.length:Int)≤4077))))) (fun j28 =>
  (if ((a0.fAnnounce.length:Int)==0)=true then
  (Y3).bind fun r64 =>
  (A0e a0.fAttrs r64).bind fun r65 =>
  j28 (!r65)
  else
  j28 false)))
theorem A4i (a0:A7) (r:Bool) (h:L5 a0=some r):AC Tryz.prog 20 [(.d (D4 a0))] [] (.d (.bool r)) []:=by
 refine ac2 Tryz.func20 rfl rfl fun B hB hN L => ?_
 delta L5 at h
 refine sr (SQ tt) ?_
 apply seq
 refine sr (SQ tt) ?_
 apply AWp.cond rfl<;>intro hg1
 ·have h:=A5 hg1 h
  refine sr (SQ tt) ?_
  apply ret
  apply B9
  obtain rfl:=oi h
  exact rt (kp [(2,_)] [] hB rfl rfl (by rfl)) [(bo false)] (rT rN) rfl
 ·have h:=A6 hg1 h
  apply AWp.skip
  apply A0
  apply seq
  obtain⟨hc2,h⟩:=C0 h
  obtain⟨hc3,h⟩:=C0 h
  refine sdS (SQ (fa hc2 (fa hc3 tt))) ?_
  apply block
  obtain⟨x22,hx23,h⟩:=bindS h
  refine lg (P1 a0) (fun s4:Int=>([(1,(pt 1001)),(24,(.sref 1024 4 0 ((a0.fWithdraw++a0.fAnnounce).length))),(25,(i6 ((a0.fWithdraw++a0.fAnnounce).length:Int))),(26,(i6 s4))]:EL)) (fun s4:Int=>([(1001,bd 61 (D4 a0)),(1024,some (I2 (a0.fWithdraw++a0.fAnnounce)))]:OL)) (fun(x:(Unit)⊕(Unit)) e E' O'=>match x with | (.inl _p)=>e = .ret∧Mat B E' O' ([(2,(bo false))]:EL) ([]:OL) | (.inr _p)=>e = .exit 0∧Mat B E' O' ([(1,(pt 1001))]:EL) ([(1001,bd 61 (D4 a0))]:OL)) hx23 (mp [] _ _ hB) (fun s4 y h => ?_) (fun e E' O' hR => ?_)
  ·unfold P1 at h
   refine sr (SQ tt) ?_
   apply seq
   apply AWp.cond rfl<;>intro hg17
   ·have h:=A5 hg17 h
    apply AWp.skip
    apply A0
    apply seq
    apply block
    obtain⟨_,hx18,h⟩:=bindS h
    obtain⟨x19,hx19,h⟩:=bindS h
    refine sr (SQ (fa hx18 (fa hx19 tt))) ?_
    obtain⟨r20,hr20,h⟩:=bindS h
    refine sr (SQ (fa (cl [] (A4f x19 r20 hr20)) tt)) ?_
    apply AWp.cond rfl<;>intro hg21
    ·have h:=A5 hg21 h
     refine sr (SQ tt) ?_
     apply ret
     apply D7
     apply B9
     obtain rfl:=oi h
     exact⟨(fun hc=>by cases hc),rfl,(mp [] _ _ hB)⟩
    ·have h:=A6 hg21 h
     apply AWp.skip
     apply E4
     apply A0
     refine rg (SQ tt) ?_
     obtain rfl:=oi h
     exact⟨rfl,(mp [] _ _ hB)⟩
   ·have h:=A6 hg17 h
    apply AWp.exit
    apply E5
    obtain rfl:=oi h
    exact⟨(fun hc=>by cases hc),rfl,(mp [] _ _ hB)⟩
  ·rcases x22 with _ | _
   ·obtain⟨rfl,hmat⟩:=hR
    apply D7
    apply B9
    obtain rfl:=oi h
    exact rt (Mat.trans hmat (mp [] [(2,(bo false))] [] hB)) [(bo false)] (rT rN) rfl
   ·obtain⟨rfl,hmat⟩:=hR
    apply C6
    apply A0
    refine ghost hmat ?_
    apply seq
    apply seq
    refine AWp.cut h (fun m27:Bool=>([(1,(pt 1001)),(44,(bo m27))]:EL)) (fun m27:Bool=>([(1001,bd 61 (D4 a0))]:OL)) (fun m27 h E' O' hmat => ?_) (fun j28 hjj28 h => ?_)
    ·apply A0
     refine ghost hmat ?_
     apply AWp.cond rfl<;>intro hg29
     ·have h:=A5 hg29 h
      refine sr (SQ tt) ?_
      apply ret
      apply B9
      obtain rfl:=oi h
      exact rt (kp [(2,_)] [] hB rfl rfl (by rfl)) [(bo false)] (rT rN) rfl
     ·have h:=A6 hg29 h
      apply AWp.skip
      apply A0
      apply seq
      refine sr (SQ tt) ?_
      apply block
      obtain⟨x60,hx61,h⟩:=bindS h
      refine lg (P2 a0) (fun s30:Int=>([(1,(pt 1001)),(46,(E0 a0.fAnnounce)),(47,(i6 (a0.fAnnounce.length:Int))),(48,(i6 s30))]:EL)) (fun s30:Int=>([(1001,bd 61 (D4 a0))]:OL)) (fun(x:(Unit)⊕(Unit)) e E' O'=>match x with | (.inl _p)=>e = .ret∧Mat B E' O' ([(2,(bo false))]:EL) ([]:OL) | (.inr _p)=>e = .exit 2∧Mat B E' O' ([(1,(pt 1001))]:EL) ([(1001,bd 61 (D4 a0))]:OL)) hx61 (mp [] _ _ hB) (fun s30 y h => ?_) (fun e E' O' hR => ?_)
      ·unfold P2 at h
       refine sr (SQ tt) ?_
       apply seq
       apply AWp.cond rfl<;>intro hg51
       ·have h:=A5 hg51 h
        apply AWp.skip
        apply A0
        apply seq
        apply block
        obtain⟨x52,hx52,h⟩:=bindS h
        refine sr (SQ (fa hx52 tt)) ?_
        apply seq
        refine AWp.cut h (fun m55:Bool=>([(1,(pt 1001)),(46,(E0 a0.fAnnounce)),(47,(i6 (a0.fAnnounce.length:Int))),(48,(i6 s30)),(78,(bo m55))]:EL)) (fun m55:Bool=>([(1001,bd 61 (D4 a0))]:OL)) (fun m55 h E' O' hmat => ?_) (fun j56 hjj56 h => ?_)
        ·apply A0
         refine ghost hmat ?_
         apply AWp.cond rfl<;>intro hg57
         ·have h:=A5 hg57 h
          refine sr (SQ tt) ?_
          apply ret
          apply D7
          apply B9
          obtain rfl:=oi h
          exact⟨(fun hc=>by cases hc),rfl,(mp [] _ _ hB)⟩
         ·have h:=A6 hg57 h
          apply AWp.skip
          apply E4
          apply A0
          refine rg (SQ tt) ?_
          obtain rfl:=oi h
          exact⟨rfl,(mp [] _ _ hB)⟩
        ·rcases bft (((x52.fAddr.fV6 != a0.fAttrs.fNext.fV6) || (a0.fAttrs.fOrigin==(-1))) || ((a0.fAttrs.fNext.fV6==false)&&((a0.fAttrs.fNext.fHi==0)&&((a0.fAttrs.fNext.fLo==0)&&true)))) with hg58 | hg58
         ·have h:=A5 hg58 h
          refine rg (SQ (fa hg58 tt)) ?_
          exact hjj56 _ h _ _ (mp [] _ _ hB)
         ·have h:=A6 hg58 h
          obtain⟨r59,hr59,h⟩:=bindS h
          refine rg (SQ (fa hg58 (fa (cl [] (A4h a0.fAttrs r59 hr59)) tt))) ?_
          exact hjj56 _ h _ _ (mp [] _ _ hB)
       ·have h:=A6 hg51 h
        apply AWp.exit
        apply E5
        obtain rfl:=oi h
        exact⟨(fun hc=>by cases hc),rfl,(mp [] _ _ hB)⟩
      ·rcases x60 with _ | _
       ·obtain⟨rfl,hmat⟩:=hR
        apply D7
        apply B9
        obtain rfl:=oi h
        exact rt (Mat.trans hmat (mp [] [(2,(bo false))] [] hB)) [(bo false)] (rT rN) rfl
       ·obtain⟨rfl,hmat⟩:=hR
        apply C6
        apply A0
        refine ghost hmat ?_
        obtain⟨r62,hr62,h⟩:=bindS h
        refine sr (SQ (fa (cl [] (A7z a0 r62 hr62)) tt)) ?_
        refine sr (SQ tt) ?_
        apply ret
        obtain rfl:=oi h
        exact rt (kp [(2,_)] [] hB rfl rfl (by rfl)) [(bo ((r62.2==0)&&(decide ((r62.1.length:Int)≤4077))))] (rT rN) rfl
    ·rcases bft ((a0.fAnnounce.length:Int)==0) with hg63 | hg63
     ·have h:=A5 hg63 h
      obtain⟨r64,hr64,h⟩:=bindS h
      obtain⟨r65,hr65,h⟩:=bindS h
      refine drS (SQ (fa hg63 (fa (cl [] (A25 r64 hr64)) (fa (cl [] (A8z a0.fAttrs r64 r65 hr65)) tt)))) ?_
      exact hjj28 _ h _ _ (mp [] _ _ hB)
     ·have h:=A6 hg63 h
      refine drS (SQ (fa hg63 tt)) ?_
      exact hjj28 _ h _ _ (mp [] _ _ hB)
def A1x (a0:C2):Option (Bool) :=
 (Y4 a0.fPrefix).bind fun r1 =>
 (if (!r1)=true then
 some false
 else
 jn (fun m6:Bool =>
 some m6) (fun j7 =>
 (if (!a0.fHas)=true then
 j7 true
 else
 (if (((a0.fRoute.fPrefix.fAddr.fV6==a0.fPrefix.fAddr.fV6)&&((a0.fRoute.fPrefix.fAddr.fHi==a0.fPrefix.fAddr.fHi)&&((a0.fRoute.fPrefix.fAddr.fLo==a0.fPrefix.fAddr.fLo)&&true)))&&((a0.fRoute.fPrefix.fLen==a0.fPrefix.fLen)&&true))=true then
 (L5 (A7.mk ([]:List A2) a0.fRoute.fAttrs [a0.fPrefix])).bind fun r10 =>
 j7 r10
 else
 j7 false))))
theorem A2x (a0:C2) (r:Bool) (h:A1x a0=some r):AC Tryz.prog 34 [(.d (D6 a0))] [] (.d (.bool r)) []:=by
 refine ac2 Tryz.func34 rfl rfl fun B hB hN L => ?_
 delta A1x at h
 refine sr (SQ tt) ?_
 apply seq
 obtain⟨r1,hr1,h⟩:=bindS h
 refine sr (SQ (fa (cl [] (A4f a0.fPrefix r1 hr1)) tt)) ?_
 apply AWp.cond rfl<;>intro hg2
 ·have h:=A5 hg2 h
  refine sr (SQ tt) ?_
  apply ret
  apply B9
  obtain rfl:=oi h
  exact rt (kp [(2,_)] [] hB rfl rfl (by rfl)) [(bo false)] (rT rN) rfl
 ·have h:=A6 hg2 h
  apply AWp.skip
  apply A0
  apply seq
  refine AWp.cut h (fun m6:Bool=>([(2,(bo m6))]:EL)) (fun m6:Bool=>([]:OL)) (fun m6 h E' O' hmat => ?_) (fun j7 hjj7 h => ?_)
  ·apply A0
   refine ghost hmat ?_
   apply ret
   obtain rfl:=oi h
   exact rt (kp [(2,_)] [] hB rfl rfl (by rfl)) [(bo m6)] (rT rN) rfl
  ·rcases bft (!a0.fHas) with hg8 | hg8
   ·have h:=A5 hg8 h
    refine rg (SQ (fa hg8 tt)) ?_
    exact hjj7 _ h _ _ (mp [] _ _ hB)
   ·have h:=A6 hg8 h
    rcases bft (((a0.fRoute.fPrefix.fAddr.fV6==a0.fPrefix.fAddr.fV6)&&((a0.fRoute.fPrefix.fAddr.fHi==a0.fPrefix.fAddr.fHi)&&((a0.fRoute.fPrefix.fAddr.fLo==a0.fPrefix.fAddr.fLo)&&true)))&&((a0.fRoute.fPrefix.fLen==a0.fPrefix.fLen)&&true)) with hg9 | hg9
    ·have h:=A5 hg9 h
     obtain⟨r10,hr10,h⟩:=bindS h
     refine rg (SQ (fa hg8 (fa hg9 (fa (cl [] (A4i (A7.mk ([]:List A2) a0.fRoute.fAttrs [a0.fPrefix]) r10 hr10)) tt)))) ?_
     exact hjj7 _ h _ _ (mp [] _ _ hB)
    ·have h:=A6 hg9 h
     refine rg (SQ (fa hg8 (fa hg9 tt))) ?_
     exact hjj7 _ h _ _ (mp [] _ _ hB)
def G0 (a0:(List A7)) (a1:A7) (a2:A2) (a3:Bool):Option ((List A7)) :=
 jn (fun _:Unit =>
 chk (decide ((a0++[a1]).length≤LIM)) <|
 some (a0++[a1])) (fun j19 =>
 (if (!a3)=true then
 (idx a0 (w64 ((a0.length:Int)-1))).bind fun _ =>
 (idx a0 (w64 ((a0.length:Int)-1))).bind fun x23 =>
 chk (decide (x23.fWithdraw.length≤LIM)) <|
 chk (decide (x23.fAnnounce.length≤LIM)) <|
 jn (fun m29:(List A2)×(List A2) =>
 (L5 (A7.mk m29.2 x23.fAttrs m29.1)).bind fun r31 =>
 (if r31=true then
 (idx a0 (w64 ((a0.length:Int)-1))).bind fun _ =>
 (idx a0 (w64 ((a0.length:Int)-1))).bind fun _ =>
 some (a0.set (w64 ((a0.length:Int)-1)).toNat (A7.mk m29.2 x23.fAttrs m29.1))
 else
 j19 ())) (fun j30 =>
 (if (decide (0<(x23.fWithdraw.length:Int)))=true then
 chk (decide ((x23.fWithdraw++[a2]).length≤LIM)) <|
 j30 (x23.fAnnounce,(x23.fWithdraw++[a2]))
 else
 chk (decide ((x23.fAnnounce++[a2]).length≤LIM)) <|
 j30 ((x23.fAnnounce++[a2]),x23.fWithdraw)))
 else
 j19 ()))
theorem A2y (a0:(List A7)) (a1:A7) (a2:A2) (a3:Bool) (r:(List A7)) (h:G0 a0 a1 a2 a3=some r):AC Tryz.prog 36 [(.sref 0 13 0 a0.length),(.d (D4 a1)),(.d (B3 a2)),(.d (.bool a3))] [(0,(.row 61 13 (a0.map D4)))] (.sref 900000 13 0 r.length) [(0,none),(900000,some (.row 61 13 (r.map D4)))]:=by
 refine ac2 Tryz.func36 rfl rfl fun B hB hN L => ?_
 delta G0 at h
 refine sr (SQ tt) ?_
 apply seq
 refine sr (SQ tt) ?_
 refine gh [(0,_),(5,_),(6,_),(11,_)] [(0,some _),(1005,some _),(1006,some _)] hB rfl rfl (by rfl) ?_
 refine AWp.cut h (fun _:Unit=>([(0,(.sref 0 13 0 a0.length)),(5,(pt 1005))]:EL)) (fun _:Unit=>([(0,some (C7 a0)),(1005,bd 61 (D4 a1))]:OL)) (fun _m h E' O' hmat => ?_) (fun j19 hjj19 h => ?_)
 ·apply A0
  refine ghost hmat ?_
  obtain⟨hc20,h⟩:=C0 h
  have hc20_o:=hc20
  simp only [decide_eq_true_eq] at hc20_o
  refine sr (SQ (fa hc20 tt)) ?_
  apply ret
  obtain rfl:=oi h
  exact rt (mp [(900000,1054)] [(8,(.sref 900000 13 0 ((a0++[a1]).length)))] [(900000,some (C7 (a0++[a1])))] hB) [(.sref 900000 13 0 ((a0++[a1]).length))] (rT rN) rfl
 ·apply AWp.cond rfl<;>intro hg21
  ·have h:=A5 hg21 h
   obtain⟨_,hx22,h⟩:=bindS h
   obtain⟨x23,hx23,h⟩:=bindS h
   refine sr (SQ (fa hx22 (fa hx23 tt))) ?_
   obtain⟨hc24,h⟩:=C0 h
   have hc24_o:=hc24
   simp only [decide_eq_true_eq] at hc24_o
   obtain⟨hc25,h⟩:=C0 h
   have hc25_o:=hc25
   simp only [decide_eq_true_eq] at hc25_o
   refine sdS (SQ (fa hc24 (fa hc25 tt))) ?_
   apply seq
   refine sr (SQ tt) ?_
   refine gh [(0,_),(5,_),(6,_),(9,_),(29,_)] [(0,some _),(1005,some _),(1006,some _),(1009,some _),(1020,some _),(1023,some _)] hB rfl rfl (by rfl) ?_
   refine AWp.cut h (fun m29:(List A2)×(List A2)=>([(0,(.sref 0 13 0 a0.length)),(5,(pt 1005)),(9,(pt 1009))]:EL)) (fun m29:(List A2)×(List A2)=>([(0,some (C7 a0)),(1005,bd 61 (D4 a1)),(1009,some (.box 61 (.st [(.sref 13090 4 0 m29.2.length),(.d (A3 x23.fAttrs)),(.sref 13092 4 0 m29.1.length)]))),(13090,some (I2 m29.2)),(13092,some (I2 m29.1))]:OL)) (fun m29 h E' O' hmat => ?_) (fun j30 hjj30 h => ?_)
   ·apply A0
    refine ghost hmat ?_
    apply seq
    refine ghost (Mat.freezeP (n:=13090) (e:=29) (sz:=4) (es:=m29.2.map B3) (Ts:=[]) (Bs:=[(1009,some (.box 61 (.st [(E0 m29.2),(.d (A3 x23.fAttrs)),(.sref 13092 4 0 m29.1.length)])))]) (by rfl) TwT.nil (TwB.cons (x:=(.st [(.sref 13090 4 0 m29.2.length),(.d (A3 x23.fAttrs)),(.sref 13092 4 0 m29.1.length)])) (by rfl) (Tw.st (TwL.cons (FrzL.all (by first | rfl | (simp;done) | (simp;omega) | omega)) (TwL.cons (Tw.same _) (TwL.cons (Tw.same _) TwL.nil)))) TwB.nil)) ?_
    refine ghost (Mat.freezeP (n:=13092) (e:=29) (sz:=4) (es:=m29.1.map B3) (Ts:=[]) (Bs:=[(1009,some (.box 61 (.st [(E0 m29.2),(.d (A3 x23.fAttrs)),(E0 m29.1)])))]) (by rfl) TwT.nil (TwB.cons (x:=(.st [(E0 m29.2),(.d (A3 x23.fAttrs)),(.sref 13092 4 0 m29.1.length)])) (by rfl) (Tw.st (TwL.cons (Tw.same _) (TwL.cons (Tw.same _) (TwL.cons (FrzL.all (by first | rfl | (simp;done) | (simp;omega) | omega)) TwL.nil)))) TwB.nil)) ?_
    obtain⟨r31,hr31,h⟩:=bindS h
    refine rg (SQ (fa (cl [] (A4i (A7.mk m29.2 x23.fAttrs m29.1) r31 hr31)) tt)) ?_
    apply A0
    apply AWp.cond rfl<;>intro hg32
    ·have h:=A5 hg32 h
     obtain⟨_,hx33,h⟩:=bindS h
     obtain⟨_,hx34,h⟩:=bindS h
     apply sr (c (mv hN (q 0)) rfl (c (mv hN (q 0)) rfl (c (lenS underlying47 (L rfl) (q 45)) rfl (c (sub6 (L rfl) (q 46) (ii 1)) rfl (c (lb hN 61 _ _ tyS61 (At.here _) (q 9)) rfl (c (OpJ.val (v':=(.ptr 0 ((w64 ((a0.length:Int)-1)).toNat*13) [(w64 ((a0.length:Int)-1)).toNat])) (by simp) (indexS underlying47 tyS61 (B5 hx33).1 (by have:=A6m hx33;first | (simpa using this) | ((try simp only [List.length_map] at this);(try simp only [List.length_map]);omega)) (L rfl) (q 44) (q 47))) rfl (cg (OpJ.storeR (e:=61) (sz:=13) (es':=(a0.set (w64 ((a0.length:Int)-1)).toNat (A7.mk m29.2 x23.fAttrs m29.1)).map D4) tyS61 (F0 D4 (B5 hx34).2) (o:=0) (SetAt.here _ _) (by rfl) (A66 _ _ _ _) (by rfl) (by rfl) (q 49) (Opd.co (Co.st (CoL.cons (Co.d _) (CoL.cons (Co.d _) (CoL.cons (Co.d _) CoL.nil)))) (q 48))) rfl cn)))))))
     refine sr (SQ tt) ?_
     apply ret
     apply B9
     obtain rfl:=oi h
     exact rt (Mat.trans (Mat.lenP (Ts:=[(8,(.sref 0 13 0 ((a0.set (w64 ((a0.length:Int)-1)).toNat (A7.mk m29.2 x23.fAttrs m29.1)).length)))]) (Bs:=[]) (TwT.cons (x:=(.sref 0 13 0 a0.length)) (by rfl) (Tw.leaf ⟨_,_,_,_,_,rfl,rfl,(by first | rfl | (simp;done) | (simp;omega) | omega)⟩) TwT.nil) TwB.nil) (mp [(900000,0)] [(8,(.sref 900000 13 0 ((a0.set (w64 ((a0.length:Int)-1)).toNat (A7.mk m29.2 x23.fAttrs m29.1)).length)))] [(900000,some (C7 (a0.set (w64 ((a0.length:Int)-1)).toNat (A7.mk m29.2 x23.fAttrs m29.1))))] hB)) [(.sref 900000 13 0 ((a0.set (w64 ((a0.length:Int)-1)).toNat (A7.mk m29.2 x23.fAttrs m29.1)).length))] (rT rN) rfl
    ·have h:=A6 hg32 h
     apply AWp.skip
     exact hjj19 _ h _ _ (mp [] _ _ hB)
   ·apply AWp.cond rfl<;>intro hg35
    ·have h:=A5 hg35 h
     obtain⟨hc36,h⟩:=C0 h
     have hc36_o:=hc36
     simp only [decide_eq_true_eq] at hc36_o
     refine rg (SQ (fa hc36 tt)) ?_
     exact hjj30 _ h _ _ (mp [(13090,1034),(13092,1023)] _ _ hB)
    ·have h:=A6 hg35 h
     obtain⟨hc37,h⟩:=C0 h
     have hc37_o:=hc37
     simp only [decide_eq_true_eq] at hc37_o
     refine rg (SQ (fa hc37 tt)) ?_
     exact hjj30 _ h _ _ (mp [(13090,1020),(13092,1040)] _ _ hB)
  ·have h:=A6 hg21 h
   apply AWp.skip
   exact hjj19 _ h _ _ (mp [] _ _ hB)
def R6 (a0:(List C2)) (s1:Int):Option (((Unit)⊕(Unit))⊕(Int)) :=
 (if (decide (s1<(a0.length:Int)))=true then
 (idx a0 s1).bind fun x37 =>
 jn (fun m44:Bool =>
 (if m44=true then
 some (.inl (.inl ()))
 else
 some (.inr (w64 (s1+1))))) (fun j45 =>
 (A1x x37).bind fun r47 =>
 (if (!r47)=true then
 j45 true
 else
 (if (decide (0<s1))=true then
 (idx a0 (w64 (s1-1))).bind fun x50 =>
 (A2t x50.fPrefix x37.fPrefix).bind fun r51 =>
 j45 (decide (0≤r51))
 else
 j45 false)))
 else
 some (.inl (.inr ())))
def R7 (a0:(List C2)) (s54:Int×(List A7)):Option ((((List A7)))⊕(Int×(List A7))) :=
 (if (decide (s54.1<(a0.length:Int)))=true then
 (idx a0 s54.1).bind fun x77 =>
 jn (fun m81:(List A7) =>
 some (.inr ((w64 (s54.1+1)),m81))) (fun j82 =>
 (if (!x77.fHas)=true then
 (Y3).bind fun r84 =>
 (G0 s54.2 (A7.mk [x77.fPrefix] r84 ([]:List A2)) x77.fPrefix ((s54.2.length:Int)==0)).bind fun r85 =>
 j82 r85
 else
 j82 s54.2))
 else
 some (.inl s54.2))
def R8 (a0:(List C2)) (x475:C2) (s482:Bool×Int×(List Bool)×(List A7)):Option ((((List Bool)×(List A7)))⊕(Bool×Int×(List Bool)×(List A7))) :=
 (if (decide (s482.2.1<(a0.length:Int)))=true then
 (idx a0 s482.2.1).bind fun x525 =>
 jn (fun m528:Bool =>
 jn (fun m535:Bool×(List Bool)×(List A7) =>
 some (.inr (m535.1,(w64 (s482.2.1+1)),m535.2.1,m535.2.2))) (fun j536 =>
 (if m528=true then
 (N2 x525.fRoute.fAttrs).bind fun r538 =>
 (G0 s482.2.2.2 (A7.mk ([]:List A2) r538 [x525.fPrefix]) x525.fPrefix s482.1).bind fun r539 =>
 (idx s482.2.2.1 s482.2.1).bind fun _ =>
 (idx s482.2.2.1 s482.2.1).bind fun _ =>
 j536 (false,(s482.2.2.1.set s482.2.1.toNat true),r539)
 else
 j536 (s482.1,s482.2.2.1,s482.2.2.2)))) (fun j529 =>
 (if x525.fHas=true then
 (G7 x525.fRoute.fAttrs x475.fRoute.fAttrs).bind fun r543 =>
 j529 r543
 else
 j529 false))
 else
 some (.inl (s482.2.2.1,s482.2.2.2)))
def X2 (a0:(List C2)) (s89:Int×(List Bool)×(List A7)):Option ((((List A7)))⊕(Int×(List Bool)×(List A7))) :=
 (if (decide (s89.1<(a0.length:Int)))=true then
 jn (fun m473:(List Bool)×(List A7) =>
 some (.inr ((w64 (s89.1+1)),m473.1,m473.2))) (fun j474 =>
 (idx a0 s89.1).bind fun x475 =>
 jn (fun m479:Bool =>
 (if m479=true then
 j474 (s89.2.1,s89.2.2)
 else
 (loop (R8 a0 x475) (true,s89.1,s89.2.1,s89.2.2)).bind fun p523 =>
 j474 (p523.1,p523.2))) (fun j480 =>
 (if (!x475.fHas)=true then
 j480 true
 else
 (idx s89.2.1 s89.1).bind fun _ =>
 (idx s89.2.1 s89.1).bind fun x548 =>
 j480 x548)))
 else
 some (.inl s89.2.2))
def A1y (a0:(List C2)):Option ((List A7)×Int) :=
 (loop (R6 a0) 0).bind fun x52=>match x52 with
 | (.inl _) =>
  some (([]:List A7),1)
 | (.inr _) =>
  (loop (R7 a0) (0,([]:List A7))).bind fun p75 =>
  chk ((decide (0≤(a0.length:Int))&&decide ((a0.length:Int)≤(a0.length:Int))&&decide ((a0.length:Int)≤(LIM:Int)))) <|
  (loop (X2 a0) (0,(List.replicate (a0.length:Int).toNat false),p75)).bind fun p396 =>
  some (p396,0)
theorem A92 (a0:(List C2)) (r:(List A7)×Int) (h:A1y a0=some r):AC Tryz.prog 13 [(.d (.list 22 (a0.map D6)))] [] (.tup [(.d (.list 13 (r.1.map D4))),(.d (.int .i64 r.2))]) []:=by
 refine ac2 Tryz.func13 rfl rfl fun B hB hN L => ?_
 delta A1y at h
 apply sr (c (assign (L rfl) Opd.nils) rfl (c (assign (L rfl) (ii 0)) rfl cn))
 apply seq
 apply sr (c (mv hN (q 0)) rfl (c (OpJ.val (v':=(i6 (a0.length:Int))) (by simp) (lenD underlying22 (L rfl) (q 15))) rfl (c (mv hN (ii 0)) rfl cn)))
 apply block
 obtain⟨x52,hx53,h⟩:=bindS h
 refine lg (R6 a0) (fun s1:Int=>([(0,(C3 a0)),(15,(C3 a0)),(16,(i6 (a0.length:Int))),(17,(i6 s1))]:EL)) (fun s1:Int=>([]:OL)) (fun(x:(Unit)⊕(Unit)) e E' O'=>match x with | (.inl _p)=>e = .ret∧Mat B E' O' ([(2,.nils),(3,(i6 1))]:EL) ([]:OL) | (.inr _p)=>e = .exit 0∧Mat B E' O' ([(0,(C3 a0))]:EL) ([]:OL)) hx53 (mp [] _ _ hB) (fun s1 y h => ?_) (fun e E' O' hR => ?_)
 ·unfold R6 at h
  apply sr (c (lss (L rfl) (q 17) (q 16)) rfl cn)
  apply seq
  apply AWp.cond rfl<;>intro hg36
  ·have h:=A5 hg36 h
   apply AWp.skip
   apply A0
   apply seq
   apply block
   obtain⟨x37,hx37,h⟩:=bindS h
   apply sr (c (mv hN (q 17)) rfl (c (indexD underlying22 tyS39 (B5 hx37).1 (F0 D6 (B5 hx37).2) (L rfl) (q 15) (q 17)) rfl (c (loadD tyS39 (by rfl) (by rfl) (L rfl) (q 20)) rfl (cg (alloc hB tyZ39 (nm:=1005) (by decide) (L rfl)) rfl (c (assign (L rfl) (q 19)) rfl (cg (sB tyS39 (q 5) (q 21)) rfl cn))))))
   apply seq
   refine AWp.cut h (fun m44:Bool=>([(0,(C3 a0)),(15,(C3 a0)),(16,(i6 (a0.length:Int))),(17,(i6 s1)),(40,(bo m44))]:EL)) (fun m44:Bool=>([]:OL)) (fun m44 h E' O' hmat => ?_) (fun j45 hjj45 h => ?_)
   ·apply A0
    refine ghost hmat ?_
    apply AWp.cond rfl<;>intro hg46
    ·have h:=A5 hg46 h
     apply sr (c (assign (L rfl) Opd.nils) rfl (c (assign (L rfl) (ii 1)) rfl cn))
     apply ret
     apply D7
     apply B9
     obtain rfl:=oi h
     exact⟨(fun hc=>by cases hc),rfl,(mp [] _ _ hB)⟩
    ·have h:=A6 hg46 h
     apply AWp.skip
     apply E4
     apply A0
     apply rg (c (add6 (L rfl) (q 17) (ii 1)) rfl (c (mv hN (q 41)) rfl cn))
     obtain rfl:=oi h
     exact⟨rfl,(mp [] _ _ hB)⟩
   ·obtain⟨r47,hr47,h⟩:=bindS h
    rcases bft (!r47) with hg48 | hg48
    ·have h:=A5 hg48 h
     apply dr (c (lb hN 39 _ _ tyS39 (At.here _) (q 5)) rfl (cg (cf hB fnOk34 (A2x x37 r47 hr47) (L rfl) (OpdL.cons (q 22) OpdL.nil)) rfl (c (OpJ.not (L rfl) (q 23)) rfl (c (OpJ.val (v':=.d (.bool true)) (by rw [hg48]<;>rfl) (mv hN (q 24))) rfl (ks 25 (L rfl) (ks 25 (L rfl) (ks 25 (L rfl) (cg (sV 28 (L rfl)) rfl (cg (sV 28 (L rfl)) rfl (cg (sV 28 (L rfl)) rfl (cg (sV 28 (L rfl)) rfl (cg (sV 28 (L rfl)) rfl (cg (sV 28 (L rfl)) rfl (cg (sV 28 (L rfl)) rfl (cg (sV 28 (L rfl)) rfl (cg (sV 28 (L rfl)) rfl (cg (sV 28 (L rfl)) rfl (ks 25 (L rfl) (c (pickT (L rfl) (q 25) (Opd.bool true)) rfl cn))))))))))))))))))) (by kernel_rfl) (by kernel_rfl)
     exact hjj45 _ h _ _ (mp [] _ _ hB)
    ·have h:=A6 hg48 h
     rcases bft (decide (0<s1)) with hg49 | hg49
     ·have h:=A5 hg49 h
      obtain⟨x50,hx50,h⟩:=bindS h
      obtain⟨r51,hr51,h⟩:=bindS h
      apply dr (c (lb hN 39 _ _ tyS39 (At.here _) (q 5)) rfl (cg (cf hB fnOk34 (A2x x37 r47 hr47) (L rfl) (OpdL.cons (q 22) OpdL.nil)) rfl (c (OpJ.not (L rfl) (q 23)) rfl (c (OpJ.val (v':=.d (.bool false)) (by rw [hg48]<;>rfl) (mv hN (q 24))) rfl (c (gd 25 (mv hN (q 4))) rfl (c (gd 25 (gtr (L rfl) (q 26) (ii 0))) rfl (c (gd 25 (OpJ.val (v':=.d (.bool true)) (by rw [hg49]<;>rfl) (mv hN (q 27)))) rfl (c (gd 28 (mv hN (q 0))) rfl (c (gd 28 (mv hN (q 4))) rfl (c (gd 28 (sub6 (L rfl) (q 30) (ii 1))) rfl (c (gd 28 (indexD underlying22 tyS39 (B5 hx50).1 (F0 D6 (B5 hx50).2) (L rfl) (q 29) (q 31))) rfl (c (gd 28 (fieldD underlying39 (by rfl) (o:=1) (by rfl) tyS29 (by decide) (by rfl) (by rfl) (L rfl) (q 32))) rfl (c (gd 28 (loadD tyS29 (by rfl) (by rfl) (L rfl) (q 33))) rfl (c (gd 28 (fo 1005 1 [1] hN underlying39 1 tyS29 (q 5))) rfl (c (gd 28 (la hN 39 tyS29 (q 35))) rfl (cg (gd 28 (cf hB fnOk35 (A9n x50.fPrefix x37.fPrefix r51 hr51) (L rfl) (OpdL.cons (q 34) (OpdL.cons (q 36) OpdL.nil)))) rfl (c (gd 28 (geq (L rfl) (q 37) (ii 0))) rfl (c (gd 25 (pickT (L rfl) (q 28) (q 38))) rfl (c (pickF (L rfl) (q 25) (q 39)) rfl cn))))))))))))))))))) (by kernel_rfl) (by kernel_rfl)
      exact hjj45 _ h _ _ (mp [] _ _ hB)
     ·have h:=A6 hg49 h
      apply dr (c (lb hN 39 _ _ tyS39 (At.here _) (q 5)) rfl (cg (cf hB fnOk34 (A2x x37 r47 hr47) (L rfl) (OpdL.cons (q 22) OpdL.nil)) rfl (c (OpJ.not (L rfl) (q 23)) rfl (c (OpJ.val (v':=.d (.bool false)) (by rw [hg48]<;>rfl) (mv hN (q 24))) rfl (c (gd 25 (mv hN (q 4))) rfl (c (gd 25 (gtr (L rfl) (q 26) (ii 0))) rfl (c (gd 25 (OpJ.val (v':=.d (.bool false)) (by rw [hg49]<;>rfl) (mv hN (q 27)))) rfl (ks 28 (L rfl) (ks 28 (L rfl) (ks 28 (L rfl) (ks 28 (L rfl) (ks 28 (L rfl) (ks 28 (L rfl) (ks 28 (L rfl) (ks 28 (L rfl) (ks 28 (L rfl) (ks 28 (L rfl) (c (gd 25 (pickF (L rfl) (q 28) (Opd.bool false))) rfl (c (pickF (L rfl) (q 25) (q 39)) rfl cn))))))))))))))))))) (by kernel_rfl) (by kernel_rfl)
      exact hjj45 _ h _ _ (mp [] _ _ hB)
  ·have h:=A6 hg36 h
   apply AWp.exit
   apply E5
   obtain rfl:=oi h
   exact⟨(fun hc=>by cases hc),rfl,(mp [] _ _ hB)⟩
 ·rcases x52 with _ | _
  ·obtain⟨rfl,hmat⟩:=hR
   apply D7
   apply B9
   obtain rfl:=oi h
   exact rt (Mat.trans hmat (Mat.trans (Mat.coeP (Ts:=[(2,(E7 ([]:List A7)))]) (Bs:=[]) (TwT.cons (x:=.nils) (by rfl) (Tw.leaf ⟨_,(Co.nils 13),rfl⟩) TwT.nil) TwB.nil) (mp [] [(2,(E7 ([]:List A7))),(3,(i6 1))] [] hB))) [(E7 ([]:List A7)),(i6 1)] (rT (rT rN)) rfl
  ·obtain⟨rfl,hmat⟩:=hR
   apply C6
   apply A0
   refine ghost hmat ?_
   apply sr (c (assign (L rfl) Opd.nils) rfl cn)
   apply seq
   apply sr (c (mv hN (q 0)) rfl (c (OpJ.val (v':=(i6 (a0.length:Int))) (by simp) (lenD underlying22 (L rfl) (q 42))) rfl (c (mv hN (ii 0)) rfl cn)))
   apply block
   obtain⟨p75,hx87,h⟩:=bindS h
   refine lg (R7 a0) (fun s54:Int×(List A7)=>([(0,(C3 a0)),(6,(.sref 3006 13 0 s54.2.length)),(42,(C3 a0)),(43,(i6 (a0.length:Int))),(44,(i6 s54.1))]:EL)) (fun s54:Int×(List A7)=>([(3006,some (C7 s54.2))]:OL)) (fun(p75:((List A7))) e E' O'=>e = .exit 2∧Mat B E' O' ([(0,(C3 a0)),(6,(.sref 3006 13 0 p75.length))]:EL) ([(3006,some (C7 p75))]:OL)) hx87 (Mat.trans (Mat.beginP (n:=3006) (e:=61) (sz:=13) (Ts:=[(6,(.sref 3006 13 0 0))]) (Bs:=[]) hB (by decide) (by rfl) (by decide) (TwT.cons (x:=.nils) (by rfl) (Tw.leaf ⟨rfl,rfl⟩) TwT.nil) TwB.nil) (mp [] _ _ hB)) (fun s54 y h => ?_) (fun e E' O' hR => ?_)
   ·unfold R7 at h
    apply sr (c (lss (L rfl) (q 44) (q 43)) rfl cn)
    apply seq
    apply AWp.cond rfl<;>intro hg76
    ·have h:=A5 hg76 h
     apply AWp.skip
     apply A0
     apply seq
     apply block
     obtain⟨x77,hx77,h⟩:=bindS h
     apply sr (c (indexD underlying22 tyS39 (B5 hx77).1 (F0 D6 (B5 hx77).2) (L rfl) (q 42) (q 44)) rfl (c (loadD tyS39 (by rfl) (by rfl) (L rfl) (q 46)) rfl (cg (alloc hB tyZ39 (nm:=1008) (by decide) (L rfl)) rfl (cg (sB tyS39 (q 8) (q 47)) rfl cn))))
     apply sr (c (fo 1008 5 [2] hN underlying39 5 tyS4 (q 8)) rfl (c (la hN 39 tyS4 (q 48)) rfl (c (OpJ.not (L rfl) (q 49)) rfl cn)))
     refine gh [(0,_),(6,_),(8,_),(42,_),(43,_),(44,_),(50,_)] [(1008,some _),(3006,some _)] hB rfl rfl (by rfl) ?_
     refine AWp.cut h (fun m81:(List A7)=>([(0,(C3 a0)),(6,(.sref 3006 13 0 m81.length)),(42,(C3 a0)),(43,(i6 (a0.length:Int))),(44,(i6 s54.1))]:EL)) (fun m81:(List A7)=>([(3006,some (C7 m81))]:OL)) (fun m81 h E' O' hmat => ?_) (fun j82 hjj82 h => ?_)
     ·apply E4
      apply A0
      refine ghost hmat ?_
      apply rg (c (add6 (L rfl) (q 44) (ii 1)) rfl (c (mv hN (q 63)) rfl cn))
      obtain rfl:=oi h
      exact⟨rfl,(mp [] _ _ hB)⟩
     ·apply AWp.cond rfl<;>intro hg83
      ·have h:=A5 hg83 h
       obtain⟨r84,hr84,h⟩:=bindS h
       obtain⟨r85,hr85,h⟩:=bindS h
       refine AWp.draws (by kernel_rfl) (oc (mv hN (ot 6 (.sref 3006 13 0 s54.2.length)))
        (oc (cf hB fnOk25 (A25  r84 hr84) (L rfl) OpdL.nil)
        (oc (ov (.ptr 1008 1 [1]) (fp hN underlying39 1 tyS29 (.box 39 (.d (D6 x77))) (ot 8 (pt 1008))))
        (oc (lb hN 39 (.d (D6 x77)) (.d (B3 x77.fPrefix)) tyS29 (ad (B3 x77.fPrefix)) (ot 53 (.ptr 1008 1 [1])))
        (oc (buildSlice underlying59 tyS29 tyZD29 (by rfl) (by decide) (by decide) (Opds.cons (ot 54 (.d (B3 x77.fPrefix))) Opds.nil) (by kernel_rfl) (es:=([(B3 x77.fPrefix)]:List D)) (by rfl) (by rfl) (by kernel_rfl) (by simp) (L rfl))
        (oc (OpJ.build (places:=[(0,1),(1,11),(12,1)]) ⟨underlying61,fun w=>by kernel_rfl⟩ tyZS61 (Opds.cons (ot 52 (.d (A3 r84))) (Opds.cons (ot 55 (E0 [x77.fPrefix])) Opds.nil)) (by kernel_rfl) (r:=(.st [(E0 [x77.fPrefix]),(.d (A3 r84)),.nils])) (by rfl) (L rfl))
        (oc (ov (.ptr 1008 1 [1]) (fp hN underlying39 1 tyS29 (.box 39 (.d (D6 x77))) (ot 8 (pt 1008))))
        (oc (lb hN 39 (.d (D6 x77)) (.d (B3 x77.fPrefix)) tyS29 (ad (B3 x77.fPrefix)) (ot 57 (.ptr 1008 1 [1])))
        (oc (mv hN (ot 6 (.sref 3006 13 0 s54.2.length)))
        (oc (lenS (obj:=(C7 s54.2)) underlying47 (L rfl) (ot 59 (.sref 3006 13 0 s54.2.length)))
        (oc (eqlI (L rfl) (ot 60 (i6 (s54.2.length:Int))) (ii 0))
        (oc (OpJ.callFn hB fnOk36 (A2y s54.2 (A7.mk [x77.fPrefix] r84 ([]:List A2)) x77.fPrefix ((s54.2.length:Int)==0) r85 hr85) [(0,3006),(900000,100300)] (by kernel_rfl) (L rfl) (by kernel_rfl) (OpdL.cons (ot 51 (.sref 3006 13 0 s54.2.length)) (OpdL.cons (Opd.tw (ot 56 (.st [(E0 [x77.fPrefix]),(.d (A3 r84)),.nils])) (Tw.leaf ⟨_,(Co.st (CoL.cons (Co.d _) (CoL.cons (Co.d _) (CoL.cons (Co.nils 4) CoL.nil)))),rfl⟩)) (OpdL.cons (ot 58 (.d (B3 x77.fPrefix))) (OpdL.cons (ot 61 (bo ((s54.2.length:Int)==0))) OpdL.nil)))))
        (oc (assign (L rfl) (ot 62 (.sref 100300 13 0 r85.length)))
        (OpJs.nil)))))))))))))) (by kernel_rfl) (by rfl) (by rfl) ?_
       exact hjj82 _ h _ _ (mp [(3006,100300)] _ _ hB)
      ·have h:=A6 hg83 h
       apply AWp.skip
       exact hjj82 _ h _ _ (mp [] _ _ hB)
    ·have h:=A6 hg76 h
     apply AWp.exit
     apply E5
     obtain rfl:=oi h
     exact⟨(fun hc=>by cases hc),rfl,(mp [] _ _ hB)⟩
   ·obtain⟨rfl,hmat⟩:=hR
    apply C6
    apply A0
    refine ghost hmat ?_
    obtain⟨hc88,h⟩:=C0 h
    apply sr (c (mv hN (q 0)) rfl (c (OpJ.val (v':=(i6 (a0.length:Int))) (by simp) (lenD underlying22 (L rfl) (q 64))) rfl (cg (OpJ.make hB underlying87 tyE4 tyZD4 (by rfl) (nm:=1066) (by decide) (of_decide_eq_true (A6o (A6o hc88))) (of_decide_eq_true (A6p (A6o hc88))) (B2s (of_decide_eq_true (A6p hc88)) (by decide)) (B4e (of_decide_eq_true (A6p hc88))) (L rfl) (es:=(List.replicate (a0.length:Int).toNat false).map eB) (by rw [List.map_replicate];rfl) (len:=(List.replicate (a0.length:Int).toNat false).length) (by simp) (q 65) (q 65)) rfl (c (assign (L rfl) (q 66)) rfl cn))))
    apply seq
    apply sr (c (mv hN (q 0)) rfl (c (OpJ.val (v':=(i6 (a0.length:Int))) (by simp) (lenD underlying22 (L rfl) (q 67))) rfl (c (mv hN (ii 0)) rfl cn)))
    apply block
    obtain⟨p396,hx550,h⟩:=bindS h
    refine lg (X2 a0) (fun s89:Int×(List Bool)×(List A7)=>([(0,(C3 a0)),(6,(.sref 3006 13 0 s89.2.2.length)),(9,(.sref 1066 1 0 s89.2.1.length)),(67,(C3 a0)),(68,(i6 (a0.length:Int))),(69,(i6 s89.1))]:EL)) (fun s89:Int×(List Bool)×(List A7)=>([(1066,some (.row 4 1 (s89.2.1.map eB))),(3006,some (C7 s89.2.2))]:OL)) (fun(p396:((List A7))) e E' O'=>e = .exit 4∧Mat B E' O' ([(6,(.sref 3006 13 0 p396.length))]:EL) ([(3006,some (C7 p396))]:OL)) hx550 (mp [] _ _ hB) (fun s89 y h => ?_) (fun e E' O' hR => ?_)
    ·unfold X2 at h
     apply sr (c (lss (L rfl) (q 69) (q 68)) rfl cn)
     apply seq
     apply AWp.cond rfl<;>intro hg397
     ·have h:=A5 hg397 h
      apply AWp.skip
      apply A0
      apply seq
      refine AWp.cut h (fun m473:(List Bool)×(List A7)=>([(0,(C3 a0)),(6,(.sref 3006 13 0 m473.2.length)),(9,(.sref 1066 1 0 m473.1.length)),(67,(C3 a0)),(68,(i6 (a0.length:Int))),(69,(i6 s89.1))]:EL)) (fun m473:(List Bool)×(List A7)=>([(1066,some (.row 4 1 (m473.1.map eB))),(3006,some (C7 m473.2))]:OL)) (fun m473 h E' O' hmat => ?_) (fun j474 hjj474 h => ?_)
      ·apply A0
       refine ghost hmat ?_
       apply rg (c (add6 (L rfl) (q 69) (ii 1)) rfl (c (mv hN (q 121)) rfl cn))
       obtain rfl:=oi h
       exact⟨rfl,(mp [] _ _ hB)⟩
      ·apply block
       obtain⟨x475,hx475,h⟩:=bindS h
       apply sr (c (mv hN (q 69)) rfl (c (indexD underlying22 tyS39 (B5 hx475).1 (F0 D6 (B5 hx475).2) (L rfl) (q 67) (q 69)) rfl (c (loadD tyS39 (by rfl) (by rfl) (L rfl) (q 72)) rfl (cg (alloc hB tyZ39 (nm:=1011) (by decide) (L rfl)) rfl (c (assign (L rfl) (q 71)) rfl (cg (sB tyS39 (q 11) (q 73)) rfl cn))))))
       apply seq
       apply seq
       refine AWp.cut h (fun m479:Bool=>([(0,(C3 a0)),(6,(.sref 3006 13 0 s89.2.2.length)),(9,(.sref 1066 1 0 s89.2.1.length)),(10,(i6 s89.1)),(11,(pt 1011)),(67,(C3 a0)),(68,(i6 (a0.length:Int))),(69,(i6 s89.1)),(82,(bo m479))]:EL)) (fun m479:Bool=>([(1011,bd 39 (D6 x475)),(1066,some (.row 4 1 (s89.2.1.map eB))),(3006,some (C7 s89.2.2))]:OL)) (fun m479 h E' O' hmat => ?_) (fun j480 hjj480 h => ?_)
       ·apply A0
        refine ghost hmat ?_
        apply AWp.cond rfl<;>intro hg481
        ·have h:=A5 hg481 h
         apply AWp.exit
         apply E5
         apply C6
         exact hjj474 _ h _ _ (mp [] _ _ hB)
        ·have h:=A6 hg481 h
         apply AWp.skip
         apply A0
         apply sr (c (assign (L rfl) (Opd.bool true)) rfl cn)
         apply sr (c (mv hN (q 10)) rfl (c (assign (L rfl) (q 83)) rfl cn))
         apply block
         obtain⟨p523,hx545,h⟩:=bindS h
         refine lg (R8 a0 x475) (fun s482:Bool×Int×(List Bool)×(List A7)=>([(0,(C3 a0)),(6,(.sref 3006 13 0 s482.2.2.2.length)),(9,(.sref 1066 1 0 s482.2.2.1.length)),(11,(pt 1011)),(12,(bo s482.1)),(13,(i6 s482.2.1)),(67,(C3 a0)),(68,(i6 (a0.length:Int))),(69,(i6 s89.1))]:EL)) (fun s482:Bool×Int×(List Bool)×(List A7)=>([(1011,bd 39 (D6 x475)),(1066,some (.row 4 1 (s482.2.2.1.map eB))),(3006,some (C7 s482.2.2.2))]:OL)) (fun(p523:((List Bool)×(List A7))) e E' O'=>e = .exit 6∧Mat B E' O' ([(0,(C3 a0)),(6,(.sref 3006 13 0 p523.2.length)),(9,(.sref 1066 1 0 p523.1.length)),(67,(C3 a0)),(68,(i6 (a0.length:Int))),(69,(i6 s89.1))]:EL) ([(1066,some (.row 4 1 (p523.1.map eB))),(3006,some (C7 p523.2))]:OL)) hx545 (mp [] _ _ hB) (fun s482 y h => ?_) (fun e E' O' hR => ?_)
         ·unfold R8 at h
          apply seq
          apply sr (c (mv hN (q 13)) rfl (c (mv hN (q 0)) rfl (c (OpJ.val (v':=(i6 (a0.length:Int))) (by simp) (lenD underlying22 (L rfl) (q 85))) rfl (c (lss (L rfl) (q 84) (q 86)) rfl cn))))
          apply AWp.cond rfl<;>intro hg524
          ·have h:=A5 hg524 h
           apply AWp.skip
           apply A0
           apply seq
           apply block
           obtain⟨x525,hx525,h⟩:=bindS h
           apply sr (c (mv hN (q 0)) rfl (c (mv hN (q 13)) rfl (c (indexD underlying22 tyS39 (B5 hx525).1 (F0 D6 (B5 hx525).2) (L rfl) (q 90) (q 91)) rfl (c (loadD tyS39 (by rfl) (by rfl) (L rfl) (q 92)) rfl (cg (alloc hB tyZ39 (nm:=1014) (by decide) (L rfl)) rfl (cg (sB tyS39 (q 14) (q 93)) rfl cn))))))
           apply seq
           refine AWp.cut h (fun m528:Bool=>([(0,(C3 a0)),(6,(.sref 3006 13 0 s482.2.2.2.length)),(9,(.sref 1066 1 0 s482.2.2.1.length)),(11,(pt 1011)),(12,(bo s482.1)),(13,(i6 s482.2.1)),(14,(pt 1014)),(67,(C3 a0)),(68,(i6 (a0.length:Int))),(69,(i6 s89.1)),(104,(bo m528))]:EL)) (fun m528:Bool=>([(1011,bd 39 (D6 x475)),(1014,bd 39 (D6 x525)),(1066,some (.row 4 1 (s482.2.2.1.map eB))),(3006,some (C7 s482.2.2.2))]:OL)) (fun m528 h E' O' hmat => ?_) (fun j529 hjj529 h => ?_)
           ·apply A0
            refine ghost hmat ?_
            refine AWp.cut h (fun m535:Bool×(List Bool)×(List A7)=>([(0,(C3 a0)),(6,(.sref 3006 13 0 m535.2.2.length)),(9,(.sref 1066 1 0 m535.2.1.length)),(11,(pt 1011)),(12,(bo m535.1)),(13,(i6 s482.2.1)),(67,(C3 a0)),(68,(i6 (a0.length:Int))),(69,(i6 s89.1))]:EL)) (fun m535:Bool×(List Bool)×(List A7)=>([(1011,bd 39 (D6 x475)),(1066,some (.row 4 1 (m535.2.1.map eB))),(3006,some (C7 m535.2.2))]:OL)) (fun m535 h E' O' hmat => ?_) (fun j536 hjj536 h => ?_)
            ·apply E4
             apply A0
             refine ghost hmat ?_
             apply rg (c (mv hN (q 13)) rfl (c (add6 (L rfl) (q 88) (ii 1)) rfl (c (assign (L rfl) (q 89)) rfl cn)))
             obtain rfl:=oi h
             exact⟨rfl,(mp [] _ _ hB)⟩
            ·apply AWp.cond rfl<;>intro hg537
             ·have h:=A5 hg537 h
              apply seq
              obtain⟨r538,hr538,h⟩:=bindS h
              obtain⟨r539,hr539,h⟩:=bindS h
              refine AWp.draws (by kernel_rfl) (oc (mv hN (ot 6 (.sref 3006 13 0 s482.2.2.2.length)))
               (oc (ov (.ptr 1014 6 [3]) (fp hN underlying39 6 tyS37 (.box 39 (.d (D6 x525))) (ot 14 (pt 1014))))
               (oc (ov (.ptr 1014 11 [3,2]) (fp hN underlying37 5 tyS35 (.box 39 (.d (D6 x525))) (ot 106 (.ptr 1014 6 [3]))))
               (oc (lb hN 39 (.d (D6 x525)) (.d (A3 x525.fRoute.fAttrs)) tyS35 (At.dst1 (f:=(A8r x525.fRoute)) (by rfl) (by rfl) (ad (A3 x525.fRoute.fAttrs)) (by first | rfl | omega)) (ot 107 (.ptr 1014 11 [3,2])))
               (oc (cf hB fnOk37 (A5j x525.fRoute.fAttrs r538 hr538) (L rfl) (OpdL.cons (ot 108 (.d (A3 x525.fRoute.fAttrs))) OpdL.nil))
               (oc (ov (.ptr 1014 1 [1]) (fp hN underlying39 1 tyS29 (.box 39 (.d (D6 x525))) (ot 14 (pt 1014))))
               (oc (lb hN 39 (.d (D6 x525)) (.d (B3 x525.fPrefix)) tyS29 (ad (B3 x525.fPrefix)) (ot 110 (.ptr 1014 1 [1])))
               (oc (buildSlice underlying59 tyS29 tyZD29 (by rfl) (by decide) (by decide) (Opds.cons (ot 111 (.d (B3 x525.fPrefix))) Opds.nil) (by kernel_rfl) (es:=([(B3 x525.fPrefix)]:List D)) (by rfl) (by rfl) (by kernel_rfl) (by simp) (L rfl))
               (oc (OpJ.build (places:=[(0,1),(1,11),(12,1)]) ⟨underlying61,fun w=>by kernel_rfl⟩ tyZS61 (Opds.cons (ot 109 (.d (A3 r538))) (Opds.cons (ot 112 (E0 [x525.fPrefix])) Opds.nil)) (by kernel_rfl) (r:=(.st [.nils,(.d (A3 r538)),(E0 [x525.fPrefix])])) (by rfl) (L rfl))
               (oc (ov (.ptr 1014 1 [1]) (fp hN underlying39 1 tyS29 (.box 39 (.d (D6 x525))) (ot 14 (pt 1014))))
               (oc (lb hN 39 (.d (D6 x525)) (.d (B3 x525.fPrefix)) tyS29 (ad (B3 x525.fPrefix)) (ot 114 (.ptr 1014 1 [1])))
               (oc (mv hN (ot 12 (bo s482.1)))
               (oc (OpJ.callFn hB fnOk36 (A2y s482.2.2.2 (A7.mk ([]:List A2) r538 [x525.fPrefix]) x525.fPrefix s482.1 r539 hr539) [(0,3006),(900000,100600)] (by kernel_rfl) (L rfl) (by kernel_rfl) (OpdL.cons (ot 105 (.sref 3006 13 0 s482.2.2.2.length)) (OpdL.cons (Opd.tw (ot 113 (.st [.nils,(.d (A3 r538)),(E0 [x525.fPrefix])])) (Tw.leaf ⟨_,(Co.st (CoL.cons (Co.nils 4) (CoL.cons (Co.d _) (CoL.cons (Co.d _) CoL.nil)))),rfl⟩)) (OpdL.cons (ot 115 (.d (B3 x525.fPrefix))) (OpdL.cons (ot 116 (bo s482.1)) OpdL.nil)))))
               (oc (assign (L rfl) (ot 117 (.sref 100600 13 0 r539.length)))
               (OpJs.nil))))))))))))))) (by kernel_rfl) (by rfl) (by rfl) ?_
              apply A0
              refine ghost (mp [] [(0,(C3 a0)),(6,(.sref 100600 13 0 r539.length)),(9,(.sref 1066 1 0 s482.2.2.1.length)),(11,(pt 1011)),(13,(i6 s482.2.1)),(67,(C3 a0)),(68,(i6 (a0.length:Int))),(69,(i6 s89.1))] [(1011,bd 39 (D6 x475)),(1066,some (.row 4 1 (s482.2.2.1.map eB))),(100600,some (C7 r539))] hB) ?_
              obtain⟨_,hx540,h⟩:=bindS h
              obtain⟨_,hx541,h⟩:=bindS h
              apply rg (c (mv hN (q 9)) rfl (c (mv hN (q 13)) rfl (c (OpJ.val (v':=(.ptr 1066 (s482.2.1.toNat*1) [s482.2.1.toNat])) (by simp) (indexS underlying87 tyS4 (B5 hx540).1 (by have:=A6m hx540;first | (simpa using this) | ((try simp only [List.length_map] at this);(try simp only [List.length_map]);omega)) (L rfl) (q 118) (q 119))) rfl (cg (OpJ.storeR (e:=4) (sz:=1) (es':=(s482.2.2.1.set s482.2.1.toNat true).map eB) tyS4 (F0 eB (B5 hx541).2) (o:=0) (SetAt.here _ _) (by rfl) (A66 _ _ _ _) (by rfl) (by rfl) (q 120) (Opd.bool true)) rfl (c (assign (L rfl) (Opd.bool false)) rfl cn)))))
              exact hjj536 _ h _ _ (Mat.trans (mp [] [(0,(C3 a0)),(6,(.sref 100600 13 0 r539.length)),(9,(.sref 1066 1 0 s482.2.2.1.length)),(11,(pt 1011)),(12,(bo false)),(13,(i6 s482.2.1)),(67,(C3 a0)),(68,(i6 (a0.length:Int))),(69,(i6 s89.1))] [(1011,bd 39 (D6 x475)),(1066,some (.row 4 1 ((s482.2.2.1.set s482.2.1.toNat true).map eB))),(100600,some (C7 r539))] hB) (Mat.trans (Mat.lenP (Ts:=[(9,(.sref 1066 1 0 ((s482.2.2.1.set s482.2.1.toNat true).length)))]) (Bs:=[]) (TwT.cons (x:=(.sref 1066 1 0 s482.2.2.1.length)) (by rfl) (Tw.leaf ⟨_,_,_,_,_,rfl,rfl,(by first | rfl | (simp;done) | (simp;omega) | omega)⟩) TwT.nil) TwB.nil) (mp [(3006,100600)] _ _ hB)))
             ·have h:=A6 hg537 h
              apply AWp.skip
              exact hjj536 _ h _ _ (mp [] _ _ hB)
           ·rcases bft x525.fHas with hg542 | hg542
            ·have h:=A5 hg542 h
             obtain⟨r543,hr543,h⟩:=bindS h
             apply rg (c (fo 1014 5 [2] hN underlying39 5 tyS4 (q 14)) rfl (c (la hN 39 tyS4 (q 94)) rfl (c (OpJ.val (v':=.d (.bool true)) (by rw [hg542]<;>rfl) (mv hN (q 95))) rfl (c (gd 96 (fo 1014 6 [3] hN underlying39 6 tyS37 (q 14))) rfl (c (gd 96 (fo 1014 11 [3,2] hN underlying37 5 tyS35 (q 97))) rfl (c (gd 96 (lb hN 39 _ _ tyS35 (At.dst1 (by rfl) (by rfl) (ad _) (by first | rfl | omega)) (q 98))) rfl (c (gd 96 (fo 1011 6 [3] hN underlying39 6 tyS37 (q 11))) rfl (c (gd 96 (fo 1011 11 [3,2] hN underlying37 5 tyS35 (q 100))) rfl (c (gd 96 (lb hN 39 _ _ tyS35 (At.dst1 (by rfl) (by rfl) (ad _) (by first | rfl | omega)) (q 101))) rfl (cg (gd 96 (cf hB fnOk22 (A2a x525.fRoute.fAttrs x475.fRoute.fAttrs r543 hr543) (L rfl) (OpdL.cons (q 99) (OpdL.cons (q 102) OpdL.nil)))) rfl (c (pickT (L rfl) (q 96) (q 103)) rfl cn)))))))))))
             exact hjj529 _ h _ _ (mp [] _ _ hB)
            ·have h:=A6 hg542 h
             apply rg (c (fo 1014 5 [2] hN underlying39 5 tyS4 (q 14)) rfl (c (la hN 39 tyS4 (q 94)) rfl (c (OpJ.val (v':=.d (.bool false)) (by rw [hg542]<;>rfl) (mv hN (q 95))) rfl (ks 96 (L rfl) (ks 96 (L rfl) (ks 96 (L rfl) (ks 96 (L rfl) (ks 96 (L rfl) (ks 96 (L rfl) (ks 96 (L rfl) (c (pickF (L rfl) (q 96) (Opd.bool false)) rfl cn)))))))))))
             exact hjj529 _ h _ _ (mp [] _ _ hB)
          ·have h:=A6 hg524 h
           apply AWp.exit
           apply E5
           obtain rfl:=oi h
           exact⟨(fun hc=>by cases hc),rfl,(mp [] _ _ hB)⟩
         ·obtain⟨rfl,hmat⟩:=hR
          apply C6
          apply E4
          exact hjj474 _ h _ _ (Mat.trans hmat (mp [] _ _ hB))
       ·rcases bft (!x475.fHas) with hg546 | hg546
        ·have h:=A5 hg546 h
         apply rg (c (fo 1011 5 [2] hN underlying39 5 tyS4 (q 11)) rfl (c (la hN 39 tyS4 (q 74)) rfl (c (OpJ.not (L rfl) (q 75)) rfl (c (OpJ.val (v':=.d (.bool true)) (by rw [hg546]<;>rfl) (mv hN (q 76))) rfl (ks 77 (L rfl) (ks 77 (L rfl) (ks 77 (L rfl) (ks 77 (L rfl) (c (pickT (L rfl) (q 77) (Opd.bool true)) rfl cn)))))))))
         exact hjj480 _ h _ _ (mp [] _ _ hB)
        ·have h:=A6 hg546 h
         obtain⟨_,hx547,h⟩:=bindS h
         obtain⟨_,hx548,h⟩:=bindS h
         apply rg (c (fo 1011 5 [2] hN underlying39 5 tyS4 (q 11)) rfl (c (la hN 39 tyS4 (q 74)) rfl (c (OpJ.not (L rfl) (q 75)) rfl (c (OpJ.val (v':=.d (.bool false)) (by rw [hg546]<;>rfl) (mv hN (q 76))) rfl (c (gd 77 (mv hN (q 9))) rfl (c (gd 77 (mv hN (q 10))) rfl (c (gd 77 (OpJ.val (v':=(.ptr 1066 (s89.1.toNat*1) [s89.1.toNat])) (by simp) (indexS underlying87 tyS4 (B5 hx547).1 (by have:=A6m hx547;first | (simpa using this) | ((try simp only [List.length_map] at this);(try simp only [List.length_map]);omega)) (L rfl) (q 78) (q 79)))) rfl (c (gd 77 (loadR (e:=4) (sz:=1) tyS4 (F0 eB (B5 hx548).2) (o:=0) (At.here _) (by rfl) (by rfl) (by rfl) (L rfl) (q 80))) rfl (c (pickF (L rfl) (q 77) (q 81)) rfl cn)))))))))
         exact hjj480 _ h _ _ (mp [] _ _ hB)
     ·have h:=A6 hg397 h
      apply AWp.exit
      apply E5
      obtain rfl:=oi h
      exact⟨(fun hc=>by cases hc),rfl,(mp [] _ _ hB)⟩
    ·obtain⟨rfl,hmat⟩:=hR
     apply C6
     apply A0
     refine ghost hmat ?_
     apply sr (c (mv hN (q 6)) rfl (c (assign (L rfl) (q 122)) rfl (c (assign (L rfl) (ii 0)) rfl cn)))
     apply ret
     obtain rfl:=oi h
     exact rt (Mat.trans (Mat.freezeP (n:=3006) (e:=61) (sz:=13) (es:=p396.map D4) (Ts:=[(2,(E7 p396))]) (Bs:=[]) (by rfl) (TwT.cons (x:=(.sref 3006 13 0 p396.length)) (by rfl) (FrzL.all (by first | rfl | (simp;done) | (simp;omega) | omega)) TwT.nil) TwB.nil) (mp [] [(2,(E7 p396)),(3,(i6 0))] [] hB)) [(E7 p396),(i6 0)] (rT (rT rN)) rfl
def J3 (a0:(List A2)) (a1:(List A2)) (s2:Int):Option (((Unit)⊕(Unit))⊕(Int)) :=
 (if (decide (s2<(a0.length:Int)))=true then
 (idx a0 s2).bind fun x14 =>
 (idx a1 s2).bind fun x15 =>
 (if (!(((x14.fAddr.fV6==x15.fAddr.fV6)&&((x14.fAddr.fHi==x15.fAddr.fHi)&&((x14.fAddr.fLo==x15.fAddr.fLo)&&true)))&&((x14.fLen==x15.fLen)&&true)))=true then
 some (.inl (.inl ()))
 else
 some (.inr (w64 (s2+1))))
 else
 some (.inl (.inr ())))
def J8 (a0:(List A2)) (a1:(List A2)):Option (Bool) :=
 (if ((a0.length:Int) != (a1.length:Int))=true then
 some false
 else
 (loop (J3 a0 a1) 0).bind fun x17=>match x17 with
 | (.inl _) =>
  some false
 | (.inr _) =>
  some true)
theorem J4 (a0:(List A2)) (a1:(List A2)) (r:Bool) (h:J8 a0 a1=some r):AC Tryz.prog 38 [(.d (.list 4 (a0.map B3))),(.d (.list 4 (a1.map B3)))] [] (.d (.bool r)) []:=by
 refine ac2 Tryz.func38 rfl rfl fun B hB hN L => ?_
 delta J8 at h
 refine sr (SQ tt) ?_
 apply seq
 refine sr (SQ tt) ?_
 apply AWp.cond rfl<;>intro hg1
 ·have h:=A5 hg1 h
  refine sr (SQ tt) ?_
  apply ret
  apply B9
  obtain rfl:=oi h
  exact rt (kp [(4,_)] [] hB rfl rfl (by rfl)) [(bo false)] (rT rN) rfl
 ·have h:=A6 hg1 h
  apply AWp.skip
  apply A0
  apply seq
  refine sr (SQ tt) ?_
  apply block
  obtain⟨x17,hx18,h⟩:=bindS h
  refine lg (J3 a0 a1) (fun s2:Int=>([(0,(E0 a0)),(1,(E0 a1)),(12,(i6 (a0.length:Int))),(13,(i6 s2))]:EL)) (fun s2:Int=>([]:OL)) (fun(x:(Unit)⊕(Unit)) e E' O'=>match x with | (.inl _p)=>e = .ret∧Mat B E' O' ([(4,(bo false))]:EL) ([]:OL) | (.inr _p)=>e = .exit 0∧Mat B E' O' ([]:EL) ([]:OL)) hx18 (mp [] _ _ hB) (fun s2 y h => ?_) (fun e E' O' hR => ?_)
  ·unfold J3 at h
   refine sr (SQ tt) ?_
   apply seq
   apply AWp.cond rfl<;>intro hg13
   ·have h:=A5 hg13 h
    apply AWp.skip
    apply A0
    apply seq
    apply block
    refine sr (SQ tt) ?_
    obtain⟨_,hx14,h⟩:=bindS h
    obtain⟨_,hx15,h⟩:=bindS h
    refine sdS (SQ (fa hx14 (fa hx15 tt))) ?_
    apply AWp.cond rfl<;>intro hg16
    ·have h:=A5 hg16 h
     refine sr (SQ tt) ?_
     apply ret
     apply D7
     apply B9
     obtain rfl:=oi h
     exact⟨(fun hc=>by cases hc),rfl,(mp [] _ _ hB)⟩
    ·have h:=A6 hg16 h
     apply AWp.skip
     apply E4
     apply A0
     refine rg (SQ tt) ?_
     obtain rfl:=oi h
     exact⟨rfl,(mp [] _ _ hB)⟩
   ·have h:=A6 hg13 h
    apply AWp.exit
    apply E5
    obtain rfl:=oi h
    exact⟨(fun hc=>by cases hc),rfl,(mp [] _ _ hB)⟩
  ·rcases x17 with _ | _
   ·obtain⟨rfl,hmat⟩:=hR
    apply D7
    apply B9
    obtain rfl:=oi h
    exact rt (Mat.trans hmat (mp [] [(4,(bo false))] [] hB)) [(bo false)] (rT rN) rfl
   ·obtain⟨rfl,hmat⟩:=hR
    apply C6
    apply A0
    refine ghost hmat ?_
    refine sr (SQ tt) ?_
    apply ret
    obtain rfl:=oi h
    exact rt (kp [(4,_)] [] hB rfl rfl (by rfl)) [(bo true)] (rT rN) rfl
def X3 (a0:(List A7)) (a1:(List A7)) (s2:Int):Option (((Unit)⊕(Unit))⊕(Int)) :=
 (if (decide (s2<(a0.length:Int)))=true then
 jn (fun m78:Bool =>
 (if m78=true then
 some (.inl (.inl ()))
 else
 some (.inr (w64 (s2+1))))) (fun j79 =>
 (idx a0 s2).bind fun x81 =>
 (idx a1 s2).bind fun x82 =>
 (J8 x81.fWithdraw x82.fWithdraw).bind fun r83 =>
 (if (!r83)=true then
 j79 true
 else
 (idx a0 s2).bind fun x85 =>
 (idx a1 s2).bind fun x86 =>
 (J8 x85.fAnnounce x86.fAnnounce).bind fun r87 =>
 (if (!r87)=true then
 j79 true
 else
 (idx a0 s2).bind fun x89 =>
 (idx a1 s2).bind fun x90 =>
 (G7 x89.fAttrs x90.fAttrs).bind fun r91 =>
 j79 (!r91))))
 else
 some (.inl (.inr ())))
def A1z (a0:(List A7)) (a1:(List A7)):Option (Bool) :=
 (if ((a0.length:Int) != (a1.length:Int))=true then
 some false
 else
 (loop (X3 a0 a1) 0).bind fun x92=>match x92 with
 | (.inl _) =>
  some false
 | (.inr _) =>
  some true)
theorem A5a (a0:(List A7)) (a1:(List A7)) (r:Bool) (h:A1z a0 a1=some r):AC Tryz.prog 14 [(.d (.list 13 (a0.map D4))),(.d (.list 13 (a1.map D4)))] [] (.d (.bool r)) []:=by
 refine ac2 Tryz.func14 rfl rfl fun B hB hN L => ?_
 delta A1z at h
 refine sr (SQ tt) ?_
 apply seq
 refine sr (SQ tt) ?_
 apply AWp.cond rfl<;>intro hg1
 ·have h:=A5 hg1 h
  refine sr (SQ tt) ?_
  apply ret
  apply B9
  obtain rfl:=oi h
  exact rt (kp [(4,_)] [] hB rfl rfl (by rfl)) [(bo false)] (rT rN) rfl
 ·have h:=A6 hg1 h
  apply AWp.skip
  apply A0
  apply seq
  refine sr (SQ tt) ?_
  apply block
  obtain⟨x92,hx93,h⟩:=bindS h
  refine lg (X3 a0 a1) (fun s2:Int=>([(0,(E7 a0)),(1,(E7 a1)),(12,(i6 (a0.length:Int))),(13,(i6 s2))]:EL)) (fun s2:Int=>([]:OL)) (fun(x:(Unit)⊕(Unit)) e E' O'=>match x with | (.inl _p)=>e = .ret∧Mat B E' O' ([(4,(bo false))]:EL) ([]:OL) | (.inr _p)=>e = .exit 0∧Mat B E' O' ([]:EL) ([]:OL)) hx93 (mp [] _ _ hB) (fun s2 y h => ?_) (fun e E' O' hR => ?_)
  ·unfold X3 at h
   refine sr (SQ tt) ?_
   apply seq
   apply AWp.cond rfl<;>intro hg63
   ·have h:=A5 hg63 h
    apply AWp.skip
    apply A0
    apply seq
    apply block
    refine sr (SQ tt) ?_
    apply seq
    refine AWp.cut h (fun m78:Bool=>([(0,(E7 a0)),(1,(E7 a1)),(12,(i6 (a0.length:Int))),(13,(i6 s2)),(55,(bo m78))]:EL)) (fun m78:Bool=>([]:OL)) (fun m78 h E' O' hmat => ?_) (fun j79 hjj79 h => ?_)
    ·apply A0
     refine ghost hmat ?_
     apply AWp.cond rfl<;>intro hg80
     ·have h:=A5 hg80 h
      refine sr (SQ tt) ?_
      apply ret
      apply D7
      apply B9
      obtain rfl:=oi h
      exact⟨(fun hc=>by cases hc),rfl,(mp [] _ _ hB)⟩
     ·have h:=A6 hg80 h
      apply AWp.skip
      apply E4
      apply A0
      refine rg (SQ tt) ?_
      obtain rfl:=oi h
      exact⟨rfl,(mp [] _ _ hB)⟩
    ·obtain⟨x81,hx81,h⟩:=bindS h
     obtain⟨x82,hx82,h⟩:=bindS h
     obtain⟨r83,hr83,h⟩:=bindS h
     rcases bft (!r83) with hg84 | hg84
     ·have h:=A5 hg84 h
      refine drS (SQ (fa hx81 (fa hx82 (fa (cl [] (J4 x81.fWithdraw x82.fWithdraw r83 hr83)) (fa hg84 tt))))) ?_
      exact hjj79 _ h _ _ (mp [] _ _ hB)
     ·have h:=A6 hg84 h
      obtain⟨x85,hx85,h⟩:=bindS h
      obtain⟨x86,hx86,h⟩:=bindS h
      obtain⟨r87,hr87,h⟩:=bindS h
      rcases bft (!r87) with hg88 | hg88
      ·have h:=A5 hg88 h
       refine drS (SQ (fa hx81 (fa hx82 (fa (cl [] (J4 x81.fWithdraw x82.fWithdraw r83 hr83)) (fa hg84 (fa hx85 (fa hx86 (fa (cl [] (J4 x85.fAnnounce x86.fAnnounce r87 hr87)) (fa hg88 tt))))))))) ?_
       exact hjj79 _ h _ _ (mp [] _ _ hB)
      ·have h:=A6 hg88 h
       obtain⟨x89,hx89,h⟩:=bindS h
       obtain⟨x90,hx90,h⟩:=bindS h
       obtain⟨r91,hr91,h⟩:=bindS h
       refine drS (SQ (fa hx81 (fa hx82 (fa (cl [] (J4 x81.fWithdraw x82.fWithdraw r83 hr83)) (fa hg84 (fa hx85 (fa hx86 (fa (cl [] (J4 x85.fAnnounce x86.fAnnounce r87 hr87)) (fa hg88 (fa hx89 (fa hx90 (fa (cl [] (A2a x89.fAttrs x90.fAttrs r91 hr91)) tt)))))))))))) ?_
       exact hjj79 _ h _ _ (mp [] _ _ hB)
   ·have h:=A6 hg63 h
    apply AWp.exit
    apply E5
    obtain rfl:=oi h
    exact⟨(fun hc=>by cases hc),rfl,(mp [] _ _ hB)⟩
  ·rcases x92 with _ | _
   ·obtain⟨rfl,hmat⟩:=hR
    apply D7
    apply B9
    obtain rfl:=oi h
    exact rt (Mat.trans hmat (mp [] [(4,(bo false))] [] hB)) [(bo false)] (rT rN) rfl
   ·obtain⟨rfl,hmat⟩:=hR
    apply C6
    apply A0
    refine ghost hmat ?_
    refine sr (SQ tt) ?_
    apply ret
    obtain rfl:=oi h
    exact rt (kp [(4,_)] [] hB rfl rfl (by rfl)) [(bo true)] (rT rN) rfl
def X4 (a1:Int) (s1:Int×(List C2)×C1):Option (((C1×(List C2)))⊕(Int×(List C2)×C1)) :=
 (if (decide (s1.1<a1))=true then
 (F8 s1.2.2 3).bind fun r26 =>
 jn (fun m30:Bool×Int×Int×Int×(List B8)×Int×Int×Int×Int×(List B4)×(List E6)×(List A1)×C1 =>
 chk (decide ((s1.2.1++[(C2.mk 5 (A2.mk (D3.mk false 0 (bitI .or .u64 335544320 (shlI .u64 (IntKind.u64.wrap s1.1) 8))) 24) m30.1 (V7.mk (A2.mk (D3.mk false 0 m30.2.1) m30.2.2.1) m30.2.2.2.1 (D1.mk 0 m30.2.2.2.2.1 (D3.mk false 0 m30.2.2.2.2.2.1) m30.2.2.2.2.2.2.1 m30.2.2.2.2.2.2.2.1 m30.2.2.2.2.2.2.2.2.1 m30.2.2.2.2.2.2.2.2.2.1 m30.2.2.2.2.2.2.2.2.2.2.1 m30.2.2.2.2.2.2.2.2.2.2.2.1)))]).length≤LIM)) <|
 some (.inr ((w64 (s1.1+1)),(s1.2.1++[(C2.mk 5 (A2.mk (D3.mk false 0 (bitI .or .u64 335544320 (shlI .u64 (IntKind.u64.wrap s1.1) 8))) 24) m30.1 (V7.mk (A2.mk (D3.mk false 0 m30.2.1) m30.2.2.1) m30.2.2.2.1 (D1.mk 0 m30.2.2.2.2.1 (D3.mk false 0 m30.2.2.2.2.2.1) m30.2.2.2.2.2.2.1 m30.2.2.2.2.2.2.2.1 m30.2.2.2.2.2.2.2.2.1 m30.2.2.2.2.2.2.2.2.2.1 m30.2.2.2.2.2.2.2.2.2.2.1 m30.2.2.2.2.2.2.2.2.2.2.2.1)))]),m30.2.2.2.2.2.2.2.2.2.2.2.2))) (fun j31 =>
 (if (decide (0<r26.1))=true then
 (Y3).bind fun r34 =>
 (F8 r26.2 2).bind fun r35 =>
 j31 (true,(bitI .or .u64 335544320 (shlI .u64 (IntKind.u64.wrap s1.1) 8)),24,101,([(B8.mk false ([101]:List Int))]:List B8),7,r35.1,r34.fPref,r34.fOTC,r34.fCommunities,r34.fLarge,r34.fOther,r35.2)
 else
 j31 (false,0,0,0,([]:List B8),0,0,0,0,([]:List B4),([]:List E6),([]:List A1),r26.2)))
 else
 some (.inl (s1.2.2,s1.2.1)))
def A0g (a0:C1) (a1:Int):Option ((List C2)×C1) :=
 (loop (X4 a1) (0,([]:List C2),a0)).bind fun p24 =>
 some (p24.2,p24.1)
theorem A93 (a0:C1) (a1:Int) (r:(List C2)×C1) (h:A0g a0 a1=some r):AC Tryz.prog 18 [(pt 0),(.d (.int .i64 a1))] [(0,(.box 71 (.d (E8 a0))))] (.d (.list 22 (r.1.map D6))) [(0,bd 71 (E8 r.2))]:=by
 refine ac2 Tryz.func18 rfl rfl fun B hB hN L => ?_
 delta A0g at h
 refine sr (SQ tt) ?_
 refine sr (SQ tt) ?_
 apply seq
 refine sr (SQ tt) ?_
 apply block
 obtain⟨p24,hx37,h⟩:=bindS h
 refine lg (X4 a1) (fun s1:Int×(List C2)×C1=>([(0,(pt 0)),(1,(i6 a1)),(5,(.sref 3005 22 0 s1.2.1.length)),(6,(i6 s1.1))]:EL)) (fun s1:Int×(List C2)×C1=>([(0,bd 71 (E8 s1.2.2)),(3005,some (G1 s1.2.1))]:OL)) (fun(p24:(C1×(List C2))) e E' O'=>e = .exit 0∧Mat B E' O' ([(5,(.sref 3005 22 0 p24.2.length))]:EL) ([(0,bd 71 (E8 p24.1)),(3005,some (G1 p24.2))]:OL)) hx37 (Mat.trans (Mat.beginP (n:=3005) (e:=39) (sz:=22) (Ts:=[(5,(.sref 3005 22 0 0))]) (Bs:=[]) hB (by decide) (by rfl) (by decide) (TwT.cons (x:=.nils) (by rfl) (Tw.leaf ⟨rfl,rfl⟩) TwT.nil) TwB.nil) (mp [] _ _ hB)) (fun s1 y h => ?_) (fun e E' O' hR => ?_)
 ·unfold X4 at h
  apply seq
  refine sr (SQ tt) ?_
  apply AWp.cond rfl<;>intro hg25
  ·have h:=A5 hg25 h
   apply AWp.skip
   apply A0
   apply seq
   apply block
   refine sr (SQ tt) ?_
   apply seq
   apply seq
   obtain⟨r26,hr26,h⟩:=bindS h
   refine rg (SQ (fa (cl [(0,0)] (R3 s1.2.2 3 r26 hr26)) tt)) ?_
   apply A0
   refine ghost (mp [] [(0,(pt 0)),(1,(i6 a1)),(5,(.sref 3005 22 0 s1.2.1.length)),(6,(i6 s1.1)),(7,(pt 1007)),(23,(bo (decide (0<r26.1))))] [(0,bd 71 (E8 r26.2)),(1007,some (.box 39 (.st [(i6 5),(.d (.st [(.st [(.bool false),(.int .u64 0),(.int .u64 (bitI .or .u64 335544320 (shlI .u64 (IntKind.u64.wrap s1.1) 8)))]),(.int .i64 24)])),(bo false),(.st [(.d (.st [(.st [(.bool false),(.int .u64 0),(.int .u64 0)]),(.int .i64 0)])),(i6 0),(.st [(i6 0),.nils,(.d (.st [(.bool false),(.int .u64 0),(.int .u64 0)])),(i6 0),(i6 0),(i6 0),.nils,.nils,.nils])])]))),(3005,some (G1 s1.2.1))] hB) ?_
   refine AWp.cut h (fun m30:Bool×Int×Int×Int×(List B8)×Int×Int×Int×Int×(List B4)×(List E6)×(List A1)×C1=>([(0,(pt 0)),(1,(i6 a1)),(5,(.sref 3005 22 0 s1.2.1.length)),(6,(i6 s1.1)),(7,(pt 1007))]:EL)) (fun m30:Bool×Int×Int×Int×(List B8)×Int×Int×Int×Int×(List B4)×(List E6)×(List A1)×C1=>([(0,bd 71 (E8 m30.2.2.2.2.2.2.2.2.2.2.2.2)),(1007,some (.box 39 (.st [(i6 5),(.d (.st [(.st [(.bool false),(.int .u64 0),(.int .u64 (bitI .or .u64 335544320 (shlI .u64 (IntKind.u64.wrap s1.1) 8)))]),(.int .i64 24)])),(bo m30.1),(.d (.st [(.st [(.st [(.bool false),(.int .u64 0),(.int .u64 m30.2.1)]),(.int .i64 m30.2.2.1)]),(.int .i64 m30.2.2.2.1),(.st [(.int .i64 0),(.list 2 (m30.2.2.2.2.1.map C4)),(.st [(.bool false),(.int .u64 0),(.int .u64 m30.2.2.2.2.2.1)]),(.int .i64 m30.2.2.2.2.2.2.1),(.int .i64 m30.2.2.2.2.2.2.2.1),(.int .i64 m30.2.2.2.2.2.2.2.2.1),(.list 2 (m30.2.2.2.2.2.2.2.2.2.1.map B7)),(.list 3 (m30.2.2.2.2.2.2.2.2.2.2.1.map D8)),(.list 3 (m30.2.2.2.2.2.2.2.2.2.2.2.1.map A8))])]))]))),(3005,some (G1 s1.2.1))]:OL)) (fun m30 h E' O' hmat => ?_) (fun j31 hjj31 h => ?_)
   ·apply A0
    refine ghost hmat ?_
    obtain⟨hc32,h⟩:=C0 h
    refine rg (SQ (fa hc32 tt)) ?_
    apply E4
    apply A0
    refine rg (SQ tt) ?_
    obtain rfl:=oi h
    exact⟨rfl,(mp [(3005,1044)] _ _ hB)⟩
   ·apply AWp.cond rfl<;>intro hg33
    ·have h:=A5 hg33 h
     refine sr (SQ tt) ?_
     obtain⟨r34,hr34,h⟩:=bindS h
     refine sr (SQ (fa (cl [] (A25 r34 hr34)) tt)) ?_
     apply seq
     obtain⟨r35,hr35,h⟩:=bindS h
     refine rg (SQ (fa (cl [(0,0)] (R3 r26.2 2 r35 hr35)) tt)) ?_
     apply A0
     refine ghost (mp [] [(0,(pt 0)),(1,(i6 a1)),(5,(.sref 3005 22 0 s1.2.1.length)),(6,(i6 s1.1)),(7,(pt 1007)),(8,(pt 1008))] [(0,bd 71 (E8 r35.2)),(1007,some (.box 39 (.st [(i6 5),(.d (.st [(.st [(.bool false),(.int .u64 0),(.int .u64 (bitI .or .u64 335544320 (shlI .u64 (IntKind.u64.wrap s1.1) 8)))]),(.int .i64 24)])),(bo true),(.st [(.d (.st [(.st [(.bool false),(.int .u64 0),(.int .u64 0)]),(.int .i64 0)])),(i6 0),(.st [(i6 0),.nils,(.d (.st [(.bool false),(.int .u64 0),(.int .u64 0)])),(i6 0),(i6 0),(i6 0),.nils,.nils,.nils])])]))),(1008,some (.box 35 (.d (.st [(.int .i64 0),(.list 2 (([(B8.mk false ([101]:List Int))]:List B8).map C4)),(.st [(.bool false),(.int .u64 0),(.int .u64 7)]),(.int .i64 r35.1),(.int .i64 r34.fPref),(.int .i64 r34.fOTC),(.list 2 (r34.fCommunities.map B7)),(.list 3 (r34.fLarge.map D8)),(.list 3 (r34.fOther.map A8))])))),(3005,some (G1 s1.2.1))] hB) ?_
     refine rg (SQ tt) ?_
     exact hjj31 _ h _ _ (mp [] _ _ hB)
    ·have h:=A6 hg33 h
     apply AWp.skip
     exact hjj31 _ h _ _ (Mat.trans (Mat.coeP (Ts:=[]) (Bs:=[(1007,some (.box 39 (.st [(i6 5),(.d (.st [(.st [(.bool false),(.int .u64 0),(.int .u64 (bitI .or .u64 335544320 (shlI .u64 (IntKind.u64.wrap s1.1) 8)))]),(.int .i64 24)])),(bo false),(.d (.st [(.st [(.st [(.bool false),(.int .u64 0),(.int .u64 0)]),(.int .i64 0)]),(.int .i64 0),(.st [(.int .i64 0),(.list 2 (([]:List B8).map C4)),(.st [(.bool false),(.int .u64 0),(.int .u64 0)]),(.int .i64 0),(.int .i64 0),(.int .i64 0),(.list 2 (([]:List B4).map B7)),(.list 3 (([]:List E6).map D8)),(.list 3 (([]:List A1).map A8))])]))])))]) TwT.nil (TwB.cons (x:=(.st [(i6 5),(.d (.st [(.st [(.bool false),(.int .u64 0),(.int .u64 (bitI .or .u64 335544320 (shlI .u64 (IntKind.u64.wrap s1.1) 8)))]),(.int .i64 24)])),(bo false),(.st [(.d (.st [(.st [(.bool false),(.int .u64 0),(.int .u64 0)]),(.int .i64 0)])),(i6 0),(.st [(i6 0),.nils,(.d (.st [(.bool false),(.int .u64 0),(.int .u64 0)])),(i6 0),(i6 0),(i6 0),.nils,.nils,.nils])])])) (by rfl) (Tw.st (TwL.cons (Tw.same _) (TwL.cons (Tw.same _) (TwL.cons (Tw.same _) (TwL.cons (Tw.leaf ⟨_,(Co.st (CoL.cons (Co.d _) (CoL.cons (Co.d _) (CoL.cons (Co.st (CoL.cons (Co.d _) (CoL.cons (Co.nils 2) (CoL.cons (Co.d _) (CoL.cons (Co.d _) (CoL.cons (Co.d _) (CoL.cons (Co.d _) (CoL.cons (Co.nils 2) (CoL.cons (Co.nils 3) (CoL.cons (Co.nils 3) CoL.nil)))))))))) CoL.nil)))),rfl⟩) TwL.nil))))) TwB.nil)) (mp [] _ _ hB))
  ·have h:=A6 hg25 h
   apply AWp.exit
   apply E5
   obtain rfl:=oi h
   exact⟨(fun hc=>by cases hc),rfl,(mp [] _ _ hB)⟩
 ·obtain⟨rfl,hmat⟩:=hR
  apply C6
  apply A0
  refine ghost hmat ?_
  refine sr (SQ tt) ?_
  apply ret
  obtain rfl:=oi h
  exact rt (Mat.trans (Mat.freezeP (n:=3005) (e:=39) (sz:=22) (es:=p24.2.map D6) (Ts:=[(4,(C3 p24.2))]) (Bs:=[]) (by rfl) (TwT.cons (x:=(.sref 3005 22 0 p24.2.length)) (by rfl) (FrzL.all (by first | rfl | (simp;done) | (simp;omega) | omega)) TwT.nil) TwB.nil) (mp [] [(4,(C3 p24.2))] [(0,bd 71 (E8 p24.1))] hB)) [(C3 p24.2)] (rT rN) rfl
def A03 (a0:(List Int)) (a1:Int):Option (Bool) :=
 (K6 a0).bind fun r1 =>
 (G8 a1 300).bind fun r2 =>
 (A0g r1 (w64 (250+r2))).bind fun r3 =>
 (A1g r3.1).bind fun r4 =>
 (A1y r3.1).bind fun r5 =>
 jn (fun m10:Bool =>
 some m10) (fun j11 =>
 (if (r4.2==r5.2)=true then
 (A1z r4.1 r5.1).bind fun r13 =>
 (if r13=true then
 (A10).bind fun r15 =>
 j11 r15
 else
 j11 false)
 else
 j11 false))
theorem A5y (a0:(List Int)) (a1:Int) (r:Bool) (h:A03 a0 a1=some r):AC Tryz.prog 4 [(.d (.list 1 (a0.map (eI .i64)))),(.d (.int .i64 a1))] [(500,(.know (globD 0 (.imap gv0))))] (.d (.bool r)) [(500,some (.know (globD 0 (.imap gv0))))]:=by
 refine ac2 Tryz.func4 rfl rfl fun B hB hN L => ?_
 delta A03 at h
 refine sr (SQ tt) ?_
 apply seq
 obtain⟨r1,hr1,h⟩:=bindS h
 obtain⟨r2,hr2,h⟩:=bindS h
 obtain⟨r3,hr3,h⟩:=bindS h
 refine rg (SQ (fa (cl [(1005,100000)] (A3n a0 r1 hr1)) (fa (cl [] (Z6 a1 300 r2 hr2)) (fa (cl [(0,100000)] (A93 r1 (w64 (250+r2)) r3 hr3)) tt)))) ?_
 apply A0
 refine ghost (mp [] [(5,(C3 r3.1))] [(500,some (.know (globD 0 (.imap gv0))))] hB) ?_
 apply seq
 obtain⟨r4,hr4,h⟩:=bindS h
 refine rg (SQ (fa (cl [(500,500)] (A6d r3.1 r4 hr4)) tt)) ?_
 apply A0
 refine ghost (mp [] [(5,(C3 r3.1)),(6,(E7 r4.1)),(7,(i6 r4.2))] [(500,some (.know (globD 0 (.imap gv0))))] hB) ?_
 obtain⟨r5,hr5,h⟩:=bindS h
 refine sr (SQ (fa (cl [] (A92 r3.1 r5 hr5)) tt)) ?_
 apply seq
 refine AWp.cut h (fun m10:Bool=>([(4,(bo m10))]:EL)) (fun m10:Bool=>([(500,some (.know (globD 0 (.imap gv0))))]:OL)) (fun m10 h E' O' hmat => ?_) (fun j11 hjj11 h => ?_)
 ·apply A0
  refine ghost hmat ?_
  apply ret
  obtain rfl:=oi h
  exact rt (kp [(4,_)] [(500,some _)] hB rfl rfl (by rfl)) [(bo m10)] (rT rN) rfl
 ·rcases bft (r4.2==r5.2) with hg12 | hg12
  ·have h:=A5 hg12 h
   obtain⟨r13,hr13,h⟩:=bindS h
   rcases bft r13 with hg14 | hg14
   ·have h:=A5 hg14 h
    obtain⟨r15,hr15,h⟩:=bindS h
    refine rg (SQ (fa hg12 (fa (cl [] (A5a r4.1 r5.1 r13 hr13)) (fa hg14 (fa (cl [(500,500)] (A7w  r15 hr15)) tt))))) ?_
    exact hjj11 _ h _ _ (mp [] _ _ hB)
   ·have h:=A6 hg14 h
    refine rg (SQ (fa hg12 (fa (cl [] (A5a r4.1 r5.1 r13 hr13)) (fa hg14 tt)))) ?_
    exact hjj11 _ h _ _ (mp [] _ _ hB)
  ·have h:=A6 hg12 h
   refine rg (SQ (fa hg12 tt)) ?_
   exact hjj11 _ h _ _ (mp [] _ _ hB)
end
end Go.Proofs.YtkhjkjojjdkidaaGreatDoor
