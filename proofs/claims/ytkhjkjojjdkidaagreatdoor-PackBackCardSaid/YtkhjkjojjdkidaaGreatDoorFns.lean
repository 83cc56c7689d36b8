/- Printed by gen.py: the Go functions as plain functions, and that the code does what they say. -/
import Derived.Test.YtkhjkjojjdkidaaGreatDoorChecked
import Derived.Test.YtkhjkjojjdkidaaGreatDoorVcYB
import Derived.Test.YtkhjkjojjdkidaaGreatDoorVcZ
import Derived.Test.YtkhjkjojjdkidaaGreatDoorVcGC
import Derived.KernelRfl
import Derived.Test.YtkhjkjojjdkidaaGreatDoorVcMD
import Derived.Test.YtkhjkjojjdkidaaGreatDoorVcMQ
import Derived.Test.YtkhjkjojjdkidaaGreatDoorVcSG
import Derived.Test.YtkhjkjojjdkidaaGreatDoorFnsD
import Derived.Test.YtkhjkjojjdkidaaGreatDoorExt
import Derived.Test.YtkhjkjojjdkidaaGreatDoorVcPm
import Derived.Test.YtkhjkjojjdkidaaGreatDoorVcRg
import Derived.Test.YtkhjkjojjdkidaaGreatDoorVcSt
import Derived.Test.YtkhjkjojjdkidaaGreatDoorVcMR
import Derived.Test.YtkhjkjojjdkidaaGreatDoorVcMI
namespace Go.Proofs.YtkhjkjojjdkidaaGreatDoor
open Go Go.Vc
open Tryz
open Go.Vc.OpJ (assign alloc lss pickT pickF extract lenD indexD loadD eqlI gtr callVal leq geq loadR nilP indexS buildSlice lenS fieldD neqI pickAnd pickOr)
set_option maxHeartbeats 4000000
set_option maxRecDepth 100000
noncomputable section
def S4 (a0:D2):Option ((List Int)×Int) :=
 jn (fun m4:(List A1) =>
 (I0 a0.fAnnounce true).bind fun r6 =>
 jn (fun m17:(List A1) =>
 (I0 a0.fWithdraw true).bind fun r19 =>
 jn (fun m24:(List A1) =>
 (A0z m24).bind fun r26 =>
 (if (r26.2 != 0)=true then
 some (([]:List Int),r26.2)
 else
 (I0 a0.fWithdraw false).bind fun r28 =>
 chk (decide ((([(IntKind.u8.wrap (shrI .i64 (r28.length:Int) 8)),(IntKind.u8.wrap (r28.length:Int))]:List Int)++r28).length≤LIM)) <|
 chk (decide (((([(IntKind.u8.wrap (shrI .i64 (r28.length:Int) 8)),(IntKind.u8.wrap (r28.length:Int))]:List Int)++r28)++([(IntKind.u8.wrap (shrI .i64 (r26.1.length:Int) 8)),(IntKind.u8.wrap (r26.1.length:Int))]:List Int)).length≤LIM)) <|
 chk (decide ((((([(IntKind.u8.wrap (shrI .i64 (r28.length:Int) 8)),(IntKind.u8.wrap (r28.length:Int))]:List Int)++r28)++([(IntKind.u8.wrap (shrI .i64 (r26.1.length:Int) 8)),(IntKind.u8.wrap (r26.1.length:Int))]:List Int))++r26.1).length≤LIM)) <|
 (I0 a0.fAnnounce false).bind fun r32 =>
 chk (decide (((((([(IntKind.u8.wrap (shrI .i64 (r28.length:Int) 8)),(IntKind.u8.wrap (r28.length:Int))]:List Int)++r28)++([(IntKind.u8.wrap (shrI .i64 (r26.1.length:Int) 8)),(IntKind.u8.wrap (r26.1.length:Int))]:List Int))++r26.1)++r32).length≤LIM)) <|
 some (((((([(IntKind.u8.wrap (shrI .i64 (r28.length:Int) 8)),(IntKind.u8.wrap (r28.length:Int))]:List Int)++r28)++([(IntKind.u8.wrap (shrI .i64 (r26.1.length:Int) 8)),(IntKind.u8.wrap (r26.1.length:Int))]:List Int))++r26.1)++r32),0))) (fun j25 =>
 (if (decide (0<(r19.length:Int)))=true then
 chk (decide ((([0,2,1]:List Int)++r19).length≤LIM)) <|
 (A22 m17 (A1.mk 128 15 (([0,2,1]:List Int)++r19))).bind fun r36 =>
 j25 r36
 else
 j25 m17))) (fun j18 =>
 (if (decide (0<(r6.length:Int)))=true then
 (M6 a0.fAttrs.fNext).bind fun r38 =>
 chk (decide ((([0,2,1,16]:List Int)++r38).length≤LIM)) <|
 chk (decide (((([0,2,1,16]:List Int)++r38)++([0]:List Int)).length≤LIM)) <|
 chk (decide ((((([0,2,1,16]:List Int)++r38)++([0]:List Int))++r6).length≤LIM)) <|
 (A22 m4 (A1.mk 128 14 (((([0,2,1,16]:List Int)++r38)++([0]:List Int))++r6))).bind fun r42 =>
 j18 r42
 else
 j18 m4))) (fun j5 =>
 (if (decide (0<(a0.fAnnounce.length:Int)))=true then
 (A1t a0.fAttrs).bind fun r44 =>
 (if (r44.2 != 0)=true then
 some (([]:List Int),r44.2)
 else
 j5 r44.1)
 else
 j5 ([]:List A1)))
theorem A4z (a0:D2) (r:(List Int)×Int) (h:S4 a0=some r):AC Tryz.prog 45 [(.d (C4 a0))] [] (.tup [(.d (.list 1 (r.1.map (eI .u8)))),(.d (.int .i64 r.2))]) []:=by
 refine ac2 Tryz.func45 rfl rfl fun B hB hN L => ?_
 delta S4 at h
 refine sr (SQ tt) ?_
 refine sr (SQ tt) ?_
 apply AWp.seq
 refine sr (SQ tt) ?_
 refine gh [(1,_),(4,_),(16,_)] [(1001,some _)] hB rfl rfl (by rfl) ?_
 refine AWp.cut h (fun m4:(List A1)=>([(1,(pt 1001)),(4,(B7 m4))]:EL)) (fun m4:(List A1)=>([(1001,bd 61 (C4 a0))]:OL)) (fun m4 h E' O' hmat => ?_) (fun j5 hjj5 h => ?_)
 ·apply A0
  refine AWp.ghost hmat ?_
  apply AWp.seq
  obtain⟨r6,hr6,h⟩:=bindS h
  refine sr (SQ (fa (cl [] (A0l a0.fAnnounce true r6 hr6)) tt)) ?_
  refine sr (SQ tt) ?_
  refine gh [(1,_),(4,_),(7,_),(32,_)] [(1001,some _)] hB rfl rfl (by rfl) ?_
  refine AWp.cut h (fun m17:(List A1)=>([(1,(pt 1001)),(4,(B7 m17))]:EL)) (fun m17:(List A1)=>([(1001,bd 61 (C4 a0))]:OL)) (fun m17 h E' O' hmat => ?_) (fun j18 hjj18 h => ?_)
  ·apply A0
   refine AWp.ghost hmat ?_
   apply AWp.seq
   obtain⟨r19,hr19,h⟩:=bindS h
   refine sr (SQ (fa (cl [] (A0l a0.fWithdraw true r19 hr19)) tt)) ?_
   refine sr (SQ tt) ?_
   refine gh [(1,_),(4,_),(8,_),(51,_)] [(1001,some _)] hB rfl rfl (by rfl) ?_
   refine AWp.cut h (fun m24:(List A1)=>([(1,(pt 1001)),(4,(B7 m24))]:EL)) (fun m24:(List A1)=>([(1001,bd 61 (C4 a0))]:OL)) (fun m24 h E' O' hmat => ?_) (fun j25 hjj25 h => ?_)
   ·apply A0
    refine AWp.ghost hmat ?_
    obtain⟨r26,hr26,h⟩:=bindS h
    refine sr (SQ (fa (cl [] (A9r m24 r26 hr26)) tt)) ?_
    apply AWp.seq
    refine sr (SQ tt) ?_
    apply AWp.cond rfl<;>intro hg27
    ·have h:=A3 hg27 h
     refine sr (SQ tt) ?_
     apply AWp.ret
     apply B5
     obtain rfl:=oi h
     exact rt (Mat.trans (Mat.coeP (Ts:=[(2,(.d (.list 1 (([]:List Int).map (eI .u8)))))]) (Bs:=[]) (TwT.cons (x:=.nils) (by rfl) (Tw.leaf ⟨_,(Co.nils 1),rfl⟩) TwT.nil) TwB.nil) (mp [] [(2,(.d (.list 1 (([]:List Int).map (eI .u8))))),(3,(i6 r26.2))] [] hB)) [(.d (.list 1 (([]:List Int).map (eI .u8)))),(i6 r26.2)] (Res.tmp (by rfl) (by rfl) (Res.tmp (by rfl) (by rfl) Res.nil)) rfl
    ·have h:=A4 hg27 h
     apply AWp.skip
     apply A0
     obtain⟨r28,hr28,h⟩:=bindS h
     refine sr (SQ (fa (cl [] (A0l a0.fWithdraw false r28 hr28)) tt)) ?_
     obtain⟨hc29,h⟩:=B6 h
     apply sr (c (mv hN (q 11)) rfl (c (OpJ.val (v':=(i6 (r28.length:Int))) (by simp) (lenD underlying67 (L rfl) (q 69))) rfl (c (OpJ.shr (L rfl) (q 70) (Opd.int .u64 (8)) (by decide)) rfl (c (OpJ.conv underlying3 underlying5 (L rfl) (q 71)) rfl (c (mv hN (q 11)) rfl (c (OpJ.val (v':=(i6 (r28.length:Int))) (by simp) (lenD underlying67 (L rfl) (q 73))) rfl (c (OpJ.conv underlying3 underlying5 (L rfl) (q 74)) rfl (cg (OpJ.buildSliceR underlying67 tyS5 tyZD5 (by rfl) (by decide) (by decide) hB (nm:=1076) (by decide) (len:=([(IntKind.u8.wrap (shrI .i64 (r28.length:Int) 8)),(IntKind.u8.wrap (r28.length:Int))]:List Int).length) (by rfl) (Opds.cons (q 72) (Opds.cons (q 75) Opds.nil)) (by kernel_rfl) (es:=([(IntKind.u8.wrap (shrI .i64 (r28.length:Int) 8)),(IntKind.u8.wrap (r28.length:Int))]:List Int).map (eI .u8)) (by rfl) (by rfl) (by kernel_rfl) (by simp) (L rfl)) rfl (c (mv hN (q 11)) rfl (cg (apd hB underlying67 tyE5 1078 (eI .u8) ([(IntKind.u8.wrap (shrI .i64 (r28.length:Int) 8)),(IntKind.u8.wrap (r28.length:Int))]:List Int) r28 hc29 (L rfl) (q 76) (q 77)) rfl (c (assign (L rfl) (q 78)) rfl cn)))))))))))
     obtain⟨hc30,h⟩:=B6 h
     obtain⟨hc31,h⟩:=B6 h
     refine sr (SQ (fa hc30 (fa hc31 tt))) ?_
     obtain⟨r32,hr32,h⟩:=bindS h
     obtain⟨hc33,h⟩:=B6 h
     refine sr (SQ (fa (cl [] (A0l a0.fAnnounce false r32 hr32)) (fa hc33 tt))) ?_
     apply AWp.ret
     obtain rfl:=oi h
     exact rt (Mat.trans (Mat.freezeP (n:=1095) (e:=5) (sz:=1) (es:=((((([(IntKind.u8.wrap (shrI .i64 (r28.length:Int) 8)),(IntKind.u8.wrap (r28.length:Int))]:List Int)++r28)++([(IntKind.u8.wrap (shrI .i64 (r26.1.length:Int) 8)),(IntKind.u8.wrap (r26.1.length:Int))]:List Int))++r26.1)++r32).map (eI .u8)) (Ts:=[(2,(.d (.list 1 (((((([(IntKind.u8.wrap (shrI .i64 (r28.length:Int) 8)),(IntKind.u8.wrap (r28.length:Int))]:List Int)++r28)++([(IntKind.u8.wrap (shrI .i64 (r26.1.length:Int) 8)),(IntKind.u8.wrap (r26.1.length:Int))]:List Int))++r26.1)++r32).map (eI .u8)))))]) (Bs:=[]) (by rfl) (TwT.cons (x:=(.sref 1095 1 0 (((((([(IntKind.u8.wrap (shrI .i64 (r28.length:Int) 8)),(IntKind.u8.wrap (r28.length:Int))]:List Int)++r28)++([(IntKind.u8.wrap (shrI .i64 (r26.1.length:Int) 8)),(IntKind.u8.wrap (r26.1.length:Int))]:List Int))++r26.1)++r32).length))) (by rfl) (FrzL.all (by first | rfl | (simp;done) | (simp;omega) | omega)) TwT.nil) TwB.nil) (mp [] [(2,(.d (.list 1 (((((([(IntKind.u8.wrap (shrI .i64 (r28.length:Int) 8)),(IntKind.u8.wrap (r28.length:Int))]:List Int)++r28)++([(IntKind.u8.wrap (shrI .i64 (r26.1.length:Int) 8)),(IntKind.u8.wrap (r26.1.length:Int))]:List Int))++r26.1)++r32).map (eI .u8))))),(3,(i6 0))] [] hB)) [(.d (.list 1 (((((([(IntKind.u8.wrap (shrI .i64 (r28.length:Int) 8)),(IntKind.u8.wrap (r28.length:Int))]:List Int)++r28)++([(IntKind.u8.wrap (shrI .i64 (r26.1.length:Int) 8)),(IntKind.u8.wrap (r26.1.length:Int))]:List Int))++r26.1)++r32).map (eI .u8)))),(i6 0)] (Res.tmp (by rfl) (by rfl) (Res.tmp (by rfl) (by rfl) Res.nil)) rfl
   ·apply AWp.cond rfl<;>intro hg34
    ·have h:=A3 hg34 h
     obtain⟨hc35,h⟩:=B6 h
     obtain⟨r36,hr36,h⟩:=bindS h
     apply rg (c (mv hN (q 4)) rfl (cg (OpJ.buildSliceR underlying67 tyS5 tyZD5 (by rfl) (by decide) (by decide) hB (nm:=1053) (by decide) (len:=([0,2,1]:List Int).length) (by rfl) (Opds.cons (Opd.int .u8 (0)) (Opds.cons (Opd.int .u8 (2)) (Opds.cons (Opd.int .u8 (1)) Opds.nil))) (by kernel_rfl) (es:=([0,2,1]:List Int).map (eI .u8)) (by rfl) (by rfl) (by kernel_rfl) (by simp) (L rfl)) rfl (c (mv hN (q 8)) rfl (cg (OpJ.frz (apd hB underlying67 tyE5 1055 (eI .u8) ([0,2,1]:List Int) r19 hc35 (L rfl) (q 53) (q 54)) (by simp)) rfl (c (OpJ.coe (v:=(.st [(i6 128),(i6 15),(.d (.list 1 ((([0,2,1]:List Int)++r19).map (eI .u8))))])) (y:=(.st [(.int .i64 128),(.int .i64 15),(.list 1 ((([0,2,1]:List Int)++r19).map (eI .u8)))])) (Co.st (CoL.cons (Co.d _) (CoL.cons (Co.d _) (CoL.cons (Co.d _) CoL.nil)))) rfl (OpJ.build (places:=[(0,1),(1,1),(2,1)]) ⟨underlying69,fun w=>by kernel_rfl⟩ tyZS69 (Opds.cons (ii 128) (Opds.cons (ii 15) (Opds.cons (q 55) Opds.nil))) (by kernel_rfl) (r:=(.st [(i6 128),(i6 15),(.d (.list 1 ((([0,2,1]:List Int)++r19).map (eI .u8))))])) (by rfl) (L rfl))) rfl (cg (OpJ.callFn hB fnOk83 (A69 m17 (A1.mk 128 15 (([0,2,1]:List Int)++r19)) r36 hr36) [] (by kernel_rfl) (L rfl) (by kernel_rfl) (OpdL.cons (q 52) (OpdL.cons (q 56) OpdL.nil))) rfl (c (assign (L rfl) (q 57)) rfl cn)))))))
     exact hjj25 _ h _ _ (mp [] _ _ hB)
    ·have h:=A4 hg34 h
     apply AWp.skip
     exact hjj25 _ h _ _ (mp [] _ _ hB)
  ·apply AWp.cond rfl<;>intro hg37
   ·have h:=A3 hg37 h
    obtain⟨r38,hr38,h⟩:=bindS h
    obtain⟨hc39,h⟩:=B6 h
    obtain⟨hc40,h⟩:=B6 h
    obtain⟨hc41,h⟩:=B6 h
    obtain⟨r42,hr42,h⟩:=bindS h
    apply rg (c (mv hN (q 4)) rfl (cg (OpJ.buildSliceR underlying67 tyS5 tyZD5 (by rfl) (by decide) (by decide) hB (nm:=1034) (by decide) (len:=([0,2,1,16]:List Int).length) (by rfl) (Opds.cons (Opd.int .u8 (0)) (Opds.cons (Opd.int .u8 (2)) (Opds.cons (Opd.int .u8 (1)) (Opds.cons (Opd.int .u8 (16)) Opds.nil)))) (by kernel_rfl) (es:=([0,2,1,16]:List Int).map (eI .u8)) (by rfl) (by rfl) (by kernel_rfl) (by simp) (L rfl)) rfl (c (fo 1001 1 [1] hN underlying61 1 tyS35 (q 1)) rfl (c (fo 1001 3 [1,2] hN underlying35 2 tyS27 (q 35)) rfl (c (lb hN 61 _ _ tyS27 (At.dst1 (by rfl) (by rfl) (ad _) (by first | rfl | omega)) (q 36)) rfl (cg (cf hB fnOk84 (A2q a0.fAttrs.fNext r38 hr38) (L rfl) (OpdL.cons (q 37) OpdL.nil)) rfl (cg (apd hB underlying67 tyE5 1039 (eI .u8) ([0,2,1,16]:List Int) r38 hc39 (L rfl) (q 34) (q 38)) rfl (c (buildSlice underlying67 tyS5 tyZD5 (by rfl) (by decide) (by decide) (Opds.cons (Opd.int .u8 (0)) Opds.nil) (by kernel_rfl) (es:=([(.int .u8 0)]:List D)) (by rfl) (by rfl) (by kernel_rfl) (by simp) (L rfl)) rfl (cg (apd hB underlying67 tyE5 1041 (eI .u8) (([0,2,1,16]:List Int)++r38) ([0]:List Int) hc40 (L rfl) (q 39) (q 40)) rfl (c (mv hN (q 7)) rfl (cg (OpJ.frz (apd hB underlying67 tyE5 1043 (eI .u8) ((([0,2,1,16]:List Int)++r38)++([0]:List Int)) r6 hc41 (L rfl) (q 41) (q 42)) (by simp)) rfl (c (OpJ.coe (v:=(.st [(i6 128),(i6 14),(.d (.list 1 ((((([0,2,1,16]:List Int)++r38)++([0]:List Int))++r6).map (eI .u8))))])) (y:=(.st [(.int .i64 128),(.int .i64 14),(.list 1 ((((([0,2,1,16]:List Int)++r38)++([0]:List Int))++r6).map (eI .u8)))])) (Co.st (CoL.cons (Co.d _) (CoL.cons (Co.d _) (CoL.cons (Co.d _) CoL.nil)))) rfl (OpJ.build (places:=[(0,1),(1,1),(2,1)]) ⟨underlying69,fun w=>by kernel_rfl⟩ tyZS69 (Opds.cons (ii 128) (Opds.cons (ii 14) (Opds.cons (q 43) Opds.nil))) (by kernel_rfl) (r:=(.st [(i6 128),(i6 14),(.d (.list 1 ((((([0,2,1,16]:List Int)++r38)++([0]:List Int))++r6).map (eI .u8))))])) (by rfl) (L rfl))) rfl (cg (OpJ.callFn hB fnOk83 (A69 m4 (A1.mk 128 14 (((([0,2,1,16]:List Int)++r38)++([0]:List Int))++r6)) r42 hr42) [] (by kernel_rfl) (L rfl) (by kernel_rfl) (OpdL.cons (q 33) (OpdL.cons (q 44) OpdL.nil))) rfl (c (assign (L rfl) (q 45)) rfl cn))))))))))))))
    exact hjj18 _ h _ _ (mp [] _ _ hB)
   ·have h:=A4 hg37 h
    apply AWp.skip
    exact hjj18 _ h _ _ (mp [] _ _ hB)
 ·apply AWp.cond rfl<;>intro hg43
  ·have h:=A3 hg43 h
   obtain⟨r44,hr44,h⟩:=bindS h
   refine sr (SQ (fa (cl [] (A8r a0.fAttrs r44 hr44)) tt)) ?_
   apply AWp.seq
   refine sr (SQ tt) ?_
   apply AWp.cond rfl<;>intro hg45
   ·have h:=A3 hg45 h
    refine sr (SQ tt) ?_
    apply AWp.ret
    apply B5
    apply B5
    obtain rfl:=oi h
    exact rt (Mat.trans (Mat.coeP (Ts:=[(2,(.d (.list 1 (([]:List Int).map (eI .u8)))))]) (Bs:=[]) (TwT.cons (x:=.nils) (by rfl) (Tw.leaf ⟨_,(Co.nils 1),rfl⟩) TwT.nil) TwB.nil) (mp [] [(2,(.d (.list 1 (([]:List Int).map (eI .u8))))),(3,(i6 r44.2))] [] hB)) [(.d (.list 1 (([]:List Int).map (eI .u8)))),(i6 r44.2)] (Res.tmp (by rfl) (by rfl) (Res.tmp (by rfl) (by rfl) Res.nil)) rfl
   ·have h:=A4 hg45 h
    apply AWp.skip
    apply A0
    refine rg (SQ tt) ?_
    exact hjj5 _ h _ _ (mp [] _ _ hB)
  ·have h:=A4 hg43 h
   apply AWp.skip
   exact hjj5 _ h _ _ (Mat.trans (Mat.coeP (Ts:=[(4,(B7 ([]:List A1)))]) (Bs:=[]) (TwT.cons (x:=.nils) (by rfl) (Tw.leaf ⟨_,(Co.nils 3),rfl⟩) TwT.nil) TwB.nil) (mp [] _ _ hB))
def R1 (a0:D2) (s4:Int):Option (((Unit)⊕(Unit))⊕(Int)) :=
 (if (decide (s4<((a0.fWithdraw++a0.fAnnounce).length:Int)))=true then
 (idx (a0.fWithdraw++a0.fAnnounce) s4).bind fun _ =>
 (idx (a0.fWithdraw++a0.fAnnounce) s4).bind fun x19 =>
 (A1m x19).bind fun r20 =>
 (if (!r20)=true then
 some (.inl (.inl ()))
 else
 some (.inr (w64 (s4+1))))
 else
 some (.inl (.inr ())))
def R2 (a0:D2) (s30:Int):Option (((Unit)⊕(Unit))⊕(Int)) :=
 (if (decide (s30<(a0.fAnnounce.length:Int)))=true then
 (idx a0.fAnnounce s30).bind fun x52 =>
 jn (fun m55:Bool =>
 (if m55=true then
 some (.inl (.inl ()))
 else
 some (.inr (w64 (s30+1))))) (fun j56 =>
 (if (((x52.fAddr.fV6 != a0.fAttrs.fNext.fV6) || (a0.fAttrs.fOrigin==(-1))) || ((a0.fAttrs.fNext.fV6==false)&&((a0.fAttrs.fNext.fHi==0)&&((a0.fAttrs.fNext.fLo==0)&&true))))=true then
 j56 true
 else
 (U9 a0.fAttrs).bind fun r59 =>
 j56 (!r59)))
 else
 some (.inl (.inr ())))
def P1 (a0:D2):Option (Bool) :=
 (if ((decide (256<(a0.fWithdraw.length:Int))) || (decide (256<(a0.fAnnounce.length:Int))))=true then
 some false
 else
 chk (decide (a0.fWithdraw.length≤LIM)) <|
 chk (decide ((a0.fWithdraw++a0.fAnnounce).length≤LIM)) <|
 (loop (R1 a0) 0).bind fun x22=>match x22 with
 | (.inl _) =>
  some false
 | (.inr _) =>
  jn (fun m27:Bool =>
  (if m27=true then
  some false
  else
  (loop (R2 a0) 0).bind fun x60=>match x60 with
  | (.inl _) =>
   some false
  | (.inr _) =>
   (S4 a0).bind fun r62 =>
   some ((r62.2==0)&&(decide ((r62.1.length:Int)≤4077))))) (fun j28 =>
  (if ((a0.fAnnounce.length:Int)==0)=true then
  (A02).bind fun r64 =>
  (A0y a0.fAttrs r64).bind fun r65 =>
  j28 (!r65)
  else
  j28 false)))
theorem A0m (a0:D2) (r:Bool) (h:P1 a0=some r):AC Tryz.prog 20 [(.d (C4 a0))] [] (.d (.bool r)) []:=by
 refine ac2 Tryz.func20 rfl rfl fun B hB hN L => ?_
 delta P1 at h
 refine sr (SQ tt) ?_
 apply AWp.seq
 refine sr (SQ tt) ?_
 apply AWp.cond rfl<;>intro hg1
 ·have h:=A3 hg1 h
  refine sr (SQ tt) ?_
  apply AWp.ret
  apply B5
  obtain rfl:=oi h
  exact rt (kp [(2,_)] [] hB rfl rfl (by rfl)) [(bo false)] (Res.tmp (by rfl) (by rfl) Res.nil) rfl
 ·have h:=A4 hg1 h
  apply AWp.skip
  apply A0
  apply AWp.seq
  obtain⟨hc2,h⟩:=B6 h
  obtain⟨hc3,h⟩:=B6 h
  refine sdS (SQ (fa hc2 (fa hc3 tt))) ?_
  apply AWp.block
  obtain⟨x22,hx23,h⟩:=bindS h
  refine lg (R1 a0) (fun s4:Int=>([(1,(pt 1001)),(24,(.sref 1024 4 0 ((a0.fWithdraw++a0.fAnnounce).length))),(25,(i6 ((a0.fWithdraw++a0.fAnnounce).length:Int))),(26,(i6 s4))]:EL)) (fun s4:Int=>([(1001,bd 61 (C4 a0)),(1024,some (G0 (a0.fWithdraw++a0.fAnnounce)))]:OL)) (fun(x:(Unit)⊕(Unit)) e E' O'=>match x with | (.inl _p)=>e = .ret∧Mat B E' O' ([(2,(bo false))]:EL) ([]:OL) | (.inr _p)=>e = .exit 0∧Mat B E' O' ([(1,(pt 1001))]:EL) ([(1001,bd 61 (C4 a0))]:OL)) hx23 (mp [] _ _ hB) (fun s4 y h => ?_) (fun e E' O' hR => ?_)
  ·unfold R1 at h
   refine sr (SQ tt) ?_
   apply AWp.seq
   apply AWp.cond rfl<;>intro hg17
   ·have h:=A3 hg17 h
    apply AWp.skip
    apply A0
    apply AWp.seq
    apply AWp.block
    obtain⟨_,hx18,h⟩:=bindS h
    obtain⟨x19,hx19,h⟩:=bindS h
    refine sr (SQ (fa hx18 (fa hx19 tt))) ?_
    obtain⟨r20,hr20,h⟩:=bindS h
    refine sr (SQ (fa (cl [] (A8q x19 r20 hr20)) tt)) ?_
    apply AWp.cond rfl<;>intro hg21
    ·have h:=A3 hg21 h
     refine sr (SQ tt) ?_
     apply AWp.ret
     apply D5
     apply B5
     obtain rfl:=oi h
     exact⟨(fun hc=>by cases hc),rfl,(mp [] _ _ hB)⟩
    ·have h:=A4 hg21 h
     apply AWp.skip
     apply E4
     apply A0
     refine rg (SQ tt) ?_
     obtain rfl:=oi h
     exact⟨rfl,(mp [] _ _ hB)⟩
   ·have h:=A4 hg17 h
    apply AWp.exit
    apply E5
    obtain rfl:=oi h
    exact⟨(fun hc=>by cases hc),rfl,(mp [] _ _ hB)⟩
  ·rcases x22 with _ | _
   ·obtain⟨rfl,hmat⟩:=hR
    apply D5
    apply B5
    obtain rfl:=oi h
    exact rt (Mat.trans hmat (mp [] [(2,(bo false))] [] hB)) [(bo false)] (Res.tmp (by rfl) (by rfl) Res.nil) rfl
   ·obtain⟨rfl,hmat⟩:=hR
    apply C2
    apply A0
    refine AWp.ghost hmat ?_
    apply AWp.seq
    apply AWp.seq
    refine AWp.cut h (fun m27:Bool=>([(1,(pt 1001)),(44,(bo m27))]:EL)) (fun m27:Bool=>([(1001,bd 61 (C4 a0))]:OL)) (fun m27 h E' O' hmat => ?_) (fun j28 hjj28 h => ?_)
    ·apply A0
     refine AWp.ghost hmat ?_
     apply AWp.cond rfl<;>intro hg29
     ·have h:=A3 hg29 h
      refine sr (SQ tt) ?_
      apply AWp.ret
      apply B5
      obtain rfl:=oi h
      exact rt (kp [(2,_)] [] hB rfl rfl (by rfl)) [(bo false)] (Res.tmp (by rfl) (by rfl) Res.nil) rfl
     ·have h:=A4 hg29 h
      apply AWp.skip
      apply A0
      apply AWp.seq
      refine sr (SQ tt) ?_
      apply AWp.block
      obtain⟨x60,hx61,h⟩:=bindS h
      refine lg (R2 a0) (fun s30:Int=>([(1,(pt 1001)),(46,(D6 a0.fAnnounce)),(47,(i6 (a0.fAnnounce.length:Int))),(48,(i6 s30))]:EL)) (fun s30:Int=>([(1001,bd 61 (C4 a0))]:OL)) (fun(x:(Unit)⊕(Unit)) e E' O'=>match x with | (.inl _p)=>e = .ret∧Mat B E' O' ([(2,(bo false))]:EL) ([]:OL) | (.inr _p)=>e = .exit 2∧Mat B E' O' ([(1,(pt 1001))]:EL) ([(1001,bd 61 (C4 a0))]:OL)) hx61 (mp [] _ _ hB) (fun s30 y h => ?_) (fun e E' O' hR => ?_)
      ·unfold R2 at h
       refine sr (SQ tt) ?_
       apply AWp.seq
       apply AWp.cond rfl<;>intro hg51
       ·have h:=A3 hg51 h
        apply AWp.skip
        apply A0
        apply AWp.seq
        apply AWp.block
        obtain⟨x52,hx52,h⟩:=bindS h
        refine sr (SQ (fa hx52 tt)) ?_
        apply AWp.seq
        refine AWp.cut h (fun m55:Bool=>([(1,(pt 1001)),(46,(D6 a0.fAnnounce)),(47,(i6 (a0.fAnnounce.length:Int))),(48,(i6 s30)),(78,(bo m55))]:EL)) (fun m55:Bool=>([(1001,bd 61 (C4 a0))]:OL)) (fun m55 h E' O' hmat => ?_) (fun j56 hjj56 h => ?_)
        ·apply A0
         refine AWp.ghost hmat ?_
         apply AWp.cond rfl<;>intro hg57
         ·have h:=A3 hg57 h
          refine sr (SQ tt) ?_
          apply AWp.ret
          apply D5
          apply B5
          obtain rfl:=oi h
          exact⟨(fun hc=>by cases hc),rfl,(mp [] _ _ hB)⟩
         ·have h:=A4 hg57 h
          apply AWp.skip
          apply E4
          apply A0
          refine rg (SQ tt) ?_
          obtain rfl:=oi h
          exact⟨rfl,(mp [] _ _ hB)⟩
        ·rcases bft (((x52.fAddr.fV6 != a0.fAttrs.fNext.fV6) || (a0.fAttrs.fOrigin==(-1))) || ((a0.fAttrs.fNext.fV6==false)&&((a0.fAttrs.fNext.fHi==0)&&((a0.fAttrs.fNext.fLo==0)&&true)))) with hg58 | hg58
         ·have h:=A3 hg58 h
          apply rg (c (fo 1006 0 [0] hN underlying29 0 tyS27 (q 6)) rfl (c (fo 1006 0 [0,0] hN underlying27 0 tyS4 (q 52)) rfl (c (lb hN 29 _ _ tyS4 (At.dst1 (by rfl) (by rfl) (ad _) (by first | rfl | omega)) (q 53)) rfl (c (fo 1001 1 [1] hN underlying61 1 tyS35 (q 1)) rfl (c (fo 1001 3 [1,2] hN underlying35 2 tyS27 (q 55)) rfl (c (fo 1001 3 [1,2,0] hN underlying27 0 tyS4 (q 56)) rfl (c (lb hN 61 _ _ tyS4 (At.dst1 (by rfl) (by rfl) (At.dst1 (by rfl) (by rfl) (ad _) (by first | rfl | omega)) (by first | rfl | omega)) (q 57)) rfl (c (OpJ.neqB underlying4 (L rfl) (q 54) (q 58)) rfl (c (mv hN (q 59)) rfl (c (oq hN 60 (fo 1001 1 [1] hN underlying61 1 tyS35 (q 1)) (OptL.keep (by rfl) OptL.nil) (GuardV.plain _)) rfl (c (oq hN 60 (fo 1001 1 [1,0] hN underlying35 0 tyS3 (q 61)) (OptL.opt OptL.nil) (GuardV.plain _)) rfl (c (oq hN 60 (lb hN 61 _ _ tyS3 (At.dst1 (by rfl) (by rfl) (ad _) (by first | rfl | omega)) (q 62)) (OptL.opt OptL.nil) (GuardV.plain _)) rfl (c (oq hN 60 (eqlI (L rfl) (q 63) (ii (-1))) (OptL.opt OptL.nil) (GuardV.plain _)) rfl (c (pickOr rfl (L rfl) (q 60) (q 64)) rfl (c (mv hN (q 65)) rfl (c (oq hN 66 (fo 1001 1 [1] hN underlying61 1 tyS35 (q 1)) (OptL.keep (by rfl) OptL.nil) (GuardV.plain _)) rfl (c (oq hN 66 (fo 1001 3 [1,2] hN underlying35 2 tyS27 (q 67)) (OptL.opt OptL.nil) (GuardV.plain _)) rfl (c (oq hN 66 (lb hN 61 _ _ tyS27 (At.dst1 (by rfl) (by rfl) (ad _) (by first | rfl | omega)) (q 68)) (OptL.opt OptL.nil) (GuardV.plain _)) rfl (c (oq hN 66 (OpJ.coe (v:=(.st [(bo false),(.d (.int .u64 0)),(.d (.int .u64 0))])) (y:=(.st [(.bool false),(.int .u64 0),(.int .u64 0)])) (Co.st (CoL.cons (Co.d _) (CoL.cons (Co.d _) (CoL.cons (Co.d _) CoL.nil)))) rfl (OpJ.build (places:=[(0,1),(1,1),(2,1)]) ⟨underlying27,fun w=>by kernel_rfl⟩ tyZS27 Opds.nil (by kernel_rfl) (r:=(.st [(bo false),(.d (.int .u64 0)),(.d (.int .u64 0))])) (by rfl) (L rfl))) OptL.nil (GuardV.plain _)) rfl (c (oq hN 66 (OpJ.eqlD (h:=2) (FitE.st underlying27 rfl held27 (FitF.cons (x:=(.bool a0.fAttrs.fNext.fV6)) (y:=(.bool false)) (by decide) rfl tyS4 ⟨rfl,rfl⟩ ⟨rfl,rfl⟩ (FitE.bool (h:=0) a0.fAttrs.fNext.fV6 false underlying4) (FitF.cons (x:=(.int .u64 a0.fAttrs.fNext.fHi)) (y:=(.int .u64 0)) (by decide) rfl tyS25 ⟨rfl,rfl⟩ ⟨rfl,rfl⟩ (FitE.int (h:=0) a0.fAttrs.fNext.fHi 0 underlying25) (FitF.cons (x:=(.int .u64 a0.fAttrs.fNext.fLo)) (y:=(.int .u64 0)) (by decide) rfl tyS25 ⟨rfl,rfl⟩ ⟨rfl,rfl⟩ (FitE.int (h:=0) a0.fAttrs.fNext.fLo 0 underlying25) FitF.nil)))) eqg27 ⟨rfl,rfl⟩ (by rfl) (L rfl) (q 69) (q 70)) (OptL.opt (OptL.opt OptL.nil)) (GuardV.plain _)) rfl (c (pickOr rfl (L rfl) (q 66) (q 71)) rfl (c (OpJ.val (v':=.d (.bool true)) (by rw [hg58]<;>rfl) (mv hN (q 72))) rfl (ks 73 (L rfl) (ks 73 (L rfl) (ks 73 (L rfl) (ks 73 (L rfl) (c (pickT (L rfl) (q 73) (Opd.bool true)) rfl cn)))))))))))))))))))))))))))
          exact hjj56 _ h _ _ (mp [] _ _ hB)
         ·have h:=A4 hg58 h
          obtain⟨r59,hr59,h⟩:=bindS h
          apply rg (c (fo 1006 0 [0] hN underlying29 0 tyS27 (q 6)) rfl (c (fo 1006 0 [0,0] hN underlying27 0 tyS4 (q 52)) rfl (c (lb hN 29 _ _ tyS4 (At.dst1 (by rfl) (by rfl) (ad _) (by first | rfl | omega)) (q 53)) rfl (c (fo 1001 1 [1] hN underlying61 1 tyS35 (q 1)) rfl (c (fo 1001 3 [1,2] hN underlying35 2 tyS27 (q 55)) rfl (c (fo 1001 3 [1,2,0] hN underlying27 0 tyS4 (q 56)) rfl (c (lb hN 61 _ _ tyS4 (At.dst1 (by rfl) (by rfl) (At.dst1 (by rfl) (by rfl) (ad _) (by first | rfl | omega)) (by first | rfl | omega)) (q 57)) rfl (c (OpJ.neqB underlying4 (L rfl) (q 54) (q 58)) rfl (c (mv hN (q 59)) rfl (c (oq hN 60 (fo 1001 1 [1] hN underlying61 1 tyS35 (q 1)) (OptL.keep (by rfl) OptL.nil) (GuardV.plain _)) rfl (c (oq hN 60 (fo 1001 1 [1,0] hN underlying35 0 tyS3 (q 61)) (OptL.opt OptL.nil) (GuardV.plain _)) rfl (c (oq hN 60 (lb hN 61 _ _ tyS3 (At.dst1 (by rfl) (by rfl) (ad _) (by first | rfl | omega)) (q 62)) (OptL.opt OptL.nil) (GuardV.plain _)) rfl (c (oq hN 60 (eqlI (L rfl) (q 63) (ii (-1))) (OptL.opt OptL.nil) (GuardV.plain _)) rfl (c (pickOr rfl (L rfl) (q 60) (q 64)) rfl (c (mv hN (q 65)) rfl (c (oq hN 66 (fo 1001 1 [1] hN underlying61 1 tyS35 (q 1)) (OptL.keep (by rfl) OptL.nil) (GuardV.plain _)) rfl (c (oq hN 66 (fo 1001 3 [1,2] hN underlying35 2 tyS27 (q 67)) (OptL.opt OptL.nil) (GuardV.plain _)) rfl (c (oq hN 66 (lb hN 61 _ _ tyS27 (At.dst1 (by rfl) (by rfl) (ad _) (by first | rfl | omega)) (q 68)) (OptL.opt OptL.nil) (GuardV.plain _)) rfl (c (oq hN 66 (OpJ.coe (v:=(.st [(bo false),(.d (.int .u64 0)),(.d (.int .u64 0))])) (y:=(.st [(.bool false),(.int .u64 0),(.int .u64 0)])) (Co.st (CoL.cons (Co.d _) (CoL.cons (Co.d _) (CoL.cons (Co.d _) CoL.nil)))) rfl (OpJ.build (places:=[(0,1),(1,1),(2,1)]) ⟨underlying27,fun w=>by kernel_rfl⟩ tyZS27 Opds.nil (by kernel_rfl) (r:=(.st [(bo false),(.d (.int .u64 0)),(.d (.int .u64 0))])) (by rfl) (L rfl))) OptL.nil (GuardV.plain _)) rfl (c (oq hN 66 (OpJ.eqlD (h:=2) (FitE.st underlying27 rfl held27 (FitF.cons (x:=(.bool a0.fAttrs.fNext.fV6)) (y:=(.bool false)) (by decide) rfl tyS4 ⟨rfl,rfl⟩ ⟨rfl,rfl⟩ (FitE.bool (h:=0) a0.fAttrs.fNext.fV6 false underlying4) (FitF.cons (x:=(.int .u64 a0.fAttrs.fNext.fHi)) (y:=(.int .u64 0)) (by decide) rfl tyS25 ⟨rfl,rfl⟩ ⟨rfl,rfl⟩ (FitE.int (h:=0) a0.fAttrs.fNext.fHi 0 underlying25) (FitF.cons (x:=(.int .u64 a0.fAttrs.fNext.fLo)) (y:=(.int .u64 0)) (by decide) rfl tyS25 ⟨rfl,rfl⟩ ⟨rfl,rfl⟩ (FitE.int (h:=0) a0.fAttrs.fNext.fLo 0 underlying25) FitF.nil)))) eqg27 ⟨rfl,rfl⟩ (by rfl) (L rfl) (q 69) (q 70)) (OptL.opt (OptL.opt OptL.nil)) (GuardV.plain _)) rfl (c (pickOr rfl (L rfl) (q 66) (q 71)) rfl (c (OpJ.val (v':=.d (.bool false)) (by rw [hg58]<;>rfl) (mv hN (q 72))) rfl (c (gd 73 (fo 1001 1 [1] hN underlying61 1 tyS35 (q 1))) rfl (c (gd 73 (la hN 61 tyS35 (q 74))) rfl (cg (gd 73 (cf hB fnOk44 (A4y a0.fAttrs r59 hr59) (L rfl) (OpdL.cons (q 75) OpdL.nil))) rfl (c (gd 73 (OpJ.not (L rfl) (q 76))) rfl (c (pickF (L rfl) (q 73) (q 77)) rfl cn)))))))))))))))))))))))))))
          exact hjj56 _ h _ _ (mp [] _ _ hB)
       ·have h:=A4 hg51 h
        apply AWp.exit
        apply E5
        obtain rfl:=oi h
        exact⟨(fun hc=>by cases hc),rfl,(mp [] _ _ hB)⟩
      ·rcases x60 with _ | _
       ·obtain⟨rfl,hmat⟩:=hR
        apply D5
        apply B5
        obtain rfl:=oi h
        exact rt (Mat.trans hmat (mp [] [(2,(bo false))] [] hB)) [(bo false)] (Res.tmp (by rfl) (by rfl) Res.nil) rfl
       ·obtain⟨rfl,hmat⟩:=hR
        apply C2
        apply A0
        refine AWp.ghost hmat ?_
        obtain⟨r62,hr62,h⟩:=bindS h
        refine sr (SQ (fa (cl [] (A4z a0 r62 hr62)) tt)) ?_
        refine sr (SQ tt) ?_
        apply AWp.ret
        obtain rfl:=oi h
        exact rt (kp [(2,_)] [] hB rfl rfl (by rfl)) [(bo ((r62.2==0)&&(decide ((r62.1.length:Int)≤4077))))] (Res.tmp (by rfl) (by rfl) Res.nil) rfl
    ·rcases bft ((a0.fAnnounce.length:Int)==0) with hg63 | hg63
     ·have h:=A3 hg63 h
      obtain⟨r64,hr64,h⟩:=bindS h
      obtain⟨r65,hr65,h⟩:=bindS h
      refine drS (SQ (fa hg63 (fa (cl [] (A2p r64 hr64)) (fa (cl [] (A9p a0.fAttrs r64 r65 hr65)) tt)))) ?_
      exact hjj28 _ h _ _ (mp [] _ _ hB)
     ·have h:=A4 hg63 h
      refine drS (SQ (fa hg63 tt)) ?_
      exact hjj28 _ h _ _ (mp [] _ _ hB)
def Z4 (a1:Int) (s1:Int×(List A6)×A9):Option (((A9×(List A6)))⊕(Int×(List A6)×A9)) :=
 (if (decide (s1.1<a1))=true then
 (F4 s1.2.2 3).bind fun r26 =>
 jn (fun m30:Bool×Int×Int×Int×(List B0)×Int×Int×Int×Int×(List B3)×(List E6)×(List A1)×A9 =>
 chk (decide ((s1.2.1++[(A6.mk 5 (A2.mk (C7.mk false 0 (bitI .or .u64 335544320 (shlI .u64 (IntKind.u64.wrap s1.1) 8))) 24) m30.1 (D0.mk (A2.mk (C7.mk false 0 m30.2.1) m30.2.2.1) m30.2.2.2.1 (C6.mk 0 m30.2.2.2.2.1 (C7.mk false 0 m30.2.2.2.2.2.1) m30.2.2.2.2.2.2.1 m30.2.2.2.2.2.2.2.1 m30.2.2.2.2.2.2.2.2.1 m30.2.2.2.2.2.2.2.2.2.1 m30.2.2.2.2.2.2.2.2.2.2.1 m30.2.2.2.2.2.2.2.2.2.2.2.1)))]).length≤LIM)) <|
 some (.inr ((w64 (s1.1+1)),(s1.2.1++[(A6.mk 5 (A2.mk (C7.mk false 0 (bitI .or .u64 335544320 (shlI .u64 (IntKind.u64.wrap s1.1) 8))) 24) m30.1 (D0.mk (A2.mk (C7.mk false 0 m30.2.1) m30.2.2.1) m30.2.2.2.1 (C6.mk 0 m30.2.2.2.2.1 (C7.mk false 0 m30.2.2.2.2.2.1) m30.2.2.2.2.2.2.1 m30.2.2.2.2.2.2.2.1 m30.2.2.2.2.2.2.2.2.1 m30.2.2.2.2.2.2.2.2.2.1 m30.2.2.2.2.2.2.2.2.2.2.1 m30.2.2.2.2.2.2.2.2.2.2.2.1)))]),m30.2.2.2.2.2.2.2.2.2.2.2.2))) (fun j31 =>
 (if (decide (0<r26.1))=true then
 (A02).bind fun r34 =>
 (F4 r26.2 2).bind fun r35 =>
 j31 (true,(bitI .or .u64 335544320 (shlI .u64 (IntKind.u64.wrap s1.1) 8)),24,101,([(B0.mk false ([101]:List Int))]:List B0),7,r35.1,r34.fPref,r34.fOTC,r34.fCommunities,r34.fLarge,r34.fOther,r35.2)
 else
 j31 (false,0,0,0,([]:List B0),0,0,0,0,([]:List B3),([]:List E6),([]:List A1),r26.2)))
 else
 some (.inl (s1.2.2,s1.2.1)))
def A2j (a0:A9) (a1:Int):Option ((List A6)×A9) :=
 (loop (Z4 a1) (0,([]:List A6),a0)).bind fun p24 =>
 some (p24.2,p24.1)
theorem A9s (a0:A9) (a1:Int) (r:(List A6)×A9) (h:A2j a0 a1=some r):AC Tryz.prog 18 [(pt 0),(.d (.int .i64 a1))] [(0,(.box 71 (.d (D1 a0))))] (.d (.list 22 (r.1.map E7))) [(0,bd 71 (D1 r.2))]:=by
 refine ac2 Tryz.func18 rfl rfl fun B hB hN L => ?_
 delta A2j at h
 refine sr (SQ tt) ?_
 refine sr (SQ tt) ?_
 apply AWp.seq
 refine sr (SQ tt) ?_
 apply AWp.block
 obtain⟨p24,hx37,h⟩:=bindS h
 refine lg (Z4 a1) (fun s1:Int×(List A6)×A9=>([(0,(pt 0)),(1,(i6 a1)),(5,(.sref 3005 22 0 s1.2.1.length)),(6,(i6 s1.1))]:EL)) (fun s1:Int×(List A6)×A9=>([(0,bd 71 (D1 s1.2.2)),(3005,some (F5 s1.2.1))]:OL)) (fun(p24:(A9×(List A6))) e E' O'=>e = .exit 0∧Mat B E' O' ([(5,(.sref 3005 22 0 p24.2.length))]:EL) ([(0,bd 71 (D1 p24.1)),(3005,some (F5 p24.2))]:OL)) hx37 (Mat.trans (Mat.beginP (n:=3005) (e:=39) (sz:=22) (Ts:=[(5,(.sref 3005 22 0 0))]) (Bs:=[]) hB (by decide) (by rfl) (by decide) (TwT.cons (x:=.nils) (by rfl) (Tw.leaf ⟨rfl,rfl⟩) TwT.nil) TwB.nil) (mp [] _ _ hB)) (fun s1 y h => ?_) (fun e E' O' hR => ?_)
 ·unfold Z4 at h
  apply AWp.seq
  refine sr (SQ tt) ?_
  apply AWp.cond rfl<;>intro hg25
  ·have h:=A3 hg25 h
   apply AWp.skip
   apply A0
   apply AWp.seq
   apply AWp.block
   refine sr (SQ tt) ?_
   apply AWp.seq
   apply AWp.seq
   obtain⟨r26,hr26,h⟩:=bindS h
   refine rg (SQ (fa (cl [(0,0)] (G9 s1.2.2 3 r26 hr26)) tt)) ?_
   apply A0
   refine AWp.ghost (mp [] [(0,(pt 0)),(1,(i6 a1)),(5,(.sref 3005 22 0 s1.2.1.length)),(6,(i6 s1.1)),(7,(pt 1007)),(23,(bo (decide (0<r26.1))))] [(0,bd 71 (D1 r26.2)),(1007,some (.box 39 (.st [(i6 5),(.d (.st [(.st [(.bool false),(.int .u64 0),(.int .u64 (bitI .or .u64 335544320 (shlI .u64 (IntKind.u64.wrap s1.1) 8)))]),(.int .i64 24)])),(bo false),(.st [(.d (.st [(.st [(.bool false),(.int .u64 0),(.int .u64 0)]),(.int .i64 0)])),(i6 0),(.st [(i6 0),.nils,(.d (.st [(.bool false),(.int .u64 0),(.int .u64 0)])),(i6 0),(i6 0),(i6 0),.nils,.nils,.nils])])]))),(3005,some (F5 s1.2.1))] hB) ?_
   refine AWp.cut h (fun m30:Bool×Int×Int×Int×(List B0)×Int×Int×Int×Int×(List B3)×(List E6)×(List A1)×A9=>([(0,(pt 0)),(1,(i6 a1)),(5,(.sref 3005 22 0 s1.2.1.length)),(6,(i6 s1.1)),(7,(pt 1007))]:EL)) (fun m30:Bool×Int×Int×Int×(List B0)×Int×Int×Int×Int×(List B3)×(List E6)×(List A1)×A9=>([(0,bd 71 (D1 m30.2.2.2.2.2.2.2.2.2.2.2.2)),(1007,some (.box 39 (.st [(i6 5),(.d (.st [(.st [(.bool false),(.int .u64 0),(.int .u64 (bitI .or .u64 335544320 (shlI .u64 (IntKind.u64.wrap s1.1) 8)))]),(.int .i64 24)])),(bo m30.1),(.d (.st [(.st [(.st [(.bool false),(.int .u64 0),(.int .u64 m30.2.1)]),(.int .i64 m30.2.2.1)]),(.int .i64 m30.2.2.2.1),(.st [(.int .i64 0),(.list 2 (m30.2.2.2.2.1.map C3)),(.st [(.bool false),(.int .u64 0),(.int .u64 m30.2.2.2.2.2.1)]),(.int .i64 m30.2.2.2.2.2.2.1),(.int .i64 m30.2.2.2.2.2.2.2.1),(.int .i64 m30.2.2.2.2.2.2.2.2.1),(.list 2 (m30.2.2.2.2.2.2.2.2.2.1.map B4)),(.list 3 (m30.2.2.2.2.2.2.2.2.2.2.1.map D9)),(.list 3 (m30.2.2.2.2.2.2.2.2.2.2.2.1.map A8))])]))]))),(3005,some (F5 s1.2.1))]:OL)) (fun m30 h E' O' hmat => ?_) (fun j31 hjj31 h => ?_)
   ·apply A0
    refine AWp.ghost hmat ?_
    obtain⟨hc32,h⟩:=B6 h
    refine rg (SQ (fa hc32 tt)) ?_
    apply E4
    apply A0
    refine rg (SQ tt) ?_
    obtain rfl:=oi h
    exact⟨rfl,(mp [(3005,1044)] _ _ hB)⟩
   ·apply AWp.cond rfl<;>intro hg33
    ·have h:=A3 hg33 h
     refine sr (SQ tt) ?_
     obtain⟨r34,hr34,h⟩:=bindS h
     refine sr (SQ (fa (cl [] (A2p r34 hr34)) tt)) ?_
     apply AWp.seq
     obtain⟨r35,hr35,h⟩:=bindS h
     refine rg (SQ (fa (cl [(0,0)] (G9 r26.2 2 r35 hr35)) tt)) ?_
     apply A0
     refine AWp.ghost (mp [] [(0,(pt 0)),(1,(i6 a1)),(5,(.sref 3005 22 0 s1.2.1.length)),(6,(i6 s1.1)),(7,(pt 1007)),(8,(pt 1008))] [(0,bd 71 (D1 r35.2)),(1007,some (.box 39 (.st [(i6 5),(.d (.st [(.st [(.bool false),(.int .u64 0),(.int .u64 (bitI .or .u64 335544320 (shlI .u64 (IntKind.u64.wrap s1.1) 8)))]),(.int .i64 24)])),(bo true),(.st [(.d (.st [(.st [(.bool false),(.int .u64 0),(.int .u64 0)]),(.int .i64 0)])),(i6 0),(.st [(i6 0),.nils,(.d (.st [(.bool false),(.int .u64 0),(.int .u64 0)])),(i6 0),(i6 0),(i6 0),.nils,.nils,.nils])])]))),(1008,some (.box 35 (.d (.st [(.int .i64 0),(.list 2 (([(B0.mk false ([101]:List Int))]:List B0).map C3)),(.st [(.bool false),(.int .u64 0),(.int .u64 7)]),(.int .i64 r35.1),(.int .i64 r34.fPref),(.int .i64 r34.fOTC),(.list 2 (r34.fCommunities.map B4)),(.list 3 (r34.fLarge.map D9)),(.list 3 (r34.fOther.map A8))])))),(3005,some (F5 s1.2.1))] hB) ?_
     refine rg (SQ tt) ?_
     exact hjj31 _ h _ _ (mp [] _ _ hB)
    ·have h:=A4 hg33 h
     apply AWp.skip
     exact hjj31 _ h _ _ (Mat.trans (Mat.coeP (Ts:=[]) (Bs:=[(1007,some (.box 39 (.st [(i6 5),(.d (.st [(.st [(.bool false),(.int .u64 0),(.int .u64 (bitI .or .u64 335544320 (shlI .u64 (IntKind.u64.wrap s1.1) 8)))]),(.int .i64 24)])),(bo false),(.d (.st [(.st [(.st [(.bool false),(.int .u64 0),(.int .u64 0)]),(.int .i64 0)]),(.int .i64 0),(.st [(.int .i64 0),(.list 2 (([]:List B0).map C3)),(.st [(.bool false),(.int .u64 0),(.int .u64 0)]),(.int .i64 0),(.int .i64 0),(.int .i64 0),(.list 2 (([]:List B3).map B4)),(.list 3 (([]:List E6).map D9)),(.list 3 (([]:List A1).map A8))])]))])))]) TwT.nil (TwB.cons (x:=(.st [(i6 5),(.d (.st [(.st [(.bool false),(.int .u64 0),(.int .u64 (bitI .or .u64 335544320 (shlI .u64 (IntKind.u64.wrap s1.1) 8)))]),(.int .i64 24)])),(bo false),(.st [(.d (.st [(.st [(.bool false),(.int .u64 0),(.int .u64 0)]),(.int .i64 0)])),(i6 0),(.st [(i6 0),.nils,(.d (.st [(.bool false),(.int .u64 0),(.int .u64 0)])),(i6 0),(i6 0),(i6 0),.nils,.nils,.nils])])])) (by rfl) (Tw.st (TwL.cons (Tw.same _) (TwL.cons (Tw.same _) (TwL.cons (Tw.same _) (TwL.cons (Tw.leaf ⟨_,(Co.st (CoL.cons (Co.d _) (CoL.cons (Co.d _) (CoL.cons (Co.st (CoL.cons (Co.d _) (CoL.cons (Co.nils 2) (CoL.cons (Co.d _) (CoL.cons (Co.d _) (CoL.cons (Co.d _) (CoL.cons (Co.d _) (CoL.cons (Co.nils 2) (CoL.cons (Co.nils 3) (CoL.cons (Co.nils 3) CoL.nil)))))))))) CoL.nil)))),rfl⟩) TwL.nil))))) TwB.nil)) (mp [] _ _ hB))
  ·have h:=A4 hg25 h
   apply AWp.exit
   apply E5
   obtain rfl:=oi h
   exact⟨(fun hc=>by cases hc),rfl,(mp [] _ _ hB)⟩
 ·obtain⟨rfl,hmat⟩:=hR
  apply C2
  apply A0
  refine AWp.ghost hmat ?_
  refine sr (SQ tt) ?_
  apply AWp.ret
  obtain rfl:=oi h
  exact rt (Mat.trans (Mat.freezeP (n:=3005) (e:=39) (sz:=22) (es:=p24.2.map E7) (Ts:=[(4,(D3 p24.2))]) (Bs:=[]) (by rfl) (TwT.cons (x:=(.sref 3005 22 0 p24.2.length)) (by rfl) (FrzL.all (by first | rfl | (simp;done) | (simp;omega) | omega)) TwT.nil) TwB.nil) (mp [] [(4,(D3 p24.2))] [(0,bd 71 (D1 p24.1))] hB)) [(D3 p24.2)] (Res.tmp (by rfl) (by rfl) Res.nil) rfl
def A0e (a0:D2):Option ((List Int)×Int) :=
 (P1 a0).bind fun r1 =>
 (if (!r1)=true then
 some (([]:List Int),1)
 else
 (S4 a0).bind fun r3 =>
 some (r3.1,r3.2))
theorem A7m (a0:D2) (r:(List Int)×Int) (h:A0e a0=some r):AC Tryz.prog 46 [(.d (C4 a0))] [] (.tup [(.d (.list 1 (r.1.map (eI .u8)))),(.d (.int .i64 r.2))]) []:=by
 refine AC.of_code2 Tryz.func46 rfl rfl (Nat.le_of_ble_eq_true (by rfl)) fun B hB hN => ?_
 delta A0e at h
 refine sr (SQ tt) ?_
 apply AWp.seq
 obtain⟨r1,hr1,h⟩:=bindS h
 refine sr (SQ (fa (cl [] (A0m a0 r1 hr1)) tt)) ?_
 apply AWp.cond rfl<;>intro hg2
 ·have h:=A3 hg2 h
  refine sr (SQ tt) ?_
  apply AWp.ret
  apply B5
  obtain rfl:=oi h
  exact rt (Mat.trans (Mat.coeP (Ts:=[(2,(.d (.list 1 (([]:List Int).map (eI .u8)))))]) (Bs:=[]) (TwT.cons (x:=.nils) (by rfl) (Tw.leaf ⟨_,(Co.nils 1),rfl⟩) TwT.nil) TwB.nil) (mp [] [(2,(.d (.list 1 (([]:List Int).map (eI .u8))))),(3,(i6 1))] [] hB)) [(.d (.list 1 (([]:List Int).map (eI .u8)))),(i6 1)] (Res.tmp (by rfl) (by rfl) (Res.tmp (by rfl) (by rfl) Res.nil)) rfl
 ·have h:=A4 hg2 h
  apply AWp.skip
  apply A0
  obtain⟨r3,hr3,h⟩:=bindS h
  refine sr (SQ (fa (cl [] (A4z a0 r3 hr3)) tt)) ?_
  apply AWp.ret
  obtain rfl:=oi h
  exact rt (kp [(2,_),(3,_)] [] hB rfl rfl (by rfl)) [(.d (.list 1 (r3.1.map (eI .u8)))),(i6 r3.2)] (Res.tmp (by rfl) (by rfl) (Res.tmp (by rfl) (by rfl) Res.nil)) rfl
def Z5 (a0:D2):Option (Int) :=
 (A0e a0).bind fun r1 =>
 (if (r1.2 != 0)=true then
 some 0
 else
 some (w64 (19+(r1.1.length:Int))))
theorem A9t (a0:D2) (r:Int) (h:Z5 a0=some r):AC Tryz.prog 21 [(.d (C4 a0))] [] (.d (.int .i64 r)) []:=by
 refine AC.of_code2 Tryz.func21 rfl rfl (Nat.le_of_ble_eq_true (by rfl)) fun B hB hN => ?_
 delta Z5 at h
 refine sr (SQ tt) ?_
 obtain⟨r1,hr1,h⟩:=bindS h
 refine sr (SQ (fa (cl [] (A7m a0 r1 hr1)) tt)) ?_
 apply AWp.seq
 refine sr (SQ tt) ?_
 apply AWp.cond rfl<;>intro hg2
 ·have h:=A3 hg2 h
  refine sr (SQ tt) ?_
  apply AWp.ret
  apply B5
  obtain rfl:=oi h
  exact rt (kp [(2,_)] [] hB rfl rfl (by rfl)) [(i6 0)] (Res.tmp (by rfl) (by rfl) Res.nil) rfl
 ·have h:=A4 hg2 h
  apply AWp.skip
  apply A0
  refine sr (SQ tt) ?_
  apply AWp.ret
  obtain rfl:=oi h
  exact rt (kp [(2,_)] [] hB rfl rfl (by rfl)) [(i6 (w64 (19+(r1.1.length:Int))))] (Res.tmp (by rfl) (by rfl) Res.nil) rfl
def L9 (x441:(List A6)) (x543:A6) (s544:Int):Option (((Unit)⊕(Unit))⊕(Int)) :=
 (if (decide (s544<(x441.length:Int)))=true then
 (idx x441 s544).bind fun x570 =>
 jn (fun m574:Bool =>
 (if m574=true then
 some (.inl (.inl ()))
 else
 some (.inr (w64 (s544+1))))) (fun j575 =>
 (if (((x570.fPrefix.fAddr.fV6==x543.fPrefix.fAddr.fV6)&&((x570.fPrefix.fAddr.fHi==x543.fPrefix.fAddr.fHi)&&((x570.fPrefix.fAddr.fLo==x543.fPrefix.fAddr.fLo)&&true)))&&((x570.fPrefix.fLen==x543.fPrefix.fLen)&&true))=true then
 (if (x570.fHas != x543.fHas)=true then
 j575 true
 else
 (J6 x570.fRoute x543.fRoute).bind fun r579 =>
 j575 (!r579))
 else
 j575 false))
 else
 some (.inl (.inr ())))
def M0 (x441:(List A6)) (r444:(List A6)) (s445:Int×Int×(List (A2×Int))):Option (((Unit)⊕((List (A2×Int))))⊕(Int×Int×(List (A2×Int)))) :=
 (if (decide (s445.2.1<(r444.length:Int)))=true then
 (idx r444 s445.2.1).bind fun x543 =>
 (loop (L9 x441 x543) 0).bind fun x580=>match x580 with
 | (.inl _) =>
  some (.inl (.inl ()))
 | (.inr _) =>
  jn (fun m584:Int =>
  some (.inr (m584,(w64 (s445.2.1+1)),(mput keq29 s445.2.2 x543.fPrefix (w64 (((mget keq29 s445.2.2 x543.fPrefix).getD 0)+1)))))) (fun j585 =>
  (if x543.fHas=true then
  j585 1
  else
  (if (s445.1==1)=true then
  some (.inl (.inl ()))
  else
  j585 s445.1)))
 else
 some (.inl (.inr s445.2.2)))
def M1 (x441:(List A6)) (p541:(List (A2×Int))) (s590:Int):Option (((Unit)⊕(Unit))⊕(Int)) :=
 (if (decide (s590<(x441.length:Int)))=true then
 (idx x441 s590).bind fun x600 =>
 (if (((mget keq29 p541 x600.fPrefix).getD 0) != 1)=true then
 some (.inl (.inl ()))
 else
 some (.inr (w64 (s590+1))))
 else
 some (.inl (.inr ())))
def M2 (r442:(List D2)×Int) (s604:Int):Option (((Unit)⊕(Unit))⊕(Int)) :=
 (if (decide (s604<(r442.1.length:Int)))=true then
 (idx r442.1 s604).bind fun x636 =>
 jn (fun m642:Bool =>
 (if m642=true then
 some (.inl (.inl ()))
 else
 some (.inr (w64 (s604+1))))) (fun j643 =>
 (P1 x636).bind fun r645 =>
 (if (!r645)=true then
 j643 true
 else
 (if (((decide (0<(x636.fWithdraw.length:Int)))&&(decide (0<(x636.fAnnounce.length:Int)))) || ((w64 ((x636.fWithdraw.length:Int)+(x636.fAnnounce.length:Int)))==0))=true then
 j643 true
 else
 (Z5 x636).bind fun r648 =>
 j643 (decide (4096<r648)))))
 else
 some (.inl (.inr ())))
def Q3 (r2:(List A6)×A9) (r4:(List A6)×A9) (s5:Int):Option (((Unit)⊕(Unit))⊕(Int)) :=
 (if (decide (s5<(([r2.1,r4.1]:List (List A6)).length:Int)))=true then
 (idx ([r2.1,r4.1]:List (List A6)) s5).bind fun x441 =>
 (A20 x441).bind fun r442 =>
 (if (r442.2 != 0)=true then
 some (.inl (.inl ()))
 else
 (U0 r442.1 5).bind fun r444 =>
 (loop (M0 x441 r444) (0,0,([]:List (A2×Int)))).bind fun x588=>match x588 with
 | (.inl _) =>
  some (.inl (.inl ()))
 | (.inr p541) =>
  (loop (M1 x441 p541) 0).bind fun x602=>match x602 with
  | (.inl _) =>
   some (.inl (.inl ()))
  | (.inr _) =>
   (loop (M2 r442) 0).bind fun x649=>match x649 with
   | (.inl _) =>
    some (.inl (.inl ()))
   | (.inr _) =>
    (if ((p541.length:Int) != (x441.length:Int))=true then
    some (.inl (.inl ()))
    else
    some (.inr (w64 (s5+1)))))
 else
 some (.inl (.inr ())))
def A0n (a0:(List Int)) (a1:Int):Option (Bool) :=
 (Q6 a0).bind fun r1 =>
 (H0 r1 5).bind fun r2 =>
 (I9 a1 300).bind fun r3 =>
 (A2j r2.2 r3).bind fun r4 =>
 (loop (Q3 r2 r4) 0).bind fun x652=>match x652 with
 | (.inl _) =>
  some false
 | (.inr _) =>
  (A1j).bind fun r654 =>
  some r654
theorem A6i (a0:(List Int)) (a1:Int) (r:Bool) (h:A0n a0 a1=some r):AC Tryz.prog 5 [(.d (.list 1 (a0.map (eI .i64)))),(.d (.int .i64 a1))] [(500,(.know (globD 0 (.imap gv0))))] (.d (.bool r)) [(500,some (.know (globD 0 (.imap gv0))))]:=by
 refine ac2 Tryz.func5 rfl rfl fun B hB hN L => ?_
 delta A0n at h
 refine sr (SQ tt) ?_
 apply AWp.seq
 obtain⟨r1,hr1,h⟩:=bindS h
 refine rg (SQ (fa (cl [(1005,100000)] (A48 a0 r1 hr1)) tt)) ?_
 apply A0
 refine AWp.ghost (mp [] [(1,(i6 a1)),(5,(pt 100000))] [(500,some (.know (globD 0 (.imap gv0)))),(100000,bd 71 (D1 r1))] hB) ?_
 apply AWp.seq
 apply AWp.seq
 obtain⟨r2,hr2,h⟩:=bindS h
 obtain⟨r3,hr3,h⟩:=bindS h
 obtain⟨r4,hr4,h⟩:=bindS h
 refine rg (SQ (fa (cl [(0,100000)] (A10 r1 5 r2 hr2)) (fa (cl [] (A0c a1 300 r3 hr3)) (fa (cl [(0,100000)] (A9s r2.2 r3 r4 hr4)) tt)))) ?_
 apply A0
 refine AWp.ghost (mp [] [(28,(.d (.list 1 (([r2.1,r4.1]:List (List A6)).map G6)))),(29,(i6 (([r2.1,r4.1]:List (List A6)).length:Int))),(30,(i6 0))] [(500,some (.know (globD 0 (.imap gv0))))] hB) ?_
 apply AWp.block
 obtain⟨x652,hx653,h⟩:=bindS h
 refine lg (Q3 r2 r4) (fun s5:Int=>([(28,(.d (.list 1 (([r2.1,r4.1]:List (List A6)).map G6)))),(29,(i6 (([r2.1,r4.1]:List (List A6)).length:Int))),(30,(i6 s5))]:EL)) (fun s5:Int=>([(500,some (.know (globD 0 (.imap gv0))))]:OL)) (fun(x:(Unit)⊕(Unit)) e E' O'=>match x with | (.inl _p)=>e = .ret∧Mat B E' O' ([(4,(bo false))]:EL) ([(500,some (.know (globD 0 (.imap gv0))))]:OL) | (.inr _p)=>e = .exit 0∧Mat B E' O' ([]:EL) ([(500,some (.know (globD 0 (.imap gv0))))]:OL)) hx653 (mp [] _ _ hB) (fun s5 y h => ?_) (fun e E' O' hR => ?_)
 ·unfold Q3 at h
  refine sr (SQ tt) ?_
  apply AWp.seq
  apply AWp.cond rfl<;>intro hg440
  ·have h:=A3 hg440 h
   apply AWp.skip
   apply A0
   apply AWp.seq
   apply AWp.block
   obtain⟨x441,hx441,h⟩:=bindS h
   refine sr (SQ (fa hx441 tt)) ?_
   apply AWp.seq
   obtain⟨r442,hr442,h⟩:=bindS h
   refine rg (SQ (fa (cl [(500,500)] (A72 x441 r442 hr442)) tt)) ?_
   apply A0
   refine AWp.ghost (mp [] [(7,(D3 x441)),(8,(E9 r442.1)),(9,(i6 r442.2)),(28,(.d (.list 1 (([r2.1,r4.1]:List (List A6)).map G6)))),(29,(i6 (([r2.1,r4.1]:List (List A6)).length:Int))),(30,(i6 s5))] [(500,some (.know (globD 0 (.imap gv0))))] hB) ?_
   apply AWp.seq
   refine sr (SQ tt) ?_
   apply AWp.cond rfl<;>intro hg443
   ·have h:=A3 hg443 h
    refine sr (SQ tt) ?_
    refine gh [(4,_)] [(500,some _)] hB rfl rfl (by rfl) ?_
    apply AWp.ret
    apply B5
    apply D5
    apply B5
    obtain rfl:=oi h
    exact⟨(fun hc=>by cases hc),rfl,(mp [] _ _ hB)⟩
   ·have h:=A4 hg443 h
    apply AWp.skip
    apply A0
    apply sr (cg (OpJ.mkmapC hB (nm:=1041) (by decide) (L rfl)) rfl (c (assign (L rfl) (q 41)) rfl cn))
    refine sr (SQ tt) ?_
    apply AWp.seq
    obtain⟨r444,hr444,h⟩:=bindS h
    refine sr (SQ (fa (cl [] (A5m r442.1 5 r444 hr444)) tt)) ?_
    apply AWp.block
    obtain⟨x588,hx589,h⟩:=bindS h
    refine lg (M0 x441 r444) (fun s445:Int×Int×(List (A2×Int))=>([(7,(D3 x441)),(8,(E9 r442.1)),(10,(.mref 1041)),(11,(i6 s445.1)),(28,(.d (.list 1 (([r2.1,r4.1]:List (List A6)).map G6)))),(29,(i6 (([r2.1,r4.1]:List (List A6)).length:Int))),(30,(i6 s5)),(43,(D3 r444)),(44,(i6 (r444.length:Int))),(45,(i6 s445.2.1))]:EL)) (fun s445:Int×Int×(List (A2×Int))=>([(500,some (.know (globD 0 (.imap gv0)))),(1041,some (.blk (mapC (mpairs A7 (eI .i64) s445.2.2))))]:OL)) (fun(x:(Unit)⊕((List (A2×Int)))) e E' O'=>match x with | (.inl _p)=>e = .ret∧Mat B E' O' ([(4,(bo false))]:EL) ([(500,some (.know (globD 0 (.imap gv0))))]:OL) | (.inr p541)=>e = .exit 2∧Mat B E' O' ([(7,(D3 x441)),(8,(E9 r442.1)),(10,(.mref 1041)),(28,(.d (.list 1 (([r2.1,r4.1]:List (List A6)).map G6)))),(29,(i6 (([r2.1,r4.1]:List (List A6)).length:Int))),(30,(i6 s5))]:EL) ([(500,some (.know (globD 0 (.imap gv0)))),(1041,some (.blk (mapC (mpairs A7 (eI .i64) p541))))]:OL)) hx589 (mp [] _ _ hB) (fun s445 y h => ?_) (fun e E' O' hR => ?_)
    ·unfold M0 at h
     refine sr (SQ tt) ?_
     apply AWp.seq
     apply AWp.cond rfl<;>intro hg542
     ·have h:=A3 hg542 h
      apply AWp.skip
      apply A0
      apply AWp.seq
      apply AWp.block
      obtain⟨x543,hx543,h⟩:=bindS h
      refine sr (SQ (fa hx543 tt)) ?_
      apply AWp.seq
      refine sr (SQ tt) ?_
      apply AWp.block
      obtain⟨x580,hx581,h⟩:=bindS h
      refine lg (L9 x441 x543) (fun s544:Int=>([(7,(D3 x441)),(8,(E9 r442.1)),(10,(.mref 1041)),(11,(i6 s445.1)),(13,(pt 1013)),(28,(.d (.list 1 (([r2.1,r4.1]:List (List A6)).map G6)))),(29,(i6 (([r2.1,r4.1]:List (List A6)).length:Int))),(30,(i6 s5)),(43,(D3 r444)),(44,(i6 (r444.length:Int))),(45,(i6 s445.2.1)),(49,(D3 x441)),(50,(i6 (x441.length:Int))),(51,(i6 s544))]:EL)) (fun s544:Int=>([(500,some (.know (globD 0 (.imap gv0)))),(1013,bd 39 (E7 x543)),(1041,some (.blk (mapC (mpairs A7 (eI .i64) s445.2.2))))]:OL)) (fun(x:(Unit)⊕(Unit)) e E' O'=>match x with | (.inl _p)=>e = .ret∧Mat B E' O' ([(4,(bo false))]:EL) ([(500,some (.know (globD 0 (.imap gv0))))]:OL) | (.inr _p)=>e = .exit 4∧Mat B E' O' ([(7,(D3 x441)),(8,(E9 r442.1)),(10,(.mref 1041)),(11,(i6 s445.1)),(13,(pt 1013)),(28,(.d (.list 1 (([r2.1,r4.1]:List (List A6)).map G6)))),(29,(i6 (([r2.1,r4.1]:List (List A6)).length:Int))),(30,(i6 s5)),(43,(D3 r444)),(44,(i6 (r444.length:Int))),(45,(i6 s445.2.1))]:EL) ([(500,some (.know (globD 0 (.imap gv0)))),(1013,bd 39 (E7 x543)),(1041,some (.blk (mapC (mpairs A7 (eI .i64) s445.2.2))))]:OL)) hx581 (mp [] _ _ hB) (fun s544 y h => ?_) (fun e E' O' hR => ?_)
      ·unfold L9 at h
       refine sr (SQ tt) ?_
       apply AWp.seq
       apply AWp.cond rfl<;>intro hg569
       ·have h:=A3 hg569 h
        apply AWp.skip
        apply A0
        apply AWp.seq
        apply AWp.block
        obtain⟨x570,hx570,h⟩:=bindS h
        refine sr (SQ (fa hx570 tt)) ?_
        apply AWp.seq
        refine AWp.cut h (fun m574:Bool=>([(7,(D3 x441)),(8,(E9 r442.1)),(10,(.mref 1041)),(11,(i6 s445.1)),(13,(pt 1013)),(28,(.d (.list 1 (([r2.1,r4.1]:List (List A6)).map G6)))),(29,(i6 (([r2.1,r4.1]:List (List A6)).length:Int))),(30,(i6 s5)),(43,(D3 r444)),(44,(i6 (r444.length:Int))),(45,(i6 s445.2.1)),(49,(D3 x441)),(50,(i6 (x441.length:Int))),(51,(i6 s544)),(74,(bo m574))]:EL)) (fun m574:Bool=>([(500,some (.know (globD 0 (.imap gv0)))),(1013,bd 39 (E7 x543)),(1041,some (.blk (mapC (mpairs A7 (eI .i64) s445.2.2))))]:OL)) (fun m574 h E' O' hmat => ?_) (fun j575 hjj575 h => ?_)
        ·apply A0
         refine AWp.ghost hmat ?_
         apply AWp.cond rfl<;>intro hg576
         ·have h:=A3 hg576 h
          refine sr (SQ tt) ?_
          refine gh [(4,_)] [(500,some _)] hB rfl rfl (by rfl) ?_
          apply AWp.ret
          apply D5
          apply B5
          obtain rfl:=oi h
          exact⟨(fun hc=>by cases hc),rfl,(mp [] _ _ hB)⟩
         ·have h:=A4 hg576 h
          apply AWp.skip
          apply E4
          apply A0
          refine rg (SQ tt) ?_
          obtain rfl:=oi h
          exact⟨rfl,(mp [] _ _ hB)⟩
        ·rcases bft (((x570.fPrefix.fAddr.fV6==x543.fPrefix.fAddr.fV6)&&((x570.fPrefix.fAddr.fHi==x543.fPrefix.fAddr.fHi)&&((x570.fPrefix.fAddr.fLo==x543.fPrefix.fAddr.fLo)&&true)))&&((x570.fPrefix.fLen==x543.fPrefix.fLen)&&true)) with hg577 | hg577
         ·have h:=A3 hg577 h
          rcases bft (x570.fHas != x543.fHas) with hg578 | hg578
          ·have h:=A3 hg578 h
           apply rg (c (fo 1015 1 [1] hN underlying39 1 tyS29 (q 15)) rfl (c (la hN 39 tyS29 (q 55)) rfl (c (fo 1013 1 [1] hN underlying39 1 tyS29 (q 13)) rfl (c (la hN 39 tyS29 (q 57)) rfl (c (OpJ.eqlD (h:=3) (FitE.st underlying29 rfl held29 (FitF.cons (x:=(C1 x570.fPrefix.fAddr)) (y:=(C1 x543.fPrefix.fAddr)) (by decide) rfl tyS27 ⟨rfl,rfl⟩ ⟨rfl,rfl⟩ (FitE.st underlying27 rfl held27 (FitF.cons (x:=(.bool x570.fPrefix.fAddr.fV6)) (y:=(.bool x543.fPrefix.fAddr.fV6)) (by decide) rfl tyS4 ⟨rfl,rfl⟩ ⟨rfl,rfl⟩ (FitE.bool (h:=0) x570.fPrefix.fAddr.fV6 x543.fPrefix.fAddr.fV6 underlying4) (FitF.cons (x:=(.int .u64 x570.fPrefix.fAddr.fHi)) (y:=(.int .u64 x543.fPrefix.fAddr.fHi)) (by decide) rfl tyS25 ⟨rfl,rfl⟩ ⟨rfl,rfl⟩ (FitE.int (h:=0) x570.fPrefix.fAddr.fHi x543.fPrefix.fAddr.fHi underlying25) (FitF.cons (x:=(.int .u64 x570.fPrefix.fAddr.fLo)) (y:=(.int .u64 x543.fPrefix.fAddr.fLo)) (by decide) rfl tyS25 ⟨rfl,rfl⟩ ⟨rfl,rfl⟩ (FitE.int (h:=0) x570.fPrefix.fAddr.fLo x543.fPrefix.fAddr.fLo underlying25) FitF.nil)))) (FitF.cons (x:=(.int .i64 x570.fPrefix.fLen)) (y:=(.int .i64 x543.fPrefix.fLen)) (by decide) rfl tyS3 ⟨rfl,rfl⟩ ⟨rfl,rfl⟩ (FitE.int (h:=1) x570.fPrefix.fLen x543.fPrefix.fLen underlying3) FitF.nil))) eqg29 ⟨rfl,rfl⟩ (by rfl) (L rfl) (q 56) (q 58)) rfl (c (OpJ.val (v':=.d (.bool true)) (by rw [hg577]<;>rfl) (mv hN (q 59))) rfl (c (gd 60 (fo 1015 5 [2] hN underlying39 5 tyS4 (q 15))) rfl (c (gd 60 (la hN 39 tyS4 (q 61))) rfl (c (gd 60 (fo 1013 5 [2] hN underlying39 5 tyS4 (q 13))) rfl (c (gd 60 (la hN 39 tyS4 (q 63))) rfl (c (gd 60 (OpJ.neqB underlying4 (L rfl) (q 62) (q 64))) rfl (c (gd 60 (OpJ.val (v':=.d (.bool true)) (by rw [hg578]<;>rfl) (mv hN (q 65)))) rfl (ks 66 (L rfl) (ks 66 (L rfl) (ks 66 (L rfl) (ks 66 (L rfl) (ks 66 (L rfl) (ks 66 (L rfl) (c (gd 60 (pickT (L rfl) (q 66) (Opd.bool true))) rfl (c (pickT (L rfl) (q 60) (q 73)) rfl cn))))))))))))))))))))
           exact hjj575 _ h _ _ (mp [] _ _ hB)
          ·have h:=A4 hg578 h
           obtain⟨r579,hr579,h⟩:=bindS h
           apply rg (c (fo 1015 1 [1] hN underlying39 1 tyS29 (q 15)) rfl (c (la hN 39 tyS29 (q 55)) rfl (c (fo 1013 1 [1] hN underlying39 1 tyS29 (q 13)) rfl (c (la hN 39 tyS29 (q 57)) rfl (c (OpJ.eqlD (h:=3) (FitE.st underlying29 rfl held29 (FitF.cons (x:=(C1 x570.fPrefix.fAddr)) (y:=(C1 x543.fPrefix.fAddr)) (by decide) rfl tyS27 ⟨rfl,rfl⟩ ⟨rfl,rfl⟩ (FitE.st underlying27 rfl held27 (FitF.cons (x:=(.bool x570.fPrefix.fAddr.fV6)) (y:=(.bool x543.fPrefix.fAddr.fV6)) (by decide) rfl tyS4 ⟨rfl,rfl⟩ ⟨rfl,rfl⟩ (FitE.bool (h:=0) x570.fPrefix.fAddr.fV6 x543.fPrefix.fAddr.fV6 underlying4) (FitF.cons (x:=(.int .u64 x570.fPrefix.fAddr.fHi)) (y:=(.int .u64 x543.fPrefix.fAddr.fHi)) (by decide) rfl tyS25 ⟨rfl,rfl⟩ ⟨rfl,rfl⟩ (FitE.int (h:=0) x570.fPrefix.fAddr.fHi x543.fPrefix.fAddr.fHi underlying25) (FitF.cons (x:=(.int .u64 x570.fPrefix.fAddr.fLo)) (y:=(.int .u64 x543.fPrefix.fAddr.fLo)) (by decide) rfl tyS25 ⟨rfl,rfl⟩ ⟨rfl,rfl⟩ (FitE.int (h:=0) x570.fPrefix.fAddr.fLo x543.fPrefix.fAddr.fLo underlying25) FitF.nil)))) (FitF.cons (x:=(.int .i64 x570.fPrefix.fLen)) (y:=(.int .i64 x543.fPrefix.fLen)) (by decide) rfl tyS3 ⟨rfl,rfl⟩ ⟨rfl,rfl⟩ (FitE.int (h:=1) x570.fPrefix.fLen x543.fPrefix.fLen underlying3) FitF.nil))) eqg29 ⟨rfl,rfl⟩ (by rfl) (L rfl) (q 56) (q 58)) rfl (c (OpJ.val (v':=.d (.bool true)) (by rw [hg577]<;>rfl) (mv hN (q 59))) rfl (c (gd 60 (fo 1015 5 [2] hN underlying39 5 tyS4 (q 15))) rfl (c (gd 60 (la hN 39 tyS4 (q 61))) rfl (c (gd 60 (fo 1013 5 [2] hN underlying39 5 tyS4 (q 13))) rfl (c (gd 60 (la hN 39 tyS4 (q 63))) rfl (c (gd 60 (OpJ.neqB underlying4 (L rfl) (q 62) (q 64))) rfl (c (gd 60 (OpJ.val (v':=.d (.bool false)) (by rw [hg578]<;>rfl) (mv hN (q 65)))) rfl (c (gd 66 (fo 1015 6 [3] hN underlying39 6 tyS37 (q 15))) rfl (c (gd 66 (la hN 39 tyS37 (q 67))) rfl (c (gd 66 (fo 1013 6 [3] hN underlying39 6 tyS37 (q 13))) rfl (c (gd 66 (la hN 39 tyS37 (q 69))) rfl (cg (gd 66 (cf hB fnOk19 (A2u x570.fRoute x543.fRoute r579 hr579) (L rfl) (OpdL.cons (q 68) (OpdL.cons (q 70) OpdL.nil)))) rfl (c (gd 66 (OpJ.not (L rfl) (q 71))) rfl (c (gd 60 (pickF (L rfl) (q 66) (q 72))) rfl (c (pickT (L rfl) (q 60) (q 73)) rfl cn))))))))))))))))))))
           exact hjj575 _ h _ _ (mp [] _ _ hB)
         ·have h:=A4 hg577 h
          apply rg (c (fo 1015 1 [1] hN underlying39 1 tyS29 (q 15)) rfl (c (la hN 39 tyS29 (q 55)) rfl (c (fo 1013 1 [1] hN underlying39 1 tyS29 (q 13)) rfl (c (la hN 39 tyS29 (q 57)) rfl (c (OpJ.eqlD (h:=3) (FitE.st underlying29 rfl held29 (FitF.cons (x:=(C1 x570.fPrefix.fAddr)) (y:=(C1 x543.fPrefix.fAddr)) (by decide) rfl tyS27 ⟨rfl,rfl⟩ ⟨rfl,rfl⟩ (FitE.st underlying27 rfl held27 (FitF.cons (x:=(.bool x570.fPrefix.fAddr.fV6)) (y:=(.bool x543.fPrefix.fAddr.fV6)) (by decide) rfl tyS4 ⟨rfl,rfl⟩ ⟨rfl,rfl⟩ (FitE.bool (h:=0) x570.fPrefix.fAddr.fV6 x543.fPrefix.fAddr.fV6 underlying4) (FitF.cons (x:=(.int .u64 x570.fPrefix.fAddr.fHi)) (y:=(.int .u64 x543.fPrefix.fAddr.fHi)) (by decide) rfl tyS25 ⟨rfl,rfl⟩ ⟨rfl,rfl⟩ (FitE.int (h:=0) x570.fPrefix.fAddr.fHi x543.fPrefix.fAddr.fHi underlying25) (FitF.cons (x:=(.int .u64 x570.fPrefix.fAddr.fLo)) (y:=(.int .u64 x543.fPrefix.fAddr.fLo)) (by decide) rfl tyS25 ⟨rfl,rfl⟩ ⟨rfl,rfl⟩ (FitE.int (h:=0) x570.fPrefix.fAddr.fLo x543.fPrefix.fAddr.fLo underlying25) FitF.nil)))) (FitF.cons (x:=(.int .i64 x570.fPrefix.fLen)) (y:=(.int .i64 x543.fPrefix.fLen)) (by decide) rfl tyS3 ⟨rfl,rfl⟩ ⟨rfl,rfl⟩ (FitE.int (h:=1) x570.fPrefix.fLen x543.fPrefix.fLen underlying3) FitF.nil))) eqg29 ⟨rfl,rfl⟩ (by rfl) (L rfl) (q 56) (q 58)) rfl (c (OpJ.val (v':=.d (.bool false)) (by rw [hg577]<;>rfl) (mv hN (q 59))) rfl (ks 60 (L rfl) (ks 60 (L rfl) (ks 60 (L rfl) (ks 60 (L rfl) (ks 60 (L rfl) (ks 60 (L rfl) (cg (sV 66 (L rfl)) rfl (cg (sV 66 (L rfl)) rfl (cg (sV 66 (L rfl)) rfl (cg (sV 66 (L rfl)) rfl (cg (sV 66 (L rfl)) rfl (cg (sV 66 (L rfl)) rfl (ks 60 (L rfl) (c (pickF (L rfl) (q 60) (Opd.bool false)) rfl cn))))))))))))))))))))
          exact hjj575 _ h _ _ (mp [] _ _ hB)
       ·have h:=A4 hg569 h
        apply AWp.exit
        apply E5
        obtain rfl:=oi h
        exact⟨(fun hc=>by cases hc),rfl,(mp [] _ _ hB)⟩
      ·rcases x580 with _ | _
       ·obtain⟨rfl,hmat⟩:=hR
        apply D5
        apply B5
        apply D5
        apply B5
        obtain rfl:=oi h
        exact⟨(fun hc=>by cases hc),rfl,(Mat.trans hmat (mp [] _ _ hB))⟩
       ·obtain⟨rfl,hmat⟩:=hR
        apply C2
        apply A0
        refine AWp.ghost hmat ?_
        apply AWp.seq
        refine AWp.draws2 3 5 (nm:=1041) (by kernel_rfl) (oc (mv hN (ot 10 (.mref 1041)))
         (oc (ov (.ptr 1013 1 [1]) (fp hN underlying39 1 tyS29 (.box 39 (.d (E7 x543))) (ot 13 (pt 1013))))
         (oc (lb hN 39 (.d (E7 x543)) (.d (A7 x543.fPrefix)) tyS29 (ad (A7 x543.fPrefix)) (ot 77 (.ptr 1013 1 [1])))
         (OpJs.nil))))
         (OpJ.mlookC (g:=(eI .i64)) (l:=s445.2.2) (k:=x543.fPrefix) tyU57 underlying29 keyEq29 (z:=0) tyZD3 (L rfl) (ot 76 (.mref 1041)) (ot 78 (.d (A7 x543.fPrefix))))
         (OpJ.mlookT (g:=(eI .i64)) (by simp [keq29]) (l:=s445.2.2) (k:=x543.fPrefix) tyU57 underlying29 keyEq29 (z:=0) tyZD3 (L rfl) (ot 76 (.mref 1041)) (ot 78 (.d (A7 x543.fPrefix))))
         (oc (add6 (L rfl) (ot 79 (i6 ((mget keq29 s445.2.2 x543.fPrefix).getD 0))) (ii 1))
         (oc (OpJ.mentC (g:=(eI .i64)) (l:=s445.2.2) (k:=x543.fPrefix) tyU57 underlying29 keyEq29 (z:=0) tyZD3 (L rfl) (ot 76 (.mref 1041)) (ot 78 (.d (A7 x543.fPrefix))))
         (oc (extract (v:=(i6 (kst keq29 s445.2.2 x543.fPrefix:Int))) (by rfl) rfl (L rfl) (ot 81 (.tup [(i6 ((mget keq29 s445.2.2 x543.fPrefix).getD 0)),(i6 (kst keq29 s445.2.2 x543.fPrefix:Int))])))
         (oc (OpJ.mestore (f:=A7) (g:=(eI .i64)) (eq:=keq29) (l:=s445.2.2) (k:=x543.fPrefix) (z:=0) (v:=(w64 (((mget keq29 s445.2.2 x543.fPrefix).getD 0)+1))) (by simp [keq29]) (ot 76 (.mref 1041)) (ot 82 (i6 (kst keq29 s445.2.2 x543.fPrefix:Int))) (ot 80 (i6 (w64 (((mget keq29 s445.2.2 x543.fPrefix).getD 0)+1)))))
         (OpJs.nil)))))
         (by rfl) (by rfl) (by kernel_rfl) (by kernel_rfl) (by rfl) (by rfl) (by rfl) (by rfl) ?_
        apply A0
        refine sr (SQ tt) ?_
        refine gh [(7,_),(8,_),(10,_),(11,_),(28,_),(29,_),(30,_),(43,_),(44,_),(45,_),(84,_)] [(500,some _),(1041,some _)] hB rfl rfl (by rfl) ?_
        refine AWp.cut h (fun m584:Int=>([(7,(D3 x441)),(8,(E9 r442.1)),(10,(.mref 1041)),(11,(i6 m584)),(28,(.d (.list 1 (([r2.1,r4.1]:List (List A6)).map G6)))),(29,(i6 (([r2.1,r4.1]:List (List A6)).length:Int))),(30,(i6 s5)),(43,(D3 r444)),(44,(i6 (r444.length:Int))),(45,(i6 s445.2.1))]:EL)) (fun m584:Int=>([(500,some (.know (globD 0 (.imap gv0)))),(1041,some (.blk (mapC (mpairs A7 (eI .i64) (mput keq29 s445.2.2 x543.fPrefix (w64 (((mget keq29 s445.2.2 x543.fPrefix).getD 0)+1)))))))]:OL)) (fun m584 h E' O' hmat => ?_) (fun j585 hjj585 h => ?_)
        ·apply E4
         apply A0
         refine AWp.ghost hmat ?_
         refine rg (SQ tt) ?_
         obtain rfl:=oi h
         exact⟨rfl,(mp [] _ _ hB)⟩
        ·apply AWp.cond rfl<;>intro hg586
         ·have h:=A3 hg586 h
          refine rg (SQ tt) ?_
          exact hjj585 _ h _ _ (mp [] _ _ hB)
         ·have h:=A4 hg586 h
          refine sr (SQ tt) ?_
          apply AWp.cond rfl<;>intro hg587
          ·have h:=A3 hg587 h
           refine sr (SQ tt) ?_
           apply AWp.ret
           apply D5
           apply B5
           obtain rfl:=oi h
           exact⟨(fun hc=>by cases hc),rfl,(mp [] _ _ hB)⟩
          ·have h:=A4 hg587 h
           apply AWp.skip
           exact hjj585 _ h _ _ (mp [] _ _ hB)
     ·have h:=A4 hg542 h
      apply AWp.exit
      apply E5
      obtain rfl:=oi h
      exact⟨(fun hc=>by cases hc),rfl,(mp [] _ _ hB)⟩
    ·rcases x588 with _ | p541
     ·obtain⟨rfl,hmat⟩:=hR
      apply D5
      apply B5
      apply D5
      apply B5
      obtain rfl:=oi h
      exact⟨(fun hc=>by cases hc),rfl,(Mat.trans hmat (mp [] _ _ hB))⟩
     ·obtain⟨rfl,hmat⟩:=hR
      apply C2
      apply A0
      refine AWp.ghost hmat ?_
      apply AWp.seq
      refine sr (SQ tt) ?_
      apply AWp.block
      obtain⟨x602,hx603,h⟩:=bindS h
      refine lg (M1 x441 p541) (fun s590:Int=>([(7,(D3 x441)),(8,(E9 r442.1)),(10,(.mref 1041)),(28,(.d (.list 1 (([r2.1,r4.1]:List (List A6)).map G6)))),(29,(i6 (([r2.1,r4.1]:List (List A6)).length:Int))),(30,(i6 s5)),(88,(D3 x441)),(89,(i6 (x441.length:Int))),(90,(i6 s590))]:EL)) (fun s590:Int=>([(500,some (.know (globD 0 (.imap gv0)))),(1041,some (.blk (mapC (mpairs A7 (eI .i64) p541))))]:OL)) (fun(x:(Unit)⊕(Unit)) e E' O'=>match x with | (.inl _p)=>e = .ret∧Mat B E' O' ([(4,(bo false))]:EL) ([(500,some (.know (globD 0 (.imap gv0))))]:OL) | (.inr _p)=>e = .exit 6∧Mat B E' O' ([(7,(D3 x441)),(8,(E9 r442.1)),(10,(.mref 1041)),(28,(.d (.list 1 (([r2.1,r4.1]:List (List A6)).map G6)))),(29,(i6 (([r2.1,r4.1]:List (List A6)).length:Int))),(30,(i6 s5))]:EL) ([(500,some (.know (globD 0 (.imap gv0)))),(1041,some (.blk (mapC (mpairs A7 (eI .i64) p541))))]:OL)) hx603 (mp [] _ _ hB) (fun s590 y h => ?_) (fun e E' O' hR => ?_)
      ·unfold M1 at h
       refine sr (SQ tt) ?_
       apply AWp.seq
       apply AWp.cond rfl<;>intro hg599
       ·have h:=A3 hg599 h
        apply AWp.skip
        apply A0
        apply AWp.seq
        apply AWp.block
        obtain⟨x600,hx600,h⟩:=bindS h
        refine sr (SQ (fa hx600 tt)) ?_
        apply sr (c (mv hN (q 10)) rfl (c (fo 1017 1 [1] hN underlying39 1 tyS29 (q 17)) rfl (c (la hN 39 tyS29 (q 95)) rfl (cg (OpJ.mlookC (g:=(eI .i64)) (l:=p541) (k:=x600.fPrefix) tyU57 underlying29 keyEq29 (z:=0) tyZD3 (L rfl) (q 94) (q 96)) rfl (c (neqI (L rfl) (q 97) (ii 1)) rfl cn)))))
        apply AWp.cond rfl<;>intro hg601
        ·have h:=A3 hg601 h
         refine sr (SQ tt) ?_
         apply AWp.ret
         apply D5
         apply B5
         obtain rfl:=oi h
         exact⟨(fun hc=>by cases hc),rfl,(mp [] _ _ hB)⟩
        ·have h:=A4 hg601 h
         apply AWp.skip
         apply E4
         apply A0
         refine rg (SQ tt) ?_
         obtain rfl:=oi h
         exact⟨rfl,(mp [] _ _ hB)⟩
       ·have h:=A4 hg599 h
        apply AWp.exit
        apply E5
        obtain rfl:=oi h
        exact⟨(fun hc=>by cases hc),rfl,(mp [] _ _ hB)⟩
      ·rcases x602 with _ | _
       ·obtain⟨rfl,hmat⟩:=hR
        apply D5
        apply B5
        apply D5
        apply B5
        obtain rfl:=oi h
        exact⟨(fun hc=>by cases hc),rfl,(Mat.trans hmat (mp [] _ _ hB))⟩
       ·obtain⟨rfl,hmat⟩:=hR
        apply C2
        apply A0
        refine AWp.ghost hmat ?_
        apply AWp.seq
        refine sr (SQ tt) ?_
        apply AWp.block
        obtain⟨x649,hx650,h⟩:=bindS h
        refine lg (M2 r442) (fun s604:Int=>([(7,(D3 x441)),(10,(.mref 1041)),(28,(.d (.list 1 (([r2.1,r4.1]:List (List A6)).map G6)))),(29,(i6 (([r2.1,r4.1]:List (List A6)).length:Int))),(30,(i6 s5)),(100,(E9 r442.1)),(101,(i6 (r442.1.length:Int))),(102,(i6 s604))]:EL)) (fun s604:Int=>([(500,some (.know (globD 0 (.imap gv0)))),(1041,some (.blk (mapC (mpairs A7 (eI .i64) p541))))]:OL)) (fun(x:(Unit)⊕(Unit)) e E' O'=>match x with | (.inl _p)=>e = .ret∧Mat B E' O' ([(4,(bo false))]:EL) ([(500,some (.know (globD 0 (.imap gv0))))]:OL) | (.inr _p)=>e = .exit 8∧Mat B E' O' ([(7,(D3 x441)),(10,(.mref 1041)),(28,(.d (.list 1 (([r2.1,r4.1]:List (List A6)).map G6)))),(29,(i6 (([r2.1,r4.1]:List (List A6)).length:Int))),(30,(i6 s5))]:EL) ([(500,some (.know (globD 0 (.imap gv0)))),(1041,some (.blk (mapC (mpairs A7 (eI .i64) p541))))]:OL)) hx650 (mp [] _ _ hB) (fun s604 y h => ?_) (fun e E' O' hR => ?_)
        ·unfold M2 at h
         refine sr (SQ tt) ?_
         apply AWp.seq
         apply AWp.cond rfl<;>intro hg635
         ·have h:=A3 hg635 h
          apply AWp.skip
          apply A0
          apply AWp.seq
          apply AWp.block
          obtain⟨x636,hx636,h⟩:=bindS h
          refine sr (SQ (fa hx636 tt)) ?_
          apply AWp.seq
          refine AWp.cut h (fun m642:Bool=>([(7,(D3 x441)),(10,(.mref 1041)),(28,(.d (.list 1 (([r2.1,r4.1]:List (List A6)).map G6)))),(29,(i6 (([r2.1,r4.1]:List (List A6)).length:Int))),(30,(i6 s5)),(100,(E9 r442.1)),(101,(i6 (r442.1.length:Int))),(102,(i6 s604)),(135,(bo m642))]:EL)) (fun m642:Bool=>([(500,some (.know (globD 0 (.imap gv0)))),(1041,some (.blk (mapC (mpairs A7 (eI .i64) p541))))]:OL)) (fun m642 h E' O' hmat => ?_) (fun j643 hjj643 h => ?_)
          ·apply A0
           refine AWp.ghost hmat ?_
           apply AWp.cond rfl<;>intro hg644
           ·have h:=A3 hg644 h
            refine sr (SQ tt) ?_
            apply AWp.ret
            apply D5
            apply B5
            obtain rfl:=oi h
            exact⟨(fun hc=>by cases hc),rfl,(mp [] _ _ hB)⟩
           ·have h:=A4 hg644 h
            apply AWp.skip
            apply E4
            apply A0
            refine rg (SQ tt) ?_
            obtain rfl:=oi h
            exact⟨rfl,(mp [] _ _ hB)⟩
          ·obtain⟨r645,hr645,h⟩:=bindS h
           rcases bft (!r645) with hg646 | hg646
           ·have h:=A3 hg646 h
            refine rg (SQ (fa (cl [] (A0m x636 r645 hr645)) (fa hg646 tt))) ?_
            exact hjj643 _ h _ _ (mp [] _ _ hB)
           ·have h:=A4 hg646 h
            rcases bft (((decide (0<(x636.fWithdraw.length:Int)))&&(decide (0<(x636.fAnnounce.length:Int)))) || ((w64 ((x636.fWithdraw.length:Int)+(x636.fAnnounce.length:Int)))==0)) with hg647 | hg647
            ·have h:=A3 hg647 h
             refine rg (SQ (fa (cl [] (A0m x636 r645 hr645)) (fa hg646 (fa hg647 tt)))) ?_
             exact hjj643 _ h _ _ (mp [] _ _ hB)
            ·have h:=A4 hg647 h
             obtain⟨r648,hr648,h⟩:=bindS h
             refine rg (SQ (fa (cl [] (A0m x636 r645 hr645)) (fa hg646 (fa hg647 (fa (cl [] (A9t x636 r648 hr648)) tt))))) ?_
             exact hjj643 _ h _ _ (mp [] _ _ hB)
         ·have h:=A4 hg635 h
          apply AWp.exit
          apply E5
          obtain rfl:=oi h
          exact⟨(fun hc=>by cases hc),rfl,(mp [] _ _ hB)⟩
        ·rcases x649 with _ | _
         ·obtain⟨rfl,hmat⟩:=hR
          apply D5
          apply B5
          apply D5
          apply B5
          obtain rfl:=oi h
          exact⟨(fun hc=>by cases hc),rfl,(Mat.trans hmat (mp [] _ _ hB))⟩
         ·obtain⟨rfl,hmat⟩:=hR
          apply C2
          apply A0
          refine AWp.ghost hmat ?_
          apply sr (c (mv hN (q 10)) rfl (cg (OpJ.val (v':=(i6 (p541.length:Int))) (by simp [mpairs]) (OpJ.mlenC (ps:=mpairs A7 (eI .i64) p541) tyU57 (L rfl) (q 137))) rfl (c (mv hN (q 7)) rfl (c (OpJ.val (v':=(i6 (x441.length:Int))) (by simp) (lenD underlying22 (L rfl) (q 139))) rfl (c (neqI (L rfl) (q 138) (q 140)) rfl cn)))))
          apply AWp.cond rfl<;>intro hg651
          ·have h:=A3 hg651 h
           refine sr (SQ tt) ?_
           apply AWp.ret
           apply D5
           apply B5
           obtain rfl:=oi h
           exact⟨(fun hc=>by cases hc),rfl,(mp [] _ _ hB)⟩
          ·have h:=A4 hg651 h
           apply AWp.skip
           apply E4
           apply A0
           refine rg (SQ tt) ?_
           obtain rfl:=oi h
           exact⟨rfl,(mp [] _ _ hB)⟩
  ·have h:=A4 hg440 h
   apply AWp.exit
   apply E5
   obtain rfl:=oi h
   exact⟨(fun hc=>by cases hc),rfl,(mp [] _ _ hB)⟩
 ·rcases x652 with _ | _
  ·obtain⟨rfl,hmat⟩:=hR
   apply D5
   apply B5
   obtain rfl:=oi h
   exact rt (Mat.trans hmat (mp [] [(4,(bo false))] [(500,some (.know (globD 0 (.imap gv0))))] hB)) [(bo false)] (Res.tmp (by rfl) (by rfl) Res.nil) rfl
  ·obtain⟨rfl,hmat⟩:=hR
   apply C2
   apply A0
   refine AWp.ghost hmat ?_
   apply AWp.seq
   obtain⟨r654,hr654,h⟩:=bindS h
   refine rg (SQ (fa (cl [(500,500)] (A8o  r654 hr654)) tt)) ?_
   apply A0
   refine AWp.ghost (mp [] [(4,(bo r654))] [(500,some (.know (globD 0 (.imap gv0))))] hB) ?_
   apply AWp.ret
   obtain rfl:=oi h
   exact rt (kp [(4,_)] [(500,some _)] hB rfl rfl (by rfl)) [(bo r654)] (Res.tmp (by rfl) (by rfl) Res.nil) rfl
end
end Go.Proofs.YtkhjkjojjdkidaaGreatDoor
