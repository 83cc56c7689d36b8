/- Printed by gen.py: the Go functions as plain functions, and that the code does what they say. -/
import Derived.Test.YtgfoabcickjphaaGreatDoorChecked
import Derived.Test.YtgfoabcickjphaaGreatDoorVcYB
import Derived.Test.YtgfoabcickjphaaGreatDoorVcZ
import Derived.KernelRfl
import Derived.Test.YtgfoabcickjphaaGreatDoorVcMD
import Derived.Test.YtgfoabcickjphaaGreatDoorVcMQ
import Derived.Test.YtgfoabcickjphaaGreatDoorVcSG
import Derived.Test.YtgfoabcickjphaaGreatDoorFnsA
import Derived.Test.YtgfoabcickjphaaGreatDoorExt
import Derived.Test.YtgfoabcickjphaaGreatDoorVcGl
import Derived.Test.YtgfoabcickjphaaGreatDoorVcWS
namespace Go.Proofs.YtgfoabcickjphaaGreatDoor
open Go Go.Vc
open Tryz
open Go.Vc.OpJ (assign alloc lss pickT pickF extract lenD indexD loadD eqlI gtr callVal leq geq loadR nilP indexS buildSlice lenS fieldD neqI pickAnd pickOr)
set_option maxHeartbeats 4000000
set_option maxRecDepth 100000
noncomputable section
def resource_of_L0 (a0:aResources) (s1:Int×(List aAddr_)):Option ((((List aAddr_)))⊕(Int×(List aAddr_))) :=
 (if (decide (s1.1<(a0.fAddrs.length:Int)))=true then
 (idx a0.fAddrs s1.1).bind fun x10 =>
 chk (decide ((s1.2++[(aAddr_.mk x10.fFrom x10.fTo)]).length≤LIM)) <|
 some (.inr ((w64 (s1.1+1)),(s1.2++[(aAddr_.mk x10.fFrom x10.fTo)])))
 else
 some (.inl s1.2))
def resource_of_L1 (a0:aResources) (s14:Int×(List resource_part_int_)):Option ((((List resource_part_int_)))⊕(Int×(List resource_part_int_))) :=
 (if (decide (s14.1<(a0.fASNs.length:Int)))=true then
 (idx a0.fASNs s14.1).bind fun x23 =>
 chk (decide ((s14.2++[(resource_part_int_.mk x23.fFrom x23.fTo)]).length≤LIM)) <|
 some (.inr ((w64 (s14.1+1)),(s14.2++[(resource_part_int_.mk x23.fFrom x23.fTo)])))
 else
 some (.inl s14.2))
def resource_of (a0:aResources):Option (resource_set) :=
 (loop (resource_of_L0 a0) (0,([]:List aAddr_))).bind fun p8 =>
 (loop (resource_of_L1 a0) (0,([]:List resource_part_int_))).bind fun p21 =>
 some (resource_set.mk p8 p21)
theorem resource_of_ac (a0:aResources) (r:resource_set) (h:resource_of a0=some r):AC Tryz.prog 63 [(.d (e_aResources a0))] [] (.d (e_resource_set r)) []:=by
 refine ac2 Tryz.func63 rfl rfl fun B hB hN L => ?_
 delta resource_of at h
 apply sr (cg (OpJ.box hB (nm:=1001) (by decide) (by simp) rfl (L rfl) (q 0)) rfl (cg (alloc hB tyZ113 (nm:=1002) (by decide) (L rfl)) rfl cn))
 apply sr (cg (alloc hB tyZ113 (nm:=1003) (by decide) (L rfl)) rfl cn)
 apply AWp.seq
 apply sr (c (fo 1001 0 [0] hN underlying57 0 tyS54 (q 1)) rfl (c (la hN 57 tyS54 (q 8)) rfl (c (OpJ.val (v':=(i6 (a0.fAddrs.length:Int))) (by simp) (lenD underlying54 (L rfl) (q 9))) rfl (c (mv hN (ii 0)) rfl cn))))
 apply AWp.block
 obtain⟨p8,hx13,h⟩:=bindS h
 refine lg (resource_of_L0 a0) (fun s1:Int×(List aAddr_)=>([(1,(pt 1001)),(2,(pt 1002)),(3,(pt 1003)),(9,(qe_aRange_6 a0.fAddrs)),(10,(i6 (a0.fAddrs.length:Int))),(11,(i6 s1.1))]:EL)) (fun s1:Int×(List aAddr_)=>([(1001,bd 57 (e_aResources a0)),(1002,some (.box 113 (.st [.nils,.nils]))),(1003,some (.box 113 (.st [(.sref 13030 6 0 s1.2.length),.nils]))),(13030,some (we_aAddr__139_6 s1.2))]:OL)) (fun(p8:((List aAddr_))) e E' O'=>e = .exit 0∧Mat B E' O' ([(1,(pt 1001)),(2,(pt 1002)),(3,(pt 1003))]:EL) ([(1001,bd 57 (e_aResources a0)),(1002,some (.box 113 (.st [.nils,.nils]))),(1003,some (.box 113 (.st [(.sref 13030 6 0 p8.length),.nils]))),(13030,some (we_aAddr__139_6 p8))]:OL)) hx13 (Mat.trans (Mat.beginP (n:=13030) (e:=139) (sz:=6) (Ts:=[]) (Bs:=[(1003,some (.box 113 (.st [(.sref 13030 6 0 0),.nils])))]) hB (by decide) (by rfl) (by decide) TwT.nil (TwB.cons (x:=(.st [.nils,.nils])) (by rfl) (Tw.st (TwL.cons (Tw.leaf ⟨rfl,rfl⟩) (TwL.cons (Tw.same _) TwL.nil))) TwB.nil)) (mp [] _ _ hB)) (fun s1 y h => ?_) (fun e E' O' hR => ?_)
 ·unfold resource_of_L0 at h
  apply sr (c (lss (L rfl) (q 11) (q 10)) rfl cn)
  apply AWp.seq
  apply AWp.cond rfl<;>intro hg9
  ·have h:=ite_t hg9 h
   apply AWp.skip
   apply seqQ_n
   apply AWp.seq
   apply AWp.block
   obtain⟨x10,hx10,h⟩:=bindS h
   apply sr (c (indexD underlying54 tyS92 (idx_some hx10).1 (get_map e_aRange (idx_some hx10).2) (L rfl) (q 9) (q 11)) rfl (c (loadD tyS92 (by rfl) (by rfl) (L rfl) (q 13)) rfl (cg (alloc hB tyZ92 (nm:=1005) (by decide) (L rfl)) rfl (cg (sB tyS92 (q 5) (q 14)) rfl cn))))
   obtain⟨hc11,h⟩:=chk_some h
   apply rg (c (fo 1003 0 [0] hN underlying113 0 tyS110 (q 3)) rfl (c (lb hN 113 _ (.sref 13030 6 0 s1.2.length) tyS110 (At.st1 (f:=(.sref 13030 6 0 s1.2.length)) (by rfl) (by rfl) (At.here _) (by first | rfl | omega)) (q 15)) rfl (c (fo 1005 0 [0] hN underlying92 0 tyS44 (q 5)) rfl (c (la hN 92 tyS44 (q 17)) rfl (c (fo 1005 3 [1] hN underlying92 3 tyS44 (q 5)) rfl (c (la hN 92 tyS44 (q 19)) rfl (c (OpJ.coe (v:=(.st [(.d (e_aAddr x10.fFrom)),(.d (e_aAddr x10.fTo))])) (y:=(.st [(e_aAddr x10.fFrom),(e_aAddr x10.fTo)])) (Co.st (CoL.cons (Co.d _) (CoL.cons (Co.d _) CoL.nil))) rfl (OpJ.build (places:=[(0,3),(3,3)]) ⟨underlying139,fun w=>by kernel_rfl⟩ tyZS139 (Opds.cons (q 18) (Opds.cons (q 20) Opds.nil)) (by kernel_rfl) (r:=(.st [(.d (e_aAddr x10.fFrom)),(.d (e_aAddr x10.fTo))])) (by rfl) (L rfl))) rfl (c (buildSlice underlying110 tyS139 tyZD139 (by rfl) (by decide) (by decide) (Opds.cons (q 21) Opds.nil) (by kernel_rfl) (es:=([(.st [(e_aAddr x10.fFrom),(e_aAddr x10.fTo)])]:List D)) (by rfl) (by rfl) (by kernel_rfl) (by simp) (L rfl)) rfl (cg (apd hB underlying110 tyE139 1023 e_aAddr_ s1.2 [(aAddr_.mk x10.fFrom x10.fTo)] hc11 (L rfl) (q 16) (q 22)) rfl (c (fo 1003 0 [0] hN underlying113 0 tyS110 (q 3)) rfl (cg (OpJ.storeB (c':=(.st [(.sref 1023 6 0 ((s1.2++[(aAddr_.mk x10.fFrom x10.fTo)]).length)),.nils])) tyS110 (SetAt.st1 (f:=(.sref 13030 6 0 s1.2.length)) (by rfl) (by rfl) (SetAt.here _ _) (by rfl) (by rfl) (by first | rfl | omega)) (by rfl) (by rfl) (by simp) rfl (q 24) (q 23)) rfl cn)))))))))))
   apply blkQ_n
   apply seqQ_n
   apply rg (c (add6 (L rfl) (q 11) (ii 1)) rfl (c (mv hN (q 25)) rfl cn))
   obtain rfl:=oi h
   exact⟨rfl,(mp [(13030,1023)] _ _ hB)⟩
  ·have h:=ite_f hg9 h
   apply AWp.exit
   apply seqQ_e
   obtain rfl:=oi h
   exact⟨(fun hc=>by cases hc),rfl,(mp [] _ _ hB)⟩
 ·obtain⟨rfl,hmat⟩:=hR
  apply blkQ_hit
  apply seqQ_n
  refine AWp.ghost hmat ?_
  apply AWp.seq
  apply sr (c (fo 1001 1 [1] hN underlying57 1 tyS55 (q 1)) rfl (c (la hN 57 tyS55 (q 26)) rfl (c (OpJ.val (v':=(i6 (a0.fASNs.length:Int))) (by simp) (lenD underlying55 (L rfl) (q 27))) rfl (c (mv hN (ii 0)) rfl cn))))
  apply AWp.block
  obtain⟨p21,hx26,h⟩:=bindS h
  refine lg (resource_of_L1 a0) (fun s14:Int×(List resource_part_int_)=>([(2,(pt 1002)),(3,(pt 1003)),(27,(qe_aSpan_2 a0.fASNs)),(28,(i6 (a0.fASNs.length:Int))),(29,(i6 s14.1))]:EL)) (fun s14:Int×(List resource_part_int_)=>([(1002,some (.box 113 (.st [.nils,.nils]))),(1003,some (.box 113 (.st [(.sref 13030 6 0 p8.length),(.sref 13031 2 0 s14.2.length)]))),(13030,some (we_aAddr__139_6 p8)),(13031,some (.row 141 2 (s14.2.map e_resource_part_int_)))]:OL)) (fun(p21:((List resource_part_int_))) e E' O'=>e = .exit 2∧Mat B E' O' ([(2,(pt 1002)),(3,(pt 1003))]:EL) ([(1002,some (.box 113 (.st [.nils,.nils]))),(1003,some (.box 113 (.st [(.sref 13030 6 0 p8.length),(.sref 13031 2 0 p21.length)]))),(13030,some (we_aAddr__139_6 p8)),(13031,some (.row 141 2 (p21.map e_resource_part_int_)))]:OL)) hx26 (Mat.trans (Mat.beginP (n:=13031) (e:=141) (sz:=2) (Ts:=[]) (Bs:=[(1003,some (.box 113 (.st [(.sref 13030 6 0 p8.length),(.sref 13031 2 0 0)])))]) hB (by decide) (by rfl) (by decide) TwT.nil (TwB.cons (x:=(.st [(.sref 13030 6 0 p8.length),.nils])) (by rfl) (Tw.st (TwL.cons (Tw.same _) (TwL.cons (Tw.leaf ⟨rfl,rfl⟩) TwL.nil))) TwB.nil)) (mp [] _ _ hB)) (fun s14 y h => ?_) (fun e E' O' hR => ?_)
  ·unfold resource_of_L1 at h
   apply sr (c (lss (L rfl) (q 29) (q 28)) rfl cn)
   apply AWp.seq
   apply AWp.cond rfl<;>intro hg22
   ·have h:=ite_t hg22 h
    apply AWp.skip
    apply seqQ_n
    apply AWp.seq
    apply AWp.block
    obtain⟨x23,hx23,h⟩:=bindS h
    apply sr (c (indexD underlying55 tyS101 (idx_some hx23).1 (get_map e_aSpan (idx_some hx23).2) (L rfl) (q 27) (q 29)) rfl (c (loadD tyS101 (by rfl) (by rfl) (L rfl) (q 31)) rfl (cg (alloc hB tyZ101 (nm:=1007) (by decide) (L rfl)) rfl (cg (sB tyS101 (q 7) (q 32)) rfl cn))))
    obtain⟨hc24,h⟩:=chk_some h
    apply rg (c (fo 1003 1 [1] hN underlying113 1 tyS111 (q 3)) rfl (c (lb hN 113 _ (.sref 13031 2 0 s14.2.length) tyS111 (At.st1 (f:=(.sref 13031 2 0 s14.2.length)) (by rfl) (by rfl) (At.here _) (by first | rfl | omega)) (q 33)) rfl (c (fo 1007 0 [0] hN underlying101 0 tyS3 (q 7)) rfl (c (la hN 101 tyS3 (q 35)) rfl (c (fo 1007 1 [1] hN underlying101 1 tyS3 (q 7)) rfl (c (la hN 101 tyS3 (q 37)) rfl (c (OpJ.coe (v:=(.st [(i6 x23.fFrom),(i6 x23.fTo)])) (y:=(.st [(.int .i64 x23.fFrom),(.int .i64 x23.fTo)])) (Co.st (CoL.cons (Co.d _) (CoL.cons (Co.d _) CoL.nil))) rfl (OpJ.build (places:=[(0,1),(1,1)]) ⟨underlying141,fun w=>by kernel_rfl⟩ tyZS141 (Opds.cons (q 36) (Opds.cons (q 38) Opds.nil)) (by kernel_rfl) (r:=(.st [(i6 x23.fFrom),(i6 x23.fTo)])) (by rfl) (L rfl))) rfl (c (buildSlice underlying111 tyS141 tyZD141 (by rfl) (by decide) (by decide) (Opds.cons (q 39) Opds.nil) (by kernel_rfl) (es:=([(.st [(.int .i64 x23.fFrom),(.int .i64 x23.fTo)])]:List D)) (by rfl) (by rfl) (by kernel_rfl) (by simp) (L rfl)) rfl (cg (apd hB underlying111 tyE141 1041 e_resource_part_int_ s14.2 [(resource_part_int_.mk x23.fFrom x23.fTo)] hc24 (L rfl) (q 34) (q 40)) rfl (c (fo 1003 1 [1] hN underlying113 1 tyS111 (q 3)) rfl (cg (OpJ.storeB (c':=(.st [(.sref 13030 6 0 p8.length),(.sref 1041 2 0 ((s14.2++[(resource_part_int_.mk x23.fFrom x23.fTo)]).length))])) tyS111 (SetAt.st1 (f:=(.sref 13031 2 0 s14.2.length)) (by rfl) (by rfl) (SetAt.here _ _) (by rfl) (by rfl) (by first | rfl | omega)) (by rfl) (by rfl) (by simp) rfl (q 42) (q 41)) rfl cn)))))))))))
    apply blkQ_n
    apply seqQ_n
    apply rg (c (add6 (L rfl) (q 29) (ii 1)) rfl (c (mv hN (q 43)) rfl cn))
    obtain rfl:=oi h
    exact⟨rfl,(mp [(13031,1041)] _ _ hB)⟩
   ·have h:=ite_f hg22 h
    apply AWp.exit
    apply seqQ_e
    obtain rfl:=oi h
    exact⟨(fun hc=>by cases hc),rfl,(mp [] _ _ hB)⟩
  ·obtain⟨rfl,hmat⟩:=hR
   apply blkQ_hit
   apply seqQ_n
   refine AWp.ghost hmat ?_
   apply sr (c (lb hN 113 _ _ tyS113 (At.here _) (q 3)) rfl (cg (sB tyS113 (q 2) (q 44)) rfl cn))
   apply AWp.ret
   obtain rfl:=oi h
   exact rt (Mat.trans (Mat.freezeP (n:=13030) (e:=139) (sz:=6) (es:=p8.map e_aAddr_) (Ts:=[]) (Bs:=[(1002,some (.box 113 (.st [(qe_aAddr__6 p8),(.sref 13031 2 0 p21.length)])))]) (by rfl) TwT.nil (TwB.cons (x:=(.st [(.sref 13030 6 0 p8.length),(.sref 13031 2 0 p21.length)])) (by rfl) (Tw.st (TwL.cons (FrzL.all (by first | rfl | (simp;done) | (simp;omega) | omega)) (TwL.cons (Tw.same _) TwL.nil))) TwB.nil)) (Mat.trans (Mat.freezeP (n:=13031) (e:=141) (sz:=2) (es:=p21.map e_resource_part_int_) (Ts:=[]) (Bs:=[(1002,some (.box 113 (.st [(qe_aAddr__6 p8),(.d (.list 2 (p21.map e_resource_part_int_)))])))]) (by rfl) TwT.nil (TwB.cons (x:=(.st [(qe_aAddr__6 p8),(.sref 13031 2 0 p21.length)])) (by rfl) (Tw.st (TwL.cons (Tw.same _) (TwL.cons (FrzL.all (by first | rfl | (simp;done) | (simp;omega) | omega)) TwL.nil))) TwB.nil)) (Mat.trans (Mat.coeP (Ts:=[]) (Bs:=[(1002,bd 113 (.st [(.list 6 (p8.map e_aAddr_)),(.list 2 (p21.map e_resource_part_int_))]))]) TwT.nil (TwB.cons (x:=(.st [(qe_aAddr__6 p8),(.d (.list 2 (p21.map e_resource_part_int_)))])) (by rfl) (Tw.leaf ⟨_,(Co.st (CoL.cons (Co.d _) (CoL.cons (Co.d _) CoL.nil))),rfl⟩) TwB.nil)) (mp [] [(2,(pt 1002))] [(1002,bd 113 (.st [(.list 6 (p8.map e_aAddr_)),(.list 2 (p21.map e_resource_part_int_))]))] hB)))) [(.d (.st [(.list 6 (p8.map e_aAddr_)),(.list 2 (p21.map e_resource_part_int_))]))] (Res.cell (c:=(.d (.st [(.list 6 (p8.map e_aAddr_)),(.list 2 (p21.map e_resource_part_int_))]))) (by rfl) (by rfl) tyS113 (by rfl) (by rfl) (by rfl) Res.nil) rfl
def addr_family (a0:aAddr):Option (Int) :=
 (if a0.fV6=true then
 some 1
 else
 some 0)
theorem addr_family_ac (a0:aAddr) (r:Int) (h:addr_family a0=some r):AC Tryz.prog 124 [(.d (e_aAddr a0))] [] (.d (.int .i64 r)) []:=by
 refine AC.of_code2 Tryz.func124 rfl rfl (Nat.le_of_ble_eq_true (by rfl)) fun B hB hN => ?_
 delta addr_family at h
 apply sr (cg (OpJ.box hB (nm:=1001) (by decide) (by simp) rfl (ltN hN rfl) (q 0)) rfl (c (assign (ltN hN rfl) (ii 0)) rfl cn))
 apply AWp.seq
 apply sr (c (fo 1001 0 [0] hN underlying44 0 tyS4 (q 1)) rfl (c (la hN 44 tyS4 (q 3)) rfl cn))
 apply AWp.cond rfl<;>intro hg1
 ·have h:=ite_t hg1 h
  apply sr (c (assign (ltN hN rfl) (ii 1)) rfl cn)
  apply AWp.ret
  apply seqQ_r
  obtain rfl:=oi h
  exact rt (kp [(2,_)] [] hB rfl rfl (by rfl)) [(i6 1)] (Res.tmp (by rfl) (by rfl) Res.nil) rfl
 ·have h:=ite_f hg1 h
  apply AWp.skip
  apply seqQ_n
  apply sr (c (assign (ltN hN rfl) (ii 0)) rfl cn)
  apply AWp.ret
  obtain rfl:=oi h
  exact rt (kp [(2,_)] [] hB rfl rfl (by rfl)) [(i6 0)] (Res.tmp (by rfl) (by rfl) Res.nil) rfl
def cmp_isNaN (a0:Int):Option (Bool) :=
 some (a0 != a0)
theorem cmp_isNaN_ac (a0:Int) (r:Bool) (h:cmp_isNaN a0=some r):AC Tryz.prog 121 [(.d (.int .i64 a0))] [] (.d (.bool r)) []:=by
 refine AC.of_code2 Tryz.func121 rfl rfl (Nat.le_of_ble_eq_true (by rfl)) fun B hB hN => ?_
 delta cmp_isNaN at h
 apply sr (c (assign (ltN hN rfl) (Opd.bool false)) rfl cn)
 apply sr (c (mv hN (q 0)) rfl (c (mv hN (q 0)) rfl (c (neqI (ltN hN rfl) (q 3) (q 4)) rfl (c (assign (ltN hN rfl) (q 5)) rfl cn))))
 apply AWp.ret
 obtain rfl:=oi h
 exact rt (kp [(2,_)] [] hB rfl rfl (by rfl)) [(bo (a0 != a0))] (Res.tmp (by rfl) (by rfl) Res.nil) rfl
def cmp_Compare (a0:Int) (a1:Int):Option (Int) :=
 (cmp_isNaN a0).bind fun r1 =>
 (cmp_isNaN a1).bind fun r2 =>
 (if r1=true then
 (if r2=true then
 some 0
 else
 some (-1))
 else
 (if r2=true then
 some 1
 else
 (if (decide (a0<a1))=true then
 some (-1)
 else
 (if (decide (a1<a0))=true then
 some 1
 else
 some 0))))
theorem cmp_Compare_ac (a0:Int) (a1:Int) (r:Int) (h:cmp_Compare a0 a1=some r):AC Tryz.prog 98 [(.d (.int .i64 a0)),(.d (.int .i64 a1))] [] (.d (.int .i64 r)) []:=by
 refine ac2 Tryz.func98 rfl rfl fun B hB hN L => ?_
 delta cmp_Compare at h
 apply sr (c (assign (L rfl) (ii 0)) rfl cn)
 obtain⟨r1,hr1,h⟩:=bindS h
 apply sr (c (mv hN (q 0)) rfl (cg (cf hB fnOk121 (cmp_isNaN_ac a0 r1 hr1) (L rfl) (OpdL.cons (q 7) OpdL.nil)) rfl (c (assign (L rfl) (q 8)) rfl cn)))
 obtain⟨r2,hr2,h⟩:=bindS h
 apply sr (c (mv hN (q 1)) rfl (cg (cf hB fnOk121 (cmp_isNaN_ac a1 r2 hr2) (L rfl) (OpdL.cons (q 9) OpdL.nil)) rfl (c (assign (L rfl) (q 10)) rfl cn)))
 apply AWp.seq
 apply sr (c (mv hN (q 5)) rfl cn)
 apply AWp.cond rfl<;>intro hg3
 ·have h:=ite_t hg3 h
  apply AWp.seq
  apply sr (c (mv hN (q 6)) rfl cn)
  apply AWp.cond rfl<;>intro hg4
  ·have h:=ite_t hg4 h
   apply sr (c (assign (L rfl) (ii 0)) rfl cn)
   apply AWp.ret
   apply seqQ_r
   apply seqQ_r
   obtain rfl:=oi h
   exact rt (kp [(4,_)] [] hB rfl rfl (by rfl)) [(i6 0)] (Res.tmp (by rfl) (by rfl) Res.nil) rfl
  ·have h:=ite_f hg4 h
   apply AWp.skip
   apply seqQ_n
   apply sr (c (assign (L rfl) (ii (-1))) rfl cn)
   apply AWp.ret
   apply seqQ_r
   obtain rfl:=oi h
   exact rt (kp [(4,_)] [] hB rfl rfl (by rfl)) [(i6 (-1))] (Res.tmp (by rfl) (by rfl) Res.nil) rfl
 ·have h:=ite_f hg3 h
  apply AWp.skip
  apply seqQ_n
  apply AWp.seq
  apply sr (c (mv hN (q 6)) rfl cn)
  apply AWp.cond rfl<;>intro hg5
  ·have h:=ite_t hg5 h
   apply sr (c (assign (L rfl) (ii 1)) rfl cn)
   apply AWp.ret
   apply seqQ_r
   obtain rfl:=oi h
   exact rt (kp [(4,_)] [] hB rfl rfl (by rfl)) [(i6 1)] (Res.tmp (by rfl) (by rfl) Res.nil) rfl
  ·have h:=ite_f hg5 h
   apply AWp.skip
   apply seqQ_n
   apply AWp.seq
   apply sr (c (mv hN (q 0)) rfl (c (mv hN (q 1)) rfl (c (lss (L rfl) (q 14) (q 15)) rfl cn)))
   apply AWp.cond rfl<;>intro hg6
   ·have h:=ite_t hg6 h
    apply sr (c (assign (L rfl) (ii (-1))) rfl cn)
    apply AWp.ret
    apply seqQ_r
    obtain rfl:=oi h
    exact rt (kp [(4,_)] [] hB rfl rfl (by rfl)) [(i6 (-1))] (Res.tmp (by rfl) (by rfl) Res.nil) rfl
   ·have h:=ite_f hg6 h
    apply AWp.skip
    apply seqQ_n
    apply AWp.seq
    apply sr (c (mv hN (q 0)) rfl (c (mv hN (q 1)) rfl (c (gtr (L rfl) (q 17) (q 18)) rfl cn)))
    apply AWp.cond rfl<;>intro hg7
    ·have h:=ite_t hg7 h
     apply sr (c (assign (L rfl) (ii 1)) rfl cn)
     apply AWp.ret
     apply seqQ_r
     obtain rfl:=oi h
     exact rt (kp [(4,_)] [] hB rfl rfl (by rfl)) [(i6 1)] (Res.tmp (by rfl) (by rfl) Res.nil) rfl
    ·have h:=ite_f hg7 h
     apply AWp.skip
     apply seqQ_n
     apply sr (c (assign (L rfl) (ii 0)) rfl cn)
     apply AWp.ret
     obtain rfl:=oi h
     exact rt (kp [(4,_)] [] hB rfl rfl (by rfl)) [(i6 0)] (Res.tmp (by rfl) (by rfl) Res.nil) rfl
def cmp_isNaN_2 (a0:Int):Option (Bool) :=
 some (a0 != a0)
theorem cmp_isNaN_2_ac (a0:Int) (r:Bool) (h:cmp_isNaN_2 a0=some r):AC Tryz.prog 131 [(.d (.int .u64 a0))] [] (.d (.bool r)) []:=by
 refine AC.of_code2 Tryz.func131 rfl rfl (Nat.le_of_ble_eq_true (by rfl)) fun B hB hN => ?_
 delta cmp_isNaN_2 at h
 apply sr (c (assign (ltN hN rfl) (Opd.bool false)) rfl cn)
 apply sr (c (mv hN (q 0)) rfl (c (mv hN (q 0)) rfl (c (neqI (ltN hN rfl) (q 3) (q 4)) rfl (c (assign (ltN hN rfl) (q 5)) rfl cn))))
 apply AWp.ret
 obtain rfl:=oi h
 exact rt (kp [(2,_)] [] hB rfl rfl (by rfl)) [(bo (a0 != a0))] (Res.tmp (by rfl) (by rfl) Res.nil) rfl
def cmp_Compare_2 (a0:Int) (a1:Int):Option (Int) :=
 (cmp_isNaN_2 a0).bind fun r1 =>
 (cmp_isNaN_2 a1).bind fun r2 =>
 (if r1=true then
 (if r2=true then
 some 0
 else
 some (-1))
 else
 (if r2=true then
 some 1
 else
 (if (decide (a0<a1))=true then
 some (-1)
 else
 (if (decide (a1<a0))=true then
 some 1
 else
 some 0))))
theorem cmp_Compare_2_ac (a0:Int) (a1:Int) (r:Int) (h:cmp_Compare_2 a0 a1=some r):AC Tryz.prog 125 [(.d (.int .u64 a0)),(.d (.int .u64 a1))] [] (.d (.int .i64 r)) []:=by
 refine ac2 Tryz.func125 rfl rfl fun B hB hN L => ?_
 delta cmp_Compare_2 at h
 apply sr (c (assign (L rfl) (ii 0)) rfl cn)
 obtain⟨r1,hr1,h⟩:=bindS h
 apply sr (c (mv hN (q 0)) rfl (cg (cf hB fnOk131 (cmp_isNaN_2_ac a0 r1 hr1) (L rfl) (OpdL.cons (q 7) OpdL.nil)) rfl (c (assign (L rfl) (q 8)) rfl cn)))
 obtain⟨r2,hr2,h⟩:=bindS h
 apply sr (c (mv hN (q 1)) rfl (cg (cf hB fnOk131 (cmp_isNaN_2_ac a1 r2 hr2) (L rfl) (OpdL.cons (q 9) OpdL.nil)) rfl (c (assign (L rfl) (q 10)) rfl cn)))
 apply AWp.seq
 apply sr (c (mv hN (q 5)) rfl cn)
 apply AWp.cond rfl<;>intro hg3
 ·have h:=ite_t hg3 h
  apply AWp.seq
  apply sr (c (mv hN (q 6)) rfl cn)
  apply AWp.cond rfl<;>intro hg4
  ·have h:=ite_t hg4 h
   apply sr (c (assign (L rfl) (ii 0)) rfl cn)
   apply AWp.ret
   apply seqQ_r
   apply seqQ_r
   obtain rfl:=oi h
   exact rt (kp [(4,_)] [] hB rfl rfl (by rfl)) [(i6 0)] (Res.tmp (by rfl) (by rfl) Res.nil) rfl
  ·have h:=ite_f hg4 h
   apply AWp.skip
   apply seqQ_n
   apply sr (c (assign (L rfl) (ii (-1))) rfl cn)
   apply AWp.ret
   apply seqQ_r
   obtain rfl:=oi h
   exact rt (kp [(4,_)] [] hB rfl rfl (by rfl)) [(i6 (-1))] (Res.tmp (by rfl) (by rfl) Res.nil) rfl
 ·have h:=ite_f hg3 h
  apply AWp.skip
  apply seqQ_n
  apply AWp.seq
  apply sr (c (mv hN (q 6)) rfl cn)
  apply AWp.cond rfl<;>intro hg5
  ·have h:=ite_t hg5 h
   apply sr (c (assign (L rfl) (ii 1)) rfl cn)
   apply AWp.ret
   apply seqQ_r
   obtain rfl:=oi h
   exact rt (kp [(4,_)] [] hB rfl rfl (by rfl)) [(i6 1)] (Res.tmp (by rfl) (by rfl) Res.nil) rfl
  ·have h:=ite_f hg5 h
   apply AWp.skip
   apply seqQ_n
   apply AWp.seq
   apply sr (c (mv hN (q 0)) rfl (c (mv hN (q 1)) rfl (c (lss (L rfl) (q 14) (q 15)) rfl cn)))
   apply AWp.cond rfl<;>intro hg6
   ·have h:=ite_t hg6 h
    apply sr (c (assign (L rfl) (ii (-1))) rfl cn)
    apply AWp.ret
    apply seqQ_r
    obtain rfl:=oi h
    exact rt (kp [(4,_)] [] hB rfl rfl (by rfl)) [(i6 (-1))] (Res.tmp (by rfl) (by rfl) Res.nil) rfl
   ·have h:=ite_f hg6 h
    apply AWp.skip
    apply seqQ_n
    apply AWp.seq
    apply sr (c (mv hN (q 0)) rfl (c (mv hN (q 1)) rfl (c (gtr (L rfl) (q 17) (q 18)) rfl cn)))
    apply AWp.cond rfl<;>intro hg7
    ·have h:=ite_t hg7 h
     apply sr (c (assign (L rfl) (ii 1)) rfl cn)
     apply AWp.ret
     apply seqQ_r
     obtain rfl:=oi h
     exact rt (kp [(4,_)] [] hB rfl rfl (by rfl)) [(i6 1)] (Res.tmp (by rfl) (by rfl) Res.nil) rfl
    ·have h:=ite_f hg7 h
     apply AWp.skip
     apply seqQ_n
     apply sr (c (assign (L rfl) (ii 0)) rfl cn)
     apply AWp.ret
     obtain rfl:=oi h
     exact rt (kp [(4,_)] [] hB rfl rfl (by rfl)) [(i6 0)] (Res.tmp (by rfl) (by rfl) Res.nil) rfl
def cmp_Or_L0 (a0:(List Int)) (s1:Int):Option (((Int)⊕(Unit))⊕(Int)) :=
 (if (decide (s1<(a0.length:Int)))=true then
 (idx a0 s1).bind fun x11 =>
 (if (x11 != 0)=true then
 some (.inl (.inl x11))
 else
 some (.inr (w64 (s1+1))))
 else
 some (.inl (.inr ())))
def cmp_Or (a0:(List Int)):Option (Int) :=
 (loop (cmp_Or_L0 a0) 0).bind fun x13=>match x13 with
 | (.inl p8) =>
  some p8
 | (.inr _) =>
  some 0
theorem cmp_Or_ac (a0:(List Int)) (r:Int) (h:cmp_Or a0=some r):AC Tryz.prog 96 [(.d (.list 1 (a0.map (eI .i64))))] [] (.d (.int .i64 r)) []:=by
 refine AC.of_code2 Tryz.func96 rfl rfl (Nat.le_of_ble_eq_true (by rfl)) fun B hB hN => ?_
 delta cmp_Or at h
 apply sr (c (assign (ltN hN rfl) (ii 0)) rfl cn)
 apply sr (c (assign (ltN hN rfl) (ii 0)) rfl cn)
 apply AWp.seq
 apply sr (c (mv hN (q 0)) rfl (c (OpJ.val (v':=(i6 (a0.length:Int))) (by simp) (lenD underlying23 (ltN hN rfl) (q 6))) rfl (c (mv hN (ii 0)) rfl cn)))
 apply AWp.block
 obtain⟨x13,hx14,h⟩:=bindS h
 refine lg (cmp_Or_L0 a0) (fun s1:Int=>([(3,(i6 0)),(6,(qI_1 a0)),(7,(i6 (a0.length:Int))),(8,(i6 s1))]:EL)) (fun s1:Int=>([]:OL)) (fun(x:(Int)⊕(Unit)) e E' O'=>match x with | (.inl p8)=>e = .ret∧Mat B E' O' ([(2,(i6 p8))]:EL) ([]:OL) | (.inr _p)=>e = .exit 0∧Mat B E' O' ([(3,(i6 0))]:EL) ([]:OL)) hx14 (mp [] _ _ hB) (fun s1 y h => ?_) (fun e E' O' hR => ?_)
 ·unfold cmp_Or_L0 at h
  apply sr (c (lss (ltN hN rfl) (q 8) (q 7)) rfl cn)
  apply AWp.seq
  apply AWp.cond rfl<;>intro hg10
  ·have h:=ite_t hg10 h
   apply AWp.skip
   apply seqQ_n
   apply AWp.seq
   apply AWp.block
   obtain⟨x11,hx11,h⟩:=bindS h
   apply sr (c (indexD underlying23 tyS3 (idx_some hx11).1 (get_map (eI .i64) (idx_some hx11).2) (ltN hN rfl) (q 6) (q 8)) rfl (c (loadD tyS3 (by rfl) (by rfl) (ltN hN rfl) (q 10)) rfl (c (assign (ltN hN rfl) (q 11)) rfl cn)))
   apply sr (c (mv hN (q 5)) rfl (c (mv hN (q 3)) rfl (c (neqI (ltN hN rfl) (q 12) (q 13)) rfl cn)))
   apply AWp.cond rfl<;>intro hg12
   ·have h:=ite_t hg12 h
    apply sr (c (mv hN (q 5)) rfl (c (assign (ltN hN rfl) (q 15)) rfl cn))
    apply AWp.ret
    apply blkQ_r
    apply seqQ_r
    obtain rfl:=oi h
    exact⟨(fun hc=>by cases hc),rfl,(mp [] _ _ hB)⟩
   ·have h:=ite_f hg12 h
    apply AWp.skip
    apply blkQ_n
    apply seqQ_n
    apply rg (c (add6 (ltN hN rfl) (q 8) (ii 1)) rfl (c (mv hN (q 16)) rfl cn))
    obtain rfl:=oi h
    exact⟨rfl,(mp [] _ _ hB)⟩
  ·have h:=ite_f hg10 h
   apply AWp.exit
   apply seqQ_e
   obtain rfl:=oi h
   exact⟨(fun hc=>by cases hc),rfl,(mp [] _ _ hB)⟩
 ·rcases x13 with p8 | _
  ·obtain⟨rfl,hmat⟩:=hR
   apply blkQ_r
   apply seqQ_r
   obtain rfl:=oi h
   exact rt (Mat.trans hmat (mp [] [(2,(i6 p8))] [] hB)) [(i6 p8)] (Res.tmp (by rfl) (by rfl) Res.nil) rfl
  ·obtain⟨rfl,hmat⟩:=hR
   apply blkQ_hit
   apply seqQ_n
   refine AWp.ghost hmat ?_
   apply sr (c (mv hN (q 3)) rfl (c (assign (ltN hN rfl) (q 17)) rfl cn))
   apply AWp.ret
   obtain rfl:=oi h
   exact rt (kp [(2,_)] [] hB rfl rfl (by rfl)) [(i6 0)] (Res.tmp (by rfl) (by rfl) Res.nil) rfl
def addr_Cmp (a0:aAddr) (a1:aAddr):Option (Int) :=
 (addr_family a0).bind fun r1 =>
 (addr_family a1).bind fun r2 =>
 (cmp_Compare r1 r2).bind fun r3 =>
 (cmp_Compare_2 a0.fHi a1.fHi).bind fun r4 =>
 (cmp_Compare_2 a0.fLo a1.fLo).bind fun r5 =>
 (cmp_Or ([r3,r4,r5]:List Int)).bind fun r6 =>
 some r6
theorem addr_Cmp_ac (a0:aAddr) (a1:aAddr) (r:Int) (h:addr_Cmp a0 a1=some r):AC Tryz.prog 109 [(.d (e_aAddr a0)),(.d (e_aAddr a1))] [] (.d (.int .i64 r)) []:=by
 refine AC.of_code2 Tryz.func109 rfl rfl (Nat.le_of_ble_eq_true (by rfl)) fun B hB hN => ?_
 delta addr_Cmp at h
 apply sr (cg (OpJ.box hB (nm:=1002) (by decide) (by simp) rfl (ltN hN rfl) (q 0)) rfl (cg (OpJ.box hB (nm:=1003) (by decide) (by simp) rfl (ltN hN rfl) (q 1)) rfl (c (assign (ltN hN rfl) (ii 0)) rfl cn)))
 obtain⟨r1,hr1,h⟩:=bindS h
 obtain⟨r2,hr2,h⟩:=bindS h
 obtain⟨r3,hr3,h⟩:=bindS h
 obtain⟨r4,hr4,h⟩:=bindS h
 obtain⟨r5,hr5,h⟩:=bindS h
 obtain⟨r6,hr6,h⟩:=bindS h
 apply sd (c (lb hN 44 _ _ tyS44 (At.here _) (q 2)) rfl (cg (OpJ.callFn hB fnOk124 (addr_family_ac a0 r1 hr1) [] (by kernel_rfl) (ltN hN rfl) (by kernel_rfl) (OpdL.cons (q 5) OpdL.nil)) rfl (c (lb hN 44 _ _ tyS44 (At.here _) (q 3)) rfl (cg (OpJ.callFn hB fnOk124 (addr_family_ac a1 r2 hr2) [] (by kernel_rfl) (ltN hN rfl) (by kernel_rfl) (OpdL.cons (q 7) OpdL.nil)) rfl (cg (OpJ.callFn hB fnOk98 (cmp_Compare_ac r1 r2 r3 hr3) [] (by kernel_rfl) (ltN hN rfl) (by kernel_rfl) (OpdL.cons (q 6) (OpdL.cons (q 8) OpdL.nil))) rfl (c (fo 1002 1 [1] hN underlying44 1 tyS42 (q 2)) rfl (c (la hN 44 tyS42 (q 10)) rfl (c (fo 1003 1 [1] hN underlying44 1 tyS42 (q 3)) rfl (c (la hN 44 tyS42 (q 12)) rfl (cg (OpJ.callFn hB fnOk125 (cmp_Compare_2_ac a0.fHi a1.fHi r4 hr4) [] (by kernel_rfl) (ltN hN rfl) (by kernel_rfl) (OpdL.cons (q 11) (OpdL.cons (q 13) OpdL.nil))) rfl (c (fo 1002 2 [2] hN underlying44 2 tyS42 (q 2)) rfl (c (la hN 44 tyS42 (q 15)) rfl (c (fo 1003 2 [2] hN underlying44 2 tyS42 (q 3)) rfl (c (la hN 44 tyS42 (q 17)) rfl (cg (OpJ.callFn hB fnOk125 (cmp_Compare_2_ac a0.fLo a1.fLo r5 hr5) [] (by kernel_rfl) (ltN hN rfl) (by kernel_rfl) (OpdL.cons (q 16) (OpdL.cons (q 18) OpdL.nil))) rfl (c (buildSlice underlying23 tyS3 tyZD3 (by rfl) (by decide) (by decide) (Opds.cons (q 9) (Opds.cons (q 14) (Opds.cons (q 19) Opds.nil))) (by kernel_rfl) (es:=([(.int .i64 r3),(.int .i64 r4),(.int .i64 r5)]:List D)) (by rfl) (by rfl) (by kernel_rfl) (by simp) (ltN hN rfl)) rfl (cg (OpJ.callFn hB fnOk96 (cmp_Or_ac ([r3,r4,r5]:List Int) r6 hr6) [] (by kernel_rfl) (ltN hN rfl) (by kernel_rfl) (OpdL.cons (q 20) OpdL.nil)) rfl (c (assign (ltN hN rfl) (q 21)) rfl cn)))))))))))))))))) (by kernel_rfl) (by kernel_rfl)
 apply AWp.ret
 obtain rfl:=oi h
 exact rt (kp [(4,_)] [] hB rfl rfl (by rfl)) [(i6 r6)] (Res.tmp (by rfl) (by rfl) Res.nil) rfl
def addr_Next (a0:aAddr):Option (aAddr×Bool) :=
 jn (fun m2:Int =>
 jn (fun m6:Bool =>
 (if m6=true then
 some ((aAddr.mk false 0 0),false)
 else
 some ((aAddr.mk a0.fV6 m2 (IntKind.u64.wrap (a0.fLo+1))),true))) (fun j7 =>
 (if ((a0.fV6&&(m2==0))&&((IntKind.u64.wrap (a0.fLo+1))==0))=true then
 j7 true
 else
 (addr_Valid (aAddr.mk a0.fV6 m2 (IntKind.u64.wrap (a0.fLo+1)))).bind fun r10 =>
 j7 (!r10)))) (fun j3 =>
 (if (a0.fV6&&((IntKind.u64.wrap (a0.fLo+1))==0))=true then
 j3 (IntKind.u64.wrap (a0.fHi+1))
 else
 j3 a0.fHi))
theorem addr_Next_ac (a0:aAddr) (r:aAddr×Bool) (h:addr_Next a0=some r):AC Tryz.prog 150 [(.d (e_aAddr a0))] [] (.tup [(.d (e_aAddr r.1)),(.d (.bool r.2))]) []:=by
 refine ac2 Tryz.func150 rfl rfl fun B hB hN L => ?_
 delta addr_Next at h
 apply sr (cg (OpJ.box hB (nm:=1001) (by decide) (by simp) rfl (L rfl) (q 0)) rfl (cg (alloc hB tyZ44 (nm:=1002) (by decide) (L rfl)) rfl (c (assign (L rfl) (Opd.bool false)) rfl cn)))
 apply sr (c (fo 1001 2 [2] hN underlying44 2 tyS42 (q 1)) rfl (c (la hN 44 tyS42 (q 4)) rfl (c (OpJ.add (L rfl) (q 5) (Opd.int .u64 (1))) rfl (c (fo 1001 2 [2] hN underlying44 2 tyS42 (q 1)) rfl (cg (OpJ.storeB tyS42 (SetAt.dst1 (by rfl) (by rfl) (SetAt.here _ _) (by rfl) (by rfl) (by first | rfl | omega)) (by rfl) (by rfl) (by simp) rfl (q 7) (q 6)) rfl cn)))))
 apply AWp.seq
 apply sr (c (fo 1001 0 [0] hN underlying44 0 tyS4 (q 1)) rfl (c (la hN 44 tyS4 (q 8)) rfl (c (mv hN (q 9)) rfl (c (oq hN 10 (fo 1001 2 [2] hN underlying44 2 tyS42 (q 1)) (OptL.keep (by rfl) OptL.nil) (GuardV.plain _)) rfl (c (oq hN 10 (la hN 44 tyS42 (q 11)) (OptL.opt OptL.nil) (GuardV.plain _)) rfl (c (oq hN 10 (eqlI (L rfl) (q 12) (Opd.int .u64 (0))) (OptL.opt OptL.nil) (GuardV.plain _)) rfl (c (pickAnd rfl (L rfl) (q 10) (q 13)) rfl cn)))))))
 refine gh [(1,_),(2,_),(14,_)] [(1001,some _),(1002,some _)] hB rfl rfl (by rfl) ?_
 refine AWp.cut h (fun m2:Int=>([(1,(pt 1001)),(2,(pt 1002))]:EL)) (fun m2:Int=>([(1001,some (.box 44 (.d (.st [(.bool a0.fV6),(.int .u64 m2),(.int .u64 (IntKind.u64.wrap (a0.fLo+1)))])))),(1002,bd 44 (.st [(.bool false),(.int .u64 0),(.int .u64 0)]))]:OL)) (fun m2 h E' O' hmat => ?_) (fun j3 hjj3 h => ?_)
 ·apply seqQ_n
  refine AWp.ghost hmat ?_
  apply AWp.seq
  apply AWp.seq
  refine AWp.cut h (fun m6:Bool=>([(1,(pt 1001)),(2,(pt 1002)),(35,(bo m6))]:EL)) (fun m6:Bool=>([(1001,some (.box 44 (.d (.st [(.bool a0.fV6),(.int .u64 m2),(.int .u64 (IntKind.u64.wrap (a0.fLo+1)))])))),(1002,bd 44 (.st [(.bool false),(.int .u64 0),(.int .u64 0)]))]:OL)) (fun m6 h E' O' hmat => ?_) (fun j7 hjj7 h => ?_)
  ·apply seqQ_n
   refine AWp.ghost hmat ?_
   apply AWp.cond rfl<;>intro hg8
   ·have h:=ite_t hg8 h
    apply sr (c (OpJ.coe (v:=(.st [(bo false),(.d (.int .u64 0)),(.d (.int .u64 0))])) (y:=(.st [(.bool false),(.int .u64 0),(.int .u64 0)])) (Co.st (CoL.cons (Co.d _) (CoL.cons (Co.d _) (CoL.cons (Co.d _) CoL.nil)))) rfl (OpJ.build (places:=[(0,1),(1,1),(2,1)]) ⟨underlying44,fun w=>by kernel_rfl⟩ tyZS44 Opds.nil (by kernel_rfl) (r:=(.st [(bo false),(.d (.int .u64 0)),(.d (.int .u64 0))])) (by rfl) (L rfl))) rfl (cg (sB tyS44 (q 2) (q 36)) rfl (c (assign (L rfl) (Opd.bool false)) rfl cn)))
    apply AWp.ret
    apply seqQ_r
    obtain rfl:=oi h
    exact rt (kp [(2,_),(3,_)] [(1002,some _)] hB rfl rfl (by rfl)) [(.d (.st [(.bool false),(.int .u64 0),(.int .u64 0)])),(bo false)] (Res.cell (c:=(.d (.st [(.bool false),(.int .u64 0),(.int .u64 0)]))) (by rfl) (by rfl) tyS44 (by rfl) (by rfl) (by rfl) (Res.tmp (by rfl) (by rfl) Res.nil)) rfl
   ·have h:=ite_f hg8 h
    apply AWp.skip
    apply seqQ_n
    apply sr (c (lb hN 44 _ _ tyS44 (At.here _) (q 1)) rfl (cg (sB tyS44 (q 2) (q 37)) rfl (c (assign (L rfl) (Opd.bool true)) rfl cn)))
    apply AWp.ret
    obtain rfl:=oi h
    exact rt (kp [(2,_),(3,_)] [(1002,some _)] hB rfl rfl (by rfl)) [(.d (.st [(.bool a0.fV6),(.int .u64 m2),(.int .u64 (IntKind.u64.wrap (a0.fLo+1)))])),(bo true)] (Res.cell (c:=(.d (.st [(.bool a0.fV6),(.int .u64 m2),(.int .u64 (IntKind.u64.wrap (a0.fLo+1)))]))) (by rfl) (by rfl) tyS44 (by rfl) (by rfl) (by rfl) (Res.tmp (by rfl) (by rfl) Res.nil)) rfl
  ·rcases bft ((a0.fV6&&(m2==0))&&((IntKind.u64.wrap (a0.fLo+1))==0)) with hg9 | hg9
   ·have h:=ite_t hg9 h
    apply rg (c (fo 1001 0 [0] hN underlying44 0 tyS4 (q 1)) rfl (c (la hN 44 tyS4 (q 19)) rfl (c (mv hN (q 20)) rfl (c (oq hN 21 (fo 1001 1 [1] hN underlying44 1 tyS42 (q 1)) (OptL.keep (by rfl) OptL.nil) (GuardV.plain _)) rfl (c (oq hN 21 (la hN 44 tyS42 (q 22)) (OptL.opt OptL.nil) (GuardV.plain _)) rfl (c (oq hN 21 (eqlI (L rfl) (q 23) (Opd.int .u64 (0))) (OptL.opt OptL.nil) (GuardV.plain _)) rfl (c (pickAnd rfl (L rfl) (q 21) (q 24)) rfl (c (mv hN (q 25)) rfl (c (oq hN 26 (fo 1001 2 [2] hN underlying44 2 tyS42 (q 1)) (OptL.keep (by rfl) OptL.nil) (GuardV.plain _)) rfl (c (oq hN 26 (la hN 44 tyS42 (q 27)) (OptL.opt OptL.nil) (GuardV.plain _)) rfl (c (oq hN 26 (eqlI (L rfl) (q 28) (Opd.int .u64 (0))) (OptL.opt OptL.nil) (GuardV.plain _)) rfl (c (pickAnd rfl (L rfl) (q 26) (q 29)) rfl (c (OpJ.val (v':=.d (.bool true)) (by rw [hg9]<;>rfl) (mv hN (q 30))) rfl (ks 31 (L rfl) (ks 31 (L rfl) (ks 31 (L rfl) (c (pickT (L rfl) (q 31) (Opd.bool true)) rfl cn)))))))))))))))))
    exact hjj7 _ h _ _ (mp [] _ _ hB)
   ·have h:=ite_f hg9 h
    obtain⟨r10,hr10,h⟩:=bindS h
    apply rg (c (fo 1001 0 [0] hN underlying44 0 tyS4 (q 1)) rfl (c (la hN 44 tyS4 (q 19)) rfl (c (mv hN (q 20)) rfl (c (oq hN 21 (fo 1001 1 [1] hN underlying44 1 tyS42 (q 1)) (OptL.keep (by rfl) OptL.nil) (GuardV.plain _)) rfl (c (oq hN 21 (la hN 44 tyS42 (q 22)) (OptL.opt OptL.nil) (GuardV.plain _)) rfl (c (oq hN 21 (eqlI (L rfl) (q 23) (Opd.int .u64 (0))) (OptL.opt OptL.nil) (GuardV.plain _)) rfl (c (pickAnd rfl (L rfl) (q 21) (q 24)) rfl (c (mv hN (q 25)) rfl (c (oq hN 26 (fo 1001 2 [2] hN underlying44 2 tyS42 (q 1)) (OptL.keep (by rfl) OptL.nil) (GuardV.plain _)) rfl (c (oq hN 26 (la hN 44 tyS42 (q 27)) (OptL.opt OptL.nil) (GuardV.plain _)) rfl (c (oq hN 26 (eqlI (L rfl) (q 28) (Opd.int .u64 (0))) (OptL.opt OptL.nil) (GuardV.plain _)) rfl (c (pickAnd rfl (L rfl) (q 26) (q 29)) rfl (c (OpJ.val (v':=.d (.bool false)) (by rw [hg9]<;>rfl) (mv hN (q 30))) rfl (c (gd 31 (lb hN 44 _ _ tyS44 (At.here _) (q 1))) rfl (cg (gd 31 (OpJ.callFn hB fnOk59 (addr_Valid_ac (aAddr.mk a0.fV6 m2 (IntKind.u64.wrap (a0.fLo+1))) r10 hr10) [] (by kernel_rfl) (L rfl) (by kernel_rfl) (OpdL.cons (q 32) OpdL.nil))) rfl (c (gd 31 (OpJ.not (L rfl) (q 33))) rfl (c (pickF (L rfl) (q 31) (q 34)) rfl cn)))))))))))))))))
    exact hjj7 _ h _ _ (mp [] _ _ hB)
 ·apply AWp.cond rfl<;>intro hg11
  ·have h:=ite_t hg11 h
   apply rg (c (fo 1001 1 [1] hN underlying44 1 tyS42 (q 1)) rfl (c (la hN 44 tyS42 (q 15)) rfl (c (OpJ.add (L rfl) (q 16) (Opd.int .u64 (1))) rfl (c (fo 1001 1 [1] hN underlying44 1 tyS42 (q 1)) rfl (cg (OpJ.storeB tyS42 (SetAt.dst1 (by rfl) (by rfl) (SetAt.here _ _) (by rfl) (by rfl) (by first | rfl | omega)) (by rfl) (by rfl) (by simp) rfl (q 18) (q 17)) rfl cn)))))
   exact hjj3 _ h _ _ (mp [] _ _ hB)
  ·have h:=ite_f hg11 h
   apply AWp.skip
   exact hjj3 _ h _ _ (mp [] _ _ hB)
def resource_order_valid_L0 (a0:(List aAddr_)) (s1:Int):Option (((Unit)⊕(Unit))⊕(Int)) :=
 (if (decide (s1<(a0.length:Int)))=true then
 jn (fun _:Unit =>
 some (.inr (w64 (s1+1)))) (fun j117 =>
 (idx a0 s1).bind fun x118 =>
 (addr_Cmp x118.ffrom x118.fto).bind fun r119 =>
 (if (decide (0<r119))=true then
 some (.inl (.inl ()))
 else
 (if (s1==0)=true then
 j117 ()
 else
 (idx a0 (w64 (s1-1))).bind fun x122 =>
 (addr_Next x122.fto).bind fun r123 =>
 jn (fun m131:Bool =>
 (if m131=true then
 some (.inl (.inl ()))
 else
 j117 ())) (fun j132 =>
 (idx a0 (w64 (s1-1))).bind fun x134 =>
 (addr_Cmp x134.fto x118.ffrom).bind fun r135 =>
 (if (decide (0≤r135))=true then
 j132 true
 else
 (if r123.2=true then
 (addr_Cmp r123.1 x118.ffrom).bind fun r138 =>
 j132 (r138==0)
 else
 j132 false))))))
 else
 some (.inl (.inr ())))
def resource_order_valid (a0:(List aAddr_)):Option (Bool) :=
 (loop (resource_order_valid_L0 a0) 0).bind fun x139=>match x139 with
 | (.inl _) =>
  some false
 | (.inr _) =>
  some true
theorem resource_order_valid_ac (a0:(List aAddr_)) (r:Bool) (h:resource_order_valid a0=some r):AC Tryz.prog 64 [(.st [(.func 109 []),(.func 150 []),(.func 151 [])]),(.d (.list 6 (a0.map e_aAddr_)))] [] (.d (.bool r)) []:=by
 refine ac2 Tryz.func64 rfl rfl fun B hB hN L => ?_
 delta resource_order_valid at h
 apply sr (cg (OpJ.box hB (nm:=1002) (by decide) (by simp) rfl (L rfl) (q 0)) rfl (c (assign (L rfl) (Opd.bool false)) rfl cn))
 apply AWp.seq
 apply sr (c (mv hN (q 1)) rfl (c (OpJ.val (v':=(i6 (a0.length:Int))) (by simp) (lenD underlying110 (L rfl) (q 9))) rfl (c (mv hN (ii 0)) rfl cn)))
 apply AWp.block
 obtain⟨x139,hx140,h⟩:=bindS h
 refine lg (resource_order_valid_L0 a0) (fun s1:Int=>([(1,(qe_aAddr__6 a0)),(2,(pt 1002)),(9,(qe_aAddr__6 a0)),(10,(i6 (a0.length:Int))),(11,(i6 s1))]:EL)) (fun s1:Int=>([(1002,some (.box 117 (.st [(.func 109 []),(.func 150 []),(.func 151 [])])))]:OL)) (fun(x:(Unit)⊕(Unit)) e E' O'=>match x with | (.inl _p)=>e = .ret∧Mat B E' O' ([(4,(bo false))]:EL) ([]:OL) | (.inr _p)=>e = .exit 0∧Mat B E' O' ([]:EL) ([]:OL)) hx140 (mp [] _ _ hB) (fun s1 y h => ?_) (fun e E' O' hR => ?_)
 ·unfold resource_order_valid_L0 at h
  apply sr (c (lss (L rfl) (q 11) (q 10)) rfl cn)
  apply AWp.seq
  apply AWp.cond rfl<;>intro hg94
  ·have h:=ite_t hg94 h
   apply AWp.skip
   apply seqQ_n
   apply AWp.seq
   refine AWp.cut h (fun _:Unit=>([(1,(qe_aAddr__6 a0)),(2,(pt 1002)),(9,(qe_aAddr__6 a0)),(10,(i6 (a0.length:Int))),(11,(i6 s1))]:EL)) (fun _:Unit=>([(1002,some (.box 117 (.st [(.func 109 []),(.func 150 []),(.func 151 [])])))]:OL)) (fun _m h E' O' hmat => ?_) (fun j117 hjj117 h => ?_)
   ·apply seqQ_n
    refine AWp.ghost hmat ?_
    apply rg (c (add6 (L rfl) (q 11) (ii 1)) rfl (c (mv hN (q 62)) rfl cn))
    obtain rfl:=oi h
    exact⟨rfl,(mp [] _ _ hB)⟩
   ·apply AWp.block
    obtain⟨x118,hx118,h⟩:=bindS h
    apply sr (c (mv hN (q 11)) rfl (c (indexD underlying110 tyS139 (idx_some hx118).1 (get_map e_aAddr_ (idx_some hx118).2) (L rfl) (q 9) (q 11)) rfl (c (loadD tyS139 (by rfl) (by rfl) (L rfl) (q 14)) rfl (cg (alloc hB tyZ139 (nm:=1006) (by decide) (L rfl)) rfl (c (assign (L rfl) (q 13)) rfl (cg (sB tyS139 (q 6) (q 15)) rfl cn))))))
    apply AWp.seq
    obtain⟨r119,hr119,h⟩:=bindS h
    apply sr (c (fo 1002 0 [0] hN underlying117 0 tyS93 (q 2)) rfl (c (lb hN 117 _ (.func 109 []) tyS93 (At.st1 (f:=(.func 109 [])) (by rfl) (by rfl) (At.here _) (by first | rfl | omega)) (q 16)) rfl (c (fo 1006 0 [0] hN underlying139 0 tyS44 (q 6)) rfl (c (la hN 139 tyS44 (q 18)) rfl (c (fo 1006 3 [1] hN underlying139 3 tyS44 (q 6)) rfl (c (la hN 139 tyS44 (q 20)) rfl (cg (callVal (args:=[(.d (e_aAddr x118.ffrom)),(.d (e_aAddr x118.fto))]) (caps:=[]) hB fnOk109 [] (addr_Cmp_ac x118.ffrom x118.fto r119 hr119) (by kernel_rfl) (L rfl) (by kernel_rfl) (by kernel_rfl) (OpdL.cons (q 19) (OpdL.cons (q 21) OpdL.nil))) rfl (c (gtr (L rfl) (q 22) (ii 0)) rfl cn))))))))
    apply AWp.cond rfl<;>intro hg120
    ·have h:=ite_t hg120 h
     apply sr (c (assign (L rfl) (Opd.bool false)) rfl cn)
     apply AWp.ret
     apply seqQ_r
     apply blkQ_r
     apply seqQ_r
     obtain rfl:=oi h
     exact⟨(fun hc=>by cases hc),rfl,(mp [] _ _ hB)⟩
    ·have h:=ite_f hg120 h
     apply AWp.skip
     apply seqQ_n
     apply AWp.seq
     apply sr (c (mv hN (q 5)) rfl (c (eqlI (L rfl) (q 24) (ii 0)) rfl cn))
     apply AWp.cond rfl<;>intro hg121
     ·have h:=ite_t hg121 h
      apply AWp.exit
      apply seqQ_e
      apply blkQ_hit
      exact hjj117 _ h _ _ (mp [] _ _ hB)
     ·have h:=ite_f hg121 h
      apply AWp.skip
      apply seqQ_n
      obtain⟨x122,hx122,h⟩:=bindS h
      obtain⟨r123,hr123,h⟩:=bindS h
      apply sd (c (fo 1002 1 [1] hN underlying117 1 tyS115 (q 2)) rfl (c (lb hN 117 _ (.func 150 []) tyS115 (At.st1 (f:=(.func 150 [])) (by rfl) (by rfl) (At.here _) (by first | rfl | omega)) (q 27)) rfl (c (mv hN (q 1)) rfl (c (mv hN (q 5)) rfl (c (sub6 (L rfl) (q 30) (ii 1)) rfl (c (indexD underlying110 tyS139 (idx_some hx122).1 (get_map e_aAddr_ (idx_some hx122).2) (L rfl) (q 29) (q 31)) rfl (c (fieldD underlying139 (by rfl) (o:=3) (by rfl) tyS44 (by decide) (by rfl) (by rfl) (L rfl) (q 32)) rfl (c (loadD tyS44 (by rfl) (by rfl) (L rfl) (q 33)) rfl (cg (callVal (args:=[(.d (e_aAddr x122.fto))]) (caps:=[]) hB fnOk150 [] (addr_Next_ac x122.fto r123 hr123) (by kernel_rfl) (L rfl) (by kernel_rfl) (by kernel_rfl) (OpdL.cons (q 34) OpdL.nil)) rfl (c (mv hN (q 35)) rfl (c (extract (by rfl) rfl (L rfl) (q 26)) rfl (c (extract (by rfl) rfl (L rfl) (q 26)) rfl (cg (alloc hB tyZ44 (nm:=1007) (by decide) (L rfl)) rfl (cg (sB tyS44 (q 7) (q 36)) rfl (c (assign (L rfl) (q 37)) rfl cn))))))))))))))) (by kernel_rfl) (by kernel_rfl)
      apply AWp.seq
      refine AWp.cut h (fun m131:Bool=>([(1,(qe_aAddr__6 a0)),(2,(pt 1002)),(9,(qe_aAddr__6 a0)),(10,(i6 (a0.length:Int))),(11,(i6 s1)),(61,(bo m131))]:EL)) (fun m131:Bool=>([(1002,some (.box 117 (.st [(.func 109 []),(.func 150 []),(.func 151 [])])))]:OL)) (fun m131 h E' O' hmat => ?_) (fun j132 hjj132 h => ?_)
      ·apply seqQ_n
       refine AWp.ghost hmat ?_
       apply AWp.cond rfl<;>intro hg133
       ·have h:=ite_t hg133 h
        apply sr (c (assign (L rfl) (Opd.bool false)) rfl cn)
        apply AWp.ret
        apply blkQ_r
        apply seqQ_r
        obtain rfl:=oi h
        exact⟨(fun hc=>by cases hc),rfl,(mp [] _ _ hB)⟩
       ·have h:=ite_f hg133 h
        apply AWp.skip
        apply blkQ_n
        exact hjj117 _ h _ _ (mp [] _ _ hB)
      ·obtain⟨x134,hx134,h⟩:=bindS h
       obtain⟨r135,hr135,h⟩:=bindS h
       rcases bft (decide (0≤r135)) with hg136 | hg136
       ·have h:=ite_t hg136 h
        apply dr (c (fo 1002 0 [0] hN underlying117 0 tyS93 (q 2)) rfl (c (lb hN 117 _ (.func 109 []) tyS93 (At.st1 (f:=(.func 109 [])) (by rfl) (by rfl) (At.here _) (by first | rfl | omega)) (q 38)) rfl (c (mv hN (q 1)) rfl (c (mv hN (q 5)) rfl (c (sub6 (L rfl) (q 41) (ii 1)) rfl (c (indexD underlying110 tyS139 (idx_some hx134).1 (get_map e_aAddr_ (idx_some hx134).2) (L rfl) (q 40) (q 42)) rfl (c (fieldD underlying139 (by rfl) (o:=3) (by rfl) tyS44 (by decide) (by rfl) (by rfl) (L rfl) (q 43)) rfl (c (loadD tyS44 (by rfl) (by rfl) (L rfl) (q 44)) rfl (c (fo 1006 0 [0] hN underlying139 0 tyS44 (q 6)) rfl (c (la hN 139 tyS44 (q 46)) rfl (cg (callVal (args:=[(.d (e_aAddr x134.fto)),(.d (e_aAddr x118.ffrom))]) (caps:=[]) hB fnOk109 [] (addr_Cmp_ac x134.fto x118.ffrom r135 hr135) (by kernel_rfl) (L rfl) (by kernel_rfl) (by kernel_rfl) (OpdL.cons (q 45) (OpdL.cons (q 47) OpdL.nil))) rfl (c (geq (L rfl) (q 48) (ii 0)) rfl (c (OpJ.val (v':=.d (.bool true)) (by rw [hg136]<;>rfl) (mv hN (q 49))) rfl (ks 50 (L rfl) (ks 50 (L rfl) (cg (sV 52 (L rfl)) rfl (cg (sV 52 (L rfl)) rfl (cg (sV 52 (L rfl)) rfl (cg (sV 52 (L rfl)) rfl (cg (sV 52 (L rfl)) rfl (cg (sV 52 (L rfl)) rfl (cg (sV 52 (L rfl)) rfl (ks 50 (L rfl) (c (pickT (L rfl) (q 50) (Opd.bool true)) rfl cn)))))))))))))))))))))))) (by kernel_rfl) (by kernel_rfl)
        exact hjj132 _ h _ _ (mp [] _ _ hB)
       ·have h:=ite_f hg136 h
        rcases bft r123.2 with hg137 | hg137
        ·have h:=ite_t hg137 h
         obtain⟨r138,hr138,h⟩:=bindS h
         apply dr (c (fo 1002 0 [0] hN underlying117 0 tyS93 (q 2)) rfl (c (lb hN 117 _ (.func 109 []) tyS93 (At.st1 (f:=(.func 109 [])) (by rfl) (by rfl) (At.here _) (by first | rfl | omega)) (q 38)) rfl (c (mv hN (q 1)) rfl (c (mv hN (q 5)) rfl (c (sub6 (L rfl) (q 41) (ii 1)) rfl (c (indexD underlying110 tyS139 (idx_some hx134).1 (get_map e_aAddr_ (idx_some hx134).2) (L rfl) (q 40) (q 42)) rfl (c (fieldD underlying139 (by rfl) (o:=3) (by rfl) tyS44 (by decide) (by rfl) (by rfl) (L rfl) (q 43)) rfl (c (loadD tyS44 (by rfl) (by rfl) (L rfl) (q 44)) rfl (c (fo 1006 0 [0] hN underlying139 0 tyS44 (q 6)) rfl (c (la hN 139 tyS44 (q 46)) rfl (cg (callVal (args:=[(.d (e_aAddr x134.fto)),(.d (e_aAddr x118.ffrom))]) (caps:=[]) hB fnOk109 [] (addr_Cmp_ac x134.fto x118.ffrom r135 hr135) (by kernel_rfl) (L rfl) (by kernel_rfl) (by kernel_rfl) (OpdL.cons (q 45) (OpdL.cons (q 47) OpdL.nil))) rfl (c (geq (L rfl) (q 48) (ii 0)) rfl (c (OpJ.val (v':=.d (.bool false)) (by rw [hg136]<;>rfl) (mv hN (q 49))) rfl (c (gd 50 (mv hN (q 8))) rfl (c (gd 50 (OpJ.val (v':=.d (.bool true)) (by rw [hg137]<;>rfl) (mv hN (q 51)))) rfl (c (gd 52 (fo 1002 0 [0] hN underlying117 0 tyS93 (q 2))) rfl (c (gd 52 (lb hN 117 _ (.func 109 []) tyS93 (At.st1 (f:=(.func 109 [])) (by rfl) (by rfl) (At.here _) (by first | rfl | omega)) (q 53))) rfl (c (gd 52 (lb hN 44 _ _ tyS44 (At.here _) (q 7))) rfl (c (gd 52 (fo 1006 0 [0] hN underlying139 0 tyS44 (q 6))) rfl (c (gd 52 (la hN 139 tyS44 (q 56))) rfl (cg (gd 52 (callVal (args:=[(.d (e_aAddr r123.1)),(.d (e_aAddr x118.ffrom))]) (caps:=[]) hB fnOk109 [] (addr_Cmp_ac r123.1 x118.ffrom r138 hr138) (by kernel_rfl) (L rfl) (by kernel_rfl) (by kernel_rfl) (OpdL.cons (q 55) (OpdL.cons (q 57) OpdL.nil)))) rfl (c (gd 52 (eqlI (L rfl) (q 58) (ii 0))) rfl (c (gd 50 (pickT (L rfl) (q 52) (q 59))) rfl (c (pickF (L rfl) (q 50) (q 60)) rfl cn)))))))))))))))))))))))) (by kernel_rfl) (by kernel_rfl)
         exact hjj132 _ h _ _ (mp [] _ _ hB)
        ·have h:=ite_f hg137 h
         apply dr (c (fo 1002 0 [0] hN underlying117 0 tyS93 (q 2)) rfl (c (lb hN 117 _ (.func 109 []) tyS93 (At.st1 (f:=(.func 109 [])) (by rfl) (by rfl) (At.here _) (by first | rfl | omega)) (q 38)) rfl (c (mv hN (q 1)) rfl (c (mv hN (q 5)) rfl (c (sub6 (L rfl) (q 41) (ii 1)) rfl (c (indexD underlying110 tyS139 (idx_some hx134).1 (get_map e_aAddr_ (idx_some hx134).2) (L rfl) (q 40) (q 42)) rfl (c (fieldD underlying139 (by rfl) (o:=3) (by rfl) tyS44 (by decide) (by rfl) (by rfl) (L rfl) (q 43)) rfl (c (loadD tyS44 (by rfl) (by rfl) (L rfl) (q 44)) rfl (c (fo 1006 0 [0] hN underlying139 0 tyS44 (q 6)) rfl (c (la hN 139 tyS44 (q 46)) rfl (cg (callVal (args:=[(.d (e_aAddr x134.fto)),(.d (e_aAddr x118.ffrom))]) (caps:=[]) hB fnOk109 [] (addr_Cmp_ac x134.fto x118.ffrom r135 hr135) (by kernel_rfl) (L rfl) (by kernel_rfl) (by kernel_rfl) (OpdL.cons (q 45) (OpdL.cons (q 47) OpdL.nil))) rfl (c (geq (L rfl) (q 48) (ii 0)) rfl (c (OpJ.val (v':=.d (.bool false)) (by rw [hg136]<;>rfl) (mv hN (q 49))) rfl (c (gd 50 (mv hN (q 8))) rfl (c (gd 50 (OpJ.val (v':=.d (.bool false)) (by rw [hg137]<;>rfl) (mv hN (q 51)))) rfl (ks 52 (L rfl) (ks 52 (L rfl) (ks 52 (L rfl) (ks 52 (L rfl) (ks 52 (L rfl) (ks 52 (L rfl) (ks 52 (L rfl) (c (gd 50 (pickF (L rfl) (q 52) (Opd.bool false))) rfl (c (pickF (L rfl) (q 50) (q 60)) rfl cn)))))))))))))))))))))))) (by kernel_rfl) (by kernel_rfl)
         exact hjj132 _ h _ _ (mp [] _ _ hB)
  ·have h:=ite_f hg94 h
   apply AWp.exit
   apply seqQ_e
   obtain rfl:=oi h
   exact⟨(fun hc=>by cases hc),rfl,(mp [] _ _ hB)⟩
 ·rcases x139 with _ | _
  ·obtain⟨rfl,hmat⟩:=hR
   apply blkQ_r
   apply seqQ_r
   obtain rfl:=oi h
   exact rt (Mat.trans hmat (mp [] [(4,(bo false))] [] hB)) [(bo false)] (Res.tmp (by rfl) (by rfl) Res.nil) rfl
  ·obtain⟨rfl,hmat⟩:=hR
   apply blkQ_hit
   apply seqQ_n
   refine AWp.ghost hmat ?_
   apply sr (c (assign (L rfl) (Opd.bool true)) rfl cn)
   apply AWp.ret
   obtain rfl:=oi h
   exact rt (kp [(4,_)] [] hB rfl rfl (by rfl)) [(bo true)] (Res.tmp (by rfl) (by rfl) Res.nil) rfl
def resource_numbers_1 (a0:Int):Option (Int×Bool) :=
 some ((w64 (a0+1)),(decide (a0<4294967295)))
theorem resource_numbers_1_ac (a0:Int) (r:Int×Bool) (h:resource_numbers_1 a0=some r):AC Tryz.prog 152 [(.d (.int .i64 a0))] [] (.tup [(.d (.int .i64 r.1)),(.d (.bool r.2))]) []:=by
 refine AC.of_code2 Tryz.func152 rfl rfl (Nat.le_of_ble_eq_true (by rfl)) fun B hB hN => ?_
 delta resource_numbers_1 at h
 apply sr (c (assign (ltN hN rfl) (ii 0)) rfl (c (assign (ltN hN rfl) (Opd.bool false)) rfl cn))
 apply sr (c (mv hN (q 0)) rfl (c (add6 (ltN hN rfl) (q 4) (ii 1)) rfl (c (mv hN (q 0)) rfl (c (lss (ltN hN rfl) (q 6) (ii 4294967295)) rfl (c (assign (ltN hN rfl) (q 5)) rfl (c (assign (ltN hN rfl) (q 7)) rfl cn))))))
 apply AWp.ret
 obtain rfl:=oi h
 exact rt (kp [(2,_),(3,_)] [] hB rfl rfl (by rfl)) [(i6 (w64 (a0+1))),(bo (decide (a0<4294967295)))] (Res.tmp (by rfl) (by rfl) (Res.tmp (by rfl) (by rfl) Res.nil)) rfl
def resource_order_valid_2_L0 (a0:(List resource_part_int_)) (s1:Int):Option (((Unit)⊕(Unit))⊕(Int)) :=
 (if (decide (s1<(a0.length:Int)))=true then
 jn (fun _:Unit =>
 some (.inr (w64 (s1+1)))) (fun j117 =>
 (idx a0 s1).bind fun x118 =>
 (cmp_Compare x118.ffrom x118.fto).bind fun r119 =>
 (if (decide (0<r119))=true then
 some (.inl (.inl ()))
 else
 (if (s1==0)=true then
 j117 ()
 else
 (idx a0 (w64 (s1-1))).bind fun x122 =>
 (resource_numbers_1 x122.fto).bind fun r123 =>
 jn (fun m131:Bool =>
 (if m131=true then
 some (.inl (.inl ()))
 else
 j117 ())) (fun j132 =>
 (idx a0 (w64 (s1-1))).bind fun x134 =>
 (cmp_Compare x134.fto x118.ffrom).bind fun r135 =>
 (if (decide (0≤r135))=true then
 j132 true
 else
 (if r123.2=true then
 (cmp_Compare r123.1 x118.ffrom).bind fun r138 =>
 j132 (r138==0)
 else
 j132 false))))))
 else
 some (.inl (.inr ())))
def resource_order_valid_2 (a0:(List resource_part_int_)):Option (Bool) :=
 (loop (resource_order_valid_2_L0 a0) 0).bind fun x139=>match x139 with
 | (.inl _) =>
  some false
 | (.inr _) =>
  some true
theorem resource_order_valid_2_ac (a0:(List resource_part_int_)) (r:Bool) (h:resource_order_valid_2 a0=some r):AC Tryz.prog 65 [(.st [(.func 98 []),(.func 152 []),(.func 153 [])]),(.d (.list 2 (a0.map e_resource_part_int_)))] [] (.d (.bool r)) []:=by
 refine ac2 Tryz.func65 rfl rfl fun B hB hN L => ?_
 delta resource_order_valid_2 at h
 apply sr (cg (OpJ.box hB (nm:=1002) (by decide) (by simp) rfl (L rfl) (q 0)) rfl (c (assign (L rfl) (Opd.bool false)) rfl cn))
 apply AWp.seq
 apply sr (c (mv hN (q 1)) rfl (c (OpJ.val (v':=(i6 (a0.length:Int))) (by simp) (lenD underlying111 (L rfl) (q 9))) rfl (c (mv hN (ii 0)) rfl cn)))
 apply AWp.block
 obtain⟨x139,hx140,h⟩:=bindS h
 refine lg (resource_order_valid_2_L0 a0) (fun s1:Int=>([(1,(.d (.list 2 (a0.map e_resource_part_int_)))),(2,(pt 1002)),(9,(.d (.list 2 (a0.map e_resource_part_int_)))),(10,(i6 (a0.length:Int))),(11,(i6 s1))]:EL)) (fun s1:Int=>([(1002,some (.box 121 (.st [(.func 98 []),(.func 152 []),(.func 153 [])])))]:OL)) (fun(x:(Unit)⊕(Unit)) e E' O'=>match x with | (.inl _p)=>e = .ret∧Mat B E' O' ([(4,(bo false))]:EL) ([]:OL) | (.inr _p)=>e = .exit 0∧Mat B E' O' ([]:EL) ([]:OL)) hx140 (mp [] _ _ hB) (fun s1 y h => ?_) (fun e E' O' hR => ?_)
 ·unfold resource_order_valid_2_L0 at h
  apply sr (c (lss (L rfl) (q 11) (q 10)) rfl cn)
  apply AWp.seq
  apply AWp.cond rfl<;>intro hg94
  ·have h:=ite_t hg94 h
   apply AWp.skip
   apply seqQ_n
   apply AWp.seq
   refine AWp.cut h (fun _:Unit=>([(1,(.d (.list 2 (a0.map e_resource_part_int_)))),(2,(pt 1002)),(9,(.d (.list 2 (a0.map e_resource_part_int_)))),(10,(i6 (a0.length:Int))),(11,(i6 s1))]:EL)) (fun _:Unit=>([(1002,some (.box 121 (.st [(.func 98 []),(.func 152 []),(.func 153 [])])))]:OL)) (fun _m h E' O' hmat => ?_) (fun j117 hjj117 h => ?_)
   ·apply seqQ_n
    refine AWp.ghost hmat ?_
    apply rg (c (add6 (L rfl) (q 11) (ii 1)) rfl (c (mv hN (q 62)) rfl cn))
    obtain rfl:=oi h
    exact⟨rfl,(mp [] _ _ hB)⟩
   ·apply AWp.block
    obtain⟨x118,hx118,h⟩:=bindS h
    apply sr (c (mv hN (q 11)) rfl (c (indexD underlying111 tyS141 (idx_some hx118).1 (get_map e_resource_part_int_ (idx_some hx118).2) (L rfl) (q 9) (q 11)) rfl (c (loadD tyS141 (by rfl) (by rfl) (L rfl) (q 14)) rfl (cg (alloc hB tyZ141 (nm:=1006) (by decide) (L rfl)) rfl (c (assign (L rfl) (q 13)) rfl (cg (sB tyS141 (q 6) (q 15)) rfl cn))))))
    apply AWp.seq
    obtain⟨r119,hr119,h⟩:=bindS h
    apply sr (c (fo 1002 0 [0] hN underlying121 0 tyS53 (q 2)) rfl (c (lb hN 121 _ (.func 98 []) tyS53 (At.st1 (f:=(.func 98 [])) (by rfl) (by rfl) (At.here _) (by first | rfl | omega)) (q 16)) rfl (c (fo 1006 0 [0] hN underlying141 0 tyS3 (q 6)) rfl (c (la hN 141 tyS3 (q 18)) rfl (c (fo 1006 1 [1] hN underlying141 1 tyS3 (q 6)) rfl (c (la hN 141 tyS3 (q 20)) rfl (cg (callVal (args:=[(i6 x118.ffrom),(i6 x118.fto)]) (caps:=[]) hB fnOk98 [] (cmp_Compare_ac x118.ffrom x118.fto r119 hr119) (by kernel_rfl) (L rfl) (by kernel_rfl) (by kernel_rfl) (OpdL.cons (q 19) (OpdL.cons (q 21) OpdL.nil))) rfl (c (gtr (L rfl) (q 22) (ii 0)) rfl cn))))))))
    apply AWp.cond rfl<;>intro hg120
    ·have h:=ite_t hg120 h
     apply sr (c (assign (L rfl) (Opd.bool false)) rfl cn)
     apply AWp.ret
     apply seqQ_r
     apply blkQ_r
     apply seqQ_r
     obtain rfl:=oi h
     exact⟨(fun hc=>by cases hc),rfl,(mp [] _ _ hB)⟩
    ·have h:=ite_f hg120 h
     apply AWp.skip
     apply seqQ_n
     apply AWp.seq
     apply sr (c (mv hN (q 5)) rfl (c (eqlI (L rfl) (q 24) (ii 0)) rfl cn))
     apply AWp.cond rfl<;>intro hg121
     ·have h:=ite_t hg121 h
      apply AWp.exit
      apply seqQ_e
      apply blkQ_hit
      exact hjj117 _ h _ _ (mp [] _ _ hB)
     ·have h:=ite_f hg121 h
      apply AWp.skip
      apply seqQ_n
      obtain⟨x122,hx122,h⟩:=bindS h
      obtain⟨r123,hr123,h⟩:=bindS h
      apply sd (c (fo 1002 1 [1] hN underlying121 1 tyS119 (q 2)) rfl (c (lb hN 121 _ (.func 152 []) tyS119 (At.st1 (f:=(.func 152 [])) (by rfl) (by rfl) (At.here _) (by first | rfl | omega)) (q 27)) rfl (c (mv hN (q 1)) rfl (c (mv hN (q 5)) rfl (c (sub6 (L rfl) (q 30) (ii 1)) rfl (c (indexD underlying111 tyS141 (idx_some hx122).1 (get_map e_resource_part_int_ (idx_some hx122).2) (L rfl) (q 29) (q 31)) rfl (c (fieldD underlying141 (by rfl) (o:=1) (by rfl) tyS3 (by decide) (by rfl) (by rfl) (L rfl) (q 32)) rfl (c (loadD tyS3 (by rfl) (by rfl) (L rfl) (q 33)) rfl (cg (callVal (args:=[(i6 x122.fto)]) (caps:=[]) hB fnOk152 [] (resource_numbers_1_ac x122.fto r123 hr123) (by kernel_rfl) (L rfl) (by kernel_rfl) (by kernel_rfl) (OpdL.cons (q 34) OpdL.nil)) rfl (c (mv hN (q 35)) rfl (c (extract (by rfl) rfl (L rfl) (q 26)) rfl (c (extract (by rfl) rfl (L rfl) (q 26)) rfl (c (assign (L rfl) (q 36)) rfl (c (assign (L rfl) (q 37)) rfl cn)))))))))))))) (by kernel_rfl) (by kernel_rfl)
      apply AWp.seq
      refine AWp.cut h (fun m131:Bool=>([(1,(.d (.list 2 (a0.map e_resource_part_int_)))),(2,(pt 1002)),(9,(.d (.list 2 (a0.map e_resource_part_int_)))),(10,(i6 (a0.length:Int))),(11,(i6 s1)),(61,(bo m131))]:EL)) (fun m131:Bool=>([(1002,some (.box 121 (.st [(.func 98 []),(.func 152 []),(.func 153 [])])))]:OL)) (fun m131 h E' O' hmat => ?_) (fun j132 hjj132 h => ?_)
      ·apply seqQ_n
       refine AWp.ghost hmat ?_
       apply AWp.cond rfl<;>intro hg133
       ·have h:=ite_t hg133 h
        apply sr (c (assign (L rfl) (Opd.bool false)) rfl cn)
        apply AWp.ret
        apply blkQ_r
        apply seqQ_r
        obtain rfl:=oi h
        exact⟨(fun hc=>by cases hc),rfl,(mp [] _ _ hB)⟩
       ·have h:=ite_f hg133 h
        apply AWp.skip
        apply blkQ_n
        exact hjj117 _ h _ _ (mp [] _ _ hB)
      ·obtain⟨x134,hx134,h⟩:=bindS h
       obtain⟨r135,hr135,h⟩:=bindS h
       rcases bft (decide (0≤r135)) with hg136 | hg136
       ·have h:=ite_t hg136 h
        apply dr (c (fo 1002 0 [0] hN underlying121 0 tyS53 (q 2)) rfl (c (lb hN 121 _ (.func 98 []) tyS53 (At.st1 (f:=(.func 98 [])) (by rfl) (by rfl) (At.here _) (by first | rfl | omega)) (q 38)) rfl (c (mv hN (q 1)) rfl (c (mv hN (q 5)) rfl (c (sub6 (L rfl) (q 41) (ii 1)) rfl (c (indexD underlying111 tyS141 (idx_some hx134).1 (get_map e_resource_part_int_ (idx_some hx134).2) (L rfl) (q 40) (q 42)) rfl (c (fieldD underlying141 (by rfl) (o:=1) (by rfl) tyS3 (by decide) (by rfl) (by rfl) (L rfl) (q 43)) rfl (c (loadD tyS3 (by rfl) (by rfl) (L rfl) (q 44)) rfl (c (fo 1006 0 [0] hN underlying141 0 tyS3 (q 6)) rfl (c (la hN 141 tyS3 (q 46)) rfl (cg (callVal (args:=[(i6 x134.fto),(i6 x118.ffrom)]) (caps:=[]) hB fnOk98 [] (cmp_Compare_ac x134.fto x118.ffrom r135 hr135) (by kernel_rfl) (L rfl) (by kernel_rfl) (by kernel_rfl) (OpdL.cons (q 45) (OpdL.cons (q 47) OpdL.nil))) rfl (c (geq (L rfl) (q 48) (ii 0)) rfl (c (OpJ.val (v':=.d (.bool true)) (by rw [hg136]<;>rfl) (mv hN (q 49))) rfl (ks 50 (L rfl) (ks 50 (L rfl) (cg (sV 52 (L rfl)) rfl (cg (sV 52 (L rfl)) rfl (cg (sV 52 (L rfl)) rfl (cg (sV 52 (L rfl)) rfl (cg (sV 52 (L rfl)) rfl (cg (sV 52 (L rfl)) rfl (cg (sV 52 (L rfl)) rfl (ks 50 (L rfl) (c (pickT (L rfl) (q 50) (Opd.bool true)) rfl cn)))))))))))))))))))))))) (by kernel_rfl) (by kernel_rfl)
        exact hjj132 _ h _ _ (mp [] _ _ hB)
       ·have h:=ite_f hg136 h
        rcases bft r123.2 with hg137 | hg137
        ·have h:=ite_t hg137 h
         obtain⟨r138,hr138,h⟩:=bindS h
         apply dr (c (fo 1002 0 [0] hN underlying121 0 tyS53 (q 2)) rfl (c (lb hN 121 _ (.func 98 []) tyS53 (At.st1 (f:=(.func 98 [])) (by rfl) (by rfl) (At.here _) (by first | rfl | omega)) (q 38)) rfl (c (mv hN (q 1)) rfl (c (mv hN (q 5)) rfl (c (sub6 (L rfl) (q 41) (ii 1)) rfl (c (indexD underlying111 tyS141 (idx_some hx134).1 (get_map e_resource_part_int_ (idx_some hx134).2) (L rfl) (q 40) (q 42)) rfl (c (fieldD underlying141 (by rfl) (o:=1) (by rfl) tyS3 (by decide) (by rfl) (by rfl) (L rfl) (q 43)) rfl (c (loadD tyS3 (by rfl) (by rfl) (L rfl) (q 44)) rfl (c (fo 1006 0 [0] hN underlying141 0 tyS3 (q 6)) rfl (c (la hN 141 tyS3 (q 46)) rfl (cg (callVal (args:=[(i6 x134.fto),(i6 x118.ffrom)]) (caps:=[]) hB fnOk98 [] (cmp_Compare_ac x134.fto x118.ffrom r135 hr135) (by kernel_rfl) (L rfl) (by kernel_rfl) (by kernel_rfl) (OpdL.cons (q 45) (OpdL.cons (q 47) OpdL.nil))) rfl (c (geq (L rfl) (q 48) (ii 0)) rfl (c (OpJ.val (v':=.d (.bool false)) (by rw [hg136]<;>rfl) (mv hN (q 49))) rfl (c (gd 50 (mv hN (q 8))) rfl (c (gd 50 (OpJ.val (v':=.d (.bool true)) (by rw [hg137]<;>rfl) (mv hN (q 51)))) rfl (c (gd 52 (fo 1002 0 [0] hN underlying121 0 tyS53 (q 2))) rfl (c (gd 52 (lb hN 121 _ (.func 98 []) tyS53 (At.st1 (f:=(.func 98 [])) (by rfl) (by rfl) (At.here _) (by first | rfl | omega)) (q 53))) rfl (c (gd 52 (mv hN (q 7))) rfl (c (gd 52 (fo 1006 0 [0] hN underlying141 0 tyS3 (q 6))) rfl (c (gd 52 (la hN 141 tyS3 (q 56))) rfl (cg (gd 52 (callVal (args:=[(i6 r123.1),(i6 x118.ffrom)]) (caps:=[]) hB fnOk98 [] (cmp_Compare_ac r123.1 x118.ffrom r138 hr138) (by kernel_rfl) (L rfl) (by kernel_rfl) (by kernel_rfl) (OpdL.cons (q 55) (OpdL.cons (q 57) OpdL.nil)))) rfl (c (gd 52 (eqlI (L rfl) (q 58) (ii 0))) rfl (c (gd 50 (pickT (L rfl) (q 52) (q 59))) rfl (c (pickF (L rfl) (q 50) (q 60)) rfl cn)))))))))))))))))))))))) (by kernel_rfl) (by kernel_rfl)
         exact hjj132 _ h _ _ (mp [] _ _ hB)
        ·have h:=ite_f hg137 h
         apply dr (c (fo 1002 0 [0] hN underlying121 0 tyS53 (q 2)) rfl (c (lb hN 121 _ (.func 98 []) tyS53 (At.st1 (f:=(.func 98 [])) (by rfl) (by rfl) (At.here _) (by first | rfl | omega)) (q 38)) rfl (c (mv hN (q 1)) rfl (c (mv hN (q 5)) rfl (c (sub6 (L rfl) (q 41) (ii 1)) rfl (c (indexD underlying111 tyS141 (idx_some hx134).1 (get_map e_resource_part_int_ (idx_some hx134).2) (L rfl) (q 40) (q 42)) rfl (c (fieldD underlying141 (by rfl) (o:=1) (by rfl) tyS3 (by decide) (by rfl) (by rfl) (L rfl) (q 43)) rfl (c (loadD tyS3 (by rfl) (by rfl) (L rfl) (q 44)) rfl (c (fo 1006 0 [0] hN underlying141 0 tyS3 (q 6)) rfl (c (la hN 141 tyS3 (q 46)) rfl (cg (callVal (args:=[(i6 x134.fto),(i6 x118.ffrom)]) (caps:=[]) hB fnOk98 [] (cmp_Compare_ac x134.fto x118.ffrom r135 hr135) (by kernel_rfl) (L rfl) (by kernel_rfl) (by kernel_rfl) (OpdL.cons (q 45) (OpdL.cons (q 47) OpdL.nil))) rfl (c (geq (L rfl) (q 48) (ii 0)) rfl (c (OpJ.val (v':=.d (.bool false)) (by rw [hg136]<;>rfl) (mv hN (q 49))) rfl (c (gd 50 (mv hN (q 8))) rfl (c (gd 50 (OpJ.val (v':=.d (.bool false)) (by rw [hg137]<;>rfl) (mv hN (q 51)))) rfl (ks 52 (L rfl) (ks 52 (L rfl) (ks 52 (L rfl) (ks 52 (L rfl) (ks 52 (L rfl) (ks 52 (L rfl) (ks 52 (L rfl) (c (gd 50 (pickF (L rfl) (q 52) (Opd.bool false))) rfl (c (pickF (L rfl) (q 50) (q 60)) rfl cn)))))))))))))))))))))))) (by kernel_rfl) (by kernel_rfl)
         exact hjj132 _ h _ _ (mp [] _ _ hB)
  ·have h:=ite_f hg94 h
   apply AWp.exit
   apply seqQ_e
   obtain rfl:=oi h
   exact⟨(fun hc=>by cases hc),rfl,(mp [] _ _ hB)⟩
 ·rcases x139 with _ | _
  ·obtain⟨rfl,hmat⟩:=hR
   apply blkQ_r
   apply seqQ_r
   obtain rfl:=oi h
   exact rt (Mat.trans hmat (mp [] [(4,(bo false))] [] hB)) [(bo false)] (Res.tmp (by rfl) (by rfl) Res.nil) rfl
  ·obtain⟨rfl,hmat⟩:=hR
   apply blkQ_hit
   apply seqQ_n
   refine AWp.ghost hmat ?_
   apply sr (c (assign (L rfl) (Opd.bool true)) rfl cn)
   apply AWp.ret
   obtain rfl:=oi h
   exact rt (kp [(4,_)] [] hB rfl rfl (by rfl)) [(bo true)] (Res.tmp (by rfl) (by rfl) Res.nil) rfl
def resource_Valid_L0 (a0:aResources) (s1:Int):Option (((Unit)⊕(Unit))⊕(Int)) :=
 (if (decide (s1<(a0.fAddrs.length:Int)))=true then
 (idx a0.fAddrs s1).bind fun x29 =>
 jn (fun m34:Bool =>
 (if m34=true then
 some (.inl (.inl ()))
 else
 some (.inr (w64 (s1+1))))) (fun j35 =>
 (addr_Valid x29.fFrom).bind fun r37 =>
 (if (!r37)=true then
 j35 true
 else
 (addr_Valid x29.fTo).bind fun r39 =>
 j35 ((!r39) || (x29.fFrom.fV6 != x29.fTo.fV6))))
 else
 some (.inl (.inr ())))
def resource_Valid (a0:aResources):Option (Bool) :=
 (loop (resource_Valid_L0 a0) 0).bind fun x40=>match x40 with
 | (.inl _) =>
  some false
 | (.inr _) =>
  (slices_ContainsFunc a0.fASNs).bind fun r42 =>
  (if r42=true then
  some false
  else
  (resource_of a0).bind fun r44 =>
  jn (fun m49:Bool =>
  some m49) (fun j50 =>
  (if ((decide ((a0.fAddrs.length:Int)≤256))&&(decide ((a0.fASNs.length:Int)≤256)))=true then
  (resource_order_valid r44.faddrs).bind fun r52 =>
  (if r52=true then
  (resource_order_valid_2 r44.fasns).bind fun r54 =>
  j50 r54
  else
  j50 false)
  else
  j50 false)))
theorem resource_Valid_ac (a0:aResources) (r:Bool) (h:resource_Valid a0=some r):AC Tryz.prog 32 [(.d (e_aResources a0))] [(500,(.know (globF 0 [109,150,151]))),(501,(.know (globF 1 [98,152,153])))] (.d (.bool r)) [(500,some (.know (globF 0 [109,150,151]))),(501,some (.know (globF 1 [98,152,153])))]:=by
 refine ac2 Tryz.func32 rfl rfl fun B hB hN L => ?_
 delta resource_Valid at h
 apply sr (cg (OpJ.box hB (nm:=1001) (by decide) (by simp) rfl (L rfl) (q 0)) rfl (c (assign (L rfl) (Opd.bool false)) rfl cn))
 apply AWp.seq
 apply sr (c (fo 1001 0 [0] hN underlying57 0 tyS54 (q 1)) rfl (c (la hN 57 tyS54 (q 6)) rfl (c (OpJ.val (v':=(i6 (a0.fAddrs.length:Int))) (by simp) (lenD underlying54 (L rfl) (q 7))) rfl (c (mv hN (ii 0)) rfl cn))))
 apply AWp.block
 obtain⟨x40,hx41,h⟩:=bindS h
 refine lg (resource_Valid_L0 a0) (fun s1:Int=>([(1,(pt 1001)),(7,(qe_aRange_6 a0.fAddrs)),(8,(i6 (a0.fAddrs.length:Int))),(9,(i6 s1))]:EL)) (fun s1:Int=>([(500,some (.know (globF 0 [109,150,151]))),(501,some (.know (globF 1 [98,152,153]))),(1001,bd 57 (e_aResources a0))]:OL)) (fun(x:(Unit)⊕(Unit)) e E' O'=>match x with | (.inl _p)=>e = .ret∧Mat B E' O' ([(2,(bo false))]:EL) ([(500,some (.know (globF 0 [109,150,151]))),(501,some (.know (globF 1 [98,152,153])))]:OL) | (.inr _p)=>e = .exit 0∧Mat B E' O' ([(1,(pt 1001))]:EL) ([(500,some (.know (globF 0 [109,150,151]))),(501,some (.know (globF 1 [98,152,153]))),(1001,bd 57 (e_aResources a0))]:OL)) hx41 (mp [] _ _ hB) (fun s1 y h => ?_) (fun e E' O' hR => ?_)
 ·unfold resource_Valid_L0 at h
  apply sr (c (lss (L rfl) (q 9) (q 8)) rfl cn)
  apply AWp.seq
  apply AWp.cond rfl<;>intro hg28
  ·have h:=ite_t hg28 h
   apply AWp.skip
   apply seqQ_n
   apply AWp.seq
   apply AWp.block
   obtain⟨x29,hx29,h⟩:=bindS h
   apply sr (c (indexD underlying54 tyS92 (idx_some hx29).1 (get_map e_aRange (idx_some hx29).2) (L rfl) (q 7) (q 9)) rfl (c (loadD tyS92 (by rfl) (by rfl) (L rfl) (q 11)) rfl (cg (alloc hB tyZ92 (nm:=1004) (by decide) (L rfl)) rfl (cg (sB tyS92 (q 4) (q 12)) rfl cn))))
   apply AWp.seq
   refine AWp.cut h (fun m34:Bool=>([(1,(pt 1001)),(7,(qe_aRange_6 a0.fAddrs)),(8,(i6 (a0.fAddrs.length:Int))),(9,(i6 s1)),(31,(bo m34))]:EL)) (fun m34:Bool=>([(500,some (.know (globF 0 [109,150,151]))),(501,some (.know (globF 1 [98,152,153]))),(1001,bd 57 (e_aResources a0))]:OL)) (fun m34 h E' O' hmat => ?_) (fun j35 hjj35 h => ?_)
   ·apply seqQ_n
    refine AWp.ghost hmat ?_
    apply AWp.cond rfl<;>intro hg36
    ·have h:=ite_t hg36 h
     apply sr (c (assign (L rfl) (Opd.bool false)) rfl cn)
     apply AWp.ret
     apply blkQ_r
     apply seqQ_r
     obtain rfl:=oi h
     exact⟨(fun hc=>by cases hc),rfl,(mp [] _ _ hB)⟩
    ·have h:=ite_f hg36 h
     apply AWp.skip
     apply blkQ_n
     apply seqQ_n
     apply rg (c (add6 (L rfl) (q 9) (ii 1)) rfl (c (mv hN (q 32)) rfl cn))
     obtain rfl:=oi h
     exact⟨rfl,(mp [] _ _ hB)⟩
   ·obtain⟨r37,hr37,h⟩:=bindS h
    rcases bft (!r37) with hg38 | hg38
    ·have h:=ite_t hg38 h
     apply rg (c (fo 1004 0 [0] hN underlying92 0 tyS44 (q 4)) rfl (c (la hN 92 tyS44 (q 13)) rfl (cg (cf hB fnOk59 (addr_Valid_ac x29.fFrom r37 hr37) (L rfl) (OpdL.cons (q 14) OpdL.nil)) rfl (c (OpJ.not (L rfl) (q 15)) rfl (c (OpJ.val (v':=.d (.bool true)) (by rw [hg38]<;>rfl) (mv hN (q 16))) rfl (ks 17 (L rfl) (ks 17 (L rfl) (ks 17 (L rfl) (ks 17 (L rfl) (c (pickT (L rfl) (q 17) (Opd.bool true)) rfl (c (mv hN (q 22)) rfl (ks 23 (L rfl) (ks 23 (L rfl) (ks 23 (L rfl) (ks 23 (L rfl) (ks 23 (L rfl) (ks 23 (L rfl) (ks 23 (L rfl) (c (pickT (L rfl) (q 23) (Opd.bool true)) rfl cn)))))))))))))))))))
     exact hjj35 _ h _ _ (mp [] _ _ hB)
    ·have h:=ite_f hg38 h
     obtain⟨r39,hr39,h⟩:=bindS h
     apply rg (c (fo 1004 0 [0] hN underlying92 0 tyS44 (q 4)) rfl (c (la hN 92 tyS44 (q 13)) rfl (cg (cf hB fnOk59 (addr_Valid_ac x29.fFrom r37 hr37) (L rfl) (OpdL.cons (q 14) OpdL.nil)) rfl (c (OpJ.not (L rfl) (q 15)) rfl (c (OpJ.val (v':=.d (.bool false)) (by rw [hg38]<;>rfl) (mv hN (q 16))) rfl (c (gd 17 (fo 1004 3 [1] hN underlying92 3 tyS44 (q 4))) rfl (c (gd 17 (la hN 92 tyS44 (q 18))) rfl (cg (gd 17 (cf hB fnOk59 (addr_Valid_ac x29.fTo r39 hr39) (L rfl) (OpdL.cons (q 19) OpdL.nil))) rfl (c (gd 17 (OpJ.not (L rfl) (q 20))) rfl (c (pickF (L rfl) (q 17) (q 21)) rfl (c (mv hN (q 22)) rfl (c (oq hN 23 (fo 1004 0 [0] hN underlying92 0 tyS44 (q 4)) (OptL.keep (by rfl) OptL.nil) (GuardV.plain _)) rfl (c (oq hN 23 (fo 1004 0 [0,0] hN underlying44 0 tyS4 (q 24)) (OptL.opt OptL.nil) (GuardV.plain _)) rfl (c (oq hN 23 (lb hN 92 _ _ tyS4 (At.dst1 (by rfl) (by rfl) (ad _) (by first | rfl | omega)) (q 25)) (OptL.opt OptL.nil) (GuardV.plain _)) rfl (c (oq hN 23 (fo 1004 3 [1] hN underlying92 3 tyS44 (q 4)) (OptL.keep (by rfl) OptL.nil) (GuardV.plain _)) rfl (c (oq hN 23 (fo 1004 3 [1,0] hN underlying44 0 tyS4 (q 27)) (OptL.opt OptL.nil) (GuardV.plain _)) rfl (c (oq hN 23 (lb hN 92 _ _ tyS4 (At.dst1 (by rfl) (by rfl) (ad _) (by first | rfl | omega)) (q 28)) (OptL.opt OptL.nil) (GuardV.plain _)) rfl (c (oq hN 23 (OpJ.neqB underlying4 (L rfl) (q 26) (q 29)) (OptL.opt (OptL.opt OptL.nil)) (GuardV.plain _)) rfl (c (pickOr rfl (L rfl) (q 23) (q 30)) rfl cn)))))))))))))))))))
     exact hjj35 _ h _ _ (mp [] _ _ hB)
  ·have h:=ite_f hg28 h
   apply AWp.exit
   apply seqQ_e
   obtain rfl:=oi h
   exact⟨(fun hc=>by cases hc),rfl,(mp [] _ _ hB)⟩
 ·rcases x40 with _ | _
  ·obtain⟨rfl,hmat⟩:=hR
   apply blkQ_r
   apply seqQ_r
   obtain rfl:=oi h
   exact rt (Mat.trans hmat (mp [] [(2,(bo false))] [(500,some (.know (globF 0 [109,150,151]))),(501,some (.know (globF 1 [98,152,153])))] hB)) [(bo false)] (Res.tmp (by rfl) (by rfl) Res.nil) rfl
  ·obtain⟨rfl,hmat⟩:=hR
   apply blkQ_hit
   apply seqQ_n
   refine AWp.ghost hmat ?_
   apply AWp.seq
   obtain⟨r42,hr42,h⟩:=bindS h
   apply sr (c (fo 1001 1 [1] hN underlying57 1 tyS55 (q 1)) rfl (c (la hN 57 tyS55 (q 33)) rfl (cg (cf hB fnOk60 (slices_ContainsFunc_ac a0.fASNs r42 hr42) (L rfl) (OpdL.cons (q 34) (OpdL.cons (Opd.func 61) OpdL.nil))) rfl cn)))
   apply AWp.cond rfl<;>intro hg43
   ·have h:=ite_t hg43 h
    apply sr (c (assign (L rfl) (Opd.bool false)) rfl cn)
    apply AWp.ret
    apply seqQ_r
    obtain rfl:=oi h
    exact rt (kp [(2,_)] [(500,some _),(501,some _)] hB rfl rfl (by rfl)) [(bo false)] (Res.tmp (by rfl) (by rfl) Res.nil) rfl
   ·have h:=ite_f hg43 h
    apply AWp.skip
    apply seqQ_n
    obtain⟨r44,hr44,h⟩:=bindS h
    apply sr (c (lb hN 57 _ _ tyS57 (At.here _) (q 1)) rfl (cg (cf hB fnOk63 (resource_of_ac a0 r44 hr44) (L rfl) (OpdL.cons (q 36) OpdL.nil)) rfl (cg (alloc hB tyZ113 (nm:=1005) (by decide) (L rfl)) rfl (cg (sB tyS113 (q 5) (q 37)) rfl cn))))
    refine gh [(1,_),(5,_)] [(500,some _),(501,some _),(1001,some _),(1005,some _)] hB rfl rfl (by rfl) ?_
    apply AWp.seq
    refine AWp.cut h (fun m49:Bool=>([(2,(bo m49))]:EL)) (fun m49:Bool=>([(500,some (.know (globF 0 [109,150,151]))),(501,some (.know (globF 1 [98,152,153])))]:OL)) (fun m49 h E' O' hmat => ?_) (fun j50 hjj50 h => ?_)
    ·apply seqQ_n
     refine AWp.ghost hmat ?_
     apply AWp.ret
     obtain rfl:=oi h
     exact rt (kp [(2,_)] [(500,some _),(501,some _)] hB rfl rfl (by rfl)) [(bo m49)] (Res.tmp (by rfl) (by rfl) Res.nil) rfl
    ·rcases bft ((decide ((a0.fAddrs.length:Int)≤256))&&(decide ((a0.fASNs.length:Int)≤256))) with hg51 | hg51
     ·have h:=ite_t hg51 h
      obtain⟨r52,hr52,h⟩:=bindS h
      rcases bft r52 with hg53 | hg53
      ·have h:=ite_t hg53 h
       obtain⟨r54,hr54,h⟩:=bindS h
       apply rg (c (fo 1001 0 [0] hN underlying57 0 tyS54 (q 1)) rfl (c (la hN 57 tyS54 (q 38)) rfl (c (OpJ.val (v':=(i6 (a0.fAddrs.length:Int))) (by simp) (lenD underlying54 (L rfl) (q 39))) rfl (c (leq (L rfl) (q 40) (ii 256)) rfl (c (mv hN (q 41)) rfl (c (oq hN 42 (fo 1001 1 [1] hN underlying57 1 tyS55 (q 1)) (OptL.keep (by rfl) OptL.nil) (GuardV.plain _)) rfl (c (oq hN 42 (la hN 57 tyS55 (q 43)) (OptL.opt OptL.nil) (GuardV.plain _)) rfl (c (oq hN 42 (OpJ.val (v':=(i6 (a0.fASNs.length:Int))) (by simp) (lenD underlying55 (L rfl) (q 44))) (OptL.opt OptL.nil) (GuardV.plain _)) rfl (c (oq hN 42 (leq (L rfl) (q 45) (ii 256)) (OptL.opt OptL.nil) (GuardV.plain _)) rfl (c (pickAnd rfl (L rfl) (q 42) (q 46)) rfl (c (OpJ.val (v':=.d (.bool true)) (by rw [hg51]<;>rfl) (mv hN (q 47))) rfl (cg (gd 48 (OpJ.loadG (nm:=500) [109,150,151] tyS117 rfl (L rfl))) rfl (c (gd 48 (fo 1005 0 [0] hN underlying113 0 tyS110 (q 5))) rfl (c (gd 48 (la hN 113 tyS110 (q 50))) rfl (cg (gd 48 (cf hB fnOk64 (resource_order_valid_ac r44.faddrs r52 hr52) (L rfl) (OpdL.cons (q 49) (OpdL.cons (q 51) OpdL.nil)))) rfl (c (pickT (L rfl) (q 48) (q 52)) rfl (c (OpJ.val (v':=.d (.bool true)) (by rw [hg53]<;>rfl) (mv hN (q 53))) rfl (cg (gd 54 (OpJ.loadG (nm:=501) [98,152,153] tyS121 rfl (L rfl))) rfl (c (gd 54 (fo 1005 1 [1] hN underlying113 1 tyS111 (q 5))) rfl (c (gd 54 (la hN 113 tyS111 (q 56))) rfl (cg (gd 54 (cf hB fnOk65 (resource_order_valid_2_ac r44.fasns r54 hr54) (L rfl) (OpdL.cons (q 55) (OpdL.cons (q 57) OpdL.nil)))) rfl (c (pickT (L rfl) (q 54) (q 58)) rfl (c (assign (L rfl) (q 59)) rfl cn)))))))))))))))))))))))
       exact hjj50 _ h _ _ (mp [] _ _ hB)
      ·have h:=ite_f hg53 h
       apply rg (c (fo 1001 0 [0] hN underlying57 0 tyS54 (q 1)) rfl (c (la hN 57 tyS54 (q 38)) rfl (c (OpJ.val (v':=(i6 (a0.fAddrs.length:Int))) (by simp) (lenD underlying54 (L rfl) (q 39))) rfl (c (leq (L rfl) (q 40) (ii 256)) rfl (c (mv hN (q 41)) rfl (c (oq hN 42 (fo 1001 1 [1] hN underlying57 1 tyS55 (q 1)) (OptL.keep (by rfl) OptL.nil) (GuardV.plain _)) rfl (c (oq hN 42 (la hN 57 tyS55 (q 43)) (OptL.opt OptL.nil) (GuardV.plain _)) rfl (c (oq hN 42 (OpJ.val (v':=(i6 (a0.fASNs.length:Int))) (by simp) (lenD underlying55 (L rfl) (q 44))) (OptL.opt OptL.nil) (GuardV.plain _)) rfl (c (oq hN 42 (leq (L rfl) (q 45) (ii 256)) (OptL.opt OptL.nil) (GuardV.plain _)) rfl (c (pickAnd rfl (L rfl) (q 42) (q 46)) rfl (c (OpJ.val (v':=.d (.bool true)) (by rw [hg51]<;>rfl) (mv hN (q 47))) rfl (cg (gd 48 (OpJ.loadG (nm:=500) [109,150,151] tyS117 rfl (L rfl))) rfl (c (gd 48 (fo 1005 0 [0] hN underlying113 0 tyS110 (q 5))) rfl (c (gd 48 (la hN 113 tyS110 (q 50))) rfl (cg (gd 48 (cf hB fnOk64 (resource_order_valid_ac r44.faddrs r52 hr52) (L rfl) (OpdL.cons (q 49) (OpdL.cons (q 51) OpdL.nil)))) rfl (c (pickT (L rfl) (q 48) (q 52)) rfl (c (OpJ.val (v':=.d (.bool false)) (by rw [hg53]<;>rfl) (mv hN (q 53))) rfl (ks 54 (L rfl) (ks 54 (L rfl) (ks 54 (L rfl) (ks 54 (L rfl) (c (pickF (L rfl) (q 54) (Opd.bool false)) rfl (c (assign (L rfl) (q 59)) rfl cn)))))))))))))))))))))))
       exact hjj50 _ h _ _ (mp [] _ _ hB)
     ·have h:=ite_f hg51 h
      apply rg (c (fo 1001 0 [0] hN underlying57 0 tyS54 (q 1)) rfl (c (la hN 57 tyS54 (q 38)) rfl (c (OpJ.val (v':=(i6 (a0.fAddrs.length:Int))) (by simp) (lenD underlying54 (L rfl) (q 39))) rfl (c (leq (L rfl) (q 40) (ii 256)) rfl (c (mv hN (q 41)) rfl (c (oq hN 42 (fo 1001 1 [1] hN underlying57 1 tyS55 (q 1)) (OptL.keep (by rfl) OptL.nil) (GuardV.plain _)) rfl (c (oq hN 42 (la hN 57 tyS55 (q 43)) (OptL.opt OptL.nil) (GuardV.plain _)) rfl (c (oq hN 42 (OpJ.val (v':=(i6 (a0.fASNs.length:Int))) (by simp) (lenD underlying55 (L rfl) (q 44))) (OptL.opt OptL.nil) (GuardV.plain _)) rfl (c (oq hN 42 (leq (L rfl) (q 45) (ii 256)) (OptL.opt OptL.nil) (GuardV.plain _)) rfl (c (pickAnd rfl (L rfl) (q 42) (q 46)) rfl (c (OpJ.val (v':=.d (.bool false)) (by rw [hg51]<;>rfl) (mv hN (q 47))) rfl (ks 48 (L rfl) (ks 48 (L rfl) (ks 48 (L rfl) (ks 48 (L rfl) (c (pickF (L rfl) (q 48) (Opd.bool false)) rfl (c (mv hN (q 53)) rfl (ks 54 (L rfl) (ks 54 (L rfl) (ks 54 (L rfl) (ks 54 (L rfl) (c (pickF (L rfl) (q 54) (Opd.bool false)) rfl (c (assign (L rfl) (q 59)) rfl cn)))))))))))))))))))))))
      exact hjj50 _ h _ _ (mp [] _ _ hB)
def slices_Index_L0 (a0:(List Int)) (a1:Int) (s1:Int):Option (((Int)⊕(Unit))⊕(Int)) :=
 (if (decide (s1<(a0.length:Int)))=true then
 (idx a0 s1).bind fun x11 =>
 (if (a1==x11)=true then
 some (.inl (.inl s1))
 else
 some (.inr (w64 (s1+1))))
 else
 some (.inl (.inr ())))
def slices_Index (a0:(List Int)) (a1:Int):Option (Int) :=
 (loop (slices_Index_L0 a0 a1) 0).bind fun x13=>match x13 with
 | (.inl p8) =>
  some p8
 | (.inr _) =>
  some (-1)
theorem slices_Index_ac (a0:(List Int)) (a1:Int) (r:Int) (h:slices_Index a0 a1=some r):AC Tryz.prog 66 [(.d (.list 1 (a0.map (eI .i64)))),(.d (.int .i64 a1))] [] (.d (.int .i64 r)) []:=by
 refine AC.of_code2 Tryz.func66 rfl rfl (Nat.le_of_ble_eq_true (by rfl)) fun B hB hN => ?_
 delta slices_Index at h
 apply sr (c (assign (ltN hN rfl) (ii 0)) rfl cn)
 apply AWp.seq
 apply sr (c (mv hN (q 0)) rfl (c (OpJ.val (v':=(i6 (a0.length:Int))) (by simp) (lenD underlying23 (ltN hN rfl) (q 6))) rfl (c (mv hN (ii 0)) rfl cn)))
 apply AWp.block
 obtain⟨x13,hx14,h⟩:=bindS h
 refine lg (slices_Index_L0 a0 a1) (fun s1:Int=>([(0,(qI_1 a0)),(1,(i6 a1)),(7,(i6 (a0.length:Int))),(8,(i6 s1))]:EL)) (fun s1:Int=>([]:OL)) (fun(x:(Int)⊕(Unit)) e E' O'=>match x with | (.inl p8)=>e = .ret∧Mat B E' O' ([(4,(i6 p8))]:EL) ([]:OL) | (.inr _p)=>e = .exit 0∧Mat B E' O' ([]:EL) ([]:OL)) hx14 (mp [] _ _ hB) (fun s1 y h => ?_) (fun e E' O' hR => ?_)
 ·unfold slices_Index_L0 at h
  apply sr (c (lss (ltN hN rfl) (q 8) (q 7)) rfl cn)
  apply AWp.seq
  apply AWp.cond rfl<;>intro hg10
  ·have h:=ite_t hg10 h
   apply AWp.skip
   apply seqQ_n
   apply AWp.seq
   apply AWp.block
   apply sr (c (mv hN (q 8)) rfl (c (assign (ltN hN rfl) (q 10)) rfl cn))
   obtain⟨x11,hx11,h⟩:=bindS h
   apply sr (c (mv hN (q 1)) rfl (c (mv hN (q 0)) rfl (c (mv hN (q 5)) rfl (c (indexD underlying23 tyS3 (idx_some hx11).1 (get_map (eI .i64) (idx_some hx11).2) (ltN hN rfl) (q 12) (q 13)) rfl (c (loadD tyS3 (by rfl) (by rfl) (ltN hN rfl) (q 14)) rfl (c (eqlI (ltN hN rfl) (q 11) (q 15)) rfl cn))))))
   apply AWp.cond rfl<;>intro hg12
   ·have h:=ite_t hg12 h
    apply sr (c (mv hN (q 5)) rfl (c (assign (ltN hN rfl) (q 17)) rfl cn))
    apply AWp.ret
    apply blkQ_r
    apply seqQ_r
    obtain rfl:=oi h
    exact⟨(fun hc=>by cases hc),rfl,(mp [] _ _ hB)⟩
   ·have h:=ite_f hg12 h
    apply AWp.skip
    apply blkQ_n
    apply seqQ_n
    apply rg (c (add6 (ltN hN rfl) (q 8) (ii 1)) rfl (c (mv hN (q 18)) rfl cn))
    obtain rfl:=oi h
    exact⟨rfl,(mp [] _ _ hB)⟩
  ·have h:=ite_f hg10 h
   apply AWp.exit
   apply seqQ_e
   obtain rfl:=oi h
   exact⟨(fun hc=>by cases hc),rfl,(mp [] _ _ hB)⟩
 ·rcases x13 with p8 | _
  ·obtain⟨rfl,hmat⟩:=hR
   apply blkQ_r
   apply seqQ_r
   obtain rfl:=oi h
   exact rt (Mat.trans hmat (mp [] [(4,(i6 p8))] [] hB)) [(i6 p8)] (Res.tmp (by rfl) (by rfl) Res.nil) rfl
  ·obtain⟨rfl,hmat⟩:=hR
   apply blkQ_hit
   apply seqQ_n
   refine AWp.ghost hmat ?_
   apply sr (c (assign (ltN hN rfl) (ii (-1))) rfl cn)
   apply AWp.ret
   obtain rfl:=oi h
   exact rt (kp [(4,_)] [] hB rfl rfl (by rfl)) [(i6 (-1))] (Res.tmp (by rfl) (by rfl) Res.nil) rfl
def slices_Contains (a0:(List Int)) (a1:Int):Option (Bool) :=
 (slices_Index a0 a1).bind fun r1 =>
 some (decide (0≤r1))
theorem slices_Contains_ac (a0:(List Int)) (a1:Int) (r:Bool) (h:slices_Contains a0 a1=some r):AC Tryz.prog 33 [(.d (.list 1 (a0.map (eI .i64)))),(.d (.int .i64 a1))] [] (.d (.bool r)) []:=by
 refine AC.of_code2 Tryz.func33 rfl rfl (Nat.le_of_ble_eq_true (by rfl)) fun B hB hN => ?_
 delta slices_Contains at h
 apply sr (c (assign (ltN hN rfl) (Opd.bool false)) rfl cn)
 obtain⟨r1,hr1,h⟩:=bindS h
 apply sr (c (mv hN (q 0)) rfl (c (mv hN (q 1)) rfl (cg (OpJ.callFn hB fnOk66 (slices_Index_ac a0 a1 r1 hr1) [] (by kernel_rfl) (ltN hN rfl) (by kernel_rfl) (OpdL.cons (q 5) (OpdL.cons (q 6) OpdL.nil))) rfl (c (geq (ltN hN rfl) (q 7) (ii 0)) rfl (c (assign (ltN hN rfl) (q 8)) rfl cn)))))
 apply AWp.ret
 obtain rfl:=oi h
 exact rt (kp [(4,_)] [] hB rfl rfl (by rfl)) [(bo (decide (0≤r1)))] (Res.tmp (by rfl) (by rfl) Res.nil) rfl
def ext34_slices_Clone_S (a0:(List Bool)):Option (List Bool):=chk (decide (a0.length≤LIM)) <|
 some a0
theorem ext34_slices_Clone_S_ac (a0:(List Bool)) (r:List Bool) (h:ext34_slices_Clone_S a0=some r):AC Tryz.prog 34 [(.sref 0 1 0 a0.length)] [(0,(.row 4 1 (a0.map eB)))] (.sref 900000 1 0 r.length) [(0,some (.row 4 1 (a0.map eB))),(900000,some (.row 4 1 (r.map eB)))]:=by
 obtain⟨hc,h⟩:=chk_some h
 obtain rfl:=oi h
 exact AC.cloneS cloneOk34 (by simp) (by rw [List.length_map];exact lim_mulN hc (by decide))
def resource_before (a0:aAddr):Option (aAddr×Bool) :=
 (if ((a0.fHi==0)&&(a0.fLo==0))=true then
 some ((aAddr.mk false 0 0),false)
 else
 jn (fun m3:aAddr =>
 some ((aAddr.mk m3.fV6 m3.fHi (IntKind.u64.wrap (m3.fLo-1))),true)) (fun j4 =>
 (if (a0.fLo==0)=true then
 j4 (aAddr.mk a0.fV6 (IntKind.u64.wrap (a0.fHi-1)) a0.fLo)
 else
 j4 a0)))
theorem resource_before_ac (a0:aAddr) (r:aAddr×Bool) (h:resource_before a0=some r):AC Tryz.prog 151 [(.d (e_aAddr a0))] [] (.tup [(.d (e_aAddr r.1)),(.d (.bool r.2))]) []:=by
 refine AC.of_code2 Tryz.func151 rfl rfl (Nat.le_of_ble_eq_true (by rfl)) fun B hB hN => ?_
 delta resource_before at h
 apply sr (cg (OpJ.box hB (nm:=1001) (by decide) (by simp) rfl (ltN hN rfl) (q 0)) rfl (cg (alloc hB tyZ44 (nm:=1002) (by decide) (ltN hN rfl)) rfl (c (assign (ltN hN rfl) (Opd.bool false)) rfl cn)))
 apply AWp.seq
 apply sr (c (fo 1001 1 [1] hN underlying44 1 tyS42 (q 1)) rfl (c (la hN 44 tyS42 (q 4)) rfl (c (eqlI (ltN hN rfl) (q 5) (Opd.int .u64 (0))) rfl (c (mv hN (q 6)) rfl (c (oq hN 7 (fo 1001 2 [2] hN underlying44 2 tyS42 (q 1)) (OptL.keep (by rfl) OptL.nil) (GuardV.plain _)) rfl (c (oq hN 7 (la hN 44 tyS42 (q 8)) (OptL.opt OptL.nil) (GuardV.plain _)) rfl (c (oq hN 7 (eqlI (ltN hN rfl) (q 9) (Opd.int .u64 (0))) (OptL.opt OptL.nil) (GuardV.plain _)) rfl (c (pickAnd rfl (ltN hN rfl) (q 7) (q 10)) rfl cn))))))))
 apply AWp.cond rfl<;>intro hg1
 ·have h:=ite_t hg1 h
  apply sr (c (OpJ.coe (v:=(.st [(bo false),(.d (.int .u64 0)),(.d (.int .u64 0))])) (y:=(.st [(.bool false),(.int .u64 0),(.int .u64 0)])) (Co.st (CoL.cons (Co.d _) (CoL.cons (Co.d _) (CoL.cons (Co.d _) CoL.nil)))) rfl (OpJ.build (places:=[(0,1),(1,1),(2,1)]) ⟨underlying44,fun w=>by kernel_rfl⟩ tyZS44 Opds.nil (by kernel_rfl) (r:=(.st [(bo false),(.d (.int .u64 0)),(.d (.int .u64 0))])) (by rfl) (ltN hN rfl))) rfl (cg (sB tyS44 (q 2) (q 12)) rfl (c (assign (ltN hN rfl) (Opd.bool false)) rfl cn)))
  apply AWp.ret
  apply seqQ_r
  obtain rfl:=oi h
  exact rt (kp [(2,_),(3,_)] [(1002,some _)] hB rfl rfl (by rfl)) [(.d (.st [(.bool false),(.int .u64 0),(.int .u64 0)])),(bo false)] (Res.cell (c:=(.d (.st [(.bool false),(.int .u64 0),(.int .u64 0)]))) (by rfl) (by rfl) tyS44 (by rfl) (by rfl) (by rfl) (Res.tmp (by rfl) (by rfl) Res.nil)) rfl
 ·have h:=ite_f hg1 h
  apply AWp.skip
  apply seqQ_n
  apply AWp.seq
  apply sr (c (fo 1001 2 [2] hN underlying44 2 tyS42 (q 1)) rfl (c (la hN 44 tyS42 (q 13)) rfl (c (eqlI (ltN hN rfl) (q 14) (Opd.int .u64 (0))) rfl cn)))
  refine gh [(1,_),(2,_),(15,_)] [(1001,some _),(1002,some _)] hB rfl rfl (by rfl) ?_
  refine AWp.cut h (fun m3:aAddr=>([(1,(pt 1001)),(2,(pt 1002))]:EL)) (fun m3:aAddr=>([(1001,bd 44 (e_aAddr m3)),(1002,bd 44 (.st [(.bool false),(.int .u64 0),(.int .u64 0)]))]:OL)) (fun m3 h E' O' hmat => ?_) (fun j4 hjj4 h => ?_)
  ·apply seqQ_n
   refine AWp.ghost hmat ?_
   apply sr (c (fo 1001 2 [2] hN underlying44 2 tyS42 (q 1)) rfl (c (la hN 44 tyS42 (q 20)) rfl (c (OpJ.sub (ltN hN rfl) (q 21) (Opd.int .u64 (1))) rfl (c (fo 1001 2 [2] hN underlying44 2 tyS42 (q 1)) rfl (cg (OpJ.storeB tyS42 (SetAt.dst1 (by rfl) (by rfl) (SetAt.here _ _) (by rfl) (by rfl) (by first | rfl | omega)) (by rfl) (by rfl) (by simp) rfl (q 23) (q 22)) rfl cn)))))
   apply sr (c (lb hN 44 _ _ tyS44 (At.here _) (q 1)) rfl (cg (sB tyS44 (q 2) (q 24)) rfl (c (assign (ltN hN rfl) (Opd.bool true)) rfl cn)))
   apply AWp.ret
   obtain rfl:=oi h
   exact rt (kp [(2,_),(3,_)] [(1002,some _)] hB rfl rfl (by rfl)) [(.d (.st [(.bool m3.fV6),(.int .u64 m3.fHi),(.int .u64 (IntKind.u64.wrap (m3.fLo-1)))])),(bo true)] (Res.cell (c:=(.d (.st [(.bool m3.fV6),(.int .u64 m3.fHi),(.int .u64 (IntKind.u64.wrap (m3.fLo-1)))]))) (by rfl) (by rfl) tyS44 (by rfl) (by rfl) (by rfl) (Res.tmp (by rfl) (by rfl) Res.nil)) rfl
  ·apply AWp.cond rfl<;>intro hg5
   ·have h:=ite_t hg5 h
    apply rg (c (fo 1001 1 [1] hN underlying44 1 tyS42 (q 1)) rfl (c (la hN 44 tyS42 (q 16)) rfl (c (OpJ.sub (ltN hN rfl) (q 17) (Opd.int .u64 (1))) rfl (c (fo 1001 1 [1] hN underlying44 1 tyS42 (q 1)) rfl (cg (OpJ.storeB tyS42 (SetAt.dst1 (by rfl) (by rfl) (SetAt.here _ _) (by rfl) (by rfl) (by first | rfl | omega)) (by rfl) (by rfl) (by simp) rfl (q 19) (q 18)) rfl cn)))))
    exact hjj4 _ h _ _ (mp [] _ _ hB)
   ·have h:=ite_f hg5 h
    apply AWp.skip
    exact hjj4 _ h _ _ (mp [] _ _ hB)
def resource_order_minus_L1 (a1:(List aAddr_)) (s433:Int×aAddr_×(List aAddr_)):Option (((Bool×aAddr_×(List aAddr_)))⊕(Int×aAddr_×(List aAddr_))) :=
 (if (decide (s433.1<(a1.length:Int)))=true then
 jn (fun m602:aAddr_×(List aAddr_) =>
 some (.inr ((w64 (s433.1+1)),m602.1,m602.2))) (fun j603 =>
 (idx a1 s433.1).bind fun x604 =>
 jn (fun m609:Bool =>
 (if m609=true then
 j603 (s433.2.1,s433.2.2)
 else
 (resource_before x604.ffrom).bind fun r612 =>
 jn (fun m615:Bool =>
 jn (fun m619:(List aAddr_) =>
 (addr_Next x604.fto).bind fun r621 =>
 jn (fun m624:Bool =>
 (if m624=true then
 some (.inl (false,s433.2.1,m619))
 else
 j603 ((aAddr_.mk r621.1 s433.2.1.fto),m619))) (fun j625 =>
 (if (!r621.2)=true then
 j625 true
 else
 (addr_Cmp r621.1 s433.2.1.fto).bind fun r628 =>
 j625 (decide (0<r628))))) (fun j620 =>
 (if m615=true then
 chk (decide ((s433.2.2++[(aAddr_.mk s433.2.1.ffrom r612.1)]).length≤LIM)) <|
 j620 (s433.2.2++[(aAddr_.mk s433.2.1.ffrom r612.1)])
 else
 j620 s433.2.2))) (fun j616 =>
 (if r612.2=true then
 (addr_Cmp s433.2.1.ffrom r612.1).bind fun r632 =>
 j616 (decide (r632≤0))
 else
 j616 false)))) (fun j610 =>
 (addr_Cmp x604.fto s433.2.1.ffrom).bind fun r633 =>
 (if (decide (r633<0))=true then
 j610 true
 else
 (addr_Cmp x604.ffrom s433.2.1.fto).bind fun r635 =>
 j610 (decide (0<r635)))))
 else
 some (.inl (true,s433.2.1,s433.2.2)))
def resource_order_minus_L0 (a0:(List aAddr_)) (a1:(List aAddr_)) (s1:Int×(List aAddr_)):Option ((((List aAddr_)))⊕(Int×(List aAddr_))) :=
 (if (decide (s1.1<(a0.length:Int)))=true then
 (idx a0 s1.1).bind fun x432 =>
 (loop (resource_order_minus_L1 a1) (0,x432,s1.2)).bind fun p568 =>
 jn (fun m640:(List aAddr_) =>
 some (.inr ((w64 (s1.1+1)),m640))) (fun j641 =>
 (if p568.1=true then
 chk (decide ((p568.2.2++[p568.2.1]).length≤LIM)) <|
 j641 (p568.2.2++[p568.2.1])
 else
 j641 p568.2.2))
 else
 some (.inl s1.2))
def resource_order_minus (a0:(List aAddr_)) (a1:(List aAddr_)):Option ((List aAddr_)) :=
 (loop (resource_order_minus_L0 a0 a1) (0,([]:List aAddr_))).bind fun p430 =>
 some p430
theorem resource_order_minus_ac (a0:(List aAddr_)) (a1:(List aAddr_)) (r:(List aAddr_)) (h:resource_order_minus a0 a1=some r):AC Tryz.prog 103 [(.st [(.func 109 []),(.func 150 []),(.func 151 [])]),(.d (.list 6 (a0.map e_aAddr_))),(.d (.list 6 (a1.map e_aAddr_)))] [] (.d (.list 6 (r.map e_aAddr_))) []:=by
 refine ac2 Tryz.func103 rfl rfl fun B hB hN L => ?_
 delta resource_order_minus at h
 apply sr (cg (OpJ.box hB (nm:=1003) (by decide) (by simp) rfl (L rfl) (q 0)) rfl (c (assign (L rfl) Opd.nils) rfl cn))
 apply sr (c (assign (L rfl) Opd.nils) rfl cn)
 apply AWp.seq
 apply sr (c (mv hN (q 1)) rfl (c (OpJ.val (v':=(i6 (a0.length:Int))) (by simp) (lenD underlying110 (L rfl) (q 17))) rfl (c (mv hN (ii 0)) rfl cn)))
 apply AWp.block
 obtain⟨p430,hx645,h⟩:=bindS h
 refine lg (resource_order_minus_L0 a0 a1) (fun s1:Int×(List aAddr_)=>([(2,(qe_aAddr__6 a1)),(3,(pt 1003)),(7,(.sref 3007 6 0 s1.2.length)),(17,(qe_aAddr__6 a0)),(18,(i6 (a0.length:Int))),(19,(i6 s1.1))]:EL)) (fun s1:Int×(List aAddr_)=>([(1003,some (.box 117 (.st [(.func 109 []),(.func 150 []),(.func 151 [])]))),(3007,some (we_aAddr__139_6 s1.2))]:OL)) (fun(p430:((List aAddr_))) e E' O'=>e = .exit 0∧Mat B E' O' ([(7,(.sref 3007 6 0 p430.length))]:EL) ([(3007,some (we_aAddr__139_6 p430))]:OL)) hx645 (Mat.trans (Mat.beginP (n:=3007) (e:=139) (sz:=6) (Ts:=[(7,(.sref 3007 6 0 0))]) (Bs:=[]) hB (by decide) (by rfl) (by decide) (TwT.cons (x:=.nils) (by rfl) (Tw.leaf ⟨rfl,rfl⟩) TwT.nil) TwB.nil) (mp [] _ _ hB)) (fun s1 y h => ?_) (fun e E' O' hR => ?_)
 ·unfold resource_order_minus_L0 at h
  apply sr (c (lss (L rfl) (q 19) (q 18)) rfl cn)
  apply AWp.seq
  apply AWp.cond rfl<;>intro hg431
  ·have h:=ite_t hg431 h
   apply AWp.skip
   apply seqQ_n
   apply AWp.seq
   apply AWp.block
   obtain⟨x432,hx432,h⟩:=bindS h
   apply sr (c (indexD underlying110 tyS139 (idx_some hx432).1 (get_map e_aAddr_ (idx_some hx432).2) (L rfl) (q 17) (q 19)) rfl (c (loadD tyS139 (by rfl) (by rfl) (L rfl) (q 21)) rfl (cg (alloc hB tyZ139 (nm:=1009) (by decide) (L rfl)) rfl (cg (sB tyS139 (q 9) (q 22)) rfl cn))))
   apply sr (c (assign (L rfl) (Opd.bool true)) rfl cn)
   apply AWp.seq
   apply sr (c (mv hN (q 2)) rfl (c (OpJ.val (v':=(i6 (a1.length:Int))) (by simp) (lenD underlying110 (L rfl) (q 23))) rfl (c (mv hN (ii 0)) rfl cn)))
   apply AWp.block
   obtain⟨p568,hx637,h⟩:=bindS h
   refine lg (resource_order_minus_L1 a1) (fun s433:Int×aAddr_×(List aAddr_)=>([(2,(qe_aAddr__6 a1)),(3,(pt 1003)),(7,(.sref 3007 6 0 s433.2.2.length)),(9,(pt 1009)),(10,(bo true)),(17,(qe_aAddr__6 a0)),(18,(i6 (a0.length:Int))),(19,(i6 s1.1)),(23,(qe_aAddr__6 a1)),(24,(i6 (a1.length:Int))),(25,(i6 s433.1))]:EL)) (fun s433:Int×aAddr_×(List aAddr_)=>([(1003,some (.box 117 (.st [(.func 109 []),(.func 150 []),(.func 151 [])]))),(1009,bd 139 (e_aAddr_ s433.2.1)),(3007,some (we_aAddr__139_6 s433.2.2))]:OL)) (fun(p568:(Bool×aAddr_×(List aAddr_))) e E' O'=>e = .exit 2∧Mat B E' O' ([(2,(qe_aAddr__6 a1)),(3,(pt 1003)),(7,(.sref 3007 6 0 p568.2.2.length)),(9,(pt 1009)),(10,(bo p568.1)),(17,(qe_aAddr__6 a0)),(18,(i6 (a0.length:Int))),(19,(i6 s1.1))]:EL) ([(1003,some (.box 117 (.st [(.func 109 []),(.func 150 []),(.func 151 [])]))),(1009,bd 139 (e_aAddr_ p568.2.1)),(3007,some (we_aAddr__139_6 p568.2.2))]:OL)) hx637 (mp [] _ _ hB) (fun s433 y h => ?_) (fun e E' O' hR => ?_)
   ·unfold resource_order_minus_L1 at h
    apply sr (c (lss (L rfl) (q 25) (q 24)) rfl cn)
    apply AWp.seq
    apply AWp.cond rfl<;>intro hg569
    ·have h:=ite_t hg569 h
     apply AWp.skip
     apply seqQ_n
     apply AWp.seq
     refine AWp.cut h (fun m602:aAddr_×(List aAddr_)=>([(2,(qe_aAddr__6 a1)),(3,(pt 1003)),(7,(.sref 3007 6 0 m602.2.length)),(9,(pt 1009)),(10,(bo true)),(17,(qe_aAddr__6 a0)),(18,(i6 (a0.length:Int))),(19,(i6 s1.1)),(23,(qe_aAddr__6 a1)),(24,(i6 (a1.length:Int))),(25,(i6 s433.1))]:EL)) (fun m602:aAddr_×(List aAddr_)=>([(1003,some (.box 117 (.st [(.func 109 []),(.func 150 []),(.func 151 [])]))),(1009,bd 139 (e_aAddr_ m602.1)),(3007,some (we_aAddr__139_6 m602.2))]:OL)) (fun m602 h E' O' hmat => ?_) (fun j603 hjj603 h => ?_)
     ·apply seqQ_n
      refine AWp.ghost hmat ?_
      apply rg (c (add6 (L rfl) (q 25) (ii 1)) rfl (c (mv hN (q 93)) rfl cn))
      obtain rfl:=oi h
      exact⟨rfl,(mp [] _ _ hB)⟩
     ·apply AWp.block
      obtain⟨x604,hx604,h⟩:=bindS h
      apply sr (c (indexD underlying110 tyS139 (idx_some hx604).1 (get_map e_aAddr_ (idx_some hx604).2) (L rfl) (q 23) (q 25)) rfl (c (loadD tyS139 (by rfl) (by rfl) (L rfl) (q 27)) rfl (cg (alloc hB tyZ139 (nm:=1012) (by decide) (L rfl)) rfl (cg (sB tyS139 (q 12) (q 28)) rfl cn))))
      apply AWp.seq
      apply AWp.seq
      refine AWp.cut h (fun m609:Bool=>([(2,(qe_aAddr__6 a1)),(3,(pt 1003)),(7,(.sref 3007 6 0 s433.2.2.length)),(9,(pt 1009)),(10,(bo true)),(12,(pt 1012)),(17,(qe_aAddr__6 a0)),(18,(i6 (a0.length:Int))),(19,(i6 s1.1)),(23,(qe_aAddr__6 a1)),(24,(i6 (a1.length:Int))),(25,(i6 s433.1)),(46,(bo m609))]:EL)) (fun m609:Bool=>([(1003,some (.box 117 (.st [(.func 109 []),(.func 150 []),(.func 151 [])]))),(1009,bd 139 (e_aAddr_ s433.2.1)),(1012,bd 139 (e_aAddr_ x604)),(3007,some (we_aAddr__139_6 s433.2.2))]:OL)) (fun m609 h E' O' hmat => ?_) (fun j610 hjj610 h => ?_)
      ·apply seqQ_n
       refine AWp.ghost hmat ?_
       apply AWp.cond rfl<;>intro hg611
       ·have h:=ite_t hg611 h
        apply AWp.exit
        apply seqQ_e
        apply blkQ_hit
        exact hjj603 _ h _ _ (mp [] _ _ hB)
       ·have h:=ite_f hg611 h
        apply AWp.skip
        apply seqQ_n
        apply AWp.seq
        obtain⟨r612,hr612,h⟩:=bindS h
        apply sr (c (fo 1003 2 [2] hN underlying117 2 tyS115 (q 3)) rfl (c (lb hN 117 _ (.func 151 []) tyS115 (At.st1 (f:=(.func 151 [])) (by rfl) (by rfl) (At.here _) (by first | rfl | omega)) (q 48)) rfl (c (fo 1012 0 [0] hN underlying139 0 tyS44 (q 12)) rfl (c (la hN 139 tyS44 (q 50)) rfl (cg (callVal (args:=[(.d (e_aAddr x604.ffrom))]) (caps:=[]) hB fnOk151 [] (resource_before_ac x604.ffrom r612 hr612) (by kernel_rfl) (L rfl) (by kernel_rfl) (by kernel_rfl) (OpdL.cons (q 51) OpdL.nil)) rfl (c (mv hN (q 52)) rfl (c (extract (by rfl) rfl (L rfl) (q 47)) rfl (c (extract (by rfl) rfl (L rfl) (q 47)) rfl (cg (alloc hB tyZ44 (nm:=1013) (by decide) (L rfl)) rfl (cg (sB tyS44 (q 13) (q 53)) rfl (c (assign (L rfl) (q 54)) rfl cn)))))))))))
        apply AWp.seq
        refine AWp.cut h (fun m615:Bool=>([(2,(qe_aAddr__6 a1)),(3,(pt 1003)),(7,(.sref 3007 6 0 s433.2.2.length)),(9,(pt 1009)),(10,(bo true)),(12,(pt 1012)),(13,(pt 1013)),(17,(qe_aAddr__6 a0)),(18,(i6 (a0.length:Int))),(19,(i6 s1.1)),(23,(qe_aAddr__6 a1)),(24,(i6 (a1.length:Int))),(25,(i6 s433.1)),(64,(bo m615))]:EL)) (fun m615:Bool=>([(1003,some (.box 117 (.st [(.func 109 []),(.func 150 []),(.func 151 [])]))),(1009,bd 139 (e_aAddr_ s433.2.1)),(1012,bd 139 (e_aAddr_ x604)),(1013,bd 44 (e_aAddr r612.1)),(3007,some (we_aAddr__139_6 s433.2.2))]:OL)) (fun m615 h E' O' hmat => ?_) (fun j616 hjj616 h => ?_)
        ·apply seqQ_n
         refine AWp.ghost hmat ?_
         refine AWp.cut h (fun m619:(List aAddr_)=>([(2,(qe_aAddr__6 a1)),(3,(pt 1003)),(7,(.sref 3007 6 0 m619.length)),(9,(pt 1009)),(10,(bo true)),(12,(pt 1012)),(17,(qe_aAddr__6 a0)),(18,(i6 (a0.length:Int))),(19,(i6 s1.1)),(23,(qe_aAddr__6 a1)),(24,(i6 (a1.length:Int))),(25,(i6 s433.1))]:EL)) (fun m619:(List aAddr_)=>([(1003,some (.box 117 (.st [(.func 109 []),(.func 150 []),(.func 151 [])]))),(1009,bd 139 (e_aAddr_ s433.2.1)),(1012,bd 139 (e_aAddr_ x604)),(3007,some (we_aAddr__139_6 m619))]:OL)) (fun m619 h E' O' hmat => ?_) (fun j620 hjj620 h => ?_)
         ·apply seqQ_n
          refine AWp.ghost hmat ?_
          obtain⟨r621,hr621,h⟩:=bindS h
          apply sr (c (fo 1003 1 [1] hN underlying117 1 tyS115 (q 3)) rfl (c (lb hN 117 _ (.func 150 []) tyS115 (At.st1 (f:=(.func 150 [])) (by rfl) (by rfl) (At.here _) (by first | rfl | omega)) (q 73)) rfl (c (fo 1012 3 [1] hN underlying139 3 tyS44 (q 12)) rfl (c (la hN 139 tyS44 (q 75)) rfl (cg (callVal (args:=[(.d (e_aAddr x604.fto))]) (caps:=[]) hB fnOk150 [] (addr_Next_ac x604.fto r621 hr621) (by kernel_rfl) (L rfl) (by kernel_rfl) (by kernel_rfl) (OpdL.cons (q 76) OpdL.nil)) rfl (c (mv hN (q 77)) rfl (c (extract (by rfl) rfl (L rfl) (q 72)) rfl (c (extract (by rfl) rfl (L rfl) (q 72)) rfl (cg (alloc hB tyZ44 (nm:=1015) (by decide) (L rfl)) rfl (cg (sB tyS44 (q 15) (q 78)) rfl (c (assign (L rfl) (q 79)) rfl cn)))))))))))
          apply AWp.seq
          apply AWp.seq
          refine AWp.cut h (fun m624:Bool=>([(2,(qe_aAddr__6 a1)),(3,(pt 1003)),(7,(.sref 3007 6 0 m619.length)),(9,(pt 1009)),(10,(bo true)),(15,(pt 1015)),(17,(qe_aAddr__6 a0)),(18,(i6 (a0.length:Int))),(19,(i6 s1.1)),(23,(qe_aAddr__6 a1)),(24,(i6 (a1.length:Int))),(25,(i6 s433.1)),(90,(bo m624))]:EL)) (fun m624:Bool=>([(1003,some (.box 117 (.st [(.func 109 []),(.func 150 []),(.func 151 [])]))),(1009,bd 139 (e_aAddr_ s433.2.1)),(1015,bd 44 (e_aAddr r621.1)),(3007,some (we_aAddr__139_6 m619))]:OL)) (fun m624 h E' O' hmat => ?_) (fun j625 hjj625 h => ?_)
          ·apply seqQ_n
           refine AWp.ghost hmat ?_
           apply AWp.cond rfl<;>intro hg626
           ·have h:=ite_t hg626 h
            apply sr (c (assign (L rfl) (Opd.bool false)) rfl cn)
            refine gh [(2,_),(3,_),(7,_),(9,_),(10,_),(17,_),(18,_),(19,_)] [(1003,some _),(1009,some _),(3007,some _)] hB rfl rfl (by rfl) ?_
            apply AWp.exit
            apply seqQ_e
            refine blkQ_miss (by rfl) ?_
            apply seqQ_e
            obtain rfl:=oi h
            exact⟨(fun hc=>by cases hc),rfl,(mp [] _ _ hB)⟩
           ·have h:=ite_f hg626 h
            apply AWp.skip
            apply seqQ_n
            apply rg (c (lb hN 44 _ _ tyS44 (At.here _) (q 15)) rfl (c (fo 1009 0 [0] hN underlying139 0 tyS44 (q 9)) rfl (cg (OpJ.storeB tyS44 (SetAt.dst1 (by rfl) (by rfl) (SetAt.here _ _) (by rfl) (by rfl) (by first | rfl | omega)) (by rfl) (by rfl) (by simp) rfl (q 92) (q 91)) rfl cn)))
            apply blkQ_n
            exact hjj603 _ h _ _ (mp [] _ _ hB)
          ·rcases bft (!r621.2) with hg627 | hg627
           ·have h:=ite_t hg627 h
            apply rg (c (mv hN (q 16)) rfl (c (OpJ.not (L rfl) (q 80)) rfl (c (OpJ.val (v':=.d (.bool true)) (by rw [hg627]<;>rfl) (mv hN (q 81))) rfl (ks 82 (L rfl) (ks 82 (L rfl) (ks 82 (L rfl) (ks 82 (L rfl) (ks 82 (L rfl) (ks 82 (L rfl) (ks 82 (L rfl) (c (pickT (L rfl) (q 82) (Opd.bool true)) rfl cn)))))))))))
            exact hjj625 _ h _ _ (mp [] _ _ hB)
           ·have h:=ite_f hg627 h
            obtain⟨r628,hr628,h⟩:=bindS h
            apply rg (c (mv hN (q 16)) rfl (c (OpJ.not (L rfl) (q 80)) rfl (c (OpJ.val (v':=.d (.bool false)) (by rw [hg627]<;>rfl) (mv hN (q 81))) rfl (c (gd 82 (fo 1003 0 [0] hN underlying117 0 tyS93 (q 3))) rfl (c (gd 82 (lb hN 117 _ (.func 109 []) tyS93 (At.st1 (f:=(.func 109 [])) (by rfl) (by rfl) (At.here _) (by first | rfl | omega)) (q 83))) rfl (c (gd 82 (lb hN 44 _ _ tyS44 (At.here _) (q 15))) rfl (c (gd 82 (fo 1009 3 [1] hN underlying139 3 tyS44 (q 9))) rfl (c (gd 82 (la hN 139 tyS44 (q 86))) rfl (cg (gd 82 (callVal (args:=[(.d (e_aAddr r621.1)),(.d (e_aAddr s433.2.1.fto))]) (caps:=[]) hB fnOk109 [] (addr_Cmp_ac r621.1 s433.2.1.fto r628 hr628) (by kernel_rfl) (L rfl) (by kernel_rfl) (by kernel_rfl) (OpdL.cons (q 85) (OpdL.cons (q 87) OpdL.nil)))) rfl (c (gd 82 (gtr (L rfl) (q 88) (ii 0))) rfl (c (pickF (L rfl) (q 82) (q 89)) rfl cn)))))))))))
            exact hjj625 _ h _ _ (mp [] _ _ hB)
         ·apply AWp.cond rfl<;>intro hg629
          ·have h:=ite_t hg629 h
           obtain⟨hc630,h⟩:=chk_some h
           apply rg (c (mv hN (q 7)) rfl (c (fo 1009 0 [0] hN underlying139 0 tyS44 (q 9)) rfl (c (la hN 139 tyS44 (q 66)) rfl (c (lb hN 44 _ _ tyS44 (At.here _) (q 13)) rfl (c (OpJ.coe (v:=(.st [(.d (e_aAddr s433.2.1.ffrom)),(.d (e_aAddr r612.1))])) (y:=(.st [(e_aAddr s433.2.1.ffrom),(e_aAddr r612.1)])) (Co.st (CoL.cons (Co.d _) (CoL.cons (Co.d _) CoL.nil))) rfl (OpJ.build (places:=[(0,3),(3,3)]) ⟨underlying139,fun w=>by kernel_rfl⟩ tyZS139 (Opds.cons (q 67) (Opds.cons (q 68) Opds.nil)) (by kernel_rfl) (r:=(.st [(.d (e_aAddr s433.2.1.ffrom)),(.d (e_aAddr r612.1))])) (by rfl) (L rfl))) rfl (c (buildSlice underlying110 tyS139 tyZD139 (by rfl) (by decide) (by decide) (Opds.cons (q 69) Opds.nil) (by kernel_rfl) (es:=([(.st [(e_aAddr s433.2.1.ffrom),(e_aAddr r612.1)])]:List D)) (by rfl) (by rfl) (by kernel_rfl) (by simp) (L rfl)) rfl (cg (apd hB underlying110 tyE139 1071 e_aAddr_ s433.2.2 [(aAddr_.mk s433.2.1.ffrom r612.1)] hc630 (L rfl) (q 65) (q 70)) rfl (c (assign (L rfl) (q 71)) rfl cn))))))))
           exact hjj620 _ h _ _ (mp [(3007,1071)] _ _ hB)
          ·have h:=ite_f hg629 h
           apply AWp.skip
           exact hjj620 _ h _ _ (mp [] _ _ hB)
        ·rcases bft r612.2 with hg631 | hg631
         ·have h:=ite_t hg631 h
          obtain⟨r632,hr632,h⟩:=bindS h
          apply rg (c (mv hN (q 14)) rfl (c (OpJ.val (v':=.d (.bool true)) (by rw [hg631]<;>rfl) (mv hN (q 55))) rfl (c (gd 56 (fo 1003 0 [0] hN underlying117 0 tyS93 (q 3))) rfl (c (gd 56 (lb hN 117 _ (.func 109 []) tyS93 (At.st1 (f:=(.func 109 [])) (by rfl) (by rfl) (At.here _) (by first | rfl | omega)) (q 57))) rfl (c (gd 56 (fo 1009 0 [0] hN underlying139 0 tyS44 (q 9))) rfl (c (gd 56 (la hN 139 tyS44 (q 59))) rfl (c (gd 56 (lb hN 44 _ _ tyS44 (At.here _) (q 13))) rfl (cg (gd 56 (callVal (args:=[(.d (e_aAddr s433.2.1.ffrom)),(.d (e_aAddr r612.1))]) (caps:=[]) hB fnOk109 [] (addr_Cmp_ac s433.2.1.ffrom r612.1 r632 hr632) (by kernel_rfl) (L rfl) (by kernel_rfl) (by kernel_rfl) (OpdL.cons (q 60) (OpdL.cons (q 61) OpdL.nil)))) rfl (c (gd 56 (leq (L rfl) (q 62) (ii 0))) rfl (c (pickT (L rfl) (q 56) (q 63)) rfl cn))))))))))
          exact hjj616 _ h _ _ (mp [] _ _ hB)
         ·have h:=ite_f hg631 h
          apply rg (c (mv hN (q 14)) rfl (c (OpJ.val (v':=.d (.bool false)) (by rw [hg631]<;>rfl) (mv hN (q 55))) rfl (ks 56 (L rfl) (ks 56 (L rfl) (ks 56 (L rfl) (ks 56 (L rfl) (ks 56 (L rfl) (ks 56 (L rfl) (ks 56 (L rfl) (c (pickF (L rfl) (q 56) (Opd.bool false)) rfl cn))))))))))
          exact hjj616 _ h _ _ (mp [] _ _ hB)
      ·obtain⟨r633,hr633,h⟩:=bindS h
       rcases bft (decide (r633<0)) with hg634 | hg634
       ·have h:=ite_t hg634 h
        apply rg (c (fo 1003 0 [0] hN underlying117 0 tyS93 (q 3)) rfl (c (lb hN 117 _ (.func 109 []) tyS93 (At.st1 (f:=(.func 109 [])) (by rfl) (by rfl) (At.here _) (by first | rfl | omega)) (q 29)) rfl (c (fo 1012 3 [1] hN underlying139 3 tyS44 (q 12)) rfl (c (la hN 139 tyS44 (q 31)) rfl (c (fo 1009 0 [0] hN underlying139 0 tyS44 (q 9)) rfl (c (la hN 139 tyS44 (q 33)) rfl (cg (callVal (args:=[(.d (e_aAddr x604.fto)),(.d (e_aAddr s433.2.1.ffrom))]) (caps:=[]) hB fnOk109 [] (addr_Cmp_ac x604.fto s433.2.1.ffrom r633 hr633) (by kernel_rfl) (L rfl) (by kernel_rfl) (by kernel_rfl) (OpdL.cons (q 32) (OpdL.cons (q 34) OpdL.nil))) rfl (c (lss (L rfl) (q 35) (ii 0)) rfl (c (OpJ.val (v':=.d (.bool true)) (by rw [hg634]<;>rfl) (mv hN (q 36))) rfl (ks 37 (L rfl) (ks 37 (L rfl) (ks 37 (L rfl) (ks 37 (L rfl) (ks 37 (L rfl) (ks 37 (L rfl) (ks 37 (L rfl) (ks 37 (L rfl) (c (pickT (L rfl) (q 37) (Opd.bool true)) rfl cn))))))))))))))))))
        exact hjj610 _ h _ _ (mp [] _ _ hB)
       ·have h:=ite_f hg634 h
        obtain⟨r635,hr635,h⟩:=bindS h
        apply rg (c (fo 1003 0 [0] hN underlying117 0 tyS93 (q 3)) rfl (c (lb hN 117 _ (.func 109 []) tyS93 (At.st1 (f:=(.func 109 [])) (by rfl) (by rfl) (At.here _) (by first | rfl | omega)) (q 29)) rfl (c (fo 1012 3 [1] hN underlying139 3 tyS44 (q 12)) rfl (c (la hN 139 tyS44 (q 31)) rfl (c (fo 1009 0 [0] hN underlying139 0 tyS44 (q 9)) rfl (c (la hN 139 tyS44 (q 33)) rfl (cg (callVal (args:=[(.d (e_aAddr x604.fto)),(.d (e_aAddr s433.2.1.ffrom))]) (caps:=[]) hB fnOk109 [] (addr_Cmp_ac x604.fto s433.2.1.ffrom r633 hr633) (by kernel_rfl) (L rfl) (by kernel_rfl) (by kernel_rfl) (OpdL.cons (q 32) (OpdL.cons (q 34) OpdL.nil))) rfl (c (lss (L rfl) (q 35) (ii 0)) rfl (c (OpJ.val (v':=.d (.bool false)) (by rw [hg634]<;>rfl) (mv hN (q 36))) rfl (c (gd 37 (fo 1003 0 [0] hN underlying117 0 tyS93 (q 3))) rfl (c (gd 37 (lb hN 117 _ (.func 109 []) tyS93 (At.st1 (f:=(.func 109 [])) (by rfl) (by rfl) (At.here _) (by first | rfl | omega)) (q 38))) rfl (c (gd 37 (fo 1012 0 [0] hN underlying139 0 tyS44 (q 12))) rfl (c (gd 37 (la hN 139 tyS44 (q 40))) rfl (c (gd 37 (fo 1009 3 [1] hN underlying139 3 tyS44 (q 9))) rfl (c (gd 37 (la hN 139 tyS44 (q 42))) rfl (cg (gd 37 (callVal (args:=[(.d (e_aAddr x604.ffrom)),(.d (e_aAddr s433.2.1.fto))]) (caps:=[]) hB fnOk109 [] (addr_Cmp_ac x604.ffrom s433.2.1.fto r635 hr635) (by kernel_rfl) (L rfl) (by kernel_rfl) (by kernel_rfl) (OpdL.cons (q 41) (OpdL.cons (q 43) OpdL.nil)))) rfl (c (gd 37 (gtr (L rfl) (q 44) (ii 0))) rfl (c (pickF (L rfl) (q 37) (q 45)) rfl cn))))))))))))))))))
        exact hjj610 _ h _ _ (mp [] _ _ hB)
    ·have h:=ite_f hg569 h
     apply AWp.exit
     apply seqQ_e
     obtain rfl:=oi h
     exact⟨(fun hc=>by cases hc),rfl,(mp [] _ _ hB)⟩
   ·obtain⟨rfl,hmat⟩:=hR
    apply blkQ_hit
    apply seqQ_n
    refine AWp.ghost hmat ?_
    apply sr (c (mv hN (q 10)) rfl cn)
    refine gh [(2,_),(3,_),(7,_),(9,_),(17,_),(18,_),(19,_),(94,_)] [(1003,some _),(1009,some _),(3007,some _)] hB rfl rfl (by rfl) ?_
    refine AWp.cut h (fun m640:(List aAddr_)=>([(2,(qe_aAddr__6 a1)),(3,(pt 1003)),(7,(.sref 3007 6 0 m640.length)),(17,(qe_aAddr__6 a0)),(18,(i6 (a0.length:Int))),(19,(i6 s1.1))]:EL)) (fun m640:(List aAddr_)=>([(1003,some (.box 117 (.st [(.func 109 []),(.func 150 []),(.func 151 [])]))),(3007,some (we_aAddr__139_6 m640))]:OL)) (fun m640 h E' O' hmat => ?_) (fun j641 hjj641 h => ?_)
    ·apply blkQ_n
     apply seqQ_n
     refine AWp.ghost hmat ?_
     apply rg (c (add6 (L rfl) (q 19) (ii 1)) rfl (c (mv hN (q 99)) rfl cn))
     obtain rfl:=oi h
     exact⟨rfl,(mp [] _ _ hB)⟩
    ·apply AWp.cond rfl<;>intro hg642
     ·have h:=ite_t hg642 h
      obtain⟨hc643,h⟩:=chk_some h
      apply rg (c (mv hN (q 7)) rfl (c (lb hN 139 _ _ tyS139 (At.here _) (q 9)) rfl (c (buildSlice underlying110 tyS139 tyZD139 (by rfl) (by decide) (by decide) (Opds.cons (q 96) Opds.nil) (by kernel_rfl) (es:=([(e_aAddr_ p568.2.1)]:List D)) (by rfl) (by rfl) (by kernel_rfl) (by simp) (L rfl)) rfl (cg (apd hB underlying110 tyE139 1098 e_aAddr_ p568.2.2 [p568.2.1] hc643 (L rfl) (q 95) (q 97)) rfl (c (assign (L rfl) (q 98)) rfl cn)))))
      exact hjj641 _ h _ _ (mp [(3007,1098)] _ _ hB)
     ·have h:=ite_f hg642 h
      apply AWp.skip
      exact hjj641 _ h _ _ (mp [] _ _ hB)
  ·have h:=ite_f hg431 h
   apply AWp.exit
   apply seqQ_e
   obtain rfl:=oi h
   exact⟨(fun hc=>by cases hc),rfl,(mp [] _ _ hB)⟩
 ·obtain⟨rfl,hmat⟩:=hR
  apply blkQ_hit
  apply seqQ_n
  refine AWp.ghost hmat ?_
  apply sr (c (mv hN (q 7)) rfl (c (assign (L rfl) (q 100)) rfl cn))
  apply AWp.ret
  obtain rfl:=oi h
  exact rt (Mat.trans (Mat.freezeP (n:=3007) (e:=139) (sz:=6) (es:=p430.map e_aAddr_) (Ts:=[(6,(qe_aAddr__6 p430))]) (Bs:=[]) (by rfl) (TwT.cons (x:=(.sref 3007 6 0 p430.length)) (by rfl) (FrzL.all (by first | rfl | (simp;done) | (simp;omega) | omega)) TwT.nil) TwB.nil) (mp [] [(6,(qe_aAddr__6 p430))] [] hB)) [(qe_aAddr__6 p430)] (Res.tmp (by rfl) (by rfl) Res.nil) rfl
def resource_numbers_2 (a0:Int):Option (Int×Bool) :=
 some ((w64 (a0-1)),(decide (0<a0)))
theorem resource_numbers_2_ac (a0:Int) (r:Int×Bool) (h:resource_numbers_2 a0=some r):AC Tryz.prog 153 [(.d (.int .i64 a0))] [] (.tup [(.d (.int .i64 r.1)),(.d (.bool r.2))]) []:=by
 refine AC.of_code2 Tryz.func153 rfl rfl (Nat.le_of_ble_eq_true (by rfl)) fun B hB hN => ?_
 delta resource_numbers_2 at h
 apply sr (c (assign (ltN hN rfl) (ii 0)) rfl (c (assign (ltN hN rfl) (Opd.bool false)) rfl cn))
 apply sr (c (mv hN (q 0)) rfl (c (sub6 (ltN hN rfl) (q 4) (ii 1)) rfl (c (mv hN (q 0)) rfl (c (gtr (ltN hN rfl) (q 6) (ii 0)) rfl (c (assign (ltN hN rfl) (q 5)) rfl (c (assign (ltN hN rfl) (q 7)) rfl cn))))))
 apply AWp.ret
 obtain rfl:=oi h
 exact rt (kp [(2,_),(3,_)] [] hB rfl rfl (by rfl)) [(i6 (w64 (a0-1))),(bo (decide (0<a0)))] (Res.tmp (by rfl) (by rfl) (Res.tmp (by rfl) (by rfl) Res.nil)) rfl
def resource_order_minus_2_L1 (a1:(List resource_part_int_)) (s433:Int×resource_part_int_×(List resource_part_int_)):Option (((Bool×resource_part_int_×(List resource_part_int_)))⊕(Int×resource_part_int_×(List resource_part_int_))) :=
 (if (decide (s433.1<(a1.length:Int)))=true then
 jn (fun m602:resource_part_int_×(List resource_part_int_) =>
 some (.inr ((w64 (s433.1+1)),m602.1,m602.2))) (fun j603 =>
 (idx a1 s433.1).bind fun x604 =>
 jn (fun m609:Bool =>
 (if m609=true then
 j603 (s433.2.1,s433.2.2)
 else
 (resource_numbers_2 x604.ffrom).bind fun r612 =>
 jn (fun m615:Bool =>
 jn (fun m619:(List resource_part_int_) =>
 (resource_numbers_1 x604.fto).bind fun r621 =>
 jn (fun m624:Bool =>
 (if m624=true then
 some (.inl (false,s433.2.1,m619))
 else
 j603 ((resource_part_int_.mk r621.1 s433.2.1.fto),m619))) (fun j625 =>
 (if (!r621.2)=true then
 j625 true
 else
 (cmp_Compare r621.1 s433.2.1.fto).bind fun r628 =>
 j625 (decide (0<r628))))) (fun j620 =>
 (if m615=true then
 chk (decide ((s433.2.2++[(resource_part_int_.mk s433.2.1.ffrom r612.1)]).length≤LIM)) <|
 j620 (s433.2.2++[(resource_part_int_.mk s433.2.1.ffrom r612.1)])
 else
 j620 s433.2.2))) (fun j616 =>
 (if r612.2=true then
 (cmp_Compare s433.2.1.ffrom r612.1).bind fun r632 =>
 j616 (decide (r632≤0))
 else
 j616 false)))) (fun j610 =>
 (cmp_Compare x604.fto s433.2.1.ffrom).bind fun r633 =>
 (if (decide (r633<0))=true then
 j610 true
 else
 (cmp_Compare x604.ffrom s433.2.1.fto).bind fun r635 =>
 j610 (decide (0<r635)))))
 else
 some (.inl (true,s433.2.1,s433.2.2)))
def resource_order_minus_2_L0 (a0:(List resource_part_int_)) (a1:(List resource_part_int_)) (s1:Int×(List resource_part_int_)):Option ((((List resource_part_int_)))⊕(Int×(List resource_part_int_))) :=
 (if (decide (s1.1<(a0.length:Int)))=true then
 (idx a0 s1.1).bind fun x432 =>
 (loop (resource_order_minus_2_L1 a1) (0,x432,s1.2)).bind fun p568 =>
 jn (fun m640:(List resource_part_int_) =>
 some (.inr ((w64 (s1.1+1)),m640))) (fun j641 =>
 (if p568.1=true then
 chk (decide ((p568.2.2++[p568.2.1]).length≤LIM)) <|
 j641 (p568.2.2++[p568.2.1])
 else
 j641 p568.2.2))
 else
 some (.inl s1.2))
def resource_order_minus_2 (a0:(List resource_part_int_)) (a1:(List resource_part_int_)):Option ((List resource_part_int_)) :=
 (loop (resource_order_minus_2_L0 a0 a1) (0,([]:List resource_part_int_))).bind fun p430 =>
 some p430
theorem resource_order_minus_2_ac (a0:(List resource_part_int_)) (a1:(List resource_part_int_)) (r:(List resource_part_int_)) (h:resource_order_minus_2 a0 a1=some r):AC Tryz.prog 104 [(.st [(.func 98 []),(.func 152 []),(.func 153 [])]),(.d (.list 2 (a0.map e_resource_part_int_))),(.d (.list 2 (a1.map e_resource_part_int_)))] [] (.d (.list 2 (r.map e_resource_part_int_))) []:=by
 refine ac2 Tryz.func104 rfl rfl fun B hB hN L => ?_
 delta resource_order_minus_2 at h
 apply sr (cg (OpJ.box hB (nm:=1003) (by decide) (by simp) rfl (L rfl) (q 0)) rfl (c (assign (L rfl) Opd.nils) rfl cn))
 apply sr (c (assign (L rfl) Opd.nils) rfl cn)
 apply AWp.seq
 apply sr (c (mv hN (q 1)) rfl (c (OpJ.val (v':=(i6 (a0.length:Int))) (by simp) (lenD underlying111 (L rfl) (q 17))) rfl (c (mv hN (ii 0)) rfl cn)))
 apply AWp.block
 obtain⟨p430,hx645,h⟩:=bindS h
 refine lg (resource_order_minus_2_L0 a0 a1) (fun s1:Int×(List resource_part_int_)=>([(2,(.d (.list 2 (a1.map e_resource_part_int_)))),(3,(pt 1003)),(7,(.sref 3007 2 0 s1.2.length)),(17,(.d (.list 2 (a0.map e_resource_part_int_)))),(18,(i6 (a0.length:Int))),(19,(i6 s1.1))]:EL)) (fun s1:Int×(List resource_part_int_)=>([(1003,some (.box 121 (.st [(.func 98 []),(.func 152 []),(.func 153 [])]))),(3007,some (.row 141 2 (s1.2.map e_resource_part_int_)))]:OL)) (fun(p430:((List resource_part_int_))) e E' O'=>e = .exit 0∧Mat B E' O' ([(7,(.sref 3007 2 0 p430.length))]:EL) ([(3007,some (.row 141 2 (p430.map e_resource_part_int_)))]:OL)) hx645 (Mat.trans (Mat.beginP (n:=3007) (e:=141) (sz:=2) (Ts:=[(7,(.sref 3007 2 0 0))]) (Bs:=[]) hB (by decide) (by rfl) (by decide) (TwT.cons (x:=.nils) (by rfl) (Tw.leaf ⟨rfl,rfl⟩) TwT.nil) TwB.nil) (mp [] _ _ hB)) (fun s1 y h => ?_) (fun e E' O' hR => ?_)
 ·unfold resource_order_minus_2_L0 at h
  apply sr (c (lss (L rfl) (q 19) (q 18)) rfl cn)
  apply AWp.seq
  apply AWp.cond rfl<;>intro hg431
  ·have h:=ite_t hg431 h
   apply AWp.skip
   apply seqQ_n
   apply AWp.seq
   apply AWp.block
   obtain⟨x432,hx432,h⟩:=bindS h
   apply sr (c (indexD underlying111 tyS141 (idx_some hx432).1 (get_map e_resource_part_int_ (idx_some hx432).2) (L rfl) (q 17) (q 19)) rfl (c (loadD tyS141 (by rfl) (by rfl) (L rfl) (q 21)) rfl (cg (alloc hB tyZ141 (nm:=1009) (by decide) (L rfl)) rfl (cg (sB tyS141 (q 9) (q 22)) rfl cn))))
   apply sr (c (assign (L rfl) (Opd.bool true)) rfl cn)
   apply AWp.seq
   apply sr (c (mv hN (q 2)) rfl (c (OpJ.val (v':=(i6 (a1.length:Int))) (by simp) (lenD underlying111 (L rfl) (q 23))) rfl (c (mv hN (ii 0)) rfl cn)))
   apply AWp.block
   obtain⟨p568,hx637,h⟩:=bindS h
   refine lg (resource_order_minus_2_L1 a1) (fun s433:Int×resource_part_int_×(List resource_part_int_)=>([(2,(.d (.list 2 (a1.map e_resource_part_int_)))),(3,(pt 1003)),(7,(.sref 3007 2 0 s433.2.2.length)),(9,(pt 1009)),(10,(bo true)),(17,(.d (.list 2 (a0.map e_resource_part_int_)))),(18,(i6 (a0.length:Int))),(19,(i6 s1.1)),(23,(.d (.list 2 (a1.map e_resource_part_int_)))),(24,(i6 (a1.length:Int))),(25,(i6 s433.1))]:EL)) (fun s433:Int×resource_part_int_×(List resource_part_int_)=>([(1003,some (.box 121 (.st [(.func 98 []),(.func 152 []),(.func 153 [])]))),(1009,bd 141 (e_resource_part_int_ s433.2.1)),(3007,some (.row 141 2 (s433.2.2.map e_resource_part_int_)))]:OL)) (fun(p568:(Bool×resource_part_int_×(List resource_part_int_))) e E' O'=>e = .exit 2∧Mat B E' O' ([(2,(.d (.list 2 (a1.map e_resource_part_int_)))),(3,(pt 1003)),(7,(.sref 3007 2 0 p568.2.2.length)),(9,(pt 1009)),(10,(bo p568.1)),(17,(.d (.list 2 (a0.map e_resource_part_int_)))),(18,(i6 (a0.length:Int))),(19,(i6 s1.1))]:EL) ([(1003,some (.box 121 (.st [(.func 98 []),(.func 152 []),(.func 153 [])]))),(1009,bd 141 (e_resource_part_int_ p568.2.1)),(3007,some (.row 141 2 (p568.2.2.map e_resource_part_int_)))]:OL)) hx637 (mp [] _ _ hB) (fun s433 y h => ?_) (fun e E' O' hR => ?_)
   ·unfold resource_order_minus_2_L1 at h
    apply sr (c (lss (L rfl) (q 25) (q 24)) rfl cn)
    apply AWp.seq
    apply AWp.cond rfl<;>intro hg569
    ·have h:=ite_t hg569 h
     apply AWp.skip
     apply seqQ_n
     apply AWp.seq
     refine AWp.cut h (fun m602:resource_part_int_×(List resource_part_int_)=>([(2,(.d (.list 2 (a1.map e_resource_part_int_)))),(3,(pt 1003)),(7,(.sref 3007 2 0 m602.2.length)),(9,(pt 1009)),(10,(bo true)),(17,(.d (.list 2 (a0.map e_resource_part_int_)))),(18,(i6 (a0.length:Int))),(19,(i6 s1.1)),(23,(.d (.list 2 (a1.map e_resource_part_int_)))),(24,(i6 (a1.length:Int))),(25,(i6 s433.1))]:EL)) (fun m602:resource_part_int_×(List resource_part_int_)=>([(1003,some (.box 121 (.st [(.func 98 []),(.func 152 []),(.func 153 [])]))),(1009,bd 141 (e_resource_part_int_ m602.1)),(3007,some (.row 141 2 (m602.2.map e_resource_part_int_)))]:OL)) (fun m602 h E' O' hmat => ?_) (fun j603 hjj603 h => ?_)
     ·apply seqQ_n
      refine AWp.ghost hmat ?_
      apply rg (c (add6 (L rfl) (q 25) (ii 1)) rfl (c (mv hN (q 93)) rfl cn))
      obtain rfl:=oi h
      exact⟨rfl,(mp [] _ _ hB)⟩
     ·apply AWp.block
      obtain⟨x604,hx604,h⟩:=bindS h
      apply sr (c (indexD underlying111 tyS141 (idx_some hx604).1 (get_map e_resource_part_int_ (idx_some hx604).2) (L rfl) (q 23) (q 25)) rfl (c (loadD tyS141 (by rfl) (by rfl) (L rfl) (q 27)) rfl (cg (alloc hB tyZ141 (nm:=1012) (by decide) (L rfl)) rfl (cg (sB tyS141 (q 12) (q 28)) rfl cn))))
      apply AWp.seq
      apply AWp.seq
      refine AWp.cut h (fun m609:Bool=>([(2,(.d (.list 2 (a1.map e_resource_part_int_)))),(3,(pt 1003)),(7,(.sref 3007 2 0 s433.2.2.length)),(9,(pt 1009)),(10,(bo true)),(12,(pt 1012)),(17,(.d (.list 2 (a0.map e_resource_part_int_)))),(18,(i6 (a0.length:Int))),(19,(i6 s1.1)),(23,(.d (.list 2 (a1.map e_resource_part_int_)))),(24,(i6 (a1.length:Int))),(25,(i6 s433.1)),(46,(bo m609))]:EL)) (fun m609:Bool=>([(1003,some (.box 121 (.st [(.func 98 []),(.func 152 []),(.func 153 [])]))),(1009,bd 141 (e_resource_part_int_ s433.2.1)),(1012,bd 141 (e_resource_part_int_ x604)),(3007,some (.row 141 2 (s433.2.2.map e_resource_part_int_)))]:OL)) (fun m609 h E' O' hmat => ?_) (fun j610 hjj610 h => ?_)
      ·apply seqQ_n
       refine AWp.ghost hmat ?_
       apply AWp.cond rfl<;>intro hg611
       ·have h:=ite_t hg611 h
        apply AWp.exit
        apply seqQ_e
        apply blkQ_hit
        exact hjj603 _ h _ _ (mp [] _ _ hB)
       ·have h:=ite_f hg611 h
        apply AWp.skip
        apply seqQ_n
        apply AWp.seq
        obtain⟨r612,hr612,h⟩:=bindS h
        apply sr (c (fo 1003 2 [2] hN underlying121 2 tyS119 (q 3)) rfl (c (lb hN 121 _ (.func 153 []) tyS119 (At.st1 (f:=(.func 153 [])) (by rfl) (by rfl) (At.here _) (by first | rfl | omega)) (q 48)) rfl (c (fo 1012 0 [0] hN underlying141 0 tyS3 (q 12)) rfl (c (la hN 141 tyS3 (q 50)) rfl (cg (callVal (args:=[(i6 x604.ffrom)]) (caps:=[]) hB fnOk153 [] (resource_numbers_2_ac x604.ffrom r612 hr612) (by kernel_rfl) (L rfl) (by kernel_rfl) (by kernel_rfl) (OpdL.cons (q 51) OpdL.nil)) rfl (c (mv hN (q 52)) rfl (c (extract (by rfl) rfl (L rfl) (q 47)) rfl (c (extract (by rfl) rfl (L rfl) (q 47)) rfl (c (assign (L rfl) (q 53)) rfl (c (assign (L rfl) (q 54)) rfl cn))))))))))
        apply AWp.seq
        refine AWp.cut h (fun m615:Bool=>([(2,(.d (.list 2 (a1.map e_resource_part_int_)))),(3,(pt 1003)),(7,(.sref 3007 2 0 s433.2.2.length)),(9,(pt 1009)),(10,(bo true)),(12,(pt 1012)),(13,(i6 r612.1)),(17,(.d (.list 2 (a0.map e_resource_part_int_)))),(18,(i6 (a0.length:Int))),(19,(i6 s1.1)),(23,(.d (.list 2 (a1.map e_resource_part_int_)))),(24,(i6 (a1.length:Int))),(25,(i6 s433.1)),(64,(bo m615))]:EL)) (fun m615:Bool=>([(1003,some (.box 121 (.st [(.func 98 []),(.func 152 []),(.func 153 [])]))),(1009,bd 141 (e_resource_part_int_ s433.2.1)),(1012,bd 141 (e_resource_part_int_ x604)),(3007,some (.row 141 2 (s433.2.2.map e_resource_part_int_)))]:OL)) (fun m615 h E' O' hmat => ?_) (fun j616 hjj616 h => ?_)
        ·apply seqQ_n
         refine AWp.ghost hmat ?_
         refine AWp.cut h (fun m619:(List resource_part_int_)=>([(2,(.d (.list 2 (a1.map e_resource_part_int_)))),(3,(pt 1003)),(7,(.sref 3007 2 0 m619.length)),(9,(pt 1009)),(10,(bo true)),(12,(pt 1012)),(17,(.d (.list 2 (a0.map e_resource_part_int_)))),(18,(i6 (a0.length:Int))),(19,(i6 s1.1)),(23,(.d (.list 2 (a1.map e_resource_part_int_)))),(24,(i6 (a1.length:Int))),(25,(i6 s433.1))]:EL)) (fun m619:(List resource_part_int_)=>([(1003,some (.box 121 (.st [(.func 98 []),(.func 152 []),(.func 153 [])]))),(1009,bd 141 (e_resource_part_int_ s433.2.1)),(1012,bd 141 (e_resource_part_int_ x604)),(3007,some (.row 141 2 (m619.map e_resource_part_int_)))]:OL)) (fun m619 h E' O' hmat => ?_) (fun j620 hjj620 h => ?_)
         ·apply seqQ_n
          refine AWp.ghost hmat ?_
          obtain⟨r621,hr621,h⟩:=bindS h
          apply sr (c (fo 1003 1 [1] hN underlying121 1 tyS119 (q 3)) rfl (c (lb hN 121 _ (.func 152 []) tyS119 (At.st1 (f:=(.func 152 [])) (by rfl) (by rfl) (At.here _) (by first | rfl | omega)) (q 73)) rfl (c (fo 1012 1 [1] hN underlying141 1 tyS3 (q 12)) rfl (c (la hN 141 tyS3 (q 75)) rfl (cg (callVal (args:=[(i6 x604.fto)]) (caps:=[]) hB fnOk152 [] (resource_numbers_1_ac x604.fto r621 hr621) (by kernel_rfl) (L rfl) (by kernel_rfl) (by kernel_rfl) (OpdL.cons (q 76) OpdL.nil)) rfl (c (mv hN (q 77)) rfl (c (extract (by rfl) rfl (L rfl) (q 72)) rfl (c (extract (by rfl) rfl (L rfl) (q 72)) rfl (c (assign (L rfl) (q 78)) rfl (c (assign (L rfl) (q 79)) rfl cn))))))))))
          apply AWp.seq
          apply AWp.seq
          refine AWp.cut h (fun m624:Bool=>([(2,(.d (.list 2 (a1.map e_resource_part_int_)))),(3,(pt 1003)),(7,(.sref 3007 2 0 m619.length)),(9,(pt 1009)),(10,(bo true)),(15,(i6 r621.1)),(17,(.d (.list 2 (a0.map e_resource_part_int_)))),(18,(i6 (a0.length:Int))),(19,(i6 s1.1)),(23,(.d (.list 2 (a1.map e_resource_part_int_)))),(24,(i6 (a1.length:Int))),(25,(i6 s433.1)),(90,(bo m624))]:EL)) (fun m624:Bool=>([(1003,some (.box 121 (.st [(.func 98 []),(.func 152 []),(.func 153 [])]))),(1009,bd 141 (e_resource_part_int_ s433.2.1)),(3007,some (.row 141 2 (m619.map e_resource_part_int_)))]:OL)) (fun m624 h E' O' hmat => ?_) (fun j625 hjj625 h => ?_)
          ·apply seqQ_n
           refine AWp.ghost hmat ?_
           apply AWp.cond rfl<;>intro hg626
           ·have h:=ite_t hg626 h
            apply sr (c (assign (L rfl) (Opd.bool false)) rfl cn)
            refine gh [(2,_),(3,_),(7,_),(9,_),(10,_),(17,_),(18,_),(19,_)] [(1003,some _),(1009,some _),(3007,some _)] hB rfl rfl (by rfl) ?_
            apply AWp.exit
            apply seqQ_e
            refine blkQ_miss (by rfl) ?_
            apply seqQ_e
            obtain rfl:=oi h
            exact⟨(fun hc=>by cases hc),rfl,(mp [] _ _ hB)⟩
           ·have h:=ite_f hg626 h
            apply AWp.skip
            apply seqQ_n
            apply rg (c (mv hN (q 15)) rfl (c (fo 1009 0 [0] hN underlying141 0 tyS3 (q 9)) rfl (cg (OpJ.storeB tyS3 (SetAt.dst1 (by rfl) (by rfl) (SetAt.here _ _) (by rfl) (by rfl) (by first | rfl | omega)) (by rfl) (by rfl) (by simp) rfl (q 92) (q 91)) rfl cn)))
            apply blkQ_n
            exact hjj603 _ h _ _ (mp [] _ _ hB)
          ·rcases bft (!r621.2) with hg627 | hg627
           ·have h:=ite_t hg627 h
            apply rg (c (mv hN (q 16)) rfl (c (OpJ.not (L rfl) (q 80)) rfl (c (OpJ.val (v':=.d (.bool true)) (by rw [hg627]<;>rfl) (mv hN (q 81))) rfl (ks 82 (L rfl) (ks 82 (L rfl) (ks 82 (L rfl) (ks 82 (L rfl) (ks 82 (L rfl) (ks 82 (L rfl) (ks 82 (L rfl) (c (pickT (L rfl) (q 82) (Opd.bool true)) rfl cn)))))))))))
            exact hjj625 _ h _ _ (mp [] _ _ hB)
           ·have h:=ite_f hg627 h
            obtain⟨r628,hr628,h⟩:=bindS h
            apply rg (c (mv hN (q 16)) rfl (c (OpJ.not (L rfl) (q 80)) rfl (c (OpJ.val (v':=.d (.bool false)) (by rw [hg627]<;>rfl) (mv hN (q 81))) rfl (c (gd 82 (fo 1003 0 [0] hN underlying121 0 tyS53 (q 3))) rfl (c (gd 82 (lb hN 121 _ (.func 98 []) tyS53 (At.st1 (f:=(.func 98 [])) (by rfl) (by rfl) (At.here _) (by first | rfl | omega)) (q 83))) rfl (c (gd 82 (mv hN (q 15))) rfl (c (gd 82 (fo 1009 1 [1] hN underlying141 1 tyS3 (q 9))) rfl (c (gd 82 (la hN 141 tyS3 (q 86))) rfl (cg (gd 82 (callVal (args:=[(i6 r621.1),(i6 s433.2.1.fto)]) (caps:=[]) hB fnOk98 [] (cmp_Compare_ac r621.1 s433.2.1.fto r628 hr628) (by kernel_rfl) (L rfl) (by kernel_rfl) (by kernel_rfl) (OpdL.cons (q 85) (OpdL.cons (q 87) OpdL.nil)))) rfl (c (gd 82 (gtr (L rfl) (q 88) (ii 0))) rfl (c (pickF (L rfl) (q 82) (q 89)) rfl cn)))))))))))
            exact hjj625 _ h _ _ (mp [] _ _ hB)
         ·apply AWp.cond rfl<;>intro hg629
          ·have h:=ite_t hg629 h
           obtain⟨hc630,h⟩:=chk_some h
           apply rg (c (mv hN (q 7)) rfl (c (fo 1009 0 [0] hN underlying141 0 tyS3 (q 9)) rfl (c (la hN 141 tyS3 (q 66)) rfl (c (mv hN (q 13)) rfl (c (OpJ.coe (v:=(.st [(i6 s433.2.1.ffrom),(i6 r612.1)])) (y:=(.st [(.int .i64 s433.2.1.ffrom),(.int .i64 r612.1)])) (Co.st (CoL.cons (Co.d _) (CoL.cons (Co.d _) CoL.nil))) rfl (OpJ.build (places:=[(0,1),(1,1)]) ⟨underlying141,fun w=>by kernel_rfl⟩ tyZS141 (Opds.cons (q 67) (Opds.cons (q 68) Opds.nil)) (by kernel_rfl) (r:=(.st [(i6 s433.2.1.ffrom),(i6 r612.1)])) (by rfl) (L rfl))) rfl (c (buildSlice underlying111 tyS141 tyZD141 (by rfl) (by decide) (by decide) (Opds.cons (q 69) Opds.nil) (by kernel_rfl) (es:=([(.st [(.int .i64 s433.2.1.ffrom),(.int .i64 r612.1)])]:List D)) (by rfl) (by rfl) (by kernel_rfl) (by simp) (L rfl)) rfl (cg (apd hB underlying111 tyE141 1071 e_resource_part_int_ s433.2.2 [(resource_part_int_.mk s433.2.1.ffrom r612.1)] hc630 (L rfl) (q 65) (q 70)) rfl (c (assign (L rfl) (q 71)) rfl cn))))))))
           exact hjj620 _ h _ _ (mp [(3007,1071)] _ _ hB)
          ·have h:=ite_f hg629 h
           apply AWp.skip
           exact hjj620 _ h _ _ (mp [] _ _ hB)
        ·rcases bft r612.2 with hg631 | hg631
         ·have h:=ite_t hg631 h
          obtain⟨r632,hr632,h⟩:=bindS h
          apply rg (c (mv hN (q 14)) rfl (c (OpJ.val (v':=.d (.bool true)) (by rw [hg631]<;>rfl) (mv hN (q 55))) rfl (c (gd 56 (fo 1003 0 [0] hN underlying121 0 tyS53 (q 3))) rfl (c (gd 56 (lb hN 121 _ (.func 98 []) tyS53 (At.st1 (f:=(.func 98 [])) (by rfl) (by rfl) (At.here _) (by first | rfl | omega)) (q 57))) rfl (c (gd 56 (fo 1009 0 [0] hN underlying141 0 tyS3 (q 9))) rfl (c (gd 56 (la hN 141 tyS3 (q 59))) rfl (c (gd 56 (mv hN (q 13))) rfl (cg (gd 56 (callVal (args:=[(i6 s433.2.1.ffrom),(i6 r612.1)]) (caps:=[]) hB fnOk98 [] (cmp_Compare_ac s433.2.1.ffrom r612.1 r632 hr632) (by kernel_rfl) (L rfl) (by kernel_rfl) (by kernel_rfl) (OpdL.cons (q 60) (OpdL.cons (q 61) OpdL.nil)))) rfl (c (gd 56 (leq (L rfl) (q 62) (ii 0))) rfl (c (pickT (L rfl) (q 56) (q 63)) rfl cn))))))))))
          exact hjj616 _ h _ _ (mp [] _ _ hB)
         ·have h:=ite_f hg631 h
          apply rg (c (mv hN (q 14)) rfl (c (OpJ.val (v':=.d (.bool false)) (by rw [hg631]<;>rfl) (mv hN (q 55))) rfl (ks 56 (L rfl) (ks 56 (L rfl) (ks 56 (L rfl) (ks 56 (L rfl) (ks 56 (L rfl) (ks 56 (L rfl) (ks 56 (L rfl) (c (pickF (L rfl) (q 56) (Opd.bool false)) rfl cn))))))))))
          exact hjj616 _ h _ _ (mp [] _ _ hB)
      ·obtain⟨r633,hr633,h⟩:=bindS h
       rcases bft (decide (r633<0)) with hg634 | hg634
       ·have h:=ite_t hg634 h
        apply rg (c (fo 1003 0 [0] hN underlying121 0 tyS53 (q 3)) rfl (c (lb hN 121 _ (.func 98 []) tyS53 (At.st1 (f:=(.func 98 [])) (by rfl) (by rfl) (At.here _) (by first | rfl | omega)) (q 29)) rfl (c (fo 1012 1 [1] hN underlying141 1 tyS3 (q 12)) rfl (c (la hN 141 tyS3 (q 31)) rfl (c (fo 1009 0 [0] hN underlying141 0 tyS3 (q 9)) rfl (c (la hN 141 tyS3 (q 33)) rfl (cg (callVal (args:=[(i6 x604.fto),(i6 s433.2.1.ffrom)]) (caps:=[]) hB fnOk98 [] (cmp_Compare_ac x604.fto s433.2.1.ffrom r633 hr633) (by kernel_rfl) (L rfl) (by kernel_rfl) (by kernel_rfl) (OpdL.cons (q 32) (OpdL.cons (q 34) OpdL.nil))) rfl (c (lss (L rfl) (q 35) (ii 0)) rfl (c (OpJ.val (v':=.d (.bool true)) (by rw [hg634]<;>rfl) (mv hN (q 36))) rfl (ks 37 (L rfl) (ks 37 (L rfl) (ks 37 (L rfl) (ks 37 (L rfl) (ks 37 (L rfl) (ks 37 (L rfl) (ks 37 (L rfl) (ks 37 (L rfl) (c (pickT (L rfl) (q 37) (Opd.bool true)) rfl cn))))))))))))))))))
        exact hjj610 _ h _ _ (mp [] _ _ hB)
       ·have h:=ite_f hg634 h
        obtain⟨r635,hr635,h⟩:=bindS h
        apply rg (c (fo 1003 0 [0] hN underlying121 0 tyS53 (q 3)) rfl (c (lb hN 121 _ (.func 98 []) tyS53 (At.st1 (f:=(.func 98 [])) (by rfl) (by rfl) (At.here _) (by first | rfl | omega)) (q 29)) rfl (c (fo 1012 1 [1] hN underlying141 1 tyS3 (q 12)) rfl (c (la hN 141 tyS3 (q 31)) rfl (c (fo 1009 0 [0] hN underlying141 0 tyS3 (q 9)) rfl (c (la hN 141 tyS3 (q 33)) rfl (cg (callVal (args:=[(i6 x604.fto),(i6 s433.2.1.ffrom)]) (caps:=[]) hB fnOk98 [] (cmp_Compare_ac x604.fto s433.2.1.ffrom r633 hr633) (by kernel_rfl) (L rfl) (by kernel_rfl) (by kernel_rfl) (OpdL.cons (q 32) (OpdL.cons (q 34) OpdL.nil))) rfl (c (lss (L rfl) (q 35) (ii 0)) rfl (c (OpJ.val (v':=.d (.bool false)) (by rw [hg634]<;>rfl) (mv hN (q 36))) rfl (c (gd 37 (fo 1003 0 [0] hN underlying121 0 tyS53 (q 3))) rfl (c (gd 37 (lb hN 121 _ (.func 98 []) tyS53 (At.st1 (f:=(.func 98 [])) (by rfl) (by rfl) (At.here _) (by first | rfl | omega)) (q 38))) rfl (c (gd 37 (fo 1012 0 [0] hN underlying141 0 tyS3 (q 12))) rfl (c (gd 37 (la hN 141 tyS3 (q 40))) rfl (c (gd 37 (fo 1009 1 [1] hN underlying141 1 tyS3 (q 9))) rfl (c (gd 37 (la hN 141 tyS3 (q 42))) rfl (cg (gd 37 (callVal (args:=[(i6 x604.ffrom),(i6 s433.2.1.fto)]) (caps:=[]) hB fnOk98 [] (cmp_Compare_ac x604.ffrom s433.2.1.fto r635 hr635) (by kernel_rfl) (L rfl) (by kernel_rfl) (by kernel_rfl) (OpdL.cons (q 41) (OpdL.cons (q 43) OpdL.nil)))) rfl (c (gd 37 (gtr (L rfl) (q 44) (ii 0))) rfl (c (pickF (L rfl) (q 37) (q 45)) rfl cn))))))))))))))))))
        exact hjj610 _ h _ _ (mp [] _ _ hB)
    ·have h:=ite_f hg569 h
     apply AWp.exit
     apply seqQ_e
     obtain rfl:=oi h
     exact⟨(fun hc=>by cases hc),rfl,(mp [] _ _ hB)⟩
   ·obtain⟨rfl,hmat⟩:=hR
    apply blkQ_hit
    apply seqQ_n
    refine AWp.ghost hmat ?_
    apply sr (c (mv hN (q 10)) rfl cn)
    refine gh [(2,_),(3,_),(7,_),(9,_),(17,_),(18,_),(19,_),(94,_)] [(1003,some _),(1009,some _),(3007,some _)] hB rfl rfl (by rfl) ?_
    refine AWp.cut h (fun m640:(List resource_part_int_)=>([(2,(.d (.list 2 (a1.map e_resource_part_int_)))),(3,(pt 1003)),(7,(.sref 3007 2 0 m640.length)),(17,(.d (.list 2 (a0.map e_resource_part_int_)))),(18,(i6 (a0.length:Int))),(19,(i6 s1.1))]:EL)) (fun m640:(List resource_part_int_)=>([(1003,some (.box 121 (.st [(.func 98 []),(.func 152 []),(.func 153 [])]))),(3007,some (.row 141 2 (m640.map e_resource_part_int_)))]:OL)) (fun m640 h E' O' hmat => ?_) (fun j641 hjj641 h => ?_)
    ·apply blkQ_n
     apply seqQ_n
     refine AWp.ghost hmat ?_
     apply rg (c (add6 (L rfl) (q 19) (ii 1)) rfl (c (mv hN (q 99)) rfl cn))
     obtain rfl:=oi h
     exact⟨rfl,(mp [] _ _ hB)⟩
    ·apply AWp.cond rfl<;>intro hg642
     ·have h:=ite_t hg642 h
      obtain⟨hc643,h⟩:=chk_some h
      apply rg (c (mv hN (q 7)) rfl (c (lb hN 141 _ _ tyS141 (At.here _) (q 9)) rfl (c (buildSlice underlying111 tyS141 tyZD141 (by rfl) (by decide) (by decide) (Opds.cons (q 96) Opds.nil) (by kernel_rfl) (es:=([(e_resource_part_int_ p568.2.1)]:List D)) (by rfl) (by rfl) (by kernel_rfl) (by simp) (L rfl)) rfl (cg (apd hB underlying111 tyE141 1098 e_resource_part_int_ p568.2.2 [p568.2.1] hc643 (L rfl) (q 95) (q 97)) rfl (c (assign (L rfl) (q 98)) rfl cn)))))
      exact hjj641 _ h _ _ (mp [(3007,1098)] _ _ hB)
     ·have h:=ite_f hg642 h
      apply AWp.skip
      exact hjj641 _ h _ _ (mp [] _ _ hB)
  ·have h:=ite_f hg431 h
   apply AWp.exit
   apply seqQ_e
   obtain rfl:=oi h
   exact⟨(fun hc=>by cases hc),rfl,(mp [] _ _ hB)⟩
 ·obtain⟨rfl,hmat⟩:=hR
  apply blkQ_hit
  apply seqQ_n
  refine AWp.ghost hmat ?_
  apply sr (c (mv hN (q 7)) rfl (c (assign (L rfl) (q 100)) rfl cn))
  apply AWp.ret
  obtain rfl:=oi h
  exact rt (Mat.trans (Mat.freezeP (n:=3007) (e:=141) (sz:=2) (es:=p430.map e_resource_part_int_) (Ts:=[(6,(.d (.list 2 (p430.map e_resource_part_int_))))]) (Bs:=[]) (by rfl) (TwT.cons (x:=(.sref 3007 2 0 p430.length)) (by rfl) (FrzL.all (by first | rfl | (simp;done) | (simp;omega) | omega)) TwT.nil) TwB.nil) (mp [] [(6,(.d (.list 2 (p430.map e_resource_part_int_))))] [] hB)) [(.d (.list 2 (p430.map e_resource_part_int_)))] (Res.tmp (by rfl) (by rfl) Res.nil) rfl
def resource_set_minus (a0:resource_set) (a1:resource_set):Option (resource_set) :=
 (resource_order_minus a0.faddrs a1.faddrs).bind fun r1 =>
 (resource_order_minus_2 a0.fasns a1.fasns).bind fun r2 =>
 some (resource_set.mk r1 r2)
theorem resource_set_minus_ac (a0:resource_set) (a1:resource_set) (r:resource_set) (h:resource_set_minus a0 a1=some r):AC Tryz.prog 86 [(.d (e_resource_set a0)),(.d (e_resource_set a1))] [(500,(.know (globF 0 [109,150,151]))),(501,(.know (globF 1 [98,152,153])))] (.d (e_resource_set r)) [(500,some (.know (globF 0 [109,150,151]))),(501,some (.know (globF 1 [98,152,153])))]:=by
 refine AC.of_code2 Tryz.func86 rfl rfl (Nat.le_of_ble_eq_true (by rfl)) fun B hB hN => ?_
 delta resource_set_minus at h
 apply sr (cg (OpJ.box hB (nm:=1002) (by decide) (by simp) rfl (ltN hN rfl) (q 0)) rfl (cg (OpJ.box hB (nm:=1003) (by decide) (by simp) rfl (ltN hN rfl) (q 1)) rfl (cg (alloc hB tyZ113 (nm:=1004) (by decide) (ltN hN rfl)) rfl cn)))
 obtain⟨r1,hr1,h⟩:=bindS h
 obtain⟨r2,hr2,h⟩:=bindS h
 apply sd (cg (OpJ.loadG (nm:=500) [109,150,151] tyS117 rfl (ltN hN rfl)) rfl (c (fo 1002 0 [0] hN underlying113 0 tyS110 (q 2)) rfl (c (la hN 113 tyS110 (q 6)) rfl (c (fo 1003 0 [0] hN underlying113 0 tyS110 (q 3)) rfl (c (la hN 113 tyS110 (q 8)) rfl (cg (OpJ.callFn hB fnOk103 (resource_order_minus_ac a0.faddrs a1.faddrs r1 hr1) [] (by kernel_rfl) (ltN hN rfl) (by kernel_rfl) (OpdL.cons (q 5) (OpdL.cons (q 7) (OpdL.cons (q 9) OpdL.nil)))) rfl (cg (OpJ.loadG (nm:=501) [98,152,153] tyS121 rfl (ltN hN rfl)) rfl (c (fo 1002 1 [1] hN underlying113 1 tyS111 (q 2)) rfl (c (la hN 113 tyS111 (q 12)) rfl (c (fo 1003 1 [1] hN underlying113 1 tyS111 (q 3)) rfl (c (la hN 113 tyS111 (q 14)) rfl (cg (OpJ.callFn hB fnOk104 (resource_order_minus_2_ac a0.fasns a1.fasns r2 hr2) [] (by kernel_rfl) (ltN hN rfl) (by kernel_rfl) (OpdL.cons (q 11) (OpdL.cons (q 13) (OpdL.cons (q 15) OpdL.nil)))) rfl (c (OpJ.coe (v:=(.st [(qe_aAddr__6 r1),(.d (.list 2 (r2.map e_resource_part_int_)))])) (y:=(.st [(.list 6 (r1.map e_aAddr_)),(.list 2 (r2.map e_resource_part_int_))])) (Co.st (CoL.cons (Co.d _) (CoL.cons (Co.d _) CoL.nil))) rfl (OpJ.build (places:=[(0,1),(1,1)]) ⟨underlying113,fun w=>by kernel_rfl⟩ tyZS113 (Opds.cons (q 10) (Opds.cons (q 16) Opds.nil)) (by kernel_rfl) (r:=(.st [(qe_aAddr__6 r1),(.d (.list 2 (r2.map e_resource_part_int_)))])) (by rfl) (ltN hN rfl))) rfl (cg (sB tyS113 (q 4) (q 17)) rfl cn)))))))))))))) (by kernel_rfl) (by kernel_rfl)
 apply AWp.ret
 obtain rfl:=oi h
 exact rt (kp [(4,_)] [(500,some _),(501,some _),(1004,some _)] hB rfl rfl (by rfl)) [(.d (.st [(.list 6 (r1.map e_aAddr_)),(.list 2 (r2.map e_resource_part_int_))]))] (Res.cell (c:=(.d (.st [(.list 6 (r1.map e_aAddr_)),(.list 2 (r2.map e_resource_part_int_))]))) (by rfl) (by rfl) tyS113 (by rfl) (by rfl) (by rfl) Res.nil) rfl
def resource_Covers (a0:aResources) (a1:aResources):Option (Bool) :=
 (resource_of a1).bind fun r1 =>
 (resource_of a0).bind fun r2 =>
 (resource_set_minus r1 r2).bind fun r3 =>
 some ((w64 ((r3.faddrs.length:Int)+(r3.fasns.length:Int)))==0)
theorem resource_Covers_ac (a0:aResources) (a1:aResources) (r:Bool) (h:resource_Covers a0 a1=some r):AC Tryz.prog 67 [(.d (e_aResources a0)),(.d (e_aResources a1))] [(500,(.know (globF 0 [109,150,151]))),(501,(.know (globF 1 [98,152,153])))] (.d (.bool r)) [(500,some (.know (globF 0 [109,150,151]))),(501,some (.know (globF 1 [98,152,153])))]:=by
 refine AC.of_code2 Tryz.func67 rfl rfl (Nat.le_of_ble_eq_true (by rfl)) fun B hB hN => ?_
 delta resource_Covers at h
 apply sr (cg (OpJ.box hB (nm:=1002) (by decide) (by simp) rfl (ltN hN rfl) (q 0)) rfl (cg (OpJ.box hB (nm:=1003) (by decide) (by simp) rfl (ltN hN rfl) (q 1)) rfl (c (assign (ltN hN rfl) (Opd.bool false)) rfl cn)))
 apply AWp.seq
 obtain⟨r1,hr1,h⟩:=bindS h
 obtain⟨r2,hr2,h⟩:=bindS h
 obtain⟨r3,hr3,h⟩:=bindS h
 refine AWp.draws (by kernel_rfl) (oc (lb hN 57 (.d (e_aResources a1)) (.d (e_aResources a1)) tyS57 (At.here _) (ot 3 (pt 1003)))
 (oc (OpJ.callFn hB fnOk63 (resource_of_ac a1 r1 hr1) [] (by kernel_rfl) (ltN hN rfl) (by kernel_rfl) (OpdL.cons (ot 6 (.d (e_aResources a1))) OpdL.nil))
 (oc (lb hN 57 (.d (e_aResources a0)) (.d (e_aResources a0)) tyS57 (At.here _) (ot 2 (pt 1002)))
 (oc (OpJ.callFn hB fnOk63 (resource_of_ac a0 r2 hr2) [] (by kernel_rfl) (ltN hN rfl) (by kernel_rfl) (OpdL.cons (ot 8 (.d (e_aResources a0))) OpdL.nil))
 (oc (OpJ.callFn hB fnOk86 (resource_set_minus_ac r1 r2 r3 hr3) [(500,500),(501,501)] (by kernel_rfl) (ltN hN rfl) (by kernel_rfl) (OpdL.cons (ot 7 (.d (e_resource_set r1))) (OpdL.cons (ot 9 (.d (e_resource_set r2))) OpdL.nil)))
 (oc (alloc hB tyZ113 (nm:=1005) (by decide) (ltN hN rfl))
 (oc (OpJ.storeB (bt:=113) (c:=(.st [.nils,.nils])) (v:=(.d (e_resource_set r3))) (c':=(.d (e_resource_set r3))) tyS113 (SetAt.here _ _) (by rfl) (by rfl) (by simp) rfl (ot 5 (pt 1005)) (ot 10 (.d (e_resource_set r3))))
 (OpJs.nil)))))))) (by kernel_rfl) (by rfl) (by rfl) ?_
 apply seqQ_n
 refine AWp.ghost (mp [] [(5,(pt 1005))] [(500,some (.know (globF 0 [109,150,151]))),(501,some (.know (globF 1 [98,152,153]))),(1005,bd 113 (e_resource_set r3))] hB) ?_
 apply sr (c (fo 1005 0 [0] hN underlying113 0 tyS110 (q 5)) rfl (c (la hN 113 tyS110 (q 11)) rfl (c (OpJ.val (v':=(i6 (r3.faddrs.length:Int))) (by simp) (lenD underlying110 (ltN hN rfl) (q 12))) rfl (c (fo 1005 1 [1] hN underlying113 1 tyS111 (q 5)) rfl (c (la hN 113 tyS111 (q 14)) rfl (c (OpJ.val (v':=(i6 (r3.fasns.length:Int))) (by simp) (lenD underlying111 (ltN hN rfl) (q 15))) rfl (c (add6 (ltN hN rfl) (q 13) (q 16)) rfl (c (eqlI (ltN hN rfl) (q 17) (ii 0)) rfl (c (assign (ltN hN rfl) (q 18)) rfl cn)))))))))
 apply AWp.ret
 obtain rfl:=oi h
 exact rt (kp [(4,_)] [(500,some _),(501,some _)] hB rfl rfl (by rfl)) [(bo ((w64 ((r3.faddrs.length:Int)+(r3.fasns.length:Int)))==0))] (Res.tmp (by rfl) (by rfl) Res.nil) rfl
def origin_issued_L0 (a0:(List aCert)) (a1:(List Bool)) (a2:aCert) (s1:Int):Option (((Unit)⊕(Unit))⊕(Int)) :=
 (if (decide (s1<(a0.length:Int)))=true then
 (idx a0 s1).bind fun x29 =>
 jn (fun m34:Bool =>
 (if m34=true then
 some (.inl (.inl ()))
 else
 some (.inr (w64 (s1+1))))) (fun j35 =>
 (idx a1 s1).bind fun x37 =>
 (if (x37&&(x29.fKey==a2.fIssuer))=true then
 (resource_Covers x29.fResources a2.fResources).bind fun r39 =>
 j35 r39
 else
 j35 false))
 else
 some (.inl (.inr ())))
def origin_issued (a0:(List aCert)) (a1:(List Bool)) (a2:aCert):Option (Bool) :=
 (loop (origin_issued_L0 a0 a1 a2) 0).bind fun x40=>match x40 with
 | (.inl _) =>
  some true
 | (.inr _) =>
  some false
theorem origin_issued_ac (a0:(List aCert)) (a1:(List Bool)) (a2:aCert) (r:Bool) (h:origin_issued a0 a1 a2=some r):AC Tryz.prog 35 [(.d (.list 6 (a0.map e_aCert))),(.d (.list 1 (a1.map eB))),(.d (e_aCert a2))] [(500,(.know (globF 0 [109,150,151]))),(501,(.know (globF 1 [98,152,153])))] (.d (.bool r)) [(500,some (.know (globF 0 [109,150,151]))),(501,some (.know (globF 1 [98,152,153])))]:=by
 refine ac2 Tryz.func35 rfl rfl fun B hB hN L => ?_
 delta origin_issued at h
 apply sr (cg (OpJ.box hB (nm:=1005) (by decide) (by simp) rfl (L rfl) (q 2)) rfl (c (assign (L rfl) (Opd.bool false)) rfl cn))
 apply AWp.seq
 apply sr (c (mv hN (q 0)) rfl (c (OpJ.val (v':=(i6 (a0.length:Int))) (by simp) (lenD underlying22 (L rfl) (q 9))) rfl (c (mv hN (ii 0)) rfl cn)))
 apply AWp.block
 obtain⟨x40,hx41,h⟩:=bindS h
 refine lg (origin_issued_L0 a0 a1 a2) (fun s1:Int=>([(1,(.d (.list 1 (a1.map eB)))),(5,(pt 1005)),(9,(qe_aCert_6 a0)),(10,(i6 (a0.length:Int))),(11,(i6 s1))]:EL)) (fun s1:Int=>([(500,some (.know (globF 0 [109,150,151]))),(501,some (.know (globF 1 [98,152,153]))),(1005,bd 59 (e_aCert a2))]:OL)) (fun(x:(Unit)⊕(Unit)) e E' O'=>match x with | (.inl _p)=>e = .ret∧Mat B E' O' ([(6,(bo true))]:EL) ([(500,some (.know (globF 0 [109,150,151]))),(501,some (.know (globF 1 [98,152,153])))]:OL) | (.inr _p)=>e = .exit 0∧Mat B E' O' ([]:EL) ([(500,some (.know (globF 0 [109,150,151]))),(501,some (.know (globF 1 [98,152,153])))]:OL)) hx41 (mp [] _ _ hB) (fun s1 y h => ?_) (fun e E' O' hR => ?_)
 ·unfold origin_issued_L0 at h
  apply sr (c (lss (L rfl) (q 11) (q 10)) rfl cn)
  apply AWp.seq
  apply AWp.cond rfl<;>intro hg28
  ·have h:=ite_t hg28 h
   apply AWp.skip
   apply seqQ_n
   apply AWp.seq
   apply AWp.block
   obtain⟨x29,hx29,h⟩:=bindS h
   apply sr (c (mv hN (q 11)) rfl (c (indexD underlying22 tyS59 (idx_some hx29).1 (get_map e_aCert (idx_some hx29).2) (L rfl) (q 9) (q 11)) rfl (c (loadD tyS59 (by rfl) (by rfl) (L rfl) (q 14)) rfl (cg (alloc hB tyZ59 (nm:=1008) (by decide) (L rfl)) rfl (c (assign (L rfl) (q 13)) rfl (cg (sB tyS59 (q 8) (q 15)) rfl cn))))))
   apply AWp.seq
   refine AWp.cut h (fun m34:Bool=>([(1,(.d (.list 1 (a1.map eB)))),(5,(pt 1005)),(9,(qe_aCert_6 a0)),(10,(i6 (a0.length:Int))),(11,(i6 s1)),(33,(bo m34))]:EL)) (fun m34:Bool=>([(500,some (.know (globF 0 [109,150,151]))),(501,some (.know (globF 1 [98,152,153]))),(1005,bd 59 (e_aCert a2))]:OL)) (fun m34 h E' O' hmat => ?_) (fun j35 hjj35 h => ?_)
   ·apply seqQ_n
    refine AWp.ghost hmat ?_
    apply AWp.cond rfl<;>intro hg36
    ·have h:=ite_t hg36 h
     apply sr (c (assign (L rfl) (Opd.bool true)) rfl cn)
     apply AWp.ret
     apply blkQ_r
     apply seqQ_r
     obtain rfl:=oi h
     exact⟨(fun hc=>by cases hc),rfl,(mp [] _ _ hB)⟩
    ·have h:=ite_f hg36 h
     apply AWp.skip
     apply blkQ_n
     apply seqQ_n
     apply rg (c (add6 (L rfl) (q 11) (ii 1)) rfl (c (mv hN (q 34)) rfl cn))
     obtain rfl:=oi h
     exact⟨rfl,(mp [] _ _ hB)⟩
   ·obtain⟨x37,hx37,h⟩:=bindS h
    rcases bft (x37&&(x29.fKey==a2.fIssuer)) with hg38 | hg38
    ·have h:=ite_t hg38 h
     obtain⟨r39,hr39,h⟩:=bindS h
     refine AWp.region (oc (mv hN (ot 1 (.d (.list 1 (a1.map eB)))))
      (oc (mv hN (ot 7 (i6 s1)))
      (oc (indexD (el:=(.bool x37)) underlying35 tyS4 (idx_some hx37).1 (get_map eB (idx_some hx37).2) (L rfl) (ot 16 (.d (.list 1 (a1.map eB)))) (ot 17 (i6 s1)))
      (oc (loadD tyS4 (by rfl) (by rfl) (L rfl) (ot 18 (.dptr (.bool x37))))
      (oc (mv hN (ot 19 (bo x37)))
      (oc (op hN 20 (.ptr 1008 0 [0]) (ov (.ptr 1008 0 [0]) (fp hN underlying59 0 tyS3 (.box 59 (.d (e_aCert x29))) (ot 8 (pt 1008)))) (OptL.keep rfl OptL.nil) (GuardV.plain _))
      (oc (op hN 20 (i6 x29.fKey) (lb hN 59 (.d (e_aCert x29)) (i6 x29.fKey) tyS3 (ad (.int .i64 x29.fKey)) (ot 21 (.ptr 1008 0 [0]))) (OptL.opt OptL.nil) (GuardV.plain _))
      (oc (op hN 20 (.ptr 1005 1 [1]) (ov (.ptr 1005 1 [1]) (fp hN underlying59 1 tyS3 (.box 59 (.d (e_aCert a2))) (ot 5 (pt 1005)))) (OptL.keep rfl OptL.nil) (GuardV.plain _))
      (oc (op hN 20 (i6 a2.fIssuer) (lb hN 59 (.d (e_aCert a2)) (i6 a2.fIssuer) tyS3 (ad (.int .i64 a2.fIssuer)) (ot 23 (.ptr 1005 1 [1]))) (OptL.opt OptL.nil) (GuardV.plain _))
      (oc (op hN 20 (bo (x29.fKey==a2.fIssuer)) (eqlI (L rfl) (ot 22 (i6 x29.fKey)) (ot 24 (i6 a2.fIssuer))) (OptL.opt (OptL.opt OptL.nil)) (GuardV.plain _))
      (oc (pickAnd rfl (L rfl) (ot 20 (bo x37)) (ot 25 (.opt (x37==true) (bo (x29.fKey==a2.fIssuer)))))
      (oc (OpJ.val (v':=.d (.bool true)) (by rw [hg38]<;>rfl) (mv hN (ot 26 (bo (x37&&(x29.fKey==a2.fIssuer))))))
      (oc (gd 27 (ov (.ptr 1008 4 [4]) (fp hN underlying59 4 tyS57 (.box 59 (.d (e_aCert x29))) (ot 8 (pt 1008)))))
      (oc (gd 27 (lb hN 59 (.d (e_aCert x29)) (.d (e_aResources x29.fResources)) tyS57 (ad (e_aResources x29.fResources)) (ot 28 (.ptr 1008 4 [4]))))
      (oc (gd 27 (ov (.ptr 1005 4 [4]) (fp hN underlying59 4 tyS57 (.box 59 (.d (e_aCert a2))) (ot 5 (pt 1005)))))
      (oc (gd 27 (lb hN 59 (.d (e_aCert a2)) (.d (e_aResources a2.fResources)) tyS57 (ad (e_aResources a2.fResources)) (ot 30 (.ptr 1005 4 [4]))))
      (oc (gd 27 (OpJ.callFn hB fnOk67 (resource_Covers_ac x29.fResources a2.fResources r39 hr39) [(500,500),(501,501)] (by kernel_rfl) (L rfl) (by kernel_rfl) (OpdL.cons (ot 29 (.d (e_aResources x29.fResources))) (OpdL.cons (ot 31 (.d (e_aResources a2.fResources))) OpdL.nil))))
      (oc (pickT (L rfl) (ot 27 (bo true)) (ot 32 (bo r39)))
      (OpJs.nil))))))))))))))))))) (by rfl) (by rfl) ?_
     exact hjj35 _ h _ _ (mp [] _ _ hB)
    ·have h:=ite_f hg38 h
     apply rg (c (mv hN (q 1)) rfl (c (mv hN (q 7)) rfl (c (indexD underlying35 tyS4 (idx_some hx37).1 (get_map eB (idx_some hx37).2) (L rfl) (q 16) (q 17)) rfl (c (loadD tyS4 (by rfl) (by rfl) (L rfl) (q 18)) rfl (c (mv hN (q 19)) rfl (c (oq hN 20 (fo 1008 0 [0] hN underlying59 0 tyS3 (q 8)) (OptL.keep (by rfl) OptL.nil) (GuardV.plain _)) rfl (c (oq hN 20 (la hN 59 tyS3 (q 21)) (OptL.opt OptL.nil) (GuardV.plain _)) rfl (c (oq hN 20 (fo 1005 1 [1] hN underlying59 1 tyS3 (q 5)) (OptL.keep (by rfl) OptL.nil) (GuardV.plain _)) rfl (c (oq hN 20 (la hN 59 tyS3 (q 23)) (OptL.opt OptL.nil) (GuardV.plain _)) rfl (c (oq hN 20 (eqlI (L rfl) (q 22) (q 24)) (OptL.opt (OptL.opt OptL.nil)) (GuardV.plain _)) rfl (c (pickAnd rfl (L rfl) (q 20) (q 25)) rfl (c (OpJ.val (v':=.d (.bool false)) (by rw [hg38]<;>rfl) (mv hN (q 26))) rfl (ks 27 (L rfl) (ks 27 (L rfl) (ks 27 (L rfl) (ks 27 (L rfl) (ks 27 (L rfl) (c (pickF (L rfl) (q 27) (Opd.bool false)) rfl cn))))))))))))))))))
     exact hjj35 _ h _ _ (mp [] _ _ hB)
  ·have h:=ite_f hg28 h
   apply AWp.exit
   apply seqQ_e
   obtain rfl:=oi h
   exact⟨(fun hc=>by cases hc),rfl,(mp [] _ _ hB)⟩
 ·rcases x40 with _ | _
  ·obtain⟨rfl,hmat⟩:=hR
   apply blkQ_r
   apply seqQ_r
   obtain rfl:=oi h
   exact rt (Mat.trans hmat (mp [] [(6,(bo true))] [(500,some (.know (globF 0 [109,150,151]))),(501,some (.know (globF 1 [98,152,153])))] hB)) [(bo true)] (Res.tmp (by rfl) (by rfl) Res.nil) rfl
  ·obtain⟨rfl,hmat⟩:=hR
   apply blkQ_hit
   apply seqQ_n
   refine AWp.ghost hmat ?_
   apply sr (c (assign (L rfl) (Opd.bool false)) rfl cn)
   apply AWp.ret
   obtain rfl:=oi h
   exact rt (kp [(6,_)] [(500,some _),(501,some _)] hB rfl rfl (by rfl)) [(bo false)] (Res.tmp (by rfl) (by rfl) Res.nil) rfl
def slices_Equal_L0 (a0:(List Bool)) (a1:(List Bool)) (s2:Int):Option (((Unit)⊕(Unit))⊕(Int)) :=
 (if (decide (s2<(a0.length:Int)))=true then
 (idx a0 s2).bind fun x16 =>
 (idx a1 s2).bind fun x17 =>
 (idx a1 s2).bind fun x18 =>
 (if (x16 != x18)=true then
 some (.inl (.inl ()))
 else
 some (.inr (w64 (s2+1))))
 else
 some (.inl (.inr ())))
def slices_Equal (a0:(List Bool)) (a1:(List Bool)):Option (Bool) :=
 (if ((a0.length:Int) != (a1.length:Int))=true then
 some false
 else
 (loop (slices_Equal_L0 a0 a1) 0).bind fun x20=>match x20 with
 | (.inl _) =>
  some false
 | (.inr _) =>
  some true)
theorem slices_Equal_ac (a0:(List Bool)) (a1:(List Bool)) (r:Bool) (h:slices_Equal a0 a1=some r):AC Tryz.prog 36 [(.d (.list 1 (a0.map eB))),(.sref 0 1 0 a1.length)] [(0,(.row 4 1 (a1.map eB)))] (.d (.bool r)) [(0,some (.row 4 1 (a1.map eB)))]:=by
 refine ac2 Tryz.func36 rfl rfl fun B hB hN L => ?_
 delta slices_Equal at h
 apply sr (c (assign (L rfl) (Opd.bool false)) rfl cn)
 apply AWp.seq
 apply sr (c (mv hN (q 0)) rfl (c (OpJ.val (v':=(i6 (a0.length:Int))) (by simp) (lenD underlying35 (L rfl) (q 6))) rfl (c (mv hN (q 1)) rfl (c (lenS underlying35 (L rfl) (q 8)) rfl (c (neqI (L rfl) (q 7) (q 9)) rfl cn)))))
 apply AWp.cond rfl<;>intro hg1
 ·have h:=ite_t hg1 h
  apply sr (c (assign (L rfl) (Opd.bool false)) rfl cn)
  apply AWp.ret
  apply seqQ_r
  obtain rfl:=oi h
  exact rt (kp [(4,_)] [(0,some _)] hB rfl rfl (by rfl)) [(bo false)] (Res.tmp (by rfl) (by rfl) Res.nil) rfl
 ·have h:=ite_f hg1 h
  apply AWp.skip
  apply seqQ_n
  apply AWp.seq
  apply sr (c (mv hN (q 0)) rfl (c (OpJ.val (v':=(i6 (a0.length:Int))) (by simp) (lenD underlying35 (L rfl) (q 11))) rfl (c (mv hN (ii 0)) rfl cn)))
  apply AWp.block
  obtain⟨x20,hx21,h⟩:=bindS h
  refine lg (slices_Equal_L0 a0 a1) (fun s2:Int=>([(0,(.d (.list 1 (a0.map eB)))),(1,(.sref 0 1 0 a1.length)),(12,(i6 (a0.length:Int))),(13,(i6 s2))]:EL)) (fun s2:Int=>([(0,some (.row 4 1 (a1.map eB)))]:OL)) (fun(x:(Unit)⊕(Unit)) e E' O'=>match x with | (.inl _p)=>e = .ret∧Mat B E' O' ([(4,(bo false))]:EL) ([(0,some (.row 4 1 (a1.map eB)))]:OL) | (.inr _p)=>e = .exit 0∧Mat B E' O' ([]:EL) ([(0,some (.row 4 1 (a1.map eB)))]:OL)) hx21 (mp [] _ _ hB) (fun s2 y h => ?_) (fun e E' O' hR => ?_)
  ·unfold slices_Equal_L0 at h
   apply sr (c (lss (L rfl) (q 13) (q 12)) rfl cn)
   apply AWp.seq
   apply AWp.cond rfl<;>intro hg15
   ·have h:=ite_t hg15 h
    apply AWp.skip
    apply seqQ_n
    apply AWp.seq
    apply AWp.block
    apply sr (c (mv hN (q 13)) rfl (c (assign (L rfl) (q 15)) rfl cn))
    obtain⟨x16,hx16,h⟩:=bindS h
    obtain⟨x17,hx17,h⟩:=bindS h
    obtain⟨x18,hx18,h⟩:=bindS h
    apply sd (c (mv hN (q 0)) rfl (c (mv hN (q 5)) rfl (c (indexD underlying35 tyS4 (idx_some hx16).1 (get_map eB (idx_some hx16).2) (L rfl) (q 16) (q 17)) rfl (c (loadD tyS4 (by rfl) (by rfl) (L rfl) (q 18)) rfl (c (mv hN (q 1)) rfl (c (mv hN (q 5)) rfl (c (OpJ.val (v':=(.ptr 0 (s2.toNat*1) [s2.toNat])) (by simp) (indexS underlying35 tyS4 (idx_some hx17).1 (by have:=idx_lt hx17;first | (simpa using this) | ((try simp only [List.length_map] at this);(try simp only [List.length_map]);omega)) (L rfl) (q 20) (q 21))) rfl (c (loadR (e:=4) (sz:=1) tyS4 (get_map eB (idx_some hx18).2) (o:=0) (At.here _) (by rfl) (by rfl) (by rfl) (L rfl) (q 22)) rfl (c (OpJ.neqB underlying4 (L rfl) (q 19) (q 23)) rfl cn))))))))) (by kernel_rfl) (by kernel_rfl)
    apply AWp.cond rfl<;>intro hg19
    ·have h:=ite_t hg19 h
     apply sr (c (assign (L rfl) (Opd.bool false)) rfl cn)
     apply AWp.ret
     apply blkQ_r
     apply seqQ_r
     obtain rfl:=oi h
     exact⟨(fun hc=>by cases hc),rfl,(mp [] _ _ hB)⟩
    ·have h:=ite_f hg19 h
     apply AWp.skip
     apply blkQ_n
     apply seqQ_n
     apply rg (c (add6 (L rfl) (q 13) (ii 1)) rfl (c (mv hN (q 25)) rfl cn))
     obtain rfl:=oi h
     exact⟨rfl,(mp [] _ _ hB)⟩
   ·have h:=ite_f hg15 h
    apply AWp.exit
    apply seqQ_e
    obtain rfl:=oi h
    exact⟨(fun hc=>by cases hc),rfl,(mp [] _ _ hB)⟩
  ·rcases x20 with _ | _
   ·obtain⟨rfl,hmat⟩:=hR
    apply blkQ_r
    apply seqQ_r
    obtain rfl:=oi h
    exact rt (Mat.trans hmat (mp [] [(4,(bo false))] [(0,some (.row 4 1 (a1.map eB)))] hB)) [(bo false)] (Res.tmp (by rfl) (by rfl) Res.nil) rfl
   ·obtain⟨rfl,hmat⟩:=hR
    apply blkQ_hit
    apply seqQ_n
    refine AWp.ghost hmat ?_
    apply sr (c (assign (L rfl) (Opd.bool true)) rfl cn)
    apply AWp.ret
    obtain rfl:=oi h
    exact rt (kp [(4,_)] [(0,some _)] hB rfl rfl (by rfl)) [(bo true)] (Res.tmp (by rfl) (by rfl) Res.nil) rfl
end
end Go.Proofs.YtgfoabcickjphaaGreatDoor
