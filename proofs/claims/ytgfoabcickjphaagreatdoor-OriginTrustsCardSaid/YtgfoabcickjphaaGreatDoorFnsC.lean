/- Printed by gen.py: the Go functions as plain functions, and that the code does what they say. -/
import Derived.Test.YtgfoabcickjphaaGreatDoorChecked
import Derived.Test.YtgfoabcickjphaaGreatDoorVcYB
import Derived.Test.YtgfoabcickjphaaGreatDoorVcZ
import Derived.KernelRfl
import Derived.Test.YtgfoabcickjphaaGreatDoorVcMD
import Derived.Test.YtgfoabcickjphaaGreatDoorVcMQ
import Derived.Test.YtgfoabcickjphaaGreatDoorVcSG
import Derived.Test.YtgfoabcickjphaaGreatDoorFnsB
import Derived.Test.YtgfoabcickjphaaGreatDoorExt
import Derived.Test.YtgfoabcickjphaaGreatDoorVcGl
import Derived.Test.YtgfoabcickjphaaGreatDoorVcWS
namespace Go.Proofs.YtgfoabcickjphaaGreatDoor
open Go Go.Vc
open Tryz
open Go.Vc.OpJ (assign alloc lss pickT pickF extract lenD indexD loadD eqlI gtr callVal leq geq loadR nilP indexS buildSlice lenS fieldD neqI pickAnd pickOr)
set_option maxHeartbeats 4000000
set_option maxRecDepth 100000
noncomputable section
def origin_Trusted_L0 (a0:(List aCert)) (a1:(List Int)) (a2:Int) (s3:Int×(List Bool)×(List Bool)):Option ((((List Bool)×(List Bool)))⊕(Int×(List Bool)×(List Bool))) :=
 (if (decide (s3.1<(a0.length:Int)))=true then
 (idx a0 s3.1).bind fun x84 =>
 jn (fun m93:(List Bool) =>
 jn (fun m105:(List Bool) =>
 some (.inr ((w64 (s3.1+1)),m93,m105))) (fun j106 =>
 (idx m93 s3.1).bind fun x107 =>
 (idx m93 s3.1).bind fun x108 =>
 (if (x108&&(x84.fIssuer==x84.fKey))=true then
 (slices_Contains a1 x84.fKey).bind fun r110 =>
 (idx s3.2.2 s3.1).bind fun x111 =>
 (idx s3.2.2 s3.1).bind fun x112 =>
 j106 (s3.2.2.set s3.1.toNat r110)
 else
 (idx s3.2.2 s3.1).bind fun x113 =>
 (idx s3.2.2 s3.1).bind fun x114 =>
 j106 (s3.2.2.set s3.1.toNat false)))) (fun j94 =>
 (origin_current x84.fFrom x84.fUntil a2).bind fun r115 =>
 (if r115=true then
 (resource_Valid x84.fResources).bind fun r117 =>
 (idx s3.2.1 s3.1).bind fun x118 =>
 (idx s3.2.1 s3.1).bind fun x119 =>
 j94 (s3.2.1.set s3.1.toNat r117)
 else
 (idx s3.2.1 s3.1).bind fun x120 =>
 (idx s3.2.1 s3.1).bind fun x121 =>
 j94 (s3.2.1.set s3.1.toNat false)))
 else
 some (.inl (s3.2.1,s3.2.2)))
def origin_Trusted_L2 (a0:(List aCert)) (p82:(List Bool)×(List Bool)) (r355:List Bool) (s356:Int×(List Bool)):Option ((((List Bool)))⊕(Int×(List Bool))) :=
 (if (decide (s356.1<(a0.length:Int)))=true then
 (idx a0 s356.1).bind fun x432 =>
 jn (fun m448:(List Bool) =>
 some (.inr ((w64 (s356.1+1)),m448))) (fun j449 =>
 (idx s356.2 s356.1).bind fun x450 =>
 (idx s356.2 s356.1).bind fun x451 =>
 (if x451=true then
 (idx s356.2 s356.1).bind fun x453 =>
 (idx s356.2 s356.1).bind fun x454 =>
 j449 (s356.2.set s356.1.toNat true)
 else
 (idx p82.1 s356.1).bind fun x455 =>
 (idx p82.1 s356.1).bind fun x456 =>
 (if (x456&&(x432.fIssuer != x432.fKey))=true then
 (origin_issued a0 r355 x432).bind fun r458 =>
 (idx s356.2 s356.1).bind fun x459 =>
 (idx s356.2 s356.1).bind fun x460 =>
 j449 (s356.2.set s356.1.toNat r458)
 else
 (idx s356.2 s356.1).bind fun x461 =>
 (idx s356.2 s356.1).bind fun x462 =>
 j449 (s356.2.set s356.1.toNat false))))
 else
 some (.inl s356.2))
def origin_Trusted_L1 (a0:(List aCert)) (p82:(List Bool)×(List Bool)) (s124:Int×(List Bool)):Option ((((List Bool)))⊕(Int×(List Bool))) :=
 (if (decide (s124.1<15))=true then
 (ext34_slices_Clone_S s124.2).bind fun r355 =>
 (loop (origin_Trusted_L2 a0 p82 r355) (0,s124.2)).bind fun p430 =>
 (slices_Equal r355 p430).bind fun r465 =>
 (if r465=true then
 some (.inl p430)
 else
 some (.inr ((w64 (s124.1+1)),p430)))
 else
 some (.inl s124.2))
def origin_Trusted (a0:(List aCert)) (a1:(List Int)) (a2:Int):Option ((List Bool)) :=
 chk ((decide (0≤(a0.length:Int))&&decide ((a0.length:Int)≤(a0.length:Int))&&decide ((a0.length:Int)≤(LIM:Int)))) <|
 chk ((decide (0≤(a0.length:Int))&&decide ((a0.length:Int)≤(a0.length:Int))&&decide ((a0.length:Int)≤(LIM:Int)))) <|
 (loop (origin_Trusted_L0 a0 a1 a2) (0,(List.replicate (a0.length:Int).toNat false),(List.replicate (a0.length:Int).toNat false))).bind fun p82 =>
 (loop (origin_Trusted_L1 a0 p82) (0,p82.2)).bind fun p353 =>
 some p353
theorem origin_Trusted_ac (a0:(List aCert)) (a1:(List Int)) (a2:Int) (r:(List Bool)) (h:origin_Trusted a0 a1 a2=some r):AC Tryz.prog 14 [(.d (.list 6 (a0.map e_aCert))),(.d (.list 1 (a1.map (eI .i64)))),(.d (.int .i64 a2))] [(500,(.know (globF 0 [109,150,151]))),(501,(.know (globF 1 [98,152,153])))] (.d (.list 1 (r.map eB))) [(500,some (.know (globF 0 [109,150,151]))),(501,some (.know (globF 1 [98,152,153])))]:=by
 refine ac2 Tryz.func14 rfl rfl fun B hB hN L => ?_
 delta origin_Trusted at h
 apply sr (c (assign (L rfl) Opd.nils) rfl cn)
 obtain⟨hc1,h⟩:=chk_some h
 apply sr (c (mv hN (q 0)) rfl (c (OpJ.val (v':=(i6 (a0.length:Int))) (by simp) (lenD underlying22 (L rfl) (q 14))) rfl (cg (OpJ.make hB underlying35 tyE4 tyZD4 (by rfl) (nm:=1016) (by decide) (of_decide_eq_true (and_l2 (and_l2 hc1))) (of_decide_eq_true (and_r2 (and_l2 hc1))) (lim_mul (of_decide_eq_true (and_r2 hc1)) (by decide)) (lim_le (of_decide_eq_true (and_r2 hc1))) (L rfl) (es:=(List.replicate (a0.length:Int).toNat false).map eB) (by rw [List.map_replicate];rfl) (len:=(List.replicate (a0.length:Int).toNat false).length) (by simp) (q 15) (q 15)) rfl (c (assign (L rfl) (q 16)) rfl cn))))
 obtain⟨hc2,h⟩:=chk_some h
 apply sr (c (mv hN (q 0)) rfl (c (OpJ.val (v':=(i6 (a0.length:Int))) (by simp) (lenD underlying22 (L rfl) (q 17))) rfl (cg (OpJ.make hB underlying35 tyE4 tyZD4 (by rfl) (nm:=1019) (by decide) (of_decide_eq_true (and_l2 (and_l2 hc2))) (of_decide_eq_true (and_r2 (and_l2 hc2))) (lim_mul (of_decide_eq_true (and_r2 hc2)) (by decide)) (lim_le (of_decide_eq_true (and_r2 hc2))) (L rfl) (es:=(List.replicate (a0.length:Int).toNat false).map eB) (by rw [List.map_replicate];rfl) (len:=(List.replicate (a0.length:Int).toNat false).length) (by simp) (q 18) (q 18)) rfl (c (assign (L rfl) (q 19)) rfl cn))))
 apply AWp.seq
 apply sr (c (mv hN (q 0)) rfl (c (OpJ.val (v':=(i6 (a0.length:Int))) (by simp) (lenD underlying22 (L rfl) (q 20))) rfl (c (mv hN (ii 0)) rfl cn)))
 apply AWp.block
 obtain⟨p82,hx123,h⟩:=bindS h
 refine lg (origin_Trusted_L0 a0 a1 a2) (fun s3:Int×(List Bool)×(List Bool)=>([(0,(qe_aCert_6 a0)),(1,(qI_1 a1)),(2,(i6 a2)),(7,(.sref 1016 1 0 s3.2.2.length)),(8,(.sref 1019 1 0 s3.2.1.length)),(20,(qe_aCert_6 a0)),(21,(i6 (a0.length:Int))),(22,(i6 s3.1))]:EL)) (fun s3:Int×(List Bool)×(List Bool)=>([(500,some (.know (globF 0 [109,150,151]))),(501,some (.know (globF 1 [98,152,153]))),(1016,some (.row 4 1 (s3.2.2.map eB))),(1019,some (.row 4 1 (s3.2.1.map eB)))]:OL)) (fun(p82:((List Bool)×(List Bool))) e E' O'=>e = .exit 0∧Mat B E' O' ([(0,(qe_aCert_6 a0)),(7,(.sref 1016 1 0 p82.2.length)),(8,(.sref 1019 1 0 p82.1.length))]:EL) ([(500,some (.know (globF 0 [109,150,151]))),(501,some (.know (globF 1 [98,152,153]))),(1016,some (.row 4 1 (p82.2.map eB))),(1019,some (.row 4 1 (p82.1.map eB)))]:OL)) hx123 (mp [] _ _ hB) (fun s3 y h => ?_) (fun e E' O' hR => ?_)
 ·unfold origin_Trusted_L0 at h
  apply sr (c (lss (L rfl) (q 22) (q 21)) rfl cn)
  apply AWp.seq
  apply AWp.cond rfl<;>intro hg83
  ·have h:=ite_t hg83 h
   apply AWp.skip
   apply seqQ_n
   apply AWp.seq
   apply AWp.block
   obtain⟨x84,hx84,h⟩:=bindS h
   apply sr (c (mv hN (q 22)) rfl (c (indexD underlying22 tyS59 (idx_some hx84).1 (get_map e_aCert (idx_some hx84).2) (L rfl) (q 20) (q 22)) rfl (c (loadD tyS59 (by rfl) (by rfl) (L rfl) (q 25)) rfl (cg (alloc hB tyZ59 (nm:=1010) (by decide) (L rfl)) rfl (c (assign (L rfl) (q 24)) rfl (cg (sB tyS59 (q 10) (q 26)) rfl cn))))))
   apply AWp.seq
   refine AWp.cut h (fun m93:(List Bool)=>([(0,(qe_aCert_6 a0)),(1,(qI_1 a1)),(2,(i6 a2)),(7,(.sref 1016 1 0 s3.2.2.length)),(8,(.sref 1019 1 0 m93.length)),(9,(i6 s3.1)),(10,(pt 1010)),(20,(qe_aCert_6 a0)),(21,(i6 (a0.length:Int))),(22,(i6 s3.1))]:EL)) (fun m93:(List Bool)=>([(500,some (.know (globF 0 [109,150,151]))),(501,some (.know (globF 1 [98,152,153]))),(1010,bd 59 (e_aCert x84)),(1016,some (.row 4 1 (s3.2.2.map eB))),(1019,some (.row 4 1 (m93.map eB)))]:OL)) (fun m93 h E' O' hmat => ?_) (fun j94 hjj94 h => ?_)
   ·apply seqQ_n
    refine AWp.ghost hmat ?_
    refine AWp.cut h (fun m105:(List Bool)=>([(0,(qe_aCert_6 a0)),(1,(qI_1 a1)),(2,(i6 a2)),(7,(.sref 1016 1 0 m105.length)),(8,(.sref 1019 1 0 m93.length)),(20,(qe_aCert_6 a0)),(21,(i6 (a0.length:Int))),(22,(i6 s3.1))]:EL)) (fun m105:(List Bool)=>([(500,some (.know (globF 0 [109,150,151]))),(501,some (.know (globF 1 [98,152,153]))),(1016,some (.row 4 1 (m105.map eB))),(1019,some (.row 4 1 (m93.map eB)))]:OL)) (fun m105 h E' O' hmat => ?_) (fun j106 hjj106 h => ?_)
    ·apply blkQ_n
     apply seqQ_n
     refine AWp.ghost hmat ?_
     apply rg (c (add6 (L rfl) (q 22) (ii 1)) rfl (c (mv hN (q 61)) rfl cn))
     obtain rfl:=oi h
     exact⟨rfl,(mp [] _ _ hB)⟩
    ·obtain⟨x107,hx107,h⟩:=bindS h
     obtain⟨x108,hx108,h⟩:=bindS h
     rcases bft (x108&&(x84.fIssuer==x84.fKey)) with hg109 | hg109
     ·have h:=ite_t hg109 h
      obtain⟨r110,hr110,h⟩:=bindS h
      obtain⟨x111,hx111,h⟩:=bindS h
      obtain⟨x112,hx112,h⟩:=bindS h
      apply rg (c (mv hN (q 7)) rfl (c (mv hN (q 9)) rfl (c (mv hN (q 8)) rfl (c (mv hN (q 9)) rfl (c (OpJ.val (v':=(.ptr 1019 (s3.1.toNat*1) [s3.1.toNat])) (by simp) (indexS underlying35 tyS4 (idx_some hx107).1 (by have:=idx_lt hx107;first | (simpa using this) | ((try simp only [List.length_map] at this);(try simp only [List.length_map]);omega)) (L rfl) (q 43) (q 44))) rfl (c (loadR (e:=4) (sz:=1) tyS4 (get_map eB (idx_some hx108).2) (o:=0) (At.here _) (by rfl) (by rfl) (by rfl) (L rfl) (q 45)) rfl (c (mv hN (q 46)) rfl (c (oq hN 47 (fo 1010 1 [1] hN underlying59 1 tyS3 (q 10)) (OptL.keep (by rfl) OptL.nil) (GuardV.plain _)) rfl (c (oq hN 47 (la hN 59 tyS3 (q 48)) (OptL.opt OptL.nil) (GuardV.plain _)) rfl (c (oq hN 47 (fo 1010 0 [0] hN underlying59 0 tyS3 (q 10)) (OptL.keep (by rfl) OptL.nil) (GuardV.plain _)) rfl (c (oq hN 47 (la hN 59 tyS3 (q 50)) (OptL.opt OptL.nil) (GuardV.plain _)) rfl (c (oq hN 47 (eqlI (L rfl) (q 49) (q 51)) (OptL.opt (OptL.opt OptL.nil)) (GuardV.plain _)) rfl (c (pickAnd rfl (L rfl) (q 47) (q 52)) rfl (c (OpJ.val (v':=.d (.bool true)) (by rw [hg109]<;>rfl) (mv hN (q 53))) rfl (c (gd 54 (mv hN (q 1))) rfl (c (gd 54 (fo 1010 0 [0] hN underlying59 0 tyS3 (q 10))) rfl (c (gd 54 (la hN 59 tyS3 (q 56))) rfl (cg (gd 54 (cf hB fnOk33 (slices_Contains_ac a1 x84.fKey r110 hr110) (L rfl) (OpdL.cons (q 55) (OpdL.cons (q 57) OpdL.nil)))) rfl (c (pickT (L rfl) (q 54) (q 58)) rfl (c (OpJ.val (v':=(.ptr 1016 (s3.1.toNat*1) [s3.1.toNat])) (by simp) (indexS underlying35 tyS4 (idx_some hx111).1 (by have:=idx_lt hx111;first | (simpa using this) | ((try simp only [List.length_map] at this);(try simp only [List.length_map]);omega)) (L rfl) (q 41) (q 42))) rfl (cg (OpJ.storeR (e:=4) (sz:=1) (es':=(s3.2.2.set s3.1.toNat r110).map eB) tyS4 (get_map eB (idx_some hx112).2) (o:=0) (SetAt.here _ _) (by rfl) (map_set _ _ _ _) (by rfl) (by rfl) (q 60) (q 59)) rfl cn)))))))))))))))))))))
      exact hjj106 _ h _ _ (Mat.trans (mp [] [(0,(qe_aCert_6 a0)),(1,(qI_1 a1)),(2,(i6 a2)),(7,(.sref 1016 1 0 s3.2.2.length)),(8,(.sref 1019 1 0 m93.length)),(20,(qe_aCert_6 a0)),(21,(i6 (a0.length:Int))),(22,(i6 s3.1))] [(500,some (.know (globF 0 [109,150,151]))),(501,some (.know (globF 1 [98,152,153]))),(1016,some (.row 4 1 ((s3.2.2.set s3.1.toNat r110).map eB))),(1019,some (.row 4 1 (m93.map eB)))] hB) (Mat.trans (Mat.lenP (Ts:=[(7,(.sref 1016 1 0 ((s3.2.2.set s3.1.toNat r110).length)))]) (Bs:=[]) (TwT.cons (x:=(.sref 1016 1 0 s3.2.2.length)) (by rfl) (Tw.leaf ⟨_,_,_,_,_,rfl,rfl,(by first | rfl | (simp;done) | (simp;omega) | omega)⟩) TwT.nil) TwB.nil) (mp [] _ _ hB)))
     ·have h:=ite_f hg109 h
      obtain⟨x113,hx113,h⟩:=bindS h
      obtain⟨x114,hx114,h⟩:=bindS h
      apply rg (c (mv hN (q 7)) rfl (c (mv hN (q 9)) rfl (c (mv hN (q 8)) rfl (c (mv hN (q 9)) rfl (c (OpJ.val (v':=(.ptr 1019 (s3.1.toNat*1) [s3.1.toNat])) (by simp) (indexS underlying35 tyS4 (idx_some hx107).1 (by have:=idx_lt hx107;first | (simpa using this) | ((try simp only [List.length_map] at this);(try simp only [List.length_map]);omega)) (L rfl) (q 43) (q 44))) rfl (c (loadR (e:=4) (sz:=1) tyS4 (get_map eB (idx_some hx108).2) (o:=0) (At.here _) (by rfl) (by rfl) (by rfl) (L rfl) (q 45)) rfl (c (mv hN (q 46)) rfl (c (oq hN 47 (fo 1010 1 [1] hN underlying59 1 tyS3 (q 10)) (OptL.keep (by rfl) OptL.nil) (GuardV.plain _)) rfl (c (oq hN 47 (la hN 59 tyS3 (q 48)) (OptL.opt OptL.nil) (GuardV.plain _)) rfl (c (oq hN 47 (fo 1010 0 [0] hN underlying59 0 tyS3 (q 10)) (OptL.keep (by rfl) OptL.nil) (GuardV.plain _)) rfl (c (oq hN 47 (la hN 59 tyS3 (q 50)) (OptL.opt OptL.nil) (GuardV.plain _)) rfl (c (oq hN 47 (eqlI (L rfl) (q 49) (q 51)) (OptL.opt (OptL.opt OptL.nil)) (GuardV.plain _)) rfl (c (pickAnd rfl (L rfl) (q 47) (q 52)) rfl (c (OpJ.val (v':=.d (.bool false)) (by rw [hg109]<;>rfl) (mv hN (q 53))) rfl (ks 54 (L rfl) (ks 54 (L rfl) (ks 54 (L rfl) (ks 54 (L rfl) (c (pickF (L rfl) (q 54) (Opd.bool false)) rfl (c (OpJ.val (v':=(.ptr 1016 (s3.1.toNat*1) [s3.1.toNat])) (by simp) (indexS underlying35 tyS4 (idx_some hx113).1 (by have:=idx_lt hx113;first | (simpa using this) | ((try simp only [List.length_map] at this);(try simp only [List.length_map]);omega)) (L rfl) (q 41) (q 42))) rfl (cg (OpJ.storeR (e:=4) (sz:=1) (es':=(s3.2.2.set s3.1.toNat false).map eB) tyS4 (get_map eB (idx_some hx114).2) (o:=0) (SetAt.here _ _) (by rfl) (map_set _ _ _ _) (by rfl) (by rfl) (q 60) (q 59)) rfl cn)))))))))))))))))))))
      exact hjj106 _ h _ _ (Mat.trans (mp [] [(0,(qe_aCert_6 a0)),(1,(qI_1 a1)),(2,(i6 a2)),(7,(.sref 1016 1 0 s3.2.2.length)),(8,(.sref 1019 1 0 m93.length)),(20,(qe_aCert_6 a0)),(21,(i6 (a0.length:Int))),(22,(i6 s3.1))] [(500,some (.know (globF 0 [109,150,151]))),(501,some (.know (globF 1 [98,152,153]))),(1016,some (.row 4 1 ((s3.2.2.set s3.1.toNat false).map eB))),(1019,some (.row 4 1 (m93.map eB)))] hB) (Mat.trans (Mat.lenP (Ts:=[(7,(.sref 1016 1 0 ((s3.2.2.set s3.1.toNat false).length)))]) (Bs:=[]) (TwT.cons (x:=(.sref 1016 1 0 s3.2.2.length)) (by rfl) (Tw.leaf ⟨_,_,_,_,_,rfl,rfl,(by first | rfl | (simp;done) | (simp;omega) | omega)⟩) TwT.nil) TwB.nil) (mp [] _ _ hB)))
   ·obtain⟨r115,hr115,h⟩:=bindS h
    rcases bft r115 with hg116 | hg116
    ·have h:=ite_t hg116 h
     obtain⟨r117,hr117,h⟩:=bindS h
     obtain⟨x118,hx118,h⟩:=bindS h
     obtain⟨x119,hx119,h⟩:=bindS h
     refine AWp.region (oc (mv hN (ot 8 (.sref 1019 1 0 s3.2.1.length)))
      (oc (mv hN (ot 9 (i6 s3.1)))
      (oc (ov (.ptr 1010 2 [2]) (fp hN underlying59 2 tyS3 (.box 59 (.d (e_aCert x84))) (ot 10 (pt 1010))))
      (oc (lb hN 59 (.d (e_aCert x84)) (i6 x84.fFrom) tyS3 (ad (.int .i64 x84.fFrom)) (ot 29 (.ptr 1010 2 [2])))
      (oc (ov (.ptr 1010 3 [3]) (fp hN underlying59 3 tyS3 (.box 59 (.d (e_aCert x84))) (ot 10 (pt 1010))))
      (oc (lb hN 59 (.d (e_aCert x84)) (i6 x84.fUntil) tyS3 (ad (.int .i64 x84.fUntil)) (ot 31 (.ptr 1010 3 [3])))
      (oc (mv hN (ot 2 (i6 a2)))
      (oc (cf hB fnOk31 (origin_current_ac x84.fFrom x84.fUntil a2 r115 hr115) (L rfl) (OpdL.cons (ot 30 (i6 x84.fFrom)) (OpdL.cons (ot 32 (i6 x84.fUntil)) (OpdL.cons (ot 33 (i6 a2)) OpdL.nil))))
      (oc (OpJ.val (v':=.d (.bool true)) (by rw [hg116]<;>rfl) (mv hN (ot 34 (bo r115))))
      (oc (gd 35 (ov (.ptr 1010 4 [4]) (fp hN underlying59 4 tyS57 (.box 59 (.d (e_aCert x84))) (ot 10 (pt 1010)))))
      (oc (gd 35 (lb hN 59 (.d (e_aCert x84)) (.d (e_aResources x84.fResources)) tyS57 (ad (e_aResources x84.fResources)) (ot 36 (.ptr 1010 4 [4]))))
      (oc (gd 35 (OpJ.callFn hB fnOk32 (resource_Valid_ac x84.fResources r117 hr117) [(500,500),(501,501)] (by kernel_rfl) (L rfl) (by kernel_rfl) (OpdL.cons (ot 37 (.d (e_aResources x84.fResources))) OpdL.nil)))
      (oc (pickT (L rfl) (ot 35 (bo true)) (ot 38 (bo r117)))
      (oc (OpJ.val (v':=(.ptr 1019 (s3.1.toNat*1) [s3.1.toNat])) (by simp) (indexS underlying35 tyS4 (obj:=(.row 4 1 (s3.2.1.map eB))) (idx_some hx118).1 (by have:=idx_lt hx118;first | (simpa using this) | ((try simp only [List.length_map] at this);(try simp only [List.length_map]);omega)) (L rfl) (ot 27 (.sref 1019 1 0 s3.2.1.length)) (ot 28 (i6 s3.1))))
      (oc (OpJ.storeR (e:=4) (sz:=1) (es:=s3.2.1.map eB) (es':=(s3.2.1.set s3.1.toNat r117).map eB) tyS4 (get_map eB (idx_some hx119).2) (o:=0) (v:=(.bool r117)) (el':=(.bool r117)) (SetAt.here _ _) (by rfl) (map_set _ _ _ _) (by rfl) (by rfl) (ot 40 (.ptr 1019 (s3.1.toNat*1) [s3.1.toNat])) (ot 39 (bo r117)))
      (OpJs.nil)))))))))))))))) (by rfl) (by rfl) ?_
     exact hjj94 _ h _ _ (Mat.trans (mp [] [(0,(qe_aCert_6 a0)),(1,(qI_1 a1)),(2,(i6 a2)),(7,(.sref 1016 1 0 s3.2.2.length)),(8,(.sref 1019 1 0 s3.2.1.length)),(9,(i6 s3.1)),(10,(pt 1010)),(20,(qe_aCert_6 a0)),(21,(i6 (a0.length:Int))),(22,(i6 s3.1))] [(500,some (.know (globF 0 [109,150,151]))),(501,some (.know (globF 1 [98,152,153]))),(1010,bd 59 (e_aCert x84)),(1016,some (.row 4 1 (s3.2.2.map eB))),(1019,some (.row 4 1 ((s3.2.1.set s3.1.toNat r117).map eB)))] hB) (Mat.trans (Mat.lenP (Ts:=[(8,(.sref 1019 1 0 ((s3.2.1.set s3.1.toNat r117).length)))]) (Bs:=[]) (TwT.cons (x:=(.sref 1019 1 0 s3.2.1.length)) (by rfl) (Tw.leaf ⟨_,_,_,_,_,rfl,rfl,(by first | rfl | (simp;done) | (simp;omega) | omega)⟩) TwT.nil) TwB.nil) (mp [] _ _ hB)))
    ·have h:=ite_f hg116 h
     obtain⟨x120,hx120,h⟩:=bindS h
     obtain⟨x121,hx121,h⟩:=bindS h
     apply rg (c (mv hN (q 8)) rfl (c (mv hN (q 9)) rfl (c (fo 1010 2 [2] hN underlying59 2 tyS3 (q 10)) rfl (c (la hN 59 tyS3 (q 29)) rfl (c (fo 1010 3 [3] hN underlying59 3 tyS3 (q 10)) rfl (c (la hN 59 tyS3 (q 31)) rfl (c (mv hN (q 2)) rfl (cg (cf hB fnOk31 (origin_current_ac x84.fFrom x84.fUntil a2 r115 hr115) (L rfl) (OpdL.cons (q 30) (OpdL.cons (q 32) (OpdL.cons (q 33) OpdL.nil)))) rfl (c (OpJ.val (v':=.d (.bool false)) (by rw [hg116]<;>rfl) (mv hN (q 34))) rfl (ks 35 (L rfl) (ks 35 (L rfl) (ks 35 (L rfl) (c (pickF (L rfl) (q 35) (Opd.bool false)) rfl (c (OpJ.val (v':=(.ptr 1019 (s3.1.toNat*1) [s3.1.toNat])) (by simp) (indexS underlying35 tyS4 (idx_some hx120).1 (by have:=idx_lt hx120;first | (simpa using this) | ((try simp only [List.length_map] at this);(try simp only [List.length_map]);omega)) (L rfl) (q 27) (q 28))) rfl (cg (OpJ.storeR (e:=4) (sz:=1) (es':=(s3.2.1.set s3.1.toNat false).map eB) tyS4 (get_map eB (idx_some hx121).2) (o:=0) (SetAt.here _ _) (by rfl) (map_set _ _ _ _) (by rfl) (by rfl) (q 40) (q 39)) rfl cn)))))))))))))))
     exact hjj94 _ h _ _ (Mat.trans (mp [] [(0,(qe_aCert_6 a0)),(1,(qI_1 a1)),(2,(i6 a2)),(7,(.sref 1016 1 0 s3.2.2.length)),(8,(.sref 1019 1 0 s3.2.1.length)),(9,(i6 s3.1)),(10,(pt 1010)),(20,(qe_aCert_6 a0)),(21,(i6 (a0.length:Int))),(22,(i6 s3.1))] [(500,some (.know (globF 0 [109,150,151]))),(501,some (.know (globF 1 [98,152,153]))),(1010,bd 59 (e_aCert x84)),(1016,some (.row 4 1 (s3.2.2.map eB))),(1019,some (.row 4 1 ((s3.2.1.set s3.1.toNat false).map eB)))] hB) (Mat.trans (Mat.lenP (Ts:=[(8,(.sref 1019 1 0 ((s3.2.1.set s3.1.toNat false).length)))]) (Bs:=[]) (TwT.cons (x:=(.sref 1019 1 0 s3.2.1.length)) (by rfl) (Tw.leaf ⟨_,_,_,_,_,rfl,rfl,(by first | rfl | (simp;done) | (simp;omega) | omega)⟩) TwT.nil) TwB.nil) (mp [] _ _ hB)))
  ·have h:=ite_f hg83 h
   apply AWp.exit
   apply seqQ_e
   obtain rfl:=oi h
   exact⟨(fun hc=>by cases hc),rfl,(mp [] _ _ hB)⟩
 ·obtain⟨rfl,hmat⟩:=hR
  apply blkQ_hit
  apply seqQ_n
  refine AWp.ghost hmat ?_
  apply AWp.seq
  apply sr (c (mv hN (ii 0)) rfl cn)
  apply AWp.block
  obtain⟨p353,hx468,h⟩:=bindS h
  refine lg (origin_Trusted_L1 a0 p82) (fun s124:Int×(List Bool)=>([(0,(qe_aCert_6 a0)),(7,(.sref 1016 1 0 s124.2.length)),(8,(.sref 1019 1 0 p82.1.length)),(62,(i6 s124.1))]:EL)) (fun s124:Int×(List Bool)=>([(500,some (.know (globF 0 [109,150,151]))),(501,some (.know (globF 1 [98,152,153]))),(1016,some (.row 4 1 (s124.2.map eB))),(1019,some (.row 4 1 (p82.1.map eB)))]:OL)) (fun(p353:((List Bool))) e E' O'=>e = .exit 2∧Mat B E' O' ([(7,(.sref 1016 1 0 p353.length))]:EL) ([(500,some (.know (globF 0 [109,150,151]))),(501,some (.know (globF 1 [98,152,153]))),(1016,some (.row 4 1 (p353.map eB)))]:OL)) hx468 (mp [] _ _ hB) (fun s124 y h => ?_) (fun e E' O' hR => ?_)
  ·unfold origin_Trusted_L1 at h
   apply sr (c (lss (L rfl) (q 62) (ii 15)) rfl cn)
   apply AWp.seq
   apply AWp.cond rfl<;>intro hg354
   ·have h:=ite_t hg354 h
    apply AWp.skip
    apply seqQ_n
    apply AWp.seq
    apply AWp.block
    apply AWp.seq
    obtain⟨r355,hr355,h⟩:=bindS h
    refine AWp.region (oc (mv hN (ot 7 (.sref 1016 1 0 s124.2.length)))
     (oc (OpJ.callFn hB fnOk34 (ext34_slices_Clone_S_ac s124.2 r355 hr355) [(0,1016),(900000,100300)] (by kernel_rfl) (L rfl) (by kernel_rfl) (OpdL.cons (ot 64 (.sref 1016 1 0 s124.2.length)) OpdL.nil))
     (oc (assign (L rfl) (ot 65 (.sref 100300 1 0 r355.length)))
     (OpJs.nil)))) (by rfl) (by rfl) ?_
    apply seqQ_n
    refine AWp.ghost (mp [] [(0,(qe_aCert_6 a0)),(7,(.sref 1016 1 0 s124.2.length)),(8,(.sref 1019 1 0 p82.1.length)),(11,(.sref 100300 1 0 r355.length)),(62,(i6 s124.1))] [(500,some (.know (globF 0 [109,150,151]))),(501,some (.know (globF 1 [98,152,153]))),(1016,some (.row 4 1 (s124.2.map eB))),(1019,some (.row 4 1 (p82.1.map eB))),(100300,some (.row 4 1 (r355.map eB)))] hB) ?_
    apply AWp.seq
    apply sr (c (mv hN (q 0)) rfl (c (OpJ.val (v':=(i6 (a0.length:Int))) (by simp) (lenD underlying22 (L rfl) (q 66))) rfl (c (mv hN (ii 0)) rfl cn)))
    apply AWp.block
    obtain⟨p430,hx464,h⟩:=bindS h
    refine lg (origin_Trusted_L2 a0 p82 r355) (fun s356:Int×(List Bool)=>([(0,(qe_aCert_6 a0)),(7,(.sref 1016 1 0 s356.2.length)),(8,(.sref 1019 1 0 p82.1.length)),(11,(.d (.list 1 (r355.map eB)))),(62,(i6 s124.1)),(66,(qe_aCert_6 a0)),(67,(i6 (a0.length:Int))),(68,(i6 s356.1))]:EL)) (fun s356:Int×(List Bool)=>([(500,some (.know (globF 0 [109,150,151]))),(501,some (.know (globF 1 [98,152,153]))),(1016,some (.row 4 1 (s356.2.map eB))),(1019,some (.row 4 1 (p82.1.map eB)))]:OL)) (fun(p430:((List Bool))) e E' O'=>e = .exit 4∧Mat B E' O' ([(0,(qe_aCert_6 a0)),(7,(.sref 1016 1 0 p430.length)),(8,(.sref 1019 1 0 p82.1.length)),(11,(.d (.list 1 (r355.map eB)))),(62,(i6 s124.1))]:EL) ([(500,some (.know (globF 0 [109,150,151]))),(501,some (.know (globF 1 [98,152,153]))),(1016,some (.row 4 1 (p430.map eB))),(1019,some (.row 4 1 (p82.1.map eB)))]:OL)) hx464 (Mat.trans (Mat.freezeP (n:=100300) (e:=4) (sz:=1) (es:=r355.map eB) (Ts:=[(11,(.d (.list 1 (r355.map eB))))]) (Bs:=[]) (by rfl) (TwT.cons (x:=(.sref 100300 1 0 r355.length)) (by rfl) (FrzL.all (by first | rfl | (simp;done) | (simp;omega) | omega)) TwT.nil) TwB.nil) (mp [] _ _ hB)) (fun s356 y h => ?_) (fun e E' O' hR => ?_)
    ·unfold origin_Trusted_L2 at h
     apply sr (c (lss (L rfl) (q 68) (q 67)) rfl cn)
     apply AWp.seq
     apply AWp.cond rfl<;>intro hg431
     ·have h:=ite_t hg431 h
      apply AWp.skip
      apply seqQ_n
      apply AWp.seq
      apply AWp.block
      obtain⟨x432,hx432,h⟩:=bindS h
      apply sr (c (mv hN (q 68)) rfl (c (indexD underlying22 tyS59 (idx_some hx432).1 (get_map e_aCert (idx_some hx432).2) (L rfl) (q 66) (q 68)) rfl (c (loadD tyS59 (by rfl) (by rfl) (L rfl) (q 71)) rfl (cg (alloc hB tyZ59 (nm:=1013) (by decide) (L rfl)) rfl (c (assign (L rfl) (q 70)) rfl (cg (sB tyS59 (q 13) (q 72)) rfl cn))))))
      refine gh [(0,_),(7,_),(8,_),(11,_),(12,_),(13,_),(62,_),(66,_),(67,_),(68,_)] [(500,some _),(501,some _),(1013,some _),(1016,some _),(1019,some _)] hB rfl rfl (by rfl) ?_
      refine AWp.cut h (fun m448:(List Bool)=>([(0,(qe_aCert_6 a0)),(7,(.sref 1016 1 0 m448.length)),(8,(.sref 1019 1 0 p82.1.length)),(11,(.d (.list 1 (r355.map eB)))),(62,(i6 s124.1)),(66,(qe_aCert_6 a0)),(67,(i6 (a0.length:Int))),(68,(i6 s356.1))]:EL)) (fun m448:(List Bool)=>([(500,some (.know (globF 0 [109,150,151]))),(501,some (.know (globF 1 [98,152,153]))),(1016,some (.row 4 1 (m448.map eB))),(1019,some (.row 4 1 (p82.1.map eB)))]:OL)) (fun m448 h E' O' hmat => ?_) (fun j449 hjj449 h => ?_)
      ·apply blkQ_n
       apply seqQ_n
       refine AWp.ghost hmat ?_
       apply rg (c (add6 (L rfl) (q 68) (ii 1)) rfl (c (mv hN (q 99)) rfl cn))
       obtain rfl:=oi h
       exact⟨rfl,(mp [] _ _ hB)⟩
      ·obtain⟨x450,hx450,h⟩:=bindS h
       obtain⟨x451,hx451,h⟩:=bindS h
       rcases bft x451 with hg452 | hg452
       ·have h:=ite_t hg452 h
        obtain⟨x453,hx453,h⟩:=bindS h
        obtain⟨x454,hx454,h⟩:=bindS h
        apply rg (c (mv hN (q 7)) rfl (c (mv hN (q 12)) rfl (c (mv hN (q 7)) rfl (c (mv hN (q 12)) rfl (c (OpJ.val (v':=(.ptr 1016 (s356.1.toNat*1) [s356.1.toNat])) (by simp) (indexS underlying35 tyS4 (idx_some hx450).1 (by have:=idx_lt hx450;first | (simpa using this) | ((try simp only [List.length_map] at this);(try simp only [List.length_map]);omega)) (L rfl) (q 75) (q 76))) rfl (c (loadR (e:=4) (sz:=1) tyS4 (get_map eB (idx_some hx451).2) (o:=0) (At.here _) (by rfl) (by rfl) (by rfl) (L rfl) (q 77)) rfl (c (OpJ.val (v':=.d (.bool true)) (by rw [hg452]<;>rfl) (mv hN (q 78))) rfl (ks 79 (L rfl) (ks 79 (L rfl) (ks 79 (L rfl) (ks 79 (L rfl) (ks 79 (L rfl) (cg (sV 84 (L rfl)) rfl (cg (sV 84 (L rfl)) rfl (cg (sV 84 (L rfl)) rfl (cg (sV 84 (L rfl)) rfl (cg (sV 84 (L rfl)) rfl (ks 79 (L rfl) (ks 79 (L rfl) (cg (sV 91 (L rfl)) rfl (cg (sV 91 (L rfl)) rfl (cg (sV 91 (L rfl)) rfl (cg (sV 91 (L rfl)) rfl (ks 79 (L rfl) (c (pickT (L rfl) (q 79) (Opd.bool true)) rfl (c (OpJ.val (v':=(.ptr 1016 (s356.1.toNat*1) [s356.1.toNat])) (by simp) (indexS underlying35 tyS4 (idx_some hx453).1 (by have:=idx_lt hx453;first | (simpa using this) | ((try simp only [List.length_map] at this);(try simp only [List.length_map]);omega)) (L rfl) (q 73) (q 74))) rfl (cg (OpJ.storeR (e:=4) (sz:=1) (es':=(s356.2.set s356.1.toNat true).map eB) tyS4 (get_map eB (idx_some hx454).2) (o:=0) (SetAt.here _ _) (by rfl) (map_set _ _ _ _) (by rfl) (by rfl) (q 98) (q 97)) rfl cn)))))))))))))))))))))))))))
        exact hjj449 _ h _ _ (Mat.trans (mp [] [(0,(qe_aCert_6 a0)),(7,(.sref 1016 1 0 s356.2.length)),(8,(.sref 1019 1 0 p82.1.length)),(11,(.d (.list 1 (r355.map eB)))),(62,(i6 s124.1)),(66,(qe_aCert_6 a0)),(67,(i6 (a0.length:Int))),(68,(i6 s356.1))] [(500,some (.know (globF 0 [109,150,151]))),(501,some (.know (globF 1 [98,152,153]))),(1016,some (.row 4 1 ((s356.2.set s356.1.toNat true).map eB))),(1019,some (.row 4 1 (p82.1.map eB)))] hB) (Mat.trans (Mat.lenP (Ts:=[(7,(.sref 1016 1 0 ((s356.2.set s356.1.toNat true).length)))]) (Bs:=[]) (TwT.cons (x:=(.sref 1016 1 0 s356.2.length)) (by rfl) (Tw.leaf ⟨_,_,_,_,_,rfl,rfl,(by first | rfl | (simp;done) | (simp;omega) | omega)⟩) TwT.nil) TwB.nil) (mp [] _ _ hB)))
       ·have h:=ite_f hg452 h
        obtain⟨x455,hx455,h⟩:=bindS h
        obtain⟨x456,hx456,h⟩:=bindS h
        rcases bft (x456&&(x432.fIssuer != x432.fKey)) with hg457 | hg457
        ·have h:=ite_t hg457 h
         obtain⟨r458,hr458,h⟩:=bindS h
         obtain⟨x459,hx459,h⟩:=bindS h
         obtain⟨x460,hx460,h⟩:=bindS h
         refine AWp.region (oc (mv hN (ot 7 (.sref 1016 1 0 s356.2.length)))
          (oc (mv hN (ot 12 (i6 s356.1)))
          (oc (mv hN (ot 7 (.sref 1016 1 0 s356.2.length)))
          (oc (mv hN (ot 12 (i6 s356.1)))
          (oc (OpJ.val (v':=(.ptr 1016 (s356.1.toNat*1) [s356.1.toNat])) (by simp) (indexS underlying35 tyS4 (obj:=(.row 4 1 (s356.2.map eB))) (idx_some hx450).1 (by have:=idx_lt hx450;first | (simpa using this) | ((try simp only [List.length_map] at this);(try simp only [List.length_map]);omega)) (L rfl) (ot 75 (.sref 1016 1 0 s356.2.length)) (ot 76 (i6 s356.1))))
          (oc (loadR (e:=4) (sz:=1) (es:=s356.2.map eB) tyS4 (get_map eB (idx_some hx451).2) (o:=0) (v:=(.bool x451)) (At.here _) (by rfl) (by rfl) (by rfl) (L rfl) (ot 77 (.ptr 1016 (s356.1.toNat*1) [s356.1.toNat])))
          (oc (OpJ.val (v':=.d (.bool false)) (by rw [hg452]<;>rfl) (mv hN (ot 78 (bo x451))))
          (oc (gd 79 (mv hN (ot 8 (.sref 1019 1 0 p82.1.length))))
          (oc (gd 79 (mv hN (ot 12 (i6 s356.1))))
          (oc (gd 79 (OpJ.val (v':=(.ptr 1019 (s356.1.toNat*1) [s356.1.toNat])) (by simp) (indexS underlying35 tyS4 (obj:=(.row 4 1 (p82.1.map eB))) (idx_some hx455).1 (by have:=idx_lt hx455;first | (simpa using this) | ((try simp only [List.length_map] at this);(try simp only [List.length_map]);omega)) (L rfl) (ot 80 (.sref 1019 1 0 p82.1.length)) (ot 81 (i6 s356.1)))))
          (oc (gd 79 (loadR (e:=4) (sz:=1) (es:=p82.1.map eB) tyS4 (get_map eB (idx_some hx456).2) (o:=0) (v:=(.bool x456)) (At.here _) (by rfl) (by rfl) (by rfl) (L rfl) (ot 82 (.ptr 1019 (s356.1.toNat*1) [s356.1.toNat]))))
          (oc (gd 79 (mv hN (ot 83 (bo x456))))
          (oc (op hN 84 (.ptr 1013 1 [1]) (ov (.ptr 1013 1 [1]) (fp hN underlying59 1 tyS3 (.box 59 (.d (e_aCert x432))) (ot 13 (pt 1013)))) (OptL.keep rfl OptL.nil) (GuardV.plain _))
          (oc (op hN 84 (i6 x432.fIssuer) (lb hN 59 (.d (e_aCert x432)) (i6 x432.fIssuer) tyS3 (ad (.int .i64 x432.fIssuer)) (ot 85 (.ptr 1013 1 [1]))) (OptL.opt OptL.nil) (GuardV.plain _))
          (oc (op hN 84 (.ptr 1013 0 [0]) (ov (.ptr 1013 0 [0]) (fp hN underlying59 0 tyS3 (.box 59 (.d (e_aCert x432))) (ot 13 (pt 1013)))) (OptL.keep rfl OptL.nil) (GuardV.plain _))
          (oc (op hN 84 (i6 x432.fKey) (lb hN 59 (.d (e_aCert x432)) (i6 x432.fKey) tyS3 (ad (.int .i64 x432.fKey)) (ot 87 (.ptr 1013 0 [0]))) (OptL.opt OptL.nil) (GuardV.plain _))
          (oc (op hN 84 (bo (x432.fIssuer != x432.fKey)) (neqI (L rfl) (ot 86 (i6 x432.fIssuer)) (ot 88 (i6 x432.fKey))) (OptL.opt (OptL.opt OptL.nil)) (GuardV.plain _))
          (oc (gd 79 (pickAnd rfl (L rfl) (ot 84 (bo x456)) (ot 89 (.opt (x456==true) (bo (x432.fIssuer != x432.fKey))))))
          (oc (gd 79 (OpJ.val (v':=.d (.bool true)) (by rw [hg457]<;>rfl) (mv hN (ot 90 (bo (x456&&(x432.fIssuer != x432.fKey)))))))
          (oc (gd 91 (mv hN (ot 0 (qe_aCert_6 a0))))
          (oc (gd 91 (mv hN (ot 11 (.d (.list 1 (r355.map eB))))))
          (oc (gd 91 (lb hN 59 (.d (e_aCert x432)) (.d (e_aCert x432)) tyS59 (At.here _) (ot 13 (pt 1013))))
          (oc (gd 91 (OpJ.callFn hB fnOk35 (origin_issued_ac a0 r355 x432 r458 hr458) [(500,500),(501,501)] (by kernel_rfl) (L rfl) (by kernel_rfl) (OpdL.cons (ot 92 (qe_aCert_6 a0)) (OpdL.cons (ot 93 (.d (.list 1 (r355.map eB)))) (OpdL.cons (ot 94 (.d (e_aCert x432))) OpdL.nil)))))
          (oc (gd 79 (pickT (L rfl) (ot 91 (bo true)) (ot 95 (bo r458))))
          (oc (pickF (L rfl) (ot 79 (bo false)) (ot 96 (bo r458)))
          (oc (OpJ.val (v':=(.ptr 1016 (s356.1.toNat*1) [s356.1.toNat])) (by simp) (indexS underlying35 tyS4 (obj:=(.row 4 1 (s356.2.map eB))) (idx_some hx459).1 (by have:=idx_lt hx459;first | (simpa using this) | ((try simp only [List.length_map] at this);(try simp only [List.length_map]);omega)) (L rfl) (ot 73 (.sref 1016 1 0 s356.2.length)) (ot 74 (i6 s356.1))))
          (oc (OpJ.storeR (e:=4) (sz:=1) (es:=s356.2.map eB) (es':=(s356.2.set s356.1.toNat r458).map eB) tyS4 (get_map eB (idx_some hx460).2) (o:=0) (v:=(.bool r458)) (el':=(.bool r458)) (SetAt.here _ _) (by rfl) (map_set _ _ _ _) (by rfl) (by rfl) (ot 98 (.ptr 1016 (s356.1.toNat*1) [s356.1.toNat])) (ot 97 (bo r458)))
          (OpJs.nil)))))))))))))))))))))))))))) (by rfl) (by rfl) ?_
         exact hjj449 _ h _ _ (Mat.trans (mp [] [(0,(qe_aCert_6 a0)),(7,(.sref 1016 1 0 s356.2.length)),(8,(.sref 1019 1 0 p82.1.length)),(11,(.d (.list 1 (r355.map eB)))),(62,(i6 s124.1)),(66,(qe_aCert_6 a0)),(67,(i6 (a0.length:Int))),(68,(i6 s356.1))] [(500,some (.know (globF 0 [109,150,151]))),(501,some (.know (globF 1 [98,152,153]))),(1016,some (.row 4 1 ((s356.2.set s356.1.toNat r458).map eB))),(1019,some (.row 4 1 (p82.1.map eB)))] hB) (Mat.trans (Mat.lenP (Ts:=[(7,(.sref 1016 1 0 ((s356.2.set s356.1.toNat r458).length)))]) (Bs:=[]) (TwT.cons (x:=(.sref 1016 1 0 s356.2.length)) (by rfl) (Tw.leaf ⟨_,_,_,_,_,rfl,rfl,(by first | rfl | (simp;done) | (simp;omega) | omega)⟩) TwT.nil) TwB.nil) (mp [] _ _ hB)))
        ·have h:=ite_f hg457 h
         obtain⟨x461,hx461,h⟩:=bindS h
         obtain⟨x462,hx462,h⟩:=bindS h
         apply rg (c (mv hN (q 7)) rfl (c (mv hN (q 12)) rfl (c (mv hN (q 7)) rfl (c (mv hN (q 12)) rfl (c (OpJ.val (v':=(.ptr 1016 (s356.1.toNat*1) [s356.1.toNat])) (by simp) (indexS underlying35 tyS4 (idx_some hx450).1 (by have:=idx_lt hx450;first | (simpa using this) | ((try simp only [List.length_map] at this);(try simp only [List.length_map]);omega)) (L rfl) (q 75) (q 76))) rfl (c (loadR (e:=4) (sz:=1) tyS4 (get_map eB (idx_some hx451).2) (o:=0) (At.here _) (by rfl) (by rfl) (by rfl) (L rfl) (q 77)) rfl (c (OpJ.val (v':=.d (.bool false)) (by rw [hg452]<;>rfl) (mv hN (q 78))) rfl (c (gd 79 (mv hN (q 8))) rfl (c (gd 79 (mv hN (q 12))) rfl (c (gd 79 (OpJ.val (v':=(.ptr 1019 (s356.1.toNat*1) [s356.1.toNat])) (by simp) (indexS underlying35 tyS4 (idx_some hx455).1 (by have:=idx_lt hx455;first | (simpa using this) | ((try simp only [List.length_map] at this);(try simp only [List.length_map]);omega)) (L rfl) (q 80) (q 81)))) rfl (c (gd 79 (loadR (e:=4) (sz:=1) tyS4 (get_map eB (idx_some hx456).2) (o:=0) (At.here _) (by rfl) (by rfl) (by rfl) (L rfl) (q 82))) rfl (c (gd 79 (mv hN (q 83))) rfl (c (oq hN 84 (fo 1013 1 [1] hN underlying59 1 tyS3 (q 13)) (OptL.keep (by rfl) OptL.nil) (GuardV.plain _)) rfl (c (oq hN 84 (la hN 59 tyS3 (q 85)) (OptL.opt OptL.nil) (GuardV.plain _)) rfl (c (oq hN 84 (fo 1013 0 [0] hN underlying59 0 tyS3 (q 13)) (OptL.keep (by rfl) OptL.nil) (GuardV.plain _)) rfl (c (oq hN 84 (la hN 59 tyS3 (q 87)) (OptL.opt OptL.nil) (GuardV.plain _)) rfl (c (oq hN 84 (neqI (L rfl) (q 86) (q 88)) (OptL.opt (OptL.opt OptL.nil)) (GuardV.plain _)) rfl (c (gd 79 (pickAnd rfl (L rfl) (q 84) (q 89))) rfl (c (gd 79 (OpJ.val (v':=.d (.bool false)) (by rw [hg457]<;>rfl) (mv hN (q 90)))) rfl (ks 91 (L rfl) (ks 91 (L rfl) (ks 91 (L rfl) (ks 91 (L rfl) (c (gd 79 (pickF (L rfl) (q 91) (Opd.bool false))) rfl (c (pickF (L rfl) (q 79) (q 96)) rfl (c (OpJ.val (v':=(.ptr 1016 (s356.1.toNat*1) [s356.1.toNat])) (by simp) (indexS underlying35 tyS4 (idx_some hx461).1 (by have:=idx_lt hx461;first | (simpa using this) | ((try simp only [List.length_map] at this);(try simp only [List.length_map]);omega)) (L rfl) (q 73) (q 74))) rfl (cg (OpJ.storeR (e:=4) (sz:=1) (es':=(s356.2.set s356.1.toNat false).map eB) tyS4 (get_map eB (idx_some hx462).2) (o:=0) (SetAt.here _ _) (by rfl) (map_set _ _ _ _) (by rfl) (by rfl) (q 98) (q 97)) rfl cn)))))))))))))))))))))))))))
         exact hjj449 _ h _ _ (Mat.trans (mp [] [(0,(qe_aCert_6 a0)),(7,(.sref 1016 1 0 s356.2.length)),(8,(.sref 1019 1 0 p82.1.length)),(11,(.d (.list 1 (r355.map eB)))),(62,(i6 s124.1)),(66,(qe_aCert_6 a0)),(67,(i6 (a0.length:Int))),(68,(i6 s356.1))] [(500,some (.know (globF 0 [109,150,151]))),(501,some (.know (globF 1 [98,152,153]))),(1016,some (.row 4 1 ((s356.2.set s356.1.toNat false).map eB))),(1019,some (.row 4 1 (p82.1.map eB)))] hB) (Mat.trans (Mat.lenP (Ts:=[(7,(.sref 1016 1 0 ((s356.2.set s356.1.toNat false).length)))]) (Bs:=[]) (TwT.cons (x:=(.sref 1016 1 0 s356.2.length)) (by rfl) (Tw.leaf ⟨_,_,_,_,_,rfl,rfl,(by first | rfl | (simp;done) | (simp;omega) | omega)⟩) TwT.nil) TwB.nil) (mp [] _ _ hB)))
     ·have h:=ite_f hg431 h
      apply AWp.exit
      apply seqQ_e
      obtain rfl:=oi h
      exact⟨(fun hc=>by cases hc),rfl,(mp [] _ _ hB)⟩
    ·obtain⟨rfl,hmat⟩:=hR
     apply blkQ_hit
     apply seqQ_n
     refine AWp.ghost hmat ?_
     apply AWp.seq
     obtain⟨r465,hr465,h⟩:=bindS h
     refine AWp.region (oc (mv hN (ot 11 (.d (.list 1 (r355.map eB)))))
      (oc (mv hN (ot 7 (.sref 1016 1 0 p430.length)))
      (oc (OpJ.callFn hB fnOk36 (slices_Equal_ac r355 p430 r465 hr465) [(0,1016)] (by kernel_rfl) (L rfl) (by kernel_rfl) (OpdL.cons (ot 100 (.d (.list 1 (r355.map eB)))) (OpdL.cons (ot 101 (.sref 1016 1 0 p430.length)) OpdL.nil)))
      (OpJs.nil)))) (by rfl) (by rfl) ?_
     apply seqQ_n
     refine AWp.ghost (mp [] [(0,(qe_aCert_6 a0)),(7,(.sref 1016 1 0 p430.length)),(8,(.sref 1019 1 0 p82.1.length)),(62,(i6 s124.1)),(102,(bo r465))] [(500,some (.know (globF 0 [109,150,151]))),(501,some (.know (globF 1 [98,152,153]))),(1016,some (.row 4 1 (p430.map eB))),(1019,some (.row 4 1 (p82.1.map eB)))] hB) ?_
     apply AWp.cond rfl<;>intro hg466
     ·have h:=ite_t hg466 h
      apply AWp.exit
      refine blkQ_miss (by rfl) ?_
      apply seqQ_e
      obtain rfl:=oi h
      exact⟨(fun hc=>by cases hc),rfl,(mp [] _ _ hB)⟩
     ·have h:=ite_f hg466 h
      apply AWp.skip
      apply blkQ_n
      apply seqQ_n
      apply rg (c (add6 (L rfl) (q 62) (ii 1)) rfl (c (mv hN (q 103)) rfl cn))
      obtain rfl:=oi h
      exact⟨rfl,(mp [] _ _ hB)⟩
   ·have h:=ite_f hg354 h
    apply AWp.exit
    apply seqQ_e
    obtain rfl:=oi h
    exact⟨(fun hc=>by cases hc),rfl,(mp [] _ _ hB)⟩
  ·obtain⟨rfl,hmat⟩:=hR
   apply blkQ_hit
   apply seqQ_n
   refine AWp.ghost hmat ?_
   apply sr (c (mv hN (q 7)) rfl (c (assign (L rfl) (q 104)) rfl cn))
   apply AWp.ret
   obtain rfl:=oi h
   exact rt (Mat.trans (Mat.freezeP (n:=1016) (e:=4) (sz:=1) (es:=p353.map eB) (Ts:=[(6,(.d (.list 1 (p353.map eB))))]) (Bs:=[]) (by rfl) (TwT.cons (x:=(.sref 1016 1 0 p353.length)) (by rfl) (FrzL.all (by first | rfl | (simp;done) | (simp;omega) | omega)) TwT.nil) TwB.nil) (mp [] [(6,(.d (.list 1 (p353.map eB))))] [(500,some (.know (globF 0 [109,150,151]))),(501,some (.know (globF 1 [98,152,153])))] hB)) [(.d (.list 1 (p353.map eB)))] (Res.tmp (by rfl) (by rfl) Res.nil) rfl
def prefix_width (a0:aAddr):Option (Int) :=
 (if a0.fV6=true then
 some 128
 else
 some 32)
theorem prefix_width_ac (a0:aAddr) (r:Int) (h:prefix_width a0=some r):AC Tryz.prog 99 [(.d (e_aAddr a0))] [] (.d (.int .i64 r)) []:=by
 refine AC.of_code2 Tryz.func99 rfl rfl (Nat.le_of_ble_eq_true (by rfl)) fun B hB hN => ?_
 delta prefix_width at h
 apply sr (cg (OpJ.box hB (nm:=1001) (by decide) (by simp) rfl (ltN hN rfl) (q 0)) rfl (c (assign (ltN hN rfl) (ii 0)) rfl cn))
 apply AWp.seq
 apply sr (c (fo 1001 0 [0] hN underlying44 0 tyS4 (q 1)) rfl (c (la hN 44 tyS4 (q 3)) rfl cn))
 apply AWp.cond rfl<;>intro hg1
 ·have h:=ite_t hg1 h
  apply sr (c (assign (ltN hN rfl) (ii 128)) rfl cn)
  apply AWp.ret
  apply seqQ_r
  obtain rfl:=oi h
  exact rt (kp [(2,_)] [] hB rfl rfl (by rfl)) [(i6 128)] (Res.tmp (by rfl) (by rfl) Res.nil) rfl
 ·have h:=ite_f hg1 h
  apply AWp.skip
  apply seqQ_n
  apply sr (c (assign (ltN hN rfl) (ii 32)) rfl cn)
  apply AWp.ret
  obtain rfl:=oi h
  exact rt (kp [(2,_)] [] hB rfl rfl (by rfl)) [(i6 32)] (Res.tmp (by rfl) (by rfl) Res.nil) rfl
def prefix_masks (a0:Int):Option (Int×Int) :=
 (if (decide (64<a0))=true then
 some ((IntKind.u64.wrap ((shlI .u64 1 (IntKind.u64.wrap (w64 (a0-64))))-1)),18446744073709551615)
 else
 some (0,(IntKind.u64.wrap ((shlI .u64 1 (IntKind.u64.wrap a0))-1))))
theorem prefix_masks_ac (a0:Int) (r:Int×Int) (h:prefix_masks a0=some r):AC Tryz.prog 122 [(.d (.int .i64 a0))] [] (.tup [(.d (.int .u64 r.1)),(.d (.int .u64 r.2))]) []:=by
 refine ac2 Tryz.func122 rfl rfl fun B hB hN L => ?_
 delta prefix_masks at h
 apply sr (c (assign (L rfl) (Opd.int .u64 (0))) rfl (c (assign (L rfl) (Opd.int .u64 (0))) rfl cn))
 apply AWp.seq
 apply sr (c (mv hN (q 0)) rfl (c (gtr (L rfl) (q 4) (ii 64)) rfl cn))
 apply AWp.cond rfl<;>intro hg1
 ·have h:=ite_t hg1 h
  apply sr (c (mv hN (q 0)) rfl (c (sub6 (L rfl) (q 6) (ii 64)) rfl (c (OpJ.conv underlying3 underlying73 (L rfl) (q 7)) rfl (c (OpJ.shl (L rfl) (Opd.int .u64 (1)) (q 8) (wrap_nonneg rfl _)) rfl (c (OpJ.sub (L rfl) (q 9) (Opd.int .u64 (1))) rfl (c (assign (L rfl) (q 10)) rfl (c (assign (L rfl) (Opd.int .u64 (18446744073709551615))) rfl cn)))))))
  apply AWp.ret
  apply seqQ_r
  obtain rfl:=oi h
  exact rt (kp [(2,_),(3,_)] [] hB rfl rfl (by rfl)) [(.d (.int .u64 (IntKind.u64.wrap ((shlI .u64 1 (IntKind.u64.wrap (w64 (a0-64))))-1)))),(.d (.int .u64 18446744073709551615))] (Res.tmp (by rfl) (by rfl) (Res.tmp (by rfl) (by rfl) Res.nil)) rfl
 ·have h:=ite_f hg1 h
  apply AWp.skip
  apply seqQ_n
  apply sr (c (mv hN (q 0)) rfl (c (OpJ.conv underlying3 underlying73 (L rfl) (q 11)) rfl (c (OpJ.shl (L rfl) (Opd.int .u64 (1)) (q 12) (wrap_nonneg rfl _)) rfl (c (OpJ.sub (L rfl) (q 13) (Opd.int .u64 (1))) rfl (c (assign (L rfl) (Opd.int .u64 (0))) rfl (c (assign (L rfl) (q 14)) rfl cn))))))
  apply AWp.ret
  obtain rfl:=oi h
  exact rt (kp [(2,_),(3,_)] [] hB rfl rfl (by rfl)) [(.d (.int .u64 0)),(.d (.int .u64 (IntKind.u64.wrap ((shlI .u64 1 (IntKind.u64.wrap a0))-1))))] (Res.tmp (by rfl) (by rfl) (Res.tmp (by rfl) (by rfl) Res.nil)) rfl
def prefix_first (a0:aAddr) (a1:Int):Option (aAddr) :=
 (prefix_width a0).bind fun r1 =>
 (prefix_masks (w64 (r1-a1))).bind fun r2 =>
 some (aAddr.mk a0.fV6 (bitI .andNot .u64 a0.fHi r2.1) (bitI .andNot .u64 a0.fLo r2.2))
theorem prefix_first_ac (a0:aAddr) (a1:Int) (r:aAddr) (h:prefix_first a0 a1=some r):AC Tryz.prog 100 [(.d (e_aAddr a0)),(.d (.int .i64 a1))] [] (.d (e_aAddr r)) []:=by
 refine AC.of_code2 Tryz.func100 rfl rfl (Nat.le_of_ble_eq_true (by rfl)) fun B hB hN => ?_
 delta prefix_first at h
 apply sr (cg (OpJ.box hB (nm:=1002) (by decide) (by simp) rfl (ltN hN rfl) (q 0)) rfl (cg (alloc hB tyZ44 (nm:=1004) (by decide) (ltN hN rfl)) rfl cn))
 obtain⟨r1,hr1,h⟩:=bindS h
 obtain⟨r2,hr2,h⟩:=bindS h
 apply sr (c (lb hN 44 _ _ tyS44 (At.here _) (q 2)) rfl (cg (OpJ.callFn hB fnOk99 (prefix_width_ac a0 r1 hr1) [] (by kernel_rfl) (ltN hN rfl) (by kernel_rfl) (OpdL.cons (q 8) OpdL.nil)) rfl (c (mv hN (q 1)) rfl (c (sub6 (ltN hN rfl) (q 9) (q 10)) rfl (cg (OpJ.callFn hB fnOk122 (prefix_masks_ac (w64 (r1-a1)) r2 hr2) [] (by kernel_rfl) (ltN hN rfl) (by kernel_rfl) (OpdL.cons (q 11) OpdL.nil)) rfl (c (mv hN (q 12)) rfl (c (extract (by rfl) rfl (ltN hN rfl) (q 7)) rfl (c (extract (by rfl) rfl (ltN hN rfl) (q 7)) rfl (c (assign (ltN hN rfl) (q 13)) rfl (c (assign (ltN hN rfl) (q 14)) rfl cn))))))))))
 apply sr (c (fo 1002 1 [1] hN underlying44 1 tyS42 (q 2)) rfl (c (la hN 44 tyS42 (q 15)) rfl (c (mv hN (q 5)) rfl (c (OpJ.bits (.inr (.inr (.inr rfl))) (ltN hN rfl) (q 16) (q 17)) rfl (c (fo 1002 1 [1] hN underlying44 1 tyS42 (q 2)) rfl (cg (OpJ.storeB tyS42 (SetAt.dst1 (by rfl) (by rfl) (SetAt.here _ _) (by rfl) (by rfl) (by first | rfl | omega)) (by rfl) (by rfl) (by simp) rfl (q 19) (q 18)) rfl cn))))))
 apply sr (c (fo 1002 2 [2] hN underlying44 2 tyS42 (q 2)) rfl (c (la hN 44 tyS42 (q 20)) rfl (c (mv hN (q 6)) rfl (c (OpJ.bits (.inr (.inr (.inr rfl))) (ltN hN rfl) (q 21) (q 22)) rfl (c (fo 1002 2 [2] hN underlying44 2 tyS42 (q 2)) rfl (cg (OpJ.storeB tyS42 (SetAt.dst1 (by rfl) (by rfl) (SetAt.here _ _) (by rfl) (by rfl) (by first | rfl | omega)) (by rfl) (by rfl) (by simp) rfl (q 24) (q 23)) rfl cn))))))
 apply sr (c (lb hN 44 _ _ tyS44 (At.here _) (q 2)) rfl (cg (sB tyS44 (q 4) (q 25)) rfl cn))
 apply AWp.ret
 obtain rfl:=oi h
 exact rt (kp [(4,_)] [(1004,some _)] hB rfl rfl (by rfl)) [(.d (.st [(.bool a0.fV6),(.int .u64 (bitI .andNot .u64 a0.fHi r2.1)),(.int .u64 (bitI .andNot .u64 a0.fLo r2.2))]))] (Res.cell (c:=(.d (.st [(.bool a0.fV6),(.int .u64 (bitI .andNot .u64 a0.fHi r2.1)),(.int .u64 (bitI .andNot .u64 a0.fLo r2.2))]))) (by rfl) (by rfl) tyS44 (by rfl) (by rfl) (by rfl) Res.nil) rfl
def prefix_Valid (a0:aPrefix):Option (Bool) :=
 jn (fun m7:Bool =>
 some m7) (fun j8 =>
 (addr_Valid a0.fAddr).bind fun r9 =>
 (if (r9&&(decide (0≤a0.fLen)))=true then
 (prefix_width a0.fAddr).bind fun r11 =>
 (if (decide (a0.fLen≤r11))=true then
 (prefix_first a0.fAddr a0.fLen).bind fun r13 =>
 j8 ((r13.fV6==a0.fAddr.fV6)&&((r13.fHi==a0.fAddr.fHi)&&((r13.fLo==a0.fAddr.fLo)&&true)))
 else
 j8 false)
 else
 j8 false))
theorem prefix_Valid_ac (a0:aPrefix) (r:Bool) (h:prefix_Valid a0=some r):AC Tryz.prog 89 [(.d (e_aPrefix a0))] [] (.d (.bool r)) []:=by
 refine ac2 Tryz.func89 rfl rfl fun B hB hN L => ?_
 delta prefix_Valid at h
 apply sr (cg (OpJ.box hB (nm:=1001) (by decide) (by simp) rfl (L rfl) (q 0)) rfl (c (assign (L rfl) (Opd.bool false)) rfl cn))
 apply AWp.seq
 refine AWp.cut h (fun m7:Bool=>([(2,(bo m7))]:EL)) (fun m7:Bool=>([]:OL)) (fun m7 h E' O' hmat => ?_) (fun j8 hjj8 h => ?_)
 ·apply seqQ_n
  refine AWp.ghost hmat ?_
  apply AWp.ret
  obtain rfl:=oi h
  exact rt (kp [(2,_)] [] hB rfl rfl (by rfl)) [(bo m7)] (Res.tmp (by rfl) (by rfl) Res.nil) rfl
 ·obtain⟨r9,hr9,h⟩:=bindS h
  rcases bft (r9&&(decide (0≤a0.fLen))) with hg10 | hg10
  ·have h:=ite_t hg10 h
   obtain⟨r11,hr11,h⟩:=bindS h
   rcases bft (decide (a0.fLen≤r11)) with hg12 | hg12
   ·have h:=ite_t hg12 h
    obtain⟨r13,hr13,h⟩:=bindS h
    apply dr (c (fo 1001 0 [0] hN underlying46 0 tyS44 (q 1)) rfl (c (la hN 46 tyS44 (q 3)) rfl (cg (cf hB fnOk59 (addr_Valid_ac a0.fAddr r9 hr9) (L rfl) (OpdL.cons (q 4) OpdL.nil)) rfl (c (mv hN (q 5)) rfl (c (oq hN 6 (fo 1001 3 [1] hN underlying46 3 tyS3 (q 1)) (OptL.keep (by rfl) OptL.nil) (GuardV.plain _)) rfl (c (oq hN 6 (la hN 46 tyS3 (q 7)) (OptL.opt OptL.nil) (GuardV.plain _)) rfl (c (oq hN 6 (geq (L rfl) (q 8) (ii 0)) (OptL.opt OptL.nil) (GuardV.plain _)) rfl (c (pickAnd rfl (L rfl) (q 6) (q 9)) rfl (c (OpJ.val (v':=.d (.bool true)) (by rw [hg10]<;>rfl) (mv hN (q 10))) rfl (c (gd 11 (fo 1001 3 [1] hN underlying46 3 tyS3 (q 1))) rfl (c (gd 11 (la hN 46 tyS3 (q 12))) rfl (c (gd 11 (fo 1001 0 [0] hN underlying46 0 tyS44 (q 1))) rfl (c (gd 11 (la hN 46 tyS44 (q 14))) rfl (cg (gd 11 (cf hB fnOk99 (prefix_width_ac a0.fAddr r11 hr11) (L rfl) (OpdL.cons (q 15) OpdL.nil))) rfl (c (gd 11 (leq (L rfl) (q 13) (q 16))) rfl (c (pickT (L rfl) (q 11) (q 17)) rfl (c (OpJ.val (v':=.d (.bool true)) (by rw [hg12]<;>rfl) (mv hN (q 18))) rfl (c (gd 19 (fo 1001 0 [0] hN underlying46 0 tyS44 (q 1))) rfl (c (gd 19 (la hN 46 tyS44 (q 20))) rfl (c (gd 19 (fo 1001 3 [1] hN underlying46 3 tyS3 (q 1))) rfl (c (gd 19 (la hN 46 tyS3 (q 22))) rfl (cg (gd 19 (cf hB fnOk100 (prefix_first_ac a0.fAddr a0.fLen r13 hr13) (L rfl) (OpdL.cons (q 21) (OpdL.cons (q 23) OpdL.nil)))) rfl (c (gd 19 (fo 1001 0 [0] hN underlying46 0 tyS44 (q 1))) rfl (c (gd 19 (la hN 46 tyS44 (q 25))) rfl (c (gd 19 (OpJ.eqlD (h:=2) (FitE.st underlying44 rfl held44 (FitF.cons (x:=(.bool r13.fV6)) (y:=(.bool a0.fAddr.fV6)) (by decide) rfl tyS4 ⟨rfl,rfl⟩ ⟨rfl,rfl⟩ (FitE.bool (h:=0) r13.fV6 a0.fAddr.fV6 underlying4) (FitF.cons (x:=(.int .u64 r13.fHi)) (y:=(.int .u64 a0.fAddr.fHi)) (by decide) rfl tyS42 ⟨rfl,rfl⟩ ⟨rfl,rfl⟩ (FitE.int (h:=0) r13.fHi a0.fAddr.fHi underlying42) (FitF.cons (x:=(.int .u64 r13.fLo)) (y:=(.int .u64 a0.fAddr.fLo)) (by decide) rfl tyS42 ⟨rfl,rfl⟩ ⟨rfl,rfl⟩ (FitE.int (h:=0) r13.fLo a0.fAddr.fLo underlying42) FitF.nil)))) eqg44 ⟨rfl,rfl⟩ (by rfl) (L rfl) (q 24) (q 26))) rfl (c (pickT (L rfl) (q 19) (q 27)) rfl (c (assign (L rfl) (q 28)) rfl cn))))))))))))))))))))))))))) (by kernel_rfl) (by kernel_rfl)
    exact hjj8 _ h _ _ (mp [] _ _ hB)
   ·have h:=ite_f hg12 h
    apply dr (c (fo 1001 0 [0] hN underlying46 0 tyS44 (q 1)) rfl (c (la hN 46 tyS44 (q 3)) rfl (cg (cf hB fnOk59 (addr_Valid_ac a0.fAddr r9 hr9) (L rfl) (OpdL.cons (q 4) OpdL.nil)) rfl (c (mv hN (q 5)) rfl (c (oq hN 6 (fo 1001 3 [1] hN underlying46 3 tyS3 (q 1)) (OptL.keep (by rfl) OptL.nil) (GuardV.plain _)) rfl (c (oq hN 6 (la hN 46 tyS3 (q 7)) (OptL.opt OptL.nil) (GuardV.plain _)) rfl (c (oq hN 6 (geq (L rfl) (q 8) (ii 0)) (OptL.opt OptL.nil) (GuardV.plain _)) rfl (c (pickAnd rfl (L rfl) (q 6) (q 9)) rfl (c (OpJ.val (v':=.d (.bool true)) (by rw [hg10]<;>rfl) (mv hN (q 10))) rfl (c (gd 11 (fo 1001 3 [1] hN underlying46 3 tyS3 (q 1))) rfl (c (gd 11 (la hN 46 tyS3 (q 12))) rfl (c (gd 11 (fo 1001 0 [0] hN underlying46 0 tyS44 (q 1))) rfl (c (gd 11 (la hN 46 tyS44 (q 14))) rfl (cg (gd 11 (cf hB fnOk99 (prefix_width_ac a0.fAddr r11 hr11) (L rfl) (OpdL.cons (q 15) OpdL.nil))) rfl (c (gd 11 (leq (L rfl) (q 13) (q 16))) rfl (c (pickT (L rfl) (q 11) (q 17)) rfl (c (OpJ.val (v':=.d (.bool false)) (by rw [hg12]<;>rfl) (mv hN (q 18))) rfl (ks 19 (L rfl) (ks 19 (L rfl) (ks 19 (L rfl) (ks 19 (L rfl) (ks 19 (L rfl) (ks 19 (L rfl) (ks 19 (L rfl) (ks 19 (L rfl) (c (pickF (L rfl) (q 19) (Opd.bool false)) rfl (c (assign (L rfl) (q 28)) rfl cn))))))))))))))))))))))))))) (by kernel_rfl) (by kernel_rfl)
    exact hjj8 _ h _ _ (mp [] _ _ hB)
  ·have h:=ite_f hg10 h
   apply dr (c (fo 1001 0 [0] hN underlying46 0 tyS44 (q 1)) rfl (c (la hN 46 tyS44 (q 3)) rfl (cg (cf hB fnOk59 (addr_Valid_ac a0.fAddr r9 hr9) (L rfl) (OpdL.cons (q 4) OpdL.nil)) rfl (c (mv hN (q 5)) rfl (c (oq hN 6 (fo 1001 3 [1] hN underlying46 3 tyS3 (q 1)) (OptL.keep (by rfl) OptL.nil) (GuardV.plain _)) rfl (c (oq hN 6 (la hN 46 tyS3 (q 7)) (OptL.opt OptL.nil) (GuardV.plain _)) rfl (c (oq hN 6 (geq (L rfl) (q 8) (ii 0)) (OptL.opt OptL.nil) (GuardV.plain _)) rfl (c (pickAnd rfl (L rfl) (q 6) (q 9)) rfl (c (OpJ.val (v':=.d (.bool false)) (by rw [hg10]<;>rfl) (mv hN (q 10))) rfl (ks 11 (L rfl) (ks 11 (L rfl) (ks 11 (L rfl) (ks 11 (L rfl) (ks 11 (L rfl) (ks 11 (L rfl) (c (pickF (L rfl) (q 11) (Opd.bool false)) rfl (c (mv hN (q 18)) rfl (ks 19 (L rfl) (ks 19 (L rfl) (ks 19 (L rfl) (ks 19 (L rfl) (ks 19 (L rfl) (ks 19 (L rfl) (ks 19 (L rfl) (ks 19 (L rfl) (c (pickF (L rfl) (q 19) (Opd.bool false)) rfl (c (assign (L rfl) (q 28)) rfl cn))))))))))))))))))))))))))) (by kernel_rfl) (by kernel_rfl)
   exact hjj8 _ h _ _ (mp [] _ _ hB)
def origin_width (a0:aPrefix):Option (Int) :=
 (if a0.fAddr.fV6=true then
 some 128
 else
 some 32)
theorem origin_width_ac (a0:aPrefix) (r:Int) (h:origin_width a0=some r):AC Tryz.prog 90 [(.d (e_aPrefix a0))] [] (.d (.int .i64 r)) []:=by
 refine AC.of_code2 Tryz.func90 rfl rfl (Nat.le_of_ble_eq_true (by rfl)) fun B hB hN => ?_
 delta origin_width at h
 apply sr (cg (OpJ.box hB (nm:=1001) (by decide) (by simp) rfl (ltN hN rfl) (q 0)) rfl (c (assign (ltN hN rfl) (ii 0)) rfl cn))
 apply AWp.seq
 apply sr (c (fo 1001 0 [0] hN underlying46 0 tyS44 (q 1)) rfl (c (fo 1001 0 [0,0] hN underlying44 0 tyS4 (q 3)) rfl (c (lb hN 46 _ _ tyS4 (At.dst1 (by rfl) (by rfl) (ad _) (by first | rfl | omega)) (q 4)) rfl cn)))
 apply AWp.cond rfl<;>intro hg1
 ·have h:=ite_t hg1 h
  apply sr (c (assign (ltN hN rfl) (ii 128)) rfl cn)
  apply AWp.ret
  apply seqQ_r
  obtain rfl:=oi h
  exact rt (kp [(2,_)] [] hB rfl rfl (by rfl)) [(i6 128)] (Res.tmp (by rfl) (by rfl) Res.nil) rfl
 ·have h:=ite_f hg1 h
  apply AWp.skip
  apply seqQ_n
  apply sr (c (assign (ltN hN rfl) (ii 32)) rfl cn)
  apply AWp.ret
  obtain rfl:=oi h
  exact rt (kp [(2,_)] [] hB rfl rfl (by rfl)) [(i6 32)] (Res.tmp (by rfl) (by rfl) Res.nil) rfl
def origin_formed_1 (a0:aObject) (a1:aSigned):Option (Bool) :=
 jn (fun m5:Bool =>
 some m5) (fun j6 =>
 (if (a0.fASN != a1.fASN)=true then
 j6 true
 else
 (prefix_Valid a0.fPrefix).bind fun r8 =>
 (if ((!r8) || (decide (a0.fMax<a0.fPrefix.fLen)))=true then
 j6 true
 else
 (origin_width a0.fPrefix).bind fun r10 =>
 j6 (decide (r10<a0.fMax)))))
theorem origin_formed_1_ac (a0:aObject) (a1:aSigned) (r:Bool) (h:origin_formed_1 a0 a1=some r):AC Tryz.prog 88 [(.d (e_aObject a0)),(pt 0)] [(0,(.box 66 (.d (e_aSigned a1))))] (.d (.bool r)) [(0,bd 66 (e_aSigned a1))]:=by
 refine ac2 Tryz.func88 rfl rfl fun B hB hN L => ?_
 delta origin_formed_1 at h
 apply sr (cg (OpJ.box hB (nm:=1002) (by decide) (by simp) rfl (L rfl) (q 0)) rfl (c (assign (L rfl) (Opd.bool false)) rfl cn))
 apply AWp.seq
 refine AWp.cut h (fun m5:Bool=>([(3,(bo m5))]:EL)) (fun m5:Bool=>([(0,bd 66 (e_aSigned a1))]:OL)) (fun m5 h E' O' hmat => ?_) (fun j6 hjj6 h => ?_)
 ·apply seqQ_n
  refine AWp.ghost hmat ?_
  apply AWp.ret
  obtain rfl:=oi h
  exact rt (kp [(3,_)] [(0,some _)] hB rfl rfl (by rfl)) [(bo m5)] (Res.tmp (by rfl) (by rfl) Res.nil) rfl
 ·rcases bft (a0.fASN != a1.fASN) with hg7 | hg7
  ·have h:=ite_t hg7 h
   apply dr (c (fo 1002 5 [2] hN underlying48 5 tyS3 (q 2)) rfl (c (la hN 48 tyS3 (q 4)) rfl (c (fo 0 1 [1] hN underlying66 1 tyS3 (q 1)) rfl (c (la hN 66 tyS3 (q 6)) rfl (c (neqI (L rfl) (q 5) (q 7)) rfl (c (OpJ.val (v':=.d (.bool true)) (by rw [hg7]<;>rfl) (mv hN (q 8))) rfl (ks 9 (L rfl) (ks 9 (L rfl) (ks 9 (L rfl) (ks 9 (L rfl) (c (pickT (L rfl) (q 9) (Opd.bool true)) rfl (c (mv hN (q 14)) rfl (ks 15 (L rfl) (ks 15 (L rfl) (ks 15 (L rfl) (ks 15 (L rfl) (ks 15 (L rfl) (ks 15 (L rfl) (c (pickT (L rfl) (q 15) (Opd.bool true)) rfl (c (mv hN (q 22)) rfl (ks 23 (L rfl) (ks 23 (L rfl) (ks 23 (L rfl) (ks 23 (L rfl) (ks 23 (L rfl) (ks 23 (L rfl) (c (pickT (L rfl) (q 23) (Opd.bool true)) rfl (c (assign (L rfl) (q 30)) rfl cn)))))))))))))))))))))))))))) (by kernel_rfl) (by kernel_rfl)
   exact hjj6 _ h _ _ (mp [] _ _ hB)
  ·have h:=ite_f hg7 h
   obtain⟨r8,hr8,h⟩:=bindS h
   rcases bft ((!r8) || (decide (a0.fMax<a0.fPrefix.fLen))) with hg9 | hg9
   ·have h:=ite_t hg9 h
    apply dr (c (fo 1002 5 [2] hN underlying48 5 tyS3 (q 2)) rfl (c (la hN 48 tyS3 (q 4)) rfl (c (fo 0 1 [1] hN underlying66 1 tyS3 (q 1)) rfl (c (la hN 66 tyS3 (q 6)) rfl (c (neqI (L rfl) (q 5) (q 7)) rfl (c (OpJ.val (v':=.d (.bool false)) (by rw [hg7]<;>rfl) (mv hN (q 8))) rfl (c (gd 9 (fo 1002 0 [0] hN underlying48 0 tyS46 (q 2))) rfl (c (gd 9 (la hN 48 tyS46 (q 10))) rfl (cg (gd 9 (cf hB fnOk89 (prefix_Valid_ac a0.fPrefix r8 hr8) (L rfl) (OpdL.cons (q 11) OpdL.nil))) rfl (c (gd 9 (OpJ.not (L rfl) (q 12))) rfl (c (pickF (L rfl) (q 9) (q 13)) rfl (c (mv hN (q 14)) rfl (c (oq hN 15 (fo 1002 4 [1] hN underlying48 4 tyS3 (q 2)) (OptL.keep (by rfl) OptL.nil) (GuardV.plain _)) rfl (c (oq hN 15 (la hN 48 tyS3 (q 16)) (OptL.opt OptL.nil) (GuardV.plain _)) rfl (c (oq hN 15 (fo 1002 0 [0] hN underlying48 0 tyS46 (q 2)) (OptL.keep (by rfl) OptL.nil) (GuardV.plain _)) rfl (c (oq hN 15 (fo 1002 3 [0,1] hN underlying46 3 tyS3 (q 18)) (OptL.opt OptL.nil) (GuardV.plain _)) rfl (c (oq hN 15 (lb hN 48 _ _ tyS3 (At.dst1 (by rfl) (by rfl) (ad _) (by first | rfl | omega)) (q 19)) (OptL.opt OptL.nil) (GuardV.plain _)) rfl (c (oq hN 15 (lss (L rfl) (q 17) (q 20)) (OptL.opt (OptL.opt OptL.nil)) (GuardV.plain _)) rfl (c (pickOr rfl (L rfl) (q 15) (q 21)) rfl (c (OpJ.val (v':=.d (.bool true)) (by rw [hg9]<;>rfl) (mv hN (q 22))) rfl (ks 23 (L rfl) (ks 23 (L rfl) (ks 23 (L rfl) (ks 23 (L rfl) (ks 23 (L rfl) (ks 23 (L rfl) (c (pickT (L rfl) (q 23) (Opd.bool true)) rfl (c (assign (L rfl) (q 30)) rfl cn)))))))))))))))))))))))))))) (by kernel_rfl) (by kernel_rfl)
    exact hjj6 _ h _ _ (mp [] _ _ hB)
   ·have h:=ite_f hg9 h
    obtain⟨r10,hr10,h⟩:=bindS h
    apply dr (c (fo 1002 5 [2] hN underlying48 5 tyS3 (q 2)) rfl (c (la hN 48 tyS3 (q 4)) rfl (c (fo 0 1 [1] hN underlying66 1 tyS3 (q 1)) rfl (c (la hN 66 tyS3 (q 6)) rfl (c (neqI (L rfl) (q 5) (q 7)) rfl (c (OpJ.val (v':=.d (.bool false)) (by rw [hg7]<;>rfl) (mv hN (q 8))) rfl (c (gd 9 (fo 1002 0 [0] hN underlying48 0 tyS46 (q 2))) rfl (c (gd 9 (la hN 48 tyS46 (q 10))) rfl (cg (gd 9 (cf hB fnOk89 (prefix_Valid_ac a0.fPrefix r8 hr8) (L rfl) (OpdL.cons (q 11) OpdL.nil))) rfl (c (gd 9 (OpJ.not (L rfl) (q 12))) rfl (c (pickF (L rfl) (q 9) (q 13)) rfl (c (mv hN (q 14)) rfl (c (oq hN 15 (fo 1002 4 [1] hN underlying48 4 tyS3 (q 2)) (OptL.keep (by rfl) OptL.nil) (GuardV.plain _)) rfl (c (oq hN 15 (la hN 48 tyS3 (q 16)) (OptL.opt OptL.nil) (GuardV.plain _)) rfl (c (oq hN 15 (fo 1002 0 [0] hN underlying48 0 tyS46 (q 2)) (OptL.keep (by rfl) OptL.nil) (GuardV.plain _)) rfl (c (oq hN 15 (fo 1002 3 [0,1] hN underlying46 3 tyS3 (q 18)) (OptL.opt OptL.nil) (GuardV.plain _)) rfl (c (oq hN 15 (lb hN 48 _ _ tyS3 (At.dst1 (by rfl) (by rfl) (ad _) (by first | rfl | omega)) (q 19)) (OptL.opt OptL.nil) (GuardV.plain _)) rfl (c (oq hN 15 (lss (L rfl) (q 17) (q 20)) (OptL.opt (OptL.opt OptL.nil)) (GuardV.plain _)) rfl (c (pickOr rfl (L rfl) (q 15) (q 21)) rfl (c (OpJ.val (v':=.d (.bool false)) (by rw [hg9]<;>rfl) (mv hN (q 22))) rfl (c (gd 23 (fo 1002 4 [1] hN underlying48 4 tyS3 (q 2))) rfl (c (gd 23 (la hN 48 tyS3 (q 24))) rfl (c (gd 23 (fo 1002 0 [0] hN underlying48 0 tyS46 (q 2))) rfl (c (gd 23 (la hN 48 tyS46 (q 26))) rfl (cg (gd 23 (cf hB fnOk90 (origin_width_ac a0.fPrefix r10 hr10) (L rfl) (OpdL.cons (q 27) OpdL.nil))) rfl (c (gd 23 (gtr (L rfl) (q 25) (q 28))) rfl (c (pickF (L rfl) (q 23) (q 29)) rfl (c (assign (L rfl) (q 30)) rfl cn)))))))))))))))))))))))))))) (by kernel_rfl) (by kernel_rfl)
    exact hjj6 _ h _ _ (mp [] _ _ hB)
def slices_IndexFunc_2_L0 (a0:(List aObject)) (a1:aSigned) (s1:Int):Option (((Int)⊕(Unit))⊕(Int)) :=
 (if (decide (s1<(a0.length:Int)))=true then
 (idx a0 s1).bind fun x13 =>
 (origin_formed_1 x13 a1).bind fun r14 =>
 (if r14=true then
 some (.inl (.inl s1))
 else
 some (.inr (w64 (s1+1))))
 else
 some (.inl (.inr ())))
def slices_IndexFunc_2 (a0:(List aObject)) (a1:aSigned):Option (Int) :=
 (loop (slices_IndexFunc_2_L0 a0 a1) 0).bind fun x16=>match x16 with
 | (.inl p10) =>
  some p10
 | (.inr _) =>
  some (-1)
theorem slices_IndexFunc_2_ac (a0:(List aObject)) (a1:aSigned) (r:Int) (h:slices_IndexFunc_2 a0 a1=some r):AC Tryz.prog 106 [(.d (.list 6 (a0.map e_aObject))),(.func 88 [(pt 0)])] [(0,(.box 66 (.d (e_aSigned a1))))] (.d (.int .i64 r)) [(0,bd 66 (e_aSigned a1))]:=by
 refine AC.of_code2 Tryz.func106 rfl rfl (Nat.le_of_ble_eq_true (by rfl)) fun B hB hN => ?_
 delta slices_IndexFunc_2 at h
 apply sr (c (assign (ltN hN rfl) (ii 0)) rfl cn)
 apply AWp.seq
 apply sr (c (mv hN (q 0)) rfl (c (OpJ.val (v':=(i6 (a0.length:Int))) (by simp) (lenD underlying38 (ltN hN rfl) (q 6))) rfl (c (mv hN (ii 0)) rfl cn)))
 apply AWp.block
 obtain⟨x16,hx17,h⟩:=bindS h
 refine lg (slices_IndexFunc_2_L0 a0 a1) (fun s1:Int=>([(0,(qe_aObject_6 a0)),(1,(.func 88 [(pt 0)])),(7,(i6 (a0.length:Int))),(8,(i6 s1))]:EL)) (fun s1:Int=>([(0,bd 66 (e_aSigned a1))]:OL)) (fun(x:(Int)⊕(Unit)) e E' O'=>match x with | (.inl p10)=>e = .ret∧Mat B E' O' ([(4,(i6 p10))]:EL) ([(0,bd 66 (e_aSigned a1))]:OL) | (.inr _p)=>e = .exit 0∧Mat B E' O' ([]:EL) ([(0,bd 66 (e_aSigned a1))]:OL)) hx17 (mp [] _ _ hB) (fun s1 y h => ?_) (fun e E' O' hR => ?_)
 ·unfold slices_IndexFunc_2_L0 at h
  apply sr (c (lss (ltN hN rfl) (q 8) (q 7)) rfl cn)
  apply AWp.seq
  apply AWp.cond rfl<;>intro hg12
  ·have h:=ite_t hg12 h
   apply AWp.skip
   apply seqQ_n
   apply AWp.seq
   apply AWp.block
   apply sr (c (mv hN (q 8)) rfl (c (assign (ltN hN rfl) (q 10)) rfl cn))
   apply AWp.seq
   obtain⟨x13,hx13,h⟩:=bindS h
   obtain⟨r14,hr14,h⟩:=bindS h
   refine AWp.region (oc (mv hN (ot 1 (.func 88 [(pt 0)])))
    (oc (mv hN (ot 0 (qe_aObject_6 a0)))
    (oc (mv hN (ot 5 (i6 s1)))
    (oc (indexD (el:=(e_aObject x13)) underlying38 tyS48 (idx_some hx13).1 (get_map e_aObject (idx_some hx13).2) (ltN hN rfl) (ot 12 (qe_aObject_6 a0)) (ot 13 (i6 s1)))
    (oc (loadD tyS48 (by rfl) (by rfl) (ltN hN rfl) (ot 14 (.dptr (e_aObject x13))))
    (oc (callVal (args:=[(.d (e_aObject x13))]) (caps:=[(pt 0)]) hB fnOk88 [(0,0)] (origin_formed_1_ac x13 a1 r14 hr14) (by kernel_rfl) (ltN hN rfl) (by kernel_rfl) (by kernel_rfl) (OpdL.cons (ot 15 (.d (e_aObject x13))) OpdL.nil))
    (OpJs.nil))))))) (by rfl) (by rfl) ?_
   apply seqQ_n
   refine AWp.ghost (mp [] [(0,(qe_aObject_6 a0)),(1,(.func 88 [(pt 0)])),(5,(i6 s1)),(7,(i6 (a0.length:Int))),(8,(i6 s1)),(16,(bo r14))] [(0,bd 66 (e_aSigned a1))] hB) ?_
   apply AWp.cond rfl<;>intro hg15
   ·have h:=ite_t hg15 h
    apply sr (c (mv hN (q 5)) rfl (c (assign (ltN hN rfl) (q 17)) rfl cn))
    apply AWp.ret
    apply blkQ_r
    apply seqQ_r
    obtain rfl:=oi h
    exact⟨(fun hc=>by cases hc),rfl,(mp [] _ _ hB)⟩
   ·have h:=ite_f hg15 h
    apply AWp.skip
    apply blkQ_n
    apply seqQ_n
    apply rg (c (add6 (ltN hN rfl) (q 8) (ii 1)) rfl (c (mv hN (q 18)) rfl cn))
    obtain rfl:=oi h
    exact⟨rfl,(mp [] _ _ hB)⟩
  ·have h:=ite_f hg12 h
   apply AWp.exit
   apply seqQ_e
   obtain rfl:=oi h
   exact⟨(fun hc=>by cases hc),rfl,(mp [] _ _ hB)⟩
 ·rcases x16 with p10 | _
  ·obtain⟨rfl,hmat⟩:=hR
   apply blkQ_r
   apply seqQ_r
   obtain rfl:=oi h
   exact rt (Mat.trans hmat (mp [] [(4,(i6 p10))] [(0,bd 66 (e_aSigned a1))] hB)) [(i6 p10)] (Res.tmp (by rfl) (by rfl) Res.nil) rfl
  ·obtain⟨rfl,hmat⟩:=hR
   apply blkQ_hit
   apply seqQ_n
   refine AWp.ghost hmat ?_
   apply sr (c (assign (ltN hN rfl) (ii (-1))) rfl cn)
   apply AWp.ret
   obtain rfl:=oi h
   exact rt (kp [(4,_)] [(0,some _)] hB rfl rfl (by rfl)) [(i6 (-1))] (Res.tmp (by rfl) (by rfl) Res.nil) rfl
def slices_ContainsFunc_2 (a0:(List aObject)) (a1:aSigned):Option (Bool) :=
 (slices_IndexFunc_2 a0 a1).bind fun r1 =>
 some (decide (0≤r1))
theorem slices_ContainsFunc_2_ac (a0:(List aObject)) (a1:aSigned) (r:Bool) (h:slices_ContainsFunc_2 a0 a1=some r):AC Tryz.prog 91 [(.d (.list 6 (a0.map e_aObject))),(.func 88 [(pt 0)])] [(0,(.box 66 (.d (e_aSigned a1))))] (.d (.bool r)) [(0,bd 66 (e_aSigned a1))]:=by
 refine AC.of_code2 Tryz.func91 rfl rfl (Nat.le_of_ble_eq_true (by rfl)) fun B hB hN => ?_
 delta slices_ContainsFunc_2 at h
 apply sr (c (assign (ltN hN rfl) (Opd.bool false)) rfl cn)
 apply AWp.seq
 obtain⟨r1,hr1,h⟩:=bindS h
 refine AWp.region (oc (mv hN (ot 0 (qe_aObject_6 a0)))
 (oc (mv hN (ot 1 (.func 88 [(pt 0)])))
 (oc (OpJ.callFn hB fnOk106 (slices_IndexFunc_2_ac a0 a1 r1 hr1) [(0,0)] (by kernel_rfl) (ltN hN rfl) (by kernel_rfl) (OpdL.cons (ot 5 (qe_aObject_6 a0)) (OpdL.cons (ot 6 (.func 88 [(pt 0)])) OpdL.nil)))
 (oc (geq (ltN hN rfl) (ot 7 (i6 r1)) (ii 0))
 (oc (assign (ltN hN rfl) (ot 8 (bo (decide (0≤r1)))))
 (OpJs.nil)))))) (by rfl) (by rfl) ?_
 apply seqQ_n
 refine AWp.ghost (mp [] [(4,(bo (decide (0≤r1))))] [(0,bd 66 (e_aSigned a1))] hB) ?_
 apply AWp.ret
 obtain rfl:=oi h
 exact rt (kp [(4,_)] [(0,some _)] hB rfl rfl (by rfl)) [(bo (decide (0≤r1)))] (Res.tmp (by rfl) (by rfl) Res.nil) rfl
def origin_formed (a0:aSigned):Option (Bool) :=
 jn (fun m3:Bool =>
 some m3) (fun j4 =>
 (if (((decide (0≤a0.fASN))&&(decide (a0.fASN≤4294967295)))&&(decide ((a0.fObjects.length:Int)≤512)))=true then
 (slices_ContainsFunc_2 a0.fObjects a0).bind fun r6 =>
 j4 (!r6)
 else
 j4 false))
theorem origin_formed_ac (a0:aSigned) (r:Bool) (h:origin_formed a0=some r):AC Tryz.prog 71 [(.d (e_aSigned a0))] [] (.d (.bool r)) []:=by
 refine ac2 Tryz.func71 rfl rfl fun B hB hN L => ?_
 delta origin_formed at h
 apply sr (cg (OpJ.box hB (nm:=1001) (by decide) (by simp) rfl (L rfl) (q 0)) rfl (c (assign (L rfl) (Opd.bool false)) rfl cn))
 apply sr (cg (OpJ.makeF (OpdL.cons (q 1) OpdL.nil) rfl rfl (L rfl)) rfl (c (assign (L rfl) (q 4)) rfl cn))
 apply AWp.seq
 refine AWp.cut h (fun m3:Bool=>([(2,(bo m3))]:EL)) (fun m3:Bool=>([]:OL)) (fun m3 h E' O' hmat => ?_) (fun j4 hjj4 h => ?_)
 ·apply seqQ_n
  refine AWp.ghost hmat ?_
  apply AWp.ret
  obtain rfl:=oi h
  exact rt (kp [(2,_)] [] hB rfl rfl (by rfl)) [(bo m3)] (Res.tmp (by rfl) (by rfl) Res.nil) rfl
 ·rcases bft (((decide (0≤a0.fASN))&&(decide (a0.fASN≤4294967295)))&&(decide ((a0.fObjects.length:Int)≤512))) with hg5 | hg5
  ·have h:=ite_t hg5 h
   obtain⟨r6,hr6,h⟩:=bindS h
   refine AWp.region (oc (ov (.ptr 1001 1 [1]) (fp hN underlying66 1 tyS3 (.box 66 (.d (e_aSigned a0))) (ot 1 (pt 1001))))
    (oc (lb hN 66 (.d (e_aSigned a0)) (i6 a0.fASN) tyS3 (ad (.int .i64 a0.fASN)) (ot 5 (.ptr 1001 1 [1])))
    (oc (geq (L rfl) (ot 6 (i6 a0.fASN)) (ii 0))
    (oc (mv hN (ot 7 (bo (decide (0≤a0.fASN)))))
    (oc (op hN 8 (.ptr 1001 1 [1]) (ov (.ptr 1001 1 [1]) (fp hN underlying66 1 tyS3 (.box 66 (.d (e_aSigned a0))) (ot 1 (pt 1001)))) (OptL.keep rfl OptL.nil) (GuardV.plain _))
    (oc (op hN 8 (i6 a0.fASN) (lb hN 66 (.d (e_aSigned a0)) (i6 a0.fASN) tyS3 (ad (.int .i64 a0.fASN)) (ot 9 (.ptr 1001 1 [1]))) (OptL.opt OptL.nil) (GuardV.plain _))
    (oc (op hN 8 (bo (decide (a0.fASN≤4294967295))) (leq (L rfl) (ot 10 (i6 a0.fASN)) (ii 4294967295)) (OptL.opt OptL.nil) (GuardV.plain _))
    (oc (pickAnd rfl (L rfl) (ot 8 (bo (decide (0≤a0.fASN)))) (ot 11 (.opt ((decide (0≤a0.fASN))==true) (bo (decide (a0.fASN≤4294967295))))))
    (oc (mv hN (ot 12 (bo ((decide (0≤a0.fASN))&&(decide (a0.fASN≤4294967295))))))
    (oc (op hN 13 (.ptr 1001 4 [4]) (ov (.ptr 1001 4 [4]) (fp hN underlying66 4 tyS38 (.box 66 (.d (e_aSigned a0))) (ot 1 (pt 1001)))) (OptL.keep rfl OptL.nil) (GuardV.plain _))
    (oc (op hN 13 (qe_aObject_6 a0.fObjects) (lb hN 66 (.d (e_aSigned a0)) (qe_aObject_6 a0.fObjects) tyS38 (ad (.list 6 (a0.fObjects.map e_aObject))) (ot 14 (.ptr 1001 4 [4]))) (OptL.opt OptL.nil) (GuardV.plain _))
    (oc (op hN 13 (i6 (a0.fObjects.length:Int)) (OpJ.val (v':=(i6 (a0.fObjects.length:Int))) (by simp) (lenD underlying38 (L rfl) (ot 15 (qe_aObject_6 a0.fObjects)))) (OptL.opt OptL.nil) (GuardV.plain _))
    (oc (op hN 13 (bo (decide ((a0.fObjects.length:Int)≤512))) (leq (L rfl) (ot 16 (i6 (a0.fObjects.length:Int))) (ii 512)) (OptL.opt OptL.nil) (GuardV.plain _))
    (oc (pickAnd rfl (L rfl) (ot 13 (bo ((decide (0≤a0.fASN))&&(decide (a0.fASN≤4294967295))))) (ot 17 (.opt (((decide (0≤a0.fASN))&&(decide (a0.fASN≤4294967295)))==true) (bo (decide ((a0.fObjects.length:Int)≤512))))))
    (oc (OpJ.val (v':=.d (.bool true)) (by rw [hg5]<;>rfl) (mv hN (ot 18 (bo (((decide (0≤a0.fASN))&&(decide (a0.fASN≤4294967295)))&&(decide ((a0.fObjects.length:Int)≤512)))))))
    (oc (gd 19 (ov (.ptr 1001 4 [4]) (fp hN underlying66 4 tyS38 (.box 66 (.d (e_aSigned a0))) (ot 1 (pt 1001)))))
    (oc (gd 19 (lb hN 66 (.d (e_aSigned a0)) (qe_aObject_6 a0.fObjects) tyS38 (ad (.list 6 (a0.fObjects.map e_aObject))) (ot 20 (.ptr 1001 4 [4]))))
    (oc (gd 19 (mv hN (ot 3 (.func 88 [(pt 1001)]))))
    (oc (gd 19 (OpJ.callFn hB fnOk91 (slices_ContainsFunc_2_ac a0.fObjects a0 r6 hr6) [(0,1001)] (by kernel_rfl) (L rfl) (by kernel_rfl) (OpdL.cons (ot 21 (qe_aObject_6 a0.fObjects)) (OpdL.cons (ot 22 (.func 88 [(pt 1001)])) OpdL.nil))))
    (oc (gd 19 (OpJ.not (L rfl) (ot 23 (bo r6))))
    (oc (pickT (L rfl) (ot 19 (bo true)) (ot 24 (bo (!r6))))
    (oc (assign (L rfl) (ot 25 (bo (!r6))))
    (OpJs.nil))))))))))))))))))))))) (by rfl) (by rfl) ?_
   exact hjj4 _ h _ _ (mp [] _ _ hB)
  ·have h:=ite_f hg5 h
   apply rg (c (fo 1001 1 [1] hN underlying66 1 tyS3 (q 1)) rfl (c (la hN 66 tyS3 (q 5)) rfl (c (geq (L rfl) (q 6) (ii 0)) rfl (c (mv hN (q 7)) rfl (c (oq hN 8 (fo 1001 1 [1] hN underlying66 1 tyS3 (q 1)) (OptL.keep (by rfl) OptL.nil) (GuardV.plain _)) rfl (c (oq hN 8 (la hN 66 tyS3 (q 9)) (OptL.opt OptL.nil) (GuardV.plain _)) rfl (c (oq hN 8 (leq (L rfl) (q 10) (ii 4294967295)) (OptL.opt OptL.nil) (GuardV.plain _)) rfl (c (pickAnd rfl (L rfl) (q 8) (q 11)) rfl (c (mv hN (q 12)) rfl (c (oq hN 13 (fo 1001 4 [4] hN underlying66 4 tyS38 (q 1)) (OptL.keep (by rfl) OptL.nil) (GuardV.plain _)) rfl (c (oq hN 13 (la hN 66 tyS38 (q 14)) (OptL.opt OptL.nil) (GuardV.plain _)) rfl (c (oq hN 13 (OpJ.val (v':=(i6 (a0.fObjects.length:Int))) (by simp) (lenD underlying38 (L rfl) (q 15))) (OptL.opt OptL.nil) (GuardV.plain _)) rfl (c (oq hN 13 (leq (L rfl) (q 16) (ii 512)) (OptL.opt OptL.nil) (GuardV.plain _)) rfl (c (pickAnd rfl (L rfl) (q 13) (q 17)) rfl (c (OpJ.val (v':=.d (.bool false)) (by rw [hg5]<;>rfl) (mv hN (q 18))) rfl (ks 19 (L rfl) (ks 19 (L rfl) (ks 19 (L rfl) (ks 19 (L rfl) (ks 19 (L rfl) (c (pickF (L rfl) (q 19) (Opd.bool false)) rfl (c (assign (L rfl) (q 25)) rfl cn))))))))))))))))))))))
   exact hjj4 _ h _ _ (mp [] _ _ hB)
def prefix_Last (a0:aPrefix):Option (aAddr) :=
 (prefix_Valid a0).bind fun r1 =>
 (if (!r1)=true then
 some (aAddr.mk false 0 0)
 else
 (prefix_width a0.fAddr).bind fun r3 =>
 (prefix_masks (w64 (r3-a0.fLen))).bind fun r4 =>
 some (aAddr.mk a0.fAddr.fV6 (bitI .or .u64 a0.fAddr.fHi r4.1) (bitI .or .u64 a0.fAddr.fLo r4.2)))
theorem prefix_Last_ac (a0:aPrefix) (r:aAddr) (h:prefix_Last a0=some r):AC Tryz.prog 110 [(.d (e_aPrefix a0))] [] (.d (e_aAddr r)) []:=by
 refine ac2 Tryz.func110 rfl rfl fun B hB hN L => ?_
 delta prefix_Last at h
 apply sr (cg (OpJ.box hB (nm:=1001) (by decide) (by simp) rfl (L rfl) (q 0)) rfl (cg (alloc hB tyZ44 (nm:=1002) (by decide) (L rfl)) rfl cn))
 apply AWp.seq
 obtain⟨r1,hr1,h⟩:=bindS h
 apply sr (c (lb hN 46 _ _ tyS46 (At.here _) (q 1)) rfl (cg (cf hB fnOk89 (prefix_Valid_ac a0 r1 hr1) (L rfl) (OpdL.cons (q 5) OpdL.nil)) rfl (c (OpJ.not (L rfl) (q 6)) rfl cn)))
 apply AWp.cond rfl<;>intro hg2
 ·have h:=ite_t hg2 h
  apply sr (c (OpJ.coe (v:=(.st [(bo false),(.d (.int .u64 0)),(.d (.int .u64 0))])) (y:=(.st [(.bool false),(.int .u64 0),(.int .u64 0)])) (Co.st (CoL.cons (Co.d _) (CoL.cons (Co.d _) (CoL.cons (Co.d _) CoL.nil)))) rfl (OpJ.build (places:=[(0,1),(1,1),(2,1)]) ⟨underlying44,fun w=>by kernel_rfl⟩ tyZS44 Opds.nil (by kernel_rfl) (r:=(.st [(bo false),(.d (.int .u64 0)),(.d (.int .u64 0))])) (by rfl) (L rfl))) rfl (cg (sB tyS44 (q 2) (q 8)) rfl cn))
  apply AWp.ret
  apply seqQ_r
  obtain rfl:=oi h
  exact rt (kp [(2,_)] [(1002,some _)] hB rfl rfl (by rfl)) [(.d (.st [(.bool false),(.int .u64 0),(.int .u64 0)]))] (Res.cell (c:=(.d (.st [(.bool false),(.int .u64 0),(.int .u64 0)]))) (by rfl) (by rfl) tyS44 (by rfl) (by rfl) (by rfl) Res.nil) rfl
 ·have h:=ite_f hg2 h
  apply AWp.skip
  apply seqQ_n
  obtain⟨r3,hr3,h⟩:=bindS h
  obtain⟨r4,hr4,h⟩:=bindS h
  apply sd (c (fo 1001 0 [0] hN underlying46 0 tyS44 (q 1)) rfl (c (la hN 46 tyS44 (q 10)) rfl (cg (cf hB fnOk99 (prefix_width_ac a0.fAddr r3 hr3) (L rfl) (OpdL.cons (q 11) OpdL.nil)) rfl (c (fo 1001 3 [1] hN underlying46 3 tyS3 (q 1)) rfl (c (la hN 46 tyS3 (q 13)) rfl (c (sub6 (L rfl) (q 12) (q 14)) rfl (cg (cf hB fnOk122 (prefix_masks_ac (w64 (r3-a0.fLen)) r4 hr4) (L rfl) (OpdL.cons (q 15) OpdL.nil)) rfl (c (mv hN (q 16)) rfl (c (extract (by rfl) rfl (L rfl) (q 9)) rfl (c (extract (by rfl) rfl (L rfl) (q 9)) rfl (c (assign (L rfl) (q 17)) rfl (c (assign (L rfl) (q 18)) rfl cn)))))))))))) (by kernel_rfl) (by kernel_rfl)
  apply sr (c (fo 1001 0 [0] hN underlying46 0 tyS44 (q 1)) rfl (c (fo 1001 1 [0,1] hN underlying44 1 tyS42 (q 19)) rfl (c (lb hN 46 _ _ tyS42 (At.dst1 (by rfl) (by rfl) (ad _) (by first | rfl | omega)) (q 20)) rfl (c (mv hN (q 3)) rfl (c (OpJ.bits (.inr (.inl rfl)) (L rfl) (q 21) (q 22)) rfl (c (fo 1001 0 [0] hN underlying46 0 tyS44 (q 1)) rfl (c (fo 1001 1 [0,1] hN underlying44 1 tyS42 (q 24)) rfl (cg (OpJ.storeB tyS42 (SetAt.dst1 (by rfl) (by rfl) (SetAt.dst1 (by rfl) (by rfl) (SetAt.here _ _) (by rfl) (by rfl) (by first | rfl | omega)) (by rfl) (by rfl) (by first | rfl | omega)) (by rfl) (by rfl) (by simp) rfl (q 25) (q 23)) rfl cn))))))))
  apply sr (c (fo 1001 0 [0] hN underlying46 0 tyS44 (q 1)) rfl (c (fo 1001 2 [0,2] hN underlying44 2 tyS42 (q 26)) rfl (c (lb hN 46 _ _ tyS42 (At.dst1 (by rfl) (by rfl) (ad _) (by first | rfl | omega)) (q 27)) rfl (c (mv hN (q 4)) rfl (c (OpJ.bits (.inr (.inl rfl)) (L rfl) (q 28) (q 29)) rfl (c (fo 1001 0 [0] hN underlying46 0 tyS44 (q 1)) rfl (c (fo 1001 2 [0,2] hN underlying44 2 tyS42 (q 31)) rfl (cg (OpJ.storeB tyS42 (SetAt.dst1 (by rfl) (by rfl) (SetAt.dst1 (by rfl) (by rfl) (SetAt.here _ _) (by rfl) (by rfl) (by first | rfl | omega)) (by rfl) (by rfl) (by first | rfl | omega)) (by rfl) (by rfl) (by simp) rfl (q 32) (q 30)) rfl cn))))))))
  apply sr (c (fo 1001 0 [0] hN underlying46 0 tyS44 (q 1)) rfl (c (la hN 46 tyS44 (q 33)) rfl (cg (sB tyS44 (q 2) (q 34)) rfl cn)))
  apply AWp.ret
  obtain rfl:=oi h
  exact rt (kp [(2,_)] [(1002,some _)] hB rfl rfl (by rfl)) [(.d (.st [(.bool a0.fAddr.fV6),(.int .u64 (bitI .or .u64 a0.fAddr.fHi r4.1)),(.int .u64 (bitI .or .u64 a0.fAddr.fLo r4.2))]))] (Res.cell (c:=(.d (.st [(.bool a0.fAddr.fV6),(.int .u64 (bitI .or .u64 a0.fAddr.fHi r4.1)),(.int .u64 (bitI .or .u64 a0.fAddr.fLo r4.2))]))) (by rfl) (by rfl) tyS44 (by rfl) (by rfl) (by rfl) Res.nil) rfl
def resource_HasPrefix_1 (a0:aRange) (a1:aPrefix):Option (Bool) :=
 jn (fun m6:Bool =>
 some m6) (fun j7 =>
 (addr_Cmp a0.fFrom a1.fAddr).bind fun r8 =>
 (if (decide (r8≤0))=true then
 (prefix_Last a1).bind fun r10 =>
 (addr_Cmp r10 a0.fTo).bind fun r11 =>
 j7 (decide (r11≤0))
 else
 j7 false))
theorem resource_HasPrefix_1_ac (a0:aRange) (a1:aPrefix) (r:Bool) (h:resource_HasPrefix_1 a0 a1=some r):AC Tryz.prog 108 [(.d (e_aRange a0)),(pt 0)] [(0,(.box 46 (.d (e_aPrefix a1))))] (.d (.bool r)) [(0,bd 46 (e_aPrefix a1))]:=by
 refine ac2 Tryz.func108 rfl rfl fun B hB hN L => ?_
 delta resource_HasPrefix_1 at h
 apply sr (cg (OpJ.box hB (nm:=1002) (by decide) (by simp) rfl (L rfl) (q 0)) rfl (c (assign (L rfl) (Opd.bool false)) rfl cn))
 apply AWp.seq
 refine AWp.cut h (fun m6:Bool=>([(3,(bo m6))]:EL)) (fun m6:Bool=>([(0,bd 46 (e_aPrefix a1))]:OL)) (fun m6 h E' O' hmat => ?_) (fun j7 hjj7 h => ?_)
 ·apply seqQ_n
  refine AWp.ghost hmat ?_
  apply AWp.ret
  obtain rfl:=oi h
  exact rt (kp [(3,_)] [(0,some _)] hB rfl rfl (by rfl)) [(bo m6)] (Res.tmp (by rfl) (by rfl) Res.nil) rfl
 ·obtain⟨r8,hr8,h⟩:=bindS h
  rcases bft (decide (r8≤0)) with hg9 | hg9
  ·have h:=ite_t hg9 h
   obtain⟨r10,hr10,h⟩:=bindS h
   obtain⟨r11,hr11,h⟩:=bindS h
   apply dr (c (fo 1002 0 [0] hN underlying92 0 tyS44 (q 2)) rfl (c (la hN 92 tyS44 (q 4)) rfl (c (fo 0 0 [0] hN underlying46 0 tyS44 (q 1)) rfl (c (la hN 46 tyS44 (q 6)) rfl (cg (cf hB fnOk109 (addr_Cmp_ac a0.fFrom a1.fAddr r8 hr8) (L rfl) (OpdL.cons (q 5) (OpdL.cons (q 7) OpdL.nil))) rfl (c (leq (L rfl) (q 8) (ii 0)) rfl (c (OpJ.val (v':=.d (.bool true)) (by rw [hg9]<;>rfl) (mv hN (q 9))) rfl (c (gd 10 (lb hN 46 _ _ tyS46 (At.here _) (q 1))) rfl (cg (gd 10 (cf hB fnOk110 (prefix_Last_ac a1 r10 hr10) (L rfl) (OpdL.cons (q 11) OpdL.nil))) rfl (c (gd 10 (fo 1002 3 [1] hN underlying92 3 tyS44 (q 2))) rfl (c (gd 10 (la hN 92 tyS44 (q 13))) rfl (cg (gd 10 (cf hB fnOk109 (addr_Cmp_ac r10 a0.fTo r11 hr11) (L rfl) (OpdL.cons (q 12) (OpdL.cons (q 14) OpdL.nil)))) rfl (c (gd 10 (leq (L rfl) (q 15) (ii 0))) rfl (c (pickT (L rfl) (q 10) (q 16)) rfl (c (assign (L rfl) (q 17)) rfl cn))))))))))))))) (by kernel_rfl) (by kernel_rfl)
   exact hjj7 _ h _ _ (mp [] _ _ hB)
  ·have h:=ite_f hg9 h
   apply dr (c (fo 1002 0 [0] hN underlying92 0 tyS44 (q 2)) rfl (c (la hN 92 tyS44 (q 4)) rfl (c (fo 0 0 [0] hN underlying46 0 tyS44 (q 1)) rfl (c (la hN 46 tyS44 (q 6)) rfl (cg (cf hB fnOk109 (addr_Cmp_ac a0.fFrom a1.fAddr r8 hr8) (L rfl) (OpdL.cons (q 5) (OpdL.cons (q 7) OpdL.nil))) rfl (c (leq (L rfl) (q 8) (ii 0)) rfl (c (OpJ.val (v':=.d (.bool false)) (by rw [hg9]<;>rfl) (mv hN (q 9))) rfl (ks 10 (L rfl) (ks 10 (L rfl) (ks 10 (L rfl) (ks 10 (L rfl) (ks 10 (L rfl) (ks 10 (L rfl) (c (pickF (L rfl) (q 10) (Opd.bool false)) rfl (c (assign (L rfl) (q 17)) rfl cn))))))))))))))) (by kernel_rfl) (by kernel_rfl)
   exact hjj7 _ h _ _ (mp [] _ _ hB)
def slices_IndexFunc_4_L0 (a0:(List aRange)) (a1:aPrefix) (s1:Int):Option (((Int)⊕(Unit))⊕(Int)) :=
 (if (decide (s1<(a0.length:Int)))=true then
 (idx a0 s1).bind fun x13 =>
 (resource_HasPrefix_1 x13 a1).bind fun r14 =>
 (if r14=true then
 some (.inl (.inl s1))
 else
 some (.inr (w64 (s1+1))))
 else
 some (.inl (.inr ())))
def slices_IndexFunc_4 (a0:(List aRange)) (a1:aPrefix):Option (Int) :=
 (loop (slices_IndexFunc_4_L0 a0 a1) 0).bind fun x16=>match x16 with
 | (.inl p10) =>
  some p10
 | (.inr _) =>
  some (-1)
theorem slices_IndexFunc_4_ac (a0:(List aRange)) (a1:aPrefix) (r:Int) (h:slices_IndexFunc_4 a0 a1=some r):AC Tryz.prog 123 [(.d (.list 6 (a0.map e_aRange))),(.func 108 [(pt 0)])] [(0,(.box 46 (.d (e_aPrefix a1))))] (.d (.int .i64 r)) [(0,bd 46 (e_aPrefix a1))]:=by
 refine AC.of_code2 Tryz.func123 rfl rfl (Nat.le_of_ble_eq_true (by rfl)) fun B hB hN => ?_
 delta slices_IndexFunc_4 at h
 apply sr (c (assign (ltN hN rfl) (ii 0)) rfl cn)
 apply AWp.seq
 apply sr (c (mv hN (q 0)) rfl (c (OpJ.val (v':=(i6 (a0.length:Int))) (by simp) (lenD underlying54 (ltN hN rfl) (q 6))) rfl (c (mv hN (ii 0)) rfl cn)))
 apply AWp.block
 obtain⟨x16,hx17,h⟩:=bindS h
 refine lg (slices_IndexFunc_4_L0 a0 a1) (fun s1:Int=>([(0,(qe_aRange_6 a0)),(1,(.func 108 [(pt 0)])),(7,(i6 (a0.length:Int))),(8,(i6 s1))]:EL)) (fun s1:Int=>([(0,bd 46 (e_aPrefix a1))]:OL)) (fun(x:(Int)⊕(Unit)) e E' O'=>match x with | (.inl p10)=>e = .ret∧Mat B E' O' ([(4,(i6 p10))]:EL) ([(0,bd 46 (e_aPrefix a1))]:OL) | (.inr _p)=>e = .exit 0∧Mat B E' O' ([]:EL) ([(0,bd 46 (e_aPrefix a1))]:OL)) hx17 (mp [] _ _ hB) (fun s1 y h => ?_) (fun e E' O' hR => ?_)
 ·unfold slices_IndexFunc_4_L0 at h
  apply sr (c (lss (ltN hN rfl) (q 8) (q 7)) rfl cn)
  apply AWp.seq
  apply AWp.cond rfl<;>intro hg12
  ·have h:=ite_t hg12 h
   apply AWp.skip
   apply seqQ_n
   apply AWp.seq
   apply AWp.block
   apply sr (c (mv hN (q 8)) rfl (c (assign (ltN hN rfl) (q 10)) rfl cn))
   apply AWp.seq
   obtain⟨x13,hx13,h⟩:=bindS h
   obtain⟨r14,hr14,h⟩:=bindS h
   refine AWp.region (oc (mv hN (ot 1 (.func 108 [(pt 0)])))
    (oc (mv hN (ot 0 (qe_aRange_6 a0)))
    (oc (mv hN (ot 5 (i6 s1)))
    (oc (indexD (el:=(e_aRange x13)) underlying54 tyS92 (idx_some hx13).1 (get_map e_aRange (idx_some hx13).2) (ltN hN rfl) (ot 12 (qe_aRange_6 a0)) (ot 13 (i6 s1)))
    (oc (loadD tyS92 (by rfl) (by rfl) (ltN hN rfl) (ot 14 (.dptr (e_aRange x13))))
    (oc (callVal (args:=[(.d (e_aRange x13))]) (caps:=[(pt 0)]) hB fnOk108 [(0,0)] (resource_HasPrefix_1_ac x13 a1 r14 hr14) (by kernel_rfl) (ltN hN rfl) (by kernel_rfl) (by kernel_rfl) (OpdL.cons (ot 15 (.d (e_aRange x13))) OpdL.nil))
    (OpJs.nil))))))) (by rfl) (by rfl) ?_
   apply seqQ_n
   refine AWp.ghost (mp [] [(0,(qe_aRange_6 a0)),(1,(.func 108 [(pt 0)])),(5,(i6 s1)),(7,(i6 (a0.length:Int))),(8,(i6 s1)),(16,(bo r14))] [(0,bd 46 (e_aPrefix a1))] hB) ?_
   apply AWp.cond rfl<;>intro hg15
   ·have h:=ite_t hg15 h
    apply sr (c (mv hN (q 5)) rfl (c (assign (ltN hN rfl) (q 17)) rfl cn))
    apply AWp.ret
    apply blkQ_r
    apply seqQ_r
    obtain rfl:=oi h
    exact⟨(fun hc=>by cases hc),rfl,(mp [] _ _ hB)⟩
   ·have h:=ite_f hg15 h
    apply AWp.skip
    apply blkQ_n
    apply seqQ_n
    apply rg (c (add6 (ltN hN rfl) (q 8) (ii 1)) rfl (c (mv hN (q 18)) rfl cn))
    obtain rfl:=oi h
    exact⟨rfl,(mp [] _ _ hB)⟩
  ·have h:=ite_f hg12 h
   apply AWp.exit
   apply seqQ_e
   obtain rfl:=oi h
   exact⟨(fun hc=>by cases hc),rfl,(mp [] _ _ hB)⟩
 ·rcases x16 with p10 | _
  ·obtain⟨rfl,hmat⟩:=hR
   apply blkQ_r
   apply seqQ_r
   obtain rfl:=oi h
   exact rt (Mat.trans hmat (mp [] [(4,(i6 p10))] [(0,bd 46 (e_aPrefix a1))] hB)) [(i6 p10)] (Res.tmp (by rfl) (by rfl) Res.nil) rfl
  ·obtain⟨rfl,hmat⟩:=hR
   apply blkQ_hit
   apply seqQ_n
   refine AWp.ghost hmat ?_
   apply sr (c (assign (ltN hN rfl) (ii (-1))) rfl cn)
   apply AWp.ret
   obtain rfl:=oi h
   exact rt (kp [(4,_)] [(0,some _)] hB rfl rfl (by rfl)) [(i6 (-1))] (Res.tmp (by rfl) (by rfl) Res.nil) rfl
def slices_ContainsFunc_4 (a0:(List aRange)) (a1:aPrefix):Option (Bool) :=
 (slices_IndexFunc_4 a0 a1).bind fun r1 =>
 some (decide (0≤r1))
theorem slices_ContainsFunc_4_ac (a0:(List aRange)) (a1:aPrefix) (r:Bool) (h:slices_ContainsFunc_4 a0 a1=some r):AC Tryz.prog 107 [(.d (.list 6 (a0.map e_aRange))),(.func 108 [(pt 0)])] [(0,(.box 46 (.d (e_aPrefix a1))))] (.d (.bool r)) [(0,bd 46 (e_aPrefix a1))]:=by
 refine AC.of_code2 Tryz.func107 rfl rfl (Nat.le_of_ble_eq_true (by rfl)) fun B hB hN => ?_
 delta slices_ContainsFunc_4 at h
 apply sr (c (assign (ltN hN rfl) (Opd.bool false)) rfl cn)
 apply AWp.seq
 obtain⟨r1,hr1,h⟩:=bindS h
 refine AWp.region (oc (mv hN (ot 0 (qe_aRange_6 a0)))
 (oc (mv hN (ot 1 (.func 108 [(pt 0)])))
 (oc (OpJ.callFn hB fnOk123 (slices_IndexFunc_4_ac a0 a1 r1 hr1) [(0,0)] (by kernel_rfl) (ltN hN rfl) (by kernel_rfl) (OpdL.cons (ot 5 (qe_aRange_6 a0)) (OpdL.cons (ot 6 (.func 108 [(pt 0)])) OpdL.nil)))
 (oc (geq (ltN hN rfl) (ot 7 (i6 r1)) (ii 0))
 (oc (assign (ltN hN rfl) (ot 8 (bo (decide (0≤r1)))))
 (OpJs.nil)))))) (by rfl) (by rfl) ?_
 apply seqQ_n
 refine AWp.ghost (mp [] [(4,(bo (decide (0≤r1))))] [(0,bd 46 (e_aPrefix a1))] hB) ?_
 apply AWp.ret
 obtain rfl:=oi h
 exact rt (kp [(4,_)] [(0,some _)] hB rfl rfl (by rfl)) [(bo (decide (0≤r1)))] (Res.tmp (by rfl) (by rfl) Res.nil) rfl
def resource_HasPrefix (a0:aResources) (a1:aPrefix):Option (Bool) :=
 (slices_ContainsFunc_4 a0.fAddrs a1).bind fun r1 =>
 some r1
theorem resource_HasPrefix_ac (a0:aResources) (a1:aPrefix) (r:Bool) (h:resource_HasPrefix a0 a1=some r):AC Tryz.prog 93 [(.d (e_aResources a0)),(.d (e_aPrefix a1))] [] (.d (.bool r)) []:=by
 refine AC.of_code2 Tryz.func93 rfl rfl (Nat.le_of_ble_eq_true (by rfl)) fun B hB hN => ?_
 delta resource_HasPrefix at h
 apply sr (cg (OpJ.box hB (nm:=1002) (by decide) (by simp) rfl (ltN hN rfl) (q 0)) rfl (cg (OpJ.box hB (nm:=1003) (by decide) (by simp) rfl (ltN hN rfl) (q 1)) rfl (c (assign (ltN hN rfl) (Opd.bool false)) rfl cn)))
 apply AWp.seq
 obtain⟨r1,hr1,h⟩:=bindS h
 refine AWp.region (oc (ov (.ptr 1002 0 [0]) (fp hN underlying57 0 tyS54 (.box 57 (.d (e_aResources a0))) (ot 2 (pt 1002))))
 (oc (lb hN 57 (.d (e_aResources a0)) (qe_aRange_6 a0.fAddrs) tyS54 (ad (.list 6 (a0.fAddrs.map e_aRange))) (ot 5 (.ptr 1002 0 [0])))
 (oc (OpJ.makeF (OpdL.cons (ot 3 (pt 1003)) OpdL.nil) rfl rfl (ltN hN rfl))
 (oc (OpJ.callFn hB fnOk107 (slices_ContainsFunc_4_ac a0.fAddrs a1 r1 hr1) [(0,1003)] (by kernel_rfl) (ltN hN rfl) (by kernel_rfl) (OpdL.cons (ot 6 (qe_aRange_6 a0.fAddrs)) (OpdL.cons (ot 7 (.func 108 [(pt 1003)])) OpdL.nil)))
 (oc (assign (ltN hN rfl) (ot 8 (bo r1)))
 (OpJs.nil)))))) (by rfl) (by rfl) ?_
 apply seqQ_n
 refine AWp.ghost (mp [] [(4,(bo r1))] [] hB) ?_
 apply AWp.ret
 obtain rfl:=oi h
 exact rt (kp [(4,_)] [] hB rfl rfl (by rfl)) [(bo r1)] (Res.tmp (by rfl) (by rfl) Res.nil) rfl
def origin_holds_1 (a0:aObject) (a1:aResources):Option (Bool) :=
 (resource_HasPrefix a1 a0.fPrefix).bind fun r1 =>
 some (!r1)
theorem origin_holds_1_ac (a0:aObject) (a1:aResources) (r:Bool) (h:origin_holds_1 a0 a1=some r):AC Tryz.prog 92 [(.d (e_aObject a0)),(pt 0)] [(0,(.box 57 (.d (e_aResources a1))))] (.d (.bool r)) [(0,bd 57 (e_aResources a1))]:=by
 refine AC.of_code2 Tryz.func92 rfl rfl (Nat.le_of_ble_eq_true (by rfl)) fun B hB hN => ?_
 delta origin_holds_1 at h
 apply sr (cg (OpJ.box hB (nm:=1002) (by decide) (by simp) rfl (ltN hN rfl) (q 0)) rfl (c (assign (ltN hN rfl) (Opd.bool false)) rfl cn))
 obtain⟨r1,hr1,h⟩:=bindS h
 apply sr (c (lb hN 57 _ _ tyS57 (At.here _) (q 1)) rfl (c (fo 1002 0 [0] hN underlying48 0 tyS46 (q 2)) rfl (c (la hN 48 tyS46 (q 5)) rfl (cg (OpJ.callFn hB fnOk93 (resource_HasPrefix_ac a1 a0.fPrefix r1 hr1) [] (by kernel_rfl) (ltN hN rfl) (by kernel_rfl) (OpdL.cons (q 4) (OpdL.cons (q 6) OpdL.nil))) rfl (c (OpJ.not (ltN hN rfl) (q 7)) rfl (c (assign (ltN hN rfl) (q 8)) rfl cn))))))
 apply AWp.ret
 obtain rfl:=oi h
 exact rt (kp [(3,_)] [(0,some _)] hB rfl rfl (by rfl)) [(bo (!r1))] (Res.tmp (by rfl) (by rfl) Res.nil) rfl
def slices_IndexFunc_3_L0 (a0:(List aObject)) (a1:aResources) (s1:Int):Option (((Int)⊕(Unit))⊕(Int)) :=
 (if (decide (s1<(a0.length:Int)))=true then
 (idx a0 s1).bind fun x13 =>
 (origin_holds_1 x13 a1).bind fun r14 =>
 (if r14=true then
 some (.inl (.inl s1))
 else
 some (.inr (w64 (s1+1))))
 else
 some (.inl (.inr ())))
def slices_IndexFunc_3 (a0:(List aObject)) (a1:aResources):Option (Int) :=
 (loop (slices_IndexFunc_3_L0 a0 a1) 0).bind fun x16=>match x16 with
 | (.inl p10) =>
  some p10
 | (.inr _) =>
  some (-1)
theorem slices_IndexFunc_3_ac (a0:(List aObject)) (a1:aResources) (r:Int) (h:slices_IndexFunc_3 a0 a1=some r):AC Tryz.prog 106 [(.d (.list 6 (a0.map e_aObject))),(.func 92 [(pt 0)])] [(0,(.box 57 (.d (e_aResources a1))))] (.d (.int .i64 r)) [(0,bd 57 (e_aResources a1))]:=by
 refine AC.of_code2 Tryz.func106 rfl rfl (Nat.le_of_ble_eq_true (by rfl)) fun B hB hN => ?_
 delta slices_IndexFunc_3 at h
 apply sr (c (assign (ltN hN rfl) (ii 0)) rfl cn)
 apply AWp.seq
 apply sr (c (mv hN (q 0)) rfl (c (OpJ.val (v':=(i6 (a0.length:Int))) (by simp) (lenD underlying38 (ltN hN rfl) (q 6))) rfl (c (mv hN (ii 0)) rfl cn)))
 apply AWp.block
 obtain⟨x16,hx17,h⟩:=bindS h
 refine lg (slices_IndexFunc_3_L0 a0 a1) (fun s1:Int=>([(0,(qe_aObject_6 a0)),(1,(.func 92 [(pt 0)])),(7,(i6 (a0.length:Int))),(8,(i6 s1))]:EL)) (fun s1:Int=>([(0,bd 57 (e_aResources a1))]:OL)) (fun(x:(Int)⊕(Unit)) e E' O'=>match x with | (.inl p10)=>e = .ret∧Mat B E' O' ([(4,(i6 p10))]:EL) ([(0,bd 57 (e_aResources a1))]:OL) | (.inr _p)=>e = .exit 0∧Mat B E' O' ([]:EL) ([(0,bd 57 (e_aResources a1))]:OL)) hx17 (mp [] _ _ hB) (fun s1 y h => ?_) (fun e E' O' hR => ?_)
 ·unfold slices_IndexFunc_3_L0 at h
  apply sr (c (lss (ltN hN rfl) (q 8) (q 7)) rfl cn)
  apply AWp.seq
  apply AWp.cond rfl<;>intro hg12
  ·have h:=ite_t hg12 h
   apply AWp.skip
   apply seqQ_n
   apply AWp.seq
   apply AWp.block
   apply sr (c (mv hN (q 8)) rfl (c (assign (ltN hN rfl) (q 10)) rfl cn))
   apply AWp.seq
   obtain⟨x13,hx13,h⟩:=bindS h
   obtain⟨r14,hr14,h⟩:=bindS h
   refine AWp.region (oc (mv hN (ot 1 (.func 92 [(pt 0)])))
    (oc (mv hN (ot 0 (qe_aObject_6 a0)))
    (oc (mv hN (ot 5 (i6 s1)))
    (oc (indexD (el:=(e_aObject x13)) underlying38 tyS48 (idx_some hx13).1 (get_map e_aObject (idx_some hx13).2) (ltN hN rfl) (ot 12 (qe_aObject_6 a0)) (ot 13 (i6 s1)))
    (oc (loadD tyS48 (by rfl) (by rfl) (ltN hN rfl) (ot 14 (.dptr (e_aObject x13))))
    (oc (callVal (args:=[(.d (e_aObject x13))]) (caps:=[(pt 0)]) hB fnOk92 [(0,0)] (origin_holds_1_ac x13 a1 r14 hr14) (by kernel_rfl) (ltN hN rfl) (by kernel_rfl) (by kernel_rfl) (OpdL.cons (ot 15 (.d (e_aObject x13))) OpdL.nil))
    (OpJs.nil))))))) (by rfl) (by rfl) ?_
   apply seqQ_n
   refine AWp.ghost (mp [] [(0,(qe_aObject_6 a0)),(1,(.func 92 [(pt 0)])),(5,(i6 s1)),(7,(i6 (a0.length:Int))),(8,(i6 s1)),(16,(bo r14))] [(0,bd 57 (e_aResources a1))] hB) ?_
   apply AWp.cond rfl<;>intro hg15
   ·have h:=ite_t hg15 h
    apply sr (c (mv hN (q 5)) rfl (c (assign (ltN hN rfl) (q 17)) rfl cn))
    apply AWp.ret
    apply blkQ_r
    apply seqQ_r
    obtain rfl:=oi h
    exact⟨(fun hc=>by cases hc),rfl,(mp [] _ _ hB)⟩
   ·have h:=ite_f hg15 h
    apply AWp.skip
    apply blkQ_n
    apply seqQ_n
    apply rg (c (add6 (ltN hN rfl) (q 8) (ii 1)) rfl (c (mv hN (q 18)) rfl cn))
    obtain rfl:=oi h
    exact⟨rfl,(mp [] _ _ hB)⟩
  ·have h:=ite_f hg12 h
   apply AWp.exit
   apply seqQ_e
   obtain rfl:=oi h
   exact⟨(fun hc=>by cases hc),rfl,(mp [] _ _ hB)⟩
 ·rcases x16 with p10 | _
  ·obtain⟨rfl,hmat⟩:=hR
   apply blkQ_r
   apply seqQ_r
   obtain rfl:=oi h
   exact rt (Mat.trans hmat (mp [] [(4,(i6 p10))] [(0,bd 57 (e_aResources a1))] hB)) [(i6 p10)] (Res.tmp (by rfl) (by rfl) Res.nil) rfl
  ·obtain⟨rfl,hmat⟩:=hR
   apply blkQ_hit
   apply seqQ_n
   refine AWp.ghost hmat ?_
   apply sr (c (assign (ltN hN rfl) (ii (-1))) rfl cn)
   apply AWp.ret
   obtain rfl:=oi h
   exact rt (kp [(4,_)] [(0,some _)] hB rfl rfl (by rfl)) [(i6 (-1))] (Res.tmp (by rfl) (by rfl) Res.nil) rfl
def slices_ContainsFunc_3 (a0:(List aObject)) (a1:aResources):Option (Bool) :=
 (slices_IndexFunc_3 a0 a1).bind fun r1 =>
 some (decide (0≤r1))
theorem slices_ContainsFunc_3_ac (a0:(List aObject)) (a1:aResources) (r:Bool) (h:slices_ContainsFunc_3 a0 a1=some r):AC Tryz.prog 91 [(.d (.list 6 (a0.map e_aObject))),(.func 92 [(pt 0)])] [(0,(.box 57 (.d (e_aResources a1))))] (.d (.bool r)) [(0,bd 57 (e_aResources a1))]:=by
 refine AC.of_code2 Tryz.func91 rfl rfl (Nat.le_of_ble_eq_true (by rfl)) fun B hB hN => ?_
 delta slices_ContainsFunc_3 at h
 apply sr (c (assign (ltN hN rfl) (Opd.bool false)) rfl cn)
 apply AWp.seq
 obtain⟨r1,hr1,h⟩:=bindS h
 refine AWp.region (oc (mv hN (ot 0 (qe_aObject_6 a0)))
 (oc (mv hN (ot 1 (.func 92 [(pt 0)])))
 (oc (OpJ.callFn hB fnOk106 (slices_IndexFunc_3_ac a0 a1 r1 hr1) [(0,0)] (by kernel_rfl) (ltN hN rfl) (by kernel_rfl) (OpdL.cons (ot 5 (qe_aObject_6 a0)) (OpdL.cons (ot 6 (.func 92 [(pt 0)])) OpdL.nil)))
 (oc (geq (ltN hN rfl) (ot 7 (i6 r1)) (ii 0))
 (oc (assign (ltN hN rfl) (ot 8 (bo (decide (0≤r1)))))
 (OpJs.nil)))))) (by rfl) (by rfl) ?_
 apply seqQ_n
 refine AWp.ghost (mp [] [(4,(bo (decide (0≤r1))))] [(0,bd 57 (e_aResources a1))] hB) ?_
 apply AWp.ret
 obtain rfl:=oi h
 exact rt (kp [(4,_)] [(0,some _)] hB rfl rfl (by rfl)) [(bo (decide (0≤r1)))] (Res.tmp (by rfl) (by rfl) Res.nil) rfl
def origin_holds (a0:aResources) (a1:aSigned):Option (Bool) :=
 (slices_ContainsFunc_3 a1.fObjects a0).bind fun r1 =>
 some (!r1)
theorem origin_holds_ac (a0:aResources) (a1:aSigned) (r:Bool) (h:origin_holds a0 a1=some r):AC Tryz.prog 72 [(.d (e_aResources a0)),(.d (e_aSigned a1))] [] (.d (.bool r)) []:=by
 refine AC.of_code2 Tryz.func72 rfl rfl (Nat.le_of_ble_eq_true (by rfl)) fun B hB hN => ?_
 delta origin_holds at h
 apply sr (cg (OpJ.box hB (nm:=1002) (by decide) (by simp) rfl (ltN hN rfl) (q 0)) rfl (cg (OpJ.box hB (nm:=1003) (by decide) (by simp) rfl (ltN hN rfl) (q 1)) rfl (c (assign (ltN hN rfl) (Opd.bool false)) rfl cn)))
 apply AWp.seq
 obtain⟨r1,hr1,h⟩:=bindS h
 refine AWp.region (oc (ov (.ptr 1003 4 [4]) (fp hN underlying66 4 tyS38 (.box 66 (.d (e_aSigned a1))) (ot 3 (pt 1003))))
 (oc (lb hN 66 (.d (e_aSigned a1)) (qe_aObject_6 a1.fObjects) tyS38 (ad (.list 6 (a1.fObjects.map e_aObject))) (ot 5 (.ptr 1003 4 [4])))
 (oc (OpJ.makeF (OpdL.cons (ot 2 (pt 1002)) OpdL.nil) rfl rfl (ltN hN rfl))
 (oc (OpJ.callFn hB fnOk91 (slices_ContainsFunc_3_ac a1.fObjects a0 r1 hr1) [(0,1002)] (by kernel_rfl) (ltN hN rfl) (by kernel_rfl) (OpdL.cons (ot 6 (qe_aObject_6 a1.fObjects)) (OpdL.cons (ot 7 (.func 92 [(pt 1002)])) OpdL.nil)))
 (oc (OpJ.not (ltN hN rfl) (ot 8 (bo r1)))
 (oc (assign (ltN hN rfl) (ot 9 (bo (!r1))))
 (OpJs.nil))))))) (by rfl) (by rfl) ?_
 apply seqQ_n
 refine AWp.ghost (mp [] [(4,(bo (!r1)))] [] hB) ?_
 apply AWp.ret
 obtain rfl:=oi h
 exact rt (kp [(4,_)] [] hB rfl rfl (by rfl)) [(bo (!r1))] (Res.tmp (by rfl) (by rfl) Res.nil) rfl
def origin_explain_L0 (a0:(List aCert)) (a1:(List Bool)) (a2:aSigned) (s5:Int×Int):Option (((Unit)⊕(Int))⊕(Int×Int)) :=
 (if (decide (s5.2<(a0.length:Int)))=true then
 (idx a0 s5.2).bind fun x41 =>
 jn (fun m48:Int =>
 some (.inr (m48,(w64 (s5.2+1))))) (fun j49 =>
 (if (x41.fKey != a2.fKey)=true then
 j49 s5.1
 else
 (idx a1 s5.2).bind fun x51 =>
 (if (!x51)=true then
 (if (s5.1==11)=true then
 j49 16
 else
 j49 s5.1)
 else
 (origin_holds x41.fResources a2).bind fun r54 =>
 (if (!r54)=true then
 j49 17
 else
 some (.inl (.inl ()))))))
 else
 some (.inl (.inr s5.1)))
def origin_explain (a0:(List aCert)) (a1:(List Bool)) (a2:aSigned) (a3:Int):Option (Int) :=
 (origin_formed a2).bind fun r1 =>
 (if (!r1)=true then
 some 1
 else
 (origin_current a2.fFrom a2.fUntil a3).bind fun r3 =>
 (if (!r3)=true then
 some 14
 else
 (loop (origin_explain_L0 a0 a1 a2) (11,0)).bind fun x56=>match x56 with
 | (.inl _) =>
  some 0
 | (.inr p39) =>
  some p39))
theorem origin_explain_ac (a0:(List aCert)) (a1:(List Bool)) (a2:aSigned) (a3:Int) (r:Int) (h:origin_explain a0 a1 a2 a3=some r):AC Tryz.prog 41 [(.d (.list 6 (a0.map e_aCert))),(.d (.list 1 (a1.map eB))),(.d (e_aSigned a2)),(.d (.int .i64 a3))] [] (.d (.int .i64 r)) []:=by
 refine ac2 Tryz.func41 rfl rfl fun B hB hN L => ?_
 delta origin_explain at h
 apply sr (cg (OpJ.box hB (nm:=1006) (by decide) (by simp) rfl (L rfl) (q 2)) rfl (c (assign (L rfl) (ii 0)) rfl cn))
 apply AWp.seq
 apply AWp.block
 obtain⟨r1,hr1,h⟩:=bindS h
 apply sr (c (lb hN 66 _ _ tyS66 (At.here _) (q 6)) rfl (cg (cf hB fnOk71 (origin_formed_ac a2 r1 hr1) (L rfl) (OpdL.cons (q 13) OpdL.nil)) rfl (c (OpJ.not (L rfl) (q 14)) rfl (c (assign (L rfl) (q 15)) rfl cn))))
 apply AWp.cond rfl<;>intro hg2
 ·have h:=ite_t hg2 h
  apply sr (c (assign (L rfl) (ii 1)) rfl cn)
  apply AWp.ret
  apply blkQ_r
  apply seqQ_r
  obtain rfl:=oi h
  exact rt (kp [(8,_)] [] hB rfl rfl (by rfl)) [(i6 1)] (Res.tmp (by rfl) (by rfl) Res.nil) rfl
 ·have h:=ite_f hg2 h
  obtain⟨r3,hr3,h⟩:=bindS h
  apply sr (c (fo 1006 2 [2] hN underlying66 2 tyS3 (q 6)) rfl (c (la hN 66 tyS3 (q 17)) rfl (c (fo 1006 3 [3] hN underlying66 3 tyS3 (q 6)) rfl (c (la hN 66 tyS3 (q 19)) rfl (c (mv hN (q 3)) rfl (cg (cf hB fnOk31 (origin_current_ac a2.fFrom a2.fUntil a3 r3 hr3) (L rfl) (OpdL.cons (q 18) (OpdL.cons (q 20) (OpdL.cons (q 21) OpdL.nil)))) rfl (c (OpJ.not (L rfl) (q 22)) rfl (c (assign (L rfl) (q 23)) rfl cn))))))))
  apply AWp.cond rfl<;>intro hg4
  ·have h:=ite_t hg4 h
   apply sr (c (assign (L rfl) (ii 14)) rfl cn)
   apply AWp.ret
   apply blkQ_r
   apply seqQ_r
   obtain rfl:=oi h
   exact rt (kp [(8,_)] [] hB rfl rfl (by rfl)) [(i6 14)] (Res.tmp (by rfl) (by rfl) Res.nil) rfl
  ·have h:=ite_f hg4 h
   apply AWp.skip
   apply blkQ_n
   apply seqQ_n
   apply sr (c (assign (L rfl) (ii 11)) rfl cn)
   apply AWp.seq
   apply sr (c (mv hN (q 0)) rfl (c (OpJ.val (v':=(i6 (a0.length:Int))) (by simp) (lenD underlying22 (L rfl) (q 24))) rfl (c (mv hN (ii 0)) rfl cn)))
   apply AWp.block
   obtain⟨x56,hx57,h⟩:=bindS h
   refine lg (origin_explain_L0 a0 a1 a2) (fun s5:Int×Int=>([(1,(.d (.list 1 (a1.map eB)))),(6,(pt 1006)),(9,(i6 s5.1)),(24,(qe_aCert_6 a0)),(25,(i6 (a0.length:Int))),(26,(i6 s5.2))]:EL)) (fun s5:Int×Int=>([(1006,bd 66 (e_aSigned a2))]:OL)) (fun(x:(Unit)⊕(Int)) e E' O'=>match x with | (.inl _p)=>e = .ret∧Mat B E' O' ([(8,(i6 0))]:EL) ([]:OL) | (.inr p39)=>e = .exit 1∧Mat B E' O' ([(9,(i6 p39))]:EL) ([]:OL)) hx57 (mp [] _ _ hB) (fun s5 y h => ?_) (fun e E' O' hR => ?_)
   ·unfold origin_explain_L0 at h
    apply sr (c (lss (L rfl) (q 26) (q 25)) rfl cn)
    apply AWp.seq
    apply AWp.cond rfl<;>intro hg40
    ·have h:=ite_t hg40 h
     apply AWp.skip
     apply seqQ_n
     apply AWp.seq
     apply AWp.block
     obtain⟨x41,hx41,h⟩:=bindS h
     apply sr (c (mv hN (q 26)) rfl (c (indexD underlying22 tyS59 (idx_some hx41).1 (get_map e_aCert (idx_some hx41).2) (L rfl) (q 24) (q 26)) rfl (c (loadD tyS59 (by rfl) (by rfl) (L rfl) (q 29)) rfl (cg (alloc hB tyZ59 (nm:=1011) (by decide) (L rfl)) rfl (c (assign (L rfl) (q 28)) rfl (cg (sB tyS59 (q 11) (q 30)) rfl cn))))))
     apply AWp.block
     apply sr (c (fo 1011 0 [0] hN underlying59 0 tyS3 (q 11)) rfl (c (la hN 59 tyS3 (q 32)) rfl (c (fo 1006 0 [0] hN underlying66 0 tyS3 (q 6)) rfl (c (la hN 66 tyS3 (q 34)) rfl (c (neqI (L rfl) (q 33) (q 35)) rfl (c (assign (L rfl) (q 36)) rfl cn))))))
     refine gh [(1,_),(6,_),(9,_),(10,_),(11,_),(24,_),(25,_),(26,_),(31,_)] [(1006,some _),(1011,some _)] hB rfl rfl (by rfl) ?_
     refine AWp.cut h (fun m48:Int=>([(1,(.d (.list 1 (a1.map eB)))),(6,(pt 1006)),(9,(i6 m48)),(24,(qe_aCert_6 a0)),(25,(i6 (a0.length:Int))),(26,(i6 s5.2))]:EL)) (fun m48:Int=>([(1006,bd 66 (e_aSigned a2))]:OL)) (fun m48 h E' O' hmat => ?_) (fun j49 hjj49 h => ?_)
     ·apply blkQ_n
      apply blkQ_n
      apply seqQ_n
      refine AWp.ghost hmat ?_
      apply rg (c (add6 (L rfl) (q 26) (ii 1)) rfl (c (mv hN (q 51)) rfl cn))
      obtain rfl:=oi h
      exact⟨rfl,(mp [] _ _ hB)⟩
     ·apply AWp.cond rfl<;>intro hg50
      ·have h:=ite_t hg50 h
       apply AWp.skip
       exact hjj49 _ h _ _ (mp [] _ _ hB)
      ·have h:=ite_f hg50 h
       obtain⟨x51,hx51,h⟩:=bindS h
       apply sr (c (mv hN (q 1)) rfl (c (mv hN (q 10)) rfl (c (indexD underlying35 tyS4 (idx_some hx51).1 (get_map eB (idx_some hx51).2) (L rfl) (q 38) (q 39)) rfl (c (loadD tyS4 (by rfl) (by rfl) (L rfl) (q 40)) rfl (c (OpJ.not (L rfl) (q 41)) rfl (c (assign (L rfl) (q 42)) rfl cn))))))
       apply AWp.cond rfl<;>intro hg52
       ·have h:=ite_t hg52 h
        apply sr (c (mv hN (q 9)) rfl (c (eqlI (L rfl) (q 43) (ii 11)) rfl cn))
        apply AWp.cond rfl<;>intro hg53
        ·have h:=ite_t hg53 h
         apply rg (c (assign (L rfl) (ii 16)) rfl cn)
         exact hjj49 _ h _ _ (mp [] _ _ hB)
        ·have h:=ite_f hg53 h
         apply AWp.skip
         exact hjj49 _ h _ _ (mp [] _ _ hB)
       ·have h:=ite_f hg52 h
        obtain⟨r54,hr54,h⟩:=bindS h
        apply sr (c (fo 1011 4 [4] hN underlying59 4 tyS57 (q 11)) rfl (c (la hN 59 tyS57 (q 46)) rfl (c (lb hN 66 _ _ tyS66 (At.here _) (q 6)) rfl (cg (cf hB fnOk72 (origin_holds_ac x41.fResources a2 r54 hr54) (L rfl) (OpdL.cons (q 47) (OpdL.cons (q 48) OpdL.nil))) rfl (c (OpJ.not (L rfl) (q 49)) rfl (c (assign (L rfl) (q 50)) rfl cn))))))
        apply AWp.cond rfl<;>intro hg55
        ·have h:=ite_t hg55 h
         apply rg (c (assign (L rfl) (ii 17)) rfl cn)
         exact hjj49 _ h _ _ (mp [] _ _ hB)
        ·have h:=ite_f hg55 h
         apply sr (c (assign (L rfl) (ii 0)) rfl cn)
         apply AWp.ret
         apply blkQ_r
         apply blkQ_r
         apply seqQ_r
         obtain rfl:=oi h
         exact⟨(fun hc=>by cases hc),rfl,(mp [] _ _ hB)⟩
    ·have h:=ite_f hg40 h
     apply AWp.exit
     apply seqQ_e
     obtain rfl:=oi h
     exact⟨(fun hc=>by cases hc),rfl,(mp [] _ _ hB)⟩
   ·rcases x56 with _ | p39
    ·obtain⟨rfl,hmat⟩:=hR
     apply blkQ_r
     apply seqQ_r
     obtain rfl:=oi h
     exact rt (Mat.trans hmat (mp [] [(8,(i6 0))] [] hB)) [(i6 0)] (Res.tmp (by rfl) (by rfl) Res.nil) rfl
    ·obtain⟨rfl,hmat⟩:=hR
     apply blkQ_hit
     apply seqQ_n
     refine AWp.ghost hmat ?_
     apply sr (c (mv hN (q 9)) rfl (c (assign (L rfl) (q 52)) rfl cn))
     apply AWp.ret
     obtain rfl:=oi h
     exact rt (kp [(8,_)] [] hB rfl rfl (by rfl)) [(i6 p39)] (Res.tmp (by rfl) (by rfl) Res.nil) rfl
def ext73_slices_Clone_R (a0:(List aObject)):Option (List aObject):=chk (decide (a0.length≤LIM)) <|
 some a0
theorem ext73_slices_Clone_R_ac (a0:(List aObject)) (r:List aObject) (h:ext73_slices_Clone_R a0=some r):AC Tryz.prog 73 [(.d (.list 6 (a0.map e_aObject)))] [] (.sref 900000 6 0 r.length) [(900000,some (.row 48 6 (r.map e_aObject)))]:=by
 obtain⟨hc,h⟩:=chk_some h
 obtain rfl:=oi h
 exact AC.cloneR cloneOk73 (by simp) (by rw [List.length_map];exact lim_mulN hc (by decide)) (map_sz (f:=e_aObject) (fun _=>rfl))
def prefix_Cmp (a0:aPrefix) (a1:aPrefix):Option (Int) :=
 (addr_Cmp a0.fAddr a1.fAddr).bind fun r1 =>
 (cmp_Compare a0.fLen a1.fLen).bind fun r2 =>
 (cmp_Or ([r1,r2]:List Int)).bind fun r3 =>
 some r3
theorem prefix_Cmp_ac (a0:aPrefix) (a1:aPrefix) (r:Int) (h:prefix_Cmp a0 a1=some r):AC Tryz.prog 97 [(.d (e_aPrefix a0)),(.d (e_aPrefix a1))] [] (.d (.int .i64 r)) []:=by
 refine AC.of_code2 Tryz.func97 rfl rfl (Nat.le_of_ble_eq_true (by rfl)) fun B hB hN => ?_
 delta prefix_Cmp at h
 apply sr (cg (OpJ.box hB (nm:=1002) (by decide) (by simp) rfl (ltN hN rfl) (q 0)) rfl (cg (OpJ.box hB (nm:=1003) (by decide) (by simp) rfl (ltN hN rfl) (q 1)) rfl (c (assign (ltN hN rfl) (ii 0)) rfl cn)))
 obtain⟨r1,hr1,h⟩:=bindS h
 obtain⟨r2,hr2,h⟩:=bindS h
 obtain⟨r3,hr3,h⟩:=bindS h
 apply sd (c (fo 1002 0 [0] hN underlying46 0 tyS44 (q 2)) rfl (c (la hN 46 tyS44 (q 5)) rfl (c (fo 1003 0 [0] hN underlying46 0 tyS44 (q 3)) rfl (c (la hN 46 tyS44 (q 7)) rfl (cg (OpJ.callFn hB fnOk109 (addr_Cmp_ac a0.fAddr a1.fAddr r1 hr1) [] (by kernel_rfl) (ltN hN rfl) (by kernel_rfl) (OpdL.cons (q 6) (OpdL.cons (q 8) OpdL.nil))) rfl (c (fo 1002 3 [1] hN underlying46 3 tyS3 (q 2)) rfl (c (la hN 46 tyS3 (q 10)) rfl (c (fo 1003 3 [1] hN underlying46 3 tyS3 (q 3)) rfl (c (la hN 46 tyS3 (q 12)) rfl (cg (OpJ.callFn hB fnOk98 (cmp_Compare_ac a0.fLen a1.fLen r2 hr2) [] (by kernel_rfl) (ltN hN rfl) (by kernel_rfl) (OpdL.cons (q 11) (OpdL.cons (q 13) OpdL.nil))) rfl (c (buildSlice underlying23 tyS3 tyZD3 (by rfl) (by decide) (by decide) (Opds.cons (q 9) (Opds.cons (q 14) Opds.nil)) (by kernel_rfl) (es:=([(.int .i64 r1),(.int .i64 r2)]:List D)) (by rfl) (by rfl) (by kernel_rfl) (by simp) (ltN hN rfl)) rfl (cg (OpJ.callFn hB fnOk96 (cmp_Or_ac ([r1,r2]:List Int) r3 hr3) [] (by kernel_rfl) (ltN hN rfl) (by kernel_rfl) (OpdL.cons (q 15) OpdL.nil)) rfl (c (assign (ltN hN rfl) (q 16)) rfl cn))))))))))))) (by kernel_rfl) (by kernel_rfl)
 apply AWp.ret
 obtain rfl:=oi h
 exact rt (kp [(4,_)] [] hB rfl rfl (by rfl)) [(i6 r3)] (Res.tmp (by rfl) (by rfl) Res.nil) rfl
def irr_Compare (a0:aObject) (a1:aObject):Option (Int) :=
 (prefix_Cmp a0.fPrefix a1.fPrefix).bind fun r1 =>
 (cmp_Compare a0.fMax a1.fMax).bind fun r2 =>
 (cmp_Compare a0.fASN a1.fASN).bind fun r3 =>
 (cmp_Or ([r1,r2,r3]:List Int)).bind fun r4 =>
 some r4
theorem irr_Compare_ac (a0:aObject) (a1:aObject) (r:Int) (h:irr_Compare a0 a1=some r):AC Tryz.prog 75 [(.d (e_aObject a0)),(.d (e_aObject a1))] [] (.d (.int .i64 r)) []:=by
 refine AC.of_code2 Tryz.func75 rfl rfl (Nat.le_of_ble_eq_true (by rfl)) fun B hB hN => ?_
 delta irr_Compare at h
 apply sr (cg (OpJ.box hB (nm:=1002) (by decide) (by simp) rfl (ltN hN rfl) (q 0)) rfl (cg (OpJ.box hB (nm:=1003) (by decide) (by simp) rfl (ltN hN rfl) (q 1)) rfl (c (assign (ltN hN rfl) (ii 0)) rfl cn)))
 obtain⟨r1,hr1,h⟩:=bindS h
 obtain⟨r2,hr2,h⟩:=bindS h
 obtain⟨r3,hr3,h⟩:=bindS h
 obtain⟨r4,hr4,h⟩:=bindS h
 apply sd (c (fo 1002 0 [0] hN underlying48 0 tyS46 (q 2)) rfl (c (la hN 48 tyS46 (q 5)) rfl (c (fo 1003 0 [0] hN underlying48 0 tyS46 (q 3)) rfl (c (la hN 48 tyS46 (q 7)) rfl (cg (OpJ.callFn hB fnOk97 (prefix_Cmp_ac a0.fPrefix a1.fPrefix r1 hr1) [] (by kernel_rfl) (ltN hN rfl) (by kernel_rfl) (OpdL.cons (q 6) (OpdL.cons (q 8) OpdL.nil))) rfl (c (fo 1002 4 [1] hN underlying48 4 tyS3 (q 2)) rfl (c (la hN 48 tyS3 (q 10)) rfl (c (fo 1003 4 [1] hN underlying48 4 tyS3 (q 3)) rfl (c (la hN 48 tyS3 (q 12)) rfl (cg (OpJ.callFn hB fnOk98 (cmp_Compare_ac a0.fMax a1.fMax r2 hr2) [] (by kernel_rfl) (ltN hN rfl) (by kernel_rfl) (OpdL.cons (q 11) (OpdL.cons (q 13) OpdL.nil))) rfl (c (fo 1002 5 [2] hN underlying48 5 tyS3 (q 2)) rfl (c (la hN 48 tyS3 (q 15)) rfl (c (fo 1003 5 [2] hN underlying48 5 tyS3 (q 3)) rfl (c (la hN 48 tyS3 (q 17)) rfl (cg (OpJ.callFn hB fnOk98 (cmp_Compare_ac a0.fASN a1.fASN r3 hr3) [] (by kernel_rfl) (ltN hN rfl) (by kernel_rfl) (OpdL.cons (q 16) (OpdL.cons (q 18) OpdL.nil))) rfl (c (buildSlice underlying23 tyS3 tyZD3 (by rfl) (by decide) (by decide) (Opds.cons (q 9) (Opds.cons (q 14) (Opds.cons (q 19) Opds.nil))) (by kernel_rfl) (es:=([(.int .i64 r1),(.int .i64 r2),(.int .i64 r3)]:List D)) (by rfl) (by rfl) (by kernel_rfl) (by simp) (ltN hN rfl)) rfl (cg (OpJ.callFn hB fnOk96 (cmp_Or_ac ([r1,r2,r3]:List Int) r4 hr4) [] (by kernel_rfl) (ltN hN rfl) (by kernel_rfl) (OpdL.cons (q 20) OpdL.nil)) rfl (c (assign (ltN hN rfl) (q 21)) rfl cn)))))))))))))))))) (by kernel_rfl) (by kernel_rfl)
 apply AWp.ret
 obtain rfl:=oi h
 exact rt (kp [(4,_)] [] hB rfl rfl (by rfl)) [(i6 r4)] (Res.tmp (by rfl) (by rfl) Res.nil) rfl
def ext74_slices_SortFunc_irr_Compare (a0:(List aObject)):Option (List aObject):=sortF a0 fun x y=>irr_Compare x y
theorem ext74_slices_SortFunc_irr_Compare_ac (a0:(List aObject)) (r:List aObject) (h:ext74_slices_SortFunc_irr_Compare a0=some r):AC Tryz.prog 74 [(.sref 0 6 0 a0.length),.func 75 []] [(0,(.row 48 6 (a0.map e_aObject)))] (.tup []) [(0,some (.row 48 6 (r.map e_aObject)))] :=
 AC.sortF e_aObject (fun x y=>irr_Compare x y) a0 r h sortOk74 fnOk75 (fun _=>rfl) rfl rfl (fun x y c hc=>irr_Compare_ac x y c hc)
def slices_Compact_L1 (a0:(List aObject)) (s2:Int) (s146:Int×Int×(List aObject)):Option (((Int×(List aObject)))⊕(Int×Int×(List aObject))) :=
 (if (decide (s146.2.1<(((a0.length-s2.toNat):Nat):Int)))=true then
 (idx ((s146.2.2.drop s2.toNat).take (a0.length-s2.toNat)) s146.2.1).bind fun x183 =>
 (idx ((s146.2.2.drop s2.toNat).take (a0.length-s2.toNat)) s146.2.1).bind fun x184 =>
 (idx ((s146.2.2.drop s2.toNat).take (a0.length-s2.toNat)) (w64 (s146.2.1-1))).bind fun x185 =>
 (idx ((s146.2.2.drop s2.toNat).take (a0.length-s2.toNat)) (w64 (s146.2.1-1))).bind fun x186 =>
 jn (fun m192:Int×(List aObject) =>
 some (.inr (m192.1,(w64 (s146.2.1+1)),m192.2))) (fun j193 =>
 (if (!((((x184.fPrefix.fAddr.fV6==x186.fPrefix.fAddr.fV6)&&((x184.fPrefix.fAddr.fHi==x186.fPrefix.fAddr.fHi)&&((x184.fPrefix.fAddr.fLo==x186.fPrefix.fAddr.fLo)&&true)))&&((x184.fPrefix.fLen==x186.fPrefix.fLen)&&true))&&((x184.fMax==x186.fMax)&&((x184.fASN==x186.fASN)&&true))))=true then
 (idx ((s146.2.2.drop s2.toNat).take (a0.length-s2.toNat)) s146.2.1).bind fun x195 =>
 (idx ((s146.2.2.drop s2.toNat).take (a0.length-s2.toNat)) s146.2.1).bind fun x196 =>
 (idx s146.2.2 s146.1).bind fun x197 =>
 (idx s146.2.2 s146.1).bind fun x198 =>
 j193 ((w64 (s146.1+1)),(s146.2.2.set s146.1.toNat x196))
 else
 j193 (s146.1,s146.2.2)))
 else
 some (.inl (s146.1,s146.2.2)))
def slices_Compact_L0 (a0:(List aObject)) (s2:Int):Option ((((List aObject))⊕(Unit))⊕(Int)) :=
 (if (decide (s2<(a0.length:Int)))=true then
 (idx a0 s2).bind fun x140 =>
 (idx a0 s2).bind fun x141 =>
 (idx a0 (w64 (s2-1))).bind fun x142 =>
 (idx a0 (w64 (s2-1))).bind fun x143 =>
 (if ((((x141.fPrefix.fAddr.fV6==x143.fPrefix.fAddr.fV6)&&((x141.fPrefix.fAddr.fHi==x143.fPrefix.fAddr.fHi)&&((x141.fPrefix.fAddr.fLo==x143.fPrefix.fAddr.fLo)&&true)))&&((x141.fPrefix.fLen==x143.fPrefix.fLen)&&true))&&((x141.fMax==x143.fMax)&&((x141.fASN==x143.fASN)&&true)))=true then
 chk ((decide (0≤s2)&&decide (s2.toNat≤a0.length)&&decide (a0.length≤a0.length))) <|
 (loop (slices_Compact_L1 a0 s2) (s2,1,a0)).bind fun p181 =>
 chk ((decide (0≤p181.1)&&decide (p181.1.toNat≤p181.2.length)&&decide (p181.2.length≤p181.2.length))) <|
 chk (decide (p181.1.toNat+(p181.2.length-p181.1.toNat)≤p181.2.length)) <|
 chk ((decide (0≤p181.1)&&decide (0≤p181.1.toNat)&&decide (p181.1.toNat≤p181.2.length))) <|
 chk (decide (p181.1.toNat≤(p181.2.take p181.1.toNat++List.replicate (p181.2.length-p181.1.toNat) (aObject.mk (aPrefix.mk (aAddr.mk false 0 0) 0) 0 0)++p181.2.drop (p181.1.toNat+(p181.2.length-p181.1.toNat))).length)) <|
 some (.inl (.inl ((p181.2.take p181.1.toNat++List.replicate (p181.2.length-p181.1.toNat) (aObject.mk (aPrefix.mk (aAddr.mk false 0 0) 0) 0 0)++p181.2.drop (p181.1.toNat+(p181.2.length-p181.1.toNat))).take p181.1.toNat)))
 else
 some (.inr (w64 (s2+1))))
 else
 some (.inl (.inr ())))
def slices_Compact (a0:(List aObject)):Option ((List aObject)) :=
 (if (decide ((a0.length:Int)<2))=true then
 some a0
 else
 (loop (slices_Compact_L0 a0) 1).bind fun x205=>match x205 with
 | (.inl p137) =>
  some p137
 | (.inr _) =>
  some a0)
theorem slices_Compact_ac (a0:(List aObject)) (r:(List aObject)) (h:slices_Compact a0=some r):AC Tryz.prog 76 [(.sref 0 6 0 a0.length)] [(0,(.row 48 6 (a0.map e_aObject)))] (.d (.list 6 (r.map e_aObject))) [(0,none)]:=by
 refine ac2 Tryz.func76 rfl rfl fun B hB hN L => ?_
 delta slices_Compact at h
 apply sr (c (assign (L rfl) Opd.nils) rfl cn)
 apply AWp.seq
 apply sr (c (mv hN (q 0)) rfl (c (lenS underlying38 (L rfl) (q 6)) rfl (c (lss (L rfl) (q 7) (ii 2)) rfl cn)))
 apply AWp.cond rfl<;>intro hg1
 ·have h:=ite_t hg1 h
  apply sr (c (mv hN (q 0)) rfl (c (assign (L rfl) (q 9)) rfl cn))
  apply AWp.ret
  apply seqQ_r
  obtain rfl:=oi h
  exact rt (Mat.trans (Mat.freezeP (n:=0) (e:=48) (sz:=6) (es:=a0.map e_aObject) (Ts:=[(2,(qe_aObject_6 a0))]) (Bs:=[]) (by rfl) (TwT.cons (x:=(.sref 0 6 0 a0.length)) (by rfl) (FrzL.all (by first | rfl | (simp;done) | (simp;omega) | omega)) TwT.nil) TwB.nil) (mp [] [(2,(qe_aObject_6 a0))] [] hB)) [(qe_aObject_6 a0)] (Res.tmp (by rfl) (by rfl) Res.nil) rfl
 ·have h:=ite_f hg1 h
  apply AWp.skip
  apply seqQ_n
  apply AWp.seq
  apply sr (c (assign (L rfl) (ii 1)) rfl cn)
  apply AWp.block
  obtain⟨x205,hx206,h⟩:=bindS h
  refine lg (slices_Compact_L0 a0) (fun s2:Int=>([(0,(.sref 0 6 0 a0.length)),(3,(i6 s2))]:EL)) (fun s2:Int=>([(0,some (we_aObject_48_6 a0))]:OL)) (fun(x:((List aObject))⊕(Unit)) e E' O'=>match x with | (.inl p137)=>e = .ret∧Mat B E' O' ([(2,(.sref 0 6 0 p137.length))]:EL) ([(0,some (we_aObject_48_6 p137))]:OL) | (.inr _p)=>e = .exit 0∧Mat B E' O' ([(0,(.sref 0 6 0 a0.length))]:EL) ([(0,some (we_aObject_48_6 a0))]:OL)) hx206 (mp [] _ _ hB) (fun s2 y h => ?_) (fun e E' O' hR => ?_)
  ·unfold slices_Compact_L0 at h
   apply AWp.seq
   apply sr (c (mv hN (q 3)) rfl (c (mv hN (q 0)) rfl (c (lenS underlying38 (L rfl) (q 11)) rfl (c (lss (L rfl) (q 10) (q 12)) rfl cn))))
   apply AWp.cond rfl<;>intro hg139
   ·have h:=ite_t hg139 h
    apply AWp.skip
    apply seqQ_n
    apply AWp.seq
    apply AWp.block
    obtain⟨x140,hx140,h⟩:=bindS h
    obtain⟨x141,hx141,h⟩:=bindS h
    obtain⟨x142,hx142,h⟩:=bindS h
    obtain⟨x143,hx143,h⟩:=bindS h
    apply sd (c (mv hN (q 0)) rfl (c (mv hN (q 3)) rfl (c (OpJ.val (v':=(.ptr 0 (s2.toNat*6) [s2.toNat])) (by simp) (indexS underlying38 tyS48 (idx_some hx140).1 (by have:=idx_lt hx140;first | (simpa using this) | ((try simp only [List.length_map] at this);(try simp only [List.length_map]);omega)) (L rfl) (q 16) (q 17))) rfl (c (loadR (e:=48) (sz:=6) tyS48 (get_map e_aObject (idx_some hx141).2) (o:=0) (At.here _) (by rfl) (by rfl) (by rfl) (L rfl) (q 18)) rfl (c (mv hN (q 0)) rfl (c (mv hN (q 3)) rfl (c (sub6 (L rfl) (q 21) (ii 1)) rfl (c (OpJ.val (v':=(.ptr 0 ((w64 (s2-1)).toNat*6) [(w64 (s2-1)).toNat])) (by simp) (indexS underlying38 tyS48 (idx_some hx142).1 (by have:=idx_lt hx142;first | (simpa using this) | ((try simp only [List.length_map] at this);(try simp only [List.length_map]);omega)) (L rfl) (q 20) (q 22))) rfl (c (loadR (e:=48) (sz:=6) tyS48 (get_map e_aObject (idx_some hx143).2) (o:=0) (At.here _) (by rfl) (by rfl) (by rfl) (L rfl) (q 23)) rfl (c (OpJ.eqlD (h:=4) (FitE.st underlying48 rfl held48 (FitF.cons (x:=(e_aPrefix x141.fPrefix)) (y:=(e_aPrefix x143.fPrefix)) (by decide) rfl tyS46 ⟨rfl,rfl⟩ ⟨rfl,rfl⟩ (FitE.st underlying46 rfl held46 (FitF.cons (x:=(e_aAddr x141.fPrefix.fAddr)) (y:=(e_aAddr x143.fPrefix.fAddr)) (by decide) rfl tyS44 ⟨rfl,rfl⟩ ⟨rfl,rfl⟩ (FitE.st underlying44 rfl held44 (FitF.cons (x:=(.bool x141.fPrefix.fAddr.fV6)) (y:=(.bool x143.fPrefix.fAddr.fV6)) (by decide) rfl tyS4 ⟨rfl,rfl⟩ ⟨rfl,rfl⟩ (FitE.bool (h:=0) x141.fPrefix.fAddr.fV6 x143.fPrefix.fAddr.fV6 underlying4) (FitF.cons (x:=(.int .u64 x141.fPrefix.fAddr.fHi)) (y:=(.int .u64 x143.fPrefix.fAddr.fHi)) (by decide) rfl tyS42 ⟨rfl,rfl⟩ ⟨rfl,rfl⟩ (FitE.int (h:=0) x141.fPrefix.fAddr.fHi x143.fPrefix.fAddr.fHi underlying42) (FitF.cons (x:=(.int .u64 x141.fPrefix.fAddr.fLo)) (y:=(.int .u64 x143.fPrefix.fAddr.fLo)) (by decide) rfl tyS42 ⟨rfl,rfl⟩ ⟨rfl,rfl⟩ (FitE.int (h:=0) x141.fPrefix.fAddr.fLo x143.fPrefix.fAddr.fLo underlying42) FitF.nil)))) (FitF.cons (x:=(.int .i64 x141.fPrefix.fLen)) (y:=(.int .i64 x143.fPrefix.fLen)) (by decide) rfl tyS3 ⟨rfl,rfl⟩ ⟨rfl,rfl⟩ (FitE.int (h:=1) x141.fPrefix.fLen x143.fPrefix.fLen underlying3) FitF.nil))) (FitF.cons (x:=(.int .i64 x141.fMax)) (y:=(.int .i64 x143.fMax)) (by decide) rfl tyS3 ⟨rfl,rfl⟩ ⟨rfl,rfl⟩ (FitE.int (h:=2) x141.fMax x143.fMax underlying3) (FitF.cons (x:=(.int .i64 x141.fASN)) (y:=(.int .i64 x143.fASN)) (by decide) rfl tyS3 ⟨rfl,rfl⟩ ⟨rfl,rfl⟩ (FitE.int (h:=2) x141.fASN x143.fASN underlying3) FitF.nil)))) eqg48 ⟨rfl,rfl⟩ (by rfl) (L rfl) (q 19) (q 24)) rfl cn)))))))))) (by kernel_rfl) (by kernel_rfl)
    apply AWp.cond rfl<;>intro hg144
    ·have h:=ite_t hg144 h
     obtain⟨hc145,h⟩:=chk_some h
     have hc145_o:=hc145
     simp only [Bool.and_eq_true,decide_eq_true_eq] at hc145_o
     apply sr (c (mv hN (q 0)) rfl (c (mv hN (q 3)) rfl (c (OpJ.cutS underlying38 tyS48 (l:=s2.toNat) (h:=a0.length) (off':=s2.toNat) (len':=(a0.length-s2.toNat)) (.inr ⟨_,_,_,rfl,(ot 27 (i6 s2)),(of_decide_eq_true (and_l2 (and_l2 hc145))),rfl⟩) (.inl ⟨rfl,rfl,rfl⟩) (of_decide_eq_true (and_r2 (and_l2 hc145))) (of_decide_eq_true (and_r2 hc145)) (by simp) (by simp) (L rfl) (q 26)) rfl (c (assign (L rfl) (q 28)) rfl cn))))
     apply AWp.seq
     apply sr (c (assign (L rfl) (ii 1)) rfl cn)
     apply AWp.block
     obtain⟨p181,hx200,h⟩:=bindS h
     refine lg (slices_Compact_L1 a0 s2) (fun s146:Int×Int×(List aObject)=>([(0,(.sref 0 6 0 s146.2.2.length)),(3,(i6 s146.1)),(4,(.sref 0 6 s2.toNat (a0.length-s2.toNat))),(5,(i6 s146.2.1))]:EL)) (fun s146:Int×Int×(List aObject)=>([(0,some (we_aObject_48_6 s146.2.2))]:OL)) (fun(p181:(Int×(List aObject))) e E' O'=>e = .exit 2∧Mat B E' O' ([(0,(.sref 0 6 0 p181.2.length)),(3,(i6 p181.1))]:EL) ([(0,some (we_aObject_48_6 p181.2))]:OL)) hx200 (mp [] _ _ hB) (fun s146 y h => ?_) (fun e E' O' hR => ?_)
     ·unfold slices_Compact_L1 at h
      apply AWp.seq
      apply sr (c (mv hN (q 5)) rfl (c (mv hN (q 4)) rfl (c (lenS underlying38 (L rfl) (q 30)) rfl (c (lss (L rfl) (q 29) (q 31)) rfl cn))))
      apply AWp.cond rfl<;>intro hg182
      ·have h:=ite_t hg182 h
       apply AWp.skip
       apply seqQ_n
       apply AWp.seq
       apply AWp.block
       obtain⟨x183,hx183,h⟩:=bindS h
       obtain⟨x184,hx184,h⟩:=bindS h
       obtain⟨x185,hx185,h⟩:=bindS h
       obtain⟨x186,hx186,h⟩:=bindS h
       apply sd (c (mv hN (q 4)) rfl (c (mv hN (q 5)) rfl (c (indexS underlying38 tyS48 (idx_cut_lt hx183).1 (idx_cut_lt hx183).2 (L rfl) (q 35) (q 36)) rfl (c (loadR (e:=48) (sz:=6) tyS48 (get_map e_aObject (idx_cut_at hx184)) (o:=0) (At.here _) (by rfl) (by rfl) (by rfl) (L rfl) (q 37)) rfl (c (mv hN (q 4)) rfl (c (mv hN (q 5)) rfl (c (sub6 (L rfl) (q 40) (ii 1)) rfl (c (indexS underlying38 tyS48 (idx_cut_lt hx185).1 (idx_cut_lt hx185).2 (L rfl) (q 39) (q 41)) rfl (c (loadR (e:=48) (sz:=6) tyS48 (get_map e_aObject (idx_cut_at hx186)) (o:=0) (At.here _) (by rfl) (by rfl) (by rfl) (L rfl) (q 42)) rfl (c (OpJ.neqD (h:=4) (FitE.st underlying48 rfl held48 (FitF.cons (x:=(e_aPrefix x184.fPrefix)) (y:=(e_aPrefix x186.fPrefix)) (by decide) rfl tyS46 ⟨rfl,rfl⟩ ⟨rfl,rfl⟩ (FitE.st underlying46 rfl held46 (FitF.cons (x:=(e_aAddr x184.fPrefix.fAddr)) (y:=(e_aAddr x186.fPrefix.fAddr)) (by decide) rfl tyS44 ⟨rfl,rfl⟩ ⟨rfl,rfl⟩ (FitE.st underlying44 rfl held44 (FitF.cons (x:=(.bool x184.fPrefix.fAddr.fV6)) (y:=(.bool x186.fPrefix.fAddr.fV6)) (by decide) rfl tyS4 ⟨rfl,rfl⟩ ⟨rfl,rfl⟩ (FitE.bool (h:=0) x184.fPrefix.fAddr.fV6 x186.fPrefix.fAddr.fV6 underlying4) (FitF.cons (x:=(.int .u64 x184.fPrefix.fAddr.fHi)) (y:=(.int .u64 x186.fPrefix.fAddr.fHi)) (by decide) rfl tyS42 ⟨rfl,rfl⟩ ⟨rfl,rfl⟩ (FitE.int (h:=0) x184.fPrefix.fAddr.fHi x186.fPrefix.fAddr.fHi underlying42) (FitF.cons (x:=(.int .u64 x184.fPrefix.fAddr.fLo)) (y:=(.int .u64 x186.fPrefix.fAddr.fLo)) (by decide) rfl tyS42 ⟨rfl,rfl⟩ ⟨rfl,rfl⟩ (FitE.int (h:=0) x184.fPrefix.fAddr.fLo x186.fPrefix.fAddr.fLo underlying42) FitF.nil)))) (FitF.cons (x:=(.int .i64 x184.fPrefix.fLen)) (y:=(.int .i64 x186.fPrefix.fLen)) (by decide) rfl tyS3 ⟨rfl,rfl⟩ ⟨rfl,rfl⟩ (FitE.int (h:=1) x184.fPrefix.fLen x186.fPrefix.fLen underlying3) FitF.nil))) (FitF.cons (x:=(.int .i64 x184.fMax)) (y:=(.int .i64 x186.fMax)) (by decide) rfl tyS3 ⟨rfl,rfl⟩ ⟨rfl,rfl⟩ (FitE.int (h:=2) x184.fMax x186.fMax underlying3) (FitF.cons (x:=(.int .i64 x184.fASN)) (y:=(.int .i64 x186.fASN)) (by decide) rfl tyS3 ⟨rfl,rfl⟩ ⟨rfl,rfl⟩ (FitE.int (h:=2) x184.fASN x186.fASN underlying3) FitF.nil)))) eqg48 ⟨rfl,rfl⟩ (by rfl) (L rfl) (q 38) (q 43)) rfl cn)))))))))) (by kernel_rfl) (by kernel_rfl)
       refine gh [(0,_),(3,_),(4,_),(5,_),(44,_)] [(0,some _)] hB rfl rfl (by rfl) ?_
       refine AWp.cut h (fun m192:Int×(List aObject)=>([(0,(.sref 0 6 0 m192.2.length)),(3,(i6 m192.1)),(4,(.sref 0 6 s2.toNat (a0.length-s2.toNat))),(5,(i6 s146.2.1))]:EL)) (fun m192:Int×(List aObject)=>([(0,some (we_aObject_48_6 m192.2))]:OL)) (fun m192 h E' O' hmat => ?_) (fun j193 hjj193 h => ?_)
       ·apply blkQ_n
        apply seqQ_n
        refine AWp.ghost hmat ?_
        apply rg (c (mv hN (q 5)) rfl (c (add6 (L rfl) (q 33) (ii 1)) rfl (c (assign (L rfl) (q 34)) rfl cn)))
        obtain rfl:=oi h
        exact⟨rfl,(mp [] _ _ hB)⟩
       ·apply AWp.cond rfl<;>intro hg194
        ·have h:=ite_t hg194 h
         obtain⟨x195,hx195,h⟩:=bindS h
         obtain⟨x196,hx196,h⟩:=bindS h
         obtain⟨x197,hx197,h⟩:=bindS h
         obtain⟨x198,hx198,h⟩:=bindS h
         apply sr (c (mv hN (q 0)) rfl (c (mv hN (q 3)) rfl (c (mv hN (q 4)) rfl (c (mv hN (q 5)) rfl (c (indexS underlying38 tyS48 (idx_cut_lt hx195).1 (idx_cut_lt hx195).2 (L rfl) (q 47) (q 48)) rfl (c (loadR (e:=48) (sz:=6) tyS48 (get_map e_aObject (idx_cut_at hx196)) (o:=0) (At.here _) (by rfl) (by rfl) (by rfl) (L rfl) (q 49)) rfl (c (OpJ.val (v':=(.ptr 0 (s146.1.toNat*6) [s146.1.toNat])) (by simp) (indexS underlying38 tyS48 (idx_some hx197).1 (by have:=idx_lt hx197;first | (simpa using this) | ((try simp only [List.length_map] at this);(try simp only [List.length_map]);omega)) (L rfl) (q 45) (q 46))) rfl (cg (OpJ.storeR (e:=48) (sz:=6) (es':=(s146.2.2.set s146.1.toNat x196).map e_aObject) tyS48 (get_map e_aObject (idx_some hx198).2) (o:=0) (SetAt.here _ _) (by rfl) (map_set _ _ _ _) (by rfl) (by rfl) (q 51) (q 50)) rfl cn))))))))
         apply rg (c (mv hN (q 3)) rfl (c (add6 (L rfl) (q 52) (ii 1)) rfl (c (assign (L rfl) (q 53)) rfl cn)))
         exact hjj193 _ h _ _ (Mat.trans (mp [] [(0,(.sref 0 6 0 s146.2.2.length)),(3,(i6 (w64 (s146.1+1)))),(4,(.sref 0 6 s2.toNat (a0.length-s2.toNat))),(5,(i6 s146.2.1))] [(0,some (we_aObject_48_6 (s146.2.2.set s146.1.toNat x196)))] hB) (Mat.trans (Mat.lenP (Ts:=[(0,(.sref 0 6 0 ((s146.2.2.set s146.1.toNat x196).length)))]) (Bs:=[]) (TwT.cons (x:=(.sref 0 6 0 s146.2.2.length)) (by rfl) (Tw.leaf ⟨_,_,_,_,_,rfl,rfl,(by first | rfl | (simp;done) | (simp;omega) | omega)⟩) TwT.nil) TwB.nil) (mp [] _ _ hB)))
        ·have h:=ite_f hg194 h
         apply AWp.skip
         exact hjj193 _ h _ _ (mp [] _ _ hB)
      ·have h:=ite_f hg182 h
       apply AWp.exit
       apply seqQ_e
       obtain rfl:=oi h
       exact⟨(fun hc=>by cases hc),rfl,(mp [] _ _ hB)⟩
     ·obtain⟨rfl,hmat⟩:=hR
      apply blkQ_hit
      apply seqQ_n
      refine AWp.ghost hmat ?_
      obtain⟨hc201,h⟩:=chk_some h
      have hc201_o:=hc201
      simp only [Bool.and_eq_true,decide_eq_true_eq] at hc201_o
      obtain⟨hc202,h⟩:=chk_some h
      have hc202_o:=hc202
      simp only [Bool.and_eq_true,decide_eq_true_eq] at hc202_o
      apply sr (c (mv hN (q 0)) rfl (c (mv hN (q 3)) rfl (c (OpJ.cutS underlying38 tyS48 (l:=p181.1.toNat) (h:=p181.2.length) (off':=p181.1.toNat) (len':=(p181.2.length-p181.1.toNat)) (.inr ⟨_,_,_,rfl,(ot 55 (i6 p181.1)),(of_decide_eq_true (and_l2 (and_l2 hc201))),rfl⟩) (.inl ⟨rfl,rfl,rfl⟩) (of_decide_eq_true (and_r2 (and_l2 hc201))) (of_decide_eq_true (and_r2 hc201)) (by simp) (by simp) (L rfl) (q 54)) rfl (cg (OpJ.clearS (e:=48) (z:=(.st [(.st [(.st [(.bool false),(.int .u64 0),(.int .u64 0)]),(.int .i64 0)]),(.int .i64 0),(.int .i64 0)])) (es:=p181.2.map e_aObject) (es':=(p181.2.take p181.1.toNat++List.replicate (p181.2.length-p181.1.toNat) (aObject.mk (aPrefix.mk (aAddr.mk false 0 0) 0) 0 0)++p181.2.drop (p181.1.toNat+(p181.2.length-p181.1.toNat))).map e_aObject) underlying38 tyZD48 (by rfl) (by decide) (by rw [List.length_map];exact of_decide_eq_true hc202) (by simp only [List.map_append,List.map_take,List.map_drop,List.map_replicate];rfl) (q 56)) rfl cn))))
      obtain⟨hc203,h⟩:=chk_some h
      have hc203_o:=hc203
      simp only [Bool.and_eq_true,decide_eq_true_eq] at hc203_o
      obtain⟨hc204,h⟩:=chk_some h
      have hc204_o:=hc204
      simp only [Bool.and_eq_true,decide_eq_true_eq] at hc204_o
      apply sr (c (mv hN (q 0)) rfl (c (mv hN (q 3)) rfl (cg (OpJ.val (v':=(.sref 0 6 0 (((p181.2.take p181.1.toNat++List.replicate (p181.2.length-p181.1.toNat) (aObject.mk (aPrefix.mk (aAddr.mk false 0 0) 0) 0 0)++p181.2.drop (p181.1.toNat+(p181.2.length-p181.1.toNat))).take p181.1.toNat).length))) (by rw [List.length_take,Nat.min_eq_left (of_decide_eq_true hc204)]) (OpJ.shrS (OpJ.cutS underlying38 tyS48 (l:=0) (h:=p181.1.toNat) (off':=0) (len':=p181.1.toNat) (.inl ⟨rfl,rfl,rfl⟩) (.inr ⟨_,_,_,rfl,(ot 58 (i6 p181.1)),(of_decide_eq_true (and_l2 (and_l2 hc203))),rfl⟩) (of_decide_eq_true (and_r2 (and_l2 hc203))) (of_decide_eq_true (and_r2 hc203)) (by simp) (by simp) (L rfl) (q 57)) (es':=((p181.2.take p181.1.toNat++List.replicate (p181.2.length-p181.1.toNat) (aObject.mk (aPrefix.mk (aAddr.mk false 0 0) 0) 0 0)++p181.2.drop (p181.1.toNat+(p181.2.length-p181.1.toNat))).take p181.1.toNat).map e_aObject) (by rw [List.length_map];exact(of_decide_eq_true hc204)) (by rw [List.map_take]))) rfl (c (assign (L rfl) (q 59)) rfl cn))))
      apply AWp.ret
      apply blkQ_r
      apply seqQ_r
      obtain rfl:=oi h
      exact⟨(fun hc=>by cases hc),rfl,(mp [] _ _ hB)⟩
    ·have h:=ite_f hg144 h
     apply AWp.skip
     apply blkQ_n
     apply seqQ_n
     apply rg (c (mv hN (q 3)) rfl (c (add6 (L rfl) (q 14) (ii 1)) rfl (c (assign (L rfl) (q 15)) rfl cn)))
     obtain rfl:=oi h
     exact⟨rfl,(mp [] _ _ hB)⟩
   ·have h:=ite_f hg139 h
    apply AWp.exit
    apply seqQ_e
    obtain rfl:=oi h
    exact⟨(fun hc=>by cases hc),rfl,(mp [] _ _ hB)⟩
  ·rcases x205 with p137 | _
   ·obtain⟨rfl,hmat⟩:=hR
    apply blkQ_r
    apply seqQ_r
    obtain rfl:=oi h
    exact rt (Mat.trans hmat (Mat.trans (Mat.freezeP (n:=0) (e:=48) (sz:=6) (es:=p137.map e_aObject) (Ts:=[(2,(qe_aObject_6 p137))]) (Bs:=[]) (by rfl) (TwT.cons (x:=(.sref 0 6 0 p137.length)) (by rfl) (FrzL.all (by first | rfl | (simp;done) | (simp;omega) | omega)) TwT.nil) TwB.nil) (mp [] [(2,(qe_aObject_6 p137))] [] hB))) [(qe_aObject_6 p137)] (Res.tmp (by rfl) (by rfl) Res.nil) rfl
   ·obtain⟨rfl,hmat⟩:=hR
    apply blkQ_hit
    apply seqQ_n
    refine AWp.ghost hmat ?_
    apply sr (c (mv hN (q 0)) rfl (c (assign (L rfl) (q 60)) rfl cn))
    apply AWp.ret
    obtain rfl:=oi h
    exact rt (Mat.trans (Mat.freezeP (n:=0) (e:=48) (sz:=6) (es:=a0.map e_aObject) (Ts:=[(2,(qe_aObject_6 a0))]) (Bs:=[]) (by rfl) (TwT.cons (x:=(.sref 0 6 0 a0.length)) (by rfl) (FrzL.all (by first | rfl | (simp;done) | (simp;omega) | omega)) TwT.nil) TwB.nil) (mp [] [(2,(qe_aObject_6 a0))] [] hB)) [(qe_aObject_6 a0)] (Res.tmp (by rfl) (by rfl) Res.nil) rfl
def irr_Ordered (a0:(List aObject)):Option ((List aObject)) :=
 (ext73_slices_Clone_R a0).bind fun r1 =>
 (ext74_slices_SortFunc_irr_Compare r1).bind fun r2 =>
 chk (decide (r2.length=r1.length)) <|
 (slices_Compact r2).bind fun r4 =>
 some r4
theorem irr_Ordered_ac (a0:(List aObject)) (r:(List aObject)) (h:irr_Ordered a0=some r):AC Tryz.prog 42 [(.d (.list 6 (a0.map e_aObject)))] [] (.d (.list 6 (r.map e_aObject))) []:=by
 refine AC.of_code2 Tryz.func42 rfl rfl (Nat.le_of_ble_eq_true (by rfl)) fun B hB hN => ?_
 delta irr_Ordered at h
 apply sr (c (assign (ltN hN rfl) Opd.nils) rfl cn)
 apply AWp.seq
 obtain⟨r1,hr1,h⟩:=bindS h
 refine AWp.region (oc (mv hN (ot 0 (qe_aObject_6 a0)))
 (oc (OpJ.callFn hB fnOk73 (ext73_slices_Clone_R_ac a0 r1 hr1) [(900000,100000)] (by kernel_rfl) (ltN hN rfl) (by kernel_rfl) (OpdL.cons (ot 4 (qe_aObject_6 a0)) OpdL.nil))
 (oc (assign (ltN hN rfl) (ot 5 (.sref 100000 6 0 r1.length)))
 (OpJs.nil)))) (by rfl) (by rfl) ?_
 apply seqQ_n
 refine AWp.ghost (mp [] [(3,(.sref 100000 6 0 r1.length))] [(100000,some (we_aObject_48_6 r1))] hB) ?_
 apply AWp.seq
 obtain⟨r2,hr2,h⟩:=bindS h
 obtain⟨hc3,h⟩:=chk_some h
 have lhc3:=of_decide_eq_true hc3
 have hc3_o:=of_decide_eq_true hc3
 refine AWp.region (oc (mv hN (ot 3 (.sref 100000 6 0 r1.length)))
 (oc (OpJ.callFn hB fnOk74 (ext74_slices_SortFunc_irr_Compare_ac r1 r2 hr2) [(0,100000)] (by kernel_rfl) (ltN hN rfl) (by kernel_rfl) (OpdL.cons (ot 6 (.sref 100000 6 0 r1.length)) (OpdL.cons (Opd.func 75) OpdL.nil)))
 (OpJs.nil))) (by rfl) (by rfl) ?_
 apply seqQ_n
 refine AWp.ghost (mp [] [(3,(.sref 100000 6 0 r1.length))] [(100000,some (we_aObject_48_6 r2))] hB) ?_
 apply AWp.seq
 refine AWp.ghost (Mat.lenP (Ts:=[(3,(.sref 100000 6 0 r2.length))]) (Bs:=[]) (TwT.cons (x:=(.sref 100000 6 0 r1.length)) (by rfl) (Tw.leaf ⟨_,_,_,_,_,rfl,rfl,(by first | rfl | (simp;done) | (simp;omega) | omega)⟩) TwT.nil) TwB.nil) ?_
 obtain⟨r4,hr4,h⟩:=bindS h
 refine AWp.region (oc (mv hN (ot 3 (.sref 100000 6 0 r2.length)))
 (oc (OpJ.callFn hB fnOk76 (slices_Compact_ac r2 r4 hr4) [(0,100000)] (by kernel_rfl) (ltN hN rfl) (by kernel_rfl) (OpdL.cons (ot 8 (.sref 100000 6 0 r2.length)) OpdL.nil))
 (oc (assign (ltN hN rfl) (ot 9 (qe_aObject_6 r4)))
 (OpJs.nil)))) (by rfl) (by rfl) ?_
 apply seqQ_n
 refine AWp.ghost (mp [] [(2,(qe_aObject_6 r4))] [] hB) ?_
 apply AWp.ret
 obtain rfl:=oi h
 exact rt (kp [(2,_)] [] hB rfl rfl (by rfl)) [(qe_aObject_6 r4)] (Res.tmp (by rfl) (by rfl) Res.nil) rfl
def origin_Payloads_L0 (a0:(List aCert)) (a1:(List aSigned)) (a3:Int) (r2:(List Bool)) (s3:Int×(List aObject)):Option ((((List aObject)))⊕(Int×(List aObject))) :=
 (if (decide (s3.1<(a1.length:Int)))=true then
 (idx a1 s3.1).bind fun x24 =>
 (origin_explain a0 r2 x24 a3).bind fun r25 =>
 jn (fun m28:(List aObject) =>
 some (.inr ((w64 (s3.1+1)),m28))) (fun j29 =>
 (if (r25==0)=true then
 chk (decide ((s3.2++x24.fObjects).length≤LIM)) <|
 j29 (s3.2++x24.fObjects)
 else
 j29 s3.2))
 else
 some (.inl s3.2))
def origin_Payloads (a0:(List aCert)) (a1:(List aSigned)) (a2:(List Int)) (a3:Int):Option ((List aObject)×Int) :=
 (if ((decide (512<(a0.length:Int))) || (decide (512<(a1.length:Int))))=true then
 some (([]:List aObject),3)
 else
 (origin_Trusted a0 a2 a3).bind fun r2 =>
 (loop (origin_Payloads_L0 a0 a1 a3 r2) (0,([]:List aObject))).bind fun p22 =>
 (irr_Ordered p22).bind fun r34 =>
 (if (decide (512<(r34.length:Int)))=true then
 some (([]:List aObject),3)
 else
 some (r34,0)))
theorem origin_Payloads_ac (a0:(List aCert)) (a1:(List aSigned)) (a2:(List Int)) (a3:Int) (r:(List aObject)×Int) (h:origin_Payloads a0 a1 a2 a3=some r):AC Tryz.prog 16 [(.d (.list 6 (a0.map e_aCert))),(.d (.list 5 (a1.map e_aSigned))),(.d (.list 1 (a2.map (eI .i64)))),(.d (.int .i64 a3))] [(500,(.know (globF 0 [109,150,151]))),(501,(.know (globF 1 [98,152,153])))] (.tup [(.d (.list 6 (r.1.map e_aObject))),(.d (.int .i64 r.2))]) [(500,some (.know (globF 0 [109,150,151]))),(501,some (.know (globF 1 [98,152,153])))]:=by
 refine ac2 Tryz.func16 rfl rfl fun B hB hN L => ?_
 delta origin_Payloads at h
 apply sr (c (assign (L rfl) Opd.nils) rfl (c (assign (L rfl) (ii 0)) rfl cn))
 apply AWp.seq
 apply sr (c (mv hN (q 0)) rfl (c (OpJ.val (v':=(i6 (a0.length:Int))) (by simp) (lenD underlying22 (L rfl) (q 14))) rfl (c (gtr (L rfl) (q 15) (ii 512)) rfl (c (mv hN (q 16)) rfl (c (oq hN 17 (mv hN (q 1)) (OptL.keep (by rfl) OptL.nil) (GuardV.plain _)) rfl (c (oq hN 17 (OpJ.val (v':=(i6 (a1.length:Int))) (by simp) (lenD underlying26 (L rfl) (q 18))) (OptL.opt OptL.nil) (GuardV.plain _)) rfl (c (oq hN 17 (gtr (L rfl) (q 19) (ii 512)) (OptL.opt OptL.nil) (GuardV.plain _)) rfl (c (pickOr rfl (L rfl) (q 17) (q 20)) rfl cn))))))))
 apply AWp.cond rfl<;>intro hg1
 ·have h:=ite_t hg1 h
  apply sr (c (assign (L rfl) Opd.nils) rfl (c (assign (L rfl) (ii 3)) rfl cn))
  apply AWp.ret
  apply seqQ_r
  obtain rfl:=oi h
  exact rt (Mat.trans (Mat.coeP (Ts:=[(8,(qe_aObject_6 ([]:List aObject)))]) (Bs:=[]) (TwT.cons (x:=.nils) (by rfl) (Tw.leaf ⟨_,(Co.nils 6),rfl⟩) TwT.nil) TwB.nil) (mp [] [(8,(qe_aObject_6 ([]:List aObject))),(9,(i6 3))] [(500,some (.know (globF 0 [109,150,151]))),(501,some (.know (globF 1 [98,152,153])))] hB)) [(qe_aObject_6 ([]:List aObject)),(i6 3)] (Res.tmp (by rfl) (by rfl) (Res.tmp (by rfl) (by rfl) Res.nil)) rfl
 ·have h:=ite_f hg1 h
  apply AWp.skip
  apply seqQ_n
  apply AWp.seq
  obtain⟨r2,hr2,h⟩:=bindS h
  refine AWp.region (oc (mv hN (ot 0 (qe_aCert_6 a0)))
   (oc (mv hN (ot 2 (qI_1 a2)))
   (oc (mv hN (ot 3 (i6 a3)))
   (oc (OpJ.callFn hB fnOk14 (origin_Trusted_ac a0 a2 a3 r2 hr2) [(500,500),(501,501)] (by kernel_rfl) (L rfl) (by kernel_rfl) (OpdL.cons (ot 22 (qe_aCert_6 a0)) (OpdL.cons (ot 23 (qI_1 a2)) (OpdL.cons (ot 24 (i6 a3)) OpdL.nil))))
   (oc (assign (L rfl) (ot 25 (.d (.list 1 (r2.map eB)))))
   (OpJs.nil)))))) (by rfl) (by rfl) ?_
  apply seqQ_n
  refine AWp.ghost (mp [] [(0,(qe_aCert_6 a0)),(1,(qe_aSigned_5 a1)),(3,(i6 a3)),(10,(.d (.list 1 (r2.map eB))))] [(500,some (.know (globF 0 [109,150,151]))),(501,some (.know (globF 1 [98,152,153])))] hB) ?_
  apply sr (c (assign (L rfl) Opd.nils) rfl cn)
  apply AWp.seq
  apply sr (c (mv hN (q 1)) rfl (c (OpJ.val (v':=(i6 (a1.length:Int))) (by simp) (lenD underlying26 (L rfl) (q 26))) rfl (c (mv hN (ii 0)) rfl cn)))
  apply AWp.block
  obtain⟨p22,hx33,h⟩:=bindS h
  refine lg (origin_Payloads_L0 a0 a1 a3 r2) (fun s3:Int×(List aObject)=>([(0,(qe_aCert_6 a0)),(3,(i6 a3)),(10,(.d (.list 1 (r2.map eB)))),(11,(.sref 3011 6 0 s3.2.length)),(26,(qe_aSigned_5 a1)),(27,(i6 (a1.length:Int))),(28,(i6 s3.1))]:EL)) (fun s3:Int×(List aObject)=>([(500,some (.know (globF 0 [109,150,151]))),(501,some (.know (globF 1 [98,152,153]))),(3011,some (we_aObject_48_6 s3.2))]:OL)) (fun(p22:((List aObject))) e E' O'=>e = .exit 0∧Mat B E' O' ([(11,(.sref 3011 6 0 p22.length))]:EL) ([(500,some (.know (globF 0 [109,150,151]))),(501,some (.know (globF 1 [98,152,153]))),(3011,some (we_aObject_48_6 p22))]:OL)) hx33 (Mat.trans (Mat.beginP (n:=3011) (e:=48) (sz:=6) (Ts:=[(11,(.sref 3011 6 0 0))]) (Bs:=[]) hB (by decide) (by rfl) (by decide) (TwT.cons (x:=.nils) (by rfl) (Tw.leaf ⟨rfl,rfl⟩) TwT.nil) TwB.nil) (mp [] _ _ hB)) (fun s3 y h => ?_) (fun e E' O' hR => ?_)
  ·unfold origin_Payloads_L0 at h
   apply sr (c (lss (L rfl) (q 28) (q 27)) rfl cn)
   apply AWp.seq
   apply AWp.cond rfl<;>intro hg23
   ·have h:=ite_t hg23 h
    apply AWp.skip
    apply seqQ_n
    apply AWp.seq
    apply AWp.block
    obtain⟨x24,hx24,h⟩:=bindS h
    apply sr (c (indexD underlying26 tyS66 (idx_some hx24).1 (get_map e_aSigned (idx_some hx24).2) (L rfl) (q 26) (q 28)) rfl (c (loadD tyS66 (by rfl) (by rfl) (L rfl) (q 30)) rfl (cg (alloc hB tyZ66 (nm:=1013) (by decide) (L rfl)) rfl (cg (sB tyS66 (q 13) (q 31)) rfl cn))))
    obtain⟨r25,hr25,h⟩:=bindS h
    apply sr (c (mv hN (q 0)) rfl (c (mv hN (q 10)) rfl (c (lb hN 66 _ _ tyS66 (At.here _) (q 13)) rfl (c (mv hN (q 3)) rfl (cg (cf hB fnOk41 (origin_explain_ac a0 r2 x24 a3 r25 hr25) (L rfl) (OpdL.cons (q 32) (OpdL.cons (q 33) (OpdL.cons (q 34) (OpdL.cons (q 35) OpdL.nil))))) rfl (c (eqlI (L rfl) (q 36) (ii 0)) rfl cn))))))
    refine gh [(0,_),(3,_),(10,_),(11,_),(13,_),(26,_),(27,_),(28,_),(37,_)] [(500,some _),(501,some _),(1013,some _),(3011,some _)] hB rfl rfl (by rfl) ?_
    refine AWp.cut h (fun m28:(List aObject)=>([(0,(qe_aCert_6 a0)),(3,(i6 a3)),(10,(.d (.list 1 (r2.map eB)))),(11,(.sref 3011 6 0 m28.length)),(26,(qe_aSigned_5 a1)),(27,(i6 (a1.length:Int))),(28,(i6 s3.1))]:EL)) (fun m28:(List aObject)=>([(500,some (.know (globF 0 [109,150,151]))),(501,some (.know (globF 1 [98,152,153]))),(3011,some (we_aObject_48_6 m28))]:OL)) (fun m28 h E' O' hmat => ?_) (fun j29 hjj29 h => ?_)
    ·apply blkQ_n
     apply seqQ_n
     refine AWp.ghost hmat ?_
     apply rg (c (add6 (L rfl) (q 28) (ii 1)) rfl (c (mv hN (q 42)) rfl cn))
     obtain rfl:=oi h
     exact⟨rfl,(mp [] _ _ hB)⟩
    ·apply AWp.cond rfl<;>intro hg30
     ·have h:=ite_t hg30 h
      obtain⟨hc31,h⟩:=chk_some h
      apply rg (c (mv hN (q 11)) rfl (c (fo 1013 4 [4] hN underlying66 4 tyS38 (q 13)) rfl (c (la hN 66 tyS38 (q 39)) rfl (cg (apd hB underlying38 tyE48 1041 e_aObject s3.2 x24.fObjects hc31 (L rfl) (q 38) (q 40)) rfl (c (assign (L rfl) (q 41)) rfl cn)))))
      exact hjj29 _ h _ _ (mp [(3011,1041)] _ _ hB)
     ·have h:=ite_f hg30 h
      apply AWp.skip
      exact hjj29 _ h _ _ (mp [] _ _ hB)
   ·have h:=ite_f hg23 h
    apply AWp.exit
    apply seqQ_e
    obtain rfl:=oi h
    exact⟨(fun hc=>by cases hc),rfl,(mp [] _ _ hB)⟩
  ·obtain⟨rfl,hmat⟩:=hR
   apply blkQ_hit
   apply seqQ_n
   refine AWp.ghost hmat ?_
   apply AWp.seq
   apply AWp.seq
   refine AWp.ghost (Mat.freezeP (n:=3011) (e:=48) (sz:=6) (es:=p22.map e_aObject) (Ts:=[(11,(qe_aObject_6 p22))]) (Bs:=[]) (by rfl) (TwT.cons (x:=(.sref 3011 6 0 p22.length)) (by rfl) (FrzL.all (by first | rfl | (simp;done) | (simp;omega) | omega)) TwT.nil) TwB.nil) ?_
   obtain⟨r34,hr34,h⟩:=bindS h
   apply rg (c (mv hN (q 11)) rfl (cg (cf hB fnOk42 (irr_Ordered_ac p22 r34 hr34) (L rfl) (OpdL.cons (q 43) OpdL.nil)) rfl (c (assign (L rfl) (q 44)) rfl cn)))
   apply seqQ_n
   apply sr (c (mv hN (q 11)) rfl (c (OpJ.val (v':=(i6 (r34.length:Int))) (by simp) (lenD underlying38 (L rfl) (q 45))) rfl (c (gtr (L rfl) (q 46) (ii 512)) rfl cn)))
   apply AWp.cond rfl<;>intro hg35
   ·have h:=ite_t hg35 h
    apply sr (c (assign (L rfl) Opd.nils) rfl (c (assign (L rfl) (ii 3)) rfl cn))
    apply AWp.ret
    apply seqQ_r
    obtain rfl:=oi h
    exact rt (Mat.trans (Mat.coeP (Ts:=[(8,(qe_aObject_6 ([]:List aObject)))]) (Bs:=[]) (TwT.cons (x:=.nils) (by rfl) (Tw.leaf ⟨_,(Co.nils 6),rfl⟩) TwT.nil) TwB.nil) (mp [] [(8,(qe_aObject_6 ([]:List aObject))),(9,(i6 3))] [(500,some (.know (globF 0 [109,150,151]))),(501,some (.know (globF 1 [98,152,153])))] hB)) [(qe_aObject_6 ([]:List aObject)),(i6 3)] (Res.tmp (by rfl) (by rfl) (Res.tmp (by rfl) (by rfl) Res.nil)) rfl
   ·have h:=ite_f hg35 h
    apply AWp.skip
    apply seqQ_n
    apply sr (c (mv hN (q 11)) rfl (c (assign (L rfl) (q 48)) rfl (c (assign (L rfl) (ii 0)) rfl cn)))
    apply AWp.ret
    obtain rfl:=oi h
    exact rt (kp [(8,_),(9,_)] [(500,some _),(501,some _)] hB rfl rfl (by rfl)) [(qe_aObject_6 r34),(i6 0)] (Res.tmp (by rfl) (by rfl) (Res.tmp (by rfl) (by rfl) Res.nil)) rfl
def prefix_Contains (a0:aPrefix) (a1:aAddr):Option (Bool) :=
 jn (fun m5:Bool =>
 some m5) (fun j6 =>
 (if ((a0.fAddr.fV6==a1.fV6)&&(decide (0≤a0.fLen)))=true then
 (prefix_width a1).bind fun r8 =>
 (if (decide (a0.fLen≤r8))=true then
 (prefix_first a1 a0.fLen).bind fun r10 =>
 j6 ((r10.fV6==a0.fAddr.fV6)&&((r10.fHi==a0.fAddr.fHi)&&((r10.fLo==a0.fAddr.fLo)&&true)))
 else
 j6 false)
 else
 j6 false))
theorem prefix_Contains_ac (a0:aPrefix) (a1:aAddr) (r:Bool) (h:prefix_Contains a0 a1=some r):AC Tryz.prog 80 [(.d (e_aPrefix a0)),(.d (e_aAddr a1))] [] (.d (.bool r)) []:=by
 refine ac2 Tryz.func80 rfl rfl fun B hB hN L => ?_
 delta prefix_Contains at h
 apply sr (cg (OpJ.box hB (nm:=1002) (by decide) (by simp) rfl (L rfl) (q 0)) rfl (cg (OpJ.box hB (nm:=1003) (by decide) (by simp) rfl (L rfl) (q 1)) rfl (c (assign (L rfl) (Opd.bool false)) rfl cn)))
 apply AWp.seq
 refine AWp.cut h (fun m5:Bool=>([(4,(bo m5))]:EL)) (fun m5:Bool=>([]:OL)) (fun m5 h E' O' hmat => ?_) (fun j6 hjj6 h => ?_)
 ·apply seqQ_n
  refine AWp.ghost hmat ?_
  apply AWp.ret
  obtain rfl:=oi h
  exact rt (kp [(4,_)] [] hB rfl rfl (by rfl)) [(bo m5)] (Res.tmp (by rfl) (by rfl) Res.nil) rfl
 ·rcases bft ((a0.fAddr.fV6==a1.fV6)&&(decide (0≤a0.fLen))) with hg7 | hg7
  ·have h:=ite_t hg7 h
   obtain⟨r8,hr8,h⟩:=bindS h
   rcases bft (decide (a0.fLen≤r8)) with hg9 | hg9
   ·have h:=ite_t hg9 h
    obtain⟨r10,hr10,h⟩:=bindS h
    apply dr (c (fo 1002 0 [0] hN underlying46 0 tyS44 (q 2)) rfl (c (fo 1002 0 [0,0] hN underlying44 0 tyS4 (q 5)) rfl (c (lb hN 46 _ _ tyS4 (At.dst1 (by rfl) (by rfl) (ad _) (by first | rfl | omega)) (q 6)) rfl (c (fo 1003 0 [0] hN underlying44 0 tyS4 (q 3)) rfl (c (la hN 44 tyS4 (q 8)) rfl (c (OpJ.eqlB underlying4 (L rfl) (q 7) (q 9)) rfl (c (mv hN (q 10)) rfl (c (oq hN 11 (fo 1002 3 [1] hN underlying46 3 tyS3 (q 2)) (OptL.keep (by rfl) OptL.nil) (GuardV.plain _)) rfl (c (oq hN 11 (la hN 46 tyS3 (q 12)) (OptL.opt OptL.nil) (GuardV.plain _)) rfl (c (oq hN 11 (geq (L rfl) (q 13) (ii 0)) (OptL.opt OptL.nil) (GuardV.plain _)) rfl (c (pickAnd rfl (L rfl) (q 11) (q 14)) rfl (c (OpJ.val (v':=.d (.bool true)) (by rw [hg7]<;>rfl) (mv hN (q 15))) rfl (c (gd 16 (fo 1002 3 [1] hN underlying46 3 tyS3 (q 2))) rfl (c (gd 16 (la hN 46 tyS3 (q 17))) rfl (c (gd 16 (lb hN 44 _ _ tyS44 (At.here _) (q 3))) rfl (cg (gd 16 (cf hB fnOk99 (prefix_width_ac a1 r8 hr8) (L rfl) (OpdL.cons (q 19) OpdL.nil))) rfl (c (gd 16 (leq (L rfl) (q 18) (q 20))) rfl (c (pickT (L rfl) (q 16) (q 21)) rfl (c (OpJ.val (v':=.d (.bool true)) (by rw [hg9]<;>rfl) (mv hN (q 22))) rfl (c (gd 23 (lb hN 44 _ _ tyS44 (At.here _) (q 3))) rfl (c (gd 23 (fo 1002 3 [1] hN underlying46 3 tyS3 (q 2))) rfl (c (gd 23 (la hN 46 tyS3 (q 25))) rfl (cg (gd 23 (cf hB fnOk100 (prefix_first_ac a1 a0.fLen r10 hr10) (L rfl) (OpdL.cons (q 24) (OpdL.cons (q 26) OpdL.nil)))) rfl (c (gd 23 (fo 1002 0 [0] hN underlying46 0 tyS44 (q 2))) rfl (c (gd 23 (la hN 46 tyS44 (q 28))) rfl (c (gd 23 (OpJ.eqlD (h:=2) (FitE.st underlying44 rfl held44 (FitF.cons (x:=(.bool r10.fV6)) (y:=(.bool a0.fAddr.fV6)) (by decide) rfl tyS4 ⟨rfl,rfl⟩ ⟨rfl,rfl⟩ (FitE.bool (h:=0) r10.fV6 a0.fAddr.fV6 underlying4) (FitF.cons (x:=(.int .u64 r10.fHi)) (y:=(.int .u64 a0.fAddr.fHi)) (by decide) rfl tyS42 ⟨rfl,rfl⟩ ⟨rfl,rfl⟩ (FitE.int (h:=0) r10.fHi a0.fAddr.fHi underlying42) (FitF.cons (x:=(.int .u64 r10.fLo)) (y:=(.int .u64 a0.fAddr.fLo)) (by decide) rfl tyS42 ⟨rfl,rfl⟩ ⟨rfl,rfl⟩ (FitE.int (h:=0) r10.fLo a0.fAddr.fLo underlying42) FitF.nil)))) eqg44 ⟨rfl,rfl⟩ (by rfl) (L rfl) (q 27) (q 29))) rfl (c (pickT (L rfl) (q 23) (q 30)) rfl (c (assign (L rfl) (q 31)) rfl cn)))))))))))))))))))))))))))) (by kernel_rfl) (by kernel_rfl)
    exact hjj6 _ h _ _ (mp [] _ _ hB)
   ·have h:=ite_f hg9 h
    apply dr (c (fo 1002 0 [0] hN underlying46 0 tyS44 (q 2)) rfl (c (fo 1002 0 [0,0] hN underlying44 0 tyS4 (q 5)) rfl (c (lb hN 46 _ _ tyS4 (At.dst1 (by rfl) (by rfl) (ad _) (by first | rfl | omega)) (q 6)) rfl (c (fo 1003 0 [0] hN underlying44 0 tyS4 (q 3)) rfl (c (la hN 44 tyS4 (q 8)) rfl (c (OpJ.eqlB underlying4 (L rfl) (q 7) (q 9)) rfl (c (mv hN (q 10)) rfl (c (oq hN 11 (fo 1002 3 [1] hN underlying46 3 tyS3 (q 2)) (OptL.keep (by rfl) OptL.nil) (GuardV.plain _)) rfl (c (oq hN 11 (la hN 46 tyS3 (q 12)) (OptL.opt OptL.nil) (GuardV.plain _)) rfl (c (oq hN 11 (geq (L rfl) (q 13) (ii 0)) (OptL.opt OptL.nil) (GuardV.plain _)) rfl (c (pickAnd rfl (L rfl) (q 11) (q 14)) rfl (c (OpJ.val (v':=.d (.bool true)) (by rw [hg7]<;>rfl) (mv hN (q 15))) rfl (c (gd 16 (fo 1002 3 [1] hN underlying46 3 tyS3 (q 2))) rfl (c (gd 16 (la hN 46 tyS3 (q 17))) rfl (c (gd 16 (lb hN 44 _ _ tyS44 (At.here _) (q 3))) rfl (cg (gd 16 (cf hB fnOk99 (prefix_width_ac a1 r8 hr8) (L rfl) (OpdL.cons (q 19) OpdL.nil))) rfl (c (gd 16 (leq (L rfl) (q 18) (q 20))) rfl (c (pickT (L rfl) (q 16) (q 21)) rfl (c (OpJ.val (v':=.d (.bool false)) (by rw [hg9]<;>rfl) (mv hN (q 22))) rfl (ks 23 (L rfl) (ks 23 (L rfl) (ks 23 (L rfl) (ks 23 (L rfl) (ks 23 (L rfl) (ks 23 (L rfl) (ks 23 (L rfl) (c (pickF (L rfl) (q 23) (Opd.bool false)) rfl (c (assign (L rfl) (q 31)) rfl cn)))))))))))))))))))))))))))) (by kernel_rfl) (by kernel_rfl)
    exact hjj6 _ h _ _ (mp [] _ _ hB)
  ·have h:=ite_f hg7 h
   apply dr (c (fo 1002 0 [0] hN underlying46 0 tyS44 (q 2)) rfl (c (fo 1002 0 [0,0] hN underlying44 0 tyS4 (q 5)) rfl (c (lb hN 46 _ _ tyS4 (At.dst1 (by rfl) (by rfl) (ad _) (by first | rfl | omega)) (q 6)) rfl (c (fo 1003 0 [0] hN underlying44 0 tyS4 (q 3)) rfl (c (la hN 44 tyS4 (q 8)) rfl (c (OpJ.eqlB underlying4 (L rfl) (q 7) (q 9)) rfl (c (mv hN (q 10)) rfl (c (oq hN 11 (fo 1002 3 [1] hN underlying46 3 tyS3 (q 2)) (OptL.keep (by rfl) OptL.nil) (GuardV.plain _)) rfl (c (oq hN 11 (la hN 46 tyS3 (q 12)) (OptL.opt OptL.nil) (GuardV.plain _)) rfl (c (oq hN 11 (geq (L rfl) (q 13) (ii 0)) (OptL.opt OptL.nil) (GuardV.plain _)) rfl (c (pickAnd rfl (L rfl) (q 11) (q 14)) rfl (c (OpJ.val (v':=.d (.bool false)) (by rw [hg7]<;>rfl) (mv hN (q 15))) rfl (ks 16 (L rfl) (ks 16 (L rfl) (ks 16 (L rfl) (ks 16 (L rfl) (ks 16 (L rfl) (c (pickF (L rfl) (q 16) (Opd.bool false)) rfl (c (mv hN (q 22)) rfl (ks 23 (L rfl) (ks 23 (L rfl) (ks 23 (L rfl) (ks 23 (L rfl) (ks 23 (L rfl) (ks 23 (L rfl) (ks 23 (L rfl) (c (pickF (L rfl) (q 23) (Opd.bool false)) rfl (c (assign (L rfl) (q 31)) rfl cn)))))))))))))))))))))))))))) (by kernel_rfl) (by kernel_rfl)
   exact hjj6 _ h _ _ (mp [] _ _ hB)
def prefix_Covers (a0:aPrefix) (a1:aPrefix):Option (Bool) :=
 jn (fun m3:Bool =>
 some m3) (fun j4 =>
 (if (decide (a0.fLen≤a1.fLen))=true then
 (prefix_Contains a0 a1.fAddr).bind fun r6 =>
 j4 r6
 else
 j4 false))
theorem prefix_Covers_ac (a0:aPrefix) (a1:aPrefix) (r:Bool) (h:prefix_Covers a0 a1=some r):AC Tryz.prog 45 [(.d (e_aPrefix a0)),(.d (e_aPrefix a1))] [] (.d (.bool r)) []:=by
 refine ac2 Tryz.func45 rfl rfl fun B hB hN L => ?_
 delta prefix_Covers at h
 apply sr (cg (OpJ.box hB (nm:=1002) (by decide) (by simp) rfl (L rfl) (q 0)) rfl (cg (OpJ.box hB (nm:=1003) (by decide) (by simp) rfl (L rfl) (q 1)) rfl (c (assign (L rfl) (Opd.bool false)) rfl cn)))
 apply AWp.seq
 refine AWp.cut h (fun m3:Bool=>([(4,(bo m3))]:EL)) (fun m3:Bool=>([]:OL)) (fun m3 h E' O' hmat => ?_) (fun j4 hjj4 h => ?_)
 ·apply seqQ_n
  refine AWp.ghost hmat ?_
  apply AWp.ret
  obtain rfl:=oi h
  exact rt (kp [(4,_)] [] hB rfl rfl (by rfl)) [(bo m3)] (Res.tmp (by rfl) (by rfl) Res.nil) rfl
 ·rcases bft (decide (a0.fLen≤a1.fLen)) with hg5 | hg5
  ·have h:=ite_t hg5 h
   obtain⟨r6,hr6,h⟩:=bindS h
   apply rg (c (fo 1003 3 [1] hN underlying46 3 tyS3 (q 3)) rfl (c (la hN 46 tyS3 (q 5)) rfl (c (fo 1002 3 [1] hN underlying46 3 tyS3 (q 2)) rfl (c (la hN 46 tyS3 (q 7)) rfl (c (geq (L rfl) (q 6) (q 8)) rfl (c (OpJ.val (v':=.d (.bool true)) (by rw [hg5]<;>rfl) (mv hN (q 9))) rfl (c (gd 10 (lb hN 46 _ _ tyS46 (At.here _) (q 2))) rfl (c (gd 10 (fo 1003 0 [0] hN underlying46 0 tyS44 (q 3))) rfl (c (gd 10 (la hN 46 tyS44 (q 12))) rfl (cg (gd 10 (cf hB fnOk80 (prefix_Contains_ac a0 a1.fAddr r6 hr6) (L rfl) (OpdL.cons (q 11) (OpdL.cons (q 13) OpdL.nil)))) rfl (c (pickT (L rfl) (q 10) (q 14)) rfl (c (assign (L rfl) (q 15)) rfl cn))))))))))))
   exact hjj4 _ h _ _ (mp [] _ _ hB)
  ·have h:=ite_f hg5 h
   apply rg (c (fo 1003 3 [1] hN underlying46 3 tyS3 (q 3)) rfl (c (la hN 46 tyS3 (q 5)) rfl (c (fo 1002 3 [1] hN underlying46 3 tyS3 (q 2)) rfl (c (la hN 46 tyS3 (q 7)) rfl (c (geq (L rfl) (q 6) (q 8)) rfl (c (OpJ.val (v':=.d (.bool false)) (by rw [hg5]<;>rfl) (mv hN (q 9))) rfl (ks 10 (L rfl) (ks 10 (L rfl) (ks 10 (L rfl) (ks 10 (L rfl) (c (pickF (L rfl) (q 10) (Opd.bool false)) rfl (c (assign (L rfl) (q 15)) rfl cn))))))))))))
   exact hjj4 _ h _ _ (mp [] _ _ hB)
def origin_State_L0 (a0:(List aObject)) (a1:aPrefix) (a2:Int) (s1:Int×Int×(List aObject)):Option (((Int×(List aObject)))⊕(Int×Int×(List aObject))) :=
 (if (decide (s1.2.1<(a0.length:Int)))=true then
 jn (fun m40:Int×(List aObject) =>
 some (.inr (m40.1,(w64 (s1.2.1+1)),m40.2))) (fun j41 =>
 (idx a0 s1.2.1).bind fun x42 =>
 (prefix_Covers x42.fPrefix a1).bind fun r43 =>
 (if (!r43)=true then
 j41 (s1.1,s1.2.2)
 else
 chk (decide ((s1.2.2++[x42]).length≤LIM)) <|
 (if (((x42.fASN==a2)&&(a2 != 0))&&(decide (a1.fLen≤x42.fMax)))=true then
 j41 (1,(s1.2.2++[x42]))
 else
 (if (s1.1==0)=true then
 j41 (2,(s1.2.2++[x42]))
 else
 j41 (s1.1,(s1.2.2++[x42]))))))
 else
 some (.inl (s1.1,s1.2.2)))
def origin_State (a0:(List aObject)) (a1:aPrefix) (a2:Int):Option (Int×(List aObject)) :=
 (loop (origin_State_L0 a0 a1 a2) (0,0,([]:List aObject))).bind fun p32 =>
 some (p32.1,p32.2)
theorem origin_State_ac (a0:(List aObject)) (a1:aPrefix) (a2:Int) (r:Int×(List aObject)) (h:origin_State a0 a1 a2=some r):AC Tryz.prog 18 [(.d (.list 6 (a0.map e_aObject))),(.d (e_aPrefix a1)),(.d (.int .i64 a2))] [] (.tup [(.d (.int .i64 r.1)),(.d (.list 6 (r.2.map e_aObject)))]) []:=by
 refine ac2 Tryz.func18 rfl rfl fun B hB hN L => ?_
 delta origin_State at h
 apply sr (cg (OpJ.box hB (nm:=1004) (by decide) (by simp) rfl (L rfl) (q 1)) rfl (c (assign (L rfl) (ii 0)) rfl (c (assign (L rfl) Opd.nils) rfl cn)))
 apply sr (c (assign (L rfl) Opd.nils) rfl cn)
 apply sr (c (assign (L rfl) (ii 0)) rfl cn)
 apply AWp.seq
 apply sr (c (mv hN (q 0)) rfl (c (OpJ.val (v':=(i6 (a0.length:Int))) (by simp) (lenD underlying38 (L rfl) (q 12))) rfl (c (mv hN (ii 0)) rfl cn)))
 apply AWp.block
 obtain⟨p32,hx49,h⟩:=bindS h
 refine lg (origin_State_L0 a0 a1 a2) (fun s1:Int×Int×(List aObject)=>([(2,(i6 a2)),(4,(pt 1004)),(8,(.sref 3008 6 0 s1.2.2.length)),(9,(i6 s1.1)),(12,(qe_aObject_6 a0)),(13,(i6 (a0.length:Int))),(14,(i6 s1.2.1))]:EL)) (fun s1:Int×Int×(List aObject)=>([(1004,bd 46 (e_aPrefix a1)),(3008,some (we_aObject_48_6 s1.2.2))]:OL)) (fun(p32:(Int×(List aObject))) e E' O'=>e = .exit 0∧Mat B E' O' ([(8,(.sref 3008 6 0 p32.2.length)),(9,(i6 p32.1))]:EL) ([(3008,some (we_aObject_48_6 p32.2))]:OL)) hx49 (Mat.trans (Mat.beginP (n:=3008) (e:=48) (sz:=6) (Ts:=[(8,(.sref 3008 6 0 0))]) (Bs:=[]) hB (by decide) (by rfl) (by decide) (TwT.cons (x:=.nils) (by rfl) (Tw.leaf ⟨rfl,rfl⟩) TwT.nil) TwB.nil) (mp [] _ _ hB)) (fun s1 y h => ?_) (fun e E' O' hR => ?_)
 ·unfold origin_State_L0 at h
  apply sr (c (lss (L rfl) (q 14) (q 13)) rfl cn)
  apply AWp.seq
  apply AWp.cond rfl<;>intro hg33
  ·have h:=ite_t hg33 h
   apply AWp.skip
   apply seqQ_n
   apply AWp.seq
   refine AWp.cut h (fun m40:Int×(List aObject)=>([(2,(i6 a2)),(4,(pt 1004)),(8,(.sref 3008 6 0 m40.2.length)),(9,(i6 m40.1)),(12,(qe_aObject_6 a0)),(13,(i6 (a0.length:Int))),(14,(i6 s1.2.1))]:EL)) (fun m40:Int×(List aObject)=>([(1004,bd 46 (e_aPrefix a1)),(3008,some (we_aObject_48_6 m40.2))]:OL)) (fun m40 h E' O' hmat => ?_) (fun j41 hjj41 h => ?_)
   ·apply seqQ_n
    refine AWp.ghost hmat ?_
    apply rg (c (add6 (L rfl) (q 14) (ii 1)) rfl (c (mv hN (q 44)) rfl cn))
    obtain rfl:=oi h
    exact⟨rfl,(mp [] _ _ hB)⟩
   ·apply AWp.block
    obtain⟨x42,hx42,h⟩:=bindS h
    apply sr (c (indexD underlying38 tyS48 (idx_some hx42).1 (get_map e_aObject (idx_some hx42).2) (L rfl) (q 12) (q 14)) rfl (c (loadD tyS48 (by rfl) (by rfl) (L rfl) (q 16)) rfl (cg (alloc hB tyZ48 (nm:=1011) (by decide) (L rfl)) rfl (cg (sB tyS48 (q 11) (q 17)) rfl cn))))
    apply AWp.seq
    obtain⟨r43,hr43,h⟩:=bindS h
    apply sr (c (fo 1011 0 [0] hN underlying48 0 tyS46 (q 11)) rfl (c (la hN 48 tyS46 (q 18)) rfl (c (lb hN 46 _ _ tyS46 (At.here _) (q 4)) rfl (cg (cf hB fnOk45 (prefix_Covers_ac x42.fPrefix a1 r43 hr43) (L rfl) (OpdL.cons (q 19) (OpdL.cons (q 20) OpdL.nil))) rfl (c (OpJ.not (L rfl) (q 21)) rfl cn)))))
    apply AWp.cond rfl<;>intro hg44
    ·have h:=ite_t hg44 h
     apply AWp.exit
     apply seqQ_e
     apply blkQ_hit
     exact hjj41 _ h _ _ (mp [] _ _ hB)
    ·have h:=ite_f hg44 h
     apply AWp.skip
     apply seqQ_n
     obtain⟨hc45,h⟩:=chk_some h
     apply sr (c (mv hN (q 8)) rfl (c (lb hN 48 _ _ tyS48 (At.here _) (q 11)) rfl (c (buildSlice underlying38 tyS48 tyZD48 (by rfl) (by decide) (by decide) (Opds.cons (q 24) Opds.nil) (by kernel_rfl) (es:=([(e_aObject x42)]:List D)) (by rfl) (by rfl) (by kernel_rfl) (by simp) (L rfl)) rfl (cg (apd hB underlying38 tyE48 1026 e_aObject s1.2.2 [x42] hc45 (L rfl) (q 23) (q 25)) rfl (c (assign (L rfl) (q 26)) rfl cn)))))
     apply sr (c (fo 1011 5 [2] hN underlying48 5 tyS3 (q 11)) rfl (c (la hN 48 tyS3 (q 27)) rfl (c (mv hN (q 2)) rfl (c (eqlI (L rfl) (q 28) (q 29)) rfl (c (mv hN (q 30)) rfl (c (oq hN 31 (mv hN (q 2)) (OptL.keep (by rfl) OptL.nil) (GuardV.plain _)) rfl (c (oq hN 31 (neqI (L rfl) (q 32) (ii 0)) (OptL.opt OptL.nil) (GuardV.plain _)) rfl (c (pickAnd rfl (L rfl) (q 31) (q 33)) rfl (c (mv hN (q 34)) rfl (c (oq hN 35 (fo 1011 4 [1] hN underlying48 4 tyS3 (q 11)) (OptL.keep (by rfl) OptL.nil) (GuardV.plain _)) rfl (c (oq hN 35 (la hN 48 tyS3 (q 36)) (OptL.opt OptL.nil) (GuardV.plain _)) rfl (c (oq hN 35 (fo 1004 3 [1] hN underlying46 3 tyS3 (q 4)) (OptL.keep (by rfl) OptL.nil) (GuardV.plain _)) rfl (c (oq hN 35 (la hN 46 tyS3 (q 38)) (OptL.opt OptL.nil) (GuardV.plain _)) rfl (c (oq hN 35 (geq (L rfl) (q 37) (q 39)) (OptL.opt (OptL.opt OptL.nil)) (GuardV.plain _)) rfl (c (pickAnd rfl (L rfl) (q 35) (q 40)) rfl cn)))))))))))))))
     apply AWp.cond rfl<;>intro hg46
     ·have h:=ite_t hg46 h
      apply rg (c (assign (L rfl) (ii 1)) rfl cn)
      apply blkQ_n
      exact hjj41 _ h _ _ (mp [(3008,1026)] _ _ hB)
     ·have h:=ite_f hg46 h
      apply sr (c (mv hN (q 9)) rfl (c (eqlI (L rfl) (q 42) (ii 0)) rfl cn))
      apply AWp.cond rfl<;>intro hg47
      ·have h:=ite_t hg47 h
       apply rg (c (assign (L rfl) (ii 2)) rfl cn)
       apply blkQ_n
       exact hjj41 _ h _ _ (mp [(3008,1026)] _ _ hB)
      ·have h:=ite_f hg47 h
       apply AWp.skip
       apply blkQ_n
       exact hjj41 _ h _ _ (mp [(3008,1026)] _ _ hB)
  ·have h:=ite_f hg33 h
   apply AWp.exit
   apply seqQ_e
   obtain rfl:=oi h
   exact⟨(fun hc=>by cases hc),rfl,(mp [] _ _ hB)⟩
 ·obtain⟨rfl,hmat⟩:=hR
  apply blkQ_hit
  apply seqQ_n
  refine AWp.ghost hmat ?_
  apply sr (c (mv hN (q 9)) rfl (c (mv hN (q 8)) rfl (c (assign (L rfl) (q 45)) rfl (c (assign (L rfl) (q 46)) rfl cn))))
  apply AWp.ret
  obtain rfl:=oi h
  exact rt (Mat.trans (Mat.freezeP (n:=3008) (e:=48) (sz:=6) (es:=p32.2.map e_aObject) (Ts:=[(7,(qe_aObject_6 p32.2))]) (Bs:=[]) (by rfl) (TwT.cons (x:=(.sref 3008 6 0 p32.2.length)) (by rfl) (FrzL.all (by first | rfl | (simp;done) | (simp;omega) | omega)) TwT.nil) TwB.nil) (mp [] [(6,(i6 p32.1)),(7,(qe_aObject_6 p32.2))] [] hB)) [(i6 p32.1),(qe_aObject_6 p32.2)] (Res.tmp (by rfl) (by rfl) (Res.tmp (by rfl) (by rfl) Res.nil)) rfl
def xlaw22_awake:Option (Bool) :=
 (xlaw22_awake_1 0 8).bind fun r1 =>
 (xref21_Of [r1] ([]:List aSpan)).bind fun r2 =>
 (xlaw22_awake_1 1 16).bind fun r3 =>
 (xref21_Of [r3] ([]:List aSpan)).bind fun r4 =>
 (xlaw22_awake_1 1 16).bind fun r5 =>
 (origin_Payloads [(aCert.mk 1 1 0 9 r2.1),(aCert.mk 2 1 0 9 r4.1)] ([(aSigned.mk 2 7 0 9 [(aObject.mk r5 16 7)])]:List aSigned) ([1]:List Int) 5).bind fun r6 =>
 (xlaw22_awake_1 1 16).bind fun r7 =>
 (origin_State r6.1 r7 7).bind fun r8 =>
 (xlaw22_awake_1 1 16).bind fun r9 =>
 (origin_State r6.1 r9 8).bind fun r10 =>
 some ((((r6.2==0)&&((r6.1.length:Int)==1))&&(r8.1==1))&&(r10.1==2))
theorem xlaw22_awake_ac (r:Bool) (h:xlaw22_awake=some r):AC Tryz.prog 9 [] [(500,(.know (globF 0 [109,150,151]))),(501,(.know (globF 1 [98,152,153])))] (.d (.bool r)) [(500,some (.know (globF 0 [109,150,151]))),(501,some (.know (globF 1 [98,152,153])))]:=by
 refine ac2 Tryz.func9 rfl rfl fun B hB hN L => ?_
 delta xlaw22_awake at h
 apply sr (c (assign (L rfl) (Opd.bool false)) rfl cn)
 apply sr (c (assign (L rfl) (Opd.func 27)) rfl cn)
 obtain⟨r1,hr1,h⟩:=bindS h
 obtain⟨r2,hr2,h⟩:=bindS h
 apply sr (c (mv hN (q 1)) rfl (cg (callVal (args:=[(i6 0),(i6 8)]) (caps:=[]) hB fnOk27 [] (xlaw22_awake_1_ac 0 8 r1 hr1) (by kernel_rfl) (L rfl) (by kernel_rfl) (by kernel_rfl) (OpdL.cons (ii 0) (OpdL.cons (ii 8) OpdL.nil))) rfl (c (buildSlice underlying50 tyS46 tyZD46 (by rfl) (by decide) (by decide) (Opds.cons (q 15) Opds.nil) (by kernel_rfl) (es:=([(e_aPrefix r1)]:List D)) (by rfl) (by rfl) (by kernel_rfl) (by simp) (L rfl)) rfl (cg (cf hB fnOk28 (xref21_Of_ac [r1] ([]:List aSpan) r2 hr2) (L rfl) (OpdL.cons (q 16) (OpdL.cons (Opd.tw Opd.nils (Tw.leaf ⟨_,(Co.nils 2),rfl⟩)) OpdL.nil))) rfl (c (mv hN (q 17)) rfl (c (extract (by rfl) rfl (L rfl) (q 13)) rfl (c (extract (by rfl) rfl (L rfl) (q 13)) rfl (cg (alloc hB tyZ57 (nm:=1002) (by decide) (L rfl)) rfl (cg (sB tyS57 (q 2) (q 18)) rfl (c (assign (L rfl) (q 19)) rfl cn))))))))))
 obtain⟨r3,hr3,h⟩:=bindS h
 obtain⟨r4,hr4,h⟩:=bindS h
 apply sr (c (mv hN (q 1)) rfl (cg (callVal (args:=[(i6 1),(i6 16)]) (caps:=[]) hB fnOk27 [] (xlaw22_awake_1_ac 1 16 r3 hr3) (by kernel_rfl) (L rfl) (by kernel_rfl) (by kernel_rfl) (OpdL.cons (ii 1) (OpdL.cons (ii 16) OpdL.nil))) rfl (c (buildSlice underlying50 tyS46 tyZD46 (by rfl) (by decide) (by decide) (Opds.cons (q 22) Opds.nil) (by kernel_rfl) (es:=([(e_aPrefix r3)]:List D)) (by rfl) (by rfl) (by kernel_rfl) (by simp) (L rfl)) rfl (cg (cf hB fnOk28 (xref21_Of_ac [r3] ([]:List aSpan) r4 hr4) (L rfl) (OpdL.cons (q 23) (OpdL.cons (Opd.tw Opd.nils (Tw.leaf ⟨_,(Co.nils 2),rfl⟩)) OpdL.nil))) rfl (c (mv hN (q 24)) rfl (c (extract (by rfl) rfl (L rfl) (q 20)) rfl (c (extract (by rfl) rfl (L rfl) (q 20)) rfl (cg (alloc hB tyZ57 (nm:=1004) (by decide) (L rfl)) rfl (cg (sB tyS57 (q 4) (q 25)) rfl (c (assign (L rfl) (q 26)) rfl cn))))))))))
 apply sr (c (lb hN 57 _ _ tyS57 (At.here _) (q 2)) rfl (c (OpJ.coe (v:=(.st [(i6 1),(i6 1),(i6 0),(i6 9),(.d (e_aResources r2.1))])) (y:=(.st [(.int .i64 1),(.int .i64 1),(.int .i64 0),(.int .i64 9),(e_aResources r2.1)])) (Co.st (CoL.cons (Co.d _) (CoL.cons (Co.d _) (CoL.cons (Co.d _) (CoL.cons (Co.d _) (CoL.cons (Co.d _) CoL.nil)))))) rfl (OpJ.build (places:=[(0,1),(1,1),(2,1),(3,1),(4,2)]) ⟨underlying59,fun w=>by kernel_rfl⟩ tyZS59 (Opds.cons (ii 1) (Opds.cons (ii 1) (Opds.cons (ii 9) (Opds.cons (q 27) Opds.nil)))) (by kernel_rfl) (r:=(.st [(i6 1),(i6 1),(i6 0),(i6 9),(.d (e_aResources r2.1))])) (by rfl) (L rfl))) rfl (c (lb hN 57 _ _ tyS57 (At.here _) (q 4)) rfl (c (OpJ.coe (v:=(.st [(i6 2),(i6 1),(i6 0),(i6 9),(.d (e_aResources r4.1))])) (y:=(.st [(.int .i64 2),(.int .i64 1),(.int .i64 0),(.int .i64 9),(e_aResources r4.1)])) (Co.st (CoL.cons (Co.d _) (CoL.cons (Co.d _) (CoL.cons (Co.d _) (CoL.cons (Co.d _) (CoL.cons (Co.d _) CoL.nil)))))) rfl (OpJ.build (places:=[(0,1),(1,1),(2,1),(3,1),(4,2)]) ⟨underlying59,fun w=>by kernel_rfl⟩ tyZS59 (Opds.cons (ii 2) (Opds.cons (ii 1) (Opds.cons (ii 9) (Opds.cons (q 29) Opds.nil)))) (by kernel_rfl) (r:=(.st [(i6 2),(i6 1),(i6 0),(i6 9),(.d (e_aResources r4.1))])) (by rfl) (L rfl))) rfl (c (buildSlice underlying22 tyS59 tyZD59 (by rfl) (by decide) (by decide) (Opds.cons (q 28) (Opds.cons (q 30) Opds.nil)) (by kernel_rfl) (es:=([(.st [(.int .i64 1),(.int .i64 1),(.int .i64 0),(.int .i64 9),(e_aResources r2.1)]),(.st [(.int .i64 2),(.int .i64 1),(.int .i64 0),(.int .i64 9),(e_aResources r4.1)])]:List D)) (by rfl) (by rfl) (by kernel_rfl) (by simp) (L rfl)) rfl (c (assign (L rfl) (q 31)) rfl cn))))))
 apply AWp.seq
 obtain⟨r5,hr5,h⟩:=bindS h
 obtain⟨r6,hr6,h⟩:=bindS h
 refine AWp.region (oc (mv hN (ot 6 (qe_aCert_6 [(aCert.mk 1 1 0 9 r2.1),(aCert.mk 2 1 0 9 r4.1)])))
 (oc (mv hN (ot 1 (.func 27 [])))
 (oc (callVal (args:=[(i6 1),(i6 16)]) (caps:=[]) hB fnOk27 [] (xlaw22_awake_1_ac 1 16 r5 hr5) (by kernel_rfl) (L rfl) (by kernel_rfl) (by kernel_rfl) (OpdL.cons (ii 1) (OpdL.cons (ii 16) OpdL.nil)))
 (oc (OpJ.coe (v:=(.st [(.d (e_aPrefix r5)),(i6 16),(i6 7)])) (y:=(.st [(e_aPrefix r5),(.int .i64 16),(.int .i64 7)])) (Co.st (CoL.cons (Co.d _) (CoL.cons (Co.d _) (CoL.cons (Co.d _) CoL.nil)))) rfl (OpJ.build (places:=[(0,4),(4,1),(5,1)]) ⟨underlying48,fun w=>by kernel_rfl⟩ tyZS48 (Opds.cons (ot 35 (.d (e_aPrefix r5))) (Opds.cons (ii 16) (Opds.cons (ii 7) Opds.nil))) (by kernel_rfl) (r:=(.st [(.d (e_aPrefix r5)),(i6 16),(i6 7)])) (by rfl) (L rfl)))
 (oc (buildSlice underlying38 tyS48 tyZD48 (by rfl) (by decide) (by decide) (Opds.cons (ot 36 (.d (.st [(e_aPrefix r5),(.int .i64 16),(.int .i64 7)]))) Opds.nil) (by kernel_rfl) (es:=([(.st [(e_aPrefix r5),(.int .i64 16),(.int .i64 7)])]:List D)) (by rfl) (by rfl) (by kernel_rfl) (by simp) (L rfl))
 (oc (OpJ.coe (v:=(.st [(i6 2),(i6 7),(i6 0),(i6 9),(qe_aObject_6 [(aObject.mk r5 16 7)])])) (y:=(.st [(.int .i64 2),(.int .i64 7),(.int .i64 0),(.int .i64 9),(.list 6 ([(aObject.mk r5 16 7)].map e_aObject))])) (Co.st (CoL.cons (Co.d _) (CoL.cons (Co.d _) (CoL.cons (Co.d _) (CoL.cons (Co.d _) (CoL.cons (Co.d _) CoL.nil)))))) rfl (OpJ.build (places:=[(0,1),(1,1),(2,1),(3,1),(4,1)]) ⟨underlying66,fun w=>by kernel_rfl⟩ tyZS66 (Opds.cons (ii 2) (Opds.cons (ii 7) (Opds.cons (ii 9) (Opds.cons (ot 37 (qe_aObject_6 [(aObject.mk r5 16 7)])) Opds.nil)))) (by kernel_rfl) (r:=(.st [(i6 2),(i6 7),(i6 0),(i6 9),(qe_aObject_6 [(aObject.mk r5 16 7)])])) (by rfl) (L rfl)))
 (oc (buildSlice underlying26 tyS66 tyZD66 (by rfl) (by decide) (by decide) (Opds.cons (ot 38 (.d (.st [(.int .i64 2),(.int .i64 7),(.int .i64 0),(.int .i64 9),(.list 6 ([(aObject.mk r5 16 7)].map e_aObject))]))) Opds.nil) (by kernel_rfl) (es:=([(.st [(.int .i64 2),(.int .i64 7),(.int .i64 0),(.int .i64 9),(.list 6 ([(aObject.mk r5 16 7)].map e_aObject))])]:List D)) (by rfl) (by rfl) (by kernel_rfl) (by simp) (L rfl))
 (oc (buildSlice underlying23 tyS3 tyZD3 (by rfl) (by decide) (by decide) (Opds.cons (ii 1) Opds.nil) (by kernel_rfl) (es:=([(.int .i64 1)]:List D)) (by rfl) (by rfl) (by kernel_rfl) (by simp) (L rfl))
 (oc (OpJ.callFn hB fnOk16 (origin_Payloads_ac [(aCert.mk 1 1 0 9 r2.1),(aCert.mk 2 1 0 9 r4.1)] ([(aSigned.mk 2 7 0 9 [(aObject.mk r5 16 7)])]:List aSigned) ([1]:List Int) 5 r6 hr6) [(500,500),(501,501)] (by kernel_rfl) (L rfl) (by kernel_rfl) (OpdL.cons (ot 33 (qe_aCert_6 [(aCert.mk 1 1 0 9 r2.1),(aCert.mk 2 1 0 9 r4.1)])) (OpdL.cons (ot 39 (qe_aSigned_5 ([(aSigned.mk 2 7 0 9 [(aObject.mk r5 16 7)])]:List aSigned))) (OpdL.cons (ot 40 (qI_1 ([1]:List Int))) (OpdL.cons (ii 5) OpdL.nil)))))
 (oc (mv hN (ot 41 (.tup [(qe_aObject_6 r6.1),(i6 r6.2)])))
 (oc (extract (v:=(qe_aObject_6 r6.1)) (by rfl) rfl (L rfl) (ot 32 (.tup [(qe_aObject_6 r6.1),(i6 r6.2)])))
 (oc (extract (v:=(i6 r6.2)) (by rfl) rfl (L rfl) (ot 32 (.tup [(qe_aObject_6 r6.1),(i6 r6.2)])))
 (oc (assign (L rfl) (ot 42 (qe_aObject_6 r6.1)))
 (oc (assign (L rfl) (ot 43 (i6 r6.2)))
 (OpJs.nil))))))))))))))) (by rfl) (by rfl) ?_
 apply seqQ_n
 refine AWp.ghost (mp [] [(1,(.func 27 [])),(7,(qe_aObject_6 r6.1)),(8,(i6 r6.2))] [(500,some (.know (globF 0 [109,150,151]))),(501,some (.know (globF 1 [98,152,153])))] hB) ?_
 obtain⟨r7,hr7,h⟩:=bindS h
 obtain⟨r8,hr8,h⟩:=bindS h
 apply sr (c (mv hN (q 7)) rfl (c (mv hN (q 1)) rfl (cg (callVal (args:=[(i6 1),(i6 16)]) (caps:=[]) hB fnOk27 [] (xlaw22_awake_1_ac 1 16 r7 hr7) (by kernel_rfl) (L rfl) (by kernel_rfl) (by kernel_rfl) (OpdL.cons (ii 1) (OpdL.cons (ii 16) OpdL.nil))) rfl (cg (cf hB fnOk18 (origin_State_ac r6.1 r7 7 r8 hr8) (L rfl) (OpdL.cons (q 45) (OpdL.cons (q 47) (OpdL.cons (ii 7) OpdL.nil)))) rfl (c (mv hN (q 48)) rfl (c (extract (by rfl) rfl (L rfl) (q 44)) rfl (c (extract (by rfl) rfl (L rfl) (q 44)) rfl (c (assign (L rfl) (q 49)) rfl (c (assign (L rfl) (q 50)) rfl cn)))))))))
 obtain⟨r9,hr9,h⟩:=bindS h
 obtain⟨r10,hr10,h⟩:=bindS h
 apply sr (c (mv hN (q 7)) rfl (c (mv hN (q 1)) rfl (cg (callVal (args:=[(i6 1),(i6 16)]) (caps:=[]) hB fnOk27 [] (xlaw22_awake_1_ac 1 16 r9 hr9) (by kernel_rfl) (L rfl) (by kernel_rfl) (by kernel_rfl) (OpdL.cons (ii 1) (OpdL.cons (ii 16) OpdL.nil))) rfl (cg (cf hB fnOk18 (origin_State_ac r6.1 r9 8 r10 hr10) (L rfl) (OpdL.cons (q 52) (OpdL.cons (q 54) (OpdL.cons (ii 8) OpdL.nil)))) rfl (c (mv hN (q 55)) rfl (c (extract (by rfl) rfl (L rfl) (q 51)) rfl (c (extract (by rfl) rfl (L rfl) (q 51)) rfl (c (assign (L rfl) (q 56)) rfl (c (assign (L rfl) (q 57)) rfl cn)))))))))
 apply sr (c (mv hN (q 8)) rfl (c (eqlI (L rfl) (q 58) (ii 0)) rfl (c (mv hN (q 59)) rfl (c (oq hN 60 (mv hN (q 7)) (OptL.keep (by rfl) OptL.nil) (GuardV.plain _)) rfl (c (oq hN 60 (OpJ.val (v':=(i6 (r6.1.length:Int))) (by simp) (lenD underlying38 (L rfl) (q 61))) (OptL.opt OptL.nil) (GuardV.plain _)) rfl (c (oq hN 60 (eqlI (L rfl) (q 62) (ii 1)) (OptL.opt OptL.nil) (GuardV.plain _)) rfl (c (pickAnd rfl (L rfl) (q 60) (q 63)) rfl (c (mv hN (q 64)) rfl (c (oq hN 65 (mv hN (q 9)) (OptL.keep (by rfl) OptL.nil) (GuardV.plain _)) rfl (c (oq hN 65 (eqlI (L rfl) (q 66) (ii 1)) (OptL.opt OptL.nil) (GuardV.plain _)) rfl (c (pickAnd rfl (L rfl) (q 65) (q 67)) rfl (c (mv hN (q 68)) rfl (c (oq hN 69 (mv hN (q 11)) (OptL.keep (by rfl) OptL.nil) (GuardV.plain _)) rfl (c (oq hN 69 (eqlI (L rfl) (q 70) (ii 2)) (OptL.opt OptL.nil) (GuardV.plain _)) rfl (c (pickAnd rfl (L rfl) (q 69) (q 71)) rfl (c (assign (L rfl) (q 72)) rfl cn))))))))))))))))
 apply AWp.ret
 obtain rfl:=oi h
 exact rt (kp [(0,_)] [(500,some _),(501,some _)] hB rfl rfl (by rfl)) [(bo ((((r6.2==0)&&((r6.1.length:Int)==1))&&(r8.1==1))&&(r10.1==2)))] (Res.tmp (by rfl) (by rfl) Res.nil) rfl
def xmake_New (a0:(List Int)):Option (xmake_Deck) :=
 some (xmake_Deck.mk a0 0)
theorem xmake_New_ac (a0:(List Int)) (r:xmake_Deck) (h:xmake_New a0=some r):AC Tryz.prog 11 [(.d (.list 1 (a0.map (eI .i64))))] [] (pt 1005) [(1005,bd 80 (e_xmake_Deck r))]:=by
 refine AC.of_code2 Tryz.func11 rfl rfl (Nat.le_of_ble_eq_true (by rfl)) fun B hB hN => ?_
 delta xmake_New at h
 apply sr (c (assign (v:=.junk) (ltN hN rfl) (Opd.junk _)) rfl cn)
 apply sr (c (mv hN (q 0)) rfl (c (OpJ.coe (v:=(.st [(qI_1 a0),(i6 0)])) (y:=(.st [(.list 1 (a0.map (eI .i64))),(.int .i64 0)])) (Co.st (CoL.cons (Co.d _) (CoL.cons (Co.d _) CoL.nil))) rfl (OpJ.build (places:=[(0,1),(1,1)]) ⟨underlying80,fun w=>by kernel_rfl⟩ tyZS80 (Opds.cons (q 3) Opds.nil) (by kernel_rfl) (r:=(.st [(qI_1 a0),(i6 0)])) (by rfl) (ltN hN rfl))) rfl (cg (OpJ.box hB (nm:=1005) (by decide) (by simp) rfl (ltN hN rfl) (q 4)) rfl (c (assign (ltN hN rfl) (q 5)) rfl cn))))
 apply AWp.ret
 obtain rfl:=oi h
 exact rt (kp [(2,_)] [(1005,some _)] hB rfl rfl (by rfl)) [(pt 1005)] (Res.tmp (by rfl) (by rfl) Res.nil) rfl
def xmake_Mod (a0:Int) (a1:Int):Option (Int) :=
 chk (decide (a1≠0)) <|
 jn (fun m3:Int =>
 some m3) (fun j4 =>
 (if (decide ((Int.tmod a0 a1)<0))=true then
 j4 (w64 ((Int.tmod a0 a1)+a1))
 else
 j4 (Int.tmod a0 a1)))
theorem xmake_Mod_ac (a0:Int) (a1:Int) (r:Int) (h:xmake_Mod a0 a1=some r):AC Tryz.prog 19 [(.d (.int .i64 a0)),(.d (.int .i64 a1))] [] (.d (.int .i64 r)) []:=by
 refine AC.of_code2 Tryz.func19 rfl rfl (Nat.le_of_ble_eq_true (by rfl)) fun B hB hN => ?_
 delta xmake_Mod at h
 apply sr (c (assign (ltN hN rfl) (ii 0)) rfl cn)
 obtain⟨hc1,h⟩:=chk_some h
 apply sr (c (mv hN (q 0)) rfl (c (mv hN (q 1)) rfl (c (OpJ.rem (ltN hN rfl) (q 6) (q 7) (of_decide_eq_true hc1)) rfl (c (assign (ltN hN rfl) (q 8)) rfl cn))))
 apply AWp.seq
 apply sr (c (mv hN (q 5)) rfl (c (lss (ltN hN rfl) (q 9) (ii 0)) rfl cn))
 refine gh [(1,_),(5,_),(10,_)] [] hB rfl rfl (by rfl) ?_
 refine AWp.cut h (fun m3:Int=>([(5,(i6 m3))]:EL)) (fun m3:Int=>([]:OL)) (fun m3 h E' O' hmat => ?_) (fun j4 hjj4 h => ?_)
 ·apply seqQ_n
  refine AWp.ghost hmat ?_
  apply sr (c (mv hN (q 5)) rfl (c (assign (ltN hN rfl) (q 14)) rfl cn))
  apply AWp.ret
  obtain rfl:=oi h
  exact rt (kp [(4,_)] [] hB rfl rfl (by rfl)) [(i6 m3)] (Res.tmp (by rfl) (by rfl) Res.nil) rfl
 ·apply AWp.cond rfl<;>intro hg5
  ·have h:=ite_t hg5 h
   apply rg (c (mv hN (q 5)) rfl (c (mv hN (q 1)) rfl (c (add6 (ltN hN rfl) (q 11) (q 12)) rfl (c (assign (ltN hN rfl) (q 13)) rfl cn))))
   exact hjj4 _ h _ _ (mp [] _ _ hB)
  ·have h:=ite_f hg5 h
   apply AWp.skip
   exact hjj4 _ h _ _ (mp [] _ _ hB)
def xmake_Deck_Next (a0:xmake_Deck) (a1:Int):Option (Int×xmake_Deck) :=
 (if (decide ((a0.fL.length:Int)≤a0.fAt))=true then
 some (0,a0)
 else
 (idx a0.fL (w64 ((w64 (a0.fAt+1))-1))).bind fun x2 =>
 (xmake_Mod x2 a1).bind fun r3 =>
 some (r3,(xmake_Deck.mk a0.fL (w64 (a0.fAt+1)))))
theorem xmake_Deck_Next_ac (a0:xmake_Deck) (a1:Int) (r:Int×xmake_Deck) (h:xmake_Deck_Next a0 a1=some r):AC Tryz.prog 30 [(pt 0),(.d (.int .i64 a1))] [(0,(.box 80 (.d (e_xmake_Deck a0))))] (.d (.int .i64 r.1)) [(0,bd 80 (e_xmake_Deck r.2))]:=by
 refine ac2 Tryz.func30 rfl rfl fun B hB hN L => ?_
 delta xmake_Deck_Next at h
 apply sr (c (assign (L rfl) (ii 0)) rfl cn)
 apply AWp.seq
 apply sd (c (mv hN (q 0)) rfl (c (nilP (L rfl) (q 5)) rfl (c (fo 0 1 [1] hN underlying80 1 tyS3 (q 6)) rfl (c (la hN 80 tyS3 (q 7)) rfl (c (mv hN (q 0)) rfl (c (nilP (L rfl) (q 9)) rfl (c (fo 0 0 [0] hN underlying80 0 tyS23 (q 10)) rfl (c (la hN 80 tyS23 (q 11)) rfl (c (OpJ.val (v':=(i6 (a0.fL.length:Int))) (by simp) (lenD underlying23 (L rfl) (q 12))) rfl (c (geq (L rfl) (q 8) (q 13)) rfl cn)))))))))) (by kernel_rfl) (by kernel_rfl)
 apply AWp.cond rfl<;>intro hg1
 ·have h:=ite_t hg1 h
  apply sr (c (assign (L rfl) (ii 0)) rfl cn)
  apply AWp.ret
  apply seqQ_r
  obtain rfl:=oi h
  exact rt (kp [(4,_)] [(0,some _)] hB rfl rfl (by rfl)) [(i6 0)] (Res.tmp (by rfl) (by rfl) Res.nil) rfl
 ·have h:=ite_f hg1 h
  apply AWp.skip
  apply seqQ_n
  apply sr (c (mv hN (q 0)) rfl (c (nilP (L rfl) (q 15)) rfl (c (fo 0 1 [1] hN underlying80 1 tyS3 (q 16)) rfl (c (la hN 80 tyS3 (q 17)) rfl (c (add6 (L rfl) (q 18) (ii 1)) rfl (c (nilP (L rfl) (q 15)) rfl (c (fo 0 1 [1] hN underlying80 1 tyS3 (q 20)) rfl (cg (OpJ.storeB tyS3 (SetAt.dst1 (by rfl) (by rfl) (SetAt.here _ _) (by rfl) (by rfl) (by first | rfl | omega)) (by rfl) (by rfl) (by simp) rfl (q 21) (q 19)) rfl cn))))))))
  obtain⟨x2,hx2,h⟩:=bindS h
  obtain⟨r3,hr3,h⟩:=bindS h
  apply sd (c (mv hN (q 0)) rfl (c (nilP (L rfl) (q 22)) rfl (c (fo 0 0 [0] hN underlying80 0 tyS23 (q 23)) rfl (c (la hN 80 tyS23 (q 24)) rfl (c (mv hN (q 0)) rfl (c (nilP (L rfl) (q 26)) rfl (c (fo 0 1 [1] hN underlying80 1 tyS3 (q 27)) rfl (c (la hN 80 tyS3 (q 28)) rfl (c (sub6 (L rfl) (q 29) (ii 1)) rfl (c (indexD underlying23 tyS3 (idx_some hx2).1 (get_map (eI .i64) (idx_some hx2).2) (L rfl) (q 25) (q 30)) rfl (c (loadD tyS3 (by rfl) (by rfl) (L rfl) (q 31)) rfl (c (mv hN (q 1)) rfl (cg (cf hB fnOk19 (xmake_Mod_ac x2 a1 r3 hr3) (L rfl) (OpdL.cons (q 32) (OpdL.cons (q 33) OpdL.nil))) rfl (c (assign (L rfl) (q 34)) rfl cn)))))))))))))) (by kernel_rfl) (by kernel_rfl)
  apply AWp.ret
  obtain rfl:=oi h
  exact rt (kp [(4,_)] [(0,some _)] hB rfl rfl (by rfl)) [(i6 r3)] (Res.tmp (by rfl) (by rfl) Res.nil) rfl
end
end Go.Proofs.YtgfoabcickjphaaGreatDoor
