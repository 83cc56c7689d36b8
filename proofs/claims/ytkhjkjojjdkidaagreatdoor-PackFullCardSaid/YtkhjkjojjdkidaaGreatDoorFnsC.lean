/- Printed by gen.py: the Go functions as plain functions, and that the code does what they say. -/
import Derived.Test.YtkhjkjojjdkidaaGreatDoorChecked
import Derived.Test.YtkhjkjojjdkidaaGreatDoorVcYB
import Derived.Test.YtkhjkjojjdkidaaGreatDoorVcZ
import Derived.Test.YtkhjkjojjdkidaaGreatDoorVcGC
import Derived.KernelRfl
import Derived.Test.YtkhjkjojjdkidaaGreatDoorVcMD
import Derived.Test.YtkhjkjojjdkidaaGreatDoorVcMQ
import Derived.Test.YtkhjkjojjdkidaaGreatDoorVcSG
import Derived.Test.YtkhjkjojjdkidaaGreatDoorFnsB
import Derived.Test.YtkhjkjojjdkidaaGreatDoorExt
import Derived.Test.YtkhjkjojjdkidaaGreatDoorVcPm
import Derived.Test.YtkhjkjojjdkidaaGreatDoorVcRg
import Derived.Test.YtkhjkjojjdkidaaGreatDoorVcSt
import Derived.Test.YtkhjkjojjdkidaaGreatDoorVcMR
namespace Go.Proofs.YtkhjkjojjdkidaaGreatDoor
open Go Go.Vc
open Tryz
open Go.Vc.OpJ (assign alloc lss pickT pickF extract lenD indexD loadD eqlI gtr callVal leq geq loadR nilP indexS buildSlice lenS fieldD neqI pickAnd pickOr)
set_option maxHeartbeats 4000000
set_option maxRecDepth 100000
noncomputable section
def pack_Unpack_L1 (a1:Int) (x72:aUpdate) (s73:Int×(List aChange)):Option ((((List aChange)))⊕(Int×(List aChange))) :=
 (if (decide (s73.1<(x72.fWithdraw.length:Int)))=true then
 (idx x72.fWithdraw s73.1).bind fun x82 =>
 chk (decide ((s73.2++([(aChange.mk a1 x82 false (aRoute.mk (aPrefix.mk (aAddr.mk false 0 0) 0) 0 (aAttrs.mk 0 ([]:List aSegment) (aAddr.mk false 0 0) 0 0 0 ([]:List aCommunity) ([]:List aLarge) ([]:List aUnknown))))]:List aChange)).length≤LIM)) <|
 some (.inr ((w64 (s73.1+1)),(s73.2++([(aChange.mk a1 x82 false (aRoute.mk (aPrefix.mk (aAddr.mk false 0 0) 0) 0 (aAttrs.mk 0 ([]:List aSegment) (aAddr.mk false 0 0) 0 0 0 ([]:List aCommunity) ([]:List aLarge) ([]:List aUnknown))))]:List aChange))))
 else
 some (.inl s73.2))
def pack_Unpack_L2 (a1:Int) (x72:aUpdate) (r86:Int×Bool) (s87:Int×(List aChange)):Option ((((List aChange)))⊕(Int×(List aChange))) :=
 (if (decide (s87.1<(x72.fAnnounce.length:Int)))=true then
 (idx x72.fAnnounce s87.1).bind fun x98 =>
 (clone_Attrs x72.fAttrs).bind fun r99 =>
 chk (decide ((s87.2++[(aChange.mk a1 x98 true (aRoute.mk x98 r86.1 r99))]).length≤LIM)) <|
 some (.inr ((w64 (s87.1+1)),(s87.2++[(aChange.mk a1 x98 true (aRoute.mk x98 r86.1 r99))])))
 else
 some (.inl s87.2))
def pack_Unpack_L0 (a0:(List aUpdate)) (a1:Int) (s1:Int×(List aChange)):Option ((((List aChange)))⊕(Int×(List aChange))) :=
 (if (decide (s1.1<(a0.length:Int)))=true then
 (idx a0 s1.1).bind fun x72 =>
 (loop (pack_Unpack_L1 a1 x72) (0,s1.2)).bind fun p80 =>
 (aspath_First x72.fAttrs.fPath).bind fun r86 =>
 (loop (pack_Unpack_L2 a1 x72 r86) (0,p80)).bind fun p96 =>
 some (.inr ((w64 (s1.1+1)),p96))
 else
 some (.inl s1.2))
def pack_Unpack (a0:(List aUpdate)) (a1:Int):Option ((List aChange)) :=
 (loop (pack_Unpack_L0 a0 a1) (0,([]:List aChange))).bind fun p70 =>
 some p70
theorem pack_Unpack_ac (a0:(List aUpdate)) (a1:Int) (r:(List aChange)) (h:pack_Unpack a0 a1=some r):AC Tryz.prog 16 [(.d (.list 13 (a0.map e_aUpdate))),(.d (.int .i64 a1))] [] (.d (.list 22 (r.map e_aChange))) []:=by
 refine ac2 Tryz.func16 rfl rfl fun B hB hN L => ?_
 delta pack_Unpack at h
 refine sr (SQ tt) ?_
 refine sr (SQ tt) ?_
 apply AWp.seq
 refine sr (SQ tt) ?_
 apply AWp.block
 obtain⟨p70,hx104,h⟩:=bindS h
 refine lg (pack_Unpack_L0 a0 a1) (fun s1:Int×(List aChange)=>([(1,(i6 a1)),(5,(.sref 3005 22 0 s1.2.length)),(14,(qe_aUpdate_13 a0)),(15,(i6 (a0.length:Int))),(16,(i6 s1.1))]:EL)) (fun s1:Int×(List aChange)=>([(3005,some (we_aChange_39_22 s1.2))]:OL)) (fun(p70:((List aChange))) e E' O'=>e = .exit 0∧Mat B E' O' ([(5,(.sref 3005 22 0 p70.length))]:EL) ([(3005,some (we_aChange_39_22 p70))]:OL)) hx104 (Mat.trans (Mat.beginP (n:=3005) (e:=39) (sz:=22) (Ts:=[(5,(.sref 3005 22 0 0))]) (Bs:=[]) hB (by decide) (by rfl) (by decide) (TwT.cons (x:=.nils) (by rfl) (Tw.leaf ⟨rfl,rfl⟩) TwT.nil) TwB.nil) (mp [] _ _ hB)) (fun s1 y h => ?_) (fun e E' O' hR => ?_)
 ·unfold pack_Unpack_L0 at h
  refine sr (SQ tt) ?_
  apply AWp.seq
  apply AWp.cond rfl<;>intro hg71
  ·have h:=ite_t hg71 h
   apply AWp.skip
   apply seqQ_n
   apply AWp.seq
   apply AWp.block
   obtain⟨x72,hx72,h⟩:=bindS h
   refine sr (SQ (fa hx72 tt)) ?_
   apply AWp.seq
   refine sr (SQ tt) ?_
   apply AWp.block
   obtain⟨p80,hx85,h⟩:=bindS h
   refine lg (pack_Unpack_L1 a1 x72) (fun s73:Int×(List aChange)=>([(1,(i6 a1)),(5,(.sref 3005 22 0 s73.2.length)),(7,(pt 1007)),(14,(qe_aUpdate_13 a0)),(15,(i6 (a0.length:Int))),(16,(i6 s1.1)),(21,(qe_aPrefix_4 x72.fWithdraw)),(22,(i6 (x72.fWithdraw.length:Int))),(23,(i6 s73.1))]:EL)) (fun s73:Int×(List aChange)=>([(1007,bd 61 (e_aUpdate x72)),(3005,some (we_aChange_39_22 s73.2))]:OL)) (fun(p80:((List aChange))) e E' O'=>e = .exit 2∧Mat B E' O' ([(1,(i6 a1)),(5,(.sref 3005 22 0 p80.length)),(7,(pt 1007)),(14,(qe_aUpdate_13 a0)),(15,(i6 (a0.length:Int))),(16,(i6 s1.1))]:EL) ([(1007,bd 61 (e_aUpdate x72)),(3005,some (we_aChange_39_22 p80))]:OL)) hx85 (mp [] _ _ hB) (fun s73 y h => ?_) (fun e E' O' hR => ?_)
   ·unfold pack_Unpack_L1 at h
    refine sr (SQ tt) ?_
    apply AWp.seq
    apply AWp.cond rfl<;>intro hg81
    ·have h:=ite_t hg81 h
     apply AWp.skip
     apply seqQ_n
     apply AWp.seq
     apply AWp.block
     obtain⟨_,hx82,h⟩:=bindS h
     refine sr (SQ (fa hx82 tt)) ?_
     obtain⟨hc83,h⟩:=chk_some h
     refine rg (SQ (fa hc83 tt)) ?_
     apply blkQ_n
     apply seqQ_n
     refine rg (SQ tt) ?_
     obtain rfl:=oi h
     exact⟨rfl,(mp [(3005,1032)] _ _ hB)⟩
    ·have h:=ite_f hg81 h
     apply AWp.exit
     apply seqQ_e
     obtain rfl:=oi h
     exact⟨(fun hc=>by cases hc),rfl,(mp [] _ _ hB)⟩
   ·obtain⟨rfl,hmat⟩:=hR
    apply blkQ_hit
    apply seqQ_n
    refine AWp.ghost hmat ?_
    obtain⟨r86,hr86,h⟩:=bindS h
    refine sr (SQ (fa (cl [] (aspath_First_ac x72.fAttrs.fPath r86 hr86)) tt)) ?_
    refine sr (SQ tt) ?_
    apply AWp.block
    obtain⟨p96,hx102,h⟩:=bindS h
    refine lg (pack_Unpack_L2 a1 x72 r86) (fun s87:Int×(List aChange)=>([(1,(i6 a1)),(5,(.sref 3005 22 0 s87.2.length)),(7,(pt 1007)),(10,(i6 r86.1)),(14,(qe_aUpdate_13 a0)),(15,(i6 (a0.length:Int))),(16,(i6 s1.1)),(42,(qe_aPrefix_4 x72.fAnnounce)),(43,(i6 (x72.fAnnounce.length:Int))),(44,(i6 s87.1))]:EL)) (fun s87:Int×(List aChange)=>([(1007,bd 61 (e_aUpdate x72)),(3005,some (we_aChange_39_22 s87.2))]:OL)) (fun(p96:((List aChange))) e E' O'=>e = .exit 4∧Mat B E' O' ([(1,(i6 a1)),(5,(.sref 3005 22 0 p96.length)),(14,(qe_aUpdate_13 a0)),(15,(i6 (a0.length:Int))),(16,(i6 s1.1))]:EL) ([(3005,some (we_aChange_39_22 p96))]:OL)) hx102 (mp [] _ _ hB) (fun s87 y h => ?_) (fun e E' O' hR => ?_)
    ·unfold pack_Unpack_L2 at h
     refine sr (SQ tt) ?_
     apply AWp.seq
     apply AWp.cond rfl<;>intro hg97
     ·have h:=ite_t hg97 h
      apply AWp.skip
      apply seqQ_n
      apply AWp.seq
      apply AWp.block
      obtain⟨_,hx98,h⟩:=bindS h
      refine sr (SQ (fa hx98 tt)) ?_
      obtain⟨r99,hr99,h⟩:=bindS h
      obtain⟨hc100,h⟩:=chk_some h
      refine drS (SQ (fa (cl [] (clone_Attrs_ac x72.fAttrs r99 hr99)) (fa hc100 tt))) ?_
      apply blkQ_n
      apply seqQ_n
      refine rg (SQ tt) ?_
      obtain rfl:=oi h
      exact⟨rfl,(mp [(3005,1059)] _ _ hB)⟩
     ·have h:=ite_f hg97 h
      apply AWp.exit
      apply seqQ_e
      obtain rfl:=oi h
      exact⟨(fun hc=>by cases hc),rfl,(mp [] _ _ hB)⟩
    ·obtain⟨rfl,hmat⟩:=hR
     apply blkQ_hit
     apply blkQ_n
     apply seqQ_n
     refine AWp.ghost hmat ?_
     refine rg (SQ tt) ?_
     obtain rfl:=oi h
     exact⟨rfl,(mp [] _ _ hB)⟩
  ·have h:=ite_f hg71 h
   apply AWp.exit
   apply seqQ_e
   obtain rfl:=oi h
   exact⟨(fun hc=>by cases hc),rfl,(mp [] _ _ hB)⟩
 ·obtain⟨rfl,hmat⟩:=hR
  apply blkQ_hit
  apply seqQ_n
  refine AWp.ghost hmat ?_
  refine sr (SQ tt) ?_
  apply AWp.ret
  obtain rfl:=oi h
  exact rt (Mat.trans (Mat.freezeP (n:=3005) (e:=39) (sz:=22) (es:=p70.map e_aChange) (Ts:=[(4,(qe_aChange_22 p70))]) (Bs:=[]) (by rfl) (TwT.cons (x:=(.sref 3005 22 0 p70.length)) (by rfl) (FrzL.all (by first | rfl | (simp;done) | (simp;omega) | omega)) TwT.nil) TwB.nil) (mp [] [(4,(qe_aChange_22 p70))] [] hB)) [(qe_aChange_22 p70)] (Res.tmp (by rfl) (by rfl) Res.nil) rfl
def xlaw30_awake:Option (Bool) :=
 (pack_Pack ([(aChange.mk 0 (aPrefix.mk (aAddr.mk false 0 167772160) 8) false (aRoute.mk (aPrefix.mk (aAddr.mk false 0 0) 0) 0 (aAttrs.mk 0 ([]:List aSegment) (aAddr.mk false 0 0) 0 0 0 ([]:List aCommunity) ([]:List aLarge) ([]:List aUnknown)))),(aChange.mk 0 (aPrefix.mk (aAddr.mk false 0 184549376) 8) false (aRoute.mk (aPrefix.mk (aAddr.mk false 0 0) 0) 0 (aAttrs.mk 0 ([]:List aSegment) (aAddr.mk false 0 0) 0 0 0 ([]:List aCommunity) ([]:List aLarge) ([]:List aUnknown))))]:List aChange)).bind fun r1 =>
 (pack_Unpack r1.1 7).bind fun r2 =>
 jn (fun m9:Bool =>
 some m9) (fun j10 =>
 (if (((r1.2==0)&&((r1.1.length:Int)==1))&&((r2.length:Int)==2))=true then
 (idx r2 1).bind fun x12 =>
 (if (x12.fTo==7)=true then
 (idx r2 1).bind fun x14 =>
 (if (((x14.fPrefix.fAddr.fV6==false)&&((x14.fPrefix.fAddr.fHi==0)&&((x14.fPrefix.fAddr.fLo==184549376)&&true)))&&((x14.fPrefix.fLen==8)&&true))=true then
 (idx r2 1).bind fun x16 =>
 j10 (!x16.fHas)
 else
 j10 false)
 else
 j10 false)
 else
 j10 false))
theorem xlaw30_awake_ac (r:Bool) (h:xlaw30_awake=some r):AC Tryz.prog 7 [] [(500,(.know (globD 0 (.imap gv0))))] (.d (.bool r)) [(500,some (.know (globD 0 (.imap gv0))))]:=by
 refine ac2 Tryz.func7 rfl rfl fun B hB hN L => ?_
 delta xlaw30_awake at h
 refine sr (SQ tt) ?_
 refine sr (SQ tt) ?_
 apply AWp.seq
 obtain⟨r1,hr1,h⟩:=bindS h
 refine rg (SQ (fa (cl [(500,500)] (pack_Pack_ac ([(aChange.mk 0 (aPrefix.mk (aAddr.mk false 0 167772160) 8) false (aRoute.mk (aPrefix.mk (aAddr.mk false 0 0) 0) 0 (aAttrs.mk 0 ([]:List aSegment) (aAddr.mk false 0 0) 0 0 0 ([]:List aCommunity) ([]:List aLarge) ([]:List aUnknown)))),(aChange.mk 0 (aPrefix.mk (aAddr.mk false 0 184549376) 8) false (aRoute.mk (aPrefix.mk (aAddr.mk false 0 0) 0) 0 (aAttrs.mk 0 ([]:List aSegment) (aAddr.mk false 0 0) 0 0 0 ([]:List aCommunity) ([]:List aLarge) ([]:List aUnknown))))]:List aChange) r1 hr1)) tt)) ?_
 apply seqQ_n
 refine AWp.ghost (mp [] [(2,(pt 1002)),(3,(qe_aUpdate_13 r1.1)),(4,(i6 r1.2))] [(500,some (.know (globD 0 (.imap gv0)))),(1002,bd 29 (.st [(.st [(.bool false),(.int .u64 0),(.int .u64 184549376)]),(.int .i64 8)]))] hB) ?_
 obtain⟨r2,hr2,h⟩:=bindS h
 refine sr (SQ (fa (cl [] (pack_Unpack_ac r1.1 7 r2 hr2)) tt)) ?_
 apply AWp.seq
 refine AWp.cut h (fun m9:Bool=>([(0,(bo m9))]:EL)) (fun m9:Bool=>([(500,some (.know (globD 0 (.imap gv0))))]:OL)) (fun m9 h E' O' hmat => ?_) (fun j10 hjj10 h => ?_)
 ·apply seqQ_n
  refine AWp.ghost hmat ?_
  apply AWp.ret
  obtain rfl:=oi h
  exact rt (kp [(0,_)] [(500,some _)] hB rfl rfl (by rfl)) [(bo m9)] (Res.tmp (by rfl) (by rfl) Res.nil) rfl
 ·rcases bft (((r1.2==0)&&((r1.1.length:Int)==1))&&((r2.length:Int)==2)) with hg11 | hg11
  ·have h:=ite_t hg11 h
   obtain⟨x12,hx12,h⟩:=bindS h
   rcases bft (x12.fTo==7) with hg13 | hg13
   ·have h:=ite_t hg13 h
    obtain⟨x14,hx14,h⟩:=bindS h
    rcases bft (((x14.fPrefix.fAddr.fV6==false)&&((x14.fPrefix.fAddr.fHi==0)&&((x14.fPrefix.fAddr.fLo==184549376)&&true)))&&((x14.fPrefix.fLen==8)&&true)) with hg15 | hg15
    ·have h:=ite_t hg15 h
     obtain⟨_,hx16,h⟩:=bindS h
     apply dr (c (mv hN (q 4)) rfl (c (eqlI (L rfl) (q 21) (ii 0)) rfl (c (mv hN (q 22)) rfl (c (oq hN 23 (mv hN (q 3)) (OptL.keep (by rfl) OptL.nil) (GuardV.plain _)) rfl (c (oq hN 23 (OpJ.val (v':=(i6 (r1.1.length:Int))) (by simp) (lenD underlying47 (L rfl) (q 24))) (OptL.opt OptL.nil) (GuardV.plain _)) rfl (c (oq hN 23 (eqlI (L rfl) (q 25) (ii 1)) (OptL.opt OptL.nil) (GuardV.plain _)) rfl (c (pickAnd rfl (L rfl) (q 23) (q 26)) rfl (c (mv hN (q 27)) rfl (c (oq hN 28 (mv hN (q 5)) (OptL.keep (by rfl) OptL.nil) (GuardV.plain _)) rfl (c (oq hN 28 (OpJ.val (v':=(i6 (r2.length:Int))) (by simp) (lenD underlying22 (L rfl) (q 29))) (OptL.opt OptL.nil) (GuardV.plain _)) rfl (c (oq hN 28 (eqlI (L rfl) (q 30) (ii 2)) (OptL.opt OptL.nil) (GuardV.plain _)) rfl (c (pickAnd rfl (L rfl) (q 28) (q 31)) rfl (c (OpJ.val (v':=.d (.bool true)) (by rw [hg11]<;>rfl) (mv hN (q 32))) rfl (c (gd 33 (mv hN (q 5))) rfl (c (gd 33 (indexD underlying22 tyS39 (idx_some hx12).1 (get_map e_aChange (idx_some hx12).2) (L rfl) (q 34) (ii 1))) rfl (c (gd 33 (fieldD underlying39 (by rfl) (o:=0) (by rfl) tyS3 (by decide) (by rfl) (by rfl) (L rfl) (q 35))) rfl (c (gd 33 (loadD tyS3 (by rfl) (by rfl) (L rfl) (q 36))) rfl (c (gd 33 (eqlI (L rfl) (q 37) (ii 7))) rfl (c (pickT (L rfl) (q 33) (q 38)) rfl (c (OpJ.val (v':=.d (.bool true)) (by rw [hg13]<;>rfl) (mv hN (q 39))) rfl (c (gd 40 (mv hN (q 5))) rfl (c (gd 40 (indexD underlying22 tyS39 (idx_some hx14).1 (get_map e_aChange (idx_some hx14).2) (L rfl) (q 41) (ii 1))) rfl (c (gd 40 (fieldD underlying39 (by rfl) (o:=1) (by rfl) tyS29 (by decide) (by rfl) (by rfl) (L rfl) (q 42))) rfl (c (gd 40 (loadD tyS29 (by rfl) (by rfl) (L rfl) (q 43))) rfl (c (gd 40 (lb hN 29 _ _ tyS29 (At.here _) (q 2))) rfl (c (gd 40 (OpJ.eqlD (h:=3) (FitE.st underlying29 rfl held29 (FitF.cons (x:=(e_aAddr x14.fPrefix.fAddr)) (y:=(.st [(.bool false),(.int .u64 0),(.int .u64 184549376)])) (by decide) rfl tyS27 ⟨rfl,rfl⟩ ⟨rfl,rfl⟩ (FitE.st underlying27 rfl held27 (FitF.cons (x:=(.bool x14.fPrefix.fAddr.fV6)) (y:=(.bool false)) (by decide) rfl tyS4 ⟨rfl,rfl⟩ ⟨rfl,rfl⟩ (FitE.bool (h:=0) x14.fPrefix.fAddr.fV6 false underlying4) (FitF.cons (x:=(.int .u64 x14.fPrefix.fAddr.fHi)) (y:=(.int .u64 0)) (by decide) rfl tyS25 ⟨rfl,rfl⟩ ⟨rfl,rfl⟩ (FitE.int (h:=0) x14.fPrefix.fAddr.fHi 0 underlying25) (FitF.cons (x:=(.int .u64 x14.fPrefix.fAddr.fLo)) (y:=(.int .u64 184549376)) (by decide) rfl tyS25 ⟨rfl,rfl⟩ ⟨rfl,rfl⟩ (FitE.int (h:=0) x14.fPrefix.fAddr.fLo 184549376 underlying25) FitF.nil)))) (FitF.cons (x:=(.int .i64 x14.fPrefix.fLen)) (y:=(.int .i64 8)) (by decide) rfl tyS3 ⟨rfl,rfl⟩ ⟨rfl,rfl⟩ (FitE.int (h:=1) x14.fPrefix.fLen 8 underlying3) FitF.nil))) eqg29 ⟨rfl,rfl⟩ (by rfl) (L rfl) (q 44) (q 45))) rfl (c (pickT (L rfl) (q 40) (q 46)) rfl (c (OpJ.val (v':=.d (.bool true)) (by rw [hg15]<;>rfl) (mv hN (q 47))) rfl (c (gd 48 (mv hN (q 5))) rfl (c (gd 48 (indexD underlying22 tyS39 (idx_some hx16).1 (get_map e_aChange (idx_some hx16).2) (L rfl) (q 49) (ii 1))) rfl (c (gd 48 (fieldD underlying39 (by rfl) (o:=5) (by rfl) tyS4 (by decide) (by rfl) (by rfl) (L rfl) (q 50))) rfl (c (gd 48 (loadD tyS4 (by rfl) (by rfl) (L rfl) (q 51))) rfl (c (gd 48 (OpJ.not (L rfl) (q 52))) rfl (c (pickT (L rfl) (q 48) (q 53)) rfl (c (assign (L rfl) (q 54)) rfl cn))))))))))))))))))))))))))))))))))) (by kernel_rfl) (by kernel_rfl)
     exact hjj10 _ h _ _ (mp [] _ _ hB)
    ·have h:=ite_f hg15 h
     apply dr (c (mv hN (q 4)) rfl (c (eqlI (L rfl) (q 21) (ii 0)) rfl (c (mv hN (q 22)) rfl (c (oq hN 23 (mv hN (q 3)) (OptL.keep (by rfl) OptL.nil) (GuardV.plain _)) rfl (c (oq hN 23 (OpJ.val (v':=(i6 (r1.1.length:Int))) (by simp) (lenD underlying47 (L rfl) (q 24))) (OptL.opt OptL.nil) (GuardV.plain _)) rfl (c (oq hN 23 (eqlI (L rfl) (q 25) (ii 1)) (OptL.opt OptL.nil) (GuardV.plain _)) rfl (c (pickAnd rfl (L rfl) (q 23) (q 26)) rfl (c (mv hN (q 27)) rfl (c (oq hN 28 (mv hN (q 5)) (OptL.keep (by rfl) OptL.nil) (GuardV.plain _)) rfl (c (oq hN 28 (OpJ.val (v':=(i6 (r2.length:Int))) (by simp) (lenD underlying22 (L rfl) (q 29))) (OptL.opt OptL.nil) (GuardV.plain _)) rfl (c (oq hN 28 (eqlI (L rfl) (q 30) (ii 2)) (OptL.opt OptL.nil) (GuardV.plain _)) rfl (c (pickAnd rfl (L rfl) (q 28) (q 31)) rfl (c (OpJ.val (v':=.d (.bool true)) (by rw [hg11]<;>rfl) (mv hN (q 32))) rfl (c (gd 33 (mv hN (q 5))) rfl (c (gd 33 (indexD underlying22 tyS39 (idx_some hx12).1 (get_map e_aChange (idx_some hx12).2) (L rfl) (q 34) (ii 1))) rfl (c (gd 33 (fieldD underlying39 (by rfl) (o:=0) (by rfl) tyS3 (by decide) (by rfl) (by rfl) (L rfl) (q 35))) rfl (c (gd 33 (loadD tyS3 (by rfl) (by rfl) (L rfl) (q 36))) rfl (c (gd 33 (eqlI (L rfl) (q 37) (ii 7))) rfl (c (pickT (L rfl) (q 33) (q 38)) rfl (c (OpJ.val (v':=.d (.bool true)) (by rw [hg13]<;>rfl) (mv hN (q 39))) rfl (c (gd 40 (mv hN (q 5))) rfl (c (gd 40 (indexD underlying22 tyS39 (idx_some hx14).1 (get_map e_aChange (idx_some hx14).2) (L rfl) (q 41) (ii 1))) rfl (c (gd 40 (fieldD underlying39 (by rfl) (o:=1) (by rfl) tyS29 (by decide) (by rfl) (by rfl) (L rfl) (q 42))) rfl (c (gd 40 (loadD tyS29 (by rfl) (by rfl) (L rfl) (q 43))) rfl (c (gd 40 (lb hN 29 _ _ tyS29 (At.here _) (q 2))) rfl (c (gd 40 (OpJ.eqlD (h:=3) (FitE.st underlying29 rfl held29 (FitF.cons (x:=(e_aAddr x14.fPrefix.fAddr)) (y:=(.st [(.bool false),(.int .u64 0),(.int .u64 184549376)])) (by decide) rfl tyS27 ⟨rfl,rfl⟩ ⟨rfl,rfl⟩ (FitE.st underlying27 rfl held27 (FitF.cons (x:=(.bool x14.fPrefix.fAddr.fV6)) (y:=(.bool false)) (by decide) rfl tyS4 ⟨rfl,rfl⟩ ⟨rfl,rfl⟩ (FitE.bool (h:=0) x14.fPrefix.fAddr.fV6 false underlying4) (FitF.cons (x:=(.int .u64 x14.fPrefix.fAddr.fHi)) (y:=(.int .u64 0)) (by decide) rfl tyS25 ⟨rfl,rfl⟩ ⟨rfl,rfl⟩ (FitE.int (h:=0) x14.fPrefix.fAddr.fHi 0 underlying25) (FitF.cons (x:=(.int .u64 x14.fPrefix.fAddr.fLo)) (y:=(.int .u64 184549376)) (by decide) rfl tyS25 ⟨rfl,rfl⟩ ⟨rfl,rfl⟩ (FitE.int (h:=0) x14.fPrefix.fAddr.fLo 184549376 underlying25) FitF.nil)))) (FitF.cons (x:=(.int .i64 x14.fPrefix.fLen)) (y:=(.int .i64 8)) (by decide) rfl tyS3 ⟨rfl,rfl⟩ ⟨rfl,rfl⟩ (FitE.int (h:=1) x14.fPrefix.fLen 8 underlying3) FitF.nil))) eqg29 ⟨rfl,rfl⟩ (by rfl) (L rfl) (q 44) (q 45))) rfl (c (pickT (L rfl) (q 40) (q 46)) rfl (c (OpJ.val (v':=.d (.bool false)) (by rw [hg15]<;>rfl) (mv hN (q 47))) rfl (ks 48 (L rfl) (ks 48 (L rfl) (ks 48 (L rfl) (ks 48 (L rfl) (ks 48 (L rfl) (c (pickF (L rfl) (q 48) (Opd.bool false)) rfl (c (assign (L rfl) (q 54)) rfl cn))))))))))))))))))))))))))))))))))) (by kernel_rfl) (by kernel_rfl)
     exact hjj10 _ h _ _ (mp [] _ _ hB)
   ·have h:=ite_f hg13 h
    refine drS (SQ (fa hg11 (fa hx12 (fa hg13 tt)))) ?_
    exact hjj10 _ h _ _ (mp [] _ _ hB)
  ·have h:=ite_f hg11 h
   refine drS (SQ (fa hg11 tt)) ?_
   exact hjj10 _ h _ _ (mp [] _ _ hB)
def exchangepointmill_New (a0:(List Int)):Option (exchangepointmill_Deck) :=
 some (exchangepointmill_Deck.mk a0 0)
theorem exchangepointmill_New_ac (a0:(List Int)) (r:exchangepointmill_Deck) (h:exchangepointmill_New a0=some r):AC Tryz.prog 9 [(.d (.list 1 (a0.map (eI .i64))))] [] (pt 1005) [(1005,bd 71 (e_exchangepointmill_Deck r))]:=by
 refine AC.of_code2 Tryz.func9 rfl rfl (Nat.le_of_ble_eq_true (by rfl)) fun B hB hN => ?_
 delta exchangepointmill_New at h
 refine sr (SQ tt) ?_
 refine sr (SQ tt) ?_
 apply AWp.ret
 obtain rfl:=oi h
 exact rt (kp [(2,_)] [(1005,some _)] hB rfl rfl (by rfl)) [(pt 1005)] (Res.tmp (by rfl) (by rfl) Res.nil) rfl
def exchangepointmill_Mod (a0:Int) (a1:Int):Option (Int) :=
 chk (decide (a1≠0)) <|
 jn (fun m3:Int =>
 some m3) (fun j4 =>
 (if (decide ((Int.tmod a0 a1)<0))=true then
 j4 (w64 ((Int.tmod a0 a1)+a1))
 else
 j4 (Int.tmod a0 a1)))
theorem exchangepointmill_Mod_ac (a0:Int) (a1:Int) (r:Int) (h:exchangepointmill_Mod a0 a1=some r):AC Tryz.prog 11 [(.d (.int .i64 a0)),(.d (.int .i64 a1))] [] (.d (.int .i64 r)) []:=by
 refine AC.of_code2 Tryz.func11 rfl rfl (Nat.le_of_ble_eq_true (by rfl)) fun B hB hN => ?_
 delta exchangepointmill_Mod at h
 refine sr (SQ tt) ?_
 obtain⟨hc1,h⟩:=chk_some h
 refine sr (SQ (fa hc1 tt)) ?_
 apply AWp.seq
 refine sr (SQ tt) ?_
 refine gh [(1,_),(5,_),(10,_)] [] hB rfl rfl (by rfl) ?_
 refine AWp.cut h (fun m3:Int=>([(5,(i6 m3))]:EL)) (fun m3:Int=>([]:OL)) (fun m3 h E' O' hmat => ?_) (fun j4 hjj4 h => ?_)
 ·apply seqQ_n
  refine AWp.ghost hmat ?_
  refine sr (SQ tt) ?_
  apply AWp.ret
  obtain rfl:=oi h
  exact rt (kp [(4,_)] [] hB rfl rfl (by rfl)) [(i6 m3)] (Res.tmp (by rfl) (by rfl) Res.nil) rfl
 ·apply AWp.cond rfl<;>intro hg5
  ·have h:=ite_t hg5 h
   refine rg (SQ tt) ?_
   exact hjj4 _ h _ _ (mp [] _ _ hB)
  ·have h:=ite_f hg5 h
   apply AWp.skip
   exact hjj4 _ h _ _ (mp [] _ _ hB)
def exchangepointmill_Deck_Next (a0:exchangepointmill_Deck) (a1:Int):Option (Int×exchangepointmill_Deck) :=
 (if (decide ((a0.fL.length:Int)≤a0.fAt))=true then
 some (0,a0)
 else
 (idx a0.fL (w64 ((w64 (a0.fAt+1))-1))).bind fun x2 =>
 (exchangepointmill_Mod x2 a1).bind fun r3 =>
 some (r3,(exchangepointmill_Deck.mk a0.fL (w64 (a0.fAt+1)))))
theorem exchangepointmill_Deck_Next_ac (a0:exchangepointmill_Deck) (a1:Int) (r:Int×exchangepointmill_Deck) (h:exchangepointmill_Deck_Next a0 a1=some r):AC Tryz.prog 24 [(pt 0),(.d (.int .i64 a1))] [(0,(.box 71 (.d (e_exchangepointmill_Deck a0))))] (.d (.int .i64 r.1)) [(0,bd 71 (e_exchangepointmill_Deck r.2))]:=by
 refine ac2 Tryz.func24 rfl rfl fun B hB hN L => ?_
 delta exchangepointmill_Deck_Next at h
 refine sr (SQ tt) ?_
 apply AWp.seq
 refine sdS (SQ tt) ?_
 apply AWp.cond rfl<;>intro hg1
 ·have h:=ite_t hg1 h
  refine sr (SQ tt) ?_
  apply AWp.ret
  apply seqQ_r
  obtain rfl:=oi h
  exact rt (kp [(4,_)] [(0,some _)] hB rfl rfl (by rfl)) [(i6 0)] (Res.tmp (by rfl) (by rfl) Res.nil) rfl
 ·have h:=ite_f hg1 h
  apply AWp.skip
  apply seqQ_n
  refine sr (SQ tt) ?_
  obtain⟨x2,hx2,h⟩:=bindS h
  obtain⟨r3,hr3,h⟩:=bindS h
  refine sdS (SQ (fa hx2 (fa (cl [] (exchangepointmill_Mod_ac x2 a1 r3 hr3)) tt))) ?_
  apply AWp.ret
  obtain rfl:=oi h
  exact rt (kp [(4,_)] [(0,some _)] hB rfl rfl (by rfl)) [(i6 r3)] (Res.tmp (by rfl) (by rfl) Res.nil) rfl
def xref18_Empty:Option (aAttrs) :=
 some (aAttrs.mk (-1) ([]:List aSegment) (aAddr.mk false 0 0) (-1) (-1) (-1) ([]:List aCommunity) ([]:List aLarge) ([]:List aUnknown))
theorem xref18_Empty_ac (r:aAttrs) (h:xref18_Empty=some r):AC Tryz.prog 25 [] [] (.d (e_aAttrs r)) []:=by
 refine AC.of_code2 Tryz.func25 rfl rfl (Nat.le_of_ble_eq_true (by rfl)) fun B hB hN => ?_
 delta xref18_Empty at h
 refine sr (SQ tt) ?_
 refine sr (SQ tt) ?_
 apply AWp.ret
 obtain rfl:=oi h
 exact rt (Mat.trans (Mat.coeP (Ts:=[]) (Bs:=[(1000,bd 35 (.st [(.int .i64 (-1)),(.list 2 (([]:List aSegment).map e_aSegment)),(.st [(.bool false),(.int .u64 0),(.int .u64 0)]),(.int .i64 (-1)),(.int .i64 (-1)),(.int .i64 (-1)),(.list 2 (([]:List aCommunity).map e_aCommunity)),(.list 3 (([]:List aLarge).map e_aLarge)),(.list 3 (([]:List aUnknown).map e_aUnknown))]))]) TwT.nil (TwB.cons (x:=(.st [(i6 (-1)),.nils,(.d (.st [(.bool false),(.int .u64 0),(.int .u64 0)])),(i6 (-1)),(i6 (-1)),(i6 (-1)),.nils,.nils,.nils])) (by rfl) (Tw.leaf ⟨_,(Co.st (CoL.cons (Co.d _) (CoL.cons (Co.nils 2) (CoL.cons (Co.d _) (CoL.cons (Co.d _) (CoL.cons (Co.d _) (CoL.cons (Co.d _) (CoL.cons (Co.nils 2) (CoL.cons (Co.nils 3) (CoL.cons (Co.nils 3) CoL.nil)))))))))),rfl⟩) TwB.nil)) (mp [] [(0,(pt 1000))] [(1000,bd 35 (.st [(.int .i64 (-1)),(.list 2 (([]:List aSegment).map e_aSegment)),(.st [(.bool false),(.int .u64 0),(.int .u64 0)]),(.int .i64 (-1)),(.int .i64 (-1)),(.int .i64 (-1)),(.list 2 (([]:List aCommunity).map e_aCommunity)),(.list 3 (([]:List aLarge).map e_aLarge)),(.list 3 (([]:List aUnknown).map e_aUnknown))]))] hB)) [(.d (.st [(.int .i64 (-1)),(.list 2 (([]:List aSegment).map e_aSegment)),(.st [(.bool false),(.int .u64 0),(.int .u64 0)]),(.int .i64 (-1)),(.int .i64 (-1)),(.int .i64 (-1)),(.list 2 (([]:List aCommunity).map e_aCommunity)),(.list 3 (([]:List aLarge).map e_aLarge)),(.list 3 (([]:List aUnknown).map e_aUnknown))]))] (Res.cell (c:=(.d (.st [(.int .i64 (-1)),(.list 2 (([]:List aSegment).map e_aSegment)),(.st [(.bool false),(.int .u64 0),(.int .u64 0)]),(.int .i64 (-1)),(.int .i64 (-1)),(.int .i64 (-1)),(.list 2 (([]:List aCommunity).map e_aCommunity)),(.list 3 (([]:List aLarge).map e_aLarge)),(.list 3 (([]:List aUnknown).map e_aUnknown))]))) (by rfl) (by rfl) tyS35 (by rfl) (by rfl) (by rfl) Res.nil) rfl
def xref23_SameInts_L0 (a0:(List Int)) (a1:(List Int)) (s2:Int):Option (((Unit)⊕(Unit))⊕(Int)) :=
 (if (decide (s2<(a0.length:Int)))=true then
 (idx a0 s2).bind fun x14 =>
 (idx a1 s2).bind fun x15 =>
 (if (x14 != x15)=true then
 some (.inl (.inl ()))
 else
 some (.inr (w64 (s2+1))))
 else
 some (.inl (.inr ())))
def xref23_SameInts (a0:(List Int)) (a1:(List Int)):Option (Bool) :=
 (if ((a0.length:Int) != (a1.length:Int))=true then
 some false
 else
 (loop (xref23_SameInts_L0 a0 a1) 0).bind fun x17=>match x17 with
 | (.inl _) =>
  some false
 | (.inr _) =>
  some true)
theorem xref23_SameInts_ac (a0:(List Int)) (a1:(List Int)) (r:Bool) (h:xref23_SameInts a0 a1=some r):AC Tryz.prog 47 [(.d (.list 1 (a0.map (eI .i64)))),(.d (.list 1 (a1.map (eI .i64))))] [] (.d (.bool r)) []:=by
 refine ac2 Tryz.func47 rfl rfl fun B hB hN L => ?_
 delta xref23_SameInts at h
 refine sr (SQ tt) ?_
 apply AWp.seq
 refine sr (SQ tt) ?_
 apply AWp.cond rfl<;>intro hg1
 ·have h:=ite_t hg1 h
  refine sr (SQ tt) ?_
  apply AWp.ret
  apply seqQ_r
  obtain rfl:=oi h
  exact rt (kp [(4,_)] [] hB rfl rfl (by rfl)) [(bo false)] (Res.tmp (by rfl) (by rfl) Res.nil) rfl
 ·have h:=ite_f hg1 h
  apply AWp.skip
  apply seqQ_n
  apply AWp.seq
  refine sr (SQ tt) ?_
  apply AWp.block
  obtain⟨x17,hx18,h⟩:=bindS h
  refine lg (xref23_SameInts_L0 a0 a1) (fun s2:Int=>([(0,(qI_1 a0)),(1,(qI_1 a1)),(12,(i6 (a0.length:Int))),(13,(i6 s2))]:EL)) (fun s2:Int=>([]:OL)) (fun(x:(Unit)⊕(Unit)) e E' O'=>match x with | (.inl _p)=>e = .ret∧Mat B E' O' ([(4,(bo false))]:EL) ([]:OL) | (.inr _p)=>e = .exit 0∧Mat B E' O' ([]:EL) ([]:OL)) hx18 (mp [] _ _ hB) (fun s2 y h => ?_) (fun e E' O' hR => ?_)
  ·unfold xref23_SameInts_L0 at h
   refine sr (SQ tt) ?_
   apply AWp.seq
   apply AWp.cond rfl<;>intro hg13
   ·have h:=ite_t hg13 h
    apply AWp.skip
    apply seqQ_n
    apply AWp.seq
    apply AWp.block
    refine sr (SQ tt) ?_
    obtain⟨_,hx14,h⟩:=bindS h
    obtain⟨_,hx15,h⟩:=bindS h
    refine sdS (SQ (fa hx14 (fa hx15 tt))) ?_
    apply AWp.cond rfl<;>intro hg16
    ·have h:=ite_t hg16 h
     refine sr (SQ tt) ?_
     apply AWp.ret
     apply blkQ_r
     apply seqQ_r
     obtain rfl:=oi h
     exact⟨(fun hc=>by cases hc),rfl,(mp [] _ _ hB)⟩
    ·have h:=ite_f hg16 h
     apply AWp.skip
     apply blkQ_n
     apply seqQ_n
     refine rg (SQ tt) ?_
     obtain rfl:=oi h
     exact⟨rfl,(mp [] _ _ hB)⟩
   ·have h:=ite_f hg13 h
    apply AWp.exit
    apply seqQ_e
    obtain rfl:=oi h
    exact⟨(fun hc=>by cases hc),rfl,(mp [] _ _ hB)⟩
  ·rcases x17 with _ | _
   ·obtain⟨rfl,hmat⟩:=hR
    apply blkQ_r
    apply seqQ_r
    obtain rfl:=oi h
    exact rt (Mat.trans hmat (mp [] [(4,(bo false))] [] hB)) [(bo false)] (Res.tmp (by rfl) (by rfl) Res.nil) rfl
   ·obtain⟨rfl,hmat⟩:=hR
    apply blkQ_hit
    apply seqQ_n
    refine AWp.ghost hmat ?_
    refine sr (SQ tt) ?_
    apply AWp.ret
    obtain rfl:=oi h
    exact rt (kp [(4,_)] [] hB rfl rfl (by rfl)) [(bo true)] (Res.tmp (by rfl) (by rfl) Res.nil) rfl
def xref23_SameAttrs_L0 (a0:aAttrs) (a1:aAttrs) (s2:Int):Option (((Unit)⊕(Unit))⊕(Int)) :=
 (if (decide (s2<(a0.fPath.length:Int)))=true then
 jn (fun m50:Bool =>
 (if m50=true then
 some (.inl (.inl ()))
 else
 some (.inr (w64 (s2+1))))) (fun j51 =>
 (idx a0.fPath s2).bind fun x53 =>
 (idx a1.fPath s2).bind fun x54 =>
 (if (x53.fSet != x54.fSet)=true then
 j51 true
 else
 (idx a0.fPath s2).bind fun x56 =>
 (idx a1.fPath s2).bind fun x57 =>
 (xref23_SameInts x56.fASNs x57.fASNs).bind fun r58 =>
 j51 (!r58)))
 else
 some (.inl (.inr ())))
def xref23_SameAttrs_L1 (a0:aAttrs) (a1:aAttrs) (s61:Int):Option (((Unit)⊕(Unit))⊕(Int)) :=
 (if (decide (s61<(a0.fCommunities.length:Int)))=true then
 (idx a0.fCommunities s61).bind fun x73 =>
 (idx a1.fCommunities s61).bind fun x74 =>
 (if (!((x73.fA==x74.fA)&&((x73.fB==x74.fB)&&true)))=true then
 some (.inl (.inl ()))
 else
 some (.inr (w64 (s61+1))))
 else
 some (.inl (.inr ())))
def xref23_SameAttrs_L2 (a0:aAttrs) (a1:aAttrs) (s78:Int):Option (((Unit)⊕(Unit))⊕(Int)) :=
 (if (decide (s78<(a0.fLarge.length:Int)))=true then
 (idx a0.fLarge s78).bind fun x90 =>
 (idx a1.fLarge s78).bind fun x91 =>
 (if (!((x90.fA==x91.fA)&&((x90.fB==x91.fB)&&((x90.fC==x91.fC)&&true))))=true then
 some (.inl (.inl ()))
 else
 some (.inr (w64 (s78+1))))
 else
 some (.inl (.inr ())))
def xref23_SameAttrs_L3 (a0:aAttrs) (a1:aAttrs) (s95:Int):Option (((Unit)⊕(Unit))⊕(Int)) :=
 (if (decide (s95<(a0.fOther.length:Int)))=true then
 jn (fun m153:Bool =>
 (if m153=true then
 some (.inl (.inl ()))
 else
 some (.inr (w64 (s95+1))))) (fun j154 =>
 (idx a0.fOther s95).bind fun x156 =>
 (idx a1.fOther s95).bind fun x157 =>
 (if (x156.fFlags != x157.fFlags)=true then
 j154 true
 else
 (idx a0.fOther s95).bind fun x159 =>
 (idx a1.fOther s95).bind fun x160 =>
 (if (x159.fType != x160.fType)=true then
 j154 true
 else
 (idx a0.fOther s95).bind fun x162 =>
 (idx a1.fOther s95).bind fun x163 =>
 j154 ((bstr x162.fData) != (bstr x163.fData)))))
 else
 some (.inl (.inr ())))
def xref23_SameAttrs (a0:aAttrs) (a1:aAttrs):Option (Bool) :=
 (if (((((((((a0.fOrigin != a1.fOrigin) || (!((a0.fNext.fV6==a1.fNext.fV6)&&((a0.fNext.fHi==a1.fNext.fHi)&&((a0.fNext.fLo==a1.fNext.fLo)&&true))))) || (a0.fMED != a1.fMED)) || (a0.fPref != a1.fPref)) || (a0.fOTC != a1.fOTC)) || ((a0.fPath.length:Int) != (a1.fPath.length:Int))) || ((a0.fCommunities.length:Int) != (a1.fCommunities.length:Int))) || ((a0.fLarge.length:Int) != (a1.fLarge.length:Int))) || ((a0.fOther.length:Int) != (a1.fOther.length:Int)))=true then
 some false
 else
 (loop (xref23_SameAttrs_L0 a0 a1) 0).bind fun x59=>match x59 with
 | (.inl _) =>
  some false
 | (.inr _) =>
  (loop (xref23_SameAttrs_L1 a0 a1) 0).bind fun x76=>match x76 with
  | (.inl _) =>
   some false
  | (.inr _) =>
   (loop (xref23_SameAttrs_L2 a0 a1) 0).bind fun x93=>match x93 with
   | (.inl _) =>
    some false
   | (.inr _) =>
    (loop (xref23_SameAttrs_L3 a0 a1) 0).bind fun x164=>match x164 with
    | (.inl _) =>
     some false
    | (.inr _) =>
     some true)
theorem xref23_SameAttrs_ac (a0:aAttrs) (a1:aAttrs) (r:Bool) (h:xref23_SameAttrs a0 a1=some r):AC Tryz.prog 22 [(.d (e_aAttrs a0)),(.d (e_aAttrs a1))] [] (.d (.bool r)) []:=by
 refine ac2 Tryz.func22 rfl rfl fun B hB hN L => ?_
 delta xref23_SameAttrs at h
 refine sr (SQ tt) ?_
 apply AWp.seq
 apply sr (c (fo 1002 0 [0] hN underlying35 0 tyS3 (q 2)) rfl (c (la hN 35 tyS3 (q 9)) rfl (c (fo 1003 0 [0] hN underlying35 0 tyS3 (q 3)) rfl (c (la hN 35 tyS3 (q 11)) rfl (c (neqI (L rfl) (q 10) (q 12)) rfl (c (mv hN (q 13)) rfl (c (oq hN 14 (fo 1002 2 [2] hN underlying35 2 tyS27 (q 2)) (OptL.keep (by rfl) OptL.nil) (GuardV.plain _)) rfl (c (oq hN 14 (la hN 35 tyS27 (q 15)) (OptL.opt OptL.nil) (GuardV.plain _)) rfl (c (oq hN 14 (fo 1003 2 [2] hN underlying35 2 tyS27 (q 3)) (OptL.keep (by rfl) OptL.nil) (GuardV.plain _)) rfl (c (oq hN 14 (la hN 35 tyS27 (q 17)) (OptL.opt OptL.nil) (GuardV.plain _)) rfl (c (oq hN 14 (OpJ.neqD (h:=2) (FitE.st underlying27 rfl held27 (FitF.cons (x:=(.bool a0.fNext.fV6)) (y:=(.bool a1.fNext.fV6)) (by decide) rfl tyS4 ⟨rfl,rfl⟩ ⟨rfl,rfl⟩ (FitE.bool (h:=0) a0.fNext.fV6 a1.fNext.fV6 underlying4) (FitF.cons (x:=(.int .u64 a0.fNext.fHi)) (y:=(.int .u64 a1.fNext.fHi)) (by decide) rfl tyS25 ⟨rfl,rfl⟩ ⟨rfl,rfl⟩ (FitE.int (h:=0) a0.fNext.fHi a1.fNext.fHi underlying25) (FitF.cons (x:=(.int .u64 a0.fNext.fLo)) (y:=(.int .u64 a1.fNext.fLo)) (by decide) rfl tyS25 ⟨rfl,rfl⟩ ⟨rfl,rfl⟩ (FitE.int (h:=0) a0.fNext.fLo a1.fNext.fLo underlying25) FitF.nil)))) eqg27 ⟨rfl,rfl⟩ (by rfl) (L rfl) (q 16) (q 18)) (OptL.opt (OptL.opt OptL.nil)) (GuardV.plain _)) rfl (c (pickOr rfl (L rfl) (q 14) (q 19)) rfl (c (mv hN (q 20)) rfl (c (oq hN 21 (fo 1002 5 [3] hN underlying35 5 tyS3 (q 2)) (OptL.keep (by rfl) OptL.nil) (GuardV.plain _)) rfl (c (oq hN 21 (la hN 35 tyS3 (q 22)) (OptL.opt OptL.nil) (GuardV.plain _)) rfl (c (oq hN 21 (fo 1003 5 [3] hN underlying35 5 tyS3 (q 3)) (OptL.keep (by rfl) OptL.nil) (GuardV.plain _)) rfl (c (oq hN 21 (la hN 35 tyS3 (q 24)) (OptL.opt OptL.nil) (GuardV.plain _)) rfl (c (oq hN 21 (neqI (L rfl) (q 23) (q 25)) (OptL.opt (OptL.opt OptL.nil)) (GuardV.plain _)) rfl (c (pickOr rfl (L rfl) (q 21) (q 26)) rfl (c (mv hN (q 27)) rfl (c (oq hN 28 (fo 1002 6 [4] hN underlying35 6 tyS3 (q 2)) (OptL.keep (by rfl) OptL.nil) (GuardV.plain _)) rfl (c (oq hN 28 (la hN 35 tyS3 (q 29)) (OptL.opt OptL.nil) (GuardV.plain _)) rfl (c (oq hN 28 (fo 1003 6 [4] hN underlying35 6 tyS3 (q 3)) (OptL.keep (by rfl) OptL.nil) (GuardV.plain _)) rfl (c (oq hN 28 (la hN 35 tyS3 (q 31)) (OptL.opt OptL.nil) (GuardV.plain _)) rfl (c (oq hN 28 (neqI (L rfl) (q 30) (q 32)) (OptL.opt (OptL.opt OptL.nil)) (GuardV.plain _)) rfl (c (pickOr rfl (L rfl) (q 28) (q 33)) rfl (c (mv hN (q 34)) rfl (c (oq hN 35 (fo 1002 7 [5] hN underlying35 7 tyS3 (q 2)) (OptL.keep (by rfl) OptL.nil) (GuardV.plain _)) rfl (c (oq hN 35 (la hN 35 tyS3 (q 36)) (OptL.opt OptL.nil) (GuardV.plain _)) rfl (c (oq hN 35 (fo 1003 7 [5] hN underlying35 7 tyS3 (q 3)) (OptL.keep (by rfl) OptL.nil) (GuardV.plain _)) rfl (c (oq hN 35 (la hN 35 tyS3 (q 38)) (OptL.opt OptL.nil) (GuardV.plain _)) rfl (c (oq hN 35 (neqI (L rfl) (q 37) (q 39)) (OptL.opt (OptL.opt OptL.nil)) (GuardV.plain _)) rfl (c (pickOr rfl (L rfl) (q 35) (q 40)) rfl (c (mv hN (q 41)) rfl (c (oq hN 42 (fo 1002 1 [1] hN underlying35 1 tyS30 (q 2)) (OptL.keep (by rfl) OptL.nil) (GuardV.plain _)) rfl (c (oq hN 42 (la hN 35 tyS30 (q 43)) (OptL.opt OptL.nil) (GuardV.plain _)) rfl (c (oq hN 42 (OpJ.val (v':=(i6 (a0.fPath.length:Int))) (by simp) (lenD underlying30 (L rfl) (q 44))) (OptL.opt OptL.nil) (GuardV.plain _)) rfl (c (oq hN 42 (fo 1003 1 [1] hN underlying35 1 tyS30 (q 3)) (OptL.keep (by rfl) OptL.nil) (GuardV.plain _)) rfl (c (oq hN 42 (la hN 35 tyS30 (q 46)) (OptL.opt OptL.nil) (GuardV.plain _)) rfl (c (oq hN 42 (OpJ.val (v':=(i6 (a1.fPath.length:Int))) (by simp) (lenD underlying30 (L rfl) (q 47))) (OptL.opt OptL.nil) (GuardV.plain _)) rfl (c (oq hN 42 (neqI (L rfl) (q 45) (q 48)) (OptL.opt (OptL.opt OptL.nil)) (GuardV.plain _)) rfl (c (pickOr rfl (L rfl) (q 42) (q 49)) rfl (c (mv hN (q 50)) rfl (c (oq hN 51 (fo 1002 8 [6] hN underlying35 8 tyS31 (q 2)) (OptL.keep (by rfl) OptL.nil) (GuardV.plain _)) rfl (c (oq hN 51 (la hN 35 tyS31 (q 52)) (OptL.opt OptL.nil) (GuardV.plain _)) rfl (c (oq hN 51 (OpJ.val (v':=(i6 (a0.fCommunities.length:Int))) (by simp) (lenD underlying31 (L rfl) (q 53))) (OptL.opt OptL.nil) (GuardV.plain _)) rfl (c (oq hN 51 (fo 1003 8 [6] hN underlying35 8 tyS31 (q 3)) (OptL.keep (by rfl) OptL.nil) (GuardV.plain _)) rfl (c (oq hN 51 (la hN 35 tyS31 (q 55)) (OptL.opt OptL.nil) (GuardV.plain _)) rfl (c (oq hN 51 (OpJ.val (v':=(i6 (a1.fCommunities.length:Int))) (by simp) (lenD underlying31 (L rfl) (q 56))) (OptL.opt OptL.nil) (GuardV.plain _)) rfl (c (oq hN 51 (neqI (L rfl) (q 54) (q 57)) (OptL.opt (OptL.opt OptL.nil)) (GuardV.plain _)) rfl (c (pickOr rfl (L rfl) (q 51) (q 58)) rfl (c (mv hN (q 59)) rfl (c (oq hN 60 (fo 1002 9 [7] hN underlying35 9 tyS32 (q 2)) (OptL.keep (by rfl) OptL.nil) (GuardV.plain _)) rfl (c (oq hN 60 (la hN 35 tyS32 (q 61)) (OptL.opt OptL.nil) (GuardV.plain _)) rfl (c (oq hN 60 (OpJ.val (v':=(i6 (a0.fLarge.length:Int))) (by simp) (lenD underlying32 (L rfl) (q 62))) (OptL.opt OptL.nil) (GuardV.plain _)) rfl (c (oq hN 60 (fo 1003 9 [7] hN underlying35 9 tyS32 (q 3)) (OptL.keep (by rfl) OptL.nil) (GuardV.plain _)) rfl (c (oq hN 60 (la hN 35 tyS32 (q 64)) (OptL.opt OptL.nil) (GuardV.plain _)) rfl (c (oq hN 60 (OpJ.val (v':=(i6 (a1.fLarge.length:Int))) (by simp) (lenD underlying32 (L rfl) (q 65))) (OptL.opt OptL.nil) (GuardV.plain _)) rfl (c (oq hN 60 (neqI (L rfl) (q 63) (q 66)) (OptL.opt (OptL.opt OptL.nil)) (GuardV.plain _)) rfl (c (pickOr rfl (L rfl) (q 60) (q 67)) rfl (c (mv hN (q 68)) rfl (c (oq hN 69 (fo 1002 10 [8] hN underlying35 10 tyS33 (q 2)) (OptL.keep (by rfl) OptL.nil) (GuardV.plain _)) rfl (c (oq hN 69 (la hN 35 tyS33 (q 70)) (OptL.opt OptL.nil) (GuardV.plain _)) rfl (c (oq hN 69 (OpJ.val (v':=(i6 (a0.fOther.length:Int))) (by simp) (lenD underlying33 (L rfl) (q 71))) (OptL.opt OptL.nil) (GuardV.plain _)) rfl (c (oq hN 69 (fo 1003 10 [8] hN underlying35 10 tyS33 (q 3)) (OptL.keep (by rfl) OptL.nil) (GuardV.plain _)) rfl (c (oq hN 69 (la hN 35 tyS33 (q 73)) (OptL.opt OptL.nil) (GuardV.plain _)) rfl (c (oq hN 69 (OpJ.val (v':=(i6 (a1.fOther.length:Int))) (by simp) (lenD underlying33 (L rfl) (q 74))) (OptL.opt OptL.nil) (GuardV.plain _)) rfl (c (oq hN 69 (neqI (L rfl) (q 72) (q 75)) (OptL.opt (OptL.opt OptL.nil)) (GuardV.plain _)) rfl (c (pickOr rfl (L rfl) (q 69) (q 76)) rfl cn)))))))))))))))))))))))))))))))))))))))))))))))))))))))))))))))))))))
 apply AWp.cond rfl<;>intro hg1
 ·have h:=ite_t hg1 h
  refine sr (SQ tt) ?_
  apply AWp.ret
  apply seqQ_r
  obtain rfl:=oi h
  exact rt (kp [(4,_)] [] hB rfl rfl (by rfl)) [(bo false)] (Res.tmp (by rfl) (by rfl) Res.nil) rfl
 ·have h:=ite_f hg1 h
  apply AWp.skip
  apply seqQ_n
  apply AWp.seq
  refine sr (SQ tt) ?_
  apply AWp.block
  obtain⟨x59,hx60,h⟩:=bindS h
  refine lg (xref23_SameAttrs_L0 a0 a1) (fun s2:Int=>([(2,(pt 1002)),(3,(pt 1003)),(80,(i6 (a0.fPath.length:Int))),(81,(i6 s2))]:EL)) (fun s2:Int=>([(1002,bd 35 (e_aAttrs a0)),(1003,bd 35 (e_aAttrs a1))]:OL)) (fun(x:(Unit)⊕(Unit)) e E' O'=>match x with | (.inl _p)=>e = .ret∧Mat B E' O' ([(4,(bo false))]:EL) ([]:OL) | (.inr _p)=>e = .exit 0∧Mat B E' O' ([(2,(pt 1002)),(3,(pt 1003))]:EL) ([(1002,bd 35 (e_aAttrs a0)),(1003,bd 35 (e_aAttrs a1))]:OL)) hx60 (mp [] _ _ hB) (fun s2 y h => ?_) (fun e E' O' hR => ?_)
  ·unfold xref23_SameAttrs_L0 at h
   refine sr (SQ tt) ?_
   apply AWp.seq
   apply AWp.cond rfl<;>intro hg41
   ·have h:=ite_t hg41 h
    apply AWp.skip
    apply seqQ_n
    apply AWp.seq
    apply AWp.block
    refine sr (SQ tt) ?_
    apply AWp.seq
    refine AWp.cut h (fun m50:Bool=>([(2,(pt 1002)),(3,(pt 1003)),(80,(i6 (a0.fPath.length:Int))),(81,(i6 s2)),(112,(bo m50))]:EL)) (fun m50:Bool=>([(1002,bd 35 (e_aAttrs a0)),(1003,bd 35 (e_aAttrs a1))]:OL)) (fun m50 h E' O' hmat => ?_) (fun j51 hjj51 h => ?_)
    ·apply seqQ_n
     refine AWp.ghost hmat ?_
     apply AWp.cond rfl<;>intro hg52
     ·have h:=ite_t hg52 h
      refine sr (SQ tt) ?_
      apply AWp.ret
      apply blkQ_r
      apply seqQ_r
      obtain rfl:=oi h
      exact⟨(fun hc=>by cases hc),rfl,(mp [] _ _ hB)⟩
     ·have h:=ite_f hg52 h
      apply AWp.skip
      apply blkQ_n
      apply seqQ_n
      refine rg (SQ tt) ?_
      obtain rfl:=oi h
      exact⟨rfl,(mp [] _ _ hB)⟩
    ·obtain⟨x53,hx53,h⟩:=bindS h
     obtain⟨x54,hx54,h⟩:=bindS h
     rcases bft (x53.fSet != x54.fSet) with hg55 | hg55
     ·have h:=ite_t hg55 h
      refine drS (SQ (fa hx53 (fa hx54 (fa hg55 tt)))) ?_
      exact hjj51 _ h _ _ (mp [] _ _ hB)
     ·have h:=ite_f hg55 h
      obtain⟨x56,hx56,h⟩:=bindS h
      obtain⟨x57,hx57,h⟩:=bindS h
      obtain⟨r58,hr58,h⟩:=bindS h
      refine drS (SQ (fa hx53 (fa hx54 (fa hg55 (fa hx56 (fa hx57 (fa (cl [] (xref23_SameInts_ac x56.fASNs x57.fASNs r58 hr58)) tt))))))) ?_
      exact hjj51 _ h _ _ (mp [] _ _ hB)
   ·have h:=ite_f hg41 h
    apply AWp.exit
    apply seqQ_e
    obtain rfl:=oi h
    exact⟨(fun hc=>by cases hc),rfl,(mp [] _ _ hB)⟩
  ·rcases x59 with _ | _
   ·obtain⟨rfl,hmat⟩:=hR
    apply blkQ_r
    apply seqQ_r
    obtain rfl:=oi h
    exact rt (Mat.trans hmat (mp [] [(4,(bo false))] [] hB)) [(bo false)] (Res.tmp (by rfl) (by rfl) Res.nil) rfl
   ·obtain⟨rfl,hmat⟩:=hR
    apply blkQ_hit
    apply seqQ_n
    refine AWp.ghost hmat ?_
    apply AWp.seq
    refine sr (SQ tt) ?_
    apply AWp.block
    obtain⟨x76,hx77,h⟩:=bindS h
    refine lg (xref23_SameAttrs_L1 a0 a1) (fun s61:Int=>([(2,(pt 1002)),(3,(pt 1003)),(116,(i6 (a0.fCommunities.length:Int))),(117,(i6 s61))]:EL)) (fun s61:Int=>([(1002,bd 35 (e_aAttrs a0)),(1003,bd 35 (e_aAttrs a1))]:OL)) (fun(x:(Unit)⊕(Unit)) e E' O'=>match x with | (.inl _p)=>e = .ret∧Mat B E' O' ([(4,(bo false))]:EL) ([]:OL) | (.inr _p)=>e = .exit 2∧Mat B E' O' ([(2,(pt 1002)),(3,(pt 1003))]:EL) ([(1002,bd 35 (e_aAttrs a0)),(1003,bd 35 (e_aAttrs a1))]:OL)) hx77 (mp [] _ _ hB) (fun s61 y h => ?_) (fun e E' O' hR => ?_)
    ·unfold xref23_SameAttrs_L1 at h
     refine sr (SQ tt) ?_
     apply AWp.seq
     apply AWp.cond rfl<;>intro hg72
     ·have h:=ite_t hg72 h
      apply AWp.skip
      apply seqQ_n
      apply AWp.seq
      apply AWp.block
      refine sr (SQ tt) ?_
      obtain⟨x73,hx73,h⟩:=bindS h
      obtain⟨x74,hx74,h⟩:=bindS h
      apply sd (c (fo 1002 8 [6] hN underlying35 8 tyS31 (q 2)) rfl (c (la hN 35 tyS31 (q 120)) rfl (c (mv hN (q 6)) rfl (c (indexD underlying31 tyS98 (idx_some hx73).1 (get_map e_aCommunity (idx_some hx73).2) (L rfl) (q 121) (q 122)) rfl (c (loadD tyS98 (by rfl) (by rfl) (L rfl) (q 123)) rfl (c (fo 1003 8 [6] hN underlying35 8 tyS31 (q 3)) rfl (c (la hN 35 tyS31 (q 125)) rfl (c (mv hN (q 6)) rfl (c (indexD underlying31 tyS98 (idx_some hx74).1 (get_map e_aCommunity (idx_some hx74).2) (L rfl) (q 126) (q 127)) rfl (c (loadD tyS98 (by rfl) (by rfl) (L rfl) (q 128)) rfl (c (OpJ.neqD (h:=2) (FitE.st underlying98 rfl held98 (FitF.cons (x:=(.int .i64 x73.fA)) (y:=(.int .i64 x74.fA)) (by decide) rfl tyS3 ⟨rfl,rfl⟩ ⟨rfl,rfl⟩ (FitE.int (h:=0) x73.fA x74.fA underlying3) (FitF.cons (x:=(.int .i64 x73.fB)) (y:=(.int .i64 x74.fB)) (by decide) rfl tyS3 ⟨rfl,rfl⟩ ⟨rfl,rfl⟩ (FitE.int (h:=0) x73.fB x74.fB underlying3) FitF.nil))) eqg98 ⟨rfl,rfl⟩ (by rfl) (L rfl) (q 124) (q 129)) rfl cn))))))))))) (by kernel_rfl) (by kernel_rfl)
      apply AWp.cond rfl<;>intro hg75
      ·have h:=ite_t hg75 h
       refine sr (SQ tt) ?_
       apply AWp.ret
       apply blkQ_r
       apply seqQ_r
       obtain rfl:=oi h
       exact⟨(fun hc=>by cases hc),rfl,(mp [] _ _ hB)⟩
      ·have h:=ite_f hg75 h
       apply AWp.skip
       apply blkQ_n
       apply seqQ_n
       refine rg (SQ tt) ?_
       obtain rfl:=oi h
       exact⟨rfl,(mp [] _ _ hB)⟩
     ·have h:=ite_f hg72 h
      apply AWp.exit
      apply seqQ_e
      obtain rfl:=oi h
      exact⟨(fun hc=>by cases hc),rfl,(mp [] _ _ hB)⟩
    ·rcases x76 with _ | _
     ·obtain⟨rfl,hmat⟩:=hR
      apply blkQ_r
      apply seqQ_r
      obtain rfl:=oi h
      exact rt (Mat.trans hmat (mp [] [(4,(bo false))] [] hB)) [(bo false)] (Res.tmp (by rfl) (by rfl) Res.nil) rfl
     ·obtain⟨rfl,hmat⟩:=hR
      apply blkQ_hit
      apply seqQ_n
      refine AWp.ghost hmat ?_
      apply AWp.seq
      refine sr (SQ tt) ?_
      apply AWp.block
      obtain⟨x93,hx94,h⟩:=bindS h
      refine lg (xref23_SameAttrs_L2 a0 a1) (fun s78:Int=>([(2,(pt 1002)),(3,(pt 1003)),(134,(i6 (a0.fLarge.length:Int))),(135,(i6 s78))]:EL)) (fun s78:Int=>([(1002,bd 35 (e_aAttrs a0)),(1003,bd 35 (e_aAttrs a1))]:OL)) (fun(x:(Unit)⊕(Unit)) e E' O'=>match x with | (.inl _p)=>e = .ret∧Mat B E' O' ([(4,(bo false))]:EL) ([]:OL) | (.inr _p)=>e = .exit 4∧Mat B E' O' ([(2,(pt 1002)),(3,(pt 1003))]:EL) ([(1002,bd 35 (e_aAttrs a0)),(1003,bd 35 (e_aAttrs a1))]:OL)) hx94 (mp [] _ _ hB) (fun s78 y h => ?_) (fun e E' O' hR => ?_)
      ·unfold xref23_SameAttrs_L2 at h
       refine sr (SQ tt) ?_
       apply AWp.seq
       apply AWp.cond rfl<;>intro hg89
       ·have h:=ite_t hg89 h
        apply AWp.skip
        apply seqQ_n
        apply AWp.seq
        apply AWp.block
        refine sr (SQ tt) ?_
        obtain⟨x90,hx90,h⟩:=bindS h
        obtain⟨x91,hx91,h⟩:=bindS h
        apply sd (c (fo 1002 9 [7] hN underlying35 9 tyS32 (q 2)) rfl (c (la hN 35 tyS32 (q 138)) rfl (c (mv hN (q 7)) rfl (c (indexD underlying32 tyS100 (idx_some hx90).1 (get_map e_aLarge (idx_some hx90).2) (L rfl) (q 139) (q 140)) rfl (c (loadD tyS100 (by rfl) (by rfl) (L rfl) (q 141)) rfl (c (fo 1003 9 [7] hN underlying35 9 tyS32 (q 3)) rfl (c (la hN 35 tyS32 (q 143)) rfl (c (mv hN (q 7)) rfl (c (indexD underlying32 tyS100 (idx_some hx91).1 (get_map e_aLarge (idx_some hx91).2) (L rfl) (q 144) (q 145)) rfl (c (loadD tyS100 (by rfl) (by rfl) (L rfl) (q 146)) rfl (c (OpJ.neqD (h:=2) (FitE.st underlying100 rfl held100 (FitF.cons (x:=(.int .i64 x90.fA)) (y:=(.int .i64 x91.fA)) (by decide) rfl tyS3 ⟨rfl,rfl⟩ ⟨rfl,rfl⟩ (FitE.int (h:=0) x90.fA x91.fA underlying3) (FitF.cons (x:=(.int .i64 x90.fB)) (y:=(.int .i64 x91.fB)) (by decide) rfl tyS3 ⟨rfl,rfl⟩ ⟨rfl,rfl⟩ (FitE.int (h:=0) x90.fB x91.fB underlying3) (FitF.cons (x:=(.int .i64 x90.fC)) (y:=(.int .i64 x91.fC)) (by decide) rfl tyS3 ⟨rfl,rfl⟩ ⟨rfl,rfl⟩ (FitE.int (h:=0) x90.fC x91.fC underlying3) FitF.nil)))) eqg100 ⟨rfl,rfl⟩ (by rfl) (L rfl) (q 142) (q 147)) rfl cn))))))))))) (by kernel_rfl) (by kernel_rfl)
        apply AWp.cond rfl<;>intro hg92
        ·have h:=ite_t hg92 h
         refine sr (SQ tt) ?_
         apply AWp.ret
         apply blkQ_r
         apply seqQ_r
         obtain rfl:=oi h
         exact⟨(fun hc=>by cases hc),rfl,(mp [] _ _ hB)⟩
        ·have h:=ite_f hg92 h
         apply AWp.skip
         apply blkQ_n
         apply seqQ_n
         refine rg (SQ tt) ?_
         obtain rfl:=oi h
         exact⟨rfl,(mp [] _ _ hB)⟩
       ·have h:=ite_f hg89 h
        apply AWp.exit
        apply seqQ_e
        obtain rfl:=oi h
        exact⟨(fun hc=>by cases hc),rfl,(mp [] _ _ hB)⟩
      ·rcases x93 with _ | _
       ·obtain⟨rfl,hmat⟩:=hR
        apply blkQ_r
        apply seqQ_r
        obtain rfl:=oi h
        exact rt (Mat.trans hmat (mp [] [(4,(bo false))] [] hB)) [(bo false)] (Res.tmp (by rfl) (by rfl) Res.nil) rfl
       ·obtain⟨rfl,hmat⟩:=hR
        apply blkQ_hit
        apply seqQ_n
        refine AWp.ghost hmat ?_
        apply AWp.seq
        refine sr (SQ tt) ?_
        apply AWp.block
        obtain⟨x164,hx165,h⟩:=bindS h
        refine lg (xref23_SameAttrs_L3 a0 a1) (fun s95:Int=>([(2,(pt 1002)),(3,(pt 1003)),(152,(i6 (a0.fOther.length:Int))),(153,(i6 s95))]:EL)) (fun s95:Int=>([(1002,bd 35 (e_aAttrs a0)),(1003,bd 35 (e_aAttrs a1))]:OL)) (fun(x:(Unit)⊕(Unit)) e E' O'=>match x with | (.inl _p)=>e = .ret∧Mat B E' O' ([(4,(bo false))]:EL) ([]:OL) | (.inr _p)=>e = .exit 6∧Mat B E' O' ([]:EL) ([]:OL)) hx165 (mp [] _ _ hB) (fun s95 y h => ?_) (fun e E' O' hR => ?_)
        ·unfold xref23_SameAttrs_L3 at h
         refine sr (SQ tt) ?_
         apply AWp.seq
         apply AWp.cond rfl<;>intro hg142
         ·have h:=ite_t hg142 h
          apply AWp.skip
          apply seqQ_n
          apply AWp.seq
          apply AWp.block
          refine sr (SQ tt) ?_
          apply AWp.seq
          refine AWp.cut h (fun m153:Bool=>([(2,(pt 1002)),(3,(pt 1003)),(152,(i6 (a0.fOther.length:Int))),(153,(i6 s95)),(200,(bo m153))]:EL)) (fun m153:Bool=>([(1002,bd 35 (e_aAttrs a0)),(1003,bd 35 (e_aAttrs a1))]:OL)) (fun m153 h E' O' hmat => ?_) (fun j154 hjj154 h => ?_)
          ·apply seqQ_n
           refine AWp.ghost hmat ?_
           apply AWp.cond rfl<;>intro hg155
           ·have h:=ite_t hg155 h
            refine sr (SQ tt) ?_
            apply AWp.ret
            apply blkQ_r
            apply seqQ_r
            obtain rfl:=oi h
            exact⟨(fun hc=>by cases hc),rfl,(mp [] _ _ hB)⟩
           ·have h:=ite_f hg155 h
            apply AWp.skip
            apply blkQ_n
            apply seqQ_n
            refine rg (SQ tt) ?_
            obtain rfl:=oi h
            exact⟨rfl,(mp [] _ _ hB)⟩
          ·obtain⟨x156,hx156,h⟩:=bindS h
           obtain⟨x157,hx157,h⟩:=bindS h
           rcases bft (x156.fFlags != x157.fFlags) with hg158 | hg158
           ·have h:=ite_t hg158 h
            refine drS (SQ (fa hx156 (fa hx157 (fa hg158 tt)))) ?_
            exact hjj154 _ h _ _ (mp [] _ _ hB)
           ·have h:=ite_f hg158 h
            obtain⟨x159,hx159,h⟩:=bindS h
            obtain⟨x160,hx160,h⟩:=bindS h
            rcases bft (x159.fType != x160.fType) with hg161 | hg161
            ·have h:=ite_t hg161 h
             refine drS (SQ (fa hx156 (fa hx157 (fa hg158 (fa hx159 (fa hx160 (fa hg161 tt))))))) ?_
             exact hjj154 _ h _ _ (mp [] _ _ hB)
            ·have h:=ite_f hg161 h
             obtain⟨x162,hx162,h⟩:=bindS h
             obtain⟨x163,hx163,h⟩:=bindS h
             apply dr (c (fo 1002 10 [8] hN underlying35 10 tyS33 (q 2)) rfl (c (la hN 35 tyS33 (q 156)) rfl (c (mv hN (q 8)) rfl (c (indexD underlying33 tyS69 (idx_some hx156).1 (get_map e_aUnknown (idx_some hx156).2) (L rfl) (q 157) (q 158)) rfl (c (fieldD underlying69 (by rfl) (o:=0) (by rfl) tyS3 (by decide) (by rfl) (by rfl) (L rfl) (q 159)) rfl (c (loadD tyS3 (by rfl) (by rfl) (L rfl) (q 160)) rfl (c (fo 1003 10 [8] hN underlying35 10 tyS33 (q 3)) rfl (c (la hN 35 tyS33 (q 162)) rfl (c (mv hN (q 8)) rfl (c (indexD underlying33 tyS69 (idx_some hx157).1 (get_map e_aUnknown (idx_some hx157).2) (L rfl) (q 163) (q 164)) rfl (c (fieldD underlying69 (by rfl) (o:=0) (by rfl) tyS3 (by decide) (by rfl) (by rfl) (L rfl) (q 165)) rfl (c (loadD tyS3 (by rfl) (by rfl) (L rfl) (q 166)) rfl (c (neqI (L rfl) (q 161) (q 167)) rfl (c (OpJ.val (v':=.d (.bool false)) (by rw [hg158]<;>rfl) (mv hN (q 168))) rfl (c (gd 169 (fo 1002 10 [8] hN underlying35 10 tyS33 (q 2))) rfl (c (gd 169 (la hN 35 tyS33 (q 170))) rfl (c (gd 169 (mv hN (q 8))) rfl (c (gd 169 (indexD underlying33 tyS69 (idx_some hx159).1 (get_map e_aUnknown (idx_some hx159).2) (L rfl) (q 171) (q 172))) rfl (c (gd 169 (fieldD underlying69 (by rfl) (o:=1) (by rfl) tyS3 (by decide) (by rfl) (by rfl) (L rfl) (q 173))) rfl (c (gd 169 (loadD tyS3 (by rfl) (by rfl) (L rfl) (q 174))) rfl (c (gd 169 (fo 1003 10 [8] hN underlying35 10 tyS33 (q 3))) rfl (c (gd 169 (la hN 35 tyS33 (q 176))) rfl (c (gd 169 (mv hN (q 8))) rfl (c (gd 169 (indexD underlying33 tyS69 (idx_some hx160).1 (get_map e_aUnknown (idx_some hx160).2) (L rfl) (q 177) (q 178))) rfl (c (gd 169 (fieldD underlying69 (by rfl) (o:=1) (by rfl) tyS3 (by decide) (by rfl) (by rfl) (L rfl) (q 179))) rfl (c (gd 169 (loadD tyS3 (by rfl) (by rfl) (L rfl) (q 180))) rfl (c (gd 169 (neqI (L rfl) (q 175) (q 181))) rfl (c (pickF (L rfl) (q 169) (q 182)) rfl (c (OpJ.val (v':=.d (.bool false)) (by rw [hg161]<;>rfl) (mv hN (q 183))) rfl (c (gd 184 (fo 1002 10 [8] hN underlying35 10 tyS33 (q 2))) rfl (c (gd 184 (la hN 35 tyS33 (q 185))) rfl (c (gd 184 (mv hN (q 8))) rfl (c (gd 184 (indexD underlying33 tyS69 (idx_some hx162).1 (get_map e_aUnknown (idx_some hx162).2) (L rfl) (q 186) (q 187))) rfl (c (gd 184 (fieldD underlying69 (by rfl) (o:=2) (by rfl) tyS67 (by decide) (by rfl) (by rfl) (L rfl) (q 188))) rfl (c (gd 184 (loadD tyS67 (by rfl) (by rfl) (L rfl) (q 189))) rfl (cg (gd 184 (OpJ.bytesStr (xs:=x162.fData) tyU67 underlying5 underlying9 (L rfl) (q 190))) rfl (c (gd 184 (fo 1003 10 [8] hN underlying35 10 tyS33 (q 3))) rfl (c (gd 184 (la hN 35 tyS33 (q 192))) rfl (c (gd 184 (mv hN (q 8))) rfl (c (gd 184 (indexD underlying33 tyS69 (idx_some hx163).1 (get_map e_aUnknown (idx_some hx163).2) (L rfl) (q 193) (q 194))) rfl (c (gd 184 (fieldD underlying69 (by rfl) (o:=2) (by rfl) tyS67 (by decide) (by rfl) (by rfl) (L rfl) (q 195))) rfl (c (gd 184 (loadD tyS67 (by rfl) (by rfl) (L rfl) (q 196))) rfl (cg (gd 184 (OpJ.bytesStr (xs:=x163.fData) tyU67 underlying5 underlying9 (L rfl) (q 197))) rfl (cg (gd 184 (OpJ.neqS (L rfl) (q 191) (q 198))) rfl (c (pickF (L rfl) (q 184) (q 199)) rfl cn))))))))))))))))))))))))))))))))))))))))))))) (by kernel_rfl) (by kernel_rfl)
             exact hjj154 _ h _ _ (mp [] _ _ hB)
         ·have h:=ite_f hg142 h
          apply AWp.exit
          apply seqQ_e
          obtain rfl:=oi h
          exact⟨(fun hc=>by cases hc),rfl,(mp [] _ _ hB)⟩
        ·rcases x164 with _ | _
         ·obtain⟨rfl,hmat⟩:=hR
          apply blkQ_r
          apply seqQ_r
          obtain rfl:=oi h
          exact rt (Mat.trans hmat (mp [] [(4,(bo false))] [] hB)) [(bo false)] (Res.tmp (by rfl) (by rfl) Res.nil) rfl
         ·obtain⟨rfl,hmat⟩:=hR
          apply blkQ_hit
          apply seqQ_n
          refine AWp.ghost hmat ?_
          refine sr (SQ tt) ?_
          apply AWp.ret
          obtain rfl:=oi h
          exact rt (kp [(4,_)] [] hB rfl rfl (by rfl)) [(bo true)] (Res.tmp (by rfl) (by rfl) Res.nil) rfl
def xref01_Valid (a0:aAddr):Option (Bool) :=
 jn (fun m2:Bool =>
 some m2) (fun j3 =>
 (if a0.fV6=true then
 j3 true
 else
 j3 ((a0.fHi==0)&&(decide (a0.fLo<4294967296)))))
theorem xref01_Valid_ac (a0:aAddr) (r:Bool) (h:xref01_Valid a0=some r):AC Tryz.prog 78 [(.d (e_aAddr a0))] [] (.d (.bool r)) []:=by
 refine ac2 Tryz.func78 rfl rfl fun B hB hN L => ?_
 delta xref01_Valid at h
 refine sr (SQ tt) ?_
 apply AWp.seq
 refine AWp.cut h (fun m2:Bool=>([(2,(bo m2))]:EL)) (fun m2:Bool=>([]:OL)) (fun m2 h E' O' hmat => ?_) (fun j3 hjj3 h => ?_)
 ·apply seqQ_n
  refine AWp.ghost hmat ?_
  apply AWp.ret
  obtain rfl:=oi h
  exact rt (kp [(2,_)] [] hB rfl rfl (by rfl)) [(bo m2)] (Res.tmp (by rfl) (by rfl) Res.nil) rfl
 ·rcases bft a0.fV6 with hg4 | hg4
  ·have h:=ite_t hg4 h
   refine rg (SQ (fa hg4 tt)) ?_
   exact hjj3 _ h _ _ (mp [] _ _ hB)
  ·have h:=ite_f hg4 h
   refine rg (SQ (fa hg4 tt)) ?_
   exact hjj3 _ h _ _ (mp [] _ _ hB)
def xref02_width (a0:aAddr):Option (Int) :=
 (if a0.fV6=true then
 some 128
 else
 some 32)
theorem xref02_width_ac (a0:aAddr) (r:Int) (h:xref02_width a0=some r):AC Tryz.prog 99 [(.d (e_aAddr a0))] [] (.d (.int .i64 r)) []:=by
 refine AC.of_code2 Tryz.func99 rfl rfl (Nat.le_of_ble_eq_true (by rfl)) fun B hB hN => ?_
 delta xref02_width at h
 refine sr (SQ tt) ?_
 apply AWp.seq
 refine sr (SQ tt) ?_
 apply AWp.cond rfl<;>intro hg1
 ·have h:=ite_t hg1 h
  refine sr (SQ tt) ?_
  apply AWp.ret
  apply seqQ_r
  obtain rfl:=oi h
  exact rt (kp [(2,_)] [] hB rfl rfl (by rfl)) [(i6 128)] (Res.tmp (by rfl) (by rfl) Res.nil) rfl
 ·have h:=ite_f hg1 h
  apply AWp.skip
  apply seqQ_n
  refine sr (SQ tt) ?_
  apply AWp.ret
  obtain rfl:=oi h
  exact rt (kp [(2,_)] [] hB rfl rfl (by rfl)) [(i6 32)] (Res.tmp (by rfl) (by rfl) Res.nil) rfl
def xref01_Bytes_L0 (a0:aAddr) (s6:Int×(List Int)):Option ((((List Int)))⊕(Int×(List Int))) :=
 (if (decide (0≤s6.1))=true then
 jn (fun m22:Int =>
 chk (decide ((s6.2++([(IntKind.u8.wrap (shrI .u64 m22 (IntKind.u64.wrap (8*(IntKind.u64.wrap (Int.tmod s6.1 8))))))]:List Int)).length≤LIM)) <|
 some (.inr ((w64 (s6.1-1)),(s6.2++([(IntKind.u8.wrap (shrI .u64 m22 (IntKind.u64.wrap (8*(IntKind.u64.wrap (Int.tmod s6.1 8))))))]:List Int))))) (fun j23 =>
 (if (decide (8≤s6.1))=true then
 j23 a0.fHi
 else
 j23 a0.fLo))
 else
 some (.inl s6.2))
def xref01_Bytes (a0:aAddr):Option ((List Int)) :=
 (xref01_Valid a0).bind fun r1 =>
 (if (!r1)=true then
 some ([]:List Int)
 else
 jn (fun m4:Int =>
 (loop (xref01_Bytes_L0 a0) ((w64 (m4-1)),([]:List Int))).bind fun p19 =>
 some p19) (fun j5 =>
 (if a0.fV6=true then
 j5 16
 else
 j5 4)))
theorem xref01_Bytes_ac (a0:aAddr) (r:(List Int)) (h:xref01_Bytes a0=some r):AC Tryz.prog 84 [(.d (e_aAddr a0))] [] (.d (.list 1 (r.map (eI .u8)))) []:=by
 refine ac2 Tryz.func84 rfl rfl fun B hB hN L => ?_
 delta xref01_Bytes at h
 refine sr (SQ tt) ?_
 apply AWp.seq
 obtain⟨r1,hr1,h⟩:=bindS h
 refine sr (SQ (fa (cl [] (xref01_Valid_ac a0 r1 hr1)) tt)) ?_
 apply AWp.cond rfl<;>intro hg2
 ·have h:=ite_t hg2 h
  refine sr (SQ tt) ?_
  apply AWp.ret
  apply seqQ_r
  obtain rfl:=oi h
  exact rt (Mat.trans (Mat.coeP (Ts:=[(2,(.d (.list 1 (([]:List Int).map (eI .u8)))))]) (Bs:=[]) (TwT.cons (x:=.nils) (by rfl) (Tw.leaf ⟨_,(Co.nils 1),rfl⟩) TwT.nil) TwB.nil) (mp [] [(2,(.d (.list 1 (([]:List Int).map (eI .u8)))))] [] hB)) [(.d (.list 1 (([]:List Int).map (eI .u8))))] (Res.tmp (by rfl) (by rfl) Res.nil) rfl
 ·have h:=ite_f hg2 h
  apply AWp.skip
  apply seqQ_n
  refine sr (SQ tt) ?_
  apply AWp.seq
  refine sr (SQ tt) ?_
  refine gh [(1,_),(3,_),(11,_)] [(1001,some _)] hB rfl rfl (by rfl) ?_
  refine AWp.cut h (fun m4:Int=>([(1,(pt 1001)),(3,(i6 m4))]:EL)) (fun m4:Int=>([(1001,bd 27 (e_aAddr a0))]:OL)) (fun m4 h E' O' hmat => ?_) (fun j5 hjj5 h => ?_)
  ·apply seqQ_n
   refine AWp.ghost hmat ?_
   refine sr (SQ tt) ?_
   apply AWp.seq
   refine sr (SQ tt) ?_
   apply AWp.block
   obtain⟨p19,hx27,h⟩:=bindS h
   refine lg (xref01_Bytes_L0 a0) (fun s6:Int×(List Int)=>([(1,(pt 1001)),(4,(.sref 3004 1 0 s6.2.length)),(5,(i6 s6.1))]:EL)) (fun s6:Int×(List Int)=>([(1001,bd 27 (e_aAddr a0)),(3004,some (.row 5 1 (s6.2.map (eI .u8))))]:OL)) (fun(p19:((List Int))) e E' O'=>e = .exit 0∧Mat B E' O' ([(4,(.sref 3004 1 0 p19.length))]:EL) ([(3004,some (.row 5 1 (p19.map (eI .u8))))]:OL)) hx27 (Mat.trans (Mat.beginP (n:=3004) (e:=5) (sz:=1) (Ts:=[(4,(.sref 3004 1 0 0))]) (Bs:=[]) hB (by decide) (by rfl) (by decide) (TwT.cons (x:=.nils) (by rfl) (Tw.leaf ⟨rfl,rfl⟩) TwT.nil) TwB.nil) (mp [] _ _ hB)) (fun s6 y h => ?_) (fun e E' O' hR => ?_)
   ·unfold xref01_Bytes_L0 at h
    apply AWp.seq
    refine sr (SQ tt) ?_
    apply AWp.cond rfl<;>intro hg20
    ·have h:=ite_t hg20 h
     apply AWp.skip
     apply seqQ_n
     apply AWp.seq
     apply AWp.block
     refine sr (SQ tt) ?_
     apply AWp.seq
     refine sr (SQ tt) ?_
     refine gh [(1,_),(4,_),(5,_),(6,_),(21,_)] [(1001,some _),(3004,some _)] hB rfl rfl (by rfl) ?_
     refine AWp.cut h (fun m22:Int=>([(1,(pt 1001)),(4,(.sref 3004 1 0 s6.2.length)),(5,(i6 s6.1)),(6,(.d (.int .u64 m22)))]:EL)) (fun m22:Int=>([(1001,bd 27 (e_aAddr a0)),(3004,some (.row 5 1 (s6.2.map (eI .u8))))]:OL)) (fun m22 h E' O' hmat => ?_) (fun j23 hjj23 h => ?_)
     ·apply seqQ_n
      refine AWp.ghost hmat ?_
      obtain⟨hc24,h⟩:=chk_some h
      refine rg (SQ (fa hc24 tt)) ?_
      apply blkQ_n
      apply seqQ_n
      refine rg (SQ tt) ?_
      obtain rfl:=oi h
      exact⟨rfl,(mp [(3004,1033)] _ _ hB)⟩
     ·apply AWp.cond rfl<;>intro hg25
      ·have h:=ite_t hg25 h
       refine rg (SQ tt) ?_
       exact hjj23 _ h _ _ (mp [] _ _ hB)
      ·have h:=ite_f hg25 h
       apply AWp.skip
       exact hjj23 _ h _ _ (mp [] _ _ hB)
    ·have h:=ite_f hg20 h
     apply AWp.exit
     apply seqQ_e
     obtain rfl:=oi h
     exact⟨(fun hc=>by cases hc),rfl,(mp [] _ _ hB)⟩
   ·obtain⟨rfl,hmat⟩:=hR
    apply blkQ_hit
    apply seqQ_n
    refine AWp.ghost hmat ?_
    refine sr (SQ tt) ?_
    apply AWp.ret
    obtain rfl:=oi h
    exact rt (Mat.trans (Mat.freezeP (n:=3004) (e:=5) (sz:=1) (es:=p19.map (eI .u8)) (Ts:=[(2,(.d (.list 1 (p19.map (eI .u8)))))]) (Bs:=[]) (by rfl) (TwT.cons (x:=(.sref 3004 1 0 p19.length)) (by rfl) (FrzL.all (by first | rfl | (simp;done) | (simp;omega) | omega)) TwT.nil) TwB.nil) (mp [] [(2,(.d (.list 1 (p19.map (eI .u8)))))] [] hB)) [(.d (.list 1 (p19.map (eI .u8))))] (Res.tmp (by rfl) (by rfl) Res.nil) rfl
  ·apply AWp.cond rfl<;>intro hg28
   ·have h:=ite_t hg28 h
    refine rg (SQ tt) ?_
    exact hjj5 _ h _ _ (mp [] _ _ hB)
   ·have h:=ite_f hg28 h
    apply AWp.skip
    exact hjj5 _ h _ _ (mp [] _ _ hB)
def xref01_Bytes_2_L0 (a0:aAddr) (s6:Int×(List Int)):Option ((((List Int)))⊕(Int×(List Int))) :=
 (if (decide (0≤s6.1))=true then
 jn (fun m22:Int =>
 chk (decide ((s6.2++([(IntKind.u8.wrap (shrI .u64 m22 (IntKind.u64.wrap (8*(IntKind.u64.wrap (Int.tmod s6.1 8))))))]:List Int)).length≤LIM)) <|
 some (.inr ((w64 (s6.1-1)),(s6.2++([(IntKind.u8.wrap (shrI .u64 m22 (IntKind.u64.wrap (8*(IntKind.u64.wrap (Int.tmod s6.1 8))))))]:List Int))))) (fun j23 =>
 (if (decide (8≤s6.1))=true then
 j23 a0.fHi
 else
 j23 a0.fLo))
 else
 some (.inl s6.2))
def xref01_Bytes_2 (a0:aAddr):Option ((List Int)) :=
 (xref01_Valid a0).bind fun r1 =>
 (if (!r1)=true then
 some ([]:List Int)
 else
 jn (fun m4:Int =>
 (loop (xref01_Bytes_2_L0 a0) ((w64 (m4-1)),([]:List Int))).bind fun p19 =>
 some p19) (fun j5 =>
 (if a0.fV6=true then
 j5 16
 else
 j5 4)))
theorem xref01_Bytes_2_ac (a0:aAddr) (r:(List Int)) (h:xref01_Bytes_2 a0=some r):AC Tryz.prog 84 [(.d (e_aAddr a0))] [] (.sref 900000 1 0 r.length) [(900000,some (.row 5 1 (r.map (eI .u8))))]:=by
 refine ac2 Tryz.func84 rfl rfl fun B hB hN L => ?_
 delta xref01_Bytes_2 at h
 refine sr (SQ tt) ?_
 apply AWp.seq
 obtain⟨r1,hr1,h⟩:=bindS h
 refine sr (SQ (fa (cl [] (xref01_Valid_ac a0 r1 hr1)) tt)) ?_
 apply AWp.cond rfl<;>intro hg2
 ·have h:=ite_t hg2 h
  refine sr (SQ tt) ?_
  apply AWp.ret
  apply seqQ_r
  obtain rfl:=oi h
  exact rt (Mat.trans (Mat.beginP (n:=900500) (e:=5) (sz:=1) (Ts:=[(2,(.sref 900500 1 0 0))]) (Bs:=[]) hB (by decide) (by rfl) (by decide) (TwT.cons (x:=.nils) (by rfl) (Tw.leaf ⟨rfl,rfl⟩) TwT.nil) TwB.nil) (Mat.trans (Mat.lenP (Ts:=[(2,(.sref 900500 1 0 (([]:List Int).length)))]) (Bs:=[]) (TwT.cons (x:=(.sref 900500 1 0 0)) (by rfl) (Tw.leaf ⟨_,_,_,_,_,rfl,rfl,(by first | rfl | (simp;done) | (simp;omega) | omega)⟩) TwT.nil) TwB.nil) (mp [(900000,900500)] [(2,(.sref 900000 1 0 (([]:List Int).length)))] [(900000,some (.row 5 1 (([]:List Int).map (eI .u8))))] hB))) [(.sref 900000 1 0 (([]:List Int).length))] (Res.tmp (by rfl) (by rfl) Res.nil) rfl
 ·have h:=ite_f hg2 h
  apply AWp.skip
  apply seqQ_n
  refine sr (SQ tt) ?_
  apply AWp.seq
  refine sr (SQ tt) ?_
  refine gh [(1,_),(3,_),(11,_)] [(1001,some _)] hB rfl rfl (by rfl) ?_
  refine AWp.cut h (fun m4:Int=>([(1,(pt 1001)),(3,(i6 m4))]:EL)) (fun m4:Int=>([(1001,bd 27 (e_aAddr a0))]:OL)) (fun m4 h E' O' hmat => ?_) (fun j5 hjj5 h => ?_)
  ·apply seqQ_n
   refine AWp.ghost hmat ?_
   refine sr (SQ tt) ?_
   apply AWp.seq
   refine sr (SQ tt) ?_
   apply AWp.block
   obtain⟨p19,hx27,h⟩:=bindS h
   refine lg (xref01_Bytes_2_L0 a0) (fun s6:Int×(List Int)=>([(1,(pt 1001)),(4,(.sref 3004 1 0 s6.2.length)),(5,(i6 s6.1))]:EL)) (fun s6:Int×(List Int)=>([(1001,bd 27 (e_aAddr a0)),(3004,some (.row 5 1 (s6.2.map (eI .u8))))]:OL)) (fun(p19:((List Int))) e E' O'=>e = .exit 0∧Mat B E' O' ([(4,(.sref 3004 1 0 p19.length))]:EL) ([(3004,some (.row 5 1 (p19.map (eI .u8))))]:OL)) hx27 (Mat.trans (Mat.beginP (n:=3004) (e:=5) (sz:=1) (Ts:=[(4,(.sref 3004 1 0 0))]) (Bs:=[]) hB (by decide) (by rfl) (by decide) (TwT.cons (x:=.nils) (by rfl) (Tw.leaf ⟨rfl,rfl⟩) TwT.nil) TwB.nil) (mp [] _ _ hB)) (fun s6 y h => ?_) (fun e E' O' hR => ?_)
   ·unfold xref01_Bytes_2_L0 at h
    apply AWp.seq
    refine sr (SQ tt) ?_
    apply AWp.cond rfl<;>intro hg20
    ·have h:=ite_t hg20 h
     apply AWp.skip
     apply seqQ_n
     apply AWp.seq
     apply AWp.block
     refine sr (SQ tt) ?_
     apply AWp.seq
     refine sr (SQ tt) ?_
     refine gh [(1,_),(4,_),(5,_),(6,_),(21,_)] [(1001,some _),(3004,some _)] hB rfl rfl (by rfl) ?_
     refine AWp.cut h (fun m22:Int=>([(1,(pt 1001)),(4,(.sref 3004 1 0 s6.2.length)),(5,(i6 s6.1)),(6,(.d (.int .u64 m22)))]:EL)) (fun m22:Int=>([(1001,bd 27 (e_aAddr a0)),(3004,some (.row 5 1 (s6.2.map (eI .u8))))]:OL)) (fun m22 h E' O' hmat => ?_) (fun j23 hjj23 h => ?_)
     ·apply seqQ_n
      refine AWp.ghost hmat ?_
      obtain⟨hc24,h⟩:=chk_some h
      refine rg (SQ (fa hc24 tt)) ?_
      apply blkQ_n
      apply seqQ_n
      refine rg (SQ tt) ?_
      obtain rfl:=oi h
      exact⟨rfl,(mp [(3004,1033)] _ _ hB)⟩
     ·apply AWp.cond rfl<;>intro hg25
      ·have h:=ite_t hg25 h
       refine rg (SQ tt) ?_
       exact hjj23 _ h _ _ (mp [] _ _ hB)
      ·have h:=ite_f hg25 h
       apply AWp.skip
       exact hjj23 _ h _ _ (mp [] _ _ hB)
    ·have h:=ite_f hg20 h
     apply AWp.exit
     apply seqQ_e
     obtain rfl:=oi h
     exact⟨(fun hc=>by cases hc),rfl,(mp [] _ _ hB)⟩
   ·obtain⟨rfl,hmat⟩:=hR
    apply blkQ_hit
    apply seqQ_n
    refine AWp.ghost hmat ?_
    refine sr (SQ tt) ?_
    apply AWp.ret
    obtain rfl:=oi h
    exact rt (mp [(900000,3004)] [(2,(.sref 900000 1 0 p19.length))] [(900000,some (.row 5 1 (p19.map (eI .u8))))] hB) [(.sref 900000 1 0 p19.length)] (Res.tmp (by rfl) (by rfl) Res.nil) rfl
  ·apply AWp.cond rfl<;>intro hg28
   ·have h:=ite_t hg28 h
    refine rg (SQ tt) ?_
    exact hjj5 _ h _ _ (mp [] _ _ hB)
   ·have h:=ite_f hg28 h
    apply AWp.skip
    exact hjj5 _ h _ _ (mp [] _ _ hB)
def xref01_FromBytes_L0 (a0:(List Int)) (s2:Int×Int×Int):Option (((Int×Int))⊕(Int×Int×Int)) :=
 (if (decide (s2.1<(a0.length:Int)))=true then
 (idx a0 s2.1).bind fun x9 =>
 some (.inr ((w64 (s2.1+1)),(bitI .or .u64 (shlI .u64 s2.2.1 8) (shrI .u64 s2.2.2 56)),(bitI .or .u64 (shlI .u64 s2.2.2 8) (IntKind.u64.wrap x9))))
 else
 some (.inl (s2.2.1,s2.2.2)))
def xref01_FromBytes (a0:(List Int)):Option (aAddr×Int) :=
 (if (((a0.length:Int) != 4)&&((a0.length:Int) != 16))=true then
 some ((aAddr.mk false 0 0),1)
 else
 (loop (xref01_FromBytes_L0 a0) (0,0,0)).bind fun p7 =>
 some ((aAddr.mk ((a0.length:Int)==16) p7.1 p7.2),0))
theorem xref01_FromBytes_ac (a0:(List Int)) (r:aAddr×Int) (h:xref01_FromBytes a0=some r):AC Tryz.prog 100 [(.d (.list 1 (a0.map (eI .u8))))] [] (.tup [(.d (e_aAddr r.1)),(.d (.int .i64 r.2))]) []:=by
 refine ac2 Tryz.func100 rfl rfl fun B hB hN L => ?_
 delta xref01_FromBytes at h
 refine sr (SQ tt) ?_
 apply AWp.seq
 refine sr (SQ tt) ?_
 apply AWp.cond rfl<;>intro hg1
 ·have h:=ite_t hg1 h
  refine sr (SQ tt) ?_
  apply AWp.ret
  apply seqQ_r
  obtain rfl:=oi h
  exact rt (kp [(2,_),(3,_)] [(1002,some _)] hB rfl rfl (by rfl)) [(.d (.st [(.bool false),(.int .u64 0),(.int .u64 0)])),(i6 1)] (Res.cell (c:=(.d (.st [(.bool false),(.int .u64 0),(.int .u64 0)]))) (by rfl) (by rfl) tyS27 (by rfl) (by rfl) (by rfl) (Res.tmp (by rfl) (by rfl) Res.nil)) rfl
 ·have h:=ite_f hg1 h
  apply AWp.skip
  apply seqQ_n
  refine sr (SQ tt) ?_
  apply AWp.seq
  refine sr (SQ tt) ?_
  apply AWp.block
  obtain⟨p7,hx11,h⟩:=bindS h
  refine lg (xref01_FromBytes_L0 a0) (fun s2:Int×Int×Int=>([(2,(pt 1002)),(4,(pt 1004)),(20,(.d (.list 1 (a0.map (eI .u8))))),(21,(i6 (a0.length:Int))),(22,(i6 s2.1))]:EL)) (fun s2:Int×Int×Int=>([(1002,bd 27 (.st [(.bool false),(.int .u64 0),(.int .u64 0)])),(1004,bd 27 (.st [(.bool ((a0.length:Int)==16)),(.int .u64 s2.2.1),(.int .u64 s2.2.2)]))]:OL)) (fun(p7:(Int×Int)) e E' O'=>e = .exit 0∧Mat B E' O' ([(2,(pt 1002)),(4,(pt 1004))]:EL) ([(1002,bd 27 (.st [(.bool false),(.int .u64 0),(.int .u64 0)])),(1004,bd 27 (.st [(.bool ((a0.length:Int)==16)),(.int .u64 p7.1),(.int .u64 p7.2)]))]:OL)) hx11 (mp [] _ _ hB) (fun s2 y h => ?_) (fun e E' O' hR => ?_)
  ·unfold xref01_FromBytes_L0 at h
   refine sr (SQ tt) ?_
   apply AWp.seq
   apply AWp.cond rfl<;>intro hg8
   ·have h:=ite_t hg8 h
    apply AWp.skip
    apply seqQ_n
    apply AWp.seq
    apply AWp.block
    obtain⟨_,hx9,h⟩:=bindS h
    refine sr (SQ (fa hx9 tt)) ?_
    refine sr (SQ tt) ?_
    refine rg (SQ tt) ?_
    apply blkQ_n
    apply seqQ_n
    refine rg (SQ tt) ?_
    obtain rfl:=oi h
    exact⟨rfl,(mp [] _ _ hB)⟩
   ·have h:=ite_f hg8 h
    apply AWp.exit
    apply seqQ_e
    obtain rfl:=oi h
    exact⟨(fun hc=>by cases hc),rfl,(mp [] _ _ hB)⟩
  ·obtain⟨rfl,hmat⟩:=hR
   apply blkQ_hit
   apply seqQ_n
   refine AWp.ghost hmat ?_
   refine sr (SQ tt) ?_
   apply AWp.ret
   obtain rfl:=oi h
   exact rt (kp [(2,_),(3,_)] [(1002,some _)] hB rfl rfl (by rfl)) [(.d (.st [(.bool ((a0.length:Int)==16)),(.int .u64 p7.1),(.int .u64 p7.2)])),(i6 0)] (Res.cell (c:=(.d (.st [(.bool ((a0.length:Int)==16)),(.int .u64 p7.1),(.int .u64 p7.2)]))) (by rfl) (by rfl) tyS27 (by rfl) (by rfl) (by rfl) (Res.tmp (by rfl) (by rfl) Res.nil)) rfl
def xref02_Make_L0 (s9:Int×(List Int)):Option ((((List Int)))⊕(Int×(List Int))) :=
 (if (decide (s9.1<(w64 (8*(s9.2.length:Int)))))=true then
 (idx s9.2 (w64 (Int.tdiv s9.1 8))).bind fun _ =>
 (idx s9.2 (w64 (Int.tdiv s9.1 8))).bind fun x23 =>
 (idx s9.2 (w64 (Int.tdiv s9.1 8))).bind fun _ =>
 (idx s9.2 (w64 (Int.tdiv s9.1 8))).bind fun _ =>
 some (.inr ((w64 (s9.1+1)),(s9.2.set (w64 (Int.tdiv s9.1 8)).toNat (bitI .andNot .u8 x23 (shrI .u8 128 (IntKind.u64.wrap (Int.tmod s9.1 8)))))))
 else
 some (.inl s9.2))
def xref02_Make (a0:aAddr) (a1:Int):Option (aPrefix×Int) :=
 (xref01_Valid a0).bind fun r1 =>
 (if (!r1)=true then
 some ((aPrefix.mk (aAddr.mk false 0 0) 0),1)
 else
 jn (fun m5:Bool =>
 (if m5=true then
 some ((aPrefix.mk (aAddr.mk false 0 0) 0),9)
 else
 (xref01_Bytes_2 a0).bind fun r8 =>
 (loop (xref02_Make_L0) (a1,r8)).bind fun p20 =>
 (xref01_FromBytes p20).bind fun r28 =>
 some ((aPrefix.mk r28.1 a1),0))) (fun j6 =>
 (if (decide (a1<0))=true then
 j6 true
 else
 (xref02_width a0).bind fun r30 =>
 j6 (decide (r30<a1)))))
theorem xref02_Make_ac (a0:aAddr) (a1:Int) (r:aPrefix×Int) (h:xref02_Make a0 a1=some r):AC Tryz.prog 72 [(.d (e_aAddr a0)),(.d (.int .i64 a1))] [] (.tup [(.d (e_aPrefix r.1)),(.d (.int .i64 r.2))]) []:=by
 refine ac2 Tryz.func72 rfl rfl fun B hB hN L => ?_
 delta xref02_Make at h
 refine sr (SQ tt) ?_
 apply AWp.seq
 apply AWp.block
 obtain⟨r1,hr1,h⟩:=bindS h
 refine sr (SQ (fa (cl [] (xref01_Valid_ac a0 r1 hr1)) tt)) ?_
 apply AWp.cond rfl<;>intro hg2
 ·have h:=ite_t hg2 h
  refine sr (SQ tt) ?_
  apply AWp.ret
  apply blkQ_r
  apply seqQ_r
  obtain rfl:=oi h
  exact rt (kp [(4,_),(5,_)] [(1004,some _)] hB rfl rfl (by rfl)) [(.d (.st [(.st [(.bool false),(.int .u64 0),(.int .u64 0)]),(.int .i64 0)])),(i6 1)] (Res.cell (c:=(.d (.st [(.st [(.bool false),(.int .u64 0),(.int .u64 0)]),(.int .i64 0)]))) (by rfl) (by rfl) tyS29 (by rfl) (by rfl) (by rfl) (Res.tmp (by rfl) (by rfl) Res.nil)) rfl
 ·have h:=ite_f hg2 h
  apply AWp.seq
  refine AWp.cut h (fun m5:Bool=>([(1,(i6 a1)),(2,(pt 1002)),(4,(pt 1004)),(15,(bo m5))]:EL)) (fun m5:Bool=>([(1002,bd 27 (e_aAddr a0)),(1004,bd 29 (.st [(.st [(.bool false),(.int .u64 0),(.int .u64 0)]),(.int .i64 0)]))]:OL)) (fun m5 h E' O' hmat => ?_) (fun j6 hjj6 h => ?_)
  ·apply seqQ_n
   refine AWp.ghost hmat ?_
   apply AWp.cond rfl<;>intro hg7
   ·have h:=ite_t hg7 h
    refine sr (SQ tt) ?_
    apply AWp.ret
    apply blkQ_r
    apply seqQ_r
    obtain rfl:=oi h
    exact rt (kp [(4,_),(5,_)] [(1004,some _)] hB rfl rfl (by rfl)) [(.d (.st [(.st [(.bool false),(.int .u64 0),(.int .u64 0)]),(.int .i64 0)])),(i6 9)] (Res.cell (c:=(.d (.st [(.st [(.bool false),(.int .u64 0),(.int .u64 0)]),(.int .i64 0)]))) (by rfl) (by rfl) tyS29 (by rfl) (by rfl) (by rfl) (Res.tmp (by rfl) (by rfl) Res.nil)) rfl
   ·have h:=ite_f hg7 h
    apply AWp.skip
    apply blkQ_n
    apply seqQ_n
    apply AWp.seq
    obtain⟨r8,hr8,h⟩:=bindS h
    refine rg (SQ (fa (cl [(900000,100200)] (xref01_Bytes_2_ac a0 r8 hr8)) tt)) ?_
    apply seqQ_n
    refine AWp.ghost (mp [] [(1,(i6 a1)),(4,(pt 1004)),(6,(.sref 100200 1 0 r8.length))] [(1004,bd 29 (.st [(.st [(.bool false),(.int .u64 0),(.int .u64 0)]),(.int .i64 0)])),(100200,some (.row 5 1 (r8.map (eI .u8))))] hB) ?_
    apply AWp.seq
    refine sr (SQ tt) ?_
    apply AWp.block
    obtain⟨p20,hx27,h⟩:=bindS h
    refine lg (xref02_Make_L0) (fun s9:Int×(List Int)=>([(1,(i6 a1)),(4,(pt 1004)),(6,(.sref 100200 1 0 s9.2.length)),(7,(i6 s9.1))]:EL)) (fun s9:Int×(List Int)=>([(1004,bd 29 (.st [(.st [(.bool false),(.int .u64 0),(.int .u64 0)]),(.int .i64 0)])),(100200,some (.row 5 1 (s9.2.map (eI .u8))))]:OL)) (fun(p20:((List Int))) e E' O'=>e = .exit 1∧Mat B E' O' ([(1,(i6 a1)),(4,(pt 1004)),(6,(.sref 100200 1 0 p20.length))]:EL) ([(1004,bd 29 (.st [(.st [(.bool false),(.int .u64 0),(.int .u64 0)]),(.int .i64 0)])),(100200,some (.row 5 1 (p20.map (eI .u8))))]:OL)) hx27 (mp [] _ _ hB) (fun s9 y h => ?_) (fun e E' O' hR => ?_)
    ·unfold xref02_Make_L0 at h
     apply AWp.seq
     refine sr (SQ tt) ?_
     apply AWp.cond rfl<;>intro hg21
     ·have h:=ite_t hg21 h
      apply AWp.skip
      apply seqQ_n
      apply AWp.seq
      apply AWp.block
      obtain⟨_,hx22,h⟩:=bindS h
      obtain⟨x23,hx23,h⟩:=bindS h
      obtain⟨_,hx24,h⟩:=bindS h
      obtain⟨_,hx25,h⟩:=bindS h
      refine rg (SQ (fa hx22 (fa hx23 (fa hx24 (fa hx25 (fa (sv (bitI .andNot .u8 x23 (shrI .u8 128 (IntKind.u64.wrap (Int.tmod s9.1 8))))) tt)))))) ?_
      apply blkQ_n
      apply seqQ_n
      refine rg (SQ tt) ?_
      obtain rfl:=oi h
      exact⟨rfl,(Mat.trans (mp [] [(1,(i6 a1)),(4,(pt 1004)),(6,(.sref 100200 1 0 s9.2.length)),(7,(i6 (w64 (s9.1+1))))] [(1004,bd 29 (.st [(.st [(.bool false),(.int .u64 0),(.int .u64 0)]),(.int .i64 0)])),(100200,some (.row 5 1 ((s9.2.set (w64 (Int.tdiv s9.1 8)).toNat (bitI .andNot .u8 x23 (shrI .u8 128 (IntKind.u64.wrap (Int.tmod s9.1 8))))).map (eI .u8))))] hB) (Mat.trans (Mat.lenP (Ts:=[(6,(.sref 100200 1 0 ((s9.2.set (w64 (Int.tdiv s9.1 8)).toNat (bitI .andNot .u8 x23 (shrI .u8 128 (IntKind.u64.wrap (Int.tmod s9.1 8))))).length)))]) (Bs:=[]) (TwT.cons (x:=(.sref 100200 1 0 s9.2.length)) (by rfl) (Tw.leaf ⟨_,_,_,_,_,rfl,rfl,(by first | rfl | (simp;done) | (simp;omega) | omega)⟩) TwT.nil) TwB.nil) (mp [] _ _ hB)))⟩
     ·have h:=ite_f hg21 h
      apply AWp.exit
      apply seqQ_e
      obtain rfl:=oi h
      exact⟨(fun hc=>by cases hc),rfl,(mp [] _ _ hB)⟩
    ·obtain⟨rfl,hmat⟩:=hR
     apply blkQ_hit
     apply seqQ_n
     refine AWp.ghost hmat ?_
     apply AWp.seq
     refine AWp.ghost (Mat.freezeP (n:=100200) (e:=5) (sz:=1) (es:=p20.map (eI .u8)) (Ts:=[(6,(.d (.list 1 (p20.map (eI .u8)))))]) (Bs:=[]) (by rfl) (TwT.cons (x:=(.sref 100200 1 0 p20.length)) (by rfl) (FrzL.all (by first | rfl | (simp;done) | (simp;omega) | omega)) TwT.nil) TwB.nil) ?_
     obtain⟨r28,hr28,h⟩:=bindS h
     refine rg (SQ (fa (cl [] (xref01_FromBytes_ac p20 r28 hr28)) tt)) ?_
     apply seqQ_n
     refine sr (SQ tt) ?_
     apply AWp.ret
     obtain rfl:=oi h
     exact rt (kp [(4,_),(5,_)] [(1004,some _)] hB rfl rfl (by rfl)) [(.d (.st [(e_aAddr r28.1),(.int .i64 a1)])),(i6 0)] (Res.cell (c:=(.d (.st [(e_aAddr r28.1),(.int .i64 a1)]))) (by rfl) (by rfl) tyS29 (by rfl) (by rfl) (by rfl) (Res.tmp (by rfl) (by rfl) Res.nil)) rfl
  ·rcases bft (decide (a1<0)) with hg29 | hg29
   ·have h:=ite_t hg29 h
    refine rg (SQ (fa hg29 tt)) ?_
    exact hjj6 _ h _ _ (mp [] _ _ hB)
   ·have h:=ite_f hg29 h
    obtain⟨r30,hr30,h⟩:=bindS h
    refine rg (SQ (fa hg29 (fa (cl [] (xref02_width_ac a0 r30 hr30)) tt))) ?_
    exact hjj6 _ h _ _ (mp [] _ _ hB)
def xref02_Valid (a0:aPrefix):Option (Bool) :=
 (xref02_Make a0.fAddr a0.fLen).bind fun r1 =>
 some ((r1.2==0)&&(((a0.fAddr.fV6==r1.1.fAddr.fV6)&&((a0.fAddr.fHi==r1.1.fAddr.fHi)&&((a0.fAddr.fLo==r1.1.fAddr.fLo)&&true)))&&((a0.fLen==r1.1.fLen)&&true)))
theorem xref02_Valid_ac (a0:aPrefix) (r:Bool) (h:xref02_Valid a0=some r):AC Tryz.prog 42 [(.d (e_aPrefix a0))] [] (.d (.bool r)) []:=by
 refine AC.of_code2 Tryz.func42 rfl rfl (Nat.le_of_ble_eq_true (by rfl)) fun B hB hN => ?_
 delta xref02_Valid at h
 refine sr (SQ tt) ?_
 obtain⟨r1,hr1,h⟩:=bindS h
 refine sr (SQ (fa (cl [] (xref02_Make_ac a0.fAddr a0.fLen r1 hr1)) tt)) ?_
 apply sr (c (mv hN (q 4)) rfl (c (eqlI (ltN hN rfl) (q 13) (ii 0)) rfl (c (mv hN (q 14)) rfl (c (oq hN 15 (lb hN 29 _ _ tyS29 (At.here _) (q 1)) (OptL.keep (by rfl) OptL.nil) (GuardV.plain _)) rfl (c (oq hN 15 (lb hN 29 _ _ tyS29 (At.here _) (q 3)) (OptL.keep (by rfl) OptL.nil) (GuardV.plain _)) rfl (c (oq hN 15 (OpJ.eqlD (h:=3) (FitE.st underlying29 rfl held29 (FitF.cons (x:=(e_aAddr a0.fAddr)) (y:=(e_aAddr r1.1.fAddr)) (by decide) rfl tyS27 ⟨rfl,rfl⟩ ⟨rfl,rfl⟩ (FitE.st underlying27 rfl held27 (FitF.cons (x:=(.bool a0.fAddr.fV6)) (y:=(.bool r1.1.fAddr.fV6)) (by decide) rfl tyS4 ⟨rfl,rfl⟩ ⟨rfl,rfl⟩ (FitE.bool (h:=0) a0.fAddr.fV6 r1.1.fAddr.fV6 underlying4) (FitF.cons (x:=(.int .u64 a0.fAddr.fHi)) (y:=(.int .u64 r1.1.fAddr.fHi)) (by decide) rfl tyS25 ⟨rfl,rfl⟩ ⟨rfl,rfl⟩ (FitE.int (h:=0) a0.fAddr.fHi r1.1.fAddr.fHi underlying25) (FitF.cons (x:=(.int .u64 a0.fAddr.fLo)) (y:=(.int .u64 r1.1.fAddr.fLo)) (by decide) rfl tyS25 ⟨rfl,rfl⟩ ⟨rfl,rfl⟩ (FitE.int (h:=0) a0.fAddr.fLo r1.1.fAddr.fLo underlying25) FitF.nil)))) (FitF.cons (x:=(.int .i64 a0.fLen)) (y:=(.int .i64 r1.1.fLen)) (by decide) rfl tyS3 ⟨rfl,rfl⟩ ⟨rfl,rfl⟩ (FitE.int (h:=1) a0.fLen r1.1.fLen underlying3) FitF.nil))) eqg29 ⟨rfl,rfl⟩ (by rfl) (ltN hN rfl) (q 16) (q 17)) (OptL.opt (OptL.opt OptL.nil)) (GuardV.plain _)) rfl (c (pickAnd rfl (ltN hN rfl) (q 15) (q 18)) rfl (c (assign (ltN hN rfl) (q 19)) rfl cn))))))))
 apply AWp.ret
 obtain rfl:=oi h
 exact rt (kp [(2,_)] [] hB rfl rfl (by rfl)) [(bo ((r1.2==0)&&(((a0.fAddr.fV6==r1.1.fAddr.fV6)&&((a0.fAddr.fHi==r1.1.fAddr.fHi)&&((a0.fAddr.fLo==r1.1.fAddr.fLo)&&true)))&&((a0.fLen==r1.1.fLen)&&true))))] (Res.tmp (by rfl) (by rfl) Res.nil) rfl
def xref15_Same_L1 (a1:(List aSegment)) (s2:Int) (x72:aSegment) (s80:Int):Option (((Unit)⊕(Unit))⊕(Int)) :=
 (if (decide (s80<(x72.fASNs.length:Int)))=true then
 (idx x72.fASNs s80).bind fun x94 =>
 (idx a1 s2).bind fun x95 =>
 (idx x95.fASNs s80).bind fun x96 =>
 (if (x96 != x94)=true then
 some (.inl (.inl ()))
 else
 some (.inr (w64 (s80+1))))
 else
 some (.inl (.inr ())))
def xref15_Same_L0 (a0:(List aSegment)) (a1:(List aSegment)) (s2:Int):Option (((Unit)⊕(Unit))⊕(Int)) :=
 (if (decide (s2<(a0.length:Int)))=true then
 (idx a0 s2).bind fun x72 =>
 jn (fun m77:Bool =>
 (if m77=true then
 some (.inl (.inl ()))
 else
 (loop (xref15_Same_L1 a1 s2 x72) 0).bind fun x98=>match x98 with
 | (.inl _) =>
  some (.inl (.inl ()))
 | (.inr _) =>
  some (.inr (w64 (s2+1))))) (fun j78 =>
 (idx a1 s2).bind fun x100 =>
 (if (x72.fSet != x100.fSet)=true then
 j78 true
 else
 (idx a1 s2).bind fun x102 =>
 j78 ((x72.fASNs.length:Int) != (x102.fASNs.length:Int))))
 else
 some (.inl (.inr ())))
def xref15_Same (a0:(List aSegment)) (a1:(List aSegment)):Option (Bool) :=
 (if ((a0.length:Int) != (a1.length:Int))=true then
 some false
 else
 (loop (xref15_Same_L0 a0 a1) 0).bind fun x103=>match x103 with
 | (.inl _) =>
  some false
 | (.inr _) =>
  some true)
theorem xref15_Same_ac (a0:(List aSegment)) (a1:(List aSegment)) (r:Bool) (h:xref15_Same a0 a1=some r):AC Tryz.prog 73 [(.d (.list 2 (a0.map e_aSegment))),(.d (.list 2 (a1.map e_aSegment)))] [] (.d (.bool r)) []:=by
 refine ac2 Tryz.func73 rfl rfl fun B hB hN L => ?_
 delta xref15_Same at h
 refine sr (SQ tt) ?_
 apply AWp.seq
 refine sr (SQ tt) ?_
 apply AWp.cond rfl<;>intro hg1
 ·have h:=ite_t hg1 h
  refine sr (SQ tt) ?_
  apply AWp.ret
  apply seqQ_r
  obtain rfl:=oi h
  exact rt (kp [(4,_)] [] hB rfl rfl (by rfl)) [(bo false)] (Res.tmp (by rfl) (by rfl) Res.nil) rfl
 ·have h:=ite_f hg1 h
  apply AWp.skip
  apply seqQ_n
  apply AWp.seq
  refine sr (SQ tt) ?_
  apply AWp.block
  obtain⟨x103,hx104,h⟩:=bindS h
  refine lg (xref15_Same_L0 a0 a1) (fun s2:Int=>([(1,(qe_aSegment_2 a1)),(14,(qe_aSegment_2 a0)),(15,(i6 (a0.length:Int))),(16,(i6 s2))]:EL)) (fun s2:Int=>([]:OL)) (fun(x:(Unit)⊕(Unit)) e E' O'=>match x with | (.inl _p)=>e = .ret∧Mat B E' O' ([(4,(bo false))]:EL) ([]:OL) | (.inr _p)=>e = .exit 0∧Mat B E' O' ([]:EL) ([]:OL)) hx104 (mp [] _ _ hB) (fun s2 y h => ?_) (fun e E' O' hR => ?_)
  ·unfold xref15_Same_L0 at h
   refine sr (SQ tt) ?_
   apply AWp.seq
   apply AWp.cond rfl<;>intro hg71
   ·have h:=ite_t hg71 h
    apply AWp.skip
    apply seqQ_n
    apply AWp.seq
    apply AWp.block
    obtain⟨x72,hx72,h⟩:=bindS h
    refine sr (SQ (fa hx72 tt)) ?_
    apply AWp.seq
    apply AWp.seq
    refine AWp.cut h (fun m77:Bool=>([(1,(qe_aSegment_2 a1)),(5,(i6 s2)),(6,(pt 1006)),(14,(qe_aSegment_2 a0)),(15,(i6 (a0.length:Int))),(16,(i6 s2)),(40,(bo m77))]:EL)) (fun m77:Bool=>([(1006,bd 66 (e_aSegment x72))]:OL)) (fun m77 h E' O' hmat => ?_) (fun j78 hjj78 h => ?_)
    ·apply seqQ_n
     refine AWp.ghost hmat ?_
     apply AWp.cond rfl<;>intro hg79
     ·have h:=ite_t hg79 h
      refine sr (SQ tt) ?_
      apply AWp.ret
      apply seqQ_r
      apply blkQ_r
      apply seqQ_r
      obtain rfl:=oi h
      exact⟨(fun hc=>by cases hc),rfl,(mp [] _ _ hB)⟩
     ·have h:=ite_f hg79 h
      apply AWp.skip
      apply seqQ_n
      refine sr (SQ tt) ?_
      apply AWp.block
      obtain⟨x98,hx99,h⟩:=bindS h
      refine lg (xref15_Same_L1 a1 s2 x72) (fun s80:Int=>([(1,(qe_aSegment_2 a1)),(5,(i6 s2)),(14,(qe_aSegment_2 a0)),(15,(i6 (a0.length:Int))),(16,(i6 s2)),(42,(qI_1 x72.fASNs)),(43,(i6 (x72.fASNs.length:Int))),(44,(i6 s80))]:EL)) (fun s80:Int=>([]:OL)) (fun(x:(Unit)⊕(Unit)) e E' O'=>match x with | (.inl _p)=>e = .ret∧Mat B E' O' ([(4,(bo false))]:EL) ([]:OL) | (.inr _p)=>e = .exit 2∧Mat B E' O' ([(1,(qe_aSegment_2 a1)),(14,(qe_aSegment_2 a0)),(15,(i6 (a0.length:Int))),(16,(i6 s2))]:EL) ([]:OL)) hx99 (mp [] _ _ hB) (fun s80 y h => ?_) (fun e E' O' hR => ?_)
      ·unfold xref15_Same_L1 at h
       refine sr (SQ tt) ?_
       apply AWp.seq
       apply AWp.cond rfl<;>intro hg93
       ·have h:=ite_t hg93 h
        apply AWp.skip
        apply seqQ_n
        apply AWp.seq
        apply AWp.block
        obtain⟨_,hx94,h⟩:=bindS h
        refine sr (SQ (fa hx94 tt)) ?_
        obtain⟨_,hx95,h⟩:=bindS h
        obtain⟨_,hx96,h⟩:=bindS h
        refine sr (SQ (fa hx95 (fa hx96 tt))) ?_
        apply AWp.cond rfl<;>intro hg97
        ·have h:=ite_t hg97 h
         refine sr (SQ tt) ?_
         apply AWp.ret
         apply blkQ_r
         apply seqQ_r
         obtain rfl:=oi h
         exact⟨(fun hc=>by cases hc),rfl,(mp [] _ _ hB)⟩
        ·have h:=ite_f hg97 h
         apply AWp.skip
         apply blkQ_n
         apply seqQ_n
         refine rg (SQ tt) ?_
         obtain rfl:=oi h
         exact⟨rfl,(mp [] _ _ hB)⟩
       ·have h:=ite_f hg93 h
        apply AWp.exit
        apply seqQ_e
        obtain rfl:=oi h
        exact⟨(fun hc=>by cases hc),rfl,(mp [] _ _ hB)⟩
      ·rcases x98 with _ | _
       ·obtain⟨rfl,hmat⟩:=hR
        apply blkQ_r
        apply blkQ_r
        apply seqQ_r
        obtain rfl:=oi h
        exact⟨(fun hc=>by cases hc),rfl,(Mat.trans hmat (mp [] _ _ hB))⟩
       ·obtain⟨rfl,hmat⟩:=hR
        apply blkQ_hit
        apply blkQ_n
        apply seqQ_n
        refine AWp.ghost hmat ?_
        refine rg (SQ tt) ?_
        obtain rfl:=oi h
        exact⟨rfl,(mp [] _ _ hB)⟩
    ·obtain⟨x100,hx100,h⟩:=bindS h
     rcases bft (x72.fSet != x100.fSet) with hg101 | hg101
     ·have h:=ite_t hg101 h
      refine drS (SQ (fa hx100 (fa hg101 tt))) ?_
      exact hjj78 _ h _ _ (mp [] _ _ hB)
     ·have h:=ite_f hg101 h
      obtain⟨_,hx102,h⟩:=bindS h
      refine drS (SQ (fa hx100 (fa hg101 (fa hx102 tt)))) ?_
      exact hjj78 _ h _ _ (mp [] _ _ hB)
   ·have h:=ite_f hg71 h
    apply AWp.exit
    apply seqQ_e
    obtain rfl:=oi h
    exact⟨(fun hc=>by cases hc),rfl,(mp [] _ _ hB)⟩
  ·rcases x103 with _ | _
   ·obtain⟨rfl,hmat⟩:=hR
    apply blkQ_r
    apply seqQ_r
    obtain rfl:=oi h
    exact rt (Mat.trans hmat (mp [] [(4,(bo false))] [] hB)) [(bo false)] (Res.tmp (by rfl) (by rfl) Res.nil) rfl
   ·obtain⟨rfl,hmat⟩:=hR
    apply blkQ_hit
    apply seqQ_n
    refine AWp.ghost hmat ?_
    refine sr (SQ tt) ?_
    apply AWp.ret
    obtain rfl:=oi h
    exact rt (kp [(4,_)] [] hB rfl rfl (by rfl)) [(bo true)] (Res.tmp (by rfl) (by rfl) Res.nil) rfl
def xref17_Same_L0 (a0:(List aCommunity)) (a1:(List aCommunity)) (s2:Int):Option (((Unit)⊕(Unit))⊕(Int)) :=
 (if (decide (s2<(a0.length:Int)))=true then
 (idx a0 s2).bind fun x14 =>
 (idx a1 s2).bind fun x15 =>
 (if (!((x15.fA==x14.fA)&&((x15.fB==x14.fB)&&true)))=true then
 some (.inl (.inl ()))
 else
 some (.inr (w64 (s2+1))))
 else
 some (.inl (.inr ())))
def xref17_Same (a0:(List aCommunity)) (a1:(List aCommunity)):Option (Bool) :=
 (if ((a0.length:Int) != (a1.length:Int))=true then
 some false
 else
 (loop (xref17_Same_L0 a0 a1) 0).bind fun x17=>match x17 with
 | (.inl _) =>
  some false
 | (.inr _) =>
  some true)
theorem xref17_Same_ac (a0:(List aCommunity)) (a1:(List aCommunity)) (r:Bool) (h:xref17_Same a0 a1=some r):AC Tryz.prog 74 [(.d (.list 2 (a0.map e_aCommunity))),(.d (.list 2 (a1.map e_aCommunity)))] [] (.d (.bool r)) []:=by
 refine ac2 Tryz.func74 rfl rfl fun B hB hN L => ?_
 delta xref17_Same at h
 refine sr (SQ tt) ?_
 apply AWp.seq
 refine sr (SQ tt) ?_
 apply AWp.cond rfl<;>intro hg1
 ·have h:=ite_t hg1 h
  refine sr (SQ tt) ?_
  apply AWp.ret
  apply seqQ_r
  obtain rfl:=oi h
  exact rt (kp [(4,_)] [] hB rfl rfl (by rfl)) [(bo false)] (Res.tmp (by rfl) (by rfl) Res.nil) rfl
 ·have h:=ite_f hg1 h
  apply AWp.skip
  apply seqQ_n
  apply AWp.seq
  refine sr (SQ tt) ?_
  apply AWp.block
  obtain⟨x17,hx18,h⟩:=bindS h
  refine lg (xref17_Same_L0 a0 a1) (fun s2:Int=>([(1,(qe_aCommunity_2 a1)),(12,(qe_aCommunity_2 a0)),(13,(i6 (a0.length:Int))),(14,(i6 s2))]:EL)) (fun s2:Int=>([]:OL)) (fun(x:(Unit)⊕(Unit)) e E' O'=>match x with | (.inl _p)=>e = .ret∧Mat B E' O' ([(4,(bo false))]:EL) ([]:OL) | (.inr _p)=>e = .exit 0∧Mat B E' O' ([]:EL) ([]:OL)) hx18 (mp [] _ _ hB) (fun s2 y h => ?_) (fun e E' O' hR => ?_)
  ·unfold xref17_Same_L0 at h
   refine sr (SQ tt) ?_
   apply AWp.seq
   apply AWp.cond rfl<;>intro hg13
   ·have h:=ite_t hg13 h
    apply AWp.skip
    apply seqQ_n
    apply AWp.seq
    apply AWp.block
    obtain⟨x14,hx14,h⟩:=bindS h
    refine sr (SQ (fa hx14 tt)) ?_
    obtain⟨x15,hx15,h⟩:=bindS h
    apply sd (c (mv hN (q 1)) rfl (c (mv hN (q 5)) rfl (c (indexD underlying31 tyS98 (idx_some hx15).1 (get_map e_aCommunity (idx_some hx15).2) (L rfl) (q 19) (q 20)) rfl (c (loadD tyS98 (by rfl) (by rfl) (L rfl) (q 21)) rfl (c (lb hN 98 _ _ tyS98 (At.here _) (q 6)) rfl (c (OpJ.neqD (h:=2) (FitE.st underlying98 rfl held98 (FitF.cons (x:=(.int .i64 x15.fA)) (y:=(.int .i64 x14.fA)) (by decide) rfl tyS3 ⟨rfl,rfl⟩ ⟨rfl,rfl⟩ (FitE.int (h:=0) x15.fA x14.fA underlying3) (FitF.cons (x:=(.int .i64 x15.fB)) (y:=(.int .i64 x14.fB)) (by decide) rfl tyS3 ⟨rfl,rfl⟩ ⟨rfl,rfl⟩ (FitE.int (h:=0) x15.fB x14.fB underlying3) FitF.nil))) eqg98 ⟨rfl,rfl⟩ (by rfl) (L rfl) (q 22) (q 23)) rfl cn)))))) (by kernel_rfl) (by kernel_rfl)
    apply AWp.cond rfl<;>intro hg16
    ·have h:=ite_t hg16 h
     refine sr (SQ tt) ?_
     apply AWp.ret
     apply blkQ_r
     apply seqQ_r
     obtain rfl:=oi h
     exact⟨(fun hc=>by cases hc),rfl,(mp [] _ _ hB)⟩
    ·have h:=ite_f hg16 h
     apply AWp.skip
     apply blkQ_n
     apply seqQ_n
     refine rg (SQ tt) ?_
     obtain rfl:=oi h
     exact⟨rfl,(mp [] _ _ hB)⟩
   ·have h:=ite_f hg13 h
    apply AWp.exit
    apply seqQ_e
    obtain rfl:=oi h
    exact⟨(fun hc=>by cases hc),rfl,(mp [] _ _ hB)⟩
  ·rcases x17 with _ | _
   ·obtain⟨rfl,hmat⟩:=hR
    apply blkQ_r
    apply seqQ_r
    obtain rfl:=oi h
    exact rt (Mat.trans hmat (mp [] [(4,(bo false))] [] hB)) [(bo false)] (Res.tmp (by rfl) (by rfl) Res.nil) rfl
   ·obtain⟨rfl,hmat⟩:=hR
    apply blkQ_hit
    apply seqQ_n
    refine AWp.ghost hmat ?_
    refine sr (SQ tt) ?_
    apply AWp.ret
    obtain rfl:=oi h
    exact rt (kp [(4,_)] [] hB rfl rfl (by rfl)) [(bo true)] (Res.tmp (by rfl) (by rfl) Res.nil) rfl
def xref17_SameLarge_L0 (a0:(List aLarge)) (a1:(List aLarge)) (s2:Int):Option (((Unit)⊕(Unit))⊕(Int)) :=
 (if (decide (s2<(a0.length:Int)))=true then
 (idx a0 s2).bind fun x14 =>
 (idx a1 s2).bind fun x15 =>
 (if (!((x15.fA==x14.fA)&&((x15.fB==x14.fB)&&((x15.fC==x14.fC)&&true))))=true then
 some (.inl (.inl ()))
 else
 some (.inr (w64 (s2+1))))
 else
 some (.inl (.inr ())))
def xref17_SameLarge (a0:(List aLarge)) (a1:(List aLarge)):Option (Bool) :=
 (if ((a0.length:Int) != (a1.length:Int))=true then
 some false
 else
 (loop (xref17_SameLarge_L0 a0 a1) 0).bind fun x17=>match x17 with
 | (.inl _) =>
  some false
 | (.inr _) =>
  some true)
theorem xref17_SameLarge_ac (a0:(List aLarge)) (a1:(List aLarge)) (r:Bool) (h:xref17_SameLarge a0 a1=some r):AC Tryz.prog 75 [(.d (.list 3 (a0.map e_aLarge))),(.d (.list 3 (a1.map e_aLarge)))] [] (.d (.bool r)) []:=by
 refine ac2 Tryz.func75 rfl rfl fun B hB hN L => ?_
 delta xref17_SameLarge at h
 refine sr (SQ tt) ?_
 apply AWp.seq
 refine sr (SQ tt) ?_
 apply AWp.cond rfl<;>intro hg1
 ·have h:=ite_t hg1 h
  refine sr (SQ tt) ?_
  apply AWp.ret
  apply seqQ_r
  obtain rfl:=oi h
  exact rt (kp [(4,_)] [] hB rfl rfl (by rfl)) [(bo false)] (Res.tmp (by rfl) (by rfl) Res.nil) rfl
 ·have h:=ite_f hg1 h
  apply AWp.skip
  apply seqQ_n
  apply AWp.seq
  refine sr (SQ tt) ?_
  apply AWp.block
  obtain⟨x17,hx18,h⟩:=bindS h
  refine lg (xref17_SameLarge_L0 a0 a1) (fun s2:Int=>([(1,(qe_aLarge_3 a1)),(12,(qe_aLarge_3 a0)),(13,(i6 (a0.length:Int))),(14,(i6 s2))]:EL)) (fun s2:Int=>([]:OL)) (fun(x:(Unit)⊕(Unit)) e E' O'=>match x with | (.inl _p)=>e = .ret∧Mat B E' O' ([(4,(bo false))]:EL) ([]:OL) | (.inr _p)=>e = .exit 0∧Mat B E' O' ([]:EL) ([]:OL)) hx18 (mp [] _ _ hB) (fun s2 y h => ?_) (fun e E' O' hR => ?_)
  ·unfold xref17_SameLarge_L0 at h
   refine sr (SQ tt) ?_
   apply AWp.seq
   apply AWp.cond rfl<;>intro hg13
   ·have h:=ite_t hg13 h
    apply AWp.skip
    apply seqQ_n
    apply AWp.seq
    apply AWp.block
    obtain⟨x14,hx14,h⟩:=bindS h
    refine sr (SQ (fa hx14 tt)) ?_
    obtain⟨x15,hx15,h⟩:=bindS h
    apply sd (c (mv hN (q 1)) rfl (c (mv hN (q 5)) rfl (c (indexD underlying32 tyS100 (idx_some hx15).1 (get_map e_aLarge (idx_some hx15).2) (L rfl) (q 19) (q 20)) rfl (c (loadD tyS100 (by rfl) (by rfl) (L rfl) (q 21)) rfl (c (lb hN 100 _ _ tyS100 (At.here _) (q 6)) rfl (c (OpJ.neqD (h:=2) (FitE.st underlying100 rfl held100 (FitF.cons (x:=(.int .i64 x15.fA)) (y:=(.int .i64 x14.fA)) (by decide) rfl tyS3 ⟨rfl,rfl⟩ ⟨rfl,rfl⟩ (FitE.int (h:=0) x15.fA x14.fA underlying3) (FitF.cons (x:=(.int .i64 x15.fB)) (y:=(.int .i64 x14.fB)) (by decide) rfl tyS3 ⟨rfl,rfl⟩ ⟨rfl,rfl⟩ (FitE.int (h:=0) x15.fB x14.fB underlying3) (FitF.cons (x:=(.int .i64 x15.fC)) (y:=(.int .i64 x14.fC)) (by decide) rfl tyS3 ⟨rfl,rfl⟩ ⟨rfl,rfl⟩ (FitE.int (h:=0) x15.fC x14.fC underlying3) FitF.nil)))) eqg100 ⟨rfl,rfl⟩ (by rfl) (L rfl) (q 22) (q 23)) rfl cn)))))) (by kernel_rfl) (by kernel_rfl)
    apply AWp.cond rfl<;>intro hg16
    ·have h:=ite_t hg16 h
     refine sr (SQ tt) ?_
     apply AWp.ret
     apply blkQ_r
     apply seqQ_r
     obtain rfl:=oi h
     exact⟨(fun hc=>by cases hc),rfl,(mp [] _ _ hB)⟩
    ·have h:=ite_f hg16 h
     apply AWp.skip
     apply blkQ_n
     apply seqQ_n
     refine rg (SQ tt) ?_
     obtain rfl:=oi h
     exact⟨rfl,(mp [] _ _ hB)⟩
   ·have h:=ite_f hg13 h
    apply AWp.exit
    apply seqQ_e
    obtain rfl:=oi h
    exact⟨(fun hc=>by cases hc),rfl,(mp [] _ _ hB)⟩
  ·rcases x17 with _ | _
   ·obtain⟨rfl,hmat⟩:=hR
    apply blkQ_r
    apply seqQ_r
    obtain rfl:=oi h
    exact rt (Mat.trans hmat (mp [] [(4,(bo false))] [] hB)) [(bo false)] (Res.tmp (by rfl) (by rfl) Res.nil) rfl
   ·obtain⟨rfl,hmat⟩:=hR
    apply blkQ_hit
    apply seqQ_n
    refine AWp.ghost hmat ?_
    refine sr (SQ tt) ?_
    apply AWp.ret
    obtain rfl:=oi h
    exact rt (kp [(4,_)] [] hB rfl rfl (by rfl)) [(bo true)] (Res.tmp (by rfl) (by rfl) Res.nil) rfl
def xref18_SameList_L0 (a0:(List aUnknown)) (a1:(List aUnknown)) (s2:Int):Option (((Unit)⊕(Unit))⊕(Int)) :=
 (if (decide (s2<(a0.length:Int)))=true then
 (idx a0 s2).bind fun x38 =>
 jn (fun m45:Bool =>
 (if m45=true then
 some (.inl (.inl ()))
 else
 some (.inr (w64 (s2+1))))) (fun j46 =>
 (idx a1 s2).bind fun x48 =>
 (if (x38.fFlags != x48.fFlags)=true then
 j46 true
 else
 (idx a1 s2).bind fun x50 =>
 (if (x38.fType != x50.fType)=true then
 j46 true
 else
 (idx a1 s2).bind fun x52 =>
 j46 ((bstr x38.fData) != (bstr x52.fData)))))
 else
 some (.inl (.inr ())))
def xref18_SameList (a0:(List aUnknown)) (a1:(List aUnknown)):Option (Bool) :=
 (if ((a0.length:Int) != (a1.length:Int))=true then
 some false
 else
 (loop (xref18_SameList_L0 a0 a1) 0).bind fun x53=>match x53 with
 | (.inl _) =>
  some false
 | (.inr _) =>
  some true)
theorem xref18_SameList_ac (a0:(List aUnknown)) (a1:(List aUnknown)) (r:Bool) (h:xref18_SameList a0 a1=some r):AC Tryz.prog 76 [(.d (.list 3 (a0.map e_aUnknown))),(.d (.list 3 (a1.map e_aUnknown)))] [] (.d (.bool r)) []:=by
 refine ac2 Tryz.func76 rfl rfl fun B hB hN L => ?_
 delta xref18_SameList at h
 refine sr (SQ tt) ?_
 apply AWp.seq
 refine sr (SQ tt) ?_
 apply AWp.cond rfl<;>intro hg1
 ·have h:=ite_t hg1 h
  refine sr (SQ tt) ?_
  apply AWp.ret
  apply seqQ_r
  obtain rfl:=oi h
  exact rt (kp [(4,_)] [] hB rfl rfl (by rfl)) [(bo false)] (Res.tmp (by rfl) (by rfl) Res.nil) rfl
 ·have h:=ite_f hg1 h
  apply AWp.skip
  apply seqQ_n
  apply AWp.seq
  refine sr (SQ tt) ?_
  apply AWp.block
  obtain⟨x53,hx54,h⟩:=bindS h
  refine lg (xref18_SameList_L0 a0 a1) (fun s2:Int=>([(1,(qe_aUnknown_3 a1)),(12,(qe_aUnknown_3 a0)),(13,(i6 (a0.length:Int))),(14,(i6 s2))]:EL)) (fun s2:Int=>([]:OL)) (fun(x:(Unit)⊕(Unit)) e E' O'=>match x with | (.inl _p)=>e = .ret∧Mat B E' O' ([(4,(bo false))]:EL) ([]:OL) | (.inr _p)=>e = .exit 0∧Mat B E' O' ([]:EL) ([]:OL)) hx54 (mp [] _ _ hB) (fun s2 y h => ?_) (fun e E' O' hR => ?_)
  ·unfold xref18_SameList_L0 at h
   refine sr (SQ tt) ?_
   apply AWp.seq
   apply AWp.cond rfl<;>intro hg37
   ·have h:=ite_t hg37 h
    apply AWp.skip
    apply seqQ_n
    apply AWp.seq
    apply AWp.block
    obtain⟨x38,hx38,h⟩:=bindS h
    refine sr (SQ (fa hx38 tt)) ?_
    apply AWp.seq
    refine AWp.cut h (fun m45:Bool=>([(1,(qe_aUnknown_3 a1)),(12,(qe_aUnknown_3 a0)),(13,(i6 (a0.length:Int))),(14,(i6 s2)),(48,(bo m45))]:EL)) (fun m45:Bool=>([]:OL)) (fun m45 h E' O' hmat => ?_) (fun j46 hjj46 h => ?_)
    ·apply seqQ_n
     refine AWp.ghost hmat ?_
     apply AWp.cond rfl<;>intro hg47
     ·have h:=ite_t hg47 h
      refine sr (SQ tt) ?_
      apply AWp.ret
      apply blkQ_r
      apply seqQ_r
      obtain rfl:=oi h
      exact⟨(fun hc=>by cases hc),rfl,(mp [] _ _ hB)⟩
     ·have h:=ite_f hg47 h
      apply AWp.skip
      apply blkQ_n
      apply seqQ_n
      refine rg (SQ tt) ?_
      obtain rfl:=oi h
      exact⟨rfl,(mp [] _ _ hB)⟩
    ·obtain⟨x48,hx48,h⟩:=bindS h
     rcases bft (x38.fFlags != x48.fFlags) with hg49 | hg49
     ·have h:=ite_t hg49 h
      refine drS (SQ (fa hx48 (fa hg49 tt))) ?_
      exact hjj46 _ h _ _ (mp [] _ _ hB)
     ·have h:=ite_f hg49 h
      obtain⟨x50,hx50,h⟩:=bindS h
      rcases bft (x38.fType != x50.fType) with hg51 | hg51
      ·have h:=ite_t hg51 h
       refine drS (SQ (fa hx48 (fa hg49 (fa hx50 (fa hg51 tt))))) ?_
       exact hjj46 _ h _ _ (mp [] _ _ hB)
      ·have h:=ite_f hg51 h
       obtain⟨x52,hx52,h⟩:=bindS h
       apply dr (c (fo 1006 0 [0] hN underlying69 0 tyS3 (q 6)) rfl (c (la hN 69 tyS3 (q 19)) rfl (c (mv hN (q 1)) rfl (c (mv hN (q 5)) rfl (c (indexD underlying33 tyS69 (idx_some hx48).1 (get_map e_aUnknown (idx_some hx48).2) (L rfl) (q 21) (q 22)) rfl (c (fieldD underlying69 (by rfl) (o:=0) (by rfl) tyS3 (by decide) (by rfl) (by rfl) (L rfl) (q 23)) rfl (c (loadD tyS3 (by rfl) (by rfl) (L rfl) (q 24)) rfl (c (neqI (L rfl) (q 20) (q 25)) rfl (c (OpJ.val (v':=.d (.bool false)) (by rw [hg49]<;>rfl) (mv hN (q 26))) rfl (c (gd 27 (fo 1006 1 [1] hN underlying69 1 tyS3 (q 6))) rfl (c (gd 27 (la hN 69 tyS3 (q 28))) rfl (c (gd 27 (mv hN (q 1))) rfl (c (gd 27 (mv hN (q 5))) rfl (c (gd 27 (indexD underlying33 tyS69 (idx_some hx50).1 (get_map e_aUnknown (idx_some hx50).2) (L rfl) (q 30) (q 31))) rfl (c (gd 27 (fieldD underlying69 (by rfl) (o:=1) (by rfl) tyS3 (by decide) (by rfl) (by rfl) (L rfl) (q 32))) rfl (c (gd 27 (loadD tyS3 (by rfl) (by rfl) (L rfl) (q 33))) rfl (c (gd 27 (neqI (L rfl) (q 29) (q 34))) rfl (c (pickF (L rfl) (q 27) (q 35)) rfl (c (OpJ.val (v':=.d (.bool false)) (by rw [hg51]<;>rfl) (mv hN (q 36))) rfl (c (gd 37 (fo 1006 2 [2] hN underlying69 2 tyS67 (q 6))) rfl (c (gd 37 (la hN 69 tyS67 (q 38))) rfl (cg (gd 37 (OpJ.bytesStr (xs:=x38.fData) tyU67 underlying5 underlying9 (L rfl) (q 39))) rfl (c (gd 37 (mv hN (q 1))) rfl (c (gd 37 (mv hN (q 5))) rfl (c (gd 37 (indexD underlying33 tyS69 (idx_some hx52).1 (get_map e_aUnknown (idx_some hx52).2) (L rfl) (q 41) (q 42))) rfl (c (gd 37 (fieldD underlying69 (by rfl) (o:=2) (by rfl) tyS67 (by decide) (by rfl) (by rfl) (L rfl) (q 43))) rfl (c (gd 37 (loadD tyS67 (by rfl) (by rfl) (L rfl) (q 44))) rfl (cg (gd 37 (OpJ.bytesStr (xs:=x52.fData) tyU67 underlying5 underlying9 (L rfl) (q 45))) rfl (cg (gd 37 (OpJ.neqS (L rfl) (q 40) (q 46))) rfl (c (pickF (L rfl) (q 37) (q 47)) rfl cn)))))))))))))))))))))))))))))) (by kernel_rfl) (by kernel_rfl)
       exact hjj46 _ h _ _ (mp [] _ _ hB)
   ·have h:=ite_f hg37 h
    apply AWp.exit
    apply seqQ_e
    obtain rfl:=oi h
    exact⟨(fun hc=>by cases hc),rfl,(mp [] _ _ hB)⟩
  ·rcases x53 with _ | _
   ·obtain⟨rfl,hmat⟩:=hR
    apply blkQ_r
    apply seqQ_r
    obtain rfl:=oi h
    exact rt (Mat.trans hmat (mp [] [(4,(bo false))] [] hB)) [(bo false)] (Res.tmp (by rfl) (by rfl) Res.nil) rfl
   ·obtain⟨rfl,hmat⟩:=hR
    apply blkQ_hit
    apply seqQ_n
    refine AWp.ghost hmat ?_
    refine sr (SQ tt) ?_
    apply AWp.ret
    obtain rfl:=oi h
    exact rt (kp [(4,_)] [] hB rfl rfl (by rfl)) [(bo true)] (Res.tmp (by rfl) (by rfl) Res.nil) rfl
def xref18_Same (a0:aAttrs) (a1:aAttrs):Option (Bool) :=
 jn (fun m9:Bool =>
 some m9) (fun j10 =>
 (if (a0.fOrigin==a1.fOrigin)=true then
 (xref15_Same a0.fPath a1.fPath).bind fun r12 =>
 (if ((((r12&&((a0.fNext.fV6==a1.fNext.fV6)&&((a0.fNext.fHi==a1.fNext.fHi)&&((a0.fNext.fLo==a1.fNext.fLo)&&true))))&&(a0.fMED==a1.fMED))&&(a0.fPref==a1.fPref))&&(a0.fOTC==a1.fOTC))=true then
 (xref17_Same a0.fCommunities a1.fCommunities).bind fun r14 =>
 (if r14=true then
 (xref17_SameLarge a0.fLarge a1.fLarge).bind fun r16 =>
 (if r16=true then
 (xref18_SameList a0.fOther a1.fOther).bind fun r18 =>
 j10 r18
 else
 j10 false)
 else
 j10 false)
 else
 j10 false)
 else
 j10 false))
theorem xref18_Same_ac (a0:aAttrs) (a1:aAttrs) (r:Bool) (h:xref18_Same a0 a1=some r):AC Tryz.prog 43 [(.d (e_aAttrs a0)),(.d (e_aAttrs a1))] [] (.d (.bool r)) []:=by
 refine ac2 Tryz.func43 rfl rfl fun B hB hN L => ?_
 delta xref18_Same at h
 refine sr (SQ tt) ?_
 apply AWp.seq
 refine AWp.cut h (fun m9:Bool=>([(4,(bo m9))]:EL)) (fun m9:Bool=>([]:OL)) (fun m9 h E' O' hmat => ?_) (fun j10 hjj10 h => ?_)
 ·apply seqQ_n
  refine AWp.ghost hmat ?_
  apply AWp.ret
  obtain rfl:=oi h
  exact rt (kp [(4,_)] [] hB rfl rfl (by rfl)) [(bo m9)] (Res.tmp (by rfl) (by rfl) Res.nil) rfl
 ·rcases bft (a0.fOrigin==a1.fOrigin) with hg11 | hg11
  ·have h:=ite_t hg11 h
   obtain⟨r12,hr12,h⟩:=bindS h
   rcases bft ((((r12&&((a0.fNext.fV6==a1.fNext.fV6)&&((a0.fNext.fHi==a1.fNext.fHi)&&((a0.fNext.fLo==a1.fNext.fLo)&&true))))&&(a0.fMED==a1.fMED))&&(a0.fPref==a1.fPref))&&(a0.fOTC==a1.fOTC)) with hg13 | hg13
   ·have h:=ite_t hg13 h
    obtain⟨r14,hr14,h⟩:=bindS h
    rcases bft r14 with hg15 | hg15
    ·have h:=ite_t hg15 h
     obtain⟨r16,hr16,h⟩:=bindS h
     rcases bft r16 with hg17 | hg17
     ·have h:=ite_t hg17 h
      obtain⟨r18,hr18,h⟩:=bindS h
      apply rg (c (fo 1002 0 [0] hN underlying35 0 tyS3 (q 2)) rfl (c (la hN 35 tyS3 (q 5)) rfl (c (fo 1003 0 [0] hN underlying35 0 tyS3 (q 3)) rfl (c (la hN 35 tyS3 (q 7)) rfl (c (eqlI (L rfl) (q 6) (q 8)) rfl (c (OpJ.val (v':=.d (.bool true)) (by rw [hg11]<;>rfl) (mv hN (q 9))) rfl (c (gd 10 (fo 1002 1 [1] hN underlying35 1 tyS30 (q 2))) rfl (c (gd 10 (la hN 35 tyS30 (q 11))) rfl (c (gd 10 (fo 1003 1 [1] hN underlying35 1 tyS30 (q 3))) rfl (c (gd 10 (la hN 35 tyS30 (q 13))) rfl (cg (gd 10 (cf hB fnOk73 (xref15_Same_ac a0.fPath a1.fPath r12 hr12) (L rfl) (OpdL.cons (q 12) (OpdL.cons (q 14) OpdL.nil)))) rfl (c (pickT (L rfl) (q 10) (q 15)) rfl (c (mv hN (q 16)) rfl (c (oq hN 17 (fo 1002 2 [2] hN underlying35 2 tyS27 (q 2)) (OptL.keep (by rfl) OptL.nil) (GuardV.plain _)) rfl (c (oq hN 17 (la hN 35 tyS27 (q 18)) (OptL.opt OptL.nil) (GuardV.plain _)) rfl (c (oq hN 17 (fo 1003 2 [2] hN underlying35 2 tyS27 (q 3)) (OptL.keep (by rfl) OptL.nil) (GuardV.plain _)) rfl (c (oq hN 17 (la hN 35 tyS27 (q 20)) (OptL.opt OptL.nil) (GuardV.plain _)) rfl (c (oq hN 17 (OpJ.eqlD (h:=2) (FitE.st underlying27 rfl held27 (FitF.cons (x:=(.bool a0.fNext.fV6)) (y:=(.bool a1.fNext.fV6)) (by decide) rfl tyS4 ⟨rfl,rfl⟩ ⟨rfl,rfl⟩ (FitE.bool (h:=0) a0.fNext.fV6 a1.fNext.fV6 underlying4) (FitF.cons (x:=(.int .u64 a0.fNext.fHi)) (y:=(.int .u64 a1.fNext.fHi)) (by decide) rfl tyS25 ⟨rfl,rfl⟩ ⟨rfl,rfl⟩ (FitE.int (h:=0) a0.fNext.fHi a1.fNext.fHi underlying25) (FitF.cons (x:=(.int .u64 a0.fNext.fLo)) (y:=(.int .u64 a1.fNext.fLo)) (by decide) rfl tyS25 ⟨rfl,rfl⟩ ⟨rfl,rfl⟩ (FitE.int (h:=0) a0.fNext.fLo a1.fNext.fLo underlying25) FitF.nil)))) eqg27 ⟨rfl,rfl⟩ (by rfl) (L rfl) (q 19) (q 21)) (OptL.opt (OptL.opt OptL.nil)) (GuardV.plain _)) rfl (c (pickAnd rfl (L rfl) (q 17) (q 22)) rfl (c (mv hN (q 23)) rfl (c (oq hN 24 (fo 1002 5 [3] hN underlying35 5 tyS3 (q 2)) (OptL.keep (by rfl) OptL.nil) (GuardV.plain _)) rfl (c (oq hN 24 (la hN 35 tyS3 (q 25)) (OptL.opt OptL.nil) (GuardV.plain _)) rfl (c (oq hN 24 (fo 1003 5 [3] hN underlying35 5 tyS3 (q 3)) (OptL.keep (by rfl) OptL.nil) (GuardV.plain _)) rfl (c (oq hN 24 (la hN 35 tyS3 (q 27)) (OptL.opt OptL.nil) (GuardV.plain _)) rfl (c (oq hN 24 (eqlI (L rfl) (q 26) (q 28)) (OptL.opt (OptL.opt OptL.nil)) (GuardV.plain _)) rfl (c (pickAnd rfl (L rfl) (q 24) (q 29)) rfl (c (mv hN (q 30)) rfl (c (oq hN 31 (fo 1002 6 [4] hN underlying35 6 tyS3 (q 2)) (OptL.keep (by rfl) OptL.nil) (GuardV.plain _)) rfl (c (oq hN 31 (la hN 35 tyS3 (q 32)) (OptL.opt OptL.nil) (GuardV.plain _)) rfl (c (oq hN 31 (fo 1003 6 [4] hN underlying35 6 tyS3 (q 3)) (OptL.keep (by rfl) OptL.nil) (GuardV.plain _)) rfl (c (oq hN 31 (la hN 35 tyS3 (q 34)) (OptL.opt OptL.nil) (GuardV.plain _)) rfl (c (oq hN 31 (eqlI (L rfl) (q 33) (q 35)) (OptL.opt (OptL.opt OptL.nil)) (GuardV.plain _)) rfl (c (pickAnd rfl (L rfl) (q 31) (q 36)) rfl (c (mv hN (q 37)) rfl (c (oq hN 38 (fo 1002 7 [5] hN underlying35 7 tyS3 (q 2)) (OptL.keep (by rfl) OptL.nil) (GuardV.plain _)) rfl (c (oq hN 38 (la hN 35 tyS3 (q 39)) (OptL.opt OptL.nil) (GuardV.plain _)) rfl (c (oq hN 38 (fo 1003 7 [5] hN underlying35 7 tyS3 (q 3)) (OptL.keep (by rfl) OptL.nil) (GuardV.plain _)) rfl (c (oq hN 38 (la hN 35 tyS3 (q 41)) (OptL.opt OptL.nil) (GuardV.plain _)) rfl (c (oq hN 38 (eqlI (L rfl) (q 40) (q 42)) (OptL.opt (OptL.opt OptL.nil)) (GuardV.plain _)) rfl (c (pickAnd rfl (L rfl) (q 38) (q 43)) rfl (c (OpJ.val (v':=.d (.bool true)) (by rw [hg13]<;>rfl) (mv hN (q 44))) rfl (c (gd 45 (fo 1002 8 [6] hN underlying35 8 tyS31 (q 2))) rfl (c (gd 45 (la hN 35 tyS31 (q 46))) rfl (c (gd 45 (fo 1003 8 [6] hN underlying35 8 tyS31 (q 3))) rfl (c (gd 45 (la hN 35 tyS31 (q 48))) rfl (cg (gd 45 (cf hB fnOk74 (xref17_Same_ac a0.fCommunities a1.fCommunities r14 hr14) (L rfl) (OpdL.cons (q 47) (OpdL.cons (q 49) OpdL.nil)))) rfl (c (pickT (L rfl) (q 45) (q 50)) rfl (c (OpJ.val (v':=.d (.bool true)) (by rw [hg15]<;>rfl) (mv hN (q 51))) rfl (c (gd 52 (fo 1002 9 [7] hN underlying35 9 tyS32 (q 2))) rfl (c (gd 52 (la hN 35 tyS32 (q 53))) rfl (c (gd 52 (fo 1003 9 [7] hN underlying35 9 tyS32 (q 3))) rfl (c (gd 52 (la hN 35 tyS32 (q 55))) rfl (cg (gd 52 (cf hB fnOk75 (xref17_SameLarge_ac a0.fLarge a1.fLarge r16 hr16) (L rfl) (OpdL.cons (q 54) (OpdL.cons (q 56) OpdL.nil)))) rfl (c (pickT (L rfl) (q 52) (q 57)) rfl (c (OpJ.val (v':=.d (.bool true)) (by rw [hg17]<;>rfl) (mv hN (q 58))) rfl (c (gd 59 (fo 1002 10 [8] hN underlying35 10 tyS33 (q 2))) rfl (c (gd 59 (la hN 35 tyS33 (q 60))) rfl (c (gd 59 (fo 1003 10 [8] hN underlying35 10 tyS33 (q 3))) rfl (c (gd 59 (la hN 35 tyS33 (q 62))) rfl (cg (gd 59 (cf hB fnOk76 (xref18_SameList_ac a0.fOther a1.fOther r18 hr18) (L rfl) (OpdL.cons (q 61) (OpdL.cons (q 63) OpdL.nil)))) rfl (c (pickT (L rfl) (q 59) (q 64)) rfl (c (assign (L rfl) (q 65)) rfl cn))))))))))))))))))))))))))))))))))))))))))))))))))))))))))))))
      exact hjj10 _ h _ _ (mp [] _ _ hB)
     ·have h:=ite_f hg17 h
      apply rg (c (fo 1002 0 [0] hN underlying35 0 tyS3 (q 2)) rfl (c (la hN 35 tyS3 (q 5)) rfl (c (fo 1003 0 [0] hN underlying35 0 tyS3 (q 3)) rfl (c (la hN 35 tyS3 (q 7)) rfl (c (eqlI (L rfl) (q 6) (q 8)) rfl (c (OpJ.val (v':=.d (.bool true)) (by rw [hg11]<;>rfl) (mv hN (q 9))) rfl (c (gd 10 (fo 1002 1 [1] hN underlying35 1 tyS30 (q 2))) rfl (c (gd 10 (la hN 35 tyS30 (q 11))) rfl (c (gd 10 (fo 1003 1 [1] hN underlying35 1 tyS30 (q 3))) rfl (c (gd 10 (la hN 35 tyS30 (q 13))) rfl (cg (gd 10 (cf hB fnOk73 (xref15_Same_ac a0.fPath a1.fPath r12 hr12) (L rfl) (OpdL.cons (q 12) (OpdL.cons (q 14) OpdL.nil)))) rfl (c (pickT (L rfl) (q 10) (q 15)) rfl (c (mv hN (q 16)) rfl (c (oq hN 17 (fo 1002 2 [2] hN underlying35 2 tyS27 (q 2)) (OptL.keep (by rfl) OptL.nil) (GuardV.plain _)) rfl (c (oq hN 17 (la hN 35 tyS27 (q 18)) (OptL.opt OptL.nil) (GuardV.plain _)) rfl (c (oq hN 17 (fo 1003 2 [2] hN underlying35 2 tyS27 (q 3)) (OptL.keep (by rfl) OptL.nil) (GuardV.plain _)) rfl (c (oq hN 17 (la hN 35 tyS27 (q 20)) (OptL.opt OptL.nil) (GuardV.plain _)) rfl (c (oq hN 17 (OpJ.eqlD (h:=2) (FitE.st underlying27 rfl held27 (FitF.cons (x:=(.bool a0.fNext.fV6)) (y:=(.bool a1.fNext.fV6)) (by decide) rfl tyS4 ⟨rfl,rfl⟩ ⟨rfl,rfl⟩ (FitE.bool (h:=0) a0.fNext.fV6 a1.fNext.fV6 underlying4) (FitF.cons (x:=(.int .u64 a0.fNext.fHi)) (y:=(.int .u64 a1.fNext.fHi)) (by decide) rfl tyS25 ⟨rfl,rfl⟩ ⟨rfl,rfl⟩ (FitE.int (h:=0) a0.fNext.fHi a1.fNext.fHi underlying25) (FitF.cons (x:=(.int .u64 a0.fNext.fLo)) (y:=(.int .u64 a1.fNext.fLo)) (by decide) rfl tyS25 ⟨rfl,rfl⟩ ⟨rfl,rfl⟩ (FitE.int (h:=0) a0.fNext.fLo a1.fNext.fLo underlying25) FitF.nil)))) eqg27 ⟨rfl,rfl⟩ (by rfl) (L rfl) (q 19) (q 21)) (OptL.opt (OptL.opt OptL.nil)) (GuardV.plain _)) rfl (c (pickAnd rfl (L rfl) (q 17) (q 22)) rfl (c (mv hN (q 23)) rfl (c (oq hN 24 (fo 1002 5 [3] hN underlying35 5 tyS3 (q 2)) (OptL.keep (by rfl) OptL.nil) (GuardV.plain _)) rfl (c (oq hN 24 (la hN 35 tyS3 (q 25)) (OptL.opt OptL.nil) (GuardV.plain _)) rfl (c (oq hN 24 (fo 1003 5 [3] hN underlying35 5 tyS3 (q 3)) (OptL.keep (by rfl) OptL.nil) (GuardV.plain _)) rfl (c (oq hN 24 (la hN 35 tyS3 (q 27)) (OptL.opt OptL.nil) (GuardV.plain _)) rfl (c (oq hN 24 (eqlI (L rfl) (q 26) (q 28)) (OptL.opt (OptL.opt OptL.nil)) (GuardV.plain _)) rfl (c (pickAnd rfl (L rfl) (q 24) (q 29)) rfl (c (mv hN (q 30)) rfl (c (oq hN 31 (fo 1002 6 [4] hN underlying35 6 tyS3 (q 2)) (OptL.keep (by rfl) OptL.nil) (GuardV.plain _)) rfl (c (oq hN 31 (la hN 35 tyS3 (q 32)) (OptL.opt OptL.nil) (GuardV.plain _)) rfl (c (oq hN 31 (fo 1003 6 [4] hN underlying35 6 tyS3 (q 3)) (OptL.keep (by rfl) OptL.nil) (GuardV.plain _)) rfl (c (oq hN 31 (la hN 35 tyS3 (q 34)) (OptL.opt OptL.nil) (GuardV.plain _)) rfl (c (oq hN 31 (eqlI (L rfl) (q 33) (q 35)) (OptL.opt (OptL.opt OptL.nil)) (GuardV.plain _)) rfl (c (pickAnd rfl (L rfl) (q 31) (q 36)) rfl (c (mv hN (q 37)) rfl (c (oq hN 38 (fo 1002 7 [5] hN underlying35 7 tyS3 (q 2)) (OptL.keep (by rfl) OptL.nil) (GuardV.plain _)) rfl (c (oq hN 38 (la hN 35 tyS3 (q 39)) (OptL.opt OptL.nil) (GuardV.plain _)) rfl (c (oq hN 38 (fo 1003 7 [5] hN underlying35 7 tyS3 (q 3)) (OptL.keep (by rfl) OptL.nil) (GuardV.plain _)) rfl (c (oq hN 38 (la hN 35 tyS3 (q 41)) (OptL.opt OptL.nil) (GuardV.plain _)) rfl (c (oq hN 38 (eqlI (L rfl) (q 40) (q 42)) (OptL.opt (OptL.opt OptL.nil)) (GuardV.plain _)) rfl (c (pickAnd rfl (L rfl) (q 38) (q 43)) rfl (c (OpJ.val (v':=.d (.bool true)) (by rw [hg13]<;>rfl) (mv hN (q 44))) rfl (c (gd 45 (fo 1002 8 [6] hN underlying35 8 tyS31 (q 2))) rfl (c (gd 45 (la hN 35 tyS31 (q 46))) rfl (c (gd 45 (fo 1003 8 [6] hN underlying35 8 tyS31 (q 3))) rfl (c (gd 45 (la hN 35 tyS31 (q 48))) rfl (cg (gd 45 (cf hB fnOk74 (xref17_Same_ac a0.fCommunities a1.fCommunities r14 hr14) (L rfl) (OpdL.cons (q 47) (OpdL.cons (q 49) OpdL.nil)))) rfl (c (pickT (L rfl) (q 45) (q 50)) rfl (c (OpJ.val (v':=.d (.bool true)) (by rw [hg15]<;>rfl) (mv hN (q 51))) rfl (c (gd 52 (fo 1002 9 [7] hN underlying35 9 tyS32 (q 2))) rfl (c (gd 52 (la hN 35 tyS32 (q 53))) rfl (c (gd 52 (fo 1003 9 [7] hN underlying35 9 tyS32 (q 3))) rfl (c (gd 52 (la hN 35 tyS32 (q 55))) rfl (cg (gd 52 (cf hB fnOk75 (xref17_SameLarge_ac a0.fLarge a1.fLarge r16 hr16) (L rfl) (OpdL.cons (q 54) (OpdL.cons (q 56) OpdL.nil)))) rfl (c (pickT (L rfl) (q 52) (q 57)) rfl (c (OpJ.val (v':=.d (.bool false)) (by rw [hg17]<;>rfl) (mv hN (q 58))) rfl (ks 59 (L rfl) (ks 59 (L rfl) (ks 59 (L rfl) (ks 59 (L rfl) (ks 59 (L rfl) (c (pickF (L rfl) (q 59) (Opd.bool false)) rfl (c (assign (L rfl) (q 65)) rfl cn))))))))))))))))))))))))))))))))))))))))))))))))))))))))))))))
      exact hjj10 _ h _ _ (mp [] _ _ hB)
    ·have h:=ite_f hg15 h
     apply rg (c (fo 1002 0 [0] hN underlying35 0 tyS3 (q 2)) rfl (c (la hN 35 tyS3 (q 5)) rfl (c (fo 1003 0 [0] hN underlying35 0 tyS3 (q 3)) rfl (c (la hN 35 tyS3 (q 7)) rfl (c (eqlI (L rfl) (q 6) (q 8)) rfl (c (OpJ.val (v':=.d (.bool true)) (by rw [hg11]<;>rfl) (mv hN (q 9))) rfl (c (gd 10 (fo 1002 1 [1] hN underlying35 1 tyS30 (q 2))) rfl (c (gd 10 (la hN 35 tyS30 (q 11))) rfl (c (gd 10 (fo 1003 1 [1] hN underlying35 1 tyS30 (q 3))) rfl (c (gd 10 (la hN 35 tyS30 (q 13))) rfl (cg (gd 10 (cf hB fnOk73 (xref15_Same_ac a0.fPath a1.fPath r12 hr12) (L rfl) (OpdL.cons (q 12) (OpdL.cons (q 14) OpdL.nil)))) rfl (c (pickT (L rfl) (q 10) (q 15)) rfl (c (mv hN (q 16)) rfl (c (oq hN 17 (fo 1002 2 [2] hN underlying35 2 tyS27 (q 2)) (OptL.keep (by rfl) OptL.nil) (GuardV.plain _)) rfl (c (oq hN 17 (la hN 35 tyS27 (q 18)) (OptL.opt OptL.nil) (GuardV.plain _)) rfl (c (oq hN 17 (fo 1003 2 [2] hN underlying35 2 tyS27 (q 3)) (OptL.keep (by rfl) OptL.nil) (GuardV.plain _)) rfl (c (oq hN 17 (la hN 35 tyS27 (q 20)) (OptL.opt OptL.nil) (GuardV.plain _)) rfl (c (oq hN 17 (OpJ.eqlD (h:=2) (FitE.st underlying27 rfl held27 (FitF.cons (x:=(.bool a0.fNext.fV6)) (y:=(.bool a1.fNext.fV6)) (by decide) rfl tyS4 ⟨rfl,rfl⟩ ⟨rfl,rfl⟩ (FitE.bool (h:=0) a0.fNext.fV6 a1.fNext.fV6 underlying4) (FitF.cons (x:=(.int .u64 a0.fNext.fHi)) (y:=(.int .u64 a1.fNext.fHi)) (by decide) rfl tyS25 ⟨rfl,rfl⟩ ⟨rfl,rfl⟩ (FitE.int (h:=0) a0.fNext.fHi a1.fNext.fHi underlying25) (FitF.cons (x:=(.int .u64 a0.fNext.fLo)) (y:=(.int .u64 a1.fNext.fLo)) (by decide) rfl tyS25 ⟨rfl,rfl⟩ ⟨rfl,rfl⟩ (FitE.int (h:=0) a0.fNext.fLo a1.fNext.fLo underlying25) FitF.nil)))) eqg27 ⟨rfl,rfl⟩ (by rfl) (L rfl) (q 19) (q 21)) (OptL.opt (OptL.opt OptL.nil)) (GuardV.plain _)) rfl (c (pickAnd rfl (L rfl) (q 17) (q 22)) rfl (c (mv hN (q 23)) rfl (c (oq hN 24 (fo 1002 5 [3] hN underlying35 5 tyS3 (q 2)) (OptL.keep (by rfl) OptL.nil) (GuardV.plain _)) rfl (c (oq hN 24 (la hN 35 tyS3 (q 25)) (OptL.opt OptL.nil) (GuardV.plain _)) rfl (c (oq hN 24 (fo 1003 5 [3] hN underlying35 5 tyS3 (q 3)) (OptL.keep (by rfl) OptL.nil) (GuardV.plain _)) rfl (c (oq hN 24 (la hN 35 tyS3 (q 27)) (OptL.opt OptL.nil) (GuardV.plain _)) rfl (c (oq hN 24 (eqlI (L rfl) (q 26) (q 28)) (OptL.opt (OptL.opt OptL.nil)) (GuardV.plain _)) rfl (c (pickAnd rfl (L rfl) (q 24) (q 29)) rfl (c (mv hN (q 30)) rfl (c (oq hN 31 (fo 1002 6 [4] hN underlying35 6 tyS3 (q 2)) (OptL.keep (by rfl) OptL.nil) (GuardV.plain _)) rfl (c (oq hN 31 (la hN 35 tyS3 (q 32)) (OptL.opt OptL.nil) (GuardV.plain _)) rfl (c (oq hN 31 (fo 1003 6 [4] hN underlying35 6 tyS3 (q 3)) (OptL.keep (by rfl) OptL.nil) (GuardV.plain _)) rfl (c (oq hN 31 (la hN 35 tyS3 (q 34)) (OptL.opt OptL.nil) (GuardV.plain _)) rfl (c (oq hN 31 (eqlI (L rfl) (q 33) (q 35)) (OptL.opt (OptL.opt OptL.nil)) (GuardV.plain _)) rfl (c (pickAnd rfl (L rfl) (q 31) (q 36)) rfl (c (mv hN (q 37)) rfl (c (oq hN 38 (fo 1002 7 [5] hN underlying35 7 tyS3 (q 2)) (OptL.keep (by rfl) OptL.nil) (GuardV.plain _)) rfl (c (oq hN 38 (la hN 35 tyS3 (q 39)) (OptL.opt OptL.nil) (GuardV.plain _)) rfl (c (oq hN 38 (fo 1003 7 [5] hN underlying35 7 tyS3 (q 3)) (OptL.keep (by rfl) OptL.nil) (GuardV.plain _)) rfl (c (oq hN 38 (la hN 35 tyS3 (q 41)) (OptL.opt OptL.nil) (GuardV.plain _)) rfl (c (oq hN 38 (eqlI (L rfl) (q 40) (q 42)) (OptL.opt (OptL.opt OptL.nil)) (GuardV.plain _)) rfl (c (pickAnd rfl (L rfl) (q 38) (q 43)) rfl (c (OpJ.val (v':=.d (.bool true)) (by rw [hg13]<;>rfl) (mv hN (q 44))) rfl (c (gd 45 (fo 1002 8 [6] hN underlying35 8 tyS31 (q 2))) rfl (c (gd 45 (la hN 35 tyS31 (q 46))) rfl (c (gd 45 (fo 1003 8 [6] hN underlying35 8 tyS31 (q 3))) rfl (c (gd 45 (la hN 35 tyS31 (q 48))) rfl (cg (gd 45 (cf hB fnOk74 (xref17_Same_ac a0.fCommunities a1.fCommunities r14 hr14) (L rfl) (OpdL.cons (q 47) (OpdL.cons (q 49) OpdL.nil)))) rfl (c (pickT (L rfl) (q 45) (q 50)) rfl (c (OpJ.val (v':=.d (.bool false)) (by rw [hg15]<;>rfl) (mv hN (q 51))) rfl (ks 52 (L rfl) (ks 52 (L rfl) (ks 52 (L rfl) (ks 52 (L rfl) (ks 52 (L rfl) (c (pickF (L rfl) (q 52) (Opd.bool false)) rfl (c (mv hN (q 58)) rfl (ks 59 (L rfl) (ks 59 (L rfl) (ks 59 (L rfl) (ks 59 (L rfl) (ks 59 (L rfl) (c (pickF (L rfl) (q 59) (Opd.bool false)) rfl (c (assign (L rfl) (q 65)) rfl cn))))))))))))))))))))))))))))))))))))))))))))))))))))))))))))))
     exact hjj10 _ h _ _ (mp [] _ _ hB)
   ·have h:=ite_f hg13 h
    apply rg (c (fo 1002 0 [0] hN underlying35 0 tyS3 (q 2)) rfl (c (la hN 35 tyS3 (q 5)) rfl (c (fo 1003 0 [0] hN underlying35 0 tyS3 (q 3)) rfl (c (la hN 35 tyS3 (q 7)) rfl (c (eqlI (L rfl) (q 6) (q 8)) rfl (c (OpJ.val (v':=.d (.bool true)) (by rw [hg11]<;>rfl) (mv hN (q 9))) rfl (c (gd 10 (fo 1002 1 [1] hN underlying35 1 tyS30 (q 2))) rfl (c (gd 10 (la hN 35 tyS30 (q 11))) rfl (c (gd 10 (fo 1003 1 [1] hN underlying35 1 tyS30 (q 3))) rfl (c (gd 10 (la hN 35 tyS30 (q 13))) rfl (cg (gd 10 (cf hB fnOk73 (xref15_Same_ac a0.fPath a1.fPath r12 hr12) (L rfl) (OpdL.cons (q 12) (OpdL.cons (q 14) OpdL.nil)))) rfl (c (pickT (L rfl) (q 10) (q 15)) rfl (c (mv hN (q 16)) rfl (c (oq hN 17 (fo 1002 2 [2] hN underlying35 2 tyS27 (q 2)) (OptL.keep (by rfl) OptL.nil) (GuardV.plain _)) rfl (c (oq hN 17 (la hN 35 tyS27 (q 18)) (OptL.opt OptL.nil) (GuardV.plain _)) rfl (c (oq hN 17 (fo 1003 2 [2] hN underlying35 2 tyS27 (q 3)) (OptL.keep (by rfl) OptL.nil) (GuardV.plain _)) rfl (c (oq hN 17 (la hN 35 tyS27 (q 20)) (OptL.opt OptL.nil) (GuardV.plain _)) rfl (c (oq hN 17 (OpJ.eqlD (h:=2) (FitE.st underlying27 rfl held27 (FitF.cons (x:=(.bool a0.fNext.fV6)) (y:=(.bool a1.fNext.fV6)) (by decide) rfl tyS4 ⟨rfl,rfl⟩ ⟨rfl,rfl⟩ (FitE.bool (h:=0) a0.fNext.fV6 a1.fNext.fV6 underlying4) (FitF.cons (x:=(.int .u64 a0.fNext.fHi)) (y:=(.int .u64 a1.fNext.fHi)) (by decide) rfl tyS25 ⟨rfl,rfl⟩ ⟨rfl,rfl⟩ (FitE.int (h:=0) a0.fNext.fHi a1.fNext.fHi underlying25) (FitF.cons (x:=(.int .u64 a0.fNext.fLo)) (y:=(.int .u64 a1.fNext.fLo)) (by decide) rfl tyS25 ⟨rfl,rfl⟩ ⟨rfl,rfl⟩ (FitE.int (h:=0) a0.fNext.fLo a1.fNext.fLo underlying25) FitF.nil)))) eqg27 ⟨rfl,rfl⟩ (by rfl) (L rfl) (q 19) (q 21)) (OptL.opt (OptL.opt OptL.nil)) (GuardV.plain _)) rfl (c (pickAnd rfl (L rfl) (q 17) (q 22)) rfl (c (mv hN (q 23)) rfl (c (oq hN 24 (fo 1002 5 [3] hN underlying35 5 tyS3 (q 2)) (OptL.keep (by rfl) OptL.nil) (GuardV.plain _)) rfl (c (oq hN 24 (la hN 35 tyS3 (q 25)) (OptL.opt OptL.nil) (GuardV.plain _)) rfl (c (oq hN 24 (fo 1003 5 [3] hN underlying35 5 tyS3 (q 3)) (OptL.keep (by rfl) OptL.nil) (GuardV.plain _)) rfl (c (oq hN 24 (la hN 35 tyS3 (q 27)) (OptL.opt OptL.nil) (GuardV.plain _)) rfl (c (oq hN 24 (eqlI (L rfl) (q 26) (q 28)) (OptL.opt (OptL.opt OptL.nil)) (GuardV.plain _)) rfl (c (pickAnd rfl (L rfl) (q 24) (q 29)) rfl (c (mv hN (q 30)) rfl (c (oq hN 31 (fo 1002 6 [4] hN underlying35 6 tyS3 (q 2)) (OptL.keep (by rfl) OptL.nil) (GuardV.plain _)) rfl (c (oq hN 31 (la hN 35 tyS3 (q 32)) (OptL.opt OptL.nil) (GuardV.plain _)) rfl (c (oq hN 31 (fo 1003 6 [4] hN underlying35 6 tyS3 (q 3)) (OptL.keep (by rfl) OptL.nil) (GuardV.plain _)) rfl (c (oq hN 31 (la hN 35 tyS3 (q 34)) (OptL.opt OptL.nil) (GuardV.plain _)) rfl (c (oq hN 31 (eqlI (L rfl) (q 33) (q 35)) (OptL.opt (OptL.opt OptL.nil)) (GuardV.plain _)) rfl (c (pickAnd rfl (L rfl) (q 31) (q 36)) rfl (c (mv hN (q 37)) rfl (c (oq hN 38 (fo 1002 7 [5] hN underlying35 7 tyS3 (q 2)) (OptL.keep (by rfl) OptL.nil) (GuardV.plain _)) rfl (c (oq hN 38 (la hN 35 tyS3 (q 39)) (OptL.opt OptL.nil) (GuardV.plain _)) rfl (c (oq hN 38 (fo 1003 7 [5] hN underlying35 7 tyS3 (q 3)) (OptL.keep (by rfl) OptL.nil) (GuardV.plain _)) rfl (c (oq hN 38 (la hN 35 tyS3 (q 41)) (OptL.opt OptL.nil) (GuardV.plain _)) rfl (c (oq hN 38 (eqlI (L rfl) (q 40) (q 42)) (OptL.opt (OptL.opt OptL.nil)) (GuardV.plain _)) rfl (c (pickAnd rfl (L rfl) (q 38) (q 43)) rfl (c (OpJ.val (v':=.d (.bool false)) (by rw [hg13]<;>rfl) (mv hN (q 44))) rfl (ks 45 (L rfl) (ks 45 (L rfl) (ks 45 (L rfl) (ks 45 (L rfl) (ks 45 (L rfl) (c (pickF (L rfl) (q 45) (Opd.bool false)) rfl (c (mv hN (q 51)) rfl (ks 52 (L rfl) (ks 52 (L rfl) (ks 52 (L rfl) (ks 52 (L rfl) (ks 52 (L rfl) (c (pickF (L rfl) (q 52) (Opd.bool false)) rfl (c (mv hN (q 58)) rfl (ks 59 (L rfl) (ks 59 (L rfl) (ks 59 (L rfl) (ks 59 (L rfl) (ks 59 (L rfl) (c (pickF (L rfl) (q 59) (Opd.bool false)) rfl (c (assign (L rfl) (q 65)) rfl cn))))))))))))))))))))))))))))))))))))))))))))))))))))))))))))))
    exact hjj10 _ h _ _ (mp [] _ _ hB)
  ·have h:=ite_f hg11 h
   refine rg (SQ (fa hg11 tt)) ?_
   exact hjj10 _ h _ _ (mp [] _ _ hB)
def xref18_flags (a0:Int):Option (Int) :=
 jn (fun m4:Bool =>
 (if m4=true then
 some 64
 else
 (if (a0==4)=true then
 some 128
 else
 jn (fun m10:Bool =>
 (if m10=true then
 some 192
 else
 some 0)) (fun j11 =>
 (if (a0==8)=true then
 j11 (a0==8)
 else
 (if (a0==32)=true then
 j11 (a0==32)
 else
 j11 (a0==35))))))) (fun j5 =>
 (if (a0==1)=true then
 j5 (a0==1)
 else
 (if (a0==2)=true then
 j5 (a0==2)
 else
 (if (a0==3)=true then
 j5 (a0==3)
 else
 j5 (a0==5)))))
theorem xref18_flags_ac (a0:Int) (r:Int) (h:xref18_flags a0=some r):AC Tryz.prog 101 [(.d (.int .i64 a0))] [] (.d (.int .i64 r)) []:=by
 refine ac2 Tryz.func101 rfl rfl fun B hB hN L => ?_
 delta xref18_flags at h
 refine sr (SQ tt) ?_
 apply AWp.seq
 refine sr (SQ tt) ?_
 apply AWp.block
 apply AWp.seq
 refine sr (SQ tt) ?_
 refine gh [(3,_),(4,_)] [] hB rfl rfl (by rfl) ?_
 refine AWp.cut h (fun m4:Bool=>([(3,(i6 a0)),(4,(bo m4))]:EL)) (fun m4:Bool=>([]:OL)) (fun m4 h E' O' hmat => ?_) (fun j5 hjj5 h => ?_)
 ·apply seqQ_n
  refine AWp.ghost hmat ?_
  apply AWp.cond rfl<;>intro hg6
  ·have h:=ite_t hg6 h
   refine sr (SQ tt) ?_
   apply AWp.ret
   apply blkQ_r
   apply seqQ_r
   obtain rfl:=oi h
   exact rt (kp [(2,_)] [] hB rfl rfl (by rfl)) [(i6 64)] (Res.tmp (by rfl) (by rfl) Res.nil) rfl
  ·have h:=ite_f hg6 h
   refine sr (SQ tt) ?_
   apply AWp.cond rfl<;>intro hg7
   ·have h:=ite_t hg7 h
    refine sr (SQ tt) ?_
    apply AWp.ret
    apply blkQ_r
    apply seqQ_r
    obtain rfl:=oi h
    exact rt (kp [(2,_)] [] hB rfl rfl (by rfl)) [(i6 128)] (Res.tmp (by rfl) (by rfl) Res.nil) rfl
   ·have h:=ite_f hg7 h
    apply AWp.seq
    refine sr (SQ tt) ?_
    refine gh [(3,_),(11,_)] [] hB rfl rfl (by rfl) ?_
    refine AWp.cut h (fun m10:Bool=>([(11,(bo m10))]:EL)) (fun m10:Bool=>([]:OL)) (fun m10 h E' O' hmat => ?_) (fun j11 hjj11 h => ?_)
    ·apply seqQ_n
     refine AWp.ghost hmat ?_
     apply AWp.cond rfl<;>intro hg12
     ·have h:=ite_t hg12 h
      refine sr (SQ tt) ?_
      apply AWp.ret
      apply blkQ_r
      apply seqQ_r
      obtain rfl:=oi h
      exact rt (kp [(2,_)] [] hB rfl rfl (by rfl)) [(i6 192)] (Res.tmp (by rfl) (by rfl) Res.nil) rfl
     ·have h:=ite_f hg12 h
      apply AWp.skip
      apply blkQ_n
      apply seqQ_n
      refine sr (SQ tt) ?_
      apply AWp.ret
      obtain rfl:=oi h
      exact rt (kp [(2,_)] [] hB rfl rfl (by rfl)) [(i6 0)] (Res.tmp (by rfl) (by rfl) Res.nil) rfl
    ·apply AWp.cond rfl<;>intro hg13
     ·have h:=ite_t hg13 h
      apply AWp.skip
      exact hjj11 _ h _ _ (mp [] _ _ hB)
     ·have h:=ite_f hg13 h
      refine sr (SQ tt) ?_
      apply AWp.cond rfl<;>intro hg14
      ·have h:=ite_t hg14 h
       apply AWp.skip
       exact hjj11 _ h _ _ (mp [] _ _ hB)
      ·have h:=ite_f hg14 h
       refine rg (SQ tt) ?_
       exact hjj11 _ h _ _ (mp [] _ _ hB)
 ·apply AWp.cond rfl<;>intro hg15
  ·have h:=ite_t hg15 h
   apply AWp.skip
   exact hjj5 _ h _ _ (mp [] _ _ hB)
  ·have h:=ite_f hg15 h
   refine sr (SQ tt) ?_
   apply AWp.cond rfl<;>intro hg16
   ·have h:=ite_t hg16 h
    apply AWp.skip
    exact hjj5 _ h _ _ (mp [] _ _ hB)
   ·have h:=ite_f hg16 h
    refine sr (SQ tt) ?_
    apply AWp.cond rfl<;>intro hg17
    ·have h:=ite_t hg17 h
     apply AWp.skip
     exact hjj5 _ h _ _ (mp [] _ _ hB)
    ·have h:=ite_f hg17 h
     refine rg (SQ tt) ?_
     exact hjj5 _ h _ _ (mp [] _ _ hB)
def xref18_unknown (a0:Int):Option (Bool) :=
 (xref18_flags a0).bind fun r1 =>
 some (((r1==0)&&(a0 != 14))&&(a0 != 15))
theorem xref18_unknown_ac (a0:Int) (r:Bool) (h:xref18_unknown a0=some r):AC Tryz.prog 77 [(.d (.int .i64 a0))] [] (.d (.bool r)) []:=by
 refine AC.of_code2 Tryz.func77 rfl rfl (Nat.le_of_ble_eq_true (by rfl)) fun B hB hN => ?_
 delta xref18_unknown at h
 refine sr (SQ tt) ?_
 obtain⟨r1,hr1,h⟩:=bindS h
 refine sr (SQ (fa (cl [] (xref18_flags_ac a0 r1 hr1)) tt)) ?_
 apply AWp.ret
 obtain rfl:=oi h
 exact rt (kp [(2,_)] [] hB rfl rfl (by rfl)) [(bo (((r1==0)&&(a0 != 14))&&(a0 != 15)))] (Res.tmp (by rfl) (by rfl) Res.nil) rfl
def xref15_Valid_L1 (x105:aSegment) (s112:Int):Option (((Unit)⊕(Unit))⊕(Int)) :=
 (if (decide (s112<(x105.fASNs.length:Int)))=true then
 (idx x105.fASNs s112).bind fun x138 =>
 jn (fun m142:Bool =>
 (if m142=true then
 some (.inl (.inl ()))
 else
 some (.inr (w64 (s112+1))))) (fun j143 =>
 (if ((decide (x138<1)) || (decide (4294967295<x138)))=true then
 j143 true
 else
 (if (x105.fSet&&(decide (0<s112)))=true then
 (idx x105.fASNs (w64 (s112-1))).bind fun x147 =>
 j143 (decide (x138≤x147))
 else
 j143 false)))
 else
 some (.inl (.inr ())))
def xref15_Valid_L0 (a0:(List aSegment)) (s1:Int×Int):Option (((Unit)⊕(Int))⊕(Int×Int)) :=
 (if (decide (s1.2<(a0.length:Int)))=true then
 (idx a0 s1.2).bind fun x105 =>
 jn (fun m109:Bool =>
 (if m109=true then
 some (.inl (.inl ()))
 else
 (loop (xref15_Valid_L1 x105) 0).bind fun x148=>match x148 with
 | (.inl _) =>
  some (.inl (.inl ()))
 | (.inr _) =>
  some (.inr ((w64 (s1.1+(x105.fASNs.length:Int))),(w64 (s1.2+1)))))) (fun j110 =>
 (if ((x105.fASNs.length:Int)==0)=true then
 j110 true
 else
 (if ((decide (0<s1.2))&&(!x105.fSet))=true then
 (idx a0 (w64 (s1.2-1))).bind fun x152 =>
 j110 (!x152.fSet)
 else
 j110 false)))
 else
 some (.inl (.inr s1.1)))
def xref15_Valid (a0:(List aSegment)):Option (Bool) :=
 (loop (xref15_Valid_L0 a0) (0,0)).bind fun x153=>match x153 with
 | (.inl _) =>
  some false
 | (.inr p103) =>
  some (decide (p103≤64))
theorem xref15_Valid_ac (a0:(List aSegment)) (r:Bool) (h:xref15_Valid a0=some r):AC Tryz.prog 71 [(.d (.list 2 (a0.map e_aSegment)))] [] (.d (.bool r)) []:=by
 refine ac2 Tryz.func71 rfl rfl fun B hB hN L => ?_
 delta xref15_Valid at h
 refine sr (SQ tt) ?_
 refine sr (SQ tt) ?_
 apply AWp.seq
 refine sr (SQ tt) ?_
 apply AWp.block
 obtain⟨x153,hx154,h⟩:=bindS h
 refine lg (xref15_Valid_L0 a0) (fun s1:Int×Int=>([(0,(qe_aSegment_2 a0)),(3,(i6 s1.1)),(8,(qe_aSegment_2 a0)),(9,(i6 (a0.length:Int))),(10,(i6 s1.2))]:EL)) (fun s1:Int×Int=>([]:OL)) (fun(x:(Unit)⊕(Int)) e E' O'=>match x with | (.inl _p)=>e = .ret∧Mat B E' O' ([(2,(bo false))]:EL) ([]:OL) | (.inr p103)=>e = .exit 0∧Mat B E' O' ([(3,(i6 p103))]:EL) ([]:OL)) hx154 (mp [] _ _ hB) (fun s1 y h => ?_) (fun e E' O' hR => ?_)
 ·unfold xref15_Valid_L0 at h
  refine sr (SQ tt) ?_
  apply AWp.seq
  apply AWp.cond rfl<;>intro hg104
  ·have h:=ite_t hg104 h
   apply AWp.skip
   apply seqQ_n
   apply AWp.seq
   apply AWp.block
   obtain⟨x105,hx105,h⟩:=bindS h
   refine sr (SQ (fa hx105 tt)) ?_
   apply AWp.seq
   apply AWp.seq
   refine AWp.cut h (fun m109:Bool=>([(0,(qe_aSegment_2 a0)),(3,(i6 s1.1)),(5,(pt 1005)),(8,(qe_aSegment_2 a0)),(9,(i6 (a0.length:Int))),(10,(i6 s1.2)),(36,(bo m109))]:EL)) (fun m109:Bool=>([(1005,bd 66 (e_aSegment x105))]:OL)) (fun m109 h E' O' hmat => ?_) (fun j110 hjj110 h => ?_)
   ·apply seqQ_n
    refine AWp.ghost hmat ?_
    apply AWp.cond rfl<;>intro hg111
    ·have h:=ite_t hg111 h
     refine sr (SQ tt) ?_
     apply AWp.ret
     apply seqQ_r
     apply blkQ_r
     apply seqQ_r
     obtain rfl:=oi h
     exact⟨(fun hc=>by cases hc),rfl,(mp [] _ _ hB)⟩
    ·have h:=ite_f hg111 h
     apply AWp.skip
     apply seqQ_n
     apply AWp.seq
     refine sr (SQ tt) ?_
     apply AWp.block
     obtain⟨x148,hx149,h⟩:=bindS h
     refine lg (xref15_Valid_L1 x105) (fun s112:Int=>([(0,(qe_aSegment_2 a0)),(3,(i6 s1.1)),(5,(pt 1005)),(8,(qe_aSegment_2 a0)),(9,(i6 (a0.length:Int))),(10,(i6 s1.2)),(38,(qI_1 x105.fASNs)),(39,(i6 (x105.fASNs.length:Int))),(40,(i6 s112))]:EL)) (fun s112:Int=>([(1005,bd 66 (e_aSegment x105))]:OL)) (fun(x:(Unit)⊕(Unit)) e E' O'=>match x with | (.inl _p)=>e = .ret∧Mat B E' O' ([(2,(bo false))]:EL) ([]:OL) | (.inr _p)=>e = .exit 2∧Mat B E' O' ([(0,(qe_aSegment_2 a0)),(3,(i6 s1.1)),(5,(pt 1005)),(8,(qe_aSegment_2 a0)),(9,(i6 (a0.length:Int))),(10,(i6 s1.2))]:EL) ([(1005,bd 66 (e_aSegment x105))]:OL)) hx149 (mp [] _ _ hB) (fun s112 y h => ?_) (fun e E' O' hR => ?_)
     ·unfold xref15_Valid_L1 at h
      refine sr (SQ tt) ?_
      apply AWp.seq
      apply AWp.cond rfl<;>intro hg137
      ·have h:=ite_t hg137 h
       apply AWp.skip
       apply seqQ_n
       apply AWp.seq
       apply AWp.block
       obtain⟨x138,hx138,h⟩:=bindS h
       refine sr (SQ (fa hx138 tt)) ?_
       apply AWp.seq
       refine AWp.cut h (fun m142:Bool=>([(0,(qe_aSegment_2 a0)),(3,(i6 s1.1)),(5,(pt 1005)),(8,(qe_aSegment_2 a0)),(9,(i6 (a0.length:Int))),(10,(i6 s1.2)),(38,(qI_1 x105.fASNs)),(39,(i6 (x105.fASNs.length:Int))),(40,(i6 s112)),(68,(bo m142))]:EL)) (fun m142:Bool=>([(1005,bd 66 (e_aSegment x105))]:OL)) (fun m142 h E' O' hmat => ?_) (fun j143 hjj143 h => ?_)
       ·apply seqQ_n
        refine AWp.ghost hmat ?_
        apply AWp.cond rfl<;>intro hg144
        ·have h:=ite_t hg144 h
         refine sr (SQ tt) ?_
         apply AWp.ret
         apply blkQ_r
         apply seqQ_r
         obtain rfl:=oi h
         exact⟨(fun hc=>by cases hc),rfl,(mp [] _ _ hB)⟩
        ·have h:=ite_f hg144 h
         apply AWp.skip
         apply blkQ_n
         apply seqQ_n
         refine rg (SQ tt) ?_
         obtain rfl:=oi h
         exact⟨rfl,(mp [] _ _ hB)⟩
       ·rcases bft ((decide (x138<1)) || (decide (4294967295<x138))) with hg145 | hg145
        ·have h:=ite_t hg145 h
         refine rg (SQ (fa hg145 tt)) ?_
         exact hjj143 _ h _ _ (mp [] _ _ hB)
        ·have h:=ite_f hg145 h
         rcases bft (x105.fSet&&(decide (0<s112))) with hg146 | hg146
         ·have h:=ite_t hg146 h
          obtain⟨_,hx147,h⟩:=bindS h
          refine rg (SQ (fa hg145 (fa hg146 (fa hx147 tt)))) ?_
          exact hjj143 _ h _ _ (mp [] _ _ hB)
         ·have h:=ite_f hg146 h
          refine rg (SQ (fa hg145 (fa hg146 tt))) ?_
          exact hjj143 _ h _ _ (mp [] _ _ hB)
      ·have h:=ite_f hg137 h
       apply AWp.exit
       apply seqQ_e
       obtain rfl:=oi h
       exact⟨(fun hc=>by cases hc),rfl,(mp [] _ _ hB)⟩
     ·rcases x148 with _ | _
      ·obtain⟨rfl,hmat⟩:=hR
       apply blkQ_r
       apply seqQ_r
       apply blkQ_r
       apply seqQ_r
       obtain rfl:=oi h
       exact⟨(fun hc=>by cases hc),rfl,(Mat.trans hmat (mp [] _ _ hB))⟩
      ·obtain⟨rfl,hmat⟩:=hR
       apply blkQ_hit
       apply seqQ_n
       refine AWp.ghost hmat ?_
       refine rg (SQ tt) ?_
       apply blkQ_n
       apply seqQ_n
       refine rg (SQ tt) ?_
       obtain rfl:=oi h
       exact⟨rfl,(mp [] _ _ hB)⟩
   ·rcases bft ((x105.fASNs.length:Int)==0) with hg150 | hg150
    ·have h:=ite_t hg150 h
     refine rg (SQ (fa hg150 tt)) ?_
     exact hjj110 _ h _ _ (mp [] _ _ hB)
    ·have h:=ite_f hg150 h
     rcases bft ((decide (0<s1.2))&&(!x105.fSet)) with hg151 | hg151
     ·have h:=ite_t hg151 h
      obtain⟨_,hx152,h⟩:=bindS h
      refine rg (SQ (fa hg150 (fa hg151 (fa hx152 tt)))) ?_
      exact hjj110 _ h _ _ (mp [] _ _ hB)
     ·have h:=ite_f hg151 h
      refine rg (SQ (fa hg150 (fa hg151 tt))) ?_
      exact hjj110 _ h _ _ (mp [] _ _ hB)
  ·have h:=ite_f hg104 h
   apply AWp.exit
   apply seqQ_e
   obtain rfl:=oi h
   exact⟨(fun hc=>by cases hc),rfl,(mp [] _ _ hB)⟩
 ·rcases x153 with _ | p103
  ·obtain⟨rfl,hmat⟩:=hR
   apply blkQ_r
   apply seqQ_r
   obtain rfl:=oi h
   exact rt (Mat.trans hmat (mp [] [(2,(bo false))] [] hB)) [(bo false)] (Res.tmp (by rfl) (by rfl) Res.nil) rfl
  ·obtain⟨rfl,hmat⟩:=hR
   apply blkQ_hit
   apply seqQ_n
   refine AWp.ghost hmat ?_
   refine sr (SQ tt) ?_
   apply AWp.ret
   obtain rfl:=oi h
   exact rt (kp [(2,_)] [] hB rfl rfl (by rfl)) [(bo (decide (p103≤64)))] (Res.tmp (by rfl) (by rfl) Res.nil) rfl
def xref17_right (a0:aCommunity):Option (Bool) :=
 some ((((decide (0≤a0.fA))&&(decide (a0.fA≤65535)))&&(decide (0≤a0.fB)))&&(decide (a0.fB≤65535)))
theorem xref17_right_ac (a0:aCommunity) (r:Bool) (h:xref17_right a0=some r):AC Tryz.prog 102 [(.d (e_aCommunity a0))] [] (.d (.bool r)) []:=by
 refine AC.of_code2 Tryz.func102 rfl rfl (Nat.le_of_ble_eq_true (by rfl)) fun B hB hN => ?_
 delta xref17_right at h
 refine sr (SQ tt) ?_
 refine sr (SQ tt) ?_
 apply AWp.ret
 obtain rfl:=oi h
 exact rt (kp [(2,_)] [] hB rfl rfl (by rfl)) [(bo ((((decide (0≤a0.fA))&&(decide (a0.fA≤65535)))&&(decide (0≤a0.fB)))&&(decide (a0.fB≤65535))))] (Res.tmp (by rfl) (by rfl) Res.nil) rfl
def xref17_less (a0:aCommunity) (a1:aCommunity):Option (Bool) :=
 jn (fun m2:Bool =>
 some m2) (fun j3 =>
 (if (decide (a0.fA<a1.fA))=true then
 j3 true
 else
 j3 ((a0.fA==a1.fA)&&(decide (a0.fB<a1.fB)))))
theorem xref17_less_ac (a0:aCommunity) (a1:aCommunity) (r:Bool) (h:xref17_less a0 a1=some r):AC Tryz.prog 103 [(.d (e_aCommunity a0)),(.d (e_aCommunity a1))] [] (.d (.bool r)) []:=by
 refine ac2 Tryz.func103 rfl rfl fun B hB hN L => ?_
 delta xref17_less at h
 refine sr (SQ tt) ?_
 apply AWp.seq
 refine AWp.cut h (fun m2:Bool=>([(4,(bo m2))]:EL)) (fun m2:Bool=>([]:OL)) (fun m2 h E' O' hmat => ?_) (fun j3 hjj3 h => ?_)
 ·apply seqQ_n
  refine AWp.ghost hmat ?_
  apply AWp.ret
  obtain rfl:=oi h
  exact rt (kp [(4,_)] [] hB rfl rfl (by rfl)) [(bo m2)] (Res.tmp (by rfl) (by rfl) Res.nil) rfl
 ·rcases bft (decide (a0.fA<a1.fA)) with hg4 | hg4
  ·have h:=ite_t hg4 h
   refine rg (SQ (fa hg4 tt)) ?_
   exact hjj3 _ h _ _ (mp [] _ _ hB)
  ·have h:=ite_f hg4 h
   refine rg (SQ (fa hg4 tt)) ?_
   exact hjj3 _ h _ _ (mp [] _ _ hB)
def xref17_Valid_L0 (a0:(List aCommunity)) (s1:Int):Option (((Unit)⊕(Unit))⊕(Int)) :=
 (if (decide (s1<(a0.length:Int)))=true then
 (idx a0 s1).bind fun x37 =>
 jn (fun m44:Bool =>
 (if m44=true then
 some (.inl (.inl ()))
 else
 some (.inr (w64 (s1+1))))) (fun j45 =>
 (xref17_right x37).bind fun r47 =>
 (if (!r47)=true then
 j45 true
 else
 (if (decide (0<s1))=true then
 (idx a0 (w64 (s1-1))).bind fun x50 =>
 (xref17_less x50 x37).bind fun r51 =>
 j45 (!r51)
 else
 j45 false)))
 else
 some (.inl (.inr ())))
def xref17_Valid (a0:(List aCommunity)):Option (Bool) :=
 (loop (xref17_Valid_L0 a0) 0).bind fun x52=>match x52 with
 | (.inl _) =>
  some false
 | (.inr _) =>
  some (decide ((a0.length:Int)≤64))
theorem xref17_Valid_ac (a0:(List aCommunity)) (r:Bool) (h:xref17_Valid a0=some r):AC Tryz.prog 79 [(.d (.list 2 (a0.map e_aCommunity)))] [] (.d (.bool r)) []:=by
 refine ac2 Tryz.func79 rfl rfl fun B hB hN L => ?_
 delta xref17_Valid at h
 refine sr (SQ tt) ?_
 apply AWp.seq
 refine sr (SQ tt) ?_
 apply AWp.block
 obtain⟨x52,hx53,h⟩:=bindS h
 refine lg (xref17_Valid_L0 a0) (fun s1:Int=>([(0,(qe_aCommunity_2 a0)),(5,(qe_aCommunity_2 a0)),(6,(i6 (a0.length:Int))),(7,(i6 s1))]:EL)) (fun s1:Int=>([]:OL)) (fun(x:(Unit)⊕(Unit)) e E' O'=>match x with | (.inl _p)=>e = .ret∧Mat B E' O' ([(2,(bo false))]:EL) ([]:OL) | (.inr _p)=>e = .exit 0∧Mat B E' O' ([(0,(qe_aCommunity_2 a0))]:EL) ([]:OL)) hx53 (mp [] _ _ hB) (fun s1 y h => ?_) (fun e E' O' hR => ?_)
 ·unfold xref17_Valid_L0 at h
  refine sr (SQ tt) ?_
  apply AWp.seq
  apply AWp.cond rfl<;>intro hg36
  ·have h:=ite_t hg36 h
   apply AWp.skip
   apply seqQ_n
   apply AWp.seq
   apply AWp.block
   obtain⟨x37,hx37,h⟩:=bindS h
   refine sr (SQ (fa hx37 tt)) ?_
   apply AWp.seq
   refine AWp.cut h (fun m44:Bool=>([(0,(qe_aCommunity_2 a0)),(5,(qe_aCommunity_2 a0)),(6,(i6 (a0.length:Int))),(7,(i6 s1)),(28,(bo m44))]:EL)) (fun m44:Bool=>([]:OL)) (fun m44 h E' O' hmat => ?_) (fun j45 hjj45 h => ?_)
   ·apply seqQ_n
    refine AWp.ghost hmat ?_
    apply AWp.cond rfl<;>intro hg46
    ·have h:=ite_t hg46 h
     refine sr (SQ tt) ?_
     apply AWp.ret
     apply blkQ_r
     apply seqQ_r
     obtain rfl:=oi h
     exact⟨(fun hc=>by cases hc),rfl,(mp [] _ _ hB)⟩
    ·have h:=ite_f hg46 h
     apply AWp.skip
     apply blkQ_n
     apply seqQ_n
     refine rg (SQ tt) ?_
     obtain rfl:=oi h
     exact⟨rfl,(mp [] _ _ hB)⟩
   ·obtain⟨r47,hr47,h⟩:=bindS h
    rcases bft (!r47) with hg48 | hg48
    ·have h:=ite_t hg48 h
     refine drS (SQ (fa (cl [] (xref17_right_ac x37 r47 hr47)) (fa hg48 tt))) ?_
     exact hjj45 _ h _ _ (mp [] _ _ hB)
    ·have h:=ite_f hg48 h
     rcases bft (decide (0<s1)) with hg49 | hg49
     ·have h:=ite_t hg49 h
      obtain⟨x50,hx50,h⟩:=bindS h
      obtain⟨r51,hr51,h⟩:=bindS h
      refine drS (SQ (fa (cl [] (xref17_right_ac x37 r47 hr47)) (fa hg48 (fa hg49 (fa hx50 (fa (cl [] (xref17_less_ac x50 x37 r51 hr51)) tt)))))) ?_
      exact hjj45 _ h _ _ (mp [] _ _ hB)
     ·have h:=ite_f hg49 h
      refine drS (SQ (fa (cl [] (xref17_right_ac x37 r47 hr47)) (fa hg48 (fa hg49 tt)))) ?_
      exact hjj45 _ h _ _ (mp [] _ _ hB)
  ·have h:=ite_f hg36 h
   apply AWp.exit
   apply seqQ_e
   obtain rfl:=oi h
   exact⟨(fun hc=>by cases hc),rfl,(mp [] _ _ hB)⟩
 ·rcases x52 with _ | _
  ·obtain⟨rfl,hmat⟩:=hR
   apply blkQ_r
   apply seqQ_r
   obtain rfl:=oi h
   exact rt (Mat.trans hmat (mp [] [(2,(bo false))] [] hB)) [(bo false)] (Res.tmp (by rfl) (by rfl) Res.nil) rfl
  ·obtain⟨rfl,hmat⟩:=hR
   apply blkQ_hit
   apply seqQ_n
   refine AWp.ghost hmat ?_
   refine sr (SQ tt) ?_
   apply AWp.ret
   obtain rfl:=oi h
   exact rt (kp [(2,_)] [] hB rfl rfl (by rfl)) [(bo (decide ((a0.length:Int)≤64)))] (Res.tmp (by rfl) (by rfl) Res.nil) rfl
def xref17_rightLarge (a0:aLarge):Option (Bool) :=
 some ((((((decide (0≤a0.fA))&&(decide (a0.fA≤4294967295)))&&(decide (0≤a0.fB)))&&(decide (a0.fB≤4294967295)))&&(decide (0≤a0.fC)))&&(decide (a0.fC≤4294967295)))
theorem xref17_rightLarge_ac (a0:aLarge) (r:Bool) (h:xref17_rightLarge a0=some r):AC Tryz.prog 104 [(.d (e_aLarge a0))] [] (.d (.bool r)) []:=by
 refine ac2 Tryz.func104 rfl rfl fun B hB hN L => ?_
 delta xref17_rightLarge at h
 refine sr (SQ tt) ?_
 refine sr (SQ tt) ?_
 apply AWp.ret
 obtain rfl:=oi h
 exact rt (kp [(2,_)] [] hB rfl rfl (by rfl)) [(bo ((((((decide (0≤a0.fA))&&(decide (a0.fA≤4294967295)))&&(decide (0≤a0.fB)))&&(decide (a0.fB≤4294967295)))&&(decide (0≤a0.fC)))&&(decide (a0.fC≤4294967295))))] (Res.tmp (by rfl) (by rfl) Res.nil) rfl
def xref17_lessLarge (a0:aLarge) (a1:aLarge):Option (Bool) :=
 jn (fun m4:Bool =>
 some m4) (fun j5 =>
 (if (decide (a0.fA<a1.fA))=true then
 j5 true
 else
 (if (a0.fA==a1.fA)=true then
 (if (decide (a0.fB<a1.fB))=true then
 j5 true
 else
 j5 ((a0.fB==a1.fB)&&(decide (a0.fC<a1.fC))))
 else
 j5 false)))
theorem xref17_lessLarge_ac (a0:aLarge) (a1:aLarge) (r:Bool) (h:xref17_lessLarge a0 a1=some r):AC Tryz.prog 105 [(.d (e_aLarge a0)),(.d (e_aLarge a1))] [] (.d (.bool r)) []:=by
 refine ac2 Tryz.func105 rfl rfl fun B hB hN L => ?_
 delta xref17_lessLarge at h
 refine sr (SQ tt) ?_
 apply AWp.seq
 refine AWp.cut h (fun m4:Bool=>([(4,(bo m4))]:EL)) (fun m4:Bool=>([]:OL)) (fun m4 h E' O' hmat => ?_) (fun j5 hjj5 h => ?_)
 ·apply seqQ_n
  refine AWp.ghost hmat ?_
  apply AWp.ret
  obtain rfl:=oi h
  exact rt (kp [(4,_)] [] hB rfl rfl (by rfl)) [(bo m4)] (Res.tmp (by rfl) (by rfl) Res.nil) rfl
 ·rcases bft (decide (a0.fA<a1.fA)) with hg6 | hg6
  ·have h:=ite_t hg6 h
   refine rg (SQ (fa hg6 tt)) ?_
   exact hjj5 _ h _ _ (mp [] _ _ hB)
  ·have h:=ite_f hg6 h
   rcases bft (a0.fA==a1.fA) with hg7 | hg7
   ·have h:=ite_t hg7 h
    rcases bft (decide (a0.fB<a1.fB)) with hg8 | hg8
    ·have h:=ite_t hg8 h
     refine rg (SQ (fa hg6 (fa hg7 (fa hg8 tt)))) ?_
     exact hjj5 _ h _ _ (mp [] _ _ hB)
    ·have h:=ite_f hg8 h
     refine rg (SQ (fa hg6 (fa hg7 (fa hg8 tt)))) ?_
     exact hjj5 _ h _ _ (mp [] _ _ hB)
   ·have h:=ite_f hg7 h
    refine rg (SQ (fa hg6 (fa hg7 tt))) ?_
    exact hjj5 _ h _ _ (mp [] _ _ hB)
def xref17_ValidLarge_L0 (a0:(List aLarge)) (s1:Int):Option (((Unit)⊕(Unit))⊕(Int)) :=
 (if (decide (s1<(a0.length:Int)))=true then
 (idx a0 s1).bind fun x37 =>
 jn (fun m44:Bool =>
 (if m44=true then
 some (.inl (.inl ()))
 else
 some (.inr (w64 (s1+1))))) (fun j45 =>
 (xref17_rightLarge x37).bind fun r47 =>
 (if (!r47)=true then
 j45 true
 else
 (if (decide (0<s1))=true then
 (idx a0 (w64 (s1-1))).bind fun x50 =>
 (xref17_lessLarge x50 x37).bind fun r51 =>
 j45 (!r51)
 else
 j45 false)))
 else
 some (.inl (.inr ())))
def xref17_ValidLarge (a0:(List aLarge)):Option (Bool) :=
 (loop (xref17_ValidLarge_L0 a0) 0).bind fun x52=>match x52 with
 | (.inl _) =>
  some false
 | (.inr _) =>
  some (decide ((a0.length:Int)≤64))
theorem xref17_ValidLarge_ac (a0:(List aLarge)) (r:Bool) (h:xref17_ValidLarge a0=some r):AC Tryz.prog 80 [(.d (.list 3 (a0.map e_aLarge)))] [] (.d (.bool r)) []:=by
 refine ac2 Tryz.func80 rfl rfl fun B hB hN L => ?_
 delta xref17_ValidLarge at h
 refine sr (SQ tt) ?_
 apply AWp.seq
 refine sr (SQ tt) ?_
 apply AWp.block
 obtain⟨x52,hx53,h⟩:=bindS h
 refine lg (xref17_ValidLarge_L0 a0) (fun s1:Int=>([(0,(qe_aLarge_3 a0)),(5,(qe_aLarge_3 a0)),(6,(i6 (a0.length:Int))),(7,(i6 s1))]:EL)) (fun s1:Int=>([]:OL)) (fun(x:(Unit)⊕(Unit)) e E' O'=>match x with | (.inl _p)=>e = .ret∧Mat B E' O' ([(2,(bo false))]:EL) ([]:OL) | (.inr _p)=>e = .exit 0∧Mat B E' O' ([(0,(qe_aLarge_3 a0))]:EL) ([]:OL)) hx53 (mp [] _ _ hB) (fun s1 y h => ?_) (fun e E' O' hR => ?_)
 ·unfold xref17_ValidLarge_L0 at h
  refine sr (SQ tt) ?_
  apply AWp.seq
  apply AWp.cond rfl<;>intro hg36
  ·have h:=ite_t hg36 h
   apply AWp.skip
   apply seqQ_n
   apply AWp.seq
   apply AWp.block
   obtain⟨x37,hx37,h⟩:=bindS h
   refine sr (SQ (fa hx37 tt)) ?_
   apply AWp.seq
   refine AWp.cut h (fun m44:Bool=>([(0,(qe_aLarge_3 a0)),(5,(qe_aLarge_3 a0)),(6,(i6 (a0.length:Int))),(7,(i6 s1)),(28,(bo m44))]:EL)) (fun m44:Bool=>([]:OL)) (fun m44 h E' O' hmat => ?_) (fun j45 hjj45 h => ?_)
   ·apply seqQ_n
    refine AWp.ghost hmat ?_
    apply AWp.cond rfl<;>intro hg46
    ·have h:=ite_t hg46 h
     refine sr (SQ tt) ?_
     apply AWp.ret
     apply blkQ_r
     apply seqQ_r
     obtain rfl:=oi h
     exact⟨(fun hc=>by cases hc),rfl,(mp [] _ _ hB)⟩
    ·have h:=ite_f hg46 h
     apply AWp.skip
     apply blkQ_n
     apply seqQ_n
     refine rg (SQ tt) ?_
     obtain rfl:=oi h
     exact⟨rfl,(mp [] _ _ hB)⟩
   ·obtain⟨r47,hr47,h⟩:=bindS h
    rcases bft (!r47) with hg48 | hg48
    ·have h:=ite_t hg48 h
     refine drS (SQ (fa (cl [] (xref17_rightLarge_ac x37 r47 hr47)) (fa hg48 tt))) ?_
     exact hjj45 _ h _ _ (mp [] _ _ hB)
    ·have h:=ite_f hg48 h
     rcases bft (decide (0<s1)) with hg49 | hg49
     ·have h:=ite_t hg49 h
      obtain⟨x50,hx50,h⟩:=bindS h
      obtain⟨r51,hr51,h⟩:=bindS h
      refine drS (SQ (fa (cl [] (xref17_rightLarge_ac x37 r47 hr47)) (fa hg48 (fa hg49 (fa hx50 (fa (cl [] (xref17_lessLarge_ac x50 x37 r51 hr51)) tt)))))) ?_
      exact hjj45 _ h _ _ (mp [] _ _ hB)
     ·have h:=ite_f hg49 h
      refine drS (SQ (fa (cl [] (xref17_rightLarge_ac x37 r47 hr47)) (fa hg48 (fa hg49 tt)))) ?_
      exact hjj45 _ h _ _ (mp [] _ _ hB)
  ·have h:=ite_f hg36 h
   apply AWp.exit
   apply seqQ_e
   obtain rfl:=oi h
   exact⟨(fun hc=>by cases hc),rfl,(mp [] _ _ hB)⟩
 ·rcases x52 with _ | _
  ·obtain⟨rfl,hmat⟩:=hR
   apply blkQ_r
   apply seqQ_r
   obtain rfl:=oi h
   exact rt (Mat.trans hmat (mp [] [(2,(bo false))] [] hB)) [(bo false)] (Res.tmp (by rfl) (by rfl) Res.nil) rfl
  ·obtain⟨rfl,hmat⟩:=hR
   apply blkQ_hit
   apply seqQ_n
   refine AWp.ghost hmat ?_
   refine sr (SQ tt) ?_
   apply AWp.ret
   obtain rfl:=oi h
   exact rt (kp [(2,_)] [] hB rfl rfl (by rfl)) [(bo (decide ((a0.length:Int)≤64)))] (Res.tmp (by rfl) (by rfl) Res.nil) rfl
def xref18_Valid_L0 (a0:aAttrs) (s1:Int):Option (((Unit)⊕(Unit))⊕(Int)) :=
 (if (decide (s1<(a0.fOther.length:Int)))=true then
 (idx a0.fOther s1).bind fun x35 =>
 jn (fun m41:Bool =>
 (if m41=true then
 some (.inl (.inl ()))
 else
 some (.inr (w64 (s1+1))))) (fun j42 =>
 (if ((decide (x35.fType<1)) || (decide (255<x35.fType)))=true then
 j42 true
 else
 (xref18_unknown x35.fType).bind fun r45 =>
 (if (((!r45) || (x35.fFlags != 224)) || (decide (255<(x35.fData.length:Int))))=true then
 j42 true
 else
 (if (decide (0<s1))=true then
 (idx a0.fOther (w64 (s1-1))).bind fun x48 =>
 j42 (decide (x35.fType≤x48.fType))
 else
 j42 false))))
 else
 some (.inl (.inr ())))
def xref18_Valid (a0:aAttrs):Option (Bool) :=
 (loop (xref18_Valid_L0 a0) 0).bind fun x49=>match x49 with
 | (.inl _) =>
  some false
 | (.inr _) =>
  jn (fun m64:Bool =>
  some m64) (fun j65 =>
  (if ((decide ((-1)≤a0.fOrigin))&&(decide (a0.fOrigin≤2)))=true then
  (xref15_Valid a0.fPath).bind fun r67 =>
  (if r67=true then
  (xref01_Valid a0.fNext).bind fun r69 =>
  (if ((((r69&&(decide ((-1)≤a0.fMED)))&&(decide (a0.fMED≤4294967295)))&&(decide ((-1)≤a0.fPref)))&&(decide (a0.fPref≤4294967295)))=true then
  (if (a0.fOTC==(-1))=true then
  (xref17_Valid a0.fCommunities).bind fun r72 =>
  (if r72=true then
  (xref17_ValidLarge a0.fLarge).bind fun r74 =>
  j65 (r74&&(decide ((a0.fOther.length:Int)≤8)))
  else
  j65 false)
  else
  (if ((decide (1≤a0.fOTC))&&(decide (a0.fOTC≤4294967295)))=true then
  (xref17_Valid a0.fCommunities).bind fun r76 =>
  (if r76=true then
  (xref17_ValidLarge a0.fLarge).bind fun r78 =>
  j65 (r78&&(decide ((a0.fOther.length:Int)≤8)))
  else
  j65 false)
  else
  j65 false))
  else
  j65 false)
  else
  j65 false)
  else
  j65 false))
theorem xref18_Valid_ac (a0:aAttrs) (r:Bool) (h:xref18_Valid a0=some r):AC Tryz.prog 44 [(.d (e_aAttrs a0))] [] (.d (.bool r)) []:=by
 refine ac2 Tryz.func44 rfl rfl fun B hB hN L => ?_
 delta xref18_Valid at h
 refine sr (SQ tt) ?_
 apply AWp.seq
 refine sr (SQ tt) ?_
 apply AWp.block
 obtain⟨x49,hx50,h⟩:=bindS h
 refine lg (xref18_Valid_L0 a0) (fun s1:Int=>([(1,(pt 1001)),(6,(qe_aUnknown_3 a0.fOther)),(7,(i6 (a0.fOther.length:Int))),(8,(i6 s1))]:EL)) (fun s1:Int=>([(1001,bd 35 (e_aAttrs a0))]:OL)) (fun(x:(Unit)⊕(Unit)) e E' O'=>match x with | (.inl _p)=>e = .ret∧Mat B E' O' ([(2,(bo false))]:EL) ([]:OL) | (.inr _p)=>e = .exit 0∧Mat B E' O' ([(1,(pt 1001))]:EL) ([(1001,bd 35 (e_aAttrs a0))]:OL)) hx50 (mp [] _ _ hB) (fun s1 y h => ?_) (fun e E' O' hR => ?_)
 ·unfold xref18_Valid_L0 at h
  refine sr (SQ tt) ?_
  apply AWp.seq
  apply AWp.cond rfl<;>intro hg34
  ·have h:=ite_t hg34 h
   apply AWp.skip
   apply seqQ_n
   apply AWp.seq
   apply AWp.block
   obtain⟨x35,hx35,h⟩:=bindS h
   refine sr (SQ (fa hx35 tt)) ?_
   apply AWp.seq
   refine AWp.cut h (fun m41:Bool=>([(1,(pt 1001)),(6,(qe_aUnknown_3 a0.fOther)),(7,(i6 (a0.fOther.length:Int))),(8,(i6 s1)),(53,(bo m41))]:EL)) (fun m41:Bool=>([(1001,bd 35 (e_aAttrs a0))]:OL)) (fun m41 h E' O' hmat => ?_) (fun j42 hjj42 h => ?_)
   ·apply seqQ_n
    refine AWp.ghost hmat ?_
    apply AWp.cond rfl<;>intro hg43
    ·have h:=ite_t hg43 h
     refine sr (SQ tt) ?_
     apply AWp.ret
     apply blkQ_r
     apply seqQ_r
     obtain rfl:=oi h
     exact⟨(fun hc=>by cases hc),rfl,(mp [] _ _ hB)⟩
    ·have h:=ite_f hg43 h
     apply AWp.skip
     apply blkQ_n
     apply seqQ_n
     refine rg (SQ tt) ?_
     obtain rfl:=oi h
     exact⟨rfl,(mp [] _ _ hB)⟩
   ·rcases bft ((decide (x35.fType<1)) || (decide (255<x35.fType))) with hg44 | hg44
    ·have h:=ite_t hg44 h
     refine drS (SQ (fa hg44 tt)) ?_
     exact hjj42 _ h _ _ (mp [] _ _ hB)
    ·have h:=ite_f hg44 h
     obtain⟨r45,hr45,h⟩:=bindS h
     rcases bft (((!r45) || (x35.fFlags != 224)) || (decide (255<(x35.fData.length:Int)))) with hg46 | hg46
     ·have h:=ite_t hg46 h
      refine drS (SQ (fa hg44 (fa (cl [] (xref18_unknown_ac x35.fType r45 hr45)) (fa hg46 tt)))) ?_
      exact hjj42 _ h _ _ (mp [] _ _ hB)
     ·have h:=ite_f hg46 h
      rcases bft (decide (0<s1)) with hg47 | hg47
      ·have h:=ite_t hg47 h
       obtain⟨_,hx48,h⟩:=bindS h
       refine drS (SQ (fa hg44 (fa (cl [] (xref18_unknown_ac x35.fType r45 hr45)) (fa hg46 (fa hg47 (fa hx48 tt)))))) ?_
       exact hjj42 _ h _ _ (mp [] _ _ hB)
      ·have h:=ite_f hg47 h
       refine drS (SQ (fa hg44 (fa (cl [] (xref18_unknown_ac x35.fType r45 hr45)) (fa hg46 (fa hg47 tt))))) ?_
       exact hjj42 _ h _ _ (mp [] _ _ hB)
  ·have h:=ite_f hg34 h
   apply AWp.exit
   apply seqQ_e
   obtain rfl:=oi h
   exact⟨(fun hc=>by cases hc),rfl,(mp [] _ _ hB)⟩
 ·rcases x49 with _ | _
  ·obtain⟨rfl,hmat⟩:=hR
   apply blkQ_r
   apply seqQ_r
   obtain rfl:=oi h
   exact rt (Mat.trans hmat (mp [] [(2,(bo false))] [] hB)) [(bo false)] (Res.tmp (by rfl) (by rfl) Res.nil) rfl
  ·obtain⟨rfl,hmat⟩:=hR
   apply blkQ_hit
   apply seqQ_n
   refine AWp.ghost hmat ?_
   apply AWp.seq
   refine AWp.cut h (fun m64:Bool=>([(2,(bo m64))]:EL)) (fun m64:Bool=>([]:OL)) (fun m64 h E' O' hmat => ?_) (fun j65 hjj65 h => ?_)
   ·apply seqQ_n
    refine AWp.ghost hmat ?_
    apply AWp.ret
    obtain rfl:=oi h
    exact rt (kp [(2,_)] [] hB rfl rfl (by rfl)) [(bo m64)] (Res.tmp (by rfl) (by rfl) Res.nil) rfl
   ·rcases bft ((decide ((-1)≤a0.fOrigin))&&(decide (a0.fOrigin≤2))) with hg66 | hg66
    ·have h:=ite_t hg66 h
     obtain⟨r67,hr67,h⟩:=bindS h
     rcases bft r67 with hg68 | hg68
     ·have h:=ite_t hg68 h
      obtain⟨r69,hr69,h⟩:=bindS h
      rcases bft ((((r69&&(decide ((-1)≤a0.fMED)))&&(decide (a0.fMED≤4294967295)))&&(decide ((-1)≤a0.fPref)))&&(decide (a0.fPref≤4294967295))) with hg70 | hg70
      ·have h:=ite_t hg70 h
       rcases bft (a0.fOTC==(-1)) with hg71 | hg71
       ·have h:=ite_t hg71 h
        obtain⟨r72,hr72,h⟩:=bindS h
        rcases bft r72 with hg73 | hg73
        ·have h:=ite_t hg73 h
         obtain⟨r74,hr74,h⟩:=bindS h
         refine rg (SQ (fa hg66 (fa (cl [] (xref15_Valid_ac a0.fPath r67 hr67)) (fa hg68 (fa (cl [] (xref01_Valid_ac a0.fNext r69 hr69)) (fa hg70 (fa hg71 (fa (cl [] (xref17_Valid_ac a0.fCommunities r72 hr72)) (fa hg73 (fa (cl [] (xref17_ValidLarge_ac a0.fLarge r74 hr74)) tt)))))))))) ?_
         exact hjj65 _ h _ _ (mp [] _ _ hB)
        ·have h:=ite_f hg73 h
         refine rg (SQ (fa hg66 (fa (cl [] (xref15_Valid_ac a0.fPath r67 hr67)) (fa hg68 (fa (cl [] (xref01_Valid_ac a0.fNext r69 hr69)) (fa hg70 (fa hg71 (fa (cl [] (xref17_Valid_ac a0.fCommunities r72 hr72)) (fa hg73 tt))))))))) ?_
         exact hjj65 _ h _ _ (mp [] _ _ hB)
       ·have h:=ite_f hg71 h
        rcases bft ((decide (1≤a0.fOTC))&&(decide (a0.fOTC≤4294967295))) with hg75 | hg75
        ·have h:=ite_t hg75 h
         obtain⟨r76,hr76,h⟩:=bindS h
         rcases bft r76 with hg77 | hg77
         ·have h:=ite_t hg77 h
          obtain⟨r78,hr78,h⟩:=bindS h
          refine rg (SQ (fa hg66 (fa (cl [] (xref15_Valid_ac a0.fPath r67 hr67)) (fa hg68 (fa (cl [] (xref01_Valid_ac a0.fNext r69 hr69)) (fa hg70 (fa hg71 (fa hg75 (fa (cl [] (xref17_Valid_ac a0.fCommunities r76 hr76)) (fa hg77 (fa (cl [] (xref17_ValidLarge_ac a0.fLarge r78 hr78)) tt))))))))))) ?_
          exact hjj65 _ h _ _ (mp [] _ _ hB)
         ·have h:=ite_f hg77 h
          refine rg (SQ (fa hg66 (fa (cl [] (xref15_Valid_ac a0.fPath r67 hr67)) (fa hg68 (fa (cl [] (xref01_Valid_ac a0.fNext r69 hr69)) (fa hg70 (fa hg71 (fa hg75 (fa (cl [] (xref17_Valid_ac a0.fCommunities r76 hr76)) (fa hg77 tt)))))))))) ?_
          exact hjj65 _ h _ _ (mp [] _ _ hB)
        ·have h:=ite_f hg75 h
         refine rg (SQ (fa hg66 (fa (cl [] (xref15_Valid_ac a0.fPath r67 hr67)) (fa hg68 (fa (cl [] (xref01_Valid_ac a0.fNext r69 hr69)) (fa hg70 (fa hg71 (fa hg75 tt)))))))) ?_
         exact hjj65 _ h _ _ (mp [] _ _ hB)
      ·have h:=ite_f hg70 h
       refine rg (SQ (fa hg66 (fa (cl [] (xref15_Valid_ac a0.fPath r67 hr67)) (fa hg68 (fa (cl [] (xref01_Valid_ac a0.fNext r69 hr69)) (fa hg70 tt)))))) ?_
       exact hjj65 _ h _ _ (mp [] _ _ hB)
     ·have h:=ite_f hg68 h
      refine rg (SQ (fa hg66 (fa (cl [] (xref15_Valid_ac a0.fPath r67 hr67)) (fa hg68 tt)))) ?_
      exact hjj65 _ h _ _ (mp [] _ _ hB)
    ·have h:=ite_f hg66 h
     refine rg (SQ (fa hg66 tt)) ?_
     exact hjj65 _ h _ _ (mp [] _ _ hB)
def xref18_word_L0 (a0:Int) (s1:Int×(List Int)):Option ((((List Int)))⊕(Int×(List Int))) :=
 (if (decide (0≤s1.1))=true then
 chk (decide ((s1.2++([(IntKind.u8.wrap (shrI .i64 a0 (IntKind.u64.wrap (8*(IntKind.u64.wrap s1.1)))))]:List Int)).length≤LIM)) <|
 some (.inr ((w64 (s1.1-1)),(s1.2++([(IntKind.u8.wrap (shrI .i64 a0 (IntKind.u64.wrap (8*(IntKind.u64.wrap s1.1)))))]:List Int))))
 else
 some (.inl s1.2))
def xref18_word (a0:Int) (a1:Int):Option ((List Int)) :=
 (loop (xref18_word_L0 a0) ((w64 (a1-1)),([]:List Int))).bind fun p6 =>
 some p6
theorem xref18_word_ac (a0:Int) (a1:Int) (r:(List Int)) (h:xref18_word a0 a1=some r):AC Tryz.prog 106 [(.d (.int .i64 a0)),(.d (.int .i64 a1))] [] (.d (.list 1 (r.map (eI .u8)))) []:=by
 refine ac2 Tryz.func106 rfl rfl fun B hB hN L => ?_
 delta xref18_word at h
 refine sr (SQ tt) ?_
 refine sr (SQ tt) ?_
 apply AWp.seq
 refine sr (SQ tt) ?_
 apply AWp.block
 obtain⟨p6,hx10,h⟩:=bindS h
 refine lg (xref18_word_L0 a0) (fun s1:Int×(List Int)=>([(0,(i6 a0)),(5,(.sref 3005 1 0 s1.2.length)),(6,(i6 s1.1))]:EL)) (fun s1:Int×(List Int)=>([(3005,some (.row 5 1 (s1.2.map (eI .u8))))]:OL)) (fun(p6:((List Int))) e E' O'=>e = .exit 0∧Mat B E' O' ([(5,(.sref 3005 1 0 p6.length))]:EL) ([(3005,some (.row 5 1 (p6.map (eI .u8))))]:OL)) hx10 (Mat.trans (Mat.beginP (n:=3005) (e:=5) (sz:=1) (Ts:=[(5,(.sref 3005 1 0 0))]) (Bs:=[]) hB (by decide) (by rfl) (by decide) (TwT.cons (x:=.nils) (by rfl) (Tw.leaf ⟨rfl,rfl⟩) TwT.nil) TwB.nil) (mp [] _ _ hB)) (fun s1 y h => ?_) (fun e E' O' hR => ?_)
 ·unfold xref18_word_L0 at h
  apply AWp.seq
  refine sr (SQ tt) ?_
  apply AWp.cond rfl<;>intro hg7
  ·have h:=ite_t hg7 h
   apply AWp.skip
   apply seqQ_n
   apply AWp.seq
   apply AWp.block
   obtain⟨hc8,h⟩:=chk_some h
   refine rg (SQ (fa hc8 tt)) ?_
   apply blkQ_n
   apply seqQ_n
   refine rg (SQ tt) ?_
   obtain rfl:=oi h
   exact⟨rfl,(mp [(3005,1021)] _ _ hB)⟩
  ·have h:=ite_f hg7 h
   apply AWp.exit
   apply seqQ_e
   obtain rfl:=oi h
   exact⟨(fun hc=>by cases hc),rfl,(mp [] _ _ hB)⟩
 ·obtain⟨rfl,hmat⟩:=hR
  apply blkQ_hit
  apply seqQ_n
  refine AWp.ghost hmat ?_
  refine sr (SQ tt) ?_
  apply AWp.ret
  obtain rfl:=oi h
  exact rt (Mat.trans (Mat.freezeP (n:=3005) (e:=5) (sz:=1) (es:=p6.map (eI .u8)) (Ts:=[(4,(.d (.list 1 (p6.map (eI .u8)))))]) (Bs:=[]) (by rfl) (TwT.cons (x:=(.sref 3005 1 0 p6.length)) (by rfl) (FrzL.all (by first | rfl | (simp;done) | (simp;omega) | omega)) TwT.nil) TwB.nil) (mp [] [(4,(.d (.list 1 (p6.map (eI .u8)))))] [] hB)) [(.d (.list 1 (p6.map (eI .u8))))] (Res.tmp (by rfl) (by rfl) Res.nil) rfl
end
end Go.Proofs.YtkhjkjojjdkidaaGreatDoor
