/- Printed by gen.py: the Go functions as plain functions, and that the code does what they say. -/
import Derived.Test.YtkhjkjojjdkidaaGreatDoorChecked
import Derived.Test.YtkhjkjojjdkidaaGreatDoorVcYB
import Derived.Test.YtkhjkjojjdkidaaGreatDoorVcZ
import Derived.Test.YtkhjkjojjdkidaaGreatDoorVcGC
import Derived.KernelRfl
import Derived.Test.YtkhjkjojjdkidaaGreatDoorVcMD
import Derived.Test.YtkhjkjojjdkidaaGreatDoorVcMQ
import Derived.Test.YtkhjkjojjdkidaaGreatDoorVcSG
import Derived.Test.YtkhjkjojjdkidaaGreatDoorFnsA
import Derived.Test.YtkhjkjojjdkidaaGreatDoorExt
import Derived.Test.YtkhjkjojjdkidaaGreatDoorVcPm
import Derived.Test.YtkhjkjojjdkidaaGreatDoorVcRg
import Derived.Test.YtkhjkjojjdkidaaGreatDoorVcSt
import Derived.Test.YtkhjkjojjdkidaaGreatDoorVcMR
namespace Go.Proofs.YtkhjkjojjdkidaaGreatDoor
open Go Go.Vc
open Tryz
open Go.Vc.OpJ (assign alloc lss pickT pickF extract lenD indexD loadD eqlI gtr callVal leq geq loadR nilP indexS buildSlice lenS fieldD neqI pickAnd pickOr)
set_option maxHeartbeats 4000000
set_option maxRecDepth 100000
noncomputable section
def update_codes_L0 (a1:(List aPrefix)) (a2:Bool) (s1:Int×(List Int)):Option ((((List Int)))⊕(Int×(List Int))) :=
 (if (decide (s1.1<(a1.length:Int)))=true then
 (idx a1 s1.1).bind fun x32 =>
 jn (fun m38:(List Int) =>
 some (.inr ((w64 (s1.1+1)),m38))) (fun j39 =>
 (if (x32.fAddr.fV6==a2)=true then
 chk (decide ((s1.2++([(IntKind.u8.wrap x32.fLen)]:List Int)).length≤LIM)) <|
 (addr_Bytes x32.fAddr).bind fun r42 =>
 chk ((decide (0≤(w64 (Int.tdiv (w64 (x32.fLen+7)) 8)))&&decide (0≤(w64 (Int.tdiv (w64 (x32.fLen+7)) 8)).toNat)&&decide ((w64 (Int.tdiv (w64 (x32.fLen+7)) 8)).toNat≤r42.length))) <|
 chk (decide (((s1.2++([(IntKind.u8.wrap x32.fLen)]:List Int))++((r42.take ((w64 (Int.tdiv (w64 (x32.fLen+7)) 8)).toNat)).drop 0)).length≤LIM)) <|
 j39 ((s1.2++([(IntKind.u8.wrap x32.fLen)]:List Int))++((r42.take ((w64 (Int.tdiv (w64 (x32.fLen+7)) 8)).toNat)).drop 0))
 else
 j39 s1.2))
 else
 some (.inl s1.2))
def update_codes (a0:(List Int)) (a1:(List aPrefix)) (a2:Bool):Option ((List Int)) :=
 (loop (update_codes_L0 a1 a2) (0,a0)).bind fun p30 =>
 some p30
theorem update_codes_ac (a0:(List Int)) (a1:(List aPrefix)) (a2:Bool) (r:(List Int)) (h:update_codes a0 a1 a2=some r):AC Tryz.prog 114 [(.sref 0 1 0 a0.length),(.d (.list 4 (a1.map e_aPrefix))),(.d (.bool a2))] [(0,(.row 5 1 (a0.map (eI .u8))))] (.d (.list 1 (r.map (eI .u8)))) [(0,none)]:=by
 refine ac2 Tryz.func114 rfl rfl fun B hB hN L => ?_
 delta update_codes at h
 refine sr (SQ tt) ?_
 apply AWp.seq
 refine sr (SQ tt) ?_
 apply AWp.block
 obtain⟨p30,hx46,h⟩:=bindS h
 refine lg (update_codes_L0 a1 a2) (fun s1:Int×(List Int)=>([(0,(.sref 3000 1 0 s1.2.length)),(2,(bo a2)),(9,(qe_aPrefix_4 a1)),(10,(i6 (a1.length:Int))),(11,(i6 s1.1))]:EL)) (fun s1:Int×(List Int)=>([(3000,some (.row 5 1 (s1.2.map (eI .u8))))]:OL)) (fun(p30:((List Int))) e E' O'=>e = .exit 0∧Mat B E' O' ([(0,(.sref 3000 1 0 p30.length))]:EL) ([(3000,some (.row 5 1 (p30.map (eI .u8))))]:OL)) hx46 (mp [(3000,0)] _ _ hB) (fun s1 y h => ?_) (fun e E' O' hR => ?_)
 ·unfold update_codes_L0 at h
  refine sr (SQ tt) ?_
  apply AWp.seq
  apply AWp.cond rfl<;>intro hg31
  ·have h:=ite_t hg31 h
   apply AWp.skip
   apply seqQ_n
   apply AWp.seq
   apply AWp.block
   obtain⟨x32,hx32,h⟩:=bindS h
   refine sr (SQ (fa hx32 tt)) ?_
   refine sr (SQ tt) ?_
   refine gh [(0,_),(2,_),(8,_),(9,_),(10,_),(11,_),(19,_)] [(1008,some _),(3000,some _)] hB rfl rfl (by rfl) ?_
   refine AWp.cut h (fun m38:(List Int)=>([(0,(.sref 3000 1 0 m38.length)),(2,(bo a2)),(9,(qe_aPrefix_4 a1)),(10,(i6 (a1.length:Int))),(11,(i6 s1.1))]:EL)) (fun m38:(List Int)=>([(3000,some (.row 5 1 (m38.map (eI .u8))))]:OL)) (fun m38 h E' O' hmat => ?_) (fun j39 hjj39 h => ?_)
   ·apply blkQ_n
    apply seqQ_n
    refine AWp.ghost hmat ?_
    refine rg (SQ tt) ?_
    obtain rfl:=oi h
    exact⟨rfl,(mp [] _ _ hB)⟩
   ·apply AWp.cond rfl<;>intro hg40
    ·have h:=ite_t hg40 h
     obtain⟨hc41,h⟩:=chk_some h
     have hc41_o:=hc41
     simp only [Bool.and_eq_true,decide_eq_true_eq] at hc41_o
     obtain⟨r42,hr42,h⟩:=bindS h
     obtain⟨hc43,h⟩:=chk_some h
     have hc43_o:=hc43
     simp only [Bool.and_eq_true,decide_eq_true_eq] at hc43_o
     obtain⟨hc44,h⟩:=chk_some h
     have hc44_o:=hc44
     simp only [Bool.and_eq_true,decide_eq_true_eq] at hc44_o
     apply dr (c (mv hN (q 0)) rfl (c (fo 1008 3 [1] hN underlying29 3 tyS3 (q 8)) rfl (c (la hN 29 tyS3 (q 21)) rfl (c (OpJ.conv underlying3 underlying5 (L rfl) (q 22)) rfl (c (buildSlice underlying67 tyS5 tyZD5 (by rfl) (by decide) (by decide) (Opds.cons (q 23) Opds.nil) (by kernel_rfl) (es:=([(.int .u8 (IntKind.u8.wrap x32.fLen))]:List D)) (by rfl) (by rfl) (by kernel_rfl) (by simp) (L rfl)) rfl (cg (apd hB underlying67 tyE5 1025 (eI .u8) s1.2 ([(IntKind.u8.wrap x32.fLen)]:List Int) hc41 (L rfl) (q 20) (q 24)) rfl (c (fo 1008 0 [0] hN underlying29 0 tyS27 (q 8)) rfl (c (la hN 29 tyS27 (q 26)) rfl (cg (cf hB fnOk122 (addr_Bytes_ac x32.fAddr r42 hr42) (L rfl) (OpdL.cons (q 27) OpdL.nil)) rfl (c (fo 1008 3 [1] hN underlying29 3 tyS3 (q 8)) rfl (c (la hN 29 tyS3 (q 29)) rfl (c (add6 (L rfl) (q 30) (ii 7)) rfl (c (quo6 (L rfl) (q 31) (ii 8) (by decide)) rfl (c (OpJ.cutD underlying67 tyS5 (es':=((r42.take ((w64 (Int.tdiv (w64 (x32.fLen+7)) 8)).toNat)).drop 0).map (eI .u8)) (l:=0) (h:=(w64 (Int.tdiv (w64 (x32.fLen+7)) 8)).toNat) (.inl ⟨rfl,rfl,rfl⟩) (.inr ⟨_,_,_,rfl,(ot 32 (i6 (w64 (Int.tdiv (w64 (x32.fLen+7)) 8)))),(of_decide_eq_true (and_l2 (and_l2 hc43))),rfl⟩) (of_decide_eq_true (and_r2 (and_l2 hc43))) (by first | (simp;done) | simpa using (of_decide_eq_true (and_r2 hc43))) (by first | rw [List.map_drop,List.map_take] | (simp [List.map_take,List.map_drop];done) | simp [List.take_of_length_le]) (L rfl) (q 28)) rfl (cg (apd hB underlying67 tyE5 1034 (eI .u8) (s1.2++([(IntKind.u8.wrap x32.fLen)]:List Int)) ((r42.take ((w64 (Int.tdiv (w64 (x32.fLen+7)) 8)).toNat)).drop 0) hc44 (L rfl) (q 25) (q 33)) rfl (c (assign (L rfl) (q 34)) rfl cn)))))))))))))))) (by kernel_rfl) (by kernel_rfl)
     exact hjj39 _ h _ _ (mp [(3000,1034)] _ _ hB)
    ·have h:=ite_f hg40 h
     apply AWp.skip
     exact hjj39 _ h _ _ (mp [] _ _ hB)
  ·have h:=ite_f hg31 h
   apply AWp.exit
   apply seqQ_e
   obtain rfl:=oi h
   exact⟨(fun hc=>by cases hc),rfl,(mp [] _ _ hB)⟩
 ·obtain⟨rfl,hmat⟩:=hR
  apply blkQ_hit
  apply seqQ_n
  refine AWp.ghost hmat ?_
  refine sr (SQ tt) ?_
  apply AWp.ret
  obtain rfl:=oi h
  exact rt (Mat.trans (Mat.freezeP (n:=3000) (e:=5) (sz:=1) (es:=p30.map (eI .u8)) (Ts:=[(6,(.d (.list 1 (p30.map (eI .u8)))))]) (Bs:=[]) (by rfl) (TwT.cons (x:=(.sref 3000 1 0 p30.length)) (by rfl) (FrzL.all (by first | rfl | (simp;done) | (simp;omega) | omega)) TwT.nil) TwB.nil) (mp [] [(6,(.d (.list 1 (p30.map (eI .u8)))))] [] hB)) [(.d (.list 1 (p30.map (eI .u8))))] (Res.tmp (by rfl) (by rfl) Res.nil) rfl
def attribute_Write_3_L0 (a0:aAttrs) (s18:Int×(List aUnknown)):Option ((((List aUnknown)))⊕(Int×(List aUnknown))) :=
 (if (decide (s18.1<(a0.fOther.length:Int)))=true then
 (idx a0.fOther s18.1).bind fun x29 =>
 (ext137_slices_Clone_D x29.fData).bind fun r30 =>
 chk (decide ((s18.2++[(aUnknown.mk x29.fFlags x29.fType r30)]).length≤LIM)) <|
 some (.inr ((w64 (s18.1+1)),(s18.2++[(aUnknown.mk x29.fFlags x29.fType r30)])))
 else
 some (.inl s18.2))
def attribute_Write_3 (a0:aAttrs):Option ((List aUnknown)×Int) :=
 (attribute_Valid a0).bind fun r1 =>
 (if (!r1)=true then
 some (([]:List aUnknown),1)
 else
 (attribute_Write_1 (a0.fOrigin != (-1)) 1 ([(IntKind.u8.wrap a0.fOrigin)]:List Int)).bind fun r3 =>
 (attribute_path a0.fPath).bind fun r4 =>
 (attribute_Write_1_2 ((a0.fOrigin != (-1)) || (decide (0<(a0.fPath.length:Int)))) 2 r4 r3).bind fun r5 =>
 (addr_Bytes a0.fNext).bind fun r6 =>
 (attribute_Write_1_2 ((!a0.fNext.fV6)&&(!((a0.fNext.fV6==false)&&((a0.fNext.fHi==0)&&((a0.fNext.fLo==0)&&true))))) 3 r6 r5).bind fun r7 =>
 (attribute_put_3 ([a0.fMED]:List Int)).bind fun r8 =>
 (attribute_Write_1_2 (a0.fMED != (-1)) 4 r8 r7).bind fun r9 =>
 (attribute_put_3 ([a0.fPref]:List Int)).bind fun r10 =>
 (attribute_Write_1_2 (a0.fPref != (-1)) 5 r10 r9).bind fun r11 =>
 (attribute_communities a0.fCommunities).bind fun r12 =>
 (attribute_Write_1_2 (decide (0<(a0.fCommunities.length:Int))) 8 r12 r11).bind fun r13 =>
 (attribute_large a0.fLarge).bind fun r14 =>
 (attribute_Write_1_2 (decide (0<(a0.fLarge.length:Int))) 32 r14 r13).bind fun r15 =>
 (attribute_put_3 ([a0.fOTC]:List Int)).bind fun r16 =>
 (attribute_Write_1_2 (a0.fOTC != (-1)) 35 r16 r15).bind fun r17 =>
 (loop (attribute_Write_3_L0 a0) (0,r17)).bind fun p27 =>
 (ext123_slices_SortFunc_attribute_Write_2 p27).bind fun r34 =>
 chk (decide (r34.length=p27.length)) <|
 some (r34,0))
theorem attribute_Write_3_ac (a0:aAttrs) (r:(List aUnknown)×Int) (h:attribute_Write_3 a0=some r):AC Tryz.prog 121 [(.d (e_aAttrs a0))] [(500,(.know (globD 0 (.imap gv0))))] (.tup [(.sref 900000 3 0 r.1.length),(.d (.int .i64 r.2))]) [(500,some (.know (globD 0 (.imap gv0)))),(900000,some (.row 69 3 (r.1.map e_aUnknown)))]:=by
 refine ac2 Tryz.func121 rfl rfl fun B hB hN L => ?_
 delta attribute_Write_3 at h
 refine sr (SQ tt) ?_
 apply AWp.seq
 apply AWp.seq
 obtain⟨r1,hr1,h⟩:=bindS h
 refine rg (SQ (fa (cl [(500,500)] (attribute_Valid_ac a0 r1 hr1)) tt)) ?_
 apply seqQ_n
 refine AWp.ghost (mp [] [(1,(pt 1001)),(10,(bo (!r1)))] [(500,some (.know (globD 0 (.imap gv0)))),(1001,bd 35 (e_aAttrs a0))] hB) ?_
 apply AWp.cond rfl<;>intro hg2
 ·have h:=ite_t hg2 h
  refine sr (SQ tt) ?_
  apply AWp.ret
  apply seqQ_r
  obtain rfl:=oi h
  exact rt (Mat.trans (Mat.beginP (n:=900500) (e:=69) (sz:=3) (Ts:=[(2,(.sref 900500 3 0 0))]) (Bs:=[]) hB (by decide) (by rfl) (by decide) (TwT.cons (x:=.nils) (by rfl) (Tw.leaf ⟨rfl,rfl⟩) TwT.nil) TwB.nil) (Mat.trans (Mat.lenP (Ts:=[(2,(.sref 900500 3 0 (([]:List aUnknown).length)))]) (Bs:=[]) (TwT.cons (x:=(.sref 900500 3 0 0)) (by rfl) (Tw.leaf ⟨_,_,_,_,_,rfl,rfl,(by first | rfl | (simp;done) | (simp;omega) | omega)⟩) TwT.nil) TwB.nil) (mp [(900000,900500)] [(2,(.sref 900000 3 0 (([]:List aUnknown).length))),(3,(i6 1))] [(500,some (.know (globD 0 (.imap gv0)))),(900000,some (we_aUnknown_69_3 ([]:List aUnknown)))] hB))) [(.sref 900000 3 0 (([]:List aUnknown).length)),(i6 1)] (Res.tmp (by rfl) (by rfl) (Res.tmp (by rfl) (by rfl) Res.nil)) rfl
 ·have h:=ite_f hg2 h
  apply AWp.skip
  apply seqQ_n
  refine sr (SQ tt) ?_
  apply sr (cg (OpJ.makeF (OpdL.cons (q 4) OpdL.nil) rfl rfl (L rfl)) rfl (c (assign (L rfl) (q 11)) rfl cn))
  apply AWp.seq
  obtain⟨r3,hr3,h⟩:=bindS h
  refine rg (SQ (fa (cl [(0,1004),(500,500),(950000,100100)] (attribute_Write_1_ac (a0.fOrigin != (-1)) 1 ([(IntKind.u8.wrap a0.fOrigin)]:List Int) r3 hr3)) tt)) ?_
  apply seqQ_n
  refine AWp.ghost (mp [] [(1,(pt 1001)),(4,(pt 1004)),(5,(.func 132 [(pt 1004)]))] [(500,some (.know (globD 0 (.imap gv0)))),(1001,bd 35 (e_aAttrs a0)),(1004,some (.box 33 (.sref 100100 3 0 r3.length))),(100100,some (we_aUnknown_69_3 r3))] hB) ?_
  apply AWp.seq
  obtain⟨r4,hr4,h⟩:=bindS h
  obtain⟨r5,hr5,h⟩:=bindS h
  refine drS (SQ (fa (cl [] (attribute_path_ac a0.fPath r4 hr4)) (fa (cl [(0,1004),(1,100100),(500,500),(950000,100300)] (attribute_Write_1_2_ac ((a0.fOrigin != (-1)) || (decide (0<(a0.fPath.length:Int)))) 2 r4 r3 r5 hr5)) tt))) ?_
  apply seqQ_n
  refine AWp.ghost (mp [] [(1,(pt 1001)),(4,(pt 1004)),(5,(.func 132 [(pt 1004)]))] [(500,some (.know (globD 0 (.imap gv0)))),(1001,bd 35 (e_aAttrs a0)),(1004,some (.box 33 (.sref 100300 3 0 r5.length))),(100300,some (we_aUnknown_69_3 r5))] hB) ?_
  apply AWp.seq
  obtain⟨r6,hr6,h⟩:=bindS h
  obtain⟨r7,hr7,h⟩:=bindS h
  refine AWp.draws (by kernel_rfl) (oc (mv hN (ot 5 (.func 132 [(pt 1004)])))
   (oc (ov (.ptr 1001 2 [2]) (fp hN underlying35 2 tyS27 (.box 35 (.d (e_aAttrs a0))) (ot 1 (pt 1001))))
   (oc (ov (.ptr 1001 2 [2,0]) (fp hN underlying27 0 tyS4 (.box 35 (.d (e_aAttrs a0))) (ot 36 (.ptr 1001 2 [2]))))
   (oc (lb hN 35 (.d (e_aAttrs a0)) (bo a0.fNext.fV6) tyS4 (At.dst1 (f:=(e_aAddr a0.fNext)) (by rfl) (by rfl) (ad (.bool a0.fNext.fV6)) (by first | rfl | omega)) (ot 37 (.ptr 1001 2 [2,0])))
   (oc (OpJ.not (L rfl) (ot 38 (bo a0.fNext.fV6)))
   (oc (mv hN (ot 39 (bo (!a0.fNext.fV6))))
   (oc (op hN 40 (.ptr 1001 2 [2]) (ov (.ptr 1001 2 [2]) (fp hN underlying35 2 tyS27 (.box 35 (.d (e_aAttrs a0))) (ot 1 (pt 1001)))) (OptL.keep rfl OptL.nil) (GuardV.plain _))
   (oc (op hN 40 (.d (e_aAddr a0.fNext)) (lb hN 35 (.d (e_aAttrs a0)) (.d (e_aAddr a0.fNext)) tyS27 (ad (e_aAddr a0.fNext)) (ot 41 (.ptr 1001 2 [2]))) (OptL.opt OptL.nil) (GuardV.plain _))
   (oc (op hN 40 (.d (.st [(.bool false),(.int .u64 0),(.int .u64 0)])) (OpJ.coe (v:=(.st [(bo false),(.d (.int .u64 0)),(.d (.int .u64 0))])) (y:=(.st [(.bool false),(.int .u64 0),(.int .u64 0)])) (Co.st (CoL.cons (Co.d _) (CoL.cons (Co.d _) (CoL.cons (Co.d _) CoL.nil)))) rfl (OpJ.build (places:=[(0,1),(1,1),(2,1)]) ⟨underlying27,fun w=>by kernel_rfl⟩ tyZS27 Opds.nil (by kernel_rfl) (r:=(.st [(bo false),(.d (.int .u64 0)),(.d (.int .u64 0))])) (by rfl) (L rfl))) OptL.nil (GuardV.plain _))
   (oc (op hN 40 (bo (!((a0.fNext.fV6==false)&&((a0.fNext.fHi==0)&&((a0.fNext.fLo==0)&&true))))) (OpJ.neqD (h:=2) (FitE.st underlying27 rfl held27 (FitF.cons (x:=(.bool a0.fNext.fV6)) (y:=(.bool false)) (by decide) rfl tyS4 ⟨rfl,rfl⟩ ⟨rfl,rfl⟩ (FitE.bool (h:=0) a0.fNext.fV6 false underlying4) (FitF.cons (x:=(.int .u64 a0.fNext.fHi)) (y:=(.int .u64 0)) (by decide) rfl tyS25 ⟨rfl,rfl⟩ ⟨rfl,rfl⟩ (FitE.int (h:=0) a0.fNext.fHi 0 underlying25) (FitF.cons (x:=(.int .u64 a0.fNext.fLo)) (y:=(.int .u64 0)) (by decide) rfl tyS25 ⟨rfl,rfl⟩ ⟨rfl,rfl⟩ (FitE.int (h:=0) a0.fNext.fLo 0 underlying25) FitF.nil)))) eqg27 ⟨rfl,rfl⟩ (by rfl) (L rfl) (ot 42 (.d (e_aAddr a0.fNext))) (ot 43 (.d (.st [(.bool false),(.int .u64 0),(.int .u64 0)])))) (OptL.opt (OptL.opt OptL.nil)) (GuardV.plain _))
   (oc (pickAnd rfl (L rfl) (ot 40 (bo (!a0.fNext.fV6))) (ot 44 (.opt ((!a0.fNext.fV6)==true) (bo (!((a0.fNext.fV6==false)&&((a0.fNext.fHi==0)&&((a0.fNext.fLo==0)&&true))))))))
   (oc (ov (.ptr 1001 2 [2]) (fp hN underlying35 2 tyS27 (.box 35 (.d (e_aAttrs a0))) (ot 1 (pt 1001))))
   (oc (lb hN 35 (.d (e_aAttrs a0)) (.d (e_aAddr a0.fNext)) tyS27 (ad (e_aAddr a0.fNext)) (ot 46 (.ptr 1001 2 [2])))
   (oc (cf hB fnOk122 (addr_Bytes_ac a0.fNext r6 hr6) (L rfl) (OpdL.cons (ot 47 (.d (e_aAddr a0.fNext))) OpdL.nil))
   (oc (callVal (args:=[(bo ((!a0.fNext.fV6)&&(!((a0.fNext.fV6==false)&&((a0.fNext.fHi==0)&&((a0.fNext.fLo==0)&&true)))))),(i6 3),(.d (.list 1 (r6.map (eI .u8))))]) (caps:=[(pt 0)]) hB fnOk132 [(0,1004),(1,100300),(500,500),(950000,100500)] (attribute_Write_1_2_ac ((!a0.fNext.fV6)&&(!((a0.fNext.fV6==false)&&((a0.fNext.fHi==0)&&((a0.fNext.fLo==0)&&true))))) 3 r6 r5 r7 hr7) (by kernel_rfl) (L rfl) (by kernel_rfl) (by kernel_rfl) (OpdL.cons (ot 45 (bo ((!a0.fNext.fV6)&&(!((a0.fNext.fV6==false)&&((a0.fNext.fHi==0)&&((a0.fNext.fLo==0)&&true))))))) (OpdL.cons (ii 3) (OpdL.cons (ot 48 (.d (.list 1 (r6.map (eI .u8))))) OpdL.nil))))
   (OpJs.nil)))))))))))))))) (by kernel_rfl) (by rfl) (by rfl) ?_
  apply seqQ_n
  refine AWp.ghost (mp [] [(1,(pt 1001)),(4,(pt 1004)),(5,(.func 132 [(pt 1004)]))] [(500,some (.know (globD 0 (.imap gv0)))),(1001,bd 35 (e_aAttrs a0)),(1004,some (.box 33 (.sref 100500 3 0 r7.length))),(100500,some (we_aUnknown_69_3 r7))] hB) ?_
  apply AWp.seq
  obtain⟨r8,hr8,h⟩:=bindS h
  obtain⟨r9,hr9,h⟩:=bindS h
  refine drS (SQ (fa (cl [] (attribute_put_3_ac ([a0.fMED]:List Int) r8 hr8)) (fa (cl [(0,1004),(1,100500),(500,500),(950000,100700)] (attribute_Write_1_2_ac (a0.fMED != (-1)) 4 r8 r7 r9 hr9)) tt))) ?_
  apply seqQ_n
  refine AWp.ghost (mp [] [(1,(pt 1001)),(4,(pt 1004)),(5,(.func 132 [(pt 1004)]))] [(500,some (.know (globD 0 (.imap gv0)))),(1001,bd 35 (e_aAttrs a0)),(1004,some (.box 33 (.sref 100700 3 0 r9.length))),(100700,some (we_aUnknown_69_3 r9))] hB) ?_
  apply AWp.seq
  obtain⟨r10,hr10,h⟩:=bindS h
  obtain⟨r11,hr11,h⟩:=bindS h
  refine drS (SQ (fa (cl [] (attribute_put_3_ac ([a0.fPref]:List Int) r10 hr10)) (fa (cl [(0,1004),(1,100700),(500,500),(950000,100900)] (attribute_Write_1_2_ac (a0.fPref != (-1)) 5 r10 r9 r11 hr11)) tt))) ?_
  apply seqQ_n
  refine AWp.ghost (mp [] [(1,(pt 1001)),(4,(pt 1004)),(5,(.func 132 [(pt 1004)]))] [(500,some (.know (globD 0 (.imap gv0)))),(1001,bd 35 (e_aAttrs a0)),(1004,some (.box 33 (.sref 100900 3 0 r11.length))),(100900,some (we_aUnknown_69_3 r11))] hB) ?_
  apply AWp.seq
  obtain⟨r12,hr12,h⟩:=bindS h
  obtain⟨r13,hr13,h⟩:=bindS h
  refine drS (SQ (fa (cl [] (attribute_communities_ac a0.fCommunities r12 hr12)) (fa (cl [(0,1004),(1,100900),(500,500),(950000,101100)] (attribute_Write_1_2_ac (decide (0<(a0.fCommunities.length:Int))) 8 r12 r11 r13 hr13)) tt))) ?_
  apply seqQ_n
  refine AWp.ghost (mp [] [(1,(pt 1001)),(4,(pt 1004)),(5,(.func 132 [(pt 1004)]))] [(500,some (.know (globD 0 (.imap gv0)))),(1001,bd 35 (e_aAttrs a0)),(1004,some (.box 33 (.sref 101100 3 0 r13.length))),(101100,some (we_aUnknown_69_3 r13))] hB) ?_
  apply AWp.seq
  obtain⟨r14,hr14,h⟩:=bindS h
  obtain⟨r15,hr15,h⟩:=bindS h
  refine drS (SQ (fa (cl [] (attribute_large_ac a0.fLarge r14 hr14)) (fa (cl [(0,1004),(1,101100),(500,500),(950000,101300)] (attribute_Write_1_2_ac (decide (0<(a0.fLarge.length:Int))) 32 r14 r13 r15 hr15)) tt))) ?_
  apply seqQ_n
  refine AWp.ghost (mp [] [(1,(pt 1001)),(4,(pt 1004)),(5,(.func 132 [(pt 1004)]))] [(500,some (.know (globD 0 (.imap gv0)))),(1001,bd 35 (e_aAttrs a0)),(1004,some (.box 33 (.sref 101300 3 0 r15.length))),(101300,some (we_aUnknown_69_3 r15))] hB) ?_
  apply AWp.seq
  obtain⟨r16,hr16,h⟩:=bindS h
  obtain⟨r17,hr17,h⟩:=bindS h
  refine drS (SQ (fa (cl [] (attribute_put_3_ac ([a0.fOTC]:List Int) r16 hr16)) (fa (cl [(0,1004),(1,101300),(500,500),(950000,101500)] (attribute_Write_1_2_ac (a0.fOTC != (-1)) 35 r16 r15 r17 hr17)) tt))) ?_
  apply seqQ_n
  refine AWp.ghost (mp [] [(1,(pt 1001)),(4,(pt 1004))] [(500,some (.know (globD 0 (.imap gv0)))),(1001,bd 35 (e_aAttrs a0)),(1004,some (.box 33 (.sref 101500 3 0 r17.length))),(101500,some (we_aUnknown_69_3 r17))] hB) ?_
  apply AWp.seq
  refine sr (SQ tt) ?_
  apply AWp.block
  obtain⟨p27,hx33,h⟩:=bindS h
  refine lg (attribute_Write_3_L0 a0) (fun s18:Int×(List aUnknown)=>([(4,(pt 1004)),(96,(qe_aUnknown_3 a0.fOther)),(97,(i6 (a0.fOther.length:Int))),(98,(i6 s18.1))]:EL)) (fun s18:Int×(List aUnknown)=>([(500,some (.know (globD 0 (.imap gv0)))),(1004,some (.box 33 (.sref 4004 3 0 s18.2.length))),(4004,some (we_aUnknown_69_3 s18.2))]:OL)) (fun(p27:((List aUnknown))) e E' O'=>e = .exit 0∧Mat B E' O' ([(4,(pt 1004))]:EL) ([(500,some (.know (globD 0 (.imap gv0)))),(1004,some (.box 33 (.sref 4004 3 0 p27.length))),(4004,some (we_aUnknown_69_3 p27))]:OL)) hx33 (mp [(4004,101500)] _ _ hB) (fun s18 y h => ?_) (fun e E' O' hR => ?_)
  ·unfold attribute_Write_3_L0 at h
   refine sr (SQ tt) ?_
   apply AWp.seq
   apply AWp.cond rfl<;>intro hg28
   ·have h:=ite_t hg28 h
    apply AWp.skip
    apply seqQ_n
    apply AWp.seq
    apply AWp.block
    obtain⟨x29,hx29,h⟩:=bindS h
    refine sr (SQ (fa hx29 tt)) ?_
    obtain⟨r30,hr30,h⟩:=bindS h
    refine sr (SQ (fa (cl [] (ext137_slices_Clone_D_ac x29.fData r30 hr30)) tt)) ?_
    obtain⟨hc31,h⟩:=chk_some h
    refine rg (SQ (fa hc31 tt)) ?_
    apply blkQ_n
    apply seqQ_n
    refine rg (SQ tt) ?_
    obtain rfl:=oi h
    exact⟨rfl,(mp [(4004,1109)] _ _ hB)⟩
   ·have h:=ite_f hg28 h
    apply AWp.exit
    apply seqQ_e
    obtain rfl:=oi h
    exact⟨(fun hc=>by cases hc),rfl,(mp [] _ _ hB)⟩
  ·obtain⟨rfl,hmat⟩:=hR
   apply blkQ_hit
   apply seqQ_n
   refine AWp.ghost hmat ?_
   apply AWp.seq
   obtain⟨r34,hr34,h⟩:=bindS h
   obtain⟨hc35,h⟩:=chk_some h
   have lhc35:=of_decide_eq_true hc35
   have hc35_o:=of_decide_eq_true hc35
   refine rg (SQ (fa (cl [(0,4004)] (ext123_slices_SortFunc_attribute_Write_2_ac p27 r34 hr34)) tt)) ?_
   apply seqQ_n
   refine AWp.ghost (mp [] [(4,(pt 1004))] [(500,some (.know (globD 0 (.imap gv0)))),(1004,some (.box 33 (.sref 4004 3 0 p27.length))),(4004,some (we_aUnknown_69_3 r34))] hB) ?_
   refine sr (SQ tt) ?_
   apply AWp.ret
   obtain rfl:=oi h
   exact rt (Mat.trans (Mat.lenP (Ts:=[(2,(.sref 4004 3 0 r34.length))]) (Bs:=[]) (TwT.cons (x:=(.sref 4004 3 0 p27.length)) (by rfl) (Tw.leaf ⟨_,_,_,_,_,rfl,rfl,(by first | rfl | (simp;done) | (simp;omega) | omega)⟩) TwT.nil) TwB.nil) (mp [(900000,4004)] [(2,(.sref 900000 3 0 r34.length)),(3,(i6 0))] [(500,some (.know (globD 0 (.imap gv0)))),(900000,some (we_aUnknown_69_3 r34))] hB)) [(.sref 900000 3 0 r34.length),(i6 0)] (Res.tmp (by rfl) (by rfl) (Res.tmp (by rfl) (by rfl) Res.nil)) rfl
def update_codes_2_L0 (a0:(List aPrefix)) (a1:Bool) (s1:Int×(List Int)):Option ((((List Int)))⊕(Int×(List Int))) :=
 (if (decide (s1.1<(a0.length:Int)))=true then
 (idx a0 s1.1).bind fun x32 =>
 jn (fun m38:(List Int) =>
 some (.inr ((w64 (s1.1+1)),m38))) (fun j39 =>
 (if (x32.fAddr.fV6==a1)=true then
 chk (decide ((s1.2++([(IntKind.u8.wrap x32.fLen)]:List Int)).length≤LIM)) <|
 (addr_Bytes x32.fAddr).bind fun r42 =>
 chk ((decide (0≤(w64 (Int.tdiv (w64 (x32.fLen+7)) 8)))&&decide (0≤(w64 (Int.tdiv (w64 (x32.fLen+7)) 8)).toNat)&&decide ((w64 (Int.tdiv (w64 (x32.fLen+7)) 8)).toNat≤r42.length))) <|
 chk (decide (((s1.2++([(IntKind.u8.wrap x32.fLen)]:List Int))++((r42.take ((w64 (Int.tdiv (w64 (x32.fLen+7)) 8)).toNat)).drop 0)).length≤LIM)) <|
 j39 ((s1.2++([(IntKind.u8.wrap x32.fLen)]:List Int))++((r42.take ((w64 (Int.tdiv (w64 (x32.fLen+7)) 8)).toNat)).drop 0))
 else
 j39 s1.2))
 else
 some (.inl s1.2))
def update_codes_2 (a0:(List aPrefix)) (a1:Bool):Option ((List Int)) :=
 (loop (update_codes_2_L0 a0 a1) (0,([]:List Int))).bind fun p30 =>
 some p30
theorem update_codes_2_ac (a0:(List aPrefix)) (a1:Bool) (r:(List Int)) (h:update_codes_2 a0 a1=some r):AC Tryz.prog 114 [.nils,(.d (.list 4 (a0.map e_aPrefix))),(.d (.bool a1))] [] (.d (.list 1 (r.map (eI .u8)))) []:=by
 refine ac2 Tryz.func114 rfl rfl fun B hB hN L => ?_
 delta update_codes_2 at h
 refine sr (SQ tt) ?_
 apply AWp.seq
 refine sr (SQ tt) ?_
 apply AWp.block
 obtain⟨p30,hx46,h⟩:=bindS h
 refine lg (update_codes_2_L0 a0 a1) (fun s1:Int×(List Int)=>([(0,(.sref 3000 1 0 s1.2.length)),(2,(bo a1)),(9,(qe_aPrefix_4 a0)),(10,(i6 (a0.length:Int))),(11,(i6 s1.1))]:EL)) (fun s1:Int×(List Int)=>([(3000,some (.row 5 1 (s1.2.map (eI .u8))))]:OL)) (fun(p30:((List Int))) e E' O'=>e = .exit 0∧Mat B E' O' ([(0,(.sref 3000 1 0 p30.length))]:EL) ([(3000,some (.row 5 1 (p30.map (eI .u8))))]:OL)) hx46 (Mat.trans (Mat.beginP (n:=3000) (e:=5) (sz:=1) (Ts:=[(0,(.sref 3000 1 0 0))]) (Bs:=[]) hB (by decide) (by rfl) (by decide) (TwT.cons (x:=.nils) (by rfl) (Tw.leaf ⟨rfl,rfl⟩) TwT.nil) TwB.nil) (mp [] _ _ hB)) (fun s1 y h => ?_) (fun e E' O' hR => ?_)
 ·unfold update_codes_2_L0 at h
  refine sr (SQ tt) ?_
  apply AWp.seq
  apply AWp.cond rfl<;>intro hg31
  ·have h:=ite_t hg31 h
   apply AWp.skip
   apply seqQ_n
   apply AWp.seq
   apply AWp.block
   obtain⟨x32,hx32,h⟩:=bindS h
   refine sr (SQ (fa hx32 tt)) ?_
   refine sr (SQ tt) ?_
   refine gh [(0,_),(2,_),(8,_),(9,_),(10,_),(11,_),(19,_)] [(1008,some _),(3000,some _)] hB rfl rfl (by rfl) ?_
   refine AWp.cut h (fun m38:(List Int)=>([(0,(.sref 3000 1 0 m38.length)),(2,(bo a1)),(9,(qe_aPrefix_4 a0)),(10,(i6 (a0.length:Int))),(11,(i6 s1.1))]:EL)) (fun m38:(List Int)=>([(3000,some (.row 5 1 (m38.map (eI .u8))))]:OL)) (fun m38 h E' O' hmat => ?_) (fun j39 hjj39 h => ?_)
   ·apply blkQ_n
    apply seqQ_n
    refine AWp.ghost hmat ?_
    refine rg (SQ tt) ?_
    obtain rfl:=oi h
    exact⟨rfl,(mp [] _ _ hB)⟩
   ·apply AWp.cond rfl<;>intro hg40
    ·have h:=ite_t hg40 h
     obtain⟨hc41,h⟩:=chk_some h
     obtain⟨r42,hr42,h⟩:=bindS h
     obtain⟨hc43,h⟩:=chk_some h
     obtain⟨hc44,h⟩:=chk_some h
     apply dr (c (mv hN (q 0)) rfl (c (fo 1008 3 [1] hN underlying29 3 tyS3 (q 8)) rfl (c (la hN 29 tyS3 (q 21)) rfl (c (OpJ.conv underlying3 underlying5 (L rfl) (q 22)) rfl (c (buildSlice underlying67 tyS5 tyZD5 (by rfl) (by decide) (by decide) (Opds.cons (q 23) Opds.nil) (by kernel_rfl) (es:=([(.int .u8 (IntKind.u8.wrap x32.fLen))]:List D)) (by rfl) (by rfl) (by kernel_rfl) (by simp) (L rfl)) rfl (cg (apd hB underlying67 tyE5 1025 (eI .u8) s1.2 ([(IntKind.u8.wrap x32.fLen)]:List Int) hc41 (L rfl) (q 20) (q 24)) rfl (c (fo 1008 0 [0] hN underlying29 0 tyS27 (q 8)) rfl (c (la hN 29 tyS27 (q 26)) rfl (cg (cf hB fnOk122 (addr_Bytes_ac x32.fAddr r42 hr42) (L rfl) (OpdL.cons (q 27) OpdL.nil)) rfl (c (fo 1008 3 [1] hN underlying29 3 tyS3 (q 8)) rfl (c (la hN 29 tyS3 (q 29)) rfl (c (add6 (L rfl) (q 30) (ii 7)) rfl (c (quo6 (L rfl) (q 31) (ii 8) (by decide)) rfl (c (OpJ.cutD underlying67 tyS5 (es':=((r42.take ((w64 (Int.tdiv (w64 (x32.fLen+7)) 8)).toNat)).drop 0).map (eI .u8)) (l:=0) (h:=(w64 (Int.tdiv (w64 (x32.fLen+7)) 8)).toNat) (.inl ⟨rfl,rfl,rfl⟩) (.inr ⟨_,_,_,rfl,(ot 32 (i6 (w64 (Int.tdiv (w64 (x32.fLen+7)) 8)))),(of_decide_eq_true (and_l2 (and_l2 hc43))),rfl⟩) (of_decide_eq_true (and_r2 (and_l2 hc43))) (by first | (simp;done) | simpa using (of_decide_eq_true (and_r2 hc43))) (by first | rw [List.map_drop,List.map_take] | (simp [List.map_take,List.map_drop];done) | simp [List.take_of_length_le]) (L rfl) (q 28)) rfl (cg (apd hB underlying67 tyE5 1034 (eI .u8) (s1.2++([(IntKind.u8.wrap x32.fLen)]:List Int)) ((r42.take ((w64 (Int.tdiv (w64 (x32.fLen+7)) 8)).toNat)).drop 0) hc44 (L rfl) (q 25) (q 33)) rfl (c (assign (L rfl) (q 34)) rfl cn)))))))))))))))) (by kernel_rfl) (by kernel_rfl)
     exact hjj39 _ h _ _ (mp [(3000,1034)] _ _ hB)
    ·have h:=ite_f hg40 h
     apply AWp.skip
     exact hjj39 _ h _ _ (mp [] _ _ hB)
  ·have h:=ite_f hg31 h
   apply AWp.exit
   apply seqQ_e
   obtain rfl:=oi h
   exact⟨(fun hc=>by cases hc),rfl,(mp [] _ _ hB)⟩
 ·obtain⟨rfl,hmat⟩:=hR
  apply blkQ_hit
  apply seqQ_n
  refine AWp.ghost hmat ?_
  refine sr (SQ tt) ?_
  apply AWp.ret
  obtain rfl:=oi h
  exact rt (Mat.trans (Mat.freezeP (n:=3000) (e:=5) (sz:=1) (es:=p30.map (eI .u8)) (Ts:=[(6,(.d (.list 1 (p30.map (eI .u8)))))]) (Bs:=[]) (by rfl) (TwT.cons (x:=(.sref 3000 1 0 p30.length)) (by rfl) (FrzL.all (by first | rfl | (simp;done) | (simp;omega) | omega)) TwT.nil) TwB.nil) (mp [] [(6,(.d (.list 1 (p30.map (eI .u8)))))] [] hB)) [(.d (.list 1 (p30.map (eI .u8))))] (Res.tmp (by rfl) (by rfl) Res.nil) rfl
def update_list_1 (a0:aUnknown) (a1:aUnknown):Option (Int) :=
 (cmp_Compare a0.fType a1.fType).bind fun r1 =>
 some r1
theorem update_list_1_ac (a0:aUnknown) (a1:aUnknown) (r:Int) (h:update_list_1 a0 a1=some r):AC Tryz.prog 124 [(.d (e_aUnknown a0)),(.d (e_aUnknown a1))] [] (.d (.int .i64 r)) []:=by
 refine AC.of_code2 Tryz.func124 rfl rfl (Nat.le_of_ble_eq_true (by rfl)) fun B hB hN => ?_
 delta update_list_1 at h
 refine sr (SQ tt) ?_
 obtain⟨r1,hr1,h⟩:=bindS h
 refine sr (SQ (fa (cl [] (cmp_Compare_ac a0.fType a1.fType r1 hr1)) tt)) ?_
 apply AWp.ret
 obtain rfl:=oi h
 exact rt (kp [(4,_)] [] hB rfl rfl (by rfl)) [(i6 r1)] (Res.tmp (by rfl) (by rfl) Res.nil) rfl
def ext123_slices_SortFunc_update_list_1 (a0:(List aUnknown)):Option (List aUnknown):=sortF a0 fun x y=>update_list_1 x y
theorem ext123_slices_SortFunc_update_list_1_ac (a0:(List aUnknown)) (r:List aUnknown) (h:ext123_slices_SortFunc_update_list_1 a0=some r):AC Tryz.prog 123 [(.sref 0 3 0 a0.length),.func 124 []] [(0,(.row 69 3 (a0.map e_aUnknown)))] (.tup []) [(0,some (.row 69 3 (r.map e_aUnknown)))] :=
 AC.sortF e_aUnknown (fun x y=>update_list_1 x y) a0 r h sortOk123 fnOk124 (fun _=>rfl) rfl rfl (fun x y c hc=>update_list_1_ac x y c hc)
def update_list (a0:aUpdate):Option ((List aUnknown)) :=
 (attribute_Write_3 a0.fAttrs).bind fun r1 =>
 jn (fun m8:(List aUnknown) =>
 (update_codes_2 a0.fWithdraw true).bind fun r10 =>
 jn (fun m15:(List aUnknown) =>
 (ext123_slices_SortFunc_update_list_1 m15).bind fun r17 =>
 chk (decide (r17.length=m15.length)) <|
 some ((r17.drop 0).take m15.length)) (fun j16 =>
 (if (decide (0<(r10.length:Int)))=true then
 chk (decide ((([0,2,1]:List Int)++r10).length≤LIM)) <|
 chk (decide ((m8++([(aUnknown.mk 128 15 (([0,2,1]:List Int)++r10))]:List aUnknown)).length≤LIM)) <|
 j16 (m8++([(aUnknown.mk 128 15 (([0,2,1]:List Int)++r10))]:List aUnknown))
 else
 j16 m8))) (fun j9 =>
 (if ((decide (0<(a0.fAnnounce.length:Int)))&&a0.fAttrs.fNext.fV6)=true then
 (addr_Bytes a0.fAttrs.fNext).bind fun r23 =>
 chk (decide ((([0,2,1,16]:List Int)++r23).length≤LIM)) <|
 chk (decide (((([0,2,1,16]:List Int)++r23)++([0]:List Int)).length≤LIM)) <|
 (update_codes ((([0,2,1,16]:List Int)++r23)++([0]:List Int)) a0.fAnnounce true).bind fun r26 =>
 chk (decide ((r1.1++[(aUnknown.mk 128 14 r26)]).length≤LIM)) <|
 j9 (r1.1++[(aUnknown.mk 128 14 r26)])
 else
 j9 r1.1))
theorem update_list_ac (a0:aUpdate) (r:(List aUnknown)) (h:update_list a0=some r):AC Tryz.prog 113 [(.d (e_aUpdate a0))] [(500,(.know (globD 0 (.imap gv0))))] (.d (.list 3 (r.map e_aUnknown))) [(500,some (.know (globD 0 (.imap gv0))))]:=by
 refine ac2 Tryz.func113 rfl rfl fun B hB hN L => ?_
 delta update_list at h
 refine sr (SQ tt) ?_
 apply AWp.seq
 obtain⟨r1,hr1,h⟩:=bindS h
 refine rg (SQ (fa (cl [(500,500),(900000,100000)] (attribute_Write_3_ac a0.fAttrs r1 hr1)) tt)) ?_
 apply seqQ_n
 refine AWp.ghost (mp [] [(1,(pt 1001)),(3,(.sref 100000 3 0 r1.1.length))] [(500,some (.know (globD 0 (.imap gv0)))),(1001,bd 61 (e_aUpdate a0)),(100000,some (we_aUnknown_69_3 r1.1))] hB) ?_
 apply AWp.seq
 refine sr (SQ tt) ?_
 refine gh [(1,_),(3,_),(22,_)] [(500,some _),(1001,some _),(100000,some _)] hB rfl rfl (by rfl) ?_
 refine AWp.cut h (fun m8:(List aUnknown)=>([(1,(pt 1001)),(3,(.sref 3003 3 0 m8.length))]:EL)) (fun m8:(List aUnknown)=>([(500,some (.know (globD 0 (.imap gv0)))),(1001,bd 61 (e_aUpdate a0)),(3003,some (we_aUnknown_69_3 m8))]:OL)) (fun m8 h E' O' hmat => ?_) (fun j9 hjj9 h => ?_)
 ·apply seqQ_n
  refine AWp.ghost hmat ?_
  apply AWp.seq
  obtain⟨r10,hr10,h⟩:=bindS h
  refine sr (SQ (fa (cl [] (update_codes_2_ac a0.fWithdraw true r10 hr10)) tt)) ?_
  refine sr (SQ tt) ?_
  refine gh [(3,_),(6,_),(44,_)] [(500,some _),(3003,some _)] hB rfl rfl (by rfl) ?_
  refine AWp.cut h (fun m15:(List aUnknown)=>([(3,(.sref 3003 3 0 m15.length))]:EL)) (fun m15:(List aUnknown)=>([(500,some (.know (globD 0 (.imap gv0)))),(3003,some (we_aUnknown_69_3 m15))]:OL)) (fun m15 h E' O' hmat => ?_) (fun j16 hjj16 h => ?_)
  ·apply seqQ_n
   refine AWp.ghost hmat ?_
   apply AWp.seq
   obtain⟨r17,hr17,h⟩:=bindS h
   obtain⟨hc18,h⟩:=chk_some h
   have lhc18:=of_decide_eq_true hc18
   have hc18_o:=of_decide_eq_true hc18
   refine rg (SQ (fa (cl [(0,3003)] (ext123_slices_SortFunc_update_list_1_ac m15 r17 hr17)) tt)) ?_
   apply seqQ_n
   refine AWp.ghost (mp [] [(3,(.sref 3003 3 0 m15.length))] [(500,some (.know (globD 0 (.imap gv0)))),(3003,some (we_aUnknown_69_3 r17))] hB) ?_
   refine sr (SQ tt) ?_
   apply AWp.ret
   obtain rfl:=oi h
   exact rt (Mat.trans (Mat.freezeP (n:=3003) (e:=69) (sz:=3) (es:=r17.map e_aUnknown) (Ts:=[(2,(qe_aUnknown_3 ((r17.drop 0).take m15.length)))]) (Bs:=[]) (by rfl) (TwT.cons (x:=(.sref 3003 3 0 m15.length)) (by rfl) (FrzL.cut (fs:=((r17.drop 0).take m15.length).map e_aUnknown) (by simp only [List.length_map,List.length_append,List.length_take,List.length_drop,List.length_replicate,List.length_set];omega) (by first | rw [List.map_drop,List.map_take] | (simp [List.map_take,List.map_drop];done) | simp [List.take_of_length_le])) TwT.nil) TwB.nil) (mp [] [(2,(qe_aUnknown_3 ((r17.drop 0).take m15.length)))] [(500,some (.know (globD 0 (.imap gv0))))] hB)) [(qe_aUnknown_3 ((r17.drop 0).take m15.length))] (Res.tmp (by rfl) (by rfl) Res.nil) rfl
  ·apply AWp.cond rfl<;>intro hg19
   ·have h:=ite_t hg19 h
    obtain⟨hc20,h⟩:=chk_some h
    obtain⟨hc21,h⟩:=chk_some h
    apply rg (c (mv hN (q 3)) rfl (cg (OpJ.buildSliceR underlying67 tyS5 tyZD5 (by rfl) (by decide) (by decide) hB (nm:=1046) (by decide) (len:=([0,2,1]:List Int).length) (by rfl) (Opds.cons (Opd.int .u8 (0)) (Opds.cons (Opd.int .u8 (2)) (Opds.cons (Opd.int .u8 (1)) Opds.nil))) (by kernel_rfl) (es:=([0,2,1]:List Int).map (eI .u8)) (by rfl) (by rfl) (by kernel_rfl) (by simp) (L rfl)) rfl (c (mv hN (q 6)) rfl (cg (OpJ.frz (apd hB underlying67 tyE5 1048 (eI .u8) ([0,2,1]:List Int) r10 hc20 (L rfl) (q 46) (q 47)) (by simp)) rfl (c (OpJ.coe (v:=(.st [(i6 128),(i6 15),(.d (.list 1 ((([0,2,1]:List Int)++r10).map (eI .u8))))])) (y:=(.st [(.int .i64 128),(.int .i64 15),(.list 1 ((([0,2,1]:List Int)++r10).map (eI .u8)))])) (Co.st (CoL.cons (Co.d _) (CoL.cons (Co.d _) (CoL.cons (Co.d _) CoL.nil)))) rfl (OpJ.build (places:=[(0,1),(1,1),(2,1)]) ⟨underlying69,fun w=>by kernel_rfl⟩ tyZS69 (Opds.cons (ii 128) (Opds.cons (ii 15) (Opds.cons (q 48) Opds.nil))) (by kernel_rfl) (r:=(.st [(i6 128),(i6 15),(.d (.list 1 ((([0,2,1]:List Int)++r10).map (eI .u8))))])) (by rfl) (L rfl))) rfl (c (buildSlice underlying33 tyS69 tyZD69 (by rfl) (by decide) (by decide) (Opds.cons (q 49) Opds.nil) (by kernel_rfl) (es:=([(.st [(.int .i64 128),(.int .i64 15),(.list 1 ((([0,2,1]:List Int)++r10).map (eI .u8)))])]:List D)) (by rfl) (by rfl) (by kernel_rfl) (by simp) (L rfl)) rfl (cg (apd hB underlying33 tyE69 1051 e_aUnknown m8 ([(aUnknown.mk 128 15 (([0,2,1]:List Int)++r10))]:List aUnknown) hc21 (L rfl) (q 45) (q 50)) rfl (c (assign (L rfl) (q 51)) rfl cn))))))))
    exact hjj16 _ h _ _ (mp [(3003,1051)] _ _ hB)
   ·have h:=ite_f hg19 h
    apply AWp.skip
    exact hjj16 _ h _ _ (mp [] _ _ hB)
 ·apply AWp.cond rfl<;>intro hg22
  ·have h:=ite_t hg22 h
   obtain⟨r23,hr23,h⟩:=bindS h
   obtain⟨hc24,h⟩:=chk_some h
   apply sr (cg (OpJ.buildSliceR underlying67 tyS5 tyZD5 (by rfl) (by decide) (by decide) hB (nm:=1023) (by decide) (len:=([0,2,1,16]:List Int).length) (by rfl) (Opds.cons (Opd.int .u8 (0)) (Opds.cons (Opd.int .u8 (2)) (Opds.cons (Opd.int .u8 (1)) (Opds.cons (Opd.int .u8 (16)) Opds.nil)))) (by kernel_rfl) (es:=([0,2,1,16]:List Int).map (eI .u8)) (by rfl) (by rfl) (by kernel_rfl) (by simp) (L rfl)) rfl (c (fo 1001 1 [1] hN underlying61 1 tyS35 (q 1)) rfl (c (fo 1001 3 [1,2] hN underlying35 2 tyS27 (q 24)) rfl (c (lb hN 61 _ _ tyS27 (At.dst1 (by rfl) (by rfl) (ad _) (by first | rfl | omega)) (q 25)) rfl (cg (cf hB fnOk122 (addr_Bytes_ac a0.fAttrs.fNext r23 hr23) (L rfl) (OpdL.cons (q 26) OpdL.nil)) rfl (cg (apd hB underlying67 tyE5 1028 (eI .u8) ([0,2,1,16]:List Int) r23 hc24 (L rfl) (q 23) (q 27)) rfl (c (assign (L rfl) (q 28)) rfl cn)))))))
   obtain⟨hc25,h⟩:=chk_some h
   obtain⟨r26,hr26,h⟩:=bindS h
   obtain⟨hc27,h⟩:=chk_some h
   refine drS (SQ (fa hc25 (fa (cl [(0,1032)] (update_codes_ac ((([0,2,1,16]:List Int)++r23)++([0]:List Int)) a0.fAnnounce true r26 hr26)) (fa hc27 tt)))) ?_
   exact hjj9 _ h _ _ (mp [(3003,1038)] _ _ hB)
  ·have h:=ite_f hg22 h
   apply AWp.skip
   exact hjj9 _ h _ _ (mp [(3003,100000)] _ _ hB)
def attribute_Join_L0 (a0:(List aUnknown)) (s1:Int):Option (((Unit)⊕(Unit))⊕(Int)) :=
 (if (decide (s1<(a0.length:Int)))=true then
 (idx a0 s1).bind fun x29 =>
 jn (fun m34:Bool =>
 (if m34=true then
 some (.inl (.inl ()))
 else
 some (.inr (w64 (s1+1))))) (fun j35 =>
 (attribute_within x29.fFlags 0 255).bind fun r37 =>
 (if (!r37)=true then
 j35 true
 else
 (attribute_within x29.fType 0 255).bind fun r39 =>
 j35 ((!r39) || (decide (65535<(x29.fData.length:Int))))))
 else
 some (.inl (.inr ())))
def attribute_Join_L1 (a0:(List aUnknown)) (s42:Int×(List Int)):Option (((Unit)⊕((List Int)))⊕(Int×(List Int))) :=
 (if (decide (s42.1<(a0.length:Int)))=true then
 (idx a0 s42.1).bind fun x70 =>
 jn (fun m74:(List Int) =>
 chk (decide ((m74++x70.fData).length≤LIM)) <|
 (if (decide (2048<((m74++x70.fData).length:Int)))=true then
 some (.inl (.inl ()))
 else
 some (.inr ((w64 (s42.1+1)),(m74++x70.fData))))) (fun j75 =>
 (if (decide (255<(x70.fData.length:Int)))=true then
 chk (decide ((s42.2++([(bitI .or .u8 (bitI .and .u8 (IntKind.u8.wrap x70.fFlags) 224) 16),(IntKind.u8.wrap x70.fType),(IntKind.u8.wrap (shrI .i64 (x70.fData.length:Int) 8)),(IntKind.u8.wrap (x70.fData.length:Int))]:List Int)).length≤LIM)) <|
 j75 (s42.2++([(bitI .or .u8 (bitI .and .u8 (IntKind.u8.wrap x70.fFlags) 224) 16),(IntKind.u8.wrap x70.fType),(IntKind.u8.wrap (shrI .i64 (x70.fData.length:Int) 8)),(IntKind.u8.wrap (x70.fData.length:Int))]:List Int))
 else
 chk (decide ((s42.2++([(bitI .and .u8 (IntKind.u8.wrap x70.fFlags) 224),(IntKind.u8.wrap x70.fType),(IntKind.u8.wrap (x70.fData.length:Int))]:List Int)).length≤LIM)) <|
 j75 (s42.2++([(bitI .and .u8 (IntKind.u8.wrap x70.fFlags) 224),(IntKind.u8.wrap x70.fType),(IntKind.u8.wrap (x70.fData.length:Int))]:List Int))))
 else
 some (.inl (.inr s42.2)))
def attribute_Join (a0:(List aUnknown)):Option ((List Int)×Int) :=
 (loop (attribute_Join_L0 a0) 0).bind fun x40=>match x40 with
 | (.inl _) =>
  some (([]:List Int),1)
 | (.inr _) =>
  (loop (attribute_Join_L1 a0) (0,([]:List Int))).bind fun x81=>match x81 with
  | (.inl _) =>
   some (([]:List Int),3)
  | (.inr p68) =>
   some (p68,0)
theorem attribute_Join_ac (a0:(List aUnknown)) (r:(List Int)×Int) (h:attribute_Join a0=some r):AC Tryz.prog 112 [(.d (.list 3 (a0.map e_aUnknown)))] [] (.tup [(.d (.list 1 (r.1.map (eI .u8)))),(.d (.int .i64 r.2))]) []:=by
 refine ac2 Tryz.func112 rfl rfl fun B hB hN L => ?_
 delta attribute_Join at h
 refine sr (SQ tt) ?_
 apply AWp.seq
 refine sr (SQ tt) ?_
 apply AWp.block
 obtain⟨x40,hx41,h⟩:=bindS h
 refine lg (attribute_Join_L0 a0) (fun s1:Int=>([(0,(qe_aUnknown_3 a0)),(11,(qe_aUnknown_3 a0)),(12,(i6 (a0.length:Int))),(13,(i6 s1))]:EL)) (fun s1:Int=>([]:OL)) (fun(x:(Unit)⊕(Unit)) e E' O'=>match x with | (.inl _p)=>e = .ret∧Mat B E' O' ([(2,.nils),(3,(i6 1))]:EL) ([]:OL) | (.inr _p)=>e = .exit 0∧Mat B E' O' ([(0,(qe_aUnknown_3 a0))]:EL) ([]:OL)) hx41 (mp [] _ _ hB) (fun s1 y h => ?_) (fun e E' O' hR => ?_)
 ·unfold attribute_Join_L0 at h
  refine sr (SQ tt) ?_
  apply AWp.seq
  apply AWp.cond rfl<;>intro hg28
  ·have h:=ite_t hg28 h
   apply AWp.skip
   apply seqQ_n
   apply AWp.seq
   apply AWp.block
   obtain⟨x29,hx29,h⟩:=bindS h
   refine sr (SQ (fa hx29 tt)) ?_
   apply AWp.seq
   refine AWp.cut h (fun m34:Bool=>([(0,(qe_aUnknown_3 a0)),(11,(qe_aUnknown_3 a0)),(12,(i6 (a0.length:Int))),(13,(i6 s1)),(32,(bo m34))]:EL)) (fun m34:Bool=>([]:OL)) (fun m34 h E' O' hmat => ?_) (fun j35 hjj35 h => ?_)
   ·apply seqQ_n
    refine AWp.ghost hmat ?_
    apply AWp.cond rfl<;>intro hg36
    ·have h:=ite_t hg36 h
     refine sr (SQ tt) ?_
     apply AWp.ret
     apply blkQ_r
     apply seqQ_r
     obtain rfl:=oi h
     exact⟨(fun hc=>by cases hc),rfl,(mp [] _ _ hB)⟩
    ·have h:=ite_f hg36 h
     apply AWp.skip
     apply blkQ_n
     apply seqQ_n
     refine rg (SQ tt) ?_
     obtain rfl:=oi h
     exact⟨rfl,(mp [] _ _ hB)⟩
   ·obtain⟨r37,hr37,h⟩:=bindS h
    rcases bft (!r37) with hg38 | hg38
    ·have h:=ite_t hg38 h
     refine rg (SQ (fa (cl [] (attribute_within_ac x29.fFlags 0 255 r37 hr37)) (fa hg38 tt))) ?_
     exact hjj35 _ h _ _ (mp [] _ _ hB)
    ·have h:=ite_f hg38 h
     obtain⟨r39,hr39,h⟩:=bindS h
     refine rg (SQ (fa (cl [] (attribute_within_ac x29.fFlags 0 255 r37 hr37)) (fa hg38 (fa (cl [] (attribute_within_ac x29.fType 0 255 r39 hr39)) tt)))) ?_
     exact hjj35 _ h _ _ (mp [] _ _ hB)
  ·have h:=ite_f hg28 h
   apply AWp.exit
   apply seqQ_e
   obtain rfl:=oi h
   exact⟨(fun hc=>by cases hc),rfl,(mp [] _ _ hB)⟩
 ·rcases x40 with _ | _
  ·obtain⟨rfl,hmat⟩:=hR
   apply blkQ_r
   apply seqQ_r
   obtain rfl:=oi h
   exact rt (Mat.trans hmat (Mat.trans (Mat.coeP (Ts:=[(2,(.d (.list 1 (([]:List Int).map (eI .u8)))))]) (Bs:=[]) (TwT.cons (x:=.nils) (by rfl) (Tw.leaf ⟨_,(Co.nils 1),rfl⟩) TwT.nil) TwB.nil) (mp [] [(2,(.d (.list 1 (([]:List Int).map (eI .u8))))),(3,(i6 1))] [] hB))) [(.d (.list 1 (([]:List Int).map (eI .u8)))),(i6 1)] (Res.tmp (by rfl) (by rfl) (Res.tmp (by rfl) (by rfl) Res.nil)) rfl
  ·obtain⟨rfl,hmat⟩:=hR
   apply blkQ_hit
   apply seqQ_n
   refine AWp.ghost hmat ?_
   refine sr (SQ tt) ?_
   apply AWp.seq
   refine sr (SQ tt) ?_
   apply AWp.block
   obtain⟨x81,hx82,h⟩:=bindS h
   refine lg (attribute_Join_L1 a0) (fun s42:Int×(List Int)=>([(6,(.sref 3006 1 0 s42.2.length)),(34,(qe_aUnknown_3 a0)),(35,(i6 (a0.length:Int))),(36,(i6 s42.1))]:EL)) (fun s42:Int×(List Int)=>([(3006,some (.row 5 1 (s42.2.map (eI .u8))))]:OL)) (fun(x:(Unit)⊕((List Int))) e E' O'=>match x with | (.inl _p)=>e = .ret∧Mat B E' O' ([(2,.nils),(3,(i6 3))]:EL) ([]:OL) | (.inr p68)=>e = .exit 2∧Mat B E' O' ([(6,(.sref 3006 1 0 p68.length))]:EL) ([(3006,some (.row 5 1 (p68.map (eI .u8))))]:OL)) hx82 (Mat.trans (Mat.beginP (n:=3006) (e:=5) (sz:=1) (Ts:=[(6,(.sref 3006 1 0 0))]) (Bs:=[]) hB (by decide) (by rfl) (by decide) (TwT.cons (x:=.nils) (by rfl) (Tw.leaf ⟨rfl,rfl⟩) TwT.nil) TwB.nil) (mp [] _ _ hB)) (fun s42 y h => ?_) (fun e E' O' hR => ?_)
   ·unfold attribute_Join_L1 at h
    refine sr (SQ tt) ?_
    apply AWp.seq
    apply AWp.cond rfl<;>intro hg69
    ·have h:=ite_t hg69 h
     apply AWp.skip
     apply seqQ_n
     apply AWp.seq
     apply AWp.block
     obtain⟨x70,hx70,h⟩:=bindS h
     refine sr (SQ (fa hx70 tt)) ?_
     refine sdS (SQ tt) ?_
     apply AWp.seq
     refine sr (SQ tt) ?_
     refine gh [(6,_),(8,_),(9,_),(10,_),(34,_),(35,_),(36,_),(48,_)] [(1008,some _),(3006,some _)] hB rfl rfl (by rfl) ?_
     refine AWp.cut h (fun m74:(List Int)=>([(6,(.sref 3006 1 0 m74.length)),(8,(pt 1008)),(34,(qe_aUnknown_3 a0)),(35,(i6 (a0.length:Int))),(36,(i6 s42.1))]:EL)) (fun m74:(List Int)=>([(1008,bd 69 (e_aUnknown x70)),(3006,some (.row 5 1 (m74.map (eI .u8))))]:OL)) (fun m74 h E' O' hmat => ?_) (fun j75 hjj75 h => ?_)
     ·apply seqQ_n
      refine AWp.ghost hmat ?_
      obtain⟨hc76,h⟩:=chk_some h
      refine sr (SQ (fa hc76 tt)) ?_
      refine sr (SQ tt) ?_
      apply AWp.cond rfl<;>intro hg77
      ·have h:=ite_t hg77 h
       refine sr (SQ tt) ?_
       apply AWp.ret
       apply blkQ_r
       apply seqQ_r
       obtain rfl:=oi h
       exact⟨(fun hc=>by cases hc),rfl,(mp [] _ _ hB)⟩
      ·have h:=ite_f hg77 h
       apply AWp.skip
       apply blkQ_n
       apply seqQ_n
       refine rg (SQ tt) ?_
       obtain rfl:=oi h
       exact⟨rfl,(mp [(3006,1074)] _ _ hB)⟩
     ·apply AWp.cond rfl<;>intro hg78
      ·have h:=ite_t hg78 h
       obtain⟨hc79,h⟩:=chk_some h
       refine rg (SQ (fa hc79 tt)) ?_
       exact hjj75 _ h _ _ (mp [(3006,1061)] _ _ hB)
      ·have h:=ite_f hg78 h
       obtain⟨hc80,h⟩:=chk_some h
       refine rg (SQ (fa hc80 tt)) ?_
       exact hjj75 _ h _ _ (mp [(3006,1070)] _ _ hB)
    ·have h:=ite_f hg69 h
     apply AWp.exit
     apply seqQ_e
     obtain rfl:=oi h
     exact⟨(fun hc=>by cases hc),rfl,(mp [] _ _ hB)⟩
   ·rcases x81 with _ | p68
    ·obtain⟨rfl,hmat⟩:=hR
     apply blkQ_r
     apply seqQ_r
     obtain rfl:=oi h
     exact rt (Mat.trans hmat (Mat.trans (Mat.coeP (Ts:=[(2,(.d (.list 1 (([]:List Int).map (eI .u8)))))]) (Bs:=[]) (TwT.cons (x:=.nils) (by rfl) (Tw.leaf ⟨_,(Co.nils 1),rfl⟩) TwT.nil) TwB.nil) (mp [] [(2,(.d (.list 1 (([]:List Int).map (eI .u8))))),(3,(i6 3))] [] hB))) [(.d (.list 1 (([]:List Int).map (eI .u8)))),(i6 3)] (Res.tmp (by rfl) (by rfl) (Res.tmp (by rfl) (by rfl) Res.nil)) rfl
    ·obtain⟨rfl,hmat⟩:=hR
     apply blkQ_hit
     apply seqQ_n
     refine AWp.ghost hmat ?_
     refine sr (SQ tt) ?_
     apply AWp.ret
     obtain rfl:=oi h
     exact rt (Mat.trans (Mat.freezeP (n:=3006) (e:=5) (sz:=1) (es:=p68.map (eI .u8)) (Ts:=[(2,(.d (.list 1 (p68.map (eI .u8)))))]) (Bs:=[]) (by rfl) (TwT.cons (x:=(.sref 3006 1 0 p68.length)) (by rfl) (FrzL.all (by first | rfl | (simp;done) | (simp;omega) | omega)) TwT.nil) TwB.nil) (mp [] [(2,(.d (.list 1 (p68.map (eI .u8))))),(3,(i6 0))] [] hB)) [(.d (.list 1 (p68.map (eI .u8)))),(i6 0)] (Res.tmp (by rfl) (by rfl) (Res.tmp (by rfl) (by rfl) Res.nil)) rfl
def update_put_2 (a0:Int):Option ((List Int)) :=
 chk (decide (([(IntKind.u8.wrap (shrI .i64 a0 8)),(IntKind.u8.wrap a0)]:List Int).length≤LIM)) <|
 some ([(IntKind.u8.wrap (shrI .i64 a0 8)),(IntKind.u8.wrap a0)]:List Int)
theorem update_put_2_ac (a0:Int) (r:(List Int)) (h:update_put_2 a0=some r):AC Tryz.prog 115 [.nils,(.d (.int .i64 a0))] [] (.sref 900000 1 0 r.length) [(900000,some (.row 5 1 (r.map (eI .u8))))]:=by
 refine AC.of_code2 Tryz.func115 rfl rfl (Nat.le_of_ble_eq_true (by rfl)) fun B hB hN => ?_
 delta update_put_2 at h
 refine sr (SQ tt) ?_
 obtain⟨hc1,h⟩:=chk_some h
 refine sr (SQ (fa hc1 tt)) ?_
 apply AWp.ret
 obtain rfl:=oi h
 exact rt (mp [(900000,1012)] [(4,(.sref 900000 1 0 (([(IntKind.u8.wrap (shrI .i64 a0 8)),(IntKind.u8.wrap a0)]:List Int).length)))] [(900000,some (.row 5 1 (([(IntKind.u8.wrap (shrI .i64 a0 8)),(IntKind.u8.wrap a0)]:List Int).map (eI .u8))))] hB) [(.sref 900000 1 0 (([(IntKind.u8.wrap (shrI .i64 a0 8)),(IntKind.u8.wrap a0)]:List Int).length))] (Res.tmp (by rfl) (by rfl) Res.nil) rfl
def update_put_4 (a0:(List Int)) (a1:Int):Option ((List Int)) :=
 chk (decide ((a0++([(IntKind.u8.wrap (shrI .i64 a1 8)),(IntKind.u8.wrap a1)]:List Int)).length≤LIM)) <|
 some (a0++([(IntKind.u8.wrap (shrI .i64 a1 8)),(IntKind.u8.wrap a1)]:List Int))
theorem update_put_4_ac (a0:(List Int)) (a1:Int) (r:(List Int)) (h:update_put_4 a0 a1=some r):AC Tryz.prog 115 [(.sref 0 1 0 a0.length),(.d (.int .i64 a1))] [(0,(.row 5 1 (a0.map (eI .u8))))] (.sref 900000 1 0 r.length) [(0,none),(900000,some (.row 5 1 (r.map (eI .u8))))]:=by
 refine AC.of_code2 Tryz.func115 rfl rfl (Nat.le_of_ble_eq_true (by rfl)) fun B hB hN => ?_
 delta update_put_4 at h
 refine sr (SQ tt) ?_
 obtain⟨hc1,h⟩:=chk_some h
 have hc1_o:=hc1
 simp only [Bool.and_eq_true,decide_eq_true_eq] at hc1_o
 refine sr (SQ (fa hc1 tt)) ?_
 apply AWp.ret
 obtain rfl:=oi h
 exact rt (mp [(900000,1012)] [(4,(.sref 900000 1 0 ((a0++([(IntKind.u8.wrap (shrI .i64 a1 8)),(IntKind.u8.wrap a1)]:List Int)).length)))] [(900000,some (.row 5 1 ((a0++([(IntKind.u8.wrap (shrI .i64 a1 8)),(IntKind.u8.wrap a1)]:List Int)).map (eI .u8))))] hB) [(.sref 900000 1 0 ((a0++([(IntKind.u8.wrap (shrI .i64 a1 8)),(IntKind.u8.wrap a1)]:List Int)).length))] (Res.tmp (by rfl) (by rfl) Res.nil) rfl
def update_body (a0:aUpdate):Option ((List Int)×Bool) :=
 (update_list a0).bind fun r1 =>
 (attribute_Join r1).bind fun r2 =>
 (update_codes_2 a0.fWithdraw false).bind fun r3 =>
 (update_put_2 (r3.length:Int)).bind fun r4 =>
 chk (decide ((r4++r3).length≤LIM)) <|
 (update_put_4 (r4++r3) (r2.1.length:Int)).bind fun r6 =>
 chk (decide ((r6++r2.1).length≤LIM)) <|
 (update_codes (r6++r2.1) a0.fAnnounce false).bind fun r8 =>
 some (r8,((r2.2==0)&&(decide ((r8.length:Int)≤4077))))
theorem update_body_ac (a0:aUpdate) (r:(List Int)×Bool) (h:update_body a0=some r):AC Tryz.prog 92 [(.d (e_aUpdate a0))] [(500,(.know (globD 0 (.imap gv0))))] (.tup [(.d (.list 1 (r.1.map (eI .u8)))),(.d (.bool r.2))]) [(500,some (.know (globD 0 (.imap gv0))))]:=by
 refine ac2 Tryz.func92 rfl rfl fun B hB hN L => ?_
 delta update_body at h
 refine sr (SQ tt) ?_
 apply AWp.seq
 obtain⟨r1,hr1,h⟩:=bindS h
 obtain⟨r2,hr2,h⟩:=bindS h
 refine rg (SQ (fa (cl [(500,500)] (update_list_ac a0 r1 hr1)) (fa (cl [] (attribute_Join_ac r1 r2 hr2)) tt))) ?_
 apply seqQ_n
 refine AWp.ghost (mp [] [(1,(pt 1001)),(4,(.d (.list 1 (r2.1.map (eI .u8))))),(5,(i6 r2.2))] [(500,some (.know (globD 0 (.imap gv0)))),(1001,bd 61 (e_aUpdate a0))] hB) ?_
 obtain⟨r3,hr3,h⟩:=bindS h
 refine sr (SQ (fa (cl [] (update_codes_2_ac a0.fWithdraw false r3 hr3)) tt)) ?_
 apply AWp.seq
 obtain⟨r4,hr4,h⟩:=bindS h
 obtain⟨hc5,h⟩:=chk_some h
 refine rg (SQ (fa (cl [(900000,100300)] (update_put_2_ac (r3.length:Int) r4 hr4)) (fa hc5 tt))) ?_
 apply seqQ_n
 refine AWp.ghost (mp [] [(1,(pt 1001)),(4,(.d (.list 1 (r2.1.map (eI .u8))))),(5,(i6 r2.2)),(7,(.sref 1021 1 0 ((r4++r3).length)))] [(500,some (.know (globD 0 (.imap gv0)))),(1001,bd 61 (e_aUpdate a0)),(1021,some (.row 5 1 ((r4++r3).map (eI .u8))))] hB) ?_
 apply AWp.seq
 obtain⟨r6,hr6,h⟩:=bindS h
 obtain⟨hc7,h⟩:=chk_some h
 refine rg (SQ (fa (cl [(0,1021),(900000,100400)] (update_put_4_ac (r4++r3) (r2.1.length:Int) r6 hr6)) (fa hc7 tt))) ?_
 apply seqQ_n
 refine AWp.ghost (mp [] [(1,(pt 1001)),(5,(i6 r2.2)),(7,(.sref 1027 1 0 ((r6++r2.1).length)))] [(500,some (.know (globD 0 (.imap gv0)))),(1001,bd 61 (e_aUpdate a0)),(1027,some (.row 5 1 ((r6++r2.1).map (eI .u8))))] hB) ?_
 apply AWp.seq
 obtain⟨r8,hr8,h⟩:=bindS h
 refine rg (SQ (fa (cl [(0,1027)] (update_codes_ac (r6++r2.1) a0.fAnnounce false r8 hr8)) tt)) ?_
 apply seqQ_n
 refine AWp.ghost (mp [] [(5,(i6 r2.2)),(7,(.d (.list 1 (r8.map (eI .u8)))))] [(500,some (.know (globD 0 (.imap gv0))))] hB) ?_
 refine sr (SQ tt) ?_
 apply AWp.ret
 obtain rfl:=oi h
 exact rt (kp [(2,_),(3,_)] [(500,some _)] hB rfl rfl (by rfl)) [(.d (.list 1 (r8.map (eI .u8)))),(bo ((r2.2==0)&&(decide ((r8.length:Int)≤4077))))] (Res.tmp (by rfl) (by rfl) (Res.tmp (by rfl) (by rfl) Res.nil)) rfl
def update_Valid (a0:aUpdate):Option (Bool) :=
 jn (fun m7:Bool =>
 (if m7=true then
 some false
 else
 (update_body a0).bind fun r10 =>
 some r10.2)) (fun j8 =>
 (if ((decide (256<(a0.fWithdraw.length:Int))) || (decide (256<(a0.fAnnounce.length:Int))))=true then
 j8 true
 else
 (slices_ContainsFunc a0.fWithdraw).bind fun r12 =>
 (if r12=true then
 j8 true
 else
 (slices_ContainsFunc a0.fAnnounce).bind fun r14 =>
 (if r14=true then
 j8 true
 else
 (update_fits a0).bind fun r16 =>
 j8 (!r16)))))
theorem update_Valid_ac (a0:aUpdate) (r:Bool) (h:update_Valid a0=some r):AC Tryz.prog 52 [(.d (e_aUpdate a0))] [(500,(.know (globD 0 (.imap gv0))))] (.d (.bool r)) [(500,some (.know (globD 0 (.imap gv0))))]:=by
 refine ac2 Tryz.func52 rfl rfl fun B hB hN L => ?_
 delta update_Valid at h
 refine sr (SQ tt) ?_
 refine sr (SQ tt) ?_
 apply AWp.seq
 apply AWp.seq
 refine AWp.cut h (fun m7:Bool=>([(1,(pt 1001)),(32,(bo m7))]:EL)) (fun m7:Bool=>([(500,some (.know (globD 0 (.imap gv0)))),(1001,bd 61 (e_aUpdate a0))]:OL)) (fun m7 h E' O' hmat => ?_) (fun j8 hjj8 h => ?_)
 ·apply seqQ_n
  refine AWp.ghost hmat ?_
  apply AWp.cond rfl<;>intro hg9
  ·have h:=ite_t hg9 h
   refine sr (SQ tt) ?_
   apply AWp.ret
   apply seqQ_r
   obtain rfl:=oi h
   exact rt (kp [(2,_)] [(500,some _)] hB rfl rfl (by rfl)) [(bo false)] (Res.tmp (by rfl) (by rfl) Res.nil) rfl
  ·have h:=ite_f hg9 h
   apply AWp.skip
   apply seqQ_n
   apply AWp.seq
   obtain⟨r10,hr10,h⟩:=bindS h
   refine rg (SQ (fa (cl [(500,500)] (update_body_ac a0 r10 hr10)) tt)) ?_
   apply seqQ_n
   refine AWp.ghost (mp [] [(5,(bo r10.2))] [(500,some (.know (globD 0 (.imap gv0))))] hB) ?_
   refine sr (SQ tt) ?_
   apply AWp.ret
   obtain rfl:=oi h
   exact rt (kp [(2,_)] [(500,some _)] hB rfl rfl (by rfl)) [(bo r10.2)] (Res.tmp (by rfl) (by rfl) Res.nil) rfl
 ·rcases bft ((decide (256<(a0.fWithdraw.length:Int))) || (decide (256<(a0.fAnnounce.length:Int)))) with hg11 | hg11
  ·have h:=ite_t hg11 h
   refine rg (SQ (fa hg11 tt)) ?_
   exact hjj8 _ h _ _ (mp [] _ _ hB)
  ·have h:=ite_f hg11 h
   obtain⟨r12,hr12,h⟩:=bindS h
   rcases bft r12 with hg13 | hg13
   ·have h:=ite_t hg13 h
    refine rg (SQ (fa hg11 (fa (cl [] (slices_ContainsFunc_ac a0.fWithdraw r12 hr12)) (fa hg13 tt)))) ?_
    exact hjj8 _ h _ _ (mp [] _ _ hB)
   ·have h:=ite_f hg13 h
    obtain⟨r14,hr14,h⟩:=bindS h
    rcases bft r14 with hg15 | hg15
    ·have h:=ite_t hg15 h
     refine rg (SQ (fa hg11 (fa (cl [] (slices_ContainsFunc_ac a0.fWithdraw r12 hr12)) (fa hg13 (fa (cl [] (slices_ContainsFunc_ac a0.fAnnounce r14 hr14)) (fa hg15 tt)))))) ?_
     exact hjj8 _ h _ _ (mp [] _ _ hB)
    ·have h:=ite_f hg15 h
     obtain⟨r16,hr16,h⟩:=bindS h
     refine rg (SQ (fa hg11 (fa (cl [] (slices_ContainsFunc_ac a0.fWithdraw r12 hr12)) (fa hg13 (fa (cl [] (slices_ContainsFunc_ac a0.fAnnounce r14 hr14)) (fa hg15 (fa (cl [(500,500)] (update_fits_ac a0 r16 hr16)) tt))))))) ?_
     exact hjj8 _ h _ _ (mp [] _ _ hB)
def pack_sound (a0:aChange):Option (Bool) :=
 jn (fun m8:Bool =>
 some m8) (fun j9 =>
 (prefix_Valid a0.fPrefix).bind fun r10 =>
 (if r10=true then
 (if (!a0.fHas)=true then
 j9 true
 else
 (if (((a0.fRoute.fPrefix.fAddr.fV6==a0.fPrefix.fAddr.fV6)&&((a0.fRoute.fPrefix.fAddr.fHi==a0.fPrefix.fAddr.fHi)&&((a0.fRoute.fPrefix.fAddr.fLo==a0.fPrefix.fAddr.fLo)&&true)))&&((a0.fRoute.fPrefix.fLen==a0.fPrefix.fLen)&&true))=true then
 (pack_message a0.fRoute.fAttrs [a0.fPrefix] true).bind fun r14 =>
 (update_Valid r14).bind fun r15 =>
 j9 r15
 else
 j9 false))
 else
 j9 false))
theorem pack_sound_ac (a0:aChange) (r:Bool) (h:pack_sound a0=some r):AC Tryz.prog 28 [(.d (e_aChange a0))] [(500,(.know (globD 0 (.imap gv0))))] (.d (.bool r)) [(500,some (.know (globD 0 (.imap gv0))))]:=by
 refine ac2 Tryz.func28 rfl rfl fun B hB hN L => ?_
 delta pack_sound at h
 refine sr (SQ tt) ?_
 apply AWp.seq
 refine AWp.cut h (fun m8:Bool=>([(2,(bo m8))]:EL)) (fun m8:Bool=>([(500,some (.know (globD 0 (.imap gv0))))]:OL)) (fun m8 h E' O' hmat => ?_) (fun j9 hjj9 h => ?_)
 ·apply seqQ_n
  refine AWp.ghost hmat ?_
  apply AWp.ret
  obtain rfl:=oi h
  exact rt (kp [(2,_)] [(500,some _)] hB rfl rfl (by rfl)) [(bo m8)] (Res.tmp (by rfl) (by rfl) Res.nil) rfl
 ·obtain⟨r10,hr10,h⟩:=bindS h
  rcases bft r10 with hg11 | hg11
  ·have h:=ite_t hg11 h
   rcases bft (!a0.fHas) with hg12 | hg12
   ·have h:=ite_t hg12 h
    refine rg (SQ (fa (cl [] (prefix_Valid_ac a0.fPrefix r10 hr10)) (fa hg11 (fa hg12 tt)))) ?_
    exact hjj9 _ h _ _ (mp [] _ _ hB)
   ·have h:=ite_f hg12 h
    rcases bft (((a0.fRoute.fPrefix.fAddr.fV6==a0.fPrefix.fAddr.fV6)&&((a0.fRoute.fPrefix.fAddr.fHi==a0.fPrefix.fAddr.fHi)&&((a0.fRoute.fPrefix.fAddr.fLo==a0.fPrefix.fAddr.fLo)&&true)))&&((a0.fRoute.fPrefix.fLen==a0.fPrefix.fLen)&&true)) with hg13 | hg13
    ·have h:=ite_t hg13 h
     obtain⟨r14,hr14,h⟩:=bindS h
     obtain⟨r15,hr15,h⟩:=bindS h
     refine AWp.region (oc (ov (.ptr 1001 1 [1]) (fp hN underlying39 1 tyS29 (.box 39 (.d (e_aChange a0))) (ot 1 (pt 1001))))
      (oc (lb hN 39 (.d (e_aChange a0)) (.d (e_aPrefix a0.fPrefix)) tyS29 (ad (e_aPrefix a0.fPrefix)) (ot 3 (.ptr 1001 1 [1])))
      (oc (cf hB fnOk51 (prefix_Valid_ac a0.fPrefix r10 hr10) (L rfl) (OpdL.cons (ot 4 (.d (e_aPrefix a0.fPrefix))) OpdL.nil))
      (oc (OpJ.val (v':=.d (.bool true)) (by rw [hg11]<;>rfl) (mv hN (ot 5 (bo r10))))
      (oc (gd 6 (ov (.ptr 1001 5 [2]) (fp hN underlying39 5 tyS4 (.box 39 (.d (e_aChange a0))) (ot 1 (pt 1001)))))
      (oc (gd 6 (lb hN 39 (.d (e_aChange a0)) (bo a0.fHas) tyS4 (ad (.bool a0.fHas)) (ot 7 (.ptr 1001 5 [2]))))
      (oc (gd 6 (OpJ.not (L rfl) (ot 8 (bo a0.fHas))))
      (oc (gd 6 (OpJ.val (v':=.d (.bool false)) (by rw [hg12]<;>rfl) (mv hN (ot 9 (bo (!a0.fHas))))))
      (oc (gd 10 (ov (.ptr 1001 6 [3]) (fp hN underlying39 6 tyS37 (.box 39 (.d (e_aChange a0))) (ot 1 (pt 1001)))))
      (oc (gd 10 (ov (.ptr 1001 6 [3,0]) (fp hN underlying37 0 tyS29 (.box 39 (.d (e_aChange a0))) (ot 11 (.ptr 1001 6 [3])))))
      (oc (gd 10 (lb hN 39 (.d (e_aChange a0)) (.d (e_aPrefix a0.fRoute.fPrefix)) tyS29 (At.dst1 (f:=(e_aRoute a0.fRoute)) (by rfl) (by rfl) (ad (e_aPrefix a0.fRoute.fPrefix)) (by first | rfl | omega)) (ot 12 (.ptr 1001 6 [3,0]))))
      (oc (gd 10 (ov (.ptr 1001 1 [1]) (fp hN underlying39 1 tyS29 (.box 39 (.d (e_aChange a0))) (ot 1 (pt 1001)))))
      (oc (gd 10 (lb hN 39 (.d (e_aChange a0)) (.d (e_aPrefix a0.fPrefix)) tyS29 (ad (e_aPrefix a0.fPrefix)) (ot 14 (.ptr 1001 1 [1]))))
      (oc (gd 10 (OpJ.eqlD (h:=3) (FitE.st underlying29 rfl held29 (FitF.cons (x:=(e_aAddr a0.fRoute.fPrefix.fAddr)) (y:=(e_aAddr a0.fPrefix.fAddr)) (by decide) rfl tyS27 ⟨rfl,rfl⟩ ⟨rfl,rfl⟩ (FitE.st underlying27 rfl held27 (FitF.cons (x:=(.bool a0.fRoute.fPrefix.fAddr.fV6)) (y:=(.bool a0.fPrefix.fAddr.fV6)) (by decide) rfl tyS4 ⟨rfl,rfl⟩ ⟨rfl,rfl⟩ (FitE.bool (h:=0) a0.fRoute.fPrefix.fAddr.fV6 a0.fPrefix.fAddr.fV6 underlying4) (FitF.cons (x:=(.int .u64 a0.fRoute.fPrefix.fAddr.fHi)) (y:=(.int .u64 a0.fPrefix.fAddr.fHi)) (by decide) rfl tyS25 ⟨rfl,rfl⟩ ⟨rfl,rfl⟩ (FitE.int (h:=0) a0.fRoute.fPrefix.fAddr.fHi a0.fPrefix.fAddr.fHi underlying25) (FitF.cons (x:=(.int .u64 a0.fRoute.fPrefix.fAddr.fLo)) (y:=(.int .u64 a0.fPrefix.fAddr.fLo)) (by decide) rfl tyS25 ⟨rfl,rfl⟩ ⟨rfl,rfl⟩ (FitE.int (h:=0) a0.fRoute.fPrefix.fAddr.fLo a0.fPrefix.fAddr.fLo underlying25) FitF.nil)))) (FitF.cons (x:=(.int .i64 a0.fRoute.fPrefix.fLen)) (y:=(.int .i64 a0.fPrefix.fLen)) (by decide) rfl tyS3 ⟨rfl,rfl⟩ ⟨rfl,rfl⟩ (FitE.int (h:=1) a0.fRoute.fPrefix.fLen a0.fPrefix.fLen underlying3) FitF.nil))) eqg29 ⟨rfl,rfl⟩ (by rfl) (L rfl) (ot 13 (.d (e_aPrefix a0.fRoute.fPrefix))) (ot 15 (.d (e_aPrefix a0.fPrefix)))))
      (oc (gd 10 (OpJ.val (v':=.d (.bool true)) (by rw [hg13]<;>rfl) (mv hN (ot 16 (bo (((a0.fRoute.fPrefix.fAddr.fV6==a0.fPrefix.fAddr.fV6)&&((a0.fRoute.fPrefix.fAddr.fHi==a0.fPrefix.fAddr.fHi)&&((a0.fRoute.fPrefix.fAddr.fLo==a0.fPrefix.fAddr.fLo)&&true)))&&((a0.fRoute.fPrefix.fLen==a0.fPrefix.fLen)&&true)))))))
      (oc (gd 17 (ov (.ptr 1001 6 [3]) (fp hN underlying39 6 tyS37 (.box 39 (.d (e_aChange a0))) (ot 1 (pt 1001)))))
      (oc (gd 17 (ov (.ptr 1001 11 [3,2]) (fp hN underlying37 5 tyS35 (.box 39 (.d (e_aChange a0))) (ot 18 (.ptr 1001 6 [3])))))
      (oc (gd 17 (lb hN 39 (.d (e_aChange a0)) (.d (e_aAttrs a0.fRoute.fAttrs)) tyS35 (At.dst1 (f:=(e_aRoute a0.fRoute)) (by rfl) (by rfl) (ad (e_aAttrs a0.fRoute.fAttrs)) (by first | rfl | omega)) (ot 19 (.ptr 1001 11 [3,2]))))
      (oc (gd 17 (ov (.ptr 1001 1 [1]) (fp hN underlying39 1 tyS29 (.box 39 (.d (e_aChange a0))) (ot 1 (pt 1001)))))
      (oc (gd 17 (lb hN 39 (.d (e_aChange a0)) (.d (e_aPrefix a0.fPrefix)) tyS29 (ad (e_aPrefix a0.fPrefix)) (ot 21 (.ptr 1001 1 [1]))))
      (oc (gd 17 (buildSlice underlying59 tyS29 tyZD29 (by rfl) (by decide) (by decide) (Opds.cons (ot 22 (.d (e_aPrefix a0.fPrefix))) Opds.nil) (by kernel_rfl) (es:=([(e_aPrefix a0.fPrefix)]:List D)) (by rfl) (by rfl) (by kernel_rfl) (by simp) (L rfl)))
      (oc (gd 17 (cf hB fnOk53 (pack_message_ac a0.fRoute.fAttrs [a0.fPrefix] true r14 hr14) (L rfl) (OpdL.cons (ot 20 (.d (e_aAttrs a0.fRoute.fAttrs))) (OpdL.cons (ot 23 (qe_aPrefix_4 [a0.fPrefix])) (OpdL.cons (Opd.bool true) OpdL.nil)))))
      (oc (gd 17 (OpJ.callFn hB fnOk52 (update_Valid_ac r14 r15 hr15) [(500,500)] (by kernel_rfl) (L rfl) (by kernel_rfl) (OpdL.cons (ot 24 (.d (e_aUpdate r14))) OpdL.nil)))
      (oc (gd 10 (pickT (L rfl) (ot 17 (bo true)) (ot 25 (bo r15))))
      (oc (gd 6 (pickF (L rfl) (ot 10 (bo false)) (ot 26 (bo r15))))
      (oc (pickT (L rfl) (ot 6 (bo true)) (ot 27 (bo r15)))
      (oc (assign (L rfl) (ot 28 (bo r15)))
      (OpJs.nil)))))))))))))))))))))))))))) (by rfl) (by rfl) ?_
     exact hjj9 _ h _ _ (mp [] _ _ hB)
    ·have h:=ite_f hg13 h
     apply rg (c (fo 1001 1 [1] hN underlying39 1 tyS29 (q 1)) rfl (c (la hN 39 tyS29 (q 3)) rfl (cg (cf hB fnOk51 (prefix_Valid_ac a0.fPrefix r10 hr10) (L rfl) (OpdL.cons (q 4) OpdL.nil)) rfl (c (OpJ.val (v':=.d (.bool true)) (by rw [hg11]<;>rfl) (mv hN (q 5))) rfl (c (gd 6 (fo 1001 5 [2] hN underlying39 5 tyS4 (q 1))) rfl (c (gd 6 (la hN 39 tyS4 (q 7))) rfl (c (gd 6 (OpJ.not (L rfl) (q 8))) rfl (c (gd 6 (OpJ.val (v':=.d (.bool false)) (by rw [hg12]<;>rfl) (mv hN (q 9)))) rfl (c (gd 10 (fo 1001 6 [3] hN underlying39 6 tyS37 (q 1))) rfl (c (gd 10 (fo 1001 6 [3,0] hN underlying37 0 tyS29 (q 11))) rfl (c (gd 10 (lb hN 39 _ _ tyS29 (At.dst1 (by rfl) (by rfl) (ad _) (by first | rfl | omega)) (q 12))) rfl (c (gd 10 (fo 1001 1 [1] hN underlying39 1 tyS29 (q 1))) rfl (c (gd 10 (la hN 39 tyS29 (q 14))) rfl (c (gd 10 (OpJ.eqlD (h:=3) (FitE.st underlying29 rfl held29 (FitF.cons (x:=(e_aAddr a0.fRoute.fPrefix.fAddr)) (y:=(e_aAddr a0.fPrefix.fAddr)) (by decide) rfl tyS27 ⟨rfl,rfl⟩ ⟨rfl,rfl⟩ (FitE.st underlying27 rfl held27 (FitF.cons (x:=(.bool a0.fRoute.fPrefix.fAddr.fV6)) (y:=(.bool a0.fPrefix.fAddr.fV6)) (by decide) rfl tyS4 ⟨rfl,rfl⟩ ⟨rfl,rfl⟩ (FitE.bool (h:=0) a0.fRoute.fPrefix.fAddr.fV6 a0.fPrefix.fAddr.fV6 underlying4) (FitF.cons (x:=(.int .u64 a0.fRoute.fPrefix.fAddr.fHi)) (y:=(.int .u64 a0.fPrefix.fAddr.fHi)) (by decide) rfl tyS25 ⟨rfl,rfl⟩ ⟨rfl,rfl⟩ (FitE.int (h:=0) a0.fRoute.fPrefix.fAddr.fHi a0.fPrefix.fAddr.fHi underlying25) (FitF.cons (x:=(.int .u64 a0.fRoute.fPrefix.fAddr.fLo)) (y:=(.int .u64 a0.fPrefix.fAddr.fLo)) (by decide) rfl tyS25 ⟨rfl,rfl⟩ ⟨rfl,rfl⟩ (FitE.int (h:=0) a0.fRoute.fPrefix.fAddr.fLo a0.fPrefix.fAddr.fLo underlying25) FitF.nil)))) (FitF.cons (x:=(.int .i64 a0.fRoute.fPrefix.fLen)) (y:=(.int .i64 a0.fPrefix.fLen)) (by decide) rfl tyS3 ⟨rfl,rfl⟩ ⟨rfl,rfl⟩ (FitE.int (h:=1) a0.fRoute.fPrefix.fLen a0.fPrefix.fLen underlying3) FitF.nil))) eqg29 ⟨rfl,rfl⟩ (by rfl) (L rfl) (q 13) (q 15))) rfl (c (gd 10 (OpJ.val (v':=.d (.bool false)) (by rw [hg13]<;>rfl) (mv hN (q 16)))) rfl (ks 17 (L rfl) (ks 17 (L rfl) (ks 17 (L rfl) (ks 17 (L rfl) (ks 17 (L rfl) (ks 17 (L rfl) (ks 17 (L rfl) (ks 17 (L rfl) (c (gd 10 (pickF (L rfl) (q 17) (Opd.bool false))) rfl (c (gd 6 (pickF (L rfl) (q 10) (q 26))) rfl (c (pickT (L rfl) (q 6) (q 27)) rfl (c (assign (L rfl) (q 28)) rfl cn)))))))))))))))))))))))))))
     exact hjj9 _ h _ _ (mp [] _ _ hB)
  ·have h:=ite_f hg11 h
   refine rg (SQ (fa (cl [] (prefix_Valid_ac a0.fPrefix r10 hr10)) (fa hg11 tt))) ?_
   exact hjj9 _ h _ _ (mp [] _ _ hB)
def addr_family (a0:aAddr):Option (Int) :=
 (if a0.fV6=true then
 some 1
 else
 some 0)
theorem addr_family_ac (a0:aAddr) (r:Int) (h:addr_family a0=some r):AC Tryz.prog 95 [(.d (e_aAddr a0))] [] (.d (.int .i64 r)) []:=by
 refine AC.of_code2 Tryz.func95 rfl rfl (Nat.le_of_ble_eq_true (by rfl)) fun B hB hN => ?_
 delta addr_family at h
 refine sr (SQ tt) ?_
 apply AWp.seq
 refine sr (SQ tt) ?_
 apply AWp.cond rfl<;>intro hg1
 ·have h:=ite_t hg1 h
  refine sr (SQ tt) ?_
  apply AWp.ret
  apply seqQ_r
  obtain rfl:=oi h
  exact rt (kp [(2,_)] [] hB rfl rfl (by rfl)) [(i6 1)] (Res.tmp (by rfl) (by rfl) Res.nil) rfl
 ·have h:=ite_f hg1 h
  apply AWp.skip
  apply seqQ_n
  refine sr (SQ tt) ?_
  apply AWp.ret
  obtain rfl:=oi h
  exact rt (kp [(2,_)] [] hB rfl rfl (by rfl)) [(i6 0)] (Res.tmp (by rfl) (by rfl) Res.nil) rfl
def cmp_isNaN_2 (a0:Int):Option (Bool) :=
 some (a0 != a0)
theorem cmp_isNaN_2_ac (a0:Int) (r:Bool) (h:cmp_isNaN_2 a0=some r):AC Tryz.prog 116 [(.d (.int .u64 a0))] [] (.d (.bool r)) []:=by
 refine AC.of_code2 Tryz.func116 rfl rfl (Nat.le_of_ble_eq_true (by rfl)) fun B hB hN => ?_
 delta cmp_isNaN_2 at h
 refine sr (SQ tt) ?_
 refine sr (SQ tt) ?_
 apply AWp.ret
 obtain rfl:=oi h
 exact rt (kp [(2,_)] [] hB rfl rfl (by rfl)) [(bo (a0 != a0))] (Res.tmp (by rfl) (by rfl) Res.nil) rfl
def cmp_Compare_2 (a0:Int) (a1:Int):Option (Int) :=
 (cmp_isNaN_2 a0).bind fun r1 =>
 (cmp_isNaN_2 a1).bind fun r2 =>
 (if r1=true then
 (if r2=true then
 some 0
 else
 some (-1))
 else
 (if r2=true then
 some 1
 else
 (if (decide (a0<a1))=true then
 some (-1)
 else
 (if (decide (a1<a0))=true then
 some 1
 else
 some 0))))
theorem cmp_Compare_2_ac (a0:Int) (a1:Int) (r:Int) (h:cmp_Compare_2 a0 a1=some r):AC Tryz.prog 96 [(.d (.int .u64 a0)),(.d (.int .u64 a1))] [] (.d (.int .i64 r)) []:=by
 refine ac2 Tryz.func96 rfl rfl fun B hB hN L => ?_
 delta cmp_Compare_2 at h
 refine sr (SQ tt) ?_
 obtain⟨r1,hr1,h⟩:=bindS h
 refine sr (SQ (fa (cl [] (cmp_isNaN_2_ac a0 r1 hr1)) tt)) ?_
 obtain⟨r2,hr2,h⟩:=bindS h
 refine sr (SQ (fa (cl [] (cmp_isNaN_2_ac a1 r2 hr2)) tt)) ?_
 apply AWp.seq
 refine sr (SQ tt) ?_
 apply AWp.cond rfl<;>intro hg3
 ·have h:=ite_t hg3 h
  apply AWp.seq
  refine sr (SQ tt) ?_
  apply AWp.cond rfl<;>intro hg4
  ·have h:=ite_t hg4 h
   refine sr (SQ tt) ?_
   apply AWp.ret
   apply seqQ_r
   apply seqQ_r
   obtain rfl:=oi h
   exact rt (kp [(4,_)] [] hB rfl rfl (by rfl)) [(i6 0)] (Res.tmp (by rfl) (by rfl) Res.nil) rfl
  ·have h:=ite_f hg4 h
   apply AWp.skip
   apply seqQ_n
   refine sr (SQ tt) ?_
   apply AWp.ret
   apply seqQ_r
   obtain rfl:=oi h
   exact rt (kp [(4,_)] [] hB rfl rfl (by rfl)) [(i6 (-1))] (Res.tmp (by rfl) (by rfl) Res.nil) rfl
 ·have h:=ite_f hg3 h
  apply AWp.skip
  apply seqQ_n
  apply AWp.seq
  refine sr (SQ tt) ?_
  apply AWp.cond rfl<;>intro hg5
  ·have h:=ite_t hg5 h
   refine sr (SQ tt) ?_
   apply AWp.ret
   apply seqQ_r
   obtain rfl:=oi h
   exact rt (kp [(4,_)] [] hB rfl rfl (by rfl)) [(i6 1)] (Res.tmp (by rfl) (by rfl) Res.nil) rfl
  ·have h:=ite_f hg5 h
   apply AWp.skip
   apply seqQ_n
   apply AWp.seq
   refine sr (SQ tt) ?_
   apply AWp.cond rfl<;>intro hg6
   ·have h:=ite_t hg6 h
    refine sr (SQ tt) ?_
    apply AWp.ret
    apply seqQ_r
    obtain rfl:=oi h
    exact rt (kp [(4,_)] [] hB rfl rfl (by rfl)) [(i6 (-1))] (Res.tmp (by rfl) (by rfl) Res.nil) rfl
   ·have h:=ite_f hg6 h
    apply AWp.skip
    apply seqQ_n
    apply AWp.seq
    refine sr (SQ tt) ?_
    apply AWp.cond rfl<;>intro hg7
    ·have h:=ite_t hg7 h
     refine sr (SQ tt) ?_
     apply AWp.ret
     apply seqQ_r
     obtain rfl:=oi h
     exact rt (kp [(4,_)] [] hB rfl rfl (by rfl)) [(i6 1)] (Res.tmp (by rfl) (by rfl) Res.nil) rfl
    ·have h:=ite_f hg7 h
     apply AWp.skip
     apply seqQ_n
     refine sr (SQ tt) ?_
     apply AWp.ret
     obtain rfl:=oi h
     exact rt (kp [(4,_)] [] hB rfl rfl (by rfl)) [(i6 0)] (Res.tmp (by rfl) (by rfl) Res.nil) rfl
def addr_Cmp (a0:aAddr) (a1:aAddr):Option (Int) :=
 (addr_family a0).bind fun r1 =>
 (addr_family a1).bind fun r2 =>
 (cmp_Compare r1 r2).bind fun r3 =>
 (cmp_Compare_2 a0.fHi a1.fHi).bind fun r4 =>
 (cmp_Compare_2 a0.fLo a1.fLo).bind fun r5 =>
 (cmp_Or ([r3,r4,r5]:List Int)).bind fun r6 =>
 some r6
theorem addr_Cmp_ac (a0:aAddr) (a1:aAddr) (r:Int) (h:addr_Cmp a0 a1=some r):AC Tryz.prog 55 [(.d (e_aAddr a0)),(.d (e_aAddr a1))] [] (.d (.int .i64 r)) []:=by
 refine AC.of_code2 Tryz.func55 rfl rfl (Nat.le_of_ble_eq_true (by rfl)) fun B hB hN => ?_
 delta addr_Cmp at h
 refine sr (SQ tt) ?_
 obtain⟨r1,hr1,h⟩:=bindS h
 obtain⟨r2,hr2,h⟩:=bindS h
 obtain⟨r3,hr3,h⟩:=bindS h
 obtain⟨r4,hr4,h⟩:=bindS h
 obtain⟨r5,hr5,h⟩:=bindS h
 obtain⟨r6,hr6,h⟩:=bindS h
 refine sdS (SQ (fa (cl [] (addr_family_ac a0 r1 hr1)) (fa (cl [] (addr_family_ac a1 r2 hr2)) (fa (cl [] (cmp_Compare_ac r1 r2 r3 hr3)) (fa (cl [] (cmp_Compare_2_ac a0.fHi a1.fHi r4 hr4)) (fa (cl [] (cmp_Compare_2_ac a0.fLo a1.fLo r5 hr5)) (fa (cl [] (cmp_Or_ac ([r3,r4,r5]:List Int) r6 hr6)) tt))))))) ?_
 apply AWp.ret
 obtain rfl:=oi h
 exact rt (kp [(4,_)] [] hB rfl rfl (by rfl)) [(i6 r6)] (Res.tmp (by rfl) (by rfl) Res.nil) rfl
def prefix_Cmp (a0:aPrefix) (a1:aPrefix):Option (Int) :=
 (addr_Cmp a0.fAddr a1.fAddr).bind fun r1 =>
 (cmp_Compare a0.fLen a1.fLen).bind fun r2 =>
 (cmp_Or ([r1,r2]:List Int)).bind fun r3 =>
 some r3
theorem prefix_Cmp_ac (a0:aPrefix) (a1:aPrefix) (r:Int) (h:prefix_Cmp a0 a1=some r):AC Tryz.prog 29 [(.d (e_aPrefix a0)),(.d (e_aPrefix a1))] [] (.d (.int .i64 r)) []:=by
 refine AC.of_code2 Tryz.func29 rfl rfl (Nat.le_of_ble_eq_true (by rfl)) fun B hB hN => ?_
 delta prefix_Cmp at h
 refine sr (SQ tt) ?_
 obtain⟨r1,hr1,h⟩:=bindS h
 obtain⟨r2,hr2,h⟩:=bindS h
 obtain⟨r3,hr3,h⟩:=bindS h
 refine sdS (SQ (fa (cl [] (addr_Cmp_ac a0.fAddr a1.fAddr r1 hr1)) (fa (cl [] (cmp_Compare_ac a0.fLen a1.fLen r2 hr2)) (fa (cl [] (cmp_Or_ac ([r1,r2]:List Int) r3 hr3)) tt)))) ?_
 apply AWp.ret
 obtain rfl:=oi h
 exact rt (kp [(4,_)] [] hB rfl rfl (by rfl)) [(i6 r3)] (Res.tmp (by rfl) (by rfl) Res.nil) rfl
def slices_Equal_L0 (a0:(List Int)) (a1:(List Int)) (s2:Int):Option (((Unit)⊕(Unit))⊕(Int)) :=
 (if (decide (s2<(a0.length:Int)))=true then
 (idx a0 s2).bind fun x14 =>
 (idx a1 s2).bind fun x15 =>
 (if (x14 != x15)=true then
 some (.inl (.inl ()))
 else
 some (.inr (w64 (s2+1))))
 else
 some (.inl (.inr ())))
def slices_Equal (a0:(List Int)) (a1:(List Int)):Option (Bool) :=
 (if ((a0.length:Int) != (a1.length:Int))=true then
 some false
 else
 (loop (slices_Equal_L0 a0 a1) 0).bind fun x17=>match x17 with
 | (.inl _) =>
  some false
 | (.inr _) =>
  some true)
theorem slices_Equal_ac (a0:(List Int)) (a1:(List Int)) (r:Bool) (h:slices_Equal a0 a1=some r):AC Tryz.prog 58 [(.d (.list 1 (a0.map (eI .i64)))),(.d (.list 1 (a1.map (eI .i64))))] [] (.d (.bool r)) []:=by
 refine ac2 Tryz.func58 rfl rfl fun B hB hN L => ?_
 delta slices_Equal at h
 refine sr (SQ tt) ?_
 apply AWp.seq
 refine sr (SQ tt) ?_
 apply AWp.cond rfl<;>intro hg1
 ·have h:=ite_t hg1 h
  refine sr (SQ tt) ?_
  apply AWp.ret
  apply seqQ_r
  obtain rfl:=oi h
  exact rt (kp [(4,_)] [] hB rfl rfl (by rfl)) [(bo false)] (Res.tmp (by rfl) (by rfl) Res.nil) rfl
 ·have h:=ite_f hg1 h
  apply AWp.skip
  apply seqQ_n
  apply AWp.seq
  refine sr (SQ tt) ?_
  apply AWp.block
  obtain⟨x17,hx18,h⟩:=bindS h
  refine lg (slices_Equal_L0 a0 a1) (fun s2:Int=>([(0,(qI_1 a0)),(1,(qI_1 a1)),(12,(i6 (a0.length:Int))),(13,(i6 s2))]:EL)) (fun s2:Int=>([]:OL)) (fun(x:(Unit)⊕(Unit)) e E' O'=>match x with | (.inl _p)=>e = .ret∧Mat B E' O' ([(4,(bo false))]:EL) ([]:OL) | (.inr _p)=>e = .exit 0∧Mat B E' O' ([]:EL) ([]:OL)) hx18 (mp [] _ _ hB) (fun s2 y h => ?_) (fun e E' O' hR => ?_)
  ·unfold slices_Equal_L0 at h
   refine sr (SQ tt) ?_
   apply AWp.seq
   apply AWp.cond rfl<;>intro hg13
   ·have h:=ite_t hg13 h
    apply AWp.skip
    apply seqQ_n
    apply AWp.seq
    apply AWp.block
    refine sr (SQ tt) ?_
    obtain⟨_,hx14,h⟩:=bindS h
    obtain⟨_,hx15,h⟩:=bindS h
    refine sdS (SQ (fa hx14 (fa hx15 tt))) ?_
    apply AWp.cond rfl<;>intro hg16
    ·have h:=ite_t hg16 h
     refine sr (SQ tt) ?_
     apply AWp.ret
     apply blkQ_r
     apply seqQ_r
     obtain rfl:=oi h
     exact⟨(fun hc=>by cases hc),rfl,(mp [] _ _ hB)⟩
    ·have h:=ite_f hg16 h
     apply AWp.skip
     apply blkQ_n
     apply seqQ_n
     refine rg (SQ tt) ?_
     obtain rfl:=oi h
     exact⟨rfl,(mp [] _ _ hB)⟩
   ·have h:=ite_f hg13 h
    apply AWp.exit
    apply seqQ_e
    obtain rfl:=oi h
    exact⟨(fun hc=>by cases hc),rfl,(mp [] _ _ hB)⟩
  ·rcases x17 with _ | _
   ·obtain⟨rfl,hmat⟩:=hR
    apply blkQ_r
    apply seqQ_r
    obtain rfl:=oi h
    exact rt (Mat.trans hmat (mp [] [(4,(bo false))] [] hB)) [(bo false)] (Res.tmp (by rfl) (by rfl) Res.nil) rfl
   ·obtain⟨rfl,hmat⟩:=hR
    apply blkQ_hit
    apply seqQ_n
    refine AWp.ghost hmat ?_
    refine sr (SQ tt) ?_
    apply AWp.ret
    obtain rfl:=oi h
    exact rt (kp [(4,_)] [] hB rfl rfl (by rfl)) [(bo true)] (Res.tmp (by rfl) (by rfl) Res.nil) rfl
def alike_Attrs_1 (a0:aSegment) (a1:aSegment):Option (Bool) :=
 jn (fun m3:Bool =>
 some m3) (fun j4 =>
 (if (a0.fSet==a1.fSet)=true then
 (slices_Equal a0.fASNs a1.fASNs).bind fun r6 =>
 j4 r6
 else
 j4 false))
theorem alike_Attrs_1_ac (a0:aSegment) (a1:aSegment) (r:Bool) (h:alike_Attrs_1 a0 a1=some r):AC Tryz.prog 57 [(.d (e_aSegment a0)),(.d (e_aSegment a1))] [] (.d (.bool r)) []:=by
 refine ac2 Tryz.func57 rfl rfl fun B hB hN L => ?_
 delta alike_Attrs_1 at h
 refine sr (SQ tt) ?_
 apply AWp.seq
 refine AWp.cut h (fun m3:Bool=>([(4,(bo m3))]:EL)) (fun m3:Bool=>([]:OL)) (fun m3 h E' O' hmat => ?_) (fun j4 hjj4 h => ?_)
 ·apply seqQ_n
  refine AWp.ghost hmat ?_
  apply AWp.ret
  obtain rfl:=oi h
  exact rt (kp [(4,_)] [] hB rfl rfl (by rfl)) [(bo m3)] (Res.tmp (by rfl) (by rfl) Res.nil) rfl
 ·rcases bft (a0.fSet==a1.fSet) with hg5 | hg5
  ·have h:=ite_t hg5 h
   obtain⟨r6,hr6,h⟩:=bindS h
   refine rg (SQ (fa hg5 (fa (cl [] (slices_Equal_ac a0.fASNs a1.fASNs r6 hr6)) tt))) ?_
   exact hjj4 _ h _ _ (mp [] _ _ hB)
  ·have h:=ite_f hg5 h
   refine rg (SQ (fa hg5 tt)) ?_
   exact hjj4 _ h _ _ (mp [] _ _ hB)
def slices_EqualFunc_L0 (a0:(List aSegment)) (a1:(List aSegment)) (s2:Int):Option (((Unit)⊕(Unit))⊕(Int)) :=
 (if (decide (s2<(a0.length:Int)))=true then
 (idx a0 s2).bind fun x16 =>
 (idx a1 s2).bind fun x17 =>
 (alike_Attrs_1 x16 x17).bind fun r18 =>
 (if (!r18)=true then
 some (.inl (.inl ()))
 else
 some (.inr (w64 (s2+1))))
 else
 some (.inl (.inr ())))
def slices_EqualFunc (a0:(List aSegment)) (a1:(List aSegment)):Option (Bool) :=
 (if ((a0.length:Int) != (a1.length:Int))=true then
 some false
 else
 (loop (slices_EqualFunc_L0 a0 a1) 0).bind fun x20=>match x20 with
 | (.inl _) =>
  some false
 | (.inr _) =>
  some true)
theorem slices_EqualFunc_ac (a0:(List aSegment)) (a1:(List aSegment)) (r:Bool) (h:slices_EqualFunc a0 a1=some r):AC Tryz.prog 61 [(.d (.list 2 (a0.map e_aSegment))),(.d (.list 2 (a1.map e_aSegment))),(.func 57 [])] [] (.d (.bool r)) []:=by
 refine ac2 Tryz.func61 rfl rfl fun B hB hN L => ?_
 delta slices_EqualFunc at h
 refine sr (SQ tt) ?_
 apply AWp.seq
 refine sr (SQ tt) ?_
 apply AWp.cond rfl<;>intro hg1
 ·have h:=ite_t hg1 h
  refine sr (SQ tt) ?_
  apply AWp.ret
  apply seqQ_r
  obtain rfl:=oi h
  exact rt (kp [(6,_)] [] hB rfl rfl (by rfl)) [(bo false)] (Res.tmp (by rfl) (by rfl) Res.nil) rfl
 ·have h:=ite_f hg1 h
  apply AWp.skip
  apply seqQ_n
  apply AWp.seq
  refine sr (SQ tt) ?_
  apply AWp.block
  obtain⟨x20,hx21,h⟩:=bindS h
  refine lg (slices_EqualFunc_L0 a0 a1) (fun s2:Int=>([(1,(qe_aSegment_2 a1)),(2,(.func 57 [])),(15,(qe_aSegment_2 a0)),(16,(i6 (a0.length:Int))),(17,(i6 s2))]:EL)) (fun s2:Int=>([]:OL)) (fun(x:(Unit)⊕(Unit)) e E' O'=>match x with | (.inl _p)=>e = .ret∧Mat B E' O' ([(6,(bo false))]:EL) ([]:OL) | (.inr _p)=>e = .exit 0∧Mat B E' O' ([]:EL) ([]:OL)) hx21 (mp [] _ _ hB) (fun s2 y h => ?_) (fun e E' O' hR => ?_)
  ·unfold slices_EqualFunc_L0 at h
   refine sr (SQ tt) ?_
   apply AWp.seq
   apply AWp.cond rfl<;>intro hg15
   ·have h:=ite_t hg15 h
    apply AWp.skip
    apply seqQ_n
    apply AWp.seq
    apply AWp.block
    obtain⟨x16,hx16,h⟩:=bindS h
    refine sr (SQ (fa hx16 tt)) ?_
    obtain⟨x17,hx17,h⟩:=bindS h
    refine sr (SQ (fa hx17 tt)) ?_
    obtain⟨r18,hr18,h⟩:=bindS h
    refine sr (SQ (fa (cl [] (alike_Attrs_1_ac x16 x17 r18 hr18)) tt)) ?_
    apply AWp.cond rfl<;>intro hg19
    ·have h:=ite_t hg19 h
     refine sr (SQ tt) ?_
     apply AWp.ret
     apply blkQ_r
     apply seqQ_r
     obtain rfl:=oi h
     exact⟨(fun hc=>by cases hc),rfl,(mp [] _ _ hB)⟩
    ·have h:=ite_f hg19 h
     apply AWp.skip
     apply blkQ_n
     apply seqQ_n
     refine rg (SQ tt) ?_
     obtain rfl:=oi h
     exact⟨rfl,(mp [] _ _ hB)⟩
   ·have h:=ite_f hg15 h
    apply AWp.exit
    apply seqQ_e
    obtain rfl:=oi h
    exact⟨(fun hc=>by cases hc),rfl,(mp [] _ _ hB)⟩
  ·rcases x20 with _ | _
   ·obtain⟨rfl,hmat⟩:=hR
    apply blkQ_r
    apply seqQ_r
    obtain rfl:=oi h
    exact rt (Mat.trans hmat (mp [] [(6,(bo false))] [] hB)) [(bo false)] (Res.tmp (by rfl) (by rfl) Res.nil) rfl
   ·obtain⟨rfl,hmat⟩:=hR
    apply blkQ_hit
    apply seqQ_n
    refine AWp.ghost hmat ?_
    refine sr (SQ tt) ?_
    apply AWp.ret
    obtain rfl:=oi h
    exact rt (kp [(6,_)] [] hB rfl rfl (by rfl)) [(bo true)] (Res.tmp (by rfl) (by rfl) Res.nil) rfl
def slices_Equal_2_L0 (a0:(List aCommunity)) (a1:(List aCommunity)) (s2:Int):Option (((Unit)⊕(Unit))⊕(Int)) :=
 (if (decide (s2<(a0.length:Int)))=true then
 (idx a0 s2).bind fun x14 =>
 (idx a1 s2).bind fun x15 =>
 (if (!((x14.fA==x15.fA)&&((x14.fB==x15.fB)&&true)))=true then
 some (.inl (.inl ()))
 else
 some (.inr (w64 (s2+1))))
 else
 some (.inl (.inr ())))
def slices_Equal_2 (a0:(List aCommunity)) (a1:(List aCommunity)):Option (Bool) :=
 (if ((a0.length:Int) != (a1.length:Int))=true then
 some false
 else
 (loop (slices_Equal_2_L0 a0 a1) 0).bind fun x17=>match x17 with
 | (.inl _) =>
  some false
 | (.inr _) =>
  some true)
theorem slices_Equal_2_ac (a0:(List aCommunity)) (a1:(List aCommunity)) (r:Bool) (h:slices_Equal_2 a0 a1=some r):AC Tryz.prog 62 [(.d (.list 2 (a0.map e_aCommunity))),(.d (.list 2 (a1.map e_aCommunity)))] [] (.d (.bool r)) []:=by
 refine ac2 Tryz.func62 rfl rfl fun B hB hN L => ?_
 delta slices_Equal_2 at h
 refine sr (SQ tt) ?_
 apply AWp.seq
 refine sr (SQ tt) ?_
 apply AWp.cond rfl<;>intro hg1
 ·have h:=ite_t hg1 h
  refine sr (SQ tt) ?_
  apply AWp.ret
  apply seqQ_r
  obtain rfl:=oi h
  exact rt (kp [(4,_)] [] hB rfl rfl (by rfl)) [(bo false)] (Res.tmp (by rfl) (by rfl) Res.nil) rfl
 ·have h:=ite_f hg1 h
  apply AWp.skip
  apply seqQ_n
  apply AWp.seq
  refine sr (SQ tt) ?_
  apply AWp.block
  obtain⟨x17,hx18,h⟩:=bindS h
  refine lg (slices_Equal_2_L0 a0 a1) (fun s2:Int=>([(0,(qe_aCommunity_2 a0)),(1,(qe_aCommunity_2 a1)),(12,(i6 (a0.length:Int))),(13,(i6 s2))]:EL)) (fun s2:Int=>([]:OL)) (fun(x:(Unit)⊕(Unit)) e E' O'=>match x with | (.inl _p)=>e = .ret∧Mat B E' O' ([(4,(bo false))]:EL) ([]:OL) | (.inr _p)=>e = .exit 0∧Mat B E' O' ([]:EL) ([]:OL)) hx18 (mp [] _ _ hB) (fun s2 y h => ?_) (fun e E' O' hR => ?_)
  ·unfold slices_Equal_2_L0 at h
   refine sr (SQ tt) ?_
   apply AWp.seq
   apply AWp.cond rfl<;>intro hg13
   ·have h:=ite_t hg13 h
    apply AWp.skip
    apply seqQ_n
    apply AWp.seq
    apply AWp.block
    refine sr (SQ tt) ?_
    obtain⟨x14,hx14,h⟩:=bindS h
    obtain⟨x15,hx15,h⟩:=bindS h
    apply sd (c (mv hN (q 0)) rfl (c (mv hN (q 5)) rfl (c (indexD underlying31 tyS98 (idx_some hx14).1 (get_map e_aCommunity (idx_some hx14).2) (L rfl) (q 16) (q 17)) rfl (c (loadD tyS98 (by rfl) (by rfl) (L rfl) (q 18)) rfl (c (mv hN (q 1)) rfl (c (mv hN (q 5)) rfl (c (indexD underlying31 tyS98 (idx_some hx15).1 (get_map e_aCommunity (idx_some hx15).2) (L rfl) (q 20) (q 21)) rfl (c (loadD tyS98 (by rfl) (by rfl) (L rfl) (q 22)) rfl (c (OpJ.neqD (h:=2) (FitE.st underlying98 rfl held98 (FitF.cons (x:=(.int .i64 x14.fA)) (y:=(.int .i64 x15.fA)) (by decide) rfl tyS3 ⟨rfl,rfl⟩ ⟨rfl,rfl⟩ (FitE.int (h:=0) x14.fA x15.fA underlying3) (FitF.cons (x:=(.int .i64 x14.fB)) (y:=(.int .i64 x15.fB)) (by decide) rfl tyS3 ⟨rfl,rfl⟩ ⟨rfl,rfl⟩ (FitE.int (h:=0) x14.fB x15.fB underlying3) FitF.nil))) eqg98 ⟨rfl,rfl⟩ (by rfl) (L rfl) (q 19) (q 23)) rfl cn))))))))) (by kernel_rfl) (by kernel_rfl)
    apply AWp.cond rfl<;>intro hg16
    ·have h:=ite_t hg16 h
     refine sr (SQ tt) ?_
     apply AWp.ret
     apply blkQ_r
     apply seqQ_r
     obtain rfl:=oi h
     exact⟨(fun hc=>by cases hc),rfl,(mp [] _ _ hB)⟩
    ·have h:=ite_f hg16 h
     apply AWp.skip
     apply blkQ_n
     apply seqQ_n
     refine rg (SQ tt) ?_
     obtain rfl:=oi h
     exact⟨rfl,(mp [] _ _ hB)⟩
   ·have h:=ite_f hg13 h
    apply AWp.exit
    apply seqQ_e
    obtain rfl:=oi h
    exact⟨(fun hc=>by cases hc),rfl,(mp [] _ _ hB)⟩
  ·rcases x17 with _ | _
   ·obtain⟨rfl,hmat⟩:=hR
    apply blkQ_r
    apply seqQ_r
    obtain rfl:=oi h
    exact rt (Mat.trans hmat (mp [] [(4,(bo false))] [] hB)) [(bo false)] (Res.tmp (by rfl) (by rfl) Res.nil) rfl
   ·obtain⟨rfl,hmat⟩:=hR
    apply blkQ_hit
    apply seqQ_n
    refine AWp.ghost hmat ?_
    refine sr (SQ tt) ?_
    apply AWp.ret
    obtain rfl:=oi h
    exact rt (kp [(4,_)] [] hB rfl rfl (by rfl)) [(bo true)] (Res.tmp (by rfl) (by rfl) Res.nil) rfl
def slices_Equal_3_L0 (a0:(List aLarge)) (a1:(List aLarge)) (s2:Int):Option (((Unit)⊕(Unit))⊕(Int)) :=
 (if (decide (s2<(a0.length:Int)))=true then
 (idx a0 s2).bind fun x14 =>
 (idx a1 s2).bind fun x15 =>
 (if (!((x14.fA==x15.fA)&&((x14.fB==x15.fB)&&((x14.fC==x15.fC)&&true))))=true then
 some (.inl (.inl ()))
 else
 some (.inr (w64 (s2+1))))
 else
 some (.inl (.inr ())))
def slices_Equal_3 (a0:(List aLarge)) (a1:(List aLarge)):Option (Bool) :=
 (if ((a0.length:Int) != (a1.length:Int))=true then
 some false
 else
 (loop (slices_Equal_3_L0 a0 a1) 0).bind fun x17=>match x17 with
 | (.inl _) =>
  some false
 | (.inr _) =>
  some true)
theorem slices_Equal_3_ac (a0:(List aLarge)) (a1:(List aLarge)) (r:Bool) (h:slices_Equal_3 a0 a1=some r):AC Tryz.prog 63 [(.d (.list 3 (a0.map e_aLarge))),(.d (.list 3 (a1.map e_aLarge)))] [] (.d (.bool r)) []:=by
 refine ac2 Tryz.func63 rfl rfl fun B hB hN L => ?_
 delta slices_Equal_3 at h
 refine sr (SQ tt) ?_
 apply AWp.seq
 refine sr (SQ tt) ?_
 apply AWp.cond rfl<;>intro hg1
 ·have h:=ite_t hg1 h
  refine sr (SQ tt) ?_
  apply AWp.ret
  apply seqQ_r
  obtain rfl:=oi h
  exact rt (kp [(4,_)] [] hB rfl rfl (by rfl)) [(bo false)] (Res.tmp (by rfl) (by rfl) Res.nil) rfl
 ·have h:=ite_f hg1 h
  apply AWp.skip
  apply seqQ_n
  apply AWp.seq
  refine sr (SQ tt) ?_
  apply AWp.block
  obtain⟨x17,hx18,h⟩:=bindS h
  refine lg (slices_Equal_3_L0 a0 a1) (fun s2:Int=>([(0,(qe_aLarge_3 a0)),(1,(qe_aLarge_3 a1)),(12,(i6 (a0.length:Int))),(13,(i6 s2))]:EL)) (fun s2:Int=>([]:OL)) (fun(x:(Unit)⊕(Unit)) e E' O'=>match x with | (.inl _p)=>e = .ret∧Mat B E' O' ([(4,(bo false))]:EL) ([]:OL) | (.inr _p)=>e = .exit 0∧Mat B E' O' ([]:EL) ([]:OL)) hx18 (mp [] _ _ hB) (fun s2 y h => ?_) (fun e E' O' hR => ?_)
  ·unfold slices_Equal_3_L0 at h
   refine sr (SQ tt) ?_
   apply AWp.seq
   apply AWp.cond rfl<;>intro hg13
   ·have h:=ite_t hg13 h
    apply AWp.skip
    apply seqQ_n
    apply AWp.seq
    apply AWp.block
    refine sr (SQ tt) ?_
    obtain⟨x14,hx14,h⟩:=bindS h
    obtain⟨x15,hx15,h⟩:=bindS h
    apply sd (c (mv hN (q 0)) rfl (c (mv hN (q 5)) rfl (c (indexD underlying32 tyS100 (idx_some hx14).1 (get_map e_aLarge (idx_some hx14).2) (L rfl) (q 16) (q 17)) rfl (c (loadD tyS100 (by rfl) (by rfl) (L rfl) (q 18)) rfl (c (mv hN (q 1)) rfl (c (mv hN (q 5)) rfl (c (indexD underlying32 tyS100 (idx_some hx15).1 (get_map e_aLarge (idx_some hx15).2) (L rfl) (q 20) (q 21)) rfl (c (loadD tyS100 (by rfl) (by rfl) (L rfl) (q 22)) rfl (c (OpJ.neqD (h:=2) (FitE.st underlying100 rfl held100 (FitF.cons (x:=(.int .i64 x14.fA)) (y:=(.int .i64 x15.fA)) (by decide) rfl tyS3 ⟨rfl,rfl⟩ ⟨rfl,rfl⟩ (FitE.int (h:=0) x14.fA x15.fA underlying3) (FitF.cons (x:=(.int .i64 x14.fB)) (y:=(.int .i64 x15.fB)) (by decide) rfl tyS3 ⟨rfl,rfl⟩ ⟨rfl,rfl⟩ (FitE.int (h:=0) x14.fB x15.fB underlying3) (FitF.cons (x:=(.int .i64 x14.fC)) (y:=(.int .i64 x15.fC)) (by decide) rfl tyS3 ⟨rfl,rfl⟩ ⟨rfl,rfl⟩ (FitE.int (h:=0) x14.fC x15.fC underlying3) FitF.nil)))) eqg100 ⟨rfl,rfl⟩ (by rfl) (L rfl) (q 19) (q 23)) rfl cn))))))))) (by kernel_rfl) (by kernel_rfl)
    apply AWp.cond rfl<;>intro hg16
    ·have h:=ite_t hg16 h
     refine sr (SQ tt) ?_
     apply AWp.ret
     apply blkQ_r
     apply seqQ_r
     obtain rfl:=oi h
     exact⟨(fun hc=>by cases hc),rfl,(mp [] _ _ hB)⟩
    ·have h:=ite_f hg16 h
     apply AWp.skip
     apply blkQ_n
     apply seqQ_n
     refine rg (SQ tt) ?_
     obtain rfl:=oi h
     exact⟨rfl,(mp [] _ _ hB)⟩
   ·have h:=ite_f hg13 h
    apply AWp.exit
    apply seqQ_e
    obtain rfl:=oi h
    exact⟨(fun hc=>by cases hc),rfl,(mp [] _ _ hB)⟩
  ·rcases x17 with _ | _
   ·obtain⟨rfl,hmat⟩:=hR
    apply blkQ_r
    apply seqQ_r
    obtain rfl:=oi h
    exact rt (Mat.trans hmat (mp [] [(4,(bo false))] [] hB)) [(bo false)] (Res.tmp (by rfl) (by rfl) Res.nil) rfl
   ·obtain⟨rfl,hmat⟩:=hR
    apply blkQ_hit
    apply seqQ_n
    refine AWp.ghost hmat ?_
    refine sr (SQ tt) ?_
    apply AWp.ret
    obtain rfl:=oi h
    exact rt (kp [(4,_)] [] hB rfl rfl (by rfl)) [(bo true)] (Res.tmp (by rfl) (by rfl) Res.nil) rfl
def slices_Equal_4_L0 (a0:(List Int)) (a1:(List Int)) (s2:Int):Option (((Unit)⊕(Unit))⊕(Int)) :=
 (if (decide (s2<(a0.length:Int)))=true then
 (idx a0 s2).bind fun x14 =>
 (idx a1 s2).bind fun x15 =>
 (if (x14 != x15)=true then
 some (.inl (.inl ()))
 else
 some (.inr (w64 (s2+1))))
 else
 some (.inl (.inr ())))
def slices_Equal_4 (a0:(List Int)) (a1:(List Int)):Option (Bool) :=
 (if ((a0.length:Int) != (a1.length:Int))=true then
 some false
 else
 (loop (slices_Equal_4_L0 a0 a1) 0).bind fun x17=>match x17 with
 | (.inl _) =>
  some false
 | (.inr _) =>
  some true)
theorem slices_Equal_4_ac (a0:(List Int)) (a1:(List Int)) (r:Bool) (h:slices_Equal_4 a0 a1=some r):AC Tryz.prog 60 [(.d (.list 1 (a0.map (eI .u8)))),(.d (.list 1 (a1.map (eI .u8))))] [] (.d (.bool r)) []:=by
 refine ac2 Tryz.func60 rfl rfl fun B hB hN L => ?_
 delta slices_Equal_4 at h
 refine sr (SQ tt) ?_
 apply AWp.seq
 refine sr (SQ tt) ?_
 apply AWp.cond rfl<;>intro hg1
 ·have h:=ite_t hg1 h
  refine sr (SQ tt) ?_
  apply AWp.ret
  apply seqQ_r
  obtain rfl:=oi h
  exact rt (kp [(4,_)] [] hB rfl rfl (by rfl)) [(bo false)] (Res.tmp (by rfl) (by rfl) Res.nil) rfl
 ·have h:=ite_f hg1 h
  apply AWp.skip
  apply seqQ_n
  apply AWp.seq
  refine sr (SQ tt) ?_
  apply AWp.block
  obtain⟨x17,hx18,h⟩:=bindS h
  refine lg (slices_Equal_4_L0 a0 a1) (fun s2:Int=>([(0,(.d (.list 1 (a0.map (eI .u8))))),(1,(.d (.list 1 (a1.map (eI .u8))))),(12,(i6 (a0.length:Int))),(13,(i6 s2))]:EL)) (fun s2:Int=>([]:OL)) (fun(x:(Unit)⊕(Unit)) e E' O'=>match x with | (.inl _p)=>e = .ret∧Mat B E' O' ([(4,(bo false))]:EL) ([]:OL) | (.inr _p)=>e = .exit 0∧Mat B E' O' ([]:EL) ([]:OL)) hx18 (mp [] _ _ hB) (fun s2 y h => ?_) (fun e E' O' hR => ?_)
  ·unfold slices_Equal_4_L0 at h
   refine sr (SQ tt) ?_
   apply AWp.seq
   apply AWp.cond rfl<;>intro hg13
   ·have h:=ite_t hg13 h
    apply AWp.skip
    apply seqQ_n
    apply AWp.seq
    apply AWp.block
    refine sr (SQ tt) ?_
    obtain⟨_,hx14,h⟩:=bindS h
    obtain⟨_,hx15,h⟩:=bindS h
    refine sdS (SQ (fa hx14 (fa hx15 tt))) ?_
    apply AWp.cond rfl<;>intro hg16
    ·have h:=ite_t hg16 h
     refine sr (SQ tt) ?_
     apply AWp.ret
     apply blkQ_r
     apply seqQ_r
     obtain rfl:=oi h
     exact⟨(fun hc=>by cases hc),rfl,(mp [] _ _ hB)⟩
    ·have h:=ite_f hg16 h
     apply AWp.skip
     apply blkQ_n
     apply seqQ_n
     refine rg (SQ tt) ?_
     obtain rfl:=oi h
     exact⟨rfl,(mp [] _ _ hB)⟩
   ·have h:=ite_f hg13 h
    apply AWp.exit
    apply seqQ_e
    obtain rfl:=oi h
    exact⟨(fun hc=>by cases hc),rfl,(mp [] _ _ hB)⟩
  ·rcases x17 with _ | _
   ·obtain⟨rfl,hmat⟩:=hR
    apply blkQ_r
    apply seqQ_r
    obtain rfl:=oi h
    exact rt (Mat.trans hmat (mp [] [(4,(bo false))] [] hB)) [(bo false)] (Res.tmp (by rfl) (by rfl) Res.nil) rfl
   ·obtain⟨rfl,hmat⟩:=hR
    apply blkQ_hit
    apply seqQ_n
    refine AWp.ghost hmat ?_
    refine sr (SQ tt) ?_
    apply AWp.ret
    obtain rfl:=oi h
    exact rt (kp [(4,_)] [] hB rfl rfl (by rfl)) [(bo true)] (Res.tmp (by rfl) (by rfl) Res.nil) rfl
def alike_Attrs_2 (a0:aUnknown) (a1:aUnknown):Option (Bool) :=
 jn (fun m3:Bool =>
 some m3) (fun j4 =>
 (if ((a0.fFlags==a1.fFlags)&&(a0.fType==a1.fType))=true then
 (slices_Equal_4 a0.fData a1.fData).bind fun r6 =>
 j4 r6
 else
 j4 false))
theorem alike_Attrs_2_ac (a0:aUnknown) (a1:aUnknown) (r:Bool) (h:alike_Attrs_2 a0 a1=some r):AC Tryz.prog 59 [(.d (e_aUnknown a0)),(.d (e_aUnknown a1))] [] (.d (.bool r)) []:=by
 refine ac2 Tryz.func59 rfl rfl fun B hB hN L => ?_
 delta alike_Attrs_2 at h
 refine sr (SQ tt) ?_
 apply AWp.seq
 refine AWp.cut h (fun m3:Bool=>([(4,(bo m3))]:EL)) (fun m3:Bool=>([]:OL)) (fun m3 h E' O' hmat => ?_) (fun j4 hjj4 h => ?_)
 ·apply seqQ_n
  refine AWp.ghost hmat ?_
  apply AWp.ret
  obtain rfl:=oi h
  exact rt (kp [(4,_)] [] hB rfl rfl (by rfl)) [(bo m3)] (Res.tmp (by rfl) (by rfl) Res.nil) rfl
 ·rcases bft ((a0.fFlags==a1.fFlags)&&(a0.fType==a1.fType)) with hg5 | hg5
  ·have h:=ite_t hg5 h
   obtain⟨r6,hr6,h⟩:=bindS h
   refine rg (SQ (fa hg5 (fa (cl [] (slices_Equal_4_ac a0.fData a1.fData r6 hr6)) tt))) ?_
   exact hjj4 _ h _ _ (mp [] _ _ hB)
  ·have h:=ite_f hg5 h
   refine rg (SQ (fa hg5 tt)) ?_
   exact hjj4 _ h _ _ (mp [] _ _ hB)
def slices_EqualFunc_2_L0 (a0:(List aUnknown)) (a1:(List aUnknown)) (s2:Int):Option (((Unit)⊕(Unit))⊕(Int)) :=
 (if (decide (s2<(a0.length:Int)))=true then
 (idx a0 s2).bind fun x16 =>
 (idx a1 s2).bind fun x17 =>
 (alike_Attrs_2 x16 x17).bind fun r18 =>
 (if (!r18)=true then
 some (.inl (.inl ()))
 else
 some (.inr (w64 (s2+1))))
 else
 some (.inl (.inr ())))
def slices_EqualFunc_2 (a0:(List aUnknown)) (a1:(List aUnknown)):Option (Bool) :=
 (if ((a0.length:Int) != (a1.length:Int))=true then
 some false
 else
 (loop (slices_EqualFunc_2_L0 a0 a1) 0).bind fun x20=>match x20 with
 | (.inl _) =>
  some false
 | (.inr _) =>
  some true)
theorem slices_EqualFunc_2_ac (a0:(List aUnknown)) (a1:(List aUnknown)) (r:Bool) (h:slices_EqualFunc_2 a0 a1=some r):AC Tryz.prog 64 [(.d (.list 3 (a0.map e_aUnknown))),(.d (.list 3 (a1.map e_aUnknown))),(.func 59 [])] [] (.d (.bool r)) []:=by
 refine ac2 Tryz.func64 rfl rfl fun B hB hN L => ?_
 delta slices_EqualFunc_2 at h
 refine sr (SQ tt) ?_
 apply AWp.seq
 refine sr (SQ tt) ?_
 apply AWp.cond rfl<;>intro hg1
 ·have h:=ite_t hg1 h
  refine sr (SQ tt) ?_
  apply AWp.ret
  apply seqQ_r
  obtain rfl:=oi h
  exact rt (kp [(6,_)] [] hB rfl rfl (by rfl)) [(bo false)] (Res.tmp (by rfl) (by rfl) Res.nil) rfl
 ·have h:=ite_f hg1 h
  apply AWp.skip
  apply seqQ_n
  apply AWp.seq
  refine sr (SQ tt) ?_
  apply AWp.block
  obtain⟨x20,hx21,h⟩:=bindS h
  refine lg (slices_EqualFunc_2_L0 a0 a1) (fun s2:Int=>([(1,(qe_aUnknown_3 a1)),(2,(.func 59 [])),(15,(qe_aUnknown_3 a0)),(16,(i6 (a0.length:Int))),(17,(i6 s2))]:EL)) (fun s2:Int=>([]:OL)) (fun(x:(Unit)⊕(Unit)) e E' O'=>match x with | (.inl _p)=>e = .ret∧Mat B E' O' ([(6,(bo false))]:EL) ([]:OL) | (.inr _p)=>e = .exit 0∧Mat B E' O' ([]:EL) ([]:OL)) hx21 (mp [] _ _ hB) (fun s2 y h => ?_) (fun e E' O' hR => ?_)
  ·unfold slices_EqualFunc_2_L0 at h
   refine sr (SQ tt) ?_
   apply AWp.seq
   apply AWp.cond rfl<;>intro hg15
   ·have h:=ite_t hg15 h
    apply AWp.skip
    apply seqQ_n
    apply AWp.seq
    apply AWp.block
    obtain⟨x16,hx16,h⟩:=bindS h
    refine sr (SQ (fa hx16 tt)) ?_
    obtain⟨x17,hx17,h⟩:=bindS h
    refine sr (SQ (fa hx17 tt)) ?_
    obtain⟨r18,hr18,h⟩:=bindS h
    refine sr (SQ (fa (cl [] (alike_Attrs_2_ac x16 x17 r18 hr18)) tt)) ?_
    apply AWp.cond rfl<;>intro hg19
    ·have h:=ite_t hg19 h
     refine sr (SQ tt) ?_
     apply AWp.ret
     apply blkQ_r
     apply seqQ_r
     obtain rfl:=oi h
     exact⟨(fun hc=>by cases hc),rfl,(mp [] _ _ hB)⟩
    ·have h:=ite_f hg19 h
     apply AWp.skip
     apply blkQ_n
     apply seqQ_n
     refine rg (SQ tt) ?_
     obtain rfl:=oi h
     exact⟨rfl,(mp [] _ _ hB)⟩
   ·have h:=ite_f hg15 h
    apply AWp.exit
    apply seqQ_e
    obtain rfl:=oi h
    exact⟨(fun hc=>by cases hc),rfl,(mp [] _ _ hB)⟩
  ·rcases x20 with _ | _
   ·obtain⟨rfl,hmat⟩:=hR
    apply blkQ_r
    apply seqQ_r
    obtain rfl:=oi h
    exact rt (Mat.trans hmat (mp [] [(6,(bo false))] [] hB)) [(bo false)] (Res.tmp (by rfl) (by rfl) Res.nil) rfl
   ·obtain⟨rfl,hmat⟩:=hR
    apply blkQ_hit
    apply seqQ_n
    refine AWp.ghost hmat ?_
    refine sr (SQ tt) ?_
    apply AWp.ret
    obtain rfl:=oi h
    exact rt (kp [(6,_)] [] hB rfl rfl (by rfl)) [(bo true)] (Res.tmp (by rfl) (by rfl) Res.nil) rfl
def alike_Attrs (a0:aAttrs) (a1:aAttrs):Option (Bool) :=
 jn (fun m9:Bool =>
 some m9) (fun j10 =>
 (if (((((a0.fOrigin==a1.fOrigin)&&((a0.fNext.fV6==a1.fNext.fV6)&&((a0.fNext.fHi==a1.fNext.fHi)&&((a0.fNext.fLo==a1.fNext.fLo)&&true))))&&(a0.fMED==a1.fMED))&&(a0.fPref==a1.fPref))&&(a0.fOTC==a1.fOTC))=true then
 (slices_EqualFunc a0.fPath a1.fPath).bind fun r12 =>
 (if r12=true then
 (slices_Equal_2 a0.fCommunities a1.fCommunities).bind fun r14 =>
 (if r14=true then
 (slices_Equal_3 a0.fLarge a1.fLarge).bind fun r16 =>
 (if r16=true then
 (slices_EqualFunc_2 a0.fOther a1.fOther).bind fun r18 =>
 j10 r18
 else
 j10 false)
 else
 j10 false)
 else
 j10 false)
 else
 j10 false))
theorem alike_Attrs_ac (a0:aAttrs) (a1:aAttrs) (r:Bool) (h:alike_Attrs a0 a1=some r):AC Tryz.prog 32 [(.d (e_aAttrs a0)),(.d (e_aAttrs a1))] [] (.d (.bool r)) []:=by
 refine ac2 Tryz.func32 rfl rfl fun B hB hN L => ?_
 delta alike_Attrs at h
 refine sr (SQ tt) ?_
 refine sr (SQ tt) ?_
 refine sr (SQ tt) ?_
 apply AWp.seq
 refine AWp.cut h (fun m9:Bool=>([(4,(bo m9))]:EL)) (fun m9:Bool=>([]:OL)) (fun m9 h E' O' hmat => ?_) (fun j10 hjj10 h => ?_)
 ·apply seqQ_n
  refine AWp.ghost hmat ?_
  apply AWp.ret
  obtain rfl:=oi h
  exact rt (kp [(4,_)] [] hB rfl rfl (by rfl)) [(bo m9)] (Res.tmp (by rfl) (by rfl) Res.nil) rfl
 ·rcases bft (((((a0.fOrigin==a1.fOrigin)&&((a0.fNext.fV6==a1.fNext.fV6)&&((a0.fNext.fHi==a1.fNext.fHi)&&((a0.fNext.fLo==a1.fNext.fLo)&&true))))&&(a0.fMED==a1.fMED))&&(a0.fPref==a1.fPref))&&(a0.fOTC==a1.fOTC)) with hg11 | hg11
  ·have h:=ite_t hg11 h
   obtain⟨r12,hr12,h⟩:=bindS h
   rcases bft r12 with hg13 | hg13
   ·have h:=ite_t hg13 h
    obtain⟨r14,hr14,h⟩:=bindS h
    rcases bft r14 with hg15 | hg15
    ·have h:=ite_t hg15 h
     obtain⟨r16,hr16,h⟩:=bindS h
     rcases bft r16 with hg17 | hg17
     ·have h:=ite_t hg17 h
      obtain⟨r18,hr18,h⟩:=bindS h
      apply rg (c (fo 1002 0 [0] hN underlying35 0 tyS3 (q 2)) rfl (c (la hN 35 tyS3 (q 7)) rfl (c (fo 1003 0 [0] hN underlying35 0 tyS3 (q 3)) rfl (c (la hN 35 tyS3 (q 9)) rfl (c (eqlI (L rfl) (q 8) (q 10)) rfl (c (mv hN (q 11)) rfl (c (oq hN 12 (fo 1002 2 [2] hN underlying35 2 tyS27 (q 2)) (OptL.keep (by rfl) OptL.nil) (GuardV.plain _)) rfl (c (oq hN 12 (la hN 35 tyS27 (q 13)) (OptL.opt OptL.nil) (GuardV.plain _)) rfl (c (oq hN 12 (fo 1003 2 [2] hN underlying35 2 tyS27 (q 3)) (OptL.keep (by rfl) OptL.nil) (GuardV.plain _)) rfl (c (oq hN 12 (la hN 35 tyS27 (q 15)) (OptL.opt OptL.nil) (GuardV.plain _)) rfl (c (oq hN 12 (OpJ.eqlD (h:=2) (FitE.st underlying27 rfl held27 (FitF.cons (x:=(.bool a0.fNext.fV6)) (y:=(.bool a1.fNext.fV6)) (by decide) rfl tyS4 ⟨rfl,rfl⟩ ⟨rfl,rfl⟩ (FitE.bool (h:=0) a0.fNext.fV6 a1.fNext.fV6 underlying4) (FitF.cons (x:=(.int .u64 a0.fNext.fHi)) (y:=(.int .u64 a1.fNext.fHi)) (by decide) rfl tyS25 ⟨rfl,rfl⟩ ⟨rfl,rfl⟩ (FitE.int (h:=0) a0.fNext.fHi a1.fNext.fHi underlying25) (FitF.cons (x:=(.int .u64 a0.fNext.fLo)) (y:=(.int .u64 a1.fNext.fLo)) (by decide) rfl tyS25 ⟨rfl,rfl⟩ ⟨rfl,rfl⟩ (FitE.int (h:=0) a0.fNext.fLo a1.fNext.fLo underlying25) FitF.nil)))) eqg27 ⟨rfl,rfl⟩ (by rfl) (L rfl) (q 14) (q 16)) (OptL.opt (OptL.opt OptL.nil)) (GuardV.plain _)) rfl (c (pickAnd rfl (L rfl) (q 12) (q 17)) rfl (c (mv hN (q 18)) rfl (c (oq hN 19 (fo 1002 5 [3] hN underlying35 5 tyS3 (q 2)) (OptL.keep (by rfl) OptL.nil) (GuardV.plain _)) rfl (c (oq hN 19 (la hN 35 tyS3 (q 20)) (OptL.opt OptL.nil) (GuardV.plain _)) rfl (c (oq hN 19 (fo 1003 5 [3] hN underlying35 5 tyS3 (q 3)) (OptL.keep (by rfl) OptL.nil) (GuardV.plain _)) rfl (c (oq hN 19 (la hN 35 tyS3 (q 22)) (OptL.opt OptL.nil) (GuardV.plain _)) rfl (c (oq hN 19 (eqlI (L rfl) (q 21) (q 23)) (OptL.opt (OptL.opt OptL.nil)) (GuardV.plain _)) rfl (c (pickAnd rfl (L rfl) (q 19) (q 24)) rfl (c (mv hN (q 25)) rfl (c (oq hN 26 (fo 1002 6 [4] hN underlying35 6 tyS3 (q 2)) (OptL.keep (by rfl) OptL.nil) (GuardV.plain _)) rfl (c (oq hN 26 (la hN 35 tyS3 (q 27)) (OptL.opt OptL.nil) (GuardV.plain _)) rfl (c (oq hN 26 (fo 1003 6 [4] hN underlying35 6 tyS3 (q 3)) (OptL.keep (by rfl) OptL.nil) (GuardV.plain _)) rfl (c (oq hN 26 (la hN 35 tyS3 (q 29)) (OptL.opt OptL.nil) (GuardV.plain _)) rfl (c (oq hN 26 (eqlI (L rfl) (q 28) (q 30)) (OptL.opt (OptL.opt OptL.nil)) (GuardV.plain _)) rfl (c (pickAnd rfl (L rfl) (q 26) (q 31)) rfl (c (mv hN (q 32)) rfl (c (oq hN 33 (fo 1002 7 [5] hN underlying35 7 tyS3 (q 2)) (OptL.keep (by rfl) OptL.nil) (GuardV.plain _)) rfl (c (oq hN 33 (la hN 35 tyS3 (q 34)) (OptL.opt OptL.nil) (GuardV.plain _)) rfl (c (oq hN 33 (fo 1003 7 [5] hN underlying35 7 tyS3 (q 3)) (OptL.keep (by rfl) OptL.nil) (GuardV.plain _)) rfl (c (oq hN 33 (la hN 35 tyS3 (q 36)) (OptL.opt OptL.nil) (GuardV.plain _)) rfl (c (oq hN 33 (eqlI (L rfl) (q 35) (q 37)) (OptL.opt (OptL.opt OptL.nil)) (GuardV.plain _)) rfl (c (pickAnd rfl (L rfl) (q 33) (q 38)) rfl (c (OpJ.val (v':=.d (.bool true)) (by rw [hg11]<;>rfl) (mv hN (q 39))) rfl (c (gd 40 (fo 1002 1 [1] hN underlying35 1 tyS30 (q 2))) rfl (c (gd 40 (la hN 35 tyS30 (q 41))) rfl (c (gd 40 (fo 1003 1 [1] hN underlying35 1 tyS30 (q 3))) rfl (c (gd 40 (la hN 35 tyS30 (q 43))) rfl (c (gd 40 (mv hN (q 5))) rfl (cg (gd 40 (cf hB fnOk61 (slices_EqualFunc_ac a0.fPath a1.fPath r12 hr12) (L rfl) (OpdL.cons (q 42) (OpdL.cons (q 44) (OpdL.cons (q 45) OpdL.nil))))) rfl (c (pickT (L rfl) (q 40) (q 46)) rfl (c (OpJ.val (v':=.d (.bool true)) (by rw [hg13]<;>rfl) (mv hN (q 47))) rfl (c (gd 48 (fo 1002 8 [6] hN underlying35 8 tyS31 (q 2))) rfl (c (gd 48 (la hN 35 tyS31 (q 49))) rfl (c (gd 48 (fo 1003 8 [6] hN underlying35 8 tyS31 (q 3))) rfl (c (gd 48 (la hN 35 tyS31 (q 51))) rfl (cg (gd 48 (cf hB fnOk62 (slices_Equal_2_ac a0.fCommunities a1.fCommunities r14 hr14) (L rfl) (OpdL.cons (q 50) (OpdL.cons (q 52) OpdL.nil)))) rfl (c (pickT (L rfl) (q 48) (q 53)) rfl (c (OpJ.val (v':=.d (.bool true)) (by rw [hg15]<;>rfl) (mv hN (q 54))) rfl (c (gd 55 (fo 1002 9 [7] hN underlying35 9 tyS32 (q 2))) rfl (c (gd 55 (la hN 35 tyS32 (q 56))) rfl (c (gd 55 (fo 1003 9 [7] hN underlying35 9 tyS32 (q 3))) rfl (c (gd 55 (la hN 35 tyS32 (q 58))) rfl (cg (gd 55 (cf hB fnOk63 (slices_Equal_3_ac a0.fLarge a1.fLarge r16 hr16) (L rfl) (OpdL.cons (q 57) (OpdL.cons (q 59) OpdL.nil)))) rfl (c (pickT (L rfl) (q 55) (q 60)) rfl (c (OpJ.val (v':=.d (.bool true)) (by rw [hg17]<;>rfl) (mv hN (q 61))) rfl (c (gd 62 (fo 1002 10 [8] hN underlying35 10 tyS33 (q 2))) rfl (c (gd 62 (la hN 35 tyS33 (q 63))) rfl (c (gd 62 (fo 1003 10 [8] hN underlying35 10 tyS33 (q 3))) rfl (c (gd 62 (la hN 35 tyS33 (q 65))) rfl (c (gd 62 (mv hN (q 6))) rfl (cg (gd 62 (cf hB fnOk64 (slices_EqualFunc_2_ac a0.fOther a1.fOther r18 hr18) (L rfl) (OpdL.cons (q 64) (OpdL.cons (q 66) (OpdL.cons (q 67) OpdL.nil))))) rfl (c (pickT (L rfl) (q 62) (q 68)) rfl (c (assign (L rfl) (q 69)) rfl cn))))))))))))))))))))))))))))))))))))))))))))))))))))))))))))))))
      exact hjj10 _ h _ _ (mp [] _ _ hB)
     ·have h:=ite_f hg17 h
      apply rg (c (fo 1002 0 [0] hN underlying35 0 tyS3 (q 2)) rfl (c (la hN 35 tyS3 (q 7)) rfl (c (fo 1003 0 [0] hN underlying35 0 tyS3 (q 3)) rfl (c (la hN 35 tyS3 (q 9)) rfl (c (eqlI (L rfl) (q 8) (q 10)) rfl (c (mv hN (q 11)) rfl (c (oq hN 12 (fo 1002 2 [2] hN underlying35 2 tyS27 (q 2)) (OptL.keep (by rfl) OptL.nil) (GuardV.plain _)) rfl (c (oq hN 12 (la hN 35 tyS27 (q 13)) (OptL.opt OptL.nil) (GuardV.plain _)) rfl (c (oq hN 12 (fo 1003 2 [2] hN underlying35 2 tyS27 (q 3)) (OptL.keep (by rfl) OptL.nil) (GuardV.plain _)) rfl (c (oq hN 12 (la hN 35 tyS27 (q 15)) (OptL.opt OptL.nil) (GuardV.plain _)) rfl (c (oq hN 12 (OpJ.eqlD (h:=2) (FitE.st underlying27 rfl held27 (FitF.cons (x:=(.bool a0.fNext.fV6)) (y:=(.bool a1.fNext.fV6)) (by decide) rfl tyS4 ⟨rfl,rfl⟩ ⟨rfl,rfl⟩ (FitE.bool (h:=0) a0.fNext.fV6 a1.fNext.fV6 underlying4) (FitF.cons (x:=(.int .u64 a0.fNext.fHi)) (y:=(.int .u64 a1.fNext.fHi)) (by decide) rfl tyS25 ⟨rfl,rfl⟩ ⟨rfl,rfl⟩ (FitE.int (h:=0) a0.fNext.fHi a1.fNext.fHi underlying25) (FitF.cons (x:=(.int .u64 a0.fNext.fLo)) (y:=(.int .u64 a1.fNext.fLo)) (by decide) rfl tyS25 ⟨rfl,rfl⟩ ⟨rfl,rfl⟩ (FitE.int (h:=0) a0.fNext.fLo a1.fNext.fLo underlying25) FitF.nil)))) eqg27 ⟨rfl,rfl⟩ (by rfl) (L rfl) (q 14) (q 16)) (OptL.opt (OptL.opt OptL.nil)) (GuardV.plain _)) rfl (c (pickAnd rfl (L rfl) (q 12) (q 17)) rfl (c (mv hN (q 18)) rfl (c (oq hN 19 (fo 1002 5 [3] hN underlying35 5 tyS3 (q 2)) (OptL.keep (by rfl) OptL.nil) (GuardV.plain _)) rfl (c (oq hN 19 (la hN 35 tyS3 (q 20)) (OptL.opt OptL.nil) (GuardV.plain _)) rfl (c (oq hN 19 (fo 1003 5 [3] hN underlying35 5 tyS3 (q 3)) (OptL.keep (by rfl) OptL.nil) (GuardV.plain _)) rfl (c (oq hN 19 (la hN 35 tyS3 (q 22)) (OptL.opt OptL.nil) (GuardV.plain _)) rfl (c (oq hN 19 (eqlI (L rfl) (q 21) (q 23)) (OptL.opt (OptL.opt OptL.nil)) (GuardV.plain _)) rfl (c (pickAnd rfl (L rfl) (q 19) (q 24)) rfl (c (mv hN (q 25)) rfl (c (oq hN 26 (fo 1002 6 [4] hN underlying35 6 tyS3 (q 2)) (OptL.keep (by rfl) OptL.nil) (GuardV.plain _)) rfl (c (oq hN 26 (la hN 35 tyS3 (q 27)) (OptL.opt OptL.nil) (GuardV.plain _)) rfl (c (oq hN 26 (fo 1003 6 [4] hN underlying35 6 tyS3 (q 3)) (OptL.keep (by rfl) OptL.nil) (GuardV.plain _)) rfl (c (oq hN 26 (la hN 35 tyS3 (q 29)) (OptL.opt OptL.nil) (GuardV.plain _)) rfl (c (oq hN 26 (eqlI (L rfl) (q 28) (q 30)) (OptL.opt (OptL.opt OptL.nil)) (GuardV.plain _)) rfl (c (pickAnd rfl (L rfl) (q 26) (q 31)) rfl (c (mv hN (q 32)) rfl (c (oq hN 33 (fo 1002 7 [5] hN underlying35 7 tyS3 (q 2)) (OptL.keep (by rfl) OptL.nil) (GuardV.plain _)) rfl (c (oq hN 33 (la hN 35 tyS3 (q 34)) (OptL.opt OptL.nil) (GuardV.plain _)) rfl (c (oq hN 33 (fo 1003 7 [5] hN underlying35 7 tyS3 (q 3)) (OptL.keep (by rfl) OptL.nil) (GuardV.plain _)) rfl (c (oq hN 33 (la hN 35 tyS3 (q 36)) (OptL.opt OptL.nil) (GuardV.plain _)) rfl (c (oq hN 33 (eqlI (L rfl) (q 35) (q 37)) (OptL.opt (OptL.opt OptL.nil)) (GuardV.plain _)) rfl (c (pickAnd rfl (L rfl) (q 33) (q 38)) rfl (c (OpJ.val (v':=.d (.bool true)) (by rw [hg11]<;>rfl) (mv hN (q 39))) rfl (c (gd 40 (fo 1002 1 [1] hN underlying35 1 tyS30 (q 2))) rfl (c (gd 40 (la hN 35 tyS30 (q 41))) rfl (c (gd 40 (fo 1003 1 [1] hN underlying35 1 tyS30 (q 3))) rfl (c (gd 40 (la hN 35 tyS30 (q 43))) rfl (c (gd 40 (mv hN (q 5))) rfl (cg (gd 40 (cf hB fnOk61 (slices_EqualFunc_ac a0.fPath a1.fPath r12 hr12) (L rfl) (OpdL.cons (q 42) (OpdL.cons (q 44) (OpdL.cons (q 45) OpdL.nil))))) rfl (c (pickT (L rfl) (q 40) (q 46)) rfl (c (OpJ.val (v':=.d (.bool true)) (by rw [hg13]<;>rfl) (mv hN (q 47))) rfl (c (gd 48 (fo 1002 8 [6] hN underlying35 8 tyS31 (q 2))) rfl (c (gd 48 (la hN 35 tyS31 (q 49))) rfl (c (gd 48 (fo 1003 8 [6] hN underlying35 8 tyS31 (q 3))) rfl (c (gd 48 (la hN 35 tyS31 (q 51))) rfl (cg (gd 48 (cf hB fnOk62 (slices_Equal_2_ac a0.fCommunities a1.fCommunities r14 hr14) (L rfl) (OpdL.cons (q 50) (OpdL.cons (q 52) OpdL.nil)))) rfl (c (pickT (L rfl) (q 48) (q 53)) rfl (c (OpJ.val (v':=.d (.bool true)) (by rw [hg15]<;>rfl) (mv hN (q 54))) rfl (c (gd 55 (fo 1002 9 [7] hN underlying35 9 tyS32 (q 2))) rfl (c (gd 55 (la hN 35 tyS32 (q 56))) rfl (c (gd 55 (fo 1003 9 [7] hN underlying35 9 tyS32 (q 3))) rfl (c (gd 55 (la hN 35 tyS32 (q 58))) rfl (cg (gd 55 (cf hB fnOk63 (slices_Equal_3_ac a0.fLarge a1.fLarge r16 hr16) (L rfl) (OpdL.cons (q 57) (OpdL.cons (q 59) OpdL.nil)))) rfl (c (pickT (L rfl) (q 55) (q 60)) rfl (c (OpJ.val (v':=.d (.bool false)) (by rw [hg17]<;>rfl) (mv hN (q 61))) rfl (ks 62 (L rfl) (ks 62 (L rfl) (ks 62 (L rfl) (ks 62 (L rfl) (ks 62 (L rfl) (ks 62 (L rfl) (c (pickF (L rfl) (q 62) (Opd.bool false)) rfl (c (assign (L rfl) (q 69)) rfl cn))))))))))))))))))))))))))))))))))))))))))))))))))))))))))))))))
      exact hjj10 _ h _ _ (mp [] _ _ hB)
    ·have h:=ite_f hg15 h
     apply rg (c (fo 1002 0 [0] hN underlying35 0 tyS3 (q 2)) rfl (c (la hN 35 tyS3 (q 7)) rfl (c (fo 1003 0 [0] hN underlying35 0 tyS3 (q 3)) rfl (c (la hN 35 tyS3 (q 9)) rfl (c (eqlI (L rfl) (q 8) (q 10)) rfl (c (mv hN (q 11)) rfl (c (oq hN 12 (fo 1002 2 [2] hN underlying35 2 tyS27 (q 2)) (OptL.keep (by rfl) OptL.nil) (GuardV.plain _)) rfl (c (oq hN 12 (la hN 35 tyS27 (q 13)) (OptL.opt OptL.nil) (GuardV.plain _)) rfl (c (oq hN 12 (fo 1003 2 [2] hN underlying35 2 tyS27 (q 3)) (OptL.keep (by rfl) OptL.nil) (GuardV.plain _)) rfl (c (oq hN 12 (la hN 35 tyS27 (q 15)) (OptL.opt OptL.nil) (GuardV.plain _)) rfl (c (oq hN 12 (OpJ.eqlD (h:=2) (FitE.st underlying27 rfl held27 (FitF.cons (x:=(.bool a0.fNext.fV6)) (y:=(.bool a1.fNext.fV6)) (by decide) rfl tyS4 ⟨rfl,rfl⟩ ⟨rfl,rfl⟩ (FitE.bool (h:=0) a0.fNext.fV6 a1.fNext.fV6 underlying4) (FitF.cons (x:=(.int .u64 a0.fNext.fHi)) (y:=(.int .u64 a1.fNext.fHi)) (by decide) rfl tyS25 ⟨rfl,rfl⟩ ⟨rfl,rfl⟩ (FitE.int (h:=0) a0.fNext.fHi a1.fNext.fHi underlying25) (FitF.cons (x:=(.int .u64 a0.fNext.fLo)) (y:=(.int .u64 a1.fNext.fLo)) (by decide) rfl tyS25 ⟨rfl,rfl⟩ ⟨rfl,rfl⟩ (FitE.int (h:=0) a0.fNext.fLo a1.fNext.fLo underlying25) FitF.nil)))) eqg27 ⟨rfl,rfl⟩ (by rfl) (L rfl) (q 14) (q 16)) (OptL.opt (OptL.opt OptL.nil)) (GuardV.plain _)) rfl (c (pickAnd rfl (L rfl) (q 12) (q 17)) rfl (c (mv hN (q 18)) rfl (c (oq hN 19 (fo 1002 5 [3] hN underlying35 5 tyS3 (q 2)) (OptL.keep (by rfl) OptL.nil) (GuardV.plain _)) rfl (c (oq hN 19 (la hN 35 tyS3 (q 20)) (OptL.opt OptL.nil) (GuardV.plain _)) rfl (c (oq hN 19 (fo 1003 5 [3] hN underlying35 5 tyS3 (q 3)) (OptL.keep (by rfl) OptL.nil) (GuardV.plain _)) rfl (c (oq hN 19 (la hN 35 tyS3 (q 22)) (OptL.opt OptL.nil) (GuardV.plain _)) rfl (c (oq hN 19 (eqlI (L rfl) (q 21) (q 23)) (OptL.opt (OptL.opt OptL.nil)) (GuardV.plain _)) rfl (c (pickAnd rfl (L rfl) (q 19) (q 24)) rfl (c (mv hN (q 25)) rfl (c (oq hN 26 (fo 1002 6 [4] hN underlying35 6 tyS3 (q 2)) (OptL.keep (by rfl) OptL.nil) (GuardV.plain _)) rfl (c (oq hN 26 (la hN 35 tyS3 (q 27)) (OptL.opt OptL.nil) (GuardV.plain _)) rfl (c (oq hN 26 (fo 1003 6 [4] hN underlying35 6 tyS3 (q 3)) (OptL.keep (by rfl) OptL.nil) (GuardV.plain _)) rfl (c (oq hN 26 (la hN 35 tyS3 (q 29)) (OptL.opt OptL.nil) (GuardV.plain _)) rfl (c (oq hN 26 (eqlI (L rfl) (q 28) (q 30)) (OptL.opt (OptL.opt OptL.nil)) (GuardV.plain _)) rfl (c (pickAnd rfl (L rfl) (q 26) (q 31)) rfl (c (mv hN (q 32)) rfl (c (oq hN 33 (fo 1002 7 [5] hN underlying35 7 tyS3 (q 2)) (OptL.keep (by rfl) OptL.nil) (GuardV.plain _)) rfl (c (oq hN 33 (la hN 35 tyS3 (q 34)) (OptL.opt OptL.nil) (GuardV.plain _)) rfl (c (oq hN 33 (fo 1003 7 [5] hN underlying35 7 tyS3 (q 3)) (OptL.keep (by rfl) OptL.nil) (GuardV.plain _)) rfl (c (oq hN 33 (la hN 35 tyS3 (q 36)) (OptL.opt OptL.nil) (GuardV.plain _)) rfl (c (oq hN 33 (eqlI (L rfl) (q 35) (q 37)) (OptL.opt (OptL.opt OptL.nil)) (GuardV.plain _)) rfl (c (pickAnd rfl (L rfl) (q 33) (q 38)) rfl (c (OpJ.val (v':=.d (.bool true)) (by rw [hg11]<;>rfl) (mv hN (q 39))) rfl (c (gd 40 (fo 1002 1 [1] hN underlying35 1 tyS30 (q 2))) rfl (c (gd 40 (la hN 35 tyS30 (q 41))) rfl (c (gd 40 (fo 1003 1 [1] hN underlying35 1 tyS30 (q 3))) rfl (c (gd 40 (la hN 35 tyS30 (q 43))) rfl (c (gd 40 (mv hN (q 5))) rfl (cg (gd 40 (cf hB fnOk61 (slices_EqualFunc_ac a0.fPath a1.fPath r12 hr12) (L rfl) (OpdL.cons (q 42) (OpdL.cons (q 44) (OpdL.cons (q 45) OpdL.nil))))) rfl (c (pickT (L rfl) (q 40) (q 46)) rfl (c (OpJ.val (v':=.d (.bool true)) (by rw [hg13]<;>rfl) (mv hN (q 47))) rfl (c (gd 48 (fo 1002 8 [6] hN underlying35 8 tyS31 (q 2))) rfl (c (gd 48 (la hN 35 tyS31 (q 49))) rfl (c (gd 48 (fo 1003 8 [6] hN underlying35 8 tyS31 (q 3))) rfl (c (gd 48 (la hN 35 tyS31 (q 51))) rfl (cg (gd 48 (cf hB fnOk62 (slices_Equal_2_ac a0.fCommunities a1.fCommunities r14 hr14) (L rfl) (OpdL.cons (q 50) (OpdL.cons (q 52) OpdL.nil)))) rfl (c (pickT (L rfl) (q 48) (q 53)) rfl (c (OpJ.val (v':=.d (.bool false)) (by rw [hg15]<;>rfl) (mv hN (q 54))) rfl (ks 55 (L rfl) (ks 55 (L rfl) (ks 55 (L rfl) (ks 55 (L rfl) (ks 55 (L rfl) (c (pickF (L rfl) (q 55) (Opd.bool false)) rfl (c (mv hN (q 61)) rfl (ks 62 (L rfl) (ks 62 (L rfl) (ks 62 (L rfl) (ks 62 (L rfl) (ks 62 (L rfl) (ks 62 (L rfl) (c (pickF (L rfl) (q 62) (Opd.bool false)) rfl (c (assign (L rfl) (q 69)) rfl cn))))))))))))))))))))))))))))))))))))))))))))))))))))))))))))))))
     exact hjj10 _ h _ _ (mp [] _ _ hB)
   ·have h:=ite_f hg13 h
    apply rg (c (fo 1002 0 [0] hN underlying35 0 tyS3 (q 2)) rfl (c (la hN 35 tyS3 (q 7)) rfl (c (fo 1003 0 [0] hN underlying35 0 tyS3 (q 3)) rfl (c (la hN 35 tyS3 (q 9)) rfl (c (eqlI (L rfl) (q 8) (q 10)) rfl (c (mv hN (q 11)) rfl (c (oq hN 12 (fo 1002 2 [2] hN underlying35 2 tyS27 (q 2)) (OptL.keep (by rfl) OptL.nil) (GuardV.plain _)) rfl (c (oq hN 12 (la hN 35 tyS27 (q 13)) (OptL.opt OptL.nil) (GuardV.plain _)) rfl (c (oq hN 12 (fo 1003 2 [2] hN underlying35 2 tyS27 (q 3)) (OptL.keep (by rfl) OptL.nil) (GuardV.plain _)) rfl (c (oq hN 12 (la hN 35 tyS27 (q 15)) (OptL.opt OptL.nil) (GuardV.plain _)) rfl (c (oq hN 12 (OpJ.eqlD (h:=2) (FitE.st underlying27 rfl held27 (FitF.cons (x:=(.bool a0.fNext.fV6)) (y:=(.bool a1.fNext.fV6)) (by decide) rfl tyS4 ⟨rfl,rfl⟩ ⟨rfl,rfl⟩ (FitE.bool (h:=0) a0.fNext.fV6 a1.fNext.fV6 underlying4) (FitF.cons (x:=(.int .u64 a0.fNext.fHi)) (y:=(.int .u64 a1.fNext.fHi)) (by decide) rfl tyS25 ⟨rfl,rfl⟩ ⟨rfl,rfl⟩ (FitE.int (h:=0) a0.fNext.fHi a1.fNext.fHi underlying25) (FitF.cons (x:=(.int .u64 a0.fNext.fLo)) (y:=(.int .u64 a1.fNext.fLo)) (by decide) rfl tyS25 ⟨rfl,rfl⟩ ⟨rfl,rfl⟩ (FitE.int (h:=0) a0.fNext.fLo a1.fNext.fLo underlying25) FitF.nil)))) eqg27 ⟨rfl,rfl⟩ (by rfl) (L rfl) (q 14) (q 16)) (OptL.opt (OptL.opt OptL.nil)) (GuardV.plain _)) rfl (c (pickAnd rfl (L rfl) (q 12) (q 17)) rfl (c (mv hN (q 18)) rfl (c (oq hN 19 (fo 1002 5 [3] hN underlying35 5 tyS3 (q 2)) (OptL.keep (by rfl) OptL.nil) (GuardV.plain _)) rfl (c (oq hN 19 (la hN 35 tyS3 (q 20)) (OptL.opt OptL.nil) (GuardV.plain _)) rfl (c (oq hN 19 (fo 1003 5 [3] hN underlying35 5 tyS3 (q 3)) (OptL.keep (by rfl) OptL.nil) (GuardV.plain _)) rfl (c (oq hN 19 (la hN 35 tyS3 (q 22)) (OptL.opt OptL.nil) (GuardV.plain _)) rfl (c (oq hN 19 (eqlI (L rfl) (q 21) (q 23)) (OptL.opt (OptL.opt OptL.nil)) (GuardV.plain _)) rfl (c (pickAnd rfl (L rfl) (q 19) (q 24)) rfl (c (mv hN (q 25)) rfl (c (oq hN 26 (fo 1002 6 [4] hN underlying35 6 tyS3 (q 2)) (OptL.keep (by rfl) OptL.nil) (GuardV.plain _)) rfl (c (oq hN 26 (la hN 35 tyS3 (q 27)) (OptL.opt OptL.nil) (GuardV.plain _)) rfl (c (oq hN 26 (fo 1003 6 [4] hN underlying35 6 tyS3 (q 3)) (OptL.keep (by rfl) OptL.nil) (GuardV.plain _)) rfl (c (oq hN 26 (la hN 35 tyS3 (q 29)) (OptL.opt OptL.nil) (GuardV.plain _)) rfl (c (oq hN 26 (eqlI (L rfl) (q 28) (q 30)) (OptL.opt (OptL.opt OptL.nil)) (GuardV.plain _)) rfl (c (pickAnd rfl (L rfl) (q 26) (q 31)) rfl (c (mv hN (q 32)) rfl (c (oq hN 33 (fo 1002 7 [5] hN underlying35 7 tyS3 (q 2)) (OptL.keep (by rfl) OptL.nil) (GuardV.plain _)) rfl (c (oq hN 33 (la hN 35 tyS3 (q 34)) (OptL.opt OptL.nil) (GuardV.plain _)) rfl (c (oq hN 33 (fo 1003 7 [5] hN underlying35 7 tyS3 (q 3)) (OptL.keep (by rfl) OptL.nil) (GuardV.plain _)) rfl (c (oq hN 33 (la hN 35 tyS3 (q 36)) (OptL.opt OptL.nil) (GuardV.plain _)) rfl (c (oq hN 33 (eqlI (L rfl) (q 35) (q 37)) (OptL.opt (OptL.opt OptL.nil)) (GuardV.plain _)) rfl (c (pickAnd rfl (L rfl) (q 33) (q 38)) rfl (c (OpJ.val (v':=.d (.bool true)) (by rw [hg11]<;>rfl) (mv hN (q 39))) rfl (c (gd 40 (fo 1002 1 [1] hN underlying35 1 tyS30 (q 2))) rfl (c (gd 40 (la hN 35 tyS30 (q 41))) rfl (c (gd 40 (fo 1003 1 [1] hN underlying35 1 tyS30 (q 3))) rfl (c (gd 40 (la hN 35 tyS30 (q 43))) rfl (c (gd 40 (mv hN (q 5))) rfl (cg (gd 40 (cf hB fnOk61 (slices_EqualFunc_ac a0.fPath a1.fPath r12 hr12) (L rfl) (OpdL.cons (q 42) (OpdL.cons (q 44) (OpdL.cons (q 45) OpdL.nil))))) rfl (c (pickT (L rfl) (q 40) (q 46)) rfl (c (OpJ.val (v':=.d (.bool false)) (by rw [hg13]<;>rfl) (mv hN (q 47))) rfl (ks 48 (L rfl) (ks 48 (L rfl) (ks 48 (L rfl) (ks 48 (L rfl) (ks 48 (L rfl) (c (pickF (L rfl) (q 48) (Opd.bool false)) rfl (c (mv hN (q 54)) rfl (ks 55 (L rfl) (ks 55 (L rfl) (ks 55 (L rfl) (ks 55 (L rfl) (ks 55 (L rfl) (c (pickF (L rfl) (q 55) (Opd.bool false)) rfl (c (mv hN (q 61)) rfl (ks 62 (L rfl) (ks 62 (L rfl) (ks 62 (L rfl) (ks 62 (L rfl) (ks 62 (L rfl) (ks 62 (L rfl) (c (pickF (L rfl) (q 62) (Opd.bool false)) rfl (c (assign (L rfl) (q 69)) rfl cn))))))))))))))))))))))))))))))))))))))))))))))))))))))))))))))))
    exact hjj10 _ h _ _ (mp [] _ _ hB)
  ·have h:=ite_f hg11 h
   apply rg (c (fo 1002 0 [0] hN underlying35 0 tyS3 (q 2)) rfl (c (la hN 35 tyS3 (q 7)) rfl (c (fo 1003 0 [0] hN underlying35 0 tyS3 (q 3)) rfl (c (la hN 35 tyS3 (q 9)) rfl (c (eqlI (L rfl) (q 8) (q 10)) rfl (c (mv hN (q 11)) rfl (c (oq hN 12 (fo 1002 2 [2] hN underlying35 2 tyS27 (q 2)) (OptL.keep (by rfl) OptL.nil) (GuardV.plain _)) rfl (c (oq hN 12 (la hN 35 tyS27 (q 13)) (OptL.opt OptL.nil) (GuardV.plain _)) rfl (c (oq hN 12 (fo 1003 2 [2] hN underlying35 2 tyS27 (q 3)) (OptL.keep (by rfl) OptL.nil) (GuardV.plain _)) rfl (c (oq hN 12 (la hN 35 tyS27 (q 15)) (OptL.opt OptL.nil) (GuardV.plain _)) rfl (c (oq hN 12 (OpJ.eqlD (h:=2) (FitE.st underlying27 rfl held27 (FitF.cons (x:=(.bool a0.fNext.fV6)) (y:=(.bool a1.fNext.fV6)) (by decide) rfl tyS4 ⟨rfl,rfl⟩ ⟨rfl,rfl⟩ (FitE.bool (h:=0) a0.fNext.fV6 a1.fNext.fV6 underlying4) (FitF.cons (x:=(.int .u64 a0.fNext.fHi)) (y:=(.int .u64 a1.fNext.fHi)) (by decide) rfl tyS25 ⟨rfl,rfl⟩ ⟨rfl,rfl⟩ (FitE.int (h:=0) a0.fNext.fHi a1.fNext.fHi underlying25) (FitF.cons (x:=(.int .u64 a0.fNext.fLo)) (y:=(.int .u64 a1.fNext.fLo)) (by decide) rfl tyS25 ⟨rfl,rfl⟩ ⟨rfl,rfl⟩ (FitE.int (h:=0) a0.fNext.fLo a1.fNext.fLo underlying25) FitF.nil)))) eqg27 ⟨rfl,rfl⟩ (by rfl) (L rfl) (q 14) (q 16)) (OptL.opt (OptL.opt OptL.nil)) (GuardV.plain _)) rfl (c (pickAnd rfl (L rfl) (q 12) (q 17)) rfl (c (mv hN (q 18)) rfl (c (oq hN 19 (fo 1002 5 [3] hN underlying35 5 tyS3 (q 2)) (OptL.keep (by rfl) OptL.nil) (GuardV.plain _)) rfl (c (oq hN 19 (la hN 35 tyS3 (q 20)) (OptL.opt OptL.nil) (GuardV.plain _)) rfl (c (oq hN 19 (fo 1003 5 [3] hN underlying35 5 tyS3 (q 3)) (OptL.keep (by rfl) OptL.nil) (GuardV.plain _)) rfl (c (oq hN 19 (la hN 35 tyS3 (q 22)) (OptL.opt OptL.nil) (GuardV.plain _)) rfl (c (oq hN 19 (eqlI (L rfl) (q 21) (q 23)) (OptL.opt (OptL.opt OptL.nil)) (GuardV.plain _)) rfl (c (pickAnd rfl (L rfl) (q 19) (q 24)) rfl (c (mv hN (q 25)) rfl (c (oq hN 26 (fo 1002 6 [4] hN underlying35 6 tyS3 (q 2)) (OptL.keep (by rfl) OptL.nil) (GuardV.plain _)) rfl (c (oq hN 26 (la hN 35 tyS3 (q 27)) (OptL.opt OptL.nil) (GuardV.plain _)) rfl (c (oq hN 26 (fo 1003 6 [4] hN underlying35 6 tyS3 (q 3)) (OptL.keep (by rfl) OptL.nil) (GuardV.plain _)) rfl (c (oq hN 26 (la hN 35 tyS3 (q 29)) (OptL.opt OptL.nil) (GuardV.plain _)) rfl (c (oq hN 26 (eqlI (L rfl) (q 28) (q 30)) (OptL.opt (OptL.opt OptL.nil)) (GuardV.plain _)) rfl (c (pickAnd rfl (L rfl) (q 26) (q 31)) rfl (c (mv hN (q 32)) rfl (c (oq hN 33 (fo 1002 7 [5] hN underlying35 7 tyS3 (q 2)) (OptL.keep (by rfl) OptL.nil) (GuardV.plain _)) rfl (c (oq hN 33 (la hN 35 tyS3 (q 34)) (OptL.opt OptL.nil) (GuardV.plain _)) rfl (c (oq hN 33 (fo 1003 7 [5] hN underlying35 7 tyS3 (q 3)) (OptL.keep (by rfl) OptL.nil) (GuardV.plain _)) rfl (c (oq hN 33 (la hN 35 tyS3 (q 36)) (OptL.opt OptL.nil) (GuardV.plain _)) rfl (c (oq hN 33 (eqlI (L rfl) (q 35) (q 37)) (OptL.opt (OptL.opt OptL.nil)) (GuardV.plain _)) rfl (c (pickAnd rfl (L rfl) (q 33) (q 38)) rfl (c (OpJ.val (v':=.d (.bool false)) (by rw [hg11]<;>rfl) (mv hN (q 39))) rfl (ks 40 (L rfl) (ks 40 (L rfl) (ks 40 (L rfl) (ks 40 (L rfl) (ks 40 (L rfl) (ks 40 (L rfl) (c (pickF (L rfl) (q 40) (Opd.bool false)) rfl (c (mv hN (q 47)) rfl (ks 48 (L rfl) (ks 48 (L rfl) (ks 48 (L rfl) (ks 48 (L rfl) (ks 48 (L rfl) (c (pickF (L rfl) (q 48) (Opd.bool false)) rfl (c (mv hN (q 54)) rfl (ks 55 (L rfl) (ks 55 (L rfl) (ks 55 (L rfl) (ks 55 (L rfl) (ks 55 (L rfl) (c (pickF (L rfl) (q 55) (Opd.bool false)) rfl (c (mv hN (q 61)) rfl (ks 62 (L rfl) (ks 62 (L rfl) (ks 62 (L rfl) (ks 62 (L rfl) (ks 62 (L rfl) (ks 62 (L rfl) (c (pickF (L rfl) (q 62) (Opd.bool false)) rfl (c (assign (L rfl) (q 69)) rfl cn))))))))))))))))))))))))))))))))))))))))))))))))))))))))))))))))
   exact hjj10 _ h _ _ (mp [] _ _ hB)
def pack_Pack_1_2 (a0:pack_group) (a1:aChange):Option (Bool) :=
 (alike_Attrs a0.fattrs a1.fRoute.fAttrs).bind fun r1 =>
 some r1
theorem pack_Pack_1_2_ac (a0:pack_group) (a1:aChange) (r:Bool) (h:pack_Pack_1_2 a0 a1=some r):AC Tryz.prog 31 [(.d (e_pack_group a0)),(.dptr (e_aChange a1))] [] (.d (.bool r)) []:=by
 refine AC.of_code2 Tryz.func31 rfl rfl (Nat.le_of_ble_eq_true (by rfl)) fun B hB hN => ?_
 delta pack_Pack_1_2 at h
 refine sr (SQ tt) ?_
 obtain⟨r1,hr1,h⟩:=bindS h
 refine sr (SQ (fa (cl [] (alike_Attrs_ac a0.fattrs a1.fRoute.fAttrs r1 hr1)) tt)) ?_
 apply AWp.ret
 obtain rfl:=oi h
 exact rt (kp [(3,_)] [] hB rfl rfl (by rfl)) [(bo r1)] (Res.tmp (by rfl) (by rfl) Res.nil) rfl
def slices_IndexFunc_4_L0 (a0:(List pack_group)) (a1:aChange) (s1:Int):Option (((Int)⊕(Unit))⊕(Int)) :=
 (if (decide (s1<(a0.length:Int)))=true then
 (idx a0 s1).bind fun x13 =>
 (pack_Pack_1_2 x13 a1).bind fun r14 =>
 (if r14=true then
 some (.inl (.inl s1))
 else
 some (.inr (w64 (s1+1))))
 else
 some (.inl (.inr ())))
def slices_IndexFunc_4 (a0:(List pack_group)) (a1:aChange):Option (Int) :=
 (loop (slices_IndexFunc_4_L0 a0 a1) 0).bind fun x16=>match x16 with
 | (.inl p10) =>
  some p10
 | (.inr _) =>
  some (-1)
theorem slices_IndexFunc_4_ac (a0:(List pack_group)) (a1:aChange) (r:Int) (h:slices_IndexFunc_4 a0 a1=some r):AC Tryz.prog 30 [(.d (.list 12 (a0.map e_pack_group))),(.func 31 [(.dptr (e_aChange a1))])] [] (.d (.int .i64 r)) []:=by
 refine AC.of_code2 Tryz.func30 rfl rfl (Nat.le_of_ble_eq_true (by rfl)) fun B hB hN => ?_
 delta slices_IndexFunc_4 at h
 refine sr (SQ tt) ?_
 apply AWp.seq
 refine sr (SQ tt) ?_
 apply AWp.block
 obtain⟨x16,hx17,h⟩:=bindS h
 refine lg (slices_IndexFunc_4_L0 a0 a1) (fun s1:Int=>([(0,(.d (.list 12 (a0.map e_pack_group)))),(1,(.func 31 [(.dptr (e_aChange a1))])),(7,(i6 (a0.length:Int))),(8,(i6 s1))]:EL)) (fun s1:Int=>([]:OL)) (fun(x:(Int)⊕(Unit)) e E' O'=>match x with | (.inl p10)=>e = .ret∧Mat B E' O' ([(4,(i6 p10))]:EL) ([]:OL) | (.inr _p)=>e = .exit 0∧Mat B E' O' ([]:EL) ([]:OL)) hx17 (mp [] _ _ hB) (fun s1 y h => ?_) (fun e E' O' hR => ?_)
 ·unfold slices_IndexFunc_4_L0 at h
  refine sr (SQ tt) ?_
  apply AWp.seq
  apply AWp.cond rfl<;>intro hg12
  ·have h:=ite_t hg12 h
   apply AWp.skip
   apply seqQ_n
   apply AWp.seq
   apply AWp.block
   refine sr (SQ tt) ?_
   obtain⟨x13,hx13,h⟩:=bindS h
   obtain⟨r14,hr14,h⟩:=bindS h
   refine sr (SQ (fa hx13 (fa (cl [] (pack_Pack_1_2_ac x13 a1 r14 hr14)) tt))) ?_
   apply AWp.cond rfl<;>intro hg15
   ·have h:=ite_t hg15 h
    refine sr (SQ tt) ?_
    apply AWp.ret
    apply blkQ_r
    apply seqQ_r
    obtain rfl:=oi h
    exact⟨(fun hc=>by cases hc),rfl,(mp [] _ _ hB)⟩
   ·have h:=ite_f hg15 h
    apply AWp.skip
    apply blkQ_n
    apply seqQ_n
    refine rg (SQ tt) ?_
    obtain rfl:=oi h
    exact⟨rfl,(mp [] _ _ hB)⟩
  ·have h:=ite_f hg12 h
   apply AWp.exit
   apply seqQ_e
   obtain rfl:=oi h
   exact⟨(fun hc=>by cases hc),rfl,(mp [] _ _ hB)⟩
 ·rcases x16 with p10 | _
  ·obtain⟨rfl,hmat⟩:=hR
   apply blkQ_r
   apply seqQ_r
   obtain rfl:=oi h
   exact rt (Mat.trans hmat (mp [] [(4,(i6 p10))] [] hB)) [(i6 p10)] (Res.tmp (by rfl) (by rfl) Res.nil) rfl
  ·obtain⟨rfl,hmat⟩:=hR
   apply blkQ_hit
   apply seqQ_n
   refine AWp.ghost hmat ?_
   refine sr (SQ tt) ?_
   apply AWp.ret
   obtain rfl:=oi h
   exact rt (kp [(4,_)] [] hB rfl rfl (by rfl)) [(i6 (-1))] (Res.tmp (by rfl) (by rfl) Res.nil) rfl
def pack_filled_L1 (a0:pack_group) (a1:Bool) (s1:Int×(List aUpdate)) (s88:Int):Option (((Int))⊕(Int)) :=
 jn (fun m116:Bool =>
 (if m116=true then
 some (.inr (w64 (s88+1)))
 else
 some (.inl s88))) (fun j117 =>
 (if (decide (s88<(a0.fprefixes.length:Int)))=true then
 chk ((decide (0≤s1.1)&&decide (0≤(w64 (s88+1)))&&decide (s1.1.toNat≤(w64 (s88+1)).toNat)&&decide ((w64 (s88+1)).toNat≤a0.fprefixes.length))) <|
 (pack_message a0.fattrs ((a0.fprefixes.take ((w64 (s88+1)).toNat)).drop s1.1.toNat) a1).bind fun r121 =>
 (update_Valid r121).bind fun r122 =>
 j117 r122
 else
 j117 false))
def pack_filled_L0 (a0:pack_group) (a1:Bool) (s1:Int×(List aUpdate)):Option ((((List aUpdate)))⊕(Int×(List aUpdate))) :=
 (if (decide (s1.1<(a0.fprefixes.length:Int)))=true then
 (loop (pack_filled_L1 a0 a1 s1) (w64 (s1.1+1))).bind fun p111 =>
 chk ((decide (0≤s1.1)&&decide (0≤p111)&&decide (s1.1.toNat≤p111.toNat)&&decide (p111.toNat≤a0.fprefixes.length))) <|
 (pack_message a0.fattrs ((a0.fprefixes.take p111.toNat).drop s1.1.toNat) a1).bind fun r126 =>
 chk (decide ((s1.2++[r126]).length≤LIM)) <|
 some (.inr (p111,(s1.2++[r126])))
 else
 some (.inl s1.2))
def pack_filled (a0:pack_group) (a1:Bool):Option ((List aUpdate)) :=
 (loop (pack_filled_L0 a0 a1) (0,([]:List aUpdate))).bind fun p86 =>
 some p86
theorem pack_filled_ac (a0:pack_group) (a1:Bool) (r:(List aUpdate)) (h:pack_filled a0 a1=some r):AC Tryz.prog 33 [(.d (e_pack_group a0)),(.d (.bool a1))] [(500,(.know (globD 0 (.imap gv0))))] (.d (.list 13 (r.map e_aUpdate))) [(500,some (.know (globD 0 (.imap gv0))))]:=by
 refine ac2 Tryz.func33 rfl rfl fun B hB hN L => ?_
 delta pack_filled at h
 refine sr (SQ tt) ?_
 refine sr (SQ tt) ?_
 apply AWp.seq
 refine sr (SQ tt) ?_
 apply AWp.block
 obtain⟨p86,hx129,h⟩:=bindS h
 refine lg (pack_filled_L0 a0 a1) (fun s1:Int×(List aUpdate)=>([(1,(bo a1)),(2,(pt 1002)),(5,(.sref 3005 13 0 s1.2.length)),(6,(i6 s1.1))]:EL)) (fun s1:Int×(List aUpdate)=>([(500,some (.know (globD 0 (.imap gv0)))),(1002,bd 79 (e_pack_group a0)),(3005,some (we_aUpdate_61_13 s1.2))]:OL)) (fun(p86:((List aUpdate))) e E' O'=>e = .exit 0∧Mat B E' O' ([(5,(.sref 3005 13 0 p86.length))]:EL) ([(500,some (.know (globD 0 (.imap gv0)))),(3005,some (we_aUpdate_61_13 p86))]:OL)) hx129 (Mat.trans (Mat.beginP (n:=3005) (e:=61) (sz:=13) (Ts:=[(5,(.sref 3005 13 0 0))]) (Bs:=[]) hB (by decide) (by rfl) (by decide) (TwT.cons (x:=.nils) (by rfl) (Tw.leaf ⟨rfl,rfl⟩) TwT.nil) TwB.nil) (mp [] _ _ hB)) (fun s1 y h => ?_) (fun e E' O' hR => ?_)
 ·unfold pack_filled_L0 at h
  apply AWp.seq
  refine sr (SQ tt) ?_
  apply AWp.cond rfl<;>intro hg87
  ·have h:=ite_t hg87 h
   apply AWp.skip
   apply seqQ_n
   apply AWp.block
   refine sr (SQ tt) ?_
   apply AWp.seq
   apply AWp.block
   obtain⟨p111,hx124,h⟩:=bindS h
   refine lg (pack_filled_L1 a0 a1 s1) (fun s88:Int=>([(1,(bo a1)),(2,(pt 1002)),(5,(.sref 3005 13 0 s1.2.length)),(6,(i6 s1.1)),(7,(i6 s88))]:EL)) (fun s88:Int=>([(500,some (.know (globD 0 (.imap gv0)))),(1002,bd 79 (e_pack_group a0)),(3005,some (we_aUpdate_61_13 s1.2))]:OL)) (fun(p111:(Int)) e E' O'=>e = .exit 2∧Mat B E' O' ([(1,(bo a1)),(2,(pt 1002)),(5,(.sref 3005 13 0 s1.2.length)),(6,(i6 s1.1)),(7,(i6 p111))]:EL) ([(500,some (.know (globD 0 (.imap gv0)))),(1002,bd 79 (e_pack_group a0)),(3005,some (we_aUpdate_61_13 s1.2))]:OL)) hx124 (mp [] _ _ hB) (fun s88 y h => ?_) (fun e E' O' hR => ?_)
   ·unfold pack_filled_L1 at h
    apply AWp.seq
    apply AWp.seq
    refine AWp.cut h (fun m116:Bool=>([(1,(bo a1)),(2,(pt 1002)),(5,(.sref 3005 13 0 s1.2.length)),(6,(i6 s1.1)),(7,(i6 s88)),(32,(bo m116))]:EL)) (fun m116:Bool=>([(500,some (.know (globD 0 (.imap gv0)))),(1002,bd 79 (e_pack_group a0)),(3005,some (we_aUpdate_61_13 s1.2))]:OL)) (fun m116 h E' O' hmat => ?_) (fun j117 hjj117 h => ?_)
    ·apply seqQ_n
     refine AWp.ghost hmat ?_
     apply AWp.cond rfl<;>intro hg118
     ·have h:=ite_t hg118 h
      apply AWp.skip
      apply seqQ_n
      apply AWp.block
      refine rg (SQ tt) ?_
      apply blkQ_n
      obtain rfl:=oi h
      exact⟨rfl,(mp [] _ _ hB)⟩
     ·have h:=ite_f hg118 h
      apply AWp.exit
      apply seqQ_e
      obtain rfl:=oi h
      exact⟨(fun hc=>by cases hc),rfl,(mp [] _ _ hB)⟩
    ·rcases bft (decide (s88<(a0.fprefixes.length:Int))) with hg119 | hg119
     ·have h:=ite_t hg119 h
      obtain⟨hc120,h⟩:=chk_some h
      obtain⟨r121,hr121,h⟩:=bindS h
      obtain⟨r122,hr122,h⟩:=bindS h
      refine AWp.draws (by kernel_rfl) (oc (mv hN (ot 7 (i6 s88)))
       (oc (ov (.ptr 1002 11 [1]) (fp hN underlying79 11 tyS59 (.box 79 (.d (e_pack_group a0))) (ot 2 (pt 1002))))
       (oc (lb hN 79 (.d (e_pack_group a0)) (qe_aPrefix_4 a0.fprefixes) tyS59 (ad (.list 4 (a0.fprefixes.map e_aPrefix))) (ot 16 (.ptr 1002 11 [1])))
       (oc (OpJ.val (v':=(i6 (a0.fprefixes.length:Int))) (by simp) (lenD underlying59 (L rfl) (ot 17 (qe_aPrefix_4 a0.fprefixes))))
       (oc (lss (L rfl) (ot 15 (i6 s88)) (ot 18 (i6 (a0.fprefixes.length:Int))))
       (oc (OpJ.val (v':=.d (.bool true)) (by rw [hg119]<;>rfl) (mv hN (ot 19 (bo (decide (s88<(a0.fprefixes.length:Int)))))))
       (oc (gd 20 (ov (.ptr 1002 0 [0]) (fp hN underlying79 0 tyS35 (.box 79 (.d (e_pack_group a0))) (ot 2 (pt 1002)))))
       (oc (gd 20 (lb hN 79 (.d (e_pack_group a0)) (.d (e_aAttrs a0.fattrs)) tyS35 (ad (e_aAttrs a0.fattrs)) (ot 21 (.ptr 1002 0 [0]))))
       (oc (gd 20 (ov (.ptr 1002 11 [1]) (fp hN underlying79 11 tyS59 (.box 79 (.d (e_pack_group a0))) (ot 2 (pt 1002)))))
       (oc (gd 20 (lb hN 79 (.d (e_pack_group a0)) (qe_aPrefix_4 a0.fprefixes) tyS59 (ad (.list 4 (a0.fprefixes.map e_aPrefix))) (ot 23 (.ptr 1002 11 [1]))))
       (oc (gd 20 (mv hN (ot 6 (i6 s1.1))))
       (oc (gd 20 (mv hN (ot 7 (i6 s88))))
       (oc (gd 20 (add6 (L rfl) (ot 26 (i6 s88)) (ii 1)))
       (oc (gd 20 (OpJ.cutD underlying59 tyS29 (es:=a0.fprefixes.map e_aPrefix) (es':=((a0.fprefixes.take ((w64 (s88+1)).toNat)).drop s1.1.toNat).map e_aPrefix) (l:=s1.1.toNat) (h:=(w64 (s88+1)).toNat) (.inr ⟨_,_,_,rfl,(ot 25 (i6 s1.1)),(of_decide_eq_true (and_l2 (and_l2 (and_l2 hc120)))),rfl⟩) (.inr ⟨_,_,_,rfl,(ot 27 (i6 (w64 (s88+1)))),(of_decide_eq_true (and_r2 (and_l2 (and_l2 hc120)))),rfl⟩) (of_decide_eq_true (and_r2 (and_l2 hc120))) (by first | (simp;done) | simpa using (of_decide_eq_true (and_r2 hc120))) (by first | rw [List.map_drop,List.map_take] | (simp [List.map_take,List.map_drop];done) | simp [List.take_of_length_le]) (L rfl) (ot 24 (qe_aPrefix_4 a0.fprefixes))))
       (oc (gd 20 (mv hN (ot 1 (bo a1))))
       (oc (gd 20 (OpJ.callFn hB fnOk53 (pack_message_ac a0.fattrs ((a0.fprefixes.take ((w64 (s88+1)).toNat)).drop s1.1.toNat) a1 r121 hr121) [] (by kernel_rfl) (L rfl) (by kernel_rfl) (OpdL.cons (ot 22 (.d (e_aAttrs a0.fattrs))) (OpdL.cons (ot 28 (qe_aPrefix_4 ((a0.fprefixes.take ((w64 (s88+1)).toNat)).drop s1.1.toNat))) (OpdL.cons (ot 29 (bo a1)) OpdL.nil)))))
       (oc (gd 20 (OpJ.callFn hB fnOk52 (update_Valid_ac r121 r122 hr122) [(500,500)] (by kernel_rfl) (L rfl) (by kernel_rfl) (OpdL.cons (ot 30 (.d (e_aUpdate r121))) OpdL.nil)))
       (oc (pickT (L rfl) (ot 20 (bo true)) (ot 31 (bo r122)))
       (OpJs.nil))))))))))))))))))) (by kernel_rfl) (by rfl) (by rfl) ?_
      exact hjj117 _ h _ _ (mp [] _ _ hB)
     ·have h:=ite_f hg119 h
      refine drS (SQ (fa hg119 tt)) ?_
      exact hjj117 _ h _ _ (mp [] _ _ hB)
   ·obtain⟨rfl,hmat⟩:=hR
    apply blkQ_hit
    apply seqQ_n
    refine AWp.ghost hmat ?_
    obtain⟨hc125,h⟩:=chk_some h
    obtain⟨r126,hr126,h⟩:=bindS h
    obtain⟨hc127,h⟩:=chk_some h
    apply sd (c (mv hN (q 5)) rfl (c (fo 1002 0 [0] hN underlying79 0 tyS35 (q 2)) rfl (c (la hN 79 tyS35 (q 36)) rfl (c (fo 1002 11 [1] hN underlying79 11 tyS59 (q 2)) rfl (c (la hN 79 tyS59 (q 38)) rfl (c (mv hN (q 6)) rfl (c (mv hN (q 7)) rfl (c (OpJ.cutD underlying59 tyS29 (es':=((a0.fprefixes.take p111.toNat).drop s1.1.toNat).map e_aPrefix) (l:=s1.1.toNat) (h:=p111.toNat) (.inr ⟨_,_,_,rfl,(ot 40 (i6 s1.1)),(of_decide_eq_true (and_l2 (and_l2 (and_l2 hc125)))),rfl⟩) (.inr ⟨_,_,_,rfl,(ot 41 (i6 p111)),(of_decide_eq_true (and_r2 (and_l2 (and_l2 hc125)))),rfl⟩) (of_decide_eq_true (and_r2 (and_l2 hc125))) (by first | (simp;done) | simpa using (of_decide_eq_true (and_r2 hc125))) (by first | rw [List.map_drop,List.map_take] | (simp [List.map_take,List.map_drop];done) | simp [List.take_of_length_le]) (L rfl) (q 39)) rfl (c (mv hN (q 1)) rfl (cg (cf hB fnOk53 (pack_message_ac a0.fattrs ((a0.fprefixes.take p111.toNat).drop s1.1.toNat) a1 r126 hr126) (L rfl) (OpdL.cons (q 37) (OpdL.cons (q 42) (OpdL.cons (q 43) OpdL.nil)))) rfl (c (buildSlice underlying47 tyS61 tyZD61 (by rfl) (by decide) (by decide) (Opds.cons (q 44) Opds.nil) (by kernel_rfl) (es:=([(e_aUpdate r126)]:List D)) (by rfl) (by rfl) (by kernel_rfl) (by simp) (L rfl)) rfl (cg (apd hB underlying47 tyE61 1046 e_aUpdate s1.2 [r126] hc127 (L rfl) (q 35) (q 45)) rfl (c (assign (L rfl) (q 46)) rfl cn))))))))))))) (by kernel_rfl) (by kernel_rfl)
    refine rg (SQ tt) ?_
    apply blkQ_n
    obtain rfl:=oi h
    exact⟨rfl,(mp [(3005,1046)] _ _ hB)⟩
  ·have h:=ite_f hg87 h
   apply AWp.exit
   apply seqQ_e
   obtain rfl:=oi h
   exact⟨(fun hc=>by cases hc),rfl,(mp [] _ _ hB)⟩
 ·obtain⟨rfl,hmat⟩:=hR
  apply blkQ_hit
  apply seqQ_n
  refine AWp.ghost hmat ?_
  refine sr (SQ tt) ?_
  apply AWp.ret
  obtain rfl:=oi h
  exact rt (Mat.trans (Mat.freezeP (n:=3005) (e:=61) (sz:=13) (es:=p86.map e_aUpdate) (Ts:=[(4,(qe_aUpdate_13 p86))]) (Bs:=[]) (by rfl) (TwT.cons (x:=(.sref 3005 13 0 p86.length)) (by rfl) (FrzL.all (by first | rfl | (simp;done) | (simp;omega) | omega)) TwT.nil) TwB.nil) (mp [] [(4,(qe_aUpdate_13 p86))] [(500,some (.know (globD 0 (.imap gv0))))] hB)) [(qe_aUpdate_13 p86)] (Res.tmp (by rfl) (by rfl) Res.nil) rfl
def pack_filled_2_L1 (a0:pack_group) (a1:Bool) (s1:Int×(List aUpdate)) (s88:Int):Option (((Int))⊕(Int)) :=
 jn (fun m116:Bool =>
 (if m116=true then
 some (.inr (w64 (s88+1)))
 else
 some (.inl s88))) (fun j117 =>
 (if (decide (s88<(a0.fprefixes.length:Int)))=true then
 chk ((decide (0≤s1.1)&&decide (0≤(w64 (s88+1)))&&decide (s1.1.toNat≤(w64 (s88+1)).toNat)&&decide ((w64 (s88+1)).toNat≤a0.fprefixes.length))) <|
 (pack_message a0.fattrs ((a0.fprefixes.take ((w64 (s88+1)).toNat)).drop s1.1.toNat) a1).bind fun r121 =>
 (update_Valid r121).bind fun r122 =>
 j117 r122
 else
 j117 false))
def pack_filled_2_L0 (a0:pack_group) (a1:Bool) (s1:Int×(List aUpdate)):Option ((((List aUpdate)))⊕(Int×(List aUpdate))) :=
 (if (decide (s1.1<(a0.fprefixes.length:Int)))=true then
 (loop (pack_filled_2_L1 a0 a1 s1) (w64 (s1.1+1))).bind fun p111 =>
 chk ((decide (0≤s1.1)&&decide (0≤p111)&&decide (s1.1.toNat≤p111.toNat)&&decide (p111.toNat≤a0.fprefixes.length))) <|
 (pack_message a0.fattrs ((a0.fprefixes.take p111.toNat).drop s1.1.toNat) a1).bind fun r126 =>
 chk (decide ((s1.2++[r126]).length≤LIM)) <|
 some (.inr (p111,(s1.2++[r126])))
 else
 some (.inl s1.2))
def pack_filled_2 (a0:pack_group) (a1:Bool):Option ((List aUpdate)) :=
 (loop (pack_filled_2_L0 a0 a1) (0,([]:List aUpdate))).bind fun p86 =>
 some p86
theorem pack_filled_2_ac (a0:pack_group) (a1:Bool) (r:(List aUpdate)) (h:pack_filled_2 a0 a1=some r):AC Tryz.prog 33 [(.d (e_pack_group a0)),(.d (.bool a1))] [(500,(.know (globD 0 (.imap gv0))))] (.sref 900000 13 0 r.length) [(500,some (.know (globD 0 (.imap gv0)))),(900000,some (.row 61 13 (r.map e_aUpdate)))]:=by
 refine ac2 Tryz.func33 rfl rfl fun B hB hN L => ?_
 delta pack_filled_2 at h
 refine sr (SQ tt) ?_
 refine sr (SQ tt) ?_
 apply AWp.seq
 refine sr (SQ tt) ?_
 apply AWp.block
 obtain⟨p86,hx129,h⟩:=bindS h
 refine lg (pack_filled_2_L0 a0 a1) (fun s1:Int×(List aUpdate)=>([(1,(bo a1)),(2,(pt 1002)),(5,(.sref 3005 13 0 s1.2.length)),(6,(i6 s1.1))]:EL)) (fun s1:Int×(List aUpdate)=>([(500,some (.know (globD 0 (.imap gv0)))),(1002,bd 79 (e_pack_group a0)),(3005,some (we_aUpdate_61_13 s1.2))]:OL)) (fun(p86:((List aUpdate))) e E' O'=>e = .exit 0∧Mat B E' O' ([(5,(.sref 3005 13 0 p86.length))]:EL) ([(500,some (.know (globD 0 (.imap gv0)))),(3005,some (we_aUpdate_61_13 p86))]:OL)) hx129 (Mat.trans (Mat.beginP (n:=3005) (e:=61) (sz:=13) (Ts:=[(5,(.sref 3005 13 0 0))]) (Bs:=[]) hB (by decide) (by rfl) (by decide) (TwT.cons (x:=.nils) (by rfl) (Tw.leaf ⟨rfl,rfl⟩) TwT.nil) TwB.nil) (mp [] _ _ hB)) (fun s1 y h => ?_) (fun e E' O' hR => ?_)
 ·unfold pack_filled_2_L0 at h
  apply AWp.seq
  refine sr (SQ tt) ?_
  apply AWp.cond rfl<;>intro hg87
  ·have h:=ite_t hg87 h
   apply AWp.skip
   apply seqQ_n
   apply AWp.block
   refine sr (SQ tt) ?_
   apply AWp.seq
   apply AWp.block
   obtain⟨p111,hx124,h⟩:=bindS h
   refine lg (pack_filled_2_L1 a0 a1 s1) (fun s88:Int=>([(1,(bo a1)),(2,(pt 1002)),(5,(.sref 3005 13 0 s1.2.length)),(6,(i6 s1.1)),(7,(i6 s88))]:EL)) (fun s88:Int=>([(500,some (.know (globD 0 (.imap gv0)))),(1002,bd 79 (e_pack_group a0)),(3005,some (we_aUpdate_61_13 s1.2))]:OL)) (fun(p111:(Int)) e E' O'=>e = .exit 2∧Mat B E' O' ([(1,(bo a1)),(2,(pt 1002)),(5,(.sref 3005 13 0 s1.2.length)),(6,(i6 s1.1)),(7,(i6 p111))]:EL) ([(500,some (.know (globD 0 (.imap gv0)))),(1002,bd 79 (e_pack_group a0)),(3005,some (we_aUpdate_61_13 s1.2))]:OL)) hx124 (mp [] _ _ hB) (fun s88 y h => ?_) (fun e E' O' hR => ?_)
   ·unfold pack_filled_2_L1 at h
    apply AWp.seq
    apply AWp.seq
    refine AWp.cut h (fun m116:Bool=>([(1,(bo a1)),(2,(pt 1002)),(5,(.sref 3005 13 0 s1.2.length)),(6,(i6 s1.1)),(7,(i6 s88)),(32,(bo m116))]:EL)) (fun m116:Bool=>([(500,some (.know (globD 0 (.imap gv0)))),(1002,bd 79 (e_pack_group a0)),(3005,some (we_aUpdate_61_13 s1.2))]:OL)) (fun m116 h E' O' hmat => ?_) (fun j117 hjj117 h => ?_)
    ·apply seqQ_n
     refine AWp.ghost hmat ?_
     apply AWp.cond rfl<;>intro hg118
     ·have h:=ite_t hg118 h
      apply AWp.skip
      apply seqQ_n
      apply AWp.block
      refine rg (SQ tt) ?_
      apply blkQ_n
      obtain rfl:=oi h
      exact⟨rfl,(mp [] _ _ hB)⟩
     ·have h:=ite_f hg118 h
      apply AWp.exit
      apply seqQ_e
      obtain rfl:=oi h
      exact⟨(fun hc=>by cases hc),rfl,(mp [] _ _ hB)⟩
    ·rcases bft (decide (s88<(a0.fprefixes.length:Int))) with hg119 | hg119
     ·have h:=ite_t hg119 h
      obtain⟨hc120,h⟩:=chk_some h
      obtain⟨r121,hr121,h⟩:=bindS h
      obtain⟨r122,hr122,h⟩:=bindS h
      refine AWp.draws (by kernel_rfl) (oc (mv hN (ot 7 (i6 s88)))
       (oc (ov (.ptr 1002 11 [1]) (fp hN underlying79 11 tyS59 (.box 79 (.d (e_pack_group a0))) (ot 2 (pt 1002))))
       (oc (lb hN 79 (.d (e_pack_group a0)) (qe_aPrefix_4 a0.fprefixes) tyS59 (ad (.list 4 (a0.fprefixes.map e_aPrefix))) (ot 16 (.ptr 1002 11 [1])))
       (oc (OpJ.val (v':=(i6 (a0.fprefixes.length:Int))) (by simp) (lenD underlying59 (L rfl) (ot 17 (qe_aPrefix_4 a0.fprefixes))))
       (oc (lss (L rfl) (ot 15 (i6 s88)) (ot 18 (i6 (a0.fprefixes.length:Int))))
       (oc (OpJ.val (v':=.d (.bool true)) (by rw [hg119]<;>rfl) (mv hN (ot 19 (bo (decide (s88<(a0.fprefixes.length:Int)))))))
       (oc (gd 20 (ov (.ptr 1002 0 [0]) (fp hN underlying79 0 tyS35 (.box 79 (.d (e_pack_group a0))) (ot 2 (pt 1002)))))
       (oc (gd 20 (lb hN 79 (.d (e_pack_group a0)) (.d (e_aAttrs a0.fattrs)) tyS35 (ad (e_aAttrs a0.fattrs)) (ot 21 (.ptr 1002 0 [0]))))
       (oc (gd 20 (ov (.ptr 1002 11 [1]) (fp hN underlying79 11 tyS59 (.box 79 (.d (e_pack_group a0))) (ot 2 (pt 1002)))))
       (oc (gd 20 (lb hN 79 (.d (e_pack_group a0)) (qe_aPrefix_4 a0.fprefixes) tyS59 (ad (.list 4 (a0.fprefixes.map e_aPrefix))) (ot 23 (.ptr 1002 11 [1]))))
       (oc (gd 20 (mv hN (ot 6 (i6 s1.1))))
       (oc (gd 20 (mv hN (ot 7 (i6 s88))))
       (oc (gd 20 (add6 (L rfl) (ot 26 (i6 s88)) (ii 1)))
       (oc (gd 20 (OpJ.cutD underlying59 tyS29 (es:=a0.fprefixes.map e_aPrefix) (es':=((a0.fprefixes.take ((w64 (s88+1)).toNat)).drop s1.1.toNat).map e_aPrefix) (l:=s1.1.toNat) (h:=(w64 (s88+1)).toNat) (.inr ⟨_,_,_,rfl,(ot 25 (i6 s1.1)),(of_decide_eq_true (and_l2 (and_l2 (and_l2 hc120)))),rfl⟩) (.inr ⟨_,_,_,rfl,(ot 27 (i6 (w64 (s88+1)))),(of_decide_eq_true (and_r2 (and_l2 (and_l2 hc120)))),rfl⟩) (of_decide_eq_true (and_r2 (and_l2 hc120))) (by first | (simp;done) | simpa using (of_decide_eq_true (and_r2 hc120))) (by first | rw [List.map_drop,List.map_take] | (simp [List.map_take,List.map_drop];done) | simp [List.take_of_length_le]) (L rfl) (ot 24 (qe_aPrefix_4 a0.fprefixes))))
       (oc (gd 20 (mv hN (ot 1 (bo a1))))
       (oc (gd 20 (OpJ.callFn hB fnOk53 (pack_message_ac a0.fattrs ((a0.fprefixes.take ((w64 (s88+1)).toNat)).drop s1.1.toNat) a1 r121 hr121) [] (by kernel_rfl) (L rfl) (by kernel_rfl) (OpdL.cons (ot 22 (.d (e_aAttrs a0.fattrs))) (OpdL.cons (ot 28 (qe_aPrefix_4 ((a0.fprefixes.take ((w64 (s88+1)).toNat)).drop s1.1.toNat))) (OpdL.cons (ot 29 (bo a1)) OpdL.nil)))))
       (oc (gd 20 (OpJ.callFn hB fnOk52 (update_Valid_ac r121 r122 hr122) [(500,500)] (by kernel_rfl) (L rfl) (by kernel_rfl) (OpdL.cons (ot 30 (.d (e_aUpdate r121))) OpdL.nil)))
       (oc (pickT (L rfl) (ot 20 (bo true)) (ot 31 (bo r122)))
       (OpJs.nil))))))))))))))))))) (by kernel_rfl) (by rfl) (by rfl) ?_
      exact hjj117 _ h _ _ (mp [] _ _ hB)
     ·have h:=ite_f hg119 h
      refine drS (SQ (fa hg119 tt)) ?_
      exact hjj117 _ h _ _ (mp [] _ _ hB)
   ·obtain⟨rfl,hmat⟩:=hR
    apply blkQ_hit
    apply seqQ_n
    refine AWp.ghost hmat ?_
    obtain⟨hc125,h⟩:=chk_some h
    obtain⟨r126,hr126,h⟩:=bindS h
    obtain⟨hc127,h⟩:=chk_some h
    apply sd (c (mv hN (q 5)) rfl (c (fo 1002 0 [0] hN underlying79 0 tyS35 (q 2)) rfl (c (la hN 79 tyS35 (q 36)) rfl (c (fo 1002 11 [1] hN underlying79 11 tyS59 (q 2)) rfl (c (la hN 79 tyS59 (q 38)) rfl (c (mv hN (q 6)) rfl (c (mv hN (q 7)) rfl (c (OpJ.cutD underlying59 tyS29 (es':=((a0.fprefixes.take p111.toNat).drop s1.1.toNat).map e_aPrefix) (l:=s1.1.toNat) (h:=p111.toNat) (.inr ⟨_,_,_,rfl,(ot 40 (i6 s1.1)),(of_decide_eq_true (and_l2 (and_l2 (and_l2 hc125)))),rfl⟩) (.inr ⟨_,_,_,rfl,(ot 41 (i6 p111)),(of_decide_eq_true (and_r2 (and_l2 (and_l2 hc125)))),rfl⟩) (of_decide_eq_true (and_r2 (and_l2 hc125))) (by first | (simp;done) | simpa using (of_decide_eq_true (and_r2 hc125))) (by first | rw [List.map_drop,List.map_take] | (simp [List.map_take,List.map_drop];done) | simp [List.take_of_length_le]) (L rfl) (q 39)) rfl (c (mv hN (q 1)) rfl (cg (cf hB fnOk53 (pack_message_ac a0.fattrs ((a0.fprefixes.take p111.toNat).drop s1.1.toNat) a1 r126 hr126) (L rfl) (OpdL.cons (q 37) (OpdL.cons (q 42) (OpdL.cons (q 43) OpdL.nil)))) rfl (c (buildSlice underlying47 tyS61 tyZD61 (by rfl) (by decide) (by decide) (Opds.cons (q 44) Opds.nil) (by kernel_rfl) (es:=([(e_aUpdate r126)]:List D)) (by rfl) (by rfl) (by kernel_rfl) (by simp) (L rfl)) rfl (cg (apd hB underlying47 tyE61 1046 e_aUpdate s1.2 [r126] hc127 (L rfl) (q 35) (q 45)) rfl (c (assign (L rfl) (q 46)) rfl cn))))))))))))) (by kernel_rfl) (by kernel_rfl)
    refine rg (SQ tt) ?_
    apply blkQ_n
    obtain rfl:=oi h
    exact⟨rfl,(mp [(3005,1046)] _ _ hB)⟩
  ·have h:=ite_f hg87 h
   apply AWp.exit
   apply seqQ_e
   obtain rfl:=oi h
   exact⟨(fun hc=>by cases hc),rfl,(mp [] _ _ hB)⟩
 ·obtain⟨rfl,hmat⟩:=hR
  apply blkQ_hit
  apply seqQ_n
  refine AWp.ghost hmat ?_
  refine sr (SQ tt) ?_
  apply AWp.ret
  obtain rfl:=oi h
  exact rt (mp [(900000,3005)] [(4,(.sref 900000 13 0 p86.length))] [(500,some (.know (globD 0 (.imap gv0)))),(900000,some (we_aUpdate_61_13 p86))] hB) [(.sref 900000 13 0 p86.length)] (Res.tmp (by rfl) (by rfl) Res.nil) rfl
def pack_Pack_L0 (a0:(List aChange)) (s1:Int×(List pack_group)×(List aPrefix)):Option (((Unit)⊕((List pack_group)×(List aPrefix)))⊕(Int×(List pack_group)×(List aPrefix))) :=
 (if (decide (s1.1<(a0.length:Int)))=true then
 jn (fun m152:(List pack_group)×(List aPrefix) =>
 some (.inr ((w64 (s1.1+1)),m152.1,m152.2))) (fun j153 =>
 (idx a0 s1.1).bind fun x154 =>
 jn (fun m161:Bool =>
 (if m161=true then
 some (.inl (.inl ()))
 else
 (if (!x154.fHas)=true then
 chk (decide ((s1.2.2++[x154.fPrefix]).length≤LIM)) <|
 j153 (s1.2.1,(s1.2.2++[x154.fPrefix]))
 else
 (slices_IndexFunc_4 s1.2.1 x154).bind fun r166 =>
 jn (fun m169:Int×(List pack_group) =>
 (idx m169.2 m169.1).bind fun _ =>
 (idx m169.2 m169.1).bind fun x172 =>
 chk (decide ((x172.fprefixes++[x154.fPrefix]).length≤LIM)) <|
 (idx m169.2 m169.1).bind fun _ =>
 (idx m169.2 m169.1).bind fun x175 =>
 j153 ((m169.2.set m169.1.toNat (pack_group.mk x175.fattrs (x172.fprefixes++[x154.fPrefix]))),s1.2.2)) (fun j170 =>
 (if (decide (r166<0))=true then
 chk (decide ((s1.2.1++([(pack_group.mk x154.fRoute.fAttrs ([]:List aPrefix))]:List pack_group)).length≤LIM)) <|
 j170 ((s1.2.1.length:Int),(s1.2.1++([(pack_group.mk x154.fRoute.fAttrs ([]:List aPrefix))]:List pack_group)))
 else
 j170 (r166,s1.2.1)))))) (fun j162 =>
 (pack_sound x154).bind fun r178 =>
 (if (!r178)=true then
 j162 true
 else
 (if (decide (0<s1.1))=true then
 (idx a0 (w64 (s1.1-1))).bind fun x181 =>
 (prefix_Cmp x181.fPrefix x154.fPrefix).bind fun r182 =>
 j162 (decide (0≤r182))
 else
 j162 false))))
 else
 some (.inl (.inr (s1.2.1,s1.2.2))))
def pack_Pack_L1 (p121:(List pack_group)×(List aPrefix)) (s186:Int×(List aUpdate)):Option ((((List aUpdate)))⊕(Int×(List aUpdate))) :=
 (if (decide (s186.1<(p121.1.length:Int)))=true then
 (idx p121.1 s186.1).bind fun x198 =>
 (pack_filled x198 true).bind fun r199 =>
 chk (decide ((s186.2++r199).length≤LIM)) <|
 some (.inr ((w64 (s186.1+1)),(s186.2++r199)))
 else
 some (.inl s186.2))
def pack_Pack (a0:(List aChange)):Option ((List aUpdate)×Int) :=
 (loop (pack_Pack_L0 a0) (0,([]:List pack_group),([]:List aPrefix))).bind fun x183=>match x183 with
 | (.inl _) =>
  some (([]:List aUpdate),1)
 | (.inr p121) =>
  (pack_filled_2 (pack_group.mk (aAttrs.mk 0 ([]:List aSegment) (aAddr.mk false 0 0) 0 0 0 ([]:List aCommunity) ([]:List aLarge) ([]:List aUnknown)) p121.2) false).bind fun r185 =>
  (loop (pack_Pack_L1 p121) (0,r185)).bind fun p196 =>
  some (p196,0)
theorem pack_Pack_ac (a0:(List aChange)) (r:(List aUpdate)×Int) (h:pack_Pack a0=some r):AC Tryz.prog 12 [(.d (.list 22 (a0.map e_aChange)))] [(500,(.know (globD 0 (.imap gv0))))] (.tup [(.d (.list 13 (r.1.map e_aUpdate))),(.d (.int .i64 r.2))]) [(500,some (.know (globD 0 (.imap gv0))))]:=by
 refine ac2 Tryz.func12 rfl rfl fun B hB hN L => ?_
 delta pack_Pack at h
 refine sr (SQ tt) ?_
 refine sr (SQ tt) ?_
 refine sr (SQ tt) ?_
 apply AWp.seq
 refine sr (SQ tt) ?_
 apply AWp.block
 obtain⟨x183,hx184,h⟩:=bindS h
 refine lg (pack_Pack_L0 a0) (fun s1:Int×(List pack_group)×(List aPrefix)=>([(0,(qe_aChange_22 a0)),(4,(pt 1004)),(5,(.sref 3005 12 0 s1.2.1.length)),(12,(qe_aChange_22 a0)),(13,(i6 (a0.length:Int))),(14,(i6 s1.1))]:EL)) (fun s1:Int×(List pack_group)×(List aPrefix)=>([(500,some (.know (globD 0 (.imap gv0)))),(1004,some (.box 79 (.st [(.st [(i6 0),.nils,(.d (.st [(.bool false),(.int .u64 0),(.int .u64 0)])),(i6 0),(i6 0),(i6 0),.nils,.nils,.nils]),(.sref 13041 4 0 s1.2.2.length)]))),(3005,some (.reg (nrow 79 12 1 29 4 (s1.2.1.map e_pack_group) none))),(13041,some (we_aPrefix_29_4 s1.2.2))]:OL)) (fun(x:(Unit)⊕((List pack_group)×(List aPrefix))) e E' O'=>match x with | (.inl _p)=>e = .ret∧Mat B E' O' ([(2,.nils),(3,(i6 1))]:EL) ([(500,some (.know (globD 0 (.imap gv0))))]:OL) | (.inr p121)=>e = .exit 0∧Mat B E' O' ([(4,(pt 1004)),(5,(.sref 3005 12 0 p121.1.length))]:EL) ([(500,some (.know (globD 0 (.imap gv0)))),(1004,some (.box 79 (.st [(.st [(i6 0),.nils,(.d (.st [(.bool false),(.int .u64 0),(.int .u64 0)])),(i6 0),(i6 0),(i6 0),.nils,.nils,.nils]),(.sref 13041 4 0 p121.2.length)]))),(3005,some (.reg (nrow 79 12 1 29 4 (p121.1.map e_pack_group) none))),(13041,some (we_aPrefix_29_4 p121.2))]:OL)) hx184 (Mat.trans (Mat.beginG (n:=3005) (e:=79) (sz:=12) (j:=1) (e2:=29) (sz2:=4) (Ts:=[(5,(.sref 3005 12 0 0))]) (Bs:=[]) hB (by decide) (by decide) (by rfl) (by decide) (TwT.cons (x:=.nils) (by rfl) (Tw.leaf ⟨rfl,rfl⟩) TwT.nil) TwB.nil) (Mat.trans (Mat.beginP (n:=13041) (e:=29) (sz:=4) (Ts:=[]) (Bs:=[(1004,some (.box 79 (.st [(.st [(i6 0),.nils,(.d (.st [(.bool false),(.int .u64 0),(.int .u64 0)])),(i6 0),(i6 0),(i6 0),.nils,.nils,.nils]),(.sref 13041 4 0 0)])))]) hB (by decide) (by rfl) (by decide) TwT.nil (TwB.cons (x:=(.st [(.st [(i6 0),.nils,(.d (.st [(.bool false),(.int .u64 0),(.int .u64 0)])),(i6 0),(i6 0),(i6 0),.nils,.nils,.nils]),.nils])) (by rfl) (Tw.st (TwL.cons (Tw.same _) (TwL.cons (Tw.leaf ⟨rfl,rfl⟩) TwL.nil))) TwB.nil)) (mp [] _ _ hB))) (fun s1 y h => ?_) (fun e E' O' hR => ?_)
 ·unfold pack_Pack_L0 at h
  refine sr (SQ tt) ?_
  apply AWp.seq
  apply AWp.cond rfl<;>intro hg122
  ·have h:=ite_t hg122 h
   apply AWp.skip
   apply seqQ_n
   apply AWp.seq
   refine AWp.cut h (fun m152:(List pack_group)×(List aPrefix)=>([(0,(qe_aChange_22 a0)),(4,(pt 1004)),(5,(.sref 3005 12 0 m152.1.length)),(12,(qe_aChange_22 a0)),(13,(i6 (a0.length:Int))),(14,(i6 s1.1))]:EL)) (fun m152:(List pack_group)×(List aPrefix)=>([(500,some (.know (globD 0 (.imap gv0)))),(1004,some (.box 79 (.st [(.st [(i6 0),.nils,(.d (.st [(.bool false),(.int .u64 0),(.int .u64 0)])),(i6 0),(i6 0),(i6 0),.nils,.nils,.nils]),(.sref 13041 4 0 m152.2.length)]))),(3005,some (.reg (nrow 79 12 1 29 4 (m152.1.map e_pack_group) none))),(13041,some (we_aPrefix_29_4 m152.2))]:OL)) (fun m152 h E' O' hmat => ?_) (fun j153 hjj153 h => ?_)
   ·apply seqQ_n
    refine AWp.ghost hmat ?_
    refine rg (SQ tt) ?_
    obtain rfl:=oi h
    exact⟨rfl,(mp [] _ _ hB)⟩
   ·apply AWp.block
    obtain⟨x154,hx154,h⟩:=bindS h
    refine sr (SQ (fa hx154 tt)) ?_
    apply AWp.seq
    apply AWp.seq
    refine AWp.cut h (fun m161:Bool=>([(0,(qe_aChange_22 a0)),(4,(pt 1004)),(5,(.sref 3005 12 0 s1.2.1.length)),(7,(pt 1007)),(12,(qe_aChange_22 a0)),(13,(i6 (a0.length:Int))),(14,(i6 s1.1)),(37,(bo m161))]:EL)) (fun m161:Bool=>([(500,some (.know (globD 0 (.imap gv0)))),(1004,some (.box 79 (.st [(.st [(i6 0),.nils,(.d (.st [(.bool false),(.int .u64 0),(.int .u64 0)])),(i6 0),(i6 0),(i6 0),.nils,.nils,.nils]),(.sref 13041 4 0 s1.2.2.length)]))),(1007,bd 39 (e_aChange x154)),(3005,some (.reg (nrow 79 12 1 29 4 (s1.2.1.map e_pack_group) none))),(13041,some (we_aPrefix_29_4 s1.2.2))]:OL)) (fun m161 h E' O' hmat => ?_) (fun j162 hjj162 h => ?_)
    ·apply seqQ_n
     refine AWp.ghost hmat ?_
     apply AWp.cond rfl<;>intro hg163
     ·have h:=ite_t hg163 h
      refine sr (SQ tt) ?_
      apply AWp.ret
      apply seqQ_r
      apply blkQ_r
      apply seqQ_r
      obtain rfl:=oi h
      exact⟨(fun hc=>by cases hc),rfl,(mp [] _ _ hB)⟩
     ·have h:=ite_f hg163 h
      apply AWp.skip
      apply seqQ_n
      apply AWp.seq
      refine sr (SQ tt) ?_
      apply AWp.cond rfl<;>intro hg164
      ·have h:=ite_t hg164 h
       obtain⟨hc165,h⟩:=chk_some h
       refine sr (SQ (fa hc165 tt)) ?_
       refine gh [(0,_),(4,_),(5,_),(12,_),(13,_),(14,_)] [(500,some _),(1004,some _),(1046,some _),(3005,some _)] hB rfl rfl (by rfl) ?_
       apply AWp.exit
       apply seqQ_e
       apply blkQ_hit
       exact hjj153 _ h _ _ (mp [(13041,1046)] _ _ hB)
      ·have h:=ite_f hg164 h
       apply AWp.skip
       apply seqQ_n
       obtain⟨r166,hr166,h⟩:=bindS h
       apply sr (c (mv hN (q 5)) rfl (cg (OpJ.makeF (OpdL.cons (q 7) OpdL.nil) rfl rfl (L rfl)) rfl (cg (OpJ.peek [(3005,(.reg (nrow 79 12 1 29 4 (s1.2.1.map e_pack_group) none))),(1007,(.box 39 (.d (e_aChange x154))))] fnOk30 (slices_IndexFunc_4_ac s1.2.1 x154 r166 hr166) rfl (L rfl) (by kernel_rfl) (OpdL.cons (q 48) (OpdL.cons (q 49) OpdL.nil)) (PkL.cons (Pk.reg (List.Mem.head _) (by simp)) (PkL.cons (Pk.fn (PkL.cons (Pk.box (List.Mem.tail _ (List.Mem.head _)) (Co.d _)) PkL.nil)) PkL.nil))) rfl (c (assign (L rfl) (q 50)) rfl cn))))
       apply AWp.seq
       refine sr (SQ tt) ?_
       refine gh [(0,_),(4,_),(5,_),(7,_),(8,_),(12,_),(13,_),(14,_),(52,_)] [(500,some _),(1004,some _),(1007,some _),(3005,some _),(13041,some _)] hB rfl rfl (by rfl) ?_
       refine AWp.cut h (fun m169:Int×(List pack_group)=>([(0,(qe_aChange_22 a0)),(4,(pt 1004)),(5,(.sref 3005 12 0 m169.2.length)),(7,(pt 1007)),(8,(i6 m169.1)),(12,(qe_aChange_22 a0)),(13,(i6 (a0.length:Int))),(14,(i6 s1.1))]:EL)) (fun m169:Int×(List pack_group)=>([(500,some (.know (globD 0 (.imap gv0)))),(1004,some (.box 79 (.st [(.st [(i6 0),.nils,(.d (.st [(.bool false),(.int .u64 0),(.int .u64 0)])),(i6 0),(i6 0),(i6 0),.nils,.nils,.nils]),(.sref 13041 4 0 s1.2.2.length)]))),(1007,bd 39 (e_aChange x154)),(3005,some (.reg (nrow 79 12 1 29 4 (m169.2.map e_pack_group) none))),(13041,some (we_aPrefix_29_4 s1.2.2))]:OL)) (fun m169 h E' O' hmat => ?_) (fun j170 hjj170 h => ?_)
       ·apply seqQ_n
        refine AWp.ghost hmat ?_
        obtain⟨_,hx171,h⟩:=bindS h
        obtain⟨x172,hx172,h⟩:=bindS h
        obtain⟨hc173,h⟩:=chk_some h
        obtain⟨_,hx174,h⟩:=bindS h
        obtain⟨x175,hx175,h⟩:=bindS h
        apply dr (c (mv hN (q 5)) rfl (c (mv hN (q 8)) rfl (c (mv hN (q 5)) rfl (c (mv hN (q 8)) rfl (c (OpJ.val (v':=(.ptr 3005 (m169.1.toNat*12) [m169.1.toNat])) (by simp) (indexS underlying80 tyS79 (idx_some hx171).1 (by have:=idx_lt hx171;first | (simpa using this) | ((try simp only [List.length_map] at this);(try simp only [List.length_map]);omega)) (L rfl) (q 64) (q 65))) rfl (c (ov (.ptr 3005 ((m169.1.toNat*12)+11) [m169.1.toNat,1]) (fp hN underlying79 11 tyS59 _ (q 66))) rfl (cg (OpJ.takeG hB (m:=1068) (e:=79) (sz:=12) (j:=1) (e2:=29) (sz2:=4) (len:=x172.fprefixes.length) (es:=m169.2.map e_pack_group) (pre:=([(e_aAttrs x172.fattrs)]:List D)) (inner:=x172.fprefixes.map e_aPrefix) (post:=([]:List D)) tyS59 (by decide) (get_map e_pack_group (idx_some hx172).2) (by rfl) (o:=11) (by rfl) (by rfl) (by simp) (L rfl) (q 67)) rfl (c (fo 1007 1 [1] hN underlying39 1 tyS29 (q 7)) rfl (c (la hN 39 tyS29 (q 69)) rfl (c (buildSlice underlying59 tyS29 tyZD29 (by rfl) (by decide) (by decide) (Opds.cons (q 70) Opds.nil) (by kernel_rfl) (es:=([(e_aPrefix x154.fPrefix)]:List D)) (by rfl) (by rfl) (by kernel_rfl) (by simp) (L rfl)) rfl (cg (apd hB underlying59 tyE29 1072 e_aPrefix x172.fprefixes [x154.fPrefix] hc173 (L rfl) (q 68) (q 71)) rfl (c (OpJ.val (v':=(.ptr 3005 (m169.1.toNat*12) [m169.1.toNat])) (by simp) (indexS underlying80 tyS79 (idx_some hx174).1 (by have:=idx_lt hx174;first | (simpa using this) | ((try simp only [List.length_map] at this);(try simp only [List.length_map]);omega)) (L rfl) (q 62) (q 63))) rfl (c (ov (.ptr 3005 ((m169.1.toNat*12)+11) [m169.1.toNat,1]) (fp hN underlying79 11 tyS59 _ (q 73))) rfl (cg (OpJ.putG (e:=79) (sz:=12) (j:=1) (e2:=29) (sz2:=4) (es:=m169.2.map e_pack_group) (es':=(m169.2.set m169.1.toNat (pack_group.mk x175.fattrs (x172.fprefixes++[x154.fPrefix]))).map e_pack_group) (pre:=([(e_aAttrs x175.fattrs)]:List D)) (inner0:=x175.fprefixes.map e_aPrefix) (inner:=(x172.fprefixes++[x154.fPrefix]).map e_aPrefix) (post:=([]:List D)) tyS59 (get_map e_pack_group (idx_some hx175).2) (map_set _ _ _ _) (by rfl) (o:=11) (by rfl) (by rfl) (by simp) (q 74) (q 72)) rfl cn)))))))))))))) (by kernel_rfl) (by kernel_rfl)
        apply blkQ_n
        exact hjj153 _ h _ _ (Mat.trans (mp [] [(0,(qe_aChange_22 a0)),(4,(pt 1004)),(5,(.sref 3005 12 0 m169.2.length)),(12,(qe_aChange_22 a0)),(13,(i6 (a0.length:Int))),(14,(i6 s1.1))] [(500,some (.know (globD 0 (.imap gv0)))),(1004,some (.box 79 (.st [(.st [(i6 0),.nils,(.d (.st [(.bool false),(.int .u64 0),(.int .u64 0)])),(i6 0),(i6 0),(i6 0),.nils,.nils,.nils]),(.sref 13041 4 0 s1.2.2.length)]))),(3005,some (.reg (nrow 79 12 1 29 4 ((m169.2.set m169.1.toNat (pack_group.mk x175.fattrs (x172.fprefixes++[x154.fPrefix]))).map e_pack_group) none))),(13041,some (we_aPrefix_29_4 s1.2.2))] hB) (Mat.trans (Mat.lenP (Ts:=[(5,(.sref 3005 12 0 ((m169.2.set m169.1.toNat (pack_group.mk x175.fattrs (x172.fprefixes++[x154.fPrefix]))).length)))]) (Bs:=[]) (TwT.cons (x:=(.sref 3005 12 0 m169.2.length)) (by rfl) (Tw.leaf ⟨_,_,_,_,_,rfl,rfl,(by first | rfl | (simp;done) | (simp;omega) | omega)⟩) TwT.nil) TwB.nil) (mp [] _ _ hB)))
       ·apply AWp.cond rfl<;>intro hg176
        ·have h:=ite_t hg176 h
         refine sr (SQ tt) ?_
         obtain⟨hc177,h⟩:=chk_some h
         apply rg (c (mv hN (q 5)) rfl (c (fo 1007 6 [3] hN underlying39 6 tyS37 (q 7)) rfl (c (fo 1007 11 [3,2] hN underlying37 5 tyS35 (q 56)) rfl (c (lb hN 39 _ _ tyS35 (At.dst1 (by rfl) (by rfl) (ad _) (by first | rfl | omega)) (q 57)) rfl (c (OpJ.build (places:=[(0,11),(11,1)]) ⟨underlying79,fun w=>by kernel_rfl⟩ tyZS79 (Opds.cons (q 58) Opds.nil) (by kernel_rfl) (r:=(.st [(.d (e_aAttrs x154.fRoute.fAttrs)),.nils])) (by rfl) (L rfl)) rfl (cg (OpJ.buildSliceG (e:=79) (sz:=12) (j:=1) (e2:=29) (sz2:=4) (z:=(.st [(.st [(.int .i64 0),(.list 2 (([]:List aSegment).map e_aSegment)),(.st [(.bool false),(.int .u64 0),(.int .u64 0)]),(.int .i64 0),(.int .i64 0),(.int .i64 0),(.list 2 (([]:List aCommunity).map e_aCommunity)),(.list 3 (([]:List aLarge).map e_aLarge)),(.list 3 (([]:List aUnknown).map e_aUnknown))]),(.list 4 (([]:List aPrefix).map e_aPrefix))])) underlying80 tyS79 tyZD79 (by rfl) (by decide) (by decide) (by decide) hB (nm:=1060) (by decide) (pre:=([(e_aAttrs x154.fRoute.fAttrs)]:List D)) (post:=([]:List D)) (q 59) (by kernel_rfl) (es:=([(pack_group.mk x154.fRoute.fAttrs ([]:List aPrefix))]:List pack_group).map e_pack_group) (by rfl) (by rfl) (by kernel_rfl) (L rfl)) rfl (cg (OpJ.appendG hB underlying80 tyE79 (nm:=1061) (by decide) (j:=1) (e2:=29) (sz2:=4) (es:=s1.2.1.map e_pack_group) (ys:=([(pack_group.mk x154.fRoute.fAttrs ([]:List aPrefix))]:List pack_group).map e_pack_group) (es':=(s1.2.1++([(pack_group.mk x154.fRoute.fAttrs ([]:List aPrefix))]:List pack_group)).map e_pack_group) (len:=(s1.2.1++([(pack_group.mk x154.fRoute.fAttrs ([]:List aPrefix))]:List pack_group)).length) (by rfl) (by simp) (by simp) (by simp) (by rw [List.length_map];exact lim_mulN hc177 (by decide)) (by rw [List.length_map];exact lim_leN hc177) (L rfl) (by simp) (by simp) (q 55) (q 60)) rfl (c (assign (L rfl) (q 61)) rfl cn))))))))
         exact hjj170 _ h _ _ (mp [(3005,1061)] _ _ hB)
        ·have h:=ite_f hg176 h
         apply AWp.skip
         exact hjj170 _ h _ _ (mp [] _ _ hB)
    ·obtain⟨r178,hr178,h⟩:=bindS h
     rcases bft (!r178) with hg179 | hg179
     ·have h:=ite_t hg179 h
      refine drS (SQ (fa (cl [(500,500)] (pack_sound_ac x154 r178 hr178)) (fa hg179 tt))) ?_
      exact hjj162 _ h _ _ (mp [] _ _ hB)
     ·have h:=ite_f hg179 h
      rcases bft (decide (0<s1.1)) with hg180 | hg180
      ·have h:=ite_t hg180 h
       obtain⟨x181,hx181,h⟩:=bindS h
       obtain⟨r182,hr182,h⟩:=bindS h
       refine drS (SQ (fa (cl [(500,500)] (pack_sound_ac x154 r178 hr178)) (fa hg179 (fa hg180 (fa hx181 (fa (cl [] (prefix_Cmp_ac x181.fPrefix x154.fPrefix r182 hr182)) tt)))))) ?_
       exact hjj162 _ h _ _ (mp [] _ _ hB)
      ·have h:=ite_f hg180 h
       refine drS (SQ (fa (cl [(500,500)] (pack_sound_ac x154 r178 hr178)) (fa hg179 (fa hg180 tt)))) ?_
       exact hjj162 _ h _ _ (mp [] _ _ hB)
  ·have h:=ite_f hg122 h
   apply AWp.exit
   apply seqQ_e
   obtain rfl:=oi h
   exact⟨(fun hc=>by cases hc),rfl,(mp [] _ _ hB)⟩
 ·rcases x183 with _ | p121
  ·obtain⟨rfl,hmat⟩:=hR
   apply blkQ_r
   apply seqQ_r
   obtain rfl:=oi h
   exact rt (Mat.trans hmat (Mat.trans (Mat.coeP (Ts:=[(2,(qe_aUpdate_13 ([]:List aUpdate)))]) (Bs:=[]) (TwT.cons (x:=.nils) (by rfl) (Tw.leaf ⟨_,(Co.nils 13),rfl⟩) TwT.nil) TwB.nil) (mp [] [(2,(qe_aUpdate_13 ([]:List aUpdate))),(3,(i6 1))] [(500,some (.know (globD 0 (.imap gv0))))] hB))) [(qe_aUpdate_13 ([]:List aUpdate)),(i6 1)] (Res.tmp (by rfl) (by rfl) (Res.tmp (by rfl) (by rfl) Res.nil)) rfl
  ·obtain⟨rfl,hmat⟩:=hR
   apply blkQ_hit
   apply seqQ_n
   refine AWp.ghost hmat ?_
   apply AWp.seq
   refine AWp.ghost (Mat.freezeP (n:=13041) (e:=29) (sz:=4) (es:=p121.2.map e_aPrefix) (Ts:=[]) (Bs:=[(1004,some (.box 79 (.st [(.st [(i6 0),.nils,(.d (.st [(.bool false),(.int .u64 0),(.int .u64 0)])),(i6 0),(i6 0),(i6 0),.nils,.nils,.nils]),(qe_aPrefix_4 p121.2)])))]) (by rfl) TwT.nil (TwB.cons (x:=(.st [(.st [(i6 0),.nils,(.d (.st [(.bool false),(.int .u64 0),(.int .u64 0)])),(i6 0),(i6 0),(i6 0),.nils,.nils,.nils]),(.sref 13041 4 0 p121.2.length)])) (by rfl) (Tw.st (TwL.cons (Tw.same _) (TwL.cons (FrzL.all (by first | rfl | (simp;done) | (simp;omega) | omega)) TwL.nil))) TwB.nil)) ?_
   obtain⟨r185,hr185,h⟩:=bindS h
   refine rg (SQ (fa (cl [(500,500),(900000,100300)] (pack_filled_2_ac (pack_group.mk (aAttrs.mk 0 ([]:List aSegment) (aAddr.mk false 0 0) 0 0 0 ([]:List aCommunity) ([]:List aLarge) ([]:List aUnknown)) p121.2) false r185 hr185)) tt)) ?_
   apply seqQ_n
   refine AWp.ghost (mp [] [(5,(.sref 3005 12 0 p121.1.length)),(9,(.sref 100300 13 0 r185.length))] [(500,some (.know (globD 0 (.imap gv0)))),(3005,some (.reg (nrow 79 12 1 29 4 (p121.1.map e_pack_group) none))),(100300,some (we_aUpdate_61_13 r185))] hB) ?_
   apply AWp.seq
   refine sr (SQ tt) ?_
   apply AWp.block
   obtain⟨p196,hx202,h⟩:=bindS h
   refine lg (pack_Pack_L1 p121) (fun s186:Int×(List aUpdate)=>([(9,(.sref 3009 13 0 s186.2.length)),(78,(.d (.list 12 (p121.1.map e_pack_group)))),(79,(i6 (p121.1.length:Int))),(80,(i6 s186.1))]:EL)) (fun s186:Int×(List aUpdate)=>([(500,some (.know (globD 0 (.imap gv0)))),(3009,some (we_aUpdate_61_13 s186.2))]:OL)) (fun(p196:((List aUpdate))) e E' O'=>e = .exit 2∧Mat B E' O' ([(9,(.sref 3009 13 0 p196.length))]:EL) ([(500,some (.know (globD 0 (.imap gv0)))),(3009,some (we_aUpdate_61_13 p196))]:OL)) hx202 (Mat.trans (Mat.freezeG (n:=3005) (e:=79) (sz:=12) (j:=1) (e2:=29) (sz2:=4) (es:=p121.1.map e_pack_group) (Ts:=[(78,(.d (.list 12 (p121.1.map e_pack_group))))]) (Bs:=[]) (by rfl) (TwT.cons (x:=(.sref 3005 12 0 p121.1.length)) (by rfl) (FrzL.all (by first | rfl | (simp;done) | (simp;omega) | omega)) TwT.nil) TwB.nil) (mp [(3009,100300)] _ _ hB)) (fun s186 y h => ?_) (fun e E' O' hR => ?_)
   ·unfold pack_Pack_L1 at h
    refine sr (SQ tt) ?_
    apply AWp.seq
    apply AWp.cond rfl<;>intro hg197
    ·have h:=ite_t hg197 h
     apply AWp.skip
     apply seqQ_n
     apply AWp.seq
     apply AWp.block
     obtain⟨x198,hx198,h⟩:=bindS h
     refine sr (SQ (fa hx198 tt)) ?_
     obtain⟨r199,hr199,h⟩:=bindS h
     obtain⟨hc200,h⟩:=chk_some h
     refine rg (SQ (fa (cl [(500,500)] (pack_filled_ac x198 true r199 hr199)) (fa hc200 tt))) ?_
     apply blkQ_n
     apply seqQ_n
     refine AWp.ghost (mp [] [(9,(.sref 1087 13 0 ((s186.2++r199).length))),(78,(.d (.list 12 (p121.1.map e_pack_group)))),(79,(i6 (p121.1.length:Int))),(80,(i6 s186.1))] [(500,some (.know (globD 0 (.imap gv0)))),(1087,some (we_aUpdate_61_13 (s186.2++r199)))] hB) ?_
     refine rg (SQ tt) ?_
     obtain rfl:=oi h
     exact⟨rfl,(mp [(3009,1087)] _ _ hB)⟩
    ·have h:=ite_f hg197 h
     apply AWp.exit
     apply seqQ_e
     obtain rfl:=oi h
     exact⟨(fun hc=>by cases hc),rfl,(mp [] _ _ hB)⟩
   ·obtain⟨rfl,hmat⟩:=hR
    apply blkQ_hit
    apply seqQ_n
    refine AWp.ghost hmat ?_
    refine sr (SQ tt) ?_
    apply AWp.ret
    obtain rfl:=oi h
    exact rt (Mat.trans (Mat.freezeP (n:=3009) (e:=61) (sz:=13) (es:=p196.map e_aUpdate) (Ts:=[(2,(qe_aUpdate_13 p196))]) (Bs:=[]) (by rfl) (TwT.cons (x:=(.sref 3009 13 0 p196.length)) (by rfl) (FrzL.all (by first | rfl | (simp;done) | (simp;omega) | omega)) TwT.nil) TwB.nil) (mp [] [(2,(qe_aUpdate_13 p196)),(3,(i6 0))] [(500,some (.know (globD 0 (.imap gv0))))] hB)) [(qe_aUpdate_13 p196),(i6 0)] (Res.tmp (by rfl) (by rfl) (Res.tmp (by rfl) (by rfl) Res.nil)) rfl
def aspath_First (a0:(List aSegment)):Option (Int×Bool) :=
 jn (fun m5:Bool =>
 (if m5=true then
 some (0,false)
 else
 (idx a0 0).bind fun x8 =>
 (idx x8.fASNs 0).bind fun x9 =>
 some (x9,true))) (fun j6 =>
 (if ((a0.length:Int)==0)=true then
 j6 true
 else
 (aspath_Valid a0).bind fun r11 =>
 (if (!r11)=true then
 j6 true
 else
 (idx a0 0).bind fun x13 =>
 j6 x13.fSet)))
theorem aspath_First_ac (a0:(List aSegment)) (r:Int×Bool) (h:aspath_First a0=some r):AC Tryz.prog 39 [(.d (.list 2 (a0.map e_aSegment)))] [] (.tup [(.d (.int .i64 r.1)),(.d (.bool r.2))]) []:=by
 refine ac2 Tryz.func39 rfl rfl fun B hB hN L => ?_
 delta aspath_First at h
 refine sr (SQ tt) ?_
 apply AWp.seq
 apply AWp.seq
 refine AWp.cut h (fun m5:Bool=>([(0,(qe_aSegment_2 a0)),(17,(bo m5))]:EL)) (fun m5:Bool=>([]:OL)) (fun m5 h E' O' hmat => ?_) (fun j6 hjj6 h => ?_)
 ·apply seqQ_n
  refine AWp.ghost hmat ?_
  apply AWp.cond rfl<;>intro hg7
  ·have h:=ite_t hg7 h
   refine sr (SQ tt) ?_
   apply AWp.ret
   apply seqQ_r
   obtain rfl:=oi h
   exact rt (kp [(2,_),(3,_)] [] hB rfl rfl (by rfl)) [(i6 0),(bo false)] (Res.tmp (by rfl) (by rfl) (Res.tmp (by rfl) (by rfl) Res.nil)) rfl
  ·have h:=ite_f hg7 h
   apply AWp.skip
   apply seqQ_n
   obtain⟨_,hx8,h⟩:=bindS h
   obtain⟨x9,hx9,h⟩:=bindS h
   refine sr (SQ (fa hx8 (fa hx9 tt))) ?_
   apply AWp.ret
   obtain rfl:=oi h
   exact rt (kp [(2,_),(3,_)] [] hB rfl rfl (by rfl)) [(i6 x9),(bo true)] (Res.tmp (by rfl) (by rfl) (Res.tmp (by rfl) (by rfl) Res.nil)) rfl
 ·rcases bft ((a0.length:Int)==0) with hg10 | hg10
  ·have h:=ite_t hg10 h
   refine rg (SQ (fa hg10 tt)) ?_
   exact hjj6 _ h _ _ (mp [] _ _ hB)
  ·have h:=ite_f hg10 h
   obtain⟨r11,hr11,h⟩:=bindS h
   rcases bft (!r11) with hg12 | hg12
   ·have h:=ite_t hg12 h
    refine rg (SQ (fa hg10 (fa (cl [] (aspath_Valid_ac a0 r11 hr11)) (fa hg12 tt)))) ?_
    exact hjj6 _ h _ _ (mp [] _ _ hB)
   ·have h:=ite_f hg12 h
    obtain⟨_,hx13,h⟩:=bindS h
    refine rg (SQ (fa hg10 (fa (cl [] (aspath_Valid_ac a0 r11 hr11)) (fa hg12 (fa hx13 tt))))) ?_
    exact hjj6 _ h _ _ (mp [] _ _ hB)
end
end Go.Proofs.YtkhjkjojjdkidaaGreatDoor
