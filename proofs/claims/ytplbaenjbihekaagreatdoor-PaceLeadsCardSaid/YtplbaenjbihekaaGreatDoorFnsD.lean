/- Printed by gen.py: the Go functions as plain functions, and that the code does what they say. -/
import Derived.Test.YtplbaenjbihekaaGreatDoorChecked
import Derived.Test.YtplbaenjbihekaaGreatDoorVcYB
import Derived.Test.YtplbaenjbihekaaGreatDoorVcZ
import Derived.Test.YtplbaenjbihekaaGreatDoorVcGC
import Derived.KernelRfl
import Derived.Test.YtplbaenjbihekaaGreatDoorVcMD
import Derived.Test.YtplbaenjbihekaaGreatDoorVcMQ
import Derived.Test.YtplbaenjbihekaaGreatDoorVcSG
import Derived.Test.YtplbaenjbihekaaGreatDoorFnsC
import Derived.Test.YtplbaenjbihekaaGreatDoorExt
import Derived.Test.YtplbaenjbihekaaGreatDoorVcPm
import Derived.Test.YtplbaenjbihekaaGreatDoorVcRg
import Derived.Test.YtplbaenjbihekaaGreatDoorVcSt
import Derived.Test.YtplbaenjbihekaaGreatDoorVcMR
import Derived.Test.YtplbaenjbihekaaGreatDoorVcFu
namespace Go.Proofs.YtplbaenjbihekaaGreatDoor
open Go Go.Vc
open Tryz
open Go.Vc.OpJ (assign alloc lss pickT pickF extract lenD indexD loadD eqlI gtr callVal leq geq loadR nilP indexS buildSlice lenS fieldD neqI pickAnd pickOr)
open Go.Vc.AWp (seq ghost ret block)
set_option maxHeartbeats 4000000
set_option maxRecDepth 100000
noncomputable section
def T1 (a0:C9):Option ((List A7)) :=
 (K5 a0.fAttrs).bind fun r1 =>
 jn (fun m8:(List A7) =>
 (M4 a0.fWithdraw true).bind fun r10 =>
 jn (fun m15:(List A7) =>
 (J2 m15).bind fun r17 =>
 chk (decide (r17.length=m15.length)) <|
 some ((r17.drop 0).take m15.length)) (fun j16 =>
 (if (decide (0<(r10.length:Int)))=true then
 chk (decide ((([0,2,1]:List Int)++r10).length≤LIM)) <|
 chk (decide ((m8++([(A7.mk 128 15 (([0,2,1]:List Int)++r10))]:List A7)).length≤LIM)) <|
 j16 (m8++([(A7.mk 128 15 (([0,2,1]:List Int)++r10))]:List A7))
 else
 j16 m8))) (fun j9 =>
 (if ((decide (0<(a0.fAnnounce.length:Int)))&&a0.fAttrs.fNext.fV6)=true then
 (T7 a0.fAttrs.fNext).bind fun r23 =>
 chk (decide ((([0,2,1,16]:List Int)++r23).length≤LIM)) <|
 chk (decide (((([0,2,1,16]:List Int)++r23)++([0]:List Int)).length≤LIM)) <|
 (T9 ((([0,2,1,16]:List Int)++r23)++([0]:List Int)) a0.fAnnounce true).bind fun r26 =>
 chk (decide ((r1.1++[(A7.mk 128 14 r26)]).length≤LIM)) <|
 j9 (r1.1++[(A7.mk 128 14 r26)])
 else
 j9 r1.1))
theorem A8h (a0:C9) (r:(List A7)) (h:T1 a0=some r):AC Tryz.prog 156 [(.d (B9 a0))] [(500,(.know (globD 0 (.imap gv0))))] (.d (.list 3 (r.map A5))) [(500,some (.know (globD 0 (.imap gv0))))]:=by
 refine ac2 Tryz.func156 rfl rfl fun B hB hN L => ?_
 delta T1 at h
 apply sr (cg (OpJ.box hB (nm:=1001) (by decide) (by simp) rfl (L rfl) (q 0)) rfl (c (assign (L rfl) Opd.nils) rfl cn))
 apply seq
 obtain⟨r1,hr1,h⟩:=bindS h
 refine AWp.region (oc (ov (.ptr 1001 1 [1]) (fp hN underlying71 1 tyS39 (.box 71 (.d (B9 a0))) (ot 1 (pt 1001))))
 (oc (lb hN 71 (.d (B9 a0)) (.d (A8 a0.fAttrs)) tyS39 (ad (A8 a0.fAttrs)) (ot 8 (.ptr 1001 1 [1])))
 (oc (OpJ.callFn hB fnOk165 (A4r a0.fAttrs r1 hr1) [(500,500),(900000,100000)] (by kernel_rfl) (L rfl) (by kernel_rfl) (OpdL.cons (ot 9 (.d (A8 a0.fAttrs))) OpdL.nil))
 (oc (mv hN (ot 10 (.tup [(.sref 100000 3 0 r1.1.length),(i6 r1.2)])))
 (oc (extract (v:=(.sref 100000 3 0 r1.1.length)) (by rfl) rfl (L rfl) (ot 7 (.tup [(.sref 100000 3 0 r1.1.length),(i6 r1.2)])))
 (oc (extract (v:=(i6 r1.2)) (by rfl) rfl (L rfl) (ot 7 (.tup [(.sref 100000 3 0 r1.1.length),(i6 r1.2)])))
 (oc (assign (L rfl) (ot 11 (.sref 100000 3 0 r1.1.length)))
 (oc (assign (L rfl) (ot 12 (i6 r1.2)))
 (OpJs.nil))))))))) (by rfl) (by rfl) ?_
 apply A3
 refine ghost (mp [] [(1,(pt 1001)),(3,(.sref 100000 3 0 r1.1.length))] [(500,some (.know (globD 0 (.imap gv0)))),(1001,bd 71 (B9 a0)),(100000,some (F0 r1.1))] hB) ?_
 apply seq
 apply sr (c (fo 1001 12 [2] hN underlying71 12 tyS69 (q 1)) rfl (c (la hN 71 tyS69 (q 13)) rfl (c (OpJ.val (v':=(i6 (a0.fAnnounce.length:Int))) (by simp) (lenD underlying69 (L rfl) (q 14))) rfl (c (gtr (L rfl) (q 15) (ii 0)) rfl (c (mv hN (q 16)) rfl (c (oq hN 17 (fo 1001 1 [1] hN underlying71 1 tyS39 (q 1)) (OptL.keep (by rfl) OptL.nil) (GuardV.plain _)) rfl (c (oq hN 17 (fo 1001 3 [1,2] hN underlying39 2 tyS31 (q 18)) (OptL.opt OptL.nil) (GuardV.plain _)) rfl (c (oq hN 17 (fo 1001 3 [1,2,0] hN underlying31 0 tyS4 (q 19)) (OptL.opt OptL.nil) (GuardV.plain _)) rfl (c (oq hN 17 (lb hN 71 _ _ tyS4 (At.dst1 (by rfl) (by rfl) (At.dst1 (by rfl) (by rfl) (ad _) (by first | rfl | omega)) (by first | rfl | omega)) (q 20)) (OptL.opt OptL.nil) (GuardV.plain _)) rfl (c (pickAnd rfl (L rfl) (q 17) (q 21)) rfl cn))))))))))
 refine gh [(1,_),(3,_),(22,_)] [(500,some _),(1001,some _),(100000,some _)] hB rfl rfl (by rfl) ?_
 refine AWp.cut h (fun m8:(List A7)=>([(1,(pt 1001)),(3,(.sref 3003 3 0 m8.length))]:EL)) (fun m8:(List A7)=>([(500,some (.know (globD 0 (.imap gv0)))),(1001,bd 71 (B9 a0)),(3003,some (F0 m8))]:OL)) (fun m8 h E' O' hmat => ?_) (fun j9 hjj9 h => ?_)
 ·apply A3
  refine ghost hmat ?_
  apply seq
  obtain⟨r10,hr10,h⟩:=bindS h
  apply sr (c (fo 1001 0 [0] hN underlying71 0 tyS69 (q 1)) rfl (c (la hN 71 tyS69 (q 39)) rfl (cg (cf hB fnOk157 (A2p a0.fWithdraw true r10 hr10) (L rfl) (OpdL.cons Opd.nils (OpdL.cons (q 40) (OpdL.cons (Opd.bool true) OpdL.nil)))) rfl (c (assign (L rfl) (q 41)) rfl cn))))
  apply sr (c (mv hN (q 6)) rfl (c (OpJ.val (v':=(i6 (r10.length:Int))) (by simp) (lenD underlying76 (L rfl) (q 42))) rfl (c (gtr (L rfl) (q 43) (ii 0)) rfl cn)))
  refine gh [(3,_),(6,_),(44,_)] [(500,some _),(3003,some _)] hB rfl rfl (by rfl) ?_
  refine AWp.cut h (fun m15:(List A7)=>([(3,(.sref 3003 3 0 m15.length))]:EL)) (fun m15:(List A7)=>([(500,some (.know (globD 0 (.imap gv0)))),(3003,some (F0 m15))]:OL)) (fun m15 h E' O' hmat => ?_) (fun j16 hjj16 h => ?_)
  ·apply A3
   refine ghost hmat ?_
   apply seq
   obtain⟨r17,hr17,h⟩:=bindS h
   obtain⟨hc18,h⟩:=D3 h
   have lhc18:=of_decide_eq_true hc18
   have hc18_o:=of_decide_eq_true hc18
   refine AWp.region (oc (mv hN (ot 3 (.sref 3003 3 0 m15.length)))
    (oc (OpJ.callFn hB fnOk167 (V7 m15 r17 hr17) [(0,3003)] (by kernel_rfl) (L rfl) (by kernel_rfl) (OpdL.cons (ot 52 (.sref 3003 3 0 m15.length)) (OpdL.cons (Opd.func 168) OpdL.nil)))
    (OpJs.nil))) (by rfl) (by rfl) ?_
   apply A3
   refine ghost (mp [] [(3,(.sref 3003 3 0 m15.length))] [(500,some (.know (globD 0 (.imap gv0)))),(3003,some (F0 r17))] hB) ?_
   apply sr (c (mv hN (q 3)) rfl (c (assign (L rfl) (q 54)) rfl cn))
   apply ret
   obtain rfl:=oi h
   exact rt (Mat.trans (Mat.freezeP (n:=3003) (e:=78) (sz:=3) (es:=r17.map A5) (Ts:=[(2,(E8 ((r17.drop 0).take m15.length)))]) (Bs:=[]) (by rfl) (TwT.cons (x:=(.sref 3003 3 0 m15.length)) (by rfl) (FrzL.cut (fs:=((r17.drop 0).take m15.length).map A5) (by simp only [List.length_map,List.length_append,List.length_take,List.length_drop,List.length_replicate,List.length_set];omega) (by first | rw [List.map_drop,List.map_take] | (simp [List.map_take,List.map_drop];done) | simp [List.take_of_length_le])) TwT.nil) TwB.nil) (mp [] [(2,(E8 ((r17.drop 0).take m15.length)))] [(500,some (.know (globD 0 (.imap gv0))))] hB)) [(E8 ((r17.drop 0).take m15.length))] (rT rN) rfl
  ·apply AWp.cond rfl<;>intro hg19
   ·have h:=B6 hg19 h
    obtain⟨hc20,h⟩:=D3 h
    obtain⟨hc21,h⟩:=D3 h
    apply rg (c (mv hN (q 3)) rfl (cg (OpJ.buildSliceR underlying76 tyS5 tyZD5 (by rfl) (by decide) (by decide) hB (nm:=1046) (by decide) (len:=([0,2,1]:List Int).length) (by rfl) (Opds.cons (Opd.int .u8 (0)) (Opds.cons (Opd.int .u8 (2)) (Opds.cons (Opd.int .u8 (1)) Opds.nil))) (by kernel_rfl) (es:=([0,2,1]:List Int).map (eI .u8)) (by rfl) (by rfl) (by kernel_rfl) (by simp) (L rfl)) rfl (c (mv hN (q 6)) rfl (cg (OpJ.frz (apd hB underlying76 tyE5 1048 (eI .u8) ([0,2,1]:List Int) r10 hc20 (L rfl) (q 46) (q 47)) (by simp)) rfl (c (OpJ.coe (v:=(.st [(i6 128),(i6 15),(.d (.list 1 ((([0,2,1]:List Int)++r10).map (eI .u8))))])) (y:=(.st [(.int .i64 128),(.int .i64 15),(.list 1 ((([0,2,1]:List Int)++r10).map (eI .u8)))])) (Co.st (CoL.cons (Co.d _) (CoL.cons (Co.d _) (CoL.cons (Co.d _) CoL.nil)))) rfl (OpJ.build (places:=[(0,1),(1,1),(2,1)]) ⟨underlying78,fun w=>by kernel_rfl⟩ tyZS78 (Opds.cons (ii 128) (Opds.cons (ii 15) (Opds.cons (q 48) Opds.nil))) (by kernel_rfl) (r:=(.st [(i6 128),(i6 15),(.d (.list 1 ((([0,2,1]:List Int)++r10).map (eI .u8))))])) (by rfl) (L rfl))) rfl (c (buildSlice underlying37 tyS78 tyZD78 (by rfl) (by decide) (by decide) (Opds.cons (q 49) Opds.nil) (by kernel_rfl) (es:=([(.st [(.int .i64 128),(.int .i64 15),(.list 1 ((([0,2,1]:List Int)++r10).map (eI .u8)))])]:List D)) (by rfl) (by rfl) (by kernel_rfl) (by simp) (L rfl)) rfl (cg (apd hB underlying37 tyE78 1051 A5 m8 ([(A7.mk 128 15 (([0,2,1]:List Int)++r10))]:List A7) hc21 (L rfl) (q 45) (q 50)) rfl (c (assign (L rfl) (q 51)) rfl cn))))))))
    exact hjj16 _ h _ _ (mp [(3003,1051)] _ _ hB)
   ·have h:=B7 hg19 h
    apply AWp.skip
    exact hjj16 _ h _ _ (mp [] _ _ hB)
 ·apply AWp.cond rfl<;>intro hg22
  ·have h:=B6 hg22 h
   obtain⟨r23,hr23,h⟩:=bindS h
   obtain⟨hc24,h⟩:=D3 h
   apply sr (cg (OpJ.buildSliceR underlying76 tyS5 tyZD5 (by rfl) (by decide) (by decide) hB (nm:=1023) (by decide) (len:=([0,2,1,16]:List Int).length) (by rfl) (Opds.cons (Opd.int .u8 (0)) (Opds.cons (Opd.int .u8 (2)) (Opds.cons (Opd.int .u8 (1)) (Opds.cons (Opd.int .u8 (16)) Opds.nil)))) (by kernel_rfl) (es:=([0,2,1,16]:List Int).map (eI .u8)) (by rfl) (by rfl) (by kernel_rfl) (by simp) (L rfl)) rfl (c (fo 1001 1 [1] hN underlying71 1 tyS39 (q 1)) rfl (c (fo 1001 3 [1,2] hN underlying39 2 tyS31 (q 24)) rfl (c (lb hN 71 _ _ tyS31 (At.dst1 (by rfl) (by rfl) (ad _) (by first | rfl | omega)) (q 25)) rfl (cg (cf hB fnOk166 (A1m a0.fAttrs.fNext r23 hr23) (L rfl) (OpdL.cons (q 26) OpdL.nil)) rfl (cg (apd hB underlying76 tyE5 1028 (eI .u8) ([0,2,1,16]:List Int) r23 hc24 (L rfl) (q 23) (q 27)) rfl (c (assign (L rfl) (q 28)) rfl cn)))))))
   obtain⟨hc25,h⟩:=D3 h
   obtain⟨r26,hr26,h⟩:=bindS h
   obtain⟨hc27,h⟩:=D3 h
   refine AWp.draws (by kernel_rfl) (oc (mv hN (ot 3 (.sref 100000 3 0 r1.1.length)))
    (oc (mv hN (ot 5 (.sref 1028 1 0 ((([0,2,1,16]:List Int)++r23).length))))
    (oc (buildSlice underlying76 tyS5 tyZD5 (by rfl) (by decide) (by decide) (Opds.cons (Opd.int .u8 (0)) Opds.nil) (by kernel_rfl) (es:=([(.int .u8 0)]:List D)) (by rfl) (by rfl) (by kernel_rfl) (by simp) (L rfl))
    (oc (apd hB underlying76 tyE5 1032 (eI .u8) (([0,2,1,16]:List Int)++r23) ([0]:List Int) hc25 (L rfl) (ot 30 (.sref 1028 1 0 ((([0,2,1,16]:List Int)++r23).length))) (ot 31 (.d (.list 1 (([0]:List Int).map (eI .u8))))))
    (oc (ov (.ptr 1001 12 [2]) (fp hN underlying71 12 tyS69 (.box 71 (.d (B9 a0))) (ot 1 (pt 1001))))
    (oc (lb hN 71 (.d (B9 a0)) (C1 a0.fAnnounce) tyS69 (ad (.list 4 (a0.fAnnounce.map A2))) (ot 33 (.ptr 1001 12 [2])))
    (oc (OpJ.callFn hB fnOk157 (A41 ((([0,2,1,16]:List Int)++r23)++([0]:List Int)) a0.fAnnounce true r26 hr26) [(0,1032)] (by kernel_rfl) (L rfl) (by kernel_rfl) (OpdL.cons (ot 32 (.sref 1032 1 0 (((([0,2,1,16]:List Int)++r23)++([0]:List Int)).length))) (OpdL.cons (ot 34 (C1 a0.fAnnounce)) (OpdL.cons (Opd.bool true) OpdL.nil))))
    (oc (OpJ.coe (v:=(.st [(i6 128),(i6 14),(.d (.list 1 (r26.map (eI .u8))))])) (y:=(.st [(.int .i64 128),(.int .i64 14),(.list 1 (r26.map (eI .u8)))])) (Co.st (CoL.cons (Co.d _) (CoL.cons (Co.d _) (CoL.cons (Co.d _) CoL.nil)))) rfl (OpJ.build (places:=[(0,1),(1,1),(2,1)]) ⟨underlying78,fun w=>by kernel_rfl⟩ tyZS78 (Opds.cons (ii 128) (Opds.cons (ii 14) (Opds.cons (ot 35 (.d (.list 1 (r26.map (eI .u8))))) Opds.nil))) (by kernel_rfl) (r:=(.st [(i6 128),(i6 14),(.d (.list 1 (r26.map (eI .u8))))])) (by rfl) (L rfl)))
    (oc (buildSlice underlying37 tyS78 tyZD78 (by rfl) (by decide) (by decide) (Opds.cons (ot 36 (.d (.st [(.int .i64 128),(.int .i64 14),(.list 1 (r26.map (eI .u8)))]))) Opds.nil) (by kernel_rfl) (es:=([(.st [(.int .i64 128),(.int .i64 14),(.list 1 (r26.map (eI .u8)))])]:List D)) (by rfl) (by rfl) (by kernel_rfl) (by simp) (L rfl))
    (oc (apd hB underlying37 tyE78 1038 A5 r1.1 [(A7.mk 128 14 r26)] hc27 (L rfl) (ot 29 (.sref 100000 3 0 r1.1.length)) (ot 37 (E8 [(A7.mk 128 14 r26)])))
    (oc (assign (L rfl) (ot 38 (.sref 1038 3 0 ((r1.1++[(A7.mk 128 14 r26)]).length))))
    (OpJs.nil)))))))))))) (by kernel_rfl) (by rfl) (by rfl) ?_
   exact hjj9 _ h _ _ (mp [(3003,1038)] _ _ hB)
  ·have h:=B7 hg22 h
   apply AWp.skip
   exact hjj9 _ h _ _ (mp [(3003,100000)] _ _ hB)
def Q7 (a0:(List A7)) (s1:Int):Option (((Unit)⊕(Unit))⊕(Int)) :=
 (if (decide (s1<(a0.length:Int)))=true then
 (idx a0 s1).bind fun x29 =>
 jn (fun m34:Bool =>
 (if m34=true then
 some (.inl (.inl ()))
 else
 some (.inr (w64 (s1+1))))) (fun j35 =>
 (H4 x29.fFlags 0 255).bind fun r37 =>
 (if (!r37)=true then
 j35 true
 else
 (H4 x29.fType 0 255).bind fun r39 =>
 j35 ((!r39) || (decide (65535<(x29.fData.length:Int))))))
 else
 some (.inl (.inr ())))
def Q8 (a0:(List A7)) (s42:Int×(List Int)):Option (((Unit)⊕((List Int)))⊕(Int×(List Int))) :=
 (if (decide (s42.1<(a0.length:Int)))=true then
 (idx a0 s42.1).bind fun x70 =>
 jn (fun m74:(List Int) =>
 chk (decide ((m74++x70.fData).length≤LIM)) <|
 (if (decide (2048<((m74++x70.fData).length:Int)))=true then
 some (.inl (.inl ()))
 else
 some (.inr ((w64 (s42.1+1)),(m74++x70.fData))))) (fun j75 =>
 (if (decide (255<(x70.fData.length:Int)))=true then
 chk (decide ((s42.2++([(bitI .or .u8 (bitI .and .u8 (IntKind.u8.wrap x70.fFlags) 224) 16),(IntKind.u8.wrap x70.fType),(IntKind.u8.wrap (shrI .i64 (x70.fData.length:Int) 8)),(IntKind.u8.wrap (x70.fData.length:Int))]:List Int)).length≤LIM)) <|
 j75 (s42.2++([(bitI .or .u8 (bitI .and .u8 (IntKind.u8.wrap x70.fFlags) 224) 16),(IntKind.u8.wrap x70.fType),(IntKind.u8.wrap (shrI .i64 (x70.fData.length:Int) 8)),(IntKind.u8.wrap (x70.fData.length:Int))]:List Int))
 else
 chk (decide ((s42.2++([(bitI .and .u8 (IntKind.u8.wrap x70.fFlags) 224),(IntKind.u8.wrap x70.fType),(IntKind.u8.wrap (x70.fData.length:Int))]:List Int)).length≤LIM)) <|
 j75 (s42.2++([(bitI .and .u8 (IntKind.u8.wrap x70.fFlags) 224),(IntKind.u8.wrap x70.fType),(IntKind.u8.wrap (x70.fData.length:Int))]:List Int))))
 else
 some (.inl (.inr s42.2)))
def X2 (a0:(List A7)):Option ((List Int)×Int) :=
 (loop (Q7 a0) 0).bind fun x40=>match x40 with
 | (.inl _) =>
  some (([]:List Int),1)
 | (.inr _) =>
  (loop (Q8 a0) (0,([]:List Int))).bind fun x81=>match x81 with
  | (.inl _) =>
   some (([]:List Int),3)
  | (.inr p68) =>
   some (p68,0)
theorem A66 (a0:(List A7)) (r:(List Int)×Int) (h:X2 a0=some r):AC Tryz.prog 155 [(.d (.list 3 (a0.map A5)))] [] (.tup [(.d (.list 1 (r.1.map (eI .u8)))),(.d (.int .i64 r.2))]) []:=by
 refine ac2 Tryz.func155 rfl rfl fun B hB hN L => ?_
 delta X2 at h
 apply sr (c (assign (L rfl) Opd.nils) rfl (c (assign (L rfl) (ii 0)) rfl cn))
 apply seq
 apply sr (c (mv hN (q 0)) rfl (c (OpJ.val (v':=(i6 (a0.length:Int))) (by simp) (lenD underlying37 (L rfl) (q 11))) rfl (c (mv hN (ii 0)) rfl cn)))
 apply block
 obtain⟨x40,hx41,h⟩:=bindS h
 refine lg (Q7 a0) (fun s1:Int=>([(0,(E8 a0)),(11,(E8 a0)),(12,(i6 (a0.length:Int))),(13,(i6 s1))]:EL)) (fun s1:Int=>([]:OL)) (fun(x:(Unit)⊕(Unit)) e E' O'=>match x with | (.inl _p)=>e = .ret∧Mat B E' O' ([(2,.nils),(3,(i6 1))]:EL) ([]:OL) | (.inr _p)=>e = .exit 0∧Mat B E' O' ([(0,(E8 a0))]:EL) ([]:OL)) hx41 (mp [] _ _ hB) (fun s1 y h => ?_) (fun e E' O' hR => ?_)
 ·unfold Q7 at h
  apply sr (c (lss (L rfl) (q 13) (q 12)) rfl cn)
  apply seq
  apply AWp.cond rfl<;>intro hg28
  ·have h:=B6 hg28 h
   apply AWp.skip
   apply A3
   apply seq
   apply block
   obtain⟨x29,hx29,h⟩:=bindS h
   apply sr (c (indexD underlying37 tyS78 (A4 hx29).1 (C8 A5 (A4 hx29).2) (L rfl) (q 11) (q 13)) rfl (c (loadD tyS78 (by rfl) (by rfl) (L rfl) (q 15)) rfl (cg (alloc hB tyZ78 (nm:=1005) (by decide) (L rfl)) rfl (cg (sB tyS78 (q 5) (q 16)) rfl cn))))
   apply seq
   refine AWp.cut h (fun m34:Bool=>([(0,(E8 a0)),(11,(E8 a0)),(12,(i6 (a0.length:Int))),(13,(i6 s1)),(32,(bo m34))]:EL)) (fun m34:Bool=>([]:OL)) (fun m34 h E' O' hmat => ?_) (fun j35 hjj35 h => ?_)
   ·apply A3
    refine ghost hmat ?_
    apply AWp.cond rfl<;>intro hg36
    ·have h:=B6 hg36 h
     apply sr (c (assign (L rfl) Opd.nils) rfl (c (assign (L rfl) (ii 1)) rfl cn))
     apply ret
     apply F7
     apply D4
     obtain rfl:=oi h
     exact⟨(fun hc=>by cases hc),rfl,(mp [] _ _ hB)⟩
    ·have h:=B7 hg36 h
     apply AWp.skip
     apply F8
     apply A3
     apply rg (c (add6 (L rfl) (q 13) (ii 1)) rfl (c (mv hN (q 33)) rfl cn))
     obtain rfl:=oi h
     exact⟨rfl,(mp [] _ _ hB)⟩
   ·obtain⟨r37,hr37,h⟩:=bindS h
    rcases bft (!r37) with hg38 | hg38
    ·have h:=B6 hg38 h
     apply rg (c (fo 1005 0 [0] hN underlying78 0 tyS3 (q 5)) rfl (c (la hN 78 tyS3 (q 17)) rfl (cg (cf hB fnOk159 (C2 x29.fFlags 0 255 r37 hr37) (L rfl) (OpdL.cons (q 18) (OpdL.cons (ii 0) (OpdL.cons (ii 255) OpdL.nil)))) rfl (c (OpJ.not (L rfl) (q 19)) rfl (c (OpJ.val (v':=.d (.bool true)) (by rw [hg38]<;>rfl) (mv hN (q 20))) rfl (ks 21 (L rfl) (ks 21 (L rfl) (ks 21 (L rfl) (ks 21 (L rfl) (c (pickT (L rfl) (q 21) (Opd.bool true)) rfl (c (mv hN (q 26)) rfl (ks 27 (L rfl) (ks 27 (L rfl) (ks 27 (L rfl) (ks 27 (L rfl) (c (pickT (L rfl) (q 27) (Opd.bool true)) rfl cn))))))))))))))))
     exact hjj35 _ h _ _ (mp [] _ _ hB)
    ·have h:=B7 hg38 h
     obtain⟨r39,hr39,h⟩:=bindS h
     apply rg (c (fo 1005 0 [0] hN underlying78 0 tyS3 (q 5)) rfl (c (la hN 78 tyS3 (q 17)) rfl (cg (cf hB fnOk159 (C2 x29.fFlags 0 255 r37 hr37) (L rfl) (OpdL.cons (q 18) (OpdL.cons (ii 0) (OpdL.cons (ii 255) OpdL.nil)))) rfl (c (OpJ.not (L rfl) (q 19)) rfl (c (OpJ.val (v':=.d (.bool false)) (by rw [hg38]<;>rfl) (mv hN (q 20))) rfl (c (gd 21 (fo 1005 1 [1] hN underlying78 1 tyS3 (q 5))) rfl (c (gd 21 (la hN 78 tyS3 (q 22))) rfl (cg (gd 21 (cf hB fnOk159 (C2 x29.fType 0 255 r39 hr39) (L rfl) (OpdL.cons (q 23) (OpdL.cons (ii 0) (OpdL.cons (ii 255) OpdL.nil))))) rfl (c (gd 21 (OpJ.not (L rfl) (q 24))) rfl (c (pickF (L rfl) (q 21) (q 25)) rfl (c (mv hN (q 26)) rfl (c (oq hN 27 (fo 1005 2 [2] hN underlying78 2 tyS76 (q 5)) (OptL.keep (by rfl) OptL.nil) (GuardV.plain _)) rfl (c (oq hN 27 (la hN 78 tyS76 (q 28)) (OptL.opt OptL.nil) (GuardV.plain _)) rfl (c (oq hN 27 (OpJ.val (v':=(i6 (x29.fData.length:Int))) (by simp) (lenD underlying76 (L rfl) (q 29))) (OptL.opt OptL.nil) (GuardV.plain _)) rfl (c (oq hN 27 (gtr (L rfl) (q 30) (ii 65535)) (OptL.opt OptL.nil) (GuardV.plain _)) rfl (c (pickOr rfl (L rfl) (q 27) (q 31)) rfl cn))))))))))))))))
     exact hjj35 _ h _ _ (mp [] _ _ hB)
  ·have h:=B7 hg28 h
   apply AWp.exit
   apply F6
   obtain rfl:=oi h
   exact⟨(fun hc=>by cases hc),rfl,(mp [] _ _ hB)⟩
 ·rcases x40 with _ | _
  ·obtain⟨rfl,hmat⟩:=hR
   apply F7
   apply D4
   obtain rfl:=oi h
   exact rt (Mat.trans hmat (Mat.trans (Mat.coeP (Ts:=[(2,(.d (.list 1 (([]:List Int).map (eI .u8)))))]) (Bs:=[]) (TwT.cons (x:=.nils) (by rfl) (Tw.leaf ⟨_,(Co.nils 1),rfl⟩) TwT.nil) TwB.nil) (mp [] [(2,(.d (.list 1 (([]:List Int).map (eI .u8))))),(3,(i6 1))] [] hB))) [(.d (.list 1 (([]:List Int).map (eI .u8)))),(i6 1)] (rT (rT rN)) rfl
  ·obtain⟨rfl,hmat⟩:=hR
   apply E4
   apply A3
   refine ghost hmat ?_
   apply sr (c (assign (L rfl) Opd.nils) rfl cn)
   apply seq
   apply sr (c (mv hN (q 0)) rfl (c (OpJ.val (v':=(i6 (a0.length:Int))) (by simp) (lenD underlying37 (L rfl) (q 34))) rfl (c (mv hN (ii 0)) rfl cn)))
   apply block
   obtain⟨x81,hx82,h⟩:=bindS h
   refine lg (Q8 a0) (fun s42:Int×(List Int)=>([(6,(.sref 3006 1 0 s42.2.length)),(34,(E8 a0)),(35,(i6 (a0.length:Int))),(36,(i6 s42.1))]:EL)) (fun s42:Int×(List Int)=>([(3006,some (.row 5 1 (s42.2.map (eI .u8))))]:OL)) (fun(x:(Unit)⊕((List Int))) e E' O'=>match x with | (.inl _p)=>e = .ret∧Mat B E' O' ([(2,.nils),(3,(i6 3))]:EL) ([]:OL) | (.inr p68)=>e = .exit 2∧Mat B E' O' ([(6,(.sref 3006 1 0 p68.length))]:EL) ([(3006,some (.row 5 1 (p68.map (eI .u8))))]:OL)) hx82 (Mat.trans (Mat.beginP (n:=3006) (e:=5) (sz:=1) (Ts:=[(6,(.sref 3006 1 0 0))]) (Bs:=[]) hB (by decide) (by rfl) (by decide) (TwT.cons (x:=.nils) (by rfl) (Tw.leaf ⟨rfl,rfl⟩) TwT.nil) TwB.nil) (mp [] _ _ hB)) (fun s42 y h => ?_) (fun e E' O' hR => ?_)
   ·unfold Q8 at h
    apply sr (c (lss (L rfl) (q 36) (q 35)) rfl cn)
    apply seq
    apply AWp.cond rfl<;>intro hg69
    ·have h:=B6 hg69 h
     apply AWp.skip
     apply A3
     apply seq
     apply block
     obtain⟨x70,hx70,h⟩:=bindS h
     apply sr (c (indexD underlying37 tyS78 (A4 hx70).1 (C8 A5 (A4 hx70).2) (L rfl) (q 34) (q 36)) rfl (c (loadD tyS78 (by rfl) (by rfl) (L rfl) (q 38)) rfl (cg (alloc hB tyZ78 (nm:=1008) (by decide) (L rfl)) rfl (cg (sB tyS78 (q 8) (q 39)) rfl cn))))
     apply sd (c (fo 1008 0 [0] hN underlying78 0 tyS3 (q 8)) rfl (c (la hN 78 tyS3 (q 40)) rfl (c (OpJ.conv underlying3 underlying5 (L rfl) (q 41)) rfl (c (OpJ.bits (.inl rfl) (L rfl) (q 42) (Opd.int .u8 (224))) rfl (c (fo 1008 2 [2] hN underlying78 2 tyS76 (q 8)) rfl (c (la hN 78 tyS76 (q 44)) rfl (c (OpJ.val (v':=(i6 (x70.fData.length:Int))) (by simp) (lenD underlying76 (L rfl) (q 45))) rfl (c (assign (L rfl) (q 43)) rfl (c (assign (L rfl) (q 46)) rfl cn))))))))) (by kernel_rfl) (by kernel_rfl)
     apply seq
     apply sr (c (mv hN (q 10)) rfl (c (gtr (L rfl) (q 47) (ii 255)) rfl cn))
     refine gh [(6,_),(8,_),(9,_),(10,_),(34,_),(35,_),(36,_),(48,_)] [(1008,some _),(3006,some _)] hB rfl rfl (by rfl) ?_
     refine AWp.cut h (fun m74:(List Int)=>([(6,(.sref 3006 1 0 m74.length)),(8,(pt 1008)),(34,(E8 a0)),(35,(i6 (a0.length:Int))),(36,(i6 s42.1))]:EL)) (fun m74:(List Int)=>([(1008,bd 78 (A5 x70)),(3006,some (.row 5 1 (m74.map (eI .u8))))]:OL)) (fun m74 h E' O' hmat => ?_) (fun j75 hjj75 h => ?_)
     ·apply A3
      refine ghost hmat ?_
      obtain⟨hc76,h⟩:=D3 h
      apply sr (c (mv hN (q 6)) rfl (c (fo 1008 2 [2] hN underlying78 2 tyS76 (q 8)) rfl (c (la hN 78 tyS76 (q 72)) rfl (cg (apd hB underlying76 tyE5 1074 (eI .u8) m74 x70.fData hc76 (L rfl) (q 71) (q 73)) rfl (c (assign (L rfl) (q 74)) rfl cn)))))
      apply sr (c (mv hN (q 6)) rfl (c (lenS underlying76 (L rfl) (q 75)) rfl (c (gtr (L rfl) (q 76) (ii 2048)) rfl cn)))
      apply AWp.cond rfl<;>intro hg77
      ·have h:=B6 hg77 h
       apply sr (c (assign (L rfl) Opd.nils) rfl (c (assign (L rfl) (ii 3)) rfl cn))
       apply ret
       apply F7
       apply D4
       obtain rfl:=oi h
       exact⟨(fun hc=>by cases hc),rfl,(mp [] _ _ hB)⟩
      ·have h:=B7 hg77 h
       apply AWp.skip
       apply F8
       apply A3
       apply rg (c (add6 (L rfl) (q 36) (ii 1)) rfl (c (mv hN (q 78)) rfl cn))
       obtain rfl:=oi h
       exact⟨rfl,(mp [(3006,1074)] _ _ hB)⟩
     ·apply AWp.cond rfl<;>intro hg78
      ·have h:=B6 hg78 h
       obtain⟨hc79,h⟩:=D3 h
       apply rg (c (mv hN (q 6)) rfl (c (mv hN (q 9)) rfl (c (OpJ.bits (.inr (.inl rfl)) (L rfl) (q 50) (Opd.int .u8 (16))) rfl (c (fo 1008 1 [1] hN underlying78 1 tyS3 (q 8)) rfl (c (la hN 78 tyS3 (q 52)) rfl (c (OpJ.conv underlying3 underlying5 (L rfl) (q 53)) rfl (c (mv hN (q 10)) rfl (c (OpJ.shr (L rfl) (q 55) (Opd.int .u64 (8)) (by decide)) rfl (c (OpJ.conv underlying3 underlying5 (L rfl) (q 56)) rfl (c (mv hN (q 10)) rfl (c (OpJ.conv underlying3 underlying5 (L rfl) (q 58)) rfl (c (buildSlice underlying76 tyS5 tyZD5 (by rfl) (by decide) (by decide) (Opds.cons (q 51) (Opds.cons (q 54) (Opds.cons (q 57) (Opds.cons (q 59) Opds.nil)))) (by kernel_rfl) (es:=([(.int .u8 (bitI .or .u8 (bitI .and .u8 (IntKind.u8.wrap x70.fFlags) 224) 16)),(.int .u8 (IntKind.u8.wrap x70.fType)),(.int .u8 (IntKind.u8.wrap (shrI .i64 (x70.fData.length:Int) 8))),(.int .u8 (IntKind.u8.wrap (x70.fData.length:Int)))]:List D)) (by rfl) (by rfl) (by kernel_rfl) (by simp) (L rfl)) rfl (cg (apd hB underlying76 tyE5 1061 (eI .u8) s42.2 ([(bitI .or .u8 (bitI .and .u8 (IntKind.u8.wrap x70.fFlags) 224) 16),(IntKind.u8.wrap x70.fType),(IntKind.u8.wrap (shrI .i64 (x70.fData.length:Int) 8)),(IntKind.u8.wrap (x70.fData.length:Int))]:List Int) hc79 (L rfl) (q 49) (q 60)) rfl (c (assign (L rfl) (q 61)) rfl cn))))))))))))))
       exact hjj75 _ h _ _ (mp [(3006,1061)] _ _ hB)
      ·have h:=B7 hg78 h
       obtain⟨hc80,h⟩:=D3 h
       apply rg (c (mv hN (q 6)) rfl (c (mv hN (q 9)) rfl (c (fo 1008 1 [1] hN underlying78 1 tyS3 (q 8)) rfl (c (la hN 78 tyS3 (q 64)) rfl (c (OpJ.conv underlying3 underlying5 (L rfl) (q 65)) rfl (c (mv hN (q 10)) rfl (c (OpJ.conv underlying3 underlying5 (L rfl) (q 67)) rfl (c (buildSlice underlying76 tyS5 tyZD5 (by rfl) (by decide) (by decide) (Opds.cons (q 63) (Opds.cons (q 66) (Opds.cons (q 68) Opds.nil))) (by kernel_rfl) (es:=([(.int .u8 (bitI .and .u8 (IntKind.u8.wrap x70.fFlags) 224)),(.int .u8 (IntKind.u8.wrap x70.fType)),(.int .u8 (IntKind.u8.wrap (x70.fData.length:Int)))]:List D)) (by rfl) (by rfl) (by kernel_rfl) (by simp) (L rfl)) rfl (cg (apd hB underlying76 tyE5 1070 (eI .u8) s42.2 ([(bitI .and .u8 (IntKind.u8.wrap x70.fFlags) 224),(IntKind.u8.wrap x70.fType),(IntKind.u8.wrap (x70.fData.length:Int))]:List Int) hc80 (L rfl) (q 62) (q 69)) rfl (c (assign (L rfl) (q 70)) rfl cn))))))))))
       exact hjj75 _ h _ _ (mp [(3006,1070)] _ _ hB)
    ·have h:=B7 hg69 h
     apply AWp.exit
     apply F6
     obtain rfl:=oi h
     exact⟨(fun hc=>by cases hc),rfl,(mp [] _ _ hB)⟩
   ·rcases x81 with _ | p68
    ·obtain⟨rfl,hmat⟩:=hR
     apply F7
     apply D4
     obtain rfl:=oi h
     exact rt (Mat.trans hmat (Mat.trans (Mat.coeP (Ts:=[(2,(.d (.list 1 (([]:List Int).map (eI .u8)))))]) (Bs:=[]) (TwT.cons (x:=.nils) (by rfl) (Tw.leaf ⟨_,(Co.nils 1),rfl⟩) TwT.nil) TwB.nil) (mp [] [(2,(.d (.list 1 (([]:List Int).map (eI .u8))))),(3,(i6 3))] [] hB))) [(.d (.list 1 (([]:List Int).map (eI .u8)))),(i6 3)] (rT (rT rN)) rfl
    ·obtain⟨rfl,hmat⟩:=hR
     apply E4
     apply A3
     refine ghost hmat ?_
     apply sr (c (mv hN (q 6)) rfl (c (assign (L rfl) (q 79)) rfl (c (assign (L rfl) (ii 0)) rfl cn)))
     apply ret
     obtain rfl:=oi h
     exact rt (Mat.trans (Mat.freezeP (n:=3006) (e:=5) (sz:=1) (es:=p68.map (eI .u8)) (Ts:=[(2,(.d (.list 1 (p68.map (eI .u8)))))]) (Bs:=[]) (by rfl) (TwT.cons (x:=(.sref 3006 1 0 p68.length)) (by rfl) (FrzL.all (by first | rfl | (simp;done) | (simp;omega) | omega)) TwT.nil) TwB.nil) (mp [] [(2,(.d (.list 1 (p68.map (eI .u8))))),(3,(i6 0))] [] hB)) [(.d (.list 1 (p68.map (eI .u8)))),(i6 0)] (rT (rT rN)) rfl
def A24 (a0:Int):Option ((List Int)) :=
 chk (decide (([(IntKind.u8.wrap (shrI .i64 a0 8)),(IntKind.u8.wrap a0)]:List Int).length≤LIM)) <|
 some ([(IntKind.u8.wrap (shrI .i64 a0 8)),(IntKind.u8.wrap a0)]:List Int)
theorem A7o (a0:Int) (r:(List Int)) (h:A24 a0=some r):AC Tryz.prog 158 [.nils,(.d (.int .i64 a0))] [] (.sref 900000 1 0 r.length) [(900000,some (.row 5 1 (r.map (eI .u8))))]:=by
 refine AC.of_code2 Tryz.func158 rfl rfl (Nat.le_of_ble_eq_true (by rfl)) fun B hB hN => ?_
 delta A24 at h
 apply sr (c (assign (ltN hN rfl) Opd.nils) rfl cn)
 obtain⟨hc1,h⟩:=D3 h
 apply sr (c (mv hN (q 0)) rfl (c (mv hN (q 1)) rfl (c (OpJ.shr (ltN hN rfl) (q 6) (Opd.int .u64 (8)) (by decide)) rfl (c (OpJ.conv underlying3 underlying5 (ltN hN rfl) (q 7)) rfl (c (mv hN (q 1)) rfl (c (OpJ.conv underlying3 underlying5 (ltN hN rfl) (q 9)) rfl (c (buildSlice underlying76 tyS5 tyZD5 (by rfl) (by decide) (by decide) (Opds.cons (q 8) (Opds.cons (q 10) Opds.nil)) (by kernel_rfl) (es:=([(.int .u8 (IntKind.u8.wrap (shrI .i64 a0 8))),(.int .u8 (IntKind.u8.wrap a0))]:List D)) (by rfl) (by rfl) (by kernel_rfl) (by simp) (ltN hN rfl)) rfl (cg (OpJ.appendN hB underlying76 tyE5 (nm:=1012) (by decide) (ys:=([(IntKind.u8.wrap (shrI .i64 a0 8)),(IntKind.u8.wrap a0)]:List Int).map (eI .u8)) (len:=([(IntKind.u8.wrap (shrI .i64 a0 8)),(IntKind.u8.wrap a0)]:List Int).length) (by simp) (R4 (f:=(eI .u8)) (fun _=>rfl)) (by rw [List.length_map];exact J6 hc1 (by decide)) (by rw [List.length_map];exact M6 hc1) (ltN hN rfl) (q 5) (q 11)) rfl (c (assign (ltN hN rfl) (q 12)) rfl cn)))))))))
 apply ret
 obtain rfl:=oi h
 exact rt (mp [(900000,1012)] [(4,(.sref 900000 1 0 (([(IntKind.u8.wrap (shrI .i64 a0 8)),(IntKind.u8.wrap a0)]:List Int).length)))] [(900000,some (.row 5 1 (([(IntKind.u8.wrap (shrI .i64 a0 8)),(IntKind.u8.wrap a0)]:List Int).map (eI .u8))))] hB) [(.sref 900000 1 0 (([(IntKind.u8.wrap (shrI .i64 a0 8)),(IntKind.u8.wrap a0)]:List Int).length))] (rT rN) rfl
def A25 (a0:(List Int)) (a1:Int):Option ((List Int)) :=
 chk (decide ((a0++([(IntKind.u8.wrap (shrI .i64 a1 8)),(IntKind.u8.wrap a1)]:List Int)).length≤LIM)) <|
 some (a0++([(IntKind.u8.wrap (shrI .i64 a1 8)),(IntKind.u8.wrap a1)]:List Int))
theorem A7p (a0:(List Int)) (a1:Int) (r:(List Int)) (h:A25 a0 a1=some r):AC Tryz.prog 158 [(.sref 0 1 0 a0.length),(.d (.int .i64 a1))] [(0,(.row 5 1 (a0.map (eI .u8))))] (.sref 900000 1 0 r.length) [(0,none),(900000,some (.row 5 1 (r.map (eI .u8))))]:=by
 refine AC.of_code2 Tryz.func158 rfl rfl (Nat.le_of_ble_eq_true (by rfl)) fun B hB hN => ?_
 delta A25 at h
 apply sr (c (assign (ltN hN rfl) Opd.nils) rfl cn)
 obtain⟨hc1,h⟩:=D3 h
 have hc1_o:=hc1
 simp only [decide_eq_true_eq] at hc1_o
 apply sr (c (mv hN (q 0)) rfl (c (mv hN (q 1)) rfl (c (OpJ.shr (ltN hN rfl) (q 6) (Opd.int .u64 (8)) (by decide)) rfl (c (OpJ.conv underlying3 underlying5 (ltN hN rfl) (q 7)) rfl (c (mv hN (q 1)) rfl (c (OpJ.conv underlying3 underlying5 (ltN hN rfl) (q 9)) rfl (c (buildSlice underlying76 tyS5 tyZD5 (by rfl) (by decide) (by decide) (Opds.cons (q 8) (Opds.cons (q 10) Opds.nil)) (by kernel_rfl) (es:=([(.int .u8 (IntKind.u8.wrap (shrI .i64 a1 8))),(.int .u8 (IntKind.u8.wrap a1))]:List D)) (by rfl) (by rfl) (by kernel_rfl) (by simp) (ltN hN rfl)) rfl (cg (OpJ.append hB underlying76 tyE5 (nm:=1012) (by decide) (es:=a0.map (eI .u8)) (ys:=([(IntKind.u8.wrap (shrI .i64 a1 8)),(IntKind.u8.wrap a1)]:List Int).map (eI .u8)) (es':=(a0++([(IntKind.u8.wrap (shrI .i64 a1 8)),(IntKind.u8.wrap a1)]:List Int)).map (eI .u8)) (len:=(a0++([(IntKind.u8.wrap (shrI .i64 a1 8)),(IntKind.u8.wrap a1)]:List Int)).length) (by simp) (by simp) (R4 (f:=(eI .u8)) (fun _=>rfl)) (by rw [List.length_map];exact J6 hc1 (by decide)) (by rw [List.length_map];exact M6 hc1) (ltN hN rfl) (by simp) (q 5) (q 11)) rfl (c (assign (ltN hN rfl) (q 12)) rfl cn)))))))))
 apply ret
 obtain rfl:=oi h
 exact rt (mp [(900000,1012)] [(4,(.sref 900000 1 0 ((a0++([(IntKind.u8.wrap (shrI .i64 a1 8)),(IntKind.u8.wrap a1)]:List Int)).length)))] [(900000,some (.row 5 1 ((a0++([(IntKind.u8.wrap (shrI .i64 a1 8)),(IntKind.u8.wrap a1)]:List Int)).map (eI .u8))))] hB) [(.sref 900000 1 0 ((a0++([(IntKind.u8.wrap (shrI .i64 a1 8)),(IntKind.u8.wrap a1)]:List Int)).length))] (rT rN) rfl
def A1s (a0:C9):Option ((List Int)×Bool) :=
 (T1 a0).bind fun r1 =>
 (X2 r1).bind fun r2 =>
 (M4 a0.fWithdraw false).bind fun r3 =>
 (A24 (r3.length:Int)).bind fun r4 =>
 chk (decide ((r4++r3).length≤LIM)) <|
 (A25 (r4++r3) (r2.1.length:Int)).bind fun r6 =>
 chk (decide ((r6++r2.1).length≤LIM)) <|
 (T9 (r6++r2.1) a0.fAnnounce false).bind fun r8 =>
 some (r8,((r2.2==0)&&(decide ((r8.length:Int)≤4077))))
theorem A8i (a0:C9) (r:(List Int)×Bool) (h:A1s a0=some r):AC Tryz.prog 147 [(.d (B9 a0))] [(500,(.know (globD 0 (.imap gv0))))] (.tup [(.d (.list 1 (r.1.map (eI .u8)))),(.d (.bool r.2))]) [(500,some (.know (globD 0 (.imap gv0))))]:=by
 refine ac2 Tryz.func147 rfl rfl fun B hB hN L => ?_
 delta A1s at h
 apply sr (cg (OpJ.box hB (nm:=1001) (by decide) (by simp) rfl (L rfl) (q 0)) rfl (c (assign (L rfl) Opd.nils) rfl (c (assign (L rfl) (Opd.bool false)) rfl cn)))
 apply seq
 obtain⟨r1,hr1,h⟩:=bindS h
 obtain⟨r2,hr2,h⟩:=bindS h
 refine AWp.region (oc (lb hN 71 (.d (B9 a0)) (.d (B9 a0)) tyS71 (At.here _) (ot 1 (pt 1001)))
 (oc (OpJ.callFn hB fnOk156 (A8h a0 r1 hr1) [(500,500)] (by kernel_rfl) (L rfl) (by kernel_rfl) (OpdL.cons (ot 9 (.d (B9 a0))) OpdL.nil))
 (oc (cf hB fnOk155 (A66 r1 r2 hr2) (L rfl) (OpdL.cons (ot 10 (E8 r1)) OpdL.nil))
 (oc (mv hN (ot 11 (.tup [(.d (.list 1 (r2.1.map (eI .u8)))),(i6 r2.2)])))
 (oc (extract (v:=(.d (.list 1 (r2.1.map (eI .u8))))) (by rfl) rfl (L rfl) (ot 8 (.tup [(.d (.list 1 (r2.1.map (eI .u8)))),(i6 r2.2)])))
 (oc (extract (v:=(i6 r2.2)) (by rfl) rfl (L rfl) (ot 8 (.tup [(.d (.list 1 (r2.1.map (eI .u8)))),(i6 r2.2)])))
 (oc (assign (L rfl) (ot 12 (.d (.list 1 (r2.1.map (eI .u8))))))
 (oc (assign (L rfl) (ot 13 (i6 r2.2)))
 (OpJs.nil))))))))) (by rfl) (by rfl) ?_
 apply A3
 refine ghost (mp [] [(1,(pt 1001)),(4,(.d (.list 1 (r2.1.map (eI .u8))))),(5,(i6 r2.2))] [(500,some (.know (globD 0 (.imap gv0)))),(1001,bd 71 (B9 a0))] hB) ?_
 obtain⟨r3,hr3,h⟩:=bindS h
 apply sr (c (fo 1001 0 [0] hN underlying71 0 tyS69 (q 1)) rfl (c (la hN 71 tyS69 (q 14)) rfl (cg (cf hB fnOk157 (A2p a0.fWithdraw false r3 hr3) (L rfl) (OpdL.cons Opd.nils (OpdL.cons (q 15) (OpdL.cons (Opd.bool false) OpdL.nil)))) rfl (c (assign (L rfl) (q 16)) rfl cn))))
 apply seq
 obtain⟨r4,hr4,h⟩:=bindS h
 obtain⟨hc5,h⟩:=D3 h
 refine AWp.region (oc (mv hN (ot 6 (.d (.list 1 (r3.map (eI .u8))))))
 (oc (OpJ.val (v':=(i6 (r3.length:Int))) (by simp) (lenD underlying76 (L rfl) (ot 17 (.d (.list 1 (r3.map (eI .u8)))))))
 (oc (OpJ.callFn hB fnOk158 (A7o (r3.length:Int) r4 hr4) [(900000,100300)] (by kernel_rfl) (L rfl) (by kernel_rfl) (OpdL.cons Opd.nils (OpdL.cons (ot 18 (i6 (r3.length:Int))) OpdL.nil)))
 (oc (mv hN (ot 6 (.d (.list 1 (r3.map (eI .u8))))))
 (oc (apd hB underlying76 tyE5 1021 (eI .u8) r4 r3 hc5 (L rfl) (ot 19 (.sref 100300 1 0 r4.length)) (ot 20 (.d (.list 1 (r3.map (eI .u8))))))
 (oc (assign (L rfl) (ot 21 (.sref 1021 1 0 ((r4++r3).length))))
 (OpJs.nil))))))) (by rfl) (by rfl) ?_
 apply A3
 refine ghost (mp [] [(1,(pt 1001)),(4,(.d (.list 1 (r2.1.map (eI .u8))))),(5,(i6 r2.2)),(7,(.sref 1021 1 0 ((r4++r3).length)))] [(500,some (.know (globD 0 (.imap gv0)))),(1001,bd 71 (B9 a0)),(1021,some (.row 5 1 ((r4++r3).map (eI .u8))))] hB) ?_
 apply seq
 obtain⟨r6,hr6,h⟩:=bindS h
 obtain⟨hc7,h⟩:=D3 h
 refine AWp.region (oc (mv hN (ot 7 (.sref 1021 1 0 ((r4++r3).length))))
 (oc (mv hN (ot 4 (.d (.list 1 (r2.1.map (eI .u8))))))
 (oc (OpJ.val (v':=(i6 (r2.1.length:Int))) (by simp) (lenD underlying76 (L rfl) (ot 23 (.d (.list 1 (r2.1.map (eI .u8)))))))
 (oc (OpJ.callFn hB fnOk158 (A7p (r4++r3) (r2.1.length:Int) r6 hr6) [(0,1021),(900000,100400)] (by kernel_rfl) (L rfl) (by kernel_rfl) (OpdL.cons (ot 22 (.sref 1021 1 0 ((r4++r3).length))) (OpdL.cons (ot 24 (i6 (r2.1.length:Int))) OpdL.nil)))
 (oc (mv hN (ot 4 (.d (.list 1 (r2.1.map (eI .u8))))))
 (oc (apd hB underlying76 tyE5 1027 (eI .u8) r6 r2.1 hc7 (L rfl) (ot 25 (.sref 100400 1 0 r6.length)) (ot 26 (.d (.list 1 (r2.1.map (eI .u8))))))
 (oc (assign (L rfl) (ot 27 (.sref 1027 1 0 ((r6++r2.1).length))))
 (OpJs.nil)))))))) (by rfl) (by rfl) ?_
 apply A3
 refine ghost (mp [] [(1,(pt 1001)),(5,(i6 r2.2)),(7,(.sref 1027 1 0 ((r6++r2.1).length)))] [(500,some (.know (globD 0 (.imap gv0)))),(1001,bd 71 (B9 a0)),(1027,some (.row 5 1 ((r6++r2.1).map (eI .u8))))] hB) ?_
 apply seq
 obtain⟨r8,hr8,h⟩:=bindS h
 refine AWp.region (oc (mv hN (ot 7 (.sref 1027 1 0 ((r6++r2.1).length))))
 (oc (ov (.ptr 1001 12 [2]) (fp hN underlying71 12 tyS69 (.box 71 (.d (B9 a0))) (ot 1 (pt 1001))))
 (oc (lb hN 71 (.d (B9 a0)) (C1 a0.fAnnounce) tyS69 (ad (.list 4 (a0.fAnnounce.map A2))) (ot 29 (.ptr 1001 12 [2])))
 (oc (OpJ.callFn hB fnOk157 (A41 (r6++r2.1) a0.fAnnounce false r8 hr8) [(0,1027)] (by kernel_rfl) (L rfl) (by kernel_rfl) (OpdL.cons (ot 28 (.sref 1027 1 0 ((r6++r2.1).length))) (OpdL.cons (ot 30 (C1 a0.fAnnounce)) (OpdL.cons (Opd.bool false) OpdL.nil))))
 (oc (assign (L rfl) (ot 31 (.d (.list 1 (r8.map (eI .u8))))))
 (OpJs.nil)))))) (by rfl) (by rfl) ?_
 apply A3
 refine ghost (mp [] [(5,(i6 r2.2)),(7,(.d (.list 1 (r8.map (eI .u8)))))] [(500,some (.know (globD 0 (.imap gv0))))] hB) ?_
 apply sr (c (mv hN (q 7)) rfl (c (mv hN (q 5)) rfl (c (eqlI (L rfl) (q 33) (ii 0)) rfl (c (mv hN (q 34)) rfl (c (oq hN 35 (mv hN (q 7)) (OptL.keep (by rfl) OptL.nil) (GuardV.plain _)) rfl (c (oq hN 35 (OpJ.val (v':=(i6 (r8.length:Int))) (by simp) (lenD underlying76 (L rfl) (q 36))) (OptL.opt OptL.nil) (GuardV.plain _)) rfl (c (oq hN 35 (leq (L rfl) (q 37) (ii 4077)) (OptL.opt OptL.nil) (GuardV.plain _)) rfl (c (pickAnd rfl (L rfl) (q 35) (q 38)) rfl (c (assign (L rfl) (q 32)) rfl (c (assign (L rfl) (q 39)) rfl cn))))))))))
 apply ret
 obtain rfl:=oi h
 exact rt (kp [(2,_),(3,_)] [(500,some _)] hB rfl rfl (by rfl)) [(.d (.list 1 (r8.map (eI .u8)))),(bo ((r2.2==0)&&(decide ((r8.length:Int)≤4077))))] (rT (rT rN)) rfl
def M1 (a0:C9):Option (Bool) :=
 jn (fun m7:Bool =>
 (if m7=true then
 some false
 else
 (A1s a0).bind fun r10 =>
 some r10.2)) (fun j8 =>
 (if ((decide (256<(a0.fWithdraw.length:Int))) || (decide (256<(a0.fAnnounce.length:Int))))=true then
 j8 true
 else
 (J1 a0.fWithdraw).bind fun r12 =>
 (if r12=true then
 j8 true
 else
 (J1 a0.fAnnounce).bind fun r14 =>
 (if r14=true then
 j8 true
 else
 (X1 a0).bind fun r16 =>
 j8 (!r16)))))
theorem A1x (a0:C9) (r:Bool) (h:M1 a0=some r):AC Tryz.prog 113 [(.d (B9 a0))] [(500,(.know (globD 0 (.imap gv0))))] (.d (.bool r)) [(500,some (.know (globD 0 (.imap gv0))))]:=by
 refine ac2 Tryz.func113 rfl rfl fun B hB hN L => ?_
 delta M1 at h
 apply sr (cg (OpJ.box hB (nm:=1001) (by decide) (by simp) rfl (L rfl) (q 0)) rfl (c (assign (L rfl) (Opd.bool false)) rfl cn))
 apply sr (c (assign (L rfl) (Opd.func 144)) rfl cn)
 apply seq
 apply seq
 refine AWp.cut h (fun m7:Bool=>([(1,(pt 1001)),(32,(bo m7))]:EL)) (fun m7:Bool=>([(500,some (.know (globD 0 (.imap gv0)))),(1001,bd 71 (B9 a0))]:OL)) (fun m7 h E' O' hmat => ?_) (fun j8 hjj8 h => ?_)
 ·apply A3
  refine ghost hmat ?_
  apply AWp.cond rfl<;>intro hg9
  ·have h:=B6 hg9 h
   apply sr (c (assign (L rfl) (Opd.bool false)) rfl cn)
   apply ret
   apply D4
   obtain rfl:=oi h
   exact rt (kp [(2,_)] [(500,some _)] hB rfl rfl (by rfl)) [(bo false)] (rT rN) rfl
  ·have h:=B7 hg9 h
   apply AWp.skip
   apply A3
   apply seq
   obtain⟨r10,hr10,h⟩:=bindS h
   refine AWp.region (oc (lb hN 71 (.d (B9 a0)) (.d (B9 a0)) tyS71 (At.here _) (ot 1 (pt 1001)))
    (oc (OpJ.callFn hB fnOk147 (A8i a0 r10 hr10) [(500,500)] (by kernel_rfl) (L rfl) (by kernel_rfl) (OpdL.cons (ot 34 (.d (B9 a0))) OpdL.nil))
    (oc (mv hN (ot 35 (.tup [(.d (.list 1 (r10.1.map (eI .u8)))),(bo r10.2)])))
    (oc (extract (v:=(.d (.list 1 (r10.1.map (eI .u8))))) (by rfl) rfl (L rfl) (ot 33 (.tup [(.d (.list 1 (r10.1.map (eI .u8)))),(bo r10.2)])))
    (oc (extract (v:=(bo r10.2)) (by rfl) rfl (L rfl) (ot 33 (.tup [(.d (.list 1 (r10.1.map (eI .u8)))),(bo r10.2)])))
    (oc (assign (L rfl) (ot 36 (.d (.list 1 (r10.1.map (eI .u8))))))
    (oc (assign (L rfl) (ot 37 (bo r10.2)))
    (OpJs.nil)))))))) (by rfl) (by rfl) ?_
   apply A3
   refine ghost (mp [] [(5,(bo r10.2))] [(500,some (.know (globD 0 (.imap gv0))))] hB) ?_
   apply sr (c (mv hN (q 5)) rfl (c (assign (L rfl) (q 38)) rfl cn))
   apply ret
   obtain rfl:=oi h
   exact rt (kp [(2,_)] [(500,some _)] hB rfl rfl (by rfl)) [(bo r10.2)] (rT rN) rfl
 ·rcases bft ((decide (256<(a0.fWithdraw.length:Int))) || (decide (256<(a0.fAnnounce.length:Int)))) with hg11 | hg11
  ·have h:=B6 hg11 h
   apply rg (c (fo 1001 0 [0] hN underlying71 0 tyS69 (q 1)) rfl (c (la hN 71 tyS69 (q 6)) rfl (c (OpJ.val (v':=(i6 (a0.fWithdraw.length:Int))) (by simp) (lenD underlying69 (L rfl) (q 7))) rfl (c (gtr (L rfl) (q 8) (ii 256)) rfl (c (mv hN (q 9)) rfl (c (oq hN 10 (fo 1001 12 [2] hN underlying71 12 tyS69 (q 1)) (OptL.keep (by rfl) OptL.nil) (GuardV.plain _)) rfl (c (oq hN 10 (la hN 71 tyS69 (q 11)) (OptL.opt OptL.nil) (GuardV.plain _)) rfl (c (oq hN 10 (OpJ.val (v':=(i6 (a0.fAnnounce.length:Int))) (by simp) (lenD underlying69 (L rfl) (q 12))) (OptL.opt OptL.nil) (GuardV.plain _)) rfl (c (oq hN 10 (gtr (L rfl) (q 13) (ii 256)) (OptL.opt OptL.nil) (GuardV.plain _)) rfl (c (pickOr rfl (L rfl) (q 10) (q 14)) rfl (c (OpJ.val (v':=.d (.bool true)) (by rw [hg11]<;>rfl) (mv hN (q 15))) rfl (ks 16 (L rfl) (ks 16 (L rfl) (ks 16 (L rfl) (ks 16 (L rfl) (c (pickT (L rfl) (q 16) (Opd.bool true)) rfl (c (mv hN (q 21)) rfl (ks 22 (L rfl) (ks 22 (L rfl) (ks 22 (L rfl) (ks 22 (L rfl) (c (pickT (L rfl) (q 22) (Opd.bool true)) rfl (c (mv hN (q 27)) rfl (ks 28 (L rfl) (ks 28 (L rfl) (ks 28 (L rfl) (c (pickT (L rfl) (q 28) (Opd.bool true)) rfl cn)))))))))))))))))))))))))))
   exact hjj8 _ h _ _ (mp [] _ _ hB)
  ·have h:=B7 hg11 h
   obtain⟨r12,hr12,h⟩:=bindS h
   rcases bft r12 with hg13 | hg13
   ·have h:=B6 hg13 h
    apply rg (c (fo 1001 0 [0] hN underlying71 0 tyS69 (q 1)) rfl (c (la hN 71 tyS69 (q 6)) rfl (c (OpJ.val (v':=(i6 (a0.fWithdraw.length:Int))) (by simp) (lenD underlying69 (L rfl) (q 7))) rfl (c (gtr (L rfl) (q 8) (ii 256)) rfl (c (mv hN (q 9)) rfl (c (oq hN 10 (fo 1001 12 [2] hN underlying71 12 tyS69 (q 1)) (OptL.keep (by rfl) OptL.nil) (GuardV.plain _)) rfl (c (oq hN 10 (la hN 71 tyS69 (q 11)) (OptL.opt OptL.nil) (GuardV.plain _)) rfl (c (oq hN 10 (OpJ.val (v':=(i6 (a0.fAnnounce.length:Int))) (by simp) (lenD underlying69 (L rfl) (q 12))) (OptL.opt OptL.nil) (GuardV.plain _)) rfl (c (oq hN 10 (gtr (L rfl) (q 13) (ii 256)) (OptL.opt OptL.nil) (GuardV.plain _)) rfl (c (pickOr rfl (L rfl) (q 10) (q 14)) rfl (c (OpJ.val (v':=.d (.bool false)) (by rw [hg11]<;>rfl) (mv hN (q 15))) rfl (c (gd 16 (fo 1001 0 [0] hN underlying71 0 tyS69 (q 1))) rfl (c (gd 16 (la hN 71 tyS69 (q 17))) rfl (c (gd 16 (mv hN (q 3))) rfl (cg (gd 16 (cf hB fnOk145 (K3 a0.fWithdraw r12 hr12) (L rfl) (OpdL.cons (q 18) (OpdL.cons (q 19) OpdL.nil)))) rfl (c (pickF (L rfl) (q 16) (q 20)) rfl (c (OpJ.val (v':=.d (.bool true)) (by rw [hg13]<;>rfl) (mv hN (q 21))) rfl (ks 22 (L rfl) (ks 22 (L rfl) (ks 22 (L rfl) (ks 22 (L rfl) (c (pickT (L rfl) (q 22) (Opd.bool true)) rfl (c (mv hN (q 27)) rfl (ks 28 (L rfl) (ks 28 (L rfl) (ks 28 (L rfl) (c (pickT (L rfl) (q 28) (Opd.bool true)) rfl cn)))))))))))))))))))))))))))
    exact hjj8 _ h _ _ (mp [] _ _ hB)
   ·have h:=B7 hg13 h
    obtain⟨r14,hr14,h⟩:=bindS h
    rcases bft r14 with hg15 | hg15
    ·have h:=B6 hg15 h
     apply rg (c (fo 1001 0 [0] hN underlying71 0 tyS69 (q 1)) rfl (c (la hN 71 tyS69 (q 6)) rfl (c (OpJ.val (v':=(i6 (a0.fWithdraw.length:Int))) (by simp) (lenD underlying69 (L rfl) (q 7))) rfl (c (gtr (L rfl) (q 8) (ii 256)) rfl (c (mv hN (q 9)) rfl (c (oq hN 10 (fo 1001 12 [2] hN underlying71 12 tyS69 (q 1)) (OptL.keep (by rfl) OptL.nil) (GuardV.plain _)) rfl (c (oq hN 10 (la hN 71 tyS69 (q 11)) (OptL.opt OptL.nil) (GuardV.plain _)) rfl (c (oq hN 10 (OpJ.val (v':=(i6 (a0.fAnnounce.length:Int))) (by simp) (lenD underlying69 (L rfl) (q 12))) (OptL.opt OptL.nil) (GuardV.plain _)) rfl (c (oq hN 10 (gtr (L rfl) (q 13) (ii 256)) (OptL.opt OptL.nil) (GuardV.plain _)) rfl (c (pickOr rfl (L rfl) (q 10) (q 14)) rfl (c (OpJ.val (v':=.d (.bool false)) (by rw [hg11]<;>rfl) (mv hN (q 15))) rfl (c (gd 16 (fo 1001 0 [0] hN underlying71 0 tyS69 (q 1))) rfl (c (gd 16 (la hN 71 tyS69 (q 17))) rfl (c (gd 16 (mv hN (q 3))) rfl (cg (gd 16 (cf hB fnOk145 (K3 a0.fWithdraw r12 hr12) (L rfl) (OpdL.cons (q 18) (OpdL.cons (q 19) OpdL.nil)))) rfl (c (pickF (L rfl) (q 16) (q 20)) rfl (c (OpJ.val (v':=.d (.bool false)) (by rw [hg13]<;>rfl) (mv hN (q 21))) rfl (c (gd 22 (fo 1001 12 [2] hN underlying71 12 tyS69 (q 1))) rfl (c (gd 22 (la hN 71 tyS69 (q 23))) rfl (c (gd 22 (mv hN (q 3))) rfl (cg (gd 22 (cf hB fnOk145 (K3 a0.fAnnounce r14 hr14) (L rfl) (OpdL.cons (q 24) (OpdL.cons (q 25) OpdL.nil)))) rfl (c (pickF (L rfl) (q 22) (q 26)) rfl (c (OpJ.val (v':=.d (.bool true)) (by rw [hg15]<;>rfl) (mv hN (q 27))) rfl (ks 28 (L rfl) (ks 28 (L rfl) (ks 28 (L rfl) (c (pickT (L rfl) (q 28) (Opd.bool true)) rfl cn)))))))))))))))))))))))))))
     exact hjj8 _ h _ _ (mp [] _ _ hB)
    ·have h:=B7 hg15 h
     obtain⟨r16,hr16,h⟩:=bindS h
     refine AWp.region (oc (ov (.ptr 1001 0 [0]) (fp hN underlying71 0 tyS69 (.box 71 (.d (B9 a0))) (ot 1 (pt 1001))))
      (oc (lb hN 71 (.d (B9 a0)) (C1 a0.fWithdraw) tyS69 (ad (.list 4 (a0.fWithdraw.map A2))) (ot 6 (.ptr 1001 0 [0])))
      (oc (OpJ.val (v':=(i6 (a0.fWithdraw.length:Int))) (by simp) (lenD underlying69 (L rfl) (ot 7 (C1 a0.fWithdraw))))
      (oc (gtr (L rfl) (ot 8 (i6 (a0.fWithdraw.length:Int))) (ii 256))
      (oc (mv hN (ot 9 (bo (decide (256<(a0.fWithdraw.length:Int))))))
      (oc (op hN 10 (.ptr 1001 12 [2]) (ov (.ptr 1001 12 [2]) (fp hN underlying71 12 tyS69 (.box 71 (.d (B9 a0))) (ot 1 (pt 1001)))) (OptL.keep rfl OptL.nil) (GuardV.plain _))
      (oc (op hN 10 (C1 a0.fAnnounce) (lb hN 71 (.d (B9 a0)) (C1 a0.fAnnounce) tyS69 (ad (.list 4 (a0.fAnnounce.map A2))) (ot 11 (.ptr 1001 12 [2]))) (OptL.opt OptL.nil) (GuardV.plain _))
      (oc (op hN 10 (i6 (a0.fAnnounce.length:Int)) (OpJ.val (v':=(i6 (a0.fAnnounce.length:Int))) (by simp) (lenD underlying69 (L rfl) (ot 12 (C1 a0.fAnnounce)))) (OptL.opt OptL.nil) (GuardV.plain _))
      (oc (op hN 10 (bo (decide (256<(a0.fAnnounce.length:Int)))) (gtr (L rfl) (ot 13 (i6 (a0.fAnnounce.length:Int))) (ii 256)) (OptL.opt OptL.nil) (GuardV.plain _))
      (oc (pickOr rfl (L rfl) (ot 10 (bo (decide (256<(a0.fWithdraw.length:Int))))) (ot 14 (.opt ((decide (256<(a0.fWithdraw.length:Int)))==false) (bo (decide (256<(a0.fAnnounce.length:Int)))))))
      (oc (OpJ.val (v':=.d (.bool false)) (by rw [hg11]<;>rfl) (mv hN (ot 15 (bo ((decide (256<(a0.fWithdraw.length:Int))) || (decide (256<(a0.fAnnounce.length:Int))))))))
      (oc (gd 16 (ov (.ptr 1001 0 [0]) (fp hN underlying71 0 tyS69 (.box 71 (.d (B9 a0))) (ot 1 (pt 1001)))))
      (oc (gd 16 (lb hN 71 (.d (B9 a0)) (C1 a0.fWithdraw) tyS69 (ad (.list 4 (a0.fWithdraw.map A2))) (ot 17 (.ptr 1001 0 [0]))))
      (oc (gd 16 (mv hN (ot 3 (.func 144 []))))
      (oc (gd 16 (cf hB fnOk145 (K3 a0.fWithdraw r12 hr12) (L rfl) (OpdL.cons (ot 18 (C1 a0.fWithdraw)) (OpdL.cons (ot 19 (.func 144 [])) OpdL.nil))))
      (oc (pickF (L rfl) (ot 16 (bo false)) (ot 20 (bo r12)))
      (oc (OpJ.val (v':=.d (.bool false)) (by rw [hg13]<;>rfl) (mv hN (ot 21 (bo r12))))
      (oc (gd 22 (ov (.ptr 1001 12 [2]) (fp hN underlying71 12 tyS69 (.box 71 (.d (B9 a0))) (ot 1 (pt 1001)))))
      (oc (gd 22 (lb hN 71 (.d (B9 a0)) (C1 a0.fAnnounce) tyS69 (ad (.list 4 (a0.fAnnounce.map A2))) (ot 23 (.ptr 1001 12 [2]))))
      (oc (gd 22 (mv hN (ot 3 (.func 144 []))))
      (oc (gd 22 (cf hB fnOk145 (K3 a0.fAnnounce r14 hr14) (L rfl) (OpdL.cons (ot 24 (C1 a0.fAnnounce)) (OpdL.cons (ot 25 (.func 144 [])) OpdL.nil))))
      (oc (pickF (L rfl) (ot 22 (bo false)) (ot 26 (bo r14)))
      (oc (OpJ.val (v':=.d (.bool false)) (by rw [hg15]<;>rfl) (mv hN (ot 27 (bo r14))))
      (oc (gd 28 (lb hN 71 (.d (B9 a0)) (.d (B9 a0)) tyS71 (At.here _) (ot 1 (pt 1001))))
      (oc (gd 28 (OpJ.callFn hB fnOk146 (A8g a0 r16 hr16) [(500,500)] (by kernel_rfl) (L rfl) (by kernel_rfl) (OpdL.cons (ot 29 (.d (B9 a0))) OpdL.nil)))
      (oc (gd 28 (OpJ.not (L rfl) (ot 30 (bo r16))))
      (oc (pickF (L rfl) (ot 28 (bo false)) (ot 31 (bo (!r16))))
      (OpJs.nil)))))))))))))))))))))))))))) (by rfl) (by rfl) ?_
     exact hjj8 _ h _ _ (mp [] _ _ hB)
def A2e (a0:A1):Option (Bool) :=
 jn (fun m8:Bool =>
 some m8) (fun j9 =>
 (Y3 a0.fPrefix).bind fun r10 =>
 (if r10=true then
 (if (!a0.fHas)=true then
 j9 true
 else
 (if (((a0.fRoute.fPrefix.fAddr.fV6==a0.fPrefix.fAddr.fV6)&&((a0.fRoute.fPrefix.fAddr.fHi==a0.fPrefix.fAddr.fHi)&&((a0.fRoute.fPrefix.fAddr.fLo==a0.fPrefix.fAddr.fLo)&&true)))&&((a0.fRoute.fPrefix.fLen==a0.fPrefix.fLen)&&true))=true then
 (I2 a0.fRoute.fAttrs [a0.fPrefix] true).bind fun r14 =>
 (M1 r14).bind fun r15 =>
 j9 r15
 else
 j9 false))
 else
 j9 false))
theorem A33 (a0:A1) (r:Bool) (h:A2e a0=some r):AC Tryz.prog 75 [(.d (A6 a0))] [(500,(.know (globD 0 (.imap gv0))))] (.d (.bool r)) [(500,some (.know (globD 0 (.imap gv0))))]:=by
 refine ac2 Tryz.func75 rfl rfl fun B hB hN L => ?_
 delta A2e at h
 apply sr (cg (OpJ.box hB (nm:=1001) (by decide) (by simp) rfl (L rfl) (q 0)) rfl (c (assign (L rfl) (Opd.bool false)) rfl cn))
 apply seq
 refine AWp.cut h (fun m8:Bool=>([(2,(bo m8))]:EL)) (fun m8:Bool=>([(500,some (.know (globD 0 (.imap gv0))))]:OL)) (fun m8 h E' O' hmat => ?_) (fun j9 hjj9 h => ?_)
 ·apply A3
  refine ghost hmat ?_
  apply ret
  obtain rfl:=oi h
  exact rt (kp [(2,_)] [(500,some _)] hB rfl rfl (by rfl)) [(bo m8)] (rT rN) rfl
 ·obtain⟨r10,hr10,h⟩:=bindS h
  rcases bft r10 with hg11 | hg11
  ·have h:=B6 hg11 h
   rcases bft (!a0.fHas) with hg12 | hg12
   ·have h:=B6 hg12 h
    apply rg (c (fo 1001 1 [1] hN underlying43 1 tyS33 (q 1)) rfl (c (la hN 43 tyS33 (q 3)) rfl (cg (cf hB fnOk112 (U5 a0.fPrefix r10 hr10) (L rfl) (OpdL.cons (q 4) OpdL.nil)) rfl (c (OpJ.val (v':=.d (.bool true)) (by rw [hg11]<;>rfl) (mv hN (q 5))) rfl (c (gd 6 (fo 1001 5 [2] hN underlying43 5 tyS4 (q 1))) rfl (c (gd 6 (la hN 43 tyS4 (q 7))) rfl (c (gd 6 (OpJ.not (L rfl) (q 8))) rfl (c (gd 6 (OpJ.val (v':=.d (.bool true)) (by rw [hg12]<;>rfl) (mv hN (q 9)))) rfl (ks 10 (L rfl) (ks 10 (L rfl) (ks 10 (L rfl) (ks 10 (L rfl) (ks 10 (L rfl) (ks 10 (L rfl) (ks 10 (L rfl) (cg (sV 17 (L rfl)) rfl (cg (sV 17 (L rfl)) rfl (cg (sV 17 (L rfl)) rfl (cg (sV 17 (L rfl)) rfl (cg (sV 17 (L rfl)) rfl (cg (sV 17 (L rfl)) rfl (cg (sV 17 (L rfl)) rfl (cg (sV 17 (L rfl)) rfl (ks 10 (L rfl) (c (gd 6 (pickT (L rfl) (q 10) (Opd.bool true))) rfl (c (pickT (L rfl) (q 6) (q 27)) rfl (c (assign (L rfl) (q 28)) rfl cn)))))))))))))))))))))))))))
    exact hjj9 _ h _ _ (mp [] _ _ hB)
   ·have h:=B7 hg12 h
    rcases bft (((a0.fRoute.fPrefix.fAddr.fV6==a0.fPrefix.fAddr.fV6)&&((a0.fRoute.fPrefix.fAddr.fHi==a0.fPrefix.fAddr.fHi)&&((a0.fRoute.fPrefix.fAddr.fLo==a0.fPrefix.fAddr.fLo)&&true)))&&((a0.fRoute.fPrefix.fLen==a0.fPrefix.fLen)&&true)) with hg13 | hg13
    ·have h:=B6 hg13 h
     obtain⟨r14,hr14,h⟩:=bindS h
     obtain⟨r15,hr15,h⟩:=bindS h
     refine AWp.region (oc (ov (.ptr 1001 1 [1]) (fp hN underlying43 1 tyS33 (.box 43 (.d (A6 a0))) (ot 1 (pt 1001))))
      (oc (lb hN 43 (.d (A6 a0)) (.d (A2 a0.fPrefix)) tyS33 (ad (A2 a0.fPrefix)) (ot 3 (.ptr 1001 1 [1])))
      (oc (cf hB fnOk112 (U5 a0.fPrefix r10 hr10) (L rfl) (OpdL.cons (ot 4 (.d (A2 a0.fPrefix))) OpdL.nil))
      (oc (OpJ.val (v':=.d (.bool true)) (by rw [hg11]<;>rfl) (mv hN (ot 5 (bo r10))))
      (oc (gd 6 (ov (.ptr 1001 5 [2]) (fp hN underlying43 5 tyS4 (.box 43 (.d (A6 a0))) (ot 1 (pt 1001)))))
      (oc (gd 6 (lb hN 43 (.d (A6 a0)) (bo a0.fHas) tyS4 (ad (.bool a0.fHas)) (ot 7 (.ptr 1001 5 [2]))))
      (oc (gd 6 (OpJ.not (L rfl) (ot 8 (bo a0.fHas))))
      (oc (gd 6 (OpJ.val (v':=.d (.bool false)) (by rw [hg12]<;>rfl) (mv hN (ot 9 (bo (!a0.fHas))))))
      (oc (gd 10 (ov (.ptr 1001 6 [3]) (fp hN underlying43 6 tyS41 (.box 43 (.d (A6 a0))) (ot 1 (pt 1001)))))
      (oc (gd 10 (ov (.ptr 1001 6 [3,0]) (fp hN underlying41 0 tyS33 (.box 43 (.d (A6 a0))) (ot 11 (.ptr 1001 6 [3])))))
      (oc (gd 10 (lb hN 43 (.d (A6 a0)) (.d (A2 a0.fRoute.fPrefix)) tyS33 (At.dst1 (f:=(E5 a0.fRoute)) (by rfl) (by rfl) (ad (A2 a0.fRoute.fPrefix)) (by first | rfl | omega)) (ot 12 (.ptr 1001 6 [3,0]))))
      (oc (gd 10 (ov (.ptr 1001 1 [1]) (fp hN underlying43 1 tyS33 (.box 43 (.d (A6 a0))) (ot 1 (pt 1001)))))
      (oc (gd 10 (lb hN 43 (.d (A6 a0)) (.d (A2 a0.fPrefix)) tyS33 (ad (A2 a0.fPrefix)) (ot 14 (.ptr 1001 1 [1]))))
      (oc (gd 10 (OpJ.eqlD (h:=3) (feq33 a0.fRoute.fPrefix a0.fPrefix) eqg33 ⟨rfl,rfl⟩ (by rfl) (L rfl) (ot 13 (.d (A2 a0.fRoute.fPrefix))) (ot 15 (.d (A2 a0.fPrefix)))))
      (oc (gd 10 (OpJ.val (v':=.d (.bool true)) (by rw [hg13]<;>rfl) (mv hN (ot 16 (bo (((a0.fRoute.fPrefix.fAddr.fV6==a0.fPrefix.fAddr.fV6)&&((a0.fRoute.fPrefix.fAddr.fHi==a0.fPrefix.fAddr.fHi)&&((a0.fRoute.fPrefix.fAddr.fLo==a0.fPrefix.fAddr.fLo)&&true)))&&((a0.fRoute.fPrefix.fLen==a0.fPrefix.fLen)&&true)))))))
      (oc (gd 17 (ov (.ptr 1001 6 [3]) (fp hN underlying43 6 tyS41 (.box 43 (.d (A6 a0))) (ot 1 (pt 1001)))))
      (oc (gd 17 (ov (.ptr 1001 11 [3,2]) (fp hN underlying41 5 tyS39 (.box 43 (.d (A6 a0))) (ot 18 (.ptr 1001 6 [3])))))
      (oc (gd 17 (lb hN 43 (.d (A6 a0)) (.d (A8 a0.fRoute.fAttrs)) tyS39 (At.dst1 (f:=(E5 a0.fRoute)) (by rfl) (by rfl) (ad (A8 a0.fRoute.fAttrs)) (by first | rfl | omega)) (ot 19 (.ptr 1001 11 [3,2]))))
      (oc (gd 17 (ov (.ptr 1001 1 [1]) (fp hN underlying43 1 tyS33 (.box 43 (.d (A6 a0))) (ot 1 (pt 1001)))))
      (oc (gd 17 (lb hN 43 (.d (A6 a0)) (.d (A2 a0.fPrefix)) tyS33 (ad (A2 a0.fPrefix)) (ot 21 (.ptr 1001 1 [1]))))
      (oc (gd 17 (buildSlice underlying69 tyS33 tyZD33 (by rfl) (by decide) (by decide) (Opds.cons (ot 22 (.d (A2 a0.fPrefix))) Opds.nil) (by kernel_rfl) (es:=([(A2 a0.fPrefix)]:List D)) (by rfl) (by rfl) (by kernel_rfl) (by simp) (L rfl)))
      (oc (gd 17 (cf hB fnOk114 (U7 a0.fRoute.fAttrs [a0.fPrefix] true r14 hr14) (L rfl) (OpdL.cons (ot 20 (.d (A8 a0.fRoute.fAttrs))) (OpdL.cons (ot 23 (C1 [a0.fPrefix])) (OpdL.cons (Opd.bool true) OpdL.nil)))))
      (oc (gd 17 (OpJ.callFn hB fnOk113 (A1x r14 r15 hr15) [(500,500)] (by kernel_rfl) (L rfl) (by kernel_rfl) (OpdL.cons (ot 24 (.d (B9 r14))) OpdL.nil)))
      (oc (gd 10 (pickT (L rfl) (ot 17 (bo true)) (ot 25 (bo r15))))
      (oc (gd 6 (pickF (L rfl) (ot 10 (bo false)) (ot 26 (bo r15))))
      (oc (pickT (L rfl) (ot 6 (bo true)) (ot 27 (bo r15)))
      (oc (assign (L rfl) (ot 28 (bo r15)))
      (OpJs.nil)))))))))))))))))))))))))))) (by rfl) (by rfl) ?_
     exact hjj9 _ h _ _ (mp [] _ _ hB)
    ·have h:=B7 hg13 h
     apply rg (c (fo 1001 1 [1] hN underlying43 1 tyS33 (q 1)) rfl (c (la hN 43 tyS33 (q 3)) rfl (cg (cf hB fnOk112 (U5 a0.fPrefix r10 hr10) (L rfl) (OpdL.cons (q 4) OpdL.nil)) rfl (c (OpJ.val (v':=.d (.bool true)) (by rw [hg11]<;>rfl) (mv hN (q 5))) rfl (c (gd 6 (fo 1001 5 [2] hN underlying43 5 tyS4 (q 1))) rfl (c (gd 6 (la hN 43 tyS4 (q 7))) rfl (c (gd 6 (OpJ.not (L rfl) (q 8))) rfl (c (gd 6 (OpJ.val (v':=.d (.bool false)) (by rw [hg12]<;>rfl) (mv hN (q 9)))) rfl (c (gd 10 (fo 1001 6 [3] hN underlying43 6 tyS41 (q 1))) rfl (c (gd 10 (fo 1001 6 [3,0] hN underlying41 0 tyS33 (q 11))) rfl (c (gd 10 (lb hN 43 _ _ tyS33 (At.dst1 (by rfl) (by rfl) (ad _) (by first | rfl | omega)) (q 12))) rfl (c (gd 10 (fo 1001 1 [1] hN underlying43 1 tyS33 (q 1))) rfl (c (gd 10 (la hN 43 tyS33 (q 14))) rfl (c (gd 10 (OpJ.eqlD (h:=3) (feq33 a0.fRoute.fPrefix a0.fPrefix) eqg33 ⟨rfl,rfl⟩ (by rfl) (L rfl) (q 13) (q 15))) rfl (c (gd 10 (OpJ.val (v':=.d (.bool false)) (by rw [hg13]<;>rfl) (mv hN (q 16)))) rfl (ks 17 (L rfl) (ks 17 (L rfl) (ks 17 (L rfl) (ks 17 (L rfl) (ks 17 (L rfl) (ks 17 (L rfl) (ks 17 (L rfl) (ks 17 (L rfl) (c (gd 10 (pickF (L rfl) (q 17) (Opd.bool false))) rfl (c (gd 6 (pickF (L rfl) (q 10) (q 26))) rfl (c (pickT (L rfl) (q 6) (q 27)) rfl (c (assign (L rfl) (q 28)) rfl cn)))))))))))))))))))))))))))
     exact hjj9 _ h _ _ (mp [] _ _ hB)
  ·have h:=B7 hg11 h
   apply rg (c (fo 1001 1 [1] hN underlying43 1 tyS33 (q 1)) rfl (c (la hN 43 tyS33 (q 3)) rfl (cg (cf hB fnOk112 (U5 a0.fPrefix r10 hr10) (L rfl) (OpdL.cons (q 4) OpdL.nil)) rfl (c (OpJ.val (v':=.d (.bool false)) (by rw [hg11]<;>rfl) (mv hN (q 5))) rfl (ks 6 (L rfl) (ks 6 (L rfl) (ks 6 (L rfl) (ks 6 (L rfl) (cg (sV 10 (L rfl)) rfl (cg (sV 10 (L rfl)) rfl (cg (sV 10 (L rfl)) rfl (cg (sV 10 (L rfl)) rfl (cg (sV 10 (L rfl)) rfl (cg (sV 10 (L rfl)) rfl (cg (sV 10 (L rfl)) rfl (cg (sV 17 (L rfl)) rfl (cg (sV 17 (L rfl)) rfl (cg (sV 17 (L rfl)) rfl (cg (sV 17 (L rfl)) rfl (cg (sV 17 (L rfl)) rfl (cg (sV 17 (L rfl)) rfl (cg (sV 17 (L rfl)) rfl (cg (sV 17 (L rfl)) rfl (cg (sV 10 (L rfl)) rfl (ks 6 (L rfl) (c (pickF (L rfl) (q 6) (Opd.bool false)) rfl (c (assign (L rfl) (q 28)) rfl cn)))))))))))))))))))))))))))
   exact hjj9 _ h _ _ (mp [] _ _ hB)
def A0c (a0:E7):Option (Int) :=
 (if a0.fV6=true then
 some 1
 else
 some 0)
theorem A4s (a0:E7) (r:Int) (h:A0c a0=some r):AC Tryz.prog 109 [(.d (C5 a0))] [] (.d (.int .i64 r)) []:=by
 refine AC.of_code2 Tryz.func109 rfl rfl (Nat.le_of_ble_eq_true (by rfl)) fun B hB hN => ?_
 delta A0c at h
 apply sr (cg (OpJ.box hB (nm:=1001) (by decide) (by simp) rfl (ltN hN rfl) (q 0)) rfl (c (assign (ltN hN rfl) (ii 0)) rfl cn))
 apply seq
 apply sr (c (fo 1001 0 [0] hN underlying31 0 tyS4 (q 1)) rfl (c (la hN 31 tyS4 (q 3)) rfl cn))
 apply AWp.cond rfl<;>intro hg1
 ·have h:=B6 hg1 h
  apply sr (c (assign (ltN hN rfl) (ii 1)) rfl cn)
  apply ret
  apply D4
  obtain rfl:=oi h
  exact rt (kp [(2,_)] [] hB rfl rfl (by rfl)) [(i6 1)] (rT rN) rfl
 ·have h:=B7 hg1 h
  apply AWp.skip
  apply A3
  apply sr (c (assign (ltN hN rfl) (ii 0)) rfl cn)
  apply ret
  obtain rfl:=oi h
  exact rt (kp [(2,_)] [] hB rfl rfl (by rfl)) [(i6 0)] (rT rN) rfl
def A2q (a0:Int):Option (Bool) :=
 some (a0 != a0)
theorem A4t (a0:Int) (r:Bool) (h:A2q a0=some r):AC Tryz.prog 140 [(.d (.int .u64 a0))] [] (.d (.bool r)) []:=by
 refine AC.of_code2 Tryz.func140 rfl rfl (Nat.le_of_ble_eq_true (by rfl)) fun B hB hN => ?_
 delta A2q at h
 apply sr (c (assign (ltN hN rfl) (Opd.bool false)) rfl cn)
 apply sr (c (mv hN (q 0)) rfl (c (mv hN (q 0)) rfl (c (neqI (ltN hN rfl) (q 3) (q 4)) rfl (c (assign (ltN hN rfl) (q 5)) rfl cn))))
 apply ret
 obtain rfl:=oi h
 exact rt (kp [(2,_)] [] hB rfl rfl (by rfl)) [(bo (a0 != a0))] (rT rN) rfl
def Z8 (a0:Int) (a1:Int):Option (Int) :=
 (A2q a0).bind fun r1 =>
 (A2q a1).bind fun r2 =>
 (if r1=true then
 (if r2=true then
 some 0
 else
 some (-1))
 else
 (if r2=true then
 some 1
 else
 (if (decide (a0<a1))=true then
 some (-1)
 else
 (if (decide (a1<a0))=true then
 some 1
 else
 some 0))))
theorem A3h (a0:Int) (a1:Int) (r:Int) (h:Z8 a0 a1=some r):AC Tryz.prog 110 [(.d (.int .u64 a0)),(.d (.int .u64 a1))] [] (.d (.int .i64 r)) []:=by
 refine ac2 Tryz.func110 rfl rfl fun B hB hN L => ?_
 delta Z8 at h
 apply sr (c (assign (L rfl) (ii 0)) rfl cn)
 obtain⟨r1,hr1,h⟩:=bindS h
 apply sr (c (mv hN (q 0)) rfl (cg (cf hB fnOk140 (A4t a0 r1 hr1) (L rfl) (OpdL.cons (q 7) OpdL.nil)) rfl (c (assign (L rfl) (q 8)) rfl cn)))
 obtain⟨r2,hr2,h⟩:=bindS h
 apply sr (c (mv hN (q 1)) rfl (cg (cf hB fnOk140 (A4t a1 r2 hr2) (L rfl) (OpdL.cons (q 9) OpdL.nil)) rfl (c (assign (L rfl) (q 10)) rfl cn)))
 apply seq
 apply sr (c (mv hN (q 5)) rfl cn)
 apply AWp.cond rfl<;>intro hg3
 ·have h:=B6 hg3 h
  apply seq
  apply sr (c (mv hN (q 6)) rfl cn)
  apply AWp.cond rfl<;>intro hg4
  ·have h:=B6 hg4 h
   apply sr (c (assign (L rfl) (ii 0)) rfl cn)
   apply ret
   apply D4
   apply D4
   obtain rfl:=oi h
   exact rt (kp [(4,_)] [] hB rfl rfl (by rfl)) [(i6 0)] (rT rN) rfl
  ·have h:=B7 hg4 h
   apply AWp.skip
   apply A3
   apply sr (c (assign (L rfl) (ii (-1))) rfl cn)
   apply ret
   apply D4
   obtain rfl:=oi h
   exact rt (kp [(4,_)] [] hB rfl rfl (by rfl)) [(i6 (-1))] (rT rN) rfl
 ·have h:=B7 hg3 h
  apply AWp.skip
  apply A3
  apply seq
  apply sr (c (mv hN (q 6)) rfl cn)
  apply AWp.cond rfl<;>intro hg5
  ·have h:=B6 hg5 h
   apply sr (c (assign (L rfl) (ii 1)) rfl cn)
   apply ret
   apply D4
   obtain rfl:=oi h
   exact rt (kp [(4,_)] [] hB rfl rfl (by rfl)) [(i6 1)] (rT rN) rfl
  ·have h:=B7 hg5 h
   apply AWp.skip
   apply A3
   apply seq
   apply sr (c (mv hN (q 0)) rfl (c (mv hN (q 1)) rfl (c (lss (L rfl) (q 14) (q 15)) rfl cn)))
   apply AWp.cond rfl<;>intro hg6
   ·have h:=B6 hg6 h
    apply sr (c (assign (L rfl) (ii (-1))) rfl cn)
    apply ret
    apply D4
    obtain rfl:=oi h
    exact rt (kp [(4,_)] [] hB rfl rfl (by rfl)) [(i6 (-1))] (rT rN) rfl
   ·have h:=B7 hg6 h
    apply AWp.skip
    apply A3
    apply seq
    apply sr (c (mv hN (q 0)) rfl (c (mv hN (q 1)) rfl (c (gtr (L rfl) (q 17) (q 18)) rfl cn)))
    apply AWp.cond rfl<;>intro hg7
    ·have h:=B6 hg7 h
     apply sr (c (assign (L rfl) (ii 1)) rfl cn)
     apply ret
     apply D4
     obtain rfl:=oi h
     exact rt (kp [(4,_)] [] hB rfl rfl (by rfl)) [(i6 1)] (rT rN) rfl
    ·have h:=B7 hg7 h
     apply AWp.skip
     apply A3
     apply sr (c (assign (L rfl) (ii 0)) rfl cn)
     apply ret
     obtain rfl:=oi h
     exact rt (kp [(4,_)] [] hB rfl rfl (by rfl)) [(i6 0)] (rT rN) rfl
def A4u (a0:E7) (a1:E7):Option (Int) :=
 (A0c a0).bind fun r1 =>
 (A0c a1).bind fun r2 =>
 (J3 r1 r2).bind fun r3 =>
 (Z8 a0.fHi a1.fHi).bind fun r4 =>
 (Z8 a0.fLo a1.fLo).bind fun r5 =>
 (A4m ([r3,r4,r5]:List Int)).bind fun r6 =>
 some r6
theorem B18 (a0:E7) (a1:E7) (r:Int) (h:A4u a0 a1=some r):AC Tryz.prog 73 [(.d (C5 a0)),(.d (C5 a1))] [] (.d (.int .i64 r)) []:=by
 refine AC.of_code2 Tryz.func73 rfl rfl (Nat.le_of_ble_eq_true (by rfl)) fun B hB hN => ?_
 delta A4u at h
 apply sr (cg (OpJ.box hB (nm:=1002) (by decide) (by simp) rfl (ltN hN rfl) (q 0)) rfl (cg (OpJ.box hB (nm:=1003) (by decide) (by simp) rfl (ltN hN rfl) (q 1)) rfl (c (assign (ltN hN rfl) (ii 0)) rfl cn)))
 obtain⟨r1,hr1,h⟩:=bindS h
 obtain⟨r2,hr2,h⟩:=bindS h
 obtain⟨r3,hr3,h⟩:=bindS h
 obtain⟨r4,hr4,h⟩:=bindS h
 obtain⟨r5,hr5,h⟩:=bindS h
 obtain⟨r6,hr6,h⟩:=bindS h
 apply sd (c (lb hN 31 _ _ tyS31 (At.here _) (q 2)) rfl (cg (OpJ.callFn hB fnOk109 (A4s a0 r1 hr1) [] (by kernel_rfl) (ltN hN rfl) (by kernel_rfl) (OpdL.cons (q 5) OpdL.nil)) rfl (c (lb hN 31 _ _ tyS31 (At.here _) (q 3)) rfl (cg (OpJ.callFn hB fnOk109 (A4s a1 r2 hr2) [] (by kernel_rfl) (ltN hN rfl) (by kernel_rfl) (OpdL.cons (q 7) OpdL.nil)) rfl (cg (OpJ.callFn hB fnOk74 (K4 r1 r2 r3 hr3) [] (by kernel_rfl) (ltN hN rfl) (by kernel_rfl) (OpdL.cons (q 6) (OpdL.cons (q 8) OpdL.nil))) rfl (c (fo 1002 1 [1] hN underlying31 1 tyS29 (q 2)) rfl (c (la hN 31 tyS29 (q 10)) rfl (c (fo 1003 1 [1] hN underlying31 1 tyS29 (q 3)) rfl (c (la hN 31 tyS29 (q 12)) rfl (cg (OpJ.callFn hB fnOk110 (A3h a0.fHi a1.fHi r4 hr4) [] (by kernel_rfl) (ltN hN rfl) (by kernel_rfl) (OpdL.cons (q 11) (OpdL.cons (q 13) OpdL.nil))) rfl (c (fo 1002 2 [2] hN underlying31 2 tyS29 (q 2)) rfl (c (la hN 31 tyS29 (q 15)) rfl (c (fo 1003 2 [2] hN underlying31 2 tyS29 (q 3)) rfl (c (la hN 31 tyS29 (q 17)) rfl (cg (OpJ.callFn hB fnOk110 (A3h a0.fLo a1.fLo r5 hr5) [] (by kernel_rfl) (ltN hN rfl) (by kernel_rfl) (OpdL.cons (q 16) (OpdL.cons (q 18) OpdL.nil))) rfl (c (buildSlice underlying27 tyS3 tyZD3 (by rfl) (by decide) (by decide) (Opds.cons (q 9) (Opds.cons (q 14) (Opds.cons (q 19) Opds.nil))) (by kernel_rfl) (es:=([(.int .i64 r3),(.int .i64 r4),(.int .i64 r5)]:List D)) (by rfl) (by rfl) (by kernel_rfl) (by simp) (ltN hN rfl)) rfl (cg (OpJ.callFn hB fnOk72 (A56 ([r3,r4,r5]:List Int) r6 hr6) [] (by kernel_rfl) (ltN hN rfl) (by kernel_rfl) (OpdL.cons (q 20) OpdL.nil)) rfl (c (assign (ltN hN rfl) (q 21)) rfl cn)))))))))))))))))) (by kernel_rfl) (by kernel_rfl)
 apply ret
 obtain rfl:=oi h
 exact rt (kp [(4,_)] [] hB rfl rfl (by rfl)) [(i6 r6)] (rT rN) rfl
def A1d (a0:A0) (a1:A0):Option (Int) :=
 (A4u a0.fAddr a1.fAddr).bind fun r1 =>
 (J3 a0.fLen a1.fLen).bind fun r2 =>
 (A4m ([r1,r2]:List Int)).bind fun r3 =>
 some r3
theorem A5m (a0:A0) (a1:A0) (r:Int) (h:A1d a0 a1=some r):AC Tryz.prog 45 [(.d (A2 a0)),(.d (A2 a1))] [] (.d (.int .i64 r)) []:=by
 refine AC.of_code2 Tryz.func45 rfl rfl (Nat.le_of_ble_eq_true (by rfl)) fun B hB hN => ?_
 delta A1d at h
 apply sr (cg (OpJ.box hB (nm:=1002) (by decide) (by simp) rfl (ltN hN rfl) (q 0)) rfl (cg (OpJ.box hB (nm:=1003) (by decide) (by simp) rfl (ltN hN rfl) (q 1)) rfl (c (assign (ltN hN rfl) (ii 0)) rfl cn)))
 obtain⟨r1,hr1,h⟩:=bindS h
 obtain⟨r2,hr2,h⟩:=bindS h
 obtain⟨r3,hr3,h⟩:=bindS h
 apply sd (c (fo 1002 0 [0] hN underlying33 0 tyS31 (q 2)) rfl (c (la hN 33 tyS31 (q 5)) rfl (c (fo 1003 0 [0] hN underlying33 0 tyS31 (q 3)) rfl (c (la hN 33 tyS31 (q 7)) rfl (cg (OpJ.callFn hB fnOk73 (B18 a0.fAddr a1.fAddr r1 hr1) [] (by kernel_rfl) (ltN hN rfl) (by kernel_rfl) (OpdL.cons (q 6) (OpdL.cons (q 8) OpdL.nil))) rfl (c (fo 1002 3 [1] hN underlying33 3 tyS3 (q 2)) rfl (c (la hN 33 tyS3 (q 10)) rfl (c (fo 1003 3 [1] hN underlying33 3 tyS3 (q 3)) rfl (c (la hN 33 tyS3 (q 12)) rfl (cg (OpJ.callFn hB fnOk74 (K4 a0.fLen a1.fLen r2 hr2) [] (by kernel_rfl) (ltN hN rfl) (by kernel_rfl) (OpdL.cons (q 11) (OpdL.cons (q 13) OpdL.nil))) rfl (c (buildSlice underlying27 tyS3 tyZD3 (by rfl) (by decide) (by decide) (Opds.cons (q 9) (Opds.cons (q 14) Opds.nil)) (by kernel_rfl) (es:=([(.int .i64 r1),(.int .i64 r2)]:List D)) (by rfl) (by rfl) (by kernel_rfl) (by simp) (ltN hN rfl)) rfl (cg (OpJ.callFn hB fnOk72 (A56 ([r1,r2]:List Int) r3 hr3) [] (by kernel_rfl) (ltN hN rfl) (by kernel_rfl) (OpdL.cons (q 15) OpdL.nil)) rfl (c (assign (ltN hN rfl) (q 16)) rfl cn))))))))))))) (by kernel_rfl) (by kernel_rfl)
 apply ret
 obtain rfl:=oi h
 exact rt (kp [(4,_)] [] hB rfl rfl (by rfl)) [(i6 r3)] (rT rN) rfl
def Q1 (a0:(List Int)) (a1:(List Int)) (s2:Int):Option (((Unit)⊕(Unit))⊕(Int)) :=
 (if (decide (s2<(a0.length:Int)))=true then
 (idx a0 s2).bind fun x14 =>
 (idx a1 s2).bind fun x15 =>
 (if (x14 != x15)=true then
 some (.inl (.inl ()))
 else
 some (.inr (w64 (s2+1))))
 else
 some (.inl (.inr ())))
def A0u (a0:(List Int)) (a1:(List Int)):Option (Bool) :=
 (if ((a0.length:Int) != (a1.length:Int))=true then
 some false
 else
 (loop (Q1 a0 a1) 0).bind fun x17=>match x17 with
 | (.inl _) =>
  some false
 | (.inr _) =>
  some true)
theorem A7q (a0:(List Int)) (a1:(List Int)) (r:Bool) (h:A0u a0 a1=some r):AC Tryz.prog 116 [(.d (.list 1 (a0.map (eI .i64)))),(.d (.list 1 (a1.map (eI .i64))))] [] (.d (.bool r)) []:=by
 refine ac2 Tryz.func116 rfl rfl fun B hB hN L => ?_
 delta A0u at h
 apply sr (c (assign (L rfl) (Opd.bool false)) rfl cn)
 apply seq
 apply sr (c (mv hN (q 0)) rfl (c (OpJ.val (v':=(i6 (a0.length:Int))) (by simp) (lenD underlying27 (L rfl) (q 6))) rfl (c (mv hN (q 1)) rfl (c (OpJ.val (v':=(i6 (a1.length:Int))) (by simp) (lenD underlying27 (L rfl) (q 8))) rfl (c (neqI (L rfl) (q 7) (q 9)) rfl cn)))))
 apply AWp.cond rfl<;>intro hg1
 ·have h:=B6 hg1 h
  apply sr (c (assign (L rfl) (Opd.bool false)) rfl cn)
  apply ret
  apply D4
  obtain rfl:=oi h
  exact rt (kp [(4,_)] [] hB rfl rfl (by rfl)) [(bo false)] (rT rN) rfl
 ·have h:=B7 hg1 h
  apply AWp.skip
  apply A3
  apply seq
  apply sr (c (mv hN (q 0)) rfl (c (OpJ.val (v':=(i6 (a0.length:Int))) (by simp) (lenD underlying27 (L rfl) (q 11))) rfl (c (mv hN (ii 0)) rfl cn)))
  apply block
  obtain⟨x17,hx18,h⟩:=bindS h
  refine lg (Q1 a0 a1) (fun s2:Int=>([(0,(qI_1 a0)),(1,(qI_1 a1)),(12,(i6 (a0.length:Int))),(13,(i6 s2))]:EL)) (fun s2:Int=>([]:OL)) (fun(x:(Unit)⊕(Unit)) e E' O'=>match x with | (.inl _p)=>e = .ret∧Mat B E' O' ([(4,(bo false))]:EL) ([]:OL) | (.inr _p)=>e = .exit 0∧Mat B E' O' ([]:EL) ([]:OL)) hx18 (mp [] _ _ hB) (fun s2 y h => ?_) (fun e E' O' hR => ?_)
  ·unfold Q1 at h
   apply sr (c (lss (L rfl) (q 13) (q 12)) rfl cn)
   apply seq
   apply AWp.cond rfl<;>intro hg13
   ·have h:=B6 hg13 h
    apply AWp.skip
    apply A3
    apply seq
    apply block
    apply sr (c (mv hN (q 13)) rfl (c (assign (L rfl) (q 15)) rfl cn))
    obtain⟨_,hx14,h⟩:=bindS h
    obtain⟨_,hx15,h⟩:=bindS h
    apply sd (c (mv hN (q 0)) rfl (c (mv hN (q 5)) rfl (c (indexD underlying27 tyS3 (A4 hx14).1 (C8 (eI .i64) (A4 hx14).2) (L rfl) (q 16) (q 17)) rfl (c (loadD tyS3 (by rfl) (by rfl) (L rfl) (q 18)) rfl (c (mv hN (q 1)) rfl (c (mv hN (q 5)) rfl (c (indexD underlying27 tyS3 (A4 hx15).1 (C8 (eI .i64) (A4 hx15).2) (L rfl) (q 20) (q 21)) rfl (c (loadD tyS3 (by rfl) (by rfl) (L rfl) (q 22)) rfl (c (neqI (L rfl) (q 19) (q 23)) rfl cn))))))))) (by kernel_rfl) (by kernel_rfl)
    apply AWp.cond rfl<;>intro hg16
    ·have h:=B6 hg16 h
     apply sr (c (assign (L rfl) (Opd.bool false)) rfl cn)
     apply ret
     apply F7
     apply D4
     obtain rfl:=oi h
     exact⟨(fun hc=>by cases hc),rfl,(mp [] _ _ hB)⟩
    ·have h:=B7 hg16 h
     apply AWp.skip
     apply F8
     apply A3
     apply rg (c (add6 (L rfl) (q 13) (ii 1)) rfl (c (mv hN (q 25)) rfl cn))
     obtain rfl:=oi h
     exact⟨rfl,(mp [] _ _ hB)⟩
   ·have h:=B7 hg13 h
    apply AWp.exit
    apply F6
    obtain rfl:=oi h
    exact⟨(fun hc=>by cases hc),rfl,(mp [] _ _ hB)⟩
  ·rcases x17 with _ | _
   ·obtain⟨rfl,hmat⟩:=hR
    apply F7
    apply D4
    obtain rfl:=oi h
    exact rt (Mat.trans hmat (mp [] [(4,(bo false))] [] hB)) [(bo false)] (rT rN) rfl
   ·obtain⟨rfl,hmat⟩:=hR
    apply E4
    apply A3
    refine ghost hmat ?_
    apply sr (c (assign (L rfl) (Opd.bool true)) rfl cn)
    apply ret
    obtain rfl:=oi h
    exact rt (kp [(4,_)] [] hB rfl rfl (by rfl)) [(bo true)] (rT rN) rfl
def Z9 (a0:B2) (a1:B2):Option (Bool) :=
 jn (fun m3:Bool =>
 some m3) (fun j4 =>
 (if (a0.fSet==a1.fSet)=true then
 (A0u a0.fASNs a1.fASNs).bind fun r6 =>
 j4 r6
 else
 j4 false))
theorem A6n (a0:B2) (a1:B2) (r:Bool) (h:Z9 a0 a1=some r):AC Tryz.prog 115 [(.d (B4 a0)),(.d (B4 a1))] [] (.d (.bool r)) []:=by
 refine ac2 Tryz.func115 rfl rfl fun B hB hN L => ?_
 delta Z9 at h
 apply sr (cg (OpJ.box hB (nm:=1002) (by decide) (by simp) rfl (L rfl) (q 0)) rfl (cg (OpJ.box hB (nm:=1003) (by decide) (by simp) rfl (L rfl) (q 1)) rfl (c (assign (L rfl) (Opd.bool false)) rfl cn)))
 apply seq
 refine AWp.cut h (fun m3:Bool=>([(4,(bo m3))]:EL)) (fun m3:Bool=>([]:OL)) (fun m3 h E' O' hmat => ?_) (fun j4 hjj4 h => ?_)
 ·apply A3
  refine ghost hmat ?_
  apply ret
  obtain rfl:=oi h
  exact rt (kp [(4,_)] [] hB rfl rfl (by rfl)) [(bo m3)] (rT rN) rfl
 ·rcases bft (a0.fSet==a1.fSet) with hg5 | hg5
  ·have h:=B6 hg5 h
   obtain⟨r6,hr6,h⟩:=bindS h
   apply rg (c (fo 1002 0 [0] hN underlying75 0 tyS4 (q 2)) rfl (c (la hN 75 tyS4 (q 5)) rfl (c (fo 1003 0 [0] hN underlying75 0 tyS4 (q 3)) rfl (c (la hN 75 tyS4 (q 7)) rfl (c (OpJ.eqlB underlying4 (L rfl) (q 6) (q 8)) rfl (c (OpJ.val (v':=.d (.bool true)) (by rw [hg5]<;>rfl) (mv hN (q 9))) rfl (c (gd 10 (fo 1002 1 [1] hN underlying75 1 tyS27 (q 2))) rfl (c (gd 10 (la hN 75 tyS27 (q 11))) rfl (c (gd 10 (fo 1003 1 [1] hN underlying75 1 tyS27 (q 3))) rfl (c (gd 10 (la hN 75 tyS27 (q 13))) rfl (cg (gd 10 (cf hB fnOk116 (A7q a0.fASNs a1.fASNs r6 hr6) (L rfl) (OpdL.cons (q 12) (OpdL.cons (q 14) OpdL.nil)))) rfl (c (pickT (L rfl) (q 10) (q 15)) rfl (c (assign (L rfl) (q 16)) rfl cn)))))))))))))
   exact hjj4 _ h _ _ (mp [] _ _ hB)
  ·have h:=B7 hg5 h
   apply rg (c (fo 1002 0 [0] hN underlying75 0 tyS4 (q 2)) rfl (c (la hN 75 tyS4 (q 5)) rfl (c (fo 1003 0 [0] hN underlying75 0 tyS4 (q 3)) rfl (c (la hN 75 tyS4 (q 7)) rfl (c (OpJ.eqlB underlying4 (L rfl) (q 6) (q 8)) rfl (c (OpJ.val (v':=.d (.bool false)) (by rw [hg5]<;>rfl) (mv hN (q 9))) rfl (ks 10 (L rfl) (ks 10 (L rfl) (ks 10 (L rfl) (ks 10 (L rfl) (ks 10 (L rfl) (c (pickF (L rfl) (q 10) (Opd.bool false)) rfl (c (assign (L rfl) (q 16)) rfl cn)))))))))))))
   exact hjj4 _ h _ _ (mp [] _ _ hB)
def K6 (a0:(List B2)) (a1:(List B2)) (s2:Int):Option (((Unit)⊕(Unit))⊕(Int)) :=
 (if (decide (s2<(a0.length:Int)))=true then
 (idx a0 s2).bind fun x16 =>
 (idx a1 s2).bind fun x17 =>
 (Z9 x16 x17).bind fun r18 =>
 (if (!r18)=true then
 some (.inl (.inl ()))
 else
 some (.inr (w64 (s2+1))))
 else
 some (.inl (.inr ())))
def S5 (a0:(List B2)) (a1:(List B2)):Option (Bool) :=
 (if ((a0.length:Int) != (a1.length:Int))=true then
 some false
 else
 (loop (K6 a0 a1) 0).bind fun x20=>match x20 with
 | (.inl _) =>
  some false
 | (.inr _) =>
  some true)
theorem R9 (a0:(List B2)) (a1:(List B2)) (r:Bool) (h:S5 a0 a1=some r):AC Tryz.prog 119 [(.d (.list 2 (a0.map B4))),(.d (.list 2 (a1.map B4))),(.func 115 [])] [] (.d (.bool r)) []:=by
 refine ac2 Tryz.func119 rfl rfl fun B hB hN L => ?_
 delta S5 at h
 apply sr (c (assign (L rfl) (Opd.bool false)) rfl cn)
 apply seq
 apply sr (c (mv hN (q 0)) rfl (c (OpJ.val (v':=(i6 (a0.length:Int))) (by simp) (lenD underlying34 (L rfl) (q 10))) rfl (c (mv hN (q 1)) rfl (c (OpJ.val (v':=(i6 (a1.length:Int))) (by simp) (lenD underlying34 (L rfl) (q 12))) rfl (c (neqI (L rfl) (q 11) (q 13)) rfl cn)))))
 apply AWp.cond rfl<;>intro hg1
 ·have h:=B6 hg1 h
  apply sr (c (assign (L rfl) (Opd.bool false)) rfl cn)
  apply ret
  apply D4
  obtain rfl:=oi h
  exact rt (kp [(6,_)] [] hB rfl rfl (by rfl)) [(bo false)] (rT rN) rfl
 ·have h:=B7 hg1 h
  apply AWp.skip
  apply A3
  apply seq
  apply sr (c (mv hN (q 0)) rfl (c (OpJ.val (v':=(i6 (a0.length:Int))) (by simp) (lenD underlying34 (L rfl) (q 15))) rfl (c (mv hN (ii 0)) rfl cn)))
  apply block
  obtain⟨x20,hx21,h⟩:=bindS h
  refine lg (K6 a0 a1) (fun s2:Int=>([(1,(D0 a1)),(2,(.func 115 [])),(15,(D0 a0)),(16,(i6 (a0.length:Int))),(17,(i6 s2))]:EL)) (fun s2:Int=>([]:OL)) (fun(x:(Unit)⊕(Unit)) e E' O'=>match x with | (.inl _p)=>e = .ret∧Mat B E' O' ([(6,(bo false))]:EL) ([]:OL) | (.inr _p)=>e = .exit 0∧Mat B E' O' ([]:EL) ([]:OL)) hx21 (mp [] _ _ hB) (fun s2 y h => ?_) (fun e E' O' hR => ?_)
  ·unfold K6 at h
   apply sr (c (lss (L rfl) (q 17) (q 16)) rfl cn)
   apply seq
   apply AWp.cond rfl<;>intro hg15
   ·have h:=B6 hg15 h
    apply AWp.skip
    apply A3
    apply seq
    apply block
    obtain⟨x16,hx16,h⟩:=bindS h
    apply sr (c (mv hN (q 17)) rfl (c (indexD underlying34 tyS75 (A4 hx16).1 (C8 B4 (A4 hx16).2) (L rfl) (q 15) (q 17)) rfl (c (loadD tyS75 (by rfl) (by rfl) (L rfl) (q 20)) rfl (cg (alloc hB tyZ75 (nm:=1008) (by decide) (L rfl)) rfl (c (assign (L rfl) (q 19)) rfl (cg (sB tyS75 (q 8) (q 21)) rfl cn))))))
    obtain⟨x17,hx17,h⟩:=bindS h
    apply sr (c (mv hN (q 1)) rfl (c (mv hN (q 7)) rfl (c (indexD underlying34 tyS75 (A4 hx17).1 (C8 B4 (A4 hx17).2) (L rfl) (q 22) (q 23)) rfl (c (loadD tyS75 (by rfl) (by rfl) (L rfl) (q 24)) rfl (cg (alloc hB tyZ75 (nm:=1009) (by decide) (L rfl)) rfl (cg (sB tyS75 (q 9) (q 25)) rfl cn))))))
    obtain⟨r18,hr18,h⟩:=bindS h
    apply sr (c (mv hN (q 2)) rfl (c (lb hN 75 _ _ tyS75 (At.here _) (q 8)) rfl (c (lb hN 75 _ _ tyS75 (At.here _) (q 9)) rfl (cg (callVal (args:=[(.d (B4 x16)),(.d (B4 x17))]) (caps:=[]) hB fnOk115 [] (A6n x16 x17 r18 hr18) (by kernel_rfl) (L rfl) (by kernel_rfl) (by kernel_rfl) (OpdL.cons (q 27) (OpdL.cons (q 28) OpdL.nil))) rfl (c (OpJ.not (L rfl) (q 29)) rfl cn)))))
    apply AWp.cond rfl<;>intro hg19
    ·have h:=B6 hg19 h
     apply sr (c (assign (L rfl) (Opd.bool false)) rfl cn)
     apply ret
     apply F7
     apply D4
     obtain rfl:=oi h
     exact⟨(fun hc=>by cases hc),rfl,(mp [] _ _ hB)⟩
    ·have h:=B7 hg19 h
     apply AWp.skip
     apply F8
     apply A3
     apply rg (c (add6 (L rfl) (q 17) (ii 1)) rfl (c (mv hN (q 31)) rfl cn))
     obtain rfl:=oi h
     exact⟨rfl,(mp [] _ _ hB)⟩
   ·have h:=B7 hg15 h
    apply AWp.exit
    apply F6
    obtain rfl:=oi h
    exact⟨(fun hc=>by cases hc),rfl,(mp [] _ _ hB)⟩
  ·rcases x20 with _ | _
   ·obtain⟨rfl,hmat⟩:=hR
    apply F7
    apply D4
    obtain rfl:=oi h
    exact rt (Mat.trans hmat (mp [] [(6,(bo false))] [] hB)) [(bo false)] (rT rN) rfl
   ·obtain⟨rfl,hmat⟩:=hR
    apply E4
    apply A3
    refine ghost hmat ?_
    apply sr (c (assign (L rfl) (Opd.bool true)) rfl cn)
    apply ret
    obtain rfl:=oi h
    exact rt (kp [(6,_)] [] hB rfl rfl (by rfl)) [(bo true)] (rT rN) rfl
def V5 (a0:(List C6)) (a1:(List C6)) (s2:Int):Option (((Unit)⊕(Unit))⊕(Int)) :=
 (if (decide (s2<(a0.length:Int)))=true then
 (idx a0 s2).bind fun x14 =>
 (idx a1 s2).bind fun x15 =>
 (if (!((x14.fA==x15.fA)&&((x14.fB==x15.fB)&&true)))=true then
 some (.inl (.inl ()))
 else
 some (.inr (w64 (s2+1))))
 else
 some (.inl (.inr ())))
def X3 (a0:(List C6)) (a1:(List C6)):Option (Bool) :=
 (if ((a0.length:Int) != (a1.length:Int))=true then
 some false
 else
 (loop (V5 a0 a1) 0).bind fun x17=>match x17 with
 | (.inl _) =>
  some false
 | (.inr _) =>
  some true)
theorem A0v (a0:(List C6)) (a1:(List C6)) (r:Bool) (h:X3 a0 a1=some r):AC Tryz.prog 120 [(.d (.list 2 (a0.map B1))),(.d (.list 2 (a1.map B1)))] [] (.d (.bool r)) []:=by
 refine ac2 Tryz.func120 rfl rfl fun B hB hN L => ?_
 delta X3 at h
 apply sr (c (assign (L rfl) (Opd.bool false)) rfl cn)
 apply seq
 apply sr (c (mv hN (q 0)) rfl (c (OpJ.val (v':=(i6 (a0.length:Int))) (by simp) (lenD underlying35 (L rfl) (q 6))) rfl (c (mv hN (q 1)) rfl (c (OpJ.val (v':=(i6 (a1.length:Int))) (by simp) (lenD underlying35 (L rfl) (q 8))) rfl (c (neqI (L rfl) (q 7) (q 9)) rfl cn)))))
 apply AWp.cond rfl<;>intro hg1
 ·have h:=B6 hg1 h
  apply sr (c (assign (L rfl) (Opd.bool false)) rfl cn)
  apply ret
  apply D4
  obtain rfl:=oi h
  exact rt (kp [(4,_)] [] hB rfl rfl (by rfl)) [(bo false)] (rT rN) rfl
 ·have h:=B7 hg1 h
  apply AWp.skip
  apply A3
  apply seq
  apply sr (c (mv hN (q 0)) rfl (c (OpJ.val (v':=(i6 (a0.length:Int))) (by simp) (lenD underlying35 (L rfl) (q 11))) rfl (c (mv hN (ii 0)) rfl cn)))
  apply block
  obtain⟨x17,hx18,h⟩:=bindS h
  refine lg (V5 a0 a1) (fun s2:Int=>([(0,(B5 a0)),(1,(B5 a1)),(12,(i6 (a0.length:Int))),(13,(i6 s2))]:EL)) (fun s2:Int=>([]:OL)) (fun(x:(Unit)⊕(Unit)) e E' O'=>match x with | (.inl _p)=>e = .ret∧Mat B E' O' ([(4,(bo false))]:EL) ([]:OL) | (.inr _p)=>e = .exit 0∧Mat B E' O' ([]:EL) ([]:OL)) hx18 (mp [] _ _ hB) (fun s2 y h => ?_) (fun e E' O' hR => ?_)
  ·unfold V5 at h
   apply sr (c (lss (L rfl) (q 13) (q 12)) rfl cn)
   apply seq
   apply AWp.cond rfl<;>intro hg13
   ·have h:=B6 hg13 h
    apply AWp.skip
    apply A3
    apply seq
    apply block
    apply sr (c (mv hN (q 13)) rfl (c (assign (L rfl) (q 15)) rfl cn))
    obtain⟨x14,hx14,h⟩:=bindS h
    obtain⟨x15,hx15,h⟩:=bindS h
    apply sd (c (mv hN (q 0)) rfl (c (mv hN (q 5)) rfl (c (indexD underlying35 tyS132 (A4 hx14).1 (C8 B1 (A4 hx14).2) (L rfl) (q 16) (q 17)) rfl (c (loadD tyS132 (by rfl) (by rfl) (L rfl) (q 18)) rfl (c (mv hN (q 1)) rfl (c (mv hN (q 5)) rfl (c (indexD underlying35 tyS132 (A4 hx15).1 (C8 B1 (A4 hx15).2) (L rfl) (q 20) (q 21)) rfl (c (loadD tyS132 (by rfl) (by rfl) (L rfl) (q 22)) rfl (c (OpJ.neqD (h:=2) (feq132 x14 x15) eqg132 ⟨rfl,rfl⟩ (by rfl) (L rfl) (q 19) (q 23)) rfl cn))))))))) (by kernel_rfl) (by kernel_rfl)
    apply AWp.cond rfl<;>intro hg16
    ·have h:=B6 hg16 h
     apply sr (c (assign (L rfl) (Opd.bool false)) rfl cn)
     apply ret
     apply F7
     apply D4
     obtain rfl:=oi h
     exact⟨(fun hc=>by cases hc),rfl,(mp [] _ _ hB)⟩
    ·have h:=B7 hg16 h
     apply AWp.skip
     apply F8
     apply A3
     apply rg (c (add6 (L rfl) (q 13) (ii 1)) rfl (c (mv hN (q 25)) rfl cn))
     obtain rfl:=oi h
     exact⟨rfl,(mp [] _ _ hB)⟩
   ·have h:=B7 hg13 h
    apply AWp.exit
    apply F6
    obtain rfl:=oi h
    exact⟨(fun hc=>by cases hc),rfl,(mp [] _ _ hB)⟩
  ·rcases x17 with _ | _
   ·obtain⟨rfl,hmat⟩:=hR
    apply F7
    apply D4
    obtain rfl:=oi h
    exact rt (Mat.trans hmat (mp [] [(4,(bo false))] [] hB)) [(bo false)] (rT rN) rfl
   ·obtain⟨rfl,hmat⟩:=hR
    apply E4
    apply A3
    refine ghost hmat ?_
    apply sr (c (assign (L rfl) (Opd.bool true)) rfl cn)
    apply ret
    obtain rfl:=oi h
    exact rt (kp [(4,_)] [] hB rfl rfl (by rfl)) [(bo true)] (rT rN) rfl
def V6 (a0:(List G0)) (a1:(List G0)) (s2:Int):Option (((Unit)⊕(Unit))⊕(Int)) :=
 (if (decide (s2<(a0.length:Int)))=true then
 (idx a0 s2).bind fun x14 =>
 (idx a1 s2).bind fun x15 =>
 (if (!((x14.fA==x15.fA)&&((x14.fB==x15.fB)&&((x14.fC==x15.fC)&&true))))=true then
 some (.inl (.inl ()))
 else
 some (.inr (w64 (s2+1))))
 else
 some (.inl (.inr ())))
def X4 (a0:(List G0)) (a1:(List G0)):Option (Bool) :=
 (if ((a0.length:Int) != (a1.length:Int))=true then
 some false
 else
 (loop (V6 a0 a1) 0).bind fun x17=>match x17 with
 | (.inl _) =>
  some false
 | (.inr _) =>
  some true)
theorem A2r (a0:(List G0)) (a1:(List G0)) (r:Bool) (h:X4 a0 a1=some r):AC Tryz.prog 121 [(.d (.list 3 (a0.map C7))),(.d (.list 3 (a1.map C7)))] [] (.d (.bool r)) []:=by
 refine ac2 Tryz.func121 rfl rfl fun B hB hN L => ?_
 delta X4 at h
 apply sr (c (assign (L rfl) (Opd.bool false)) rfl cn)
 apply seq
 apply sr (c (mv hN (q 0)) rfl (c (OpJ.val (v':=(i6 (a0.length:Int))) (by simp) (lenD underlying36 (L rfl) (q 6))) rfl (c (mv hN (q 1)) rfl (c (OpJ.val (v':=(i6 (a1.length:Int))) (by simp) (lenD underlying36 (L rfl) (q 8))) rfl (c (neqI (L rfl) (q 7) (q 9)) rfl cn)))))
 apply AWp.cond rfl<;>intro hg1
 ·have h:=B6 hg1 h
  apply sr (c (assign (L rfl) (Opd.bool false)) rfl cn)
  apply ret
  apply D4
  obtain rfl:=oi h
  exact rt (kp [(4,_)] [] hB rfl rfl (by rfl)) [(bo false)] (rT rN) rfl
 ·have h:=B7 hg1 h
  apply AWp.skip
  apply A3
  apply seq
  apply sr (c (mv hN (q 0)) rfl (c (OpJ.val (v':=(i6 (a0.length:Int))) (by simp) (lenD underlying36 (L rfl) (q 11))) rfl (c (mv hN (ii 0)) rfl cn)))
  apply block
  obtain⟨x17,hx18,h⟩:=bindS h
  refine lg (V6 a0 a1) (fun s2:Int=>([(0,(D6 a0)),(1,(D6 a1)),(12,(i6 (a0.length:Int))),(13,(i6 s2))]:EL)) (fun s2:Int=>([]:OL)) (fun(x:(Unit)⊕(Unit)) e E' O'=>match x with | (.inl _p)=>e = .ret∧Mat B E' O' ([(4,(bo false))]:EL) ([]:OL) | (.inr _p)=>e = .exit 0∧Mat B E' O' ([]:EL) ([]:OL)) hx18 (mp [] _ _ hB) (fun s2 y h => ?_) (fun e E' O' hR => ?_)
  ·unfold V6 at h
   apply sr (c (lss (L rfl) (q 13) (q 12)) rfl cn)
   apply seq
   apply AWp.cond rfl<;>intro hg13
   ·have h:=B6 hg13 h
    apply AWp.skip
    apply A3
    apply seq
    apply block
    apply sr (c (mv hN (q 13)) rfl (c (assign (L rfl) (q 15)) rfl cn))
    obtain⟨x14,hx14,h⟩:=bindS h
    obtain⟨x15,hx15,h⟩:=bindS h
    apply sd (c (mv hN (q 0)) rfl (c (mv hN (q 5)) rfl (c (indexD underlying36 tyS134 (A4 hx14).1 (C8 C7 (A4 hx14).2) (L rfl) (q 16) (q 17)) rfl (c (loadD tyS134 (by rfl) (by rfl) (L rfl) (q 18)) rfl (c (mv hN (q 1)) rfl (c (mv hN (q 5)) rfl (c (indexD underlying36 tyS134 (A4 hx15).1 (C8 C7 (A4 hx15).2) (L rfl) (q 20) (q 21)) rfl (c (loadD tyS134 (by rfl) (by rfl) (L rfl) (q 22)) rfl (c (OpJ.neqD (h:=2) (feq134 x14 x15) eqg134 ⟨rfl,rfl⟩ (by rfl) (L rfl) (q 19) (q 23)) rfl cn))))))))) (by kernel_rfl) (by kernel_rfl)
    apply AWp.cond rfl<;>intro hg16
    ·have h:=B6 hg16 h
     apply sr (c (assign (L rfl) (Opd.bool false)) rfl cn)
     apply ret
     apply F7
     apply D4
     obtain rfl:=oi h
     exact⟨(fun hc=>by cases hc),rfl,(mp [] _ _ hB)⟩
    ·have h:=B7 hg16 h
     apply AWp.skip
     apply F8
     apply A3
     apply rg (c (add6 (L rfl) (q 13) (ii 1)) rfl (c (mv hN (q 25)) rfl cn))
     obtain rfl:=oi h
     exact⟨rfl,(mp [] _ _ hB)⟩
   ·have h:=B7 hg13 h
    apply AWp.exit
    apply F6
    obtain rfl:=oi h
    exact⟨(fun hc=>by cases hc),rfl,(mp [] _ _ hB)⟩
  ·rcases x17 with _ | _
   ·obtain⟨rfl,hmat⟩:=hR
    apply F7
    apply D4
    obtain rfl:=oi h
    exact rt (Mat.trans hmat (mp [] [(4,(bo false))] [] hB)) [(bo false)] (rT rN) rfl
   ·obtain⟨rfl,hmat⟩:=hR
    apply E4
    apply A3
    refine ghost hmat ?_
    apply sr (c (assign (L rfl) (Opd.bool true)) rfl cn)
    apply ret
    obtain rfl:=oi h
    exact rt (kp [(4,_)] [] hB rfl rfl (by rfl)) [(bo true)] (rT rN) rfl
def A0w (a0:(List Int)) (a1:(List Int)) (s2:Int):Option (((Unit)⊕(Unit))⊕(Int)) :=
 (if (decide (s2<(a0.length:Int)))=true then
 (idx a0 s2).bind fun x14 =>
 (idx a1 s2).bind fun x15 =>
 (if (x14 != x15)=true then
 some (.inl (.inl ()))
 else
 some (.inr (w64 (s2+1))))
 else
 some (.inl (.inr ())))
def A2f (a0:(List Int)) (a1:(List Int)):Option (Bool) :=
 (if ((a0.length:Int) != (a1.length:Int))=true then
 some false
 else
 (loop (A0w a0 a1) 0).bind fun x17=>match x17 with
 | (.inl _) =>
  some false
 | (.inr _) =>
  some true)
theorem A67 (a0:(List Int)) (a1:(List Int)) (r:Bool) (h:A2f a0 a1=some r):AC Tryz.prog 118 [(.d (.list 1 (a0.map (eI .u8)))),(.d (.list 1 (a1.map (eI .u8))))] [] (.d (.bool r)) []:=by
 refine ac2 Tryz.func118 rfl rfl fun B hB hN L => ?_
 delta A2f at h
 apply sr (c (assign (L rfl) (Opd.bool false)) rfl cn)
 apply seq
 apply sr (c (mv hN (q 0)) rfl (c (OpJ.val (v':=(i6 (a0.length:Int))) (by simp) (lenD underlying76 (L rfl) (q 6))) rfl (c (mv hN (q 1)) rfl (c (OpJ.val (v':=(i6 (a1.length:Int))) (by simp) (lenD underlying76 (L rfl) (q 8))) rfl (c (neqI (L rfl) (q 7) (q 9)) rfl cn)))))
 apply AWp.cond rfl<;>intro hg1
 ·have h:=B6 hg1 h
  apply sr (c (assign (L rfl) (Opd.bool false)) rfl cn)
  apply ret
  apply D4
  obtain rfl:=oi h
  exact rt (kp [(4,_)] [] hB rfl rfl (by rfl)) [(bo false)] (rT rN) rfl
 ·have h:=B7 hg1 h
  apply AWp.skip
  apply A3
  apply seq
  apply sr (c (mv hN (q 0)) rfl (c (OpJ.val (v':=(i6 (a0.length:Int))) (by simp) (lenD underlying76 (L rfl) (q 11))) rfl (c (mv hN (ii 0)) rfl cn)))
  apply block
  obtain⟨x17,hx18,h⟩:=bindS h
  refine lg (A0w a0 a1) (fun s2:Int=>([(0,(.d (.list 1 (a0.map (eI .u8))))),(1,(.d (.list 1 (a1.map (eI .u8))))),(12,(i6 (a0.length:Int))),(13,(i6 s2))]:EL)) (fun s2:Int=>([]:OL)) (fun(x:(Unit)⊕(Unit)) e E' O'=>match x with | (.inl _p)=>e = .ret∧Mat B E' O' ([(4,(bo false))]:EL) ([]:OL) | (.inr _p)=>e = .exit 0∧Mat B E' O' ([]:EL) ([]:OL)) hx18 (mp [] _ _ hB) (fun s2 y h => ?_) (fun e E' O' hR => ?_)
  ·unfold A0w at h
   apply sr (c (lss (L rfl) (q 13) (q 12)) rfl cn)
   apply seq
   apply AWp.cond rfl<;>intro hg13
   ·have h:=B6 hg13 h
    apply AWp.skip
    apply A3
    apply seq
    apply block
    apply sr (c (mv hN (q 13)) rfl (c (assign (L rfl) (q 15)) rfl cn))
    obtain⟨_,hx14,h⟩:=bindS h
    obtain⟨_,hx15,h⟩:=bindS h
    apply sd (c (mv hN (q 0)) rfl (c (mv hN (q 5)) rfl (c (indexD underlying76 tyS5 (A4 hx14).1 (C8 (eI .u8) (A4 hx14).2) (L rfl) (q 16) (q 17)) rfl (c (loadD tyS5 (by rfl) (by rfl) (L rfl) (q 18)) rfl (c (mv hN (q 1)) rfl (c (mv hN (q 5)) rfl (c (indexD underlying76 tyS5 (A4 hx15).1 (C8 (eI .u8) (A4 hx15).2) (L rfl) (q 20) (q 21)) rfl (c (loadD tyS5 (by rfl) (by rfl) (L rfl) (q 22)) rfl (c (neqI (L rfl) (q 19) (q 23)) rfl cn))))))))) (by kernel_rfl) (by kernel_rfl)
    apply AWp.cond rfl<;>intro hg16
    ·have h:=B6 hg16 h
     apply sr (c (assign (L rfl) (Opd.bool false)) rfl cn)
     apply ret
     apply F7
     apply D4
     obtain rfl:=oi h
     exact⟨(fun hc=>by cases hc),rfl,(mp [] _ _ hB)⟩
    ·have h:=B7 hg16 h
     apply AWp.skip
     apply F8
     apply A3
     apply rg (c (add6 (L rfl) (q 13) (ii 1)) rfl (c (mv hN (q 25)) rfl cn))
     obtain rfl:=oi h
     exact⟨rfl,(mp [] _ _ hB)⟩
   ·have h:=B7 hg13 h
    apply AWp.exit
    apply F6
    obtain rfl:=oi h
    exact⟨(fun hc=>by cases hc),rfl,(mp [] _ _ hB)⟩
  ·rcases x17 with _ | _
   ·obtain⟨rfl,hmat⟩:=hR
    apply F7
    apply D4
    obtain rfl:=oi h
    exact rt (Mat.trans hmat (mp [] [(4,(bo false))] [] hB)) [(bo false)] (rT rN) rfl
   ·obtain⟨rfl,hmat⟩:=hR
    apply E4
    apply A3
    refine ghost hmat ?_
    apply sr (c (assign (L rfl) (Opd.bool true)) rfl cn)
    apply ret
    obtain rfl:=oi h
    exact rt (kp [(4,_)] [] hB rfl rfl (by rfl)) [(bo true)] (rT rN) rfl
def A34 (a0:A7) (a1:A7):Option (Bool) :=
 jn (fun m3:Bool =>
 some m3) (fun j4 =>
 (if ((a0.fFlags==a1.fFlags)&&(a0.fType==a1.fType))=true then
 (A2f a0.fData a1.fData).bind fun r6 =>
 j4 r6
 else
 j4 false))
theorem A6o (a0:A7) (a1:A7) (r:Bool) (h:A34 a0 a1=some r):AC Tryz.prog 117 [(.d (A5 a0)),(.d (A5 a1))] [] (.d (.bool r)) []:=by
 refine ac2 Tryz.func117 rfl rfl fun B hB hN L => ?_
 delta A34 at h
 apply sr (cg (OpJ.box hB (nm:=1002) (by decide) (by simp) rfl (L rfl) (q 0)) rfl (cg (OpJ.box hB (nm:=1003) (by decide) (by simp) rfl (L rfl) (q 1)) rfl (c (assign (L rfl) (Opd.bool false)) rfl cn)))
 apply seq
 refine AWp.cut h (fun m3:Bool=>([(4,(bo m3))]:EL)) (fun m3:Bool=>([]:OL)) (fun m3 h E' O' hmat => ?_) (fun j4 hjj4 h => ?_)
 ·apply A3
  refine ghost hmat ?_
  apply ret
  obtain rfl:=oi h
  exact rt (kp [(4,_)] [] hB rfl rfl (by rfl)) [(bo m3)] (rT rN) rfl
 ·rcases bft ((a0.fFlags==a1.fFlags)&&(a0.fType==a1.fType)) with hg5 | hg5
  ·have h:=B6 hg5 h
   obtain⟨r6,hr6,h⟩:=bindS h
   apply rg (c (fo 1002 0 [0] hN underlying78 0 tyS3 (q 2)) rfl (c (la hN 78 tyS3 (q 5)) rfl (c (fo 1003 0 [0] hN underlying78 0 tyS3 (q 3)) rfl (c (la hN 78 tyS3 (q 7)) rfl (c (eqlI (L rfl) (q 6) (q 8)) rfl (c (mv hN (q 9)) rfl (c (oq hN 10 (fo 1002 1 [1] hN underlying78 1 tyS3 (q 2)) (OptL.keep (by rfl) OptL.nil) (GuardV.plain _)) rfl (c (oq hN 10 (la hN 78 tyS3 (q 11)) (OptL.opt OptL.nil) (GuardV.plain _)) rfl (c (oq hN 10 (fo 1003 1 [1] hN underlying78 1 tyS3 (q 3)) (OptL.keep (by rfl) OptL.nil) (GuardV.plain _)) rfl (c (oq hN 10 (la hN 78 tyS3 (q 13)) (OptL.opt OptL.nil) (GuardV.plain _)) rfl (c (oq hN 10 (eqlI (L rfl) (q 12) (q 14)) (OptL.opt (OptL.opt OptL.nil)) (GuardV.plain _)) rfl (c (pickAnd rfl (L rfl) (q 10) (q 15)) rfl (c (OpJ.val (v':=.d (.bool true)) (by rw [hg5]<;>rfl) (mv hN (q 16))) rfl (c (gd 17 (fo 1002 2 [2] hN underlying78 2 tyS76 (q 2))) rfl (c (gd 17 (la hN 78 tyS76 (q 18))) rfl (c (gd 17 (fo 1003 2 [2] hN underlying78 2 tyS76 (q 3))) rfl (c (gd 17 (la hN 78 tyS76 (q 20))) rfl (cg (gd 17 (cf hB fnOk118 (A67 a0.fData a1.fData r6 hr6) (L rfl) (OpdL.cons (q 19) (OpdL.cons (q 21) OpdL.nil)))) rfl (c (pickT (L rfl) (q 17) (q 22)) rfl (c (assign (L rfl) (q 23)) rfl cn))))))))))))))))))))
   exact hjj4 _ h _ _ (mp [] _ _ hB)
  ·have h:=B7 hg5 h
   apply rg (c (fo 1002 0 [0] hN underlying78 0 tyS3 (q 2)) rfl (c (la hN 78 tyS3 (q 5)) rfl (c (fo 1003 0 [0] hN underlying78 0 tyS3 (q 3)) rfl (c (la hN 78 tyS3 (q 7)) rfl (c (eqlI (L rfl) (q 6) (q 8)) rfl (c (mv hN (q 9)) rfl (c (oq hN 10 (fo 1002 1 [1] hN underlying78 1 tyS3 (q 2)) (OptL.keep (by rfl) OptL.nil) (GuardV.plain _)) rfl (c (oq hN 10 (la hN 78 tyS3 (q 11)) (OptL.opt OptL.nil) (GuardV.plain _)) rfl (c (oq hN 10 (fo 1003 1 [1] hN underlying78 1 tyS3 (q 3)) (OptL.keep (by rfl) OptL.nil) (GuardV.plain _)) rfl (c (oq hN 10 (la hN 78 tyS3 (q 13)) (OptL.opt OptL.nil) (GuardV.plain _)) rfl (c (oq hN 10 (eqlI (L rfl) (q 12) (q 14)) (OptL.opt (OptL.opt OptL.nil)) (GuardV.plain _)) rfl (c (pickAnd rfl (L rfl) (q 10) (q 15)) rfl (c (OpJ.val (v':=.d (.bool false)) (by rw [hg5]<;>rfl) (mv hN (q 16))) rfl (ks 17 (L rfl) (ks 17 (L rfl) (ks 17 (L rfl) (ks 17 (L rfl) (ks 17 (L rfl) (c (pickF (L rfl) (q 17) (Opd.bool false)) rfl (c (assign (L rfl) (q 23)) rfl cn))))))))))))))))))))
   exact hjj4 _ h _ _ (mp [] _ _ hB)
def P7 (a0:(List A7)) (a1:(List A7)) (s2:Int):Option (((Unit)⊕(Unit))⊕(Int)) :=
 (if (decide (s2<(a0.length:Int)))=true then
 (idx a0 s2).bind fun x16 =>
 (idx a1 s2).bind fun x17 =>
 (A34 x16 x17).bind fun r18 =>
 (if (!r18)=true then
 some (.inl (.inl ()))
 else
 some (.inr (w64 (s2+1))))
 else
 some (.inl (.inr ())))
def P2 (a0:(List A7)) (a1:(List A7)):Option (Bool) :=
 (if ((a0.length:Int) != (a1.length:Int))=true then
 some false
 else
 (loop (P7 a0 a1) 0).bind fun x20=>match x20 with
 | (.inl _) =>
  some false
 | (.inr _) =>
  some true)
theorem A46 (a0:(List A7)) (a1:(List A7)) (r:Bool) (h:P2 a0 a1=some r):AC Tryz.prog 122 [(.d (.list 3 (a0.map A5))),(.d (.list 3 (a1.map A5))),(.func 117 [])] [] (.d (.bool r)) []:=by
 refine ac2 Tryz.func122 rfl rfl fun B hB hN L => ?_
 delta P2 at h
 apply sr (c (assign (L rfl) (Opd.bool false)) rfl cn)
 apply seq
 apply sr (c (mv hN (q 0)) rfl (c (OpJ.val (v':=(i6 (a0.length:Int))) (by simp) (lenD underlying37 (L rfl) (q 10))) rfl (c (mv hN (q 1)) rfl (c (OpJ.val (v':=(i6 (a1.length:Int))) (by simp) (lenD underlying37 (L rfl) (q 12))) rfl (c (neqI (L rfl) (q 11) (q 13)) rfl cn)))))
 apply AWp.cond rfl<;>intro hg1
 ·have h:=B6 hg1 h
  apply sr (c (assign (L rfl) (Opd.bool false)) rfl cn)
  apply ret
  apply D4
  obtain rfl:=oi h
  exact rt (kp [(6,_)] [] hB rfl rfl (by rfl)) [(bo false)] (rT rN) rfl
 ·have h:=B7 hg1 h
  apply AWp.skip
  apply A3
  apply seq
  apply sr (c (mv hN (q 0)) rfl (c (OpJ.val (v':=(i6 (a0.length:Int))) (by simp) (lenD underlying37 (L rfl) (q 15))) rfl (c (mv hN (ii 0)) rfl cn)))
  apply block
  obtain⟨x20,hx21,h⟩:=bindS h
  refine lg (P7 a0 a1) (fun s2:Int=>([(1,(E8 a1)),(2,(.func 117 [])),(15,(E8 a0)),(16,(i6 (a0.length:Int))),(17,(i6 s2))]:EL)) (fun s2:Int=>([]:OL)) (fun(x:(Unit)⊕(Unit)) e E' O'=>match x with | (.inl _p)=>e = .ret∧Mat B E' O' ([(6,(bo false))]:EL) ([]:OL) | (.inr _p)=>e = .exit 0∧Mat B E' O' ([]:EL) ([]:OL)) hx21 (mp [] _ _ hB) (fun s2 y h => ?_) (fun e E' O' hR => ?_)
  ·unfold P7 at h
   apply sr (c (lss (L rfl) (q 17) (q 16)) rfl cn)
   apply seq
   apply AWp.cond rfl<;>intro hg15
   ·have h:=B6 hg15 h
    apply AWp.skip
    apply A3
    apply seq
    apply block
    obtain⟨x16,hx16,h⟩:=bindS h
    apply sr (c (mv hN (q 17)) rfl (c (indexD underlying37 tyS78 (A4 hx16).1 (C8 A5 (A4 hx16).2) (L rfl) (q 15) (q 17)) rfl (c (loadD tyS78 (by rfl) (by rfl) (L rfl) (q 20)) rfl (cg (alloc hB tyZ78 (nm:=1008) (by decide) (L rfl)) rfl (c (assign (L rfl) (q 19)) rfl (cg (sB tyS78 (q 8) (q 21)) rfl cn))))))
    obtain⟨x17,hx17,h⟩:=bindS h
    apply sr (c (mv hN (q 1)) rfl (c (mv hN (q 7)) rfl (c (indexD underlying37 tyS78 (A4 hx17).1 (C8 A5 (A4 hx17).2) (L rfl) (q 22) (q 23)) rfl (c (loadD tyS78 (by rfl) (by rfl) (L rfl) (q 24)) rfl (cg (alloc hB tyZ78 (nm:=1009) (by decide) (L rfl)) rfl (cg (sB tyS78 (q 9) (q 25)) rfl cn))))))
    obtain⟨r18,hr18,h⟩:=bindS h
    apply sr (c (mv hN (q 2)) rfl (c (lb hN 78 _ _ tyS78 (At.here _) (q 8)) rfl (c (lb hN 78 _ _ tyS78 (At.here _) (q 9)) rfl (cg (callVal (args:=[(.d (A5 x16)),(.d (A5 x17))]) (caps:=[]) hB fnOk117 [] (A6o x16 x17 r18 hr18) (by kernel_rfl) (L rfl) (by kernel_rfl) (by kernel_rfl) (OpdL.cons (q 27) (OpdL.cons (q 28) OpdL.nil))) rfl (c (OpJ.not (L rfl) (q 29)) rfl cn)))))
    apply AWp.cond rfl<;>intro hg19
    ·have h:=B6 hg19 h
     apply sr (c (assign (L rfl) (Opd.bool false)) rfl cn)
     apply ret
     apply F7
     apply D4
     obtain rfl:=oi h
     exact⟨(fun hc=>by cases hc),rfl,(mp [] _ _ hB)⟩
    ·have h:=B7 hg19 h
     apply AWp.skip
     apply F8
     apply A3
     apply rg (c (add6 (L rfl) (q 17) (ii 1)) rfl (c (mv hN (q 31)) rfl cn))
     obtain rfl:=oi h
     exact⟨rfl,(mp [] _ _ hB)⟩
   ·have h:=B7 hg15 h
    apply AWp.exit
    apply F6
    obtain rfl:=oi h
    exact⟨(fun hc=>by cases hc),rfl,(mp [] _ _ hB)⟩
  ·rcases x20 with _ | _
   ·obtain⟨rfl,hmat⟩:=hR
    apply F7
    apply D4
    obtain rfl:=oi h
    exact rt (Mat.trans hmat (mp [] [(6,(bo false))] [] hB)) [(bo false)] (rT rN) rfl
   ·obtain⟨rfl,hmat⟩:=hR
    apply E4
    apply A3
    refine ghost hmat ?_
    apply sr (c (assign (L rfl) (Opd.bool true)) rfl cn)
    apply ret
    obtain rfl:=oi h
    exact rt (kp [(6,_)] [] hB rfl rfl (by rfl)) [(bo true)] (rT rN) rfl
def A0d (a0:D9) (a1:D9):Option (Bool) :=
 jn (fun m9:Bool =>
 some m9) (fun j10 =>
 (if (((((a0.fOrigin==a1.fOrigin)&&((a0.fNext.fV6==a1.fNext.fV6)&&((a0.fNext.fHi==a1.fNext.fHi)&&((a0.fNext.fLo==a1.fNext.fLo)&&true))))&&(a0.fMED==a1.fMED))&&(a0.fPref==a1.fPref))&&(a0.fOTC==a1.fOTC))=true then
 (S5 a0.fPath a1.fPath).bind fun r12 =>
 (if r12=true then
 (X3 a0.fCommunities a1.fCommunities).bind fun r14 =>
 (if r14=true then
 (X4 a0.fLarge a1.fLarge).bind fun r16 =>
 (if r16=true then
 (P2 a0.fOther a1.fOther).bind fun r18 =>
 j10 r18
 else
 j10 false)
 else
 j10 false)
 else
 j10 false)
 else
 j10 false))
theorem A8j (a0:D9) (a1:D9) (r:Bool) (h:A0d a0 a1=some r):AC Tryz.prog 78 [(.d (A8 a0)),(.d (A8 a1))] [] (.d (.bool r)) []:=by
 refine ac2 Tryz.func78 rfl rfl fun B hB hN L => ?_
 delta A0d at h
 apply sr (cg (OpJ.box hB (nm:=1002) (by decide) (by simp) rfl (L rfl) (q 0)) rfl (cg (OpJ.box hB (nm:=1003) (by decide) (by simp) rfl (L rfl) (q 1)) rfl (c (assign (L rfl) (Opd.bool false)) rfl cn)))
 apply sr (c (assign (L rfl) (Opd.func 115)) rfl cn)
 apply sr (c (assign (L rfl) (Opd.func 117)) rfl cn)
 apply seq
 refine AWp.cut h (fun m9:Bool=>([(4,(bo m9))]:EL)) (fun m9:Bool=>([]:OL)) (fun m9 h E' O' hmat => ?_) (fun j10 hjj10 h => ?_)
 ·apply A3
  refine ghost hmat ?_
  apply ret
  obtain rfl:=oi h
  exact rt (kp [(4,_)] [] hB rfl rfl (by rfl)) [(bo m9)] (rT rN) rfl
 ·rcases bft (((((a0.fOrigin==a1.fOrigin)&&((a0.fNext.fV6==a1.fNext.fV6)&&((a0.fNext.fHi==a1.fNext.fHi)&&((a0.fNext.fLo==a1.fNext.fLo)&&true))))&&(a0.fMED==a1.fMED))&&(a0.fPref==a1.fPref))&&(a0.fOTC==a1.fOTC)) with hg11 | hg11
  ·have h:=B6 hg11 h
   obtain⟨r12,hr12,h⟩:=bindS h
   rcases bft r12 with hg13 | hg13
   ·have h:=B6 hg13 h
    obtain⟨r14,hr14,h⟩:=bindS h
    rcases bft r14 with hg15 | hg15
    ·have h:=B6 hg15 h
     obtain⟨r16,hr16,h⟩:=bindS h
     rcases bft r16 with hg17 | hg17
     ·have h:=B6 hg17 h
      obtain⟨r18,hr18,h⟩:=bindS h
      apply rg (c (fo 1002 0 [0] hN underlying39 0 tyS3 (q 2)) rfl (c (la hN 39 tyS3 (q 7)) rfl (c (fo 1003 0 [0] hN underlying39 0 tyS3 (q 3)) rfl (c (la hN 39 tyS3 (q 9)) rfl (c (eqlI (L rfl) (q 8) (q 10)) rfl (c (mv hN (q 11)) rfl (c (oq hN 12 (fo 1002 2 [2] hN underlying39 2 tyS31 (q 2)) (OptL.keep (by rfl) OptL.nil) (GuardV.plain _)) rfl (c (oq hN 12 (la hN 39 tyS31 (q 13)) (OptL.opt OptL.nil) (GuardV.plain _)) rfl (c (oq hN 12 (fo 1003 2 [2] hN underlying39 2 tyS31 (q 3)) (OptL.keep (by rfl) OptL.nil) (GuardV.plain _)) rfl (c (oq hN 12 (la hN 39 tyS31 (q 15)) (OptL.opt OptL.nil) (GuardV.plain _)) rfl (c (oq hN 12 (OpJ.eqlD (h:=2) (feq31 a0.fNext a1.fNext) eqg31 ⟨rfl,rfl⟩ (by rfl) (L rfl) (q 14) (q 16)) (OptL.opt (OptL.opt OptL.nil)) (GuardV.plain _)) rfl (c (pickAnd rfl (L rfl) (q 12) (q 17)) rfl (c (mv hN (q 18)) rfl (c (oq hN 19 (fo 1002 5 [3] hN underlying39 5 tyS3 (q 2)) (OptL.keep (by rfl) OptL.nil) (GuardV.plain _)) rfl (c (oq hN 19 (la hN 39 tyS3 (q 20)) (OptL.opt OptL.nil) (GuardV.plain _)) rfl (c (oq hN 19 (fo 1003 5 [3] hN underlying39 5 tyS3 (q 3)) (OptL.keep (by rfl) OptL.nil) (GuardV.plain _)) rfl (c (oq hN 19 (la hN 39 tyS3 (q 22)) (OptL.opt OptL.nil) (GuardV.plain _)) rfl (c (oq hN 19 (eqlI (L rfl) (q 21) (q 23)) (OptL.opt (OptL.opt OptL.nil)) (GuardV.plain _)) rfl (c (pickAnd rfl (L rfl) (q 19) (q 24)) rfl (c (mv hN (q 25)) rfl (c (oq hN 26 (fo 1002 6 [4] hN underlying39 6 tyS3 (q 2)) (OptL.keep (by rfl) OptL.nil) (GuardV.plain _)) rfl (c (oq hN 26 (la hN 39 tyS3 (q 27)) (OptL.opt OptL.nil) (GuardV.plain _)) rfl (c (oq hN 26 (fo 1003 6 [4] hN underlying39 6 tyS3 (q 3)) (OptL.keep (by rfl) OptL.nil) (GuardV.plain _)) rfl (c (oq hN 26 (la hN 39 tyS3 (q 29)) (OptL.opt OptL.nil) (GuardV.plain _)) rfl (c (oq hN 26 (eqlI (L rfl) (q 28) (q 30)) (OptL.opt (OptL.opt OptL.nil)) (GuardV.plain _)) rfl (c (pickAnd rfl (L rfl) (q 26) (q 31)) rfl (c (mv hN (q 32)) rfl (c (oq hN 33 (fo 1002 7 [5] hN underlying39 7 tyS3 (q 2)) (OptL.keep (by rfl) OptL.nil) (GuardV.plain _)) rfl (c (oq hN 33 (la hN 39 tyS3 (q 34)) (OptL.opt OptL.nil) (GuardV.plain _)) rfl (c (oq hN 33 (fo 1003 7 [5] hN underlying39 7 tyS3 (q 3)) (OptL.keep (by rfl) OptL.nil) (GuardV.plain _)) rfl (c (oq hN 33 (la hN 39 tyS3 (q 36)) (OptL.opt OptL.nil) (GuardV.plain _)) rfl (c (oq hN 33 (eqlI (L rfl) (q 35) (q 37)) (OptL.opt (OptL.opt OptL.nil)) (GuardV.plain _)) rfl (c (pickAnd rfl (L rfl) (q 33) (q 38)) rfl (c (OpJ.val (v':=.d (.bool true)) (by rw [hg11]<;>rfl) (mv hN (q 39))) rfl (c (gd 40 (fo 1002 1 [1] hN underlying39 1 tyS34 (q 2))) rfl (c (gd 40 (la hN 39 tyS34 (q 41))) rfl (c (gd 40 (fo 1003 1 [1] hN underlying39 1 tyS34 (q 3))) rfl (c (gd 40 (la hN 39 tyS34 (q 43))) rfl (c (gd 40 (mv hN (q 5))) rfl (cg (gd 40 (cf hB fnOk119 (R9 a0.fPath a1.fPath r12 hr12) (L rfl) (OpdL.cons (q 42) (OpdL.cons (q 44) (OpdL.cons (q 45) OpdL.nil))))) rfl (c (pickT (L rfl) (q 40) (q 46)) rfl (c (OpJ.val (v':=.d (.bool true)) (by rw [hg13]<;>rfl) (mv hN (q 47))) rfl (c (gd 48 (fo 1002 8 [6] hN underlying39 8 tyS35 (q 2))) rfl (c (gd 48 (la hN 39 tyS35 (q 49))) rfl (c (gd 48 (fo 1003 8 [6] hN underlying39 8 tyS35 (q 3))) rfl (c (gd 48 (la hN 39 tyS35 (q 51))) rfl (cg (gd 48 (cf hB fnOk120 (A0v a0.fCommunities a1.fCommunities r14 hr14) (L rfl) (OpdL.cons (q 50) (OpdL.cons (q 52) OpdL.nil)))) rfl (c (pickT (L rfl) (q 48) (q 53)) rfl (c (OpJ.val (v':=.d (.bool true)) (by rw [hg15]<;>rfl) (mv hN (q 54))) rfl (c (gd 55 (fo 1002 9 [7] hN underlying39 9 tyS36 (q 2))) rfl (c (gd 55 (la hN 39 tyS36 (q 56))) rfl (c (gd 55 (fo 1003 9 [7] hN underlying39 9 tyS36 (q 3))) rfl (c (gd 55 (la hN 39 tyS36 (q 58))) rfl (cg (gd 55 (cf hB fnOk121 (A2r a0.fLarge a1.fLarge r16 hr16) (L rfl) (OpdL.cons (q 57) (OpdL.cons (q 59) OpdL.nil)))) rfl (c (pickT (L rfl) (q 55) (q 60)) rfl (c (OpJ.val (v':=.d (.bool true)) (by rw [hg17]<;>rfl) (mv hN (q 61))) rfl (c (gd 62 (fo 1002 10 [8] hN underlying39 10 tyS37 (q 2))) rfl (c (gd 62 (la hN 39 tyS37 (q 63))) rfl (c (gd 62 (fo 1003 10 [8] hN underlying39 10 tyS37 (q 3))) rfl (c (gd 62 (la hN 39 tyS37 (q 65))) rfl (c (gd 62 (mv hN (q 6))) rfl (cg (gd 62 (cf hB fnOk122 (A46 a0.fOther a1.fOther r18 hr18) (L rfl) (OpdL.cons (q 64) (OpdL.cons (q 66) (OpdL.cons (q 67) OpdL.nil))))) rfl (c (pickT (L rfl) (q 62) (q 68)) rfl (c (assign (L rfl) (q 69)) rfl cn))))))))))))))))))))))))))))))))))))))))))))))))))))))))))))))))
      exact hjj10 _ h _ _ (mp [] _ _ hB)
     ·have h:=B7 hg17 h
      apply rg (c (fo 1002 0 [0] hN underlying39 0 tyS3 (q 2)) rfl (c (la hN 39 tyS3 (q 7)) rfl (c (fo 1003 0 [0] hN underlying39 0 tyS3 (q 3)) rfl (c (la hN 39 tyS3 (q 9)) rfl (c (eqlI (L rfl) (q 8) (q 10)) rfl (c (mv hN (q 11)) rfl (c (oq hN 12 (fo 1002 2 [2] hN underlying39 2 tyS31 (q 2)) (OptL.keep (by rfl) OptL.nil) (GuardV.plain _)) rfl (c (oq hN 12 (la hN 39 tyS31 (q 13)) (OptL.opt OptL.nil) (GuardV.plain _)) rfl (c (oq hN 12 (fo 1003 2 [2] hN underlying39 2 tyS31 (q 3)) (OptL.keep (by rfl) OptL.nil) (GuardV.plain _)) rfl (c (oq hN 12 (la hN 39 tyS31 (q 15)) (OptL.opt OptL.nil) (GuardV.plain _)) rfl (c (oq hN 12 (OpJ.eqlD (h:=2) (feq31 a0.fNext a1.fNext) eqg31 ⟨rfl,rfl⟩ (by rfl) (L rfl) (q 14) (q 16)) (OptL.opt (OptL.opt OptL.nil)) (GuardV.plain _)) rfl (c (pickAnd rfl (L rfl) (q 12) (q 17)) rfl (c (mv hN (q 18)) rfl (c (oq hN 19 (fo 1002 5 [3] hN underlying39 5 tyS3 (q 2)) (OptL.keep (by rfl) OptL.nil) (GuardV.plain _)) rfl (c (oq hN 19 (la hN 39 tyS3 (q 20)) (OptL.opt OptL.nil) (GuardV.plain _)) rfl (c (oq hN 19 (fo 1003 5 [3] hN underlying39 5 tyS3 (q 3)) (OptL.keep (by rfl) OptL.nil) (GuardV.plain _)) rfl (c (oq hN 19 (la hN 39 tyS3 (q 22)) (OptL.opt OptL.nil) (GuardV.plain _)) rfl (c (oq hN 19 (eqlI (L rfl) (q 21) (q 23)) (OptL.opt (OptL.opt OptL.nil)) (GuardV.plain _)) rfl (c (pickAnd rfl (L rfl) (q 19) (q 24)) rfl (c (mv hN (q 25)) rfl (c (oq hN 26 (fo 1002 6 [4] hN underlying39 6 tyS3 (q 2)) (OptL.keep (by rfl) OptL.nil) (GuardV.plain _)) rfl (c (oq hN 26 (la hN 39 tyS3 (q 27)) (OptL.opt OptL.nil) (GuardV.plain _)) rfl (c (oq hN 26 (fo 1003 6 [4] hN underlying39 6 tyS3 (q 3)) (OptL.keep (by rfl) OptL.nil) (GuardV.plain _)) rfl (c (oq hN 26 (la hN 39 tyS3 (q 29)) (OptL.opt OptL.nil) (GuardV.plain _)) rfl (c (oq hN 26 (eqlI (L rfl) (q 28) (q 30)) (OptL.opt (OptL.opt OptL.nil)) (GuardV.plain _)) rfl (c (pickAnd rfl (L rfl) (q 26) (q 31)) rfl (c (mv hN (q 32)) rfl (c (oq hN 33 (fo 1002 7 [5] hN underlying39 7 tyS3 (q 2)) (OptL.keep (by rfl) OptL.nil) (GuardV.plain _)) rfl (c (oq hN 33 (la hN 39 tyS3 (q 34)) (OptL.opt OptL.nil) (GuardV.plain _)) rfl (c (oq hN 33 (fo 1003 7 [5] hN underlying39 7 tyS3 (q 3)) (OptL.keep (by rfl) OptL.nil) (GuardV.plain _)) rfl (c (oq hN 33 (la hN 39 tyS3 (q 36)) (OptL.opt OptL.nil) (GuardV.plain _)) rfl (c (oq hN 33 (eqlI (L rfl) (q 35) (q 37)) (OptL.opt (OptL.opt OptL.nil)) (GuardV.plain _)) rfl (c (pickAnd rfl (L rfl) (q 33) (q 38)) rfl (c (OpJ.val (v':=.d (.bool true)) (by rw [hg11]<;>rfl) (mv hN (q 39))) rfl (c (gd 40 (fo 1002 1 [1] hN underlying39 1 tyS34 (q 2))) rfl (c (gd 40 (la hN 39 tyS34 (q 41))) rfl (c (gd 40 (fo 1003 1 [1] hN underlying39 1 tyS34 (q 3))) rfl (c (gd 40 (la hN 39 tyS34 (q 43))) rfl (c (gd 40 (mv hN (q 5))) rfl (cg (gd 40 (cf hB fnOk119 (R9 a0.fPath a1.fPath r12 hr12) (L rfl) (OpdL.cons (q 42) (OpdL.cons (q 44) (OpdL.cons (q 45) OpdL.nil))))) rfl (c (pickT (L rfl) (q 40) (q 46)) rfl (c (OpJ.val (v':=.d (.bool true)) (by rw [hg13]<;>rfl) (mv hN (q 47))) rfl (c (gd 48 (fo 1002 8 [6] hN underlying39 8 tyS35 (q 2))) rfl (c (gd 48 (la hN 39 tyS35 (q 49))) rfl (c (gd 48 (fo 1003 8 [6] hN underlying39 8 tyS35 (q 3))) rfl (c (gd 48 (la hN 39 tyS35 (q 51))) rfl (cg (gd 48 (cf hB fnOk120 (A0v a0.fCommunities a1.fCommunities r14 hr14) (L rfl) (OpdL.cons (q 50) (OpdL.cons (q 52) OpdL.nil)))) rfl (c (pickT (L rfl) (q 48) (q 53)) rfl (c (OpJ.val (v':=.d (.bool true)) (by rw [hg15]<;>rfl) (mv hN (q 54))) rfl (c (gd 55 (fo 1002 9 [7] hN underlying39 9 tyS36 (q 2))) rfl (c (gd 55 (la hN 39 tyS36 (q 56))) rfl (c (gd 55 (fo 1003 9 [7] hN underlying39 9 tyS36 (q 3))) rfl (c (gd 55 (la hN 39 tyS36 (q 58))) rfl (cg (gd 55 (cf hB fnOk121 (A2r a0.fLarge a1.fLarge r16 hr16) (L rfl) (OpdL.cons (q 57) (OpdL.cons (q 59) OpdL.nil)))) rfl (c (pickT (L rfl) (q 55) (q 60)) rfl (c (OpJ.val (v':=.d (.bool false)) (by rw [hg17]<;>rfl) (mv hN (q 61))) rfl (ks 62 (L rfl) (ks 62 (L rfl) (ks 62 (L rfl) (ks 62 (L rfl) (ks 62 (L rfl) (ks 62 (L rfl) (c (pickF (L rfl) (q 62) (Opd.bool false)) rfl (c (assign (L rfl) (q 69)) rfl cn))))))))))))))))))))))))))))))))))))))))))))))))))))))))))))))))
      exact hjj10 _ h _ _ (mp [] _ _ hB)
    ·have h:=B7 hg15 h
     apply rg (c (fo 1002 0 [0] hN underlying39 0 tyS3 (q 2)) rfl (c (la hN 39 tyS3 (q 7)) rfl (c (fo 1003 0 [0] hN underlying39 0 tyS3 (q 3)) rfl (c (la hN 39 tyS3 (q 9)) rfl (c (eqlI (L rfl) (q 8) (q 10)) rfl (c (mv hN (q 11)) rfl (c (oq hN 12 (fo 1002 2 [2] hN underlying39 2 tyS31 (q 2)) (OptL.keep (by rfl) OptL.nil) (GuardV.plain _)) rfl (c (oq hN 12 (la hN 39 tyS31 (q 13)) (OptL.opt OptL.nil) (GuardV.plain _)) rfl (c (oq hN 12 (fo 1003 2 [2] hN underlying39 2 tyS31 (q 3)) (OptL.keep (by rfl) OptL.nil) (GuardV.plain _)) rfl (c (oq hN 12 (la hN 39 tyS31 (q 15)) (OptL.opt OptL.nil) (GuardV.plain _)) rfl (c (oq hN 12 (OpJ.eqlD (h:=2) (feq31 a0.fNext a1.fNext) eqg31 ⟨rfl,rfl⟩ (by rfl) (L rfl) (q 14) (q 16)) (OptL.opt (OptL.opt OptL.nil)) (GuardV.plain _)) rfl (c (pickAnd rfl (L rfl) (q 12) (q 17)) rfl (c (mv hN (q 18)) rfl (c (oq hN 19 (fo 1002 5 [3] hN underlying39 5 tyS3 (q 2)) (OptL.keep (by rfl) OptL.nil) (GuardV.plain _)) rfl (c (oq hN 19 (la hN 39 tyS3 (q 20)) (OptL.opt OptL.nil) (GuardV.plain _)) rfl (c (oq hN 19 (fo 1003 5 [3] hN underlying39 5 tyS3 (q 3)) (OptL.keep (by rfl) OptL.nil) (GuardV.plain _)) rfl (c (oq hN 19 (la hN 39 tyS3 (q 22)) (OptL.opt OptL.nil) (GuardV.plain _)) rfl (c (oq hN 19 (eqlI (L rfl) (q 21) (q 23)) (OptL.opt (OptL.opt OptL.nil)) (GuardV.plain _)) rfl (c (pickAnd rfl (L rfl) (q 19) (q 24)) rfl (c (mv hN (q 25)) rfl (c (oq hN 26 (fo 1002 6 [4] hN underlying39 6 tyS3 (q 2)) (OptL.keep (by rfl) OptL.nil) (GuardV.plain _)) rfl (c (oq hN 26 (la hN 39 tyS3 (q 27)) (OptL.opt OptL.nil) (GuardV.plain _)) rfl (c (oq hN 26 (fo 1003 6 [4] hN underlying39 6 tyS3 (q 3)) (OptL.keep (by rfl) OptL.nil) (GuardV.plain _)) rfl (c (oq hN 26 (la hN 39 tyS3 (q 29)) (OptL.opt OptL.nil) (GuardV.plain _)) rfl (c (oq hN 26 (eqlI (L rfl) (q 28) (q 30)) (OptL.opt (OptL.opt OptL.nil)) (GuardV.plain _)) rfl (c (pickAnd rfl (L rfl) (q 26) (q 31)) rfl (c (mv hN (q 32)) rfl (c (oq hN 33 (fo 1002 7 [5] hN underlying39 7 tyS3 (q 2)) (OptL.keep (by rfl) OptL.nil) (GuardV.plain _)) rfl (c (oq hN 33 (la hN 39 tyS3 (q 34)) (OptL.opt OptL.nil) (GuardV.plain _)) rfl (c (oq hN 33 (fo 1003 7 [5] hN underlying39 7 tyS3 (q 3)) (OptL.keep (by rfl) OptL.nil) (GuardV.plain _)) rfl (c (oq hN 33 (la hN 39 tyS3 (q 36)) (OptL.opt OptL.nil) (GuardV.plain _)) rfl (c (oq hN 33 (eqlI (L rfl) (q 35) (q 37)) (OptL.opt (OptL.opt OptL.nil)) (GuardV.plain _)) rfl (c (pickAnd rfl (L rfl) (q 33) (q 38)) rfl (c (OpJ.val (v':=.d (.bool true)) (by rw [hg11]<;>rfl) (mv hN (q 39))) rfl (c (gd 40 (fo 1002 1 [1] hN underlying39 1 tyS34 (q 2))) rfl (c (gd 40 (la hN 39 tyS34 (q 41))) rfl (c (gd 40 (fo 1003 1 [1] hN underlying39 1 tyS34 (q 3))) rfl (c (gd 40 (la hN 39 tyS34 (q 43))) rfl (c (gd 40 (mv hN (q 5))) rfl (cg (gd 40 (cf hB fnOk119 (R9 a0.fPath a1.fPath r12 hr12) (L rfl) (OpdL.cons (q 42) (OpdL.cons (q 44) (OpdL.cons (q 45) OpdL.nil))))) rfl (c (pickT (L rfl) (q 40) (q 46)) rfl (c (OpJ.val (v':=.d (.bool true)) (by rw [hg13]<;>rfl) (mv hN (q 47))) rfl (c (gd 48 (fo 1002 8 [6] hN underlying39 8 tyS35 (q 2))) rfl (c (gd 48 (la hN 39 tyS35 (q 49))) rfl (c (gd 48 (fo 1003 8 [6] hN underlying39 8 tyS35 (q 3))) rfl (c (gd 48 (la hN 39 tyS35 (q 51))) rfl (cg (gd 48 (cf hB fnOk120 (A0v a0.fCommunities a1.fCommunities r14 hr14) (L rfl) (OpdL.cons (q 50) (OpdL.cons (q 52) OpdL.nil)))) rfl (c (pickT (L rfl) (q 48) (q 53)) rfl (c (OpJ.val (v':=.d (.bool false)) (by rw [hg15]<;>rfl) (mv hN (q 54))) rfl (ks 55 (L rfl) (ks 55 (L rfl) (ks 55 (L rfl) (ks 55 (L rfl) (ks 55 (L rfl) (c (pickF (L rfl) (q 55) (Opd.bool false)) rfl (c (mv hN (q 61)) rfl (ks 62 (L rfl) (ks 62 (L rfl) (ks 62 (L rfl) (ks 62 (L rfl) (ks 62 (L rfl) (ks 62 (L rfl) (c (pickF (L rfl) (q 62) (Opd.bool false)) rfl (c (assign (L rfl) (q 69)) rfl cn))))))))))))))))))))))))))))))))))))))))))))))))))))))))))))))))
     exact hjj10 _ h _ _ (mp [] _ _ hB)
   ·have h:=B7 hg13 h
    apply rg (c (fo 1002 0 [0] hN underlying39 0 tyS3 (q 2)) rfl (c (la hN 39 tyS3 (q 7)) rfl (c (fo 1003 0 [0] hN underlying39 0 tyS3 (q 3)) rfl (c (la hN 39 tyS3 (q 9)) rfl (c (eqlI (L rfl) (q 8) (q 10)) rfl (c (mv hN (q 11)) rfl (c (oq hN 12 (fo 1002 2 [2] hN underlying39 2 tyS31 (q 2)) (OptL.keep (by rfl) OptL.nil) (GuardV.plain _)) rfl (c (oq hN 12 (la hN 39 tyS31 (q 13)) (OptL.opt OptL.nil) (GuardV.plain _)) rfl (c (oq hN 12 (fo 1003 2 [2] hN underlying39 2 tyS31 (q 3)) (OptL.keep (by rfl) OptL.nil) (GuardV.plain _)) rfl (c (oq hN 12 (la hN 39 tyS31 (q 15)) (OptL.opt OptL.nil) (GuardV.plain _)) rfl (c (oq hN 12 (OpJ.eqlD (h:=2) (feq31 a0.fNext a1.fNext) eqg31 ⟨rfl,rfl⟩ (by rfl) (L rfl) (q 14) (q 16)) (OptL.opt (OptL.opt OptL.nil)) (GuardV.plain _)) rfl (c (pickAnd rfl (L rfl) (q 12) (q 17)) rfl (c (mv hN (q 18)) rfl (c (oq hN 19 (fo 1002 5 [3] hN underlying39 5 tyS3 (q 2)) (OptL.keep (by rfl) OptL.nil) (GuardV.plain _)) rfl (c (oq hN 19 (la hN 39 tyS3 (q 20)) (OptL.opt OptL.nil) (GuardV.plain _)) rfl (c (oq hN 19 (fo 1003 5 [3] hN underlying39 5 tyS3 (q 3)) (OptL.keep (by rfl) OptL.nil) (GuardV.plain _)) rfl (c (oq hN 19 (la hN 39 tyS3 (q 22)) (OptL.opt OptL.nil) (GuardV.plain _)) rfl (c (oq hN 19 (eqlI (L rfl) (q 21) (q 23)) (OptL.opt (OptL.opt OptL.nil)) (GuardV.plain _)) rfl (c (pickAnd rfl (L rfl) (q 19) (q 24)) rfl (c (mv hN (q 25)) rfl (c (oq hN 26 (fo 1002 6 [4] hN underlying39 6 tyS3 (q 2)) (OptL.keep (by rfl) OptL.nil) (GuardV.plain _)) rfl (c (oq hN 26 (la hN 39 tyS3 (q 27)) (OptL.opt OptL.nil) (GuardV.plain _)) rfl (c (oq hN 26 (fo 1003 6 [4] hN underlying39 6 tyS3 (q 3)) (OptL.keep (by rfl) OptL.nil) (GuardV.plain _)) rfl (c (oq hN 26 (la hN 39 tyS3 (q 29)) (OptL.opt OptL.nil) (GuardV.plain _)) rfl (c (oq hN 26 (eqlI (L rfl) (q 28) (q 30)) (OptL.opt (OptL.opt OptL.nil)) (GuardV.plain _)) rfl (c (pickAnd rfl (L rfl) (q 26) (q 31)) rfl (c (mv hN (q 32)) rfl (c (oq hN 33 (fo 1002 7 [5] hN underlying39 7 tyS3 (q 2)) (OptL.keep (by rfl) OptL.nil) (GuardV.plain _)) rfl (c (oq hN 33 (la hN 39 tyS3 (q 34)) (OptL.opt OptL.nil) (GuardV.plain _)) rfl (c (oq hN 33 (fo 1003 7 [5] hN underlying39 7 tyS3 (q 3)) (OptL.keep (by rfl) OptL.nil) (GuardV.plain _)) rfl (c (oq hN 33 (la hN 39 tyS3 (q 36)) (OptL.opt OptL.nil) (GuardV.plain _)) rfl (c (oq hN 33 (eqlI (L rfl) (q 35) (q 37)) (OptL.opt (OptL.opt OptL.nil)) (GuardV.plain _)) rfl (c (pickAnd rfl (L rfl) (q 33) (q 38)) rfl (c (OpJ.val (v':=.d (.bool true)) (by rw [hg11]<;>rfl) (mv hN (q 39))) rfl (c (gd 40 (fo 1002 1 [1] hN underlying39 1 tyS34 (q 2))) rfl (c (gd 40 (la hN 39 tyS34 (q 41))) rfl (c (gd 40 (fo 1003 1 [1] hN underlying39 1 tyS34 (q 3))) rfl (c (gd 40 (la hN 39 tyS34 (q 43))) rfl (c (gd 40 (mv hN (q 5))) rfl (cg (gd 40 (cf hB fnOk119 (R9 a0.fPath a1.fPath r12 hr12) (L rfl) (OpdL.cons (q 42) (OpdL.cons (q 44) (OpdL.cons (q 45) OpdL.nil))))) rfl (c (pickT (L rfl) (q 40) (q 46)) rfl (c (OpJ.val (v':=.d (.bool false)) (by rw [hg13]<;>rfl) (mv hN (q 47))) rfl (ks 48 (L rfl) (ks 48 (L rfl) (ks 48 (L rfl) (ks 48 (L rfl) (ks 48 (L rfl) (c (pickF (L rfl) (q 48) (Opd.bool false)) rfl (c (mv hN (q 54)) rfl (ks 55 (L rfl) (ks 55 (L rfl) (ks 55 (L rfl) (ks 55 (L rfl) (ks 55 (L rfl) (c (pickF (L rfl) (q 55) (Opd.bool false)) rfl (c (mv hN (q 61)) rfl (ks 62 (L rfl) (ks 62 (L rfl) (ks 62 (L rfl) (ks 62 (L rfl) (ks 62 (L rfl) (ks 62 (L rfl) (c (pickF (L rfl) (q 62) (Opd.bool false)) rfl (c (assign (L rfl) (q 69)) rfl cn))))))))))))))))))))))))))))))))))))))))))))))))))))))))))))))))
    exact hjj10 _ h _ _ (mp [] _ _ hB)
  ·have h:=B7 hg11 h
   apply rg (c (fo 1002 0 [0] hN underlying39 0 tyS3 (q 2)) rfl (c (la hN 39 tyS3 (q 7)) rfl (c (fo 1003 0 [0] hN underlying39 0 tyS3 (q 3)) rfl (c (la hN 39 tyS3 (q 9)) rfl (c (eqlI (L rfl) (q 8) (q 10)) rfl (c (mv hN (q 11)) rfl (c (oq hN 12 (fo 1002 2 [2] hN underlying39 2 tyS31 (q 2)) (OptL.keep (by rfl) OptL.nil) (GuardV.plain _)) rfl (c (oq hN 12 (la hN 39 tyS31 (q 13)) (OptL.opt OptL.nil) (GuardV.plain _)) rfl (c (oq hN 12 (fo 1003 2 [2] hN underlying39 2 tyS31 (q 3)) (OptL.keep (by rfl) OptL.nil) (GuardV.plain _)) rfl (c (oq hN 12 (la hN 39 tyS31 (q 15)) (OptL.opt OptL.nil) (GuardV.plain _)) rfl (c (oq hN 12 (OpJ.eqlD (h:=2) (feq31 a0.fNext a1.fNext) eqg31 ⟨rfl,rfl⟩ (by rfl) (L rfl) (q 14) (q 16)) (OptL.opt (OptL.opt OptL.nil)) (GuardV.plain _)) rfl (c (pickAnd rfl (L rfl) (q 12) (q 17)) rfl (c (mv hN (q 18)) rfl (c (oq hN 19 (fo 1002 5 [3] hN underlying39 5 tyS3 (q 2)) (OptL.keep (by rfl) OptL.nil) (GuardV.plain _)) rfl (c (oq hN 19 (la hN 39 tyS3 (q 20)) (OptL.opt OptL.nil) (GuardV.plain _)) rfl (c (oq hN 19 (fo 1003 5 [3] hN underlying39 5 tyS3 (q 3)) (OptL.keep (by rfl) OptL.nil) (GuardV.plain _)) rfl (c (oq hN 19 (la hN 39 tyS3 (q 22)) (OptL.opt OptL.nil) (GuardV.plain _)) rfl (c (oq hN 19 (eqlI (L rfl) (q 21) (q 23)) (OptL.opt (OptL.opt OptL.nil)) (GuardV.plain _)) rfl (c (pickAnd rfl (L rfl) (q 19) (q 24)) rfl (c (mv hN (q 25)) rfl (c (oq hN 26 (fo 1002 6 [4] hN underlying39 6 tyS3 (q 2)) (OptL.keep (by rfl) OptL.nil) (GuardV.plain _)) rfl (c (oq hN 26 (la hN 39 tyS3 (q 27)) (OptL.opt OptL.nil) (GuardV.plain _)) rfl (c (oq hN 26 (fo 1003 6 [4] hN underlying39 6 tyS3 (q 3)) (OptL.keep (by rfl) OptL.nil) (GuardV.plain _)) rfl (c (oq hN 26 (la hN 39 tyS3 (q 29)) (OptL.opt OptL.nil) (GuardV.plain _)) rfl (c (oq hN 26 (eqlI (L rfl) (q 28) (q 30)) (OptL.opt (OptL.opt OptL.nil)) (GuardV.plain _)) rfl (c (pickAnd rfl (L rfl) (q 26) (q 31)) rfl (c (mv hN (q 32)) rfl (c (oq hN 33 (fo 1002 7 [5] hN underlying39 7 tyS3 (q 2)) (OptL.keep (by rfl) OptL.nil) (GuardV.plain _)) rfl (c (oq hN 33 (la hN 39 tyS3 (q 34)) (OptL.opt OptL.nil) (GuardV.plain _)) rfl (c (oq hN 33 (fo 1003 7 [5] hN underlying39 7 tyS3 (q 3)) (OptL.keep (by rfl) OptL.nil) (GuardV.plain _)) rfl (c (oq hN 33 (la hN 39 tyS3 (q 36)) (OptL.opt OptL.nil) (GuardV.plain _)) rfl (c (oq hN 33 (eqlI (L rfl) (q 35) (q 37)) (OptL.opt (OptL.opt OptL.nil)) (GuardV.plain _)) rfl (c (pickAnd rfl (L rfl) (q 33) (q 38)) rfl (c (OpJ.val (v':=.d (.bool false)) (by rw [hg11]<;>rfl) (mv hN (q 39))) rfl (ks 40 (L rfl) (ks 40 (L rfl) (ks 40 (L rfl) (ks 40 (L rfl) (ks 40 (L rfl) (ks 40 (L rfl) (c (pickF (L rfl) (q 40) (Opd.bool false)) rfl (c (mv hN (q 47)) rfl (ks 48 (L rfl) (ks 48 (L rfl) (ks 48 (L rfl) (ks 48 (L rfl) (ks 48 (L rfl) (c (pickF (L rfl) (q 48) (Opd.bool false)) rfl (c (mv hN (q 54)) rfl (ks 55 (L rfl) (ks 55 (L rfl) (ks 55 (L rfl) (ks 55 (L rfl) (ks 55 (L rfl) (c (pickF (L rfl) (q 55) (Opd.bool false)) rfl (c (mv hN (q 61)) rfl (ks 62 (L rfl) (ks 62 (L rfl) (ks 62 (L rfl) (ks 62 (L rfl) (ks 62 (L rfl) (ks 62 (L rfl) (c (pickF (L rfl) (q 62) (Opd.bool false)) rfl (c (assign (L rfl) (q 69)) rfl cn))))))))))))))))))))))))))))))))))))))))))))))))))))))))))))))))
   exact hjj10 _ h _ _ (mp [] _ _ hB)
def A00 (a0:D5) (a1:A1):Option (Bool) :=
 (A0d a0.fattrs a1.fRoute.fAttrs).bind fun r1 =>
 some r1
theorem A6p (a0:D5) (a1:A1) (r:Bool) (h:A00 a0 a1=some r):AC Tryz.prog 77 [(.d (D2 a0)),(.dptr (A6 a1))] [] (.d (.bool r)) []:=by
 refine AC.of_code2 Tryz.func77 rfl rfl (Nat.le_of_ble_eq_true (by rfl)) fun B hB hN => ?_
 delta A00 at h
 apply sr (cg (OpJ.box hB (nm:=1002) (by decide) (by simp) rfl (ltN hN rfl) (q 0)) rfl (c (assign (ltN hN rfl) (Opd.bool false)) rfl cn))
 obtain⟨r1,hr1,h⟩:=bindS h
 apply sr (c (fo 1002 0 [0] hN underlying123 0 tyS39 (q 2)) rfl (c (la hN 123 tyS39 (q 4)) rfl (c (fieldD underlying43 (by rfl) (o:=6) (by rfl) tyS41 (by decide) (by rfl) (by rfl) (ltN hN rfl) (q 1)) rfl (c (fieldD underlying41 (by rfl) (o:=5) (by rfl) tyS39 (by decide) (by rfl) (by rfl) (ltN hN rfl) (q 6)) rfl (c (loadD tyS39 (by rfl) (by rfl) (ltN hN rfl) (q 7)) rfl (cg (OpJ.callFn hB fnOk78 (A8j a0.fattrs a1.fRoute.fAttrs r1 hr1) [] (by kernel_rfl) (ltN hN rfl) (by kernel_rfl) (OpdL.cons (q 5) (OpdL.cons (q 8) OpdL.nil))) rfl (c (assign (ltN hN rfl) (q 9)) rfl cn)))))))
 apply ret
 obtain rfl:=oi h
 exact rt (kp [(3,_)] [] hB rfl rfl (by rfl)) [(bo r1)] (rT rN) rfl
def L3 (a0:(List D5)) (a1:A1) (s1:Int):Option (((Int)⊕(Unit))⊕(Int)) :=
 (if (decide (s1<(a0.length:Int)))=true then
 (idx a0 s1).bind fun x13 =>
 (A00 x13 a1).bind fun r14 =>
 (if r14=true then
 some (.inl (.inl s1))
 else
 some (.inr (w64 (s1+1))))
 else
 some (.inl (.inr ())))
def P3 (a0:(List D5)) (a1:A1):Option (Int) :=
 (loop (L3 a0 a1) 0).bind fun x16=>match x16 with
 | (.inl p10) =>
  some p10
 | (.inr _) =>
  some (-1)
theorem A47 (a0:(List D5)) (a1:A1) (r:Int) (h:P3 a0 a1=some r):AC Tryz.prog 76 [(.d (.list 12 (a0.map D2))),(.func 77 [(.dptr (A6 a1))])] [] (.d (.int .i64 r)) []:=by
 refine AC.of_code2 Tryz.func76 rfl rfl (Nat.le_of_ble_eq_true (by rfl)) fun B hB hN => ?_
 delta P3 at h
 apply sr (c (assign (ltN hN rfl) (ii 0)) rfl cn)
 apply seq
 apply sr (c (mv hN (q 0)) rfl (c (OpJ.val (v':=(i6 (a0.length:Int))) (by simp) (lenD underlying124 (ltN hN rfl) (q 6))) rfl (c (mv hN (ii 0)) rfl cn)))
 apply block
 obtain⟨x16,hx17,h⟩:=bindS h
 refine lg (L3 a0 a1) (fun s1:Int=>([(0,(.d (.list 12 (a0.map D2)))),(1,(.func 77 [(.dptr (A6 a1))])),(7,(i6 (a0.length:Int))),(8,(i6 s1))]:EL)) (fun s1:Int=>([]:OL)) (fun(x:(Int)⊕(Unit)) e E' O'=>match x with | (.inl p10)=>e = .ret∧Mat B E' O' ([(4,(i6 p10))]:EL) ([]:OL) | (.inr _p)=>e = .exit 0∧Mat B E' O' ([]:EL) ([]:OL)) hx17 (mp [] _ _ hB) (fun s1 y h => ?_) (fun e E' O' hR => ?_)
 ·unfold L3 at h
  apply sr (c (lss (ltN hN rfl) (q 8) (q 7)) rfl cn)
  apply seq
  apply AWp.cond rfl<;>intro hg12
  ·have h:=B6 hg12 h
   apply AWp.skip
   apply A3
   apply seq
   apply block
   apply sr (c (mv hN (q 8)) rfl (c (assign (ltN hN rfl) (q 10)) rfl cn))
   obtain⟨x13,hx13,h⟩:=bindS h
   obtain⟨r14,hr14,h⟩:=bindS h
   apply sr (c (mv hN (q 1)) rfl (c (mv hN (q 0)) rfl (c (mv hN (q 5)) rfl (c (indexD underlying124 tyS123 (A4 hx13).1 (C8 D2 (A4 hx13).2) (ltN hN rfl) (q 12) (q 13)) rfl (c (loadD tyS123 (by rfl) (by rfl) (ltN hN rfl) (q 14)) rfl (cg (callVal (args:=[(.d (D2 x13))]) (caps:=[(.dptr (A6 a1))]) hB fnOk77 [] (A6p x13 a1 r14 hr14) (by kernel_rfl) (ltN hN rfl) (by kernel_rfl) (by kernel_rfl) (OpdL.cons (q 15) OpdL.nil)) rfl cn))))))
   apply AWp.cond rfl<;>intro hg15
   ·have h:=B6 hg15 h
    apply sr (c (mv hN (q 5)) rfl (c (assign (ltN hN rfl) (q 17)) rfl cn))
    apply ret
    apply F7
    apply D4
    obtain rfl:=oi h
    exact⟨(fun hc=>by cases hc),rfl,(mp [] _ _ hB)⟩
   ·have h:=B7 hg15 h
    apply AWp.skip
    apply F8
    apply A3
    apply rg (c (add6 (ltN hN rfl) (q 8) (ii 1)) rfl (c (mv hN (q 18)) rfl cn))
    obtain rfl:=oi h
    exact⟨rfl,(mp [] _ _ hB)⟩
  ·have h:=B7 hg12 h
   apply AWp.exit
   apply F6
   obtain rfl:=oi h
   exact⟨(fun hc=>by cases hc),rfl,(mp [] _ _ hB)⟩
 ·rcases x16 with p10 | _
  ·obtain⟨rfl,hmat⟩:=hR
   apply F7
   apply D4
   obtain rfl:=oi h
   exact rt (Mat.trans hmat (mp [] [(4,(i6 p10))] [] hB)) [(i6 p10)] (rT rN) rfl
  ·obtain⟨rfl,hmat⟩:=hR
   apply E4
   apply A3
   refine ghost hmat ?_
   apply sr (c (assign (ltN hN rfl) (ii (-1))) rfl cn)
   apply ret
   obtain rfl:=oi h
   exact rt (kp [(4,_)] [] hB rfl rfl (by rfl)) [(i6 (-1))] (rT rN) rfl
def A0x (a0:D5) (a1:Bool) (s1:Int×(List C9)) (s88:Int):Option (((Int))⊕(Int)) :=
 jn (fun m116:Bool =>
 (if m116=true then
 some (.inr (w64 (s88+1)))
 else
 some (.inl s88))) (fun j117 =>
 (if (decide (s88<(a0.fprefixes.length:Int)))=true then
 chk ((decide (0≤s1.1)&&decide (0≤(w64 (s88+1)))&&decide (s1.1.toNat≤(w64 (s88+1)).toNat)&&decide ((w64 (s88+1)).toNat≤a0.fprefixes.length))) <|
 (I2 a0.fattrs ((a0.fprefixes.take ((w64 (s88+1)).toNat)).drop s1.1.toNat) a1).bind fun r121 =>
 (M1 r121).bind fun r122 =>
 j117 r122
 else
 j117 false))
def A0y (a0:D5) (a1:Bool) (s1:Int×(List C9)):Option ((((List C9)))⊕(Int×(List C9))) :=
 (if (decide (s1.1<(a0.fprefixes.length:Int)))=true then
 (loop (A0x a0 a1 s1) (w64 (s1.1+1))).bind fun p111 =>
 chk ((decide (0≤s1.1)&&decide (0≤p111)&&decide (s1.1.toNat≤p111.toNat)&&decide (p111.toNat≤a0.fprefixes.length))) <|
 (I2 a0.fattrs ((a0.fprefixes.take p111.toNat).drop s1.1.toNat) a1).bind fun r126 =>
 chk (decide ((s1.2++[r126]).length≤LIM)) <|
 some (.inr (p111,(s1.2++[r126])))
 else
 some (.inl s1.2))
def Q9 (a0:D5) (a1:Bool):Option ((List C9)) :=
 (loop (A0y a0 a1) (0,([]:List C9))).bind fun p86 =>
 some p86
theorem A8k (a0:D5) (a1:Bool) (r:(List C9)) (h:Q9 a0 a1=some r):AC Tryz.prog 79 [(.d (D2 a0)),(.d (.bool a1))] [(500,(.know (globD 0 (.imap gv0))))] (.d (.list 13 (r.map B9))) [(500,some (.know (globD 0 (.imap gv0))))]:=by
 refine ac2 Tryz.func79 rfl rfl fun B hB hN L => ?_
 delta Q9 at h
 apply sr (cg (OpJ.box hB (nm:=1002) (by decide) (by simp) rfl (L rfl) (q 0)) rfl (c (assign (L rfl) Opd.nils) rfl cn))
 apply sr (c (assign (L rfl) Opd.nils) rfl cn)
 apply seq
 apply sr (c (assign (L rfl) (ii 0)) rfl cn)
 apply block
 obtain⟨p86,hx129,h⟩:=bindS h
 refine lg (A0y a0 a1) (fun s1:Int×(List C9)=>([(1,(bo a1)),(2,(pt 1002)),(5,(.sref 3005 13 0 s1.2.length)),(6,(i6 s1.1))]:EL)) (fun s1:Int×(List C9)=>([(500,some (.know (globD 0 (.imap gv0)))),(1002,bd 123 (D2 a0)),(3005,some (F5 s1.2))]:OL)) (fun(p86:((List C9))) e E' O'=>e = .exit 0∧Mat B E' O' ([(5,(.sref 3005 13 0 p86.length))]:EL) ([(500,some (.know (globD 0 (.imap gv0)))),(3005,some (F5 p86))]:OL)) hx129 (Mat.trans (Mat.beginP (n:=3005) (e:=71) (sz:=13) (Ts:=[(5,(.sref 3005 13 0 0))]) (Bs:=[]) hB (by decide) (by rfl) (by decide) (TwT.cons (x:=.nils) (by rfl) (Tw.leaf ⟨rfl,rfl⟩) TwT.nil) TwB.nil) (mp [] _ _ hB)) (fun s1 y h => ?_) (fun e E' O' hR => ?_)
 ·unfold A0y at h
  apply seq
  apply sr (c (mv hN (q 6)) rfl (c (fo 1002 11 [1] hN underlying123 11 tyS69 (q 2)) rfl (c (la hN 123 tyS69 (q 9)) rfl (c (OpJ.val (v':=(i6 (a0.fprefixes.length:Int))) (by simp) (lenD underlying69 (L rfl) (q 10))) rfl (c (lss (L rfl) (q 8) (q 11)) rfl cn)))))
  apply AWp.cond rfl<;>intro hg87
  ·have h:=B6 hg87 h
   apply AWp.skip
   apply A3
   apply block
   apply sr (c (mv hN (q 6)) rfl (c (add6 (L rfl) (q 13) (ii 1)) rfl (c (assign (L rfl) (q 14)) rfl cn)))
   apply seq
   apply block
   obtain⟨p111,hx124,h⟩:=bindS h
   refine lg (A0x a0 a1 s1) (fun s88:Int=>([(1,(bo a1)),(2,(pt 1002)),(5,(.sref 3005 13 0 s1.2.length)),(6,(i6 s1.1)),(7,(i6 s88))]:EL)) (fun s88:Int=>([(500,some (.know (globD 0 (.imap gv0)))),(1002,bd 123 (D2 a0)),(3005,some (F5 s1.2))]:OL)) (fun(p111:(Int)) e E' O'=>e = .exit 2∧Mat B E' O' ([(1,(bo a1)),(2,(pt 1002)),(5,(.sref 3005 13 0 s1.2.length)),(6,(i6 s1.1)),(7,(i6 p111))]:EL) ([(500,some (.know (globD 0 (.imap gv0)))),(1002,bd 123 (D2 a0)),(3005,some (F5 s1.2))]:OL)) hx124 (mp [] _ _ hB) (fun s88 y h => ?_) (fun e E' O' hR => ?_)
   ·unfold A0x at h
    apply seq
    apply seq
    refine AWp.cut h (fun m116:Bool=>([(1,(bo a1)),(2,(pt 1002)),(5,(.sref 3005 13 0 s1.2.length)),(6,(i6 s1.1)),(7,(i6 s88)),(32,(bo m116))]:EL)) (fun m116:Bool=>([(500,some (.know (globD 0 (.imap gv0)))),(1002,bd 123 (D2 a0)),(3005,some (F5 s1.2))]:OL)) (fun m116 h E' O' hmat => ?_) (fun j117 hjj117 h => ?_)
    ·apply A3
     refine ghost hmat ?_
     apply AWp.cond rfl<;>intro hg118
     ·have h:=B6 hg118 h
      apply AWp.skip
      apply A3
      apply block
      apply rg (c (mv hN (q 7)) rfl (c (add6 (L rfl) (q 33) (ii 1)) rfl (c (assign (L rfl) (q 34)) rfl cn)))
      apply F8
      obtain rfl:=oi h
      exact⟨rfl,(mp [] _ _ hB)⟩
     ·have h:=B7 hg118 h
      apply AWp.exit
      apply F6
      obtain rfl:=oi h
      exact⟨(fun hc=>by cases hc),rfl,(mp [] _ _ hB)⟩
    ·rcases bft (decide (s88<(a0.fprefixes.length:Int))) with hg119 | hg119
     ·have h:=B6 hg119 h
      obtain⟨hc120,h⟩:=D3 h
      obtain⟨r121,hr121,h⟩:=bindS h
      obtain⟨r122,hr122,h⟩:=bindS h
      refine AWp.draws (by kernel_rfl) (oc (mv hN (ot 7 (i6 s88)))
       (oc (ov (.ptr 1002 11 [1]) (fp hN underlying123 11 tyS69 (.box 123 (.d (D2 a0))) (ot 2 (pt 1002))))
       (oc (lb hN 123 (.d (D2 a0)) (C1 a0.fprefixes) tyS69 (ad (.list 4 (a0.fprefixes.map A2))) (ot 16 (.ptr 1002 11 [1])))
       (oc (OpJ.val (v':=(i6 (a0.fprefixes.length:Int))) (by simp) (lenD underlying69 (L rfl) (ot 17 (C1 a0.fprefixes))))
       (oc (lss (L rfl) (ot 15 (i6 s88)) (ot 18 (i6 (a0.fprefixes.length:Int))))
       (oc (OpJ.val (v':=.d (.bool true)) (by rw [hg119]<;>rfl) (mv hN (ot 19 (bo (decide (s88<(a0.fprefixes.length:Int)))))))
       (oc (gd 20 (ov (.ptr 1002 0 [0]) (fp hN underlying123 0 tyS39 (.box 123 (.d (D2 a0))) (ot 2 (pt 1002)))))
       (oc (gd 20 (lb hN 123 (.d (D2 a0)) (.d (A8 a0.fattrs)) tyS39 (ad (A8 a0.fattrs)) (ot 21 (.ptr 1002 0 [0]))))
       (oc (gd 20 (ov (.ptr 1002 11 [1]) (fp hN underlying123 11 tyS69 (.box 123 (.d (D2 a0))) (ot 2 (pt 1002)))))
       (oc (gd 20 (lb hN 123 (.d (D2 a0)) (C1 a0.fprefixes) tyS69 (ad (.list 4 (a0.fprefixes.map A2))) (ot 23 (.ptr 1002 11 [1]))))
       (oc (gd 20 (mv hN (ot 6 (i6 s1.1))))
       (oc (gd 20 (mv hN (ot 7 (i6 s88))))
       (oc (gd 20 (add6 (L rfl) (ot 26 (i6 s88)) (ii 1)))
       (oc (gd 20 (OpJ.cutD underlying69 tyS33 (es:=a0.fprefixes.map A2) (es':=((a0.fprefixes.take ((w64 (s88+1)).toNat)).drop s1.1.toNat).map A2) (l:=s1.1.toNat) (h:=(w64 (s88+1)).toNat) (.inr ⟨_,_,_,rfl,(ot 25 (i6 s1.1)),(of_decide_eq_true (G5 (G5 (G5 hc120)))),rfl⟩) (.inr ⟨_,_,_,rfl,(ot 27 (i6 (w64 (s88+1)))),(of_decide_eq_true (I6 (G5 (G5 hc120)))),rfl⟩) (of_decide_eq_true (I6 (G5 hc120))) (by first | (simp;done) | simpa using (of_decide_eq_true (I6 hc120))) (by first | rw [List.map_drop,List.map_take] | (simp [List.map_take,List.map_drop];done) | simp [List.take_of_length_le]) (L rfl) (ot 24 (C1 a0.fprefixes))))
       (oc (gd 20 (mv hN (ot 1 (bo a1))))
       (oc (gd 20 (OpJ.callFn hB fnOk114 (U7 a0.fattrs ((a0.fprefixes.take ((w64 (s88+1)).toNat)).drop s1.1.toNat) a1 r121 hr121) [] (by kernel_rfl) (L rfl) (by kernel_rfl) (OpdL.cons (ot 22 (.d (A8 a0.fattrs))) (OpdL.cons (ot 28 (C1 ((a0.fprefixes.take ((w64 (s88+1)).toNat)).drop s1.1.toNat))) (OpdL.cons (ot 29 (bo a1)) OpdL.nil)))))
       (oc (gd 20 (OpJ.callFn hB fnOk113 (A1x r121 r122 hr122) [(500,500)] (by kernel_rfl) (L rfl) (by kernel_rfl) (OpdL.cons (ot 30 (.d (B9 r121))) OpdL.nil)))
       (oc (pickT (L rfl) (ot 20 (bo true)) (ot 31 (bo r122)))
       (OpJs.nil))))))))))))))))))) (by kernel_rfl) (by rfl) (by rfl) ?_
      exact hjj117 _ h _ _ (mp [] _ _ hB)
     ·have h:=B7 hg119 h
      apply dr (c (mv hN (q 7)) rfl (c (fo 1002 11 [1] hN underlying123 11 tyS69 (q 2)) rfl (c (la hN 123 tyS69 (q 16)) rfl (c (OpJ.val (v':=(i6 (a0.fprefixes.length:Int))) (by simp) (lenD underlying69 (L rfl) (q 17))) rfl (c (lss (L rfl) (q 15) (q 18)) rfl (c (OpJ.val (v':=.d (.bool false)) (by rw [hg119]<;>rfl) (mv hN (q 19))) rfl (ks 20 (L rfl) (ks 20 (L rfl) (ks 20 (L rfl) (ks 20 (L rfl) (ks 20 (L rfl) (ks 20 (L rfl) (ks 20 (L rfl) (ks 20 (L rfl) (ks 20 (L rfl) (ks 20 (L rfl) (ks 20 (L rfl) (c (pickF (L rfl) (q 20) (Opd.bool false)) rfl cn)))))))))))))))))) (by kernel_rfl) (by kernel_rfl)
      exact hjj117 _ h _ _ (mp [] _ _ hB)
   ·obtain⟨rfl,hmat⟩:=hR
    apply E4
    apply A3
    refine ghost hmat ?_
    obtain⟨hc125,h⟩:=D3 h
    obtain⟨r126,hr126,h⟩:=bindS h
    obtain⟨hc127,h⟩:=D3 h
    apply sd (c (mv hN (q 5)) rfl (c (fo 1002 0 [0] hN underlying123 0 tyS39 (q 2)) rfl (c (la hN 123 tyS39 (q 36)) rfl (c (fo 1002 11 [1] hN underlying123 11 tyS69 (q 2)) rfl (c (la hN 123 tyS69 (q 38)) rfl (c (mv hN (q 6)) rfl (c (mv hN (q 7)) rfl (c (OpJ.cutD underlying69 tyS33 (es':=((a0.fprefixes.take p111.toNat).drop s1.1.toNat).map A2) (l:=s1.1.toNat) (h:=p111.toNat) (.inr ⟨_,_,_,rfl,(ot 40 (i6 s1.1)),(of_decide_eq_true (G5 (G5 (G5 hc125)))),rfl⟩) (.inr ⟨_,_,_,rfl,(ot 41 (i6 p111)),(of_decide_eq_true (I6 (G5 (G5 hc125)))),rfl⟩) (of_decide_eq_true (I6 (G5 hc125))) (by first | (simp;done) | simpa using (of_decide_eq_true (I6 hc125))) (by first | rw [List.map_drop,List.map_take] | (simp [List.map_take,List.map_drop];done) | simp [List.take_of_length_le]) (L rfl) (q 39)) rfl (c (mv hN (q 1)) rfl (cg (cf hB fnOk114 (U7 a0.fattrs ((a0.fprefixes.take p111.toNat).drop s1.1.toNat) a1 r126 hr126) (L rfl) (OpdL.cons (q 37) (OpdL.cons (q 42) (OpdL.cons (q 43) OpdL.nil)))) rfl (c (buildSlice underlying57 tyS71 tyZD71 (by rfl) (by decide) (by decide) (Opds.cons (q 44) Opds.nil) (by kernel_rfl) (es:=([(B9 r126)]:List D)) (by rfl) (by rfl) (by kernel_rfl) (by simp) (L rfl)) rfl (cg (apd hB underlying57 tyE71 1046 B9 s1.2 [r126] hc127 (L rfl) (q 35) (q 45)) rfl (c (assign (L rfl) (q 46)) rfl cn))))))))))))) (by kernel_rfl) (by kernel_rfl)
    apply rg (c (mv hN (q 7)) rfl (c (assign (L rfl) (q 47)) rfl cn))
    apply F8
    obtain rfl:=oi h
    exact⟨rfl,(mp [(3005,1046)] _ _ hB)⟩
  ·have h:=B7 hg87 h
   apply AWp.exit
   apply F6
   obtain rfl:=oi h
   exact⟨(fun hc=>by cases hc),rfl,(mp [] _ _ hB)⟩
 ·obtain⟨rfl,hmat⟩:=hR
  apply E4
  apply A3
  refine ghost hmat ?_
  apply sr (c (mv hN (q 5)) rfl (c (assign (L rfl) (q 48)) rfl cn))
  apply ret
  obtain rfl:=oi h
  exact rt (Mat.trans (Mat.freezeP (n:=3005) (e:=71) (sz:=13) (es:=p86.map B9) (Ts:=[(4,(B8 p86))]) (Bs:=[]) (by rfl) (TwT.cons (x:=(.sref 3005 13 0 p86.length)) (by rfl) (FrzL.all (by first | rfl | (simp;done) | (simp;omega) | omega)) TwT.nil) TwB.nil) (mp [] [(4,(B8 p86))] [(500,some (.know (globD 0 (.imap gv0))))] hB)) [(B8 p86)] (rT rN) rfl
def A1e (a0:D5) (a1:Bool) (s1:Int×(List C9)) (s88:Int):Option (((Int))⊕(Int)) :=
 jn (fun m116:Bool =>
 (if m116=true then
 some (.inr (w64 (s88+1)))
 else
 some (.inl s88))) (fun j117 =>
 (if (decide (s88<(a0.fprefixes.length:Int)))=true then
 chk ((decide (0≤s1.1)&&decide (0≤(w64 (s88+1)))&&decide (s1.1.toNat≤(w64 (s88+1)).toNat)&&decide ((w64 (s88+1)).toNat≤a0.fprefixes.length))) <|
 (I2 a0.fattrs ((a0.fprefixes.take ((w64 (s88+1)).toNat)).drop s1.1.toNat) a1).bind fun r121 =>
 (M1 r121).bind fun r122 =>
 j117 r122
 else
 j117 false))
def A1f (a0:D5) (a1:Bool) (s1:Int×(List C9)):Option ((((List C9)))⊕(Int×(List C9))) :=
 (if (decide (s1.1<(a0.fprefixes.length:Int)))=true then
 (loop (A1e a0 a1 s1) (w64 (s1.1+1))).bind fun p111 =>
 chk ((decide (0≤s1.1)&&decide (0≤p111)&&decide (s1.1.toNat≤p111.toNat)&&decide (p111.toNat≤a0.fprefixes.length))) <|
 (I2 a0.fattrs ((a0.fprefixes.take p111.toNat).drop s1.1.toNat) a1).bind fun r126 =>
 chk (decide ((s1.2++[r126]).length≤LIM)) <|
 some (.inr (p111,(s1.2++[r126])))
 else
 some (.inl s1.2))
def A01 (a0:D5) (a1:Bool):Option ((List C9)) :=
 (loop (A1f a0 a1) (0,([]:List C9))).bind fun p86 =>
 some p86
theorem A6q (a0:D5) (a1:Bool) (r:(List C9)) (h:A01 a0 a1=some r):AC Tryz.prog 79 [(.d (D2 a0)),(.d (.bool a1))] [(500,(.know (globD 0 (.imap gv0))))] (.sref 900000 13 0 r.length) [(500,some (.know (globD 0 (.imap gv0)))),(900000,some (.row 71 13 (r.map B9)))]:=by
 refine ac2 Tryz.func79 rfl rfl fun B hB hN L => ?_
 delta A01 at h
 apply sr (cg (OpJ.box hB (nm:=1002) (by decide) (by simp) rfl (L rfl) (q 0)) rfl (c (assign (L rfl) Opd.nils) rfl cn))
 apply sr (c (assign (L rfl) Opd.nils) rfl cn)
 apply seq
 apply sr (c (assign (L rfl) (ii 0)) rfl cn)
 apply block
 obtain⟨p86,hx129,h⟩:=bindS h
 refine lg (A1f a0 a1) (fun s1:Int×(List C9)=>([(1,(bo a1)),(2,(pt 1002)),(5,(.sref 3005 13 0 s1.2.length)),(6,(i6 s1.1))]:EL)) (fun s1:Int×(List C9)=>([(500,some (.know (globD 0 (.imap gv0)))),(1002,bd 123 (D2 a0)),(3005,some (F5 s1.2))]:OL)) (fun(p86:((List C9))) e E' O'=>e = .exit 0∧Mat B E' O' ([(5,(.sref 3005 13 0 p86.length))]:EL) ([(500,some (.know (globD 0 (.imap gv0)))),(3005,some (F5 p86))]:OL)) hx129 (Mat.trans (Mat.beginP (n:=3005) (e:=71) (sz:=13) (Ts:=[(5,(.sref 3005 13 0 0))]) (Bs:=[]) hB (by decide) (by rfl) (by decide) (TwT.cons (x:=.nils) (by rfl) (Tw.leaf ⟨rfl,rfl⟩) TwT.nil) TwB.nil) (mp [] _ _ hB)) (fun s1 y h => ?_) (fun e E' O' hR => ?_)
 ·unfold A1f at h
  apply seq
  apply sr (c (mv hN (q 6)) rfl (c (fo 1002 11 [1] hN underlying123 11 tyS69 (q 2)) rfl (c (la hN 123 tyS69 (q 9)) rfl (c (OpJ.val (v':=(i6 (a0.fprefixes.length:Int))) (by simp) (lenD underlying69 (L rfl) (q 10))) rfl (c (lss (L rfl) (q 8) (q 11)) rfl cn)))))
  apply AWp.cond rfl<;>intro hg87
  ·have h:=B6 hg87 h
   apply AWp.skip
   apply A3
   apply block
   apply sr (c (mv hN (q 6)) rfl (c (add6 (L rfl) (q 13) (ii 1)) rfl (c (assign (L rfl) (q 14)) rfl cn)))
   apply seq
   apply block
   obtain⟨p111,hx124,h⟩:=bindS h
   refine lg (A1e a0 a1 s1) (fun s88:Int=>([(1,(bo a1)),(2,(pt 1002)),(5,(.sref 3005 13 0 s1.2.length)),(6,(i6 s1.1)),(7,(i6 s88))]:EL)) (fun s88:Int=>([(500,some (.know (globD 0 (.imap gv0)))),(1002,bd 123 (D2 a0)),(3005,some (F5 s1.2))]:OL)) (fun(p111:(Int)) e E' O'=>e = .exit 2∧Mat B E' O' ([(1,(bo a1)),(2,(pt 1002)),(5,(.sref 3005 13 0 s1.2.length)),(6,(i6 s1.1)),(7,(i6 p111))]:EL) ([(500,some (.know (globD 0 (.imap gv0)))),(1002,bd 123 (D2 a0)),(3005,some (F5 s1.2))]:OL)) hx124 (mp [] _ _ hB) (fun s88 y h => ?_) (fun e E' O' hR => ?_)
   ·unfold A1e at h
    apply seq
    apply seq
    refine AWp.cut h (fun m116:Bool=>([(1,(bo a1)),(2,(pt 1002)),(5,(.sref 3005 13 0 s1.2.length)),(6,(i6 s1.1)),(7,(i6 s88)),(32,(bo m116))]:EL)) (fun m116:Bool=>([(500,some (.know (globD 0 (.imap gv0)))),(1002,bd 123 (D2 a0)),(3005,some (F5 s1.2))]:OL)) (fun m116 h E' O' hmat => ?_) (fun j117 hjj117 h => ?_)
    ·apply A3
     refine ghost hmat ?_
     apply AWp.cond rfl<;>intro hg118
     ·have h:=B6 hg118 h
      apply AWp.skip
      apply A3
      apply block
      apply rg (c (mv hN (q 7)) rfl (c (add6 (L rfl) (q 33) (ii 1)) rfl (c (assign (L rfl) (q 34)) rfl cn)))
      apply F8
      obtain rfl:=oi h
      exact⟨rfl,(mp [] _ _ hB)⟩
     ·have h:=B7 hg118 h
      apply AWp.exit
      apply F6
      obtain rfl:=oi h
      exact⟨(fun hc=>by cases hc),rfl,(mp [] _ _ hB)⟩
    ·rcases bft (decide (s88<(a0.fprefixes.length:Int))) with hg119 | hg119
     ·have h:=B6 hg119 h
      obtain⟨hc120,h⟩:=D3 h
      obtain⟨r121,hr121,h⟩:=bindS h
      obtain⟨r122,hr122,h⟩:=bindS h
      refine AWp.draws (by kernel_rfl) (oc (mv hN (ot 7 (i6 s88)))
       (oc (ov (.ptr 1002 11 [1]) (fp hN underlying123 11 tyS69 (.box 123 (.d (D2 a0))) (ot 2 (pt 1002))))
       (oc (lb hN 123 (.d (D2 a0)) (C1 a0.fprefixes) tyS69 (ad (.list 4 (a0.fprefixes.map A2))) (ot 16 (.ptr 1002 11 [1])))
       (oc (OpJ.val (v':=(i6 (a0.fprefixes.length:Int))) (by simp) (lenD underlying69 (L rfl) (ot 17 (C1 a0.fprefixes))))
       (oc (lss (L rfl) (ot 15 (i6 s88)) (ot 18 (i6 (a0.fprefixes.length:Int))))
       (oc (OpJ.val (v':=.d (.bool true)) (by rw [hg119]<;>rfl) (mv hN (ot 19 (bo (decide (s88<(a0.fprefixes.length:Int)))))))
       (oc (gd 20 (ov (.ptr 1002 0 [0]) (fp hN underlying123 0 tyS39 (.box 123 (.d (D2 a0))) (ot 2 (pt 1002)))))
       (oc (gd 20 (lb hN 123 (.d (D2 a0)) (.d (A8 a0.fattrs)) tyS39 (ad (A8 a0.fattrs)) (ot 21 (.ptr 1002 0 [0]))))
       (oc (gd 20 (ov (.ptr 1002 11 [1]) (fp hN underlying123 11 tyS69 (.box 123 (.d (D2 a0))) (ot 2 (pt 1002)))))
       (oc (gd 20 (lb hN 123 (.d (D2 a0)) (C1 a0.fprefixes) tyS69 (ad (.list 4 (a0.fprefixes.map A2))) (ot 23 (.ptr 1002 11 [1]))))
       (oc (gd 20 (mv hN (ot 6 (i6 s1.1))))
       (oc (gd 20 (mv hN (ot 7 (i6 s88))))
       (oc (gd 20 (add6 (L rfl) (ot 26 (i6 s88)) (ii 1)))
       (oc (gd 20 (OpJ.cutD underlying69 tyS33 (es:=a0.fprefixes.map A2) (es':=((a0.fprefixes.take ((w64 (s88+1)).toNat)).drop s1.1.toNat).map A2) (l:=s1.1.toNat) (h:=(w64 (s88+1)).toNat) (.inr ⟨_,_,_,rfl,(ot 25 (i6 s1.1)),(of_decide_eq_true (G5 (G5 (G5 hc120)))),rfl⟩) (.inr ⟨_,_,_,rfl,(ot 27 (i6 (w64 (s88+1)))),(of_decide_eq_true (I6 (G5 (G5 hc120)))),rfl⟩) (of_decide_eq_true (I6 (G5 hc120))) (by first | (simp;done) | simpa using (of_decide_eq_true (I6 hc120))) (by first | rw [List.map_drop,List.map_take] | (simp [List.map_take,List.map_drop];done) | simp [List.take_of_length_le]) (L rfl) (ot 24 (C1 a0.fprefixes))))
       (oc (gd 20 (mv hN (ot 1 (bo a1))))
       (oc (gd 20 (OpJ.callFn hB fnOk114 (U7 a0.fattrs ((a0.fprefixes.take ((w64 (s88+1)).toNat)).drop s1.1.toNat) a1 r121 hr121) [] (by kernel_rfl) (L rfl) (by kernel_rfl) (OpdL.cons (ot 22 (.d (A8 a0.fattrs))) (OpdL.cons (ot 28 (C1 ((a0.fprefixes.take ((w64 (s88+1)).toNat)).drop s1.1.toNat))) (OpdL.cons (ot 29 (bo a1)) OpdL.nil)))))
       (oc (gd 20 (OpJ.callFn hB fnOk113 (A1x r121 r122 hr122) [(500,500)] (by kernel_rfl) (L rfl) (by kernel_rfl) (OpdL.cons (ot 30 (.d (B9 r121))) OpdL.nil)))
       (oc (pickT (L rfl) (ot 20 (bo true)) (ot 31 (bo r122)))
       (OpJs.nil))))))))))))))))))) (by kernel_rfl) (by rfl) (by rfl) ?_
      exact hjj117 _ h _ _ (mp [] _ _ hB)
     ·have h:=B7 hg119 h
      apply dr (c (mv hN (q 7)) rfl (c (fo 1002 11 [1] hN underlying123 11 tyS69 (q 2)) rfl (c (la hN 123 tyS69 (q 16)) rfl (c (OpJ.val (v':=(i6 (a0.fprefixes.length:Int))) (by simp) (lenD underlying69 (L rfl) (q 17))) rfl (c (lss (L rfl) (q 15) (q 18)) rfl (c (OpJ.val (v':=.d (.bool false)) (by rw [hg119]<;>rfl) (mv hN (q 19))) rfl (ks 20 (L rfl) (ks 20 (L rfl) (ks 20 (L rfl) (ks 20 (L rfl) (ks 20 (L rfl) (ks 20 (L rfl) (ks 20 (L rfl) (ks 20 (L rfl) (ks 20 (L rfl) (ks 20 (L rfl) (ks 20 (L rfl) (c (pickF (L rfl) (q 20) (Opd.bool false)) rfl cn)))))))))))))))))) (by kernel_rfl) (by kernel_rfl)
      exact hjj117 _ h _ _ (mp [] _ _ hB)
   ·obtain⟨rfl,hmat⟩:=hR
    apply E4
    apply A3
    refine ghost hmat ?_
    obtain⟨hc125,h⟩:=D3 h
    obtain⟨r126,hr126,h⟩:=bindS h
    obtain⟨hc127,h⟩:=D3 h
    apply sd (c (mv hN (q 5)) rfl (c (fo 1002 0 [0] hN underlying123 0 tyS39 (q 2)) rfl (c (la hN 123 tyS39 (q 36)) rfl (c (fo 1002 11 [1] hN underlying123 11 tyS69 (q 2)) rfl (c (la hN 123 tyS69 (q 38)) rfl (c (mv hN (q 6)) rfl (c (mv hN (q 7)) rfl (c (OpJ.cutD underlying69 tyS33 (es':=((a0.fprefixes.take p111.toNat).drop s1.1.toNat).map A2) (l:=s1.1.toNat) (h:=p111.toNat) (.inr ⟨_,_,_,rfl,(ot 40 (i6 s1.1)),(of_decide_eq_true (G5 (G5 (G5 hc125)))),rfl⟩) (.inr ⟨_,_,_,rfl,(ot 41 (i6 p111)),(of_decide_eq_true (I6 (G5 (G5 hc125)))),rfl⟩) (of_decide_eq_true (I6 (G5 hc125))) (by first | (simp;done) | simpa using (of_decide_eq_true (I6 hc125))) (by first | rw [List.map_drop,List.map_take] | (simp [List.map_take,List.map_drop];done) | simp [List.take_of_length_le]) (L rfl) (q 39)) rfl (c (mv hN (q 1)) rfl (cg (cf hB fnOk114 (U7 a0.fattrs ((a0.fprefixes.take p111.toNat).drop s1.1.toNat) a1 r126 hr126) (L rfl) (OpdL.cons (q 37) (OpdL.cons (q 42) (OpdL.cons (q 43) OpdL.nil)))) rfl (c (buildSlice underlying57 tyS71 tyZD71 (by rfl) (by decide) (by decide) (Opds.cons (q 44) Opds.nil) (by kernel_rfl) (es:=([(B9 r126)]:List D)) (by rfl) (by rfl) (by kernel_rfl) (by simp) (L rfl)) rfl (cg (apd hB underlying57 tyE71 1046 B9 s1.2 [r126] hc127 (L rfl) (q 35) (q 45)) rfl (c (assign (L rfl) (q 46)) rfl cn))))))))))))) (by kernel_rfl) (by kernel_rfl)
    apply rg (c (mv hN (q 7)) rfl (c (assign (L rfl) (q 47)) rfl cn))
    apply F8
    obtain rfl:=oi h
    exact⟨rfl,(mp [(3005,1046)] _ _ hB)⟩
  ·have h:=B7 hg87 h
   apply AWp.exit
   apply F6
   obtain rfl:=oi h
   exact⟨(fun hc=>by cases hc),rfl,(mp [] _ _ hB)⟩
 ·obtain⟨rfl,hmat⟩:=hR
  apply E4
  apply A3
  refine ghost hmat ?_
  apply sr (c (mv hN (q 5)) rfl (c (assign (L rfl) (q 48)) rfl cn))
  apply ret
  obtain rfl:=oi h
  exact rt (mp [(900000,3005)] [(4,(.sref 900000 13 0 p86.length))] [(500,some (.know (globD 0 (.imap gv0)))),(900000,some (F5 p86))] hB) [(.sref 900000 13 0 p86.length)] (rT rN) rfl
end
end Go.Proofs.YtplbaenjbihekaaGreatDoor
