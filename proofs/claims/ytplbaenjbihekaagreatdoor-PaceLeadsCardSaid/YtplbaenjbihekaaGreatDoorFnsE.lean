/- Printed by gen.py: the Go functions as plain functions, and that the code does what they say. -/
import Derived.Test.YtplbaenjbihekaaGreatDoorChecked
import Derived.Test.YtplbaenjbihekaaGreatDoorVcYB
import Derived.Test.YtplbaenjbihekaaGreatDoorVcZ
import Derived.Test.YtplbaenjbihekaaGreatDoorVcGC
import Derived.KernelRfl
import Derived.Test.YtplbaenjbihekaaGreatDoorVcMD
import Derived.Test.YtplbaenjbihekaaGreatDoorVcMQ
import Derived.Test.YtplbaenjbihekaaGreatDoorVcSG
import Derived.Test.YtplbaenjbihekaaGreatDoorFnsD
import Derived.Test.YtplbaenjbihekaaGreatDoorExt
import Derived.Test.YtplbaenjbihekaaGreatDoorVcPm
import Derived.Test.YtplbaenjbihekaaGreatDoorVcRg
import Derived.Test.YtplbaenjbihekaaGreatDoorVcSt
import Derived.Test.YtplbaenjbihekaaGreatDoorVcMR
import Derived.Test.YtplbaenjbihekaaGreatDoorVcFu
namespace Go.Proofs.YtplbaenjbihekaaGreatDoor
open Go Go.Vc
open Tryz
open Go.Vc.OpJ (assign alloc lss pickT pickF extract lenD indexD loadD eqlI gtr callVal leq geq loadR nilP indexS buildSlice lenS fieldD neqI pickAnd pickOr)
open Go.Vc.AWp (seq ghost ret block)
set_option maxHeartbeats 4000000
set_option maxRecDepth 100000
noncomputable section
def Y7 (a0:(List A1)) (s1:Int×(List D5)×(List A0)):Option (((Unit)⊕((List D5)×(List A0)))⊕(Int×(List D5)×(List A0))) :=
 (if (decide (s1.1<(a0.length:Int)))=true then
 jn (fun m152:(List D5)×(List A0) =>
 some (.inr ((w64 (s1.1+1)),m152.1,m152.2))) (fun j153 =>
 (idx a0 s1.1).bind fun x154 =>
 jn (fun m161:Bool =>
 (if m161=true then
 some (.inl (.inl ()))
 else
 (if (!x154.fHas)=true then
 chk (decide ((s1.2.2++[x154.fPrefix]).length≤LIM)) <|
 j153 (s1.2.1,(s1.2.2++[x154.fPrefix]))
 else
 (P3 s1.2.1 x154).bind fun r166 =>
 jn (fun m169:Int×(List D5) =>
 (idx m169.2 m169.1).bind fun _ =>
 (idx m169.2 m169.1).bind fun x172 =>
 chk (decide ((x172.fprefixes++[x154.fPrefix]).length≤LIM)) <|
 (idx m169.2 m169.1).bind fun _ =>
 (idx m169.2 m169.1).bind fun x175 =>
 j153 ((m169.2.set m169.1.toNat (D5.mk x175.fattrs (x172.fprefixes++[x154.fPrefix]))),s1.2.2)) (fun j170 =>
 (if (decide (r166<0))=true then
 chk (decide ((s1.2.1++([(D5.mk x154.fRoute.fAttrs ([]:List A0))]:List D5)).length≤LIM)) <|
 j170 ((s1.2.1.length:Int),(s1.2.1++([(D5.mk x154.fRoute.fAttrs ([]:List A0))]:List D5)))
 else
 j170 (r166,s1.2.1)))))) (fun j162 =>
 (A2e x154).bind fun r178 =>
 (if (!r178)=true then
 j162 true
 else
 (if (decide (0<s1.1))=true then
 (idx a0 (w64 (s1.1-1))).bind fun x181 =>
 (A1d x181.fPrefix x154.fPrefix).bind fun r182 =>
 j162 (decide (0≤r182))
 else
 j162 false))))
 else
 some (.inl (.inr (s1.2.1,s1.2.2))))
def A0z (p121:(List D5)×(List A0)) (s186:Int×(List C9)):Option ((((List C9)))⊕(Int×(List C9))) :=
 (if (decide (s186.1<(p121.1.length:Int)))=true then
 (idx p121.1 s186.1).bind fun x198 =>
 (Q9 x198 true).bind fun r199 =>
 chk (decide ((s186.2++r199).length≤LIM)) <|
 some (.inr ((w64 (s186.1+1)),(s186.2++r199)))
 else
 some (.inl s186.2))
def A26 (a0:(List A1)):Option ((List C9)×Int) :=
 (loop (Y7 a0) (0,([]:List D5),([]:List A0))).bind fun x183=>match x183 with
 | (.inl _) =>
  some (([]:List C9),1)
 | (.inr p121) =>
  (A01 (D5.mk (D9.mk 0 ([]:List B2) (E7.mk false 0 0) 0 0 0 ([]:List C6) ([]:List G0) ([]:List A7)) p121.2) false).bind fun r185 =>
  (loop (A0z p121) (0,r185)).bind fun p196 =>
  some (p196,0)
theorem A68 (a0:(List A1)) (r:(List C9)×Int) (h:A26 a0=some r):AC Tryz.prog 46 [(.d (.list 22 (a0.map A6)))] [(500,(.know (globD 0 (.imap gv0))))] (.tup [(.d (.list 13 (r.1.map B9))),(.d (.int .i64 r.2))]) [(500,some (.know (globD 0 (.imap gv0))))]:=by
 refine ac2 Tryz.func46 rfl rfl fun B hB hN L => ?_
 delta A26 at h
 apply sr (c (assign (L rfl) Opd.nils) rfl (c (assign (L rfl) (ii 0)) rfl cn))
 apply sr (cg (alloc hB tyZ123 (nm:=1004) (by decide) (L rfl)) rfl cn)
 apply sr (c (assign (L rfl) Opd.nils) rfl cn)
 apply seq
 apply sr (c (mv hN (q 0)) rfl (c (OpJ.val (v':=(i6 (a0.length:Int))) (by simp) (lenD underlying22 (L rfl) (q 12))) rfl (c (mv hN (ii 0)) rfl cn)))
 apply block
 obtain⟨x183,hx184,h⟩:=bindS h
 refine lg (Y7 a0) (fun s1:Int×(List D5)×(List A0)=>([(0,(B0 a0)),(4,(pt 1004)),(5,(.sref 3005 12 0 s1.2.1.length)),(12,(B0 a0)),(13,(i6 (a0.length:Int))),(14,(i6 s1.1))]:EL)) (fun s1:Int×(List D5)×(List A0)=>([(500,some (.know (globD 0 (.imap gv0)))),(1004,some (.box 123 (.st [(.st [(i6 0),.nils,(.d (.st [(.bool false),(.int .u64 0),(.int .u64 0)])),(i6 0),(i6 0),(i6 0),.nils,.nils,.nils]),(.sref 13041 4 0 s1.2.2.length)]))),(3005,some (.reg (nrow 123 12 1 33 4 (s1.2.1.map D2) none))),(13041,some (G3 s1.2.2))]:OL)) (fun(x:(Unit)⊕((List D5)×(List A0))) e E' O'=>match x with | (.inl _p)=>e = .ret∧Mat B E' O' ([(2,.nils),(3,(i6 1))]:EL) ([(500,some (.know (globD 0 (.imap gv0))))]:OL) | (.inr p121)=>e = .exit 0∧Mat B E' O' ([(4,(pt 1004)),(5,(.sref 3005 12 0 p121.1.length))]:EL) ([(500,some (.know (globD 0 (.imap gv0)))),(1004,some (.box 123 (.st [(.st [(i6 0),.nils,(.d (.st [(.bool false),(.int .u64 0),(.int .u64 0)])),(i6 0),(i6 0),(i6 0),.nils,.nils,.nils]),(.sref 13041 4 0 p121.2.length)]))),(3005,some (.reg (nrow 123 12 1 33 4 (p121.1.map D2) none))),(13041,some (G3 p121.2))]:OL)) hx184 (Mat.trans (Mat.beginG (n:=3005) (e:=123) (sz:=12) (j:=1) (e2:=33) (sz2:=4) (Ts:=[(5,(.sref 3005 12 0 0))]) (Bs:=[]) hB (by decide) (by decide) (by rfl) (by decide) (TwT.cons (x:=.nils) (by rfl) (Tw.leaf ⟨rfl,rfl⟩) TwT.nil) TwB.nil) (Mat.trans (Mat.beginP (n:=13041) (e:=33) (sz:=4) (Ts:=[]) (Bs:=[(1004,some (.box 123 (.st [(.st [(i6 0),.nils,(.d (.st [(.bool false),(.int .u64 0),(.int .u64 0)])),(i6 0),(i6 0),(i6 0),.nils,.nils,.nils]),(.sref 13041 4 0 0)])))]) hB (by decide) (by rfl) (by decide) TwT.nil (TwB.cons (x:=(.st [(.st [(i6 0),.nils,(.d (.st [(.bool false),(.int .u64 0),(.int .u64 0)])),(i6 0),(i6 0),(i6 0),.nils,.nils,.nils]),.nils])) (by rfl) (Tw.st (TwL.cons (Tw.same _) (TwL.cons (Tw.leaf ⟨rfl,rfl⟩) TwL.nil))) TwB.nil)) (mp [] _ _ hB))) (fun s1 y h => ?_) (fun e E' O' hR => ?_)
 ·unfold Y7 at h
  apply sr (c (lss (L rfl) (q 14) (q 13)) rfl cn)
  apply seq
  apply AWp.cond rfl<;>intro hg122
  ·have h:=B6 hg122 h
   apply AWp.skip
   apply A3
   apply seq
   refine AWp.cut h (fun m152:(List D5)×(List A0)=>([(0,(B0 a0)),(4,(pt 1004)),(5,(.sref 3005 12 0 m152.1.length)),(12,(B0 a0)),(13,(i6 (a0.length:Int))),(14,(i6 s1.1))]:EL)) (fun m152:(List D5)×(List A0)=>([(500,some (.know (globD 0 (.imap gv0)))),(1004,some (.box 123 (.st [(.st [(i6 0),.nils,(.d (.st [(.bool false),(.int .u64 0),(.int .u64 0)])),(i6 0),(i6 0),(i6 0),.nils,.nils,.nils]),(.sref 13041 4 0 m152.2.length)]))),(3005,some (.reg (nrow 123 12 1 33 4 (m152.1.map D2) none))),(13041,some (G3 m152.2))]:OL)) (fun m152 h E' O' hmat => ?_) (fun j153 hjj153 h => ?_)
   ·apply A3
    refine ghost hmat ?_
    apply rg (c (add6 (L rfl) (q 14) (ii 1)) rfl (c (mv hN (q 75)) rfl cn))
    obtain rfl:=oi h
    exact⟨rfl,(mp [] _ _ hB)⟩
   ·apply block
    obtain⟨x154,hx154,h⟩:=bindS h
    apply sr (c (mv hN (q 14)) rfl (c (indexD underlying22 tyS43 (A4 hx154).1 (C8 A6 (A4 hx154).2) (L rfl) (q 12) (q 14)) rfl (c (loadD tyS43 (by rfl) (by rfl) (L rfl) (q 17)) rfl (cg (alloc hB tyZ43 (nm:=1007) (by decide) (L rfl)) rfl (c (assign (L rfl) (q 16)) rfl (cg (sB tyS43 (q 7) (q 18)) rfl cn))))))
    apply seq
    apply seq
    refine AWp.cut h (fun m161:Bool=>([(0,(B0 a0)),(4,(pt 1004)),(5,(.sref 3005 12 0 s1.2.1.length)),(7,(pt 1007)),(12,(B0 a0)),(13,(i6 (a0.length:Int))),(14,(i6 s1.1)),(37,(bo m161))]:EL)) (fun m161:Bool=>([(500,some (.know (globD 0 (.imap gv0)))),(1004,some (.box 123 (.st [(.st [(i6 0),.nils,(.d (.st [(.bool false),(.int .u64 0),(.int .u64 0)])),(i6 0),(i6 0),(i6 0),.nils,.nils,.nils]),(.sref 13041 4 0 s1.2.2.length)]))),(1007,bd 43 (A6 x154)),(3005,some (.reg (nrow 123 12 1 33 4 (s1.2.1.map D2) none))),(13041,some (G3 s1.2.2))]:OL)) (fun m161 h E' O' hmat => ?_) (fun j162 hjj162 h => ?_)
    ·apply A3
     refine ghost hmat ?_
     apply AWp.cond rfl<;>intro hg163
     ·have h:=B6 hg163 h
      apply sr (c (assign (L rfl) Opd.nils) rfl (c (assign (L rfl) (ii 1)) rfl cn))
      apply ret
      apply D4
      apply F7
      apply D4
      obtain rfl:=oi h
      exact⟨(fun hc=>by cases hc),rfl,(mp [] _ _ hB)⟩
     ·have h:=B7 hg163 h
      apply AWp.skip
      apply A3
      apply seq
      apply sr (c (fo 1007 5 [2] hN underlying43 5 tyS4 (q 7)) rfl (c (la hN 43 tyS4 (q 38)) rfl (c (OpJ.not (L rfl) (q 39)) rfl cn)))
      apply AWp.cond rfl<;>intro hg164
      ·have h:=B6 hg164 h
       obtain⟨hc165,h⟩:=D3 h
       apply sr (c (fo 1004 11 [1] hN underlying123 11 tyS69 (q 4)) rfl (c (lb hN 123 _ (.sref 13041 4 0 s1.2.2.length) tyS69 (At.st1 (f:=(.sref 13041 4 0 s1.2.2.length)) (by rfl) (by rfl) (At.here _) (by first | rfl | omega)) (q 41)) rfl (c (fo 1007 1 [1] hN underlying43 1 tyS33 (q 7)) rfl (c (la hN 43 tyS33 (q 43)) rfl (c (buildSlice underlying69 tyS33 tyZD33 (by rfl) (by decide) (by decide) (Opds.cons (q 44) Opds.nil) (by kernel_rfl) (es:=([(A2 x154.fPrefix)]:List D)) (by rfl) (by rfl) (by kernel_rfl) (by simp) (L rfl)) rfl (cg (apd hB underlying69 tyE33 1046 A2 s1.2.2 [x154.fPrefix] hc165 (L rfl) (q 42) (q 45)) rfl (c (fo 1004 11 [1] hN underlying123 11 tyS69 (q 4)) rfl (cg (OpJ.storeB (c':=(.st [(.st [(i6 0),.nils,(.d (.st [(.bool false),(.int .u64 0),(.int .u64 0)])),(i6 0),(i6 0),(i6 0),.nils,.nils,.nils]),(.sref 1046 4 0 ((s1.2.2++[x154.fPrefix]).length))])) tyS69 (SetAt.st1 (f:=(.sref 13041 4 0 s1.2.2.length)) (by rfl) (by rfl) (SetAt.here _ _) (by rfl) (by rfl) (by first | rfl | omega)) (by rfl) (by rfl) (by simp) rfl (q 47) (q 46)) rfl cn))))))))
       refine gh [(0,_),(4,_),(5,_),(12,_),(13,_),(14,_)] [(500,some _),(1004,some _),(1046,some _),(3005,some _)] hB rfl rfl (by rfl) ?_
       apply AWp.exit
       apply F6
       apply E4
       exact hjj153 _ h _ _ (mp [(13041,1046)] _ _ hB)
      ·have h:=B7 hg164 h
       apply AWp.skip
       apply A3
       obtain⟨r166,hr166,h⟩:=bindS h
       apply sr (c (mv hN (q 5)) rfl (cg (OpJ.makeF (OpdL.cons (q 7) OpdL.nil) rfl rfl (L rfl)) rfl (cg (OpJ.peek [(3005,(.reg (nrow 123 12 1 33 4 (s1.2.1.map D2) none))),(1007,(.box 43 (.d (A6 x154))))] fnOk76 (A47 s1.2.1 x154 r166 hr166) rfl (L rfl) (by kernel_rfl) (OpdL.cons (q 48) (OpdL.cons (q 49) OpdL.nil)) (PkL.cons (Pk.reg (List.Mem.head _) (by simp)) (PkL.cons (Pk.fn (PkL.cons (Pk.box (List.Mem.tail _ (List.Mem.head _)) (Co.d _)) PkL.nil)) PkL.nil))) rfl (c (assign (L rfl) (q 50)) rfl cn))))
       apply seq
       apply sr (c (mv hN (q 8)) rfl (c (lss (L rfl) (q 51) (ii 0)) rfl cn))
       refine gh [(0,_),(4,_),(5,_),(7,_),(8,_),(12,_),(13,_),(14,_),(52,_)] [(500,some _),(1004,some _),(1007,some _),(3005,some _),(13041,some _)] hB rfl rfl (by rfl) ?_
       refine AWp.cut h (fun m169:Int×(List D5)=>([(0,(B0 a0)),(4,(pt 1004)),(5,(.sref 3005 12 0 m169.2.length)),(7,(pt 1007)),(8,(i6 m169.1)),(12,(B0 a0)),(13,(i6 (a0.length:Int))),(14,(i6 s1.1))]:EL)) (fun m169:Int×(List D5)=>([(500,some (.know (globD 0 (.imap gv0)))),(1004,some (.box 123 (.st [(.st [(i6 0),.nils,(.d (.st [(.bool false),(.int .u64 0),(.int .u64 0)])),(i6 0),(i6 0),(i6 0),.nils,.nils,.nils]),(.sref 13041 4 0 s1.2.2.length)]))),(1007,bd 43 (A6 x154)),(3005,some (.reg (nrow 123 12 1 33 4 (m169.2.map D2) none))),(13041,some (G3 s1.2.2))]:OL)) (fun m169 h E' O' hmat => ?_) (fun j170 hjj170 h => ?_)
       ·apply A3
        refine ghost hmat ?_
        obtain⟨_,hx171,h⟩:=bindS h
        obtain⟨x172,hx172,h⟩:=bindS h
        obtain⟨hc173,h⟩:=D3 h
        obtain⟨_,hx174,h⟩:=bindS h
        obtain⟨x175,hx175,h⟩:=bindS h
        apply dr (c (mv hN (q 5)) rfl (c (mv hN (q 8)) rfl (c (mv hN (q 5)) rfl (c (mv hN (q 8)) rfl (c (OpJ.val (v':=(.ptr 3005 (m169.1.toNat*12) [m169.1.toNat])) (by simp) (indexS underlying124 tyS123 (A4 hx171).1 (by have:=A1b hx171;first | (simpa using this) | ((try simp only [List.length_map] at this);(try simp only [List.length_map]);omega)) (L rfl) (q 64) (q 65))) rfl (c (ov (.ptr 3005 ((m169.1.toNat*12)+11) [m169.1.toNat,1]) (fp hN underlying123 11 tyS69 _ (q 66))) rfl (cg (OpJ.takeG hB (m:=1068) (e:=123) (sz:=12) (j:=1) (e2:=33) (sz2:=4) (len:=x172.fprefixes.length) (es:=m169.2.map D2) (pre:=([(A8 x172.fattrs)]:List D)) (inner:=x172.fprefixes.map A2) (post:=([]:List D)) tyS69 (by decide) (C8 D2 (A4 hx172).2) (by rfl) (o:=11) (by rfl) (by rfl) (by simp) (L rfl) (q 67)) rfl (c (fo 1007 1 [1] hN underlying43 1 tyS33 (q 7)) rfl (c (la hN 43 tyS33 (q 69)) rfl (c (buildSlice underlying69 tyS33 tyZD33 (by rfl) (by decide) (by decide) (Opds.cons (q 70) Opds.nil) (by kernel_rfl) (es:=([(A2 x154.fPrefix)]:List D)) (by rfl) (by rfl) (by kernel_rfl) (by simp) (L rfl)) rfl (cg (apd hB underlying69 tyE33 1072 A2 x172.fprefixes [x154.fPrefix] hc173 (L rfl) (q 68) (q 71)) rfl (c (OpJ.val (v':=(.ptr 3005 (m169.1.toNat*12) [m169.1.toNat])) (by simp) (indexS underlying124 tyS123 (A4 hx174).1 (by have:=A1b hx174;first | (simpa using this) | ((try simp only [List.length_map] at this);(try simp only [List.length_map]);omega)) (L rfl) (q 62) (q 63))) rfl (c (ov (.ptr 3005 ((m169.1.toNat*12)+11) [m169.1.toNat,1]) (fp hN underlying123 11 tyS69 _ (q 73))) rfl (cg (OpJ.putG (e:=123) (sz:=12) (j:=1) (e2:=33) (sz2:=4) (es:=m169.2.map D2) (es':=(m169.2.set m169.1.toNat (D5.mk x175.fattrs (x172.fprefixes++[x154.fPrefix]))).map D2) (pre:=([(A8 x175.fattrs)]:List D)) (inner0:=x175.fprefixes.map A2) (inner:=(x172.fprefixes++[x154.fPrefix]).map A2) (post:=([]:List D)) tyS69 (C8 D2 (A4 hx175).2) (A61 _ _ _ _) (by rfl) (o:=11) (by rfl) (by rfl) (by simp) (q 74) (q 72)) rfl cn)))))))))))))) (by kernel_rfl) (by kernel_rfl)
        apply F8
        exact hjj153 _ h _ _ (Mat.trans (mp [] [(0,(B0 a0)),(4,(pt 1004)),(5,(.sref 3005 12 0 m169.2.length)),(12,(B0 a0)),(13,(i6 (a0.length:Int))),(14,(i6 s1.1))] [(500,some (.know (globD 0 (.imap gv0)))),(1004,some (.box 123 (.st [(.st [(i6 0),.nils,(.d (.st [(.bool false),(.int .u64 0),(.int .u64 0)])),(i6 0),(i6 0),(i6 0),.nils,.nils,.nils]),(.sref 13041 4 0 s1.2.2.length)]))),(3005,some (.reg (nrow 123 12 1 33 4 ((m169.2.set m169.1.toNat (D5.mk x175.fattrs (x172.fprefixes++[x154.fPrefix]))).map D2) none))),(13041,some (G3 s1.2.2))] hB) (Mat.trans (Mat.lenP (Ts:=[(5,(.sref 3005 12 0 ((m169.2.set m169.1.toNat (D5.mk x175.fattrs (x172.fprefixes++[x154.fPrefix]))).length)))]) (Bs:=[]) (TwT.cons (x:=(.sref 3005 12 0 m169.2.length)) (by rfl) (Tw.leaf ⟨_,_,_,_,_,rfl,rfl,(by first | rfl | (simp;done) | (simp;omega) | omega)⟩) TwT.nil) TwB.nil) (mp [] _ _ hB)))
       ·apply AWp.cond rfl<;>intro hg176
        ·have h:=B6 hg176 h
         apply sr (c (mv hN (q 5)) rfl (c (lenS underlying124 (L rfl) (q 53)) rfl (c (assign (L rfl) (q 54)) rfl cn)))
         obtain⟨hc177,h⟩:=D3 h
         apply rg (c (mv hN (q 5)) rfl (c (fo 1007 6 [3] hN underlying43 6 tyS41 (q 7)) rfl (c (fo 1007 11 [3,2] hN underlying41 5 tyS39 (q 56)) rfl (c (lb hN 43 _ _ tyS39 (At.dst1 (by rfl) (by rfl) (ad _) (by first | rfl | omega)) (q 57)) rfl (c (OpJ.build (places:=[(0,11),(11,1)]) ⟨underlying123,fun w=>by kernel_rfl⟩ tyZS123 (Opds.cons (q 58) Opds.nil) (by kernel_rfl) (r:=(.st [(.d (A8 x154.fRoute.fAttrs)),.nils])) (by rfl) (L rfl)) rfl (cg (OpJ.buildSliceG (e:=123) (sz:=12) (j:=1) (e2:=33) (sz2:=4) (z:=(.st [(.st [(.int .i64 0),(.list 2 (([]:List B2).map B4)),(.st [(.bool false),(.int .u64 0),(.int .u64 0)]),(.int .i64 0),(.int .i64 0),(.int .i64 0),(.list 2 (([]:List C6).map B1)),(.list 3 (([]:List G0).map C7)),(.list 3 (([]:List A7).map A5))]),(.list 4 (([]:List A0).map A2))])) underlying124 tyS123 tyZD123 (by rfl) (by decide) (by decide) (by decide) hB (nm:=1060) (by decide) (pre:=([(A8 x154.fRoute.fAttrs)]:List D)) (post:=([]:List D)) (q 59) (by kernel_rfl) (es:=([(D5.mk x154.fRoute.fAttrs ([]:List A0))]:List D5).map D2) (by rfl) (by rfl) (by kernel_rfl) (L rfl)) rfl (cg (OpJ.appendG hB underlying124 tyE123 (nm:=1061) (by decide) (j:=1) (e2:=33) (sz2:=4) (es:=s1.2.1.map D2) (ys:=([(D5.mk x154.fRoute.fAttrs ([]:List A0))]:List D5).map D2) (es':=(s1.2.1++([(D5.mk x154.fRoute.fAttrs ([]:List A0))]:List D5)).map D2) (len:=(s1.2.1++([(D5.mk x154.fRoute.fAttrs ([]:List A0))]:List D5)).length) (by rfl) (by simp) (by simp) (by simp) (by rw [List.length_map];exact J6 hc177 (by decide)) (by rw [List.length_map];exact M6 hc177) (L rfl) (by simp) (by simp) (q 55) (q 60)) rfl (c (assign (L rfl) (q 61)) rfl cn))))))))
         exact hjj170 _ h _ _ (mp [(3005,1061)] _ _ hB)
        ·have h:=B7 hg176 h
         apply AWp.skip
         exact hjj170 _ h _ _ (mp [] _ _ hB)
    ·obtain⟨r178,hr178,h⟩:=bindS h
     rcases bft (!r178) with hg179 | hg179
     ·have h:=B6 hg179 h
      refine AWp.draws (by kernel_rfl) (oc (lb hN 43 (.d (A6 x154)) (.d (A6 x154)) tyS43 (At.here _) (ot 7 (pt 1007)))
       (oc (OpJ.callFn hB fnOk75 (A33 x154 r178 hr178) [(500,500)] (by kernel_rfl) (L rfl) (by kernel_rfl) (OpdL.cons (ot 19 (.d (A6 x154))) OpdL.nil))
       (oc (OpJ.not (L rfl) (ot 20 (bo r178)))
       (oc (OpJ.val (v':=.d (.bool true)) (by rw [hg179]<;>rfl) (mv hN (ot 21 (bo (!r178)))))
       (oc (sU 22 (L rfl))
       (oc (sU 22 (L rfl))
       (oc (sU 22 (L rfl))
       (oc (sV 25 (L rfl))
       (oc (sV 25 (L rfl))
       (oc (sV 25 (L rfl))
       (oc (sV 25 (L rfl))
       (oc (sV 25 (L rfl))
       (oc (sV 25 (L rfl))
       (oc (sV 25 (L rfl))
       (oc (sV 25 (L rfl))
       (oc (sV 25 (L rfl))
       (oc (sV 25 (L rfl))
       (oc (sU 22 (L rfl))
       (oc (pickT (L rfl) (ot 22 (bo true)) (Opd.bool true))
       (OpJs.nil)))))))))))))))))))) (by kernel_rfl) (by rfl) (by rfl) ?_
      exact hjj162 _ h _ _ (mp [] _ _ hB)
     ·have h:=B7 hg179 h
      rcases bft (decide (0<s1.1)) with hg180 | hg180
      ·have h:=B6 hg180 h
       obtain⟨x181,hx181,h⟩:=bindS h
       obtain⟨r182,hr182,h⟩:=bindS h
       refine AWp.draws (by kernel_rfl) (oc (lb hN 43 (.d (A6 x154)) (.d (A6 x154)) tyS43 (At.here _) (ot 7 (pt 1007)))
        (oc (OpJ.callFn hB fnOk75 (A33 x154 r178 hr178) [(500,500)] (by kernel_rfl) (L rfl) (by kernel_rfl) (OpdL.cons (ot 19 (.d (A6 x154))) OpdL.nil))
        (oc (OpJ.not (L rfl) (ot 20 (bo r178)))
        (oc (OpJ.val (v':=.d (.bool false)) (by rw [hg179]<;>rfl) (mv hN (ot 21 (bo (!r178)))))
        (oc (gd 22 (mv hN (ot 6 (i6 s1.1))))
        (oc (gd 22 (gtr (L rfl) (ot 23 (i6 s1.1)) (ii 0)))
        (oc (gd 22 (OpJ.val (v':=.d (.bool true)) (by rw [hg180]<;>rfl) (mv hN (ot 24 (bo (decide (0<s1.1)))))))
        (oc (gd 25 (mv hN (ot 0 (B0 a0))))
        (oc (gd 25 (mv hN (ot 6 (i6 s1.1))))
        (oc (gd 25 (sub6 (L rfl) (ot 27 (i6 s1.1)) (ii 1)))
        (oc (gd 25 (indexD (el:=(A6 x181)) underlying22 tyS43 (A4 hx181).1 (C8 A6 (A4 hx181).2) (L rfl) (ot 26 (B0 a0)) (ot 28 (i6 (w64 (s1.1-1))))))
        (oc (gd 25 (fieldD underlying43 (by rfl) (o:=1) (by rfl) tyS33 (by decide) (ds:=[(.int .i64 x181.fTo),(A2 x181.fPrefix),(.bool x181.fHas),(E5 x181.fRoute)]) (e:=(A2 x181.fPrefix)) (by rfl) (by rfl) (L rfl) (ot 29 (.dptr (A6 x181)))))
        (oc (gd 25 (loadD tyS33 (by rfl) (by rfl) (L rfl) (ot 30 (.dptr (A2 x181.fPrefix)))))
        (oc (gd 25 (ov (.ptr 1007 1 [1]) (fp hN underlying43 1 tyS33 (.box 43 (.d (A6 x154))) (ot 7 (pt 1007)))))
        (oc (gd 25 (lb hN 43 (.d (A6 x154)) (.d (A2 x154.fPrefix)) tyS33 (ad (A2 x154.fPrefix)) (ot 32 (.ptr 1007 1 [1]))))
        (oc (gd 25 (cf hB fnOk45 (A5m x181.fPrefix x154.fPrefix r182 hr182) (L rfl) (OpdL.cons (ot 31 (.d (A2 x181.fPrefix))) (OpdL.cons (ot 33 (.d (A2 x154.fPrefix))) OpdL.nil))))
        (oc (gd 25 (geq (L rfl) (ot 34 (i6 r182)) (ii 0)))
        (oc (gd 22 (pickT (L rfl) (ot 25 (bo true)) (ot 35 (bo (decide (0≤r182))))))
        (oc (pickF (L rfl) (ot 22 (bo false)) (ot 36 (bo (decide (0≤r182)))))
        (OpJs.nil)))))))))))))))))))) (by kernel_rfl) (by rfl) (by rfl) ?_
       exact hjj162 _ h _ _ (mp [] _ _ hB)
      ·have h:=B7 hg180 h
       refine AWp.draws (by kernel_rfl) (oc (lb hN 43 (.d (A6 x154)) (.d (A6 x154)) tyS43 (At.here _) (ot 7 (pt 1007)))
        (oc (OpJ.callFn hB fnOk75 (A33 x154 r178 hr178) [(500,500)] (by kernel_rfl) (L rfl) (by kernel_rfl) (OpdL.cons (ot 19 (.d (A6 x154))) OpdL.nil))
        (oc (OpJ.not (L rfl) (ot 20 (bo r178)))
        (oc (OpJ.val (v':=.d (.bool false)) (by rw [hg179]<;>rfl) (mv hN (ot 21 (bo (!r178)))))
        (oc (gd 22 (mv hN (ot 6 (i6 s1.1))))
        (oc (gd 22 (gtr (L rfl) (ot 23 (i6 s1.1)) (ii 0)))
        (oc (gd 22 (OpJ.val (v':=.d (.bool false)) (by rw [hg180]<;>rfl) (mv hN (ot 24 (bo (decide (0<s1.1)))))))
        (oc (sU 25 (L rfl))
        (oc (sU 25 (L rfl))
        (oc (sU 25 (L rfl))
        (oc (sU 25 (L rfl))
        (oc (sU 25 (L rfl))
        (oc (sU 25 (L rfl))
        (oc (sU 25 (L rfl))
        (oc (sU 25 (L rfl))
        (oc (sU 25 (L rfl))
        (oc (sU 25 (L rfl))
        (oc (gd 22 (pickF (L rfl) (ot 25 (bo false)) (Opd.bool false)))
        (oc (pickF (L rfl) (ot 22 (bo false)) (ot 36 (bo false)))
        (OpJs.nil)))))))))))))))))))) (by kernel_rfl) (by rfl) (by rfl) ?_
       exact hjj162 _ h _ _ (mp [] _ _ hB)
  ·have h:=B7 hg122 h
   apply AWp.exit
   apply F6
   obtain rfl:=oi h
   exact⟨(fun hc=>by cases hc),rfl,(mp [] _ _ hB)⟩
 ·rcases x183 with _ | p121
  ·obtain⟨rfl,hmat⟩:=hR
   apply F7
   apply D4
   obtain rfl:=oi h
   exact rt (Mat.trans hmat (Mat.trans (Mat.coeP (Ts:=[(2,(B8 ([]:List C9)))]) (Bs:=[]) (TwT.cons (x:=.nils) (by rfl) (Tw.leaf ⟨_,(Co.nils 13),rfl⟩) TwT.nil) TwB.nil) (mp [] [(2,(B8 ([]:List C9))),(3,(i6 1))] [(500,some (.know (globD 0 (.imap gv0))))] hB))) [(B8 ([]:List C9)),(i6 1)] (rT (rT rN)) rfl
  ·obtain⟨rfl,hmat⟩:=hR
   apply E4
   apply A3
   refine ghost hmat ?_
   apply seq
   refine ghost (Mat.freezeP (n:=13041) (e:=33) (sz:=4) (es:=p121.2.map A2) (Ts:=[]) (Bs:=[(1004,some (.box 123 (.st [(.st [(i6 0),.nils,(.d (.st [(.bool false),(.int .u64 0),(.int .u64 0)])),(i6 0),(i6 0),(i6 0),.nils,.nils,.nils]),(C1 p121.2)])))]) (by rfl) TwT.nil (TwB.cons (x:=(.st [(.st [(i6 0),.nils,(.d (.st [(.bool false),(.int .u64 0),(.int .u64 0)])),(i6 0),(i6 0),(i6 0),.nils,.nils,.nils]),(.sref 13041 4 0 p121.2.length)])) (by rfl) (Tw.st (TwL.cons (Tw.same _) (TwL.cons (FrzL.all (by first | rfl | (simp;done) | (simp;omega) | omega)) TwL.nil))) TwB.nil)) ?_
   obtain⟨r185,hr185,h⟩:=bindS h
   refine AWp.region (oc (lb hN 123 (.st [(.st [(i6 0),.nils,(.d (.st [(.bool false),(.int .u64 0),(.int .u64 0)])),(i6 0),(i6 0),(i6 0),.nils,.nils,.nils]),(C1 p121.2)]) (.st [(.st [(i6 0),.nils,(.d (.st [(.bool false),(.int .u64 0),(.int .u64 0)])),(i6 0),(i6 0),(i6 0),.nils,.nils,.nils]),(C1 p121.2)]) tyS123 (At.here _) (ot 4 (pt 1004)))
    (oc (OpJ.callFn hB fnOk79 (A6q (D5.mk (D9.mk 0 ([]:List B2) (E7.mk false 0 0) 0 0 0 ([]:List C6) ([]:List G0) ([]:List A7)) p121.2) false r185 hr185) [(500,500),(900000,100300)] (by kernel_rfl) (L rfl) (by kernel_rfl) (OpdL.cons (Opd.tw (ot 76 (.st [(.st [(i6 0),.nils,(.d (.st [(.bool false),(.int .u64 0),(.int .u64 0)])),(i6 0),(i6 0),(i6 0),.nils,.nils,.nils]),(C1 p121.2)])) (Tw.leaf ⟨_,(Co.st (CoL.cons (Co.st (CoL.cons (Co.d _) (CoL.cons (Co.nils 2) (CoL.cons (Co.d _) (CoL.cons (Co.d _) (CoL.cons (Co.d _) (CoL.cons (Co.d _) (CoL.cons (Co.nils 2) (CoL.cons (Co.nils 3) (CoL.cons (Co.nils 3) CoL.nil)))))))))) (CoL.cons (Co.d _) CoL.nil))),rfl⟩)) (OpdL.cons (Opd.bool false) OpdL.nil)))
    (oc (assign (L rfl) (ot 77 (.sref 100300 13 0 r185.length)))
    (OpJs.nil)))) (by rfl) (by rfl) ?_
   apply A3
   refine ghost (mp [] [(5,(.sref 3005 12 0 p121.1.length)),(9,(.sref 100300 13 0 r185.length))] [(500,some (.know (globD 0 (.imap gv0)))),(3005,some (.reg (nrow 123 12 1 33 4 (p121.1.map D2) none))),(100300,some (F5 r185))] hB) ?_
   apply seq
   apply sr (c (mv hN (q 5)) rfl (c (lenS underlying124 (L rfl) (q 78)) rfl (c (mv hN (ii 0)) rfl cn)))
   apply block
   obtain⟨p196,hx202,h⟩:=bindS h
   refine lg (A0z p121) (fun s186:Int×(List C9)=>([(9,(.sref 3009 13 0 s186.2.length)),(78,(.d (.list 12 (p121.1.map D2)))),(79,(i6 (p121.1.length:Int))),(80,(i6 s186.1))]:EL)) (fun s186:Int×(List C9)=>([(500,some (.know (globD 0 (.imap gv0)))),(3009,some (F5 s186.2))]:OL)) (fun(p196:((List C9))) e E' O'=>e = .exit 2∧Mat B E' O' ([(9,(.sref 3009 13 0 p196.length))]:EL) ([(500,some (.know (globD 0 (.imap gv0)))),(3009,some (F5 p196))]:OL)) hx202 (Mat.trans (Mat.freezeG (n:=3005) (e:=123) (sz:=12) (j:=1) (e2:=33) (sz2:=4) (es:=p121.1.map D2) (Ts:=[(78,(.d (.list 12 (p121.1.map D2))))]) (Bs:=[]) (by rfl) (TwT.cons (x:=(.sref 3005 12 0 p121.1.length)) (by rfl) (FrzL.all (by first | rfl | (simp;done) | (simp;omega) | omega)) TwT.nil) TwB.nil) (mp [(3009,100300)] _ _ hB)) (fun s186 y h => ?_) (fun e E' O' hR => ?_)
   ·unfold A0z at h
    apply sr (c (lss (L rfl) (q 80) (q 79)) rfl cn)
    apply seq
    apply AWp.cond rfl<;>intro hg197
    ·have h:=B6 hg197 h
     apply AWp.skip
     apply A3
     apply seq
     apply block
     obtain⟨x198,hx198,h⟩:=bindS h
     apply sr (c (indexD underlying124 tyS123 (A4 hx198).1 (C8 D2 (A4 hx198).2) (L rfl) (q 78) (q 80)) rfl (c (loadD tyS123 (by rfl) (by rfl) (L rfl) (q 82)) rfl (cg (alloc hB tyZ123 (nm:=1011) (by decide) (L rfl)) rfl (cg (sB tyS123 (q 11) (q 83)) rfl cn))))
     obtain⟨r199,hr199,h⟩:=bindS h
     obtain⟨hc200,h⟩:=D3 h
     refine AWp.region (oc (mv hN (ot 9 (.sref 3009 13 0 s186.2.length)))
      (oc (lb hN 123 (.d (D2 x198)) (.d (D2 x198)) tyS123 (At.here _) (ot 11 (pt 1011)))
      (oc (OpJ.callFn hB fnOk79 (A8k x198 true r199 hr199) [(500,500)] (by kernel_rfl) (L rfl) (by kernel_rfl) (OpdL.cons (ot 85 (.d (D2 x198))) (OpdL.cons (Opd.bool true) OpdL.nil)))
      (oc (apd hB underlying57 tyE71 1087 B9 s186.2 r199 hc200 (L rfl) (ot 84 (.sref 3009 13 0 s186.2.length)) (ot 86 (B8 r199)))
      (oc (assign (L rfl) (ot 87 (.sref 1087 13 0 ((s186.2++r199).length))))
      (OpJs.nil)))))) (by rfl) (by rfl) ?_
     apply F8
     apply A3
     refine ghost (mp [] [(9,(.sref 1087 13 0 ((s186.2++r199).length))),(78,(.d (.list 12 (p121.1.map D2)))),(79,(i6 (p121.1.length:Int))),(80,(i6 s186.1))] [(500,some (.know (globD 0 (.imap gv0)))),(1087,some (F5 (s186.2++r199)))] hB) ?_
     apply rg (c (add6 (L rfl) (q 80) (ii 1)) rfl (c (mv hN (q 88)) rfl cn))
     obtain rfl:=oi h
     exact⟨rfl,(mp [(3009,1087)] _ _ hB)⟩
    ·have h:=B7 hg197 h
     apply AWp.exit
     apply F6
     obtain rfl:=oi h
     exact⟨(fun hc=>by cases hc),rfl,(mp [] _ _ hB)⟩
   ·obtain⟨rfl,hmat⟩:=hR
    apply E4
    apply A3
    refine ghost hmat ?_
    apply sr (c (mv hN (q 9)) rfl (c (assign (L rfl) (q 89)) rfl (c (assign (L rfl) (ii 0)) rfl cn)))
    apply ret
    obtain rfl:=oi h
    exact rt (Mat.trans (Mat.freezeP (n:=3009) (e:=71) (sz:=13) (es:=p196.map B9) (Ts:=[(2,(B8 p196))]) (Bs:=[]) (by rfl) (TwT.cons (x:=(.sref 3009 13 0 p196.length)) (by rfl) (FrzL.all (by first | rfl | (simp;done) | (simp;omega) | omega)) TwT.nil) TwB.nil) (mp [] [(2,(B8 p196)),(3,(i6 0))] [(500,some (.know (globD 0 (.imap gv0))))] hB)) [(B8 p196),(i6 0)] (rT (rT rN)) rfl
def Y8 (a0:A1):Option (Bool) :=
 (A26 [a0]).bind fun r1 =>
 some (r1.2==0)
theorem A42 (a0:A1) (r:Bool) (h:Y8 a0=some r):AC Tryz.prog 31 [(.d (A6 a0))] [(500,(.know (globD 0 (.imap gv0))))] (.d (.bool r)) [(500,some (.know (globD 0 (.imap gv0))))]:=by
 refine AC.of_code2 Tryz.func31 rfl rfl (Nat.le_of_ble_eq_true (by rfl)) fun B hB hN => ?_
 delta Y8 at h
 apply sr (cg (OpJ.box hB (nm:=1001) (by decide) (by simp) rfl (ltN hN rfl) (q 0)) rfl (c (assign (ltN hN rfl) (Opd.bool false)) rfl cn))
 apply seq
 obtain⟨r1,hr1,h⟩:=bindS h
 refine AWp.region (oc (lb hN 43 (.d (A6 a0)) (.d (A6 a0)) tyS43 (At.here _) (ot 1 (pt 1001)))
 (oc (buildSlice underlying22 tyS43 tyZD43 (by rfl) (by decide) (by decide) (Opds.cons (ot 6 (.d (A6 a0))) Opds.nil) (by kernel_rfl) (es:=([(A6 a0)]:List D)) (by rfl) (by rfl) (by kernel_rfl) (by simp) (ltN hN rfl))
 (oc (OpJ.callFn hB fnOk46 (A68 [a0] r1 hr1) [(500,500)] (by kernel_rfl) (ltN hN rfl) (by kernel_rfl) (OpdL.cons (ot 7 (B0 [a0])) OpdL.nil))
 (oc (mv hN (ot 8 (.tup [(B8 r1.1),(i6 r1.2)])))
 (oc (extract (v:=(B8 r1.1)) (by rfl) rfl (ltN hN rfl) (ot 5 (.tup [(B8 r1.1),(i6 r1.2)])))
 (oc (extract (v:=(i6 r1.2)) (by rfl) rfl (ltN hN rfl) (ot 5 (.tup [(B8 r1.1),(i6 r1.2)])))
 (oc (assign (ltN hN rfl) (ot 9 (B8 r1.1)))
 (oc (assign (ltN hN rfl) (ot 10 (i6 r1.2)))
 (OpJs.nil))))))))) (by rfl) (by rfl) ?_
 apply A3
 refine ghost (mp [] [(4,(i6 r1.2))] [(500,some (.know (globD 0 (.imap gv0))))] hB) ?_
 apply sr (c (mv hN (q 4)) rfl (c (eqlI (ltN hN rfl) (q 11) (ii 0)) rfl (c (assign (ltN hN rfl) (q 12)) rfl cn)))
 apply ret
 obtain rfl:=oi h
 exact rt (kp [(2,_)] [(500,some _)] hB rfl rfl (by rfl)) [(bo (r1.2==0))] (rT rN) rfl
def A02 (a0:F9) (s3:Int×(List (A0×Bool))):Option (((Unit)⊕(Unit))⊕(Int×(List (A0×Bool)))) :=
 (if (decide (s3.1<(a0.fPending.length:Int)))=true then
 (idx a0.fPending s3.1).bind fun x25 =>
 jn (fun m28:Bool =>
 (if m28=true then
 some (.inl (.inl ()))
 else
 some (.inr ((w64 (s3.1+1)),(mput keq33 s3.2 x25.fPrefix true))))) (fun j29 =>
 (if ((mget keq33 s3.2 x25.fPrefix).getD false)=true then
 j29 true
 else
 (Y8 x25).bind fun r32 =>
 j29 (!r32)))
 else
 some (.inl (.inr ())))
def A1g (a0:F9):Option (Bool) :=
 (A1r a0.fBucket).bind fun r1 =>
 (if ((!r1) || (decide (4096<(a0.fPending.length:Int))))=true then
 some false
 else
 (loop (A02 a0) (0,([]:List (A0×Bool)))).bind fun x33=>match x33 with
 | (.inl _) =>
  some false
 | (.inr _) =>
  some true)
theorem A35 (a0:F9) (r:Bool) (h:A1g a0=some r):AC Tryz.prog 11 [(.d (C0 a0))] [(500,(.know (globD 0 (.imap gv0))))] (.d (.bool r)) [(500,some (.know (globD 0 (.imap gv0))))]:=by
 refine ac2 Tryz.func11 rfl rfl fun B hB hN L => ?_
 delta A1g at h
 apply sr (cg (OpJ.box hB (nm:=1001) (by decide) (by simp) rfl (L rfl) (q 0)) rfl (c (assign (L rfl) (Opd.bool false)) rfl cn))
 apply seq
 obtain⟨r1,hr1,h⟩:=bindS h
 apply sr (c (fo 1001 1 [1] hN underlying26 1 tyS24 (q 1)) rfl (c (la hN 26 tyS24 (q 6)) rfl (cg (cf hB fnOk30 (A8f a0.fBucket r1 hr1) (L rfl) (OpdL.cons (q 7) OpdL.nil)) rfl (c (OpJ.not (L rfl) (q 8)) rfl (c (mv hN (q 9)) rfl (c (oq hN 10 (fo 1001 0 [0] hN underlying26 0 tyS22 (q 1)) (OptL.keep (by rfl) OptL.nil) (GuardV.plain _)) rfl (c (oq hN 10 (la hN 26 tyS22 (q 11)) (OptL.opt OptL.nil) (GuardV.plain _)) rfl (c (oq hN 10 (OpJ.val (v':=(i6 (a0.fPending.length:Int))) (by simp) (lenD underlying22 (L rfl) (q 12))) (OptL.opt OptL.nil) (GuardV.plain _)) rfl (c (oq hN 10 (gtr (L rfl) (q 13) (ii 4096)) (OptL.opt OptL.nil) (GuardV.plain _)) rfl (c (pickOr rfl (L rfl) (q 10) (q 14)) rfl cn))))))))))
 apply AWp.cond rfl<;>intro hg2
 ·have h:=B6 hg2 h
  apply sr (c (assign (L rfl) (Opd.bool false)) rfl cn)
  apply ret
  apply D4
  obtain rfl:=oi h
  exact rt (kp [(2,_)] [(500,some _)] hB rfl rfl (by rfl)) [(bo false)] (rT rN) rfl
 ·have h:=B7 hg2 h
  apply AWp.skip
  apply A3
  apply sr (cg (OpJ.mkmapQ hB (nm:=1016) (by decide) (L rfl)) rfl (c (assign (L rfl) (q 16)) rfl cn))
  apply seq
  apply sr (c (fo 1001 0 [0] hN underlying26 0 tyS22 (q 1)) rfl (c (la hN 26 tyS22 (q 17)) rfl (c (OpJ.val (v':=(i6 (a0.fPending.length:Int))) (by simp) (lenD underlying22 (L rfl) (q 18))) rfl (c (mv hN (ii 0)) rfl cn))))
  apply block
  obtain⟨x33,hx34,h⟩:=bindS h
  refine lg (A02 a0) (fun s3:Int×(List (A0×Bool))=>([(3,(.mref 1016)),(18,(B0 a0.fPending)),(19,(i6 (a0.fPending.length:Int))),(20,(i6 s3.1))]:EL)) (fun s3:Int×(List (A0×Bool))=>([(500,some (.know (globD 0 (.imap gv0)))),(1016,some (.blk (mapQ (mpairs A2 eB s3.2))))]:OL)) (fun(x:(Unit)⊕(Unit)) e E' O'=>match x with | (.inl _p)=>e = .ret∧Mat B E' O' ([(2,(bo false))]:EL) ([(500,some (.know (globD 0 (.imap gv0))))]:OL) | (.inr _p)=>e = .exit 0∧Mat B E' O' ([]:EL) ([(500,some (.know (globD 0 (.imap gv0))))]:OL)) hx34 (mp [] _ _ hB) (fun s3 y h => ?_) (fun e E' O' hR => ?_)
  ·unfold A02 at h
   apply sr (c (lss (L rfl) (q 20) (q 19)) rfl cn)
   apply seq
   apply AWp.cond rfl<;>intro hg24
   ·have h:=B6 hg24 h
    apply AWp.skip
    apply A3
    apply seq
    apply block
    obtain⟨x25,hx25,h⟩:=bindS h
    apply sr (c (indexD underlying22 tyS43 (A4 hx25).1 (C8 A6 (A4 hx25).2) (L rfl) (q 18) (q 20)) rfl (c (loadD tyS43 (by rfl) (by rfl) (L rfl) (q 22)) rfl (cg (alloc hB tyZ43 (nm:=1005) (by decide) (L rfl)) rfl (cg (sB tyS43 (q 5) (q 23)) rfl cn))))
    apply seq
    apply seq
    refine AWp.cut h (fun m28:Bool=>([(3,(.mref 1016)),(5,(pt 1005)),(18,(B0 a0.fPending)),(19,(i6 (a0.fPending.length:Int))),(20,(i6 s3.1)),(32,(bo m28))]:EL)) (fun m28:Bool=>([(500,some (.know (globD 0 (.imap gv0)))),(1005,bd 43 (A6 x25)),(1016,some (.blk (mapQ (mpairs A2 eB s3.2))))]:OL)) (fun m28 h E' O' hmat => ?_) (fun j29 hjj29 h => ?_)
    ·apply A3
     refine ghost hmat ?_
     apply AWp.cond rfl<;>intro hg30
     ·have h:=B6 hg30 h
      apply sr (c (assign (L rfl) (Opd.bool false)) rfl cn)
      apply ret
      apply D4
      apply F7
      apply D4
      obtain rfl:=oi h
      exact⟨(fun hc=>by cases hc),rfl,(mp [] _ _ hB)⟩
     ·have h:=B7 hg30 h
      apply AWp.skip
      apply A3
      apply rg (c (mv hN (q 3)) rfl (c (fo 1005 1 [1] hN underlying43 1 tyS33 (q 5)) rfl (c (la hN 43 tyS33 (q 34)) rfl (cg (OpJ.mputQ (g:=eB) (v:=true) (l:=s3.2) (k:=x25.fPrefix) tyU82 underlying33 keyEq33 (q 33) (q 35) (Opd.bool true)) rfl cn))))
      apply F8
      apply A3
      apply rg (c (add6 (L rfl) (q 20) (ii 1)) rfl (c (mv hN (q 36)) rfl cn))
      obtain rfl:=oi h
      exact⟨rfl,(mp [] _ _ hB)⟩
    ·rcases bft ((mget keq33 s3.2 x25.fPrefix).getD false) with hg31 | hg31
     ·have h:=B6 hg31 h
      apply rg (c (mv hN (q 3)) rfl (c (fo 1005 1 [1] hN underlying43 1 tyS33 (q 5)) rfl (c (la hN 43 tyS33 (q 25)) rfl (cg (OpJ.mlookQ (g:=eB) (l:=s3.2) (k:=x25.fPrefix) tyU82 underlying33 keyEq33 (z:=false) tyZD4 (L rfl) (q 24) (q 26)) rfl (c (OpJ.val (v':=.d (.bool true)) (by rw [hg31]<;>rfl) (mv hN (q 27))) rfl (ks 28 (L rfl) (ks 28 (L rfl) (ks 28 (L rfl) (c (pickT (L rfl) (q 28) (Opd.bool true)) rfl cn)))))))))
      exact hjj29 _ h _ _ (mp [] _ _ hB)
     ·have h:=B7 hg31 h
      obtain⟨r32,hr32,h⟩:=bindS h
      refine AWp.region (oc (mv hN (ot 3 (.mref 1016)))
       (oc (ov (.ptr 1005 1 [1]) (fp hN underlying43 1 tyS33 (.box 43 (.d (A6 x25))) (ot 5 (pt 1005))))
       (oc (lb hN 43 (.d (A6 x25)) (.d (A2 x25.fPrefix)) tyS33 (ad (A2 x25.fPrefix)) (ot 25 (.ptr 1005 1 [1])))
       (oc (OpJ.mlookQ (g:=eB) (l:=s3.2) (k:=x25.fPrefix) tyU82 underlying33 keyEq33 (z:=false) tyZD4 (L rfl) (ot 24 (.mref 1016)) (ot 26 (.d (A2 x25.fPrefix))))
       (oc (OpJ.val (v':=.d (.bool false)) (by rw [hg31]<;>rfl) (mv hN (ot 27 (bo ((mget keq33 s3.2 x25.fPrefix).getD false)))))
       (oc (gd 28 (lb hN 43 (.d (A6 x25)) (.d (A6 x25)) tyS43 (At.here _) (ot 5 (pt 1005))))
       (oc (gd 28 (OpJ.callFn hB fnOk31 (A42 x25 r32 hr32) [(500,500)] (by kernel_rfl) (L rfl) (by kernel_rfl) (OpdL.cons (ot 29 (.d (A6 x25))) OpdL.nil)))
       (oc (gd 28 (OpJ.not (L rfl) (ot 30 (bo r32))))
       (oc (pickF (L rfl) (ot 28 (bo false)) (ot 31 (bo (!r32))))
       (OpJs.nil)))))))))) (by rfl) (by rfl) ?_
      exact hjj29 _ h _ _ (mp [] _ _ hB)
   ·have h:=B7 hg24 h
    apply AWp.exit
    apply F6
    obtain rfl:=oi h
    exact⟨(fun hc=>by cases hc),rfl,(mp [] _ _ hB)⟩
  ·rcases x33 with _ | _
   ·obtain⟨rfl,hmat⟩:=hR
    apply F7
    apply D4
    obtain rfl:=oi h
    exact rt (Mat.trans hmat (mp [] [(2,(bo false))] [(500,some (.know (globD 0 (.imap gv0))))] hB)) [(bo false)] (rT rN) rfl
   ·obtain⟨rfl,hmat⟩:=hR
    apply E4
    apply A3
    refine ghost hmat ?_
    apply sr (c (assign (L rfl) (Opd.bool true)) rfl cn)
    apply ret
    obtain rfl:=oi h
    exact rt (kp [(2,_)] [(500,some _)] hB rfl rfl (by rfl)) [(bo true)] (rT rN) rfl
def A1t (a0:A1):Option (Bool) :=
 (Y8 a0).bind fun r1 =>
 some (!r1)
theorem A8l (a0:A1) (r:Bool) (h:A1t a0=some r):AC Tryz.prog 39 [(.d (A6 a0))] [(500,(.know (globD 0 (.imap gv0))))] (.d (.bool r)) [(500,some (.know (globD 0 (.imap gv0))))]:=by
 refine AC.of_code2 Tryz.func39 rfl rfl (Nat.le_of_ble_eq_true (by rfl)) fun B hB hN => ?_
 delta A1t at h
 apply sr (cg (OpJ.box hB (nm:=1001) (by decide) (by simp) rfl (ltN hN rfl) (q 0)) rfl (c (assign (ltN hN rfl) (Opd.bool false)) rfl cn))
 apply seq
 obtain⟨r1,hr1,h⟩:=bindS h
 refine AWp.region (oc (lb hN 43 (.d (A6 a0)) (.d (A6 a0)) tyS43 (At.here _) (ot 1 (pt 1001)))
 (oc (OpJ.callFn hB fnOk31 (A42 a0 r1 hr1) [(500,500)] (by kernel_rfl) (ltN hN rfl) (by kernel_rfl) (OpdL.cons (ot 3 (.d (A6 a0))) OpdL.nil))
 (oc (OpJ.not (ltN hN rfl) (ot 4 (bo r1)))
 (oc (assign (ltN hN rfl) (ot 5 (bo (!r1))))
 (OpJs.nil))))) (by rfl) (by rfl) ?_
 apply A3
 refine ghost (mp [] [(2,(bo (!r1)))] [(500,some (.know (globD 0 (.imap gv0))))] hB) ?_
 apply ret
 obtain rfl:=oi h
 exact rt (kp [(2,_)] [(500,some _)] hB rfl rfl (by rfl)) [(bo (!r1))] (rT rN) rfl
def L4 (a0:(List A1)) (s1:Int):Option (((Int)⊕(Unit))⊕(Int)) :=
 (if (decide (s1<(a0.length:Int)))=true then
 (idx a0 s1).bind fun x13 =>
 (A1t x13).bind fun r14 =>
 (if r14=true then
 some (.inl (.inl s1))
 else
 some (.inr (w64 (s1+1))))
 else
 some (.inl (.inr ())))
def U0 (a0:(List A1)):Option (Int) :=
 (loop (L4 a0) 0).bind fun x16=>match x16 with
 | (.inl p10) =>
  some p10
 | (.inr _) =>
  some (-1)
theorem A48 (a0:(List A1)) (r:Int) (h:U0 a0=some r):AC Tryz.prog 68 [(.d (.list 22 (a0.map A6))),(.func 39 [])] [(500,(.know (globD 0 (.imap gv0))))] (.d (.int .i64 r)) [(500,some (.know (globD 0 (.imap gv0))))]:=by
 refine AC.of_code2 Tryz.func68 rfl rfl (Nat.le_of_ble_eq_true (by rfl)) fun B hB hN => ?_
 delta U0 at h
 apply sr (c (assign (ltN hN rfl) (ii 0)) rfl cn)
 apply seq
 apply sr (c (mv hN (q 0)) rfl (c (OpJ.val (v':=(i6 (a0.length:Int))) (by simp) (lenD underlying22 (ltN hN rfl) (q 6))) rfl (c (mv hN (ii 0)) rfl cn)))
 apply block
 obtain⟨x16,hx17,h⟩:=bindS h
 refine lg (L4 a0) (fun s1:Int=>([(0,(B0 a0)),(1,(.func 39 [])),(7,(i6 (a0.length:Int))),(8,(i6 s1))]:EL)) (fun s1:Int=>([(500,some (.know (globD 0 (.imap gv0))))]:OL)) (fun(x:(Int)⊕(Unit)) e E' O'=>match x with | (.inl p10)=>e = .ret∧Mat B E' O' ([(4,(i6 p10))]:EL) ([(500,some (.know (globD 0 (.imap gv0))))]:OL) | (.inr _p)=>e = .exit 0∧Mat B E' O' ([]:EL) ([(500,some (.know (globD 0 (.imap gv0))))]:OL)) hx17 (mp [] _ _ hB) (fun s1 y h => ?_) (fun e E' O' hR => ?_)
 ·unfold L4 at h
  apply sr (c (lss (ltN hN rfl) (q 8) (q 7)) rfl cn)
  apply seq
  apply AWp.cond rfl<;>intro hg12
  ·have h:=B6 hg12 h
   apply AWp.skip
   apply A3
   apply seq
   apply block
   apply sr (c (mv hN (q 8)) rfl (c (assign (ltN hN rfl) (q 10)) rfl cn))
   apply seq
   obtain⟨x13,hx13,h⟩:=bindS h
   obtain⟨r14,hr14,h⟩:=bindS h
   refine AWp.region (oc (mv hN (ot 1 (.func 39 [])))
    (oc (mv hN (ot 0 (B0 a0)))
    (oc (mv hN (ot 5 (i6 s1)))
    (oc (indexD (el:=(A6 x13)) underlying22 tyS43 (A4 hx13).1 (C8 A6 (A4 hx13).2) (ltN hN rfl) (ot 12 (B0 a0)) (ot 13 (i6 s1)))
    (oc (loadD tyS43 (by rfl) (by rfl) (ltN hN rfl) (ot 14 (.dptr (A6 x13))))
    (oc (callVal (args:=[(.d (A6 x13))]) (caps:=[]) hB fnOk39 [(500,500)] (A8l x13 r14 hr14) (by kernel_rfl) (ltN hN rfl) (by kernel_rfl) (by kernel_rfl) (OpdL.cons (ot 15 (.d (A6 x13))) OpdL.nil))
    (OpJs.nil))))))) (by rfl) (by rfl) ?_
   apply A3
   refine ghost (mp [] [(0,(B0 a0)),(1,(.func 39 [])),(5,(i6 s1)),(7,(i6 (a0.length:Int))),(8,(i6 s1)),(16,(bo r14))] [(500,some (.know (globD 0 (.imap gv0))))] hB) ?_
   apply AWp.cond rfl<;>intro hg15
   ·have h:=B6 hg15 h
    apply sr (c (mv hN (q 5)) rfl (c (assign (ltN hN rfl) (q 17)) rfl cn))
    apply ret
    apply F7
    apply D4
    obtain rfl:=oi h
    exact⟨(fun hc=>by cases hc),rfl,(mp [] _ _ hB)⟩
   ·have h:=B7 hg15 h
    apply AWp.skip
    apply F8
    apply A3
    apply rg (c (add6 (ltN hN rfl) (q 8) (ii 1)) rfl (c (mv hN (q 18)) rfl cn))
    obtain rfl:=oi h
    exact⟨rfl,(mp [] _ _ hB)⟩
  ·have h:=B7 hg12 h
   apply AWp.exit
   apply F6
   obtain rfl:=oi h
   exact⟨(fun hc=>by cases hc),rfl,(mp [] _ _ hB)⟩
 ·rcases x16 with p10 | _
  ·obtain⟨rfl,hmat⟩:=hR
   apply F7
   apply D4
   obtain rfl:=oi h
   exact rt (Mat.trans hmat (mp [] [(4,(i6 p10))] [(500,some (.know (globD 0 (.imap gv0))))] hB)) [(i6 p10)] (rT rN) rfl
  ·obtain⟨rfl,hmat⟩:=hR
   apply E4
   apply A3
   refine ghost hmat ?_
   apply sr (c (assign (ltN hN rfl) (ii (-1))) rfl cn)
   apply ret
   obtain rfl:=oi h
   exact rt (kp [(4,_)] [(500,some _)] hB rfl rfl (by rfl)) [(i6 (-1))] (rT rN) rfl
def L5 (a0:(List A1)):Option (Bool) :=
 (U0 a0).bind fun r1 =>
 some (decide (0≤r1))
theorem A36 (a0:(List A1)) (r:Bool) (h:L5 a0=some r):AC Tryz.prog 38 [(.d (.list 22 (a0.map A6))),(.func 39 [])] [(500,(.know (globD 0 (.imap gv0))))] (.d (.bool r)) [(500,some (.know (globD 0 (.imap gv0))))]:=by
 refine AC.of_code2 Tryz.func38 rfl rfl (Nat.le_of_ble_eq_true (by rfl)) fun B hB hN => ?_
 delta L5 at h
 apply sr (c (assign (ltN hN rfl) (Opd.bool false)) rfl cn)
 apply seq
 obtain⟨r1,hr1,h⟩:=bindS h
 refine AWp.region (oc (mv hN (ot 0 (B0 a0)))
 (oc (mv hN (ot 1 (.func 39 [])))
 (oc (OpJ.callFn hB fnOk68 (A48 a0 r1 hr1) [(500,500)] (by kernel_rfl) (ltN hN rfl) (by kernel_rfl) (OpdL.cons (ot 5 (B0 a0)) (OpdL.cons (ot 6 (.func 39 [])) OpdL.nil)))
 (oc (geq (ltN hN rfl) (ot 7 (i6 r1)) (ii 0))
 (oc (assign (ltN hN rfl) (ot 8 (bo (decide (0≤r1)))))
 (OpJs.nil)))))) (by rfl) (by rfl) ?_
 apply A3
 refine ghost (mp [] [(4,(bo (decide (0≤r1))))] [(500,some (.know (globD 0 (.imap gv0))))] hB) ?_
 apply ret
 obtain rfl:=oi h
 exact rt (kp [(4,_)] [(500,some _)] hB rfl rfl (by rfl)) [(bo (decide (0≤r1)))] (rT rN) rfl
def A0e (a0:B3):Option (B3) :=
 (T0 a0.fAttrs).bind fun r1 =>
 some (B3.mk a0.fPrefix a0.fFrom r1)
theorem A4v (a0:B3) (r:B3) (h:A0e a0=some r):AC Tryz.prog 69 [(.d (E5 a0))] [] (.d (E5 r)) []:=by
 refine AC.of_code2 Tryz.func69 rfl rfl (Nat.le_of_ble_eq_true (by rfl)) fun B hB hN => ?_
 delta A0e at h
 apply sr (cg (OpJ.box hB (nm:=1001) (by decide) (by simp) rfl (ltN hN rfl) (q 0)) rfl (cg (alloc hB tyZ41 (nm:=1002) (by decide) (ltN hN rfl)) rfl cn))
 obtain⟨r1,hr1,h⟩:=bindS h
 apply sr (c (fo 1001 5 [2] hN underlying41 5 tyS39 (q 1)) rfl (c (la hN 41 tyS39 (q 3)) rfl (cg (OpJ.callFn hB fnOk98 (A4l a0.fAttrs r1 hr1) [] (by kernel_rfl) (ltN hN rfl) (by kernel_rfl) (OpdL.cons (q 4) OpdL.nil)) rfl (c (fo 1001 5 [2] hN underlying41 5 tyS39 (q 1)) rfl (cg (OpJ.storeB tyS39 (SetAt.dst1 (by rfl) (by rfl) (SetAt.here _ _) (by rfl) (by rfl) (by first | rfl | omega)) (by rfl) (by rfl) (by simp) rfl (q 6) (q 5)) rfl cn)))))
 apply sr (c (lb hN 41 _ _ tyS41 (At.here _) (q 1)) rfl (cg (sB tyS41 (q 2) (q 7)) rfl cn))
 apply ret
 obtain rfl:=oi h
 exact rt (kp [(2,_)] [(1002,some _)] hB rfl rfl (by rfl)) [(.d (.st [(A2 a0.fPrefix),(.int .i64 a0.fFrom),(A8 r1)]))] (Res.cell (c:=(.d (.st [(A2 a0.fPrefix),(.int .i64 a0.fFrom),(A8 r1)]))) (by rfl) (by rfl) tyS41 (by rfl) (by rfl) (by rfl) rN) rfl
def S6 (a0:(List A1)) (s1:Int×(List A1)):Option ((((List A1)))⊕(Int×(List A1))) :=
 (if (decide (s1.1<(a0.length:Int)))=true then
 (idx a0 s1.1).bind fun x12 =>
 (A0e x12.fRoute).bind fun r13 =>
 chk (decide ((s1.2++[(A1.mk x12.fTo x12.fPrefix x12.fHas r13)]).length≤LIM)) <|
 some (.inr ((w64 (s1.1+1)),(s1.2++[(A1.mk x12.fTo x12.fPrefix x12.fHas r13)])))
 else
 some (.inl s1.2))
def V3 (a0:(List A1)):Option ((List A1)) :=
 (loop (S6 a0) (0,([]:List A1))).bind fun p10 =>
 some p10
theorem A3i (a0:(List A1)) (r:(List A1)) (h:V3 a0=some r):AC Tryz.prog 40 [(.d (.list 22 (a0.map A6)))] [] (.d (.list 22 (r.map A6))) []:=by
 refine ac2 Tryz.func40 rfl rfl fun B hB hN L => ?_
 delta V3 at h
 apply sr (c (assign (L rfl) Opd.nils) rfl cn)
 apply sr (c (assign (L rfl) Opd.nils) rfl cn)
 apply seq
 apply sr (c (mv hN (q 0)) rfl (c (OpJ.val (v':=(i6 (a0.length:Int))) (by simp) (lenD underlying22 (L rfl) (q 6))) rfl (c (mv hN (ii 0)) rfl cn)))
 apply block
 obtain⟨p10,hx16,h⟩:=bindS h
 refine lg (S6 a0) (fun s1:Int×(List A1)=>([(3,(.sref 3003 22 0 s1.2.length)),(6,(B0 a0)),(7,(i6 (a0.length:Int))),(8,(i6 s1.1))]:EL)) (fun s1:Int×(List A1)=>([(3003,some (C3 s1.2))]:OL)) (fun(p10:((List A1))) e E' O'=>e = .exit 0∧Mat B E' O' ([(3,(.sref 3003 22 0 p10.length))]:EL) ([(3003,some (C3 p10))]:OL)) hx16 (Mat.trans (Mat.beginP (n:=3003) (e:=43) (sz:=22) (Ts:=[(3,(.sref 3003 22 0 0))]) (Bs:=[]) hB (by decide) (by rfl) (by decide) (TwT.cons (x:=.nils) (by rfl) (Tw.leaf ⟨rfl,rfl⟩) TwT.nil) TwB.nil) (mp [] _ _ hB)) (fun s1 y h => ?_) (fun e E' O' hR => ?_)
 ·unfold S6 at h
  apply sr (c (lss (L rfl) (q 8) (q 7)) rfl cn)
  apply seq
  apply AWp.cond rfl<;>intro hg11
  ·have h:=B6 hg11 h
   apply AWp.skip
   apply A3
   apply seq
   apply block
   obtain⟨x12,hx12,h⟩:=bindS h
   apply sr (c (indexD underlying22 tyS43 (A4 hx12).1 (C8 A6 (A4 hx12).2) (L rfl) (q 6) (q 8)) rfl (c (loadD tyS43 (by rfl) (by rfl) (L rfl) (q 10)) rfl (cg (alloc hB tyZ43 (nm:=1005) (by decide) (L rfl)) rfl (cg (sB tyS43 (q 5) (q 11)) rfl cn))))
   obtain⟨r13,hr13,h⟩:=bindS h
   apply sr (c (fo 1005 6 [3] hN underlying43 6 tyS41 (q 5)) rfl (c (la hN 43 tyS41 (q 12)) rfl (cg (cf hB fnOk69 (A4v x12.fRoute r13 hr13) (L rfl) (OpdL.cons (q 13) OpdL.nil)) rfl (c (fo 1005 6 [3] hN underlying43 6 tyS41 (q 5)) rfl (cg (OpJ.storeB tyS41 (SetAt.dst1 (by rfl) (by rfl) (SetAt.here _ _) (by rfl) (by rfl) (by first | rfl | omega)) (by rfl) (by rfl) (by simp) rfl (q 15) (q 14)) rfl cn)))))
   obtain⟨hc14,h⟩:=D3 h
   apply rg (c (mv hN (q 3)) rfl (c (lb hN 43 _ _ tyS43 (At.here _) (q 5)) rfl (c (buildSlice underlying22 tyS43 tyZD43 (by rfl) (by decide) (by decide) (Opds.cons (q 17) Opds.nil) (by kernel_rfl) (es:=([(.st [(.int .i64 x12.fTo),(A2 x12.fPrefix),(.bool x12.fHas),(E5 r13)])]:List D)) (by rfl) (by rfl) (by kernel_rfl) (by simp) (L rfl)) rfl (cg (apd hB underlying22 tyE43 1019 A6 s1.2 [(A1.mk x12.fTo x12.fPrefix x12.fHas r13)] hc14 (L rfl) (q 16) (q 18)) rfl (c (assign (L rfl) (q 19)) rfl cn)))))
   apply F8
   apply A3
   apply rg (c (add6 (L rfl) (q 8) (ii 1)) rfl (c (mv hN (q 20)) rfl cn))
   obtain rfl:=oi h
   exact⟨rfl,(mp [(3003,1019)] _ _ hB)⟩
  ·have h:=B7 hg11 h
   apply AWp.exit
   apply F6
   obtain rfl:=oi h
   exact⟨(fun hc=>by cases hc),rfl,(mp [] _ _ hB)⟩
 ·obtain⟨rfl,hmat⟩:=hR
  apply E4
  apply A3
  refine ghost hmat ?_
  apply sr (c (mv hN (q 3)) rfl (c (assign (L rfl) (q 21)) rfl cn))
  apply ret
  obtain rfl:=oi h
  exact rt (Mat.trans (Mat.freezeP (n:=3003) (e:=43) (sz:=22) (es:=p10.map A6) (Ts:=[(2,(B0 p10))]) (Bs:=[]) (by rfl) (TwT.cons (x:=(.sref 3003 22 0 p10.length)) (by rfl) (FrzL.all (by first | rfl | (simp;done) | (simp;omega) | omega)) TwT.nil) TwB.nil) (mp [] [(2,(B0 p10))] [] hB)) [(B0 p10)] (rT rN) rfl
def A07 (a0:(List A1)) (s1:Int×(List A1)):Option ((((List A1)))⊕(Int×(List A1))) :=
 (if (decide (s1.1<(a0.length:Int)))=true then
 (idx a0 s1.1).bind fun x12 =>
 (A0e x12.fRoute).bind fun r13 =>
 chk (decide ((s1.2++[(A1.mk x12.fTo x12.fPrefix x12.fHas r13)]).length≤LIM)) <|
 some (.inr ((w64 (s1.1+1)),(s1.2++[(A1.mk x12.fTo x12.fPrefix x12.fHas r13)])))
 else
 some (.inl s1.2))
def Q2 (a0:(List A1)):Option ((List A1)) :=
 (loop (A07 a0) (0,([]:List A1))).bind fun p10 =>
 some p10
theorem A08 (a0:(List A1)) (r:(List A1)) (h:Q2 a0=some r):AC Tryz.prog 40 [(.d (.list 22 (a0.map A6)))] [] (.sref 900000 22 0 r.length) [(900000,some (.row 43 22 (r.map A6)))]:=by
 refine ac2 Tryz.func40 rfl rfl fun B hB hN L => ?_
 delta Q2 at h
 apply sr (c (assign (L rfl) Opd.nils) rfl cn)
 apply sr (c (assign (L rfl) Opd.nils) rfl cn)
 apply seq
 apply sr (c (mv hN (q 0)) rfl (c (OpJ.val (v':=(i6 (a0.length:Int))) (by simp) (lenD underlying22 (L rfl) (q 6))) rfl (c (mv hN (ii 0)) rfl cn)))
 apply block
 obtain⟨p10,hx16,h⟩:=bindS h
 refine lg (A07 a0) (fun s1:Int×(List A1)=>([(3,(.sref 3003 22 0 s1.2.length)),(6,(B0 a0)),(7,(i6 (a0.length:Int))),(8,(i6 s1.1))]:EL)) (fun s1:Int×(List A1)=>([(3003,some (C3 s1.2))]:OL)) (fun(p10:((List A1))) e E' O'=>e = .exit 0∧Mat B E' O' ([(3,(.sref 3003 22 0 p10.length))]:EL) ([(3003,some (C3 p10))]:OL)) hx16 (Mat.trans (Mat.beginP (n:=3003) (e:=43) (sz:=22) (Ts:=[(3,(.sref 3003 22 0 0))]) (Bs:=[]) hB (by decide) (by rfl) (by decide) (TwT.cons (x:=.nils) (by rfl) (Tw.leaf ⟨rfl,rfl⟩) TwT.nil) TwB.nil) (mp [] _ _ hB)) (fun s1 y h => ?_) (fun e E' O' hR => ?_)
 ·unfold A07 at h
  apply sr (c (lss (L rfl) (q 8) (q 7)) rfl cn)
  apply seq
  apply AWp.cond rfl<;>intro hg11
  ·have h:=B6 hg11 h
   apply AWp.skip
   apply A3
   apply seq
   apply block
   obtain⟨x12,hx12,h⟩:=bindS h
   apply sr (c (indexD underlying22 tyS43 (A4 hx12).1 (C8 A6 (A4 hx12).2) (L rfl) (q 6) (q 8)) rfl (c (loadD tyS43 (by rfl) (by rfl) (L rfl) (q 10)) rfl (cg (alloc hB tyZ43 (nm:=1005) (by decide) (L rfl)) rfl (cg (sB tyS43 (q 5) (q 11)) rfl cn))))
   obtain⟨r13,hr13,h⟩:=bindS h
   apply sr (c (fo 1005 6 [3] hN underlying43 6 tyS41 (q 5)) rfl (c (la hN 43 tyS41 (q 12)) rfl (cg (cf hB fnOk69 (A4v x12.fRoute r13 hr13) (L rfl) (OpdL.cons (q 13) OpdL.nil)) rfl (c (fo 1005 6 [3] hN underlying43 6 tyS41 (q 5)) rfl (cg (OpJ.storeB tyS41 (SetAt.dst1 (by rfl) (by rfl) (SetAt.here _ _) (by rfl) (by rfl) (by first | rfl | omega)) (by rfl) (by rfl) (by simp) rfl (q 15) (q 14)) rfl cn)))))
   obtain⟨hc14,h⟩:=D3 h
   apply rg (c (mv hN (q 3)) rfl (c (lb hN 43 _ _ tyS43 (At.here _) (q 5)) rfl (c (buildSlice underlying22 tyS43 tyZD43 (by rfl) (by decide) (by decide) (Opds.cons (q 17) Opds.nil) (by kernel_rfl) (es:=([(.st [(.int .i64 x12.fTo),(A2 x12.fPrefix),(.bool x12.fHas),(E5 r13)])]:List D)) (by rfl) (by rfl) (by kernel_rfl) (by simp) (L rfl)) rfl (cg (apd hB underlying22 tyE43 1019 A6 s1.2 [(A1.mk x12.fTo x12.fPrefix x12.fHas r13)] hc14 (L rfl) (q 16) (q 18)) rfl (c (assign (L rfl) (q 19)) rfl cn)))))
   apply F8
   apply A3
   apply rg (c (add6 (L rfl) (q 8) (ii 1)) rfl (c (mv hN (q 20)) rfl cn))
   obtain rfl:=oi h
   exact⟨rfl,(mp [(3003,1019)] _ _ hB)⟩
  ·have h:=B7 hg11 h
   apply AWp.exit
   apply F6
   obtain rfl:=oi h
   exact⟨(fun hc=>by cases hc),rfl,(mp [] _ _ hB)⟩
 ·obtain⟨rfl,hmat⟩:=hR
  apply E4
  apply A3
  refine ghost hmat ?_
  apply sr (c (mv hN (q 3)) rfl (c (assign (L rfl) (q 21)) rfl cn))
  apply ret
  obtain rfl:=oi h
  exact rt (mp [(900000,3003)] [(2,(.sref 900000 22 0 p10.length))] [(900000,some (C3 p10))] hB) [(.sref 900000 22 0 p10.length)] (rT rN) rfl
def A10 (r8:(List A1)) (s9:Int×(List (A0×Int))):Option ((((List (A0×Int))))⊕(Int×(List (A0×Int)))) :=
 (if (decide (s9.1<(r8.length:Int)))=true then
 (idx r8 s9.1).bind fun _ =>
 (idx r8 s9.1).bind fun x19 =>
 some (.inr ((w64 (s9.1+1)),(mput keq33 s9.2 x19.fPrefix s9.1)))
 else
 some (.inl s9.2))
def A11 (r22:(List A1)) (s23:Int×(List (A0×Int))×(List A1)):Option ((((List A1)))⊕(Int×(List (A0×Int))×(List A1))) :=
 (if (decide (s23.1<(r22.length:Int)))=true then
 jn (fun m57:(List (A0×Int))×(List A1) =>
 some (.inr ((w64 (s23.1+1)),m57.1,m57.2))) (fun j58 =>
 (idx r22 s23.1).bind fun x59 =>
 (if (mget keq33 s23.2.1 x59.fPrefix).isSome=true then
 (idx s23.2.2 ((mget keq33 s23.2.1 x59.fPrefix).getD 0)).bind fun _ =>
 (idx s23.2.2 ((mget keq33 s23.2.1 x59.fPrefix).getD 0)).bind fun _ =>
 j58 (s23.2.1,(s23.2.2.set ((mget keq33 s23.2.1 x59.fPrefix).getD 0).toNat x59))
 else
 chk (decide ((s23.2.2++[x59]).length≤LIM)) <|
 j58 ((mput keq33 s23.2.1 x59.fPrefix (s23.2.2.length:Int)),(s23.2.2++[x59]))))
 else
 some (.inl s23.2.2))
def A27 (a0:F9) (a1:(List A1)):Option (F9×Int) :=
 jn (fun m5:Bool =>
 (if m5=true then
 some ((F9.mk ([]:List A1) (G4.mk 0 0 0)),1)
 else
 (Q2 a0.fPending).bind fun r8 =>
 (loop (A10 r8) (0,([]:List (A0×Int)))).bind fun p16 =>
 (V3 a1).bind fun r22 =>
 (loop (A11 r22) (0,p16,r8)).bind fun p50 =>
 (if (decide (4096<(p50.length:Int)))=true then
 some ((F9.mk ([]:List A1) (G4.mk 0 0 0)),3)
 else
 some ((F9.mk p50 a0.fBucket),0)))) (fun j6 =>
 (A1g a0).bind fun r67 =>
 (if (!r67)=true then
 j6 true
 else
 (L5 a1).bind fun r69 =>
 j6 r69))
theorem A69 (a0:F9) (a1:(List A1)) (r:F9×Int) (h:A27 a0 a1=some r):AC Tryz.prog 16 [(.d (C0 a0)),(.d (.list 22 (a1.map A6)))] [(500,(.know (globD 0 (.imap gv0))))] (.tup [(.d (C0 r.1)),(.d (.int .i64 r.2))]) [(500,some (.know (globD 0 (.imap gv0))))]:=by
 refine ac2 Tryz.func16 rfl rfl fun B hB hN L => ?_
 delta A27 at h
 apply sr (cg (OpJ.box hB (nm:=1002) (by decide) (by simp) rfl (L rfl) (q 0)) rfl (cg (alloc hB tyZ26 (nm:=1004) (by decide) (L rfl)) rfl (c (assign (L rfl) (ii 0)) rfl cn)))
 apply seq
 apply seq
 refine AWp.cut h (fun m5:Bool=>([(1,(B0 a1)),(2,(pt 1002)),(4,(pt 1004)),(20,(bo m5))]:EL)) (fun m5:Bool=>([(500,some (.know (globD 0 (.imap gv0)))),(1002,bd 26 (C0 a0)),(1004,some (.box 26 (.st [.nils,(.d (.st [(.int .i64 0),(.int .i64 0),(.int .i64 0)]))])))]:OL)) (fun m5 h E' O' hmat => ?_) (fun j6 hjj6 h => ?_)
 ·apply A3
  refine ghost hmat ?_
  apply AWp.cond rfl<;>intro hg7
  ·have h:=B6 hg7 h
   apply sr (c (OpJ.build (places:=[(0,1),(1,3)]) ⟨underlying26,fun w=>by kernel_rfl⟩ tyZS26 Opds.nil (by kernel_rfl) (r:=(.st [.nils,(.d (.st [(.int .i64 0),(.int .i64 0),(.int .i64 0)]))])) (by rfl) (L rfl)) rfl (cg (sB tyS26 (q 4) (q 21)) rfl (c (assign (L rfl) (ii 1)) rfl cn)))
   apply ret
   apply D4
   obtain rfl:=oi h
   exact rt (Mat.trans (Mat.coeP (Ts:=[]) (Bs:=[(1004,bd 26 (.st [(.list 22 (([]:List A1).map A6)),(.st [(.int .i64 0),(.int .i64 0),(.int .i64 0)])]))]) TwT.nil (TwB.cons (x:=(.st [.nils,(.d (.st [(.int .i64 0),(.int .i64 0),(.int .i64 0)]))])) (by rfl) (Tw.leaf ⟨_,(Co.st (CoL.cons (Co.nils 22) (CoL.cons (Co.d _) CoL.nil))),rfl⟩) TwB.nil)) (mp [] [(4,(pt 1004)),(5,(i6 1))] [(500,some (.know (globD 0 (.imap gv0)))),(1004,bd 26 (.st [(.list 22 (([]:List A1).map A6)),(.st [(.int .i64 0),(.int .i64 0),(.int .i64 0)])]))] hB)) [(.d (.st [(.list 22 (([]:List A1).map A6)),(.st [(.int .i64 0),(.int .i64 0),(.int .i64 0)])])),(i6 1)] (Res.cell (c:=(.d (.st [(.list 22 (([]:List A1).map A6)),(.st [(.int .i64 0),(.int .i64 0),(.int .i64 0)])]))) (by rfl) (by rfl) tyS26 (by rfl) (by rfl) (by rfl) (rT rN)) rfl
  ·have h:=B7 hg7 h
   apply AWp.skip
   apply A3
   apply seq
   obtain⟨r8,hr8,h⟩:=bindS h
   refine AWp.draws (by kernel_rfl) (oc (ov (.ptr 1002 0 [0]) (fp hN underlying26 0 tyS22 (.box 26 (.d (C0 a0))) (ot 2 (pt 1002))))
    (oc (lb hN 26 (.d (C0 a0)) (B0 a0.fPending) tyS22 (ad (.list 22 (a0.fPending.map A6))) (ot 22 (.ptr 1002 0 [0])))
    (oc (OpJ.callFn hB fnOk40 (A08 a0.fPending r8 hr8) [(900000,100200)] (by kernel_rfl) (L rfl) (by kernel_rfl) (OpdL.cons (ot 23 (B0 a0.fPending)) OpdL.nil))
    (oc (ov (.ptr 1002 1 [1]) (fp hN underlying26 1 tyS24 (.box 26 (.d (C0 a0))) (ot 2 (pt 1002))))
    (oc (lb hN 26 (.d (C0 a0)) (.d (E0 a0.fBucket)) tyS24 (ad (E0 a0.fBucket)) (ot 25 (.ptr 1002 1 [1])))
    (oc (OpJ.build (places:=[(0,1),(1,3)]) ⟨underlying26,fun w=>by kernel_rfl⟩ tyZS26 (Opds.cons (ot 24 (.sref 100200 22 0 r8.length)) (Opds.cons (ot 26 (.d (E0 a0.fBucket))) Opds.nil)) (by kernel_rfl) (r:=(.st [(.sref 100200 22 0 r8.length),(.d (E0 a0.fBucket))])) (by rfl) (L rfl))
    (oc (alloc hB tyZ26 (nm:=1006) (by decide) (L rfl))
    (oc (OpJ.storeB (bt:=26) (c:=(.st [.nils,(.d (.st [(.int .i64 0),(.int .i64 0),(.int .i64 0)]))])) (v:=(.st [(.sref 100200 22 0 r8.length),(.d (E0 a0.fBucket))])) (c':=(.st [(.sref 100200 22 0 r8.length),(.d (E0 a0.fBucket))])) tyS26 (SetAt.here _ _) (by rfl) (by rfl) (by simp) rfl (ot 6 (pt 1006)) (ot 27 (.st [(.sref 100200 22 0 r8.length),(.d (E0 a0.fBucket))])))
    (OpJs.nil))))))))) (by kernel_rfl) (by rfl) (by rfl) ?_
   apply A3
   refine ghost (mp [] [(1,(B0 a1)),(4,(pt 1004)),(6,(pt 1006))] [(500,some (.know (globD 0 (.imap gv0)))),(1004,some (.box 26 (.st [.nils,(.d (.st [(.int .i64 0),(.int .i64 0),(.int .i64 0)]))]))),(1006,some (.box 26 (.st [(.sref 100200 22 0 r8.length),(.d (E0 a0.fBucket))]))),(100200,some (C3 r8))] hB) ?_
   apply sr (cg (OpJ.mkmapQ hB (nm:=1028) (by decide) (L rfl)) rfl (c (assign (L rfl) (q 28)) rfl cn))
   apply seq
   apply sr (c (fo 1006 0 [0] hN underlying26 0 tyS22 (q 6)) rfl (c (lb hN 26 _ (.sref 100200 22 0 r8.length) tyS22 (At.st1 (f:=(.sref 100200 22 0 r8.length)) (by rfl) (by rfl) (At.here _) (by first | rfl | omega)) (q 29)) rfl (c (lenS underlying22 (L rfl) (q 30)) rfl (c (mv hN (ii 0)) rfl cn))))
   apply block
   obtain⟨p16,hx21,h⟩:=bindS h
   refine lg (A10 r8) (fun s9:Int×(List (A0×Int))=>([(1,(B0 a1)),(4,(pt 1004)),(6,(pt 1006)),(7,(.mref 1028)),(30,(.sref 100200 22 0 r8.length)),(31,(i6 (r8.length:Int))),(32,(i6 s9.1))]:EL)) (fun s9:Int×(List (A0×Int))=>([(500,some (.know (globD 0 (.imap gv0)))),(1004,some (.box 26 (.st [.nils,(.d (.st [(.int .i64 0),(.int .i64 0),(.int .i64 0)]))]))),(1006,some (.box 26 (.st [(.sref 100200 22 0 r8.length),(.d (E0 a0.fBucket))]))),(1028,some (.blk (mapQ (mpairs A2 (eI .i64) s9.2)))),(100200,some (C3 r8))]:OL)) (fun(p16:((List (A0×Int)))) e E' O'=>e = .exit 0∧Mat B E' O' ([(1,(B0 a1)),(4,(pt 1004)),(6,(pt 1006)),(7,(.mref 1028))]:EL) ([(500,some (.know (globD 0 (.imap gv0)))),(1004,some (.box 26 (.st [.nils,(.d (.st [(.int .i64 0),(.int .i64 0),(.int .i64 0)]))]))),(1006,some (.box 26 (.st [(.sref 100200 22 0 r8.length),(.d (E0 a0.fBucket))]))),(1028,some (.blk (mapQ (mpairs A2 (eI .i64) p16)))),(100200,some (C3 r8))]:OL)) hx21 (mp [] _ _ hB) (fun s9 y h => ?_) (fun e E' O' hR => ?_)
   ·unfold A10 at h
    apply sr (c (lss (L rfl) (q 32) (q 31)) rfl cn)
    apply seq
    apply AWp.cond rfl<;>intro hg17
    ·have h:=B6 hg17 h
     apply AWp.skip
     apply A3
     apply seq
     apply block
     obtain⟨_,hx18,h⟩:=bindS h
     obtain⟨x19,hx19,h⟩:=bindS h
     apply sr (c (mv hN (q 32)) rfl (c (OpJ.val (v':=(.ptr 100200 (s9.1.toNat*22) [s9.1.toNat])) (by simp) (indexS underlying22 tyS43 (A4 hx18).1 (by have:=A1b hx18;first | (simpa using this) | ((try simp only [List.length_map] at this);(try simp only [List.length_map]);omega)) (L rfl) (q 30) (q 32))) rfl (c (loadR (e:=43) (sz:=22) tyS43 (C8 A6 (A4 hx19).2) (o:=0) (At.here _) (by rfl) (by rfl) (by rfl) (L rfl) (q 35)) rfl (cg (alloc hB tyZ43 (nm:=1009) (by decide) (L rfl)) rfl (c (assign (L rfl) (q 34)) rfl (cg (sB tyS43 (q 9) (q 36)) rfl cn))))))
     apply rg (c (mv hN (q 7)) rfl (c (fo 1009 1 [1] hN underlying43 1 tyS33 (q 9)) rfl (c (la hN 43 tyS33 (q 38)) rfl (c (mv hN (q 8)) rfl (cg (OpJ.mputQ (g:=(eI .i64)) (v:=s9.1) (l:=s9.2) (k:=x19.fPrefix) tyU90 underlying33 keyEq33 (q 37) (q 39) (q 40)) rfl cn)))))
     apply F8
     apply A3
     apply rg (c (add6 (L rfl) (q 32) (ii 1)) rfl (c (mv hN (q 41)) rfl cn))
     obtain rfl:=oi h
     exact⟨rfl,(mp [] _ _ hB)⟩
    ·have h:=B7 hg17 h
     apply AWp.exit
     apply F6
     obtain rfl:=oi h
     exact⟨(fun hc=>by cases hc),rfl,(mp [] _ _ hB)⟩
   ·obtain⟨rfl,hmat⟩:=hR
    apply E4
    apply A3
    refine ghost hmat ?_
    apply seq
    obtain⟨r22,hr22,h⟩:=bindS h
    apply sr (c (mv hN (q 1)) rfl (cg (cf hB fnOk40 (A3i a1 r22 hr22) (L rfl) (OpdL.cons (q 42) OpdL.nil)) rfl (c (OpJ.val (v':=(i6 (r22.length:Int))) (by simp) (lenD underlying22 (L rfl) (q 43))) rfl (c (mv hN (ii 0)) rfl cn))))
    apply block
    obtain⟨p50,hx65,h⟩:=bindS h
    refine lg (A11 r22) (fun s23:Int×(List (A0×Int))×(List A1)=>([(4,(pt 1004)),(6,(pt 1006)),(7,(.mref 1028)),(43,(B0 r22)),(44,(i6 (r22.length:Int))),(45,(i6 s23.1))]:EL)) (fun s23:Int×(List (A0×Int))×(List A1)=>([(500,some (.know (globD 0 (.imap gv0)))),(1004,some (.box 26 (.st [.nils,(.d (.st [(.int .i64 0),(.int .i64 0),(.int .i64 0)]))]))),(1006,some (.box 26 (.st [(.sref 13060 22 0 s23.2.2.length),(.d (E0 a0.fBucket))]))),(1028,some (.blk (mapQ (mpairs A2 (eI .i64) s23.2.1)))),(13060,some (C3 s23.2.2))]:OL)) (fun(p50:((List A1))) e E' O'=>e = .exit 2∧Mat B E' O' ([(4,(pt 1004)),(6,(pt 1006))]:EL) ([(500,some (.know (globD 0 (.imap gv0)))),(1004,some (.box 26 (.st [.nils,(.d (.st [(.int .i64 0),(.int .i64 0),(.int .i64 0)]))]))),(1006,some (.box 26 (.st [(.sref 13060 22 0 p50.length),(.d (E0 a0.fBucket))]))),(13060,some (C3 p50))]:OL)) hx65 (mp [(13060,100200)] _ _ hB) (fun s23 y h => ?_) (fun e E' O' hR => ?_)
    ·unfold A11 at h
     apply sr (c (lss (L rfl) (q 45) (q 44)) rfl cn)
     apply seq
     apply AWp.cond rfl<;>intro hg51
     ·have h:=B6 hg51 h
      apply AWp.skip
      apply A3
      apply seq
      refine AWp.cut h (fun m57:(List (A0×Int))×(List A1)=>([(4,(pt 1004)),(6,(pt 1006)),(7,(.mref 1028)),(43,(B0 r22)),(44,(i6 (r22.length:Int))),(45,(i6 s23.1))]:EL)) (fun m57:(List (A0×Int))×(List A1)=>([(500,some (.know (globD 0 (.imap gv0)))),(1004,some (.box 26 (.st [.nils,(.d (.st [(.int .i64 0),(.int .i64 0),(.int .i64 0)]))]))),(1006,some (.box 26 (.st [(.sref 13060 22 0 m57.2.length),(.d (E0 a0.fBucket))]))),(1028,some (.blk (mapQ (mpairs A2 (eI .i64) m57.1)))),(13060,some (C3 m57.2))]:OL)) (fun m57 h E' O' hmat => ?_) (fun j58 hjj58 h => ?_)
      ·apply A3
       refine ghost hmat ?_
       apply rg (c (add6 (L rfl) (q 45) (ii 1)) rfl (c (mv hN (q 74)) rfl cn))
       obtain rfl:=oi h
       exact⟨rfl,(mp [] _ _ hB)⟩
      ·apply block
       obtain⟨x59,hx59,h⟩:=bindS h
       apply sr (c (indexD underlying22 tyS43 (A4 hx59).1 (C8 A6 (A4 hx59).2) (L rfl) (q 43) (q 45)) rfl (c (loadD tyS43 (by rfl) (by rfl) (L rfl) (q 47)) rfl (cg (alloc hB tyZ43 (nm:=1011) (by decide) (L rfl)) rfl (cg (sB tyS43 (q 11) (q 48)) rfl cn))))
       apply seq
       apply sr (c (mv hN (q 7)) rfl (c (fo 1011 1 [1] hN underlying43 1 tyS33 (q 11)) rfl (c (la hN 43 tyS33 (q 51)) rfl (cg (OpJ.mlook2Q (g:=(eI .i64)) (l:=s23.2.1) (k:=x59.fPrefix) tyU90 underlying33 keyEq33 (z:=0) tyZD3 (L rfl) (q 50) (q 52)) rfl (c (mv hN (q 53)) rfl (c (extract (by rfl) rfl (L rfl) (q 49)) rfl (c (extract (by rfl) rfl (L rfl) (q 49)) rfl (c (assign (L rfl) (q 54)) rfl (c (assign (L rfl) (q 55)) rfl cn)))))))))
       apply sr (c (mv hN (q 13)) rfl cn)
       apply AWp.cond rfl<;>intro hg60
       ·have h:=B6 hg60 h
        obtain⟨_,hx61,h⟩:=bindS h
        obtain⟨_,hx62,h⟩:=bindS h
        apply sr (c (fo 1006 0 [0] hN underlying26 0 tyS22 (q 6)) rfl (c (lb hN 26 _ (.sref 13060 22 0 s23.2.2.length) tyS22 (At.st1 (f:=(.sref 13060 22 0 s23.2.2.length)) (by rfl) (by rfl) (At.here _) (by first | rfl | omega)) (q 57)) rfl (c (mv hN (q 12)) rfl (c (lb hN 43 _ _ tyS43 (At.here _) (q 11)) rfl (c (OpJ.val (v':=(.ptr 13060 (((mget keq33 s23.2.1 x59.fPrefix).getD 0).toNat*22) [((mget keq33 s23.2.1 x59.fPrefix).getD 0).toNat])) (by simp) (indexS underlying22 tyS43 (A4 hx61).1 (by have:=A1b hx61;first | (simpa using this) | ((try simp only [List.length_map] at this);(try simp only [List.length_map]);omega)) (L rfl) (q 58) (q 59))) rfl (cg (OpJ.storeR (e:=43) (sz:=22) (es':=(s23.2.2.set ((mget keq33 s23.2.1 x59.fPrefix).getD 0).toNat x59).map A6) tyS43 (C8 A6 (A4 hx62).2) (o:=0) (SetAt.here _ _) (by rfl) (A61 _ _ _ _) (by rfl) (by rfl) (q 61) (q 60)) rfl cn))))))
        refine gh [(4,_),(6,_),(7,_),(43,_),(44,_),(45,_)] [(500,some _),(1004,some _),(1006,some _),(1028,some _),(13060,some _)] hB rfl rfl (by rfl) ?_
        apply AWp.exit
        apply F6
        apply E4
        exact hjj58 _ h _ _ (Mat.trans (Mat.lenP (Ts:=[]) (Bs:=[(1006,some (.box 26 (.st [(.sref 13060 22 0 ((s23.2.2.set ((mget keq33 s23.2.1 x59.fPrefix).getD 0).toNat x59).length)),(.d (E0 a0.fBucket))])))]) TwT.nil (TwB.cons (x:=(.st [(.sref 13060 22 0 s23.2.2.length),(.d (E0 a0.fBucket))])) (by rfl) (Tw.st (TwL.cons (Tw.leaf ⟨_,_,_,_,_,rfl,rfl,(by first | rfl | (simp;done) | (simp;omega) | omega)⟩) (TwL.cons (Tw.same _) TwL.nil))) TwB.nil)) (mp [] _ _ hB))
       ·have h:=B7 hg60 h
        apply AWp.skip
        apply A3
        apply sr (c (mv hN (q 7)) rfl (c (fo 1011 1 [1] hN underlying43 1 tyS33 (q 11)) rfl (c (la hN 43 tyS33 (q 63)) rfl (c (fo 1006 0 [0] hN underlying26 0 tyS22 (q 6)) rfl (c (lb hN 26 _ (.sref 13060 22 0 s23.2.2.length) tyS22 (At.st1 (f:=(.sref 13060 22 0 s23.2.2.length)) (by rfl) (by rfl) (At.here _) (by first | rfl | omega)) (q 65)) rfl (c (lenS underlying22 (L rfl) (q 66)) rfl (cg (OpJ.mputQ (g:=(eI .i64)) (v:=(s23.2.2.length:Int)) (l:=s23.2.1) (k:=x59.fPrefix) tyU90 underlying33 keyEq33 (q 62) (q 64) (q 67)) rfl cn)))))))
        obtain⟨hc63,h⟩:=D3 h
        apply rg (c (fo 1006 0 [0] hN underlying26 0 tyS22 (q 6)) rfl (c (lb hN 26 _ (.sref 13060 22 0 s23.2.2.length) tyS22 (At.st1 (f:=(.sref 13060 22 0 s23.2.2.length)) (by rfl) (by rfl) (At.here _) (by first | rfl | omega)) (q 68)) rfl (c (lb hN 43 _ _ tyS43 (At.here _) (q 11)) rfl (c (buildSlice underlying22 tyS43 tyZD43 (by rfl) (by decide) (by decide) (Opds.cons (q 70) Opds.nil) (by kernel_rfl) (es:=([(A6 x59)]:List D)) (by rfl) (by rfl) (by kernel_rfl) (by simp) (L rfl)) rfl (cg (apd hB underlying22 tyE43 1072 A6 s23.2.2 [x59] hc63 (L rfl) (q 69) (q 71)) rfl (c (fo 1006 0 [0] hN underlying26 0 tyS22 (q 6)) rfl (cg (OpJ.storeB (c':=(.st [(.sref 1072 22 0 ((s23.2.2++[x59]).length)),(.d (E0 a0.fBucket))])) tyS22 (SetAt.st1 (f:=(.sref 13060 22 0 s23.2.2.length)) (by rfl) (by rfl) (SetAt.here _ _) (by rfl) (by rfl) (by first | rfl | omega)) (by rfl) (by rfl) (by simp) rfl (q 73) (q 72)) rfl cn)))))))
        apply F8
        exact hjj58 _ h _ _ (mp [(13060,1072)] _ _ hB)
     ·have h:=B7 hg51 h
      apply AWp.exit
      apply F6
      obtain rfl:=oi h
      exact⟨(fun hc=>by cases hc),rfl,(mp [] _ _ hB)⟩
    ·obtain⟨rfl,hmat⟩:=hR
     apply E4
     apply A3
     refine ghost hmat ?_
     apply seq
     apply sr (c (fo 1006 0 [0] hN underlying26 0 tyS22 (q 6)) rfl (c (lb hN 26 _ (.sref 13060 22 0 p50.length) tyS22 (At.st1 (f:=(.sref 13060 22 0 p50.length)) (by rfl) (by rfl) (At.here _) (by first | rfl | omega)) (q 75)) rfl (c (lenS underlying22 (L rfl) (q 76)) rfl (c (gtr (L rfl) (q 77) (ii 4096)) rfl cn))))
     apply AWp.cond rfl<;>intro hg66
     ·have h:=B6 hg66 h
      apply sr (c (OpJ.build (places:=[(0,1),(1,3)]) ⟨underlying26,fun w=>by kernel_rfl⟩ tyZS26 Opds.nil (by kernel_rfl) (r:=(.st [.nils,(.d (.st [(.int .i64 0),(.int .i64 0),(.int .i64 0)]))])) (by rfl) (L rfl)) rfl (cg (sB tyS26 (q 4) (q 79)) rfl (c (assign (L rfl) (ii 3)) rfl cn)))
      apply ret
      apply D4
      obtain rfl:=oi h
      exact rt (Mat.trans (Mat.coeP (Ts:=[]) (Bs:=[(1004,bd 26 (.st [(.list 22 (([]:List A1).map A6)),(.st [(.int .i64 0),(.int .i64 0),(.int .i64 0)])]))]) TwT.nil (TwB.cons (x:=(.st [.nils,(.d (.st [(.int .i64 0),(.int .i64 0),(.int .i64 0)]))])) (by rfl) (Tw.leaf ⟨_,(Co.st (CoL.cons (Co.nils 22) (CoL.cons (Co.d _) CoL.nil))),rfl⟩) TwB.nil)) (mp [] [(4,(pt 1004)),(5,(i6 3))] [(500,some (.know (globD 0 (.imap gv0)))),(1004,bd 26 (.st [(.list 22 (([]:List A1).map A6)),(.st [(.int .i64 0),(.int .i64 0),(.int .i64 0)])]))] hB)) [(.d (.st [(.list 22 (([]:List A1).map A6)),(.st [(.int .i64 0),(.int .i64 0),(.int .i64 0)])])),(i6 3)] (Res.cell (c:=(.d (.st [(.list 22 (([]:List A1).map A6)),(.st [(.int .i64 0),(.int .i64 0),(.int .i64 0)])]))) (by rfl) (by rfl) tyS26 (by rfl) (by rfl) (by rfl) (rT rN)) rfl
     ·have h:=B7 hg66 h
      apply AWp.skip
      apply A3
      apply sr (c (lb hN 26 _ _ tyS26 (At.here _) (q 6)) rfl (cg (sB tyS26 (q 4) (q 80)) rfl (c (assign (L rfl) (ii 0)) rfl cn)))
      apply ret
      obtain rfl:=oi h
      exact rt (Mat.trans (Mat.freezeP (n:=13060) (e:=43) (sz:=22) (es:=p50.map A6) (Ts:=[]) (Bs:=[(1004,some (.box 26 (.st [(B0 p50),(.d (E0 a0.fBucket))])))]) (by rfl) TwT.nil (TwB.cons (x:=(.st [(.sref 13060 22 0 p50.length),(.d (E0 a0.fBucket))])) (by rfl) (Tw.st (TwL.cons (FrzL.all (by first | rfl | (simp;done) | (simp;omega) | omega)) (TwL.cons (Tw.same _) TwL.nil))) TwB.nil)) (Mat.trans (Mat.coeP (Ts:=[]) (Bs:=[(1004,bd 26 (.st [(.list 22 (p50.map A6)),(E0 a0.fBucket)]))]) TwT.nil (TwB.cons (x:=(.st [(B0 p50),(.d (E0 a0.fBucket))])) (by rfl) (Tw.leaf ⟨_,(Co.st (CoL.cons (Co.d _) (CoL.cons (Co.d _) CoL.nil))),rfl⟩) TwB.nil)) (mp [] [(4,(pt 1004)),(5,(i6 0))] [(500,some (.know (globD 0 (.imap gv0)))),(1004,bd 26 (.st [(.list 22 (p50.map A6)),(E0 a0.fBucket)]))] hB))) [(.d (.st [(.list 22 (p50.map A6)),(E0 a0.fBucket)])),(i6 0)] (Res.cell (c:=(.d (.st [(.list 22 (p50.map A6)),(E0 a0.fBucket)]))) (by rfl) (by rfl) tyS26 (by rfl) (by rfl) (by rfl) (rT rN)) rfl
 ·obtain⟨r67,hr67,h⟩:=bindS h
  rcases bft (!r67) with hg68 | hg68
  ·have h:=B6 hg68 h
   refine AWp.region (oc (lb hN 26 (.d (C0 a0)) (.d (C0 a0)) tyS26 (At.here _) (ot 2 (pt 1002)))
    (oc (OpJ.callFn hB fnOk11 (A35 a0 r67 hr67) [(500,500)] (by kernel_rfl) (L rfl) (by kernel_rfl) (OpdL.cons (ot 14 (.d (C0 a0))) OpdL.nil))
    (oc (OpJ.not (L rfl) (ot 15 (bo r67)))
    (oc (OpJ.val (v':=.d (.bool true)) (by rw [hg68]<;>rfl) (mv hN (ot 16 (bo (!r67)))))
    (oc (sU 17 (L rfl))
    (oc (sU 17 (L rfl))
    (oc (pickT (L rfl) (ot 17 (bo true)) (Opd.bool true))
    (OpJs.nil)))))))) (by rfl) (by rfl) ?_
   exact hjj6 _ h _ _ (mp [] _ _ hB)
  ·have h:=B7 hg68 h
   obtain⟨r69,hr69,h⟩:=bindS h
   refine AWp.region (oc (lb hN 26 (.d (C0 a0)) (.d (C0 a0)) tyS26 (At.here _) (ot 2 (pt 1002)))
    (oc (OpJ.callFn hB fnOk11 (A35 a0 r67 hr67) [(500,500)] (by kernel_rfl) (L rfl) (by kernel_rfl) (OpdL.cons (ot 14 (.d (C0 a0))) OpdL.nil))
    (oc (OpJ.not (L rfl) (ot 15 (bo r67)))
    (oc (OpJ.val (v':=.d (.bool false)) (by rw [hg68]<;>rfl) (mv hN (ot 16 (bo (!r67)))))
    (oc (gd 17 (mv hN (ot 1 (B0 a1))))
    (oc (gd 17 (OpJ.callFn hB fnOk38 (A36 a1 r69 hr69) [(500,500)] (by kernel_rfl) (L rfl) (by kernel_rfl) (OpdL.cons (ot 18 (B0 a1)) (OpdL.cons (Opd.func 39) OpdL.nil))))
    (oc (pickF (L rfl) (ot 17 (bo false)) (ot 19 (bo r69)))
    (OpJs.nil)))))))) (by rfl) (by rfl) ?_
   exact hjj6 _ h _ _ (mp [] _ _ hB)
def A0f (a0:A1) (a1:A1):Option (Int) :=
 (A1d a0.fPrefix a1.fPrefix).bind fun r1 =>
 some r1
theorem A8m (a0:A1) (a1:A1) (r:Int) (h:A0f a0 a1=some r):AC Tryz.prog 44 [(.d (A6 a0)),(.d (A6 a1))] [] (.d (.int .i64 r)) []:=by
 refine AC.of_code2 Tryz.func44 rfl rfl (Nat.le_of_ble_eq_true (by rfl)) fun B hB hN => ?_
 delta A0f at h
 apply sr (cg (OpJ.box hB (nm:=1002) (by decide) (by simp) rfl (ltN hN rfl) (q 0)) rfl (cg (OpJ.box hB (nm:=1003) (by decide) (by simp) rfl (ltN hN rfl) (q 1)) rfl (c (assign (ltN hN rfl) (ii 0)) rfl cn)))
 obtain⟨r1,hr1,h⟩:=bindS h
 apply sr (c (fo 1002 1 [1] hN underlying43 1 tyS33 (q 2)) rfl (c (la hN 43 tyS33 (q 5)) rfl (c (fo 1003 1 [1] hN underlying43 1 tyS33 (q 3)) rfl (c (la hN 43 tyS33 (q 7)) rfl (cg (OpJ.callFn hB fnOk45 (A5m a0.fPrefix a1.fPrefix r1 hr1) [] (by kernel_rfl) (ltN hN rfl) (by kernel_rfl) (OpdL.cons (q 6) (OpdL.cons (q 8) OpdL.nil))) rfl (c (assign (ltN hN rfl) (q 9)) rfl cn))))))
 apply ret
 obtain rfl:=oi h
 exact rt (kp [(4,_)] [] hB rfl rfl (by rfl)) [(i6 r1)] (rT rN) rfl
def H9 (a0:(List A1)):Option (List A1):=sortF a0 fun x y=>A0f x y
theorem Z5 (a0:(List A1)) (r:List A1) (h:H9 a0=some r):AC Tryz.prog 43 [(.sref 0 22 0 a0.length),.func 44 []] [(0,(.row 43 22 (a0.map A6)))] (.tup []) [(0,some (.row 43 22 (r.map A6)))] :=
 AC.sortF A6 (fun x y=>A0f x y) a0 r h sortOk43 fnOk44 (fun _=>rfl) rfl rfl (fun x y c hc=>A8m x y c hc)
def A2g (a0:G4):Option (G4×Bool) :=
 (if (decide (a0.fLevel≤0))=true then
 some (a0,false)
 else
 some ((G4.mk (w64 (a0.fLevel-1)) a0.fRate a0.fBurst),true))
theorem A98 (a0:G4) (r:G4×Bool) (h:A2g a0=some r):AC Tryz.prog 47 [(.d (E0 a0))] [] (.tup [(.d (E0 r.1)),(.d (.bool r.2))]) []:=by
 refine AC.of_code2 Tryz.func47 rfl rfl (Nat.le_of_ble_eq_true (by rfl)) fun B hB hN => ?_
 delta A2g at h
 apply sr (cg (OpJ.box hB (nm:=1001) (by decide) (by simp) rfl (ltN hN rfl) (q 0)) rfl (cg (alloc hB tyZ24 (nm:=1002) (by decide) (ltN hN rfl)) rfl (c (assign (ltN hN rfl) (Opd.bool false)) rfl cn)))
 apply seq
 apply sr (c (fo 1001 0 [0] hN underlying24 0 tyS3 (q 1)) rfl (c (la hN 24 tyS3 (q 4)) rfl (c (leq (ltN hN rfl) (q 5) (ii 0)) rfl cn)))
 apply AWp.cond rfl<;>intro hg1
 ·have h:=B6 hg1 h
  apply sr (c (lb hN 24 _ _ tyS24 (At.here _) (q 1)) rfl (cg (sB tyS24 (q 2) (q 7)) rfl (c (assign (ltN hN rfl) (Opd.bool false)) rfl cn)))
  apply ret
  apply D4
  obtain rfl:=oi h
  exact rt (kp [(2,_),(3,_)] [(1002,some _)] hB rfl rfl (by rfl)) [(.d (E0 a0)),(bo false)] (Res.cell (c:=(.d (E0 a0))) (by rfl) (by rfl) tyS24 (by rfl) (by rfl) (by rfl) (rT rN)) rfl
 ·have h:=B7 hg1 h
  apply AWp.skip
  apply A3
  apply sr (c (fo 1001 0 [0] hN underlying24 0 tyS3 (q 1)) rfl (c (la hN 24 tyS3 (q 8)) rfl (c (sub6 (ltN hN rfl) (q 9) (ii 1)) rfl (c (fo 1001 0 [0] hN underlying24 0 tyS3 (q 1)) rfl (cg (OpJ.storeB tyS3 (SetAt.dst1 (by rfl) (by rfl) (SetAt.here _ _) (by rfl) (by rfl) (by first | rfl | omega)) (by rfl) (by rfl) (by simp) rfl (q 11) (q 10)) rfl cn)))))
  apply sr (c (lb hN 24 _ _ tyS24 (At.here _) (q 1)) rfl (cg (sB tyS24 (q 2) (q 12)) rfl (c (assign (ltN hN rfl) (Opd.bool true)) rfl cn)))
  apply ret
  obtain rfl:=oi h
  exact rt (kp [(2,_),(3,_)] [(1002,some _)] hB rfl rfl (by rfl)) [(.d (.st [(.int .i64 (w64 (a0.fLevel-1))),(.int .i64 a0.fRate),(.int .i64 a0.fBurst)])),(bo true)] (Res.cell (c:=(.d (.st [(.int .i64 (w64 (a0.fLevel-1))),(.int .i64 a0.fRate),(.int .i64 a0.fBurst)]))) (by rfl) (by rfl) tyS24 (by rfl) (by rfl) (by rfl) (rT rN)) rfl
def A12 (a0:(List A0)):Option ((List A0)) :=
 chk (decide (a0.length≤LIM)) <|
 some a0
theorem A7r (a0:(List A0)) (r:(List A0)) (h:A12 a0=some r):AC Tryz.prog 48 [(.d (.list 4 (a0.map A2)))] [] (.sref 900000 4 0 r.length) [(900000,some (.row 33 4 (r.map A2)))]:=by
 refine AC.of_code2 Tryz.func48 rfl rfl (Nat.le_of_ble_eq_true (by rfl)) fun B hB hN => ?_
 delta A12 at h
 apply sr (c (assign (ltN hN rfl) Opd.nils) rfl cn)
 obtain⟨hc1,h⟩:=D3 h
 apply sr (c (mv hN (q 0)) rfl (cg (OpJ.appendN hB underlying69 tyE33 (nm:=1004) (by decide) (ys:=a0.map A2) (len:=a0.length) (by simp) (R4 (f:=A2) (fun _=>rfl)) (by rw [List.length_map];exact J6 hc1 (by decide)) (by rw [List.length_map];exact M6 hc1) (ltN hN rfl) Opd.nils (q 3)) rfl (c (assign (ltN hN rfl) (q 4)) rfl cn)))
 apply ret
 obtain rfl:=oi h
 exact rt (mp [(900000,1004)] [(2,(.sref 900000 4 0 a0.length))] [(900000,some (G3 a0))] hB) [(.sref 900000 4 0 a0.length)] (rT rN) rfl
def T2 (a0:A1) (a1:(List (A0×Bool))):Option (Bool) :=
 some ((mget keq33 a1 a0.fPrefix).getD false)
theorem A4w (a0:A1) (a1:(List (A0×Bool))) (r:Bool) (h:T2 a0 a1=some r):AC Tryz.prog 50 [(.d (A6 a0)),(pt 0)] [(0,(.box 82 (.mref 1))),(1,(.blk (mapQ (mpairs A2 eB a1))))] (.d (.bool r)) [(0,some (.box 82 (.mref 1))),(1,some (.blk (mapQ (mpairs A2 eB a1))))]:=by
 refine AC.of_code2 Tryz.func50 rfl rfl (Nat.le_of_ble_eq_true (by rfl)) fun B hB hN => ?_
 delta T2 at h
 apply sr (cg (OpJ.box hB (nm:=1002) (by decide) (by simp) rfl (ltN hN rfl) (q 0)) rfl (c (assign (ltN hN rfl) (Opd.bool false)) rfl cn))
 apply sr (c (lb hN 82 _ _ tyS82 (At.here _) (q 1)) rfl (c (fo 1002 1 [1] hN underlying43 1 tyS33 (q 2)) rfl (c (la hN 43 tyS33 (q 5)) rfl (cg (OpJ.mlookQ (g:=eB) (l:=a1) (k:=a0.fPrefix) tyU82 underlying33 keyEq33 (z:=false) tyZD4 (ltN hN rfl) (q 4) (q 6)) rfl (c (assign (ltN hN rfl) (q 7)) rfl cn)))))
 apply ret
 obtain rfl:=oi h
 exact rt (kp [(3,_)] [(0,some _),(1,some _)] hB rfl rfl (by rfl)) [(bo ((mget keq33 a1 a0.fPrefix).getD false))] (rT rN) rfl
def L6 (a0:(List A1)) (a1:(List (A0×Bool))) (s1:Int):Option (((Int)⊕(Unit))⊕(Int)) :=
 (if (decide (s1<(a0.length:Int)))=true then
 (idx a0 s1).bind fun _ =>
 (idx a0 s1).bind fun x16 =>
 (T2 x16 a1).bind fun r17 =>
 (if r17=true then
 some (.inl (.inl s1))
 else
 some (.inr (w64 (s1+1))))
 else
 some (.inl (.inr ())))
def P4 (a0:(List A1)) (a1:(List (A0×Bool))):Option (Int) :=
 (loop (L6 a0 a1) 0).bind fun x19=>match x19 with
 | (.inl p12) =>
  some p12
 | (.inr _) =>
  some (-1)
theorem A49 (a0:(List A1)) (a1:(List (A0×Bool))) (r:Int) (h:P4 a0 a1=some r):AC Tryz.prog 68 [(.sref 0 22 0 a0.length),(.func 50 [(pt 1)])] [(0,(.row 43 22 (a0.map A6))),(1,(.box 82 (.mref 2))),(2,(.blk (mapQ (mpairs A2 eB a1))))] (.d (.int .i64 r)) [(0,some (.row 43 22 (a0.map A6))),(1,some (.box 82 (.mref 2))),(2,some (.blk (mapQ (mpairs A2 eB a1))))]:=by
 refine AC.of_code2 Tryz.func68 rfl rfl (Nat.le_of_ble_eq_true (by rfl)) fun B hB hN => ?_
 delta P4 at h
 apply sr (c (assign (ltN hN rfl) (ii 0)) rfl cn)
 apply seq
 apply sr (c (mv hN (q 0)) rfl (c (lenS underlying22 (ltN hN rfl) (q 6)) rfl (c (mv hN (ii 0)) rfl cn)))
 apply block
 obtain⟨x19,hx20,h⟩:=bindS h
 refine lg (L6 a0 a1) (fun s1:Int=>([(0,(.sref 0 22 0 a0.length)),(1,(.func 50 [(pt 1)])),(7,(i6 (a0.length:Int))),(8,(i6 s1))]:EL)) (fun s1:Int=>([(0,some (C3 a0)),(1,some (.box 82 (.mref 2))),(2,some (.blk (mapQ (mpairs A2 eB a1))))]:OL)) (fun(x:(Int)⊕(Unit)) e E' O'=>match x with | (.inl p12)=>e = .ret∧Mat B E' O' ([(4,(i6 p12))]:EL) ([(0,some (C3 a0)),(1,some (.box 82 (.mref 2))),(2,some (.blk (mapQ (mpairs A2 eB a1))))]:OL) | (.inr _p)=>e = .exit 0∧Mat B E' O' ([]:EL) ([(0,some (C3 a0)),(1,some (.box 82 (.mref 2))),(2,some (.blk (mapQ (mpairs A2 eB a1))))]:OL)) hx20 (mp [] _ _ hB) (fun s1 y h => ?_) (fun e E' O' hR => ?_)
 ·unfold L6 at h
  apply sr (c (lss (ltN hN rfl) (q 8) (q 7)) rfl cn)
  apply seq
  apply AWp.cond rfl<;>intro hg14
  ·have h:=B6 hg14 h
   apply AWp.skip
   apply A3
   apply seq
   apply block
   apply sr (c (mv hN (q 8)) rfl (c (assign (ltN hN rfl) (q 10)) rfl cn))
   apply seq
   obtain⟨_,hx15,h⟩:=bindS h
   obtain⟨x16,hx16,h⟩:=bindS h
   obtain⟨r17,hr17,h⟩:=bindS h
   refine AWp.region (oc (mv hN (ot 1 (.func 50 [(pt 1)])))
    (oc (mv hN (ot 0 (.sref 0 22 0 a0.length)))
    (oc (mv hN (ot 5 (i6 s1)))
    (oc (OpJ.val (v':=(.ptr 0 (s1.toNat*22) [s1.toNat])) (by simp) (indexS underlying22 tyS43 (obj:=(C3 a0)) (A4 hx15).1 (by have:=A1b hx15;first | (simpa using this) | ((try simp only [List.length_map] at this);(try simp only [List.length_map]);omega)) (ltN hN rfl) (ot 12 (.sref 0 22 0 a0.length)) (ot 13 (i6 s1))))
    (oc (loadR (e:=43) (sz:=22) (es:=a0.map A6) tyS43 (C8 A6 (A4 hx16).2) (o:=0) (v:=(A6 x16)) (At.here _) (by rfl) (by rfl) (by rfl) (ltN hN rfl) (ot 14 (.ptr 0 (s1.toNat*22) [s1.toNat])))
    (oc (callVal (args:=[(.d (A6 x16))]) (caps:=[(pt 0)]) hB fnOk50 [(0,1),(1,2)] (A4w x16 a1 r17 hr17) (by kernel_rfl) (ltN hN rfl) (by kernel_rfl) (by kernel_rfl) (OpdL.cons (ot 15 (.d (A6 x16))) OpdL.nil))
    (OpJs.nil))))))) (by rfl) (by rfl) ?_
   apply A3
   refine ghost (mp [] [(0,(.sref 0 22 0 a0.length)),(1,(.func 50 [(pt 1)])),(5,(i6 s1)),(7,(i6 (a0.length:Int))),(8,(i6 s1)),(16,(bo r17))] [(0,some (C3 a0)),(1,some (.box 82 (.mref 2))),(2,some (.blk (mapQ (mpairs A2 eB a1))))] hB) ?_
   apply AWp.cond rfl<;>intro hg18
   ·have h:=B6 hg18 h
    apply sr (c (mv hN (q 5)) rfl (c (assign (ltN hN rfl) (q 17)) rfl cn))
    apply ret
    apply F7
    apply D4
    obtain rfl:=oi h
    exact⟨(fun hc=>by cases hc),rfl,(mp [] _ _ hB)⟩
   ·have h:=B7 hg18 h
    apply AWp.skip
    apply F8
    apply A3
    apply rg (c (add6 (ltN hN rfl) (q 8) (ii 1)) rfl (c (mv hN (q 18)) rfl cn))
    obtain rfl:=oi h
    exact⟨rfl,(mp [] _ _ hB)⟩
  ·have h:=B7 hg14 h
   apply AWp.exit
   apply F6
   obtain rfl:=oi h
   exact⟨(fun hc=>by cases hc),rfl,(mp [] _ _ hB)⟩
 ·rcases x19 with p12 | _
  ·obtain⟨rfl,hmat⟩:=hR
   apply F7
   apply D4
   obtain rfl:=oi h
   exact rt (Mat.trans hmat (mp [] [(4,(i6 p12))] [(0,some (C3 a0)),(1,some (.box 82 (.mref 2))),(2,some (.blk (mapQ (mpairs A2 eB a1))))] hB)) [(i6 p12)] (rT rN) rfl
  ·obtain⟨rfl,hmat⟩:=hR
   apply E4
   apply A3
   refine ghost hmat ?_
   apply sr (c (assign (ltN hN rfl) (ii (-1))) rfl cn)
   apply ret
   obtain rfl:=oi h
   exact rt (kp [(4,_)] [(0,some _),(1,some _),(2,some _)] hB rfl rfl (by rfl)) [(i6 (-1))] (rT rN) rfl
def R0 (a1:(List (A0×Bool))) (s3:Int×Int×(List A1)):Option (((Int×(List A1)))⊕(Int×Int×(List A1))) :=
 (if (decide (s3.2.1<(s3.2.2.length:Int)))=true then
 (idx s3.2.2 s3.2.1).bind fun _ =>
 (idx s3.2.2 s3.2.1).bind fun x31 =>
 (T2 x31 a1).bind fun r32 =>
 jn (fun m36:Int×(List A1) =>
 some (.inr (m36.1,(w64 (s3.2.1+1)),m36.2))) (fun j37 =>
 (if (!r32)=true then
 (idx s3.2.2 s3.1).bind fun _ =>
 (idx s3.2.2 s3.1).bind fun _ =>
 j37 ((w64 (s3.1+1)),(s3.2.2.set s3.1.toNat x31))
 else
 j37 (s3.1,s3.2.2)))
 else
 some (.inl (s3.1,s3.2.2)))
def R1 (a0:(List A1)) (a1:(List (A0×Bool))):Option ((List A1)) :=
 (P4 a0 a1).bind fun r1 =>
 (if (r1==(-1))=true then
 some a0
 else
 (loop (R0 a1) (r1,(w64 (r1+1)),a0)).bind fun p28 =>
 chk ((decide (0≤p28.1)&&decide (p28.1.toNat≤p28.2.length)&&decide (p28.2.length≤p28.2.length))) <|
 chk (decide (p28.1.toNat+(p28.2.length-p28.1.toNat)≤p28.2.length)) <|
 chk ((decide (0≤p28.1)&&decide (0≤p28.1.toNat)&&decide (p28.1.toNat≤p28.2.length))) <|
 some (((p28.2.take p28.1.toNat++List.replicate (p28.2.length-p28.1.toNat) (A1.mk 0 (A0.mk (E7.mk false 0 0) 0) false (B3.mk (A0.mk (E7.mk false 0 0) 0) 0 (D9.mk 0 ([]:List B2) (E7.mk false 0 0) 0 0 0 ([]:List C6) ([]:List G0) ([]:List A7))))++p28.2.drop (p28.1.toNat+(p28.2.length-p28.1.toNat))).drop 0).take p28.1.toNat))
theorem A4x (a0:(List A1)) (a1:(List (A0×Bool))) (r:(List A1)) (h:R1 a0 a1=some r):AC Tryz.prog 49 [(.sref 0 22 0 a0.length),(.func 50 [(pt 1)])] [(0,(.row 43 22 (a0.map A6))),(1,(.box 82 (.mref 2))),(2,(.blk (mapQ (mpairs A2 eB a1))))] (.d (.list 22 (r.map A6))) [(0,none),(1,some (.box 82 (.mref 2))),(2,some (.blk (mapQ (mpairs A2 eB a1))))]:=by
 refine ac2 Tryz.func49 rfl rfl fun B hB hN L => ?_
 delta R1 at h
 apply sr (c (assign (L rfl) Opd.nils) rfl cn)
 apply seq
 obtain⟨r1,hr1,h⟩:=bindS h
 refine AWp.region (oc (mv hN (ot 0 (.sref 0 22 0 a0.length)))
 (oc (mv hN (ot 1 (.func 50 [(pt 1)])))
 (oc (OpJ.callFn hB fnOk68 (A49 a0 a1 r1 hr1) [(0,0),(1,1),(2,2)] (by kernel_rfl) (L rfl) (by kernel_rfl) (OpdL.cons (ot 8 (.sref 0 22 0 a0.length)) (OpdL.cons (ot 9 (.func 50 [(pt 1)])) OpdL.nil)))
 (oc (assign (L rfl) (ot 10 (i6 r1)))
 (OpJs.nil))))) (by rfl) (by rfl) ?_
 apply A3
 refine ghost (mp [] [(0,(.sref 0 22 0 a0.length)),(1,(.func 50 [(pt 1)])),(5,(i6 r1))] [(0,some (C3 a0)),(1,some (.box 82 (.mref 2))),(2,some (.blk (mapQ (mpairs A2 eB a1))))] hB) ?_
 apply seq
 apply sr (c (mv hN (q 5)) rfl (c (eqlI (L rfl) (q 11) (ii (-1))) rfl cn))
 apply AWp.cond rfl<;>intro hg2
 ·have h:=B6 hg2 h
  apply sr (c (mv hN (q 0)) rfl (c (assign (L rfl) (q 13)) rfl cn))
  apply ret
  apply D4
  obtain rfl:=oi h
  exact rt (Mat.trans (Mat.freezeP (n:=0) (e:=43) (sz:=22) (es:=a0.map A6) (Ts:=[(4,(B0 a0))]) (Bs:=[]) (by rfl) (TwT.cons (x:=(.sref 0 22 0 a0.length)) (by rfl) (FrzL.all (by first | rfl | (simp;done) | (simp;omega) | omega)) TwT.nil) TwB.nil) (mp [] [(4,(B0 a0))] [(1,some (.box 82 (.mref 2))),(2,some (.blk (mapQ (mpairs A2 eB a1))))] hB)) [(B0 a0)] (rT rN) rfl
 ·have h:=B7 hg2 h
  apply AWp.skip
  apply A3
  apply seq
  apply sr (c (mv hN (q 5)) rfl (c (add6 (L rfl) (q 14) (ii 1)) rfl (c (assign (L rfl) (q 15)) rfl cn)))
  apply block
  obtain⟨p28,hx42,h⟩:=bindS h
  refine lg (R0 a1) (fun s3:Int×Int×(List A1)=>([(0,(.sref 0 22 0 s3.2.2.length)),(1,(.func 50 [(pt 1)])),(5,(i6 s3.1)),(6,(i6 s3.2.1))]:EL)) (fun s3:Int×Int×(List A1)=>([(0,some (C3 s3.2.2)),(1,some (.box 82 (.mref 2))),(2,some (.blk (mapQ (mpairs A2 eB a1))))]:OL)) (fun(p28:(Int×(List A1))) e E' O'=>e = .exit 0∧Mat B E' O' ([(0,(.sref 0 22 0 p28.2.length)),(5,(i6 p28.1))]:EL) ([(0,some (C3 p28.2)),(1,some (.box 82 (.mref 2))),(2,some (.blk (mapQ (mpairs A2 eB a1))))]:OL)) hx42 (mp [] _ _ hB) (fun s3 y h => ?_) (fun e E' O' hR => ?_)
  ·unfold R0 at h
   apply seq
   apply sr (c (mv hN (q 6)) rfl (c (mv hN (q 0)) rfl (c (lenS underlying22 (L rfl) (q 17)) rfl (c (lss (L rfl) (q 16) (q 18)) rfl cn))))
   apply AWp.cond rfl<;>intro hg29
   ·have h:=B6 hg29 h
    apply AWp.skip
    apply A3
    apply seq
    apply block
    obtain⟨_,hx30,h⟩:=bindS h
    obtain⟨x31,hx31,h⟩:=bindS h
    apply sr (c (mv hN (q 0)) rfl (c (mv hN (q 6)) rfl (c (OpJ.val (v':=(.ptr 0 (s3.2.1.toNat*22) [s3.2.1.toNat])) (by simp) (indexS underlying22 tyS43 (A4 hx30).1 (by have:=A1b hx30;first | (simpa using this) | ((try simp only [List.length_map] at this);(try simp only [List.length_map]);omega)) (L rfl) (q 22) (q 23))) rfl (c (loadR (e:=43) (sz:=22) tyS43 (C8 A6 (A4 hx31).2) (o:=0) (At.here _) (by rfl) (by rfl) (by rfl) (L rfl) (q 24)) rfl (cg (alloc hB tyZ43 (nm:=1007) (by decide) (L rfl)) rfl (cg (sB tyS43 (q 7) (q 25)) rfl cn))))))
    apply seq
    obtain⟨r32,hr32,h⟩:=bindS h
    refine AWp.region (oc (mv hN (ot 1 (.func 50 [(pt 1)])))
     (oc (lb hN 43 (.d (A6 x31)) (.d (A6 x31)) tyS43 (At.here _) (ot 7 (pt 1007)))
     (oc (callVal (args:=[(.d (A6 x31))]) (caps:=[(pt 0)]) hB fnOk50 [(0,1),(1,2)] (A4w x31 a1 r32 hr32) (by kernel_rfl) (L rfl) (by kernel_rfl) (by kernel_rfl) (OpdL.cons (ot 27 (.d (A6 x31))) OpdL.nil))
     (oc (OpJ.not (L rfl) (ot 28 (bo r32)))
     (OpJs.nil))))) (by rfl) (by rfl) ?_
    apply A3
    refine ghost (mp [] [(0,(.sref 0 22 0 s3.2.2.length)),(1,(.func 50 [(pt 1)])),(5,(i6 s3.1)),(6,(i6 s3.2.1)),(7,(pt 1007)),(29,(bo (!r32)))] [(0,some (C3 s3.2.2)),(1,some (.box 82 (.mref 2))),(2,some (.blk (mapQ (mpairs A2 eB a1)))),(1007,bd 43 (A6 x31))] hB) ?_
    refine AWp.cut h (fun m36:Int×(List A1)=>([(0,(.sref 0 22 0 m36.2.length)),(1,(.func 50 [(pt 1)])),(5,(i6 m36.1)),(6,(i6 s3.2.1))]:EL)) (fun m36:Int×(List A1)=>([(0,some (C3 m36.2)),(1,some (.box 82 (.mref 2))),(2,some (.blk (mapQ (mpairs A2 eB a1))))]:OL)) (fun m36 h E' O' hmat => ?_) (fun j37 hjj37 h => ?_)
    ·apply F8
     apply A3
     refine ghost hmat ?_
     apply rg (c (mv hN (q 6)) rfl (c (add6 (L rfl) (q 20) (ii 1)) rfl (c (assign (L rfl) (q 21)) rfl cn)))
     obtain rfl:=oi h
     exact⟨rfl,(mp [] _ _ hB)⟩
    ·apply AWp.cond rfl<;>intro hg38
     ·have h:=B6 hg38 h
      obtain⟨_,hx39,h⟩:=bindS h
      obtain⟨_,hx40,h⟩:=bindS h
      apply sr (c (mv hN (q 0)) rfl (c (mv hN (q 5)) rfl (c (lb hN 43 _ _ tyS43 (At.here _) (q 7)) rfl (c (OpJ.val (v':=(.ptr 0 (s3.1.toNat*22) [s3.1.toNat])) (by simp) (indexS underlying22 tyS43 (A4 hx39).1 (by have:=A1b hx39;first | (simpa using this) | ((try simp only [List.length_map] at this);(try simp only [List.length_map]);omega)) (L rfl) (q 30) (q 31))) rfl (cg (OpJ.storeR (e:=43) (sz:=22) (es':=(s3.2.2.set s3.1.toNat x31).map A6) tyS43 (C8 A6 (A4 hx40).2) (o:=0) (SetAt.here _ _) (by rfl) (A61 _ _ _ _) (by rfl) (by rfl) (q 33) (q 32)) rfl cn)))))
      apply rg (c (mv hN (q 5)) rfl (c (add6 (L rfl) (q 34) (ii 1)) rfl (c (assign (L rfl) (q 35)) rfl cn)))
      exact hjj37 _ h _ _ (Mat.trans (mp [] [(0,(.sref 0 22 0 s3.2.2.length)),(1,(.func 50 [(pt 1)])),(5,(i6 (w64 (s3.1+1)))),(6,(i6 s3.2.1))] [(0,some (C3 (s3.2.2.set s3.1.toNat x31))),(1,some (.box 82 (.mref 2))),(2,some (.blk (mapQ (mpairs A2 eB a1))))] hB) (Mat.trans (Mat.lenP (Ts:=[(0,(.sref 0 22 0 ((s3.2.2.set s3.1.toNat x31).length)))]) (Bs:=[]) (TwT.cons (x:=(.sref 0 22 0 s3.2.2.length)) (by rfl) (Tw.leaf ⟨_,_,_,_,_,rfl,rfl,(by first | rfl | (simp;done) | (simp;omega) | omega)⟩) TwT.nil) TwB.nil) (mp [] _ _ hB)))
     ·have h:=B7 hg38 h
      apply AWp.skip
      exact hjj37 _ h _ _ (mp [] _ _ hB)
   ·have h:=B7 hg29 h
    apply AWp.exit
    apply F6
    obtain rfl:=oi h
    exact⟨(fun hc=>by cases hc),rfl,(mp [] _ _ hB)⟩
  ·obtain⟨rfl,hmat⟩:=hR
   apply E4
   apply A3
   refine ghost hmat ?_
   obtain⟨hc43,h⟩:=D3 h
   have hc43_o:=hc43
   simp only [Bool.and_eq_true,decide_eq_true_eq] at hc43_o
   obtain⟨hc44,h⟩:=D3 h
   have hc44_o:=hc44
   simp only [decide_eq_true_eq] at hc44_o
   apply sr (c (mv hN (q 0)) rfl (c (mv hN (q 5)) rfl (c (OpJ.cutS underlying22 tyS43 (l:=p28.1.toNat) (h:=p28.2.length) (off':=p28.1.toNat) (len':=(p28.2.length-p28.1.toNat)) (.inr ⟨_,_,_,rfl,(ot 37 (i6 p28.1)),(of_decide_eq_true (G5 (G5 hc43))),rfl⟩) (.inl ⟨rfl,rfl,rfl⟩) (of_decide_eq_true (I6 (G5 hc43))) (of_decide_eq_true (I6 hc43)) (by simp) (by simp) (L rfl) (q 36)) rfl (cg (OpJ.clearS (e:=43) (z:=(.st [(.int .i64 0),(.st [(.st [(.bool false),(.int .u64 0),(.int .u64 0)]),(.int .i64 0)]),(.bool false),(.st [(.st [(.st [(.bool false),(.int .u64 0),(.int .u64 0)]),(.int .i64 0)]),(.int .i64 0),(.st [(.int .i64 0),(.list 2 (([]:List B2).map B4)),(.st [(.bool false),(.int .u64 0),(.int .u64 0)]),(.int .i64 0),(.int .i64 0),(.int .i64 0),(.list 2 (([]:List C6).map B1)),(.list 3 (([]:List G0).map C7)),(.list 3 (([]:List A7).map A5))])])])) (es:=p28.2.map A6) (es':=(p28.2.take p28.1.toNat++List.replicate (p28.2.length-p28.1.toNat) (A1.mk 0 (A0.mk (E7.mk false 0 0) 0) false (B3.mk (A0.mk (E7.mk false 0 0) 0) 0 (D9.mk 0 ([]:List B2) (E7.mk false 0 0) 0 0 0 ([]:List C6) ([]:List G0) ([]:List A7))))++p28.2.drop (p28.1.toNat+(p28.2.length-p28.1.toNat))).map A6) underlying22 tyZD43 (by rfl) (by decide) (by rw [List.length_map];exact of_decide_eq_true hc44) (by simp only [List.map_append,List.map_take,List.map_drop,List.map_replicate];rfl) (q 38)) rfl cn))))
   obtain⟨hc45,h⟩:=D3 h
   have hc45_o:=hc45
   simp only [Bool.and_eq_true,decide_eq_true_eq] at hc45_o
   apply sr (c (mv hN (q 0)) rfl (c (mv hN (q 5)) rfl (c (OpJ.cutS underlying22 tyS43 (l:=0) (h:=p28.1.toNat) (off':=0) (len':=p28.1.toNat) (.inl ⟨rfl,rfl,rfl⟩) (.inr ⟨_,_,_,rfl,(ot 40 (i6 p28.1)),(of_decide_eq_true (G5 (G5 hc45))),rfl⟩) (of_decide_eq_true (I6 (G5 hc45))) (of_decide_eq_true (I6 hc45)) (by simp) (by simp) (L rfl) (q 39)) rfl (c (assign (L rfl) (q 41)) rfl cn))))
   apply ret
   obtain rfl:=oi h
   exact rt (Mat.trans (Mat.freezeP (n:=0) (e:=43) (sz:=22) (es:=(p28.2.take p28.1.toNat++List.replicate (p28.2.length-p28.1.toNat) (A1.mk 0 (A0.mk (E7.mk false 0 0) 0) false (B3.mk (A0.mk (E7.mk false 0 0) 0) 0 (D9.mk 0 ([]:List B2) (E7.mk false 0 0) 0 0 0 ([]:List C6) ([]:List G0) ([]:List A7))))++p28.2.drop (p28.1.toNat+(p28.2.length-p28.1.toNat))).map A6) (Ts:=[(4,(B0 (((p28.2.take p28.1.toNat++List.replicate (p28.2.length-p28.1.toNat) (A1.mk 0 (A0.mk (E7.mk false 0 0) 0) false (B3.mk (A0.mk (E7.mk false 0 0) 0) 0 (D9.mk 0 ([]:List B2) (E7.mk false 0 0) 0 0 0 ([]:List C6) ([]:List G0) ([]:List A7))))++p28.2.drop (p28.1.toNat+(p28.2.length-p28.1.toNat))).drop 0).take p28.1.toNat)))]) (Bs:=[]) (by rfl) (TwT.cons (x:=(.sref 0 22 0 p28.1.toNat)) (by rfl) (FrzL.cut (fs:=(((p28.2.take p28.1.toNat++List.replicate (p28.2.length-p28.1.toNat) (A1.mk 0 (A0.mk (E7.mk false 0 0) 0) false (B3.mk (A0.mk (E7.mk false 0 0) 0) 0 (D9.mk 0 ([]:List B2) (E7.mk false 0 0) 0 0 0 ([]:List C6) ([]:List G0) ([]:List A7))))++p28.2.drop (p28.1.toNat+(p28.2.length-p28.1.toNat))).drop 0).take p28.1.toNat).map A6) (by simp only [List.length_map,List.length_append,List.length_take,List.length_drop,List.length_replicate,List.length_set];omega) (by first | rw [List.map_drop,List.map_take] | (simp [List.map_take,List.map_drop];done) | simp [List.take_of_length_le])) TwT.nil) TwB.nil) (mp [] [(4,(B0 (((p28.2.take p28.1.toNat++List.replicate (p28.2.length-p28.1.toNat) (A1.mk 0 (A0.mk (E7.mk false 0 0) 0) false (B3.mk (A0.mk (E7.mk false 0 0) 0) 0 (D9.mk 0 ([]:List B2) (E7.mk false 0 0) 0 0 0 ([]:List C6) ([]:List G0) ([]:List A7))))++p28.2.drop (p28.1.toNat+(p28.2.length-p28.1.toNat))).drop 0).take p28.1.toNat)))] [(1,some (.box 82 (.mref 2))),(2,some (.blk (mapQ (mpairs A2 eB a1))))] hB)) [(B0 (((p28.2.take p28.1.toNat++List.replicate (p28.2.length-p28.1.toNat) (A1.mk 0 (A0.mk (E7.mk false 0 0) 0) false (B3.mk (A0.mk (E7.mk false 0 0) 0) 0 (D9.mk 0 ([]:List B2) (E7.mk false 0 0) 0 0 0 ([]:List C6) ([]:List G0) ([]:List A7))))++p28.2.drop (p28.1.toNat+(p28.2.length-p28.1.toNat))).drop 0).take p28.1.toNat))] (rT rN) rfl
def A13 (x55:C9) (r59:(List A0)) (s61:Int×(List (A0×Bool))):Option ((((List (A0×Bool))))⊕(Int×(List (A0×Bool)))) :=
 (if (decide (s61.1<((r59++x55.fAnnounce).length:Int)))=true then
 (idx (r59++x55.fAnnounce) s61.1).bind fun _ =>
 (idx (r59++x55.fAnnounce) s61.1).bind fun x71 =>
 some (.inr ((w64 (s61.1+1)),(mput keq33 s61.2 x71 true)))
 else
 some (.inl s61.2))
def A14 (r7:(List C9)×Int) (s10:Int×(List (A0×Bool))×(List C9)×G4):Option ((((List (A0×Bool))×(List C9)×G4))⊕(Int×(List (A0×Bool))×(List C9)×G4)) :=
 (if (decide (s10.1<(r7.1.length:Int)))=true then
 (idx r7.1 s10.1).bind fun x55 =>
 (A2g s10.2.2.2).bind fun r56 =>
 (if (!r56.2)=true then
 some (.inl (s10.2.1,s10.2.2.1,s10.2.2.2))
 else
 chk (decide ((s10.2.2.1++[x55]).length≤LIM)) <|
 (A12 x55.fWithdraw).bind fun r59 =>
 chk (decide ((r59++x55.fAnnounce).length≤LIM)) <|
 (loop (A13 x55 r59) (0,s10.2.1)).bind fun p68 =>
 some (.inr ((w64 (s10.1+1)),p68,(s10.2.2.1++[x55]),r56.1)))
 else
 some (.inl (s10.2.1,s10.2.2.1,s10.2.2.2)))
def A0g (a0:F9):Option (F9×(List C9)×Int) :=
 (A1g a0).bind fun r1 =>
 (if (!r1)=true then
 some ((F9.mk ([]:List A1) (G4.mk 0 0 0)),([]:List C9),1)
 else
 chk ((decide (0≤(minI (a0.fPending.length:Int) 64))&&decide (0≤(minI (a0.fPending.length:Int) 64).toNat)&&decide ((minI (a0.fPending.length:Int) 64).toNat≤a0.fPending.length))) <|
 (Q2 ((a0.fPending.take ((minI (a0.fPending.length:Int) 64).toNat)).drop 0)).bind fun r4 =>
 (H9 r4).bind fun r5 =>
 chk (decide (r5.length=r4.length)) <|
 (A26 ((r5.drop 0).take r4.length)).bind fun r7 =>
 (if (r7.2 != 0)=true then
 some ((F9.mk ([]:List A1) (G4.mk 0 0 0)),([]:List C9),r7.2)
 else
 (Q2 a0.fPending).bind fun r9 =>
 (loop (A14 r7) (0,([]:List (A0×Bool)),([]:List C9),a0.fBucket)).bind fun p53 =>
 (R1 r9 p53.1).bind fun r76 =>
 some ((F9.mk r76 p53.2.2),p53.2.1,0)))
theorem A3t (a0:F9) (r:F9×(List C9)×Int) (h:A0g a0=some r):AC Tryz.prog 19 [(.d (C0 a0))] [(500,(.know (globD 0 (.imap gv0))))] (.tup [(.d (C0 r.1)),(.d (.list 13 (r.2.1.map B9))),(.d (.int .i64 r.2.2))]) [(500,some (.know (globD 0 (.imap gv0))))]:=by
 refine ac2 Tryz.func19 rfl rfl fun B hB hN L => ?_
 delta A0g at h
 apply sr (cg (OpJ.box hB (nm:=1001) (by decide) (by simp) rfl (L rfl) (q 0)) rfl (cg (alloc hB tyZ26 (nm:=1002) (by decide) (L rfl)) rfl (c (assign (L rfl) Opd.nils) rfl (c (assign (L rfl) (ii 0)) rfl cn))))
 apply seq
 apply seq
 obtain⟨r1,hr1,h⟩:=bindS h
 refine AWp.region (oc (lb hN 26 (.d (C0 a0)) (.d (C0 a0)) tyS26 (At.here _) (ot 1 (pt 1001)))
 (oc (OpJ.callFn hB fnOk11 (A35 a0 r1 hr1) [(500,500)] (by kernel_rfl) (L rfl) (by kernel_rfl) (OpdL.cons (ot 17 (.d (C0 a0))) OpdL.nil))
 (oc (OpJ.not (L rfl) (ot 18 (bo r1)))
 (OpJs.nil)))) (by rfl) (by rfl) ?_
 apply A3
 refine ghost (mp [] [(1,(pt 1001)),(2,(pt 1002)),(19,(bo (!r1)))] [(500,some (.know (globD 0 (.imap gv0)))),(1001,bd 26 (C0 a0)),(1002,some (.box 26 (.st [.nils,(.d (.st [(.int .i64 0),(.int .i64 0),(.int .i64 0)]))])))] hB) ?_
 apply AWp.cond rfl<;>intro hg2
 ·have h:=B6 hg2 h
  apply sr (c (OpJ.build (places:=[(0,1),(1,3)]) ⟨underlying26,fun w=>by kernel_rfl⟩ tyZS26 Opds.nil (by kernel_rfl) (r:=(.st [.nils,(.d (.st [(.int .i64 0),(.int .i64 0),(.int .i64 0)]))])) (by rfl) (L rfl)) rfl (cg (sB tyS26 (q 2) (q 20)) rfl (c (assign (L rfl) Opd.nils) rfl (c (assign (L rfl) (ii 1)) rfl cn))))
  apply ret
  apply D4
  obtain rfl:=oi h
  exact rt (Mat.trans (Mat.coeP (Ts:=[]) (Bs:=[(1002,bd 26 (.st [(.list 22 (([]:List A1).map A6)),(.st [(.int .i64 0),(.int .i64 0),(.int .i64 0)])]))]) TwT.nil (TwB.cons (x:=(.st [.nils,(.d (.st [(.int .i64 0),(.int .i64 0),(.int .i64 0)]))])) (by rfl) (Tw.leaf ⟨_,(Co.st (CoL.cons (Co.nils 22) (CoL.cons (Co.d _) CoL.nil))),rfl⟩) TwB.nil)) (Mat.trans (Mat.coeP (Ts:=[(3,(B8 ([]:List C9)))]) (Bs:=[]) (TwT.cons (x:=.nils) (by rfl) (Tw.leaf ⟨_,(Co.nils 13),rfl⟩) TwT.nil) TwB.nil) (mp [] [(2,(pt 1002)),(3,(B8 ([]:List C9))),(4,(i6 1))] [(500,some (.know (globD 0 (.imap gv0)))),(1002,bd 26 (.st [(.list 22 (([]:List A1).map A6)),(.st [(.int .i64 0),(.int .i64 0),(.int .i64 0)])]))] hB))) [(.d (.st [(.list 22 (([]:List A1).map A6)),(.st [(.int .i64 0),(.int .i64 0),(.int .i64 0)])])),(B8 ([]:List C9)),(i6 1)] (Res.cell (c:=(.d (.st [(.list 22 (([]:List A1).map A6)),(.st [(.int .i64 0),(.int .i64 0),(.int .i64 0)])]))) (by rfl) (by rfl) tyS26 (by rfl) (by rfl) (by rfl) (rT (rT rN))) rfl
 ·have h:=B7 hg2 h
  apply AWp.skip
  apply A3
  apply seq
  obtain⟨hc3,h⟩:=D3 h
  obtain⟨r4,hr4,h⟩:=bindS h
  refine AWp.region (oc (ov (.ptr 1001 0 [0]) (fp hN underlying26 0 tyS22 (.box 26 (.d (C0 a0))) (ot 1 (pt 1001))))
   (oc (lb hN 26 (.d (C0 a0)) (B0 a0.fPending) tyS22 (ad (.list 22 (a0.fPending.map A6))) (ot 21 (.ptr 1001 0 [0])))
   (oc (ov (.ptr 1001 0 [0]) (fp hN underlying26 0 tyS22 (.box 26 (.d (C0 a0))) (ot 1 (pt 1001))))
   (oc (lb hN 26 (.d (C0 a0)) (B0 a0.fPending) tyS22 (ad (.list 22 (a0.fPending.map A6))) (ot 23 (.ptr 1001 0 [0])))
   (oc (OpJ.val (v':=(i6 (a0.fPending.length:Int))) (by simp) (lenD underlying22 (L rfl) (ot 24 (B0 a0.fPending))))
   (oc (OpJ.min (L rfl) (ot 25 (i6 (a0.fPending.length:Int))) (ii 64))
   (oc (OpJ.cutD underlying22 tyS43 (es:=a0.fPending.map A6) (es':=((a0.fPending.take ((minI (a0.fPending.length:Int) 64).toNat)).drop 0).map A6) (l:=0) (h:=(minI (a0.fPending.length:Int) 64).toNat) (.inl ⟨rfl,rfl,rfl⟩) (.inr ⟨_,_,_,rfl,(ot 26 (i6 (minI (a0.fPending.length:Int) 64))),(of_decide_eq_true (G5 (G5 hc3))),rfl⟩) (of_decide_eq_true (I6 (G5 hc3))) (by first | (simp;done) | simpa using (of_decide_eq_true (I6 hc3))) (by first | rw [List.map_drop,List.map_take] | (simp [List.map_take,List.map_drop];done) | simp [List.take_of_length_le]) (L rfl) (ot 22 (B0 a0.fPending)))
   (oc (OpJ.callFn hB fnOk40 (A08 ((a0.fPending.take ((minI (a0.fPending.length:Int) 64).toNat)).drop 0) r4 hr4) [(900000,100100)] (by kernel_rfl) (L rfl) (by kernel_rfl) (OpdL.cons (ot 27 (B0 ((a0.fPending.take ((minI (a0.fPending.length:Int) 64).toNat)).drop 0))) OpdL.nil))
   (oc (assign (L rfl) (ot 28 (.sref 100100 22 0 r4.length)))
   (OpJs.nil)))))))))) (by rfl) (by rfl) ?_
  apply A3
  refine ghost (mp [] [(1,(pt 1001)),(2,(pt 1002)),(5,(.sref 100100 22 0 r4.length))] [(500,some (.know (globD 0 (.imap gv0)))),(1001,bd 26 (C0 a0)),(1002,some (.box 26 (.st [.nils,(.d (.st [(.int .i64 0),(.int .i64 0),(.int .i64 0)]))]))),(100100,some (C3 r4))] hB) ?_
  apply seq
  obtain⟨r5,hr5,h⟩:=bindS h
  obtain⟨hc6,h⟩:=D3 h
  have lhc6:=of_decide_eq_true hc6
  have hc6_o:=of_decide_eq_true hc6
  refine AWp.region (oc (mv hN (ot 5 (.sref 100100 22 0 r4.length)))
   (oc (OpJ.callFn hB fnOk43 (Z5 r4 r5 hr5) [(0,100100)] (by kernel_rfl) (L rfl) (by kernel_rfl) (OpdL.cons (ot 29 (.sref 100100 22 0 r4.length)) (OpdL.cons (Opd.func 44) OpdL.nil)))
   (OpJs.nil))) (by rfl) (by rfl) ?_
  apply A3
  refine ghost (mp [] [(1,(pt 1001)),(2,(pt 1002)),(5,(.sref 100100 22 0 r4.length))] [(500,some (.know (globD 0 (.imap gv0)))),(1001,bd 26 (C0 a0)),(1002,some (.box 26 (.st [.nils,(.d (.st [(.int .i64 0),(.int .i64 0),(.int .i64 0)]))]))),(100100,some (C3 r5))] hB) ?_
  apply seq
  refine ghost (Mat.freezeP (n:=100100) (e:=43) (sz:=22) (es:=r5.map A6) (Ts:=[(5,(B0 ((r5.drop 0).take r4.length)))]) (Bs:=[]) (by rfl) (TwT.cons (x:=(.sref 100100 22 0 r4.length)) (by rfl) (FrzL.cut (fs:=((r5.drop 0).take r4.length).map A6) (by simp only [List.length_map,List.length_append,List.length_take,List.length_drop,List.length_replicate,List.length_set];omega) (by first | rw [List.map_drop,List.map_take] | (simp [List.map_take,List.map_drop];done) | simp [List.take_of_length_le])) TwT.nil) TwB.nil) ?_
  obtain⟨r7,hr7,h⟩:=bindS h
  refine AWp.region (oc (mv hN (ot 5 (B0 ((r5.drop 0).take r4.length))))
   (oc (OpJ.callFn hB fnOk46 (A68 ((r5.drop 0).take r4.length) r7 hr7) [(500,500)] (by kernel_rfl) (L rfl) (by kernel_rfl) (OpdL.cons (ot 32 (B0 ((r5.drop 0).take r4.length))) OpdL.nil))
   (oc (mv hN (ot 33 (.tup [(B8 r7.1),(i6 r7.2)])))
   (oc (extract (v:=(B8 r7.1)) (by rfl) rfl (L rfl) (ot 31 (.tup [(B8 r7.1),(i6 r7.2)])))
   (oc (extract (v:=(i6 r7.2)) (by rfl) rfl (L rfl) (ot 31 (.tup [(B8 r7.1),(i6 r7.2)])))
   (oc (assign (L rfl) (ot 34 (B8 r7.1)))
   (oc (assign (L rfl) (ot 35 (i6 r7.2)))
   (OpJs.nil)))))))) (by rfl) (by rfl) ?_
  apply A3
  refine ghost (mp [] [(1,(pt 1001)),(2,(pt 1002)),(6,(B8 r7.1)),(7,(i6 r7.2))] [(500,some (.know (globD 0 (.imap gv0)))),(1001,bd 26 (C0 a0)),(1002,some (.box 26 (.st [.nils,(.d (.st [(.int .i64 0),(.int .i64 0),(.int .i64 0)]))])))] hB) ?_
  apply seq
  apply sr (c (mv hN (q 7)) rfl (c (neqI (L rfl) (q 36) (ii 0)) rfl cn))
  apply AWp.cond rfl<;>intro hg8
  ·have h:=B6 hg8 h
   apply sr (c (OpJ.build (places:=[(0,1),(1,3)]) ⟨underlying26,fun w=>by kernel_rfl⟩ tyZS26 Opds.nil (by kernel_rfl) (r:=(.st [.nils,(.d (.st [(.int .i64 0),(.int .i64 0),(.int .i64 0)]))])) (by rfl) (L rfl)) rfl (c (mv hN (q 7)) rfl (cg (sB tyS26 (q 2) (q 38)) rfl (c (assign (L rfl) Opd.nils) rfl (c (assign (L rfl) (q 39)) rfl cn)))))
   apply ret
   apply D4
   obtain rfl:=oi h
   exact rt (Mat.trans (Mat.coeP (Ts:=[]) (Bs:=[(1002,bd 26 (.st [(.list 22 (([]:List A1).map A6)),(.st [(.int .i64 0),(.int .i64 0),(.int .i64 0)])]))]) TwT.nil (TwB.cons (x:=(.st [.nils,(.d (.st [(.int .i64 0),(.int .i64 0),(.int .i64 0)]))])) (by rfl) (Tw.leaf ⟨_,(Co.st (CoL.cons (Co.nils 22) (CoL.cons (Co.d _) CoL.nil))),rfl⟩) TwB.nil)) (Mat.trans (Mat.coeP (Ts:=[(3,(B8 ([]:List C9)))]) (Bs:=[]) (TwT.cons (x:=.nils) (by rfl) (Tw.leaf ⟨_,(Co.nils 13),rfl⟩) TwT.nil) TwB.nil) (mp [] [(2,(pt 1002)),(3,(B8 ([]:List C9))),(4,(i6 r7.2))] [(500,some (.know (globD 0 (.imap gv0)))),(1002,bd 26 (.st [(.list 22 (([]:List A1).map A6)),(.st [(.int .i64 0),(.int .i64 0),(.int .i64 0)])]))] hB))) [(.d (.st [(.list 22 (([]:List A1).map A6)),(.st [(.int .i64 0),(.int .i64 0),(.int .i64 0)])])),(B8 ([]:List C9)),(i6 r7.2)] (Res.cell (c:=(.d (.st [(.list 22 (([]:List A1).map A6)),(.st [(.int .i64 0),(.int .i64 0),(.int .i64 0)])]))) (by rfl) (by rfl) tyS26 (by rfl) (by rfl) (by rfl) (rT (rT rN))) rfl
  ·have h:=B7 hg8 h
   apply AWp.skip
   apply A3
   apply seq
   obtain⟨r9,hr9,h⟩:=bindS h
   refine AWp.draws (by kernel_rfl) (oc (ov (.ptr 1001 0 [0]) (fp hN underlying26 0 tyS22 (.box 26 (.d (C0 a0))) (ot 1 (pt 1001))))
    (oc (lb hN 26 (.d (C0 a0)) (B0 a0.fPending) tyS22 (ad (.list 22 (a0.fPending.map A6))) (ot 40 (.ptr 1001 0 [0])))
    (oc (OpJ.callFn hB fnOk40 (A08 a0.fPending r9 hr9) [(900000,100400)] (by kernel_rfl) (L rfl) (by kernel_rfl) (OpdL.cons (ot 41 (B0 a0.fPending)) OpdL.nil))
    (oc (ov (.ptr 1001 1 [1]) (fp hN underlying26 1 tyS24 (.box 26 (.d (C0 a0))) (ot 1 (pt 1001))))
    (oc (lb hN 26 (.d (C0 a0)) (.d (E0 a0.fBucket)) tyS24 (ad (E0 a0.fBucket)) (ot 43 (.ptr 1001 1 [1])))
    (oc (OpJ.build (places:=[(0,1),(1,3)]) ⟨underlying26,fun w=>by kernel_rfl⟩ tyZS26 (Opds.cons (ot 42 (.sref 100400 22 0 r9.length)) (Opds.cons (ot 44 (.d (E0 a0.fBucket))) Opds.nil)) (by kernel_rfl) (r:=(.st [(.sref 100400 22 0 r9.length),(.d (E0 a0.fBucket))])) (by rfl) (L rfl))
    (oc (alloc hB tyZ26 (nm:=1008) (by decide) (L rfl))
    (oc (OpJ.storeB (bt:=26) (c:=(.st [.nils,(.d (.st [(.int .i64 0),(.int .i64 0),(.int .i64 0)]))])) (v:=(.st [(.sref 100400 22 0 r9.length),(.d (E0 a0.fBucket))])) (c':=(.st [(.sref 100400 22 0 r9.length),(.d (E0 a0.fBucket))])) tyS26 (SetAt.here _ _) (by rfl) (by rfl) (by simp) rfl (ot 8 (pt 1008)) (ot 45 (.st [(.sref 100400 22 0 r9.length),(.d (E0 a0.fBucket))])))
    (OpJs.nil))))))))) (by kernel_rfl) (by rfl) (by rfl) ?_
   apply A3
   refine ghost (mp [] [(2,(pt 1002)),(6,(B8 r7.1)),(8,(pt 1008))] [(500,some (.know (globD 0 (.imap gv0)))),(1002,some (.box 26 (.st [.nils,(.d (.st [(.int .i64 0),(.int .i64 0),(.int .i64 0)]))]))),(1008,some (.box 26 (.st [(.sref 100400 22 0 r9.length),(.d (E0 a0.fBucket))]))),(100400,some (C3 r9))] hB) ?_
   apply sr (c (assign (L rfl) Opd.nils) rfl cn)
   apply sr (cg (OpJ.mkmapQ hB (nm:=1046) (by decide) (L rfl)) rfl (cg (OpJ.allocJ hB tyJ82 (h1:=⟨rfl,rfl⟩) (nm:=1010) (by decide) (L rfl)) rfl (cg (sB tyS82 (q 10) (q 46)) rfl cn)))
   apply seq
   apply sr (c (mv hN (q 6)) rfl (c (OpJ.val (v':=(i6 (r7.1.length:Int))) (by simp) (lenD underlying57 (L rfl) (q 47))) rfl (c (mv hN (ii 0)) rfl cn)))
   apply block
   obtain⟨p53,hx75,h⟩:=bindS h
   refine lg (A14 r7) (fun s10:Int×(List (A0×Bool))×(List C9)×G4=>([(2,(pt 1002)),(8,(pt 1008)),(9,(.sref 3009 13 0 s10.2.2.1.length)),(10,(pt 1010)),(47,(B8 r7.1)),(48,(i6 (r7.1.length:Int))),(49,(i6 s10.1))]:EL)) (fun s10:Int×(List (A0×Bool))×(List C9)×G4=>([(500,some (.know (globD 0 (.imap gv0)))),(1002,some (.box 26 (.st [.nils,(.d (.st [(.int .i64 0),(.int .i64 0),(.int .i64 0)]))]))),(1008,some (.box 26 (.st [(.sref 100400 22 0 r9.length),(.d (E0 s10.2.2.2))]))),(1010,some (.box 82 (.mref 1046))),(1046,some (.blk (mapQ (mpairs A2 eB s10.2.1)))),(3009,some (F5 s10.2.2.1)),(100400,some (C3 r9))]:OL)) (fun(p53:((List (A0×Bool))×(List C9)×G4)) e E' O'=>e = .exit 0∧Mat B E' O' ([(2,(pt 1002)),(8,(pt 1008)),(9,(.sref 3009 13 0 p53.2.1.length)),(10,(pt 1010))]:EL) ([(500,some (.know (globD 0 (.imap gv0)))),(1002,some (.box 26 (.st [.nils,(.d (.st [(.int .i64 0),(.int .i64 0),(.int .i64 0)]))]))),(1008,some (.box 26 (.st [(.sref 100400 22 0 r9.length),(.d (E0 p53.2.2))]))),(1010,some (.box 82 (.mref 1046))),(1046,some (.blk (mapQ (mpairs A2 eB p53.1)))),(3009,some (F5 p53.2.1)),(100400,some (C3 r9))]:OL)) hx75 (Mat.trans (Mat.beginP (n:=3009) (e:=71) (sz:=13) (Ts:=[(9,(.sref 3009 13 0 0))]) (Bs:=[]) hB (by decide) (by rfl) (by decide) (TwT.cons (x:=.nils) (by rfl) (Tw.leaf ⟨rfl,rfl⟩) TwT.nil) TwB.nil) (mp [] _ _ hB)) (fun s10 y h => ?_) (fun e E' O' hR => ?_)
   ·unfold A14 at h
    apply sr (c (lss (L rfl) (q 49) (q 48)) rfl cn)
    apply seq
    apply AWp.cond rfl<;>intro hg54
    ·have h:=B6 hg54 h
     apply AWp.skip
     apply A3
     apply seq
     apply block
     obtain⟨x55,hx55,h⟩:=bindS h
     apply sr (c (indexD underlying57 tyS71 (A4 hx55).1 (C8 B9 (A4 hx55).2) (L rfl) (q 47) (q 49)) rfl (c (loadD tyS71 (by rfl) (by rfl) (L rfl) (q 51)) rfl (cg (alloc hB tyZ71 (nm:=1012) (by decide) (L rfl)) rfl (cg (sB tyS71 (q 12) (q 52)) rfl cn))))
     obtain⟨r56,hr56,h⟩:=bindS h
     apply sr (c (fo 1008 1 [1] hN underlying26 1 tyS24 (q 8)) rfl (c (lb hN 26 _ (.d (E0 s10.2.2.2)) tyS24 (At.st1 (f:=(.d (E0 s10.2.2.2))) (by rfl) (by rfl) (At.here _) (by first | rfl | omega)) (q 54)) rfl (cg (cf hB fnOk47 (A98 s10.2.2.2 r56 hr56) (L rfl) (OpdL.cons (q 55) OpdL.nil)) rfl (c (mv hN (q 56)) rfl (c (extract (by rfl) rfl (L rfl) (q 53)) rfl (c (extract (by rfl) rfl (L rfl) (q 53)) rfl (cg (alloc hB tyZ24 (nm:=1013) (by decide) (L rfl)) rfl (cg (sB tyS24 (q 13) (q 57)) rfl (c (assign (L rfl) (q 58)) rfl cn)))))))))
     apply seq
     apply sr (c (mv hN (q 14)) rfl (c (OpJ.not (L rfl) (q 59)) rfl cn))
     apply AWp.cond rfl<;>intro hg57
     ·have h:=B6 hg57 h
      apply AWp.exit
      apply F6
      refine B3m (by rfl) ?_
      apply F6
      obtain rfl:=oi h
      exact⟨(fun hc=>by cases hc),rfl,(mp [] _ _ hB)⟩
     ·have h:=B7 hg57 h
      apply AWp.skip
      apply A3
      apply sr (c (lb hN 24 _ _ tyS24 (At.here _) (q 13)) rfl (c (fo 1008 1 [1] hN underlying26 1 tyS24 (q 8)) rfl (cg (OpJ.storeB (c':=(.st [(.sref 100400 22 0 r9.length),(.d (E0 r56.1))])) tyS24 (SetAt.st1 (f:=(.d (E0 s10.2.2.2))) (by rfl) (by rfl) (SetAt.here _ _) (by rfl) (by rfl) (by first | rfl | omega)) (by rfl) (by rfl) (by simp) rfl (q 62) (q 61)) rfl cn)))
      obtain⟨hc58,h⟩:=D3 h
      apply sr (c (mv hN (q 9)) rfl (c (lb hN 71 _ _ tyS71 (At.here _) (q 12)) rfl (c (buildSlice underlying57 tyS71 tyZD71 (by rfl) (by decide) (by decide) (Opds.cons (q 64) Opds.nil) (by kernel_rfl) (es:=([(B9 x55)]:List D)) (by rfl) (by rfl) (by kernel_rfl) (by simp) (L rfl)) rfl (cg (apd hB underlying57 tyE71 1066 B9 s10.2.2.1 [x55] hc58 (L rfl) (q 63) (q 65)) rfl (c (assign (L rfl) (q 66)) rfl cn)))))
      apply seq
      obtain⟨r59,hr59,h⟩:=bindS h
      obtain⟨hc60,h⟩:=D3 h
      refine AWp.draws (by kernel_rfl) (oc (ov (.ptr 1012 0 [0]) (fp hN underlying71 0 tyS69 (.box 71 (.d (B9 x55))) (ot 12 (pt 1012))))
       (oc (lb hN 71 (.d (B9 x55)) (C1 x55.fWithdraw) tyS69 (ad (.list 4 (x55.fWithdraw.map A2))) (ot 67 (.ptr 1012 0 [0])))
       (oc (OpJ.callFn hB fnOk48 (A7r x55.fWithdraw r59 hr59) [(900000,100600)] (by kernel_rfl) (L rfl) (by kernel_rfl) (OpdL.cons (ot 68 (C1 x55.fWithdraw)) OpdL.nil))
       (oc (ov (.ptr 1012 12 [2]) (fp hN underlying71 12 tyS69 (.box 71 (.d (B9 x55))) (ot 12 (pt 1012))))
       (oc (lb hN 71 (.d (B9 x55)) (C1 x55.fAnnounce) tyS69 (ad (.list 4 (x55.fAnnounce.map A2))) (ot 70 (.ptr 1012 12 [2])))
       (oc (apd hB underlying69 tyE33 1072 A2 r59 x55.fAnnounce hc60 (L rfl) (ot 69 (.sref 100600 4 0 r59.length)) (ot 71 (C1 x55.fAnnounce)))
       (oc (lenS (obj:=(G3 (r59++x55.fAnnounce))) underlying69 (L rfl) (ot 72 (.sref 1072 4 0 ((r59++x55.fAnnounce).length))))
       (oc (mv hN (ii 0))
       (OpJs.nil))))))))) (by kernel_rfl) (by rfl) (by rfl) ?_
      apply A3
      refine ghost (mp [] [(2,(pt 1002)),(8,(pt 1008)),(9,(.sref 1066 13 0 ((s10.2.2.1++[x55]).length))),(10,(pt 1010)),(47,(B8 r7.1)),(48,(i6 (r7.1.length:Int))),(49,(i6 s10.1)),(72,(.sref 1072 4 0 ((r59++x55.fAnnounce).length))),(73,(i6 ((r59++x55.fAnnounce).length:Int))),(74,(i6 0))] [(500,some (.know (globD 0 (.imap gv0)))),(1002,some (.box 26 (.st [.nils,(.d (.st [(.int .i64 0),(.int .i64 0),(.int .i64 0)]))]))),(1008,some (.box 26 (.st [(.sref 100400 22 0 r9.length),(.d (E0 r56.1))]))),(1010,some (.box 82 (.mref 1046))),(1046,some (.blk (mapQ (mpairs A2 eB s10.2.1)))),(1066,some (F5 (s10.2.2.1++[x55]))),(1072,some (G3 (r59++x55.fAnnounce))),(100400,some (C3 r9))] hB) ?_
      apply block
      obtain⟨p68,hx73,h⟩:=bindS h
      refine lg (A13 x55 r59) (fun s61:Int×(List (A0×Bool))=>([(2,(pt 1002)),(8,(pt 1008)),(9,(.sref 1066 13 0 ((s10.2.2.1++[x55]).length))),(10,(pt 1010)),(47,(B8 r7.1)),(48,(i6 (r7.1.length:Int))),(49,(i6 s10.1)),(72,(.sref 1072 4 0 ((r59++x55.fAnnounce).length))),(73,(i6 ((r59++x55.fAnnounce).length:Int))),(74,(i6 s61.1))]:EL)) (fun s61:Int×(List (A0×Bool))=>([(500,some (.know (globD 0 (.imap gv0)))),(1002,some (.box 26 (.st [.nils,(.d (.st [(.int .i64 0),(.int .i64 0),(.int .i64 0)]))]))),(1008,some (.box 26 (.st [(.sref 100400 22 0 r9.length),(.d (E0 r56.1))]))),(1010,some (.box 82 (.mref 1046))),(1046,some (.blk (mapQ (mpairs A2 eB s61.2)))),(1066,some (F5 (s10.2.2.1++[x55]))),(1072,some (G3 (r59++x55.fAnnounce))),(100400,some (C3 r9))]:OL)) (fun(p68:((List (A0×Bool)))) e E' O'=>e = .exit 2∧Mat B E' O' ([(2,(pt 1002)),(8,(pt 1008)),(9,(.sref 1066 13 0 ((s10.2.2.1++[x55]).length))),(10,(pt 1010)),(47,(B8 r7.1)),(48,(i6 (r7.1.length:Int))),(49,(i6 s10.1))]:EL) ([(500,some (.know (globD 0 (.imap gv0)))),(1002,some (.box 26 (.st [.nils,(.d (.st [(.int .i64 0),(.int .i64 0),(.int .i64 0)]))]))),(1008,some (.box 26 (.st [(.sref 100400 22 0 r9.length),(.d (E0 r56.1))]))),(1010,some (.box 82 (.mref 1046))),(1046,some (.blk (mapQ (mpairs A2 eB p68)))),(1066,some (F5 (s10.2.2.1++[x55]))),(100400,some (C3 r9))]:OL)) hx73 (mp [] _ _ hB) (fun s61 y h => ?_) (fun e E' O' hR => ?_)
      ·unfold A13 at h
       apply sr (c (lss (L rfl) (q 74) (q 73)) rfl cn)
       apply seq
       apply AWp.cond rfl<;>intro hg69
       ·have h:=B6 hg69 h
        apply AWp.skip
        apply A3
        apply seq
        apply block
        obtain⟨_,hx70,h⟩:=bindS h
        obtain⟨x71,hx71,h⟩:=bindS h
        apply sr (c (OpJ.val (v':=(.ptr 1072 (s61.1.toNat*4) [s61.1.toNat])) (by simp) (indexS underlying69 tyS33 (A4 hx70).1 (by have:=A1b hx70;first | (simpa using this) | ((try simp only [List.length_map] at this);(try simp only [List.length_map]);omega)) (L rfl) (q 72) (q 74))) rfl (c (loadR (e:=33) (sz:=4) tyS33 (C8 A2 (A4 hx71).2) (o:=0) (At.here _) (by rfl) (by rfl) (by rfl) (L rfl) (q 76)) rfl (cg (alloc hB tyZ33 (nm:=1016) (by decide) (L rfl)) rfl (cg (sB tyS33 (q 16) (q 77)) rfl cn))))
        apply rg (c (lb hN 82 _ _ tyS82 (At.here _) (q 10)) rfl (c (lb hN 33 _ _ tyS33 (At.here _) (q 16)) rfl (cg (OpJ.mputQ (g:=eB) (v:=true) (l:=s61.2) (k:=x71) tyU82 underlying33 keyEq33 (q 78) (q 79) (Opd.bool true)) rfl cn)))
        apply F8
        apply A3
        apply rg (c (add6 (L rfl) (q 74) (ii 1)) rfl (c (mv hN (q 80)) rfl cn))
        obtain rfl:=oi h
        exact⟨rfl,(mp [] _ _ hB)⟩
       ·have h:=B7 hg69 h
        apply AWp.exit
        apply F6
        obtain rfl:=oi h
        exact⟨(fun hc=>by cases hc),rfl,(mp [] _ _ hB)⟩
      ·obtain⟨rfl,hmat⟩:=hR
       apply E4
       apply F8
       apply A3
       refine ghost hmat ?_
       apply rg (c (add6 (L rfl) (q 49) (ii 1)) rfl (c (mv hN (q 81)) rfl cn))
       obtain rfl:=oi h
       exact⟨rfl,(mp [(3009,1066)] _ _ hB)⟩
    ·have h:=B7 hg54 h
     apply AWp.exit
     apply F6
     obtain rfl:=oi h
     exact⟨(fun hc=>by cases hc),rfl,(mp [] _ _ hB)⟩
   ·obtain⟨rfl,hmat⟩:=hR
    apply E4
    apply A3
    refine ghost hmat ?_
    apply seq
    obtain⟨r76,hr76,h⟩:=bindS h
    refine AWp.region (oc (ov (.ptr 1008 0 [0]) (fp hN underlying26 0 tyS22 (.box 26 (.st [(.sref 100400 22 0 r9.length),(.d (E0 p53.2.2))])) (ot 8 (pt 1008))))
     (oc (lb hN 26 (.st [(.sref 100400 22 0 r9.length),(.d (E0 p53.2.2))]) (.sref 100400 22 0 r9.length) tyS22 (At.st1 (f:=(.sref 100400 22 0 r9.length)) (by rfl) (by rfl) (At.here _) (by first | rfl | omega)) (ot 82 (.ptr 1008 0 [0])))
     (oc (OpJ.makeF (OpdL.cons (ot 10 (pt 1010)) OpdL.nil) rfl rfl (L rfl))
     (oc (OpJ.callFn hB fnOk49 (A4x r9 p53.1 r76 hr76) [(0,100400),(1,1010),(2,1046)] (by kernel_rfl) (L rfl) (by kernel_rfl) (OpdL.cons (ot 83 (.sref 100400 22 0 r9.length)) (OpdL.cons (ot 84 (.func 50 [(pt 1010)])) OpdL.nil)))
     (oc (ov (.ptr 1008 0 [0]) (fp hN underlying26 0 tyS22 (.box 26 (.st [(.sref 100400 22 0 r9.length),(.d (E0 p53.2.2))])) (ot 8 (pt 1008))))
     (oc (OpJ.storeB (bt:=26) (c:=(.st [(.sref 100400 22 0 r9.length),(.d (E0 p53.2.2))])) (v:=(B0 r76)) (c':=(.st [(B0 r76),(.d (E0 p53.2.2))])) tyS22 (SetAt.st1 (f:=(.sref 100400 22 0 r9.length)) (by rfl) (by rfl) (SetAt.here _ _) (by rfl) (by rfl) (by first | rfl | omega)) (by rfl) (by rfl) (by simp) rfl (ot 86 (.ptr 1008 0 [0])) (ot 85 (B0 r76)))
     (OpJs.nil))))))) (by rfl) (by rfl) ?_
    apply A3
    refine ghost (mp [] [(2,(pt 1002)),(8,(pt 1008)),(9,(.sref 3009 13 0 p53.2.1.length))] [(500,some (.know (globD 0 (.imap gv0)))),(1002,some (.box 26 (.st [.nils,(.d (.st [(.int .i64 0),(.int .i64 0),(.int .i64 0)]))]))),(1008,some (.box 26 (.st [(B0 r76),(.d (E0 p53.2.2))]))),(3009,some (F5 p53.2.1))] hB) ?_
    apply sr (c (lb hN 26 _ _ tyS26 (At.here _) (q 8)) rfl (c (mv hN (q 9)) rfl (cg (sB tyS26 (q 2) (q 87)) rfl (c (assign (L rfl) (q 88)) rfl (c (assign (L rfl) (ii 0)) rfl cn)))))
    apply ret
    obtain rfl:=oi h
    exact rt (Mat.trans (Mat.freezeP (n:=3009) (e:=71) (sz:=13) (es:=p53.2.1.map B9) (Ts:=[(3,(B8 p53.2.1))]) (Bs:=[]) (by rfl) (TwT.cons (x:=(.sref 3009 13 0 p53.2.1.length)) (by rfl) (FrzL.all (by first | rfl | (simp;done) | (simp;omega) | omega)) TwT.nil) TwB.nil) (Mat.trans (Mat.coeP (Ts:=[]) (Bs:=[(1002,bd 26 (.st [(.list 22 (r76.map A6)),(E0 p53.2.2)]))]) TwT.nil (TwB.cons (x:=(.st [(B0 r76),(.d (E0 p53.2.2))])) (by rfl) (Tw.leaf ⟨_,(Co.st (CoL.cons (Co.d _) (CoL.cons (Co.d _) CoL.nil))),rfl⟩) TwB.nil)) (mp [] [(2,(pt 1002)),(3,(B8 p53.2.1)),(4,(i6 0))] [(500,some (.know (globD 0 (.imap gv0)))),(1002,bd 26 (.st [(.list 22 (r76.map A6)),(E0 p53.2.2)]))] hB))) [(.d (.st [(.list 22 (r76.map A6)),(E0 p53.2.2)])),(B8 p53.2.1),(i6 0)] (Res.cell (c:=(.d (.st [(.list 22 (r76.map A6)),(E0 p53.2.2)]))) (by rfl) (by rfl) tyS26 (by rfl) (by rfl) (by rfl) (rT (rT rN))) rfl
def A3u (a0:G4):Option (G4) :=
 some (G4.mk (minI (w64 (a0.fLevel+a0.fRate)) a0.fBurst) a0.fRate a0.fBurst)
theorem A99 (a0:G4) (r:G4) (h:A3u a0=some r):AC Tryz.prog 56 [(.d (E0 a0))] [] (.d (E0 r)) []:=by
 refine AC.of_code2 Tryz.func56 rfl rfl (Nat.le_of_ble_eq_true (by rfl)) fun B hB hN => ?_
 delta A3u at h
 apply sr (cg (OpJ.box hB (nm:=1001) (by decide) (by simp) rfl (ltN hN rfl) (q 0)) rfl (cg (alloc hB tyZ24 (nm:=1002) (by decide) (ltN hN rfl)) rfl cn))
 apply sr (c (fo 1001 0 [0] hN underlying24 0 tyS3 (q 1)) rfl (c (la hN 24 tyS3 (q 3)) rfl (c (fo 1001 1 [1] hN underlying24 1 tyS3 (q 1)) rfl (c (la hN 24 tyS3 (q 5)) rfl (c (add6 (ltN hN rfl) (q 4) (q 6)) rfl (c (fo 1001 2 [2] hN underlying24 2 tyS3 (q 1)) rfl (c (la hN 24 tyS3 (q 8)) rfl (c (OpJ.min (ltN hN rfl) (q 7) (q 9)) rfl (c (fo 1001 0 [0] hN underlying24 0 tyS3 (q 1)) rfl (cg (OpJ.storeB tyS3 (SetAt.dst1 (by rfl) (by rfl) (SetAt.here _ _) (by rfl) (by rfl) (by first | rfl | omega)) (by rfl) (by rfl) (by simp) rfl (q 11) (q 10)) rfl cn))))))))))
 apply sr (c (lb hN 24 _ _ tyS24 (At.here _) (q 1)) rfl (cg (sB tyS24 (q 2) (q 12)) rfl cn))
 apply ret
 obtain rfl:=oi h
 exact rt (kp [(2,_)] [(1002,some _)] hB rfl rfl (by rfl)) [(.d (.st [(.int .i64 (minI (w64 (a0.fLevel+a0.fRate)) a0.fBurst)),(.int .i64 a0.fRate),(.int .i64 a0.fBurst)]))] (Res.cell (c:=(.d (.st [(.int .i64 (minI (w64 (a0.fLevel+a0.fRate)) a0.fBurst)),(.int .i64 a0.fRate),(.int .i64 a0.fBurst)]))) (by rfl) (by rfl) tyS24 (by rfl) (by rfl) (by rfl) rN) rfl
def A28 (a0:F9):Option (F9) :=
 (V3 a0.fPending).bind fun r1 =>
 (A3u a0.fBucket).bind fun r2 =>
 some (F9.mk r1 r2)
theorem A6a (a0:F9) (r:F9) (h:A28 a0=some r):AC Tryz.prog 22 [(.d (C0 a0))] [] (.d (C0 r)) []:=by
 refine AC.of_code2 Tryz.func22 rfl rfl (Nat.le_of_ble_eq_true (by rfl)) fun B hB hN => ?_
 delta A28 at h
 apply sr (cg (OpJ.box hB (nm:=1001) (by decide) (by simp) rfl (ltN hN rfl) (q 0)) rfl (cg (alloc hB tyZ26 (nm:=1002) (by decide) (ltN hN rfl)) rfl cn))
 obtain⟨r1,hr1,h⟩:=bindS h
 obtain⟨r2,hr2,h⟩:=bindS h
 apply sd (c (fo 1001 0 [0] hN underlying26 0 tyS22 (q 1)) rfl (c (la hN 26 tyS22 (q 3)) rfl (cg (OpJ.callFn hB fnOk40 (A3i a0.fPending r1 hr1) [] (by kernel_rfl) (ltN hN rfl) (by kernel_rfl) (OpdL.cons (q 4) OpdL.nil)) rfl (c (fo 1001 1 [1] hN underlying26 1 tyS24 (q 1)) rfl (c (la hN 26 tyS24 (q 6)) rfl (cg (OpJ.callFn hB fnOk56 (A99 a0.fBucket r2 hr2) [] (by kernel_rfl) (ltN hN rfl) (by kernel_rfl) (OpdL.cons (q 7) OpdL.nil)) rfl (c (OpJ.coe (v:=(.st [(B0 r1),(.d (E0 r2))])) (y:=(.st [(.list 22 (r1.map A6)),(E0 r2)])) (Co.st (CoL.cons (Co.d _) (CoL.cons (Co.d _) CoL.nil))) rfl (OpJ.build (places:=[(0,1),(1,3)]) ⟨underlying26,fun w=>by kernel_rfl⟩ tyZS26 (Opds.cons (q 5) (Opds.cons (q 8) Opds.nil)) (by kernel_rfl) (r:=(.st [(B0 r1),(.d (E0 r2))])) (by rfl) (ltN hN rfl))) rfl (cg (sB tyS26 (q 2) (q 9)) rfl cn)))))))) (by kernel_rfl) (by kernel_rfl)
 apply ret
 obtain rfl:=oi h
 exact rt (kp [(2,_)] [(1002,some _)] hB rfl rfl (by rfl)) [(.d (.st [(.list 22 (r1.map A6)),(E0 r2)]))] (Res.cell (c:=(.d (.st [(.list 22 (r1.map A6)),(E0 r2)]))) (by rfl) (by rfl) tyS26 (by rfl) (by rfl) (by rfl) rN) rfl
def S7 (a0:F9):Option (Bool) :=
 some ((a0.fPending.length:Int)==0)
theorem U1 (a0:F9) (r:Bool) (h:S7 a0=some r):AC Tryz.prog 13 [(.d (C0 a0))] [] (.d (.bool r)) []:=by
 refine AC.of_code2 Tryz.func13 rfl rfl (Nat.le_of_ble_eq_true (by rfl)) fun B hB hN => ?_
 delta S7 at h
 apply sr (cg (OpJ.box hB (nm:=1001) (by decide) (by simp) rfl (ltN hN rfl) (q 0)) rfl (c (assign (ltN hN rfl) (Opd.bool false)) rfl cn))
 apply sr (c (fo 1001 0 [0] hN underlying26 0 tyS22 (q 1)) rfl (c (la hN 26 tyS22 (q 3)) rfl (c (OpJ.val (v':=(i6 (a0.fPending.length:Int))) (by simp) (lenD underlying22 (ltN hN rfl) (q 4))) rfl (c (eqlI (ltN hN rfl) (q 5) (ii 0)) rfl (c (assign (ltN hN rfl) (q 6)) rfl cn)))))
 apply ret
 obtain rfl:=oi h
 exact rt (kp [(2,_)] [] hB rfl rfl (by rfl)) [(bo ((a0.fPending.length:Int)==0))] (rT rN) rfl
def Y9:Option (Bool) :=
 (A27 (F9.mk ([]:List A1) (G4.mk 1 0 1)) ([(A1.mk 0 (A0.mk (E7.mk false 0 0) 8) false (B3.mk (A0.mk (E7.mk false 0 0) 0) 0 (D9.mk 0 ([]:List B2) (E7.mk false 0 0) 0 0 0 ([]:List C6) ([]:List G0) ([]:List A7))))]:List A1)).bind fun r1 =>
 (A0g r1.1).bind fun r2 =>
 jn (fun m7:Bool =>
 some m7) (fun j8 =>
 (if (((r1.2==0)&&(r2.2.2==0))&&((r2.2.1.length:Int)==1))=true then
 (S7 r2.1).bind fun r10 =>
 (if r10=true then
 (S7 r1.1).bind fun r12 =>
 j8 ((!r12)&&(r2.1.fBucket.fLevel==0))
 else
 j8 false)
 else
 j8 false))
theorem A43 (r:Bool) (h:Y9=some r):AC Tryz.prog 6 [] [(500,(.know (globD 0 (.imap gv0))))] (.d (.bool r)) [(500,some (.know (globD 0 (.imap gv0))))]:=by
 refine ac2 Tryz.func6 rfl rfl fun B hB hN L => ?_
 delta Y9 at h
 apply sr (c (assign (L rfl) (Opd.bool false)) rfl cn)
 apply seq
 obtain⟨r1,hr1,h⟩:=bindS h
 refine AWp.region (oc (OpJ.coe (v:=(.st [(i6 1),(i6 0),(i6 1)])) (y:=(.st [(.int .i64 1),(.int .i64 0),(.int .i64 1)])) (Co.st (CoL.cons (Co.d _) (CoL.cons (Co.d _) (CoL.cons (Co.d _) CoL.nil)))) rfl (OpJ.build (places:=[(0,1),(1,1),(2,1)]) ⟨underlying24,fun w=>by kernel_rfl⟩ tyZS24 (Opds.cons (ii 1) (Opds.cons (ii 1) Opds.nil)) (by kernel_rfl) (r:=(.st [(i6 1),(i6 0),(i6 1)])) (by rfl) (L rfl)))
 (oc (OpJ.build (places:=[(0,1),(1,3)]) ⟨underlying26,fun w=>by kernel_rfl⟩ tyZS26 (Opds.cons (ot 7 (.d (.st [(.int .i64 1),(.int .i64 0),(.int .i64 1)]))) Opds.nil) (by kernel_rfl) (r:=(.st [.nils,(.d (.st [(.int .i64 1),(.int .i64 0),(.int .i64 1)]))])) (by rfl) (L rfl))
 (oc (OpJ.coe (v:=(.st [(.d (.st [(.bool false),(.int .u64 0),(.int .u64 0)])),(i6 8)])) (y:=(.st [(.st [(.bool false),(.int .u64 0),(.int .u64 0)]),(.int .i64 8)])) (Co.st (CoL.cons (Co.d _) (CoL.cons (Co.d _) CoL.nil))) rfl (OpJ.build (places:=[(0,3),(3,1)]) ⟨underlying33,fun w=>by kernel_rfl⟩ tyZS33 (Opds.cons (ii 8) Opds.nil) (by kernel_rfl) (r:=(.st [(.d (.st [(.bool false),(.int .u64 0),(.int .u64 0)])),(i6 8)])) (by rfl) (L rfl)))
 (oc (OpJ.build (places:=[(0,1),(1,4),(5,1),(6,16)]) ⟨underlying43,fun w=>by kernel_rfl⟩ tyZS43 (Opds.cons (ot 9 (.d (.st [(.st [(.bool false),(.int .u64 0),(.int .u64 0)]),(.int .i64 8)]))) Opds.nil) (by kernel_rfl) (r:=(.st [(i6 0),(.d (.st [(.st [(.bool false),(.int .u64 0),(.int .u64 0)]),(.int .i64 8)])),(bo false),(.st [(.d (.st [(.st [(.bool false),(.int .u64 0),(.int .u64 0)]),(.int .i64 0)])),(i6 0),(.st [(i6 0),.nils,(.d (.st [(.bool false),(.int .u64 0),(.int .u64 0)])),(i6 0),(i6 0),(i6 0),.nils,.nils,.nils])])])) (by rfl) (L rfl))
 (oc (buildSlice underlying22 tyS43 tyZD43 (by rfl) (by decide) (by decide) (Opds.cons (Opd.co (Co.st (CoL.cons (Co.d _) (CoL.cons (Co.d _) (CoL.cons (Co.d _) (CoL.cons (Co.st (CoL.cons (Co.d _) (CoL.cons (Co.d _) (CoL.cons (Co.st (CoL.cons (Co.d _) (CoL.cons (Co.nils 2) (CoL.cons (Co.d _) (CoL.cons (Co.d _) (CoL.cons (Co.d _) (CoL.cons (Co.d _) (CoL.cons (Co.nils 2) (CoL.cons (Co.nils 3) (CoL.cons (Co.nils 3) CoL.nil)))))))))) CoL.nil)))) CoL.nil))))) (ot 10 (.st [(i6 0),(.d (.st [(.st [(.bool false),(.int .u64 0),(.int .u64 0)]),(.int .i64 8)])),(bo false),(.st [(.d (.st [(.st [(.bool false),(.int .u64 0),(.int .u64 0)]),(.int .i64 0)])),(i6 0),(.st [(i6 0),.nils,(.d (.st [(.bool false),(.int .u64 0),(.int .u64 0)])),(i6 0),(i6 0),(i6 0),.nils,.nils,.nils])])]))) Opds.nil) (by kernel_rfl) (es:=([(.st [(.int .i64 0),(.st [(.st [(.bool false),(.int .u64 0),(.int .u64 0)]),(.int .i64 8)]),(.bool false),(.st [(.st [(.st [(.bool false),(.int .u64 0),(.int .u64 0)]),(.int .i64 0)]),(.int .i64 0),(.st [(.int .i64 0),(.list 2 (([]:List B2).map B4)),(.st [(.bool false),(.int .u64 0),(.int .u64 0)]),(.int .i64 0),(.int .i64 0),(.int .i64 0),(.list 2 (([]:List C6).map B1)),(.list 3 (([]:List G0).map C7)),(.list 3 (([]:List A7).map A5))])])])]:List D)) (by rfl) (by rfl) (by kernel_rfl) (by simp) (L rfl))
 (oc (OpJ.callFn hB fnOk16 (A69 (F9.mk ([]:List A1) (G4.mk 1 0 1)) ([(A1.mk 0 (A0.mk (E7.mk false 0 0) 8) false (B3.mk (A0.mk (E7.mk false 0 0) 0) 0 (D9.mk 0 ([]:List B2) (E7.mk false 0 0) 0 0 0 ([]:List C6) ([]:List G0) ([]:List A7))))]:List A1) r1 hr1) [(500,500)] (by kernel_rfl) (L rfl) (by kernel_rfl) (OpdL.cons (Opd.tw (ot 8 (.st [.nils,(.d (.st [(.int .i64 1),(.int .i64 0),(.int .i64 1)]))])) (Tw.leaf ⟨_,(Co.st (CoL.cons (Co.nils 22) (CoL.cons (Co.d _) CoL.nil))),rfl⟩)) (OpdL.cons (ot 11 (B0 ([(A1.mk 0 (A0.mk (E7.mk false 0 0) 8) false (B3.mk (A0.mk (E7.mk false 0 0) 0) 0 (D9.mk 0 ([]:List B2) (E7.mk false 0 0) 0 0 0 ([]:List C6) ([]:List G0) ([]:List A7))))]:List A1))) OpdL.nil)))
 (oc (mv hN (ot 12 (.tup [(.d (C0 r1.1)),(i6 r1.2)])))
 (oc (extract (v:=(.d (C0 r1.1))) (by rfl) rfl (L rfl) (ot 6 (.tup [(.d (C0 r1.1)),(i6 r1.2)])))
 (oc (extract (v:=(i6 r1.2)) (by rfl) rfl (L rfl) (ot 6 (.tup [(.d (C0 r1.1)),(i6 r1.2)])))
 (oc (alloc hB tyZ26 (nm:=1001) (by decide) (L rfl))
 (oc (OpJ.storeB (bt:=26) (c:=(.st [.nils,(.d (.st [(.int .i64 0),(.int .i64 0),(.int .i64 0)]))])) (v:=(.d (C0 r1.1))) (c':=(.d (C0 r1.1))) tyS26 (SetAt.here _ _) (by rfl) (by rfl) (by simp) rfl (ot 1 (pt 1001)) (ot 13 (.d (C0 r1.1))))
 (oc (assign (L rfl) (ot 14 (i6 r1.2)))
 (OpJs.nil))))))))))))) (by rfl) (by rfl) ?_
 apply A3
 refine ghost (mp [] [(1,(pt 1001)),(2,(i6 r1.2))] [(500,some (.know (globD 0 (.imap gv0)))),(1001,bd 26 (C0 r1.1))] hB) ?_
 apply seq
 obtain⟨r2,hr2,h⟩:=bindS h
 refine AWp.region (oc (lb hN 26 (.d (C0 r1.1)) (.d (C0 r1.1)) tyS26 (At.here _) (ot 1 (pt 1001)))
 (oc (OpJ.callFn hB fnOk19 (A3t r1.1 r2 hr2) [(500,500)] (by kernel_rfl) (L rfl) (by kernel_rfl) (OpdL.cons (ot 16 (.d (C0 r1.1))) OpdL.nil))
 (oc (mv hN (ot 17 (.tup [(.d (C0 r2.1)),(B8 r2.2.1),(i6 r2.2.2)])))
 (oc (extract (v:=(.d (C0 r2.1))) (by rfl) rfl (L rfl) (ot 15 (.tup [(.d (C0 r2.1)),(B8 r2.2.1),(i6 r2.2.2)])))
 (oc (extract (v:=(B8 r2.2.1)) (by rfl) rfl (L rfl) (ot 15 (.tup [(.d (C0 r2.1)),(B8 r2.2.1),(i6 r2.2.2)])))
 (oc (extract (v:=(i6 r2.2.2)) (by rfl) rfl (L rfl) (ot 15 (.tup [(.d (C0 r2.1)),(B8 r2.2.1),(i6 r2.2.2)])))
 (oc (alloc hB tyZ26 (nm:=1003) (by decide) (L rfl))
 (oc (OpJ.storeB (bt:=26) (c:=(.st [.nils,(.d (.st [(.int .i64 0),(.int .i64 0),(.int .i64 0)]))])) (v:=(.d (C0 r2.1))) (c':=(.d (C0 r2.1))) tyS26 (SetAt.here _ _) (by rfl) (by rfl) (by simp) rfl (ot 3 (pt 1003)) (ot 18 (.d (C0 r2.1))))
 (oc (assign (L rfl) (ot 19 (B8 r2.2.1)))
 (oc (assign (L rfl) (ot 20 (i6 r2.2.2)))
 (OpJs.nil))))))))))) (by rfl) (by rfl) ?_
 apply A3
 refine ghost (mp [] [(1,(pt 1001)),(2,(i6 r1.2)),(3,(pt 1003)),(4,(B8 r2.2.1)),(5,(i6 r2.2.2))] [(500,some (.know (globD 0 (.imap gv0)))),(1001,bd 26 (C0 r1.1)),(1003,bd 26 (C0 r2.1))] hB) ?_
 apply seq
 refine AWp.cut h (fun m7:Bool=>([(0,(bo m7))]:EL)) (fun m7:Bool=>([(500,some (.know (globD 0 (.imap gv0))))]:OL)) (fun m7 h E' O' hmat => ?_) (fun j8 hjj8 h => ?_)
 ·apply A3
  refine ghost hmat ?_
  apply ret
  obtain rfl:=oi h
  exact rt (kp [(0,_)] [(500,some _)] hB rfl rfl (by rfl)) [(bo m7)] (rT rN) rfl
 ·rcases bft (((r1.2==0)&&(r2.2.2==0))&&((r2.2.1.length:Int)==1)) with hg9 | hg9
  ·have h:=B6 hg9 h
   obtain⟨r10,hr10,h⟩:=bindS h
   rcases bft r10 with hg11 | hg11
   ·have h:=B6 hg11 h
    obtain⟨r12,hr12,h⟩:=bindS h
    apply rg (c (mv hN (q 2)) rfl (c (eqlI (L rfl) (q 21) (ii 0)) rfl (c (mv hN (q 22)) rfl (c (oq hN 23 (mv hN (q 5)) (OptL.keep (by rfl) OptL.nil) (GuardV.plain _)) rfl (c (oq hN 23 (eqlI (L rfl) (q 24) (ii 0)) (OptL.opt OptL.nil) (GuardV.plain _)) rfl (c (pickAnd rfl (L rfl) (q 23) (q 25)) rfl (c (mv hN (q 26)) rfl (c (oq hN 27 (mv hN (q 4)) (OptL.keep (by rfl) OptL.nil) (GuardV.plain _)) rfl (c (oq hN 27 (OpJ.val (v':=(i6 (r2.2.1.length:Int))) (by simp) (lenD underlying57 (L rfl) (q 28))) (OptL.opt OptL.nil) (GuardV.plain _)) rfl (c (oq hN 27 (eqlI (L rfl) (q 29) (ii 1)) (OptL.opt OptL.nil) (GuardV.plain _)) rfl (c (pickAnd rfl (L rfl) (q 27) (q 30)) rfl (c (OpJ.val (v':=.d (.bool true)) (by rw [hg9]<;>rfl) (mv hN (q 31))) rfl (c (gd 32 (lb hN 26 _ _ tyS26 (At.here _) (q 3))) rfl (cg (gd 32 (cf hB fnOk13 (U1 r2.1 r10 hr10) (L rfl) (OpdL.cons (q 33) OpdL.nil))) rfl (c (pickT (L rfl) (q 32) (q 34)) rfl (c (OpJ.val (v':=.d (.bool true)) (by rw [hg11]<;>rfl) (mv hN (q 35))) rfl (c (gd 36 (lb hN 26 _ _ tyS26 (At.here _) (q 1))) rfl (cg (gd 36 (cf hB fnOk13 (U1 r1.1 r12 hr12) (L rfl) (OpdL.cons (q 37) OpdL.nil))) rfl (c (gd 36 (OpJ.not (L rfl) (q 38))) rfl (c (pickT (L rfl) (q 36) (q 39)) rfl (c (mv hN (q 40)) rfl (c (oq hN 41 (fo 1003 1 [1] hN underlying26 1 tyS24 (q 3)) (OptL.keep (by rfl) OptL.nil) (GuardV.plain _)) rfl (c (oq hN 41 (fo 1003 1 [1,0] hN underlying24 0 tyS3 (q 42)) (OptL.opt OptL.nil) (GuardV.plain _)) rfl (c (oq hN 41 (lb hN 26 _ _ tyS3 (At.dst1 (by rfl) (by rfl) (ad _) (by first | rfl | omega)) (q 43)) (OptL.opt OptL.nil) (GuardV.plain _)) rfl (c (oq hN 41 (eqlI (L rfl) (q 44) (ii 0)) (OptL.opt OptL.nil) (GuardV.plain _)) rfl (c (pickAnd rfl (L rfl) (q 41) (q 45)) rfl (c (assign (L rfl) (q 46)) rfl cn)))))))))))))))))))))))))))
    exact hjj8 _ h _ _ (mp [] _ _ hB)
   ·have h:=B7 hg11 h
    apply rg (c (mv hN (q 2)) rfl (c (eqlI (L rfl) (q 21) (ii 0)) rfl (c (mv hN (q 22)) rfl (c (oq hN 23 (mv hN (q 5)) (OptL.keep (by rfl) OptL.nil) (GuardV.plain _)) rfl (c (oq hN 23 (eqlI (L rfl) (q 24) (ii 0)) (OptL.opt OptL.nil) (GuardV.plain _)) rfl (c (pickAnd rfl (L rfl) (q 23) (q 25)) rfl (c (mv hN (q 26)) rfl (c (oq hN 27 (mv hN (q 4)) (OptL.keep (by rfl) OptL.nil) (GuardV.plain _)) rfl (c (oq hN 27 (OpJ.val (v':=(i6 (r2.2.1.length:Int))) (by simp) (lenD underlying57 (L rfl) (q 28))) (OptL.opt OptL.nil) (GuardV.plain _)) rfl (c (oq hN 27 (eqlI (L rfl) (q 29) (ii 1)) (OptL.opt OptL.nil) (GuardV.plain _)) rfl (c (pickAnd rfl (L rfl) (q 27) (q 30)) rfl (c (OpJ.val (v':=.d (.bool true)) (by rw [hg9]<;>rfl) (mv hN (q 31))) rfl (c (gd 32 (lb hN 26 _ _ tyS26 (At.here _) (q 3))) rfl (cg (gd 32 (cf hB fnOk13 (U1 r2.1 r10 hr10) (L rfl) (OpdL.cons (q 33) OpdL.nil))) rfl (c (pickT (L rfl) (q 32) (q 34)) rfl (c (OpJ.val (v':=.d (.bool false)) (by rw [hg11]<;>rfl) (mv hN (q 35))) rfl (ks 36 (L rfl) (ks 36 (L rfl) (ks 36 (L rfl) (c (pickF (L rfl) (q 36) (Opd.bool false)) rfl (c (mv hN (q 40)) rfl (ks 41 (L rfl) (ks 41 (L rfl) (ks 41 (L rfl) (ks 41 (L rfl) (c (pickF (L rfl) (q 41) (Opd.bool false)) rfl (c (assign (L rfl) (q 46)) rfl cn)))))))))))))))))))))))))))
    exact hjj8 _ h _ _ (mp [] _ _ hB)
  ·have h:=B7 hg9 h
   apply rg (c (mv hN (q 2)) rfl (c (eqlI (L rfl) (q 21) (ii 0)) rfl (c (mv hN (q 22)) rfl (c (oq hN 23 (mv hN (q 5)) (OptL.keep (by rfl) OptL.nil) (GuardV.plain _)) rfl (c (oq hN 23 (eqlI (L rfl) (q 24) (ii 0)) (OptL.opt OptL.nil) (GuardV.plain _)) rfl (c (pickAnd rfl (L rfl) (q 23) (q 25)) rfl (c (mv hN (q 26)) rfl (c (oq hN 27 (mv hN (q 4)) (OptL.keep (by rfl) OptL.nil) (GuardV.plain _)) rfl (c (oq hN 27 (OpJ.val (v':=(i6 (r2.2.1.length:Int))) (by simp) (lenD underlying57 (L rfl) (q 28))) (OptL.opt OptL.nil) (GuardV.plain _)) rfl (c (oq hN 27 (eqlI (L rfl) (q 29) (ii 1)) (OptL.opt OptL.nil) (GuardV.plain _)) rfl (c (pickAnd rfl (L rfl) (q 27) (q 30)) rfl (c (OpJ.val (v':=.d (.bool false)) (by rw [hg9]<;>rfl) (mv hN (q 31))) rfl (ks 32 (L rfl) (ks 32 (L rfl) (c (pickF (L rfl) (q 32) (Opd.bool false)) rfl (c (mv hN (q 35)) rfl (ks 36 (L rfl) (ks 36 (L rfl) (ks 36 (L rfl) (c (pickF (L rfl) (q 36) (Opd.bool false)) rfl (c (mv hN (q 40)) rfl (ks 41 (L rfl) (ks 41 (L rfl) (ks 41 (L rfl) (ks 41 (L rfl) (c (pickF (L rfl) (q 41) (Opd.bool false)) rfl (c (assign (L rfl) (q 46)) rfl cn)))))))))))))))))))))))))))
   exact hjj8 _ h _ _ (mp [] _ _ hB)
def P8 (a0:(List Int)):Option (Bool) :=
 some (decide ((a0.length:Int)≤400))
theorem A37 (a0:(List Int)) (r:Bool) (h:P8 a0=some r):AC Tryz.prog 24 [(.d (.list 1 (a0.map (eI .i64))))] [] (.d (.bool r)) []:=by
 refine AC.of_code2 Tryz.func24 rfl rfl (Nat.le_of_ble_eq_true (by rfl)) fun B hB hN => ?_
 delta P8 at h
 apply sr (c (assign (ltN hN rfl) (Opd.bool false)) rfl cn)
 apply sr (c (mv hN (q 0)) rfl (c (OpJ.val (v':=(i6 (a0.length:Int))) (by simp) (lenD underlying27 (ltN hN rfl) (q 3))) rfl (c (leq (ltN hN rfl) (q 4) (ii 400)) rfl (c (assign (ltN hN rfl) (q 5)) rfl cn))))
 apply ret
 obtain rfl:=oi h
 exact rt (kp [(2,_)] [] hB rfl rfl (by rfl)) [(bo (decide ((a0.length:Int)≤400)))] (rT rN) rfl
def X5 (s2:(List B3)×Int) (x275:A1) (s276:Int×(List B3)):Option ((((List B3)))⊕(Int×(List B3))) :=
 (if (decide (s276.1<(s2.1.length:Int)))=true then
 (idx s2.1 s276.1).bind fun x295 =>
 jn (fun m298:(List B3) =>
 some (.inr ((w64 (s276.1+1)),m298))) (fun j299 =>
 (if (!(((x295.fPrefix.fAddr.fV6==x275.fPrefix.fAddr.fV6)&&((x295.fPrefix.fAddr.fHi==x275.fPrefix.fAddr.fHi)&&((x295.fPrefix.fAddr.fLo==x275.fPrefix.fAddr.fLo)&&true)))&&((x295.fPrefix.fLen==x275.fPrefix.fLen)&&true)))=true then
 chk (decide ((s276.2++[x295]).length≤LIM)) <|
 j299 (s276.2++[x295])
 else
 j299 s276.2))
 else
 some (.inl s276.2))
def A15 (x275:A1) (p293:(List B3)) (s358:Int):Option (((Int))⊕(Int)) :=
 jn (fun m386:Bool =>
 (if m386=true then
 some (.inr (w64 (s358+1)))
 else
 some (.inl s358))) (fun j387 =>
 (if (decide (s358<(p293.length:Int)))=true then
 (idx p293 s358).bind fun _ =>
 (idx p293 s358).bind fun x391 =>
 (A1c x391.fPrefix x275.fPrefix).bind fun r392 =>
 j387 (decide (r392<0))
 else
 j387 false))
def X6 (a1:(List A1)) (s2:(List B3)×Int):Option ((((List B3)))⊕((List B3)×Int)) :=
 (if (decide (s2.2<(a1.length:Int)))=true then
 (idx a1 s2.2).bind fun x275 =>
 (loop (X5 s2 x275) (0,([]:List B3))).bind fun p293 =>
 jn (fun m355:(List B3) =>
 some (.inr (m355,(w64 (s2.2+1))))) (fun j356 =>
 (if x275.fHas=true then
 (loop (A15 x275 p293) 0).bind fun p381 =>
 chk ((decide (0≤p381)&&decide (p381.toNat≤p293.length)&&decide (p293.length≤p293.length))) <|
 chk (decide (p381.toNat+(p293.length-p381.toNat)≤p293.length)) <|
 chk (decide (((p293.drop p381.toNat).take (p293.length-p381.toNat)).length≤LIM)) <|
 chk ((decide (0≤p381)&&decide (p381.toNat≤p293.length))) <|
 (I1 [x275.fRoute]).bind fun r403 =>
 chk (decide (0<r403.length)) <|
 chk (decide (((p293.take p381.toNat)++r403).length≤LIM)) <|
 chk (decide ((((p293.take p381.toNat)++r403)++((p293.drop p381.toNat).take (p293.length-p381.toNat))).length≤LIM)) <|
 j356 (((p293.take p381.toNat)++r403)++((p293.drop p381.toNat).take (p293.length-p381.toNat)))
 else
 j356 p293))
 else
 some (.inl s2.1))
def R2 (a0:(List B3)) (a1:(List A1)):Option ((List B3)) :=
 (I1 a0).bind fun r1 =>
 (loop (X6 a1) (r1,0)).bind fun p273 =>
 some p273
theorem A16 (a0:(List B3)) (a1:(List A1)) (r:(List B3)) (h:R2 a0 a1=some r):AC Tryz.prog 26 [(.d (.list 16 (a0.map E5))),(.d (.list 22 (a1.map A6)))] [] (.d (.list 16 (r.map E5))) []:=by
 refine ac2 Tryz.func26 rfl rfl fun B hB hN L => ?_
 delta R2 at h
 apply sr (c (assign (L rfl) Opd.nils) rfl cn)
 obtain⟨r1,hr1,h⟩:=bindS h
 apply sr (c (mv hN (q 0)) rfl (cg (cf hB fnOk58 (W7 a0 r1 hr1) (L rfl) (OpdL.cons (q 13) OpdL.nil)) rfl (c (assign (L rfl) (q 14)) rfl cn)))
 apply seq
 apply sr (c (mv hN (q 1)) rfl (c (OpJ.val (v':=(i6 (a1.length:Int))) (by simp) (lenD underlying22 (L rfl) (q 15))) rfl (c (mv hN (ii 0)) rfl cn)))
 apply block
 obtain⟨p273,hx408,h⟩:=bindS h
 refine lg (X6 a1) (fun s2:(List B3)×Int=>([(5,(D1 s2.1)),(15,(B0 a1)),(16,(i6 (a1.length:Int))),(17,(i6 s2.2))]:EL)) (fun s2:(List B3)×Int=>([]:OL)) (fun(p273:((List B3))) e E' O'=>e = .exit 0∧Mat B E' O' ([(5,(D1 p273))]:EL) ([]:OL)) hx408 (mp [] _ _ hB) (fun s2 y h => ?_) (fun e E' O' hR => ?_)
 ·unfold X6 at h
  apply sr (c (lss (L rfl) (q 17) (q 16)) rfl cn)
  apply seq
  apply AWp.cond rfl<;>intro hg274
  ·have h:=B6 hg274 h
   apply AWp.skip
   apply A3
   apply seq
   apply block
   obtain⟨x275,hx275,h⟩:=bindS h
   apply sr (c (indexD underlying22 tyS43 (A4 hx275).1 (C8 A6 (A4 hx275).2) (L rfl) (q 15) (q 17)) rfl (c (loadD tyS43 (by rfl) (by rfl) (L rfl) (q 19)) rfl (cg (alloc hB tyZ43 (nm:=1007) (by decide) (L rfl)) rfl (cg (sB tyS43 (q 7) (q 20)) rfl cn))))
   apply sr (c (assign (L rfl) Opd.nils) rfl cn)
   apply seq
   apply sr (c (mv hN (q 5)) rfl (c (OpJ.val (v':=(i6 (s2.1.length:Int))) (by simp) (lenD underlying65 (L rfl) (q 21))) rfl (c (mv hN (ii 0)) rfl cn)))
   apply block
   obtain⟨p293,hx303,h⟩:=bindS h
   refine lg (X5 s2 x275) (fun s276:Int×(List B3)=>([(7,(pt 1007)),(8,(.sref 3008 16 0 s276.2.length)),(15,(B0 a1)),(16,(i6 (a1.length:Int))),(17,(i6 s2.2)),(21,(D1 s2.1)),(22,(i6 (s2.1.length:Int))),(23,(i6 s276.1))]:EL)) (fun s276:Int×(List B3)=>([(1007,bd 43 (A6 x275)),(3008,some (E9 s276.2))]:OL)) (fun(p293:((List B3))) e E' O'=>e = .exit 2∧Mat B E' O' ([(7,(pt 1007)),(8,(.sref 3008 16 0 p293.length)),(15,(B0 a1)),(16,(i6 (a1.length:Int))),(17,(i6 s2.2))]:EL) ([(1007,bd 43 (A6 x275)),(3008,some (E9 p293))]:OL)) hx303 (Mat.trans (Mat.beginP (n:=3008) (e:=41) (sz:=16) (Ts:=[(8,(.sref 3008 16 0 0))]) (Bs:=[]) hB (by decide) (by rfl) (by decide) (TwT.cons (x:=.nils) (by rfl) (Tw.leaf ⟨rfl,rfl⟩) TwT.nil) TwB.nil) (mp [] _ _ hB)) (fun s276 y h => ?_) (fun e E' O' hR => ?_)
   ·unfold X5 at h
    apply sr (c (lss (L rfl) (q 23) (q 22)) rfl cn)
    apply seq
    apply AWp.cond rfl<;>intro hg294
    ·have h:=B6 hg294 h
     apply AWp.skip
     apply A3
     apply seq
     apply block
     obtain⟨x295,hx295,h⟩:=bindS h
     apply sr (c (indexD underlying65 tyS41 (A4 hx295).1 (C8 E5 (A4 hx295).2) (L rfl) (q 21) (q 23)) rfl (c (loadD tyS41 (by rfl) (by rfl) (L rfl) (q 25)) rfl (cg (alloc hB tyZ41 (nm:=1010) (by decide) (L rfl)) rfl (cg (sB tyS41 (q 10) (q 26)) rfl cn))))
     apply sr (c (fo 1010 0 [0] hN underlying41 0 tyS33 (q 10)) rfl (c (la hN 41 tyS33 (q 27)) rfl (c (fo 1007 1 [1] hN underlying43 1 tyS33 (q 7)) rfl (c (la hN 43 tyS33 (q 29)) rfl (c (OpJ.neqD (h:=3) (feq33 x295.fPrefix x275.fPrefix) eqg33 ⟨rfl,rfl⟩ (by rfl) (L rfl) (q 28) (q 30)) rfl cn)))))
     refine gh [(7,_),(8,_),(10,_),(15,_),(16,_),(17,_),(21,_),(22,_),(23,_),(31,_)] [(1007,some _),(1010,some _),(3008,some _)] hB rfl rfl (by rfl) ?_
     refine AWp.cut h (fun m298:(List B3)=>([(7,(pt 1007)),(8,(.sref 3008 16 0 m298.length)),(15,(B0 a1)),(16,(i6 (a1.length:Int))),(17,(i6 s2.2)),(21,(D1 s2.1)),(22,(i6 (s2.1.length:Int))),(23,(i6 s276.1))]:EL)) (fun m298:(List B3)=>([(1007,bd 43 (A6 x275)),(3008,some (E9 m298))]:OL)) (fun m298 h E' O' hmat => ?_) (fun j299 hjj299 h => ?_)
     ·apply F8
      apply A3
      refine ghost hmat ?_
      apply rg (c (add6 (L rfl) (q 23) (ii 1)) rfl (c (mv hN (q 36)) rfl cn))
      obtain rfl:=oi h
      exact⟨rfl,(mp [] _ _ hB)⟩
     ·apply AWp.cond rfl<;>intro hg300
      ·have h:=B6 hg300 h
       obtain⟨hc301,h⟩:=D3 h
       apply rg (c (mv hN (q 8)) rfl (c (lb hN 41 _ _ tyS41 (At.here _) (q 10)) rfl (c (buildSlice underlying65 tyS41 tyZD41 (by rfl) (by decide) (by decide) (Opds.cons (q 33) Opds.nil) (by kernel_rfl) (es:=([(E5 x295)]:List D)) (by rfl) (by rfl) (by kernel_rfl) (by simp) (L rfl)) rfl (cg (apd hB underlying65 tyE41 1035 E5 s276.2 [x295] hc301 (L rfl) (q 32) (q 34)) rfl (c (assign (L rfl) (q 35)) rfl cn)))))
       exact hjj299 _ h _ _ (mp [(3008,1035)] _ _ hB)
      ·have h:=B7 hg300 h
       apply AWp.skip
       exact hjj299 _ h _ _ (mp [] _ _ hB)
    ·have h:=B7 hg294 h
     apply AWp.exit
     apply F6
     obtain rfl:=oi h
     exact⟨(fun hc=>by cases hc),rfl,(mp [] _ _ hB)⟩
   ·obtain⟨rfl,hmat⟩:=hR
    apply E4
    apply A3
    refine ghost hmat ?_
    apply seq
    apply sr (c (fo 1007 5 [2] hN underlying43 5 tyS4 (q 7)) rfl (c (la hN 43 tyS4 (q 37)) rfl cn))
    refine gh [(7,_),(8,_),(15,_),(16,_),(17,_),(38,_)] [(1007,some _),(3008,some _)] hB rfl rfl (by rfl) ?_
    refine AWp.cut h (fun m355:(List B3)=>([(8,(.sref 3008 16 0 m355.length)),(15,(B0 a1)),(16,(i6 (a1.length:Int))),(17,(i6 s2.2))]:EL)) (fun m355:(List B3)=>([(3008,some (E9 m355))]:OL)) (fun m355 h E' O' hmat => ?_) (fun j356 hjj356 h => ?_)
    ·apply A3
     refine ghost hmat ?_
     apply rg (c (mv hN (q 8)) rfl (c (assign (L rfl) (q 71)) rfl cn))
     apply F8
     apply A3
     apply rg (c (add6 (L rfl) (q 17) (ii 1)) rfl (c (mv hN (q 72)) rfl cn))
     obtain rfl:=oi h
     exact⟨rfl,(Mat.trans (mp [] [(5,(.sref 3008 16 0 m355.length)),(15,(B0 a1)),(16,(i6 (a1.length:Int))),(17,(i6 (w64 (s2.2+1))))] [(3008,some (E9 m355))] hB) (Mat.trans (Mat.freezeP (n:=3008) (e:=41) (sz:=16) (es:=m355.map E5) (Ts:=[(5,(D1 m355))]) (Bs:=[]) (by rfl) (TwT.cons (x:=(.sref 3008 16 0 m355.length)) (by rfl) (FrzL.all (by first | rfl | (simp;done) | (simp;omega) | omega)) TwT.nil) TwB.nil) (mp [] _ _ hB)))⟩
    ·apply AWp.cond rfl<;>intro hg357
     ·have h:=B6 hg357 h
      apply sr (c (assign (L rfl) (ii 0)) rfl cn)
      apply seq
      apply block
      obtain⟨p381,hx394,h⟩:=bindS h
      refine lg (A15 x275 p293) (fun s358:Int=>([(7,(pt 1007)),(8,(.sref 3008 16 0 p293.length)),(11,(i6 s358)),(15,(B0 a1)),(16,(i6 (a1.length:Int))),(17,(i6 s2.2))]:EL)) (fun s358:Int=>([(1007,bd 43 (A6 x275)),(3008,some (E9 p293))]:OL)) (fun(p381:(Int)) e E' O'=>e = .exit 4∧Mat B E' O' ([(7,(pt 1007)),(8,(.sref 3008 16 0 p293.length)),(11,(i6 p381)),(15,(B0 a1)),(16,(i6 (a1.length:Int))),(17,(i6 s2.2))]:EL) ([(1007,bd 43 (A6 x275)),(3008,some (E9 p293))]:OL)) hx394 (mp [] _ _ hB) (fun s358 y h => ?_) (fun e E' O' hR => ?_)
      ·unfold A15 at h
       apply seq
       apply seq
       refine AWp.cut h (fun m386:Bool=>([(7,(pt 1007)),(8,(.sref 3008 16 0 p293.length)),(11,(i6 s358)),(15,(B0 a1)),(16,(i6 (a1.length:Int))),(17,(i6 s2.2)),(53,(bo m386))]:EL)) (fun m386:Bool=>([(1007,bd 43 (A6 x275)),(3008,some (E9 p293))]:OL)) (fun m386 h E' O' hmat => ?_) (fun j387 hjj387 h => ?_)
       ·apply A3
        refine ghost hmat ?_
        apply AWp.cond rfl<;>intro hg388
        ·have h:=B6 hg388 h
         apply AWp.skip
         apply A3
         apply block
         apply rg (c (mv hN (q 11)) rfl (c (add6 (L rfl) (q 54) (ii 1)) rfl (c (assign (L rfl) (q 55)) rfl cn)))
         apply F8
         obtain rfl:=oi h
         exact⟨rfl,(mp [] _ _ hB)⟩
        ·have h:=B7 hg388 h
         apply AWp.exit
         apply F6
         obtain rfl:=oi h
         exact⟨(fun hc=>by cases hc),rfl,(mp [] _ _ hB)⟩
       ·rcases bft (decide (s358<(p293.length:Int))) with hg389 | hg389
        ·have h:=B6 hg389 h
         obtain⟨_,hx390,h⟩:=bindS h
         obtain⟨x391,hx391,h⟩:=bindS h
         obtain⟨r392,hr392,h⟩:=bindS h
         apply dr (c (mv hN (q 11)) rfl (c (mv hN (q 8)) rfl (c (lenS underlying65 (L rfl) (q 40)) rfl (c (lss (L rfl) (q 39) (q 41)) rfl (c (OpJ.val (v':=.d (.bool true)) (by rw [hg389]<;>rfl) (mv hN (q 42))) rfl (c (gd 43 (mv hN (q 8))) rfl (c (gd 43 (mv hN (q 11))) rfl (c (gd 43 (OpJ.val (v':=(.ptr 3008 (s358.toNat*16) [s358.toNat])) (by simp) (indexS underlying65 tyS41 (A4 hx390).1 (by have:=A1b hx390;first | (simpa using this) | ((try simp only [List.length_map] at this);(try simp only [List.length_map]);omega)) (L rfl) (q 44) (q 45)))) rfl (c (gd 43 (ov (.ptr 3008 ((s358.toNat*16)+0) [s358.toNat,0]) (fp hN underlying41 0 tyS33 _ (q 46)))) rfl (c (gd 43 (loadR (e:=41) (sz:=16) tyS33 (C8 E5 (A4 hx391).2) (o:=0) (ad _) (by rfl) (by rfl) (by rfl) (L rfl) (q 47))) rfl (c (gd 43 (fo 1007 1 [1] hN underlying43 1 tyS33 (q 7))) rfl (c (gd 43 (la hN 43 tyS33 (q 49))) rfl (cg (gd 43 (cf hB fnOk51 (A5k x391.fPrefix x275.fPrefix r392 hr392) (L rfl) (OpdL.cons (q 48) (OpdL.cons (q 50) OpdL.nil)))) rfl (c (gd 43 (lss (L rfl) (q 51) (ii 0))) rfl (c (pickT (L rfl) (q 43) (q 52)) rfl cn))))))))))))))) (by kernel_rfl) (by kernel_rfl)
         exact hjj387 _ h _ _ (mp [] _ _ hB)
        ·have h:=B7 hg389 h
         apply dr (c (mv hN (q 11)) rfl (c (mv hN (q 8)) rfl (c (lenS underlying65 (L rfl) (q 40)) rfl (c (lss (L rfl) (q 39) (q 41)) rfl (c (OpJ.val (v':=.d (.bool false)) (by rw [hg389]<;>rfl) (mv hN (q 42))) rfl (ks 43 (L rfl) (ks 43 (L rfl) (ks 43 (L rfl) (ks 43 (L rfl) (ks 43 (L rfl) (ks 43 (L rfl) (ks 43 (L rfl) (ks 43 (L rfl) (ks 43 (L rfl) (c (pickF (L rfl) (q 43) (Opd.bool false)) rfl cn))))))))))))))) (by kernel_rfl) (by kernel_rfl)
         exact hjj387 _ h _ _ (mp [] _ _ hB)
      ·obtain⟨rfl,hmat⟩:=hR
       apply E4
       apply A3
       refine ghost hmat ?_
       obtain⟨hc395,h⟩:=D3 h
       obtain⟨hc396,h⟩:=D3 h
       obtain⟨hc397,h⟩:=D3 h
       apply sr (c (mv hN (q 8)) rfl (c (mv hN (q 11)) rfl (c (OpJ.cutS underlying65 tyS41 (l:=p381.toNat) (h:=p293.length) (off':=p381.toNat) (len':=(p293.length-p381.toNat)) (.inr ⟨_,_,_,rfl,(ot 57 (i6 p381)),(of_decide_eq_true (G5 (G5 hc395))),rfl⟩) (.inl ⟨rfl,rfl,rfl⟩) (of_decide_eq_true (I6 (G5 hc395))) (of_decide_eq_true (I6 hc395)) (by simp) (by simp) (L rfl) (q 56)) rfl (cg (OpJ.appendNS hB underlying65 tyE41 (nm:=1059) (by decide) (es:=p293.map E5) (ys:=((p293.drop p381.toNat).take (p293.length-p381.toNat)).map E5) (by rw [List.length_map];exact of_decide_eq_true hc396) (by first | rw [List.map_drop,List.map_take] | (simp [List.map_take,List.map_drop];done) | simp [List.take_of_length_le]) (len:=((p293.drop p381.toNat).take (p293.length-p381.toNat)).length) (by simp) (R4 (f:=E5) (fun _=>rfl)) (by rw [List.length_map];exact J6 hc397 (by decide)) (by rw [List.length_map];exact M6 hc397) (L rfl) Opd.nils (q 58)) rfl (c (assign (L rfl) (q 59)) rfl cn)))))
       refine gh [(7,_),(8,_),(11,_),(12,_),(15,_),(16,_),(17,_)] [(1007,some _),(1059,some _),(3008,some _)] hB rfl rfl (by rfl) ?_
       refine ghost (Mat.freezeP (n:=3008) (e:=41) (sz:=16) (es:=p293.map E5) (Ts:=[(8,(D1 p293))]) (Bs:=[]) (by rfl) (TwT.cons (x:=(.sref 3008 16 0 p293.length)) (by rfl) (FrzL.all (by first | rfl | (simp;done) | (simp;omega) | omega)) TwT.nil) TwB.nil) ?_
       refine ghost (Mat.freezeP (n:=1059) (e:=41) (sz:=16) (es:=((p293.drop p381.toNat).take (p293.length-p381.toNat)).map E5) (Ts:=[(12,(D1 ((p293.drop p381.toNat).take (p293.length-p381.toNat))))]) (Bs:=[]) (by rfl) (TwT.cons (x:=(.sref 1059 16 0 (((p293.drop p381.toNat).take (p293.length-p381.toNat)).length))) (by rfl) (FrzL.all (by first | rfl | (simp;done) | (simp;omega) | omega)) TwT.nil) TwB.nil) ?_
       obtain⟨hc402,h⟩:=D3 h
       obtain⟨r403,hr403,h⟩:=bindS h
       obtain⟨hc404,h⟩:=D3 h
       obtain⟨hc405,h⟩:=D3 h
       obtain⟨hc406,h⟩:=D3 h
       apply dr (c (mv hN (q 8)) rfl (c (mv hN (q 11)) rfl (c (mv hN (q 11)) rfl (cg (OpJ.cut3 underlying65 tyS41 (es:=p293.map E5) (es':=(p293.take p381.toNat).map E5) (of_decide_eq_true (G5 hc402)) (by simpa using (of_decide_eq_true (I6 hc402))) (by rw [List.map_take]) (L rfl) (q 60) (q 61) (q 62)) rfl (c (fo 1007 6 [3] hN underlying43 6 tyS41 (q 7)) rfl (c (la hN 43 tyS41 (q 64)) rfl (c (buildSlice underlying65 tyS41 tyZD41 (by rfl) (by decide) (by decide) (Opds.cons (q 65) Opds.nil) (by kernel_rfl) (es:=([(E5 x275.fRoute)]:List D)) (by rfl) (by rfl) (by kernel_rfl) (by simp) (L rfl)) rfl (cg (cf hB fnOk58 (W7 [x275.fRoute] r403 hr403) (L rfl) (OpdL.cons (q 66) OpdL.nil)) rfl (cg (OpJ.appendF hB underlying65 tyE41 (nm:=1068) (by decide) (es:=(p293.take p381.toNat).map E5) (ys:=r403.map E5) (es':=((p293.take p381.toNat)++r403).map E5) (len:=((p293.take p381.toNat)++r403).length) (by simp) (by simp) (by rw [List.length_map];exact of_decide_eq_true hc404) (R4 (f:=E5) (fun _=>rfl)) (R4 (f:=E5) (fun _=>rfl)) (by rw [List.length_map];exact J6 hc405 (by decide)) (by rw [List.length_map];exact M6 hc405) (L rfl) (q 63) (q 67)) rfl (c (mv hN (q 12)) rfl (cg (apd hB underlying65 tyE41 1070 E5 ((p293.take p381.toNat)++r403) ((p293.drop p381.toNat).take (p293.length-p381.toNat)) hc406 (L rfl) (q 68) (q 69)) rfl (c (assign (L rfl) (q 70)) rfl cn)))))))))))) (by kernel_rfl) (by kernel_rfl)
       exact hjj356 _ h _ _ (mp [(3008,1070)] _ _ hB)
     ·have h:=B7 hg357 h
      apply AWp.skip
      exact hjj356 _ h _ _ (mp [] _ _ hB)
  ·have h:=B7 hg274 h
   apply AWp.exit
   apply F6
   obtain rfl:=oi h
   exact⟨(fun hc=>by cases hc),rfl,(mp [] _ _ hB)⟩
 ·obtain⟨rfl,hmat⟩:=hR
  apply E4
  apply A3
  refine ghost hmat ?_
  apply sr (c (mv hN (q 5)) rfl (c (assign (L rfl) (q 73)) rfl cn))
  apply ret
  obtain rfl:=oi h
  exact rt (kp [(4,_)] [] hB rfl rfl (by rfl)) [(D1 p273)] (rT rN) rfl
end
end Go.Proofs.YtplbaenjbihekaaGreatDoor
