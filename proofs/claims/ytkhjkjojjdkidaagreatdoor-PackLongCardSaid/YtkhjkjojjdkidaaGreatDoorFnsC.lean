/- Printed by gen.py: the Go functions as plain functions, and that the code does what they say. -/
import Derived.Test.YtkhjkjojjdkidaaGreatDoorChecked
import Derived.Test.YtkhjkjojjdkidaaGreatDoorVcYB
import Derived.Test.YtkhjkjojjdkidaaGreatDoorVcZ
import Derived.Test.YtkhjkjojjdkidaaGreatDoorVcGC
import Derived.KernelRfl
import Derived.Test.YtkhjkjojjdkidaaGreatDoorVcMD
import Derived.Test.YtkhjkjojjdkidaaGreatDoorVcMQ
import Derived.Test.YtkhjkjojjdkidaaGreatDoorVcSG
import Derived.Test.YtkhjkjojjdkidaaGreatDoorFnsB
import Derived.Test.YtkhjkjojjdkidaaGreatDoorExt
import Derived.Test.YtkhjkjojjdkidaaGreatDoorVcPm
import Derived.Test.YtkhjkjojjdkidaaGreatDoorVcRg
import Derived.Test.YtkhjkjojjdkidaaGreatDoorVcSt
import Derived.Test.YtkhjkjojjdkidaaGreatDoorVcMR
namespace Go.Proofs.YtkhjkjojjdkidaaGreatDoor
open Go Go.Vc
open Tryz
open Go.Vc.OpJ (assign alloc lss pickT pickF extract lenD indexD loadD eqlI gtr callVal leq geq loadR nilP indexS buildSlice lenS fieldD neqI pickAnd pickOr)
open Go.Vc.AWp (seq ghost ret block)
set_option maxHeartbeats 4000000
set_option maxRecDepth 100000
noncomputable section
def Y2 (a0:(List C2)) (s1:Int×(List C5)×(List A2)):Option (((Unit)⊕((List C5)×(List A2)))⊕(Int×(List C5)×(List A2))) :=
 (if (decide (s1.1<(a0.length:Int)))=true then
 jn (fun m152:(List C5)×(List A2) =>
 some (.inr ((w64 (s1.1+1)),m152.1,m152.2))) (fun j153 =>
 (idx a0 s1.1).bind fun x154 =>
 jn (fun m161:Bool =>
 (if m161=true then
 some (.inl (.inl ()))
 else
 (if (!x154.fHas)=true then
 chk (decide ((s1.2.2++[x154.fPrefix]).length≤LIM)) <|
 j153 (s1.2.1,(s1.2.2++[x154.fPrefix]))
 else
 (O4 s1.2.1 x154).bind fun r166 =>
 jn (fun m169:Int×(List C5) =>
 (idx m169.2 m169.1).bind fun _ =>
 (idx m169.2 m169.1).bind fun x172 =>
 chk (decide ((x172.fprefixes++[x154.fPrefix]).length≤LIM)) <|
 (idx m169.2 m169.1).bind fun _ =>
 (idx m169.2 m169.1).bind fun x175 =>
 j153 ((m169.2.set m169.1.toNat (C5.mk x175.fattrs (x172.fprefixes++[x154.fPrefix]))),s1.2.2)) (fun j170 =>
 (if (decide (r166<0))=true then
 chk (decide ((s1.2.1++([(C5.mk x154.fRoute.fAttrs ([]:List A2))]:List C5)).length≤LIM)) <|
 j170 ((s1.2.1.length:Int),(s1.2.1++([(C5.mk x154.fRoute.fAttrs ([]:List A2))]:List C5)))
 else
 j170 (r166,s1.2.1)))))) (fun j162 =>
 (A2p x154).bind fun r178 =>
 (if (!r178)=true then
 j162 true
 else
 (if (decide (0<s1.1))=true then
 (idx a0 (w64 (s1.1-1))).bind fun x181 =>
 (A2q x181.fPrefix x154.fPrefix).bind fun r182 =>
 j162 (decide (0≤r182))
 else
 j162 false))))
 else
 some (.inl (.inr (s1.2.1,s1.2.2))))
def A0x (p121:(List C5)×(List A2)) (s186:Int×(List A7)):Option ((((List A7)))⊕(Int×(List A7))) :=
 (if (decide (s186.1<(p121.1.length:Int)))=true then
 (idx p121.1 s186.1).bind fun x198 =>
 (P9 x198 true).bind fun r199 =>
 chk (decide ((s186.2++r199).length≤LIM)) <|
 some (.inr ((w64 (s186.1+1)),(s186.2++r199)))
 else
 some (.inl s186.2))
def A1g (a0:(List C2)):Option ((List A7)×Int) :=
 (loop (Y2 a0) (0,([]:List C5),([]:List A2))).bind fun x183=>match x183 with
 | (.inl _) =>
  some (([]:List A7),1)
 | (.inr p121) =>
  (Z5 (C5.mk (D1.mk 0 ([]:List B8) (D3.mk false 0 0) 0 0 0 ([]:List B4) ([]:List E6) ([]:List A1)) p121.2) false).bind fun r185 =>
  (loop (A0x p121) (0,r185)).bind fun p196 =>
  some (p196,0)
theorem A6d (a0:(List C2)) (r:(List A7)×Int) (h:A1g a0=some r):AC Tryz.prog 12 [(.d (.list 22 (a0.map D6)))] [(500,(.know (globD 0 (.imap gv0))))] (.tup [(.d (.list 13 (r.1.map D4))),(.d (.int .i64 r.2))]) [(500,some (.know (globD 0 (.imap gv0))))]:=by
 refine ac2 Tryz.func12 rfl rfl fun B hB hN L => ?_
 delta A1g at h
 apply sr (c (assign (L rfl) Opd.nils) rfl (c (assign (L rfl) (ii 0)) rfl cn))
 apply sr (cg (alloc hB tyZ79 (nm:=1004) (by decide) (L rfl)) rfl cn)
 apply sr (c (assign (L rfl) Opd.nils) rfl cn)
 apply seq
 apply sr (c (mv hN (q 0)) rfl (c (OpJ.val (v':=(i6 (a0.length:Int))) (by simp) (lenD underlying22 (L rfl) (q 12))) rfl (c (mv hN (ii 0)) rfl cn)))
 apply block
 obtain⟨x183,hx184,h⟩:=bindS h
 refine lg (Y2 a0) (fun s1:Int×(List C5)×(List A2)=>([(0,(C3 a0)),(4,(pt 1004)),(5,(.sref 3005 12 0 s1.2.1.length)),(12,(C3 a0)),(13,(i6 (a0.length:Int))),(14,(i6 s1.1))]:EL)) (fun s1:Int×(List C5)×(List A2)=>([(500,some (.know (globD 0 (.imap gv0)))),(1004,some (.box 79 (.st [(.st [(i6 0),.nils,(.d (.st [(.bool false),(.int .u64 0),(.int .u64 0)])),(i6 0),(i6 0),(i6 0),.nils,.nils,.nils]),(.sref 13041 4 0 s1.2.2.length)]))),(3005,some (.reg (nrow 79 12 1 29 4 (s1.2.1.map D5) none))),(13041,some (I2 s1.2.2))]:OL)) (fun(x:(Unit)⊕((List C5)×(List A2))) e E' O'=>match x with | (.inl _p)=>e = .ret∧Mat B E' O' ([(2,.nils),(3,(i6 1))]:EL) ([(500,some (.know (globD 0 (.imap gv0))))]:OL) | (.inr p121)=>e = .exit 0∧Mat B E' O' ([(4,(pt 1004)),(5,(.sref 3005 12 0 p121.1.length))]:EL) ([(500,some (.know (globD 0 (.imap gv0)))),(1004,some (.box 79 (.st [(.st [(i6 0),.nils,(.d (.st [(.bool false),(.int .u64 0),(.int .u64 0)])),(i6 0),(i6 0),(i6 0),.nils,.nils,.nils]),(.sref 13041 4 0 p121.2.length)]))),(3005,some (.reg (nrow 79 12 1 29 4 (p121.1.map D5) none))),(13041,some (I2 p121.2))]:OL)) hx184 (Mat.trans (Mat.beginG (n:=3005) (e:=79) (sz:=12) (j:=1) (e2:=29) (sz2:=4) (Ts:=[(5,(.sref 3005 12 0 0))]) (Bs:=[]) hB (by decide) (by decide) (by rfl) (by decide) (TwT.cons (x:=.nils) (by rfl) (Tw.leaf ⟨rfl,rfl⟩) TwT.nil) TwB.nil) (Mat.trans (Mat.beginP (n:=13041) (e:=29) (sz:=4) (Ts:=[]) (Bs:=[(1004,some (.box 79 (.st [(.st [(i6 0),.nils,(.d (.st [(.bool false),(.int .u64 0),(.int .u64 0)])),(i6 0),(i6 0),(i6 0),.nils,.nils,.nils]),(.sref 13041 4 0 0)])))]) hB (by decide) (by rfl) (by decide) TwT.nil (TwB.cons (x:=(.st [(.st [(i6 0),.nils,(.d (.st [(.bool false),(.int .u64 0),(.int .u64 0)])),(i6 0),(i6 0),(i6 0),.nils,.nils,.nils]),.nils])) (by rfl) (Tw.st (TwL.cons (Tw.same _) (TwL.cons (Tw.leaf ⟨rfl,rfl⟩) TwL.nil))) TwB.nil)) (mp [] _ _ hB))) (fun s1 y h => ?_) (fun e E' O' hR => ?_)
 ·unfold Y2 at h
  apply sr (c (lss (L rfl) (q 14) (q 13)) rfl cn)
  apply seq
  apply AWp.cond rfl<;>intro hg122
  ·have h:=A5 hg122 h
   apply AWp.skip
   apply A0
   apply seq
   refine AWp.cut h (fun m152:(List C5)×(List A2)=>([(0,(C3 a0)),(4,(pt 1004)),(5,(.sref 3005 12 0 m152.1.length)),(12,(C3 a0)),(13,(i6 (a0.length:Int))),(14,(i6 s1.1))]:EL)) (fun m152:(List C5)×(List A2)=>([(500,some (.know (globD 0 (.imap gv0)))),(1004,some (.box 79 (.st [(.st [(i6 0),.nils,(.d (.st [(.bool false),(.int .u64 0),(.int .u64 0)])),(i6 0),(i6 0),(i6 0),.nils,.nils,.nils]),(.sref 13041 4 0 m152.2.length)]))),(3005,some (.reg (nrow 79 12 1 29 4 (m152.1.map D5) none))),(13041,some (I2 m152.2))]:OL)) (fun m152 h E' O' hmat => ?_) (fun j153 hjj153 h => ?_)
   ·apply A0
    refine ghost hmat ?_
    apply rg (c (add6 (L rfl) (q 14) (ii 1)) rfl (c (mv hN (q 75)) rfl cn))
    obtain rfl:=oi h
    exact⟨rfl,(mp [] _ _ hB)⟩
   ·apply block
    obtain⟨x154,hx154,h⟩:=bindS h
    apply sr (c (mv hN (q 14)) rfl (c (indexD underlying22 tyS39 (B5 hx154).1 (F0 D6 (B5 hx154).2) (L rfl) (q 12) (q 14)) rfl (c (loadD tyS39 (by rfl) (by rfl) (L rfl) (q 17)) rfl (cg (alloc hB tyZ39 (nm:=1007) (by decide) (L rfl)) rfl (c (assign (L rfl) (q 16)) rfl (cg (sB tyS39 (q 7) (q 18)) rfl cn))))))
    apply seq
    apply seq
    refine AWp.cut h (fun m161:Bool=>([(0,(C3 a0)),(4,(pt 1004)),(5,(.sref 3005 12 0 s1.2.1.length)),(7,(pt 1007)),(12,(C3 a0)),(13,(i6 (a0.length:Int))),(14,(i6 s1.1)),(37,(bo m161))]:EL)) (fun m161:Bool=>([(500,some (.know (globD 0 (.imap gv0)))),(1004,some (.box 79 (.st [(.st [(i6 0),.nils,(.d (.st [(.bool false),(.int .u64 0),(.int .u64 0)])),(i6 0),(i6 0),(i6 0),.nils,.nils,.nils]),(.sref 13041 4 0 s1.2.2.length)]))),(1007,bd 39 (D6 x154)),(3005,some (.reg (nrow 79 12 1 29 4 (s1.2.1.map D5) none))),(13041,some (I2 s1.2.2))]:OL)) (fun m161 h E' O' hmat => ?_) (fun j162 hjj162 h => ?_)
    ·apply A0
     refine ghost hmat ?_
     apply AWp.cond rfl<;>intro hg163
     ·have h:=A5 hg163 h
      apply sr (c (assign (L rfl) Opd.nils) rfl (c (assign (L rfl) (ii 1)) rfl cn))
      apply ret
      apply B9
      apply D7
      apply B9
      obtain rfl:=oi h
      exact⟨(fun hc=>by cases hc),rfl,(mp [] _ _ hB)⟩
     ·have h:=A6 hg163 h
      apply AWp.skip
      apply A0
      apply seq
      apply sr (c (fo 1007 5 [2] hN underlying39 5 tyS4 (q 7)) rfl (c (la hN 39 tyS4 (q 38)) rfl (c (OpJ.not (L rfl) (q 39)) rfl cn)))
      apply AWp.cond rfl<;>intro hg164
      ·have h:=A5 hg164 h
       obtain⟨hc165,h⟩:=C0 h
       apply sr (c (fo 1004 11 [1] hN underlying79 11 tyS59 (q 4)) rfl (c (lb hN 79 _ (.sref 13041 4 0 s1.2.2.length) tyS59 (At.st1 (f:=(.sref 13041 4 0 s1.2.2.length)) (by rfl) (by rfl) (At.here _) (by first | rfl | omega)) (q 41)) rfl (c (fo 1007 1 [1] hN underlying39 1 tyS29 (q 7)) rfl (c (la hN 39 tyS29 (q 43)) rfl (c (buildSlice underlying59 tyS29 tyZD29 (by rfl) (by decide) (by decide) (Opds.cons (q 44) Opds.nil) (by kernel_rfl) (es:=([(B3 x154.fPrefix)]:List D)) (by rfl) (by rfl) (by kernel_rfl) (by simp) (L rfl)) rfl (cg (apd hB underlying59 tyE29 1046 B3 s1.2.2 [x154.fPrefix] hc165 (L rfl) (q 42) (q 45)) rfl (c (fo 1004 11 [1] hN underlying79 11 tyS59 (q 4)) rfl (cg (OpJ.storeB (c':=(.st [(.st [(i6 0),.nils,(.d (.st [(.bool false),(.int .u64 0),(.int .u64 0)])),(i6 0),(i6 0),(i6 0),.nils,.nils,.nils]),(.sref 1046 4 0 ((s1.2.2++[x154.fPrefix]).length))])) tyS59 (SetAt.st1 (f:=(.sref 13041 4 0 s1.2.2.length)) (by rfl) (by rfl) (SetAt.here _ _) (by rfl) (by rfl) (by first | rfl | omega)) (by rfl) (by rfl) (by simp) rfl (q 47) (q 46)) rfl cn))))))))
       refine gh [(0,_),(4,_),(5,_),(12,_),(13,_),(14,_)] [(500,some _),(1004,some _),(1046,some _),(3005,some _)] hB rfl rfl (by rfl) ?_
       apply AWp.exit
       apply E5
       apply C6
       exact hjj153 _ h _ _ (mp [(13041,1046)] _ _ hB)
      ·have h:=A6 hg164 h
       apply AWp.skip
       apply A0
       obtain⟨r166,hr166,h⟩:=bindS h
       apply sr (c (mv hN (q 5)) rfl (cg (OpJ.makeF (OpdL.cons (q 7) OpdL.nil) rfl rfl (L rfl)) rfl (cg (OpJ.peek [(3005,(.reg (nrow 79 12 1 29 4 (s1.2.1.map D5) none))),(1007,(.box 39 (.d (D6 x154))))] fnOk30 (A4l s1.2.1 x154 r166 hr166) rfl (L rfl) (by kernel_rfl) (OpdL.cons (q 48) (OpdL.cons (q 49) OpdL.nil)) (PkL.cons (Pk.reg (List.Mem.head _) (by simp)) (PkL.cons (Pk.fn (PkL.cons (Pk.box (List.Mem.tail _ (List.Mem.head _)) (Co.d _)) PkL.nil)) PkL.nil))) rfl (c (assign (L rfl) (q 50)) rfl cn))))
       apply seq
       apply sr (c (mv hN (q 8)) rfl (c (lss (L rfl) (q 51) (ii 0)) rfl cn))
       refine gh [(0,_),(4,_),(5,_),(7,_),(8,_),(12,_),(13,_),(14,_),(52,_)] [(500,some _),(1004,some _),(1007,some _),(3005,some _),(13041,some _)] hB rfl rfl (by rfl) ?_
       refine AWp.cut h (fun m169:Int×(List C5)=>([(0,(C3 a0)),(4,(pt 1004)),(5,(.sref 3005 12 0 m169.2.length)),(7,(pt 1007)),(8,(i6 m169.1)),(12,(C3 a0)),(13,(i6 (a0.length:Int))),(14,(i6 s1.1))]:EL)) (fun m169:Int×(List C5)=>([(500,some (.know (globD 0 (.imap gv0)))),(1004,some (.box 79 (.st [(.st [(i6 0),.nils,(.d (.st [(.bool false),(.int .u64 0),(.int .u64 0)])),(i6 0),(i6 0),(i6 0),.nils,.nils,.nils]),(.sref 13041 4 0 s1.2.2.length)]))),(1007,bd 39 (D6 x154)),(3005,some (.reg (nrow 79 12 1 29 4 (m169.2.map D5) none))),(13041,some (I2 s1.2.2))]:OL)) (fun m169 h E' O' hmat => ?_) (fun j170 hjj170 h => ?_)
       ·apply A0
        refine ghost hmat ?_
        obtain⟨_,hx171,h⟩:=bindS h
        obtain⟨x172,hx172,h⟩:=bindS h
        obtain⟨hc173,h⟩:=C0 h
        obtain⟨_,hx174,h⟩:=bindS h
        obtain⟨x175,hx175,h⟩:=bindS h
        apply dr (c (mv hN (q 5)) rfl (c (mv hN (q 8)) rfl (c (mv hN (q 5)) rfl (c (mv hN (q 8)) rfl (c (OpJ.val (v':=(.ptr 3005 (m169.1.toNat*12) [m169.1.toNat])) (by simp) (indexS underlying80 tyS79 (B5 hx171).1 (by have:=A6m hx171;first | (simpa using this) | ((try simp only [List.length_map] at this);(try simp only [List.length_map]);omega)) (L rfl) (q 64) (q 65))) rfl (c (ov (.ptr 3005 ((m169.1.toNat*12)+11) [m169.1.toNat,1]) (fp hN underlying79 11 tyS59 _ (q 66))) rfl (cg (OpJ.takeG hB (m:=1068) (e:=79) (sz:=12) (j:=1) (e2:=29) (sz2:=4) (len:=x172.fprefixes.length) (es:=m169.2.map D5) (pre:=([(A3 x172.fattrs)]:List D)) (inner:=x172.fprefixes.map B3) (post:=([]:List D)) tyS59 (by decide) (F0 D5 (B5 hx172).2) (by rfl) (o:=11) (by rfl) (by rfl) (by simp) (L rfl) (q 67)) rfl (c (fo 1007 1 [1] hN underlying39 1 tyS29 (q 7)) rfl (c (la hN 39 tyS29 (q 69)) rfl (c (buildSlice underlying59 tyS29 tyZD29 (by rfl) (by decide) (by decide) (Opds.cons (q 70) Opds.nil) (by kernel_rfl) (es:=([(B3 x154.fPrefix)]:List D)) (by rfl) (by rfl) (by kernel_rfl) (by simp) (L rfl)) rfl (cg (apd hB underlying59 tyE29 1072 B3 x172.fprefixes [x154.fPrefix] hc173 (L rfl) (q 68) (q 71)) rfl (c (OpJ.val (v':=(.ptr 3005 (m169.1.toNat*12) [m169.1.toNat])) (by simp) (indexS underlying80 tyS79 (B5 hx174).1 (by have:=A6m hx174;first | (simpa using this) | ((try simp only [List.length_map] at this);(try simp only [List.length_map]);omega)) (L rfl) (q 62) (q 63))) rfl (c (ov (.ptr 3005 ((m169.1.toNat*12)+11) [m169.1.toNat,1]) (fp hN underlying79 11 tyS59 _ (q 73))) rfl (cg (OpJ.putG (e:=79) (sz:=12) (j:=1) (e2:=29) (sz2:=4) (es:=m169.2.map D5) (es':=(m169.2.set m169.1.toNat (C5.mk x175.fattrs (x172.fprefixes++[x154.fPrefix]))).map D5) (pre:=([(A3 x175.fattrs)]:List D)) (inner0:=x175.fprefixes.map B3) (inner:=(x172.fprefixes++[x154.fPrefix]).map B3) (post:=([]:List D)) tyS59 (F0 D5 (B5 hx175).2) (A66 _ _ _ _) (by rfl) (o:=11) (by rfl) (by rfl) (by simp) (q 74) (q 72)) rfl cn)))))))))))))) (by kernel_rfl) (by kernel_rfl)
        apply E4
        exact hjj153 _ h _ _ (Mat.trans (mp [] [(0,(C3 a0)),(4,(pt 1004)),(5,(.sref 3005 12 0 m169.2.length)),(12,(C3 a0)),(13,(i6 (a0.length:Int))),(14,(i6 s1.1))] [(500,some (.know (globD 0 (.imap gv0)))),(1004,some (.box 79 (.st [(.st [(i6 0),.nils,(.d (.st [(.bool false),(.int .u64 0),(.int .u64 0)])),(i6 0),(i6 0),(i6 0),.nils,.nils,.nils]),(.sref 13041 4 0 s1.2.2.length)]))),(3005,some (.reg (nrow 79 12 1 29 4 ((m169.2.set m169.1.toNat (C5.mk x175.fattrs (x172.fprefixes++[x154.fPrefix]))).map D5) none))),(13041,some (I2 s1.2.2))] hB) (Mat.trans (Mat.lenP (Ts:=[(5,(.sref 3005 12 0 ((m169.2.set m169.1.toNat (C5.mk x175.fattrs (x172.fprefixes++[x154.fPrefix]))).length)))]) (Bs:=[]) (TwT.cons (x:=(.sref 3005 12 0 m169.2.length)) (by rfl) (Tw.leaf ⟨_,_,_,_,_,rfl,rfl,(by first | rfl | (simp;done) | (simp;omega) | omega)⟩) TwT.nil) TwB.nil) (mp [] _ _ hB)))
       ·apply AWp.cond rfl<;>intro hg176
        ·have h:=A5 hg176 h
         apply sr (c (mv hN (q 5)) rfl (c (lenS underlying80 (L rfl) (q 53)) rfl (c (assign (L rfl) (q 54)) rfl cn)))
         obtain⟨hc177,h⟩:=C0 h
         apply rg (c (mv hN (q 5)) rfl (c (fo 1007 6 [3] hN underlying39 6 tyS37 (q 7)) rfl (c (fo 1007 11 [3,2] hN underlying37 5 tyS35 (q 56)) rfl (c (lb hN 39 _ _ tyS35 (At.dst1 (by rfl) (by rfl) (ad _) (by first | rfl | omega)) (q 57)) rfl (c (OpJ.build (places:=[(0,11),(11,1)]) ⟨underlying79,fun w=>by kernel_rfl⟩ tyZS79 (Opds.cons (q 58) Opds.nil) (by kernel_rfl) (r:=(.st [(.d (A3 x154.fRoute.fAttrs)),.nils])) (by rfl) (L rfl)) rfl (cg (OpJ.buildSliceG (e:=79) (sz:=12) (j:=1) (e2:=29) (sz2:=4) (z:=(.st [(.st [(.int .i64 0),(.list 2 (([]:List B8).map C4)),(.st [(.bool false),(.int .u64 0),(.int .u64 0)]),(.int .i64 0),(.int .i64 0),(.int .i64 0),(.list 2 (([]:List B4).map B7)),(.list 3 (([]:List E6).map D8)),(.list 3 (([]:List A1).map A8))]),(.list 4 (([]:List A2).map B3))])) underlying80 tyS79 tyZD79 (by rfl) (by decide) (by decide) (by decide) hB (nm:=1060) (by decide) (pre:=([(A3 x154.fRoute.fAttrs)]:List D)) (post:=([]:List D)) (q 59) (by kernel_rfl) (es:=([(C5.mk x154.fRoute.fAttrs ([]:List A2))]:List C5).map D5) (by rfl) (by rfl) (by kernel_rfl) (L rfl)) rfl (cg (OpJ.appendG hB underlying80 tyE79 (nm:=1061) (by decide) (j:=1) (e2:=29) (sz2:=4) (es:=s1.2.1.map D5) (ys:=([(C5.mk x154.fRoute.fAttrs ([]:List A2))]:List C5).map D5) (es':=(s1.2.1++([(C5.mk x154.fRoute.fAttrs ([]:List A2))]:List C5)).map D5) (len:=(s1.2.1++([(C5.mk x154.fRoute.fAttrs ([]:List A2))]:List C5)).length) (by rfl) (by simp) (by simp) (by simp) (by rw [List.length_map];exact Y8 hc177 (by decide)) (by rw [List.length_map];exact A2c hc177) (L rfl) (by simp) (by simp) (q 55) (q 60)) rfl (c (assign (L rfl) (q 61)) rfl cn))))))))
         exact hjj170 _ h _ _ (mp [(3005,1061)] _ _ hB)
        ·have h:=A6 hg176 h
         apply AWp.skip
         exact hjj170 _ h _ _ (mp [] _ _ hB)
    ·obtain⟨r178,hr178,h⟩:=bindS h
     rcases bft (!r178) with hg179 | hg179
     ·have h:=A5 hg179 h
      refine AWp.draws (by kernel_rfl) (oc (lb hN 39 (.d (D6 x154)) (.d (D6 x154)) tyS39 (At.here _) (ot 7 (pt 1007)))
       (oc (OpJ.callFn hB fnOk28 (A3l x154 r178 hr178) [(500,500)] (by kernel_rfl) (L rfl) (by kernel_rfl) (OpdL.cons (ot 19 (.d (D6 x154))) OpdL.nil))
       (oc (OpJ.not (L rfl) (ot 20 (bo r178)))
       (oc (OpJ.val (v':=.d (.bool true)) (by rw [hg179]<;>rfl) (mv hN (ot 21 (bo (!r178)))))
       (oc (sU 22 (L rfl))
       (oc (sU 22 (L rfl))
       (oc (sU 22 (L rfl))
       (oc (sV 25 (L rfl))
       (oc (sV 25 (L rfl))
       (oc (sV 25 (L rfl))
       (oc (sV 25 (L rfl))
       (oc (sV 25 (L rfl))
       (oc (sV 25 (L rfl))
       (oc (sV 25 (L rfl))
       (oc (sV 25 (L rfl))
       (oc (sV 25 (L rfl))
       (oc (sV 25 (L rfl))
       (oc (sU 22 (L rfl))
       (oc (pickT (L rfl) (ot 22 (bo true)) (Opd.bool true))
       (OpJs.nil)))))))))))))))))))) (by kernel_rfl) (by rfl) (by rfl) ?_
      exact hjj162 _ h _ _ (mp [] _ _ hB)
     ·have h:=A6 hg179 h
      rcases bft (decide (0<s1.1)) with hg180 | hg180
      ·have h:=A5 hg180 h
       obtain⟨x181,hx181,h⟩:=bindS h
       obtain⟨r182,hr182,h⟩:=bindS h
       refine AWp.draws (by kernel_rfl) (oc (lb hN 39 (.d (D6 x154)) (.d (D6 x154)) tyS39 (At.here _) (ot 7 (pt 1007)))
        (oc (OpJ.callFn hB fnOk28 (A3l x154 r178 hr178) [(500,500)] (by kernel_rfl) (L rfl) (by kernel_rfl) (OpdL.cons (ot 19 (.d (D6 x154))) OpdL.nil))
        (oc (OpJ.not (L rfl) (ot 20 (bo r178)))
        (oc (OpJ.val (v':=.d (.bool false)) (by rw [hg179]<;>rfl) (mv hN (ot 21 (bo (!r178)))))
        (oc (gd 22 (mv hN (ot 6 (i6 s1.1))))
        (oc (gd 22 (gtr (L rfl) (ot 23 (i6 s1.1)) (ii 0)))
        (oc (gd 22 (OpJ.val (v':=.d (.bool true)) (by rw [hg180]<;>rfl) (mv hN (ot 24 (bo (decide (0<s1.1)))))))
        (oc (gd 25 (mv hN (ot 0 (C3 a0))))
        (oc (gd 25 (mv hN (ot 6 (i6 s1.1))))
        (oc (gd 25 (sub6 (L rfl) (ot 27 (i6 s1.1)) (ii 1)))
        (oc (gd 25 (indexD (el:=(D6 x181)) underlying22 tyS39 (B5 hx181).1 (F0 D6 (B5 hx181).2) (L rfl) (ot 26 (C3 a0)) (ot 28 (i6 (w64 (s1.1-1))))))
        (oc (gd 25 (fieldD underlying39 (by rfl) (o:=1) (by rfl) tyS29 (by decide) (ds:=[(.int .i64 x181.fTo),(B3 x181.fPrefix),(.bool x181.fHas),(A8r x181.fRoute)]) (e:=(B3 x181.fPrefix)) (by rfl) (by rfl) (L rfl) (ot 29 (.dptr (D6 x181)))))
        (oc (gd 25 (loadD tyS29 (by rfl) (by rfl) (L rfl) (ot 30 (.dptr (B3 x181.fPrefix)))))
        (oc (gd 25 (ov (.ptr 1007 1 [1]) (fp hN underlying39 1 tyS29 (.box 39 (.d (D6 x154))) (ot 7 (pt 1007)))))
        (oc (gd 25 (lb hN 39 (.d (D6 x154)) (.d (B3 x154.fPrefix)) tyS29 (ad (B3 x154.fPrefix)) (ot 32 (.ptr 1007 1 [1]))))
        (oc (gd 25 (cf hB fnOk29 (A9l x181.fPrefix x154.fPrefix r182 hr182) (L rfl) (OpdL.cons (ot 31 (.d (B3 x181.fPrefix))) (OpdL.cons (ot 33 (.d (B3 x154.fPrefix))) OpdL.nil))))
        (oc (gd 25 (geq (L rfl) (ot 34 (i6 r182)) (ii 0)))
        (oc (gd 22 (pickT (L rfl) (ot 25 (bo true)) (ot 35 (bo (decide (0≤r182))))))
        (oc (pickF (L rfl) (ot 22 (bo false)) (ot 36 (bo (decide (0≤r182)))))
        (OpJs.nil)))))))))))))))))))) (by kernel_rfl) (by rfl) (by rfl) ?_
       exact hjj162 _ h _ _ (mp [] _ _ hB)
      ·have h:=A6 hg180 h
       refine AWp.draws (by kernel_rfl) (oc (lb hN 39 (.d (D6 x154)) (.d (D6 x154)) tyS39 (At.here _) (ot 7 (pt 1007)))
        (oc (OpJ.callFn hB fnOk28 (A3l x154 r178 hr178) [(500,500)] (by kernel_rfl) (L rfl) (by kernel_rfl) (OpdL.cons (ot 19 (.d (D6 x154))) OpdL.nil))
        (oc (OpJ.not (L rfl) (ot 20 (bo r178)))
        (oc (OpJ.val (v':=.d (.bool false)) (by rw [hg179]<;>rfl) (mv hN (ot 21 (bo (!r178)))))
        (oc (gd 22 (mv hN (ot 6 (i6 s1.1))))
        (oc (gd 22 (gtr (L rfl) (ot 23 (i6 s1.1)) (ii 0)))
        (oc (gd 22 (OpJ.val (v':=.d (.bool false)) (by rw [hg180]<;>rfl) (mv hN (ot 24 (bo (decide (0<s1.1)))))))
        (oc (sU 25 (L rfl))
        (oc (sU 25 (L rfl))
        (oc (sU 25 (L rfl))
        (oc (sU 25 (L rfl))
        (oc (sU 25 (L rfl))
        (oc (sU 25 (L rfl))
        (oc (sU 25 (L rfl))
        (oc (sU 25 (L rfl))
        (oc (sU 25 (L rfl))
        (oc (sU 25 (L rfl))
        (oc (gd 22 (pickF (L rfl) (ot 25 (bo false)) (Opd.bool false)))
        (oc (pickF (L rfl) (ot 22 (bo false)) (ot 36 (bo false)))
        (OpJs.nil)))))))))))))))))))) (by kernel_rfl) (by rfl) (by rfl) ?_
       exact hjj162 _ h _ _ (mp [] _ _ hB)
  ·have h:=A6 hg122 h
   apply AWp.exit
   apply E5
   obtain rfl:=oi h
   exact⟨(fun hc=>by cases hc),rfl,(mp [] _ _ hB)⟩
 ·rcases x183 with _ | p121
  ·obtain⟨rfl,hmat⟩:=hR
   apply D7
   apply B9
   obtain rfl:=oi h
   exact rt (Mat.trans hmat (Mat.trans (Mat.coeP (Ts:=[(2,(E7 ([]:List A7)))]) (Bs:=[]) (TwT.cons (x:=.nils) (by rfl) (Tw.leaf ⟨_,(Co.nils 13),rfl⟩) TwT.nil) TwB.nil) (mp [] [(2,(E7 ([]:List A7))),(3,(i6 1))] [(500,some (.know (globD 0 (.imap gv0))))] hB))) [(E7 ([]:List A7)),(i6 1)] (rT (rT rN)) rfl
  ·obtain⟨rfl,hmat⟩:=hR
   apply C6
   apply A0
   refine ghost hmat ?_
   apply seq
   refine ghost (Mat.freezeP (n:=13041) (e:=29) (sz:=4) (es:=p121.2.map B3) (Ts:=[]) (Bs:=[(1004,some (.box 79 (.st [(.st [(i6 0),.nils,(.d (.st [(.bool false),(.int .u64 0),(.int .u64 0)])),(i6 0),(i6 0),(i6 0),.nils,.nils,.nils]),(E0 p121.2)])))]) (by rfl) TwT.nil (TwB.cons (x:=(.st [(.st [(i6 0),.nils,(.d (.st [(.bool false),(.int .u64 0),(.int .u64 0)])),(i6 0),(i6 0),(i6 0),.nils,.nils,.nils]),(.sref 13041 4 0 p121.2.length)])) (by rfl) (Tw.st (TwL.cons (Tw.same _) (TwL.cons (FrzL.all (by first | rfl | (simp;done) | (simp;omega) | omega)) TwL.nil))) TwB.nil)) ?_
   obtain⟨r185,hr185,h⟩:=bindS h
   refine AWp.region (oc (lb hN 79 (.st [(.st [(i6 0),.nils,(.d (.st [(.bool false),(.int .u64 0),(.int .u64 0)])),(i6 0),(i6 0),(i6 0),.nils,.nils,.nils]),(E0 p121.2)]) (.st [(.st [(i6 0),.nils,(.d (.st [(.bool false),(.int .u64 0),(.int .u64 0)])),(i6 0),(i6 0),(i6 0),.nils,.nils,.nils]),(E0 p121.2)]) tyS79 (At.here _) (ot 4 (pt 1004)))
    (oc (OpJ.callFn hB fnOk33 (A6w (C5.mk (D1.mk 0 ([]:List B8) (D3.mk false 0 0) 0 0 0 ([]:List B4) ([]:List E6) ([]:List A1)) p121.2) false r185 hr185) [(500,500),(900000,100300)] (by kernel_rfl) (L rfl) (by kernel_rfl) (OpdL.cons (Opd.tw (ot 76 (.st [(.st [(i6 0),.nils,(.d (.st [(.bool false),(.int .u64 0),(.int .u64 0)])),(i6 0),(i6 0),(i6 0),.nils,.nils,.nils]),(E0 p121.2)])) (Tw.leaf ⟨_,(Co.st (CoL.cons (Co.st (CoL.cons (Co.d _) (CoL.cons (Co.nils 2) (CoL.cons (Co.d _) (CoL.cons (Co.d _) (CoL.cons (Co.d _) (CoL.cons (Co.d _) (CoL.cons (Co.nils 2) (CoL.cons (Co.nils 3) (CoL.cons (Co.nils 3) CoL.nil)))))))))) (CoL.cons (Co.d _) CoL.nil))),rfl⟩)) (OpdL.cons (Opd.bool false) OpdL.nil)))
    (oc (assign (L rfl) (ot 77 (.sref 100300 13 0 r185.length)))
    (OpJs.nil)))) (by rfl) (by rfl) ?_
   apply A0
   refine ghost (mp [] [(5,(.sref 3005 12 0 p121.1.length)),(9,(.sref 100300 13 0 r185.length))] [(500,some (.know (globD 0 (.imap gv0)))),(3005,some (.reg (nrow 79 12 1 29 4 (p121.1.map D5) none))),(100300,some (C7 r185))] hB) ?_
   apply seq
   apply sr (c (mv hN (q 5)) rfl (c (lenS underlying80 (L rfl) (q 78)) rfl (c (mv hN (ii 0)) rfl cn)))
   apply block
   obtain⟨p196,hx202,h⟩:=bindS h
   refine lg (A0x p121) (fun s186:Int×(List A7)=>([(9,(.sref 3009 13 0 s186.2.length)),(78,(.d (.list 12 (p121.1.map D5)))),(79,(i6 (p121.1.length:Int))),(80,(i6 s186.1))]:EL)) (fun s186:Int×(List A7)=>([(500,some (.know (globD 0 (.imap gv0)))),(3009,some (C7 s186.2))]:OL)) (fun(p196:((List A7))) e E' O'=>e = .exit 2∧Mat B E' O' ([(9,(.sref 3009 13 0 p196.length))]:EL) ([(500,some (.know (globD 0 (.imap gv0)))),(3009,some (C7 p196))]:OL)) hx202 (Mat.trans (Mat.freezeG (n:=3005) (e:=79) (sz:=12) (j:=1) (e2:=29) (sz2:=4) (es:=p121.1.map D5) (Ts:=[(78,(.d (.list 12 (p121.1.map D5))))]) (Bs:=[]) (by rfl) (TwT.cons (x:=(.sref 3005 12 0 p121.1.length)) (by rfl) (FrzL.all (by first | rfl | (simp;done) | (simp;omega) | omega)) TwT.nil) TwB.nil) (mp [(3009,100300)] _ _ hB)) (fun s186 y h => ?_) (fun e E' O' hR => ?_)
   ·unfold A0x at h
    apply sr (c (lss (L rfl) (q 80) (q 79)) rfl cn)
    apply seq
    apply AWp.cond rfl<;>intro hg197
    ·have h:=A5 hg197 h
     apply AWp.skip
     apply A0
     apply seq
     apply block
     obtain⟨x198,hx198,h⟩:=bindS h
     apply sr (c (indexD underlying80 tyS79 (B5 hx198).1 (F0 D5 (B5 hx198).2) (L rfl) (q 78) (q 80)) rfl (c (loadD tyS79 (by rfl) (by rfl) (L rfl) (q 82)) rfl (cg (alloc hB tyZ79 (nm:=1011) (by decide) (L rfl)) rfl (cg (sB tyS79 (q 11) (q 83)) rfl cn))))
     obtain⟨r199,hr199,h⟩:=bindS h
     obtain⟨hc200,h⟩:=C0 h
     refine AWp.region (oc (mv hN (ot 9 (.sref 3009 13 0 s186.2.length)))
      (oc (lb hN 79 (.d (D5 x198)) (.d (D5 x198)) tyS79 (At.here _) (ot 11 (pt 1011)))
      (oc (OpJ.callFn hB fnOk33 (A8w x198 true r199 hr199) [(500,500)] (by kernel_rfl) (L rfl) (by kernel_rfl) (OpdL.cons (ot 85 (.d (D5 x198))) (OpdL.cons (Opd.bool true) OpdL.nil)))
      (oc (apd hB underlying47 tyE61 1087 D4 s186.2 r199 hc200 (L rfl) (ot 84 (.sref 3009 13 0 s186.2.length)) (ot 86 (E7 r199)))
      (oc (assign (L rfl) (ot 87 (.sref 1087 13 0 ((s186.2++r199).length))))
      (OpJs.nil)))))) (by rfl) (by rfl) ?_
     apply E4
     apply A0
     refine ghost (mp [] [(9,(.sref 1087 13 0 ((s186.2++r199).length))),(78,(.d (.list 12 (p121.1.map D5)))),(79,(i6 (p121.1.length:Int))),(80,(i6 s186.1))] [(500,some (.know (globD 0 (.imap gv0)))),(1087,some (C7 (s186.2++r199)))] hB) ?_
     apply rg (c (add6 (L rfl) (q 80) (ii 1)) rfl (c (mv hN (q 88)) rfl cn))
     obtain rfl:=oi h
     exact⟨rfl,(mp [(3009,1087)] _ _ hB)⟩
    ·have h:=A6 hg197 h
     apply AWp.exit
     apply E5
     obtain rfl:=oi h
     exact⟨(fun hc=>by cases hc),rfl,(mp [] _ _ hB)⟩
   ·obtain⟨rfl,hmat⟩:=hR
    apply C6
    apply A0
    refine ghost hmat ?_
    apply sr (c (mv hN (q 9)) rfl (c (assign (L rfl) (q 89)) rfl (c (assign (L rfl) (ii 0)) rfl cn)))
    apply ret
    obtain rfl:=oi h
    exact rt (Mat.trans (Mat.freezeP (n:=3009) (e:=61) (sz:=13) (es:=p196.map D4) (Ts:=[(2,(E7 p196))]) (Bs:=[]) (by rfl) (TwT.cons (x:=(.sref 3009 13 0 p196.length)) (by rfl) (FrzL.all (by first | rfl | (simp;done) | (simp;omega) | omega)) TwT.nil) TwB.nil) (mp [] [(2,(E7 p196)),(3,(i6 0))] [(500,some (.know (globD 0 (.imap gv0))))] hB)) [(E7 p196),(i6 0)] (rT (rT rN)) rfl
def A0y (a0:(List B8)):Option (Int×Bool) :=
 jn (fun m5:Bool =>
 (if m5=true then
 some (0,false)
 else
 (idx a0 0).bind fun x8 =>
 (idx x8.fASNs 0).bind fun x9 =>
 some (x9,true))) (fun j6 =>
 (if ((a0.length:Int)==0)=true then
 j6 true
 else
 (P4 a0).bind fun r11 =>
 (if (!r11)=true then
 j6 true
 else
 (idx a0 0).bind fun x13 =>
 j6 x13.fSet)))
theorem A7v (a0:(List B8)) (r:Int×Bool) (h:A0y a0=some r):AC Tryz.prog 39 [(.d (.list 2 (a0.map C4)))] [] (.tup [(.d (.int .i64 r.1)),(.d (.bool r.2))]) []:=by
 refine ac2 Tryz.func39 rfl rfl fun B hB hN L => ?_
 delta A0y at h
 refine sr (SQ tt) ?_
 apply seq
 apply seq
 refine AWp.cut h (fun m5:Bool=>([(0,(B0 a0)),(17,(bo m5))]:EL)) (fun m5:Bool=>([]:OL)) (fun m5 h E' O' hmat => ?_) (fun j6 hjj6 h => ?_)
 ·apply A0
  refine ghost hmat ?_
  apply AWp.cond rfl<;>intro hg7
  ·have h:=A5 hg7 h
   refine sr (SQ tt) ?_
   apply ret
   apply B9
   obtain rfl:=oi h
   exact rt (kp [(2,_),(3,_)] [] hB rfl rfl (by rfl)) [(i6 0),(bo false)] (rT (rT rN)) rfl
  ·have h:=A6 hg7 h
   apply AWp.skip
   apply A0
   obtain⟨_,hx8,h⟩:=bindS h
   obtain⟨x9,hx9,h⟩:=bindS h
   refine sr (SQ (fa hx8 (fa hx9 tt))) ?_
   apply ret
   obtain rfl:=oi h
   exact rt (kp [(2,_),(3,_)] [] hB rfl rfl (by rfl)) [(i6 x9),(bo true)] (rT (rT rN)) rfl
 ·rcases bft ((a0.length:Int)==0) with hg10 | hg10
  ·have h:=A5 hg10 h
   refine rg (SQ (fa hg10 tt)) ?_
   exact hjj6 _ h _ _ (mp [] _ _ hB)
  ·have h:=A6 hg10 h
   obtain⟨r11,hr11,h⟩:=bindS h
   rcases bft (!r11) with hg12 | hg12
   ·have h:=A5 hg12 h
    refine rg (SQ (fa hg10 (fa (cl [] (F6 a0 r11 hr11)) (fa hg12 tt)))) ?_
    exact hjj6 _ h _ _ (mp [] _ _ hB)
   ·have h:=A6 hg12 h
    obtain⟨_,hx13,h⟩:=bindS h
    refine rg (SQ (fa hg10 (fa (cl [] (F6 a0 r11 hr11)) (fa hg12 (fa hx13 tt))))) ?_
    exact hjj6 _ h _ _ (mp [] _ _ hB)
def R2 (a1:Int) (x72:A7) (s73:Int×(List C2)):Option ((((List C2)))⊕(Int×(List C2))) :=
 (if (decide (s73.1<(x72.fWithdraw.length:Int)))=true then
 (idx x72.fWithdraw s73.1).bind fun x82 =>
 chk (decide ((s73.2++([(C2.mk a1 x82 false (V7.mk (A2.mk (D3.mk false 0 0) 0) 0 (D1.mk 0 ([]:List B8) (D3.mk false 0 0) 0 0 0 ([]:List B4) ([]:List E6) ([]:List A1))))]:List C2)).length≤LIM)) <|
 some (.inr ((w64 (s73.1+1)),(s73.2++([(C2.mk a1 x82 false (V7.mk (A2.mk (D3.mk false 0 0) 0) 0 (D1.mk 0 ([]:List B8) (D3.mk false 0 0) 0 0 0 ([]:List B4) ([]:List E6) ([]:List A1))))]:List C2))))
 else
 some (.inl s73.2))
def A0z (a1:Int) (x72:A7) (r86:Int×Bool) (s87:Int×(List C2)):Option ((((List C2)))⊕(Int×(List C2))) :=
 (if (decide (s87.1<(x72.fAnnounce.length:Int)))=true then
 (idx x72.fAnnounce s87.1).bind fun x98 =>
 (A0b x72.fAttrs).bind fun r99 =>
 chk (decide ((s87.2++[(C2.mk a1 x98 true (V7.mk x98 r86.1 r99))]).length≤LIM)) <|
 some (.inr ((w64 (s87.1+1)),(s87.2++[(C2.mk a1 x98 true (V7.mk x98 r86.1 r99))])))
 else
 some (.inl s87.2))
def W7 (a0:(List A7)) (a1:Int) (s1:Int×(List C2)):Option ((((List C2)))⊕(Int×(List C2))) :=
 (if (decide (s1.1<(a0.length:Int)))=true then
 (idx a0 s1.1).bind fun x72 =>
 (loop (R2 a1 x72) (0,s1.2)).bind fun p80 =>
 (A0y x72.fAttrs.fPath).bind fun r86 =>
 (loop (A0z a1 x72 r86) (0,p80)).bind fun p96 =>
 some (.inr ((w64 (s1.1+1)),p96))
 else
 some (.inl s1.2))
def A1s (a0:(List A7)) (a1:Int):Option ((List C2)) :=
 (loop (W7 a0 a1) (0,([]:List C2))).bind fun p70 =>
 some p70
theorem A8x (a0:(List A7)) (a1:Int) (r:(List C2)) (h:A1s a0 a1=some r):AC Tryz.prog 16 [(.d (.list 13 (a0.map D4))),(.d (.int .i64 a1))] [] (.d (.list 22 (r.map D6))) []:=by
 refine ac2 Tryz.func16 rfl rfl fun B hB hN L => ?_
 delta A1s at h
 refine sr (SQ tt) ?_
 refine sr (SQ tt) ?_
 apply seq
 refine sr (SQ tt) ?_
 apply block
 obtain⟨p70,hx104,h⟩:=bindS h
 refine lg (W7 a0 a1) (fun s1:Int×(List C2)=>([(1,(i6 a1)),(5,(.sref 3005 22 0 s1.2.length)),(14,(E7 a0)),(15,(i6 (a0.length:Int))),(16,(i6 s1.1))]:EL)) (fun s1:Int×(List C2)=>([(3005,some (G1 s1.2))]:OL)) (fun(p70:((List C2))) e E' O'=>e = .exit 0∧Mat B E' O' ([(5,(.sref 3005 22 0 p70.length))]:EL) ([(3005,some (G1 p70))]:OL)) hx104 (Mat.trans (Mat.beginP (n:=3005) (e:=39) (sz:=22) (Ts:=[(5,(.sref 3005 22 0 0))]) (Bs:=[]) hB (by decide) (by rfl) (by decide) (TwT.cons (x:=.nils) (by rfl) (Tw.leaf ⟨rfl,rfl⟩) TwT.nil) TwB.nil) (mp [] _ _ hB)) (fun s1 y h => ?_) (fun e E' O' hR => ?_)
 ·unfold W7 at h
  refine sr (SQ tt) ?_
  apply seq
  apply AWp.cond rfl<;>intro hg71
  ·have h:=A5 hg71 h
   apply AWp.skip
   apply A0
   apply seq
   apply block
   obtain⟨x72,hx72,h⟩:=bindS h
   refine sr (SQ (fa hx72 tt)) ?_
   apply seq
   refine sr (SQ tt) ?_
   apply block
   obtain⟨p80,hx85,h⟩:=bindS h
   refine lg (R2 a1 x72) (fun s73:Int×(List C2)=>([(1,(i6 a1)),(5,(.sref 3005 22 0 s73.2.length)),(7,(pt 1007)),(14,(E7 a0)),(15,(i6 (a0.length:Int))),(16,(i6 s1.1)),(21,(E0 x72.fWithdraw)),(22,(i6 (x72.fWithdraw.length:Int))),(23,(i6 s73.1))]:EL)) (fun s73:Int×(List C2)=>([(1007,bd 61 (D4 x72)),(3005,some (G1 s73.2))]:OL)) (fun(p80:((List C2))) e E' O'=>e = .exit 2∧Mat B E' O' ([(1,(i6 a1)),(5,(.sref 3005 22 0 p80.length)),(7,(pt 1007)),(14,(E7 a0)),(15,(i6 (a0.length:Int))),(16,(i6 s1.1))]:EL) ([(1007,bd 61 (D4 x72)),(3005,some (G1 p80))]:OL)) hx85 (mp [] _ _ hB) (fun s73 y h => ?_) (fun e E' O' hR => ?_)
   ·unfold R2 at h
    refine sr (SQ tt) ?_
    apply seq
    apply AWp.cond rfl<;>intro hg81
    ·have h:=A5 hg81 h
     apply AWp.skip
     apply A0
     apply seq
     apply block
     obtain⟨_,hx82,h⟩:=bindS h
     refine sr (SQ (fa hx82 tt)) ?_
     obtain⟨hc83,h⟩:=C0 h
     refine rg (SQ (fa hc83 tt)) ?_
     apply E4
     apply A0
     refine rg (SQ tt) ?_
     obtain rfl:=oi h
     exact⟨rfl,(mp [(3005,1032)] _ _ hB)⟩
    ·have h:=A6 hg81 h
     apply AWp.exit
     apply E5
     obtain rfl:=oi h
     exact⟨(fun hc=>by cases hc),rfl,(mp [] _ _ hB)⟩
   ·obtain⟨rfl,hmat⟩:=hR
    apply C6
    apply A0
    refine ghost hmat ?_
    obtain⟨r86,hr86,h⟩:=bindS h
    refine sr (SQ (fa (cl [] (A7v x72.fAttrs.fPath r86 hr86)) tt)) ?_
    refine sr (SQ tt) ?_
    apply block
    obtain⟨p96,hx102,h⟩:=bindS h
    refine lg (A0z a1 x72 r86) (fun s87:Int×(List C2)=>([(1,(i6 a1)),(5,(.sref 3005 22 0 s87.2.length)),(7,(pt 1007)),(10,(i6 r86.1)),(14,(E7 a0)),(15,(i6 (a0.length:Int))),(16,(i6 s1.1)),(42,(E0 x72.fAnnounce)),(43,(i6 (x72.fAnnounce.length:Int))),(44,(i6 s87.1))]:EL)) (fun s87:Int×(List C2)=>([(1007,bd 61 (D4 x72)),(3005,some (G1 s87.2))]:OL)) (fun(p96:((List C2))) e E' O'=>e = .exit 4∧Mat B E' O' ([(1,(i6 a1)),(5,(.sref 3005 22 0 p96.length)),(14,(E7 a0)),(15,(i6 (a0.length:Int))),(16,(i6 s1.1))]:EL) ([(3005,some (G1 p96))]:OL)) hx102 (mp [] _ _ hB) (fun s87 y h => ?_) (fun e E' O' hR => ?_)
    ·unfold A0z at h
     refine sr (SQ tt) ?_
     apply seq
     apply AWp.cond rfl<;>intro hg97
     ·have h:=A5 hg97 h
      apply AWp.skip
      apply A0
      apply seq
      apply block
      obtain⟨_,hx98,h⟩:=bindS h
      refine sr (SQ (fa hx98 tt)) ?_
      obtain⟨r99,hr99,h⟩:=bindS h
      obtain⟨hc100,h⟩:=C0 h
      refine drS (SQ (fa (cl [] (A4z x72.fAttrs r99 hr99)) (fa hc100 tt))) ?_
      apply E4
      apply A0
      refine rg (SQ tt) ?_
      obtain rfl:=oi h
      exact⟨rfl,(mp [(3005,1059)] _ _ hB)⟩
     ·have h:=A6 hg97 h
      apply AWp.exit
      apply E5
      obtain rfl:=oi h
      exact⟨(fun hc=>by cases hc),rfl,(mp [] _ _ hB)⟩
    ·obtain⟨rfl,hmat⟩:=hR
     apply C6
     apply E4
     apply A0
     refine ghost hmat ?_
     refine rg (SQ tt) ?_
     obtain rfl:=oi h
     exact⟨rfl,(mp [] _ _ hB)⟩
  ·have h:=A6 hg71 h
   apply AWp.exit
   apply E5
   obtain rfl:=oi h
   exact⟨(fun hc=>by cases hc),rfl,(mp [] _ _ hB)⟩
 ·obtain⟨rfl,hmat⟩:=hR
  apply C6
  apply A0
  refine ghost hmat ?_
  refine sr (SQ tt) ?_
  apply ret
  obtain rfl:=oi h
  exact rt (Mat.trans (Mat.freezeP (n:=3005) (e:=39) (sz:=22) (es:=p70.map D6) (Ts:=[(4,(C3 p70))]) (Bs:=[]) (by rfl) (TwT.cons (x:=(.sref 3005 22 0 p70.length)) (by rfl) (FrzL.all (by first | rfl | (simp;done) | (simp;omega) | omega)) TwT.nil) TwB.nil) (mp [] [(4,(C3 p70))] [] hB)) [(C3 p70)] (rT rN) rfl
def A10:Option (Bool) :=
 (A1g ([(C2.mk 0 (A2.mk (D3.mk false 0 167772160) 8) false (V7.mk (A2.mk (D3.mk false 0 0) 0) 0 (D1.mk 0 ([]:List B8) (D3.mk false 0 0) 0 0 0 ([]:List B4) ([]:List E6) ([]:List A1)))),(C2.mk 0 (A2.mk (D3.mk false 0 184549376) 8) false (V7.mk (A2.mk (D3.mk false 0 0) 0) 0 (D1.mk 0 ([]:List B8) (D3.mk false 0 0) 0 0 0 ([]:List B4) ([]:List E6) ([]:List A1))))]:List C2)).bind fun r1 =>
 (A1s r1.1 7).bind fun r2 =>
 jn (fun m9:Bool =>
 some m9) (fun j10 =>
 (if (((r1.2==0)&&((r1.1.length:Int)==1))&&((r2.length:Int)==2))=true then
 (idx r2 1).bind fun x12 =>
 (if (x12.fTo==7)=true then
 (idx r2 1).bind fun x14 =>
 (if (((x14.fPrefix.fAddr.fV6==false)&&((x14.fPrefix.fAddr.fHi==0)&&((x14.fPrefix.fAddr.fLo==184549376)&&true)))&&((x14.fPrefix.fLen==8)&&true))=true then
 (idx r2 1).bind fun x16 =>
 j10 (!x16.fHas)
 else
 j10 false)
 else
 j10 false)
 else
 j10 false))
theorem A7w (r:Bool) (h:A10=some r):AC Tryz.prog 7 [] [(500,(.know (globD 0 (.imap gv0))))] (.d (.bool r)) [(500,some (.know (globD 0 (.imap gv0))))]:=by
 refine ac2 Tryz.func7 rfl rfl fun B hB hN L => ?_
 delta A10 at h
 refine sr (SQ tt) ?_
 refine sr (SQ tt) ?_
 apply seq
 obtain⟨r1,hr1,h⟩:=bindS h
 refine rg (SQ (fa (cl [(500,500)] (A6d ([(C2.mk 0 (A2.mk (D3.mk false 0 167772160) 8) false (V7.mk (A2.mk (D3.mk false 0 0) 0) 0 (D1.mk 0 ([]:List B8) (D3.mk false 0 0) 0 0 0 ([]:List B4) ([]:List E6) ([]:List A1)))),(C2.mk 0 (A2.mk (D3.mk false 0 184549376) 8) false (V7.mk (A2.mk (D3.mk false 0 0) 0) 0 (D1.mk 0 ([]:List B8) (D3.mk false 0 0) 0 0 0 ([]:List B4) ([]:List E6) ([]:List A1))))]:List C2) r1 hr1)) tt)) ?_
 apply A0
 refine ghost (mp [] [(2,(pt 1002)),(3,(E7 r1.1)),(4,(i6 r1.2))] [(500,some (.know (globD 0 (.imap gv0)))),(1002,bd 29 (.st [(.st [(.bool false),(.int .u64 0),(.int .u64 184549376)]),(.int .i64 8)]))] hB) ?_
 obtain⟨r2,hr2,h⟩:=bindS h
 refine sr (SQ (fa (cl [] (A8x r1.1 7 r2 hr2)) tt)) ?_
 apply seq
 refine AWp.cut h (fun m9:Bool=>([(0,(bo m9))]:EL)) (fun m9:Bool=>([(500,some (.know (globD 0 (.imap gv0))))]:OL)) (fun m9 h E' O' hmat => ?_) (fun j10 hjj10 h => ?_)
 ·apply A0
  refine ghost hmat ?_
  apply ret
  obtain rfl:=oi h
  exact rt (kp [(0,_)] [(500,some _)] hB rfl rfl (by rfl)) [(bo m9)] (rT rN) rfl
 ·rcases bft (((r1.2==0)&&((r1.1.length:Int)==1))&&((r2.length:Int)==2)) with hg11 | hg11
  ·have h:=A5 hg11 h
   obtain⟨x12,hx12,h⟩:=bindS h
   rcases bft (x12.fTo==7) with hg13 | hg13
   ·have h:=A5 hg13 h
    obtain⟨x14,hx14,h⟩:=bindS h
    rcases bft (((x14.fPrefix.fAddr.fV6==false)&&((x14.fPrefix.fAddr.fHi==0)&&((x14.fPrefix.fAddr.fLo==184549376)&&true)))&&((x14.fPrefix.fLen==8)&&true)) with hg15 | hg15
    ·have h:=A5 hg15 h
     obtain⟨_,hx16,h⟩:=bindS h
     refine drS (SQ (fa hg11 (fa hx12 (fa hg13 (fa hx14 (fa hg15 (fa hx16 tt))))))) ?_
     exact hjj10 _ h _ _ (mp [] _ _ hB)
    ·have h:=A6 hg15 h
     refine drS (SQ (fa hg11 (fa hx12 (fa hg13 (fa hx14 (fa hg15 tt)))))) ?_
     exact hjj10 _ h _ _ (mp [] _ _ hB)
   ·have h:=A6 hg13 h
    refine drS (SQ (fa hg11 (fa hx12 (fa hg13 tt)))) ?_
    exact hjj10 _ h _ _ (mp [] _ _ hB)
  ·have h:=A6 hg11 h
   refine drS (SQ (fa hg11 tt)) ?_
   exact hjj10 _ h _ _ (mp [] _ _ hB)
def K6 (a0:(List Int)):Option (C1) :=
 some (C1.mk a0 0)
theorem A3n (a0:(List Int)) (r:C1) (h:K6 a0=some r):AC Tryz.prog 9 [(.d (.list 1 (a0.map (eI .i64))))] [] (pt 1005) [(1005,bd 71 (E8 r))]:=by
 refine AC.of_code2 Tryz.func9 rfl rfl (Nat.le_of_ble_eq_true (by rfl)) fun B hB hN => ?_
 delta K6 at h
 refine sr (SQ tt) ?_
 refine sr (SQ tt) ?_
 apply ret
 obtain rfl:=oi h
 exact rt (kp [(2,_)] [(1005,some _)] hB rfl rfl (by rfl)) [(pt 1005)] (rT rN) rfl
def G8 (a0:Int) (a1:Int):Option (Int) :=
 chk (decide (a1≠0)) <|
 jn (fun m3:Int =>
 some m3) (fun j4 =>
 (if (decide ((Int.tmod a0 a1)<0))=true then
 j4 (w64 ((Int.tmod a0 a1)+a1))
 else
 j4 (Int.tmod a0 a1)))
theorem Z6 (a0:Int) (a1:Int) (r:Int) (h:G8 a0 a1=some r):AC Tryz.prog 11 [(.d (.int .i64 a0)),(.d (.int .i64 a1))] [] (.d (.int .i64 r)) []:=by
 refine AC.of_code2 Tryz.func11 rfl rfl (Nat.le_of_ble_eq_true (by rfl)) fun B hB hN => ?_
 delta G8 at h
 refine sr (SQ tt) ?_
 obtain⟨hc1,h⟩:=C0 h
 refine sr (SQ (fa hc1 tt)) ?_
 apply seq
 refine sr (SQ tt) ?_
 refine gh [(1,_),(5,_),(10,_)] [] hB rfl rfl (by rfl) ?_
 refine AWp.cut h (fun m3:Int=>([(5,(i6 m3))]:EL)) (fun m3:Int=>([]:OL)) (fun m3 h E' O' hmat => ?_) (fun j4 hjj4 h => ?_)
 ·apply A0
  refine ghost hmat ?_
  refine sr (SQ tt) ?_
  apply ret
  obtain rfl:=oi h
  exact rt (kp [(4,_)] [] hB rfl rfl (by rfl)) [(i6 m3)] (rT rN) rfl
 ·apply AWp.cond rfl<;>intro hg5
  ·have h:=A5 hg5 h
   refine rg (SQ tt) ?_
   exact hjj4 _ h _ _ (mp [] _ _ hB)
  ·have h:=A6 hg5 h
   apply AWp.skip
   exact hjj4 _ h _ _ (mp [] _ _ hB)
def F8 (a0:C1) (a1:Int):Option (Int×C1) :=
 (if (decide ((a0.fL.length:Int)≤a0.fAt))=true then
 some (0,a0)
 else
 (idx a0.fL (w64 ((w64 (a0.fAt+1))-1))).bind fun x2 =>
 (G8 x2 a1).bind fun r3 =>
 some (r3,(C1.mk a0.fL (w64 (a0.fAt+1)))))
theorem R3 (a0:C1) (a1:Int) (r:Int×C1) (h:F8 a0 a1=some r):AC Tryz.prog 24 [(pt 0),(.d (.int .i64 a1))] [(0,(.box 71 (.d (E8 a0))))] (.d (.int .i64 r.1)) [(0,bd 71 (E8 r.2))]:=by
 refine ac2 Tryz.func24 rfl rfl fun B hB hN L => ?_
 delta F8 at h
 refine sr (SQ tt) ?_
 apply seq
 refine sdS (SQ tt) ?_
 apply AWp.cond rfl<;>intro hg1
 ·have h:=A5 hg1 h
  refine sr (SQ tt) ?_
  apply ret
  apply B9
  obtain rfl:=oi h
  exact rt (kp [(4,_)] [(0,some _)] hB rfl rfl (by rfl)) [(i6 0)] (rT rN) rfl
 ·have h:=A6 hg1 h
  apply AWp.skip
  apply A0
  refine sr (SQ tt) ?_
  obtain⟨x2,hx2,h⟩:=bindS h
  obtain⟨r3,hr3,h⟩:=bindS h
  refine sdS (SQ (fa hx2 (fa (cl [] (Z6 x2 a1 r3 hr3)) tt))) ?_
  apply ret
  obtain rfl:=oi h
  exact rt (kp [(4,_)] [(0,some _)] hB rfl rfl (by rfl)) [(i6 r3)] (rT rN) rfl
def Y3:Option (D1) :=
 some (D1.mk (-1) ([]:List B8) (D3.mk false 0 0) (-1) (-1) (-1) ([]:List B4) ([]:List E6) ([]:List A1))
theorem A25 (r:D1) (h:Y3=some r):AC Tryz.prog 25 [] [] (.d (A3 r)) []:=by
 refine AC.of_code2 Tryz.func25 rfl rfl (Nat.le_of_ble_eq_true (by rfl)) fun B hB hN => ?_
 delta Y3 at h
 refine sr (SQ tt) ?_
 refine sr (SQ tt) ?_
 apply ret
 obtain rfl:=oi h
 exact rt (Mat.trans (Mat.coeP (Ts:=[]) (Bs:=[(1000,bd 35 (.st [(.int .i64 (-1)),(.list 2 (([]:List B8).map C4)),(.st [(.bool false),(.int .u64 0),(.int .u64 0)]),(.int .i64 (-1)),(.int .i64 (-1)),(.int .i64 (-1)),(.list 2 (([]:List B4).map B7)),(.list 3 (([]:List E6).map D8)),(.list 3 (([]:List A1).map A8))]))]) TwT.nil (TwB.cons (x:=(.st [(i6 (-1)),.nils,(.d (.st [(.bool false),(.int .u64 0),(.int .u64 0)])),(i6 (-1)),(i6 (-1)),(i6 (-1)),.nils,.nils,.nils])) (by rfl) (Tw.leaf ⟨_,(Co.st (CoL.cons (Co.d _) (CoL.cons (Co.nils 2) (CoL.cons (Co.d _) (CoL.cons (Co.d _) (CoL.cons (Co.d _) (CoL.cons (Co.d _) (CoL.cons (Co.nils 2) (CoL.cons (Co.nils 3) (CoL.cons (Co.nils 3) CoL.nil)))))))))),rfl⟩) TwB.nil)) (mp [] [(0,(pt 1000))] [(1000,bd 35 (.st [(.int .i64 (-1)),(.list 2 (([]:List B8).map C4)),(.st [(.bool false),(.int .u64 0),(.int .u64 0)]),(.int .i64 (-1)),(.int .i64 (-1)),(.int .i64 (-1)),(.list 2 (([]:List B4).map B7)),(.list 3 (([]:List E6).map D8)),(.list 3 (([]:List A1).map A8))]))] hB)) [(.d (.st [(.int .i64 (-1)),(.list 2 (([]:List B8).map C4)),(.st [(.bool false),(.int .u64 0),(.int .u64 0)]),(.int .i64 (-1)),(.int .i64 (-1)),(.int .i64 (-1)),(.list 2 (([]:List B4).map B7)),(.list 3 (([]:List E6).map D8)),(.list 3 (([]:List A1).map A8))]))] (Res.cell (c:=(.d (.st [(.int .i64 (-1)),(.list 2 (([]:List B8).map C4)),(.st [(.bool false),(.int .u64 0),(.int .u64 0)]),(.int .i64 (-1)),(.int .i64 (-1)),(.int .i64 (-1)),(.list 2 (([]:List B4).map B7)),(.list 3 (([]:List E6).map D8)),(.list 3 (([]:List A1).map A8))]))) (by rfl) (by rfl) tyS35 (by rfl) (by rfl) (by rfl) rN) rfl
def A2s (a0:D3) (a1:D3):Option (Int) :=
 (if ((a0.fV6==a1.fV6)&&((a0.fHi==a1.fHi)&&((a0.fLo==a1.fLo)&&true)))=true then
 some 0
 else
 (if (a0.fV6 != a1.fV6)=true then
 (if a1.fV6=true then
 some (-1)
 else
 some 1)
 else
 jn (fun m5:Bool =>
 (if m5=true then
 some (-1)
 else
 some 1)) (fun j6 =>
 (if (decide (a0.fHi<a1.fHi))=true then
 j6 true
 else
 j6 ((a0.fHi==a1.fHi)&&(decide (a0.fLo<a1.fLo)))))))
theorem A9m (a0:D3) (a1:D3) (r:Int) (h:A2s a0 a1=some r):AC Tryz.prog 65 [(.d (C9 a0)),(.d (C9 a1))] [] (.d (.int .i64 r)) []:=by
 refine ac2 Tryz.func65 rfl rfl fun B hB hN L => ?_
 delta A2s at h
 refine sr (SQ tt) ?_
 apply seq
 apply block
 refine sr (SQ tt) ?_
 apply AWp.cond rfl<;>intro hg1
 ·have h:=A5 hg1 h
  refine sr (SQ tt) ?_
  apply ret
  apply D7
  apply B9
  obtain rfl:=oi h
  exact rt (kp [(4,_)] [] hB rfl rfl (by rfl)) [(i6 0)] (rT rN) rfl
 ·have h:=A6 hg1 h
  refine sr (SQ tt) ?_
  apply AWp.cond rfl<;>intro hg2
  ·have h:=A5 hg2 h
   apply seq
   refine sr (SQ tt) ?_
   apply AWp.cond rfl<;>intro hg3
   ·have h:=A5 hg3 h
    refine sr (SQ tt) ?_
    apply ret
    apply B9
    apply D7
    apply B9
    obtain rfl:=oi h
    exact rt (kp [(4,_)] [] hB rfl rfl (by rfl)) [(i6 (-1))] (rT rN) rfl
   ·have h:=A6 hg3 h
    apply AWp.skip
    apply A0
    refine sr (SQ tt) ?_
    apply ret
    apply D7
    apply B9
    obtain rfl:=oi h
    exact rt (kp [(4,_)] [] hB rfl rfl (by rfl)) [(i6 1)] (rT rN) rfl
  ·have h:=A6 hg2 h
   apply seq
   refine AWp.cut h (fun m5:Bool=>([(17,(bo m5))]:EL)) (fun m5:Bool=>([]:OL)) (fun m5 h E' O' hmat => ?_) (fun j6 hjj6 h => ?_)
   ·apply A0
    refine ghost hmat ?_
    apply AWp.cond rfl<;>intro hg7
    ·have h:=A5 hg7 h
     refine sr (SQ tt) ?_
     apply ret
     apply D7
     apply B9
     obtain rfl:=oi h
     exact rt (kp [(4,_)] [] hB rfl rfl (by rfl)) [(i6 (-1))] (rT rN) rfl
    ·have h:=A6 hg7 h
     apply AWp.skip
     apply E4
     apply A0
     refine sr (SQ tt) ?_
     apply ret
     obtain rfl:=oi h
     exact rt (kp [(4,_)] [] hB rfl rfl (by rfl)) [(i6 1)] (rT rN) rfl
   ·rcases bft (decide (a0.fHi<a1.fHi)) with hg8 | hg8
    ·have h:=A5 hg8 h
     refine rg (SQ (fa hg8 tt)) ?_
     exact hjj6 _ h _ _ (mp [] _ _ hB)
    ·have h:=A6 hg8 h
     refine rg (SQ (fa hg8 tt)) ?_
     exact hjj6 _ h _ _ (mp [] _ _ hB)
def A2t (a0:A2) (a1:A2):Option (Int) :=
 (A2s a0.fAddr a1.fAddr).bind fun r1 =>
 (if (r1 != 0)=true then
 some r1
 else
 (if (decide (a0.fLen<a1.fLen))=true then
 some (-1)
 else
 (if (decide (a1.fLen<a0.fLen))=true then
 some 1
 else
 some 0)))
theorem A9n (a0:A2) (a1:A2) (r:Int) (h:A2t a0 a1=some r):AC Tryz.prog 35 [(.d (B3 a0)),(.d (B3 a1))] [] (.d (.int .i64 r)) []:=by
 refine ac2 Tryz.func35 rfl rfl fun B hB hN L => ?_
 delta A2t at h
 refine sr (SQ tt) ?_
 apply seq
 obtain⟨r1,hr1,h⟩:=bindS h
 refine sr (SQ (fa (cl [] (A9m a0.fAddr a1.fAddr r1 hr1)) tt)) ?_
 refine sr (SQ tt) ?_
 apply AWp.cond rfl<;>intro hg2
 ·have h:=A5 hg2 h
  refine sr (SQ tt) ?_
  apply ret
  apply B9
  obtain rfl:=oi h
  exact rt (kp [(4,_)] [] hB rfl rfl (by rfl)) [(i6 r1)] (rT rN) rfl
 ·have h:=A6 hg2 h
  apply AWp.skip
  apply A0
  apply seq
  apply block
  refine sr (SQ tt) ?_
  apply AWp.cond rfl<;>intro hg3
  ·have h:=A5 hg3 h
   refine sr (SQ tt) ?_
   apply ret
   apply D7
   apply B9
   obtain rfl:=oi h
   exact rt (kp [(4,_)] [] hB rfl rfl (by rfl)) [(i6 (-1))] (rT rN) rfl
  ·have h:=A6 hg3 h
   refine sr (SQ tt) ?_
   apply AWp.cond rfl<;>intro hg4
   ·have h:=A5 hg4 h
    refine sr (SQ tt) ?_
    apply ret
    apply D7
    apply B9
    obtain rfl:=oi h
    exact rt (kp [(4,_)] [] hB rfl rfl (by rfl)) [(i6 1)] (rT rN) rfl
   ·have h:=A6 hg4 h
    apply AWp.skip
    apply E4
    apply A0
    refine sr (SQ tt) ?_
    apply ret
    obtain rfl:=oi h
    exact rt (kp [(4,_)] [] hB rfl rfl (by rfl)) [(i6 0)] (rT rN) rfl
def K9 (a0:(List Int)) (a1:(List Int)) (s2:Int):Option (((Unit)⊕(Unit))⊕(Int)) :=
 (if (decide (s2<(a0.length:Int)))=true then
 (idx a0 s2).bind fun x14 =>
 (idx a1 s2).bind fun x15 =>
 (if (x14 != x15)=true then
 some (.inl (.inl ()))
 else
 some (.inr (w64 (s2+1))))
 else
 some (.inl (.inr ())))
def T8 (a0:(List Int)) (a1:(List Int)):Option (Bool) :=
 (if ((a0.length:Int) != (a1.length:Int))=true then
 some false
 else
 (loop (K9 a0 a1) 0).bind fun x17=>match x17 with
 | (.inl _) =>
  some false
 | (.inr _) =>
  some true)
theorem A5w (a0:(List Int)) (a1:(List Int)) (r:Bool) (h:T8 a0 a1=some r):AC Tryz.prog 47 [(.d (.list 1 (a0.map (eI .i64)))),(.d (.list 1 (a1.map (eI .i64))))] [] (.d (.bool r)) []:=by
 refine ac2 Tryz.func47 rfl rfl fun B hB hN L => ?_
 delta T8 at h
 refine sr (SQ tt) ?_
 apply seq
 refine sr (SQ tt) ?_
 apply AWp.cond rfl<;>intro hg1
 ·have h:=A5 hg1 h
  refine sr (SQ tt) ?_
  apply ret
  apply B9
  obtain rfl:=oi h
  exact rt (kp [(4,_)] [] hB rfl rfl (by rfl)) [(bo false)] (rT rN) rfl
 ·have h:=A6 hg1 h
  apply AWp.skip
  apply A0
  apply seq
  refine sr (SQ tt) ?_
  apply block
  obtain⟨x17,hx18,h⟩:=bindS h
  refine lg (K9 a0 a1) (fun s2:Int=>([(0,(qI_1 a0)),(1,(qI_1 a1)),(12,(i6 (a0.length:Int))),(13,(i6 s2))]:EL)) (fun s2:Int=>([]:OL)) (fun(x:(Unit)⊕(Unit)) e E' O'=>match x with | (.inl _p)=>e = .ret∧Mat B E' O' ([(4,(bo false))]:EL) ([]:OL) | (.inr _p)=>e = .exit 0∧Mat B E' O' ([]:EL) ([]:OL)) hx18 (mp [] _ _ hB) (fun s2 y h => ?_) (fun e E' O' hR => ?_)
  ·unfold K9 at h
   refine sr (SQ tt) ?_
   apply seq
   apply AWp.cond rfl<;>intro hg13
   ·have h:=A5 hg13 h
    apply AWp.skip
    apply A0
    apply seq
    apply block
    refine sr (SQ tt) ?_
    obtain⟨_,hx14,h⟩:=bindS h
    obtain⟨_,hx15,h⟩:=bindS h
    refine sdS (SQ (fa hx14 (fa hx15 tt))) ?_
    apply AWp.cond rfl<;>intro hg16
    ·have h:=A5 hg16 h
     refine sr (SQ tt) ?_
     apply ret
     apply D7
     apply B9
     obtain rfl:=oi h
     exact⟨(fun hc=>by cases hc),rfl,(mp [] _ _ hB)⟩
    ·have h:=A6 hg16 h
     apply AWp.skip
     apply E4
     apply A0
     refine rg (SQ tt) ?_
     obtain rfl:=oi h
     exact⟨rfl,(mp [] _ _ hB)⟩
   ·have h:=A6 hg13 h
    apply AWp.exit
    apply E5
    obtain rfl:=oi h
    exact⟨(fun hc=>by cases hc),rfl,(mp [] _ _ hB)⟩
  ·rcases x17 with _ | _
   ·obtain⟨rfl,hmat⟩:=hR
    apply D7
    apply B9
    obtain rfl:=oi h
    exact rt (Mat.trans hmat (mp [] [(4,(bo false))] [] hB)) [(bo false)] (rT rN) rfl
   ·obtain⟨rfl,hmat⟩:=hR
    apply C6
    apply A0
    refine ghost hmat ?_
    refine sr (SQ tt) ?_
    apply ret
    obtain rfl:=oi h
    exact rt (kp [(4,_)] [] hB rfl rfl (by rfl)) [(bo true)] (rT rN) rfl
def F9 (a0:D1) (a1:D1) (s2:Int):Option (((Unit)⊕(Unit))⊕(Int)) :=
 (if (decide (s2<(a0.fPath.length:Int)))=true then
 jn (fun m50:Bool =>
 (if m50=true then
 some (.inl (.inl ()))
 else
 some (.inr (w64 (s2+1))))) (fun j51 =>
 (idx a0.fPath s2).bind fun x53 =>
 (idx a1.fPath s2).bind fun x54 =>
 (if (x53.fSet != x54.fSet)=true then
 j51 true
 else
 (idx a0.fPath s2).bind fun x56 =>
 (idx a1.fPath s2).bind fun x57 =>
 (T8 x56.fASNs x57.fASNs).bind fun r58 =>
 j51 (!r58)))
 else
 some (.inl (.inr ())))
def H6 (a0:D1) (a1:D1) (s61:Int):Option (((Unit)⊕(Unit))⊕(Int)) :=
 (if (decide (s61<(a0.fCommunities.length:Int)))=true then
 (idx a0.fCommunities s61).bind fun x73 =>
 (idx a1.fCommunities s61).bind fun x74 =>
 (if (!((x73.fA==x74.fA)&&((x73.fB==x74.fB)&&true)))=true then
 some (.inl (.inl ()))
 else
 some (.inr (w64 (s61+1))))
 else
 some (.inl (.inr ())))
def H7 (a0:D1) (a1:D1) (s78:Int):Option (((Unit)⊕(Unit))⊕(Int)) :=
 (if (decide (s78<(a0.fLarge.length:Int)))=true then
 (idx a0.fLarge s78).bind fun x90 =>
 (idx a1.fLarge s78).bind fun x91 =>
 (if (!((x90.fA==x91.fA)&&((x90.fB==x91.fB)&&((x90.fC==x91.fC)&&true))))=true then
 some (.inl (.inl ()))
 else
 some (.inr (w64 (s78+1))))
 else
 some (.inl (.inr ())))
def H8 (a0:D1) (a1:D1) (s95:Int):Option (((Unit)⊕(Unit))⊕(Int)) :=
 (if (decide (s95<(a0.fOther.length:Int)))=true then
 jn (fun m153:Bool =>
 (if m153=true then
 some (.inl (.inl ()))
 else
 some (.inr (w64 (s95+1))))) (fun j154 =>
 (idx a0.fOther s95).bind fun x156 =>
 (idx a1.fOther s95).bind fun x157 =>
 (if (x156.fFlags != x157.fFlags)=true then
 j154 true
 else
 (idx a0.fOther s95).bind fun x159 =>
 (idx a1.fOther s95).bind fun x160 =>
 (if (x159.fType != x160.fType)=true then
 j154 true
 else
 (idx a0.fOther s95).bind fun x162 =>
 (idx a1.fOther s95).bind fun x163 =>
 j154 ((bstr x162.fData) != (bstr x163.fData)))))
 else
 some (.inl (.inr ())))
def G7 (a0:D1) (a1:D1):Option (Bool) :=
 (if (((((((((a0.fOrigin != a1.fOrigin) || (!((a0.fNext.fV6==a1.fNext.fV6)&&((a0.fNext.fHi==a1.fNext.fHi)&&((a0.fNext.fLo==a1.fNext.fLo)&&true))))) || (a0.fMED != a1.fMED)) || (a0.fPref != a1.fPref)) || (a0.fOTC != a1.fOTC)) || ((a0.fPath.length:Int) != (a1.fPath.length:Int))) || ((a0.fCommunities.length:Int) != (a1.fCommunities.length:Int))) || ((a0.fLarge.length:Int) != (a1.fLarge.length:Int))) || ((a0.fOther.length:Int) != (a1.fOther.length:Int)))=true then
 some false
 else
 (loop (F9 a0 a1) 0).bind fun x59=>match x59 with
 | (.inl _) =>
  some false
 | (.inr _) =>
  (loop (H6 a0 a1) 0).bind fun x76=>match x76 with
  | (.inl _) =>
   some false
  | (.inr _) =>
   (loop (H7 a0 a1) 0).bind fun x93=>match x93 with
   | (.inl _) =>
    some false
   | (.inr _) =>
    (loop (H8 a0 a1) 0).bind fun x164=>match x164 with
    | (.inl _) =>
     some false
    | (.inr _) =>
     some true)
theorem A2a (a0:D1) (a1:D1) (r:Bool) (h:G7 a0 a1=some r):AC Tryz.prog 22 [(.d (A3 a0)),(.d (A3 a1))] [] (.d (.bool r)) []:=by
 refine ac2 Tryz.func22 rfl rfl fun B hB hN L => ?_
 delta G7 at h
 apply sr (cg (OpJ.box hB (nm:=1002) (by decide) (by simp) rfl (L rfl) (q 0)) rfl (cg (OpJ.box hB (nm:=1003) (by decide) (by simp) rfl (L rfl) (q 1)) rfl (c (assign (L rfl) (Opd.bool false)) rfl cn)))
 apply seq
 apply sr (c (fo 1002 0 [0] hN underlying35 0 tyS3 (q 2)) rfl (c (la hN 35 tyS3 (q 9)) rfl (c (fo 1003 0 [0] hN underlying35 0 tyS3 (q 3)) rfl (c (la hN 35 tyS3 (q 11)) rfl (c (neqI (L rfl) (q 10) (q 12)) rfl (c (mv hN (q 13)) rfl (c (oq hN 14 (fo 1002 2 [2] hN underlying35 2 tyS27 (q 2)) (OptL.keep (by rfl) OptL.nil) (GuardV.plain _)) rfl (c (oq hN 14 (la hN 35 tyS27 (q 15)) (OptL.opt OptL.nil) (GuardV.plain _)) rfl (c (oq hN 14 (fo 1003 2 [2] hN underlying35 2 tyS27 (q 3)) (OptL.keep (by rfl) OptL.nil) (GuardV.plain _)) rfl (c (oq hN 14 (la hN 35 tyS27 (q 17)) (OptL.opt OptL.nil) (GuardV.plain _)) rfl (c (oq hN 14 (OpJ.neqD (h:=2) (feq27 a0.fNext a1.fNext) eqg27 ⟨rfl,rfl⟩ (by rfl) (L rfl) (q 16) (q 18)) (OptL.opt (OptL.opt OptL.nil)) (GuardV.plain _)) rfl (c (pickOr rfl (L rfl) (q 14) (q 19)) rfl (c (mv hN (q 20)) rfl (c (oq hN 21 (fo 1002 5 [3] hN underlying35 5 tyS3 (q 2)) (OptL.keep (by rfl) OptL.nil) (GuardV.plain _)) rfl (c (oq hN 21 (la hN 35 tyS3 (q 22)) (OptL.opt OptL.nil) (GuardV.plain _)) rfl (c (oq hN 21 (fo 1003 5 [3] hN underlying35 5 tyS3 (q 3)) (OptL.keep (by rfl) OptL.nil) (GuardV.plain _)) rfl (c (oq hN 21 (la hN 35 tyS3 (q 24)) (OptL.opt OptL.nil) (GuardV.plain _)) rfl (c (oq hN 21 (neqI (L rfl) (q 23) (q 25)) (OptL.opt (OptL.opt OptL.nil)) (GuardV.plain _)) rfl (c (pickOr rfl (L rfl) (q 21) (q 26)) rfl (c (mv hN (q 27)) rfl (c (oq hN 28 (fo 1002 6 [4] hN underlying35 6 tyS3 (q 2)) (OptL.keep (by rfl) OptL.nil) (GuardV.plain _)) rfl (c (oq hN 28 (la hN 35 tyS3 (q 29)) (OptL.opt OptL.nil) (GuardV.plain _)) rfl (c (oq hN 28 (fo 1003 6 [4] hN underlying35 6 tyS3 (q 3)) (OptL.keep (by rfl) OptL.nil) (GuardV.plain _)) rfl (c (oq hN 28 (la hN 35 tyS3 (q 31)) (OptL.opt OptL.nil) (GuardV.plain _)) rfl (c (oq hN 28 (neqI (L rfl) (q 30) (q 32)) (OptL.opt (OptL.opt OptL.nil)) (GuardV.plain _)) rfl (c (pickOr rfl (L rfl) (q 28) (q 33)) rfl (c (mv hN (q 34)) rfl (c (oq hN 35 (fo 1002 7 [5] hN underlying35 7 tyS3 (q 2)) (OptL.keep (by rfl) OptL.nil) (GuardV.plain _)) rfl (c (oq hN 35 (la hN 35 tyS3 (q 36)) (OptL.opt OptL.nil) (GuardV.plain _)) rfl (c (oq hN 35 (fo 1003 7 [5] hN underlying35 7 tyS3 (q 3)) (OptL.keep (by rfl) OptL.nil) (GuardV.plain _)) rfl (c (oq hN 35 (la hN 35 tyS3 (q 38)) (OptL.opt OptL.nil) (GuardV.plain _)) rfl (c (oq hN 35 (neqI (L rfl) (q 37) (q 39)) (OptL.opt (OptL.opt OptL.nil)) (GuardV.plain _)) rfl (c (pickOr rfl (L rfl) (q 35) (q 40)) rfl (c (mv hN (q 41)) rfl (c (oq hN 42 (fo 1002 1 [1] hN underlying35 1 tyS30 (q 2)) (OptL.keep (by rfl) OptL.nil) (GuardV.plain _)) rfl (c (oq hN 42 (la hN 35 tyS30 (q 43)) (OptL.opt OptL.nil) (GuardV.plain _)) rfl (c (oq hN 42 (OpJ.val (v':=(i6 (a0.fPath.length:Int))) (by simp) (lenD underlying30 (L rfl) (q 44))) (OptL.opt OptL.nil) (GuardV.plain _)) rfl (c (oq hN 42 (fo 1003 1 [1] hN underlying35 1 tyS30 (q 3)) (OptL.keep (by rfl) OptL.nil) (GuardV.plain _)) rfl (c (oq hN 42 (la hN 35 tyS30 (q 46)) (OptL.opt OptL.nil) (GuardV.plain _)) rfl (c (oq hN 42 (OpJ.val (v':=(i6 (a1.fPath.length:Int))) (by simp) (lenD underlying30 (L rfl) (q 47))) (OptL.opt OptL.nil) (GuardV.plain _)) rfl (c (oq hN 42 (neqI (L rfl) (q 45) (q 48)) (OptL.opt (OptL.opt OptL.nil)) (GuardV.plain _)) rfl (c (pickOr rfl (L rfl) (q 42) (q 49)) rfl (c (mv hN (q 50)) rfl (c (oq hN 51 (fo 1002 8 [6] hN underlying35 8 tyS31 (q 2)) (OptL.keep (by rfl) OptL.nil) (GuardV.plain _)) rfl (c (oq hN 51 (la hN 35 tyS31 (q 52)) (OptL.opt OptL.nil) (GuardV.plain _)) rfl (c (oq hN 51 (OpJ.val (v':=(i6 (a0.fCommunities.length:Int))) (by simp) (lenD underlying31 (L rfl) (q 53))) (OptL.opt OptL.nil) (GuardV.plain _)) rfl (c (oq hN 51 (fo 1003 8 [6] hN underlying35 8 tyS31 (q 3)) (OptL.keep (by rfl) OptL.nil) (GuardV.plain _)) rfl (c (oq hN 51 (la hN 35 tyS31 (q 55)) (OptL.opt OptL.nil) (GuardV.plain _)) rfl (c (oq hN 51 (OpJ.val (v':=(i6 (a1.fCommunities.length:Int))) (by simp) (lenD underlying31 (L rfl) (q 56))) (OptL.opt OptL.nil) (GuardV.plain _)) rfl (c (oq hN 51 (neqI (L rfl) (q 54) (q 57)) (OptL.opt (OptL.opt OptL.nil)) (GuardV.plain _)) rfl (c (pickOr rfl (L rfl) (q 51) (q 58)) rfl (c (mv hN (q 59)) rfl (c (oq hN 60 (fo 1002 9 [7] hN underlying35 9 tyS32 (q 2)) (OptL.keep (by rfl) OptL.nil) (GuardV.plain _)) rfl (c (oq hN 60 (la hN 35 tyS32 (q 61)) (OptL.opt OptL.nil) (GuardV.plain _)) rfl (c (oq hN 60 (OpJ.val (v':=(i6 (a0.fLarge.length:Int))) (by simp) (lenD underlying32 (L rfl) (q 62))) (OptL.opt OptL.nil) (GuardV.plain _)) rfl (c (oq hN 60 (fo 1003 9 [7] hN underlying35 9 tyS32 (q 3)) (OptL.keep (by rfl) OptL.nil) (GuardV.plain _)) rfl (c (oq hN 60 (la hN 35 tyS32 (q 64)) (OptL.opt OptL.nil) (GuardV.plain _)) rfl (c (oq hN 60 (OpJ.val (v':=(i6 (a1.fLarge.length:Int))) (by simp) (lenD underlying32 (L rfl) (q 65))) (OptL.opt OptL.nil) (GuardV.plain _)) rfl (c (oq hN 60 (neqI (L rfl) (q 63) (q 66)) (OptL.opt (OptL.opt OptL.nil)) (GuardV.plain _)) rfl (c (pickOr rfl (L rfl) (q 60) (q 67)) rfl (c (mv hN (q 68)) rfl (c (oq hN 69 (fo 1002 10 [8] hN underlying35 10 tyS33 (q 2)) (OptL.keep (by rfl) OptL.nil) (GuardV.plain _)) rfl (c (oq hN 69 (la hN 35 tyS33 (q 70)) (OptL.opt OptL.nil) (GuardV.plain _)) rfl (c (oq hN 69 (OpJ.val (v':=(i6 (a0.fOther.length:Int))) (by simp) (lenD underlying33 (L rfl) (q 71))) (OptL.opt OptL.nil) (GuardV.plain _)) rfl (c (oq hN 69 (fo 1003 10 [8] hN underlying35 10 tyS33 (q 3)) (OptL.keep (by rfl) OptL.nil) (GuardV.plain _)) rfl (c (oq hN 69 (la hN 35 tyS33 (q 73)) (OptL.opt OptL.nil) (GuardV.plain _)) rfl (c (oq hN 69 (OpJ.val (v':=(i6 (a1.fOther.length:Int))) (by simp) (lenD underlying33 (L rfl) (q 74))) (OptL.opt OptL.nil) (GuardV.plain _)) rfl (c (oq hN 69 (neqI (L rfl) (q 72) (q 75)) (OptL.opt (OptL.opt OptL.nil)) (GuardV.plain _)) rfl (c (pickOr rfl (L rfl) (q 69) (q 76)) rfl cn)))))))))))))))))))))))))))))))))))))))))))))))))))))))))))))))))))))
 apply AWp.cond rfl<;>intro hg1
 ·have h:=A5 hg1 h
  apply sr (c (assign (L rfl) (Opd.bool false)) rfl cn)
  apply ret
  apply B9
  obtain rfl:=oi h
  exact rt (kp [(4,_)] [] hB rfl rfl (by rfl)) [(bo false)] (rT rN) rfl
 ·have h:=A6 hg1 h
  apply AWp.skip
  apply A0
  apply seq
  apply sr (c (fo 1002 1 [1] hN underlying35 1 tyS30 (q 2)) rfl (c (la hN 35 tyS30 (q 78)) rfl (c (OpJ.val (v':=(i6 (a0.fPath.length:Int))) (by simp) (lenD underlying30 (L rfl) (q 79))) rfl (c (mv hN (ii 0)) rfl cn))))
  apply block
  obtain⟨x59,hx60,h⟩:=bindS h
  refine lg (F9 a0 a1) (fun s2:Int=>([(2,(pt 1002)),(3,(pt 1003)),(80,(i6 (a0.fPath.length:Int))),(81,(i6 s2))]:EL)) (fun s2:Int=>([(1002,bd 35 (A3 a0)),(1003,bd 35 (A3 a1))]:OL)) (fun(x:(Unit)⊕(Unit)) e E' O'=>match x with | (.inl _p)=>e = .ret∧Mat B E' O' ([(4,(bo false))]:EL) ([]:OL) | (.inr _p)=>e = .exit 0∧Mat B E' O' ([(2,(pt 1002)),(3,(pt 1003))]:EL) ([(1002,bd 35 (A3 a0)),(1003,bd 35 (A3 a1))]:OL)) hx60 (mp [] _ _ hB) (fun s2 y h => ?_) (fun e E' O' hR => ?_)
  ·unfold F9 at h
   apply sr (c (lss (L rfl) (q 81) (q 80)) rfl cn)
   apply seq
   apply AWp.cond rfl<;>intro hg41
   ·have h:=A5 hg41 h
    apply AWp.skip
    apply A0
    apply seq
    apply block
    apply sr (c (mv hN (q 81)) rfl (c (assign (L rfl) (q 83)) rfl cn))
    apply seq
    refine AWp.cut h (fun m50:Bool=>([(2,(pt 1002)),(3,(pt 1003)),(80,(i6 (a0.fPath.length:Int))),(81,(i6 s2)),(112,(bo m50))]:EL)) (fun m50:Bool=>([(1002,bd 35 (A3 a0)),(1003,bd 35 (A3 a1))]:OL)) (fun m50 h E' O' hmat => ?_) (fun j51 hjj51 h => ?_)
    ·apply A0
     refine ghost hmat ?_
     apply AWp.cond rfl<;>intro hg52
     ·have h:=A5 hg52 h
      apply sr (c (assign (L rfl) (Opd.bool false)) rfl cn)
      apply ret
      apply D7
      apply B9
      obtain rfl:=oi h
      exact⟨(fun hc=>by cases hc),rfl,(mp [] _ _ hB)⟩
     ·have h:=A6 hg52 h
      apply AWp.skip
      apply E4
      apply A0
      apply rg (c (add6 (L rfl) (q 81) (ii 1)) rfl (c (mv hN (q 113)) rfl cn))
      obtain rfl:=oi h
      exact⟨rfl,(mp [] _ _ hB)⟩
    ·obtain⟨x53,hx53,h⟩:=bindS h
     obtain⟨x54,hx54,h⟩:=bindS h
     rcases bft (x53.fSet != x54.fSet) with hg55 | hg55
     ·have h:=A5 hg55 h
      apply dr (c (fo 1002 1 [1] hN underlying35 1 tyS30 (q 2)) rfl (c (la hN 35 tyS30 (q 84)) rfl (c (mv hN (q 5)) rfl (c (indexD underlying30 tyS66 (B5 hx53).1 (F0 C4 (B5 hx53).2) (L rfl) (q 85) (q 86)) rfl (c (fieldD underlying66 (by rfl) (o:=0) (by rfl) tyS4 (by decide) (by rfl) (by rfl) (L rfl) (q 87)) rfl (c (loadD tyS4 (by rfl) (by rfl) (L rfl) (q 88)) rfl (c (fo 1003 1 [1] hN underlying35 1 tyS30 (q 3)) rfl (c (la hN 35 tyS30 (q 90)) rfl (c (mv hN (q 5)) rfl (c (indexD underlying30 tyS66 (B5 hx54).1 (F0 C4 (B5 hx54).2) (L rfl) (q 91) (q 92)) rfl (c (fieldD underlying66 (by rfl) (o:=0) (by rfl) tyS4 (by decide) (by rfl) (by rfl) (L rfl) (q 93)) rfl (c (loadD tyS4 (by rfl) (by rfl) (L rfl) (q 94)) rfl (c (OpJ.neqB underlying4 (L rfl) (q 89) (q 95)) rfl (c (OpJ.val (v':=.d (.bool true)) (by rw [hg55]<;>rfl) (mv hN (q 96))) rfl (ks 97 (L rfl) (ks 97 (L rfl) (ks 97 (L rfl) (ks 97 (L rfl) (ks 97 (L rfl) (ks 97 (L rfl) (ks 97 (L rfl) (ks 97 (L rfl) (ks 97 (L rfl) (ks 97 (L rfl) (ks 97 (L rfl) (ks 97 (L rfl) (ks 97 (L rfl) (ks 97 (L rfl) (c (pickT (L rfl) (q 97) (Opd.bool true)) rfl cn))))))))))))))))))))))))))))) (by kernel_rfl) (by kernel_rfl)
      exact hjj51 _ h _ _ (mp [] _ _ hB)
     ·have h:=A6 hg55 h
      obtain⟨x56,hx56,h⟩:=bindS h
      obtain⟨x57,hx57,h⟩:=bindS h
      obtain⟨r58,hr58,h⟩:=bindS h
      apply dr (c (fo 1002 1 [1] hN underlying35 1 tyS30 (q 2)) rfl (c (la hN 35 tyS30 (q 84)) rfl (c (mv hN (q 5)) rfl (c (indexD underlying30 tyS66 (B5 hx53).1 (F0 C4 (B5 hx53).2) (L rfl) (q 85) (q 86)) rfl (c (fieldD underlying66 (by rfl) (o:=0) (by rfl) tyS4 (by decide) (by rfl) (by rfl) (L rfl) (q 87)) rfl (c (loadD tyS4 (by rfl) (by rfl) (L rfl) (q 88)) rfl (c (fo 1003 1 [1] hN underlying35 1 tyS30 (q 3)) rfl (c (la hN 35 tyS30 (q 90)) rfl (c (mv hN (q 5)) rfl (c (indexD underlying30 tyS66 (B5 hx54).1 (F0 C4 (B5 hx54).2) (L rfl) (q 91) (q 92)) rfl (c (fieldD underlying66 (by rfl) (o:=0) (by rfl) tyS4 (by decide) (by rfl) (by rfl) (L rfl) (q 93)) rfl (c (loadD tyS4 (by rfl) (by rfl) (L rfl) (q 94)) rfl (c (OpJ.neqB underlying4 (L rfl) (q 89) (q 95)) rfl (c (OpJ.val (v':=.d (.bool false)) (by rw [hg55]<;>rfl) (mv hN (q 96))) rfl (c (gd 97 (fo 1002 1 [1] hN underlying35 1 tyS30 (q 2))) rfl (c (gd 97 (la hN 35 tyS30 (q 98))) rfl (c (gd 97 (mv hN (q 5))) rfl (c (gd 97 (indexD underlying30 tyS66 (B5 hx56).1 (F0 C4 (B5 hx56).2) (L rfl) (q 99) (q 100))) rfl (c (gd 97 (fieldD underlying66 (by rfl) (o:=1) (by rfl) tyS23 (by decide) (by rfl) (by rfl) (L rfl) (q 101))) rfl (c (gd 97 (loadD tyS23 (by rfl) (by rfl) (L rfl) (q 102))) rfl (c (gd 97 (fo 1003 1 [1] hN underlying35 1 tyS30 (q 3))) rfl (c (gd 97 (la hN 35 tyS30 (q 104))) rfl (c (gd 97 (mv hN (q 5))) rfl (c (gd 97 (indexD underlying30 tyS66 (B5 hx57).1 (F0 C4 (B5 hx57).2) (L rfl) (q 105) (q 106))) rfl (c (gd 97 (fieldD underlying66 (by rfl) (o:=1) (by rfl) tyS23 (by decide) (by rfl) (by rfl) (L rfl) (q 107))) rfl (c (gd 97 (loadD tyS23 (by rfl) (by rfl) (L rfl) (q 108))) rfl (cg (gd 97 (cf hB fnOk47 (A5w x56.fASNs x57.fASNs r58 hr58) (L rfl) (OpdL.cons (q 103) (OpdL.cons (q 109) OpdL.nil)))) rfl (c (gd 97 (OpJ.not (L rfl) (q 110))) rfl (c (pickF (L rfl) (q 97) (q 111)) rfl cn))))))))))))))))))))))))))))) (by kernel_rfl) (by kernel_rfl)
      exact hjj51 _ h _ _ (mp [] _ _ hB)
   ·have h:=A6 hg41 h
    apply AWp.exit
    apply E5
    obtain rfl:=oi h
    exact⟨(fun hc=>by cases hc),rfl,(mp [] _ _ hB)⟩
  ·rcases x59 with _ | _
   ·obtain⟨rfl,hmat⟩:=hR
    apply D7
    apply B9
    obtain rfl:=oi h
    exact rt (Mat.trans hmat (mp [] [(4,(bo false))] [] hB)) [(bo false)] (rT rN) rfl
   ·obtain⟨rfl,hmat⟩:=hR
    apply C6
    apply A0
    refine ghost hmat ?_
    apply seq
    apply sr (c (fo 1002 8 [6] hN underlying35 8 tyS31 (q 2)) rfl (c (la hN 35 tyS31 (q 114)) rfl (c (OpJ.val (v':=(i6 (a0.fCommunities.length:Int))) (by simp) (lenD underlying31 (L rfl) (q 115))) rfl (c (mv hN (ii 0)) rfl cn))))
    apply block
    obtain⟨x76,hx77,h⟩:=bindS h
    refine lg (H6 a0 a1) (fun s61:Int=>([(2,(pt 1002)),(3,(pt 1003)),(116,(i6 (a0.fCommunities.length:Int))),(117,(i6 s61))]:EL)) (fun s61:Int=>([(1002,bd 35 (A3 a0)),(1003,bd 35 (A3 a1))]:OL)) (fun(x:(Unit)⊕(Unit)) e E' O'=>match x with | (.inl _p)=>e = .ret∧Mat B E' O' ([(4,(bo false))]:EL) ([]:OL) | (.inr _p)=>e = .exit 2∧Mat B E' O' ([(2,(pt 1002)),(3,(pt 1003))]:EL) ([(1002,bd 35 (A3 a0)),(1003,bd 35 (A3 a1))]:OL)) hx77 (mp [] _ _ hB) (fun s61 y h => ?_) (fun e E' O' hR => ?_)
    ·unfold H6 at h
     apply sr (c (lss (L rfl) (q 117) (q 116)) rfl cn)
     apply seq
     apply AWp.cond rfl<;>intro hg72
     ·have h:=A5 hg72 h
      apply AWp.skip
      apply A0
      apply seq
      apply block
      apply sr (c (mv hN (q 117)) rfl (c (assign (L rfl) (q 119)) rfl cn))
      obtain⟨x73,hx73,h⟩:=bindS h
      obtain⟨x74,hx74,h⟩:=bindS h
      apply sd (c (fo 1002 8 [6] hN underlying35 8 tyS31 (q 2)) rfl (c (la hN 35 tyS31 (q 120)) rfl (c (mv hN (q 6)) rfl (c (indexD underlying31 tyS98 (B5 hx73).1 (F0 B7 (B5 hx73).2) (L rfl) (q 121) (q 122)) rfl (c (loadD tyS98 (by rfl) (by rfl) (L rfl) (q 123)) rfl (c (fo 1003 8 [6] hN underlying35 8 tyS31 (q 3)) rfl (c (la hN 35 tyS31 (q 125)) rfl (c (mv hN (q 6)) rfl (c (indexD underlying31 tyS98 (B5 hx74).1 (F0 B7 (B5 hx74).2) (L rfl) (q 126) (q 127)) rfl (c (loadD tyS98 (by rfl) (by rfl) (L rfl) (q 128)) rfl (c (OpJ.neqD (h:=2) (feq98 x73 x74) eqg98 ⟨rfl,rfl⟩ (by rfl) (L rfl) (q 124) (q 129)) rfl cn))))))))))) (by kernel_rfl) (by kernel_rfl)
      apply AWp.cond rfl<;>intro hg75
      ·have h:=A5 hg75 h
       apply sr (c (assign (L rfl) (Opd.bool false)) rfl cn)
       apply ret
       apply D7
       apply B9
       obtain rfl:=oi h
       exact⟨(fun hc=>by cases hc),rfl,(mp [] _ _ hB)⟩
      ·have h:=A6 hg75 h
       apply AWp.skip
       apply E4
       apply A0
       apply rg (c (add6 (L rfl) (q 117) (ii 1)) rfl (c (mv hN (q 131)) rfl cn))
       obtain rfl:=oi h
       exact⟨rfl,(mp [] _ _ hB)⟩
     ·have h:=A6 hg72 h
      apply AWp.exit
      apply E5
      obtain rfl:=oi h
      exact⟨(fun hc=>by cases hc),rfl,(mp [] _ _ hB)⟩
    ·rcases x76 with _ | _
     ·obtain⟨rfl,hmat⟩:=hR
      apply D7
      apply B9
      obtain rfl:=oi h
      exact rt (Mat.trans hmat (mp [] [(4,(bo false))] [] hB)) [(bo false)] (rT rN) rfl
     ·obtain⟨rfl,hmat⟩:=hR
      apply C6
      apply A0
      refine ghost hmat ?_
      apply seq
      apply sr (c (fo 1002 9 [7] hN underlying35 9 tyS32 (q 2)) rfl (c (la hN 35 tyS32 (q 132)) rfl (c (OpJ.val (v':=(i6 (a0.fLarge.length:Int))) (by simp) (lenD underlying32 (L rfl) (q 133))) rfl (c (mv hN (ii 0)) rfl cn))))
      apply block
      obtain⟨x93,hx94,h⟩:=bindS h
      refine lg (H7 a0 a1) (fun s78:Int=>([(2,(pt 1002)),(3,(pt 1003)),(134,(i6 (a0.fLarge.length:Int))),(135,(i6 s78))]:EL)) (fun s78:Int=>([(1002,bd 35 (A3 a0)),(1003,bd 35 (A3 a1))]:OL)) (fun(x:(Unit)⊕(Unit)) e E' O'=>match x with | (.inl _p)=>e = .ret∧Mat B E' O' ([(4,(bo false))]:EL) ([]:OL) | (.inr _p)=>e = .exit 4∧Mat B E' O' ([(2,(pt 1002)),(3,(pt 1003))]:EL) ([(1002,bd 35 (A3 a0)),(1003,bd 35 (A3 a1))]:OL)) hx94 (mp [] _ _ hB) (fun s78 y h => ?_) (fun e E' O' hR => ?_)
      ·unfold H7 at h
       apply sr (c (lss (L rfl) (q 135) (q 134)) rfl cn)
       apply seq
       apply AWp.cond rfl<;>intro hg89
       ·have h:=A5 hg89 h
        apply AWp.skip
        apply A0
        apply seq
        apply block
        apply sr (c (mv hN (q 135)) rfl (c (assign (L rfl) (q 137)) rfl cn))
        obtain⟨x90,hx90,h⟩:=bindS h
        obtain⟨x91,hx91,h⟩:=bindS h
        apply sd (c (fo 1002 9 [7] hN underlying35 9 tyS32 (q 2)) rfl (c (la hN 35 tyS32 (q 138)) rfl (c (mv hN (q 7)) rfl (c (indexD underlying32 tyS100 (B5 hx90).1 (F0 D8 (B5 hx90).2) (L rfl) (q 139) (q 140)) rfl (c (loadD tyS100 (by rfl) (by rfl) (L rfl) (q 141)) rfl (c (fo 1003 9 [7] hN underlying35 9 tyS32 (q 3)) rfl (c (la hN 35 tyS32 (q 143)) rfl (c (mv hN (q 7)) rfl (c (indexD underlying32 tyS100 (B5 hx91).1 (F0 D8 (B5 hx91).2) (L rfl) (q 144) (q 145)) rfl (c (loadD tyS100 (by rfl) (by rfl) (L rfl) (q 146)) rfl (c (OpJ.neqD (h:=2) (feq100 x90 x91) eqg100 ⟨rfl,rfl⟩ (by rfl) (L rfl) (q 142) (q 147)) rfl cn))))))))))) (by kernel_rfl) (by kernel_rfl)
        apply AWp.cond rfl<;>intro hg92
        ·have h:=A5 hg92 h
         apply sr (c (assign (L rfl) (Opd.bool false)) rfl cn)
         apply ret
         apply D7
         apply B9
         obtain rfl:=oi h
         exact⟨(fun hc=>by cases hc),rfl,(mp [] _ _ hB)⟩
        ·have h:=A6 hg92 h
         apply AWp.skip
         apply E4
         apply A0
         apply rg (c (add6 (L rfl) (q 135) (ii 1)) rfl (c (mv hN (q 149)) rfl cn))
         obtain rfl:=oi h
         exact⟨rfl,(mp [] _ _ hB)⟩
       ·have h:=A6 hg89 h
        apply AWp.exit
        apply E5
        obtain rfl:=oi h
        exact⟨(fun hc=>by cases hc),rfl,(mp [] _ _ hB)⟩
      ·rcases x93 with _ | _
       ·obtain⟨rfl,hmat⟩:=hR
        apply D7
        apply B9
        obtain rfl:=oi h
        exact rt (Mat.trans hmat (mp [] [(4,(bo false))] [] hB)) [(bo false)] (rT rN) rfl
       ·obtain⟨rfl,hmat⟩:=hR
        apply C6
        apply A0
        refine ghost hmat ?_
        apply seq
        apply sr (c (fo 1002 10 [8] hN underlying35 10 tyS33 (q 2)) rfl (c (la hN 35 tyS33 (q 150)) rfl (c (OpJ.val (v':=(i6 (a0.fOther.length:Int))) (by simp) (lenD underlying33 (L rfl) (q 151))) rfl (c (mv hN (ii 0)) rfl cn))))
        apply block
        obtain⟨x164,hx165,h⟩:=bindS h
        refine lg (H8 a0 a1) (fun s95:Int=>([(2,(pt 1002)),(3,(pt 1003)),(152,(i6 (a0.fOther.length:Int))),(153,(i6 s95))]:EL)) (fun s95:Int=>([(1002,bd 35 (A3 a0)),(1003,bd 35 (A3 a1))]:OL)) (fun(x:(Unit)⊕(Unit)) e E' O'=>match x with | (.inl _p)=>e = .ret∧Mat B E' O' ([(4,(bo false))]:EL) ([]:OL) | (.inr _p)=>e = .exit 6∧Mat B E' O' ([]:EL) ([]:OL)) hx165 (mp [] _ _ hB) (fun s95 y h => ?_) (fun e E' O' hR => ?_)
        ·unfold H8 at h
         apply sr (c (lss (L rfl) (q 153) (q 152)) rfl cn)
         apply seq
         apply AWp.cond rfl<;>intro hg142
         ·have h:=A5 hg142 h
          apply AWp.skip
          apply A0
          apply seq
          apply block
          apply sr (c (mv hN (q 153)) rfl (c (assign (L rfl) (q 155)) rfl cn))
          apply seq
          refine AWp.cut h (fun m153:Bool=>([(2,(pt 1002)),(3,(pt 1003)),(152,(i6 (a0.fOther.length:Int))),(153,(i6 s95)),(200,(bo m153))]:EL)) (fun m153:Bool=>([(1002,bd 35 (A3 a0)),(1003,bd 35 (A3 a1))]:OL)) (fun m153 h E' O' hmat => ?_) (fun j154 hjj154 h => ?_)
          ·apply A0
           refine ghost hmat ?_
           apply AWp.cond rfl<;>intro hg155
           ·have h:=A5 hg155 h
            apply sr (c (assign (L rfl) (Opd.bool false)) rfl cn)
            apply ret
            apply D7
            apply B9
            obtain rfl:=oi h
            exact⟨(fun hc=>by cases hc),rfl,(mp [] _ _ hB)⟩
           ·have h:=A6 hg155 h
            apply AWp.skip
            apply E4
            apply A0
            apply rg (c (add6 (L rfl) (q 153) (ii 1)) rfl (c (mv hN (q 201)) rfl cn))
            obtain rfl:=oi h
            exact⟨rfl,(mp [] _ _ hB)⟩
          ·obtain⟨x156,hx156,h⟩:=bindS h
           obtain⟨x157,hx157,h⟩:=bindS h
           rcases bft (x156.fFlags != x157.fFlags) with hg158 | hg158
           ·have h:=A5 hg158 h
            apply dr (c (fo 1002 10 [8] hN underlying35 10 tyS33 (q 2)) rfl (c (la hN 35 tyS33 (q 156)) rfl (c (mv hN (q 8)) rfl (c (indexD underlying33 tyS69 (B5 hx156).1 (F0 A8 (B5 hx156).2) (L rfl) (q 157) (q 158)) rfl (c (fieldD underlying69 (by rfl) (o:=0) (by rfl) tyS3 (by decide) (by rfl) (by rfl) (L rfl) (q 159)) rfl (c (loadD tyS3 (by rfl) (by rfl) (L rfl) (q 160)) rfl (c (fo 1003 10 [8] hN underlying35 10 tyS33 (q 3)) rfl (c (la hN 35 tyS33 (q 162)) rfl (c (mv hN (q 8)) rfl (c (indexD underlying33 tyS69 (B5 hx157).1 (F0 A8 (B5 hx157).2) (L rfl) (q 163) (q 164)) rfl (c (fieldD underlying69 (by rfl) (o:=0) (by rfl) tyS3 (by decide) (by rfl) (by rfl) (L rfl) (q 165)) rfl (c (loadD tyS3 (by rfl) (by rfl) (L rfl) (q 166)) rfl (c (neqI (L rfl) (q 161) (q 167)) rfl (c (OpJ.val (v':=.d (.bool true)) (by rw [hg158]<;>rfl) (mv hN (q 168))) rfl (ks 169 (L rfl) (ks 169 (L rfl) (ks 169 (L rfl) (ks 169 (L rfl) (ks 169 (L rfl) (ks 169 (L rfl) (ks 169 (L rfl) (ks 169 (L rfl) (ks 169 (L rfl) (ks 169 (L rfl) (ks 169 (L rfl) (ks 169 (L rfl) (ks 169 (L rfl) (c (pickT (L rfl) (q 169) (Opd.bool true)) rfl (c (mv hN (q 183)) rfl (ks 184 (L rfl) (ks 184 (L rfl) (ks 184 (L rfl) (ks 184 (L rfl) (ks 184 (L rfl) (ks 184 (L rfl) (ks 184 (L rfl) (ks 184 (L rfl) (ks 184 (L rfl) (ks 184 (L rfl) (ks 184 (L rfl) (ks 184 (L rfl) (ks 184 (L rfl) (ks 184 (L rfl) (ks 184 (L rfl) (c (pickT (L rfl) (q 184) (Opd.bool true)) rfl cn))))))))))))))))))))))))))))))))))))))))))))) (by kernel_rfl) (by kernel_rfl)
            exact hjj154 _ h _ _ (mp [] _ _ hB)
           ·have h:=A6 hg158 h
            obtain⟨x159,hx159,h⟩:=bindS h
            obtain⟨x160,hx160,h⟩:=bindS h
            rcases bft (x159.fType != x160.fType) with hg161 | hg161
            ·have h:=A5 hg161 h
             apply dr (c (fo 1002 10 [8] hN underlying35 10 tyS33 (q 2)) rfl (c (la hN 35 tyS33 (q 156)) rfl (c (mv hN (q 8)) rfl (c (indexD underlying33 tyS69 (B5 hx156).1 (F0 A8 (B5 hx156).2) (L rfl) (q 157) (q 158)) rfl (c (fieldD underlying69 (by rfl) (o:=0) (by rfl) tyS3 (by decide) (by rfl) (by rfl) (L rfl) (q 159)) rfl (c (loadD tyS3 (by rfl) (by rfl) (L rfl) (q 160)) rfl (c (fo 1003 10 [8] hN underlying35 10 tyS33 (q 3)) rfl (c (la hN 35 tyS33 (q 162)) rfl (c (mv hN (q 8)) rfl (c (indexD underlying33 tyS69 (B5 hx157).1 (F0 A8 (B5 hx157).2) (L rfl) (q 163) (q 164)) rfl (c (fieldD underlying69 (by rfl) (o:=0) (by rfl) tyS3 (by decide) (by rfl) (by rfl) (L rfl) (q 165)) rfl (c (loadD tyS3 (by rfl) (by rfl) (L rfl) (q 166)) rfl (c (neqI (L rfl) (q 161) (q 167)) rfl (c (OpJ.val (v':=.d (.bool false)) (by rw [hg158]<;>rfl) (mv hN (q 168))) rfl (c (gd 169 (fo 1002 10 [8] hN underlying35 10 tyS33 (q 2))) rfl (c (gd 169 (la hN 35 tyS33 (q 170))) rfl (c (gd 169 (mv hN (q 8))) rfl (c (gd 169 (indexD underlying33 tyS69 (B5 hx159).1 (F0 A8 (B5 hx159).2) (L rfl) (q 171) (q 172))) rfl (c (gd 169 (fieldD underlying69 (by rfl) (o:=1) (by rfl) tyS3 (by decide) (by rfl) (by rfl) (L rfl) (q 173))) rfl (c (gd 169 (loadD tyS3 (by rfl) (by rfl) (L rfl) (q 174))) rfl (c (gd 169 (fo 1003 10 [8] hN underlying35 10 tyS33 (q 3))) rfl (c (gd 169 (la hN 35 tyS33 (q 176))) rfl (c (gd 169 (mv hN (q 8))) rfl (c (gd 169 (indexD underlying33 tyS69 (B5 hx160).1 (F0 A8 (B5 hx160).2) (L rfl) (q 177) (q 178))) rfl (c (gd 169 (fieldD underlying69 (by rfl) (o:=1) (by rfl) tyS3 (by decide) (by rfl) (by rfl) (L rfl) (q 179))) rfl (c (gd 169 (loadD tyS3 (by rfl) (by rfl) (L rfl) (q 180))) rfl (c (gd 169 (neqI (L rfl) (q 175) (q 181))) rfl (c (pickF (L rfl) (q 169) (q 182)) rfl (c (OpJ.val (v':=.d (.bool true)) (by rw [hg161]<;>rfl) (mv hN (q 183))) rfl (ks 184 (L rfl) (ks 184 (L rfl) (ks 184 (L rfl) (ks 184 (L rfl) (ks 184 (L rfl) (ks 184 (L rfl) (ks 184 (L rfl) (ks 184 (L rfl) (ks 184 (L rfl) (ks 184 (L rfl) (ks 184 (L rfl) (ks 184 (L rfl) (ks 184 (L rfl) (ks 184 (L rfl) (ks 184 (L rfl) (c (pickT (L rfl) (q 184) (Opd.bool true)) rfl cn))))))))))))))))))))))))))))))))))))))))))))) (by kernel_rfl) (by kernel_rfl)
             exact hjj154 _ h _ _ (mp [] _ _ hB)
            ·have h:=A6 hg161 h
             obtain⟨x162,hx162,h⟩:=bindS h
             obtain⟨x163,hx163,h⟩:=bindS h
             apply dr (c (fo 1002 10 [8] hN underlying35 10 tyS33 (q 2)) rfl (c (la hN 35 tyS33 (q 156)) rfl (c (mv hN (q 8)) rfl (c (indexD underlying33 tyS69 (B5 hx156).1 (F0 A8 (B5 hx156).2) (L rfl) (q 157) (q 158)) rfl (c (fieldD underlying69 (by rfl) (o:=0) (by rfl) tyS3 (by decide) (by rfl) (by rfl) (L rfl) (q 159)) rfl (c (loadD tyS3 (by rfl) (by rfl) (L rfl) (q 160)) rfl (c (fo 1003 10 [8] hN underlying35 10 tyS33 (q 3)) rfl (c (la hN 35 tyS33 (q 162)) rfl (c (mv hN (q 8)) rfl (c (indexD underlying33 tyS69 (B5 hx157).1 (F0 A8 (B5 hx157).2) (L rfl) (q 163) (q 164)) rfl (c (fieldD underlying69 (by rfl) (o:=0) (by rfl) tyS3 (by decide) (by rfl) (by rfl) (L rfl) (q 165)) rfl (c (loadD tyS3 (by rfl) (by rfl) (L rfl) (q 166)) rfl (c (neqI (L rfl) (q 161) (q 167)) rfl (c (OpJ.val (v':=.d (.bool false)) (by rw [hg158]<;>rfl) (mv hN (q 168))) rfl (c (gd 169 (fo 1002 10 [8] hN underlying35 10 tyS33 (q 2))) rfl (c (gd 169 (la hN 35 tyS33 (q 170))) rfl (c (gd 169 (mv hN (q 8))) rfl (c (gd 169 (indexD underlying33 tyS69 (B5 hx159).1 (F0 A8 (B5 hx159).2) (L rfl) (q 171) (q 172))) rfl (c (gd 169 (fieldD underlying69 (by rfl) (o:=1) (by rfl) tyS3 (by decide) (by rfl) (by rfl) (L rfl) (q 173))) rfl (c (gd 169 (loadD tyS3 (by rfl) (by rfl) (L rfl) (q 174))) rfl (c (gd 169 (fo 1003 10 [8] hN underlying35 10 tyS33 (q 3))) rfl (c (gd 169 (la hN 35 tyS33 (q 176))) rfl (c (gd 169 (mv hN (q 8))) rfl (c (gd 169 (indexD underlying33 tyS69 (B5 hx160).1 (F0 A8 (B5 hx160).2) (L rfl) (q 177) (q 178))) rfl (c (gd 169 (fieldD underlying69 (by rfl) (o:=1) (by rfl) tyS3 (by decide) (by rfl) (by rfl) (L rfl) (q 179))) rfl (c (gd 169 (loadD tyS3 (by rfl) (by rfl) (L rfl) (q 180))) rfl (c (gd 169 (neqI (L rfl) (q 175) (q 181))) rfl (c (pickF (L rfl) (q 169) (q 182)) rfl (c (OpJ.val (v':=.d (.bool false)) (by rw [hg161]<;>rfl) (mv hN (q 183))) rfl (c (gd 184 (fo 1002 10 [8] hN underlying35 10 tyS33 (q 2))) rfl (c (gd 184 (la hN 35 tyS33 (q 185))) rfl (c (gd 184 (mv hN (q 8))) rfl (c (gd 184 (indexD underlying33 tyS69 (B5 hx162).1 (F0 A8 (B5 hx162).2) (L rfl) (q 186) (q 187))) rfl (c (gd 184 (fieldD underlying69 (by rfl) (o:=2) (by rfl) tyS67 (by decide) (by rfl) (by rfl) (L rfl) (q 188))) rfl (c (gd 184 (loadD tyS67 (by rfl) (by rfl) (L rfl) (q 189))) rfl (cg (gd 184 (OpJ.bytesStr (xs:=x162.fData) tyU67 underlying5 underlying9 (L rfl) (q 190))) rfl (c (gd 184 (fo 1003 10 [8] hN underlying35 10 tyS33 (q 3))) rfl (c (gd 184 (la hN 35 tyS33 (q 192))) rfl (c (gd 184 (mv hN (q 8))) rfl (c (gd 184 (indexD underlying33 tyS69 (B5 hx163).1 (F0 A8 (B5 hx163).2) (L rfl) (q 193) (q 194))) rfl (c (gd 184 (fieldD underlying69 (by rfl) (o:=2) (by rfl) tyS67 (by decide) (by rfl) (by rfl) (L rfl) (q 195))) rfl (c (gd 184 (loadD tyS67 (by rfl) (by rfl) (L rfl) (q 196))) rfl (cg (gd 184 (OpJ.bytesStr (xs:=x163.fData) tyU67 underlying5 underlying9 (L rfl) (q 197))) rfl (cg (gd 184 (OpJ.neqS (L rfl) (q 191) (q 198))) rfl (c (pickF (L rfl) (q 184) (q 199)) rfl cn))))))))))))))))))))))))))))))))))))))))))))) (by kernel_rfl) (by kernel_rfl)
             exact hjj154 _ h _ _ (mp [] _ _ hB)
         ·have h:=A6 hg142 h
          apply AWp.exit
          apply E5
          obtain rfl:=oi h
          exact⟨(fun hc=>by cases hc),rfl,(mp [] _ _ hB)⟩
        ·rcases x164 with _ | _
         ·obtain⟨rfl,hmat⟩:=hR
          apply D7
          apply B9
          obtain rfl:=oi h
          exact rt (Mat.trans hmat (mp [] [(4,(bo false))] [] hB)) [(bo false)] (rT rN) rfl
         ·obtain⟨rfl,hmat⟩:=hR
          apply C6
          apply A0
          refine ghost hmat ?_
          apply sr (c (assign (L rfl) (Opd.bool true)) rfl cn)
          apply ret
          obtain rfl:=oi h
          exact rt (kp [(4,_)] [] hB rfl rfl (by rfl)) [(bo true)] (rT rN) rfl
def M8 (a0:D1) (s1:Int×(List B8)):Option ((((List B8)))⊕(Int×(List B8))) :=
 (if (decide (s1.1<(a0.fPath.length:Int)))=true then
 (idx a0.fPath s1.1).bind fun x13 =>
 chk (decide (x13.fASNs.length≤LIM)) <|
 chk (decide ((s1.2++[(B8.mk x13.fSet x13.fASNs)]).length≤LIM)) <|
 some (.inr ((w64 (s1.1+1)),(s1.2++[(B8.mk x13.fSet x13.fASNs)])))
 else
 some (.inl s1.2))
def Q7 (a0:D1) (s20:Int×(List A1)):Option ((((List A1)))⊕(Int×(List A1))) :=
 (if (decide (s20.1<(a0.fOther.length:Int)))=true then
 (idx a0.fOther s20.1).bind fun x32 =>
 chk (decide (x32.fData.length≤LIM)) <|
 chk (decide ((s20.2++[(A1.mk x32.fFlags x32.fType x32.fData)]).length≤LIM)) <|
 some (.inr ((w64 (s20.1+1)),(s20.2++[(A1.mk x32.fFlags x32.fType x32.fData)])))
 else
 some (.inl s20.2))
def N2 (a0:D1):Option (D1) :=
 (loop (M8 a0) (0,([]:List B8))).bind fun p11 =>
 chk (decide (a0.fCommunities.length≤LIM)) <|
 chk (decide (a0.fLarge.length≤LIM)) <|
 (loop (Q7 a0) (0,([]:List A1))).bind fun p30 =>
 some (D1.mk a0.fOrigin p11 a0.fNext a0.fMED a0.fPref a0.fOTC a0.fCommunities a0.fLarge p30)
theorem A5j (a0:D1) (r:D1) (h:N2 a0=some r):AC Tryz.prog 37 [(.d (A3 a0))] [] (.d (A3 r)) []:=by
 refine ac2 Tryz.func37 rfl rfl fun B hB hN L => ?_
 delta N2 at h
 refine sr (SQ tt) ?_
 refine sr (SQ tt) ?_
 refine sr (SQ tt) ?_
 apply seq
 refine sr (SQ tt) ?_
 apply block
 obtain⟨p11,hx17,h⟩:=bindS h
 refine lg (M8 a0) (fun s1:Int×(List B8)=>([(1,(pt 1001)),(2,(pt 1002)),(3,(pt 1003)),(12,(B0 a0.fPath)),(13,(i6 (a0.fPath.length:Int))),(14,(i6 s1.1))]:EL)) (fun s1:Int×(List B8)=>([(1001,bd 35 (A3 a0)),(1002,some (.box 35 (.st [(i6 0),.nils,(.d (.st [(.bool false),(.int .u64 0),(.int .u64 0)])),(i6 0),(i6 0),(i6 0),.nils,.nils,.nils]))),(1003,some (.box 35 (.st [(i6 a0.fOrigin),(.sref 13031 2 0 s1.2.length),(.d (C9 a0.fNext)),(i6 a0.fMED),(i6 a0.fPref),(i6 a0.fOTC),(A9 a0.fCommunities),(D0 a0.fLarge),.nils]))),(13031,some (I5 s1.2))]:OL)) (fun(p11:((List B8))) e E' O'=>e = .exit 0∧Mat B E' O' ([(1,(pt 1001)),(2,(pt 1002)),(3,(pt 1003))]:EL) ([(1001,bd 35 (A3 a0)),(1002,some (.box 35 (.st [(i6 0),.nils,(.d (.st [(.bool false),(.int .u64 0),(.int .u64 0)])),(i6 0),(i6 0),(i6 0),.nils,.nils,.nils]))),(1003,some (.box 35 (.st [(i6 a0.fOrigin),(.sref 13031 2 0 p11.length),(.d (C9 a0.fNext)),(i6 a0.fMED),(i6 a0.fPref),(i6 a0.fOTC),(A9 a0.fCommunities),(D0 a0.fLarge),.nils]))),(13031,some (I5 p11))]:OL)) hx17 (Mat.trans (Mat.beginP (n:=13031) (e:=66) (sz:=2) (Ts:=[]) (Bs:=[(1003,some (.box 35 (.st [(i6 a0.fOrigin),(.sref 13031 2 0 0),(.d (C9 a0.fNext)),(i6 a0.fMED),(i6 a0.fPref),(i6 a0.fOTC),(A9 a0.fCommunities),(D0 a0.fLarge),.nils])))]) hB (by decide) (by rfl) (by decide) TwT.nil (TwB.cons (x:=(.st [(i6 a0.fOrigin),.nils,(.d (C9 a0.fNext)),(i6 a0.fMED),(i6 a0.fPref),(i6 a0.fOTC),(A9 a0.fCommunities),(D0 a0.fLarge),.nils])) (by rfl) (Tw.st (TwL.cons (Tw.same _) (TwL.cons (Tw.leaf ⟨rfl,rfl⟩) (TwL.cons (Tw.same _) (TwL.cons (Tw.same _) (TwL.cons (Tw.same _) (TwL.cons (Tw.same _) (TwL.cons (Tw.same _) (TwL.cons (Tw.same _) (TwL.cons (Tw.same _) TwL.nil)))))))))) TwB.nil)) (mp [] _ _ hB)) (fun s1 y h => ?_) (fun e E' O' hR => ?_)
 ·unfold M8 at h
  refine sr (SQ tt) ?_
  apply seq
  apply AWp.cond rfl<;>intro hg12
  ·have h:=A5 hg12 h
   apply AWp.skip
   apply A0
   apply seq
   apply block
   obtain⟨x13,hx13,h⟩:=bindS h
   refine sr (SQ (fa hx13 tt)) ?_
   obtain⟨hc14,h⟩:=C0 h
   obtain⟨hc15,h⟩:=C0 h
   apply dr (c (fo 1003 1 [1] hN underlying35 1 tyS30 (q 3)) rfl (c (lb hN 35 _ (.sref 13031 2 0 s1.2.length) tyS30 (At.st1 (f:=(.sref 13031 2 0 s1.2.length)) (by rfl) (by rfl) (At.here _) (by first | rfl | omega)) (q 18)) rfl (c (fo 1005 0 [0] hN underlying66 0 tyS4 (q 5)) rfl (c (la hN 66 tyS4 (q 20)) rfl (c (fo 1005 1 [1] hN underlying66 1 tyS23 (q 5)) rfl (c (la hN 66 tyS23 (q 22)) rfl (cg (OpJ.frz (OpJ.appendN hB underlying23 tyE3 (nm:=1024) (by decide) (ys:=x13.fASNs.map (eI .i64)) (len:=x13.fASNs.length) (by simp) (A45 (f:=(eI .i64)) (fun _=>rfl)) (by rw [List.length_map];exact Y8 hc14 (by decide)) (by rw [List.length_map];exact A2c hc14) (L rfl) Opd.nils (q 23)) (by simp)) rfl (c (OpJ.coe (v:=(.st [(bo x13.fSet),(qI_1 x13.fASNs)])) (y:=(.st [(.bool x13.fSet),(.list 1 (x13.fASNs.map (eI .i64)))])) (Co.st (CoL.cons (Co.d _) (CoL.cons (Co.d _) CoL.nil))) rfl (OpJ.build (places:=[(0,1),(1,1)]) ⟨underlying66,fun w=>by kernel_rfl⟩ tyZS66 (Opds.cons (q 21) (Opds.cons (q 24) Opds.nil)) (by kernel_rfl) (r:=(.st [(bo x13.fSet),(qI_1 x13.fASNs)])) (by rfl) (L rfl))) rfl (c (buildSlice underlying30 tyS66 tyZD66 (by rfl) (by decide) (by decide) (Opds.cons (q 25) Opds.nil) (by kernel_rfl) (es:=([(.st [(.bool x13.fSet),(.list 1 (x13.fASNs.map (eI .i64)))])]:List D)) (by rfl) (by rfl) (by kernel_rfl) (by simp) (L rfl)) rfl (cg (apd hB underlying30 tyE66 1027 C4 s1.2 [(B8.mk x13.fSet x13.fASNs)] hc15 (L rfl) (q 19) (q 26)) rfl (c (fo 1003 1 [1] hN underlying35 1 tyS30 (q 3)) rfl (cg (OpJ.storeB (c':=(.st [(i6 a0.fOrigin),(.sref 1027 2 0 ((s1.2++[(B8.mk x13.fSet x13.fASNs)]).length)),(.d (C9 a0.fNext)),(i6 a0.fMED),(i6 a0.fPref),(i6 a0.fOTC),(A9 a0.fCommunities),(D0 a0.fLarge),.nils])) tyS30 (SetAt.st1 (f:=(.sref 13031 2 0 s1.2.length)) (by rfl) (by rfl) (SetAt.here _ _) (by rfl) (by rfl) (by first | rfl | omega)) (by rfl) (by rfl) (by simp) rfl (q 28) (q 27)) rfl cn)))))))))))) (by kernel_rfl) (by kernel_rfl)
   apply E4
   apply A0
   refine rg (SQ tt) ?_
   obtain rfl:=oi h
   exact⟨rfl,(mp [(13031,1027)] _ _ hB)⟩
  ·have h:=A6 hg12 h
   apply AWp.exit
   apply E5
   obtain rfl:=oi h
   exact⟨(fun hc=>by cases hc),rfl,(mp [] _ _ hB)⟩
 ·obtain⟨rfl,hmat⟩:=hR
  apply C6
  apply A0
  refine ghost hmat ?_
  obtain⟨hc18,h⟩:=C0 h
  refine sr (SQ (fa hc18 tt)) ?_
  obtain⟨hc19,h⟩:=C0 h
  refine sr (SQ (fa hc19 tt)) ?_
  apply seq
  refine sr (SQ tt) ?_
  apply block
  obtain⟨p30,hx36,h⟩:=bindS h
  refine lg (Q7 a0) (fun s20:Int×(List A1)=>([(2,(pt 1002)),(3,(pt 1003)),(39,(B2 a0.fOther)),(40,(i6 (a0.fOther.length:Int))),(41,(i6 s20.1))]:EL)) (fun s20:Int×(List A1)=>([(1002,some (.box 35 (.st [(i6 0),.nils,(.d (.st [(.bool false),(.int .u64 0),(.int .u64 0)])),(i6 0),(i6 0),(i6 0),.nils,.nils,.nils]))),(1003,some (.box 35 (.st [(i6 a0.fOrigin),(.sref 13031 2 0 p11.length),(.d (C9 a0.fNext)),(i6 a0.fMED),(i6 a0.fPref),(i6 a0.fOTC),(.sref 1032 2 0 a0.fCommunities.length),(.sref 1036 3 0 a0.fLarge.length),(.sref 13038 3 0 s20.2.length)]))),(1032,some (A2m a0.fCommunities)),(1036,some (A4c a0.fLarge)),(13031,some (I5 p11)),(13038,some (D2 s20.2))]:OL)) (fun(p30:((List A1))) e E' O'=>e = .exit 2∧Mat B E' O' ([(2,(pt 1002)),(3,(pt 1003))]:EL) ([(1002,some (.box 35 (.st [(i6 0),.nils,(.d (.st [(.bool false),(.int .u64 0),(.int .u64 0)])),(i6 0),(i6 0),(i6 0),.nils,.nils,.nils]))),(1003,some (.box 35 (.st [(i6 a0.fOrigin),(.sref 13031 2 0 p11.length),(.d (C9 a0.fNext)),(i6 a0.fMED),(i6 a0.fPref),(i6 a0.fOTC),(.sref 1032 2 0 a0.fCommunities.length),(.sref 1036 3 0 a0.fLarge.length),(.sref 13038 3 0 p30.length)]))),(1032,some (A2m a0.fCommunities)),(1036,some (A4c a0.fLarge)),(13031,some (I5 p11)),(13038,some (D2 p30))]:OL)) hx36 (Mat.trans (Mat.beginP (n:=13038) (e:=69) (sz:=3) (Ts:=[]) (Bs:=[(1003,some (.box 35 (.st [(i6 a0.fOrigin),(.sref 13031 2 0 p11.length),(.d (C9 a0.fNext)),(i6 a0.fMED),(i6 a0.fPref),(i6 a0.fOTC),(.sref 1032 2 0 a0.fCommunities.length),(.sref 1036 3 0 a0.fLarge.length),(.sref 13038 3 0 0)])))]) hB (by decide) (by rfl) (by decide) TwT.nil (TwB.cons (x:=(.st [(i6 a0.fOrigin),(.sref 13031 2 0 p11.length),(.d (C9 a0.fNext)),(i6 a0.fMED),(i6 a0.fPref),(i6 a0.fOTC),(.sref 1032 2 0 a0.fCommunities.length),(.sref 1036 3 0 a0.fLarge.length),.nils])) (by rfl) (Tw.st (TwL.cons (Tw.same _) (TwL.cons (Tw.same _) (TwL.cons (Tw.same _) (TwL.cons (Tw.same _) (TwL.cons (Tw.same _) (TwL.cons (Tw.same _) (TwL.cons (Tw.same _) (TwL.cons (Tw.same _) (TwL.cons (Tw.leaf ⟨rfl,rfl⟩) TwL.nil)))))))))) TwB.nil)) (mp [] _ _ hB)) (fun s20 y h => ?_) (fun e E' O' hR => ?_)
  ·unfold Q7 at h
   refine sr (SQ tt) ?_
   apply seq
   apply AWp.cond rfl<;>intro hg31
   ·have h:=A5 hg31 h
    apply AWp.skip
    apply A0
    apply seq
    apply block
    obtain⟨x32,hx32,h⟩:=bindS h
    refine sr (SQ (fa hx32 tt)) ?_
    obtain⟨hc33,h⟩:=C0 h
    obtain⟨hc34,h⟩:=C0 h
    apply dr (c (fo 1003 10 [8] hN underlying35 10 tyS33 (q 3)) rfl (c (lb hN 35 _ (.sref 13038 3 0 s20.2.length) tyS33 (At.st1 (f:=(.sref 13038 3 0 s20.2.length)) (by rfl) (by rfl) (At.here _) (by first | rfl | omega)) (q 45)) rfl (c (fo 1007 0 [0] hN underlying69 0 tyS3 (q 7)) rfl (c (la hN 69 tyS3 (q 47)) rfl (c (fo 1007 1 [1] hN underlying69 1 tyS3 (q 7)) rfl (c (la hN 69 tyS3 (q 49)) rfl (c (fo 1007 2 [2] hN underlying69 2 tyS67 (q 7)) rfl (c (la hN 69 tyS67 (q 51)) rfl (cg (OpJ.frz (OpJ.appendN hB underlying67 tyE5 (nm:=1053) (by decide) (ys:=x32.fData.map (eI .u8)) (len:=x32.fData.length) (by simp) (A45 (f:=(eI .u8)) (fun _=>rfl)) (by rw [List.length_map];exact Y8 hc33 (by decide)) (by rw [List.length_map];exact A2c hc33) (L rfl) Opd.nils (q 52)) (by simp)) rfl (c (OpJ.coe (v:=(.st [(i6 x32.fFlags),(i6 x32.fType),(.d (.list 1 (x32.fData.map (eI .u8))))])) (y:=(.st [(.int .i64 x32.fFlags),(.int .i64 x32.fType),(.list 1 (x32.fData.map (eI .u8)))])) (Co.st (CoL.cons (Co.d _) (CoL.cons (Co.d _) (CoL.cons (Co.d _) CoL.nil)))) rfl (OpJ.build (places:=[(0,1),(1,1),(2,1)]) ⟨underlying69,fun w=>by kernel_rfl⟩ tyZS69 (Opds.cons (q 48) (Opds.cons (q 50) (Opds.cons (q 53) Opds.nil))) (by kernel_rfl) (r:=(.st [(i6 x32.fFlags),(i6 x32.fType),(.d (.list 1 (x32.fData.map (eI .u8))))])) (by rfl) (L rfl))) rfl (c (buildSlice underlying33 tyS69 tyZD69 (by rfl) (by decide) (by decide) (Opds.cons (q 54) Opds.nil) (by kernel_rfl) (es:=([(.st [(.int .i64 x32.fFlags),(.int .i64 x32.fType),(.list 1 (x32.fData.map (eI .u8)))])]:List D)) (by rfl) (by rfl) (by kernel_rfl) (by simp) (L rfl)) rfl (cg (apd hB underlying33 tyE69 1056 A8 s20.2 [(A1.mk x32.fFlags x32.fType x32.fData)] hc34 (L rfl) (q 46) (q 55)) rfl (c (fo 1003 10 [8] hN underlying35 10 tyS33 (q 3)) rfl (cg (OpJ.storeB (c':=(.st [(i6 a0.fOrigin),(.sref 13031 2 0 p11.length),(.d (C9 a0.fNext)),(i6 a0.fMED),(i6 a0.fPref),(i6 a0.fOTC),(.sref 1032 2 0 a0.fCommunities.length),(.sref 1036 3 0 a0.fLarge.length),(.sref 1056 3 0 ((s20.2++[(A1.mk x32.fFlags x32.fType x32.fData)]).length))])) tyS33 (SetAt.st1 (f:=(.sref 13038 3 0 s20.2.length)) (by rfl) (by rfl) (SetAt.here _ _) (by rfl) (by rfl) (by first | rfl | omega)) (by rfl) (by rfl) (by simp) rfl (q 57) (q 56)) rfl cn)))))))))))))) (by kernel_rfl) (by kernel_rfl)
    apply E4
    apply A0
    refine rg (SQ tt) ?_
    obtain rfl:=oi h
    exact⟨rfl,(mp [(13038,1056)] _ _ hB)⟩
   ·have h:=A6 hg31 h
    apply AWp.exit
    apply E5
    obtain rfl:=oi h
    exact⟨(fun hc=>by cases hc),rfl,(mp [] _ _ hB)⟩
  ·obtain⟨rfl,hmat⟩:=hR
   apply C6
   apply A0
   refine ghost hmat ?_
   refine sr (SQ tt) ?_
   apply ret
   obtain rfl:=oi h
   exact rt (Mat.trans (Mat.freezeP (n:=13031) (e:=66) (sz:=2) (es:=p11.map C4) (Ts:=[]) (Bs:=[(1002,some (.box 35 (.st [(i6 a0.fOrigin),(B0 p11),(.d (C9 a0.fNext)),(i6 a0.fMED),(i6 a0.fPref),(i6 a0.fOTC),(.sref 1032 2 0 a0.fCommunities.length),(.sref 1036 3 0 a0.fLarge.length),(.sref 13038 3 0 p30.length)])))]) (by rfl) TwT.nil (TwB.cons (x:=(.st [(i6 a0.fOrigin),(.sref 13031 2 0 p11.length),(.d (C9 a0.fNext)),(i6 a0.fMED),(i6 a0.fPref),(i6 a0.fOTC),(.sref 1032 2 0 a0.fCommunities.length),(.sref 1036 3 0 a0.fLarge.length),(.sref 13038 3 0 p30.length)])) (by rfl) (Tw.st (TwL.cons (Tw.same _) (TwL.cons (FrzL.all (by first | rfl | (simp;done) | (simp;omega) | omega)) (TwL.cons (Tw.same _) (TwL.cons (Tw.same _) (TwL.cons (Tw.same _) (TwL.cons (Tw.same _) (TwL.cons (Tw.same _) (TwL.cons (Tw.same _) (TwL.cons (Tw.same _) TwL.nil)))))))))) TwB.nil)) (Mat.trans (Mat.freezeP (n:=1032) (e:=98) (sz:=2) (es:=a0.fCommunities.map B7) (Ts:=[]) (Bs:=[(1002,some (.box 35 (.st [(i6 a0.fOrigin),(B0 p11),(.d (C9 a0.fNext)),(i6 a0.fMED),(i6 a0.fPref),(i6 a0.fOTC),(A9 a0.fCommunities),(.sref 1036 3 0 a0.fLarge.length),(.sref 13038 3 0 p30.length)])))]) (by rfl) TwT.nil (TwB.cons (x:=(.st [(i6 a0.fOrigin),(B0 p11),(.d (C9 a0.fNext)),(i6 a0.fMED),(i6 a0.fPref),(i6 a0.fOTC),(.sref 1032 2 0 a0.fCommunities.length),(.sref 1036 3 0 a0.fLarge.length),(.sref 13038 3 0 p30.length)])) (by rfl) (Tw.st (TwL.cons (Tw.same _) (TwL.cons (Tw.same _) (TwL.cons (Tw.same _) (TwL.cons (Tw.same _) (TwL.cons (Tw.same _) (TwL.cons (Tw.same _) (TwL.cons (FrzL.all (by first | rfl | (simp;done) | (simp;omega) | omega)) (TwL.cons (Tw.same _) (TwL.cons (Tw.same _) TwL.nil)))))))))) TwB.nil)) (Mat.trans (Mat.freezeP (n:=1036) (e:=100) (sz:=3) (es:=a0.fLarge.map D8) (Ts:=[]) (Bs:=[(1002,some (.box 35 (.st [(i6 a0.fOrigin),(B0 p11),(.d (C9 a0.fNext)),(i6 a0.fMED),(i6 a0.fPref),(i6 a0.fOTC),(A9 a0.fCommunities),(D0 a0.fLarge),(.sref 13038 3 0 p30.length)])))]) (by rfl) TwT.nil (TwB.cons (x:=(.st [(i6 a0.fOrigin),(B0 p11),(.d (C9 a0.fNext)),(i6 a0.fMED),(i6 a0.fPref),(i6 a0.fOTC),(A9 a0.fCommunities),(.sref 1036 3 0 a0.fLarge.length),(.sref 13038 3 0 p30.length)])) (by rfl) (Tw.st (TwL.cons (Tw.same _) (TwL.cons (Tw.same _) (TwL.cons (Tw.same _) (TwL.cons (Tw.same _) (TwL.cons (Tw.same _) (TwL.cons (Tw.same _) (TwL.cons (Tw.same _) (TwL.cons (FrzL.all (by first | rfl | (simp;done) | (simp;omega) | omega)) (TwL.cons (Tw.same _) TwL.nil)))))))))) TwB.nil)) (Mat.trans (Mat.freezeP (n:=13038) (e:=69) (sz:=3) (es:=p30.map A8) (Ts:=[]) (Bs:=[(1002,some (.box 35 (.st [(i6 a0.fOrigin),(B0 p11),(.d (C9 a0.fNext)),(i6 a0.fMED),(i6 a0.fPref),(i6 a0.fOTC),(A9 a0.fCommunities),(D0 a0.fLarge),(B2 p30)])))]) (by rfl) TwT.nil (TwB.cons (x:=(.st [(i6 a0.fOrigin),(B0 p11),(.d (C9 a0.fNext)),(i6 a0.fMED),(i6 a0.fPref),(i6 a0.fOTC),(A9 a0.fCommunities),(D0 a0.fLarge),(.sref 13038 3 0 p30.length)])) (by rfl) (Tw.st (TwL.cons (Tw.same _) (TwL.cons (Tw.same _) (TwL.cons (Tw.same _) (TwL.cons (Tw.same _) (TwL.cons (Tw.same _) (TwL.cons (Tw.same _) (TwL.cons (Tw.same _) (TwL.cons (Tw.same _) (TwL.cons (FrzL.all (by first | rfl | (simp;done) | (simp;omega) | omega)) TwL.nil)))))))))) TwB.nil)) (Mat.trans (Mat.coeP (Ts:=[]) (Bs:=[(1002,bd 35 (.st [(.int .i64 a0.fOrigin),(.list 2 (p11.map C4)),(C9 a0.fNext),(.int .i64 a0.fMED),(.int .i64 a0.fPref),(.int .i64 a0.fOTC),(.list 2 (a0.fCommunities.map B7)),(.list 3 (a0.fLarge.map D8)),(.list 3 (p30.map A8))]))]) TwT.nil (TwB.cons (x:=(.st [(i6 a0.fOrigin),(B0 p11),(.d (C9 a0.fNext)),(i6 a0.fMED),(i6 a0.fPref),(i6 a0.fOTC),(A9 a0.fCommunities),(D0 a0.fLarge),(B2 p30)])) (by rfl) (Tw.leaf ⟨_,(Co.st (CoL.cons (Co.d _) (CoL.cons (Co.d _) (CoL.cons (Co.d _) (CoL.cons (Co.d _) (CoL.cons (Co.d _) (CoL.cons (Co.d _) (CoL.cons (Co.d _) (CoL.cons (Co.d _) (CoL.cons (Co.d _) CoL.nil)))))))))),rfl⟩) TwB.nil)) (mp [] [(2,(pt 1002))] [(1002,bd 35 (.st [(.int .i64 a0.fOrigin),(.list 2 (p11.map C4)),(C9 a0.fNext),(.int .i64 a0.fMED),(.int .i64 a0.fPref),(.int .i64 a0.fOTC),(.list 2 (a0.fCommunities.map B7)),(.list 3 (a0.fLarge.map D8)),(.list 3 (p30.map A8))]))] hB)))))) [(.d (.st [(.int .i64 a0.fOrigin),(.list 2 (p11.map C4)),(C9 a0.fNext),(.int .i64 a0.fMED),(.int .i64 a0.fPref),(.int .i64 a0.fOTC),(.list 2 (a0.fCommunities.map B7)),(.list 3 (a0.fLarge.map D8)),(.list 3 (p30.map A8))]))] (Res.cell (c:=(.d (.st [(.int .i64 a0.fOrigin),(.list 2 (p11.map C4)),(C9 a0.fNext),(.int .i64 a0.fMED),(.int .i64 a0.fPref),(.int .i64 a0.fOTC),(.list 2 (a0.fCommunities.map B7)),(.list 3 (a0.fLarge.map D8)),(.list 3 (p30.map A8))]))) (by rfl) (by rfl) tyS35 (by rfl) (by rfl) (by rfl) rN) rfl
def Q0 (a0:D3):Option (Bool) :=
 jn (fun m2:Bool =>
 some m2) (fun j3 =>
 (if a0.fV6=true then
 j3 true
 else
 j3 ((a0.fHi==0)&&(decide (a0.fLo<4294967296)))))
theorem I4 (a0:D3) (r:Bool) (h:Q0 a0=some r):AC Tryz.prog 78 [(.d (C9 a0))] [] (.d (.bool r)) []:=by
 refine ac2 Tryz.func78 rfl rfl fun B hB hN L => ?_
 delta Q0 at h
 refine sr (SQ tt) ?_
 apply seq
 refine AWp.cut h (fun m2:Bool=>([(2,(bo m2))]:EL)) (fun m2:Bool=>([]:OL)) (fun m2 h E' O' hmat => ?_) (fun j3 hjj3 h => ?_)
 ·apply A0
  refine ghost hmat ?_
  apply ret
  obtain rfl:=oi h
  exact rt (kp [(2,_)] [] hB rfl rfl (by rfl)) [(bo m2)] (rT rN) rfl
 ·rcases bft a0.fV6 with hg4 | hg4
  ·have h:=A5 hg4 h
   refine rg (SQ (fa hg4 tt)) ?_
   exact hjj3 _ h _ _ (mp [] _ _ hB)
  ·have h:=A6 hg4 h
   refine rg (SQ (fa hg4 tt)) ?_
   exact hjj3 _ h _ _ (mp [] _ _ hB)
def A2h (a0:D3):Option (Int) :=
 (if a0.fV6=true then
 some 128
 else
 some 32)
theorem A7x (a0:D3) (r:Int) (h:A2h a0=some r):AC Tryz.prog 99 [(.d (C9 a0))] [] (.d (.int .i64 r)) []:=by
 refine AC.of_code2 Tryz.func99 rfl rfl (Nat.le_of_ble_eq_true (by rfl)) fun B hB hN => ?_
 delta A2h at h
 refine sr (SQ tt) ?_
 apply seq
 refine sr (SQ tt) ?_
 apply AWp.cond rfl<;>intro hg1
 ·have h:=A5 hg1 h
  refine sr (SQ tt) ?_
  apply ret
  apply B9
  obtain rfl:=oi h
  exact rt (kp [(2,_)] [] hB rfl rfl (by rfl)) [(i6 128)] (rT rN) rfl
 ·have h:=A6 hg1 h
  apply AWp.skip
  apply A0
  refine sr (SQ tt) ?_
  apply ret
  obtain rfl:=oi h
  exact rt (kp [(2,_)] [] hB rfl rfl (by rfl)) [(i6 32)] (rT rN) rfl
def Z7 (a0:D3) (s6:Int×(List Int)):Option ((((List Int)))⊕(Int×(List Int))) :=
 (if (decide (0≤s6.1))=true then
 jn (fun m22:Int =>
 chk (decide ((s6.2++([(IntKind.u8.wrap (shrI .u64 m22 (IntKind.u64.wrap (8*(IntKind.u64.wrap (Int.tmod s6.1 8))))))]:List Int)).length≤LIM)) <|
 some (.inr ((w64 (s6.1-1)),(s6.2++([(IntKind.u8.wrap (shrI .u64 m22 (IntKind.u64.wrap (8*(IntKind.u64.wrap (Int.tmod s6.1 8))))))]:List Int))))) (fun j23 =>
 (if (decide (8≤s6.1))=true then
 j23 a0.fHi
 else
 j23 a0.fLo))
 else
 some (.inl s6.2))
def L4 (a0:D3):Option ((List Int)) :=
 (Q0 a0).bind fun r1 =>
 (if (!r1)=true then
 some ([]:List Int)
 else
 jn (fun m4:Int =>
 (loop (Z7 a0) ((w64 (m4-1)),([]:List Int))).bind fun p19 =>
 some p19) (fun j5 =>
 (if a0.fV6=true then
 j5 16
 else
 j5 4)))
theorem A26 (a0:D3) (r:(List Int)) (h:L4 a0=some r):AC Tryz.prog 84 [(.d (C9 a0))] [] (.d (.list 1 (r.map (eI .u8)))) []:=by
 refine ac2 Tryz.func84 rfl rfl fun B hB hN L => ?_
 delta L4 at h
 refine sr (SQ tt) ?_
 apply seq
 obtain⟨r1,hr1,h⟩:=bindS h
 refine sr (SQ (fa (cl [] (I4 a0 r1 hr1)) tt)) ?_
 apply AWp.cond rfl<;>intro hg2
 ·have h:=A5 hg2 h
  refine sr (SQ tt) ?_
  apply ret
  apply B9
  obtain rfl:=oi h
  exact rt (Mat.trans (Mat.coeP (Ts:=[(2,(.d (.list 1 (([]:List Int).map (eI .u8)))))]) (Bs:=[]) (TwT.cons (x:=.nils) (by rfl) (Tw.leaf ⟨_,(Co.nils 1),rfl⟩) TwT.nil) TwB.nil) (mp [] [(2,(.d (.list 1 (([]:List Int).map (eI .u8)))))] [] hB)) [(.d (.list 1 (([]:List Int).map (eI .u8))))] (rT rN) rfl
 ·have h:=A6 hg2 h
  apply AWp.skip
  apply A0
  refine sr (SQ tt) ?_
  apply seq
  refine sr (SQ tt) ?_
  refine gh [(1,_),(3,_),(11,_)] [(1001,some _)] hB rfl rfl (by rfl) ?_
  refine AWp.cut h (fun m4:Int=>([(1,(pt 1001)),(3,(i6 m4))]:EL)) (fun m4:Int=>([(1001,bd 27 (C9 a0))]:OL)) (fun m4 h E' O' hmat => ?_) (fun j5 hjj5 h => ?_)
  ·apply A0
   refine ghost hmat ?_
   refine sr (SQ tt) ?_
   apply seq
   refine sr (SQ tt) ?_
   apply block
   obtain⟨p19,hx27,h⟩:=bindS h
   refine lg (Z7 a0) (fun s6:Int×(List Int)=>([(1,(pt 1001)),(4,(.sref 3004 1 0 s6.2.length)),(5,(i6 s6.1))]:EL)) (fun s6:Int×(List Int)=>([(1001,bd 27 (C9 a0)),(3004,some (.row 5 1 (s6.2.map (eI .u8))))]:OL)) (fun(p19:((List Int))) e E' O'=>e = .exit 0∧Mat B E' O' ([(4,(.sref 3004 1 0 p19.length))]:EL) ([(3004,some (.row 5 1 (p19.map (eI .u8))))]:OL)) hx27 (Mat.trans (Mat.beginP (n:=3004) (e:=5) (sz:=1) (Ts:=[(4,(.sref 3004 1 0 0))]) (Bs:=[]) hB (by decide) (by rfl) (by decide) (TwT.cons (x:=.nils) (by rfl) (Tw.leaf ⟨rfl,rfl⟩) TwT.nil) TwB.nil) (mp [] _ _ hB)) (fun s6 y h => ?_) (fun e E' O' hR => ?_)
   ·unfold Z7 at h
    apply seq
    refine sr (SQ tt) ?_
    apply AWp.cond rfl<;>intro hg20
    ·have h:=A5 hg20 h
     apply AWp.skip
     apply A0
     apply seq
     apply block
     refine sr (SQ tt) ?_
     apply seq
     refine sr (SQ tt) ?_
     refine gh [(1,_),(4,_),(5,_),(6,_),(21,_)] [(1001,some _),(3004,some _)] hB rfl rfl (by rfl) ?_
     refine AWp.cut h (fun m22:Int=>([(1,(pt 1001)),(4,(.sref 3004 1 0 s6.2.length)),(5,(i6 s6.1)),(6,(.d (.int .u64 m22)))]:EL)) (fun m22:Int=>([(1001,bd 27 (C9 a0)),(3004,some (.row 5 1 (s6.2.map (eI .u8))))]:OL)) (fun m22 h E' O' hmat => ?_) (fun j23 hjj23 h => ?_)
     ·apply A0
      refine ghost hmat ?_
      obtain⟨hc24,h⟩:=C0 h
      refine rg (SQ (fa hc24 tt)) ?_
      apply E4
      apply A0
      refine rg (SQ tt) ?_
      obtain rfl:=oi h
      exact⟨rfl,(mp [(3004,1033)] _ _ hB)⟩
     ·apply AWp.cond rfl<;>intro hg25
      ·have h:=A5 hg25 h
       refine rg (SQ tt) ?_
       exact hjj23 _ h _ _ (mp [] _ _ hB)
      ·have h:=A6 hg25 h
       apply AWp.skip
       exact hjj23 _ h _ _ (mp [] _ _ hB)
    ·have h:=A6 hg20 h
     apply AWp.exit
     apply E5
     obtain rfl:=oi h
     exact⟨(fun hc=>by cases hc),rfl,(mp [] _ _ hB)⟩
   ·obtain⟨rfl,hmat⟩:=hR
    apply C6
    apply A0
    refine ghost hmat ?_
    refine sr (SQ tt) ?_
    apply ret
    obtain rfl:=oi h
    exact rt (Mat.trans (Mat.freezeP (n:=3004) (e:=5) (sz:=1) (es:=p19.map (eI .u8)) (Ts:=[(2,(.d (.list 1 (p19.map (eI .u8)))))]) (Bs:=[]) (by rfl) (TwT.cons (x:=(.sref 3004 1 0 p19.length)) (by rfl) (FrzL.all (by first | rfl | (simp;done) | (simp;omega) | omega)) TwT.nil) TwB.nil) (mp [] [(2,(.d (.list 1 (p19.map (eI .u8)))))] [] hB)) [(.d (.list 1 (p19.map (eI .u8))))] (rT rN) rfl
  ·apply AWp.cond rfl<;>intro hg28
   ·have h:=A5 hg28 h
    refine rg (SQ tt) ?_
    exact hjj5 _ h _ _ (mp [] _ _ hB)
   ·have h:=A6 hg28 h
    apply AWp.skip
    exact hjj5 _ h _ _ (mp [] _ _ hB)
def A11 (a0:D3) (s6:Int×(List Int)):Option ((((List Int)))⊕(Int×(List Int))) :=
 (if (decide (0≤s6.1))=true then
 jn (fun m22:Int =>
 chk (decide ((s6.2++([(IntKind.u8.wrap (shrI .u64 m22 (IntKind.u64.wrap (8*(IntKind.u64.wrap (Int.tmod s6.1 8))))))]:List Int)).length≤LIM)) <|
 some (.inr ((w64 (s6.1-1)),(s6.2++([(IntKind.u8.wrap (shrI .u64 m22 (IntKind.u64.wrap (8*(IntKind.u64.wrap (Int.tmod s6.1 8))))))]:List Int))))) (fun j23 =>
 (if (decide (8≤s6.1))=true then
 j23 a0.fHi
 else
 j23 a0.fLo))
 else
 some (.inl s6.2))
def A12 (a0:D3):Option ((List Int)) :=
 (Q0 a0).bind fun r1 =>
 (if (!r1)=true then
 some ([]:List Int)
 else
 jn (fun m4:Int =>
 (loop (A11 a0) ((w64 (m4-1)),([]:List Int))).bind fun p19 =>
 some p19) (fun j5 =>
 (if a0.fV6=true then
 j5 16
 else
 j5 4)))
theorem A6e (a0:D3) (r:(List Int)) (h:A12 a0=some r):AC Tryz.prog 84 [(.d (C9 a0))] [] (.sref 900000 1 0 r.length) [(900000,some (.row 5 1 (r.map (eI .u8))))]:=by
 refine ac2 Tryz.func84 rfl rfl fun B hB hN L => ?_
 delta A12 at h
 refine sr (SQ tt) ?_
 apply seq
 obtain⟨r1,hr1,h⟩:=bindS h
 refine sr (SQ (fa (cl [] (I4 a0 r1 hr1)) tt)) ?_
 apply AWp.cond rfl<;>intro hg2
 ·have h:=A5 hg2 h
  refine sr (SQ tt) ?_
  apply ret
  apply B9
  obtain rfl:=oi h
  exact rt (Mat.trans (Mat.beginP (n:=900500) (e:=5) (sz:=1) (Ts:=[(2,(.sref 900500 1 0 0))]) (Bs:=[]) hB (by decide) (by rfl) (by decide) (TwT.cons (x:=.nils) (by rfl) (Tw.leaf ⟨rfl,rfl⟩) TwT.nil) TwB.nil) (Mat.trans (Mat.lenP (Ts:=[(2,(.sref 900500 1 0 (([]:List Int).length)))]) (Bs:=[]) (TwT.cons (x:=(.sref 900500 1 0 0)) (by rfl) (Tw.leaf ⟨_,_,_,_,_,rfl,rfl,(by first | rfl | (simp;done) | (simp;omega) | omega)⟩) TwT.nil) TwB.nil) (mp [(900000,900500)] [(2,(.sref 900000 1 0 (([]:List Int).length)))] [(900000,some (.row 5 1 (([]:List Int).map (eI .u8))))] hB))) [(.sref 900000 1 0 (([]:List Int).length))] (rT rN) rfl
 ·have h:=A6 hg2 h
  apply AWp.skip
  apply A0
  refine sr (SQ tt) ?_
  apply seq
  refine sr (SQ tt) ?_
  refine gh [(1,_),(3,_),(11,_)] [(1001,some _)] hB rfl rfl (by rfl) ?_
  refine AWp.cut h (fun m4:Int=>([(1,(pt 1001)),(3,(i6 m4))]:EL)) (fun m4:Int=>([(1001,bd 27 (C9 a0))]:OL)) (fun m4 h E' O' hmat => ?_) (fun j5 hjj5 h => ?_)
  ·apply A0
   refine ghost hmat ?_
   refine sr (SQ tt) ?_
   apply seq
   refine sr (SQ tt) ?_
   apply block
   obtain⟨p19,hx27,h⟩:=bindS h
   refine lg (A11 a0) (fun s6:Int×(List Int)=>([(1,(pt 1001)),(4,(.sref 3004 1 0 s6.2.length)),(5,(i6 s6.1))]:EL)) (fun s6:Int×(List Int)=>([(1001,bd 27 (C9 a0)),(3004,some (.row 5 1 (s6.2.map (eI .u8))))]:OL)) (fun(p19:((List Int))) e E' O'=>e = .exit 0∧Mat B E' O' ([(4,(.sref 3004 1 0 p19.length))]:EL) ([(3004,some (.row 5 1 (p19.map (eI .u8))))]:OL)) hx27 (Mat.trans (Mat.beginP (n:=3004) (e:=5) (sz:=1) (Ts:=[(4,(.sref 3004 1 0 0))]) (Bs:=[]) hB (by decide) (by rfl) (by decide) (TwT.cons (x:=.nils) (by rfl) (Tw.leaf ⟨rfl,rfl⟩) TwT.nil) TwB.nil) (mp [] _ _ hB)) (fun s6 y h => ?_) (fun e E' O' hR => ?_)
   ·unfold A11 at h
    apply seq
    refine sr (SQ tt) ?_
    apply AWp.cond rfl<;>intro hg20
    ·have h:=A5 hg20 h
     apply AWp.skip
     apply A0
     apply seq
     apply block
     refine sr (SQ tt) ?_
     apply seq
     refine sr (SQ tt) ?_
     refine gh [(1,_),(4,_),(5,_),(6,_),(21,_)] [(1001,some _),(3004,some _)] hB rfl rfl (by rfl) ?_
     refine AWp.cut h (fun m22:Int=>([(1,(pt 1001)),(4,(.sref 3004 1 0 s6.2.length)),(5,(i6 s6.1)),(6,(.d (.int .u64 m22)))]:EL)) (fun m22:Int=>([(1001,bd 27 (C9 a0)),(3004,some (.row 5 1 (s6.2.map (eI .u8))))]:OL)) (fun m22 h E' O' hmat => ?_) (fun j23 hjj23 h => ?_)
     ·apply A0
      refine ghost hmat ?_
      obtain⟨hc24,h⟩:=C0 h
      refine rg (SQ (fa hc24 tt)) ?_
      apply E4
      apply A0
      refine rg (SQ tt) ?_
      obtain rfl:=oi h
      exact⟨rfl,(mp [(3004,1033)] _ _ hB)⟩
     ·apply AWp.cond rfl<;>intro hg25
      ·have h:=A5 hg25 h
       refine rg (SQ tt) ?_
       exact hjj23 _ h _ _ (mp [] _ _ hB)
      ·have h:=A6 hg25 h
       apply AWp.skip
       exact hjj23 _ h _ _ (mp [] _ _ hB)
    ·have h:=A6 hg20 h
     apply AWp.exit
     apply E5
     obtain rfl:=oi h
     exact⟨(fun hc=>by cases hc),rfl,(mp [] _ _ hB)⟩
   ·obtain⟨rfl,hmat⟩:=hR
    apply C6
    apply A0
    refine ghost hmat ?_
    refine sr (SQ tt) ?_
    apply ret
    obtain rfl:=oi h
    exact rt (mp [(900000,3004)] [(2,(.sref 900000 1 0 p19.length))] [(900000,some (.row 5 1 (p19.map (eI .u8))))] hB) [(.sref 900000 1 0 p19.length)] (rT rN) rfl
  ·apply AWp.cond rfl<;>intro hg28
   ·have h:=A5 hg28 h
    refine rg (SQ tt) ?_
    exact hjj5 _ h _ _ (mp [] _ _ hB)
   ·have h:=A6 hg28 h
    apply AWp.skip
    exact hjj5 _ h _ _ (mp [] _ _ hB)
def M9 (a0:(List Int)) (s2:Int×Int×Int):Option (((Int×Int))⊕(Int×Int×Int)) :=
 (if (decide (s2.1<(a0.length:Int)))=true then
 (idx a0 s2.1).bind fun x9 =>
 some (.inr ((w64 (s2.1+1)),(bitI .or .u64 (shlI .u64 s2.2.1 8) (shrI .u64 s2.2.2 56)),(bitI .or .u64 (shlI .u64 s2.2.2 8) (IntKind.u64.wrap x9))))
 else
 some (.inl (s2.2.1,s2.2.2)))
def R4 (a0:(List Int)):Option (D3×Int) :=
 (if (((a0.length:Int) != 4)&&((a0.length:Int) != 16))=true then
 some ((D3.mk false 0 0),1)
 else
 (loop (M9 a0) (0,0,0)).bind fun p7 =>
 some ((D3.mk ((a0.length:Int)==16) p7.1 p7.2),0))
theorem A5k (a0:(List Int)) (r:D3×Int) (h:R4 a0=some r):AC Tryz.prog 100 [(.d (.list 1 (a0.map (eI .u8))))] [] (.tup [(.d (C9 r.1)),(.d (.int .i64 r.2))]) []:=by
 refine ac2 Tryz.func100 rfl rfl fun B hB hN L => ?_
 delta R4 at h
 refine sr (SQ tt) ?_
 apply seq
 refine sr (SQ tt) ?_
 apply AWp.cond rfl<;>intro hg1
 ·have h:=A5 hg1 h
  refine sr (SQ tt) ?_
  apply ret
  apply B9
  obtain rfl:=oi h
  exact rt (kp [(2,_),(3,_)] [(1002,some _)] hB rfl rfl (by rfl)) [(.d (.st [(.bool false),(.int .u64 0),(.int .u64 0)])),(i6 1)] (Res.cell (c:=(.d (.st [(.bool false),(.int .u64 0),(.int .u64 0)]))) (by rfl) (by rfl) tyS27 (by rfl) (by rfl) (by rfl) (rT rN)) rfl
 ·have h:=A6 hg1 h
  apply AWp.skip
  apply A0
  refine sr (SQ tt) ?_
  apply seq
  refine sr (SQ tt) ?_
  apply block
  obtain⟨p7,hx11,h⟩:=bindS h
  refine lg (M9 a0) (fun s2:Int×Int×Int=>([(2,(pt 1002)),(4,(pt 1004)),(20,(.d (.list 1 (a0.map (eI .u8))))),(21,(i6 (a0.length:Int))),(22,(i6 s2.1))]:EL)) (fun s2:Int×Int×Int=>([(1002,bd 27 (.st [(.bool false),(.int .u64 0),(.int .u64 0)])),(1004,bd 27 (.st [(.bool ((a0.length:Int)==16)),(.int .u64 s2.2.1),(.int .u64 s2.2.2)]))]:OL)) (fun(p7:(Int×Int)) e E' O'=>e = .exit 0∧Mat B E' O' ([(2,(pt 1002)),(4,(pt 1004))]:EL) ([(1002,bd 27 (.st [(.bool false),(.int .u64 0),(.int .u64 0)])),(1004,bd 27 (.st [(.bool ((a0.length:Int)==16)),(.int .u64 p7.1),(.int .u64 p7.2)]))]:OL)) hx11 (mp [] _ _ hB) (fun s2 y h => ?_) (fun e E' O' hR => ?_)
  ·unfold M9 at h
   refine sr (SQ tt) ?_
   apply seq
   apply AWp.cond rfl<;>intro hg8
   ·have h:=A5 hg8 h
    apply AWp.skip
    apply A0
    apply seq
    apply block
    obtain⟨_,hx9,h⟩:=bindS h
    refine sr (SQ (fa hx9 tt)) ?_
    refine sr (SQ tt) ?_
    refine rg (SQ tt) ?_
    apply E4
    apply A0
    refine rg (SQ tt) ?_
    obtain rfl:=oi h
    exact⟨rfl,(mp [] _ _ hB)⟩
   ·have h:=A6 hg8 h
    apply AWp.exit
    apply E5
    obtain rfl:=oi h
    exact⟨(fun hc=>by cases hc),rfl,(mp [] _ _ hB)⟩
  ·obtain⟨rfl,hmat⟩:=hR
   apply C6
   apply A0
   refine ghost hmat ?_
   refine sr (SQ tt) ?_
   apply ret
   obtain rfl:=oi h
   exact rt (kp [(2,_),(3,_)] [(1002,some _)] hB rfl rfl (by rfl)) [(.d (.st [(.bool ((a0.length:Int)==16)),(.int .u64 p7.1),(.int .u64 p7.2)])),(i6 0)] (Res.cell (c:=(.d (.st [(.bool ((a0.length:Int)==16)),(.int .u64 p7.1),(.int .u64 p7.2)]))) (by rfl) (by rfl) tyS27 (by rfl) (by rfl) (by rfl) (rT rN)) rfl
def W8 (s9:Int×(List Int)):Option ((((List Int)))⊕(Int×(List Int))) :=
 (if (decide (s9.1<(w64 (8*(s9.2.length:Int)))))=true then
 (idx s9.2 (w64 (Int.tdiv s9.1 8))).bind fun _ =>
 (idx s9.2 (w64 (Int.tdiv s9.1 8))).bind fun x23 =>
 (idx s9.2 (w64 (Int.tdiv s9.1 8))).bind fun _ =>
 (idx s9.2 (w64 (Int.tdiv s9.1 8))).bind fun _ =>
 some (.inr ((w64 (s9.1+1)),(s9.2.set (w64 (Int.tdiv s9.1 8)).toNat (bitI .andNot .u8 x23 (shrI .u8 128 (IntKind.u64.wrap (Int.tmod s9.1 8)))))))
 else
 some (.inl s9.2))
def A1t (a0:D3) (a1:Int):Option (A2×Int) :=
 (Q0 a0).bind fun r1 =>
 (if (!r1)=true then
 some ((A2.mk (D3.mk false 0 0) 0),1)
 else
 jn (fun m5:Bool =>
 (if m5=true then
 some ((A2.mk (D3.mk false 0 0) 0),9)
 else
 (A12 a0).bind fun r8 =>
 (loop (W8) (a1,r8)).bind fun p20 =>
 (R4 p20).bind fun r28 =>
 some ((A2.mk r28.1 a1),0))) (fun j6 =>
 (if (decide (a1<0))=true then
 j6 true
 else
 (A2h a0).bind fun r30 =>
 j6 (decide (r30<a1)))))
theorem A8y (a0:D3) (a1:Int) (r:A2×Int) (h:A1t a0 a1=some r):AC Tryz.prog 72 [(.d (C9 a0)),(.d (.int .i64 a1))] [] (.tup [(.d (B3 r.1)),(.d (.int .i64 r.2))]) []:=by
 refine ac2 Tryz.func72 rfl rfl fun B hB hN L => ?_
 delta A1t at h
 refine sr (SQ tt) ?_
 apply seq
 apply block
 obtain⟨r1,hr1,h⟩:=bindS h
 refine sr (SQ (fa (cl [] (I4 a0 r1 hr1)) tt)) ?_
 apply AWp.cond rfl<;>intro hg2
 ·have h:=A5 hg2 h
  refine sr (SQ tt) ?_
  apply ret
  apply D7
  apply B9
  obtain rfl:=oi h
  exact rt (kp [(4,_),(5,_)] [(1004,some _)] hB rfl rfl (by rfl)) [(.d (.st [(.st [(.bool false),(.int .u64 0),(.int .u64 0)]),(.int .i64 0)])),(i6 1)] (Res.cell (c:=(.d (.st [(.st [(.bool false),(.int .u64 0),(.int .u64 0)]),(.int .i64 0)]))) (by rfl) (by rfl) tyS29 (by rfl) (by rfl) (by rfl) (rT rN)) rfl
 ·have h:=A6 hg2 h
  apply seq
  refine AWp.cut h (fun m5:Bool=>([(1,(i6 a1)),(2,(pt 1002)),(4,(pt 1004)),(15,(bo m5))]:EL)) (fun m5:Bool=>([(1002,bd 27 (C9 a0)),(1004,bd 29 (.st [(.st [(.bool false),(.int .u64 0),(.int .u64 0)]),(.int .i64 0)]))]:OL)) (fun m5 h E' O' hmat => ?_) (fun j6 hjj6 h => ?_)
  ·apply A0
   refine ghost hmat ?_
   apply AWp.cond rfl<;>intro hg7
   ·have h:=A5 hg7 h
    refine sr (SQ tt) ?_
    apply ret
    apply D7
    apply B9
    obtain rfl:=oi h
    exact rt (kp [(4,_),(5,_)] [(1004,some _)] hB rfl rfl (by rfl)) [(.d (.st [(.st [(.bool false),(.int .u64 0),(.int .u64 0)]),(.int .i64 0)])),(i6 9)] (Res.cell (c:=(.d (.st [(.st [(.bool false),(.int .u64 0),(.int .u64 0)]),(.int .i64 0)]))) (by rfl) (by rfl) tyS29 (by rfl) (by rfl) (by rfl) (rT rN)) rfl
   ·have h:=A6 hg7 h
    apply AWp.skip
    apply E4
    apply A0
    apply seq
    obtain⟨r8,hr8,h⟩:=bindS h
    refine rg (SQ (fa (cl [(900000,100200)] (A6e a0 r8 hr8)) tt)) ?_
    apply A0
    refine ghost (mp [] [(1,(i6 a1)),(4,(pt 1004)),(6,(.sref 100200 1 0 r8.length))] [(1004,bd 29 (.st [(.st [(.bool false),(.int .u64 0),(.int .u64 0)]),(.int .i64 0)])),(100200,some (.row 5 1 (r8.map (eI .u8))))] hB) ?_
    apply seq
    refine sr (SQ tt) ?_
    apply block
    obtain⟨p20,hx27,h⟩:=bindS h
    refine lg (W8) (fun s9:Int×(List Int)=>([(1,(i6 a1)),(4,(pt 1004)),(6,(.sref 100200 1 0 s9.2.length)),(7,(i6 s9.1))]:EL)) (fun s9:Int×(List Int)=>([(1004,bd 29 (.st [(.st [(.bool false),(.int .u64 0),(.int .u64 0)]),(.int .i64 0)])),(100200,some (.row 5 1 (s9.2.map (eI .u8))))]:OL)) (fun(p20:((List Int))) e E' O'=>e = .exit 1∧Mat B E' O' ([(1,(i6 a1)),(4,(pt 1004)),(6,(.sref 100200 1 0 p20.length))]:EL) ([(1004,bd 29 (.st [(.st [(.bool false),(.int .u64 0),(.int .u64 0)]),(.int .i64 0)])),(100200,some (.row 5 1 (p20.map (eI .u8))))]:OL)) hx27 (mp [] _ _ hB) (fun s9 y h => ?_) (fun e E' O' hR => ?_)
    ·unfold W8 at h
     apply seq
     refine sr (SQ tt) ?_
     apply AWp.cond rfl<;>intro hg21
     ·have h:=A5 hg21 h
      apply AWp.skip
      apply A0
      apply seq
      apply block
      obtain⟨_,hx22,h⟩:=bindS h
      obtain⟨x23,hx23,h⟩:=bindS h
      obtain⟨_,hx24,h⟩:=bindS h
      obtain⟨_,hx25,h⟩:=bindS h
      refine rg (SQ (fa hx22 (fa hx23 (fa hx24 (fa hx25 (fa (sv (bitI .andNot .u8 x23 (shrI .u8 128 (IntKind.u64.wrap (Int.tmod s9.1 8))))) tt)))))) ?_
      apply E4
      apply A0
      refine rg (SQ tt) ?_
      obtain rfl:=oi h
      exact⟨rfl,(Mat.trans (mp [] [(1,(i6 a1)),(4,(pt 1004)),(6,(.sref 100200 1 0 s9.2.length)),(7,(i6 (w64 (s9.1+1))))] [(1004,bd 29 (.st [(.st [(.bool false),(.int .u64 0),(.int .u64 0)]),(.int .i64 0)])),(100200,some (.row 5 1 ((s9.2.set (w64 (Int.tdiv s9.1 8)).toNat (bitI .andNot .u8 x23 (shrI .u8 128 (IntKind.u64.wrap (Int.tmod s9.1 8))))).map (eI .u8))))] hB) (Mat.trans (Mat.lenP (Ts:=[(6,(.sref 100200 1 0 ((s9.2.set (w64 (Int.tdiv s9.1 8)).toNat (bitI .andNot .u8 x23 (shrI .u8 128 (IntKind.u64.wrap (Int.tmod s9.1 8))))).length)))]) (Bs:=[]) (TwT.cons (x:=(.sref 100200 1 0 s9.2.length)) (by rfl) (Tw.leaf ⟨_,_,_,_,_,rfl,rfl,(by first | rfl | (simp;done) | (simp;omega) | omega)⟩) TwT.nil) TwB.nil) (mp [] _ _ hB)))⟩
     ·have h:=A6 hg21 h
      apply AWp.exit
      apply E5
      obtain rfl:=oi h
      exact⟨(fun hc=>by cases hc),rfl,(mp [] _ _ hB)⟩
    ·obtain⟨rfl,hmat⟩:=hR
     apply C6
     apply A0
     refine ghost hmat ?_
     apply seq
     refine ghost (Mat.freezeP (n:=100200) (e:=5) (sz:=1) (es:=p20.map (eI .u8)) (Ts:=[(6,(.d (.list 1 (p20.map (eI .u8)))))]) (Bs:=[]) (by rfl) (TwT.cons (x:=(.sref 100200 1 0 p20.length)) (by rfl) (FrzL.all (by first | rfl | (simp;done) | (simp;omega) | omega)) TwT.nil) TwB.nil) ?_
     obtain⟨r28,hr28,h⟩:=bindS h
     refine rg (SQ (fa (cl [] (A5k p20 r28 hr28)) tt)) ?_
     apply A0
     refine sr (SQ tt) ?_
     apply ret
     obtain rfl:=oi h
     exact rt (kp [(4,_),(5,_)] [(1004,some _)] hB rfl rfl (by rfl)) [(.d (.st [(C9 r28.1),(.int .i64 a1)])),(i6 0)] (Res.cell (c:=(.d (.st [(C9 r28.1),(.int .i64 a1)]))) (by rfl) (by rfl) tyS29 (by rfl) (by rfl) (by rfl) (rT rN)) rfl
  ·rcases bft (decide (a1<0)) with hg29 | hg29
   ·have h:=A5 hg29 h
    refine rg (SQ (fa hg29 tt)) ?_
    exact hjj6 _ h _ _ (mp [] _ _ hB)
   ·have h:=A6 hg29 h
    obtain⟨r30,hr30,h⟩:=bindS h
    refine rg (SQ (fa hg29 (fa (cl [] (A7x a0 r30 hr30)) tt))) ?_
    exact hjj6 _ h _ _ (mp [] _ _ hB)
def Y4 (a0:A2):Option (Bool) :=
 (A1t a0.fAddr a0.fLen).bind fun r1 =>
 some ((r1.2==0)&&(((a0.fAddr.fV6==r1.1.fAddr.fV6)&&((a0.fAddr.fHi==r1.1.fAddr.fHi)&&((a0.fAddr.fLo==r1.1.fAddr.fLo)&&true)))&&((a0.fLen==r1.1.fLen)&&true)))
theorem A4f (a0:A2) (r:Bool) (h:Y4 a0=some r):AC Tryz.prog 42 [(.d (B3 a0))] [] (.d (.bool r)) []:=by
 refine AC.of_code2 Tryz.func42 rfl rfl (Nat.le_of_ble_eq_true (by rfl)) fun B hB hN => ?_
 delta Y4 at h
 refine sr (SQ tt) ?_
 obtain⟨r1,hr1,h⟩:=bindS h
 refine sr (SQ (fa (cl [] (A8y a0.fAddr a0.fLen r1 hr1)) tt)) ?_
 refine sr (SQ tt) ?_
 apply ret
 obtain rfl:=oi h
 exact rt (kp [(2,_)] [] hB rfl rfl (by rfl)) [(bo ((r1.2==0)&&(((a0.fAddr.fV6==r1.1.fAddr.fV6)&&((a0.fAddr.fHi==r1.1.fAddr.fHi)&&((a0.fAddr.fLo==r1.1.fAddr.fLo)&&true)))&&((a0.fLen==r1.1.fLen)&&true))))] (rT rN) rfl
def A2u (a1:(List B8)) (s2:Int) (x72:B8) (s80:Int):Option (((Unit)⊕(Unit))⊕(Int)) :=
 (if (decide (s80<(x72.fASNs.length:Int)))=true then
 (idx x72.fASNs s80).bind fun x94 =>
 (idx a1 s2).bind fun x95 =>
 (idx x95.fASNs s80).bind fun x96 =>
 (if (x96 != x94)=true then
 some (.inl (.inl ()))
 else
 some (.inr (w64 (s80+1))))
 else
 some (.inl (.inr ())))
def A13 (a0:(List B8)) (a1:(List B8)) (s2:Int):Option (((Unit)⊕(Unit))⊕(Int)) :=
 (if (decide (s2<(a0.length:Int)))=true then
 (idx a0 s2).bind fun x72 =>
 jn (fun m77:Bool =>
 (if m77=true then
 some (.inl (.inl ()))
 else
 (loop (A2u a1 s2 x72) 0).bind fun x98=>match x98 with
 | (.inl _) =>
  some (.inl (.inl ()))
 | (.inr _) =>
  some (.inr (w64 (s2+1))))) (fun j78 =>
 (idx a1 s2).bind fun x100 =>
 (if (x72.fSet != x100.fSet)=true then
 j78 true
 else
 (idx a1 s2).bind fun x102 =>
 j78 ((x72.fASNs.length:Int) != (x102.fASNs.length:Int))))
 else
 some (.inl (.inr ())))
def A1u (a0:(List B8)) (a1:(List B8)):Option (Bool) :=
 (if ((a0.length:Int) != (a1.length:Int))=true then
 some false
 else
 (loop (A13 a0 a1) 0).bind fun x103=>match x103 with
 | (.inl _) =>
  some false
 | (.inr _) =>
  some true)
theorem A14 (a0:(List B8)) (a1:(List B8)) (r:Bool) (h:A1u a0 a1=some r):AC Tryz.prog 73 [(.d (.list 2 (a0.map C4))),(.d (.list 2 (a1.map C4)))] [] (.d (.bool r)) []:=by
 refine ac2 Tryz.func73 rfl rfl fun B hB hN L => ?_
 delta A1u at h
 refine sr (SQ tt) ?_
 apply seq
 refine sr (SQ tt) ?_
 apply AWp.cond rfl<;>intro hg1
 ·have h:=A5 hg1 h
  refine sr (SQ tt) ?_
  apply ret
  apply B9
  obtain rfl:=oi h
  exact rt (kp [(4,_)] [] hB rfl rfl (by rfl)) [(bo false)] (rT rN) rfl
 ·have h:=A6 hg1 h
  apply AWp.skip
  apply A0
  apply seq
  refine sr (SQ tt) ?_
  apply block
  obtain⟨x103,hx104,h⟩:=bindS h
  refine lg (A13 a0 a1) (fun s2:Int=>([(1,(B0 a1)),(14,(B0 a0)),(15,(i6 (a0.length:Int))),(16,(i6 s2))]:EL)) (fun s2:Int=>([]:OL)) (fun(x:(Unit)⊕(Unit)) e E' O'=>match x with | (.inl _p)=>e = .ret∧Mat B E' O' ([(4,(bo false))]:EL) ([]:OL) | (.inr _p)=>e = .exit 0∧Mat B E' O' ([]:EL) ([]:OL)) hx104 (mp [] _ _ hB) (fun s2 y h => ?_) (fun e E' O' hR => ?_)
  ·unfold A13 at h
   refine sr (SQ tt) ?_
   apply seq
   apply AWp.cond rfl<;>intro hg71
   ·have h:=A5 hg71 h
    apply AWp.skip
    apply A0
    apply seq
    apply block
    obtain⟨x72,hx72,h⟩:=bindS h
    refine sr (SQ (fa hx72 tt)) ?_
    apply seq
    apply seq
    refine AWp.cut h (fun m77:Bool=>([(1,(B0 a1)),(5,(i6 s2)),(6,(pt 1006)),(14,(B0 a0)),(15,(i6 (a0.length:Int))),(16,(i6 s2)),(40,(bo m77))]:EL)) (fun m77:Bool=>([(1006,bd 66 (C4 x72))]:OL)) (fun m77 h E' O' hmat => ?_) (fun j78 hjj78 h => ?_)
    ·apply A0
     refine ghost hmat ?_
     apply AWp.cond rfl<;>intro hg79
     ·have h:=A5 hg79 h
      refine sr (SQ tt) ?_
      apply ret
      apply B9
      apply D7
      apply B9
      obtain rfl:=oi h
      exact⟨(fun hc=>by cases hc),rfl,(mp [] _ _ hB)⟩
     ·have h:=A6 hg79 h
      apply AWp.skip
      apply A0
      refine sr (SQ tt) ?_
      apply block
      obtain⟨x98,hx99,h⟩:=bindS h
      refine lg (A2u a1 s2 x72) (fun s80:Int=>([(1,(B0 a1)),(5,(i6 s2)),(14,(B0 a0)),(15,(i6 (a0.length:Int))),(16,(i6 s2)),(42,(qI_1 x72.fASNs)),(43,(i6 (x72.fASNs.length:Int))),(44,(i6 s80))]:EL)) (fun s80:Int=>([]:OL)) (fun(x:(Unit)⊕(Unit)) e E' O'=>match x with | (.inl _p)=>e = .ret∧Mat B E' O' ([(4,(bo false))]:EL) ([]:OL) | (.inr _p)=>e = .exit 2∧Mat B E' O' ([(1,(B0 a1)),(14,(B0 a0)),(15,(i6 (a0.length:Int))),(16,(i6 s2))]:EL) ([]:OL)) hx99 (mp [] _ _ hB) (fun s80 y h => ?_) (fun e E' O' hR => ?_)
      ·unfold A2u at h
       refine sr (SQ tt) ?_
       apply seq
       apply AWp.cond rfl<;>intro hg93
       ·have h:=A5 hg93 h
        apply AWp.skip
        apply A0
        apply seq
        apply block
        obtain⟨_,hx94,h⟩:=bindS h
        refine sr (SQ (fa hx94 tt)) ?_
        obtain⟨_,hx95,h⟩:=bindS h
        obtain⟨_,hx96,h⟩:=bindS h
        refine sr (SQ (fa hx95 (fa hx96 tt))) ?_
        apply AWp.cond rfl<;>intro hg97
        ·have h:=A5 hg97 h
         refine sr (SQ tt) ?_
         apply ret
         apply D7
         apply B9
         obtain rfl:=oi h
         exact⟨(fun hc=>by cases hc),rfl,(mp [] _ _ hB)⟩
        ·have h:=A6 hg97 h
         apply AWp.skip
         apply E4
         apply A0
         refine rg (SQ tt) ?_
         obtain rfl:=oi h
         exact⟨rfl,(mp [] _ _ hB)⟩
       ·have h:=A6 hg93 h
        apply AWp.exit
        apply E5
        obtain rfl:=oi h
        exact⟨(fun hc=>by cases hc),rfl,(mp [] _ _ hB)⟩
      ·rcases x98 with _ | _
       ·obtain⟨rfl,hmat⟩:=hR
        apply D7
        apply D7
        apply B9
        obtain rfl:=oi h
        exact⟨(fun hc=>by cases hc),rfl,(Mat.trans hmat (mp [] _ _ hB))⟩
       ·obtain⟨rfl,hmat⟩:=hR
        apply C6
        apply E4
        apply A0
        refine ghost hmat ?_
        refine rg (SQ tt) ?_
        obtain rfl:=oi h
        exact⟨rfl,(mp [] _ _ hB)⟩
    ·obtain⟨x100,hx100,h⟩:=bindS h
     rcases bft (x72.fSet != x100.fSet) with hg101 | hg101
     ·have h:=A5 hg101 h
      refine drS (SQ (fa hx100 (fa hg101 tt))) ?_
      exact hjj78 _ h _ _ (mp [] _ _ hB)
     ·have h:=A6 hg101 h
      obtain⟨_,hx102,h⟩:=bindS h
      refine drS (SQ (fa hx100 (fa hg101 (fa hx102 tt)))) ?_
      exact hjj78 _ h _ _ (mp [] _ _ hB)
   ·have h:=A6 hg71 h
    apply AWp.exit
    apply E5
    obtain rfl:=oi h
    exact⟨(fun hc=>by cases hc),rfl,(mp [] _ _ hB)⟩
  ·rcases x103 with _ | _
   ·obtain⟨rfl,hmat⟩:=hR
    apply D7
    apply B9
    obtain rfl:=oi h
    exact rt (Mat.trans hmat (mp [] [(4,(bo false))] [] hB)) [(bo false)] (rT rN) rfl
   ·obtain⟨rfl,hmat⟩:=hR
    apply C6
    apply A0
    refine ghost hmat ?_
    refine sr (SQ tt) ?_
    apply ret
    obtain rfl:=oi h
    exact rt (kp [(4,_)] [] hB rfl rfl (by rfl)) [(bo true)] (rT rN) rfl
def A15 (a0:(List B4)) (a1:(List B4)) (s2:Int):Option (((Unit)⊕(Unit))⊕(Int)) :=
 (if (decide (s2<(a0.length:Int)))=true then
 (idx a0 s2).bind fun x14 =>
 (idx a1 s2).bind fun x15 =>
 (if (!((x15.fA==x14.fA)&&((x15.fB==x14.fB)&&true)))=true then
 some (.inl (.inl ()))
 else
 some (.inr (w64 (s2+1))))
 else
 some (.inl (.inr ())))
def A1v (a0:(List B4)) (a1:(List B4)):Option (Bool) :=
 (if ((a0.length:Int) != (a1.length:Int))=true then
 some false
 else
 (loop (A15 a0 a1) 0).bind fun x17=>match x17 with
 | (.inl _) =>
  some false
 | (.inr _) =>
  some true)
theorem A2v (a0:(List B4)) (a1:(List B4)) (r:Bool) (h:A1v a0 a1=some r):AC Tryz.prog 74 [(.d (.list 2 (a0.map B7))),(.d (.list 2 (a1.map B7)))] [] (.d (.bool r)) []:=by
 refine ac2 Tryz.func74 rfl rfl fun B hB hN L => ?_
 delta A1v at h
 refine sr (SQ tt) ?_
 apply seq
 refine sr (SQ tt) ?_
 apply AWp.cond rfl<;>intro hg1
 ·have h:=A5 hg1 h
  refine sr (SQ tt) ?_
  apply ret
  apply B9
  obtain rfl:=oi h
  exact rt (kp [(4,_)] [] hB rfl rfl (by rfl)) [(bo false)] (rT rN) rfl
 ·have h:=A6 hg1 h
  apply AWp.skip
  apply A0
  apply seq
  refine sr (SQ tt) ?_
  apply block
  obtain⟨x17,hx18,h⟩:=bindS h
  refine lg (A15 a0 a1) (fun s2:Int=>([(1,(A9 a1)),(12,(A9 a0)),(13,(i6 (a0.length:Int))),(14,(i6 s2))]:EL)) (fun s2:Int=>([]:OL)) (fun(x:(Unit)⊕(Unit)) e E' O'=>match x with | (.inl _p)=>e = .ret∧Mat B E' O' ([(4,(bo false))]:EL) ([]:OL) | (.inr _p)=>e = .exit 0∧Mat B E' O' ([]:EL) ([]:OL)) hx18 (mp [] _ _ hB) (fun s2 y h => ?_) (fun e E' O' hR => ?_)
  ·unfold A15 at h
   refine sr (SQ tt) ?_
   apply seq
   apply AWp.cond rfl<;>intro hg13
   ·have h:=A5 hg13 h
    apply AWp.skip
    apply A0
    apply seq
    apply block
    obtain⟨_,hx14,h⟩:=bindS h
    refine sr (SQ (fa hx14 tt)) ?_
    obtain⟨_,hx15,h⟩:=bindS h
    refine sdS (SQ (fa hx15 tt)) ?_
    apply AWp.cond rfl<;>intro hg16
    ·have h:=A5 hg16 h
     refine sr (SQ tt) ?_
     apply ret
     apply D7
     apply B9
     obtain rfl:=oi h
     exact⟨(fun hc=>by cases hc),rfl,(mp [] _ _ hB)⟩
    ·have h:=A6 hg16 h
     apply AWp.skip
     apply E4
     apply A0
     refine rg (SQ tt) ?_
     obtain rfl:=oi h
     exact⟨rfl,(mp [] _ _ hB)⟩
   ·have h:=A6 hg13 h
    apply AWp.exit
    apply E5
    obtain rfl:=oi h
    exact⟨(fun hc=>by cases hc),rfl,(mp [] _ _ hB)⟩
  ·rcases x17 with _ | _
   ·obtain⟨rfl,hmat⟩:=hR
    apply D7
    apply B9
    obtain rfl:=oi h
    exact rt (Mat.trans hmat (mp [] [(4,(bo false))] [] hB)) [(bo false)] (rT rN) rfl
   ·obtain⟨rfl,hmat⟩:=hR
    apply C6
    apply A0
    refine ghost hmat ?_
    refine sr (SQ tt) ?_
    apply ret
    obtain rfl:=oi h
    exact rt (kp [(4,_)] [] hB rfl rfl (by rfl)) [(bo true)] (rT rN) rfl
def Q8 (a0:(List E6)) (a1:(List E6)) (s2:Int):Option (((Unit)⊕(Unit))⊕(Int)) :=
 (if (decide (s2<(a0.length:Int)))=true then
 (idx a0 s2).bind fun x14 =>
 (idx a1 s2).bind fun x15 =>
 (if (!((x15.fA==x14.fA)&&((x15.fB==x14.fB)&&((x15.fC==x14.fC)&&true))))=true then
 some (.inl (.inl ()))
 else
 some (.inr (w64 (s2+1))))
 else
 some (.inl (.inr ())))
def R5 (a0:(List E6)) (a1:(List E6)):Option (Bool) :=
 (if ((a0.length:Int) != (a1.length:Int))=true then
 some false
 else
 (loop (Q8 a0 a1) 0).bind fun x17=>match x17 with
 | (.inl _) =>
  some false
 | (.inr _) =>
  some true)
theorem A2b (a0:(List E6)) (a1:(List E6)) (r:Bool) (h:R5 a0 a1=some r):AC Tryz.prog 75 [(.d (.list 3 (a0.map D8))),(.d (.list 3 (a1.map D8)))] [] (.d (.bool r)) []:=by
 refine ac2 Tryz.func75 rfl rfl fun B hB hN L => ?_
 delta R5 at h
 refine sr (SQ tt) ?_
 apply seq
 refine sr (SQ tt) ?_
 apply AWp.cond rfl<;>intro hg1
 ·have h:=A5 hg1 h
  refine sr (SQ tt) ?_
  apply ret
  apply B9
  obtain rfl:=oi h
  exact rt (kp [(4,_)] [] hB rfl rfl (by rfl)) [(bo false)] (rT rN) rfl
 ·have h:=A6 hg1 h
  apply AWp.skip
  apply A0
  apply seq
  refine sr (SQ tt) ?_
  apply block
  obtain⟨x17,hx18,h⟩:=bindS h
  refine lg (Q8 a0 a1) (fun s2:Int=>([(1,(D0 a1)),(12,(D0 a0)),(13,(i6 (a0.length:Int))),(14,(i6 s2))]:EL)) (fun s2:Int=>([]:OL)) (fun(x:(Unit)⊕(Unit)) e E' O'=>match x with | (.inl _p)=>e = .ret∧Mat B E' O' ([(4,(bo false))]:EL) ([]:OL) | (.inr _p)=>e = .exit 0∧Mat B E' O' ([]:EL) ([]:OL)) hx18 (mp [] _ _ hB) (fun s2 y h => ?_) (fun e E' O' hR => ?_)
  ·unfold Q8 at h
   refine sr (SQ tt) ?_
   apply seq
   apply AWp.cond rfl<;>intro hg13
   ·have h:=A5 hg13 h
    apply AWp.skip
    apply A0
    apply seq
    apply block
    obtain⟨_,hx14,h⟩:=bindS h
    refine sr (SQ (fa hx14 tt)) ?_
    obtain⟨_,hx15,h⟩:=bindS h
    refine sdS (SQ (fa hx15 tt)) ?_
    apply AWp.cond rfl<;>intro hg16
    ·have h:=A5 hg16 h
     refine sr (SQ tt) ?_
     apply ret
     apply D7
     apply B9
     obtain rfl:=oi h
     exact⟨(fun hc=>by cases hc),rfl,(mp [] _ _ hB)⟩
    ·have h:=A6 hg16 h
     apply AWp.skip
     apply E4
     apply A0
     refine rg (SQ tt) ?_
     obtain rfl:=oi h
     exact⟨rfl,(mp [] _ _ hB)⟩
   ·have h:=A6 hg13 h
    apply AWp.exit
    apply E5
    obtain rfl:=oi h
    exact⟨(fun hc=>by cases hc),rfl,(mp [] _ _ hB)⟩
  ·rcases x17 with _ | _
   ·obtain⟨rfl,hmat⟩:=hR
    apply D7
    apply B9
    obtain rfl:=oi h
    exact rt (Mat.trans hmat (mp [] [(4,(bo false))] [] hB)) [(bo false)] (rT rN) rfl
   ·obtain⟨rfl,hmat⟩:=hR
    apply C6
    apply A0
    refine ghost hmat ?_
    refine sr (SQ tt) ?_
    apply ret
    obtain rfl:=oi h
    exact rt (kp [(4,_)] [] hB rfl rfl (by rfl)) [(bo true)] (rT rN) rfl
def S9 (a0:(List A1)) (a1:(List A1)) (s2:Int):Option (((Unit)⊕(Unit))⊕(Int)) :=
 (if (decide (s2<(a0.length:Int)))=true then
 (idx a0 s2).bind fun x38 =>
 jn (fun m45:Bool =>
 (if m45=true then
 some (.inl (.inl ()))
 else
 some (.inr (w64 (s2+1))))) (fun j46 =>
 (idx a1 s2).bind fun x48 =>
 (if (x38.fFlags != x48.fFlags)=true then
 j46 true
 else
 (idx a1 s2).bind fun x50 =>
 (if (x38.fType != x50.fType)=true then
 j46 true
 else
 (idx a1 s2).bind fun x52 =>
 j46 ((bstr x38.fData) != (bstr x52.fData)))))
 else
 some (.inl (.inr ())))
def T9 (a0:(List A1)) (a1:(List A1)):Option (Bool) :=
 (if ((a0.length:Int) != (a1.length:Int))=true then
 some false
 else
 (loop (S9 a0 a1) 0).bind fun x53=>match x53 with
 | (.inl _) =>
  some false
 | (.inr _) =>
  some true)
theorem A5x (a0:(List A1)) (a1:(List A1)) (r:Bool) (h:T9 a0 a1=some r):AC Tryz.prog 76 [(.d (.list 3 (a0.map A8))),(.d (.list 3 (a1.map A8)))] [] (.d (.bool r)) []:=by
 refine ac2 Tryz.func76 rfl rfl fun B hB hN L => ?_
 delta T9 at h
 refine sr (SQ tt) ?_
 apply seq
 refine sr (SQ tt) ?_
 apply AWp.cond rfl<;>intro hg1
 ·have h:=A5 hg1 h
  refine sr (SQ tt) ?_
  apply ret
  apply B9
  obtain rfl:=oi h
  exact rt (kp [(4,_)] [] hB rfl rfl (by rfl)) [(bo false)] (rT rN) rfl
 ·have h:=A6 hg1 h
  apply AWp.skip
  apply A0
  apply seq
  refine sr (SQ tt) ?_
  apply block
  obtain⟨x53,hx54,h⟩:=bindS h
  refine lg (S9 a0 a1) (fun s2:Int=>([(1,(B2 a1)),(12,(B2 a0)),(13,(i6 (a0.length:Int))),(14,(i6 s2))]:EL)) (fun s2:Int=>([]:OL)) (fun(x:(Unit)⊕(Unit)) e E' O'=>match x with | (.inl _p)=>e = .ret∧Mat B E' O' ([(4,(bo false))]:EL) ([]:OL) | (.inr _p)=>e = .exit 0∧Mat B E' O' ([]:EL) ([]:OL)) hx54 (mp [] _ _ hB) (fun s2 y h => ?_) (fun e E' O' hR => ?_)
  ·unfold S9 at h
   refine sr (SQ tt) ?_
   apply seq
   apply AWp.cond rfl<;>intro hg37
   ·have h:=A5 hg37 h
    apply AWp.skip
    apply A0
    apply seq
    apply block
    obtain⟨x38,hx38,h⟩:=bindS h
    refine sr (SQ (fa hx38 tt)) ?_
    apply seq
    refine AWp.cut h (fun m45:Bool=>([(1,(B2 a1)),(12,(B2 a0)),(13,(i6 (a0.length:Int))),(14,(i6 s2)),(48,(bo m45))]:EL)) (fun m45:Bool=>([]:OL)) (fun m45 h E' O' hmat => ?_) (fun j46 hjj46 h => ?_)
    ·apply A0
     refine ghost hmat ?_
     apply AWp.cond rfl<;>intro hg47
     ·have h:=A5 hg47 h
      refine sr (SQ tt) ?_
      apply ret
      apply D7
      apply B9
      obtain rfl:=oi h
      exact⟨(fun hc=>by cases hc),rfl,(mp [] _ _ hB)⟩
     ·have h:=A6 hg47 h
      apply AWp.skip
      apply E4
      apply A0
      refine rg (SQ tt) ?_
      obtain rfl:=oi h
      exact⟨rfl,(mp [] _ _ hB)⟩
    ·obtain⟨x48,hx48,h⟩:=bindS h
     rcases bft (x38.fFlags != x48.fFlags) with hg49 | hg49
     ·have h:=A5 hg49 h
      refine drS (SQ (fa hx48 (fa hg49 tt))) ?_
      exact hjj46 _ h _ _ (mp [] _ _ hB)
     ·have h:=A6 hg49 h
      obtain⟨x50,hx50,h⟩:=bindS h
      rcases bft (x38.fType != x50.fType) with hg51 | hg51
      ·have h:=A5 hg51 h
       refine drS (SQ (fa hx48 (fa hg49 (fa hx50 (fa hg51 tt))))) ?_
       exact hjj46 _ h _ _ (mp [] _ _ hB)
      ·have h:=A6 hg51 h
       obtain⟨x52,hx52,h⟩:=bindS h
       apply dr (c (fo 1006 0 [0] hN underlying69 0 tyS3 (q 6)) rfl (c (la hN 69 tyS3 (q 19)) rfl (c (mv hN (q 1)) rfl (c (mv hN (q 5)) rfl (c (indexD underlying33 tyS69 (B5 hx48).1 (F0 A8 (B5 hx48).2) (L rfl) (q 21) (q 22)) rfl (c (fieldD underlying69 (by rfl) (o:=0) (by rfl) tyS3 (by decide) (by rfl) (by rfl) (L rfl) (q 23)) rfl (c (loadD tyS3 (by rfl) (by rfl) (L rfl) (q 24)) rfl (c (neqI (L rfl) (q 20) (q 25)) rfl (c (OpJ.val (v':=.d (.bool false)) (by rw [hg49]<;>rfl) (mv hN (q 26))) rfl (c (gd 27 (fo 1006 1 [1] hN underlying69 1 tyS3 (q 6))) rfl (c (gd 27 (la hN 69 tyS3 (q 28))) rfl (c (gd 27 (mv hN (q 1))) rfl (c (gd 27 (mv hN (q 5))) rfl (c (gd 27 (indexD underlying33 tyS69 (B5 hx50).1 (F0 A8 (B5 hx50).2) (L rfl) (q 30) (q 31))) rfl (c (gd 27 (fieldD underlying69 (by rfl) (o:=1) (by rfl) tyS3 (by decide) (by rfl) (by rfl) (L rfl) (q 32))) rfl (c (gd 27 (loadD tyS3 (by rfl) (by rfl) (L rfl) (q 33))) rfl (c (gd 27 (neqI (L rfl) (q 29) (q 34))) rfl (c (pickF (L rfl) (q 27) (q 35)) rfl (c (OpJ.val (v':=.d (.bool false)) (by rw [hg51]<;>rfl) (mv hN (q 36))) rfl (c (gd 37 (fo 1006 2 [2] hN underlying69 2 tyS67 (q 6))) rfl (c (gd 37 (la hN 69 tyS67 (q 38))) rfl (cg (gd 37 (OpJ.bytesStr (xs:=x38.fData) tyU67 underlying5 underlying9 (L rfl) (q 39))) rfl (c (gd 37 (mv hN (q 1))) rfl (c (gd 37 (mv hN (q 5))) rfl (c (gd 37 (indexD underlying33 tyS69 (B5 hx52).1 (F0 A8 (B5 hx52).2) (L rfl) (q 41) (q 42))) rfl (c (gd 37 (fieldD underlying69 (by rfl) (o:=2) (by rfl) tyS67 (by decide) (by rfl) (by rfl) (L rfl) (q 43))) rfl (c (gd 37 (loadD tyS67 (by rfl) (by rfl) (L rfl) (q 44))) rfl (cg (gd 37 (OpJ.bytesStr (xs:=x52.fData) tyU67 underlying5 underlying9 (L rfl) (q 45))) rfl (cg (gd 37 (OpJ.neqS (L rfl) (q 40) (q 46))) rfl (c (pickF (L rfl) (q 37) (q 47)) rfl cn)))))))))))))))))))))))))))))) (by kernel_rfl) (by kernel_rfl)
       exact hjj46 _ h _ _ (mp [] _ _ hB)
   ·have h:=A6 hg37 h
    apply AWp.exit
    apply E5
    obtain rfl:=oi h
    exact⟨(fun hc=>by cases hc),rfl,(mp [] _ _ hB)⟩
  ·rcases x53 with _ | _
   ·obtain⟨rfl,hmat⟩:=hR
    apply D7
    apply B9
    obtain rfl:=oi h
    exact rt (Mat.trans hmat (mp [] [(4,(bo false))] [] hB)) [(bo false)] (rT rN) rfl
   ·obtain⟨rfl,hmat⟩:=hR
    apply C6
    apply A0
    refine ghost hmat ?_
    refine sr (SQ tt) ?_
    apply ret
    obtain rfl:=oi h
    exact rt (kp [(4,_)] [] hB rfl rfl (by rfl)) [(bo true)] (rT rN) rfl
end
end Go.Proofs.YtkhjkjojjdkidaaGreatDoor
