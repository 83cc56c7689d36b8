/- Printed by gen.py: the Go functions as plain functions, and that the code does what they say. -/
import Derived.Test.YtkhjkjojjdkidaaGreatDoorChecked
import Derived.Test.YtkhjkjojjdkidaaGreatDoorVcYB
import Derived.Test.YtkhjkjojjdkidaaGreatDoorVcZ
import Derived.Test.YtkhjkjojjdkidaaGreatDoorVcGC
import Derived.KernelRfl
import Derived.Test.YtkhjkjojjdkidaaGreatDoorVcMD
import Derived.Test.YtkhjkjojjdkidaaGreatDoorVcMQ
import Derived.Test.YtkhjkjojjdkidaaGreatDoorVcSG
import Derived.Test.YtkhjkjojjdkidaaGreatDoorFnsB
import Derived.Test.YtkhjkjojjdkidaaGreatDoorExt
import Derived.Test.YtkhjkjojjdkidaaGreatDoorVcPm
import Derived.Test.YtkhjkjojjdkidaaGreatDoorVcRg
import Derived.Test.YtkhjkjojjdkidaaGreatDoorVcSt
import Derived.Test.YtkhjkjojjdkidaaGreatDoorVcMR
import Derived.Test.YtkhjkjojjdkidaaGreatDoorVcMI
namespace Go.Proofs.YtkhjkjojjdkidaaGreatDoor
open Go Go.Vc
open Tryz
open Go.Vc.OpJ (assign alloc lss pickT pickF extract lenD indexD loadD eqlI gtr callVal leq geq loadR nilP indexS buildSlice lenS fieldD neqI pickAnd pickOr)
set_option maxHeartbeats 4000000
set_option maxRecDepth 100000
noncomputable section
def A01 (a0:(List A6)) (s1:Int×(List C5)×(List A2)):Option (((Unit)⊕((List C5)×(List A2)))⊕(Int×(List C5)×(List A2))) :=
 (if (decide (s1.1<(a0.length:Int)))=true then
 jn (fun m152:(List C5)×(List A2) =>
 some (.inr ((w64 (s1.1+1)),m152.1,m152.2))) (fun j153 =>
 (idx a0 s1.1).bind fun x154 =>
 jn (fun m161:Bool =>
 (if m161=true then
 some (.inl (.inl ()))
 else
 (if (!x154.fHas)=true then
 chk (decide ((s1.2.2++[x154.fPrefix]).length≤LIM)) <|
 j153 (s1.2.1,(s1.2.2++[x154.fPrefix]))
 else
 (Q0 s1.2.1 x154).bind fun r166 =>
 jn (fun m169:Int×(List C5) =>
 (idx m169.2 m169.1).bind fun _ =>
 (idx m169.2 m169.1).bind fun x172 =>
 chk (decide ((x172.fprefixes++[x154.fPrefix]).length≤LIM)) <|
 (idx m169.2 m169.1).bind fun _ =>
 (idx m169.2 m169.1).bind fun x175 =>
 j153 ((m169.2.set m169.1.toNat (C5.mk x175.fattrs (x172.fprefixes++[x154.fPrefix]))),s1.2.2)) (fun j170 =>
 (if (decide (r166<0))=true then
 chk (decide ((s1.2.1++([(C5.mk x154.fRoute.fAttrs ([]:List A2))]:List C5)).length≤LIM)) <|
 j170 ((s1.2.1.length:Int),(s1.2.1++([(C5.mk x154.fRoute.fAttrs ([]:List A2))]:List C5)))
 else
 j170 (r166,s1.2.1)))))) (fun j162 =>
 (A3c x154).bind fun r178 =>
 (if (!r178)=true then
 j162 true
 else
 (if (decide (0<s1.1))=true then
 (idx a0 (w64 (s1.1-1))).bind fun x181 =>
 (A3d x181.fPrefix x154.fPrefix).bind fun r182 =>
 j162 (decide (0≤r182))
 else
 j162 false))))
 else
 some (.inl (.inr (s1.2.1,s1.2.2))))
def A1i (p121:(List C5)×(List A2)) (s186:Int×(List D2)):Option ((((List D2)))⊕(Int×(List D2))) :=
 (if (decide (s186.1<(p121.1.length:Int)))=true then
 (idx p121.1 s186.1).bind fun x198 =>
 (S0 x198 true).bind fun r199 =>
 chk (decide ((s186.2++r199).length≤LIM)) <|
 some (.inr ((w64 (s186.1+1)),(s186.2++r199)))
 else
 some (.inl s186.2))
def A20 (a0:(List A6)):Option ((List D2)×Int) :=
 (loop (A01 a0) (0,([]:List C5),([]:List A2))).bind fun x183=>match x183 with
 | (.inl _) =>
  some (([]:List D2),1)
 | (.inr p121) =>
  (A0b (C5.mk (C6.mk 0 ([]:List B0) (C7.mk false 0 0) 0 0 0 ([]:List B3) ([]:List E6) ([]:List A1)) p121.2) false).bind fun r185 =>
  (loop (A1i p121) (0,r185)).bind fun p196 =>
  some (p196,0)
theorem A72 (a0:(List A6)) (r:(List D2)×Int) (h:A20 a0=some r):AC Tryz.prog 12 [(.d (.list 22 (a0.map E7)))] [(500,(.know (globD 0 (.imap gv0))))] (.tup [(.d (.list 13 (r.1.map C4))),(.d (.int .i64 r.2))]) [(500,some (.know (globD 0 (.imap gv0))))]:=by
 refine ac2 Tryz.func12 rfl rfl fun B hB hN L => ?_
 delta A20 at h
 refine sr (SQ tt) ?_
 refine sr (SQ tt) ?_
 refine sr (SQ tt) ?_
 apply AWp.seq
 refine sr (SQ tt) ?_
 apply AWp.block
 obtain⟨x183,hx184,h⟩:=bindS h
 refine lg (A01 a0) (fun s1:Int×(List C5)×(List A2)=>([(0,(D3 a0)),(4,(pt 1004)),(5,(.sref 3005 12 0 s1.2.1.length)),(12,(D3 a0)),(13,(i6 (a0.length:Int))),(14,(i6 s1.1))]:EL)) (fun s1:Int×(List C5)×(List A2)=>([(500,some (.know (globD 0 (.imap gv0)))),(1004,some (.box 79 (.st [(.st [(i6 0),.nils,(.d (.st [(.bool false),(.int .u64 0),(.int .u64 0)])),(i6 0),(i6 0),(i6 0),.nils,.nils,.nils]),(.sref 13041 4 0 s1.2.2.length)]))),(3005,some (.reg (nrow 79 12 1 29 4 (s1.2.1.map C8) none))),(13041,some (G0 s1.2.2))]:OL)) (fun(x:(Unit)⊕((List C5)×(List A2))) e E' O'=>match x with | (.inl _p)=>e = .ret∧Mat B E' O' ([(2,.nils),(3,(i6 1))]:EL) ([(500,some (.know (globD 0 (.imap gv0))))]:OL) | (.inr p121)=>e = .exit 0∧Mat B E' O' ([(4,(pt 1004)),(5,(.sref 3005 12 0 p121.1.length))]:EL) ([(500,some (.know (globD 0 (.imap gv0)))),(1004,some (.box 79 (.st [(.st [(i6 0),.nils,(.d (.st [(.bool false),(.int .u64 0),(.int .u64 0)])),(i6 0),(i6 0),(i6 0),.nils,.nils,.nils]),(.sref 13041 4 0 p121.2.length)]))),(3005,some (.reg (nrow 79 12 1 29 4 (p121.1.map C8) none))),(13041,some (G0 p121.2))]:OL)) hx184 (Mat.trans (Mat.beginG (n:=3005) (e:=79) (sz:=12) (j:=1) (e2:=29) (sz2:=4) (Ts:=[(5,(.sref 3005 12 0 0))]) (Bs:=[]) hB (by decide) (by decide) (by rfl) (by decide) (TwT.cons (x:=.nils) (by rfl) (Tw.leaf ⟨rfl,rfl⟩) TwT.nil) TwB.nil) (Mat.trans (Mat.beginP (n:=13041) (e:=29) (sz:=4) (Ts:=[]) (Bs:=[(1004,some (.box 79 (.st [(.st [(i6 0),.nils,(.d (.st [(.bool false),(.int .u64 0),(.int .u64 0)])),(i6 0),(i6 0),(i6 0),.nils,.nils,.nils]),(.sref 13041 4 0 0)])))]) hB (by decide) (by rfl) (by decide) TwT.nil (TwB.cons (x:=(.st [(.st [(i6 0),.nils,(.d (.st [(.bool false),(.int .u64 0),(.int .u64 0)])),(i6 0),(i6 0),(i6 0),.nils,.nils,.nils]),.nils])) (by rfl) (Tw.st (TwL.cons (Tw.same _) (TwL.cons (Tw.leaf ⟨rfl,rfl⟩) TwL.nil))) TwB.nil)) (mp [] _ _ hB))) (fun s1 y h => ?_) (fun e E' O' hR => ?_)
 ·unfold A01 at h
  refine sr (SQ tt) ?_
  apply AWp.seq
  apply AWp.cond rfl<;>intro hg122
  ·have h:=A3 hg122 h
   apply AWp.skip
   apply A0
   apply AWp.seq
   refine AWp.cut h (fun m152:(List C5)×(List A2)=>([(0,(D3 a0)),(4,(pt 1004)),(5,(.sref 3005 12 0 m152.1.length)),(12,(D3 a0)),(13,(i6 (a0.length:Int))),(14,(i6 s1.1))]:EL)) (fun m152:(List C5)×(List A2)=>([(500,some (.know (globD 0 (.imap gv0)))),(1004,some (.box 79 (.st [(.st [(i6 0),.nils,(.d (.st [(.bool false),(.int .u64 0),(.int .u64 0)])),(i6 0),(i6 0),(i6 0),.nils,.nils,.nils]),(.sref 13041 4 0 m152.2.length)]))),(3005,some (.reg (nrow 79 12 1 29 4 (m152.1.map C8) none))),(13041,some (G0 m152.2))]:OL)) (fun m152 h E' O' hmat => ?_) (fun j153 hjj153 h => ?_)
   ·apply A0
    refine AWp.ghost hmat ?_
    refine rg (SQ tt) ?_
    obtain rfl:=oi h
    exact⟨rfl,(mp [] _ _ hB)⟩
   ·apply AWp.block
    obtain⟨x154,hx154,h⟩:=bindS h
    refine sr (SQ (fa hx154 tt)) ?_
    apply AWp.seq
    apply AWp.seq
    refine AWp.cut h (fun m161:Bool=>([(0,(D3 a0)),(4,(pt 1004)),(5,(.sref 3005 12 0 s1.2.1.length)),(7,(pt 1007)),(12,(D3 a0)),(13,(i6 (a0.length:Int))),(14,(i6 s1.1)),(37,(bo m161))]:EL)) (fun m161:Bool=>([(500,some (.know (globD 0 (.imap gv0)))),(1004,some (.box 79 (.st [(.st [(i6 0),.nils,(.d (.st [(.bool false),(.int .u64 0),(.int .u64 0)])),(i6 0),(i6 0),(i6 0),.nils,.nils,.nils]),(.sref 13041 4 0 s1.2.2.length)]))),(1007,bd 39 (E7 x154)),(3005,some (.reg (nrow 79 12 1 29 4 (s1.2.1.map C8) none))),(13041,some (G0 s1.2.2))]:OL)) (fun m161 h E' O' hmat => ?_) (fun j162 hjj162 h => ?_)
    ·apply A0
     refine AWp.ghost hmat ?_
     apply AWp.cond rfl<;>intro hg163
     ·have h:=A3 hg163 h
      refine sr (SQ tt) ?_
      apply AWp.ret
      apply B5
      apply D5
      apply B5
      obtain rfl:=oi h
      exact⟨(fun hc=>by cases hc),rfl,(mp [] _ _ hB)⟩
     ·have h:=A4 hg163 h
      apply AWp.skip
      apply A0
      apply AWp.seq
      refine sr (SQ tt) ?_
      apply AWp.cond rfl<;>intro hg164
      ·have h:=A3 hg164 h
       obtain⟨hc165,h⟩:=B6 h
       refine sr (SQ (fa hc165 tt)) ?_
       refine gh [(0,_),(4,_),(5,_),(12,_),(13,_),(14,_)] [(500,some _),(1004,some _),(1046,some _),(3005,some _)] hB rfl rfl (by rfl) ?_
       apply AWp.exit
       apply E5
       apply C2
       exact hjj153 _ h _ _ (mp [(13041,1046)] _ _ hB)
      ·have h:=A4 hg164 h
       apply AWp.skip
       apply A0
       obtain⟨r166,hr166,h⟩:=bindS h
       apply sr (c (mv hN (q 5)) rfl (cg (OpJ.makeF (OpdL.cons (q 7) OpdL.nil) rfl rfl (L rfl)) rfl (cg (OpJ.peek [(3005,(.reg (nrow 79 12 1 29 4 (s1.2.1.map C8) none))),(1007,(.box 39 (.d (E7 x154))))] fnOk30 (A52 s1.2.1 x154 r166 hr166) rfl (L rfl) (by kernel_rfl) (OpdL.cons (q 48) (OpdL.cons (q 49) OpdL.nil)) (PkL.cons (Pk.reg (List.Mem.head _) (by simp)) (PkL.cons (Pk.fn (PkL.cons (Pk.box (List.Mem.tail _ (List.Mem.head _)) (Co.d _)) PkL.nil)) PkL.nil))) rfl (c (assign (L rfl) (q 50)) rfl cn))))
       apply AWp.seq
       refine sr (SQ tt) ?_
       refine gh [(0,_),(4,_),(5,_),(7,_),(8,_),(12,_),(13,_),(14,_),(52,_)] [(500,some _),(1004,some _),(1007,some _),(3005,some _),(13041,some _)] hB rfl rfl (by rfl) ?_
       refine AWp.cut h (fun m169:Int×(List C5)=>([(0,(D3 a0)),(4,(pt 1004)),(5,(.sref 3005 12 0 m169.2.length)),(7,(pt 1007)),(8,(i6 m169.1)),(12,(D3 a0)),(13,(i6 (a0.length:Int))),(14,(i6 s1.1))]:EL)) (fun m169:Int×(List C5)=>([(500,some (.know (globD 0 (.imap gv0)))),(1004,some (.box 79 (.st [(.st [(i6 0),.nils,(.d (.st [(.bool false),(.int .u64 0),(.int .u64 0)])),(i6 0),(i6 0),(i6 0),.nils,.nils,.nils]),(.sref 13041 4 0 s1.2.2.length)]))),(1007,bd 39 (E7 x154)),(3005,some (.reg (nrow 79 12 1 29 4 (m169.2.map C8) none))),(13041,some (G0 s1.2.2))]:OL)) (fun m169 h E' O' hmat => ?_) (fun j170 hjj170 h => ?_)
       ·apply A0
        refine AWp.ghost hmat ?_
        obtain⟨_,hx171,h⟩:=bindS h
        obtain⟨x172,hx172,h⟩:=bindS h
        obtain⟨hc173,h⟩:=B6 h
        obtain⟨_,hx174,h⟩:=bindS h
        obtain⟨x175,hx175,h⟩:=bindS h
        apply dr (c (mv hN (q 5)) rfl (c (mv hN (q 8)) rfl (c (mv hN (q 5)) rfl (c (mv hN (q 8)) rfl (c (OpJ.val (v':=(.ptr 3005 (m169.1.toNat*12) [m169.1.toNat])) (by simp) (indexS underlying80 tyS79 (D7 hx171).1 (by have:=B1f hx171;first | (simpa using this) | ((try simp only [List.length_map] at this);(try simp only [List.length_map]);omega)) (L rfl) (q 64) (q 65))) rfl (c (ov (.ptr 3005 ((m169.1.toNat*12)+11) [m169.1.toNat,1]) (fp hN underlying79 11 tyS59 _ (q 66))) rfl (cg (OpJ.takeG hB (m:=1068) (e:=79) (sz:=12) (j:=1) (e2:=29) (sz2:=4) (len:=x172.fprefixes.length) (es:=m169.2.map C8) (pre:=([(B1 x172.fattrs)]:List D)) (inner:=x172.fprefixes.map A7) (post:=([]:List D)) tyS59 (by decide) (H2 C8 (D7 hx172).2) (by rfl) (o:=11) (by rfl) (by rfl) (by simp) (L rfl) (q 67)) rfl (c (fo 1007 1 [1] hN underlying39 1 tyS29 (q 7)) rfl (c (la hN 39 tyS29 (q 69)) rfl (c (buildSlice underlying59 tyS29 tyZD29 (by rfl) (by decide) (by decide) (Opds.cons (q 70) Opds.nil) (by kernel_rfl) (es:=([(A7 x154.fPrefix)]:List D)) (by rfl) (by rfl) (by kernel_rfl) (by simp) (L rfl)) rfl (cg (apd hB underlying59 tyE29 1072 A7 x172.fprefixes [x154.fPrefix] hc173 (L rfl) (q 68) (q 71)) rfl (c (OpJ.val (v':=(.ptr 3005 (m169.1.toNat*12) [m169.1.toNat])) (by simp) (indexS underlying80 tyS79 (D7 hx174).1 (by have:=B1f hx174;first | (simpa using this) | ((try simp only [List.length_map] at this);(try simp only [List.length_map]);omega)) (L rfl) (q 62) (q 63))) rfl (c (ov (.ptr 3005 ((m169.1.toNat*12)+11) [m169.1.toNat,1]) (fp hN underlying79 11 tyS59 _ (q 73))) rfl (cg (OpJ.putG (e:=79) (sz:=12) (j:=1) (e2:=29) (sz2:=4) (es:=m169.2.map C8) (es':=(m169.2.set m169.1.toNat (C5.mk x175.fattrs (x172.fprefixes++[x154.fPrefix]))).map C8) (pre:=([(B1 x175.fattrs)]:List D)) (inner0:=x175.fprefixes.map A7) (inner:=(x172.fprefixes++[x154.fPrefix]).map A7) (post:=([]:List D)) tyS59 (H2 C8 (D7 hx175).2) (B1h _ _ _ _) (by rfl) (o:=11) (by rfl) (by rfl) (by simp) (q 74) (q 72)) rfl cn)))))))))))))) (by kernel_rfl) (by kernel_rfl)
        apply E4
        exact hjj153 _ h _ _ (Mat.trans (mp [] [(0,(D3 a0)),(4,(pt 1004)),(5,(.sref 3005 12 0 m169.2.length)),(12,(D3 a0)),(13,(i6 (a0.length:Int))),(14,(i6 s1.1))] [(500,some (.know (globD 0 (.imap gv0)))),(1004,some (.box 79 (.st [(.st [(i6 0),.nils,(.d (.st [(.bool false),(.int .u64 0),(.int .u64 0)])),(i6 0),(i6 0),(i6 0),.nils,.nils,.nils]),(.sref 13041 4 0 s1.2.2.length)]))),(3005,some (.reg (nrow 79 12 1 29 4 ((m169.2.set m169.1.toNat (C5.mk x175.fattrs (x172.fprefixes++[x154.fPrefix]))).map C8) none))),(13041,some (G0 s1.2.2))] hB) (Mat.trans (Mat.lenP (Ts:=[(5,(.sref 3005 12 0 ((m169.2.set m169.1.toNat (C5.mk x175.fattrs (x172.fprefixes++[x154.fPrefix]))).length)))]) (Bs:=[]) (TwT.cons (x:=(.sref 3005 12 0 m169.2.length)) (by rfl) (Tw.leaf ⟨_,_,_,_,_,rfl,rfl,(by first | rfl | (simp;done) | (simp;omega) | omega)⟩) TwT.nil) TwB.nil) (mp [] _ _ hB)))
       ·apply AWp.cond rfl<;>intro hg176
        ·have h:=A3 hg176 h
         refine sr (SQ tt) ?_
         obtain⟨hc177,h⟩:=B6 h
         apply rg (c (mv hN (q 5)) rfl (c (fo 1007 6 [3] hN underlying39 6 tyS37 (q 7)) rfl (c (fo 1007 11 [3,2] hN underlying37 5 tyS35 (q 56)) rfl (c (lb hN 39 _ _ tyS35 (At.dst1 (by rfl) (by rfl) (ad _) (by first | rfl | omega)) (q 57)) rfl (c (OpJ.build (places:=[(0,11),(11,1)]) ⟨underlying79,fun w=>by kernel_rfl⟩ tyZS79 (Opds.cons (q 58) Opds.nil) (by kernel_rfl) (r:=(.st [(.d (B1 x154.fRoute.fAttrs)),.nils])) (by rfl) (L rfl)) rfl (cg (OpJ.buildSliceG (e:=79) (sz:=12) (j:=1) (e2:=29) (sz2:=4) (z:=(.st [(.st [(.int .i64 0),(.list 2 (([]:List B0).map C3)),(.st [(.bool false),(.int .u64 0),(.int .u64 0)]),(.int .i64 0),(.int .i64 0),(.int .i64 0),(.list 2 (([]:List B3).map B4)),(.list 3 (([]:List E6).map D9)),(.list 3 (([]:List A1).map A8))]),(.list 4 (([]:List A2).map A7))])) underlying80 tyS79 tyZD79 (by rfl) (by decide) (by decide) (by decide) hB (nm:=1060) (by decide) (pre:=([(B1 x154.fRoute.fAttrs)]:List D)) (post:=([]:List D)) (q 59) (by kernel_rfl) (es:=([(C5.mk x154.fRoute.fAttrs ([]:List A2))]:List C5).map C8) (by rfl) (by rfl) (by kernel_rfl) (L rfl)) rfl (cg (OpJ.appendG hB underlying80 tyE79 (nm:=1061) (by decide) (j:=1) (e2:=29) (sz2:=4) (es:=s1.2.1.map C8) (ys:=([(C5.mk x154.fRoute.fAttrs ([]:List A2))]:List C5).map C8) (es':=(s1.2.1++([(C5.mk x154.fRoute.fAttrs ([]:List A2))]:List C5)).map C8) (len:=(s1.2.1++([(C5.mk x154.fRoute.fAttrs ([]:List A2))]:List C5)).length) (by rfl) (by simp) (by simp) (by simp) (by rw [List.length_map];exact V1 hc177 (by decide)) (by rw [List.length_map];exact A12 hc177) (L rfl) (by simp) (by simp) (q 55) (q 60)) rfl (c (assign (L rfl) (q 61)) rfl cn))))))))
         exact hjj170 _ h _ _ (mp [(3005,1061)] _ _ hB)
        ·have h:=A4 hg176 h
         apply AWp.skip
         exact hjj170 _ h _ _ (mp [] _ _ hB)
    ·obtain⟨r178,hr178,h⟩:=bindS h
     rcases bft (!r178) with hg179 | hg179
     ·have h:=A3 hg179 h
      refine drS (SQ (fa (cl [(500,500)] (A46 x154 r178 hr178)) (fa hg179 tt))) ?_
      exact hjj162 _ h _ _ (mp [] _ _ hB)
     ·have h:=A4 hg179 h
      rcases bft (decide (0<s1.1)) with hg180 | hg180
      ·have h:=A3 hg180 h
       obtain⟨x181,hx181,h⟩:=bindS h
       obtain⟨r182,hr182,h⟩:=bindS h
       refine drS (SQ (fa (cl [(500,500)] (A46 x154 r178 hr178)) (fa hg179 (fa hg180 (fa hx181 (fa (cl [] (B0g x181.fPrefix x154.fPrefix r182 hr182)) tt)))))) ?_
       exact hjj162 _ h _ _ (mp [] _ _ hB)
      ·have h:=A4 hg180 h
       refine drS (SQ (fa (cl [(500,500)] (A46 x154 r178 hr178)) (fa hg179 (fa hg180 tt)))) ?_
       exact hjj162 _ h _ _ (mp [] _ _ hB)
  ·have h:=A4 hg122 h
   apply AWp.exit
   apply E5
   obtain rfl:=oi h
   exact⟨(fun hc=>by cases hc),rfl,(mp [] _ _ hB)⟩
 ·rcases x183 with _ | p121
  ·obtain⟨rfl,hmat⟩:=hR
   apply D5
   apply B5
   obtain rfl:=oi h
   exact rt (Mat.trans hmat (Mat.trans (Mat.coeP (Ts:=[(2,(E9 ([]:List D2)))]) (Bs:=[]) (TwT.cons (x:=.nils) (by rfl) (Tw.leaf ⟨_,(Co.nils 13),rfl⟩) TwT.nil) TwB.nil) (mp [] [(2,(E9 ([]:List D2))),(3,(i6 1))] [(500,some (.know (globD 0 (.imap gv0))))] hB))) [(E9 ([]:List D2)),(i6 1)] (Res.tmp (by rfl) (by rfl) (Res.tmp (by rfl) (by rfl) Res.nil)) rfl
  ·obtain⟨rfl,hmat⟩:=hR
   apply C2
   apply A0
   refine AWp.ghost hmat ?_
   apply AWp.seq
   refine AWp.ghost (Mat.freezeP (n:=13041) (e:=29) (sz:=4) (es:=p121.2.map A7) (Ts:=[]) (Bs:=[(1004,some (.box 79 (.st [(.st [(i6 0),.nils,(.d (.st [(.bool false),(.int .u64 0),(.int .u64 0)])),(i6 0),(i6 0),(i6 0),.nils,.nils,.nils]),(D6 p121.2)])))]) (by rfl) TwT.nil (TwB.cons (x:=(.st [(.st [(i6 0),.nils,(.d (.st [(.bool false),(.int .u64 0),(.int .u64 0)])),(i6 0),(i6 0),(i6 0),.nils,.nils,.nils]),(.sref 13041 4 0 p121.2.length)])) (by rfl) (Tw.st (TwL.cons (Tw.same _) (TwL.cons (FrzL.all (by first | rfl | (simp;done) | (simp;omega) | omega)) TwL.nil))) TwB.nil)) ?_
   obtain⟨r185,hr185,h⟩:=bindS h
   refine rg (SQ (fa (cl [(500,500),(900000,100300)] (A7k (C5.mk (C6.mk 0 ([]:List B0) (C7.mk false 0 0) 0 0 0 ([]:List B3) ([]:List E6) ([]:List A1)) p121.2) false r185 hr185)) tt)) ?_
   apply A0
   refine AWp.ghost (mp [] [(5,(.sref 3005 12 0 p121.1.length)),(9,(.sref 100300 13 0 r185.length))] [(500,some (.know (globD 0 (.imap gv0)))),(3005,some (.reg (nrow 79 12 1 29 4 (p121.1.map C8) none))),(100300,some (F6 r185))] hB) ?_
   apply AWp.seq
   refine sr (SQ tt) ?_
   apply AWp.block
   obtain⟨p196,hx202,h⟩:=bindS h
   refine lg (A1i p121) (fun s186:Int×(List D2)=>([(9,(.sref 3009 13 0 s186.2.length)),(78,(.d (.list 12 (p121.1.map C8)))),(79,(i6 (p121.1.length:Int))),(80,(i6 s186.1))]:EL)) (fun s186:Int×(List D2)=>([(500,some (.know (globD 0 (.imap gv0)))),(3009,some (F6 s186.2))]:OL)) (fun(p196:((List D2))) e E' O'=>e = .exit 2∧Mat B E' O' ([(9,(.sref 3009 13 0 p196.length))]:EL) ([(500,some (.know (globD 0 (.imap gv0)))),(3009,some (F6 p196))]:OL)) hx202 (Mat.trans (Mat.freezeG (n:=3005) (e:=79) (sz:=12) (j:=1) (e2:=29) (sz2:=4) (es:=p121.1.map C8) (Ts:=[(78,(.d (.list 12 (p121.1.map C8))))]) (Bs:=[]) (by rfl) (TwT.cons (x:=(.sref 3005 12 0 p121.1.length)) (by rfl) (FrzL.all (by first | rfl | (simp;done) | (simp;omega) | omega)) TwT.nil) TwB.nil) (mp [(3009,100300)] _ _ hB)) (fun s186 y h => ?_) (fun e E' O' hR => ?_)
   ·unfold A1i at h
    refine sr (SQ tt) ?_
    apply AWp.seq
    apply AWp.cond rfl<;>intro hg197
    ·have h:=A3 hg197 h
     apply AWp.skip
     apply A0
     apply AWp.seq
     apply AWp.block
     obtain⟨x198,hx198,h⟩:=bindS h
     refine sr (SQ (fa hx198 tt)) ?_
     obtain⟨r199,hr199,h⟩:=bindS h
     obtain⟨hc200,h⟩:=B6 h
     refine rg (SQ (fa (cl [(500,500)] (A9m x198 true r199 hr199)) (fa hc200 tt))) ?_
     apply E4
     apply A0
     refine AWp.ghost (mp [] [(9,(.sref 1087 13 0 ((s186.2++r199).length))),(78,(.d (.list 12 (p121.1.map C8)))),(79,(i6 (p121.1.length:Int))),(80,(i6 s186.1))] [(500,some (.know (globD 0 (.imap gv0)))),(1087,some (F6 (s186.2++r199)))] hB) ?_
     refine rg (SQ tt) ?_
     obtain rfl:=oi h
     exact⟨rfl,(mp [(3009,1087)] _ _ hB)⟩
    ·have h:=A4 hg197 h
     apply AWp.exit
     apply E5
     obtain rfl:=oi h
     exact⟨(fun hc=>by cases hc),rfl,(mp [] _ _ hB)⟩
   ·obtain⟨rfl,hmat⟩:=hR
    apply C2
    apply A0
    refine AWp.ghost hmat ?_
    refine sr (SQ tt) ?_
    apply AWp.ret
    obtain rfl:=oi h
    exact rt (Mat.trans (Mat.freezeP (n:=3009) (e:=61) (sz:=13) (es:=p196.map C4) (Ts:=[(2,(E9 p196))]) (Bs:=[]) (by rfl) (TwT.cons (x:=(.sref 3009 13 0 p196.length)) (by rfl) (FrzL.all (by first | rfl | (simp;done) | (simp;omega) | omega)) TwT.nil) TwB.nil) (mp [] [(2,(E9 p196)),(3,(i6 0))] [(500,some (.know (globD 0 (.imap gv0))))] hB)) [(E9 p196),(i6 0)] (Res.tmp (by rfl) (by rfl) (Res.tmp (by rfl) (by rfl) Res.nil)) rfl
def M5 (a0:(List B0)):Option (Int×Bool) :=
 jn (fun m5:Bool =>
 (if m5=true then
 some (0,false)
 else
 (idx a0 0).bind fun x8 =>
 (idx x8.fASNs 0).bind fun x9 =>
 some (x9,true))) (fun j6 =>
 (if ((a0.length:Int)==0)=true then
 j6 true
 else
 (R5 a0).bind fun r11 =>
 (if (!r11)=true then
 j6 true
 else
 (idx a0 0).bind fun x13 =>
 j6 x13.fSet)))
theorem A8n (a0:(List B0)) (r:Int×Bool) (h:M5 a0=some r):AC Tryz.prog 39 [(.d (.list 2 (a0.map C3)))] [] (.tup [(.d (.int .i64 r.1)),(.d (.bool r.2))]) []:=by
 refine ac2 Tryz.func39 rfl rfl fun B hB hN L => ?_
 delta M5 at h
 refine sr (SQ tt) ?_
 apply AWp.seq
 apply AWp.seq
 refine AWp.cut h (fun m5:Bool=>([(0,(C0 a0)),(17,(bo m5))]:EL)) (fun m5:Bool=>([]:OL)) (fun m5 h E' O' hmat => ?_) (fun j6 hjj6 h => ?_)
 ·apply A0
  refine AWp.ghost hmat ?_
  apply AWp.cond rfl<;>intro hg7
  ·have h:=A3 hg7 h
   refine sr (SQ tt) ?_
   apply AWp.ret
   apply B5
   obtain rfl:=oi h
   exact rt (kp [(2,_),(3,_)] [] hB rfl rfl (by rfl)) [(i6 0),(bo false)] (Res.tmp (by rfl) (by rfl) (Res.tmp (by rfl) (by rfl) Res.nil)) rfl
  ·have h:=A4 hg7 h
   apply AWp.skip
   apply A0
   obtain⟨_,hx8,h⟩:=bindS h
   obtain⟨x9,hx9,h⟩:=bindS h
   refine sr (SQ (fa hx8 (fa hx9 tt))) ?_
   apply AWp.ret
   obtain rfl:=oi h
   exact rt (kp [(2,_),(3,_)] [] hB rfl rfl (by rfl)) [(i6 x9),(bo true)] (Res.tmp (by rfl) (by rfl) (Res.tmp (by rfl) (by rfl) Res.nil)) rfl
 ·rcases bft ((a0.length:Int)==0) with hg10 | hg10
  ·have h:=A3 hg10 h
   refine rg (SQ (fa hg10 tt)) ?_
   exact hjj6 _ h _ _ (mp [] _ _ hB)
  ·have h:=A4 hg10 h
   obtain⟨r11,hr11,h⟩:=bindS h
   rcases bft (!r11) with hg12 | hg12
   ·have h:=A3 hg12 h
    refine rg (SQ (fa hg10 (fa (cl [] (G3 a0 r11 hr11)) (fa hg12 tt)))) ?_
    exact hjj6 _ h _ _ (mp [] _ _ hB)
   ·have h:=A4 hg12 h
    obtain⟨_,hx13,h⟩:=bindS h
    refine rg (SQ (fa hg10 (fa (cl [] (G3 a0 r11 hr11)) (fa hg12 (fa hx13 tt))))) ?_
    exact hjj6 _ h _ _ (mp [] _ _ hB)
def K5 (a1:Int) (x72:D2) (s73:Int×(List A6)):Option ((((List A6)))⊕(Int×(List A6))) :=
 (if (decide (s73.1<(x72.fWithdraw.length:Int)))=true then
 (idx x72.fWithdraw s73.1).bind fun x82 =>
 chk (decide ((s73.2++([(A6.mk a1 x82 false (D0.mk (A2.mk (C7.mk false 0 0) 0) 0 (C6.mk 0 ([]:List B0) (C7.mk false 0 0) 0 0 0 ([]:List B3) ([]:List E6) ([]:List A1))))]:List A6)).length≤LIM)) <|
 some (.inr ((w64 (s73.1+1)),(s73.2++([(A6.mk a1 x82 false (D0.mk (A2.mk (C7.mk false 0 0) 0) 0 (C6.mk 0 ([]:List B0) (C7.mk false 0 0) 0 0 0 ([]:List B3) ([]:List E6) ([]:List A1))))]:List A6))))
 else
 some (.inl s73.2))
def Q1 (a1:Int) (x72:D2) (r86:Int×Bool) (s87:Int×(List A6)):Option ((((List A6)))⊕(Int×(List A6))) :=
 (if (decide (s87.1<(x72.fAnnounce.length:Int)))=true then
 (idx x72.fAnnounce s87.1).bind fun x98 =>
 (T8 x72.fAttrs).bind fun r99 =>
 chk (decide ((s87.2++[(A6.mk a1 x98 true (D0.mk x98 r86.1 r99))]).length≤LIM)) <|
 some (.inr ((w64 (s87.1+1)),(s87.2++[(A6.mk a1 x98 true (D0.mk x98 r86.1 r99))])))
 else
 some (.inl s87.2))
def Q2 (a0:(List D2)) (a1:Int) (s1:Int×(List A6)):Option ((((List A6)))⊕(Int×(List A6))) :=
 (if (decide (s1.1<(a0.length:Int)))=true then
 (idx a0 s1.1).bind fun x72 =>
 (loop (K5 a1 x72) (0,s1.2)).bind fun p80 =>
 (M5 x72.fAttrs.fPath).bind fun r86 =>
 (loop (Q1 a1 x72 r86) (0,p80)).bind fun p96 =>
 some (.inr ((w64 (s1.1+1)),p96))
 else
 some (.inl s1.2))
def U0 (a0:(List D2)) (a1:Int):Option ((List A6)) :=
 (loop (Q2 a0 a1) (0,([]:List A6))).bind fun p70 =>
 some p70
theorem A5m (a0:(List D2)) (a1:Int) (r:(List A6)) (h:U0 a0 a1=some r):AC Tryz.prog 16 [(.d (.list 13 (a0.map C4))),(.d (.int .i64 a1))] [] (.d (.list 22 (r.map E7))) []:=by
 refine ac2 Tryz.func16 rfl rfl fun B hB hN L => ?_
 delta U0 at h
 refine sr (SQ tt) ?_
 refine sr (SQ tt) ?_
 apply AWp.seq
 refine sr (SQ tt) ?_
 apply AWp.block
 obtain⟨p70,hx104,h⟩:=bindS h
 refine lg (Q2 a0 a1) (fun s1:Int×(List A6)=>([(1,(i6 a1)),(5,(.sref 3005 22 0 s1.2.length)),(14,(E9 a0)),(15,(i6 (a0.length:Int))),(16,(i6 s1.1))]:EL)) (fun s1:Int×(List A6)=>([(3005,some (F5 s1.2))]:OL)) (fun(p70:((List A6))) e E' O'=>e = .exit 0∧Mat B E' O' ([(5,(.sref 3005 22 0 p70.length))]:EL) ([(3005,some (F5 p70))]:OL)) hx104 (Mat.trans (Mat.beginP (n:=3005) (e:=39) (sz:=22) (Ts:=[(5,(.sref 3005 22 0 0))]) (Bs:=[]) hB (by decide) (by rfl) (by decide) (TwT.cons (x:=.nils) (by rfl) (Tw.leaf ⟨rfl,rfl⟩) TwT.nil) TwB.nil) (mp [] _ _ hB)) (fun s1 y h => ?_) (fun e E' O' hR => ?_)
 ·unfold Q2 at h
  refine sr (SQ tt) ?_
  apply AWp.seq
  apply AWp.cond rfl<;>intro hg71
  ·have h:=A3 hg71 h
   apply AWp.skip
   apply A0
   apply AWp.seq
   apply AWp.block
   obtain⟨x72,hx72,h⟩:=bindS h
   refine sr (SQ (fa hx72 tt)) ?_
   apply AWp.seq
   refine sr (SQ tt) ?_
   apply AWp.block
   obtain⟨p80,hx85,h⟩:=bindS h
   refine lg (K5 a1 x72) (fun s73:Int×(List A6)=>([(1,(i6 a1)),(5,(.sref 3005 22 0 s73.2.length)),(7,(pt 1007)),(14,(E9 a0)),(15,(i6 (a0.length:Int))),(16,(i6 s1.1)),(21,(D6 x72.fWithdraw)),(22,(i6 (x72.fWithdraw.length:Int))),(23,(i6 s73.1))]:EL)) (fun s73:Int×(List A6)=>([(1007,bd 61 (C4 x72)),(3005,some (F5 s73.2))]:OL)) (fun(p80:((List A6))) e E' O'=>e = .exit 2∧Mat B E' O' ([(1,(i6 a1)),(5,(.sref 3005 22 0 p80.length)),(7,(pt 1007)),(14,(E9 a0)),(15,(i6 (a0.length:Int))),(16,(i6 s1.1))]:EL) ([(1007,bd 61 (C4 x72)),(3005,some (F5 p80))]:OL)) hx85 (mp [] _ _ hB) (fun s73 y h => ?_) (fun e E' O' hR => ?_)
   ·unfold K5 at h
    refine sr (SQ tt) ?_
    apply AWp.seq
    apply AWp.cond rfl<;>intro hg81
    ·have h:=A3 hg81 h
     apply AWp.skip
     apply A0
     apply AWp.seq
     apply AWp.block
     obtain⟨_,hx82,h⟩:=bindS h
     refine sr (SQ (fa hx82 tt)) ?_
     obtain⟨hc83,h⟩:=B6 h
     refine rg (SQ (fa hc83 tt)) ?_
     apply E4
     apply A0
     refine rg (SQ tt) ?_
     obtain rfl:=oi h
     exact⟨rfl,(mp [(3005,1032)] _ _ hB)⟩
    ·have h:=A4 hg81 h
     apply AWp.exit
     apply E5
     obtain rfl:=oi h
     exact⟨(fun hc=>by cases hc),rfl,(mp [] _ _ hB)⟩
   ·obtain⟨rfl,hmat⟩:=hR
    apply C2
    apply A0
    refine AWp.ghost hmat ?_
    obtain⟨r86,hr86,h⟩:=bindS h
    refine sr (SQ (fa (cl [] (A8n x72.fAttrs.fPath r86 hr86)) tt)) ?_
    refine sr (SQ tt) ?_
    apply AWp.block
    obtain⟨p96,hx102,h⟩:=bindS h
    refine lg (Q1 a1 x72 r86) (fun s87:Int×(List A6)=>([(1,(i6 a1)),(5,(.sref 3005 22 0 s87.2.length)),(7,(pt 1007)),(10,(i6 r86.1)),(14,(E9 a0)),(15,(i6 (a0.length:Int))),(16,(i6 s1.1)),(42,(D6 x72.fAnnounce)),(43,(i6 (x72.fAnnounce.length:Int))),(44,(i6 s87.1))]:EL)) (fun s87:Int×(List A6)=>([(1007,bd 61 (C4 x72)),(3005,some (F5 s87.2))]:OL)) (fun(p96:((List A6))) e E' O'=>e = .exit 4∧Mat B E' O' ([(1,(i6 a1)),(5,(.sref 3005 22 0 p96.length)),(14,(E9 a0)),(15,(i6 (a0.length:Int))),(16,(i6 s1.1))]:EL) ([(3005,some (F5 p96))]:OL)) hx102 (mp [] _ _ hB) (fun s87 y h => ?_) (fun e E' O' hR => ?_)
    ·unfold Q1 at h
     refine sr (SQ tt) ?_
     apply AWp.seq
     apply AWp.cond rfl<;>intro hg97
     ·have h:=A3 hg97 h
      apply AWp.skip
      apply A0
      apply AWp.seq
      apply AWp.block
      obtain⟨_,hx98,h⟩:=bindS h
      refine sr (SQ (fa hx98 tt)) ?_
      obtain⟨r99,hr99,h⟩:=bindS h
      obtain⟨hc100,h⟩:=B6 h
      refine drS (SQ (fa (cl [] (A5c x72.fAttrs r99 hr99)) (fa hc100 tt))) ?_
      apply E4
      apply A0
      refine rg (SQ tt) ?_
      obtain rfl:=oi h
      exact⟨rfl,(mp [(3005,1059)] _ _ hB)⟩
     ·have h:=A4 hg97 h
      apply AWp.exit
      apply E5
      obtain rfl:=oi h
      exact⟨(fun hc=>by cases hc),rfl,(mp [] _ _ hB)⟩
    ·obtain⟨rfl,hmat⟩:=hR
     apply C2
     apply E4
     apply A0
     refine AWp.ghost hmat ?_
     refine rg (SQ tt) ?_
     obtain rfl:=oi h
     exact⟨rfl,(mp [] _ _ hB)⟩
  ·have h:=A4 hg71 h
   apply AWp.exit
   apply E5
   obtain rfl:=oi h
   exact⟨(fun hc=>by cases hc),rfl,(mp [] _ _ hB)⟩
 ·obtain⟨rfl,hmat⟩:=hR
  apply C2
  apply A0
  refine AWp.ghost hmat ?_
  refine sr (SQ tt) ?_
  apply AWp.ret
  obtain rfl:=oi h
  exact rt (Mat.trans (Mat.freezeP (n:=3005) (e:=39) (sz:=22) (es:=p70.map E7) (Ts:=[(4,(D3 p70))]) (Bs:=[]) (by rfl) (TwT.cons (x:=(.sref 3005 22 0 p70.length)) (by rfl) (FrzL.all (by first | rfl | (simp;done) | (simp;omega) | omega)) TwT.nil) TwB.nil) (mp [] [(4,(D3 p70))] [] hB)) [(D3 p70)] (Res.tmp (by rfl) (by rfl) Res.nil) rfl
def A1j:Option (Bool) :=
 (A20 ([(A6.mk 0 (A2.mk (C7.mk false 0 167772160) 8) false (D0.mk (A2.mk (C7.mk false 0 0) 0) 0 (C6.mk 0 ([]:List B0) (C7.mk false 0 0) 0 0 0 ([]:List B3) ([]:List E6) ([]:List A1)))),(A6.mk 0 (A2.mk (C7.mk false 0 184549376) 8) false (D0.mk (A2.mk (C7.mk false 0 0) 0) 0 (C6.mk 0 ([]:List B0) (C7.mk false 0 0) 0 0 0 ([]:List B3) ([]:List E6) ([]:List A1))))]:List A6)).bind fun r1 =>
 (U0 r1.1 7).bind fun r2 =>
 jn (fun m9:Bool =>
 some m9) (fun j10 =>
 (if (((r1.2==0)&&((r1.1.length:Int)==1))&&((r2.length:Int)==2))=true then
 (idx r2 1).bind fun x12 =>
 (if (x12.fTo==7)=true then
 (idx r2 1).bind fun x14 =>
 (if (((x14.fPrefix.fAddr.fV6==false)&&((x14.fPrefix.fAddr.fHi==0)&&((x14.fPrefix.fAddr.fLo==184549376)&&true)))&&((x14.fPrefix.fLen==8)&&true))=true then
 (idx r2 1).bind fun x16 =>
 j10 (!x16.fHas)
 else
 j10 false)
 else
 j10 false)
 else
 j10 false))
theorem A8o (r:Bool) (h:A1j=some r):AC Tryz.prog 7 [] [(500,(.know (globD 0 (.imap gv0))))] (.d (.bool r)) [(500,some (.know (globD 0 (.imap gv0))))]:=by
 refine ac2 Tryz.func7 rfl rfl fun B hB hN L => ?_
 delta A1j at h
 refine sr (SQ tt) ?_
 refine sr (SQ tt) ?_
 apply AWp.seq
 obtain⟨r1,hr1,h⟩:=bindS h
 refine rg (SQ (fa (cl [(500,500)] (A72 ([(A6.mk 0 (A2.mk (C7.mk false 0 167772160) 8) false (D0.mk (A2.mk (C7.mk false 0 0) 0) 0 (C6.mk 0 ([]:List B0) (C7.mk false 0 0) 0 0 0 ([]:List B3) ([]:List E6) ([]:List A1)))),(A6.mk 0 (A2.mk (C7.mk false 0 184549376) 8) false (D0.mk (A2.mk (C7.mk false 0 0) 0) 0 (C6.mk 0 ([]:List B0) (C7.mk false 0 0) 0 0 0 ([]:List B3) ([]:List E6) ([]:List A1))))]:List A6) r1 hr1)) tt)) ?_
 apply A0
 refine AWp.ghost (mp [] [(2,(pt 1002)),(3,(E9 r1.1)),(4,(i6 r1.2))] [(500,some (.know (globD 0 (.imap gv0)))),(1002,bd 29 (.st [(.st [(.bool false),(.int .u64 0),(.int .u64 184549376)]),(.int .i64 8)]))] hB) ?_
 obtain⟨r2,hr2,h⟩:=bindS h
 refine sr (SQ (fa (cl [] (A5m r1.1 7 r2 hr2)) tt)) ?_
 apply AWp.seq
 refine AWp.cut h (fun m9:Bool=>([(0,(bo m9))]:EL)) (fun m9:Bool=>([(500,some (.know (globD 0 (.imap gv0))))]:OL)) (fun m9 h E' O' hmat => ?_) (fun j10 hjj10 h => ?_)
 ·apply A0
  refine AWp.ghost hmat ?_
  apply AWp.ret
  obtain rfl:=oi h
  exact rt (kp [(0,_)] [(500,some _)] hB rfl rfl (by rfl)) [(bo m9)] (Res.tmp (by rfl) (by rfl) Res.nil) rfl
 ·rcases bft (((r1.2==0)&&((r1.1.length:Int)==1))&&((r2.length:Int)==2)) with hg11 | hg11
  ·have h:=A3 hg11 h
   obtain⟨x12,hx12,h⟩:=bindS h
   rcases bft (x12.fTo==7) with hg13 | hg13
   ·have h:=A3 hg13 h
    obtain⟨x14,hx14,h⟩:=bindS h
    rcases bft (((x14.fPrefix.fAddr.fV6==false)&&((x14.fPrefix.fAddr.fHi==0)&&((x14.fPrefix.fAddr.fLo==184549376)&&true)))&&((x14.fPrefix.fLen==8)&&true)) with hg15 | hg15
    ·have h:=A3 hg15 h
     obtain⟨_,hx16,h⟩:=bindS h
     apply dr (c (mv hN (q 4)) rfl (c (eqlI (L rfl) (q 21) (ii 0)) rfl (c (mv hN (q 22)) rfl (c (oq hN 23 (mv hN (q 3)) (OptL.keep (by rfl) OptL.nil) (GuardV.plain _)) rfl (c (oq hN 23 (OpJ.val (v':=(i6 (r1.1.length:Int))) (by simp) (lenD underlying47 (L rfl) (q 24))) (OptL.opt OptL.nil) (GuardV.plain _)) rfl (c (oq hN 23 (eqlI (L rfl) (q 25) (ii 1)) (OptL.opt OptL.nil) (GuardV.plain _)) rfl (c (pickAnd rfl (L rfl) (q 23) (q 26)) rfl (c (mv hN (q 27)) rfl (c (oq hN 28 (mv hN (q 5)) (OptL.keep (by rfl) OptL.nil) (GuardV.plain _)) rfl (c (oq hN 28 (OpJ.val (v':=(i6 (r2.length:Int))) (by simp) (lenD underlying22 (L rfl) (q 29))) (OptL.opt OptL.nil) (GuardV.plain _)) rfl (c (oq hN 28 (eqlI (L rfl) (q 30) (ii 2)) (OptL.opt OptL.nil) (GuardV.plain _)) rfl (c (pickAnd rfl (L rfl) (q 28) (q 31)) rfl (c (OpJ.val (v':=.d (.bool true)) (by rw [hg11]<;>rfl) (mv hN (q 32))) rfl (c (gd 33 (mv hN (q 5))) rfl (c (gd 33 (indexD underlying22 tyS39 (D7 hx12).1 (H2 E7 (D7 hx12).2) (L rfl) (q 34) (ii 1))) rfl (c (gd 33 (fieldD underlying39 (by rfl) (o:=0) (by rfl) tyS3 (by decide) (by rfl) (by rfl) (L rfl) (q 35))) rfl (c (gd 33 (loadD tyS3 (by rfl) (by rfl) (L rfl) (q 36))) rfl (c (gd 33 (eqlI (L rfl) (q 37) (ii 7))) rfl (c (pickT (L rfl) (q 33) (q 38)) rfl (c (OpJ.val (v':=.d (.bool true)) (by rw [hg13]<;>rfl) (mv hN (q 39))) rfl (c (gd 40 (mv hN (q 5))) rfl (c (gd 40 (indexD underlying22 tyS39 (D7 hx14).1 (H2 E7 (D7 hx14).2) (L rfl) (q 41) (ii 1))) rfl (c (gd 40 (fieldD underlying39 (by rfl) (o:=1) (by rfl) tyS29 (by decide) (by rfl) (by rfl) (L rfl) (q 42))) rfl (c (gd 40 (loadD tyS29 (by rfl) (by rfl) (L rfl) (q 43))) rfl (c (gd 40 (lb hN 29 _ _ tyS29 (At.here _) (q 2))) rfl (c (gd 40 (OpJ.eqlD (h:=3) (FitE.st underlying29 rfl held29 (FitF.cons (x:=(C1 x14.fPrefix.fAddr)) (y:=(.st [(.bool false),(.int .u64 0),(.int .u64 184549376)])) (by decide) rfl tyS27 ⟨rfl,rfl⟩ ⟨rfl,rfl⟩ (FitE.st underlying27 rfl held27 (FitF.cons (x:=(.bool x14.fPrefix.fAddr.fV6)) (y:=(.bool false)) (by decide) rfl tyS4 ⟨rfl,rfl⟩ ⟨rfl,rfl⟩ (FitE.bool (h:=0) x14.fPrefix.fAddr.fV6 false underlying4) (FitF.cons (x:=(.int .u64 x14.fPrefix.fAddr.fHi)) (y:=(.int .u64 0)) (by decide) rfl tyS25 ⟨rfl,rfl⟩ ⟨rfl,rfl⟩ (FitE.int (h:=0) x14.fPrefix.fAddr.fHi 0 underlying25) (FitF.cons (x:=(.int .u64 x14.fPrefix.fAddr.fLo)) (y:=(.int .u64 184549376)) (by decide) rfl tyS25 ⟨rfl,rfl⟩ ⟨rfl,rfl⟩ (FitE.int (h:=0) x14.fPrefix.fAddr.fLo 184549376 underlying25) FitF.nil)))) (FitF.cons (x:=(.int .i64 x14.fPrefix.fLen)) (y:=(.int .i64 8)) (by decide) rfl tyS3 ⟨rfl,rfl⟩ ⟨rfl,rfl⟩ (FitE.int (h:=1) x14.fPrefix.fLen 8 underlying3) FitF.nil))) eqg29 ⟨rfl,rfl⟩ (by rfl) (L rfl) (q 44) (q 45))) rfl (c (pickT (L rfl) (q 40) (q 46)) rfl (c (OpJ.val (v':=.d (.bool true)) (by rw [hg15]<;>rfl) (mv hN (q 47))) rfl (c (gd 48 (mv hN (q 5))) rfl (c (gd 48 (indexD underlying22 tyS39 (D7 hx16).1 (H2 E7 (D7 hx16).2) (L rfl) (q 49) (ii 1))) rfl (c (gd 48 (fieldD underlying39 (by rfl) (o:=5) (by rfl) tyS4 (by decide) (by rfl) (by rfl) (L rfl) (q 50))) rfl (c (gd 48 (loadD tyS4 (by rfl) (by rfl) (L rfl) (q 51))) rfl (c (gd 48 (OpJ.not (L rfl) (q 52))) rfl (c (pickT (L rfl) (q 48) (q 53)) rfl (c (assign (L rfl) (q 54)) rfl cn))))))))))))))))))))))))))))))))))) (by kernel_rfl) (by kernel_rfl)
     exact hjj10 _ h _ _ (mp [] _ _ hB)
    ·have h:=A4 hg15 h
     apply dr (c (mv hN (q 4)) rfl (c (eqlI (L rfl) (q 21) (ii 0)) rfl (c (mv hN (q 22)) rfl (c (oq hN 23 (mv hN (q 3)) (OptL.keep (by rfl) OptL.nil) (GuardV.plain _)) rfl (c (oq hN 23 (OpJ.val (v':=(i6 (r1.1.length:Int))) (by simp) (lenD underlying47 (L rfl) (q 24))) (OptL.opt OptL.nil) (GuardV.plain _)) rfl (c (oq hN 23 (eqlI (L rfl) (q 25) (ii 1)) (OptL.opt OptL.nil) (GuardV.plain _)) rfl (c (pickAnd rfl (L rfl) (q 23) (q 26)) rfl (c (mv hN (q 27)) rfl (c (oq hN 28 (mv hN (q 5)) (OptL.keep (by rfl) OptL.nil) (GuardV.plain _)) rfl (c (oq hN 28 (OpJ.val (v':=(i6 (r2.length:Int))) (by simp) (lenD underlying22 (L rfl) (q 29))) (OptL.opt OptL.nil) (GuardV.plain _)) rfl (c (oq hN 28 (eqlI (L rfl) (q 30) (ii 2)) (OptL.opt OptL.nil) (GuardV.plain _)) rfl (c (pickAnd rfl (L rfl) (q 28) (q 31)) rfl (c (OpJ.val (v':=.d (.bool true)) (by rw [hg11]<;>rfl) (mv hN (q 32))) rfl (c (gd 33 (mv hN (q 5))) rfl (c (gd 33 (indexD underlying22 tyS39 (D7 hx12).1 (H2 E7 (D7 hx12).2) (L rfl) (q 34) (ii 1))) rfl (c (gd 33 (fieldD underlying39 (by rfl) (o:=0) (by rfl) tyS3 (by decide) (by rfl) (by rfl) (L rfl) (q 35))) rfl (c (gd 33 (loadD tyS3 (by rfl) (by rfl) (L rfl) (q 36))) rfl (c (gd 33 (eqlI (L rfl) (q 37) (ii 7))) rfl (c (pickT (L rfl) (q 33) (q 38)) rfl (c (OpJ.val (v':=.d (.bool true)) (by rw [hg13]<;>rfl) (mv hN (q 39))) rfl (c (gd 40 (mv hN (q 5))) rfl (c (gd 40 (indexD underlying22 tyS39 (D7 hx14).1 (H2 E7 (D7 hx14).2) (L rfl) (q 41) (ii 1))) rfl (c (gd 40 (fieldD underlying39 (by rfl) (o:=1) (by rfl) tyS29 (by decide) (by rfl) (by rfl) (L rfl) (q 42))) rfl (c (gd 40 (loadD tyS29 (by rfl) (by rfl) (L rfl) (q 43))) rfl (c (gd 40 (lb hN 29 _ _ tyS29 (At.here _) (q 2))) rfl (c (gd 40 (OpJ.eqlD (h:=3) (FitE.st underlying29 rfl held29 (FitF.cons (x:=(C1 x14.fPrefix.fAddr)) (y:=(.st [(.bool false),(.int .u64 0),(.int .u64 184549376)])) (by decide) rfl tyS27 ⟨rfl,rfl⟩ ⟨rfl,rfl⟩ (FitE.st underlying27 rfl held27 (FitF.cons (x:=(.bool x14.fPrefix.fAddr.fV6)) (y:=(.bool false)) (by decide) rfl tyS4 ⟨rfl,rfl⟩ ⟨rfl,rfl⟩ (FitE.bool (h:=0) x14.fPrefix.fAddr.fV6 false underlying4) (FitF.cons (x:=(.int .u64 x14.fPrefix.fAddr.fHi)) (y:=(.int .u64 0)) (by decide) rfl tyS25 ⟨rfl,rfl⟩ ⟨rfl,rfl⟩ (FitE.int (h:=0) x14.fPrefix.fAddr.fHi 0 underlying25) (FitF.cons (x:=(.int .u64 x14.fPrefix.fAddr.fLo)) (y:=(.int .u64 184549376)) (by decide) rfl tyS25 ⟨rfl,rfl⟩ ⟨rfl,rfl⟩ (FitE.int (h:=0) x14.fPrefix.fAddr.fLo 184549376 underlying25) FitF.nil)))) (FitF.cons (x:=(.int .i64 x14.fPrefix.fLen)) (y:=(.int .i64 8)) (by decide) rfl tyS3 ⟨rfl,rfl⟩ ⟨rfl,rfl⟩ (FitE.int (h:=1) x14.fPrefix.fLen 8 underlying3) FitF.nil))) eqg29 ⟨rfl,rfl⟩ (by rfl) (L rfl) (q 44) (q 45))) rfl (c (pickT (L rfl) (q 40) (q 46)) rfl (c (OpJ.val (v':=.d (.bool false)) (by rw [hg15]<;>rfl) (mv hN (q 47))) rfl (ks 48 (L rfl) (ks 48 (L rfl) (ks 48 (L rfl) (ks 48 (L rfl) (ks 48 (L rfl) (c (pickF (L rfl) (q 48) (Opd.bool false)) rfl (c (assign (L rfl) (q 54)) rfl cn))))))))))))))))))))))))))))))))))) (by kernel_rfl) (by kernel_rfl)
     exact hjj10 _ h _ _ (mp [] _ _ hB)
   ·have h:=A4 hg13 h
    refine drS (SQ (fa hg11 (fa hx12 (fa hg13 tt)))) ?_
    exact hjj10 _ h _ _ (mp [] _ _ hB)
  ·have h:=A4 hg11 h
   refine drS (SQ (fa hg11 tt)) ?_
   exact hjj10 _ h _ _ (mp [] _ _ hB)
def Q6 (a0:(List Int)):Option (A9) :=
 some (A9.mk a0 0)
theorem A48 (a0:(List Int)) (r:A9) (h:Q6 a0=some r):AC Tryz.prog 9 [(.d (.list 1 (a0.map (eI .i64))))] [] (pt 1005) [(1005,bd 71 (D1 r))]:=by
 refine AC.of_code2 Tryz.func9 rfl rfl (Nat.le_of_ble_eq_true (by rfl)) fun B hB hN => ?_
 delta Q6 at h
 refine sr (SQ tt) ?_
 refine sr (SQ tt) ?_
 apply AWp.ret
 obtain rfl:=oi h
 exact rt (kp [(2,_)] [(1005,some _)] hB rfl rfl (by rfl)) [(pt 1005)] (Res.tmp (by rfl) (by rfl) Res.nil) rfl
def N5 (a0:Int):Option (A2) :=
 (if (decide (6≤a0))=true then
 some (A2.mk (C7.mk true (bitI .or .u64 2306139568115548160 (shlI .u64 (IntKind.u64.wrap a0) 16)) 0) 48)
 else
 some (A2.mk (C7.mk false 0 (bitI .or .u64 167772160 (shlI .u64 (IntKind.u64.wrap a0) 16))) 16))
theorem A3f (a0:Int) (r:A2) (h:N5 a0=some r):AC Tryz.prog 23 [(.d (.int .i64 a0))] [] (.d (A7 r)) []:=by
 refine AC.of_code2 Tryz.func23 rfl rfl (Nat.le_of_ble_eq_true (by rfl)) fun B hB hN => ?_
 delta N5 at h
 refine sr (SQ tt) ?_
 apply AWp.seq
 refine sr (SQ tt) ?_
 apply AWp.cond rfl<;>intro hg1
 ·have h:=A3 hg1 h
  refine sr (SQ tt) ?_
  apply AWp.ret
  apply B5
  obtain rfl:=oi h
  exact rt (kp [(2,_)] [(1002,some _)] hB rfl rfl (by rfl)) [(.d (.st [(.st [(.bool true),(.int .u64 (bitI .or .u64 2306139568115548160 (shlI .u64 (IntKind.u64.wrap a0) 16))),(.int .u64 0)]),(.int .i64 48)]))] (Res.cell (c:=(.d (.st [(.st [(.bool true),(.int .u64 (bitI .or .u64 2306139568115548160 (shlI .u64 (IntKind.u64.wrap a0) 16))),(.int .u64 0)]),(.int .i64 48)]))) (by rfl) (by rfl) tyS29 (by rfl) (by rfl) (by rfl) Res.nil) rfl
 ·have h:=A4 hg1 h
  apply AWp.skip
  apply A0
  refine sr (SQ tt) ?_
  apply AWp.ret
  obtain rfl:=oi h
  exact rt (kp [(2,_)] [(1002,some _)] hB rfl rfl (by rfl)) [(.d (.st [(.st [(.bool false),(.int .u64 0),(.int .u64 (bitI .or .u64 167772160 (shlI .u64 (IntKind.u64.wrap a0) 16)))]),(.int .i64 16)]))] (Res.cell (c:=(.d (.st [(.st [(.bool false),(.int .u64 0),(.int .u64 (bitI .or .u64 167772160 (shlI .u64 (IntKind.u64.wrap a0) 16)))]),(.int .i64 16)]))) (by rfl) (by rfl) tyS29 (by rfl) (by rfl) (by rfl) Res.nil) rfl
def I9 (a0:Int) (a1:Int):Option (Int) :=
 chk (decide (a1≠0)) <|
 jn (fun m3:Int =>
 some m3) (fun j4 =>
 (if (decide ((Int.tmod a0 a1)<0))=true then
 j4 (w64 ((Int.tmod a0 a1)+a1))
 else
 j4 (Int.tmod a0 a1)))
theorem A0c (a0:Int) (a1:Int) (r:Int) (h:I9 a0 a1=some r):AC Tryz.prog 11 [(.d (.int .i64 a0)),(.d (.int .i64 a1))] [] (.d (.int .i64 r)) []:=by
 refine AC.of_code2 Tryz.func11 rfl rfl (Nat.le_of_ble_eq_true (by rfl)) fun B hB hN => ?_
 delta I9 at h
 refine sr (SQ tt) ?_
 obtain⟨hc1,h⟩:=B6 h
 refine sr (SQ (fa hc1 tt)) ?_
 apply AWp.seq
 refine sr (SQ tt) ?_
 refine gh [(1,_),(5,_),(10,_)] [] hB rfl rfl (by rfl) ?_
 refine AWp.cut h (fun m3:Int=>([(5,(i6 m3))]:EL)) (fun m3:Int=>([]:OL)) (fun m3 h E' O' hmat => ?_) (fun j4 hjj4 h => ?_)
 ·apply A0
  refine AWp.ghost hmat ?_
  refine sr (SQ tt) ?_
  apply AWp.ret
  obtain rfl:=oi h
  exact rt (kp [(4,_)] [] hB rfl rfl (by rfl)) [(i6 m3)] (Res.tmp (by rfl) (by rfl) Res.nil) rfl
 ·apply AWp.cond rfl<;>intro hg5
  ·have h:=A3 hg5 h
   refine rg (SQ tt) ?_
   exact hjj4 _ h _ _ (mp [] _ _ hB)
  ·have h:=A4 hg5 h
   apply AWp.skip
   exact hjj4 _ h _ _ (mp [] _ _ hB)
def F4 (a0:A9) (a1:Int):Option (Int×A9) :=
 (if (decide ((a0.fL.length:Int)≤a0.fAt))=true then
 some (0,a0)
 else
 (idx a0.fL (w64 ((w64 (a0.fAt+1))-1))).bind fun x2 =>
 (I9 x2 a1).bind fun r3 =>
 some (r3,(A9.mk a0.fL (w64 (a0.fAt+1)))))
theorem G9 (a0:A9) (a1:Int) (r:Int×A9) (h:F4 a0 a1=some r):AC Tryz.prog 24 [(pt 0),(.d (.int .i64 a1))] [(0,(.box 71 (.d (D1 a0))))] (.d (.int .i64 r.1)) [(0,bd 71 (D1 r.2))]:=by
 refine ac2 Tryz.func24 rfl rfl fun B hB hN L => ?_
 delta F4 at h
 refine sr (SQ tt) ?_
 apply AWp.seq
 refine sdS (SQ tt) ?_
 apply AWp.cond rfl<;>intro hg1
 ·have h:=A3 hg1 h
  refine sr (SQ tt) ?_
  apply AWp.ret
  apply B5
  obtain rfl:=oi h
  exact rt (kp [(4,_)] [(0,some _)] hB rfl rfl (by rfl)) [(i6 0)] (Res.tmp (by rfl) (by rfl) Res.nil) rfl
 ·have h:=A4 hg1 h
  apply AWp.skip
  apply A0
  refine sr (SQ tt) ?_
  obtain⟨x2,hx2,h⟩:=bindS h
  obtain⟨r3,hr3,h⟩:=bindS h
  refine sdS (SQ (fa hx2 (fa (cl [] (A0c x2 a1 r3 hr3)) tt))) ?_
  apply AWp.ret
  obtain rfl:=oi h
  exact rt (kp [(4,_)] [(0,some _)] hB rfl rfl (by rfl)) [(i6 r3)] (Res.tmp (by rfl) (by rfl) Res.nil) rfl
def A02:Option (C6) :=
 some (C6.mk (-1) ([]:List B0) (C7.mk false 0 0) (-1) (-1) (-1) ([]:List B3) ([]:List E6) ([]:List A1))
theorem A2p (r:C6) (h:A02=some r):AC Tryz.prog 25 [] [] (.d (B1 r)) []:=by
 refine AC.of_code2 Tryz.func25 rfl rfl (Nat.le_of_ble_eq_true (by rfl)) fun B hB hN => ?_
 delta A02 at h
 refine sr (SQ tt) ?_
 refine sr (SQ tt) ?_
 apply AWp.ret
 obtain rfl:=oi h
 exact rt (Mat.trans (Mat.coeP (Ts:=[]) (Bs:=[(1000,bd 35 (.st [(.int .i64 (-1)),(.list 2 (([]:List B0).map C3)),(.st [(.bool false),(.int .u64 0),(.int .u64 0)]),(.int .i64 (-1)),(.int .i64 (-1)),(.int .i64 (-1)),(.list 2 (([]:List B3).map B4)),(.list 3 (([]:List E6).map D9)),(.list 3 (([]:List A1).map A8))]))]) TwT.nil (TwB.cons (x:=(.st [(i6 (-1)),.nils,(.d (.st [(.bool false),(.int .u64 0),(.int .u64 0)])),(i6 (-1)),(i6 (-1)),(i6 (-1)),.nils,.nils,.nils])) (by rfl) (Tw.leaf ⟨_,(Co.st (CoL.cons (Co.d _) (CoL.cons (Co.nils 2) (CoL.cons (Co.d _) (CoL.cons (Co.d _) (CoL.cons (Co.d _) (CoL.cons (Co.d _) (CoL.cons (Co.nils 2) (CoL.cons (Co.nils 3) (CoL.cons (Co.nils 3) CoL.nil)))))))))),rfl⟩) TwB.nil)) (mp [] [(0,(pt 1000))] [(1000,bd 35 (.st [(.int .i64 (-1)),(.list 2 (([]:List B0).map C3)),(.st [(.bool false),(.int .u64 0),(.int .u64 0)]),(.int .i64 (-1)),(.int .i64 (-1)),(.int .i64 (-1)),(.list 2 (([]:List B3).map B4)),(.list 3 (([]:List E6).map D9)),(.list 3 (([]:List A1).map A8))]))] hB)) [(.d (.st [(.int .i64 (-1)),(.list 2 (([]:List B0).map C3)),(.st [(.bool false),(.int .u64 0),(.int .u64 0)]),(.int .i64 (-1)),(.int .i64 (-1)),(.int .i64 (-1)),(.list 2 (([]:List B3).map B4)),(.list 3 (([]:List E6).map D9)),(.list 3 (([]:List A1).map A8))]))] (Res.cell (c:=(.d (.st [(.int .i64 (-1)),(.list 2 (([]:List B0).map C3)),(.st [(.bool false),(.int .u64 0),(.int .u64 0)]),(.int .i64 (-1)),(.int .i64 (-1)),(.int .i64 (-1)),(.list 2 (([]:List B3).map B4)),(.list 3 (([]:List E6).map D9)),(.list 3 (([]:List A1).map A8))]))) (by rfl) (by rfl) tyS35 (by rfl) (by rfl) (by rfl) Res.nil) rfl
def P0 (a0:Int) (a1:Bool):Option (C7) :=
 (if a1=true then
 some (C7.mk true 2306139568115613695 (IntKind.u64.wrap a0))
 else
 some (C7.mk false 0 (bitI .or .u64 3221225984 (IntKind.u64.wrap (w64 ((Int.tmod a0 250)+1))))))
theorem A3o (a0:Int) (a1:Bool) (r:C7) (h:P0 a0 a1=some r):AC Tryz.prog 26 [(.d (.int .i64 a0)),(.d (.bool a1))] [] (.d (C1 r)) []:=by
 refine AC.of_code2 Tryz.func26 rfl rfl (Nat.le_of_ble_eq_true (by rfl)) fun B hB hN => ?_
 delta P0 at h
 refine sr (SQ tt) ?_
 apply AWp.seq
 refine sr (SQ tt) ?_
 apply AWp.cond rfl<;>intro hg1
 ·have h:=A3 hg1 h
  refine sr (SQ tt) ?_
  apply AWp.ret
  apply B5
  obtain rfl:=oi h
  exact rt (kp [(4,_)] [(1004,some _)] hB rfl rfl (by rfl)) [(.d (.st [(.bool true),(.int .u64 2306139568115613695),(.int .u64 (IntKind.u64.wrap a0))]))] (Res.cell (c:=(.d (.st [(.bool true),(.int .u64 2306139568115613695),(.int .u64 (IntKind.u64.wrap a0))]))) (by rfl) (by rfl) tyS27 (by rfl) (by rfl) (by rfl) Res.nil) rfl
 ·have h:=A4 hg1 h
  apply AWp.skip
  apply A0
  refine sr (SQ tt) ?_
  apply AWp.ret
  obtain rfl:=oi h
  exact rt (kp [(4,_)] [(1004,some _)] hB rfl rfl (by rfl)) [(.d (.st [(.bool false),(.int .u64 0),(.int .u64 (bitI .or .u64 3221225984 (IntKind.u64.wrap (w64 ((Int.tmod a0 250)+1)))))]))] (Res.cell (c:=(.d (.st [(.bool false),(.int .u64 0),(.int .u64 (bitI .or .u64 3221225984 (IntKind.u64.wrap (w64 ((Int.tmod a0 250)+1)))))]))) (by rfl) (by rfl) tyS27 (by rfl) (by rfl) (by rfl) Res.nil) rfl
def A3g (a0:C7) (a1:C7):Option (Int) :=
 (if ((a0.fV6==a1.fV6)&&((a0.fHi==a1.fHi)&&((a0.fLo==a1.fLo)&&true)))=true then
 some 0
 else
 (if (a0.fV6 != a1.fV6)=true then
 (if a1.fV6=true then
 some (-1)
 else
 some 1)
 else
 jn (fun m5:Bool =>
 (if m5=true then
 some (-1)
 else
 some 1)) (fun j6 =>
 (if (decide (a0.fHi<a1.fHi))=true then
 j6 true
 else
 j6 ((a0.fHi==a1.fHi)&&(decide (a0.fLo<a1.fLo)))))))
theorem B0h (a0:C7) (a1:C7) (r:Int) (h:A3g a0 a1=some r):AC Tryz.prog 65 [(.d (C1 a0)),(.d (C1 a1))] [] (.d (.int .i64 r)) []:=by
 refine ac2 Tryz.func65 rfl rfl fun B hB hN L => ?_
 delta A3g at h
 refine sr (SQ tt) ?_
 apply AWp.seq
 apply AWp.block
 apply sr (c (lb hN 27 _ _ tyS27 (At.here _) (q 2)) rfl (c (lb hN 27 _ _ tyS27 (At.here _) (q 3)) rfl (c (OpJ.eqlD (h:=2) (FitE.st underlying27 rfl held27 (FitF.cons (x:=(.bool a0.fV6)) (y:=(.bool a1.fV6)) (by decide) rfl tyS4 ⟨rfl,rfl⟩ ⟨rfl,rfl⟩ (FitE.bool (h:=0) a0.fV6 a1.fV6 underlying4) (FitF.cons (x:=(.int .u64 a0.fHi)) (y:=(.int .u64 a1.fHi)) (by decide) rfl tyS25 ⟨rfl,rfl⟩ ⟨rfl,rfl⟩ (FitE.int (h:=0) a0.fHi a1.fHi underlying25) (FitF.cons (x:=(.int .u64 a0.fLo)) (y:=(.int .u64 a1.fLo)) (by decide) rfl tyS25 ⟨rfl,rfl⟩ ⟨rfl,rfl⟩ (FitE.int (h:=0) a0.fLo a1.fLo underlying25) FitF.nil)))) eqg27 ⟨rfl,rfl⟩ (by rfl) (L rfl) (q 6) (q 7)) rfl (c (assign (L rfl) (q 8)) rfl cn))))
 apply AWp.cond rfl<;>intro hg1
 ·have h:=A3 hg1 h
  refine sr (SQ tt) ?_
  apply AWp.ret
  apply D5
  apply B5
  obtain rfl:=oi h
  exact rt (kp [(4,_)] [] hB rfl rfl (by rfl)) [(i6 0)] (Res.tmp (by rfl) (by rfl) Res.nil) rfl
 ·have h:=A4 hg1 h
  refine sr (SQ tt) ?_
  apply AWp.cond rfl<;>intro hg2
  ·have h:=A3 hg2 h
   apply AWp.seq
   refine sr (SQ tt) ?_
   apply AWp.cond rfl<;>intro hg3
   ·have h:=A3 hg3 h
    refine sr (SQ tt) ?_
    apply AWp.ret
    apply B5
    apply D5
    apply B5
    obtain rfl:=oi h
    exact rt (kp [(4,_)] [] hB rfl rfl (by rfl)) [(i6 (-1))] (Res.tmp (by rfl) (by rfl) Res.nil) rfl
   ·have h:=A4 hg3 h
    apply AWp.skip
    apply A0
    refine sr (SQ tt) ?_
    apply AWp.ret
    apply D5
    apply B5
    obtain rfl:=oi h
    exact rt (kp [(4,_)] [] hB rfl rfl (by rfl)) [(i6 1)] (Res.tmp (by rfl) (by rfl) Res.nil) rfl
  ·have h:=A4 hg2 h
   apply AWp.seq
   refine AWp.cut h (fun m5:Bool=>([(17,(bo m5))]:EL)) (fun m5:Bool=>([]:OL)) (fun m5 h E' O' hmat => ?_) (fun j6 hjj6 h => ?_)
   ·apply A0
    refine AWp.ghost hmat ?_
    apply AWp.cond rfl<;>intro hg7
    ·have h:=A3 hg7 h
     refine sr (SQ tt) ?_
     apply AWp.ret
     apply D5
     apply B5
     obtain rfl:=oi h
     exact rt (kp [(4,_)] [] hB rfl rfl (by rfl)) [(i6 (-1))] (Res.tmp (by rfl) (by rfl) Res.nil) rfl
    ·have h:=A4 hg7 h
     apply AWp.skip
     apply E4
     apply A0
     refine sr (SQ tt) ?_
     apply AWp.ret
     obtain rfl:=oi h
     exact rt (kp [(4,_)] [] hB rfl rfl (by rfl)) [(i6 1)] (Res.tmp (by rfl) (by rfl) Res.nil) rfl
   ·rcases bft (decide (a0.fHi<a1.fHi)) with hg8 | hg8
    ·have h:=A3 hg8 h
     refine rg (SQ (fa hg8 tt)) ?_
     exact hjj6 _ h _ _ (mp [] _ _ hB)
    ·have h:=A4 hg8 h
     refine rg (SQ (fa hg8 tt)) ?_
     exact hjj6 _ h _ _ (mp [] _ _ hB)
def A3h (a0:A2) (a1:A2):Option (Int) :=
 (A3g a0.fAddr a1.fAddr).bind fun r1 =>
 (if (r1 != 0)=true then
 some r1
 else
 (if (decide (a0.fLen<a1.fLen))=true then
 some (-1)
 else
 (if (decide (a1.fLen<a0.fLen))=true then
 some 1
 else
 some 0)))
theorem B0i (a0:A2) (a1:A2) (r:Int) (h:A3h a0 a1=some r):AC Tryz.prog 35 [(.d (A7 a0)),(.d (A7 a1))] [] (.d (.int .i64 r)) []:=by
 refine ac2 Tryz.func35 rfl rfl fun B hB hN L => ?_
 delta A3h at h
 refine sr (SQ tt) ?_
 apply AWp.seq
 obtain⟨r1,hr1,h⟩:=bindS h
 refine sr (SQ (fa (cl [] (B0h a0.fAddr a1.fAddr r1 hr1)) tt)) ?_
 refine sr (SQ tt) ?_
 apply AWp.cond rfl<;>intro hg2
 ·have h:=A3 hg2 h
  refine sr (SQ tt) ?_
  apply AWp.ret
  apply B5
  obtain rfl:=oi h
  exact rt (kp [(4,_)] [] hB rfl rfl (by rfl)) [(i6 r1)] (Res.tmp (by rfl) (by rfl) Res.nil) rfl
 ·have h:=A4 hg2 h
  apply AWp.skip
  apply A0
  apply AWp.seq
  apply AWp.block
  refine sr (SQ tt) ?_
  apply AWp.cond rfl<;>intro hg3
  ·have h:=A3 hg3 h
   refine sr (SQ tt) ?_
   apply AWp.ret
   apply D5
   apply B5
   obtain rfl:=oi h
   exact rt (kp [(4,_)] [] hB rfl rfl (by rfl)) [(i6 (-1))] (Res.tmp (by rfl) (by rfl) Res.nil) rfl
  ·have h:=A4 hg3 h
   refine sr (SQ tt) ?_
   apply AWp.cond rfl<;>intro hg4
   ·have h:=A3 hg4 h
    refine sr (SQ tt) ?_
    apply AWp.ret
    apply D5
    apply B5
    obtain rfl:=oi h
    exact rt (kp [(4,_)] [] hB rfl rfl (by rfl)) [(i6 1)] (Res.tmp (by rfl) (by rfl) Res.nil) rfl
   ·have h:=A4 hg4 h
    apply AWp.skip
    apply E4
    apply A0
    refine sr (SQ tt) ?_
    apply AWp.ret
    obtain rfl:=oi h
    exact rt (kp [(4,_)] [] hB rfl rfl (by rfl)) [(i6 0)] (Res.tmp (by rfl) (by rfl) Res.nil) rfl
def A03 (s3:Int×(List A2)) (x135:D0) (s136:Int):Option (((Int))⊕(Int)) :=
 jn (fun m164:Bool =>
 (if m164=true then
 some (.inr (w64 (s136+1)))
 else
 some (.inl s136))) (fun j165 =>
 (if (decide (s136<(s3.2.length:Int)))=true then
 (idx s3.2 s136).bind fun _ =>
 (idx s3.2 s136).bind fun x169 =>
 (A3h x169 x135.fPrefix).bind fun r170 =>
 j165 (decide (r170<0))
 else
 j165 false))
def T3 (a0:(List D0)) (a1:(List D0)) (s3:Int×(List A2)):Option ((((List A2)))⊕(Int×(List A2))) :=
 (if (decide (s3.1<((a0++a1).length:Int)))=true then
 (idx (a0++a1) s3.1).bind fun _ =>
 (idx (a0++a1) s3.1).bind fun x135 =>
 (loop (A03 s3 x135) 0).bind fun p159 =>
 jn (fun m176:Bool =>
 jn (fun m187:(List A2) =>
 some (.inr ((w64 (s3.1+1)),m187))) (fun j188 =>
 (if m176=true then
 chk ((decide (0≤p159)&&decide (p159.toNat≤s3.2.length)&&decide (s3.2.length≤s3.2.length))) <|
 chk (decide (p159.toNat+(s3.2.length-p159.toNat)≤s3.2.length)) <|
 chk (decide (((s3.2.drop p159.toNat).take (s3.2.length-p159.toNat)).length≤LIM)) <|
 chk ((decide (0≤p159)&&decide (0≤p159.toNat)&&decide (p159.toNat≤s3.2.length))) <|
 chk (decide (((s3.2.take p159.toNat)++[x135.fPrefix]).length≤LIM)) <|
 chk (decide ((((s3.2.take p159.toNat)++[x135.fPrefix])++((s3.2.drop p159.toNat).take (s3.2.length-p159.toNat))).length≤LIM)) <|
 j188 (((s3.2.take p159.toNat)++[x135.fPrefix])++((s3.2.drop p159.toNat).take (s3.2.length-p159.toNat)))
 else
 j188 s3.2))) (fun j177 =>
 (if (p159==(s3.2.length:Int))=true then
 j177 true
 else
 (idx s3.2 p159).bind fun _ =>
 (idx s3.2 p159).bind fun x200 =>
 j177 (!(((x200.fAddr.fV6==x135.fPrefix.fAddr.fV6)&&((x200.fAddr.fHi==x135.fPrefix.fAddr.fHi)&&((x200.fAddr.fLo==x135.fPrefix.fAddr.fLo)&&true)))&&((x200.fLen==x135.fPrefix.fLen)&&true)))))
 else
 some (.inl s3.2))
def A0d (a0:(List D0)) (a1:(List D0)):Option ((List A2)) :=
 chk (decide (a0.length≤LIM)) <|
 chk (decide ((a0++a1).length≤LIM)) <|
 (loop (T3 a0 a1) (0,([]:List A2))).bind fun p132 =>
 some p132
theorem A7l (a0:(List D0)) (a1:(List D0)) (r:(List A2)) (h:A0d a0 a1=some r):AC Tryz.prog 48 [(.d (.list 16 (a0.map G5))),(.d (.list 16 (a1.map G5)))] [] (.d (.list 4 (r.map A7))) []:=by
 refine ac2 Tryz.func48 rfl rfl fun B hB hN L => ?_
 delta A0d at h
 refine sr (SQ tt) ?_
 refine sr (SQ tt) ?_
 apply AWp.seq
 obtain⟨hc1,h⟩:=B6 h
 obtain⟨hc2,h⟩:=B6 h
 refine sr (SQ (fa hc1 (fa hc2 tt))) ?_
 apply AWp.block
 obtain⟨p132,hx202,h⟩:=bindS h
 refine lg (T3 a0 a1) (fun s3:Int×(List A2)=>([(5,(.sref 3005 4 0 s3.2.length)),(13,(.sref 1013 16 0 ((a0++a1).length))),(14,(i6 ((a0++a1).length:Int))),(15,(i6 s3.1))]:EL)) (fun s3:Int×(List A2)=>([(1013,some (F3 (a0++a1))),(3005,some (G0 s3.2))]:OL)) (fun(p132:((List A2))) e E' O'=>e = .exit 0∧Mat B E' O' ([(5,(.sref 3005 4 0 p132.length))]:EL) ([(3005,some (G0 p132))]:OL)) hx202 (Mat.trans (Mat.beginP (n:=3005) (e:=29) (sz:=4) (Ts:=[(5,(.sref 3005 4 0 0))]) (Bs:=[]) hB (by decide) (by rfl) (by decide) (TwT.cons (x:=.nils) (by rfl) (Tw.leaf ⟨rfl,rfl⟩) TwT.nil) TwB.nil) (mp [] _ _ hB)) (fun s3 y h => ?_) (fun e E' O' hR => ?_)
 ·unfold T3 at h
  refine sr (SQ tt) ?_
  apply AWp.seq
  apply AWp.cond rfl<;>intro hg133
  ·have h:=A3 hg133 h
   apply AWp.skip
   apply A0
   apply AWp.seq
   apply AWp.block
   obtain⟨_,hx134,h⟩:=bindS h
   obtain⟨x135,hx135,h⟩:=bindS h
   refine sr (SQ (fa hx134 (fa hx135 tt))) ?_
   refine sr (SQ tt) ?_
   apply AWp.seq
   apply AWp.block
   obtain⟨p159,hx172,h⟩:=bindS h
   refine lg (A03 s3 x135) (fun s136:Int=>([(5,(.sref 3005 4 0 s3.2.length)),(7,(pt 1007)),(8,(i6 s136)),(13,(.sref 1013 16 0 ((a0++a1).length))),(14,(i6 ((a0++a1).length:Int))),(15,(i6 s3.1))]:EL)) (fun s136:Int=>([(1007,bd 37 (G5 x135)),(1013,some (F3 (a0++a1))),(3005,some (G0 s3.2))]:OL)) (fun(p159:(Int)) e E' O'=>e = .exit 2∧Mat B E' O' ([(5,(.sref 3005 4 0 s3.2.length)),(7,(pt 1007)),(8,(i6 p159)),(13,(.sref 1013 16 0 ((a0++a1).length))),(14,(i6 ((a0++a1).length:Int))),(15,(i6 s3.1))]:EL) ([(1007,bd 37 (G5 x135)),(1013,some (F3 (a0++a1))),(3005,some (G0 s3.2))]:OL)) hx172 (mp [] _ _ hB) (fun s136 y h => ?_) (fun e E' O' hR => ?_)
   ·unfold A03 at h
    apply AWp.seq
    apply AWp.seq
    refine AWp.cut h (fun m164:Bool=>([(5,(.sref 3005 4 0 s3.2.length)),(7,(pt 1007)),(8,(i6 s136)),(13,(.sref 1013 16 0 ((a0++a1).length))),(14,(i6 ((a0++a1).length:Int))),(15,(i6 s3.1)),(32,(bo m164))]:EL)) (fun m164:Bool=>([(1007,bd 37 (G5 x135)),(1013,some (F3 (a0++a1))),(3005,some (G0 s3.2))]:OL)) (fun m164 h E' O' hmat => ?_) (fun j165 hjj165 h => ?_)
    ·apply A0
     refine AWp.ghost hmat ?_
     apply AWp.cond rfl<;>intro hg166
     ·have h:=A3 hg166 h
      apply AWp.skip
      apply A0
      apply AWp.block
      refine rg (SQ tt) ?_
      apply E4
      obtain rfl:=oi h
      exact⟨rfl,(mp [] _ _ hB)⟩
     ·have h:=A4 hg166 h
      apply AWp.exit
      apply E5
      obtain rfl:=oi h
      exact⟨(fun hc=>by cases hc),rfl,(mp [] _ _ hB)⟩
    ·rcases bft (decide (s136<(s3.2.length:Int))) with hg167 | hg167
     ·have h:=A3 hg167 h
      obtain⟨_,hx168,h⟩:=bindS h
      obtain⟨x169,hx169,h⟩:=bindS h
      obtain⟨r170,hr170,h⟩:=bindS h
      refine drS (SQ (fa hg167 (fa hx168 (fa hx169 (fa (cl [] (B0i x169 x135.fPrefix r170 hr170)) tt))))) ?_
      exact hjj165 _ h _ _ (mp [] _ _ hB)
     ·have h:=A4 hg167 h
      refine drS (SQ (fa hg167 tt)) ?_
      exact hjj165 _ h _ _ (mp [] _ _ hB)
   ·obtain⟨rfl,hmat⟩:=hR
    apply C2
    apply A0
    refine AWp.ghost hmat ?_
    apply AWp.seq
    refine AWp.cut h (fun m176:Bool=>([(5,(.sref 3005 4 0 s3.2.length)),(7,(pt 1007)),(8,(i6 p159)),(13,(.sref 1013 16 0 ((a0++a1).length))),(14,(i6 ((a0++a1).length:Int))),(15,(i6 s3.1)),(47,(bo m176))]:EL)) (fun m176:Bool=>([(1007,bd 37 (G5 x135)),(1013,some (F3 (a0++a1))),(3005,some (G0 s3.2))]:OL)) (fun m176 h E' O' hmat => ?_) (fun j177 hjj177 h => ?_)
    ·apply A0
     refine AWp.ghost hmat ?_
     refine AWp.cut h (fun m187:(List A2)=>([(5,(.sref 3005 4 0 m187.length)),(13,(.sref 1013 16 0 ((a0++a1).length))),(14,(i6 ((a0++a1).length:Int))),(15,(i6 s3.1))]:EL)) (fun m187:(List A2)=>([(1013,some (F3 (a0++a1))),(3005,some (G0 m187))]:OL)) (fun m187 h E' O' hmat => ?_) (fun j188 hjj188 h => ?_)
     ·apply E4
      apply A0
      refine AWp.ghost hmat ?_
      refine rg (SQ tt) ?_
      obtain rfl:=oi h
      exact⟨rfl,(mp [] _ _ hB)⟩
     ·apply AWp.cond rfl<;>intro hg189
      ·have h:=A3 hg189 h
       obtain⟨hc190,h⟩:=B6 h
       obtain⟨hc191,h⟩:=B6 h
       obtain⟨hc192,h⟩:=B6 h
       apply sr (c (mv hN (q 5)) rfl (c (mv hN (q 8)) rfl (c (OpJ.cutS underlying59 tyS29 (l:=p159.toNat) (h:=s3.2.length) (off':=p159.toNat) (len':=(s3.2.length-p159.toNat)) (.inr ⟨_,_,_,rfl,(ot 49 (i6 p159)),(of_decide_eq_true (F9 (F9 hc190))),rfl⟩) (.inl ⟨rfl,rfl,rfl⟩) (of_decide_eq_true (J2 (F9 hc190))) (of_decide_eq_true (J2 hc190)) (by simp) (by simp) (L rfl) (q 48)) rfl (cg (OpJ.appendNS hB underlying59 tyE29 (nm:=1051) (by decide) (es:=s3.2.map A7) (ys:=((s3.2.drop p159.toNat).take (s3.2.length-p159.toNat)).map A7) (by rw [List.length_map];exact of_decide_eq_true hc191) (by first | rw [List.map_drop,List.map_take] | (simp [List.map_take,List.map_drop];done) | simp [List.take_of_length_le]) (len:=((s3.2.drop p159.toNat).take (s3.2.length-p159.toNat)).length) (by simp) (A37 (f:=A7) (fun _=>rfl)) (by rw [List.length_map];exact V1 hc192 (by decide)) (by rw [List.length_map];exact A12 hc192) (L rfl) Opd.nils (q 50)) rfl (c (assign (L rfl) (q 51)) rfl cn)))))
       refine gh [(5,_),(7,_),(8,_),(9,_),(13,_),(14,_),(15,_)] [(1007,some _),(1013,some _),(1051,some _),(3005,some _)] hB rfl rfl (by rfl) ?_
       refine AWp.ghost (Mat.freezeP (n:=1051) (e:=29) (sz:=4) (es:=((s3.2.drop p159.toNat).take (s3.2.length-p159.toNat)).map A7) (Ts:=[(9,(D6 ((s3.2.drop p159.toNat).take (s3.2.length-p159.toNat))))]) (Bs:=[]) (by rfl) (TwT.cons (x:=(.sref 1051 4 0 (((s3.2.drop p159.toNat).take (s3.2.length-p159.toNat)).length))) (by rfl) (FrzL.all (by first | rfl | (simp;done) | (simp;omega) | omega)) TwT.nil) TwB.nil) ?_
       obtain⟨hc195,h⟩:=B6 h
       obtain⟨hc196,h⟩:=B6 h
       obtain⟨hc197,h⟩:=B6 h
       apply dr (c (mv hN (q 5)) rfl (c (mv hN (q 8)) rfl (cg (OpJ.val (v':=(.sref 3005 4 0 ((s3.2.take p159.toNat).length))) (by rw [List.length_take,Nat.min_eq_left (of_decide_eq_true (J2 hc195))]) (OpJ.shrS (OpJ.cutS underlying59 tyS29 (l:=0) (h:=p159.toNat) (off':=0) (len':=p159.toNat) (.inl ⟨rfl,rfl,rfl⟩) (.inr ⟨_,_,_,rfl,(ot 53 (i6 p159)),(of_decide_eq_true (F9 (F9 hc195))),rfl⟩) (of_decide_eq_true (J2 (F9 hc195))) (of_decide_eq_true (J2 hc195)) (by simp) (by simp) (L rfl) (q 52)) (es':=(s3.2.take p159.toNat).map A7) (by rw [List.length_map];exact(of_decide_eq_true (J2 hc195))) (by rw [List.map_take]))) rfl (c (fo 1007 0 [0] hN underlying37 0 tyS29 (q 7)) rfl (c (la hN 37 tyS29 (q 55)) rfl (c (buildSlice underlying59 tyS29 tyZD29 (by rfl) (by decide) (by decide) (Opds.cons (q 56) Opds.nil) (by kernel_rfl) (es:=([(A7 x135.fPrefix)]:List D)) (by rfl) (by rfl) (by kernel_rfl) (by simp) (L rfl)) rfl (cg (apd hB underlying59 tyE29 1058 A7 (s3.2.take p159.toNat) [x135.fPrefix] hc196 (L rfl) (q 54) (q 57)) rfl (c (mv hN (q 9)) rfl (cg (apd hB underlying59 tyE29 1060 A7 ((s3.2.take p159.toNat)++[x135.fPrefix]) ((s3.2.drop p159.toNat).take (s3.2.length-p159.toNat)) hc197 (L rfl) (q 58) (q 59)) rfl (c (assign (L rfl) (q 60)) rfl cn)))))))))) (by kernel_rfl) (by kernel_rfl)
       exact hjj188 _ h _ _ (mp [(3005,1060)] _ _ hB)
      ·have h:=A4 hg189 h
       apply AWp.skip
       exact hjj188 _ h _ _ (mp [] _ _ hB)
    ·rcases bft (p159==(s3.2.length:Int)) with hg198 | hg198
     ·have h:=A3 hg198 h
      refine drS (SQ (fa hg198 tt)) ?_
      exact hjj177 _ h _ _ (mp [] _ _ hB)
     ·have h:=A4 hg198 h
      obtain⟨_,hx199,h⟩:=bindS h
      obtain⟨x200,hx200,h⟩:=bindS h
      apply dr (c (mv hN (q 8)) rfl (c (mv hN (q 5)) rfl (c (lenS underlying59 (L rfl) (q 36)) rfl (c (eqlI (L rfl) (q 35) (q 37)) rfl (c (OpJ.val (v':=.d (.bool false)) (by rw [hg198]<;>rfl) (mv hN (q 38))) rfl (c (gd 39 (mv hN (q 5))) rfl (c (gd 39 (mv hN (q 8))) rfl (c (gd 39 (OpJ.val (v':=(.ptr 3005 (p159.toNat*4) [p159.toNat])) (by simp) (indexS underlying59 tyS29 (D7 hx199).1 (by have:=B1f hx199;first | (simpa using this) | ((try simp only [List.length_map] at this);(try simp only [List.length_map]);omega)) (L rfl) (q 40) (q 41)))) rfl (c (gd 39 (loadR (e:=29) (sz:=4) tyS29 (H2 A7 (D7 hx200).2) (o:=0) (At.here _) (by rfl) (by rfl) (by rfl) (L rfl) (q 42))) rfl (c (gd 39 (fo 1007 0 [0] hN underlying37 0 tyS29 (q 7))) rfl (c (gd 39 (la hN 37 tyS29 (q 44))) rfl (c (gd 39 (OpJ.neqD (h:=3) (FitE.st underlying29 rfl held29 (FitF.cons (x:=(C1 x200.fAddr)) (y:=(C1 x135.fPrefix.fAddr)) (by decide) rfl tyS27 ⟨rfl,rfl⟩ ⟨rfl,rfl⟩ (FitE.st underlying27 rfl held27 (FitF.cons (x:=(.bool x200.fAddr.fV6)) (y:=(.bool x135.fPrefix.fAddr.fV6)) (by decide) rfl tyS4 ⟨rfl,rfl⟩ ⟨rfl,rfl⟩ (FitE.bool (h:=0) x200.fAddr.fV6 x135.fPrefix.fAddr.fV6 underlying4) (FitF.cons (x:=(.int .u64 x200.fAddr.fHi)) (y:=(.int .u64 x135.fPrefix.fAddr.fHi)) (by decide) rfl tyS25 ⟨rfl,rfl⟩ ⟨rfl,rfl⟩ (FitE.int (h:=0) x200.fAddr.fHi x135.fPrefix.fAddr.fHi underlying25) (FitF.cons (x:=(.int .u64 x200.fAddr.fLo)) (y:=(.int .u64 x135.fPrefix.fAddr.fLo)) (by decide) rfl tyS25 ⟨rfl,rfl⟩ ⟨rfl,rfl⟩ (FitE.int (h:=0) x200.fAddr.fLo x135.fPrefix.fAddr.fLo underlying25) FitF.nil)))) (FitF.cons (x:=(.int .i64 x200.fLen)) (y:=(.int .i64 x135.fPrefix.fLen)) (by decide) rfl tyS3 ⟨rfl,rfl⟩ ⟨rfl,rfl⟩ (FitE.int (h:=1) x200.fLen x135.fPrefix.fLen underlying3) FitF.nil))) eqg29 ⟨rfl,rfl⟩ (by rfl) (L rfl) (q 43) (q 45))) rfl (c (pickF (L rfl) (q 39) (q 46)) rfl cn))))))))))))) (by kernel_rfl) (by kernel_rfl)
      exact hjj177 _ h _ _ (mp [] _ _ hB)
  ·have h:=A4 hg133 h
   apply AWp.exit
   apply E5
   obtain rfl:=oi h
   exact⟨(fun hc=>by cases hc),rfl,(mp [] _ _ hB)⟩
 ·obtain⟨rfl,hmat⟩:=hR
  apply C2
  apply A0
  refine AWp.ghost hmat ?_
  refine sr (SQ tt) ?_
  apply AWp.ret
  obtain rfl:=oi h
  exact rt (Mat.trans (Mat.freezeP (n:=3005) (e:=29) (sz:=4) (es:=p132.map A7) (Ts:=[(4,(D6 p132))]) (Bs:=[]) (by rfl) (TwT.cons (x:=(.sref 3005 4 0 p132.length)) (by rfl) (FrzL.all (by first | rfl | (simp;done) | (simp;omega) | omega)) TwT.nil) TwB.nil) (mp [] [(4,(D6 p132))] [] hB)) [(D6 p132)] (Res.tmp (by rfl) (by rfl) Res.nil) rfl
def Y6 (a0:(List D0)) (a1:A2) (s1:Int):Option (((D0)⊕(Unit))⊕(Int)) :=
 (if (decide (s1<(a0.length:Int)))=true then
 (idx a0 s1).bind fun x11 =>
 (if (((x11.fPrefix.fAddr.fV6==a1.fAddr.fV6)&&((x11.fPrefix.fAddr.fHi==a1.fAddr.fHi)&&((x11.fPrefix.fAddr.fLo==a1.fAddr.fLo)&&true)))&&((x11.fPrefix.fLen==a1.fLen)&&true))=true then
 some (.inl (.inl x11))
 else
 some (.inr (w64 (s1+1))))
 else
 some (.inl (.inr ())))
def A0x (a0:(List D0)) (a1:A2):Option (D0×Bool) :=
 (loop (Y6 a0 a1) 0).bind fun x13=>match x13 with
 | (.inl p8) =>
  some (p8,true)
 | (.inr _) =>
  some ((D0.mk (A2.mk (C7.mk false 0 0) 0) 0 (C6.mk 0 ([]:List B0) (C7.mk false 0 0) 0 0 0 ([]:List B3) ([]:List E6) ([]:List A1))),false)
theorem A5n (a0:(List D0)) (a1:A2) (r:D0×Bool) (h:A0x a0 a1=some r):AC Tryz.prog 49 [(.d (.list 16 (a0.map G5))),(.d (A7 a1))] [] (.tup [(.d (G5 r.1)),(.d (.bool r.2))]) []:=by
 refine ac2 Tryz.func49 rfl rfl fun B hB hN L => ?_
 delta A0x at h
 refine sr (SQ tt) ?_
 apply AWp.seq
 refine sr (SQ tt) ?_
 apply AWp.block
 obtain⟨x13,hx14,h⟩:=bindS h
 refine lg (Y6 a0 a1) (fun s1:Int=>([(3,(pt 1003)),(4,(pt 1004)),(8,(H3 a0)),(9,(i6 (a0.length:Int))),(10,(i6 s1))]:EL)) (fun s1:Int=>([(1003,bd 29 (A7 a1)),(1004,some (.box 37 (.st [(.d (.st [(.st [(.bool false),(.int .u64 0),(.int .u64 0)]),(.int .i64 0)])),(i6 0),(.st [(i6 0),.nils,(.d (.st [(.bool false),(.int .u64 0),(.int .u64 0)])),(i6 0),(i6 0),(i6 0),.nils,.nils,.nils])])))]:OL)) (fun(x:(D0)⊕(Unit)) e E' O'=>match x with | (.inl p8)=>e = .ret∧Mat B E' O' ([(4,(pt 1004)),(5,(bo true))]:EL) ([(1004,bd 37 (G5 p8))]:OL) | (.inr _p)=>e = .exit 0∧Mat B E' O' ([(4,(pt 1004))]:EL) ([(1004,some (.box 37 (.st [(.d (.st [(.st [(.bool false),(.int .u64 0),(.int .u64 0)]),(.int .i64 0)])),(i6 0),(.st [(i6 0),.nils,(.d (.st [(.bool false),(.int .u64 0),(.int .u64 0)])),(i6 0),(i6 0),(i6 0),.nils,.nils,.nils])])))]:OL)) hx14 (mp [] _ _ hB) (fun s1 y h => ?_) (fun e E' O' hR => ?_)
 ·unfold Y6 at h
  refine sr (SQ tt) ?_
  apply AWp.seq
  apply AWp.cond rfl<;>intro hg10
  ·have h:=A3 hg10 h
   apply AWp.skip
   apply A0
   apply AWp.seq
   apply AWp.block
   obtain⟨x11,hx11,h⟩:=bindS h
   refine sr (SQ (fa hx11 tt)) ?_
   apply sr (c (fo 1007 0 [0] hN underlying37 0 tyS29 (q 7)) rfl (c (la hN 37 tyS29 (q 14)) rfl (c (lb hN 29 _ _ tyS29 (At.here _) (q 3)) rfl (c (OpJ.eqlD (h:=3) (FitE.st underlying29 rfl held29 (FitF.cons (x:=(C1 x11.fPrefix.fAddr)) (y:=(C1 a1.fAddr)) (by decide) rfl tyS27 ⟨rfl,rfl⟩ ⟨rfl,rfl⟩ (FitE.st underlying27 rfl held27 (FitF.cons (x:=(.bool x11.fPrefix.fAddr.fV6)) (y:=(.bool a1.fAddr.fV6)) (by decide) rfl tyS4 ⟨rfl,rfl⟩ ⟨rfl,rfl⟩ (FitE.bool (h:=0) x11.fPrefix.fAddr.fV6 a1.fAddr.fV6 underlying4) (FitF.cons (x:=(.int .u64 x11.fPrefix.fAddr.fHi)) (y:=(.int .u64 a1.fAddr.fHi)) (by decide) rfl tyS25 ⟨rfl,rfl⟩ ⟨rfl,rfl⟩ (FitE.int (h:=0) x11.fPrefix.fAddr.fHi a1.fAddr.fHi underlying25) (FitF.cons (x:=(.int .u64 x11.fPrefix.fAddr.fLo)) (y:=(.int .u64 a1.fAddr.fLo)) (by decide) rfl tyS25 ⟨rfl,rfl⟩ ⟨rfl,rfl⟩ (FitE.int (h:=0) x11.fPrefix.fAddr.fLo a1.fAddr.fLo underlying25) FitF.nil)))) (FitF.cons (x:=(.int .i64 x11.fPrefix.fLen)) (y:=(.int .i64 a1.fLen)) (by decide) rfl tyS3 ⟨rfl,rfl⟩ ⟨rfl,rfl⟩ (FitE.int (h:=1) x11.fPrefix.fLen a1.fLen underlying3) FitF.nil))) eqg29 ⟨rfl,rfl⟩ (by rfl) (L rfl) (q 15) (q 16)) rfl cn))))
   apply AWp.cond rfl<;>intro hg12
   ·have h:=A3 hg12 h
    refine sr (SQ tt) ?_
    apply AWp.ret
    apply D5
    apply B5
    obtain rfl:=oi h
    exact⟨(fun hc=>by cases hc),rfl,(mp [] _ _ hB)⟩
   ·have h:=A4 hg12 h
    apply AWp.skip
    apply E4
    apply A0
    refine rg (SQ tt) ?_
    obtain rfl:=oi h
    exact⟨rfl,(mp [] _ _ hB)⟩
  ·have h:=A4 hg10 h
   apply AWp.exit
   apply E5
   obtain rfl:=oi h
   exact⟨(fun hc=>by cases hc),rfl,(mp [] _ _ hB)⟩
 ·rcases x13 with p8 | _
  ·obtain⟨rfl,hmat⟩:=hR
   apply D5
   apply B5
   obtain rfl:=oi h
   exact rt (Mat.trans hmat (mp [] [(4,(pt 1004)),(5,(bo true))] [(1004,bd 37 (G5 p8))] hB)) [(.d (G5 p8)),(bo true)] (Res.cell (c:=(.d (G5 p8))) (by rfl) (by rfl) tyS37 (by rfl) (by rfl) (by rfl) (Res.tmp (by rfl) (by rfl) Res.nil)) rfl
  ·obtain⟨rfl,hmat⟩:=hR
   apply C2
   apply A0
   refine AWp.ghost hmat ?_
   refine sr (SQ tt) ?_
   apply AWp.ret
   obtain rfl:=oi h
   exact rt (Mat.trans (Mat.coeP (Ts:=[]) (Bs:=[(1004,some (.box 37 (.d (.st [(.st [(.st [(.bool false),(.int .u64 0),(.int .u64 0)]),(.int .i64 0)]),(.int .i64 0),(.st [(.int .i64 0),(.list 2 (([]:List B0).map C3)),(.st [(.bool false),(.int .u64 0),(.int .u64 0)]),(.int .i64 0),(.int .i64 0),(.int .i64 0),(.list 2 (([]:List B3).map B4)),(.list 3 (([]:List E6).map D9)),(.list 3 (([]:List A1).map A8))])]))))]) TwT.nil (TwB.cons (x:=(.st [(.d (.st [(.st [(.bool false),(.int .u64 0),(.int .u64 0)]),(.int .i64 0)])),(i6 0),(.st [(i6 0),.nils,(.d (.st [(.bool false),(.int .u64 0),(.int .u64 0)])),(i6 0),(i6 0),(i6 0),.nils,.nils,.nils])])) (by rfl) (Tw.leaf ⟨_,(Co.st (CoL.cons (Co.d _) (CoL.cons (Co.d _) (CoL.cons (Co.st (CoL.cons (Co.d _) (CoL.cons (Co.nils 2) (CoL.cons (Co.d _) (CoL.cons (Co.d _) (CoL.cons (Co.d _) (CoL.cons (Co.d _) (CoL.cons (Co.nils 2) (CoL.cons (Co.nils 3) (CoL.cons (Co.nils 3) CoL.nil)))))))))) CoL.nil)))),rfl⟩) TwB.nil)) (mp [] [(4,(pt 1004)),(5,(bo false))] [(1004,some (.box 37 (.d (.st [(.st [(.st [(.bool false),(.int .u64 0),(.int .u64 0)]),(.int .i64 0)]),(.int .i64 0),(.st [(.int .i64 0),(.list 2 (([]:List B0).map C3)),(.st [(.bool false),(.int .u64 0),(.int .u64 0)]),(.int .i64 0),(.int .i64 0),(.int .i64 0),(.list 2 (([]:List B3).map B4)),(.list 3 (([]:List E6).map D9)),(.list 3 (([]:List A1).map A8))])]))))] hB)) [(.d (.st [(.st [(.st [(.bool false),(.int .u64 0),(.int .u64 0)]),(.int .i64 0)]),(.int .i64 0),(.st [(.int .i64 0),(.list 2 (([]:List B0).map C3)),(.st [(.bool false),(.int .u64 0),(.int .u64 0)]),(.int .i64 0),(.int .i64 0),(.int .i64 0),(.list 2 (([]:List B3).map B4)),(.list 3 (([]:List E6).map D9)),(.list 3 (([]:List A1).map A8))])])),(bo false)] (Res.cell (c:=(.d (.st [(.st [(.st [(.bool false),(.int .u64 0),(.int .u64 0)]),(.int .i64 0)]),(.int .i64 0),(.st [(.int .i64 0),(.list 2 (([]:List B0).map C3)),(.st [(.bool false),(.int .u64 0),(.int .u64 0)]),(.int .i64 0),(.int .i64 0),(.int .i64 0),(.list 2 (([]:List B3).map B4)),(.list 3 (([]:List E6).map D9)),(.list 3 (([]:List A1).map A8))])]))) (by rfl) (by rfl) tyS37 (by rfl) (by rfl) (by rfl) (Res.tmp (by rfl) (by rfl) Res.nil)) rfl
def L8 (a0:(List Int)) (a1:(List Int)) (s2:Int):Option (((Unit)⊕(Unit))⊕(Int)) :=
 (if (decide (s2<(a0.length:Int)))=true then
 (idx a0 s2).bind fun x14 =>
 (idx a1 s2).bind fun x15 =>
 (if (x14 != x15)=true then
 some (.inl (.inl ()))
 else
 some (.inr (w64 (s2+1))))
 else
 some (.inl (.inr ())))
def V8 (a0:(List Int)) (a1:(List Int)):Option (Bool) :=
 (if ((a0.length:Int) != (a1.length:Int))=true then
 some false
 else
 (loop (L8 a0 a1) 0).bind fun x17=>match x17 with
 | (.inl _) =>
  some false
 | (.inr _) =>
  some true)
theorem A6g (a0:(List Int)) (a1:(List Int)) (r:Bool) (h:V8 a0 a1=some r):AC Tryz.prog 47 [(.d (.list 1 (a0.map (eI .i64)))),(.d (.list 1 (a1.map (eI .i64))))] [] (.d (.bool r)) []:=by
 refine ac2 Tryz.func47 rfl rfl fun B hB hN L => ?_
 delta V8 at h
 refine sr (SQ tt) ?_
 apply AWp.seq
 refine sr (SQ tt) ?_
 apply AWp.cond rfl<;>intro hg1
 ·have h:=A3 hg1 h
  refine sr (SQ tt) ?_
  apply AWp.ret
  apply B5
  obtain rfl:=oi h
  exact rt (kp [(4,_)] [] hB rfl rfl (by rfl)) [(bo false)] (Res.tmp (by rfl) (by rfl) Res.nil) rfl
 ·have h:=A4 hg1 h
  apply AWp.skip
  apply A0
  apply AWp.seq
  refine sr (SQ tt) ?_
  apply AWp.block
  obtain⟨x17,hx18,h⟩:=bindS h
  refine lg (L8 a0 a1) (fun s2:Int=>([(0,(qI_1 a0)),(1,(qI_1 a1)),(12,(i6 (a0.length:Int))),(13,(i6 s2))]:EL)) (fun s2:Int=>([]:OL)) (fun(x:(Unit)⊕(Unit)) e E' O'=>match x with | (.inl _p)=>e = .ret∧Mat B E' O' ([(4,(bo false))]:EL) ([]:OL) | (.inr _p)=>e = .exit 0∧Mat B E' O' ([]:EL) ([]:OL)) hx18 (mp [] _ _ hB) (fun s2 y h => ?_) (fun e E' O' hR => ?_)
  ·unfold L8 at h
   refine sr (SQ tt) ?_
   apply AWp.seq
   apply AWp.cond rfl<;>intro hg13
   ·have h:=A3 hg13 h
    apply AWp.skip
    apply A0
    apply AWp.seq
    apply AWp.block
    refine sr (SQ tt) ?_
    obtain⟨_,hx14,h⟩:=bindS h
    obtain⟨_,hx15,h⟩:=bindS h
    refine sdS (SQ (fa hx14 (fa hx15 tt))) ?_
    apply AWp.cond rfl<;>intro hg16
    ·have h:=A3 hg16 h
     refine sr (SQ tt) ?_
     apply AWp.ret
     apply D5
     apply B5
     obtain rfl:=oi h
     exact⟨(fun hc=>by cases hc),rfl,(mp [] _ _ hB)⟩
    ·have h:=A4 hg16 h
     apply AWp.skip
     apply E4
     apply A0
     refine rg (SQ tt) ?_
     obtain rfl:=oi h
     exact⟨rfl,(mp [] _ _ hB)⟩
   ·have h:=A4 hg13 h
    apply AWp.exit
    apply E5
    obtain rfl:=oi h
    exact⟨(fun hc=>by cases hc),rfl,(mp [] _ _ hB)⟩
  ·rcases x17 with _ | _
   ·obtain⟨rfl,hmat⟩:=hR
    apply D5
    apply B5
    obtain rfl:=oi h
    exact rt (Mat.trans hmat (mp [] [(4,(bo false))] [] hB)) [(bo false)] (Res.tmp (by rfl) (by rfl) Res.nil) rfl
   ·obtain⟨rfl,hmat⟩:=hR
    apply C2
    apply A0
    refine AWp.ghost hmat ?_
    refine sr (SQ tt) ?_
    apply AWp.ret
    obtain rfl:=oi h
    exact rt (kp [(4,_)] [] hB rfl rfl (by rfl)) [(bo true)] (Res.tmp (by rfl) (by rfl) Res.nil) rfl
def G7 (a0:C6) (a1:C6) (s2:Int):Option (((Unit)⊕(Unit))⊕(Int)) :=
 (if (decide (s2<(a0.fPath.length:Int)))=true then
 jn (fun m50:Bool =>
 (if m50=true then
 some (.inl (.inl ()))
 else
 some (.inr (w64 (s2+1))))) (fun j51 =>
 (idx a0.fPath s2).bind fun x53 =>
 (idx a1.fPath s2).bind fun x54 =>
 (if (x53.fSet != x54.fSet)=true then
 j51 true
 else
 (idx a0.fPath s2).bind fun x56 =>
 (idx a1.fPath s2).bind fun x57 =>
 (V8 x56.fASNs x57.fASNs).bind fun r58 =>
 j51 (!r58)))
 else
 some (.inl (.inr ())))
def I3 (a0:C6) (a1:C6) (s61:Int):Option (((Unit)⊕(Unit))⊕(Int)) :=
 (if (decide (s61<(a0.fCommunities.length:Int)))=true then
 (idx a0.fCommunities s61).bind fun x73 =>
 (idx a1.fCommunities s61).bind fun x74 =>
 (if (!((x73.fA==x74.fA)&&((x73.fB==x74.fB)&&true)))=true then
 some (.inl (.inl ()))
 else
 some (.inr (w64 (s61+1))))
 else
 some (.inl (.inr ())))
def I4 (a0:C6) (a1:C6) (s78:Int):Option (((Unit)⊕(Unit))⊕(Int)) :=
 (if (decide (s78<(a0.fLarge.length:Int)))=true then
 (idx a0.fLarge s78).bind fun x90 =>
 (idx a1.fLarge s78).bind fun x91 =>
 (if (!((x90.fA==x91.fA)&&((x90.fB==x91.fB)&&((x90.fC==x91.fC)&&true))))=true then
 some (.inl (.inl ()))
 else
 some (.inr (w64 (s78+1))))
 else
 some (.inl (.inr ())))
def I5 (a0:C6) (a1:C6) (s95:Int):Option (((Unit)⊕(Unit))⊕(Int)) :=
 (if (decide (s95<(a0.fOther.length:Int)))=true then
 jn (fun m153:Bool =>
 (if m153=true then
 some (.inl (.inl ()))
 else
 some (.inr (w64 (s95+1))))) (fun j154 =>
 (idx a0.fOther s95).bind fun x156 =>
 (idx a1.fOther s95).bind fun x157 =>
 (if (x156.fFlags != x157.fFlags)=true then
 j154 true
 else
 (idx a0.fOther s95).bind fun x159 =>
 (idx a1.fOther s95).bind fun x160 =>
 (if (x159.fType != x160.fType)=true then
 j154 true
 else
 (idx a0.fOther s95).bind fun x162 =>
 (idx a1.fOther s95).bind fun x163 =>
 j154 ((bstr x162.fData) != (bstr x163.fData)))))
 else
 some (.inl (.inr ())))
def H6 (a0:C6) (a1:C6):Option (Bool) :=
 (if (((((((((a0.fOrigin != a1.fOrigin) || (!((a0.fNext.fV6==a1.fNext.fV6)&&((a0.fNext.fHi==a1.fNext.fHi)&&((a0.fNext.fLo==a1.fNext.fLo)&&true))))) || (a0.fMED != a1.fMED)) || (a0.fPref != a1.fPref)) || (a0.fOTC != a1.fOTC)) || ((a0.fPath.length:Int) != (a1.fPath.length:Int))) || ((a0.fCommunities.length:Int) != (a1.fCommunities.length:Int))) || ((a0.fLarge.length:Int) != (a1.fLarge.length:Int))) || ((a0.fOther.length:Int) != (a1.fOther.length:Int)))=true then
 some false
 else
 (loop (G7 a0 a1) 0).bind fun x59=>match x59 with
 | (.inl _) =>
  some false
 | (.inr _) =>
  (loop (I3 a0 a1) 0).bind fun x76=>match x76 with
  | (.inl _) =>
   some false
  | (.inr _) =>
   (loop (I4 a0 a1) 0).bind fun x93=>match x93 with
   | (.inl _) =>
    some false
   | (.inr _) =>
    (loop (I5 a0 a1) 0).bind fun x164=>match x164 with
    | (.inl _) =>
     some false
    | (.inr _) =>
     some true)
theorem A62 (a0:C6) (a1:C6) (r:Bool) (h:H6 a0 a1=some r):AC Tryz.prog 22 [(.d (B1 a0)),(.d (B1 a1))] [] (.d (.bool r)) []:=by
 refine ac2 Tryz.func22 rfl rfl fun B hB hN L => ?_
 delta H6 at h
 refine sr (SQ tt) ?_
 apply AWp.seq
 apply sr (c (fo 1002 0 [0] hN underlying35 0 tyS3 (q 2)) rfl (c (la hN 35 tyS3 (q 9)) rfl (c (fo 1003 0 [0] hN underlying35 0 tyS3 (q 3)) rfl (c (la hN 35 tyS3 (q 11)) rfl (c (neqI (L rfl) (q 10) (q 12)) rfl (c (mv hN (q 13)) rfl (c (oq hN 14 (fo 1002 2 [2] hN underlying35 2 tyS27 (q 2)) (OptL.keep (by rfl) OptL.nil) (GuardV.plain _)) rfl (c (oq hN 14 (la hN 35 tyS27 (q 15)) (OptL.opt OptL.nil) (GuardV.plain _)) rfl (c (oq hN 14 (fo 1003 2 [2] hN underlying35 2 tyS27 (q 3)) (OptL.keep (by rfl) OptL.nil) (GuardV.plain _)) rfl (c (oq hN 14 (la hN 35 tyS27 (q 17)) (OptL.opt OptL.nil) (GuardV.plain _)) rfl (c (oq hN 14 (OpJ.neqD (h:=2) (FitE.st underlying27 rfl held27 (FitF.cons (x:=(.bool a0.fNext.fV6)) (y:=(.bool a1.fNext.fV6)) (by decide) rfl tyS4 ⟨rfl,rfl⟩ ⟨rfl,rfl⟩ (FitE.bool (h:=0) a0.fNext.fV6 a1.fNext.fV6 underlying4) (FitF.cons (x:=(.int .u64 a0.fNext.fHi)) (y:=(.int .u64 a1.fNext.fHi)) (by decide) rfl tyS25 ⟨rfl,rfl⟩ ⟨rfl,rfl⟩ (FitE.int (h:=0) a0.fNext.fHi a1.fNext.fHi underlying25) (FitF.cons (x:=(.int .u64 a0.fNext.fLo)) (y:=(.int .u64 a1.fNext.fLo)) (by decide) rfl tyS25 ⟨rfl,rfl⟩ ⟨rfl,rfl⟩ (FitE.int (h:=0) a0.fNext.fLo a1.fNext.fLo underlying25) FitF.nil)))) eqg27 ⟨rfl,rfl⟩ (by rfl) (L rfl) (q 16) (q 18)) (OptL.opt (OptL.opt OptL.nil)) (GuardV.plain _)) rfl (c (pickOr rfl (L rfl) (q 14) (q 19)) rfl (c (mv hN (q 20)) rfl (c (oq hN 21 (fo 1002 5 [3] hN underlying35 5 tyS3 (q 2)) (OptL.keep (by rfl) OptL.nil) (GuardV.plain _)) rfl (c (oq hN 21 (la hN 35 tyS3 (q 22)) (OptL.opt OptL.nil) (GuardV.plain _)) rfl (c (oq hN 21 (fo 1003 5 [3] hN underlying35 5 tyS3 (q 3)) (OptL.keep (by rfl) OptL.nil) (GuardV.plain _)) rfl (c (oq hN 21 (la hN 35 tyS3 (q 24)) (OptL.opt OptL.nil) (GuardV.plain _)) rfl (c (oq hN 21 (neqI (L rfl) (q 23) (q 25)) (OptL.opt (OptL.opt OptL.nil)) (GuardV.plain _)) rfl (c (pickOr rfl (L rfl) (q 21) (q 26)) rfl (c (mv hN (q 27)) rfl (c (oq hN 28 (fo 1002 6 [4] hN underlying35 6 tyS3 (q 2)) (OptL.keep (by rfl) OptL.nil) (GuardV.plain _)) rfl (c (oq hN 28 (la hN 35 tyS3 (q 29)) (OptL.opt OptL.nil) (GuardV.plain _)) rfl (c (oq hN 28 (fo 1003 6 [4] hN underlying35 6 tyS3 (q 3)) (OptL.keep (by rfl) OptL.nil) (GuardV.plain _)) rfl (c (oq hN 28 (la hN 35 tyS3 (q 31)) (OptL.opt OptL.nil) (GuardV.plain _)) rfl (c (oq hN 28 (neqI (L rfl) (q 30) (q 32)) (OptL.opt (OptL.opt OptL.nil)) (GuardV.plain _)) rfl (c (pickOr rfl (L rfl) (q 28) (q 33)) rfl (c (mv hN (q 34)) rfl (c (oq hN 35 (fo 1002 7 [5] hN underlying35 7 tyS3 (q 2)) (OptL.keep (by rfl) OptL.nil) (GuardV.plain _)) rfl (c (oq hN 35 (la hN 35 tyS3 (q 36)) (OptL.opt OptL.nil) (GuardV.plain _)) rfl (c (oq hN 35 (fo 1003 7 [5] hN underlying35 7 tyS3 (q 3)) (OptL.keep (by rfl) OptL.nil) (GuardV.plain _)) rfl (c (oq hN 35 (la hN 35 tyS3 (q 38)) (OptL.opt OptL.nil) (GuardV.plain _)) rfl (c (oq hN 35 (neqI (L rfl) (q 37) (q 39)) (OptL.opt (OptL.opt OptL.nil)) (GuardV.plain _)) rfl (c (pickOr rfl (L rfl) (q 35) (q 40)) rfl (c (mv hN (q 41)) rfl (c (oq hN 42 (fo 1002 1 [1] hN underlying35 1 tyS30 (q 2)) (OptL.keep (by rfl) OptL.nil) (GuardV.plain _)) rfl (c (oq hN 42 (la hN 35 tyS30 (q 43)) (OptL.opt OptL.nil) (GuardV.plain _)) rfl (c (oq hN 42 (OpJ.val (v':=(i6 (a0.fPath.length:Int))) (by simp) (lenD underlying30 (L rfl) (q 44))) (OptL.opt OptL.nil) (GuardV.plain _)) rfl (c (oq hN 42 (fo 1003 1 [1] hN underlying35 1 tyS30 (q 3)) (OptL.keep (by rfl) OptL.nil) (GuardV.plain _)) rfl (c (oq hN 42 (la hN 35 tyS30 (q 46)) (OptL.opt OptL.nil) (GuardV.plain _)) rfl (c (oq hN 42 (OpJ.val (v':=(i6 (a1.fPath.length:Int))) (by simp) (lenD underlying30 (L rfl) (q 47))) (OptL.opt OptL.nil) (GuardV.plain _)) rfl (c (oq hN 42 (neqI (L rfl) (q 45) (q 48)) (OptL.opt (OptL.opt OptL.nil)) (GuardV.plain _)) rfl (c (pickOr rfl (L rfl) (q 42) (q 49)) rfl (c (mv hN (q 50)) rfl (c (oq hN 51 (fo 1002 8 [6] hN underlying35 8 tyS31 (q 2)) (OptL.keep (by rfl) OptL.nil) (GuardV.plain _)) rfl (c (oq hN 51 (la hN 35 tyS31 (q 52)) (OptL.opt OptL.nil) (GuardV.plain _)) rfl (c (oq hN 51 (OpJ.val (v':=(i6 (a0.fCommunities.length:Int))) (by simp) (lenD underlying31 (L rfl) (q 53))) (OptL.opt OptL.nil) (GuardV.plain _)) rfl (c (oq hN 51 (fo 1003 8 [6] hN underlying35 8 tyS31 (q 3)) (OptL.keep (by rfl) OptL.nil) (GuardV.plain _)) rfl (c (oq hN 51 (la hN 35 tyS31 (q 55)) (OptL.opt OptL.nil) (GuardV.plain _)) rfl (c (oq hN 51 (OpJ.val (v':=(i6 (a1.fCommunities.length:Int))) (by simp) (lenD underlying31 (L rfl) (q 56))) (OptL.opt OptL.nil) (GuardV.plain _)) rfl (c (oq hN 51 (neqI (L rfl) (q 54) (q 57)) (OptL.opt (OptL.opt OptL.nil)) (GuardV.plain _)) rfl (c (pickOr rfl (L rfl) (q 51) (q 58)) rfl (c (mv hN (q 59)) rfl (c (oq hN 60 (fo 1002 9 [7] hN underlying35 9 tyS32 (q 2)) (OptL.keep (by rfl) OptL.nil) (GuardV.plain _)) rfl (c (oq hN 60 (la hN 35 tyS32 (q 61)) (OptL.opt OptL.nil) (GuardV.plain _)) rfl (c (oq hN 60 (OpJ.val (v':=(i6 (a0.fLarge.length:Int))) (by simp) (lenD underlying32 (L rfl) (q 62))) (OptL.opt OptL.nil) (GuardV.plain _)) rfl (c (oq hN 60 (fo 1003 9 [7] hN underlying35 9 tyS32 (q 3)) (OptL.keep (by rfl) OptL.nil) (GuardV.plain _)) rfl (c (oq hN 60 (la hN 35 tyS32 (q 64)) (OptL.opt OptL.nil) (GuardV.plain _)) rfl (c (oq hN 60 (OpJ.val (v':=(i6 (a1.fLarge.length:Int))) (by simp) (lenD underlying32 (L rfl) (q 65))) (OptL.opt OptL.nil) (GuardV.plain _)) rfl (c (oq hN 60 (neqI (L rfl) (q 63) (q 66)) (OptL.opt (OptL.opt OptL.nil)) (GuardV.plain _)) rfl (c (pickOr rfl (L rfl) (q 60) (q 67)) rfl (c (mv hN (q 68)) rfl (c (oq hN 69 (fo 1002 10 [8] hN underlying35 10 tyS33 (q 2)) (OptL.keep (by rfl) OptL.nil) (GuardV.plain _)) rfl (c (oq hN 69 (la hN 35 tyS33 (q 70)) (OptL.opt OptL.nil) (GuardV.plain _)) rfl (c (oq hN 69 (OpJ.val (v':=(i6 (a0.fOther.length:Int))) (by simp) (lenD underlying33 (L rfl) (q 71))) (OptL.opt OptL.nil) (GuardV.plain _)) rfl (c (oq hN 69 (fo 1003 10 [8] hN underlying35 10 tyS33 (q 3)) (OptL.keep (by rfl) OptL.nil) (GuardV.plain _)) rfl (c (oq hN 69 (la hN 35 tyS33 (q 73)) (OptL.opt OptL.nil) (GuardV.plain _)) rfl (c (oq hN 69 (OpJ.val (v':=(i6 (a1.fOther.length:Int))) (by simp) (lenD underlying33 (L rfl) (q 74))) (OptL.opt OptL.nil) (GuardV.plain _)) rfl (c (oq hN 69 (neqI (L rfl) (q 72) (q 75)) (OptL.opt (OptL.opt OptL.nil)) (GuardV.plain _)) rfl (c (pickOr rfl (L rfl) (q 69) (q 76)) rfl cn)))))))))))))))))))))))))))))))))))))))))))))))))))))))))))))))))))))
 apply AWp.cond rfl<;>intro hg1
 ·have h:=A3 hg1 h
  refine sr (SQ tt) ?_
  apply AWp.ret
  apply B5
  obtain rfl:=oi h
  exact rt (kp [(4,_)] [] hB rfl rfl (by rfl)) [(bo false)] (Res.tmp (by rfl) (by rfl) Res.nil) rfl
 ·have h:=A4 hg1 h
  apply AWp.skip
  apply A0
  apply AWp.seq
  refine sr (SQ tt) ?_
  apply AWp.block
  obtain⟨x59,hx60,h⟩:=bindS h
  refine lg (G7 a0 a1) (fun s2:Int=>([(2,(pt 1002)),(3,(pt 1003)),(80,(i6 (a0.fPath.length:Int))),(81,(i6 s2))]:EL)) (fun s2:Int=>([(1002,bd 35 (B1 a0)),(1003,bd 35 (B1 a1))]:OL)) (fun(x:(Unit)⊕(Unit)) e E' O'=>match x with | (.inl _p)=>e = .ret∧Mat B E' O' ([(4,(bo false))]:EL) ([]:OL) | (.inr _p)=>e = .exit 0∧Mat B E' O' ([(2,(pt 1002)),(3,(pt 1003))]:EL) ([(1002,bd 35 (B1 a0)),(1003,bd 35 (B1 a1))]:OL)) hx60 (mp [] _ _ hB) (fun s2 y h => ?_) (fun e E' O' hR => ?_)
  ·unfold G7 at h
   refine sr (SQ tt) ?_
   apply AWp.seq
   apply AWp.cond rfl<;>intro hg41
   ·have h:=A3 hg41 h
    apply AWp.skip
    apply A0
    apply AWp.seq
    apply AWp.block
    refine sr (SQ tt) ?_
    apply AWp.seq
    refine AWp.cut h (fun m50:Bool=>([(2,(pt 1002)),(3,(pt 1003)),(80,(i6 (a0.fPath.length:Int))),(81,(i6 s2)),(112,(bo m50))]:EL)) (fun m50:Bool=>([(1002,bd 35 (B1 a0)),(1003,bd 35 (B1 a1))]:OL)) (fun m50 h E' O' hmat => ?_) (fun j51 hjj51 h => ?_)
    ·apply A0
     refine AWp.ghost hmat ?_
     apply AWp.cond rfl<;>intro hg52
     ·have h:=A3 hg52 h
      refine sr (SQ tt) ?_
      apply AWp.ret
      apply D5
      apply B5
      obtain rfl:=oi h
      exact⟨(fun hc=>by cases hc),rfl,(mp [] _ _ hB)⟩
     ·have h:=A4 hg52 h
      apply AWp.skip
      apply E4
      apply A0
      refine rg (SQ tt) ?_
      obtain rfl:=oi h
      exact⟨rfl,(mp [] _ _ hB)⟩
    ·obtain⟨x53,hx53,h⟩:=bindS h
     obtain⟨x54,hx54,h⟩:=bindS h
     rcases bft (x53.fSet != x54.fSet) with hg55 | hg55
     ·have h:=A3 hg55 h
      refine drS (SQ (fa hx53 (fa hx54 (fa hg55 tt)))) ?_
      exact hjj51 _ h _ _ (mp [] _ _ hB)
     ·have h:=A4 hg55 h
      obtain⟨x56,hx56,h⟩:=bindS h
      obtain⟨x57,hx57,h⟩:=bindS h
      obtain⟨r58,hr58,h⟩:=bindS h
      refine drS (SQ (fa hx53 (fa hx54 (fa hg55 (fa hx56 (fa hx57 (fa (cl [] (A6g x56.fASNs x57.fASNs r58 hr58)) tt))))))) ?_
      exact hjj51 _ h _ _ (mp [] _ _ hB)
   ·have h:=A4 hg41 h
    apply AWp.exit
    apply E5
    obtain rfl:=oi h
    exact⟨(fun hc=>by cases hc),rfl,(mp [] _ _ hB)⟩
  ·rcases x59 with _ | _
   ·obtain⟨rfl,hmat⟩:=hR
    apply D5
    apply B5
    obtain rfl:=oi h
    exact rt (Mat.trans hmat (mp [] [(4,(bo false))] [] hB)) [(bo false)] (Res.tmp (by rfl) (by rfl) Res.nil) rfl
   ·obtain⟨rfl,hmat⟩:=hR
    apply C2
    apply A0
    refine AWp.ghost hmat ?_
    apply AWp.seq
    refine sr (SQ tt) ?_
    apply AWp.block
    obtain⟨x76,hx77,h⟩:=bindS h
    refine lg (I3 a0 a1) (fun s61:Int=>([(2,(pt 1002)),(3,(pt 1003)),(116,(i6 (a0.fCommunities.length:Int))),(117,(i6 s61))]:EL)) (fun s61:Int=>([(1002,bd 35 (B1 a0)),(1003,bd 35 (B1 a1))]:OL)) (fun(x:(Unit)⊕(Unit)) e E' O'=>match x with | (.inl _p)=>e = .ret∧Mat B E' O' ([(4,(bo false))]:EL) ([]:OL) | (.inr _p)=>e = .exit 2∧Mat B E' O' ([(2,(pt 1002)),(3,(pt 1003))]:EL) ([(1002,bd 35 (B1 a0)),(1003,bd 35 (B1 a1))]:OL)) hx77 (mp [] _ _ hB) (fun s61 y h => ?_) (fun e E' O' hR => ?_)
    ·unfold I3 at h
     refine sr (SQ tt) ?_
     apply AWp.seq
     apply AWp.cond rfl<;>intro hg72
     ·have h:=A3 hg72 h
      apply AWp.skip
      apply A0
      apply AWp.seq
      apply AWp.block
      refine sr (SQ tt) ?_
      obtain⟨x73,hx73,h⟩:=bindS h
      obtain⟨x74,hx74,h⟩:=bindS h
      apply sd (c (fo 1002 8 [6] hN underlying35 8 tyS31 (q 2)) rfl (c (la hN 35 tyS31 (q 120)) rfl (c (mv hN (q 6)) rfl (c (indexD underlying31 tyS98 (D7 hx73).1 (H2 B4 (D7 hx73).2) (L rfl) (q 121) (q 122)) rfl (c (loadD tyS98 (by rfl) (by rfl) (L rfl) (q 123)) rfl (c (fo 1003 8 [6] hN underlying35 8 tyS31 (q 3)) rfl (c (la hN 35 tyS31 (q 125)) rfl (c (mv hN (q 6)) rfl (c (indexD underlying31 tyS98 (D7 hx74).1 (H2 B4 (D7 hx74).2) (L rfl) (q 126) (q 127)) rfl (c (loadD tyS98 (by rfl) (by rfl) (L rfl) (q 128)) rfl (c (OpJ.neqD (h:=2) (FitE.st underlying98 rfl held98 (FitF.cons (x:=(.int .i64 x73.fA)) (y:=(.int .i64 x74.fA)) (by decide) rfl tyS3 ⟨rfl,rfl⟩ ⟨rfl,rfl⟩ (FitE.int (h:=0) x73.fA x74.fA underlying3) (FitF.cons (x:=(.int .i64 x73.fB)) (y:=(.int .i64 x74.fB)) (by decide) rfl tyS3 ⟨rfl,rfl⟩ ⟨rfl,rfl⟩ (FitE.int (h:=0) x73.fB x74.fB underlying3) FitF.nil))) eqg98 ⟨rfl,rfl⟩ (by rfl) (L rfl) (q 124) (q 129)) rfl cn))))))))))) (by kernel_rfl) (by kernel_rfl)
      apply AWp.cond rfl<;>intro hg75
      ·have h:=A3 hg75 h
       refine sr (SQ tt) ?_
       apply AWp.ret
       apply D5
       apply B5
       obtain rfl:=oi h
       exact⟨(fun hc=>by cases hc),rfl,(mp [] _ _ hB)⟩
      ·have h:=A4 hg75 h
       apply AWp.skip
       apply E4
       apply A0
       refine rg (SQ tt) ?_
       obtain rfl:=oi h
       exact⟨rfl,(mp [] _ _ hB)⟩
     ·have h:=A4 hg72 h
      apply AWp.exit
      apply E5
      obtain rfl:=oi h
      exact⟨(fun hc=>by cases hc),rfl,(mp [] _ _ hB)⟩
    ·rcases x76 with _ | _
     ·obtain⟨rfl,hmat⟩:=hR
      apply D5
      apply B5
      obtain rfl:=oi h
      exact rt (Mat.trans hmat (mp [] [(4,(bo false))] [] hB)) [(bo false)] (Res.tmp (by rfl) (by rfl) Res.nil) rfl
     ·obtain⟨rfl,hmat⟩:=hR
      apply C2
      apply A0
      refine AWp.ghost hmat ?_
      apply AWp.seq
      refine sr (SQ tt) ?_
      apply AWp.block
      obtain⟨x93,hx94,h⟩:=bindS h
      refine lg (I4 a0 a1) (fun s78:Int=>([(2,(pt 1002)),(3,(pt 1003)),(134,(i6 (a0.fLarge.length:Int))),(135,(i6 s78))]:EL)) (fun s78:Int=>([(1002,bd 35 (B1 a0)),(1003,bd 35 (B1 a1))]:OL)) (fun(x:(Unit)⊕(Unit)) e E' O'=>match x with | (.inl _p)=>e = .ret∧Mat B E' O' ([(4,(bo false))]:EL) ([]:OL) | (.inr _p)=>e = .exit 4∧Mat B E' O' ([(2,(pt 1002)),(3,(pt 1003))]:EL) ([(1002,bd 35 (B1 a0)),(1003,bd 35 (B1 a1))]:OL)) hx94 (mp [] _ _ hB) (fun s78 y h => ?_) (fun e E' O' hR => ?_)
      ·unfold I4 at h
       refine sr (SQ tt) ?_
       apply AWp.seq
       apply AWp.cond rfl<;>intro hg89
       ·have h:=A3 hg89 h
        apply AWp.skip
        apply A0
        apply AWp.seq
        apply AWp.block
        refine sr (SQ tt) ?_
        obtain⟨x90,hx90,h⟩:=bindS h
        obtain⟨x91,hx91,h⟩:=bindS h
        apply sd (c (fo 1002 9 [7] hN underlying35 9 tyS32 (q 2)) rfl (c (la hN 35 tyS32 (q 138)) rfl (c (mv hN (q 7)) rfl (c (indexD underlying32 tyS100 (D7 hx90).1 (H2 D9 (D7 hx90).2) (L rfl) (q 139) (q 140)) rfl (c (loadD tyS100 (by rfl) (by rfl) (L rfl) (q 141)) rfl (c (fo 1003 9 [7] hN underlying35 9 tyS32 (q 3)) rfl (c (la hN 35 tyS32 (q 143)) rfl (c (mv hN (q 7)) rfl (c (indexD underlying32 tyS100 (D7 hx91).1 (H2 D9 (D7 hx91).2) (L rfl) (q 144) (q 145)) rfl (c (loadD tyS100 (by rfl) (by rfl) (L rfl) (q 146)) rfl (c (OpJ.neqD (h:=2) (FitE.st underlying100 rfl held100 (FitF.cons (x:=(.int .i64 x90.fA)) (y:=(.int .i64 x91.fA)) (by decide) rfl tyS3 ⟨rfl,rfl⟩ ⟨rfl,rfl⟩ (FitE.int (h:=0) x90.fA x91.fA underlying3) (FitF.cons (x:=(.int .i64 x90.fB)) (y:=(.int .i64 x91.fB)) (by decide) rfl tyS3 ⟨rfl,rfl⟩ ⟨rfl,rfl⟩ (FitE.int (h:=0) x90.fB x91.fB underlying3) (FitF.cons (x:=(.int .i64 x90.fC)) (y:=(.int .i64 x91.fC)) (by decide) rfl tyS3 ⟨rfl,rfl⟩ ⟨rfl,rfl⟩ (FitE.int (h:=0) x90.fC x91.fC underlying3) FitF.nil)))) eqg100 ⟨rfl,rfl⟩ (by rfl) (L rfl) (q 142) (q 147)) rfl cn))))))))))) (by kernel_rfl) (by kernel_rfl)
        apply AWp.cond rfl<;>intro hg92
        ·have h:=A3 hg92 h
         refine sr (SQ tt) ?_
         apply AWp.ret
         apply D5
         apply B5
         obtain rfl:=oi h
         exact⟨(fun hc=>by cases hc),rfl,(mp [] _ _ hB)⟩
        ·have h:=A4 hg92 h
         apply AWp.skip
         apply E4
         apply A0
         refine rg (SQ tt) ?_
         obtain rfl:=oi h
         exact⟨rfl,(mp [] _ _ hB)⟩
       ·have h:=A4 hg89 h
        apply AWp.exit
        apply E5
        obtain rfl:=oi h
        exact⟨(fun hc=>by cases hc),rfl,(mp [] _ _ hB)⟩
      ·rcases x93 with _ | _
       ·obtain⟨rfl,hmat⟩:=hR
        apply D5
        apply B5
        obtain rfl:=oi h
        exact rt (Mat.trans hmat (mp [] [(4,(bo false))] [] hB)) [(bo false)] (Res.tmp (by rfl) (by rfl) Res.nil) rfl
       ·obtain⟨rfl,hmat⟩:=hR
        apply C2
        apply A0
        refine AWp.ghost hmat ?_
        apply AWp.seq
        refine sr (SQ tt) ?_
        apply AWp.block
        obtain⟨x164,hx165,h⟩:=bindS h
        refine lg (I5 a0 a1) (fun s95:Int=>([(2,(pt 1002)),(3,(pt 1003)),(152,(i6 (a0.fOther.length:Int))),(153,(i6 s95))]:EL)) (fun s95:Int=>([(1002,bd 35 (B1 a0)),(1003,bd 35 (B1 a1))]:OL)) (fun(x:(Unit)⊕(Unit)) e E' O'=>match x with | (.inl _p)=>e = .ret∧Mat B E' O' ([(4,(bo false))]:EL) ([]:OL) | (.inr _p)=>e = .exit 6∧Mat B E' O' ([]:EL) ([]:OL)) hx165 (mp [] _ _ hB) (fun s95 y h => ?_) (fun e E' O' hR => ?_)
        ·unfold I5 at h
         refine sr (SQ tt) ?_
         apply AWp.seq
         apply AWp.cond rfl<;>intro hg142
         ·have h:=A3 hg142 h
          apply AWp.skip
          apply A0
          apply AWp.seq
          apply AWp.block
          refine sr (SQ tt) ?_
          apply AWp.seq
          refine AWp.cut h (fun m153:Bool=>([(2,(pt 1002)),(3,(pt 1003)),(152,(i6 (a0.fOther.length:Int))),(153,(i6 s95)),(200,(bo m153))]:EL)) (fun m153:Bool=>([(1002,bd 35 (B1 a0)),(1003,bd 35 (B1 a1))]:OL)) (fun m153 h E' O' hmat => ?_) (fun j154 hjj154 h => ?_)
          ·apply A0
           refine AWp.ghost hmat ?_
           apply AWp.cond rfl<;>intro hg155
           ·have h:=A3 hg155 h
            refine sr (SQ tt) ?_
            apply AWp.ret
            apply D5
            apply B5
            obtain rfl:=oi h
            exact⟨(fun hc=>by cases hc),rfl,(mp [] _ _ hB)⟩
           ·have h:=A4 hg155 h
            apply AWp.skip
            apply E4
            apply A0
            refine rg (SQ tt) ?_
            obtain rfl:=oi h
            exact⟨rfl,(mp [] _ _ hB)⟩
          ·obtain⟨x156,hx156,h⟩:=bindS h
           obtain⟨x157,hx157,h⟩:=bindS h
           rcases bft (x156.fFlags != x157.fFlags) with hg158 | hg158
           ·have h:=A3 hg158 h
            refine drS (SQ (fa hx156 (fa hx157 (fa hg158 tt)))) ?_
            exact hjj154 _ h _ _ (mp [] _ _ hB)
           ·have h:=A4 hg158 h
            obtain⟨x159,hx159,h⟩:=bindS h
            obtain⟨x160,hx160,h⟩:=bindS h
            rcases bft (x159.fType != x160.fType) with hg161 | hg161
            ·have h:=A3 hg161 h
             refine drS (SQ (fa hx156 (fa hx157 (fa hg158 (fa hx159 (fa hx160 (fa hg161 tt))))))) ?_
             exact hjj154 _ h _ _ (mp [] _ _ hB)
            ·have h:=A4 hg161 h
             obtain⟨x162,hx162,h⟩:=bindS h
             obtain⟨x163,hx163,h⟩:=bindS h
             apply dr (c (fo 1002 10 [8] hN underlying35 10 tyS33 (q 2)) rfl (c (la hN 35 tyS33 (q 156)) rfl (c (mv hN (q 8)) rfl (c (indexD underlying33 tyS69 (D7 hx156).1 (H2 A8 (D7 hx156).2) (L rfl) (q 157) (q 158)) rfl (c (fieldD underlying69 (by rfl) (o:=0) (by rfl) tyS3 (by decide) (by rfl) (by rfl) (L rfl) (q 159)) rfl (c (loadD tyS3 (by rfl) (by rfl) (L rfl) (q 160)) rfl (c (fo 1003 10 [8] hN underlying35 10 tyS33 (q 3)) rfl (c (la hN 35 tyS33 (q 162)) rfl (c (mv hN (q 8)) rfl (c (indexD underlying33 tyS69 (D7 hx157).1 (H2 A8 (D7 hx157).2) (L rfl) (q 163) (q 164)) rfl (c (fieldD underlying69 (by rfl) (o:=0) (by rfl) tyS3 (by decide) (by rfl) (by rfl) (L rfl) (q 165)) rfl (c (loadD tyS3 (by rfl) (by rfl) (L rfl) (q 166)) rfl (c (neqI (L rfl) (q 161) (q 167)) rfl (c (OpJ.val (v':=.d (.bool false)) (by rw [hg158]<;>rfl) (mv hN (q 168))) rfl (c (gd 169 (fo 1002 10 [8] hN underlying35 10 tyS33 (q 2))) rfl (c (gd 169 (la hN 35 tyS33 (q 170))) rfl (c (gd 169 (mv hN (q 8))) rfl (c (gd 169 (indexD underlying33 tyS69 (D7 hx159).1 (H2 A8 (D7 hx159).2) (L rfl) (q 171) (q 172))) rfl (c (gd 169 (fieldD underlying69 (by rfl) (o:=1) (by rfl) tyS3 (by decide) (by rfl) (by rfl) (L rfl) (q 173))) rfl (c (gd 169 (loadD tyS3 (by rfl) (by rfl) (L rfl) (q 174))) rfl (c (gd 169 (fo 1003 10 [8] hN underlying35 10 tyS33 (q 3))) rfl (c (gd 169 (la hN 35 tyS33 (q 176))) rfl (c (gd 169 (mv hN (q 8))) rfl (c (gd 169 (indexD underlying33 tyS69 (D7 hx160).1 (H2 A8 (D7 hx160).2) (L rfl) (q 177) (q 178))) rfl (c (gd 169 (fieldD underlying69 (by rfl) (o:=1) (by rfl) tyS3 (by decide) (by rfl) (by rfl) (L rfl) (q 179))) rfl (c (gd 169 (loadD tyS3 (by rfl) (by rfl) (L rfl) (q 180))) rfl (c (gd 169 (neqI (L rfl) (q 175) (q 181))) rfl (c (pickF (L rfl) (q 169) (q 182)) rfl (c (OpJ.val (v':=.d (.bool false)) (by rw [hg161]<;>rfl) (mv hN (q 183))) rfl (c (gd 184 (fo 1002 10 [8] hN underlying35 10 tyS33 (q 2))) rfl (c (gd 184 (la hN 35 tyS33 (q 185))) rfl (c (gd 184 (mv hN (q 8))) rfl (c (gd 184 (indexD underlying33 tyS69 (D7 hx162).1 (H2 A8 (D7 hx162).2) (L rfl) (q 186) (q 187))) rfl (c (gd 184 (fieldD underlying69 (by rfl) (o:=2) (by rfl) tyS67 (by decide) (by rfl) (by rfl) (L rfl) (q 188))) rfl (c (gd 184 (loadD tyS67 (by rfl) (by rfl) (L rfl) (q 189))) rfl (cg (gd 184 (OpJ.bytesStr (xs:=x162.fData) tyU67 underlying5 underlying9 (L rfl) (q 190))) rfl (c (gd 184 (fo 1003 10 [8] hN underlying35 10 tyS33 (q 3))) rfl (c (gd 184 (la hN 35 tyS33 (q 192))) rfl (c (gd 184 (mv hN (q 8))) rfl (c (gd 184 (indexD underlying33 tyS69 (D7 hx163).1 (H2 A8 (D7 hx163).2) (L rfl) (q 193) (q 194))) rfl (c (gd 184 (fieldD underlying69 (by rfl) (o:=2) (by rfl) tyS67 (by decide) (by rfl) (by rfl) (L rfl) (q 195))) rfl (c (gd 184 (loadD tyS67 (by rfl) (by rfl) (L rfl) (q 196))) rfl (cg (gd 184 (OpJ.bytesStr (xs:=x163.fData) tyU67 underlying5 underlying9 (L rfl) (q 197))) rfl (cg (gd 184 (OpJ.neqS (L rfl) (q 191) (q 198))) rfl (c (pickF (L rfl) (q 184) (q 199)) rfl cn))))))))))))))))))))))))))))))))))))))))))))) (by kernel_rfl) (by kernel_rfl)
             exact hjj154 _ h _ _ (mp [] _ _ hB)
         ·have h:=A4 hg142 h
          apply AWp.exit
          apply E5
          obtain rfl:=oi h
          exact⟨(fun hc=>by cases hc),rfl,(mp [] _ _ hB)⟩
        ·rcases x164 with _ | _
         ·obtain⟨rfl,hmat⟩:=hR
          apply D5
          apply B5
          obtain rfl:=oi h
          exact rt (Mat.trans hmat (mp [] [(4,(bo false))] [] hB)) [(bo false)] (Res.tmp (by rfl) (by rfl) Res.nil) rfl
         ·obtain⟨rfl,hmat⟩:=hR
          apply C2
          apply A0
          refine AWp.ghost hmat ?_
          refine sr (SQ tt) ?_
          apply AWp.ret
          obtain rfl:=oi h
          exact rt (kp [(4,_)] [] hB rfl rfl (by rfl)) [(bo true)] (Res.tmp (by rfl) (by rfl) Res.nil) rfl
def J6 (a0:D0) (a1:D0):Option (Bool) :=
 jn (fun m3:Bool =>
 some m3) (fun j4 =>
 (if ((((a0.fPrefix.fAddr.fV6==a1.fPrefix.fAddr.fV6)&&((a0.fPrefix.fAddr.fHi==a1.fPrefix.fAddr.fHi)&&((a0.fPrefix.fAddr.fLo==a1.fPrefix.fAddr.fLo)&&true)))&&((a0.fPrefix.fLen==a1.fPrefix.fLen)&&true))&&(a0.fFrom==a1.fFrom))=true then
 (H6 a0.fAttrs a1.fAttrs).bind fun r6 =>
 j4 r6
 else
 j4 false))
theorem A2u (a0:D0) (a1:D0) (r:Bool) (h:J6 a0 a1=some r):AC Tryz.prog 19 [(.d (G5 a0)),(.d (G5 a1))] [] (.d (.bool r)) []:=by
 refine ac2 Tryz.func19 rfl rfl fun B hB hN L => ?_
 delta J6 at h
 refine sr (SQ tt) ?_
 apply AWp.seq
 refine AWp.cut h (fun m3:Bool=>([(4,(bo m3))]:EL)) (fun m3:Bool=>([]:OL)) (fun m3 h E' O' hmat => ?_) (fun j4 hjj4 h => ?_)
 ·apply A0
  refine AWp.ghost hmat ?_
  apply AWp.ret
  obtain rfl:=oi h
  exact rt (kp [(4,_)] [] hB rfl rfl (by rfl)) [(bo m3)] (Res.tmp (by rfl) (by rfl) Res.nil) rfl
 ·rcases bft ((((a0.fPrefix.fAddr.fV6==a1.fPrefix.fAddr.fV6)&&((a0.fPrefix.fAddr.fHi==a1.fPrefix.fAddr.fHi)&&((a0.fPrefix.fAddr.fLo==a1.fPrefix.fAddr.fLo)&&true)))&&((a0.fPrefix.fLen==a1.fPrefix.fLen)&&true))&&(a0.fFrom==a1.fFrom)) with hg5 | hg5
  ·have h:=A3 hg5 h
   obtain⟨r6,hr6,h⟩:=bindS h
   apply rg (c (fo 1002 0 [0] hN underlying37 0 tyS29 (q 2)) rfl (c (la hN 37 tyS29 (q 5)) rfl (c (fo 1003 0 [0] hN underlying37 0 tyS29 (q 3)) rfl (c (la hN 37 tyS29 (q 7)) rfl (c (OpJ.eqlD (h:=3) (FitE.st underlying29 rfl held29 (FitF.cons (x:=(C1 a0.fPrefix.fAddr)) (y:=(C1 a1.fPrefix.fAddr)) (by decide) rfl tyS27 ⟨rfl,rfl⟩ ⟨rfl,rfl⟩ (FitE.st underlying27 rfl held27 (FitF.cons (x:=(.bool a0.fPrefix.fAddr.fV6)) (y:=(.bool a1.fPrefix.fAddr.fV6)) (by decide) rfl tyS4 ⟨rfl,rfl⟩ ⟨rfl,rfl⟩ (FitE.bool (h:=0) a0.fPrefix.fAddr.fV6 a1.fPrefix.fAddr.fV6 underlying4) (FitF.cons (x:=(.int .u64 a0.fPrefix.fAddr.fHi)) (y:=(.int .u64 a1.fPrefix.fAddr.fHi)) (by decide) rfl tyS25 ⟨rfl,rfl⟩ ⟨rfl,rfl⟩ (FitE.int (h:=0) a0.fPrefix.fAddr.fHi a1.fPrefix.fAddr.fHi underlying25) (FitF.cons (x:=(.int .u64 a0.fPrefix.fAddr.fLo)) (y:=(.int .u64 a1.fPrefix.fAddr.fLo)) (by decide) rfl tyS25 ⟨rfl,rfl⟩ ⟨rfl,rfl⟩ (FitE.int (h:=0) a0.fPrefix.fAddr.fLo a1.fPrefix.fAddr.fLo underlying25) FitF.nil)))) (FitF.cons (x:=(.int .i64 a0.fPrefix.fLen)) (y:=(.int .i64 a1.fPrefix.fLen)) (by decide) rfl tyS3 ⟨rfl,rfl⟩ ⟨rfl,rfl⟩ (FitE.int (h:=1) a0.fPrefix.fLen a1.fPrefix.fLen underlying3) FitF.nil))) eqg29 ⟨rfl,rfl⟩ (by rfl) (L rfl) (q 6) (q 8)) rfl (c (mv hN (q 9)) rfl (c (oq hN 10 (fo 1002 4 [1] hN underlying37 4 tyS3 (q 2)) (OptL.keep (by rfl) OptL.nil) (GuardV.plain _)) rfl (c (oq hN 10 (la hN 37 tyS3 (q 11)) (OptL.opt OptL.nil) (GuardV.plain _)) rfl (c (oq hN 10 (fo 1003 4 [1] hN underlying37 4 tyS3 (q 3)) (OptL.keep (by rfl) OptL.nil) (GuardV.plain _)) rfl (c (oq hN 10 (la hN 37 tyS3 (q 13)) (OptL.opt OptL.nil) (GuardV.plain _)) rfl (c (oq hN 10 (eqlI (L rfl) (q 12) (q 14)) (OptL.opt (OptL.opt OptL.nil)) (GuardV.plain _)) rfl (c (pickAnd rfl (L rfl) (q 10) (q 15)) rfl (c (OpJ.val (v':=.d (.bool true)) (by rw [hg5]<;>rfl) (mv hN (q 16))) rfl (c (gd 17 (fo 1002 5 [2] hN underlying37 5 tyS35 (q 2))) rfl (c (gd 17 (la hN 37 tyS35 (q 18))) rfl (c (gd 17 (fo 1003 5 [2] hN underlying37 5 tyS35 (q 3))) rfl (c (gd 17 (la hN 37 tyS35 (q 20))) rfl (cg (gd 17 (cf hB fnOk22 (A62 a0.fAttrs a1.fAttrs r6 hr6) (L rfl) (OpdL.cons (q 19) (OpdL.cons (q 21) OpdL.nil)))) rfl (c (pickT (L rfl) (q 17) (q 22)) rfl (c (assign (L rfl) (q 23)) rfl cn))))))))))))))))))))
   exact hjj4 _ h _ _ (mp [] _ _ hB)
  ·have h:=A4 hg5 h
   apply rg (c (fo 1002 0 [0] hN underlying37 0 tyS29 (q 2)) rfl (c (la hN 37 tyS29 (q 5)) rfl (c (fo 1003 0 [0] hN underlying37 0 tyS29 (q 3)) rfl (c (la hN 37 tyS29 (q 7)) rfl (c (OpJ.eqlD (h:=3) (FitE.st underlying29 rfl held29 (FitF.cons (x:=(C1 a0.fPrefix.fAddr)) (y:=(C1 a1.fPrefix.fAddr)) (by decide) rfl tyS27 ⟨rfl,rfl⟩ ⟨rfl,rfl⟩ (FitE.st underlying27 rfl held27 (FitF.cons (x:=(.bool a0.fPrefix.fAddr.fV6)) (y:=(.bool a1.fPrefix.fAddr.fV6)) (by decide) rfl tyS4 ⟨rfl,rfl⟩ ⟨rfl,rfl⟩ (FitE.bool (h:=0) a0.fPrefix.fAddr.fV6 a1.fPrefix.fAddr.fV6 underlying4) (FitF.cons (x:=(.int .u64 a0.fPrefix.fAddr.fHi)) (y:=(.int .u64 a1.fPrefix.fAddr.fHi)) (by decide) rfl tyS25 ⟨rfl,rfl⟩ ⟨rfl,rfl⟩ (FitE.int (h:=0) a0.fPrefix.fAddr.fHi a1.fPrefix.fAddr.fHi underlying25) (FitF.cons (x:=(.int .u64 a0.fPrefix.fAddr.fLo)) (y:=(.int .u64 a1.fPrefix.fAddr.fLo)) (by decide) rfl tyS25 ⟨rfl,rfl⟩ ⟨rfl,rfl⟩ (FitE.int (h:=0) a0.fPrefix.fAddr.fLo a1.fPrefix.fAddr.fLo underlying25) FitF.nil)))) (FitF.cons (x:=(.int .i64 a0.fPrefix.fLen)) (y:=(.int .i64 a1.fPrefix.fLen)) (by decide) rfl tyS3 ⟨rfl,rfl⟩ ⟨rfl,rfl⟩ (FitE.int (h:=1) a0.fPrefix.fLen a1.fPrefix.fLen underlying3) FitF.nil))) eqg29 ⟨rfl,rfl⟩ (by rfl) (L rfl) (q 6) (q 8)) rfl (c (mv hN (q 9)) rfl (c (oq hN 10 (fo 1002 4 [1] hN underlying37 4 tyS3 (q 2)) (OptL.keep (by rfl) OptL.nil) (GuardV.plain _)) rfl (c (oq hN 10 (la hN 37 tyS3 (q 11)) (OptL.opt OptL.nil) (GuardV.plain _)) rfl (c (oq hN 10 (fo 1003 4 [1] hN underlying37 4 tyS3 (q 3)) (OptL.keep (by rfl) OptL.nil) (GuardV.plain _)) rfl (c (oq hN 10 (la hN 37 tyS3 (q 13)) (OptL.opt OptL.nil) (GuardV.plain _)) rfl (c (oq hN 10 (eqlI (L rfl) (q 12) (q 14)) (OptL.opt (OptL.opt OptL.nil)) (GuardV.plain _)) rfl (c (pickAnd rfl (L rfl) (q 10) (q 15)) rfl (c (OpJ.val (v':=.d (.bool false)) (by rw [hg5]<;>rfl) (mv hN (q 16))) rfl (ks 17 (L rfl) (ks 17 (L rfl) (ks 17 (L rfl) (ks 17 (L rfl) (ks 17 (L rfl) (c (pickF (L rfl) (q 17) (Opd.bool false)) rfl (c (assign (L rfl) (q 23)) rfl cn))))))))))))))))))))
   exact hjj4 _ h _ _ (mp [] _ _ hB)
def O6 (a0:C6) (s1:Int×(List B0)):Option ((((List B0)))⊕(Int×(List B0))) :=
 (if (decide (s1.1<(a0.fPath.length:Int)))=true then
 (idx a0.fPath s1.1).bind fun x13 =>
 chk (decide (x13.fASNs.length≤LIM)) <|
 chk (decide ((s1.2++[(B0.mk x13.fSet x13.fASNs)]).length≤LIM)) <|
 some (.inr ((w64 (s1.1+1)),(s1.2++[(B0.mk x13.fSet x13.fASNs)])))
 else
 some (.inl s1.2))
def S9 (a0:C6) (s20:Int×(List A1)):Option ((((List A1)))⊕(Int×(List A1))) :=
 (if (decide (s20.1<(a0.fOther.length:Int)))=true then
 (idx a0.fOther s20.1).bind fun x32 =>
 chk (decide (x32.fData.length≤LIM)) <|
 chk (decide ((s20.2++[(A1.mk x32.fFlags x32.fType x32.fData)]).length≤LIM)) <|
 some (.inr ((w64 (s20.1+1)),(s20.2++[(A1.mk x32.fFlags x32.fType x32.fData)])))
 else
 some (.inl s20.2))
def T4 (a0:C6):Option (C6) :=
 (loop (O6 a0) (0,([]:List B0))).bind fun p11 =>
 chk (decide (a0.fCommunities.length≤LIM)) <|
 chk (decide (a0.fLarge.length≤LIM)) <|
 (loop (S9 a0) (0,([]:List A1))).bind fun p30 =>
 some (C6.mk a0.fOrigin p11 a0.fNext a0.fMED a0.fPref a0.fOTC a0.fCommunities a0.fLarge p30)
theorem A63 (a0:C6) (r:C6) (h:T4 a0=some r):AC Tryz.prog 37 [(.d (B1 a0))] [] (.d (B1 r)) []:=by
 refine ac2 Tryz.func37 rfl rfl fun B hB hN L => ?_
 delta T4 at h
 refine sr (SQ tt) ?_
 refine sr (SQ tt) ?_
 refine sr (SQ tt) ?_
 apply AWp.seq
 refine sr (SQ tt) ?_
 apply AWp.block
 obtain⟨p11,hx17,h⟩:=bindS h
 refine lg (O6 a0) (fun s1:Int×(List B0)=>([(1,(pt 1001)),(2,(pt 1002)),(3,(pt 1003)),(12,(C0 a0.fPath)),(13,(i6 (a0.fPath.length:Int))),(14,(i6 s1.1))]:EL)) (fun s1:Int×(List B0)=>([(1001,bd 35 (B1 a0)),(1002,some (.box 35 (.st [(i6 0),.nils,(.d (.st [(.bool false),(.int .u64 0),(.int .u64 0)])),(i6 0),(i6 0),(i6 0),.nils,.nils,.nils]))),(1003,some (.box 35 (.st [(i6 a0.fOrigin),(.sref 13031 2 0 s1.2.length),(.d (C1 a0.fNext)),(i6 a0.fMED),(i6 a0.fPref),(i6 a0.fOTC),(B9 a0.fCommunities),(D8 a0.fLarge),.nils]))),(13031,some (J4 s1.2))]:OL)) (fun(p11:((List B0))) e E' O'=>e = .exit 0∧Mat B E' O' ([(1,(pt 1001)),(2,(pt 1002)),(3,(pt 1003))]:EL) ([(1001,bd 35 (B1 a0)),(1002,some (.box 35 (.st [(i6 0),.nils,(.d (.st [(.bool false),(.int .u64 0),(.int .u64 0)])),(i6 0),(i6 0),(i6 0),.nils,.nils,.nils]))),(1003,some (.box 35 (.st [(i6 a0.fOrigin),(.sref 13031 2 0 p11.length),(.d (C1 a0.fNext)),(i6 a0.fMED),(i6 a0.fPref),(i6 a0.fOTC),(B9 a0.fCommunities),(D8 a0.fLarge),.nils]))),(13031,some (J4 p11))]:OL)) hx17 (Mat.trans (Mat.beginP (n:=13031) (e:=66) (sz:=2) (Ts:=[]) (Bs:=[(1003,some (.box 35 (.st [(i6 a0.fOrigin),(.sref 13031 2 0 0),(.d (C1 a0.fNext)),(i6 a0.fMED),(i6 a0.fPref),(i6 a0.fOTC),(B9 a0.fCommunities),(D8 a0.fLarge),.nils])))]) hB (by decide) (by rfl) (by decide) TwT.nil (TwB.cons (x:=(.st [(i6 a0.fOrigin),.nils,(.d (C1 a0.fNext)),(i6 a0.fMED),(i6 a0.fPref),(i6 a0.fOTC),(B9 a0.fCommunities),(D8 a0.fLarge),.nils])) (by rfl) (Tw.st (TwL.cons (Tw.same _) (TwL.cons (Tw.leaf ⟨rfl,rfl⟩) (TwL.cons (Tw.same _) (TwL.cons (Tw.same _) (TwL.cons (Tw.same _) (TwL.cons (Tw.same _) (TwL.cons (Tw.same _) (TwL.cons (Tw.same _) (TwL.cons (Tw.same _) TwL.nil)))))))))) TwB.nil)) (mp [] _ _ hB)) (fun s1 y h => ?_) (fun e E' O' hR => ?_)
 ·unfold O6 at h
  refine sr (SQ tt) ?_
  apply AWp.seq
  apply AWp.cond rfl<;>intro hg12
  ·have h:=A3 hg12 h
   apply AWp.skip
   apply A0
   apply AWp.seq
   apply AWp.block
   obtain⟨x13,hx13,h⟩:=bindS h
   refine sr (SQ (fa hx13 tt)) ?_
   obtain⟨hc14,h⟩:=B6 h
   obtain⟨hc15,h⟩:=B6 h
   apply dr (c (fo 1003 1 [1] hN underlying35 1 tyS30 (q 3)) rfl (c (lb hN 35 _ (.sref 13031 2 0 s1.2.length) tyS30 (At.st1 (f:=(.sref 13031 2 0 s1.2.length)) (by rfl) (by rfl) (At.here _) (by first | rfl | omega)) (q 18)) rfl (c (fo 1005 0 [0] hN underlying66 0 tyS4 (q 5)) rfl (c (la hN 66 tyS4 (q 20)) rfl (c (fo 1005 1 [1] hN underlying66 1 tyS23 (q 5)) rfl (c (la hN 66 tyS23 (q 22)) rfl (cg (OpJ.frz (OpJ.appendN hB underlying23 tyE3 (nm:=1024) (by decide) (ys:=x13.fASNs.map (eI .i64)) (len:=x13.fASNs.length) (by simp) (A37 (f:=(eI .i64)) (fun _=>rfl)) (by rw [List.length_map];exact V1 hc14 (by decide)) (by rw [List.length_map];exact A12 hc14) (L rfl) Opd.nils (q 23)) (by simp)) rfl (c (OpJ.coe (v:=(.st [(bo x13.fSet),(qI_1 x13.fASNs)])) (y:=(.st [(.bool x13.fSet),(.list 1 (x13.fASNs.map (eI .i64)))])) (Co.st (CoL.cons (Co.d _) (CoL.cons (Co.d _) CoL.nil))) rfl (OpJ.build (places:=[(0,1),(1,1)]) ⟨underlying66,fun w=>by kernel_rfl⟩ tyZS66 (Opds.cons (q 21) (Opds.cons (q 24) Opds.nil)) (by kernel_rfl) (r:=(.st [(bo x13.fSet),(qI_1 x13.fASNs)])) (by rfl) (L rfl))) rfl (c (buildSlice underlying30 tyS66 tyZD66 (by rfl) (by decide) (by decide) (Opds.cons (q 25) Opds.nil) (by kernel_rfl) (es:=([(.st [(.bool x13.fSet),(.list 1 (x13.fASNs.map (eI .i64)))])]:List D)) (by rfl) (by rfl) (by kernel_rfl) (by simp) (L rfl)) rfl (cg (apd hB underlying30 tyE66 1027 C3 s1.2 [(B0.mk x13.fSet x13.fASNs)] hc15 (L rfl) (q 19) (q 26)) rfl (c (fo 1003 1 [1] hN underlying35 1 tyS30 (q 3)) rfl (cg (OpJ.storeB (c':=(.st [(i6 a0.fOrigin),(.sref 1027 2 0 ((s1.2++[(B0.mk x13.fSet x13.fASNs)]).length)),(.d (C1 a0.fNext)),(i6 a0.fMED),(i6 a0.fPref),(i6 a0.fOTC),(B9 a0.fCommunities),(D8 a0.fLarge),.nils])) tyS30 (SetAt.st1 (f:=(.sref 13031 2 0 s1.2.length)) (by rfl) (by rfl) (SetAt.here _ _) (by rfl) (by rfl) (by first | rfl | omega)) (by rfl) (by rfl) (by simp) rfl (q 28) (q 27)) rfl cn)))))))))))) (by kernel_rfl) (by kernel_rfl)
   apply E4
   apply A0
   refine rg (SQ tt) ?_
   obtain rfl:=oi h
   exact⟨rfl,(mp [(13031,1027)] _ _ hB)⟩
  ·have h:=A4 hg12 h
   apply AWp.exit
   apply E5
   obtain rfl:=oi h
   exact⟨(fun hc=>by cases hc),rfl,(mp [] _ _ hB)⟩
 ·obtain⟨rfl,hmat⟩:=hR
  apply C2
  apply A0
  refine AWp.ghost hmat ?_
  obtain⟨hc18,h⟩:=B6 h
  refine sr (SQ (fa hc18 tt)) ?_
  obtain⟨hc19,h⟩:=B6 h
  refine sr (SQ (fa hc19 tt)) ?_
  apply AWp.seq
  refine sr (SQ tt) ?_
  apply AWp.block
  obtain⟨p30,hx36,h⟩:=bindS h
  refine lg (S9 a0) (fun s20:Int×(List A1)=>([(2,(pt 1002)),(3,(pt 1003)),(39,(B7 a0.fOther)),(40,(i6 (a0.fOther.length:Int))),(41,(i6 s20.1))]:EL)) (fun s20:Int×(List A1)=>([(1002,some (.box 35 (.st [(i6 0),.nils,(.d (.st [(.bool false),(.int .u64 0),(.int .u64 0)])),(i6 0),(i6 0),(i6 0),.nils,.nils,.nils]))),(1003,some (.box 35 (.st [(i6 a0.fOrigin),(.sref 13031 2 0 p11.length),(.d (C1 a0.fNext)),(i6 a0.fMED),(i6 a0.fPref),(i6 a0.fOTC),(.sref 1032 2 0 a0.fCommunities.length),(.sref 1036 3 0 a0.fLarge.length),(.sref 13038 3 0 s20.2.length)]))),(1032,some (A39 a0.fCommunities)),(1036,some (A4u a0.fLarge)),(13031,some (J4 p11)),(13038,some (D4 s20.2))]:OL)) (fun(p30:((List A1))) e E' O'=>e = .exit 2∧Mat B E' O' ([(2,(pt 1002)),(3,(pt 1003))]:EL) ([(1002,some (.box 35 (.st [(i6 0),.nils,(.d (.st [(.bool false),(.int .u64 0),(.int .u64 0)])),(i6 0),(i6 0),(i6 0),.nils,.nils,.nils]))),(1003,some (.box 35 (.st [(i6 a0.fOrigin),(.sref 13031 2 0 p11.length),(.d (C1 a0.fNext)),(i6 a0.fMED),(i6 a0.fPref),(i6 a0.fOTC),(.sref 1032 2 0 a0.fCommunities.length),(.sref 1036 3 0 a0.fLarge.length),(.sref 13038 3 0 p30.length)]))),(1032,some (A39 a0.fCommunities)),(1036,some (A4u a0.fLarge)),(13031,some (J4 p11)),(13038,some (D4 p30))]:OL)) hx36 (Mat.trans (Mat.beginP (n:=13038) (e:=69) (sz:=3) (Ts:=[]) (Bs:=[(1003,some (.box 35 (.st [(i6 a0.fOrigin),(.sref 13031 2 0 p11.length),(.d (C1 a0.fNext)),(i6 a0.fMED),(i6 a0.fPref),(i6 a0.fOTC),(.sref 1032 2 0 a0.fCommunities.length),(.sref 1036 3 0 a0.fLarge.length),(.sref 13038 3 0 0)])))]) hB (by decide) (by rfl) (by decide) TwT.nil (TwB.cons (x:=(.st [(i6 a0.fOrigin),(.sref 13031 2 0 p11.length),(.d (C1 a0.fNext)),(i6 a0.fMED),(i6 a0.fPref),(i6 a0.fOTC),(.sref 1032 2 0 a0.fCommunities.length),(.sref 1036 3 0 a0.fLarge.length),.nils])) (by rfl) (Tw.st (TwL.cons (Tw.same _) (TwL.cons (Tw.same _) (TwL.cons (Tw.same _) (TwL.cons (Tw.same _) (TwL.cons (Tw.same _) (TwL.cons (Tw.same _) (TwL.cons (Tw.same _) (TwL.cons (Tw.same _) (TwL.cons (Tw.leaf ⟨rfl,rfl⟩) TwL.nil)))))))))) TwB.nil)) (mp [] _ _ hB)) (fun s20 y h => ?_) (fun e E' O' hR => ?_)
  ·unfold S9 at h
   refine sr (SQ tt) ?_
   apply AWp.seq
   apply AWp.cond rfl<;>intro hg31
   ·have h:=A3 hg31 h
    apply AWp.skip
    apply A0
    apply AWp.seq
    apply AWp.block
    obtain⟨x32,hx32,h⟩:=bindS h
    refine sr (SQ (fa hx32 tt)) ?_
    obtain⟨hc33,h⟩:=B6 h
    obtain⟨hc34,h⟩:=B6 h
    apply dr (c (fo 1003 10 [8] hN underlying35 10 tyS33 (q 3)) rfl (c (lb hN 35 _ (.sref 13038 3 0 s20.2.length) tyS33 (At.st1 (f:=(.sref 13038 3 0 s20.2.length)) (by rfl) (by rfl) (At.here _) (by first | rfl | omega)) (q 45)) rfl (c (fo 1007 0 [0] hN underlying69 0 tyS3 (q 7)) rfl (c (la hN 69 tyS3 (q 47)) rfl (c (fo 1007 1 [1] hN underlying69 1 tyS3 (q 7)) rfl (c (la hN 69 tyS3 (q 49)) rfl (c (fo 1007 2 [2] hN underlying69 2 tyS67 (q 7)) rfl (c (la hN 69 tyS67 (q 51)) rfl (cg (OpJ.frz (OpJ.appendN hB underlying67 tyE5 (nm:=1053) (by decide) (ys:=x32.fData.map (eI .u8)) (len:=x32.fData.length) (by simp) (A37 (f:=(eI .u8)) (fun _=>rfl)) (by rw [List.length_map];exact V1 hc33 (by decide)) (by rw [List.length_map];exact A12 hc33) (L rfl) Opd.nils (q 52)) (by simp)) rfl (c (OpJ.coe (v:=(.st [(i6 x32.fFlags),(i6 x32.fType),(.d (.list 1 (x32.fData.map (eI .u8))))])) (y:=(.st [(.int .i64 x32.fFlags),(.int .i64 x32.fType),(.list 1 (x32.fData.map (eI .u8)))])) (Co.st (CoL.cons (Co.d _) (CoL.cons (Co.d _) (CoL.cons (Co.d _) CoL.nil)))) rfl (OpJ.build (places:=[(0,1),(1,1),(2,1)]) ⟨underlying69,fun w=>by kernel_rfl⟩ tyZS69 (Opds.cons (q 48) (Opds.cons (q 50) (Opds.cons (q 53) Opds.nil))) (by kernel_rfl) (r:=(.st [(i6 x32.fFlags),(i6 x32.fType),(.d (.list 1 (x32.fData.map (eI .u8))))])) (by rfl) (L rfl))) rfl (c (buildSlice underlying33 tyS69 tyZD69 (by rfl) (by decide) (by decide) (Opds.cons (q 54) Opds.nil) (by kernel_rfl) (es:=([(.st [(.int .i64 x32.fFlags),(.int .i64 x32.fType),(.list 1 (x32.fData.map (eI .u8)))])]:List D)) (by rfl) (by rfl) (by kernel_rfl) (by simp) (L rfl)) rfl (cg (apd hB underlying33 tyE69 1056 A8 s20.2 [(A1.mk x32.fFlags x32.fType x32.fData)] hc34 (L rfl) (q 46) (q 55)) rfl (c (fo 1003 10 [8] hN underlying35 10 tyS33 (q 3)) rfl (cg (OpJ.storeB (c':=(.st [(i6 a0.fOrigin),(.sref 13031 2 0 p11.length),(.d (C1 a0.fNext)),(i6 a0.fMED),(i6 a0.fPref),(i6 a0.fOTC),(.sref 1032 2 0 a0.fCommunities.length),(.sref 1036 3 0 a0.fLarge.length),(.sref 1056 3 0 ((s20.2++[(A1.mk x32.fFlags x32.fType x32.fData)]).length))])) tyS33 (SetAt.st1 (f:=(.sref 13038 3 0 s20.2.length)) (by rfl) (by rfl) (SetAt.here _ _) (by rfl) (by rfl) (by first | rfl | omega)) (by rfl) (by rfl) (by simp) rfl (q 57) (q 56)) rfl cn)))))))))))))) (by kernel_rfl) (by kernel_rfl)
    apply E4
    apply A0
    refine rg (SQ tt) ?_
    obtain rfl:=oi h
    exact⟨rfl,(mp [(13038,1056)] _ _ hB)⟩
   ·have h:=A4 hg31 h
    apply AWp.exit
    apply E5
    obtain rfl:=oi h
    exact⟨(fun hc=>by cases hc),rfl,(mp [] _ _ hB)⟩
  ·obtain⟨rfl,hmat⟩:=hR
   apply C2
   apply A0
   refine AWp.ghost hmat ?_
   refine sr (SQ tt) ?_
   apply AWp.ret
   obtain rfl:=oi h
   exact rt (Mat.trans (Mat.freezeP (n:=13031) (e:=66) (sz:=2) (es:=p11.map C3) (Ts:=[]) (Bs:=[(1002,some (.box 35 (.st [(i6 a0.fOrigin),(C0 p11),(.d (C1 a0.fNext)),(i6 a0.fMED),(i6 a0.fPref),(i6 a0.fOTC),(.sref 1032 2 0 a0.fCommunities.length),(.sref 1036 3 0 a0.fLarge.length),(.sref 13038 3 0 p30.length)])))]) (by rfl) TwT.nil (TwB.cons (x:=(.st [(i6 a0.fOrigin),(.sref 13031 2 0 p11.length),(.d (C1 a0.fNext)),(i6 a0.fMED),(i6 a0.fPref),(i6 a0.fOTC),(.sref 1032 2 0 a0.fCommunities.length),(.sref 1036 3 0 a0.fLarge.length),(.sref 13038 3 0 p30.length)])) (by rfl) (Tw.st (TwL.cons (Tw.same _) (TwL.cons (FrzL.all (by first | rfl | (simp;done) | (simp;omega) | omega)) (TwL.cons (Tw.same _) (TwL.cons (Tw.same _) (TwL.cons (Tw.same _) (TwL.cons (Tw.same _) (TwL.cons (Tw.same _) (TwL.cons (Tw.same _) (TwL.cons (Tw.same _) TwL.nil)))))))))) TwB.nil)) (Mat.trans (Mat.freezeP (n:=1032) (e:=98) (sz:=2) (es:=a0.fCommunities.map B4) (Ts:=[]) (Bs:=[(1002,some (.box 35 (.st [(i6 a0.fOrigin),(C0 p11),(.d (C1 a0.fNext)),(i6 a0.fMED),(i6 a0.fPref),(i6 a0.fOTC),(B9 a0.fCommunities),(.sref 1036 3 0 a0.fLarge.length),(.sref 13038 3 0 p30.length)])))]) (by rfl) TwT.nil (TwB.cons (x:=(.st [(i6 a0.fOrigin),(C0 p11),(.d (C1 a0.fNext)),(i6 a0.fMED),(i6 a0.fPref),(i6 a0.fOTC),(.sref 1032 2 0 a0.fCommunities.length),(.sref 1036 3 0 a0.fLarge.length),(.sref 13038 3 0 p30.length)])) (by rfl) (Tw.st (TwL.cons (Tw.same _) (TwL.cons (Tw.same _) (TwL.cons (Tw.same _) (TwL.cons (Tw.same _) (TwL.cons (Tw.same _) (TwL.cons (Tw.same _) (TwL.cons (FrzL.all (by first | rfl | (simp;done) | (simp;omega) | omega)) (TwL.cons (Tw.same _) (TwL.cons (Tw.same _) TwL.nil)))))))))) TwB.nil)) (Mat.trans (Mat.freezeP (n:=1036) (e:=100) (sz:=3) (es:=a0.fLarge.map D9) (Ts:=[]) (Bs:=[(1002,some (.box 35 (.st [(i6 a0.fOrigin),(C0 p11),(.d (C1 a0.fNext)),(i6 a0.fMED),(i6 a0.fPref),(i6 a0.fOTC),(B9 a0.fCommunities),(D8 a0.fLarge),(.sref 13038 3 0 p30.length)])))]) (by rfl) TwT.nil (TwB.cons (x:=(.st [(i6 a0.fOrigin),(C0 p11),(.d (C1 a0.fNext)),(i6 a0.fMED),(i6 a0.fPref),(i6 a0.fOTC),(B9 a0.fCommunities),(.sref 1036 3 0 a0.fLarge.length),(.sref 13038 3 0 p30.length)])) (by rfl) (Tw.st (TwL.cons (Tw.same _) (TwL.cons (Tw.same _) (TwL.cons (Tw.same _) (TwL.cons (Tw.same _) (TwL.cons (Tw.same _) (TwL.cons (Tw.same _) (TwL.cons (Tw.same _) (TwL.cons (FrzL.all (by first | rfl | (simp;done) | (simp;omega) | omega)) (TwL.cons (Tw.same _) TwL.nil)))))))))) TwB.nil)) (Mat.trans (Mat.freezeP (n:=13038) (e:=69) (sz:=3) (es:=p30.map A8) (Ts:=[]) (Bs:=[(1002,some (.box 35 (.st [(i6 a0.fOrigin),(C0 p11),(.d (C1 a0.fNext)),(i6 a0.fMED),(i6 a0.fPref),(i6 a0.fOTC),(B9 a0.fCommunities),(D8 a0.fLarge),(B7 p30)])))]) (by rfl) TwT.nil (TwB.cons (x:=(.st [(i6 a0.fOrigin),(C0 p11),(.d (C1 a0.fNext)),(i6 a0.fMED),(i6 a0.fPref),(i6 a0.fOTC),(B9 a0.fCommunities),(D8 a0.fLarge),(.sref 13038 3 0 p30.length)])) (by rfl) (Tw.st (TwL.cons (Tw.same _) (TwL.cons (Tw.same _) (TwL.cons (Tw.same _) (TwL.cons (Tw.same _) (TwL.cons (Tw.same _) (TwL.cons (Tw.same _) (TwL.cons (Tw.same _) (TwL.cons (Tw.same _) (TwL.cons (FrzL.all (by first | rfl | (simp;done) | (simp;omega) | omega)) TwL.nil)))))))))) TwB.nil)) (Mat.trans (Mat.coeP (Ts:=[]) (Bs:=[(1002,bd 35 (.st [(.int .i64 a0.fOrigin),(.list 2 (p11.map C3)),(C1 a0.fNext),(.int .i64 a0.fMED),(.int .i64 a0.fPref),(.int .i64 a0.fOTC),(.list 2 (a0.fCommunities.map B4)),(.list 3 (a0.fLarge.map D9)),(.list 3 (p30.map A8))]))]) TwT.nil (TwB.cons (x:=(.st [(i6 a0.fOrigin),(C0 p11),(.d (C1 a0.fNext)),(i6 a0.fMED),(i6 a0.fPref),(i6 a0.fOTC),(B9 a0.fCommunities),(D8 a0.fLarge),(B7 p30)])) (by rfl) (Tw.leaf ⟨_,(Co.st (CoL.cons (Co.d _) (CoL.cons (Co.d _) (CoL.cons (Co.d _) (CoL.cons (Co.d _) (CoL.cons (Co.d _) (CoL.cons (Co.d _) (CoL.cons (Co.d _) (CoL.cons (Co.d _) (CoL.cons (Co.d _) CoL.nil)))))))))),rfl⟩) TwB.nil)) (mp [] [(2,(pt 1002))] [(1002,bd 35 (.st [(.int .i64 a0.fOrigin),(.list 2 (p11.map C3)),(C1 a0.fNext),(.int .i64 a0.fMED),(.int .i64 a0.fPref),(.int .i64 a0.fOTC),(.list 2 (a0.fCommunities.map B4)),(.list 3 (a0.fLarge.map D9)),(.list 3 (p30.map A8))]))] hB)))))) [(.d (.st [(.int .i64 a0.fOrigin),(.list 2 (p11.map C3)),(C1 a0.fNext),(.int .i64 a0.fMED),(.int .i64 a0.fPref),(.int .i64 a0.fOTC),(.list 2 (a0.fCommunities.map B4)),(.list 3 (a0.fLarge.map D9)),(.list 3 (p30.map A8))]))] (Res.cell (c:=(.d (.st [(.int .i64 a0.fOrigin),(.list 2 (p11.map C3)),(C1 a0.fNext),(.int .i64 a0.fMED),(.int .i64 a0.fPref),(.int .i64 a0.fOTC),(.list 2 (a0.fCommunities.map B4)),(.list 3 (a0.fLarge.map D9)),(.list 3 (p30.map A8))]))) (by rfl) (by rfl) tyS35 (by rfl) (by rfl) (by rfl) Res.nil) rfl
def N1 (a0:(List D0)) (s1:Int×(List D0)):Option ((((List D0)))⊕(Int×(List D0))) :=
 (if (decide (s1.1<(a0.length:Int)))=true then
 (idx a0 s1.1).bind fun x12 =>
 (T4 x12.fAttrs).bind fun r13 =>
 chk (decide ((s1.2++[(D0.mk x12.fPrefix x12.fFrom r13)]).length≤LIM)) <|
 some (.inr ((w64 (s1.1+1)),(s1.2++[(D0.mk x12.fPrefix x12.fFrom r13)])))
 else
 some (.inl s1.2))
def S1 (a0:(List D0)):Option ((List D0)) :=
 (loop (N1 a0) (0,([]:List D0))).bind fun p10 =>
 some p10
theorem A5o (a0:(List D0)) (r:(List D0)) (h:S1 a0=some r):AC Tryz.prog 50 [(.d (.list 16 (a0.map G5)))] [] (.d (.list 16 (r.map G5))) []:=by
 refine ac2 Tryz.func50 rfl rfl fun B hB hN L => ?_
 delta S1 at h
 refine sr (SQ tt) ?_
 refine sr (SQ tt) ?_
 apply AWp.seq
 refine sr (SQ tt) ?_
 apply AWp.block
 obtain⟨p10,hx16,h⟩:=bindS h
 refine lg (N1 a0) (fun s1:Int×(List D0)=>([(3,(.sref 3003 16 0 s1.2.length)),(6,(H3 a0)),(7,(i6 (a0.length:Int))),(8,(i6 s1.1))]:EL)) (fun s1:Int×(List D0)=>([(3003,some (F3 s1.2))]:OL)) (fun(p10:((List D0))) e E' O'=>e = .exit 0∧Mat B E' O' ([(3,(.sref 3003 16 0 p10.length))]:EL) ([(3003,some (F3 p10))]:OL)) hx16 (Mat.trans (Mat.beginP (n:=3003) (e:=37) (sz:=16) (Ts:=[(3,(.sref 3003 16 0 0))]) (Bs:=[]) hB (by decide) (by rfl) (by decide) (TwT.cons (x:=.nils) (by rfl) (Tw.leaf ⟨rfl,rfl⟩) TwT.nil) TwB.nil) (mp [] _ _ hB)) (fun s1 y h => ?_) (fun e E' O' hR => ?_)
 ·unfold N1 at h
  refine sr (SQ tt) ?_
  apply AWp.seq
  apply AWp.cond rfl<;>intro hg11
  ·have h:=A3 hg11 h
   apply AWp.skip
   apply A0
   apply AWp.seq
   apply AWp.block
   obtain⟨x12,hx12,h⟩:=bindS h
   refine sr (SQ (fa hx12 tt)) ?_
   obtain⟨r13,hr13,h⟩:=bindS h
   obtain⟨hc14,h⟩:=B6 h
   refine drS (SQ (fa (cl [] (A63 x12.fAttrs r13 hr13)) (fa hc14 tt))) ?_
   apply E4
   apply A0
   refine rg (SQ tt) ?_
   obtain rfl:=oi h
   exact⟨rfl,(mp [(3003,1022)] _ _ hB)⟩
  ·have h:=A4 hg11 h
   apply AWp.exit
   apply E5
   obtain rfl:=oi h
   exact⟨(fun hc=>by cases hc),rfl,(mp [] _ _ hB)⟩
 ·obtain⟨rfl,hmat⟩:=hR
  apply C2
  apply A0
  refine AWp.ghost hmat ?_
  refine sr (SQ tt) ?_
  apply AWp.ret
  obtain rfl:=oi h
  exact rt (Mat.trans (Mat.freezeP (n:=3003) (e:=37) (sz:=16) (es:=p10.map G5) (Ts:=[(2,(H3 p10))]) (Bs:=[]) (by rfl) (TwT.cons (x:=(.sref 3003 16 0 p10.length)) (by rfl) (FrzL.all (by first | rfl | (simp;done) | (simp;omega) | omega)) TwT.nil) TwB.nil) (mp [] [(2,(H3 p10))] [] hB)) [(H3 p10)] (Res.tmp (by rfl) (by rfl) Res.nil) rfl
def Y7 (a0:Int) (a1:(List D0)) (a2:(List D0)) (r1:(List A2)) (s2:Int×(List A6)):Option ((((List A6)))⊕(Int×(List A6))) :=
 (if (decide (s2.1<(r1.length:Int)))=true then
 jn (fun m106:(List A6) =>
 some (.inr ((w64 (s2.1+1)),m106))) (fun j107 =>
 (idx r1 s2.1).bind fun x108 =>
 (A0x a1 x108).bind fun r109 =>
 (A0x a2 x108).bind fun r110 =>
 jn (fun m113:Bool =>
 (if m113=true then
 j107 s2.2
 else
 jn (fun m119:D0 =>
 chk (decide ((s2.2++[(A6.mk a0 x108 r110.2 m119)]).length≤LIM)) <|
 j107 (s2.2++[(A6.mk a0 x108 r110.2 m119)])) (fun j120 =>
 (if r110.2=true then
 (S1 [r110.1]).bind fun r123 =>
 (idx r123 0).bind fun x124 =>
 j120 x124
 else
 j120 (D0.mk (A2.mk (C7.mk false 0 0) 0) 0 (C6.mk 0 ([]:List B0) (C7.mk false 0 0) 0 0 0 ([]:List B3) ([]:List E6) ([]:List A1))))))) (fun j114 =>
 (if (r109.2==r110.2)=true then
 (J6 r109.1 r110.1).bind fun r126 =>
 j114 r126
 else
 j114 false)))
 else
 some (.inl s2.2))
def A2e (a0:Int) (a1:(List D0)) (a2:(List D0)):Option ((List A6)) :=
 (A0d a1 a2).bind fun r1 =>
 (loop (Y7 a0 a1 a2 r1) (0,([]:List A6))).bind fun p85 =>
 some p85
theorem A9n (a0:Int) (a1:(List D0)) (a2:(List D0)) (r:(List A6)) (h:A2e a0 a1 a2=some r):AC Tryz.prog 27 [(.d (.int .i64 a0)),(.d (.list 16 (a1.map G5))),(.d (.list 16 (a2.map G5)))] [] (.d (.list 22 (r.map E7))) []:=by
 refine ac2 Tryz.func27 rfl rfl fun B hB hN L => ?_
 delta A2e at h
 refine sr (SQ tt) ?_
 refine sr (SQ tt) ?_
 apply AWp.seq
 obtain⟨r1,hr1,h⟩:=bindS h
 refine sr (SQ (fa (cl [] (A7l a1 a2 r1 hr1)) tt)) ?_
 apply AWp.block
 obtain⟨p85,hx128,h⟩:=bindS h
 refine lg (Y7 a0 a1 a2 r1) (fun s2:Int×(List A6)=>([(0,(i6 a0)),(1,(H3 a1)),(2,(H3 a2)),(7,(.sref 3007 22 0 s2.2.length)),(17,(D6 r1)),(18,(i6 (r1.length:Int))),(19,(i6 s2.1))]:EL)) (fun s2:Int×(List A6)=>([(3007,some (F5 s2.2))]:OL)) (fun(p85:((List A6))) e E' O'=>e = .exit 0∧Mat B E' O' ([(7,(.sref 3007 22 0 p85.length))]:EL) ([(3007,some (F5 p85))]:OL)) hx128 (Mat.trans (Mat.beginP (n:=3007) (e:=39) (sz:=22) (Ts:=[(7,(.sref 3007 22 0 0))]) (Bs:=[]) hB (by decide) (by rfl) (by decide) (TwT.cons (x:=.nils) (by rfl) (Tw.leaf ⟨rfl,rfl⟩) TwT.nil) TwB.nil) (mp [] _ _ hB)) (fun s2 y h => ?_) (fun e E' O' hR => ?_)
 ·unfold Y7 at h
  refine sr (SQ tt) ?_
  apply AWp.seq
  apply AWp.cond rfl<;>intro hg86
  ·have h:=A3 hg86 h
   apply AWp.skip
   apply A0
   apply AWp.seq
   refine AWp.cut h (fun m106:(List A6)=>([(0,(i6 a0)),(1,(H3 a1)),(2,(H3 a2)),(7,(.sref 3007 22 0 m106.length)),(17,(D6 r1)),(18,(i6 (r1.length:Int))),(19,(i6 s2.1))]:EL)) (fun m106:(List A6)=>([(3007,some (F5 m106))]:OL)) (fun m106 h E' O' hmat => ?_) (fun j107 hjj107 h => ?_)
   ·apply A0
    refine AWp.ghost hmat ?_
    refine rg (SQ tt) ?_
    obtain rfl:=oi h
    exact⟨rfl,(mp [] _ _ hB)⟩
   ·apply AWp.block
    obtain⟨x108,hx108,h⟩:=bindS h
    refine sr (SQ (fa hx108 tt)) ?_
    obtain⟨r109,hr109,h⟩:=bindS h
    refine sr (SQ (fa (cl [] (A5n a1 x108 r109 hr109)) tt)) ?_
    obtain⟨r110,hr110,h⟩:=bindS h
    refine sr (SQ (fa (cl [] (A5n a2 x108 r110 hr110)) tt)) ?_
    apply AWp.seq
    apply AWp.seq
    refine AWp.cut h (fun m113:Bool=>([(0,(i6 a0)),(1,(H3 a1)),(2,(H3 a2)),(7,(.sref 3007 22 0 s2.2.length)),(9,(pt 1009)),(12,(pt 1012)),(13,(bo r110.2)),(17,(D6 r1)),(18,(i6 (r1.length:Int))),(19,(i6 s2.1)),(42,(bo m113))]:EL)) (fun m113:Bool=>([(1009,bd 29 (A7 x108)),(1012,bd 37 (G5 r110.1)),(3007,some (F5 s2.2))]:OL)) (fun m113 h E' O' hmat => ?_) (fun j114 hjj114 h => ?_)
    ·apply A0
     refine AWp.ghost hmat ?_
     apply AWp.cond rfl<;>intro hg115
     ·have h:=A3 hg115 h
      apply AWp.exit
      apply E5
      apply C2
      exact hjj107 _ h _ _ (mp [] _ _ hB)
     ·have h:=A4 hg115 h
      apply AWp.skip
      apply A0
      refine sr (SQ tt) ?_
      apply AWp.seq
      refine sr (SQ tt) ?_
      refine gh [(0,_),(1,_),(2,_),(7,_),(12,_),(14,_),(17,_),(18,_),(19,_),(47,_)] [(1012,some _),(1014,some _),(3007,some _)] hB rfl rfl (by rfl) ?_
      refine AWp.cut h (fun m119:D0=>([(0,(i6 a0)),(1,(H3 a1)),(2,(H3 a2)),(7,(.sref 3007 22 0 s2.2.length)),(14,(pt 1014)),(17,(D6 r1)),(18,(i6 (r1.length:Int))),(19,(i6 s2.1))]:EL)) (fun m119:D0=>([(1014,some (.box 39 (.st [(i6 a0),(.d (A7 x108)),(bo r110.2),(.d (G5 m119))]))),(3007,some (F5 s2.2))]:OL)) (fun m119 h E' O' hmat => ?_) (fun j120 hjj120 h => ?_)
      ·apply A0
       refine AWp.ghost hmat ?_
       obtain⟨hc121,h⟩:=B6 h
       refine rg (SQ (fa hc121 tt)) ?_
       apply E4
       exact hjj107 _ h _ _ (mp [(3007,1057)] _ _ hB)
      ·apply AWp.cond rfl<;>intro hg122
       ·have h:=A3 hg122 h
        obtain⟨r123,hr123,h⟩:=bindS h
        obtain⟨_,hx124,h⟩:=bindS h
        refine rg (SQ (fa (cl [] (A5o [r110.1] r123 hr123)) (fa hx124 tt))) ?_
        exact hjj120 _ h _ _ (mp [] _ _ hB)
       ·have h:=A4 hg122 h
        apply AWp.skip
        exact hjj120 _ h _ _ (Mat.trans (Mat.coeP (Ts:=[]) (Bs:=[(1014,some (.box 39 (.st [(i6 a0),(.d (A7 x108)),(bo r110.2),(.d (.st [(.st [(.st [(.bool false),(.int .u64 0),(.int .u64 0)]),(.int .i64 0)]),(.int .i64 0),(.st [(.int .i64 0),(.list 2 (([]:List B0).map C3)),(.st [(.bool false),(.int .u64 0),(.int .u64 0)]),(.int .i64 0),(.int .i64 0),(.int .i64 0),(.list 2 (([]:List B3).map B4)),(.list 3 (([]:List E6).map D9)),(.list 3 (([]:List A1).map A8))])]))])))]) TwT.nil (TwB.cons (x:=(.st [(i6 a0),(.d (A7 x108)),(bo r110.2),(.st [(.d (.st [(.st [(.bool false),(.int .u64 0),(.int .u64 0)]),(.int .i64 0)])),(i6 0),(.st [(i6 0),.nils,(.d (.st [(.bool false),(.int .u64 0),(.int .u64 0)])),(i6 0),(i6 0),(i6 0),.nils,.nils,.nils])])])) (by rfl) (Tw.st (TwL.cons (Tw.same _) (TwL.cons (Tw.same _) (TwL.cons (Tw.same _) (TwL.cons (Tw.leaf ⟨_,(Co.st (CoL.cons (Co.d _) (CoL.cons (Co.d _) (CoL.cons (Co.st (CoL.cons (Co.d _) (CoL.cons (Co.nils 2) (CoL.cons (Co.d _) (CoL.cons (Co.d _) (CoL.cons (Co.d _) (CoL.cons (Co.d _) (CoL.cons (Co.nils 2) (CoL.cons (Co.nils 3) (CoL.cons (Co.nils 3) CoL.nil)))))))))) CoL.nil)))),rfl⟩) TwL.nil))))) TwB.nil)) (mp [] _ _ hB))
    ·rcases bft (r109.2==r110.2) with hg125 | hg125
     ·have h:=A3 hg125 h
      obtain⟨r126,hr126,h⟩:=bindS h
      refine rg (SQ (fa hg125 (fa (cl [] (A2u r109.1 r110.1 r126 hr126)) tt))) ?_
      exact hjj114 _ h _ _ (mp [] _ _ hB)
     ·have h:=A4 hg125 h
      refine rg (SQ (fa hg125 tt)) ?_
      exact hjj114 _ h _ _ (mp [] _ _ hB)
  ·have h:=A4 hg86 h
   apply AWp.exit
   apply E5
   obtain rfl:=oi h
   exact⟨(fun hc=>by cases hc),rfl,(mp [] _ _ hB)⟩
 ·obtain⟨rfl,hmat⟩:=hR
  apply C2
  apply A0
  refine AWp.ghost hmat ?_
  refine sr (SQ tt) ?_
  apply AWp.ret
  obtain rfl:=oi h
  exact rt (Mat.trans (Mat.freezeP (n:=3007) (e:=39) (sz:=22) (es:=p85.map E7) (Ts:=[(6,(D3 p85))]) (Bs:=[]) (by rfl) (TwT.cons (x:=(.sref 3007 22 0 p85.length)) (by rfl) (FrzL.all (by first | rfl | (simp;done) | (simp;omega) | omega)) TwT.nil) TwB.nil) (mp [] [(6,(D3 p85))] [] hB)) [(D3 p85)] (Res.tmp (by rfl) (by rfl) Res.nil) rfl
def G2 (s1:Int×(List D0)×(List D0)×A9):Option (((A9×(List D0)×(List D0)))⊕(Int×(List D0)×(List D0)×A9)) :=
 (if (decide (s1.1<8))=true then
 (N5 s1.1).bind fun r50 =>
 (F4 s1.2.2.2 3).bind fun r51 =>
 (A02).bind fun r52 =>
 (P0 (w64 (101+r51.1)) r50.fAddr.fV6).bind fun r53 =>
 (F4 r51.2 2).bind fun r54 =>
 (F4 r54.2 4).bind fun r55 =>
 jn (fun m63:(List D0)×(List D0) =>
 some (.inr ((w64 (s1.1+1)),m63.1,m63.2,r55.2))) (fun j64 =>
 (if (r55.1==0)=true then
 chk (decide ((s1.2.2.1++([(D0.mk r50 (w64 (101+r51.1)) (C6.mk 0 ([(B0.mk false ([(w64 (101+r51.1))]:List Int))]:List B0) r53 r54.1 r52.fPref r52.fOTC r52.fCommunities r52.fLarge r52.fOther))]:List D0)).length≤LIM)) <|
 j64 (s1.2.1,(s1.2.2.1++([(D0.mk r50 (w64 (101+r51.1)) (C6.mk 0 ([(B0.mk false ([(w64 (101+r51.1))]:List Int))]:List B0) r53 r54.1 r52.fPref r52.fOTC r52.fCommunities r52.fLarge r52.fOther))]:List D0)))
 else
 (if (r55.1==1)=true then
 chk (decide ((s1.2.1++([(D0.mk r50 (w64 (101+r51.1)) (C6.mk 0 ([(B0.mk false ([(w64 (101+r51.1))]:List Int))]:List B0) r53 r54.1 r52.fPref r52.fOTC r52.fCommunities r52.fLarge r52.fOther))]:List D0)).length≤LIM)) <|
 j64 ((s1.2.1++([(D0.mk r50 (w64 (101+r51.1)) (C6.mk 0 ([(B0.mk false ([(w64 (101+r51.1))]:List Int))]:List B0) r53 r54.1 r52.fPref r52.fOTC r52.fCommunities r52.fLarge r52.fOther))]:List D0)),s1.2.2.1)
 else
 (if (r55.1==2)=true then
 chk (decide ((s1.2.2.1++([(D0.mk r50 (w64 (101+r51.1)) (C6.mk 0 ([(B0.mk false ([(w64 (101+r51.1))]:List Int))]:List B0) r53 r54.1 r52.fPref r52.fOTC r52.fCommunities r52.fLarge r52.fOther))]:List D0)).length≤LIM)) <|
 chk (decide ((s1.2.1++([(D0.mk r50 (w64 (101+r51.1)) (C6.mk 0 ([(B0.mk false ([(w64 (101+r51.1))]:List Int))]:List B0) r53 5 r52.fPref r52.fOTC r52.fCommunities r52.fLarge r52.fOther))]:List D0)).length≤LIM)) <|
 j64 ((s1.2.1++([(D0.mk r50 (w64 (101+r51.1)) (C6.mk 0 ([(B0.mk false ([(w64 (101+r51.1))]:List Int))]:List B0) r53 5 r52.fPref r52.fOTC r52.fCommunities r52.fLarge r52.fOther))]:List D0)),(s1.2.2.1++([(D0.mk r50 (w64 (101+r51.1)) (C6.mk 0 ([(B0.mk false ([(w64 (101+r51.1))]:List Int))]:List B0) r53 r54.1 r52.fPref r52.fOTC r52.fCommunities r52.fLarge r52.fOther))]:List D0)))
 else
 j64 (s1.2.1,s1.2.2.1)))))
 else
 some (.inl (s1.2.2.2,s1.2.1,s1.2.2.1)))
def H0 (a0:A9) (a1:Int):Option ((List A6)×A9) :=
 (loop (G2) (0,([]:List D0),([]:List D0),a0)).bind fun p48 =>
 (A2e a1 p48.2.2 p48.2.1).bind fun r74 =>
 some (r74,p48.1)
theorem A10 (a0:A9) (a1:Int) (r:(List A6)×A9) (h:H0 a0 a1=some r):AC Tryz.prog 10 [(pt 0),(.d (.int .i64 a1))] [(0,(.box 71 (.d (D1 a0))))] (.d (.list 22 (r.1.map E7))) [(0,bd 71 (D1 r.2))]:=by
 refine ac2 Tryz.func10 rfl rfl fun B hB hN L => ?_
 delta H0 at h
 refine sr (SQ tt) ?_
 refine sr (SQ tt) ?_
 apply AWp.seq
 refine sr (SQ tt) ?_
 apply AWp.block
 obtain⟨p48,hx73,h⟩:=bindS h
 refine lg (G2) (fun s1:Int×(List D0)×(List D0)×A9=>([(0,(pt 0)),(1,(i6 a1)),(5,(.sref 3005 16 0 s1.2.2.1.length)),(6,(.sref 3006 16 0 s1.2.1.length)),(7,(i6 s1.1))]:EL)) (fun s1:Int×(List D0)×(List D0)×A9=>([(0,bd 71 (D1 s1.2.2.2)),(3005,some (F3 s1.2.2.1)),(3006,some (F3 s1.2.1))]:OL)) (fun(p48:(A9×(List D0)×(List D0))) e E' O'=>e = .exit 0∧Mat B E' O' ([(1,(i6 a1)),(5,(.sref 3005 16 0 p48.2.2.length)),(6,(.sref 3006 16 0 p48.2.1.length))]:EL) ([(0,bd 71 (D1 p48.1)),(3005,some (F3 p48.2.2)),(3006,some (F3 p48.2.1))]:OL)) hx73 (Mat.trans (Mat.beginP (n:=3005) (e:=37) (sz:=16) (Ts:=[(5,(.sref 3005 16 0 0))]) (Bs:=[]) hB (by decide) (by rfl) (by decide) (TwT.cons (x:=.nils) (by rfl) (Tw.leaf ⟨rfl,rfl⟩) TwT.nil) TwB.nil) (Mat.trans (Mat.beginP (n:=3006) (e:=37) (sz:=16) (Ts:=[(6,(.sref 3006 16 0 0))]) (Bs:=[]) hB (by decide) (by rfl) (by decide) (TwT.cons (x:=.nils) (by rfl) (Tw.leaf ⟨rfl,rfl⟩) TwT.nil) TwB.nil) (mp [] _ _ hB))) (fun s1 y h => ?_) (fun e E' O' hR => ?_)
 ·unfold G2 at h
  apply AWp.seq
  refine sr (SQ tt) ?_
  apply AWp.cond rfl<;>intro hg49
  ·have h:=A3 hg49 h
   apply AWp.skip
   apply A0
   apply AWp.seq
   apply AWp.block
   obtain⟨r50,hr50,h⟩:=bindS h
   refine sr (SQ (fa (cl [] (A3f s1.1 r50 hr50)) tt)) ?_
   apply AWp.seq
   obtain⟨r51,hr51,h⟩:=bindS h
   refine drS (SQ (fa (cl [(0,0)] (G9 s1.2.2.2 3 r51 hr51)) tt)) ?_
   apply A0
   refine AWp.ghost (mp [] [(0,(pt 0)),(1,(i6 a1)),(5,(.sref 3005 16 0 s1.2.2.1.length)),(6,(.sref 3006 16 0 s1.2.1.length)),(7,(i6 s1.1)),(8,(pt 1008)),(9,(pt 1009))] [(0,bd 71 (D1 r51.2)),(1008,bd 29 (A7 r50)),(1009,some (.box 37 (.st [(.d (A7 r50)),(i6 (w64 (101+r51.1))),(.st [(i6 0),.nils,(.d (.st [(.bool false),(.int .u64 0),(.int .u64 0)])),(i6 0),(i6 0),(i6 0),.nils,.nils,.nils])]))),(3005,some (F3 s1.2.2.1)),(3006,some (F3 s1.2.1))] hB) ?_
   obtain⟨r52,hr52,h⟩:=bindS h
   refine sr (SQ (fa (cl [] (A2p r52 hr52)) tt)) ?_
   obtain⟨r53,hr53,h⟩:=bindS h
   refine sdS (SQ (fa (cl [] (A3o (w64 (101+r51.1)) r50.fAddr.fV6 r53 hr53)) tt)) ?_
   apply AWp.seq
   obtain⟨r54,hr54,h⟩:=bindS h
   refine rg (SQ (fa (cl [(0,0)] (G9 r51.2 2 r54 hr54)) tt)) ?_
   apply A0
   refine AWp.ghost (mp [] [(0,(pt 0)),(1,(i6 a1)),(5,(.sref 3005 16 0 s1.2.2.1.length)),(6,(.sref 3006 16 0 s1.2.1.length)),(7,(i6 s1.1)),(9,(pt 1009))] [(0,bd 71 (D1 r54.2)),(1009,some (.box 37 (.st [(.d (A7 r50)),(i6 (w64 (101+r51.1))),(.d (.st [(.int .i64 0),(.list 2 (([(B0.mk false ([(w64 (101+r51.1))]:List Int))]:List B0).map C3)),(C1 r53),(.int .i64 r54.1),(.int .i64 r52.fPref),(.int .i64 r52.fOTC),(.list 2 (r52.fCommunities.map B4)),(.list 3 (r52.fLarge.map D9)),(.list 3 (r52.fOther.map A8))]))]))),(3005,some (F3 s1.2.2.1)),(3006,some (F3 s1.2.1))] hB) ?_
   apply AWp.seq
   obtain⟨r55,hr55,h⟩:=bindS h
   refine rg (SQ (fa (cl [(0,0)] (G9 r54.2 4 r55 hr55)) tt)) ?_
   apply A0
   refine AWp.ghost (mp [] [(0,(pt 0)),(1,(i6 a1)),(5,(.sref 3005 16 0 s1.2.2.1.length)),(6,(.sref 3006 16 0 s1.2.1.length)),(7,(i6 s1.1)),(9,(pt 1009)),(45,(i6 r55.1))] [(0,bd 71 (D1 r55.2)),(1009,some (.box 37 (.st [(.d (A7 r50)),(i6 (w64 (101+r51.1))),(.d (.st [(.int .i64 0),(.list 2 (([(B0.mk false ([(w64 (101+r51.1))]:List Int))]:List B0).map C3)),(C1 r53),(.int .i64 r54.1),(.int .i64 r52.fPref),(.int .i64 r52.fOTC),(.list 2 (r52.fCommunities.map B4)),(.list 3 (r52.fLarge.map D9)),(.list 3 (r52.fOther.map A8))]))]))),(3005,some (F3 s1.2.2.1)),(3006,some (F3 s1.2.1))] hB) ?_
   apply AWp.block
   refine sr (SQ tt) ?_
   refine gh [(0,_),(1,_),(5,_),(6,_),(7,_),(9,_),(45,_),(46,_)] [(0,some _),(1009,some _),(3005,some _),(3006,some _)] hB rfl rfl (by rfl) ?_
   refine AWp.cut h (fun m63:(List D0)×(List D0)=>([(0,(pt 0)),(1,(i6 a1)),(5,(.sref 3005 16 0 m63.2.length)),(6,(.sref 3006 16 0 m63.1.length)),(7,(i6 s1.1))]:EL)) (fun m63:(List D0)×(List D0)=>([(0,bd 71 (D1 r55.2)),(3005,some (F3 m63.2)),(3006,some (F3 m63.1))]:OL)) (fun m63 h E' O' hmat => ?_) (fun j64 hjj64 h => ?_)
   ·apply E4
    apply E4
    apply A0
    refine AWp.ghost hmat ?_
    refine rg (SQ tt) ?_
    obtain rfl:=oi h
    exact⟨rfl,(mp [] _ _ hB)⟩
   ·apply AWp.cond rfl<;>intro hg65
    ·have h:=A3 hg65 h
     obtain⟨hc66,h⟩:=B6 h
     refine rg (SQ (fa hc66 tt)) ?_
     exact hjj64 _ h _ _ (mp [(3005,1051)] _ _ hB)
    ·have h:=A4 hg65 h
     refine sr (SQ tt) ?_
     apply AWp.cond rfl<;>intro hg67
     ·have h:=A3 hg67 h
      obtain⟨hc68,h⟩:=B6 h
      refine rg (SQ (fa hc68 tt)) ?_
      exact hjj64 _ h _ _ (mp [(3006,1057)] _ _ hB)
     ·have h:=A4 hg67 h
      refine sr (SQ tt) ?_
      apply AWp.cond rfl<;>intro hg69
      ·have h:=A3 hg69 h
       obtain⟨hc70,h⟩:=B6 h
       refine sr (SQ (fa hc70 tt)) ?_
       refine sr (SQ tt) ?_
       obtain⟨hc71,h⟩:=B6 h
       refine rg (SQ (fa hc71 tt)) ?_
       exact hjj64 _ h _ _ (mp [(3005,1063),(3006,1069)] _ _ hB)
      ·have h:=A4 hg69 h
       apply AWp.skip
       exact hjj64 _ h _ _ (mp [] _ _ hB)
  ·have h:=A4 hg49 h
   apply AWp.exit
   apply E5
   obtain rfl:=oi h
   exact⟨(fun hc=>by cases hc),rfl,(mp [] _ _ hB)⟩
 ·obtain⟨rfl,hmat⟩:=hR
  apply C2
  apply A0
  refine AWp.ghost hmat ?_
  apply AWp.seq
  refine AWp.ghost (Mat.freezeP (n:=3005) (e:=37) (sz:=16) (es:=p48.2.2.map G5) (Ts:=[(5,(H3 p48.2.2))]) (Bs:=[]) (by rfl) (TwT.cons (x:=(.sref 3005 16 0 p48.2.2.length)) (by rfl) (FrzL.all (by first | rfl | (simp;done) | (simp;omega) | omega)) TwT.nil) TwB.nil) ?_
  refine AWp.ghost (Mat.freezeP (n:=3006) (e:=37) (sz:=16) (es:=p48.2.1.map G5) (Ts:=[(6,(H3 p48.2.1))]) (Bs:=[]) (by rfl) (TwT.cons (x:=(.sref 3006 16 0 p48.2.1.length)) (by rfl) (FrzL.all (by first | rfl | (simp;done) | (simp;omega) | omega)) TwT.nil) TwB.nil) ?_
  obtain⟨r74,hr74,h⟩:=bindS h
  refine rg (SQ (fa (cl [] (A9n a1 p48.2.2 p48.2.1 r74 hr74)) tt)) ?_
  apply A0
  apply AWp.ret
  obtain rfl:=oi h
  exact rt (kp [(4,_)] [(0,some _)] hB rfl rfl (by rfl)) [(D3 r74)] (Res.tmp (by rfl) (by rfl) Res.nil) rfl
def S2 (a0:C7):Option (Bool) :=
 jn (fun m2:Bool =>
 some m2) (fun j3 =>
 (if a0.fV6=true then
 j3 true
 else
 j3 ((a0.fHi==0)&&(decide (a0.fLo<4294967296)))))
theorem J1 (a0:C7) (r:Bool) (h:S2 a0=some r):AC Tryz.prog 78 [(.d (C1 a0))] [] (.d (.bool r)) []:=by
 refine ac2 Tryz.func78 rfl rfl fun B hB hN L => ?_
 delta S2 at h
 refine sr (SQ tt) ?_
 apply AWp.seq
 refine AWp.cut h (fun m2:Bool=>([(2,(bo m2))]:EL)) (fun m2:Bool=>([]:OL)) (fun m2 h E' O' hmat => ?_) (fun j3 hjj3 h => ?_)
 ·apply A0
  refine AWp.ghost hmat ?_
  apply AWp.ret
  obtain rfl:=oi h
  exact rt (kp [(2,_)] [] hB rfl rfl (by rfl)) [(bo m2)] (Res.tmp (by rfl) (by rfl) Res.nil) rfl
 ·rcases bft a0.fV6 with hg4 | hg4
  ·have h:=A3 hg4 h
   refine rg (SQ (fa hg4 tt)) ?_
   exact hjj3 _ h _ _ (mp [] _ _ hB)
  ·have h:=A4 hg4 h
   refine rg (SQ (fa hg4 tt)) ?_
   exact hjj3 _ h _ _ (mp [] _ _ hB)
def A30 (a0:C7):Option (Int) :=
 (if a0.fV6=true then
 some 128
 else
 some 32)
theorem A8p (a0:C7) (r:Int) (h:A30 a0=some r):AC Tryz.prog 99 [(.d (C1 a0))] [] (.d (.int .i64 r)) []:=by
 refine AC.of_code2 Tryz.func99 rfl rfl (Nat.le_of_ble_eq_true (by rfl)) fun B hB hN => ?_
 delta A30 at h
 refine sr (SQ tt) ?_
 apply AWp.seq
 refine sr (SQ tt) ?_
 apply AWp.cond rfl<;>intro hg1
 ·have h:=A3 hg1 h
  refine sr (SQ tt) ?_
  apply AWp.ret
  apply B5
  obtain rfl:=oi h
  exact rt (kp [(2,_)] [] hB rfl rfl (by rfl)) [(i6 128)] (Res.tmp (by rfl) (by rfl) Res.nil) rfl
 ·have h:=A4 hg1 h
  apply AWp.skip
  apply A0
  refine sr (SQ tt) ?_
  apply AWp.ret
  obtain rfl:=oi h
  exact rt (kp [(2,_)] [] hB rfl rfl (by rfl)) [(i6 32)] (Res.tmp (by rfl) (by rfl) Res.nil) rfl
def A0g (a0:C7) (s6:Int×(List Int)):Option ((((List Int)))⊕(Int×(List Int))) :=
 (if (decide (0≤s6.1))=true then
 jn (fun m22:Int =>
 chk (decide ((s6.2++([(IntKind.u8.wrap (shrI .u64 m22 (IntKind.u64.wrap (8*(IntKind.u64.wrap (Int.tmod s6.1 8))))))]:List Int)).length≤LIM)) <|
 some (.inr ((w64 (s6.1-1)),(s6.2++([(IntKind.u8.wrap (shrI .u64 m22 (IntKind.u64.wrap (8*(IntKind.u64.wrap (Int.tmod s6.1 8))))))]:List Int))))) (fun j23 =>
 (if (decide (8≤s6.1))=true then
 j23 a0.fHi
 else
 j23 a0.fLo))
 else
 some (.inl s6.2))
def M6 (a0:C7):Option ((List Int)) :=
 (S2 a0).bind fun r1 =>
 (if (!r1)=true then
 some ([]:List Int)
 else
 jn (fun m4:Int =>
 (loop (A0g a0) ((w64 (m4-1)),([]:List Int))).bind fun p19 =>
 some p19) (fun j5 =>
 (if a0.fV6=true then
 j5 16
 else
 j5 4)))
theorem A2q (a0:C7) (r:(List Int)) (h:M6 a0=some r):AC Tryz.prog 84 [(.d (C1 a0))] [] (.d (.list 1 (r.map (eI .u8)))) []:=by
 refine ac2 Tryz.func84 rfl rfl fun B hB hN L => ?_
 delta M6 at h
 refine sr (SQ tt) ?_
 apply AWp.seq
 obtain⟨r1,hr1,h⟩:=bindS h
 refine sr (SQ (fa (cl [] (J1 a0 r1 hr1)) tt)) ?_
 apply AWp.cond rfl<;>intro hg2
 ·have h:=A3 hg2 h
  refine sr (SQ tt) ?_
  apply AWp.ret
  apply B5
  obtain rfl:=oi h
  exact rt (Mat.trans (Mat.coeP (Ts:=[(2,(.d (.list 1 (([]:List Int).map (eI .u8)))))]) (Bs:=[]) (TwT.cons (x:=.nils) (by rfl) (Tw.leaf ⟨_,(Co.nils 1),rfl⟩) TwT.nil) TwB.nil) (mp [] [(2,(.d (.list 1 (([]:List Int).map (eI .u8)))))] [] hB)) [(.d (.list 1 (([]:List Int).map (eI .u8))))] (Res.tmp (by rfl) (by rfl) Res.nil) rfl
 ·have h:=A4 hg2 h
  apply AWp.skip
  apply A0
  refine sr (SQ tt) ?_
  apply AWp.seq
  refine sr (SQ tt) ?_
  refine gh [(1,_),(3,_),(11,_)] [(1001,some _)] hB rfl rfl (by rfl) ?_
  refine AWp.cut h (fun m4:Int=>([(1,(pt 1001)),(3,(i6 m4))]:EL)) (fun m4:Int=>([(1001,bd 27 (C1 a0))]:OL)) (fun m4 h E' O' hmat => ?_) (fun j5 hjj5 h => ?_)
  ·apply A0
   refine AWp.ghost hmat ?_
   refine sr (SQ tt) ?_
   apply AWp.seq
   refine sr (SQ tt) ?_
   apply AWp.block
   obtain⟨p19,hx27,h⟩:=bindS h
   refine lg (A0g a0) (fun s6:Int×(List Int)=>([(1,(pt 1001)),(4,(.sref 3004 1 0 s6.2.length)),(5,(i6 s6.1))]:EL)) (fun s6:Int×(List Int)=>([(1001,bd 27 (C1 a0)),(3004,some (.row 5 1 (s6.2.map (eI .u8))))]:OL)) (fun(p19:((List Int))) e E' O'=>e = .exit 0∧Mat B E' O' ([(4,(.sref 3004 1 0 p19.length))]:EL) ([(3004,some (.row 5 1 (p19.map (eI .u8))))]:OL)) hx27 (Mat.trans (Mat.beginP (n:=3004) (e:=5) (sz:=1) (Ts:=[(4,(.sref 3004 1 0 0))]) (Bs:=[]) hB (by decide) (by rfl) (by decide) (TwT.cons (x:=.nils) (by rfl) (Tw.leaf ⟨rfl,rfl⟩) TwT.nil) TwB.nil) (mp [] _ _ hB)) (fun s6 y h => ?_) (fun e E' O' hR => ?_)
   ·unfold A0g at h
    apply AWp.seq
    refine sr (SQ tt) ?_
    apply AWp.cond rfl<;>intro hg20
    ·have h:=A3 hg20 h
     apply AWp.skip
     apply A0
     apply AWp.seq
     apply AWp.block
     refine sr (SQ tt) ?_
     apply AWp.seq
     refine sr (SQ tt) ?_
     refine gh [(1,_),(4,_),(5,_),(6,_),(21,_)] [(1001,some _),(3004,some _)] hB rfl rfl (by rfl) ?_
     refine AWp.cut h (fun m22:Int=>([(1,(pt 1001)),(4,(.sref 3004 1 0 s6.2.length)),(5,(i6 s6.1)),(6,(.d (.int .u64 m22)))]:EL)) (fun m22:Int=>([(1001,bd 27 (C1 a0)),(3004,some (.row 5 1 (s6.2.map (eI .u8))))]:OL)) (fun m22 h E' O' hmat => ?_) (fun j23 hjj23 h => ?_)
     ·apply A0
      refine AWp.ghost hmat ?_
      obtain⟨hc24,h⟩:=B6 h
      refine rg (SQ (fa hc24 tt)) ?_
      apply E4
      apply A0
      refine rg (SQ tt) ?_
      obtain rfl:=oi h
      exact⟨rfl,(mp [(3004,1033)] _ _ hB)⟩
     ·apply AWp.cond rfl<;>intro hg25
      ·have h:=A3 hg25 h
       refine rg (SQ tt) ?_
       exact hjj23 _ h _ _ (mp [] _ _ hB)
      ·have h:=A4 hg25 h
       apply AWp.skip
       exact hjj23 _ h _ _ (mp [] _ _ hB)
    ·have h:=A4 hg20 h
     apply AWp.exit
     apply E5
     obtain rfl:=oi h
     exact⟨(fun hc=>by cases hc),rfl,(mp [] _ _ hB)⟩
   ·obtain⟨rfl,hmat⟩:=hR
    apply C2
    apply A0
    refine AWp.ghost hmat ?_
    refine sr (SQ tt) ?_
    apply AWp.ret
    obtain rfl:=oi h
    exact rt (Mat.trans (Mat.freezeP (n:=3004) (e:=5) (sz:=1) (es:=p19.map (eI .u8)) (Ts:=[(2,(.d (.list 1 (p19.map (eI .u8)))))]) (Bs:=[]) (by rfl) (TwT.cons (x:=(.sref 3004 1 0 p19.length)) (by rfl) (FrzL.all (by first | rfl | (simp;done) | (simp;omega) | omega)) TwT.nil) TwB.nil) (mp [] [(2,(.d (.list 1 (p19.map (eI .u8)))))] [] hB)) [(.d (.list 1 (p19.map (eI .u8))))] (Res.tmp (by rfl) (by rfl) Res.nil) rfl
  ·apply AWp.cond rfl<;>intro hg28
   ·have h:=A3 hg28 h
    refine rg (SQ tt) ?_
    exact hjj5 _ h _ _ (mp [] _ _ hB)
   ·have h:=A4 hg28 h
    apply AWp.skip
    exact hjj5 _ h _ _ (mp [] _ _ hB)
end
end Go.Proofs.YtkhjkjojjdkidaaGreatDoor
