/- Printed by gen.py: the Go functions as plain functions, and that the code does what they say. -/
import Derived.Test.YtkhjkjojjdkidaaGreatDoorChecked
import Derived.Test.YtkhjkjojjdkidaaGreatDoorVcYB
import Derived.Test.YtkhjkjojjdkidaaGreatDoorVcZ
import Derived.Test.YtkhjkjojjdkidaaGreatDoorVcGC
import Derived.KernelRfl
import Derived.Test.YtkhjkjojjdkidaaGreatDoorVcMD
import Derived.Test.YtkhjkjojjdkidaaGreatDoorVcMQ
import Derived.Test.YtkhjkjojjdkidaaGreatDoorVcSG
import Derived.Test.YtkhjkjojjdkidaaGreatDoorFnsA
import Derived.Test.YtkhjkjojjdkidaaGreatDoorExt
import Derived.Test.YtkhjkjojjdkidaaGreatDoorVcPm
import Derived.Test.YtkhjkjojjdkidaaGreatDoorVcRg
import Derived.Test.YtkhjkjojjdkidaaGreatDoorVcSt
import Derived.Test.YtkhjkjojjdkidaaGreatDoorVcMR
namespace Go.Proofs.YtkhjkjojjdkidaaGreatDoor
open Go Go.Vc
open Tryz
open Go.Vc.OpJ (assign alloc lss pickT pickF extract lenD indexD loadD eqlI gtr callVal leq geq loadR nilP indexS buildSlice lenS fieldD neqI pickAnd pickOr)
open Go.Vc.AWp (seq ghost ret block)
set_option maxHeartbeats 4000000
set_option maxRecDepth 100000
noncomputable section
def N6 (a1:(List Int)) (s1:Int×(List Int)):Option ((((List Int)))⊕(Int×(List Int))) :=
 (if (decide (s1.1<(a1.length:Int)))=true then
 (idx a1 s1.1).bind fun x10 =>
 chk (decide ((s1.2++([(IntKind.u8.wrap (shrI .i64 x10 24)),(IntKind.u8.wrap (shrI .i64 x10 16)),(IntKind.u8.wrap (shrI .i64 x10 8)),(IntKind.u8.wrap x10)]:List Int)).length≤LIM)) <|
 some (.inr ((w64 (s1.1+1)),(s1.2++([(IntKind.u8.wrap (shrI .i64 x10 24)),(IntKind.u8.wrap (shrI .i64 x10 16)),(IntKind.u8.wrap (shrI .i64 x10 8)),(IntKind.u8.wrap x10)]:List Int))))
 else
 some (.inl s1.2))
def M3 (a0:(List Int)) (a1:(List Int)):Option ((List Int)) :=
 (loop (N6 a1) (0,a0)).bind fun p8 =>
 some p8
theorem A06 (a0:(List Int)) (a1:(List Int)) (r:(List Int)) (h:M3 a0 a1=some r):AC Tryz.prog 134 [(.sref 0 1 0 a0.length),(.d (.list 1 (a1.map (eI .i64))))] [(0,(.row 5 1 (a0.map (eI .u8))))] (.sref 900000 1 0 r.length) [(0,none),(900000,some (.row 5 1 (r.map (eI .u8))))]:=by
 refine ac2 Tryz.func134 rfl rfl fun B hB hN L => ?_
 delta M3 at h
 refine sr (SQ tt) ?_
 apply seq
 refine sr (SQ tt) ?_
 apply block
 obtain⟨p8,hx13,h⟩:=bindS h
 refine lg (N6 a1) (fun s1:Int×(List Int)=>([(0,(.sref 3000 1 0 s1.2.length)),(7,(qI_1 a1)),(8,(i6 (a1.length:Int))),(9,(i6 s1.1))]:EL)) (fun s1:Int×(List Int)=>([(3000,some (.row 5 1 (s1.2.map (eI .u8))))]:OL)) (fun(p8:((List Int))) e E' O'=>e = .exit 0∧Mat B E' O' ([(0,(.sref 3000 1 0 p8.length))]:EL) ([(3000,some (.row 5 1 (p8.map (eI .u8))))]:OL)) hx13 (mp [(3000,0)] _ _ hB) (fun s1 y h => ?_) (fun e E' O' hR => ?_)
 ·unfold N6 at h
  refine sr (SQ tt) ?_
  apply seq
  apply AWp.cond rfl<;>intro hg9
  ·have h:=A5 hg9 h
   apply AWp.skip
   apply A0
   apply seq
   apply block
   obtain⟨_,hx10,h⟩:=bindS h
   refine sr (SQ (fa hx10 tt)) ?_
   obtain⟨hc11,h⟩:=C0 h
   have hc11_o:=hc11
   simp only [decide_eq_true_eq] at hc11_o
   refine rg (SQ (fa hc11 tt)) ?_
   apply E4
   apply A0
   refine rg (SQ tt) ?_
   obtain rfl:=oi h
   exact⟨rfl,(mp [(3000,1026)] _ _ hB)⟩
  ·have h:=A6 hg9 h
   apply AWp.exit
   apply E5
   obtain rfl:=oi h
   exact⟨(fun hc=>by cases hc),rfl,(mp [] _ _ hB)⟩
 ·obtain⟨rfl,hmat⟩:=hR
  apply C6
  apply A0
  refine ghost hmat ?_
  refine sr (SQ tt) ?_
  apply ret
  obtain rfl:=oi h
  exact rt (mp [(900000,3000)] [(4,(.sref 900000 1 0 p8.length))] [(900000,some (.row 5 1 (p8.map (eI .u8))))] hB) [(.sref 900000 1 0 p8.length)] (rT rN) rfl
def M1 (a0:(List B8)) (s1:Int×(List Int)):Option ((((List Int)))⊕(Int×(List Int))) :=
 (if (decide (s1.1<(a0.length:Int)))=true then
 (idx a0 s1.1).bind fun x20 =>
 jn (fun m22:Int =>
 chk (decide ((s1.2++([m22,(IntKind.u8.wrap (x20.fASNs.length:Int))]:List Int)).length≤LIM)) <|
 (M3 (s1.2++([m22,(IntKind.u8.wrap (x20.fASNs.length:Int))]:List Int)) x20.fASNs).bind fun r25 =>
 some (.inr ((w64 (s1.1+1)),r25))) (fun j23 =>
 (if x20.fSet=true then
 j23 1
 else
 j23 2))
 else
 some (.inl s1.2))
def N7 (a0:(List B8)):Option ((List Int)) :=
 (loop (M1 a0) (0,([]:List Int))).bind fun p18 =>
 some p18
theorem A6a (a0:(List B8)) (r:(List Int)) (h:N7 a0=some r):AC Tryz.prog 133 [(.d (.list 2 (a0.map C4)))] [] (.d (.list 1 (r.map (eI .u8)))) []:=by
 refine ac2 Tryz.func133 rfl rfl fun B hB hN L => ?_
 delta N7 at h
 refine sr (SQ tt) ?_
 refine sr (SQ tt) ?_
 apply seq
 refine sr (SQ tt) ?_
 apply block
 obtain⟨p18,hx28,h⟩:=bindS h
 refine lg (M1 a0) (fun s1:Int×(List Int)=>([(3,(.sref 3003 1 0 s1.2.length)),(7,(B0 a0)),(8,(i6 (a0.length:Int))),(9,(i6 s1.1))]:EL)) (fun s1:Int×(List Int)=>([(3003,some (.row 5 1 (s1.2.map (eI .u8))))]:OL)) (fun(p18:((List Int))) e E' O'=>e = .exit 0∧Mat B E' O' ([(3,(.sref 3003 1 0 p18.length))]:EL) ([(3003,some (.row 5 1 (p18.map (eI .u8))))]:OL)) hx28 (Mat.trans (Mat.beginP (n:=3003) (e:=5) (sz:=1) (Ts:=[(3,(.sref 3003 1 0 0))]) (Bs:=[]) hB (by decide) (by rfl) (by decide) (TwT.cons (x:=.nils) (by rfl) (Tw.leaf ⟨rfl,rfl⟩) TwT.nil) TwB.nil) (mp [] _ _ hB)) (fun s1 y h => ?_) (fun e E' O' hR => ?_)
 ·unfold M1 at h
  refine sr (SQ tt) ?_
  apply seq
  apply AWp.cond rfl<;>intro hg19
  ·have h:=A5 hg19 h
   apply AWp.skip
   apply A0
   apply seq
   apply block
   obtain⟨x20,hx20,h⟩:=bindS h
   refine sr (SQ (fa hx20 tt)) ?_
   refine sr (SQ tt) ?_
   apply seq
   refine sr (SQ tt) ?_
   refine gh [(3,_),(5,_),(6,_),(7,_),(8,_),(9,_),(14,_)] [(1005,some _),(3003,some _)] hB rfl rfl (by rfl) ?_
   refine AWp.cut h (fun m22:Int=>([(3,(.sref 3003 1 0 s1.2.length)),(5,(pt 1005)),(6,(.d (.int .u8 m22))),(7,(B0 a0)),(8,(i6 (a0.length:Int))),(9,(i6 s1.1))]:EL)) (fun m22:Int=>([(1005,bd 66 (C4 x20)),(3003,some (.row 5 1 (s1.2.map (eI .u8))))]:OL)) (fun m22 h E' O' hmat => ?_) (fun j23 hjj23 h => ?_)
   ·apply A0
    refine ghost hmat ?_
    obtain⟨hc24,h⟩:=C0 h
    obtain⟨r25,hr25,h⟩:=bindS h
    refine drS (SQ (fa hc24 (fa (cl [(0,1022),(900000,100000)] (A06 (s1.2++([m22,(IntKind.u8.wrap (x20.fASNs.length:Int))]:List Int)) x20.fASNs r25 hr25)) tt))) ?_
    apply E4
    apply A0
    refine ghost (mp [] [(3,(.sref 100000 1 0 r25.length)),(7,(B0 a0)),(8,(i6 (a0.length:Int))),(9,(i6 s1.1))] [(100000,some (.row 5 1 (r25.map (eI .u8))))] hB) ?_
    refine rg (SQ tt) ?_
    obtain rfl:=oi h
    exact⟨rfl,(mp [(3003,100000)] _ _ hB)⟩
   ·apply AWp.cond rfl<;>intro hg26
    ·have h:=A5 hg26 h
     refine rg (SQ tt) ?_
     exact hjj23 _ h _ _ (mp [] _ _ hB)
    ·have h:=A6 hg26 h
     apply AWp.skip
     exact hjj23 _ h _ _ (mp [] _ _ hB)
  ·have h:=A6 hg19 h
   apply AWp.exit
   apply E5
   obtain rfl:=oi h
   exact⟨(fun hc=>by cases hc),rfl,(mp [] _ _ hB)⟩
 ·obtain⟨rfl,hmat⟩:=hR
  apply C6
  apply A0
  refine ghost hmat ?_
  refine sr (SQ tt) ?_
  apply ret
  obtain rfl:=oi h
  exact rt (Mat.trans (Mat.freezeP (n:=3003) (e:=5) (sz:=1) (es:=p18.map (eI .u8)) (Ts:=[(2,(.d (.list 1 (p18.map (eI .u8)))))]) (Bs:=[]) (by rfl) (TwT.cons (x:=(.sref 3003 1 0 p18.length)) (by rfl) (FrzL.all (by first | rfl | (simp;done) | (simp;omega) | omega)) TwT.nil) TwB.nil) (mp [] [(2,(.d (.list 1 (p18.map (eI .u8)))))] [] hB)) [(.d (.list 1 (p18.map (eI .u8))))] (rT rN) rfl
def C8 (a0:Bool) (a1:Int) (a2:(List Int)) (a3:(List A1)):Option ((List A1)) :=
 jn (fun m3:(List A1) =>
 some m3) (fun j4 =>
 (if a0=true then
 chk (decide ((a3++[(A1.mk (ilk gv0 a1) a1 a2)]).length≤LIM)) <|
 j4 (a3++[(A1.mk (ilk gv0 a1) a1 a2)])
 else
 j4 a3))
theorem G4 (a0:Bool) (a1:Int) (a2:(List Int)) (a3:(List A1)) (r:(List A1)) (h:C8 a0 a1 a2 a3=some r):AC Tryz.prog 132 [(.d (.bool a0)),(.d (.int .i64 a1)),(.d (.list 1 (a2.map (eI .u8)))),(pt 0)] [(0,(.box 33 (.sref 1 3 0 a3.length))),(1,(.row 69 3 (a3.map A8))),(500,(.know (globD 0 (.imap gv0))))] (.tup []) [(1,none),(0,some (.box 33 (.sref 950000 3 0 r.length))),(500,some (.know (globD 0 (.imap gv0)))),(950000,some (.row 69 3 (r.map A8)))]:=by
 refine AC.of_code2 Tryz.func132 rfl rfl (Nat.le_of_ble_eq_true (by rfl)) fun B hB hN => ?_
 delta C8 at h
 refine sr (SQ tt) ?_
 refine gh [(1,_),(2,_),(3,_),(7,_)] [(0,some _),(1,some _),(500,some _)] hB rfl rfl (by rfl) ?_
 refine AWp.cut h (fun m3:(List A1)=>([]:EL)) (fun m3:(List A1)=>([(0,some (.box 33 (.sref 3000 3 0 m3.length))),(500,some (.know (globD 0 (.imap gv0)))),(3000,some (D2 m3))]:OL)) (fun m3 h E' O' hmat => ?_) (fun j4 hjj4 h => ?_)
 ·obtain rfl:=oi h
  exact⟨.inr rfl,_,_,(Mat.trans hmat (mp [(950000,3000)] [] [(0,some (.box 33 (.sref 950000 3 0 m3.length))),(500,some (.know (globD 0 (.imap gv0)))),(950000,some (D2 m3))] hB)),[],rN,rfl,by rfl,by rfl,by rfl⟩
 ·apply AWp.cond rfl<;>intro hg5
  ·have h:=A5 hg5 h
   obtain⟨hc6,h⟩:=C0 h
   have hc6_o:=hc6
   simp only [decide_eq_true_eq] at hc6_o
   apply rg (c (lb hN 33 _ _ tyS33 (At.here _) (q 3)) rfl (cg (OpJ.loadGD (nm:=500) (.imap gv0) tyS164 (by rfl) (by rfl) (by simp) (ltN hN rfl)) rfl (c (mv hN (q 1)) rfl (cg (OpJ.ilook tyU164 underlying3 keyEq3 tyZD3 (ltN hN rfl) (q 9) (q 10)) rfl (c (mv hN (q 1)) rfl (c (mv hN (q 2)) rfl (c (OpJ.coe (v:=(.st [(i6 (ilk gv0 a1)),(i6 a1),(.d (.list 1 (a2.map (eI .u8))))])) (y:=(.st [(.int .i64 (ilk gv0 a1)),(.int .i64 a1),(.list 1 (a2.map (eI .u8)))])) (Co.st (CoL.cons (Co.d _) (CoL.cons (Co.d _) (CoL.cons (Co.d _) CoL.nil)))) rfl (OpJ.build (places:=[(0,1),(1,1),(2,1)]) ⟨underlying69,fun w=>by kernel_rfl⟩ tyZS69 (Opds.cons (q 11) (Opds.cons (q 12) (Opds.cons (q 13) Opds.nil))) (by kernel_rfl) (r:=(.st [(i6 (ilk gv0 a1)),(i6 a1),(.d (.list 1 (a2.map (eI .u8))))])) (by rfl) (ltN hN rfl))) rfl (c (buildSlice underlying33 tyS69 tyZD69 (by rfl) (by decide) (by decide) (Opds.cons (q 14) Opds.nil) (by kernel_rfl) (es:=([(.st [(.int .i64 (ilk gv0 a1)),(.int .i64 a1),(.list 1 (a2.map (eI .u8)))])]:List D)) (by rfl) (by rfl) (by kernel_rfl) (by simp) (ltN hN rfl)) rfl (cg (OpJ.append hB underlying33 tyE69 (nm:=1016) (by decide) (es:=a3.map A8) (ys:=[(A1.mk (ilk gv0 a1) a1 a2)].map A8) (es':=(a3++[(A1.mk (ilk gv0 a1) a1 a2)]).map A8) (len:=(a3++[(A1.mk (ilk gv0 a1) a1 a2)]).length) (by simp) (by simp) (A45 (f:=A8) (fun _=>rfl)) (by rw [List.length_map];exact Y8 hc6 (by decide)) (by rw [List.length_map];exact A2c hc6) (ltN hN rfl) (by simp) (q 8) (q 15)) rfl (cg (sB tyS33 (q 3) (q 16)) rfl cn))))))))))
   exact hjj4 _ h _ _ (mp [(3000,1016)] _ _ hB)
  ·have h:=A6 hg5 h
   apply AWp.skip
   exact hjj4 _ h _ _ (mp [(3000,1)] _ _ hB)
def A1n (s7:Int×(List Int)×D3):Option ((((List Int)))⊕(Int×(List Int)×D3)) :=
 (if (decide (0≤s7.1))=true then
 (idx s7.2.1 s7.1).bind fun _ =>
 (idx s7.2.1 s7.1).bind fun _ =>
 some (.inr ((w64 (s7.1-1)),(s7.2.1.set s7.1.toNat (IntKind.u8.wrap s7.2.2.fLo)),(D3.mk s7.2.2.fV6 (shrI .u64 s7.2.2.fHi 8) (bitI .or .u64 (shrI .u64 s7.2.2.fLo 8) (shlI .u64 s7.2.2.fHi 56)))))
 else
 some (.inl s7.2.1))
def S6 (a0:D3):Option ((List Int)) :=
 (S2 a0).bind fun r1 =>
 (if (!r1)=true then
 some ([]:List Int)
 else
 jn (fun m4:Int =>
 chk ((decide (0≤m4)&&decide (m4≤m4)&&decide (m4≤(LIM:Int)))) <|
 (loop (A1n) ((w64 (m4-1)),(List.replicate m4.toNat 0),a0)).bind fun p14 =>
 some p14) (fun j5 =>
 (if a0.fV6=true then
 j5 16
 else
 j5 4)))
theorem A1o (a0:D3) (r:(List Int)) (h:S6 a0=some r):AC Tryz.prog 122 [(.d (C9 a0))] [] (.d (.list 1 (r.map (eI .u8)))) []:=by
 refine ac2 Tryz.func122 rfl rfl fun B hB hN L => ?_
 delta S6 at h
 refine sr (SQ tt) ?_
 apply seq
 obtain⟨r1,hr1,h⟩:=bindS h
 refine sr (SQ (fa (cl [] (G3 a0 r1 hr1)) tt)) ?_
 apply AWp.cond rfl<;>intro hg2
 ·have h:=A5 hg2 h
  refine sr (SQ tt) ?_
  apply ret
  apply B9
  obtain rfl:=oi h
  exact rt (Mat.trans (Mat.coeP (Ts:=[(2,(.d (.list 1 (([]:List Int).map (eI .u8)))))]) (Bs:=[]) (TwT.cons (x:=.nils) (by rfl) (Tw.leaf ⟨_,(Co.nils 1),rfl⟩) TwT.nil) TwB.nil) (mp [] [(2,(.d (.list 1 (([]:List Int).map (eI .u8)))))] [] hB)) [(.d (.list 1 (([]:List Int).map (eI .u8))))] (rT rN) rfl
 ·have h:=A6 hg2 h
  apply AWp.skip
  apply A0
  refine sr (SQ tt) ?_
  apply seq
  refine sr (SQ tt) ?_
  refine gh [(1,_),(3,_),(10,_)] [(1001,some _)] hB rfl rfl (by rfl) ?_
  refine AWp.cut h (fun m4:Int=>([(1,(pt 1001)),(3,(i6 m4))]:EL)) (fun m4:Int=>([(1001,bd 27 (C9 a0))]:OL)) (fun m4 h E' O' hmat => ?_) (fun j5 hjj5 h => ?_)
  ·apply A0
   refine ghost hmat ?_
   obtain⟨hc6,h⟩:=C0 h
   refine sr (SQ (fa hc6 tt)) ?_
   apply seq
   refine sr (SQ tt) ?_
   apply block
   obtain⟨p14,hx19,h⟩:=bindS h
   refine lg (A1n) (fun s7:Int×(List Int)×D3=>([(1,(pt 1001)),(4,(.sref 1012 1 0 s7.2.1.length)),(5,(i6 s7.1))]:EL)) (fun s7:Int×(List Int)×D3=>([(1001,bd 27 (C9 s7.2.2)),(1012,some (.row 5 1 (s7.2.1.map (eI .u8))))]:OL)) (fun(p14:((List Int))) e E' O'=>e = .exit 0∧Mat B E' O' ([(4,(.sref 1012 1 0 p14.length))]:EL) ([(1012,some (.row 5 1 (p14.map (eI .u8))))]:OL)) hx19 (mp [] _ _ hB) (fun s7 y h => ?_) (fun e E' O' hR => ?_)
   ·unfold A1n at h
    apply seq
    refine sr (SQ tt) ?_
    apply AWp.cond rfl<;>intro hg15
    ·have h:=A5 hg15 h
     apply AWp.skip
     apply A0
     apply seq
     apply block
     obtain⟨_,hx16,h⟩:=bindS h
     obtain⟨_,hx17,h⟩:=bindS h
     refine sr (SQ (fa hx16 (fa hx17 (fa (sv (IntKind.u8.wrap s7.2.2.fLo)) tt)))) ?_
     refine sr (SQ tt) ?_
     refine rg (SQ tt) ?_
     apply E4
     apply A0
     refine rg (SQ tt) ?_
     obtain rfl:=oi h
     exact⟨rfl,(Mat.trans (mp [] [(1,(pt 1001)),(4,(.sref 1012 1 0 s7.2.1.length)),(5,(i6 (w64 (s7.1-1))))] [(1001,some (.box 27 (.d (.st [(.bool s7.2.2.fV6),(.int .u64 (shrI .u64 s7.2.2.fHi 8)),(.int .u64 (bitI .or .u64 (shrI .u64 s7.2.2.fLo 8) (shlI .u64 s7.2.2.fHi 56)))])))),(1012,some (.row 5 1 ((s7.2.1.set s7.1.toNat (IntKind.u8.wrap s7.2.2.fLo)).map (eI .u8))))] hB) (Mat.trans (Mat.lenP (Ts:=[(4,(.sref 1012 1 0 ((s7.2.1.set s7.1.toNat (IntKind.u8.wrap s7.2.2.fLo)).length)))]) (Bs:=[]) (TwT.cons (x:=(.sref 1012 1 0 s7.2.1.length)) (by rfl) (Tw.leaf ⟨_,_,_,_,_,rfl,rfl,(by first | rfl | (simp;done) | (simp;omega) | omega)⟩) TwT.nil) TwB.nil) (mp [] _ _ hB)))⟩
    ·have h:=A6 hg15 h
     apply AWp.exit
     apply E5
     obtain rfl:=oi h
     exact⟨(fun hc=>by cases hc),rfl,(mp [] _ _ hB)⟩
   ·obtain⟨rfl,hmat⟩:=hR
    apply C6
    apply A0
    refine ghost hmat ?_
    refine sr (SQ tt) ?_
    apply ret
    obtain rfl:=oi h
    exact rt (Mat.trans (Mat.freezeP (n:=1012) (e:=5) (sz:=1) (es:=p14.map (eI .u8)) (Ts:=[(2,(.d (.list 1 (p14.map (eI .u8)))))]) (Bs:=[]) (by rfl) (TwT.cons (x:=(.sref 1012 1 0 p14.length)) (by rfl) (FrzL.all (by first | rfl | (simp;done) | (simp;omega) | omega)) TwT.nil) TwB.nil) (mp [] [(2,(.d (.list 1 (p14.map (eI .u8)))))] [] hB)) [(.d (.list 1 (p14.map (eI .u8))))] (rT rN) rfl
  ·apply AWp.cond rfl<;>intro hg20
   ·have h:=A5 hg20 h
    refine rg (SQ tt) ?_
    exact hjj5 _ h _ _ (mp [] _ _ hB)
   ·have h:=A6 hg20 h
    apply AWp.skip
    exact hjj5 _ h _ _ (mp [] _ _ hB)
def N8 (a0:(List Int)) (s1:Int×(List Int)):Option ((((List Int)))⊕(Int×(List Int))) :=
 (if (decide (s1.1<(a0.length:Int)))=true then
 (idx a0 s1.1).bind fun x10 =>
 chk (decide ((s1.2++([(IntKind.u8.wrap (shrI .i64 x10 24)),(IntKind.u8.wrap (shrI .i64 x10 16)),(IntKind.u8.wrap (shrI .i64 x10 8)),(IntKind.u8.wrap x10)]:List Int)).length≤LIM)) <|
 some (.inr ((w64 (s1.1+1)),(s1.2++([(IntKind.u8.wrap (shrI .i64 x10 24)),(IntKind.u8.wrap (shrI .i64 x10 16)),(IntKind.u8.wrap (shrI .i64 x10 8)),(IntKind.u8.wrap x10)]:List Int))))
 else
 some (.inl s1.2))
def M4 (a0:(List Int)):Option ((List Int)) :=
 (loop (N8 a0) (0,([]:List Int))).bind fun p8 =>
 some p8
theorem A07 (a0:(List Int)) (r:(List Int)) (h:M4 a0=some r):AC Tryz.prog 134 [.nils,(.d (.list 1 (a0.map (eI .i64))))] [] (.d (.list 1 (r.map (eI .u8)))) []:=by
 refine ac2 Tryz.func134 rfl rfl fun B hB hN L => ?_
 delta M4 at h
 refine sr (SQ tt) ?_
 apply seq
 refine sr (SQ tt) ?_
 apply block
 obtain⟨p8,hx13,h⟩:=bindS h
 refine lg (N8 a0) (fun s1:Int×(List Int)=>([(0,(.sref 3000 1 0 s1.2.length)),(7,(qI_1 a0)),(8,(i6 (a0.length:Int))),(9,(i6 s1.1))]:EL)) (fun s1:Int×(List Int)=>([(3000,some (.row 5 1 (s1.2.map (eI .u8))))]:OL)) (fun(p8:((List Int))) e E' O'=>e = .exit 0∧Mat B E' O' ([(0,(.sref 3000 1 0 p8.length))]:EL) ([(3000,some (.row 5 1 (p8.map (eI .u8))))]:OL)) hx13 (Mat.trans (Mat.beginP (n:=3000) (e:=5) (sz:=1) (Ts:=[(0,(.sref 3000 1 0 0))]) (Bs:=[]) hB (by decide) (by rfl) (by decide) (TwT.cons (x:=.nils) (by rfl) (Tw.leaf ⟨rfl,rfl⟩) TwT.nil) TwB.nil) (mp [] _ _ hB)) (fun s1 y h => ?_) (fun e E' O' hR => ?_)
 ·unfold N8 at h
  refine sr (SQ tt) ?_
  apply seq
  apply AWp.cond rfl<;>intro hg9
  ·have h:=A5 hg9 h
   apply AWp.skip
   apply A0
   apply seq
   apply block
   obtain⟨_,hx10,h⟩:=bindS h
   refine sr (SQ (fa hx10 tt)) ?_
   obtain⟨hc11,h⟩:=C0 h
   refine rg (SQ (fa hc11 tt)) ?_
   apply E4
   apply A0
   refine rg (SQ tt) ?_
   obtain rfl:=oi h
   exact⟨rfl,(mp [(3000,1026)] _ _ hB)⟩
  ·have h:=A6 hg9 h
   apply AWp.exit
   apply E5
   obtain rfl:=oi h
   exact⟨(fun hc=>by cases hc),rfl,(mp [] _ _ hB)⟩
 ·obtain⟨rfl,hmat⟩:=hR
  apply C6
  apply A0
  refine ghost hmat ?_
  refine sr (SQ tt) ?_
  apply ret
  obtain rfl:=oi h
  exact rt (Mat.trans (Mat.freezeP (n:=3000) (e:=5) (sz:=1) (es:=p8.map (eI .u8)) (Ts:=[(4,(.d (.list 1 (p8.map (eI .u8)))))]) (Bs:=[]) (by rfl) (TwT.cons (x:=(.sref 3000 1 0 p8.length)) (by rfl) (FrzL.all (by first | rfl | (simp;done) | (simp;omega) | omega)) TwT.nil) TwB.nil) (mp [] [(4,(.d (.list 1 (p8.map (eI .u8)))))] [] hB)) [(.d (.list 1 (p8.map (eI .u8))))] (rT rN) rfl
def L2 (a0:(List B4)) (s1:Int×(List Int)):Option ((((List Int)))⊕(Int×(List Int))) :=
 (if (decide (s1.1<(a0.length:Int)))=true then
 (idx a0 s1.1).bind fun x10 =>
 (M3 s1.2 ([(bitI .or .i64 (shlI .i64 x10.fA 16) x10.fB)]:List Int)).bind fun r11 =>
 some (.inr ((w64 (s1.1+1)),r11))
 else
 some (.inl s1.2))
def K3 (a0:(List B4)):Option ((List Int)) :=
 (loop (L2 a0) (0,([]:List Int))).bind fun p8 =>
 some p8
theorem A3j (a0:(List B4)) (r:(List Int)) (h:K3 a0=some r):AC Tryz.prog 135 [(.d (.list 2 (a0.map B7)))] [] (.d (.list 1 (r.map (eI .u8)))) []:=by
 refine ac2 Tryz.func135 rfl rfl fun B hB hN L => ?_
 delta K3 at h
 refine sr (SQ tt) ?_
 refine sr (SQ tt) ?_
 apply seq
 refine sr (SQ tt) ?_
 apply block
 obtain⟨p8,hx13,h⟩:=bindS h
 refine lg (L2 a0) (fun s1:Int×(List Int)=>([(3,(.sref 3003 1 0 s1.2.length)),(6,(A9 a0)),(7,(i6 (a0.length:Int))),(8,(i6 s1.1))]:EL)) (fun s1:Int×(List Int)=>([(3003,some (.row 5 1 (s1.2.map (eI .u8))))]:OL)) (fun(p8:((List Int))) e E' O'=>e = .exit 0∧Mat B E' O' ([(3,(.sref 3003 1 0 p8.length))]:EL) ([(3003,some (.row 5 1 (p8.map (eI .u8))))]:OL)) hx13 (Mat.trans (Mat.beginP (n:=3003) (e:=5) (sz:=1) (Ts:=[(3,(.sref 3003 1 0 0))]) (Bs:=[]) hB (by decide) (by rfl) (by decide) (TwT.cons (x:=.nils) (by rfl) (Tw.leaf ⟨rfl,rfl⟩) TwT.nil) TwB.nil) (mp [] _ _ hB)) (fun s1 y h => ?_) (fun e E' O' hR => ?_)
 ·unfold L2 at h
  refine sr (SQ tt) ?_
  apply seq
  apply AWp.cond rfl<;>intro hg9
  ·have h:=A5 hg9 h
   apply AWp.skip
   apply A0
   apply seq
   apply block
   obtain⟨x10,hx10,h⟩:=bindS h
   refine sr (SQ (fa hx10 tt)) ?_
   obtain⟨r11,hr11,h⟩:=bindS h
   refine rg (SQ (fa (cl [(0,3003),(900000,100000)] (A06 s1.2 ([(bitI .or .i64 (shlI .i64 x10.fA 16) x10.fB)]:List Int) r11 hr11)) tt)) ?_
   apply E4
   apply A0
   refine ghost (mp [] [(3,(.sref 100000 1 0 r11.length)),(6,(A9 a0)),(7,(i6 (a0.length:Int))),(8,(i6 s1.1))] [(100000,some (.row 5 1 (r11.map (eI .u8))))] hB) ?_
   refine rg (SQ tt) ?_
   obtain rfl:=oi h
   exact⟨rfl,(mp [(3003,100000)] _ _ hB)⟩
  ·have h:=A6 hg9 h
   apply AWp.exit
   apply E5
   obtain rfl:=oi h
   exact⟨(fun hc=>by cases hc),rfl,(mp [] _ _ hB)⟩
 ·obtain⟨rfl,hmat⟩:=hR
  apply C6
  apply A0
  refine ghost hmat ?_
  refine sr (SQ tt) ?_
  apply ret
  obtain rfl:=oi h
  exact rt (Mat.trans (Mat.freezeP (n:=3003) (e:=5) (sz:=1) (es:=p8.map (eI .u8)) (Ts:=[(2,(.d (.list 1 (p8.map (eI .u8)))))]) (Bs:=[]) (by rfl) (TwT.cons (x:=(.sref 3003 1 0 p8.length)) (by rfl) (FrzL.all (by first | rfl | (simp;done) | (simp;omega) | omega)) TwT.nil) TwB.nil) (mp [] [(2,(.d (.list 1 (p8.map (eI .u8)))))] [] hB)) [(.d (.list 1 (p8.map (eI .u8))))] (rT rN) rfl
def S7 (a0:(List E6)) (s1:Int×(List Int)):Option ((((List Int)))⊕(Int×(List Int))) :=
 (if (decide (s1.1<(a0.length:Int)))=true then
 (idx a0 s1.1).bind fun x10 =>
 (M3 s1.2 ([x10.fA,x10.fB,x10.fC]:List Int)).bind fun r11 =>
 some (.inr ((w64 (s1.1+1)),r11))
 else
 some (.inl s1.2))
def T6 (a0:(List E6)):Option ((List Int)) :=
 (loop (S7 a0) (0,([]:List Int))).bind fun p8 =>
 some p8
theorem A5v (a0:(List E6)) (r:(List Int)) (h:T6 a0=some r):AC Tryz.prog 136 [(.d (.list 3 (a0.map D8)))] [] (.d (.list 1 (r.map (eI .u8)))) []:=by
 refine AC.of_code2 Tryz.func136 rfl rfl (Nat.le_of_ble_eq_true (by rfl)) fun B hB hN => ?_
 delta T6 at h
 refine sr (SQ tt) ?_
 refine sr (SQ tt) ?_
 apply seq
 refine sr (SQ tt) ?_
 apply block
 obtain⟨p8,hx13,h⟩:=bindS h
 refine lg (S7 a0) (fun s1:Int×(List Int)=>([(3,(.sref 3003 1 0 s1.2.length)),(6,(D0 a0)),(7,(i6 (a0.length:Int))),(8,(i6 s1.1))]:EL)) (fun s1:Int×(List Int)=>([(3003,some (.row 5 1 (s1.2.map (eI .u8))))]:OL)) (fun(p8:((List Int))) e E' O'=>e = .exit 0∧Mat B E' O' ([(3,(.sref 3003 1 0 p8.length))]:EL) ([(3003,some (.row 5 1 (p8.map (eI .u8))))]:OL)) hx13 (Mat.trans (Mat.beginP (n:=3003) (e:=5) (sz:=1) (Ts:=[(3,(.sref 3003 1 0 0))]) (Bs:=[]) hB (by decide) (by rfl) (by decide) (TwT.cons (x:=.nils) (by rfl) (Tw.leaf ⟨rfl,rfl⟩) TwT.nil) TwB.nil) (mp [] _ _ hB)) (fun s1 y h => ?_) (fun e E' O' hR => ?_)
 ·unfold S7 at h
  refine sr (SQ tt) ?_
  apply seq
  apply AWp.cond rfl<;>intro hg9
  ·have h:=A5 hg9 h
   apply AWp.skip
   apply A0
   apply seq
   apply block
   obtain⟨x10,hx10,h⟩:=bindS h
   refine sr (SQ (fa hx10 tt)) ?_
   obtain⟨r11,hr11,h⟩:=bindS h
   refine rg (SQ (fa (cl [(0,3003),(900000,100000)] (A06 s1.2 ([x10.fA,x10.fB,x10.fC]:List Int) r11 hr11)) tt)) ?_
   apply E4
   apply A0
   refine ghost (mp [] [(3,(.sref 100000 1 0 r11.length)),(6,(D0 a0)),(7,(i6 (a0.length:Int))),(8,(i6 s1.1))] [(100000,some (.row 5 1 (r11.map (eI .u8))))] hB) ?_
   refine rg (SQ tt) ?_
   obtain rfl:=oi h
   exact⟨rfl,(mp [(3003,100000)] _ _ hB)⟩
  ·have h:=A6 hg9 h
   apply AWp.exit
   apply E5
   obtain rfl:=oi h
   exact⟨(fun hc=>by cases hc),rfl,(mp [] _ _ hB)⟩
 ·obtain⟨rfl,hmat⟩:=hR
  apply C6
  apply A0
  refine ghost hmat ?_
  refine sr (SQ tt) ?_
  apply ret
  obtain rfl:=oi h
  exact rt (Mat.trans (Mat.freezeP (n:=3003) (e:=5) (sz:=1) (es:=p8.map (eI .u8)) (Ts:=[(2,(.d (.list 1 (p8.map (eI .u8)))))]) (Bs:=[]) (by rfl) (TwT.cons (x:=(.sref 3003 1 0 p8.length)) (by rfl) (FrzL.all (by first | rfl | (simp;done) | (simp;omega) | omega)) TwT.nil) TwB.nil) (mp [] [(2,(.d (.list 1 (p8.map (eI .u8)))))] [] hB)) [(.d (.list 1 (p8.map (eI .u8))))] (rT rN) rfl
def A1d (a0:(List Int)):Option (List Int):=chk (decide (a0.length≤LIM)) <|
 some a0
theorem A3k (a0:(List Int)) (r:List Int) (h:A1d a0=some r):AC Tryz.prog 137 [(.d (.list 1 (a0.map (eI .u8))))] [] (.d (.list 1 (r.map (eI .u8)))) []:=by
 obtain⟨hc,h⟩:=C0 h
 obtain rfl:=oi h
 exact AC.cloneD cloneOk137 (by rw [List.length_map];exact Y8 hc (by decide)) (A45 (f:=(eI .u8)) (fun _=>rfl))
def I1 (a0:A1) (a1:A1):Option (Int) :=
 (H9 a0.fType a1.fType).bind fun r1 =>
 some r1
theorem A54 (a0:A1) (a1:A1) (r:Int) (h:I1 a0 a1=some r):AC Tryz.prog 138 [(.d (A8 a0)),(.d (A8 a1))] [] (.d (.int .i64 r)) []:=by
 refine AC.of_code2 Tryz.func138 rfl rfl (Nat.le_of_ble_eq_true (by rfl)) fun B hB hN => ?_
 delta I1 at h
 refine sr (SQ tt) ?_
 obtain⟨r1,hr1,h⟩:=bindS h
 refine sr (SQ (fa (cl [] (J0 a0.fType a1.fType r1 hr1)) tt)) ?_
 apply ret
 obtain rfl:=oi h
 exact rt (kp [(4,_)] [] hB rfl rfl (by rfl)) [(i6 r1)] (rT rN) rfl
def K4 (a0:(List A1)):Option (List A1):=sortF a0 fun x y=>I1 x y
theorem R9 (a0:(List A1)) (r:List A1) (h:K4 a0=some r):AC Tryz.prog 123 [(.sref 0 3 0 a0.length),.func 138 []] [(0,(.row 69 3 (a0.map A8)))] (.tup []) [(0,some (.row 69 3 (r.map A8)))] :=
 AC.sortF A8 (fun x y=>I1 x y) a0 r h sortOk123 fnOk138 (fun _=>rfl) rfl rfl (fun x y c hc=>A54 x y c hc)
def T7 (a1:(List A2)) (a2:Bool) (s1:Int×(List Int)):Option ((((List Int)))⊕(Int×(List Int))) :=
 (if (decide (s1.1<(a1.length:Int)))=true then
 (idx a1 s1.1).bind fun x32 =>
 jn (fun m38:(List Int) =>
 some (.inr ((w64 (s1.1+1)),m38))) (fun j39 =>
 (if (x32.fAddr.fV6==a2)=true then
 chk (decide ((s1.2++([(IntKind.u8.wrap x32.fLen)]:List Int)).length≤LIM)) <|
 (S6 x32.fAddr).bind fun r42 =>
 chk ((decide (0≤(w64 (Int.tdiv (w64 (x32.fLen+7)) 8)))&&decide (0≤(w64 (Int.tdiv (w64 (x32.fLen+7)) 8)).toNat)&&decide ((w64 (Int.tdiv (w64 (x32.fLen+7)) 8)).toNat≤r42.length))) <|
 chk (decide (((s1.2++([(IntKind.u8.wrap x32.fLen)]:List Int))++((r42.take ((w64 (Int.tdiv (w64 (x32.fLen+7)) 8)).toNat)).drop 0)).length≤LIM)) <|
 j39 ((s1.2++([(IntKind.u8.wrap x32.fLen)]:List Int))++((r42.take ((w64 (Int.tdiv (w64 (x32.fLen+7)) 8)).toNat)).drop 0))
 else
 j39 s1.2))
 else
 some (.inl s1.2))
def S8 (a0:(List Int)) (a1:(List A2)) (a2:Bool):Option ((List Int)) :=
 (loop (T7 a1 a2) (0,a0)).bind fun p30 =>
 some p30
theorem A4e (a0:(List Int)) (a1:(List A2)) (a2:Bool) (r:(List Int)) (h:S8 a0 a1 a2=some r):AC Tryz.prog 114 [(.sref 0 1 0 a0.length),(.d (.list 4 (a1.map B3))),(.d (.bool a2))] [(0,(.row 5 1 (a0.map (eI .u8))))] (.d (.list 1 (r.map (eI .u8)))) [(0,none)]:=by
 refine ac2 Tryz.func114 rfl rfl fun B hB hN L => ?_
 delta S8 at h
 refine sr (SQ tt) ?_
 apply seq
 refine sr (SQ tt) ?_
 apply block
 obtain⟨p30,hx46,h⟩:=bindS h
 refine lg (T7 a1 a2) (fun s1:Int×(List Int)=>([(0,(.sref 3000 1 0 s1.2.length)),(2,(bo a2)),(9,(E0 a1)),(10,(i6 (a1.length:Int))),(11,(i6 s1.1))]:EL)) (fun s1:Int×(List Int)=>([(3000,some (.row 5 1 (s1.2.map (eI .u8))))]:OL)) (fun(p30:((List Int))) e E' O'=>e = .exit 0∧Mat B E' O' ([(0,(.sref 3000 1 0 p30.length))]:EL) ([(3000,some (.row 5 1 (p30.map (eI .u8))))]:OL)) hx46 (mp [(3000,0)] _ _ hB) (fun s1 y h => ?_) (fun e E' O' hR => ?_)
 ·unfold T7 at h
  refine sr (SQ tt) ?_
  apply seq
  apply AWp.cond rfl<;>intro hg31
  ·have h:=A5 hg31 h
   apply AWp.skip
   apply A0
   apply seq
   apply block
   obtain⟨x32,hx32,h⟩:=bindS h
   refine sr (SQ (fa hx32 tt)) ?_
   refine sr (SQ tt) ?_
   refine gh [(0,_),(2,_),(8,_),(9,_),(10,_),(11,_),(19,_)] [(1008,some _),(3000,some _)] hB rfl rfl (by rfl) ?_
   refine AWp.cut h (fun m38:(List Int)=>([(0,(.sref 3000 1 0 m38.length)),(2,(bo a2)),(9,(E0 a1)),(10,(i6 (a1.length:Int))),(11,(i6 s1.1))]:EL)) (fun m38:(List Int)=>([(3000,some (.row 5 1 (m38.map (eI .u8))))]:OL)) (fun m38 h E' O' hmat => ?_) (fun j39 hjj39 h => ?_)
   ·apply E4
    apply A0
    refine ghost hmat ?_
    refine rg (SQ tt) ?_
    obtain rfl:=oi h
    exact⟨rfl,(mp [] _ _ hB)⟩
   ·apply AWp.cond rfl<;>intro hg40
    ·have h:=A5 hg40 h
     obtain⟨hc41,h⟩:=C0 h
     have hc41_o:=hc41
     simp only [decide_eq_true_eq] at hc41_o
     obtain⟨r42,hr42,h⟩:=bindS h
     obtain⟨hc43,h⟩:=C0 h
     have hc43_o:=hc43
     simp only [Bool.and_eq_true,decide_eq_true_eq] at hc43_o
     obtain⟨hc44,h⟩:=C0 h
     have hc44_o:=hc44
     simp only [decide_eq_true_eq] at hc44_o
     refine drS (SQ (fa hc41 (fa (cl [] (A1o x32.fAddr r42 hr42)) (fa hc43 (fa hc44 tt))))) ?_
     exact hjj39 _ h _ _ (mp [(3000,1034)] _ _ hB)
    ·have h:=A6 hg40 h
     apply AWp.skip
     exact hjj39 _ h _ _ (mp [] _ _ hB)
  ·have h:=A6 hg31 h
   apply AWp.exit
   apply E5
   obtain rfl:=oi h
   exact⟨(fun hc=>by cases hc),rfl,(mp [] _ _ hB)⟩
 ·obtain⟨rfl,hmat⟩:=hR
  apply C6
  apply A0
  refine ghost hmat ?_
  refine sr (SQ tt) ?_
  apply ret
  obtain rfl:=oi h
  exact rt (Mat.trans (Mat.freezeP (n:=3000) (e:=5) (sz:=1) (es:=p30.map (eI .u8)) (Ts:=[(6,(.d (.list 1 (p30.map (eI .u8)))))]) (Bs:=[]) (by rfl) (TwT.cons (x:=(.sref 3000 1 0 p30.length)) (by rfl) (FrzL.all (by first | rfl | (simp;done) | (simp;omega) | omega)) TwT.nil) TwB.nil) (mp [] [(6,(.d (.list 1 (p30.map (eI .u8)))))] [] hB)) [(.d (.list 1 (p30.map (eI .u8))))] (rT rN) rfl
def L7 (a0:D1) (s18:Int×(List A1)):Option ((((List A1)))⊕(Int×(List A1))) :=
 (if (decide (s18.1<(a0.fOther.length:Int)))=true then
 (idx a0.fOther s18.1).bind fun x29 =>
 (A1d x29.fData).bind fun r30 =>
 chk (decide ((s18.2++[(A1.mk x29.fFlags x29.fType r30)]).length≤LIM)) <|
 some (.inr ((w64 (s18.1+1)),(s18.2++[(A1.mk x29.fFlags x29.fType r30)])))
 else
 some (.inl s18.2))
def J1 (a0:D1):Option ((List A1)×Int) :=
 (I3 a0).bind fun r1 =>
 (if (!r1)=true then
 some (([]:List A1),1)
 else
 (I0 (a0.fOrigin != (-1)) 1 ([(IntKind.u8.wrap a0.fOrigin)]:List Int)).bind fun r3 =>
 (N7 a0.fPath).bind fun r4 =>
 (C8 ((a0.fOrigin != (-1)) || (decide (0<(a0.fPath.length:Int)))) 2 r4 r3).bind fun r5 =>
 (S6 a0.fNext).bind fun r6 =>
 (C8 ((!a0.fNext.fV6)&&(!((a0.fNext.fV6==false)&&((a0.fNext.fHi==0)&&((a0.fNext.fLo==0)&&true))))) 3 r6 r5).bind fun r7 =>
 (M4 ([a0.fMED]:List Int)).bind fun r8 =>
 (C8 (a0.fMED != (-1)) 4 r8 r7).bind fun r9 =>
 (M4 ([a0.fPref]:List Int)).bind fun r10 =>
 (C8 (a0.fPref != (-1)) 5 r10 r9).bind fun r11 =>
 (K3 a0.fCommunities).bind fun r12 =>
 (C8 (decide (0<(a0.fCommunities.length:Int))) 8 r12 r11).bind fun r13 =>
 (T6 a0.fLarge).bind fun r14 =>
 (C8 (decide (0<(a0.fLarge.length:Int))) 32 r14 r13).bind fun r15 =>
 (M4 ([a0.fOTC]:List Int)).bind fun r16 =>
 (C8 (a0.fOTC != (-1)) 35 r16 r15).bind fun r17 =>
 (loop (L7 a0) (0,r17)).bind fun p27 =>
 (K4 p27).bind fun r34 =>
 chk (decide (r34.length=p27.length)) <|
 some (r34,0))
theorem A55 (a0:D1) (r:(List A1)×Int) (h:J1 a0=some r):AC Tryz.prog 121 [(.d (A3 a0))] [(500,(.know (globD 0 (.imap gv0))))] (.tup [(.sref 900000 3 0 r.1.length),(.d (.int .i64 r.2))]) [(500,some (.know (globD 0 (.imap gv0)))),(900000,some (.row 69 3 (r.1.map A8)))]:=by
 refine ac2 Tryz.func121 rfl rfl fun B hB hN L => ?_
 delta J1 at h
 apply sr (cg (OpJ.box hB (nm:=1001) (by decide) (by simp) rfl (L rfl) (q 0)) rfl (c (assign (L rfl) Opd.nils) rfl (c (assign (L rfl) (ii 0)) rfl cn)))
 apply seq
 apply seq
 obtain⟨r1,hr1,h⟩:=bindS h
 refine AWp.region (oc (lb hN 35 (.d (A3 a0)) (.d (A3 a0)) tyS35 (At.here _) (ot 1 (pt 1001)))
 (oc (OpJ.callFn hB fnOk111 (A05 a0 r1 hr1) [(500,500)] (by kernel_rfl) (L rfl) (by kernel_rfl) (OpdL.cons (ot 8 (.d (A3 a0))) OpdL.nil))
 (oc (OpJ.not (L rfl) (ot 9 (bo r1)))
 (OpJs.nil)))) (by rfl) (by rfl) ?_
 apply A0
 refine ghost (mp [] [(1,(pt 1001)),(10,(bo (!r1)))] [(500,some (.know (globD 0 (.imap gv0)))),(1001,bd 35 (A3 a0))] hB) ?_
 apply AWp.cond rfl<;>intro hg2
 ·have h:=A5 hg2 h
  apply sr (c (assign (L rfl) Opd.nils) rfl (c (assign (L rfl) (ii 1)) rfl cn))
  apply ret
  apply B9
  obtain rfl:=oi h
  exact rt (Mat.trans (Mat.beginP (n:=900500) (e:=69) (sz:=3) (Ts:=[(2,(.sref 900500 3 0 0))]) (Bs:=[]) hB (by decide) (by rfl) (by decide) (TwT.cons (x:=.nils) (by rfl) (Tw.leaf ⟨rfl,rfl⟩) TwT.nil) TwB.nil) (Mat.trans (Mat.lenP (Ts:=[(2,(.sref 900500 3 0 (([]:List A1).length)))]) (Bs:=[]) (TwT.cons (x:=(.sref 900500 3 0 0)) (by rfl) (Tw.leaf ⟨_,_,_,_,_,rfl,rfl,(by first | rfl | (simp;done) | (simp;omega) | omega)⟩) TwT.nil) TwB.nil) (mp [(900000,900500)] [(2,(.sref 900000 3 0 (([]:List A1).length))),(3,(i6 1))] [(500,some (.know (globD 0 (.imap gv0)))),(900000,some (D2 ([]:List A1)))] hB))) [(.sref 900000 3 0 (([]:List A1).length)),(i6 1)] (rT (rT rN)) rfl
 ·have h:=A6 hg2 h
  apply AWp.skip
  apply A0
  apply sr (cg (alloc hB tyZ33 (nm:=1004) (by decide) (L rfl)) rfl cn)
  apply sr (cg (OpJ.makeF (OpdL.cons (q 4) OpdL.nil) rfl rfl (L rfl)) rfl (c (assign (L rfl) (q 11)) rfl cn))
  apply seq
  obtain⟨r3,hr3,h⟩:=bindS h
  refine AWp.region (oc (mv hN (ot 5 (.func 132 [(pt 1004)])))
   (oc (ov (.ptr 1001 0 [0]) (fp hN underlying35 0 tyS3 (.box 35 (.d (A3 a0))) (ot 1 (pt 1001))))
   (oc (lb hN 35 (.d (A3 a0)) (i6 a0.fOrigin) tyS3 (ad (.int .i64 a0.fOrigin)) (ot 13 (.ptr 1001 0 [0])))
   (oc (neqI (L rfl) (ot 14 (i6 a0.fOrigin)) (ii (-1)))
   (oc (ov (.ptr 1001 0 [0]) (fp hN underlying35 0 tyS3 (.box 35 (.d (A3 a0))) (ot 1 (pt 1001))))
   (oc (lb hN 35 (.d (A3 a0)) (i6 a0.fOrigin) tyS3 (ad (.int .i64 a0.fOrigin)) (ot 16 (.ptr 1001 0 [0])))
   (oc (OpJ.conv underlying3 underlying5 (L rfl) (ot 17 (i6 a0.fOrigin)))
   (oc (buildSlice underlying67 tyS5 tyZD5 (by rfl) (by decide) (by decide) (Opds.cons (ot 18 (.d (.int .u8 (IntKind.u8.wrap a0.fOrigin)))) Opds.nil) (by kernel_rfl) (es:=([(.int .u8 (IntKind.u8.wrap a0.fOrigin))]:List D)) (by rfl) (by rfl) (by kernel_rfl) (by simp) (L rfl))
   (oc (callVal (args:=[(bo (a0.fOrigin != (-1))),(i6 1),(.d (.list 1 (([(IntKind.u8.wrap a0.fOrigin)]:List Int).map (eI .u8))))]) (caps:=[(pt 0)]) hB fnOk132 [(0,1004),(500,500),(950000,100100)] (A53 (a0.fOrigin != (-1)) 1 ([(IntKind.u8.wrap a0.fOrigin)]:List Int) r3 hr3) (by kernel_rfl) (L rfl) (by kernel_rfl) (by kernel_rfl) (OpdL.cons (ot 15 (bo (a0.fOrigin != (-1)))) (OpdL.cons (ii 1) (OpdL.cons (ot 19 (.d (.list 1 (([(IntKind.u8.wrap a0.fOrigin)]:List Int).map (eI .u8))))) OpdL.nil))))
   (OpJs.nil)))))))))) (by rfl) (by rfl) ?_
  apply A0
  refine ghost (mp [] [(1,(pt 1001)),(4,(pt 1004)),(5,(.func 132 [(pt 1004)]))] [(500,some (.know (globD 0 (.imap gv0)))),(1001,bd 35 (A3 a0)),(1004,some (.box 33 (.sref 100100 3 0 r3.length))),(100100,some (D2 r3))] hB) ?_
  apply seq
  obtain⟨r4,hr4,h⟩:=bindS h
  obtain⟨r5,hr5,h⟩:=bindS h
  refine AWp.draws (by kernel_rfl) (oc (mv hN (ot 5 (.func 132 [(pt 1004)])))
   (oc (ov (.ptr 1001 0 [0]) (fp hN underlying35 0 tyS3 (.box 35 (.d (A3 a0))) (ot 1 (pt 1001))))
   (oc (lb hN 35 (.d (A3 a0)) (i6 a0.fOrigin) tyS3 (ad (.int .i64 a0.fOrigin)) (ot 22 (.ptr 1001 0 [0])))
   (oc (neqI (L rfl) (ot 23 (i6 a0.fOrigin)) (ii (-1)))
   (oc (mv hN (ot 24 (bo (a0.fOrigin != (-1)))))
   (oc (op hN 25 (.ptr 1001 1 [1]) (ov (.ptr 1001 1 [1]) (fp hN underlying35 1 tyS30 (.box 35 (.d (A3 a0))) (ot 1 (pt 1001)))) (OptL.keep rfl OptL.nil) (GuardV.plain _))
   (oc (op hN 25 (B0 a0.fPath) (lb hN 35 (.d (A3 a0)) (B0 a0.fPath) tyS30 (ad (.list 2 (a0.fPath.map C4))) (ot 26 (.ptr 1001 1 [1]))) (OptL.opt OptL.nil) (GuardV.plain _))
   (oc (op hN 25 (i6 (a0.fPath.length:Int)) (OpJ.val (v':=(i6 (a0.fPath.length:Int))) (by simp) (lenD underlying30 (L rfl) (ot 27 (B0 a0.fPath)))) (OptL.opt OptL.nil) (GuardV.plain _))
   (oc (op hN 25 (bo (decide (0<(a0.fPath.length:Int)))) (gtr (L rfl) (ot 28 (i6 (a0.fPath.length:Int))) (ii 0)) (OptL.opt OptL.nil) (GuardV.plain _))
   (oc (pickOr rfl (L rfl) (ot 25 (bo (a0.fOrigin != (-1)))) (ot 29 (.opt ((a0.fOrigin != (-1))==false) (bo (decide (0<(a0.fPath.length:Int)))))))
   (oc (ov (.ptr 1001 1 [1]) (fp hN underlying35 1 tyS30 (.box 35 (.d (A3 a0))) (ot 1 (pt 1001))))
   (oc (lb hN 35 (.d (A3 a0)) (B0 a0.fPath) tyS30 (ad (.list 2 (a0.fPath.map C4))) (ot 31 (.ptr 1001 1 [1])))
   (oc (cf hB fnOk133 (A6a a0.fPath r4 hr4) (L rfl) (OpdL.cons (ot 32 (B0 a0.fPath)) OpdL.nil))
   (oc (callVal (args:=[(bo ((a0.fOrigin != (-1)) || (decide (0<(a0.fPath.length:Int))))),(i6 2),(.d (.list 1 (r4.map (eI .u8))))]) (caps:=[(pt 0)]) hB fnOk132 [(0,1004),(1,100100),(500,500),(950000,100300)] (G4 ((a0.fOrigin != (-1)) || (decide (0<(a0.fPath.length:Int)))) 2 r4 r3 r5 hr5) (by kernel_rfl) (L rfl) (by kernel_rfl) (by kernel_rfl) (OpdL.cons (ot 30 (bo ((a0.fOrigin != (-1)) || (decide (0<(a0.fPath.length:Int)))))) (OpdL.cons (ii 2) (OpdL.cons (ot 33 (.d (.list 1 (r4.map (eI .u8))))) OpdL.nil))))
   (OpJs.nil))))))))))))))) (by kernel_rfl) (by rfl) (by rfl) ?_
  apply A0
  refine ghost (mp [] [(1,(pt 1001)),(4,(pt 1004)),(5,(.func 132 [(pt 1004)]))] [(500,some (.know (globD 0 (.imap gv0)))),(1001,bd 35 (A3 a0)),(1004,some (.box 33 (.sref 100300 3 0 r5.length))),(100300,some (D2 r5))] hB) ?_
  apply seq
  obtain⟨r6,hr6,h⟩:=bindS h
  obtain⟨r7,hr7,h⟩:=bindS h
  refine AWp.draws (by kernel_rfl) (oc (mv hN (ot 5 (.func 132 [(pt 1004)])))
   (oc (ov (.ptr 1001 2 [2]) (fp hN underlying35 2 tyS27 (.box 35 (.d (A3 a0))) (ot 1 (pt 1001))))
   (oc (ov (.ptr 1001 2 [2,0]) (fp hN underlying27 0 tyS4 (.box 35 (.d (A3 a0))) (ot 36 (.ptr 1001 2 [2]))))
   (oc (lb hN 35 (.d (A3 a0)) (bo a0.fNext.fV6) tyS4 (At.dst1 (f:=(C9 a0.fNext)) (by rfl) (by rfl) (ad (.bool a0.fNext.fV6)) (by first | rfl | omega)) (ot 37 (.ptr 1001 2 [2,0])))
   (oc (OpJ.not (L rfl) (ot 38 (bo a0.fNext.fV6)))
   (oc (mv hN (ot 39 (bo (!a0.fNext.fV6))))
   (oc (op hN 40 (.ptr 1001 2 [2]) (ov (.ptr 1001 2 [2]) (fp hN underlying35 2 tyS27 (.box 35 (.d (A3 a0))) (ot 1 (pt 1001)))) (OptL.keep rfl OptL.nil) (GuardV.plain _))
   (oc (op hN 40 (.d (C9 a0.fNext)) (lb hN 35 (.d (A3 a0)) (.d (C9 a0.fNext)) tyS27 (ad (C9 a0.fNext)) (ot 41 (.ptr 1001 2 [2]))) (OptL.opt OptL.nil) (GuardV.plain _))
   (oc (op hN 40 (.d (.st [(.bool false),(.int .u64 0),(.int .u64 0)])) (OpJ.coe (v:=(.st [(bo false),(.d (.int .u64 0)),(.d (.int .u64 0))])) (y:=(.st [(.bool false),(.int .u64 0),(.int .u64 0)])) (Co.st (CoL.cons (Co.d _) (CoL.cons (Co.d _) (CoL.cons (Co.d _) CoL.nil)))) rfl (OpJ.build (places:=[(0,1),(1,1),(2,1)]) ⟨underlying27,fun w=>by kernel_rfl⟩ tyZS27 Opds.nil (by kernel_rfl) (r:=(.st [(bo false),(.d (.int .u64 0)),(.d (.int .u64 0))])) (by rfl) (L rfl))) OptL.nil (GuardV.plain _))
   (oc (op hN 40 (bo (!((a0.fNext.fV6==false)&&((a0.fNext.fHi==0)&&((a0.fNext.fLo==0)&&true))))) (OpJ.neqD (h:=2) (B0e a0.fNext) eqg27 ⟨rfl,rfl⟩ (by rfl) (L rfl) (ot 42 (.d (C9 a0.fNext))) (ot 43 (.d (.st [(.bool false),(.int .u64 0),(.int .u64 0)])))) (OptL.opt (OptL.opt OptL.nil)) (GuardV.plain _))
   (oc (pickAnd rfl (L rfl) (ot 40 (bo (!a0.fNext.fV6))) (ot 44 (.opt ((!a0.fNext.fV6)==true) (bo (!((a0.fNext.fV6==false)&&((a0.fNext.fHi==0)&&((a0.fNext.fLo==0)&&true))))))))
   (oc (ov (.ptr 1001 2 [2]) (fp hN underlying35 2 tyS27 (.box 35 (.d (A3 a0))) (ot 1 (pt 1001))))
   (oc (lb hN 35 (.d (A3 a0)) (.d (C9 a0.fNext)) tyS27 (ad (C9 a0.fNext)) (ot 46 (.ptr 1001 2 [2])))
   (oc (cf hB fnOk122 (A1o a0.fNext r6 hr6) (L rfl) (OpdL.cons (ot 47 (.d (C9 a0.fNext))) OpdL.nil))
   (oc (callVal (args:=[(bo ((!a0.fNext.fV6)&&(!((a0.fNext.fV6==false)&&((a0.fNext.fHi==0)&&((a0.fNext.fLo==0)&&true)))))),(i6 3),(.d (.list 1 (r6.map (eI .u8))))]) (caps:=[(pt 0)]) hB fnOk132 [(0,1004),(1,100300),(500,500),(950000,100500)] (G4 ((!a0.fNext.fV6)&&(!((a0.fNext.fV6==false)&&((a0.fNext.fHi==0)&&((a0.fNext.fLo==0)&&true))))) 3 r6 r5 r7 hr7) (by kernel_rfl) (L rfl) (by kernel_rfl) (by kernel_rfl) (OpdL.cons (ot 45 (bo ((!a0.fNext.fV6)&&(!((a0.fNext.fV6==false)&&((a0.fNext.fHi==0)&&((a0.fNext.fLo==0)&&true))))))) (OpdL.cons (ii 3) (OpdL.cons (ot 48 (.d (.list 1 (r6.map (eI .u8))))) OpdL.nil))))
   (OpJs.nil)))))))))))))))) (by kernel_rfl) (by rfl) (by rfl) ?_
  apply A0
  refine ghost (mp [] [(1,(pt 1001)),(4,(pt 1004)),(5,(.func 132 [(pt 1004)]))] [(500,some (.know (globD 0 (.imap gv0)))),(1001,bd 35 (A3 a0)),(1004,some (.box 33 (.sref 100500 3 0 r7.length))),(100500,some (D2 r7))] hB) ?_
  apply seq
  obtain⟨r8,hr8,h⟩:=bindS h
  obtain⟨r9,hr9,h⟩:=bindS h
  refine AWp.draws (by kernel_rfl) (oc (mv hN (ot 5 (.func 132 [(pt 1004)])))
   (oc (ov (.ptr 1001 5 [3]) (fp hN underlying35 5 tyS3 (.box 35 (.d (A3 a0))) (ot 1 (pt 1001))))
   (oc (lb hN 35 (.d (A3 a0)) (i6 a0.fMED) tyS3 (ad (.int .i64 a0.fMED)) (ot 51 (.ptr 1001 5 [3])))
   (oc (neqI (L rfl) (ot 52 (i6 a0.fMED)) (ii (-1)))
   (oc (ov (.ptr 1001 5 [3]) (fp hN underlying35 5 tyS3 (.box 35 (.d (A3 a0))) (ot 1 (pt 1001))))
   (oc (lb hN 35 (.d (A3 a0)) (i6 a0.fMED) tyS3 (ad (.int .i64 a0.fMED)) (ot 54 (.ptr 1001 5 [3])))
   (oc (buildSlice underlying23 tyS3 tyZD3 (by rfl) (by decide) (by decide) (Opds.cons (ot 55 (i6 a0.fMED)) Opds.nil) (by kernel_rfl) (es:=([(.int .i64 a0.fMED)]:List D)) (by rfl) (by rfl) (by kernel_rfl) (by simp) (L rfl))
   (oc (cf hB fnOk134 (A07 ([a0.fMED]:List Int) r8 hr8) (L rfl) (OpdL.cons Opd.nils (OpdL.cons (ot 56 (qI_1 ([a0.fMED]:List Int))) OpdL.nil)))
   (oc (callVal (args:=[(bo (a0.fMED != (-1))),(i6 4),(.d (.list 1 (r8.map (eI .u8))))]) (caps:=[(pt 0)]) hB fnOk132 [(0,1004),(1,100500),(500,500),(950000,100700)] (G4 (a0.fMED != (-1)) 4 r8 r7 r9 hr9) (by kernel_rfl) (L rfl) (by kernel_rfl) (by kernel_rfl) (OpdL.cons (ot 53 (bo (a0.fMED != (-1)))) (OpdL.cons (ii 4) (OpdL.cons (ot 57 (.d (.list 1 (r8.map (eI .u8))))) OpdL.nil))))
   (OpJs.nil)))))))))) (by kernel_rfl) (by rfl) (by rfl) ?_
  apply A0
  refine ghost (mp [] [(1,(pt 1001)),(4,(pt 1004)),(5,(.func 132 [(pt 1004)]))] [(500,some (.know (globD 0 (.imap gv0)))),(1001,bd 35 (A3 a0)),(1004,some (.box 33 (.sref 100700 3 0 r9.length))),(100700,some (D2 r9))] hB) ?_
  apply seq
  obtain⟨r10,hr10,h⟩:=bindS h
  obtain⟨r11,hr11,h⟩:=bindS h
  refine AWp.draws (by kernel_rfl) (oc (mv hN (ot 5 (.func 132 [(pt 1004)])))
   (oc (ov (.ptr 1001 6 [4]) (fp hN underlying35 6 tyS3 (.box 35 (.d (A3 a0))) (ot 1 (pt 1001))))
   (oc (lb hN 35 (.d (A3 a0)) (i6 a0.fPref) tyS3 (ad (.int .i64 a0.fPref)) (ot 60 (.ptr 1001 6 [4])))
   (oc (neqI (L rfl) (ot 61 (i6 a0.fPref)) (ii (-1)))
   (oc (ov (.ptr 1001 6 [4]) (fp hN underlying35 6 tyS3 (.box 35 (.d (A3 a0))) (ot 1 (pt 1001))))
   (oc (lb hN 35 (.d (A3 a0)) (i6 a0.fPref) tyS3 (ad (.int .i64 a0.fPref)) (ot 63 (.ptr 1001 6 [4])))
   (oc (buildSlice underlying23 tyS3 tyZD3 (by rfl) (by decide) (by decide) (Opds.cons (ot 64 (i6 a0.fPref)) Opds.nil) (by kernel_rfl) (es:=([(.int .i64 a0.fPref)]:List D)) (by rfl) (by rfl) (by kernel_rfl) (by simp) (L rfl))
   (oc (cf hB fnOk134 (A07 ([a0.fPref]:List Int) r10 hr10) (L rfl) (OpdL.cons Opd.nils (OpdL.cons (ot 65 (qI_1 ([a0.fPref]:List Int))) OpdL.nil)))
   (oc (callVal (args:=[(bo (a0.fPref != (-1))),(i6 5),(.d (.list 1 (r10.map (eI .u8))))]) (caps:=[(pt 0)]) hB fnOk132 [(0,1004),(1,100700),(500,500),(950000,100900)] (G4 (a0.fPref != (-1)) 5 r10 r9 r11 hr11) (by kernel_rfl) (L rfl) (by kernel_rfl) (by kernel_rfl) (OpdL.cons (ot 62 (bo (a0.fPref != (-1)))) (OpdL.cons (ii 5) (OpdL.cons (ot 66 (.d (.list 1 (r10.map (eI .u8))))) OpdL.nil))))
   (OpJs.nil)))))))))) (by kernel_rfl) (by rfl) (by rfl) ?_
  apply A0
  refine ghost (mp [] [(1,(pt 1001)),(4,(pt 1004)),(5,(.func 132 [(pt 1004)]))] [(500,some (.know (globD 0 (.imap gv0)))),(1001,bd 35 (A3 a0)),(1004,some (.box 33 (.sref 100900 3 0 r11.length))),(100900,some (D2 r11))] hB) ?_
  apply seq
  obtain⟨r12,hr12,h⟩:=bindS h
  obtain⟨r13,hr13,h⟩:=bindS h
  refine AWp.draws (by kernel_rfl) (oc (mv hN (ot 5 (.func 132 [(pt 1004)])))
   (oc (ov (.ptr 1001 8 [6]) (fp hN underlying35 8 tyS31 (.box 35 (.d (A3 a0))) (ot 1 (pt 1001))))
   (oc (lb hN 35 (.d (A3 a0)) (A9 a0.fCommunities) tyS31 (ad (.list 2 (a0.fCommunities.map B7))) (ot 69 (.ptr 1001 8 [6])))
   (oc (OpJ.val (v':=(i6 (a0.fCommunities.length:Int))) (by simp) (lenD underlying31 (L rfl) (ot 70 (A9 a0.fCommunities))))
   (oc (gtr (L rfl) (ot 71 (i6 (a0.fCommunities.length:Int))) (ii 0))
   (oc (ov (.ptr 1001 8 [6]) (fp hN underlying35 8 tyS31 (.box 35 (.d (A3 a0))) (ot 1 (pt 1001))))
   (oc (lb hN 35 (.d (A3 a0)) (A9 a0.fCommunities) tyS31 (ad (.list 2 (a0.fCommunities.map B7))) (ot 73 (.ptr 1001 8 [6])))
   (oc (cf hB fnOk135 (A3j a0.fCommunities r12 hr12) (L rfl) (OpdL.cons (ot 74 (A9 a0.fCommunities)) OpdL.nil))
   (oc (callVal (args:=[(bo (decide (0<(a0.fCommunities.length:Int)))),(i6 8),(.d (.list 1 (r12.map (eI .u8))))]) (caps:=[(pt 0)]) hB fnOk132 [(0,1004),(1,100900),(500,500),(950000,101100)] (G4 (decide (0<(a0.fCommunities.length:Int))) 8 r12 r11 r13 hr13) (by kernel_rfl) (L rfl) (by kernel_rfl) (by kernel_rfl) (OpdL.cons (ot 72 (bo (decide (0<(a0.fCommunities.length:Int))))) (OpdL.cons (ii 8) (OpdL.cons (ot 75 (.d (.list 1 (r12.map (eI .u8))))) OpdL.nil))))
   (OpJs.nil)))))))))) (by kernel_rfl) (by rfl) (by rfl) ?_
  apply A0
  refine ghost (mp [] [(1,(pt 1001)),(4,(pt 1004)),(5,(.func 132 [(pt 1004)]))] [(500,some (.know (globD 0 (.imap gv0)))),(1001,bd 35 (A3 a0)),(1004,some (.box 33 (.sref 101100 3 0 r13.length))),(101100,some (D2 r13))] hB) ?_
  apply seq
  obtain⟨r14,hr14,h⟩:=bindS h
  obtain⟨r15,hr15,h⟩:=bindS h
  refine AWp.draws (by kernel_rfl) (oc (mv hN (ot 5 (.func 132 [(pt 1004)])))
   (oc (ov (.ptr 1001 9 [7]) (fp hN underlying35 9 tyS32 (.box 35 (.d (A3 a0))) (ot 1 (pt 1001))))
   (oc (lb hN 35 (.d (A3 a0)) (D0 a0.fLarge) tyS32 (ad (.list 3 (a0.fLarge.map D8))) (ot 78 (.ptr 1001 9 [7])))
   (oc (OpJ.val (v':=(i6 (a0.fLarge.length:Int))) (by simp) (lenD underlying32 (L rfl) (ot 79 (D0 a0.fLarge))))
   (oc (gtr (L rfl) (ot 80 (i6 (a0.fLarge.length:Int))) (ii 0))
   (oc (ov (.ptr 1001 9 [7]) (fp hN underlying35 9 tyS32 (.box 35 (.d (A3 a0))) (ot 1 (pt 1001))))
   (oc (lb hN 35 (.d (A3 a0)) (D0 a0.fLarge) tyS32 (ad (.list 3 (a0.fLarge.map D8))) (ot 82 (.ptr 1001 9 [7])))
   (oc (cf hB fnOk136 (A5v a0.fLarge r14 hr14) (L rfl) (OpdL.cons (ot 83 (D0 a0.fLarge)) OpdL.nil))
   (oc (callVal (args:=[(bo (decide (0<(a0.fLarge.length:Int)))),(i6 32),(.d (.list 1 (r14.map (eI .u8))))]) (caps:=[(pt 0)]) hB fnOk132 [(0,1004),(1,101100),(500,500),(950000,101300)] (G4 (decide (0<(a0.fLarge.length:Int))) 32 r14 r13 r15 hr15) (by kernel_rfl) (L rfl) (by kernel_rfl) (by kernel_rfl) (OpdL.cons (ot 81 (bo (decide (0<(a0.fLarge.length:Int))))) (OpdL.cons (ii 32) (OpdL.cons (ot 84 (.d (.list 1 (r14.map (eI .u8))))) OpdL.nil))))
   (OpJs.nil)))))))))) (by kernel_rfl) (by rfl) (by rfl) ?_
  apply A0
  refine ghost (mp [] [(1,(pt 1001)),(4,(pt 1004)),(5,(.func 132 [(pt 1004)]))] [(500,some (.know (globD 0 (.imap gv0)))),(1001,bd 35 (A3 a0)),(1004,some (.box 33 (.sref 101300 3 0 r15.length))),(101300,some (D2 r15))] hB) ?_
  apply seq
  obtain⟨r16,hr16,h⟩:=bindS h
  obtain⟨r17,hr17,h⟩:=bindS h
  refine AWp.draws (by kernel_rfl) (oc (mv hN (ot 5 (.func 132 [(pt 1004)])))
   (oc (ov (.ptr 1001 7 [5]) (fp hN underlying35 7 tyS3 (.box 35 (.d (A3 a0))) (ot 1 (pt 1001))))
   (oc (lb hN 35 (.d (A3 a0)) (i6 a0.fOTC) tyS3 (ad (.int .i64 a0.fOTC)) (ot 87 (.ptr 1001 7 [5])))
   (oc (neqI (L rfl) (ot 88 (i6 a0.fOTC)) (ii (-1)))
   (oc (ov (.ptr 1001 7 [5]) (fp hN underlying35 7 tyS3 (.box 35 (.d (A3 a0))) (ot 1 (pt 1001))))
   (oc (lb hN 35 (.d (A3 a0)) (i6 a0.fOTC) tyS3 (ad (.int .i64 a0.fOTC)) (ot 90 (.ptr 1001 7 [5])))
   (oc (buildSlice underlying23 tyS3 tyZD3 (by rfl) (by decide) (by decide) (Opds.cons (ot 91 (i6 a0.fOTC)) Opds.nil) (by kernel_rfl) (es:=([(.int .i64 a0.fOTC)]:List D)) (by rfl) (by rfl) (by kernel_rfl) (by simp) (L rfl))
   (oc (cf hB fnOk134 (A07 ([a0.fOTC]:List Int) r16 hr16) (L rfl) (OpdL.cons Opd.nils (OpdL.cons (ot 92 (qI_1 ([a0.fOTC]:List Int))) OpdL.nil)))
   (oc (callVal (args:=[(bo (a0.fOTC != (-1))),(i6 35),(.d (.list 1 (r16.map (eI .u8))))]) (caps:=[(pt 0)]) hB fnOk132 [(0,1004),(1,101300),(500,500),(950000,101500)] (G4 (a0.fOTC != (-1)) 35 r16 r15 r17 hr17) (by kernel_rfl) (L rfl) (by kernel_rfl) (by kernel_rfl) (OpdL.cons (ot 89 (bo (a0.fOTC != (-1)))) (OpdL.cons (ii 35) (OpdL.cons (ot 93 (.d (.list 1 (r16.map (eI .u8))))) OpdL.nil))))
   (OpJs.nil)))))))))) (by kernel_rfl) (by rfl) (by rfl) ?_
  apply A0
  refine ghost (mp [] [(1,(pt 1001)),(4,(pt 1004))] [(500,some (.know (globD 0 (.imap gv0)))),(1001,bd 35 (A3 a0)),(1004,some (.box 33 (.sref 101500 3 0 r17.length))),(101500,some (D2 r17))] hB) ?_
  apply seq
  apply sr (c (fo 1001 10 [8] hN underlying35 10 tyS33 (q 1)) rfl (c (la hN 35 tyS33 (q 95)) rfl (c (OpJ.val (v':=(i6 (a0.fOther.length:Int))) (by simp) (lenD underlying33 (L rfl) (q 96))) rfl (c (mv hN (ii 0)) rfl cn))))
  apply block
  obtain⟨p27,hx33,h⟩:=bindS h
  refine lg (L7 a0) (fun s18:Int×(List A1)=>([(4,(pt 1004)),(96,(B2 a0.fOther)),(97,(i6 (a0.fOther.length:Int))),(98,(i6 s18.1))]:EL)) (fun s18:Int×(List A1)=>([(500,some (.know (globD 0 (.imap gv0)))),(1004,some (.box 33 (.sref 4004 3 0 s18.2.length))),(4004,some (D2 s18.2))]:OL)) (fun(p27:((List A1))) e E' O'=>e = .exit 0∧Mat B E' O' ([(4,(pt 1004))]:EL) ([(500,some (.know (globD 0 (.imap gv0)))),(1004,some (.box 33 (.sref 4004 3 0 p27.length))),(4004,some (D2 p27))]:OL)) hx33 (mp [(4004,101500)] _ _ hB) (fun s18 y h => ?_) (fun e E' O' hR => ?_)
  ·unfold L7 at h
   apply sr (c (lss (L rfl) (q 98) (q 97)) rfl cn)
   apply seq
   apply AWp.cond rfl<;>intro hg28
   ·have h:=A5 hg28 h
    apply AWp.skip
    apply A0
    apply seq
    apply block
    obtain⟨x29,hx29,h⟩:=bindS h
    apply sr (c (indexD underlying33 tyS69 (B5 hx29).1 (F0 A8 (B5 hx29).2) (L rfl) (q 96) (q 98)) rfl (c (loadD tyS69 (by rfl) (by rfl) (L rfl) (q 100)) rfl (cg (alloc hB tyZ69 (nm:=1007) (by decide) (L rfl)) rfl (cg (sB tyS69 (q 7) (q 101)) rfl cn))))
    obtain⟨r30,hr30,h⟩:=bindS h
    apply sr (c (fo 1007 2 [2] hN underlying69 2 tyS67 (q 7)) rfl (c (la hN 69 tyS67 (q 102)) rfl (cg (cf hB fnOk137 (A3k x29.fData r30 hr30) (L rfl) (OpdL.cons (q 103) OpdL.nil)) rfl (c (fo 1007 2 [2] hN underlying69 2 tyS67 (q 7)) rfl (cg (OpJ.storeB tyS67 (SetAt.dst1 (by rfl) (by rfl) (SetAt.here _ _) (by rfl) (by rfl) (by first | rfl | omega)) (by rfl) (by rfl) (by simp) rfl (q 105) (q 104)) rfl cn)))))
    obtain⟨hc31,h⟩:=C0 h
    apply rg (c (lb hN 33 _ _ tyS33 (At.here _) (q 4)) rfl (c (lb hN 69 _ _ tyS69 (At.here _) (q 7)) rfl (c (buildSlice underlying33 tyS69 tyZD69 (by rfl) (by decide) (by decide) (Opds.cons (q 107) Opds.nil) (by kernel_rfl) (es:=([(.st [(.int .i64 x29.fFlags),(.int .i64 x29.fType),(.list 1 (r30.map (eI .u8)))])]:List D)) (by rfl) (by rfl) (by kernel_rfl) (by simp) (L rfl)) rfl (cg (apd hB underlying33 tyE69 1109 A8 s18.2 [(A1.mk x29.fFlags x29.fType r30)] hc31 (L rfl) (q 106) (q 108)) rfl (cg (sB tyS33 (q 4) (q 109)) rfl cn)))))
    apply E4
    apply A0
    apply rg (c (add6 (L rfl) (q 98) (ii 1)) rfl (c (mv hN (q 110)) rfl cn))
    obtain rfl:=oi h
    exact⟨rfl,(mp [(4004,1109)] _ _ hB)⟩
   ·have h:=A6 hg28 h
    apply AWp.exit
    apply E5
    obtain rfl:=oi h
    exact⟨(fun hc=>by cases hc),rfl,(mp [] _ _ hB)⟩
  ·obtain⟨rfl,hmat⟩:=hR
   apply C6
   apply A0
   refine ghost hmat ?_
   apply seq
   obtain⟨r34,hr34,h⟩:=bindS h
   obtain⟨hc35,h⟩:=C0 h
   have lhc35:=of_decide_eq_true hc35
   have hc35_o:=of_decide_eq_true hc35
   refine AWp.region (oc (lb hN 33 (.sref 4004 3 0 p27.length) (.sref 4004 3 0 p27.length) tyS33 (At.here _) (ot 4 (pt 1004)))
    (oc (OpJ.callFn hB fnOk123 (R9 p27 r34 hr34) [(0,4004)] (by kernel_rfl) (L rfl) (by kernel_rfl) (OpdL.cons (ot 111 (.sref 4004 3 0 p27.length)) (OpdL.cons (Opd.func 138) OpdL.nil)))
    (OpJs.nil))) (by rfl) (by rfl) ?_
   apply A0
   refine ghost (mp [] [(4,(pt 1004))] [(500,some (.know (globD 0 (.imap gv0)))),(1004,some (.box 33 (.sref 4004 3 0 p27.length))),(4004,some (D2 r34))] hB) ?_
   apply sr (c (lb hN 33 _ _ tyS33 (At.here _) (q 4)) rfl (c (assign (L rfl) (q 113)) rfl (c (assign (L rfl) (ii 0)) rfl cn)))
   apply ret
   obtain rfl:=oi h
   exact rt (Mat.trans (Mat.lenP (Ts:=[(2,(.sref 4004 3 0 r34.length))]) (Bs:=[]) (TwT.cons (x:=(.sref 4004 3 0 p27.length)) (by rfl) (Tw.leaf ⟨_,_,_,_,_,rfl,rfl,(by first | rfl | (simp;done) | (simp;omega) | omega)⟩) TwT.nil) TwB.nil) (mp [(900000,4004)] [(2,(.sref 900000 3 0 r34.length)),(3,(i6 0))] [(500,some (.know (globD 0 (.imap gv0)))),(900000,some (D2 r34))] hB)) [(.sref 900000 3 0 r34.length),(i6 0)] (rT (rT rN)) rfl
def A0r (a0:(List A2)) (a1:Bool) (s1:Int×(List Int)):Option ((((List Int)))⊕(Int×(List Int))) :=
 (if (decide (s1.1<(a0.length:Int)))=true then
 (idx a0 s1.1).bind fun x32 =>
 jn (fun m38:(List Int) =>
 some (.inr ((w64 (s1.1+1)),m38))) (fun j39 =>
 (if (x32.fAddr.fV6==a1)=true then
 chk (decide ((s1.2++([(IntKind.u8.wrap x32.fLen)]:List Int)).length≤LIM)) <|
 (S6 x32.fAddr).bind fun r42 =>
 chk ((decide (0≤(w64 (Int.tdiv (w64 (x32.fLen+7)) 8)))&&decide (0≤(w64 (Int.tdiv (w64 (x32.fLen+7)) 8)).toNat)&&decide ((w64 (Int.tdiv (w64 (x32.fLen+7)) 8)).toNat≤r42.length))) <|
 chk (decide (((s1.2++([(IntKind.u8.wrap x32.fLen)]:List Int))++((r42.take ((w64 (Int.tdiv (w64 (x32.fLen+7)) 8)).toNat)).drop 0)).length≤LIM)) <|
 j39 ((s1.2++([(IntKind.u8.wrap x32.fLen)]:List Int))++((r42.take ((w64 (Int.tdiv (w64 (x32.fLen+7)) 8)).toNat)).drop 0))
 else
 j39 s1.2))
 else
 some (.inl s1.2))
def L8 (a0:(List A2)) (a1:Bool):Option ((List Int)) :=
 (loop (A0r a0 a1) (0,([]:List Int))).bind fun p30 =>
 some p30
theorem A38 (a0:(List A2)) (a1:Bool) (r:(List Int)) (h:L8 a0 a1=some r):AC Tryz.prog 114 [.nils,(.d (.list 4 (a0.map B3))),(.d (.bool a1))] [] (.d (.list 1 (r.map (eI .u8)))) []:=by
 refine ac2 Tryz.func114 rfl rfl fun B hB hN L => ?_
 delta L8 at h
 refine sr (SQ tt) ?_
 apply seq
 refine sr (SQ tt) ?_
 apply block
 obtain⟨p30,hx46,h⟩:=bindS h
 refine lg (A0r a0 a1) (fun s1:Int×(List Int)=>([(0,(.sref 3000 1 0 s1.2.length)),(2,(bo a1)),(9,(E0 a0)),(10,(i6 (a0.length:Int))),(11,(i6 s1.1))]:EL)) (fun s1:Int×(List Int)=>([(3000,some (.row 5 1 (s1.2.map (eI .u8))))]:OL)) (fun(p30:((List Int))) e E' O'=>e = .exit 0∧Mat B E' O' ([(0,(.sref 3000 1 0 p30.length))]:EL) ([(3000,some (.row 5 1 (p30.map (eI .u8))))]:OL)) hx46 (Mat.trans (Mat.beginP (n:=3000) (e:=5) (sz:=1) (Ts:=[(0,(.sref 3000 1 0 0))]) (Bs:=[]) hB (by decide) (by rfl) (by decide) (TwT.cons (x:=.nils) (by rfl) (Tw.leaf ⟨rfl,rfl⟩) TwT.nil) TwB.nil) (mp [] _ _ hB)) (fun s1 y h => ?_) (fun e E' O' hR => ?_)
 ·unfold A0r at h
  refine sr (SQ tt) ?_
  apply seq
  apply AWp.cond rfl<;>intro hg31
  ·have h:=A5 hg31 h
   apply AWp.skip
   apply A0
   apply seq
   apply block
   obtain⟨x32,hx32,h⟩:=bindS h
   refine sr (SQ (fa hx32 tt)) ?_
   refine sr (SQ tt) ?_
   refine gh [(0,_),(2,_),(8,_),(9,_),(10,_),(11,_),(19,_)] [(1008,some _),(3000,some _)] hB rfl rfl (by rfl) ?_
   refine AWp.cut h (fun m38:(List Int)=>([(0,(.sref 3000 1 0 m38.length)),(2,(bo a1)),(9,(E0 a0)),(10,(i6 (a0.length:Int))),(11,(i6 s1.1))]:EL)) (fun m38:(List Int)=>([(3000,some (.row 5 1 (m38.map (eI .u8))))]:OL)) (fun m38 h E' O' hmat => ?_) (fun j39 hjj39 h => ?_)
   ·apply E4
    apply A0
    refine ghost hmat ?_
    refine rg (SQ tt) ?_
    obtain rfl:=oi h
    exact⟨rfl,(mp [] _ _ hB)⟩
   ·apply AWp.cond rfl<;>intro hg40
    ·have h:=A5 hg40 h
     obtain⟨hc41,h⟩:=C0 h
     obtain⟨r42,hr42,h⟩:=bindS h
     obtain⟨hc43,h⟩:=C0 h
     obtain⟨hc44,h⟩:=C0 h
     refine drS (SQ (fa hc41 (fa (cl [] (A1o x32.fAddr r42 hr42)) (fa hc43 (fa hc44 tt))))) ?_
     exact hjj39 _ h _ _ (mp [(3000,1034)] _ _ hB)
    ·have h:=A6 hg40 h
     apply AWp.skip
     exact hjj39 _ h _ _ (mp [] _ _ hB)
  ·have h:=A6 hg31 h
   apply AWp.exit
   apply E5
   obtain rfl:=oi h
   exact⟨(fun hc=>by cases hc),rfl,(mp [] _ _ hB)⟩
 ·obtain⟨rfl,hmat⟩:=hR
  apply C6
  apply A0
  refine ghost hmat ?_
  refine sr (SQ tt) ?_
  apply ret
  obtain rfl:=oi h
  exact rt (Mat.trans (Mat.freezeP (n:=3000) (e:=5) (sz:=1) (es:=p30.map (eI .u8)) (Ts:=[(6,(.d (.list 1 (p30.map (eI .u8)))))]) (Bs:=[]) (by rfl) (TwT.cons (x:=(.sref 3000 1 0 p30.length)) (by rfl) (FrzL.all (by first | rfl | (simp;done) | (simp;omega) | omega)) TwT.nil) TwB.nil) (mp [] [(6,(.d (.list 1 (p30.map (eI .u8)))))] [] hB)) [(.d (.list 1 (p30.map (eI .u8))))] (rT rN) rfl
def U7 (a0:A1) (a1:A1):Option (Int) :=
 (H9 a0.fType a1.fType).bind fun r1 =>
 some r1
theorem A6s (a0:A1) (a1:A1) (r:Int) (h:U7 a0 a1=some r):AC Tryz.prog 124 [(.d (A8 a0)),(.d (A8 a1))] [] (.d (.int .i64 r)) []:=by
 refine AC.of_code2 Tryz.func124 rfl rfl (Nat.le_of_ble_eq_true (by rfl)) fun B hB hN => ?_
 delta U7 at h
 refine sr (SQ tt) ?_
 obtain⟨r1,hr1,h⟩:=bindS h
 refine sr (SQ (fa (cl [] (J0 a0.fType a1.fType r1 hr1)) tt)) ?_
 apply ret
 obtain rfl:=oi h
 exact rt (kp [(4,_)] [] hB rfl rfl (by rfl)) [(i6 r1)] (rT rN) rfl
def H5 (a0:(List A1)):Option (List A1):=sortF a0 fun x y=>U7 x y
theorem V2 (a0:(List A1)) (r:List A1) (h:H5 a0=some r):AC Tryz.prog 123 [(.sref 0 3 0 a0.length),.func 124 []] [(0,(.row 69 3 (a0.map A8)))] (.tup []) [(0,some (.row 69 3 (r.map A8)))] :=
 AC.sortF A8 (fun x y=>U7 x y) a0 r h sortOk123 fnOk124 (fun _=>rfl) rfl rfl (fun x y c hc=>A6s x y c hc)
def S1 (a0:A7):Option ((List A1)) :=
 (J1 a0.fAttrs).bind fun r1 =>
 jn (fun m8:(List A1) =>
 (L8 a0.fWithdraw true).bind fun r10 =>
 jn (fun m15:(List A1) =>
 (H5 m15).bind fun r17 =>
 chk (decide (r17.length=m15.length)) <|
 some ((r17.drop 0).take m15.length)) (fun j16 =>
 (if (decide (0<(r10.length:Int)))=true then
 chk (decide ((([0,2,1]:List Int)++r10).length≤LIM)) <|
 chk (decide ((m8++([(A1.mk 128 15 (([0,2,1]:List Int)++r10))]:List A1)).length≤LIM)) <|
 j16 (m8++([(A1.mk 128 15 (([0,2,1]:List Int)++r10))]:List A1))
 else
 j16 m8))) (fun j9 =>
 (if ((decide (0<(a0.fAnnounce.length:Int)))&&a0.fAttrs.fNext.fV6)=true then
 (S6 a0.fAttrs.fNext).bind fun r23 =>
 chk (decide ((([0,2,1,16]:List Int)++r23).length≤LIM)) <|
 chk (decide (((([0,2,1,16]:List Int)++r23)++([0]:List Int)).length≤LIM)) <|
 (S8 ((([0,2,1,16]:List Int)++r23)++([0]:List Int)) a0.fAnnounce true).bind fun r26 =>
 chk (decide ((r1.1++[(A1.mk 128 14 r26)]).length≤LIM)) <|
 j9 (r1.1++[(A1.mk 128 14 r26)])
 else
 j9 r1.1))
theorem A8t (a0:A7) (r:(List A1)) (h:S1 a0=some r):AC Tryz.prog 113 [(.d (D4 a0))] [(500,(.know (globD 0 (.imap gv0))))] (.d (.list 3 (r.map A8))) [(500,some (.know (globD 0 (.imap gv0))))]:=by
 refine ac2 Tryz.func113 rfl rfl fun B hB hN L => ?_
 delta S1 at h
 refine sr (SQ tt) ?_
 apply seq
 obtain⟨r1,hr1,h⟩:=bindS h
 refine rg (SQ (fa (cl [(500,500),(900000,100000)] (A55 a0.fAttrs r1 hr1)) tt)) ?_
 apply A0
 refine ghost (mp [] [(1,(pt 1001)),(3,(.sref 100000 3 0 r1.1.length))] [(500,some (.know (globD 0 (.imap gv0)))),(1001,bd 61 (D4 a0)),(100000,some (D2 r1.1))] hB) ?_
 apply seq
 refine sr (SQ tt) ?_
 refine gh [(1,_),(3,_),(22,_)] [(500,some _),(1001,some _),(100000,some _)] hB rfl rfl (by rfl) ?_
 refine AWp.cut h (fun m8:(List A1)=>([(1,(pt 1001)),(3,(.sref 3003 3 0 m8.length))]:EL)) (fun m8:(List A1)=>([(500,some (.know (globD 0 (.imap gv0)))),(1001,bd 61 (D4 a0)),(3003,some (D2 m8))]:OL)) (fun m8 h E' O' hmat => ?_) (fun j9 hjj9 h => ?_)
 ·apply A0
  refine ghost hmat ?_
  apply seq
  obtain⟨r10,hr10,h⟩:=bindS h
  refine sr (SQ (fa (cl [] (A38 a0.fWithdraw true r10 hr10)) tt)) ?_
  refine sr (SQ tt) ?_
  refine gh [(3,_),(6,_),(44,_)] [(500,some _),(3003,some _)] hB rfl rfl (by rfl) ?_
  refine AWp.cut h (fun m15:(List A1)=>([(3,(.sref 3003 3 0 m15.length))]:EL)) (fun m15:(List A1)=>([(500,some (.know (globD 0 (.imap gv0)))),(3003,some (D2 m15))]:OL)) (fun m15 h E' O' hmat => ?_) (fun j16 hjj16 h => ?_)
  ·apply A0
   refine ghost hmat ?_
   apply seq
   obtain⟨r17,hr17,h⟩:=bindS h
   obtain⟨hc18,h⟩:=C0 h
   have lhc18:=of_decide_eq_true hc18
   have hc18_o:=of_decide_eq_true hc18
   refine rg (SQ (fa (cl [(0,3003)] (V2 m15 r17 hr17)) tt)) ?_
   apply A0
   refine ghost (mp [] [(3,(.sref 3003 3 0 m15.length))] [(500,some (.know (globD 0 (.imap gv0)))),(3003,some (D2 r17))] hB) ?_
   refine sr (SQ tt) ?_
   apply ret
   obtain rfl:=oi h
   exact rt (Mat.trans (Mat.freezeP (n:=3003) (e:=69) (sz:=3) (es:=r17.map A8) (Ts:=[(2,(B2 ((r17.drop 0).take m15.length)))]) (Bs:=[]) (by rfl) (TwT.cons (x:=(.sref 3003 3 0 m15.length)) (by rfl) (FrzL.cut (fs:=((r17.drop 0).take m15.length).map A8) (by simp only [List.length_map,List.length_append,List.length_take,List.length_drop,List.length_replicate,List.length_set];omega) (by first | rw [List.map_drop,List.map_take] | (simp [List.map_take,List.map_drop];done) | simp [List.take_of_length_le])) TwT.nil) TwB.nil) (mp [] [(2,(B2 ((r17.drop 0).take m15.length)))] [(500,some (.know (globD 0 (.imap gv0))))] hB)) [(B2 ((r17.drop 0).take m15.length))] (rT rN) rfl
  ·apply AWp.cond rfl<;>intro hg19
   ·have h:=A5 hg19 h
    obtain⟨hc20,h⟩:=C0 h
    obtain⟨hc21,h⟩:=C0 h
    apply rg (c (mv hN (q 3)) rfl (cg (OpJ.buildSliceR underlying67 tyS5 tyZD5 (by rfl) (by decide) (by decide) hB (nm:=1046) (by decide) (len:=([0,2,1]:List Int).length) (by rfl) (Opds.cons (Opd.int .u8 (0)) (Opds.cons (Opd.int .u8 (2)) (Opds.cons (Opd.int .u8 (1)) Opds.nil))) (by kernel_rfl) (es:=([0,2,1]:List Int).map (eI .u8)) (by rfl) (by rfl) (by kernel_rfl) (by simp) (L rfl)) rfl (c (mv hN (q 6)) rfl (cg (OpJ.frz (apd hB underlying67 tyE5 1048 (eI .u8) ([0,2,1]:List Int) r10 hc20 (L rfl) (q 46) (q 47)) (by simp)) rfl (c (OpJ.coe (v:=(.st [(i6 128),(i6 15),(.d (.list 1 ((([0,2,1]:List Int)++r10).map (eI .u8))))])) (y:=(.st [(.int .i64 128),(.int .i64 15),(.list 1 ((([0,2,1]:List Int)++r10).map (eI .u8)))])) (Co.st (CoL.cons (Co.d _) (CoL.cons (Co.d _) (CoL.cons (Co.d _) CoL.nil)))) rfl (OpJ.build (places:=[(0,1),(1,1),(2,1)]) ⟨underlying69,fun w=>by kernel_rfl⟩ tyZS69 (Opds.cons (ii 128) (Opds.cons (ii 15) (Opds.cons (q 48) Opds.nil))) (by kernel_rfl) (r:=(.st [(i6 128),(i6 15),(.d (.list 1 ((([0,2,1]:List Int)++r10).map (eI .u8))))])) (by rfl) (L rfl))) rfl (c (buildSlice underlying33 tyS69 tyZD69 (by rfl) (by decide) (by decide) (Opds.cons (q 49) Opds.nil) (by kernel_rfl) (es:=([(.st [(.int .i64 128),(.int .i64 15),(.list 1 ((([0,2,1]:List Int)++r10).map (eI .u8)))])]:List D)) (by rfl) (by rfl) (by kernel_rfl) (by simp) (L rfl)) rfl (cg (apd hB underlying33 tyE69 1051 A8 m8 ([(A1.mk 128 15 (([0,2,1]:List Int)++r10))]:List A1) hc21 (L rfl) (q 45) (q 50)) rfl (c (assign (L rfl) (q 51)) rfl cn))))))))
    exact hjj16 _ h _ _ (mp [(3003,1051)] _ _ hB)
   ·have h:=A6 hg19 h
    apply AWp.skip
    exact hjj16 _ h _ _ (mp [] _ _ hB)
 ·apply AWp.cond rfl<;>intro hg22
  ·have h:=A5 hg22 h
   obtain⟨r23,hr23,h⟩:=bindS h
   obtain⟨hc24,h⟩:=C0 h
   apply sr (cg (OpJ.buildSliceR underlying67 tyS5 tyZD5 (by rfl) (by decide) (by decide) hB (nm:=1023) (by decide) (len:=([0,2,1,16]:List Int).length) (by rfl) (Opds.cons (Opd.int .u8 (0)) (Opds.cons (Opd.int .u8 (2)) (Opds.cons (Opd.int .u8 (1)) (Opds.cons (Opd.int .u8 (16)) Opds.nil)))) (by kernel_rfl) (es:=([0,2,1,16]:List Int).map (eI .u8)) (by rfl) (by rfl) (by kernel_rfl) (by simp) (L rfl)) rfl (c (fo 1001 1 [1] hN underlying61 1 tyS35 (q 1)) rfl (c (fo 1001 3 [1,2] hN underlying35 2 tyS27 (q 24)) rfl (c (lb hN 61 _ _ tyS27 (At.dst1 (by rfl) (by rfl) (ad _) (by first | rfl | omega)) (q 25)) rfl (cg (cf hB fnOk122 (A1o a0.fAttrs.fNext r23 hr23) (L rfl) (OpdL.cons (q 26) OpdL.nil)) rfl (cg (apd hB underlying67 tyE5 1028 (eI .u8) ([0,2,1,16]:List Int) r23 hc24 (L rfl) (q 23) (q 27)) rfl (c (assign (L rfl) (q 28)) rfl cn)))))))
   obtain⟨hc25,h⟩:=C0 h
   obtain⟨r26,hr26,h⟩:=bindS h
   obtain⟨hc27,h⟩:=C0 h
   refine drS (SQ (fa hc25 (fa (cl [(0,1032)] (A4e ((([0,2,1,16]:List Int)++r23)++([0]:List Int)) a0.fAnnounce true r26 hr26)) (fa hc27 tt)))) ?_
   exact hjj9 _ h _ _ (mp [(3003,1038)] _ _ hB)
  ·have h:=A6 hg22 h
   apply AWp.skip
   exact hjj9 _ h _ _ (mp [(3003,100000)] _ _ hB)
def P7 (a0:(List A1)) (s1:Int):Option (((Unit)⊕(Unit))⊕(Int)) :=
 (if (decide (s1<(a0.length:Int)))=true then
 (idx a0 s1).bind fun x29 =>
 jn (fun m34:Bool =>
 (if m34=true then
 some (.inl (.inl ()))
 else
 some (.inr (w64 (s1+1))))) (fun j35 =>
 (G2 x29.fFlags 0 255).bind fun r37 =>
 (if (!r37)=true then
 j35 true
 else
 (G2 x29.fType 0 255).bind fun r39 =>
 j35 ((!r39) || (decide (65535<(x29.fData.length:Int))))))
 else
 some (.inl (.inr ())))
def P8 (a0:(List A1)) (s42:Int×(List Int)):Option (((Unit)⊕((List Int)))⊕(Int×(List Int))) :=
 (if (decide (s42.1<(a0.length:Int)))=true then
 (idx a0 s42.1).bind fun x70 =>
 jn (fun m74:(List Int) =>
 chk (decide ((m74++x70.fData).length≤LIM)) <|
 (if (decide (2048<((m74++x70.fData).length:Int)))=true then
 some (.inl (.inl ()))
 else
 some (.inr ((w64 (s42.1+1)),(m74++x70.fData))))) (fun j75 =>
 (if (decide (255<(x70.fData.length:Int)))=true then
 chk (decide ((s42.2++([(bitI .or .u8 (bitI .and .u8 (IntKind.u8.wrap x70.fFlags) 224) 16),(IntKind.u8.wrap x70.fType),(IntKind.u8.wrap (shrI .i64 (x70.fData.length:Int) 8)),(IntKind.u8.wrap (x70.fData.length:Int))]:List Int)).length≤LIM)) <|
 j75 (s42.2++([(bitI .or .u8 (bitI .and .u8 (IntKind.u8.wrap x70.fFlags) 224) 16),(IntKind.u8.wrap x70.fType),(IntKind.u8.wrap (shrI .i64 (x70.fData.length:Int) 8)),(IntKind.u8.wrap (x70.fData.length:Int))]:List Int))
 else
 chk (decide ((s42.2++([(bitI .and .u8 (IntKind.u8.wrap x70.fFlags) 224),(IntKind.u8.wrap x70.fType),(IntKind.u8.wrap (x70.fData.length:Int))]:List Int)).length≤LIM)) <|
 j75 (s42.2++([(bitI .and .u8 (IntKind.u8.wrap x70.fFlags) 224),(IntKind.u8.wrap x70.fType),(IntKind.u8.wrap (x70.fData.length:Int))]:List Int))))
 else
 some (.inl (.inr s42.2)))
def W4 (a0:(List A1)):Option ((List Int)×Int) :=
 (loop (P7 a0) 0).bind fun x40=>match x40 with
 | (.inl _) =>
  some (([]:List Int),1)
 | (.inr _) =>
  (loop (P8 a0) (0,([]:List Int))).bind fun x81=>match x81 with
  | (.inl _) =>
   some (([]:List Int),3)
  | (.inr p68) =>
   some (p68,0)
theorem A6b (a0:(List A1)) (r:(List Int)×Int) (h:W4 a0=some r):AC Tryz.prog 112 [(.d (.list 3 (a0.map A8)))] [] (.tup [(.d (.list 1 (r.1.map (eI .u8)))),(.d (.int .i64 r.2))]) []:=by
 refine ac2 Tryz.func112 rfl rfl fun B hB hN L => ?_
 delta W4 at h
 refine sr (SQ tt) ?_
 apply seq
 refine sr (SQ tt) ?_
 apply block
 obtain⟨x40,hx41,h⟩:=bindS h
 refine lg (P7 a0) (fun s1:Int=>([(0,(B2 a0)),(11,(B2 a0)),(12,(i6 (a0.length:Int))),(13,(i6 s1))]:EL)) (fun s1:Int=>([]:OL)) (fun(x:(Unit)⊕(Unit)) e E' O'=>match x with | (.inl _p)=>e = .ret∧Mat B E' O' ([(2,.nils),(3,(i6 1))]:EL) ([]:OL) | (.inr _p)=>e = .exit 0∧Mat B E' O' ([(0,(B2 a0))]:EL) ([]:OL)) hx41 (mp [] _ _ hB) (fun s1 y h => ?_) (fun e E' O' hR => ?_)
 ·unfold P7 at h
  refine sr (SQ tt) ?_
  apply seq
  apply AWp.cond rfl<;>intro hg28
  ·have h:=A5 hg28 h
   apply AWp.skip
   apply A0
   apply seq
   apply block
   obtain⟨x29,hx29,h⟩:=bindS h
   refine sr (SQ (fa hx29 tt)) ?_
   apply seq
   refine AWp.cut h (fun m34:Bool=>([(0,(B2 a0)),(11,(B2 a0)),(12,(i6 (a0.length:Int))),(13,(i6 s1)),(32,(bo m34))]:EL)) (fun m34:Bool=>([]:OL)) (fun m34 h E' O' hmat => ?_) (fun j35 hjj35 h => ?_)
   ·apply A0
    refine ghost hmat ?_
    apply AWp.cond rfl<;>intro hg36
    ·have h:=A5 hg36 h
     refine sr (SQ tt) ?_
     apply ret
     apply D7
     apply B9
     obtain rfl:=oi h
     exact⟨(fun hc=>by cases hc),rfl,(mp [] _ _ hB)⟩
    ·have h:=A6 hg36 h
     apply AWp.skip
     apply E4
     apply A0
     refine rg (SQ tt) ?_
     obtain rfl:=oi h
     exact⟨rfl,(mp [] _ _ hB)⟩
   ·obtain⟨r37,hr37,h⟩:=bindS h
    rcases bft (!r37) with hg38 | hg38
    ·have h:=A5 hg38 h
     refine rg (SQ (fa (cl [] (B6 x29.fFlags 0 255 r37 hr37)) (fa hg38 tt))) ?_
     exact hjj35 _ h _ _ (mp [] _ _ hB)
    ·have h:=A6 hg38 h
     obtain⟨r39,hr39,h⟩:=bindS h
     refine rg (SQ (fa (cl [] (B6 x29.fFlags 0 255 r37 hr37)) (fa hg38 (fa (cl [] (B6 x29.fType 0 255 r39 hr39)) tt)))) ?_
     exact hjj35 _ h _ _ (mp [] _ _ hB)
  ·have h:=A6 hg28 h
   apply AWp.exit
   apply E5
   obtain rfl:=oi h
   exact⟨(fun hc=>by cases hc),rfl,(mp [] _ _ hB)⟩
 ·rcases x40 with _ | _
  ·obtain⟨rfl,hmat⟩:=hR
   apply D7
   apply B9
   obtain rfl:=oi h
   exact rt (Mat.trans hmat (Mat.trans (Mat.coeP (Ts:=[(2,(.d (.list 1 (([]:List Int).map (eI .u8)))))]) (Bs:=[]) (TwT.cons (x:=.nils) (by rfl) (Tw.leaf ⟨_,(Co.nils 1),rfl⟩) TwT.nil) TwB.nil) (mp [] [(2,(.d (.list 1 (([]:List Int).map (eI .u8))))),(3,(i6 1))] [] hB))) [(.d (.list 1 (([]:List Int).map (eI .u8)))),(i6 1)] (rT (rT rN)) rfl
  ·obtain⟨rfl,hmat⟩:=hR
   apply C6
   apply A0
   refine ghost hmat ?_
   refine sr (SQ tt) ?_
   apply seq
   refine sr (SQ tt) ?_
   apply block
   obtain⟨x81,hx82,h⟩:=bindS h
   refine lg (P8 a0) (fun s42:Int×(List Int)=>([(6,(.sref 3006 1 0 s42.2.length)),(34,(B2 a0)),(35,(i6 (a0.length:Int))),(36,(i6 s42.1))]:EL)) (fun s42:Int×(List Int)=>([(3006,some (.row 5 1 (s42.2.map (eI .u8))))]:OL)) (fun(x:(Unit)⊕((List Int))) e E' O'=>match x with | (.inl _p)=>e = .ret∧Mat B E' O' ([(2,.nils),(3,(i6 3))]:EL) ([]:OL) | (.inr p68)=>e = .exit 2∧Mat B E' O' ([(6,(.sref 3006 1 0 p68.length))]:EL) ([(3006,some (.row 5 1 (p68.map (eI .u8))))]:OL)) hx82 (Mat.trans (Mat.beginP (n:=3006) (e:=5) (sz:=1) (Ts:=[(6,(.sref 3006 1 0 0))]) (Bs:=[]) hB (by decide) (by rfl) (by decide) (TwT.cons (x:=.nils) (by rfl) (Tw.leaf ⟨rfl,rfl⟩) TwT.nil) TwB.nil) (mp [] _ _ hB)) (fun s42 y h => ?_) (fun e E' O' hR => ?_)
   ·unfold P8 at h
    refine sr (SQ tt) ?_
    apply seq
    apply AWp.cond rfl<;>intro hg69
    ·have h:=A5 hg69 h
     apply AWp.skip
     apply A0
     apply seq
     apply block
     obtain⟨x70,hx70,h⟩:=bindS h
     refine sr (SQ (fa hx70 tt)) ?_
     refine sdS (SQ tt) ?_
     apply seq
     refine sr (SQ tt) ?_
     refine gh [(6,_),(8,_),(9,_),(10,_),(34,_),(35,_),(36,_),(48,_)] [(1008,some _),(3006,some _)] hB rfl rfl (by rfl) ?_
     refine AWp.cut h (fun m74:(List Int)=>([(6,(.sref 3006 1 0 m74.length)),(8,(pt 1008)),(34,(B2 a0)),(35,(i6 (a0.length:Int))),(36,(i6 s42.1))]:EL)) (fun m74:(List Int)=>([(1008,bd 69 (A8 x70)),(3006,some (.row 5 1 (m74.map (eI .u8))))]:OL)) (fun m74 h E' O' hmat => ?_) (fun j75 hjj75 h => ?_)
     ·apply A0
      refine ghost hmat ?_
      obtain⟨hc76,h⟩:=C0 h
      refine sr (SQ (fa hc76 tt)) ?_
      refine sr (SQ tt) ?_
      apply AWp.cond rfl<;>intro hg77
      ·have h:=A5 hg77 h
       refine sr (SQ tt) ?_
       apply ret
       apply D7
       apply B9
       obtain rfl:=oi h
       exact⟨(fun hc=>by cases hc),rfl,(mp [] _ _ hB)⟩
      ·have h:=A6 hg77 h
       apply AWp.skip
       apply E4
       apply A0
       refine rg (SQ tt) ?_
       obtain rfl:=oi h
       exact⟨rfl,(mp [(3006,1074)] _ _ hB)⟩
     ·apply AWp.cond rfl<;>intro hg78
      ·have h:=A5 hg78 h
       obtain⟨hc79,h⟩:=C0 h
       refine rg (SQ (fa hc79 tt)) ?_
       exact hjj75 _ h _ _ (mp [(3006,1061)] _ _ hB)
      ·have h:=A6 hg78 h
       obtain⟨hc80,h⟩:=C0 h
       refine rg (SQ (fa hc80 tt)) ?_
       exact hjj75 _ h _ _ (mp [(3006,1070)] _ _ hB)
    ·have h:=A6 hg69 h
     apply AWp.exit
     apply E5
     obtain rfl:=oi h
     exact⟨(fun hc=>by cases hc),rfl,(mp [] _ _ hB)⟩
   ·rcases x81 with _ | p68
    ·obtain⟨rfl,hmat⟩:=hR
     apply D7
     apply B9
     obtain rfl:=oi h
     exact rt (Mat.trans hmat (Mat.trans (Mat.coeP (Ts:=[(2,(.d (.list 1 (([]:List Int).map (eI .u8)))))]) (Bs:=[]) (TwT.cons (x:=.nils) (by rfl) (Tw.leaf ⟨_,(Co.nils 1),rfl⟩) TwT.nil) TwB.nil) (mp [] [(2,(.d (.list 1 (([]:List Int).map (eI .u8))))),(3,(i6 3))] [] hB))) [(.d (.list 1 (([]:List Int).map (eI .u8)))),(i6 3)] (rT (rT rN)) rfl
    ·obtain⟨rfl,hmat⟩:=hR
     apply C6
     apply A0
     refine ghost hmat ?_
     refine sr (SQ tt) ?_
     apply ret
     obtain rfl:=oi h
     exact rt (Mat.trans (Mat.freezeP (n:=3006) (e:=5) (sz:=1) (es:=p68.map (eI .u8)) (Ts:=[(2,(.d (.list 1 (p68.map (eI .u8)))))]) (Bs:=[]) (by rfl) (TwT.cons (x:=(.sref 3006 1 0 p68.length)) (by rfl) (FrzL.all (by first | rfl | (simp;done) | (simp;omega) | omega)) TwT.nil) TwB.nil) (mp [] [(2,(.d (.list 1 (p68.map (eI .u8))))),(3,(i6 0))] [] hB)) [(.d (.list 1 (p68.map (eI .u8)))),(i6 0)] (rT (rT rN)) rfl
def A2f (a0:Int):Option ((List Int)) :=
 chk (decide (([(IntKind.u8.wrap (shrI .i64 a0 8)),(IntKind.u8.wrap a0)]:List Int).length≤LIM)) <|
 some ([(IntKind.u8.wrap (shrI .i64 a0 8)),(IntKind.u8.wrap a0)]:List Int)
theorem A7s (a0:Int) (r:(List Int)) (h:A2f a0=some r):AC Tryz.prog 115 [.nils,(.d (.int .i64 a0))] [] (.sref 900000 1 0 r.length) [(900000,some (.row 5 1 (r.map (eI .u8))))]:=by
 refine AC.of_code2 Tryz.func115 rfl rfl (Nat.le_of_ble_eq_true (by rfl)) fun B hB hN => ?_
 delta A2f at h
 refine sr (SQ tt) ?_
 obtain⟨hc1,h⟩:=C0 h
 refine sr (SQ (fa hc1 tt)) ?_
 apply ret
 obtain rfl:=oi h
 exact rt (mp [(900000,1012)] [(4,(.sref 900000 1 0 (([(IntKind.u8.wrap (shrI .i64 a0 8)),(IntKind.u8.wrap a0)]:List Int).length)))] [(900000,some (.row 5 1 (([(IntKind.u8.wrap (shrI .i64 a0 8)),(IntKind.u8.wrap a0)]:List Int).map (eI .u8))))] hB) [(.sref 900000 1 0 (([(IntKind.u8.wrap (shrI .i64 a0 8)),(IntKind.u8.wrap a0)]:List Int).length))] (rT rN) rfl
def A2g (a0:(List Int)) (a1:Int):Option ((List Int)) :=
 chk (decide ((a0++([(IntKind.u8.wrap (shrI .i64 a1 8)),(IntKind.u8.wrap a1)]:List Int)).length≤LIM)) <|
 some (a0++([(IntKind.u8.wrap (shrI .i64 a1 8)),(IntKind.u8.wrap a1)]:List Int))
theorem A7t (a0:(List Int)) (a1:Int) (r:(List Int)) (h:A2g a0 a1=some r):AC Tryz.prog 115 [(.sref 0 1 0 a0.length),(.d (.int .i64 a1))] [(0,(.row 5 1 (a0.map (eI .u8))))] (.sref 900000 1 0 r.length) [(0,none),(900000,some (.row 5 1 (r.map (eI .u8))))]:=by
 refine AC.of_code2 Tryz.func115 rfl rfl (Nat.le_of_ble_eq_true (by rfl)) fun B hB hN => ?_
 delta A2g at h
 refine sr (SQ tt) ?_
 obtain⟨hc1,h⟩:=C0 h
 have hc1_o:=hc1
 simp only [decide_eq_true_eq] at hc1_o
 refine sr (SQ (fa hc1 tt)) ?_
 apply ret
 obtain rfl:=oi h
 exact rt (mp [(900000,1012)] [(4,(.sref 900000 1 0 ((a0++([(IntKind.u8.wrap (shrI .i64 a1 8)),(IntKind.u8.wrap a1)]:List Int)).length)))] [(900000,some (.row 5 1 ((a0++([(IntKind.u8.wrap (shrI .i64 a1 8)),(IntKind.u8.wrap a1)]:List Int)).map (eI .u8))))] hB) [(.sref 900000 1 0 ((a0++([(IntKind.u8.wrap (shrI .i64 a1 8)),(IntKind.u8.wrap a1)]:List Int)).length))] (rT rN) rfl
def A1r (a0:A7):Option ((List Int)×Bool) :=
 (S1 a0).bind fun r1 =>
 (W4 r1).bind fun r2 =>
 (L8 a0.fWithdraw false).bind fun r3 =>
 (A2f (r3.length:Int)).bind fun r4 =>
 chk (decide ((r4++r3).length≤LIM)) <|
 (A2g (r4++r3) (r2.1.length:Int)).bind fun r6 =>
 chk (decide ((r6++r2.1).length≤LIM)) <|
 (S8 (r6++r2.1) a0.fAnnounce false).bind fun r8 =>
 some (r8,((r2.2==0)&&(decide ((r8.length:Int)≤4077))))
theorem A8u (a0:A7) (r:(List Int)×Bool) (h:A1r a0=some r):AC Tryz.prog 92 [(.d (D4 a0))] [(500,(.know (globD 0 (.imap gv0))))] (.tup [(.d (.list 1 (r.1.map (eI .u8)))),(.d (.bool r.2))]) [(500,some (.know (globD 0 (.imap gv0))))]:=by
 refine ac2 Tryz.func92 rfl rfl fun B hB hN L => ?_
 delta A1r at h
 refine sr (SQ tt) ?_
 apply seq
 obtain⟨r1,hr1,h⟩:=bindS h
 obtain⟨r2,hr2,h⟩:=bindS h
 refine rg (SQ (fa (cl [(500,500)] (A8t a0 r1 hr1)) (fa (cl [] (A6b r1 r2 hr2)) tt))) ?_
 apply A0
 refine ghost (mp [] [(1,(pt 1001)),(4,(.d (.list 1 (r2.1.map (eI .u8))))),(5,(i6 r2.2))] [(500,some (.know (globD 0 (.imap gv0)))),(1001,bd 61 (D4 a0))] hB) ?_
 obtain⟨r3,hr3,h⟩:=bindS h
 refine sr (SQ (fa (cl [] (A38 a0.fWithdraw false r3 hr3)) tt)) ?_
 apply seq
 obtain⟨r4,hr4,h⟩:=bindS h
 obtain⟨hc5,h⟩:=C0 h
 refine rg (SQ (fa (cl [(900000,100300)] (A7s (r3.length:Int) r4 hr4)) (fa hc5 tt))) ?_
 apply A0
 refine ghost (mp [] [(1,(pt 1001)),(4,(.d (.list 1 (r2.1.map (eI .u8))))),(5,(i6 r2.2)),(7,(.sref 1021 1 0 ((r4++r3).length)))] [(500,some (.know (globD 0 (.imap gv0)))),(1001,bd 61 (D4 a0)),(1021,some (.row 5 1 ((r4++r3).map (eI .u8))))] hB) ?_
 apply seq
 obtain⟨r6,hr6,h⟩:=bindS h
 obtain⟨hc7,h⟩:=C0 h
 refine rg (SQ (fa (cl [(0,1021),(900000,100400)] (A7t (r4++r3) (r2.1.length:Int) r6 hr6)) (fa hc7 tt))) ?_
 apply A0
 refine ghost (mp [] [(1,(pt 1001)),(5,(i6 r2.2)),(7,(.sref 1027 1 0 ((r6++r2.1).length)))] [(500,some (.know (globD 0 (.imap gv0)))),(1001,bd 61 (D4 a0)),(1027,some (.row 5 1 ((r6++r2.1).map (eI .u8))))] hB) ?_
 apply seq
 obtain⟨r8,hr8,h⟩:=bindS h
 refine rg (SQ (fa (cl [(0,1027)] (A4e (r6++r2.1) a0.fAnnounce false r8 hr8)) tt)) ?_
 apply A0
 refine ghost (mp [] [(5,(i6 r2.2)),(7,(.d (.list 1 (r8.map (eI .u8)))))] [(500,some (.know (globD 0 (.imap gv0))))] hB) ?_
 refine sr (SQ tt) ?_
 apply ret
 obtain rfl:=oi h
 exact rt (kp [(2,_),(3,_)] [(500,some _)] hB rfl rfl (by rfl)) [(.d (.list 1 (r8.map (eI .u8)))),(bo ((r2.2==0)&&(decide ((r8.length:Int)≤4077))))] (rT (rT rN)) rfl
def L3 (a0:A7):Option (Bool) :=
 jn (fun m7:Bool =>
 (if m7=true then
 some false
 else
 (A1r a0).bind fun r10 =>
 some r10.2)) (fun j8 =>
 (if ((decide (256<(a0.fWithdraw.length:Int))) || (decide (256<(a0.fAnnounce.length:Int))))=true then
 j8 true
 else
 (H4 a0.fWithdraw).bind fun r12 =>
 (if r12=true then
 j8 true
 else
 (H4 a0.fAnnounce).bind fun r14 =>
 (if r14=true then
 j8 true
 else
 (V9 a0).bind fun r16 =>
 j8 (!r16)))))
theorem A24 (a0:A7) (r:Bool) (h:L3 a0=some r):AC Tryz.prog 52 [(.d (D4 a0))] [(500,(.know (globD 0 (.imap gv0))))] (.d (.bool r)) [(500,some (.know (globD 0 (.imap gv0))))]:=by
 refine ac2 Tryz.func52 rfl rfl fun B hB hN L => ?_
 delta L3 at h
 refine sr (SQ tt) ?_
 refine sr (SQ tt) ?_
 apply seq
 apply seq
 refine AWp.cut h (fun m7:Bool=>([(1,(pt 1001)),(32,(bo m7))]:EL)) (fun m7:Bool=>([(500,some (.know (globD 0 (.imap gv0)))),(1001,bd 61 (D4 a0))]:OL)) (fun m7 h E' O' hmat => ?_) (fun j8 hjj8 h => ?_)
 ·apply A0
  refine ghost hmat ?_
  apply AWp.cond rfl<;>intro hg9
  ·have h:=A5 hg9 h
   refine sr (SQ tt) ?_
   apply ret
   apply B9
   obtain rfl:=oi h
   exact rt (kp [(2,_)] [(500,some _)] hB rfl rfl (by rfl)) [(bo false)] (rT rN) rfl
  ·have h:=A6 hg9 h
   apply AWp.skip
   apply A0
   apply seq
   obtain⟨r10,hr10,h⟩:=bindS h
   refine rg (SQ (fa (cl [(500,500)] (A8u a0 r10 hr10)) tt)) ?_
   apply A0
   refine ghost (mp [] [(5,(bo r10.2))] [(500,some (.know (globD 0 (.imap gv0))))] hB) ?_
   refine sr (SQ tt) ?_
   apply ret
   obtain rfl:=oi h
   exact rt (kp [(2,_)] [(500,some _)] hB rfl rfl (by rfl)) [(bo r10.2)] (rT rN) rfl
 ·rcases bft ((decide (256<(a0.fWithdraw.length:Int))) || (decide (256<(a0.fAnnounce.length:Int)))) with hg11 | hg11
  ·have h:=A5 hg11 h
   refine rg (SQ (fa hg11 tt)) ?_
   exact hjj8 _ h _ _ (mp [] _ _ hB)
  ·have h:=A6 hg11 h
   obtain⟨r12,hr12,h⟩:=bindS h
   rcases bft r12 with hg13 | hg13
   ·have h:=A5 hg13 h
    refine rg (SQ (fa hg11 (fa (cl [] (I9 a0.fWithdraw r12 hr12)) (fa hg13 tt)))) ?_
    exact hjj8 _ h _ _ (mp [] _ _ hB)
   ·have h:=A6 hg13 h
    obtain⟨r14,hr14,h⟩:=bindS h
    rcases bft r14 with hg15 | hg15
    ·have h:=A5 hg15 h
     refine rg (SQ (fa hg11 (fa (cl [] (I9 a0.fWithdraw r12 hr12)) (fa hg13 (fa (cl [] (I9 a0.fAnnounce r14 hr14)) (fa hg15 tt)))))) ?_
     exact hjj8 _ h _ _ (mp [] _ _ hB)
    ·have h:=A6 hg15 h
     obtain⟨r16,hr16,h⟩:=bindS h
     refine rg (SQ (fa hg11 (fa (cl [] (I9 a0.fWithdraw r12 hr12)) (fa hg13 (fa (cl [] (I9 a0.fAnnounce r14 hr14)) (fa hg15 (fa (cl [(500,500)] (A8s a0 r16 hr16)) tt))))))) ?_
     exact hjj8 _ h _ _ (mp [] _ _ hB)
def A2p (a0:C2):Option (Bool) :=
 jn (fun m8:Bool =>
 some m8) (fun j9 =>
 (X6 a0.fPrefix).bind fun r10 =>
 (if r10=true then
 (if (!a0.fHas)=true then
 j9 true
 else
 (if (((a0.fRoute.fPrefix.fAddr.fV6==a0.fPrefix.fAddr.fV6)&&((a0.fRoute.fPrefix.fAddr.fHi==a0.fPrefix.fAddr.fHi)&&((a0.fRoute.fPrefix.fAddr.fLo==a0.fPrefix.fAddr.fLo)&&true)))&&((a0.fRoute.fPrefix.fLen==a0.fPrefix.fLen)&&true))=true then
 (G9 a0.fRoute.fAttrs [a0.fPrefix] true).bind fun r14 =>
 (L3 r14).bind fun r15 =>
 j9 r15
 else
 j9 false))
 else
 j9 false))
theorem A3l (a0:C2) (r:Bool) (h:A2p a0=some r):AC Tryz.prog 28 [(.d (D6 a0))] [(500,(.know (globD 0 (.imap gv0))))] (.d (.bool r)) [(500,some (.know (globD 0 (.imap gv0))))]:=by
 refine ac2 Tryz.func28 rfl rfl fun B hB hN L => ?_
 delta A2p at h
 refine sr (SQ tt) ?_
 apply seq
 refine AWp.cut h (fun m8:Bool=>([(2,(bo m8))]:EL)) (fun m8:Bool=>([(500,some (.know (globD 0 (.imap gv0))))]:OL)) (fun m8 h E' O' hmat => ?_) (fun j9 hjj9 h => ?_)
 ·apply A0
  refine ghost hmat ?_
  apply ret
  obtain rfl:=oi h
  exact rt (kp [(2,_)] [(500,some _)] hB rfl rfl (by rfl)) [(bo m8)] (rT rN) rfl
 ·obtain⟨r10,hr10,h⟩:=bindS h
  rcases bft r10 with hg11 | hg11
  ·have h:=A5 hg11 h
   rcases bft (!a0.fHas) with hg12 | hg12
   ·have h:=A5 hg12 h
    refine rg (SQ (fa (cl [] (T2 a0.fPrefix r10 hr10)) (fa hg11 (fa hg12 tt)))) ?_
    exact hjj9 _ h _ _ (mp [] _ _ hB)
   ·have h:=A6 hg12 h
    rcases bft (((a0.fRoute.fPrefix.fAddr.fV6==a0.fPrefix.fAddr.fV6)&&((a0.fRoute.fPrefix.fAddr.fHi==a0.fPrefix.fAddr.fHi)&&((a0.fRoute.fPrefix.fAddr.fLo==a0.fPrefix.fAddr.fLo)&&true)))&&((a0.fRoute.fPrefix.fLen==a0.fPrefix.fLen)&&true)) with hg13 | hg13
    ·have h:=A5 hg13 h
     obtain⟨r14,hr14,h⟩:=bindS h
     obtain⟨r15,hr15,h⟩:=bindS h
     refine rg (SQ (fa (cl [] (T2 a0.fPrefix r10 hr10)) (fa hg11 (fa hg12 (fa hg13 (fa (cl [] (T4 a0.fRoute.fAttrs [a0.fPrefix] true r14 hr14)) (fa (cl [(500,500)] (A24 r14 r15 hr15)) tt))))))) ?_
     exact hjj9 _ h _ _ (mp [] _ _ hB)
    ·have h:=A6 hg13 h
     refine rg (SQ (fa (cl [] (T2 a0.fPrefix r10 hr10)) (fa hg11 (fa hg12 (fa hg13 tt))))) ?_
     exact hjj9 _ h _ _ (mp [] _ _ hB)
  ·have h:=A6 hg11 h
   refine rg (SQ (fa (cl [] (T2 a0.fPrefix r10 hr10)) (fa hg11 tt))) ?_
   exact hjj9 _ h _ _ (mp [] _ _ hB)
def A0c (a0:D3):Option (Int) :=
 (if a0.fV6=true then
 some 1
 else
 some 0)
theorem A56 (a0:D3) (r:Int) (h:A0c a0=some r):AC Tryz.prog 95 [(.d (C9 a0))] [] (.d (.int .i64 r)) []:=by
 refine AC.of_code2 Tryz.func95 rfl rfl (Nat.le_of_ble_eq_true (by rfl)) fun B hB hN => ?_
 delta A0c at h
 refine sr (SQ tt) ?_
 apply seq
 refine sr (SQ tt) ?_
 apply AWp.cond rfl<;>intro hg1
 ·have h:=A5 hg1 h
  refine sr (SQ tt) ?_
  apply ret
  apply B9
  obtain rfl:=oi h
  exact rt (kp [(2,_)] [] hB rfl rfl (by rfl)) [(i6 1)] (rT rN) rfl
 ·have h:=A6 hg1 h
  apply AWp.skip
  apply A0
  refine sr (SQ tt) ?_
  apply ret
  obtain rfl:=oi h
  exact rt (kp [(2,_)] [] hB rfl rfl (by rfl)) [(i6 0)] (rT rN) rfl
def A39 (a0:Int):Option (Bool) :=
 some (a0 != a0)
theorem A57 (a0:Int) (r:Bool) (h:A39 a0=some r):AC Tryz.prog 116 [(.d (.int .u64 a0))] [] (.d (.bool r)) []:=by
 refine AC.of_code2 Tryz.func116 rfl rfl (Nat.le_of_ble_eq_true (by rfl)) fun B hB hN => ?_
 delta A39 at h
 refine sr (SQ tt) ?_
 refine sr (SQ tt) ?_
 apply ret
 obtain rfl:=oi h
 exact rt (kp [(2,_)] [] hB rfl rfl (by rfl)) [(bo (a0 != a0))] (rT rN) rfl
def Z2 (a0:Int) (a1:Int):Option (Int) :=
 (A39 a0).bind fun r1 =>
 (A39 a1).bind fun r2 =>
 (if r1=true then
 (if r2=true then
 some 0
 else
 some (-1))
 else
 (if r2=true then
 some 1
 else
 (if (decide (a0<a1))=true then
 some (-1)
 else
 (if (decide (a1<a0))=true then
 some 1
 else
 some 0))))
theorem A3z (a0:Int) (a1:Int) (r:Int) (h:Z2 a0 a1=some r):AC Tryz.prog 96 [(.d (.int .u64 a0)),(.d (.int .u64 a1))] [] (.d (.int .i64 r)) []:=by
 refine ac2 Tryz.func96 rfl rfl fun B hB hN L => ?_
 delta Z2 at h
 refine sr (SQ tt) ?_
 obtain⟨r1,hr1,h⟩:=bindS h
 refine sr (SQ (fa (cl [] (A57 a0 r1 hr1)) tt)) ?_
 obtain⟨r2,hr2,h⟩:=bindS h
 refine sr (SQ (fa (cl [] (A57 a1 r2 hr2)) tt)) ?_
 apply seq
 refine sr (SQ tt) ?_
 apply AWp.cond rfl<;>intro hg3
 ·have h:=A5 hg3 h
  apply seq
  refine sr (SQ tt) ?_
  apply AWp.cond rfl<;>intro hg4
  ·have h:=A5 hg4 h
   refine sr (SQ tt) ?_
   apply ret
   apply B9
   apply B9
   obtain rfl:=oi h
   exact rt (kp [(4,_)] [] hB rfl rfl (by rfl)) [(i6 0)] (rT rN) rfl
  ·have h:=A6 hg4 h
   apply AWp.skip
   apply A0
   refine sr (SQ tt) ?_
   apply ret
   apply B9
   obtain rfl:=oi h
   exact rt (kp [(4,_)] [] hB rfl rfl (by rfl)) [(i6 (-1))] (rT rN) rfl
 ·have h:=A6 hg3 h
  apply AWp.skip
  apply A0
  apply seq
  refine sr (SQ tt) ?_
  apply AWp.cond rfl<;>intro hg5
  ·have h:=A5 hg5 h
   refine sr (SQ tt) ?_
   apply ret
   apply B9
   obtain rfl:=oi h
   exact rt (kp [(4,_)] [] hB rfl rfl (by rfl)) [(i6 1)] (rT rN) rfl
  ·have h:=A6 hg5 h
   apply AWp.skip
   apply A0
   apply seq
   refine sr (SQ tt) ?_
   apply AWp.cond rfl<;>intro hg6
   ·have h:=A5 hg6 h
    refine sr (SQ tt) ?_
    apply ret
    apply B9
    obtain rfl:=oi h
    exact rt (kp [(4,_)] [] hB rfl rfl (by rfl)) [(i6 (-1))] (rT rN) rfl
   ·have h:=A6 hg6 h
    apply AWp.skip
    apply A0
    apply seq
    refine sr (SQ tt) ?_
    apply AWp.cond rfl<;>intro hg7
    ·have h:=A5 hg7 h
     refine sr (SQ tt) ?_
     apply ret
     apply B9
     obtain rfl:=oi h
     exact rt (kp [(4,_)] [] hB rfl rfl (by rfl)) [(i6 1)] (rT rN) rfl
    ·have h:=A6 hg7 h
     apply AWp.skip
     apply A0
     refine sr (SQ tt) ?_
     apply ret
     obtain rfl:=oi h
     exact rt (kp [(4,_)] [] hB rfl rfl (by rfl)) [(i6 0)] (rT rN) rfl
def A58 (a0:D3) (a1:D3):Option (Int) :=
 (A0c a0).bind fun r1 =>
 (A0c a1).bind fun r2 =>
 (H9 r1 r2).bind fun r3 =>
 (Z2 a0.fHi a1.fHi).bind fun r4 =>
 (Z2 a0.fLo a1.fLo).bind fun r5 =>
 (A50 ([r3,r4,r5]:List Int)).bind fun r6 =>
 some r6
theorem B1e (a0:D3) (a1:D3) (r:Int) (h:A58 a0 a1=some r):AC Tryz.prog 55 [(.d (C9 a0)),(.d (C9 a1))] [] (.d (.int .i64 r)) []:=by
 refine AC.of_code2 Tryz.func55 rfl rfl (Nat.le_of_ble_eq_true (by rfl)) fun B hB hN => ?_
 delta A58 at h
 refine sr (SQ tt) ?_
 obtain⟨r1,hr1,h⟩:=bindS h
 obtain⟨r2,hr2,h⟩:=bindS h
 obtain⟨r3,hr3,h⟩:=bindS h
 obtain⟨r4,hr4,h⟩:=bindS h
 obtain⟨r5,hr5,h⟩:=bindS h
 obtain⟨r6,hr6,h⟩:=bindS h
 refine sdS (SQ (fa (cl [] (A56 a0 r1 hr1)) (fa (cl [] (A56 a1 r2 hr2)) (fa (cl [] (J0 r1 r2 r3 hr3)) (fa (cl [] (A3z a0.fHi a1.fHi r4 hr4)) (fa (cl [] (A3z a0.fLo a1.fLo r5 hr5)) (fa (cl [] (A5g ([r3,r4,r5]:List Int) r6 hr6)) tt))))))) ?_
 apply ret
 obtain rfl:=oi h
 exact rt (kp [(4,_)] [] hB rfl rfl (by rfl)) [(i6 r6)] (rT rN) rfl
def A2q (a0:A2) (a1:A2):Option (Int) :=
 (A58 a0.fAddr a1.fAddr).bind fun r1 =>
 (H9 a0.fLen a1.fLen).bind fun r2 =>
 (A50 ([r1,r2]:List Int)).bind fun r3 =>
 some r3
theorem A9l (a0:A2) (a1:A2) (r:Int) (h:A2q a0 a1=some r):AC Tryz.prog 29 [(.d (B3 a0)),(.d (B3 a1))] [] (.d (.int .i64 r)) []:=by
 refine AC.of_code2 Tryz.func29 rfl rfl (Nat.le_of_ble_eq_true (by rfl)) fun B hB hN => ?_
 delta A2q at h
 refine sr (SQ tt) ?_
 obtain⟨r1,hr1,h⟩:=bindS h
 obtain⟨r2,hr2,h⟩:=bindS h
 obtain⟨r3,hr3,h⟩:=bindS h
 refine sdS (SQ (fa (cl [] (B1e a0.fAddr a1.fAddr r1 hr1)) (fa (cl [] (J0 a0.fLen a1.fLen r2 hr2)) (fa (cl [] (A5g ([r1,r2]:List Int) r3 hr3)) tt)))) ?_
 apply ret
 obtain rfl:=oi h
 exact rt (kp [(4,_)] [] hB rfl rfl (by rfl)) [(i6 r3)] (rT rN) rfl
def O9 (a0:(List Int)) (a1:(List Int)) (s2:Int):Option (((Unit)⊕(Unit))⊕(Int)) :=
 (if (decide (s2<(a0.length:Int)))=true then
 (idx a0 s2).bind fun x14 =>
 (idx a1 s2).bind fun x15 =>
 (if (x14 != x15)=true then
 some (.inl (.inl ()))
 else
 some (.inr (w64 (s2+1))))
 else
 some (.inl (.inr ())))
def A0s (a0:(List Int)) (a1:(List Int)):Option (Bool) :=
 (if ((a0.length:Int) != (a1.length:Int))=true then
 some false
 else
 (loop (O9 a0 a1) 0).bind fun x17=>match x17 with
 | (.inl _) =>
  some false
 | (.inr _) =>
  some true)
theorem A7u (a0:(List Int)) (a1:(List Int)) (r:Bool) (h:A0s a0 a1=some r):AC Tryz.prog 58 [(.d (.list 1 (a0.map (eI .i64)))),(.d (.list 1 (a1.map (eI .i64))))] [] (.d (.bool r)) []:=by
 refine ac2 Tryz.func58 rfl rfl fun B hB hN L => ?_
 delta A0s at h
 refine sr (SQ tt) ?_
 apply seq
 refine sr (SQ tt) ?_
 apply AWp.cond rfl<;>intro hg1
 ·have h:=A5 hg1 h
  refine sr (SQ tt) ?_
  apply ret
  apply B9
  obtain rfl:=oi h
  exact rt (kp [(4,_)] [] hB rfl rfl (by rfl)) [(bo false)] (rT rN) rfl
 ·have h:=A6 hg1 h
  apply AWp.skip
  apply A0
  apply seq
  refine sr (SQ tt) ?_
  apply block
  obtain⟨x17,hx18,h⟩:=bindS h
  refine lg (O9 a0 a1) (fun s2:Int=>([(0,(qI_1 a0)),(1,(qI_1 a1)),(12,(i6 (a0.length:Int))),(13,(i6 s2))]:EL)) (fun s2:Int=>([]:OL)) (fun(x:(Unit)⊕(Unit)) e E' O'=>match x with | (.inl _p)=>e = .ret∧Mat B E' O' ([(4,(bo false))]:EL) ([]:OL) | (.inr _p)=>e = .exit 0∧Mat B E' O' ([]:EL) ([]:OL)) hx18 (mp [] _ _ hB) (fun s2 y h => ?_) (fun e E' O' hR => ?_)
  ·unfold O9 at h
   refine sr (SQ tt) ?_
   apply seq
   apply AWp.cond rfl<;>intro hg13
   ·have h:=A5 hg13 h
    apply AWp.skip
    apply A0
    apply seq
    apply block
    refine sr (SQ tt) ?_
    obtain⟨_,hx14,h⟩:=bindS h
    obtain⟨_,hx15,h⟩:=bindS h
    refine sdS (SQ (fa hx14 (fa hx15 tt))) ?_
    apply AWp.cond rfl<;>intro hg16
    ·have h:=A5 hg16 h
     refine sr (SQ tt) ?_
     apply ret
     apply D7
     apply B9
     obtain rfl:=oi h
     exact⟨(fun hc=>by cases hc),rfl,(mp [] _ _ hB)⟩
    ·have h:=A6 hg16 h
     apply AWp.skip
     apply E4
     apply A0
     refine rg (SQ tt) ?_
     obtain rfl:=oi h
     exact⟨rfl,(mp [] _ _ hB)⟩
   ·have h:=A6 hg13 h
    apply AWp.exit
    apply E5
    obtain rfl:=oi h
    exact⟨(fun hc=>by cases hc),rfl,(mp [] _ _ hB)⟩
  ·rcases x17 with _ | _
   ·obtain⟨rfl,hmat⟩:=hR
    apply D7
    apply B9
    obtain rfl:=oi h
    exact rt (Mat.trans hmat (mp [] [(4,(bo false))] [] hB)) [(bo false)] (rT rN) rfl
   ·obtain⟨rfl,hmat⟩:=hR
    apply C6
    apply A0
    refine ghost hmat ?_
    refine sr (SQ tt) ?_
    apply ret
    obtain rfl:=oi h
    exact rt (kp [(4,_)] [] hB rfl rfl (by rfl)) [(bo true)] (rT rN) rfl
def Z3 (a0:B8) (a1:B8):Option (Bool) :=
 jn (fun m3:Bool =>
 some m3) (fun j4 =>
 (if (a0.fSet==a1.fSet)=true then
 (A0s a0.fASNs a1.fASNs).bind fun r6 =>
 j4 r6
 else
 j4 false))
theorem A6t (a0:B8) (a1:B8) (r:Bool) (h:Z3 a0 a1=some r):AC Tryz.prog 57 [(.d (C4 a0)),(.d (C4 a1))] [] (.d (.bool r)) []:=by
 refine ac2 Tryz.func57 rfl rfl fun B hB hN L => ?_
 delta Z3 at h
 refine sr (SQ tt) ?_
 apply seq
 refine AWp.cut h (fun m3:Bool=>([(4,(bo m3))]:EL)) (fun m3:Bool=>([]:OL)) (fun m3 h E' O' hmat => ?_) (fun j4 hjj4 h => ?_)
 ·apply A0
  refine ghost hmat ?_
  apply ret
  obtain rfl:=oi h
  exact rt (kp [(4,_)] [] hB rfl rfl (by rfl)) [(bo m3)] (rT rN) rfl
 ·rcases bft (a0.fSet==a1.fSet) with hg5 | hg5
  ·have h:=A5 hg5 h
   obtain⟨r6,hr6,h⟩:=bindS h
   refine rg (SQ (fa hg5 (fa (cl [] (A7u a0.fASNs a1.fASNs r6 hr6)) tt))) ?_
   exact hjj4 _ h _ _ (mp [] _ _ hB)
  ·have h:=A6 hg5 h
   refine rg (SQ (fa hg5 tt)) ?_
   exact hjj4 _ h _ _ (mp [] _ _ hB)
def J7 (a0:(List B8)) (a1:(List B8)) (s2:Int):Option (((Unit)⊕(Unit))⊕(Int)) :=
 (if (decide (s2<(a0.length:Int)))=true then
 (idx a0 s2).bind fun x16 =>
 (idx a1 s2).bind fun x17 =>
 (Z3 x16 x17).bind fun r18 =>
 (if (!r18)=true then
 some (.inl (.inl ()))
 else
 some (.inr (w64 (s2+1))))
 else
 some (.inl (.inr ())))
def R1 (a0:(List B8)) (a1:(List B8)):Option (Bool) :=
 (if ((a0.length:Int) != (a1.length:Int))=true then
 some false
 else
 (loop (J7 a0 a1) 0).bind fun x20=>match x20 with
 | (.inl _) =>
  some false
 | (.inr _) =>
  some true)
theorem Q6 (a0:(List B8)) (a1:(List B8)) (r:Bool) (h:R1 a0 a1=some r):AC Tryz.prog 61 [(.d (.list 2 (a0.map C4))),(.d (.list 2 (a1.map C4))),(.func 57 [])] [] (.d (.bool r)) []:=by
 refine ac2 Tryz.func61 rfl rfl fun B hB hN L => ?_
 delta R1 at h
 refine sr (SQ tt) ?_
 apply seq
 refine sr (SQ tt) ?_
 apply AWp.cond rfl<;>intro hg1
 ·have h:=A5 hg1 h
  refine sr (SQ tt) ?_
  apply ret
  apply B9
  obtain rfl:=oi h
  exact rt (kp [(6,_)] [] hB rfl rfl (by rfl)) [(bo false)] (rT rN) rfl
 ·have h:=A6 hg1 h
  apply AWp.skip
  apply A0
  apply seq
  refine sr (SQ tt) ?_
  apply block
  obtain⟨x20,hx21,h⟩:=bindS h
  refine lg (J7 a0 a1) (fun s2:Int=>([(1,(B0 a1)),(2,(.func 57 [])),(15,(B0 a0)),(16,(i6 (a0.length:Int))),(17,(i6 s2))]:EL)) (fun s2:Int=>([]:OL)) (fun(x:(Unit)⊕(Unit)) e E' O'=>match x with | (.inl _p)=>e = .ret∧Mat B E' O' ([(6,(bo false))]:EL) ([]:OL) | (.inr _p)=>e = .exit 0∧Mat B E' O' ([]:EL) ([]:OL)) hx21 (mp [] _ _ hB) (fun s2 y h => ?_) (fun e E' O' hR => ?_)
  ·unfold J7 at h
   refine sr (SQ tt) ?_
   apply seq
   apply AWp.cond rfl<;>intro hg15
   ·have h:=A5 hg15 h
    apply AWp.skip
    apply A0
    apply seq
    apply block
    obtain⟨x16,hx16,h⟩:=bindS h
    refine sr (SQ (fa hx16 tt)) ?_
    obtain⟨x17,hx17,h⟩:=bindS h
    refine sr (SQ (fa hx17 tt)) ?_
    obtain⟨r18,hr18,h⟩:=bindS h
    refine sr (SQ (fa (cl [] (A6t x16 x17 r18 hr18)) tt)) ?_
    apply AWp.cond rfl<;>intro hg19
    ·have h:=A5 hg19 h
     refine sr (SQ tt) ?_
     apply ret
     apply D7
     apply B9
     obtain rfl:=oi h
     exact⟨(fun hc=>by cases hc),rfl,(mp [] _ _ hB)⟩
    ·have h:=A6 hg19 h
     apply AWp.skip
     apply E4
     apply A0
     refine rg (SQ tt) ?_
     obtain rfl:=oi h
     exact⟨rfl,(mp [] _ _ hB)⟩
   ·have h:=A6 hg15 h
    apply AWp.exit
    apply E5
    obtain rfl:=oi h
    exact⟨(fun hc=>by cases hc),rfl,(mp [] _ _ hB)⟩
  ·rcases x20 with _ | _
   ·obtain⟨rfl,hmat⟩:=hR
    apply D7
    apply B9
    obtain rfl:=oi h
    exact rt (Mat.trans hmat (mp [] [(6,(bo false))] [] hB)) [(bo false)] (rT rN) rfl
   ·obtain⟨rfl,hmat⟩:=hR
    apply C6
    apply A0
    refine ghost hmat ?_
    refine sr (SQ tt) ?_
    apply ret
    obtain rfl:=oi h
    exact rt (kp [(6,_)] [] hB rfl rfl (by rfl)) [(bo true)] (rT rN) rfl
def V0 (a0:(List B4)) (a1:(List B4)) (s2:Int):Option (((Unit)⊕(Unit))⊕(Int)) :=
 (if (decide (s2<(a0.length:Int)))=true then
 (idx a0 s2).bind fun x14 =>
 (idx a1 s2).bind fun x15 =>
 (if (!((x14.fA==x15.fA)&&((x14.fB==x15.fB)&&true)))=true then
 some (.inl (.inl ()))
 else
 some (.inr (w64 (s2+1))))
 else
 some (.inl (.inr ())))
def W5 (a0:(List B4)) (a1:(List B4)):Option (Bool) :=
 (if ((a0.length:Int) != (a1.length:Int))=true then
 some false
 else
 (loop (V0 a0 a1) 0).bind fun x17=>match x17 with
 | (.inl _) =>
  some false
 | (.inr _) =>
  some true)
theorem A0t (a0:(List B4)) (a1:(List B4)) (r:Bool) (h:W5 a0 a1=some r):AC Tryz.prog 62 [(.d (.list 2 (a0.map B7))),(.d (.list 2 (a1.map B7)))] [] (.d (.bool r)) []:=by
 refine ac2 Tryz.func62 rfl rfl fun B hB hN L => ?_
 delta W5 at h
 refine sr (SQ tt) ?_
 apply seq
 refine sr (SQ tt) ?_
 apply AWp.cond rfl<;>intro hg1
 ·have h:=A5 hg1 h
  refine sr (SQ tt) ?_
  apply ret
  apply B9
  obtain rfl:=oi h
  exact rt (kp [(4,_)] [] hB rfl rfl (by rfl)) [(bo false)] (rT rN) rfl
 ·have h:=A6 hg1 h
  apply AWp.skip
  apply A0
  apply seq
  refine sr (SQ tt) ?_
  apply block
  obtain⟨x17,hx18,h⟩:=bindS h
  refine lg (V0 a0 a1) (fun s2:Int=>([(0,(A9 a0)),(1,(A9 a1)),(12,(i6 (a0.length:Int))),(13,(i6 s2))]:EL)) (fun s2:Int=>([]:OL)) (fun(x:(Unit)⊕(Unit)) e E' O'=>match x with | (.inl _p)=>e = .ret∧Mat B E' O' ([(4,(bo false))]:EL) ([]:OL) | (.inr _p)=>e = .exit 0∧Mat B E' O' ([]:EL) ([]:OL)) hx18 (mp [] _ _ hB) (fun s2 y h => ?_) (fun e E' O' hR => ?_)
  ·unfold V0 at h
   refine sr (SQ tt) ?_
   apply seq
   apply AWp.cond rfl<;>intro hg13
   ·have h:=A5 hg13 h
    apply AWp.skip
    apply A0
    apply seq
    apply block
    refine sr (SQ tt) ?_
    obtain⟨_,hx14,h⟩:=bindS h
    obtain⟨_,hx15,h⟩:=bindS h
    refine sdS (SQ (fa hx14 (fa hx15 tt))) ?_
    apply AWp.cond rfl<;>intro hg16
    ·have h:=A5 hg16 h
     refine sr (SQ tt) ?_
     apply ret
     apply D7
     apply B9
     obtain rfl:=oi h
     exact⟨(fun hc=>by cases hc),rfl,(mp [] _ _ hB)⟩
    ·have h:=A6 hg16 h
     apply AWp.skip
     apply E4
     apply A0
     refine rg (SQ tt) ?_
     obtain rfl:=oi h
     exact⟨rfl,(mp [] _ _ hB)⟩
   ·have h:=A6 hg13 h
    apply AWp.exit
    apply E5
    obtain rfl:=oi h
    exact⟨(fun hc=>by cases hc),rfl,(mp [] _ _ hB)⟩
  ·rcases x17 with _ | _
   ·obtain⟨rfl,hmat⟩:=hR
    apply D7
    apply B9
    obtain rfl:=oi h
    exact rt (Mat.trans hmat (mp [] [(4,(bo false))] [] hB)) [(bo false)] (rT rN) rfl
   ·obtain⟨rfl,hmat⟩:=hR
    apply C6
    apply A0
    refine ghost hmat ?_
    refine sr (SQ tt) ?_
    apply ret
    obtain rfl:=oi h
    exact rt (kp [(4,_)] [] hB rfl rfl (by rfl)) [(bo true)] (rT rN) rfl
def V1 (a0:(List E6)) (a1:(List E6)) (s2:Int):Option (((Unit)⊕(Unit))⊕(Int)) :=
 (if (decide (s2<(a0.length:Int)))=true then
 (idx a0 s2).bind fun x14 =>
 (idx a1 s2).bind fun x15 =>
 (if (!((x14.fA==x15.fA)&&((x14.fB==x15.fB)&&((x14.fC==x15.fC)&&true))))=true then
 some (.inl (.inl ()))
 else
 some (.inr (w64 (s2+1))))
 else
 some (.inl (.inr ())))
def W6 (a0:(List E6)) (a1:(List E6)):Option (Bool) :=
 (if ((a0.length:Int) != (a1.length:Int))=true then
 some false
 else
 (loop (V1 a0 a1) 0).bind fun x17=>match x17 with
 | (.inl _) =>
  some false
 | (.inr _) =>
  some true)
theorem A3a (a0:(List E6)) (a1:(List E6)) (r:Bool) (h:W6 a0 a1=some r):AC Tryz.prog 63 [(.d (.list 3 (a0.map D8))),(.d (.list 3 (a1.map D8)))] [] (.d (.bool r)) []:=by
 refine ac2 Tryz.func63 rfl rfl fun B hB hN L => ?_
 delta W6 at h
 refine sr (SQ tt) ?_
 apply seq
 refine sr (SQ tt) ?_
 apply AWp.cond rfl<;>intro hg1
 ·have h:=A5 hg1 h
  refine sr (SQ tt) ?_
  apply ret
  apply B9
  obtain rfl:=oi h
  exact rt (kp [(4,_)] [] hB rfl rfl (by rfl)) [(bo false)] (rT rN) rfl
 ·have h:=A6 hg1 h
  apply AWp.skip
  apply A0
  apply seq
  refine sr (SQ tt) ?_
  apply block
  obtain⟨x17,hx18,h⟩:=bindS h
  refine lg (V1 a0 a1) (fun s2:Int=>([(0,(D0 a0)),(1,(D0 a1)),(12,(i6 (a0.length:Int))),(13,(i6 s2))]:EL)) (fun s2:Int=>([]:OL)) (fun(x:(Unit)⊕(Unit)) e E' O'=>match x with | (.inl _p)=>e = .ret∧Mat B E' O' ([(4,(bo false))]:EL) ([]:OL) | (.inr _p)=>e = .exit 0∧Mat B E' O' ([]:EL) ([]:OL)) hx18 (mp [] _ _ hB) (fun s2 y h => ?_) (fun e E' O' hR => ?_)
  ·unfold V1 at h
   refine sr (SQ tt) ?_
   apply seq
   apply AWp.cond rfl<;>intro hg13
   ·have h:=A5 hg13 h
    apply AWp.skip
    apply A0
    apply seq
    apply block
    refine sr (SQ tt) ?_
    obtain⟨_,hx14,h⟩:=bindS h
    obtain⟨_,hx15,h⟩:=bindS h
    refine sdS (SQ (fa hx14 (fa hx15 tt))) ?_
    apply AWp.cond rfl<;>intro hg16
    ·have h:=A5 hg16 h
     refine sr (SQ tt) ?_
     apply ret
     apply D7
     apply B9
     obtain rfl:=oi h
     exact⟨(fun hc=>by cases hc),rfl,(mp [] _ _ hB)⟩
    ·have h:=A6 hg16 h
     apply AWp.skip
     apply E4
     apply A0
     refine rg (SQ tt) ?_
     obtain rfl:=oi h
     exact⟨rfl,(mp [] _ _ hB)⟩
   ·have h:=A6 hg13 h
    apply AWp.exit
    apply E5
    obtain rfl:=oi h
    exact⟨(fun hc=>by cases hc),rfl,(mp [] _ _ hB)⟩
  ·rcases x17 with _ | _
   ·obtain⟨rfl,hmat⟩:=hR
    apply D7
    apply B9
    obtain rfl:=oi h
    exact rt (Mat.trans hmat (mp [] [(4,(bo false))] [] hB)) [(bo false)] (rT rN) rfl
   ·obtain⟨rfl,hmat⟩:=hR
    apply C6
    apply A0
    refine ghost hmat ?_
    refine sr (SQ tt) ?_
    apply ret
    obtain rfl:=oi h
    exact rt (kp [(4,_)] [] hB rfl rfl (by rfl)) [(bo true)] (rT rN) rfl
def A0u (a0:(List Int)) (a1:(List Int)) (s2:Int):Option (((Unit)⊕(Unit))⊕(Int)) :=
 (if (decide (s2<(a0.length:Int)))=true then
 (idx a0 s2).bind fun x14 =>
 (idx a1 s2).bind fun x15 =>
 (if (x14 != x15)=true then
 some (.inl (.inl ()))
 else
 some (.inr (w64 (s2+1))))
 else
 some (.inl (.inr ())))
def A2r (a0:(List Int)) (a1:(List Int)):Option (Bool) :=
 (if ((a0.length:Int) != (a1.length:Int))=true then
 some false
 else
 (loop (A0u a0 a1) 0).bind fun x17=>match x17 with
 | (.inl _) =>
  some false
 | (.inr _) =>
  some true)
theorem A6c (a0:(List Int)) (a1:(List Int)) (r:Bool) (h:A2r a0 a1=some r):AC Tryz.prog 60 [(.d (.list 1 (a0.map (eI .u8)))),(.d (.list 1 (a1.map (eI .u8))))] [] (.d (.bool r)) []:=by
 refine ac2 Tryz.func60 rfl rfl fun B hB hN L => ?_
 delta A2r at h
 refine sr (SQ tt) ?_
 apply seq
 refine sr (SQ tt) ?_
 apply AWp.cond rfl<;>intro hg1
 ·have h:=A5 hg1 h
  refine sr (SQ tt) ?_
  apply ret
  apply B9
  obtain rfl:=oi h
  exact rt (kp [(4,_)] [] hB rfl rfl (by rfl)) [(bo false)] (rT rN) rfl
 ·have h:=A6 hg1 h
  apply AWp.skip
  apply A0
  apply seq
  refine sr (SQ tt) ?_
  apply block
  obtain⟨x17,hx18,h⟩:=bindS h
  refine lg (A0u a0 a1) (fun s2:Int=>([(0,(.d (.list 1 (a0.map (eI .u8))))),(1,(.d (.list 1 (a1.map (eI .u8))))),(12,(i6 (a0.length:Int))),(13,(i6 s2))]:EL)) (fun s2:Int=>([]:OL)) (fun(x:(Unit)⊕(Unit)) e E' O'=>match x with | (.inl _p)=>e = .ret∧Mat B E' O' ([(4,(bo false))]:EL) ([]:OL) | (.inr _p)=>e = .exit 0∧Mat B E' O' ([]:EL) ([]:OL)) hx18 (mp [] _ _ hB) (fun s2 y h => ?_) (fun e E' O' hR => ?_)
  ·unfold A0u at h
   refine sr (SQ tt) ?_
   apply seq
   apply AWp.cond rfl<;>intro hg13
   ·have h:=A5 hg13 h
    apply AWp.skip
    apply A0
    apply seq
    apply block
    refine sr (SQ tt) ?_
    obtain⟨_,hx14,h⟩:=bindS h
    obtain⟨_,hx15,h⟩:=bindS h
    refine sdS (SQ (fa hx14 (fa hx15 tt))) ?_
    apply AWp.cond rfl<;>intro hg16
    ·have h:=A5 hg16 h
     refine sr (SQ tt) ?_
     apply ret
     apply D7
     apply B9
     obtain rfl:=oi h
     exact⟨(fun hc=>by cases hc),rfl,(mp [] _ _ hB)⟩
    ·have h:=A6 hg16 h
     apply AWp.skip
     apply E4
     apply A0
     refine rg (SQ tt) ?_
     obtain rfl:=oi h
     exact⟨rfl,(mp [] _ _ hB)⟩
   ·have h:=A6 hg13 h
    apply AWp.exit
    apply E5
    obtain rfl:=oi h
    exact⟨(fun hc=>by cases hc),rfl,(mp [] _ _ hB)⟩
  ·rcases x17 with _ | _
   ·obtain⟨rfl,hmat⟩:=hR
    apply D7
    apply B9
    obtain rfl:=oi h
    exact rt (Mat.trans hmat (mp [] [(4,(bo false))] [] hB)) [(bo false)] (rT rN) rfl
   ·obtain⟨rfl,hmat⟩:=hR
    apply C6
    apply A0
    refine ghost hmat ?_
    refine sr (SQ tt) ?_
    apply ret
    obtain rfl:=oi h
    exact rt (kp [(4,_)] [] hB rfl rfl (by rfl)) [(bo true)] (rT rN) rfl
def A3m (a0:A1) (a1:A1):Option (Bool) :=
 jn (fun m3:Bool =>
 some m3) (fun j4 =>
 (if ((a0.fFlags==a1.fFlags)&&(a0.fType==a1.fType))=true then
 (A2r a0.fData a1.fData).bind fun r6 =>
 j4 r6
 else
 j4 false))
theorem A6u (a0:A1) (a1:A1) (r:Bool) (h:A3m a0 a1=some r):AC Tryz.prog 59 [(.d (A8 a0)),(.d (A8 a1))] [] (.d (.bool r)) []:=by
 refine ac2 Tryz.func59 rfl rfl fun B hB hN L => ?_
 delta A3m at h
 refine sr (SQ tt) ?_
 apply seq
 refine AWp.cut h (fun m3:Bool=>([(4,(bo m3))]:EL)) (fun m3:Bool=>([]:OL)) (fun m3 h E' O' hmat => ?_) (fun j4 hjj4 h => ?_)
 ·apply A0
  refine ghost hmat ?_
  apply ret
  obtain rfl:=oi h
  exact rt (kp [(4,_)] [] hB rfl rfl (by rfl)) [(bo m3)] (rT rN) rfl
 ·rcases bft ((a0.fFlags==a1.fFlags)&&(a0.fType==a1.fType)) with hg5 | hg5
  ·have h:=A5 hg5 h
   obtain⟨r6,hr6,h⟩:=bindS h
   refine rg (SQ (fa hg5 (fa (cl [] (A6c a0.fData a1.fData r6 hr6)) tt))) ?_
   exact hjj4 _ h _ _ (mp [] _ _ hB)
  ·have h:=A6 hg5 h
   refine rg (SQ (fa hg5 tt)) ?_
   exact hjj4 _ h _ _ (mp [] _ _ hB)
def O6 (a0:(List A1)) (a1:(List A1)) (s2:Int):Option (((Unit)⊕(Unit))⊕(Int)) :=
 (if (decide (s2<(a0.length:Int)))=true then
 (idx a0 s2).bind fun x16 =>
 (idx a1 s2).bind fun x17 =>
 (A3m x16 x17).bind fun r18 =>
 (if (!r18)=true then
 some (.inl (.inl ()))
 else
 some (.inr (w64 (s2+1))))
 else
 some (.inl (.inr ())))
def N9 (a0:(List A1)) (a1:(List A1)):Option (Bool) :=
 (if ((a0.length:Int) != (a1.length:Int))=true then
 some false
 else
 (loop (O6 a0 a1) 0).bind fun x20=>match x20 with
 | (.inl _) =>
  some false
 | (.inr _) =>
  some true)
theorem A4k (a0:(List A1)) (a1:(List A1)) (r:Bool) (h:N9 a0 a1=some r):AC Tryz.prog 64 [(.d (.list 3 (a0.map A8))),(.d (.list 3 (a1.map A8))),(.func 59 [])] [] (.d (.bool r)) []:=by
 refine ac2 Tryz.func64 rfl rfl fun B hB hN L => ?_
 delta N9 at h
 refine sr (SQ tt) ?_
 apply seq
 refine sr (SQ tt) ?_
 apply AWp.cond rfl<;>intro hg1
 ·have h:=A5 hg1 h
  refine sr (SQ tt) ?_
  apply ret
  apply B9
  obtain rfl:=oi h
  exact rt (kp [(6,_)] [] hB rfl rfl (by rfl)) [(bo false)] (rT rN) rfl
 ·have h:=A6 hg1 h
  apply AWp.skip
  apply A0
  apply seq
  refine sr (SQ tt) ?_
  apply block
  obtain⟨x20,hx21,h⟩:=bindS h
  refine lg (O6 a0 a1) (fun s2:Int=>([(1,(B2 a1)),(2,(.func 59 [])),(15,(B2 a0)),(16,(i6 (a0.length:Int))),(17,(i6 s2))]:EL)) (fun s2:Int=>([]:OL)) (fun(x:(Unit)⊕(Unit)) e E' O'=>match x with | (.inl _p)=>e = .ret∧Mat B E' O' ([(6,(bo false))]:EL) ([]:OL) | (.inr _p)=>e = .exit 0∧Mat B E' O' ([]:EL) ([]:OL)) hx21 (mp [] _ _ hB) (fun s2 y h => ?_) (fun e E' O' hR => ?_)
  ·unfold O6 at h
   refine sr (SQ tt) ?_
   apply seq
   apply AWp.cond rfl<;>intro hg15
   ·have h:=A5 hg15 h
    apply AWp.skip
    apply A0
    apply seq
    apply block
    obtain⟨x16,hx16,h⟩:=bindS h
    refine sr (SQ (fa hx16 tt)) ?_
    obtain⟨x17,hx17,h⟩:=bindS h
    refine sr (SQ (fa hx17 tt)) ?_
    obtain⟨r18,hr18,h⟩:=bindS h
    refine sr (SQ (fa (cl [] (A6u x16 x17 r18 hr18)) tt)) ?_
    apply AWp.cond rfl<;>intro hg19
    ·have h:=A5 hg19 h
     refine sr (SQ tt) ?_
     apply ret
     apply D7
     apply B9
     obtain rfl:=oi h
     exact⟨(fun hc=>by cases hc),rfl,(mp [] _ _ hB)⟩
    ·have h:=A6 hg19 h
     apply AWp.skip
     apply E4
     apply A0
     refine rg (SQ tt) ?_
     obtain rfl:=oi h
     exact⟨rfl,(mp [] _ _ hB)⟩
   ·have h:=A6 hg15 h
    apply AWp.exit
    apply E5
    obtain rfl:=oi h
    exact⟨(fun hc=>by cases hc),rfl,(mp [] _ _ hB)⟩
  ·rcases x20 with _ | _
   ·obtain⟨rfl,hmat⟩:=hR
    apply D7
    apply B9
    obtain rfl:=oi h
    exact rt (Mat.trans hmat (mp [] [(6,(bo false))] [] hB)) [(bo false)] (rT rN) rfl
   ·obtain⟨rfl,hmat⟩:=hR
    apply C6
    apply A0
    refine ghost hmat ?_
    refine sr (SQ tt) ?_
    apply ret
    obtain rfl:=oi h
    exact rt (kp [(6,_)] [] hB rfl rfl (by rfl)) [(bo true)] (rT rN) rfl
def A0d (a0:D1) (a1:D1):Option (Bool) :=
 jn (fun m9:Bool =>
 some m9) (fun j10 =>
 (if (((((a0.fOrigin==a1.fOrigin)&&((a0.fNext.fV6==a1.fNext.fV6)&&((a0.fNext.fHi==a1.fNext.fHi)&&((a0.fNext.fLo==a1.fNext.fLo)&&true))))&&(a0.fMED==a1.fMED))&&(a0.fPref==a1.fPref))&&(a0.fOTC==a1.fOTC))=true then
 (R1 a0.fPath a1.fPath).bind fun r12 =>
 (if r12=true then
 (W5 a0.fCommunities a1.fCommunities).bind fun r14 =>
 (if r14=true then
 (W6 a0.fLarge a1.fLarge).bind fun r16 =>
 (if r16=true then
 (N9 a0.fOther a1.fOther).bind fun r18 =>
 j10 r18
 else
 j10 false)
 else
 j10 false)
 else
 j10 false)
 else
 j10 false))
theorem A8v (a0:D1) (a1:D1) (r:Bool) (h:A0d a0 a1=some r):AC Tryz.prog 32 [(.d (A3 a0)),(.d (A3 a1))] [] (.d (.bool r)) []:=by
 refine ac2 Tryz.func32 rfl rfl fun B hB hN L => ?_
 delta A0d at h
 apply sr (cg (OpJ.box hB (nm:=1002) (by decide) (by simp) rfl (L rfl) (q 0)) rfl (cg (OpJ.box hB (nm:=1003) (by decide) (by simp) rfl (L rfl) (q 1)) rfl (c (assign (L rfl) (Opd.bool false)) rfl cn)))
 apply sr (c (assign (L rfl) (Opd.func 57)) rfl cn)
 apply sr (c (assign (L rfl) (Opd.func 59)) rfl cn)
 apply seq
 refine AWp.cut h (fun m9:Bool=>([(4,(bo m9))]:EL)) (fun m9:Bool=>([]:OL)) (fun m9 h E' O' hmat => ?_) (fun j10 hjj10 h => ?_)
 ·apply A0
  refine ghost hmat ?_
  apply ret
  obtain rfl:=oi h
  exact rt (kp [(4,_)] [] hB rfl rfl (by rfl)) [(bo m9)] (rT rN) rfl
 ·rcases bft (((((a0.fOrigin==a1.fOrigin)&&((a0.fNext.fV6==a1.fNext.fV6)&&((a0.fNext.fHi==a1.fNext.fHi)&&((a0.fNext.fLo==a1.fNext.fLo)&&true))))&&(a0.fMED==a1.fMED))&&(a0.fPref==a1.fPref))&&(a0.fOTC==a1.fOTC)) with hg11 | hg11
  ·have h:=A5 hg11 h
   obtain⟨r12,hr12,h⟩:=bindS h
   rcases bft r12 with hg13 | hg13
   ·have h:=A5 hg13 h
    obtain⟨r14,hr14,h⟩:=bindS h
    rcases bft r14 with hg15 | hg15
    ·have h:=A5 hg15 h
     obtain⟨r16,hr16,h⟩:=bindS h
     rcases bft r16 with hg17 | hg17
     ·have h:=A5 hg17 h
      obtain⟨r18,hr18,h⟩:=bindS h
      apply rg (c (fo 1002 0 [0] hN underlying35 0 tyS3 (q 2)) rfl (c (la hN 35 tyS3 (q 7)) rfl (c (fo 1003 0 [0] hN underlying35 0 tyS3 (q 3)) rfl (c (la hN 35 tyS3 (q 9)) rfl (c (eqlI (L rfl) (q 8) (q 10)) rfl (c (mv hN (q 11)) rfl (c (oq hN 12 (fo 1002 2 [2] hN underlying35 2 tyS27 (q 2)) (OptL.keep (by rfl) OptL.nil) (GuardV.plain _)) rfl (c (oq hN 12 (la hN 35 tyS27 (q 13)) (OptL.opt OptL.nil) (GuardV.plain _)) rfl (c (oq hN 12 (fo 1003 2 [2] hN underlying35 2 tyS27 (q 3)) (OptL.keep (by rfl) OptL.nil) (GuardV.plain _)) rfl (c (oq hN 12 (la hN 35 tyS27 (q 15)) (OptL.opt OptL.nil) (GuardV.plain _)) rfl (c (oq hN 12 (OpJ.eqlD (h:=2) (feq27 a0.fNext a1.fNext) eqg27 ⟨rfl,rfl⟩ (by rfl) (L rfl) (q 14) (q 16)) (OptL.opt (OptL.opt OptL.nil)) (GuardV.plain _)) rfl (c (pickAnd rfl (L rfl) (q 12) (q 17)) rfl (c (mv hN (q 18)) rfl (c (oq hN 19 (fo 1002 5 [3] hN underlying35 5 tyS3 (q 2)) (OptL.keep (by rfl) OptL.nil) (GuardV.plain _)) rfl (c (oq hN 19 (la hN 35 tyS3 (q 20)) (OptL.opt OptL.nil) (GuardV.plain _)) rfl (c (oq hN 19 (fo 1003 5 [3] hN underlying35 5 tyS3 (q 3)) (OptL.keep (by rfl) OptL.nil) (GuardV.plain _)) rfl (c (oq hN 19 (la hN 35 tyS3 (q 22)) (OptL.opt OptL.nil) (GuardV.plain _)) rfl (c (oq hN 19 (eqlI (L rfl) (q 21) (q 23)) (OptL.opt (OptL.opt OptL.nil)) (GuardV.plain _)) rfl (c (pickAnd rfl (L rfl) (q 19) (q 24)) rfl (c (mv hN (q 25)) rfl (c (oq hN 26 (fo 1002 6 [4] hN underlying35 6 tyS3 (q 2)) (OptL.keep (by rfl) OptL.nil) (GuardV.plain _)) rfl (c (oq hN 26 (la hN 35 tyS3 (q 27)) (OptL.opt OptL.nil) (GuardV.plain _)) rfl (c (oq hN 26 (fo 1003 6 [4] hN underlying35 6 tyS3 (q 3)) (OptL.keep (by rfl) OptL.nil) (GuardV.plain _)) rfl (c (oq hN 26 (la hN 35 tyS3 (q 29)) (OptL.opt OptL.nil) (GuardV.plain _)) rfl (c (oq hN 26 (eqlI (L rfl) (q 28) (q 30)) (OptL.opt (OptL.opt OptL.nil)) (GuardV.plain _)) rfl (c (pickAnd rfl (L rfl) (q 26) (q 31)) rfl (c (mv hN (q 32)) rfl (c (oq hN 33 (fo 1002 7 [5] hN underlying35 7 tyS3 (q 2)) (OptL.keep (by rfl) OptL.nil) (GuardV.plain _)) rfl (c (oq hN 33 (la hN 35 tyS3 (q 34)) (OptL.opt OptL.nil) (GuardV.plain _)) rfl (c (oq hN 33 (fo 1003 7 [5] hN underlying35 7 tyS3 (q 3)) (OptL.keep (by rfl) OptL.nil) (GuardV.plain _)) rfl (c (oq hN 33 (la hN 35 tyS3 (q 36)) (OptL.opt OptL.nil) (GuardV.plain _)) rfl (c (oq hN 33 (eqlI (L rfl) (q 35) (q 37)) (OptL.opt (OptL.opt OptL.nil)) (GuardV.plain _)) rfl (c (pickAnd rfl (L rfl) (q 33) (q 38)) rfl (c (OpJ.val (v':=.d (.bool true)) (by rw [hg11]<;>rfl) (mv hN (q 39))) rfl (c (gd 40 (fo 1002 1 [1] hN underlying35 1 tyS30 (q 2))) rfl (c (gd 40 (la hN 35 tyS30 (q 41))) rfl (c (gd 40 (fo 1003 1 [1] hN underlying35 1 tyS30 (q 3))) rfl (c (gd 40 (la hN 35 tyS30 (q 43))) rfl (c (gd 40 (mv hN (q 5))) rfl (cg (gd 40 (cf hB fnOk61 (Q6 a0.fPath a1.fPath r12 hr12) (L rfl) (OpdL.cons (q 42) (OpdL.cons (q 44) (OpdL.cons (q 45) OpdL.nil))))) rfl (c (pickT (L rfl) (q 40) (q 46)) rfl (c (OpJ.val (v':=.d (.bool true)) (by rw [hg13]<;>rfl) (mv hN (q 47))) rfl (c (gd 48 (fo 1002 8 [6] hN underlying35 8 tyS31 (q 2))) rfl (c (gd 48 (la hN 35 tyS31 (q 49))) rfl (c (gd 48 (fo 1003 8 [6] hN underlying35 8 tyS31 (q 3))) rfl (c (gd 48 (la hN 35 tyS31 (q 51))) rfl (cg (gd 48 (cf hB fnOk62 (A0t a0.fCommunities a1.fCommunities r14 hr14) (L rfl) (OpdL.cons (q 50) (OpdL.cons (q 52) OpdL.nil)))) rfl (c (pickT (L rfl) (q 48) (q 53)) rfl (c (OpJ.val (v':=.d (.bool true)) (by rw [hg15]<;>rfl) (mv hN (q 54))) rfl (c (gd 55 (fo 1002 9 [7] hN underlying35 9 tyS32 (q 2))) rfl (c (gd 55 (la hN 35 tyS32 (q 56))) rfl (c (gd 55 (fo 1003 9 [7] hN underlying35 9 tyS32 (q 3))) rfl (c (gd 55 (la hN 35 tyS32 (q 58))) rfl (cg (gd 55 (cf hB fnOk63 (A3a a0.fLarge a1.fLarge r16 hr16) (L rfl) (OpdL.cons (q 57) (OpdL.cons (q 59) OpdL.nil)))) rfl (c (pickT (L rfl) (q 55) (q 60)) rfl (c (OpJ.val (v':=.d (.bool true)) (by rw [hg17]<;>rfl) (mv hN (q 61))) rfl (c (gd 62 (fo 1002 10 [8] hN underlying35 10 tyS33 (q 2))) rfl (c (gd 62 (la hN 35 tyS33 (q 63))) rfl (c (gd 62 (fo 1003 10 [8] hN underlying35 10 tyS33 (q 3))) rfl (c (gd 62 (la hN 35 tyS33 (q 65))) rfl (c (gd 62 (mv hN (q 6))) rfl (cg (gd 62 (cf hB fnOk64 (A4k a0.fOther a1.fOther r18 hr18) (L rfl) (OpdL.cons (q 64) (OpdL.cons (q 66) (OpdL.cons (q 67) OpdL.nil))))) rfl (c (pickT (L rfl) (q 62) (q 68)) rfl (c (assign (L rfl) (q 69)) rfl cn))))))))))))))))))))))))))))))))))))))))))))))))))))))))))))))))
      exact hjj10 _ h _ _ (mp [] _ _ hB)
     ·have h:=A6 hg17 h
      apply rg (c (fo 1002 0 [0] hN underlying35 0 tyS3 (q 2)) rfl (c (la hN 35 tyS3 (q 7)) rfl (c (fo 1003 0 [0] hN underlying35 0 tyS3 (q 3)) rfl (c (la hN 35 tyS3 (q 9)) rfl (c (eqlI (L rfl) (q 8) (q 10)) rfl (c (mv hN (q 11)) rfl (c (oq hN 12 (fo 1002 2 [2] hN underlying35 2 tyS27 (q 2)) (OptL.keep (by rfl) OptL.nil) (GuardV.plain _)) rfl (c (oq hN 12 (la hN 35 tyS27 (q 13)) (OptL.opt OptL.nil) (GuardV.plain _)) rfl (c (oq hN 12 (fo 1003 2 [2] hN underlying35 2 tyS27 (q 3)) (OptL.keep (by rfl) OptL.nil) (GuardV.plain _)) rfl (c (oq hN 12 (la hN 35 tyS27 (q 15)) (OptL.opt OptL.nil) (GuardV.plain _)) rfl (c (oq hN 12 (OpJ.eqlD (h:=2) (feq27 a0.fNext a1.fNext) eqg27 ⟨rfl,rfl⟩ (by rfl) (L rfl) (q 14) (q 16)) (OptL.opt (OptL.opt OptL.nil)) (GuardV.plain _)) rfl (c (pickAnd rfl (L rfl) (q 12) (q 17)) rfl (c (mv hN (q 18)) rfl (c (oq hN 19 (fo 1002 5 [3] hN underlying35 5 tyS3 (q 2)) (OptL.keep (by rfl) OptL.nil) (GuardV.plain _)) rfl (c (oq hN 19 (la hN 35 tyS3 (q 20)) (OptL.opt OptL.nil) (GuardV.plain _)) rfl (c (oq hN 19 (fo 1003 5 [3] hN underlying35 5 tyS3 (q 3)) (OptL.keep (by rfl) OptL.nil) (GuardV.plain _)) rfl (c (oq hN 19 (la hN 35 tyS3 (q 22)) (OptL.opt OptL.nil) (GuardV.plain _)) rfl (c (oq hN 19 (eqlI (L rfl) (q 21) (q 23)) (OptL.opt (OptL.opt OptL.nil)) (GuardV.plain _)) rfl (c (pickAnd rfl (L rfl) (q 19) (q 24)) rfl (c (mv hN (q 25)) rfl (c (oq hN 26 (fo 1002 6 [4] hN underlying35 6 tyS3 (q 2)) (OptL.keep (by rfl) OptL.nil) (GuardV.plain _)) rfl (c (oq hN 26 (la hN 35 tyS3 (q 27)) (OptL.opt OptL.nil) (GuardV.plain _)) rfl (c (oq hN 26 (fo 1003 6 [4] hN underlying35 6 tyS3 (q 3)) (OptL.keep (by rfl) OptL.nil) (GuardV.plain _)) rfl (c (oq hN 26 (la hN 35 tyS3 (q 29)) (OptL.opt OptL.nil) (GuardV.plain _)) rfl (c (oq hN 26 (eqlI (L rfl) (q 28) (q 30)) (OptL.opt (OptL.opt OptL.nil)) (GuardV.plain _)) rfl (c (pickAnd rfl (L rfl) (q 26) (q 31)) rfl (c (mv hN (q 32)) rfl (c (oq hN 33 (fo 1002 7 [5] hN underlying35 7 tyS3 (q 2)) (OptL.keep (by rfl) OptL.nil) (GuardV.plain _)) rfl (c (oq hN 33 (la hN 35 tyS3 (q 34)) (OptL.opt OptL.nil) (GuardV.plain _)) rfl (c (oq hN 33 (fo 1003 7 [5] hN underlying35 7 tyS3 (q 3)) (OptL.keep (by rfl) OptL.nil) (GuardV.plain _)) rfl (c (oq hN 33 (la hN 35 tyS3 (q 36)) (OptL.opt OptL.nil) (GuardV.plain _)) rfl (c (oq hN 33 (eqlI (L rfl) (q 35) (q 37)) (OptL.opt (OptL.opt OptL.nil)) (GuardV.plain _)) rfl (c (pickAnd rfl (L rfl) (q 33) (q 38)) rfl (c (OpJ.val (v':=.d (.bool true)) (by rw [hg11]<;>rfl) (mv hN (q 39))) rfl (c (gd 40 (fo 1002 1 [1] hN underlying35 1 tyS30 (q 2))) rfl (c (gd 40 (la hN 35 tyS30 (q 41))) rfl (c (gd 40 (fo 1003 1 [1] hN underlying35 1 tyS30 (q 3))) rfl (c (gd 40 (la hN 35 tyS30 (q 43))) rfl (c (gd 40 (mv hN (q 5))) rfl (cg (gd 40 (cf hB fnOk61 (Q6 a0.fPath a1.fPath r12 hr12) (L rfl) (OpdL.cons (q 42) (OpdL.cons (q 44) (OpdL.cons (q 45) OpdL.nil))))) rfl (c (pickT (L rfl) (q 40) (q 46)) rfl (c (OpJ.val (v':=.d (.bool true)) (by rw [hg13]<;>rfl) (mv hN (q 47))) rfl (c (gd 48 (fo 1002 8 [6] hN underlying35 8 tyS31 (q 2))) rfl (c (gd 48 (la hN 35 tyS31 (q 49))) rfl (c (gd 48 (fo 1003 8 [6] hN underlying35 8 tyS31 (q 3))) rfl (c (gd 48 (la hN 35 tyS31 (q 51))) rfl (cg (gd 48 (cf hB fnOk62 (A0t a0.fCommunities a1.fCommunities r14 hr14) (L rfl) (OpdL.cons (q 50) (OpdL.cons (q 52) OpdL.nil)))) rfl (c (pickT (L rfl) (q 48) (q 53)) rfl (c (OpJ.val (v':=.d (.bool true)) (by rw [hg15]<;>rfl) (mv hN (q 54))) rfl (c (gd 55 (fo 1002 9 [7] hN underlying35 9 tyS32 (q 2))) rfl (c (gd 55 (la hN 35 tyS32 (q 56))) rfl (c (gd 55 (fo 1003 9 [7] hN underlying35 9 tyS32 (q 3))) rfl (c (gd 55 (la hN 35 tyS32 (q 58))) rfl (cg (gd 55 (cf hB fnOk63 (A3a a0.fLarge a1.fLarge r16 hr16) (L rfl) (OpdL.cons (q 57) (OpdL.cons (q 59) OpdL.nil)))) rfl (c (pickT (L rfl) (q 55) (q 60)) rfl (c (OpJ.val (v':=.d (.bool false)) (by rw [hg17]<;>rfl) (mv hN (q 61))) rfl (ks 62 (L rfl) (ks 62 (L rfl) (ks 62 (L rfl) (ks 62 (L rfl) (ks 62 (L rfl) (ks 62 (L rfl) (c (pickF (L rfl) (q 62) (Opd.bool false)) rfl (c (assign (L rfl) (q 69)) rfl cn))))))))))))))))))))))))))))))))))))))))))))))))))))))))))))))))
      exact hjj10 _ h _ _ (mp [] _ _ hB)
    ·have h:=A6 hg15 h
     apply rg (c (fo 1002 0 [0] hN underlying35 0 tyS3 (q 2)) rfl (c (la hN 35 tyS3 (q 7)) rfl (c (fo 1003 0 [0] hN underlying35 0 tyS3 (q 3)) rfl (c (la hN 35 tyS3 (q 9)) rfl (c (eqlI (L rfl) (q 8) (q 10)) rfl (c (mv hN (q 11)) rfl (c (oq hN 12 (fo 1002 2 [2] hN underlying35 2 tyS27 (q 2)) (OptL.keep (by rfl) OptL.nil) (GuardV.plain _)) rfl (c (oq hN 12 (la hN 35 tyS27 (q 13)) (OptL.opt OptL.nil) (GuardV.plain _)) rfl (c (oq hN 12 (fo 1003 2 [2] hN underlying35 2 tyS27 (q 3)) (OptL.keep (by rfl) OptL.nil) (GuardV.plain _)) rfl (c (oq hN 12 (la hN 35 tyS27 (q 15)) (OptL.opt OptL.nil) (GuardV.plain _)) rfl (c (oq hN 12 (OpJ.eqlD (h:=2) (feq27 a0.fNext a1.fNext) eqg27 ⟨rfl,rfl⟩ (by rfl) (L rfl) (q 14) (q 16)) (OptL.opt (OptL.opt OptL.nil)) (GuardV.plain _)) rfl (c (pickAnd rfl (L rfl) (q 12) (q 17)) rfl (c (mv hN (q 18)) rfl (c (oq hN 19 (fo 1002 5 [3] hN underlying35 5 tyS3 (q 2)) (OptL.keep (by rfl) OptL.nil) (GuardV.plain _)) rfl (c (oq hN 19 (la hN 35 tyS3 (q 20)) (OptL.opt OptL.nil) (GuardV.plain _)) rfl (c (oq hN 19 (fo 1003 5 [3] hN underlying35 5 tyS3 (q 3)) (OptL.keep (by rfl) OptL.nil) (GuardV.plain _)) rfl (c (oq hN 19 (la hN 35 tyS3 (q 22)) (OptL.opt OptL.nil) (GuardV.plain _)) rfl (c (oq hN 19 (eqlI (L rfl) (q 21) (q 23)) (OptL.opt (OptL.opt OptL.nil)) (GuardV.plain _)) rfl (c (pickAnd rfl (L rfl) (q 19) (q 24)) rfl (c (mv hN (q 25)) rfl (c (oq hN 26 (fo 1002 6 [4] hN underlying35 6 tyS3 (q 2)) (OptL.keep (by rfl) OptL.nil) (GuardV.plain _)) rfl (c (oq hN 26 (la hN 35 tyS3 (q 27)) (OptL.opt OptL.nil) (GuardV.plain _)) rfl (c (oq hN 26 (fo 1003 6 [4] hN underlying35 6 tyS3 (q 3)) (OptL.keep (by rfl) OptL.nil) (GuardV.plain _)) rfl (c (oq hN 26 (la hN 35 tyS3 (q 29)) (OptL.opt OptL.nil) (GuardV.plain _)) rfl (c (oq hN 26 (eqlI (L rfl) (q 28) (q 30)) (OptL.opt (OptL.opt OptL.nil)) (GuardV.plain _)) rfl (c (pickAnd rfl (L rfl) (q 26) (q 31)) rfl (c (mv hN (q 32)) rfl (c (oq hN 33 (fo 1002 7 [5] hN underlying35 7 tyS3 (q 2)) (OptL.keep (by rfl) OptL.nil) (GuardV.plain _)) rfl (c (oq hN 33 (la hN 35 tyS3 (q 34)) (OptL.opt OptL.nil) (GuardV.plain _)) rfl (c (oq hN 33 (fo 1003 7 [5] hN underlying35 7 tyS3 (q 3)) (OptL.keep (by rfl) OptL.nil) (GuardV.plain _)) rfl (c (oq hN 33 (la hN 35 tyS3 (q 36)) (OptL.opt OptL.nil) (GuardV.plain _)) rfl (c (oq hN 33 (eqlI (L rfl) (q 35) (q 37)) (OptL.opt (OptL.opt OptL.nil)) (GuardV.plain _)) rfl (c (pickAnd rfl (L rfl) (q 33) (q 38)) rfl (c (OpJ.val (v':=.d (.bool true)) (by rw [hg11]<;>rfl) (mv hN (q 39))) rfl (c (gd 40 (fo 1002 1 [1] hN underlying35 1 tyS30 (q 2))) rfl (c (gd 40 (la hN 35 tyS30 (q 41))) rfl (c (gd 40 (fo 1003 1 [1] hN underlying35 1 tyS30 (q 3))) rfl (c (gd 40 (la hN 35 tyS30 (q 43))) rfl (c (gd 40 (mv hN (q 5))) rfl (cg (gd 40 (cf hB fnOk61 (Q6 a0.fPath a1.fPath r12 hr12) (L rfl) (OpdL.cons (q 42) (OpdL.cons (q 44) (OpdL.cons (q 45) OpdL.nil))))) rfl (c (pickT (L rfl) (q 40) (q 46)) rfl (c (OpJ.val (v':=.d (.bool true)) (by rw [hg13]<;>rfl) (mv hN (q 47))) rfl (c (gd 48 (fo 1002 8 [6] hN underlying35 8 tyS31 (q 2))) rfl (c (gd 48 (la hN 35 tyS31 (q 49))) rfl (c (gd 48 (fo 1003 8 [6] hN underlying35 8 tyS31 (q 3))) rfl (c (gd 48 (la hN 35 tyS31 (q 51))) rfl (cg (gd 48 (cf hB fnOk62 (A0t a0.fCommunities a1.fCommunities r14 hr14) (L rfl) (OpdL.cons (q 50) (OpdL.cons (q 52) OpdL.nil)))) rfl (c (pickT (L rfl) (q 48) (q 53)) rfl (c (OpJ.val (v':=.d (.bool false)) (by rw [hg15]<;>rfl) (mv hN (q 54))) rfl (ks 55 (L rfl) (ks 55 (L rfl) (ks 55 (L rfl) (ks 55 (L rfl) (ks 55 (L rfl) (c (pickF (L rfl) (q 55) (Opd.bool false)) rfl (c (mv hN (q 61)) rfl (ks 62 (L rfl) (ks 62 (L rfl) (ks 62 (L rfl) (ks 62 (L rfl) (ks 62 (L rfl) (ks 62 (L rfl) (c (pickF (L rfl) (q 62) (Opd.bool false)) rfl (c (assign (L rfl) (q 69)) rfl cn))))))))))))))))))))))))))))))))))))))))))))))))))))))))))))))))
     exact hjj10 _ h _ _ (mp [] _ _ hB)
   ·have h:=A6 hg13 h
    apply rg (c (fo 1002 0 [0] hN underlying35 0 tyS3 (q 2)) rfl (c (la hN 35 tyS3 (q 7)) rfl (c (fo 1003 0 [0] hN underlying35 0 tyS3 (q 3)) rfl (c (la hN 35 tyS3 (q 9)) rfl (c (eqlI (L rfl) (q 8) (q 10)) rfl (c (mv hN (q 11)) rfl (c (oq hN 12 (fo 1002 2 [2] hN underlying35 2 tyS27 (q 2)) (OptL.keep (by rfl) OptL.nil) (GuardV.plain _)) rfl (c (oq hN 12 (la hN 35 tyS27 (q 13)) (OptL.opt OptL.nil) (GuardV.plain _)) rfl (c (oq hN 12 (fo 1003 2 [2] hN underlying35 2 tyS27 (q 3)) (OptL.keep (by rfl) OptL.nil) (GuardV.plain _)) rfl (c (oq hN 12 (la hN 35 tyS27 (q 15)) (OptL.opt OptL.nil) (GuardV.plain _)) rfl (c (oq hN 12 (OpJ.eqlD (h:=2) (feq27 a0.fNext a1.fNext) eqg27 ⟨rfl,rfl⟩ (by rfl) (L rfl) (q 14) (q 16)) (OptL.opt (OptL.opt OptL.nil)) (GuardV.plain _)) rfl (c (pickAnd rfl (L rfl) (q 12) (q 17)) rfl (c (mv hN (q 18)) rfl (c (oq hN 19 (fo 1002 5 [3] hN underlying35 5 tyS3 (q 2)) (OptL.keep (by rfl) OptL.nil) (GuardV.plain _)) rfl (c (oq hN 19 (la hN 35 tyS3 (q 20)) (OptL.opt OptL.nil) (GuardV.plain _)) rfl (c (oq hN 19 (fo 1003 5 [3] hN underlying35 5 tyS3 (q 3)) (OptL.keep (by rfl) OptL.nil) (GuardV.plain _)) rfl (c (oq hN 19 (la hN 35 tyS3 (q 22)) (OptL.opt OptL.nil) (GuardV.plain _)) rfl (c (oq hN 19 (eqlI (L rfl) (q 21) (q 23)) (OptL.opt (OptL.opt OptL.nil)) (GuardV.plain _)) rfl (c (pickAnd rfl (L rfl) (q 19) (q 24)) rfl (c (mv hN (q 25)) rfl (c (oq hN 26 (fo 1002 6 [4] hN underlying35 6 tyS3 (q 2)) (OptL.keep (by rfl) OptL.nil) (GuardV.plain _)) rfl (c (oq hN 26 (la hN 35 tyS3 (q 27)) (OptL.opt OptL.nil) (GuardV.plain _)) rfl (c (oq hN 26 (fo 1003 6 [4] hN underlying35 6 tyS3 (q 3)) (OptL.keep (by rfl) OptL.nil) (GuardV.plain _)) rfl (c (oq hN 26 (la hN 35 tyS3 (q 29)) (OptL.opt OptL.nil) (GuardV.plain _)) rfl (c (oq hN 26 (eqlI (L rfl) (q 28) (q 30)) (OptL.opt (OptL.opt OptL.nil)) (GuardV.plain _)) rfl (c (pickAnd rfl (L rfl) (q 26) (q 31)) rfl (c (mv hN (q 32)) rfl (c (oq hN 33 (fo 1002 7 [5] hN underlying35 7 tyS3 (q 2)) (OptL.keep (by rfl) OptL.nil) (GuardV.plain _)) rfl (c (oq hN 33 (la hN 35 tyS3 (q 34)) (OptL.opt OptL.nil) (GuardV.plain _)) rfl (c (oq hN 33 (fo 1003 7 [5] hN underlying35 7 tyS3 (q 3)) (OptL.keep (by rfl) OptL.nil) (GuardV.plain _)) rfl (c (oq hN 33 (la hN 35 tyS3 (q 36)) (OptL.opt OptL.nil) (GuardV.plain _)) rfl (c (oq hN 33 (eqlI (L rfl) (q 35) (q 37)) (OptL.opt (OptL.opt OptL.nil)) (GuardV.plain _)) rfl (c (pickAnd rfl (L rfl) (q 33) (q 38)) rfl (c (OpJ.val (v':=.d (.bool true)) (by rw [hg11]<;>rfl) (mv hN (q 39))) rfl (c (gd 40 (fo 1002 1 [1] hN underlying35 1 tyS30 (q 2))) rfl (c (gd 40 (la hN 35 tyS30 (q 41))) rfl (c (gd 40 (fo 1003 1 [1] hN underlying35 1 tyS30 (q 3))) rfl (c (gd 40 (la hN 35 tyS30 (q 43))) rfl (c (gd 40 (mv hN (q 5))) rfl (cg (gd 40 (cf hB fnOk61 (Q6 a0.fPath a1.fPath r12 hr12) (L rfl) (OpdL.cons (q 42) (OpdL.cons (q 44) (OpdL.cons (q 45) OpdL.nil))))) rfl (c (pickT (L rfl) (q 40) (q 46)) rfl (c (OpJ.val (v':=.d (.bool false)) (by rw [hg13]<;>rfl) (mv hN (q 47))) rfl (ks 48 (L rfl) (ks 48 (L rfl) (ks 48 (L rfl) (ks 48 (L rfl) (ks 48 (L rfl) (c (pickF (L rfl) (q 48) (Opd.bool false)) rfl (c (mv hN (q 54)) rfl (ks 55 (L rfl) (ks 55 (L rfl) (ks 55 (L rfl) (ks 55 (L rfl) (ks 55 (L rfl) (c (pickF (L rfl) (q 55) (Opd.bool false)) rfl (c (mv hN (q 61)) rfl (ks 62 (L rfl) (ks 62 (L rfl) (ks 62 (L rfl) (ks 62 (L rfl) (ks 62 (L rfl) (ks 62 (L rfl) (c (pickF (L rfl) (q 62) (Opd.bool false)) rfl (c (assign (L rfl) (q 69)) rfl cn))))))))))))))))))))))))))))))))))))))))))))))))))))))))))))))))
    exact hjj10 _ h _ _ (mp [] _ _ hB)
  ·have h:=A6 hg11 h
   apply rg (c (fo 1002 0 [0] hN underlying35 0 tyS3 (q 2)) rfl (c (la hN 35 tyS3 (q 7)) rfl (c (fo 1003 0 [0] hN underlying35 0 tyS3 (q 3)) rfl (c (la hN 35 tyS3 (q 9)) rfl (c (eqlI (L rfl) (q 8) (q 10)) rfl (c (mv hN (q 11)) rfl (c (oq hN 12 (fo 1002 2 [2] hN underlying35 2 tyS27 (q 2)) (OptL.keep (by rfl) OptL.nil) (GuardV.plain _)) rfl (c (oq hN 12 (la hN 35 tyS27 (q 13)) (OptL.opt OptL.nil) (GuardV.plain _)) rfl (c (oq hN 12 (fo 1003 2 [2] hN underlying35 2 tyS27 (q 3)) (OptL.keep (by rfl) OptL.nil) (GuardV.plain _)) rfl (c (oq hN 12 (la hN 35 tyS27 (q 15)) (OptL.opt OptL.nil) (GuardV.plain _)) rfl (c (oq hN 12 (OpJ.eqlD (h:=2) (feq27 a0.fNext a1.fNext) eqg27 ⟨rfl,rfl⟩ (by rfl) (L rfl) (q 14) (q 16)) (OptL.opt (OptL.opt OptL.nil)) (GuardV.plain _)) rfl (c (pickAnd rfl (L rfl) (q 12) (q 17)) rfl (c (mv hN (q 18)) rfl (c (oq hN 19 (fo 1002 5 [3] hN underlying35 5 tyS3 (q 2)) (OptL.keep (by rfl) OptL.nil) (GuardV.plain _)) rfl (c (oq hN 19 (la hN 35 tyS3 (q 20)) (OptL.opt OptL.nil) (GuardV.plain _)) rfl (c (oq hN 19 (fo 1003 5 [3] hN underlying35 5 tyS3 (q 3)) (OptL.keep (by rfl) OptL.nil) (GuardV.plain _)) rfl (c (oq hN 19 (la hN 35 tyS3 (q 22)) (OptL.opt OptL.nil) (GuardV.plain _)) rfl (c (oq hN 19 (eqlI (L rfl) (q 21) (q 23)) (OptL.opt (OptL.opt OptL.nil)) (GuardV.plain _)) rfl (c (pickAnd rfl (L rfl) (q 19) (q 24)) rfl (c (mv hN (q 25)) rfl (c (oq hN 26 (fo 1002 6 [4] hN underlying35 6 tyS3 (q 2)) (OptL.keep (by rfl) OptL.nil) (GuardV.plain _)) rfl (c (oq hN 26 (la hN 35 tyS3 (q 27)) (OptL.opt OptL.nil) (GuardV.plain _)) rfl (c (oq hN 26 (fo 1003 6 [4] hN underlying35 6 tyS3 (q 3)) (OptL.keep (by rfl) OptL.nil) (GuardV.plain _)) rfl (c (oq hN 26 (la hN 35 tyS3 (q 29)) (OptL.opt OptL.nil) (GuardV.plain _)) rfl (c (oq hN 26 (eqlI (L rfl) (q 28) (q 30)) (OptL.opt (OptL.opt OptL.nil)) (GuardV.plain _)) rfl (c (pickAnd rfl (L rfl) (q 26) (q 31)) rfl (c (mv hN (q 32)) rfl (c (oq hN 33 (fo 1002 7 [5] hN underlying35 7 tyS3 (q 2)) (OptL.keep (by rfl) OptL.nil) (GuardV.plain _)) rfl (c (oq hN 33 (la hN 35 tyS3 (q 34)) (OptL.opt OptL.nil) (GuardV.plain _)) rfl (c (oq hN 33 (fo 1003 7 [5] hN underlying35 7 tyS3 (q 3)) (OptL.keep (by rfl) OptL.nil) (GuardV.plain _)) rfl (c (oq hN 33 (la hN 35 tyS3 (q 36)) (OptL.opt OptL.nil) (GuardV.plain _)) rfl (c (oq hN 33 (eqlI (L rfl) (q 35) (q 37)) (OptL.opt (OptL.opt OptL.nil)) (GuardV.plain _)) rfl (c (pickAnd rfl (L rfl) (q 33) (q 38)) rfl (c (OpJ.val (v':=.d (.bool false)) (by rw [hg11]<;>rfl) (mv hN (q 39))) rfl (ks 40 (L rfl) (ks 40 (L rfl) (ks 40 (L rfl) (ks 40 (L rfl) (ks 40 (L rfl) (ks 40 (L rfl) (c (pickF (L rfl) (q 40) (Opd.bool false)) rfl (c (mv hN (q 47)) rfl (ks 48 (L rfl) (ks 48 (L rfl) (ks 48 (L rfl) (ks 48 (L rfl) (ks 48 (L rfl) (c (pickF (L rfl) (q 48) (Opd.bool false)) rfl (c (mv hN (q 54)) rfl (ks 55 (L rfl) (ks 55 (L rfl) (ks 55 (L rfl) (ks 55 (L rfl) (ks 55 (L rfl) (c (pickF (L rfl) (q 55) (Opd.bool false)) rfl (c (mv hN (q 61)) rfl (ks 62 (L rfl) (ks 62 (L rfl) (ks 62 (L rfl) (ks 62 (L rfl) (ks 62 (L rfl) (ks 62 (L rfl) (c (pickF (L rfl) (q 62) (Opd.bool false)) rfl (c (assign (L rfl) (q 69)) rfl cn))))))))))))))))))))))))))))))))))))))))))))))))))))))))))))))))
   exact hjj10 _ h _ _ (mp [] _ _ hB)
def Z4 (a0:C5) (a1:C2):Option (Bool) :=
 (A0d a0.fattrs a1.fRoute.fAttrs).bind fun r1 =>
 some r1
theorem A6v (a0:C5) (a1:C2) (r:Bool) (h:Z4 a0 a1=some r):AC Tryz.prog 31 [(.d (D5 a0)),(.dptr (D6 a1))] [] (.d (.bool r)) []:=by
 refine AC.of_code2 Tryz.func31 rfl rfl (Nat.le_of_ble_eq_true (by rfl)) fun B hB hN => ?_
 delta Z4 at h
 refine sr (SQ tt) ?_
 obtain⟨r1,hr1,h⟩:=bindS h
 refine sr (SQ (fa (cl [] (A8v a0.fattrs a1.fRoute.fAttrs r1 hr1)) tt)) ?_
 apply ret
 obtain rfl:=oi h
 exact rt (kp [(3,_)] [] hB rfl rfl (by rfl)) [(bo r1)] (rT rN) rfl
def K5 (a0:(List C5)) (a1:C2) (s1:Int):Option (((Int)⊕(Unit))⊕(Int)) :=
 (if (decide (s1<(a0.length:Int)))=true then
 (idx a0 s1).bind fun x13 =>
 (Z4 x13 a1).bind fun r14 =>
 (if r14=true then
 some (.inl (.inl s1))
 else
 some (.inr (w64 (s1+1))))
 else
 some (.inl (.inr ())))
def O4 (a0:(List C5)) (a1:C2):Option (Int) :=
 (loop (K5 a0 a1) 0).bind fun x16=>match x16 with
 | (.inl p10) =>
  some p10
 | (.inr _) =>
  some (-1)
theorem A4l (a0:(List C5)) (a1:C2) (r:Int) (h:O4 a0 a1=some r):AC Tryz.prog 30 [(.d (.list 12 (a0.map D5))),(.func 31 [(.dptr (D6 a1))])] [] (.d (.int .i64 r)) []:=by
 refine AC.of_code2 Tryz.func30 rfl rfl (Nat.le_of_ble_eq_true (by rfl)) fun B hB hN => ?_
 delta O4 at h
 refine sr (SQ tt) ?_
 apply seq
 refine sr (SQ tt) ?_
 apply block
 obtain⟨x16,hx17,h⟩:=bindS h
 refine lg (K5 a0 a1) (fun s1:Int=>([(0,(.d (.list 12 (a0.map D5)))),(1,(.func 31 [(.dptr (D6 a1))])),(7,(i6 (a0.length:Int))),(8,(i6 s1))]:EL)) (fun s1:Int=>([]:OL)) (fun(x:(Int)⊕(Unit)) e E' O'=>match x with | (.inl p10)=>e = .ret∧Mat B E' O' ([(4,(i6 p10))]:EL) ([]:OL) | (.inr _p)=>e = .exit 0∧Mat B E' O' ([]:EL) ([]:OL)) hx17 (mp [] _ _ hB) (fun s1 y h => ?_) (fun e E' O' hR => ?_)
 ·unfold K5 at h
  refine sr (SQ tt) ?_
  apply seq
  apply AWp.cond rfl<;>intro hg12
  ·have h:=A5 hg12 h
   apply AWp.skip
   apply A0
   apply seq
   apply block
   refine sr (SQ tt) ?_
   obtain⟨x13,hx13,h⟩:=bindS h
   obtain⟨r14,hr14,h⟩:=bindS h
   refine sr (SQ (fa hx13 (fa (cl [] (A6v x13 a1 r14 hr14)) tt))) ?_
   apply AWp.cond rfl<;>intro hg15
   ·have h:=A5 hg15 h
    refine sr (SQ tt) ?_
    apply ret
    apply D7
    apply B9
    obtain rfl:=oi h
    exact⟨(fun hc=>by cases hc),rfl,(mp [] _ _ hB)⟩
   ·have h:=A6 hg15 h
    apply AWp.skip
    apply E4
    apply A0
    refine rg (SQ tt) ?_
    obtain rfl:=oi h
    exact⟨rfl,(mp [] _ _ hB)⟩
  ·have h:=A6 hg12 h
   apply AWp.exit
   apply E5
   obtain rfl:=oi h
   exact⟨(fun hc=>by cases hc),rfl,(mp [] _ _ hB)⟩
 ·rcases x16 with p10 | _
  ·obtain⟨rfl,hmat⟩:=hR
   apply D7
   apply B9
   obtain rfl:=oi h
   exact rt (Mat.trans hmat (mp [] [(4,(i6 p10))] [] hB)) [(i6 p10)] (rT rN) rfl
  ·obtain⟨rfl,hmat⟩:=hR
   apply C6
   apply A0
   refine ghost hmat ?_
   refine sr (SQ tt) ?_
   apply ret
   obtain rfl:=oi h
   exact rt (kp [(4,_)] [] hB rfl rfl (by rfl)) [(i6 (-1))] (rT rN) rfl
def A0v (a0:C5) (a1:Bool) (s1:Int×(List A7)) (s88:Int):Option (((Int))⊕(Int)) :=
 jn (fun m116:Bool =>
 (if m116=true then
 some (.inr (w64 (s88+1)))
 else
 some (.inl s88))) (fun j117 =>
 (if (decide (s88<(a0.fprefixes.length:Int)))=true then
 chk ((decide (0≤s1.1)&&decide (0≤(w64 (s88+1)))&&decide (s1.1.toNat≤(w64 (s88+1)).toNat)&&decide ((w64 (s88+1)).toNat≤a0.fprefixes.length))) <|
 (G9 a0.fattrs ((a0.fprefixes.take ((w64 (s88+1)).toNat)).drop s1.1.toNat) a1).bind fun r121 =>
 (L3 r121).bind fun r122 =>
 j117 r122
 else
 j117 false))
def A0w (a0:C5) (a1:Bool) (s1:Int×(List A7)):Option ((((List A7)))⊕(Int×(List A7))) :=
 (if (decide (s1.1<(a0.fprefixes.length:Int)))=true then
 (loop (A0v a0 a1 s1) (w64 (s1.1+1))).bind fun p111 =>
 chk ((decide (0≤s1.1)&&decide (0≤p111)&&decide (s1.1.toNat≤p111.toNat)&&decide (p111.toNat≤a0.fprefixes.length))) <|
 (G9 a0.fattrs ((a0.fprefixes.take p111.toNat).drop s1.1.toNat) a1).bind fun r126 =>
 chk (decide ((s1.2++[r126]).length≤LIM)) <|
 some (.inr (p111,(s1.2++[r126])))
 else
 some (.inl s1.2))
def P9 (a0:C5) (a1:Bool):Option ((List A7)) :=
 (loop (A0w a0 a1) (0,([]:List A7))).bind fun p86 =>
 some p86
theorem A8w (a0:C5) (a1:Bool) (r:(List A7)) (h:P9 a0 a1=some r):AC Tryz.prog 33 [(.d (D5 a0)),(.d (.bool a1))] [(500,(.know (globD 0 (.imap gv0))))] (.d (.list 13 (r.map D4))) [(500,some (.know (globD 0 (.imap gv0))))]:=by
 refine ac2 Tryz.func33 rfl rfl fun B hB hN L => ?_
 delta P9 at h
 refine sr (SQ tt) ?_
 refine sr (SQ tt) ?_
 apply seq
 refine sr (SQ tt) ?_
 apply block
 obtain⟨p86,hx129,h⟩:=bindS h
 refine lg (A0w a0 a1) (fun s1:Int×(List A7)=>([(1,(bo a1)),(2,(pt 1002)),(5,(.sref 3005 13 0 s1.2.length)),(6,(i6 s1.1))]:EL)) (fun s1:Int×(List A7)=>([(500,some (.know (globD 0 (.imap gv0)))),(1002,bd 79 (D5 a0)),(3005,some (C7 s1.2))]:OL)) (fun(p86:((List A7))) e E' O'=>e = .exit 0∧Mat B E' O' ([(5,(.sref 3005 13 0 p86.length))]:EL) ([(500,some (.know (globD 0 (.imap gv0)))),(3005,some (C7 p86))]:OL)) hx129 (Mat.trans (Mat.beginP (n:=3005) (e:=61) (sz:=13) (Ts:=[(5,(.sref 3005 13 0 0))]) (Bs:=[]) hB (by decide) (by rfl) (by decide) (TwT.cons (x:=.nils) (by rfl) (Tw.leaf ⟨rfl,rfl⟩) TwT.nil) TwB.nil) (mp [] _ _ hB)) (fun s1 y h => ?_) (fun e E' O' hR => ?_)
 ·unfold A0w at h
  apply seq
  refine sr (SQ tt) ?_
  apply AWp.cond rfl<;>intro hg87
  ·have h:=A5 hg87 h
   apply AWp.skip
   apply A0
   apply block
   refine sr (SQ tt) ?_
   apply seq
   apply block
   obtain⟨p111,hx124,h⟩:=bindS h
   refine lg (A0v a0 a1 s1) (fun s88:Int=>([(1,(bo a1)),(2,(pt 1002)),(5,(.sref 3005 13 0 s1.2.length)),(6,(i6 s1.1)),(7,(i6 s88))]:EL)) (fun s88:Int=>([(500,some (.know (globD 0 (.imap gv0)))),(1002,bd 79 (D5 a0)),(3005,some (C7 s1.2))]:OL)) (fun(p111:(Int)) e E' O'=>e = .exit 2∧Mat B E' O' ([(1,(bo a1)),(2,(pt 1002)),(5,(.sref 3005 13 0 s1.2.length)),(6,(i6 s1.1)),(7,(i6 p111))]:EL) ([(500,some (.know (globD 0 (.imap gv0)))),(1002,bd 79 (D5 a0)),(3005,some (C7 s1.2))]:OL)) hx124 (mp [] _ _ hB) (fun s88 y h => ?_) (fun e E' O' hR => ?_)
   ·unfold A0v at h
    apply seq
    apply seq
    refine AWp.cut h (fun m116:Bool=>([(1,(bo a1)),(2,(pt 1002)),(5,(.sref 3005 13 0 s1.2.length)),(6,(i6 s1.1)),(7,(i6 s88)),(32,(bo m116))]:EL)) (fun m116:Bool=>([(500,some (.know (globD 0 (.imap gv0)))),(1002,bd 79 (D5 a0)),(3005,some (C7 s1.2))]:OL)) (fun m116 h E' O' hmat => ?_) (fun j117 hjj117 h => ?_)
    ·apply A0
     refine ghost hmat ?_
     apply AWp.cond rfl<;>intro hg118
     ·have h:=A5 hg118 h
      apply AWp.skip
      apply A0
      apply block
      refine rg (SQ tt) ?_
      apply E4
      obtain rfl:=oi h
      exact⟨rfl,(mp [] _ _ hB)⟩
     ·have h:=A6 hg118 h
      apply AWp.exit
      apply E5
      obtain rfl:=oi h
      exact⟨(fun hc=>by cases hc),rfl,(mp [] _ _ hB)⟩
    ·rcases bft (decide (s88<(a0.fprefixes.length:Int))) with hg119 | hg119
     ·have h:=A5 hg119 h
      obtain⟨hc120,h⟩:=C0 h
      obtain⟨r121,hr121,h⟩:=bindS h
      obtain⟨r122,hr122,h⟩:=bindS h
      refine drS (SQ (fa hg119 (fa hc120 (fa (cl [] (T4 a0.fattrs ((a0.fprefixes.take ((w64 (s88+1)).toNat)).drop s1.1.toNat) a1 r121 hr121)) (fa (cl [(500,500)] (A24 r121 r122 hr122)) tt))))) ?_
      exact hjj117 _ h _ _ (mp [] _ _ hB)
     ·have h:=A6 hg119 h
      refine drS (SQ (fa hg119 tt)) ?_
      exact hjj117 _ h _ _ (mp [] _ _ hB)
   ·obtain⟨rfl,hmat⟩:=hR
    apply C6
    apply A0
    refine ghost hmat ?_
    obtain⟨hc125,h⟩:=C0 h
    obtain⟨r126,hr126,h⟩:=bindS h
    obtain⟨hc127,h⟩:=C0 h
    refine sdS (SQ (fa hc125 (fa (cl [] (T4 a0.fattrs ((a0.fprefixes.take p111.toNat).drop s1.1.toNat) a1 r126 hr126)) (fa hc127 tt)))) ?_
    refine rg (SQ tt) ?_
    apply E4
    obtain rfl:=oi h
    exact⟨rfl,(mp [(3005,1046)] _ _ hB)⟩
  ·have h:=A6 hg87 h
   apply AWp.exit
   apply E5
   obtain rfl:=oi h
   exact⟨(fun hc=>by cases hc),rfl,(mp [] _ _ hB)⟩
 ·obtain⟨rfl,hmat⟩:=hR
  apply C6
  apply A0
  refine ghost hmat ?_
  refine sr (SQ tt) ?_
  apply ret
  obtain rfl:=oi h
  exact rt (Mat.trans (Mat.freezeP (n:=3005) (e:=61) (sz:=13) (es:=p86.map D4) (Ts:=[(4,(E7 p86))]) (Bs:=[]) (by rfl) (TwT.cons (x:=(.sref 3005 13 0 p86.length)) (by rfl) (FrzL.all (by first | rfl | (simp;done) | (simp;omega) | omega)) TwT.nil) TwB.nil) (mp [] [(4,(E7 p86))] [(500,some (.know (globD 0 (.imap gv0))))] hB)) [(E7 p86)] (rT rN) rfl
def A1e (a0:C5) (a1:Bool) (s1:Int×(List A7)) (s88:Int):Option (((Int))⊕(Int)) :=
 jn (fun m116:Bool =>
 (if m116=true then
 some (.inr (w64 (s88+1)))
 else
 some (.inl s88))) (fun j117 =>
 (if (decide (s88<(a0.fprefixes.length:Int)))=true then
 chk ((decide (0≤s1.1)&&decide (0≤(w64 (s88+1)))&&decide (s1.1.toNat≤(w64 (s88+1)).toNat)&&decide ((w64 (s88+1)).toNat≤a0.fprefixes.length))) <|
 (G9 a0.fattrs ((a0.fprefixes.take ((w64 (s88+1)).toNat)).drop s1.1.toNat) a1).bind fun r121 =>
 (L3 r121).bind fun r122 =>
 j117 r122
 else
 j117 false))
def A1f (a0:C5) (a1:Bool) (s1:Int×(List A7)):Option ((((List A7)))⊕(Int×(List A7))) :=
 (if (decide (s1.1<(a0.fprefixes.length:Int)))=true then
 (loop (A1e a0 a1 s1) (w64 (s1.1+1))).bind fun p111 =>
 chk ((decide (0≤s1.1)&&decide (0≤p111)&&decide (s1.1.toNat≤p111.toNat)&&decide (p111.toNat≤a0.fprefixes.length))) <|
 (G9 a0.fattrs ((a0.fprefixes.take p111.toNat).drop s1.1.toNat) a1).bind fun r126 =>
 chk (decide ((s1.2++[r126]).length≤LIM)) <|
 some (.inr (p111,(s1.2++[r126])))
 else
 some (.inl s1.2))
def Z5 (a0:C5) (a1:Bool):Option ((List A7)) :=
 (loop (A1f a0 a1) (0,([]:List A7))).bind fun p86 =>
 some p86
theorem A6w (a0:C5) (a1:Bool) (r:(List A7)) (h:Z5 a0 a1=some r):AC Tryz.prog 33 [(.d (D5 a0)),(.d (.bool a1))] [(500,(.know (globD 0 (.imap gv0))))] (.sref 900000 13 0 r.length) [(500,some (.know (globD 0 (.imap gv0)))),(900000,some (.row 61 13 (r.map D4)))]:=by
 refine ac2 Tryz.func33 rfl rfl fun B hB hN L => ?_
 delta Z5 at h
 refine sr (SQ tt) ?_
 refine sr (SQ tt) ?_
 apply seq
 refine sr (SQ tt) ?_
 apply block
 obtain⟨p86,hx129,h⟩:=bindS h
 refine lg (A1f a0 a1) (fun s1:Int×(List A7)=>([(1,(bo a1)),(2,(pt 1002)),(5,(.sref 3005 13 0 s1.2.length)),(6,(i6 s1.1))]:EL)) (fun s1:Int×(List A7)=>([(500,some (.know (globD 0 (.imap gv0)))),(1002,bd 79 (D5 a0)),(3005,some (C7 s1.2))]:OL)) (fun(p86:((List A7))) e E' O'=>e = .exit 0∧Mat B E' O' ([(5,(.sref 3005 13 0 p86.length))]:EL) ([(500,some (.know (globD 0 (.imap gv0)))),(3005,some (C7 p86))]:OL)) hx129 (Mat.trans (Mat.beginP (n:=3005) (e:=61) (sz:=13) (Ts:=[(5,(.sref 3005 13 0 0))]) (Bs:=[]) hB (by decide) (by rfl) (by decide) (TwT.cons (x:=.nils) (by rfl) (Tw.leaf ⟨rfl,rfl⟩) TwT.nil) TwB.nil) (mp [] _ _ hB)) (fun s1 y h => ?_) (fun e E' O' hR => ?_)
 ·unfold A1f at h
  apply seq
  refine sr (SQ tt) ?_
  apply AWp.cond rfl<;>intro hg87
  ·have h:=A5 hg87 h
   apply AWp.skip
   apply A0
   apply block
   refine sr (SQ tt) ?_
   apply seq
   apply block
   obtain⟨p111,hx124,h⟩:=bindS h
   refine lg (A1e a0 a1 s1) (fun s88:Int=>([(1,(bo a1)),(2,(pt 1002)),(5,(.sref 3005 13 0 s1.2.length)),(6,(i6 s1.1)),(7,(i6 s88))]:EL)) (fun s88:Int=>([(500,some (.know (globD 0 (.imap gv0)))),(1002,bd 79 (D5 a0)),(3005,some (C7 s1.2))]:OL)) (fun(p111:(Int)) e E' O'=>e = .exit 2∧Mat B E' O' ([(1,(bo a1)),(2,(pt 1002)),(5,(.sref 3005 13 0 s1.2.length)),(6,(i6 s1.1)),(7,(i6 p111))]:EL) ([(500,some (.know (globD 0 (.imap gv0)))),(1002,bd 79 (D5 a0)),(3005,some (C7 s1.2))]:OL)) hx124 (mp [] _ _ hB) (fun s88 y h => ?_) (fun e E' O' hR => ?_)
   ·unfold A1e at h
    apply seq
    apply seq
    refine AWp.cut h (fun m116:Bool=>([(1,(bo a1)),(2,(pt 1002)),(5,(.sref 3005 13 0 s1.2.length)),(6,(i6 s1.1)),(7,(i6 s88)),(32,(bo m116))]:EL)) (fun m116:Bool=>([(500,some (.know (globD 0 (.imap gv0)))),(1002,bd 79 (D5 a0)),(3005,some (C7 s1.2))]:OL)) (fun m116 h E' O' hmat => ?_) (fun j117 hjj117 h => ?_)
    ·apply A0
     refine ghost hmat ?_
     apply AWp.cond rfl<;>intro hg118
     ·have h:=A5 hg118 h
      apply AWp.skip
      apply A0
      apply block
      refine rg (SQ tt) ?_
      apply E4
      obtain rfl:=oi h
      exact⟨rfl,(mp [] _ _ hB)⟩
     ·have h:=A6 hg118 h
      apply AWp.exit
      apply E5
      obtain rfl:=oi h
      exact⟨(fun hc=>by cases hc),rfl,(mp [] _ _ hB)⟩
    ·rcases bft (decide (s88<(a0.fprefixes.length:Int))) with hg119 | hg119
     ·have h:=A5 hg119 h
      obtain⟨hc120,h⟩:=C0 h
      obtain⟨r121,hr121,h⟩:=bindS h
      obtain⟨r122,hr122,h⟩:=bindS h
      refine drS (SQ (fa hg119 (fa hc120 (fa (cl [] (T4 a0.fattrs ((a0.fprefixes.take ((w64 (s88+1)).toNat)).drop s1.1.toNat) a1 r121 hr121)) (fa (cl [(500,500)] (A24 r121 r122 hr122)) tt))))) ?_
      exact hjj117 _ h _ _ (mp [] _ _ hB)
     ·have h:=A6 hg119 h
      refine drS (SQ (fa hg119 tt)) ?_
      exact hjj117 _ h _ _ (mp [] _ _ hB)
   ·obtain⟨rfl,hmat⟩:=hR
    apply C6
    apply A0
    refine ghost hmat ?_
    obtain⟨hc125,h⟩:=C0 h
    obtain⟨r126,hr126,h⟩:=bindS h
    obtain⟨hc127,h⟩:=C0 h
    refine sdS (SQ (fa hc125 (fa (cl [] (T4 a0.fattrs ((a0.fprefixes.take p111.toNat).drop s1.1.toNat) a1 r126 hr126)) (fa hc127 tt)))) ?_
    refine rg (SQ tt) ?_
    apply E4
    obtain rfl:=oi h
    exact⟨rfl,(mp [(3005,1046)] _ _ hB)⟩
  ·have h:=A6 hg87 h
   apply AWp.exit
   apply E5
   obtain rfl:=oi h
   exact⟨(fun hc=>by cases hc),rfl,(mp [] _ _ hB)⟩
 ·obtain⟨rfl,hmat⟩:=hR
  apply C6
  apply A0
  refine ghost hmat ?_
  refine sr (SQ tt) ?_
  apply ret
  obtain rfl:=oi h
  exact rt (mp [(900000,3005)] [(4,(.sref 900000 13 0 p86.length))] [(500,some (.know (globD 0 (.imap gv0)))),(900000,some (C7 p86))] hB) [(.sref 900000 13 0 p86.length)] (rT rN) rfl
end
end Go.Proofs.YtkhjkjojjdkidaaGreatDoor
