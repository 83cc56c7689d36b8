/- Printed by gen.py: the Go functions as plain functions, and that the code does what they say. -/
import Derived.Test.YtkhjkjojjdkidaaGreatDoorChecked
import Derived.Test.YtkhjkjojjdkidaaGreatDoorVcYB
import Derived.Test.YtkhjkjojjdkidaaGreatDoorVcZ
import Derived.Test.YtkhjkjojjdkidaaGreatDoorVcGC
import Derived.KernelRfl
import Derived.Test.YtkhjkjojjdkidaaGreatDoorVcMD
import Derived.Test.YtkhjkjojjdkidaaGreatDoorVcMQ
import Derived.Test.YtkhjkjojjdkidaaGreatDoorVcSG
import Derived.Test.YtkhjkjojjdkidaaGreatDoorFnsB
import Derived.Test.YtkhjkjojjdkidaaGreatDoorExt
import Derived.Test.YtkhjkjojjdkidaaGreatDoorVcPm
import Derived.Test.YtkhjkjojjdkidaaGreatDoorVcRg
import Derived.Test.YtkhjkjojjdkidaaGreatDoorVcSt
import Derived.Test.YtkhjkjojjdkidaaGreatDoorVcMR
namespace Go.Proofs.YtkhjkjojjdkidaaGreatDoor
open Go Go.Vc
open Tryz
open Go.Vc.OpJ (assign alloc lss pickT pickF extract lenD indexD loadD eqlI gtr callVal leq geq loadR nilP indexS buildSlice lenS fieldD neqI pickAnd pickOr)
open Go.Vc.AWp (seq ghost ret block)
set_option maxHeartbeats 4000000
set_option maxRecDepth 100000
noncomputable section
def A1a (s3:Int×(List A2)) (x135:C7) (s136:Int):Option (((Int))⊕(Int)) :=
 jn (fun m164:Bool =>
 (if m164=true then
 some (.inr (w64 (s136+1)))
 else
 some (.inl s136))) (fun j165 =>
 (if (decide (s136<(s3.2.length:Int)))=true then
 (idx s3.2 s136).bind fun _ =>
 (idx s3.2 s136).bind fun x169 =>
 (A2y x169 x135.fPrefix).bind fun r170 =>
 j165 (decide (r170<0))
 else
 j165 false))
def X5 (a0:(List C7)) (a1:(List C7)) (s3:Int×(List A2)):Option ((((List A2)))⊕(Int×(List A2))) :=
 (if (decide (s3.1<((a0++a1).length:Int)))=true then
 (idx (a0++a1) s3.1).bind fun _ =>
 (idx (a0++a1) s3.1).bind fun x135 =>
 (loop (A1a s3 x135) 0).bind fun p159 =>
 jn (fun m176:Bool =>
 jn (fun m187:(List A2) =>
 some (.inr ((w64 (s3.1+1)),m187))) (fun j188 =>
 (if m176=true then
 chk ((decide (0≤p159)&&decide (p159.toNat≤s3.2.length)&&decide (s3.2.length≤s3.2.length))) <|
 chk (decide (p159.toNat+(s3.2.length-p159.toNat)≤s3.2.length)) <|
 chk (decide (((s3.2.drop p159.toNat).take (s3.2.length-p159.toNat)).length≤LIM)) <|
 chk ((decide (0≤p159)&&decide (0≤p159.toNat)&&decide (p159.toNat≤s3.2.length))) <|
 chk (decide (((s3.2.take p159.toNat)++[x135.fPrefix]).length≤LIM)) <|
 chk (decide ((((s3.2.take p159.toNat)++[x135.fPrefix])++((s3.2.drop p159.toNat).take (s3.2.length-p159.toNat))).length≤LIM)) <|
 j188 (((s3.2.take p159.toNat)++[x135.fPrefix])++((s3.2.drop p159.toNat).take (s3.2.length-p159.toNat)))
 else
 j188 s3.2))) (fun j177 =>
 (if (p159==(s3.2.length:Int))=true then
 j177 true
 else
 (idx s3.2 p159).bind fun _ =>
 (idx s3.2 p159).bind fun x200 =>
 j177 (!(((x200.fAddr.fV6==x135.fPrefix.fAddr.fV6)&&((x200.fAddr.fHi==x135.fPrefix.fAddr.fHi)&&((x200.fAddr.fLo==x135.fPrefix.fAddr.fLo)&&true)))&&((x200.fLen==x135.fPrefix.fLen)&&true)))))
 else
 some (.inl s3.2))
def A1l (a0:(List C7)) (a1:(List C7)):Option ((List A2)) :=
 chk (decide (a0.length≤LIM)) <|
 chk (decide ((a0++a1).length≤LIM)) <|
 (loop (X5 a0 a1) (0,([]:List A2))).bind fun p132 =>
 some p132
theorem A8g (a0:(List C7)) (a1:(List C7)) (r:(List A2)) (h:A1l a0 a1=some r):AC Tryz.prog 48 [(.d (.list 16 (a0.map G4))),(.d (.list 16 (a1.map G4)))] [] (.d (.list 4 (r.map B4))) []:=by
 refine ac2 Tryz.func48 rfl rfl fun B hB hN L => ?_
 delta A1l at h
 refine sr (SQ tt) ?_
 refine sr (SQ tt) ?_
 apply seq
 obtain⟨hc1,h⟩:=B3 h
 obtain⟨hc2,h⟩:=B3 h
 refine sr (SQ (fa hc1 (fa hc2 tt))) ?_
 apply block
 obtain⟨p132,hx202,h⟩:=bindS h
 refine lg (X5 a0 a1) (fun s3:Int×(List A2)=>([(5,(.sref 3005 4 0 s3.2.length)),(13,(.sref 1013 16 0 ((a0++a1).length))),(14,(i6 ((a0++a1).length:Int))),(15,(i6 s3.1))]:EL)) (fun s3:Int×(List A2)=>([(1013,some (F4 (a0++a1))),(3005,some (F7 s3.2))]:OL)) (fun(p132:((List A2))) e E' O'=>e = .exit 0∧Mat B E' O' ([(5,(.sref 3005 4 0 p132.length))]:EL) ([(3005,some (F7 p132))]:OL)) hx202 (Mat.trans (Mat.beginP (n:=3005) (e:=29) (sz:=4) (Ts:=[(5,(.sref 3005 4 0 0))]) (Bs:=[]) hB (by decide) (by rfl) (by decide) (TwT.cons (x:=.nils) (by rfl) (Tw.leaf ⟨rfl,rfl⟩) TwT.nil) TwB.nil) (mp [] _ _ hB)) (fun s3 y h => ?_) (fun e E' O' hR => ?_)
 ·unfold X5 at h
  refine sr (SQ tt) ?_
  apply seq
  apply AWp.cond rfl<;>intro hg133
  ·have h:=A3 hg133 h
   apply AWp.skip
   apply A0
   apply seq
   apply block
   obtain⟨_,hx134,h⟩:=bindS h
   obtain⟨x135,hx135,h⟩:=bindS h
   refine sr (SQ (fa hx134 (fa hx135 tt))) ?_
   refine sr (SQ tt) ?_
   apply seq
   apply block
   obtain⟨p159,hx172,h⟩:=bindS h
   refine lg (A1a s3 x135) (fun s136:Int=>([(5,(.sref 3005 4 0 s3.2.length)),(7,(pt 1007)),(8,(i6 s136)),(13,(.sref 1013 16 0 ((a0++a1).length))),(14,(i6 ((a0++a1).length:Int))),(15,(i6 s3.1))]:EL)) (fun s136:Int=>([(1007,bd 37 (G4 x135)),(1013,some (F4 (a0++a1))),(3005,some (F7 s3.2))]:OL)) (fun(p159:(Int)) e E' O'=>e = .exit 2∧Mat B E' O' ([(5,(.sref 3005 4 0 s3.2.length)),(7,(pt 1007)),(8,(i6 p159)),(13,(.sref 1013 16 0 ((a0++a1).length))),(14,(i6 ((a0++a1).length:Int))),(15,(i6 s3.1))]:EL) ([(1007,bd 37 (G4 x135)),(1013,some (F4 (a0++a1))),(3005,some (F7 s3.2))]:OL)) hx172 (mp [] _ _ hB) (fun s136 y h => ?_) (fun e E' O' hR => ?_)
   ·unfold A1a at h
    apply seq
    apply seq
    refine AWp.cut h (fun m164:Bool=>([(5,(.sref 3005 4 0 s3.2.length)),(7,(pt 1007)),(8,(i6 s136)),(13,(.sref 1013 16 0 ((a0++a1).length))),(14,(i6 ((a0++a1).length:Int))),(15,(i6 s3.1)),(32,(bo m164))]:EL)) (fun m164:Bool=>([(1007,bd 37 (G4 x135)),(1013,some (F4 (a0++a1))),(3005,some (F7 s3.2))]:OL)) (fun m164 h E' O' hmat => ?_) (fun j165 hjj165 h => ?_)
    ·apply A0
     refine ghost hmat ?_
     apply AWp.cond rfl<;>intro hg166
     ·have h:=A3 hg166 h
      apply AWp.skip
      apply A0
      apply block
      refine rg (SQ tt) ?_
      apply D2
      obtain rfl:=oi h
      exact⟨rfl,(mp [] _ _ hB)⟩
     ·have h:=A4 hg166 h
      apply AWp.exit
      apply D6
      obtain rfl:=oi h
      exact⟨(fun hc=>by cases hc),rfl,(mp [] _ _ hB)⟩
    ·rcases bft (decide (s136<(s3.2.length:Int))) with hg167 | hg167
     ·have h:=A3 hg167 h
      obtain⟨_,hx168,h⟩:=bindS h
      obtain⟨x169,hx169,h⟩:=bindS h
      obtain⟨r170,hr170,h⟩:=bindS h
      refine drS (SQ (fa hg167 (fa hx168 (fa hx169 (fa (cl [] (A7g x169 x135.fPrefix r170 hr170)) tt))))) ?_
      exact hjj165 _ h _ _ (mp [] _ _ hB)
     ·have h:=A4 hg167 h
      refine drS (SQ (fa hg167 tt)) ?_
      exact hjj165 _ h _ _ (mp [] _ _ hB)
   ·obtain⟨rfl,hmat⟩:=hR
    apply C2
    apply A0
    refine ghost hmat ?_
    apply seq
    refine AWp.cut h (fun m176:Bool=>([(5,(.sref 3005 4 0 s3.2.length)),(7,(pt 1007)),(8,(i6 p159)),(13,(.sref 1013 16 0 ((a0++a1).length))),(14,(i6 ((a0++a1).length:Int))),(15,(i6 s3.1)),(47,(bo m176))]:EL)) (fun m176:Bool=>([(1007,bd 37 (G4 x135)),(1013,some (F4 (a0++a1))),(3005,some (F7 s3.2))]:OL)) (fun m176 h E' O' hmat => ?_) (fun j177 hjj177 h => ?_)
    ·apply A0
     refine ghost hmat ?_
     refine AWp.cut h (fun m187:(List A2)=>([(5,(.sref 3005 4 0 m187.length)),(13,(.sref 1013 16 0 ((a0++a1).length))),(14,(i6 ((a0++a1).length:Int))),(15,(i6 s3.1))]:EL)) (fun m187:(List A2)=>([(1013,some (F4 (a0++a1))),(3005,some (F7 m187))]:OL)) (fun m187 h E' O' hmat => ?_) (fun j188 hjj188 h => ?_)
     ·apply D2
      apply A0
      refine ghost hmat ?_
      refine rg (SQ tt) ?_
      obtain rfl:=oi h
      exact⟨rfl,(mp [] _ _ hB)⟩
     ·apply AWp.cond rfl<;>intro hg189
      ·have h:=A3 hg189 h
       obtain⟨hc190,h⟩:=B3 h
       obtain⟨hc191,h⟩:=B3 h
       obtain⟨hc192,h⟩:=B3 h
       apply sr (c (mv hN (q 5)) rfl (c (mv hN (q 8)) rfl (c (OpJ.cutS underlying59 tyS29 (l:=p159.toNat) (h:=s3.2.length) (off':=p159.toNat) (len':=(s3.2.length-p159.toNat)) (.inr ⟨_,_,_,rfl,(ot 49 (i6 p159)),(of_decide_eq_true (A5p (A5p hc190))),rfl⟩) (.inl ⟨rfl,rfl,rfl⟩) (of_decide_eq_true (A5q (A5p hc190))) (of_decide_eq_true (A5q hc190)) (by simp) (by simp) (L rfl) (q 48)) rfl (cg (OpJ.appendNS hB underlying59 tyE29 (nm:=1051) (by decide) (es:=s3.2.map B4) (ys:=((s3.2.drop p159.toNat).take (s3.2.length-p159.toNat)).map B4) (by rw [List.length_map];exact of_decide_eq_true hc191) (by first | rw [List.map_drop,List.map_take] | (simp [List.map_take,List.map_drop];done) | simp [List.take_of_length_le]) (len:=((s3.2.drop p159.toNat).take (s3.2.length-p159.toNat)).length) (by simp) (A4y (f:=B4) (fun _=>rfl)) (by rw [List.length_map];exact A0l hc192 (by decide)) (by rw [List.length_map];exact A33 hc192) (L rfl) Opd.nils (q 50)) rfl (c (assign (L rfl) (q 51)) rfl cn)))))
       refine gh [(5,_),(7,_),(8,_),(9,_),(13,_),(14,_),(15,_)] [(1007,some _),(1013,some _),(1051,some _),(3005,some _)] hB rfl rfl (by rfl) ?_
       refine ghost (Mat.freezeP (n:=1051) (e:=29) (sz:=4) (es:=((s3.2.drop p159.toNat).take (s3.2.length-p159.toNat)).map B4) (Ts:=[(9,(E5 ((s3.2.drop p159.toNat).take (s3.2.length-p159.toNat))))]) (Bs:=[]) (by rfl) (TwT.cons (x:=(.sref 1051 4 0 (((s3.2.drop p159.toNat).take (s3.2.length-p159.toNat)).length))) (by rfl) (FrzL.all (by first | rfl | (simp;done) | (simp;omega) | omega)) TwT.nil) TwB.nil) ?_
       obtain⟨hc195,h⟩:=B3 h
       obtain⟨hc196,h⟩:=B3 h
       obtain⟨hc197,h⟩:=B3 h
       apply dr (c (mv hN (q 5)) rfl (c (mv hN (q 8)) rfl (cg (OpJ.val (v':=(.sref 3005 4 0 ((s3.2.take p159.toNat).length))) (by rw [List.length_take,Nat.min_eq_left (of_decide_eq_true (A5q hc195))]) (OpJ.shrS (OpJ.cutS underlying59 tyS29 (l:=0) (h:=p159.toNat) (off':=0) (len':=p159.toNat) (.inl ⟨rfl,rfl,rfl⟩) (.inr ⟨_,_,_,rfl,(ot 53 (i6 p159)),(of_decide_eq_true (A5p (A5p hc195))),rfl⟩) (of_decide_eq_true (A5q (A5p hc195))) (of_decide_eq_true (A5q hc195)) (by simp) (by simp) (L rfl) (q 52)) (es':=(s3.2.take p159.toNat).map B4) (by rw [List.length_map];exact(of_decide_eq_true (A5q hc195))) (by rw [List.map_take]))) rfl (c (fo 1007 0 [0] hN underlying37 0 tyS29 (q 7)) rfl (c (la hN 37 tyS29 (q 55)) rfl (c (buildSlice underlying59 tyS29 tyZD29 (by rfl) (by decide) (by decide) (Opds.cons (q 56) Opds.nil) (by kernel_rfl) (es:=([(B4 x135.fPrefix)]:List D)) (by rfl) (by rfl) (by kernel_rfl) (by simp) (L rfl)) rfl (cg (apd hB underlying59 tyE29 1058 B4 (s3.2.take p159.toNat) [x135.fPrefix] hc196 (L rfl) (q 54) (q 57)) rfl (c (mv hN (q 9)) rfl (cg (apd hB underlying59 tyE29 1060 B4 ((s3.2.take p159.toNat)++[x135.fPrefix]) ((s3.2.drop p159.toNat).take (s3.2.length-p159.toNat)) hc197 (L rfl) (q 58) (q 59)) rfl (c (assign (L rfl) (q 60)) rfl cn)))))))))) (by kernel_rfl) (by kernel_rfl)
       exact hjj188 _ h _ _ (mp [(3005,1060)] _ _ hB)
      ·have h:=A4 hg189 h
       apply AWp.skip
       exact hjj188 _ h _ _ (mp [] _ _ hB)
    ·rcases bft (p159==(s3.2.length:Int)) with hg198 | hg198
     ·have h:=A3 hg198 h
      refine drS (SQ (fa hg198 tt)) ?_
      exact hjj177 _ h _ _ (mp [] _ _ hB)
     ·have h:=A4 hg198 h
      obtain⟨_,hx199,h⟩:=bindS h
      obtain⟨_,hx200,h⟩:=bindS h
      refine drS (SQ (fa hg198 (fa hx199 (fa hx200 tt)))) ?_
      exact hjj177 _ h _ _ (mp [] _ _ hB)
  ·have h:=A4 hg133 h
   apply AWp.exit
   apply D6
   obtain rfl:=oi h
   exact⟨(fun hc=>by cases hc),rfl,(mp [] _ _ hB)⟩
 ·obtain⟨rfl,hmat⟩:=hR
  apply C2
  apply A0
  refine ghost hmat ?_
  refine sr (SQ tt) ?_
  apply ret
  obtain rfl:=oi h
  exact rt (Mat.trans (Mat.freezeP (n:=3005) (e:=29) (sz:=4) (es:=p132.map B4) (Ts:=[(4,(E5 p132))]) (Bs:=[]) (by rfl) (TwT.cons (x:=(.sref 3005 4 0 p132.length)) (by rfl) (FrzL.all (by first | rfl | (simp;done) | (simp;omega) | omega)) TwT.nil) TwB.nil) (mp [] [(4,(E5 p132))] [] hB)) [(E5 p132)] (rT rN) rfl
def A0w (a0:(List C7)) (a1:A2) (s1:Int):Option (((C7)⊕(Unit))⊕(Int)) :=
 (if (decide (s1<(a0.length:Int)))=true then
 (idx a0 s1).bind fun x11 =>
 (if (((x11.fPrefix.fAddr.fV6==a1.fAddr.fV6)&&((x11.fPrefix.fAddr.fHi==a1.fAddr.fHi)&&((x11.fPrefix.fAddr.fLo==a1.fAddr.fLo)&&true)))&&((x11.fPrefix.fLen==a1.fLen)&&true))=true then
 some (.inl (.inl x11))
 else
 some (.inr (w64 (s1+1))))
 else
 some (.inl (.inr ())))
def A20 (a0:(List C7)) (a1:A2):Option (C7×Bool) :=
 (loop (A0w a0 a1) 0).bind fun x13=>match x13 with
 | (.inl p8) =>
  some (p8,true)
 | (.inr _) =>
  some ((C7.mk (A2.mk (D4.mk false 0 0) 0) 0 (B2.mk 0 ([]:List A8) (D4.mk false 0 0) 0 0 0 ([]:List B0) ([]:List D5) ([]:List A1))),false)
theorem A6v (a0:(List C7)) (a1:A2) (r:C7×Bool) (h:A20 a0 a1=some r):AC Tryz.prog 49 [(.d (.list 16 (a0.map G4))),(.d (B4 a1))] [] (.tup [(.d (G4 r.1)),(.d (.bool r.2))]) []:=by
 refine ac2 Tryz.func49 rfl rfl fun B hB hN L => ?_
 delta A20 at h
 refine sr (SQ tt) ?_
 apply seq
 refine sr (SQ tt) ?_
 apply block
 obtain⟨x13,hx14,h⟩:=bindS h
 refine lg (A0w a0 a1) (fun s1:Int=>([(3,(pt 1003)),(4,(pt 1004)),(8,(H3 a0)),(9,(i6 (a0.length:Int))),(10,(i6 s1))]:EL)) (fun s1:Int=>([(1003,bd 29 (B4 a1)),(1004,some (.box 37 (.st [(.d (.st [(.st [(.bool false),(.int .u64 0),(.int .u64 0)]),(.int .i64 0)])),(i6 0),(.st [(i6 0),.nils,(.d (.st [(.bool false),(.int .u64 0),(.int .u64 0)])),(i6 0),(i6 0),(i6 0),.nils,.nils,.nils])])))]:OL)) (fun(x:(C7)⊕(Unit)) e E' O'=>match x with | (.inl p8)=>e = .ret∧Mat B E' O' ([(4,(pt 1004)),(5,(bo true))]:EL) ([(1004,bd 37 (G4 p8))]:OL) | (.inr _p)=>e = .exit 0∧Mat B E' O' ([(4,(pt 1004))]:EL) ([(1004,some (.box 37 (.st [(.d (.st [(.st [(.bool false),(.int .u64 0),(.int .u64 0)]),(.int .i64 0)])),(i6 0),(.st [(i6 0),.nils,(.d (.st [(.bool false),(.int .u64 0),(.int .u64 0)])),(i6 0),(i6 0),(i6 0),.nils,.nils,.nils])])))]:OL)) hx14 (mp [] _ _ hB) (fun s1 y h => ?_) (fun e E' O' hR => ?_)
 ·unfold A0w at h
  refine sr (SQ tt) ?_
  apply seq
  apply AWp.cond rfl<;>intro hg10
  ·have h:=A3 hg10 h
   apply AWp.skip
   apply A0
   apply seq
   apply block
   obtain⟨_,hx11,h⟩:=bindS h
   refine sr (SQ (fa hx11 tt)) ?_
   refine sr (SQ tt) ?_
   apply AWp.cond rfl<;>intro hg12
   ·have h:=A3 hg12 h
    refine sr (SQ tt) ?_
    apply ret
    apply D3
    apply B5
    obtain rfl:=oi h
    exact⟨(fun hc=>by cases hc),rfl,(mp [] _ _ hB)⟩
   ·have h:=A4 hg12 h
    apply AWp.skip
    apply D2
    apply A0
    refine rg (SQ tt) ?_
    obtain rfl:=oi h
    exact⟨rfl,(mp [] _ _ hB)⟩
  ·have h:=A4 hg10 h
   apply AWp.exit
   apply D6
   obtain rfl:=oi h
   exact⟨(fun hc=>by cases hc),rfl,(mp [] _ _ hB)⟩
 ·rcases x13 with p8 | _
  ·obtain⟨rfl,hmat⟩:=hR
   apply D3
   apply B5
   obtain rfl:=oi h
   exact rt (Mat.trans hmat (mp [] [(4,(pt 1004)),(5,(bo true))] [(1004,bd 37 (G4 p8))] hB)) [(.d (G4 p8)),(bo true)] (Res.cell (c:=(.d (G4 p8))) (by rfl) (by rfl) tyS37 (by rfl) (by rfl) (by rfl) (rT rN)) rfl
  ·obtain⟨rfl,hmat⟩:=hR
   apply C2
   apply A0
   refine ghost hmat ?_
   refine sr (SQ tt) ?_
   apply ret
   obtain rfl:=oi h
   exact rt (Mat.trans (Mat.coeP (Ts:=[]) (Bs:=[(1004,some (.box 37 (.d (.st [(.st [(.st [(.bool false),(.int .u64 0),(.int .u64 0)]),(.int .i64 0)]),(.int .i64 0),(.st [(.int .i64 0),(.list 2 (([]:List A8).map C3)),(.st [(.bool false),(.int .u64 0),(.int .u64 0)]),(.int .i64 0),(.int .i64 0),(.int .i64 0),(.list 2 (([]:List B0).map B6)),(.list 3 (([]:List D5).map D8)),(.list 3 (([]:List A1).map A9))])]))))]) TwT.nil (TwB.cons (x:=(.st [(.d (.st [(.st [(.bool false),(.int .u64 0),(.int .u64 0)]),(.int .i64 0)])),(i6 0),(.st [(i6 0),.nils,(.d (.st [(.bool false),(.int .u64 0),(.int .u64 0)])),(i6 0),(i6 0),(i6 0),.nils,.nils,.nils])])) (by rfl) (Tw.leaf ⟨_,(Co.st (CoL.cons (Co.d _) (CoL.cons (Co.d _) (CoL.cons (Co.st (CoL.cons (Co.d _) (CoL.cons (Co.nils 2) (CoL.cons (Co.d _) (CoL.cons (Co.d _) (CoL.cons (Co.d _) (CoL.cons (Co.d _) (CoL.cons (Co.nils 2) (CoL.cons (Co.nils 3) (CoL.cons (Co.nils 3) CoL.nil)))))))))) CoL.nil)))),rfl⟩) TwB.nil)) (mp [] [(4,(pt 1004)),(5,(bo false))] [(1004,some (.box 37 (.d (.st [(.st [(.st [(.bool false),(.int .u64 0),(.int .u64 0)]),(.int .i64 0)]),(.int .i64 0),(.st [(.int .i64 0),(.list 2 (([]:List A8).map C3)),(.st [(.bool false),(.int .u64 0),(.int .u64 0)]),(.int .i64 0),(.int .i64 0),(.int .i64 0),(.list 2 (([]:List B0).map B6)),(.list 3 (([]:List D5).map D8)),(.list 3 (([]:List A1).map A9))])]))))] hB)) [(.d (.st [(.st [(.st [(.bool false),(.int .u64 0),(.int .u64 0)]),(.int .i64 0)]),(.int .i64 0),(.st [(.int .i64 0),(.list 2 (([]:List A8).map C3)),(.st [(.bool false),(.int .u64 0),(.int .u64 0)]),(.int .i64 0),(.int .i64 0),(.int .i64 0),(.list 2 (([]:List B0).map B6)),(.list 3 (([]:List D5).map D8)),(.list 3 (([]:List A1).map A9))])])),(bo false)] (Res.cell (c:=(.d (.st [(.st [(.st [(.bool false),(.int .u64 0),(.int .u64 0)]),(.int .i64 0)]),(.int .i64 0),(.st [(.int .i64 0),(.list 2 (([]:List A8).map C3)),(.st [(.bool false),(.int .u64 0),(.int .u64 0)]),(.int .i64 0),(.int .i64 0),(.int .i64 0),(.list 2 (([]:List B0).map B6)),(.list 3 (([]:List D5).map D8)),(.list 3 (([]:List A1).map A9))])]))) (by rfl) (by rfl) tyS37 (by rfl) (by rfl) (by rfl) (rT rN)) rfl
def T7 (a0:(List Int)) (a1:(List Int)) (s2:Int):Option (((Unit)⊕(Unit))⊕(Int)) :=
 (if (decide (s2<(a0.length:Int)))=true then
 (idx a0 s2).bind fun x14 =>
 (idx a1 s2).bind fun x15 =>
 (if (x14 != x15)=true then
 some (.inl (.inl ()))
 else
 some (.inr (w64 (s2+1))))
 else
 some (.inl (.inr ())))
def A04 (a0:(List Int)) (a1:(List Int)):Option (Bool) :=
 (if ((a0.length:Int) != (a1.length:Int))=true then
 some false
 else
 (loop (T7 a0 a1) 0).bind fun x17=>match x17 with
 | (.inl _) =>
  some false
 | (.inr _) =>
  some true)
theorem A7m (a0:(List Int)) (a1:(List Int)) (r:Bool) (h:A04 a0 a1=some r):AC Tryz.prog 47 [(.d (.list 1 (a0.map (eI .i64)))),(.d (.list 1 (a1.map (eI .i64))))] [] (.d (.bool r)) []:=by
 refine ac2 Tryz.func47 rfl rfl fun B hB hN L => ?_
 delta A04 at h
 refine sr (SQ tt) ?_
 apply seq
 refine sr (SQ tt) ?_
 apply AWp.cond rfl<;>intro hg1
 ·have h:=A3 hg1 h
  refine sr (SQ tt) ?_
  apply ret
  apply B5
  obtain rfl:=oi h
  exact rt (kp [(4,_)] [] hB rfl rfl (by rfl)) [(bo false)] (rT rN) rfl
 ·have h:=A4 hg1 h
  apply AWp.skip
  apply A0
  apply seq
  refine sr (SQ tt) ?_
  apply block
  obtain⟨x17,hx18,h⟩:=bindS h
  refine lg (T7 a0 a1) (fun s2:Int=>([(0,(qI_1 a0)),(1,(qI_1 a1)),(12,(i6 (a0.length:Int))),(13,(i6 s2))]:EL)) (fun s2:Int=>([]:OL)) (fun(x:(Unit)⊕(Unit)) e E' O'=>match x with | (.inl _p)=>e = .ret∧Mat B E' O' ([(4,(bo false))]:EL) ([]:OL) | (.inr _p)=>e = .exit 0∧Mat B E' O' ([]:EL) ([]:OL)) hx18 (mp [] _ _ hB) (fun s2 y h => ?_) (fun e E' O' hR => ?_)
  ·unfold T7 at h
   refine sr (SQ tt) ?_
   apply seq
   apply AWp.cond rfl<;>intro hg13
   ·have h:=A3 hg13 h
    apply AWp.skip
    apply A0
    apply seq
    apply block
    refine sr (SQ tt) ?_
    obtain⟨_,hx14,h⟩:=bindS h
    obtain⟨_,hx15,h⟩:=bindS h
    refine sdS (SQ (fa hx14 (fa hx15 tt))) ?_
    apply AWp.cond rfl<;>intro hg16
    ·have h:=A3 hg16 h
     refine sr (SQ tt) ?_
     apply ret
     apply D3
     apply B5
     obtain rfl:=oi h
     exact⟨(fun hc=>by cases hc),rfl,(mp [] _ _ hB)⟩
    ·have h:=A4 hg16 h
     apply AWp.skip
     apply D2
     apply A0
     refine rg (SQ tt) ?_
     obtain rfl:=oi h
     exact⟨rfl,(mp [] _ _ hB)⟩
   ·have h:=A4 hg13 h
    apply AWp.exit
    apply D6
    obtain rfl:=oi h
    exact⟨(fun hc=>by cases hc),rfl,(mp [] _ _ hB)⟩
  ·rcases x17 with _ | _
   ·obtain⟨rfl,hmat⟩:=hR
    apply D3
    apply B5
    obtain rfl:=oi h
    exact rt (Mat.trans hmat (mp [] [(4,(bo false))] [] hB)) [(bo false)] (rT rN) rfl
   ·obtain⟨rfl,hmat⟩:=hR
    apply C2
    apply A0
    refine ghost hmat ?_
    refine sr (SQ tt) ?_
    apply ret
    obtain rfl:=oi h
    exact rt (kp [(4,_)] [] hB rfl rfl (by rfl)) [(bo true)] (rT rN) rfl
def M0 (a0:B2) (a1:B2) (s2:Int):Option (((Unit)⊕(Unit))⊕(Int)) :=
 (if (decide (s2<(a0.fPath.length:Int)))=true then
 jn (fun m50:Bool =>
 (if m50=true then
 some (.inl (.inl ()))
 else
 some (.inr (w64 (s2+1))))) (fun j51 =>
 (idx a0.fPath s2).bind fun x53 =>
 (idx a1.fPath s2).bind fun x54 =>
 (if (x53.fSet != x54.fSet)=true then
 j51 true
 else
 (idx a0.fPath s2).bind fun x56 =>
 (idx a1.fPath s2).bind fun x57 =>
 (A04 x56.fASNs x57.fASNs).bind fun r58 =>
 j51 (!r58)))
 else
 some (.inl (.inr ())))
def M1 (a0:B2) (a1:B2) (s61:Int):Option (((Unit)⊕(Unit))⊕(Int)) :=
 (if (decide (s61<(a0.fCommunities.length:Int)))=true then
 (idx a0.fCommunities s61).bind fun x73 =>
 (idx a1.fCommunities s61).bind fun x74 =>
 (if (!((x73.fA==x74.fA)&&((x73.fB==x74.fB)&&true)))=true then
 some (.inl (.inl ()))
 else
 some (.inr (w64 (s61+1))))
 else
 some (.inl (.inr ())))
def M2 (a0:B2) (a1:B2) (s78:Int):Option (((Unit)⊕(Unit))⊕(Int)) :=
 (if (decide (s78<(a0.fLarge.length:Int)))=true then
 (idx a0.fLarge s78).bind fun x90 =>
 (idx a1.fLarge s78).bind fun x91 =>
 (if (!((x90.fA==x91.fA)&&((x90.fB==x91.fB)&&((x90.fC==x91.fC)&&true))))=true then
 some (.inl (.inl ()))
 else
 some (.inr (w64 (s78+1))))
 else
 some (.inl (.inr ())))
def M9 (a0:B2) (a1:B2) (s95:Int):Option (((Unit)⊕(Unit))⊕(Int)) :=
 (if (decide (s95<(a0.fOther.length:Int)))=true then
 jn (fun m153:Bool =>
 (if m153=true then
 some (.inl (.inl ()))
 else
 some (.inr (w64 (s95+1))))) (fun j154 =>
 (idx a0.fOther s95).bind fun x156 =>
 (idx a1.fOther s95).bind fun x157 =>
 (if (x156.fFlags != x157.fFlags)=true then
 j154 true
 else
 (idx a0.fOther s95).bind fun x159 =>
 (idx a1.fOther s95).bind fun x160 =>
 (if (x159.fType != x160.fType)=true then
 j154 true
 else
 (idx a0.fOther s95).bind fun x162 =>
 (idx a1.fOther s95).bind fun x163 =>
 j154 ((bstr x162.fData) != (bstr x163.fData)))))
 else
 some (.inl (.inr ())))
def J0 (a0:B2) (a1:B2):Option (Bool) :=
 (if (((((((((a0.fOrigin != a1.fOrigin) || (!((a0.fNext.fV6==a1.fNext.fV6)&&((a0.fNext.fHi==a1.fNext.fHi)&&((a0.fNext.fLo==a1.fNext.fLo)&&true))))) || (a0.fMED != a1.fMED)) || (a0.fPref != a1.fPref)) || (a0.fOTC != a1.fOTC)) || ((a0.fPath.length:Int) != (a1.fPath.length:Int))) || ((a0.fCommunities.length:Int) != (a1.fCommunities.length:Int))) || ((a0.fLarge.length:Int) != (a1.fLarge.length:Int))) || ((a0.fOther.length:Int) != (a1.fOther.length:Int)))=true then
 some false
 else
 (loop (M0 a0 a1) 0).bind fun x59=>match x59 with
 | (.inl _) =>
  some false
 | (.inr _) =>
  (loop (M1 a0 a1) 0).bind fun x76=>match x76 with
  | (.inl _) =>
   some false
  | (.inr _) =>
   (loop (M2 a0 a1) 0).bind fun x93=>match x93 with
   | (.inl _) =>
    some false
   | (.inr _) =>
    (loop (M9 a0 a1) 0).bind fun x164=>match x164 with
    | (.inl _) =>
     some false
    | (.inr _) =>
     some true)
theorem A1e (a0:B2) (a1:B2) (r:Bool) (h:J0 a0 a1=some r):AC Tryz.prog 22 [(.d (C0 a0)),(.d (C0 a1))] [] (.d (.bool r)) []:=by
 refine ac2 Tryz.func22 rfl rfl fun B hB hN L => ?_
 delta J0 at h
 refine sr (SQ tt) ?_
 apply seq
 refine sr (SQ tt) ?_
 apply AWp.cond rfl<;>intro hg1
 ·have h:=A3 hg1 h
  refine sr (SQ tt) ?_
  apply ret
  apply B5
  obtain rfl:=oi h
  exact rt (kp [(4,_)] [] hB rfl rfl (by rfl)) [(bo false)] (rT rN) rfl
 ·have h:=A4 hg1 h
  apply AWp.skip
  apply A0
  apply seq
  refine sr (SQ tt) ?_
  apply block
  obtain⟨x59,hx60,h⟩:=bindS h
  refine lg (M0 a0 a1) (fun s2:Int=>([(2,(pt 1002)),(3,(pt 1003)),(80,(i6 (a0.fPath.length:Int))),(81,(i6 s2))]:EL)) (fun s2:Int=>([(1002,bd 35 (C0 a0)),(1003,bd 35 (C0 a1))]:OL)) (fun(x:(Unit)⊕(Unit)) e E' O'=>match x with | (.inl _p)=>e = .ret∧Mat B E' O' ([(4,(bo false))]:EL) ([]:OL) | (.inr _p)=>e = .exit 0∧Mat B E' O' ([(2,(pt 1002)),(3,(pt 1003))]:EL) ([(1002,bd 35 (C0 a0)),(1003,bd 35 (C0 a1))]:OL)) hx60 (mp [] _ _ hB) (fun s2 y h => ?_) (fun e E' O' hR => ?_)
  ·unfold M0 at h
   refine sr (SQ tt) ?_
   apply seq
   apply AWp.cond rfl<;>intro hg41
   ·have h:=A3 hg41 h
    apply AWp.skip
    apply A0
    apply seq
    apply block
    refine sr (SQ tt) ?_
    apply seq
    refine AWp.cut h (fun m50:Bool=>([(2,(pt 1002)),(3,(pt 1003)),(80,(i6 (a0.fPath.length:Int))),(81,(i6 s2)),(112,(bo m50))]:EL)) (fun m50:Bool=>([(1002,bd 35 (C0 a0)),(1003,bd 35 (C0 a1))]:OL)) (fun m50 h E' O' hmat => ?_) (fun j51 hjj51 h => ?_)
    ·apply A0
     refine ghost hmat ?_
     apply AWp.cond rfl<;>intro hg52
     ·have h:=A3 hg52 h
      refine sr (SQ tt) ?_
      apply ret
      apply D3
      apply B5
      obtain rfl:=oi h
      exact⟨(fun hc=>by cases hc),rfl,(mp [] _ _ hB)⟩
     ·have h:=A4 hg52 h
      apply AWp.skip
      apply D2
      apply A0
      refine rg (SQ tt) ?_
      obtain rfl:=oi h
      exact⟨rfl,(mp [] _ _ hB)⟩
    ·obtain⟨x53,hx53,h⟩:=bindS h
     obtain⟨x54,hx54,h⟩:=bindS h
     rcases bft (x53.fSet != x54.fSet) with hg55 | hg55
     ·have h:=A3 hg55 h
      refine drS (SQ (fa hx53 (fa hx54 (fa hg55 tt)))) ?_
      exact hjj51 _ h _ _ (mp [] _ _ hB)
     ·have h:=A4 hg55 h
      obtain⟨x56,hx56,h⟩:=bindS h
      obtain⟨x57,hx57,h⟩:=bindS h
      obtain⟨r58,hr58,h⟩:=bindS h
      refine drS (SQ (fa hx53 (fa hx54 (fa hg55 (fa hx56 (fa hx57 (fa (cl [] (A7m x56.fASNs x57.fASNs r58 hr58)) tt))))))) ?_
      exact hjj51 _ h _ _ (mp [] _ _ hB)
   ·have h:=A4 hg41 h
    apply AWp.exit
    apply D6
    obtain rfl:=oi h
    exact⟨(fun hc=>by cases hc),rfl,(mp [] _ _ hB)⟩
  ·rcases x59 with _ | _
   ·obtain⟨rfl,hmat⟩:=hR
    apply D3
    apply B5
    obtain rfl:=oi h
    exact rt (Mat.trans hmat (mp [] [(4,(bo false))] [] hB)) [(bo false)] (rT rN) rfl
   ·obtain⟨rfl,hmat⟩:=hR
    apply C2
    apply A0
    refine ghost hmat ?_
    apply seq
    refine sr (SQ tt) ?_
    apply block
    obtain⟨x76,hx77,h⟩:=bindS h
    refine lg (M1 a0 a1) (fun s61:Int=>([(2,(pt 1002)),(3,(pt 1003)),(116,(i6 (a0.fCommunities.length:Int))),(117,(i6 s61))]:EL)) (fun s61:Int=>([(1002,bd 35 (C0 a0)),(1003,bd 35 (C0 a1))]:OL)) (fun(x:(Unit)⊕(Unit)) e E' O'=>match x with | (.inl _p)=>e = .ret∧Mat B E' O' ([(4,(bo false))]:EL) ([]:OL) | (.inr _p)=>e = .exit 2∧Mat B E' O' ([(2,(pt 1002)),(3,(pt 1003))]:EL) ([(1002,bd 35 (C0 a0)),(1003,bd 35 (C0 a1))]:OL)) hx77 (mp [] _ _ hB) (fun s61 y h => ?_) (fun e E' O' hR => ?_)
    ·unfold M1 at h
     refine sr (SQ tt) ?_
     apply seq
     apply AWp.cond rfl<;>intro hg72
     ·have h:=A3 hg72 h
      apply AWp.skip
      apply A0
      apply seq
      apply block
      refine sr (SQ tt) ?_
      obtain⟨_,hx73,h⟩:=bindS h
      obtain⟨_,hx74,h⟩:=bindS h
      refine sdS (SQ (fa hx73 (fa hx74 tt))) ?_
      apply AWp.cond rfl<;>intro hg75
      ·have h:=A3 hg75 h
       refine sr (SQ tt) ?_
       apply ret
       apply D3
       apply B5
       obtain rfl:=oi h
       exact⟨(fun hc=>by cases hc),rfl,(mp [] _ _ hB)⟩
      ·have h:=A4 hg75 h
       apply AWp.skip
       apply D2
       apply A0
       refine rg (SQ tt) ?_
       obtain rfl:=oi h
       exact⟨rfl,(mp [] _ _ hB)⟩
     ·have h:=A4 hg72 h
      apply AWp.exit
      apply D6
      obtain rfl:=oi h
      exact⟨(fun hc=>by cases hc),rfl,(mp [] _ _ hB)⟩
    ·rcases x76 with _ | _
     ·obtain⟨rfl,hmat⟩:=hR
      apply D3
      apply B5
      obtain rfl:=oi h
      exact rt (Mat.trans hmat (mp [] [(4,(bo false))] [] hB)) [(bo false)] (rT rN) rfl
     ·obtain⟨rfl,hmat⟩:=hR
      apply C2
      apply A0
      refine ghost hmat ?_
      apply seq
      refine sr (SQ tt) ?_
      apply block
      obtain⟨x93,hx94,h⟩:=bindS h
      refine lg (M2 a0 a1) (fun s78:Int=>([(2,(pt 1002)),(3,(pt 1003)),(134,(i6 (a0.fLarge.length:Int))),(135,(i6 s78))]:EL)) (fun s78:Int=>([(1002,bd 35 (C0 a0)),(1003,bd 35 (C0 a1))]:OL)) (fun(x:(Unit)⊕(Unit)) e E' O'=>match x with | (.inl _p)=>e = .ret∧Mat B E' O' ([(4,(bo false))]:EL) ([]:OL) | (.inr _p)=>e = .exit 4∧Mat B E' O' ([(2,(pt 1002)),(3,(pt 1003))]:EL) ([(1002,bd 35 (C0 a0)),(1003,bd 35 (C0 a1))]:OL)) hx94 (mp [] _ _ hB) (fun s78 y h => ?_) (fun e E' O' hR => ?_)
      ·unfold M2 at h
       refine sr (SQ tt) ?_
       apply seq
       apply AWp.cond rfl<;>intro hg89
       ·have h:=A3 hg89 h
        apply AWp.skip
        apply A0
        apply seq
        apply block
        refine sr (SQ tt) ?_
        obtain⟨_,hx90,h⟩:=bindS h
        obtain⟨_,hx91,h⟩:=bindS h
        refine sdS (SQ (fa hx90 (fa hx91 tt))) ?_
        apply AWp.cond rfl<;>intro hg92
        ·have h:=A3 hg92 h
         refine sr (SQ tt) ?_
         apply ret
         apply D3
         apply B5
         obtain rfl:=oi h
         exact⟨(fun hc=>by cases hc),rfl,(mp [] _ _ hB)⟩
        ·have h:=A4 hg92 h
         apply AWp.skip
         apply D2
         apply A0
         refine rg (SQ tt) ?_
         obtain rfl:=oi h
         exact⟨rfl,(mp [] _ _ hB)⟩
       ·have h:=A4 hg89 h
        apply AWp.exit
        apply D6
        obtain rfl:=oi h
        exact⟨(fun hc=>by cases hc),rfl,(mp [] _ _ hB)⟩
      ·rcases x93 with _ | _
       ·obtain⟨rfl,hmat⟩:=hR
        apply D3
        apply B5
        obtain rfl:=oi h
        exact rt (Mat.trans hmat (mp [] [(4,(bo false))] [] hB)) [(bo false)] (rT rN) rfl
       ·obtain⟨rfl,hmat⟩:=hR
        apply C2
        apply A0
        refine ghost hmat ?_
        apply seq
        refine sr (SQ tt) ?_
        apply block
        obtain⟨x164,hx165,h⟩:=bindS h
        refine lg (M9 a0 a1) (fun s95:Int=>([(2,(pt 1002)),(3,(pt 1003)),(152,(i6 (a0.fOther.length:Int))),(153,(i6 s95))]:EL)) (fun s95:Int=>([(1002,bd 35 (C0 a0)),(1003,bd 35 (C0 a1))]:OL)) (fun(x:(Unit)⊕(Unit)) e E' O'=>match x with | (.inl _p)=>e = .ret∧Mat B E' O' ([(4,(bo false))]:EL) ([]:OL) | (.inr _p)=>e = .exit 6∧Mat B E' O' ([]:EL) ([]:OL)) hx165 (mp [] _ _ hB) (fun s95 y h => ?_) (fun e E' O' hR => ?_)
        ·unfold M9 at h
         refine sr (SQ tt) ?_
         apply seq
         apply AWp.cond rfl<;>intro hg142
         ·have h:=A3 hg142 h
          apply AWp.skip
          apply A0
          apply seq
          apply block
          refine sr (SQ tt) ?_
          apply seq
          refine AWp.cut h (fun m153:Bool=>([(2,(pt 1002)),(3,(pt 1003)),(152,(i6 (a0.fOther.length:Int))),(153,(i6 s95)),(200,(bo m153))]:EL)) (fun m153:Bool=>([(1002,bd 35 (C0 a0)),(1003,bd 35 (C0 a1))]:OL)) (fun m153 h E' O' hmat => ?_) (fun j154 hjj154 h => ?_)
          ·apply A0
           refine ghost hmat ?_
           apply AWp.cond rfl<;>intro hg155
           ·have h:=A3 hg155 h
            refine sr (SQ tt) ?_
            apply ret
            apply D3
            apply B5
            obtain rfl:=oi h
            exact⟨(fun hc=>by cases hc),rfl,(mp [] _ _ hB)⟩
           ·have h:=A4 hg155 h
            apply AWp.skip
            apply D2
            apply A0
            refine rg (SQ tt) ?_
            obtain rfl:=oi h
            exact⟨rfl,(mp [] _ _ hB)⟩
          ·obtain⟨x156,hx156,h⟩:=bindS h
           obtain⟨x157,hx157,h⟩:=bindS h
           rcases bft (x156.fFlags != x157.fFlags) with hg158 | hg158
           ·have h:=A3 hg158 h
            refine drS (SQ (fa hx156 (fa hx157 (fa hg158 tt)))) ?_
            exact hjj154 _ h _ _ (mp [] _ _ hB)
           ·have h:=A4 hg158 h
            obtain⟨x159,hx159,h⟩:=bindS h
            obtain⟨x160,hx160,h⟩:=bindS h
            rcases bft (x159.fType != x160.fType) with hg161 | hg161
            ·have h:=A3 hg161 h
             refine drS (SQ (fa hx156 (fa hx157 (fa hg158 (fa hx159 (fa hx160 (fa hg161 tt))))))) ?_
             exact hjj154 _ h _ _ (mp [] _ _ hB)
            ·have h:=A4 hg161 h
             obtain⟨x162,hx162,h⟩:=bindS h
             obtain⟨x163,hx163,h⟩:=bindS h
             apply dr (c (fo 1002 10 [8] hN underlying35 10 tyS33 (q 2)) rfl (c (la hN 35 tyS33 (q 156)) rfl (c (mv hN (q 8)) rfl (c (indexD underlying33 tyS69 (F6 hx156).1 (N5 A9 (F6 hx156).2) (L rfl) (q 157) (q 158)) rfl (c (fieldD underlying69 (by rfl) (o:=0) (by rfl) tyS3 (by decide) (by rfl) (by rfl) (L rfl) (q 159)) rfl (c (loadD tyS3 (by rfl) (by rfl) (L rfl) (q 160)) rfl (c (fo 1003 10 [8] hN underlying35 10 tyS33 (q 3)) rfl (c (la hN 35 tyS33 (q 162)) rfl (c (mv hN (q 8)) rfl (c (indexD underlying33 tyS69 (F6 hx157).1 (N5 A9 (F6 hx157).2) (L rfl) (q 163) (q 164)) rfl (c (fieldD underlying69 (by rfl) (o:=0) (by rfl) tyS3 (by decide) (by rfl) (by rfl) (L rfl) (q 165)) rfl (c (loadD tyS3 (by rfl) (by rfl) (L rfl) (q 166)) rfl (c (neqI (L rfl) (q 161) (q 167)) rfl (c (OpJ.val (v':=.d (.bool false)) (by rw [hg158]<;>rfl) (mv hN (q 168))) rfl (c (gd 169 (fo 1002 10 [8] hN underlying35 10 tyS33 (q 2))) rfl (c (gd 169 (la hN 35 tyS33 (q 170))) rfl (c (gd 169 (mv hN (q 8))) rfl (c (gd 169 (indexD underlying33 tyS69 (F6 hx159).1 (N5 A9 (F6 hx159).2) (L rfl) (q 171) (q 172))) rfl (c (gd 169 (fieldD underlying69 (by rfl) (o:=1) (by rfl) tyS3 (by decide) (by rfl) (by rfl) (L rfl) (q 173))) rfl (c (gd 169 (loadD tyS3 (by rfl) (by rfl) (L rfl) (q 174))) rfl (c (gd 169 (fo 1003 10 [8] hN underlying35 10 tyS33 (q 3))) rfl (c (gd 169 (la hN 35 tyS33 (q 176))) rfl (c (gd 169 (mv hN (q 8))) rfl (c (gd 169 (indexD underlying33 tyS69 (F6 hx160).1 (N5 A9 (F6 hx160).2) (L rfl) (q 177) (q 178))) rfl (c (gd 169 (fieldD underlying69 (by rfl) (o:=1) (by rfl) tyS3 (by decide) (by rfl) (by rfl) (L rfl) (q 179))) rfl (c (gd 169 (loadD tyS3 (by rfl) (by rfl) (L rfl) (q 180))) rfl (c (gd 169 (neqI (L rfl) (q 175) (q 181))) rfl (c (pickF (L rfl) (q 169) (q 182)) rfl (c (OpJ.val (v':=.d (.bool false)) (by rw [hg161]<;>rfl) (mv hN (q 183))) rfl (c (gd 184 (fo 1002 10 [8] hN underlying35 10 tyS33 (q 2))) rfl (c (gd 184 (la hN 35 tyS33 (q 185))) rfl (c (gd 184 (mv hN (q 8))) rfl (c (gd 184 (indexD underlying33 tyS69 (F6 hx162).1 (N5 A9 (F6 hx162).2) (L rfl) (q 186) (q 187))) rfl (c (gd 184 (fieldD underlying69 (by rfl) (o:=2) (by rfl) tyS67 (by decide) (by rfl) (by rfl) (L rfl) (q 188))) rfl (c (gd 184 (loadD tyS67 (by rfl) (by rfl) (L rfl) (q 189))) rfl (cg (gd 184 (OpJ.bytesStr (xs:=x162.fData) tyU67 underlying5 underlying9 (L rfl) (q 190))) rfl (c (gd 184 (fo 1003 10 [8] hN underlying35 10 tyS33 (q 3))) rfl (c (gd 184 (la hN 35 tyS33 (q 192))) rfl (c (gd 184 (mv hN (q 8))) rfl (c (gd 184 (indexD underlying33 tyS69 (F6 hx163).1 (N5 A9 (F6 hx163).2) (L rfl) (q 193) (q 194))) rfl (c (gd 184 (fieldD underlying69 (by rfl) (o:=2) (by rfl) tyS67 (by decide) (by rfl) (by rfl) (L rfl) (q 195))) rfl (c (gd 184 (loadD tyS67 (by rfl) (by rfl) (L rfl) (q 196))) rfl (cg (gd 184 (OpJ.bytesStr (xs:=x163.fData) tyU67 underlying5 underlying9 (L rfl) (q 197))) rfl (cg (gd 184 (OpJ.neqS (L rfl) (q 191) (q 198))) rfl (c (pickF (L rfl) (q 184) (q 199)) rfl cn))))))))))))))))))))))))))))))))))))))))))))) (by kernel_rfl) (by kernel_rfl)
             exact hjj154 _ h _ _ (mp [] _ _ hB)
         ·have h:=A4 hg142 h
          apply AWp.exit
          apply D6
          obtain rfl:=oi h
          exact⟨(fun hc=>by cases hc),rfl,(mp [] _ _ hB)⟩
        ·rcases x164 with _ | _
         ·obtain⟨rfl,hmat⟩:=hR
          apply D3
          apply B5
          obtain rfl:=oi h
          exact rt (Mat.trans hmat (mp [] [(4,(bo false))] [] hB)) [(bo false)] (rT rN) rfl
         ·obtain⟨rfl,hmat⟩:=hR
          apply C2
          apply A0
          refine ghost hmat ?_
          refine sr (SQ tt) ?_
          apply ret
          obtain rfl:=oi h
          exact rt (kp [(4,_)] [] hB rfl rfl (by rfl)) [(bo true)] (rT rN) rfl
def K4 (a0:C7) (a1:C7):Option (Bool) :=
 jn (fun m3:Bool =>
 some m3) (fun j4 =>
 (if ((((a0.fPrefix.fAddr.fV6==a1.fPrefix.fAddr.fV6)&&((a0.fPrefix.fAddr.fHi==a1.fPrefix.fAddr.fHi)&&((a0.fPrefix.fAddr.fLo==a1.fPrefix.fAddr.fLo)&&true)))&&((a0.fPrefix.fLen==a1.fPrefix.fLen)&&true))&&(a0.fFrom==a1.fFrom))=true then
 (J0 a0.fAttrs a1.fAttrs).bind fun r6 =>
 j4 r6
 else
 j4 false))
theorem A3t (a0:C7) (a1:C7) (r:Bool) (h:K4 a0 a1=some r):AC Tryz.prog 19 [(.d (G4 a0)),(.d (G4 a1))] [] (.d (.bool r)) []:=by
 refine ac2 Tryz.func19 rfl rfl fun B hB hN L => ?_
 delta K4 at h
 refine sr (SQ tt) ?_
 apply seq
 refine AWp.cut h (fun m3:Bool=>([(4,(bo m3))]:EL)) (fun m3:Bool=>([]:OL)) (fun m3 h E' O' hmat => ?_) (fun j4 hjj4 h => ?_)
 ·apply A0
  refine ghost hmat ?_
  apply ret
  obtain rfl:=oi h
  exact rt (kp [(4,_)] [] hB rfl rfl (by rfl)) [(bo m3)] (rT rN) rfl
 ·rcases bft ((((a0.fPrefix.fAddr.fV6==a1.fPrefix.fAddr.fV6)&&((a0.fPrefix.fAddr.fHi==a1.fPrefix.fAddr.fHi)&&((a0.fPrefix.fAddr.fLo==a1.fPrefix.fAddr.fLo)&&true)))&&((a0.fPrefix.fLen==a1.fPrefix.fLen)&&true))&&(a0.fFrom==a1.fFrom)) with hg5 | hg5
  ·have h:=A3 hg5 h
   obtain⟨r6,hr6,h⟩:=bindS h
   refine rg (SQ (fa hg5 (fa (cl [] (A1e a0.fAttrs a1.fAttrs r6 hr6)) tt))) ?_
   exact hjj4 _ h _ _ (mp [] _ _ hB)
  ·have h:=A4 hg5 h
   refine rg (SQ (fa hg5 tt)) ?_
   exact hjj4 _ h _ _ (mp [] _ _ hB)
def R7 (a0:B2) (s1:Int×(List A8)):Option ((((List A8)))⊕(Int×(List A8))) :=
 (if (decide (s1.1<(a0.fPath.length:Int)))=true then
 (idx a0.fPath s1.1).bind fun x13 =>
 chk (decide (x13.fASNs.length≤LIM)) <|
 chk (decide ((s1.2++[(A8.mk x13.fSet x13.fASNs)]).length≤LIM)) <|
 some (.inr ((w64 (s1.1+1)),(s1.2++[(A8.mk x13.fSet x13.fASNs)])))
 else
 some (.inl s1.2))
def R8 (a0:B2) (s20:Int×(List A1)):Option ((((List A1)))⊕(Int×(List A1))) :=
 (if (decide (s20.1<(a0.fOther.length:Int)))=true then
 (idx a0.fOther s20.1).bind fun x32 =>
 chk (decide (x32.fData.length≤LIM)) <|
 chk (decide ((s20.2++[(A1.mk x32.fFlags x32.fType x32.fData)]).length≤LIM)) <|
 some (.inr ((w64 (s20.1+1)),(s20.2++[(A1.mk x32.fFlags x32.fType x32.fData)])))
 else
 some (.inl s20.2))
def P1 (a0:B2):Option (B2) :=
 (loop (R7 a0) (0,([]:List A8))).bind fun p11 =>
 chk (decide (a0.fCommunities.length≤LIM)) <|
 chk (decide (a0.fLarge.length≤LIM)) <|
 (loop (R8 a0) (0,([]:List A1))).bind fun p30 =>
 some (B2.mk a0.fOrigin p11 a0.fNext a0.fMED a0.fPref a0.fOTC a0.fCommunities a0.fLarge p30)
theorem A1f (a0:B2) (r:B2) (h:P1 a0=some r):AC Tryz.prog 37 [(.d (C0 a0))] [] (.d (C0 r)) []:=by
 refine ac2 Tryz.func37 rfl rfl fun B hB hN L => ?_
 delta P1 at h
 refine sr (SQ tt) ?_
 refine sr (SQ tt) ?_
 refine sr (SQ tt) ?_
 apply seq
 refine sr (SQ tt) ?_
 apply block
 obtain⟨p11,hx17,h⟩:=bindS h
 refine lg (R7 a0) (fun s1:Int×(List A8)=>([(1,(pt 1001)),(2,(pt 1002)),(3,(pt 1003)),(12,(B9 a0.fPath)),(13,(i6 (a0.fPath.length:Int))),(14,(i6 s1.1))]:EL)) (fun s1:Int×(List A8)=>([(1001,bd 35 (C0 a0)),(1002,some (.box 35 (.st [(i6 0),.nils,(.d (.st [(.bool false),(.int .u64 0),(.int .u64 0)])),(i6 0),(i6 0),(i6 0),.nils,.nils,.nils]))),(1003,some (.box 35 (.st [(i6 a0.fOrigin),(.sref 13031 2 0 s1.2.length),(.d (D1 a0.fNext)),(i6 a0.fMED),(i6 a0.fPref),(i6 a0.fOTC),(C1 a0.fCommunities),(D7 a0.fLarge),.nils]))),(13031,some (J8 s1.2))]:OL)) (fun(p11:((List A8))) e E' O'=>e = .exit 0∧Mat B E' O' ([(1,(pt 1001)),(2,(pt 1002)),(3,(pt 1003))]:EL) ([(1001,bd 35 (C0 a0)),(1002,some (.box 35 (.st [(i6 0),.nils,(.d (.st [(.bool false),(.int .u64 0),(.int .u64 0)])),(i6 0),(i6 0),(i6 0),.nils,.nils,.nils]))),(1003,some (.box 35 (.st [(i6 a0.fOrigin),(.sref 13031 2 0 p11.length),(.d (D1 a0.fNext)),(i6 a0.fMED),(i6 a0.fPref),(i6 a0.fOTC),(C1 a0.fCommunities),(D7 a0.fLarge),.nils]))),(13031,some (J8 p11))]:OL)) hx17 (Mat.trans (Mat.beginP (n:=13031) (e:=66) (sz:=2) (Ts:=[]) (Bs:=[(1003,some (.box 35 (.st [(i6 a0.fOrigin),(.sref 13031 2 0 0),(.d (D1 a0.fNext)),(i6 a0.fMED),(i6 a0.fPref),(i6 a0.fOTC),(C1 a0.fCommunities),(D7 a0.fLarge),.nils])))]) hB (by decide) (by rfl) (by decide) TwT.nil (TwB.cons (x:=(.st [(i6 a0.fOrigin),.nils,(.d (D1 a0.fNext)),(i6 a0.fMED),(i6 a0.fPref),(i6 a0.fOTC),(C1 a0.fCommunities),(D7 a0.fLarge),.nils])) (by rfl) (Tw.st (TwL.cons (Tw.same _) (TwL.cons (Tw.leaf ⟨rfl,rfl⟩) (TwL.cons (Tw.same _) (TwL.cons (Tw.same _) (TwL.cons (Tw.same _) (TwL.cons (Tw.same _) (TwL.cons (Tw.same _) (TwL.cons (Tw.same _) (TwL.cons (Tw.same _) TwL.nil)))))))))) TwB.nil)) (mp [] _ _ hB)) (fun s1 y h => ?_) (fun e E' O' hR => ?_)
 ·unfold R7 at h
  refine sr (SQ tt) ?_
  apply seq
  apply AWp.cond rfl<;>intro hg12
  ·have h:=A3 hg12 h
   apply AWp.skip
   apply A0
   apply seq
   apply block
   obtain⟨x13,hx13,h⟩:=bindS h
   refine sr (SQ (fa hx13 tt)) ?_
   obtain⟨hc14,h⟩:=B3 h
   obtain⟨hc15,h⟩:=B3 h
   apply dr (c (fo 1003 1 [1] hN underlying35 1 tyS30 (q 3)) rfl (c (lb hN 35 _ (.sref 13031 2 0 s1.2.length) tyS30 (At.st1 (f:=(.sref 13031 2 0 s1.2.length)) (by rfl) (by rfl) (At.here _) (by first | rfl | omega)) (q 18)) rfl (c (fo 1005 0 [0] hN underlying66 0 tyS4 (q 5)) rfl (c (la hN 66 tyS4 (q 20)) rfl (c (fo 1005 1 [1] hN underlying66 1 tyS23 (q 5)) rfl (c (la hN 66 tyS23 (q 22)) rfl (cg (OpJ.frz (OpJ.appendN hB underlying23 tyE3 (nm:=1024) (by decide) (ys:=x13.fASNs.map (eI .i64)) (len:=x13.fASNs.length) (by simp) (A4y (f:=(eI .i64)) (fun _=>rfl)) (by rw [List.length_map];exact A0l hc14 (by decide)) (by rw [List.length_map];exact A33 hc14) (L rfl) Opd.nils (q 23)) (by simp)) rfl (c (OpJ.coe (v:=(.st [(bo x13.fSet),(qI_1 x13.fASNs)])) (y:=(.st [(.bool x13.fSet),(.list 1 (x13.fASNs.map (eI .i64)))])) (Co.st (CoL.cons (Co.d _) (CoL.cons (Co.d _) CoL.nil))) rfl (OpJ.build (places:=[(0,1),(1,1)]) ⟨underlying66,fun w=>by kernel_rfl⟩ tyZS66 (Opds.cons (q 21) (Opds.cons (q 24) Opds.nil)) (by kernel_rfl) (r:=(.st [(bo x13.fSet),(qI_1 x13.fASNs)])) (by rfl) (L rfl))) rfl (c (buildSlice underlying30 tyS66 tyZD66 (by rfl) (by decide) (by decide) (Opds.cons (q 25) Opds.nil) (by kernel_rfl) (es:=([(.st [(.bool x13.fSet),(.list 1 (x13.fASNs.map (eI .i64)))])]:List D)) (by rfl) (by rfl) (by kernel_rfl) (by simp) (L rfl)) rfl (cg (apd hB underlying30 tyE66 1027 C3 s1.2 [(A8.mk x13.fSet x13.fASNs)] hc15 (L rfl) (q 19) (q 26)) rfl (c (fo 1003 1 [1] hN underlying35 1 tyS30 (q 3)) rfl (cg (OpJ.storeB (c':=(.st [(i6 a0.fOrigin),(.sref 1027 2 0 ((s1.2++[(A8.mk x13.fSet x13.fASNs)]).length)),(.d (D1 a0.fNext)),(i6 a0.fMED),(i6 a0.fPref),(i6 a0.fOTC),(C1 a0.fCommunities),(D7 a0.fLarge),.nils])) tyS30 (SetAt.st1 (f:=(.sref 13031 2 0 s1.2.length)) (by rfl) (by rfl) (SetAt.here _ _) (by rfl) (by rfl) (by first | rfl | omega)) (by rfl) (by rfl) (by simp) rfl (q 28) (q 27)) rfl cn)))))))))))) (by kernel_rfl) (by kernel_rfl)
   apply D2
   apply A0
   refine rg (SQ tt) ?_
   obtain rfl:=oi h
   exact⟨rfl,(mp [(13031,1027)] _ _ hB)⟩
  ·have h:=A4 hg12 h
   apply AWp.exit
   apply D6
   obtain rfl:=oi h
   exact⟨(fun hc=>by cases hc),rfl,(mp [] _ _ hB)⟩
 ·obtain⟨rfl,hmat⟩:=hR
  apply C2
  apply A0
  refine ghost hmat ?_
  obtain⟨hc18,h⟩:=B3 h
  refine sr (SQ (fa hc18 tt)) ?_
  obtain⟨hc19,h⟩:=B3 h
  refine sr (SQ (fa hc19 tt)) ?_
  apply seq
  refine sr (SQ tt) ?_
  apply block
  obtain⟨p30,hx36,h⟩:=bindS h
  refine lg (R8 a0) (fun s20:Int×(List A1)=>([(2,(pt 1002)),(3,(pt 1003)),(39,(B7 a0.fOther)),(40,(i6 (a0.fOther.length:Int))),(41,(i6 s20.1))]:EL)) (fun s20:Int×(List A1)=>([(1002,some (.box 35 (.st [(i6 0),.nils,(.d (.st [(.bool false),(.int .u64 0),(.int .u64 0)])),(i6 0),(i6 0),(i6 0),.nils,.nils,.nils]))),(1003,some (.box 35 (.st [(i6 a0.fOrigin),(.sref 13031 2 0 p11.length),(.d (D1 a0.fNext)),(i6 a0.fMED),(i6 a0.fPref),(i6 a0.fOTC),(.sref 1032 2 0 a0.fCommunities.length),(.sref 1036 3 0 a0.fLarge.length),(.sref 13038 3 0 s20.2.length)]))),(1032,some (A43 a0.fCommunities)),(1036,some (A5y a0.fLarge)),(13031,some (J8 p11)),(13038,some (C9 s20.2))]:OL)) (fun(p30:((List A1))) e E' O'=>e = .exit 2∧Mat B E' O' ([(2,(pt 1002)),(3,(pt 1003))]:EL) ([(1002,some (.box 35 (.st [(i6 0),.nils,(.d (.st [(.bool false),(.int .u64 0),(.int .u64 0)])),(i6 0),(i6 0),(i6 0),.nils,.nils,.nils]))),(1003,some (.box 35 (.st [(i6 a0.fOrigin),(.sref 13031 2 0 p11.length),(.d (D1 a0.fNext)),(i6 a0.fMED),(i6 a0.fPref),(i6 a0.fOTC),(.sref 1032 2 0 a0.fCommunities.length),(.sref 1036 3 0 a0.fLarge.length),(.sref 13038 3 0 p30.length)]))),(1032,some (A43 a0.fCommunities)),(1036,some (A5y a0.fLarge)),(13031,some (J8 p11)),(13038,some (C9 p30))]:OL)) hx36 (Mat.trans (Mat.beginP (n:=13038) (e:=69) (sz:=3) (Ts:=[]) (Bs:=[(1003,some (.box 35 (.st [(i6 a0.fOrigin),(.sref 13031 2 0 p11.length),(.d (D1 a0.fNext)),(i6 a0.fMED),(i6 a0.fPref),(i6 a0.fOTC),(.sref 1032 2 0 a0.fCommunities.length),(.sref 1036 3 0 a0.fLarge.length),(.sref 13038 3 0 0)])))]) hB (by decide) (by rfl) (by decide) TwT.nil (TwB.cons (x:=(.st [(i6 a0.fOrigin),(.sref 13031 2 0 p11.length),(.d (D1 a0.fNext)),(i6 a0.fMED),(i6 a0.fPref),(i6 a0.fOTC),(.sref 1032 2 0 a0.fCommunities.length),(.sref 1036 3 0 a0.fLarge.length),.nils])) (by rfl) (Tw.st (TwL.cons (Tw.same _) (TwL.cons (Tw.same _) (TwL.cons (Tw.same _) (TwL.cons (Tw.same _) (TwL.cons (Tw.same _) (TwL.cons (Tw.same _) (TwL.cons (Tw.same _) (TwL.cons (Tw.same _) (TwL.cons (Tw.leaf ⟨rfl,rfl⟩) TwL.nil)))))))))) TwB.nil)) (mp [] _ _ hB)) (fun s20 y h => ?_) (fun e E' O' hR => ?_)
  ·unfold R8 at h
   refine sr (SQ tt) ?_
   apply seq
   apply AWp.cond rfl<;>intro hg31
   ·have h:=A3 hg31 h
    apply AWp.skip
    apply A0
    apply seq
    apply block
    obtain⟨x32,hx32,h⟩:=bindS h
    refine sr (SQ (fa hx32 tt)) ?_
    obtain⟨hc33,h⟩:=B3 h
    obtain⟨hc34,h⟩:=B3 h
    apply dr (c (fo 1003 10 [8] hN underlying35 10 tyS33 (q 3)) rfl (c (lb hN 35 _ (.sref 13038 3 0 s20.2.length) tyS33 (At.st1 (f:=(.sref 13038 3 0 s20.2.length)) (by rfl) (by rfl) (At.here _) (by first | rfl | omega)) (q 45)) rfl (c (fo 1007 0 [0] hN underlying69 0 tyS3 (q 7)) rfl (c (la hN 69 tyS3 (q 47)) rfl (c (fo 1007 1 [1] hN underlying69 1 tyS3 (q 7)) rfl (c (la hN 69 tyS3 (q 49)) rfl (c (fo 1007 2 [2] hN underlying69 2 tyS67 (q 7)) rfl (c (la hN 69 tyS67 (q 51)) rfl (cg (OpJ.frz (OpJ.appendN hB underlying67 tyE5 (nm:=1053) (by decide) (ys:=x32.fData.map (eI .u8)) (len:=x32.fData.length) (by simp) (A4y (f:=(eI .u8)) (fun _=>rfl)) (by rw [List.length_map];exact A0l hc33 (by decide)) (by rw [List.length_map];exact A33 hc33) (L rfl) Opd.nils (q 52)) (by simp)) rfl (c (OpJ.coe (v:=(.st [(i6 x32.fFlags),(i6 x32.fType),(.d (.list 1 (x32.fData.map (eI .u8))))])) (y:=(.st [(.int .i64 x32.fFlags),(.int .i64 x32.fType),(.list 1 (x32.fData.map (eI .u8)))])) (Co.st (CoL.cons (Co.d _) (CoL.cons (Co.d _) (CoL.cons (Co.d _) CoL.nil)))) rfl (OpJ.build (places:=[(0,1),(1,1),(2,1)]) ⟨underlying69,fun w=>by kernel_rfl⟩ tyZS69 (Opds.cons (q 48) (Opds.cons (q 50) (Opds.cons (q 53) Opds.nil))) (by kernel_rfl) (r:=(.st [(i6 x32.fFlags),(i6 x32.fType),(.d (.list 1 (x32.fData.map (eI .u8))))])) (by rfl) (L rfl))) rfl (c (buildSlice underlying33 tyS69 tyZD69 (by rfl) (by decide) (by decide) (Opds.cons (q 54) Opds.nil) (by kernel_rfl) (es:=([(.st [(.int .i64 x32.fFlags),(.int .i64 x32.fType),(.list 1 (x32.fData.map (eI .u8)))])]:List D)) (by rfl) (by rfl) (by kernel_rfl) (by simp) (L rfl)) rfl (cg (apd hB underlying33 tyE69 1056 A9 s20.2 [(A1.mk x32.fFlags x32.fType x32.fData)] hc34 (L rfl) (q 46) (q 55)) rfl (c (fo 1003 10 [8] hN underlying35 10 tyS33 (q 3)) rfl (cg (OpJ.storeB (c':=(.st [(i6 a0.fOrigin),(.sref 13031 2 0 p11.length),(.d (D1 a0.fNext)),(i6 a0.fMED),(i6 a0.fPref),(i6 a0.fOTC),(.sref 1032 2 0 a0.fCommunities.length),(.sref 1036 3 0 a0.fLarge.length),(.sref 1056 3 0 ((s20.2++[(A1.mk x32.fFlags x32.fType x32.fData)]).length))])) tyS33 (SetAt.st1 (f:=(.sref 13038 3 0 s20.2.length)) (by rfl) (by rfl) (SetAt.here _ _) (by rfl) (by rfl) (by first | rfl | omega)) (by rfl) (by rfl) (by simp) rfl (q 57) (q 56)) rfl cn)))))))))))))) (by kernel_rfl) (by kernel_rfl)
    apply D2
    apply A0
    refine rg (SQ tt) ?_
    obtain rfl:=oi h
    exact⟨rfl,(mp [(13038,1056)] _ _ hB)⟩
   ·have h:=A4 hg31 h
    apply AWp.exit
    apply D6
    obtain rfl:=oi h
    exact⟨(fun hc=>by cases hc),rfl,(mp [] _ _ hB)⟩
  ·obtain⟨rfl,hmat⟩:=hR
   apply C2
   apply A0
   refine ghost hmat ?_
   refine sr (SQ tt) ?_
   apply ret
   obtain rfl:=oi h
   exact rt (Mat.trans (Mat.freezeP (n:=13031) (e:=66) (sz:=2) (es:=p11.map C3) (Ts:=[]) (Bs:=[(1002,some (.box 35 (.st [(i6 a0.fOrigin),(B9 p11),(.d (D1 a0.fNext)),(i6 a0.fMED),(i6 a0.fPref),(i6 a0.fOTC),(.sref 1032 2 0 a0.fCommunities.length),(.sref 1036 3 0 a0.fLarge.length),(.sref 13038 3 0 p30.length)])))]) (by rfl) TwT.nil (TwB.cons (x:=(.st [(i6 a0.fOrigin),(.sref 13031 2 0 p11.length),(.d (D1 a0.fNext)),(i6 a0.fMED),(i6 a0.fPref),(i6 a0.fOTC),(.sref 1032 2 0 a0.fCommunities.length),(.sref 1036 3 0 a0.fLarge.length),(.sref 13038 3 0 p30.length)])) (by rfl) (Tw.st (TwL.cons (Tw.same _) (TwL.cons (FrzL.all (by first | rfl | (simp;done) | (simp;omega) | omega)) (TwL.cons (Tw.same _) (TwL.cons (Tw.same _) (TwL.cons (Tw.same _) (TwL.cons (Tw.same _) (TwL.cons (Tw.same _) (TwL.cons (Tw.same _) (TwL.cons (Tw.same _) TwL.nil)))))))))) TwB.nil)) (Mat.trans (Mat.freezeP (n:=1032) (e:=98) (sz:=2) (es:=a0.fCommunities.map B6) (Ts:=[]) (Bs:=[(1002,some (.box 35 (.st [(i6 a0.fOrigin),(B9 p11),(.d (D1 a0.fNext)),(i6 a0.fMED),(i6 a0.fPref),(i6 a0.fOTC),(C1 a0.fCommunities),(.sref 1036 3 0 a0.fLarge.length),(.sref 13038 3 0 p30.length)])))]) (by rfl) TwT.nil (TwB.cons (x:=(.st [(i6 a0.fOrigin),(B9 p11),(.d (D1 a0.fNext)),(i6 a0.fMED),(i6 a0.fPref),(i6 a0.fOTC),(.sref 1032 2 0 a0.fCommunities.length),(.sref 1036 3 0 a0.fLarge.length),(.sref 13038 3 0 p30.length)])) (by rfl) (Tw.st (TwL.cons (Tw.same _) (TwL.cons (Tw.same _) (TwL.cons (Tw.same _) (TwL.cons (Tw.same _) (TwL.cons (Tw.same _) (TwL.cons (Tw.same _) (TwL.cons (FrzL.all (by first | rfl | (simp;done) | (simp;omega) | omega)) (TwL.cons (Tw.same _) (TwL.cons (Tw.same _) TwL.nil)))))))))) TwB.nil)) (Mat.trans (Mat.freezeP (n:=1036) (e:=100) (sz:=3) (es:=a0.fLarge.map D8) (Ts:=[]) (Bs:=[(1002,some (.box 35 (.st [(i6 a0.fOrigin),(B9 p11),(.d (D1 a0.fNext)),(i6 a0.fMED),(i6 a0.fPref),(i6 a0.fOTC),(C1 a0.fCommunities),(D7 a0.fLarge),(.sref 13038 3 0 p30.length)])))]) (by rfl) TwT.nil (TwB.cons (x:=(.st [(i6 a0.fOrigin),(B9 p11),(.d (D1 a0.fNext)),(i6 a0.fMED),(i6 a0.fPref),(i6 a0.fOTC),(C1 a0.fCommunities),(.sref 1036 3 0 a0.fLarge.length),(.sref 13038 3 0 p30.length)])) (by rfl) (Tw.st (TwL.cons (Tw.same _) (TwL.cons (Tw.same _) (TwL.cons (Tw.same _) (TwL.cons (Tw.same _) (TwL.cons (Tw.same _) (TwL.cons (Tw.same _) (TwL.cons (Tw.same _) (TwL.cons (FrzL.all (by first | rfl | (simp;done) | (simp;omega) | omega)) (TwL.cons (Tw.same _) TwL.nil)))))))))) TwB.nil)) (Mat.trans (Mat.freezeP (n:=13038) (e:=69) (sz:=3) (es:=p30.map A9) (Ts:=[]) (Bs:=[(1002,some (.box 35 (.st [(i6 a0.fOrigin),(B9 p11),(.d (D1 a0.fNext)),(i6 a0.fMED),(i6 a0.fPref),(i6 a0.fOTC),(C1 a0.fCommunities),(D7 a0.fLarge),(B7 p30)])))]) (by rfl) TwT.nil (TwB.cons (x:=(.st [(i6 a0.fOrigin),(B9 p11),(.d (D1 a0.fNext)),(i6 a0.fMED),(i6 a0.fPref),(i6 a0.fOTC),(C1 a0.fCommunities),(D7 a0.fLarge),(.sref 13038 3 0 p30.length)])) (by rfl) (Tw.st (TwL.cons (Tw.same _) (TwL.cons (Tw.same _) (TwL.cons (Tw.same _) (TwL.cons (Tw.same _) (TwL.cons (Tw.same _) (TwL.cons (Tw.same _) (TwL.cons (Tw.same _) (TwL.cons (Tw.same _) (TwL.cons (FrzL.all (by first | rfl | (simp;done) | (simp;omega) | omega)) TwL.nil)))))))))) TwB.nil)) (Mat.trans (Mat.coeP (Ts:=[]) (Bs:=[(1002,bd 35 (.st [(.int .i64 a0.fOrigin),(.list 2 (p11.map C3)),(D1 a0.fNext),(.int .i64 a0.fMED),(.int .i64 a0.fPref),(.int .i64 a0.fOTC),(.list 2 (a0.fCommunities.map B6)),(.list 3 (a0.fLarge.map D8)),(.list 3 (p30.map A9))]))]) TwT.nil (TwB.cons (x:=(.st [(i6 a0.fOrigin),(B9 p11),(.d (D1 a0.fNext)),(i6 a0.fMED),(i6 a0.fPref),(i6 a0.fOTC),(C1 a0.fCommunities),(D7 a0.fLarge),(B7 p30)])) (by rfl) (Tw.leaf ⟨_,(Co.st (CoL.cons (Co.d _) (CoL.cons (Co.d _) (CoL.cons (Co.d _) (CoL.cons (Co.d _) (CoL.cons (Co.d _) (CoL.cons (Co.d _) (CoL.cons (Co.d _) (CoL.cons (Co.d _) (CoL.cons (Co.d _) CoL.nil)))))))))),rfl⟩) TwB.nil)) (mp [] [(2,(pt 1002))] [(1002,bd 35 (.st [(.int .i64 a0.fOrigin),(.list 2 (p11.map C3)),(D1 a0.fNext),(.int .i64 a0.fMED),(.int .i64 a0.fPref),(.int .i64 a0.fOTC),(.list 2 (a0.fCommunities.map B6)),(.list 3 (a0.fLarge.map D8)),(.list 3 (p30.map A9))]))] hB)))))) [(.d (.st [(.int .i64 a0.fOrigin),(.list 2 (p11.map C3)),(D1 a0.fNext),(.int .i64 a0.fMED),(.int .i64 a0.fPref),(.int .i64 a0.fOTC),(.list 2 (a0.fCommunities.map B6)),(.list 3 (a0.fLarge.map D8)),(.list 3 (p30.map A9))]))] (Res.cell (c:=(.d (.st [(.int .i64 a0.fOrigin),(.list 2 (p11.map C3)),(D1 a0.fNext),(.int .i64 a0.fMED),(.int .i64 a0.fPref),(.int .i64 a0.fOTC),(.list 2 (a0.fCommunities.map B6)),(.list 3 (a0.fLarge.map D8)),(.list 3 (p30.map A9))]))) (by rfl) (by rfl) tyS35 (by rfl) (by rfl) (by rfl) rN) rfl
def Q1 (a0:(List C7)) (s1:Int×(List C7)):Option ((((List C7)))⊕(Int×(List C7))) :=
 (if (decide (s1.1<(a0.length:Int)))=true then
 (idx a0 s1.1).bind fun x12 =>
 (P1 x12.fAttrs).bind fun r13 =>
 chk (decide ((s1.2++[(C7.mk x12.fPrefix x12.fFrom r13)]).length≤LIM)) <|
 some (.inr ((w64 (s1.1+1)),(s1.2++[(C7.mk x12.fPrefix x12.fFrom r13)])))
 else
 some (.inl s1.2))
def V9 (a0:(List C7)):Option ((List C7)) :=
 (loop (Q1 a0) (0,([]:List C7))).bind fun p10 =>
 some p10
theorem A6w (a0:(List C7)) (r:(List C7)) (h:V9 a0=some r):AC Tryz.prog 50 [(.d (.list 16 (a0.map G4)))] [] (.d (.list 16 (r.map G4))) []:=by
 refine ac2 Tryz.func50 rfl rfl fun B hB hN L => ?_
 delta V9 at h
 refine sr (SQ tt) ?_
 refine sr (SQ tt) ?_
 apply seq
 refine sr (SQ tt) ?_
 apply block
 obtain⟨p10,hx16,h⟩:=bindS h
 refine lg (Q1 a0) (fun s1:Int×(List C7)=>([(3,(.sref 3003 16 0 s1.2.length)),(6,(H3 a0)),(7,(i6 (a0.length:Int))),(8,(i6 s1.1))]:EL)) (fun s1:Int×(List C7)=>([(3003,some (F4 s1.2))]:OL)) (fun(p10:((List C7))) e E' O'=>e = .exit 0∧Mat B E' O' ([(3,(.sref 3003 16 0 p10.length))]:EL) ([(3003,some (F4 p10))]:OL)) hx16 (Mat.trans (Mat.beginP (n:=3003) (e:=37) (sz:=16) (Ts:=[(3,(.sref 3003 16 0 0))]) (Bs:=[]) hB (by decide) (by rfl) (by decide) (TwT.cons (x:=.nils) (by rfl) (Tw.leaf ⟨rfl,rfl⟩) TwT.nil) TwB.nil) (mp [] _ _ hB)) (fun s1 y h => ?_) (fun e E' O' hR => ?_)
 ·unfold Q1 at h
  refine sr (SQ tt) ?_
  apply seq
  apply AWp.cond rfl<;>intro hg11
  ·have h:=A3 hg11 h
   apply AWp.skip
   apply A0
   apply seq
   apply block
   obtain⟨x12,hx12,h⟩:=bindS h
   refine sr (SQ (fa hx12 tt)) ?_
   obtain⟨r13,hr13,h⟩:=bindS h
   obtain⟨hc14,h⟩:=B3 h
   refine drS (SQ (fa (cl [] (A1f x12.fAttrs r13 hr13)) (fa hc14 tt))) ?_
   apply D2
   apply A0
   refine rg (SQ tt) ?_
   obtain rfl:=oi h
   exact⟨rfl,(mp [(3003,1022)] _ _ hB)⟩
  ·have h:=A4 hg11 h
   apply AWp.exit
   apply D6
   obtain rfl:=oi h
   exact⟨(fun hc=>by cases hc),rfl,(mp [] _ _ hB)⟩
 ·obtain⟨rfl,hmat⟩:=hR
  apply C2
  apply A0
  refine ghost hmat ?_
  refine sr (SQ tt) ?_
  apply ret
  obtain rfl:=oi h
  exact rt (Mat.trans (Mat.freezeP (n:=3003) (e:=37) (sz:=16) (es:=p10.map G4) (Ts:=[(2,(H3 p10))]) (Bs:=[]) (by rfl) (TwT.cons (x:=(.sref 3003 16 0 p10.length)) (by rfl) (FrzL.all (by first | rfl | (simp;done) | (simp;omega) | omega)) TwT.nil) TwB.nil) (mp [] [(2,(H3 p10))] [] hB)) [(H3 p10)] (rT rN) rfl
def A0x (a0:Int) (a1:(List C7)) (a2:(List C7)) (r1:(List A2)) (s2:Int×(List A5)):Option ((((List A5)))⊕(Int×(List A5))) :=
 (if (decide (s2.1<(r1.length:Int)))=true then
 jn (fun m106:(List A5) =>
 some (.inr ((w64 (s2.1+1)),m106))) (fun j107 =>
 (idx r1 s2.1).bind fun x108 =>
 (A20 a1 x108).bind fun r109 =>
 (A20 a2 x108).bind fun r110 =>
 jn (fun m113:Bool =>
 (if m113=true then
 j107 s2.2
 else
 jn (fun m119:C7 =>
 chk (decide ((s2.2++[(A5.mk a0 x108 r110.2 m119)]).length≤LIM)) <|
 j107 (s2.2++[(A5.mk a0 x108 r110.2 m119)])) (fun j120 =>
 (if r110.2=true then
 (V9 [r110.1]).bind fun r123 =>
 (idx r123 0).bind fun x124 =>
 j120 x124
 else
 j120 (C7.mk (A2.mk (D4.mk false 0 0) 0) 0 (B2.mk 0 ([]:List A8) (D4.mk false 0 0) 0 0 0 ([]:List B0) ([]:List D5) ([]:List A1))))))) (fun j114 =>
 (if (r109.2==r110.2)=true then
 (K4 r109.1 r110.1).bind fun r126 =>
 j114 r126
 else
 j114 false)))
 else
 some (.inl s2.2))
def A3c (a0:Int) (a1:(List C7)) (a2:(List C7)):Option ((List A5)) :=
 (A1l a1 a2).bind fun r1 =>
 (loop (A0x a0 a1 a2 r1) (0,([]:List A5))).bind fun p85 =>
 some p85
theorem B0j (a0:Int) (a1:(List C7)) (a2:(List C7)) (r:(List A5)) (h:A3c a0 a1 a2=some r):AC Tryz.prog 27 [(.d (.int .i64 a0)),(.d (.list 16 (a1.map G4))),(.d (.list 16 (a2.map G4)))] [] (.d (.list 22 (r.map E8))) []:=by
 refine ac2 Tryz.func27 rfl rfl fun B hB hN L => ?_
 delta A3c at h
 refine sr (SQ tt) ?_
 refine sr (SQ tt) ?_
 apply seq
 obtain⟨r1,hr1,h⟩:=bindS h
 refine sr (SQ (fa (cl [] (A8g a1 a2 r1 hr1)) tt)) ?_
 apply block
 obtain⟨p85,hx128,h⟩:=bindS h
 refine lg (A0x a0 a1 a2 r1) (fun s2:Int×(List A5)=>([(0,(i6 a0)),(1,(H3 a1)),(2,(H3 a2)),(7,(.sref 3007 22 0 s2.2.length)),(17,(E5 r1)),(18,(i6 (r1.length:Int))),(19,(i6 s2.1))]:EL)) (fun s2:Int×(List A5)=>([(3007,some (E9 s2.2))]:OL)) (fun(p85:((List A5))) e E' O'=>e = .exit 0∧Mat B E' O' ([(7,(.sref 3007 22 0 p85.length))]:EL) ([(3007,some (E9 p85))]:OL)) hx128 (Mat.trans (Mat.beginP (n:=3007) (e:=39) (sz:=22) (Ts:=[(7,(.sref 3007 22 0 0))]) (Bs:=[]) hB (by decide) (by rfl) (by decide) (TwT.cons (x:=.nils) (by rfl) (Tw.leaf ⟨rfl,rfl⟩) TwT.nil) TwB.nil) (mp [] _ _ hB)) (fun s2 y h => ?_) (fun e E' O' hR => ?_)
 ·unfold A0x at h
  refine sr (SQ tt) ?_
  apply seq
  apply AWp.cond rfl<;>intro hg86
  ·have h:=A3 hg86 h
   apply AWp.skip
   apply A0
   apply seq
   refine AWp.cut h (fun m106:(List A5)=>([(0,(i6 a0)),(1,(H3 a1)),(2,(H3 a2)),(7,(.sref 3007 22 0 m106.length)),(17,(E5 r1)),(18,(i6 (r1.length:Int))),(19,(i6 s2.1))]:EL)) (fun m106:(List A5)=>([(3007,some (E9 m106))]:OL)) (fun m106 h E' O' hmat => ?_) (fun j107 hjj107 h => ?_)
   ·apply A0
    refine ghost hmat ?_
    refine rg (SQ tt) ?_
    obtain rfl:=oi h
    exact⟨rfl,(mp [] _ _ hB)⟩
   ·apply block
    obtain⟨x108,hx108,h⟩:=bindS h
    refine sr (SQ (fa hx108 tt)) ?_
    obtain⟨r109,hr109,h⟩:=bindS h
    refine sr (SQ (fa (cl [] (A6v a1 x108 r109 hr109)) tt)) ?_
    obtain⟨r110,hr110,h⟩:=bindS h
    refine sr (SQ (fa (cl [] (A6v a2 x108 r110 hr110)) tt)) ?_
    apply seq
    apply seq
    refine AWp.cut h (fun m113:Bool=>([(0,(i6 a0)),(1,(H3 a1)),(2,(H3 a2)),(7,(.sref 3007 22 0 s2.2.length)),(9,(pt 1009)),(12,(pt 1012)),(13,(bo r110.2)),(17,(E5 r1)),(18,(i6 (r1.length:Int))),(19,(i6 s2.1)),(42,(bo m113))]:EL)) (fun m113:Bool=>([(1009,bd 29 (B4 x108)),(1012,bd 37 (G4 r110.1)),(3007,some (E9 s2.2))]:OL)) (fun m113 h E' O' hmat => ?_) (fun j114 hjj114 h => ?_)
    ·apply A0
     refine ghost hmat ?_
     apply AWp.cond rfl<;>intro hg115
     ·have h:=A3 hg115 h
      apply AWp.exit
      apply D6
      apply C2
      exact hjj107 _ h _ _ (mp [] _ _ hB)
     ·have h:=A4 hg115 h
      apply AWp.skip
      apply A0
      refine sr (SQ tt) ?_
      apply seq
      refine sr (SQ tt) ?_
      refine gh [(0,_),(1,_),(2,_),(7,_),(12,_),(14,_),(17,_),(18,_),(19,_),(47,_)] [(1012,some _),(1014,some _),(3007,some _)] hB rfl rfl (by rfl) ?_
      refine AWp.cut h (fun m119:C7=>([(0,(i6 a0)),(1,(H3 a1)),(2,(H3 a2)),(7,(.sref 3007 22 0 s2.2.length)),(14,(pt 1014)),(17,(E5 r1)),(18,(i6 (r1.length:Int))),(19,(i6 s2.1))]:EL)) (fun m119:C7=>([(1014,some (.box 39 (.st [(i6 a0),(.d (B4 x108)),(bo r110.2),(.d (G4 m119))]))),(3007,some (E9 s2.2))]:OL)) (fun m119 h E' O' hmat => ?_) (fun j120 hjj120 h => ?_)
      ·apply A0
       refine ghost hmat ?_
       obtain⟨hc121,h⟩:=B3 h
       refine rg (SQ (fa hc121 tt)) ?_
       apply D2
       exact hjj107 _ h _ _ (mp [(3007,1057)] _ _ hB)
      ·apply AWp.cond rfl<;>intro hg122
       ·have h:=A3 hg122 h
        obtain⟨r123,hr123,h⟩:=bindS h
        obtain⟨_,hx124,h⟩:=bindS h
        refine rg (SQ (fa (cl [] (A6w [r110.1] r123 hr123)) (fa hx124 tt))) ?_
        exact hjj120 _ h _ _ (mp [] _ _ hB)
       ·have h:=A4 hg122 h
        apply AWp.skip
        exact hjj120 _ h _ _ (Mat.trans (Mat.coeP (Ts:=[]) (Bs:=[(1014,some (.box 39 (.st [(i6 a0),(.d (B4 x108)),(bo r110.2),(.d (.st [(.st [(.st [(.bool false),(.int .u64 0),(.int .u64 0)]),(.int .i64 0)]),(.int .i64 0),(.st [(.int .i64 0),(.list 2 (([]:List A8).map C3)),(.st [(.bool false),(.int .u64 0),(.int .u64 0)]),(.int .i64 0),(.int .i64 0),(.int .i64 0),(.list 2 (([]:List B0).map B6)),(.list 3 (([]:List D5).map D8)),(.list 3 (([]:List A1).map A9))])]))])))]) TwT.nil (TwB.cons (x:=(.st [(i6 a0),(.d (B4 x108)),(bo r110.2),(.st [(.d (.st [(.st [(.bool false),(.int .u64 0),(.int .u64 0)]),(.int .i64 0)])),(i6 0),(.st [(i6 0),.nils,(.d (.st [(.bool false),(.int .u64 0),(.int .u64 0)])),(i6 0),(i6 0),(i6 0),.nils,.nils,.nils])])])) (by rfl) (Tw.st (TwL.cons (Tw.same _) (TwL.cons (Tw.same _) (TwL.cons (Tw.same _) (TwL.cons (Tw.leaf ⟨_,(Co.st (CoL.cons (Co.d _) (CoL.cons (Co.d _) (CoL.cons (Co.st (CoL.cons (Co.d _) (CoL.cons (Co.nils 2) (CoL.cons (Co.d _) (CoL.cons (Co.d _) (CoL.cons (Co.d _) (CoL.cons (Co.d _) (CoL.cons (Co.nils 2) (CoL.cons (Co.nils 3) (CoL.cons (Co.nils 3) CoL.nil)))))))))) CoL.nil)))),rfl⟩) TwL.nil))))) TwB.nil)) (mp [] _ _ hB))
    ·rcases bft (r109.2==r110.2) with hg125 | hg125
     ·have h:=A3 hg125 h
      obtain⟨r126,hr126,h⟩:=bindS h
      refine rg (SQ (fa hg125 (fa (cl [] (A3t r109.1 r110.1 r126 hr126)) tt))) ?_
      exact hjj114 _ h _ _ (mp [] _ _ hB)
     ·have h:=A4 hg125 h
      refine rg (SQ (fa hg125 tt)) ?_
      exact hjj114 _ h _ _ (mp [] _ _ hB)
  ·have h:=A4 hg86 h
   apply AWp.exit
   apply D6
   obtain rfl:=oi h
   exact⟨(fun hc=>by cases hc),rfl,(mp [] _ _ hB)⟩
 ·obtain⟨rfl,hmat⟩:=hR
  apply C2
  apply A0
  refine ghost hmat ?_
  refine sr (SQ tt) ?_
  apply ret
  obtain rfl:=oi h
  exact rt (Mat.trans (Mat.freezeP (n:=3007) (e:=39) (sz:=22) (es:=p85.map E8) (Ts:=[(6,(B1 p85))]) (Bs:=[]) (by rfl) (TwT.cons (x:=(.sref 3007 22 0 p85.length)) (by rfl) (FrzL.all (by first | rfl | (simp;done) | (simp;omega) | omega)) TwT.nil) TwB.nil) (mp [] [(6,(B1 p85))] [] hB)) [(B1 p85)] (rT rN) rfl
def G0 (s1:Int×(List C7)×(List C7)×C5):Option (((C5×(List C7)×(List C7)))⊕(Int×(List C7)×(List C7)×C5)) :=
 (if (decide (s1.1<8))=true then
 (Q5 s1.1).bind fun r50 =>
 (F8 s1.2.2.2 3).bind fun r51 =>
 (A19).bind fun r52 =>
 (S1 (w64 (101+r51.1)) r50.fAddr.fV6).bind fun r53 =>
 (F8 r51.2 2).bind fun r54 =>
 (F8 r54.2 4).bind fun r55 =>
 jn (fun m63:(List C7)×(List C7) =>
 some (.inr ((w64 (s1.1+1)),m63.1,m63.2,r55.2))) (fun j64 =>
 (if (r55.1==0)=true then
 chk (decide ((s1.2.2.1++([(C7.mk r50 (w64 (101+r51.1)) (B2.mk 0 ([(A8.mk false ([(w64 (101+r51.1))]:List Int))]:List A8) r53 r54.1 r52.fPref r52.fOTC r52.fCommunities r52.fLarge r52.fOther))]:List C7)).length≤LIM)) <|
 j64 (s1.2.1,(s1.2.2.1++([(C7.mk r50 (w64 (101+r51.1)) (B2.mk 0 ([(A8.mk false ([(w64 (101+r51.1))]:List Int))]:List A8) r53 r54.1 r52.fPref r52.fOTC r52.fCommunities r52.fLarge r52.fOther))]:List C7)))
 else
 (if (r55.1==1)=true then
 chk (decide ((s1.2.1++([(C7.mk r50 (w64 (101+r51.1)) (B2.mk 0 ([(A8.mk false ([(w64 (101+r51.1))]:List Int))]:List A8) r53 r54.1 r52.fPref r52.fOTC r52.fCommunities r52.fLarge r52.fOther))]:List C7)).length≤LIM)) <|
 j64 ((s1.2.1++([(C7.mk r50 (w64 (101+r51.1)) (B2.mk 0 ([(A8.mk false ([(w64 (101+r51.1))]:List Int))]:List A8) r53 r54.1 r52.fPref r52.fOTC r52.fCommunities r52.fLarge r52.fOther))]:List C7)),s1.2.2.1)
 else
 (if (r55.1==2)=true then
 chk (decide ((s1.2.2.1++([(C7.mk r50 (w64 (101+r51.1)) (B2.mk 0 ([(A8.mk false ([(w64 (101+r51.1))]:List Int))]:List A8) r53 r54.1 r52.fPref r52.fOTC r52.fCommunities r52.fLarge r52.fOther))]:List C7)).length≤LIM)) <|
 chk (decide ((s1.2.1++([(C7.mk r50 (w64 (101+r51.1)) (B2.mk 0 ([(A8.mk false ([(w64 (101+r51.1))]:List Int))]:List A8) r53 5 r52.fPref r52.fOTC r52.fCommunities r52.fLarge r52.fOther))]:List C7)).length≤LIM)) <|
 j64 ((s1.2.1++([(C7.mk r50 (w64 (101+r51.1)) (B2.mk 0 ([(A8.mk false ([(w64 (101+r51.1))]:List Int))]:List A8) r53 5 r52.fPref r52.fOTC r52.fCommunities r52.fLarge r52.fOther))]:List C7)),(s1.2.2.1++([(C7.mk r50 (w64 (101+r51.1)) (B2.mk 0 ([(A8.mk false ([(w64 (101+r51.1))]:List Int))]:List A8) r53 r54.1 r52.fPref r52.fOTC r52.fCommunities r52.fLarge r52.fOther))]:List C7)))
 else
 j64 (s1.2.1,s1.2.2.1)))))
 else
 some (.inl (s1.2.2.2,s1.2.1,s1.2.2.1)))
def G9 (a0:C5) (a1:Int):Option ((List A5)×C5) :=
 (loop (G0) (0,([]:List C7),([]:List C7),a0)).bind fun p48 =>
 (A3c a1 p48.2.2 p48.2.1).bind fun r74 =>
 some (r74,p48.1)
theorem A24 (a0:C5) (a1:Int) (r:(List A5)×C5) (h:G9 a0 a1=some r):AC Tryz.prog 10 [(pt 0),(.d (.int .i64 a1))] [(0,(.box 71 (.d (F0 a0))))] (.d (.list 22 (r.1.map E8))) [(0,bd 71 (F0 r.2))]:=by
 refine ac2 Tryz.func10 rfl rfl fun B hB hN L => ?_
 delta G9 at h
 refine sr (SQ tt) ?_
 refine sr (SQ tt) ?_
 apply seq
 refine sr (SQ tt) ?_
 apply block
 obtain⟨p48,hx73,h⟩:=bindS h
 refine lg (G0) (fun s1:Int×(List C7)×(List C7)×C5=>([(0,(pt 0)),(1,(i6 a1)),(5,(.sref 3005 16 0 s1.2.2.1.length)),(6,(.sref 3006 16 0 s1.2.1.length)),(7,(i6 s1.1))]:EL)) (fun s1:Int×(List C7)×(List C7)×C5=>([(0,bd 71 (F0 s1.2.2.2)),(3005,some (F4 s1.2.2.1)),(3006,some (F4 s1.2.1))]:OL)) (fun(p48:(C5×(List C7)×(List C7))) e E' O'=>e = .exit 0∧Mat B E' O' ([(1,(i6 a1)),(5,(.sref 3005 16 0 p48.2.2.length)),(6,(.sref 3006 16 0 p48.2.1.length))]:EL) ([(0,bd 71 (F0 p48.1)),(3005,some (F4 p48.2.2)),(3006,some (F4 p48.2.1))]:OL)) hx73 (Mat.trans (Mat.beginP (n:=3005) (e:=37) (sz:=16) (Ts:=[(5,(.sref 3005 16 0 0))]) (Bs:=[]) hB (by decide) (by rfl) (by decide) (TwT.cons (x:=.nils) (by rfl) (Tw.leaf ⟨rfl,rfl⟩) TwT.nil) TwB.nil) (Mat.trans (Mat.beginP (n:=3006) (e:=37) (sz:=16) (Ts:=[(6,(.sref 3006 16 0 0))]) (Bs:=[]) hB (by decide) (by rfl) (by decide) (TwT.cons (x:=.nils) (by rfl) (Tw.leaf ⟨rfl,rfl⟩) TwT.nil) TwB.nil) (mp [] _ _ hB))) (fun s1 y h => ?_) (fun e E' O' hR => ?_)
 ·unfold G0 at h
  apply seq
  refine sr (SQ tt) ?_
  apply AWp.cond rfl<;>intro hg49
  ·have h:=A3 hg49 h
   apply AWp.skip
   apply A0
   apply seq
   apply block
   obtain⟨r50,hr50,h⟩:=bindS h
   refine sr (SQ (fa (cl [] (A49 s1.1 r50 hr50)) tt)) ?_
   apply seq
   obtain⟨r51,hr51,h⟩:=bindS h
   refine drS (SQ (fa (cl [(0,0)] (P0 s1.2.2.2 3 r51 hr51)) tt)) ?_
   apply A0
   refine ghost (mp [] [(0,(pt 0)),(1,(i6 a1)),(5,(.sref 3005 16 0 s1.2.2.1.length)),(6,(.sref 3006 16 0 s1.2.1.length)),(7,(i6 s1.1)),(8,(pt 1008)),(9,(pt 1009))] [(0,bd 71 (F0 r51.2)),(1008,bd 29 (B4 r50)),(1009,some (.box 37 (.st [(.d (B4 r50)),(i6 (w64 (101+r51.1))),(.st [(i6 0),.nils,(.d (.st [(.bool false),(.int .u64 0),(.int .u64 0)])),(i6 0),(i6 0),(i6 0),.nils,.nils,.nils])]))),(3005,some (F4 s1.2.2.1)),(3006,some (F4 s1.2.1))] hB) ?_
   obtain⟨r52,hr52,h⟩:=bindS h
   refine sr (SQ (fa (cl [] (A3o r52 hr52)) tt)) ?_
   obtain⟨r53,hr53,h⟩:=bindS h
   refine sdS (SQ (fa (cl [] (A4h (w64 (101+r51.1)) r50.fAddr.fV6 r53 hr53)) tt)) ?_
   apply seq
   obtain⟨r54,hr54,h⟩:=bindS h
   refine rg (SQ (fa (cl [(0,0)] (P0 r51.2 2 r54 hr54)) tt)) ?_
   apply A0
   refine ghost (mp [] [(0,(pt 0)),(1,(i6 a1)),(5,(.sref 3005 16 0 s1.2.2.1.length)),(6,(.sref 3006 16 0 s1.2.1.length)),(7,(i6 s1.1)),(9,(pt 1009))] [(0,bd 71 (F0 r54.2)),(1009,some (.box 37 (.st [(.d (B4 r50)),(i6 (w64 (101+r51.1))),(.d (.st [(.int .i64 0),(.list 2 (([(A8.mk false ([(w64 (101+r51.1))]:List Int))]:List A8).map C3)),(D1 r53),(.int .i64 r54.1),(.int .i64 r52.fPref),(.int .i64 r52.fOTC),(.list 2 (r52.fCommunities.map B6)),(.list 3 (r52.fLarge.map D8)),(.list 3 (r52.fOther.map A9))]))]))),(3005,some (F4 s1.2.2.1)),(3006,some (F4 s1.2.1))] hB) ?_
   apply seq
   obtain⟨r55,hr55,h⟩:=bindS h
   refine rg (SQ (fa (cl [(0,0)] (P0 r54.2 4 r55 hr55)) tt)) ?_
   apply A0
   refine ghost (mp [] [(0,(pt 0)),(1,(i6 a1)),(5,(.sref 3005 16 0 s1.2.2.1.length)),(6,(.sref 3006 16 0 s1.2.1.length)),(7,(i6 s1.1)),(9,(pt 1009)),(45,(i6 r55.1))] [(0,bd 71 (F0 r55.2)),(1009,some (.box 37 (.st [(.d (B4 r50)),(i6 (w64 (101+r51.1))),(.d (.st [(.int .i64 0),(.list 2 (([(A8.mk false ([(w64 (101+r51.1))]:List Int))]:List A8).map C3)),(D1 r53),(.int .i64 r54.1),(.int .i64 r52.fPref),(.int .i64 r52.fOTC),(.list 2 (r52.fCommunities.map B6)),(.list 3 (r52.fLarge.map D8)),(.list 3 (r52.fOther.map A9))]))]))),(3005,some (F4 s1.2.2.1)),(3006,some (F4 s1.2.1))] hB) ?_
   apply block
   refine sr (SQ tt) ?_
   refine gh [(0,_),(1,_),(5,_),(6,_),(7,_),(9,_),(45,_),(46,_)] [(0,some _),(1009,some _),(3005,some _),(3006,some _)] hB rfl rfl (by rfl) ?_
   refine AWp.cut h (fun m63:(List C7)×(List C7)=>([(0,(pt 0)),(1,(i6 a1)),(5,(.sref 3005 16 0 m63.2.length)),(6,(.sref 3006 16 0 m63.1.length)),(7,(i6 s1.1))]:EL)) (fun m63:(List C7)×(List C7)=>([(0,bd 71 (F0 r55.2)),(3005,some (F4 m63.2)),(3006,some (F4 m63.1))]:OL)) (fun m63 h E' O' hmat => ?_) (fun j64 hjj64 h => ?_)
   ·apply D2
    apply D2
    apply A0
    refine ghost hmat ?_
    refine rg (SQ tt) ?_
    obtain rfl:=oi h
    exact⟨rfl,(mp [] _ _ hB)⟩
   ·apply AWp.cond rfl<;>intro hg65
    ·have h:=A3 hg65 h
     obtain⟨hc66,h⟩:=B3 h
     refine rg (SQ (fa hc66 tt)) ?_
     exact hjj64 _ h _ _ (mp [(3005,1051)] _ _ hB)
    ·have h:=A4 hg65 h
     refine sr (SQ tt) ?_
     apply AWp.cond rfl<;>intro hg67
     ·have h:=A3 hg67 h
      obtain⟨hc68,h⟩:=B3 h
      refine rg (SQ (fa hc68 tt)) ?_
      exact hjj64 _ h _ _ (mp [(3006,1057)] _ _ hB)
     ·have h:=A4 hg67 h
      refine sr (SQ tt) ?_
      apply AWp.cond rfl<;>intro hg69
      ·have h:=A3 hg69 h
       obtain⟨hc70,h⟩:=B3 h
       refine sr (SQ (fa hc70 tt)) ?_
       refine sr (SQ tt) ?_
       obtain⟨hc71,h⟩:=B3 h
       refine rg (SQ (fa hc71 tt)) ?_
       exact hjj64 _ h _ _ (mp [(3005,1063),(3006,1069)] _ _ hB)
      ·have h:=A4 hg69 h
       apply AWp.skip
       exact hjj64 _ h _ _ (mp [] _ _ hB)
  ·have h:=A4 hg49 h
   apply AWp.exit
   apply D6
   obtain rfl:=oi h
   exact⟨(fun hc=>by cases hc),rfl,(mp [] _ _ hB)⟩
 ·obtain⟨rfl,hmat⟩:=hR
  apply C2
  apply A0
  refine ghost hmat ?_
  apply seq
  refine ghost (Mat.freezeP (n:=3005) (e:=37) (sz:=16) (es:=p48.2.2.map G4) (Ts:=[(5,(H3 p48.2.2))]) (Bs:=[]) (by rfl) (TwT.cons (x:=(.sref 3005 16 0 p48.2.2.length)) (by rfl) (FrzL.all (by first | rfl | (simp;done) | (simp;omega) | omega)) TwT.nil) TwB.nil) ?_
  refine ghost (Mat.freezeP (n:=3006) (e:=37) (sz:=16) (es:=p48.2.1.map G4) (Ts:=[(6,(H3 p48.2.1))]) (Bs:=[]) (by rfl) (TwT.cons (x:=(.sref 3006 16 0 p48.2.1.length)) (by rfl) (FrzL.all (by first | rfl | (simp;done) | (simp;omega) | omega)) TwT.nil) TwB.nil) ?_
  obtain⟨r74,hr74,h⟩:=bindS h
  refine rg (SQ (fa (cl [] (B0j a1 p48.2.2 p48.2.1 r74 hr74)) tt)) ?_
  apply A0
  apply ret
  obtain rfl:=oi h
  exact rt (kp [(4,_)] [(0,some _)] hB rfl rfl (by rfl)) [(B1 r74)] (rT rN) rfl
def W4 (a0:D4):Option (Bool) :=
 jn (fun m2:Bool =>
 some m2) (fun j3 =>
 (if a0.fV6=true then
 j3 true
 else
 j3 ((a0.fHi==0)&&(decide (a0.fLo<4294967296)))))
theorem J6 (a0:D4) (r:Bool) (h:W4 a0=some r):AC Tryz.prog 78 [(.d (D1 a0))] [] (.d (.bool r)) []:=by
 refine ac2 Tryz.func78 rfl rfl fun B hB hN L => ?_
 delta W4 at h
 refine sr (SQ tt) ?_
 apply seq
 refine AWp.cut h (fun m2:Bool=>([(2,(bo m2))]:EL)) (fun m2:Bool=>([]:OL)) (fun m2 h E' O' hmat => ?_) (fun j3 hjj3 h => ?_)
 ·apply A0
  refine ghost hmat ?_
  apply ret
  obtain rfl:=oi h
  exact rt (kp [(2,_)] [] hB rfl rfl (by rfl)) [(bo m2)] (rT rN) rfl
 ·rcases bft a0.fV6 with hg4 | hg4
  ·have h:=A3 hg4 h
   refine rg (SQ (fa hg4 tt)) ?_
   exact hjj3 _ h _ _ (mp [] _ _ hB)
  ·have h:=A4 hg4 h
   refine rg (SQ (fa hg4 tt)) ?_
   exact hjj3 _ h _ _ (mp [] _ _ hB)
def A3x (a0:D4):Option (Int) :=
 (if a0.fV6=true then
 some 128
 else
 some 32)
theorem A9f (a0:D4) (r:Int) (h:A3x a0=some r):AC Tryz.prog 99 [(.d (D1 a0))] [] (.d (.int .i64 r)) []:=by
 refine AC.of_code2 Tryz.func99 rfl rfl (Nat.le_of_ble_eq_true (by rfl)) fun B hB hN => ?_
 delta A3x at h
 refine sr (SQ tt) ?_
 apply seq
 refine sr (SQ tt) ?_
 apply AWp.cond rfl<;>intro hg1
 ·have h:=A3 hg1 h
  refine sr (SQ tt) ?_
  apply ret
  apply B5
  obtain rfl:=oi h
  exact rt (kp [(2,_)] [] hB rfl rfl (by rfl)) [(i6 128)] (rT rN) rfl
 ·have h:=A4 hg1 h
  apply AWp.skip
  apply A0
  refine sr (SQ tt) ?_
  apply ret
  obtain rfl:=oi h
  exact rt (kp [(2,_)] [] hB rfl rfl (by rfl)) [(i6 32)] (rT rN) rfl
def A1o (a0:D4) (s6:Int×(List Int)):Option ((((List Int)))⊕(Int×(List Int))) :=
 (if (decide (0≤s6.1))=true then
 jn (fun m22:Int =>
 chk (decide ((s6.2++([(IntKind.u8.wrap (shrI .u64 m22 (IntKind.u64.wrap (8*(IntKind.u64.wrap (Int.tmod s6.1 8))))))]:List Int)).length≤LIM)) <|
 some (.inr ((w64 (s6.1-1)),(s6.2++([(IntKind.u8.wrap (shrI .u64 m22 (IntKind.u64.wrap (8*(IntKind.u64.wrap (Int.tmod s6.1 8))))))]:List Int))))) (fun j23 =>
 (if (decide (8≤s6.1))=true then
 j23 a0.fHi
 else
 j23 a0.fLo))
 else
 some (.inl s6.2))
def P6 (a0:D4):Option ((List Int)) :=
 (W4 a0).bind fun r1 =>
 (if (!r1)=true then
 some ([]:List Int)
 else
 jn (fun m4:Int =>
 (loop (A1o a0) ((w64 (m4-1)),([]:List Int))).bind fun p19 =>
 some p19) (fun j5 =>
 (if a0.fV6=true then
 j5 16
 else
 j5 4)))
theorem A3p (a0:D4) (r:(List Int)) (h:P6 a0=some r):AC Tryz.prog 84 [(.d (D1 a0))] [] (.d (.list 1 (r.map (eI .u8)))) []:=by
 refine ac2 Tryz.func84 rfl rfl fun B hB hN L => ?_
 delta P6 at h
 refine sr (SQ tt) ?_
 apply seq
 obtain⟨r1,hr1,h⟩:=bindS h
 refine sr (SQ (fa (cl [] (J6 a0 r1 hr1)) tt)) ?_
 apply AWp.cond rfl<;>intro hg2
 ·have h:=A3 hg2 h
  refine sr (SQ tt) ?_
  apply ret
  apply B5
  obtain rfl:=oi h
  exact rt (Mat.trans (Mat.coeP (Ts:=[(2,(.d (.list 1 (([]:List Int).map (eI .u8)))))]) (Bs:=[]) (TwT.cons (x:=.nils) (by rfl) (Tw.leaf ⟨_,(Co.nils 1),rfl⟩) TwT.nil) TwB.nil) (mp [] [(2,(.d (.list 1 (([]:List Int).map (eI .u8)))))] [] hB)) [(.d (.list 1 (([]:List Int).map (eI .u8))))] (rT rN) rfl
 ·have h:=A4 hg2 h
  apply AWp.skip
  apply A0
  refine sr (SQ tt) ?_
  apply seq
  refine sr (SQ tt) ?_
  refine gh [(1,_),(3,_),(11,_)] [(1001,some _)] hB rfl rfl (by rfl) ?_
  refine AWp.cut h (fun m4:Int=>([(1,(pt 1001)),(3,(i6 m4))]:EL)) (fun m4:Int=>([(1001,bd 27 (D1 a0))]:OL)) (fun m4 h E' O' hmat => ?_) (fun j5 hjj5 h => ?_)
  ·apply A0
   refine ghost hmat ?_
   refine sr (SQ tt) ?_
   apply seq
   refine sr (SQ tt) ?_
   apply block
   obtain⟨p19,hx27,h⟩:=bindS h
   refine lg (A1o a0) (fun s6:Int×(List Int)=>([(1,(pt 1001)),(4,(.sref 3004 1 0 s6.2.length)),(5,(i6 s6.1))]:EL)) (fun s6:Int×(List Int)=>([(1001,bd 27 (D1 a0)),(3004,some (.row 5 1 (s6.2.map (eI .u8))))]:OL)) (fun(p19:((List Int))) e E' O'=>e = .exit 0∧Mat B E' O' ([(4,(.sref 3004 1 0 p19.length))]:EL) ([(3004,some (.row 5 1 (p19.map (eI .u8))))]:OL)) hx27 (Mat.trans (Mat.beginP (n:=3004) (e:=5) (sz:=1) (Ts:=[(4,(.sref 3004 1 0 0))]) (Bs:=[]) hB (by decide) (by rfl) (by decide) (TwT.cons (x:=.nils) (by rfl) (Tw.leaf ⟨rfl,rfl⟩) TwT.nil) TwB.nil) (mp [] _ _ hB)) (fun s6 y h => ?_) (fun e E' O' hR => ?_)
   ·unfold A1o at h
    apply seq
    refine sr (SQ tt) ?_
    apply AWp.cond rfl<;>intro hg20
    ·have h:=A3 hg20 h
     apply AWp.skip
     apply A0
     apply seq
     apply block
     refine sr (SQ tt) ?_
     apply seq
     refine sr (SQ tt) ?_
     refine gh [(1,_),(4,_),(5,_),(6,_),(21,_)] [(1001,some _),(3004,some _)] hB rfl rfl (by rfl) ?_
     refine AWp.cut h (fun m22:Int=>([(1,(pt 1001)),(4,(.sref 3004 1 0 s6.2.length)),(5,(i6 s6.1)),(6,(.d (.int .u64 m22)))]:EL)) (fun m22:Int=>([(1001,bd 27 (D1 a0)),(3004,some (.row 5 1 (s6.2.map (eI .u8))))]:OL)) (fun m22 h E' O' hmat => ?_) (fun j23 hjj23 h => ?_)
     ·apply A0
      refine ghost hmat ?_
      obtain⟨hc24,h⟩:=B3 h
      refine rg (SQ (fa hc24 tt)) ?_
      apply D2
      apply A0
      refine rg (SQ tt) ?_
      obtain rfl:=oi h
      exact⟨rfl,(mp [(3004,1033)] _ _ hB)⟩
     ·apply AWp.cond rfl<;>intro hg25
      ·have h:=A3 hg25 h
       refine rg (SQ tt) ?_
       exact hjj23 _ h _ _ (mp [] _ _ hB)
      ·have h:=A4 hg25 h
       apply AWp.skip
       exact hjj23 _ h _ _ (mp [] _ _ hB)
    ·have h:=A4 hg20 h
     apply AWp.exit
     apply D6
     obtain rfl:=oi h
     exact⟨(fun hc=>by cases hc),rfl,(mp [] _ _ hB)⟩
   ·obtain⟨rfl,hmat⟩:=hR
    apply C2
    apply A0
    refine ghost hmat ?_
    refine sr (SQ tt) ?_
    apply ret
    obtain rfl:=oi h
    exact rt (Mat.trans (Mat.freezeP (n:=3004) (e:=5) (sz:=1) (es:=p19.map (eI .u8)) (Ts:=[(2,(.d (.list 1 (p19.map (eI .u8)))))]) (Bs:=[]) (by rfl) (TwT.cons (x:=(.sref 3004 1 0 p19.length)) (by rfl) (FrzL.all (by first | rfl | (simp;done) | (simp;omega) | omega)) TwT.nil) TwB.nil) (mp [] [(2,(.d (.list 1 (p19.map (eI .u8)))))] [] hB)) [(.d (.list 1 (p19.map (eI .u8))))] (rT rN) rfl
  ·apply AWp.cond rfl<;>intro hg28
   ·have h:=A3 hg28 h
    refine rg (SQ tt) ?_
    exact hjj5 _ h _ _ (mp [] _ _ hB)
   ·have h:=A4 hg28 h
    apply AWp.skip
    exact hjj5 _ h _ _ (mp [] _ _ hB)
def A2k (a0:D4) (s6:Int×(List Int)):Option ((((List Int)))⊕(Int×(List Int))) :=
 (if (decide (0≤s6.1))=true then
 jn (fun m22:Int =>
 chk (decide ((s6.2++([(IntKind.u8.wrap (shrI .u64 m22 (IntKind.u64.wrap (8*(IntKind.u64.wrap (Int.tmod s6.1 8))))))]:List Int)).length≤LIM)) <|
 some (.inr ((w64 (s6.1-1)),(s6.2++([(IntKind.u8.wrap (shrI .u64 m22 (IntKind.u64.wrap (8*(IntKind.u64.wrap (Int.tmod s6.1 8))))))]:List Int))))) (fun j23 =>
 (if (decide (8≤s6.1))=true then
 j23 a0.fHi
 else
 j23 a0.fLo))
 else
 some (.inl s6.2))
def A2l (a0:D4):Option ((List Int)) :=
 (W4 a0).bind fun r1 =>
 (if (!r1)=true then
 some ([]:List Int)
 else
 jn (fun m4:Int =>
 (loop (A2k a0) ((w64 (m4-1)),([]:List Int))).bind fun p19 =>
 some p19) (fun j5 =>
 (if a0.fV6=true then
 j5 16
 else
 j5 4)))
theorem A83 (a0:D4) (r:(List Int)) (h:A2l a0=some r):AC Tryz.prog 84 [(.d (D1 a0))] [] (.sref 900000 1 0 r.length) [(900000,some (.row 5 1 (r.map (eI .u8))))]:=by
 refine ac2 Tryz.func84 rfl rfl fun B hB hN L => ?_
 delta A2l at h
 refine sr (SQ tt) ?_
 apply seq
 obtain⟨r1,hr1,h⟩:=bindS h
 refine sr (SQ (fa (cl [] (J6 a0 r1 hr1)) tt)) ?_
 apply AWp.cond rfl<;>intro hg2
 ·have h:=A3 hg2 h
  refine sr (SQ tt) ?_
  apply ret
  apply B5
  obtain rfl:=oi h
  exact rt (Mat.trans (Mat.beginP (n:=900500) (e:=5) (sz:=1) (Ts:=[(2,(.sref 900500 1 0 0))]) (Bs:=[]) hB (by decide) (by rfl) (by decide) (TwT.cons (x:=.nils) (by rfl) (Tw.leaf ⟨rfl,rfl⟩) TwT.nil) TwB.nil) (Mat.trans (Mat.lenP (Ts:=[(2,(.sref 900500 1 0 (([]:List Int).length)))]) (Bs:=[]) (TwT.cons (x:=(.sref 900500 1 0 0)) (by rfl) (Tw.leaf ⟨_,_,_,_,_,rfl,rfl,(by first | rfl | (simp;done) | (simp;omega) | omega)⟩) TwT.nil) TwB.nil) (mp [(900000,900500)] [(2,(.sref 900000 1 0 (([]:List Int).length)))] [(900000,some (.row 5 1 (([]:List Int).map (eI .u8))))] hB))) [(.sref 900000 1 0 (([]:List Int).length))] (rT rN) rfl
 ·have h:=A4 hg2 h
  apply AWp.skip
  apply A0
  refine sr (SQ tt) ?_
  apply seq
  refine sr (SQ tt) ?_
  refine gh [(1,_),(3,_),(11,_)] [(1001,some _)] hB rfl rfl (by rfl) ?_
  refine AWp.cut h (fun m4:Int=>([(1,(pt 1001)),(3,(i6 m4))]:EL)) (fun m4:Int=>([(1001,bd 27 (D1 a0))]:OL)) (fun m4 h E' O' hmat => ?_) (fun j5 hjj5 h => ?_)
  ·apply A0
   refine ghost hmat ?_
   refine sr (SQ tt) ?_
   apply seq
   refine sr (SQ tt) ?_
   apply block
   obtain⟨p19,hx27,h⟩:=bindS h
   refine lg (A2k a0) (fun s6:Int×(List Int)=>([(1,(pt 1001)),(4,(.sref 3004 1 0 s6.2.length)),(5,(i6 s6.1))]:EL)) (fun s6:Int×(List Int)=>([(1001,bd 27 (D1 a0)),(3004,some (.row 5 1 (s6.2.map (eI .u8))))]:OL)) (fun(p19:((List Int))) e E' O'=>e = .exit 0∧Mat B E' O' ([(4,(.sref 3004 1 0 p19.length))]:EL) ([(3004,some (.row 5 1 (p19.map (eI .u8))))]:OL)) hx27 (Mat.trans (Mat.beginP (n:=3004) (e:=5) (sz:=1) (Ts:=[(4,(.sref 3004 1 0 0))]) (Bs:=[]) hB (by decide) (by rfl) (by decide) (TwT.cons (x:=.nils) (by rfl) (Tw.leaf ⟨rfl,rfl⟩) TwT.nil) TwB.nil) (mp [] _ _ hB)) (fun s6 y h => ?_) (fun e E' O' hR => ?_)
   ·unfold A2k at h
    apply seq
    refine sr (SQ tt) ?_
    apply AWp.cond rfl<;>intro hg20
    ·have h:=A3 hg20 h
     apply AWp.skip
     apply A0
     apply seq
     apply block
     refine sr (SQ tt) ?_
     apply seq
     refine sr (SQ tt) ?_
     refine gh [(1,_),(4,_),(5,_),(6,_),(21,_)] [(1001,some _),(3004,some _)] hB rfl rfl (by rfl) ?_
     refine AWp.cut h (fun m22:Int=>([(1,(pt 1001)),(4,(.sref 3004 1 0 s6.2.length)),(5,(i6 s6.1)),(6,(.d (.int .u64 m22)))]:EL)) (fun m22:Int=>([(1001,bd 27 (D1 a0)),(3004,some (.row 5 1 (s6.2.map (eI .u8))))]:OL)) (fun m22 h E' O' hmat => ?_) (fun j23 hjj23 h => ?_)
     ·apply A0
      refine ghost hmat ?_
      obtain⟨hc24,h⟩:=B3 h
      refine rg (SQ (fa hc24 tt)) ?_
      apply D2
      apply A0
      refine rg (SQ tt) ?_
      obtain rfl:=oi h
      exact⟨rfl,(mp [(3004,1033)] _ _ hB)⟩
     ·apply AWp.cond rfl<;>intro hg25
      ·have h:=A3 hg25 h
       refine rg (SQ tt) ?_
       exact hjj23 _ h _ _ (mp [] _ _ hB)
      ·have h:=A4 hg25 h
       apply AWp.skip
       exact hjj23 _ h _ _ (mp [] _ _ hB)
    ·have h:=A4 hg20 h
     apply AWp.exit
     apply D6
     obtain rfl:=oi h
     exact⟨(fun hc=>by cases hc),rfl,(mp [] _ _ hB)⟩
   ·obtain⟨rfl,hmat⟩:=hR
    apply C2
    apply A0
    refine ghost hmat ?_
    refine sr (SQ tt) ?_
    apply ret
    obtain rfl:=oi h
    exact rt (mp [(900000,3004)] [(2,(.sref 900000 1 0 p19.length))] [(900000,some (.row 5 1 (p19.map (eI .u8))))] hB) [(.sref 900000 1 0 p19.length)] (rT rN) rfl
  ·apply AWp.cond rfl<;>intro hg28
   ·have h:=A3 hg28 h
    refine rg (SQ tt) ?_
    exact hjj5 _ h _ _ (mp [] _ _ hB)
   ·have h:=A4 hg28 h
    apply AWp.skip
    exact hjj5 _ h _ _ (mp [] _ _ hB)
def R9 (a0:(List Int)) (s2:Int×Int×Int):Option (((Int×Int))⊕(Int×Int×Int)) :=
 (if (decide (s2.1<(a0.length:Int)))=true then
 (idx a0 s2.1).bind fun x9 =>
 some (.inr ((w64 (s2.1+1)),(bitI .or .u64 (shlI .u64 s2.2.1 8) (shrI .u64 s2.2.2 56)),(bitI .or .u64 (shlI .u64 s2.2.2 8) (IntKind.u64.wrap x9))))
 else
 some (.inl (s2.2.1,s2.2.2)))
def X6 (a0:(List Int)):Option (D4×Int) :=
 (if (((a0.length:Int) != 4)&&((a0.length:Int) != 16))=true then
 some ((D4.mk false 0 0),1)
 else
 (loop (R9 a0) (0,0,0)).bind fun p7 =>
 some ((D4.mk ((a0.length:Int)==16) p7.1 p7.2),0))
theorem A7b (a0:(List Int)) (r:D4×Int) (h:X6 a0=some r):AC Tryz.prog 100 [(.d (.list 1 (a0.map (eI .u8))))] [] (.tup [(.d (D1 r.1)),(.d (.int .i64 r.2))]) []:=by
 refine ac2 Tryz.func100 rfl rfl fun B hB hN L => ?_
 delta X6 at h
 refine sr (SQ tt) ?_
 apply seq
 refine sr (SQ tt) ?_
 apply AWp.cond rfl<;>intro hg1
 ·have h:=A3 hg1 h
  refine sr (SQ tt) ?_
  apply ret
  apply B5
  obtain rfl:=oi h
  exact rt (kp [(2,_),(3,_)] [(1002,some _)] hB rfl rfl (by rfl)) [(.d (.st [(.bool false),(.int .u64 0),(.int .u64 0)])),(i6 1)] (Res.cell (c:=(.d (.st [(.bool false),(.int .u64 0),(.int .u64 0)]))) (by rfl) (by rfl) tyS27 (by rfl) (by rfl) (by rfl) (rT rN)) rfl
 ·have h:=A4 hg1 h
  apply AWp.skip
  apply A0
  refine sr (SQ tt) ?_
  apply seq
  refine sr (SQ tt) ?_
  apply block
  obtain⟨p7,hx11,h⟩:=bindS h
  refine lg (R9 a0) (fun s2:Int×Int×Int=>([(2,(pt 1002)),(4,(pt 1004)),(20,(.d (.list 1 (a0.map (eI .u8))))),(21,(i6 (a0.length:Int))),(22,(i6 s2.1))]:EL)) (fun s2:Int×Int×Int=>([(1002,bd 27 (.st [(.bool false),(.int .u64 0),(.int .u64 0)])),(1004,bd 27 (.st [(.bool ((a0.length:Int)==16)),(.int .u64 s2.2.1),(.int .u64 s2.2.2)]))]:OL)) (fun(p7:(Int×Int)) e E' O'=>e = .exit 0∧Mat B E' O' ([(2,(pt 1002)),(4,(pt 1004))]:EL) ([(1002,bd 27 (.st [(.bool false),(.int .u64 0),(.int .u64 0)])),(1004,bd 27 (.st [(.bool ((a0.length:Int)==16)),(.int .u64 p7.1),(.int .u64 p7.2)]))]:OL)) hx11 (mp [] _ _ hB) (fun s2 y h => ?_) (fun e E' O' hR => ?_)
  ·unfold R9 at h
   refine sr (SQ tt) ?_
   apply seq
   apply AWp.cond rfl<;>intro hg8
   ·have h:=A3 hg8 h
    apply AWp.skip
    apply A0
    apply seq
    apply block
    obtain⟨_,hx9,h⟩:=bindS h
    refine sr (SQ (fa hx9 tt)) ?_
    refine sr (SQ tt) ?_
    refine rg (SQ tt) ?_
    apply D2
    apply A0
    refine rg (SQ tt) ?_
    obtain rfl:=oi h
    exact⟨rfl,(mp [] _ _ hB)⟩
   ·have h:=A4 hg8 h
    apply AWp.exit
    apply D6
    obtain rfl:=oi h
    exact⟨(fun hc=>by cases hc),rfl,(mp [] _ _ hB)⟩
  ·obtain⟨rfl,hmat⟩:=hR
   apply C2
   apply A0
   refine ghost hmat ?_
   refine sr (SQ tt) ?_
   apply ret
   obtain rfl:=oi h
   exact rt (kp [(2,_),(3,_)] [(1002,some _)] hB rfl rfl (by rfl)) [(.d (.st [(.bool ((a0.length:Int)==16)),(.int .u64 p7.1),(.int .u64 p7.2)])),(i6 0)] (Res.cell (c:=(.d (.st [(.bool ((a0.length:Int)==16)),(.int .u64 p7.1),(.int .u64 p7.2)]))) (by rfl) (by rfl) tyS27 (by rfl) (by rfl) (by rfl) (rT rN)) rfl
def A0y (s9:Int×(List Int)):Option ((((List Int)))⊕(Int×(List Int))) :=
 (if (decide (s9.1<(w64 (8*(s9.2.length:Int)))))=true then
 (idx s9.2 (w64 (Int.tdiv s9.1 8))).bind fun _ =>
 (idx s9.2 (w64 (Int.tdiv s9.1 8))).bind fun x23 =>
 (idx s9.2 (w64 (Int.tdiv s9.1 8))).bind fun _ =>
 (idx s9.2 (w64 (Int.tdiv s9.1 8))).bind fun _ =>
 some (.inr ((w64 (s9.1+1)),(s9.2.set (w64 (Int.tdiv s9.1 8)).toNat (bitI .andNot .u8 x23 (shrI .u8 128 (IntKind.u64.wrap (Int.tmod s9.1 8)))))))
 else
 some (.inl s9.2))
def A3d (a0:D4) (a1:Int):Option (A2×Int) :=
 (W4 a0).bind fun r1 =>
 (if (!r1)=true then
 some ((A2.mk (D4.mk false 0 0) 0),1)
 else
 jn (fun m5:Bool =>
 (if m5=true then
 some ((A2.mk (D4.mk false 0 0) 0),9)
 else
 (A2l a0).bind fun r8 =>
 (loop (A0y) (a1,r8)).bind fun p20 =>
 (X6 p20).bind fun r28 =>
 some ((A2.mk r28.1 a1),0))) (fun j6 =>
 (if (decide (a1<0))=true then
 j6 true
 else
 (A3x a0).bind fun r30 =>
 j6 (decide (r30<a1)))))
theorem B0k (a0:D4) (a1:Int) (r:A2×Int) (h:A3d a0 a1=some r):AC Tryz.prog 72 [(.d (D1 a0)),(.d (.int .i64 a1))] [] (.tup [(.d (B4 r.1)),(.d (.int .i64 r.2))]) []:=by
 refine ac2 Tryz.func72 rfl rfl fun B hB hN L => ?_
 delta A3d at h
 refine sr (SQ tt) ?_
 apply seq
 apply block
 obtain⟨r1,hr1,h⟩:=bindS h
 refine sr (SQ (fa (cl [] (J6 a0 r1 hr1)) tt)) ?_
 apply AWp.cond rfl<;>intro hg2
 ·have h:=A3 hg2 h
  refine sr (SQ tt) ?_
  apply ret
  apply D3
  apply B5
  obtain rfl:=oi h
  exact rt (kp [(4,_),(5,_)] [(1004,some _)] hB rfl rfl (by rfl)) [(.d (.st [(.st [(.bool false),(.int .u64 0),(.int .u64 0)]),(.int .i64 0)])),(i6 1)] (Res.cell (c:=(.d (.st [(.st [(.bool false),(.int .u64 0),(.int .u64 0)]),(.int .i64 0)]))) (by rfl) (by rfl) tyS29 (by rfl) (by rfl) (by rfl) (rT rN)) rfl
 ·have h:=A4 hg2 h
  apply seq
  refine AWp.cut h (fun m5:Bool=>([(1,(i6 a1)),(2,(pt 1002)),(4,(pt 1004)),(15,(bo m5))]:EL)) (fun m5:Bool=>([(1002,bd 27 (D1 a0)),(1004,bd 29 (.st [(.st [(.bool false),(.int .u64 0),(.int .u64 0)]),(.int .i64 0)]))]:OL)) (fun m5 h E' O' hmat => ?_) (fun j6 hjj6 h => ?_)
  ·apply A0
   refine ghost hmat ?_
   apply AWp.cond rfl<;>intro hg7
   ·have h:=A3 hg7 h
    refine sr (SQ tt) ?_
    apply ret
    apply D3
    apply B5
    obtain rfl:=oi h
    exact rt (kp [(4,_),(5,_)] [(1004,some _)] hB rfl rfl (by rfl)) [(.d (.st [(.st [(.bool false),(.int .u64 0),(.int .u64 0)]),(.int .i64 0)])),(i6 9)] (Res.cell (c:=(.d (.st [(.st [(.bool false),(.int .u64 0),(.int .u64 0)]),(.int .i64 0)]))) (by rfl) (by rfl) tyS29 (by rfl) (by rfl) (by rfl) (rT rN)) rfl
   ·have h:=A4 hg7 h
    apply AWp.skip
    apply D2
    apply A0
    apply seq
    obtain⟨r8,hr8,h⟩:=bindS h
    refine rg (SQ (fa (cl [(900000,100200)] (A83 a0 r8 hr8)) tt)) ?_
    apply A0
    refine ghost (mp [] [(1,(i6 a1)),(4,(pt 1004)),(6,(.sref 100200 1 0 r8.length))] [(1004,bd 29 (.st [(.st [(.bool false),(.int .u64 0),(.int .u64 0)]),(.int .i64 0)])),(100200,some (.row 5 1 (r8.map (eI .u8))))] hB) ?_
    apply seq
    refine sr (SQ tt) ?_
    apply block
    obtain⟨p20,hx27,h⟩:=bindS h
    refine lg (A0y) (fun s9:Int×(List Int)=>([(1,(i6 a1)),(4,(pt 1004)),(6,(.sref 100200 1 0 s9.2.length)),(7,(i6 s9.1))]:EL)) (fun s9:Int×(List Int)=>([(1004,bd 29 (.st [(.st [(.bool false),(.int .u64 0),(.int .u64 0)]),(.int .i64 0)])),(100200,some (.row 5 1 (s9.2.map (eI .u8))))]:OL)) (fun(p20:((List Int))) e E' O'=>e = .exit 1∧Mat B E' O' ([(1,(i6 a1)),(4,(pt 1004)),(6,(.sref 100200 1 0 p20.length))]:EL) ([(1004,bd 29 (.st [(.st [(.bool false),(.int .u64 0),(.int .u64 0)]),(.int .i64 0)])),(100200,some (.row 5 1 (p20.map (eI .u8))))]:OL)) hx27 (mp [] _ _ hB) (fun s9 y h => ?_) (fun e E' O' hR => ?_)
    ·unfold A0y at h
     apply seq
     refine sr (SQ tt) ?_
     apply AWp.cond rfl<;>intro hg21
     ·have h:=A3 hg21 h
      apply AWp.skip
      apply A0
      apply seq
      apply block
      obtain⟨_,hx22,h⟩:=bindS h
      obtain⟨x23,hx23,h⟩:=bindS h
      obtain⟨_,hx24,h⟩:=bindS h
      obtain⟨_,hx25,h⟩:=bindS h
      refine rg (SQ (fa hx22 (fa hx23 (fa hx24 (fa hx25 (fa (sv (bitI .andNot .u8 x23 (shrI .u8 128 (IntKind.u64.wrap (Int.tmod s9.1 8))))) tt)))))) ?_
      apply D2
      apply A0
      refine rg (SQ tt) ?_
      obtain rfl:=oi h
      exact⟨rfl,(Mat.trans (mp [] [(1,(i6 a1)),(4,(pt 1004)),(6,(.sref 100200 1 0 s9.2.length)),(7,(i6 (w64 (s9.1+1))))] [(1004,bd 29 (.st [(.st [(.bool false),(.int .u64 0),(.int .u64 0)]),(.int .i64 0)])),(100200,some (.row 5 1 ((s9.2.set (w64 (Int.tdiv s9.1 8)).toNat (bitI .andNot .u8 x23 (shrI .u8 128 (IntKind.u64.wrap (Int.tmod s9.1 8))))).map (eI .u8))))] hB) (Mat.trans (Mat.lenP (Ts:=[(6,(.sref 100200 1 0 ((s9.2.set (w64 (Int.tdiv s9.1 8)).toNat (bitI .andNot .u8 x23 (shrI .u8 128 (IntKind.u64.wrap (Int.tmod s9.1 8))))).length)))]) (Bs:=[]) (TwT.cons (x:=(.sref 100200 1 0 s9.2.length)) (by rfl) (Tw.leaf ⟨_,_,_,_,_,rfl,rfl,(by first | rfl | (simp;done) | (simp;omega) | omega)⟩) TwT.nil) TwB.nil) (mp [] _ _ hB)))⟩
     ·have h:=A4 hg21 h
      apply AWp.exit
      apply D6
      obtain rfl:=oi h
      exact⟨(fun hc=>by cases hc),rfl,(mp [] _ _ hB)⟩
    ·obtain⟨rfl,hmat⟩:=hR
     apply C2
     apply A0
     refine ghost hmat ?_
     apply seq
     refine ghost (Mat.freezeP (n:=100200) (e:=5) (sz:=1) (es:=p20.map (eI .u8)) (Ts:=[(6,(.d (.list 1 (p20.map (eI .u8)))))]) (Bs:=[]) (by rfl) (TwT.cons (x:=(.sref 100200 1 0 p20.length)) (by rfl) (FrzL.all (by first | rfl | (simp;done) | (simp;omega) | omega)) TwT.nil) TwB.nil) ?_
     obtain⟨r28,hr28,h⟩:=bindS h
     refine rg (SQ (fa (cl [] (A7b p20 r28 hr28)) tt)) ?_
     apply A0
     refine sr (SQ tt) ?_
     apply ret
     obtain rfl:=oi h
     exact rt (kp [(4,_),(5,_)] [(1004,some _)] hB rfl rfl (by rfl)) [(.d (.st [(D1 r28.1),(.int .i64 a1)])),(i6 0)] (Res.cell (c:=(.d (.st [(D1 r28.1),(.int .i64 a1)]))) (by rfl) (by rfl) tyS29 (by rfl) (by rfl) (by rfl) (rT rN)) rfl
  ·rcases bft (decide (a1<0)) with hg29 | hg29
   ·have h:=A3 hg29 h
    refine rg (SQ (fa hg29 tt)) ?_
    exact hjj6 _ h _ _ (mp [] _ _ hB)
   ·have h:=A4 hg29 h
    obtain⟨r30,hr30,h⟩:=bindS h
    refine rg (SQ (fa hg29 (fa (cl [] (A9f a0 r30 hr30)) tt))) ?_
    exact hjj6 _ h _ _ (mp [] _ _ hB)
def A1b (a0:A2):Option (Bool) :=
 (A3d a0.fAddr a0.fLen).bind fun r1 =>
 some ((r1.2==0)&&(((a0.fAddr.fV6==r1.1.fAddr.fV6)&&((a0.fAddr.fHi==r1.1.fAddr.fHi)&&((a0.fAddr.fLo==r1.1.fAddr.fLo)&&true)))&&((a0.fLen==r1.1.fLen)&&true)))
theorem A61 (a0:A2) (r:Bool) (h:A1b a0=some r):AC Tryz.prog 42 [(.d (B4 a0))] [] (.d (.bool r)) []:=by
 refine AC.of_code2 Tryz.func42 rfl rfl (Nat.le_of_ble_eq_true (by rfl)) fun B hB hN => ?_
 delta A1b at h
 refine sr (SQ tt) ?_
 obtain⟨r1,hr1,h⟩:=bindS h
 refine sr (SQ (fa (cl [] (B0k a0.fAddr a0.fLen r1 hr1)) tt)) ?_
 refine sr (SQ tt) ?_
 apply ret
 obtain rfl:=oi h
 exact rt (kp [(2,_)] [] hB rfl rfl (by rfl)) [(bo ((r1.2==0)&&(((a0.fAddr.fV6==r1.1.fAddr.fV6)&&((a0.fAddr.fHi==r1.1.fAddr.fHi)&&((a0.fAddr.fLo==r1.1.fAddr.fLo)&&true)))&&((a0.fLen==r1.1.fLen)&&true))))] (rT rN) rfl
def A4b (a1:(List A8)) (s2:Int) (x72:A8) (s80:Int):Option (((Unit)⊕(Unit))⊕(Int)) :=
 (if (decide (s80<(x72.fASNs.length:Int)))=true then
 (idx x72.fASNs s80).bind fun x94 =>
 (idx a1 s2).bind fun x95 =>
 (idx x95.fASNs s80).bind fun x96 =>
 (if (x96 != x94)=true then
 some (.inl (.inl ()))
 else
 some (.inr (w64 (s80+1))))
 else
 some (.inl (.inr ())))
def A2m (a0:(List A8)) (a1:(List A8)) (s2:Int):Option (((Unit)⊕(Unit))⊕(Int)) :=
 (if (decide (s2<(a0.length:Int)))=true then
 (idx a0 s2).bind fun x72 =>
 jn (fun m77:Bool =>
 (if m77=true then
 some (.inl (.inl ()))
 else
 (loop (A4b a1 s2 x72) 0).bind fun x98=>match x98 with
 | (.inl _) =>
  some (.inl (.inl ()))
 | (.inr _) =>
  some (.inr (w64 (s2+1))))) (fun j78 =>
 (idx a1 s2).bind fun x100 =>
 (if (x72.fSet != x100.fSet)=true then
 j78 true
 else
 (idx a1 s2).bind fun x102 =>
 j78 ((x72.fASNs.length:Int) != (x102.fASNs.length:Int))))
 else
 some (.inl (.inr ())))
def A3e (a0:(List A8)) (a1:(List A8)):Option (Bool) :=
 (if ((a0.length:Int) != (a1.length:Int))=true then
 some false
 else
 (loop (A2m a0 a1) 0).bind fun x103=>match x103 with
 | (.inl _) =>
  some false
 | (.inr _) =>
  some true)
theorem A2n (a0:(List A8)) (a1:(List A8)) (r:Bool) (h:A3e a0 a1=some r):AC Tryz.prog 73 [(.d (.list 2 (a0.map C3))),(.d (.list 2 (a1.map C3)))] [] (.d (.bool r)) []:=by
 refine ac2 Tryz.func73 rfl rfl fun B hB hN L => ?_
 delta A3e at h
 refine sr (SQ tt) ?_
 apply seq
 refine sr (SQ tt) ?_
 apply AWp.cond rfl<;>intro hg1
 ·have h:=A3 hg1 h
  refine sr (SQ tt) ?_
  apply ret
  apply B5
  obtain rfl:=oi h
  exact rt (kp [(4,_)] [] hB rfl rfl (by rfl)) [(bo false)] (rT rN) rfl
 ·have h:=A4 hg1 h
  apply AWp.skip
  apply A0
  apply seq
  refine sr (SQ tt) ?_
  apply block
  obtain⟨x103,hx104,h⟩:=bindS h
  refine lg (A2m a0 a1) (fun s2:Int=>([(1,(B9 a1)),(14,(B9 a0)),(15,(i6 (a0.length:Int))),(16,(i6 s2))]:EL)) (fun s2:Int=>([]:OL)) (fun(x:(Unit)⊕(Unit)) e E' O'=>match x with | (.inl _p)=>e = .ret∧Mat B E' O' ([(4,(bo false))]:EL) ([]:OL) | (.inr _p)=>e = .exit 0∧Mat B E' O' ([]:EL) ([]:OL)) hx104 (mp [] _ _ hB) (fun s2 y h => ?_) (fun e E' O' hR => ?_)
  ·unfold A2m at h
   refine sr (SQ tt) ?_
   apply seq
   apply AWp.cond rfl<;>intro hg71
   ·have h:=A3 hg71 h
    apply AWp.skip
    apply A0
    apply seq
    apply block
    obtain⟨x72,hx72,h⟩:=bindS h
    refine sr (SQ (fa hx72 tt)) ?_
    apply seq
    apply seq
    refine AWp.cut h (fun m77:Bool=>([(1,(B9 a1)),(5,(i6 s2)),(6,(pt 1006)),(14,(B9 a0)),(15,(i6 (a0.length:Int))),(16,(i6 s2)),(40,(bo m77))]:EL)) (fun m77:Bool=>([(1006,bd 66 (C3 x72))]:OL)) (fun m77 h E' O' hmat => ?_) (fun j78 hjj78 h => ?_)
    ·apply A0
     refine ghost hmat ?_
     apply AWp.cond rfl<;>intro hg79
     ·have h:=A3 hg79 h
      refine sr (SQ tt) ?_
      apply ret
      apply B5
      apply D3
      apply B5
      obtain rfl:=oi h
      exact⟨(fun hc=>by cases hc),rfl,(mp [] _ _ hB)⟩
     ·have h:=A4 hg79 h
      apply AWp.skip
      apply A0
      refine sr (SQ tt) ?_
      apply block
      obtain⟨x98,hx99,h⟩:=bindS h
      refine lg (A4b a1 s2 x72) (fun s80:Int=>([(1,(B9 a1)),(5,(i6 s2)),(14,(B9 a0)),(15,(i6 (a0.length:Int))),(16,(i6 s2)),(42,(qI_1 x72.fASNs)),(43,(i6 (x72.fASNs.length:Int))),(44,(i6 s80))]:EL)) (fun s80:Int=>([]:OL)) (fun(x:(Unit)⊕(Unit)) e E' O'=>match x with | (.inl _p)=>e = .ret∧Mat B E' O' ([(4,(bo false))]:EL) ([]:OL) | (.inr _p)=>e = .exit 2∧Mat B E' O' ([(1,(B9 a1)),(14,(B9 a0)),(15,(i6 (a0.length:Int))),(16,(i6 s2))]:EL) ([]:OL)) hx99 (mp [] _ _ hB) (fun s80 y h => ?_) (fun e E' O' hR => ?_)
      ·unfold A4b at h
       refine sr (SQ tt) ?_
       apply seq
       apply AWp.cond rfl<;>intro hg93
       ·have h:=A3 hg93 h
        apply AWp.skip
        apply A0
        apply seq
        apply block
        obtain⟨_,hx94,h⟩:=bindS h
        refine sr (SQ (fa hx94 tt)) ?_
        obtain⟨_,hx95,h⟩:=bindS h
        obtain⟨_,hx96,h⟩:=bindS h
        refine sr (SQ (fa hx95 (fa hx96 tt))) ?_
        apply AWp.cond rfl<;>intro hg97
        ·have h:=A3 hg97 h
         refine sr (SQ tt) ?_
         apply ret
         apply D3
         apply B5
         obtain rfl:=oi h
         exact⟨(fun hc=>by cases hc),rfl,(mp [] _ _ hB)⟩
        ·have h:=A4 hg97 h
         apply AWp.skip
         apply D2
         apply A0
         refine rg (SQ tt) ?_
         obtain rfl:=oi h
         exact⟨rfl,(mp [] _ _ hB)⟩
       ·have h:=A4 hg93 h
        apply AWp.exit
        apply D6
        obtain rfl:=oi h
        exact⟨(fun hc=>by cases hc),rfl,(mp [] _ _ hB)⟩
      ·rcases x98 with _ | _
       ·obtain⟨rfl,hmat⟩:=hR
        apply D3
        apply D3
        apply B5
        obtain rfl:=oi h
        exact⟨(fun hc=>by cases hc),rfl,(Mat.trans hmat (mp [] _ _ hB))⟩
       ·obtain⟨rfl,hmat⟩:=hR
        apply C2
        apply D2
        apply A0
        refine ghost hmat ?_
        refine rg (SQ tt) ?_
        obtain rfl:=oi h
        exact⟨rfl,(mp [] _ _ hB)⟩
    ·obtain⟨x100,hx100,h⟩:=bindS h
     rcases bft (x72.fSet != x100.fSet) with hg101 | hg101
     ·have h:=A3 hg101 h
      refine drS (SQ (fa hx100 (fa hg101 tt))) ?_
      exact hjj78 _ h _ _ (mp [] _ _ hB)
     ·have h:=A4 hg101 h
      obtain⟨_,hx102,h⟩:=bindS h
      refine drS (SQ (fa hx100 (fa hg101 (fa hx102 tt)))) ?_
      exact hjj78 _ h _ _ (mp [] _ _ hB)
   ·have h:=A4 hg71 h
    apply AWp.exit
    apply D6
    obtain rfl:=oi h
    exact⟨(fun hc=>by cases hc),rfl,(mp [] _ _ hB)⟩
  ·rcases x103 with _ | _
   ·obtain⟨rfl,hmat⟩:=hR
    apply D3
    apply B5
    obtain rfl:=oi h
    exact rt (Mat.trans hmat (mp [] [(4,(bo false))] [] hB)) [(bo false)] (rT rN) rfl
   ·obtain⟨rfl,hmat⟩:=hR
    apply C2
    apply A0
    refine ghost hmat ?_
    refine sr (SQ tt) ?_
    apply ret
    obtain rfl:=oi h
    exact rt (kp [(4,_)] [] hB rfl rfl (by rfl)) [(bo true)] (rT rN) rfl
def A2o (a0:(List B0)) (a1:(List B0)) (s2:Int):Option (((Unit)⊕(Unit))⊕(Int)) :=
 (if (decide (s2<(a0.length:Int)))=true then
 (idx a0 s2).bind fun x14 =>
 (idx a1 s2).bind fun x15 =>
 (if (!((x15.fA==x14.fA)&&((x15.fB==x14.fB)&&true)))=true then
 some (.inl (.inl ()))
 else
 some (.inr (w64 (s2+1))))
 else
 some (.inl (.inr ())))
def A3f (a0:(List B0)) (a1:(List B0)):Option (Bool) :=
 (if ((a0.length:Int) != (a1.length:Int))=true then
 some false
 else
 (loop (A2o a0 a1) 0).bind fun x17=>match x17 with
 | (.inl _) =>
  some false
 | (.inr _) =>
  some true)
theorem A4c (a0:(List B0)) (a1:(List B0)) (r:Bool) (h:A3f a0 a1=some r):AC Tryz.prog 74 [(.d (.list 2 (a0.map B6))),(.d (.list 2 (a1.map B6)))] [] (.d (.bool r)) []:=by
 refine ac2 Tryz.func74 rfl rfl fun B hB hN L => ?_
 delta A3f at h
 refine sr (SQ tt) ?_
 apply seq
 refine sr (SQ tt) ?_
 apply AWp.cond rfl<;>intro hg1
 ·have h:=A3 hg1 h
  refine sr (SQ tt) ?_
  apply ret
  apply B5
  obtain rfl:=oi h
  exact rt (kp [(4,_)] [] hB rfl rfl (by rfl)) [(bo false)] (rT rN) rfl
 ·have h:=A4 hg1 h
  apply AWp.skip
  apply A0
  apply seq
  refine sr (SQ tt) ?_
  apply block
  obtain⟨x17,hx18,h⟩:=bindS h
  refine lg (A2o a0 a1) (fun s2:Int=>([(1,(C1 a1)),(12,(C1 a0)),(13,(i6 (a0.length:Int))),(14,(i6 s2))]:EL)) (fun s2:Int=>([]:OL)) (fun(x:(Unit)⊕(Unit)) e E' O'=>match x with | (.inl _p)=>e = .ret∧Mat B E' O' ([(4,(bo false))]:EL) ([]:OL) | (.inr _p)=>e = .exit 0∧Mat B E' O' ([]:EL) ([]:OL)) hx18 (mp [] _ _ hB) (fun s2 y h => ?_) (fun e E' O' hR => ?_)
  ·unfold A2o at h
   refine sr (SQ tt) ?_
   apply seq
   apply AWp.cond rfl<;>intro hg13
   ·have h:=A3 hg13 h
    apply AWp.skip
    apply A0
    apply seq
    apply block
    obtain⟨_,hx14,h⟩:=bindS h
    refine sr (SQ (fa hx14 tt)) ?_
    obtain⟨_,hx15,h⟩:=bindS h
    refine sdS (SQ (fa hx15 tt)) ?_
    apply AWp.cond rfl<;>intro hg16
    ·have h:=A3 hg16 h
     refine sr (SQ tt) ?_
     apply ret
     apply D3
     apply B5
     obtain rfl:=oi h
     exact⟨(fun hc=>by cases hc),rfl,(mp [] _ _ hB)⟩
    ·have h:=A4 hg16 h
     apply AWp.skip
     apply D2
     apply A0
     refine rg (SQ tt) ?_
     obtain rfl:=oi h
     exact⟨rfl,(mp [] _ _ hB)⟩
   ·have h:=A4 hg13 h
    apply AWp.exit
    apply D6
    obtain rfl:=oi h
    exact⟨(fun hc=>by cases hc),rfl,(mp [] _ _ hB)⟩
  ·rcases x17 with _ | _
   ·obtain⟨rfl,hmat⟩:=hR
    apply D3
    apply B5
    obtain rfl:=oi h
    exact rt (Mat.trans hmat (mp [] [(4,(bo false))] [] hB)) [(bo false)] (rT rN) rfl
   ·obtain⟨rfl,hmat⟩:=hR
    apply C2
    apply A0
    refine ghost hmat ?_
    refine sr (SQ tt) ?_
    apply ret
    obtain rfl:=oi h
    exact rt (kp [(4,_)] [] hB rfl rfl (by rfl)) [(bo true)] (rT rN) rfl
def X0 (a0:(List D5)) (a1:(List D5)) (s2:Int):Option (((Unit)⊕(Unit))⊕(Int)) :=
 (if (decide (s2<(a0.length:Int)))=true then
 (idx a0 s2).bind fun x14 =>
 (idx a1 s2).bind fun x15 =>
 (if (!((x15.fA==x14.fA)&&((x15.fB==x14.fB)&&((x15.fC==x14.fC)&&true))))=true then
 some (.inl (.inl ()))
 else
 some (.inr (w64 (s2+1))))
 else
 some (.inl (.inr ())))
def X7 (a0:(List D5)) (a1:(List D5)):Option (Bool) :=
 (if ((a0.length:Int) != (a1.length:Int))=true then
 some false
 else
 (loop (X0 a0 a1) 0).bind fun x17=>match x17 with
 | (.inl _) =>
  some false
 | (.inr _) =>
  some true)
theorem A3u (a0:(List D5)) (a1:(List D5)) (r:Bool) (h:X7 a0 a1=some r):AC Tryz.prog 75 [(.d (.list 3 (a0.map D8))),(.d (.list 3 (a1.map D8)))] [] (.d (.bool r)) []:=by
 refine ac2 Tryz.func75 rfl rfl fun B hB hN L => ?_
 delta X7 at h
 refine sr (SQ tt) ?_
 apply seq
 refine sr (SQ tt) ?_
 apply AWp.cond rfl<;>intro hg1
 ·have h:=A3 hg1 h
  refine sr (SQ tt) ?_
  apply ret
  apply B5
  obtain rfl:=oi h
  exact rt (kp [(4,_)] [] hB rfl rfl (by rfl)) [(bo false)] (rT rN) rfl
 ·have h:=A4 hg1 h
  apply AWp.skip
  apply A0
  apply seq
  refine sr (SQ tt) ?_
  apply block
  obtain⟨x17,hx18,h⟩:=bindS h
  refine lg (X0 a0 a1) (fun s2:Int=>([(1,(D7 a1)),(12,(D7 a0)),(13,(i6 (a0.length:Int))),(14,(i6 s2))]:EL)) (fun s2:Int=>([]:OL)) (fun(x:(Unit)⊕(Unit)) e E' O'=>match x with | (.inl _p)=>e = .ret∧Mat B E' O' ([(4,(bo false))]:EL) ([]:OL) | (.inr _p)=>e = .exit 0∧Mat B E' O' ([]:EL) ([]:OL)) hx18 (mp [] _ _ hB) (fun s2 y h => ?_) (fun e E' O' hR => ?_)
  ·unfold X0 at h
   refine sr (SQ tt) ?_
   apply seq
   apply AWp.cond rfl<;>intro hg13
   ·have h:=A3 hg13 h
    apply AWp.skip
    apply A0
    apply seq
    apply block
    obtain⟨_,hx14,h⟩:=bindS h
    refine sr (SQ (fa hx14 tt)) ?_
    obtain⟨_,hx15,h⟩:=bindS h
    refine sdS (SQ (fa hx15 tt)) ?_
    apply AWp.cond rfl<;>intro hg16
    ·have h:=A3 hg16 h
     refine sr (SQ tt) ?_
     apply ret
     apply D3
     apply B5
     obtain rfl:=oi h
     exact⟨(fun hc=>by cases hc),rfl,(mp [] _ _ hB)⟩
    ·have h:=A4 hg16 h
     apply AWp.skip
     apply D2
     apply A0
     refine rg (SQ tt) ?_
     obtain rfl:=oi h
     exact⟨rfl,(mp [] _ _ hB)⟩
   ·have h:=A4 hg13 h
    apply AWp.exit
    apply D6
    obtain rfl:=oi h
    exact⟨(fun hc=>by cases hc),rfl,(mp [] _ _ hB)⟩
  ·rcases x17 with _ | _
   ·obtain⟨rfl,hmat⟩:=hR
    apply D3
    apply B5
    obtain rfl:=oi h
    exact rt (Mat.trans hmat (mp [] [(4,(bo false))] [] hB)) [(bo false)] (rT rN) rfl
   ·obtain⟨rfl,hmat⟩:=hR
    apply C2
    apply A0
    refine ghost hmat ?_
    refine sr (SQ tt) ?_
    apply ret
    obtain rfl:=oi h
    exact rt (kp [(4,_)] [] hB rfl rfl (by rfl)) [(bo true)] (rT rN) rfl
def Z5 (a0:(List A1)) (a1:(List A1)) (s2:Int):Option (((Unit)⊕(Unit))⊕(Int)) :=
 (if (decide (s2<(a0.length:Int)))=true then
 (idx a0 s2).bind fun x38 =>
 jn (fun m45:Bool =>
 (if m45=true then
 some (.inl (.inl ()))
 else
 some (.inr (w64 (s2+1))))) (fun j46 =>
 (idx a1 s2).bind fun x48 =>
 (if (x38.fFlags != x48.fFlags)=true then
 j46 true
 else
 (idx a1 s2).bind fun x50 =>
 (if (x38.fType != x50.fType)=true then
 j46 true
 else
 (idx a1 s2).bind fun x52 =>
 j46 ((bstr x38.fData) != (bstr x52.fData)))))
 else
 some (.inl (.inr ())))
def A05 (a0:(List A1)) (a1:(List A1)):Option (Bool) :=
 (if ((a0.length:Int) != (a1.length:Int))=true then
 some false
 else
 (loop (Z5 a0 a1) 0).bind fun x53=>match x53 with
 | (.inl _) =>
  some false
 | (.inr _) =>
  some true)
theorem A7n (a0:(List A1)) (a1:(List A1)) (r:Bool) (h:A05 a0 a1=some r):AC Tryz.prog 76 [(.d (.list 3 (a0.map A9))),(.d (.list 3 (a1.map A9)))] [] (.d (.bool r)) []:=by
 refine ac2 Tryz.func76 rfl rfl fun B hB hN L => ?_
 delta A05 at h
 refine sr (SQ tt) ?_
 apply seq
 refine sr (SQ tt) ?_
 apply AWp.cond rfl<;>intro hg1
 ·have h:=A3 hg1 h
  refine sr (SQ tt) ?_
  apply ret
  apply B5
  obtain rfl:=oi h
  exact rt (kp [(4,_)] [] hB rfl rfl (by rfl)) [(bo false)] (rT rN) rfl
 ·have h:=A4 hg1 h
  apply AWp.skip
  apply A0
  apply seq
  refine sr (SQ tt) ?_
  apply block
  obtain⟨x53,hx54,h⟩:=bindS h
  refine lg (Z5 a0 a1) (fun s2:Int=>([(1,(B7 a1)),(12,(B7 a0)),(13,(i6 (a0.length:Int))),(14,(i6 s2))]:EL)) (fun s2:Int=>([]:OL)) (fun(x:(Unit)⊕(Unit)) e E' O'=>match x with | (.inl _p)=>e = .ret∧Mat B E' O' ([(4,(bo false))]:EL) ([]:OL) | (.inr _p)=>e = .exit 0∧Mat B E' O' ([]:EL) ([]:OL)) hx54 (mp [] _ _ hB) (fun s2 y h => ?_) (fun e E' O' hR => ?_)
  ·unfold Z5 at h
   refine sr (SQ tt) ?_
   apply seq
   apply AWp.cond rfl<;>intro hg37
   ·have h:=A3 hg37 h
    apply AWp.skip
    apply A0
    apply seq
    apply block
    obtain⟨x38,hx38,h⟩:=bindS h
    refine sr (SQ (fa hx38 tt)) ?_
    apply seq
    refine AWp.cut h (fun m45:Bool=>([(1,(B7 a1)),(12,(B7 a0)),(13,(i6 (a0.length:Int))),(14,(i6 s2)),(48,(bo m45))]:EL)) (fun m45:Bool=>([]:OL)) (fun m45 h E' O' hmat => ?_) (fun j46 hjj46 h => ?_)
    ·apply A0
     refine ghost hmat ?_
     apply AWp.cond rfl<;>intro hg47
     ·have h:=A3 hg47 h
      refine sr (SQ tt) ?_
      apply ret
      apply D3
      apply B5
      obtain rfl:=oi h
      exact⟨(fun hc=>by cases hc),rfl,(mp [] _ _ hB)⟩
     ·have h:=A4 hg47 h
      apply AWp.skip
      apply D2
      apply A0
      refine rg (SQ tt) ?_
      obtain rfl:=oi h
      exact⟨rfl,(mp [] _ _ hB)⟩
    ·obtain⟨x48,hx48,h⟩:=bindS h
     rcases bft (x38.fFlags != x48.fFlags) with hg49 | hg49
     ·have h:=A3 hg49 h
      refine drS (SQ (fa hx48 (fa hg49 tt))) ?_
      exact hjj46 _ h _ _ (mp [] _ _ hB)
     ·have h:=A4 hg49 h
      obtain⟨x50,hx50,h⟩:=bindS h
      rcases bft (x38.fType != x50.fType) with hg51 | hg51
      ·have h:=A3 hg51 h
       refine drS (SQ (fa hx48 (fa hg49 (fa hx50 (fa hg51 tt))))) ?_
       exact hjj46 _ h _ _ (mp [] _ _ hB)
      ·have h:=A4 hg51 h
       obtain⟨x52,hx52,h⟩:=bindS h
       apply dr (c (fo 1006 0 [0] hN underlying69 0 tyS3 (q 6)) rfl (c (la hN 69 tyS3 (q 19)) rfl (c (mv hN (q 1)) rfl (c (mv hN (q 5)) rfl (c (indexD underlying33 tyS69 (F6 hx48).1 (N5 A9 (F6 hx48).2) (L rfl) (q 21) (q 22)) rfl (c (fieldD underlying69 (by rfl) (o:=0) (by rfl) tyS3 (by decide) (by rfl) (by rfl) (L rfl) (q 23)) rfl (c (loadD tyS3 (by rfl) (by rfl) (L rfl) (q 24)) rfl (c (neqI (L rfl) (q 20) (q 25)) rfl (c (OpJ.val (v':=.d (.bool false)) (by rw [hg49]<;>rfl) (mv hN (q 26))) rfl (c (gd 27 (fo 1006 1 [1] hN underlying69 1 tyS3 (q 6))) rfl (c (gd 27 (la hN 69 tyS3 (q 28))) rfl (c (gd 27 (mv hN (q 1))) rfl (c (gd 27 (mv hN (q 5))) rfl (c (gd 27 (indexD underlying33 tyS69 (F6 hx50).1 (N5 A9 (F6 hx50).2) (L rfl) (q 30) (q 31))) rfl (c (gd 27 (fieldD underlying69 (by rfl) (o:=1) (by rfl) tyS3 (by decide) (by rfl) (by rfl) (L rfl) (q 32))) rfl (c (gd 27 (loadD tyS3 (by rfl) (by rfl) (L rfl) (q 33))) rfl (c (gd 27 (neqI (L rfl) (q 29) (q 34))) rfl (c (pickF (L rfl) (q 27) (q 35)) rfl (c (OpJ.val (v':=.d (.bool false)) (by rw [hg51]<;>rfl) (mv hN (q 36))) rfl (c (gd 37 (fo 1006 2 [2] hN underlying69 2 tyS67 (q 6))) rfl (c (gd 37 (la hN 69 tyS67 (q 38))) rfl (cg (gd 37 (OpJ.bytesStr (xs:=x38.fData) tyU67 underlying5 underlying9 (L rfl) (q 39))) rfl (c (gd 37 (mv hN (q 1))) rfl (c (gd 37 (mv hN (q 5))) rfl (c (gd 37 (indexD underlying33 tyS69 (F6 hx52).1 (N5 A9 (F6 hx52).2) (L rfl) (q 41) (q 42))) rfl (c (gd 37 (fieldD underlying69 (by rfl) (o:=2) (by rfl) tyS67 (by decide) (by rfl) (by rfl) (L rfl) (q 43))) rfl (c (gd 37 (loadD tyS67 (by rfl) (by rfl) (L rfl) (q 44))) rfl (cg (gd 37 (OpJ.bytesStr (xs:=x52.fData) tyU67 underlying5 underlying9 (L rfl) (q 45))) rfl (cg (gd 37 (OpJ.neqS (L rfl) (q 40) (q 46))) rfl (c (pickF (L rfl) (q 37) (q 47)) rfl cn)))))))))))))))))))))))))))))) (by kernel_rfl) (by kernel_rfl)
       exact hjj46 _ h _ _ (mp [] _ _ hB)
   ·have h:=A4 hg37 h
    apply AWp.exit
    apply D6
    obtain rfl:=oi h
    exact⟨(fun hc=>by cases hc),rfl,(mp [] _ _ hB)⟩
  ·rcases x53 with _ | _
   ·obtain⟨rfl,hmat⟩:=hR
    apply D3
    apply B5
    obtain rfl:=oi h
    exact rt (Mat.trans hmat (mp [] [(4,(bo false))] [] hB)) [(bo false)] (rT rN) rfl
   ·obtain⟨rfl,hmat⟩:=hR
    apply C2
    apply A0
    refine ghost hmat ?_
    refine sr (SQ tt) ?_
    apply ret
    obtain rfl:=oi h
    exact rt (kp [(4,_)] [] hB rfl rfl (by rfl)) [(bo true)] (rT rN) rfl
def A21 (a0:B2) (a1:B2):Option (Bool) :=
 jn (fun m9:Bool =>
 some m9) (fun j10 =>
 (if (a0.fOrigin==a1.fOrigin)=true then
 (A3e a0.fPath a1.fPath).bind fun r12 =>
 (if ((((r12&&((a0.fNext.fV6==a1.fNext.fV6)&&((a0.fNext.fHi==a1.fNext.fHi)&&((a0.fNext.fLo==a1.fNext.fLo)&&true))))&&(a0.fMED==a1.fMED))&&(a0.fPref==a1.fPref))&&(a0.fOTC==a1.fOTC))=true then
 (A3f a0.fCommunities a1.fCommunities).bind fun r14 =>
 (if r14=true then
 (X7 a0.fLarge a1.fLarge).bind fun r16 =>
 (if r16=true then
 (A05 a0.fOther a1.fOther).bind fun r18 =>
 j10 r18
 else
 j10 false)
 else
 j10 false)
 else
 j10 false)
 else
 j10 false))
theorem B0l (a0:B2) (a1:B2) (r:Bool) (h:A21 a0 a1=some r):AC Tryz.prog 43 [(.d (C0 a0)),(.d (C0 a1))] [] (.d (.bool r)) []:=by
 refine ac2 Tryz.func43 rfl rfl fun B hB hN L => ?_
 delta A21 at h
 apply sr (cg (OpJ.box hB (nm:=1002) (by decide) (by simp) rfl (L rfl) (q 0)) rfl (cg (OpJ.box hB (nm:=1003) (by decide) (by simp) rfl (L rfl) (q 1)) rfl (c (assign (L rfl) (Opd.bool false)) rfl cn)))
 apply seq
 refine AWp.cut h (fun m9:Bool=>([(4,(bo m9))]:EL)) (fun m9:Bool=>([]:OL)) (fun m9 h E' O' hmat => ?_) (fun j10 hjj10 h => ?_)
 ·apply A0
  refine ghost hmat ?_
  apply ret
  obtain rfl:=oi h
  exact rt (kp [(4,_)] [] hB rfl rfl (by rfl)) [(bo m9)] (rT rN) rfl
 ·rcases bft (a0.fOrigin==a1.fOrigin) with hg11 | hg11
  ·have h:=A3 hg11 h
   obtain⟨r12,hr12,h⟩:=bindS h
   rcases bft ((((r12&&((a0.fNext.fV6==a1.fNext.fV6)&&((a0.fNext.fHi==a1.fNext.fHi)&&((a0.fNext.fLo==a1.fNext.fLo)&&true))))&&(a0.fMED==a1.fMED))&&(a0.fPref==a1.fPref))&&(a0.fOTC==a1.fOTC)) with hg13 | hg13
   ·have h:=A3 hg13 h
    obtain⟨r14,hr14,h⟩:=bindS h
    rcases bft r14 with hg15 | hg15
    ·have h:=A3 hg15 h
     obtain⟨r16,hr16,h⟩:=bindS h
     rcases bft r16 with hg17 | hg17
     ·have h:=A3 hg17 h
      obtain⟨r18,hr18,h⟩:=bindS h
      apply rg (c (fo 1002 0 [0] hN underlying35 0 tyS3 (q 2)) rfl (c (la hN 35 tyS3 (q 5)) rfl (c (fo 1003 0 [0] hN underlying35 0 tyS3 (q 3)) rfl (c (la hN 35 tyS3 (q 7)) rfl (c (eqlI (L rfl) (q 6) (q 8)) rfl (c (OpJ.val (v':=.d (.bool true)) (by rw [hg11]<;>rfl) (mv hN (q 9))) rfl (c (gd 10 (fo 1002 1 [1] hN underlying35 1 tyS30 (q 2))) rfl (c (gd 10 (la hN 35 tyS30 (q 11))) rfl (c (gd 10 (fo 1003 1 [1] hN underlying35 1 tyS30 (q 3))) rfl (c (gd 10 (la hN 35 tyS30 (q 13))) rfl (cg (gd 10 (cf hB fnOk73 (A2n a0.fPath a1.fPath r12 hr12) (L rfl) (OpdL.cons (q 12) (OpdL.cons (q 14) OpdL.nil)))) rfl (c (pickT (L rfl) (q 10) (q 15)) rfl (c (mv hN (q 16)) rfl (c (oq hN 17 (fo 1002 2 [2] hN underlying35 2 tyS27 (q 2)) (OptL.keep (by rfl) OptL.nil) (GuardV.plain _)) rfl (c (oq hN 17 (la hN 35 tyS27 (q 18)) (OptL.opt OptL.nil) (GuardV.plain _)) rfl (c (oq hN 17 (fo 1003 2 [2] hN underlying35 2 tyS27 (q 3)) (OptL.keep (by rfl) OptL.nil) (GuardV.plain _)) rfl (c (oq hN 17 (la hN 35 tyS27 (q 20)) (OptL.opt OptL.nil) (GuardV.plain _)) rfl (c (oq hN 17 (OpJ.eqlD (h:=2) (feq27 a0.fNext a1.fNext) eqg27 ⟨rfl,rfl⟩ (by rfl) (L rfl) (q 19) (q 21)) (OptL.opt (OptL.opt OptL.nil)) (GuardV.plain _)) rfl (c (pickAnd rfl (L rfl) (q 17) (q 22)) rfl (c (mv hN (q 23)) rfl (c (oq hN 24 (fo 1002 5 [3] hN underlying35 5 tyS3 (q 2)) (OptL.keep (by rfl) OptL.nil) (GuardV.plain _)) rfl (c (oq hN 24 (la hN 35 tyS3 (q 25)) (OptL.opt OptL.nil) (GuardV.plain _)) rfl (c (oq hN 24 (fo 1003 5 [3] hN underlying35 5 tyS3 (q 3)) (OptL.keep (by rfl) OptL.nil) (GuardV.plain _)) rfl (c (oq hN 24 (la hN 35 tyS3 (q 27)) (OptL.opt OptL.nil) (GuardV.plain _)) rfl (c (oq hN 24 (eqlI (L rfl) (q 26) (q 28)) (OptL.opt (OptL.opt OptL.nil)) (GuardV.plain _)) rfl (c (pickAnd rfl (L rfl) (q 24) (q 29)) rfl (c (mv hN (q 30)) rfl (c (oq hN 31 (fo 1002 6 [4] hN underlying35 6 tyS3 (q 2)) (OptL.keep (by rfl) OptL.nil) (GuardV.plain _)) rfl (c (oq hN 31 (la hN 35 tyS3 (q 32)) (OptL.opt OptL.nil) (GuardV.plain _)) rfl (c (oq hN 31 (fo 1003 6 [4] hN underlying35 6 tyS3 (q 3)) (OptL.keep (by rfl) OptL.nil) (GuardV.plain _)) rfl (c (oq hN 31 (la hN 35 tyS3 (q 34)) (OptL.opt OptL.nil) (GuardV.plain _)) rfl (c (oq hN 31 (eqlI (L rfl) (q 33) (q 35)) (OptL.opt (OptL.opt OptL.nil)) (GuardV.plain _)) rfl (c (pickAnd rfl (L rfl) (q 31) (q 36)) rfl (c (mv hN (q 37)) rfl (c (oq hN 38 (fo 1002 7 [5] hN underlying35 7 tyS3 (q 2)) (OptL.keep (by rfl) OptL.nil) (GuardV.plain _)) rfl (c (oq hN 38 (la hN 35 tyS3 (q 39)) (OptL.opt OptL.nil) (GuardV.plain _)) rfl (c (oq hN 38 (fo 1003 7 [5] hN underlying35 7 tyS3 (q 3)) (OptL.keep (by rfl) OptL.nil) (GuardV.plain _)) rfl (c (oq hN 38 (la hN 35 tyS3 (q 41)) (OptL.opt OptL.nil) (GuardV.plain _)) rfl (c (oq hN 38 (eqlI (L rfl) (q 40) (q 42)) (OptL.opt (OptL.opt OptL.nil)) (GuardV.plain _)) rfl (c (pickAnd rfl (L rfl) (q 38) (q 43)) rfl (c (OpJ.val (v':=.d (.bool true)) (by rw [hg13]<;>rfl) (mv hN (q 44))) rfl (c (gd 45 (fo 1002 8 [6] hN underlying35 8 tyS31 (q 2))) rfl (c (gd 45 (la hN 35 tyS31 (q 46))) rfl (c (gd 45 (fo 1003 8 [6] hN underlying35 8 tyS31 (q 3))) rfl (c (gd 45 (la hN 35 tyS31 (q 48))) rfl (cg (gd 45 (cf hB fnOk74 (A4c a0.fCommunities a1.fCommunities r14 hr14) (L rfl) (OpdL.cons (q 47) (OpdL.cons (q 49) OpdL.nil)))) rfl (c (pickT (L rfl) (q 45) (q 50)) rfl (c (OpJ.val (v':=.d (.bool true)) (by rw [hg15]<;>rfl) (mv hN (q 51))) rfl (c (gd 52 (fo 1002 9 [7] hN underlying35 9 tyS32 (q 2))) rfl (c (gd 52 (la hN 35 tyS32 (q 53))) rfl (c (gd 52 (fo 1003 9 [7] hN underlying35 9 tyS32 (q 3))) rfl (c (gd 52 (la hN 35 tyS32 (q 55))) rfl (cg (gd 52 (cf hB fnOk75 (A3u a0.fLarge a1.fLarge r16 hr16) (L rfl) (OpdL.cons (q 54) (OpdL.cons (q 56) OpdL.nil)))) rfl (c (pickT (L rfl) (q 52) (q 57)) rfl (c (OpJ.val (v':=.d (.bool true)) (by rw [hg17]<;>rfl) (mv hN (q 58))) rfl (c (gd 59 (fo 1002 10 [8] hN underlying35 10 tyS33 (q 2))) rfl (c (gd 59 (la hN 35 tyS33 (q 60))) rfl (c (gd 59 (fo 1003 10 [8] hN underlying35 10 tyS33 (q 3))) rfl (c (gd 59 (la hN 35 tyS33 (q 62))) rfl (cg (gd 59 (cf hB fnOk76 (A7n a0.fOther a1.fOther r18 hr18) (L rfl) (OpdL.cons (q 61) (OpdL.cons (q 63) OpdL.nil)))) rfl (c (pickT (L rfl) (q 59) (q 64)) rfl (c (assign (L rfl) (q 65)) rfl cn))))))))))))))))))))))))))))))))))))))))))))))))))))))))))))))
      exact hjj10 _ h _ _ (mp [] _ _ hB)
     ·have h:=A4 hg17 h
      apply rg (c (fo 1002 0 [0] hN underlying35 0 tyS3 (q 2)) rfl (c (la hN 35 tyS3 (q 5)) rfl (c (fo 1003 0 [0] hN underlying35 0 tyS3 (q 3)) rfl (c (la hN 35 tyS3 (q 7)) rfl (c (eqlI (L rfl) (q 6) (q 8)) rfl (c (OpJ.val (v':=.d (.bool true)) (by rw [hg11]<;>rfl) (mv hN (q 9))) rfl (c (gd 10 (fo 1002 1 [1] hN underlying35 1 tyS30 (q 2))) rfl (c (gd 10 (la hN 35 tyS30 (q 11))) rfl (c (gd 10 (fo 1003 1 [1] hN underlying35 1 tyS30 (q 3))) rfl (c (gd 10 (la hN 35 tyS30 (q 13))) rfl (cg (gd 10 (cf hB fnOk73 (A2n a0.fPath a1.fPath r12 hr12) (L rfl) (OpdL.cons (q 12) (OpdL.cons (q 14) OpdL.nil)))) rfl (c (pickT (L rfl) (q 10) (q 15)) rfl (c (mv hN (q 16)) rfl (c (oq hN 17 (fo 1002 2 [2] hN underlying35 2 tyS27 (q 2)) (OptL.keep (by rfl) OptL.nil) (GuardV.plain _)) rfl (c (oq hN 17 (la hN 35 tyS27 (q 18)) (OptL.opt OptL.nil) (GuardV.plain _)) rfl (c (oq hN 17 (fo 1003 2 [2] hN underlying35 2 tyS27 (q 3)) (OptL.keep (by rfl) OptL.nil) (GuardV.plain _)) rfl (c (oq hN 17 (la hN 35 tyS27 (q 20)) (OptL.opt OptL.nil) (GuardV.plain _)) rfl (c (oq hN 17 (OpJ.eqlD (h:=2) (feq27 a0.fNext a1.fNext) eqg27 ⟨rfl,rfl⟩ (by rfl) (L rfl) (q 19) (q 21)) (OptL.opt (OptL.opt OptL.nil)) (GuardV.plain _)) rfl (c (pickAnd rfl (L rfl) (q 17) (q 22)) rfl (c (mv hN (q 23)) rfl (c (oq hN 24 (fo 1002 5 [3] hN underlying35 5 tyS3 (q 2)) (OptL.keep (by rfl) OptL.nil) (GuardV.plain _)) rfl (c (oq hN 24 (la hN 35 tyS3 (q 25)) (OptL.opt OptL.nil) (GuardV.plain _)) rfl (c (oq hN 24 (fo 1003 5 [3] hN underlying35 5 tyS3 (q 3)) (OptL.keep (by rfl) OptL.nil) (GuardV.plain _)) rfl (c (oq hN 24 (la hN 35 tyS3 (q 27)) (OptL.opt OptL.nil) (GuardV.plain _)) rfl (c (oq hN 24 (eqlI (L rfl) (q 26) (q 28)) (OptL.opt (OptL.opt OptL.nil)) (GuardV.plain _)) rfl (c (pickAnd rfl (L rfl) (q 24) (q 29)) rfl (c (mv hN (q 30)) rfl (c (oq hN 31 (fo 1002 6 [4] hN underlying35 6 tyS3 (q 2)) (OptL.keep (by rfl) OptL.nil) (GuardV.plain _)) rfl (c (oq hN 31 (la hN 35 tyS3 (q 32)) (OptL.opt OptL.nil) (GuardV.plain _)) rfl (c (oq hN 31 (fo 1003 6 [4] hN underlying35 6 tyS3 (q 3)) (OptL.keep (by rfl) OptL.nil) (GuardV.plain _)) rfl (c (oq hN 31 (la hN 35 tyS3 (q 34)) (OptL.opt OptL.nil) (GuardV.plain _)) rfl (c (oq hN 31 (eqlI (L rfl) (q 33) (q 35)) (OptL.opt (OptL.opt OptL.nil)) (GuardV.plain _)) rfl (c (pickAnd rfl (L rfl) (q 31) (q 36)) rfl (c (mv hN (q 37)) rfl (c (oq hN 38 (fo 1002 7 [5] hN underlying35 7 tyS3 (q 2)) (OptL.keep (by rfl) OptL.nil) (GuardV.plain _)) rfl (c (oq hN 38 (la hN 35 tyS3 (q 39)) (OptL.opt OptL.nil) (GuardV.plain _)) rfl (c (oq hN 38 (fo 1003 7 [5] hN underlying35 7 tyS3 (q 3)) (OptL.keep (by rfl) OptL.nil) (GuardV.plain _)) rfl (c (oq hN 38 (la hN 35 tyS3 (q 41)) (OptL.opt OptL.nil) (GuardV.plain _)) rfl (c (oq hN 38 (eqlI (L rfl) (q 40) (q 42)) (OptL.opt (OptL.opt OptL.nil)) (GuardV.plain _)) rfl (c (pickAnd rfl (L rfl) (q 38) (q 43)) rfl (c (OpJ.val (v':=.d (.bool true)) (by rw [hg13]<;>rfl) (mv hN (q 44))) rfl (c (gd 45 (fo 1002 8 [6] hN underlying35 8 tyS31 (q 2))) rfl (c (gd 45 (la hN 35 tyS31 (q 46))) rfl (c (gd 45 (fo 1003 8 [6] hN underlying35 8 tyS31 (q 3))) rfl (c (gd 45 (la hN 35 tyS31 (q 48))) rfl (cg (gd 45 (cf hB fnOk74 (A4c a0.fCommunities a1.fCommunities r14 hr14) (L rfl) (OpdL.cons (q 47) (OpdL.cons (q 49) OpdL.nil)))) rfl (c (pickT (L rfl) (q 45) (q 50)) rfl (c (OpJ.val (v':=.d (.bool true)) (by rw [hg15]<;>rfl) (mv hN (q 51))) rfl (c (gd 52 (fo 1002 9 [7] hN underlying35 9 tyS32 (q 2))) rfl (c (gd 52 (la hN 35 tyS32 (q 53))) rfl (c (gd 52 (fo 1003 9 [7] hN underlying35 9 tyS32 (q 3))) rfl (c (gd 52 (la hN 35 tyS32 (q 55))) rfl (cg (gd 52 (cf hB fnOk75 (A3u a0.fLarge a1.fLarge r16 hr16) (L rfl) (OpdL.cons (q 54) (OpdL.cons (q 56) OpdL.nil)))) rfl (c (pickT (L rfl) (q 52) (q 57)) rfl (c (OpJ.val (v':=.d (.bool false)) (by rw [hg17]<;>rfl) (mv hN (q 58))) rfl (ks 59 (L rfl) (ks 59 (L rfl) (ks 59 (L rfl) (ks 59 (L rfl) (ks 59 (L rfl) (c (pickF (L rfl) (q 59) (Opd.bool false)) rfl (c (assign (L rfl) (q 65)) rfl cn))))))))))))))))))))))))))))))))))))))))))))))))))))))))))))))
      exact hjj10 _ h _ _ (mp [] _ _ hB)
    ·have h:=A4 hg15 h
     apply rg (c (fo 1002 0 [0] hN underlying35 0 tyS3 (q 2)) rfl (c (la hN 35 tyS3 (q 5)) rfl (c (fo 1003 0 [0] hN underlying35 0 tyS3 (q 3)) rfl (c (la hN 35 tyS3 (q 7)) rfl (c (eqlI (L rfl) (q 6) (q 8)) rfl (c (OpJ.val (v':=.d (.bool true)) (by rw [hg11]<;>rfl) (mv hN (q 9))) rfl (c (gd 10 (fo 1002 1 [1] hN underlying35 1 tyS30 (q 2))) rfl (c (gd 10 (la hN 35 tyS30 (q 11))) rfl (c (gd 10 (fo 1003 1 [1] hN underlying35 1 tyS30 (q 3))) rfl (c (gd 10 (la hN 35 tyS30 (q 13))) rfl (cg (gd 10 (cf hB fnOk73 (A2n a0.fPath a1.fPath r12 hr12) (L rfl) (OpdL.cons (q 12) (OpdL.cons (q 14) OpdL.nil)))) rfl (c (pickT (L rfl) (q 10) (q 15)) rfl (c (mv hN (q 16)) rfl (c (oq hN 17 (fo 1002 2 [2] hN underlying35 2 tyS27 (q 2)) (OptL.keep (by rfl) OptL.nil) (GuardV.plain _)) rfl (c (oq hN 17 (la hN 35 tyS27 (q 18)) (OptL.opt OptL.nil) (GuardV.plain _)) rfl (c (oq hN 17 (fo 1003 2 [2] hN underlying35 2 tyS27 (q 3)) (OptL.keep (by rfl) OptL.nil) (GuardV.plain _)) rfl (c (oq hN 17 (la hN 35 tyS27 (q 20)) (OptL.opt OptL.nil) (GuardV.plain _)) rfl (c (oq hN 17 (OpJ.eqlD (h:=2) (feq27 a0.fNext a1.fNext) eqg27 ⟨rfl,rfl⟩ (by rfl) (L rfl) (q 19) (q 21)) (OptL.opt (OptL.opt OptL.nil)) (GuardV.plain _)) rfl (c (pickAnd rfl (L rfl) (q 17) (q 22)) rfl (c (mv hN (q 23)) rfl (c (oq hN 24 (fo 1002 5 [3] hN underlying35 5 tyS3 (q 2)) (OptL.keep (by rfl) OptL.nil) (GuardV.plain _)) rfl (c (oq hN 24 (la hN 35 tyS3 (q 25)) (OptL.opt OptL.nil) (GuardV.plain _)) rfl (c (oq hN 24 (fo 1003 5 [3] hN underlying35 5 tyS3 (q 3)) (OptL.keep (by rfl) OptL.nil) (GuardV.plain _)) rfl (c (oq hN 24 (la hN 35 tyS3 (q 27)) (OptL.opt OptL.nil) (GuardV.plain _)) rfl (c (oq hN 24 (eqlI (L rfl) (q 26) (q 28)) (OptL.opt (OptL.opt OptL.nil)) (GuardV.plain _)) rfl (c (pickAnd rfl (L rfl) (q 24) (q 29)) rfl (c (mv hN (q 30)) rfl (c (oq hN 31 (fo 1002 6 [4] hN underlying35 6 tyS3 (q 2)) (OptL.keep (by rfl) OptL.nil) (GuardV.plain _)) rfl (c (oq hN 31 (la hN 35 tyS3 (q 32)) (OptL.opt OptL.nil) (GuardV.plain _)) rfl (c (oq hN 31 (fo 1003 6 [4] hN underlying35 6 tyS3 (q 3)) (OptL.keep (by rfl) OptL.nil) (GuardV.plain _)) rfl (c (oq hN 31 (la hN 35 tyS3 (q 34)) (OptL.opt OptL.nil) (GuardV.plain _)) rfl (c (oq hN 31 (eqlI (L rfl) (q 33) (q 35)) (OptL.opt (OptL.opt OptL.nil)) (GuardV.plain _)) rfl (c (pickAnd rfl (L rfl) (q 31) (q 36)) rfl (c (mv hN (q 37)) rfl (c (oq hN 38 (fo 1002 7 [5] hN underlying35 7 tyS3 (q 2)) (OptL.keep (by rfl) OptL.nil) (GuardV.plain _)) rfl (c (oq hN 38 (la hN 35 tyS3 (q 39)) (OptL.opt OptL.nil) (GuardV.plain _)) rfl (c (oq hN 38 (fo 1003 7 [5] hN underlying35 7 tyS3 (q 3)) (OptL.keep (by rfl) OptL.nil) (GuardV.plain _)) rfl (c (oq hN 38 (la hN 35 tyS3 (q 41)) (OptL.opt OptL.nil) (GuardV.plain _)) rfl (c (oq hN 38 (eqlI (L rfl) (q 40) (q 42)) (OptL.opt (OptL.opt OptL.nil)) (GuardV.plain _)) rfl (c (pickAnd rfl (L rfl) (q 38) (q 43)) rfl (c (OpJ.val (v':=.d (.bool true)) (by rw [hg13]<;>rfl) (mv hN (q 44))) rfl (c (gd 45 (fo 1002 8 [6] hN underlying35 8 tyS31 (q 2))) rfl (c (gd 45 (la hN 35 tyS31 (q 46))) rfl (c (gd 45 (fo 1003 8 [6] hN underlying35 8 tyS31 (q 3))) rfl (c (gd 45 (la hN 35 tyS31 (q 48))) rfl (cg (gd 45 (cf hB fnOk74 (A4c a0.fCommunities a1.fCommunities r14 hr14) (L rfl) (OpdL.cons (q 47) (OpdL.cons (q 49) OpdL.nil)))) rfl (c (pickT (L rfl) (q 45) (q 50)) rfl (c (OpJ.val (v':=.d (.bool false)) (by rw [hg15]<;>rfl) (mv hN (q 51))) rfl (ks 52 (L rfl) (ks 52 (L rfl) (ks 52 (L rfl) (ks 52 (L rfl) (ks 52 (L rfl) (c (pickF (L rfl) (q 52) (Opd.bool false)) rfl (c (mv hN (q 58)) rfl (ks 59 (L rfl) (ks 59 (L rfl) (ks 59 (L rfl) (ks 59 (L rfl) (ks 59 (L rfl) (c (pickF (L rfl) (q 59) (Opd.bool false)) rfl (c (assign (L rfl) (q 65)) rfl cn))))))))))))))))))))))))))))))))))))))))))))))))))))))))))))))
     exact hjj10 _ h _ _ (mp [] _ _ hB)
   ·have h:=A4 hg13 h
    apply rg (c (fo 1002 0 [0] hN underlying35 0 tyS3 (q 2)) rfl (c (la hN 35 tyS3 (q 5)) rfl (c (fo 1003 0 [0] hN underlying35 0 tyS3 (q 3)) rfl (c (la hN 35 tyS3 (q 7)) rfl (c (eqlI (L rfl) (q 6) (q 8)) rfl (c (OpJ.val (v':=.d (.bool true)) (by rw [hg11]<;>rfl) (mv hN (q 9))) rfl (c (gd 10 (fo 1002 1 [1] hN underlying35 1 tyS30 (q 2))) rfl (c (gd 10 (la hN 35 tyS30 (q 11))) rfl (c (gd 10 (fo 1003 1 [1] hN underlying35 1 tyS30 (q 3))) rfl (c (gd 10 (la hN 35 tyS30 (q 13))) rfl (cg (gd 10 (cf hB fnOk73 (A2n a0.fPath a1.fPath r12 hr12) (L rfl) (OpdL.cons (q 12) (OpdL.cons (q 14) OpdL.nil)))) rfl (c (pickT (L rfl) (q 10) (q 15)) rfl (c (mv hN (q 16)) rfl (c (oq hN 17 (fo 1002 2 [2] hN underlying35 2 tyS27 (q 2)) (OptL.keep (by rfl) OptL.nil) (GuardV.plain _)) rfl (c (oq hN 17 (la hN 35 tyS27 (q 18)) (OptL.opt OptL.nil) (GuardV.plain _)) rfl (c (oq hN 17 (fo 1003 2 [2] hN underlying35 2 tyS27 (q 3)) (OptL.keep (by rfl) OptL.nil) (GuardV.plain _)) rfl (c (oq hN 17 (la hN 35 tyS27 (q 20)) (OptL.opt OptL.nil) (GuardV.plain _)) rfl (c (oq hN 17 (OpJ.eqlD (h:=2) (feq27 a0.fNext a1.fNext) eqg27 ⟨rfl,rfl⟩ (by rfl) (L rfl) (q 19) (q 21)) (OptL.opt (OptL.opt OptL.nil)) (GuardV.plain _)) rfl (c (pickAnd rfl (L rfl) (q 17) (q 22)) rfl (c (mv hN (q 23)) rfl (c (oq hN 24 (fo 1002 5 [3] hN underlying35 5 tyS3 (q 2)) (OptL.keep (by rfl) OptL.nil) (GuardV.plain _)) rfl (c (oq hN 24 (la hN 35 tyS3 (q 25)) (OptL.opt OptL.nil) (GuardV.plain _)) rfl (c (oq hN 24 (fo 1003 5 [3] hN underlying35 5 tyS3 (q 3)) (OptL.keep (by rfl) OptL.nil) (GuardV.plain _)) rfl (c (oq hN 24 (la hN 35 tyS3 (q 27)) (OptL.opt OptL.nil) (GuardV.plain _)) rfl (c (oq hN 24 (eqlI (L rfl) (q 26) (q 28)) (OptL.opt (OptL.opt OptL.nil)) (GuardV.plain _)) rfl (c (pickAnd rfl (L rfl) (q 24) (q 29)) rfl (c (mv hN (q 30)) rfl (c (oq hN 31 (fo 1002 6 [4] hN underlying35 6 tyS3 (q 2)) (OptL.keep (by rfl) OptL.nil) (GuardV.plain _)) rfl (c (oq hN 31 (la hN 35 tyS3 (q 32)) (OptL.opt OptL.nil) (GuardV.plain _)) rfl (c (oq hN 31 (fo 1003 6 [4] hN underlying35 6 tyS3 (q 3)) (OptL.keep (by rfl) OptL.nil) (GuardV.plain _)) rfl (c (oq hN 31 (la hN 35 tyS3 (q 34)) (OptL.opt OptL.nil) (GuardV.plain _)) rfl (c (oq hN 31 (eqlI (L rfl) (q 33) (q 35)) (OptL.opt (OptL.opt OptL.nil)) (GuardV.plain _)) rfl (c (pickAnd rfl (L rfl) (q 31) (q 36)) rfl (c (mv hN (q 37)) rfl (c (oq hN 38 (fo 1002 7 [5] hN underlying35 7 tyS3 (q 2)) (OptL.keep (by rfl) OptL.nil) (GuardV.plain _)) rfl (c (oq hN 38 (la hN 35 tyS3 (q 39)) (OptL.opt OptL.nil) (GuardV.plain _)) rfl (c (oq hN 38 (fo 1003 7 [5] hN underlying35 7 tyS3 (q 3)) (OptL.keep (by rfl) OptL.nil) (GuardV.plain _)) rfl (c (oq hN 38 (la hN 35 tyS3 (q 41)) (OptL.opt OptL.nil) (GuardV.plain _)) rfl (c (oq hN 38 (eqlI (L rfl) (q 40) (q 42)) (OptL.opt (OptL.opt OptL.nil)) (GuardV.plain _)) rfl (c (pickAnd rfl (L rfl) (q 38) (q 43)) rfl (c (OpJ.val (v':=.d (.bool false)) (by rw [hg13]<;>rfl) (mv hN (q 44))) rfl (ks 45 (L rfl) (ks 45 (L rfl) (ks 45 (L rfl) (ks 45 (L rfl) (ks 45 (L rfl) (c (pickF (L rfl) (q 45) (Opd.bool false)) rfl (c (mv hN (q 51)) rfl (ks 52 (L rfl) (ks 52 (L rfl) (ks 52 (L rfl) (ks 52 (L rfl) (ks 52 (L rfl) (c (pickF (L rfl) (q 52) (Opd.bool false)) rfl (c (mv hN (q 58)) rfl (ks 59 (L rfl) (ks 59 (L rfl) (ks 59 (L rfl) (ks 59 (L rfl) (ks 59 (L rfl) (c (pickF (L rfl) (q 59) (Opd.bool false)) rfl (c (assign (L rfl) (q 65)) rfl cn))))))))))))))))))))))))))))))))))))))))))))))))))))))))))))))
    exact hjj10 _ h _ _ (mp [] _ _ hB)
  ·have h:=A4 hg11 h
   apply rg (c (fo 1002 0 [0] hN underlying35 0 tyS3 (q 2)) rfl (c (la hN 35 tyS3 (q 5)) rfl (c (fo 1003 0 [0] hN underlying35 0 tyS3 (q 3)) rfl (c (la hN 35 tyS3 (q 7)) rfl (c (eqlI (L rfl) (q 6) (q 8)) rfl (c (OpJ.val (v':=.d (.bool false)) (by rw [hg11]<;>rfl) (mv hN (q 9))) rfl (ks 10 (L rfl) (ks 10 (L rfl) (ks 10 (L rfl) (ks 10 (L rfl) (ks 10 (L rfl) (c (pickF (L rfl) (q 10) (Opd.bool false)) rfl (c (mv hN (q 16)) rfl (ks 17 (L rfl) (ks 17 (L rfl) (ks 17 (L rfl) (ks 17 (L rfl) (ks 17 (L rfl) (c (pickF (L rfl) (q 17) (Opd.bool false)) rfl (c (mv hN (q 23)) rfl (ks 24 (L rfl) (ks 24 (L rfl) (ks 24 (L rfl) (ks 24 (L rfl) (ks 24 (L rfl) (c (pickF (L rfl) (q 24) (Opd.bool false)) rfl (c (mv hN (q 30)) rfl (ks 31 (L rfl) (ks 31 (L rfl) (ks 31 (L rfl) (ks 31 (L rfl) (ks 31 (L rfl) (c (pickF (L rfl) (q 31) (Opd.bool false)) rfl (c (mv hN (q 37)) rfl (ks 38 (L rfl) (ks 38 (L rfl) (ks 38 (L rfl) (ks 38 (L rfl) (ks 38 (L rfl) (c (pickF (L rfl) (q 38) (Opd.bool false)) rfl (c (mv hN (q 44)) rfl (ks 45 (L rfl) (ks 45 (L rfl) (ks 45 (L rfl) (ks 45 (L rfl) (ks 45 (L rfl) (c (pickF (L rfl) (q 45) (Opd.bool false)) rfl (c (mv hN (q 51)) rfl (ks 52 (L rfl) (ks 52 (L rfl) (ks 52 (L rfl) (ks 52 (L rfl) (ks 52 (L rfl) (c (pickF (L rfl) (q 52) (Opd.bool false)) rfl (c (mv hN (q 58)) rfl (ks 59 (L rfl) (ks 59 (L rfl) (ks 59 (L rfl) (ks 59 (L rfl) (ks 59 (L rfl) (c (pickF (L rfl) (q 59) (Opd.bool false)) rfl (c (assign (L rfl) (q 65)) rfl cn))))))))))))))))))))))))))))))))))))))))))))))))))))))))))))))
   exact hjj10 _ h _ _ (mp [] _ _ hB)
def W5 (a0:Int):Option (Int) :=
 jn (fun m4:Bool =>
 (if m4=true then
 some 64
 else
 (if (a0==4)=true then
 some 128
 else
 jn (fun m10:Bool =>
 (if m10=true then
 some 192
 else
 some 0)) (fun j11 =>
 (if (a0==8)=true then
 j11 (a0==8)
 else
 (if (a0==32)=true then
 j11 (a0==32)
 else
 j11 (a0==35))))))) (fun j5 =>
 (if (a0==1)=true then
 j5 (a0==1)
 else
 (if (a0==2)=true then
 j5 (a0==2)
 else
 (if (a0==3)=true then
 j5 (a0==3)
 else
 j5 (a0==5)))))
theorem A62 (a0:Int) (r:Int) (h:W5 a0=some r):AC Tryz.prog 101 [(.d (.int .i64 a0))] [] (.d (.int .i64 r)) []:=by
 refine ac2 Tryz.func101 rfl rfl fun B hB hN L => ?_
 delta W5 at h
 refine sr (SQ tt) ?_
 apply seq
 refine sr (SQ tt) ?_
 apply block
 apply seq
 refine sr (SQ tt) ?_
 refine gh [(3,_),(4,_)] [] hB rfl rfl (by rfl) ?_
 refine AWp.cut h (fun m4:Bool=>([(3,(i6 a0)),(4,(bo m4))]:EL)) (fun m4:Bool=>([]:OL)) (fun m4 h E' O' hmat => ?_) (fun j5 hjj5 h => ?_)
 ·apply A0
  refine ghost hmat ?_
  apply AWp.cond rfl<;>intro hg6
  ·have h:=A3 hg6 h
   refine sr (SQ tt) ?_
   apply ret
   apply D3
   apply B5
   obtain rfl:=oi h
   exact rt (kp [(2,_)] [] hB rfl rfl (by rfl)) [(i6 64)] (rT rN) rfl
  ·have h:=A4 hg6 h
   refine sr (SQ tt) ?_
   apply AWp.cond rfl<;>intro hg7
   ·have h:=A3 hg7 h
    refine sr (SQ tt) ?_
    apply ret
    apply D3
    apply B5
    obtain rfl:=oi h
    exact rt (kp [(2,_)] [] hB rfl rfl (by rfl)) [(i6 128)] (rT rN) rfl
   ·have h:=A4 hg7 h
    apply seq
    refine sr (SQ tt) ?_
    refine gh [(3,_),(11,_)] [] hB rfl rfl (by rfl) ?_
    refine AWp.cut h (fun m10:Bool=>([(11,(bo m10))]:EL)) (fun m10:Bool=>([]:OL)) (fun m10 h E' O' hmat => ?_) (fun j11 hjj11 h => ?_)
    ·apply A0
     refine ghost hmat ?_
     apply AWp.cond rfl<;>intro hg12
     ·have h:=A3 hg12 h
      refine sr (SQ tt) ?_
      apply ret
      apply D3
      apply B5
      obtain rfl:=oi h
      exact rt (kp [(2,_)] [] hB rfl rfl (by rfl)) [(i6 192)] (rT rN) rfl
     ·have h:=A4 hg12 h
      apply AWp.skip
      apply D2
      apply A0
      refine sr (SQ tt) ?_
      apply ret
      obtain rfl:=oi h
      exact rt (kp [(2,_)] [] hB rfl rfl (by rfl)) [(i6 0)] (rT rN) rfl
    ·apply AWp.cond rfl<;>intro hg13
     ·have h:=A3 hg13 h
      apply AWp.skip
      exact hjj11 _ h _ _ (mp [] _ _ hB)
     ·have h:=A4 hg13 h
      refine sr (SQ tt) ?_
      apply AWp.cond rfl<;>intro hg14
      ·have h:=A3 hg14 h
       apply AWp.skip
       exact hjj11 _ h _ _ (mp [] _ _ hB)
      ·have h:=A4 hg14 h
       refine rg (SQ tt) ?_
       exact hjj11 _ h _ _ (mp [] _ _ hB)
 ·apply AWp.cond rfl<;>intro hg15
  ·have h:=A3 hg15 h
   apply AWp.skip
   exact hjj5 _ h _ _ (mp [] _ _ hB)
  ·have h:=A4 hg15 h
   refine sr (SQ tt) ?_
   apply AWp.cond rfl<;>intro hg16
   ·have h:=A3 hg16 h
    apply AWp.skip
    exact hjj5 _ h _ _ (mp [] _ _ hB)
   ·have h:=A4 hg16 h
    refine sr (SQ tt) ?_
    apply AWp.cond rfl<;>intro hg17
    ·have h:=A3 hg17 h
     apply AWp.skip
     exact hjj5 _ h _ _ (mp [] _ _ hB)
    ·have h:=A4 hg17 h
     refine rg (SQ tt) ?_
     exact hjj5 _ h _ _ (mp [] _ _ hB)
def Q2 (a0:Int):Option (Bool) :=
 (W5 a0).bind fun r1 =>
 some (((r1==0)&&(a0 != 14))&&(a0 != 15))
theorem A2p (a0:Int) (r:Bool) (h:Q2 a0=some r):AC Tryz.prog 77 [(.d (.int .i64 a0))] [] (.d (.bool r)) []:=by
 refine AC.of_code2 Tryz.func77 rfl rfl (Nat.le_of_ble_eq_true (by rfl)) fun B hB hN => ?_
 delta Q2 at h
 refine sr (SQ tt) ?_
 obtain⟨r1,hr1,h⟩:=bindS h
 refine sr (SQ (fa (cl [] (A62 a0 r1 hr1)) tt)) ?_
 apply ret
 obtain rfl:=oi h
 exact rt (kp [(2,_)] [] hB rfl rfl (by rfl)) [(bo (((r1==0)&&(a0 != 14))&&(a0 != 15)))] (rT rN) rfl
end
end Go.Proofs.YtkhjkjojjdkidaaGreatDoor
