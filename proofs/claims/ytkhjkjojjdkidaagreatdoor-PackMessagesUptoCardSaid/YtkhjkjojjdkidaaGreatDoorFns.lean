/- Printed by gen.py: the Go functions as plain functions, and that the code does what they say. -/
import Derived.Test.YtkhjkjojjdkidaaGreatDoorChecked
import Derived.Test.YtkhjkjojjdkidaaGreatDoorVcYB
import Derived.Test.YtkhjkjojjdkidaaGreatDoorVcZ
import Derived.Test.YtkhjkjojjdkidaaGreatDoorVcGC
import Derived.KernelRfl
import Derived.Test.YtkhjkjojjdkidaaGreatDoorVcMD
import Derived.Test.YtkhjkjojjdkidaaGreatDoorVcMQ
import Derived.Test.YtkhjkjojjdkidaaGreatDoorVcSG
import Derived.Test.YtkhjkjojjdkidaaGreatDoorFnsD
import Derived.Test.YtkhjkjojjdkidaaGreatDoorExt
import Derived.Test.YtkhjkjojjdkidaaGreatDoorVcPm
import Derived.Test.YtkhjkjojjdkidaaGreatDoorVcRg
import Derived.Test.YtkhjkjojjdkidaaGreatDoorVcSt
import Derived.Test.YtkhjkjojjdkidaaGreatDoorVcMR
namespace Go.Proofs.YtkhjkjojjdkidaaGreatDoor
open Go Go.Vc
open Tryz
open Go.Vc.OpJ (assign alloc lss pickT pickF extract lenD indexD loadD eqlI gtr callVal leq geq loadR nilP indexS buildSlice lenS fieldD neqI pickAnd pickOr)
open Go.Vc.AWp (seq ghost ret block)
set_option maxHeartbeats 4000000
set_option maxRecDepth 100000
noncomputable section
def X9 (a0:(List A5)) (s1:Int):Option (((Unit)⊕(Unit))⊕(Int)) :=
 (if (decide (s1<(a0.length:Int)))=true then
 (idx a0 s1).bind fun x37 =>
 jn (fun m44:Bool =>
 (if m44=true then
 some (.inl (.inl ()))
 else
 some (.inr (w64 (s1+1))))) (fun j45 =>
 (A3i x37).bind fun r47 =>
 (if (!r47)=true then
 j45 true
 else
 (if (decide (0<s1))=true then
 (idx a0 (w64 (s1-1))).bind fun x50 =>
 (A2y x50.fPrefix x37.fPrefix).bind fun r51 =>
 j45 (decide (0≤r51))
 else
 j45 false)))
 else
 some (.inl (.inr ())))
def Y2 (a0:(List A5)) (s54:Int×(List A7)):Option ((((List A7)))⊕(Int×(List A7))) :=
 (if (decide (s54.1<(a0.length:Int)))=true then
 (idx a0 s54.1).bind fun x77 =>
 jn (fun m81:(List A7) =>
 some (.inr ((w64 (s54.1+1)),m81))) (fun j82 =>
 (if (!x77.fHas)=true then
 (A19).bind fun r84 =>
 (G6 s54.2 (A7.mk [x77.fPrefix] r84 ([]:List A2)) x77.fPrefix ((s54.2.length:Int)==0)).bind fun r85 =>
 j82 r85
 else
 j82 s54.2))
 else
 some (.inl s54.2))
def Y3 (a0:(List A5)) (x475:A5) (s482:Bool×Int×(List Bool)×(List A7)):Option ((((List Bool)×(List A7)))⊕(Bool×Int×(List Bool)×(List A7))) :=
 (if (decide (s482.2.1<(a0.length:Int)))=true then
 (idx a0 s482.2.1).bind fun x525 =>
 jn (fun m528:Bool =>
 jn (fun m535:Bool×(List Bool)×(List A7) =>
 some (.inr (m535.1,(w64 (s482.2.1+1)),m535.2.1,m535.2.2))) (fun j536 =>
 (if m528=true then
 (P1 x525.fRoute.fAttrs).bind fun r538 =>
 (G6 s482.2.2.2 (A7.mk ([]:List A2) r538 [x525.fPrefix]) x525.fPrefix s482.1).bind fun r539 =>
 (idx s482.2.2.1 s482.2.1).bind fun _ =>
 (idx s482.2.2.1 s482.2.1).bind fun _ =>
 j536 (false,(s482.2.2.1.set s482.2.1.toNat true),r539)
 else
 j536 (s482.1,s482.2.2.1,s482.2.2.2)))) (fun j529 =>
 (if x525.fHas=true then
 (J0 x525.fRoute.fAttrs x475.fRoute.fAttrs).bind fun r543 =>
 j529 r543
 else
 j529 false))
 else
 some (.inl (s482.2.2.1,s482.2.2.2)))
def A12 (a0:(List A5)) (s89:Int×(List Bool)×(List A7)):Option ((((List A7)))⊕(Int×(List Bool)×(List A7))) :=
 (if (decide (s89.1<(a0.length:Int)))=true then
 jn (fun m473:(List Bool)×(List A7) =>
 some (.inr ((w64 (s89.1+1)),m473.1,m473.2))) (fun j474 =>
 (idx a0 s89.1).bind fun x475 =>
 jn (fun m479:Bool =>
 (if m479=true then
 j474 (s89.2.1,s89.2.2)
 else
 (loop (Y3 a0 x475) (true,s89.1,s89.2.1,s89.2.2)).bind fun p523 =>
 j474 (p523.1,p523.2))) (fun j480 =>
 (if (!x475.fHas)=true then
 j480 true
 else
 (idx s89.2.1 s89.1).bind fun _ =>
 (idx s89.2.1 s89.1).bind fun x548 =>
 j480 x548)))
 else
 some (.inl s89.2.2))
def A3j (a0:(List A5)):Option ((List A7)×Int) :=
 (loop (X9 a0) 0).bind fun x52=>match x52 with
 | (.inl _) =>
  some (([]:List A7),1)
 | (.inr _) =>
  (loop (Y2 a0) (0,([]:List A7))).bind fun p75 =>
  chk ((decide (0≤(a0.length:Int))&&decide ((a0.length:Int)≤(a0.length:Int))&&decide ((a0.length:Int)≤(LIM:Int)))) <|
  (loop (A12 a0) (0,(List.replicate (a0.length:Int).toNat false),p75)).bind fun p396 =>
  some (p396,0)
theorem B0o (a0:(List A5)) (r:(List A7)×Int) (h:A3j a0=some r):AC Tryz.prog 13 [(.d (.list 22 (a0.map E8)))] [] (.tup [(.d (.list 13 (r.1.map D0))),(.d (.int .i64 r.2))]) []:=by
 refine ac2 Tryz.func13 rfl rfl fun B hB hN L => ?_
 delta A3j at h
 refine sr (SQ tt) ?_
 apply seq
 refine sr (SQ tt) ?_
 apply block
 obtain⟨x52,hx53,h⟩:=bindS h
 refine lg (X9 a0) (fun s1:Int=>([(0,(B1 a0)),(15,(B1 a0)),(16,(i6 (a0.length:Int))),(17,(i6 s1))]:EL)) (fun s1:Int=>([]:OL)) (fun(x:(Unit)⊕(Unit)) e E' O'=>match x with | (.inl _p)=>e = .ret∧Mat B E' O' ([(2,.nils),(3,(i6 1))]:EL) ([]:OL) | (.inr _p)=>e = .exit 0∧Mat B E' O' ([(0,(B1 a0))]:EL) ([]:OL)) hx53 (mp [] _ _ hB) (fun s1 y h => ?_) (fun e E' O' hR => ?_)
 ·unfold X9 at h
  refine sr (SQ tt) ?_
  apply seq
  apply AWp.cond rfl<;>intro hg36
  ·have h:=A3 hg36 h
   apply AWp.skip
   apply A0
   apply seq
   apply block
   obtain⟨x37,hx37,h⟩:=bindS h
   refine sr (SQ (fa hx37 tt)) ?_
   apply seq
   refine AWp.cut h (fun m44:Bool=>([(0,(B1 a0)),(15,(B1 a0)),(16,(i6 (a0.length:Int))),(17,(i6 s1)),(40,(bo m44))]:EL)) (fun m44:Bool=>([]:OL)) (fun m44 h E' O' hmat => ?_) (fun j45 hjj45 h => ?_)
   ·apply A0
    refine ghost hmat ?_
    apply AWp.cond rfl<;>intro hg46
    ·have h:=A3 hg46 h
     refine sr (SQ tt) ?_
     apply ret
     apply D3
     apply B5
     obtain rfl:=oi h
     exact⟨(fun hc=>by cases hc),rfl,(mp [] _ _ hB)⟩
    ·have h:=A4 hg46 h
     apply AWp.skip
     apply D2
     apply A0
     refine rg (SQ tt) ?_
     obtain rfl:=oi h
     exact⟨rfl,(mp [] _ _ hB)⟩
   ·obtain⟨r47,hr47,h⟩:=bindS h
    rcases bft (!r47) with hg48 | hg48
    ·have h:=A3 hg48 h
     refine drS (SQ (fa (cl [] (A4d x37 r47 hr47)) (fa hg48 tt))) ?_
     exact hjj45 _ h _ _ (mp [] _ _ hB)
    ·have h:=A4 hg48 h
     rcases bft (decide (0<s1)) with hg49 | hg49
     ·have h:=A3 hg49 h
      obtain⟨x50,hx50,h⟩:=bindS h
      obtain⟨r51,hr51,h⟩:=bindS h
      refine drS (SQ (fa (cl [] (A4d x37 r47 hr47)) (fa hg48 (fa hg49 (fa hx50 (fa (cl [] (A7g x50.fPrefix x37.fPrefix r51 hr51)) tt)))))) ?_
      exact hjj45 _ h _ _ (mp [] _ _ hB)
     ·have h:=A4 hg49 h
      refine drS (SQ (fa (cl [] (A4d x37 r47 hr47)) (fa hg48 (fa hg49 tt)))) ?_
      exact hjj45 _ h _ _ (mp [] _ _ hB)
  ·have h:=A4 hg36 h
   apply AWp.exit
   apply D6
   obtain rfl:=oi h
   exact⟨(fun hc=>by cases hc),rfl,(mp [] _ _ hB)⟩
 ·rcases x52 with _ | _
  ·obtain⟨rfl,hmat⟩:=hR
   apply D3
   apply B5
   obtain rfl:=oi h
   exact rt (Mat.trans hmat (Mat.trans (Mat.coeP (Ts:=[(2,(E7 ([]:List A7)))]) (Bs:=[]) (TwT.cons (x:=.nils) (by rfl) (Tw.leaf ⟨_,(Co.nils 13),rfl⟩) TwT.nil) TwB.nil) (mp [] [(2,(E7 ([]:List A7))),(3,(i6 1))] [] hB))) [(E7 ([]:List A7)),(i6 1)] (rT (rT rN)) rfl
  ·obtain⟨rfl,hmat⟩:=hR
   apply C2
   apply A0
   refine ghost hmat ?_
   refine sr (SQ tt) ?_
   apply seq
   refine sr (SQ tt) ?_
   apply block
   obtain⟨p75,hx87,h⟩:=bindS h
   refine lg (Y2 a0) (fun s54:Int×(List A7)=>([(0,(B1 a0)),(6,(.sref 3006 13 0 s54.2.length)),(42,(B1 a0)),(43,(i6 (a0.length:Int))),(44,(i6 s54.1))]:EL)) (fun s54:Int×(List A7)=>([(3006,some (C8 s54.2))]:OL)) (fun(p75:((List A7))) e E' O'=>e = .exit 2∧Mat B E' O' ([(0,(B1 a0)),(6,(.sref 3006 13 0 p75.length))]:EL) ([(3006,some (C8 p75))]:OL)) hx87 (Mat.trans (Mat.beginP (n:=3006) (e:=61) (sz:=13) (Ts:=[(6,(.sref 3006 13 0 0))]) (Bs:=[]) hB (by decide) (by rfl) (by decide) (TwT.cons (x:=.nils) (by rfl) (Tw.leaf ⟨rfl,rfl⟩) TwT.nil) TwB.nil) (mp [] _ _ hB)) (fun s54 y h => ?_) (fun e E' O' hR => ?_)
   ·unfold Y2 at h
    refine sr (SQ tt) ?_
    apply seq
    apply AWp.cond rfl<;>intro hg76
    ·have h:=A3 hg76 h
     apply AWp.skip
     apply A0
     apply seq
     apply block
     obtain⟨x77,hx77,h⟩:=bindS h
     refine sr (SQ (fa hx77 tt)) ?_
     refine sr (SQ tt) ?_
     refine gh [(0,_),(6,_),(8,_),(42,_),(43,_),(44,_),(50,_)] [(1008,some _),(3006,some _)] hB rfl rfl (by rfl) ?_
     refine AWp.cut h (fun m81:(List A7)=>([(0,(B1 a0)),(6,(.sref 3006 13 0 m81.length)),(42,(B1 a0)),(43,(i6 (a0.length:Int))),(44,(i6 s54.1))]:EL)) (fun m81:(List A7)=>([(3006,some (C8 m81))]:OL)) (fun m81 h E' O' hmat => ?_) (fun j82 hjj82 h => ?_)
     ·apply D2
      apply A0
      refine ghost hmat ?_
      refine rg (SQ tt) ?_
      obtain rfl:=oi h
      exact⟨rfl,(mp [] _ _ hB)⟩
     ·apply AWp.cond rfl<;>intro hg83
      ·have h:=A3 hg83 h
       obtain⟨r84,hr84,h⟩:=bindS h
       obtain⟨r85,hr85,h⟩:=bindS h
       refine drS (SQ (fa (cl [] (A3o  r84 hr84)) (fa (cl [(0,3006),(900000,100300)] (A4e s54.2 (A7.mk [x77.fPrefix] r84 ([]:List A2)) x77.fPrefix ((s54.2.length:Int)==0) r85 hr85)) tt))) ?_
       exact hjj82 _ h _ _ (mp [(3006,100300)] _ _ hB)
      ·have h:=A4 hg83 h
       apply AWp.skip
       exact hjj82 _ h _ _ (mp [] _ _ hB)
    ·have h:=A4 hg76 h
     apply AWp.exit
     apply D6
     obtain rfl:=oi h
     exact⟨(fun hc=>by cases hc),rfl,(mp [] _ _ hB)⟩
   ·obtain⟨rfl,hmat⟩:=hR
    apply C2
    apply A0
    refine ghost hmat ?_
    obtain⟨hc88,h⟩:=B3 h
    refine sr (SQ (fa hc88 tt)) ?_
    apply seq
    refine sr (SQ tt) ?_
    apply block
    obtain⟨p396,hx550,h⟩:=bindS h
    refine lg (A12 a0) (fun s89:Int×(List Bool)×(List A7)=>([(0,(B1 a0)),(6,(.sref 3006 13 0 s89.2.2.length)),(9,(.sref 1066 1 0 s89.2.1.length)),(67,(B1 a0)),(68,(i6 (a0.length:Int))),(69,(i6 s89.1))]:EL)) (fun s89:Int×(List Bool)×(List A7)=>([(1066,some (.row 4 1 (s89.2.1.map eB))),(3006,some (C8 s89.2.2))]:OL)) (fun(p396:((List A7))) e E' O'=>e = .exit 4∧Mat B E' O' ([(6,(.sref 3006 13 0 p396.length))]:EL) ([(3006,some (C8 p396))]:OL)) hx550 (mp [] _ _ hB) (fun s89 y h => ?_) (fun e E' O' hR => ?_)
    ·unfold A12 at h
     refine sr (SQ tt) ?_
     apply seq
     apply AWp.cond rfl<;>intro hg397
     ·have h:=A3 hg397 h
      apply AWp.skip
      apply A0
      apply seq
      refine AWp.cut h (fun m473:(List Bool)×(List A7)=>([(0,(B1 a0)),(6,(.sref 3006 13 0 m473.2.length)),(9,(.sref 1066 1 0 m473.1.length)),(67,(B1 a0)),(68,(i6 (a0.length:Int))),(69,(i6 s89.1))]:EL)) (fun m473:(List Bool)×(List A7)=>([(1066,some (.row 4 1 (m473.1.map eB))),(3006,some (C8 m473.2))]:OL)) (fun m473 h E' O' hmat => ?_) (fun j474 hjj474 h => ?_)
      ·apply A0
       refine ghost hmat ?_
       refine rg (SQ tt) ?_
       obtain rfl:=oi h
       exact⟨rfl,(mp [] _ _ hB)⟩
      ·apply block
       obtain⟨x475,hx475,h⟩:=bindS h
       refine sr (SQ (fa hx475 tt)) ?_
       apply seq
       apply seq
       refine AWp.cut h (fun m479:Bool=>([(0,(B1 a0)),(6,(.sref 3006 13 0 s89.2.2.length)),(9,(.sref 1066 1 0 s89.2.1.length)),(10,(i6 s89.1)),(11,(pt 1011)),(67,(B1 a0)),(68,(i6 (a0.length:Int))),(69,(i6 s89.1)),(82,(bo m479))]:EL)) (fun m479:Bool=>([(1011,bd 39 (E8 x475)),(1066,some (.row 4 1 (s89.2.1.map eB))),(3006,some (C8 s89.2.2))]:OL)) (fun m479 h E' O' hmat => ?_) (fun j480 hjj480 h => ?_)
       ·apply A0
        refine ghost hmat ?_
        apply AWp.cond rfl<;>intro hg481
        ·have h:=A3 hg481 h
         apply AWp.exit
         apply D6
         apply C2
         exact hjj474 _ h _ _ (mp [] _ _ hB)
        ·have h:=A4 hg481 h
         apply AWp.skip
         apply A0
         refine sr (SQ tt) ?_
         refine sr (SQ tt) ?_
         apply block
         obtain⟨p523,hx545,h⟩:=bindS h
         refine lg (Y3 a0 x475) (fun s482:Bool×Int×(List Bool)×(List A7)=>([(0,(B1 a0)),(6,(.sref 3006 13 0 s482.2.2.2.length)),(9,(.sref 1066 1 0 s482.2.2.1.length)),(11,(pt 1011)),(12,(bo s482.1)),(13,(i6 s482.2.1)),(67,(B1 a0)),(68,(i6 (a0.length:Int))),(69,(i6 s89.1))]:EL)) (fun s482:Bool×Int×(List Bool)×(List A7)=>([(1011,bd 39 (E8 x475)),(1066,some (.row 4 1 (s482.2.2.1.map eB))),(3006,some (C8 s482.2.2.2))]:OL)) (fun(p523:((List Bool)×(List A7))) e E' O'=>e = .exit 6∧Mat B E' O' ([(0,(B1 a0)),(6,(.sref 3006 13 0 p523.2.length)),(9,(.sref 1066 1 0 p523.1.length)),(67,(B1 a0)),(68,(i6 (a0.length:Int))),(69,(i6 s89.1))]:EL) ([(1066,some (.row 4 1 (p523.1.map eB))),(3006,some (C8 p523.2))]:OL)) hx545 (mp [] _ _ hB) (fun s482 y h => ?_) (fun e E' O' hR => ?_)
         ·unfold Y3 at h
          apply seq
          refine sr (SQ tt) ?_
          apply AWp.cond rfl<;>intro hg524
          ·have h:=A3 hg524 h
           apply AWp.skip
           apply A0
           apply seq
           apply block
           obtain⟨x525,hx525,h⟩:=bindS h
           refine sr (SQ (fa hx525 tt)) ?_
           apply seq
           refine AWp.cut h (fun m528:Bool=>([(0,(B1 a0)),(6,(.sref 3006 13 0 s482.2.2.2.length)),(9,(.sref 1066 1 0 s482.2.2.1.length)),(11,(pt 1011)),(12,(bo s482.1)),(13,(i6 s482.2.1)),(14,(pt 1014)),(67,(B1 a0)),(68,(i6 (a0.length:Int))),(69,(i6 s89.1)),(104,(bo m528))]:EL)) (fun m528:Bool=>([(1011,bd 39 (E8 x475)),(1014,bd 39 (E8 x525)),(1066,some (.row 4 1 (s482.2.2.1.map eB))),(3006,some (C8 s482.2.2.2))]:OL)) (fun m528 h E' O' hmat => ?_) (fun j529 hjj529 h => ?_)
           ·apply A0
            refine ghost hmat ?_
            refine AWp.cut h (fun m535:Bool×(List Bool)×(List A7)=>([(0,(B1 a0)),(6,(.sref 3006 13 0 m535.2.2.length)),(9,(.sref 1066 1 0 m535.2.1.length)),(11,(pt 1011)),(12,(bo m535.1)),(13,(i6 s482.2.1)),(67,(B1 a0)),(68,(i6 (a0.length:Int))),(69,(i6 s89.1))]:EL)) (fun m535:Bool×(List Bool)×(List A7)=>([(1011,bd 39 (E8 x475)),(1066,some (.row 4 1 (m535.2.1.map eB))),(3006,some (C8 m535.2.2))]:OL)) (fun m535 h E' O' hmat => ?_) (fun j536 hjj536 h => ?_)
            ·apply D2
             apply A0
             refine ghost hmat ?_
             refine rg (SQ tt) ?_
             obtain rfl:=oi h
             exact⟨rfl,(mp [] _ _ hB)⟩
            ·apply AWp.cond rfl<;>intro hg537
             ·have h:=A3 hg537 h
              apply seq
              obtain⟨r538,hr538,h⟩:=bindS h
              obtain⟨r539,hr539,h⟩:=bindS h
              refine drS (SQ (fa (cl [] (A1f x525.fRoute.fAttrs r538 hr538)) (fa (cl [(0,3006),(900000,100600)] (A4e s482.2.2.2 (A7.mk ([]:List A2) r538 [x525.fPrefix]) x525.fPrefix s482.1 r539 hr539)) tt))) ?_
              apply A0
              refine ghost (mp [] [(0,(B1 a0)),(6,(.sref 100600 13 0 r539.length)),(9,(.sref 1066 1 0 s482.2.2.1.length)),(11,(pt 1011)),(13,(i6 s482.2.1)),(67,(B1 a0)),(68,(i6 (a0.length:Int))),(69,(i6 s89.1))] [(1011,bd 39 (E8 x475)),(1066,some (.row 4 1 (s482.2.2.1.map eB))),(100600,some (C8 r539))] hB) ?_
              obtain⟨_,hx540,h⟩:=bindS h
              obtain⟨_,hx541,h⟩:=bindS h
              refine rg (SQ (fa hx540 (fa hx541 (fa (sv true) tt)))) ?_
              exact hjj536 _ h _ _ (Mat.trans (mp [] [(0,(B1 a0)),(6,(.sref 100600 13 0 r539.length)),(9,(.sref 1066 1 0 s482.2.2.1.length)),(11,(pt 1011)),(12,(bo false)),(13,(i6 s482.2.1)),(67,(B1 a0)),(68,(i6 (a0.length:Int))),(69,(i6 s89.1))] [(1011,bd 39 (E8 x475)),(1066,some (.row 4 1 ((s482.2.2.1.set s482.2.1.toNat true).map eB))),(100600,some (C8 r539))] hB) (Mat.trans (Mat.lenP (Ts:=[(9,(.sref 1066 1 0 ((s482.2.2.1.set s482.2.1.toNat true).length)))]) (Bs:=[]) (TwT.cons (x:=(.sref 1066 1 0 s482.2.2.1.length)) (by rfl) (Tw.leaf ⟨_,_,_,_,_,rfl,rfl,(by first | rfl | (simp;done) | (simp;omega) | omega)⟩) TwT.nil) TwB.nil) (mp [(3006,100600)] _ _ hB)))
             ·have h:=A4 hg537 h
              apply AWp.skip
              exact hjj536 _ h _ _ (mp [] _ _ hB)
           ·rcases bft x525.fHas with hg542 | hg542
            ·have h:=A3 hg542 h
             obtain⟨r543,hr543,h⟩:=bindS h
             refine rg (SQ (fa hg542 (fa (cl [] (A1e x525.fRoute.fAttrs x475.fRoute.fAttrs r543 hr543)) tt))) ?_
             exact hjj529 _ h _ _ (mp [] _ _ hB)
            ·have h:=A4 hg542 h
             refine rg (SQ (fa hg542 tt)) ?_
             exact hjj529 _ h _ _ (mp [] _ _ hB)
          ·have h:=A4 hg524 h
           apply AWp.exit
           apply D6
           obtain rfl:=oi h
           exact⟨(fun hc=>by cases hc),rfl,(mp [] _ _ hB)⟩
         ·obtain⟨rfl,hmat⟩:=hR
          apply C2
          apply D2
          exact hjj474 _ h _ _ (Mat.trans hmat (mp [] _ _ hB))
       ·rcases bft (!x475.fHas) with hg546 | hg546
        ·have h:=A3 hg546 h
         refine rg (SQ (fa hg546 tt)) ?_
         exact hjj480 _ h _ _ (mp [] _ _ hB)
        ·have h:=A4 hg546 h
         obtain⟨_,hx547,h⟩:=bindS h
         obtain⟨_,hx548,h⟩:=bindS h
         refine rg (SQ (fa hg546 (fa hx547 (fa hx548 tt)))) ?_
         exact hjj480 _ h _ _ (mp [] _ _ hB)
     ·have h:=A4 hg397 h
      apply AWp.exit
      apply D6
      obtain rfl:=oi h
      exact⟨(fun hc=>by cases hc),rfl,(mp [] _ _ hB)⟩
    ·obtain⟨rfl,hmat⟩:=hR
     apply C2
     apply A0
     refine ghost hmat ?_
     refine sr (SQ tt) ?_
     apply ret
     obtain rfl:=oi h
     exact rt (Mat.trans (Mat.freezeP (n:=3006) (e:=61) (sz:=13) (es:=p396.map D0) (Ts:=[(2,(E7 p396))]) (Bs:=[]) (by rfl) (TwT.cons (x:=(.sref 3006 13 0 p396.length)) (by rfl) (FrzL.all (by first | rfl | (simp;done) | (simp;omega) | omega)) TwT.nil) TwB.nil) (mp [] [(2,(E7 p396)),(3,(i6 0))] [] hB)) [(E7 p396),(i6 0)] (rT (rT rN)) rfl
def L5 (a0:(List A2)) (a1:(List A2)) (s2:Int):Option (((Unit)⊕(Unit))⊕(Int)) :=
 (if (decide (s2<(a0.length:Int)))=true then
 (idx a0 s2).bind fun x14 =>
 (idx a1 s2).bind fun x15 =>
 (if (!(((x14.fAddr.fV6==x15.fAddr.fV6)&&((x14.fAddr.fHi==x15.fAddr.fHi)&&((x14.fAddr.fLo==x15.fAddr.fLo)&&true)))&&((x14.fLen==x15.fLen)&&true)))=true then
 some (.inl (.inl ()))
 else
 some (.inr (w64 (s2+1))))
 else
 some (.inl (.inr ())))
def N0 (a0:(List A2)) (a1:(List A2)):Option (Bool) :=
 (if ((a0.length:Int) != (a1.length:Int))=true then
 some false
 else
 (loop (L5 a0 a1) 0).bind fun x17=>match x17 with
 | (.inl _) =>
  some false
 | (.inr _) =>
  some true)
theorem L6 (a0:(List A2)) (a1:(List A2)) (r:Bool) (h:N0 a0 a1=some r):AC Tryz.prog 38 [(.d (.list 4 (a0.map B4))),(.d (.list 4 (a1.map B4)))] [] (.d (.bool r)) []:=by
 refine ac2 Tryz.func38 rfl rfl fun B hB hN L => ?_
 delta N0 at h
 refine sr (SQ tt) ?_
 apply seq
 refine sr (SQ tt) ?_
 apply AWp.cond rfl<;>intro hg1
 ·have h:=A3 hg1 h
  refine sr (SQ tt) ?_
  apply ret
  apply B5
  obtain rfl:=oi h
  exact rt (kp [(4,_)] [] hB rfl rfl (by rfl)) [(bo false)] (rT rN) rfl
 ·have h:=A4 hg1 h
  apply AWp.skip
  apply A0
  apply seq
  refine sr (SQ tt) ?_
  apply block
  obtain⟨x17,hx18,h⟩:=bindS h
  refine lg (L5 a0 a1) (fun s2:Int=>([(0,(E5 a0)),(1,(E5 a1)),(12,(i6 (a0.length:Int))),(13,(i6 s2))]:EL)) (fun s2:Int=>([]:OL)) (fun(x:(Unit)⊕(Unit)) e E' O'=>match x with | (.inl _p)=>e = .ret∧Mat B E' O' ([(4,(bo false))]:EL) ([]:OL) | (.inr _p)=>e = .exit 0∧Mat B E' O' ([]:EL) ([]:OL)) hx18 (mp [] _ _ hB) (fun s2 y h => ?_) (fun e E' O' hR => ?_)
  ·unfold L5 at h
   refine sr (SQ tt) ?_
   apply seq
   apply AWp.cond rfl<;>intro hg13
   ·have h:=A3 hg13 h
    apply AWp.skip
    apply A0
    apply seq
    apply block
    refine sr (SQ tt) ?_
    obtain⟨_,hx14,h⟩:=bindS h
    obtain⟨_,hx15,h⟩:=bindS h
    refine sdS (SQ (fa hx14 (fa hx15 tt))) ?_
    apply AWp.cond rfl<;>intro hg16
    ·have h:=A3 hg16 h
     refine sr (SQ tt) ?_
     apply ret
     apply D3
     apply B5
     obtain rfl:=oi h
     exact⟨(fun hc=>by cases hc),rfl,(mp [] _ _ hB)⟩
    ·have h:=A4 hg16 h
     apply AWp.skip
     apply D2
     apply A0
     refine rg (SQ tt) ?_
     obtain rfl:=oi h
     exact⟨rfl,(mp [] _ _ hB)⟩
   ·have h:=A4 hg13 h
    apply AWp.exit
    apply D6
    obtain rfl:=oi h
    exact⟨(fun hc=>by cases hc),rfl,(mp [] _ _ hB)⟩
  ·rcases x17 with _ | _
   ·obtain⟨rfl,hmat⟩:=hR
    apply D3
    apply B5
    obtain rfl:=oi h
    exact rt (Mat.trans hmat (mp [] [(4,(bo false))] [] hB)) [(bo false)] (rT rN) rfl
   ·obtain⟨rfl,hmat⟩:=hR
    apply C2
    apply A0
    refine ghost hmat ?_
    refine sr (SQ tt) ?_
    apply ret
    obtain rfl:=oi h
    exact rt (kp [(4,_)] [] hB rfl rfl (by rfl)) [(bo true)] (rT rN) rfl
def A13 (a0:(List A7)) (a1:(List A7)) (s2:Int):Option (((Unit)⊕(Unit))⊕(Int)) :=
 (if (decide (s2<(a0.length:Int)))=true then
 jn (fun m78:Bool =>
 (if m78=true then
 some (.inl (.inl ()))
 else
 some (.inr (w64 (s2+1))))) (fun j79 =>
 (idx a0 s2).bind fun x81 =>
 (idx a1 s2).bind fun x82 =>
 (N0 x81.fWithdraw x82.fWithdraw).bind fun r83 =>
 (if (!r83)=true then
 j79 true
 else
 (idx a0 s2).bind fun x85 =>
 (idx a1 s2).bind fun x86 =>
 (N0 x85.fAnnounce x86.fAnnounce).bind fun r87 =>
 (if (!r87)=true then
 j79 true
 else
 (idx a0 s2).bind fun x89 =>
 (idx a1 s2).bind fun x90 =>
 (J0 x89.fAttrs x90.fAttrs).bind fun r91 =>
 j79 (!r91))))
 else
 some (.inl (.inr ())))
def A23 (a0:(List A7)) (a1:(List A7)):Option (Bool) :=
 (if ((a0.length:Int) != (a1.length:Int))=true then
 some false
 else
 (loop (A13 a0 a1) 0).bind fun x92=>match x92 with
 | (.inl _) =>
  some false
 | (.inr _) =>
  some true)
theorem A6x (a0:(List A7)) (a1:(List A7)) (r:Bool) (h:A23 a0 a1=some r):AC Tryz.prog 14 [(.d (.list 13 (a0.map D0))),(.d (.list 13 (a1.map D0)))] [] (.d (.bool r)) []:=by
 refine ac2 Tryz.func14 rfl rfl fun B hB hN L => ?_
 delta A23 at h
 refine sr (SQ tt) ?_
 apply seq
 refine sr (SQ tt) ?_
 apply AWp.cond rfl<;>intro hg1
 ·have h:=A3 hg1 h
  refine sr (SQ tt) ?_
  apply ret
  apply B5
  obtain rfl:=oi h
  exact rt (kp [(4,_)] [] hB rfl rfl (by rfl)) [(bo false)] (rT rN) rfl
 ·have h:=A4 hg1 h
  apply AWp.skip
  apply A0
  apply seq
  refine sr (SQ tt) ?_
  apply block
  obtain⟨x92,hx93,h⟩:=bindS h
  refine lg (A13 a0 a1) (fun s2:Int=>([(0,(E7 a0)),(1,(E7 a1)),(12,(i6 (a0.length:Int))),(13,(i6 s2))]:EL)) (fun s2:Int=>([]:OL)) (fun(x:(Unit)⊕(Unit)) e E' O'=>match x with | (.inl _p)=>e = .ret∧Mat B E' O' ([(4,(bo false))]:EL) ([]:OL) | (.inr _p)=>e = .exit 0∧Mat B E' O' ([]:EL) ([]:OL)) hx93 (mp [] _ _ hB) (fun s2 y h => ?_) (fun e E' O' hR => ?_)
  ·unfold A13 at h
   refine sr (SQ tt) ?_
   apply seq
   apply AWp.cond rfl<;>intro hg63
   ·have h:=A3 hg63 h
    apply AWp.skip
    apply A0
    apply seq
    apply block
    refine sr (SQ tt) ?_
    apply seq
    refine AWp.cut h (fun m78:Bool=>([(0,(E7 a0)),(1,(E7 a1)),(12,(i6 (a0.length:Int))),(13,(i6 s2)),(55,(bo m78))]:EL)) (fun m78:Bool=>([]:OL)) (fun m78 h E' O' hmat => ?_) (fun j79 hjj79 h => ?_)
    ·apply A0
     refine ghost hmat ?_
     apply AWp.cond rfl<;>intro hg80
     ·have h:=A3 hg80 h
      refine sr (SQ tt) ?_
      apply ret
      apply D3
      apply B5
      obtain rfl:=oi h
      exact⟨(fun hc=>by cases hc),rfl,(mp [] _ _ hB)⟩
     ·have h:=A4 hg80 h
      apply AWp.skip
      apply D2
      apply A0
      refine rg (SQ tt) ?_
      obtain rfl:=oi h
      exact⟨rfl,(mp [] _ _ hB)⟩
    ·obtain⟨x81,hx81,h⟩:=bindS h
     obtain⟨x82,hx82,h⟩:=bindS h
     obtain⟨r83,hr83,h⟩:=bindS h
     rcases bft (!r83) with hg84 | hg84
     ·have h:=A3 hg84 h
      refine drS (SQ (fa hx81 (fa hx82 (fa (cl [] (L6 x81.fWithdraw x82.fWithdraw r83 hr83)) (fa hg84 tt))))) ?_
      exact hjj79 _ h _ _ (mp [] _ _ hB)
     ·have h:=A4 hg84 h
      obtain⟨x85,hx85,h⟩:=bindS h
      obtain⟨x86,hx86,h⟩:=bindS h
      obtain⟨r87,hr87,h⟩:=bindS h
      rcases bft (!r87) with hg88 | hg88
      ·have h:=A3 hg88 h
       refine drS (SQ (fa hx81 (fa hx82 (fa (cl [] (L6 x81.fWithdraw x82.fWithdraw r83 hr83)) (fa hg84 (fa hx85 (fa hx86 (fa (cl [] (L6 x85.fAnnounce x86.fAnnounce r87 hr87)) (fa hg88 tt))))))))) ?_
       exact hjj79 _ h _ _ (mp [] _ _ hB)
      ·have h:=A4 hg88 h
       obtain⟨x89,hx89,h⟩:=bindS h
       obtain⟨x90,hx90,h⟩:=bindS h
       obtain⟨r91,hr91,h⟩:=bindS h
       refine drS (SQ (fa hx81 (fa hx82 (fa (cl [] (L6 x81.fWithdraw x82.fWithdraw r83 hr83)) (fa hg84 (fa hx85 (fa hx86 (fa (cl [] (L6 x85.fAnnounce x86.fAnnounce r87 hr87)) (fa hg88 (fa hx89 (fa hx90 (fa (cl [] (A1e x89.fAttrs x90.fAttrs r91 hr91)) tt)))))))))))) ?_
       exact hjj79 _ h _ _ (mp [] _ _ hB)
   ·have h:=A4 hg63 h
    apply AWp.exit
    apply D6
    obtain rfl:=oi h
    exact⟨(fun hc=>by cases hc),rfl,(mp [] _ _ hB)⟩
  ·rcases x92 with _ | _
   ·obtain⟨rfl,hmat⟩:=hR
    apply D3
    apply B5
    obtain rfl:=oi h
    exact rt (Mat.trans hmat (mp [] [(4,(bo false))] [] hB)) [(bo false)] (rT rN) rfl
   ·obtain⟨rfl,hmat⟩:=hR
    apply C2
    apply A0
    refine ghost hmat ?_
    refine sr (SQ tt) ?_
    apply ret
    obtain rfl:=oi h
    exact rt (kp [(4,_)] [] hB rfl rfl (by rfl)) [(bo true)] (rT rN) rfl
def A2r (a0:(List A8)):Option (Int×Bool) :=
 jn (fun m5:Bool =>
 (if m5=true then
 some (0,false)
 else
 (idx a0 0).bind fun x8 =>
 (idx x8.fASNs 0).bind fun x9 =>
 some (x9,true))) (fun j6 =>
 (S2 a0).bind fun r10 =>
 (if ((!r10) || ((a0.length:Int)==0))=true then
 j6 true
 else
 (idx a0 0).bind fun x12 =>
 j6 x12.fSet))
theorem A9i (a0:(List A8)) (r:Int×Bool) (h:A2r a0=some r):AC Tryz.prog 41 [(.d (.list 2 (a0.map C3)))] [] (.tup [(.d (.int .i64 r.1)),(.d (.bool r.2))]) []:=by
 refine ac2 Tryz.func41 rfl rfl fun B hB hN L => ?_
 delta A2r at h
 refine sr (SQ tt) ?_
 apply seq
 apply seq
 refine AWp.cut h (fun m5:Bool=>([(0,(B9 a0)),(17,(bo m5))]:EL)) (fun m5:Bool=>([]:OL)) (fun m5 h E' O' hmat => ?_) (fun j6 hjj6 h => ?_)
 ·apply A0
  refine ghost hmat ?_
  apply AWp.cond rfl<;>intro hg7
  ·have h:=A3 hg7 h
   refine sr (SQ tt) ?_
   apply ret
   apply B5
   obtain rfl:=oi h
   exact rt (kp [(2,_),(3,_)] [] hB rfl rfl (by rfl)) [(i6 0),(bo false)] (rT (rT rN)) rfl
  ·have h:=A4 hg7 h
   apply AWp.skip
   apply A0
   obtain⟨_,hx8,h⟩:=bindS h
   obtain⟨x9,hx9,h⟩:=bindS h
   refine sr (SQ (fa hx8 (fa hx9 tt))) ?_
   apply ret
   obtain rfl:=oi h
   exact rt (kp [(2,_),(3,_)] [] hB rfl rfl (by rfl)) [(i6 x9),(bo true)] (rT (rT rN)) rfl
 ·obtain⟨r10,hr10,h⟩:=bindS h
  rcases bft ((!r10) || ((a0.length:Int)==0)) with hg11 | hg11
  ·have h:=A3 hg11 h
   refine rg (SQ (fa (cl [] (J7 a0 r10 hr10)) (fa hg11 tt))) ?_
   exact hjj6 _ h _ _ (mp [] _ _ hB)
  ·have h:=A4 hg11 h
   obtain⟨_,hx12,h⟩:=bindS h
   refine rg (SQ (fa (cl [] (J7 a0 r10 hr10)) (fa hg11 (fa hx12 tt)))) ?_
   exact hjj6 _ h _ _ (mp [] _ _ hB)
def S7 (a1:Int) (x76:A7) (s77:Int×(List A5)):Option ((((List A5)))⊕(Int×(List A5))) :=
 (if (decide (s77.1<(x76.fWithdraw.length:Int)))=true then
 (idx x76.fWithdraw s77.1).bind fun x86 =>
 chk (decide ((s77.2++([(A5.mk a1 x86 false (C7.mk (A2.mk (D4.mk false 0 0) 0) 0 (B2.mk 0 ([]:List A8) (D4.mk false 0 0) 0 0 0 ([]:List B0) ([]:List D5) ([]:List A1))))]:List A5)).length≤LIM)) <|
 some (.inr ((w64 (s77.1+1)),(s77.2++([(A5.mk a1 x86 false (C7.mk (A2.mk (D4.mk false 0 0) 0) 0 (B2.mk 0 ([]:List A8) (D4.mk false 0 0) 0 0 0 ([]:List B0) ([]:List D5) ([]:List A1))))]:List A5))))
 else
 some (.inl s77.2))
def S8 (a1:Int) (x76:A7) (s90:Int×(List A5)):Option ((((List A5)))⊕(Int×(List A5))) :=
 (if (decide (s90.1<(x76.fAnnounce.length:Int)))=true then
 (idx x76.fAnnounce s90.1).bind fun x103 =>
 (A2r x76.fAttrs.fPath).bind fun r104 =>
 (P1 x76.fAttrs).bind fun r105 =>
 chk (decide ((s90.2++[(A5.mk a1 x103 true (C7.mk x103 r104.1 r105))]).length≤LIM)) <|
 some (.inr ((w64 (s90.1+1)),(s90.2++[(A5.mk a1 x103 true (C7.mk x103 r104.1 r105))])))
 else
 some (.inl s90.2))
def Y4 (a0:(List A7)) (a1:Int) (s1:Int×(List A5)):Option ((((List A5)))⊕(Int×(List A5))) :=
 (if (decide (s1.1<(a0.length:Int)))=true then
 (idx a0 s1.1).bind fun x76 =>
 (loop (S7 a1 x76) (0,s1.2)).bind fun p84 =>
 (loop (S8 a1 x76) (0,p84)).bind fun p101 =>
 some (.inr ((w64 (s1.1+1)),p101))
 else
 some (.inl s1.2))
def A0b (a0:(List A7)) (a1:Int):Option ((List A5)) :=
 (loop (Y4 a0 a1) (0,([]:List A5))).bind fun p74 =>
 some p74
theorem A8h (a0:(List A7)) (a1:Int) (r:(List A5)) (h:A0b a0 a1=some r):AC Tryz.prog 17 [(.d (.list 13 (a0.map D0))),(.d (.int .i64 a1))] [] (.d (.list 22 (r.map E8))) []:=by
 refine ac2 Tryz.func17 rfl rfl fun B hB hN L => ?_
 delta A0b at h
 refine sr (SQ tt) ?_
 refine sr (SQ tt) ?_
 apply seq
 refine sr (SQ tt) ?_
 apply block
 obtain⟨p74,hx110,h⟩:=bindS h
 refine lg (Y4 a0 a1) (fun s1:Int×(List A5)=>([(1,(i6 a1)),(5,(.sref 3005 22 0 s1.2.length)),(14,(E7 a0)),(15,(i6 (a0.length:Int))),(16,(i6 s1.1))]:EL)) (fun s1:Int×(List A5)=>([(3005,some (E9 s1.2))]:OL)) (fun(p74:((List A5))) e E' O'=>e = .exit 0∧Mat B E' O' ([(5,(.sref 3005 22 0 p74.length))]:EL) ([(3005,some (E9 p74))]:OL)) hx110 (Mat.trans (Mat.beginP (n:=3005) (e:=39) (sz:=22) (Ts:=[(5,(.sref 3005 22 0 0))]) (Bs:=[]) hB (by decide) (by rfl) (by decide) (TwT.cons (x:=.nils) (by rfl) (Tw.leaf ⟨rfl,rfl⟩) TwT.nil) TwB.nil) (mp [] _ _ hB)) (fun s1 y h => ?_) (fun e E' O' hR => ?_)
 ·unfold Y4 at h
  refine sr (SQ tt) ?_
  apply seq
  apply AWp.cond rfl<;>intro hg75
  ·have h:=A3 hg75 h
   apply AWp.skip
   apply A0
   apply seq
   apply block
   obtain⟨x76,hx76,h⟩:=bindS h
   refine sr (SQ (fa hx76 tt)) ?_
   apply seq
   refine sr (SQ tt) ?_
   apply block
   obtain⟨p84,hx89,h⟩:=bindS h
   refine lg (S7 a1 x76) (fun s77:Int×(List A5)=>([(1,(i6 a1)),(5,(.sref 3005 22 0 s77.2.length)),(7,(pt 1007)),(14,(E7 a0)),(15,(i6 (a0.length:Int))),(16,(i6 s1.1)),(21,(E5 x76.fWithdraw)),(22,(i6 (x76.fWithdraw.length:Int))),(23,(i6 s77.1))]:EL)) (fun s77:Int×(List A5)=>([(1007,bd 61 (D0 x76)),(3005,some (E9 s77.2))]:OL)) (fun(p84:((List A5))) e E' O'=>e = .exit 2∧Mat B E' O' ([(1,(i6 a1)),(5,(.sref 3005 22 0 p84.length)),(7,(pt 1007)),(14,(E7 a0)),(15,(i6 (a0.length:Int))),(16,(i6 s1.1))]:EL) ([(1007,bd 61 (D0 x76)),(3005,some (E9 p84))]:OL)) hx89 (mp [] _ _ hB) (fun s77 y h => ?_) (fun e E' O' hR => ?_)
   ·unfold S7 at h
    refine sr (SQ tt) ?_
    apply seq
    apply AWp.cond rfl<;>intro hg85
    ·have h:=A3 hg85 h
     apply AWp.skip
     apply A0
     apply seq
     apply block
     obtain⟨_,hx86,h⟩:=bindS h
     refine sr (SQ (fa hx86 tt)) ?_
     obtain⟨hc87,h⟩:=B3 h
     refine rg (SQ (fa hc87 tt)) ?_
     apply D2
     apply A0
     refine rg (SQ tt) ?_
     obtain rfl:=oi h
     exact⟨rfl,(mp [(3005,1032)] _ _ hB)⟩
    ·have h:=A4 hg85 h
     apply AWp.exit
     apply D6
     obtain rfl:=oi h
     exact⟨(fun hc=>by cases hc),rfl,(mp [] _ _ hB)⟩
   ·obtain⟨rfl,hmat⟩:=hR
    apply C2
    apply A0
    refine ghost hmat ?_
    refine sr (SQ tt) ?_
    apply block
    obtain⟨p101,hx108,h⟩:=bindS h
    refine lg (S8 a1 x76) (fun s90:Int×(List A5)=>([(1,(i6 a1)),(5,(.sref 3005 22 0 s90.2.length)),(7,(pt 1007)),(14,(E7 a0)),(15,(i6 (a0.length:Int))),(16,(i6 s1.1)),(35,(E5 x76.fAnnounce)),(36,(i6 (x76.fAnnounce.length:Int))),(37,(i6 s90.1))]:EL)) (fun s90:Int×(List A5)=>([(1007,bd 61 (D0 x76)),(3005,some (E9 s90.2))]:OL)) (fun(p101:((List A5))) e E' O'=>e = .exit 4∧Mat B E' O' ([(1,(i6 a1)),(5,(.sref 3005 22 0 p101.length)),(14,(E7 a0)),(15,(i6 (a0.length:Int))),(16,(i6 s1.1))]:EL) ([(3005,some (E9 p101))]:OL)) hx108 (mp [] _ _ hB) (fun s90 y h => ?_) (fun e E' O' hR => ?_)
    ·unfold S8 at h
     refine sr (SQ tt) ?_
     apply seq
     apply AWp.cond rfl<;>intro hg102
     ·have h:=A3 hg102 h
      apply AWp.skip
      apply A0
      apply seq
      apply block
      obtain⟨_,hx103,h⟩:=bindS h
      refine sr (SQ (fa hx103 tt)) ?_
      obtain⟨r104,hr104,h⟩:=bindS h
      refine sr (SQ (fa (cl [] (A9i x76.fAttrs.fPath r104 hr104)) tt)) ?_
      obtain⟨r105,hr105,h⟩:=bindS h
      obtain⟨hc106,h⟩:=B3 h
      refine drS (SQ (fa (cl [] (A1f x76.fAttrs r105 hr105)) (fa hc106 tt))) ?_
      apply D2
      apply A0
      refine rg (SQ tt) ?_
      obtain rfl:=oi h
      exact⟨rfl,(mp [(3005,1059)] _ _ hB)⟩
     ·have h:=A4 hg102 h
      apply AWp.exit
      apply D6
      obtain rfl:=oi h
      exact⟨(fun hc=>by cases hc),rfl,(mp [] _ _ hB)⟩
    ·obtain⟨rfl,hmat⟩:=hR
     apply C2
     apply D2
     apply A0
     refine ghost hmat ?_
     refine rg (SQ tt) ?_
     obtain rfl:=oi h
     exact⟨rfl,(mp [] _ _ hB)⟩
  ·have h:=A4 hg75 h
   apply AWp.exit
   apply D6
   obtain rfl:=oi h
   exact⟨(fun hc=>by cases hc),rfl,(mp [] _ _ hB)⟩
 ·obtain⟨rfl,hmat⟩:=hR
  apply C2
  apply A0
  refine ghost hmat ?_
  refine sr (SQ tt) ?_
  apply ret
  obtain rfl:=oi h
  exact rt (Mat.trans (Mat.freezeP (n:=3005) (e:=39) (sz:=22) (es:=p74.map E8) (Ts:=[(4,(B1 p74))]) (Bs:=[]) (by rfl) (TwT.cons (x:=(.sref 3005 22 0 p74.length)) (by rfl) (FrzL.all (by first | rfl | (simp;done) | (simp;omega) | omega)) TwT.nil) TwB.nil) (mp [] [(4,(B1 p74))] [] hB)) [(B1 p74)] (rT rN) rfl
def O5 (a0:(List A5)) (a1:(List A5)) (s2:Int):Option (((Unit)⊕(Unit))⊕(Int)) :=
 (if (decide (s2<(a0.length:Int)))=true then
 jn (fun m80:Bool =>
 (if m80=true then
 some (.inl (.inl ()))
 else
 some (.inr (w64 (s2+1))))) (fun j81 =>
 (idx a0 s2).bind fun x83 =>
 (idx a1 s2).bind fun x84 =>
 (if (x83.fTo != x84.fTo)=true then
 j81 true
 else
 (idx a0 s2).bind fun x86 =>
 (idx a1 s2).bind fun x87 =>
 (if (!(((x86.fPrefix.fAddr.fV6==x87.fPrefix.fAddr.fV6)&&((x86.fPrefix.fAddr.fHi==x87.fPrefix.fAddr.fHi)&&((x86.fPrefix.fAddr.fLo==x87.fPrefix.fAddr.fLo)&&true)))&&((x86.fPrefix.fLen==x87.fPrefix.fLen)&&true)))=true then
 j81 true
 else
 (idx a0 s2).bind fun x89 =>
 (idx a1 s2).bind fun x90 =>
 (if (x89.fHas != x90.fHas)=true then
 j81 true
 else
 (idx a0 s2).bind fun x92 =>
 (idx a1 s2).bind fun x93 =>
 (K4 x92.fRoute x93.fRoute).bind fun r94 =>
 j81 (!r94)))))
 else
 some (.inl (.inr ())))
def P2 (a0:(List A5)) (a1:(List A5)):Option (Bool) :=
 (if ((a0.length:Int) != (a1.length:Int))=true then
 some false
 else
 (loop (O5 a0 a1) 0).bind fun x95=>match x95 with
 | (.inl _) =>
  some false
 | (.inr _) =>
  some true)
theorem A68 (a0:(List A5)) (a1:(List A5)) (r:Bool) (h:P2 a0 a1=some r):AC Tryz.prog 15 [(.d (.list 22 (a0.map E8))),(.d (.list 22 (a1.map E8)))] [] (.d (.bool r)) []:=by
 refine ac2 Tryz.func15 rfl rfl fun B hB hN L => ?_
 delta P2 at h
 refine sr (SQ tt) ?_
 apply seq
 refine sr (SQ tt) ?_
 apply AWp.cond rfl<;>intro hg1
 ·have h:=A3 hg1 h
  refine sr (SQ tt) ?_
  apply ret
  apply B5
  obtain rfl:=oi h
  exact rt (kp [(4,_)] [] hB rfl rfl (by rfl)) [(bo false)] (rT rN) rfl
 ·have h:=A4 hg1 h
  apply AWp.skip
  apply A0
  apply seq
  refine sr (SQ tt) ?_
  apply block
  obtain⟨x95,hx96,h⟩:=bindS h
  refine lg (O5 a0 a1) (fun s2:Int=>([(0,(B1 a0)),(1,(B1 a1)),(12,(i6 (a0.length:Int))),(13,(i6 s2))]:EL)) (fun s2:Int=>([]:OL)) (fun(x:(Unit)⊕(Unit)) e E' O'=>match x with | (.inl _p)=>e = .ret∧Mat B E' O' ([(4,(bo false))]:EL) ([]:OL) | (.inr _p)=>e = .exit 0∧Mat B E' O' ([]:EL) ([]:OL)) hx96 (mp [] _ _ hB) (fun s2 y h => ?_) (fun e E' O' hR => ?_)
  ·unfold O5 at h
   refine sr (SQ tt) ?_
   apply seq
   apply AWp.cond rfl<;>intro hg65
   ·have h:=A3 hg65 h
    apply AWp.skip
    apply A0
    apply seq
    apply block
    refine sr (SQ tt) ?_
    apply seq
    refine AWp.cut h (fun m80:Bool=>([(0,(B1 a0)),(1,(B1 a1)),(12,(i6 (a0.length:Int))),(13,(i6 s2)),(66,(bo m80))]:EL)) (fun m80:Bool=>([]:OL)) (fun m80 h E' O' hmat => ?_) (fun j81 hjj81 h => ?_)
    ·apply A0
     refine ghost hmat ?_
     apply AWp.cond rfl<;>intro hg82
     ·have h:=A3 hg82 h
      refine sr (SQ tt) ?_
      apply ret
      apply D3
      apply B5
      obtain rfl:=oi h
      exact⟨(fun hc=>by cases hc),rfl,(mp [] _ _ hB)⟩
     ·have h:=A4 hg82 h
      apply AWp.skip
      apply D2
      apply A0
      refine rg (SQ tt) ?_
      obtain rfl:=oi h
      exact⟨rfl,(mp [] _ _ hB)⟩
    ·obtain⟨x83,hx83,h⟩:=bindS h
     obtain⟨x84,hx84,h⟩:=bindS h
     rcases bft (x83.fTo != x84.fTo) with hg85 | hg85
     ·have h:=A3 hg85 h
      refine drS (SQ (fa hx83 (fa hx84 (fa hg85 tt)))) ?_
      exact hjj81 _ h _ _ (mp [] _ _ hB)
     ·have h:=A4 hg85 h
      obtain⟨x86,hx86,h⟩:=bindS h
      obtain⟨x87,hx87,h⟩:=bindS h
      rcases bft (!(((x86.fPrefix.fAddr.fV6==x87.fPrefix.fAddr.fV6)&&((x86.fPrefix.fAddr.fHi==x87.fPrefix.fAddr.fHi)&&((x86.fPrefix.fAddr.fLo==x87.fPrefix.fAddr.fLo)&&true)))&&((x86.fPrefix.fLen==x87.fPrefix.fLen)&&true))) with hg88 | hg88
      ·have h:=A3 hg88 h
       refine drS (SQ (fa hx83 (fa hx84 (fa hg85 (fa hx86 (fa hx87 (fa hg88 tt))))))) ?_
       exact hjj81 _ h _ _ (mp [] _ _ hB)
      ·have h:=A4 hg88 h
       obtain⟨x89,hx89,h⟩:=bindS h
       obtain⟨x90,hx90,h⟩:=bindS h
       rcases bft (x89.fHas != x90.fHas) with hg91 | hg91
       ·have h:=A3 hg91 h
        refine drS (SQ (fa hx83 (fa hx84 (fa hg85 (fa hx86 (fa hx87 (fa hg88 (fa hx89 (fa hx90 (fa hg91 tt)))))))))) ?_
        exact hjj81 _ h _ _ (mp [] _ _ hB)
       ·have h:=A4 hg91 h
        obtain⟨x92,hx92,h⟩:=bindS h
        obtain⟨x93,hx93,h⟩:=bindS h
        obtain⟨r94,hr94,h⟩:=bindS h
        refine drS (SQ (fa hx83 (fa hx84 (fa hg85 (fa hx86 (fa hx87 (fa hg88 (fa hx89 (fa hx90 (fa hg91 (fa hx92 (fa hx93 (fa (cl [] (A3t x92.fRoute x93.fRoute r94 hr94)) tt))))))))))))) ?_
        exact hjj81 _ h _ _ (mp [] _ _ hB)
   ·have h:=A4 hg65 h
    apply AWp.exit
    apply D6
    obtain rfl:=oi h
    exact⟨(fun hc=>by cases hc),rfl,(mp [] _ _ hB)⟩
  ·rcases x95 with _ | _
   ·obtain⟨rfl,hmat⟩:=hR
    apply D3
    apply B5
    obtain rfl:=oi h
    exact rt (Mat.trans hmat (mp [] [(4,(bo false))] [] hB)) [(bo false)] (rT rN) rfl
   ·obtain⟨rfl,hmat⟩:=hR
    apply C2
    apply A0
    refine ghost hmat ?_
    refine sr (SQ tt) ?_
    apply ret
    obtain rfl:=oi h
    exact rt (kp [(4,_)] [] hB rfl rfl (by rfl)) [(bo true)] (rT rN) rfl
def L7 (a0:(List A5)) (s3:Int):Option (((Bool)⊕(Unit))⊕(Int)) :=
 (if (decide (s3<(a0.length:Int)))=true then
 (idx a0 s3).bind fun x17 =>
 (K3 x17.fRoute.fAttrs).bind fun r18 =>
 (if (!r18)=true then
 (Z4).bind fun r20 =>
 some (.inl (.inl r20))
 else
 some (.inr (w64 (s3+1))))
 else
 some (.inl (.inr ())))
def H5 (a0:(List A5)) (r24:(List A5)×C5) (m42:(List A5)) (s44:Int):Option (((Unit)⊕(Unit))⊕(Int)) :=
 (if (decide (s44<(([r24.1,m42,a0]:List (List A5)).length:Int)))=true then
 (idx ([r24.1,m42,a0]:List (List A5)) s44).bind fun x86 =>
 (A2x x86).bind fun r87 =>
 (A3j x86).bind fun r88 =>
 jn (fun m95:Bool =>
 (if m95=true then
 some (.inl (.inl ()))
 else
 some (.inr (w64 (s44+1))))) (fun j96 =>
 (if (r87.2 != r88.2)=true then
 j96 true
 else
 (A23 r87.1 r88.1).bind fun r99 =>
 (if (!r99)=true then
 j96 true
 else
 (V8 r88.1 9).bind fun r101 =>
 (A0b r88.1 9).bind fun r102 =>
 (P2 r101 r102).bind fun r103 =>
 j96 (!r103))))
 else
 some (.inl (.inr ())))
def X1 (a0:(List A5)) (a1:(List Int)) (a2:Int) (a3:Int):Option (Bool) :=
 (if (decide (60<(a0.length:Int)))=true then
 (Z4).bind fun r2 =>
 some r2
 else
 (loop (L7 a0) 0).bind fun x21=>match x21 with
 | (.inl p14) =>
  some p14
 | (.inr _) =>
  (A0e a1).bind fun r23 =>
  (G9 r23 101).bind fun r24 =>
  chk (decide (r24.1.length≤LIM)) <|
  jn (fun m42:(List A5) =>
  (loop (H5 a0 r24 m42) 0).bind fun x104=>match x104 with
  | (.inl _) =>
   some false
  | (.inr _) =>
   (Z4).bind fun r106 =>
   some r106) (fun j43 =>
  (if (decide (0<(r24.1.length:Int)))=true then
  (G5 a3 (r24.1.length:Int)).bind fun r108 =>
  (idx r24.1 r108).bind fun _ =>
  (G5 a2 5).bind fun r110 =>
  (if (r110==0)=true then
  (G5 a3 40).bind fun r112 =>
  (idx r24.1 r108).bind fun x113 =>
  j43 (r24.1.set r108.toNat (A5.mk x113.fTo (A2.mk x113.fPrefix.fAddr r112) x113.fHas x113.fRoute))
  else
  (if (r110==1)=true then
  (idx r24.1 r108).bind fun x115 =>
  (idx r24.1 r108).bind fun x116 =>
  j43 (r24.1.set r108.toNat (A5.mk x116.fTo x116.fPrefix (!x115.fHas) x116.fRoute))
  else
  (if (r110==2)=true then
  (idx r24.1 r108).bind fun x118 =>
  j43 (r24.1.set r108.toNat (A5.mk x118.fTo x118.fPrefix x118.fHas (C7.mk x118.fRoute.fPrefix x118.fRoute.fFrom (B2.mk (-1) x118.fRoute.fAttrs.fPath x118.fRoute.fAttrs.fNext x118.fRoute.fAttrs.fMED x118.fRoute.fAttrs.fPref x118.fRoute.fAttrs.fOTC x118.fRoute.fAttrs.fCommunities x118.fRoute.fAttrs.fLarge x118.fRoute.fAttrs.fOther))))
  else
  (if (r110==3)=true then
  (idx r24.1 0).bind fun _ =>
  (idx r24.1 0).bind fun x121 =>
  chk (decide ((r24.1++[x121]).length≤LIM)) <|
  j43 (r24.1++[x121])
  else
  j43 r24.1))))
  else
  j43 r24.1)))
theorem A5s (a0:(List A5)) (a1:(List Int)) (a2:Int) (a3:Int) (r:Bool) (h:X1 a0 a1 a2 a3=some r):AC Tryz.prog 3 [(.d (.list 22 (a0.map E8))),(.d (.list 1 (a1.map (eI .i64)))),(.d (.int .i64 a2)),(.d (.int .i64 a3))] [(500,(.know (globD 0 (.imap gv0))))] (.d (.bool r)) [(500,some (.know (globD 0 (.imap gv0))))]:=by
 refine ac2 Tryz.func3 rfl rfl fun B hB hN L => ?_
 delta X1 at h
 refine sr (SQ tt) ?_
 apply seq
 refine sr (SQ tt) ?_
 apply AWp.cond rfl<;>intro hg1
 ·have h:=A3 hg1 h
  apply seq
  obtain⟨r2,hr2,h⟩:=bindS h
  refine rg (SQ (fa (cl [(500,500)] (A3n  r2 hr2)) tt)) ?_
  apply A0
  refine ghost (mp [] [(8,(bo r2))] [(500,some (.know (globD 0 (.imap gv0))))] hB) ?_
  apply ret
  apply B5
  obtain rfl:=oi h
  exact rt (kp [(8,_)] [(500,some _)] hB rfl rfl (by rfl)) [(bo r2)] (rT rN) rfl
 ·have h:=A4 hg1 h
  apply AWp.skip
  apply A0
  apply seq
  refine sr (SQ tt) ?_
  apply block
  obtain⟨x21,hx22,h⟩:=bindS h
  refine lg (L7 a0) (fun s3:Int=>([(0,(B1 a0)),(1,(qI_1 a1)),(2,(i6 a2)),(3,(i6 a3)),(25,(B1 a0)),(26,(i6 (a0.length:Int))),(27,(i6 s3))]:EL)) (fun s3:Int=>([(500,some (.know (globD 0 (.imap gv0))))]:OL)) (fun(x:(Bool)⊕(Unit)) e E' O'=>match x with | (.inl p14)=>e = .ret∧Mat B E' O' ([(8,(bo p14))]:EL) ([(500,some (.know (globD 0 (.imap gv0))))]:OL) | (.inr _p)=>e = .exit 0∧Mat B E' O' ([(0,(B1 a0)),(1,(qI_1 a1)),(2,(i6 a2)),(3,(i6 a3))]:EL) ([(500,some (.know (globD 0 (.imap gv0))))]:OL)) hx22 (mp [] _ _ hB) (fun s3 y h => ?_) (fun e E' O' hR => ?_)
  ·unfold L7 at h
   refine sr (SQ tt) ?_
   apply seq
   apply AWp.cond rfl<;>intro hg16
   ·have h:=A3 hg16 h
    apply AWp.skip
    apply A0
    apply seq
    apply block
    obtain⟨x17,hx17,h⟩:=bindS h
    refine sr (SQ (fa hx17 tt)) ?_
    obtain⟨r18,hr18,h⟩:=bindS h
    refine sr (SQ (fa (cl [] (A48 x17.fRoute.fAttrs r18 hr18)) tt)) ?_
    apply AWp.cond rfl<;>intro hg19
    ·have h:=A3 hg19 h
     apply seq
     obtain⟨r20,hr20,h⟩:=bindS h
     refine rg (SQ (fa (cl [(500,500)] (A3n  r20 hr20)) tt)) ?_
     apply A0
     refine ghost (mp [] [(8,(bo r20))] [(500,some (.know (globD 0 (.imap gv0))))] hB) ?_
     apply ret
     apply D3
     apply B5
     obtain rfl:=oi h
     exact⟨(fun hc=>by cases hc),rfl,(mp [] _ _ hB)⟩
    ·have h:=A4 hg19 h
     apply AWp.skip
     apply D2
     apply A0
     refine rg (SQ tt) ?_
     obtain rfl:=oi h
     exact⟨rfl,(mp [] _ _ hB)⟩
   ·have h:=A4 hg16 h
    apply AWp.exit
    apply D6
    obtain rfl:=oi h
    exact⟨(fun hc=>by cases hc),rfl,(mp [] _ _ hB)⟩
  ·rcases x21 with p14 | _
   ·obtain⟨rfl,hmat⟩:=hR
    apply D3
    apply B5
    obtain rfl:=oi h
    exact rt (Mat.trans hmat (mp [] [(8,(bo p14))] [(500,some (.know (globD 0 (.imap gv0))))] hB)) [(bo p14)] (rT rN) rfl
   ·obtain⟨rfl,hmat⟩:=hR
    apply C2
    apply A0
    refine ghost hmat ?_
    apply seq
    obtain⟨r23,hr23,h⟩:=bindS h
    refine rg (SQ (fa (cl [(1005,100300)] (A54 a1 r23 hr23)) tt)) ?_
    apply A0
    refine ghost (mp [] [(0,(B1 a0)),(2,(i6 a2)),(3,(i6 a3)),(11,(pt 100300))] [(500,some (.know (globD 0 (.imap gv0)))),(100300,bd 71 (F0 r23))] hB) ?_
    apply seq
    obtain⟨r24,hr24,h⟩:=bindS h
    refine rg (SQ (fa (cl [(0,100300)] (A24 r23 101 r24 hr24)) tt)) ?_
    apply A0
    refine ghost (mp [] [(0,(B1 a0)),(2,(i6 a2)),(3,(i6 a3)),(12,(B1 r24.1))] [(500,some (.know (globD 0 (.imap gv0))))] hB) ?_
    obtain⟨hc25,h⟩:=B3 h
    refine sr (SQ (fa hc25 tt)) ?_
    apply seq
    refine sr (SQ tt) ?_
    refine gh [(0,_),(2,_),(3,_),(12,_),(13,_),(46,_)] [(500,some _),(1043,some _)] hB rfl rfl (by rfl) ?_
    refine AWp.cut h (fun m42:(List A5)=>([(0,(B1 a0)),(12,(B1 r24.1)),(13,(.sref 3013 22 0 m42.length))]:EL)) (fun m42:(List A5)=>([(500,some (.know (globD 0 (.imap gv0)))),(3013,some (E9 m42))]:OL)) (fun m42 h E' O' hmat => ?_) (fun j43 hjj43 h => ?_)
    ·apply A0
     refine ghost hmat ?_
     apply seq
     apply seq
     refine ghost (Mat.freezeP (n:=3013) (e:=39) (sz:=22) (es:=m42.map E8) (Ts:=[(13,(B1 m42))]) (Bs:=[]) (by rfl) (TwT.cons (x:=(.sref 3013 22 0 m42.length)) (by rfl) (FrzL.all (by first | rfl | (simp;done) | (simp;omega) | omega)) TwT.nil) TwB.nil) ?_
     refine rg (SQ tt) ?_
     apply A0
     apply block
     obtain⟨x104,hx105,h⟩:=bindS h
     refine lg (H5 a0 r24 m42) (fun s44:Int=>([(91,(.d (.list 1 (([r24.1,m42,a0]:List (List A5)).map A34)))),(92,(i6 (([r24.1,m42,a0]:List (List A5)).length:Int))),(93,(i6 s44))]:EL)) (fun s44:Int=>([(500,some (.know (globD 0 (.imap gv0))))]:OL)) (fun(x:(Unit)⊕(Unit)) e E' O'=>match x with | (.inl _p)=>e = .ret∧Mat B E' O' ([(8,(bo false))]:EL) ([(500,some (.know (globD 0 (.imap gv0))))]:OL) | (.inr _p)=>e = .exit 3∧Mat B E' O' ([]:EL) ([(500,some (.know (globD 0 (.imap gv0))))]:OL)) hx105 (mp [] _ _ hB) (fun s44 y h => ?_) (fun e E' O' hR => ?_)
     ·unfold H5 at h
      refine sr (SQ tt) ?_
      apply seq
      apply AWp.cond rfl<;>intro hg85
      ·have h:=A3 hg85 h
       apply AWp.skip
       apply A0
       apply seq
       apply block
       obtain⟨x86,hx86,h⟩:=bindS h
       refine sr (SQ (fa hx86 tt)) ?_
       apply seq
       obtain⟨r87,hr87,h⟩:=bindS h
       refine rg (SQ (fa (cl [(500,500)] (A82 x86 r87 hr87)) tt)) ?_
       apply A0
       refine ghost (mp [] [(16,(B1 x86)),(17,(E7 r87.1)),(18,(i6 r87.2)),(91,(.d (.list 1 (([r24.1,m42,a0]:List (List A5)).map A34)))),(92,(i6 (([r24.1,m42,a0]:List (List A5)).length:Int))),(93,(i6 s44))] [(500,some (.know (globD 0 (.imap gv0))))] hB) ?_
       obtain⟨r88,hr88,h⟩:=bindS h
       refine sr (SQ (fa (cl [] (B0o x86 r88 hr88)) tt)) ?_
       apply seq
       refine AWp.cut h (fun m95:Bool=>([(91,(.d (.list 1 (([r24.1,m42,a0]:List (List A5)).map A34)))),(92,(i6 (([r24.1,m42,a0]:List (List A5)).length:Int))),(93,(i6 s44)),(123,(bo m95))]:EL)) (fun m95:Bool=>([(500,some (.know (globD 0 (.imap gv0))))]:OL)) (fun m95 h E' O' hmat => ?_) (fun j96 hjj96 h => ?_)
       ·apply A0
        refine ghost hmat ?_
        apply AWp.cond rfl<;>intro hg97
        ·have h:=A3 hg97 h
         refine sr (SQ tt) ?_
         apply ret
         apply D3
         apply B5
         obtain rfl:=oi h
         exact⟨(fun hc=>by cases hc),rfl,(mp [] _ _ hB)⟩
        ·have h:=A4 hg97 h
         apply AWp.skip
         apply D2
         apply A0
         refine rg (SQ tt) ?_
         obtain rfl:=oi h
         exact⟨rfl,(mp [] _ _ hB)⟩
       ·rcases bft (r87.2 != r88.2) with hg98 | hg98
        ·have h:=A3 hg98 h
         refine rg (SQ (fa hg98 tt)) ?_
         exact hjj96 _ h _ _ (mp [] _ _ hB)
        ·have h:=A4 hg98 h
         obtain⟨r99,hr99,h⟩:=bindS h
         rcases bft (!r99) with hg100 | hg100
         ·have h:=A3 hg100 h
          refine rg (SQ (fa hg98 (fa (cl [] (A6x r87.1 r88.1 r99 hr99)) (fa hg100 tt)))) ?_
          exact hjj96 _ h _ _ (mp [] _ _ hB)
         ·have h:=A4 hg100 h
          obtain⟨r101,hr101,h⟩:=bindS h
          obtain⟨r102,hr102,h⟩:=bindS h
          obtain⟨r103,hr103,h⟩:=bindS h
          refine rg (SQ (fa hg98 (fa (cl [] (A6x r87.1 r88.1 r99 hr99)) (fa hg100 (fa (cl [] (A6u r88.1 9 r101 hr101)) (fa (cl [] (A8h r88.1 9 r102 hr102)) (fa (cl [] (A68 r101 r102 r103 hr103)) tt))))))) ?_
          exact hjj96 _ h _ _ (mp [] _ _ hB)
      ·have h:=A4 hg85 h
       apply AWp.exit
       apply D6
       obtain rfl:=oi h
       exact⟨(fun hc=>by cases hc),rfl,(mp [] _ _ hB)⟩
     ·rcases x104 with _ | _
      ·obtain⟨rfl,hmat⟩:=hR
       apply D3
       apply B5
       obtain rfl:=oi h
       exact rt (Mat.trans hmat (mp [] [(8,(bo false))] [(500,some (.know (globD 0 (.imap gv0))))] hB)) [(bo false)] (rT rN) rfl
      ·obtain⟨rfl,hmat⟩:=hR
       apply C2
       apply A0
       refine ghost hmat ?_
       apply seq
       obtain⟨r106,hr106,h⟩:=bindS h
       refine rg (SQ (fa (cl [(500,500)] (A3n  r106 hr106)) tt)) ?_
       apply A0
       refine ghost (mp [] [(8,(bo r106))] [(500,some (.know (globD 0 (.imap gv0))))] hB) ?_
       apply ret
       obtain rfl:=oi h
       exact rt (kp [(8,_)] [(500,some _)] hB rfl rfl (by rfl)) [(bo r106)] (rT rN) rfl
    ·apply AWp.cond rfl<;>intro hg107
     ·have h:=A3 hg107 h
      obtain⟨r108,hr108,h⟩:=bindS h
      obtain⟨_,hx109,h⟩:=bindS h
      refine sr (SQ (fa (cl [] (P5 a3 (r24.1.length:Int) r108 hr108)) (fa hx109 tt))) ?_
      obtain⟨r110,hr110,h⟩:=bindS h
      refine sr (SQ (fa (cl [] (P5 a2 5 r110 hr110)) tt)) ?_
      apply block
      refine sr (SQ tt) ?_
      apply AWp.cond rfl<;>intro hg111
      ·have h:=A3 hg111 h
       obtain⟨r112,hr112,h⟩:=bindS h
       obtain⟨x113,hx113,h⟩:=bindS h
       apply rg (c (mv hN (q 14)) rfl (c (mv hN (q 3)) rfl (cg (cf hB fnOk11 (P5 a3 40 r112 hr112) (L rfl) (OpdL.cons (q 58) (OpdL.cons (ii 40) OpdL.nil))) rfl (c (nilP (L rfl) (q 57)) rfl (c (ov (.ptr 1043 ((r108.toNat*22)+1) [r108.toNat,1]) (fp hN underlying39 1 tyS29 _ (q 60))) rfl (c (ov (.ptr 1043 ((r108.toNat*22)+4) [r108.toNat,1,1]) (fp hN underlying29 3 tyS3 _ (q 61))) rfl (cg (OpJ.storeR (e:=39) (sz:=22) (es':=(r24.1.set r108.toNat (A5.mk x113.fTo (A2.mk x113.fPrefix.fAddr r112) x113.fHas x113.fRoute)).map E8) tyS3 (N5 E8 (F6 hx113).2) (o:=4) (SetAt.dst1 (by rfl) (by rfl) (SetAt.dst1 (by rfl) (by rfl) (SetAt.here _ _) (by rfl) (by rfl) (by first | rfl | omega)) (by rfl) (by rfl) (by first | rfl | omega)) (by rfl) (A5o _ _ _ _) (by rfl) (by rfl) (q 62) (q 59)) rfl cn)))))))
       apply D2
       exact hjj43 _ h _ _ (Mat.trans (mp [] [(0,(B1 a0)),(12,(B1 r24.1)),(13,(.sref 1043 22 0 r24.1.length))] [(500,some (.know (globD 0 (.imap gv0)))),(1043,some (E9 (r24.1.set r108.toNat (A5.mk x113.fTo (A2.mk x113.fPrefix.fAddr r112) x113.fHas x113.fRoute))))] hB) (Mat.trans (Mat.lenP (Ts:=[(13,(.sref 1043 22 0 ((r24.1.set r108.toNat (A5.mk x113.fTo (A2.mk x113.fPrefix.fAddr r112) x113.fHas x113.fRoute)).length)))]) (Bs:=[]) (TwT.cons (x:=(.sref 1043 22 0 r24.1.length)) (by rfl) (Tw.leaf ⟨_,_,_,_,_,rfl,rfl,(by first | rfl | (simp;done) | (simp;omega) | omega)⟩) TwT.nil) TwB.nil) (mp [(3013,1043)] _ _ hB)))
      ·have h:=A4 hg111 h
       refine sr (SQ tt) ?_
       apply AWp.cond rfl<;>intro hg114
       ·have h:=A3 hg114 h
        obtain⟨x115,hx115,h⟩:=bindS h
        obtain⟨x116,hx116,h⟩:=bindS h
        apply rg (c (mv hN (q 14)) rfl (c (mv hN (q 14)) rfl (c (nilP (L rfl) (q 66)) rfl (c (ov (.ptr 1043 ((r108.toNat*22)+5) [r108.toNat,2]) (fp hN underlying39 5 tyS4 _ (q 67))) rfl (c (loadR (e:=39) (sz:=22) tyS4 (N5 E8 (F6 hx115).2) (o:=5) (ad _) (by rfl) (by rfl) (by rfl) (L rfl) (q 68)) rfl (c (OpJ.not (L rfl) (q 69)) rfl (c (nilP (L rfl) (q 65)) rfl (c (ov (.ptr 1043 ((r108.toNat*22)+5) [r108.toNat,2]) (fp hN underlying39 5 tyS4 _ (q 71))) rfl (cg (OpJ.storeR (e:=39) (sz:=22) (es':=(r24.1.set r108.toNat (A5.mk x116.fTo x116.fPrefix (!x115.fHas) x116.fRoute)).map E8) tyS4 (N5 E8 (F6 hx116).2) (o:=5) (SetAt.dst1 (by rfl) (by rfl) (SetAt.here _ _) (by rfl) (by rfl) (by first | rfl | omega)) (by rfl) (A5o _ _ _ _) (by rfl) (by rfl) (q 72) (q 70)) rfl cn)))))))))
        apply D2
        exact hjj43 _ h _ _ (Mat.trans (mp [] [(0,(B1 a0)),(12,(B1 r24.1)),(13,(.sref 1043 22 0 r24.1.length))] [(500,some (.know (globD 0 (.imap gv0)))),(1043,some (E9 (r24.1.set r108.toNat (A5.mk x116.fTo x116.fPrefix (!x115.fHas) x116.fRoute))))] hB) (Mat.trans (Mat.lenP (Ts:=[(13,(.sref 1043 22 0 ((r24.1.set r108.toNat (A5.mk x116.fTo x116.fPrefix (!x115.fHas) x116.fRoute)).length)))]) (Bs:=[]) (TwT.cons (x:=(.sref 1043 22 0 r24.1.length)) (by rfl) (Tw.leaf ⟨_,_,_,_,_,rfl,rfl,(by first | rfl | (simp;done) | (simp;omega) | omega)⟩) TwT.nil) TwB.nil) (mp [(3013,1043)] _ _ hB)))
       ·have h:=A4 hg114 h
        refine sr (SQ tt) ?_
        apply AWp.cond rfl<;>intro hg117
        ·have h:=A3 hg117 h
         obtain⟨x118,hx118,h⟩:=bindS h
         apply rg (c (mv hN (q 14)) rfl (c (nilP (L rfl) (q 75)) rfl (c (ov (.ptr 1043 ((r108.toNat*22)+6) [r108.toNat,3]) (fp hN underlying39 6 tyS37 _ (q 76))) rfl (c (ov (.ptr 1043 ((r108.toNat*22)+11) [r108.toNat,3,2]) (fp hN underlying37 5 tyS35 _ (q 77))) rfl (c (ov (.ptr 1043 ((r108.toNat*22)+11) [r108.toNat,3,2,0]) (fp hN underlying35 0 tyS3 _ (q 78))) rfl (cg (OpJ.storeR (e:=39) (sz:=22) (es':=(r24.1.set r108.toNat (A5.mk x118.fTo x118.fPrefix x118.fHas (C7.mk x118.fRoute.fPrefix x118.fRoute.fFrom (B2.mk (-1) x118.fRoute.fAttrs.fPath x118.fRoute.fAttrs.fNext x118.fRoute.fAttrs.fMED x118.fRoute.fAttrs.fPref x118.fRoute.fAttrs.fOTC x118.fRoute.fAttrs.fCommunities x118.fRoute.fAttrs.fLarge x118.fRoute.fAttrs.fOther)))).map E8) tyS3 (N5 E8 (F6 hx118).2) (o:=11) (SetAt.dst1 (by rfl) (by rfl) (SetAt.dst1 (by rfl) (by rfl) (SetAt.dst1 (by rfl) (by rfl) (SetAt.here _ _) (by rfl) (by rfl) (by first | rfl | omega)) (by rfl) (by rfl) (by first | rfl | omega)) (by rfl) (by rfl) (by first | rfl | omega)) (by rfl) (A5o _ _ _ _) (by rfl) (by rfl) (q 79) (ii (-1))) rfl cn))))))
         apply D2
         exact hjj43 _ h _ _ (Mat.trans (mp [] [(0,(B1 a0)),(12,(B1 r24.1)),(13,(.sref 1043 22 0 r24.1.length))] [(500,some (.know (globD 0 (.imap gv0)))),(1043,some (E9 (r24.1.set r108.toNat (A5.mk x118.fTo x118.fPrefix x118.fHas (C7.mk x118.fRoute.fPrefix x118.fRoute.fFrom (B2.mk (-1) x118.fRoute.fAttrs.fPath x118.fRoute.fAttrs.fNext x118.fRoute.fAttrs.fMED x118.fRoute.fAttrs.fPref x118.fRoute.fAttrs.fOTC x118.fRoute.fAttrs.fCommunities x118.fRoute.fAttrs.fLarge x118.fRoute.fAttrs.fOther))))))] hB) (Mat.trans (Mat.lenP (Ts:=[(13,(.sref 1043 22 0 ((r24.1.set r108.toNat (A5.mk x118.fTo x118.fPrefix x118.fHas (C7.mk x118.fRoute.fPrefix x118.fRoute.fFrom (B2.mk (-1) x118.fRoute.fAttrs.fPath x118.fRoute.fAttrs.fNext x118.fRoute.fAttrs.fMED x118.fRoute.fAttrs.fPref x118.fRoute.fAttrs.fOTC x118.fRoute.fAttrs.fCommunities x118.fRoute.fAttrs.fLarge x118.fRoute.fAttrs.fOther)))).length)))]) (Bs:=[]) (TwT.cons (x:=(.sref 1043 22 0 r24.1.length)) (by rfl) (Tw.leaf ⟨_,_,_,_,_,rfl,rfl,(by first | rfl | (simp;done) | (simp;omega) | omega)⟩) TwT.nil) TwB.nil) (mp [(3013,1043)] _ _ hB)))
        ·have h:=A4 hg117 h
         refine sr (SQ tt) ?_
         apply AWp.cond rfl<;>intro hg119
         ·have h:=A3 hg119 h
          obtain⟨_,hx120,h⟩:=bindS h
          obtain⟨_,hx121,h⟩:=bindS h
          obtain⟨hc122,h⟩:=B3 h
          refine rg (SQ (fa hx120 (fa hx121 (fa hc122 tt)))) ?_
          apply D2
          exact hjj43 _ h _ _ (mp [(3013,1087)] _ _ hB)
         ·have h:=A4 hg119 h
          apply AWp.skip
          apply D2
          exact hjj43 _ h _ _ (mp [(3013,1043)] _ _ hB)
     ·have h:=A4 hg107 h
      apply AWp.skip
      exact hjj43 _ h _ _ (mp [(3013,1043)] _ _ hB)
end
end Go.Proofs.YtkhjkjojjdkidaaGreatDoor
