/- Printed by gen.py: the Go functions as plain functions, and that the code does what they say. -/
import Derived.Test.YtkhjkjojjdkidaaGreatDoorChecked
import Derived.Test.YtkhjkjojjdkidaaGreatDoorVcYB
import Derived.Test.YtkhjkjojjdkidaaGreatDoorVcZ
import Derived.Test.YtkhjkjojjdkidaaGreatDoorVcGC
import Derived.KernelRfl
import Derived.Test.YtkhjkjojjdkidaaGreatDoorVcMD
import Derived.Test.YtkhjkjojjdkidaaGreatDoorVcMQ
import Derived.Test.YtkhjkjojjdkidaaGreatDoorVcSG
import Derived.Test.YtkhjkjojjdkidaaGreatDoorFnsC
import Derived.Test.YtkhjkjojjdkidaaGreatDoorExt
import Derived.Test.YtkhjkjojjdkidaaGreatDoorVcPm
import Derived.Test.YtkhjkjojjdkidaaGreatDoorVcRg
import Derived.Test.YtkhjkjojjdkidaaGreatDoorVcSt
import Derived.Test.YtkhjkjojjdkidaaGreatDoorVcMR
namespace Go.Proofs.YtkhjkjojjdkidaaGreatDoor
open Go Go.Vc
open Tryz
open Go.Vc.OpJ (assign alloc lss pickT pickF extract lenD indexD loadD eqlI gtr callVal leq geq loadR nilP indexS buildSlice lenS fieldD neqI pickAnd pickOr)
open Go.Vc.AWp (seq ghost ret block)
set_option maxHeartbeats 4000000
set_option maxRecDepth 100000
noncomputable section
def N2 (x105:A8) (s112:Int):Option (((Unit)⊕(Unit))⊕(Int)) :=
 (if (decide (s112<(x105.fASNs.length:Int)))=true then
 (idx x105.fASNs s112).bind fun x138 =>
 jn (fun m142:Bool =>
 (if m142=true then
 some (.inl (.inl ()))
 else
 some (.inr (w64 (s112+1))))) (fun j143 =>
 (if ((decide (x138<1)) || (decide (4294967295<x138)))=true then
 j143 true
 else
 (if (x105.fSet&&(decide (0<s112)))=true then
 (idx x105.fASNs (w64 (s112-1))).bind fun x147 =>
 j143 (decide (x138≤x147))
 else
 j143 false)))
 else
 some (.inl (.inr ())))
def R0 (a0:(List A8)) (s1:Int×Int):Option (((Unit)⊕(Int))⊕(Int×Int)) :=
 (if (decide (s1.2<(a0.length:Int)))=true then
 (idx a0 s1.2).bind fun x105 =>
 jn (fun m109:Bool =>
 (if m109=true then
 some (.inl (.inl ()))
 else
 (loop (N2 x105) 0).bind fun x148=>match x148 with
 | (.inl _) =>
  some (.inl (.inl ()))
 | (.inr _) =>
  some (.inr ((w64 (s1.1+(x105.fASNs.length:Int))),(w64 (s1.2+1)))))) (fun j110 =>
 (if ((x105.fASNs.length:Int)==0)=true then
 j110 true
 else
 (if ((decide (0<s1.2))&&(!x105.fSet))=true then
 (idx a0 (w64 (s1.2-1))).bind fun x152 =>
 j110 (!x152.fSet)
 else
 j110 false)))
 else
 some (.inl (.inr s1.1)))
def S2 (a0:(List A8)):Option (Bool) :=
 (loop (R0 a0) (0,0)).bind fun x153=>match x153 with
 | (.inl _) =>
  some false
 | (.inr p103) =>
  some (decide (p103≤64))
theorem J7 (a0:(List A8)) (r:Bool) (h:S2 a0=some r):AC Tryz.prog 71 [(.d (.list 2 (a0.map C3)))] [] (.d (.bool r)) []:=by
 refine ac2 Tryz.func71 rfl rfl fun B hB hN L => ?_
 delta S2 at h
 refine sr (SQ tt) ?_
 refine sr (SQ tt) ?_
 apply seq
 refine sr (SQ tt) ?_
 apply block
 obtain⟨x153,hx154,h⟩:=bindS h
 refine lg (R0 a0) (fun s1:Int×Int=>([(0,(B9 a0)),(3,(i6 s1.1)),(8,(B9 a0)),(9,(i6 (a0.length:Int))),(10,(i6 s1.2))]:EL)) (fun s1:Int×Int=>([]:OL)) (fun(x:(Unit)⊕(Int)) e E' O'=>match x with | (.inl _p)=>e = .ret∧Mat B E' O' ([(2,(bo false))]:EL) ([]:OL) | (.inr p103)=>e = .exit 0∧Mat B E' O' ([(3,(i6 p103))]:EL) ([]:OL)) hx154 (mp [] _ _ hB) (fun s1 y h => ?_) (fun e E' O' hR => ?_)
 ·unfold R0 at h
  refine sr (SQ tt) ?_
  apply seq
  apply AWp.cond rfl<;>intro hg104
  ·have h:=A3 hg104 h
   apply AWp.skip
   apply A0
   apply seq
   apply block
   obtain⟨x105,hx105,h⟩:=bindS h
   refine sr (SQ (fa hx105 tt)) ?_
   apply seq
   apply seq
   refine AWp.cut h (fun m109:Bool=>([(0,(B9 a0)),(3,(i6 s1.1)),(5,(pt 1005)),(8,(B9 a0)),(9,(i6 (a0.length:Int))),(10,(i6 s1.2)),(36,(bo m109))]:EL)) (fun m109:Bool=>([(1005,bd 66 (C3 x105))]:OL)) (fun m109 h E' O' hmat => ?_) (fun j110 hjj110 h => ?_)
   ·apply A0
    refine ghost hmat ?_
    apply AWp.cond rfl<;>intro hg111
    ·have h:=A3 hg111 h
     refine sr (SQ tt) ?_
     apply ret
     apply B5
     apply D3
     apply B5
     obtain rfl:=oi h
     exact⟨(fun hc=>by cases hc),rfl,(mp [] _ _ hB)⟩
    ·have h:=A4 hg111 h
     apply AWp.skip
     apply A0
     apply seq
     refine sr (SQ tt) ?_
     apply block
     obtain⟨x148,hx149,h⟩:=bindS h
     refine lg (N2 x105) (fun s112:Int=>([(0,(B9 a0)),(3,(i6 s1.1)),(5,(pt 1005)),(8,(B9 a0)),(9,(i6 (a0.length:Int))),(10,(i6 s1.2)),(38,(qI_1 x105.fASNs)),(39,(i6 (x105.fASNs.length:Int))),(40,(i6 s112))]:EL)) (fun s112:Int=>([(1005,bd 66 (C3 x105))]:OL)) (fun(x:(Unit)⊕(Unit)) e E' O'=>match x with | (.inl _p)=>e = .ret∧Mat B E' O' ([(2,(bo false))]:EL) ([]:OL) | (.inr _p)=>e = .exit 2∧Mat B E' O' ([(0,(B9 a0)),(3,(i6 s1.1)),(5,(pt 1005)),(8,(B9 a0)),(9,(i6 (a0.length:Int))),(10,(i6 s1.2))]:EL) ([(1005,bd 66 (C3 x105))]:OL)) hx149 (mp [] _ _ hB) (fun s112 y h => ?_) (fun e E' O' hR => ?_)
     ·unfold N2 at h
      refine sr (SQ tt) ?_
      apply seq
      apply AWp.cond rfl<;>intro hg137
      ·have h:=A3 hg137 h
       apply AWp.skip
       apply A0
       apply seq
       apply block
       obtain⟨x138,hx138,h⟩:=bindS h
       refine sr (SQ (fa hx138 tt)) ?_
       apply seq
       refine AWp.cut h (fun m142:Bool=>([(0,(B9 a0)),(3,(i6 s1.1)),(5,(pt 1005)),(8,(B9 a0)),(9,(i6 (a0.length:Int))),(10,(i6 s1.2)),(38,(qI_1 x105.fASNs)),(39,(i6 (x105.fASNs.length:Int))),(40,(i6 s112)),(68,(bo m142))]:EL)) (fun m142:Bool=>([(1005,bd 66 (C3 x105))]:OL)) (fun m142 h E' O' hmat => ?_) (fun j143 hjj143 h => ?_)
       ·apply A0
        refine ghost hmat ?_
        apply AWp.cond rfl<;>intro hg144
        ·have h:=A3 hg144 h
         refine sr (SQ tt) ?_
         apply ret
         apply D3
         apply B5
         obtain rfl:=oi h
         exact⟨(fun hc=>by cases hc),rfl,(mp [] _ _ hB)⟩
        ·have h:=A4 hg144 h
         apply AWp.skip
         apply D2
         apply A0
         refine rg (SQ tt) ?_
         obtain rfl:=oi h
         exact⟨rfl,(mp [] _ _ hB)⟩
       ·rcases bft ((decide (x138<1)) || (decide (4294967295<x138))) with hg145 | hg145
        ·have h:=A3 hg145 h
         refine rg (SQ (fa hg145 tt)) ?_
         exact hjj143 _ h _ _ (mp [] _ _ hB)
        ·have h:=A4 hg145 h
         rcases bft (x105.fSet&&(decide (0<s112))) with hg146 | hg146
         ·have h:=A3 hg146 h
          obtain⟨_,hx147,h⟩:=bindS h
          refine rg (SQ (fa hg145 (fa hg146 (fa hx147 tt)))) ?_
          exact hjj143 _ h _ _ (mp [] _ _ hB)
         ·have h:=A4 hg146 h
          refine rg (SQ (fa hg145 (fa hg146 tt))) ?_
          exact hjj143 _ h _ _ (mp [] _ _ hB)
      ·have h:=A4 hg137 h
       apply AWp.exit
       apply D6
       obtain rfl:=oi h
       exact⟨(fun hc=>by cases hc),rfl,(mp [] _ _ hB)⟩
     ·rcases x148 with _ | _
      ·obtain⟨rfl,hmat⟩:=hR
       apply D3
       apply B5
       apply D3
       apply B5
       obtain rfl:=oi h
       exact⟨(fun hc=>by cases hc),rfl,(Mat.trans hmat (mp [] _ _ hB))⟩
      ·obtain⟨rfl,hmat⟩:=hR
       apply C2
       apply A0
       refine ghost hmat ?_
       refine rg (SQ tt) ?_
       apply D2
       apply A0
       refine rg (SQ tt) ?_
       obtain rfl:=oi h
       exact⟨rfl,(mp [] _ _ hB)⟩
   ·rcases bft ((x105.fASNs.length:Int)==0) with hg150 | hg150
    ·have h:=A3 hg150 h
     refine rg (SQ (fa hg150 tt)) ?_
     exact hjj110 _ h _ _ (mp [] _ _ hB)
    ·have h:=A4 hg150 h
     rcases bft ((decide (0<s1.2))&&(!x105.fSet)) with hg151 | hg151
     ·have h:=A3 hg151 h
      obtain⟨_,hx152,h⟩:=bindS h
      refine rg (SQ (fa hg150 (fa hg151 (fa hx152 tt)))) ?_
      exact hjj110 _ h _ _ (mp [] _ _ hB)
     ·have h:=A4 hg151 h
      refine rg (SQ (fa hg150 (fa hg151 tt))) ?_
      exact hjj110 _ h _ _ (mp [] _ _ hB)
  ·have h:=A4 hg104 h
   apply AWp.exit
   apply D6
   obtain rfl:=oi h
   exact⟨(fun hc=>by cases hc),rfl,(mp [] _ _ hB)⟩
 ·rcases x153 with _ | p103
  ·obtain⟨rfl,hmat⟩:=hR
   apply D3
   apply B5
   obtain rfl:=oi h
   exact rt (Mat.trans hmat (mp [] [(2,(bo false))] [] hB)) [(bo false)] (rT rN) rfl
  ·obtain⟨rfl,hmat⟩:=hR
   apply C2
   apply A0
   refine ghost hmat ?_
   refine sr (SQ tt) ?_
   apply ret
   obtain rfl:=oi h
   exact rt (kp [(2,_)] [] hB rfl rfl (by rfl)) [(bo (decide (p103≤64)))] (rT rN) rfl
def A1c (a0:B0):Option (Bool) :=
 some ((((decide (0≤a0.fA))&&(decide (a0.fA≤65535)))&&(decide (0≤a0.fB)))&&(decide (a0.fB≤65535)))
theorem A3q (a0:B0) (r:Bool) (h:A1c a0=some r):AC Tryz.prog 102 [(.d (B6 a0))] [] (.d (.bool r)) []:=by
 refine AC.of_code2 Tryz.func102 rfl rfl (Nat.le_of_ble_eq_true (by rfl)) fun B hB hN => ?_
 delta A1c at h
 refine sr (SQ tt) ?_
 refine sr (SQ tt) ?_
 apply ret
 obtain rfl:=oi h
 exact rt (kp [(2,_)] [] hB rfl rfl (by rfl)) [(bo ((((decide (0≤a0.fA))&&(decide (a0.fA≤65535)))&&(decide (0≤a0.fB)))&&(decide (a0.fB≤65535))))] (rT rN) rfl
def A3g (a0:B0) (a1:B0):Option (Bool) :=
 jn (fun m2:Bool =>
 some m2) (fun j3 =>
 (if (decide (a0.fA<a1.fA))=true then
 j3 true
 else
 j3 ((a0.fA==a1.fA)&&(decide (a0.fB<a1.fB)))))
theorem B0m (a0:B0) (a1:B0) (r:Bool) (h:A3g a0 a1=some r):AC Tryz.prog 103 [(.d (B6 a0)),(.d (B6 a1))] [] (.d (.bool r)) []:=by
 refine ac2 Tryz.func103 rfl rfl fun B hB hN L => ?_
 delta A3g at h
 refine sr (SQ tt) ?_
 apply seq
 refine AWp.cut h (fun m2:Bool=>([(4,(bo m2))]:EL)) (fun m2:Bool=>([]:OL)) (fun m2 h E' O' hmat => ?_) (fun j3 hjj3 h => ?_)
 ·apply A0
  refine ghost hmat ?_
  apply ret
  obtain rfl:=oi h
  exact rt (kp [(4,_)] [] hB rfl rfl (by rfl)) [(bo m2)] (rT rN) rfl
 ·rcases bft (decide (a0.fA<a1.fA)) with hg4 | hg4
  ·have h:=A3 hg4 h
   refine rg (SQ (fa hg4 tt)) ?_
   exact hjj3 _ h _ _ (mp [] _ _ hB)
  ·have h:=A4 hg4 h
   refine rg (SQ (fa hg4 tt)) ?_
   exact hjj3 _ h _ _ (mp [] _ _ hB)
def N3 (a0:(List B0)) (s1:Int):Option (((Unit)⊕(Unit))⊕(Int)) :=
 (if (decide (s1<(a0.length:Int)))=true then
 (idx a0 s1).bind fun x37 =>
 jn (fun m44:Bool =>
 (if m44=true then
 some (.inl (.inl ()))
 else
 some (.inr (w64 (s1+1))))) (fun j45 =>
 (A1c x37).bind fun r47 =>
 (if (!r47)=true then
 j45 true
 else
 (if (decide (0<s1))=true then
 (idx a0 (w64 (s1-1))).bind fun x50 =>
 (A3g x50 x37).bind fun r51 =>
 j45 (!r51)
 else
 j45 false)))
 else
 some (.inl (.inr ())))
def S3 (a0:(List B0)):Option (Bool) :=
 (loop (N3 a0) 0).bind fun x52=>match x52 with
 | (.inl _) =>
  some false
 | (.inr _) =>
  some (decide ((a0.length:Int)≤64))
theorem A1p (a0:(List B0)) (r:Bool) (h:S3 a0=some r):AC Tryz.prog 79 [(.d (.list 2 (a0.map B6)))] [] (.d (.bool r)) []:=by
 refine ac2 Tryz.func79 rfl rfl fun B hB hN L => ?_
 delta S3 at h
 refine sr (SQ tt) ?_
 apply seq
 refine sr (SQ tt) ?_
 apply block
 obtain⟨x52,hx53,h⟩:=bindS h
 refine lg (N3 a0) (fun s1:Int=>([(0,(C1 a0)),(5,(C1 a0)),(6,(i6 (a0.length:Int))),(7,(i6 s1))]:EL)) (fun s1:Int=>([]:OL)) (fun(x:(Unit)⊕(Unit)) e E' O'=>match x with | (.inl _p)=>e = .ret∧Mat B E' O' ([(2,(bo false))]:EL) ([]:OL) | (.inr _p)=>e = .exit 0∧Mat B E' O' ([(0,(C1 a0))]:EL) ([]:OL)) hx53 (mp [] _ _ hB) (fun s1 y h => ?_) (fun e E' O' hR => ?_)
 ·unfold N3 at h
  refine sr (SQ tt) ?_
  apply seq
  apply AWp.cond rfl<;>intro hg36
  ·have h:=A3 hg36 h
   apply AWp.skip
   apply A0
   apply seq
   apply block
   obtain⟨x37,hx37,h⟩:=bindS h
   refine sr (SQ (fa hx37 tt)) ?_
   apply seq
   refine AWp.cut h (fun m44:Bool=>([(0,(C1 a0)),(5,(C1 a0)),(6,(i6 (a0.length:Int))),(7,(i6 s1)),(28,(bo m44))]:EL)) (fun m44:Bool=>([]:OL)) (fun m44 h E' O' hmat => ?_) (fun j45 hjj45 h => ?_)
   ·apply A0
    refine ghost hmat ?_
    apply AWp.cond rfl<;>intro hg46
    ·have h:=A3 hg46 h
     refine sr (SQ tt) ?_
     apply ret
     apply D3
     apply B5
     obtain rfl:=oi h
     exact⟨(fun hc=>by cases hc),rfl,(mp [] _ _ hB)⟩
    ·have h:=A4 hg46 h
     apply AWp.skip
     apply D2
     apply A0
     refine rg (SQ tt) ?_
     obtain rfl:=oi h
     exact⟨rfl,(mp [] _ _ hB)⟩
   ·obtain⟨r47,hr47,h⟩:=bindS h
    rcases bft (!r47) with hg48 | hg48
    ·have h:=A3 hg48 h
     refine drS (SQ (fa (cl [] (A3q x37 r47 hr47)) (fa hg48 tt))) ?_
     exact hjj45 _ h _ _ (mp [] _ _ hB)
    ·have h:=A4 hg48 h
     rcases bft (decide (0<s1)) with hg49 | hg49
     ·have h:=A3 hg49 h
      obtain⟨x50,hx50,h⟩:=bindS h
      obtain⟨r51,hr51,h⟩:=bindS h
      refine drS (SQ (fa (cl [] (A3q x37 r47 hr47)) (fa hg48 (fa hg49 (fa hx50 (fa (cl [] (B0m x50 x37 r51 hr51)) tt)))))) ?_
      exact hjj45 _ h _ _ (mp [] _ _ hB)
     ·have h:=A4 hg49 h
      refine drS (SQ (fa (cl [] (A3q x37 r47 hr47)) (fa hg48 (fa hg49 tt)))) ?_
      exact hjj45 _ h _ _ (mp [] _ _ hB)
  ·have h:=A4 hg36 h
   apply AWp.exit
   apply D6
   obtain rfl:=oi h
   exact⟨(fun hc=>by cases hc),rfl,(mp [] _ _ hB)⟩
 ·rcases x52 with _ | _
  ·obtain⟨rfl,hmat⟩:=hR
   apply D3
   apply B5
   obtain rfl:=oi h
   exact rt (Mat.trans hmat (mp [] [(2,(bo false))] [] hB)) [(bo false)] (rT rN) rfl
  ·obtain⟨rfl,hmat⟩:=hR
   apply C2
   apply A0
   refine ghost hmat ?_
   refine sr (SQ tt) ?_
   apply ret
   obtain rfl:=oi h
   exact rt (kp [(2,_)] [] hB rfl rfl (by rfl)) [(bo (decide ((a0.length:Int)≤64)))] (rT rN) rfl
def Q6 (a0:D5):Option (Bool) :=
 some ((((((decide (0≤a0.fA))&&(decide (a0.fA≤4294967295)))&&(decide (0≤a0.fB)))&&(decide (a0.fB≤4294967295)))&&(decide (0≤a0.fC)))&&(decide (a0.fC≤4294967295)))
theorem A0z (a0:D5) (r:Bool) (h:Q6 a0=some r):AC Tryz.prog 104 [(.d (D8 a0))] [] (.d (.bool r)) []:=by
 refine ac2 Tryz.func104 rfl rfl fun B hB hN L => ?_
 delta Q6 at h
 refine sr (SQ tt) ?_
 refine sr (SQ tt) ?_
 apply ret
 obtain rfl:=oi h
 exact rt (kp [(2,_)] [] hB rfl rfl (by rfl)) [(bo ((((((decide (0≤a0.fA))&&(decide (a0.fA≤4294967295)))&&(decide (0≤a0.fB)))&&(decide (a0.fB≤4294967295)))&&(decide (0≤a0.fC)))&&(decide (a0.fC≤4294967295))))] (rT rN) rfl
def X8 (a0:D5) (a1:D5):Option (Bool) :=
 jn (fun m4:Bool =>
 some m4) (fun j5 =>
 (if (decide (a0.fA<a1.fA))=true then
 j5 true
 else
 (if (a0.fA==a1.fA)=true then
 (if (decide (a0.fB<a1.fB))=true then
 j5 true
 else
 j5 ((a0.fB==a1.fB)&&(decide (a0.fC<a1.fC))))
 else
 j5 false)))
theorem A7c (a0:D5) (a1:D5) (r:Bool) (h:X8 a0 a1=some r):AC Tryz.prog 105 [(.d (D8 a0)),(.d (D8 a1))] [] (.d (.bool r)) []:=by
 refine ac2 Tryz.func105 rfl rfl fun B hB hN L => ?_
 delta X8 at h
 refine sr (SQ tt) ?_
 apply seq
 refine AWp.cut h (fun m4:Bool=>([(4,(bo m4))]:EL)) (fun m4:Bool=>([]:OL)) (fun m4 h E' O' hmat => ?_) (fun j5 hjj5 h => ?_)
 ·apply A0
  refine ghost hmat ?_
  apply ret
  obtain rfl:=oi h
  exact rt (kp [(4,_)] [] hB rfl rfl (by rfl)) [(bo m4)] (rT rN) rfl
 ·rcases bft (decide (a0.fA<a1.fA)) with hg6 | hg6
  ·have h:=A3 hg6 h
   refine rg (SQ (fa hg6 tt)) ?_
   exact hjj5 _ h _ _ (mp [] _ _ hB)
  ·have h:=A4 hg6 h
   rcases bft (a0.fA==a1.fA) with hg7 | hg7
   ·have h:=A3 hg7 h
    rcases bft (decide (a0.fB<a1.fB)) with hg8 | hg8
    ·have h:=A3 hg8 h
     refine rg (SQ (fa hg6 (fa hg7 (fa hg8 tt)))) ?_
     exact hjj5 _ h _ _ (mp [] _ _ hB)
    ·have h:=A4 hg8 h
     refine rg (SQ (fa hg6 (fa hg7 (fa hg8 tt)))) ?_
     exact hjj5 _ h _ _ (mp [] _ _ hB)
   ·have h:=A4 hg7 h
    refine rg (SQ (fa hg6 (fa hg7 tt))) ?_
    exact hjj5 _ h _ _ (mp [] _ _ hB)
def H2 (a0:(List D5)) (s1:Int):Option (((Unit)⊕(Unit))⊕(Int)) :=
 (if (decide (s1<(a0.length:Int)))=true then
 (idx a0 s1).bind fun x37 =>
 jn (fun m44:Bool =>
 (if m44=true then
 some (.inl (.inl ()))
 else
 some (.inr (w64 (s1+1))))) (fun j45 =>
 (Q6 x37).bind fun r47 =>
 (if (!r47)=true then
 j45 true
 else
 (if (decide (0<s1))=true then
 (idx a0 (w64 (s1-1))).bind fun x50 =>
 (X8 x50 x37).bind fun r51 =>
 j45 (!r51)
 else
 j45 false)))
 else
 some (.inl (.inr ())))
def I0 (a0:(List D5)):Option (Bool) :=
 (loop (H2 a0) 0).bind fun x52=>match x52 with
 | (.inl _) =>
  some false
 | (.inr _) =>
  some (decide ((a0.length:Int)≤64))
theorem A3h (a0:(List D5)) (r:Bool) (h:I0 a0=some r):AC Tryz.prog 80 [(.d (.list 3 (a0.map D8)))] [] (.d (.bool r)) []:=by
 refine ac2 Tryz.func80 rfl rfl fun B hB hN L => ?_
 delta I0 at h
 refine sr (SQ tt) ?_
 apply seq
 refine sr (SQ tt) ?_
 apply block
 obtain⟨x52,hx53,h⟩:=bindS h
 refine lg (H2 a0) (fun s1:Int=>([(0,(D7 a0)),(5,(D7 a0)),(6,(i6 (a0.length:Int))),(7,(i6 s1))]:EL)) (fun s1:Int=>([]:OL)) (fun(x:(Unit)⊕(Unit)) e E' O'=>match x with | (.inl _p)=>e = .ret∧Mat B E' O' ([(2,(bo false))]:EL) ([]:OL) | (.inr _p)=>e = .exit 0∧Mat B E' O' ([(0,(D7 a0))]:EL) ([]:OL)) hx53 (mp [] _ _ hB) (fun s1 y h => ?_) (fun e E' O' hR => ?_)
 ·unfold H2 at h
  refine sr (SQ tt) ?_
  apply seq
  apply AWp.cond rfl<;>intro hg36
  ·have h:=A3 hg36 h
   apply AWp.skip
   apply A0
   apply seq
   apply block
   obtain⟨x37,hx37,h⟩:=bindS h
   refine sr (SQ (fa hx37 tt)) ?_
   apply seq
   refine AWp.cut h (fun m44:Bool=>([(0,(D7 a0)),(5,(D7 a0)),(6,(i6 (a0.length:Int))),(7,(i6 s1)),(28,(bo m44))]:EL)) (fun m44:Bool=>([]:OL)) (fun m44 h E' O' hmat => ?_) (fun j45 hjj45 h => ?_)
   ·apply A0
    refine ghost hmat ?_
    apply AWp.cond rfl<;>intro hg46
    ·have h:=A3 hg46 h
     refine sr (SQ tt) ?_
     apply ret
     apply D3
     apply B5
     obtain rfl:=oi h
     exact⟨(fun hc=>by cases hc),rfl,(mp [] _ _ hB)⟩
    ·have h:=A4 hg46 h
     apply AWp.skip
     apply D2
     apply A0
     refine rg (SQ tt) ?_
     obtain rfl:=oi h
     exact⟨rfl,(mp [] _ _ hB)⟩
   ·obtain⟨r47,hr47,h⟩:=bindS h
    rcases bft (!r47) with hg48 | hg48
    ·have h:=A3 hg48 h
     refine drS (SQ (fa (cl [] (A0z x37 r47 hr47)) (fa hg48 tt))) ?_
     exact hjj45 _ h _ _ (mp [] _ _ hB)
    ·have h:=A4 hg48 h
     rcases bft (decide (0<s1)) with hg49 | hg49
     ·have h:=A3 hg49 h
      obtain⟨x50,hx50,h⟩:=bindS h
      obtain⟨r51,hr51,h⟩:=bindS h
      refine drS (SQ (fa (cl [] (A0z x37 r47 hr47)) (fa hg48 (fa hg49 (fa hx50 (fa (cl [] (A7c x50 x37 r51 hr51)) tt)))))) ?_
      exact hjj45 _ h _ _ (mp [] _ _ hB)
     ·have h:=A4 hg49 h
      refine drS (SQ (fa (cl [] (A0z x37 r47 hr47)) (fa hg48 (fa hg49 tt)))) ?_
      exact hjj45 _ h _ _ (mp [] _ _ hB)
  ·have h:=A4 hg36 h
   apply AWp.exit
   apply D6
   obtain rfl:=oi h
   exact⟨(fun hc=>by cases hc),rfl,(mp [] _ _ hB)⟩
 ·rcases x52 with _ | _
  ·obtain⟨rfl,hmat⟩:=hR
   apply D3
   apply B5
   obtain rfl:=oi h
   exact rt (Mat.trans hmat (mp [] [(2,(bo false))] [] hB)) [(bo false)] (rT rN) rfl
  ·obtain⟨rfl,hmat⟩:=hR
   apply C2
   apply A0
   refine ghost hmat ?_
   refine sr (SQ tt) ?_
   apply ret
   obtain rfl:=oi h
   exact rt (kp [(2,_)] [] hB rfl rfl (by rfl)) [(bo (decide ((a0.length:Int)≤64)))] (rT rN) rfl
def N4 (a0:B2) (s1:Int):Option (((Unit)⊕(Unit))⊕(Int)) :=
 (if (decide (s1<(a0.fOther.length:Int)))=true then
 (idx a0.fOther s1).bind fun x35 =>
 jn (fun m41:Bool =>
 (if m41=true then
 some (.inl (.inl ()))
 else
 some (.inr (w64 (s1+1))))) (fun j42 =>
 (if ((decide (x35.fType<1)) || (decide (255<x35.fType)))=true then
 j42 true
 else
 (Q2 x35.fType).bind fun r45 =>
 (if (((!r45) || (x35.fFlags != 224)) || (decide (255<(x35.fData.length:Int))))=true then
 j42 true
 else
 (if (decide (0<s1))=true then
 (idx a0.fOther (w64 (s1-1))).bind fun x48 =>
 j42 (decide (x35.fType≤x48.fType))
 else
 j42 false))))
 else
 some (.inl (.inr ())))
def L3 (a0:B2):Option (Bool) :=
 (loop (N4 a0) 0).bind fun x49=>match x49 with
 | (.inl _) =>
  some false
 | (.inr _) =>
  jn (fun m64:Bool =>
  some m64) (fun j65 =>
  (if ((decide ((-1)≤a0.fOrigin))&&(decide (a0.fOrigin≤2)))=true then
  (S2 a0.fPath).bind fun r67 =>
  (if r67=true then
  (W4 a0.fNext).bind fun r69 =>
  (if ((((r69&&(decide ((-1)≤a0.fMED)))&&(decide (a0.fMED≤4294967295)))&&(decide ((-1)≤a0.fPref)))&&(decide (a0.fPref≤4294967295)))=true then
  (if (a0.fOTC==(-1))=true then
  (S3 a0.fCommunities).bind fun r72 =>
  (if r72=true then
  (I0 a0.fLarge).bind fun r74 =>
  j65 (r74&&(decide ((a0.fOther.length:Int)≤8)))
  else
  j65 false)
  else
  (if ((decide (1≤a0.fOTC))&&(decide (a0.fOTC≤4294967295)))=true then
  (S3 a0.fCommunities).bind fun r76 =>
  (if r76=true then
  (I0 a0.fLarge).bind fun r78 =>
  j65 (r78&&(decide ((a0.fOther.length:Int)≤8)))
  else
  j65 false)
  else
  j65 false))
  else
  j65 false)
  else
  j65 false)
  else
  j65 false))
theorem A63 (a0:B2) (r:Bool) (h:L3 a0=some r):AC Tryz.prog 44 [(.d (C0 a0))] [] (.d (.bool r)) []:=by
 refine ac2 Tryz.func44 rfl rfl fun B hB hN L => ?_
 delta L3 at h
 apply sr (cg (OpJ.box hB (nm:=1001) (by decide) (by simp) rfl (L rfl) (q 0)) rfl (c (assign (L rfl) (Opd.bool false)) rfl cn))
 apply seq
 apply sr (c (fo 1001 10 [8] hN underlying35 10 tyS33 (q 1)) rfl (c (la hN 35 tyS33 (q 5)) rfl (c (OpJ.val (v':=(i6 (a0.fOther.length:Int))) (by simp) (lenD underlying33 (L rfl) (q 6))) rfl (c (mv hN (ii 0)) rfl cn))))
 apply block
 obtain⟨x49,hx50,h⟩:=bindS h
 refine lg (N4 a0) (fun s1:Int=>([(1,(pt 1001)),(6,(B7 a0.fOther)),(7,(i6 (a0.fOther.length:Int))),(8,(i6 s1))]:EL)) (fun s1:Int=>([(1001,bd 35 (C0 a0))]:OL)) (fun(x:(Unit)⊕(Unit)) e E' O'=>match x with | (.inl _p)=>e = .ret∧Mat B E' O' ([(2,(bo false))]:EL) ([]:OL) | (.inr _p)=>e = .exit 0∧Mat B E' O' ([(1,(pt 1001))]:EL) ([(1001,bd 35 (C0 a0))]:OL)) hx50 (mp [] _ _ hB) (fun s1 y h => ?_) (fun e E' O' hR => ?_)
 ·unfold N4 at h
  apply sr (c (lss (L rfl) (q 8) (q 7)) rfl cn)
  apply seq
  apply AWp.cond rfl<;>intro hg34
  ·have h:=A3 hg34 h
   apply AWp.skip
   apply A0
   apply seq
   apply block
   obtain⟨x35,hx35,h⟩:=bindS h
   apply sr (c (mv hN (q 8)) rfl (c (indexD underlying33 tyS69 (F6 hx35).1 (N5 A9 (F6 hx35).2) (L rfl) (q 6) (q 8)) rfl (c (loadD tyS69 (by rfl) (by rfl) (L rfl) (q 11)) rfl (cg (alloc hB tyZ69 (nm:=1004) (by decide) (L rfl)) rfl (c (assign (L rfl) (q 10)) rfl (cg (sB tyS69 (q 4) (q 12)) rfl cn))))))
   apply seq
   refine AWp.cut h (fun m41:Bool=>([(1,(pt 1001)),(6,(B7 a0.fOther)),(7,(i6 (a0.fOther.length:Int))),(8,(i6 s1)),(53,(bo m41))]:EL)) (fun m41:Bool=>([(1001,bd 35 (C0 a0))]:OL)) (fun m41 h E' O' hmat => ?_) (fun j42 hjj42 h => ?_)
   ·apply A0
    refine ghost hmat ?_
    apply AWp.cond rfl<;>intro hg43
    ·have h:=A3 hg43 h
     apply sr (c (assign (L rfl) (Opd.bool false)) rfl cn)
     apply ret
     apply D3
     apply B5
     obtain rfl:=oi h
     exact⟨(fun hc=>by cases hc),rfl,(mp [] _ _ hB)⟩
    ·have h:=A4 hg43 h
     apply AWp.skip
     apply D2
     apply A0
     apply rg (c (add6 (L rfl) (q 8) (ii 1)) rfl (c (mv hN (q 54)) rfl cn))
     obtain rfl:=oi h
     exact⟨rfl,(mp [] _ _ hB)⟩
   ·rcases bft ((decide (x35.fType<1)) || (decide (255<x35.fType))) with hg44 | hg44
    ·have h:=A3 hg44 h
     apply dr (c (fo 1004 1 [1] hN underlying69 1 tyS3 (q 4)) rfl (c (la hN 69 tyS3 (q 13)) rfl (c (lss (L rfl) (q 14) (ii 1)) rfl (c (mv hN (q 15)) rfl (c (oq hN 16 (fo 1004 1 [1] hN underlying69 1 tyS3 (q 4)) (OptL.keep (by rfl) OptL.nil) (GuardV.plain _)) rfl (c (oq hN 16 (la hN 69 tyS3 (q 17)) (OptL.opt OptL.nil) (GuardV.plain _)) rfl (c (oq hN 16 (gtr (L rfl) (q 18) (ii 255)) (OptL.opt OptL.nil) (GuardV.plain _)) rfl (c (pickOr rfl (L rfl) (q 16) (q 19)) rfl (c (OpJ.val (v':=.d (.bool true)) (by rw [hg44]<;>rfl) (mv hN (q 20))) rfl (ks 21 (L rfl) (ks 21 (L rfl) (ks 21 (L rfl) (ks 21 (L rfl) (c (pickT (L rfl) (q 21) (Opd.bool true)) rfl (c (mv hN (q 26)) rfl (ks 27 (L rfl) (ks 27 (L rfl) (ks 27 (L rfl) (c (pickT (L rfl) (q 27) (Opd.bool true)) rfl (c (mv hN (q 31)) rfl (ks 32 (L rfl) (ks 32 (L rfl) (ks 32 (L rfl) (ks 32 (L rfl) (c (pickT (L rfl) (q 32) (Opd.bool true)) rfl (c (mv hN (q 37)) rfl (ks 38 (L rfl) (ks 38 (L rfl) (ks 38 (L rfl) (cg (sV 41 (L rfl)) rfl (cg (sV 41 (L rfl)) rfl (cg (sV 41 (L rfl)) rfl (cg (sV 41 (L rfl)) rfl (cg (sV 41 (L rfl)) rfl (cg (sV 41 (L rfl)) rfl (cg (sV 41 (L rfl)) rfl (cg (sV 41 (L rfl)) rfl (cg (sV 41 (L rfl)) rfl (cg (sV 41 (L rfl)) rfl (ks 38 (L rfl) (c (pickT (L rfl) (q 38) (Opd.bool true)) rfl cn))))))))))))))))))))))))))))))))))))))))) (by kernel_rfl) (by kernel_rfl)
     exact hjj42 _ h _ _ (mp [] _ _ hB)
    ·have h:=A4 hg44 h
     obtain⟨r45,hr45,h⟩:=bindS h
     rcases bft (((!r45) || (x35.fFlags != 224)) || (decide (255<(x35.fData.length:Int)))) with hg46 | hg46
     ·have h:=A3 hg46 h
      apply dr (c (fo 1004 1 [1] hN underlying69 1 tyS3 (q 4)) rfl (c (la hN 69 tyS3 (q 13)) rfl (c (lss (L rfl) (q 14) (ii 1)) rfl (c (mv hN (q 15)) rfl (c (oq hN 16 (fo 1004 1 [1] hN underlying69 1 tyS3 (q 4)) (OptL.keep (by rfl) OptL.nil) (GuardV.plain _)) rfl (c (oq hN 16 (la hN 69 tyS3 (q 17)) (OptL.opt OptL.nil) (GuardV.plain _)) rfl (c (oq hN 16 (gtr (L rfl) (q 18) (ii 255)) (OptL.opt OptL.nil) (GuardV.plain _)) rfl (c (pickOr rfl (L rfl) (q 16) (q 19)) rfl (c (OpJ.val (v':=.d (.bool false)) (by rw [hg44]<;>rfl) (mv hN (q 20))) rfl (c (gd 21 (fo 1004 1 [1] hN underlying69 1 tyS3 (q 4))) rfl (c (gd 21 (la hN 69 tyS3 (q 22))) rfl (cg (gd 21 (cf hB fnOk77 (A2p x35.fType r45 hr45) (L rfl) (OpdL.cons (q 23) OpdL.nil))) rfl (c (gd 21 (OpJ.not (L rfl) (q 24))) rfl (c (pickF (L rfl) (q 21) (q 25)) rfl (c (mv hN (q 26)) rfl (c (oq hN 27 (fo 1004 0 [0] hN underlying69 0 tyS3 (q 4)) (OptL.keep (by rfl) OptL.nil) (GuardV.plain _)) rfl (c (oq hN 27 (la hN 69 tyS3 (q 28)) (OptL.opt OptL.nil) (GuardV.plain _)) rfl (c (oq hN 27 (neqI (L rfl) (q 29) (ii 224)) (OptL.opt OptL.nil) (GuardV.plain _)) rfl (c (pickOr rfl (L rfl) (q 27) (q 30)) rfl (c (mv hN (q 31)) rfl (c (oq hN 32 (fo 1004 2 [2] hN underlying69 2 tyS67 (q 4)) (OptL.keep (by rfl) OptL.nil) (GuardV.plain _)) rfl (c (oq hN 32 (la hN 69 tyS67 (q 33)) (OptL.opt OptL.nil) (GuardV.plain _)) rfl (c (oq hN 32 (OpJ.val (v':=(i6 (x35.fData.length:Int))) (by simp) (lenD underlying67 (L rfl) (q 34))) (OptL.opt OptL.nil) (GuardV.plain _)) rfl (c (oq hN 32 (gtr (L rfl) (q 35) (ii 255)) (OptL.opt OptL.nil) (GuardV.plain _)) rfl (c (pickOr rfl (L rfl) (q 32) (q 36)) rfl (c (OpJ.val (v':=.d (.bool true)) (by rw [hg46]<;>rfl) (mv hN (q 37))) rfl (ks 38 (L rfl) (ks 38 (L rfl) (ks 38 (L rfl) (cg (sV 41 (L rfl)) rfl (cg (sV 41 (L rfl)) rfl (cg (sV 41 (L rfl)) rfl (cg (sV 41 (L rfl)) rfl (cg (sV 41 (L rfl)) rfl (cg (sV 41 (L rfl)) rfl (cg (sV 41 (L rfl)) rfl (cg (sV 41 (L rfl)) rfl (cg (sV 41 (L rfl)) rfl (cg (sV 41 (L rfl)) rfl (ks 38 (L rfl) (c (pickT (L rfl) (q 38) (Opd.bool true)) rfl cn))))))))))))))))))))))))))))))))))))))))) (by kernel_rfl) (by kernel_rfl)
      exact hjj42 _ h _ _ (mp [] _ _ hB)
     ·have h:=A4 hg46 h
      rcases bft (decide (0<s1)) with hg47 | hg47
      ·have h:=A3 hg47 h
       obtain⟨_,hx48,h⟩:=bindS h
       apply dr (c (fo 1004 1 [1] hN underlying69 1 tyS3 (q 4)) rfl (c (la hN 69 tyS3 (q 13)) rfl (c (lss (L rfl) (q 14) (ii 1)) rfl (c (mv hN (q 15)) rfl (c (oq hN 16 (fo 1004 1 [1] hN underlying69 1 tyS3 (q 4)) (OptL.keep (by rfl) OptL.nil) (GuardV.plain _)) rfl (c (oq hN 16 (la hN 69 tyS3 (q 17)) (OptL.opt OptL.nil) (GuardV.plain _)) rfl (c (oq hN 16 (gtr (L rfl) (q 18) (ii 255)) (OptL.opt OptL.nil) (GuardV.plain _)) rfl (c (pickOr rfl (L rfl) (q 16) (q 19)) rfl (c (OpJ.val (v':=.d (.bool false)) (by rw [hg44]<;>rfl) (mv hN (q 20))) rfl (c (gd 21 (fo 1004 1 [1] hN underlying69 1 tyS3 (q 4))) rfl (c (gd 21 (la hN 69 tyS3 (q 22))) rfl (cg (gd 21 (cf hB fnOk77 (A2p x35.fType r45 hr45) (L rfl) (OpdL.cons (q 23) OpdL.nil))) rfl (c (gd 21 (OpJ.not (L rfl) (q 24))) rfl (c (pickF (L rfl) (q 21) (q 25)) rfl (c (mv hN (q 26)) rfl (c (oq hN 27 (fo 1004 0 [0] hN underlying69 0 tyS3 (q 4)) (OptL.keep (by rfl) OptL.nil) (GuardV.plain _)) rfl (c (oq hN 27 (la hN 69 tyS3 (q 28)) (OptL.opt OptL.nil) (GuardV.plain _)) rfl (c (oq hN 27 (neqI (L rfl) (q 29) (ii 224)) (OptL.opt OptL.nil) (GuardV.plain _)) rfl (c (pickOr rfl (L rfl) (q 27) (q 30)) rfl (c (mv hN (q 31)) rfl (c (oq hN 32 (fo 1004 2 [2] hN underlying69 2 tyS67 (q 4)) (OptL.keep (by rfl) OptL.nil) (GuardV.plain _)) rfl (c (oq hN 32 (la hN 69 tyS67 (q 33)) (OptL.opt OptL.nil) (GuardV.plain _)) rfl (c (oq hN 32 (OpJ.val (v':=(i6 (x35.fData.length:Int))) (by simp) (lenD underlying67 (L rfl) (q 34))) (OptL.opt OptL.nil) (GuardV.plain _)) rfl (c (oq hN 32 (gtr (L rfl) (q 35) (ii 255)) (OptL.opt OptL.nil) (GuardV.plain _)) rfl (c (pickOr rfl (L rfl) (q 32) (q 36)) rfl (c (OpJ.val (v':=.d (.bool false)) (by rw [hg46]<;>rfl) (mv hN (q 37))) rfl (c (gd 38 (mv hN (q 3))) rfl (c (gd 38 (gtr (L rfl) (q 39) (ii 0))) rfl (c (gd 38 (OpJ.val (v':=.d (.bool true)) (by rw [hg47]<;>rfl) (mv hN (q 40)))) rfl (c (gd 41 (fo 1001 10 [8] hN underlying35 10 tyS33 (q 1))) rfl (c (gd 41 (la hN 35 tyS33 (q 42))) rfl (c (gd 41 (mv hN (q 3))) rfl (c (gd 41 (sub6 (L rfl) (q 44) (ii 1))) rfl (c (gd 41 (indexD underlying33 tyS69 (F6 hx48).1 (N5 A9 (F6 hx48).2) (L rfl) (q 43) (q 45))) rfl (c (gd 41 (fieldD underlying69 (by rfl) (o:=1) (by rfl) tyS3 (by decide) (by rfl) (by rfl) (L rfl) (q 46))) rfl (c (gd 41 (loadD tyS3 (by rfl) (by rfl) (L rfl) (q 47))) rfl (c (gd 41 (fo 1004 1 [1] hN underlying69 1 tyS3 (q 4))) rfl (c (gd 41 (la hN 69 tyS3 (q 49))) rfl (c (gd 41 (geq (L rfl) (q 48) (q 50))) rfl (c (gd 38 (pickT (L rfl) (q 41) (q 51))) rfl (c (pickF (L rfl) (q 38) (q 52)) rfl cn))))))))))))))))))))))))))))))))))))))))) (by kernel_rfl) (by kernel_rfl)
       exact hjj42 _ h _ _ (mp [] _ _ hB)
      ·have h:=A4 hg47 h
       apply dr (c (fo 1004 1 [1] hN underlying69 1 tyS3 (q 4)) rfl (c (la hN 69 tyS3 (q 13)) rfl (c (lss (L rfl) (q 14) (ii 1)) rfl (c (mv hN (q 15)) rfl (c (oq hN 16 (fo 1004 1 [1] hN underlying69 1 tyS3 (q 4)) (OptL.keep (by rfl) OptL.nil) (GuardV.plain _)) rfl (c (oq hN 16 (la hN 69 tyS3 (q 17)) (OptL.opt OptL.nil) (GuardV.plain _)) rfl (c (oq hN 16 (gtr (L rfl) (q 18) (ii 255)) (OptL.opt OptL.nil) (GuardV.plain _)) rfl (c (pickOr rfl (L rfl) (q 16) (q 19)) rfl (c (OpJ.val (v':=.d (.bool false)) (by rw [hg44]<;>rfl) (mv hN (q 20))) rfl (c (gd 21 (fo 1004 1 [1] hN underlying69 1 tyS3 (q 4))) rfl (c (gd 21 (la hN 69 tyS3 (q 22))) rfl (cg (gd 21 (cf hB fnOk77 (A2p x35.fType r45 hr45) (L rfl) (OpdL.cons (q 23) OpdL.nil))) rfl (c (gd 21 (OpJ.not (L rfl) (q 24))) rfl (c (pickF (L rfl) (q 21) (q 25)) rfl (c (mv hN (q 26)) rfl (c (oq hN 27 (fo 1004 0 [0] hN underlying69 0 tyS3 (q 4)) (OptL.keep (by rfl) OptL.nil) (GuardV.plain _)) rfl (c (oq hN 27 (la hN 69 tyS3 (q 28)) (OptL.opt OptL.nil) (GuardV.plain _)) rfl (c (oq hN 27 (neqI (L rfl) (q 29) (ii 224)) (OptL.opt OptL.nil) (GuardV.plain _)) rfl (c (pickOr rfl (L rfl) (q 27) (q 30)) rfl (c (mv hN (q 31)) rfl (c (oq hN 32 (fo 1004 2 [2] hN underlying69 2 tyS67 (q 4)) (OptL.keep (by rfl) OptL.nil) (GuardV.plain _)) rfl (c (oq hN 32 (la hN 69 tyS67 (q 33)) (OptL.opt OptL.nil) (GuardV.plain _)) rfl (c (oq hN 32 (OpJ.val (v':=(i6 (x35.fData.length:Int))) (by simp) (lenD underlying67 (L rfl) (q 34))) (OptL.opt OptL.nil) (GuardV.plain _)) rfl (c (oq hN 32 (gtr (L rfl) (q 35) (ii 255)) (OptL.opt OptL.nil) (GuardV.plain _)) rfl (c (pickOr rfl (L rfl) (q 32) (q 36)) rfl (c (OpJ.val (v':=.d (.bool false)) (by rw [hg46]<;>rfl) (mv hN (q 37))) rfl (c (gd 38 (mv hN (q 3))) rfl (c (gd 38 (gtr (L rfl) (q 39) (ii 0))) rfl (c (gd 38 (OpJ.val (v':=.d (.bool false)) (by rw [hg47]<;>rfl) (mv hN (q 40)))) rfl (ks 41 (L rfl) (ks 41 (L rfl) (ks 41 (L rfl) (ks 41 (L rfl) (ks 41 (L rfl) (ks 41 (L rfl) (ks 41 (L rfl) (ks 41 (L rfl) (ks 41 (L rfl) (ks 41 (L rfl) (c (gd 38 (pickF (L rfl) (q 41) (Opd.bool false))) rfl (c (pickF (L rfl) (q 38) (q 52)) rfl cn))))))))))))))))))))))))))))))))))))))))) (by kernel_rfl) (by kernel_rfl)
       exact hjj42 _ h _ _ (mp [] _ _ hB)
  ·have h:=A4 hg34 h
   apply AWp.exit
   apply D6
   obtain rfl:=oi h
   exact⟨(fun hc=>by cases hc),rfl,(mp [] _ _ hB)⟩
 ·rcases x49 with _ | _
  ·obtain⟨rfl,hmat⟩:=hR
   apply D3
   apply B5
   obtain rfl:=oi h
   exact rt (Mat.trans hmat (mp [] [(2,(bo false))] [] hB)) [(bo false)] (rT rN) rfl
  ·obtain⟨rfl,hmat⟩:=hR
   apply C2
   apply A0
   refine ghost hmat ?_
   apply seq
   refine AWp.cut h (fun m64:Bool=>([(2,(bo m64))]:EL)) (fun m64:Bool=>([]:OL)) (fun m64 h E' O' hmat => ?_) (fun j65 hjj65 h => ?_)
   ·apply A0
    refine ghost hmat ?_
    apply ret
    obtain rfl:=oi h
    exact rt (kp [(2,_)] [] hB rfl rfl (by rfl)) [(bo m64)] (rT rN) rfl
   ·rcases bft ((decide ((-1)≤a0.fOrigin))&&(decide (a0.fOrigin≤2))) with hg66 | hg66
    ·have h:=A3 hg66 h
     obtain⟨r67,hr67,h⟩:=bindS h
     rcases bft r67 with hg68 | hg68
     ·have h:=A3 hg68 h
      obtain⟨r69,hr69,h⟩:=bindS h
      rcases bft ((((r69&&(decide ((-1)≤a0.fMED)))&&(decide (a0.fMED≤4294967295)))&&(decide ((-1)≤a0.fPref)))&&(decide (a0.fPref≤4294967295))) with hg70 | hg70
      ·have h:=A3 hg70 h
       rcases bft (a0.fOTC==(-1)) with hg71 | hg71
       ·have h:=A3 hg71 h
        obtain⟨r72,hr72,h⟩:=bindS h
        rcases bft r72 with hg73 | hg73
        ·have h:=A3 hg73 h
         obtain⟨r74,hr74,h⟩:=bindS h
         apply rg (c (fo 1001 0 [0] hN underlying35 0 tyS3 (q 1)) rfl (c (la hN 35 tyS3 (q 55)) rfl (c (geq (L rfl) (q 56) (ii (-1))) rfl (c (mv hN (q 57)) rfl (c (oq hN 58 (fo 1001 0 [0] hN underlying35 0 tyS3 (q 1)) (OptL.keep (by rfl) OptL.nil) (GuardV.plain _)) rfl (c (oq hN 58 (la hN 35 tyS3 (q 59)) (OptL.opt OptL.nil) (GuardV.plain _)) rfl (c (oq hN 58 (leq (L rfl) (q 60) (ii 2)) (OptL.opt OptL.nil) (GuardV.plain _)) rfl (c (pickAnd rfl (L rfl) (q 58) (q 61)) rfl (c (OpJ.val (v':=.d (.bool true)) (by rw [hg66]<;>rfl) (mv hN (q 62))) rfl (c (gd 63 (fo 1001 1 [1] hN underlying35 1 tyS30 (q 1))) rfl (c (gd 63 (la hN 35 tyS30 (q 64))) rfl (cg (gd 63 (cf hB fnOk71 (J7 a0.fPath r67 hr67) (L rfl) (OpdL.cons (q 65) OpdL.nil))) rfl (c (pickT (L rfl) (q 63) (q 66)) rfl (c (OpJ.val (v':=.d (.bool true)) (by rw [hg68]<;>rfl) (mv hN (q 67))) rfl (c (gd 68 (fo 1001 2 [2] hN underlying35 2 tyS27 (q 1))) rfl (c (gd 68 (la hN 35 tyS27 (q 69))) rfl (cg (gd 68 (cf hB fnOk78 (J6 a0.fNext r69 hr69) (L rfl) (OpdL.cons (q 70) OpdL.nil))) rfl (c (pickT (L rfl) (q 68) (q 71)) rfl (c (mv hN (q 72)) rfl (c (oq hN 73 (fo 1001 5 [3] hN underlying35 5 tyS3 (q 1)) (OptL.keep (by rfl) OptL.nil) (GuardV.plain _)) rfl (c (oq hN 73 (la hN 35 tyS3 (q 74)) (OptL.opt OptL.nil) (GuardV.plain _)) rfl (c (oq hN 73 (geq (L rfl) (q 75) (ii (-1))) (OptL.opt OptL.nil) (GuardV.plain _)) rfl (c (pickAnd rfl (L rfl) (q 73) (q 76)) rfl (c (mv hN (q 77)) rfl (c (oq hN 78 (fo 1001 5 [3] hN underlying35 5 tyS3 (q 1)) (OptL.keep (by rfl) OptL.nil) (GuardV.plain _)) rfl (c (oq hN 78 (la hN 35 tyS3 (q 79)) (OptL.opt OptL.nil) (GuardV.plain _)) rfl (c (oq hN 78 (leq (L rfl) (q 80) (ii 4294967295)) (OptL.opt OptL.nil) (GuardV.plain _)) rfl (c (pickAnd rfl (L rfl) (q 78) (q 81)) rfl (c (mv hN (q 82)) rfl (c (oq hN 83 (fo 1001 6 [4] hN underlying35 6 tyS3 (q 1)) (OptL.keep (by rfl) OptL.nil) (GuardV.plain _)) rfl (c (oq hN 83 (la hN 35 tyS3 (q 84)) (OptL.opt OptL.nil) (GuardV.plain _)) rfl (c (oq hN 83 (geq (L rfl) (q 85) (ii (-1))) (OptL.opt OptL.nil) (GuardV.plain _)) rfl (c (pickAnd rfl (L rfl) (q 83) (q 86)) rfl (c (mv hN (q 87)) rfl (c (oq hN 88 (fo 1001 6 [4] hN underlying35 6 tyS3 (q 1)) (OptL.keep (by rfl) OptL.nil) (GuardV.plain _)) rfl (c (oq hN 88 (la hN 35 tyS3 (q 89)) (OptL.opt OptL.nil) (GuardV.plain _)) rfl (c (oq hN 88 (leq (L rfl) (q 90) (ii 4294967295)) (OptL.opt OptL.nil) (GuardV.plain _)) rfl (c (pickAnd rfl (L rfl) (q 88) (q 91)) rfl (c (OpJ.val (v':=.d (.bool true)) (by rw [hg70]<;>rfl) (mv hN (q 92))) rfl (c (gd 93 (fo 1001 7 [5] hN underlying35 7 tyS3 (q 1))) rfl (c (gd 93 (la hN 35 tyS3 (q 94))) rfl (c (gd 93 (eqlI (L rfl) (q 95) (ii (-1)))) rfl (c (gd 93 (OpJ.val (v':=.d (.bool true)) (by rw [hg71]<;>rfl) (mv hN (q 96)))) rfl (ks 97 (L rfl) (ks 97 (L rfl) (ks 97 (L rfl) (ks 97 (L rfl) (cg (sV 101 (L rfl)) rfl (cg (sV 101 (L rfl)) rfl (cg (sV 101 (L rfl)) rfl (ks 97 (L rfl) (c (gd 93 (pickT (L rfl) (q 97) (Opd.bool true))) rfl (c (pickT (L rfl) (q 93) (q 106)) rfl (c (mv hN (q 107)) rfl (c (gd 108 (fo 1001 8 [6] hN underlying35 8 tyS31 (q 1))) rfl (c (gd 108 (la hN 35 tyS31 (q 109))) rfl (cg (gd 108 (cf hB fnOk79 (A1p a0.fCommunities r72 hr72) (L rfl) (OpdL.cons (q 110) OpdL.nil))) rfl (c (pickT (L rfl) (q 108) (q 111)) rfl (c (OpJ.val (v':=.d (.bool true)) (by rw [hg73]<;>rfl) (mv hN (q 112))) rfl (c (gd 113 (fo 1001 9 [7] hN underlying35 9 tyS32 (q 1))) rfl (c (gd 113 (la hN 35 tyS32 (q 114))) rfl (cg (gd 113 (cf hB fnOk80 (A3h a0.fLarge r74 hr74) (L rfl) (OpdL.cons (q 115) OpdL.nil))) rfl (c (pickT (L rfl) (q 113) (q 116)) rfl (c (mv hN (q 117)) rfl (c (oq hN 118 (fo 1001 10 [8] hN underlying35 10 tyS33 (q 1)) (OptL.keep (by rfl) OptL.nil) (GuardV.plain _)) rfl (c (oq hN 118 (la hN 35 tyS33 (q 119)) (OptL.opt OptL.nil) (GuardV.plain _)) rfl (c (oq hN 118 (OpJ.val (v':=(i6 (a0.fOther.length:Int))) (by simp) (lenD underlying33 (L rfl) (q 120))) (OptL.opt OptL.nil) (GuardV.plain _)) rfl (c (oq hN 118 (leq (L rfl) (q 121) (ii 8)) (OptL.opt OptL.nil) (GuardV.plain _)) rfl (c (pickAnd rfl (L rfl) (q 118) (q 122)) rfl (c (assign (L rfl) (q 123)) rfl cn))))))))))))))))))))))))))))))))))))))))))))))))))))))))))))))))))))))
         exact hjj65 _ h _ _ (mp [] _ _ hB)
        ·have h:=A4 hg73 h
         apply rg (c (fo 1001 0 [0] hN underlying35 0 tyS3 (q 1)) rfl (c (la hN 35 tyS3 (q 55)) rfl (c (geq (L rfl) (q 56) (ii (-1))) rfl (c (mv hN (q 57)) rfl (c (oq hN 58 (fo 1001 0 [0] hN underlying35 0 tyS3 (q 1)) (OptL.keep (by rfl) OptL.nil) (GuardV.plain _)) rfl (c (oq hN 58 (la hN 35 tyS3 (q 59)) (OptL.opt OptL.nil) (GuardV.plain _)) rfl (c (oq hN 58 (leq (L rfl) (q 60) (ii 2)) (OptL.opt OptL.nil) (GuardV.plain _)) rfl (c (pickAnd rfl (L rfl) (q 58) (q 61)) rfl (c (OpJ.val (v':=.d (.bool true)) (by rw [hg66]<;>rfl) (mv hN (q 62))) rfl (c (gd 63 (fo 1001 1 [1] hN underlying35 1 tyS30 (q 1))) rfl (c (gd 63 (la hN 35 tyS30 (q 64))) rfl (cg (gd 63 (cf hB fnOk71 (J7 a0.fPath r67 hr67) (L rfl) (OpdL.cons (q 65) OpdL.nil))) rfl (c (pickT (L rfl) (q 63) (q 66)) rfl (c (OpJ.val (v':=.d (.bool true)) (by rw [hg68]<;>rfl) (mv hN (q 67))) rfl (c (gd 68 (fo 1001 2 [2] hN underlying35 2 tyS27 (q 1))) rfl (c (gd 68 (la hN 35 tyS27 (q 69))) rfl (cg (gd 68 (cf hB fnOk78 (J6 a0.fNext r69 hr69) (L rfl) (OpdL.cons (q 70) OpdL.nil))) rfl (c (pickT (L rfl) (q 68) (q 71)) rfl (c (mv hN (q 72)) rfl (c (oq hN 73 (fo 1001 5 [3] hN underlying35 5 tyS3 (q 1)) (OptL.keep (by rfl) OptL.nil) (GuardV.plain _)) rfl (c (oq hN 73 (la hN 35 tyS3 (q 74)) (OptL.opt OptL.nil) (GuardV.plain _)) rfl (c (oq hN 73 (geq (L rfl) (q 75) (ii (-1))) (OptL.opt OptL.nil) (GuardV.plain _)) rfl (c (pickAnd rfl (L rfl) (q 73) (q 76)) rfl (c (mv hN (q 77)) rfl (c (oq hN 78 (fo 1001 5 [3] hN underlying35 5 tyS3 (q 1)) (OptL.keep (by rfl) OptL.nil) (GuardV.plain _)) rfl (c (oq hN 78 (la hN 35 tyS3 (q 79)) (OptL.opt OptL.nil) (GuardV.plain _)) rfl (c (oq hN 78 (leq (L rfl) (q 80) (ii 4294967295)) (OptL.opt OptL.nil) (GuardV.plain _)) rfl (c (pickAnd rfl (L rfl) (q 78) (q 81)) rfl (c (mv hN (q 82)) rfl (c (oq hN 83 (fo 1001 6 [4] hN underlying35 6 tyS3 (q 1)) (OptL.keep (by rfl) OptL.nil) (GuardV.plain _)) rfl (c (oq hN 83 (la hN 35 tyS3 (q 84)) (OptL.opt OptL.nil) (GuardV.plain _)) rfl (c (oq hN 83 (geq (L rfl) (q 85) (ii (-1))) (OptL.opt OptL.nil) (GuardV.plain _)) rfl (c (pickAnd rfl (L rfl) (q 83) (q 86)) rfl (c (mv hN (q 87)) rfl (c (oq hN 88 (fo 1001 6 [4] hN underlying35 6 tyS3 (q 1)) (OptL.keep (by rfl) OptL.nil) (GuardV.plain _)) rfl (c (oq hN 88 (la hN 35 tyS3 (q 89)) (OptL.opt OptL.nil) (GuardV.plain _)) rfl (c (oq hN 88 (leq (L rfl) (q 90) (ii 4294967295)) (OptL.opt OptL.nil) (GuardV.plain _)) rfl (c (pickAnd rfl (L rfl) (q 88) (q 91)) rfl (c (OpJ.val (v':=.d (.bool true)) (by rw [hg70]<;>rfl) (mv hN (q 92))) rfl (c (gd 93 (fo 1001 7 [5] hN underlying35 7 tyS3 (q 1))) rfl (c (gd 93 (la hN 35 tyS3 (q 94))) rfl (c (gd 93 (eqlI (L rfl) (q 95) (ii (-1)))) rfl (c (gd 93 (OpJ.val (v':=.d (.bool true)) (by rw [hg71]<;>rfl) (mv hN (q 96)))) rfl (ks 97 (L rfl) (ks 97 (L rfl) (ks 97 (L rfl) (ks 97 (L rfl) (cg (sV 101 (L rfl)) rfl (cg (sV 101 (L rfl)) rfl (cg (sV 101 (L rfl)) rfl (ks 97 (L rfl) (c (gd 93 (pickT (L rfl) (q 97) (Opd.bool true))) rfl (c (pickT (L rfl) (q 93) (q 106)) rfl (c (mv hN (q 107)) rfl (c (gd 108 (fo 1001 8 [6] hN underlying35 8 tyS31 (q 1))) rfl (c (gd 108 (la hN 35 tyS31 (q 109))) rfl (cg (gd 108 (cf hB fnOk79 (A1p a0.fCommunities r72 hr72) (L rfl) (OpdL.cons (q 110) OpdL.nil))) rfl (c (pickT (L rfl) (q 108) (q 111)) rfl (c (OpJ.val (v':=.d (.bool false)) (by rw [hg73]<;>rfl) (mv hN (q 112))) rfl (ks 113 (L rfl) (ks 113 (L rfl) (ks 113 (L rfl) (c (pickF (L rfl) (q 113) (Opd.bool false)) rfl (c (mv hN (q 117)) rfl (ks 118 (L rfl) (ks 118 (L rfl) (ks 118 (L rfl) (ks 118 (L rfl) (c (pickF (L rfl) (q 118) (Opd.bool false)) rfl (c (assign (L rfl) (q 123)) rfl cn))))))))))))))))))))))))))))))))))))))))))))))))))))))))))))))))))))))
         exact hjj65 _ h _ _ (mp [] _ _ hB)
       ·have h:=A4 hg71 h
        rcases bft ((decide (1≤a0.fOTC))&&(decide (a0.fOTC≤4294967295))) with hg75 | hg75
        ·have h:=A3 hg75 h
         obtain⟨r76,hr76,h⟩:=bindS h
         rcases bft r76 with hg77 | hg77
         ·have h:=A3 hg77 h
          obtain⟨r78,hr78,h⟩:=bindS h
          apply rg (c (fo 1001 0 [0] hN underlying35 0 tyS3 (q 1)) rfl (c (la hN 35 tyS3 (q 55)) rfl (c (geq (L rfl) (q 56) (ii (-1))) rfl (c (mv hN (q 57)) rfl (c (oq hN 58 (fo 1001 0 [0] hN underlying35 0 tyS3 (q 1)) (OptL.keep (by rfl) OptL.nil) (GuardV.plain _)) rfl (c (oq hN 58 (la hN 35 tyS3 (q 59)) (OptL.opt OptL.nil) (GuardV.plain _)) rfl (c (oq hN 58 (leq (L rfl) (q 60) (ii 2)) (OptL.opt OptL.nil) (GuardV.plain _)) rfl (c (pickAnd rfl (L rfl) (q 58) (q 61)) rfl (c (OpJ.val (v':=.d (.bool true)) (by rw [hg66]<;>rfl) (mv hN (q 62))) rfl (c (gd 63 (fo 1001 1 [1] hN underlying35 1 tyS30 (q 1))) rfl (c (gd 63 (la hN 35 tyS30 (q 64))) rfl (cg (gd 63 (cf hB fnOk71 (J7 a0.fPath r67 hr67) (L rfl) (OpdL.cons (q 65) OpdL.nil))) rfl (c (pickT (L rfl) (q 63) (q 66)) rfl (c (OpJ.val (v':=.d (.bool true)) (by rw [hg68]<;>rfl) (mv hN (q 67))) rfl (c (gd 68 (fo 1001 2 [2] hN underlying35 2 tyS27 (q 1))) rfl (c (gd 68 (la hN 35 tyS27 (q 69))) rfl (cg (gd 68 (cf hB fnOk78 (J6 a0.fNext r69 hr69) (L rfl) (OpdL.cons (q 70) OpdL.nil))) rfl (c (pickT (L rfl) (q 68) (q 71)) rfl (c (mv hN (q 72)) rfl (c (oq hN 73 (fo 1001 5 [3] hN underlying35 5 tyS3 (q 1)) (OptL.keep (by rfl) OptL.nil) (GuardV.plain _)) rfl (c (oq hN 73 (la hN 35 tyS3 (q 74)) (OptL.opt OptL.nil) (GuardV.plain _)) rfl (c (oq hN 73 (geq (L rfl) (q 75) (ii (-1))) (OptL.opt OptL.nil) (GuardV.plain _)) rfl (c (pickAnd rfl (L rfl) (q 73) (q 76)) rfl (c (mv hN (q 77)) rfl (c (oq hN 78 (fo 1001 5 [3] hN underlying35 5 tyS3 (q 1)) (OptL.keep (by rfl) OptL.nil) (GuardV.plain _)) rfl (c (oq hN 78 (la hN 35 tyS3 (q 79)) (OptL.opt OptL.nil) (GuardV.plain _)) rfl (c (oq hN 78 (leq (L rfl) (q 80) (ii 4294967295)) (OptL.opt OptL.nil) (GuardV.plain _)) rfl (c (pickAnd rfl (L rfl) (q 78) (q 81)) rfl (c (mv hN (q 82)) rfl (c (oq hN 83 (fo 1001 6 [4] hN underlying35 6 tyS3 (q 1)) (OptL.keep (by rfl) OptL.nil) (GuardV.plain _)) rfl (c (oq hN 83 (la hN 35 tyS3 (q 84)) (OptL.opt OptL.nil) (GuardV.plain _)) rfl (c (oq hN 83 (geq (L rfl) (q 85) (ii (-1))) (OptL.opt OptL.nil) (GuardV.plain _)) rfl (c (pickAnd rfl (L rfl) (q 83) (q 86)) rfl (c (mv hN (q 87)) rfl (c (oq hN 88 (fo 1001 6 [4] hN underlying35 6 tyS3 (q 1)) (OptL.keep (by rfl) OptL.nil) (GuardV.plain _)) rfl (c (oq hN 88 (la hN 35 tyS3 (q 89)) (OptL.opt OptL.nil) (GuardV.plain _)) rfl (c (oq hN 88 (leq (L rfl) (q 90) (ii 4294967295)) (OptL.opt OptL.nil) (GuardV.plain _)) rfl (c (pickAnd rfl (L rfl) (q 88) (q 91)) rfl (c (OpJ.val (v':=.d (.bool true)) (by rw [hg70]<;>rfl) (mv hN (q 92))) rfl (c (gd 93 (fo 1001 7 [5] hN underlying35 7 tyS3 (q 1))) rfl (c (gd 93 (la hN 35 tyS3 (q 94))) rfl (c (gd 93 (eqlI (L rfl) (q 95) (ii (-1)))) rfl (c (gd 93 (OpJ.val (v':=.d (.bool false)) (by rw [hg71]<;>rfl) (mv hN (q 96)))) rfl (c (gd 97 (fo 1001 7 [5] hN underlying35 7 tyS3 (q 1))) rfl (c (gd 97 (la hN 35 tyS3 (q 98))) rfl (c (gd 97 (geq (L rfl) (q 99) (ii 1))) rfl (c (gd 97 (mv hN (q 100))) rfl (c (oq hN 101 (fo 1001 7 [5] hN underlying35 7 tyS3 (q 1)) (OptL.keep (by rfl) OptL.nil) (GuardV.plain _)) rfl (c (oq hN 101 (la hN 35 tyS3 (q 102)) (OptL.opt OptL.nil) (GuardV.plain _)) rfl (c (oq hN 101 (leq (L rfl) (q 103) (ii 4294967295)) (OptL.opt OptL.nil) (GuardV.plain _)) rfl (c (gd 97 (pickAnd rfl (L rfl) (q 101) (q 104))) rfl (c (gd 93 (pickF (L rfl) (q 97) (q 105))) rfl (c (pickT (L rfl) (q 93) (q 106)) rfl (c (OpJ.val (v':=.d (.bool true)) (by rw [hg75]<;>rfl) (mv hN (q 107))) rfl (c (gd 108 (fo 1001 8 [6] hN underlying35 8 tyS31 (q 1))) rfl (c (gd 108 (la hN 35 tyS31 (q 109))) rfl (cg (gd 108 (cf hB fnOk79 (A1p a0.fCommunities r76 hr76) (L rfl) (OpdL.cons (q 110) OpdL.nil))) rfl (c (pickT (L rfl) (q 108) (q 111)) rfl (c (OpJ.val (v':=.d (.bool true)) (by rw [hg77]<;>rfl) (mv hN (q 112))) rfl (c (gd 113 (fo 1001 9 [7] hN underlying35 9 tyS32 (q 1))) rfl (c (gd 113 (la hN 35 tyS32 (q 114))) rfl (cg (gd 113 (cf hB fnOk80 (A3h a0.fLarge r78 hr78) (L rfl) (OpdL.cons (q 115) OpdL.nil))) rfl (c (pickT (L rfl) (q 113) (q 116)) rfl (c (mv hN (q 117)) rfl (c (oq hN 118 (fo 1001 10 [8] hN underlying35 10 tyS33 (q 1)) (OptL.keep (by rfl) OptL.nil) (GuardV.plain _)) rfl (c (oq hN 118 (la hN 35 tyS33 (q 119)) (OptL.opt OptL.nil) (GuardV.plain _)) rfl (c (oq hN 118 (OpJ.val (v':=(i6 (a0.fOther.length:Int))) (by simp) (lenD underlying33 (L rfl) (q 120))) (OptL.opt OptL.nil) (GuardV.plain _)) rfl (c (oq hN 118 (leq (L rfl) (q 121) (ii 8)) (OptL.opt OptL.nil) (GuardV.plain _)) rfl (c (pickAnd rfl (L rfl) (q 118) (q 122)) rfl (c (assign (L rfl) (q 123)) rfl cn))))))))))))))))))))))))))))))))))))))))))))))))))))))))))))))))))))))
          exact hjj65 _ h _ _ (mp [] _ _ hB)
         ·have h:=A4 hg77 h
          apply rg (c (fo 1001 0 [0] hN underlying35 0 tyS3 (q 1)) rfl (c (la hN 35 tyS3 (q 55)) rfl (c (geq (L rfl) (q 56) (ii (-1))) rfl (c (mv hN (q 57)) rfl (c (oq hN 58 (fo 1001 0 [0] hN underlying35 0 tyS3 (q 1)) (OptL.keep (by rfl) OptL.nil) (GuardV.plain _)) rfl (c (oq hN 58 (la hN 35 tyS3 (q 59)) (OptL.opt OptL.nil) (GuardV.plain _)) rfl (c (oq hN 58 (leq (L rfl) (q 60) (ii 2)) (OptL.opt OptL.nil) (GuardV.plain _)) rfl (c (pickAnd rfl (L rfl) (q 58) (q 61)) rfl (c (OpJ.val (v':=.d (.bool true)) (by rw [hg66]<;>rfl) (mv hN (q 62))) rfl (c (gd 63 (fo 1001 1 [1] hN underlying35 1 tyS30 (q 1))) rfl (c (gd 63 (la hN 35 tyS30 (q 64))) rfl (cg (gd 63 (cf hB fnOk71 (J7 a0.fPath r67 hr67) (L rfl) (OpdL.cons (q 65) OpdL.nil))) rfl (c (pickT (L rfl) (q 63) (q 66)) rfl (c (OpJ.val (v':=.d (.bool true)) (by rw [hg68]<;>rfl) (mv hN (q 67))) rfl (c (gd 68 (fo 1001 2 [2] hN underlying35 2 tyS27 (q 1))) rfl (c (gd 68 (la hN 35 tyS27 (q 69))) rfl (cg (gd 68 (cf hB fnOk78 (J6 a0.fNext r69 hr69) (L rfl) (OpdL.cons (q 70) OpdL.nil))) rfl (c (pickT (L rfl) (q 68) (q 71)) rfl (c (mv hN (q 72)) rfl (c (oq hN 73 (fo 1001 5 [3] hN underlying35 5 tyS3 (q 1)) (OptL.keep (by rfl) OptL.nil) (GuardV.plain _)) rfl (c (oq hN 73 (la hN 35 tyS3 (q 74)) (OptL.opt OptL.nil) (GuardV.plain _)) rfl (c (oq hN 73 (geq (L rfl) (q 75) (ii (-1))) (OptL.opt OptL.nil) (GuardV.plain _)) rfl (c (pickAnd rfl (L rfl) (q 73) (q 76)) rfl (c (mv hN (q 77)) rfl (c (oq hN 78 (fo 1001 5 [3] hN underlying35 5 tyS3 (q 1)) (OptL.keep (by rfl) OptL.nil) (GuardV.plain _)) rfl (c (oq hN 78 (la hN 35 tyS3 (q 79)) (OptL.opt OptL.nil) (GuardV.plain _)) rfl (c (oq hN 78 (leq (L rfl) (q 80) (ii 4294967295)) (OptL.opt OptL.nil) (GuardV.plain _)) rfl (c (pickAnd rfl (L rfl) (q 78) (q 81)) rfl (c (mv hN (q 82)) rfl (c (oq hN 83 (fo 1001 6 [4] hN underlying35 6 tyS3 (q 1)) (OptL.keep (by rfl) OptL.nil) (GuardV.plain _)) rfl (c (oq hN 83 (la hN 35 tyS3 (q 84)) (OptL.opt OptL.nil) (GuardV.plain _)) rfl (c (oq hN 83 (geq (L rfl) (q 85) (ii (-1))) (OptL.opt OptL.nil) (GuardV.plain _)) rfl (c (pickAnd rfl (L rfl) (q 83) (q 86)) rfl (c (mv hN (q 87)) rfl (c (oq hN 88 (fo 1001 6 [4] hN underlying35 6 tyS3 (q 1)) (OptL.keep (by rfl) OptL.nil) (GuardV.plain _)) rfl (c (oq hN 88 (la hN 35 tyS3 (q 89)) (OptL.opt OptL.nil) (GuardV.plain _)) rfl (c (oq hN 88 (leq (L rfl) (q 90) (ii 4294967295)) (OptL.opt OptL.nil) (GuardV.plain _)) rfl (c (pickAnd rfl (L rfl) (q 88) (q 91)) rfl (c (OpJ.val (v':=.d (.bool true)) (by rw [hg70]<;>rfl) (mv hN (q 92))) rfl (c (gd 93 (fo 1001 7 [5] hN underlying35 7 tyS3 (q 1))) rfl (c (gd 93 (la hN 35 tyS3 (q 94))) rfl (c (gd 93 (eqlI (L rfl) (q 95) (ii (-1)))) rfl (c (gd 93 (OpJ.val (v':=.d (.bool false)) (by rw [hg71]<;>rfl) (mv hN (q 96)))) rfl (c (gd 97 (fo 1001 7 [5] hN underlying35 7 tyS3 (q 1))) rfl (c (gd 97 (la hN 35 tyS3 (q 98))) rfl (c (gd 97 (geq (L rfl) (q 99) (ii 1))) rfl (c (gd 97 (mv hN (q 100))) rfl (c (oq hN 101 (fo 1001 7 [5] hN underlying35 7 tyS3 (q 1)) (OptL.keep (by rfl) OptL.nil) (GuardV.plain _)) rfl (c (oq hN 101 (la hN 35 tyS3 (q 102)) (OptL.opt OptL.nil) (GuardV.plain _)) rfl (c (oq hN 101 (leq (L rfl) (q 103) (ii 4294967295)) (OptL.opt OptL.nil) (GuardV.plain _)) rfl (c (gd 97 (pickAnd rfl (L rfl) (q 101) (q 104))) rfl (c (gd 93 (pickF (L rfl) (q 97) (q 105))) rfl (c (pickT (L rfl) (q 93) (q 106)) rfl (c (OpJ.val (v':=.d (.bool true)) (by rw [hg75]<;>rfl) (mv hN (q 107))) rfl (c (gd 108 (fo 1001 8 [6] hN underlying35 8 tyS31 (q 1))) rfl (c (gd 108 (la hN 35 tyS31 (q 109))) rfl (cg (gd 108 (cf hB fnOk79 (A1p a0.fCommunities r76 hr76) (L rfl) (OpdL.cons (q 110) OpdL.nil))) rfl (c (pickT (L rfl) (q 108) (q 111)) rfl (c (OpJ.val (v':=.d (.bool false)) (by rw [hg77]<;>rfl) (mv hN (q 112))) rfl (ks 113 (L rfl) (ks 113 (L rfl) (ks 113 (L rfl) (c (pickF (L rfl) (q 113) (Opd.bool false)) rfl (c (mv hN (q 117)) rfl (ks 118 (L rfl) (ks 118 (L rfl) (ks 118 (L rfl) (ks 118 (L rfl) (c (pickF (L rfl) (q 118) (Opd.bool false)) rfl (c (assign (L rfl) (q 123)) rfl cn))))))))))))))))))))))))))))))))))))))))))))))))))))))))))))))))))))))
          exact hjj65 _ h _ _ (mp [] _ _ hB)
        ·have h:=A4 hg75 h
         apply rg (c (fo 1001 0 [0] hN underlying35 0 tyS3 (q 1)) rfl (c (la hN 35 tyS3 (q 55)) rfl (c (geq (L rfl) (q 56) (ii (-1))) rfl (c (mv hN (q 57)) rfl (c (oq hN 58 (fo 1001 0 [0] hN underlying35 0 tyS3 (q 1)) (OptL.keep (by rfl) OptL.nil) (GuardV.plain _)) rfl (c (oq hN 58 (la hN 35 tyS3 (q 59)) (OptL.opt OptL.nil) (GuardV.plain _)) rfl (c (oq hN 58 (leq (L rfl) (q 60) (ii 2)) (OptL.opt OptL.nil) (GuardV.plain _)) rfl (c (pickAnd rfl (L rfl) (q 58) (q 61)) rfl (c (OpJ.val (v':=.d (.bool true)) (by rw [hg66]<;>rfl) (mv hN (q 62))) rfl (c (gd 63 (fo 1001 1 [1] hN underlying35 1 tyS30 (q 1))) rfl (c (gd 63 (la hN 35 tyS30 (q 64))) rfl (cg (gd 63 (cf hB fnOk71 (J7 a0.fPath r67 hr67) (L rfl) (OpdL.cons (q 65) OpdL.nil))) rfl (c (pickT (L rfl) (q 63) (q 66)) rfl (c (OpJ.val (v':=.d (.bool true)) (by rw [hg68]<;>rfl) (mv hN (q 67))) rfl (c (gd 68 (fo 1001 2 [2] hN underlying35 2 tyS27 (q 1))) rfl (c (gd 68 (la hN 35 tyS27 (q 69))) rfl (cg (gd 68 (cf hB fnOk78 (J6 a0.fNext r69 hr69) (L rfl) (OpdL.cons (q 70) OpdL.nil))) rfl (c (pickT (L rfl) (q 68) (q 71)) rfl (c (mv hN (q 72)) rfl (c (oq hN 73 (fo 1001 5 [3] hN underlying35 5 tyS3 (q 1)) (OptL.keep (by rfl) OptL.nil) (GuardV.plain _)) rfl (c (oq hN 73 (la hN 35 tyS3 (q 74)) (OptL.opt OptL.nil) (GuardV.plain _)) rfl (c (oq hN 73 (geq (L rfl) (q 75) (ii (-1))) (OptL.opt OptL.nil) (GuardV.plain _)) rfl (c (pickAnd rfl (L rfl) (q 73) (q 76)) rfl (c (mv hN (q 77)) rfl (c (oq hN 78 (fo 1001 5 [3] hN underlying35 5 tyS3 (q 1)) (OptL.keep (by rfl) OptL.nil) (GuardV.plain _)) rfl (c (oq hN 78 (la hN 35 tyS3 (q 79)) (OptL.opt OptL.nil) (GuardV.plain _)) rfl (c (oq hN 78 (leq (L rfl) (q 80) (ii 4294967295)) (OptL.opt OptL.nil) (GuardV.plain _)) rfl (c (pickAnd rfl (L rfl) (q 78) (q 81)) rfl (c (mv hN (q 82)) rfl (c (oq hN 83 (fo 1001 6 [4] hN underlying35 6 tyS3 (q 1)) (OptL.keep (by rfl) OptL.nil) (GuardV.plain _)) rfl (c (oq hN 83 (la hN 35 tyS3 (q 84)) (OptL.opt OptL.nil) (GuardV.plain _)) rfl (c (oq hN 83 (geq (L rfl) (q 85) (ii (-1))) (OptL.opt OptL.nil) (GuardV.plain _)) rfl (c (pickAnd rfl (L rfl) (q 83) (q 86)) rfl (c (mv hN (q 87)) rfl (c (oq hN 88 (fo 1001 6 [4] hN underlying35 6 tyS3 (q 1)) (OptL.keep (by rfl) OptL.nil) (GuardV.plain _)) rfl (c (oq hN 88 (la hN 35 tyS3 (q 89)) (OptL.opt OptL.nil) (GuardV.plain _)) rfl (c (oq hN 88 (leq (L rfl) (q 90) (ii 4294967295)) (OptL.opt OptL.nil) (GuardV.plain _)) rfl (c (pickAnd rfl (L rfl) (q 88) (q 91)) rfl (c (OpJ.val (v':=.d (.bool true)) (by rw [hg70]<;>rfl) (mv hN (q 92))) rfl (c (gd 93 (fo 1001 7 [5] hN underlying35 7 tyS3 (q 1))) rfl (c (gd 93 (la hN 35 tyS3 (q 94))) rfl (c (gd 93 (eqlI (L rfl) (q 95) (ii (-1)))) rfl (c (gd 93 (OpJ.val (v':=.d (.bool false)) (by rw [hg71]<;>rfl) (mv hN (q 96)))) rfl (c (gd 97 (fo 1001 7 [5] hN underlying35 7 tyS3 (q 1))) rfl (c (gd 97 (la hN 35 tyS3 (q 98))) rfl (c (gd 97 (geq (L rfl) (q 99) (ii 1))) rfl (c (gd 97 (mv hN (q 100))) rfl (c (oq hN 101 (fo 1001 7 [5] hN underlying35 7 tyS3 (q 1)) (OptL.keep (by rfl) OptL.nil) (GuardV.plain _)) rfl (c (oq hN 101 (la hN 35 tyS3 (q 102)) (OptL.opt OptL.nil) (GuardV.plain _)) rfl (c (oq hN 101 (leq (L rfl) (q 103) (ii 4294967295)) (OptL.opt OptL.nil) (GuardV.plain _)) rfl (c (gd 97 (pickAnd rfl (L rfl) (q 101) (q 104))) rfl (c (gd 93 (pickF (L rfl) (q 97) (q 105))) rfl (c (pickT (L rfl) (q 93) (q 106)) rfl (c (OpJ.val (v':=.d (.bool false)) (by rw [hg75]<;>rfl) (mv hN (q 107))) rfl (ks 108 (L rfl) (ks 108 (L rfl) (ks 108 (L rfl) (c (pickF (L rfl) (q 108) (Opd.bool false)) rfl (c (mv hN (q 112)) rfl (ks 113 (L rfl) (ks 113 (L rfl) (ks 113 (L rfl) (c (pickF (L rfl) (q 113) (Opd.bool false)) rfl (c (mv hN (q 117)) rfl (ks 118 (L rfl) (ks 118 (L rfl) (ks 118 (L rfl) (ks 118 (L rfl) (c (pickF (L rfl) (q 118) (Opd.bool false)) rfl (c (assign (L rfl) (q 123)) rfl cn))))))))))))))))))))))))))))))))))))))))))))))))))))))))))))))))))))))
         exact hjj65 _ h _ _ (mp [] _ _ hB)
      ·have h:=A4 hg70 h
       apply rg (c (fo 1001 0 [0] hN underlying35 0 tyS3 (q 1)) rfl (c (la hN 35 tyS3 (q 55)) rfl (c (geq (L rfl) (q 56) (ii (-1))) rfl (c (mv hN (q 57)) rfl (c (oq hN 58 (fo 1001 0 [0] hN underlying35 0 tyS3 (q 1)) (OptL.keep (by rfl) OptL.nil) (GuardV.plain _)) rfl (c (oq hN 58 (la hN 35 tyS3 (q 59)) (OptL.opt OptL.nil) (GuardV.plain _)) rfl (c (oq hN 58 (leq (L rfl) (q 60) (ii 2)) (OptL.opt OptL.nil) (GuardV.plain _)) rfl (c (pickAnd rfl (L rfl) (q 58) (q 61)) rfl (c (OpJ.val (v':=.d (.bool true)) (by rw [hg66]<;>rfl) (mv hN (q 62))) rfl (c (gd 63 (fo 1001 1 [1] hN underlying35 1 tyS30 (q 1))) rfl (c (gd 63 (la hN 35 tyS30 (q 64))) rfl (cg (gd 63 (cf hB fnOk71 (J7 a0.fPath r67 hr67) (L rfl) (OpdL.cons (q 65) OpdL.nil))) rfl (c (pickT (L rfl) (q 63) (q 66)) rfl (c (OpJ.val (v':=.d (.bool true)) (by rw [hg68]<;>rfl) (mv hN (q 67))) rfl (c (gd 68 (fo 1001 2 [2] hN underlying35 2 tyS27 (q 1))) rfl (c (gd 68 (la hN 35 tyS27 (q 69))) rfl (cg (gd 68 (cf hB fnOk78 (J6 a0.fNext r69 hr69) (L rfl) (OpdL.cons (q 70) OpdL.nil))) rfl (c (pickT (L rfl) (q 68) (q 71)) rfl (c (mv hN (q 72)) rfl (c (oq hN 73 (fo 1001 5 [3] hN underlying35 5 tyS3 (q 1)) (OptL.keep (by rfl) OptL.nil) (GuardV.plain _)) rfl (c (oq hN 73 (la hN 35 tyS3 (q 74)) (OptL.opt OptL.nil) (GuardV.plain _)) rfl (c (oq hN 73 (geq (L rfl) (q 75) (ii (-1))) (OptL.opt OptL.nil) (GuardV.plain _)) rfl (c (pickAnd rfl (L rfl) (q 73) (q 76)) rfl (c (mv hN (q 77)) rfl (c (oq hN 78 (fo 1001 5 [3] hN underlying35 5 tyS3 (q 1)) (OptL.keep (by rfl) OptL.nil) (GuardV.plain _)) rfl (c (oq hN 78 (la hN 35 tyS3 (q 79)) (OptL.opt OptL.nil) (GuardV.plain _)) rfl (c (oq hN 78 (leq (L rfl) (q 80) (ii 4294967295)) (OptL.opt OptL.nil) (GuardV.plain _)) rfl (c (pickAnd rfl (L rfl) (q 78) (q 81)) rfl (c (mv hN (q 82)) rfl (c (oq hN 83 (fo 1001 6 [4] hN underlying35 6 tyS3 (q 1)) (OptL.keep (by rfl) OptL.nil) (GuardV.plain _)) rfl (c (oq hN 83 (la hN 35 tyS3 (q 84)) (OptL.opt OptL.nil) (GuardV.plain _)) rfl (c (oq hN 83 (geq (L rfl) (q 85) (ii (-1))) (OptL.opt OptL.nil) (GuardV.plain _)) rfl (c (pickAnd rfl (L rfl) (q 83) (q 86)) rfl (c (mv hN (q 87)) rfl (c (oq hN 88 (fo 1001 6 [4] hN underlying35 6 tyS3 (q 1)) (OptL.keep (by rfl) OptL.nil) (GuardV.plain _)) rfl (c (oq hN 88 (la hN 35 tyS3 (q 89)) (OptL.opt OptL.nil) (GuardV.plain _)) rfl (c (oq hN 88 (leq (L rfl) (q 90) (ii 4294967295)) (OptL.opt OptL.nil) (GuardV.plain _)) rfl (c (pickAnd rfl (L rfl) (q 88) (q 91)) rfl (c (OpJ.val (v':=.d (.bool false)) (by rw [hg70]<;>rfl) (mv hN (q 92))) rfl (ks 93 (L rfl) (ks 93 (L rfl) (ks 93 (L rfl) (ks 93 (L rfl) (cg (sV 97 (L rfl)) rfl (cg (sV 97 (L rfl)) rfl (cg (sV 97 (L rfl)) rfl (cg (sV 97 (L rfl)) rfl (cg (sV 101 (L rfl)) rfl (cg (sV 101 (L rfl)) rfl (cg (sV 101 (L rfl)) rfl (cg (sV 97 (L rfl)) rfl (ks 93 (L rfl) (c (pickF (L rfl) (q 93) (Opd.bool false)) rfl (c (mv hN (q 107)) rfl (ks 108 (L rfl) (ks 108 (L rfl) (ks 108 (L rfl) (c (pickF (L rfl) (q 108) (Opd.bool false)) rfl (c (mv hN (q 112)) rfl (ks 113 (L rfl) (ks 113 (L rfl) (ks 113 (L rfl) (c (pickF (L rfl) (q 113) (Opd.bool false)) rfl (c (mv hN (q 117)) rfl (ks 118 (L rfl) (ks 118 (L rfl) (ks 118 (L rfl) (ks 118 (L rfl) (c (pickF (L rfl) (q 118) (Opd.bool false)) rfl (c (assign (L rfl) (q 123)) rfl cn))))))))))))))))))))))))))))))))))))))))))))))))))))))))))))))))))))))
       exact hjj65 _ h _ _ (mp [] _ _ hB)
     ·have h:=A4 hg68 h
      apply rg (c (fo 1001 0 [0] hN underlying35 0 tyS3 (q 1)) rfl (c (la hN 35 tyS3 (q 55)) rfl (c (geq (L rfl) (q 56) (ii (-1))) rfl (c (mv hN (q 57)) rfl (c (oq hN 58 (fo 1001 0 [0] hN underlying35 0 tyS3 (q 1)) (OptL.keep (by rfl) OptL.nil) (GuardV.plain _)) rfl (c (oq hN 58 (la hN 35 tyS3 (q 59)) (OptL.opt OptL.nil) (GuardV.plain _)) rfl (c (oq hN 58 (leq (L rfl) (q 60) (ii 2)) (OptL.opt OptL.nil) (GuardV.plain _)) rfl (c (pickAnd rfl (L rfl) (q 58) (q 61)) rfl (c (OpJ.val (v':=.d (.bool true)) (by rw [hg66]<;>rfl) (mv hN (q 62))) rfl (c (gd 63 (fo 1001 1 [1] hN underlying35 1 tyS30 (q 1))) rfl (c (gd 63 (la hN 35 tyS30 (q 64))) rfl (cg (gd 63 (cf hB fnOk71 (J7 a0.fPath r67 hr67) (L rfl) (OpdL.cons (q 65) OpdL.nil))) rfl (c (pickT (L rfl) (q 63) (q 66)) rfl (c (OpJ.val (v':=.d (.bool false)) (by rw [hg68]<;>rfl) (mv hN (q 67))) rfl (ks 68 (L rfl) (ks 68 (L rfl) (ks 68 (L rfl) (c (pickF (L rfl) (q 68) (Opd.bool false)) rfl (c (mv hN (q 72)) rfl (ks 73 (L rfl) (ks 73 (L rfl) (ks 73 (L rfl) (c (pickF (L rfl) (q 73) (Opd.bool false)) rfl (c (mv hN (q 77)) rfl (ks 78 (L rfl) (ks 78 (L rfl) (ks 78 (L rfl) (c (pickF (L rfl) (q 78) (Opd.bool false)) rfl (c (mv hN (q 82)) rfl (ks 83 (L rfl) (ks 83 (L rfl) (ks 83 (L rfl) (c (pickF (L rfl) (q 83) (Opd.bool false)) rfl (c (mv hN (q 87)) rfl (ks 88 (L rfl) (ks 88 (L rfl) (ks 88 (L rfl) (c (pickF (L rfl) (q 88) (Opd.bool false)) rfl (c (mv hN (q 92)) rfl (ks 93 (L rfl) (ks 93 (L rfl) (ks 93 (L rfl) (ks 93 (L rfl) (cg (sV 97 (L rfl)) rfl (cg (sV 97 (L rfl)) rfl (cg (sV 97 (L rfl)) rfl (cg (sV 97 (L rfl)) rfl (cg (sV 101 (L rfl)) rfl (cg (sV 101 (L rfl)) rfl (cg (sV 101 (L rfl)) rfl (cg (sV 97 (L rfl)) rfl (ks 93 (L rfl) (c (pickF (L rfl) (q 93) (Opd.bool false)) rfl (c (mv hN (q 107)) rfl (ks 108 (L rfl) (ks 108 (L rfl) (ks 108 (L rfl) (c (pickF (L rfl) (q 108) (Opd.bool false)) rfl (c (mv hN (q 112)) rfl (ks 113 (L rfl) (ks 113 (L rfl) (ks 113 (L rfl) (c (pickF (L rfl) (q 113) (Opd.bool false)) rfl (c (mv hN (q 117)) rfl (ks 118 (L rfl) (ks 118 (L rfl) (ks 118 (L rfl) (ks 118 (L rfl) (c (pickF (L rfl) (q 118) (Opd.bool false)) rfl (c (assign (L rfl) (q 123)) rfl cn))))))))))))))))))))))))))))))))))))))))))))))))))))))))))))))))))))))
      exact hjj65 _ h _ _ (mp [] _ _ hB)
    ·have h:=A4 hg66 h
     apply rg (c (fo 1001 0 [0] hN underlying35 0 tyS3 (q 1)) rfl (c (la hN 35 tyS3 (q 55)) rfl (c (geq (L rfl) (q 56) (ii (-1))) rfl (c (mv hN (q 57)) rfl (c (oq hN 58 (fo 1001 0 [0] hN underlying35 0 tyS3 (q 1)) (OptL.keep (by rfl) OptL.nil) (GuardV.plain _)) rfl (c (oq hN 58 (la hN 35 tyS3 (q 59)) (OptL.opt OptL.nil) (GuardV.plain _)) rfl (c (oq hN 58 (leq (L rfl) (q 60) (ii 2)) (OptL.opt OptL.nil) (GuardV.plain _)) rfl (c (pickAnd rfl (L rfl) (q 58) (q 61)) rfl (c (OpJ.val (v':=.d (.bool false)) (by rw [hg66]<;>rfl) (mv hN (q 62))) rfl (ks 63 (L rfl) (ks 63 (L rfl) (ks 63 (L rfl) (c (pickF (L rfl) (q 63) (Opd.bool false)) rfl (c (mv hN (q 67)) rfl (ks 68 (L rfl) (ks 68 (L rfl) (ks 68 (L rfl) (c (pickF (L rfl) (q 68) (Opd.bool false)) rfl (c (mv hN (q 72)) rfl (ks 73 (L rfl) (ks 73 (L rfl) (ks 73 (L rfl) (c (pickF (L rfl) (q 73) (Opd.bool false)) rfl (c (mv hN (q 77)) rfl (ks 78 (L rfl) (ks 78 (L rfl) (ks 78 (L rfl) (c (pickF (L rfl) (q 78) (Opd.bool false)) rfl (c (mv hN (q 82)) rfl (ks 83 (L rfl) (ks 83 (L rfl) (ks 83 (L rfl) (c (pickF (L rfl) (q 83) (Opd.bool false)) rfl (c (mv hN (q 87)) rfl (ks 88 (L rfl) (ks 88 (L rfl) (ks 88 (L rfl) (c (pickF (L rfl) (q 88) (Opd.bool false)) rfl (c (mv hN (q 92)) rfl (ks 93 (L rfl) (ks 93 (L rfl) (ks 93 (L rfl) (ks 93 (L rfl) (cg (sV 97 (L rfl)) rfl (cg (sV 97 (L rfl)) rfl (cg (sV 97 (L rfl)) rfl (cg (sV 97 (L rfl)) rfl (cg (sV 101 (L rfl)) rfl (cg (sV 101 (L rfl)) rfl (cg (sV 101 (L rfl)) rfl (cg (sV 97 (L rfl)) rfl (ks 93 (L rfl) (c (pickF (L rfl) (q 93) (Opd.bool false)) rfl (c (mv hN (q 107)) rfl (ks 108 (L rfl) (ks 108 (L rfl) (ks 108 (L rfl) (c (pickF (L rfl) (q 108) (Opd.bool false)) rfl (c (mv hN (q 112)) rfl (ks 113 (L rfl) (ks 113 (L rfl) (ks 113 (L rfl) (c (pickF (L rfl) (q 113) (Opd.bool false)) rfl (c (mv hN (q 117)) rfl (ks 118 (L rfl) (ks 118 (L rfl) (ks 118 (L rfl) (ks 118 (L rfl) (c (pickF (L rfl) (q 118) (Opd.bool false)) rfl (c (assign (L rfl) (q 123)) rfl cn))))))))))))))))))))))))))))))))))))))))))))))))))))))))))))))))))))))
     exact hjj65 _ h _ _ (mp [] _ _ hB)
def I4 (a0:Int) (s1:Int×(List Int)):Option ((((List Int)))⊕(Int×(List Int))) :=
 (if (decide (0≤s1.1))=true then
 chk (decide ((s1.2++([(IntKind.u8.wrap (shrI .i64 a0 (IntKind.u64.wrap (8*(IntKind.u64.wrap s1.1)))))]:List Int)).length≤LIM)) <|
 some (.inr ((w64 (s1.1-1)),(s1.2++([(IntKind.u8.wrap (shrI .i64 a0 (IntKind.u64.wrap (8*(IntKind.u64.wrap s1.1)))))]:List Int))))
 else
 some (.inl s1.2))
def I5 (a0:Int) (a1:Int):Option ((List Int)) :=
 (loop (I4 a0) ((w64 (a1-1)),([]:List Int))).bind fun p6 =>
 some p6
theorem L4 (a0:Int) (a1:Int) (r:(List Int)) (h:I5 a0 a1=some r):AC Tryz.prog 106 [(.d (.int .i64 a0)),(.d (.int .i64 a1))] [] (.d (.list 1 (r.map (eI .u8)))) []:=by
 refine ac2 Tryz.func106 rfl rfl fun B hB hN L => ?_
 delta I5 at h
 refine sr (SQ tt) ?_
 refine sr (SQ tt) ?_
 apply seq
 refine sr (SQ tt) ?_
 apply block
 obtain⟨p6,hx10,h⟩:=bindS h
 refine lg (I4 a0) (fun s1:Int×(List Int)=>([(0,(i6 a0)),(5,(.sref 3005 1 0 s1.2.length)),(6,(i6 s1.1))]:EL)) (fun s1:Int×(List Int)=>([(3005,some (.row 5 1 (s1.2.map (eI .u8))))]:OL)) (fun(p6:((List Int))) e E' O'=>e = .exit 0∧Mat B E' O' ([(5,(.sref 3005 1 0 p6.length))]:EL) ([(3005,some (.row 5 1 (p6.map (eI .u8))))]:OL)) hx10 (Mat.trans (Mat.beginP (n:=3005) (e:=5) (sz:=1) (Ts:=[(5,(.sref 3005 1 0 0))]) (Bs:=[]) hB (by decide) (by rfl) (by decide) (TwT.cons (x:=.nils) (by rfl) (Tw.leaf ⟨rfl,rfl⟩) TwT.nil) TwB.nil) (mp [] _ _ hB)) (fun s1 y h => ?_) (fun e E' O' hR => ?_)
 ·unfold I4 at h
  apply seq
  refine sr (SQ tt) ?_
  apply AWp.cond rfl<;>intro hg7
  ·have h:=A3 hg7 h
   apply AWp.skip
   apply A0
   apply seq
   apply block
   obtain⟨hc8,h⟩:=B3 h
   refine rg (SQ (fa hc8 tt)) ?_
   apply D2
   apply A0
   refine rg (SQ tt) ?_
   obtain rfl:=oi h
   exact⟨rfl,(mp [(3005,1021)] _ _ hB)⟩
  ·have h:=A4 hg7 h
   apply AWp.exit
   apply D6
   obtain rfl:=oi h
   exact⟨(fun hc=>by cases hc),rfl,(mp [] _ _ hB)⟩
 ·obtain⟨rfl,hmat⟩:=hR
  apply C2
  apply A0
  refine ghost hmat ?_
  refine sr (SQ tt) ?_
  apply ret
  obtain rfl:=oi h
  exact rt (Mat.trans (Mat.freezeP (n:=3005) (e:=5) (sz:=1) (es:=p6.map (eI .u8)) (Ts:=[(4,(.d (.list 1 (p6.map (eI .u8)))))]) (Bs:=[]) (by rfl) (TwT.cons (x:=(.sref 3005 1 0 p6.length)) (by rfl) (FrzL.all (by first | rfl | (simp;done) | (simp;omega) | omega)) TwT.nil) TwB.nil) (mp [] [(4,(.d (.list 1 (p6.map (eI .u8)))))] [] hB)) [(.d (.list 1 (p6.map (eI .u8))))] (rT rN) rfl
def U0 (a0:B2) (s98:Int×(List (Int×(List Int)))):Option ((((List (Int×(List Int)))))⊕(Int×(List (Int×(List Int))))) :=
 (if (decide (s98.1<(a0.fCommunities.length:Int)))=true then
 (idx a0.fCommunities s98.1).bind fun x113 =>
 (I5 x113.fA 2).bind fun r114 =>
 chk (decide ((((mget keq3 s98.2 8).getD [])++r114).length≤LIM)) <|
 (I5 x113.fB 2).bind fun r116 =>
 chk (decide (((((mget keq3 s98.2 8).getD [])++r114)++r116).length≤LIM)) <|
 some (.inr ((w64 (s98.1+1)),(mput keq3 s98.2 8 ((((mget keq3 s98.2 8).getD [])++r114)++r116))))
 else
 some (.inl s98.2))
def U1 (a0:B2) (s120:Int×(List (Int×(List Int)))):Option ((((List (Int×(List Int)))))⊕(Int×(List (Int×(List Int))))) :=
 (if (decide (s120.1<(a0.fLarge.length:Int)))=true then
 (idx a0.fLarge s120.1).bind fun x139 =>
 (I5 x139.fA 4).bind fun r140 =>
 chk (decide ((((mget keq3 s120.2 32).getD [])++r140).length≤LIM)) <|
 (I5 x139.fB 4).bind fun r142 =>
 chk (decide (((((mget keq3 s120.2 32).getD [])++r140)++r142).length≤LIM)) <|
 (I5 x139.fC 4).bind fun r144 =>
 chk (decide ((((((mget keq3 s120.2 32).getD [])++r140)++r142)++r144).length≤LIM)) <|
 some (.inr ((w64 (s120.1+1)),(mput keq3 s120.2 32 (((((mget keq3 s120.2 32).getD [])++r140)++r142)++r144))))
 else
 some (.inl s120.2))
def U2 (a0:B2) (s152:Int×(List A1)) (s256:Int×(List A1)):Option ((((List A1)))⊕(Int×(List A1))) :=
 (if (decide (s256.1<(a0.fOther.length:Int)))=true then
 (idx a0.fOther s256.1).bind fun x279 =>
 jn (fun m283:(List A1) =>
 some (.inr ((w64 (s256.1+1)),m283))) (fun j284 =>
 (if (x279.fType==s152.1)=true then
 chk (decide (x279.fData.length≤LIM)) <|
 chk (decide ((s256.2++[(A1.mk x279.fFlags s152.1 x279.fData)]).length≤LIM)) <|
 j284 (s256.2++[(A1.mk x279.fFlags s152.1 x279.fData)])
 else
 j284 s256.2))
 else
 some (.inl s256.2))
def U3 (a0:B2) (m150:(List (Int×(List Int)))) (s152:Int×(List A1)):Option ((((List A1)))⊕(Int×(List A1))) :=
 (if (decide (s152.1<256))=true then
 jn (fun m254:(List A1) =>
 (loop (U2 a0 s152) (0,m254)).bind fun p277 =>
 some (.inr ((w64 (s152.1+1)),p277))) (fun j255 =>
 (if (mget keq3 m150 s152.1).isSome=true then
 (W5 s152.1).bind fun r291 =>
 chk (decide (((mget keq3 m150 s152.1).getD ([]:List Int)).length≤LIM)) <|
 chk (decide ((s152.2++([(A1.mk r291 s152.1 ((mget keq3 m150 s152.1).getD ([]:List Int)))]:List A1)).length≤LIM)) <|
 j255 (s152.2++([(A1.mk r291 s152.1 ((mget keq3 m150 s152.1).getD ([]:List Int)))]:List A1))
 else
 j255 s152.2))
 else
 some (.inl s152.2))
def A06 (x356:A8) (s361:Int×(List Int)):Option ((((List Int)))⊕(Int×(List Int))) :=
 (if (decide (s361.1<(x356.fASNs.length:Int)))=true then
 (idx x356.fASNs s361.1).bind fun x372 =>
 (I5 x372 4).bind fun r373 =>
 chk (decide ((s361.2++r373).length≤LIM)) <|
 some (.inr ((w64 (s361.1+1)),(s361.2++r373)))
 else
 some (.inl s361.2))
def U4 (a0:B2) (s305:Int×(List Int)):Option ((((List Int)))⊕(Int×(List Int))) :=
 (if (decide (s305.1<(a0.fPath.length:Int)))=true then
 (idx a0.fPath s305.1).bind fun x356 =>
 jn (fun m358:Int =>
 chk (decide ((s305.2++([m358,(IntKind.u8.wrap (x356.fASNs.length:Int))]:List Int)).length≤LIM)) <|
 (loop (A06 x356) (0,(s305.2++([m358,(IntKind.u8.wrap (x356.fASNs.length:Int))]:List Int)))).bind fun p370 =>
 some (.inr ((w64 (s305.1+1)),p370))) (fun j359 =>
 (if x356.fSet=true then
 j359 1
 else
 j359 2))
 else
 some (.inl s305.2))
def A2q (a0:B2):Option ((List A1)×Int) :=
 (L3 a0).bind fun r1 =>
 (if (!r1)=true then
 some (([]:List A1),1)
 else
 jn (fun m4:(List (Int×(List Int))) =>
 jn (fun m84:(List (Int×(List Int))) =>
 jn (fun m88:(List (Int×(List Int))) =>
 jn (fun m92:(List (Int×(List Int))) =>
 jn (fun m96:(List (Int×(List Int))) =>
 (loop (U0 a0) (0,m96)).bind fun p111 =>
 (loop (U1 a0) (0,p111)).bind fun p137 =>
 jn (fun m150:(List (Int×(List Int))) =>
 (loop (U3 a0 m150) (0,([]:List A1))).bind fun p248 =>
 some (p248,0)) (fun j151 =>
 (if (decide (0≤a0.fOTC))=true then
 (I5 a0.fOTC 4).bind fun r297 =>
 j151 (mput keq3 p137 35 r297)
 else
 j151 p137))) (fun j97 =>
 (if (decide (0≤a0.fPref))=true then
 (I5 a0.fPref 4).bind fun r299 =>
 j97 (mput keq3 m92 5 r299)
 else
 j97 m92))) (fun j93 =>
 (if (decide (0≤a0.fMED))=true then
 (I5 a0.fMED 4).bind fun r301 =>
 j93 (mput keq3 m88 4 r301)
 else
 j93 m88))) (fun j89 =>
 (if ((!((a0.fNext.fV6==false)&&((a0.fNext.fHi==0)&&((a0.fNext.fLo==0)&&true))))&&(!a0.fNext.fV6))=true then
 (P6 a0.fNext).bind fun r303 =>
 j89 (mput keq3 m84 3 r303)
 else
 j89 m84))) (fun j85 =>
 (if ((decide (0≤a0.fOrigin)) || (decide (0<(a0.fPath.length:Int))))=true then
 (loop (U4 a0) (0,([]:List Int))).bind fun p354 =>
 j85 (mput keq3 m4 2 p354)
 else
 j85 m4))) (fun j5 =>
 (if (decide (0≤a0.fOrigin))=true then
 j5 (mput keq3 ([]:List (Int×(List Int))) 1 ([(IntKind.u8.wrap a0.fOrigin)]:List Int))
 else
 j5 ([]:List (Int×(List Int))))))
theorem A9g (a0:B2) (r:(List A1)×Int) (h:A2q a0=some r):AC Tryz.prog 81 [(.d (C0 a0))] [] (.tup [(.d (.list 3 (r.1.map A9))),(.d (.int .i64 r.2))]) []:=by
 refine ac2 Tryz.func81 rfl rfl fun B hB hN L => ?_
 delta A2q at h
 refine sr (SQ tt) ?_
 apply seq
 obtain⟨r1,hr1,h⟩:=bindS h
 refine sr (SQ (fa (cl [] (A63 a0 r1 hr1)) tt)) ?_
 apply AWp.cond rfl<;>intro hg2
 ·have h:=A3 hg2 h
  refine sr (SQ tt) ?_
  apply ret
  apply B5
  obtain rfl:=oi h
  exact rt (Mat.trans (Mat.coeP (Ts:=[(2,(B7 ([]:List A1)))]) (Bs:=[]) (TwT.cons (x:=.nils) (by rfl) (Tw.leaf ⟨_,(Co.nils 3),rfl⟩) TwT.nil) TwB.nil) (mp [] [(2,(B7 ([]:List A1))),(3,(i6 1))] [] hB)) [(B7 ([]:List A1)),(i6 1)] (rT (rT rN)) rfl
 ·have h:=A4 hg2 h
  apply AWp.skip
  apply A0
  refine sr (SQ tt) ?_
  apply sr (cg (OpJ.mkmapM hB (nm:=1024) (by decide) (h:=(eI .u8)) (e2:=5) (sz2:=1) (own:=[8,32]) (by decide) (fun _=>rfl) (L rfl)) rfl (c (assign (L rfl) (q 24)) rfl cn))
  apply seq
  refine sr (SQ tt) ?_
  refine gh [(1,_),(4,_),(5,_),(27,_)] [(1001,some _),(1024,some _)] hB rfl rfl (by rfl) ?_
  refine AWp.cut h (fun m4:(List (Int×(List Int)))=>([(1,(pt 1001)),(4,.nils),(5,(.mref 1024))]:EL)) (fun m4:(List (Int×(List Int)))=>([(1001,bd 35 (C0 a0)),(1024,some (.reg (mrow (eI .u8) 5 1 [8,32] m4 none)))]:OL)) (fun m4 h E' O' hmat => ?_) (fun j5 hjj5 h => ?_)
  ·apply A0
   refine ghost hmat ?_
   apply seq
   refine sr (SQ tt) ?_
   refine gh [(1,_),(4,_),(5,_),(41,_)] [(1001,some _),(1024,some _)] hB rfl rfl (by rfl) ?_
   refine AWp.cut h (fun m84:(List (Int×(List Int)))=>([(1,(pt 1001)),(4,.nils),(5,(.mref 1024))]:EL)) (fun m84:(List (Int×(List Int)))=>([(1001,bd 35 (C0 a0)),(1024,some (.reg (mrow (eI .u8) 5 1 [8,32] m84 none)))]:OL)) (fun m84 h E' O' hmat => ?_) (fun j85 hjj85 h => ?_)
   ·apply A0
    refine ghost hmat ?_
    apply seq
    refine sr (SQ tt) ?_
    refine gh [(1,_),(4,_),(5,_),(84,_)] [(1001,some _),(1024,some _)] hB rfl rfl (by rfl) ?_
    refine AWp.cut h (fun m88:(List (Int×(List Int)))=>([(1,(pt 1001)),(4,.nils),(5,(.mref 1024))]:EL)) (fun m88:(List (Int×(List Int)))=>([(1001,bd 35 (C0 a0)),(1024,some (.reg (mrow (eI .u8) 5 1 [8,32] m88 none)))]:OL)) (fun m88 h E' O' hmat => ?_) (fun j89 hjj89 h => ?_)
    ·apply A0
     refine ghost hmat ?_
     apply seq
     refine sr (SQ tt) ?_
     refine gh [(1,_),(4,_),(5,_),(91,_)] [(1001,some _),(1024,some _)] hB rfl rfl (by rfl) ?_
     refine AWp.cut h (fun m92:(List (Int×(List Int)))=>([(1,(pt 1001)),(4,.nils),(5,(.mref 1024))]:EL)) (fun m92:(List (Int×(List Int)))=>([(1001,bd 35 (C0 a0)),(1024,some (.reg (mrow (eI .u8) 5 1 [8,32] m92 none)))]:OL)) (fun m92 h E' O' hmat => ?_) (fun j93 hjj93 h => ?_)
     ·apply A0
      refine ghost hmat ?_
      apply seq
      refine sr (SQ tt) ?_
      refine gh [(1,_),(4,_),(5,_),(98,_)] [(1001,some _),(1024,some _)] hB rfl rfl (by rfl) ?_
      refine AWp.cut h (fun m96:(List (Int×(List Int)))=>([(1,(pt 1001)),(4,.nils),(5,(.mref 1024))]:EL)) (fun m96:(List (Int×(List Int)))=>([(1001,bd 35 (C0 a0)),(1024,some (.reg (mrow (eI .u8) 5 1 [8,32] m96 none)))]:OL)) (fun m96 h E' O' hmat => ?_) (fun j97 hjj97 h => ?_)
      ·apply A0
       refine ghost hmat ?_
       apply seq
       refine sr (SQ tt) ?_
       apply block
       obtain⟨p111,hx119,h⟩:=bindS h
       refine lg (U0 a0) (fun s98:Int×(List (Int×(List Int)))=>([(1,(pt 1001)),(4,.nils),(5,(.mref 1024)),(104,(C1 a0.fCommunities)),(105,(i6 (a0.fCommunities.length:Int))),(106,(i6 s98.1))]:EL)) (fun s98:Int×(List (Int×(List Int)))=>([(1001,bd 35 (C0 a0)),(1024,some (.reg (mrow (eI .u8) 5 1 [8,32] s98.2 none)))]:OL)) (fun(p111:((List (Int×(List Int))))) e E' O'=>e = .exit 4∧Mat B E' O' ([(1,(pt 1001)),(4,.nils),(5,(.mref 1024))]:EL) ([(1001,bd 35 (C0 a0)),(1024,some (.reg (mrow (eI .u8) 5 1 [8,32] p111 none)))]:OL)) hx119 (mp [] _ _ hB) (fun s98 y h => ?_) (fun e E' O' hR => ?_)
       ·unfold U0 at h
        refine sr (SQ tt) ?_
        apply seq
        apply AWp.cond rfl<;>intro hg112
        ·have h:=A3 hg112 h
         apply AWp.skip
         apply A0
         apply seq
         apply block
         obtain⟨x113,hx113,h⟩:=bindS h
         refine sr (SQ (fa hx113 tt)) ?_
         obtain⟨r114,hr114,h⟩:=bindS h
         obtain⟨hc115,h⟩:=B3 h
         obtain⟨r116,hr116,h⟩:=bindS h
         obtain⟨hc117,h⟩:=B3 h
         apply dr (c (mv hN (q 5)) rfl (c (mv hN (q 5)) rfl (cg (OpJ.mtakeM (m:=1112) (h:=(eI .u8)) (e2:=5) (sz2:=1) (own:=[8,32]) (eq:=keq3) (l:=s98.2) (k:=8) hB (fun _ _=>rfl) tyU147 underlying3 tyZ67 (by decide) (by decide) (xs:=((mget keq3 s98.2 8).getD [])) rfl (len:=((mget keq3 s98.2 8).getD []).length) rfl (L rfl) (q 111) (ii 8)) rfl (c (fo 1013 0 [0] hN underlying98 0 tyS3 (q 13)) rfl (c (la hN 98 tyS3 (q 113)) rfl (cg (cf hB fnOk106 (L4 x113.fA 2 r114 hr114) (L rfl) (OpdL.cons (q 114) (OpdL.cons (ii 2) OpdL.nil))) rfl (cg (apd hB underlying67 tyE5 1116 (eI .u8) ((mget keq3 s98.2 8).getD []) r114 hc115 (L rfl) (q 112) (q 115)) rfl (c (fo 1013 1 [1] hN underlying98 1 tyS3 (q 13)) rfl (c (la hN 98 tyS3 (q 117)) rfl (cg (cf hB fnOk106 (L4 x113.fB 2 r116 hr116) (L rfl) (OpdL.cons (q 118) (OpdL.cons (ii 2) OpdL.nil))) rfl (cg (apd hB underlying67 tyE5 1120 (eI .u8) (((mget keq3 s98.2 8).getD [])++r114) r116 hc117 (L rfl) (q 116) (q 119)) rfl (cg (OpJ.mputR (h:=(eI .u8)) (e2:=5) (sz2:=1) (own:=[8,32]) (eq:=keq3) (l:=s98.2) (k:=8) (xs:=((((mget keq3 s98.2 8).getD [])++r114)++r116)) (fun _ _=>rfl) tyU147 underlying3 (by decide) (len:=((((mget keq3 s98.2 8).getD [])++r114)++r116).length) rfl (q 110) (ii 8) (q 120)) rfl cn)))))))))))) (by kernel_rfl) (by kernel_rfl)
         apply D2
         apply A0
         refine rg (SQ tt) ?_
         obtain rfl:=oi h
         exact⟨rfl,(mp [] _ _ hB)⟩
        ·have h:=A4 hg112 h
         apply AWp.exit
         apply D6
         obtain rfl:=oi h
         exact⟨(fun hc=>by cases hc),rfl,(mp [] _ _ hB)⟩
       ·obtain⟨rfl,hmat⟩:=hR
        apply C2
        apply A0
        refine ghost hmat ?_
        apply seq
        refine sr (SQ tt) ?_
        apply block
        obtain⟨p137,hx147,h⟩:=bindS h
        refine lg (U1 a0) (fun s120:Int×(List (Int×(List Int)))=>([(1,(pt 1001)),(4,.nils),(5,(.mref 1024)),(123,(D7 a0.fLarge)),(124,(i6 (a0.fLarge.length:Int))),(125,(i6 s120.1))]:EL)) (fun s120:Int×(List (Int×(List Int)))=>([(1001,bd 35 (C0 a0)),(1024,some (.reg (mrow (eI .u8) 5 1 [8,32] s120.2 none)))]:OL)) (fun(p137:((List (Int×(List Int))))) e E' O'=>e = .exit 6∧Mat B E' O' ([(1,(pt 1001)),(4,.nils),(5,(.mref 1024))]:EL) ([(1001,bd 35 (C0 a0)),(1024,some (.reg (mrow (eI .u8) 5 1 [8,32] p137 none)))]:OL)) hx147 (mp [] _ _ hB) (fun s120 y h => ?_) (fun e E' O' hR => ?_)
        ·unfold U1 at h
         refine sr (SQ tt) ?_
         apply seq
         apply AWp.cond rfl<;>intro hg138
         ·have h:=A3 hg138 h
          apply AWp.skip
          apply A0
          apply seq
          apply block
          obtain⟨x139,hx139,h⟩:=bindS h
          refine sr (SQ (fa hx139 tt)) ?_
          obtain⟨r140,hr140,h⟩:=bindS h
          obtain⟨hc141,h⟩:=B3 h
          obtain⟨r142,hr142,h⟩:=bindS h
          obtain⟨hc143,h⟩:=B3 h
          obtain⟨r144,hr144,h⟩:=bindS h
          obtain⟨hc145,h⟩:=B3 h
          apply dr (c (mv hN (q 5)) rfl (c (mv hN (q 5)) rfl (cg (OpJ.mtakeM (m:=1131) (h:=(eI .u8)) (e2:=5) (sz2:=1) (own:=[8,32]) (eq:=keq3) (l:=s120.2) (k:=32) hB (fun _ _=>rfl) tyU147 underlying3 tyZ67 (by decide) (by decide) (xs:=((mget keq3 s120.2 32).getD [])) rfl (len:=((mget keq3 s120.2 32).getD []).length) rfl (L rfl) (q 130) (ii 32)) rfl (c (fo 1015 0 [0] hN underlying100 0 tyS3 (q 15)) rfl (c (la hN 100 tyS3 (q 132)) rfl (cg (cf hB fnOk106 (L4 x139.fA 4 r140 hr140) (L rfl) (OpdL.cons (q 133) (OpdL.cons (ii 4) OpdL.nil))) rfl (cg (apd hB underlying67 tyE5 1135 (eI .u8) ((mget keq3 s120.2 32).getD []) r140 hc141 (L rfl) (q 131) (q 134)) rfl (c (fo 1015 1 [1] hN underlying100 1 tyS3 (q 15)) rfl (c (la hN 100 tyS3 (q 136)) rfl (cg (cf hB fnOk106 (L4 x139.fB 4 r142 hr142) (L rfl) (OpdL.cons (q 137) (OpdL.cons (ii 4) OpdL.nil))) rfl (cg (apd hB underlying67 tyE5 1139 (eI .u8) (((mget keq3 s120.2 32).getD [])++r140) r142 hc143 (L rfl) (q 135) (q 138)) rfl (c (fo 1015 2 [2] hN underlying100 2 tyS3 (q 15)) rfl (c (la hN 100 tyS3 (q 140)) rfl (cg (cf hB fnOk106 (L4 x139.fC 4 r144 hr144) (L rfl) (OpdL.cons (q 141) (OpdL.cons (ii 4) OpdL.nil))) rfl (cg (apd hB underlying67 tyE5 1143 (eI .u8) ((((mget keq3 s120.2 32).getD [])++r140)++r142) r144 hc145 (L rfl) (q 139) (q 142)) rfl (cg (OpJ.mputR (h:=(eI .u8)) (e2:=5) (sz2:=1) (own:=[8,32]) (eq:=keq3) (l:=s120.2) (k:=32) (xs:=(((((mget keq3 s120.2 32).getD [])++r140)++r142)++r144)) (fun _ _=>rfl) tyU147 underlying3 (by decide) (len:=(((((mget keq3 s120.2 32).getD [])++r140)++r142)++r144).length) rfl (q 129) (ii 32) (q 143)) rfl cn)))))))))))))))) (by kernel_rfl) (by kernel_rfl)
          apply D2
          apply A0
          refine rg (SQ tt) ?_
          obtain rfl:=oi h
          exact⟨rfl,(mp [] _ _ hB)⟩
         ·have h:=A4 hg138 h
          apply AWp.exit
          apply D6
          obtain rfl:=oi h
          exact⟨(fun hc=>by cases hc),rfl,(mp [] _ _ hB)⟩
        ·obtain⟨rfl,hmat⟩:=hR
         apply C2
         apply A0
         refine ghost hmat ?_
         apply seq
         refine sr (SQ tt) ?_
         refine gh [(1,_),(4,_),(5,_),(147,_)] [(1001,some _),(1024,some _)] hB rfl rfl (by rfl) ?_
         refine AWp.cut h (fun m150:(List (Int×(List Int)))=>([(1,(pt 1001)),(4,.nils),(5,(.mref 1024))]:EL)) (fun m150:(List (Int×(List Int)))=>([(1001,bd 35 (C0 a0)),(1024,some (.reg (mrow (eI .u8) 5 1 [8,32] m150 none)))]:OL)) (fun m150 h E' O' hmat => ?_) (fun j151 hjj151 h => ?_)
         ·apply A0
          refine ghost hmat ?_
          apply seq
          refine sr (SQ tt) ?_
          apply block
          obtain⟨p248,hx295,h⟩:=bindS h
          refine lg (U3 a0 m150) (fun s152:Int×(List A1)=>([(1,(pt 1001)),(4,(.sref 3004 3 0 s152.2.length)),(5,(.mref 1024)),(152,(i6 s152.1))]:EL)) (fun s152:Int×(List A1)=>([(1001,bd 35 (C0 a0)),(1024,some (.blk (mapQ (mpairs (eI .i64) A75 m150)))),(3004,some (C9 s152.2))]:OL)) (fun(p248:((List A1))) e E' O'=>e = .exit 8∧Mat B E' O' ([(4,(.sref 3004 3 0 p248.length))]:EL) ([(3004,some (C9 p248))]:OL)) hx295 (Mat.trans (Mat.freezeM (n:=1024) (h:=(eI .u8)) (e2:=5) (sz2:=1) (own:=[8,32]) (l:=m150) (by rfl)) (Mat.trans (Mat.beginP (n:=3004) (e:=69) (sz:=3) (Ts:=[(4,(.sref 3004 3 0 0))]) (Bs:=[]) hB (by decide) (by rfl) (by decide) (TwT.cons (x:=.nils) (by rfl) (Tw.leaf ⟨rfl,rfl⟩) TwT.nil) TwB.nil) (mp [] _ _ hB))) (fun s152 y h => ?_) (fun e E' O' hR => ?_)
          ·unfold U3 at h
           refine sr (SQ tt) ?_
           apply seq
           apply AWp.cond rfl<;>intro hg249
           ·have h:=A3 hg249 h
            apply AWp.skip
            apply A0
            apply seq
            apply block
            refine sr (SQ tt) ?_
            apply seq
            apply sr (c (mv hN (q 5)) rfl (c (mv hN (q 16)) rfl (cg (OpJ.mlook2Q (g:=A75) (l:=m150) (k:=s152.1) tyU147 underlying3 keyEq3 (z:=([]:List Int)) tyZD67 (L rfl) (q 156) (q 157)) rfl (c (mv hN (q 158)) rfl (c (extract (by rfl) rfl (L rfl) (q 155)) rfl (c (extract (by rfl) rfl (L rfl) (q 155)) rfl (c (assign (L rfl) (q 159)) rfl (c (assign (L rfl) (q 160)) rfl cn))))))))
            refine sr (SQ tt) ?_
            refine gh [(1,_),(4,_),(5,_),(16,_),(17,_),(152,_),(161,_)] [(1001,some _),(1024,some _),(3004,some _)] hB rfl rfl (by rfl) ?_
            refine AWp.cut h (fun m254:(List A1)=>([(1,(pt 1001)),(4,(.sref 3004 3 0 m254.length)),(5,(.mref 1024)),(16,(i6 s152.1)),(152,(i6 s152.1))]:EL)) (fun m254:(List A1)=>([(1001,bd 35 (C0 a0)),(1024,some (.blk (mapQ (mpairs (eI .i64) A75 m150)))),(3004,some (C9 m254))]:OL)) (fun m254 h E' O' hmat => ?_) (fun j255 hjj255 h => ?_)
            ·apply A0
             refine ghost hmat ?_
             refine sr (SQ tt) ?_
             apply block
             obtain⟨p277,hx289,h⟩:=bindS h
             refine lg (U2 a0 s152) (fun s256:Int×(List A1)=>([(1,(pt 1001)),(4,(.sref 3004 3 0 s256.2.length)),(5,(.mref 1024)),(16,(i6 s152.1)),(152,(i6 s152.1)),(172,(B7 a0.fOther)),(173,(i6 (a0.fOther.length:Int))),(174,(i6 s256.1))]:EL)) (fun s256:Int×(List A1)=>([(1001,bd 35 (C0 a0)),(1024,some (.blk (mapQ (mpairs (eI .i64) A75 m150)))),(3004,some (C9 s256.2))]:OL)) (fun(p277:((List A1))) e E' O'=>e = .exit 10∧Mat B E' O' ([(1,(pt 1001)),(4,(.sref 3004 3 0 p277.length)),(5,(.mref 1024)),(152,(i6 s152.1))]:EL) ([(1001,bd 35 (C0 a0)),(1024,some (.blk (mapQ (mpairs (eI .i64) A75 m150)))),(3004,some (C9 p277))]:OL)) hx289 (mp [] _ _ hB) (fun s256 y h => ?_) (fun e E' O' hR => ?_)
             ·unfold U2 at h
              refine sr (SQ tt) ?_
              apply seq
              apply AWp.cond rfl<;>intro hg278
              ·have h:=A3 hg278 h
               apply AWp.skip
               apply A0
               apply seq
               apply block
               obtain⟨x279,hx279,h⟩:=bindS h
               refine sr (SQ (fa hx279 tt)) ?_
               refine sr (SQ tt) ?_
               refine gh [(1,_),(4,_),(5,_),(16,_),(20,_),(152,_),(172,_),(173,_),(174,_),(181,_)] [(1001,some _),(1020,some _),(1024,some _),(3004,some _)] hB rfl rfl (by rfl) ?_
               refine AWp.cut h (fun m283:(List A1)=>([(1,(pt 1001)),(4,(.sref 3004 3 0 m283.length)),(5,(.mref 1024)),(16,(i6 s152.1)),(152,(i6 s152.1)),(172,(B7 a0.fOther)),(173,(i6 (a0.fOther.length:Int))),(174,(i6 s256.1))]:EL)) (fun m283:(List A1)=>([(1001,bd 35 (C0 a0)),(1024,some (.blk (mapQ (mpairs (eI .i64) A75 m150)))),(3004,some (C9 m283))]:OL)) (fun m283 h E' O' hmat => ?_) (fun j284 hjj284 h => ?_)
               ·apply D2
                apply A0
                refine ghost hmat ?_
                refine rg (SQ tt) ?_
                obtain rfl:=oi h
                exact⟨rfl,(mp [] _ _ hB)⟩
               ·apply AWp.cond rfl<;>intro hg285
                ·have h:=A3 hg285 h
                 obtain⟨hc286,h⟩:=B3 h
                 obtain⟨hc287,h⟩:=B3 h
                 apply dr (c (mv hN (q 4)) rfl (c (fo 1020 0 [0] hN underlying69 0 tyS3 (q 20)) rfl (c (la hN 69 tyS3 (q 183)) rfl (c (mv hN (q 16)) rfl (c (fo 1020 2 [2] hN underlying69 2 tyS67 (q 20)) rfl (c (la hN 69 tyS67 (q 186)) rfl (cg (OpJ.frz (OpJ.appendN hB underlying67 tyE5 (nm:=1188) (by decide) (ys:=x279.fData.map (eI .u8)) (len:=x279.fData.length) (by simp) (A4y (f:=(eI .u8)) (fun _=>rfl)) (by rw [List.length_map];exact A0l hc286 (by decide)) (by rw [List.length_map];exact A33 hc286) (L rfl) Opd.nils (q 187)) (by simp)) rfl (c (OpJ.coe (v:=(.st [(i6 x279.fFlags),(i6 s152.1),(.d (.list 1 (x279.fData.map (eI .u8))))])) (y:=(.st [(.int .i64 x279.fFlags),(.int .i64 s152.1),(.list 1 (x279.fData.map (eI .u8)))])) (Co.st (CoL.cons (Co.d _) (CoL.cons (Co.d _) (CoL.cons (Co.d _) CoL.nil)))) rfl (OpJ.build (places:=[(0,1),(1,1),(2,1)]) ⟨underlying69,fun w=>by kernel_rfl⟩ tyZS69 (Opds.cons (q 184) (Opds.cons (q 185) (Opds.cons (q 188) Opds.nil))) (by kernel_rfl) (r:=(.st [(i6 x279.fFlags),(i6 s152.1),(.d (.list 1 (x279.fData.map (eI .u8))))])) (by rfl) (L rfl))) rfl (c (buildSlice underlying33 tyS69 tyZD69 (by rfl) (by decide) (by decide) (Opds.cons (q 189) Opds.nil) (by kernel_rfl) (es:=([(.st [(.int .i64 x279.fFlags),(.int .i64 s152.1),(.list 1 (x279.fData.map (eI .u8)))])]:List D)) (by rfl) (by rfl) (by kernel_rfl) (by simp) (L rfl)) rfl (cg (apd hB underlying33 tyE69 1191 A9 s256.2 [(A1.mk x279.fFlags s152.1 x279.fData)] hc287 (L rfl) (q 182) (q 190)) rfl (c (assign (L rfl) (q 191)) rfl cn))))))))))) (by kernel_rfl) (by kernel_rfl)
                 exact hjj284 _ h _ _ (mp [(3004,1191)] _ _ hB)
                ·have h:=A4 hg285 h
                 apply AWp.skip
                 exact hjj284 _ h _ _ (mp [] _ _ hB)
              ·have h:=A4 hg278 h
               apply AWp.exit
               apply D6
               obtain rfl:=oi h
               exact⟨(fun hc=>by cases hc),rfl,(mp [] _ _ hB)⟩
             ·obtain⟨rfl,hmat⟩:=hR
              apply C2
              apply D2
              apply A0
              refine ghost hmat ?_
              refine rg (SQ tt) ?_
              obtain rfl:=oi h
              exact⟨rfl,(mp [] _ _ hB)⟩
            ·apply AWp.cond rfl<;>intro hg290
             ·have h:=A3 hg290 h
              obtain⟨r291,hr291,h⟩:=bindS h
              obtain⟨hc292,h⟩:=B3 h
              obtain⟨hc293,h⟩:=B3 h
              apply rg (c (mv hN (q 4)) rfl (c (mv hN (q 16)) rfl (cg (cf hB fnOk101 (A62 s152.1 r291 hr291) (L rfl) (OpdL.cons (q 163) OpdL.nil)) rfl (c (mv hN (q 16)) rfl (c (mv hN (q 17)) rfl (cg (OpJ.frz (OpJ.appendN hB underlying67 tyE5 (nm:=1167) (by decide) (ys:=((mget keq3 m150 s152.1).getD ([]:List Int)).map (eI .u8)) (len:=((mget keq3 m150 s152.1).getD ([]:List Int)).length) (by simp) (A4y (f:=(eI .u8)) (fun _=>rfl)) (by rw [List.length_map];exact A0l hc292 (by decide)) (by rw [List.length_map];exact A33 hc292) (L rfl) Opd.nils (q 166)) (by simp)) rfl (c (OpJ.coe (v:=(.st [(i6 r291),(i6 s152.1),(.d (.list 1 (((mget keq3 m150 s152.1).getD ([]:List Int)).map (eI .u8))))])) (y:=(.st [(.int .i64 r291),(.int .i64 s152.1),(.list 1 (((mget keq3 m150 s152.1).getD ([]:List Int)).map (eI .u8)))])) (Co.st (CoL.cons (Co.d _) (CoL.cons (Co.d _) (CoL.cons (Co.d _) CoL.nil)))) rfl (OpJ.build (places:=[(0,1),(1,1),(2,1)]) ⟨underlying69,fun w=>by kernel_rfl⟩ tyZS69 (Opds.cons (q 164) (Opds.cons (q 165) (Opds.cons (q 167) Opds.nil))) (by kernel_rfl) (r:=(.st [(i6 r291),(i6 s152.1),(.d (.list 1 (((mget keq3 m150 s152.1).getD ([]:List Int)).map (eI .u8))))])) (by rfl) (L rfl))) rfl (c (buildSlice underlying33 tyS69 tyZD69 (by rfl) (by decide) (by decide) (Opds.cons (q 168) Opds.nil) (by kernel_rfl) (es:=([(.st [(.int .i64 r291),(.int .i64 s152.1),(.list 1 (((mget keq3 m150 s152.1).getD ([]:List Int)).map (eI .u8)))])]:List D)) (by rfl) (by rfl) (by kernel_rfl) (by simp) (L rfl)) rfl (cg (apd hB underlying33 tyE69 1170 A9 s152.2 ([(A1.mk r291 s152.1 ((mget keq3 m150 s152.1).getD ([]:List Int)))]:List A1) hc293 (L rfl) (q 162) (q 169)) rfl (c (assign (L rfl) (q 170)) rfl cn))))))))))
              exact hjj255 _ h _ _ (mp [(3004,1170)] _ _ hB)
             ·have h:=A4 hg290 h
              apply AWp.skip
              exact hjj255 _ h _ _ (mp [] _ _ hB)
           ·have h:=A4 hg249 h
            apply AWp.exit
            apply D6
            obtain rfl:=oi h
            exact⟨(fun hc=>by cases hc),rfl,(mp [] _ _ hB)⟩
          ·obtain⟨rfl,hmat⟩:=hR
           apply C2
           apply A0
           refine ghost hmat ?_
           refine sr (SQ tt) ?_
           apply ret
           obtain rfl:=oi h
           exact rt (Mat.trans (Mat.freezeP (n:=3004) (e:=69) (sz:=3) (es:=p248.map A9) (Ts:=[(2,(B7 p248))]) (Bs:=[]) (by rfl) (TwT.cons (x:=(.sref 3004 3 0 p248.length)) (by rfl) (FrzL.all (by first | rfl | (simp;done) | (simp;omega) | omega)) TwT.nil) TwB.nil) (mp [] [(2,(B7 p248)),(3,(i6 0))] [] hB)) [(B7 p248),(i6 0)] (rT (rT rN)) rfl
         ·apply AWp.cond rfl<;>intro hg296
          ·have h:=A3 hg296 h
           obtain⟨r297,hr297,h⟩:=bindS h
           apply rg (c (mv hN (q 5)) rfl (c (fo 1001 7 [5] hN underlying35 7 tyS3 (q 1)) rfl (c (la hN 35 tyS3 (q 149)) rfl (cg (cf hB fnOk106 (L4 a0.fOTC 4 r297 hr297) (L rfl) (OpdL.cons (q 150) (OpdL.cons (ii 4) OpdL.nil))) rfl (cg (OpJ.mputM (h:=(eI .u8)) (e2:=5) (sz2:=1) (own:=[8,32]) (eq:=keq3) (l:=p137) (k:=35) (xs:=r297) (fun _ _=>rfl) tyU147 underlying3 (by decide) (q 148) (ii 35) (q 151)) rfl cn)))))
           exact hjj151 _ h _ _ (mp [] _ _ hB)
          ·have h:=A4 hg296 h
           apply AWp.skip
           exact hjj151 _ h _ _ (mp [] _ _ hB)
      ·apply AWp.cond rfl<;>intro hg298
       ·have h:=A3 hg298 h
        obtain⟨r299,hr299,h⟩:=bindS h
        apply rg (c (mv hN (q 5)) rfl (c (fo 1001 6 [4] hN underlying35 6 tyS3 (q 1)) rfl (c (la hN 35 tyS3 (q 100)) rfl (cg (cf hB fnOk106 (L4 a0.fPref 4 r299 hr299) (L rfl) (OpdL.cons (q 101) (OpdL.cons (ii 4) OpdL.nil))) rfl (cg (OpJ.mputM (h:=(eI .u8)) (e2:=5) (sz2:=1) (own:=[8,32]) (eq:=keq3) (l:=m92) (k:=5) (xs:=r299) (fun _ _=>rfl) tyU147 underlying3 (by decide) (q 99) (ii 5) (q 102)) rfl cn)))))
        exact hjj97 _ h _ _ (mp [] _ _ hB)
       ·have h:=A4 hg298 h
        apply AWp.skip
        exact hjj97 _ h _ _ (mp [] _ _ hB)
     ·apply AWp.cond rfl<;>intro hg300
      ·have h:=A3 hg300 h
       obtain⟨r301,hr301,h⟩:=bindS h
       apply rg (c (mv hN (q 5)) rfl (c (fo 1001 5 [3] hN underlying35 5 tyS3 (q 1)) rfl (c (la hN 35 tyS3 (q 93)) rfl (cg (cf hB fnOk106 (L4 a0.fMED 4 r301 hr301) (L rfl) (OpdL.cons (q 94) (OpdL.cons (ii 4) OpdL.nil))) rfl (cg (OpJ.mputM (h:=(eI .u8)) (e2:=5) (sz2:=1) (own:=[8,32]) (eq:=keq3) (l:=m88) (k:=4) (xs:=r301) (fun _ _=>rfl) tyU147 underlying3 (by decide) (q 92) (ii 4) (q 95)) rfl cn)))))
       exact hjj93 _ h _ _ (mp [] _ _ hB)
      ·have h:=A4 hg300 h
       apply AWp.skip
       exact hjj93 _ h _ _ (mp [] _ _ hB)
    ·apply AWp.cond rfl<;>intro hg302
     ·have h:=A3 hg302 h
      obtain⟨r303,hr303,h⟩:=bindS h
      apply rg (c (mv hN (q 5)) rfl (c (fo 1001 2 [2] hN underlying35 2 tyS27 (q 1)) rfl (c (la hN 35 tyS27 (q 86)) rfl (cg (cf hB fnOk84 (A3p a0.fNext r303 hr303) (L rfl) (OpdL.cons (q 87) OpdL.nil)) rfl (cg (OpJ.mputM (h:=(eI .u8)) (e2:=5) (sz2:=1) (own:=[8,32]) (eq:=keq3) (l:=m84) (k:=3) (xs:=r303) (fun _ _=>rfl) tyU147 underlying3 (by decide) (q 85) (ii 3) (q 88)) rfl cn)))))
      exact hjj89 _ h _ _ (mp [] _ _ hB)
     ·have h:=A4 hg302 h
      apply AWp.skip
      exact hjj89 _ h _ _ (mp [] _ _ hB)
   ·apply AWp.cond rfl<;>intro hg304
    ·have h:=A3 hg304 h
     apply sr (cg (OpJ.buildSliceR underlying67 tyS5 tyZD5 (by rfl) (by decide) (by decide) hB (nm:=1042) (by decide) (len:=([]:List Int).length) (by rfl) Opds.nil (by kernel_rfl) (es:=([]:List Int).map (eI .u8)) (by rfl) (by rfl) (by kernel_rfl) (by simp) (L rfl)) rfl (c (assign (L rfl) (q 42)) rfl cn))
     apply seq
     refine sr (SQ tt) ?_
     apply block
     obtain⟨p354,hx379,h⟩:=bindS h
     refine lg (U4 a0) (fun s305:Int×(List Int)=>([(1,(pt 1001)),(4,.nils),(5,(.mref 1024)),(6,(.sref 3006 1 0 s305.2.length)),(44,(B9 a0.fPath)),(45,(i6 (a0.fPath.length:Int))),(46,(i6 s305.1))]:EL)) (fun s305:Int×(List Int)=>([(1001,bd 35 (C0 a0)),(1024,some (.reg (mrow (eI .u8) 5 1 [8,32] m4 none))),(3006,some (.row 5 1 (s305.2.map (eI .u8))))]:OL)) (fun(p354:((List Int))) e E' O'=>e = .exit 0∧Mat B E' O' ([(1,(pt 1001)),(4,.nils),(5,(.mref 1024)),(6,(.sref 3006 1 0 p354.length))]:EL) ([(1001,bd 35 (C0 a0)),(1024,some (.reg (mrow (eI .u8) 5 1 [8,32] m4 none))),(3006,some (.row 5 1 (p354.map (eI .u8))))]:OL)) hx379 (mp [(3006,1042)] _ _ hB) (fun s305 y h => ?_) (fun e E' O' hR => ?_)
     ·unfold U4 at h
      refine sr (SQ tt) ?_
      apply seq
      apply AWp.cond rfl<;>intro hg355
      ·have h:=A3 hg355 h
       apply AWp.skip
       apply A0
       apply seq
       apply block
       obtain⟨x356,hx356,h⟩:=bindS h
       refine sr (SQ (fa hx356 tt)) ?_
       refine sr (SQ tt) ?_
       apply seq
       refine sr (SQ tt) ?_
       refine gh [(1,_),(4,_),(5,_),(6,_),(8,_),(9,_),(44,_),(45,_),(46,_),(51,_)] [(1001,some _),(1008,some _),(1024,some _),(3006,some _)] hB rfl rfl (by rfl) ?_
       refine AWp.cut h (fun m358:Int=>([(1,(pt 1001)),(4,.nils),(5,(.mref 1024)),(6,(.sref 3006 1 0 s305.2.length)),(8,(pt 1008)),(9,(.d (.int .u8 m358))),(44,(B9 a0.fPath)),(45,(i6 (a0.fPath.length:Int))),(46,(i6 s305.1))]:EL)) (fun m358:Int=>([(1001,bd 35 (C0 a0)),(1008,bd 66 (C3 x356)),(1024,some (.reg (mrow (eI .u8) 5 1 [8,32] m4 none))),(3006,some (.row 5 1 (s305.2.map (eI .u8))))]:OL)) (fun m358 h E' O' hmat => ?_) (fun j359 hjj359 h => ?_)
       ·apply A0
        refine ghost hmat ?_
        obtain⟨hc360,h⟩:=B3 h
        refine sr (SQ (fa hc360 tt)) ?_
        refine sr (SQ tt) ?_
        apply block
        obtain⟨p370,hx376,h⟩:=bindS h
        refine lg (A06 x356) (fun s361:Int×(List Int)=>([(1,(pt 1001)),(4,.nils),(5,(.mref 1024)),(6,(.sref 3006 1 0 s361.2.length)),(44,(B9 a0.fPath)),(45,(i6 (a0.fPath.length:Int))),(46,(i6 s305.1)),(61,(qI_1 x356.fASNs)),(62,(i6 (x356.fASNs.length:Int))),(63,(i6 s361.1))]:EL)) (fun s361:Int×(List Int)=>([(1001,bd 35 (C0 a0)),(1024,some (.reg (mrow (eI .u8) 5 1 [8,32] m4 none))),(3006,some (.row 5 1 (s361.2.map (eI .u8))))]:OL)) (fun(p370:((List Int))) e E' O'=>e = .exit 2∧Mat B E' O' ([(1,(pt 1001)),(4,.nils),(5,(.mref 1024)),(6,(.sref 3006 1 0 p370.length)),(44,(B9 a0.fPath)),(45,(i6 (a0.fPath.length:Int))),(46,(i6 s305.1))]:EL) ([(1001,bd 35 (C0 a0)),(1024,some (.reg (mrow (eI .u8) 5 1 [8,32] m4 none))),(3006,some (.row 5 1 (p370.map (eI .u8))))]:OL)) hx376 (mp [(3006,1059)] _ _ hB) (fun s361 y h => ?_) (fun e E' O' hR => ?_)
        ·unfold A06 at h
         refine sr (SQ tt) ?_
         apply seq
         apply AWp.cond rfl<;>intro hg371
         ·have h:=A3 hg371 h
          apply AWp.skip
          apply A0
          apply seq
          apply block
          obtain⟨x372,hx372,h⟩:=bindS h
          refine sr (SQ (fa hx372 tt)) ?_
          obtain⟨r373,hr373,h⟩:=bindS h
          obtain⟨hc374,h⟩:=B3 h
          refine rg (SQ (fa (cl [] (L4 x372 4 r373 hr373)) (fa hc374 tt))) ?_
          apply D2
          apply A0
          refine rg (SQ tt) ?_
          obtain rfl:=oi h
          exact⟨rfl,(mp [(3006,1070)] _ _ hB)⟩
         ·have h:=A4 hg371 h
          apply AWp.exit
          apply D6
          obtain rfl:=oi h
          exact⟨(fun hc=>by cases hc),rfl,(mp [] _ _ hB)⟩
        ·obtain⟨rfl,hmat⟩:=hR
         apply C2
         apply D2
         apply A0
         refine ghost hmat ?_
         refine rg (SQ tt) ?_
         obtain rfl:=oi h
         exact⟨rfl,(mp [] _ _ hB)⟩
       ·apply AWp.cond rfl<;>intro hg377
        ·have h:=A3 hg377 h
         refine rg (SQ tt) ?_
         exact hjj359 _ h _ _ (mp [] _ _ hB)
        ·have h:=A4 hg377 h
         apply AWp.skip
         exact hjj359 _ h _ _ (mp [] _ _ hB)
      ·have h:=A4 hg355 h
       apply AWp.exit
       apply D6
       obtain rfl:=oi h
       exact⟨(fun hc=>by cases hc),rfl,(mp [] _ _ hB)⟩
     ·obtain⟨rfl,hmat⟩:=hR
      apply C2
      apply A0
      refine ghost hmat ?_
      refine ghost (Mat.freezeP (n:=3006) (e:=5) (sz:=1) (es:=p354.map (eI .u8)) (Ts:=[(6,(.d (.list 1 (p354.map (eI .u8)))))]) (Bs:=[]) (by rfl) (TwT.cons (x:=(.sref 3006 1 0 p354.length)) (by rfl) (FrzL.all (by first | rfl | (simp;done) | (simp;omega) | omega)) TwT.nil) TwB.nil) ?_
      apply rg (c (mv hN (q 5)) rfl (c (mv hN (q 6)) rfl (cg (OpJ.mputM (h:=(eI .u8)) (e2:=5) (sz2:=1) (own:=[8,32]) (eq:=keq3) (l:=m4) (k:=2) (xs:=p354) (fun _ _=>rfl) tyU147 underlying3 (by decide) (q 73) (ii 2) (q 74)) rfl cn)))
      exact hjj85 _ h _ _ (mp [] _ _ hB)
    ·have h:=A4 hg304 h
     apply AWp.skip
     exact hjj85 _ h _ _ (mp [] _ _ hB)
  ·apply AWp.cond rfl<;>intro hg380
   ·have h:=A3 hg380 h
    apply rg (c (mv hN (q 5)) rfl (c (fo 1001 0 [0] hN underlying35 0 tyS3 (q 1)) rfl (c (la hN 35 tyS3 (q 29)) rfl (c (OpJ.conv underlying3 underlying5 (L rfl) (q 30)) rfl (c (buildSlice underlying67 tyS5 tyZD5 (by rfl) (by decide) (by decide) (Opds.cons (q 31) Opds.nil) (by kernel_rfl) (es:=([(.int .u8 (IntKind.u8.wrap a0.fOrigin))]:List D)) (by rfl) (by rfl) (by kernel_rfl) (by simp) (L rfl)) rfl (cg (OpJ.mputM (h:=(eI .u8)) (e2:=5) (sz2:=1) (own:=[8,32]) (eq:=keq3) (l:=([]:List (Int×(List Int)))) (k:=1) (xs:=([(IntKind.u8.wrap a0.fOrigin)]:List Int)) (fun _ _=>rfl) tyU147 underlying3 (by decide) (q 28) (ii 1) (q 32)) rfl cn))))))
    exact hjj5 _ h _ _ (mp [] _ _ hB)
   ·have h:=A4 hg380 h
    apply AWp.skip
    exact hjj5 _ h _ _ (mp [] _ _ hB)
def A07 (a0:(List A2)) (a1:Bool) (s1:Int×(List Int)):Option ((((List Int)))⊕(Int×(List Int))) :=
 (if (decide (s1.1<(a0.length:Int)))=true then
 (idx a0 s1.1).bind fun x32 =>
 jn (fun m38:(List Int) =>
 some (.inr ((w64 (s1.1+1)),m38))) (fun j39 =>
 (if (x32.fAddr.fV6==a1)=true then
 chk (decide ((s1.2++([(IntKind.u8.wrap x32.fLen)]:List Int)).length≤LIM)) <|
 (P6 x32.fAddr).bind fun r42 =>
 chk ((decide (0≤(w64 (Int.tdiv (w64 (x32.fLen+7)) 8)))&&decide (0≤(w64 (Int.tdiv (w64 (x32.fLen+7)) 8)).toNat)&&decide ((w64 (Int.tdiv (w64 (x32.fLen+7)) 8)).toNat≤r42.length))) <|
 chk (decide (((s1.2++([(IntKind.u8.wrap x32.fLen)]:List Int))++((r42.take ((w64 (Int.tdiv (w64 (x32.fLen+7)) 8)).toNat)).drop 0)).length≤LIM)) <|
 j39 ((s1.2++([(IntKind.u8.wrap x32.fLen)]:List Int))++((r42.take ((w64 (Int.tdiv (w64 (x32.fLen+7)) 8)).toNat)).drop 0))
 else
 j39 s1.2))
 else
 some (.inl s1.2))
def J1 (a0:(List A2)) (a1:Bool):Option ((List Int)) :=
 (loop (A07 a0 a1) (0,([]:List Int))).bind fun p30 =>
 some p30
theorem A1q (a0:(List A2)) (a1:Bool) (r:(List Int)) (h:J1 a0 a1=some r):AC Tryz.prog 82 [(.d (.list 4 (a0.map B4))),(.d (.bool a1))] [] (.d (.list 1 (r.map (eI .u8)))) []:=by
 refine ac2 Tryz.func82 rfl rfl fun B hB hN L => ?_
 delta J1 at h
 refine sr (SQ tt) ?_
 refine sr (SQ tt) ?_
 apply seq
 refine sr (SQ tt) ?_
 apply block
 obtain⟨p30,hx46,h⟩:=bindS h
 refine lg (A07 a0 a1) (fun s1:Int×(List Int)=>([(1,(bo a1)),(5,(.sref 3005 1 0 s1.2.length)),(8,(E5 a0)),(9,(i6 (a0.length:Int))),(10,(i6 s1.1))]:EL)) (fun s1:Int×(List Int)=>([(3005,some (.row 5 1 (s1.2.map (eI .u8))))]:OL)) (fun(p30:((List Int))) e E' O'=>e = .exit 0∧Mat B E' O' ([(5,(.sref 3005 1 0 p30.length))]:EL) ([(3005,some (.row 5 1 (p30.map (eI .u8))))]:OL)) hx46 (Mat.trans (Mat.beginP (n:=3005) (e:=5) (sz:=1) (Ts:=[(5,(.sref 3005 1 0 0))]) (Bs:=[]) hB (by decide) (by rfl) (by decide) (TwT.cons (x:=.nils) (by rfl) (Tw.leaf ⟨rfl,rfl⟩) TwT.nil) TwB.nil) (mp [] _ _ hB)) (fun s1 y h => ?_) (fun e E' O' hR => ?_)
 ·unfold A07 at h
  refine sr (SQ tt) ?_
  apply seq
  apply AWp.cond rfl<;>intro hg31
  ·have h:=A3 hg31 h
   apply AWp.skip
   apply A0
   apply seq
   apply block
   obtain⟨x32,hx32,h⟩:=bindS h
   refine sr (SQ (fa hx32 tt)) ?_
   refine sr (SQ tt) ?_
   refine gh [(1,_),(5,_),(7,_),(8,_),(9,_),(10,_),(18,_)] [(1007,some _),(3005,some _)] hB rfl rfl (by rfl) ?_
   refine AWp.cut h (fun m38:(List Int)=>([(1,(bo a1)),(5,(.sref 3005 1 0 m38.length)),(8,(E5 a0)),(9,(i6 (a0.length:Int))),(10,(i6 s1.1))]:EL)) (fun m38:(List Int)=>([(3005,some (.row 5 1 (m38.map (eI .u8))))]:OL)) (fun m38 h E' O' hmat => ?_) (fun j39 hjj39 h => ?_)
   ·apply D2
    apply A0
    refine ghost hmat ?_
    refine rg (SQ tt) ?_
    obtain rfl:=oi h
    exact⟨rfl,(mp [] _ _ hB)⟩
   ·apply AWp.cond rfl<;>intro hg40
    ·have h:=A3 hg40 h
     obtain⟨hc41,h⟩:=B3 h
     obtain⟨r42,hr42,h⟩:=bindS h
     obtain⟨hc43,h⟩:=B3 h
     obtain⟨hc44,h⟩:=B3 h
     refine drS (SQ (fa hc41 (fa (cl [] (A3p x32.fAddr r42 hr42)) (fa hc43 (fa hc44 tt))))) ?_
     exact hjj39 _ h _ _ (mp [(3005,1033)] _ _ hB)
    ·have h:=A4 hg40 h
     apply AWp.skip
     exact hjj39 _ h _ _ (mp [] _ _ hB)
  ·have h:=A4 hg31 h
   apply AWp.exit
   apply D6
   obtain rfl:=oi h
   exact⟨(fun hc=>by cases hc),rfl,(mp [] _ _ hB)⟩
 ·obtain⟨rfl,hmat⟩:=hR
  apply C2
  apply A0
  refine ghost hmat ?_
  refine sr (SQ tt) ?_
  apply ret
  obtain rfl:=oi h
  exact rt (Mat.trans (Mat.freezeP (n:=3005) (e:=5) (sz:=1) (es:=p30.map (eI .u8)) (Ts:=[(4,(.d (.list 1 (p30.map (eI .u8)))))]) (Bs:=[]) (by rfl) (TwT.cons (x:=(.sref 3005 1 0 p30.length)) (by rfl) (FrzL.all (by first | rfl | (simp;done) | (simp;omega) | omega)) TwT.nil) TwB.nil) (mp [] [(4,(.d (.list 1 (p30.map (eI .u8)))))] [] hB)) [(.d (.list 1 (p30.map (eI .u8))))] (rT rN) rfl
def A37 (a0:(List A1)) (a1:A1) (s1:Int):Option (((Int))⊕(Int)) :=
 jn (fun m19:Bool =>
 (if m19=true then
 some (.inr (w64 (s1+1)))
 else
 some (.inl s1))) (fun j20 =>
 (if (decide (s1<(a0.length:Int)))=true then
 (idx a0 s1).bind fun x23 =>
 j20 (decide (x23.fType<a1.fType))
 else
 j20 false))
def A2z (a0:(List A1)) (a1:A1):Option ((List A1)) :=
 (loop (A37 a0 a1) 0).bind fun p16 =>
 chk ((decide (0≤p16)&&decide (0≤p16.toNat)&&decide (p16.toNat≤a0.length))) <|
 chk (decide (((a0.take p16.toNat).drop 0).length≤LIM)) <|
 chk (decide ((((a0.take p16.toNat).drop 0)++[a1]).length≤LIM)) <|
 chk ((decide (0≤p16)&&decide (p16.toNat≤a0.length)&&decide (a0.length≤a0.length))) <|
 chk (decide (((((a0.take p16.toNat).drop 0)++[a1])++((a0.take a0.length).drop p16.toNat)).length≤LIM)) <|
 some ((((a0.take p16.toNat).drop 0)++[a1])++((a0.take a0.length).drop p16.toNat))
theorem A7h (a0:(List A1)) (a1:A1) (r:(List A1)) (h:A2z a0 a1=some r):AC Tryz.prog 83 [(.d (.list 3 (a0.map A9))),(.d (A9 a1))] [] (.d (.list 3 (r.map A9))) []:=by
 refine ac2 Tryz.func83 rfl rfl fun B hB hN L => ?_
 delta A2z at h
 refine sr (SQ tt) ?_
 refine sr (SQ tt) ?_
 apply seq
 apply block
 obtain⟨p16,hx25,h⟩:=bindS h
 refine lg (A37 a0 a1) (fun s1:Int=>([(0,(B7 a0)),(3,(pt 1003)),(5,(i6 s1))]:EL)) (fun s1:Int=>([(1003,bd 69 (A9 a1))]:OL)) (fun(p16:(Int)) e E' O'=>e = .exit 0∧Mat B E' O' ([(0,(B7 a0)),(3,(pt 1003)),(5,(i6 p16))]:EL) ([(1003,bd 69 (A9 a1))]:OL)) hx25 (mp [] _ _ hB) (fun s1 y h => ?_) (fun e E' O' hR => ?_)
 ·unfold A37 at h
  apply seq
  apply seq
  refine AWp.cut h (fun m19:Bool=>([(0,(B7 a0)),(3,(pt 1003)),(5,(i6 s1)),(19,(bo m19))]:EL)) (fun m19:Bool=>([(1003,bd 69 (A9 a1))]:OL)) (fun m19 h E' O' hmat => ?_) (fun j20 hjj20 h => ?_)
  ·apply A0
   refine ghost hmat ?_
   apply AWp.cond rfl<;>intro hg21
   ·have h:=A3 hg21 h
    apply AWp.skip
    apply A0
    apply block
    refine rg (SQ tt) ?_
    apply D2
    obtain rfl:=oi h
    exact⟨rfl,(mp [] _ _ hB)⟩
   ·have h:=A4 hg21 h
    apply AWp.exit
    apply D6
    obtain rfl:=oi h
    exact⟨(fun hc=>by cases hc),rfl,(mp [] _ _ hB)⟩
  ·rcases bft (decide (s1<(a0.length:Int))) with hg22 | hg22
   ·have h:=A3 hg22 h
    obtain⟨_,hx23,h⟩:=bindS h
    refine drS (SQ (fa hg22 (fa hx23 tt))) ?_
    exact hjj20 _ h _ _ (mp [] _ _ hB)
   ·have h:=A4 hg22 h
    refine drS (SQ (fa hg22 tt)) ?_
    exact hjj20 _ h _ _ (mp [] _ _ hB)
 ·obtain⟨rfl,hmat⟩:=hR
  apply C2
  apply A0
  refine ghost hmat ?_
  obtain⟨hc26,h⟩:=B3 h
  obtain⟨hc27,h⟩:=B3 h
  obtain⟨hc28,h⟩:=B3 h
  obtain⟨hc29,h⟩:=B3 h
  obtain⟨hc30,h⟩:=B3 h
  refine sdS (SQ (fa hc26 (fa hc27 (fa hc28 (fa hc29 (fa hc30 tt)))))) ?_
  apply ret
  obtain rfl:=oi h
  exact rt (Mat.trans (Mat.freezeP (n:=1032) (e:=69) (sz:=3) (es:=((((a0.take p16.toNat).drop 0)++[a1])++((a0.take a0.length).drop p16.toNat)).map A9) (Ts:=[(4,(B7 ((((a0.take p16.toNat).drop 0)++[a1])++((a0.take a0.length).drop p16.toNat))))]) (Bs:=[]) (by rfl) (TwT.cons (x:=(.sref 1032 3 0 (((((a0.take p16.toNat).drop 0)++[a1])++((a0.take a0.length).drop p16.toNat)).length))) (by rfl) (FrzL.all (by first | rfl | (simp;done) | (simp;omega) | omega)) TwT.nil) TwB.nil) (mp [] [(4,(B7 ((((a0.take p16.toNat).drop 0)++[a1])++((a0.take a0.length).drop p16.toNat))))] [] hB)) [(B7 ((((a0.take p16.toNat).drop 0)++[a1])++((a0.take a0.length).drop p16.toNat)))] (rT rN) rfl
def A10 (a0:(List A1)) (s1:Int):Option (((Unit)⊕(Unit))⊕(Int)) :=
 (if (decide (s1<(a0.length:Int)))=true then
 (idx a0 s1).bind fun x11 =>
 (if (((((decide (x11.fFlags<0)) || (decide (255<x11.fFlags))) || (decide (x11.fType<0))) || (decide (255<x11.fType))) || (decide (65535<(x11.fData.length:Int))))=true then
 some (.inl (.inl ()))
 else
 some (.inr (w64 (s1+1))))
 else
 some (.inl (.inr ())))
def A11 (a0:(List A1)) (s15:Int×(List Int)):Option ((((List Int)))⊕(Int×(List Int))) :=
 (if (decide (s15.1<(a0.length:Int)))=true then
 (idx a0 s15.1).bind fun x40 =>
 jn (fun m44:(List Int) =>
 chk (decide ((m44++x40.fData).length≤LIM)) <|
 some (.inr ((w64 (s15.1+1)),(m44++x40.fData)))) (fun j45 =>
 (if (decide (255<(x40.fData.length:Int)))=true then
 chk (decide ((s15.2++([(bitI .or .u8 (bitI .and .u8 (IntKind.u8.wrap x40.fFlags) 224) 16),(IntKind.u8.wrap x40.fType),(IntKind.u8.wrap (shrI .i64 (x40.fData.length:Int) 8)),(IntKind.u8.wrap (x40.fData.length:Int))]:List Int)).length≤LIM)) <|
 j45 (s15.2++([(bitI .or .u8 (bitI .and .u8 (IntKind.u8.wrap x40.fFlags) 224) 16),(IntKind.u8.wrap x40.fType),(IntKind.u8.wrap (shrI .i64 (x40.fData.length:Int) 8)),(IntKind.u8.wrap (x40.fData.length:Int))]:List Int))
 else
 chk (decide ((s15.2++([(bitI .and .u8 (IntKind.u8.wrap x40.fFlags) 224),(IntKind.u8.wrap x40.fType),(IntKind.u8.wrap (x40.fData.length:Int))]:List Int)).length≤LIM)) <|
 j45 (s15.2++([(bitI .and .u8 (IntKind.u8.wrap x40.fFlags) 224),(IntKind.u8.wrap x40.fType),(IntKind.u8.wrap (x40.fData.length:Int))]:List Int))))
 else
 some (.inl s15.2))
def A22 (a0:(List A1)):Option ((List Int)×Int) :=
 (loop (A10 a0) 0).bind fun x13=>match x13 with
 | (.inl _) =>
  some (([]:List Int),1)
 | (.inr _) =>
  (loop (A11 a0) (0,([]:List Int))).bind fun p38 =>
  (if (decide (2048<(p38.length:Int)))=true then
  some (([]:List Int),3)
  else
  some (p38,0))
theorem B0n (a0:(List A1)) (r:(List Int)×Int) (h:A22 a0=some r):AC Tryz.prog 85 [(.d (.list 3 (a0.map A9)))] [] (.tup [(.d (.list 1 (r.1.map (eI .u8)))),(.d (.int .i64 r.2))]) []:=by
 refine ac2 Tryz.func85 rfl rfl fun B hB hN L => ?_
 delta A22 at h
 refine sr (SQ tt) ?_
 apply seq
 refine sr (SQ tt) ?_
 apply block
 obtain⟨x13,hx14,h⟩:=bindS h
 refine lg (A10 a0) (fun s1:Int=>([(0,(B7 a0)),(10,(B7 a0)),(11,(i6 (a0.length:Int))),(12,(i6 s1))]:EL)) (fun s1:Int=>([]:OL)) (fun(x:(Unit)⊕(Unit)) e E' O'=>match x with | (.inl _p)=>e = .ret∧Mat B E' O' ([(2,.nils),(3,(i6 1))]:EL) ([]:OL) | (.inr _p)=>e = .exit 0∧Mat B E' O' ([(0,(B7 a0))]:EL) ([]:OL)) hx14 (mp [] _ _ hB) (fun s1 y h => ?_) (fun e E' O' hR => ?_)
 ·unfold A10 at h
  refine sr (SQ tt) ?_
  apply seq
  apply AWp.cond rfl<;>intro hg10
  ·have h:=A3 hg10 h
   apply AWp.skip
   apply A0
   apply seq
   apply block
   obtain⟨_,hx11,h⟩:=bindS h
   refine sr (SQ (fa hx11 tt)) ?_
   refine sr (SQ tt) ?_
   apply AWp.cond rfl<;>intro hg12
   ·have h:=A3 hg12 h
    refine sr (SQ tt) ?_
    apply ret
    apply D3
    apply B5
    obtain rfl:=oi h
    exact⟨(fun hc=>by cases hc),rfl,(mp [] _ _ hB)⟩
   ·have h:=A4 hg12 h
    apply AWp.skip
    apply D2
    apply A0
    refine rg (SQ tt) ?_
    obtain rfl:=oi h
    exact⟨rfl,(mp [] _ _ hB)⟩
  ·have h:=A4 hg10 h
   apply AWp.exit
   apply D6
   obtain rfl:=oi h
   exact⟨(fun hc=>by cases hc),rfl,(mp [] _ _ hB)⟩
 ·rcases x13 with _ | _
  ·obtain⟨rfl,hmat⟩:=hR
   apply D3
   apply B5
   obtain rfl:=oi h
   exact rt (Mat.trans hmat (Mat.trans (Mat.coeP (Ts:=[(2,(.d (.list 1 (([]:List Int).map (eI .u8)))))]) (Bs:=[]) (TwT.cons (x:=.nils) (by rfl) (Tw.leaf ⟨_,(Co.nils 1),rfl⟩) TwT.nil) TwB.nil) (mp [] [(2,(.d (.list 1 (([]:List Int).map (eI .u8))))),(3,(i6 1))] [] hB))) [(.d (.list 1 (([]:List Int).map (eI .u8)))),(i6 1)] (rT (rT rN)) rfl
  ·obtain⟨rfl,hmat⟩:=hR
   apply C2
   apply A0
   refine ghost hmat ?_
   refine sr (SQ tt) ?_
   apply seq
   refine sr (SQ tt) ?_
   apply block
   obtain⟨p38,hx51,h⟩:=bindS h
   refine lg (A11 a0) (fun s15:Int×(List Int)=>([(6,(.sref 3006 1 0 s15.2.length)),(41,(B7 a0)),(42,(i6 (a0.length:Int))),(43,(i6 s15.1))]:EL)) (fun s15:Int×(List Int)=>([(3006,some (.row 5 1 (s15.2.map (eI .u8))))]:OL)) (fun(p38:((List Int))) e E' O'=>e = .exit 2∧Mat B E' O' ([(6,(.sref 3006 1 0 p38.length))]:EL) ([(3006,some (.row 5 1 (p38.map (eI .u8))))]:OL)) hx51 (Mat.trans (Mat.beginP (n:=3006) (e:=5) (sz:=1) (Ts:=[(6,(.sref 3006 1 0 0))]) (Bs:=[]) hB (by decide) (by rfl) (by decide) (TwT.cons (x:=.nils) (by rfl) (Tw.leaf ⟨rfl,rfl⟩) TwT.nil) TwB.nil) (mp [] _ _ hB)) (fun s15 y h => ?_) (fun e E' O' hR => ?_)
   ·unfold A11 at h
    refine sr (SQ tt) ?_
    apply seq
    apply AWp.cond rfl<;>intro hg39
    ·have h:=A3 hg39 h
     apply AWp.skip
     apply A0
     apply seq
     apply block
     obtain⟨x40,hx40,h⟩:=bindS h
     refine sr (SQ (fa hx40 tt)) ?_
     refine sr (SQ tt) ?_
     apply seq
     refine sr (SQ tt) ?_
     refine gh [(6,_),(8,_),(9,_),(41,_),(42,_),(43,_),(51,_)] [(1008,some _),(3006,some _)] hB rfl rfl (by rfl) ?_
     refine AWp.cut h (fun m44:(List Int)=>([(6,(.sref 3006 1 0 m44.length)),(8,(pt 1008)),(41,(B7 a0)),(42,(i6 (a0.length:Int))),(43,(i6 s15.1))]:EL)) (fun m44:(List Int)=>([(1008,bd 69 (A9 x40)),(3006,some (.row 5 1 (m44.map (eI .u8))))]:OL)) (fun m44 h E' O' hmat => ?_) (fun j45 hjj45 h => ?_)
     ·apply A0
      refine ghost hmat ?_
      obtain⟨hc46,h⟩:=B3 h
      refine rg (SQ (fa hc46 tt)) ?_
      apply D2
      apply A0
      refine rg (SQ tt) ?_
      obtain rfl:=oi h
      exact⟨rfl,(mp [(3006,1083)] _ _ hB)⟩
     ·apply AWp.cond rfl<;>intro hg47
      ·have h:=A3 hg47 h
       obtain⟨hc48,h⟩:=B3 h
       refine rg (SQ (fa hc48 tt)) ?_
       exact hjj45 _ h _ _ (mp [(3006,1067)] _ _ hB)
      ·have h:=A4 hg47 h
       obtain⟨hc49,h⟩:=B3 h
       refine rg (SQ (fa hc49 tt)) ?_
       exact hjj45 _ h _ _ (mp [(3006,1079)] _ _ hB)
    ·have h:=A4 hg39 h
     apply AWp.exit
     apply D6
     obtain rfl:=oi h
     exact⟨(fun hc=>by cases hc),rfl,(mp [] _ _ hB)⟩
   ·obtain⟨rfl,hmat⟩:=hR
    apply C2
    apply A0
    refine ghost hmat ?_
    apply seq
    refine sr (SQ tt) ?_
    apply AWp.cond rfl<;>intro hg52
    ·have h:=A3 hg52 h
     refine sr (SQ tt) ?_
     apply ret
     apply B5
     obtain rfl:=oi h
     exact rt (Mat.trans (Mat.coeP (Ts:=[(2,(.d (.list 1 (([]:List Int).map (eI .u8)))))]) (Bs:=[]) (TwT.cons (x:=.nils) (by rfl) (Tw.leaf ⟨_,(Co.nils 1),rfl⟩) TwT.nil) TwB.nil) (mp [] [(2,(.d (.list 1 (([]:List Int).map (eI .u8))))),(3,(i6 3))] [] hB)) [(.d (.list 1 (([]:List Int).map (eI .u8)))),(i6 3)] (rT (rT rN)) rfl
    ·have h:=A4 hg52 h
     apply AWp.skip
     apply A0
     refine sr (SQ tt) ?_
     apply ret
     obtain rfl:=oi h
     exact rt (Mat.trans (Mat.freezeP (n:=3006) (e:=5) (sz:=1) (es:=p38.map (eI .u8)) (Ts:=[(2,(.d (.list 1 (p38.map (eI .u8)))))]) (Bs:=[]) (by rfl) (TwT.cons (x:=(.sref 3006 1 0 p38.length)) (by rfl) (FrzL.all (by first | rfl | (simp;done) | (simp;omega) | omega)) TwT.nil) TwB.nil) (mp [] [(2,(.d (.list 1 (p38.map (eI .u8))))),(3,(i6 0))] [] hB)) [(.d (.list 1 (p38.map (eI .u8)))),(i6 0)] (rT (rT rN)) rfl
def Z6 (a0:A7):Option ((List Int)×Int) :=
 jn (fun m4:(List A1) =>
 (J1 a0.fAnnounce true).bind fun r6 =>
 jn (fun m17:(List A1) =>
 (J1 a0.fWithdraw true).bind fun r19 =>
 jn (fun m24:(List A1) =>
 (A22 m24).bind fun r26 =>
 (if (r26.2 != 0)=true then
 some (([]:List Int),r26.2)
 else
 (J1 a0.fWithdraw false).bind fun r28 =>
 chk (decide ((([(IntKind.u8.wrap (shrI .i64 (r28.length:Int) 8)),(IntKind.u8.wrap (r28.length:Int))]:List Int)++r28).length≤LIM)) <|
 chk (decide (((([(IntKind.u8.wrap (shrI .i64 (r28.length:Int) 8)),(IntKind.u8.wrap (r28.length:Int))]:List Int)++r28)++([(IntKind.u8.wrap (shrI .i64 (r26.1.length:Int) 8)),(IntKind.u8.wrap (r26.1.length:Int))]:List Int)).length≤LIM)) <|
 chk (decide ((((([(IntKind.u8.wrap (shrI .i64 (r28.length:Int) 8)),(IntKind.u8.wrap (r28.length:Int))]:List Int)++r28)++([(IntKind.u8.wrap (shrI .i64 (r26.1.length:Int) 8)),(IntKind.u8.wrap (r26.1.length:Int))]:List Int))++r26.1).length≤LIM)) <|
 (J1 a0.fAnnounce false).bind fun r32 =>
 chk (decide (((((([(IntKind.u8.wrap (shrI .i64 (r28.length:Int) 8)),(IntKind.u8.wrap (r28.length:Int))]:List Int)++r28)++([(IntKind.u8.wrap (shrI .i64 (r26.1.length:Int) 8)),(IntKind.u8.wrap (r26.1.length:Int))]:List Int))++r26.1)++r32).length≤LIM)) <|
 some (((((([(IntKind.u8.wrap (shrI .i64 (r28.length:Int) 8)),(IntKind.u8.wrap (r28.length:Int))]:List Int)++r28)++([(IntKind.u8.wrap (shrI .i64 (r26.1.length:Int) 8)),(IntKind.u8.wrap (r26.1.length:Int))]:List Int))++r26.1)++r32),0))) (fun j25 =>
 (if (decide (0<(r19.length:Int)))=true then
 chk (decide ((([0,2,1]:List Int)++r19).length≤LIM)) <|
 (A2z m17 (A1.mk 128 15 (([0,2,1]:List Int)++r19))).bind fun r36 =>
 j25 r36
 else
 j25 m17))) (fun j18 =>
 (if (decide (0<(r6.length:Int)))=true then
 (P6 a0.fAttrs.fNext).bind fun r38 =>
 chk (decide ((([0,2,1,16]:List Int)++r38).length≤LIM)) <|
 chk (decide (((([0,2,1,16]:List Int)++r38)++([0]:List Int)).length≤LIM)) <|
 chk (decide ((((([0,2,1,16]:List Int)++r38)++([0]:List Int))++r6).length≤LIM)) <|
 (A2z m4 (A1.mk 128 14 (((([0,2,1,16]:List Int)++r38)++([0]:List Int))++r6))).bind fun r42 =>
 j18 r42
 else
 j18 m4))) (fun j5 =>
 (if (decide (0<(a0.fAnnounce.length:Int)))=true then
 (A2q a0.fAttrs).bind fun r44 =>
 (if (r44.2 != 0)=true then
 some (([]:List Int),r44.2)
 else
 j5 r44.1)
 else
 j5 ([]:List A1)))
theorem A9h (a0:A7) (r:(List Int)×Int) (h:Z6 a0=some r):AC Tryz.prog 45 [(.d (D0 a0))] [] (.tup [(.d (.list 1 (r.1.map (eI .u8)))),(.d (.int .i64 r.2))]) []:=by
 refine ac2 Tryz.func45 rfl rfl fun B hB hN L => ?_
 delta Z6 at h
 refine sr (SQ tt) ?_
 refine sr (SQ tt) ?_
 apply seq
 refine sr (SQ tt) ?_
 refine gh [(1,_),(4,_),(16,_)] [(1001,some _)] hB rfl rfl (by rfl) ?_
 refine AWp.cut h (fun m4:(List A1)=>([(1,(pt 1001)),(4,(B7 m4))]:EL)) (fun m4:(List A1)=>([(1001,bd 61 (D0 a0))]:OL)) (fun m4 h E' O' hmat => ?_) (fun j5 hjj5 h => ?_)
 ·apply A0
  refine ghost hmat ?_
  apply seq
  obtain⟨r6,hr6,h⟩:=bindS h
  refine sr (SQ (fa (cl [] (A1q a0.fAnnounce true r6 hr6)) tt)) ?_
  refine sr (SQ tt) ?_
  refine gh [(1,_),(4,_),(7,_),(32,_)] [(1001,some _)] hB rfl rfl (by rfl) ?_
  refine AWp.cut h (fun m17:(List A1)=>([(1,(pt 1001)),(4,(B7 m17))]:EL)) (fun m17:(List A1)=>([(1001,bd 61 (D0 a0))]:OL)) (fun m17 h E' O' hmat => ?_) (fun j18 hjj18 h => ?_)
  ·apply A0
   refine ghost hmat ?_
   apply seq
   obtain⟨r19,hr19,h⟩:=bindS h
   refine sr (SQ (fa (cl [] (A1q a0.fWithdraw true r19 hr19)) tt)) ?_
   refine sr (SQ tt) ?_
   refine gh [(1,_),(4,_),(8,_),(51,_)] [(1001,some _)] hB rfl rfl (by rfl) ?_
   refine AWp.cut h (fun m24:(List A1)=>([(1,(pt 1001)),(4,(B7 m24))]:EL)) (fun m24:(List A1)=>([(1001,bd 61 (D0 a0))]:OL)) (fun m24 h E' O' hmat => ?_) (fun j25 hjj25 h => ?_)
   ·apply A0
    refine ghost hmat ?_
    obtain⟨r26,hr26,h⟩:=bindS h
    refine sr (SQ (fa (cl [] (B0n m24 r26 hr26)) tt)) ?_
    apply seq
    refine sr (SQ tt) ?_
    apply AWp.cond rfl<;>intro hg27
    ·have h:=A3 hg27 h
     refine sr (SQ tt) ?_
     apply ret
     apply B5
     obtain rfl:=oi h
     exact rt (Mat.trans (Mat.coeP (Ts:=[(2,(.d (.list 1 (([]:List Int).map (eI .u8)))))]) (Bs:=[]) (TwT.cons (x:=.nils) (by rfl) (Tw.leaf ⟨_,(Co.nils 1),rfl⟩) TwT.nil) TwB.nil) (mp [] [(2,(.d (.list 1 (([]:List Int).map (eI .u8))))),(3,(i6 r26.2))] [] hB)) [(.d (.list 1 (([]:List Int).map (eI .u8)))),(i6 r26.2)] (rT (rT rN)) rfl
    ·have h:=A4 hg27 h
     apply AWp.skip
     apply A0
     obtain⟨r28,hr28,h⟩:=bindS h
     refine sr (SQ (fa (cl [] (A1q a0.fWithdraw false r28 hr28)) tt)) ?_
     obtain⟨hc29,h⟩:=B3 h
     apply sr (c (mv hN (q 11)) rfl (c (OpJ.val (v':=(i6 (r28.length:Int))) (by simp) (lenD underlying67 (L rfl) (q 69))) rfl (c (OpJ.shr (L rfl) (q 70) (Opd.int .u64 (8)) (by decide)) rfl (c (OpJ.conv underlying3 underlying5 (L rfl) (q 71)) rfl (c (mv hN (q 11)) rfl (c (OpJ.val (v':=(i6 (r28.length:Int))) (by simp) (lenD underlying67 (L rfl) (q 73))) rfl (c (OpJ.conv underlying3 underlying5 (L rfl) (q 74)) rfl (cg (OpJ.buildSliceR underlying67 tyS5 tyZD5 (by rfl) (by decide) (by decide) hB (nm:=1076) (by decide) (len:=([(IntKind.u8.wrap (shrI .i64 (r28.length:Int) 8)),(IntKind.u8.wrap (r28.length:Int))]:List Int).length) (by rfl) (Opds.cons (q 72) (Opds.cons (q 75) Opds.nil)) (by kernel_rfl) (es:=([(IntKind.u8.wrap (shrI .i64 (r28.length:Int) 8)),(IntKind.u8.wrap (r28.length:Int))]:List Int).map (eI .u8)) (by rfl) (by rfl) (by kernel_rfl) (by simp) (L rfl)) rfl (c (mv hN (q 11)) rfl (cg (apd hB underlying67 tyE5 1078 (eI .u8) ([(IntKind.u8.wrap (shrI .i64 (r28.length:Int) 8)),(IntKind.u8.wrap (r28.length:Int))]:List Int) r28 hc29 (L rfl) (q 76) (q 77)) rfl (c (assign (L rfl) (q 78)) rfl cn)))))))))))
     obtain⟨hc30,h⟩:=B3 h
     obtain⟨hc31,h⟩:=B3 h
     refine sr (SQ (fa hc30 (fa hc31 tt))) ?_
     obtain⟨r32,hr32,h⟩:=bindS h
     obtain⟨hc33,h⟩:=B3 h
     refine sr (SQ (fa (cl [] (A1q a0.fAnnounce false r32 hr32)) (fa hc33 tt))) ?_
     apply ret
     obtain rfl:=oi h
     exact rt (Mat.trans (Mat.freezeP (n:=1095) (e:=5) (sz:=1) (es:=((((([(IntKind.u8.wrap (shrI .i64 (r28.length:Int) 8)),(IntKind.u8.wrap (r28.length:Int))]:List Int)++r28)++([(IntKind.u8.wrap (shrI .i64 (r26.1.length:Int) 8)),(IntKind.u8.wrap (r26.1.length:Int))]:List Int))++r26.1)++r32).map (eI .u8)) (Ts:=[(2,(.d (.list 1 (((((([(IntKind.u8.wrap (shrI .i64 (r28.length:Int) 8)),(IntKind.u8.wrap (r28.length:Int))]:List Int)++r28)++([(IntKind.u8.wrap (shrI .i64 (r26.1.length:Int) 8)),(IntKind.u8.wrap (r26.1.length:Int))]:List Int))++r26.1)++r32).map (eI .u8)))))]) (Bs:=[]) (by rfl) (TwT.cons (x:=(.sref 1095 1 0 (((((([(IntKind.u8.wrap (shrI .i64 (r28.length:Int) 8)),(IntKind.u8.wrap (r28.length:Int))]:List Int)++r28)++([(IntKind.u8.wrap (shrI .i64 (r26.1.length:Int) 8)),(IntKind.u8.wrap (r26.1.length:Int))]:List Int))++r26.1)++r32).length))) (by rfl) (FrzL.all (by first | rfl | (simp;done) | (simp;omega) | omega)) TwT.nil) TwB.nil) (mp [] [(2,(.d (.list 1 (((((([(IntKind.u8.wrap (shrI .i64 (r28.length:Int) 8)),(IntKind.u8.wrap (r28.length:Int))]:List Int)++r28)++([(IntKind.u8.wrap (shrI .i64 (r26.1.length:Int) 8)),(IntKind.u8.wrap (r26.1.length:Int))]:List Int))++r26.1)++r32).map (eI .u8))))),(3,(i6 0))] [] hB)) [(.d (.list 1 (((((([(IntKind.u8.wrap (shrI .i64 (r28.length:Int) 8)),(IntKind.u8.wrap (r28.length:Int))]:List Int)++r28)++([(IntKind.u8.wrap (shrI .i64 (r26.1.length:Int) 8)),(IntKind.u8.wrap (r26.1.length:Int))]:List Int))++r26.1)++r32).map (eI .u8)))),(i6 0)] (rT (rT rN)) rfl
   ·apply AWp.cond rfl<;>intro hg34
    ·have h:=A3 hg34 h
     obtain⟨hc35,h⟩:=B3 h
     obtain⟨r36,hr36,h⟩:=bindS h
     apply rg (c (mv hN (q 4)) rfl (cg (OpJ.buildSliceR underlying67 tyS5 tyZD5 (by rfl) (by decide) (by decide) hB (nm:=1053) (by decide) (len:=([0,2,1]:List Int).length) (by rfl) (Opds.cons (Opd.int .u8 (0)) (Opds.cons (Opd.int .u8 (2)) (Opds.cons (Opd.int .u8 (1)) Opds.nil))) (by kernel_rfl) (es:=([0,2,1]:List Int).map (eI .u8)) (by rfl) (by rfl) (by kernel_rfl) (by simp) (L rfl)) rfl (c (mv hN (q 8)) rfl (cg (OpJ.frz (apd hB underlying67 tyE5 1055 (eI .u8) ([0,2,1]:List Int) r19 hc35 (L rfl) (q 53) (q 54)) (by simp)) rfl (c (OpJ.coe (v:=(.st [(i6 128),(i6 15),(.d (.list 1 ((([0,2,1]:List Int)++r19).map (eI .u8))))])) (y:=(.st [(.int .i64 128),(.int .i64 15),(.list 1 ((([0,2,1]:List Int)++r19).map (eI .u8)))])) (Co.st (CoL.cons (Co.d _) (CoL.cons (Co.d _) (CoL.cons (Co.d _) CoL.nil)))) rfl (OpJ.build (places:=[(0,1),(1,1),(2,1)]) ⟨underlying69,fun w=>by kernel_rfl⟩ tyZS69 (Opds.cons (ii 128) (Opds.cons (ii 15) (Opds.cons (q 55) Opds.nil))) (by kernel_rfl) (r:=(.st [(i6 128),(i6 15),(.d (.list 1 ((([0,2,1]:List Int)++r19).map (eI .u8))))])) (by rfl) (L rfl))) rfl (cg (OpJ.callFn hB fnOk83 (A7h m17 (A1.mk 128 15 (([0,2,1]:List Int)++r19)) r36 hr36) [] (by kernel_rfl) (L rfl) (by kernel_rfl) (OpdL.cons (q 52) (OpdL.cons (q 56) OpdL.nil))) rfl (c (assign (L rfl) (q 57)) rfl cn)))))))
     exact hjj25 _ h _ _ (mp [] _ _ hB)
    ·have h:=A4 hg34 h
     apply AWp.skip
     exact hjj25 _ h _ _ (mp [] _ _ hB)
  ·apply AWp.cond rfl<;>intro hg37
   ·have h:=A3 hg37 h
    obtain⟨r38,hr38,h⟩:=bindS h
    obtain⟨hc39,h⟩:=B3 h
    obtain⟨hc40,h⟩:=B3 h
    obtain⟨hc41,h⟩:=B3 h
    obtain⟨r42,hr42,h⟩:=bindS h
    apply rg (c (mv hN (q 4)) rfl (cg (OpJ.buildSliceR underlying67 tyS5 tyZD5 (by rfl) (by decide) (by decide) hB (nm:=1034) (by decide) (len:=([0,2,1,16]:List Int).length) (by rfl) (Opds.cons (Opd.int .u8 (0)) (Opds.cons (Opd.int .u8 (2)) (Opds.cons (Opd.int .u8 (1)) (Opds.cons (Opd.int .u8 (16)) Opds.nil)))) (by kernel_rfl) (es:=([0,2,1,16]:List Int).map (eI .u8)) (by rfl) (by rfl) (by kernel_rfl) (by simp) (L rfl)) rfl (c (fo 1001 1 [1] hN underlying61 1 tyS35 (q 1)) rfl (c (fo 1001 3 [1,2] hN underlying35 2 tyS27 (q 35)) rfl (c (lb hN 61 _ _ tyS27 (At.dst1 (by rfl) (by rfl) (ad _) (by first | rfl | omega)) (q 36)) rfl (cg (cf hB fnOk84 (A3p a0.fAttrs.fNext r38 hr38) (L rfl) (OpdL.cons (q 37) OpdL.nil)) rfl (cg (apd hB underlying67 tyE5 1039 (eI .u8) ([0,2,1,16]:List Int) r38 hc39 (L rfl) (q 34) (q 38)) rfl (c (buildSlice underlying67 tyS5 tyZD5 (by rfl) (by decide) (by decide) (Opds.cons (Opd.int .u8 (0)) Opds.nil) (by kernel_rfl) (es:=([(.int .u8 0)]:List D)) (by rfl) (by rfl) (by kernel_rfl) (by simp) (L rfl)) rfl (cg (apd hB underlying67 tyE5 1041 (eI .u8) (([0,2,1,16]:List Int)++r38) ([0]:List Int) hc40 (L rfl) (q 39) (q 40)) rfl (c (mv hN (q 7)) rfl (cg (OpJ.frz (apd hB underlying67 tyE5 1043 (eI .u8) ((([0,2,1,16]:List Int)++r38)++([0]:List Int)) r6 hc41 (L rfl) (q 41) (q 42)) (by simp)) rfl (c (OpJ.coe (v:=(.st [(i6 128),(i6 14),(.d (.list 1 ((((([0,2,1,16]:List Int)++r38)++([0]:List Int))++r6).map (eI .u8))))])) (y:=(.st [(.int .i64 128),(.int .i64 14),(.list 1 ((((([0,2,1,16]:List Int)++r38)++([0]:List Int))++r6).map (eI .u8)))])) (Co.st (CoL.cons (Co.d _) (CoL.cons (Co.d _) (CoL.cons (Co.d _) CoL.nil)))) rfl (OpJ.build (places:=[(0,1),(1,1),(2,1)]) ⟨underlying69,fun w=>by kernel_rfl⟩ tyZS69 (Opds.cons (ii 128) (Opds.cons (ii 14) (Opds.cons (q 43) Opds.nil))) (by kernel_rfl) (r:=(.st [(i6 128),(i6 14),(.d (.list 1 ((((([0,2,1,16]:List Int)++r38)++([0]:List Int))++r6).map (eI .u8))))])) (by rfl) (L rfl))) rfl (cg (OpJ.callFn hB fnOk83 (A7h m4 (A1.mk 128 14 (((([0,2,1,16]:List Int)++r38)++([0]:List Int))++r6)) r42 hr42) [] (by kernel_rfl) (L rfl) (by kernel_rfl) (OpdL.cons (q 33) (OpdL.cons (q 44) OpdL.nil))) rfl (c (assign (L rfl) (q 45)) rfl cn))))))))))))))
    exact hjj18 _ h _ _ (mp [] _ _ hB)
   ·have h:=A4 hg37 h
    apply AWp.skip
    exact hjj18 _ h _ _ (mp [] _ _ hB)
 ·apply AWp.cond rfl<;>intro hg43
  ·have h:=A3 hg43 h
   obtain⟨r44,hr44,h⟩:=bindS h
   refine sr (SQ (fa (cl [] (A9g a0.fAttrs r44 hr44)) tt)) ?_
   apply seq
   refine sr (SQ tt) ?_
   apply AWp.cond rfl<;>intro hg45
   ·have h:=A3 hg45 h
    refine sr (SQ tt) ?_
    apply ret
    apply B5
    apply B5
    obtain rfl:=oi h
    exact rt (Mat.trans (Mat.coeP (Ts:=[(2,(.d (.list 1 (([]:List Int).map (eI .u8)))))]) (Bs:=[]) (TwT.cons (x:=.nils) (by rfl) (Tw.leaf ⟨_,(Co.nils 1),rfl⟩) TwT.nil) TwB.nil) (mp [] [(2,(.d (.list 1 (([]:List Int).map (eI .u8))))),(3,(i6 r44.2))] [] hB)) [(.d (.list 1 (([]:List Int).map (eI .u8)))),(i6 r44.2)] (rT (rT rN)) rfl
   ·have h:=A4 hg45 h
    apply AWp.skip
    apply A0
    refine rg (SQ tt) ?_
    exact hjj5 _ h _ _ (mp [] _ _ hB)
  ·have h:=A4 hg43 h
   apply AWp.skip
   exact hjj5 _ h _ _ (Mat.trans (Mat.coeP (Ts:=[(4,(B7 ([]:List A1)))]) (Bs:=[]) (TwT.cons (x:=.nils) (by rfl) (Tw.leaf ⟨_,(Co.nils 3),rfl⟩) TwT.nil) TwB.nil) (mp [] _ _ hB))
def U5 (a0:A7) (s4:Int):Option (((Unit)⊕(Unit))⊕(Int)) :=
 (if (decide (s4<((a0.fWithdraw++a0.fAnnounce).length:Int)))=true then
 (idx (a0.fWithdraw++a0.fAnnounce) s4).bind fun _ =>
 (idx (a0.fWithdraw++a0.fAnnounce) s4).bind fun x19 =>
 (A1b x19).bind fun r20 =>
 (if (!r20)=true then
 some (.inl (.inl ()))
 else
 some (.inr (w64 (s4+1))))
 else
 some (.inl (.inr ())))
def U6 (a0:A7) (s30:Int):Option (((Unit)⊕(Unit))⊕(Int)) :=
 (if (decide (s30<(a0.fAnnounce.length:Int)))=true then
 (idx a0.fAnnounce s30).bind fun x52 =>
 jn (fun m55:Bool =>
 (if m55=true then
 some (.inl (.inl ()))
 else
 some (.inr (w64 (s30+1))))) (fun j56 =>
 (if (((x52.fAddr.fV6 != a0.fAttrs.fNext.fV6) || (a0.fAttrs.fOrigin==(-1))) || ((a0.fAttrs.fNext.fV6==false)&&((a0.fAttrs.fNext.fHi==0)&&((a0.fAttrs.fNext.fLo==0)&&true))))=true then
 j56 true
 else
 (L3 a0.fAttrs).bind fun r59 =>
 j56 (!r59)))
 else
 some (.inl (.inr ())))
def P7 (a0:A7):Option (Bool) :=
 (if ((decide (256<(a0.fWithdraw.length:Int))) || (decide (256<(a0.fAnnounce.length:Int))))=true then
 some false
 else
 chk (decide (a0.fWithdraw.length≤LIM)) <|
 chk (decide ((a0.fWithdraw++a0.fAnnounce).length≤LIM)) <|
 (loop (U5 a0) 0).bind fun x22=>match x22 with
 | (.inl _) =>
  some false
 | (.inr _) =>
  jn (fun m27:Bool =>
  (if m27=true then
  some false
  else
  (loop (U6 a0) 0).bind fun x60=>match x60 with
  | (.inl _) =>
   some false
  | (.inr _) =>
   (Z6 a0).bind fun r62 =>
   some ((r62.2==0)&&(decide ((r62.1.length:Int)≤4077))))) (fun j28 =>
  (if ((a0.fAnnounce.length:Int)==0)=true then
  (A19).bind fun r64 =>
  (A21 a0.fAttrs r64).bind fun r65 =>
  j28 (!r65)
  else
  j28 false)))
theorem A64 (a0:A7) (r:Bool) (h:P7 a0=some r):AC Tryz.prog 20 [(.d (D0 a0))] [] (.d (.bool r)) []:=by
 refine ac2 Tryz.func20 rfl rfl fun B hB hN L => ?_
 delta P7 at h
 refine sr (SQ tt) ?_
 apply seq
 refine sr (SQ tt) ?_
 apply AWp.cond rfl<;>intro hg1
 ·have h:=A3 hg1 h
  refine sr (SQ tt) ?_
  apply ret
  apply B5
  obtain rfl:=oi h
  exact rt (kp [(2,_)] [] hB rfl rfl (by rfl)) [(bo false)] (rT rN) rfl
 ·have h:=A4 hg1 h
  apply AWp.skip
  apply A0
  apply seq
  obtain⟨hc2,h⟩:=B3 h
  obtain⟨hc3,h⟩:=B3 h
  refine sdS (SQ (fa hc2 (fa hc3 tt))) ?_
  apply block
  obtain⟨x22,hx23,h⟩:=bindS h
  refine lg (U5 a0) (fun s4:Int=>([(1,(pt 1001)),(24,(.sref 1024 4 0 ((a0.fWithdraw++a0.fAnnounce).length))),(25,(i6 ((a0.fWithdraw++a0.fAnnounce).length:Int))),(26,(i6 s4))]:EL)) (fun s4:Int=>([(1001,bd 61 (D0 a0)),(1024,some (F7 (a0.fWithdraw++a0.fAnnounce)))]:OL)) (fun(x:(Unit)⊕(Unit)) e E' O'=>match x with | (.inl _p)=>e = .ret∧Mat B E' O' ([(2,(bo false))]:EL) ([]:OL) | (.inr _p)=>e = .exit 0∧Mat B E' O' ([(1,(pt 1001))]:EL) ([(1001,bd 61 (D0 a0))]:OL)) hx23 (mp [] _ _ hB) (fun s4 y h => ?_) (fun e E' O' hR => ?_)
  ·unfold U5 at h
   refine sr (SQ tt) ?_
   apply seq
   apply AWp.cond rfl<;>intro hg17
   ·have h:=A3 hg17 h
    apply AWp.skip
    apply A0
    apply seq
    apply block
    obtain⟨_,hx18,h⟩:=bindS h
    obtain⟨x19,hx19,h⟩:=bindS h
    refine sr (SQ (fa hx18 (fa hx19 tt))) ?_
    obtain⟨r20,hr20,h⟩:=bindS h
    refine sr (SQ (fa (cl [] (A61 x19 r20 hr20)) tt)) ?_
    apply AWp.cond rfl<;>intro hg21
    ·have h:=A3 hg21 h
     refine sr (SQ tt) ?_
     apply ret
     apply D3
     apply B5
     obtain rfl:=oi h
     exact⟨(fun hc=>by cases hc),rfl,(mp [] _ _ hB)⟩
    ·have h:=A4 hg21 h
     apply AWp.skip
     apply D2
     apply A0
     refine rg (SQ tt) ?_
     obtain rfl:=oi h
     exact⟨rfl,(mp [] _ _ hB)⟩
   ·have h:=A4 hg17 h
    apply AWp.exit
    apply D6
    obtain rfl:=oi h
    exact⟨(fun hc=>by cases hc),rfl,(mp [] _ _ hB)⟩
  ·rcases x22 with _ | _
   ·obtain⟨rfl,hmat⟩:=hR
    apply D3
    apply B5
    obtain rfl:=oi h
    exact rt (Mat.trans hmat (mp [] [(2,(bo false))] [] hB)) [(bo false)] (rT rN) rfl
   ·obtain⟨rfl,hmat⟩:=hR
    apply C2
    apply A0
    refine ghost hmat ?_
    apply seq
    apply seq
    refine AWp.cut h (fun m27:Bool=>([(1,(pt 1001)),(44,(bo m27))]:EL)) (fun m27:Bool=>([(1001,bd 61 (D0 a0))]:OL)) (fun m27 h E' O' hmat => ?_) (fun j28 hjj28 h => ?_)
    ·apply A0
     refine ghost hmat ?_
     apply AWp.cond rfl<;>intro hg29
     ·have h:=A3 hg29 h
      refine sr (SQ tt) ?_
      apply ret
      apply B5
      obtain rfl:=oi h
      exact rt (kp [(2,_)] [] hB rfl rfl (by rfl)) [(bo false)] (rT rN) rfl
     ·have h:=A4 hg29 h
      apply AWp.skip
      apply A0
      apply seq
      refine sr (SQ tt) ?_
      apply block
      obtain⟨x60,hx61,h⟩:=bindS h
      refine lg (U6 a0) (fun s30:Int=>([(1,(pt 1001)),(46,(E5 a0.fAnnounce)),(47,(i6 (a0.fAnnounce.length:Int))),(48,(i6 s30))]:EL)) (fun s30:Int=>([(1001,bd 61 (D0 a0))]:OL)) (fun(x:(Unit)⊕(Unit)) e E' O'=>match x with | (.inl _p)=>e = .ret∧Mat B E' O' ([(2,(bo false))]:EL) ([]:OL) | (.inr _p)=>e = .exit 2∧Mat B E' O' ([(1,(pt 1001))]:EL) ([(1001,bd 61 (D0 a0))]:OL)) hx61 (mp [] _ _ hB) (fun s30 y h => ?_) (fun e E' O' hR => ?_)
      ·unfold U6 at h
       refine sr (SQ tt) ?_
       apply seq
       apply AWp.cond rfl<;>intro hg51
       ·have h:=A3 hg51 h
        apply AWp.skip
        apply A0
        apply seq
        apply block
        obtain⟨x52,hx52,h⟩:=bindS h
        refine sr (SQ (fa hx52 tt)) ?_
        apply seq
        refine AWp.cut h (fun m55:Bool=>([(1,(pt 1001)),(46,(E5 a0.fAnnounce)),(47,(i6 (a0.fAnnounce.length:Int))),(48,(i6 s30)),(78,(bo m55))]:EL)) (fun m55:Bool=>([(1001,bd 61 (D0 a0))]:OL)) (fun m55 h E' O' hmat => ?_) (fun j56 hjj56 h => ?_)
        ·apply A0
         refine ghost hmat ?_
         apply AWp.cond rfl<;>intro hg57
         ·have h:=A3 hg57 h
          refine sr (SQ tt) ?_
          apply ret
          apply D3
          apply B5
          obtain rfl:=oi h
          exact⟨(fun hc=>by cases hc),rfl,(mp [] _ _ hB)⟩
         ·have h:=A4 hg57 h
          apply AWp.skip
          apply D2
          apply A0
          refine rg (SQ tt) ?_
          obtain rfl:=oi h
          exact⟨rfl,(mp [] _ _ hB)⟩
        ·rcases bft (((x52.fAddr.fV6 != a0.fAttrs.fNext.fV6) || (a0.fAttrs.fOrigin==(-1))) || ((a0.fAttrs.fNext.fV6==false)&&((a0.fAttrs.fNext.fHi==0)&&((a0.fAttrs.fNext.fLo==0)&&true)))) with hg58 | hg58
         ·have h:=A3 hg58 h
          refine rg (SQ (fa hg58 tt)) ?_
          exact hjj56 _ h _ _ (mp [] _ _ hB)
         ·have h:=A4 hg58 h
          obtain⟨r59,hr59,h⟩:=bindS h
          refine rg (SQ (fa hg58 (fa (cl [] (A63 a0.fAttrs r59 hr59)) tt))) ?_
          exact hjj56 _ h _ _ (mp [] _ _ hB)
       ·have h:=A4 hg51 h
        apply AWp.exit
        apply D6
        obtain rfl:=oi h
        exact⟨(fun hc=>by cases hc),rfl,(mp [] _ _ hB)⟩
      ·rcases x60 with _ | _
       ·obtain⟨rfl,hmat⟩:=hR
        apply D3
        apply B5
        obtain rfl:=oi h
        exact rt (Mat.trans hmat (mp [] [(2,(bo false))] [] hB)) [(bo false)] (rT rN) rfl
       ·obtain⟨rfl,hmat⟩:=hR
        apply C2
        apply A0
        refine ghost hmat ?_
        obtain⟨r62,hr62,h⟩:=bindS h
        refine sr (SQ (fa (cl [] (A9h a0 r62 hr62)) tt)) ?_
        refine sr (SQ tt) ?_
        apply ret
        obtain rfl:=oi h
        exact rt (kp [(2,_)] [] hB rfl rfl (by rfl)) [(bo ((r62.2==0)&&(decide ((r62.1.length:Int)≤4077))))] (rT rN) rfl
    ·rcases bft ((a0.fAnnounce.length:Int)==0) with hg63 | hg63
     ·have h:=A3 hg63 h
      obtain⟨r64,hr64,h⟩:=bindS h
      obtain⟨r65,hr65,h⟩:=bindS h
      refine drS (SQ (fa hg63 (fa (cl [] (A3o r64 hr64)) (fa (cl [] (B0l a0.fAttrs r64 r65 hr65)) tt)))) ?_
      exact hjj28 _ h _ _ (mp [] _ _ hB)
     ·have h:=A4 hg63 h
      refine drS (SQ (fa hg63 tt)) ?_
      exact hjj28 _ h _ _ (mp [] _ _ hB)
def A3i (a0:A5):Option (Bool) :=
 (A1b a0.fPrefix).bind fun r1 =>
 (if (!r1)=true then
 some false
 else
 jn (fun m6:Bool =>
 some m6) (fun j7 =>
 (if (!a0.fHas)=true then
 j7 true
 else
 (if (((a0.fRoute.fPrefix.fAddr.fV6==a0.fPrefix.fAddr.fV6)&&((a0.fRoute.fPrefix.fAddr.fHi==a0.fPrefix.fAddr.fHi)&&((a0.fRoute.fPrefix.fAddr.fLo==a0.fPrefix.fAddr.fLo)&&true)))&&((a0.fRoute.fPrefix.fLen==a0.fPrefix.fLen)&&true))=true then
 (P7 (A7.mk ([]:List A2) a0.fRoute.fAttrs [a0.fPrefix])).bind fun r10 =>
 j7 r10
 else
 j7 false))))
theorem A4d (a0:A5) (r:Bool) (h:A3i a0=some r):AC Tryz.prog 34 [(.d (E8 a0))] [] (.d (.bool r)) []:=by
 refine ac2 Tryz.func34 rfl rfl fun B hB hN L => ?_
 delta A3i at h
 refine sr (SQ tt) ?_
 apply seq
 obtain⟨r1,hr1,h⟩:=bindS h
 refine sr (SQ (fa (cl [] (A61 a0.fPrefix r1 hr1)) tt)) ?_
 apply AWp.cond rfl<;>intro hg2
 ·have h:=A3 hg2 h
  refine sr (SQ tt) ?_
  apply ret
  apply B5
  obtain rfl:=oi h
  exact rt (kp [(2,_)] [] hB rfl rfl (by rfl)) [(bo false)] (rT rN) rfl
 ·have h:=A4 hg2 h
  apply AWp.skip
  apply A0
  apply seq
  refine AWp.cut h (fun m6:Bool=>([(2,(bo m6))]:EL)) (fun m6:Bool=>([]:OL)) (fun m6 h E' O' hmat => ?_) (fun j7 hjj7 h => ?_)
  ·apply A0
   refine ghost hmat ?_
   apply ret
   obtain rfl:=oi h
   exact rt (kp [(2,_)] [] hB rfl rfl (by rfl)) [(bo m6)] (rT rN) rfl
  ·rcases bft (!a0.fHas) with hg8 | hg8
   ·have h:=A3 hg8 h
    refine rg (SQ (fa hg8 tt)) ?_
    exact hjj7 _ h _ _ (mp [] _ _ hB)
   ·have h:=A4 hg8 h
    rcases bft (((a0.fRoute.fPrefix.fAddr.fV6==a0.fPrefix.fAddr.fV6)&&((a0.fRoute.fPrefix.fAddr.fHi==a0.fPrefix.fAddr.fHi)&&((a0.fRoute.fPrefix.fAddr.fLo==a0.fPrefix.fAddr.fLo)&&true)))&&((a0.fRoute.fPrefix.fLen==a0.fPrefix.fLen)&&true)) with hg9 | hg9
    ·have h:=A3 hg9 h
     obtain⟨r10,hr10,h⟩:=bindS h
     refine rg (SQ (fa hg8 (fa hg9 (fa (cl [] (A64 (A7.mk ([]:List A2) a0.fRoute.fAttrs [a0.fPrefix]) r10 hr10)) tt)))) ?_
     exact hjj7 _ h _ _ (mp [] _ _ hB)
    ·have h:=A4 hg9 h
     refine rg (SQ (fa hg8 (fa hg9 tt))) ?_
     exact hjj7 _ h _ _ (mp [] _ _ hB)
def G6 (a0:(List A7)) (a1:A7) (a2:A2) (a3:Bool):Option ((List A7)) :=
 jn (fun _:Unit =>
 chk (decide ((a0++[a1]).length≤LIM)) <|
 some (a0++[a1])) (fun j19 =>
 (if (!a3)=true then
 (idx a0 (w64 ((a0.length:Int)-1))).bind fun _ =>
 (idx a0 (w64 ((a0.length:Int)-1))).bind fun x23 =>
 chk (decide (x23.fWithdraw.length≤LIM)) <|
 chk (decide (x23.fAnnounce.length≤LIM)) <|
 jn (fun m29:(List A2)×(List A2) =>
 (P7 (A7.mk m29.2 x23.fAttrs m29.1)).bind fun r31 =>
 (if r31=true then
 (idx a0 (w64 ((a0.length:Int)-1))).bind fun _ =>
 (idx a0 (w64 ((a0.length:Int)-1))).bind fun _ =>
 some (a0.set (w64 ((a0.length:Int)-1)).toNat (A7.mk m29.2 x23.fAttrs m29.1))
 else
 j19 ())) (fun j30 =>
 (if (decide (0<(x23.fWithdraw.length:Int)))=true then
 chk (decide ((x23.fWithdraw++[a2]).length≤LIM)) <|
 j30 (x23.fAnnounce,(x23.fWithdraw++[a2]))
 else
 chk (decide ((x23.fAnnounce++[a2]).length≤LIM)) <|
 j30 ((x23.fAnnounce++[a2]),x23.fWithdraw)))
 else
 j19 ()))
theorem A4e (a0:(List A7)) (a1:A7) (a2:A2) (a3:Bool) (r:(List A7)) (h:G6 a0 a1 a2 a3=some r):AC Tryz.prog 36 [(.sref 0 13 0 a0.length),(.d (D0 a1)),(.d (B4 a2)),(.d (.bool a3))] [(0,(.row 61 13 (a0.map D0)))] (.sref 900000 13 0 r.length) [(0,none),(900000,some (.row 61 13 (r.map D0)))]:=by
 refine ac2 Tryz.func36 rfl rfl fun B hB hN L => ?_
 delta G6 at h
 refine sr (SQ tt) ?_
 apply seq
 refine sr (SQ tt) ?_
 refine gh [(0,_),(5,_),(6,_),(11,_)] [(0,some _),(1005,some _),(1006,some _)] hB rfl rfl (by rfl) ?_
 refine AWp.cut h (fun _:Unit=>([(0,(.sref 0 13 0 a0.length)),(5,(pt 1005))]:EL)) (fun _:Unit=>([(0,some (C8 a0)),(1005,bd 61 (D0 a1))]:OL)) (fun _m h E' O' hmat => ?_) (fun j19 hjj19 h => ?_)
 ·apply A0
  refine ghost hmat ?_
  obtain⟨hc20,h⟩:=B3 h
  have hc20_o:=hc20
  simp only [decide_eq_true_eq] at hc20_o
  refine sr (SQ (fa hc20 tt)) ?_
  apply ret
  obtain rfl:=oi h
  exact rt (mp [(900000,1054)] [(8,(.sref 900000 13 0 ((a0++[a1]).length)))] [(900000,some (C8 (a0++[a1])))] hB) [(.sref 900000 13 0 ((a0++[a1]).length))] (rT rN) rfl
 ·apply AWp.cond rfl<;>intro hg21
  ·have h:=A3 hg21 h
   obtain⟨_,hx22,h⟩:=bindS h
   obtain⟨x23,hx23,h⟩:=bindS h
   refine sr (SQ (fa hx22 (fa hx23 tt))) ?_
   obtain⟨hc24,h⟩:=B3 h
   have hc24_o:=hc24
   simp only [decide_eq_true_eq] at hc24_o
   obtain⟨hc25,h⟩:=B3 h
   have hc25_o:=hc25
   simp only [decide_eq_true_eq] at hc25_o
   refine sdS (SQ (fa hc24 (fa hc25 tt))) ?_
   apply seq
   refine sr (SQ tt) ?_
   refine gh [(0,_),(5,_),(6,_),(9,_),(29,_)] [(0,some _),(1005,some _),(1006,some _),(1009,some _),(1020,some _),(1023,some _)] hB rfl rfl (by rfl) ?_
   refine AWp.cut h (fun m29:(List A2)×(List A2)=>([(0,(.sref 0 13 0 a0.length)),(5,(pt 1005)),(9,(pt 1009))]:EL)) (fun m29:(List A2)×(List A2)=>([(0,some (C8 a0)),(1005,bd 61 (D0 a1)),(1009,some (.box 61 (.st [(.sref 13090 4 0 m29.2.length),(.d (C0 x23.fAttrs)),(.sref 13092 4 0 m29.1.length)]))),(13090,some (F7 m29.2)),(13092,some (F7 m29.1))]:OL)) (fun m29 h E' O' hmat => ?_) (fun j30 hjj30 h => ?_)
   ·apply A0
    refine ghost hmat ?_
    apply seq
    refine ghost (Mat.freezeP (n:=13090) (e:=29) (sz:=4) (es:=m29.2.map B4) (Ts:=[]) (Bs:=[(1009,some (.box 61 (.st [(E5 m29.2),(.d (C0 x23.fAttrs)),(.sref 13092 4 0 m29.1.length)])))]) (by rfl) TwT.nil (TwB.cons (x:=(.st [(.sref 13090 4 0 m29.2.length),(.d (C0 x23.fAttrs)),(.sref 13092 4 0 m29.1.length)])) (by rfl) (Tw.st (TwL.cons (FrzL.all (by first | rfl | (simp;done) | (simp;omega) | omega)) (TwL.cons (Tw.same _) (TwL.cons (Tw.same _) TwL.nil)))) TwB.nil)) ?_
    refine ghost (Mat.freezeP (n:=13092) (e:=29) (sz:=4) (es:=m29.1.map B4) (Ts:=[]) (Bs:=[(1009,some (.box 61 (.st [(E5 m29.2),(.d (C0 x23.fAttrs)),(E5 m29.1)])))]) (by rfl) TwT.nil (TwB.cons (x:=(.st [(E5 m29.2),(.d (C0 x23.fAttrs)),(.sref 13092 4 0 m29.1.length)])) (by rfl) (Tw.st (TwL.cons (Tw.same _) (TwL.cons (Tw.same _) (TwL.cons (FrzL.all (by first | rfl | (simp;done) | (simp;omega) | omega)) TwL.nil)))) TwB.nil)) ?_
    obtain⟨r31,hr31,h⟩:=bindS h
    refine rg (SQ (fa (cl [] (A64 (A7.mk m29.2 x23.fAttrs m29.1) r31 hr31)) tt)) ?_
    apply A0
    apply AWp.cond rfl<;>intro hg32
    ·have h:=A3 hg32 h
     obtain⟨_,hx33,h⟩:=bindS h
     obtain⟨_,hx34,h⟩:=bindS h
     apply sr (c (mv hN (q 0)) rfl (c (mv hN (q 0)) rfl (c (lenS underlying47 (L rfl) (q 45)) rfl (c (sub6 (L rfl) (q 46) (ii 1)) rfl (c (lb hN 61 _ _ tyS61 (At.here _) (q 9)) rfl (c (OpJ.val (v':=(.ptr 0 ((w64 ((a0.length:Int)-1)).toNat*13) [(w64 ((a0.length:Int)-1)).toNat])) (by simp) (indexS underlying47 tyS61 (F6 hx33).1 (by have:=B2c hx33;first | (simpa using this) | ((try simp only [List.length_map] at this);(try simp only [List.length_map]);omega)) (L rfl) (q 44) (q 47))) rfl (cg (OpJ.storeR (e:=61) (sz:=13) (es':=(a0.set (w64 ((a0.length:Int)-1)).toNat (A7.mk m29.2 x23.fAttrs m29.1)).map D0) tyS61 (N5 D0 (F6 hx34).2) (o:=0) (SetAt.here _ _) (by rfl) (A5o _ _ _ _) (by rfl) (by rfl) (q 49) (Opd.co (Co.st (CoL.cons (Co.d _) (CoL.cons (Co.d _) (CoL.cons (Co.d _) CoL.nil)))) (q 48))) rfl cn)))))))
     refine sr (SQ tt) ?_
     apply ret
     apply B5
     obtain rfl:=oi h
     exact rt (Mat.trans (Mat.lenP (Ts:=[(8,(.sref 0 13 0 ((a0.set (w64 ((a0.length:Int)-1)).toNat (A7.mk m29.2 x23.fAttrs m29.1)).length)))]) (Bs:=[]) (TwT.cons (x:=(.sref 0 13 0 a0.length)) (by rfl) (Tw.leaf ⟨_,_,_,_,_,rfl,rfl,(by first | rfl | (simp;done) | (simp;omega) | omega)⟩) TwT.nil) TwB.nil) (mp [(900000,0)] [(8,(.sref 900000 13 0 ((a0.set (w64 ((a0.length:Int)-1)).toNat (A7.mk m29.2 x23.fAttrs m29.1)).length)))] [(900000,some (C8 (a0.set (w64 ((a0.length:Int)-1)).toNat (A7.mk m29.2 x23.fAttrs m29.1))))] hB)) [(.sref 900000 13 0 ((a0.set (w64 ((a0.length:Int)-1)).toNat (A7.mk m29.2 x23.fAttrs m29.1)).length))] (rT rN) rfl
    ·have h:=A4 hg32 h
     apply AWp.skip
     exact hjj19 _ h _ _ (mp [] _ _ hB)
   ·apply AWp.cond rfl<;>intro hg35
    ·have h:=A3 hg35 h
     obtain⟨hc36,h⟩:=B3 h
     have hc36_o:=hc36
     simp only [decide_eq_true_eq] at hc36_o
     refine rg (SQ (fa hc36 tt)) ?_
     exact hjj30 _ h _ _ (mp [(13090,1034),(13092,1023)] _ _ hB)
    ·have h:=A4 hg35 h
     obtain⟨hc37,h⟩:=B3 h
     have hc37_o:=hc37
     simp only [decide_eq_true_eq] at hc37_o
     refine rg (SQ (fa hc37 tt)) ?_
     exact hjj30 _ h _ _ (mp [(13090,1020),(13092,1040)] _ _ hB)
  ·have h:=A4 hg21 h
   apply AWp.skip
   exact hjj19 _ h _ _ (mp [] _ _ hB)
end
end Go.Proofs.YtkhjkjojjdkidaaGreatDoor
