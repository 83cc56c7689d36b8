/- Printed by gen.py: the Go functions as plain functions, and that the code does what they say. -/
import Derived.Test.YtkhjkjojjdkidaaGreatDoorChecked
import Derived.Test.YtkhjkjojjdkidaaGreatDoorVcYB
import Derived.Test.YtkhjkjojjdkidaaGreatDoorVcZ
import Derived.Test.YtkhjkjojjdkidaaGreatDoorVcGC
import Derived.KernelRfl
import Derived.Test.YtkhjkjojjdkidaaGreatDoorVcMD
import Derived.Test.YtkhjkjojjdkidaaGreatDoorVcMQ
import Derived.Test.YtkhjkjojjdkidaaGreatDoorVcSG
import Derived.Test.YtkhjkjojjdkidaaGreatDoorFnsB
import Derived.Test.YtkhjkjojjdkidaaGreatDoorExt
import Derived.Test.YtkhjkjojjdkidaaGreatDoorVcPm
import Derived.Test.YtkhjkjojjdkidaaGreatDoorVcRg
import Derived.Test.YtkhjkjojjdkidaaGreatDoorVcSt
import Derived.Test.YtkhjkjojjdkidaaGreatDoorVcMR
namespace Go.Proofs.YtkhjkjojjdkidaaGreatDoor
open Go Go.Vc
open Tryz
open Go.Vc.OpJ (assign alloc lss pickT pickF extract lenD indexD loadD eqlI gtr callVal leq geq loadR nilP indexS buildSlice lenS fieldD neqI pickAnd pickOr)
open Go.Vc.AWp (seq ghost ret block)
set_option maxHeartbeats 4000000
set_option maxRecDepth 100000
noncomputable section
def F8 (a0:C8) (a1:C8) (s2:Int):Option (((Unit)⊕(Unit))⊕(Int)) :=
 (if (decide (s2<(a0.fPath.length:Int)))=true then
 jn (fun m50:Bool =>
 (if m50=true then
 some (.inl (.inl ()))
 else
 some (.inr (w64 (s2+1))))) (fun j51 =>
 (idx a0.fPath s2).bind fun x53 =>
 (idx a1.fPath s2).bind fun x54 =>
 (if (x53.fSet != x54.fSet)=true then
 j51 true
 else
 (idx a0.fPath s2).bind fun x56 =>
 (idx a1.fPath s2).bind fun x57 =>
 (T8 x56.fASNs x57.fASNs).bind fun r58 =>
 j51 (!r58)))
 else
 some (.inl (.inr ())))
def H5 (a0:C8) (a1:C8) (s61:Int):Option (((Unit)⊕(Unit))⊕(Int)) :=
 (if (decide (s61<(a0.fCommunities.length:Int)))=true then
 (idx a0.fCommunities s61).bind fun x73 =>
 (idx a1.fCommunities s61).bind fun x74 =>
 (if (!((x73.fA==x74.fA)&&((x73.fB==x74.fB)&&true)))=true then
 some (.inl (.inl ()))
 else
 some (.inr (w64 (s61+1))))
 else
 some (.inl (.inr ())))
def H6 (a0:C8) (a1:C8) (s78:Int):Option (((Unit)⊕(Unit))⊕(Int)) :=
 (if (decide (s78<(a0.fLarge.length:Int)))=true then
 (idx a0.fLarge s78).bind fun x90 =>
 (idx a1.fLarge s78).bind fun x91 =>
 (if (!((x90.fA==x91.fA)&&((x90.fB==x91.fB)&&((x90.fC==x91.fC)&&true))))=true then
 some (.inl (.inl ()))
 else
 some (.inr (w64 (s78+1))))
 else
 some (.inl (.inr ())))
def H7 (a0:C8) (a1:C8) (s95:Int):Option (((Unit)⊕(Unit))⊕(Int)) :=
 (if (decide (s95<(a0.fOther.length:Int)))=true then
 jn (fun m153:Bool =>
 (if m153=true then
 some (.inl (.inl ()))
 else
 some (.inr (w64 (s95+1))))) (fun j154 =>
 (idx a0.fOther s95).bind fun x156 =>
 (idx a1.fOther s95).bind fun x157 =>
 (if (x156.fFlags != x157.fFlags)=true then
 j154 true
 else
 (idx a0.fOther s95).bind fun x159 =>
 (idx a1.fOther s95).bind fun x160 =>
 (if (x159.fType != x160.fType)=true then
 j154 true
 else
 (idx a0.fOther s95).bind fun x162 =>
 (idx a1.fOther s95).bind fun x163 =>
 j154 ((bstr x162.fData) != (bstr x163.fData)))))
 else
 some (.inl (.inr ())))
def G6 (a0:C8) (a1:C8):Option (Bool) :=
 (if (((((((((a0.fOrigin != a1.fOrigin) || (!((a0.fNext.fV6==a1.fNext.fV6)&&((a0.fNext.fHi==a1.fNext.fHi)&&((a0.fNext.fLo==a1.fNext.fLo)&&true))))) || (a0.fMED != a1.fMED)) || (a0.fPref != a1.fPref)) || (a0.fOTC != a1.fOTC)) || ((a0.fPath.length:Int) != (a1.fPath.length:Int))) || ((a0.fCommunities.length:Int) != (a1.fCommunities.length:Int))) || ((a0.fLarge.length:Int) != (a1.fLarge.length:Int))) || ((a0.fOther.length:Int) != (a1.fOther.length:Int)))=true then
 some false
 else
 (loop (F8 a0 a1) 0).bind fun x59=>match x59 with
 | (.inl _) =>
  some false
 | (.inr _) =>
  (loop (H5 a0 a1) 0).bind fun x76=>match x76 with
  | (.inl _) =>
   some false
  | (.inr _) =>
   (loop (H6 a0 a1) 0).bind fun x93=>match x93 with
   | (.inl _) =>
    some false
   | (.inr _) =>
    (loop (H7 a0 a1) 0).bind fun x164=>match x164 with
    | (.inl _) =>
     some false
    | (.inr _) =>
     some true)
theorem A2a (a0:C8) (a1:C8) (r:Bool) (h:G6 a0 a1=some r):AC Tryz.prog 22 [(.d (B9 a0)),(.d (B9 a1))] [] (.d (.bool r)) []:=by
 refine ac2 Tryz.func22 rfl rfl fun B hB hN L => ?_
 delta G6 at h
 refine sr (SQ tt) ?_
 apply seq
 refine sr (SQ tt) ?_
 apply AWp.cond rfl<;>intro hg1
 ·have h:=A4 hg1 h
  refine sr (SQ tt) ?_
  apply ret
  apply B3
  obtain rfl:=oi h
  exact rt (kp [(4,_)] [] hB rfl rfl (by rfl)) [(bo false)] (rT rN) rfl
 ·have h:=A5 hg1 h
  apply AWp.skip
  apply A0
  apply seq
  refine sr (SQ tt) ?_
  apply block
  obtain⟨x59,hx60,h⟩:=bindS h
  refine lg (F8 a0 a1) (fun s2:Int=>([(2,(pt 1002)),(3,(pt 1003)),(80,(i6 (a0.fPath.length:Int))),(81,(i6 s2))]:EL)) (fun s2:Int=>([(1002,bd 35 (B9 a0)),(1003,bd 35 (B9 a1))]:OL)) (fun(x:(Unit)⊕(Unit)) e E' O'=>match x with | (.inl _p)=>e = .ret∧Mat B E' O' ([(4,(bo false))]:EL) ([]:OL) | (.inr _p)=>e = .exit 0∧Mat B E' O' ([(2,(pt 1002)),(3,(pt 1003))]:EL) ([(1002,bd 35 (B9 a0)),(1003,bd 35 (B9 a1))]:OL)) hx60 (mp [] _ _ hB) (fun s2 y h => ?_) (fun e E' O' hR => ?_)
  ·unfold F8 at h
   refine sr (SQ tt) ?_
   apply seq
   apply AWp.cond rfl<;>intro hg41
   ·have h:=A4 hg41 h
    apply AWp.skip
    apply A0
    apply seq
    apply block
    refine sr (SQ tt) ?_
    apply seq
    refine AWp.cut h (fun m50:Bool=>([(2,(pt 1002)),(3,(pt 1003)),(80,(i6 (a0.fPath.length:Int))),(81,(i6 s2)),(112,(bo m50))]:EL)) (fun m50:Bool=>([(1002,bd 35 (B9 a0)),(1003,bd 35 (B9 a1))]:OL)) (fun m50 h E' O' hmat => ?_) (fun j51 hjj51 h => ?_)
    ·apply A0
     refine ghost hmat ?_
     apply AWp.cond rfl<;>intro hg52
     ·have h:=A4 hg52 h
      refine sr (SQ tt) ?_
      apply ret
      apply D4
      apply B3
      obtain rfl:=oi h
      exact⟨(fun hc=>by cases hc),rfl,(mp [] _ _ hB)⟩
     ·have h:=A5 hg52 h
      apply AWp.skip
      apply D7
      apply A0
      refine rg (SQ tt) ?_
      obtain rfl:=oi h
      exact⟨rfl,(mp [] _ _ hB)⟩
    ·obtain⟨x53,hx53,h⟩:=bindS h
     obtain⟨x54,hx54,h⟩:=bindS h
     rcases bft (x53.fSet != x54.fSet) with hg55 | hg55
     ·have h:=A4 hg55 h
      refine drS (SQ (fa hx53 (fa hx54 (fa hg55 tt)))) ?_
      exact hjj51 _ h _ _ (mp [] _ _ hB)
     ·have h:=A5 hg55 h
      obtain⟨x56,hx56,h⟩:=bindS h
      obtain⟨x57,hx57,h⟩:=bindS h
      obtain⟨r58,hr58,h⟩:=bindS h
      refine drS (SQ (fa hx53 (fa hx54 (fa hg55 (fa hx56 (fa hx57 (fa (cl [] (A5w x56.fASNs x57.fASNs r58 hr58)) tt))))))) ?_
      exact hjj51 _ h _ _ (mp [] _ _ hB)
   ·have h:=A5 hg41 h
    apply AWp.exit
    apply D8
    obtain rfl:=oi h
    exact⟨(fun hc=>by cases hc),rfl,(mp [] _ _ hB)⟩
  ·rcases x59 with _ | _
   ·obtain⟨rfl,hmat⟩:=hR
    apply D4
    apply B3
    obtain rfl:=oi h
    exact rt (Mat.trans hmat (mp [] [(4,(bo false))] [] hB)) [(bo false)] (rT rN) rfl
   ·obtain⟨rfl,hmat⟩:=hR
    apply C3
    apply A0
    refine ghost hmat ?_
    apply seq
    refine sr (SQ tt) ?_
    apply block
    obtain⟨x76,hx77,h⟩:=bindS h
    refine lg (H5 a0 a1) (fun s61:Int=>([(2,(pt 1002)),(3,(pt 1003)),(116,(i6 (a0.fCommunities.length:Int))),(117,(i6 s61))]:EL)) (fun s61:Int=>([(1002,bd 35 (B9 a0)),(1003,bd 35 (B9 a1))]:OL)) (fun(x:(Unit)⊕(Unit)) e E' O'=>match x with | (.inl _p)=>e = .ret∧Mat B E' O' ([(4,(bo false))]:EL) ([]:OL) | (.inr _p)=>e = .exit 2∧Mat B E' O' ([(2,(pt 1002)),(3,(pt 1003))]:EL) ([(1002,bd 35 (B9 a0)),(1003,bd 35 (B9 a1))]:OL)) hx77 (mp [] _ _ hB) (fun s61 y h => ?_) (fun e E' O' hR => ?_)
    ·unfold H5 at h
     refine sr (SQ tt) ?_
     apply seq
     apply AWp.cond rfl<;>intro hg72
     ·have h:=A4 hg72 h
      apply AWp.skip
      apply A0
      apply seq
      apply block
      refine sr (SQ tt) ?_
      obtain⟨_,hx73,h⟩:=bindS h
      obtain⟨_,hx74,h⟩:=bindS h
      refine sdS (SQ (fa hx73 (fa hx74 tt))) ?_
      apply AWp.cond rfl<;>intro hg75
      ·have h:=A4 hg75 h
       refine sr (SQ tt) ?_
       apply ret
       apply D4
       apply B3
       obtain rfl:=oi h
       exact⟨(fun hc=>by cases hc),rfl,(mp [] _ _ hB)⟩
      ·have h:=A5 hg75 h
       apply AWp.skip
       apply D7
       apply A0
       refine rg (SQ tt) ?_
       obtain rfl:=oi h
       exact⟨rfl,(mp [] _ _ hB)⟩
     ·have h:=A5 hg72 h
      apply AWp.exit
      apply D8
      obtain rfl:=oi h
      exact⟨(fun hc=>by cases hc),rfl,(mp [] _ _ hB)⟩
    ·rcases x76 with _ | _
     ·obtain⟨rfl,hmat⟩:=hR
      apply D4
      apply B3
      obtain rfl:=oi h
      exact rt (Mat.trans hmat (mp [] [(4,(bo false))] [] hB)) [(bo false)] (rT rN) rfl
     ·obtain⟨rfl,hmat⟩:=hR
      apply C3
      apply A0
      refine ghost hmat ?_
      apply seq
      refine sr (SQ tt) ?_
      apply block
      obtain⟨x93,hx94,h⟩:=bindS h
      refine lg (H6 a0 a1) (fun s78:Int=>([(2,(pt 1002)),(3,(pt 1003)),(134,(i6 (a0.fLarge.length:Int))),(135,(i6 s78))]:EL)) (fun s78:Int=>([(1002,bd 35 (B9 a0)),(1003,bd 35 (B9 a1))]:OL)) (fun(x:(Unit)⊕(Unit)) e E' O'=>match x with | (.inl _p)=>e = .ret∧Mat B E' O' ([(4,(bo false))]:EL) ([]:OL) | (.inr _p)=>e = .exit 4∧Mat B E' O' ([(2,(pt 1002)),(3,(pt 1003))]:EL) ([(1002,bd 35 (B9 a0)),(1003,bd 35 (B9 a1))]:OL)) hx94 (mp [] _ _ hB) (fun s78 y h => ?_) (fun e E' O' hR => ?_)
      ·unfold H6 at h
       refine sr (SQ tt) ?_
       apply seq
       apply AWp.cond rfl<;>intro hg89
       ·have h:=A4 hg89 h
        apply AWp.skip
        apply A0
        apply seq
        apply block
        refine sr (SQ tt) ?_
        obtain⟨_,hx90,h⟩:=bindS h
        obtain⟨_,hx91,h⟩:=bindS h
        refine sdS (SQ (fa hx90 (fa hx91 tt))) ?_
        apply AWp.cond rfl<;>intro hg92
        ·have h:=A4 hg92 h
         refine sr (SQ tt) ?_
         apply ret
         apply D4
         apply B3
         obtain rfl:=oi h
         exact⟨(fun hc=>by cases hc),rfl,(mp [] _ _ hB)⟩
        ·have h:=A5 hg92 h
         apply AWp.skip
         apply D7
         apply A0
         refine rg (SQ tt) ?_
         obtain rfl:=oi h
         exact⟨rfl,(mp [] _ _ hB)⟩
       ·have h:=A5 hg89 h
        apply AWp.exit
        apply D8
        obtain rfl:=oi h
        exact⟨(fun hc=>by cases hc),rfl,(mp [] _ _ hB)⟩
      ·rcases x93 with _ | _
       ·obtain⟨rfl,hmat⟩:=hR
        apply D4
        apply B3
        obtain rfl:=oi h
        exact rt (Mat.trans hmat (mp [] [(4,(bo false))] [] hB)) [(bo false)] (rT rN) rfl
       ·obtain⟨rfl,hmat⟩:=hR
        apply C3
        apply A0
        refine ghost hmat ?_
        apply seq
        refine sr (SQ tt) ?_
        apply block
        obtain⟨x164,hx165,h⟩:=bindS h
        refine lg (H7 a0 a1) (fun s95:Int=>([(2,(pt 1002)),(3,(pt 1003)),(152,(i6 (a0.fOther.length:Int))),(153,(i6 s95))]:EL)) (fun s95:Int=>([(1002,bd 35 (B9 a0)),(1003,bd 35 (B9 a1))]:OL)) (fun(x:(Unit)⊕(Unit)) e E' O'=>match x with | (.inl _p)=>e = .ret∧Mat B E' O' ([(4,(bo false))]:EL) ([]:OL) | (.inr _p)=>e = .exit 6∧Mat B E' O' ([]:EL) ([]:OL)) hx165 (mp [] _ _ hB) (fun s95 y h => ?_) (fun e E' O' hR => ?_)
        ·unfold H7 at h
         refine sr (SQ tt) ?_
         apply seq
         apply AWp.cond rfl<;>intro hg142
         ·have h:=A4 hg142 h
          apply AWp.skip
          apply A0
          apply seq
          apply block
          refine sr (SQ tt) ?_
          apply seq
          refine AWp.cut h (fun m153:Bool=>([(2,(pt 1002)),(3,(pt 1003)),(152,(i6 (a0.fOther.length:Int))),(153,(i6 s95)),(200,(bo m153))]:EL)) (fun m153:Bool=>([(1002,bd 35 (B9 a0)),(1003,bd 35 (B9 a1))]:OL)) (fun m153 h E' O' hmat => ?_) (fun j154 hjj154 h => ?_)
          ·apply A0
           refine ghost hmat ?_
           apply AWp.cond rfl<;>intro hg155
           ·have h:=A4 hg155 h
            refine sr (SQ tt) ?_
            apply ret
            apply D4
            apply B3
            obtain rfl:=oi h
            exact⟨(fun hc=>by cases hc),rfl,(mp [] _ _ hB)⟩
           ·have h:=A5 hg155 h
            apply AWp.skip
            apply D7
            apply A0
            refine rg (SQ tt) ?_
            obtain rfl:=oi h
            exact⟨rfl,(mp [] _ _ hB)⟩
          ·obtain⟨x156,hx156,h⟩:=bindS h
           obtain⟨x157,hx157,h⟩:=bindS h
           rcases bft (x156.fFlags != x157.fFlags) with hg158 | hg158
           ·have h:=A4 hg158 h
            refine drS (SQ (fa hx156 (fa hx157 (fa hg158 tt)))) ?_
            exact hjj154 _ h _ _ (mp [] _ _ hB)
           ·have h:=A5 hg158 h
            obtain⟨x159,hx159,h⟩:=bindS h
            obtain⟨x160,hx160,h⟩:=bindS h
            rcases bft (x159.fType != x160.fType) with hg161 | hg161
            ·have h:=A4 hg161 h
             refine drS (SQ (fa hx156 (fa hx157 (fa hg158 (fa hx159 (fa hx160 (fa hg161 tt))))))) ?_
             exact hjj154 _ h _ _ (mp [] _ _ hB)
            ·have h:=A5 hg161 h
             obtain⟨x162,hx162,h⟩:=bindS h
             obtain⟨x163,hx163,h⟩:=bindS h
             apply dr (c (fo 1002 10 [8] hN underlying35 10 tyS33 (q 2)) rfl (c (la hN 35 tyS33 (q 156)) rfl (c (mv hN (q 8)) rfl (c (indexD underlying33 tyS69 (E9 hx156).1 (Q3 A7 (E9 hx156).2) (L rfl) (q 157) (q 158)) rfl (c (fieldD underlying69 (by rfl) (o:=0) (by rfl) tyS3 (by decide) (by rfl) (by rfl) (L rfl) (q 159)) rfl (c (loadD tyS3 (by rfl) (by rfl) (L rfl) (q 160)) rfl (c (fo 1003 10 [8] hN underlying35 10 tyS33 (q 3)) rfl (c (la hN 35 tyS33 (q 162)) rfl (c (mv hN (q 8)) rfl (c (indexD underlying33 tyS69 (E9 hx157).1 (Q3 A7 (E9 hx157).2) (L rfl) (q 163) (q 164)) rfl (c (fieldD underlying69 (by rfl) (o:=0) (by rfl) tyS3 (by decide) (by rfl) (by rfl) (L rfl) (q 165)) rfl (c (loadD tyS3 (by rfl) (by rfl) (L rfl) (q 166)) rfl (c (neqI (L rfl) (q 161) (q 167)) rfl (c (OpJ.val (v':=.d (.bool false)) (by rw [hg158]<;>rfl) (mv hN (q 168))) rfl (c (gd 169 (fo 1002 10 [8] hN underlying35 10 tyS33 (q 2))) rfl (c (gd 169 (la hN 35 tyS33 (q 170))) rfl (c (gd 169 (mv hN (q 8))) rfl (c (gd 169 (indexD underlying33 tyS69 (E9 hx159).1 (Q3 A7 (E9 hx159).2) (L rfl) (q 171) (q 172))) rfl (c (gd 169 (fieldD underlying69 (by rfl) (o:=1) (by rfl) tyS3 (by decide) (by rfl) (by rfl) (L rfl) (q 173))) rfl (c (gd 169 (loadD tyS3 (by rfl) (by rfl) (L rfl) (q 174))) rfl (c (gd 169 (fo 1003 10 [8] hN underlying35 10 tyS33 (q 3))) rfl (c (gd 169 (la hN 35 tyS33 (q 176))) rfl (c (gd 169 (mv hN (q 8))) rfl (c (gd 169 (indexD underlying33 tyS69 (E9 hx160).1 (Q3 A7 (E9 hx160).2) (L rfl) (q 177) (q 178))) rfl (c (gd 169 (fieldD underlying69 (by rfl) (o:=1) (by rfl) tyS3 (by decide) (by rfl) (by rfl) (L rfl) (q 179))) rfl (c (gd 169 (loadD tyS3 (by rfl) (by rfl) (L rfl) (q 180))) rfl (c (gd 169 (neqI (L rfl) (q 175) (q 181))) rfl (c (pickF (L rfl) (q 169) (q 182)) rfl (c (OpJ.val (v':=.d (.bool false)) (by rw [hg161]<;>rfl) (mv hN (q 183))) rfl (c (gd 184 (fo 1002 10 [8] hN underlying35 10 tyS33 (q 2))) rfl (c (gd 184 (la hN 35 tyS33 (q 185))) rfl (c (gd 184 (mv hN (q 8))) rfl (c (gd 184 (indexD underlying33 tyS69 (E9 hx162).1 (Q3 A7 (E9 hx162).2) (L rfl) (q 186) (q 187))) rfl (c (gd 184 (fieldD underlying69 (by rfl) (o:=2) (by rfl) tyS67 (by decide) (by rfl) (by rfl) (L rfl) (q 188))) rfl (c (gd 184 (loadD tyS67 (by rfl) (by rfl) (L rfl) (q 189))) rfl (cg (gd 184 (OpJ.bytesStr (xs:=x162.fData) tyU67 underlying5 underlying9 (L rfl) (q 190))) rfl (c (gd 184 (fo 1003 10 [8] hN underlying35 10 tyS33 (q 3))) rfl (c (gd 184 (la hN 35 tyS33 (q 192))) rfl (c (gd 184 (mv hN (q 8))) rfl (c (gd 184 (indexD underlying33 tyS69 (E9 hx163).1 (Q3 A7 (E9 hx163).2) (L rfl) (q 193) (q 194))) rfl (c (gd 184 (fieldD underlying69 (by rfl) (o:=2) (by rfl) tyS67 (by decide) (by rfl) (by rfl) (L rfl) (q 195))) rfl (c (gd 184 (loadD tyS67 (by rfl) (by rfl) (L rfl) (q 196))) rfl (cg (gd 184 (OpJ.bytesStr (xs:=x163.fData) tyU67 underlying5 underlying9 (L rfl) (q 197))) rfl (cg (gd 184 (OpJ.neqS (L rfl) (q 191) (q 198))) rfl (c (pickF (L rfl) (q 184) (q 199)) rfl cn))))))))))))))))))))))))))))))))))))))))))))) (by kernel_rfl) (by kernel_rfl)
             exact hjj154 _ h _ _ (mp [] _ _ hB)
         ·have h:=A5 hg142 h
          apply AWp.exit
          apply D8
          obtain rfl:=oi h
          exact⟨(fun hc=>by cases hc),rfl,(mp [] _ _ hB)⟩
        ·rcases x164 with _ | _
         ·obtain⟨rfl,hmat⟩:=hR
          apply D4
          apply B3
          obtain rfl:=oi h
          exact rt (Mat.trans hmat (mp [] [(4,(bo false))] [] hB)) [(bo false)] (rT rN) rfl
         ·obtain⟨rfl,hmat⟩:=hR
          apply C3
          apply A0
          refine ghost hmat ?_
          refine sr (SQ tt) ?_
          apply ret
          obtain rfl:=oi h
          exact rt (kp [(4,_)] [] hB rfl rfl (by rfl)) [(bo true)] (rT rN) rfl
def M7 (a0:C8) (s1:Int×(List B2)):Option ((((List B2)))⊕(Int×(List B2))) :=
 (if (decide (s1.1<(a0.fPath.length:Int)))=true then
 (idx a0.fPath s1.1).bind fun x13 =>
 chk (decide (x13.fASNs.length≤LIM)) <|
 chk (decide ((s1.2++[(B2.mk x13.fSet x13.fASNs)]).length≤LIM)) <|
 some (.inr ((w64 (s1.1+1)),(s1.2++[(B2.mk x13.fSet x13.fASNs)])))
 else
 some (.inl s1.2))
def Q7 (a0:C8) (s20:Int×(List A1)):Option ((((List A1)))⊕(Int×(List A1))) :=
 (if (decide (s20.1<(a0.fOther.length:Int)))=true then
 (idx a0.fOther s20.1).bind fun x32 =>
 chk (decide (x32.fData.length≤LIM)) <|
 chk (decide ((s20.2++[(A1.mk x32.fFlags x32.fType x32.fData)]).length≤LIM)) <|
 some (.inr ((w64 (s20.1+1)),(s20.2++[(A1.mk x32.fFlags x32.fType x32.fData)])))
 else
 some (.inl s20.2))
def N1 (a0:C8):Option (C8) :=
 (loop (M7 a0) (0,([]:List B2))).bind fun p11 =>
 chk (decide (a0.fCommunities.length≤LIM)) <|
 chk (decide (a0.fLarge.length≤LIM)) <|
 (loop (Q7 a0) (0,([]:List A1))).bind fun p30 =>
 some (C8.mk a0.fOrigin p11 a0.fNext a0.fMED a0.fPref a0.fOTC a0.fCommunities a0.fLarge p30)
theorem A5j (a0:C8) (r:C8) (h:N1 a0=some r):AC Tryz.prog 37 [(.d (B9 a0))] [] (.d (B9 r)) []:=by
 refine ac2 Tryz.func37 rfl rfl fun B hB hN L => ?_
 delta N1 at h
 refine sr (SQ tt) ?_
 refine sr (SQ tt) ?_
 refine sr (SQ tt) ?_
 apply seq
 refine sr (SQ tt) ?_
 apply block
 obtain⟨p11,hx17,h⟩:=bindS h
 refine lg (M7 a0) (fun s1:Int×(List B2)=>([(1,(pt 1001)),(2,(pt 1002)),(3,(pt 1003)),(12,(B5 a0.fPath)),(13,(i6 (a0.fPath.length:Int))),(14,(i6 s1.1))]:EL)) (fun s1:Int×(List B2)=>([(1001,bd 35 (B9 a0)),(1002,some (.box 35 (.st [(i6 0),.nils,(.d (.st [(.bool false),(.int .u64 0),(.int .u64 0)])),(i6 0),(i6 0),(i6 0),.nils,.nils,.nils]))),(1003,some (.box 35 (.st [(i6 a0.fOrigin),(.sref 13031 2 0 s1.2.length),(.d (D2 a0.fNext)),(i6 a0.fMED),(i6 a0.fPref),(i6 a0.fOTC),(B4 a0.fCommunities),(D3 a0.fLarge),.nils]))),(13031,some (I4 s1.2))]:OL)) (fun(p11:((List B2))) e E' O'=>e = .exit 0∧Mat B E' O' ([(1,(pt 1001)),(2,(pt 1002)),(3,(pt 1003))]:EL) ([(1001,bd 35 (B9 a0)),(1002,some (.box 35 (.st [(i6 0),.nils,(.d (.st [(.bool false),(.int .u64 0),(.int .u64 0)])),(i6 0),(i6 0),(i6 0),.nils,.nils,.nils]))),(1003,some (.box 35 (.st [(i6 a0.fOrigin),(.sref 13031 2 0 p11.length),(.d (D2 a0.fNext)),(i6 a0.fMED),(i6 a0.fPref),(i6 a0.fOTC),(B4 a0.fCommunities),(D3 a0.fLarge),.nils]))),(13031,some (I4 p11))]:OL)) hx17 (Mat.trans (Mat.beginP (n:=13031) (e:=66) (sz:=2) (Ts:=[]) (Bs:=[(1003,some (.box 35 (.st [(i6 a0.fOrigin),(.sref 13031 2 0 0),(.d (D2 a0.fNext)),(i6 a0.fMED),(i6 a0.fPref),(i6 a0.fOTC),(B4 a0.fCommunities),(D3 a0.fLarge),.nils])))]) hB (by decide) (by rfl) (by decide) TwT.nil (TwB.cons (x:=(.st [(i6 a0.fOrigin),.nils,(.d (D2 a0.fNext)),(i6 a0.fMED),(i6 a0.fPref),(i6 a0.fOTC),(B4 a0.fCommunities),(D3 a0.fLarge),.nils])) (by rfl) (Tw.st (TwL.cons (Tw.same _) (TwL.cons (Tw.leaf ⟨rfl,rfl⟩) (TwL.cons (Tw.same _) (TwL.cons (Tw.same _) (TwL.cons (Tw.same _) (TwL.cons (Tw.same _) (TwL.cons (Tw.same _) (TwL.cons (Tw.same _) (TwL.cons (Tw.same _) TwL.nil)))))))))) TwB.nil)) (mp [] _ _ hB)) (fun s1 y h => ?_) (fun e E' O' hR => ?_)
 ·unfold M7 at h
  refine sr (SQ tt) ?_
  apply seq
  apply AWp.cond rfl<;>intro hg12
  ·have h:=A4 hg12 h
   apply AWp.skip
   apply A0
   apply seq
   apply block
   obtain⟨x13,hx13,h⟩:=bindS h
   refine sr (SQ (fa hx13 tt)) ?_
   obtain⟨hc14,h⟩:=B6 h
   obtain⟨hc15,h⟩:=B6 h
   apply dr (c (fo 1003 1 [1] hN underlying35 1 tyS30 (q 3)) rfl (c (lb hN 35 _ (.sref 13031 2 0 s1.2.length) tyS30 (At.st1 (f:=(.sref 13031 2 0 s1.2.length)) (by rfl) (by rfl) (At.here _) (by first | rfl | omega)) (q 18)) rfl (c (fo 1005 0 [0] hN underlying66 0 tyS4 (q 5)) rfl (c (la hN 66 tyS4 (q 20)) rfl (c (fo 1005 1 [1] hN underlying66 1 tyS23 (q 5)) rfl (c (la hN 66 tyS23 (q 22)) rfl (cg (OpJ.frz (OpJ.appendN hB underlying23 tyE3 (nm:=1024) (by decide) (ys:=x13.fASNs.map (eI .i64)) (len:=x13.fASNs.length) (by simp) (A45 (f:=(eI .i64)) (fun _=>rfl)) (by rw [List.length_map];exact Y8 hc14 (by decide)) (by rw [List.length_map];exact A2c hc14) (L rfl) Opd.nils (q 23)) (by simp)) rfl (c (OpJ.coe (v:=(.st [(bo x13.fSet),(qI_1 x13.fASNs)])) (y:=(.st [(.bool x13.fSet),(.list 1 (x13.fASNs.map (eI .i64)))])) (Co.st (CoL.cons (Co.d _) (CoL.cons (Co.d _) CoL.nil))) rfl (OpJ.build (places:=[(0,1),(1,1)]) ⟨underlying66,fun w=>by kernel_rfl⟩ tyZS66 (Opds.cons (q 21) (Opds.cons (q 24) Opds.nil)) (by kernel_rfl) (r:=(.st [(bo x13.fSet),(qI_1 x13.fASNs)])) (by rfl) (L rfl))) rfl (c (buildSlice underlying30 tyS66 tyZD66 (by rfl) (by decide) (by decide) (Opds.cons (q 25) Opds.nil) (by kernel_rfl) (es:=([(.st [(.bool x13.fSet),(.list 1 (x13.fASNs.map (eI .i64)))])]:List D)) (by rfl) (by rfl) (by kernel_rfl) (by simp) (L rfl)) rfl (cg (apd hB underlying30 tyE66 1027 C7 s1.2 [(B2.mk x13.fSet x13.fASNs)] hc15 (L rfl) (q 19) (q 26)) rfl (c (fo 1003 1 [1] hN underlying35 1 tyS30 (q 3)) rfl (cg (OpJ.storeB (c':=(.st [(i6 a0.fOrigin),(.sref 1027 2 0 ((s1.2++[(B2.mk x13.fSet x13.fASNs)]).length)),(.d (D2 a0.fNext)),(i6 a0.fMED),(i6 a0.fPref),(i6 a0.fOTC),(B4 a0.fCommunities),(D3 a0.fLarge),.nils])) tyS30 (SetAt.st1 (f:=(.sref 13031 2 0 s1.2.length)) (by rfl) (by rfl) (SetAt.here _ _) (by rfl) (by rfl) (by first | rfl | omega)) (by rfl) (by rfl) (by simp) rfl (q 28) (q 27)) rfl cn)))))))))))) (by kernel_rfl) (by kernel_rfl)
   apply D7
   apply A0
   refine rg (SQ tt) ?_
   obtain rfl:=oi h
   exact⟨rfl,(mp [(13031,1027)] _ _ hB)⟩
  ·have h:=A5 hg12 h
   apply AWp.exit
   apply D8
   obtain rfl:=oi h
   exact⟨(fun hc=>by cases hc),rfl,(mp [] _ _ hB)⟩
 ·obtain⟨rfl,hmat⟩:=hR
  apply C3
  apply A0
  refine ghost hmat ?_
  obtain⟨hc18,h⟩:=B6 h
  refine sr (SQ (fa hc18 tt)) ?_
  obtain⟨hc19,h⟩:=B6 h
  refine sr (SQ (fa hc19 tt)) ?_
  apply seq
  refine sr (SQ tt) ?_
  apply block
  obtain⟨p30,hx36,h⟩:=bindS h
  refine lg (Q7 a0) (fun s20:Int×(List A1)=>([(2,(pt 1002)),(3,(pt 1003)),(39,(B0 a0.fOther)),(40,(i6 (a0.fOther.length:Int))),(41,(i6 s20.1))]:EL)) (fun s20:Int×(List A1)=>([(1002,some (.box 35 (.st [(i6 0),.nils,(.d (.st [(.bool false),(.int .u64 0),(.int .u64 0)])),(i6 0),(i6 0),(i6 0),.nils,.nils,.nils]))),(1003,some (.box 35 (.st [(i6 a0.fOrigin),(.sref 13031 2 0 p11.length),(.d (D2 a0.fNext)),(i6 a0.fMED),(i6 a0.fPref),(i6 a0.fOTC),(.sref 1032 2 0 a0.fCommunities.length),(.sref 1036 3 0 a0.fLarge.length),(.sref 13038 3 0 s20.2.length)]))),(1032,some (A2m a0.fCommunities)),(1036,some (A4c a0.fLarge)),(13031,some (I4 p11)),(13038,some (C9 s20.2))]:OL)) (fun(p30:((List A1))) e E' O'=>e = .exit 2∧Mat B E' O' ([(2,(pt 1002)),(3,(pt 1003))]:EL) ([(1002,some (.box 35 (.st [(i6 0),.nils,(.d (.st [(.bool false),(.int .u64 0),(.int .u64 0)])),(i6 0),(i6 0),(i6 0),.nils,.nils,.nils]))),(1003,some (.box 35 (.st [(i6 a0.fOrigin),(.sref 13031 2 0 p11.length),(.d (D2 a0.fNext)),(i6 a0.fMED),(i6 a0.fPref),(i6 a0.fOTC),(.sref 1032 2 0 a0.fCommunities.length),(.sref 1036 3 0 a0.fLarge.length),(.sref 13038 3 0 p30.length)]))),(1032,some (A2m a0.fCommunities)),(1036,some (A4c a0.fLarge)),(13031,some (I4 p11)),(13038,some (C9 p30))]:OL)) hx36 (Mat.trans (Mat.beginP (n:=13038) (e:=69) (sz:=3) (Ts:=[]) (Bs:=[(1003,some (.box 35 (.st [(i6 a0.fOrigin),(.sref 13031 2 0 p11.length),(.d (D2 a0.fNext)),(i6 a0.fMED),(i6 a0.fPref),(i6 a0.fOTC),(.sref 1032 2 0 a0.fCommunities.length),(.sref 1036 3 0 a0.fLarge.length),(.sref 13038 3 0 0)])))]) hB (by decide) (by rfl) (by decide) TwT.nil (TwB.cons (x:=(.st [(i6 a0.fOrigin),(.sref 13031 2 0 p11.length),(.d (D2 a0.fNext)),(i6 a0.fMED),(i6 a0.fPref),(i6 a0.fOTC),(.sref 1032 2 0 a0.fCommunities.length),(.sref 1036 3 0 a0.fLarge.length),.nils])) (by rfl) (Tw.st (TwL.cons (Tw.same _) (TwL.cons (Tw.same _) (TwL.cons (Tw.same _) (TwL.cons (Tw.same _) (TwL.cons (Tw.same _) (TwL.cons (Tw.same _) (TwL.cons (Tw.same _) (TwL.cons (Tw.same _) (TwL.cons (Tw.leaf ⟨rfl,rfl⟩) TwL.nil)))))))))) TwB.nil)) (mp [] _ _ hB)) (fun s20 y h => ?_) (fun e E' O' hR => ?_)
  ·unfold Q7 at h
   refine sr (SQ tt) ?_
   apply seq
   apply AWp.cond rfl<;>intro hg31
   ·have h:=A4 hg31 h
    apply AWp.skip
    apply A0
    apply seq
    apply block
    obtain⟨x32,hx32,h⟩:=bindS h
    refine sr (SQ (fa hx32 tt)) ?_
    obtain⟨hc33,h⟩:=B6 h
    obtain⟨hc34,h⟩:=B6 h
    apply dr (c (fo 1003 10 [8] hN underlying35 10 tyS33 (q 3)) rfl (c (lb hN 35 _ (.sref 13038 3 0 s20.2.length) tyS33 (At.st1 (f:=(.sref 13038 3 0 s20.2.length)) (by rfl) (by rfl) (At.here _) (by first | rfl | omega)) (q 45)) rfl (c (fo 1007 0 [0] hN underlying69 0 tyS3 (q 7)) rfl (c (la hN 69 tyS3 (q 47)) rfl (c (fo 1007 1 [1] hN underlying69 1 tyS3 (q 7)) rfl (c (la hN 69 tyS3 (q 49)) rfl (c (fo 1007 2 [2] hN underlying69 2 tyS67 (q 7)) rfl (c (la hN 69 tyS67 (q 51)) rfl (cg (OpJ.frz (OpJ.appendN hB underlying67 tyE5 (nm:=1053) (by decide) (ys:=x32.fData.map (eI .u8)) (len:=x32.fData.length) (by simp) (A45 (f:=(eI .u8)) (fun _=>rfl)) (by rw [List.length_map];exact Y8 hc33 (by decide)) (by rw [List.length_map];exact A2c hc33) (L rfl) Opd.nils (q 52)) (by simp)) rfl (c (OpJ.coe (v:=(.st [(i6 x32.fFlags),(i6 x32.fType),(.d (.list 1 (x32.fData.map (eI .u8))))])) (y:=(.st [(.int .i64 x32.fFlags),(.int .i64 x32.fType),(.list 1 (x32.fData.map (eI .u8)))])) (Co.st (CoL.cons (Co.d _) (CoL.cons (Co.d _) (CoL.cons (Co.d _) CoL.nil)))) rfl (OpJ.build (places:=[(0,1),(1,1),(2,1)]) ⟨underlying69,fun w=>by kernel_rfl⟩ tyZS69 (Opds.cons (q 48) (Opds.cons (q 50) (Opds.cons (q 53) Opds.nil))) (by kernel_rfl) (r:=(.st [(i6 x32.fFlags),(i6 x32.fType),(.d (.list 1 (x32.fData.map (eI .u8))))])) (by rfl) (L rfl))) rfl (c (buildSlice underlying33 tyS69 tyZD69 (by rfl) (by decide) (by decide) (Opds.cons (q 54) Opds.nil) (by kernel_rfl) (es:=([(.st [(.int .i64 x32.fFlags),(.int .i64 x32.fType),(.list 1 (x32.fData.map (eI .u8)))])]:List D)) (by rfl) (by rfl) (by kernel_rfl) (by simp) (L rfl)) rfl (cg (apd hB underlying33 tyE69 1056 A7 s20.2 [(A1.mk x32.fFlags x32.fType x32.fData)] hc34 (L rfl) (q 46) (q 55)) rfl (c (fo 1003 10 [8] hN underlying35 10 tyS33 (q 3)) rfl (cg (OpJ.storeB (c':=(.st [(i6 a0.fOrigin),(.sref 13031 2 0 p11.length),(.d (D2 a0.fNext)),(i6 a0.fMED),(i6 a0.fPref),(i6 a0.fOTC),(.sref 1032 2 0 a0.fCommunities.length),(.sref 1036 3 0 a0.fLarge.length),(.sref 1056 3 0 ((s20.2++[(A1.mk x32.fFlags x32.fType x32.fData)]).length))])) tyS33 (SetAt.st1 (f:=(.sref 13038 3 0 s20.2.length)) (by rfl) (by rfl) (SetAt.here _ _) (by rfl) (by rfl) (by first | rfl | omega)) (by rfl) (by rfl) (by simp) rfl (q 57) (q 56)) rfl cn)))))))))))))) (by kernel_rfl) (by kernel_rfl)
    apply D7
    apply A0
    refine rg (SQ tt) ?_
    obtain rfl:=oi h
    exact⟨rfl,(mp [(13038,1056)] _ _ hB)⟩
   ·have h:=A5 hg31 h
    apply AWp.exit
    apply D8
    obtain rfl:=oi h
    exact⟨(fun hc=>by cases hc),rfl,(mp [] _ _ hB)⟩
  ·obtain⟨rfl,hmat⟩:=hR
   apply C3
   apply A0
   refine ghost hmat ?_
   refine sr (SQ tt) ?_
   apply ret
   obtain rfl:=oi h
   exact rt (Mat.trans (Mat.freezeP (n:=13031) (e:=66) (sz:=2) (es:=p11.map C7) (Ts:=[]) (Bs:=[(1002,some (.box 35 (.st [(i6 a0.fOrigin),(B5 p11),(.d (D2 a0.fNext)),(i6 a0.fMED),(i6 a0.fPref),(i6 a0.fOTC),(.sref 1032 2 0 a0.fCommunities.length),(.sref 1036 3 0 a0.fLarge.length),(.sref 13038 3 0 p30.length)])))]) (by rfl) TwT.nil (TwB.cons (x:=(.st [(i6 a0.fOrigin),(.sref 13031 2 0 p11.length),(.d (D2 a0.fNext)),(i6 a0.fMED),(i6 a0.fPref),(i6 a0.fOTC),(.sref 1032 2 0 a0.fCommunities.length),(.sref 1036 3 0 a0.fLarge.length),(.sref 13038 3 0 p30.length)])) (by rfl) (Tw.st (TwL.cons (Tw.same _) (TwL.cons (FrzL.all (by first | rfl | (simp;done) | (simp;omega) | omega)) (TwL.cons (Tw.same _) (TwL.cons (Tw.same _) (TwL.cons (Tw.same _) (TwL.cons (Tw.same _) (TwL.cons (Tw.same _) (TwL.cons (Tw.same _) (TwL.cons (Tw.same _) TwL.nil)))))))))) TwB.nil)) (Mat.trans (Mat.freezeP (n:=1032) (e:=98) (sz:=2) (es:=a0.fCommunities.map C0) (Ts:=[]) (Bs:=[(1002,some (.box 35 (.st [(i6 a0.fOrigin),(B5 p11),(.d (D2 a0.fNext)),(i6 a0.fMED),(i6 a0.fPref),(i6 a0.fOTC),(B4 a0.fCommunities),(.sref 1036 3 0 a0.fLarge.length),(.sref 13038 3 0 p30.length)])))]) (by rfl) TwT.nil (TwB.cons (x:=(.st [(i6 a0.fOrigin),(B5 p11),(.d (D2 a0.fNext)),(i6 a0.fMED),(i6 a0.fPref),(i6 a0.fOTC),(.sref 1032 2 0 a0.fCommunities.length),(.sref 1036 3 0 a0.fLarge.length),(.sref 13038 3 0 p30.length)])) (by rfl) (Tw.st (TwL.cons (Tw.same _) (TwL.cons (Tw.same _) (TwL.cons (Tw.same _) (TwL.cons (Tw.same _) (TwL.cons (Tw.same _) (TwL.cons (Tw.same _) (TwL.cons (FrzL.all (by first | rfl | (simp;done) | (simp;omega) | omega)) (TwL.cons (Tw.same _) (TwL.cons (Tw.same _) TwL.nil)))))))))) TwB.nil)) (Mat.trans (Mat.freezeP (n:=1036) (e:=100) (sz:=3) (es:=a0.fLarge.map D9) (Ts:=[]) (Bs:=[(1002,some (.box 35 (.st [(i6 a0.fOrigin),(B5 p11),(.d (D2 a0.fNext)),(i6 a0.fMED),(i6 a0.fPref),(i6 a0.fOTC),(B4 a0.fCommunities),(D3 a0.fLarge),(.sref 13038 3 0 p30.length)])))]) (by rfl) TwT.nil (TwB.cons (x:=(.st [(i6 a0.fOrigin),(B5 p11),(.d (D2 a0.fNext)),(i6 a0.fMED),(i6 a0.fPref),(i6 a0.fOTC),(B4 a0.fCommunities),(.sref 1036 3 0 a0.fLarge.length),(.sref 13038 3 0 p30.length)])) (by rfl) (Tw.st (TwL.cons (Tw.same _) (TwL.cons (Tw.same _) (TwL.cons (Tw.same _) (TwL.cons (Tw.same _) (TwL.cons (Tw.same _) (TwL.cons (Tw.same _) (TwL.cons (Tw.same _) (TwL.cons (FrzL.all (by first | rfl | (simp;done) | (simp;omega) | omega)) (TwL.cons (Tw.same _) TwL.nil)))))))))) TwB.nil)) (Mat.trans (Mat.freezeP (n:=13038) (e:=69) (sz:=3) (es:=p30.map A7) (Ts:=[]) (Bs:=[(1002,some (.box 35 (.st [(i6 a0.fOrigin),(B5 p11),(.d (D2 a0.fNext)),(i6 a0.fMED),(i6 a0.fPref),(i6 a0.fOTC),(B4 a0.fCommunities),(D3 a0.fLarge),(B0 p30)])))]) (by rfl) TwT.nil (TwB.cons (x:=(.st [(i6 a0.fOrigin),(B5 p11),(.d (D2 a0.fNext)),(i6 a0.fMED),(i6 a0.fPref),(i6 a0.fOTC),(B4 a0.fCommunities),(D3 a0.fLarge),(.sref 13038 3 0 p30.length)])) (by rfl) (Tw.st (TwL.cons (Tw.same _) (TwL.cons (Tw.same _) (TwL.cons (Tw.same _) (TwL.cons (Tw.same _) (TwL.cons (Tw.same _) (TwL.cons (Tw.same _) (TwL.cons (Tw.same _) (TwL.cons (Tw.same _) (TwL.cons (FrzL.all (by first | rfl | (simp;done) | (simp;omega) | omega)) TwL.nil)))))))))) TwB.nil)) (Mat.trans (Mat.coeP (Ts:=[]) (Bs:=[(1002,bd 35 (.st [(.int .i64 a0.fOrigin),(.list 2 (p11.map C7)),(D2 a0.fNext),(.int .i64 a0.fMED),(.int .i64 a0.fPref),(.int .i64 a0.fOTC),(.list 2 (a0.fCommunities.map C0)),(.list 3 (a0.fLarge.map D9)),(.list 3 (p30.map A7))]))]) TwT.nil (TwB.cons (x:=(.st [(i6 a0.fOrigin),(B5 p11),(.d (D2 a0.fNext)),(i6 a0.fMED),(i6 a0.fPref),(i6 a0.fOTC),(B4 a0.fCommunities),(D3 a0.fLarge),(B0 p30)])) (by rfl) (Tw.leaf ⟨_,(Co.st (CoL.cons (Co.d _) (CoL.cons (Co.d _) (CoL.cons (Co.d _) (CoL.cons (Co.d _) (CoL.cons (Co.d _) (CoL.cons (Co.d _) (CoL.cons (Co.d _) (CoL.cons (Co.d _) (CoL.cons (Co.d _) CoL.nil)))))))))),rfl⟩) TwB.nil)) (mp [] [(2,(pt 1002))] [(1002,bd 35 (.st [(.int .i64 a0.fOrigin),(.list 2 (p11.map C7)),(D2 a0.fNext),(.int .i64 a0.fMED),(.int .i64 a0.fPref),(.int .i64 a0.fOTC),(.list 2 (a0.fCommunities.map C0)),(.list 3 (a0.fLarge.map D9)),(.list 3 (p30.map A7))]))] hB)))))) [(.d (.st [(.int .i64 a0.fOrigin),(.list 2 (p11.map C7)),(D2 a0.fNext),(.int .i64 a0.fMED),(.int .i64 a0.fPref),(.int .i64 a0.fOTC),(.list 2 (a0.fCommunities.map C0)),(.list 3 (a0.fLarge.map D9)),(.list 3 (p30.map A7))]))] (Res.cell (c:=(.d (.st [(.int .i64 a0.fOrigin),(.list 2 (p11.map C7)),(D2 a0.fNext),(.int .i64 a0.fMED),(.int .i64 a0.fPref),(.int .i64 a0.fOTC),(.list 2 (a0.fCommunities.map C0)),(.list 3 (a0.fLarge.map D9)),(.list 3 (p30.map A7))]))) (by rfl) (by rfl) tyS35 (by rfl) (by rfl) (by rfl) rN) rfl
def P9 (a0:D0):Option (Bool) :=
 jn (fun m2:Bool =>
 some m2) (fun j3 =>
 (if a0.fV6=true then
 j3 true
 else
 j3 ((a0.fHi==0)&&(decide (a0.fLo<4294967296)))))
theorem I3 (a0:D0) (r:Bool) (h:P9 a0=some r):AC Tryz.prog 78 [(.d (D2 a0))] [] (.d (.bool r)) []:=by
 refine ac2 Tryz.func78 rfl rfl fun B hB hN L => ?_
 delta P9 at h
 refine sr (SQ tt) ?_
 apply seq
 refine AWp.cut h (fun m2:Bool=>([(2,(bo m2))]:EL)) (fun m2:Bool=>([]:OL)) (fun m2 h E' O' hmat => ?_) (fun j3 hjj3 h => ?_)
 ·apply A0
  refine ghost hmat ?_
  apply ret
  obtain rfl:=oi h
  exact rt (kp [(2,_)] [] hB rfl rfl (by rfl)) [(bo m2)] (rT rN) rfl
 ·rcases bft a0.fV6 with hg4 | hg4
  ·have h:=A4 hg4 h
   refine rg (SQ (fa hg4 tt)) ?_
   exact hjj3 _ h _ _ (mp [] _ _ hB)
  ·have h:=A5 hg4 h
   refine rg (SQ (fa hg4 tt)) ?_
   exact hjj3 _ h _ _ (mp [] _ _ hB)
def A2h (a0:D0):Option (Int) :=
 (if a0.fV6=true then
 some 128
 else
 some 32)
theorem A7s (a0:D0) (r:Int) (h:A2h a0=some r):AC Tryz.prog 99 [(.d (D2 a0))] [] (.d (.int .i64 r)) []:=by
 refine AC.of_code2 Tryz.func99 rfl rfl (Nat.le_of_ble_eq_true (by rfl)) fun B hB hN => ?_
 delta A2h at h
 refine sr (SQ tt) ?_
 apply seq
 refine sr (SQ tt) ?_
 apply AWp.cond rfl<;>intro hg1
 ·have h:=A4 hg1 h
  refine sr (SQ tt) ?_
  apply ret
  apply B3
  obtain rfl:=oi h
  exact rt (kp [(2,_)] [] hB rfl rfl (by rfl)) [(i6 128)] (rT rN) rfl
 ·have h:=A5 hg1 h
  apply AWp.skip
  apply A0
  refine sr (SQ tt) ?_
  apply ret
  obtain rfl:=oi h
  exact rt (kp [(2,_)] [] hB rfl rfl (by rfl)) [(i6 32)] (rT rN) rfl
def Z7 (a0:D0) (s6:Int×(List Int)):Option ((((List Int)))⊕(Int×(List Int))) :=
 (if (decide (0≤s6.1))=true then
 jn (fun m22:Int =>
 chk (decide ((s6.2++([(IntKind.u8.wrap (shrI .u64 m22 (IntKind.u64.wrap (8*(IntKind.u64.wrap (Int.tmod s6.1 8))))))]:List Int)).length≤LIM)) <|
 some (.inr ((w64 (s6.1-1)),(s6.2++([(IntKind.u8.wrap (shrI .u64 m22 (IntKind.u64.wrap (8*(IntKind.u64.wrap (Int.tmod s6.1 8))))))]:List Int))))) (fun j23 =>
 (if (decide (8≤s6.1))=true then
 j23 a0.fHi
 else
 j23 a0.fLo))
 else
 some (.inl s6.2))
def L3 (a0:D0):Option ((List Int)) :=
 (P9 a0).bind fun r1 =>
 (if (!r1)=true then
 some ([]:List Int)
 else
 jn (fun m4:Int =>
 (loop (Z7 a0) ((w64 (m4-1)),([]:List Int))).bind fun p19 =>
 some p19) (fun j5 =>
 (if a0.fV6=true then
 j5 16
 else
 j5 4)))
theorem A26 (a0:D0) (r:(List Int)) (h:L3 a0=some r):AC Tryz.prog 84 [(.d (D2 a0))] [] (.d (.list 1 (r.map (eI .u8)))) []:=by
 refine ac2 Tryz.func84 rfl rfl fun B hB hN L => ?_
 delta L3 at h
 refine sr (SQ tt) ?_
 apply seq
 obtain⟨r1,hr1,h⟩:=bindS h
 refine sr (SQ (fa (cl [] (I3 a0 r1 hr1)) tt)) ?_
 apply AWp.cond rfl<;>intro hg2
 ·have h:=A4 hg2 h
  refine sr (SQ tt) ?_
  apply ret
  apply B3
  obtain rfl:=oi h
  exact rt (Mat.trans (Mat.coeP (Ts:=[(2,(.d (.list 1 (([]:List Int).map (eI .u8)))))]) (Bs:=[]) (TwT.cons (x:=.nils) (by rfl) (Tw.leaf ⟨_,(Co.nils 1),rfl⟩) TwT.nil) TwB.nil) (mp [] [(2,(.d (.list 1 (([]:List Int).map (eI .u8)))))] [] hB)) [(.d (.list 1 (([]:List Int).map (eI .u8))))] (rT rN) rfl
 ·have h:=A5 hg2 h
  apply AWp.skip
  apply A0
  refine sr (SQ tt) ?_
  apply seq
  refine sr (SQ tt) ?_
  refine gh [(1,_),(3,_),(11,_)] [(1001,some _)] hB rfl rfl (by rfl) ?_
  refine AWp.cut h (fun m4:Int=>([(1,(pt 1001)),(3,(i6 m4))]:EL)) (fun m4:Int=>([(1001,bd 27 (D2 a0))]:OL)) (fun m4 h E' O' hmat => ?_) (fun j5 hjj5 h => ?_)
  ·apply A0
   refine ghost hmat ?_
   refine sr (SQ tt) ?_
   apply seq
   refine sr (SQ tt) ?_
   apply block
   obtain⟨p19,hx27,h⟩:=bindS h
   refine lg (Z7 a0) (fun s6:Int×(List Int)=>([(1,(pt 1001)),(4,(.sref 3004 1 0 s6.2.length)),(5,(i6 s6.1))]:EL)) (fun s6:Int×(List Int)=>([(1001,bd 27 (D2 a0)),(3004,some (.row 5 1 (s6.2.map (eI .u8))))]:OL)) (fun(p19:((List Int))) e E' O'=>e = .exit 0∧Mat B E' O' ([(4,(.sref 3004 1 0 p19.length))]:EL) ([(3004,some (.row 5 1 (p19.map (eI .u8))))]:OL)) hx27 (Mat.trans (Mat.beginP (n:=3004) (e:=5) (sz:=1) (Ts:=[(4,(.sref 3004 1 0 0))]) (Bs:=[]) hB (by decide) (by rfl) (by decide) (TwT.cons (x:=.nils) (by rfl) (Tw.leaf ⟨rfl,rfl⟩) TwT.nil) TwB.nil) (mp [] _ _ hB)) (fun s6 y h => ?_) (fun e E' O' hR => ?_)
   ·unfold Z7 at h
    apply seq
    refine sr (SQ tt) ?_
    apply AWp.cond rfl<;>intro hg20
    ·have h:=A4 hg20 h
     apply AWp.skip
     apply A0
     apply seq
     apply block
     refine sr (SQ tt) ?_
     apply seq
     refine sr (SQ tt) ?_
     refine gh [(1,_),(4,_),(5,_),(6,_),(21,_)] [(1001,some _),(3004,some _)] hB rfl rfl (by rfl) ?_
     refine AWp.cut h (fun m22:Int=>([(1,(pt 1001)),(4,(.sref 3004 1 0 s6.2.length)),(5,(i6 s6.1)),(6,(.d (.int .u64 m22)))]:EL)) (fun m22:Int=>([(1001,bd 27 (D2 a0)),(3004,some (.row 5 1 (s6.2.map (eI .u8))))]:OL)) (fun m22 h E' O' hmat => ?_) (fun j23 hjj23 h => ?_)
     ·apply A0
      refine ghost hmat ?_
      obtain⟨hc24,h⟩:=B6 h
      refine rg (SQ (fa hc24 tt)) ?_
      apply D7
      apply A0
      refine rg (SQ tt) ?_
      obtain rfl:=oi h
      exact⟨rfl,(mp [(3004,1033)] _ _ hB)⟩
     ·apply AWp.cond rfl<;>intro hg25
      ·have h:=A4 hg25 h
       refine rg (SQ tt) ?_
       exact hjj23 _ h _ _ (mp [] _ _ hB)
      ·have h:=A5 hg25 h
       apply AWp.skip
       exact hjj23 _ h _ _ (mp [] _ _ hB)
    ·have h:=A5 hg20 h
     apply AWp.exit
     apply D8
     obtain rfl:=oi h
     exact⟨(fun hc=>by cases hc),rfl,(mp [] _ _ hB)⟩
   ·obtain⟨rfl,hmat⟩:=hR
    apply C3
    apply A0
    refine ghost hmat ?_
    refine sr (SQ tt) ?_
    apply ret
    obtain rfl:=oi h
    exact rt (Mat.trans (Mat.freezeP (n:=3004) (e:=5) (sz:=1) (es:=p19.map (eI .u8)) (Ts:=[(2,(.d (.list 1 (p19.map (eI .u8)))))]) (Bs:=[]) (by rfl) (TwT.cons (x:=(.sref 3004 1 0 p19.length)) (by rfl) (FrzL.all (by first | rfl | (simp;done) | (simp;omega) | omega)) TwT.nil) TwB.nil) (mp [] [(2,(.d (.list 1 (p19.map (eI .u8)))))] [] hB)) [(.d (.list 1 (p19.map (eI .u8))))] (rT rN) rfl
  ·apply AWp.cond rfl<;>intro hg28
   ·have h:=A4 hg28 h
    refine rg (SQ tt) ?_
    exact hjj5 _ h _ _ (mp [] _ _ hB)
   ·have h:=A5 hg28 h
    apply AWp.skip
    exact hjj5 _ h _ _ (mp [] _ _ hB)
def A11 (a0:D0) (s6:Int×(List Int)):Option ((((List Int)))⊕(Int×(List Int))) :=
 (if (decide (0≤s6.1))=true then
 jn (fun m22:Int =>
 chk (decide ((s6.2++([(IntKind.u8.wrap (shrI .u64 m22 (IntKind.u64.wrap (8*(IntKind.u64.wrap (Int.tmod s6.1 8))))))]:List Int)).length≤LIM)) <|
 some (.inr ((w64 (s6.1-1)),(s6.2++([(IntKind.u8.wrap (shrI .u64 m22 (IntKind.u64.wrap (8*(IntKind.u64.wrap (Int.tmod s6.1 8))))))]:List Int))))) (fun j23 =>
 (if (decide (8≤s6.1))=true then
 j23 a0.fHi
 else
 j23 a0.fLo))
 else
 some (.inl s6.2))
def A12 (a0:D0):Option ((List Int)) :=
 (P9 a0).bind fun r1 =>
 (if (!r1)=true then
 some ([]:List Int)
 else
 jn (fun m4:Int =>
 (loop (A11 a0) ((w64 (m4-1)),([]:List Int))).bind fun p19 =>
 some p19) (fun j5 =>
 (if a0.fV6=true then
 j5 16
 else
 j5 4)))
theorem A6d (a0:D0) (r:(List Int)) (h:A12 a0=some r):AC Tryz.prog 84 [(.d (D2 a0))] [] (.sref 900000 1 0 r.length) [(900000,some (.row 5 1 (r.map (eI .u8))))]:=by
 refine ac2 Tryz.func84 rfl rfl fun B hB hN L => ?_
 delta A12 at h
 refine sr (SQ tt) ?_
 apply seq
 obtain⟨r1,hr1,h⟩:=bindS h
 refine sr (SQ (fa (cl [] (I3 a0 r1 hr1)) tt)) ?_
 apply AWp.cond rfl<;>intro hg2
 ·have h:=A4 hg2 h
  refine sr (SQ tt) ?_
  apply ret
  apply B3
  obtain rfl:=oi h
  exact rt (Mat.trans (Mat.beginP (n:=900500) (e:=5) (sz:=1) (Ts:=[(2,(.sref 900500 1 0 0))]) (Bs:=[]) hB (by decide) (by rfl) (by decide) (TwT.cons (x:=.nils) (by rfl) (Tw.leaf ⟨rfl,rfl⟩) TwT.nil) TwB.nil) (Mat.trans (Mat.lenP (Ts:=[(2,(.sref 900500 1 0 (([]:List Int).length)))]) (Bs:=[]) (TwT.cons (x:=(.sref 900500 1 0 0)) (by rfl) (Tw.leaf ⟨_,_,_,_,_,rfl,rfl,(by first | rfl | (simp;done) | (simp;omega) | omega)⟩) TwT.nil) TwB.nil) (mp [(900000,900500)] [(2,(.sref 900000 1 0 (([]:List Int).length)))] [(900000,some (.row 5 1 (([]:List Int).map (eI .u8))))] hB))) [(.sref 900000 1 0 (([]:List Int).length))] (rT rN) rfl
 ·have h:=A5 hg2 h
  apply AWp.skip
  apply A0
  refine sr (SQ tt) ?_
  apply seq
  refine sr (SQ tt) ?_
  refine gh [(1,_),(3,_),(11,_)] [(1001,some _)] hB rfl rfl (by rfl) ?_
  refine AWp.cut h (fun m4:Int=>([(1,(pt 1001)),(3,(i6 m4))]:EL)) (fun m4:Int=>([(1001,bd 27 (D2 a0))]:OL)) (fun m4 h E' O' hmat => ?_) (fun j5 hjj5 h => ?_)
  ·apply A0
   refine ghost hmat ?_
   refine sr (SQ tt) ?_
   apply seq
   refine sr (SQ tt) ?_
   apply block
   obtain⟨p19,hx27,h⟩:=bindS h
   refine lg (A11 a0) (fun s6:Int×(List Int)=>([(1,(pt 1001)),(4,(.sref 3004 1 0 s6.2.length)),(5,(i6 s6.1))]:EL)) (fun s6:Int×(List Int)=>([(1001,bd 27 (D2 a0)),(3004,some (.row 5 1 (s6.2.map (eI .u8))))]:OL)) (fun(p19:((List Int))) e E' O'=>e = .exit 0∧Mat B E' O' ([(4,(.sref 3004 1 0 p19.length))]:EL) ([(3004,some (.row 5 1 (p19.map (eI .u8))))]:OL)) hx27 (Mat.trans (Mat.beginP (n:=3004) (e:=5) (sz:=1) (Ts:=[(4,(.sref 3004 1 0 0))]) (Bs:=[]) hB (by decide) (by rfl) (by decide) (TwT.cons (x:=.nils) (by rfl) (Tw.leaf ⟨rfl,rfl⟩) TwT.nil) TwB.nil) (mp [] _ _ hB)) (fun s6 y h => ?_) (fun e E' O' hR => ?_)
   ·unfold A11 at h
    apply seq
    refine sr (SQ tt) ?_
    apply AWp.cond rfl<;>intro hg20
    ·have h:=A4 hg20 h
     apply AWp.skip
     apply A0
     apply seq
     apply block
     refine sr (SQ tt) ?_
     apply seq
     refine sr (SQ tt) ?_
     refine gh [(1,_),(4,_),(5,_),(6,_),(21,_)] [(1001,some _),(3004,some _)] hB rfl rfl (by rfl) ?_
     refine AWp.cut h (fun m22:Int=>([(1,(pt 1001)),(4,(.sref 3004 1 0 s6.2.length)),(5,(i6 s6.1)),(6,(.d (.int .u64 m22)))]:EL)) (fun m22:Int=>([(1001,bd 27 (D2 a0)),(3004,some (.row 5 1 (s6.2.map (eI .u8))))]:OL)) (fun m22 h E' O' hmat => ?_) (fun j23 hjj23 h => ?_)
     ·apply A0
      refine ghost hmat ?_
      obtain⟨hc24,h⟩:=B6 h
      refine rg (SQ (fa hc24 tt)) ?_
      apply D7
      apply A0
      refine rg (SQ tt) ?_
      obtain rfl:=oi h
      exact⟨rfl,(mp [(3004,1033)] _ _ hB)⟩
     ·apply AWp.cond rfl<;>intro hg25
      ·have h:=A4 hg25 h
       refine rg (SQ tt) ?_
       exact hjj23 _ h _ _ (mp [] _ _ hB)
      ·have h:=A5 hg25 h
       apply AWp.skip
       exact hjj23 _ h _ _ (mp [] _ _ hB)
    ·have h:=A5 hg20 h
     apply AWp.exit
     apply D8
     obtain rfl:=oi h
     exact⟨(fun hc=>by cases hc),rfl,(mp [] _ _ hB)⟩
   ·obtain⟨rfl,hmat⟩:=hR
    apply C3
    apply A0
    refine ghost hmat ?_
    refine sr (SQ tt) ?_
    apply ret
    obtain rfl:=oi h
    exact rt (mp [(900000,3004)] [(2,(.sref 900000 1 0 p19.length))] [(900000,some (.row 5 1 (p19.map (eI .u8))))] hB) [(.sref 900000 1 0 p19.length)] (rT rN) rfl
  ·apply AWp.cond rfl<;>intro hg28
   ·have h:=A4 hg28 h
    refine rg (SQ tt) ?_
    exact hjj5 _ h _ _ (mp [] _ _ hB)
   ·have h:=A5 hg28 h
    apply AWp.skip
    exact hjj5 _ h _ _ (mp [] _ _ hB)
def M8 (a0:(List Int)) (s2:Int×Int×Int):Option (((Int×Int))⊕(Int×Int×Int)) :=
 (if (decide (s2.1<(a0.length:Int)))=true then
 (idx a0 s2.1).bind fun x9 =>
 some (.inr ((w64 (s2.1+1)),(bitI .or .u64 (shlI .u64 s2.2.1 8) (shrI .u64 s2.2.2 56)),(bitI .or .u64 (shlI .u64 s2.2.2 8) (IntKind.u64.wrap x9))))
 else
 some (.inl (s2.2.1,s2.2.2)))
def R4 (a0:(List Int)):Option (D0×Int) :=
 (if (((a0.length:Int) != 4)&&((a0.length:Int) != 16))=true then
 some ((D0.mk false 0 0),1)
 else
 (loop (M8 a0) (0,0,0)).bind fun p7 =>
 some ((D0.mk ((a0.length:Int)==16) p7.1 p7.2),0))
theorem A5k (a0:(List Int)) (r:D0×Int) (h:R4 a0=some r):AC Tryz.prog 100 [(.d (.list 1 (a0.map (eI .u8))))] [] (.tup [(.d (D2 r.1)),(.d (.int .i64 r.2))]) []:=by
 refine ac2 Tryz.func100 rfl rfl fun B hB hN L => ?_
 delta R4 at h
 refine sr (SQ tt) ?_
 apply seq
 refine sr (SQ tt) ?_
 apply AWp.cond rfl<;>intro hg1
 ·have h:=A4 hg1 h
  refine sr (SQ tt) ?_
  apply ret
  apply B3
  obtain rfl:=oi h
  exact rt (kp [(2,_),(3,_)] [(1002,some _)] hB rfl rfl (by rfl)) [(.d (.st [(.bool false),(.int .u64 0),(.int .u64 0)])),(i6 1)] (Res.cell (c:=(.d (.st [(.bool false),(.int .u64 0),(.int .u64 0)]))) (by rfl) (by rfl) tyS27 (by rfl) (by rfl) (by rfl) (rT rN)) rfl
 ·have h:=A5 hg1 h
  apply AWp.skip
  apply A0
  refine sr (SQ tt) ?_
  apply seq
  refine sr (SQ tt) ?_
  apply block
  obtain⟨p7,hx11,h⟩:=bindS h
  refine lg (M8 a0) (fun s2:Int×Int×Int=>([(2,(pt 1002)),(4,(pt 1004)),(20,(.d (.list 1 (a0.map (eI .u8))))),(21,(i6 (a0.length:Int))),(22,(i6 s2.1))]:EL)) (fun s2:Int×Int×Int=>([(1002,bd 27 (.st [(.bool false),(.int .u64 0),(.int .u64 0)])),(1004,bd 27 (.st [(.bool ((a0.length:Int)==16)),(.int .u64 s2.2.1),(.int .u64 s2.2.2)]))]:OL)) (fun(p7:(Int×Int)) e E' O'=>e = .exit 0∧Mat B E' O' ([(2,(pt 1002)),(4,(pt 1004))]:EL) ([(1002,bd 27 (.st [(.bool false),(.int .u64 0),(.int .u64 0)])),(1004,bd 27 (.st [(.bool ((a0.length:Int)==16)),(.int .u64 p7.1),(.int .u64 p7.2)]))]:OL)) hx11 (mp [] _ _ hB) (fun s2 y h => ?_) (fun e E' O' hR => ?_)
  ·unfold M8 at h
   refine sr (SQ tt) ?_
   apply seq
   apply AWp.cond rfl<;>intro hg8
   ·have h:=A4 hg8 h
    apply AWp.skip
    apply A0
    apply seq
    apply block
    obtain⟨_,hx9,h⟩:=bindS h
    refine sr (SQ (fa hx9 tt)) ?_
    refine sr (SQ tt) ?_
    refine rg (SQ tt) ?_
    apply D7
    apply A0
    refine rg (SQ tt) ?_
    obtain rfl:=oi h
    exact⟨rfl,(mp [] _ _ hB)⟩
   ·have h:=A5 hg8 h
    apply AWp.exit
    apply D8
    obtain rfl:=oi h
    exact⟨(fun hc=>by cases hc),rfl,(mp [] _ _ hB)⟩
  ·obtain⟨rfl,hmat⟩:=hR
   apply C3
   apply A0
   refine ghost hmat ?_
   refine sr (SQ tt) ?_
   apply ret
   obtain rfl:=oi h
   exact rt (kp [(2,_),(3,_)] [(1002,some _)] hB rfl rfl (by rfl)) [(.d (.st [(.bool ((a0.length:Int)==16)),(.int .u64 p7.1),(.int .u64 p7.2)])),(i6 0)] (Res.cell (c:=(.d (.st [(.bool ((a0.length:Int)==16)),(.int .u64 p7.1),(.int .u64 p7.2)]))) (by rfl) (by rfl) tyS27 (by rfl) (by rfl) (by rfl) (rT rN)) rfl
def W8 (s9:Int×(List Int)):Option ((((List Int)))⊕(Int×(List Int))) :=
 (if (decide (s9.1<(w64 (8*(s9.2.length:Int)))))=true then
 (idx s9.2 (w64 (Int.tdiv s9.1 8))).bind fun _ =>
 (idx s9.2 (w64 (Int.tdiv s9.1 8))).bind fun x23 =>
 (idx s9.2 (w64 (Int.tdiv s9.1 8))).bind fun _ =>
 (idx s9.2 (w64 (Int.tdiv s9.1 8))).bind fun _ =>
 some (.inr ((w64 (s9.1+1)),(s9.2.set (w64 (Int.tdiv s9.1 8)).toNat (bitI .andNot .u8 x23 (shrI .u8 128 (IntKind.u64.wrap (Int.tmod s9.1 8)))))))
 else
 some (.inl s9.2))
def A1t (a0:D0) (a1:Int):Option (A2×Int) :=
 (P9 a0).bind fun r1 =>
 (if (!r1)=true then
 some ((A2.mk (D0.mk false 0 0) 0),1)
 else
 jn (fun m5:Bool =>
 (if m5=true then
 some ((A2.mk (D0.mk false 0 0) 0),9)
 else
 (A12 a0).bind fun r8 =>
 (loop (W8) (a1,r8)).bind fun p20 =>
 (R4 p20).bind fun r28 =>
 some ((A2.mk r28.1 a1),0))) (fun j6 =>
 (if (decide (a1<0))=true then
 j6 true
 else
 (A2h a0).bind fun r30 =>
 j6 (decide (r30<a1)))))
theorem A8t (a0:D0) (a1:Int) (r:A2×Int) (h:A1t a0 a1=some r):AC Tryz.prog 72 [(.d (D2 a0)),(.d (.int .i64 a1))] [] (.tup [(.d (C4 r.1)),(.d (.int .i64 r.2))]) []:=by
 refine ac2 Tryz.func72 rfl rfl fun B hB hN L => ?_
 delta A1t at h
 refine sr (SQ tt) ?_
 apply seq
 apply block
 obtain⟨r1,hr1,h⟩:=bindS h
 refine sr (SQ (fa (cl [] (I3 a0 r1 hr1)) tt)) ?_
 apply AWp.cond rfl<;>intro hg2
 ·have h:=A4 hg2 h
  refine sr (SQ tt) ?_
  apply ret
  apply D4
  apply B3
  obtain rfl:=oi h
  exact rt (kp [(4,_),(5,_)] [(1004,some _)] hB rfl rfl (by rfl)) [(.d (.st [(.st [(.bool false),(.int .u64 0),(.int .u64 0)]),(.int .i64 0)])),(i6 1)] (Res.cell (c:=(.d (.st [(.st [(.bool false),(.int .u64 0),(.int .u64 0)]),(.int .i64 0)]))) (by rfl) (by rfl) tyS29 (by rfl) (by rfl) (by rfl) (rT rN)) rfl
 ·have h:=A5 hg2 h
  apply seq
  refine AWp.cut h (fun m5:Bool=>([(1,(i6 a1)),(2,(pt 1002)),(4,(pt 1004)),(15,(bo m5))]:EL)) (fun m5:Bool=>([(1002,bd 27 (D2 a0)),(1004,bd 29 (.st [(.st [(.bool false),(.int .u64 0),(.int .u64 0)]),(.int .i64 0)]))]:OL)) (fun m5 h E' O' hmat => ?_) (fun j6 hjj6 h => ?_)
  ·apply A0
   refine ghost hmat ?_
   apply AWp.cond rfl<;>intro hg7
   ·have h:=A4 hg7 h
    refine sr (SQ tt) ?_
    apply ret
    apply D4
    apply B3
    obtain rfl:=oi h
    exact rt (kp [(4,_),(5,_)] [(1004,some _)] hB rfl rfl (by rfl)) [(.d (.st [(.st [(.bool false),(.int .u64 0),(.int .u64 0)]),(.int .i64 0)])),(i6 9)] (Res.cell (c:=(.d (.st [(.st [(.bool false),(.int .u64 0),(.int .u64 0)]),(.int .i64 0)]))) (by rfl) (by rfl) tyS29 (by rfl) (by rfl) (by rfl) (rT rN)) rfl
   ·have h:=A5 hg7 h
    apply AWp.skip
    apply D7
    apply A0
    apply seq
    obtain⟨r8,hr8,h⟩:=bindS h
    refine rg (SQ (fa (cl [(900000,100200)] (A6d a0 r8 hr8)) tt)) ?_
    apply A0
    refine ghost (mp [] [(1,(i6 a1)),(4,(pt 1004)),(6,(.sref 100200 1 0 r8.length))] [(1004,bd 29 (.st [(.st [(.bool false),(.int .u64 0),(.int .u64 0)]),(.int .i64 0)])),(100200,some (.row 5 1 (r8.map (eI .u8))))] hB) ?_
    apply seq
    refine sr (SQ tt) ?_
    apply block
    obtain⟨p20,hx27,h⟩:=bindS h
    refine lg (W8) (fun s9:Int×(List Int)=>([(1,(i6 a1)),(4,(pt 1004)),(6,(.sref 100200 1 0 s9.2.length)),(7,(i6 s9.1))]:EL)) (fun s9:Int×(List Int)=>([(1004,bd 29 (.st [(.st [(.bool false),(.int .u64 0),(.int .u64 0)]),(.int .i64 0)])),(100200,some (.row 5 1 (s9.2.map (eI .u8))))]:OL)) (fun(p20:((List Int))) e E' O'=>e = .exit 1∧Mat B E' O' ([(1,(i6 a1)),(4,(pt 1004)),(6,(.sref 100200 1 0 p20.length))]:EL) ([(1004,bd 29 (.st [(.st [(.bool false),(.int .u64 0),(.int .u64 0)]),(.int .i64 0)])),(100200,some (.row 5 1 (p20.map (eI .u8))))]:OL)) hx27 (mp [] _ _ hB) (fun s9 y h => ?_) (fun e E' O' hR => ?_)
    ·unfold W8 at h
     apply seq
     refine sr (SQ tt) ?_
     apply AWp.cond rfl<;>intro hg21
     ·have h:=A4 hg21 h
      apply AWp.skip
      apply A0
      apply seq
      apply block
      obtain⟨_,hx22,h⟩:=bindS h
      obtain⟨x23,hx23,h⟩:=bindS h
      obtain⟨_,hx24,h⟩:=bindS h
      obtain⟨_,hx25,h⟩:=bindS h
      refine rg (SQ (fa hx22 (fa hx23 (fa hx24 (fa hx25 (fa (sv (bitI .andNot .u8 x23 (shrI .u8 128 (IntKind.u64.wrap (Int.tmod s9.1 8))))) tt)))))) ?_
      apply D7
      apply A0
      refine rg (SQ tt) ?_
      obtain rfl:=oi h
      exact⟨rfl,(Mat.trans (mp [] [(1,(i6 a1)),(4,(pt 1004)),(6,(.sref 100200 1 0 s9.2.length)),(7,(i6 (w64 (s9.1+1))))] [(1004,bd 29 (.st [(.st [(.bool false),(.int .u64 0),(.int .u64 0)]),(.int .i64 0)])),(100200,some (.row 5 1 ((s9.2.set (w64 (Int.tdiv s9.1 8)).toNat (bitI .andNot .u8 x23 (shrI .u8 128 (IntKind.u64.wrap (Int.tmod s9.1 8))))).map (eI .u8))))] hB) (Mat.trans (Mat.lenP (Ts:=[(6,(.sref 100200 1 0 ((s9.2.set (w64 (Int.tdiv s9.1 8)).toNat (bitI .andNot .u8 x23 (shrI .u8 128 (IntKind.u64.wrap (Int.tmod s9.1 8))))).length)))]) (Bs:=[]) (TwT.cons (x:=(.sref 100200 1 0 s9.2.length)) (by rfl) (Tw.leaf ⟨_,_,_,_,_,rfl,rfl,(by first | rfl | (simp;done) | (simp;omega) | omega)⟩) TwT.nil) TwB.nil) (mp [] _ _ hB)))⟩
     ·have h:=A5 hg21 h
      apply AWp.exit
      apply D8
      obtain rfl:=oi h
      exact⟨(fun hc=>by cases hc),rfl,(mp [] _ _ hB)⟩
    ·obtain⟨rfl,hmat⟩:=hR
     apply C3
     apply A0
     refine ghost hmat ?_
     apply seq
     refine ghost (Mat.freezeP (n:=100200) (e:=5) (sz:=1) (es:=p20.map (eI .u8)) (Ts:=[(6,(.d (.list 1 (p20.map (eI .u8)))))]) (Bs:=[]) (by rfl) (TwT.cons (x:=(.sref 100200 1 0 p20.length)) (by rfl) (FrzL.all (by first | rfl | (simp;done) | (simp;omega) | omega)) TwT.nil) TwB.nil) ?_
     obtain⟨r28,hr28,h⟩:=bindS h
     refine rg (SQ (fa (cl [] (A5k p20 r28 hr28)) tt)) ?_
     apply A0
     refine sr (SQ tt) ?_
     apply ret
     obtain rfl:=oi h
     exact rt (kp [(4,_),(5,_)] [(1004,some _)] hB rfl rfl (by rfl)) [(.d (.st [(D2 r28.1),(.int .i64 a1)])),(i6 0)] (Res.cell (c:=(.d (.st [(D2 r28.1),(.int .i64 a1)]))) (by rfl) (by rfl) tyS29 (by rfl) (by rfl) (by rfl) (rT rN)) rfl
  ·rcases bft (decide (a1<0)) with hg29 | hg29
   ·have h:=A4 hg29 h
    refine rg (SQ (fa hg29 tt)) ?_
    exact hjj6 _ h _ _ (mp [] _ _ hB)
   ·have h:=A5 hg29 h
    obtain⟨r30,hr30,h⟩:=bindS h
    refine rg (SQ (fa hg29 (fa (cl [] (A7s a0 r30 hr30)) tt))) ?_
    exact hjj6 _ h _ _ (mp [] _ _ hB)
def Y4 (a0:A2):Option (Bool) :=
 (A1t a0.fAddr a0.fLen).bind fun r1 =>
 some ((r1.2==0)&&(((a0.fAddr.fV6==r1.1.fAddr.fV6)&&((a0.fAddr.fHi==r1.1.fAddr.fHi)&&((a0.fAddr.fLo==r1.1.fAddr.fLo)&&true)))&&((a0.fLen==r1.1.fLen)&&true)))
theorem A4f (a0:A2) (r:Bool) (h:Y4 a0=some r):AC Tryz.prog 42 [(.d (C4 a0))] [] (.d (.bool r)) []:=by
 refine AC.of_code2 Tryz.func42 rfl rfl (Nat.le_of_ble_eq_true (by rfl)) fun B hB hN => ?_
 delta Y4 at h
 refine sr (SQ tt) ?_
 obtain⟨r1,hr1,h⟩:=bindS h
 refine sr (SQ (fa (cl [] (A8t a0.fAddr a0.fLen r1 hr1)) tt)) ?_
 refine sr (SQ tt) ?_
 apply ret
 obtain rfl:=oi h
 exact rt (kp [(2,_)] [] hB rfl rfl (by rfl)) [(bo ((r1.2==0)&&(((a0.fAddr.fV6==r1.1.fAddr.fV6)&&((a0.fAddr.fHi==r1.1.fAddr.fHi)&&((a0.fAddr.fLo==r1.1.fAddr.fLo)&&true)))&&((a0.fLen==r1.1.fLen)&&true))))] (rT rN) rfl
def A2u (a1:(List B2)) (s2:Int) (x72:B2) (s80:Int):Option (((Unit)⊕(Unit))⊕(Int)) :=
 (if (decide (s80<(x72.fASNs.length:Int)))=true then
 (idx x72.fASNs s80).bind fun x94 =>
 (idx a1 s2).bind fun x95 =>
 (idx x95.fASNs s80).bind fun x96 =>
 (if (x96 != x94)=true then
 some (.inl (.inl ()))
 else
 some (.inr (w64 (s80+1))))
 else
 some (.inl (.inr ())))
def A13 (a0:(List B2)) (a1:(List B2)) (s2:Int):Option (((Unit)⊕(Unit))⊕(Int)) :=
 (if (decide (s2<(a0.length:Int)))=true then
 (idx a0 s2).bind fun x72 =>
 jn (fun m77:Bool =>
 (if m77=true then
 some (.inl (.inl ()))
 else
 (loop (A2u a1 s2 x72) 0).bind fun x98=>match x98 with
 | (.inl _) =>
  some (.inl (.inl ()))
 | (.inr _) =>
  some (.inr (w64 (s2+1))))) (fun j78 =>
 (idx a1 s2).bind fun x100 =>
 (if (x72.fSet != x100.fSet)=true then
 j78 true
 else
 (idx a1 s2).bind fun x102 =>
 j78 ((x72.fASNs.length:Int) != (x102.fASNs.length:Int))))
 else
 some (.inl (.inr ())))
def A1u (a0:(List B2)) (a1:(List B2)):Option (Bool) :=
 (if ((a0.length:Int) != (a1.length:Int))=true then
 some false
 else
 (loop (A13 a0 a1) 0).bind fun x103=>match x103 with
 | (.inl _) =>
  some false
 | (.inr _) =>
  some true)
theorem A14 (a0:(List B2)) (a1:(List B2)) (r:Bool) (h:A1u a0 a1=some r):AC Tryz.prog 73 [(.d (.list 2 (a0.map C7))),(.d (.list 2 (a1.map C7)))] [] (.d (.bool r)) []:=by
 refine ac2 Tryz.func73 rfl rfl fun B hB hN L => ?_
 delta A1u at h
 refine sr (SQ tt) ?_
 apply seq
 refine sr (SQ tt) ?_
 apply AWp.cond rfl<;>intro hg1
 ·have h:=A4 hg1 h
  refine sr (SQ tt) ?_
  apply ret
  apply B3
  obtain rfl:=oi h
  exact rt (kp [(4,_)] [] hB rfl rfl (by rfl)) [(bo false)] (rT rN) rfl
 ·have h:=A5 hg1 h
  apply AWp.skip
  apply A0
  apply seq
  refine sr (SQ tt) ?_
  apply block
  obtain⟨x103,hx104,h⟩:=bindS h
  refine lg (A13 a0 a1) (fun s2:Int=>([(1,(B5 a1)),(14,(B5 a0)),(15,(i6 (a0.length:Int))),(16,(i6 s2))]:EL)) (fun s2:Int=>([]:OL)) (fun(x:(Unit)⊕(Unit)) e E' O'=>match x with | (.inl _p)=>e = .ret∧Mat B E' O' ([(4,(bo false))]:EL) ([]:OL) | (.inr _p)=>e = .exit 0∧Mat B E' O' ([]:EL) ([]:OL)) hx104 (mp [] _ _ hB) (fun s2 y h => ?_) (fun e E' O' hR => ?_)
  ·unfold A13 at h
   refine sr (SQ tt) ?_
   apply seq
   apply AWp.cond rfl<;>intro hg71
   ·have h:=A4 hg71 h
    apply AWp.skip
    apply A0
    apply seq
    apply block
    obtain⟨x72,hx72,h⟩:=bindS h
    refine sr (SQ (fa hx72 tt)) ?_
    apply seq
    apply seq
    refine AWp.cut h (fun m77:Bool=>([(1,(B5 a1)),(5,(i6 s2)),(6,(pt 1006)),(14,(B5 a0)),(15,(i6 (a0.length:Int))),(16,(i6 s2)),(40,(bo m77))]:EL)) (fun m77:Bool=>([(1006,bd 66 (C7 x72))]:OL)) (fun m77 h E' O' hmat => ?_) (fun j78 hjj78 h => ?_)
    ·apply A0
     refine ghost hmat ?_
     apply AWp.cond rfl<;>intro hg79
     ·have h:=A4 hg79 h
      refine sr (SQ tt) ?_
      apply ret
      apply B3
      apply D4
      apply B3
      obtain rfl:=oi h
      exact⟨(fun hc=>by cases hc),rfl,(mp [] _ _ hB)⟩
     ·have h:=A5 hg79 h
      apply AWp.skip
      apply A0
      refine sr (SQ tt) ?_
      apply block
      obtain⟨x98,hx99,h⟩:=bindS h
      refine lg (A2u a1 s2 x72) (fun s80:Int=>([(1,(B5 a1)),(5,(i6 s2)),(14,(B5 a0)),(15,(i6 (a0.length:Int))),(16,(i6 s2)),(42,(qI_1 x72.fASNs)),(43,(i6 (x72.fASNs.length:Int))),(44,(i6 s80))]:EL)) (fun s80:Int=>([]:OL)) (fun(x:(Unit)⊕(Unit)) e E' O'=>match x with | (.inl _p)=>e = .ret∧Mat B E' O' ([(4,(bo false))]:EL) ([]:OL) | (.inr _p)=>e = .exit 2∧Mat B E' O' ([(1,(B5 a1)),(14,(B5 a0)),(15,(i6 (a0.length:Int))),(16,(i6 s2))]:EL) ([]:OL)) hx99 (mp [] _ _ hB) (fun s80 y h => ?_) (fun e E' O' hR => ?_)
      ·unfold A2u at h
       refine sr (SQ tt) ?_
       apply seq
       apply AWp.cond rfl<;>intro hg93
       ·have h:=A4 hg93 h
        apply AWp.skip
        apply A0
        apply seq
        apply block
        obtain⟨_,hx94,h⟩:=bindS h
        refine sr (SQ (fa hx94 tt)) ?_
        obtain⟨_,hx95,h⟩:=bindS h
        obtain⟨_,hx96,h⟩:=bindS h
        refine sr (SQ (fa hx95 (fa hx96 tt))) ?_
        apply AWp.cond rfl<;>intro hg97
        ·have h:=A4 hg97 h
         refine sr (SQ tt) ?_
         apply ret
         apply D4
         apply B3
         obtain rfl:=oi h
         exact⟨(fun hc=>by cases hc),rfl,(mp [] _ _ hB)⟩
        ·have h:=A5 hg97 h
         apply AWp.skip
         apply D7
         apply A0
         refine rg (SQ tt) ?_
         obtain rfl:=oi h
         exact⟨rfl,(mp [] _ _ hB)⟩
       ·have h:=A5 hg93 h
        apply AWp.exit
        apply D8
        obtain rfl:=oi h
        exact⟨(fun hc=>by cases hc),rfl,(mp [] _ _ hB)⟩
      ·rcases x98 with _ | _
       ·obtain⟨rfl,hmat⟩:=hR
        apply D4
        apply D4
        apply B3
        obtain rfl:=oi h
        exact⟨(fun hc=>by cases hc),rfl,(Mat.trans hmat (mp [] _ _ hB))⟩
       ·obtain⟨rfl,hmat⟩:=hR
        apply C3
        apply D7
        apply A0
        refine ghost hmat ?_
        refine rg (SQ tt) ?_
        obtain rfl:=oi h
        exact⟨rfl,(mp [] _ _ hB)⟩
    ·obtain⟨x100,hx100,h⟩:=bindS h
     rcases bft (x72.fSet != x100.fSet) with hg101 | hg101
     ·have h:=A4 hg101 h
      refine drS (SQ (fa hx100 (fa hg101 tt))) ?_
      exact hjj78 _ h _ _ (mp [] _ _ hB)
     ·have h:=A5 hg101 h
      obtain⟨_,hx102,h⟩:=bindS h
      refine drS (SQ (fa hx100 (fa hg101 (fa hx102 tt)))) ?_
      exact hjj78 _ h _ _ (mp [] _ _ hB)
   ·have h:=A5 hg71 h
    apply AWp.exit
    apply D8
    obtain rfl:=oi h
    exact⟨(fun hc=>by cases hc),rfl,(mp [] _ _ hB)⟩
  ·rcases x103 with _ | _
   ·obtain⟨rfl,hmat⟩:=hR
    apply D4
    apply B3
    obtain rfl:=oi h
    exact rt (Mat.trans hmat (mp [] [(4,(bo false))] [] hB)) [(bo false)] (rT rN) rfl
   ·obtain⟨rfl,hmat⟩:=hR
    apply C3
    apply A0
    refine ghost hmat ?_
    refine sr (SQ tt) ?_
    apply ret
    obtain rfl:=oi h
    exact rt (kp [(4,_)] [] hB rfl rfl (by rfl)) [(bo true)] (rT rN) rfl
def A15 (a0:(List A9)) (a1:(List A9)) (s2:Int):Option (((Unit)⊕(Unit))⊕(Int)) :=
 (if (decide (s2<(a0.length:Int)))=true then
 (idx a0 s2).bind fun x14 =>
 (idx a1 s2).bind fun x15 =>
 (if (!((x15.fA==x14.fA)&&((x15.fB==x14.fB)&&true)))=true then
 some (.inl (.inl ()))
 else
 some (.inr (w64 (s2+1))))
 else
 some (.inl (.inr ())))
def A1v (a0:(List A9)) (a1:(List A9)):Option (Bool) :=
 (if ((a0.length:Int) != (a1.length:Int))=true then
 some false
 else
 (loop (A15 a0 a1) 0).bind fun x17=>match x17 with
 | (.inl _) =>
  some false
 | (.inr _) =>
  some true)
theorem A2v (a0:(List A9)) (a1:(List A9)) (r:Bool) (h:A1v a0 a1=some r):AC Tryz.prog 74 [(.d (.list 2 (a0.map C0))),(.d (.list 2 (a1.map C0)))] [] (.d (.bool r)) []:=by
 refine ac2 Tryz.func74 rfl rfl fun B hB hN L => ?_
 delta A1v at h
 refine sr (SQ tt) ?_
 apply seq
 refine sr (SQ tt) ?_
 apply AWp.cond rfl<;>intro hg1
 ·have h:=A4 hg1 h
  refine sr (SQ tt) ?_
  apply ret
  apply B3
  obtain rfl:=oi h
  exact rt (kp [(4,_)] [] hB rfl rfl (by rfl)) [(bo false)] (rT rN) rfl
 ·have h:=A5 hg1 h
  apply AWp.skip
  apply A0
  apply seq
  refine sr (SQ tt) ?_
  apply block
  obtain⟨x17,hx18,h⟩:=bindS h
  refine lg (A15 a0 a1) (fun s2:Int=>([(1,(B4 a1)),(12,(B4 a0)),(13,(i6 (a0.length:Int))),(14,(i6 s2))]:EL)) (fun s2:Int=>([]:OL)) (fun(x:(Unit)⊕(Unit)) e E' O'=>match x with | (.inl _p)=>e = .ret∧Mat B E' O' ([(4,(bo false))]:EL) ([]:OL) | (.inr _p)=>e = .exit 0∧Mat B E' O' ([]:EL) ([]:OL)) hx18 (mp [] _ _ hB) (fun s2 y h => ?_) (fun e E' O' hR => ?_)
  ·unfold A15 at h
   refine sr (SQ tt) ?_
   apply seq
   apply AWp.cond rfl<;>intro hg13
   ·have h:=A4 hg13 h
    apply AWp.skip
    apply A0
    apply seq
    apply block
    obtain⟨_,hx14,h⟩:=bindS h
    refine sr (SQ (fa hx14 tt)) ?_
    obtain⟨_,hx15,h⟩:=bindS h
    refine sdS (SQ (fa hx15 tt)) ?_
    apply AWp.cond rfl<;>intro hg16
    ·have h:=A4 hg16 h
     refine sr (SQ tt) ?_
     apply ret
     apply D4
     apply B3
     obtain rfl:=oi h
     exact⟨(fun hc=>by cases hc),rfl,(mp [] _ _ hB)⟩
    ·have h:=A5 hg16 h
     apply AWp.skip
     apply D7
     apply A0
     refine rg (SQ tt) ?_
     obtain rfl:=oi h
     exact⟨rfl,(mp [] _ _ hB)⟩
   ·have h:=A5 hg13 h
    apply AWp.exit
    apply D8
    obtain rfl:=oi h
    exact⟨(fun hc=>by cases hc),rfl,(mp [] _ _ hB)⟩
  ·rcases x17 with _ | _
   ·obtain⟨rfl,hmat⟩:=hR
    apply D4
    apply B3
    obtain rfl:=oi h
    exact rt (Mat.trans hmat (mp [] [(4,(bo false))] [] hB)) [(bo false)] (rT rN) rfl
   ·obtain⟨rfl,hmat⟩:=hR
    apply C3
    apply A0
    refine ghost hmat ?_
    refine sr (SQ tt) ?_
    apply ret
    obtain rfl:=oi h
    exact rt (kp [(4,_)] [] hB rfl rfl (by rfl)) [(bo true)] (rT rN) rfl
def Q8 (a0:(List E0)) (a1:(List E0)) (s2:Int):Option (((Unit)⊕(Unit))⊕(Int)) :=
 (if (decide (s2<(a0.length:Int)))=true then
 (idx a0 s2).bind fun x14 =>
 (idx a1 s2).bind fun x15 =>
 (if (!((x15.fA==x14.fA)&&((x15.fB==x14.fB)&&((x15.fC==x14.fC)&&true))))=true then
 some (.inl (.inl ()))
 else
 some (.inr (w64 (s2+1))))
 else
 some (.inl (.inr ())))
def R5 (a0:(List E0)) (a1:(List E0)):Option (Bool) :=
 (if ((a0.length:Int) != (a1.length:Int))=true then
 some false
 else
 (loop (Q8 a0 a1) 0).bind fun x17=>match x17 with
 | (.inl _) =>
  some false
 | (.inr _) =>
  some true)
theorem A2b (a0:(List E0)) (a1:(List E0)) (r:Bool) (h:R5 a0 a1=some r):AC Tryz.prog 75 [(.d (.list 3 (a0.map D9))),(.d (.list 3 (a1.map D9)))] [] (.d (.bool r)) []:=by
 refine ac2 Tryz.func75 rfl rfl fun B hB hN L => ?_
 delta R5 at h
 refine sr (SQ tt) ?_
 apply seq
 refine sr (SQ tt) ?_
 apply AWp.cond rfl<;>intro hg1
 ·have h:=A4 hg1 h
  refine sr (SQ tt) ?_
  apply ret
  apply B3
  obtain rfl:=oi h
  exact rt (kp [(4,_)] [] hB rfl rfl (by rfl)) [(bo false)] (rT rN) rfl
 ·have h:=A5 hg1 h
  apply AWp.skip
  apply A0
  apply seq
  refine sr (SQ tt) ?_
  apply block
  obtain⟨x17,hx18,h⟩:=bindS h
  refine lg (Q8 a0 a1) (fun s2:Int=>([(1,(D3 a1)),(12,(D3 a0)),(13,(i6 (a0.length:Int))),(14,(i6 s2))]:EL)) (fun s2:Int=>([]:OL)) (fun(x:(Unit)⊕(Unit)) e E' O'=>match x with | (.inl _p)=>e = .ret∧Mat B E' O' ([(4,(bo false))]:EL) ([]:OL) | (.inr _p)=>e = .exit 0∧Mat B E' O' ([]:EL) ([]:OL)) hx18 (mp [] _ _ hB) (fun s2 y h => ?_) (fun e E' O' hR => ?_)
  ·unfold Q8 at h
   refine sr (SQ tt) ?_
   apply seq
   apply AWp.cond rfl<;>intro hg13
   ·have h:=A4 hg13 h
    apply AWp.skip
    apply A0
    apply seq
    apply block
    obtain⟨_,hx14,h⟩:=bindS h
    refine sr (SQ (fa hx14 tt)) ?_
    obtain⟨_,hx15,h⟩:=bindS h
    refine sdS (SQ (fa hx15 tt)) ?_
    apply AWp.cond rfl<;>intro hg16
    ·have h:=A4 hg16 h
     refine sr (SQ tt) ?_
     apply ret
     apply D4
     apply B3
     obtain rfl:=oi h
     exact⟨(fun hc=>by cases hc),rfl,(mp [] _ _ hB)⟩
    ·have h:=A5 hg16 h
     apply AWp.skip
     apply D7
     apply A0
     refine rg (SQ tt) ?_
     obtain rfl:=oi h
     exact⟨rfl,(mp [] _ _ hB)⟩
   ·have h:=A5 hg13 h
    apply AWp.exit
    apply D8
    obtain rfl:=oi h
    exact⟨(fun hc=>by cases hc),rfl,(mp [] _ _ hB)⟩
  ·rcases x17 with _ | _
   ·obtain⟨rfl,hmat⟩:=hR
    apply D4
    apply B3
    obtain rfl:=oi h
    exact rt (Mat.trans hmat (mp [] [(4,(bo false))] [] hB)) [(bo false)] (rT rN) rfl
   ·obtain⟨rfl,hmat⟩:=hR
    apply C3
    apply A0
    refine ghost hmat ?_
    refine sr (SQ tt) ?_
    apply ret
    obtain rfl:=oi h
    exact rt (kp [(4,_)] [] hB rfl rfl (by rfl)) [(bo true)] (rT rN) rfl
def S9 (a0:(List A1)) (a1:(List A1)) (s2:Int):Option (((Unit)⊕(Unit))⊕(Int)) :=
 (if (decide (s2<(a0.length:Int)))=true then
 (idx a0 s2).bind fun x38 =>
 jn (fun m45:Bool =>
 (if m45=true then
 some (.inl (.inl ()))
 else
 some (.inr (w64 (s2+1))))) (fun j46 =>
 (idx a1 s2).bind fun x48 =>
 (if (x38.fFlags != x48.fFlags)=true then
 j46 true
 else
 (idx a1 s2).bind fun x50 =>
 (if (x38.fType != x50.fType)=true then
 j46 true
 else
 (idx a1 s2).bind fun x52 =>
 j46 ((bstr x38.fData) != (bstr x52.fData)))))
 else
 some (.inl (.inr ())))
def T9 (a0:(List A1)) (a1:(List A1)):Option (Bool) :=
 (if ((a0.length:Int) != (a1.length:Int))=true then
 some false
 else
 (loop (S9 a0 a1) 0).bind fun x53=>match x53 with
 | (.inl _) =>
  some false
 | (.inr _) =>
  some true)
theorem A5x (a0:(List A1)) (a1:(List A1)) (r:Bool) (h:T9 a0 a1=some r):AC Tryz.prog 76 [(.d (.list 3 (a0.map A7))),(.d (.list 3 (a1.map A7)))] [] (.d (.bool r)) []:=by
 refine ac2 Tryz.func76 rfl rfl fun B hB hN L => ?_
 delta T9 at h
 refine sr (SQ tt) ?_
 apply seq
 refine sr (SQ tt) ?_
 apply AWp.cond rfl<;>intro hg1
 ·have h:=A4 hg1 h
  refine sr (SQ tt) ?_
  apply ret
  apply B3
  obtain rfl:=oi h
  exact rt (kp [(4,_)] [] hB rfl rfl (by rfl)) [(bo false)] (rT rN) rfl
 ·have h:=A5 hg1 h
  apply AWp.skip
  apply A0
  apply seq
  refine sr (SQ tt) ?_
  apply block
  obtain⟨x53,hx54,h⟩:=bindS h
  refine lg (S9 a0 a1) (fun s2:Int=>([(1,(B0 a1)),(12,(B0 a0)),(13,(i6 (a0.length:Int))),(14,(i6 s2))]:EL)) (fun s2:Int=>([]:OL)) (fun(x:(Unit)⊕(Unit)) e E' O'=>match x with | (.inl _p)=>e = .ret∧Mat B E' O' ([(4,(bo false))]:EL) ([]:OL) | (.inr _p)=>e = .exit 0∧Mat B E' O' ([]:EL) ([]:OL)) hx54 (mp [] _ _ hB) (fun s2 y h => ?_) (fun e E' O' hR => ?_)
  ·unfold S9 at h
   refine sr (SQ tt) ?_
   apply seq
   apply AWp.cond rfl<;>intro hg37
   ·have h:=A4 hg37 h
    apply AWp.skip
    apply A0
    apply seq
    apply block
    obtain⟨x38,hx38,h⟩:=bindS h
    refine sr (SQ (fa hx38 tt)) ?_
    apply seq
    refine AWp.cut h (fun m45:Bool=>([(1,(B0 a1)),(12,(B0 a0)),(13,(i6 (a0.length:Int))),(14,(i6 s2)),(48,(bo m45))]:EL)) (fun m45:Bool=>([]:OL)) (fun m45 h E' O' hmat => ?_) (fun j46 hjj46 h => ?_)
    ·apply A0
     refine ghost hmat ?_
     apply AWp.cond rfl<;>intro hg47
     ·have h:=A4 hg47 h
      refine sr (SQ tt) ?_
      apply ret
      apply D4
      apply B3
      obtain rfl:=oi h
      exact⟨(fun hc=>by cases hc),rfl,(mp [] _ _ hB)⟩
     ·have h:=A5 hg47 h
      apply AWp.skip
      apply D7
      apply A0
      refine rg (SQ tt) ?_
      obtain rfl:=oi h
      exact⟨rfl,(mp [] _ _ hB)⟩
    ·obtain⟨x48,hx48,h⟩:=bindS h
     rcases bft (x38.fFlags != x48.fFlags) with hg49 | hg49
     ·have h:=A4 hg49 h
      refine drS (SQ (fa hx48 (fa hg49 tt))) ?_
      exact hjj46 _ h _ _ (mp [] _ _ hB)
     ·have h:=A5 hg49 h
      obtain⟨x50,hx50,h⟩:=bindS h
      rcases bft (x38.fType != x50.fType) with hg51 | hg51
      ·have h:=A4 hg51 h
       refine drS (SQ (fa hx48 (fa hg49 (fa hx50 (fa hg51 tt))))) ?_
       exact hjj46 _ h _ _ (mp [] _ _ hB)
      ·have h:=A5 hg51 h
       obtain⟨x52,hx52,h⟩:=bindS h
       apply dr (c (fo 1006 0 [0] hN underlying69 0 tyS3 (q 6)) rfl (c (la hN 69 tyS3 (q 19)) rfl (c (mv hN (q 1)) rfl (c (mv hN (q 5)) rfl (c (indexD underlying33 tyS69 (E9 hx48).1 (Q3 A7 (E9 hx48).2) (L rfl) (q 21) (q 22)) rfl (c (fieldD underlying69 (by rfl) (o:=0) (by rfl) tyS3 (by decide) (by rfl) (by rfl) (L rfl) (q 23)) rfl (c (loadD tyS3 (by rfl) (by rfl) (L rfl) (q 24)) rfl (c (neqI (L rfl) (q 20) (q 25)) rfl (c (OpJ.val (v':=.d (.bool false)) (by rw [hg49]<;>rfl) (mv hN (q 26))) rfl (c (gd 27 (fo 1006 1 [1] hN underlying69 1 tyS3 (q 6))) rfl (c (gd 27 (la hN 69 tyS3 (q 28))) rfl (c (gd 27 (mv hN (q 1))) rfl (c (gd 27 (mv hN (q 5))) rfl (c (gd 27 (indexD underlying33 tyS69 (E9 hx50).1 (Q3 A7 (E9 hx50).2) (L rfl) (q 30) (q 31))) rfl (c (gd 27 (fieldD underlying69 (by rfl) (o:=1) (by rfl) tyS3 (by decide) (by rfl) (by rfl) (L rfl) (q 32))) rfl (c (gd 27 (loadD tyS3 (by rfl) (by rfl) (L rfl) (q 33))) rfl (c (gd 27 (neqI (L rfl) (q 29) (q 34))) rfl (c (pickF (L rfl) (q 27) (q 35)) rfl (c (OpJ.val (v':=.d (.bool false)) (by rw [hg51]<;>rfl) (mv hN (q 36))) rfl (c (gd 37 (fo 1006 2 [2] hN underlying69 2 tyS67 (q 6))) rfl (c (gd 37 (la hN 69 tyS67 (q 38))) rfl (cg (gd 37 (OpJ.bytesStr (xs:=x38.fData) tyU67 underlying5 underlying9 (L rfl) (q 39))) rfl (c (gd 37 (mv hN (q 1))) rfl (c (gd 37 (mv hN (q 5))) rfl (c (gd 37 (indexD underlying33 tyS69 (E9 hx52).1 (Q3 A7 (E9 hx52).2) (L rfl) (q 41) (q 42))) rfl (c (gd 37 (fieldD underlying69 (by rfl) (o:=2) (by rfl) tyS67 (by decide) (by rfl) (by rfl) (L rfl) (q 43))) rfl (c (gd 37 (loadD tyS67 (by rfl) (by rfl) (L rfl) (q 44))) rfl (cg (gd 37 (OpJ.bytesStr (xs:=x52.fData) tyU67 underlying5 underlying9 (L rfl) (q 45))) rfl (cg (gd 37 (OpJ.neqS (L rfl) (q 40) (q 46))) rfl (c (pickF (L rfl) (q 37) (q 47)) rfl cn)))))))))))))))))))))))))))))) (by kernel_rfl) (by kernel_rfl)
       exact hjj46 _ h _ _ (mp [] _ _ hB)
   ·have h:=A5 hg37 h
    apply AWp.exit
    apply D8
    obtain rfl:=oi h
    exact⟨(fun hc=>by cases hc),rfl,(mp [] _ _ hB)⟩
  ·rcases x53 with _ | _
   ·obtain⟨rfl,hmat⟩:=hR
    apply D4
    apply B3
    obtain rfl:=oi h
    exact rt (Mat.trans hmat (mp [] [(4,(bo false))] [] hB)) [(bo false)] (rT rN) rfl
   ·obtain⟨rfl,hmat⟩:=hR
    apply C3
    apply A0
    refine ghost hmat ?_
    refine sr (SQ tt) ?_
    apply ret
    obtain rfl:=oi h
    exact rt (kp [(4,_)] [] hB rfl rfl (by rfl)) [(bo true)] (rT rN) rfl
def A0e (a0:C8) (a1:C8):Option (Bool) :=
 jn (fun m9:Bool =>
 some m9) (fun j10 =>
 (if (a0.fOrigin==a1.fOrigin)=true then
 (A1u a0.fPath a1.fPath).bind fun r12 =>
 (if ((((r12&&((a0.fNext.fV6==a1.fNext.fV6)&&((a0.fNext.fHi==a1.fNext.fHi)&&((a0.fNext.fLo==a1.fNext.fLo)&&true))))&&(a0.fMED==a1.fMED))&&(a0.fPref==a1.fPref))&&(a0.fOTC==a1.fOTC))=true then
 (A1v a0.fCommunities a1.fCommunities).bind fun r14 =>
 (if r14=true then
 (R5 a0.fLarge a1.fLarge).bind fun r16 =>
 (if r16=true then
 (T9 a0.fOther a1.fOther).bind fun r18 =>
 j10 r18
 else
 j10 false)
 else
 j10 false)
 else
 j10 false)
 else
 j10 false))
theorem A8u (a0:C8) (a1:C8) (r:Bool) (h:A0e a0 a1=some r):AC Tryz.prog 43 [(.d (B9 a0)),(.d (B9 a1))] [] (.d (.bool r)) []:=by
 refine ac2 Tryz.func43 rfl rfl fun B hB hN L => ?_
 delta A0e at h
 refine sr (SQ tt) ?_
 apply seq
 refine AWp.cut h (fun m9:Bool=>([(4,(bo m9))]:EL)) (fun m9:Bool=>([]:OL)) (fun m9 h E' O' hmat => ?_) (fun j10 hjj10 h => ?_)
 ·apply A0
  refine ghost hmat ?_
  apply ret
  obtain rfl:=oi h
  exact rt (kp [(4,_)] [] hB rfl rfl (by rfl)) [(bo m9)] (rT rN) rfl
 ·rcases bft (a0.fOrigin==a1.fOrigin) with hg11 | hg11
  ·have h:=A4 hg11 h
   obtain⟨r12,hr12,h⟩:=bindS h
   rcases bft ((((r12&&((a0.fNext.fV6==a1.fNext.fV6)&&((a0.fNext.fHi==a1.fNext.fHi)&&((a0.fNext.fLo==a1.fNext.fLo)&&true))))&&(a0.fMED==a1.fMED))&&(a0.fPref==a1.fPref))&&(a0.fOTC==a1.fOTC)) with hg13 | hg13
   ·have h:=A4 hg13 h
    obtain⟨r14,hr14,h⟩:=bindS h
    rcases bft r14 with hg15 | hg15
    ·have h:=A4 hg15 h
     obtain⟨r16,hr16,h⟩:=bindS h
     rcases bft r16 with hg17 | hg17
     ·have h:=A4 hg17 h
      obtain⟨r18,hr18,h⟩:=bindS h
      refine rg (SQ (fa hg11 (fa (cl [] (A14 a0.fPath a1.fPath r12 hr12)) (fa hg13 (fa (cl [] (A2v a0.fCommunities a1.fCommunities r14 hr14)) (fa hg15 (fa (cl [] (A2b a0.fLarge a1.fLarge r16 hr16)) (fa hg17 (fa (cl [] (A5x a0.fOther a1.fOther r18 hr18)) tt))))))))) ?_
      exact hjj10 _ h _ _ (mp [] _ _ hB)
     ·have h:=A5 hg17 h
      refine rg (SQ (fa hg11 (fa (cl [] (A14 a0.fPath a1.fPath r12 hr12)) (fa hg13 (fa (cl [] (A2v a0.fCommunities a1.fCommunities r14 hr14)) (fa hg15 (fa (cl [] (A2b a0.fLarge a1.fLarge r16 hr16)) (fa hg17 tt)))))))) ?_
      exact hjj10 _ h _ _ (mp [] _ _ hB)
    ·have h:=A5 hg15 h
     refine rg (SQ (fa hg11 (fa (cl [] (A14 a0.fPath a1.fPath r12 hr12)) (fa hg13 (fa (cl [] (A2v a0.fCommunities a1.fCommunities r14 hr14)) (fa hg15 tt)))))) ?_
     exact hjj10 _ h _ _ (mp [] _ _ hB)
   ·have h:=A5 hg13 h
    refine rg (SQ (fa hg11 (fa (cl [] (A14 a0.fPath a1.fPath r12 hr12)) (fa hg13 tt)))) ?_
    exact hjj10 _ h _ _ (mp [] _ _ hB)
  ·have h:=A5 hg11 h
   refine rg (SQ (fa hg11 tt)) ?_
   exact hjj10 _ h _ _ (mp [] _ _ hB)
def Y5 (a0:Int):Option (Int) :=
 jn (fun m4:Bool =>
 (if m4=true then
 some 64
 else
 (if (a0==4)=true then
 some 128
 else
 jn (fun m10:Bool =>
 (if m10=true then
 some 192
 else
 some 0)) (fun j11 =>
 (if (a0==8)=true then
 j11 (a0==8)
 else
 (if (a0==32)=true then
 j11 (a0==32)
 else
 j11 (a0==35))))))) (fun j5 =>
 (if (a0==1)=true then
 j5 (a0==1)
 else
 (if (a0==2)=true then
 j5 (a0==2)
 else
 (if (a0==3)=true then
 j5 (a0==3)
 else
 j5 (a0==5)))))
theorem A4g (a0:Int) (r:Int) (h:Y5 a0=some r):AC Tryz.prog 101 [(.d (.int .i64 a0))] [] (.d (.int .i64 r)) []:=by
 refine ac2 Tryz.func101 rfl rfl fun B hB hN L => ?_
 delta Y5 at h
 refine sr (SQ tt) ?_
 apply seq
 refine sr (SQ tt) ?_
 apply block
 apply seq
 refine sr (SQ tt) ?_
 refine gh [(3,_),(4,_)] [] hB rfl rfl (by rfl) ?_
 refine AWp.cut h (fun m4:Bool=>([(3,(i6 a0)),(4,(bo m4))]:EL)) (fun m4:Bool=>([]:OL)) (fun m4 h E' O' hmat => ?_) (fun j5 hjj5 h => ?_)
 ·apply A0
  refine ghost hmat ?_
  apply AWp.cond rfl<;>intro hg6
  ·have h:=A4 hg6 h
   refine sr (SQ tt) ?_
   apply ret
   apply D4
   apply B3
   obtain rfl:=oi h
   exact rt (kp [(2,_)] [] hB rfl rfl (by rfl)) [(i6 64)] (rT rN) rfl
  ·have h:=A5 hg6 h
   refine sr (SQ tt) ?_
   apply AWp.cond rfl<;>intro hg7
   ·have h:=A4 hg7 h
    refine sr (SQ tt) ?_
    apply ret
    apply D4
    apply B3
    obtain rfl:=oi h
    exact rt (kp [(2,_)] [] hB rfl rfl (by rfl)) [(i6 128)] (rT rN) rfl
   ·have h:=A5 hg7 h
    apply seq
    refine sr (SQ tt) ?_
    refine gh [(3,_),(11,_)] [] hB rfl rfl (by rfl) ?_
    refine AWp.cut h (fun m10:Bool=>([(11,(bo m10))]:EL)) (fun m10:Bool=>([]:OL)) (fun m10 h E' O' hmat => ?_) (fun j11 hjj11 h => ?_)
    ·apply A0
     refine ghost hmat ?_
     apply AWp.cond rfl<;>intro hg12
     ·have h:=A4 hg12 h
      refine sr (SQ tt) ?_
      apply ret
      apply D4
      apply B3
      obtain rfl:=oi h
      exact rt (kp [(2,_)] [] hB rfl rfl (by rfl)) [(i6 192)] (rT rN) rfl
     ·have h:=A5 hg12 h
      apply AWp.skip
      apply D7
      apply A0
      refine sr (SQ tt) ?_
      apply ret
      obtain rfl:=oi h
      exact rt (kp [(2,_)] [] hB rfl rfl (by rfl)) [(i6 0)] (rT rN) rfl
    ·apply AWp.cond rfl<;>intro hg13
     ·have h:=A4 hg13 h
      apply AWp.skip
      exact hjj11 _ h _ _ (mp [] _ _ hB)
     ·have h:=A5 hg13 h
      refine sr (SQ tt) ?_
      apply AWp.cond rfl<;>intro hg14
      ·have h:=A4 hg14 h
       apply AWp.skip
       exact hjj11 _ h _ _ (mp [] _ _ hB)
      ·have h:=A5 hg14 h
       refine rg (SQ tt) ?_
       exact hjj11 _ h _ _ (mp [] _ _ hB)
 ·apply AWp.cond rfl<;>intro hg15
  ·have h:=A4 hg15 h
   apply AWp.skip
   exact hjj5 _ h _ _ (mp [] _ _ hB)
  ·have h:=A5 hg15 h
   refine sr (SQ tt) ?_
   apply AWp.cond rfl<;>intro hg16
   ·have h:=A4 hg16 h
    apply AWp.skip
    exact hjj5 _ h _ _ (mp [] _ _ hB)
   ·have h:=A5 hg16 h
    refine sr (SQ tt) ?_
    apply AWp.cond rfl<;>intro hg17
    ·have h:=A4 hg17 h
     apply AWp.skip
     exact hjj5 _ h _ _ (mp [] _ _ hB)
    ·have h:=A5 hg17 h
     refine rg (SQ tt) ?_
     exact hjj5 _ h _ _ (mp [] _ _ hB)
def A2w (a0:Int):Option (Bool) :=
 (Y5 a0).bind fun r1 =>
 some (((r1==0)&&(a0 != 14))&&(a0 != 15))
theorem A16 (a0:Int) (r:Bool) (h:A2w a0=some r):AC Tryz.prog 77 [(.d (.int .i64 a0))] [] (.d (.bool r)) []:=by
 refine AC.of_code2 Tryz.func77 rfl rfl (Nat.le_of_ble_eq_true (by rfl)) fun B hB hN => ?_
 delta A2w at h
 refine sr (SQ tt) ?_
 obtain⟨r1,hr1,h⟩:=bindS h
 refine sr (SQ (fa (cl [] (A4g a0 r1 hr1)) tt)) ?_
 apply ret
 obtain rfl:=oi h
 exact rt (kp [(2,_)] [] hB rfl rfl (by rfl)) [(bo (((r1==0)&&(a0 != 14))&&(a0 != 15)))] (rT rN) rfl
def U0 (x105:B2) (s112:Int):Option (((Unit)⊕(Unit))⊕(Int)) :=
 (if (decide (s112<(x105.fASNs.length:Int)))=true then
 (idx x105.fASNs s112).bind fun x138 =>
 jn (fun m142:Bool =>
 (if m142=true then
 some (.inl (.inl ()))
 else
 some (.inr (w64 (s112+1))))) (fun j143 =>
 (if ((decide (x138<1)) || (decide (4294967295<x138)))=true then
 j143 true
 else
 (if (x105.fSet&&(decide (0<s112)))=true then
 (idx x105.fASNs (w64 (s112-1))).bind fun x147 =>
 j143 (decide (x138≤x147))
 else
 j143 false)))
 else
 some (.inl (.inr ())))
def U1 (a0:(List B2)) (s1:Int×Int):Option (((Unit)⊕(Int))⊕(Int×Int)) :=
 (if (decide (s1.2<(a0.length:Int)))=true then
 (idx a0 s1.2).bind fun x105 =>
 jn (fun m109:Bool =>
 (if m109=true then
 some (.inl (.inl ()))
 else
 (loop (U0 x105) 0).bind fun x148=>match x148 with
 | (.inl _) =>
  some (.inl (.inl ()))
 | (.inr _) =>
  some (.inr ((w64 (s1.1+(x105.fASNs.length:Int))),(w64 (s1.2+1)))))) (fun j110 =>
 (if ((x105.fASNs.length:Int)==0)=true then
 j110 true
 else
 (if ((decide (0<s1.2))&&(!x105.fSet))=true then
 (idx a0 (w64 (s1.2-1))).bind fun x152 =>
 j110 (!x152.fSet)
 else
 j110 false)))
 else
 some (.inl (.inr s1.1)))
def A17 (a0:(List B2)):Option (Bool) :=
 (loop (U1 a0) (0,0)).bind fun x153=>match x153 with
 | (.inl _) =>
  some false
 | (.inr p103) =>
  some (decide (p103≤64))
theorem M4 (a0:(List B2)) (r:Bool) (h:A17 a0=some r):AC Tryz.prog 71 [(.d (.list 2 (a0.map C7)))] [] (.d (.bool r)) []:=by
 refine ac2 Tryz.func71 rfl rfl fun B hB hN L => ?_
 delta A17 at h
 refine sr (SQ tt) ?_
 refine sr (SQ tt) ?_
 apply seq
 refine sr (SQ tt) ?_
 apply block
 obtain⟨x153,hx154,h⟩:=bindS h
 refine lg (U1 a0) (fun s1:Int×Int=>([(0,(B5 a0)),(3,(i6 s1.1)),(8,(B5 a0)),(9,(i6 (a0.length:Int))),(10,(i6 s1.2))]:EL)) (fun s1:Int×Int=>([]:OL)) (fun(x:(Unit)⊕(Int)) e E' O'=>match x with | (.inl _p)=>e = .ret∧Mat B E' O' ([(2,(bo false))]:EL) ([]:OL) | (.inr p103)=>e = .exit 0∧Mat B E' O' ([(3,(i6 p103))]:EL) ([]:OL)) hx154 (mp [] _ _ hB) (fun s1 y h => ?_) (fun e E' O' hR => ?_)
 ·unfold U1 at h
  refine sr (SQ tt) ?_
  apply seq
  apply AWp.cond rfl<;>intro hg104
  ·have h:=A4 hg104 h
   apply AWp.skip
   apply A0
   apply seq
   apply block
   obtain⟨x105,hx105,h⟩:=bindS h
   refine sr (SQ (fa hx105 tt)) ?_
   apply seq
   apply seq
   refine AWp.cut h (fun m109:Bool=>([(0,(B5 a0)),(3,(i6 s1.1)),(5,(pt 1005)),(8,(B5 a0)),(9,(i6 (a0.length:Int))),(10,(i6 s1.2)),(36,(bo m109))]:EL)) (fun m109:Bool=>([(1005,bd 66 (C7 x105))]:OL)) (fun m109 h E' O' hmat => ?_) (fun j110 hjj110 h => ?_)
   ·apply A0
    refine ghost hmat ?_
    apply AWp.cond rfl<;>intro hg111
    ·have h:=A4 hg111 h
     refine sr (SQ tt) ?_
     apply ret
     apply B3
     apply D4
     apply B3
     obtain rfl:=oi h
     exact⟨(fun hc=>by cases hc),rfl,(mp [] _ _ hB)⟩
    ·have h:=A5 hg111 h
     apply AWp.skip
     apply A0
     apply seq
     refine sr (SQ tt) ?_
     apply block
     obtain⟨x148,hx149,h⟩:=bindS h
     refine lg (U0 x105) (fun s112:Int=>([(0,(B5 a0)),(3,(i6 s1.1)),(5,(pt 1005)),(8,(B5 a0)),(9,(i6 (a0.length:Int))),(10,(i6 s1.2)),(38,(qI_1 x105.fASNs)),(39,(i6 (x105.fASNs.length:Int))),(40,(i6 s112))]:EL)) (fun s112:Int=>([(1005,bd 66 (C7 x105))]:OL)) (fun(x:(Unit)⊕(Unit)) e E' O'=>match x with | (.inl _p)=>e = .ret∧Mat B E' O' ([(2,(bo false))]:EL) ([]:OL) | (.inr _p)=>e = .exit 2∧Mat B E' O' ([(0,(B5 a0)),(3,(i6 s1.1)),(5,(pt 1005)),(8,(B5 a0)),(9,(i6 (a0.length:Int))),(10,(i6 s1.2))]:EL) ([(1005,bd 66 (C7 x105))]:OL)) hx149 (mp [] _ _ hB) (fun s112 y h => ?_) (fun e E' O' hR => ?_)
     ·unfold U0 at h
      refine sr (SQ tt) ?_
      apply seq
      apply AWp.cond rfl<;>intro hg137
      ·have h:=A4 hg137 h
       apply AWp.skip
       apply A0
       apply seq
       apply block
       obtain⟨x138,hx138,h⟩:=bindS h
       refine sr (SQ (fa hx138 tt)) ?_
       apply seq
       refine AWp.cut h (fun m142:Bool=>([(0,(B5 a0)),(3,(i6 s1.1)),(5,(pt 1005)),(8,(B5 a0)),(9,(i6 (a0.length:Int))),(10,(i6 s1.2)),(38,(qI_1 x105.fASNs)),(39,(i6 (x105.fASNs.length:Int))),(40,(i6 s112)),(68,(bo m142))]:EL)) (fun m142:Bool=>([(1005,bd 66 (C7 x105))]:OL)) (fun m142 h E' O' hmat => ?_) (fun j143 hjj143 h => ?_)
       ·apply A0
        refine ghost hmat ?_
        apply AWp.cond rfl<;>intro hg144
        ·have h:=A4 hg144 h
         refine sr (SQ tt) ?_
         apply ret
         apply D4
         apply B3
         obtain rfl:=oi h
         exact⟨(fun hc=>by cases hc),rfl,(mp [] _ _ hB)⟩
        ·have h:=A5 hg144 h
         apply AWp.skip
         apply D7
         apply A0
         refine rg (SQ tt) ?_
         obtain rfl:=oi h
         exact⟨rfl,(mp [] _ _ hB)⟩
       ·rcases bft ((decide (x138<1)) || (decide (4294967295<x138))) with hg145 | hg145
        ·have h:=A4 hg145 h
         refine rg (SQ (fa hg145 tt)) ?_
         exact hjj143 _ h _ _ (mp [] _ _ hB)
        ·have h:=A5 hg145 h
         rcases bft (x105.fSet&&(decide (0<s112))) with hg146 | hg146
         ·have h:=A4 hg146 h
          obtain⟨_,hx147,h⟩:=bindS h
          refine rg (SQ (fa hg145 (fa hg146 (fa hx147 tt)))) ?_
          exact hjj143 _ h _ _ (mp [] _ _ hB)
         ·have h:=A5 hg146 h
          refine rg (SQ (fa hg145 (fa hg146 tt))) ?_
          exact hjj143 _ h _ _ (mp [] _ _ hB)
      ·have h:=A5 hg137 h
       apply AWp.exit
       apply D8
       obtain rfl:=oi h
       exact⟨(fun hc=>by cases hc),rfl,(mp [] _ _ hB)⟩
     ·rcases x148 with _ | _
      ·obtain⟨rfl,hmat⟩:=hR
       apply D4
       apply B3
       apply D4
       apply B3
       obtain rfl:=oi h
       exact⟨(fun hc=>by cases hc),rfl,(Mat.trans hmat (mp [] _ _ hB))⟩
      ·obtain⟨rfl,hmat⟩:=hR
       apply C3
       apply A0
       refine ghost hmat ?_
       refine rg (SQ tt) ?_
       apply D7
       apply A0
       refine rg (SQ tt) ?_
       obtain rfl:=oi h
       exact⟨rfl,(mp [] _ _ hB)⟩
   ·rcases bft ((x105.fASNs.length:Int)==0) with hg150 | hg150
    ·have h:=A4 hg150 h
     refine rg (SQ (fa hg150 tt)) ?_
     exact hjj110 _ h _ _ (mp [] _ _ hB)
    ·have h:=A5 hg150 h
     rcases bft ((decide (0<s1.2))&&(!x105.fSet)) with hg151 | hg151
     ·have h:=A4 hg151 h
      obtain⟨_,hx152,h⟩:=bindS h
      refine rg (SQ (fa hg150 (fa hg151 (fa hx152 tt)))) ?_
      exact hjj110 _ h _ _ (mp [] _ _ hB)
     ·have h:=A5 hg151 h
      refine rg (SQ (fa hg150 (fa hg151 tt))) ?_
      exact hjj110 _ h _ _ (mp [] _ _ hB)
  ·have h:=A5 hg104 h
   apply AWp.exit
   apply D8
   obtain rfl:=oi h
   exact⟨(fun hc=>by cases hc),rfl,(mp [] _ _ hB)⟩
 ·rcases x153 with _ | p103
  ·obtain⟨rfl,hmat⟩:=hR
   apply D4
   apply B3
   obtain rfl:=oi h
   exact rt (Mat.trans hmat (mp [] [(2,(bo false))] [] hB)) [(bo false)] (rT rN) rfl
  ·obtain⟨rfl,hmat⟩:=hR
   apply C3
   apply A0
   refine ghost hmat ?_
   refine sr (SQ tt) ?_
   apply ret
   obtain rfl:=oi h
   exact rt (kp [(2,_)] [] hB rfl rfl (by rfl)) [(bo (decide (p103≤64)))] (rT rN) rfl
def A49 (a0:A9):Option (Bool) :=
 some ((((decide (0≤a0.fA))&&(decide (a0.fA≤65535)))&&(decide (0≤a0.fB)))&&(decide (a0.fB≤65535)))
theorem A27 (a0:A9) (r:Bool) (h:A49 a0=some r):AC Tryz.prog 102 [(.d (C0 a0))] [] (.d (.bool r)) []:=by
 refine AC.of_code2 Tryz.func102 rfl rfl (Nat.le_of_ble_eq_true (by rfl)) fun B hB hN => ?_
 delta A49 at h
 refine sr (SQ tt) ?_
 refine sr (SQ tt) ?_
 apply ret
 obtain rfl:=oi h
 exact rt (kp [(2,_)] [] hB rfl rfl (by rfl)) [(bo ((((decide (0≤a0.fA))&&(decide (a0.fA≤65535)))&&(decide (0≤a0.fB)))&&(decide (a0.fB≤65535))))] (rT rN) rfl
def A59 (a0:A9) (a1:A9):Option (Bool) :=
 jn (fun m2:Bool =>
 some m2) (fun j3 =>
 (if (decide (a0.fA<a1.fA))=true then
 j3 true
 else
 j3 ((a0.fA==a1.fA)&&(decide (a0.fB<a1.fB)))))
theorem A8v (a0:A9) (a1:A9) (r:Bool) (h:A59 a0 a1=some r):AC Tryz.prog 103 [(.d (C0 a0)),(.d (C0 a1))] [] (.d (.bool r)) []:=by
 refine ac2 Tryz.func103 rfl rfl fun B hB hN L => ?_
 delta A59 at h
 refine sr (SQ tt) ?_
 apply seq
 refine AWp.cut h (fun m2:Bool=>([(4,(bo m2))]:EL)) (fun m2:Bool=>([]:OL)) (fun m2 h E' O' hmat => ?_) (fun j3 hjj3 h => ?_)
 ·apply A0
  refine ghost hmat ?_
  apply ret
  obtain rfl:=oi h
  exact rt (kp [(4,_)] [] hB rfl rfl (by rfl)) [(bo m2)] (rT rN) rfl
 ·rcases bft (decide (a0.fA<a1.fA)) with hg4 | hg4
  ·have h:=A4 hg4 h
   refine rg (SQ (fa hg4 tt)) ?_
   exact hjj3 _ h _ _ (mp [] _ _ hB)
  ·have h:=A5 hg4 h
   refine rg (SQ (fa hg4 tt)) ?_
   exact hjj3 _ h _ _ (mp [] _ _ hB)
def Z8 (a0:(List A9)) (s1:Int):Option (((Unit)⊕(Unit))⊕(Int)) :=
 (if (decide (s1<(a0.length:Int)))=true then
 (idx a0 s1).bind fun x37 =>
 jn (fun m44:Bool =>
 (if m44=true then
 some (.inl (.inl ()))
 else
 some (.inr (w64 (s1+1))))) (fun j45 =>
 (A49 x37).bind fun r47 =>
 (if (!r47)=true then
 j45 true
 else
 (if (decide (0<s1))=true then
 (idx a0 (w64 (s1-1))).bind fun x50 =>
 (A59 x50 x37).bind fun r51 =>
 j45 (!r51)
 else
 j45 false)))
 else
 some (.inl (.inr ())))
def Y6 (a0:(List A9)):Option (Bool) :=
 (loop (Z8 a0) 0).bind fun x52=>match x52 with
 | (.inl _) =>
  some false
 | (.inr _) =>
  some (decide ((a0.length:Int)≤64))
theorem Z9 (a0:(List A9)) (r:Bool) (h:Y6 a0=some r):AC Tryz.prog 79 [(.d (.list 2 (a0.map C0)))] [] (.d (.bool r)) []:=by
 refine ac2 Tryz.func79 rfl rfl fun B hB hN L => ?_
 delta Y6 at h
 refine sr (SQ tt) ?_
 apply seq
 refine sr (SQ tt) ?_
 apply block
 obtain⟨x52,hx53,h⟩:=bindS h
 refine lg (Z8 a0) (fun s1:Int=>([(0,(B4 a0)),(5,(B4 a0)),(6,(i6 (a0.length:Int))),(7,(i6 s1))]:EL)) (fun s1:Int=>([]:OL)) (fun(x:(Unit)⊕(Unit)) e E' O'=>match x with | (.inl _p)=>e = .ret∧Mat B E' O' ([(2,(bo false))]:EL) ([]:OL) | (.inr _p)=>e = .exit 0∧Mat B E' O' ([(0,(B4 a0))]:EL) ([]:OL)) hx53 (mp [] _ _ hB) (fun s1 y h => ?_) (fun e E' O' hR => ?_)
 ·unfold Z8 at h
  refine sr (SQ tt) ?_
  apply seq
  apply AWp.cond rfl<;>intro hg36
  ·have h:=A4 hg36 h
   apply AWp.skip
   apply A0
   apply seq
   apply block
   obtain⟨x37,hx37,h⟩:=bindS h
   refine sr (SQ (fa hx37 tt)) ?_
   apply seq
   refine AWp.cut h (fun m44:Bool=>([(0,(B4 a0)),(5,(B4 a0)),(6,(i6 (a0.length:Int))),(7,(i6 s1)),(28,(bo m44))]:EL)) (fun m44:Bool=>([]:OL)) (fun m44 h E' O' hmat => ?_) (fun j45 hjj45 h => ?_)
   ·apply A0
    refine ghost hmat ?_
    apply AWp.cond rfl<;>intro hg46
    ·have h:=A4 hg46 h
     refine sr (SQ tt) ?_
     apply ret
     apply D4
     apply B3
     obtain rfl:=oi h
     exact⟨(fun hc=>by cases hc),rfl,(mp [] _ _ hB)⟩
    ·have h:=A5 hg46 h
     apply AWp.skip
     apply D7
     apply A0
     refine rg (SQ tt) ?_
     obtain rfl:=oi h
     exact⟨rfl,(mp [] _ _ hB)⟩
   ·obtain⟨r47,hr47,h⟩:=bindS h
    rcases bft (!r47) with hg48 | hg48
    ·have h:=A4 hg48 h
     refine drS (SQ (fa (cl [] (A27 x37 r47 hr47)) (fa hg48 tt))) ?_
     exact hjj45 _ h _ _ (mp [] _ _ hB)
    ·have h:=A5 hg48 h
     rcases bft (decide (0<s1)) with hg49 | hg49
     ·have h:=A4 hg49 h
      obtain⟨x50,hx50,h⟩:=bindS h
      obtain⟨r51,hr51,h⟩:=bindS h
      refine drS (SQ (fa (cl [] (A27 x37 r47 hr47)) (fa hg48 (fa hg49 (fa hx50 (fa (cl [] (A8v x50 x37 r51 hr51)) tt)))))) ?_
      exact hjj45 _ h _ _ (mp [] _ _ hB)
     ·have h:=A5 hg49 h
      refine drS (SQ (fa (cl [] (A27 x37 r47 hr47)) (fa hg48 (fa hg49 tt)))) ?_
      exact hjj45 _ h _ _ (mp [] _ _ hB)
  ·have h:=A5 hg36 h
   apply AWp.exit
   apply D8
   obtain rfl:=oi h
   exact⟨(fun hc=>by cases hc),rfl,(mp [] _ _ hB)⟩
 ·rcases x52 with _ | _
  ·obtain⟨rfl,hmat⟩:=hR
   apply D4
   apply B3
   obtain rfl:=oi h
   exact rt (Mat.trans hmat (mp [] [(2,(bo false))] [] hB)) [(bo false)] (rT rN) rfl
  ·obtain⟨rfl,hmat⟩:=hR
   apply C3
   apply A0
   refine ghost hmat ?_
   refine sr (SQ tt) ?_
   apply ret
   obtain rfl:=oi h
   exact rt (kp [(2,_)] [] hB rfl rfl (by rfl)) [(bo (decide ((a0.length:Int)≤64)))] (rT rN) rfl
def A18 (a0:E0):Option (Bool) :=
 some ((((((decide (0≤a0.fA))&&(decide (a0.fA≤4294967295)))&&(decide (0≤a0.fB)))&&(decide (a0.fB≤4294967295)))&&(decide (0≤a0.fC)))&&(decide (a0.fC≤4294967295)))
theorem W9 (a0:E0) (r:Bool) (h:A18 a0=some r):AC Tryz.prog 104 [(.d (D9 a0))] [] (.d (.bool r)) []:=by
 refine ac2 Tryz.func104 rfl rfl fun B hB hN L => ?_
 delta A18 at h
 refine sr (SQ tt) ?_
 refine sr (SQ tt) ?_
 apply ret
 obtain rfl:=oi h
 exact rt (kp [(2,_)] [] hB rfl rfl (by rfl)) [(bo ((((((decide (0≤a0.fA))&&(decide (a0.fA≤4294967295)))&&(decide (0≤a0.fB)))&&(decide (a0.fB≤4294967295)))&&(decide (0≤a0.fC)))&&(decide (a0.fC≤4294967295))))] (rT rN) rfl
def A1h (a0:E0) (a1:E0):Option (Bool) :=
 jn (fun m4:Bool =>
 some m4) (fun j5 =>
 (if (decide (a0.fA<a1.fA))=true then
 j5 true
 else
 (if (a0.fA==a1.fA)=true then
 (if (decide (a0.fB<a1.fB))=true then
 j5 true
 else
 j5 ((a0.fB==a1.fB)&&(decide (a0.fC<a1.fC))))
 else
 j5 false)))
theorem A5l (a0:E0) (a1:E0) (r:Bool) (h:A1h a0 a1=some r):AC Tryz.prog 105 [(.d (D9 a0)),(.d (D9 a1))] [] (.d (.bool r)) []:=by
 refine ac2 Tryz.func105 rfl rfl fun B hB hN L => ?_
 delta A1h at h
 refine sr (SQ tt) ?_
 apply seq
 refine AWp.cut h (fun m4:Bool=>([(4,(bo m4))]:EL)) (fun m4:Bool=>([]:OL)) (fun m4 h E' O' hmat => ?_) (fun j5 hjj5 h => ?_)
 ·apply A0
  refine ghost hmat ?_
  apply ret
  obtain rfl:=oi h
  exact rt (kp [(4,_)] [] hB rfl rfl (by rfl)) [(bo m4)] (rT rN) rfl
 ·rcases bft (decide (a0.fA<a1.fA)) with hg6 | hg6
  ·have h:=A4 hg6 h
   refine rg (SQ (fa hg6 tt)) ?_
   exact hjj5 _ h _ _ (mp [] _ _ hB)
  ·have h:=A5 hg6 h
   rcases bft (a0.fA==a1.fA) with hg7 | hg7
   ·have h:=A4 hg7 h
    rcases bft (decide (a0.fB<a1.fB)) with hg8 | hg8
    ·have h:=A4 hg8 h
     refine rg (SQ (fa hg6 (fa hg7 (fa hg8 tt)))) ?_
     exact hjj5 _ h _ _ (mp [] _ _ hB)
    ·have h:=A5 hg8 h
     refine rg (SQ (fa hg6 (fa hg7 (fa hg8 tt)))) ?_
     exact hjj5 _ h _ _ (mp [] _ _ hB)
   ·have h:=A5 hg7 h
    refine rg (SQ (fa hg6 (fa hg7 tt))) ?_
    exact hjj5 _ h _ _ (mp [] _ _ hB)
def Q0 (a0:(List E0)) (s1:Int):Option (((Unit)⊕(Unit))⊕(Int)) :=
 (if (decide (s1<(a0.length:Int)))=true then
 (idx a0 s1).bind fun x37 =>
 jn (fun m44:Bool =>
 (if m44=true then
 some (.inl (.inl ()))
 else
 some (.inr (w64 (s1+1))))) (fun j45 =>
 (A18 x37).bind fun r47 =>
 (if (!r47)=true then
 j45 true
 else
 (if (decide (0<s1))=true then
 (idx a0 (w64 (s1-1))).bind fun x50 =>
 (A1h x50 x37).bind fun r51 =>
 j45 (!r51)
 else
 j45 false)))
 else
 some (.inl (.inr ())))
def M1 (a0:(List E0)):Option (Bool) :=
 (loop (Q0 a0) 0).bind fun x52=>match x52 with
 | (.inl _) =>
  some false
 | (.inr _) =>
  some (decide ((a0.length:Int)≤64))
theorem A1w (a0:(List E0)) (r:Bool) (h:M1 a0=some r):AC Tryz.prog 80 [(.d (.list 3 (a0.map D9)))] [] (.d (.bool r)) []:=by
 refine ac2 Tryz.func80 rfl rfl fun B hB hN L => ?_
 delta M1 at h
 refine sr (SQ tt) ?_
 apply seq
 refine sr (SQ tt) ?_
 apply block
 obtain⟨x52,hx53,h⟩:=bindS h
 refine lg (Q0 a0) (fun s1:Int=>([(0,(D3 a0)),(5,(D3 a0)),(6,(i6 (a0.length:Int))),(7,(i6 s1))]:EL)) (fun s1:Int=>([]:OL)) (fun(x:(Unit)⊕(Unit)) e E' O'=>match x with | (.inl _p)=>e = .ret∧Mat B E' O' ([(2,(bo false))]:EL) ([]:OL) | (.inr _p)=>e = .exit 0∧Mat B E' O' ([(0,(D3 a0))]:EL) ([]:OL)) hx53 (mp [] _ _ hB) (fun s1 y h => ?_) (fun e E' O' hR => ?_)
 ·unfold Q0 at h
  refine sr (SQ tt) ?_
  apply seq
  apply AWp.cond rfl<;>intro hg36
  ·have h:=A4 hg36 h
   apply AWp.skip
   apply A0
   apply seq
   apply block
   obtain⟨x37,hx37,h⟩:=bindS h
   refine sr (SQ (fa hx37 tt)) ?_
   apply seq
   refine AWp.cut h (fun m44:Bool=>([(0,(D3 a0)),(5,(D3 a0)),(6,(i6 (a0.length:Int))),(7,(i6 s1)),(28,(bo m44))]:EL)) (fun m44:Bool=>([]:OL)) (fun m44 h E' O' hmat => ?_) (fun j45 hjj45 h => ?_)
   ·apply A0
    refine ghost hmat ?_
    apply AWp.cond rfl<;>intro hg46
    ·have h:=A4 hg46 h
     refine sr (SQ tt) ?_
     apply ret
     apply D4
     apply B3
     obtain rfl:=oi h
     exact⟨(fun hc=>by cases hc),rfl,(mp [] _ _ hB)⟩
    ·have h:=A5 hg46 h
     apply AWp.skip
     apply D7
     apply A0
     refine rg (SQ tt) ?_
     obtain rfl:=oi h
     exact⟨rfl,(mp [] _ _ hB)⟩
   ·obtain⟨r47,hr47,h⟩:=bindS h
    rcases bft (!r47) with hg48 | hg48
    ·have h:=A4 hg48 h
     refine drS (SQ (fa (cl [] (W9 x37 r47 hr47)) (fa hg48 tt))) ?_
     exact hjj45 _ h _ _ (mp [] _ _ hB)
    ·have h:=A5 hg48 h
     rcases bft (decide (0<s1)) with hg49 | hg49
     ·have h:=A4 hg49 h
      obtain⟨x50,hx50,h⟩:=bindS h
      obtain⟨r51,hr51,h⟩:=bindS h
      refine drS (SQ (fa (cl [] (W9 x37 r47 hr47)) (fa hg48 (fa hg49 (fa hx50 (fa (cl [] (A5l x50 x37 r51 hr51)) tt)))))) ?_
      exact hjj45 _ h _ _ (mp [] _ _ hB)
     ·have h:=A5 hg49 h
      refine drS (SQ (fa (cl [] (W9 x37 r47 hr47)) (fa hg48 (fa hg49 tt)))) ?_
      exact hjj45 _ h _ _ (mp [] _ _ hB)
  ·have h:=A5 hg36 h
   apply AWp.exit
   apply D8
   obtain rfl:=oi h
   exact⟨(fun hc=>by cases hc),rfl,(mp [] _ _ hB)⟩
 ·rcases x52 with _ | _
  ·obtain⟨rfl,hmat⟩:=hR
   apply D4
   apply B3
   obtain rfl:=oi h
   exact rt (Mat.trans hmat (mp [] [(2,(bo false))] [] hB)) [(bo false)] (rT rN) rfl
  ·obtain⟨rfl,hmat⟩:=hR
   apply C3
   apply A0
   refine ghost hmat ?_
   refine sr (SQ tt) ?_
   apply ret
   obtain rfl:=oi h
   exact rt (kp [(2,_)] [] hB rfl rfl (by rfl)) [(bo (decide ((a0.length:Int)≤64)))] (rT rN) rfl
def A00 (a0:C8) (s1:Int):Option (((Unit)⊕(Unit))⊕(Int)) :=
 (if (decide (s1<(a0.fOther.length:Int)))=true then
 (idx a0.fOther s1).bind fun x35 =>
 jn (fun m41:Bool =>
 (if m41=true then
 some (.inl (.inl ()))
 else
 some (.inr (w64 (s1+1))))) (fun j42 =>
 (if ((decide (x35.fType<1)) || (decide (255<x35.fType)))=true then
 j42 true
 else
 (A2w x35.fType).bind fun r45 =>
 (if (((!r45) || (x35.fFlags != 224)) || (decide (255<(x35.fData.length:Int))))=true then
 j42 true
 else
 (if (decide (0<s1))=true then
 (idx a0.fOther (w64 (s1-1))).bind fun x48 =>
 j42 (decide (x35.fType≤x48.fType))
 else
 j42 false))))
 else
 some (.inl (.inr ())))
def T0 (a0:C8):Option (Bool) :=
 (loop (A00 a0) 0).bind fun x49=>match x49 with
 | (.inl _) =>
  some false
 | (.inr _) =>
  jn (fun m64:Bool =>
  some m64) (fun j65 =>
  (if ((decide ((-1)≤a0.fOrigin))&&(decide (a0.fOrigin≤2)))=true then
  (A17 a0.fPath).bind fun r67 =>
  (if r67=true then
  (P9 a0.fNext).bind fun r69 =>
  (if ((((r69&&(decide ((-1)≤a0.fMED)))&&(decide (a0.fMED≤4294967295)))&&(decide ((-1)≤a0.fPref)))&&(decide (a0.fPref≤4294967295)))=true then
  (if (a0.fOTC==(-1))=true then
  (Y6 a0.fCommunities).bind fun r72 =>
  (if r72=true then
  (M1 a0.fLarge).bind fun r74 =>
  j65 (r74&&(decide ((a0.fOther.length:Int)≤8)))
  else
  j65 false)
  else
  (if ((decide (1≤a0.fOTC))&&(decide (a0.fOTC≤4294967295)))=true then
  (Y6 a0.fCommunities).bind fun r76 =>
  (if r76=true then
  (M1 a0.fLarge).bind fun r78 =>
  j65 (r78&&(decide ((a0.fOther.length:Int)≤8)))
  else
  j65 false)
  else
  j65 false))
  else
  j65 false)
  else
  j65 false)
  else
  j65 false))
theorem A4h (a0:C8) (r:Bool) (h:T0 a0=some r):AC Tryz.prog 44 [(.d (B9 a0))] [] (.d (.bool r)) []:=by
 refine ac2 Tryz.func44 rfl rfl fun B hB hN L => ?_
 delta T0 at h
 refine sr (SQ tt) ?_
 apply seq
 refine sr (SQ tt) ?_
 apply block
 obtain⟨x49,hx50,h⟩:=bindS h
 refine lg (A00 a0) (fun s1:Int=>([(1,(pt 1001)),(6,(B0 a0.fOther)),(7,(i6 (a0.fOther.length:Int))),(8,(i6 s1))]:EL)) (fun s1:Int=>([(1001,bd 35 (B9 a0))]:OL)) (fun(x:(Unit)⊕(Unit)) e E' O'=>match x with | (.inl _p)=>e = .ret∧Mat B E' O' ([(2,(bo false))]:EL) ([]:OL) | (.inr _p)=>e = .exit 0∧Mat B E' O' ([(1,(pt 1001))]:EL) ([(1001,bd 35 (B9 a0))]:OL)) hx50 (mp [] _ _ hB) (fun s1 y h => ?_) (fun e E' O' hR => ?_)
 ·unfold A00 at h
  refine sr (SQ tt) ?_
  apply seq
  apply AWp.cond rfl<;>intro hg34
  ·have h:=A4 hg34 h
   apply AWp.skip
   apply A0
   apply seq
   apply block
   obtain⟨x35,hx35,h⟩:=bindS h
   refine sr (SQ (fa hx35 tt)) ?_
   apply seq
   refine AWp.cut h (fun m41:Bool=>([(1,(pt 1001)),(6,(B0 a0.fOther)),(7,(i6 (a0.fOther.length:Int))),(8,(i6 s1)),(53,(bo m41))]:EL)) (fun m41:Bool=>([(1001,bd 35 (B9 a0))]:OL)) (fun m41 h E' O' hmat => ?_) (fun j42 hjj42 h => ?_)
   ·apply A0
    refine ghost hmat ?_
    apply AWp.cond rfl<;>intro hg43
    ·have h:=A4 hg43 h
     refine sr (SQ tt) ?_
     apply ret
     apply D4
     apply B3
     obtain rfl:=oi h
     exact⟨(fun hc=>by cases hc),rfl,(mp [] _ _ hB)⟩
    ·have h:=A5 hg43 h
     apply AWp.skip
     apply D7
     apply A0
     refine rg (SQ tt) ?_
     obtain rfl:=oi h
     exact⟨rfl,(mp [] _ _ hB)⟩
   ·rcases bft ((decide (x35.fType<1)) || (decide (255<x35.fType))) with hg44 | hg44
    ·have h:=A4 hg44 h
     refine drS (SQ (fa hg44 tt)) ?_
     exact hjj42 _ h _ _ (mp [] _ _ hB)
    ·have h:=A5 hg44 h
     obtain⟨r45,hr45,h⟩:=bindS h
     rcases bft (((!r45) || (x35.fFlags != 224)) || (decide (255<(x35.fData.length:Int)))) with hg46 | hg46
     ·have h:=A4 hg46 h
      refine drS (SQ (fa hg44 (fa (cl [] (A16 x35.fType r45 hr45)) (fa hg46 tt)))) ?_
      exact hjj42 _ h _ _ (mp [] _ _ hB)
     ·have h:=A5 hg46 h
      rcases bft (decide (0<s1)) with hg47 | hg47
      ·have h:=A4 hg47 h
       obtain⟨_,hx48,h⟩:=bindS h
       refine drS (SQ (fa hg44 (fa (cl [] (A16 x35.fType r45 hr45)) (fa hg46 (fa hg47 (fa hx48 tt)))))) ?_
       exact hjj42 _ h _ _ (mp [] _ _ hB)
      ·have h:=A5 hg47 h
       refine drS (SQ (fa hg44 (fa (cl [] (A16 x35.fType r45 hr45)) (fa hg46 (fa hg47 tt))))) ?_
       exact hjj42 _ h _ _ (mp [] _ _ hB)
  ·have h:=A5 hg34 h
   apply AWp.exit
   apply D8
   obtain rfl:=oi h
   exact⟨(fun hc=>by cases hc),rfl,(mp [] _ _ hB)⟩
 ·rcases x49 with _ | _
  ·obtain⟨rfl,hmat⟩:=hR
   apply D4
   apply B3
   obtain rfl:=oi h
   exact rt (Mat.trans hmat (mp [] [(2,(bo false))] [] hB)) [(bo false)] (rT rN) rfl
  ·obtain⟨rfl,hmat⟩:=hR
   apply C3
   apply A0
   refine ghost hmat ?_
   apply seq
   refine AWp.cut h (fun m64:Bool=>([(2,(bo m64))]:EL)) (fun m64:Bool=>([]:OL)) (fun m64 h E' O' hmat => ?_) (fun j65 hjj65 h => ?_)
   ·apply A0
    refine ghost hmat ?_
    apply ret
    obtain rfl:=oi h
    exact rt (kp [(2,_)] [] hB rfl rfl (by rfl)) [(bo m64)] (rT rN) rfl
   ·rcases bft ((decide ((-1)≤a0.fOrigin))&&(decide (a0.fOrigin≤2))) with hg66 | hg66
    ·have h:=A4 hg66 h
     obtain⟨r67,hr67,h⟩:=bindS h
     rcases bft r67 with hg68 | hg68
     ·have h:=A4 hg68 h
      obtain⟨r69,hr69,h⟩:=bindS h
      rcases bft ((((r69&&(decide ((-1)≤a0.fMED)))&&(decide (a0.fMED≤4294967295)))&&(decide ((-1)≤a0.fPref)))&&(decide (a0.fPref≤4294967295))) with hg70 | hg70
      ·have h:=A4 hg70 h
       rcases bft (a0.fOTC==(-1)) with hg71 | hg71
       ·have h:=A4 hg71 h
        obtain⟨r72,hr72,h⟩:=bindS h
        rcases bft r72 with hg73 | hg73
        ·have h:=A4 hg73 h
         obtain⟨r74,hr74,h⟩:=bindS h
         refine rg (SQ (fa hg66 (fa (cl [] (M4 a0.fPath r67 hr67)) (fa hg68 (fa (cl [] (I3 a0.fNext r69 hr69)) (fa hg70 (fa hg71 (fa (cl [] (Z9 a0.fCommunities r72 hr72)) (fa hg73 (fa (cl [] (A1w a0.fLarge r74 hr74)) tt)))))))))) ?_
         exact hjj65 _ h _ _ (mp [] _ _ hB)
        ·have h:=A5 hg73 h
         refine rg (SQ (fa hg66 (fa (cl [] (M4 a0.fPath r67 hr67)) (fa hg68 (fa (cl [] (I3 a0.fNext r69 hr69)) (fa hg70 (fa hg71 (fa (cl [] (Z9 a0.fCommunities r72 hr72)) (fa hg73 tt))))))))) ?_
         exact hjj65 _ h _ _ (mp [] _ _ hB)
       ·have h:=A5 hg71 h
        rcases bft ((decide (1≤a0.fOTC))&&(decide (a0.fOTC≤4294967295))) with hg75 | hg75
        ·have h:=A4 hg75 h
         obtain⟨r76,hr76,h⟩:=bindS h
         rcases bft r76 with hg77 | hg77
         ·have h:=A4 hg77 h
          obtain⟨r78,hr78,h⟩:=bindS h
          refine rg (SQ (fa hg66 (fa (cl [] (M4 a0.fPath r67 hr67)) (fa hg68 (fa (cl [] (I3 a0.fNext r69 hr69)) (fa hg70 (fa hg71 (fa hg75 (fa (cl [] (Z9 a0.fCommunities r76 hr76)) (fa hg77 (fa (cl [] (A1w a0.fLarge r78 hr78)) tt))))))))))) ?_
          exact hjj65 _ h _ _ (mp [] _ _ hB)
         ·have h:=A5 hg77 h
          refine rg (SQ (fa hg66 (fa (cl [] (M4 a0.fPath r67 hr67)) (fa hg68 (fa (cl [] (I3 a0.fNext r69 hr69)) (fa hg70 (fa hg71 (fa hg75 (fa (cl [] (Z9 a0.fCommunities r76 hr76)) (fa hg77 tt)))))))))) ?_
          exact hjj65 _ h _ _ (mp [] _ _ hB)
        ·have h:=A5 hg75 h
         refine rg (SQ (fa hg66 (fa (cl [] (M4 a0.fPath r67 hr67)) (fa hg68 (fa (cl [] (I3 a0.fNext r69 hr69)) (fa hg70 (fa hg71 (fa hg75 tt)))))))) ?_
         exact hjj65 _ h _ _ (mp [] _ _ hB)
      ·have h:=A5 hg70 h
       refine rg (SQ (fa hg66 (fa (cl [] (M4 a0.fPath r67 hr67)) (fa hg68 (fa (cl [] (I3 a0.fNext r69 hr69)) (fa hg70 tt)))))) ?_
       exact hjj65 _ h _ _ (mp [] _ _ hB)
     ·have h:=A5 hg68 h
      refine rg (SQ (fa hg66 (fa (cl [] (M4 a0.fPath r67 hr67)) (fa hg68 tt)))) ?_
      exact hjj65 _ h _ _ (mp [] _ _ hB)
    ·have h:=A5 hg66 h
     refine rg (SQ (fa hg66 tt)) ?_
     exact hjj65 _ h _ _ (mp [] _ _ hB)
def L8 (a0:Int) (s1:Int×(List Int)):Option ((((List Int)))⊕(Int×(List Int))) :=
 (if (decide (0≤s1.1))=true then
 chk (decide ((s1.2++([(IntKind.u8.wrap (shrI .i64 a0 (IntKind.u64.wrap (8*(IntKind.u64.wrap s1.1)))))]:List Int)).length≤LIM)) <|
 some (.inr ((w64 (s1.1-1)),(s1.2++([(IntKind.u8.wrap (shrI .i64 a0 (IntKind.u64.wrap (8*(IntKind.u64.wrap s1.1)))))]:List Int))))
 else
 some (.inl s1.2))
def I6 (a0:Int) (a1:Int):Option ((List Int)) :=
 (loop (L8 a0) ((w64 (a1-1)),([]:List Int))).bind fun p6 =>
 some p6
theorem J1 (a0:Int) (a1:Int) (r:(List Int)) (h:I6 a0 a1=some r):AC Tryz.prog 106 [(.d (.int .i64 a0)),(.d (.int .i64 a1))] [] (.d (.list 1 (r.map (eI .u8)))) []:=by
 refine ac2 Tryz.func106 rfl rfl fun B hB hN L => ?_
 delta I6 at h
 refine sr (SQ tt) ?_
 refine sr (SQ tt) ?_
 apply seq
 refine sr (SQ tt) ?_
 apply block
 obtain⟨p6,hx10,h⟩:=bindS h
 refine lg (L8 a0) (fun s1:Int×(List Int)=>([(0,(i6 a0)),(5,(.sref 3005 1 0 s1.2.length)),(6,(i6 s1.1))]:EL)) (fun s1:Int×(List Int)=>([(3005,some (.row 5 1 (s1.2.map (eI .u8))))]:OL)) (fun(p6:((List Int))) e E' O'=>e = .exit 0∧Mat B E' O' ([(5,(.sref 3005 1 0 p6.length))]:EL) ([(3005,some (.row 5 1 (p6.map (eI .u8))))]:OL)) hx10 (Mat.trans (Mat.beginP (n:=3005) (e:=5) (sz:=1) (Ts:=[(5,(.sref 3005 1 0 0))]) (Bs:=[]) hB (by decide) (by rfl) (by decide) (TwT.cons (x:=.nils) (by rfl) (Tw.leaf ⟨rfl,rfl⟩) TwT.nil) TwB.nil) (mp [] _ _ hB)) (fun s1 y h => ?_) (fun e E' O' hR => ?_)
 ·unfold L8 at h
  apply seq
  refine sr (SQ tt) ?_
  apply AWp.cond rfl<;>intro hg7
  ·have h:=A4 hg7 h
   apply AWp.skip
   apply A0
   apply seq
   apply block
   obtain⟨hc8,h⟩:=B6 h
   refine rg (SQ (fa hc8 tt)) ?_
   apply D7
   apply A0
   refine rg (SQ tt) ?_
   obtain rfl:=oi h
   exact⟨rfl,(mp [(3005,1021)] _ _ hB)⟩
  ·have h:=A5 hg7 h
   apply AWp.exit
   apply D8
   obtain rfl:=oi h
   exact⟨(fun hc=>by cases hc),rfl,(mp [] _ _ hB)⟩
 ·obtain⟨rfl,hmat⟩:=hR
  apply C3
  apply A0
  refine ghost hmat ?_
  refine sr (SQ tt) ?_
  apply ret
  obtain rfl:=oi h
  exact rt (Mat.trans (Mat.freezeP (n:=3005) (e:=5) (sz:=1) (es:=p6.map (eI .u8)) (Ts:=[(4,(.d (.list 1 (p6.map (eI .u8)))))]) (Bs:=[]) (by rfl) (TwT.cons (x:=(.sref 3005 1 0 p6.length)) (by rfl) (FrzL.all (by first | rfl | (simp;done) | (simp;omega) | omega)) TwT.nil) TwB.nil) (mp [] [(4,(.d (.list 1 (p6.map (eI .u8)))))] [] hB)) [(.d (.list 1 (p6.map (eI .u8))))] (rT rN) rfl
end
end Go.Proofs.YtkhjkjojjdkidaaGreatDoor
