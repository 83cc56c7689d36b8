/- Printed by gen.py: the Go functions as plain functions, and that the code does what they say. -/
import Derived.Test.YtkhjkjojjdkidaaGreatDoorChecked
import Derived.Test.YtkhjkjojjdkidaaGreatDoorVcYB
import Derived.Test.YtkhjkjojjdkidaaGreatDoorVcZ
import Derived.Test.YtkhjkjojjdkidaaGreatDoorVcGC
import Derived.KernelRfl
import Derived.Test.YtkhjkjojjdkidaaGreatDoorVcMD
import Derived.Test.YtkhjkjojjdkidaaGreatDoorVcMQ
import Derived.Test.YtkhjkjojjdkidaaGreatDoorVcSG
import Derived.Test.YtkhjkjojjdkidaaGreatDoorFnsC
import Derived.Test.YtkhjkjojjdkidaaGreatDoorExt
import Derived.Test.YtkhjkjojjdkidaaGreatDoorVcPm
import Derived.Test.YtkhjkjojjdkidaaGreatDoorVcRg
import Derived.Test.YtkhjkjojjdkidaaGreatDoorVcSt
import Derived.Test.YtkhjkjojjdkidaaGreatDoorVcMR
namespace Go.Proofs.YtkhjkjojjdkidaaGreatDoor
open Go Go.Vc
open Go.Vc.OpJ (assign alloc lss pickT pickF extract lenD indexD loadD eqlI gtr callVal leq geq loadR nilP indexS buildSlice lenS fieldD neqI pickAnd pickOr)
open Go.Vc.AWp (seq ghost ret block)
set_option maxHeartbeats 4000000
set_option maxRecDepth 100000
noncomputable section
def N9 (a0:C4) (s4:Int):Option (((Unit)⊕(Unit))⊕(Int)) :=
 (if (decide (s4<((a0.fWithdraw++a0.fAnnounce).length:Int)))=true then
 (idx (a0.fWithdraw++a0.fAnnounce) s4).bind fun _ =>
 (idx (a0.fWithdraw++a0.fAnnounce) s4).bind fun x19 =>
 (A0p x19).bind fun r20 =>
 (if (!r20)=true then
 some (.inl (.inl ()))
 else
 some (.inr (w64 (s4+1))))
 else
 some (.inl (.inr ())))
def O4 (a0:C4) (s30:Int):Option (((Unit)⊕(Unit))⊕(Int)) :=
 (if (decide (s30<(a0.fAnnounce.length:Int)))=true then
 (idx a0.fAnnounce s30).bind fun x52 =>
 jn (fun m55:Bool =>
 (if m55=true then
 some (.inl (.inl ()))
 else
 some (.inr (w64 (s30+1))))) (fun j56 =>
 (if (((x52.fAddr.fV6 != a0.fAttrs.fNext.fV6) || (a0.fAttrs.fOrigin==(-1))) || ((a0.fAttrs.fNext.fV6==false)&&((a0.fAttrs.fNext.fHi==0)&&((a0.fAttrs.fNext.fLo==0)&&true))))=true then
 j56 true
 else
 (R9 a0.fAttrs).bind fun r59 =>
 j56 (!r59)))
 else
 some (.inl (.inr ())))
def P4 (a0:C4):Option (Bool) :=
 (if ((decide (256<(a0.fWithdraw.length:Int))) || (decide (256<(a0.fAnnounce.length:Int))))=true then
 some false
 else
 chk (decide (a0.fWithdraw.length≤LIM)) <|
 chk (decide ((a0.fWithdraw++a0.fAnnounce).length≤LIM)) <|
 (loop (N9 a0) 0).bind fun x22=>match x22 with
 | (.inl _) =>
  some false
 | (.inr _) =>
  jn (fun m27:Bool =>
  (if m27=true then
  some false
  else
  (loop (O4 a0) 0).bind fun x60=>match x60 with
  | (.inl _) =>
   some false
  | (.inr _) =>
   (S0 a0).bind fun r62 =>
   some ((r62.2==0)&&(decide ((r62.1.length:Int)≤4077))))) (fun j28 =>
  (if ((a0.fAnnounce.length:Int)==0)=true then
  (A0m).bind fun r64 =>
  (Z9 a0.fAttrs r64).bind fun r65 =>
  j28 (!r65)
  else
  j28 false)))
theorem A74 (a0:C4) (r:Bool) (h:P4 a0=some r):AC Tryz.prog 20 [(.d (D1 a0))] [] (.d (.bool r)) []:=by
 refine ac2 Tryz.func20 rfl rfl fun B hB hN L => ?_
 delta P4 at h
 refine sr (SQ tt) ?_
 apply seq
 refine sr (SQ tt) ?_
 apply AWp.cond rfl<;>intro hg1
 ·have h:=A4 hg1 h
  refine sr (SQ tt) ?_
  apply ret
  apply B5
  obtain rfl:=oi h
  exact rt (kp [(2,_)] [] hB rfl rfl (by rfl)) [(bo false)] (rT rN) rfl
 ·have h:=A5 hg1 h
  apply AWp.skip
  apply A0
  apply seq
  obtain⟨hc2,h⟩:=B3 h
  obtain⟨hc3,h⟩:=B3 h
  refine sdS (SQ (fa hc2 (fa hc3 tt))) ?_
  apply block
  obtain⟨x22,hx23,h⟩:=bindS h
  refine lg (N9 a0) (fun s4:Int=>([(1,(pt 1001)),(24,(.sref 1024 4 0 ((a0.fWithdraw++a0.fAnnounce).length))),(25,(i6 ((a0.fWithdraw++a0.fAnnounce).length:Int))),(26,(i6 s4))]:EL)) (fun s4:Int=>([(1001,bd 61 (D1 a0)),(1024,some (G3 (a0.fWithdraw++a0.fAnnounce)))]:OL)) (fun(x:(Unit)⊕(Unit)) e E' O'=>match x with | (.inl _p)=>e = .ret∧Mat B E' O' ([(2,(bo false))]:EL) ([]:OL) | (.inr _p)=>e = .exit 0∧Mat B E' O' ([(1,(pt 1001))]:EL) ([(1001,bd 61 (D1 a0))]:OL)) hx23 (mp [] _ _ hB) (fun s4 y h => ?_) (fun e E' O' hR => ?_)
  ·unfold N9 at h
   refine sr (SQ tt) ?_
   apply seq
   apply AWp.cond rfl<;>intro hg17
   ·have h:=A4 hg17 h
    apply AWp.skip
    apply A0
    apply seq
    apply block
    obtain⟨_,hx18,h⟩:=bindS h
    obtain⟨x19,hx19,h⟩:=bindS h
    refine sr (SQ (fa hx18 (fa hx19 tt))) ?_
    obtain⟨r20,hr20,h⟩:=bindS h
    refine sr (SQ (fa (cl [] (A71 x19 r20 hr20)) tt)) ?_
    apply AWp.cond rfl<;>intro hg21
    ·have h:=A4 hg21 h
     refine sr (SQ tt) ?_
     apply ret
     apply D2
     apply B5
     obtain rfl:=oi h
     exact⟨(fun hc=>by cases hc),rfl,(mp [] _ _ hB)⟩
    ·have h:=A5 hg21 h
     apply AWp.skip
     apply D4
     apply A0
     refine rg (SQ tt) ?_
     obtain rfl:=oi h
     exact⟨rfl,(mp [] _ _ hB)⟩
   ·have h:=A5 hg17 h
    apply AWp.exit
    apply D6
    obtain rfl:=oi h
    exact⟨(fun hc=>by cases hc),rfl,(mp [] _ _ hB)⟩
  ·rcases x22 with _ | _
   ·obtain⟨rfl,hmat⟩:=hR
    apply D2
    apply B5
    obtain rfl:=oi h
    exact rt (Mat.trans hmat (mp [] [(2,(bo false))] [] hB)) [(bo false)] (rT rN) rfl
   ·obtain⟨rfl,hmat⟩:=hR
    apply C1
    apply A0
    refine ghost hmat ?_
    apply seq
    apply seq
    refine AWp.cut h (fun m27:Bool=>([(1,(pt 1001)),(44,(bo m27))]:EL)) (fun m27:Bool=>([(1001,bd 61 (D1 a0))]:OL)) (fun m27 h E' O' hmat => ?_) (fun j28 hjj28 h => ?_)
    ·apply A0
     refine ghost hmat ?_
     apply AWp.cond rfl<;>intro hg29
     ·have h:=A4 hg29 h
      refine sr (SQ tt) ?_
      apply ret
      apply B5
      obtain rfl:=oi h
      exact rt (kp [(2,_)] [] hB rfl rfl (by rfl)) [(bo false)] (rT rN) rfl
     ·have h:=A5 hg29 h
      apply AWp.skip
      apply A0
      apply seq
      refine sr (SQ tt) ?_
      apply block
      obtain⟨x60,hx61,h⟩:=bindS h
      refine lg (O4 a0) (fun s30:Int=>([(1,(pt 1001)),(46,(E4 a0.fAnnounce)),(47,(i6 (a0.fAnnounce.length:Int))),(48,(i6 s30))]:EL)) (fun s30:Int=>([(1001,bd 61 (D1 a0))]:OL)) (fun(x:(Unit)⊕(Unit)) e E' O'=>match x with | (.inl _p)=>e = .ret∧Mat B E' O' ([(2,(bo false))]:EL) ([]:OL) | (.inr _p)=>e = .exit 2∧Mat B E' O' ([(1,(pt 1001))]:EL) ([(1001,bd 61 (D1 a0))]:OL)) hx61 (mp [] _ _ hB) (fun s30 y h => ?_) (fun e E' O' hR => ?_)
      ·unfold O4 at h
       refine sr (SQ tt) ?_
       apply seq
       apply AWp.cond rfl<;>intro hg51
       ·have h:=A4 hg51 h
        apply AWp.skip
        apply A0
        apply seq
        apply block
        obtain⟨x52,hx52,h⟩:=bindS h
        refine sr (SQ (fa hx52 tt)) ?_
        apply seq
        refine AWp.cut h (fun m55:Bool=>([(1,(pt 1001)),(46,(E4 a0.fAnnounce)),(47,(i6 (a0.fAnnounce.length:Int))),(48,(i6 s30)),(78,(bo m55))]:EL)) (fun m55:Bool=>([(1001,bd 61 (D1 a0))]:OL)) (fun m55 h E' O' hmat => ?_) (fun j56 hjj56 h => ?_)
        ·apply A0
         refine ghost hmat ?_
         apply AWp.cond rfl<;>intro hg57
         ·have h:=A4 hg57 h
          refine sr (SQ tt) ?_
          apply ret
          apply D2
          apply B5
          obtain rfl:=oi h
          exact⟨(fun hc=>by cases hc),rfl,(mp [] _ _ hB)⟩
         ·have h:=A5 hg57 h
          apply AWp.skip
          apply D4
          apply A0
          refine rg (SQ tt) ?_
          obtain rfl:=oi h
          exact⟨rfl,(mp [] _ _ hB)⟩
        ·rcases bft (((x52.fAddr.fV6 != a0.fAttrs.fNext.fV6) || (a0.fAttrs.fOrigin==(-1))) || ((a0.fAttrs.fNext.fV6==false)&&((a0.fAttrs.fNext.fHi==0)&&((a0.fAttrs.fNext.fLo==0)&&true)))) with hg58 | hg58
         ·have h:=A4 hg58 h
          refine rg (SQ (fa hg58 tt)) ?_
          exact hjj56 _ h _ _ (mp [] _ _ hB)
         ·have h:=A5 hg58 h
          obtain⟨r59,hr59,h⟩:=bindS h
          refine rg (SQ (fa hg58 (fa (cl [] (A3s a0.fAttrs r59 hr59)) tt))) ?_
          exact hjj56 _ h _ _ (mp [] _ _ hB)
       ·have h:=A5 hg51 h
        apply AWp.exit
        apply D6
        obtain rfl:=oi h
        exact⟨(fun hc=>by cases hc),rfl,(mp [] _ _ hB)⟩
      ·rcases x60 with _ | _
       ·obtain⟨rfl,hmat⟩:=hR
        apply D2
        apply B5
        obtain rfl:=oi h
        exact rt (Mat.trans hmat (mp [] [(2,(bo false))] [] hB)) [(bo false)] (rT rN) rfl
       ·obtain⟨rfl,hmat⟩:=hR
        apply C1
        apply A0
        refine ghost hmat ?_
        obtain⟨r62,hr62,h⟩:=bindS h
        refine sr (SQ (fa (cl [] (A73 a0 r62 hr62)) tt)) ?_
        refine sr (SQ tt) ?_
        apply ret
        obtain rfl:=oi h
        exact rt (kp [(2,_)] [] hB rfl rfl (by rfl)) [(bo ((r62.2==0)&&(decide ((r62.1.length:Int)≤4077))))] (rT rN) rfl
    ·rcases bft ((a0.fAnnounce.length:Int)==0) with hg63 | hg63
     ·have h:=A4 hg63 h
      obtain⟨r64,hr64,h⟩:=bindS h
      obtain⟨r65,hr65,h⟩:=bindS h
      refine drS (SQ (fa hg63 (fa (cl [] (A3q r64 hr64)) (fa (cl [] (A82 a0.fAttrs r64 r65 hr65)) tt)))) ?_
      exact hjj28 _ h _ _ (mp [] _ _ hB)
     ·have h:=A5 hg63 h
      refine drS (SQ (fa hg63 tt)) ?_
      exact hjj28 _ h _ _ (mp [] _ _ hB)
def V8 (a1:Int) (s1:Int×(List B7)×B1):Option (((B1×(List B7)))⊕(Int×(List B7)×B1)) :=
 (if (decide (s1.1<a1))=true then
 (F6 s1.2.2 3).bind fun r26 =>
 jn (fun m30:Bool×Int×Int×Int×(List B4)×Int×Int×Int×Int×(List A7)×(List D3)×(List A1)×B1 =>
 chk (decide ((s1.2.1++[(B7.mk 5 (A2.mk (C8.mk false 0 (bitI .or .u64 335544320 (shlI .u64 (IntKind.u64.wrap s1.1) 8))) 24) m30.1 (U7.mk (A2.mk (C8.mk false 0 m30.2.1) m30.2.2.1) m30.2.2.2.1 (C5.mk 0 m30.2.2.2.2.1 (C8.mk false 0 m30.2.2.2.2.2.1) m30.2.2.2.2.2.2.1 m30.2.2.2.2.2.2.2.1 m30.2.2.2.2.2.2.2.2.1 m30.2.2.2.2.2.2.2.2.2.1 m30.2.2.2.2.2.2.2.2.2.2.1 m30.2.2.2.2.2.2.2.2.2.2.2.1)))]).length≤LIM)) <|
 some (.inr ((w64 (s1.1+1)),(s1.2.1++[(B7.mk 5 (A2.mk (C8.mk false 0 (bitI .or .u64 335544320 (shlI .u64 (IntKind.u64.wrap s1.1) 8))) 24) m30.1 (U7.mk (A2.mk (C8.mk false 0 m30.2.1) m30.2.2.1) m30.2.2.2.1 (C5.mk 0 m30.2.2.2.2.1 (C8.mk false 0 m30.2.2.2.2.2.1) m30.2.2.2.2.2.2.1 m30.2.2.2.2.2.2.2.1 m30.2.2.2.2.2.2.2.2.1 m30.2.2.2.2.2.2.2.2.2.1 m30.2.2.2.2.2.2.2.2.2.2.1 m30.2.2.2.2.2.2.2.2.2.2.2.1)))]),m30.2.2.2.2.2.2.2.2.2.2.2.2))) (fun j31 =>
 (if (decide (0<r26.1))=true then
 (A0m).bind fun r34 =>
 (F6 r26.2 2).bind fun r35 =>
 j31 (true,(bitI .or .u64 335544320 (shlI .u64 (IntKind.u64.wrap s1.1) 8)),24,101,([(B4.mk false ([101]:List Int))]:List B4),7,r35.1,r34.fPref,r34.fOTC,r34.fCommunities,r34.fLarge,r34.fOther,r35.2)
 else
 j31 (false,0,0,0,([]:List B4),0,0,0,0,([]:List A7),([]:List D3),([]:List A1),r26.2)))
 else
 some (.inl (s1.2.2,s1.2.1)))
def A01 (a0:B1) (a1:Int):Option ((List B7)×B1) :=
 (loop (V8 a1) (0,([]:List B7),a0)).bind fun p24 =>
 some (p24.2,p24.1)
theorem A85 (a0:B1) (a1:Int) (r:(List B7)×B1) (h:A01 a0 a1=some r):AC Tryz.prog 18 [(pt 0),(.d (.int .i64 a1))] [(0,(.box 71 (.d (D9 a0))))] (.d (.list 22 (r.1.map I6))) [(0,bd 71 (D9 r.2))]:=by
 refine ac2 Tryz.func18 rfl rfl fun B hB hN L => ?_
 delta A01 at h
 refine sr (SQ tt) ?_
 refine sr (SQ tt) ?_
 apply seq
 refine sr (SQ tt) ?_
 apply block
 obtain⟨p24,hx37,h⟩:=bindS h
 refine lg (V8 a1) (fun s1:Int×(List B7)×B1=>([(0,(pt 0)),(1,(i6 a1)),(5,(.sref 3005 22 0 s1.2.1.length)),(6,(i6 s1.1))]:EL)) (fun s1:Int×(List B7)×B1=>([(0,bd 71 (D9 s1.2.2)),(3005,some (F7 s1.2.1))]:OL)) (fun(p24:(B1×(List B7))) e E' O'=>e = .exit 0∧Mat B E' O' ([(5,(.sref 3005 22 0 p24.2.length))]:EL) ([(0,bd 71 (D9 p24.1)),(3005,some (F7 p24.2))]:OL)) hx37 (Mat.trans (Mat.beginP (n:=3005) (e:=39) (sz:=22) (Ts:=[(5,(.sref 3005 22 0 0))]) (Bs:=[]) hB (by decide) (by rfl) (by decide) (TwT.cons (x:=.nils) (by rfl) (Tw.leaf ⟨rfl,rfl⟩) TwT.nil) TwB.nil) (mp [] _ _ hB)) (fun s1 y h => ?_) (fun e E' O' hR => ?_)
 ·unfold V8 at h
  apply seq
  refine sr (SQ tt) ?_
  apply AWp.cond rfl<;>intro hg25
  ·have h:=A4 hg25 h
   apply AWp.skip
   apply A0
   apply seq
   apply block
   refine sr (SQ tt) ?_
   apply seq
   apply seq
   obtain⟨r26,hr26,h⟩:=bindS h
   refine rg (SQ (fa (cl [(0,0)] (Q4 s1.2.2 3 r26 hr26)) tt)) ?_
   apply A0
   refine ghost (mp [] [(0,(pt 0)),(1,(i6 a1)),(5,(.sref 3005 22 0 s1.2.1.length)),(6,(i6 s1.1)),(7,(pt 1007)),(23,(bo (decide (0<r26.1))))] [(0,bd 71 (D9 r26.2)),(1007,some (.box 39 (.st [(i6 5),(.d (.st [(.st [(.bool false),(.int .u64 0),(.int .u64 (bitI .or .u64 335544320 (shlI .u64 (IntKind.u64.wrap s1.1) 8)))]),(.int .i64 24)])),(bo false),(.st [(.d (.st [(.st [(.bool false),(.int .u64 0),(.int .u64 0)]),(.int .i64 0)])),(i6 0),(.st [(i6 0),.nils,(.d (.st [(.bool false),(.int .u64 0),(.int .u64 0)])),(i6 0),(i6 0),(i6 0),.nils,.nils,.nils])])]))),(3005,some (F7 s1.2.1))] hB) ?_
   refine AWp.cut h (fun m30:Bool×Int×Int×Int×(List B4)×Int×Int×Int×Int×(List A7)×(List D3)×(List A1)×B1=>([(0,(pt 0)),(1,(i6 a1)),(5,(.sref 3005 22 0 s1.2.1.length)),(6,(i6 s1.1)),(7,(pt 1007))]:EL)) (fun m30:Bool×Int×Int×Int×(List B4)×Int×Int×Int×Int×(List A7)×(List D3)×(List A1)×B1=>([(0,bd 71 (D9 m30.2.2.2.2.2.2.2.2.2.2.2.2)),(1007,some (.box 39 (.st [(i6 5),(.d (.st [(.st [(.bool false),(.int .u64 0),(.int .u64 (bitI .or .u64 335544320 (shlI .u64 (IntKind.u64.wrap s1.1) 8)))]),(.int .i64 24)])),(bo m30.1),(.d (.st [(.st [(.st [(.bool false),(.int .u64 0),(.int .u64 m30.2.1)]),(.int .i64 m30.2.2.1)]),(.int .i64 m30.2.2.2.1),(.st [(.int .i64 0),(.list 2 (m30.2.2.2.2.1.map C7)),(.st [(.bool false),(.int .u64 0),(.int .u64 m30.2.2.2.2.2.1)]),(.int .i64 m30.2.2.2.2.2.2.1),(.int .i64 m30.2.2.2.2.2.2.2.1),(.int .i64 m30.2.2.2.2.2.2.2.2.1),(.list 2 (m30.2.2.2.2.2.2.2.2.2.1.map B8)),(.list 3 (m30.2.2.2.2.2.2.2.2.2.2.1.map D7)),(.list 3 (m30.2.2.2.2.2.2.2.2.2.2.2.1.map A6))])]))]))),(3005,some (F7 s1.2.1))]:OL)) (fun m30 h E' O' hmat => ?_) (fun j31 hjj31 h => ?_)
   ·apply A0
    refine ghost hmat ?_
    obtain⟨hc32,h⟩:=B3 h
    refine rg (SQ (fa hc32 tt)) ?_
    apply D4
    apply A0
    refine rg (SQ tt) ?_
    obtain rfl:=oi h
    exact⟨rfl,(mp [(3005,1044)] _ _ hB)⟩
   ·apply AWp.cond rfl<;>intro hg33
    ·have h:=A4 hg33 h
     refine sr (SQ tt) ?_
     obtain⟨r34,hr34,h⟩:=bindS h
     refine sr (SQ (fa (cl [] (A3q r34 hr34)) tt)) ?_
     apply seq
     obtain⟨r35,hr35,h⟩:=bindS h
     refine rg (SQ (fa (cl [(0,0)] (Q4 r26.2 2 r35 hr35)) tt)) ?_
     apply A0
     refine ghost (mp [] [(0,(pt 0)),(1,(i6 a1)),(5,(.sref 3005 22 0 s1.2.1.length)),(6,(i6 s1.1)),(7,(pt 1007)),(8,(pt 1008))] [(0,bd 71 (D9 r35.2)),(1007,some (.box 39 (.st [(i6 5),(.d (.st [(.st [(.bool false),(.int .u64 0),(.int .u64 (bitI .or .u64 335544320 (shlI .u64 (IntKind.u64.wrap s1.1) 8)))]),(.int .i64 24)])),(bo true),(.st [(.d (.st [(.st [(.bool false),(.int .u64 0),(.int .u64 0)]),(.int .i64 0)])),(i6 0),(.st [(i6 0),.nils,(.d (.st [(.bool false),(.int .u64 0),(.int .u64 0)])),(i6 0),(i6 0),(i6 0),.nils,.nils,.nils])])]))),(1008,some (.box 35 (.d (.st [(.int .i64 0),(.list 2 (([(B4.mk false ([101]:List Int))]:List B4).map C7)),(.st [(.bool false),(.int .u64 0),(.int .u64 7)]),(.int .i64 r35.1),(.int .i64 r34.fPref),(.int .i64 r34.fOTC),(.list 2 (r34.fCommunities.map B8)),(.list 3 (r34.fLarge.map D7)),(.list 3 (r34.fOther.map A6))])))),(3005,some (F7 s1.2.1))] hB) ?_
     refine rg (SQ tt) ?_
     exact hjj31 _ h _ _ (mp [] _ _ hB)
    ·have h:=A5 hg33 h
     apply AWp.skip
     exact hjj31 _ h _ _ (Mat.trans (Mat.coeP (Ts:=[]) (Bs:=[(1007,some (.box 39 (.st [(i6 5),(.d (.st [(.st [(.bool false),(.int .u64 0),(.int .u64 (bitI .or .u64 335544320 (shlI .u64 (IntKind.u64.wrap s1.1) 8)))]),(.int .i64 24)])),(bo false),(.d (.st [(.st [(.st [(.bool false),(.int .u64 0),(.int .u64 0)]),(.int .i64 0)]),(.int .i64 0),(.st [(.int .i64 0),(.list 2 (([]:List B4).map C7)),(.st [(.bool false),(.int .u64 0),(.int .u64 0)]),(.int .i64 0),(.int .i64 0),(.int .i64 0),(.list 2 (([]:List A7).map B8)),(.list 3 (([]:List D3).map D7)),(.list 3 (([]:List A1).map A6))])]))])))]) TwT.nil (TwB.cons (x:=(.st [(i6 5),(.d (.st [(.st [(.bool false),(.int .u64 0),(.int .u64 (bitI .or .u64 335544320 (shlI .u64 (IntKind.u64.wrap s1.1) 8)))]),(.int .i64 24)])),(bo false),(.st [(.d (.st [(.st [(.bool false),(.int .u64 0),(.int .u64 0)]),(.int .i64 0)])),(i6 0),(.st [(i6 0),.nils,(.d (.st [(.bool false),(.int .u64 0),(.int .u64 0)])),(i6 0),(i6 0),(i6 0),.nils,.nils,.nils])])])) (by rfl) (Tw.st (TwL.cons (Tw.same _) (TwL.cons (Tw.same _) (TwL.cons (Tw.same _) (TwL.cons (Tw.leaf ⟨_,(Co.st (CoL.cons (Co.d _) (CoL.cons (Co.d _) (CoL.cons (Co.st (CoL.cons (Co.d _) (CoL.cons (Co.nils 2) (CoL.cons (Co.d _) (CoL.cons (Co.d _) (CoL.cons (Co.d _) (CoL.cons (Co.d _) (CoL.cons (Co.nils 2) (CoL.cons (Co.nils 3) (CoL.cons (Co.nils 3) CoL.nil)))))))))) CoL.nil)))),rfl⟩) TwL.nil))))) TwB.nil)) (mp [] _ _ hB))
  ·have h:=A5 hg25 h
   apply AWp.exit
   apply D6
   obtain rfl:=oi h
   exact⟨(fun hc=>by cases hc),rfl,(mp [] _ _ hB)⟩
 ·obtain⟨rfl,hmat⟩:=hR
  apply C1
  apply A0
  refine ghost hmat ?_
  refine sr (SQ tt) ?_
  apply ret
  obtain rfl:=oi h
  exact rt (Mat.trans (Mat.freezeP (n:=3005) (e:=39) (sz:=22) (es:=p24.2.map I6) (Ts:=[(4,(E9 p24.2))]) (Bs:=[]) (by rfl) (TwT.cons (x:=(.sref 3005 22 0 p24.2.length)) (by rfl) (FrzL.all (by first | rfl | (simp;done) | (simp;omega) | omega)) TwT.nil) TwB.nil) (mp [] [(4,(E9 p24.2))] [(0,bd 71 (D9 p24.1))] hB)) [(E9 p24.2)] (rT rN) rfl
def J7 (r4:(List C4)×Int) (s6:Int):Option (((Unit)⊕(Unit))⊕(Int)) :=
 (if (decide (s6<(r4.1.length:Int)))=true then
 jn (fun _:Unit =>
 some (.inr (w64 (s6+1)))) (fun j177 =>
 (idx r4.1 (w64 (s6-1))).bind fun x178 =>
 (idx r4.1 s6).bind fun x179 =>
 chk (decide (x178.fWithdraw.length≤LIM)) <|
 chk (decide (x178.fAnnounce.length≤LIM)) <|
 jn (fun m194:(List A2)×(List A2) =>
 (P4 (C4.mk m194.2 x178.fAttrs m194.1)).bind fun r196 =>
 (if r196=true then
 some (.inl (.inl ()))
 else
 j177 ())) (fun j195 =>
 (if ((decide (0<(x178.fWithdraw.length:Int)))&&(decide (0<(x179.fWithdraw.length:Int))))=true then
 (idx x179.fWithdraw 0).bind fun x199 =>
 chk (decide ((x178.fWithdraw++[x199]).length≤LIM)) <|
 j195 (x178.fAnnounce,(x178.fWithdraw++[x199]))
 else
 jn (fun m203:Bool =>
 (if m203=true then
 (idx x179.fAnnounce 0).bind fun x206 =>
 chk (decide ((x178.fAnnounce++[x206]).length≤LIM)) <|
 j195 ((x178.fAnnounce++[x206]),x178.fWithdraw)
 else
 j177 ())) (fun j204 =>
 (if ((decide (0<(x178.fAnnounce.length:Int)))&&(decide (0<(x179.fAnnounce.length:Int))))=true then
 (M2 x178.fAttrs x179.fAttrs).bind fun r209 =>
 j204 r209
 else
 j204 false)))))
 else
 some (.inl (.inr ())))
def Y7 (a0:(List Int)) (a1:Int):Option (Bool) :=
 (J3 a0).bind fun r1 =>
 (G4 a1 400).bind fun r2 =>
 (A01 r1 (w64 (200+r2))).bind fun r3 =>
 (A13 r3.1).bind fun r4 =>
 (if (r4.2 != 0)=true then
 some false
 else
 (loop (J7 r4) 1).bind fun x210=>match x210 with
 | (.inl _) =>
  some false
 | (.inr _) =>
  (A0l).bind fun r212 =>
  some r212)
theorem A59 (a0:(List Int)) (a1:Int) (r:Bool) (h:Y7 a0 a1=some r):AC Tryz.prog 6 [(.d (.list 1 (a0.map (eI .i64)))),(.d (.int .i64 a1))] [(500,(.know (globD 0 (.imap gv0))))] (.d (.bool r)) [(500,some (.know (globD 0 (.imap gv0))))]:=by
 refine ac2 Tryz.func6 rfl rfl fun B hB hN L => ?_
 delta Y7 at h
 refine sr (SQ tt) ?_
 apply seq
 obtain⟨r1,hr1,h⟩:=bindS h
 obtain⟨r2,hr2,h⟩:=bindS h
 obtain⟨r3,hr3,h⟩:=bindS h
 obtain⟨r4,hr4,h⟩:=bindS h
 refine rg (SQ (fa (cl [(1005,100000)] (A2z a0 r1 hr1)) (fa (cl [] (X8 a1 400 r2 hr2)) (fa (cl [(0,100000)] (A85 r1 (w64 (200+r2)) r3 hr3)) (fa (cl [(500,500)] (A5o r3.1 r4 hr4)) tt))))) ?_
 apply A0
 refine ghost (mp [] [(5,(E5 r4.1)),(6,(i6 r4.2))] [(500,some (.know (globD 0 (.imap gv0))))] hB) ?_
 apply seq
 refine sr (SQ tt) ?_
 apply AWp.cond rfl<;>intro hg5
 ·have h:=A4 hg5 h
  refine sr (SQ tt) ?_
  apply ret
  apply B5
  obtain rfl:=oi h
  exact rt (kp [(4,_)] [(500,some _)] hB rfl rfl (by rfl)) [(bo false)] (rT rN) rfl
 ·have h:=A5 hg5 h
  apply AWp.skip
  apply A0
  apply seq
  refine sr (SQ tt) ?_
  apply block
  obtain⟨x210,hx211,h⟩:=bindS h
  refine lg (J7 r4) (fun s6:Int=>([(5,(E5 r4.1)),(7,(i6 s6))]:EL)) (fun s6:Int=>([(500,some (.know (globD 0 (.imap gv0))))]:OL)) (fun(x:(Unit)⊕(Unit)) e E' O'=>match x with | (.inl _p)=>e = .ret∧Mat B E' O' ([(4,(bo false))]:EL) ([(500,some (.know (globD 0 (.imap gv0))))]:OL) | (.inr _p)=>e = .exit 0∧Mat B E' O' ([]:EL) ([(500,some (.know (globD 0 (.imap gv0))))]:OL)) hx211 (mp [] _ _ hB) (fun s6 y h => ?_) (fun e E' O' hR => ?_)
  ·unfold J7 at h
   apply seq
   refine sr (SQ tt) ?_
   apply AWp.cond rfl<;>intro hg143
   ·have h:=A4 hg143 h
    apply AWp.skip
    apply A0
    apply seq
    refine AWp.cut h (fun _:Unit=>([(5,(E5 r4.1)),(7,(i6 s6))]:EL)) (fun _:Unit=>([(500,some (.know (globD 0 (.imap gv0))))]:OL)) (fun _m h E' O' hmat => ?_) (fun j177 hjj177 h => ?_)
    ·apply A0
     refine ghost hmat ?_
     refine rg (SQ tt) ?_
     obtain rfl:=oi h
     exact⟨rfl,(mp [] _ _ hB)⟩
    ·apply block
     obtain⟨x178,hx178,h⟩:=bindS h
     obtain⟨x179,hx179,h⟩:=bindS h
     refine sdS (SQ (fa hx178 (fa hx179 tt))) ?_
     obtain⟨hc180,h⟩:=B3 h
     obtain⟨hc181,h⟩:=B3 h
     refine sdS (SQ (fa hc180 (fa hc181 tt))) ?_
     apply seq
     apply block
     refine sr (SQ tt) ?_
     refine gh [(5,_),(7,_),(8,_),(9,_),(10,_),(47,_)] [(500,some _),(1008,some _),(1009,some _),(1010,some _),(1040,some _),(1045,some _)] hB rfl rfl (by rfl) ?_
     refine AWp.cut h (fun m194:(List A2)×(List A2)=>([(5,(E5 r4.1)),(7,(i6 s6)),(10,(pt 1010))]:EL)) (fun m194:(List A2)×(List A2)=>([(500,some (.know (globD 0 (.imap gv0)))),(1010,some (.box 61 (.st [(.sref 13100 4 0 m194.2.length),(.d (B2 x178.fAttrs)),(.sref 13102 4 0 m194.1.length)]))),(13100,some (G3 m194.2)),(13102,some (G3 m194.1))]:OL)) (fun m194 h E' O' hmat => ?_) (fun j195 hjj195 h => ?_)
     ·apply D4
      apply A0
      refine ghost hmat ?_
      apply seq
      refine ghost (Mat.freezeP (n:=13100) (e:=29) (sz:=4) (es:=m194.2.map C2) (Ts:=[]) (Bs:=[(1010,some (.box 61 (.st [(E4 m194.2),(.d (B2 x178.fAttrs)),(.sref 13102 4 0 m194.1.length)])))]) (by rfl) TwT.nil (TwB.cons (x:=(.st [(.sref 13100 4 0 m194.2.length),(.d (B2 x178.fAttrs)),(.sref 13102 4 0 m194.1.length)])) (by rfl) (Tw.st (TwL.cons (FrzL.all (by first | rfl | (simp;done) | (simp;omega) | omega)) (TwL.cons (Tw.same _) (TwL.cons (Tw.same _) TwL.nil)))) TwB.nil)) ?_
      refine ghost (Mat.freezeP (n:=13102) (e:=29) (sz:=4) (es:=m194.1.map C2) (Ts:=[]) (Bs:=[(1010,some (.box 61 (.st [(E4 m194.2),(.d (B2 x178.fAttrs)),(E4 m194.1)])))]) (by rfl) TwT.nil (TwB.cons (x:=(.st [(E4 m194.2),(.d (B2 x178.fAttrs)),(.sref 13102 4 0 m194.1.length)])) (by rfl) (Tw.st (TwL.cons (Tw.same _) (TwL.cons (Tw.same _) (TwL.cons (FrzL.all (by first | rfl | (simp;done) | (simp;omega) | omega)) TwL.nil)))) TwB.nil)) ?_
      obtain⟨r196,hr196,h⟩:=bindS h
      refine rg (SQ (fa (cl [] (A74 (C4.mk m194.2 x178.fAttrs m194.1) r196 hr196)) tt)) ?_
      apply A0
      apply AWp.cond rfl<;>intro hg197
      ·have h:=A4 hg197 h
       refine sr (SQ tt) ?_
       apply ret
       apply D2
       apply B5
       obtain rfl:=oi h
       exact⟨(fun hc=>by cases hc),rfl,(mp [] _ _ hB)⟩
      ·have h:=A5 hg197 h
       apply AWp.skip
       apply D4
       exact hjj177 _ h _ _ (mp [] _ _ hB)
     ·apply AWp.cond rfl<;>intro hg198
      ·have h:=A4 hg198 h
       obtain⟨_,hx199,h⟩:=bindS h
       obtain⟨hc200,h⟩:=B3 h
       refine drS (SQ (fa hx199 (fa hc200 tt))) ?_
       exact hjj195 _ h _ _ (mp [(13100,1065),(13102,1045)] _ _ hB)
      ·have h:=A5 hg198 h
       apply seq
       refine AWp.cut h (fun m203:Bool=>([(5,(E5 r4.1)),(7,(i6 s6)),(9,(pt 1009)),(10,(pt 1010)),(67,(bo m203))]:EL)) (fun m203:Bool=>([(500,some (.know (globD 0 (.imap gv0)))),(1009,bd 61 (D1 x179)),(1010,some (.box 61 (.st [(.sref 1040 4 0 x178.fWithdraw.length),(.d (B2 x178.fAttrs)),(.sref 1045 4 0 x178.fAnnounce.length)]))),(1040,some (G3 x178.fWithdraw)),(1045,some (G3 x178.fAnnounce))]:OL)) (fun m203 h E' O' hmat => ?_) (fun j204 hjj204 h => ?_)
       ·apply A0
        refine ghost hmat ?_
        apply AWp.cond rfl<;>intro hg205
        ·have h:=A4 hg205 h
         obtain⟨_,hx206,h⟩:=bindS h
         obtain⟨hc207,h⟩:=B3 h
         refine drS (SQ (fa hx206 (fa hc207 tt))) ?_
         exact hjj195 _ h _ _ (mp [(13100,1040),(13102,1092)] _ _ hB)
        ·have h:=A5 hg205 h
         apply AWp.exit
         refine B2k (by rfl) ?_
         apply D6
         apply C1
         exact hjj177 _ h _ _ (mp [] _ _ hB)
       ·rcases bft ((decide (0<(x178.fAnnounce.length:Int)))&&(decide (0<(x179.fAnnounce.length:Int)))) with hg208 | hg208
        ·have h:=A4 hg208 h
         obtain⟨r209,hr209,h⟩:=bindS h
         refine rg (SQ (fa hg208 (fa (cl [] (A4t x178.fAttrs x179.fAttrs r209 hr209)) tt))) ?_
         exact hjj204 _ h _ _ (mp [] _ _ hB)
        ·have h:=A5 hg208 h
         refine rg (SQ (fa hg208 tt)) ?_
         exact hjj204 _ h _ _ (mp [] _ _ hB)
   ·have h:=A5 hg143 h
    apply AWp.exit
    apply D6
    obtain rfl:=oi h
    exact⟨(fun hc=>by cases hc),rfl,(mp [] _ _ hB)⟩
  ·rcases x210 with _ | _
   ·obtain⟨rfl,hmat⟩:=hR
    apply D2
    apply B5
    obtain rfl:=oi h
    exact rt (Mat.trans hmat (mp [] [(4,(bo false))] [(500,some (.know (globD 0 (.imap gv0))))] hB)) [(bo false)] (rT rN) rfl
   ·obtain⟨rfl,hmat⟩:=hR
    apply C1
    apply A0
    refine ghost hmat ?_
    apply seq
    obtain⟨r212,hr212,h⟩:=bindS h
    refine rg (SQ (fa (cl [(500,500)] (A6z  r212 hr212)) tt)) ?_
    apply A0
    refine ghost (mp [] [(4,(bo r212))] [(500,some (.know (globD 0 (.imap gv0))))] hB) ?_
    apply ret
    obtain rfl:=oi h
    exact rt (kp [(4,_)] [(500,some _)] hB rfl rfl (by rfl)) [(bo r212)] (rT rN) rfl
end
end Go.Proofs.YtkhjkjojjdkidaaGreatDoor
