/- Printed by gen.py: the Go functions as plain functions, and that the code does what they say. -/
import Derived.Test.YtgfoabcickjphaaGreatDoorChecked
import Derived.Test.YtgfoabcickjphaaGreatDoorVcYB
import Derived.Test.YtgfoabcickjphaaGreatDoorVcZ
import Derived.Test.YtgfoabcickjphaaGreatDoorVcGC
import Derived.KernelRfl
import Derived.Test.YtgfoabcickjphaaGreatDoorVcMD
import Derived.Test.YtgfoabcickjphaaGreatDoorVcMQ
import Derived.Test.YtgfoabcickjphaaGreatDoorVcSG
import Derived.Test.YtgfoabcickjphaaGreatDoorFnsB
import Derived.Test.YtgfoabcickjphaaGreatDoorExt
import Derived.Test.YtgfoabcickjphaaGreatDoorVcGl
import Derived.Test.YtgfoabcickjphaaGreatDoorVcWS
namespace Go.Proofs.YtgfoabcickjphaaGreatDoor
open Go Go.Vc
open Tryz
open Go.Vc.OpJ (assign alloc lss pickT pickF extract lenD indexD loadD eqlI gtr callVal leq geq loadR nilP indexS buildSlice lenS fieldD neqI pickAnd pickOr)
set_option maxHeartbeats 4000000
set_option maxRecDepth 100000
noncomputable section
def xmake_Deck_Addr (a0:xmake_Deck):Option (aAddr×xmake_Deck) :=
 (xmake_Deck_Next a0 6).bind fun r1 =>
 (if (r1.1==0)=true then
 (xmake_Deck_Next r1.2 8).bind fun r3 =>
 (xmake_Deck_Next r3.2 4).bind fun r4 =>
 some ((aAddr.mk false 0 (IntKind.u64.wrap (w64 ((w64 (167772160+(shlI .i64 r3.1 8)))+r4.1)))),r4.2)
 else
 (if (r1.1==1)=true then
 (xmake_Deck_Next r1.2 4).bind fun r6 =>
 (xmake_Deck_Next r6.2 8).bind fun r7 =>
 some ((aAddr.mk true (IntKind.u64.wrap (2306139568115548160+(IntKind.u64.wrap r6.1))) (IntKind.u64.wrap r7.1)),r7.2)
 else
 (if (r1.1==2)=true then
 (xmake_Deck_Next r1.2 5).bind fun r9 =>
 (idx ([0,1,4294967295,2147483647,2147483648]:List Int) r9.1).bind fun x10 =>
 some ((aAddr.mk false 0 x10),r9.2)
 else
 (if (r1.1==3)=true then
 (xmake_Deck_Next r1.2 4).bind fun r12 =>
 (idx ([0,1,18446744073709551615,9223372036854775808]:List Int) r12.1).bind fun x13 =>
 (xmake_Deck_Next r12.2 4).bind fun r14 =>
 (idx ([0,1,18446744073709551615,9223372036854775808]:List Int) r14.1).bind fun x15 =>
 some ((aAddr.mk true x13 x15),r14.2)
 else
 (if (r1.1==4)=true then
 (xmake_Deck_Next r1.2 1073741824).bind fun r17 =>
 (xmake_Deck_Next r17.2 5).bind fun r18 =>
 (xmake_Deck_Next r18.2 1073741824).bind fun r19 =>
 (xmake_Deck_Next r19.2 5).bind fun r20 =>
 some ((aAddr.mk true (shlI .u64 (IntKind.u64.wrap r17.1) (IntKind.u64.wrap (w64 (r18.1*8)))) (shlI .u64 (IntKind.u64.wrap r19.1) (IntKind.u64.wrap (w64 (r20.1*8))))),r20.2)
 else
 (xmake_Deck_Next r1.2 1073741824).bind fun r21 =>
 some ((aAddr.mk false 0 (IntKind.u64.wrap r21.1)),r21.2))))))
theorem xmake_Deck_Addr_ac (a0:xmake_Deck) (r:aAddr×xmake_Deck) (h:xmake_Deck_Addr a0=some r):AC Tryz.prog 43 [(pt 0)] [(0,(.box 80 (.d (e_xmake_Deck a0))))] (.d (e_aAddr r.1)) [(0,bd 80 (e_xmake_Deck r.2))]:=by
 refine ac2 Tryz.func43 rfl rfl fun B hB hN L => ?_
 delta xmake_Deck_Addr at h
 refine sr (SQ tt) ?_
 apply AWp.seq
 apply AWp.seq
 obtain⟨r1,hr1,h⟩:=bindS h
 refine rg (SQ (fa (cl [(0,0)] (xmake_Deck_Next_ac a0 6 r1 hr1)) tt)) ?_
 apply seqQ_n
 refine AWp.ghost (mp [] [(0,(pt 0)),(2,(pt 1002)),(4,(i6 r1.1))] [(0,bd 80 (e_xmake_Deck r1.2)),(1002,bd 44 (.st [(.bool false),(.int .u64 0),(.int .u64 0)]))] hB) ?_
 apply AWp.block
 refine sr (SQ tt) ?_
 apply AWp.cond rfl<;>intro hg2
 ·have h:=ite_t hg2 h
  apply AWp.seq
  obtain⟨r3,hr3,h⟩:=bindS h
  obtain⟨r4,hr4,h⟩:=bindS h
  refine rg (SQ (fa (cl [(0,0)] (xmake_Deck_Next_ac r1.2 8 r3 hr3)) (fa (cl [(0,0)] (xmake_Deck_Next_ac r3.2 4 r4 hr4)) tt))) ?_
  apply seqQ_n
  refine AWp.ghost (mp [] [(2,(pt 1002))] [(0,bd 80 (e_xmake_Deck r4.2)),(1002,some (.box 44 (.d (.st [(.bool false),(.int .u64 0),(.int .u64 (IntKind.u64.wrap (w64 ((w64 (167772160+(shlI .i64 r3.1 8)))+r4.1))))]))))] hB) ?_
  apply AWp.ret
  apply blkQ_r
  apply seqQ_r
  obtain rfl:=oi h
  exact rt (kp [(2,_)] [(0,some _),(1002,some _)] hB rfl rfl (by rfl)) [(.d (.st [(.bool false),(.int .u64 0),(.int .u64 (IntKind.u64.wrap (w64 ((w64 (167772160+(shlI .i64 r3.1 8)))+r4.1))))]))] (Res.cell (c:=(.d (.st [(.bool false),(.int .u64 0),(.int .u64 (IntKind.u64.wrap (w64 ((w64 (167772160+(shlI .i64 r3.1 8)))+r4.1))))]))) (by rfl) (by rfl) tyS44 (by rfl) (by rfl) (by rfl) Res.nil) rfl
 ·have h:=ite_f hg2 h
  refine sr (SQ tt) ?_
  apply AWp.cond rfl<;>intro hg5
  ·have h:=ite_t hg5 h
   apply AWp.seq
   obtain⟨r6,hr6,h⟩:=bindS h
   obtain⟨r7,hr7,h⟩:=bindS h
   refine rg (SQ (fa (cl [(0,0)] (xmake_Deck_Next_ac r1.2 4 r6 hr6)) (fa (cl [(0,0)] (xmake_Deck_Next_ac r6.2 8 r7 hr7)) tt))) ?_
   apply seqQ_n
   refine AWp.ghost (mp [] [(2,(pt 1002))] [(0,bd 80 (e_xmake_Deck r7.2)),(1002,some (.box 44 (.d (.st [(.bool true),(.int .u64 (IntKind.u64.wrap (2306139568115548160+(IntKind.u64.wrap r6.1)))),(.int .u64 (IntKind.u64.wrap r7.1))]))))] hB) ?_
   apply AWp.ret
   apply blkQ_r
   apply seqQ_r
   obtain rfl:=oi h
   exact rt (kp [(2,_)] [(0,some _),(1002,some _)] hB rfl rfl (by rfl)) [(.d (.st [(.bool true),(.int .u64 (IntKind.u64.wrap (2306139568115548160+(IntKind.u64.wrap r6.1)))),(.int .u64 (IntKind.u64.wrap r7.1))]))] (Res.cell (c:=(.d (.st [(.bool true),(.int .u64 (IntKind.u64.wrap (2306139568115548160+(IntKind.u64.wrap r6.1)))),(.int .u64 (IntKind.u64.wrap r7.1))]))) (by rfl) (by rfl) tyS44 (by rfl) (by rfl) (by rfl) Res.nil) rfl
  ·have h:=ite_f hg5 h
   refine sr (SQ tt) ?_
   apply AWp.cond rfl<;>intro hg8
   ·have h:=ite_t hg8 h
    apply AWp.seq
    obtain⟨r9,hr9,h⟩:=bindS h
    obtain⟨x10,hx10,h⟩:=bindS h
    refine rg (SQ (fa (cl [(0,0)] (xmake_Deck_Next_ac r1.2 5 r9 hr9)) (fa hx10 tt))) ?_
    apply seqQ_n
    refine AWp.ghost (mp [] [(2,(pt 1002))] [(0,bd 80 (e_xmake_Deck r9.2)),(1002,bd 44 (.st [(.bool false),(.int .u64 0),(.int .u64 x10)]))] hB) ?_
    apply AWp.ret
    apply blkQ_r
    apply seqQ_r
    obtain rfl:=oi h
    exact rt (kp [(2,_)] [(0,some _),(1002,some _)] hB rfl rfl (by rfl)) [(.d (.st [(.bool false),(.int .u64 0),(.int .u64 x10)]))] (Res.cell (c:=(.d (.st [(.bool false),(.int .u64 0),(.int .u64 x10)]))) (by rfl) (by rfl) tyS44 (by rfl) (by rfl) (by rfl) Res.nil) rfl
   ·have h:=ite_f hg8 h
    refine sr (SQ tt) ?_
    apply AWp.cond rfl<;>intro hg11
    ·have h:=ite_t hg11 h
     apply AWp.seq
     obtain⟨r12,hr12,h⟩:=bindS h
     obtain⟨x13,hx13,h⟩:=bindS h
     obtain⟨r14,hr14,h⟩:=bindS h
     obtain⟨x15,hx15,h⟩:=bindS h
     refine drS (SQ (fa (cl [(0,0)] (xmake_Deck_Next_ac r1.2 4 r12 hr12)) (fa hx13 (fa (cl [(0,0)] (xmake_Deck_Next_ac r12.2 4 r14 hr14)) (fa hx15 tt))))) ?_
     apply seqQ_n
     refine AWp.ghost (mp [] [(2,(pt 1002))] [(0,bd 80 (e_xmake_Deck r14.2)),(1002,bd 44 (.st [(.bool true),(.int .u64 x13),(.int .u64 x15)]))] hB) ?_
     apply AWp.ret
     apply blkQ_r
     apply seqQ_r
     obtain rfl:=oi h
     exact rt (kp [(2,_)] [(0,some _),(1002,some _)] hB rfl rfl (by rfl)) [(.d (.st [(.bool true),(.int .u64 x13),(.int .u64 x15)]))] (Res.cell (c:=(.d (.st [(.bool true),(.int .u64 x13),(.int .u64 x15)]))) (by rfl) (by rfl) tyS44 (by rfl) (by rfl) (by rfl) Res.nil) rfl
    ·have h:=ite_f hg11 h
     refine sr (SQ tt) ?_
     apply AWp.cond rfl<;>intro hg16
     ·have h:=ite_t hg16 h
      apply AWp.seq
      obtain⟨r17,hr17,h⟩:=bindS h
      obtain⟨r18,hr18,h⟩:=bindS h
      obtain⟨r19,hr19,h⟩:=bindS h
      obtain⟨r20,hr20,h⟩:=bindS h
      refine rg (SQ (fa (cl [(0,0)] (xmake_Deck_Next_ac r1.2 1073741824 r17 hr17)) (fa (cl [(0,0)] (xmake_Deck_Next_ac r17.2 5 r18 hr18)) (fa (cl [(0,0)] (xmake_Deck_Next_ac r18.2 1073741824 r19 hr19)) (fa (cl [(0,0)] (xmake_Deck_Next_ac r19.2 5 r20 hr20)) tt))))) ?_
      apply seqQ_n
      refine AWp.ghost (mp [] [(2,(pt 1002))] [(0,bd 80 (e_xmake_Deck r20.2)),(1002,some (.box 44 (.d (.st [(.bool true),(.int .u64 (shlI .u64 (IntKind.u64.wrap r17.1) (IntKind.u64.wrap (w64 (r18.1*8))))),(.int .u64 (shlI .u64 (IntKind.u64.wrap r19.1) (IntKind.u64.wrap (w64 (r20.1*8)))))]))))] hB) ?_
      apply AWp.ret
      apply blkQ_r
      apply seqQ_r
      obtain rfl:=oi h
      exact rt (kp [(2,_)] [(0,some _),(1002,some _)] hB rfl rfl (by rfl)) [(.d (.st [(.bool true),(.int .u64 (shlI .u64 (IntKind.u64.wrap r17.1) (IntKind.u64.wrap (w64 (r18.1*8))))),(.int .u64 (shlI .u64 (IntKind.u64.wrap r19.1) (IntKind.u64.wrap (w64 (r20.1*8)))))]))] (Res.cell (c:=(.d (.st [(.bool true),(.int .u64 (shlI .u64 (IntKind.u64.wrap r17.1) (IntKind.u64.wrap (w64 (r18.1*8))))),(.int .u64 (shlI .u64 (IntKind.u64.wrap r19.1) (IntKind.u64.wrap (w64 (r20.1*8)))))]))) (by rfl) (by rfl) tyS44 (by rfl) (by rfl) (by rfl) Res.nil) rfl
     ·have h:=ite_f hg16 h
      apply AWp.skip
      apply blkQ_n
      apply seqQ_n
      apply AWp.seq
      obtain⟨r21,hr21,h⟩:=bindS h
      refine rg (SQ (fa (cl [(0,0)] (xmake_Deck_Next_ac r1.2 1073741824 r21 hr21)) tt)) ?_
      apply seqQ_n
      refine AWp.ghost (mp [] [(2,(pt 1002))] [(0,bd 80 (e_xmake_Deck r21.2)),(1002,bd 44 (.st [(.bool false),(.int .u64 0),(.int .u64 (IntKind.u64.wrap r21.1))]))] hB) ?_
      apply AWp.ret
      obtain rfl:=oi h
      exact rt (kp [(2,_)] [(0,some _),(1002,some _)] hB rfl rfl (by rfl)) [(.d (.st [(.bool false),(.int .u64 0),(.int .u64 (IntKind.u64.wrap r21.1))]))] (Res.cell (c:=(.d (.st [(.bool false),(.int .u64 0),(.int .u64 (IntKind.u64.wrap r21.1))]))) (by rfl) (by rfl) tyS44 (by rfl) (by rfl) (by rfl) Res.nil) rfl
def xmake_Deck_Prefix (a0:xmake_Deck):Option (aPrefix×xmake_Deck) :=
 (xmake_Deck_Addr a0).bind fun r1 =>
 jn (fun m3:Int =>
 (xmake_Deck_Next r1.2 4).bind fun r5 =>
 jn (fun m13:Int×xmake_Deck =>
 (xref02_Make r1.1 m13.1).bind fun r15 =>
 some (r15.1,m13.2)) (fun j14 =>
 (if (r5.1==0)=true then
 (xmake_Deck_Next r5.2 (w64 (m3+1))).bind fun r17 =>
 j14 (r17.1,r17.2)
 else
 (if (r5.1==1)=true then
 (xmake_Deck_Next r5.2 9).bind fun r19 =>
 j14 ((w64 (m3-r19.1)),r19.2)
 else
 (if (r5.1==2)=true then
 (xmake_Deck_Next r5.2 5).bind fun r21 =>
 (idx ([8,22,23,24,16]:List Int) r21.1).bind fun x22 =>
 j14 (x22,r21.2)
 else
 j14 (m3,r5.2)))))) (fun j4 =>
 (if r1.1.fV6=true then
 j4 128
 else
 j4 32))
theorem xmake_Deck_Prefix_ac (a0:xmake_Deck) (r:aPrefix×xmake_Deck) (h:xmake_Deck_Prefix a0=some r):AC Tryz.prog 17 [(pt 0)] [(0,(.box 80 (.d (e_xmake_Deck a0))))] (.d (e_aPrefix r.1)) [(0,bd 80 (e_xmake_Deck r.2))]:=by
 refine ac2 Tryz.func17 rfl rfl fun B hB hN L => ?_
 delta xmake_Deck_Prefix at h
 refine sr (SQ tt) ?_
 apply AWp.seq
 obtain⟨r1,hr1,h⟩:=bindS h
 refine rg (SQ (fa (cl [(0,0)] (xmake_Deck_Addr_ac a0 r1 hr1)) tt)) ?_
 apply seqQ_n
 refine AWp.ghost (mp [] [(0,(pt 0)),(2,(pt 1002)),(3,(pt 1003))] [(0,bd 80 (e_xmake_Deck r1.2)),(1002,bd 46 (.st [(.st [(.bool false),(.int .u64 0),(.int .u64 0)]),(.int .i64 0)])),(1003,bd 44 (e_aAddr r1.1))] hB) ?_
 refine sr (SQ tt) ?_
 apply AWp.seq
 refine sr (SQ tt) ?_
 refine gh [(0,_),(2,_),(3,_),(4,_),(10,_)] [(0,some _),(1002,some _),(1003,some _)] hB rfl rfl (by rfl) ?_
 refine AWp.cut h (fun m3:Int=>([(0,(pt 0)),(2,(pt 1002)),(3,(pt 1003)),(4,(i6 m3))]:EL)) (fun m3:Int=>([(0,bd 80 (e_xmake_Deck r1.2)),(1002,bd 46 (.st [(.st [(.bool false),(.int .u64 0),(.int .u64 0)]),(.int .i64 0)])),(1003,bd 44 (e_aAddr r1.1))]:OL)) (fun m3 h E' O' hmat => ?_) (fun j4 hjj4 h => ?_)
 ·apply seqQ_n
  refine AWp.ghost hmat ?_
  apply AWp.seq
  apply AWp.seq
  obtain⟨r5,hr5,h⟩:=bindS h
  refine rg (SQ (fa (cl [(0,0)] (xmake_Deck_Next_ac r1.2 4 r5 hr5)) tt)) ?_
  apply seqQ_n
  refine AWp.ghost (mp [] [(0,(pt 0)),(2,(pt 1002)),(3,(pt 1003)),(4,(i6 m3)),(12,(i6 r5.1))] [(0,bd 80 (e_xmake_Deck r5.2)),(1002,bd 46 (.st [(.st [(.bool false),(.int .u64 0),(.int .u64 0)]),(.int .i64 0)])),(1003,bd 44 (e_aAddr r1.1))] hB) ?_
  apply AWp.block
  refine sr (SQ tt) ?_
  refine gh [(0,_),(2,_),(3,_),(4,_),(12,_),(13,_)] [(0,some _),(1002,some _),(1003,some _)] hB rfl rfl (by rfl) ?_
  refine AWp.cut h (fun m13:Int×xmake_Deck=>([(2,(pt 1002)),(3,(pt 1003)),(4,(i6 m13.1))]:EL)) (fun m13:Int×xmake_Deck=>([(0,bd 80 (e_xmake_Deck m13.2)),(1002,bd 46 (.st [(.st [(.bool false),(.int .u64 0),(.int .u64 0)]),(.int .i64 0)])),(1003,bd 44 (e_aAddr r1.1))]:OL)) (fun m13 h E' O' hmat => ?_) (fun j14 hjj14 h => ?_)
  ·apply blkQ_n
   apply seqQ_n
   refine AWp.ghost hmat ?_
   obtain⟨r15,hr15,h⟩:=bindS h
   refine sr (SQ (fa (cl [] (xref02_Make_ac r1.1 m13.1 r15 hr15)) tt)) ?_
   refine sr (SQ tt) ?_
   apply AWp.ret
   obtain rfl:=oi h
   exact rt (kp [(2,_)] [(0,some _),(1002,some _)] hB rfl rfl (by rfl)) [(.d (e_aPrefix r15.1))] (Res.cell (c:=(.d (e_aPrefix r15.1))) (by rfl) (by rfl) tyS46 (by rfl) (by rfl) (by rfl) Res.nil) rfl
  ·apply AWp.cond rfl<;>intro hg16
   ·have h:=ite_t hg16 h
    obtain⟨r17,hr17,h⟩:=bindS h
    refine rg (SQ (fa (cl [(0,0)] (xmake_Deck_Next_ac r5.2 (w64 (m3+1)) r17 hr17)) tt)) ?_
    exact hjj14 _ h _ _ (mp [] _ _ hB)
   ·have h:=ite_f hg16 h
    refine sr (SQ tt) ?_
    apply AWp.cond rfl<;>intro hg18
    ·have h:=ite_t hg18 h
     obtain⟨r19,hr19,h⟩:=bindS h
     refine rg (SQ (fa (cl [(0,0)] (xmake_Deck_Next_ac r5.2 9 r19 hr19)) tt)) ?_
     exact hjj14 _ h _ _ (mp [] _ _ hB)
    ·have h:=ite_f hg18 h
     refine sr (SQ tt) ?_
     apply AWp.cond rfl<;>intro hg20
     ·have h:=ite_t hg20 h
      obtain⟨r21,hr21,h⟩:=bindS h
      obtain⟨_,hx22,h⟩:=bindS h
      refine rg (SQ (fa (cl [(0,0)] (xmake_Deck_Next_ac r5.2 5 r21 hr21)) (fa hx22 tt))) ?_
      exact hjj14 _ h _ _ (mp [] _ _ hB)
     ·have h:=ite_f hg20 h
      apply AWp.skip
      exact hjj14 _ h _ _ (mp [] _ _ hB)
 ·apply AWp.cond rfl<;>intro hg23
  ·have h:=ite_t hg23 h
   refine rg (SQ tt) ?_
   exact hjj4 _ h _ _ (mp [] _ _ hB)
  ·have h:=ite_f hg23 h
   apply AWp.skip
   exact hjj4 _ h _ _ (mp [] _ _ hB)
def xmake_Deck_Resources_L0 (s2:Int×(List aPrefix)×xmake_Deck):Option ((((List aPrefix)×xmake_Deck))⊕(Int×(List aPrefix)×xmake_Deck)) :=
 (if (decide (0<s2.1))=true then
 (xmake_Deck_Prefix s2.2.2).bind fun r11 =>
 chk (decide ((s2.2.1++[r11.1]).length≤LIM)) <|
 some (.inr ((w64 (s2.1-1)),(s2.2.1++[r11.1]),r11.2))
 else
 some (.inl (s2.2.1,s2.2.2)))
def xmake_Deck_Resources_L1 (s16:Int×(List aSpan)×xmake_Deck):Option (((xmake_Deck×(List aSpan)))⊕(Int×(List aSpan)×xmake_Deck)) :=
 (if (decide (0<s16.1))=true then
 (xmake_Deck_Next s16.2.2 20).bind fun r31 =>
 (xmake_Deck_Next r31.2 5).bind fun r32 =>
 (idx ([0,1,5,4294967286,r31.1]:List Int) r32.1).bind fun x33 =>
 (xmake_Deck_Next r32.2 10).bind fun r34 =>
 chk (decide ((s16.2.1++[(aSpan.mk x33 (w64 (x33+r34.1)))]).length≤LIM)) <|
 some (.inr ((w64 (s16.1-1)),(s16.2.1++[(aSpan.mk x33 (w64 (x33+r34.1)))]),r34.2))
 else
 some (.inl (s16.2.2,s16.2.1)))
def xmake_Deck_Resources (a0:xmake_Deck):Option (aResources×xmake_Deck) :=
 (xmake_Deck_Next a0 6).bind fun r1 =>
 (loop (xmake_Deck_Resources_L0) (r1.1,([]:List aPrefix),r1.2)).bind fun p9 =>
 (xmake_Deck_Next p9.2 4).bind fun r15 =>
 (loop (xmake_Deck_Resources_L1) (r15.1,([]:List aSpan),r15.2)).bind fun p29 =>
 (xref21_Of p9.1 p29.2).bind fun r38 =>
 some (r38.1,p29.1)
theorem xmake_Deck_Resources_ac (a0:xmake_Deck) (r:aResources×xmake_Deck) (h:xmake_Deck_Resources a0=some r):AC Tryz.prog 49 [(pt 0)] [(0,(.box 80 (.d (e_xmake_Deck a0))))] (.d (e_aResources r.1)) [(0,bd 80 (e_xmake_Deck r.2))]:=by
 refine ac2 Tryz.func49 rfl rfl fun B hB hN L => ?_
 delta xmake_Deck_Resources at h
 refine sr (SQ tt) ?_
 refine sr (SQ tt) ?_
 refine sr (SQ tt) ?_
 apply AWp.seq
 apply AWp.seq
 obtain⟨r1,hr1,h⟩:=bindS h
 refine rg (SQ (fa (cl [(0,0)] (xmake_Deck_Next_ac a0 6 r1 hr1)) tt)) ?_
 apply seqQ_n
 refine AWp.ghost (mp [] [(0,(pt 0)),(2,(pt 1002)),(3,.nils),(4,.nils),(5,(i6 r1.1))] [(0,bd 80 (e_xmake_Deck r1.2)),(1002,some (.box 57 (.st [.nils,.nils])))] hB) ?_
 apply AWp.block
 obtain⟨p9,hx14,h⟩:=bindS h
 refine lg (xmake_Deck_Resources_L0) (fun s2:Int×(List aPrefix)×xmake_Deck=>([(0,(pt 0)),(2,(pt 1002)),(3,(.sref 3003 4 0 s2.2.1.length)),(4,.nils),(5,(i6 s2.1))]:EL)) (fun s2:Int×(List aPrefix)×xmake_Deck=>([(0,bd 80 (e_xmake_Deck s2.2.2)),(1002,some (.box 57 (.st [.nils,.nils]))),(3003,some (we_aPrefix_46_4 s2.2.1))]:OL)) (fun(p9:((List aPrefix)×xmake_Deck)) e E' O'=>e = .exit 0∧Mat B E' O' ([(0,(pt 0)),(2,(pt 1002)),(3,(.sref 3003 4 0 p9.1.length)),(4,.nils)]:EL) ([(0,bd 80 (e_xmake_Deck p9.2)),(1002,some (.box 57 (.st [.nils,.nils]))),(3003,some (we_aPrefix_46_4 p9.1))]:OL)) hx14 (Mat.trans (Mat.beginP (n:=3003) (e:=46) (sz:=4) (Ts:=[(3,(.sref 3003 4 0 0))]) (Bs:=[]) hB (by decide) (by rfl) (by decide) (TwT.cons (x:=.nils) (by rfl) (Tw.leaf ⟨rfl,rfl⟩) TwT.nil) TwB.nil) (mp [] _ _ hB)) (fun s2 y h => ?_) (fun e E' O' hR => ?_)
 ·unfold xmake_Deck_Resources_L0 at h
  apply AWp.seq
  refine sr (SQ tt) ?_
  apply AWp.cond rfl<;>intro hg10
  ·have h:=ite_t hg10 h
   apply AWp.skip
   apply seqQ_n
   apply AWp.seq
   apply AWp.block
   obtain⟨r11,hr11,h⟩:=bindS h
   obtain⟨hc12,h⟩:=chk_some h
   refine rg (SQ (fa (cl [(0,0)] (xmake_Deck_Prefix_ac s2.2.2 r11 hr11)) (fa hc12 tt))) ?_
   apply blkQ_n
   apply seqQ_n
   refine AWp.ghost (mp [] [(0,(pt 0)),(2,(pt 1002)),(3,(.sref 1020 4 0 ((s2.2.1++[r11.1]).length))),(4,.nils),(5,(i6 s2.1))] [(0,bd 80 (e_xmake_Deck r11.2)),(1002,some (.box 57 (.st [.nils,.nils]))),(1020,some (we_aPrefix_46_4 (s2.2.1++[r11.1])))] hB) ?_
   refine rg (SQ tt) ?_
   obtain rfl:=oi h
   exact⟨rfl,(mp [(3003,1020)] _ _ hB)⟩
  ·have h:=ite_f hg10 h
   apply AWp.exit
   apply seqQ_e
   obtain rfl:=oi h
   exact⟨(fun hc=>by cases hc),rfl,(mp [] _ _ hB)⟩
 ·obtain⟨rfl,hmat⟩:=hR
  apply blkQ_hit
  apply seqQ_n
  refine AWp.ghost hmat ?_
  apply AWp.seq
  apply AWp.seq
  obtain⟨r15,hr15,h⟩:=bindS h
  refine rg (SQ (fa (cl [(0,0)] (xmake_Deck_Next_ac p9.2 4 r15 hr15)) tt)) ?_
  apply seqQ_n
  refine AWp.ghost (mp [] [(0,(pt 0)),(2,(pt 1002)),(3,(.sref 3003 4 0 p9.1.length)),(4,.nils),(6,(i6 r15.1))] [(0,bd 80 (e_xmake_Deck r15.2)),(1002,some (.box 57 (.st [.nils,.nils]))),(3003,some (we_aPrefix_46_4 p9.1))] hB) ?_
  apply AWp.block
  obtain⟨p29,hx37,h⟩:=bindS h
  refine lg (xmake_Deck_Resources_L1) (fun s16:Int×(List aSpan)×xmake_Deck=>([(0,(pt 0)),(2,(pt 1002)),(3,(.sref 3003 4 0 p9.1.length)),(4,(.sref 3004 2 0 s16.2.1.length)),(6,(i6 s16.1))]:EL)) (fun s16:Int×(List aSpan)×xmake_Deck=>([(0,bd 80 (e_xmake_Deck s16.2.2)),(1002,some (.box 57 (.st [.nils,.nils]))),(3003,some (we_aPrefix_46_4 p9.1)),(3004,some (we_aSpan_101_2 s16.2.1))]:OL)) (fun(p29:(xmake_Deck×(List aSpan))) e E' O'=>e = .exit 2∧Mat B E' O' ([(2,(pt 1002)),(3,(.sref 3003 4 0 p9.1.length)),(4,(.sref 3004 2 0 p29.2.length))]:EL) ([(0,bd 80 (e_xmake_Deck p29.1)),(1002,some (.box 57 (.st [.nils,.nils]))),(3003,some (we_aPrefix_46_4 p9.1)),(3004,some (we_aSpan_101_2 p29.2))]:OL)) hx37 (Mat.trans (Mat.beginP (n:=3004) (e:=101) (sz:=2) (Ts:=[(4,(.sref 3004 2 0 0))]) (Bs:=[]) hB (by decide) (by rfl) (by decide) (TwT.cons (x:=.nils) (by rfl) (Tw.leaf ⟨rfl,rfl⟩) TwT.nil) TwB.nil) (mp [] _ _ hB)) (fun s16 y h => ?_) (fun e E' O' hR => ?_)
  ·unfold xmake_Deck_Resources_L1 at h
   apply AWp.seq
   refine sr (SQ tt) ?_
   apply AWp.cond rfl<;>intro hg30
   ·have h:=ite_t hg30 h
    apply AWp.skip
    apply seqQ_n
    apply AWp.seq
    apply AWp.block
    apply AWp.seq
    obtain⟨r31,hr31,h⟩:=bindS h
    obtain⟨r32,hr32,h⟩:=bindS h
    obtain⟨x33,hx33,h⟩:=bindS h
    refine rg (SQ (fa (cl [(0,0)] (xmake_Deck_Next_ac s16.2.2 20 r31 hr31)) (fa (cl [(0,0)] (xmake_Deck_Next_ac r31.2 5 r32 hr32)) (fa hx33 tt)))) ?_
    apply seqQ_n
    refine AWp.ghost (mp [] [(0,(pt 0)),(2,(pt 1002)),(3,(.sref 3003 4 0 p9.1.length)),(4,(.sref 3004 2 0 s16.2.1.length)),(6,(i6 s16.1)),(7,(i6 x33))] [(0,bd 80 (e_xmake_Deck r32.2)),(1002,some (.box 57 (.st [.nils,.nils]))),(3003,some (we_aPrefix_46_4 p9.1)),(3004,some (we_aSpan_101_2 s16.2.1))] hB) ?_
    obtain⟨r34,hr34,h⟩:=bindS h
    obtain⟨hc35,h⟩:=chk_some h
    refine rg (SQ (fa (cl [(0,0)] (xmake_Deck_Next_ac r32.2 10 r34 hr34)) (fa hc35 tt))) ?_
    apply blkQ_n
    apply seqQ_n
    refine AWp.ghost (mp [] [(0,(pt 0)),(2,(pt 1002)),(3,(.sref 3003 4 0 p9.1.length)),(4,(.sref 1042 2 0 ((s16.2.1++[(aSpan.mk x33 (w64 (x33+r34.1)))]).length))),(6,(i6 s16.1))] [(0,bd 80 (e_xmake_Deck r34.2)),(1002,some (.box 57 (.st [.nils,.nils]))),(1042,some (we_aSpan_101_2 (s16.2.1++[(aSpan.mk x33 (w64 (x33+r34.1)))]))),(3003,some (we_aPrefix_46_4 p9.1))] hB) ?_
    refine rg (SQ tt) ?_
    obtain rfl:=oi h
    exact⟨rfl,(mp [(3004,1042)] _ _ hB)⟩
   ·have h:=ite_f hg30 h
    apply AWp.exit
    apply seqQ_e
    obtain rfl:=oi h
    exact⟨(fun hc=>by cases hc),rfl,(mp [] _ _ hB)⟩
  ·obtain⟨rfl,hmat⟩:=hR
   apply blkQ_hit
   apply seqQ_n
   refine AWp.ghost hmat ?_
   apply AWp.seq
   refine AWp.ghost (Mat.freezeP (n:=3003) (e:=46) (sz:=4) (es:=p9.1.map e_aPrefix) (Ts:=[(3,(qe_aPrefix_4 p9.1))]) (Bs:=[]) (by rfl) (TwT.cons (x:=(.sref 3003 4 0 p9.1.length)) (by rfl) (FrzL.all (by first | rfl | (simp;done) | (simp;omega) | omega)) TwT.nil) TwB.nil) ?_
   refine AWp.ghost (Mat.freezeP (n:=3004) (e:=101) (sz:=2) (es:=p29.2.map e_aSpan) (Ts:=[(4,(qe_aSpan_2 p29.2))]) (Bs:=[]) (by rfl) (TwT.cons (x:=(.sref 3004 2 0 p29.2.length)) (by rfl) (FrzL.all (by first | rfl | (simp;done) | (simp;omega) | omega)) TwT.nil) TwB.nil) ?_
   obtain⟨r38,hr38,h⟩:=bindS h
   refine rg (SQ (fa (cl [] (xref21_Of_ac p9.1 p29.2 r38 hr38)) tt)) ?_
   apply seqQ_n
   refine sr (SQ tt) ?_
   apply AWp.ret
   obtain rfl:=oi h
   exact rt (kp [(2,_)] [(0,some _),(1002,some _)] hB rfl rfl (by rfl)) [(.d (e_aResources r38.1))] (Res.cell (c:=(.d (e_aResources r38.1))) (by rfl) (by rfl) tyS57 (by rfl) (by rfl) (by rfl) Res.nil) rfl
def xref21_Valid_L0 (a0:aResources) (s1:Int):Option (((Unit)⊕(Unit))⊕(Int)) :=
 (if (decide (s1<(a0.fAddrs.length:Int)))=true then
 jn (fun _:Unit =>
 some (.inr (w64 (s1+1)))) (fun j142 =>
 (idx a0.fAddrs s1).bind fun x143 =>
 jn (fun m150:Bool =>
 (if m150=true then
 some (.inl (.inl ()))
 else
 (if (s1==0)=true then
 j142 ()
 else
 (idx a0.fAddrs (w64 (s1-1))).bind fun x154 =>
 (xref01_Next x154.fTo).bind fun r155 =>
 jn (fun m159:Bool =>
 (if m159=true then
 some (.inl (.inl ()))
 else
 j142 ())) (fun j160 =>
 (xref01_Cmp x154.fTo x143.fFrom).bind fun r162 =>
 (if (decide (0≤r162))=true then
 j160 true
 else
 j160 (r155.2&&((r155.1.fV6==x143.fFrom.fV6)&&((r155.1.fHi==x143.fFrom.fHi)&&((r155.1.fLo==x143.fFrom.fLo)&&true))))))))) (fun j151 =>
 (xref01_Valid x143.fFrom).bind fun r164 =>
 (if (!r164)=true then
 j151 true
 else
 (xref01_Valid x143.fTo).bind fun r166 =>
 (if ((!r166) || (x143.fFrom.fV6 != x143.fTo.fV6))=true then
 j151 true
 else
 (xref01_Cmp x143.fFrom x143.fTo).bind fun r168 =>
 j151 (decide (0<r168))))))
 else
 some (.inl (.inr ())))
def xref21_Valid_L1 (a0:aResources) (s171:Int):Option (((Unit)⊕(Unit))⊕(Int)) :=
 (if (decide (s171<(a0.fASNs.length:Int)))=true then
 (idx a0.fASNs s171).bind fun x197 =>
 jn (fun m201:Bool =>
 (if m201=true then
 some (.inl (.inl ()))
 else
 some (.inr (w64 (s171+1))))) (fun j202 =>
 (if (((decide (x197.fFrom<0)) || (decide (x197.fTo<x197.fFrom))) || (decide (4294967295<x197.fTo)))=true then
 j202 true
 else
 (if (decide (0<s171))=true then
 (idx a0.fASNs (w64 (s171-1))).bind fun x206 =>
 j202 (decide ((w64 (x197.fFrom-1))≤x206.fTo))
 else
 j202 false)))
 else
 some (.inl (.inr ())))
def xref21_Valid (a0:aResources):Option (Bool) :=
 (loop (xref21_Valid_L0 a0) 0).bind fun x169=>match x169 with
 | (.inl _) =>
  some false
 | (.inr _) =>
  (loop (xref21_Valid_L1 a0) 0).bind fun x207=>match x207 with
  | (.inl _) =>
   some false
  | (.inr _) =>
   some ((decide ((a0.fAddrs.length:Int)≤256))&&(decide ((a0.fASNs.length:Int)≤256)))
theorem xref21_Valid_ac (a0:aResources) (r:Bool) (h:xref21_Valid a0=some r):AC Tryz.prog 39 [(.d (e_aResources a0))] [] (.d (.bool r)) []:=by
 refine ac2 Tryz.func39 rfl rfl fun B hB hN L => ?_
 delta xref21_Valid at h
 refine sr (SQ tt) ?_
 apply AWp.seq
 refine sr (SQ tt) ?_
 apply AWp.block
 obtain⟨x169,hx170,h⟩:=bindS h
 refine lg (xref21_Valid_L0 a0) (fun s1:Int=>([(1,(pt 1001)),(11,(qe_aRange_6 a0.fAddrs)),(12,(i6 (a0.fAddrs.length:Int))),(13,(i6 s1))]:EL)) (fun s1:Int=>([(1001,bd 57 (e_aResources a0))]:OL)) (fun(x:(Unit)⊕(Unit)) e E' O'=>match x with | (.inl _p)=>e = .ret∧Mat B E' O' ([(2,(bo false))]:EL) ([]:OL) | (.inr _p)=>e = .exit 0∧Mat B E' O' ([(1,(pt 1001))]:EL) ([(1001,bd 57 (e_aResources a0))]:OL)) hx170 (mp [] _ _ hB) (fun s1 y h => ?_) (fun e E' O' hR => ?_)
 ·unfold xref21_Valid_L0 at h
  refine sr (SQ tt) ?_
  apply AWp.seq
  apply AWp.cond rfl<;>intro hg114
  ·have h:=ite_t hg114 h
   apply AWp.skip
   apply seqQ_n
   apply AWp.seq
   refine AWp.cut h (fun _:Unit=>([(1,(pt 1001)),(11,(qe_aRange_6 a0.fAddrs)),(12,(i6 (a0.fAddrs.length:Int))),(13,(i6 s1))]:EL)) (fun _:Unit=>([(1001,bd 57 (e_aResources a0))]:OL)) (fun _m h E' O' hmat => ?_) (fun j142 hjj142 h => ?_)
   ·apply seqQ_n
    refine AWp.ghost hmat ?_
    refine rg (SQ tt) ?_
    obtain rfl:=oi h
    exact⟨rfl,(mp [] _ _ hB)⟩
   ·apply AWp.block
    obtain⟨x143,hx143,h⟩:=bindS h
    refine sr (SQ (fa hx143 tt)) ?_
    apply AWp.seq
    apply AWp.seq
    refine AWp.cut h (fun m150:Bool=>([(1,(pt 1001)),(3,(i6 s1)),(4,(pt 1004)),(11,(qe_aRange_6 a0.fAddrs)),(12,(i6 (a0.fAddrs.length:Int))),(13,(i6 s1)),(44,(bo m150))]:EL)) (fun m150:Bool=>([(1001,bd 57 (e_aResources a0)),(1004,bd 92 (e_aRange x143))]:OL)) (fun m150 h E' O' hmat => ?_) (fun j151 hjj151 h => ?_)
    ·apply seqQ_n
     refine AWp.ghost hmat ?_
     apply AWp.cond rfl<;>intro hg152
     ·have h:=ite_t hg152 h
      refine sr (SQ tt) ?_
      apply AWp.ret
      apply seqQ_r
      apply blkQ_r
      apply seqQ_r
      obtain rfl:=oi h
      exact⟨(fun hc=>by cases hc),rfl,(mp [] _ _ hB)⟩
     ·have h:=ite_f hg152 h
      apply AWp.skip
      apply seqQ_n
      apply AWp.seq
      refine sr (SQ tt) ?_
      apply AWp.cond rfl<;>intro hg153
      ·have h:=ite_t hg153 h
       apply AWp.exit
       apply seqQ_e
       apply blkQ_hit
       exact hjj142 _ h _ _ (mp [] _ _ hB)
      ·have h:=ite_f hg153 h
       apply AWp.skip
       apply seqQ_n
       obtain⟨x154,hx154,h⟩:=bindS h
       refine sr (SQ (fa hx154 tt)) ?_
       obtain⟨r155,hr155,h⟩:=bindS h
       refine sr (SQ (fa (cl [] (xref01_Next_ac x154.fTo r155 hr155)) tt)) ?_
       apply AWp.seq
       refine AWp.cut h (fun m159:Bool=>([(1,(pt 1001)),(11,(qe_aRange_6 a0.fAddrs)),(12,(i6 (a0.fAddrs.length:Int))),(13,(i6 s1)),(72,(bo m159))]:EL)) (fun m159:Bool=>([(1001,bd 57 (e_aResources a0))]:OL)) (fun m159 h E' O' hmat => ?_) (fun j160 hjj160 h => ?_)
       ·apply seqQ_n
        refine AWp.ghost hmat ?_
        apply AWp.cond rfl<;>intro hg161
        ·have h:=ite_t hg161 h
         refine sr (SQ tt) ?_
         apply AWp.ret
         apply blkQ_r
         apply seqQ_r
         obtain rfl:=oi h
         exact⟨(fun hc=>by cases hc),rfl,(mp [] _ _ hB)⟩
        ·have h:=ite_f hg161 h
         apply AWp.skip
         apply blkQ_n
         exact hjj142 _ h _ _ (mp [] _ _ hB)
       ·obtain⟨r162,hr162,h⟩:=bindS h
        rcases bft (decide (0≤r162)) with hg163 | hg163
        ·have h:=ite_t hg163 h
         refine rg (SQ (fa (cl [] (xref01_Cmp_ac x154.fTo x143.fFrom r162 hr162)) (fa hg163 tt))) ?_
         exact hjj160 _ h _ _ (mp [] _ _ hB)
        ·have h:=ite_f hg163 h
         apply rg (c (lb hN 44 _ _ tyS44 (At.here _) (q 5)) rfl (c (fo 1004 0 [0] hN underlying92 0 tyS44 (q 4)) rfl (c (la hN 92 tyS44 (q 60)) rfl (cg (cf hB fnOk46 (xref01_Cmp_ac x154.fTo x143.fFrom r162 hr162) (L rfl) (OpdL.cons (q 59) (OpdL.cons (q 61) OpdL.nil))) rfl (c (geq (L rfl) (q 62) (ii 0)) rfl (c (OpJ.val (v':=.d (.bool false)) (by rw [hg163]<;>rfl) (mv hN (q 63))) rfl (c (gd 64 (mv hN (q 7))) rfl (c (gd 64 (mv hN (q 65))) rfl (c (oq hN 66 (lb hN 44 _ _ tyS44 (At.here _) (q 6)) (OptL.keep (by rfl) OptL.nil) (GuardV.plain _)) rfl (c (oq hN 66 (fo 1004 0 [0] hN underlying92 0 tyS44 (q 4)) (OptL.keep (by rfl) OptL.nil) (GuardV.plain _)) rfl (c (oq hN 66 (la hN 92 tyS44 (q 68)) (OptL.opt OptL.nil) (GuardV.plain _)) rfl (c (oq hN 66 (OpJ.eqlD (h:=2) (FitE.st underlying44 rfl held44 (FitF.cons (x:=(.bool r155.1.fV6)) (y:=(.bool x143.fFrom.fV6)) (by decide) rfl tyS4 ⟨rfl,rfl⟩ ⟨rfl,rfl⟩ (FitE.bool (h:=0) r155.1.fV6 x143.fFrom.fV6 underlying4) (FitF.cons (x:=(.int .u64 r155.1.fHi)) (y:=(.int .u64 x143.fFrom.fHi)) (by decide) rfl tyS42 ⟨rfl,rfl⟩ ⟨rfl,rfl⟩ (FitE.int (h:=0) r155.1.fHi x143.fFrom.fHi underlying42) (FitF.cons (x:=(.int .u64 r155.1.fLo)) (y:=(.int .u64 x143.fFrom.fLo)) (by decide) rfl tyS42 ⟨rfl,rfl⟩ ⟨rfl,rfl⟩ (FitE.int (h:=0) r155.1.fLo x143.fFrom.fLo underlying42) FitF.nil)))) eqg44 ⟨rfl,rfl⟩ (by rfl) (L rfl) (q 67) (q 69)) (OptL.opt (OptL.opt OptL.nil)) (GuardV.plain _)) rfl (c (gd 64 (pickAnd rfl (L rfl) (q 66) (q 70))) rfl (c (pickF (L rfl) (q 64) (q 71)) rfl cn))))))))))))))
         exact hjj160 _ h _ _ (mp [] _ _ hB)
    ·obtain⟨r164,hr164,h⟩:=bindS h
     rcases bft (!r164) with hg165 | hg165
     ·have h:=ite_t hg165 h
      refine rg (SQ (fa (cl [] (xref01_Valid_ac x143.fFrom r164 hr164)) (fa hg165 tt))) ?_
      exact hjj151 _ h _ _ (mp [] _ _ hB)
     ·have h:=ite_f hg165 h
      obtain⟨r166,hr166,h⟩:=bindS h
      rcases bft ((!r166) || (x143.fFrom.fV6 != x143.fTo.fV6)) with hg167 | hg167
      ·have h:=ite_t hg167 h
       refine rg (SQ (fa (cl [] (xref01_Valid_ac x143.fFrom r164 hr164)) (fa hg165 (fa (cl [] (xref01_Valid_ac x143.fTo r166 hr166)) (fa hg167 tt))))) ?_
       exact hjj151 _ h _ _ (mp [] _ _ hB)
      ·have h:=ite_f hg167 h
       obtain⟨r168,hr168,h⟩:=bindS h
       refine rg (SQ (fa (cl [] (xref01_Valid_ac x143.fFrom r164 hr164)) (fa hg165 (fa (cl [] (xref01_Valid_ac x143.fTo r166 hr166)) (fa hg167 (fa (cl [] (xref01_Cmp_ac x143.fFrom x143.fTo r168 hr168)) tt)))))) ?_
       exact hjj151 _ h _ _ (mp [] _ _ hB)
  ·have h:=ite_f hg114 h
   apply AWp.exit
   apply seqQ_e
   obtain rfl:=oi h
   exact⟨(fun hc=>by cases hc),rfl,(mp [] _ _ hB)⟩
 ·rcases x169 with _ | _
  ·obtain⟨rfl,hmat⟩:=hR
   apply blkQ_r
   apply seqQ_r
   obtain rfl:=oi h
   exact rt (Mat.trans hmat (mp [] [(2,(bo false))] [] hB)) [(bo false)] (Res.tmp (by rfl) (by rfl) Res.nil) rfl
  ·obtain⟨rfl,hmat⟩:=hR
   apply blkQ_hit
   apply seqQ_n
   refine AWp.ghost hmat ?_
   apply AWp.seq
   refine sr (SQ tt) ?_
   apply AWp.block
   obtain⟨x207,hx208,h⟩:=bindS h
   refine lg (xref21_Valid_L1 a0) (fun s171:Int=>([(1,(pt 1001)),(75,(qe_aSpan_2 a0.fASNs)),(76,(i6 (a0.fASNs.length:Int))),(77,(i6 s171))]:EL)) (fun s171:Int=>([(1001,bd 57 (e_aResources a0))]:OL)) (fun(x:(Unit)⊕(Unit)) e E' O'=>match x with | (.inl _p)=>e = .ret∧Mat B E' O' ([(2,(bo false))]:EL) ([]:OL) | (.inr _p)=>e = .exit 2∧Mat B E' O' ([(1,(pt 1001))]:EL) ([(1001,bd 57 (e_aResources a0))]:OL)) hx208 (mp [] _ _ hB) (fun s171 y h => ?_) (fun e E' O' hR => ?_)
   ·unfold xref21_Valid_L1 at h
    refine sr (SQ tt) ?_
    apply AWp.seq
    apply AWp.cond rfl<;>intro hg196
    ·have h:=ite_t hg196 h
     apply AWp.skip
     apply seqQ_n
     apply AWp.seq
     apply AWp.block
     obtain⟨x197,hx197,h⟩:=bindS h
     refine sr (SQ (fa hx197 tt)) ?_
     apply AWp.seq
     refine AWp.cut h (fun m201:Bool=>([(1,(pt 1001)),(75,(qe_aSpan_2 a0.fASNs)),(76,(i6 (a0.fASNs.length:Int))),(77,(i6 s171)),(113,(bo m201))]:EL)) (fun m201:Bool=>([(1001,bd 57 (e_aResources a0))]:OL)) (fun m201 h E' O' hmat => ?_) (fun j202 hjj202 h => ?_)
     ·apply seqQ_n
      refine AWp.ghost hmat ?_
      apply AWp.cond rfl<;>intro hg203
      ·have h:=ite_t hg203 h
       refine sr (SQ tt) ?_
       apply AWp.ret
       apply blkQ_r
       apply seqQ_r
       obtain rfl:=oi h
       exact⟨(fun hc=>by cases hc),rfl,(mp [] _ _ hB)⟩
      ·have h:=ite_f hg203 h
       apply AWp.skip
       apply blkQ_n
       apply seqQ_n
       refine rg (SQ tt) ?_
       obtain rfl:=oi h
       exact⟨rfl,(mp [] _ _ hB)⟩
     ·rcases bft (((decide (x197.fFrom<0)) || (decide (x197.fTo<x197.fFrom))) || (decide (4294967295<x197.fTo))) with hg204 | hg204
      ·have h:=ite_t hg204 h
       refine drS (SQ (fa hg204 tt)) ?_
       exact hjj202 _ h _ _ (mp [] _ _ hB)
      ·have h:=ite_f hg204 h
       rcases bft (decide (0<s171)) with hg205 | hg205
       ·have h:=ite_t hg205 h
        obtain⟨_,hx206,h⟩:=bindS h
        refine drS (SQ (fa hg204 (fa hg205 (fa hx206 tt)))) ?_
        exact hjj202 _ h _ _ (mp [] _ _ hB)
       ·have h:=ite_f hg205 h
        refine drS (SQ (fa hg204 (fa hg205 tt))) ?_
        exact hjj202 _ h _ _ (mp [] _ _ hB)
    ·have h:=ite_f hg196 h
     apply AWp.exit
     apply seqQ_e
     obtain rfl:=oi h
     exact⟨(fun hc=>by cases hc),rfl,(mp [] _ _ hB)⟩
   ·rcases x207 with _ | _
    ·obtain⟨rfl,hmat⟩:=hR
     apply blkQ_r
     apply seqQ_r
     obtain rfl:=oi h
     exact rt (Mat.trans hmat (mp [] [(2,(bo false))] [] hB)) [(bo false)] (Res.tmp (by rfl) (by rfl) Res.nil) rfl
    ·obtain⟨rfl,hmat⟩:=hR
     apply blkQ_hit
     apply seqQ_n
     refine AWp.ghost hmat ?_
     refine sr (SQ tt) ?_
     apply AWp.ret
     obtain rfl:=oi h
     exact rt (kp [(2,_)] [] hB rfl rfl (by rfl)) [(bo ((decide ((a0.fAddrs.length:Int)≤256))&&(decide ((a0.fASNs.length:Int)≤256))))] (Res.tmp (by rfl) (by rfl) Res.nil) rfl
def xref21_greater (a0:aAddr) (a1:aAddr):Option (aAddr) :=
 (xref01_Cmp a0 a1).bind fun r1 =>
 (if (decide (r1<0))=true then
 some a1
 else
 some a0)
theorem xref21_greater_ac (a0:aAddr) (a1:aAddr) (r:aAddr) (h:xref21_greater a0 a1=some r):AC Tryz.prog 81 [(.d (e_aAddr a0)),(.d (e_aAddr a1))] [] (.d (e_aAddr r)) []:=by
 refine AC.of_code2 Tryz.func81 rfl rfl (Nat.le_of_ble_eq_true (by rfl)) fun B hB hN => ?_
 delta xref21_greater at h
 refine sr (SQ tt) ?_
 apply AWp.seq
 obtain⟨r1,hr1,h⟩:=bindS h
 refine sr (SQ (fa (cl [] (xref01_Cmp_ac a0 a1 r1 hr1)) tt)) ?_
 apply AWp.cond rfl<;>intro hg2
 ·have h:=ite_t hg2 h
  refine sr (SQ tt) ?_
  apply AWp.ret
  apply seqQ_r
  obtain rfl:=oi h
  exact rt (kp [(4,_)] [(1004,some _)] hB rfl rfl (by rfl)) [(.d (e_aAddr a1))] (Res.cell (c:=(.d (e_aAddr a1))) (by rfl) (by rfl) tyS44 (by rfl) (by rfl) (by rfl) Res.nil) rfl
 ·have h:=ite_f hg2 h
  apply AWp.skip
  apply seqQ_n
  refine sr (SQ tt) ?_
  apply AWp.ret
  obtain rfl:=oi h
  exact rt (kp [(4,_)] [(1004,some _)] hB rfl rfl (by rfl)) [(.d (e_aAddr a0))] (Res.cell (c:=(.d (e_aAddr a0))) (by rfl) (by rfl) tyS44 (by rfl) (by rfl) (by rfl) Res.nil) rfl
def xref21_lesser (a0:aAddr) (a1:aAddr):Option (aAddr) :=
 (xref01_Cmp a0 a1).bind fun r1 =>
 (if (decide (r1<0))=true then
 some a0
 else
 some a1)
theorem xref21_lesser_ac (a0:aAddr) (a1:aAddr) (r:aAddr) (h:xref21_lesser a0 a1=some r):AC Tryz.prog 82 [(.d (e_aAddr a0)),(.d (e_aAddr a1))] [] (.d (e_aAddr r)) []:=by
 refine AC.of_code2 Tryz.func82 rfl rfl (Nat.le_of_ble_eq_true (by rfl)) fun B hB hN => ?_
 delta xref21_lesser at h
 refine sr (SQ tt) ?_
 apply AWp.seq
 obtain⟨r1,hr1,h⟩:=bindS h
 refine sr (SQ (fa (cl [] (xref01_Cmp_ac a0 a1 r1 hr1)) tt)) ?_
 apply AWp.cond rfl<;>intro hg2
 ·have h:=ite_t hg2 h
  refine sr (SQ tt) ?_
  apply AWp.ret
  apply seqQ_r
  obtain rfl:=oi h
  exact rt (kp [(4,_)] [(1004,some _)] hB rfl rfl (by rfl)) [(.d (e_aAddr a0))] (Res.cell (c:=(.d (e_aAddr a0))) (by rfl) (by rfl) tyS44 (by rfl) (by rfl) (by rfl) Res.nil) rfl
 ·have h:=ite_f hg2 h
  apply AWp.skip
  apply seqQ_n
  refine sr (SQ tt) ?_
  apply AWp.ret
  obtain rfl:=oi h
  exact rt (kp [(4,_)] [(1004,some _)] hB rfl rfl (by rfl)) [(.d (e_aAddr a1))] (Res.cell (c:=(.d (e_aAddr a1))) (by rfl) (by rfl) tyS44 (by rfl) (by rfl) (by rfl) Res.nil) rfl
def xref21_Intersect_L1 (a1:aResources) (x121:aRange) (s122:Int×(List aRange)):Option ((((List aRange)))⊕(Int×(List aRange))) :=
 (if (decide (s122.1<(a1.fAddrs.length:Int)))=true then
 (idx a1.fAddrs s122.1).bind fun x157 =>
 (xref21_greater x121.fFrom x157.fFrom).bind fun r158 =>
 (xref21_lesser x121.fTo x157.fTo).bind fun r159 =>
 jn (fun m162:Bool =>
 jn (fun m166:(List aRange) =>
 some (.inr ((w64 (s122.1+1)),m166))) (fun j167 =>
 (if m162=true then
 chk (decide ((s122.2++[(aRange.mk r158 r159)]).length≤LIM)) <|
 j167 (s122.2++[(aRange.mk r158 r159)])
 else
 j167 s122.2))) (fun j163 =>
 (if (x121.fFrom.fV6==x157.fFrom.fV6)=true then
 (xref01_Cmp r158 r159).bind fun r171 =>
 j163 (decide (r171≤0))
 else
 j163 false))
 else
 some (.inl s122.2))
def xref21_Intersect_L0 (a0:aResources) (a1:aResources) (s8:Int×(List aRange)):Option ((((List aRange)))⊕(Int×(List aRange))) :=
 (if (decide (s8.1<(a0.fAddrs.length:Int)))=true then
 (idx a0.fAddrs s8.1).bind fun x121 =>
 (loop (xref21_Intersect_L1 a1 x121) (0,s8.2)).bind fun p155 =>
 some (.inr ((w64 (s8.1+1)),p155))
 else
 some (.inl s8.2))
def xref21_Intersect_L3 (a1:aResources) (x241:aSpan) (s242:Int×(List aSpan)):Option ((((List aSpan)))⊕(Int×(List aSpan))) :=
 (if (decide (s242.1<(a1.fASNs.length:Int)))=true then
 (idx a1.fASNs s242.1).bind fun x261 =>
 jn (fun m264:(List aSpan) =>
 some (.inr ((w64 (s242.1+1)),m264))) (fun j265 =>
 (if (decide ((maxI x241.fFrom x261.fFrom)≤(minI x241.fTo x261.fTo)))=true then
 chk (decide ((s242.2++[(aSpan.mk (maxI x241.fFrom x261.fFrom) (minI x241.fTo x261.fTo))]).length≤LIM)) <|
 j265 (s242.2++[(aSpan.mk (maxI x241.fFrom x261.fFrom) (minI x241.fTo x261.fTo))])
 else
 j265 s242.2))
 else
 some (.inl s242.2))
def xref21_Intersect_L2 (a0:aResources) (a1:aResources) (s176:Int×(List aSpan)):Option ((((List aSpan)))⊕(Int×(List aSpan))) :=
 (if (decide (s176.1<(a0.fASNs.length:Int)))=true then
 (idx a0.fASNs s176.1).bind fun x241 =>
 (loop (xref21_Intersect_L3 a1 x241) (0,s176.2)).bind fun p259 =>
 some (.inr ((w64 (s176.1+1)),p259))
 else
 some (.inl s176.2))
def xref21_Intersect (a0:aResources) (a1:aResources):Option (aResources×Int) :=
 jn (fun m5:Bool =>
 (if m5=true then
 some ((aResources.mk ([]:List aRange) ([]:List aSpan)),1)
 else
 (loop (xref21_Intersect_L0 a0 a1) (0,([]:List aRange))).bind fun p119 =>
 (loop (xref21_Intersect_L2 a0 a1) (0,([]:List aSpan))).bind fun p239 =>
 (xref21_ranges p119).bind fun r273 =>
 (xref21_spans p239).bind fun r274 =>
 (xref21_limited r273 r274).bind fun r275 =>
 some (r275.1,r275.2))) (fun j6 =>
 (xref21_Valid a0).bind fun r276 =>
 (if (!r276)=true then
 j6 true
 else
 (xref21_Valid a1).bind fun r278 =>
 j6 (!r278)))
theorem xref21_Intersect_ac (a0:aResources) (a1:aResources) (r:aResources×Int) (h:xref21_Intersect a0 a1=some r):AC Tryz.prog 50 [(.d (e_aResources a0)),(.d (e_aResources a1))] [] (.tup [(.d (e_aResources r.1)),(.d (.int .i64 r.2))]) []:=by
 refine ac2 Tryz.func50 rfl rfl fun B hB hN L => ?_
 delta xref21_Intersect at h
 refine sr (SQ tt) ?_
 apply AWp.seq
 apply AWp.seq
 refine AWp.cut h (fun m5:Bool=>([(2,(pt 1002)),(3,(pt 1003)),(4,(pt 1004)),(27,(bo m5))]:EL)) (fun m5:Bool=>([(1002,bd 57 (e_aResources a0)),(1003,bd 57 (e_aResources a1)),(1004,some (.box 57 (.st [.nils,.nils])))]:OL)) (fun m5 h E' O' hmat => ?_) (fun j6 hjj6 h => ?_)
 ·apply seqQ_n
  refine AWp.ghost hmat ?_
  apply AWp.cond rfl<;>intro hg7
  ·have h:=ite_t hg7 h
   refine sr (SQ tt) ?_
   apply AWp.ret
   apply seqQ_r
   obtain rfl:=oi h
   exact rt (Mat.trans (Mat.coeP (Ts:=[]) (Bs:=[(1004,bd 57 (.st [(.list 6 (([]:List aRange).map e_aRange)),(.list 2 (([]:List aSpan).map e_aSpan))]))]) TwT.nil (TwB.cons (x:=(.st [.nils,.nils])) (by rfl) (Tw.leaf ⟨_,(Co.st (CoL.cons (Co.nils 6) (CoL.cons (Co.nils 2) CoL.nil))),rfl⟩) TwB.nil)) (mp [] [(4,(pt 1004)),(5,(i6 1))] [(1004,bd 57 (.st [(.list 6 (([]:List aRange).map e_aRange)),(.list 2 (([]:List aSpan).map e_aSpan))]))] hB)) [(.d (.st [(.list 6 (([]:List aRange).map e_aRange)),(.list 2 (([]:List aSpan).map e_aSpan))])),(i6 1)] (Res.cell (c:=(.d (.st [(.list 6 (([]:List aRange).map e_aRange)),(.list 2 (([]:List aSpan).map e_aSpan))]))) (by rfl) (by rfl) tyS57 (by rfl) (by rfl) (by rfl) (Res.tmp (by rfl) (by rfl) Res.nil)) rfl
  ·have h:=ite_f hg7 h
   apply AWp.skip
   apply seqQ_n
   refine sr (SQ tt) ?_
   apply AWp.seq
   refine sr (SQ tt) ?_
   apply AWp.block
   obtain⟨p119,hx175,h⟩:=bindS h
   refine lg (xref21_Intersect_L0 a0 a1) (fun s8:Int×(List aRange)=>([(2,(pt 1002)),(3,(pt 1003)),(4,(pt 1004)),(6,(.sref 3006 6 0 s8.2.length)),(30,(qe_aRange_6 a0.fAddrs)),(31,(i6 (a0.fAddrs.length:Int))),(32,(i6 s8.1))]:EL)) (fun s8:Int×(List aRange)=>([(1002,bd 57 (e_aResources a0)),(1003,bd 57 (e_aResources a1)),(1004,some (.box 57 (.st [.nils,.nils]))),(3006,some (we_aRange_92_6 s8.2))]:OL)) (fun(p119:((List aRange))) e E' O'=>e = .exit 0∧Mat B E' O' ([(2,(pt 1002)),(3,(pt 1003)),(4,(pt 1004)),(6,(.sref 3006 6 0 p119.length))]:EL) ([(1002,bd 57 (e_aResources a0)),(1003,bd 57 (e_aResources a1)),(1004,some (.box 57 (.st [.nils,.nils]))),(3006,some (we_aRange_92_6 p119))]:OL)) hx175 (Mat.trans (Mat.beginP (n:=3006) (e:=92) (sz:=6) (Ts:=[(6,(.sref 3006 6 0 0))]) (Bs:=[]) hB (by decide) (by rfl) (by decide) (TwT.cons (x:=.nils) (by rfl) (Tw.leaf ⟨rfl,rfl⟩) TwT.nil) TwB.nil) (mp [] _ _ hB)) (fun s8 y h => ?_) (fun e E' O' hR => ?_)
   ·unfold xref21_Intersect_L0 at h
    refine sr (SQ tt) ?_
    apply AWp.seq
    apply AWp.cond rfl<;>intro hg120
    ·have h:=ite_t hg120 h
     apply AWp.skip
     apply seqQ_n
     apply AWp.seq
     apply AWp.block
     obtain⟨x121,hx121,h⟩:=bindS h
     refine sr (SQ (fa hx121 tt)) ?_
     refine sr (SQ tt) ?_
     apply AWp.block
     obtain⟨p155,hx173,h⟩:=bindS h
     refine lg (xref21_Intersect_L1 a1 x121) (fun s122:Int×(List aRange)=>([(2,(pt 1002)),(3,(pt 1003)),(4,(pt 1004)),(6,(.sref 3006 6 0 s122.2.length)),(8,(pt 1008)),(30,(qe_aRange_6 a0.fAddrs)),(31,(i6 (a0.fAddrs.length:Int))),(32,(i6 s8.1)),(37,(qe_aRange_6 a1.fAddrs)),(38,(i6 (a1.fAddrs.length:Int))),(39,(i6 s122.1))]:EL)) (fun s122:Int×(List aRange)=>([(1002,bd 57 (e_aResources a0)),(1003,bd 57 (e_aResources a1)),(1004,some (.box 57 (.st [.nils,.nils]))),(1008,bd 92 (e_aRange x121)),(3006,some (we_aRange_92_6 s122.2))]:OL)) (fun(p155:((List aRange))) e E' O'=>e = .exit 2∧Mat B E' O' ([(2,(pt 1002)),(3,(pt 1003)),(4,(pt 1004)),(6,(.sref 3006 6 0 p155.length)),(30,(qe_aRange_6 a0.fAddrs)),(31,(i6 (a0.fAddrs.length:Int))),(32,(i6 s8.1))]:EL) ([(1002,bd 57 (e_aResources a0)),(1003,bd 57 (e_aResources a1)),(1004,some (.box 57 (.st [.nils,.nils]))),(3006,some (we_aRange_92_6 p155))]:OL)) hx173 (mp [] _ _ hB) (fun s122 y h => ?_) (fun e E' O' hR => ?_)
     ·unfold xref21_Intersect_L1 at h
      refine sr (SQ tt) ?_
      apply AWp.seq
      apply AWp.cond rfl<;>intro hg156
      ·have h:=ite_t hg156 h
       apply AWp.skip
       apply seqQ_n
       apply AWp.seq
       apply AWp.block
       obtain⟨x157,hx157,h⟩:=bindS h
       refine sr (SQ (fa hx157 tt)) ?_
       obtain⟨r158,hr158,h⟩:=bindS h
       obtain⟨r159,hr159,h⟩:=bindS h
       refine sdS (SQ (fa (cl [] (xref21_greater_ac x121.fFrom x157.fFrom r158 hr158)) (fa (cl [] (xref21_lesser_ac x121.fTo x157.fTo r159 hr159)) tt))) ?_
       apply AWp.seq
       refine AWp.cut h (fun m162:Bool=>([(2,(pt 1002)),(3,(pt 1003)),(4,(pt 1004)),(6,(.sref 3006 6 0 s122.2.length)),(8,(pt 1008)),(11,(pt 1011)),(12,(pt 1012)),(30,(qe_aRange_6 a0.fAddrs)),(31,(i6 (a0.fAddrs.length:Int))),(32,(i6 s8.1)),(37,(qe_aRange_6 a1.fAddrs)),(38,(i6 (a1.fAddrs.length:Int))),(39,(i6 s122.1)),(65,(bo m162))]:EL)) (fun m162:Bool=>([(1002,bd 57 (e_aResources a0)),(1003,bd 57 (e_aResources a1)),(1004,some (.box 57 (.st [.nils,.nils]))),(1008,bd 92 (e_aRange x121)),(1011,bd 44 (e_aAddr r158)),(1012,bd 44 (e_aAddr r159)),(3006,some (we_aRange_92_6 s122.2))]:OL)) (fun m162 h E' O' hmat => ?_) (fun j163 hjj163 h => ?_)
       ·apply seqQ_n
        refine AWp.ghost hmat ?_
        refine AWp.cut h (fun m166:(List aRange)=>([(2,(pt 1002)),(3,(pt 1003)),(4,(pt 1004)),(6,(.sref 3006 6 0 m166.length)),(8,(pt 1008)),(30,(qe_aRange_6 a0.fAddrs)),(31,(i6 (a0.fAddrs.length:Int))),(32,(i6 s8.1)),(37,(qe_aRange_6 a1.fAddrs)),(38,(i6 (a1.fAddrs.length:Int))),(39,(i6 s122.1))]:EL)) (fun m166:(List aRange)=>([(1002,bd 57 (e_aResources a0)),(1003,bd 57 (e_aResources a1)),(1004,some (.box 57 (.st [.nils,.nils]))),(1008,bd 92 (e_aRange x121)),(3006,some (we_aRange_92_6 m166))]:OL)) (fun m166 h E' O' hmat => ?_) (fun j167 hjj167 h => ?_)
        ·apply blkQ_n
         apply seqQ_n
         refine AWp.ghost hmat ?_
         refine rg (SQ tt) ?_
         obtain rfl:=oi h
         exact⟨rfl,(mp [] _ _ hB)⟩
        ·apply AWp.cond rfl<;>intro hg168
         ·have h:=ite_t hg168 h
          obtain⟨hc169,h⟩:=chk_some h
          refine rg (SQ (fa hc169 tt)) ?_
          exact hjj167 _ h _ _ (mp [(3006,1071)] _ _ hB)
         ·have h:=ite_f hg168 h
          apply AWp.skip
          exact hjj167 _ h _ _ (mp [] _ _ hB)
       ·rcases bft (x121.fFrom.fV6==x157.fFrom.fV6) with hg170 | hg170
        ·have h:=ite_t hg170 h
         obtain⟨r171,hr171,h⟩:=bindS h
         refine rg (SQ (fa hg170 (fa (cl [] (xref01_Cmp_ac r158 r159 r171 hr171)) tt))) ?_
         exact hjj163 _ h _ _ (mp [] _ _ hB)
        ·have h:=ite_f hg170 h
         refine rg (SQ (fa hg170 tt)) ?_
         exact hjj163 _ h _ _ (mp [] _ _ hB)
      ·have h:=ite_f hg156 h
       apply AWp.exit
       apply seqQ_e
       obtain rfl:=oi h
       exact⟨(fun hc=>by cases hc),rfl,(mp [] _ _ hB)⟩
     ·obtain⟨rfl,hmat⟩:=hR
      apply blkQ_hit
      apply blkQ_n
      apply seqQ_n
      refine AWp.ghost hmat ?_
      refine rg (SQ tt) ?_
      obtain rfl:=oi h
      exact⟨rfl,(mp [] _ _ hB)⟩
    ·have h:=ite_f hg120 h
     apply AWp.exit
     apply seqQ_e
     obtain rfl:=oi h
     exact⟨(fun hc=>by cases hc),rfl,(mp [] _ _ hB)⟩
   ·obtain⟨rfl,hmat⟩:=hR
    apply blkQ_hit
    apply seqQ_n
    refine AWp.ghost hmat ?_
    refine sr (SQ tt) ?_
    apply AWp.seq
    refine sr (SQ tt) ?_
    apply AWp.block
    obtain⟨p239,hx271,h⟩:=bindS h
    refine lg (xref21_Intersect_L2 a0 a1) (fun s176:Int×(List aSpan)=>([(3,(pt 1003)),(4,(pt 1004)),(6,(.sref 3006 6 0 p119.length)),(13,(.sref 3013 2 0 s176.2.length)),(75,(qe_aSpan_2 a0.fASNs)),(76,(i6 (a0.fASNs.length:Int))),(77,(i6 s176.1))]:EL)) (fun s176:Int×(List aSpan)=>([(1003,bd 57 (e_aResources a1)),(1004,some (.box 57 (.st [.nils,.nils]))),(3006,some (we_aRange_92_6 p119)),(3013,some (we_aSpan_101_2 s176.2))]:OL)) (fun(p239:((List aSpan))) e E' O'=>e = .exit 4∧Mat B E' O' ([(4,(pt 1004)),(6,(.sref 3006 6 0 p119.length)),(13,(.sref 3013 2 0 p239.length))]:EL) ([(1004,some (.box 57 (.st [.nils,.nils]))),(3006,some (we_aRange_92_6 p119)),(3013,some (we_aSpan_101_2 p239))]:OL)) hx271 (Mat.trans (Mat.beginP (n:=3013) (e:=101) (sz:=2) (Ts:=[(13,(.sref 3013 2 0 0))]) (Bs:=[]) hB (by decide) (by rfl) (by decide) (TwT.cons (x:=.nils) (by rfl) (Tw.leaf ⟨rfl,rfl⟩) TwT.nil) TwB.nil) (mp [] _ _ hB)) (fun s176 y h => ?_) (fun e E' O' hR => ?_)
    ·unfold xref21_Intersect_L2 at h
     refine sr (SQ tt) ?_
     apply AWp.seq
     apply AWp.cond rfl<;>intro hg240
     ·have h:=ite_t hg240 h
      apply AWp.skip
      apply seqQ_n
      apply AWp.seq
      apply AWp.block
      obtain⟨x241,hx241,h⟩:=bindS h
      refine sr (SQ (fa hx241 tt)) ?_
      refine sr (SQ tt) ?_
      apply AWp.block
      obtain⟨p259,hx269,h⟩:=bindS h
      refine lg (xref21_Intersect_L3 a1 x241) (fun s242:Int×(List aSpan)=>([(3,(pt 1003)),(4,(pt 1004)),(6,(.sref 3006 6 0 p119.length)),(13,(.sref 3013 2 0 s242.2.length)),(15,(pt 1015)),(75,(qe_aSpan_2 a0.fASNs)),(76,(i6 (a0.fASNs.length:Int))),(77,(i6 s176.1)),(82,(qe_aSpan_2 a1.fASNs)),(83,(i6 (a1.fASNs.length:Int))),(84,(i6 s242.1))]:EL)) (fun s242:Int×(List aSpan)=>([(1003,bd 57 (e_aResources a1)),(1004,some (.box 57 (.st [.nils,.nils]))),(1015,bd 101 (e_aSpan x241)),(3006,some (we_aRange_92_6 p119)),(3013,some (we_aSpan_101_2 s242.2))]:OL)) (fun(p259:((List aSpan))) e E' O'=>e = .exit 6∧Mat B E' O' ([(3,(pt 1003)),(4,(pt 1004)),(6,(.sref 3006 6 0 p119.length)),(13,(.sref 3013 2 0 p259.length)),(75,(qe_aSpan_2 a0.fASNs)),(76,(i6 (a0.fASNs.length:Int))),(77,(i6 s176.1))]:EL) ([(1003,bd 57 (e_aResources a1)),(1004,some (.box 57 (.st [.nils,.nils]))),(3006,some (we_aRange_92_6 p119)),(3013,some (we_aSpan_101_2 p259))]:OL)) hx269 (mp [] _ _ hB) (fun s242 y h => ?_) (fun e E' O' hR => ?_)
      ·unfold xref21_Intersect_L3 at h
       refine sr (SQ tt) ?_
       apply AWp.seq
       apply AWp.cond rfl<;>intro hg260
       ·have h:=ite_t hg260 h
        apply AWp.skip
        apply seqQ_n
        apply AWp.seq
        apply AWp.block
        obtain⟨_,hx261,h⟩:=bindS h
        refine sr (SQ (fa hx261 tt)) ?_
        refine sdS (SQ tt) ?_
        refine sr (SQ tt) ?_
        refine gh [(3,_),(4,_),(6,_),(13,_),(15,_),(18,_),(19,_),(75,_),(76,_),(77,_),(82,_),(83,_),(84,_),(100,_)] [(1003,some _),(1004,some _),(1015,some _),(3006,some _),(3013,some _)] hB rfl rfl (by rfl) ?_
        refine AWp.cut h (fun m264:(List aSpan)=>([(3,(pt 1003)),(4,(pt 1004)),(6,(.sref 3006 6 0 p119.length)),(13,(.sref 3013 2 0 m264.length)),(15,(pt 1015)),(75,(qe_aSpan_2 a0.fASNs)),(76,(i6 (a0.fASNs.length:Int))),(77,(i6 s176.1)),(82,(qe_aSpan_2 a1.fASNs)),(83,(i6 (a1.fASNs.length:Int))),(84,(i6 s242.1))]:EL)) (fun m264:(List aSpan)=>([(1003,bd 57 (e_aResources a1)),(1004,some (.box 57 (.st [.nils,.nils]))),(1015,bd 101 (e_aSpan x241)),(3006,some (we_aRange_92_6 p119)),(3013,some (we_aSpan_101_2 m264))]:OL)) (fun m264 h E' O' hmat => ?_) (fun j265 hjj265 h => ?_)
        ·apply blkQ_n
         apply seqQ_n
         refine AWp.ghost hmat ?_
         refine rg (SQ tt) ?_
         obtain rfl:=oi h
         exact⟨rfl,(mp [] _ _ hB)⟩
        ·apply AWp.cond rfl<;>intro hg266
         ·have h:=ite_t hg266 h
          obtain⟨hc267,h⟩:=chk_some h
          refine rg (SQ (fa hc267 tt)) ?_
          exact hjj265 _ h _ _ (mp [(3013,1106)] _ _ hB)
         ·have h:=ite_f hg266 h
          apply AWp.skip
          exact hjj265 _ h _ _ (mp [] _ _ hB)
       ·have h:=ite_f hg260 h
        apply AWp.exit
        apply seqQ_e
        obtain rfl:=oi h
        exact⟨(fun hc=>by cases hc),rfl,(mp [] _ _ hB)⟩
      ·obtain⟨rfl,hmat⟩:=hR
       apply blkQ_hit
       apply blkQ_n
       apply seqQ_n
       refine AWp.ghost hmat ?_
       refine rg (SQ tt) ?_
       obtain rfl:=oi h
       exact⟨rfl,(mp [] _ _ hB)⟩
     ·have h:=ite_f hg240 h
      apply AWp.exit
      apply seqQ_e
      obtain rfl:=oi h
      exact⟨(fun hc=>by cases hc),rfl,(mp [] _ _ hB)⟩
    ·obtain⟨rfl,hmat⟩:=hR
     apply blkQ_hit
     apply seqQ_n
     refine AWp.ghost hmat ?_
     apply AWp.seq
     refine AWp.ghost (Mat.freezeP (n:=3006) (e:=92) (sz:=6) (es:=p119.map e_aRange) (Ts:=[(6,(qe_aRange_6 p119))]) (Bs:=[]) (by rfl) (TwT.cons (x:=(.sref 3006 6 0 p119.length)) (by rfl) (FrzL.all (by first | rfl | (simp;done) | (simp;omega) | omega)) TwT.nil) TwB.nil) ?_
     refine AWp.ghost (Mat.freezeP (n:=3013) (e:=101) (sz:=2) (es:=p239.map e_aSpan) (Ts:=[(13,(qe_aSpan_2 p239))]) (Bs:=[]) (by rfl) (TwT.cons (x:=(.sref 3013 2 0 p239.length)) (by rfl) (FrzL.all (by first | rfl | (simp;done) | (simp;omega) | omega)) TwT.nil) TwB.nil) ?_
     obtain⟨r273,hr273,h⟩:=bindS h
     obtain⟨r274,hr274,h⟩:=bindS h
     obtain⟨r275,hr275,h⟩:=bindS h
     refine rg (SQ (fa (cl [] (xref21_ranges_ac p119 r273 hr273)) (fa (cl [] (xref21_spans_ac p239 r274 hr274)) (fa (cl [] (xref21_limited_ac r273 r274 r275 hr275)) tt)))) ?_
     apply seqQ_n
     apply AWp.ret
     obtain rfl:=oi h
     exact rt (kp [(4,_),(5,_)] [(1004,some _)] hB rfl rfl (by rfl)) [(.d (e_aResources r275.1)),(i6 r275.2)] (Res.cell (c:=(.d (e_aResources r275.1))) (by rfl) (by rfl) tyS57 (by rfl) (by rfl) (by rfl) (Res.tmp (by rfl) (by rfl) Res.nil)) rfl
 ·obtain⟨r276,hr276,h⟩:=bindS h
  rcases bft (!r276) with hg277 | hg277
  ·have h:=ite_t hg277 h
   refine rg (SQ (fa (cl [] (xref21_Valid_ac a0 r276 hr276)) (fa hg277 tt))) ?_
   exact hjj6 _ h _ _ (mp [] _ _ hB)
  ·have h:=ite_f hg277 h
   obtain⟨r278,hr278,h⟩:=bindS h
   refine rg (SQ (fa (cl [] (xref21_Valid_ac a0 r276 hr276)) (fa hg277 (fa (cl [] (xref21_Valid_ac a1 r278 hr278)) tt)))) ?_
   exact hjj6 _ h _ _ (mp [] _ _ hB)
def xmake_Deck_Certs_L0 (s2:Int×(List aCert)×xmake_Deck):Option (((xmake_Deck×(List aCert)))⊕(Int×(List aCert)×xmake_Deck)) :=
 (if (decide (0<s2.1))=true then
 (xmake_Deck_Next s2.2.2 7).bind fun r69 =>
 (xmake_Deck_Next r69.2 7).bind fun r70 =>
 (xmake_Deck_Next r70.2 4).bind fun r71 =>
 (xmake_Deck_Next r71.2 9).bind fun r72 =>
 (xmake_Deck_Resources r72.2).bind fun r73 =>
 (xmake_Deck_Next r73.2 4).bind fun r74 =>
 jn (fun m87:Int×aResources×xmake_Deck =>
 chk (decide ((s2.2.1++[(aCert.mk (w64 (1+r69.1)) m87.1 r71.1 (w64 (10+r72.1)) m87.2.1)]).length≤LIM)) <|
 some (.inr ((w64 (s2.1-1)),(s2.2.1++[(aCert.mk (w64 (1+r69.1)) m87.1 r71.1 (w64 (10+r72.1)) m87.2.1)]),m87.2.2))) (fun j88 =>
 (if (r74.1==0)=true then
 j88 ((w64 (1+r69.1)),r73.1,r74.2)
 else
 (if (r74.1==1)=true then
 (if (decide (0<(s2.2.1.length:Int)))=true then
 (xmake_Deck_Next r74.2 (s2.2.1.length:Int)).bind fun r93 =>
 (idx s2.2.1 r93.1).bind fun x94 =>
 (idx s2.2.1 r93.1).bind fun x95 =>
 (xref21_Intersect x95.fResources r73.1).bind fun r96 =>
 j88 (x95.fKey,r96.1,r93.2)
 else
 j88 ((w64 (1+r70.1)),r73.1,r74.2))
 else
 (if (r74.1==2)=true then
 (if (decide (0<(s2.2.1.length:Int)))=true then
 (xmake_Deck_Next r74.2 (s2.2.1.length:Int)).bind fun r99 =>
 (idx s2.2.1 r99.1).bind fun x100 =>
 (idx s2.2.1 r99.1).bind fun x101 =>
 j88 (x101.fKey,x101.fResources,r99.2)
 else
 j88 ((w64 (1+r70.1)),r73.1,r74.2))
 else
 j88 ((w64 (1+r70.1)),r73.1,r74.2)))))
 else
 some (.inl (s2.2.2,s2.2.1)))
def xmake_Deck_Certs (a0:xmake_Deck):Option ((List aCert)×xmake_Deck) :=
 (xmake_Deck_Next a0 9).bind fun r1 =>
 (loop (xmake_Deck_Certs_L0) ((w64 (1+r1.1)),([]:List aCert),r1.2)).bind fun p67 =>
 some (p67.2,p67.1)
theorem xmake_Deck_Certs_ac (a0:xmake_Deck) (r:(List aCert)×xmake_Deck) (h:xmake_Deck_Certs a0=some r):AC Tryz.prog 22 [(pt 0)] [(0,(.box 80 (.d (e_xmake_Deck a0))))] (.d (.list 6 (r.1.map e_aCert))) [(0,bd 80 (e_xmake_Deck r.2))]:=by
 refine ac2 Tryz.func22 rfl rfl fun B hB hN L => ?_
 delta xmake_Deck_Certs at h
 refine sr (SQ tt) ?_
 refine sr (SQ tt) ?_
 apply AWp.seq
 apply AWp.seq
 obtain⟨r1,hr1,h⟩:=bindS h
 refine rg (SQ (fa (cl [(0,0)] (xmake_Deck_Next_ac a0 9 r1 hr1)) tt)) ?_
 apply seqQ_n
 refine AWp.ghost (mp [] [(0,(pt 0)),(3,.nils),(4,(i6 (w64 (1+r1.1))))] [(0,bd 80 (e_xmake_Deck r1.2))] hB) ?_
 apply AWp.block
 obtain⟨p67,hx103,h⟩:=bindS h
 refine lg (xmake_Deck_Certs_L0) (fun s2:Int×(List aCert)×xmake_Deck=>([(0,(pt 0)),(3,(.sref 3003 6 0 s2.2.1.length)),(4,(i6 s2.1))]:EL)) (fun s2:Int×(List aCert)×xmake_Deck=>([(0,bd 80 (e_xmake_Deck s2.2.2)),(3003,some (we_aCert_59_6 s2.2.1))]:OL)) (fun(p67:(xmake_Deck×(List aCert))) e E' O'=>e = .exit 0∧Mat B E' O' ([(3,(.sref 3003 6 0 p67.2.length))]:EL) ([(0,bd 80 (e_xmake_Deck p67.1)),(3003,some (we_aCert_59_6 p67.2))]:OL)) hx103 (Mat.trans (Mat.beginP (n:=3003) (e:=59) (sz:=6) (Ts:=[(3,(.sref 3003 6 0 0))]) (Bs:=[]) hB (by decide) (by rfl) (by decide) (TwT.cons (x:=.nils) (by rfl) (Tw.leaf ⟨rfl,rfl⟩) TwT.nil) TwB.nil) (mp [] _ _ hB)) (fun s2 y h => ?_) (fun e E' O' hR => ?_)
 ·unfold xmake_Deck_Certs_L0 at h
  apply AWp.seq
  refine sr (SQ tt) ?_
  apply AWp.cond rfl<;>intro hg68
  ·have h:=ite_t hg68 h
   apply AWp.skip
   apply seqQ_n
   apply AWp.seq
   apply AWp.block
   apply AWp.seq
   obtain⟨r69,hr69,h⟩:=bindS h
   obtain⟨r70,hr70,h⟩:=bindS h
   obtain⟨r71,hr71,h⟩:=bindS h
   obtain⟨r72,hr72,h⟩:=bindS h
   obtain⟨r73,hr73,h⟩:=bindS h
   refine rg (SQ (fa (cl [(0,0)] (xmake_Deck_Next_ac s2.2.2 7 r69 hr69)) (fa (cl [(0,0)] (xmake_Deck_Next_ac r69.2 7 r70 hr70)) (fa (cl [(0,0)] (xmake_Deck_Next_ac r70.2 4 r71 hr71)) (fa (cl [(0,0)] (xmake_Deck_Next_ac r71.2 9 r72 hr72)) (fa (cl [(0,0)] (xmake_Deck_Resources_ac r72.2 r73 hr73)) tt)))))) ?_
   apply seqQ_n
   refine AWp.ghost (mp [] [(0,(pt 0)),(3,(.sref 3003 6 0 s2.2.1.length)),(4,(i6 s2.1)),(5,(pt 1005))] [(0,bd 80 (e_xmake_Deck r73.2)),(1005,some (.box 59 (.d (.st [(.int .i64 (w64 (1+r69.1))),(.int .i64 (w64 (1+r70.1))),(.int .i64 r71.1),(.int .i64 (w64 (10+r72.1))),(e_aResources r73.1)])))),(3003,some (we_aCert_59_6 s2.2.1))] hB) ?_
   apply AWp.seq
   apply AWp.seq
   obtain⟨r74,hr74,h⟩:=bindS h
   refine rg (SQ (fa (cl [(0,0)] (xmake_Deck_Next_ac r73.2 4 r74 hr74)) tt)) ?_
   apply seqQ_n
   refine AWp.ghost (mp [] [(0,(pt 0)),(3,(.sref 3003 6 0 s2.2.1.length)),(4,(i6 s2.1)),(5,(pt 1005)),(30,(i6 r74.1))] [(0,bd 80 (e_xmake_Deck r74.2)),(1005,some (.box 59 (.d (.st [(.int .i64 (w64 (1+r69.1))),(.int .i64 (w64 (1+r70.1))),(.int .i64 r71.1),(.int .i64 (w64 (10+r72.1))),(e_aResources r73.1)])))),(3003,some (we_aCert_59_6 s2.2.1))] hB) ?_
   apply AWp.block
   refine sr (SQ tt) ?_
   refine gh [(0,_),(3,_),(4,_),(5,_),(30,_),(31,_)] [(0,some _),(1005,some _),(3003,some _)] hB rfl rfl (by rfl) ?_
   refine AWp.cut h (fun m87:Int×aResources×xmake_Deck=>([(0,(pt 0)),(3,(.sref 3003 6 0 s2.2.1.length)),(4,(i6 s2.1)),(5,(pt 1005))]:EL)) (fun m87:Int×aResources×xmake_Deck=>([(0,bd 80 (e_xmake_Deck m87.2.2)),(1005,some (.box 59 (.d (.st [(.int .i64 (w64 (1+r69.1))),(.int .i64 m87.1),(.int .i64 r71.1),(.int .i64 (w64 (10+r72.1))),(e_aResources m87.2.1)])))),(3003,some (we_aCert_59_6 s2.2.1))]:OL)) (fun m87 h E' O' hmat => ?_) (fun j88 hjj88 h => ?_)
   ·apply blkQ_n
    apply seqQ_n
    refine AWp.ghost hmat ?_
    obtain⟨hc89,h⟩:=chk_some h
    refine rg (SQ (fa hc89 tt)) ?_
    apply blkQ_n
    apply seqQ_n
    refine rg (SQ tt) ?_
    obtain rfl:=oi h
    exact⟨rfl,(mp [(3003,1081)] _ _ hB)⟩
   ·apply AWp.cond rfl<;>intro hg90
    ·have h:=ite_t hg90 h
     refine rg (SQ tt) ?_
     exact hjj88 _ h _ _ (mp [] _ _ hB)
    ·have h:=ite_f hg90 h
     refine sr (SQ tt) ?_
     apply AWp.cond rfl<;>intro hg91
     ·have h:=ite_t hg91 h
      refine sr (SQ tt) ?_
      apply AWp.cond rfl<;>intro hg92
      ·have h:=ite_t hg92 h
       apply AWp.seq
       obtain⟨r93,hr93,h⟩:=bindS h
       obtain⟨_,hx94,h⟩:=bindS h
       obtain⟨x95,hx95,h⟩:=bindS h
       refine rg (SQ (fa (cl [(0,0)] (xmake_Deck_Next_ac r74.2 (s2.2.1.length:Int) r93 hr93)) (fa hx94 (fa hx95 tt)))) ?_
       apply seqQ_n
       refine AWp.ghost (mp [] [(0,(pt 0)),(3,(.sref 3003 6 0 s2.2.1.length)),(4,(i6 s2.1)),(5,(pt 1005)),(6,(pt 1006))] [(0,bd 80 (e_xmake_Deck r93.2)),(1005,some (.box 59 (.d (.st [(.int .i64 (w64 (1+r69.1))),(.int .i64 (w64 (1+r70.1))),(.int .i64 r71.1),(.int .i64 (w64 (10+r72.1))),(e_aResources r73.1)])))),(1006,bd 59 (e_aCert x95)),(3003,some (we_aCert_59_6 s2.2.1))] hB) ?_
       refine sr (SQ tt) ?_
       obtain⟨r96,hr96,h⟩:=bindS h
       refine rg (SQ (fa (cl [] (xref21_Intersect_ac x95.fResources r73.1 r96 hr96)) tt)) ?_
       exact hjj88 _ h _ _ (mp [] _ _ hB)
      ·have h:=ite_f hg92 h
       apply AWp.skip
       exact hjj88 _ h _ _ (mp [] _ _ hB)
     ·have h:=ite_f hg91 h
      refine sr (SQ tt) ?_
      apply AWp.cond rfl<;>intro hg97
      ·have h:=ite_t hg97 h
       refine sr (SQ tt) ?_
       apply AWp.cond rfl<;>intro hg98
       ·have h:=ite_t hg98 h
        apply AWp.seq
        obtain⟨r99,hr99,h⟩:=bindS h
        obtain⟨_,hx100,h⟩:=bindS h
        obtain⟨x101,hx101,h⟩:=bindS h
        refine rg (SQ (fa (cl [(0,0)] (xmake_Deck_Next_ac r74.2 (s2.2.1.length:Int) r99 hr99)) (fa hx100 (fa hx101 tt)))) ?_
        apply seqQ_n
        refine AWp.ghost (mp [] [(0,(pt 0)),(3,(.sref 3003 6 0 s2.2.1.length)),(4,(i6 s2.1)),(5,(pt 1005)),(7,(pt 1007))] [(0,bd 80 (e_xmake_Deck r99.2)),(1005,some (.box 59 (.d (.st [(.int .i64 (w64 (1+r69.1))),(.int .i64 (w64 (1+r70.1))),(.int .i64 r71.1),(.int .i64 (w64 (10+r72.1))),(e_aResources r73.1)])))),(1007,bd 59 (e_aCert x101)),(3003,some (we_aCert_59_6 s2.2.1))] hB) ?_
        refine drS (SQ tt) ?_
        exact hjj88 _ h _ _ (mp [] _ _ hB)
       ·have h:=ite_f hg98 h
        apply AWp.skip
        exact hjj88 _ h _ _ (mp [] _ _ hB)
      ·have h:=ite_f hg97 h
       apply AWp.skip
       exact hjj88 _ h _ _ (mp [] _ _ hB)
  ·have h:=ite_f hg68 h
   apply AWp.exit
   apply seqQ_e
   obtain rfl:=oi h
   exact⟨(fun hc=>by cases hc),rfl,(mp [] _ _ hB)⟩
 ·obtain⟨rfl,hmat⟩:=hR
  apply blkQ_hit
  apply seqQ_n
  refine AWp.ghost hmat ?_
  refine sr (SQ tt) ?_
  apply AWp.ret
  obtain rfl:=oi h
  exact rt (Mat.trans (Mat.freezeP (n:=3003) (e:=59) (sz:=6) (es:=p67.2.map e_aCert) (Ts:=[(2,(qe_aCert_6 p67.2))]) (Bs:=[]) (by rfl) (TwT.cons (x:=(.sref 3003 6 0 p67.2.length)) (by rfl) (FrzL.all (by first | rfl | (simp;done) | (simp;omega) | omega)) TwT.nil) TwB.nil) (mp [] [(2,(qe_aCert_6 p67.2))] [(0,bd 80 (e_xmake_Deck p67.1))] hB)) [(qe_aCert_6 p67.2)] (Res.tmp (by rfl) (by rfl) Res.nil) rfl
def xmake_Deck_Object (a0:xmake_Deck):Option (aObject×xmake_Deck) :=
 (xmake_Deck_Prefix a0).bind fun r1 =>
 jn (fun m3:Int =>
 (xmake_Deck_Next r1.2 4).bind fun r5 =>
 (xmake_Deck_Next r5.2 4).bind fun r6 =>
 (xmake_Deck_Next r6.2 5).bind fun r7 =>
 some ((aObject.mk r1.1 (minI m3 (w64 (r1.1.fLen+(w64 (r5.1*r6.1))))) (w64 (1+r7.1))),r7.2)) (fun j4 =>
 (if r1.1.fAddr.fV6=true then
 j4 128
 else
 j4 32))
theorem xmake_Deck_Object_ac (a0:xmake_Deck) (r:aObject×xmake_Deck) (h:xmake_Deck_Object a0=some r):AC Tryz.prog 57 [(pt 0)] [(0,(.box 80 (.d (e_xmake_Deck a0))))] (.d (e_aObject r.1)) [(0,bd 80 (e_xmake_Deck r.2))]:=by
 refine ac2 Tryz.func57 rfl rfl fun B hB hN L => ?_
 delta xmake_Deck_Object at h
 refine sr (SQ tt) ?_
 apply AWp.seq
 obtain⟨r1,hr1,h⟩:=bindS h
 refine rg (SQ (fa (cl [(0,0)] (xmake_Deck_Prefix_ac a0 r1 hr1)) tt)) ?_
 apply seqQ_n
 refine AWp.ghost (mp [] [(0,(pt 0)),(2,(pt 1002)),(3,(pt 1003))] [(0,bd 80 (e_xmake_Deck r1.2)),(1002,bd 48 (.st [(.st [(.st [(.bool false),(.int .u64 0),(.int .u64 0)]),(.int .i64 0)]),(.int .i64 0),(.int .i64 0)])),(1003,bd 46 (e_aPrefix r1.1))] hB) ?_
 refine sr (SQ tt) ?_
 apply AWp.seq
 refine sr (SQ tt) ?_
 refine gh [(0,_),(2,_),(3,_),(4,_),(9,_)] [(0,some _),(1002,some _),(1003,some _)] hB rfl rfl (by rfl) ?_
 refine AWp.cut h (fun m3:Int=>([(0,(pt 0)),(2,(pt 1002)),(3,(pt 1003)),(4,(i6 m3))]:EL)) (fun m3:Int=>([(0,bd 80 (e_xmake_Deck r1.2)),(1002,bd 48 (.st [(.st [(.st [(.bool false),(.int .u64 0),(.int .u64 0)]),(.int .i64 0)]),(.int .i64 0),(.int .i64 0)])),(1003,bd 46 (e_aPrefix r1.1))]:OL)) (fun m3 h E' O' hmat => ?_) (fun j4 hjj4 h => ?_)
 ·apply seqQ_n
  refine AWp.ghost hmat ?_
  apply AWp.seq
  obtain⟨r5,hr5,h⟩:=bindS h
  obtain⟨r6,hr6,h⟩:=bindS h
  obtain⟨r7,hr7,h⟩:=bindS h
  refine drS (SQ (fa (cl [(0,0)] (xmake_Deck_Next_ac r1.2 4 r5 hr5)) (fa (cl [(0,0)] (xmake_Deck_Next_ac r5.2 4 r6 hr6)) (fa (cl [(0,0)] (xmake_Deck_Next_ac r6.2 5 r7 hr7)) tt)))) ?_
  apply seqQ_n
  refine AWp.ghost (mp [] [(2,(pt 1002))] [(0,bd 80 (e_xmake_Deck r7.2)),(1002,some (.box 48 (.d (.st [(e_aPrefix r1.1),(.int .i64 (minI m3 (w64 (r1.1.fLen+(w64 (r5.1*r6.1)))))),(.int .i64 (w64 (1+r7.1)))]))))] hB) ?_
  apply AWp.ret
  obtain rfl:=oi h
  exact rt (kp [(2,_)] [(0,some _),(1002,some _)] hB rfl rfl (by rfl)) [(.d (.st [(e_aPrefix r1.1),(.int .i64 (minI m3 (w64 (r1.1.fLen+(w64 (r5.1*r6.1)))))),(.int .i64 (w64 (1+r7.1)))]))] (Res.cell (c:=(.d (.st [(e_aPrefix r1.1),(.int .i64 (minI m3 (w64 (r1.1.fLen+(w64 (r5.1*r6.1)))))),(.int .i64 (w64 (1+r7.1)))]))) (by rfl) (by rfl) tyS48 (by rfl) (by rfl) (by rfl) Res.nil) rfl
 ·apply AWp.cond rfl<;>intro hg8
  ·have h:=ite_t hg8 h
   refine rg (SQ tt) ?_
   exact hjj4 _ h _ _ (mp [] _ _ hB)
  ·have h:=ite_f hg8 h
   apply AWp.skip
   exact hjj4 _ h _ _ (mp [] _ _ hB)
def xref02_Halves (a0:aPrefix):Option (aPrefix×aPrefix×Int) :=
 (xref02_Valid a0).bind fun r1 =>
 (if (!r1)=true then
 some ((aPrefix.mk (aAddr.mk false 0 0) 0),(aPrefix.mk (aAddr.mk false 0 0) 0),1)
 else
 (xref02_width a0.fAddr).bind fun r3 =>
 (if (a0.fLen==r3)=true then
 some ((aPrefix.mk (aAddr.mk false 0 0) 0),(aPrefix.mk (aAddr.mk false 0 0) 0),9)
 else
 (xref01_Bytes_2 a0.fAddr).bind fun r5 =>
 (idx r5 (w64 (Int.tdiv a0.fLen 8))).bind fun x6 =>
 (idx r5 (w64 (Int.tdiv a0.fLen 8))).bind fun x7 =>
 (idx r5 (w64 (Int.tdiv a0.fLen 8))).bind fun x8 =>
 (idx r5 (w64 (Int.tdiv a0.fLen 8))).bind fun x9 =>
 (xref01_FromBytes (((r5.set (w64 (Int.tdiv a0.fLen 8)).toNat (bitI .or .u8 x7 (shrI .u8 128 (IntKind.u64.wrap (Int.tmod a0.fLen 8))))).drop 0).take r5.length)).bind fun r10 =>
 some ((aPrefix.mk a0.fAddr (w64 (a0.fLen+1))),(aPrefix.mk r10.1 (w64 (a0.fLen+1))),0)))
theorem xref02_Halves_ac (a0:aPrefix) (r:aPrefix×aPrefix×Int) (h:xref02_Halves a0=some r):AC Tryz.prog 102 [(.d (e_aPrefix a0))] [] (.tup [(.d (e_aPrefix r.1)),(.d (e_aPrefix r.2.1)),(.d (.int .i64 r.2.2))]) []:=by
 refine ac2 Tryz.func102 rfl rfl fun B hB hN L => ?_
 delta xref02_Halves at h
 refine sr (SQ tt) ?_
 apply AWp.seq
 apply AWp.block
 obtain⟨r1,hr1,h⟩:=bindS h
 refine sr (SQ (fa (cl [] (xref02_Valid_ac a0 r1 hr1)) tt)) ?_
 apply AWp.cond rfl<;>intro hg2
 ·have h:=ite_t hg2 h
  refine sr (SQ tt) ?_
  apply AWp.ret
  apply blkQ_r
  apply seqQ_r
  obtain rfl:=oi h
  exact rt (kp [(2,_),(3,_),(4,_)] [(1002,some _),(1003,some _)] hB rfl rfl (by rfl)) [(.d (.st [(.st [(.bool false),(.int .u64 0),(.int .u64 0)]),(.int .i64 0)])),(.d (.st [(.st [(.bool false),(.int .u64 0),(.int .u64 0)]),(.int .i64 0)])),(i6 1)] (Res.cell (c:=(.d (.st [(.st [(.bool false),(.int .u64 0),(.int .u64 0)]),(.int .i64 0)]))) (by rfl) (by rfl) tyS46 (by rfl) (by rfl) (by rfl) (Res.cell (c:=(.d (.st [(.st [(.bool false),(.int .u64 0),(.int .u64 0)]),(.int .i64 0)]))) (by rfl) (by rfl) tyS46 (by rfl) (by rfl) (by rfl) (Res.tmp (by rfl) (by rfl) Res.nil))) rfl
 ·have h:=ite_f hg2 h
  obtain⟨r3,hr3,h⟩:=bindS h
  refine sdS (SQ (fa (cl [] (xref02_width_ac a0.fAddr r3 hr3)) tt)) ?_
  apply AWp.cond rfl<;>intro hg4
  ·have h:=ite_t hg4 h
   refine sr (SQ tt) ?_
   apply AWp.ret
   apply blkQ_r
   apply seqQ_r
   obtain rfl:=oi h
   exact rt (kp [(2,_),(3,_),(4,_)] [(1002,some _),(1003,some _)] hB rfl rfl (by rfl)) [(.d (.st [(.st [(.bool false),(.int .u64 0),(.int .u64 0)]),(.int .i64 0)])),(.d (.st [(.st [(.bool false),(.int .u64 0),(.int .u64 0)]),(.int .i64 0)])),(i6 9)] (Res.cell (c:=(.d (.st [(.st [(.bool false),(.int .u64 0),(.int .u64 0)]),(.int .i64 0)]))) (by rfl) (by rfl) tyS46 (by rfl) (by rfl) (by rfl) (Res.cell (c:=(.d (.st [(.st [(.bool false),(.int .u64 0),(.int .u64 0)]),(.int .i64 0)]))) (by rfl) (by rfl) tyS46 (by rfl) (by rfl) (by rfl) (Res.tmp (by rfl) (by rfl) Res.nil))) rfl
  ·have h:=ite_f hg4 h
   apply AWp.skip
   apply blkQ_n
   apply seqQ_n
   apply AWp.seq
   obtain⟨r5,hr5,h⟩:=bindS h
   refine rg (SQ (fa (cl [(900000,100200)] (xref01_Bytes_2_ac a0.fAddr r5 hr5)) tt)) ?_
   apply seqQ_n
   refine AWp.ghost (mp [] [(1,(pt 1001)),(2,(pt 1002)),(3,(pt 1003)),(5,(.sref 100200 1 0 r5.length))] [(1001,bd 46 (e_aPrefix a0)),(1002,bd 46 (.st [(.st [(.bool false),(.int .u64 0),(.int .u64 0)]),(.int .i64 0)])),(1003,bd 46 (.st [(.st [(.bool false),(.int .u64 0),(.int .u64 0)]),(.int .i64 0)])),(100200,some (.row 5 1 (r5.map (eI .u8))))] hB) ?_
   obtain⟨_,hx6,h⟩:=bindS h
   obtain⟨x7,hx7,h⟩:=bindS h
   obtain⟨_,hx8,h⟩:=bindS h
   obtain⟨_,hx9,h⟩:=bindS h
   refine sdS (SQ (fa hx6 (fa hx7 (fa hx8 (fa hx9 (fa (sv (bitI .or .u8 x7 (shrI .u8 128 (IntKind.u64.wrap (Int.tmod a0.fLen 8))))) tt)))))) ?_
   apply AWp.seq
   refine AWp.ghost (Mat.freezeP (n:=100200) (e:=5) (sz:=1) (es:=(r5.set (w64 (Int.tdiv a0.fLen 8)).toNat (bitI .or .u8 x7 (shrI .u8 128 (IntKind.u64.wrap (Int.tmod a0.fLen 8))))).map (eI .u8)) (Ts:=[(5,(.d (.list 1 ((((r5.set (w64 (Int.tdiv a0.fLen 8)).toNat (bitI .or .u8 x7 (shrI .u8 128 (IntKind.u64.wrap (Int.tmod a0.fLen 8))))).drop 0).take r5.length).map (eI .u8)))))]) (Bs:=[]) (by rfl) (TwT.cons (x:=(.sref 100200 1 0 r5.length)) (by rfl) (FrzL.cut (fs:=(((r5.set (w64 (Int.tdiv a0.fLen 8)).toNat (bitI .or .u8 x7 (shrI .u8 128 (IntKind.u64.wrap (Int.tmod a0.fLen 8))))).drop 0).take r5.length).map (eI .u8)) (by simp only [List.length_map,List.length_append,List.length_take,List.length_drop,List.length_replicate,List.length_set];omega) (by first | rw [List.map_drop,List.map_take] | simp [List.map_take,List.map_drop])) TwT.nil) TwB.nil) ?_
   obtain⟨r10,hr10,h⟩:=bindS h
   refine rg (SQ (fa (cl [] (xref01_FromBytes_ac (((r5.set (w64 (Int.tdiv a0.fLen 8)).toNat (bitI .or .u8 x7 (shrI .u8 128 (IntKind.u64.wrap (Int.tmod a0.fLen 8))))).drop 0).take r5.length) r10 hr10)) tt)) ?_
   apply seqQ_n
   refine sdS (SQ tt) ?_
   apply AWp.ret
   obtain rfl:=oi h
   exact rt (kp [(2,_),(3,_),(4,_)] [(1002,some _),(1003,some _)] hB rfl rfl (by rfl)) [(.d (.st [(e_aAddr a0.fAddr),(.int .i64 (w64 (a0.fLen+1)))])),(.d (.st [(e_aAddr r10.1),(.int .i64 (w64 (a0.fLen+1)))])),(i6 0)] (Res.cell (c:=(.d (.st [(e_aAddr a0.fAddr),(.int .i64 (w64 (a0.fLen+1)))]))) (by rfl) (by rfl) tyS46 (by rfl) (by rfl) (by rfl) (Res.cell (c:=(.d (.st [(e_aAddr r10.1),(.int .i64 (w64 (a0.fLen+1)))]))) (by rfl) (by rfl) tyS46 (by rfl) (by rfl) (by rfl) (Res.tmp (by rfl) (by rfl) Res.nil))) rfl
def xref21_divide:Nat→aPrefix→aRange→Option ((List aPrefix))
 | 0,_,_=>none
 | fuel+1,a0,a1 =>
  (xref02_Last a0).bind fun r1 =>
  jn (fun m6:Bool =>
  (if m6=true then
  some ([]:List aPrefix)
  else
  jn (fun m13:Bool =>
  (if m13=true then
  some [a0]
  else
  (xref02_Halves a0).bind fun r16 =>
  (xref21_divide fuel r16.1 a1).bind fun r19 =>
  (xref21_divide fuel r16.2.1 a1).bind fun r20 =>
  chk (decide ((r19++r20).length≤LIM)) <|
  some (r19++r20))) (fun j14 =>
  (xref01_Cmp a1.fFrom a0.fAddr).bind fun r22 =>
  (if (decide (r22≤0))=true then
  (xref01_Cmp r1 a1.fTo).bind fun r24 =>
  j14 (decide (r24≤0))
  else
  j14 false)))) (fun j7 =>
  (xref01_Cmp r1 a1.fFrom).bind fun r25 =>
  (if (decide (r25<0))=true then
  j7 true
  else
  (xref01_Cmp a1.fTo a0.fAddr).bind fun r27 =>
  j7 (decide (r27<0))))
theorem xref21_divide_ac (fuel:Nat):∀ (a0:aPrefix) (a1:aRange) (r:(List aPrefix)) (h:xref21_divide fuel a0 a1=some r),AC Tryz.prog 84 [(.d (e_aPrefix a0)),(.d (e_aRange a1))] [] (.sref 900000 4 0 r.length) [(900000,some (.row 46 4 (r.map e_aPrefix)))]:=by
 induction fuel with
 | zero =>
  intro a0 a1 r h
  rw [xref21_divide] at h
  cases h
 | succ fuel ih =>
  intro a0 a1 r h
  refine ac2 Tryz.func84 rfl rfl fun B hB hN L => ?_
  rw [xref21_divide] at h
  refine sr (SQ tt) ?_
  obtain⟨r1,hr1,h⟩:=bindS h
  refine sr (SQ (fa (cl [] (xref02_Last_ac a0 r1 hr1)) tt)) ?_
  apply AWp.seq
  apply AWp.seq
  refine AWp.cut h (fun m6:Bool=>([(2,(pt 1002)),(3,(pt 1003)),(5,(pt 1005)),(23,(bo m6))]:EL)) (fun m6:Bool=>([(1002,bd 46 (e_aPrefix a0)),(1003,bd 92 (e_aRange a1)),(1005,bd 44 (e_aAddr r1))]:OL)) (fun m6 h E' O' hmat => ?_) (fun j7 hjj7 h => ?_)
  ·apply seqQ_n
   refine AWp.ghost hmat ?_
   apply AWp.cond rfl<;>intro hg8
   ·have h:=ite_t hg8 h
    refine sr (SQ tt) ?_
    apply AWp.ret
    apply seqQ_r
    obtain rfl:=oi h
    exact rt (Mat.trans (Mat.beginP (n:=900500) (e:=46) (sz:=4) (Ts:=[(4,(.sref 900500 4 0 0))]) (Bs:=[]) hB (by decide) (by rfl) (by decide) (TwT.cons (x:=.nils) (by rfl) (Tw.leaf ⟨rfl,rfl⟩) TwT.nil) TwB.nil) (Mat.trans (Mat.lenP (Ts:=[(4,(.sref 900500 4 0 (([]:List aPrefix).length)))]) (Bs:=[]) (TwT.cons (x:=(.sref 900500 4 0 0)) (by rfl) (Tw.leaf ⟨_,_,_,_,_,rfl,rfl,(by first | rfl | (simp;done) | (simp;omega) | omega)⟩) TwT.nil) TwB.nil) (mp [(900000,900500)] [(4,(.sref 900000 4 0 (([]:List aPrefix).length)))] [(900000,some (we_aPrefix_46_4 ([]:List aPrefix)))] hB))) [(.sref 900000 4 0 (([]:List aPrefix).length))] (Res.tmp (by rfl) (by rfl) Res.nil) rfl
   ·have h:=ite_f hg8 h
    apply AWp.skip
    apply seqQ_n
    apply AWp.seq
    apply AWp.seq
    refine AWp.cut h (fun m13:Bool=>([(2,(pt 1002)),(3,(pt 1003)),(36,(bo m13))]:EL)) (fun m13:Bool=>([(1002,bd 46 (e_aPrefix a0)),(1003,bd 92 (e_aRange a1))]:OL)) (fun m13 h E' O' hmat => ?_) (fun j14 hjj14 h => ?_)
    ·apply seqQ_n
     refine AWp.ghost hmat ?_
     apply AWp.cond rfl<;>intro hg15
     ·have h:=ite_t hg15 h
      apply sr (c (lb hN 46 _ _ tyS46 (At.here _) (q 2)) rfl (cg (OpJ.buildSliceR underlying50 tyS46 tyZD46 (by rfl) (by decide) (by decide) hB (nm:=1038) (by decide) (len:=[a0].length) (by rfl) (Opds.cons (q 37) Opds.nil) (by kernel_rfl) (es:=[a0].map e_aPrefix) (by rfl) (by rfl) (by kernel_rfl) (by simp) (L rfl)) rfl (c (assign (L rfl) (q 38)) rfl cn)))
      apply AWp.ret
      apply seqQ_r
      obtain rfl:=oi h
      exact rt (mp [(900000,1038)] [(4,(.sref 900000 4 0 ([a0].length)))] [(900000,some (we_aPrefix_46_4 [a0]))] hB) [(.sref 900000 4 0 ([a0].length))] (Res.tmp (by rfl) (by rfl) Res.nil) rfl
     ·have h:=ite_f hg15 h
      apply AWp.skip
      apply seqQ_n
      obtain⟨r16,hr16,h⟩:=bindS h
      refine sr (SQ (fa (cl [] (xref02_Halves_ac a0 r16 hr16)) tt)) ?_
      apply AWp.seq
      obtain⟨r19,hr19,h⟩:=bindS h
      obtain⟨r20,hr20,h⟩:=bindS h
      obtain⟨hc21,h⟩:=chk_some h
      refine AWp.draws (by kernel_rfl) (oc (lb hN 46 (.d (e_aPrefix r16.1)) (.d (e_aPrefix r16.1)) tyS46 (At.here _) (ot 6 (pt 1006)))
       (oc (lb hN 92 (.d (e_aRange a1)) (.d (e_aRange a1)) tyS92 (At.here _) (ot 3 (pt 1003)))
       (oc (OpJ.callFn hB fnOk84 (ih r16.1 a1 r19 hr19) [(900000,100600)] (by kernel_rfl) (L rfl) (by kernel_rfl) (OpdL.cons (ot 45 (.d (e_aPrefix r16.1))) (OpdL.cons (ot 46 (.d (e_aRange a1))) OpdL.nil)))
       (oc (lb hN 46 (.d (e_aPrefix r16.2.1)) (.d (e_aPrefix r16.2.1)) tyS46 (At.here _) (ot 7 (pt 1007)))
       (oc (lb hN 92 (.d (e_aRange a1)) (.d (e_aRange a1)) tyS92 (At.here _) (ot 3 (pt 1003)))
       (oc (OpJ.frz (OpJ.callFn hB fnOk84 (ih r16.2.1 a1 r20 hr20) [(900000,100700)] (by kernel_rfl) (L rfl) (by kernel_rfl) (OpdL.cons (ot 48 (.d (e_aPrefix r16.2.1))) (OpdL.cons (ot 49 (.d (e_aRange a1))) OpdL.nil))) (by simp))
       (oc (apd hB underlying50 tyE46 1051 e_aPrefix r19 r20 hc21 (L rfl) (ot 47 (.sref 100600 4 0 r19.length)) (ot 50 (qe_aPrefix_4 r20)))
       (oc (assign (L rfl) (ot 51 (.sref 1051 4 0 ((r19++r20).length))))
       (OpJs.nil))))))))) (by kernel_rfl) (by rfl) (by rfl) ?_
      apply seqQ_n
      refine AWp.ghost (mp [] [(4,(.sref 1051 4 0 ((r19++r20).length)))] [(1051,some (we_aPrefix_46_4 (r19++r20)))] hB) ?_
      apply AWp.ret
      obtain rfl:=oi h
      exact rt (mp [(900000,1051)] [(4,(.sref 900000 4 0 ((r19++r20).length)))] [(900000,some (we_aPrefix_46_4 (r19++r20)))] hB) [(.sref 900000 4 0 ((r19++r20).length))] (Res.tmp (by rfl) (by rfl) Res.nil) rfl
    ·obtain⟨r22,hr22,h⟩:=bindS h
     rcases bft (decide (r22≤0)) with hg23 | hg23
     ·have h:=ite_t hg23 h
      obtain⟨r24,hr24,h⟩:=bindS h
      refine rg (SQ (fa (cl [] (xref01_Cmp_ac a1.fFrom a0.fAddr r22 hr22)) (fa hg23 (fa (cl [] (xref01_Cmp_ac r1 a1.fTo r24 hr24)) tt)))) ?_
      exact hjj14 _ h _ _ (mp [] _ _ hB)
     ·have h:=ite_f hg23 h
      refine rg (SQ (fa (cl [] (xref01_Cmp_ac a1.fFrom a0.fAddr r22 hr22)) (fa hg23 tt))) ?_
      exact hjj14 _ h _ _ (mp [] _ _ hB)
  ·obtain⟨r25,hr25,h⟩:=bindS h
   rcases bft (decide (r25<0)) with hg26 | hg26
   ·have h:=ite_t hg26 h
    refine rg (SQ (fa (cl [] (xref01_Cmp_ac r1 a1.fFrom r25 hr25)) (fa hg26 tt))) ?_
    exact hjj7 _ h _ _ (mp [] _ _ hB)
   ·have h:=ite_f hg26 h
    obtain⟨r27,hr27,h⟩:=bindS h
    refine rg (SQ (fa (cl [] (xref01_Cmp_ac r1 a1.fFrom r25 hr25)) (fa hg26 (fa (cl [] (xref01_Cmp_ac a1.fTo a0.fAddr r27 hr27)) tt)))) ?_
    exact hjj7 _ h _ _ (mp [] _ _ hB)
def xref21_Prefixes_L0 (a0:aResources) (s1:Int×(List aPrefix)):Option ((((List aPrefix)))⊕(Int×(List aPrefix))) :=
 (if (decide (s1.1<(a0.fAddrs.length:Int)))=true then
 (idx a0.fAddrs s1.1).bind fun x13 =>
 (xref21_divide 1000 (aPrefix.mk (aAddr.mk x13.fFrom.fV6 0 0) 0) x13).bind fun r14 =>
 chk (decide ((s1.2++r14).length≤LIM)) <|
 some (.inr ((w64 (s1.1+1)),(s1.2++r14)))
 else
 some (.inl s1.2))
def xref21_Prefixes (a0:aResources):Option ((List aPrefix)) :=
 (loop (xref21_Prefixes_L0 a0) (0,([]:List aPrefix))).bind fun p11 =>
 some p11
theorem xref21_Prefixes_ac (a0:aResources) (r:(List aPrefix)) (h:xref21_Prefixes a0=some r):AC Tryz.prog 58 [(.d (e_aResources a0))] [] (.d (.list 4 (r.map e_aPrefix))) []:=by
 refine ac2 Tryz.func58 rfl rfl fun B hB hN L => ?_
 delta xref21_Prefixes at h
 refine sr (SQ tt) ?_
 refine sr (SQ tt) ?_
 apply AWp.seq
 refine sr (SQ tt) ?_
 apply AWp.block
 obtain⟨p11,hx17,h⟩:=bindS h
 refine lg (xref21_Prefixes_L0 a0) (fun s1:Int×(List aPrefix)=>([(3,(.sref 3003 4 0 s1.2.length)),(7,(qe_aRange_6 a0.fAddrs)),(8,(i6 (a0.fAddrs.length:Int))),(9,(i6 s1.1))]:EL)) (fun s1:Int×(List aPrefix)=>([(3003,some (we_aPrefix_46_4 s1.2))]:OL)) (fun(p11:((List aPrefix))) e E' O'=>e = .exit 0∧Mat B E' O' ([(3,(.sref 3003 4 0 p11.length))]:EL) ([(3003,some (we_aPrefix_46_4 p11))]:OL)) hx17 (Mat.trans (Mat.beginP (n:=3003) (e:=46) (sz:=4) (Ts:=[(3,(.sref 3003 4 0 0))]) (Bs:=[]) hB (by decide) (by rfl) (by decide) (TwT.cons (x:=.nils) (by rfl) (Tw.leaf ⟨rfl,rfl⟩) TwT.nil) TwB.nil) (mp [] _ _ hB)) (fun s1 y h => ?_) (fun e E' O' hR => ?_)
 ·unfold xref21_Prefixes_L0 at h
  refine sr (SQ tt) ?_
  apply AWp.seq
  apply AWp.cond rfl<;>intro hg12
  ·have h:=ite_t hg12 h
   apply AWp.skip
   apply seqQ_n
   apply AWp.seq
   apply AWp.block
   obtain⟨x13,hx13,h⟩:=bindS h
   refine sr (SQ (fa hx13 tt)) ?_
   obtain⟨r14,hr14,h⟩:=bindS h
   obtain⟨hc15,h⟩:=chk_some h
   refine AWp.region (oc (mv hN (ot 3 (.sref 3003 4 0 s1.2.length)))
    (oc (ov (.ptr 1005 0 [0]) (fp hN underlying92 0 tyS44 (.box 92 (.d (e_aRange x13))) (ot 5 (pt 1005))))
    (oc (ov (.ptr 1005 0 [0,0]) (fp hN underlying44 0 tyS4 (.box 92 (.d (e_aRange x13))) (ot 14 (.ptr 1005 0 [0]))))
    (oc (lb hN 92 (.d (e_aRange x13)) (bo x13.fFrom.fV6) tyS4 (At.dst1 (f:=(e_aAddr x13.fFrom)) (by rfl) (by rfl) (ad (.bool x13.fFrom.fV6)) (by first | rfl | omega)) (ot 15 (.ptr 1005 0 [0,0])))
    (oc (OpJ.coe (v:=(.st [(bo x13.fFrom.fV6),(.d (.int .u64 0)),(.d (.int .u64 0))])) (y:=(.st [(.bool x13.fFrom.fV6),(.int .u64 0),(.int .u64 0)])) (Co.st (CoL.cons (Co.d _) (CoL.cons (Co.d _) (CoL.cons (Co.d _) CoL.nil)))) rfl (OpJ.build (places:=[(0,1),(1,1),(2,1)]) ⟨underlying44,fun w=>by kernel_rfl⟩ tyZS44 (Opds.cons (ot 16 (bo x13.fFrom.fV6)) Opds.nil) (by kernel_rfl) (r:=(.st [(bo x13.fFrom.fV6),(.d (.int .u64 0)),(.d (.int .u64 0))])) (by rfl) (L rfl)))
    (oc (OpJ.coe (v:=(.st [(.d (.st [(.bool x13.fFrom.fV6),(.int .u64 0),(.int .u64 0)])),(i6 0)])) (y:=(.st [(.st [(.bool x13.fFrom.fV6),(.int .u64 0),(.int .u64 0)]),(.int .i64 0)])) (Co.st (CoL.cons (Co.d _) (CoL.cons (Co.d _) CoL.nil))) rfl (OpJ.build (places:=[(0,3),(3,1)]) ⟨underlying46,fun w=>by kernel_rfl⟩ tyZS46 (Opds.cons (ot 17 (.d (.st [(.bool x13.fFrom.fV6),(.int .u64 0),(.int .u64 0)]))) Opds.nil) (by kernel_rfl) (r:=(.st [(.d (.st [(.bool x13.fFrom.fV6),(.int .u64 0),(.int .u64 0)])),(i6 0)])) (by rfl) (L rfl)))
    (oc (lb hN 92 (.d (e_aRange x13)) (.d (e_aRange x13)) tyS92 (At.here _) (ot 5 (pt 1005)))
    (oc (OpJ.frz (OpJ.callFn hB fnOk84 (xref21_divide_ac 1000 (aPrefix.mk (aAddr.mk x13.fFrom.fV6 0 0) 0) x13 r14 hr14) [(900000,100000)] (by kernel_rfl) (L rfl) (by kernel_rfl) (OpdL.cons (ot 18 (.d (.st [(.st [(.bool x13.fFrom.fV6),(.int .u64 0),(.int .u64 0)]),(.int .i64 0)]))) (OpdL.cons (ot 19 (.d (e_aRange x13))) OpdL.nil))) (by simp))
    (oc (apd hB underlying50 tyE46 1021 e_aPrefix s1.2 r14 hc15 (L rfl) (ot 13 (.sref 3003 4 0 s1.2.length)) (ot 20 (qe_aPrefix_4 r14)))
    (oc (assign (L rfl) (ot 21 (.sref 1021 4 0 ((s1.2++r14).length))))
    (OpJs.nil))))))))))) (by rfl) (by rfl) ?_
   apply blkQ_n
   apply seqQ_n
   refine AWp.ghost (mp [] [(3,(.sref 1021 4 0 ((s1.2++r14).length))),(7,(qe_aRange_6 a0.fAddrs)),(8,(i6 (a0.fAddrs.length:Int))),(9,(i6 s1.1))] [(1021,some (we_aPrefix_46_4 (s1.2++r14)))] hB) ?_
   refine rg (SQ tt) ?_
   obtain rfl:=oi h
   exact⟨rfl,(mp [(3003,1021)] _ _ hB)⟩
  ·have h:=ite_f hg12 h
   apply AWp.exit
   apply seqQ_e
   obtain rfl:=oi h
   exact⟨(fun hc=>by cases hc),rfl,(mp [] _ _ hB)⟩
 ·obtain⟨rfl,hmat⟩:=hR
  apply blkQ_hit
  apply seqQ_n
  refine AWp.ghost hmat ?_
  refine sr (SQ tt) ?_
  apply AWp.ret
  obtain rfl:=oi h
  exact rt (Mat.trans (Mat.freezeP (n:=3003) (e:=46) (sz:=4) (es:=p11.map e_aPrefix) (Ts:=[(2,(qe_aPrefix_4 p11))]) (Bs:=[]) (by rfl) (TwT.cons (x:=(.sref 3003 4 0 p11.length)) (by rfl) (FrzL.all (by first | rfl | (simp;done) | (simp;omega) | omega)) TwT.nil) TwB.nil) (mp [] [(2,(qe_aPrefix_4 p11))] [] hB)) [(qe_aPrefix_4 p11)] (Res.tmp (by rfl) (by rfl) Res.nil) rfl
def xlaw22_anchors (a0:Int):Option ((List Int)) :=
 (xmake_Mod a0 4).bind fun r1 =>
 (idx ([([1]:List Int),([1,2,3]:List Int),([]:List Int),([1,2,3,4,5,6,7]:List Int)]:List (List Int)) r1).bind fun x2 =>
 some x2
theorem xlaw22_anchors_ac (a0:Int) (r:(List Int)) (h:xlaw22_anchors a0=some r):AC Tryz.prog 12 [(.d (.int .i64 a0))] [] (.d (.list 1 (r.map (eI .i64)))) []:=by
 refine AC.of_code2 Tryz.func12 rfl rfl (Nat.le_of_ble_eq_true (by rfl)) fun B hB hN => ?_
 delta xlaw22_anchors at h
 refine sr (SQ tt) ?_
 obtain⟨r1,hr1,h⟩:=bindS h
 obtain⟨x2,hx2,h⟩:=bindS h
 refine sr (SQ (fa (cl [] (xmake_Mod_ac a0 4 r1 hr1)) (fa hx2 tt))) ?_
 apply AWp.ret
 obtain rfl:=oi h
 exact rt (kp [(2,_)] [] hB rfl rfl (by rfl)) [(qI_1 x2)] (Res.tmp (by rfl) (by rfl) Res.nil) rfl
def xref22_anchored_L0 (a0:(List Int)) (a1:Int) (s1:Int):Option (((Unit)⊕(Unit))⊕(Int)) :=
 (if (decide (s1<(a0.length:Int)))=true then
 (idx a0 s1).bind fun x11 =>
 (if (x11==a1)=true then
 some (.inl (.inl ()))
 else
 some (.inr (w64 (s1+1))))
 else
 some (.inl (.inr ())))
def xref22_anchored (a0:(List Int)) (a1:Int):Option (Bool) :=
 (loop (xref22_anchored_L0 a0 a1) 0).bind fun x13=>match x13 with
 | (.inl _) =>
  some true
 | (.inr _) =>
  some false
theorem xref22_anchored_ac (a0:(List Int)) (a1:Int) (r:Bool) (h:xref22_anchored a0 a1=some r):AC Tryz.prog 37 [(.d (.list 1 (a0.map (eI .i64)))),(.d (.int .i64 a1))] [] (.d (.bool r)) []:=by
 refine AC.of_code2 Tryz.func37 rfl rfl (Nat.le_of_ble_eq_true (by rfl)) fun B hB hN => ?_
 delta xref22_anchored at h
 refine sr (SQ tt) ?_
 apply AWp.seq
 refine sr (SQ tt) ?_
 apply AWp.block
 obtain⟨x13,hx14,h⟩:=bindS h
 refine lg (xref22_anchored_L0 a0 a1) (fun s1:Int=>([(1,(i6 a1)),(7,(qI_1 a0)),(8,(i6 (a0.length:Int))),(9,(i6 s1))]:EL)) (fun s1:Int=>([]:OL)) (fun(x:(Unit)⊕(Unit)) e E' O'=>match x with | (.inl _p)=>e = .ret∧Mat B E' O' ([(4,(bo true))]:EL) ([]:OL) | (.inr _p)=>e = .exit 0∧Mat B E' O' ([]:EL) ([]:OL)) hx14 (mp [] _ _ hB) (fun s1 y h => ?_) (fun e E' O' hR => ?_)
 ·unfold xref22_anchored_L0 at h
  refine sr (SQ tt) ?_
  apply AWp.seq
  apply AWp.cond rfl<;>intro hg10
  ·have h:=ite_t hg10 h
   apply AWp.skip
   apply seqQ_n
   apply AWp.seq
   apply AWp.block
   obtain⟨_,hx11,h⟩:=bindS h
   refine sr (SQ (fa hx11 tt)) ?_
   refine sr (SQ tt) ?_
   apply AWp.cond rfl<;>intro hg12
   ·have h:=ite_t hg12 h
    refine sr (SQ tt) ?_
    apply AWp.ret
    apply blkQ_r
    apply seqQ_r
    obtain rfl:=oi h
    exact⟨(fun hc=>by cases hc),rfl,(mp [] _ _ hB)⟩
   ·have h:=ite_f hg12 h
    apply AWp.skip
    apply blkQ_n
    apply seqQ_n
    refine rg (SQ tt) ?_
    obtain rfl:=oi h
    exact⟨rfl,(mp [] _ _ hB)⟩
  ·have h:=ite_f hg10 h
   apply AWp.exit
   apply seqQ_e
   obtain rfl:=oi h
   exact⟨(fun hc=>by cases hc),rfl,(mp [] _ _ hB)⟩
 ·rcases x13 with _ | _
  ·obtain⟨rfl,hmat⟩:=hR
   apply blkQ_r
   apply seqQ_r
   obtain rfl:=oi h
   exact rt (Mat.trans hmat (mp [] [(4,(bo true))] [] hB)) [(bo true)] (Res.tmp (by rfl) (by rfl) Res.nil) rfl
  ·obtain⟨rfl,hmat⟩:=hR
   apply blkQ_hit
   apply seqQ_n
   refine AWp.ghost hmat ?_
   refine sr (SQ tt) ?_
   apply AWp.ret
   obtain rfl:=oi h
   exact rt (kp [(4,_)] [] hB rfl rfl (by rfl)) [(bo false)] (Res.tmp (by rfl) (by rfl) Res.nil) rfl
def xref22_current (a0:Int) (a1:Int) (a2:Int):Option (Bool) :=
 some ((decide (a0≤a2))&&(decide (a2≤a1)))
theorem xref22_current_ac (a0:Int) (a1:Int) (a2:Int) (r:Bool) (h:xref22_current a0 a1 a2=some r):AC Tryz.prog 38 [(.d (.int .i64 a0)),(.d (.int .i64 a1)),(.d (.int .i64 a2))] [] (.d (.bool r)) []:=by
 refine AC.of_code2 Tryz.func38 rfl rfl (Nat.le_of_ble_eq_true (by rfl)) fun B hB hN => ?_
 delta xref22_current at h
 refine sr (SQ tt) ?_
 refine sr (SQ tt) ?_
 apply AWp.ret
 obtain rfl:=oi h
 exact rt (kp [(6,_)] [] hB rfl rfl (by rfl)) [(bo ((decide (a0≤a2))&&(decide (a2≤a1))))] (Res.tmp (by rfl) (by rfl) Res.nil) rfl
def xref21_before (a0:aAddr):Option (aAddr) :=
 jn (fun m2:aAddr =>
 some (aAddr.mk m2.fV6 m2.fHi (IntKind.u64.wrap (m2.fLo-1)))) (fun j3 =>
 (if (a0.fLo==0)=true then
 j3 (aAddr.mk a0.fV6 (IntKind.u64.wrap (a0.fHi-1)) a0.fLo)
 else
 j3 a0))
theorem xref21_before_ac (a0:aAddr) (r:aAddr) (h:xref21_before a0=some r):AC Tryz.prog 105 [(.d (e_aAddr a0))] [] (.d (e_aAddr r)) []:=by
 refine AC.of_code2 Tryz.func105 rfl rfl (Nat.le_of_ble_eq_true (by rfl)) fun B hB hN => ?_
 delta xref21_before at h
 refine sr (SQ tt) ?_
 apply AWp.seq
 refine sr (SQ tt) ?_
 refine gh [(1,_),(2,_),(5,_)] [(1001,some _),(1002,some _)] hB rfl rfl (by rfl) ?_
 refine AWp.cut h (fun m2:aAddr=>([(1,(pt 1001)),(2,(pt 1002))]:EL)) (fun m2:aAddr=>([(1001,bd 44 (e_aAddr m2)),(1002,bd 44 (.st [(.bool false),(.int .u64 0),(.int .u64 0)]))]:OL)) (fun m2 h E' O' hmat => ?_) (fun j3 hjj3 h => ?_)
 ·apply seqQ_n
  refine AWp.ghost hmat ?_
  refine sr (SQ tt) ?_
  refine sr (SQ tt) ?_
  apply AWp.ret
  obtain rfl:=oi h
  exact rt (kp [(2,_)] [(1002,some _)] hB rfl rfl (by rfl)) [(.d (.st [(.bool m2.fV6),(.int .u64 m2.fHi),(.int .u64 (IntKind.u64.wrap (m2.fLo-1)))]))] (Res.cell (c:=(.d (.st [(.bool m2.fV6),(.int .u64 m2.fHi),(.int .u64 (IntKind.u64.wrap (m2.fLo-1)))]))) (by rfl) (by rfl) tyS44 (by rfl) (by rfl) (by rfl) Res.nil) rfl
 ·apply AWp.cond rfl<;>intro hg4
  ·have h:=ite_t hg4 h
   refine rg (SQ tt) ?_
   exact hjj3 _ h _ _ (mp [] _ _ hB)
  ·have h:=ite_f hg4 h
   apply AWp.skip
   exact hjj3 _ h _ _ (mp [] _ _ hB)
def xref21_outside_L1 (a0:(List aRange)) (x196:Bool) (s197:Bool×Int×aAddr×(List aRange)):Option (((Bool×aAddr×(List aRange)))⊕(Bool×Int×aAddr×(List aRange))) :=
 (if (decide (s197.2.1<(a0.length:Int)))=true then
 jn (fun m266:Bool×aAddr×(List aRange) =>
 some (.inr (m266.1,(w64 (s197.2.1+1)),m266.2.1,m266.2.2))) (fun j267 =>
 (idx a0 s197.2.1).bind fun x268 =>
 (if (x268.fFrom.fV6 != x196)=true then
 j267 (s197.1,s197.2.2.1,s197.2.2.2)
 else
 (xref01_Cmp s197.2.2.1 x268.fFrom).bind fun r270 =>
 jn (fun m274:(List aRange) =>
 (xref01_Next x268.fTo).bind fun r276 =>
 j267 (r276.2,r276.1,m274)) (fun j275 =>
 (if (decide (r270<0))=true then
 (xref21_before x268.fFrom).bind fun r278 =>
 chk (decide ((s197.2.2.2++[(aRange.mk s197.2.2.1 r278)]).length≤LIM)) <|
 j275 (s197.2.2.2++[(aRange.mk s197.2.2.1 r278)])
 else
 j275 s197.2.2.2))))
 else
 some (.inl (s197.1,s197.2.2.1,s197.2.2.2)))
def xref21_outside_L0 (a0:(List aRange)) (s1:Int×(List aRange)):Option ((((List aRange)))⊕(Int×(List aRange))) :=
 (if (decide (s1.1<(([false,true]:List Bool).length:Int)))=true then
 (idx ([false,true]:List Bool) s1.1).bind fun x196 =>
 (loop (xref21_outside_L1 a0 x196) (true,0,(aAddr.mk x196 0 0),s1.2)).bind fun p252 =>
 jn (fun m285:(List aRange) =>
 some (.inr ((w64 (s1.1+1)),m285))) (fun j286 =>
 (if p252.1=true then
 (xref02_Last (aPrefix.mk (aAddr.mk x196 0 0) 0)).bind fun r288 =>
 chk (decide ((p252.2.2++[(aRange.mk p252.2.1 r288)]).length≤LIM)) <|
 j286 (p252.2.2++[(aRange.mk p252.2.1 r288)])
 else
 j286 p252.2.2))
 else
 some (.inl s1.2))
def xref21_outside (a0:(List aRange)):Option ((List aRange)) :=
 (loop (xref21_outside_L0 a0) (0,([]:List aRange))).bind fun p194 =>
 some p194
theorem xref21_outside_ac (a0:(List aRange)) (r:(List aRange)) (h:xref21_outside a0=some r):AC Tryz.prog 87 [(.d (.list 6 (a0.map e_aRange)))] [] (.d (.list 6 (r.map e_aRange))) []:=by
 refine ac2 Tryz.func87 rfl rfl fun B hB hN L => ?_
 delta xref21_outside at h
 refine sr (SQ tt) ?_
 refine sr (SQ tt) ?_
 apply AWp.seq
 refine sr (SQ tt) ?_
 apply AWp.block
 obtain⟨p194,hx291,h⟩:=bindS h
 refine lg (xref21_outside_L0 a0) (fun s1:Int×(List aRange)=>([(0,(qe_aRange_6 a0)),(3,(.sref 3003 6 0 s1.2.length)),(10,(.d (.list 1 (([false,true]:List Bool).map eB)))),(11,(i6 (([false,true]:List Bool).length:Int))),(12,(i6 s1.1))]:EL)) (fun s1:Int×(List aRange)=>([(3003,some (we_aRange_92_6 s1.2))]:OL)) (fun(p194:((List aRange))) e E' O'=>e = .exit 0∧Mat B E' O' ([(3,(.sref 3003 6 0 p194.length))]:EL) ([(3003,some (we_aRange_92_6 p194))]:OL)) hx291 (Mat.trans (Mat.beginP (n:=3003) (e:=92) (sz:=6) (Ts:=[(3,(.sref 3003 6 0 0))]) (Bs:=[]) hB (by decide) (by rfl) (by decide) (TwT.cons (x:=.nils) (by rfl) (Tw.leaf ⟨rfl,rfl⟩) TwT.nil) TwB.nil) (mp [] _ _ hB)) (fun s1 y h => ?_) (fun e E' O' hR => ?_)
 ·unfold xref21_outside_L0 at h
  refine sr (SQ tt) ?_
  apply AWp.seq
  apply AWp.cond rfl<;>intro hg195
  ·have h:=ite_t hg195 h
   apply AWp.skip
   apply seqQ_n
   apply AWp.seq
   apply AWp.block
   obtain⟨x196,hx196,h⟩:=bindS h
   refine sr (SQ (fa hx196 tt)) ?_
   refine sr (SQ tt) ?_
   apply AWp.seq
   refine sr (SQ tt) ?_
   apply AWp.block
   obtain⟨p252,hx281,h⟩:=bindS h
   refine lg (xref21_outside_L1 a0 x196) (fun s197:Bool×Int×aAddr×(List aRange)=>([(0,(qe_aRange_6 a0)),(3,(.sref 3003 6 0 s197.2.2.2.length)),(5,(bo x196)),(6,(pt 1006)),(7,(bo s197.1)),(10,(.d (.list 1 (([false,true]:List Bool).map eB)))),(11,(i6 (([false,true]:List Bool).length:Int))),(12,(i6 s1.1)),(18,(qe_aRange_6 a0)),(19,(i6 (a0.length:Int))),(20,(i6 s197.2.1))]:EL)) (fun s197:Bool×Int×aAddr×(List aRange)=>([(1006,bd 44 (e_aAddr s197.2.2.1)),(3003,some (we_aRange_92_6 s197.2.2.2))]:OL)) (fun(p252:(Bool×aAddr×(List aRange))) e E' O'=>e = .exit 2∧Mat B E' O' ([(0,(qe_aRange_6 a0)),(3,(.sref 3003 6 0 p252.2.2.length)),(5,(bo x196)),(6,(pt 1006)),(7,(bo p252.1)),(10,(.d (.list 1 (([false,true]:List Bool).map eB)))),(11,(i6 (([false,true]:List Bool).length:Int))),(12,(i6 s1.1))]:EL) ([(1006,bd 44 (e_aAddr p252.2.1)),(3003,some (we_aRange_92_6 p252.2.2))]:OL)) hx281 (mp [] _ _ hB) (fun s197 y h => ?_) (fun e E' O' hR => ?_)
   ·unfold xref21_outside_L1 at h
    refine sr (SQ tt) ?_
    apply AWp.seq
    apply AWp.cond rfl<;>intro hg253
    ·have h:=ite_t hg253 h
     apply AWp.skip
     apply seqQ_n
     apply AWp.seq
     refine AWp.cut h (fun m266:Bool×aAddr×(List aRange)=>([(0,(qe_aRange_6 a0)),(3,(.sref 3003 6 0 m266.2.2.length)),(5,(bo x196)),(6,(pt 1006)),(7,(bo m266.1)),(10,(.d (.list 1 (([false,true]:List Bool).map eB)))),(11,(i6 (([false,true]:List Bool).length:Int))),(12,(i6 s1.1)),(18,(qe_aRange_6 a0)),(19,(i6 (a0.length:Int))),(20,(i6 s197.2.1))]:EL)) (fun m266:Bool×aAddr×(List aRange)=>([(1006,bd 44 (e_aAddr m266.2.1)),(3003,some (we_aRange_92_6 m266.2.2))]:OL)) (fun m266 h E' O' hmat => ?_) (fun j267 hjj267 h => ?_)
     ·apply seqQ_n
      refine AWp.ghost hmat ?_
      refine rg (SQ tt) ?_
      obtain rfl:=oi h
      exact⟨rfl,(mp [] _ _ hB)⟩
     ·apply AWp.block
      obtain⟨x268,hx268,h⟩:=bindS h
      refine sr (SQ (fa hx268 tt)) ?_
      apply AWp.seq
      refine sr (SQ tt) ?_
      apply AWp.cond rfl<;>intro hg269
      ·have h:=ite_t hg269 h
       apply AWp.exit
       apply seqQ_e
       apply blkQ_hit
       exact hjj267 _ h _ _ (mp [] _ _ hB)
      ·have h:=ite_f hg269 h
       apply AWp.skip
       apply seqQ_n
       apply AWp.seq
       obtain⟨r270,hr270,h⟩:=bindS h
       refine sr (SQ (fa (cl [] (xref01_Cmp_ac s197.2.2.1 x268.fFrom r270 hr270)) tt)) ?_
       refine gh [(0,_),(3,_),(5,_),(6,_),(9,_),(10,_),(11,_),(12,_),(18,_),(19,_),(20,_),(33,_)] [(1006,some _),(1009,some _),(3003,some _)] hB rfl rfl (by rfl) ?_
       refine AWp.cut h (fun m274:(List aRange)=>([(0,(qe_aRange_6 a0)),(3,(.sref 3003 6 0 m274.length)),(5,(bo x196)),(6,(pt 1006)),(9,(pt 1009)),(10,(.d (.list 1 (([false,true]:List Bool).map eB)))),(11,(i6 (([false,true]:List Bool).length:Int))),(12,(i6 s1.1)),(18,(qe_aRange_6 a0)),(19,(i6 (a0.length:Int))),(20,(i6 s197.2.1))]:EL)) (fun m274:(List aRange)=>([(1006,bd 44 (e_aAddr s197.2.2.1)),(1009,bd 92 (e_aRange x268)),(3003,some (we_aRange_92_6 m274))]:OL)) (fun m274 h E' O' hmat => ?_) (fun j275 hjj275 h => ?_)
       ·apply seqQ_n
        refine AWp.ghost hmat ?_
        obtain⟨r276,hr276,h⟩:=bindS h
        refine rg (SQ (fa (cl [] (xref01_Next_ac x268.fTo r276 hr276)) tt)) ?_
        apply blkQ_n
        exact hjj267 _ h _ _ (mp [] _ _ hB)
       ·apply AWp.cond rfl<;>intro hg277
        ·have h:=ite_t hg277 h
         obtain⟨r278,hr278,h⟩:=bindS h
         obtain⟨hc279,h⟩:=chk_some h
         refine drS (SQ (fa (cl [] (xref21_before_ac x268.fFrom r278 hr278)) (fa hc279 tt))) ?_
         exact hjj275 _ h _ _ (mp [(3003,1041)] _ _ hB)
        ·have h:=ite_f hg277 h
         apply AWp.skip
         exact hjj275 _ h _ _ (mp [] _ _ hB)
    ·have h:=ite_f hg253 h
     apply AWp.exit
     apply seqQ_e
     obtain rfl:=oi h
     exact⟨(fun hc=>by cases hc),rfl,(mp [] _ _ hB)⟩
   ·obtain⟨rfl,hmat⟩:=hR
    apply blkQ_hit
    apply seqQ_n
    refine AWp.ghost hmat ?_
    refine sr (SQ tt) ?_
    refine gh [(0,_),(3,_),(5,_),(6,_),(10,_),(11,_),(12,_),(49,_)] [(1006,some _),(3003,some _)] hB rfl rfl (by rfl) ?_
    refine AWp.cut h (fun m285:(List aRange)=>([(0,(qe_aRange_6 a0)),(3,(.sref 3003 6 0 m285.length)),(10,(.d (.list 1 (([false,true]:List Bool).map eB)))),(11,(i6 (([false,true]:List Bool).length:Int))),(12,(i6 s1.1))]:EL)) (fun m285:(List aRange)=>([(3003,some (we_aRange_92_6 m285))]:OL)) (fun m285 h E' O' hmat => ?_) (fun j286 hjj286 h => ?_)
    ·apply blkQ_n
     apply seqQ_n
     refine AWp.ghost hmat ?_
     refine rg (SQ tt) ?_
     obtain rfl:=oi h
     exact⟨rfl,(mp [] _ _ hB)⟩
    ·apply AWp.cond rfl<;>intro hg287
     ·have h:=ite_t hg287 h
      obtain⟨r288,hr288,h⟩:=bindS h
      obtain⟨hc289,h⟩:=chk_some h
      refine drS (SQ (fa (cl [] (xref02_Last_ac (aPrefix.mk (aAddr.mk x196 0 0) 0) r288 hr288)) (fa hc289 tt))) ?_
      exact hjj286 _ h _ _ (mp [(3003,1058)] _ _ hB)
     ·have h:=ite_f hg287 h
      apply AWp.skip
      exact hjj286 _ h _ _ (mp [] _ _ hB)
  ·have h:=ite_f hg195 h
   apply AWp.exit
   apply seqQ_e
   obtain rfl:=oi h
   exact⟨(fun hc=>by cases hc),rfl,(mp [] _ _ hB)⟩
 ·obtain⟨rfl,hmat⟩:=hR
  apply blkQ_hit
  apply seqQ_n
  refine AWp.ghost hmat ?_
  refine sr (SQ tt) ?_
  apply AWp.ret
  obtain rfl:=oi h
  exact rt (Mat.trans (Mat.freezeP (n:=3003) (e:=92) (sz:=6) (es:=p194.map e_aRange) (Ts:=[(2,(qe_aRange_6 p194))]) (Bs:=[]) (by rfl) (TwT.cons (x:=(.sref 3003 6 0 p194.length)) (by rfl) (FrzL.all (by first | rfl | (simp;done) | (simp;omega) | omega)) TwT.nil) TwB.nil) (mp [] [(2,(qe_aRange_6 p194))] [] hB)) [(qe_aRange_6 p194)] (Res.tmp (by rfl) (by rfl) Res.nil) rfl
def xref21_Minus_L0 (a1:aResources) (s9:Int×Int×(List aSpan)):Option (((Int×(List aSpan)))⊕(Int×Int×(List aSpan))) :=
 (if (decide (s9.2.1<(a1.fASNs.length:Int)))=true then
 (idx a1.fASNs s9.2.1).bind fun x28 =>
 jn (fun m31:(List aSpan) =>
 some (.inr ((w64 (x28.fTo+1)),(w64 (s9.2.1+1)),m31))) (fun j32 =>
 (if (decide (s9.1<x28.fFrom))=true then
 chk (decide ((s9.2.2++[(aSpan.mk s9.1 (w64 (x28.fFrom-1)))]).length≤LIM)) <|
 j32 (s9.2.2++[(aSpan.mk s9.1 (w64 (x28.fFrom-1)))])
 else
 j32 s9.2.2))
 else
 some (.inl (s9.1,s9.2.2)))
def xref21_Minus_L2 (r8:(List aRange)) (x154:aRange) (s155:Int×(List aRange)):Option ((((List aRange)))⊕(Int×(List aRange))) :=
 (if (decide (s155.1<(r8.length:Int)))=true then
 (idx r8 s155.1).bind fun x190 =>
 (xref21_greater x154.fFrom x190.fFrom).bind fun r191 =>
 (xref21_lesser x154.fTo x190.fTo).bind fun r192 =>
 jn (fun m195:Bool =>
 jn (fun m199:(List aRange) =>
 some (.inr ((w64 (s155.1+1)),m199))) (fun j200 =>
 (if m195=true then
 chk (decide ((s155.2++[(aRange.mk r191 r192)]).length≤LIM)) <|
 j200 (s155.2++[(aRange.mk r191 r192)])
 else
 j200 s155.2))) (fun j196 =>
 (if (x154.fFrom.fV6==x190.fFrom.fV6)=true then
 (xref01_Cmp r191 r192).bind fun r204 =>
 j196 (decide (r204≤0))
 else
 j196 false))
 else
 some (.inl s155.2))
def xref21_Minus_L1 (a0:aResources) (r8:(List aRange)) (s41:Int×(List aRange)):Option ((((List aRange)))⊕(Int×(List aRange))) :=
 (if (decide (s41.1<(a0.fAddrs.length:Int)))=true then
 (idx a0.fAddrs s41.1).bind fun x154 =>
 (loop (xref21_Minus_L2 r8 x154) (0,s41.2)).bind fun p188 =>
 some (.inr ((w64 (s41.1+1)),p188))
 else
 some (.inl s41.2))
def xref21_Minus_L4 (m39:(List aSpan)) (x280:aSpan) (s281:Int×(List aSpan)):Option ((((List aSpan)))⊕(Int×(List aSpan))) :=
 (if (decide (s281.1<(m39.length:Int)))=true then
 (idx m39 s281.1).bind fun x302 =>
 (idx m39 s281.1).bind fun x303 =>
 jn (fun m306:(List aSpan) =>
 some (.inr ((w64 (s281.1+1)),m306))) (fun j307 =>
 (if (decide ((maxI x280.fFrom x303.fFrom)≤(minI x280.fTo x303.fTo)))=true then
 chk (decide ((s281.2++[(aSpan.mk (maxI x280.fFrom x303.fFrom) (minI x280.fTo x303.fTo))]).length≤LIM)) <|
 j307 (s281.2++[(aSpan.mk (maxI x280.fFrom x303.fFrom) (minI x280.fTo x303.fTo))])
 else
 j307 s281.2))
 else
 some (.inl s281.2))
def xref21_Minus_L3 (a0:aResources) (m39:(List aSpan)) (s209:Int×(List aSpan)):Option ((((List aSpan)))⊕(Int×(List aSpan))) :=
 (if (decide (s209.1<(a0.fASNs.length:Int)))=true then
 (idx a0.fASNs s209.1).bind fun x280 =>
 (loop (xref21_Minus_L4 m39 x280) (0,s209.2)).bind fun p300 =>
 some (.inr ((w64 (s209.1+1)),p300))
 else
 some (.inl s209.2))
def xref21_Minus (a0:aResources) (a1:aResources):Option (aResources×Int) :=
 jn (fun m5:Bool =>
 (if m5=true then
 some ((aResources.mk ([]:List aRange) ([]:List aSpan)),1)
 else
 (xref21_outside a1.fAddrs).bind fun r8 =>
 (loop (xref21_Minus_L0 a1) (0,0,([]:List aSpan))).bind fun p26 =>
 jn (fun m39:(List aSpan) =>
 (loop (xref21_Minus_L1 a0 r8) (0,([]:List aRange))).bind fun p152 =>
 (loop (xref21_Minus_L3 a0 m39) (0,([]:List aSpan))).bind fun p278 =>
 (xref21_limited p152 p278).bind fun r314 =>
 some (r314.1,r314.2)) (fun j40 =>
 (if (decide (p26.1≤4294967295))=true then
 chk (decide ((p26.2++[(aSpan.mk p26.1 4294967295)]).length≤LIM)) <|
 j40 (p26.2++[(aSpan.mk p26.1 4294967295)])
 else
 j40 p26.2)))) (fun j6 =>
 (xref21_Valid a0).bind fun r317 =>
 (if (!r317)=true then
 j6 true
 else
 (xref21_Valid a1).bind fun r319 =>
 j6 (!r319)))
theorem xref21_Minus_ac (a0:aResources) (a1:aResources) (r:aResources×Int) (h:xref21_Minus a0 a1=some r):AC Tryz.prog 70 [(.d (e_aResources a0)),(.d (e_aResources a1))] [] (.tup [(.d (e_aResources r.1)),(.d (.int .i64 r.2))]) []:=by
 refine ac2 Tryz.func70 rfl rfl fun B hB hN L => ?_
 delta xref21_Minus at h
 refine sr (SQ tt) ?_
 apply AWp.seq
 apply AWp.seq
 refine AWp.cut h (fun m5:Bool=>([(2,(pt 1002)),(3,(pt 1003)),(4,(pt 1004)),(31,(bo m5))]:EL)) (fun m5:Bool=>([(1002,bd 57 (e_aResources a0)),(1003,bd 57 (e_aResources a1)),(1004,some (.box 57 (.st [.nils,.nils])))]:OL)) (fun m5 h E' O' hmat => ?_) (fun j6 hjj6 h => ?_)
 ·apply seqQ_n
  refine AWp.ghost hmat ?_
  apply AWp.cond rfl<;>intro hg7
  ·have h:=ite_t hg7 h
   refine sr (SQ tt) ?_
   apply AWp.ret
   apply seqQ_r
   obtain rfl:=oi h
   exact rt (Mat.trans (Mat.coeP (Ts:=[]) (Bs:=[(1004,bd 57 (.st [(.list 6 (([]:List aRange).map e_aRange)),(.list 2 (([]:List aSpan).map e_aSpan))]))]) TwT.nil (TwB.cons (x:=(.st [.nils,.nils])) (by rfl) (Tw.leaf ⟨_,(Co.st (CoL.cons (Co.nils 6) (CoL.cons (Co.nils 2) CoL.nil))),rfl⟩) TwB.nil)) (mp [] [(4,(pt 1004)),(5,(i6 1))] [(1004,bd 57 (.st [(.list 6 (([]:List aRange).map e_aRange)),(.list 2 (([]:List aSpan).map e_aSpan))]))] hB)) [(.d (.st [(.list 6 (([]:List aRange).map e_aRange)),(.list 2 (([]:List aSpan).map e_aSpan))])),(i6 1)] (Res.cell (c:=(.d (.st [(.list 6 (([]:List aRange).map e_aRange)),(.list 2 (([]:List aSpan).map e_aSpan))]))) (by rfl) (by rfl) tyS57 (by rfl) (by rfl) (by rfl) (Res.tmp (by rfl) (by rfl) Res.nil)) rfl
  ·have h:=ite_f hg7 h
   apply AWp.skip
   apply seqQ_n
   obtain⟨r8,hr8,h⟩:=bindS h
   refine sr (SQ (fa (cl [] (xref21_outside_ac a1.fAddrs r8 hr8)) tt)) ?_
   refine sr (SQ tt) ?_
   apply AWp.seq
   refine sr (SQ tt) ?_
   apply AWp.block
   obtain⟨p26,hx36,h⟩:=bindS h
   refine lg (xref21_Minus_L0 a1) (fun s9:Int×Int×(List aSpan)=>([(2,(pt 1002)),(4,(pt 1004)),(6,(pt 1006)),(7,(i6 s9.1)),(38,(qe_aSpan_2 a1.fASNs)),(39,(i6 (a1.fASNs.length:Int))),(40,(i6 s9.2.1))]:EL)) (fun s9:Int×Int×(List aSpan)=>([(1002,bd 57 (e_aResources a0)),(1004,some (.box 57 (.st [.nils,.nils]))),(1006,some (.box 57 (.st [(qe_aRange_6 r8),(.sref 13061 2 0 s9.2.2.length)]))),(13061,some (we_aSpan_101_2 s9.2.2))]:OL)) (fun(p26:(Int×(List aSpan))) e E' O'=>e = .exit 0∧Mat B E' O' ([(2,(pt 1002)),(4,(pt 1004)),(6,(pt 1006)),(7,(i6 p26.1))]:EL) ([(1002,bd 57 (e_aResources a0)),(1004,some (.box 57 (.st [.nils,.nils]))),(1006,some (.box 57 (.st [(qe_aRange_6 r8),(.sref 13061 2 0 p26.2.length)]))),(13061,some (we_aSpan_101_2 p26.2))]:OL)) hx36 (Mat.trans (Mat.beginP (n:=13061) (e:=101) (sz:=2) (Ts:=[]) (Bs:=[(1006,some (.box 57 (.st [(qe_aRange_6 r8),(.sref 13061 2 0 0)])))]) hB (by decide) (by rfl) (by decide) TwT.nil (TwB.cons (x:=(.st [(qe_aRange_6 r8),.nils])) (by rfl) (Tw.st (TwL.cons (Tw.same _) (TwL.cons (Tw.leaf ⟨rfl,rfl⟩) TwL.nil))) TwB.nil)) (mp [] _ _ hB)) (fun s9 y h => ?_) (fun e E' O' hR => ?_)
   ·unfold xref21_Minus_L0 at h
    refine sr (SQ tt) ?_
    apply AWp.seq
    apply AWp.cond rfl<;>intro hg27
    ·have h:=ite_t hg27 h
     apply AWp.skip
     apply seqQ_n
     apply AWp.seq
     apply AWp.block
     obtain⟨x28,hx28,h⟩:=bindS h
     refine sr (SQ (fa hx28 tt)) ?_
     apply AWp.seq
     refine sr (SQ tt) ?_
     refine gh [(2,_),(4,_),(6,_),(7,_),(9,_),(38,_),(39,_),(40,_),(47,_)] [(1002,some _),(1004,some _),(1006,some _),(1009,some _),(13061,some _)] hB rfl rfl (by rfl) ?_
     refine AWp.cut h (fun m31:(List aSpan)=>([(2,(pt 1002)),(4,(pt 1004)),(6,(pt 1006)),(9,(pt 1009)),(38,(qe_aSpan_2 a1.fASNs)),(39,(i6 (a1.fASNs.length:Int))),(40,(i6 s9.2.1))]:EL)) (fun m31:(List aSpan)=>([(1002,bd 57 (e_aResources a0)),(1004,some (.box 57 (.st [.nils,.nils]))),(1006,some (.box 57 (.st [(qe_aRange_6 r8),(.sref 13061 2 0 m31.length)]))),(1009,bd 101 (e_aSpan x28)),(13061,some (we_aSpan_101_2 m31))]:OL)) (fun m31 h E' O' hmat => ?_) (fun j32 hjj32 h => ?_)
     ·apply seqQ_n
      refine AWp.ghost hmat ?_
      refine rg (SQ tt) ?_
      apply blkQ_n
      apply seqQ_n
      refine rg (SQ tt) ?_
      obtain rfl:=oi h
      exact⟨rfl,(mp [] _ _ hB)⟩
     ·apply AWp.cond rfl<;>intro hg33
      ·have h:=ite_t hg33 h
       obtain⟨hc34,h⟩:=chk_some h
       refine rg (SQ (fa hc34 tt)) ?_
       exact hjj32 _ h _ _ (mp [(13061,1056)] _ _ hB)
      ·have h:=ite_f hg33 h
       apply AWp.skip
       exact hjj32 _ h _ _ (mp [] _ _ hB)
    ·have h:=ite_f hg27 h
     apply AWp.exit
     apply seqQ_e
     obtain rfl:=oi h
     exact⟨(fun hc=>by cases hc),rfl,(mp [] _ _ hB)⟩
   ·obtain⟨rfl,hmat⟩:=hR
    apply blkQ_hit
    apply seqQ_n
    refine AWp.ghost hmat ?_
    apply AWp.seq
    refine sr (SQ tt) ?_
    refine gh [(2,_),(4,_),(6,_),(7,_),(63,_)] [(1002,some _),(1004,some _),(1006,some _),(13061,some _)] hB rfl rfl (by rfl) ?_
    refine AWp.cut h (fun m39:(List aSpan)=>([(2,(pt 1002)),(4,(pt 1004)),(6,(pt 1006))]:EL)) (fun m39:(List aSpan)=>([(1002,bd 57 (e_aResources a0)),(1004,some (.box 57 (.st [.nils,.nils]))),(1006,some (.box 57 (.st [(qe_aRange_6 r8),(.sref 13061 2 0 m39.length)]))),(13061,some (we_aSpan_101_2 m39))]:OL)) (fun m39 h E' O' hmat => ?_) (fun j40 hjj40 h => ?_)
    ·apply seqQ_n
     refine AWp.ghost hmat ?_
     refine sr (SQ tt) ?_
     apply AWp.seq
     refine sr (SQ tt) ?_
     apply AWp.block
     obtain⟨p152,hx208,h⟩:=bindS h
     refine lg (xref21_Minus_L1 a0 r8) (fun s41:Int×(List aRange)=>([(2,(pt 1002)),(4,(pt 1004)),(6,(pt 1006)),(10,(.sref 3010 6 0 s41.2.length)),(72,(qe_aRange_6 a0.fAddrs)),(73,(i6 (a0.fAddrs.length:Int))),(74,(i6 s41.1))]:EL)) (fun s41:Int×(List aRange)=>([(1002,bd 57 (e_aResources a0)),(1004,some (.box 57 (.st [.nils,.nils]))),(1006,some (.box 57 (.st [(qe_aRange_6 r8),(.sref 13061 2 0 m39.length)]))),(3010,some (we_aRange_92_6 s41.2)),(13061,some (we_aSpan_101_2 m39))]:OL)) (fun(p152:((List aRange))) e E' O'=>e = .exit 2∧Mat B E' O' ([(2,(pt 1002)),(4,(pt 1004)),(6,(pt 1006)),(10,(.sref 3010 6 0 p152.length))]:EL) ([(1002,bd 57 (e_aResources a0)),(1004,some (.box 57 (.st [.nils,.nils]))),(1006,some (.box 57 (.st [(qe_aRange_6 r8),(.sref 13061 2 0 m39.length)]))),(3010,some (we_aRange_92_6 p152)),(13061,some (we_aSpan_101_2 m39))]:OL)) hx208 (Mat.trans (Mat.beginP (n:=3010) (e:=92) (sz:=6) (Ts:=[(10,(.sref 3010 6 0 0))]) (Bs:=[]) hB (by decide) (by rfl) (by decide) (TwT.cons (x:=.nils) (by rfl) (Tw.leaf ⟨rfl,rfl⟩) TwT.nil) TwB.nil) (mp [] _ _ hB)) (fun s41 y h => ?_) (fun e E' O' hR => ?_)
     ·unfold xref21_Minus_L1 at h
      refine sr (SQ tt) ?_
      apply AWp.seq
      apply AWp.cond rfl<;>intro hg153
      ·have h:=ite_t hg153 h
       apply AWp.skip
       apply seqQ_n
       apply AWp.seq
       apply AWp.block
       obtain⟨x154,hx154,h⟩:=bindS h
       refine sr (SQ (fa hx154 tt)) ?_
       refine sr (SQ tt) ?_
       apply AWp.block
       obtain⟨p188,hx206,h⟩:=bindS h
       refine lg (xref21_Minus_L2 r8 x154) (fun s155:Int×(List aRange)=>([(2,(pt 1002)),(4,(pt 1004)),(6,(pt 1006)),(10,(.sref 3010 6 0 s155.2.length)),(12,(pt 1012)),(72,(qe_aRange_6 a0.fAddrs)),(73,(i6 (a0.fAddrs.length:Int))),(74,(i6 s41.1)),(79,(qe_aRange_6 r8)),(80,(i6 (r8.length:Int))),(81,(i6 s155.1))]:EL)) (fun s155:Int×(List aRange)=>([(1002,bd 57 (e_aResources a0)),(1004,some (.box 57 (.st [.nils,.nils]))),(1006,some (.box 57 (.st [(qe_aRange_6 r8),(.sref 13061 2 0 m39.length)]))),(1012,bd 92 (e_aRange x154)),(3010,some (we_aRange_92_6 s155.2)),(13061,some (we_aSpan_101_2 m39))]:OL)) (fun(p188:((List aRange))) e E' O'=>e = .exit 4∧Mat B E' O' ([(2,(pt 1002)),(4,(pt 1004)),(6,(pt 1006)),(10,(.sref 3010 6 0 p188.length)),(72,(qe_aRange_6 a0.fAddrs)),(73,(i6 (a0.fAddrs.length:Int))),(74,(i6 s41.1))]:EL) ([(1002,bd 57 (e_aResources a0)),(1004,some (.box 57 (.st [.nils,.nils]))),(1006,some (.box 57 (.st [(qe_aRange_6 r8),(.sref 13061 2 0 m39.length)]))),(3010,some (we_aRange_92_6 p188)),(13061,some (we_aSpan_101_2 m39))]:OL)) hx206 (mp [] _ _ hB) (fun s155 y h => ?_) (fun e E' O' hR => ?_)
       ·unfold xref21_Minus_L2 at h
        refine sr (SQ tt) ?_
        apply AWp.seq
        apply AWp.cond rfl<;>intro hg189
        ·have h:=ite_t hg189 h
         apply AWp.skip
         apply seqQ_n
         apply AWp.seq
         apply AWp.block
         obtain⟨x190,hx190,h⟩:=bindS h
         refine sr (SQ (fa hx190 tt)) ?_
         obtain⟨r191,hr191,h⟩:=bindS h
         obtain⟨r192,hr192,h⟩:=bindS h
         refine sdS (SQ (fa (cl [] (xref21_greater_ac x154.fFrom x190.fFrom r191 hr191)) (fa (cl [] (xref21_lesser_ac x154.fTo x190.fTo r192 hr192)) tt))) ?_
         apply AWp.seq
         refine AWp.cut h (fun m195:Bool=>([(2,(pt 1002)),(4,(pt 1004)),(6,(pt 1006)),(10,(.sref 3010 6 0 s155.2.length)),(12,(pt 1012)),(15,(pt 1015)),(16,(pt 1016)),(72,(qe_aRange_6 a0.fAddrs)),(73,(i6 (a0.fAddrs.length:Int))),(74,(i6 s41.1)),(79,(qe_aRange_6 r8)),(80,(i6 (r8.length:Int))),(81,(i6 s155.1)),(107,(bo m195))]:EL)) (fun m195:Bool=>([(1002,bd 57 (e_aResources a0)),(1004,some (.box 57 (.st [.nils,.nils]))),(1006,some (.box 57 (.st [(qe_aRange_6 r8),(.sref 13061 2 0 m39.length)]))),(1012,bd 92 (e_aRange x154)),(1015,bd 44 (e_aAddr r191)),(1016,bd 44 (e_aAddr r192)),(3010,some (we_aRange_92_6 s155.2)),(13061,some (we_aSpan_101_2 m39))]:OL)) (fun m195 h E' O' hmat => ?_) (fun j196 hjj196 h => ?_)
         ·apply seqQ_n
          refine AWp.ghost hmat ?_
          refine AWp.cut h (fun m199:(List aRange)=>([(2,(pt 1002)),(4,(pt 1004)),(6,(pt 1006)),(10,(.sref 3010 6 0 m199.length)),(12,(pt 1012)),(72,(qe_aRange_6 a0.fAddrs)),(73,(i6 (a0.fAddrs.length:Int))),(74,(i6 s41.1)),(79,(qe_aRange_6 r8)),(80,(i6 (r8.length:Int))),(81,(i6 s155.1))]:EL)) (fun m199:(List aRange)=>([(1002,bd 57 (e_aResources a0)),(1004,some (.box 57 (.st [.nils,.nils]))),(1006,some (.box 57 (.st [(qe_aRange_6 r8),(.sref 13061 2 0 m39.length)]))),(1012,bd 92 (e_aRange x154)),(3010,some (we_aRange_92_6 m199)),(13061,some (we_aSpan_101_2 m39))]:OL)) (fun m199 h E' O' hmat => ?_) (fun j200 hjj200 h => ?_)
          ·apply blkQ_n
           apply seqQ_n
           refine AWp.ghost hmat ?_
           refine rg (SQ tt) ?_
           obtain rfl:=oi h
           exact⟨rfl,(mp [] _ _ hB)⟩
          ·apply AWp.cond rfl<;>intro hg201
           ·have h:=ite_t hg201 h
            obtain⟨hc202,h⟩:=chk_some h
            refine rg (SQ (fa hc202 tt)) ?_
            exact hjj200 _ h _ _ (mp [(3010,1113)] _ _ hB)
           ·have h:=ite_f hg201 h
            apply AWp.skip
            exact hjj200 _ h _ _ (mp [] _ _ hB)
         ·rcases bft (x154.fFrom.fV6==x190.fFrom.fV6) with hg203 | hg203
          ·have h:=ite_t hg203 h
           obtain⟨r204,hr204,h⟩:=bindS h
           refine rg (SQ (fa hg203 (fa (cl [] (xref01_Cmp_ac r191 r192 r204 hr204)) tt))) ?_
           exact hjj196 _ h _ _ (mp [] _ _ hB)
          ·have h:=ite_f hg203 h
           refine rg (SQ (fa hg203 tt)) ?_
           exact hjj196 _ h _ _ (mp [] _ _ hB)
        ·have h:=ite_f hg189 h
         apply AWp.exit
         apply seqQ_e
         obtain rfl:=oi h
         exact⟨(fun hc=>by cases hc),rfl,(mp [] _ _ hB)⟩
       ·obtain⟨rfl,hmat⟩:=hR
        apply blkQ_hit
        apply blkQ_n
        apply seqQ_n
        refine AWp.ghost hmat ?_
        refine rg (SQ tt) ?_
        obtain rfl:=oi h
        exact⟨rfl,(mp [] _ _ hB)⟩
      ·have h:=ite_f hg153 h
       apply AWp.exit
       apply seqQ_e
       obtain rfl:=oi h
       exact⟨(fun hc=>by cases hc),rfl,(mp [] _ _ hB)⟩
     ·obtain⟨rfl,hmat⟩:=hR
      apply blkQ_hit
      apply seqQ_n
      refine AWp.ghost hmat ?_
      refine sr (SQ tt) ?_
      apply AWp.seq
      refine sr (SQ tt) ?_
      apply AWp.block
      obtain⟨p278,hx313,h⟩:=bindS h
      refine lg (xref21_Minus_L3 a0 m39) (fun s209:Int×(List aSpan)=>([(4,(pt 1004)),(6,(pt 1006)),(10,(.sref 3010 6 0 p152.length)),(17,(.sref 3017 2 0 s209.2.length)),(117,(qe_aSpan_2 a0.fASNs)),(118,(i6 (a0.fASNs.length:Int))),(119,(i6 s209.1))]:EL)) (fun s209:Int×(List aSpan)=>([(1004,some (.box 57 (.st [.nils,.nils]))),(1006,some (.box 57 (.st [(qe_aRange_6 r8),(.sref 13061 2 0 m39.length)]))),(3010,some (we_aRange_92_6 p152)),(3017,some (we_aSpan_101_2 s209.2)),(13061,some (we_aSpan_101_2 m39))]:OL)) (fun(p278:((List aSpan))) e E' O'=>e = .exit 6∧Mat B E' O' ([(4,(pt 1004)),(10,(.sref 3010 6 0 p152.length)),(17,(.sref 3017 2 0 p278.length))]:EL) ([(1004,some (.box 57 (.st [.nils,.nils]))),(3010,some (we_aRange_92_6 p152)),(3017,some (we_aSpan_101_2 p278))]:OL)) hx313 (Mat.trans (Mat.beginP (n:=3017) (e:=101) (sz:=2) (Ts:=[(17,(.sref 3017 2 0 0))]) (Bs:=[]) hB (by decide) (by rfl) (by decide) (TwT.cons (x:=.nils) (by rfl) (Tw.leaf ⟨rfl,rfl⟩) TwT.nil) TwB.nil) (mp [] _ _ hB)) (fun s209 y h => ?_) (fun e E' O' hR => ?_)
      ·unfold xref21_Minus_L3 at h
       refine sr (SQ tt) ?_
       apply AWp.seq
       apply AWp.cond rfl<;>intro hg279
       ·have h:=ite_t hg279 h
        apply AWp.skip
        apply seqQ_n
        apply AWp.seq
        apply AWp.block
        obtain⟨x280,hx280,h⟩:=bindS h
        refine sr (SQ (fa hx280 tt)) ?_
        refine sr (SQ tt) ?_
        apply AWp.block
        obtain⟨p300,hx311,h⟩:=bindS h
        refine lg (xref21_Minus_L4 m39 x280) (fun s281:Int×(List aSpan)=>([(4,(pt 1004)),(6,(pt 1006)),(10,(.sref 3010 6 0 p152.length)),(17,(.sref 3017 2 0 s281.2.length)),(19,(pt 1019)),(117,(qe_aSpan_2 a0.fASNs)),(118,(i6 (a0.fASNs.length:Int))),(119,(i6 s209.1)),(124,(.sref 13061 2 0 m39.length)),(125,(i6 (m39.length:Int))),(126,(i6 s281.1))]:EL)) (fun s281:Int×(List aSpan)=>([(1004,some (.box 57 (.st [.nils,.nils]))),(1006,some (.box 57 (.st [(qe_aRange_6 r8),(.sref 13061 2 0 m39.length)]))),(1019,bd 101 (e_aSpan x280)),(3010,some (we_aRange_92_6 p152)),(3017,some (we_aSpan_101_2 s281.2)),(13061,some (we_aSpan_101_2 m39))]:OL)) (fun(p300:((List aSpan))) e E' O'=>e = .exit 8∧Mat B E' O' ([(4,(pt 1004)),(6,(pt 1006)),(10,(.sref 3010 6 0 p152.length)),(17,(.sref 3017 2 0 p300.length)),(117,(qe_aSpan_2 a0.fASNs)),(118,(i6 (a0.fASNs.length:Int))),(119,(i6 s209.1))]:EL) ([(1004,some (.box 57 (.st [.nils,.nils]))),(1006,some (.box 57 (.st [(qe_aRange_6 r8),(.sref 13061 2 0 m39.length)]))),(3010,some (we_aRange_92_6 p152)),(3017,some (we_aSpan_101_2 p300)),(13061,some (we_aSpan_101_2 m39))]:OL)) hx311 (mp [] _ _ hB) (fun s281 y h => ?_) (fun e E' O' hR => ?_)
        ·unfold xref21_Minus_L4 at h
         refine sr (SQ tt) ?_
         apply AWp.seq
         apply AWp.cond rfl<;>intro hg301
         ·have h:=ite_t hg301 h
          apply AWp.skip
          apply seqQ_n
          apply AWp.seq
          apply AWp.block
          obtain⟨_,hx302,h⟩:=bindS h
          obtain⟨_,hx303,h⟩:=bindS h
          refine sr (SQ (fa hx302 (fa hx303 tt))) ?_
          refine sdS (SQ tt) ?_
          refine sr (SQ tt) ?_
          refine gh [(4,_),(6,_),(10,_),(17,_),(19,_),(22,_),(23,_),(117,_),(118,_),(119,_),(124,_),(125,_),(126,_),(142,_)] [(1004,some _),(1006,some _),(1019,some _),(3010,some _),(3017,some _),(13061,some _)] hB rfl rfl (by rfl) ?_
          refine AWp.cut h (fun m306:(List aSpan)=>([(4,(pt 1004)),(6,(pt 1006)),(10,(.sref 3010 6 0 p152.length)),(17,(.sref 3017 2 0 m306.length)),(19,(pt 1019)),(117,(qe_aSpan_2 a0.fASNs)),(118,(i6 (a0.fASNs.length:Int))),(119,(i6 s209.1)),(124,(.sref 13061 2 0 m39.length)),(125,(i6 (m39.length:Int))),(126,(i6 s281.1))]:EL)) (fun m306:(List aSpan)=>([(1004,some (.box 57 (.st [.nils,.nils]))),(1006,some (.box 57 (.st [(qe_aRange_6 r8),(.sref 13061 2 0 m39.length)]))),(1019,bd 101 (e_aSpan x280)),(3010,some (we_aRange_92_6 p152)),(3017,some (we_aSpan_101_2 m306)),(13061,some (we_aSpan_101_2 m39))]:OL)) (fun m306 h E' O' hmat => ?_) (fun j307 hjj307 h => ?_)
          ·apply blkQ_n
           apply seqQ_n
           refine AWp.ghost hmat ?_
           refine rg (SQ tt) ?_
           obtain rfl:=oi h
           exact⟨rfl,(mp [] _ _ hB)⟩
          ·apply AWp.cond rfl<;>intro hg308
           ·have h:=ite_t hg308 h
            obtain⟨hc309,h⟩:=chk_some h
            refine rg (SQ (fa hc309 tt)) ?_
            exact hjj307 _ h _ _ (mp [(3017,1148)] _ _ hB)
           ·have h:=ite_f hg308 h
            apply AWp.skip
            exact hjj307 _ h _ _ (mp [] _ _ hB)
         ·have h:=ite_f hg301 h
          apply AWp.exit
          apply seqQ_e
          obtain rfl:=oi h
          exact⟨(fun hc=>by cases hc),rfl,(mp [] _ _ hB)⟩
        ·obtain⟨rfl,hmat⟩:=hR
         apply blkQ_hit
         apply blkQ_n
         apply seqQ_n
         refine AWp.ghost hmat ?_
         refine rg (SQ tt) ?_
         obtain rfl:=oi h
         exact⟨rfl,(mp [] _ _ hB)⟩
       ·have h:=ite_f hg279 h
        apply AWp.exit
        apply seqQ_e
        obtain rfl:=oi h
        exact⟨(fun hc=>by cases hc),rfl,(mp [] _ _ hB)⟩
      ·obtain⟨rfl,hmat⟩:=hR
       apply blkQ_hit
       apply seqQ_n
       refine AWp.ghost hmat ?_
       apply AWp.seq
       refine AWp.ghost (Mat.freezeP (n:=3010) (e:=92) (sz:=6) (es:=p152.map e_aRange) (Ts:=[(10,(qe_aRange_6 p152))]) (Bs:=[]) (by rfl) (TwT.cons (x:=(.sref 3010 6 0 p152.length)) (by rfl) (FrzL.all (by first | rfl | (simp;done) | (simp;omega) | omega)) TwT.nil) TwB.nil) ?_
       refine AWp.ghost (Mat.freezeP (n:=3017) (e:=101) (sz:=2) (es:=p278.map e_aSpan) (Ts:=[(17,(qe_aSpan_2 p278))]) (Bs:=[]) (by rfl) (TwT.cons (x:=(.sref 3017 2 0 p278.length)) (by rfl) (FrzL.all (by first | rfl | (simp;done) | (simp;omega) | omega)) TwT.nil) TwB.nil) ?_
       obtain⟨r314,hr314,h⟩:=bindS h
       refine rg (SQ (fa (cl [] (xref21_limited_ac p152 p278 r314 hr314)) tt)) ?_
       apply seqQ_n
       apply AWp.ret
       obtain rfl:=oi h
       exact rt (kp [(4,_),(5,_)] [(1004,some _)] hB rfl rfl (by rfl)) [(.d (e_aResources r314.1)),(i6 r314.2)] (Res.cell (c:=(.d (e_aResources r314.1))) (by rfl) (by rfl) tyS57 (by rfl) (by rfl) (by rfl) (Res.tmp (by rfl) (by rfl) Res.nil)) rfl
    ·apply AWp.cond rfl<;>intro hg315
     ·have h:=ite_t hg315 h
      obtain⟨hc316,h⟩:=chk_some h
      refine rg (SQ (fa hc316 tt)) ?_
      exact hjj40 _ h _ _ (mp [(13061,1069)] _ _ hB)
     ·have h:=ite_f hg315 h
      apply AWp.skip
      exact hjj40 _ h _ _ (mp [] _ _ hB)
 ·obtain⟨r317,hr317,h⟩:=bindS h
  rcases bft (!r317) with hg318 | hg318
  ·have h:=ite_t hg318 h
   refine rg (SQ (fa (cl [] (xref21_Valid_ac a0 r317 hr317)) (fa hg318 tt))) ?_
   exact hjj6 _ h _ _ (mp [] _ _ hB)
  ·have h:=ite_f hg318 h
   obtain⟨r319,hr319,h⟩:=bindS h
   refine rg (SQ (fa (cl [] (xref21_Valid_ac a0 r317 hr317)) (fa hg318 (fa (cl [] (xref21_Valid_ac a1 r319 hr319)) tt)))) ?_
   exact hjj6 _ h _ _ (mp [] _ _ hB)
def xref21_Covers (a0:aResources) (a1:aResources):Option (Bool) :=
 (xref21_Minus a1 a0).bind fun r1 =>
 some (((r1.2==0)&&((r1.1.fAddrs.length:Int)==0))&&((r1.1.fASNs.length:Int)==0))
theorem xref21_Covers_ac (a0:aResources) (a1:aResources) (r:Bool) (h:xref21_Covers a0 a1=some r):AC Tryz.prog 40 [(.d (e_aResources a0)),(.d (e_aResources a1))] [] (.d (.bool r)) []:=by
 refine ac2 Tryz.func40 rfl rfl fun B hB hN L => ?_
 delta xref21_Covers at h
 refine sr (SQ tt) ?_
 obtain⟨r1,hr1,h⟩:=bindS h
 refine sr (SQ (fa (cl [] (xref21_Minus_ac a1 a0 r1 hr1)) tt)) ?_
 refine sr (SQ tt) ?_
 apply AWp.ret
 obtain rfl:=oi h
 exact rt (kp [(4,_)] [] hB rfl rfl (by rfl)) [(bo (((r1.2==0)&&((r1.1.fAddrs.length:Int)==0))&&((r1.1.fASNs.length:Int)==0)))] (Res.tmp (by rfl) (by rfl) Res.nil) rfl
def xref22_Trusted_L0 (a0:(List aCert)) (a1:(List Int)) (a2:Int) (s2:Int×(List Bool)):Option ((((List Bool)))⊕(Int×(List Bool))) :=
 (if (decide (s2.1<(a0.length:Int)))=true then
 (idx a0 s2.1).bind fun x69 =>
 jn (fun m84:(List Bool) =>
 some (.inr ((w64 (s2.1+1)),m84))) (fun j85 =>
 (if (x69.fIssuer==x69.fKey)=true then
 (xref22_anchored a1 x69.fKey).bind fun r87 =>
 (if r87=true then
 (xref22_current x69.fFrom x69.fUntil a2).bind fun r89 =>
 (if r89=true then
 (xref21_Valid x69.fResources).bind fun r91 =>
 (idx s2.2 s2.1).bind fun x92 =>
 (idx s2.2 s2.1).bind fun x93 =>
 j85 (s2.2.set s2.1.toNat r91)
 else
 (idx s2.2 s2.1).bind fun x94 =>
 (idx s2.2 s2.1).bind fun x95 =>
 j85 (s2.2.set s2.1.toNat false))
 else
 (idx s2.2 s2.1).bind fun x96 =>
 (idx s2.2 s2.1).bind fun x97 =>
 j85 (s2.2.set s2.1.toNat false))
 else
 (idx s2.2 s2.1).bind fun x98 =>
 (idx s2.2 s2.1).bind fun x99 =>
 j85 (s2.2.set s2.1.toNat false)))
 else
 some (.inl s2.2))
def xref22_Trusted_L3 (a0:(List aCert)) (s102:Int×(List Bool)) (s1458:Int×(List Bool)) (x2019:aCert) (s2029:Int×(List Bool)):Option ((((List Bool)))⊕(Int×(List Bool))) :=
 (if (decide (s2029.1<(a0.length:Int)))=true then
 (idx a0 s2029.1).bind fun x2092 =>
 jn (fun m2107:(List Bool) =>
 some (.inr ((w64 (s2029.1+1)),m2107))) (fun j2108 =>
 (idx s2029.2 s1458.1).bind fun x2109 =>
 (idx s2029.2 s1458.1).bind fun x2110 =>
 (if x2110=true then
 (idx s2029.2 s1458.1).bind fun x2112 =>
 (idx s2029.2 s1458.1).bind fun x2113 =>
 j2108 (s2029.2.set s1458.1.toNat true)
 else
 (idx s102.2 s2029.1).bind fun x2114 =>
 (if (x2114&&(x2092.fKey==x2019.fIssuer))=true then
 (xref21_Covers x2092.fResources x2019.fResources).bind fun r2116 =>
 (idx s2029.2 s1458.1).bind fun x2117 =>
 (idx s2029.2 s1458.1).bind fun x2118 =>
 j2108 (s2029.2.set s1458.1.toNat r2116)
 else
 (idx s2029.2 s1458.1).bind fun x2119 =>
 (idx s2029.2 s1458.1).bind fun x2120 =>
 j2108 (s2029.2.set s1458.1.toNat false))))
 else
 some (.inl s2029.2))
def xref22_Trusted_L2 (a0:(List aCert)) (a2:Int) (s102:Int×(List Bool)) (s1458:Int×(List Bool)):Option ((((List Bool)))⊕(Int×(List Bool))) :=
 (if (decide (s1458.1<(a0.length:Int)))=true then
 jn (fun m2017:(List Bool) =>
 some (.inr ((w64 (s1458.1+1)),m2017))) (fun j2018 =>
 (idx a0 s1458.1).bind fun x2019 =>
 jn (fun m2026:Bool =>
 (if m2026=true then
 j2018 s1458.2
 else
 (loop (xref22_Trusted_L3 a0 s102 s1458 x2019) (0,s1458.2)).bind fun p2090 =>
 j2018 p2090)) (fun j2027 =>
 (idx s102.2 s1458.1).bind fun x2123 =>
 (if (x2123 || (x2019.fIssuer==x2019.fKey))=true then
 j2027 true
 else
 (xref22_current x2019.fFrom x2019.fUntil a2).bind fun r2125 =>
 (if (!r2125)=true then
 j2027 true
 else
 (xref21_Valid x2019.fResources).bind fun r2127 =>
 j2027 (!r2127)))))
 else
 some (.inl s1458.2))
def xref22_Trusted_L1 (a0:(List aCert)) (a2:Int) (s102:Int×(List Bool)):Option ((((List Bool)))⊕(Int×(List Bool))) :=
 (if (decide (s102.1<15))=true then
 chk (decide (s102.2.length≤LIM)) <|
 (loop (xref22_Trusted_L2 a0 a2 s102) (0,s102.2)).bind fun p1905 =>
 some (.inr ((w64 (s102.1+1)),p1905))
 else
 some (.inl s102.2))
def xref22_Trusted (a0:(List aCert)) (a1:(List Int)) (a2:Int):Option ((List Bool)) :=
 chk ((decide (0≤(a0.length:Int))&&decide ((a0.length:Int)≤(a0.length:Int))&&decide ((a0.length:Int)≤(LIM:Int)))) <|
 (loop (xref22_Trusted_L0 a0 a1 a2) (0,(List.replicate (a0.length:Int).toNat false))).bind fun p67 =>
 (loop (xref22_Trusted_L1 a0 a2) (0,p67)).bind fun p1455 =>
 some p1455
theorem xref22_Trusted_ac (a0:(List aCert)) (a1:(List Int)) (a2:Int) (r:(List Bool)) (h:xref22_Trusted a0 a1 a2=some r):AC Tryz.prog 15 [(.d (.list 6 (a0.map e_aCert))),(.d (.list 1 (a1.map (eI .i64)))),(.d (.int .i64 a2))] [] (.d (.list 1 (r.map eB))) []:=by
 refine ac2 Tryz.func15 rfl rfl fun B hB hN L => ?_
 delta xref22_Trusted at h
 refine sr (SQ tt) ?_
 obtain⟨hc1,h⟩:=chk_some h
 refine sr (SQ (fa hc1 tt)) ?_
 apply AWp.seq
 refine sr (SQ tt) ?_
 apply AWp.block
 obtain⟨p67,hx101,h⟩:=bindS h
 refine lg (xref22_Trusted_L0 a0 a1 a2) (fun s2:Int×(List Bool)=>([(0,(qe_aCert_6 a0)),(1,(qI_1 a1)),(2,(i6 a2)),(7,(.sref 1017 1 0 s2.2.length)),(18,(qe_aCert_6 a0)),(19,(i6 (a0.length:Int))),(20,(i6 s2.1))]:EL)) (fun s2:Int×(List Bool)=>([(1017,some (.row 4 1 (s2.2.map eB)))]:OL)) (fun(p67:((List Bool))) e E' O'=>e = .exit 0∧Mat B E' O' ([(0,(qe_aCert_6 a0)),(2,(i6 a2)),(7,(.sref 1017 1 0 p67.length))]:EL) ([(1017,some (.row 4 1 (p67.map eB)))]:OL)) hx101 (mp [] _ _ hB) (fun s2 y h => ?_) (fun e E' O' hR => ?_)
 ·unfold xref22_Trusted_L0 at h
  refine sr (SQ tt) ?_
  apply AWp.seq
  apply AWp.cond rfl<;>intro hg68
  ·have h:=ite_t hg68 h
   apply AWp.skip
   apply seqQ_n
   apply AWp.seq
   apply AWp.block
   obtain⟨x69,hx69,h⟩:=bindS h
   refine sr (SQ (fa hx69 tt)) ?_
   refine gh [(0,_),(1,_),(2,_),(7,_),(8,_),(9,_),(18,_),(19,_),(20,_)] [(1009,some _),(1017,some _)] hB rfl rfl (by rfl) ?_
   refine AWp.cut h (fun m84:(List Bool)=>([(0,(qe_aCert_6 a0)),(1,(qI_1 a1)),(2,(i6 a2)),(7,(.sref 1017 1 0 m84.length)),(18,(qe_aCert_6 a0)),(19,(i6 (a0.length:Int))),(20,(i6 s2.1))]:EL)) (fun m84:(List Bool)=>([(1017,some (.row 4 1 (m84.map eB)))]:OL)) (fun m84 h E' O' hmat => ?_) (fun j85 hjj85 h => ?_)
   ·apply blkQ_n
    apply seqQ_n
    refine AWp.ghost hmat ?_
    refine rg (SQ tt) ?_
    obtain rfl:=oi h
    exact⟨rfl,(mp [] _ _ hB)⟩
   ·rcases bft (x69.fIssuer==x69.fKey) with hg86 | hg86
    ·have h:=ite_t hg86 h
     obtain⟨r87,hr87,h⟩:=bindS h
     rcases bft r87 with hg88 | hg88
     ·have h:=ite_t hg88 h
      obtain⟨r89,hr89,h⟩:=bindS h
      rcases bft r89 with hg90 | hg90
      ·have h:=ite_t hg90 h
       obtain⟨r91,hr91,h⟩:=bindS h
       obtain⟨_,hx92,h⟩:=bindS h
       obtain⟨_,hx93,h⟩:=bindS h
       refine rg (SQ (fa hg86 (fa (cl [] (xref22_anchored_ac a1 x69.fKey r87 hr87)) (fa hg88 (fa (cl [] (xref22_current_ac x69.fFrom x69.fUntil a2 r89 hr89)) (fa hg90 (fa (cl [] (xref21_Valid_ac x69.fResources r91 hr91)) (fa hx92 (fa hx93 (fa (sv r91) tt)))))))))) ?_
       exact hjj85 _ h _ _ (Mat.trans (mp [] [(0,(qe_aCert_6 a0)),(1,(qI_1 a1)),(2,(i6 a2)),(7,(.sref 1017 1 0 s2.2.length)),(18,(qe_aCert_6 a0)),(19,(i6 (a0.length:Int))),(20,(i6 s2.1))] [(1017,some (.row 4 1 ((s2.2.set s2.1.toNat r91).map eB)))] hB) (Mat.trans (Mat.lenP (Ts:=[(7,(.sref 1017 1 0 ((s2.2.set s2.1.toNat r91).length)))]) (Bs:=[]) (TwT.cons (x:=(.sref 1017 1 0 s2.2.length)) (by rfl) (Tw.leaf ⟨_,_,_,_,_,rfl,rfl,(by first | rfl | (simp;done) | (simp;omega) | omega)⟩) TwT.nil) TwB.nil) (mp [] _ _ hB)))
      ·have h:=ite_f hg90 h
       obtain⟨_,hx94,h⟩:=bindS h
       obtain⟨_,hx95,h⟩:=bindS h
       refine rg (SQ (fa hg86 (fa (cl [] (xref22_anchored_ac a1 x69.fKey r87 hr87)) (fa hg88 (fa (cl [] (xref22_current_ac x69.fFrom x69.fUntil a2 r89 hr89)) (fa hg90 (fa hx94 (fa hx95 (fa (sv false) tt))))))))) ?_
       exact hjj85 _ h _ _ (Mat.trans (mp [] [(0,(qe_aCert_6 a0)),(1,(qI_1 a1)),(2,(i6 a2)),(7,(.sref 1017 1 0 s2.2.length)),(18,(qe_aCert_6 a0)),(19,(i6 (a0.length:Int))),(20,(i6 s2.1))] [(1017,some (.row 4 1 ((s2.2.set s2.1.toNat false).map eB)))] hB) (Mat.trans (Mat.lenP (Ts:=[(7,(.sref 1017 1 0 ((s2.2.set s2.1.toNat false).length)))]) (Bs:=[]) (TwT.cons (x:=(.sref 1017 1 0 s2.2.length)) (by rfl) (Tw.leaf ⟨_,_,_,_,_,rfl,rfl,(by first | rfl | (simp;done) | (simp;omega) | omega)⟩) TwT.nil) TwB.nil) (mp [] _ _ hB)))
     ·have h:=ite_f hg88 h
      obtain⟨_,hx96,h⟩:=bindS h
      obtain⟨_,hx97,h⟩:=bindS h
      refine rg (SQ (fa hg86 (fa (cl [] (xref22_anchored_ac a1 x69.fKey r87 hr87)) (fa hg88 (fa hx96 (fa hx97 (fa (sv false) tt))))))) ?_
      exact hjj85 _ h _ _ (Mat.trans (mp [] [(0,(qe_aCert_6 a0)),(1,(qI_1 a1)),(2,(i6 a2)),(7,(.sref 1017 1 0 s2.2.length)),(18,(qe_aCert_6 a0)),(19,(i6 (a0.length:Int))),(20,(i6 s2.1))] [(1017,some (.row 4 1 ((s2.2.set s2.1.toNat false).map eB)))] hB) (Mat.trans (Mat.lenP (Ts:=[(7,(.sref 1017 1 0 ((s2.2.set s2.1.toNat false).length)))]) (Bs:=[]) (TwT.cons (x:=(.sref 1017 1 0 s2.2.length)) (by rfl) (Tw.leaf ⟨_,_,_,_,_,rfl,rfl,(by first | rfl | (simp;done) | (simp;omega) | omega)⟩) TwT.nil) TwB.nil) (mp [] _ _ hB)))
    ·have h:=ite_f hg86 h
     obtain⟨_,hx98,h⟩:=bindS h
     obtain⟨_,hx99,h⟩:=bindS h
     refine rg (SQ (fa hg86 (fa hx98 (fa hx99 (fa (sv false) tt))))) ?_
     exact hjj85 _ h _ _ (Mat.trans (mp [] [(0,(qe_aCert_6 a0)),(1,(qI_1 a1)),(2,(i6 a2)),(7,(.sref 1017 1 0 s2.2.length)),(18,(qe_aCert_6 a0)),(19,(i6 (a0.length:Int))),(20,(i6 s2.1))] [(1017,some (.row 4 1 ((s2.2.set s2.1.toNat false).map eB)))] hB) (Mat.trans (Mat.lenP (Ts:=[(7,(.sref 1017 1 0 ((s2.2.set s2.1.toNat false).length)))]) (Bs:=[]) (TwT.cons (x:=(.sref 1017 1 0 s2.2.length)) (by rfl) (Tw.leaf ⟨_,_,_,_,_,rfl,rfl,(by first | rfl | (simp;done) | (simp;omega) | omega)⟩) TwT.nil) TwB.nil) (mp [] _ _ hB)))
  ·have h:=ite_f hg68 h
   apply AWp.exit
   apply seqQ_e
   obtain rfl:=oi h
   exact⟨(fun hc=>by cases hc),rfl,(mp [] _ _ hB)⟩
 ·obtain⟨rfl,hmat⟩:=hR
  apply blkQ_hit
  apply seqQ_n
  refine AWp.ghost hmat ?_
  apply AWp.seq
  refine sr (SQ tt) ?_
  apply AWp.block
  obtain⟨p1455,hx2131,h⟩:=bindS h
  refine lg (xref22_Trusted_L1 a0 a2) (fun s102:Int×(List Bool)=>([(0,(qe_aCert_6 a0)),(2,(i6 a2)),(7,(.sref 3007 1 0 s102.2.length)),(53,(i6 s102.1))]:EL)) (fun s102:Int×(List Bool)=>([(3007,some (.row 4 1 (s102.2.map eB)))]:OL)) (fun(p1455:((List Bool))) e E' O'=>e = .exit 2∧Mat B E' O' ([(7,(.sref 3007 1 0 p1455.length))]:EL) ([(3007,some (.row 4 1 (p1455.map eB)))]:OL)) hx2131 (mp [(3007,1017)] _ _ hB) (fun s102 y h => ?_) (fun e E' O' hR => ?_)
  ·unfold xref22_Trusted_L1 at h
   refine sr (SQ tt) ?_
   apply AWp.seq
   apply AWp.cond rfl<;>intro hg1456
   ·have h:=ite_t hg1456 h
    apply AWp.skip
    apply seqQ_n
    apply AWp.seq
    apply AWp.block
    apply AWp.seq
    refine AWp.ghost (Mat.freezeP (n:=3007) (e:=4) (sz:=1) (es:=s102.2.map eB) (Ts:=[(7,(.d (.list 1 (s102.2.map eB))))]) (Bs:=[]) (by rfl) (TwT.cons (x:=(.sref 3007 1 0 s102.2.length)) (by rfl) (FrzL.all (by first | rfl | (simp;done) | (simp;omega) | omega)) TwT.nil) TwB.nil) ?_
    obtain⟨hc1457,h⟩:=chk_some h
    refine rg (SQ (fa hc1457 tt)) ?_
    apply seqQ_n
    apply AWp.seq
    refine sr (SQ tt) ?_
    apply AWp.block
    obtain⟨p1905,hx2129,h⟩:=bindS h
    refine lg (xref22_Trusted_L2 a0 a2 s102) (fun s1458:Int×(List Bool)=>([(0,(qe_aCert_6 a0)),(2,(i6 a2)),(7,(.d (.list 1 (s102.2.map eB)))),(10,(.sref 1056 1 0 s1458.2.length)),(53,(i6 s102.1)),(57,(qe_aCert_6 a0)),(58,(i6 (a0.length:Int))),(59,(i6 s1458.1))]:EL)) (fun s1458:Int×(List Bool)=>([(1056,some (.row 4 1 (s1458.2.map eB)))]:OL)) (fun(p1905:((List Bool))) e E' O'=>e = .exit 4∧Mat B E' O' ([(0,(qe_aCert_6 a0)),(2,(i6 a2)),(10,(.sref 1056 1 0 p1905.length)),(53,(i6 s102.1))]:EL) ([(1056,some (.row 4 1 (p1905.map eB)))]:OL)) hx2129 (mp [] _ _ hB) (fun s1458 y h => ?_) (fun e E' O' hR => ?_)
    ·unfold xref22_Trusted_L2 at h
     refine sr (SQ tt) ?_
     apply AWp.seq
     apply AWp.cond rfl<;>intro hg1906
     ·have h:=ite_t hg1906 h
      apply AWp.skip
      apply seqQ_n
      apply AWp.seq
      refine AWp.cut h (fun m2017:(List Bool)=>([(0,(qe_aCert_6 a0)),(2,(i6 a2)),(7,(.d (.list 1 (s102.2.map eB)))),(10,(.sref 1056 1 0 m2017.length)),(53,(i6 s102.1)),(57,(qe_aCert_6 a0)),(58,(i6 (a0.length:Int))),(59,(i6 s1458.1))]:EL)) (fun m2017:(List Bool)=>([(1056,some (.row 4 1 (m2017.map eB)))]:OL)) (fun m2017 h E' O' hmat => ?_) (fun j2018 hjj2018 h => ?_)
      ·apply seqQ_n
       refine AWp.ghost hmat ?_
       refine rg (SQ tt) ?_
       obtain rfl:=oi h
       exact⟨rfl,(mp [] _ _ hB)⟩
      ·apply AWp.block
       obtain⟨x2019,hx2019,h⟩:=bindS h
       refine sr (SQ (fa hx2019 tt)) ?_
       apply AWp.seq
       apply AWp.seq
       refine AWp.cut h (fun m2026:Bool=>([(0,(qe_aCert_6 a0)),(2,(i6 a2)),(7,(.d (.list 1 (s102.2.map eB)))),(10,(.sref 1056 1 0 s1458.2.length)),(11,(i6 s1458.1)),(12,(pt 1012)),(53,(i6 s102.1)),(57,(qe_aCert_6 a0)),(58,(i6 (a0.length:Int))),(59,(i6 s1458.1)),(89,(bo m2026))]:EL)) (fun m2026:Bool=>([(1012,bd 59 (e_aCert x2019)),(1056,some (.row 4 1 (s1458.2.map eB)))]:OL)) (fun m2026 h E' O' hmat => ?_) (fun j2027 hjj2027 h => ?_)
       ·apply seqQ_n
        refine AWp.ghost hmat ?_
        apply AWp.cond rfl<;>intro hg2028
        ·have h:=ite_t hg2028 h
         apply AWp.exit
         apply seqQ_e
         apply blkQ_hit
         exact hjj2018 _ h _ _ (mp [] _ _ hB)
        ·have h:=ite_f hg2028 h
         apply AWp.skip
         apply seqQ_n
         refine sr (SQ tt) ?_
         apply AWp.block
         obtain⟨p2090,hx2122,h⟩:=bindS h
         refine lg (xref22_Trusted_L3 a0 s102 s1458 x2019) (fun s2029:Int×(List Bool)=>([(0,(qe_aCert_6 a0)),(2,(i6 a2)),(7,(.d (.list 1 (s102.2.map eB)))),(10,(.sref 1056 1 0 s2029.2.length)),(11,(i6 s1458.1)),(12,(pt 1012)),(53,(i6 s102.1)),(57,(qe_aCert_6 a0)),(58,(i6 (a0.length:Int))),(59,(i6 s1458.1)),(90,(qe_aCert_6 a0)),(91,(i6 (a0.length:Int))),(92,(i6 s2029.1))]:EL)) (fun s2029:Int×(List Bool)=>([(1012,bd 59 (e_aCert x2019)),(1056,some (.row 4 1 (s2029.2.map eB)))]:OL)) (fun(p2090:((List Bool))) e E' O'=>e = .exit 6∧Mat B E' O' ([(0,(qe_aCert_6 a0)),(2,(i6 a2)),(7,(.d (.list 1 (s102.2.map eB)))),(10,(.sref 1056 1 0 p2090.length)),(53,(i6 s102.1)),(57,(qe_aCert_6 a0)),(58,(i6 (a0.length:Int))),(59,(i6 s1458.1))]:EL) ([(1056,some (.row 4 1 (p2090.map eB)))]:OL)) hx2122 (mp [] _ _ hB) (fun s2029 y h => ?_) (fun e E' O' hR => ?_)
         ·unfold xref22_Trusted_L3 at h
          refine sr (SQ tt) ?_
          apply AWp.seq
          apply AWp.cond rfl<;>intro hg2091
          ·have h:=ite_t hg2091 h
           apply AWp.skip
           apply seqQ_n
           apply AWp.seq
           apply AWp.block
           obtain⟨x2092,hx2092,h⟩:=bindS h
           refine sr (SQ (fa hx2092 tt)) ?_
           refine gh [(0,_),(2,_),(7,_),(10,_),(11,_),(12,_),(13,_),(14,_),(53,_),(57,_),(58,_),(59,_),(90,_),(91,_),(92,_)] [(1012,some _),(1014,some _),(1056,some _)] hB rfl rfl (by rfl) ?_
           refine AWp.cut h (fun m2107:(List Bool)=>([(0,(qe_aCert_6 a0)),(2,(i6 a2)),(7,(.d (.list 1 (s102.2.map eB)))),(10,(.sref 1056 1 0 m2107.length)),(11,(i6 s1458.1)),(12,(pt 1012)),(53,(i6 s102.1)),(57,(qe_aCert_6 a0)),(58,(i6 (a0.length:Int))),(59,(i6 s1458.1)),(90,(qe_aCert_6 a0)),(91,(i6 (a0.length:Int))),(92,(i6 s2029.1))]:EL)) (fun m2107:(List Bool)=>([(1012,bd 59 (e_aCert x2019)),(1056,some (.row 4 1 (m2107.map eB)))]:OL)) (fun m2107 h E' O' hmat => ?_) (fun j2108 hjj2108 h => ?_)
           ·apply blkQ_n
            apply seqQ_n
            refine AWp.ghost hmat ?_
            refine rg (SQ tt) ?_
            obtain rfl:=oi h
            exact⟨rfl,(mp [] _ _ hB)⟩
           ·obtain⟨_,hx2109,h⟩:=bindS h
            obtain⟨x2110,hx2110,h⟩:=bindS h
            rcases bft x2110 with hg2111 | hg2111
            ·have h:=ite_t hg2111 h
             obtain⟨_,hx2112,h⟩:=bindS h
             obtain⟨_,hx2113,h⟩:=bindS h
             refine rg (SQ (fa hx2109 (fa hx2110 (fa hg2111 (fa hx2112 (fa hx2113 (fa (sv true) tt))))))) ?_
             exact hjj2108 _ h _ _ (Mat.trans (mp [] [(0,(qe_aCert_6 a0)),(2,(i6 a2)),(7,(.d (.list 1 (s102.2.map eB)))),(10,(.sref 1056 1 0 s2029.2.length)),(11,(i6 s1458.1)),(12,(pt 1012)),(53,(i6 s102.1)),(57,(qe_aCert_6 a0)),(58,(i6 (a0.length:Int))),(59,(i6 s1458.1)),(90,(qe_aCert_6 a0)),(91,(i6 (a0.length:Int))),(92,(i6 s2029.1))] [(1012,bd 59 (e_aCert x2019)),(1056,some (.row 4 1 ((s2029.2.set s1458.1.toNat true).map eB)))] hB) (Mat.trans (Mat.lenP (Ts:=[(10,(.sref 1056 1 0 ((s2029.2.set s1458.1.toNat true).length)))]) (Bs:=[]) (TwT.cons (x:=(.sref 1056 1 0 s2029.2.length)) (by rfl) (Tw.leaf ⟨_,_,_,_,_,rfl,rfl,(by first | rfl | (simp;done) | (simp;omega) | omega)⟩) TwT.nil) TwB.nil) (mp [] _ _ hB)))
            ·have h:=ite_f hg2111 h
             obtain⟨x2114,hx2114,h⟩:=bindS h
             rcases bft (x2114&&(x2092.fKey==x2019.fIssuer)) with hg2115 | hg2115
             ·have h:=ite_t hg2115 h
              obtain⟨r2116,hr2116,h⟩:=bindS h
              obtain⟨_,hx2117,h⟩:=bindS h
              obtain⟨_,hx2118,h⟩:=bindS h
              refine rg (SQ (fa hx2109 (fa hx2110 (fa hg2111 (fa hx2114 (fa hg2115 (fa (cl [] (xref21_Covers_ac x2092.fResources x2019.fResources r2116 hr2116)) (fa hx2117 (fa hx2118 (fa (sv r2116) tt)))))))))) ?_
              exact hjj2108 _ h _ _ (Mat.trans (mp [] [(0,(qe_aCert_6 a0)),(2,(i6 a2)),(7,(.d (.list 1 (s102.2.map eB)))),(10,(.sref 1056 1 0 s2029.2.length)),(11,(i6 s1458.1)),(12,(pt 1012)),(53,(i6 s102.1)),(57,(qe_aCert_6 a0)),(58,(i6 (a0.length:Int))),(59,(i6 s1458.1)),(90,(qe_aCert_6 a0)),(91,(i6 (a0.length:Int))),(92,(i6 s2029.1))] [(1012,bd 59 (e_aCert x2019)),(1056,some (.row 4 1 ((s2029.2.set s1458.1.toNat r2116).map eB)))] hB) (Mat.trans (Mat.lenP (Ts:=[(10,(.sref 1056 1 0 ((s2029.2.set s1458.1.toNat r2116).length)))]) (Bs:=[]) (TwT.cons (x:=(.sref 1056 1 0 s2029.2.length)) (by rfl) (Tw.leaf ⟨_,_,_,_,_,rfl,rfl,(by first | rfl | (simp;done) | (simp;omega) | omega)⟩) TwT.nil) TwB.nil) (mp [] _ _ hB)))
             ·have h:=ite_f hg2115 h
              obtain⟨_,hx2119,h⟩:=bindS h
              obtain⟨_,hx2120,h⟩:=bindS h
              refine rg (SQ (fa hx2109 (fa hx2110 (fa hg2111 (fa hx2114 (fa hg2115 (fa hx2119 (fa hx2120 (fa (sv false) tt))))))))) ?_
              exact hjj2108 _ h _ _ (Mat.trans (mp [] [(0,(qe_aCert_6 a0)),(2,(i6 a2)),(7,(.d (.list 1 (s102.2.map eB)))),(10,(.sref 1056 1 0 s2029.2.length)),(11,(i6 s1458.1)),(12,(pt 1012)),(53,(i6 s102.1)),(57,(qe_aCert_6 a0)),(58,(i6 (a0.length:Int))),(59,(i6 s1458.1)),(90,(qe_aCert_6 a0)),(91,(i6 (a0.length:Int))),(92,(i6 s2029.1))] [(1012,bd 59 (e_aCert x2019)),(1056,some (.row 4 1 ((s2029.2.set s1458.1.toNat false).map eB)))] hB) (Mat.trans (Mat.lenP (Ts:=[(10,(.sref 1056 1 0 ((s2029.2.set s1458.1.toNat false).length)))]) (Bs:=[]) (TwT.cons (x:=(.sref 1056 1 0 s2029.2.length)) (by rfl) (Tw.leaf ⟨_,_,_,_,_,rfl,rfl,(by first | rfl | (simp;done) | (simp;omega) | omega)⟩) TwT.nil) TwB.nil) (mp [] _ _ hB)))
          ·have h:=ite_f hg2091 h
           apply AWp.exit
           apply seqQ_e
           obtain rfl:=oi h
           exact⟨(fun hc=>by cases hc),rfl,(mp [] _ _ hB)⟩
         ·obtain⟨rfl,hmat⟩:=hR
          apply blkQ_hit
          apply blkQ_n
          exact hjj2018 _ h _ _ (Mat.trans hmat (mp [] _ _ hB))
       ·obtain⟨x2123,hx2123,h⟩:=bindS h
        rcases bft (x2123 || (x2019.fIssuer==x2019.fKey)) with hg2124 | hg2124
        ·have h:=ite_t hg2124 h
         refine rg (SQ (fa hx2123 (fa hg2124 tt))) ?_
         exact hjj2027 _ h _ _ (mp [] _ _ hB)
        ·have h:=ite_f hg2124 h
         obtain⟨r2125,hr2125,h⟩:=bindS h
         rcases bft (!r2125) with hg2126 | hg2126
         ·have h:=ite_t hg2126 h
          refine rg (SQ (fa hx2123 (fa hg2124 (fa (cl [] (xref22_current_ac x2019.fFrom x2019.fUntil a2 r2125 hr2125)) (fa hg2126 tt))))) ?_
          exact hjj2027 _ h _ _ (mp [] _ _ hB)
         ·have h:=ite_f hg2126 h
          obtain⟨r2127,hr2127,h⟩:=bindS h
          refine rg (SQ (fa hx2123 (fa hg2124 (fa (cl [] (xref22_current_ac x2019.fFrom x2019.fUntil a2 r2125 hr2125)) (fa hg2126 (fa (cl [] (xref21_Valid_ac x2019.fResources r2127 hr2127)) tt)))))) ?_
          exact hjj2027 _ h _ _ (mp [] _ _ hB)
     ·have h:=ite_f hg1906 h
      apply AWp.exit
      apply seqQ_e
      obtain rfl:=oi h
      exact⟨(fun hc=>by cases hc),rfl,(mp [] _ _ hB)⟩
    ·obtain⟨rfl,hmat⟩:=hR
     apply blkQ_hit
     apply seqQ_n
     refine AWp.ghost hmat ?_
     refine rg (SQ tt) ?_
     apply blkQ_n
     apply seqQ_n
     refine rg (SQ tt) ?_
     obtain rfl:=oi h
     exact⟨rfl,(mp [(3007,1056)] _ _ hB)⟩
   ·have h:=ite_f hg1456 h
    apply AWp.exit
    apply seqQ_e
    obtain rfl:=oi h
    exact⟨(fun hc=>by cases hc),rfl,(mp [] _ _ hB)⟩
  ·obtain⟨rfl,hmat⟩:=hR
   apply blkQ_hit
   apply seqQ_n
   refine AWp.ghost hmat ?_
   refine sr (SQ tt) ?_
   apply AWp.ret
   obtain rfl:=oi h
   exact rt (Mat.trans (Mat.freezeP (n:=3007) (e:=4) (sz:=1) (es:=p1455.map eB) (Ts:=[(6,(.d (.list 1 (p1455.map eB))))]) (Bs:=[]) (by rfl) (TwT.cons (x:=(.sref 3007 1 0 p1455.length)) (by rfl) (FrzL.all (by first | rfl | (simp;done) | (simp;omega) | omega)) TwT.nil) TwB.nil) (mp [] [(6,(.d (.list 1 (p1455.map eB))))] [] hB)) [(.d (.list 1 (p1455.map eB)))] (Res.tmp (by rfl) (by rfl) Res.nil) rfl
def xref21_HasPrefix_L0 (a0:aResources) (a1:aPrefix) (s1:Int):Option (((Unit)⊕(Unit))⊕(Int)) :=
 (if (decide (s1<(a0.fAddrs.length:Int)))=true then
 (idx a0.fAddrs s1).bind fun x35 =>
 jn (fun m41:Bool =>
 (if m41=true then
 some (.inl (.inl ()))
 else
 some (.inr (w64 (s1+1))))) (fun j42 =>
 (if (x35.fFrom.fV6==a1.fAddr.fV6)=true then
 (xref01_Cmp x35.fFrom a1.fAddr).bind fun r45 =>
 (if (decide (r45≤0))=true then
 (xref02_Last a1).bind fun r47 =>
 (xref01_Cmp r47 x35.fTo).bind fun r48 =>
 j42 (decide (r48≤0))
 else
 j42 false)
 else
 j42 false))
 else
 some (.inl (.inr ())))
def xref21_HasPrefix (a0:aResources) (a1:aPrefix):Option (Bool) :=
 (loop (xref21_HasPrefix_L0 a0 a1) 0).bind fun x49=>match x49 with
 | (.inl _) =>
  some true
 | (.inr _) =>
  some false
theorem xref21_HasPrefix_ac (a0:aResources) (a1:aPrefix) (r:Bool) (h:xref21_HasPrefix a0 a1=some r):AC Tryz.prog 20 [(.d (e_aResources a0)),(.d (e_aPrefix a1))] [] (.d (.bool r)) []:=by
 refine ac2 Tryz.func20 rfl rfl fun B hB hN L => ?_
 delta xref21_HasPrefix at h
 refine sr (SQ tt) ?_
 apply AWp.seq
 refine sr (SQ tt) ?_
 apply AWp.block
 obtain⟨x49,hx50,h⟩:=bindS h
 refine lg (xref21_HasPrefix_L0 a0 a1) (fun s1:Int=>([(3,(pt 1003)),(8,(qe_aRange_6 a0.fAddrs)),(9,(i6 (a0.fAddrs.length:Int))),(10,(i6 s1))]:EL)) (fun s1:Int=>([(1003,bd 46 (e_aPrefix a1))]:OL)) (fun(x:(Unit)⊕(Unit)) e E' O'=>match x with | (.inl _p)=>e = .ret∧Mat B E' O' ([(4,(bo true))]:EL) ([]:OL) | (.inr _p)=>e = .exit 0∧Mat B E' O' ([]:EL) ([]:OL)) hx50 (mp [] _ _ hB) (fun s1 y h => ?_) (fun e E' O' hR => ?_)
 ·unfold xref21_HasPrefix_L0 at h
  refine sr (SQ tt) ?_
  apply AWp.seq
  apply AWp.cond rfl<;>intro hg34
  ·have h:=ite_t hg34 h
   apply AWp.skip
   apply seqQ_n
   apply AWp.seq
   apply AWp.block
   obtain⟨x35,hx35,h⟩:=bindS h
   refine sr (SQ (fa hx35 tt)) ?_
   apply AWp.seq
   refine AWp.cut h (fun m41:Bool=>([(3,(pt 1003)),(8,(qe_aRange_6 a0.fAddrs)),(9,(i6 (a0.fAddrs.length:Int))),(10,(i6 s1)),(36,(bo m41))]:EL)) (fun m41:Bool=>([(1003,bd 46 (e_aPrefix a1))]:OL)) (fun m41 h E' O' hmat => ?_) (fun j42 hjj42 h => ?_)
   ·apply seqQ_n
    refine AWp.ghost hmat ?_
    apply AWp.cond rfl<;>intro hg43
    ·have h:=ite_t hg43 h
     refine sr (SQ tt) ?_
     apply AWp.ret
     apply blkQ_r
     apply seqQ_r
     obtain rfl:=oi h
     exact⟨(fun hc=>by cases hc),rfl,(mp [] _ _ hB)⟩
    ·have h:=ite_f hg43 h
     apply AWp.skip
     apply blkQ_n
     apply seqQ_n
     refine rg (SQ tt) ?_
     obtain rfl:=oi h
     exact⟨rfl,(mp [] _ _ hB)⟩
   ·rcases bft (x35.fFrom.fV6==a1.fAddr.fV6) with hg44 | hg44
    ·have h:=ite_t hg44 h
     obtain⟨r45,hr45,h⟩:=bindS h
     rcases bft (decide (r45≤0)) with hg46 | hg46
     ·have h:=ite_t hg46 h
      obtain⟨r47,hr47,h⟩:=bindS h
      obtain⟨r48,hr48,h⟩:=bindS h
      refine drS (SQ (fa hg44 (fa (cl [] (xref01_Cmp_ac x35.fFrom a1.fAddr r45 hr45)) (fa hg46 (fa (cl [] (xref02_Last_ac a1 r47 hr47)) (fa (cl [] (xref01_Cmp_ac r47 x35.fTo r48 hr48)) tt)))))) ?_
      exact hjj42 _ h _ _ (mp [] _ _ hB)
     ·have h:=ite_f hg46 h
      refine drS (SQ (fa hg44 (fa (cl [] (xref01_Cmp_ac x35.fFrom a1.fAddr r45 hr45)) (fa hg46 tt)))) ?_
      exact hjj42 _ h _ _ (mp [] _ _ hB)
    ·have h:=ite_f hg44 h
     refine drS (SQ (fa hg44 tt)) ?_
     exact hjj42 _ h _ _ (mp [] _ _ hB)
  ·have h:=ite_f hg34 h
   apply AWp.exit
   apply seqQ_e
   obtain rfl:=oi h
   exact⟨(fun hc=>by cases hc),rfl,(mp [] _ _ hB)⟩
 ·rcases x49 with _ | _
  ·obtain⟨rfl,hmat⟩:=hR
   apply blkQ_r
   apply seqQ_r
   obtain rfl:=oi h
   exact rt (Mat.trans hmat (mp [] [(4,(bo true))] [] hB)) [(bo true)] (Res.tmp (by rfl) (by rfl) Res.nil) rfl
  ·obtain⟨rfl,hmat⟩:=hR
   apply blkQ_hit
   apply seqQ_n
   refine AWp.ghost hmat ?_
   refine sr (SQ tt) ?_
   apply AWp.ret
   obtain rfl:=oi h
   exact rt (kp [(4,_)] [] hB rfl rfl (by rfl)) [(bo false)] (Res.tmp (by rfl) (by rfl) Res.nil) rfl
end
end Go.Proofs.YtgfoabcickjphaaGreatDoor
