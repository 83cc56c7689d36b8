/- Printed by gen.py: the Go functions as plain functions, and that the code does what they say. -/
import Derived.Test.YtkcpjnjneehecaaChecked
import Derived.Test.YtkcpjnjneehecaaVcYB
import Derived.Test.YtkcpjnjneehecaaVcZ
import Derived.Test.YtkcpjnjneehecaaVcGC
import Derived.KernelRfl
import Derived.Test.YtkcpjnjneehecaaFnsA
import Derived.Test.YtkcpjnjneehecaaExt
import Derived.Test.YtkcpjnjneehecaaVcWS
import Derived.Test.YtkcpjnjneehecaaVcQu
import Derived.Test.YtkcpjnjneehecaaVcAC
namespace Go.Proofs.Ytkcpjnjneehecaa
open Go Go.Vc
open Try
open Go.Vc.OpJ (assign alloc lss pickT pickF extract lenD indexD loadD eqlI gtr callVal leq geq loadR nilP indexS buildSlice lenS fieldD neqI pickAnd pickOr)
set_option maxHeartbeats 4000000
set_option maxRecDepth 100000
noncomputable section
def exchangepointmill_Deck_Fabric_L0 (r1:Int×exchangepointmill_Deck) (s4:Int×(List Bool)×(List aLink)×exchangepointmill_Deck):Option ((((List Bool)×(List aLink)×exchangepointmill_Deck))⊕(Int×(List Bool)×(List aLink)×exchangepointmill_Deck)) :=
 (if ((decide (0<s4.1))&&(decide (1<(w64 (1+r1.1)))))=true then
 (exchangepointmill_Deck_Next s4.2.2.2 (w64 (1+r1.1))).bind fun r23 =>
 (exchangepointmill_Deck_Next r23.2 (w64 ((w64 (1+r1.1))-1))).bind fun r24 =>
 chk (decide ((w64 (1+r1.1))≠0)) <|
 (exchangepointmill_Deck_Next r24.2 3).bind fun r26 =>
 chk (decide ((s4.2.2.1++[(aLink.mk r23.1 (Int.tmod (w64 ((w64 (r23.1+1))+r24.1)) (w64 (1+r1.1))) (w64 (1+r26.1)))]).length≤LIM)) <|
 (exchangepointmill_Deck_Next r26.2 12).bind fun r28 =>
 chk (decide ((s4.2.1++([(r28.1==0)]:List Bool)).length≤LIM)) <|
 some (.inr ((w64 (s4.1-1)),(s4.2.1++([(r28.1==0)]:List Bool)),(s4.2.2.1++[(aLink.mk r23.1 (Int.tmod (w64 ((w64 (r23.1+1))+r24.1)) (w64 (1+r1.1))) (w64 (1+r26.1)))]),r28.2))
 else
 some (.inl (s4.2.1,s4.2.2.1,s4.2.2.2)))
def exchangepointmill_Deck_Fabric (a0:exchangepointmill_Deck):Option (aFabric×exchangepointmill_Deck) :=
 (exchangepointmill_Deck_Next a0 5).bind fun r1 =>
 chk ((decide (0≤(w64 (1+r1.1)))&&decide ((w64 (1+r1.1))≤(w64 (1+r1.1)))&&decide ((w64 (1+r1.1))≤(LIM:Int)))) <|
 (exchangepointmill_Deck_Next r1.2 8).bind fun r3 =>
 (loop (exchangepointmill_Deck_Fabric_L0 r1) (r3.1,([]:List Bool),([]:List aLink),r3.2)).bind fun p21 =>
 (exchangepointmill_Deck_Next p21.2.2 10).bind fun r32 =>
 jn (fun m37:exchangepointmill_Deck×(List Bool) =>
 some ((aFabric.mk (w64 (1+r1.1)) p21.2.1 p21.1 m37.2),m37.1)) (fun j38 =>
 (if (r32.1==0)=true then
 (exchangepointmill_Deck_Next r32.2 (w64 (1+r1.1))).bind fun r40 =>
 (idx (List.replicate (w64 (1+r1.1)).toNat false) r40.1).bind fun _ =>
 (idx (List.replicate (w64 (1+r1.1)).toNat false) r40.1).bind fun _ =>
 j38 (r40.2,((List.replicate (w64 (1+r1.1)).toNat false).set r40.1.toNat true))
 else
 j38 (r32.2,(List.replicate (w64 (1+r1.1)).toNat false))))
theorem exchangepointmill_Deck_Fabric_ac (a0:exchangepointmill_Deck) (r:aFabric×exchangepointmill_Deck) (h:exchangepointmill_Deck_Fabric a0=some r):AC Try.prog 28 [(pt 0)] [(0,(.box 68 (.d (e_exchangepointmill_Deck a0))))] (.d (e_aFabric r.1)) [(0,bd 68 (e_exchangepointmill_Deck r.2))]:=by
 refine ac2 Try.func28 rfl rfl fun B hB hN L => ?_
 delta exchangepointmill_Deck_Fabric at h
 refine sr (SQ tt) ?_
 apply AWp.seq
 obtain⟨r1,hr1,h⟩:=bindS h
 refine rg (SQ (fa (cl [(0,0)] (exchangepointmill_Deck_Next_ac a0 5 r1 hr1)) tt)) ?_
 apply seqQ_n
 refine AWp.ghost (mp [] [(0,(pt 0)),(2,(pt 1002)),(3,(pt 1003))] [(0,bd 68 (e_exchangepointmill_Deck r1.2)),(1002,some (.box 30 (.st [(i6 0),.nils,.nils,.nils]))),(1003,some (.box 30 (.st [(i6 (w64 (1+r1.1))),.nils,.nils,.nils])))] hB) ?_
 obtain⟨hc2,h⟩:=chk_some h
 refine sr (SQ (fa hc2 tt)) ?_
 apply AWp.seq
 apply AWp.seq
 obtain⟨r3,hr3,h⟩:=bindS h
 refine rg (SQ (fa (cl [(0,0)] (exchangepointmill_Deck_Next_ac r1.2 8 r3 hr3)) tt)) ?_
 apply seqQ_n
 refine AWp.ghost (mp [] [(0,(pt 0)),(2,(pt 1002)),(3,(pt 1003)),(4,(i6 r3.1))] [(0,bd 68 (e_exchangepointmill_Deck r3.2)),(1002,some (.box 30 (.st [(i6 0),.nils,.nils,.nils]))),(1003,some (.box 30 (.st [(i6 (w64 (1+r1.1))),.nils,.nils,(.sref 1013 1 0 ((List.replicate (w64 (1+r1.1)).toNat false).length))]))),(1013,some (.row 4 1 ((List.replicate (w64 (1+r1.1)).toNat false).map eB)))] hB) ?_
 apply AWp.block
 obtain⟨p21,hx31,h⟩:=bindS h
 refine lg (exchangepointmill_Deck_Fabric_L0 r1) (fun s4:Int×(List Bool)×(List aLink)×exchangepointmill_Deck=>([(0,(pt 0)),(2,(pt 1002)),(3,(pt 1003)),(4,(i6 s4.1))]:EL)) (fun s4:Int×(List Bool)×(List aLink)×exchangepointmill_Deck=>([(0,bd 68 (e_exchangepointmill_Deck s4.2.2.2)),(1002,some (.box 30 (.st [(i6 0),.nils,.nils,.nils]))),(1003,some (.box 30 (.st [(i6 (w64 (1+r1.1))),(.sref 13031 3 0 s4.2.2.1.length),(.sref 13032 1 0 s4.2.1.length),(.sref 1013 1 0 ((List.replicate (w64 (1+r1.1)).toNat false).length))]))),(1013,some (.row 4 1 ((List.replicate (w64 (1+r1.1)).toNat false).map eB))),(13031,some (we_aLink_45_3 s4.2.2.1)),(13032,some (.row 4 1 (s4.2.1.map eB)))]:OL)) (fun(p21:((List Bool)×(List aLink)×exchangepointmill_Deck)) e E' O'=>e = .exit 0∧Mat B E' O' ([(0,(pt 0)),(2,(pt 1002)),(3,(pt 1003))]:EL) ([(0,bd 68 (e_exchangepointmill_Deck p21.2.2)),(1002,some (.box 30 (.st [(i6 0),.nils,.nils,.nils]))),(1003,some (.box 30 (.st [(i6 (w64 (1+r1.1))),(.sref 13031 3 0 p21.2.1.length),(.sref 13032 1 0 p21.1.length),(.sref 1013 1 0 ((List.replicate (w64 (1+r1.1)).toNat false).length))]))),(1013,some (.row 4 1 ((List.replicate (w64 (1+r1.1)).toNat false).map eB))),(13031,some (we_aLink_45_3 p21.2.1)),(13032,some (.row 4 1 (p21.1.map eB)))]:OL)) hx31 (Mat.trans (Mat.beginP (n:=13031) (e:=45) (sz:=3) (Ts:=[]) (Bs:=[(1003,some (.box 30 (.st [(i6 (w64 (1+r1.1))),(.sref 13031 3 0 0),.nils,(.sref 1013 1 0 ((List.replicate (w64 (1+r1.1)).toNat false).length))])))]) hB (by decide) (by rfl) (by decide) TwT.nil (TwB.cons (x:=(.st [(i6 (w64 (1+r1.1))),.nils,.nils,(.sref 1013 1 0 ((List.replicate (w64 (1+r1.1)).toNat false).length))])) (by rfl) (Tw.st (TwL.cons (Tw.same _) (TwL.cons (Tw.leaf ⟨rfl,rfl⟩) (TwL.cons (Tw.same _) (TwL.cons (Tw.same _) TwL.nil))))) TwB.nil)) (Mat.trans (Mat.beginP (n:=13032) (e:=4) (sz:=1) (Ts:=[]) (Bs:=[(1003,some (.box 30 (.st [(i6 (w64 (1+r1.1))),(.sref 13031 3 0 0),(.sref 13032 1 0 0),(.sref 1013 1 0 ((List.replicate (w64 (1+r1.1)).toNat false).length))])))]) hB (by decide) (by rfl) (by decide) TwT.nil (TwB.cons (x:=(.st [(i6 (w64 (1+r1.1))),(.sref 13031 3 0 0),.nils,(.sref 1013 1 0 ((List.replicate (w64 (1+r1.1)).toNat false).length))])) (by rfl) (Tw.st (TwL.cons (Tw.same _) (TwL.cons (Tw.same _) (TwL.cons (Tw.leaf ⟨rfl,rfl⟩) (TwL.cons (Tw.same _) TwL.nil))))) TwB.nil)) (mp [] _ _ hB))) (fun s4 y h => ?_) (fun e E' O' hR => ?_)
 ·unfold exchangepointmill_Deck_Fabric_L0 at h
  apply AWp.seq
  refine sr (SQ tt) ?_
  apply AWp.cond rfl<;>intro hg22
  ·have h:=ite_t hg22 h
   apply AWp.skip
   apply seqQ_n
   apply AWp.seq
   apply AWp.block
   apply AWp.seq
   obtain⟨r23,hr23,h⟩:=bindS h
   refine rg (SQ (fa (cl [(0,0)] (exchangepointmill_Deck_Next_ac s4.2.2.2 (w64 (1+r1.1)) r23 hr23)) tt)) ?_
   apply seqQ_n
   refine AWp.ghost (mp [] [(0,(pt 0)),(2,(pt 1002)),(3,(pt 1003)),(4,(i6 s4.1)),(5,(i6 r23.1))] [(0,bd 68 (e_exchangepointmill_Deck r23.2)),(1002,some (.box 30 (.st [(i6 0),.nils,.nils,.nils]))),(1003,some (.box 30 (.st [(i6 (w64 (1+r1.1))),(.sref 13031 3 0 s4.2.2.1.length),(.sref 13032 1 0 s4.2.1.length),(.sref 1013 1 0 ((List.replicate (w64 (1+r1.1)).toNat false).length))]))),(1013,some (.row 4 1 ((List.replicate (w64 (1+r1.1)).toNat false).map eB))),(13031,some (we_aLink_45_3 s4.2.2.1)),(13032,some (.row 4 1 (s4.2.1.map eB)))] hB) ?_
   apply AWp.seq
   obtain⟨r24,hr24,h⟩:=bindS h
   obtain⟨hc25,h⟩:=chk_some h
   refine drS (SQ (fa (cl [(0,0)] (exchangepointmill_Deck_Next_ac r23.2 (w64 ((w64 (1+r1.1))-1)) r24 hr24)) (fa hc25 tt))) ?_
   apply seqQ_n
   refine AWp.ghost (mp [] [(0,(pt 0)),(2,(pt 1002)),(3,(pt 1003)),(4,(i6 s4.1)),(5,(i6 r23.1)),(6,(i6 (Int.tmod (w64 ((w64 (r23.1+1))+r24.1)) (w64 (1+r1.1)))))] [(0,bd 68 (e_exchangepointmill_Deck r24.2)),(1002,some (.box 30 (.st [(i6 0),.nils,.nils,.nils]))),(1003,some (.box 30 (.st [(i6 (w64 (1+r1.1))),(.sref 13031 3 0 s4.2.2.1.length),(.sref 13032 1 0 s4.2.1.length),(.sref 1013 1 0 ((List.replicate (w64 (1+r1.1)).toNat false).length))]))),(1013,some (.row 4 1 ((List.replicate (w64 (1+r1.1)).toNat false).map eB))),(13031,some (we_aLink_45_3 s4.2.2.1)),(13032,some (.row 4 1 (s4.2.1.map eB)))] hB) ?_
   apply AWp.seq
   obtain⟨r26,hr26,h⟩:=bindS h
   obtain⟨hc27,h⟩:=chk_some h
   refine drS (SQ (fa (cl [(0,0)] (exchangepointmill_Deck_Next_ac r24.2 3 r26 hr26)) (fa hc27 tt))) ?_
   apply seqQ_n
   refine AWp.ghost (mp [] [(0,(pt 0)),(2,(pt 1002)),(3,(pt 1003)),(4,(i6 s4.1))] [(0,bd 68 (e_exchangepointmill_Deck r26.2)),(1002,some (.box 30 (.st [(i6 0),.nils,.nils,.nils]))),(1003,some (.box 30 (.st [(i6 (w64 (1+r1.1))),(.sref 1050 3 0 ((s4.2.2.1++[(aLink.mk r23.1 (Int.tmod (w64 ((w64 (r23.1+1))+r24.1)) (w64 (1+r1.1))) (w64 (1+r26.1)))]).length)),(.sref 13032 1 0 s4.2.1.length),(.sref 1013 1 0 ((List.replicate (w64 (1+r1.1)).toNat false).length))]))),(1013,some (.row 4 1 ((List.replicate (w64 (1+r1.1)).toNat false).map eB))),(1050,some (we_aLink_45_3 (s4.2.2.1++[(aLink.mk r23.1 (Int.tmod (w64 ((w64 (r23.1+1))+r24.1)) (w64 (1+r1.1))) (w64 (1+r26.1)))]))),(13032,some (.row 4 1 (s4.2.1.map eB)))] hB) ?_
   obtain⟨r28,hr28,h⟩:=bindS h
   obtain⟨hc29,h⟩:=chk_some h
   refine drS (SQ (fa (cl [(0,0)] (exchangepointmill_Deck_Next_ac r26.2 12 r28 hr28)) (fa hc29 tt))) ?_
   apply blkQ_n
   apply seqQ_n
   refine AWp.ghost (mp [] [(0,(pt 0)),(2,(pt 1002)),(3,(pt 1003)),(4,(i6 s4.1))] [(0,bd 68 (e_exchangepointmill_Deck r28.2)),(1002,some (.box 30 (.st [(i6 0),.nils,.nils,.nils]))),(1003,some (.box 30 (.st [(i6 (w64 (1+r1.1))),(.sref 1050 3 0 ((s4.2.2.1++[(aLink.mk r23.1 (Int.tmod (w64 ((w64 (r23.1+1))+r24.1)) (w64 (1+r1.1))) (w64 (1+r26.1)))]).length)),(.sref 1058 1 0 ((s4.2.1++([(r28.1==0)]:List Bool)).length)),(.sref 1013 1 0 ((List.replicate (w64 (1+r1.1)).toNat false).length))]))),(1013,some (.row 4 1 ((List.replicate (w64 (1+r1.1)).toNat false).map eB))),(1050,some (we_aLink_45_3 (s4.2.2.1++[(aLink.mk r23.1 (Int.tmod (w64 ((w64 (r23.1+1))+r24.1)) (w64 (1+r1.1))) (w64 (1+r26.1)))]))),(1058,some (.row 4 1 ((s4.2.1++([(r28.1==0)]:List Bool)).map eB)))] hB) ?_
   refine rg (SQ tt) ?_
   obtain rfl:=oi h
   exact⟨rfl,(mp [(13031,1050),(13032,1058)] _ _ hB)⟩
  ·have h:=ite_f hg22 h
   apply AWp.exit
   apply seqQ_e
   obtain rfl:=oi h
   exact⟨(fun hc=>by cases hc),rfl,(mp [] _ _ hB)⟩
 ·obtain⟨rfl,hmat⟩:=hR
  apply blkQ_hit
  apply seqQ_n
  refine AWp.ghost hmat ?_
  apply AWp.seq
  apply AWp.seq
  obtain⟨r32,hr32,h⟩:=bindS h
  refine rg (SQ (fa (cl [(0,0)] (exchangepointmill_Deck_Next_ac p21.2.2 10 r32 hr32)) tt)) ?_
  apply seqQ_n
  refine AWp.ghost (mp [] [(0,(pt 0)),(2,(pt 1002)),(3,(pt 1003)),(62,(bo (r32.1==0)))] [(0,bd 68 (e_exchangepointmill_Deck r32.2)),(1002,some (.box 30 (.st [(i6 0),.nils,.nils,.nils]))),(1003,some (.box 30 (.st [(i6 (w64 (1+r1.1))),(.sref 13031 3 0 p21.2.1.length),(.sref 13032 1 0 p21.1.length),(.sref 1013 1 0 ((List.replicate (w64 (1+r1.1)).toNat false).length))]))),(1013,some (.row 4 1 ((List.replicate (w64 (1+r1.1)).toNat false).map eB))),(13031,some (we_aLink_45_3 p21.2.1)),(13032,some (.row 4 1 (p21.1.map eB)))] hB) ?_
  refine AWp.cut h (fun m37:exchangepointmill_Deck×(List Bool)=>([(2,(pt 1002)),(3,(pt 1003))]:EL)) (fun m37:exchangepointmill_Deck×(List Bool)=>([(0,bd 68 (e_exchangepointmill_Deck m37.1)),(1002,some (.box 30 (.st [(i6 0),.nils,.nils,.nils]))),(1003,some (.box 30 (.st [(i6 (w64 (1+r1.1))),(.sref 13031 3 0 p21.2.1.length),(.sref 13032 1 0 p21.1.length),(.sref 1013 1 0 m37.2.length)]))),(1013,some (.row 4 1 (m37.2.map eB))),(13031,some (we_aLink_45_3 p21.2.1)),(13032,some (.row 4 1 (p21.1.map eB)))]:OL)) (fun m37 h E' O' hmat => ?_) (fun j38 hjj38 h => ?_)
  ·apply seqQ_n
   refine AWp.ghost hmat ?_
   refine sr (SQ tt) ?_
   apply AWp.ret
   obtain rfl:=oi h
   exact rt (Mat.trans (Mat.freezeP (n:=13031) (e:=45) (sz:=3) (es:=p21.2.1.map e_aLink) (Ts:=[]) (Bs:=[(1002,some (.box 30 (.st [(i6 (w64 (1+r1.1))),(qe_aLink_3 p21.2.1),(.sref 13032 1 0 p21.1.length),(.sref 1013 1 0 m37.2.length)])))]) (by rfl) TwT.nil (TwB.cons (x:=(.st [(i6 (w64 (1+r1.1))),(.sref 13031 3 0 p21.2.1.length),(.sref 13032 1 0 p21.1.length),(.sref 1013 1 0 m37.2.length)])) (by rfl) (Tw.st (TwL.cons (Tw.same _) (TwL.cons (FrzL.all (by first | rfl | (simp;done) | (simp;omega) | omega)) (TwL.cons (Tw.same _) (TwL.cons (Tw.same _) TwL.nil))))) TwB.nil)) (Mat.trans (Mat.freezeP (n:=13032) (e:=4) (sz:=1) (es:=p21.1.map eB) (Ts:=[]) (Bs:=[(1002,some (.box 30 (.st [(i6 (w64 (1+r1.1))),(qe_aLink_3 p21.2.1),(.d (.list 1 (p21.1.map eB))),(.sref 1013 1 0 m37.2.length)])))]) (by rfl) TwT.nil (TwB.cons (x:=(.st [(i6 (w64 (1+r1.1))),(qe_aLink_3 p21.2.1),(.sref 13032 1 0 p21.1.length),(.sref 1013 1 0 m37.2.length)])) (by rfl) (Tw.st (TwL.cons (Tw.same _) (TwL.cons (Tw.same _) (TwL.cons (FrzL.all (by first | rfl | (simp;done) | (simp;omega) | omega)) (TwL.cons (Tw.same _) TwL.nil))))) TwB.nil)) (Mat.trans (Mat.freezeP (n:=1013) (e:=4) (sz:=1) (es:=m37.2.map eB) (Ts:=[]) (Bs:=[(1002,some (.box 30 (.st [(i6 (w64 (1+r1.1))),(qe_aLink_3 p21.2.1),(.d (.list 1 (p21.1.map eB))),(.d (.list 1 (m37.2.map eB)))])))]) (by rfl) TwT.nil (TwB.cons (x:=(.st [(i6 (w64 (1+r1.1))),(qe_aLink_3 p21.2.1),(.d (.list 1 (p21.1.map eB))),(.sref 1013 1 0 m37.2.length)])) (by rfl) (Tw.st (TwL.cons (Tw.same _) (TwL.cons (Tw.same _) (TwL.cons (Tw.same _) (TwL.cons (FrzL.all (by first | rfl | (simp;done) | (simp;omega) | omega)) TwL.nil))))) TwB.nil)) (Mat.trans (Mat.coeP (Ts:=[]) (Bs:=[(1002,some (.box 30 (.d (.st [(.int .i64 (w64 (1+r1.1))),(.list 3 (p21.2.1.map e_aLink)),(.list 1 (p21.1.map eB)),(.list 1 (m37.2.map eB))]))))]) TwT.nil (TwB.cons (x:=(.st [(i6 (w64 (1+r1.1))),(qe_aLink_3 p21.2.1),(.d (.list 1 (p21.1.map eB))),(.d (.list 1 (m37.2.map eB)))])) (by rfl) (Tw.leaf ⟨_,(Co.st (CoL.cons (Co.d _) (CoL.cons (Co.d _) (CoL.cons (Co.d _) (CoL.cons (Co.d _) CoL.nil))))),rfl⟩) TwB.nil)) (mp [] [(2,(pt 1002))] [(0,bd 68 (e_exchangepointmill_Deck m37.1)),(1002,some (.box 30 (.d (.st [(.int .i64 (w64 (1+r1.1))),(.list 3 (p21.2.1.map e_aLink)),(.list 1 (p21.1.map eB)),(.list 1 (m37.2.map eB))]))))] hB))))) [(.d (.st [(.int .i64 (w64 (1+r1.1))),(.list 3 (p21.2.1.map e_aLink)),(.list 1 (p21.1.map eB)),(.list 1 (m37.2.map eB))]))] (Res.cell (c:=(.d (.st [(.int .i64 (w64 (1+r1.1))),(.list 3 (p21.2.1.map e_aLink)),(.list 1 (p21.1.map eB)),(.list 1 (m37.2.map eB))]))) (by rfl) (by rfl) tyS30 (by rfl) (by rfl) (by rfl) Res.nil) rfl
  ·apply AWp.cond rfl<;>intro hg39
   ·have h:=ite_t hg39 h
    obtain⟨r40,hr40,h⟩:=bindS h
    obtain⟨_,hx41,h⟩:=bindS h
    obtain⟨_,hx42,h⟩:=bindS h
    refine drS (SQ (fa (cl [(0,0)] (exchangepointmill_Deck_Next_ac r32.2 (w64 (1+r1.1)) r40 hr40)) (fa hx41 (fa hx42 (fa (sv true) tt))))) ?_
    exact hjj38 _ h _ _ (Mat.trans (mp [] [(2,(pt 1002)),(3,(pt 1003))] [(0,bd 68 (e_exchangepointmill_Deck r40.2)),(1002,some (.box 30 (.st [(i6 0),.nils,.nils,.nils]))),(1003,some (.box 30 (.st [(i6 (w64 (1+r1.1))),(.sref 13031 3 0 p21.2.1.length),(.sref 13032 1 0 p21.1.length),(.sref 1013 1 0 ((List.replicate (w64 (1+r1.1)).toNat false).length))]))),(1013,some (.row 4 1 (((List.replicate (w64 (1+r1.1)).toNat false).set r40.1.toNat true).map eB))),(13031,some (we_aLink_45_3 p21.2.1)),(13032,some (.row 4 1 (p21.1.map eB)))] hB) (Mat.trans (Mat.lenP (Ts:=[]) (Bs:=[(1003,some (.box 30 (.st [(i6 (w64 (1+r1.1))),(.sref 13031 3 0 p21.2.1.length),(.sref 13032 1 0 p21.1.length),(.sref 1013 1 0 (((List.replicate (w64 (1+r1.1)).toNat false).set r40.1.toNat true).length))])))]) TwT.nil (TwB.cons (x:=(.st [(i6 (w64 (1+r1.1))),(.sref 13031 3 0 p21.2.1.length),(.sref 13032 1 0 p21.1.length),(.sref 1013 1 0 ((List.replicate (w64 (1+r1.1)).toNat false).length))])) (by rfl) (Tw.st (TwL.cons (Tw.same _) (TwL.cons (Tw.same _) (TwL.cons (Tw.same _) (TwL.cons (Tw.leaf ⟨_,_,_,_,_,rfl,rfl,(by first | rfl | (simp;done) | (simp;omega) | omega)⟩) TwL.nil))))) TwB.nil)) (mp [] _ _ hB)))
   ·have h:=ite_f hg39 h
    apply AWp.skip
    exact hjj38 _ h _ _ (mp [] _ _ hB)
def exchangepointmill_Deck_Loads_L0 (a1:aFabric) (s2:Int×(List aLoad)×exchangepointmill_Deck):Option (((exchangepointmill_Deck×(List aLoad)))⊕(Int×(List aLoad)×exchangepointmill_Deck)) :=
 (if (decide (0<s2.1))=true then
 (exchangepointmill_Deck_Next s2.2.2 a1.fSwitches).bind fun r15 =>
 (exchangepointmill_Deck_Next r15.2 a1.fSwitches).bind fun r16 =>
 (exchangepointmill_Deck_Next r16.2 2500).bind fun r17 =>
 chk (decide ((s2.2.1++[(aLoad.mk r15.1 r16.1 r17.1)]).length≤LIM)) <|
 some (.inr ((w64 (s2.1-1)),(s2.2.1++[(aLoad.mk r15.1 r16.1 r17.1)]),r17.2))
 else
 some (.inl (s2.2.2,s2.2.1)))
def exchangepointmill_Deck_Loads (a0:exchangepointmill_Deck) (a1:aFabric):Option ((List aLoad)×exchangepointmill_Deck) :=
 (exchangepointmill_Deck_Next a0 7).bind fun r1 =>
 (loop (exchangepointmill_Deck_Loads_L0 a1) (r1.1,([]:List aLoad),r1.2)).bind fun p13 =>
 some (p13.2,p13.1)
theorem exchangepointmill_Deck_Loads_ac (a0:exchangepointmill_Deck) (a1:aFabric) (r:(List aLoad)×exchangepointmill_Deck) (h:exchangepointmill_Deck_Loads a0 a1=some r):AC Try.prog 29 [(pt 0),(.d (e_aFabric a1))] [(0,(.box 68 (.d (e_exchangepointmill_Deck a0))))] (.d (.list 3 (r.1.map e_aLoad))) [(0,bd 68 (e_exchangepointmill_Deck r.2))]:=by
 refine ac2 Try.func29 rfl rfl fun B hB hN L => ?_
 delta exchangepointmill_Deck_Loads at h
 refine sr (SQ tt) ?_
 refine sr (SQ tt) ?_
 apply AWp.seq
 apply AWp.seq
 obtain⟨r1,hr1,h⟩:=bindS h
 refine rg (SQ (fa (cl [(0,0)] (exchangepointmill_Deck_Next_ac a0 7 r1 hr1)) tt)) ?_
 apply seqQ_n
 refine AWp.ghost (mp [] [(0,(pt 0)),(3,(pt 1003)),(5,.nils),(6,(i6 r1.1))] [(0,bd 68 (e_exchangepointmill_Deck r1.2)),(1003,bd 30 (e_aFabric a1))] hB) ?_
 apply AWp.block
 obtain⟨p13,hx20,h⟩:=bindS h
 refine lg (exchangepointmill_Deck_Loads_L0 a1) (fun s2:Int×(List aLoad)×exchangepointmill_Deck=>([(0,(pt 0)),(3,(pt 1003)),(5,(.sref 3005 3 0 s2.2.1.length)),(6,(i6 s2.1))]:EL)) (fun s2:Int×(List aLoad)×exchangepointmill_Deck=>([(0,bd 68 (e_exchangepointmill_Deck s2.2.2)),(1003,bd 30 (e_aFabric a1)),(3005,some (we_aLoad_59_3 s2.2.1))]:OL)) (fun(p13:(exchangepointmill_Deck×(List aLoad))) e E' O'=>e = .exit 0∧Mat B E' O' ([(5,(.sref 3005 3 0 p13.2.length))]:EL) ([(0,bd 68 (e_exchangepointmill_Deck p13.1)),(3005,some (we_aLoad_59_3 p13.2))]:OL)) hx20 (Mat.trans (Mat.beginP (n:=3005) (e:=59) (sz:=3) (Ts:=[(5,(.sref 3005 3 0 0))]) (Bs:=[]) hB (by decide) (by rfl) (by decide) (TwT.cons (x:=.nils) (by rfl) (Tw.leaf ⟨rfl,rfl⟩) TwT.nil) TwB.nil) (mp [] _ _ hB)) (fun s2 y h => ?_) (fun e E' O' hR => ?_)
 ·unfold exchangepointmill_Deck_Loads_L0 at h
  apply AWp.seq
  refine sr (SQ tt) ?_
  apply AWp.cond rfl<;>intro hg14
  ·have h:=ite_t hg14 h
   apply AWp.skip
   apply seqQ_n
   apply AWp.seq
   apply AWp.block
   obtain⟨r15,hr15,h⟩:=bindS h
   obtain⟨r16,hr16,h⟩:=bindS h
   obtain⟨r17,hr17,h⟩:=bindS h
   obtain⟨hc18,h⟩:=chk_some h
   refine drS (SQ (fa (cl [(0,0)] (exchangepointmill_Deck_Next_ac s2.2.2 a1.fSwitches r15 hr15)) (fa (cl [(0,0)] (exchangepointmill_Deck_Next_ac r15.2 a1.fSwitches r16 hr16)) (fa (cl [(0,0)] (exchangepointmill_Deck_Next_ac r16.2 2500 r17 hr17)) (fa hc18 tt))))) ?_
   apply blkQ_n
   apply seqQ_n
   refine AWp.ghost (mp [] [(0,(pt 0)),(3,(pt 1003)),(5,(.sref 1026 3 0 ((s2.2.1++[(aLoad.mk r15.1 r16.1 r17.1)]).length))),(6,(i6 s2.1))] [(0,bd 68 (e_exchangepointmill_Deck r17.2)),(1003,bd 30 (e_aFabric a1)),(1026,some (we_aLoad_59_3 (s2.2.1++[(aLoad.mk r15.1 r16.1 r17.1)])))] hB) ?_
   refine rg (SQ tt) ?_
   obtain rfl:=oi h
   exact⟨rfl,(mp [(3005,1026)] _ _ hB)⟩
  ·have h:=ite_f hg14 h
   apply AWp.exit
   apply seqQ_e
   obtain rfl:=oi h
   exact⟨(fun hc=>by cases hc),rfl,(mp [] _ _ hB)⟩
 ·obtain⟨rfl,hmat⟩:=hR
  apply blkQ_hit
  apply seqQ_n
  refine AWp.ghost hmat ?_
  refine sr (SQ tt) ?_
  apply AWp.ret
  obtain rfl:=oi h
  exact rt (Mat.trans (Mat.freezeP (n:=3005) (e:=59) (sz:=3) (es:=p13.2.map e_aLoad) (Ts:=[(4,(qe_aLoad_3 p13.2))]) (Bs:=[]) (by rfl) (TwT.cons (x:=(.sref 3005 3 0 p13.2.length)) (by rfl) (FrzL.all (by first | rfl | (simp;done) | (simp;omega) | omega)) TwT.nil) TwB.nil) (mp [] [(4,(qe_aLoad_3 p13.2))] [(0,bd 68 (e_exchangepointmill_Deck p13.1))] hB)) [(qe_aLoad_3 p13.2)] (Res.tmp (by rfl) (by rfl) Res.nil) rfl
def exchangepointmill_Deck_Order_L0 (a1:Int) (s1:Int×(List Int)×exchangepointmill_Deck):Option (((exchangepointmill_Deck×(List Int)))⊕(Int×(List Int)×exchangepointmill_Deck)) :=
 (if (decide (s1.1<a1))=true then
 (exchangepointmill_Deck_Next s1.2.2 (w64 ((s1.2.1.length:Int)+1))).bind fun r23 =>
 chk ((decide (0≤r23.1)&&decide (r23.1.toNat≤s1.2.1.length)&&decide (s1.2.1.length≤s1.2.1.length))) <|
 chk (decide (r23.1.toNat+(s1.2.1.length-r23.1.toNat)≤s1.2.1.length)) <|
 chk (decide (((s1.2.1.drop r23.1.toNat).take (s1.2.1.length-r23.1.toNat)).length≤LIM)) <|
 chk ((decide (0≤r23.1)&&decide (0≤r23.1.toNat)&&decide (r23.1.toNat≤s1.2.1.length))) <|
 chk (decide (((s1.2.1.take r23.1.toNat)++([s1.1]:List Int)).length≤LIM)) <|
 chk (decide ((((s1.2.1.take r23.1.toNat)++([s1.1]:List Int))++((s1.2.1.drop r23.1.toNat).take (s1.2.1.length-r23.1.toNat))).length≤LIM)) <|
 some (.inr ((w64 (s1.1+1)),(((s1.2.1.take r23.1.toNat)++([s1.1]:List Int))++((s1.2.1.drop r23.1.toNat).take (s1.2.1.length-r23.1.toNat))),r23.2))
 else
 some (.inl (s1.2.2,s1.2.1)))
def exchangepointmill_Deck_Order (a0:exchangepointmill_Deck) (a1:Int):Option ((List Int)×exchangepointmill_Deck) :=
 (loop (exchangepointmill_Deck_Order_L0 a1) (0,([]:List Int),a0)).bind fun p21 =>
 some (p21.2,p21.1)
theorem exchangepointmill_Deck_Order_ac (a0:exchangepointmill_Deck) (a1:Int) (r:(List Int)×exchangepointmill_Deck) (h:exchangepointmill_Deck_Order a0 a1=some r):AC Try.prog 30 [(pt 0),(.d (.int .i64 a1))] [(0,(.box 68 (.d (e_exchangepointmill_Deck a0))))] (.d (.list 1 (r.1.map (eI .i64)))) [(0,bd 68 (e_exchangepointmill_Deck r.2))]:=by
 refine ac2 Try.func30 rfl rfl fun B hB hN L => ?_
 delta exchangepointmill_Deck_Order at h
 refine sr (SQ tt) ?_
 refine sr (SQ tt) ?_
 apply AWp.seq
 refine sr (SQ tt) ?_
 apply AWp.block
 obtain⟨p21,hx33,h⟩:=bindS h
 refine lg (exchangepointmill_Deck_Order_L0 a1) (fun s1:Int×(List Int)×exchangepointmill_Deck=>([(0,(pt 0)),(1,(i6 a1)),(5,(.sref 3005 1 0 s1.2.1.length)),(6,(i6 s1.1))]:EL)) (fun s1:Int×(List Int)×exchangepointmill_Deck=>([(0,bd 68 (e_exchangepointmill_Deck s1.2.2)),(3005,some (wI_3_1 s1.2.1))]:OL)) (fun(p21:(exchangepointmill_Deck×(List Int))) e E' O'=>e = .exit 0∧Mat B E' O' ([(5,(.sref 3005 1 0 p21.2.length))]:EL) ([(0,bd 68 (e_exchangepointmill_Deck p21.1)),(3005,some (wI_3_1 p21.2))]:OL)) hx33 (Mat.trans (Mat.beginP (n:=3005) (e:=3) (sz:=1) (Ts:=[(5,(.sref 3005 1 0 0))]) (Bs:=[]) hB (by decide) (by rfl) (by decide) (TwT.cons (x:=.nils) (by rfl) (Tw.leaf ⟨rfl,rfl⟩) TwT.nil) TwB.nil) (mp [] _ _ hB)) (fun s1 y h => ?_) (fun e E' O' hR => ?_)
 ·unfold exchangepointmill_Deck_Order_L0 at h
  apply AWp.seq
  refine sr (SQ tt) ?_
  apply AWp.cond rfl<;>intro hg22
  ·have h:=ite_t hg22 h
   apply AWp.skip
   apply seqQ_n
   apply AWp.seq
   apply AWp.block
   apply AWp.seq
   obtain⟨r23,hr23,h⟩:=bindS h
   refine rg (SQ (fa (cl [(0,0)] (exchangepointmill_Deck_Next_ac s1.2.2 (w64 ((s1.2.1.length:Int)+1)) r23 hr23)) tt)) ?_
   apply seqQ_n
   refine AWp.ghost (mp [] [(0,(pt 0)),(1,(i6 a1)),(5,(.sref 3005 1 0 s1.2.1.length)),(6,(i6 s1.1)),(7,(i6 r23.1))] [(0,bd 68 (e_exchangepointmill_Deck r23.2)),(3005,some (wI_3_1 s1.2.1))] hB) ?_
   obtain⟨hc24,h⟩:=chk_some h
   obtain⟨hc25,h⟩:=chk_some h
   obtain⟨hc26,h⟩:=chk_some h
   apply sr (c (mv hN (q 5)) rfl (c (mv hN (q 7)) rfl (c (OpJ.cutS underlying23 tyS3 (l:=r23.1.toNat) (h:=s1.2.1.length) (off':=r23.1.toNat) (len':=(s1.2.1.length-r23.1.toNat)) (.inr ⟨_,_,_,rfl,(ot 20 (i6 r23.1)),(of_decide_eq_true (and_l2 (and_l2 hc24))),rfl⟩) (.inl ⟨rfl,rfl,rfl⟩) (of_decide_eq_true (and_r2 (and_l2 hc24))) (of_decide_eq_true (and_r2 hc24)) (by simp) (by simp) (L rfl) (q 19)) rfl (cg (OpJ.appendNS hB underlying23 tyE3 (nm:=1022) (by decide) (es:=s1.2.1.map (eI .i64)) (ys:=((s1.2.1.drop r23.1.toNat).take (s1.2.1.length-r23.1.toNat)).map (eI .i64)) (by rw [List.length_map];exact of_decide_eq_true hc25) (by first | rw [List.map_drop,List.map_take] | (simp [List.map_take,List.map_drop];done) | simp [List.take_of_length_le]) (len:=((s1.2.1.drop r23.1.toNat).take (s1.2.1.length-r23.1.toNat)).length) (by simp) (map_sz (f:=(eI .i64)) (fun _=>rfl)) (by rw [List.length_map];exact lim_mulN hc26 (by decide)) (by rw [List.length_map];exact lim_leN hc26) (L rfl) Opd.nils (q 21)) rfl (c (assign (L rfl) (q 22)) rfl cn)))))
   refine gh [(0,_),(1,_),(5,_),(6,_),(7,_),(8,_)] [(0,some _),(1022,some _),(3005,some _)] hB rfl rfl (by rfl) ?_
   refine AWp.ghost (Mat.freezeP (n:=1022) (e:=3) (sz:=1) (es:=((s1.2.1.drop r23.1.toNat).take (s1.2.1.length-r23.1.toNat)).map (eI .i64)) (Ts:=[(8,(qI_1 ((s1.2.1.drop r23.1.toNat).take (s1.2.1.length-r23.1.toNat))))]) (Bs:=[]) (by rfl) (TwT.cons (x:=(.sref 1022 1 0 (((s1.2.1.drop r23.1.toNat).take (s1.2.1.length-r23.1.toNat)).length))) (by rfl) (FrzL.all (by first | rfl | (simp;done) | (simp;omega) | omega)) TwT.nil) TwB.nil) ?_
   obtain⟨hc29,h⟩:=chk_some h
   obtain⟨hc30,h⟩:=chk_some h
   obtain⟨hc31,h⟩:=chk_some h
   apply rg (c (mv hN (q 5)) rfl (c (mv hN (q 7)) rfl (cg (OpJ.val (v':=(.sref 3005 1 0 ((s1.2.1.take r23.1.toNat).length))) (by rw [List.length_take,Nat.min_eq_left (of_decide_eq_true (and_r2 hc29))]) (OpJ.shrS (OpJ.cutS underlying23 tyS3 (l:=0) (h:=r23.1.toNat) (off':=0) (len':=r23.1.toNat) (.inl ⟨rfl,rfl,rfl⟩) (.inr ⟨_,_,_,rfl,(ot 24 (i6 r23.1)),(of_decide_eq_true (and_l2 (and_l2 hc29))),rfl⟩) (of_decide_eq_true (and_r2 (and_l2 hc29))) (of_decide_eq_true (and_r2 hc29)) (by simp) (by simp) (L rfl) (q 23)) (es':=(s1.2.1.take r23.1.toNat).map (eI .i64)) (by rw [List.length_map];exact(of_decide_eq_true (and_r2 hc29))) (by rw [List.map_take]))) rfl (c (mv hN (q 6)) rfl (c (buildSlice underlying23 tyS3 tyZD3 (by rfl) (by decide) (by decide) (Opds.cons (q 26) Opds.nil) (by kernel_rfl) (es:=([(.int .i64 s1.1)]:List D)) (by rfl) (by rfl) (by kernel_rfl) (by simp) (L rfl)) rfl (cg (apd hB underlying23 tyE3 1028 (eI .i64) (s1.2.1.take r23.1.toNat) ([s1.1]:List Int) hc30 (L rfl) (q 25) (q 27)) rfl (c (mv hN (q 8)) rfl (cg (apd hB underlying23 tyE3 1030 (eI .i64) ((s1.2.1.take r23.1.toNat)++([s1.1]:List Int)) ((s1.2.1.drop r23.1.toNat).take (s1.2.1.length-r23.1.toNat)) hc31 (L rfl) (q 28) (q 29)) rfl (c (assign (L rfl) (q 30)) rfl cn)))))))))
   apply blkQ_n
   apply seqQ_n
   refine rg (SQ tt) ?_
   obtain rfl:=oi h
   exact⟨rfl,(mp [(3005,1030)] _ _ hB)⟩
  ·have h:=ite_f hg22 h
   apply AWp.exit
   apply seqQ_e
   obtain rfl:=oi h
   exact⟨(fun hc=>by cases hc),rfl,(mp [] _ _ hB)⟩
 ·obtain⟨rfl,hmat⟩:=hR
  apply blkQ_hit
  apply seqQ_n
  refine AWp.ghost hmat ?_
  refine sr (SQ tt) ?_
  apply AWp.ret
  obtain rfl:=oi h
  exact rt (Mat.trans (Mat.freezeP (n:=3005) (e:=3) (sz:=1) (es:=p21.2.map (eI .i64)) (Ts:=[(4,(qI_1 p21.2))]) (Bs:=[]) (by rfl) (TwT.cons (x:=(.sref 3005 1 0 p21.2.length)) (by rfl) (FrzL.all (by first | rfl | (simp;done) | (simp;omega) | omega)) TwT.nil) TwB.nil) (mp [] [(4,(qI_1 p21.2))] [(0,bd 68 (e_exchangepointmill_Deck p21.1))] hB)) [(qI_1 p21.2)] (Res.tmp (by rfl) (by rfl) Res.nil) rfl
def xlaw43_scene (a0:exchangepointmill_Deck):Option (aFabric×(List aLoad)×(List Int)×exchangepointmill_Deck) :=
 (exchangepointmill_Deck_Fabric a0).bind fun r1 =>
 jn (fun m5:aFabric =>
 (exchangepointmill_Deck_Loads r1.2 m5).bind fun r7 =>
 (exchangepointmill_Deck_Order r7.2 (r7.1.length:Int)).bind fun r8 =>
 some (m5,r7.1,r8.1,r8.2)) (fun j6 =>
 (if (decide (9<(w64 ((r1.1.fLinks.length:Int)+r1.1.fSwitches))))=true then
 chk ((decide (0≤(w64 (9-r1.1.fSwitches)))&&decide (0≤(w64 (9-r1.1.fSwitches)).toNat)&&decide ((w64 (9-r1.1.fSwitches)).toNat≤r1.1.fLinks.length))) <|
 chk ((decide (0≤(w64 (9-r1.1.fSwitches)))&&decide (0≤(w64 (9-r1.1.fSwitches)).toNat)&&decide ((w64 (9-r1.1.fSwitches)).toNat≤r1.1.fDown.length))) <|
 j6 (aFabric.mk r1.1.fSwitches ((r1.1.fLinks.take ((w64 (9-r1.1.fSwitches)).toNat)).drop 0) ((r1.1.fDown.take ((w64 (9-r1.1.fSwitches)).toNat)).drop 0) r1.1.fDead)
 else
 j6 r1.1))
theorem xlaw43_scene_ac (a0:exchangepointmill_Deck) (r:aFabric×(List aLoad)×(List Int)×exchangepointmill_Deck) (h:xlaw43_scene a0=some r):AC Try.prog 9 [(pt 0)] [(0,(.box 68 (.d (e_exchangepointmill_Deck a0))))] (.tup [(.d (e_aFabric r.1)),(.d (.list 3 (r.2.1.map e_aLoad))),(.d (.list 1 (r.2.2.1.map (eI .i64))))]) [(0,bd 68 (e_exchangepointmill_Deck r.2.2.2))]:=by
 refine ac2 Try.func9 rfl rfl fun B hB hN L => ?_
 delta xlaw43_scene at h
 refine sr (SQ tt) ?_
 apply AWp.seq
 obtain⟨r1,hr1,h⟩:=bindS h
 refine rg (SQ (fa (cl [(0,0)] (exchangepointmill_Deck_Fabric_ac a0 r1 hr1)) tt)) ?_
 apply seqQ_n
 refine AWp.ghost (mp [] [(0,(pt 0)),(2,(pt 1002)),(5,(pt 1005))] [(0,bd 68 (e_exchangepointmill_Deck r1.2)),(1002,some (.box 30 (.st [(i6 0),.nils,.nils,.nils]))),(1005,bd 30 (e_aFabric r1.1))] hB) ?_
 apply AWp.seq
 refine sr (SQ tt) ?_
 refine gh [(0,_),(2,_),(5,_),(16,_)] [(0,some _),(1002,some _),(1005,some _)] hB rfl rfl (by rfl) ?_
 refine AWp.cut h (fun m5:aFabric=>([(0,(pt 0)),(2,(pt 1002)),(5,(pt 1005))]:EL)) (fun m5:aFabric=>([(0,bd 68 (e_exchangepointmill_Deck r1.2)),(1002,some (.box 30 (.st [(i6 0),.nils,.nils,.nils]))),(1005,bd 30 (e_aFabric m5))]:OL)) (fun m5 h E' O' hmat => ?_) (fun j6 hjj6 h => ?_)
 ·apply seqQ_n
  refine AWp.ghost hmat ?_
  apply AWp.seq
  obtain⟨r7,hr7,h⟩:=bindS h
  refine rg (SQ (fa (cl [(0,0)] (exchangepointmill_Deck_Loads_ac r1.2 m5 r7 hr7)) tt)) ?_
  apply seqQ_n
  refine AWp.ghost (mp [] [(0,(pt 0)),(2,(pt 1002)),(5,(pt 1005)),(7,(qe_aLoad_3 r7.1))] [(0,bd 68 (e_exchangepointmill_Deck r7.2)),(1002,some (.box 30 (.st [(i6 0),.nils,.nils,.nils]))),(1005,bd 30 (e_aFabric m5))] hB) ?_
  apply AWp.seq
  obtain⟨r8,hr8,h⟩:=bindS h
  refine drS (SQ (fa (cl [(0,0)] (exchangepointmill_Deck_Order_ac r7.2 (r7.1.length:Int) r8 hr8)) tt)) ?_
  apply seqQ_n
  refine AWp.ghost (mp [] [(2,(pt 1002)),(3,(qe_aLoad_3 r7.1)),(4,(qI_1 r8.1))] [(0,bd 68 (e_exchangepointmill_Deck r8.2)),(1002,bd 30 (e_aFabric m5))] hB) ?_
  apply AWp.ret
  obtain rfl:=oi h
  exact rt (kp [(2,_),(3,_),(4,_)] [(0,some _),(1002,some _)] hB rfl rfl (by rfl)) [(.d (e_aFabric m5)),(qe_aLoad_3 r7.1),(qI_1 r8.1)] (Res.cell (c:=(.d (e_aFabric m5))) (by rfl) (by rfl) tyS30 (by rfl) (by rfl) (by rfl) (Res.tmp (by rfl) (by rfl) (Res.tmp (by rfl) (by rfl) Res.nil))) rfl
 ·apply AWp.cond rfl<;>intro hg9
  ·have h:=ite_t hg9 h
   refine sr (SQ tt) ?_
   obtain⟨hc10,h⟩:=chk_some h
   obtain⟨hc11,h⟩:=chk_some h
   apply dr (c (fo 1005 1 [1] hN underlying30 1 tyS27 (q 5)) rfl (c (la hN 30 tyS27 (q 20)) rfl (c (mv hN (q 6)) rfl (c (OpJ.cutD underlying27 tyS45 (es':=((r1.1.fLinks.take ((w64 (9-r1.1.fSwitches)).toNat)).drop 0).map e_aLink) (l:=0) (h:=(w64 (9-r1.1.fSwitches)).toNat) (.inl ⟨rfl,rfl,rfl⟩) (.inr ⟨_,_,_,rfl,(ot 22 (i6 (w64 (9-r1.1.fSwitches)))),(of_decide_eq_true (and_l2 (and_l2 hc10))),rfl⟩) (of_decide_eq_true (and_r2 (and_l2 hc10))) (by first | (simp;done) | simpa using (of_decide_eq_true (and_r2 hc10))) (by first | rw [List.map_drop,List.map_take] | (simp [List.map_take,List.map_drop];done) | simp [List.take_of_length_le]) (L rfl) (q 21)) rfl (c (fo 1005 2 [2] hN underlying30 2 tyS28 (q 5)) rfl (c (la hN 30 tyS28 (q 24)) rfl (c (mv hN (q 6)) rfl (c (OpJ.cutD underlying28 tyS4 (es':=((r1.1.fDown.take ((w64 (9-r1.1.fSwitches)).toNat)).drop 0).map eB) (l:=0) (h:=(w64 (9-r1.1.fSwitches)).toNat) (.inl ⟨rfl,rfl,rfl⟩) (.inr ⟨_,_,_,rfl,(ot 26 (i6 (w64 (9-r1.1.fSwitches)))),(of_decide_eq_true (and_l2 (and_l2 hc11))),rfl⟩) (of_decide_eq_true (and_r2 (and_l2 hc11))) (by first | (simp;done) | simpa using (of_decide_eq_true (and_r2 hc11))) (by first | rw [List.map_drop,List.map_take] | (simp [List.map_take,List.map_drop];done) | simp [List.take_of_length_le]) (L rfl) (q 25)) rfl (c (fo 1005 1 [1] hN underlying30 1 tyS27 (q 5)) rfl (cg (OpJ.storeB tyS27 (SetAt.dst1 (by rfl) (by rfl) (SetAt.here _ _) (by rfl) (by rfl) (by first | rfl | omega)) (by rfl) (by rfl) (by simp) rfl (q 28) (q 23)) rfl (c (fo 1005 2 [2] hN underlying30 2 tyS28 (q 5)) rfl (cg (OpJ.storeB tyS28 (SetAt.dst1 (by rfl) (by rfl) (SetAt.here _ _) (by rfl) (by rfl) (by first | rfl | omega)) (by rfl) (by rfl) (by simp) rfl (q 29) (q 27)) rfl cn)))))))))))) (by kernel_rfl) (by kernel_rfl)
   exact hjj6 _ h _ _ (mp [] _ _ hB)
  ·have h:=ite_f hg9 h
   apply AWp.skip
   exact hjj6 _ h _ _ (mp [] _ _ hB)
def xref13_Valid_L0 (a0:aFabric) (s2:Int):Option (((Unit)⊕(Unit))⊕(Int)) :=
 (if (decide (s2<(a0.fLinks.length:Int)))=true then
 (idx a0.fLinks s2).bind fun x12 =>
 (if (((((((x12.fA==x12.fB) || (decide (x12.fA<0))) || (decide (a0.fSwitches≤x12.fA))) || (decide (x12.fB<0))) || (decide (a0.fSwitches≤x12.fB))) || (decide (x12.fCapacity<1))) || (decide (1048576<x12.fCapacity)))=true then
 some (.inl (.inl ()))
 else
 some (.inr (w64 (s2+1))))
 else
 some (.inl (.inr ())))
def xref13_Valid (a0:aFabric):Option (Bool) :=
 (if (((((decide (a0.fSwitches<1)) || (decide (8<a0.fSwitches))) || (decide (24<(a0.fLinks.length:Int)))) || ((a0.fDown.length:Int) != (a0.fLinks.length:Int))) || ((a0.fDead.length:Int) != a0.fSwitches))=true then
 some false
 else
 (loop (xref13_Valid_L0 a0) 0).bind fun x14=>match x14 with
 | (.inl _) =>
  some false
 | (.inr _) =>
  some true)
theorem xref13_Valid_ac (a0:aFabric) (r:Bool) (h:xref13_Valid a0=some r):AC Try.prog 32 [(.d (e_aFabric a0))] [] (.d (.bool r)) []:=by
 refine ac2 Try.func32 rfl rfl fun B hB hN L => ?_
 delta xref13_Valid at h
 refine sr (SQ tt) ?_
 apply AWp.seq
 refine sr (SQ tt) ?_
 apply AWp.cond rfl<;>intro hg1
 ·have h:=ite_t hg1 h
  refine sr (SQ tt) ?_
  apply AWp.ret
  apply seqQ_r
  obtain rfl:=oi h
  exact rt (kp [(2,_)] [] hB rfl rfl (by rfl)) [(bo false)] (Res.tmp (by rfl) (by rfl) Res.nil) rfl
 ·have h:=ite_f hg1 h
  apply AWp.skip
  apply seqQ_n
  apply AWp.seq
  refine sr (SQ tt) ?_
  apply AWp.block
  obtain⟨x14,hx15,h⟩:=bindS h
  refine lg (xref13_Valid_L0 a0) (fun s2:Int=>([(1,(pt 1001)),(37,(qe_aLink_3 a0.fLinks)),(38,(i6 (a0.fLinks.length:Int))),(39,(i6 s2))]:EL)) (fun s2:Int=>([(1001,bd 30 (e_aFabric a0))]:OL)) (fun(x:(Unit)⊕(Unit)) e E' O'=>match x with | (.inl _p)=>e = .ret∧Mat B E' O' ([(2,(bo false))]:EL) ([]:OL) | (.inr _p)=>e = .exit 0∧Mat B E' O' ([]:EL) ([]:OL)) hx15 (mp [] _ _ hB) (fun s2 y h => ?_) (fun e E' O' hR => ?_)
  ·unfold xref13_Valid_L0 at h
   refine sr (SQ tt) ?_
   apply AWp.seq
   apply AWp.cond rfl<;>intro hg11
   ·have h:=ite_t hg11 h
    apply AWp.skip
    apply seqQ_n
    apply AWp.seq
    apply AWp.block
    obtain⟨_,hx12,h⟩:=bindS h
    refine sr (SQ (fa hx12 tt)) ?_
    refine sr (SQ tt) ?_
    apply AWp.cond rfl<;>intro hg13
    ·have h:=ite_t hg13 h
     refine sr (SQ tt) ?_
     apply AWp.ret
     apply blkQ_r
     apply seqQ_r
     obtain rfl:=oi h
     exact⟨(fun hc=>by cases hc),rfl,(mp [] _ _ hB)⟩
    ·have h:=ite_f hg13 h
     apply AWp.skip
     apply blkQ_n
     apply seqQ_n
     refine rg (SQ tt) ?_
     obtain rfl:=oi h
     exact⟨rfl,(mp [] _ _ hB)⟩
   ·have h:=ite_f hg11 h
    apply AWp.exit
    apply seqQ_e
    obtain rfl:=oi h
    exact⟨(fun hc=>by cases hc),rfl,(mp [] _ _ hB)⟩
  ·rcases x14 with _ | _
   ·obtain⟨rfl,hmat⟩:=hR
    apply blkQ_r
    apply seqQ_r
    obtain rfl:=oi h
    exact rt (Mat.trans hmat (mp [] [(2,(bo false))] [] hB)) [(bo false)] (Res.tmp (by rfl) (by rfl) Res.nil) rfl
   ·obtain⟨rfl,hmat⟩:=hR
    apply blkQ_hit
    apply seqQ_n
    refine AWp.ghost hmat ?_
    refine sr (SQ tt) ?_
    apply AWp.ret
    obtain rfl:=oi h
    exact rt (kp [(2,_)] [] hB rfl rfl (by rfl)) [(bo true)] (Res.tmp (by rfl) (by rfl) Res.nil) rfl
def xref43_Failures_L0 (a0:aFabric) (s3:Int×(List aItem)):Option ((((List aItem)))⊕(Int×(List aItem))) :=
 (if (decide (s3.1<(a0.fLinks.length:Int)))=true then
 chk (decide ((s3.2++[(aItem.mk false s3.1)]).length≤LIM)) <|
 some (.inr ((w64 (s3.1+1)),(s3.2++[(aItem.mk false s3.1)])))
 else
 some (.inl s3.2))
def xref43_Failures_L1 (a0:aFabric) (s13:Int×(List aItem)):Option ((((List aItem)))⊕(Int×(List aItem))) :=
 (if (decide (s13.1<a0.fSwitches))=true then
 chk (decide ((s13.2++[(aItem.mk true s13.1)]).length≤LIM)) <|
 some (.inr ((w64 (s13.1+1)),(s13.2++[(aItem.mk true s13.1)])))
 else
 some (.inl s13.2))
def xref43_Failures_L2 (p18:(List aItem)) (s23:Int×(List (List aItem))):Option ((((List (List aItem))))⊕(Int×(List (List aItem)))) :=
 (if (decide (s23.1<(p18.length:Int)))=true then
 (idx p18 s23.1).bind fun _ =>
 (idx p18 s23.1).bind fun x35 =>
 chk (decide ((s23.2++([[x35]]:List (List aItem))).length≤LIM)) <|
 some (.inr ((w64 (s23.1+1)),(s23.2++([[x35]]:List (List aItem)))))
 else
 some (.inl s23.2))
def xref43_Failures_L4 (p18:(List aItem)) (s39:Int×(List (List aItem))) (x85:aItem) (s87:Int×(List (List aItem))):Option ((((List (List aItem))))⊕(Int×(List (List aItem)))) :=
 (if (decide (s87.1<(((p18.length-(w64 (s39.1+1)).toNat):Nat):Int)))=true then
 (idx ((p18.drop ((w64 (s39.1+1)).toNat)).take (p18.length-(w64 (s39.1+1)).toNat)) s87.1).bind fun _ =>
 (idx ((p18.drop ((w64 (s39.1+1)).toNat)).take (p18.length-(w64 (s39.1+1)).toNat)) s87.1).bind fun x99 =>
 chk (decide ((s87.2++([[x85,x99]]:List (List aItem))).length≤LIM)) <|
 some (.inr ((w64 (s87.1+1)),(s87.2++([[x85,x99]]:List (List aItem)))))
 else
 some (.inl s87.2))
def xref43_Failures_L3 (p18:(List aItem)) (s39:Int×(List (List aItem))):Option ((((List (List aItem))))⊕(Int×(List (List aItem)))) :=
 (if (decide (s39.1<(p18.length:Int)))=true then
 (idx p18 s39.1).bind fun _ =>
 (idx p18 s39.1).bind fun x85 =>
 chk ((decide (0≤(w64 (s39.1+1)))&&decide ((w64 (s39.1+1)).toNat≤p18.length)&&decide (p18.length≤p18.length))) <|
 (loop (xref43_Failures_L4 p18 s39 x85) (0,s39.2)).bind fun p96 =>
 some (.inr ((w64 (s39.1+1)),p96))
 else
 some (.inl s39.2))
def xref43_Failures (a0:aFabric):Option ((List (List aItem))) :=
 (xref13_Valid a0).bind fun r1 =>
 (if ((!r1) || (decide (12<(w64 ((a0.fLinks.length:Int)+a0.fSwitches)))))=true then
 some ([]:List (List aItem))
 else
 (loop (xref43_Failures_L0 a0) (0,([]:List aItem))).bind fun p8 =>
 (loop (xref43_Failures_L1 a0) (0,p8)).bind fun p18 =>
 (loop (xref43_Failures_L2 p18) (0,([]:List (List aItem)))).bind fun p32 =>
 (loop (xref43_Failures_L3 p18) (0,p32)).bind fun p82 =>
 some p82)
theorem xref43_Failures_ac (a0:aFabric) (r:(List (List aItem))) (h:xref43_Failures a0=some r):AC Try.prog 11 [(.d (e_aFabric a0))] [] (.d (.list 1 (r.map e_LeapiItem))) []:=by
 refine ac2 Try.func11 rfl rfl fun B hB hN L => ?_
 delta xref43_Failures at h
 refine sr (SQ tt) ?_
 apply AWp.seq
 obtain⟨r1,hr1,h⟩:=bindS h
 refine sr (SQ (fa (cl [] (xref13_Valid_ac a0 r1 hr1)) tt)) ?_
 apply AWp.cond rfl<;>intro hg2
 ·have h:=ite_t hg2 h
  refine sr (SQ tt) ?_
  apply AWp.ret
  apply seqQ_r
  obtain rfl:=oi h
  exact rt (Mat.trans (Mat.coeP (Ts:=[(2,(.d (.list 1 (([]:List (List aItem)).map e_LeapiItem))))]) (Bs:=[]) (TwT.cons (x:=.nils) (by rfl) (Tw.leaf ⟨_,(Co.nils 1),rfl⟩) TwT.nil) TwB.nil) (mp [] [(2,(.d (.list 1 (([]:List (List aItem)).map e_LeapiItem))))] [] hB)) [(.d (.list 1 (([]:List (List aItem)).map e_LeapiItem)))] (Res.tmp (by rfl) (by rfl) Res.nil) rfl
 ·have h:=ite_f hg2 h
  apply AWp.skip
  apply seqQ_n
  refine sr (SQ tt) ?_
  apply AWp.seq
  refine sr (SQ tt) ?_
  apply AWp.block
  obtain⟨p8,hx12,h⟩:=bindS h
  refine lg (xref43_Failures_L0 a0) (fun s3:Int×(List aItem)=>([(1,(pt 1001)),(3,(.sref 3003 2 0 s3.2.length)),(27,(i6 (a0.fLinks.length:Int))),(28,(i6 s3.1))]:EL)) (fun s3:Int×(List aItem)=>([(1001,bd 30 (e_aFabric a0)),(3003,some (we_aItem_63_2 s3.2))]:OL)) (fun(p8:((List aItem))) e E' O'=>e = .exit 0∧Mat B E' O' ([(1,(pt 1001)),(3,(.sref 3003 2 0 p8.length))]:EL) ([(1001,bd 30 (e_aFabric a0)),(3003,some (we_aItem_63_2 p8))]:OL)) hx12 (Mat.trans (Mat.beginP (n:=3003) (e:=63) (sz:=2) (Ts:=[(3,(.sref 3003 2 0 0))]) (Bs:=[]) hB (by decide) (by rfl) (by decide) (TwT.cons (x:=.nils) (by rfl) (Tw.leaf ⟨rfl,rfl⟩) TwT.nil) TwB.nil) (mp [] _ _ hB)) (fun s3 y h => ?_) (fun e E' O' hR => ?_)
  ·unfold xref43_Failures_L0 at h
   refine sr (SQ tt) ?_
   apply AWp.seq
   apply AWp.cond rfl<;>intro hg9
   ·have h:=ite_t hg9 h
    apply AWp.skip
    apply seqQ_n
    apply AWp.seq
    apply AWp.block
    refine sr (SQ tt) ?_
    obtain⟨hc10,h⟩:=chk_some h
    refine rg (SQ (fa hc10 tt)) ?_
    apply blkQ_n
    apply seqQ_n
    refine rg (SQ tt) ?_
    obtain rfl:=oi h
    exact⟨rfl,(mp [(3003,1035)] _ _ hB)⟩
   ·have h:=ite_f hg9 h
    apply AWp.exit
    apply seqQ_e
    obtain rfl:=oi h
    exact⟨(fun hc=>by cases hc),rfl,(mp [] _ _ hB)⟩
  ·obtain⟨rfl,hmat⟩:=hR
   apply blkQ_hit
   apply seqQ_n
   refine AWp.ghost hmat ?_
   apply AWp.seq
   refine sr (SQ tt) ?_
   apply AWp.block
   obtain⟨p18,hx22,h⟩:=bindS h
   refine lg (xref43_Failures_L1 a0) (fun s13:Int×(List aItem)=>([(1,(pt 1001)),(3,(.sref 3003 2 0 s13.2.length)),(5,(i6 s13.1))]:EL)) (fun s13:Int×(List aItem)=>([(1001,bd 30 (e_aFabric a0)),(3003,some (we_aItem_63_2 s13.2))]:OL)) (fun(p18:((List aItem))) e E' O'=>e = .exit 2∧Mat B E' O' ([(3,(.sref 3003 2 0 p18.length))]:EL) ([(3003,some (we_aItem_63_2 p18))]:OL)) hx22 (mp [] _ _ hB) (fun s13 y h => ?_) (fun e E' O' hR => ?_)
   ·unfold xref43_Failures_L1 at h
    apply AWp.seq
    refine sr (SQ tt) ?_
    apply AWp.cond rfl<;>intro hg19
    ·have h:=ite_t hg19 h
     apply AWp.skip
     apply seqQ_n
     apply AWp.seq
     apply AWp.block
     obtain⟨hc20,h⟩:=chk_some h
     refine rg (SQ (fa hc20 tt)) ?_
     apply blkQ_n
     apply seqQ_n
     refine rg (SQ tt) ?_
     obtain rfl:=oi h
     exact⟨rfl,(mp [(3003,1047)] _ _ hB)⟩
    ·have h:=ite_f hg19 h
     apply AWp.exit
     apply seqQ_e
     obtain rfl:=oi h
     exact⟨(fun hc=>by cases hc),rfl,(mp [] _ _ hB)⟩
   ·obtain⟨rfl,hmat⟩:=hR
    apply blkQ_hit
    apply seqQ_n
    refine AWp.ghost hmat ?_
    refine sr (SQ tt) ?_
    apply AWp.seq
    refine sr (SQ tt) ?_
    apply AWp.block
    obtain⟨p32,hx38,h⟩:=bindS h
    refine lg (xref43_Failures_L2 p18) (fun s23:Int×(List (List aItem))=>([(3,(.sref 3003 2 0 p18.length)),(6,(.sref 3006 1 0 s23.2.length)),(48,(.sref 3003 2 0 p18.length)),(49,(i6 (p18.length:Int))),(50,(i6 s23.1))]:EL)) (fun s23:Int×(List (List aItem))=>([(3003,some (we_aItem_63_2 p18)),(3006,some (.row 22 1 (s23.2.map e_LeapiItem)))]:OL)) (fun(p32:((List (List aItem)))) e E' O'=>e = .exit 4∧Mat B E' O' ([(3,(.sref 3003 2 0 p18.length)),(6,(.sref 3006 1 0 p32.length))]:EL) ([(3003,some (we_aItem_63_2 p18)),(3006,some (.row 22 1 (p32.map e_LeapiItem)))]:OL)) hx38 (Mat.trans (Mat.beginP (n:=3006) (e:=22) (sz:=1) (Ts:=[(6,(.sref 3006 1 0 0))]) (Bs:=[]) hB (by decide) (by rfl) (by decide) (TwT.cons (x:=.nils) (by rfl) (Tw.leaf ⟨rfl,rfl⟩) TwT.nil) TwB.nil) (mp [] _ _ hB)) (fun s23 y h => ?_) (fun e E' O' hR => ?_)
    ·unfold xref43_Failures_L2 at h
     refine sr (SQ tt) ?_
     apply AWp.seq
     apply AWp.cond rfl<;>intro hg33
     ·have h:=ite_t hg33 h
      apply AWp.skip
      apply seqQ_n
      apply AWp.seq
      apply AWp.block
      obtain⟨_,hx34,h⟩:=bindS h
      obtain⟨_,hx35,h⟩:=bindS h
      refine sr (SQ (fa hx34 (fa hx35 tt))) ?_
      obtain⟨hc36,h⟩:=chk_some h
      refine rg (SQ (fa hc36 tt)) ?_
      apply blkQ_n
      apply seqQ_n
      refine rg (SQ tt) ?_
      obtain rfl:=oi h
      exact⟨rfl,(mp [(3006,1058)] _ _ hB)⟩
     ·have h:=ite_f hg33 h
      apply AWp.exit
      apply seqQ_e
      obtain rfl:=oi h
      exact⟨(fun hc=>by cases hc),rfl,(mp [] _ _ hB)⟩
    ·obtain⟨rfl,hmat⟩:=hR
     apply blkQ_hit
     apply seqQ_n
     refine AWp.ghost hmat ?_
     apply AWp.seq
     refine sr (SQ tt) ?_
     apply AWp.block
     obtain⟨p82,hx104,h⟩:=bindS h
     refine lg (xref43_Failures_L3 p18) (fun s39:Int×(List (List aItem))=>([(3,(.sref 3003 2 0 p18.length)),(6,(.sref 3006 1 0 s39.2.length)),(60,(.sref 3003 2 0 p18.length)),(61,(i6 (p18.length:Int))),(62,(i6 s39.1))]:EL)) (fun s39:Int×(List (List aItem))=>([(3003,some (we_aItem_63_2 p18)),(3006,some (.row 22 1 (s39.2.map e_LeapiItem)))]:OL)) (fun(p82:((List (List aItem)))) e E' O'=>e = .exit 6∧Mat B E' O' ([(6,(.sref 3006 1 0 p82.length))]:EL) ([(3006,some (.row 22 1 (p82.map e_LeapiItem)))]:OL)) hx104 (mp [] _ _ hB) (fun s39 y h => ?_) (fun e E' O' hR => ?_)
     ·unfold xref43_Failures_L3 at h
      refine sr (SQ tt) ?_
      apply AWp.seq
      apply AWp.cond rfl<;>intro hg83
      ·have h:=ite_t hg83 h
       apply AWp.skip
       apply seqQ_n
       apply AWp.seq
       apply AWp.block
       obtain⟨_,hx84,h⟩:=bindS h
       obtain⟨x85,hx85,h⟩:=bindS h
       refine sr (SQ (fa hx84 (fa hx85 tt))) ?_
       obtain⟨hc86,h⟩:=chk_some h
       apply sr (c (mv hN (q 3)) rfl (c (mv hN (q 9)) rfl (c (add6 (L rfl) (q 68) (ii 1)) rfl (c (OpJ.cutS underlying22 tyS63 (l:=(w64 (s39.1+1)).toNat) (h:=p18.length) (off':=(w64 (s39.1+1)).toNat) (len':=(p18.length-(w64 (s39.1+1)).toNat)) (.inr ⟨_,_,_,rfl,(ot 69 (i6 (w64 (s39.1+1)))),(of_decide_eq_true (and_l2 (and_l2 hc86))),rfl⟩) (.inl ⟨rfl,rfl,rfl⟩) (of_decide_eq_true (and_r2 (and_l2 hc86))) (of_decide_eq_true (and_r2 hc86)) (by simp) (by simp) (L rfl) (q 67)) rfl (c (lenS underlying22 (L rfl) (q 70)) rfl (c (mv hN (ii 0)) rfl cn))))))
       apply AWp.block
       obtain⟨p96,hx102,h⟩:=bindS h
       refine lg (xref43_Failures_L4 p18 s39 x85) (fun s87:Int×(List (List aItem))=>([(3,(.sref 3003 2 0 p18.length)),(6,(.sref 3006 1 0 s87.2.length)),(10,(pt 1010)),(60,(.sref 3003 2 0 p18.length)),(61,(i6 (p18.length:Int))),(62,(i6 s39.1)),(70,(.sref 3003 2 ((w64 (s39.1+1)).toNat) (p18.length-(w64 (s39.1+1)).toNat))),(71,(i6 (((p18.length-(w64 (s39.1+1)).toNat):Nat):Int))),(72,(i6 s87.1))]:EL)) (fun s87:Int×(List (List aItem))=>([(1010,bd 63 (e_aItem x85)),(3003,some (we_aItem_63_2 p18)),(3006,some (.row 22 1 (s87.2.map e_LeapiItem)))]:OL)) (fun(p96:((List (List aItem)))) e E' O'=>e = .exit 8∧Mat B E' O' ([(3,(.sref 3003 2 0 p18.length)),(6,(.sref 3006 1 0 p96.length)),(60,(.sref 3003 2 0 p18.length)),(61,(i6 (p18.length:Int))),(62,(i6 s39.1))]:EL) ([(3003,some (we_aItem_63_2 p18)),(3006,some (.row 22 1 (p96.map e_LeapiItem)))]:OL)) hx102 (mp [] _ _ hB) (fun s87 y h => ?_) (fun e E' O' hR => ?_)
       ·unfold xref43_Failures_L4 at h
        refine sr (SQ tt) ?_
        apply AWp.seq
        apply AWp.cond rfl<;>intro hg97
        ·have h:=ite_t hg97 h
         apply AWp.skip
         apply seqQ_n
         apply AWp.seq
         apply AWp.block
         obtain⟨_,hx98,h⟩:=bindS h
         obtain⟨_,hx99,h⟩:=bindS h
         refine sr (SQ (fa hx98 (fa hx99 tt))) ?_
         obtain⟨hc100,h⟩:=chk_some h
         refine rg (SQ (fa hc100 tt)) ?_
         apply blkQ_n
         apply seqQ_n
         refine rg (SQ tt) ?_
         obtain rfl:=oi h
         exact⟨rfl,(mp [(3006,1081)] _ _ hB)⟩
        ·have h:=ite_f hg97 h
         apply AWp.exit
         apply seqQ_e
         obtain rfl:=oi h
         exact⟨(fun hc=>by cases hc),rfl,(mp [] _ _ hB)⟩
       ·obtain⟨rfl,hmat⟩:=hR
        apply blkQ_hit
        apply blkQ_n
        apply seqQ_n
        refine AWp.ghost hmat ?_
        refine rg (SQ tt) ?_
        obtain rfl:=oi h
        exact⟨rfl,(mp [] _ _ hB)⟩
      ·have h:=ite_f hg83 h
       apply AWp.exit
       apply seqQ_e
       obtain rfl:=oi h
       exact⟨(fun hc=>by cases hc),rfl,(mp [] _ _ hB)⟩
     ·obtain⟨rfl,hmat⟩:=hR
      apply blkQ_hit
      apply seqQ_n
      refine AWp.ghost hmat ?_
      refine sr (SQ tt) ?_
      apply AWp.ret
      obtain rfl:=oi h
      exact rt (Mat.trans (Mat.freezeP (n:=3006) (e:=22) (sz:=1) (es:=p82.map e_LeapiItem) (Ts:=[(2,(.d (.list 1 (p82.map e_LeapiItem))))]) (Bs:=[]) (by rfl) (TwT.cons (x:=(.sref 3006 1 0 p82.length)) (by rfl) (FrzL.all (by first | rfl | (simp;done) | (simp;omega) | omega)) TwT.nil) TwB.nil) (mp [] [(2,(.d (.list 1 (p82.map e_LeapiItem))))] [] hB)) [(.d (.list 1 (p82.map e_LeapiItem)))] (Res.tmp (by rfl) (by rfl) Res.nil) rfl
def xref42_SameItems_L0 (a0:(List aItem)) (a1:(List aItem)) (s2:Int):Option (((Unit)⊕(Unit))⊕(Int)) :=
 (if (decide (s2<(a0.length:Int)))=true then
 (idx a0 s2).bind fun x14 =>
 (idx a1 s2).bind fun x15 =>
 (if (!((x14.fSwitch==x15.fSwitch)&&((x14.fIndex==x15.fIndex)&&true)))=true then
 some (.inl (.inl ()))
 else
 some (.inr (w64 (s2+1))))
 else
 some (.inl (.inr ())))
def xref42_SameItems (a0:(List aItem)) (a1:(List aItem)):Option (Bool) :=
 (if ((a0.length:Int) != (a1.length:Int))=true then
 some false
 else
 (loop (xref42_SameItems_L0 a0 a1) 0).bind fun x17=>match x17 with
 | (.inl _) =>
  some false
 | (.inr _) =>
  some true)
theorem xref42_SameItems_ac (a0:(List aItem)) (a1:(List aItem)) (r:Bool) (h:xref42_SameItems a0 a1=some r):AC Try.prog 33 [(.d (.list 2 (a0.map e_aItem))),(.d (.list 2 (a1.map e_aItem)))] [] (.d (.bool r)) []:=by
 refine ac2 Try.func33 rfl rfl fun B hB hN L => ?_
 delta xref42_SameItems at h
 refine sr (SQ tt) ?_
 apply AWp.seq
 refine sr (SQ tt) ?_
 apply AWp.cond rfl<;>intro hg1
 ·have h:=ite_t hg1 h
  refine sr (SQ tt) ?_
  apply AWp.ret
  apply seqQ_r
  obtain rfl:=oi h
  exact rt (kp [(4,_)] [] hB rfl rfl (by rfl)) [(bo false)] (Res.tmp (by rfl) (by rfl) Res.nil) rfl
 ·have h:=ite_f hg1 h
  apply AWp.skip
  apply seqQ_n
  apply AWp.seq
  refine sr (SQ tt) ?_
  apply AWp.block
  obtain⟨x17,hx18,h⟩:=bindS h
  refine lg (xref42_SameItems_L0 a0 a1) (fun s2:Int=>([(0,(qe_aItem_2 a0)),(1,(qe_aItem_2 a1)),(12,(i6 (a0.length:Int))),(13,(i6 s2))]:EL)) (fun s2:Int=>([]:OL)) (fun(x:(Unit)⊕(Unit)) e E' O'=>match x with | (.inl _p)=>e = .ret∧Mat B E' O' ([(4,(bo false))]:EL) ([]:OL) | (.inr _p)=>e = .exit 0∧Mat B E' O' ([]:EL) ([]:OL)) hx18 (mp [] _ _ hB) (fun s2 y h => ?_) (fun e E' O' hR => ?_)
  ·unfold xref42_SameItems_L0 at h
   refine sr (SQ tt) ?_
   apply AWp.seq
   apply AWp.cond rfl<;>intro hg13
   ·have h:=ite_t hg13 h
    apply AWp.skip
    apply seqQ_n
    apply AWp.seq
    apply AWp.block
    refine sr (SQ tt) ?_
    obtain⟨x14,hx14,h⟩:=bindS h
    obtain⟨x15,hx15,h⟩:=bindS h
    apply sd (c (mv hN (q 0)) rfl (c (mv hN (q 5)) rfl (c (indexD underlying22 tyS63 (idx_some hx14).1 (get_map e_aItem (idx_some hx14).2) (L rfl) (q 16) (q 17)) rfl (c (loadD tyS63 (by rfl) (by rfl) (L rfl) (q 18)) rfl (c (mv hN (q 1)) rfl (c (mv hN (q 5)) rfl (c (indexD underlying22 tyS63 (idx_some hx15).1 (get_map e_aItem (idx_some hx15).2) (L rfl) (q 20) (q 21)) rfl (c (loadD tyS63 (by rfl) (by rfl) (L rfl) (q 22)) rfl (c (OpJ.neqD (h:=2) (FitE.st underlying63 rfl held63 (FitF.cons (x:=(.bool x14.fSwitch)) (y:=(.bool x15.fSwitch)) (by decide) rfl tyS4 ⟨rfl,rfl⟩ ⟨rfl,rfl⟩ (FitE.bool (h:=0) x14.fSwitch x15.fSwitch underlying4) (FitF.cons (x:=(.int .i64 x14.fIndex)) (y:=(.int .i64 x15.fIndex)) (by decide) rfl tyS3 ⟨rfl,rfl⟩ ⟨rfl,rfl⟩ (FitE.int (h:=0) x14.fIndex x15.fIndex underlying3) FitF.nil))) eqg63 ⟨rfl,rfl⟩ (by rfl) (L rfl) (q 19) (q 23)) rfl cn))))))))) (by kernel_rfl) (by kernel_rfl)
    apply AWp.cond rfl<;>intro hg16
    ·have h:=ite_t hg16 h
     refine sr (SQ tt) ?_
     apply AWp.ret
     apply blkQ_r
     apply seqQ_r
     obtain rfl:=oi h
     exact⟨(fun hc=>by cases hc),rfl,(mp [] _ _ hB)⟩
    ·have h:=ite_f hg16 h
     apply AWp.skip
     apply blkQ_n
     apply seqQ_n
     refine rg (SQ tt) ?_
     obtain rfl:=oi h
     exact⟨rfl,(mp [] _ _ hB)⟩
   ·have h:=ite_f hg13 h
    apply AWp.exit
    apply seqQ_e
    obtain rfl:=oi h
    exact⟨(fun hc=>by cases hc),rfl,(mp [] _ _ hB)⟩
  ·rcases x17 with _ | _
   ·obtain⟨rfl,hmat⟩:=hR
    apply blkQ_r
    apply seqQ_r
    obtain rfl:=oi h
    exact rt (Mat.trans hmat (mp [] [(4,(bo false))] [] hB)) [(bo false)] (Res.tmp (by rfl) (by rfl) Res.nil) rfl
   ·obtain⟨rfl,hmat⟩:=hR
    apply blkQ_hit
    apply seqQ_n
    refine AWp.ghost hmat ?_
    refine sr (SQ tt) ?_
    apply AWp.ret
    obtain rfl:=oi h
    exact rt (kp [(4,_)] [] hB rfl rfl (by rfl)) [(bo true)] (Res.tmp (by rfl) (by rfl) Res.nil) rfl
def xref42_Valid_L0 (a0:aFabric) (a1:(List aLoad)) (s3:Int):Option (((Unit)⊕(Unit))⊕(Int)) :=
 (if (decide (s3<(a1.length:Int)))=true then
 (idx a1 s3).bind fun x13 =>
 (if ((((((decide (x13.fA<0)) || (decide (a0.fSwitches≤x13.fA))) || (decide (x13.fB<0))) || (decide (a0.fSwitches≤x13.fB))) || (decide (x13.fRate<0))) || (decide (1073741824<x13.fRate)))=true then
 some (.inl (.inl ()))
 else
 some (.inr (w64 (s3+1))))
 else
 some (.inl (.inr ())))
def xref42_Valid_L2 (a2:(List aItem)) (s17:Int) (x71:aItem) (s78:Int):Option (((Unit)⊕(Unit))⊕(Int)) :=
 (if (decide (s78<(((a2.take s17.toNat).drop 0).length:Int)))=true then
 (idx ((a2.take s17.toNat).drop 0) s78).bind fun x88 =>
 (if ((x71.fSwitch==x88.fSwitch)&&((x71.fIndex==x88.fIndex)&&true))=true then
 some (.inl (.inl ()))
 else
 some (.inr (w64 (s78+1))))
 else
 some (.inl (.inr ())))
def xref42_Valid_L1 (a0:aFabric) (a2:(List aItem)) (s17:Int):Option (((Unit)⊕(Unit))⊕(Int)) :=
 (if (decide (s17<(a2.length:Int)))=true then
 (idx a2 s17).bind fun x71 =>
 jn (fun m74:Bool =>
 (if m74=true then
 some (.inl (.inl ()))
 else
 chk ((decide (0≤s17)&&decide (0≤s17.toNat)&&decide (s17.toNat≤a2.length))) <|
 (loop (xref42_Valid_L2 a2 s17 x71) 0).bind fun x90=>match x90 with
 | (.inl _) =>
  some (.inl (.inl ()))
 | (.inr _) =>
  some (.inr (w64 (s17+1))))) (fun j75 =>
 (if (decide (x71.fIndex<0))=true then
 j75 true
 else
 (if (x71.fSwitch&&(decide (a0.fSwitches≤x71.fIndex)))=true then
 j75 true
 else
 j75 ((!x71.fSwitch)&&(decide ((a0.fLinks.length:Int)≤x71.fIndex))))))
 else
 some (.inl (.inr ())))
def xref42_Valid (a0:aFabric) (a1:(List aLoad)) (a2:(List aItem)):Option (Bool) :=
 (xref13_Valid a0).bind fun r1 =>
 (if (((!r1) || (decide (16<(a1.length:Int)))) || (decide (8<(a2.length:Int))))=true then
 some false
 else
 (loop (xref42_Valid_L0 a0 a1) 0).bind fun x15=>match x15 with
 | (.inl _) =>
  some false
 | (.inr _) =>
  (loop (xref42_Valid_L1 a0 a2) 0).bind fun x94=>match x94 with
  | (.inl _) =>
   some false
  | (.inr _) =>
   some true)
theorem xref42_Valid_ac (a0:aFabric) (a1:(List aLoad)) (a2:(List aItem)) (r:Bool) (h:xref42_Valid a0 a1 a2=some r):AC Try.prog 21 [(.d (e_aFabric a0)),(.d (.list 3 (a1.map e_aLoad))),(.d (.list 2 (a2.map e_aItem)))] [] (.d (.bool r)) []:=by
 refine ac2 Try.func21 rfl rfl fun B hB hN L => ?_
 delta xref42_Valid at h
 refine sr (SQ tt) ?_
 apply AWp.seq
 obtain⟨r1,hr1,h⟩:=bindS h
 refine sr (SQ (fa (cl [] (xref13_Valid_ac a0 r1 hr1)) tt)) ?_
 apply AWp.cond rfl<;>intro hg2
 ·have h:=ite_t hg2 h
  refine sr (SQ tt) ?_
  apply AWp.ret
  apply seqQ_r
  obtain rfl:=oi h
  exact rt (kp [(6,_)] [] hB rfl rfl (by rfl)) [(bo false)] (Res.tmp (by rfl) (by rfl) Res.nil) rfl
 ·have h:=ite_f hg2 h
  apply AWp.skip
  apply seqQ_n
  apply AWp.seq
  refine sr (SQ tt) ?_
  apply AWp.block
  obtain⟨x15,hx16,h⟩:=bindS h
  refine lg (xref42_Valid_L0 a0 a1) (fun s3:Int=>([(2,(qe_aItem_2 a2)),(3,(pt 1003)),(26,(qe_aLoad_3 a1)),(27,(i6 (a1.length:Int))),(28,(i6 s3))]:EL)) (fun s3:Int=>([(1003,bd 30 (e_aFabric a0))]:OL)) (fun(x:(Unit)⊕(Unit)) e E' O'=>match x with | (.inl _p)=>e = .ret∧Mat B E' O' ([(6,(bo false))]:EL) ([]:OL) | (.inr _p)=>e = .exit 0∧Mat B E' O' ([(2,(qe_aItem_2 a2)),(3,(pt 1003))]:EL) ([(1003,bd 30 (e_aFabric a0))]:OL)) hx16 (mp [] _ _ hB) (fun s3 y h => ?_) (fun e E' O' hR => ?_)
  ·unfold xref42_Valid_L0 at h
   refine sr (SQ tt) ?_
   apply AWp.seq
   apply AWp.cond rfl<;>intro hg12
   ·have h:=ite_t hg12 h
    apply AWp.skip
    apply seqQ_n
    apply AWp.seq
    apply AWp.block
    obtain⟨_,hx13,h⟩:=bindS h
    refine sr (SQ (fa hx13 tt)) ?_
    refine sr (SQ tt) ?_
    apply AWp.cond rfl<;>intro hg14
    ·have h:=ite_t hg14 h
     refine sr (SQ tt) ?_
     apply AWp.ret
     apply blkQ_r
     apply seqQ_r
     obtain rfl:=oi h
     exact⟨(fun hc=>by cases hc),rfl,(mp [] _ _ hB)⟩
    ·have h:=ite_f hg14 h
     apply AWp.skip
     apply blkQ_n
     apply seqQ_n
     refine rg (SQ tt) ?_
     obtain rfl:=oi h
     exact⟨rfl,(mp [] _ _ hB)⟩
   ·have h:=ite_f hg12 h
    apply AWp.exit
    apply seqQ_e
    obtain rfl:=oi h
    exact⟨(fun hc=>by cases hc),rfl,(mp [] _ _ hB)⟩
  ·rcases x15 with _ | _
   ·obtain⟨rfl,hmat⟩:=hR
    apply blkQ_r
    apply seqQ_r
    obtain rfl:=oi h
    exact rt (Mat.trans hmat (mp [] [(6,(bo false))] [] hB)) [(bo false)] (Res.tmp (by rfl) (by rfl) Res.nil) rfl
   ·obtain⟨rfl,hmat⟩:=hR
    apply blkQ_hit
    apply seqQ_n
    refine AWp.ghost hmat ?_
    apply AWp.seq
    refine sr (SQ tt) ?_
    apply AWp.block
    obtain⟨x94,hx95,h⟩:=bindS h
    refine lg (xref42_Valid_L1 a0 a2) (fun s17:Int=>([(2,(qe_aItem_2 a2)),(3,(pt 1003)),(65,(qe_aItem_2 a2)),(66,(i6 (a2.length:Int))),(67,(i6 s17))]:EL)) (fun s17:Int=>([(1003,bd 30 (e_aFabric a0))]:OL)) (fun(x:(Unit)⊕(Unit)) e E' O'=>match x with | (.inl _p)=>e = .ret∧Mat B E' O' ([(6,(bo false))]:EL) ([]:OL) | (.inr _p)=>e = .exit 2∧Mat B E' O' ([]:EL) ([]:OL)) hx95 (mp [] _ _ hB) (fun s17 y h => ?_) (fun e E' O' hR => ?_)
    ·unfold xref42_Valid_L1 at h
     refine sr (SQ tt) ?_
     apply AWp.seq
     apply AWp.cond rfl<;>intro hg70
     ·have h:=ite_t hg70 h
      apply AWp.skip
      apply seqQ_n
      apply AWp.seq
      apply AWp.block
      obtain⟨x71,hx71,h⟩:=bindS h
      refine sr (SQ (fa hx71 tt)) ?_
      apply AWp.seq
      apply AWp.seq
      refine AWp.cut h (fun m74:Bool=>([(2,(qe_aItem_2 a2)),(3,(pt 1003)),(9,(i6 s17)),(10,(pt 1010)),(65,(qe_aItem_2 a2)),(66,(i6 (a2.length:Int))),(67,(i6 s17)),(98,(bo m74))]:EL)) (fun m74:Bool=>([(1003,bd 30 (e_aFabric a0)),(1010,bd 63 (e_aItem x71))]:OL)) (fun m74 h E' O' hmat => ?_) (fun j75 hjj75 h => ?_)
      ·apply seqQ_n
       refine AWp.ghost hmat ?_
       apply AWp.cond rfl<;>intro hg76
       ·have h:=ite_t hg76 h
        refine sr (SQ tt) ?_
        apply AWp.ret
        apply seqQ_r
        apply blkQ_r
        apply seqQ_r
        obtain rfl:=oi h
        exact⟨(fun hc=>by cases hc),rfl,(mp [] _ _ hB)⟩
       ·have h:=ite_f hg76 h
        apply AWp.skip
        apply seqQ_n
        obtain⟨hc77,h⟩:=chk_some h
        apply sr (c (mv hN (q 2)) rfl (c (mv hN (q 9)) rfl (c (OpJ.cutD underlying22 tyS63 (es':=((a2.take s17.toNat).drop 0).map e_aItem) (l:=0) (h:=s17.toNat) (.inl ⟨rfl,rfl,rfl⟩) (.inr ⟨_,_,_,rfl,(ot 100 (i6 s17)),(of_decide_eq_true (and_l2 (and_l2 hc77))),rfl⟩) (of_decide_eq_true (and_r2 (and_l2 hc77))) (by first | (simp;done) | simpa using (of_decide_eq_true (and_r2 hc77))) (by first | rw [List.map_drop,List.map_take] | (simp [List.map_take,List.map_drop];done) | simp [List.take_of_length_le]) (L rfl) (q 99)) rfl (c (OpJ.val (v':=(i6 (((a2.take s17.toNat).drop 0).length:Int))) (by simp) (lenD underlying22 (L rfl) (q 101))) rfl (c (mv hN (ii 0)) rfl cn)))))
        apply AWp.block
        obtain⟨x90,hx91,h⟩:=bindS h
        refine lg (xref42_Valid_L2 a2 s17 x71) (fun s78:Int=>([(2,(qe_aItem_2 a2)),(3,(pt 1003)),(10,(pt 1010)),(65,(qe_aItem_2 a2)),(66,(i6 (a2.length:Int))),(67,(i6 s17)),(101,(qe_aItem_2 ((a2.take s17.toNat).drop 0))),(102,(i6 (((a2.take s17.toNat).drop 0).length:Int))),(103,(i6 s78))]:EL)) (fun s78:Int=>([(1003,bd 30 (e_aFabric a0)),(1010,bd 63 (e_aItem x71))]:OL)) (fun(x:(Unit)⊕(Unit)) e E' O'=>match x with | (.inl _p)=>e = .ret∧Mat B E' O' ([(6,(bo false))]:EL) ([]:OL) | (.inr _p)=>e = .exit 4∧Mat B E' O' ([(2,(qe_aItem_2 a2)),(3,(pt 1003)),(65,(qe_aItem_2 a2)),(66,(i6 (a2.length:Int))),(67,(i6 s17))]:EL) ([(1003,bd 30 (e_aFabric a0))]:OL)) hx91 (mp [] _ _ hB) (fun s78 y h => ?_) (fun e E' O' hR => ?_)
        ·unfold xref42_Valid_L2 at h
         refine sr (SQ tt) ?_
         apply AWp.seq
         apply AWp.cond rfl<;>intro hg87
         ·have h:=ite_t hg87 h
          apply AWp.skip
          apply seqQ_n
          apply AWp.seq
          apply AWp.block
          obtain⟨x88,hx88,h⟩:=bindS h
          refine sr (SQ (fa hx88 tt)) ?_
          apply sr (c (lb hN 63 _ _ tyS63 (At.here _) (q 10)) rfl (c (lb hN 63 _ _ tyS63 (At.here _) (q 12)) rfl (c (OpJ.eqlD (h:=2) (FitE.st underlying63 rfl held63 (FitF.cons (x:=(.bool x71.fSwitch)) (y:=(.bool x88.fSwitch)) (by decide) rfl tyS4 ⟨rfl,rfl⟩ ⟨rfl,rfl⟩ (FitE.bool (h:=0) x71.fSwitch x88.fSwitch underlying4) (FitF.cons (x:=(.int .i64 x71.fIndex)) (y:=(.int .i64 x88.fIndex)) (by decide) rfl tyS3 ⟨rfl,rfl⟩ ⟨rfl,rfl⟩ (FitE.int (h:=0) x71.fIndex x88.fIndex underlying3) FitF.nil))) eqg63 ⟨rfl,rfl⟩ (by rfl) (L rfl) (q 107) (q 108)) rfl cn)))
          apply AWp.cond rfl<;>intro hg89
          ·have h:=ite_t hg89 h
           refine sr (SQ tt) ?_
           apply AWp.ret
           apply blkQ_r
           apply seqQ_r
           obtain rfl:=oi h
           exact⟨(fun hc=>by cases hc),rfl,(mp [] _ _ hB)⟩
          ·have h:=ite_f hg89 h
           apply AWp.skip
           apply blkQ_n
           apply seqQ_n
           refine rg (SQ tt) ?_
           obtain rfl:=oi h
           exact⟨rfl,(mp [] _ _ hB)⟩
         ·have h:=ite_f hg87 h
          apply AWp.exit
          apply seqQ_e
          obtain rfl:=oi h
          exact⟨(fun hc=>by cases hc),rfl,(mp [] _ _ hB)⟩
        ·rcases x90 with _ | _
         ·obtain⟨rfl,hmat⟩:=hR
          apply blkQ_r
          apply blkQ_r
          apply seqQ_r
          obtain rfl:=oi h
          exact⟨(fun hc=>by cases hc),rfl,(Mat.trans hmat (mp [] _ _ hB))⟩
         ·obtain⟨rfl,hmat⟩:=hR
          apply blkQ_hit
          apply blkQ_n
          apply seqQ_n
          refine AWp.ghost hmat ?_
          refine rg (SQ tt) ?_
          obtain rfl:=oi h
          exact⟨rfl,(mp [] _ _ hB)⟩
      ·rcases bft (decide (x71.fIndex<0)) with hg92 | hg92
       ·have h:=ite_t hg92 h
        refine rg (SQ (fa hg92 tt)) ?_
        exact hjj75 _ h _ _ (mp [] _ _ hB)
       ·have h:=ite_f hg92 h
        rcases bft (x71.fSwitch&&(decide (a0.fSwitches≤x71.fIndex))) with hg93 | hg93
        ·have h:=ite_t hg93 h
         refine rg (SQ (fa hg92 (fa hg93 tt))) ?_
         exact hjj75 _ h _ _ (mp [] _ _ hB)
        ·have h:=ite_f hg93 h
         refine rg (SQ (fa hg92 (fa hg93 tt))) ?_
         exact hjj75 _ h _ _ (mp [] _ _ hB)
     ·have h:=ite_f hg70 h
      apply AWp.exit
      apply seqQ_e
      obtain rfl:=oi h
      exact⟨(fun hc=>by cases hc),rfl,(mp [] _ _ hB)⟩
    ·rcases x94 with _ | _
     ·obtain⟨rfl,hmat⟩:=hR
      apply blkQ_r
      apply seqQ_r
      obtain rfl:=oi h
      exact rt (Mat.trans hmat (mp [] [(6,(bo false))] [] hB)) [(bo false)] (Res.tmp (by rfl) (by rfl) Res.nil) rfl
     ·obtain⟨rfl,hmat⟩:=hR
      apply blkQ_hit
      apply seqQ_n
      refine AWp.ghost hmat ?_
      refine sr (SQ tt) ?_
      apply AWp.ret
      obtain rfl:=oi h
      exact rt (kp [(6,_)] [] hB rfl rfl (by rfl)) [(bo true)] (Res.tmp (by rfl) (by rfl) Res.nil) rfl
def xref43_ordered_L0 (a0:(List Int)) (a1:Int) (s2:Int×(List Bool)):Option (((Unit)⊕(Unit))⊕(Int×(List Bool))) :=
 (if (decide (s2.1<(a0.length:Int)))=true then
 (idx a0 s2.1).bind fun x32 =>
 jn (fun m36:Bool =>
 (if m36=true then
 some (.inl (.inl ()))
 else
 (idx s2.2 x32).bind fun _ =>
 (idx s2.2 x32).bind fun _ =>
 some (.inr ((w64 (s2.1+1)),(s2.2.set x32.toNat true))))) (fun j37 =>
 (if ((decide (x32<0)) || (decide (a1≤x32)))=true then
 j37 true
 else
 (idx s2.2 x32).bind fun _ =>
 (idx s2.2 x32).bind fun x43 =>
 j37 x43))
 else
 some (.inl (.inr ())))
def xref43_ordered (a0:(List Int)) (a1:Int):Option (Bool) :=
 chk ((decide (0≤a1)&&decide (a1≤a1)&&decide (a1≤(LIM:Int)))) <|
 (loop (xref43_ordered_L0 a0 a1) (0,(List.replicate a1.toNat false))).bind fun x44=>match x44 with
 | (.inl _) =>
  some false
 | (.inr _) =>
  some ((a0.length:Int)==a1)
theorem xref43_ordered_ac (a0:(List Int)) (a1:Int) (r:Bool) (h:xref43_ordered a0 a1=some r):AC Try.prog 40 [(.d (.list 1 (a0.map (eI .i64)))),(.d (.int .i64 a1))] [] (.d (.bool r)) []:=by
 refine ac2 Try.func40 rfl rfl fun B hB hN L => ?_
 delta xref43_ordered at h
 refine sr (SQ tt) ?_
 obtain⟨hc1,h⟩:=chk_some h
 refine sr (SQ (fa hc1 tt)) ?_
 apply AWp.seq
 refine sr (SQ tt) ?_
 apply AWp.block
 obtain⟨x44,hx45,h⟩:=bindS h
 refine lg (xref43_ordered_L0 a0 a1) (fun s2:Int×(List Bool)=>([(0,(qI_1 a0)),(1,(i6 a1)),(5,(.sref 1009 1 0 s2.2.length)),(10,(qI_1 a0)),(11,(i6 (a0.length:Int))),(12,(i6 s2.1))]:EL)) (fun s2:Int×(List Bool)=>([(1009,some (.row 4 1 (s2.2.map eB)))]:OL)) (fun(x:(Unit)⊕(Unit)) e E' O'=>match x with | (.inl _p)=>e = .ret∧Mat B E' O' ([(4,(bo false))]:EL) ([]:OL) | (.inr _p)=>e = .exit 0∧Mat B E' O' ([(0,(qI_1 a0)),(1,(i6 a1))]:EL) ([]:OL)) hx45 (mp [] _ _ hB) (fun s2 y h => ?_) (fun e E' O' hR => ?_)
 ·unfold xref43_ordered_L0 at h
  refine sr (SQ tt) ?_
  apply AWp.seq
  apply AWp.cond rfl<;>intro hg31
  ·have h:=ite_t hg31 h
   apply AWp.skip
   apply seqQ_n
   apply AWp.seq
   apply AWp.block
   obtain⟨x32,hx32,h⟩:=bindS h
   refine sr (SQ (fa hx32 tt)) ?_
   apply AWp.seq
   apply AWp.seq
   refine AWp.cut h (fun m36:Bool=>([(0,(qI_1 a0)),(1,(i6 a1)),(5,(.sref 1009 1 0 s2.2.length)),(7,(i6 x32)),(10,(qI_1 a0)),(11,(i6 (a0.length:Int))),(12,(i6 s2.1)),(28,(bo m36))]:EL)) (fun m36:Bool=>([(1009,some (.row 4 1 (s2.2.map eB)))]:OL)) (fun m36 h E' O' hmat => ?_) (fun j37 hjj37 h => ?_)
   ·apply seqQ_n
    refine AWp.ghost hmat ?_
    apply AWp.cond rfl<;>intro hg38
    ·have h:=ite_t hg38 h
     refine sr (SQ tt) ?_
     apply AWp.ret
     apply seqQ_r
     apply blkQ_r
     apply seqQ_r
     obtain rfl:=oi h
     exact⟨(fun hc=>by cases hc),rfl,(mp [] _ _ hB)⟩
    ·have h:=ite_f hg38 h
     apply AWp.skip
     apply seqQ_n
     obtain⟨_,hx39,h⟩:=bindS h
     obtain⟨_,hx40,h⟩:=bindS h
     refine rg (SQ (fa hx39 (fa hx40 (fa (sv true) tt)))) ?_
     apply blkQ_n
     apply seqQ_n
     refine rg (SQ tt) ?_
     obtain rfl:=oi h
     exact⟨rfl,(Mat.trans (mp [] [(0,(qI_1 a0)),(1,(i6 a1)),(5,(.sref 1009 1 0 s2.2.length)),(10,(qI_1 a0)),(11,(i6 (a0.length:Int))),(12,(i6 (w64 (s2.1+1))))] [(1009,some (.row 4 1 ((s2.2.set x32.toNat true).map eB)))] hB) (Mat.trans (Mat.lenP (Ts:=[(5,(.sref 1009 1 0 ((s2.2.set x32.toNat true).length)))]) (Bs:=[]) (TwT.cons (x:=(.sref 1009 1 0 s2.2.length)) (by rfl) (Tw.leaf ⟨_,_,_,_,_,rfl,rfl,(by first | rfl | (simp;done) | (simp;omega) | omega)⟩) TwT.nil) TwB.nil) (mp [] _ _ hB)))⟩
   ·rcases bft ((decide (x32<0)) || (decide (a1≤x32))) with hg41 | hg41
    ·have h:=ite_t hg41 h
     refine rg (SQ (fa hg41 tt)) ?_
     exact hjj37 _ h _ _ (mp [] _ _ hB)
    ·have h:=ite_f hg41 h
     obtain⟨_,hx42,h⟩:=bindS h
     obtain⟨_,hx43,h⟩:=bindS h
     refine rg (SQ (fa hg41 (fa hx42 (fa hx43 tt)))) ?_
     exact hjj37 _ h _ _ (mp [] _ _ hB)
  ·have h:=ite_f hg31 h
   apply AWp.exit
   apply seqQ_e
   obtain rfl:=oi h
   exact⟨(fun hc=>by cases hc),rfl,(mp [] _ _ hB)⟩
 ·rcases x44 with _ | _
  ·obtain⟨rfl,hmat⟩:=hR
   apply blkQ_r
   apply seqQ_r
   obtain rfl:=oi h
   exact rt (Mat.trans hmat (mp [] [(4,(bo false))] [] hB)) [(bo false)] (Res.tmp (by rfl) (by rfl) Res.nil) rfl
  ·obtain⟨rfl,hmat⟩:=hR
   apply blkQ_hit
   apply seqQ_n
   refine AWp.ghost hmat ?_
   refine sr (SQ tt) ?_
   apply AWp.ret
   obtain rfl:=oi h
   exact rt (kp [(4,_)] [] hB rfl rfl (by rfl)) [(bo ((a0.length:Int)==a1))] (Res.tmp (by rfl) (by rfl) Res.nil) rfl
def xref42_Copy_3 (a0:aFabric):Option (aFabric) :=
 chk (decide (a0.fLinks.length≤LIM)) <|
 chk (decide (a0.fDown.length≤LIM)) <|
 chk (decide (a0.fDead.length≤LIM)) <|
 some (aFabric.mk a0.fSwitches a0.fLinks a0.fDown a0.fDead)
theorem xref42_Copy_3_ac (a0:aFabric) (r:aFabric) (h:xref42_Copy_3 a0=some r):AC Try.prog 47 [(.d (e_aFabric a0))] [] (.st [(.d (.int .i64 r.fSwitches)),(.d (.list 3 (r.fLinks.map e_aLink))),(.sref 900000 1 0 r.fDown.length),(.sref 900001 1 0 r.fDead.length)]) [(900000,some (.row 4 1 (r.fDown.map eB))),(900001,some (.row 4 1 (r.fDead.map eB)))]:=by
 refine AC.of_code2 Try.func47 rfl rfl (Nat.le_of_ble_eq_true (by rfl)) fun B hB hN => ?_
 delta xref42_Copy_3 at h
 refine sr (SQ tt) ?_
 obtain⟨hc1,h⟩:=chk_some h
 refine sr (SQ (fa hc1 tt)) ?_
 obtain⟨hc2,h⟩:=chk_some h
 obtain⟨hc3,h⟩:=chk_some h
 refine sdS (SQ (fa hc2 (fa hc3 tt))) ?_
 refine sr (SQ tt) ?_
 apply AWp.ret
 obtain rfl:=oi h
 exact rt (Mat.trans (Mat.freezeP (n:=1005) (e:=45) (sz:=3) (es:=a0.fLinks.map e_aLink) (Ts:=[]) (Bs:=[(1002,some (.box 30 (.st [(i6 a0.fSwitches),(qe_aLink_3 a0.fLinks),(.sref 1009 1 0 a0.fDown.length),(.sref 1012 1 0 a0.fDead.length)])))]) (by rfl) TwT.nil (TwB.cons (x:=(.st [(i6 a0.fSwitches),(.sref 1005 3 0 a0.fLinks.length),(.sref 1009 1 0 a0.fDown.length),(.sref 1012 1 0 a0.fDead.length)])) (by rfl) (Tw.st (TwL.cons (Tw.same _) (TwL.cons (FrzL.all (by first | rfl | (simp;done) | (simp;omega) | omega)) (TwL.cons (Tw.same _) (TwL.cons (Tw.same _) TwL.nil))))) TwB.nil)) (mp [(900000,1009),(900001,1012)] [(2,(pt 1002))] [(1002,some (.box 30 (.st [(i6 a0.fSwitches),(qe_aLink_3 a0.fLinks),(.sref 900000 1 0 a0.fDown.length),(.sref 900001 1 0 a0.fDead.length)]))),(900000,some (.row 4 1 (a0.fDown.map eB))),(900001,some (.row 4 1 (a0.fDead.map eB)))] hB)) [(.st [(i6 a0.fSwitches),(qe_aLink_3 a0.fLinks),(.sref 900000 1 0 a0.fDown.length),(.sref 900001 1 0 a0.fDead.length)])] (Res.cell (c:=(.st [(i6 a0.fSwitches),(qe_aLink_3 a0.fLinks),(.sref 900000 1 0 a0.fDown.length),(.sref 900001 1 0 a0.fDead.length)])) (by rfl) (by rfl) tyS30 (by rfl) (by rfl) (by rfl) Res.nil) rfl
def xref42_Without_L0 (a1:(List aItem)) (s2:Int×(List Bool)×(List Bool)):Option ((((List Bool)×(List Bool)))⊕(Int×(List Bool)×(List Bool))) :=
 (if (decide (s2.1<(a1.length:Int)))=true then
 (idx a1 s2.1).bind fun x33 =>
 jn (fun m39:(List Bool)×(List Bool) =>
 some (.inr ((w64 (s2.1+1)),m39.1,m39.2))) (fun j40 =>
 (if x33.fSwitch=true then
 (idx s2.2.1 x33.fIndex).bind fun _ =>
 (idx s2.2.1 x33.fIndex).bind fun _ =>
 j40 ((s2.2.1.set x33.fIndex.toNat true),s2.2.2)
 else
 (idx s2.2.2 x33.fIndex).bind fun _ =>
 (idx s2.2.2 x33.fIndex).bind fun _ =>
 j40 (s2.2.1,(s2.2.2.set x33.fIndex.toNat true))))
 else
 some (.inl (s2.2.1,s2.2.2)))
def xref42_Without (a0:aFabric) (a1:(List aItem)):Option (aFabric) :=
 (xref42_Copy_3 a0).bind fun r1 =>
 (loop (xref42_Without_L0 a1) (0,r1.fDead,r1.fDown)).bind fun p31 =>
 some (aFabric.mk r1.fSwitches r1.fLinks p31.2 p31.1)
theorem xref42_Without_ac (a0:aFabric) (a1:(List aItem)) (r:aFabric) (h:xref42_Without a0 a1=some r):AC Try.prog 22 [(.d (e_aFabric a0)),(.d (.list 2 (a1.map e_aItem)))] [] (.d (e_aFabric r)) []:=by
 refine AC.of_code2 Try.func22 rfl rfl (Nat.le_of_ble_eq_true (by rfl)) fun B hB hN => ?_
 delta xref42_Without at h
 refine sr (SQ tt) ?_
 apply AWp.seq
 obtain⟨r1,hr1,h⟩:=bindS h
 refine rg (SQ (fa (cl [(900000,100000),(900001,100001)] (xref42_Copy_3_ac a0 r1 hr1)) tt)) ?_
 apply seqQ_n
 refine AWp.ghost (mp [] [(1,(qe_aItem_2 a1)),(4,(pt 1004)),(5,(pt 1005))] [(1004,some (.box 30 (.st [(i6 0),.nils,.nils,.nils]))),(1005,some (.box 30 (.st [(i6 r1.fSwitches),(qe_aLink_3 r1.fLinks),(.sref 100000 1 0 r1.fDown.length),(.sref 100001 1 0 r1.fDead.length)]))),(100000,some (.row 4 1 (r1.fDown.map eB))),(100001,some (.row 4 1 (r1.fDead.map eB)))] hB) ?_
 apply AWp.seq
 refine sr (SQ tt) ?_
 apply AWp.block
 obtain⟨p31,hx47,h⟩:=bindS h
 refine lg (xref42_Without_L0 a1) (fun s2:Int×(List Bool)×(List Bool)=>([(4,(pt 1004)),(5,(pt 1005)),(10,(qe_aItem_2 a1)),(11,(i6 (a1.length:Int))),(12,(i6 s2.1))]:EL)) (fun s2:Int×(List Bool)×(List Bool)=>([(1004,some (.box 30 (.st [(i6 0),.nils,.nils,.nils]))),(1005,some (.box 30 (.st [(i6 r1.fSwitches),(qe_aLink_3 r1.fLinks),(.sref 100000 1 0 s2.2.2.length),(.sref 100001 1 0 s2.2.1.length)]))),(100000,some (.row 4 1 (s2.2.2.map eB))),(100001,some (.row 4 1 (s2.2.1.map eB)))]:OL)) (fun(p31:((List Bool)×(List Bool))) e E' O'=>e = .exit 0∧Mat B E' O' ([(4,(pt 1004)),(5,(pt 1005))]:EL) ([(1004,some (.box 30 (.st [(i6 0),.nils,.nils,.nils]))),(1005,some (.box 30 (.st [(i6 r1.fSwitches),(qe_aLink_3 r1.fLinks),(.sref 100000 1 0 p31.2.length),(.sref 100001 1 0 p31.1.length)]))),(100000,some (.row 4 1 (p31.2.map eB))),(100001,some (.row 4 1 (p31.1.map eB)))]:OL)) hx47 (mp [] _ _ hB) (fun s2 y h => ?_) (fun e E' O' hR => ?_)
 ·unfold xref42_Without_L0 at h
  refine sr (SQ tt) ?_
  apply AWp.seq
  apply AWp.cond rfl<;>intro hg32
  ·have h:=ite_t hg32 h
   apply AWp.skip
   apply seqQ_n
   apply AWp.seq
   apply AWp.block
   obtain⟨x33,hx33,h⟩:=bindS h
   refine sr (SQ (fa hx33 tt)) ?_
   refine sr (SQ tt) ?_
   refine gh [(4,_),(5,_),(7,_),(10,_),(11,_),(12,_),(17,_)] [(1004,some _),(1005,some _),(1007,some _),(100000,some _),(100001,some _)] hB rfl rfl (by rfl) ?_
   refine AWp.cut h (fun m39:(List Bool)×(List Bool)=>([(4,(pt 1004)),(5,(pt 1005)),(10,(qe_aItem_2 a1)),(11,(i6 (a1.length:Int))),(12,(i6 s2.1))]:EL)) (fun m39:(List Bool)×(List Bool)=>([(1004,some (.box 30 (.st [(i6 0),.nils,.nils,.nils]))),(1005,some (.box 30 (.st [(i6 r1.fSwitches),(qe_aLink_3 r1.fLinks),(.sref 100000 1 0 m39.2.length),(.sref 100001 1 0 m39.1.length)]))),(100000,some (.row 4 1 (m39.2.map eB))),(100001,some (.row 4 1 (m39.1.map eB)))]:OL)) (fun m39 h E' O' hmat => ?_) (fun j40 hjj40 h => ?_)
   ·apply blkQ_n
    apply seqQ_n
    refine AWp.ghost hmat ?_
    refine rg (SQ tt) ?_
    obtain rfl:=oi h
    exact⟨rfl,(mp [] _ _ hB)⟩
   ·apply AWp.cond rfl<;>intro hg41
    ·have h:=ite_t hg41 h
     obtain⟨_,hx42,h⟩:=bindS h
     obtain⟨_,hx43,h⟩:=bindS h
     refine rg (SQ (fa hx42 (fa hx43 (fa (sv true) tt)))) ?_
     exact hjj40 _ h _ _ (Mat.trans (mp [] [(4,(pt 1004)),(5,(pt 1005)),(10,(qe_aItem_2 a1)),(11,(i6 (a1.length:Int))),(12,(i6 s2.1))] [(1004,some (.box 30 (.st [(i6 0),.nils,.nils,.nils]))),(1005,some (.box 30 (.st [(i6 r1.fSwitches),(qe_aLink_3 r1.fLinks),(.sref 100000 1 0 s2.2.2.length),(.sref 100001 1 0 s2.2.1.length)]))),(100000,some (.row 4 1 (s2.2.2.map eB))),(100001,some (.row 4 1 ((s2.2.1.set x33.fIndex.toNat true).map eB)))] hB) (Mat.trans (Mat.lenP (Ts:=[]) (Bs:=[(1005,some (.box 30 (.st [(i6 r1.fSwitches),(qe_aLink_3 r1.fLinks),(.sref 100000 1 0 s2.2.2.length),(.sref 100001 1 0 ((s2.2.1.set x33.fIndex.toNat true).length))])))]) TwT.nil (TwB.cons (x:=(.st [(i6 r1.fSwitches),(qe_aLink_3 r1.fLinks),(.sref 100000 1 0 s2.2.2.length),(.sref 100001 1 0 s2.2.1.length)])) (by rfl) (Tw.st (TwL.cons (Tw.same _) (TwL.cons (Tw.same _) (TwL.cons (Tw.same _) (TwL.cons (Tw.leaf ⟨_,_,_,_,_,rfl,rfl,(by first | rfl | (simp;done) | (simp;omega) | omega)⟩) TwL.nil))))) TwB.nil)) (mp [] _ _ hB)))
    ·have h:=ite_f hg41 h
     obtain⟨_,hx44,h⟩:=bindS h
     obtain⟨_,hx45,h⟩:=bindS h
     refine rg (SQ (fa hx44 (fa hx45 (fa (sv true) tt)))) ?_
     exact hjj40 _ h _ _ (Mat.trans (mp [] [(4,(pt 1004)),(5,(pt 1005)),(10,(qe_aItem_2 a1)),(11,(i6 (a1.length:Int))),(12,(i6 s2.1))] [(1004,some (.box 30 (.st [(i6 0),.nils,.nils,.nils]))),(1005,some (.box 30 (.st [(i6 r1.fSwitches),(qe_aLink_3 r1.fLinks),(.sref 100000 1 0 s2.2.2.length),(.sref 100001 1 0 s2.2.1.length)]))),(100000,some (.row 4 1 ((s2.2.2.set x33.fIndex.toNat true).map eB))),(100001,some (.row 4 1 (s2.2.1.map eB)))] hB) (Mat.trans (Mat.lenP (Ts:=[]) (Bs:=[(1005,some (.box 30 (.st [(i6 r1.fSwitches),(qe_aLink_3 r1.fLinks),(.sref 100000 1 0 ((s2.2.2.set x33.fIndex.toNat true).length)),(.sref 100001 1 0 s2.2.1.length)])))]) TwT.nil (TwB.cons (x:=(.st [(i6 r1.fSwitches),(qe_aLink_3 r1.fLinks),(.sref 100000 1 0 s2.2.2.length),(.sref 100001 1 0 s2.2.1.length)])) (by rfl) (Tw.st (TwL.cons (Tw.same _) (TwL.cons (Tw.same _) (TwL.cons (Tw.leaf ⟨_,_,_,_,_,rfl,rfl,(by first | rfl | (simp;done) | (simp;omega) | omega)⟩) (TwL.cons (Tw.same _) TwL.nil))))) TwB.nil)) (mp [] _ _ hB)))
  ·have h:=ite_f hg32 h
   apply AWp.exit
   apply seqQ_e
   obtain rfl:=oi h
   exact⟨(fun hc=>by cases hc),rfl,(mp [] _ _ hB)⟩
 ·obtain⟨rfl,hmat⟩:=hR
  apply blkQ_hit
  apply seqQ_n
  refine AWp.ghost hmat ?_
  refine sr (SQ tt) ?_
  apply AWp.ret
  obtain rfl:=oi h
  exact rt (Mat.trans (Mat.freezeP (n:=100000) (e:=4) (sz:=1) (es:=p31.2.map eB) (Ts:=[]) (Bs:=[(1004,some (.box 30 (.st [(i6 r1.fSwitches),(qe_aLink_3 r1.fLinks),(.d (.list 1 (p31.2.map eB))),(.sref 100001 1 0 p31.1.length)])))]) (by rfl) TwT.nil (TwB.cons (x:=(.st [(i6 r1.fSwitches),(qe_aLink_3 r1.fLinks),(.sref 100000 1 0 p31.2.length),(.sref 100001 1 0 p31.1.length)])) (by rfl) (Tw.st (TwL.cons (Tw.same _) (TwL.cons (Tw.same _) (TwL.cons (FrzL.all (by first | rfl | (simp;done) | (simp;omega) | omega)) (TwL.cons (Tw.same _) TwL.nil))))) TwB.nil)) (Mat.trans (Mat.freezeP (n:=100001) (e:=4) (sz:=1) (es:=p31.1.map eB) (Ts:=[]) (Bs:=[(1004,some (.box 30 (.st [(i6 r1.fSwitches),(qe_aLink_3 r1.fLinks),(.d (.list 1 (p31.2.map eB))),(.d (.list 1 (p31.1.map eB)))])))]) (by rfl) TwT.nil (TwB.cons (x:=(.st [(i6 r1.fSwitches),(qe_aLink_3 r1.fLinks),(.d (.list 1 (p31.2.map eB))),(.sref 100001 1 0 p31.1.length)])) (by rfl) (Tw.st (TwL.cons (Tw.same _) (TwL.cons (Tw.same _) (TwL.cons (Tw.same _) (TwL.cons (FrzL.all (by first | rfl | (simp;done) | (simp;omega) | omega)) TwL.nil))))) TwB.nil)) (Mat.trans (Mat.coeP (Ts:=[]) (Bs:=[(1004,bd 30 (.st [(.int .i64 r1.fSwitches),(.list 3 (r1.fLinks.map e_aLink)),(.list 1 (p31.2.map eB)),(.list 1 (p31.1.map eB))]))]) TwT.nil (TwB.cons (x:=(.st [(i6 r1.fSwitches),(qe_aLink_3 r1.fLinks),(.d (.list 1 (p31.2.map eB))),(.d (.list 1 (p31.1.map eB)))])) (by rfl) (Tw.leaf ⟨_,(Co.st (CoL.cons (Co.d _) (CoL.cons (Co.d _) (CoL.cons (Co.d _) (CoL.cons (Co.d _) CoL.nil))))),rfl⟩) TwB.nil)) (mp [] [(4,(pt 1004))] [(1004,bd 30 (.st [(.int .i64 r1.fSwitches),(.list 3 (r1.fLinks.map e_aLink)),(.list 1 (p31.2.map eB)),(.list 1 (p31.1.map eB))]))] hB)))) [(.d (.st [(.int .i64 r1.fSwitches),(.list 3 (r1.fLinks.map e_aLink)),(.list 1 (p31.2.map eB)),(.list 1 (p31.1.map eB))]))] (Res.cell (c:=(.d (.st [(.int .i64 r1.fSwitches),(.list 3 (r1.fLinks.map e_aLink)),(.list 1 (p31.2.map eB)),(.list 1 (p31.1.map eB))]))) (by rfl) (by rfl) tyS30 (by rfl) (by rfl) (by rfl) Res.nil) rfl
def xref13_Dead (a0:aFabric) (a1:Int):Option (Bool) :=
 jn (fun m3:Bool =>
 some m3) (fun j4 =>
 (if ((decide (a1<0)) || (decide ((a0.fDead.length:Int)≤a1)))=true then
 j4 true
 else
 (idx a0.fDead a1).bind fun x6 =>
 j4 x6))
theorem xref13_Dead_ac (a0:aFabric) (a1:Int) (r:Bool) (h:xref13_Dead a0 a1=some r):AC Try.prog 48 [(.d (e_aFabric a0)),(.d (.int .i64 a1))] [] (.d (.bool r)) []:=by
 refine ac2 Try.func48 rfl rfl fun B hB hN L => ?_
 delta xref13_Dead at h
 refine sr (SQ tt) ?_
 apply AWp.seq
 refine AWp.cut h (fun m3:Bool=>([(4,(bo m3))]:EL)) (fun m3:Bool=>([]:OL)) (fun m3 h E' O' hmat => ?_) (fun j4 hjj4 h => ?_)
 ·apply seqQ_n
  refine AWp.ghost hmat ?_
  apply AWp.ret
  obtain rfl:=oi h
  exact rt (kp [(4,_)] [] hB rfl rfl (by rfl)) [(bo m3)] (Res.tmp (by rfl) (by rfl) Res.nil) rfl
 ·rcases bft ((decide (a1<0)) || (decide ((a0.fDead.length:Int)≤a1))) with hg5 | hg5
  ·have h:=ite_t hg5 h
   refine rg (SQ (fa hg5 tt)) ?_
   exact hjj4 _ h _ _ (mp [] _ _ hB)
  ·have h:=ite_f hg5 h
   obtain⟨_,hx6,h⟩:=bindS h
   refine rg (SQ (fa hg5 (fa hx6 tt))) ?_
   exact hjj4 _ h _ _ (mp [] _ _ hB)
def xref13_Works (a0:aFabric) (a1:Int):Option (Bool) :=
 jn (fun m3:Bool =>
 (if m3=true then
 some false
 else
 (idx a0.fLinks a1).bind fun x6 =>
 jn (fun m11:Bool =>
 some m11) (fun j12 =>
 (xref13_Dead a0 x6.fA).bind fun r13 =>
 (if (!r13)=true then
 (xref13_Dead a0 x6.fB).bind fun r15 =>
 j12 (!r15)
 else
 j12 false)))) (fun j4 =>
 (if (((decide (a1<0)) || (decide ((a0.fLinks.length:Int)≤a1))) || (decide ((a0.fDown.length:Int)≤a1)))=true then
 j4 true
 else
 (idx a0.fDown a1).bind fun x17 =>
 j4 x17))
theorem xref13_Works_ac (a0:aFabric) (a1:Int) (r:Bool) (h:xref13_Works a0 a1=some r):AC Try.prog 50 [(.d (e_aFabric a0)),(.d (.int .i64 a1))] [] (.d (.bool r)) []:=by
 refine ac2 Try.func50 rfl rfl fun B hB hN L => ?_
 delta xref13_Works at h
 refine sr (SQ tt) ?_
 apply AWp.seq
 apply AWp.seq
 refine AWp.cut h (fun m3:Bool=>([(1,(i6 a1)),(2,(pt 1002)),(28,(bo m3))]:EL)) (fun m3:Bool=>([(1002,bd 30 (e_aFabric a0))]:OL)) (fun m3 h E' O' hmat => ?_) (fun j4 hjj4 h => ?_)
 ·apply seqQ_n
  refine AWp.ghost hmat ?_
  apply AWp.cond rfl<;>intro hg5
  ·have h:=ite_t hg5 h
   refine sr (SQ tt) ?_
   apply AWp.ret
   apply seqQ_r
   obtain rfl:=oi h
   exact rt (kp [(4,_)] [] hB rfl rfl (by rfl)) [(bo false)] (Res.tmp (by rfl) (by rfl) Res.nil) rfl
  ·have h:=ite_f hg5 h
   apply AWp.skip
   apply seqQ_n
   obtain⟨x6,hx6,h⟩:=bindS h
   refine sr (SQ (fa hx6 tt)) ?_
   apply AWp.seq
   refine AWp.cut h (fun m11:Bool=>([(4,(bo m11))]:EL)) (fun m11:Bool=>([]:OL)) (fun m11 h E' O' hmat => ?_) (fun j12 hjj12 h => ?_)
   ·apply seqQ_n
    refine AWp.ghost hmat ?_
    apply AWp.ret
    obtain rfl:=oi h
    exact rt (kp [(4,_)] [] hB rfl rfl (by rfl)) [(bo m11)] (Res.tmp (by rfl) (by rfl) Res.nil) rfl
   ·obtain⟨r13,hr13,h⟩:=bindS h
    rcases bft (!r13) with hg14 | hg14
    ·have h:=ite_t hg14 h
     obtain⟨r15,hr15,h⟩:=bindS h
     refine rg (SQ (fa (cl [] (xref13_Dead_ac a0 x6.fA r13 hr13)) (fa hg14 (fa (cl [] (xref13_Dead_ac a0 x6.fB r15 hr15)) tt)))) ?_
     exact hjj12 _ h _ _ (mp [] _ _ hB)
    ·have h:=ite_f hg14 h
     refine rg (SQ (fa (cl [] (xref13_Dead_ac a0 x6.fA r13 hr13)) (fa hg14 tt))) ?_
     exact hjj12 _ h _ _ (mp [] _ _ hB)
 ·rcases bft (((decide (a1<0)) || (decide ((a0.fLinks.length:Int)≤a1))) || (decide ((a0.fDown.length:Int)≤a1))) with hg16 | hg16
  ·have h:=ite_t hg16 h
   refine rg (SQ (fa hg16 tt)) ?_
   exact hjj4 _ h _ _ (mp [] _ _ hB)
  ·have h:=ite_f hg16 h
   obtain⟨_,hx17,h⟩:=bindS h
   refine rg (SQ (fa hg16 (fa hx17 tt))) ?_
   exact hjj4 _ h _ _ (mp [] _ _ hB)
def xref13_Distances_L0 (a0:aFabric) (s1:Int×(List Int)):Option ((((List Int)))⊕(Int×(List Int))) :=
 (if (decide (s1.1<a0.fSwitches))=true then
 chk (decide ((s1.2++([(-1)]:List Int)).length≤LIM)) <|
 some (.inr ((w64 (s1.1+1)),(s1.2++([(-1)]:List Int))))
 else
 some (.inl s1.2))
def xref13_Distances_L2 (a0:aFabric) (s15:Int×(List Int)) (s552:Int×(List Int)):Option ((((List Int)))⊕(Int×(List Int))) :=
 (if (decide (s552.1<(a0.fLinks.length:Int)))=true then
 jn (fun m771:(List Int) =>
 some (.inr ((w64 (s552.1+1)),m771))) (fun j772 =>
 (idx a0.fLinks s552.1).bind fun x773 =>
 (xref13_Works a0 s552.1).bind fun r774 =>
 (if (!r774)=true then
 j772 s552.2
 else
 jn (fun m783:Bool =>
 jn (fun m788:(List Int) =>
 jn (fun m797:Bool =>
 (if m797=true then
 (idx m788 x773.fA).bind fun _ =>
 (idx m788 x773.fA).bind fun _ =>
 j772 (m788.set x773.fA.toNat (w64 (s15.1+1)))
 else
 j772 m788)) (fun j798 =>
 (idx m788 x773.fB).bind fun _ =>
 (idx m788 x773.fB).bind fun x803 =>
 (if (x803==s15.1)=true then
 (idx m788 x773.fA).bind fun _ =>
 (idx m788 x773.fA).bind fun x806 =>
 j798 (decide (x806<0))
 else
 j798 false))) (fun j789 =>
 (if m783=true then
 (idx s552.2 x773.fB).bind fun _ =>
 (idx s552.2 x773.fB).bind fun _ =>
 j789 (s552.2.set x773.fB.toNat (w64 (s15.1+1)))
 else
 j789 s552.2))) (fun j784 =>
 (idx s552.2 x773.fA).bind fun _ =>
 (idx s552.2 x773.fA).bind fun x811 =>
 (if (x811==s15.1)=true then
 (idx s552.2 x773.fB).bind fun _ =>
 (idx s552.2 x773.fB).bind fun x814 =>
 j784 (decide (x814<0))
 else
 j784 false))))
 else
 some (.inl s552.2))
def xref13_Distances_L1 (a0:aFabric) (s15:Int×(List Int)):Option ((((List Int)))⊕(Int×(List Int))) :=
 (if (decide (s15.1<a0.fSwitches))=true then
 (loop (xref13_Distances_L2 a0 s15) (0,s15.2)).bind fun p727 =>
 some (.inr ((w64 (s15.1+1)),p727))
 else
 some (.inl s15.2))
def xref13_Distances (a0:aFabric) (a1:Int):Option ((List Int)) :=
 (loop (xref13_Distances_L0 a0) (0,([]:List Int))).bind fun p6 =>
 (xref13_Dead a0 a1).bind fun r11 =>
 (if r11=true then
 some p6
 else
 (idx p6 a1).bind fun _ =>
 (idx p6 a1).bind fun _ =>
 (loop (xref13_Distances_L1 a0) (0,(p6.set a1.toNat 0))).bind fun p550 =>
 some p550)
theorem xref13_Distances_ac (a0:aFabric) (a1:Int) (r:(List Int)) (h:xref13_Distances a0 a1=some r):AC Try.prog 49 [(.d (e_aFabric a0)),(.d (.int .i64 a1))] [] (.d (.list 1 (r.map (eI .i64)))) []:=by
 refine ac2 Try.func49 rfl rfl fun B hB hN L => ?_
 delta xref13_Distances at h
 refine sr (SQ tt) ?_
 refine sr (SQ tt) ?_
 apply AWp.seq
 refine sr (SQ tt) ?_
 apply AWp.block
 obtain⟨p6,hx10,h⟩:=bindS h
 refine lg (xref13_Distances_L0 a0) (fun s1:Int×(List Int)=>([(1,(i6 a1)),(2,(pt 1002)),(5,(.sref 3005 1 0 s1.2.length)),(10,(i6 a0.fSwitches)),(11,(i6 s1.1))]:EL)) (fun s1:Int×(List Int)=>([(1002,bd 30 (e_aFabric a0)),(3005,some (wI_3_1 s1.2))]:OL)) (fun(p6:((List Int))) e E' O'=>e = .exit 0∧Mat B E' O' ([(1,(i6 a1)),(2,(pt 1002)),(5,(.sref 3005 1 0 p6.length))]:EL) ([(1002,bd 30 (e_aFabric a0)),(3005,some (wI_3_1 p6))]:OL)) hx10 (Mat.trans (Mat.beginP (n:=3005) (e:=3) (sz:=1) (Ts:=[(5,(.sref 3005 1 0 0))]) (Bs:=[]) hB (by decide) (by rfl) (by decide) (TwT.cons (x:=.nils) (by rfl) (Tw.leaf ⟨rfl,rfl⟩) TwT.nil) TwB.nil) (mp [] _ _ hB)) (fun s1 y h => ?_) (fun e E' O' hR => ?_)
 ·unfold xref13_Distances_L0 at h
  refine sr (SQ tt) ?_
  apply AWp.seq
  apply AWp.cond rfl<;>intro hg7
  ·have h:=ite_t hg7 h
   apply AWp.skip
   apply seqQ_n
   apply AWp.seq
   apply AWp.block
   obtain⟨hc8,h⟩:=chk_some h
   refine rg (SQ (fa hc8 tt)) ?_
   apply blkQ_n
   apply seqQ_n
   refine rg (SQ tt) ?_
   obtain rfl:=oi h
   exact⟨rfl,(mp [(3005,1015)] _ _ hB)⟩
  ·have h:=ite_f hg7 h
   apply AWp.exit
   apply seqQ_e
   obtain rfl:=oi h
   exact⟨(fun hc=>by cases hc),rfl,(mp [] _ _ hB)⟩
 ·obtain⟨rfl,hmat⟩:=hR
  apply blkQ_hit
  apply seqQ_n
  refine AWp.ghost hmat ?_
  apply AWp.seq
  obtain⟨r11,hr11,h⟩:=bindS h
  refine sr (SQ (fa (cl [] (xref13_Dead_ac a0 a1 r11 hr11)) tt)) ?_
  apply AWp.cond rfl<;>intro hg12
  ·have h:=ite_t hg12 h
   refine sr (SQ tt) ?_
   apply AWp.ret
   apply seqQ_r
   obtain rfl:=oi h
   exact rt (Mat.trans (Mat.freezeP (n:=3005) (e:=3) (sz:=1) (es:=p6.map (eI .i64)) (Ts:=[(4,(qI_1 p6))]) (Bs:=[]) (by rfl) (TwT.cons (x:=(.sref 3005 1 0 p6.length)) (by rfl) (FrzL.all (by first | rfl | (simp;done) | (simp;omega) | omega)) TwT.nil) TwB.nil) (mp [] [(4,(qI_1 p6))] [] hB)) [(qI_1 p6)] (Res.tmp (by rfl) (by rfl) Res.nil) rfl
  ·have h:=ite_f hg12 h
   apply AWp.skip
   apply seqQ_n
   obtain⟨_,hx13,h⟩:=bindS h
   obtain⟨_,hx14,h⟩:=bindS h
   refine sr (SQ (fa hx13 (fa hx14 (fa (sv 0) tt)))) ?_
   apply AWp.seq
   refine sr (SQ tt) ?_
   apply AWp.block
   obtain⟨p550,hx818,h⟩:=bindS h
   refine lg (xref13_Distances_L1 a0) (fun s15:Int×(List Int)=>([(2,(pt 1002)),(5,(.sref 3005 1 0 s15.2.length)),(25,(i6 a0.fSwitches)),(26,(i6 s15.1))]:EL)) (fun s15:Int×(List Int)=>([(1002,bd 30 (e_aFabric a0)),(3005,some (wI_3_1 s15.2))]:OL)) (fun(p550:((List Int))) e E' O'=>e = .exit 2∧Mat B E' O' ([(5,(.sref 3005 1 0 p550.length))]:EL) ([(3005,some (wI_3_1 p550))]:OL)) hx818 (Mat.trans (Mat.lenP (Ts:=[(5,(.sref 3005 1 0 ((p6.set a1.toNat (0:Int)).length)))]) (Bs:=[]) (TwT.cons (x:=(.sref 3005 1 0 p6.length)) (by rfl) (Tw.leaf ⟨_,_,_,_,_,rfl,rfl,(by first | rfl | (simp;done) | (simp;omega) | omega)⟩) TwT.nil) TwB.nil) (mp [] _ _ hB)) (fun s15 y h => ?_) (fun e E' O' hR => ?_)
   ·unfold xref13_Distances_L1 at h
    refine sr (SQ tt) ?_
    apply AWp.seq
    apply AWp.cond rfl<;>intro hg551
    ·have h:=ite_t hg551 h
     apply AWp.skip
     apply seqQ_n
     apply AWp.seq
     apply AWp.block
     refine sr (SQ tt) ?_
     refine sr (SQ tt) ?_
     apply AWp.block
     obtain⟨p727,hx816,h⟩:=bindS h
     refine lg (xref13_Distances_L2 a0 s15) (fun s552:Int×(List Int)=>([(2,(pt 1002)),(5,(.sref 3005 1 0 s552.2.length)),(6,(i6 s15.1)),(25,(i6 a0.fSwitches)),(26,(i6 s15.1)),(30,(qe_aLink_3 a0.fLinks)),(31,(i6 (a0.fLinks.length:Int))),(32,(i6 s552.1))]:EL)) (fun s552:Int×(List Int)=>([(1002,bd 30 (e_aFabric a0)),(3005,some (wI_3_1 s552.2))]:OL)) (fun(p727:((List Int))) e E' O'=>e = .exit 4∧Mat B E' O' ([(2,(pt 1002)),(5,(.sref 3005 1 0 p727.length)),(25,(i6 a0.fSwitches)),(26,(i6 s15.1))]:EL) ([(1002,bd 30 (e_aFabric a0)),(3005,some (wI_3_1 p727))]:OL)) hx816 (mp [] _ _ hB) (fun s552 y h => ?_) (fun e E' O' hR => ?_)
     ·unfold xref13_Distances_L2 at h
      refine sr (SQ tt) ?_
      apply AWp.seq
      apply AWp.cond rfl<;>intro hg728
      ·have h:=ite_t hg728 h
       apply AWp.skip
       apply seqQ_n
       apply AWp.seq
       refine AWp.cut h (fun m771:(List Int)=>([(2,(pt 1002)),(5,(.sref 3005 1 0 m771.length)),(6,(i6 s15.1)),(25,(i6 a0.fSwitches)),(26,(i6 s15.1)),(30,(qe_aLink_3 a0.fLinks)),(31,(i6 (a0.fLinks.length:Int))),(32,(i6 s552.1))]:EL)) (fun m771:(List Int)=>([(1002,bd 30 (e_aFabric a0)),(3005,some (wI_3_1 m771))]:OL)) (fun m771 h E' O' hmat => ?_) (fun j772 hjj772 h => ?_)
       ·apply seqQ_n
        refine AWp.ghost hmat ?_
        refine rg (SQ tt) ?_
        obtain rfl:=oi h
        exact⟨rfl,(mp [] _ _ hB)⟩
       ·apply AWp.block
        obtain⟨x773,hx773,h⟩:=bindS h
        refine sr (SQ (fa hx773 tt)) ?_
        apply AWp.seq
        obtain⟨r774,hr774,h⟩:=bindS h
        refine sr (SQ (fa (cl [] (xref13_Works_ac a0 s552.1 r774 hr774)) tt)) ?_
        apply AWp.cond rfl<;>intro hg775
        ·have h:=ite_t hg775 h
         apply AWp.exit
         apply seqQ_e
         apply blkQ_hit
         exact hjj772 _ h _ _ (mp [] _ _ hB)
        ·have h:=ite_f hg775 h
         apply AWp.skip
         apply seqQ_n
         apply AWp.seq
         apply AWp.seq
         refine AWp.cut h (fun m783:Bool=>([(2,(pt 1002)),(5,(.sref 3005 1 0 s552.2.length)),(6,(i6 s15.1)),(8,(pt 1008)),(25,(i6 a0.fSwitches)),(26,(i6 s15.1)),(30,(qe_aLink_3 a0.fLinks)),(31,(i6 (a0.fLinks.length:Int))),(32,(i6 s552.1)),(55,(bo m783))]:EL)) (fun m783:Bool=>([(1002,bd 30 (e_aFabric a0)),(1008,bd 45 (e_aLink x773)),(3005,some (wI_3_1 s552.2))]:OL)) (fun m783 h E' O' hmat => ?_) (fun j784 hjj784 h => ?_)
         ·apply seqQ_n
          refine AWp.ghost hmat ?_
          refine AWp.cut h (fun m788:(List Int)=>([(2,(pt 1002)),(5,(.sref 3005 1 0 m788.length)),(6,(i6 s15.1)),(8,(pt 1008)),(25,(i6 a0.fSwitches)),(26,(i6 s15.1)),(30,(qe_aLink_3 a0.fLinks)),(31,(i6 (a0.fLinks.length:Int))),(32,(i6 s552.1))]:EL)) (fun m788:(List Int)=>([(1002,bd 30 (e_aFabric a0)),(1008,bd 45 (e_aLink x773)),(3005,some (wI_3_1 m788))]:OL)) (fun m788 h E' O' hmat => ?_) (fun j789 hjj789 h => ?_)
          ·apply seqQ_n
           refine AWp.ghost hmat ?_
           apply AWp.seq
           refine AWp.cut h (fun m797:Bool=>([(2,(pt 1002)),(5,(.sref 3005 1 0 m788.length)),(6,(i6 s15.1)),(8,(pt 1008)),(25,(i6 a0.fSwitches)),(26,(i6 s15.1)),(30,(qe_aLink_3 a0.fLinks)),(31,(i6 (a0.fLinks.length:Int))),(32,(i6 s552.1)),(76,(bo m797))]:EL)) (fun m797:Bool=>([(1002,bd 30 (e_aFabric a0)),(1008,bd 45 (e_aLink x773)),(3005,some (wI_3_1 m788))]:OL)) (fun m797 h E' O' hmat => ?_) (fun j798 hjj798 h => ?_)
           ·apply seqQ_n
            refine AWp.ghost hmat ?_
            apply AWp.cond rfl<;>intro hg799
            ·have h:=ite_t hg799 h
             obtain⟨_,hx800,h⟩:=bindS h
             obtain⟨_,hx801,h⟩:=bindS h
             refine rg (SQ (fa hx800 (fa hx801 (fa (sv (w64 (s15.1+1))) tt)))) ?_
             apply blkQ_n
             exact hjj772 _ h _ _ (Mat.trans (mp [] [(2,(pt 1002)),(5,(.sref 3005 1 0 m788.length)),(6,(i6 s15.1)),(25,(i6 a0.fSwitches)),(26,(i6 s15.1)),(30,(qe_aLink_3 a0.fLinks)),(31,(i6 (a0.fLinks.length:Int))),(32,(i6 s552.1))] [(1002,bd 30 (e_aFabric a0)),(3005,some (wI_3_1 (m788.set x773.fA.toNat (w64 (s15.1+1)))))] hB) (Mat.trans (Mat.lenP (Ts:=[(5,(.sref 3005 1 0 ((m788.set x773.fA.toNat (w64 (s15.1+1))).length)))]) (Bs:=[]) (TwT.cons (x:=(.sref 3005 1 0 m788.length)) (by rfl) (Tw.leaf ⟨_,_,_,_,_,rfl,rfl,(by first | rfl | (simp;done) | (simp;omega) | omega)⟩) TwT.nil) TwB.nil) (mp [] _ _ hB)))
            ·have h:=ite_f hg799 h
             apply AWp.skip
             apply blkQ_n
             exact hjj772 _ h _ _ (mp [] _ _ hB)
           ·obtain⟨_,hx802,h⟩:=bindS h
            obtain⟨x803,hx803,h⟩:=bindS h
            rcases bft (x803==s15.1) with hg804 | hg804
            ·have h:=ite_t hg804 h
             obtain⟨_,hx805,h⟩:=bindS h
             obtain⟨_,hx806,h⟩:=bindS h
             refine rg (SQ (fa hx802 (fa hx803 (fa hg804 (fa hx805 (fa hx806 tt)))))) ?_
             exact hjj798 _ h _ _ (mp [] _ _ hB)
            ·have h:=ite_f hg804 h
             refine rg (SQ (fa hx802 (fa hx803 (fa hg804 tt)))) ?_
             exact hjj798 _ h _ _ (mp [] _ _ hB)
          ·apply AWp.cond rfl<;>intro hg807
           ·have h:=ite_t hg807 h
            obtain⟨_,hx808,h⟩:=bindS h
            obtain⟨_,hx809,h⟩:=bindS h
            refine rg (SQ (fa hx808 (fa hx809 (fa (sv (w64 (s15.1+1))) tt)))) ?_
            exact hjj789 _ h _ _ (Mat.trans (mp [] [(2,(pt 1002)),(5,(.sref 3005 1 0 s552.2.length)),(6,(i6 s15.1)),(8,(pt 1008)),(25,(i6 a0.fSwitches)),(26,(i6 s15.1)),(30,(qe_aLink_3 a0.fLinks)),(31,(i6 (a0.fLinks.length:Int))),(32,(i6 s552.1))] [(1002,bd 30 (e_aFabric a0)),(1008,bd 45 (e_aLink x773)),(3005,some (wI_3_1 (s552.2.set x773.fB.toNat (w64 (s15.1+1)))))] hB) (Mat.trans (Mat.lenP (Ts:=[(5,(.sref 3005 1 0 ((s552.2.set x773.fB.toNat (w64 (s15.1+1))).length)))]) (Bs:=[]) (TwT.cons (x:=(.sref 3005 1 0 s552.2.length)) (by rfl) (Tw.leaf ⟨_,_,_,_,_,rfl,rfl,(by first | rfl | (simp;done) | (simp;omega) | omega)⟩) TwT.nil) TwB.nil) (mp [] _ _ hB)))
           ·have h:=ite_f hg807 h
            apply AWp.skip
            exact hjj789 _ h _ _ (mp [] _ _ hB)
         ·obtain⟨_,hx810,h⟩:=bindS h
          obtain⟨x811,hx811,h⟩:=bindS h
          rcases bft (x811==s15.1) with hg812 | hg812
          ·have h:=ite_t hg812 h
           obtain⟨_,hx813,h⟩:=bindS h
           obtain⟨_,hx814,h⟩:=bindS h
           refine rg (SQ (fa hx810 (fa hx811 (fa hg812 (fa hx813 (fa hx814 tt)))))) ?_
           exact hjj784 _ h _ _ (mp [] _ _ hB)
          ·have h:=ite_f hg812 h
           refine rg (SQ (fa hx810 (fa hx811 (fa hg812 tt)))) ?_
           exact hjj784 _ h _ _ (mp [] _ _ hB)
      ·have h:=ite_f hg728 h
       apply AWp.exit
       apply seqQ_e
       obtain rfl:=oi h
       exact⟨(fun hc=>by cases hc),rfl,(mp [] _ _ hB)⟩
     ·obtain⟨rfl,hmat⟩:=hR
      apply blkQ_hit
      apply blkQ_n
      apply seqQ_n
      refine AWp.ghost hmat ?_
      refine rg (SQ tt) ?_
      obtain rfl:=oi h
      exact⟨rfl,(mp [] _ _ hB)⟩
    ·have h:=ite_f hg551 h
     apply AWp.exit
     apply seqQ_e
     obtain rfl:=oi h
     exact⟨(fun hc=>by cases hc),rfl,(mp [] _ _ hB)⟩
   ·obtain⟨rfl,hmat⟩:=hR
    apply blkQ_hit
    apply seqQ_n
    refine AWp.ghost hmat ?_
    refine sr (SQ tt) ?_
    apply AWp.ret
    obtain rfl:=oi h
    exact rt (Mat.trans (Mat.freezeP (n:=3005) (e:=3) (sz:=1) (es:=p550.map (eI .i64)) (Ts:=[(4,(qI_1 p550))]) (Bs:=[]) (by rfl) (TwT.cons (x:=(.sref 3005 1 0 p550.length)) (by rfl) (FrzL.all (by first | rfl | (simp;done) | (simp;omega) | omega)) TwT.nil) TwB.nil) (mp [] [(4,(qI_1 p550))] [] hB)) [(qI_1 p550)] (Res.tmp (by rfl) (by rfl) Res.nil) rfl
def xref14_Way_L1 (a0:aFabric) (r8:(List Int)) (s9:Int×(List Int)) (s231:Int×(List Int)×(List Int)):Option ((((List Int)×(List Int)))⊕(Int×(List Int)×(List Int))) :=
 (if (decide (s231.1<(a0.fLinks.length:Int)))=true then
 (idx a0.fLinks s231.1).bind fun x298 =>
 jn (fun m301:Int =>
 jn (fun m310:Bool =>
 jn (fun m315:(List Int)×(List Int) =>
 some (.inr ((w64 (s231.1+1)),m315.1,m315.2))) (fun j316 =>
 (if m310=true then
 chk (decide ((s231.2.2++([s231.1]:List Int)).length≤LIM)) <|
 chk (decide ((s231.2.1++([m301]:List Int)).length≤LIM)) <|
 j316 ((s231.2.1++([m301]:List Int)),(s231.2.2++([s231.1]:List Int)))
 else
 j316 (s231.2.1,s231.2.2)))) (fun j311 =>
 (if (decide (0≤m301))=true then
 (xref13_Works a0 s231.1).bind fun r321 =>
 (if r321=true then
 (idx r8 s9.1).bind fun x323 =>
 (if (decide (0≤x323))=true then
 (idx r8 m301).bind fun x325 =>
 (idx r8 s9.1).bind fun x326 =>
 j311 (x325==(w64 (x326-1)))
 else
 j311 false)
 else
 j311 false)
 else
 j311 false))) (fun j302 =>
 (if (s9.1==x298.fA)=true then
 j302 x298.fB
 else
 (if (s9.1==x298.fB)=true then
 j302 x298.fA
 else
 j302 (-1))))
 else
 some (.inl (s231.2.1,s231.2.2)))
def xref14_Way_L0 (a0:aFabric) (a2:Int) (a3:Int) (r8:(List Int)) (s9:Int×(List Int)):Option (((Unit)⊕((List Int)))⊕(Int×(List Int))) :=
 (if (s9.1 != a2)=true then
 (loop (xref14_Way_L1 a0 r8 s9) (0,([]:List Int),([]:List Int))).bind fun p296 =>
 (if ((p296.2.length:Int)==0)=true then
 some (.inl (.inl ()))
 else
 chk (decide ((p296.2.length:Int)≠0)) <|
 (idx p296.2 (Int.tmod (maxI 0 a3) (p296.2.length:Int))).bind fun _ =>
 (idx p296.2 (Int.tmod (maxI 0 a3) (p296.2.length:Int))).bind fun x334 =>
 chk (decide ((s9.2++([x334]:List Int)).length≤LIM)) <|
 (idx p296.1 (Int.tmod (maxI 0 a3) (p296.2.length:Int))).bind fun _ =>
 (idx p296.1 (Int.tmod (maxI 0 a3) (p296.2.length:Int))).bind fun x337 =>
 some (.inr (x337,(s9.2++([x334]:List Int)))))
 else
 some (.inl (.inr s9.2)))
def xref14_Way (a0:aFabric) (a1:Int) (a2:Int) (a3:Int):Option ((List Int)×Bool) :=
 jn (fun m5:Bool =>
 (if m5=true then
 some (([]:List Int),false)
 else
 (xref13_Distances a0 a2).bind fun r8 =>
 (loop (xref14_Way_L0 a0 a2 a3 r8) (a1,([]:List Int))).bind fun x338=>match x338 with
 | (.inl _) =>
  some (([]:List Int),false)
 | (.inr p229) =>
  some (p229,true))) (fun j6 =>
 (xref13_Dead a0 a1).bind fun r340 =>
 (if r340=true then
 j6 true
 else
 (xref13_Dead a0 a2).bind fun r342 =>
 j6 r342))
theorem xref14_Way_ac (a0:aFabric) (a1:Int) (a2:Int) (a3:Int) (r:(List Int)×Bool) (h:xref14_Way a0 a1 a2 a3=some r):AC Try.prog 23 [(.d (e_aFabric a0)),(.d (.int .i64 a1)),(.d (.int .i64 a2)),(.d (.int .i64 a3))] [] (.tup [(.d (.list 1 (r.1.map (eI .i64)))),(.d (.bool r.2))]) []:=by
 refine ac2 Try.func23 rfl rfl fun B hB hN L => ?_
 delta xref14_Way at h
 refine sr (SQ tt) ?_
 apply AWp.seq
 apply AWp.seq
 refine AWp.cut h (fun m5:Bool=>([(1,(i6 a1)),(2,(i6 a2)),(3,(i6 a3)),(4,(pt 1004)),(26,(bo m5))]:EL)) (fun m5:Bool=>([(1004,bd 30 (e_aFabric a0))]:OL)) (fun m5 h E' O' hmat => ?_) (fun j6 hjj6 h => ?_)
 ·apply seqQ_n
  refine AWp.ghost hmat ?_
  apply AWp.cond rfl<;>intro hg7
  ·have h:=ite_t hg7 h
   refine sr (SQ tt) ?_
   apply AWp.ret
   apply seqQ_r
   obtain rfl:=oi h
   exact rt (Mat.trans (Mat.coeP (Ts:=[(8,(qI_1 ([]:List Int)))]) (Bs:=[]) (TwT.cons (x:=.nils) (by rfl) (Tw.leaf ⟨_,(Co.nils 1),rfl⟩) TwT.nil) TwB.nil) (mp [] [(8,(qI_1 ([]:List Int))),(9,(bo false))] [] hB)) [(qI_1 ([]:List Int)),(bo false)] (Res.tmp (by rfl) (by rfl) (Res.tmp (by rfl) (by rfl) Res.nil)) rfl
  ·have h:=ite_f hg7 h
   apply AWp.skip
   apply seqQ_n
   obtain⟨r8,hr8,h⟩:=bindS h
   refine sr (SQ (fa (cl [] (xref13_Distances_ac a0 a2 r8 hr8)) tt)) ?_
   refine sr (SQ tt) ?_
   apply AWp.seq
   refine sr (SQ tt) ?_
   apply AWp.block
   obtain⟨x338,hx339,h⟩:=bindS h
   refine lg (xref14_Way_L0 a0 a2 a3 r8) (fun s9:Int×(List Int)=>([(2,(i6 a2)),(3,(i6 a3)),(4,(pt 1004)),(10,(qI_1 r8)),(11,(.sref 3011 1 0 s9.2.length)),(12,(i6 s9.1))]:EL)) (fun s9:Int×(List Int)=>([(1004,bd 30 (e_aFabric a0)),(3011,some (wI_3_1 s9.2))]:OL)) (fun(x:(Unit)⊕((List Int))) e E' O'=>match x with | (.inl _p)=>e = .ret∧Mat B E' O' ([(8,.nils),(9,(bo false))]:EL) ([]:OL) | (.inr p229)=>e = .exit 0∧Mat B E' O' ([(11,(.sref 3011 1 0 p229.length))]:EL) ([(3011,some (wI_3_1 p229))]:OL)) hx339 (Mat.trans (Mat.beginP (n:=3011) (e:=3) (sz:=1) (Ts:=[(11,(.sref 3011 1 0 0))]) (Bs:=[]) hB (by decide) (by rfl) (by decide) (TwT.cons (x:=.nils) (by rfl) (Tw.leaf ⟨rfl,rfl⟩) TwT.nil) TwB.nil) (mp [] _ _ hB)) (fun s9 y h => ?_) (fun e E' O' hR => ?_)
   ·unfold xref14_Way_L0 at h
    apply AWp.seq
    refine sr (SQ tt) ?_
    apply AWp.cond rfl<;>intro hg230
    ·have h:=ite_t hg230 h
     apply AWp.skip
     apply seqQ_n
     apply AWp.block
     refine sr (SQ tt) ?_
     apply AWp.seq
     refine sr (SQ tt) ?_
     apply AWp.block
     obtain⟨p296,hx330,h⟩:=bindS h
     refine lg (xref14_Way_L1 a0 r8 s9) (fun s231:Int×(List Int)×(List Int)=>([(2,(i6 a2)),(3,(i6 a3)),(4,(pt 1004)),(10,(qI_1 r8)),(11,(.sref 3011 1 0 s9.2.length)),(12,(i6 s9.1)),(13,(.sref 3013 1 0 s231.2.2.length)),(14,(.sref 3014 1 0 s231.2.1.length)),(35,(qe_aLink_3 a0.fLinks)),(36,(i6 (a0.fLinks.length:Int))),(37,(i6 s231.1))]:EL)) (fun s231:Int×(List Int)×(List Int)=>([(1004,bd 30 (e_aFabric a0)),(3011,some (wI_3_1 s9.2)),(3013,some (wI_3_1 s231.2.2)),(3014,some (wI_3_1 s231.2.1))]:OL)) (fun(p296:((List Int)×(List Int))) e E' O'=>e = .exit 2∧Mat B E' O' ([(2,(i6 a2)),(3,(i6 a3)),(4,(pt 1004)),(10,(qI_1 r8)),(11,(.sref 3011 1 0 s9.2.length)),(13,(.sref 3013 1 0 p296.2.length)),(14,(.sref 3014 1 0 p296.1.length))]:EL) ([(1004,bd 30 (e_aFabric a0)),(3011,some (wI_3_1 s9.2)),(3013,some (wI_3_1 p296.2)),(3014,some (wI_3_1 p296.1))]:OL)) hx330 (Mat.trans (Mat.beginP (n:=3013) (e:=3) (sz:=1) (Ts:=[(13,(.sref 3013 1 0 0))]) (Bs:=[]) hB (by decide) (by rfl) (by decide) (TwT.cons (x:=.nils) (by rfl) (Tw.leaf ⟨rfl,rfl⟩) TwT.nil) TwB.nil) (Mat.trans (Mat.beginP (n:=3014) (e:=3) (sz:=1) (Ts:=[(14,(.sref 3014 1 0 0))]) (Bs:=[]) hB (by decide) (by rfl) (by decide) (TwT.cons (x:=.nils) (by rfl) (Tw.leaf ⟨rfl,rfl⟩) TwT.nil) TwB.nil) (mp [] _ _ hB))) (fun s231 y h => ?_) (fun e E' O' hR => ?_)
     ·unfold xref14_Way_L1 at h
      refine sr (SQ tt) ?_
      apply AWp.seq
      apply AWp.cond rfl<;>intro hg297
      ·have h:=ite_t hg297 h
       apply AWp.skip
       apply seqQ_n
       apply AWp.seq
       apply AWp.block
       obtain⟨_,hx298,h⟩:=bindS h
       refine sr (SQ (fa hx298 tt)) ?_
       refine sr (SQ tt) ?_
       apply AWp.seq
       refine sr (SQ tt) ?_
       apply AWp.block
       refine sr (SQ tt) ?_
       refine gh [(2,_),(3,_),(4,_),(10,_),(11,_),(12,_),(13,_),(14,_),(15,_),(16,_),(17,_),(35,_),(36,_),(37,_),(42,_),(43,_)] [(1004,some _),(1016,some _),(3011,some _),(3013,some _),(3014,some _)] hB rfl rfl (by rfl) ?_
       refine AWp.cut h (fun m301:Int=>([(2,(i6 a2)),(3,(i6 a3)),(4,(pt 1004)),(10,(qI_1 r8)),(11,(.sref 3011 1 0 s9.2.length)),(12,(i6 s9.1)),(13,(.sref 3013 1 0 s231.2.2.length)),(14,(.sref 3014 1 0 s231.2.1.length)),(15,(i6 s231.1)),(17,(i6 m301)),(35,(qe_aLink_3 a0.fLinks)),(36,(i6 (a0.fLinks.length:Int))),(37,(i6 s231.1))]:EL)) (fun m301:Int=>([(1004,bd 30 (e_aFabric a0)),(3011,some (wI_3_1 s9.2)),(3013,some (wI_3_1 s231.2.2)),(3014,some (wI_3_1 s231.2.1))]:OL)) (fun m301 h E' O' hmat => ?_) (fun j302 hjj302 h => ?_)
       ·apply blkQ_n
        apply seqQ_n
        refine AWp.ghost hmat ?_
        apply AWp.seq
        refine AWp.cut h (fun m310:Bool=>([(2,(i6 a2)),(3,(i6 a3)),(4,(pt 1004)),(10,(qI_1 r8)),(11,(.sref 3011 1 0 s9.2.length)),(12,(i6 s9.1)),(13,(.sref 3013 1 0 s231.2.2.length)),(14,(.sref 3014 1 0 s231.2.1.length)),(15,(i6 s231.1)),(17,(i6 m301)),(35,(qe_aLink_3 a0.fLinks)),(36,(i6 (a0.fLinks.length:Int))),(37,(i6 s231.1)),(80,(bo m310))]:EL)) (fun m310:Bool=>([(1004,bd 30 (e_aFabric a0)),(3011,some (wI_3_1 s9.2)),(3013,some (wI_3_1 s231.2.2)),(3014,some (wI_3_1 s231.2.1))]:OL)) (fun m310 h E' O' hmat => ?_) (fun j311 hjj311 h => ?_)
        ·apply seqQ_n
         refine AWp.ghost hmat ?_
         refine AWp.cut h (fun m315:(List Int)×(List Int)=>([(2,(i6 a2)),(3,(i6 a3)),(4,(pt 1004)),(10,(qI_1 r8)),(11,(.sref 3011 1 0 s9.2.length)),(12,(i6 s9.1)),(13,(.sref 3013 1 0 m315.2.length)),(14,(.sref 3014 1 0 m315.1.length)),(35,(qe_aLink_3 a0.fLinks)),(36,(i6 (a0.fLinks.length:Int))),(37,(i6 s231.1))]:EL)) (fun m315:(List Int)×(List Int)=>([(1004,bd 30 (e_aFabric a0)),(3011,some (wI_3_1 s9.2)),(3013,some (wI_3_1 m315.2)),(3014,some (wI_3_1 m315.1))]:OL)) (fun m315 h E' O' hmat => ?_) (fun j316 hjj316 h => ?_)
         ·apply blkQ_n
          apply seqQ_n
          refine AWp.ghost hmat ?_
          refine rg (SQ tt) ?_
          obtain rfl:=oi h
          exact⟨rfl,(mp [] _ _ hB)⟩
         ·apply AWp.cond rfl<;>intro hg317
          ·have h:=ite_t hg317 h
           obtain⟨hc318,h⟩:=chk_some h
           obtain⟨hc319,h⟩:=chk_some h
           refine rg (SQ (fa hc318 (fa hc319 tt))) ?_
           exact hjj316 _ h _ _ (mp [(3013,1084),(3014,1088)] _ _ hB)
          ·have h:=ite_f hg317 h
           apply AWp.skip
           exact hjj316 _ h _ _ (mp [] _ _ hB)
        ·rcases bft (decide (0≤m301)) with hg320 | hg320
         ·have h:=ite_t hg320 h
          obtain⟨r321,hr321,h⟩:=bindS h
          rcases bft r321 with hg322 | hg322
          ·have h:=ite_t hg322 h
           obtain⟨x323,hx323,h⟩:=bindS h
           rcases bft (decide (0≤x323)) with hg324 | hg324
           ·have h:=ite_t hg324 h
            obtain⟨_,hx325,h⟩:=bindS h
            obtain⟨_,hx326,h⟩:=bindS h
            refine drS (SQ (fa hg320 (fa (cl [] (xref13_Works_ac a0 s231.1 r321 hr321)) (fa hg322 (fa hx323 (fa hg324 (fa hx325 (fa hx326 tt)))))))) ?_
            exact hjj311 _ h _ _ (mp [] _ _ hB)
           ·have h:=ite_f hg324 h
            refine drS (SQ (fa hg320 (fa (cl [] (xref13_Works_ac a0 s231.1 r321 hr321)) (fa hg322 (fa hx323 (fa hg324 tt)))))) ?_
            exact hjj311 _ h _ _ (mp [] _ _ hB)
          ·have h:=ite_f hg322 h
           refine drS (SQ (fa hg320 (fa (cl [] (xref13_Works_ac a0 s231.1 r321 hr321)) (fa hg322 tt)))) ?_
           exact hjj311 _ h _ _ (mp [] _ _ hB)
         ·have h:=ite_f hg320 h
          refine drS (SQ (fa hg320 tt)) ?_
          exact hjj311 _ h _ _ (mp [] _ _ hB)
       ·apply AWp.cond rfl<;>intro hg327
        ·have h:=ite_t hg327 h
         refine rg (SQ tt) ?_
         exact hjj302 _ h _ _ (mp [] _ _ hB)
        ·have h:=ite_f hg327 h
         refine sr (SQ tt) ?_
         apply AWp.cond rfl<;>intro hg328
         ·have h:=ite_t hg328 h
          refine rg (SQ tt) ?_
          exact hjj302 _ h _ _ (mp [] _ _ hB)
         ·have h:=ite_f hg328 h
          apply AWp.skip
          exact hjj302 _ h _ _ (mp [] _ _ hB)
      ·have h:=ite_f hg297 h
       apply AWp.exit
       apply seqQ_e
       obtain rfl:=oi h
       exact⟨(fun hc=>by cases hc),rfl,(mp [] _ _ hB)⟩
     ·obtain⟨rfl,hmat⟩:=hR
      apply blkQ_hit
      apply seqQ_n
      refine AWp.ghost hmat ?_
      apply AWp.seq
      refine sr (SQ tt) ?_
      apply AWp.cond rfl<;>intro hg331
      ·have h:=ite_t hg331 h
       refine sr (SQ tt) ?_
       apply AWp.ret
       apply seqQ_r
       apply blkQ_r
       obtain rfl:=oi h
       exact⟨(fun hc=>by cases hc),rfl,(mp [] _ _ hB)⟩
      ·have h:=ite_f hg331 h
       apply AWp.skip
       apply seqQ_n
       obtain⟨hc332,h⟩:=chk_some h
       refine sr (SQ (fa hc332 tt)) ?_
       obtain⟨_,hx333,h⟩:=bindS h
       obtain⟨_,hx334,h⟩:=bindS h
       obtain⟨hc335,h⟩:=chk_some h
       obtain⟨_,hx336,h⟩:=bindS h
       obtain⟨_,hx337,h⟩:=bindS h
       refine drS (SQ (fa hx333 (fa hx334 (fa hc335 (fa hx336 (fa hx337 tt)))))) ?_
       apply blkQ_n
       obtain rfl:=oi h
       exact⟨rfl,(mp [(3011,1104)] _ _ hB)⟩
    ·have h:=ite_f hg230 h
     apply AWp.exit
     apply seqQ_e
     obtain rfl:=oi h
     exact⟨(fun hc=>by cases hc),rfl,(mp [] _ _ hB)⟩
   ·rcases x338 with _ | p229
    ·obtain⟨rfl,hmat⟩:=hR
     apply blkQ_r
     apply seqQ_r
     obtain rfl:=oi h
     exact rt (Mat.trans hmat (Mat.trans (Mat.coeP (Ts:=[(8,(qI_1 ([]:List Int)))]) (Bs:=[]) (TwT.cons (x:=.nils) (by rfl) (Tw.leaf ⟨_,(Co.nils 1),rfl⟩) TwT.nil) TwB.nil) (mp [] [(8,(qI_1 ([]:List Int))),(9,(bo false))] [] hB))) [(qI_1 ([]:List Int)),(bo false)] (Res.tmp (by rfl) (by rfl) (Res.tmp (by rfl) (by rfl) Res.nil)) rfl
    ·obtain⟨rfl,hmat⟩:=hR
     apply blkQ_hit
     apply seqQ_n
     refine AWp.ghost hmat ?_
     refine sr (SQ tt) ?_
     apply AWp.ret
     obtain rfl:=oi h
     exact rt (Mat.trans (Mat.freezeP (n:=3011) (e:=3) (sz:=1) (es:=p229.map (eI .i64)) (Ts:=[(8,(qI_1 p229))]) (Bs:=[]) (by rfl) (TwT.cons (x:=(.sref 3011 1 0 p229.length)) (by rfl) (FrzL.all (by first | rfl | (simp;done) | (simp;omega) | omega)) TwT.nil) TwB.nil) (mp [] [(8,(qI_1 p229)),(9,(bo true))] [] hB)) [(qI_1 p229),(bo true)] (Res.tmp (by rfl) (by rfl) (Res.tmp (by rfl) (by rfl) Res.nil)) rfl
 ·obtain⟨r340,hr340,h⟩:=bindS h
  rcases bft r340 with hg341 | hg341
  ·have h:=ite_t hg341 h
   refine rg (SQ (fa (cl [] (xref13_Dead_ac a0 a1 r340 hr340)) (fa hg341 tt))) ?_
   exact hjj6 _ h _ _ (mp [] _ _ hB)
  ·have h:=ite_f hg341 h
   obtain⟨r342,hr342,h⟩:=bindS h
   refine rg (SQ (fa (cl [] (xref13_Dead_ac a0 a1 r340 hr340)) (fa hg341 (fa (cl [] (xref13_Dead_ac a0 a2 r342 hr342)) tt)))) ?_
   exact hjj6 _ h _ _ (mp [] _ _ hB)
def xref43_over_2_L1 (x153:aLoad) (r157:(List Int)×Bool) (s158:Int×(List Int)):Option ((((List Int)))⊕(Int×(List Int))) :=
 (if (decide (s158.1<(r157.1.length:Int)))=true then
 (idx r157.1 s158.1).bind fun x173 =>
 (idx s158.2 x173).bind fun _ =>
 (idx s158.2 x173).bind fun x175 =>
 (idx s158.2 x173).bind fun _ =>
 (idx s158.2 x173).bind fun _ =>
 some (.inr ((w64 (s158.1+1)),(s158.2.set x173.toNat (w64 (x175+x153.fRate)))))
 else
 some (.inl s158.2))
def xref43_over_2_L0 (a0:aFabric) (a1:(List aLoad)) (a2:(List Bool)) (s2:Int×(List Int)):Option ((((List Int)))⊕(Int×(List Int))) :=
 (if (decide (s2.1<(a1.length:Int)))=true then
 jn (fun m151:(List Int) =>
 some (.inr ((w64 (s2.1+1)),m151))) (fun j152 =>
 (idx a1 s2.1).bind fun x153 =>
 (idx a2 s2.1).bind fun _ =>
 (idx a2 s2.1).bind fun x155 =>
 (if x155=true then
 j152 s2.2
 else
 (xref14_Way a0 x153.fA x153.fB s2.1).bind fun r157 =>
 (loop (xref43_over_2_L1 x153 r157) (0,s2.2)).bind fun p171 =>
 j152 p171))
 else
 some (.inl s2.2))
def xref43_over_2_L2 (a0:aFabric) (p121:(List Int)) (s182:Int):Option (((Unit)⊕(Unit))⊕(Int)) :=
 (if (decide (s182<(p121.length:Int)))=true then
 (idx p121 s182).bind fun _ =>
 (idx p121 s182).bind fun x197 =>
 (idx a0.fLinks s182).bind fun x198 =>
 (if (decide ((w64 (1000*x198.fCapacity))<x197))=true then
 some (.inl (.inl ()))
 else
 some (.inr (w64 (s182+1))))
 else
 some (.inl (.inr ())))
def xref43_over_2 (a0:aFabric) (a1:(List aLoad)) (a2:(List Bool)):Option (Bool) :=
 chk ((decide (0≤(a0.fLinks.length:Int))&&decide ((a0.fLinks.length:Int)≤(a0.fLinks.length:Int))&&decide ((a0.fLinks.length:Int)≤(LIM:Int)))) <|
 (loop (xref43_over_2_L0 a0 a1 a2) (0,(List.replicate (a0.fLinks.length:Int).toNat 0))).bind fun p121 =>
 (loop (xref43_over_2_L2 a0 p121) 0).bind fun x200=>match x200 with
 | (.inl _) =>
  some true
 | (.inr _) =>
  some false
theorem xref43_over_2_ac (a0:aFabric) (a1:(List aLoad)) (a2:(List Bool)) (r:Bool) (h:xref43_over_2 a0 a1 a2=some r):AC Try.prog 41 [(.d (e_aFabric a0)),(.d (.list 3 (a1.map e_aLoad))),(.sref 0 1 0 a2.length)] [(0,(.row 4 1 (a2.map eB)))] (.d (.bool r)) [(0,some (.row 4 1 (a2.map eB)))]:=by
 refine ac2 Try.func41 rfl rfl fun B hB hN L => ?_
 delta xref43_over_2 at h
 refine sr (SQ tt) ?_
 obtain⟨hc1,h⟩:=chk_some h
 have hc1_o:=hc1
 simp only [Bool.and_eq_true,decide_eq_true_eq] at hc1_o
 refine sr (SQ (fa hc1 tt)) ?_
 apply AWp.seq
 refine sr (SQ tt) ?_
 apply AWp.block
 obtain⟨p121,hx181,h⟩:=bindS h
 refine lg (xref43_over_2_L0 a0 a1 a2) (fun s2:Int×(List Int)=>([(2,(.sref 0 1 0 a2.length)),(3,(pt 1003)),(7,(.sref 1019 1 0 s2.2.length)),(20,(qe_aLoad_3 a1)),(21,(i6 (a1.length:Int))),(22,(i6 s2.1))]:EL)) (fun s2:Int×(List Int)=>([(0,some (.row 4 1 (a2.map eB))),(1003,bd 30 (e_aFabric a0)),(1019,some (wI_3_1 s2.2))]:OL)) (fun(p121:((List Int))) e E' O'=>e = .exit 0∧Mat B E' O' ([(3,(pt 1003)),(7,(.sref 1019 1 0 p121.length))]:EL) ([(0,some (.row 4 1 (a2.map eB))),(1003,bd 30 (e_aFabric a0)),(1019,some (wI_3_1 p121))]:OL)) hx181 (mp [] _ _ hB) (fun s2 y h => ?_) (fun e E' O' hR => ?_)
 ·unfold xref43_over_2_L0 at h
  refine sr (SQ tt) ?_
  apply AWp.seq
  apply AWp.cond rfl<;>intro hg122
  ·have h:=ite_t hg122 h
   apply AWp.skip
   apply seqQ_n
   apply AWp.seq
   refine AWp.cut h (fun m151:(List Int)=>([(2,(.sref 0 1 0 a2.length)),(3,(pt 1003)),(7,(.sref 1019 1 0 m151.length)),(20,(qe_aLoad_3 a1)),(21,(i6 (a1.length:Int))),(22,(i6 s2.1))]:EL)) (fun m151:(List Int)=>([(0,some (.row 4 1 (a2.map eB))),(1003,bd 30 (e_aFabric a0)),(1019,some (wI_3_1 m151))]:OL)) (fun m151 h E' O' hmat => ?_) (fun j152 hjj152 h => ?_)
   ·apply seqQ_n
    refine AWp.ghost hmat ?_
    refine rg (SQ tt) ?_
    obtain rfl:=oi h
    exact⟨rfl,(mp [] _ _ hB)⟩
   ·apply AWp.block
    obtain⟨x153,hx153,h⟩:=bindS h
    refine sr (SQ (fa hx153 tt)) ?_
    apply AWp.seq
    obtain⟨_,hx154,h⟩:=bindS h
    obtain⟨_,hx155,h⟩:=bindS h
    refine sr (SQ (fa hx154 (fa hx155 tt))) ?_
    apply AWp.cond rfl<;>intro hg156
    ·have h:=ite_t hg156 h
     apply AWp.exit
     apply seqQ_e
     apply blkQ_hit
     exact hjj152 _ h _ _ (mp [] _ _ hB)
    ·have h:=ite_f hg156 h
     apply AWp.skip
     apply seqQ_n
     obtain⟨r157,hr157,h⟩:=bindS h
     refine sr (SQ (fa (cl [] (xref14_Way_ac a0 x153.fA x153.fB s2.1 r157 hr157)) tt)) ?_
     refine sr (SQ tt) ?_
     apply AWp.block
     obtain⟨p171,hx179,h⟩:=bindS h
     refine lg (xref43_over_2_L1 x153 r157) (fun s158:Int×(List Int)=>([(2,(.sref 0 1 0 a2.length)),(3,(pt 1003)),(7,(.sref 1019 1 0 s158.2.length)),(9,(pt 1009)),(20,(qe_aLoad_3 a1)),(21,(i6 (a1.length:Int))),(22,(i6 s2.1)),(41,(qI_1 r157.1)),(42,(i6 (r157.1.length:Int))),(43,(i6 s158.1))]:EL)) (fun s158:Int×(List Int)=>([(0,some (.row 4 1 (a2.map eB))),(1003,bd 30 (e_aFabric a0)),(1009,bd 59 (e_aLoad x153)),(1019,some (wI_3_1 s158.2))]:OL)) (fun(p171:((List Int))) e E' O'=>e = .exit 2∧Mat B E' O' ([(2,(.sref 0 1 0 a2.length)),(3,(pt 1003)),(7,(.sref 1019 1 0 p171.length)),(20,(qe_aLoad_3 a1)),(21,(i6 (a1.length:Int))),(22,(i6 s2.1))]:EL) ([(0,some (.row 4 1 (a2.map eB))),(1003,bd 30 (e_aFabric a0)),(1019,some (wI_3_1 p171))]:OL)) hx179 (mp [] _ _ hB) (fun s158 y h => ?_) (fun e E' O' hR => ?_)
     ·unfold xref43_over_2_L1 at h
      refine sr (SQ tt) ?_
      apply AWp.seq
      apply AWp.cond rfl<;>intro hg172
      ·have h:=ite_t hg172 h
       apply AWp.skip
       apply seqQ_n
       apply AWp.seq
       apply AWp.block
       obtain⟨x173,hx173,h⟩:=bindS h
       refine sr (SQ (fa hx173 tt)) ?_
       obtain⟨_,hx174,h⟩:=bindS h
       obtain⟨x175,hx175,h⟩:=bindS h
       obtain⟨_,hx176,h⟩:=bindS h
       obtain⟨_,hx177,h⟩:=bindS h
       refine drS (SQ (fa hx174 (fa hx175 (fa hx176 (fa hx177 (fa (sv (w64 (x175+x153.fRate))) tt)))))) ?_
       apply blkQ_n
       apply seqQ_n
       refine rg (SQ tt) ?_
       obtain rfl:=oi h
       exact⟨rfl,(Mat.trans (mp [] [(2,(.sref 0 1 0 a2.length)),(3,(pt 1003)),(7,(.sref 1019 1 0 s158.2.length)),(9,(pt 1009)),(20,(qe_aLoad_3 a1)),(21,(i6 (a1.length:Int))),(22,(i6 s2.1)),(41,(qI_1 r157.1)),(42,(i6 (r157.1.length:Int))),(43,(i6 (w64 (s158.1+1))))] [(0,some (.row 4 1 (a2.map eB))),(1003,bd 30 (e_aFabric a0)),(1009,bd 59 (e_aLoad x153)),(1019,some (wI_3_1 (s158.2.set x173.toNat (w64 (x175+x153.fRate)))))] hB) (Mat.trans (Mat.lenP (Ts:=[(7,(.sref 1019 1 0 ((s158.2.set x173.toNat (w64 (x175+x153.fRate))).length)))]) (Bs:=[]) (TwT.cons (x:=(.sref 1019 1 0 s158.2.length)) (by rfl) (Tw.leaf ⟨_,_,_,_,_,rfl,rfl,(by first | rfl | (simp;done) | (simp;omega) | omega)⟩) TwT.nil) TwB.nil) (mp [] _ _ hB)))⟩
      ·have h:=ite_f hg172 h
       apply AWp.exit
       apply seqQ_e
       obtain rfl:=oi h
       exact⟨(fun hc=>by cases hc),rfl,(mp [] _ _ hB)⟩
     ·obtain⟨rfl,hmat⟩:=hR
      apply blkQ_hit
      apply blkQ_n
      exact hjj152 _ h _ _ (Mat.trans hmat (mp [] _ _ hB))
  ·have h:=ite_f hg122 h
   apply AWp.exit
   apply seqQ_e
   obtain rfl:=oi h
   exact⟨(fun hc=>by cases hc),rfl,(mp [] _ _ hB)⟩
 ·obtain⟨rfl,hmat⟩:=hR
  apply blkQ_hit
  apply seqQ_n
  refine AWp.ghost hmat ?_
  apply AWp.seq
  refine sr (SQ tt) ?_
  apply AWp.block
  obtain⟨x200,hx201,h⟩:=bindS h
  refine lg (xref43_over_2_L2 a0 p121) (fun s182:Int=>([(3,(pt 1003)),(57,(.sref 1019 1 0 p121.length)),(58,(i6 (p121.length:Int))),(59,(i6 s182))]:EL)) (fun s182:Int=>([(0,some (.row 4 1 (a2.map eB))),(1003,bd 30 (e_aFabric a0)),(1019,some (wI_3_1 p121))]:OL)) (fun(x:(Unit)⊕(Unit)) e E' O'=>match x with | (.inl _p)=>e = .ret∧Mat B E' O' ([(6,(bo true))]:EL) ([(0,some (.row 4 1 (a2.map eB)))]:OL) | (.inr _p)=>e = .exit 4∧Mat B E' O' ([]:EL) ([(0,some (.row 4 1 (a2.map eB)))]:OL)) hx201 (mp [] _ _ hB) (fun s182 y h => ?_) (fun e E' O' hR => ?_)
  ·unfold xref43_over_2_L2 at h
   refine sr (SQ tt) ?_
   apply AWp.seq
   apply AWp.cond rfl<;>intro hg195
   ·have h:=ite_t hg195 h
    apply AWp.skip
    apply seqQ_n
    apply AWp.seq
    apply AWp.block
    obtain⟨_,hx196,h⟩:=bindS h
    obtain⟨_,hx197,h⟩:=bindS h
    refine sr (SQ (fa hx196 (fa hx197 tt))) ?_
    obtain⟨_,hx198,h⟩:=bindS h
    refine sr (SQ (fa hx198 tt)) ?_
    apply AWp.cond rfl<;>intro hg199
    ·have h:=ite_t hg199 h
     refine sr (SQ tt) ?_
     apply AWp.ret
     apply blkQ_r
     apply seqQ_r
     obtain rfl:=oi h
     exact⟨(fun hc=>by cases hc),rfl,(mp [] _ _ hB)⟩
    ·have h:=ite_f hg199 h
     apply AWp.skip
     apply blkQ_n
     apply seqQ_n
     refine rg (SQ tt) ?_
     obtain rfl:=oi h
     exact⟨rfl,(mp [] _ _ hB)⟩
   ·have h:=ite_f hg195 h
    apply AWp.exit
    apply seqQ_e
    obtain rfl:=oi h
    exact⟨(fun hc=>by cases hc),rfl,(mp [] _ _ hB)⟩
  ·rcases x200 with _ | _
   ·obtain⟨rfl,hmat⟩:=hR
    apply blkQ_r
    apply seqQ_r
    obtain rfl:=oi h
    exact rt (Mat.trans hmat (mp [] [(6,(bo true))] [(0,some (.row 4 1 (a2.map eB)))] hB)) [(bo true)] (Res.tmp (by rfl) (by rfl) Res.nil) rfl
   ·obtain⟨rfl,hmat⟩:=hR
    apply blkQ_hit
    apply seqQ_n
    refine AWp.ghost hmat ?_
    refine sr (SQ tt) ?_
    apply AWp.ret
    obtain rfl:=oi h
    exact rt (kp [(6,_)] [(0,some _)] hB rfl rfl (by rfl)) [(bo false)] (Res.tmp (by rfl) (by rfl) Res.nil) rfl
def xref43_Shed_L0 (a1:(List aLoad)) (r8:aFabric) (s10:Int×(List Bool)):Option ((((List Bool)))⊕(Int×(List Bool))) :=
 (if (decide (s10.1<(a1.length:Int)))=true then
 (idx a1 s10.1).bind fun x23 =>
 (xref14_Way r8 x23.fA x23.fB s10.1).bind fun r24 =>
 (idx s10.2 s10.1).bind fun _ =>
 (idx s10.2 s10.1).bind fun _ =>
 some (.inr ((w64 (s10.1+1)),(s10.2.set s10.1.toNat (!r24.2))))
 else
 some (.inl s10.2))
def xref43_Shed_L1 (a1:(List aLoad)) (a2:(List Int)) (r8:aFabric) (s29:Int×(List Bool)):Option ((((List Bool)))⊕(Int×(List Bool))) :=
 jn (fun m53:Bool =>
 (if m53=true then
 (idx a2 s29.1).bind fun x56 =>
 (idx s29.2 x56).bind fun _ =>
 (idx s29.2 x56).bind fun _ =>
 some (.inr ((w64 (s29.1+1)),(s29.2.set x56.toNat true)))
 else
 some (.inl s29.2))) (fun j54 =>
 (if (decide (s29.1<(a2.length:Int)))=true then
 (xref43_over_2 r8 a1 s29.2).bind fun r60 =>
 j54 r60
 else
 j54 false))
def xref43_Shed_L2 (p50:(List Bool)) (s63:Int×(List Int)):Option ((((List Int)))⊕(Int×(List Int))) :=
 (if (decide (s63.1<(p50.length:Int)))=true then
 (idx p50 s63.1).bind fun _ =>
 (idx p50 s63.1).bind fun x85 =>
 jn (fun m88:(List Int) =>
 some (.inr ((w64 (s63.1+1)),m88))) (fun j89 =>
 (if x85=true then
 chk (decide ((s63.2++([s63.1]:List Int)).length≤LIM)) <|
 j89 (s63.2++([s63.1]:List Int))
 else
 j89 s63.2))
 else
 some (.inl s63.2))
def xref43_Shed (a0:aFabric) (a1:(List aLoad)) (a2:(List Int)) (a3:(List aItem)):Option ((List Int)×Int) :=
 jn (fun m5:Bool =>
 (if m5=true then
 some (([]:List Int),1)
 else
 (xref42_Without a0 a3).bind fun r8 =>
 chk ((decide (0≤(a1.length:Int))&&decide ((a1.length:Int)≤(a1.length:Int))&&decide ((a1.length:Int)≤(LIM:Int)))) <|
 (loop (xref43_Shed_L0 a1 r8) (0,(List.replicate (a1.length:Int).toNat false))).bind fun p21 =>
 (loop (xref43_Shed_L1 a1 a2 r8) (0,p21)).bind fun p50 =>
 (loop (xref43_Shed_L2 p50) (0,([]:List Int))).bind fun p82 =>
 some (p82,0))) (fun j6 =>
 (xref42_Valid a0 a1 a3).bind fun r94 =>
 (if (!r94)=true then
 j6 true
 else
 (xref43_ordered a2 (a1.length:Int)).bind fun r96 =>
 j6 (!r96)))
theorem xref43_Shed_ac (a0:aFabric) (a1:(List aLoad)) (a2:(List Int)) (a3:(List aItem)) (r:(List Int)×Int) (h:xref43_Shed a0 a1 a2 a3=some r):AC Try.prog 15 [(.d (e_aFabric a0)),(.d (.list 3 (a1.map e_aLoad))),(.d (.list 1 (a2.map (eI .i64)))),(.d (.list 2 (a3.map e_aItem)))] [] (.tup [(.d (.list 1 (r.1.map (eI .i64)))),(.d (.int .i64 r.2))]) []:=by
 refine ac2 Try.func15 rfl rfl fun B hB hN L => ?_
 delta xref43_Shed at h
 refine sr (SQ tt) ?_
 apply AWp.seq
 apply AWp.seq
 refine AWp.cut h (fun m5:Bool=>([(1,(qe_aLoad_3 a1)),(2,(qI_1 a2)),(3,(qe_aItem_2 a3)),(4,(pt 1004)),(31,(bo m5))]:EL)) (fun m5:Bool=>([(1004,bd 30 (e_aFabric a0))]:OL)) (fun m5 h E' O' hmat => ?_) (fun j6 hjj6 h => ?_)
 ·apply seqQ_n
  refine AWp.ghost hmat ?_
  apply AWp.cond rfl<;>intro hg7
  ·have h:=ite_t hg7 h
   refine sr (SQ tt) ?_
   apply AWp.ret
   apply seqQ_r
   obtain rfl:=oi h
   exact rt (Mat.trans (Mat.coeP (Ts:=[(8,(qI_1 ([]:List Int)))]) (Bs:=[]) (TwT.cons (x:=.nils) (by rfl) (Tw.leaf ⟨_,(Co.nils 1),rfl⟩) TwT.nil) TwB.nil) (mp [] [(8,(qI_1 ([]:List Int))),(9,(i6 1))] [] hB)) [(qI_1 ([]:List Int)),(i6 1)] (Res.tmp (by rfl) (by rfl) (Res.tmp (by rfl) (by rfl) Res.nil)) rfl
  ·have h:=ite_f hg7 h
   apply AWp.skip
   apply seqQ_n
   obtain⟨r8,hr8,h⟩:=bindS h
   refine sr (SQ (fa (cl [] (xref42_Without_ac a0 a3 r8 hr8)) tt)) ?_
   obtain⟨hc9,h⟩:=chk_some h
   refine sr (SQ (fa hc9 tt)) ?_
   apply AWp.seq
   refine sr (SQ tt) ?_
   apply AWp.block
   obtain⟨p21,hx28,h⟩:=bindS h
   refine lg (xref43_Shed_L0 a1 r8) (fun s10:Int×(List Bool)=>([(1,(qe_aLoad_3 a1)),(2,(qI_1 a2)),(10,(pt 1010)),(11,(.sref 1037 1 0 s10.2.length)),(38,(qe_aLoad_3 a1)),(39,(i6 (a1.length:Int))),(40,(i6 s10.1))]:EL)) (fun s10:Int×(List Bool)=>([(1010,bd 30 (e_aFabric r8)),(1037,some (.row 4 1 (s10.2.map eB)))]:OL)) (fun(p21:((List Bool))) e E' O'=>e = .exit 0∧Mat B E' O' ([(1,(qe_aLoad_3 a1)),(2,(qI_1 a2)),(10,(pt 1010)),(11,(.sref 1037 1 0 p21.length))]:EL) ([(1010,bd 30 (e_aFabric r8)),(1037,some (.row 4 1 (p21.map eB)))]:OL)) hx28 (mp [] _ _ hB) (fun s10 y h => ?_) (fun e E' O' hR => ?_)
   ·unfold xref43_Shed_L0 at h
    refine sr (SQ tt) ?_
    apply AWp.seq
    apply AWp.cond rfl<;>intro hg22
    ·have h:=ite_t hg22 h
     apply AWp.skip
     apply seqQ_n
     apply AWp.seq
     apply AWp.block
     obtain⟨x23,hx23,h⟩:=bindS h
     refine sr (SQ (fa hx23 tt)) ?_
     obtain⟨r24,hr24,h⟩:=bindS h
     refine sr (SQ (fa (cl [] (xref14_Way_ac r8 x23.fA x23.fB s10.1 r24 hr24)) tt)) ?_
     obtain⟨_,hx25,h⟩:=bindS h
     obtain⟨_,hx26,h⟩:=bindS h
     refine rg (SQ (fa hx25 (fa hx26 (fa (sv (!r24.2)) tt)))) ?_
     apply blkQ_n
     apply seqQ_n
     refine rg (SQ tt) ?_
     obtain rfl:=oi h
     exact⟨rfl,(Mat.trans (mp [] [(1,(qe_aLoad_3 a1)),(2,(qI_1 a2)),(10,(pt 1010)),(11,(.sref 1037 1 0 s10.2.length)),(38,(qe_aLoad_3 a1)),(39,(i6 (a1.length:Int))),(40,(i6 (w64 (s10.1+1))))] [(1010,bd 30 (e_aFabric r8)),(1037,some (.row 4 1 ((s10.2.set s10.1.toNat (!r24.2)).map eB)))] hB) (Mat.trans (Mat.lenP (Ts:=[(11,(.sref 1037 1 0 ((s10.2.set s10.1.toNat (!r24.2)).length)))]) (Bs:=[]) (TwT.cons (x:=(.sref 1037 1 0 s10.2.length)) (by rfl) (Tw.leaf ⟨_,_,_,_,_,rfl,rfl,(by first | rfl | (simp;done) | (simp;omega) | omega)⟩) TwT.nil) TwB.nil) (mp [] _ _ hB)))⟩
    ·have h:=ite_f hg22 h
     apply AWp.exit
     apply seqQ_e
     obtain rfl:=oi h
     exact⟨(fun hc=>by cases hc),rfl,(mp [] _ _ hB)⟩
   ·obtain⟨rfl,hmat⟩:=hR
    apply blkQ_hit
    apply seqQ_n
    refine AWp.ghost hmat ?_
    apply AWp.seq
    refine sr (SQ tt) ?_
    apply AWp.block
    obtain⟨p50,hx62,h⟩:=bindS h
    refine lg (xref43_Shed_L1 a1 a2 r8) (fun s29:Int×(List Bool)=>([(1,(qe_aLoad_3 a1)),(2,(qI_1 a2)),(10,(pt 1010)),(11,(.sref 1037 1 0 s29.2.length)),(16,(i6 s29.1))]:EL)) (fun s29:Int×(List Bool)=>([(1010,bd 30 (e_aFabric r8)),(1037,some (.row 4 1 (s29.2.map eB)))]:OL)) (fun(p50:((List Bool))) e E' O'=>e = .exit 2∧Mat B E' O' ([(11,(.sref 1037 1 0 p50.length))]:EL) ([(1037,some (.row 4 1 (p50.map eB)))]:OL)) hx62 (mp [] _ _ hB) (fun s29 y h => ?_) (fun e E' O' hR => ?_)
    ·unfold xref43_Shed_L1 at h
     apply AWp.seq
     apply AWp.seq
     refine AWp.cut h (fun m53:Bool=>([(1,(qe_aLoad_3 a1)),(2,(qI_1 a2)),(10,(pt 1010)),(11,(.sref 1037 1 0 s29.2.length)),(16,(i6 s29.1)),(70,(bo m53))]:EL)) (fun m53:Bool=>([(1010,bd 30 (e_aFabric r8)),(1037,some (.row 4 1 (s29.2.map eB)))]:OL)) (fun m53 h E' O' hmat => ?_) (fun j54 hjj54 h => ?_)
     ·apply seqQ_n
      refine AWp.ghost hmat ?_
      apply AWp.cond rfl<;>intro hg55
      ·have h:=ite_t hg55 h
       apply AWp.skip
       apply seqQ_n
       apply AWp.seq
       apply AWp.block
       obtain⟨x56,hx56,h⟩:=bindS h
       obtain⟨_,hx57,h⟩:=bindS h
       obtain⟨_,hx58,h⟩:=bindS h
       refine rg (SQ (fa hx56 (fa hx57 (fa hx58 (fa (sv true) tt))))) ?_
       apply blkQ_n
       apply seqQ_n
       refine rg (SQ tt) ?_
       obtain rfl:=oi h
       exact⟨rfl,(Mat.trans (mp [] [(1,(qe_aLoad_3 a1)),(2,(qI_1 a2)),(10,(pt 1010)),(11,(.sref 1037 1 0 s29.2.length)),(16,(i6 (w64 (s29.1+1))))] [(1010,bd 30 (e_aFabric r8)),(1037,some (.row 4 1 ((s29.2.set x56.toNat true).map eB)))] hB) (Mat.trans (Mat.lenP (Ts:=[(11,(.sref 1037 1 0 ((s29.2.set x56.toNat true).length)))]) (Bs:=[]) (TwT.cons (x:=(.sref 1037 1 0 s29.2.length)) (by rfl) (Tw.leaf ⟨_,_,_,_,_,rfl,rfl,(by first | rfl | (simp;done) | (simp;omega) | omega)⟩) TwT.nil) TwB.nil) (mp [] _ _ hB)))⟩
      ·have h:=ite_f hg55 h
       apply AWp.exit
       apply seqQ_e
       obtain rfl:=oi h
       exact⟨(fun hc=>by cases hc),rfl,(mp [] _ _ hB)⟩
     ·rcases bft (decide (s29.1<(a2.length:Int))) with hg59 | hg59
      ·have h:=ite_t hg59 h
       obtain⟨r60,hr60,h⟩:=bindS h
       refine rg (SQ (fa hg59 (fa (cl [(0,1037)] (xref43_over_2_ac r8 a1 s29.2 r60 hr60)) tt))) ?_
       exact hjj54 _ h _ _ (mp [] _ _ hB)
      ·have h:=ite_f hg59 h
       refine rg (SQ (fa hg59 tt)) ?_
       exact hjj54 _ h _ _ (mp [] _ _ hB)
    ·obtain⟨rfl,hmat⟩:=hR
     apply blkQ_hit
     apply seqQ_n
     refine AWp.ghost hmat ?_
     refine sr (SQ tt) ?_
     apply AWp.seq
     refine sr (SQ tt) ?_
     apply AWp.block
     obtain⟨p82,hx93,h⟩:=bindS h
     refine lg (xref43_Shed_L2 p50) (fun s63:Int×(List Int)=>([(17,(.sref 3017 1 0 s63.2.length)),(79,(.sref 1037 1 0 p50.length)),(80,(i6 (p50.length:Int))),(81,(i6 s63.1))]:EL)) (fun s63:Int×(List Int)=>([(1037,some (.row 4 1 (p50.map eB))),(3017,some (wI_3_1 s63.2))]:OL)) (fun(p82:((List Int))) e E' O'=>e = .exit 4∧Mat B E' O' ([(17,(.sref 3017 1 0 p82.length))]:EL) ([(3017,some (wI_3_1 p82))]:OL)) hx93 (Mat.trans (Mat.beginP (n:=3017) (e:=3) (sz:=1) (Ts:=[(17,(.sref 3017 1 0 0))]) (Bs:=[]) hB (by decide) (by rfl) (by decide) (TwT.cons (x:=.nils) (by rfl) (Tw.leaf ⟨rfl,rfl⟩) TwT.nil) TwB.nil) (mp [] _ _ hB)) (fun s63 y h => ?_) (fun e E' O' hR => ?_)
     ·unfold xref43_Shed_L2 at h
      refine sr (SQ tt) ?_
      apply AWp.seq
      apply AWp.cond rfl<;>intro hg83
      ·have h:=ite_t hg83 h
       apply AWp.skip
       apply seqQ_n
       apply AWp.seq
       apply AWp.block
       obtain⟨_,hx84,h⟩:=bindS h
       obtain⟨_,hx85,h⟩:=bindS h
       refine sr (SQ (fa hx84 (fa hx85 tt))) ?_
       refine sr (SQ tt) ?_
       refine gh [(17,_),(18,_),(79,_),(80,_),(81,_),(86,_)] [(1037,some _),(3017,some _)] hB rfl rfl (by rfl) ?_
       refine AWp.cut h (fun m88:(List Int)=>([(17,(.sref 3017 1 0 m88.length)),(79,(.sref 1037 1 0 p50.length)),(80,(i6 (p50.length:Int))),(81,(i6 s63.1))]:EL)) (fun m88:(List Int)=>([(1037,some (.row 4 1 (p50.map eB))),(3017,some (wI_3_1 m88))]:OL)) (fun m88 h E' O' hmat => ?_) (fun j89 hjj89 h => ?_)
       ·apply blkQ_n
        apply seqQ_n
        refine AWp.ghost hmat ?_
        refine rg (SQ tt) ?_
        obtain rfl:=oi h
        exact⟨rfl,(mp [] _ _ hB)⟩
       ·apply AWp.cond rfl<;>intro hg90
        ·have h:=ite_t hg90 h
         obtain⟨hc91,h⟩:=chk_some h
         refine rg (SQ (fa hc91 tt)) ?_
         exact hjj89 _ h _ _ (mp [(3017,1090)] _ _ hB)
        ·have h:=ite_f hg90 h
         apply AWp.skip
         exact hjj89 _ h _ _ (mp [] _ _ hB)
      ·have h:=ite_f hg83 h
       apply AWp.exit
       apply seqQ_e
       obtain rfl:=oi h
       exact⟨(fun hc=>by cases hc),rfl,(mp [] _ _ hB)⟩
     ·obtain⟨rfl,hmat⟩:=hR
      apply blkQ_hit
      apply seqQ_n
      refine AWp.ghost hmat ?_
      refine sr (SQ tt) ?_
      apply AWp.ret
      obtain rfl:=oi h
      exact rt (Mat.trans (Mat.freezeP (n:=3017) (e:=3) (sz:=1) (es:=p82.map (eI .i64)) (Ts:=[(8,(qI_1 p82))]) (Bs:=[]) (by rfl) (TwT.cons (x:=(.sref 3017 1 0 p82.length)) (by rfl) (FrzL.all (by first | rfl | (simp;done) | (simp;omega) | omega)) TwT.nil) TwB.nil) (mp [] [(8,(qI_1 p82)),(9,(i6 0))] [] hB)) [(qI_1 p82),(i6 0)] (Res.tmp (by rfl) (by rfl) (Res.tmp (by rfl) (by rfl) Res.nil)) rfl
 ·obtain⟨r94,hr94,h⟩:=bindS h
  rcases bft (!r94) with hg95 | hg95
  ·have h:=ite_t hg95 h
   refine rg (SQ (fa (cl [] (xref42_Valid_ac a0 a1 a3 r94 hr94)) (fa hg95 tt))) ?_
   exact hjj6 _ h _ _ (mp [] _ _ hB)
  ·have h:=ite_f hg95 h
   obtain⟨r96,hr96,h⟩:=bindS h
   refine rg (SQ (fa (cl [] (xref42_Valid_ac a0 a1 a3 r94 hr94)) (fa hg95 (fa (cl [] (xref43_ordered_ac a2 (a1.length:Int) r96 hr96)) tt)))) ?_
   exact hjj6 _ h _ _ (mp [] _ _ hB)
def xref23_SameInts_L0 (a0:(List Int)) (a1:(List Int)) (s2:Int):Option (((Unit)⊕(Unit))⊕(Int)) :=
 (if (decide (s2<(a0.length:Int)))=true then
 (idx a0 s2).bind fun x14 =>
 (idx a1 s2).bind fun x15 =>
 (if (x14 != x15)=true then
 some (.inl (.inl ()))
 else
 some (.inr (w64 (s2+1))))
 else
 some (.inl (.inr ())))
def xref23_SameInts (a0:(List Int)) (a1:(List Int)):Option (Bool) :=
 (if ((a0.length:Int) != (a1.length:Int))=true then
 some false
 else
 (loop (xref23_SameInts_L0 a0 a1) 0).bind fun x17=>match x17 with
 | (.inl _) =>
  some false
 | (.inr _) =>
  some true)
theorem xref23_SameInts_ac (a0:(List Int)) (a1:(List Int)) (r:Bool) (h:xref23_SameInts a0 a1=some r):AC Try.prog 16 [(.d (.list 1 (a0.map (eI .i64)))),(.d (.list 1 (a1.map (eI .i64))))] [] (.d (.bool r)) []:=by
 refine ac2 Try.func16 rfl rfl fun B hB hN L => ?_
 delta xref23_SameInts at h
 refine sr (SQ tt) ?_
 apply AWp.seq
 refine sr (SQ tt) ?_
 apply AWp.cond rfl<;>intro hg1
 ·have h:=ite_t hg1 h
  refine sr (SQ tt) ?_
  apply AWp.ret
  apply seqQ_r
  obtain rfl:=oi h
  exact rt (kp [(4,_)] [] hB rfl rfl (by rfl)) [(bo false)] (Res.tmp (by rfl) (by rfl) Res.nil) rfl
 ·have h:=ite_f hg1 h
  apply AWp.skip
  apply seqQ_n
  apply AWp.seq
  refine sr (SQ tt) ?_
  apply AWp.block
  obtain⟨x17,hx18,h⟩:=bindS h
  refine lg (xref23_SameInts_L0 a0 a1) (fun s2:Int=>([(0,(qI_1 a0)),(1,(qI_1 a1)),(12,(i6 (a0.length:Int))),(13,(i6 s2))]:EL)) (fun s2:Int=>([]:OL)) (fun(x:(Unit)⊕(Unit)) e E' O'=>match x with | (.inl _p)=>e = .ret∧Mat B E' O' ([(4,(bo false))]:EL) ([]:OL) | (.inr _p)=>e = .exit 0∧Mat B E' O' ([]:EL) ([]:OL)) hx18 (mp [] _ _ hB) (fun s2 y h => ?_) (fun e E' O' hR => ?_)
  ·unfold xref23_SameInts_L0 at h
   refine sr (SQ tt) ?_
   apply AWp.seq
   apply AWp.cond rfl<;>intro hg13
   ·have h:=ite_t hg13 h
    apply AWp.skip
    apply seqQ_n
    apply AWp.seq
    apply AWp.block
    refine sr (SQ tt) ?_
    obtain⟨_,hx14,h⟩:=bindS h
    obtain⟨_,hx15,h⟩:=bindS h
    refine sdS (SQ (fa hx14 (fa hx15 tt))) ?_
    apply AWp.cond rfl<;>intro hg16
    ·have h:=ite_t hg16 h
     refine sr (SQ tt) ?_
     apply AWp.ret
     apply blkQ_r
     apply seqQ_r
     obtain rfl:=oi h
     exact⟨(fun hc=>by cases hc),rfl,(mp [] _ _ hB)⟩
    ·have h:=ite_f hg16 h
     apply AWp.skip
     apply blkQ_n
     apply seqQ_n
     refine rg (SQ tt) ?_
     obtain rfl:=oi h
     exact⟨rfl,(mp [] _ _ hB)⟩
   ·have h:=ite_f hg13 h
    apply AWp.exit
    apply seqQ_e
    obtain rfl:=oi h
    exact⟨(fun hc=>by cases hc),rfl,(mp [] _ _ hB)⟩
  ·rcases x17 with _ | _
   ·obtain⟨rfl,hmat⟩:=hR
    apply blkQ_r
    apply seqQ_r
    obtain rfl:=oi h
    exact rt (Mat.trans hmat (mp [] [(4,(bo false))] [] hB)) [(bo false)] (Res.tmp (by rfl) (by rfl) Res.nil) rfl
   ·obtain⟨rfl,hmat⟩:=hR
    apply blkQ_hit
    apply seqQ_n
    refine AWp.ghost hmat ?_
    refine sr (SQ tt) ?_
    apply AWp.ret
    obtain rfl:=oi h
    exact rt (kp [(4,_)] [] hB rfl rfl (by rfl)) [(bo true)] (Res.tmp (by rfl) (by rfl) Res.nil) rfl
def plan_Build_L0 (a0:aFabric) (a1:(List aLoad)) (a2:(List Int)) (r9:(List (List aItem))) (s10:Int×(List aShed)):Option (((Int)⊕((List aShed)))⊕(Int×(List aShed))) :=
 (if (decide (s10.1<(r9.length:Int)))=true then
 (idx r9 s10.1).bind fun x24 =>
 (plan_Shed a0 a1 a2 x24).bind fun r25 =>
 (if (r25.2 != 0)=true then
 some (.inl (.inl r25.2))
 else
 chk (decide ((s10.2++[(aShed.mk x24 r25.1)]).length≤LIM)) <|
 some (.inr ((w64 (s10.1+1)),(s10.2++[(aShed.mk x24 r25.1)]))))
 else
 some (.inl (.inr s10.2)))
def plan_Build (a0:aFabric) (a1:(List aLoad)) (a2:(List Int)):Option ((List aShed)×Int) :=
 jn (fun m5:Bool =>
 (if m5=true then
 some (([]:List aShed),1)
 else
 (if (decide (12<(w64 ((a0.fLinks.length:Int)+a0.fSwitches))))=true then
 some (([]:List aShed),3)
 else
 (plan_Failures a0).bind fun r9 =>
 (loop (plan_Build_L0 a0 a1 a2 r9) (0,([]:List aShed))).bind fun x28=>match x28 with
 | (.inl p21) =>
  some (([]:List aShed),p21)
 | (.inr p22) =>
  some (p22,0)))) (fun j6 =>
 (drain_Valid a0 a1 ([]:List aItem)).bind fun r30 =>
 (if (!r30)=true then
 j6 true
 else
 (plan_permitted a1 a2).bind fun r32 =>
 j6 (!r32)))
theorem plan_Build_ac (a0:aFabric) (a1:(List aLoad)) (a2:(List Int)) (r:(List aShed)×Int) (h:plan_Build a0 a1 a2=some r):AC Try.prog 17 [(.d (e_aFabric a0)),(.d (.list 3 (a1.map e_aLoad))),(.d (.list 1 (a2.map (eI .i64))))] [] (.tup [(.d (.list 2 (r.1.map e_aShed))),(.d (.int .i64 r.2))]) []:=by
 refine ac2 Try.func17 rfl rfl fun B hB hN L => ?_
 delta plan_Build at h
 refine sr (SQ tt) ?_
 apply AWp.seq
 apply AWp.seq
 refine AWp.cut h (fun m5:Bool=>([(1,(qe_aLoad_3 a1)),(2,(qI_1 a2)),(3,(pt 1003)),(22,(bo m5))]:EL)) (fun m5:Bool=>([(1003,bd 30 (e_aFabric a0))]:OL)) (fun m5 h E' O' hmat => ?_) (fun j6 hjj6 h => ?_)
 ·apply seqQ_n
  refine AWp.ghost hmat ?_
  apply AWp.cond rfl<;>intro hg7
  ·have h:=ite_t hg7 h
   refine sr (SQ tt) ?_
   apply AWp.ret
   apply seqQ_r
   obtain rfl:=oi h
   exact rt (Mat.trans (Mat.coeP (Ts:=[(6,(qe_aShed_2 ([]:List aShed)))]) (Bs:=[]) (TwT.cons (x:=.nils) (by rfl) (Tw.leaf ⟨_,(Co.nils 2),rfl⟩) TwT.nil) TwB.nil) (mp [] [(6,(qe_aShed_2 ([]:List aShed))),(7,(i6 1))] [] hB)) [(qe_aShed_2 ([]:List aShed)),(i6 1)] (Res.tmp (by rfl) (by rfl) (Res.tmp (by rfl) (by rfl) Res.nil)) rfl
  ·have h:=ite_f hg7 h
   apply AWp.skip
   apply seqQ_n
   apply AWp.seq
   refine sr (SQ tt) ?_
   apply AWp.cond rfl<;>intro hg8
   ·have h:=ite_t hg8 h
    refine sr (SQ tt) ?_
    apply AWp.ret
    apply seqQ_r
    obtain rfl:=oi h
    exact rt (Mat.trans (Mat.coeP (Ts:=[(6,(qe_aShed_2 ([]:List aShed)))]) (Bs:=[]) (TwT.cons (x:=.nils) (by rfl) (Tw.leaf ⟨_,(Co.nils 2),rfl⟩) TwT.nil) TwB.nil) (mp [] [(6,(qe_aShed_2 ([]:List aShed))),(7,(i6 3))] [] hB)) [(qe_aShed_2 ([]:List aShed)),(i6 3)] (Res.tmp (by rfl) (by rfl) (Res.tmp (by rfl) (by rfl) Res.nil)) rfl
   ·have h:=ite_f hg8 h
    apply AWp.skip
    apply seqQ_n
    refine sr (SQ tt) ?_
    apply AWp.seq
    obtain⟨r9,hr9,h⟩:=bindS h
    refine sr (SQ (fa (cl [] (plan_Failures_ac a0 r9 hr9)) tt)) ?_
    apply AWp.block
    obtain⟨x28,hx29,h⟩:=bindS h
    refine lg (plan_Build_L0 a0 a1 a2 r9) (fun s10:Int×(List aShed)=>([(1,(qe_aLoad_3 a1)),(2,(qI_1 a2)),(3,(pt 1003)),(8,(.sref 3008 2 0 s10.2.length)),(31,(.d (.list 1 (r9.map e_LeapiItem)))),(32,(i6 (r9.length:Int))),(33,(i6 s10.1))]:EL)) (fun s10:Int×(List aShed)=>([(1003,bd 30 (e_aFabric a0)),(3008,some (we_aShed_53_2 s10.2))]:OL)) (fun(x:(Int)⊕((List aShed))) e E' O'=>match x with | (.inl p21)=>e = .ret∧Mat B E' O' ([(6,.nils),(7,(i6 p21))]:EL) ([]:OL) | (.inr p22)=>e = .exit 0∧Mat B E' O' ([(8,(.sref 3008 2 0 p22.length))]:EL) ([(3008,some (we_aShed_53_2 p22))]:OL)) hx29 (Mat.trans (Mat.beginP (n:=3008) (e:=53) (sz:=2) (Ts:=[(8,(.sref 3008 2 0 0))]) (Bs:=[]) hB (by decide) (by rfl) (by decide) (TwT.cons (x:=.nils) (by rfl) (Tw.leaf ⟨rfl,rfl⟩) TwT.nil) TwB.nil) (mp [] _ _ hB)) (fun s10 y h => ?_) (fun e E' O' hR => ?_)
    ·unfold plan_Build_L0 at h
     refine sr (SQ tt) ?_
     apply AWp.seq
     apply AWp.cond rfl<;>intro hg23
     ·have h:=ite_t hg23 h
      apply AWp.skip
      apply seqQ_n
      apply AWp.seq
      apply AWp.block
      obtain⟨x24,hx24,h⟩:=bindS h
      refine sr (SQ (fa hx24 tt)) ?_
      obtain⟨r25,hr25,h⟩:=bindS h
      refine sr (SQ (fa (cl [] (plan_Shed_ac a0 a1 a2 x24 r25 hr25)) tt)) ?_
      apply AWp.seq
      refine sr (SQ tt) ?_
      apply AWp.cond rfl<;>intro hg26
      ·have h:=ite_t hg26 h
       refine sr (SQ tt) ?_
       apply AWp.ret
       apply seqQ_r
       apply blkQ_r
       apply seqQ_r
       obtain rfl:=oi h
       exact⟨(fun hc=>by cases hc),rfl,(mp [] _ _ hB)⟩
      ·have h:=ite_f hg26 h
       apply AWp.skip
       apply seqQ_n
       obtain⟨hc27,h⟩:=chk_some h
       refine rg (SQ (fa hc27 tt)) ?_
       apply blkQ_n
       apply seqQ_n
       refine rg (SQ tt) ?_
       obtain rfl:=oi h
       exact⟨rfl,(mp [(3008,1053)] _ _ hB)⟩
     ·have h:=ite_f hg23 h
      apply AWp.exit
      apply seqQ_e
      obtain rfl:=oi h
      exact⟨(fun hc=>by cases hc),rfl,(mp [] _ _ hB)⟩
    ·rcases x28 with p21 | p22
     ·obtain⟨rfl,hmat⟩:=hR
      apply blkQ_r
      apply seqQ_r
      obtain rfl:=oi h
      exact rt (Mat.trans hmat (Mat.trans (Mat.coeP (Ts:=[(6,(qe_aShed_2 ([]:List aShed)))]) (Bs:=[]) (TwT.cons (x:=.nils) (by rfl) (Tw.leaf ⟨_,(Co.nils 2),rfl⟩) TwT.nil) TwB.nil) (mp [] [(6,(qe_aShed_2 ([]:List aShed))),(7,(i6 p21))] [] hB))) [(qe_aShed_2 ([]:List aShed)),(i6 p21)] (Res.tmp (by rfl) (by rfl) (Res.tmp (by rfl) (by rfl) Res.nil)) rfl
     ·obtain⟨rfl,hmat⟩:=hR
      apply blkQ_hit
      apply seqQ_n
      refine AWp.ghost hmat ?_
      refine sr (SQ tt) ?_
      apply AWp.ret
      obtain rfl:=oi h
      exact rt (Mat.trans (Mat.freezeP (n:=3008) (e:=53) (sz:=2) (es:=p22.map e_aShed) (Ts:=[(6,(qe_aShed_2 p22))]) (Bs:=[]) (by rfl) (TwT.cons (x:=(.sref 3008 2 0 p22.length)) (by rfl) (FrzL.all (by first | rfl | (simp;done) | (simp;omega) | omega)) TwT.nil) TwB.nil) (mp [] [(6,(qe_aShed_2 p22)),(7,(i6 0))] [] hB)) [(qe_aShed_2 p22),(i6 0)] (Res.tmp (by rfl) (by rfl) (Res.tmp (by rfl) (by rfl) Res.nil)) rfl
 ·obtain⟨r30,hr30,h⟩:=bindS h
  rcases bft (!r30) with hg31 | hg31
  ·have h:=ite_t hg31 h
   refine rg (SQ (fa (cl [] (drain_Valid_ac a0 a1 ([]:List aItem) r30 hr30)) (fa hg31 tt))) ?_
   exact hjj6 _ h _ _ (mp [] _ _ hB)
  ·have h:=ite_f hg31 h
   obtain⟨r32,hr32,h⟩:=bindS h
   refine rg (SQ (fa (cl [] (drain_Valid_ac a0 a1 ([]:List aItem) r30 hr30)) (fa hg31 (fa (cl [] (plan_permitted_ac a1 a2 r32 hr32)) tt)))) ?_
   exact hjj6 _ h _ _ (mp [] _ _ hB)
def xref43_Build_L0 (a0:aFabric) (a1:(List aLoad)) (a2:(List Int)) (r9:(List (List aItem))) (s10:Int×(List aShed)):Option ((((List aShed)))⊕(Int×(List aShed))) :=
 (if (decide (s10.1<(r9.length:Int)))=true then
 (idx r9 s10.1).bind fun x21 =>
 (xref43_Shed a0 a1 a2 x21).bind fun r22 =>
 chk (decide ((s10.2++[(aShed.mk x21 r22.1)]).length≤LIM)) <|
 some (.inr ((w64 (s10.1+1)),(s10.2++[(aShed.mk x21 r22.1)])))
 else
 some (.inl s10.2))
def xref43_Build (a0:aFabric) (a1:(List aLoad)) (a2:(List Int)):Option ((List aShed)×Int) :=
 jn (fun m5:Bool =>
 (if m5=true then
 some (([]:List aShed),1)
 else
 (if (decide (12<(w64 ((a0.fLinks.length:Int)+a0.fSwitches))))=true then
 some (([]:List aShed),3)
 else
 (xref43_Failures a0).bind fun r9 =>
 (loop (xref43_Build_L0 a0 a1 a2 r9) (0,([]:List aShed))).bind fun p19 =>
 some (p19,0)))) (fun j6 =>
 (xref42_Valid a0 a1 ([]:List aItem)).bind fun r26 =>
 (if (!r26)=true then
 j6 true
 else
 (xref43_ordered a2 (a1.length:Int)).bind fun r28 =>
 j6 (!r28)))
theorem xref43_Build_ac (a0:aFabric) (a1:(List aLoad)) (a2:(List Int)) (r:(List aShed)×Int) (h:xref43_Build a0 a1 a2=some r):AC Try.prog 18 [(.d (e_aFabric a0)),(.d (.list 3 (a1.map e_aLoad))),(.d (.list 1 (a2.map (eI .i64))))] [] (.tup [(.d (.list 2 (r.1.map e_aShed))),(.d (.int .i64 r.2))]) []:=by
 refine ac2 Try.func18 rfl rfl fun B hB hN L => ?_
 delta xref43_Build at h
 refine sr (SQ tt) ?_
 apply AWp.seq
 apply AWp.seq
 refine AWp.cut h (fun m5:Bool=>([(1,(qe_aLoad_3 a1)),(2,(qI_1 a2)),(3,(pt 1003)),(23,(bo m5))]:EL)) (fun m5:Bool=>([(1003,bd 30 (e_aFabric a0))]:OL)) (fun m5 h E' O' hmat => ?_) (fun j6 hjj6 h => ?_)
 ·apply seqQ_n
  refine AWp.ghost hmat ?_
  apply AWp.cond rfl<;>intro hg7
  ·have h:=ite_t hg7 h
   refine sr (SQ tt) ?_
   apply AWp.ret
   apply seqQ_r
   obtain rfl:=oi h
   exact rt (Mat.trans (Mat.coeP (Ts:=[(6,(qe_aShed_2 ([]:List aShed)))]) (Bs:=[]) (TwT.cons (x:=.nils) (by rfl) (Tw.leaf ⟨_,(Co.nils 2),rfl⟩) TwT.nil) TwB.nil) (mp [] [(6,(qe_aShed_2 ([]:List aShed))),(7,(i6 1))] [] hB)) [(qe_aShed_2 ([]:List aShed)),(i6 1)] (Res.tmp (by rfl) (by rfl) (Res.tmp (by rfl) (by rfl) Res.nil)) rfl
  ·have h:=ite_f hg7 h
   apply AWp.skip
   apply seqQ_n
   apply AWp.seq
   refine sr (SQ tt) ?_
   apply AWp.cond rfl<;>intro hg8
   ·have h:=ite_t hg8 h
    refine sr (SQ tt) ?_
    apply AWp.ret
    apply seqQ_r
    obtain rfl:=oi h
    exact rt (Mat.trans (Mat.coeP (Ts:=[(6,(qe_aShed_2 ([]:List aShed)))]) (Bs:=[]) (TwT.cons (x:=.nils) (by rfl) (Tw.leaf ⟨_,(Co.nils 2),rfl⟩) TwT.nil) TwB.nil) (mp [] [(6,(qe_aShed_2 ([]:List aShed))),(7,(i6 3))] [] hB)) [(qe_aShed_2 ([]:List aShed)),(i6 3)] (Res.tmp (by rfl) (by rfl) (Res.tmp (by rfl) (by rfl) Res.nil)) rfl
   ·have h:=ite_f hg8 h
    apply AWp.skip
    apply seqQ_n
    refine sr (SQ tt) ?_
    apply AWp.seq
    obtain⟨r9,hr9,h⟩:=bindS h
    refine sr (SQ (fa (cl [] (xref43_Failures_ac a0 r9 hr9)) tt)) ?_
    apply AWp.block
    obtain⟨p19,hx25,h⟩:=bindS h
    refine lg (xref43_Build_L0 a0 a1 a2 r9) (fun s10:Int×(List aShed)=>([(1,(qe_aLoad_3 a1)),(2,(qI_1 a2)),(3,(pt 1003)),(8,(.sref 3008 2 0 s10.2.length)),(32,(.d (.list 1 (r9.map e_LeapiItem)))),(33,(i6 (r9.length:Int))),(34,(i6 s10.1))]:EL)) (fun s10:Int×(List aShed)=>([(1003,bd 30 (e_aFabric a0)),(3008,some (we_aShed_53_2 s10.2))]:OL)) (fun(p19:((List aShed))) e E' O'=>e = .exit 0∧Mat B E' O' ([(8,(.sref 3008 2 0 p19.length))]:EL) ([(3008,some (we_aShed_53_2 p19))]:OL)) hx25 (Mat.trans (Mat.beginP (n:=3008) (e:=53) (sz:=2) (Ts:=[(8,(.sref 3008 2 0 0))]) (Bs:=[]) hB (by decide) (by rfl) (by decide) (TwT.cons (x:=.nils) (by rfl) (Tw.leaf ⟨rfl,rfl⟩) TwT.nil) TwB.nil) (mp [] _ _ hB)) (fun s10 y h => ?_) (fun e E' O' hR => ?_)
    ·unfold xref43_Build_L0 at h
     refine sr (SQ tt) ?_
     apply AWp.seq
     apply AWp.cond rfl<;>intro hg20
     ·have h:=ite_t hg20 h
      apply AWp.skip
      apply seqQ_n
      apply AWp.seq
      apply AWp.block
      obtain⟨x21,hx21,h⟩:=bindS h
      refine sr (SQ (fa hx21 tt)) ?_
      obtain⟨r22,hr22,h⟩:=bindS h
      refine sr (SQ (fa (cl [] (xref43_Shed_ac a0 a1 a2 x21 r22 hr22)) tt)) ?_
      obtain⟨hc23,h⟩:=chk_some h
      refine rg (SQ (fa hc23 tt)) ?_
      apply blkQ_n
      apply seqQ_n
      refine rg (SQ tt) ?_
      obtain rfl:=oi h
      exact⟨rfl,(mp [(3008,1051)] _ _ hB)⟩
     ·have h:=ite_f hg20 h
      apply AWp.exit
      apply seqQ_e
      obtain rfl:=oi h
      exact⟨(fun hc=>by cases hc),rfl,(mp [] _ _ hB)⟩
    ·obtain⟨rfl,hmat⟩:=hR
     apply blkQ_hit
     apply seqQ_n
     refine AWp.ghost hmat ?_
     refine sr (SQ tt) ?_
     apply AWp.ret
     obtain rfl:=oi h
     exact rt (Mat.trans (Mat.freezeP (n:=3008) (e:=53) (sz:=2) (es:=p19.map e_aShed) (Ts:=[(6,(qe_aShed_2 p19))]) (Bs:=[]) (by rfl) (TwT.cons (x:=(.sref 3008 2 0 p19.length)) (by rfl) (FrzL.all (by first | rfl | (simp;done) | (simp;omega) | omega)) TwT.nil) TwB.nil) (mp [] [(6,(qe_aShed_2 p19)),(7,(i6 0))] [] hB)) [(qe_aShed_2 p19),(i6 0)] (Res.tmp (by rfl) (by rfl) (Res.tmp (by rfl) (by rfl) Res.nil)) rfl
 ·obtain⟨r26,hr26,h⟩:=bindS h
  rcases bft (!r26) with hg27 | hg27
  ·have h:=ite_t hg27 h
   refine rg (SQ (fa (cl [] (xref42_Valid_ac a0 a1 ([]:List aItem) r26 hr26)) (fa hg27 tt))) ?_
   exact hjj6 _ h _ _ (mp [] _ _ hB)
  ·have h:=ite_f hg27 h
   obtain⟨r28,hr28,h⟩:=bindS h
   refine rg (SQ (fa (cl [] (xref42_Valid_ac a0 a1 ([]:List aItem) r26 hr26)) (fa hg27 (fa (cl [] (xref43_ordered_ac a2 (a1.length:Int) r28 hr28)) tt)))) ?_
   exact hjj6 _ h _ _ (mp [] _ _ hB)
def xref43_Same_L0 (a0:(List aShed)) (a1:(List aShed)) (s2:Int):Option (((Unit)⊕(Unit))⊕(Int)) :=
 (if (decide (s2<(a0.length:Int)))=true then
 jn (fun m58:Bool =>
 (if m58=true then
 some (.inl (.inl ()))
 else
 some (.inr (w64 (s2+1))))) (fun j59 =>
 (idx a0 s2).bind fun x61 =>
 (idx a1 s2).bind fun x62 =>
 (xref42_SameItems x61.fItems x62.fItems).bind fun r63 =>
 (if (!r63)=true then
 j59 true
 else
 (idx a0 s2).bind fun x65 =>
 (idx a1 s2).bind fun x66 =>
 (xref23_SameInts x65.fLoads x66.fLoads).bind fun r67 =>
 j59 (!r67)))
 else
 some (.inl (.inr ())))
def xref43_Same (a0:(List aShed)) (a1:(List aShed)):Option (Bool) :=
 (if ((a0.length:Int) != (a1.length:Int))=true then
 some false
 else
 (loop (xref43_Same_L0 a0 a1) 0).bind fun x68=>match x68 with
 | (.inl _) =>
  some false
 | (.inr _) =>
  some true)
theorem xref43_Same_ac (a0:(List aShed)) (a1:(List aShed)) (r:Bool) (h:xref43_Same a0 a1=some r):AC Try.prog 19 [(.d (.list 2 (a0.map e_aShed))),(.d (.list 2 (a1.map e_aShed)))] [] (.d (.bool r)) []:=by
 refine ac2 Try.func19 rfl rfl fun B hB hN L => ?_
 delta xref43_Same at h
 refine sr (SQ tt) ?_
 apply AWp.seq
 refine sr (SQ tt) ?_
 apply AWp.cond rfl<;>intro hg1
 ·have h:=ite_t hg1 h
  refine sr (SQ tt) ?_
  apply AWp.ret
  apply seqQ_r
  obtain rfl:=oi h
  exact rt (kp [(4,_)] [] hB rfl rfl (by rfl)) [(bo false)] (Res.tmp (by rfl) (by rfl) Res.nil) rfl
 ·have h:=ite_f hg1 h
  apply AWp.skip
  apply seqQ_n
  apply AWp.seq
  refine sr (SQ tt) ?_
  apply AWp.block
  obtain⟨x68,hx69,h⟩:=bindS h
  refine lg (xref43_Same_L0 a0 a1) (fun s2:Int=>([(0,(qe_aShed_2 a0)),(1,(qe_aShed_2 a1)),(12,(i6 (a0.length:Int))),(13,(i6 s2))]:EL)) (fun s2:Int=>([]:OL)) (fun(x:(Unit)⊕(Unit)) e E' O'=>match x with | (.inl _p)=>e = .ret∧Mat B E' O' ([(4,(bo false))]:EL) ([]:OL) | (.inr _p)=>e = .exit 0∧Mat B E' O' ([]:EL) ([]:OL)) hx69 (mp [] _ _ hB) (fun s2 y h => ?_) (fun e E' O' hR => ?_)
  ·unfold xref43_Same_L0 at h
   refine sr (SQ tt) ?_
   apply AWp.seq
   apply AWp.cond rfl<;>intro hg47
   ·have h:=ite_t hg47 h
    apply AWp.skip
    apply seqQ_n
    apply AWp.seq
    apply AWp.block
    refine sr (SQ tt) ?_
    apply AWp.seq
    refine AWp.cut h (fun m58:Bool=>([(0,(qe_aShed_2 a0)),(1,(qe_aShed_2 a1)),(12,(i6 (a0.length:Int))),(13,(i6 s2)),(41,(bo m58))]:EL)) (fun m58:Bool=>([]:OL)) (fun m58 h E' O' hmat => ?_) (fun j59 hjj59 h => ?_)
    ·apply seqQ_n
     refine AWp.ghost hmat ?_
     apply AWp.cond rfl<;>intro hg60
     ·have h:=ite_t hg60 h
      refine sr (SQ tt) ?_
      apply AWp.ret
      apply blkQ_r
      apply seqQ_r
      obtain rfl:=oi h
      exact⟨(fun hc=>by cases hc),rfl,(mp [] _ _ hB)⟩
     ·have h:=ite_f hg60 h
      apply AWp.skip
      apply blkQ_n
      apply seqQ_n
      refine rg (SQ tt) ?_
      obtain rfl:=oi h
      exact⟨rfl,(mp [] _ _ hB)⟩
    ·obtain⟨x61,hx61,h⟩:=bindS h
     obtain⟨x62,hx62,h⟩:=bindS h
     obtain⟨r63,hr63,h⟩:=bindS h
     rcases bft (!r63) with hg64 | hg64
     ·have h:=ite_t hg64 h
      refine drS (SQ (fa hx61 (fa hx62 (fa (cl [] (xref42_SameItems_ac x61.fItems x62.fItems r63 hr63)) (fa hg64 tt))))) ?_
      exact hjj59 _ h _ _ (mp [] _ _ hB)
     ·have h:=ite_f hg64 h
      obtain⟨x65,hx65,h⟩:=bindS h
      obtain⟨x66,hx66,h⟩:=bindS h
      obtain⟨r67,hr67,h⟩:=bindS h
      refine drS (SQ (fa hx61 (fa hx62 (fa (cl [] (xref42_SameItems_ac x61.fItems x62.fItems r63 hr63)) (fa hg64 (fa hx65 (fa hx66 (fa (cl [] (xref23_SameInts_ac x65.fLoads x66.fLoads r67 hr67)) tt)))))))) ?_
      exact hjj59 _ h _ _ (mp [] _ _ hB)
   ·have h:=ite_f hg47 h
    apply AWp.exit
    apply seqQ_e
    obtain rfl:=oi h
    exact⟨(fun hc=>by cases hc),rfl,(mp [] _ _ hB)⟩
  ·rcases x68 with _ | _
   ·obtain⟨rfl,hmat⟩:=hR
    apply blkQ_r
    apply seqQ_r
    obtain rfl:=oi h
    exact rt (Mat.trans hmat (mp [] [(4,(bo false))] [] hB)) [(bo false)] (Res.tmp (by rfl) (by rfl) Res.nil) rfl
   ·obtain⟨rfl,hmat⟩:=hR
    apply blkQ_hit
    apply seqQ_n
    refine AWp.ghost hmat ?_
    refine sr (SQ tt) ?_
    apply AWp.ret
    obtain rfl:=oi h
    exact rt (kp [(4,_)] [] hB rfl rfl (by rfl)) [(bo true)] (Res.tmp (by rfl) (by rfl) Res.nil) rfl
end
end Go.Proofs.Ytkcpjnjneehecaa
