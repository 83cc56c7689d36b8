/- Printed by gen.py: the Go functions as plain functions, and that the code does what they say. -/
import Derived.Test.YtplbaenjbihekaaGreatDoorChecked
import Derived.Test.YtplbaenjbihekaaGreatDoorVcYB
import Derived.Test.YtplbaenjbihekaaGreatDoorVcZ
import Derived.Test.YtplbaenjbihekaaGreatDoorVcGC
import Derived.KernelRfl
import Derived.Test.YtplbaenjbihekaaGreatDoorVcMD
import Derived.Test.YtplbaenjbihekaaGreatDoorVcMQ
import Derived.Test.YtplbaenjbihekaaGreatDoorVcSG
import Derived.Test.YtplbaenjbihekaaGreatDoorFnsB
import Derived.Test.YtplbaenjbihekaaGreatDoorExt
import Derived.Test.YtplbaenjbihekaaGreatDoorVcPm
import Derived.Test.YtplbaenjbihekaaGreatDoorVcRg
import Derived.Test.YtplbaenjbihekaaGreatDoorVcSt
import Derived.Test.YtplbaenjbihekaaGreatDoorVcMR
namespace Go.Proofs.YtplbaenjbihekaaGreatDoor
open Go Go.Vc
open Tryz
open Go.Vc.OpJ (assign alloc lss pickT pickF extract lenD indexD loadD eqlI gtr callVal leq geq loadR nilP indexS buildSlice lenS fieldD neqI pickAnd pickOr)
open Go.Vc.AWp (seq ghost ret block)
set_option maxHeartbeats 4000000
set_option maxRecDepth 100000
noncomputable section
def P2 (a0:(List A1)) (a1:(List (A2×Bool))) (i:Int):Option ((Int⊕Unit)⊕Int):=
 (if (decide (i<(a0.length:Int)))=true then
 (idx a0 i).bind fun _=>
 (idx a0 i).bind fun p=>
 (A03 p a1).bind fun s=>
 (if s=true then
 some (.inl (.inl i))
 else
 some (.inr (w64 (i+1))))
 else
 some (.inl (.inr ())))
def U0 (a0:(List A1)) (a1:(List (A2×Bool))):Option (Int):=
 (loop (P2 a0 a1) 0).bind fun i=>match i with
 | (.inl p)=>
  some p
 | (.inr _)=>
  some (-1)
theorem A84 (a0:(List A1)) (a1:(List (A2×Bool))) (r:Int) (h:U0 a0 a1=some r):AC Tryz.prog 68 [.sref 0 22 0 a0.length,.func 50 [pt 1]] [(0,.row 43 22 (a0.map A8)),(1,.box 82 (.mref 2)),(2,.blk (mapQ (mpairs B0 eB a1)))] (.d (.int .i64 r)) [(0,some (.row 43 22 (a0.map A8))),(1,some (.box 82 (.mref 2))),(2,some (.blk (mapQ (mpairs B0 eB a1))))]:=by
 refine AC.of_code2 Tryz.func68 rfl rfl (Nat.le_of_ble_eq_true (by rfl)) fun B hB hN => ?_;delta U0 at h;refine sr (SQ tt) ?_;apply seq;refine sr (SQ tt) ?_;apply block;obtain⟨F,G,h⟩:=bindS h;refine lg (P2 a0 a1) (fun i:Int=>([(0,.sref 0 22 0 a0.length),(1,.func 50 [pt 1]),(7,i6 (a0.length:Int)),(8,i6 i)]:EL)) (fun i:Int=>([(0,some (B3 a0)),(1,some (.box 82 (.mref 2))),(2,some (.blk (mapQ (mpairs B0 eB a1))))]:OL)) (fun(x:(Int)⊕Unit) e s t=>match x with | (.inl p)=>e = .ret∧Mat B s t ([(4,i6 p)]:EL) ([(0,some (B3 a0)),(1,some (.box 82 (.mref 2))),(2,some (.blk (mapQ (mpairs B0 eB a1))))]:OL) | (.inr _p)=>e = .exit 0∧Mat B s t ([]:EL) ([(0,some (B3 a0)),(1,some (.box 82 (.mref 2))),(2,some (.blk (mapQ (mpairs B0 eB a1))))]:OL)) G (mp [] _ _ hB) (fun i y h => ?_) (fun e s t hR => ?_)
 ·unfold P2 at h;refine sr (SQ tt) ?_;apply seq;apply AWp.cond rfl<;>intro A
  ·have h:=A5 A h;apply AWp.skip;apply A0;apply seq;apply block;refine sr (SQ tt) ?_;apply seq;obtain⟨_,H,h⟩:=bindS h;obtain⟨I,J,h⟩:=bindS h;obtain⟨C,K,h⟩:=bindS h;refine rg (SQ (fa H (fa J (fa (cl [(0,1),(1,2)] (A8s I a1 C K)) tt)))) ?_;apply A0;refine ghost (mp [] [(0,.sref 0 22 0 a0.length),(1,.func 50 [pt 1]),(5,i6 i),(7,i6 (a0.length:Int)),(8,i6 i),(16,bo C)] [(0,some (B3 a0)),(1,some (.box 82 (.mref 2))),(2,some (.blk (mapQ (mpairs B0 eB a1))))] hB) ?_;apply AWp.cond rfl<;>intro E
   ·have h:=A5 E h;refine sr (SQ tt) ?_;apply ret;apply D8;apply B8;obtain rfl:=oi h;exact⟨nofun,rfl,mp [] _ _ hB⟩
   ·have h:=A6 E h;apply AWp.skip;apply D7;apply A0;refine rg (SQ tt) ?_;obtain rfl:=oi h;exact⟨rfl,mp [] _ _ hB⟩
  ·have h:=A6 A h;apply AWp.exit;apply D6;obtain rfl:=oi h;exact⟨nofun,rfl,mp [] _ _ hB⟩
 ·rcases F with p | _
  ·obtain⟨rfl,u⟩:=hR;apply D8;apply B8;obtain rfl:=oi h;exact rt (Mat.trans u (mp [] [(4,i6 p)] [(0,some (B3 a0)),(1,some (.box 82 (.mref 2))),(2,some (.blk (mapQ (mpairs B0 eB a1))))] hB)) [i6 p] (rT rN) rfl
  ·obtain⟨rfl,u⟩:=hR;apply B9;apply A0;refine ghost u ?_;refine sr (SQ tt) ?_;apply ret;obtain rfl:=oi h;exact rt (kp [(4,_)] [(0,some _),(1,some _),(2,some _)] hB rfl rfl (by rfl)) [i6 (-1)] (rT rN) rfl
def X0 (a1:(List (A2×Bool))) (i:Int×Int×(List A1)):Option ((Int×(List A1))⊕(Int×Int×(List A1))):=
 (if (decide (i.2.1<(i.2.2.length:Int)))=true then
 (idx i.2.2 i.2.1).bind fun _=>
 (idx i.2.2 i.2.1).bind fun p=>
 (A03 p a1).bind fun u=>
 jn (fun s:Int×(List A1)=>
 some (.inr (s.1,w64 (i.2.1+1),s.2))) (fun t=>
 (if (!u)=true then
 (idx i.2.2 i.1).bind fun _=>
 (idx i.2.2 i.1).bind fun _=>
 t (w64 (i.1+1),i.2.2.set i.1.toNat p)
 else
 t (i.1,i.2.2)))
 else
 some (.inl (i.1,i.2.2)))
def X1 (a0:(List A1)) (a1:(List (A2×Bool))):Option (List A1):=
 (U0 a0 a1).bind fun p=>
 (if (p==(-1))=true then
 some a0
 else
 (loop (X0 a1) (p,w64 (p+1),a0)).bind fun i=>
 chk (decide (0≤i.1)&&decide (i.1.toNat≤i.2.length)&&decide (i.2.length≤i.2.length))<|
 chk (decide (i.1.toNat+(i.2.length-i.1.toNat)≤i.2.length))<|
 chk (decide (0≤i.1)&&decide (0≤i.1.toNat)&&decide (i.1.toNat≤i.2.length))<|
 some (((i.2.take i.1.toNat++List.replicate (i.2.length-i.1.toNat) (A1.mk 0 (A2.mk (E5.mk false 0 0) 0) false (D5.mk (A2.mk (E5.mk false 0 0) 0) 0 (C2.mk 0 ([]:List B4) (E5.mk false 0 0) 0 0 0 ([]:List B5) ([]:List E7) ([]:List A3))))++i.2.drop (i.1.toNat+(i.2.length-i.1.toNat))).drop 0).take i.1.toNat))
theorem A8t (a0:(List A1)) (a1:(List (A2×Bool))) (r:(List A1)) (h:X1 a0 a1=some r):AC Tryz.prog 49 [.sref 0 22 0 a0.length,.func 50 [pt 1]] [(0,.row 43 22 (a0.map A8)),(1,.box 82 (.mref 2)),(2,.blk (mapQ (mpairs B0 eB a1)))] (.d (.list 22 (r.map A8))) [(0,none),(1,some (.box 82 (.mref 2))),(2,some (.blk (mapQ (mpairs B0 eB a1))))]:=by
 refine ac2 Tryz.func49 rfl rfl fun B hB hN L => ?_;delta X1 at h;refine sr (SQ tt) ?_;apply seq;obtain⟨G,O,h⟩:=bindS h;refine rg (SQ (fa (cl [(0,0),(1,1),(2,2)] (A84 a0 a1 G O)) tt)) ?_;apply A0;refine ghost (mp [] [(0,.sref 0 22 0 a0.length),(1,.func 50 [pt 1]),(5,i6 G)] [(0,some (B3 a0)),(1,some (.box 82 (.mref 2))),(2,some (.blk (mapQ (mpairs B0 eB a1))))] hB) ?_;apply seq;refine sr (SQ tt) ?_;apply AWp.cond rfl<;>intro H
 ·have h:=A5 H h;refine sr (SQ tt) ?_;apply ret;apply B8;obtain rfl:=oi h;exact rt (Mat.trans (Mat.freezeP (n:=0) (e:=43) (sz:=22) (es:=a0.map A8) (Ts:=[(4,A4 a0)]) (Bs:=[]) (by rfl) (TwT.cons (x:=(.sref 0 22 0 a0.length)) (by rfl) (FrzL.all (by first | rfl | (simp;done) | (simp;omega) | omega)) TwT.nil) TwB.nil) (mp [] [(4,A4 a0)] [(1,some (.box 82 (.mref 2))),(2,some (.blk (mapQ (mpairs B0 eB a1))))] hB)) [A4 a0] (rT rN) rfl
 ·have h:=A6 H h;apply AWp.skip;apply A0;apply seq;refine sr (SQ tt) ?_;apply block;obtain⟨i,P,h⟩:=bindS h;refine lg (X0 a1) (fun p:Int×Int×(List A1)=>([(0,.sref 0 22 0 p.2.2.length),(1,.func 50 [pt 1]),(5,i6 p.1),(6,i6 p.2.1)]:EL)) (fun p:Int×Int×(List A1)=>([(0,some (B3 p.2.2)),(1,some (.box 82 (.mref 2))),(2,some (.blk (mapQ (mpairs B0 eB a1))))]:OL)) (fun(i:(Int×(List A1))) e C E=>e = .exit 0∧Mat B C E ([(0,.sref 0 22 0 i.2.length),(5,i6 i.1)]:EL) ([(0,some (B3 i.2)),(1,some (.box 82 (.mref 2))),(2,some (.blk (mapQ (mpairs B0 eB a1))))]:OL)) P (mp [] _ _ hB) (fun p y h => ?_) (fun e C E hR => ?_)
  ·unfold X0 at h;apply seq;refine sr (SQ tt) ?_;apply AWp.cond rfl<;>intro I
   ·have h:=A5 I h;apply AWp.skip;apply A0;apply seq;apply block;obtain⟨_,Q,h⟩:=bindS h;obtain⟨s,R,h⟩:=bindS h;refine sr (SQ (fa Q (fa R tt))) ?_;apply seq;obtain⟨J,S,h⟩:=bindS h;refine rg (SQ (fa (cl [(0,1),(1,2)] (A8s s a1 J S)) tt)) ?_;apply A0;refine ghost (mp [] [(0,.sref 0 22 0 p.2.2.length),(1,.func 50 [pt 1]),(5,i6 p.1),(6,i6 p.2.1),(7,pt 1007),(29,bo (!J))] [(0,some (B3 p.2.2)),(1,some (.box 82 (.mref 2))),(2,some (.blk (mapQ (mpairs B0 eB a1)))),(1007,bd 43 (A8 s))] hB) ?_;refine AWp.cut h (fun t:Int×(List A1)=>([(0,.sref 0 22 0 t.2.length),(1,.func 50 [pt 1]),(5,i6 t.1),(6,i6 p.2.1)]:EL)) (fun t:Int×(List A1)=>([(0,some (B3 t.2)),(1,some (.box 82 (.mref 2))),(2,some (.blk (mapQ (mpairs B0 eB a1))))]:OL)) (fun t h C E F => ?_) (fun W K h => ?_)
    ·apply D7;apply A0;refine ghost F ?_;refine rg (SQ tt) ?_;obtain rfl:=oi h;exact⟨rfl,mp [] _ _ hB⟩
    ·apply AWp.cond rfl<;>intro M
     ·have h:=A5 M h;obtain⟨_,T,h⟩:=bindS h;obtain⟨_,U,h⟩:=bindS h;refine sr (SQ (fa T (fa U (fa (sv s) tt)))) ?_;refine rg (SQ tt) ?_;exact K _ h _ _ (Mat.trans (mp [] [(0,.sref 0 22 0 p.2.2.length),(1,.func 50 [pt 1]),(5,i6 (w64 (p.1+1))),(6,i6 p.2.1)] [(0,some (B3 (p.2.2.set p.1.toNat s))),(1,some (.box 82 (.mref 2))),(2,some (.blk (mapQ (mpairs B0 eB a1))))] hB) (Mat.trans (Mat.lenP (Ts:=[(0,.sref 0 22 0 ((p.2.2.set p.1.toNat s).length))]) (Bs:=[]) (TwT.cons (x:=(.sref 0 22 0 p.2.2.length)) (by rfl) (Tw.leaf ⟨_,_,_,_,_,rfl,rfl,(by first | rfl | (simp;done) | (simp;omega) | omega)⟩) TwT.nil) TwB.nil) (mp [] _ _ hB)))
     ·have h:=A6 M h;apply AWp.skip;exact K _ h _ _ (mp [] _ _ hB)
   ·have h:=A6 I h;apply AWp.exit;apply D6;obtain rfl:=oi h;exact⟨nofun,rfl,mp [] _ _ hB⟩
  ·obtain⟨rfl,F⟩:=hR;apply B9;apply A0;refine ghost F ?_;obtain⟨u,h⟩:=B2 h;have hc43_o:=u;simp only [Bool.and_eq_true,decide_eq_true_eq] at hc43_o;obtain⟨N,h⟩:=B2 h;have hc44_o:=N;simp only [decide_eq_true_eq] at hc44_o;apply sr (c (mv hN (q 0)) rfl (c (mv hN (q 5)) rfl (c (OpJ.cutS underlying22 tyS43 (l:=i.1.toNat) (h:=i.2.length) (off':=i.1.toNat) (len':=(i.2.length-i.1.toNat)) (.inr ⟨_,_,_,rfl,ot 37 (i6 i.1),of_decide_eq_true (X6 (X6 u)),rfl⟩) (.inl ⟨rfl,rfl,rfl⟩) (of_decide_eq_true (A04 (X6 u))) (of_decide_eq_true (A04 u)) (by simp) (by simp) (L rfl) (q 36)) rfl (cg (OpJ.clearS (e:=43) (z:=(.st [.int .i64 0,.st Zz9,.bool false,.st [.st Zz9,.int .i64 0,.st Zz2]])) (es:=i.2.map A8) (es':=(i.2.take i.1.toNat++List.replicate (i.2.length-i.1.toNat) (A1.mk 0 (A2.mk (E5.mk false 0 0) 0) false (D5.mk (A2.mk (E5.mk false 0 0) 0) 0 (C2.mk 0 ([]:List B4) (E5.mk false 0 0) 0 0 0 ([]:List B5) ([]:List E7) ([]:List A3))))++i.2.drop (i.1.toNat+(i.2.length-i.1.toNat))).map A8) underlying22 tyZD43 (by rfl) (by decide) (by rw [List.length_map];exact of_decide_eq_true N) (by simp only [List.map_append,List.map_take,List.map_drop,List.map_replicate];rfl) (q 38)) rfl cn))));obtain⟨A,h⟩:=B2 h;have hc45_o:=A;simp only [Bool.and_eq_true,decide_eq_true_eq] at hc45_o;apply sr (c (mv hN (q 0)) rfl (c (mv hN (q 5)) rfl (c (OpJ.cutS underlying22 tyS43 (l:=0) (h:=i.1.toNat) (off':=0) (len':=i.1.toNat) (.inl ⟨rfl,rfl,rfl⟩) (.inr ⟨_,_,_,rfl,ot 40 (i6 i.1),of_decide_eq_true (X6 (X6 A)),rfl⟩) (of_decide_eq_true (A04 (X6 A))) (of_decide_eq_true (A04 A)) (by simp) (by simp) (L rfl) (q 39)) rfl (c (assign (L rfl) (q 41)) rfl cn))));apply ret;obtain rfl:=oi h;exact rt (Mat.trans (Mat.freezeP (n:=0) (e:=43) (sz:=22) (es:=(i.2.take i.1.toNat++List.replicate (i.2.length-i.1.toNat) (A1.mk 0 (A2.mk (E5.mk false 0 0) 0) false (D5.mk (A2.mk (E5.mk false 0 0) 0) 0 (C2.mk 0 ([]:List B4) (E5.mk false 0 0) 0 0 0 ([]:List B5) ([]:List E7) ([]:List A3))))++i.2.drop (i.1.toNat+(i.2.length-i.1.toNat))).map A8) (Ts:=[(4,A4 (((i.2.take i.1.toNat++List.replicate (i.2.length-i.1.toNat) (A1.mk 0 (A2.mk (E5.mk false 0 0) 0) false (D5.mk (A2.mk (E5.mk false 0 0) 0) 0 (C2.mk 0 ([]:List B4) (E5.mk false 0 0) 0 0 0 ([]:List B5) ([]:List E7) ([]:List A3))))++i.2.drop (i.1.toNat+(i.2.length-i.1.toNat))).drop 0).take i.1.toNat))]) (Bs:=[]) (by rfl) (TwT.cons (x:=(.sref 0 22 0 i.1.toNat)) (by rfl) (FrzL.cut (fs:=(((i.2.take i.1.toNat++List.replicate (i.2.length-i.1.toNat) (A1.mk 0 (A2.mk (E5.mk false 0 0) 0) false (D5.mk (A2.mk (E5.mk false 0 0) 0) 0 (C2.mk 0 ([]:List B4) (E5.mk false 0 0) 0 0 0 ([]:List B5) ([]:List E7) ([]:List A3))))++i.2.drop (i.1.toNat+(i.2.length-i.1.toNat))).drop 0).take i.1.toNat).map A8) (by simp only [List.length_map,List.length_append,List.length_take,List.length_drop,List.length_replicate,List.length_set];omega) (by first | rw [List.map_drop,List.map_take] | (simp [List.map_take,List.map_drop];done) | simp [List.take_of_length_le])) TwT.nil) TwB.nil) (mp [] [(4,A4 (((i.2.take i.1.toNat++List.replicate (i.2.length-i.1.toNat) (A1.mk 0 (A2.mk (E5.mk false 0 0) 0) false (D5.mk (A2.mk (E5.mk false 0 0) 0) 0 (C2.mk 0 ([]:List B4) (E5.mk false 0 0) 0 0 0 ([]:List B5) ([]:List E7) ([]:List A3))))++i.2.drop (i.1.toNat+(i.2.length-i.1.toNat))).drop 0).take i.1.toNat))] [(1,some (.box 82 (.mref 2))),(2,some (.blk (mapQ (mpairs B0 eB a1))))] hB)) [A4 (((i.2.take i.1.toNat++List.replicate (i.2.length-i.1.toNat) (A1.mk 0 (A2.mk (E5.mk false 0 0) 0) false (D5.mk (A2.mk (E5.mk false 0 0) 0) 0 (C2.mk 0 ([]:List B4) (E5.mk false 0 0) 0 0 0 ([]:List B5) ([]:List E7) ([]:List A3))))++i.2.drop (i.1.toNat+(i.2.length-i.1.toNat))).drop 0).take i.1.toNat)] (rT rN) rfl
def A3y (p:A7) (s:(List A2)) (i:Int×(List (A2×Bool))):Option ((List (A2×Bool))⊕(Int×(List (A2×Bool)))):=
 (if (decide (i.1<((s++p.fAnnounce).length:Int)))=true then
 (idx (s++p.fAnnounce) i.1).bind fun _=>
 (idx (s++p.fAnnounce) i.1).bind fun t=>
 some (.inr (w64 (i.1+1),mput keq33 i.2 t true))
 else
 some (.inl i.2))
def A3z (s:(List A7)×Int) (i:Int×(List (A2×Bool))×(List A7)×D9):Option (((List (A2×Bool))×(List A7)×D9)⊕(Int×(List (A2×Bool))×(List A7)×D9)):=
 (if (decide (i.1<(s.1.length:Int)))=true then
 (idx s.1 i.1).bind fun p=>
 (A5y i.2.2.2).bind fun t=>
 (if (!t.2)=true then
 some (.inl (i.2.1,i.2.2.1,i.2.2.2))
 else
 chk (decide ((i.2.2.1++[p]).length≤LIM))<|
 (A3x p.fWithdraw).bind fun u=>
 chk (decide ((u++p.fAnnounce).length≤LIM))<|
 (loop (A3y p u) (0,i.2.1)).bind fun A=>
 some (.inr (w64 (i.1+1),A,(i.2.2.1++[p]),t.1)))
 else
 some (.inl (i.2.1,i.2.2.1,i.2.2.2)))
def A5r (a0:C3):Option (C3×(List A7)×Int):=
 (A2x a0).bind fun u=>
 (if (!u)=true then
 some (C3.mk ([]:List A1) (D9.mk 0 0 0),([]:List A7),1)
 else
 chk (decide (0≤(minI (a0.fPending.length:Int) 64))&&decide (0≤(minI (a0.fPending.length:Int) 64).toNat)&&decide ((minI (a0.fPending.length:Int) 64).toNat≤a0.fPending.length))<|
 (U6 ((a0.fPending.take ((minI (a0.fPending.length:Int) 64).toNat)).drop 0)).bind fun i=>
 (I1 i).bind fun t=>
 chk (decide (t.length=i.length))<|
 (A5p ((t.drop 0).take i.length)).bind fun p=>
 (if (p.2 != 0)=true then
 some (C3.mk ([]:List A1) (D9.mk 0 0 0),([]:List A7),p.2)
 else
 (U6 a0.fPending).bind fun A=>
 (loop (A3z p) (0,([]:List (A2×Bool)),([]:List A7),a0.fBucket)).bind fun s=>
 (X1 A s.1).bind fun C=>
 some (C3.mk C s.2.2,s.2.1,0)))
theorem B0a (a0:C3) (r:C3×(List A7)×Int) (h:A5r a0=some r):AC Tryz.prog 19 [.d (D4 a0)] Zz10 (.tup [.d (D4 r.1),.d (.list 13 (r.2.1.map E6)),.d (.int .i64 r.2.2)]) Zz3:=by
 refine ac2 Tryz.func19 rfl rfl fun B hB hN L => ?_;delta A5r at h;refine sr (SQ tt) ?_;apply seq;apply seq;obtain⟨M,U,h⟩:=bindS h;refine rg (SQ (fa (cl [(500,500)] (A2i a0 M U)) tt)) ?_;apply A0;refine ghost (mp [] [(1,pt 1001),(2,pt 1002),(19,bo (!M))] [(500,some (.know (globD 0 (.imap gv0)))),(1001,bd 26 (D4 a0)),(1002,some (.box 26 (.st Zz8)))] hB) ?_;apply AWp.cond rfl<;>intro N
 ·have h:=A5 N h;refine sr (SQ tt) ?_;apply ret;apply B8;obtain rfl:=oi h;exact rt (Mat.trans (Mat.coeP (Ts:=[]) (Bs:=[(1002,bd 26 (.st Zz5))]) TwT.nil (TwB.cons (x:=(.st Zz8)) (by rfl) (Tw.leaf ⟨_,Co.st (CoL.cons (Co.nils 22) (CoL.cons (Co.d _) CoL.nil)),rfl⟩) TwB.nil)) (Mat.trans (Mat.coeP (Ts:=[(3,D1 ([]:List A7))]) (Bs:=[]) (TwT.cons (x:=.nils) (by rfl) (Tw.leaf ⟨_,Co.nils 13,rfl⟩) TwT.nil) TwB.nil) (mp [] [(2,pt 1002),(3,D1 ([]:List A7)),(4,i6 1)] [(500,some (.know (globD 0 (.imap gv0)))),(1002,bd 26 (.st Zz5))] hB))) [.d (.st Zz5),D1 ([]:List A7),i6 1] (Res.cell (c:=(.d (.st Zz5))) (by rfl) (by rfl) tyS26 (by rfl) (by rfl) (by rfl) (rT (rT rN))) rfl
 ·have h:=A6 N h;apply AWp.skip;apply A0;apply seq;obtain⟨W,h⟩:=B2 h;obtain⟨C,X,h⟩:=bindS h;refine rg (SQ (fa W (fa (cl [(900000,100100)] (A2z ((a0.fPending.take ((minI (a0.fPending.length:Int) 64).toNat)).drop 0) C X)) tt))) ?_;apply A0;refine ghost (mp [] [(1,pt 1001),(2,pt 1002),(5,.sref 100100 22 0 C.length)] [(500,some (.know (globD 0 (.imap gv0)))),(1001,bd 26 (D4 a0)),(1002,some (.box 26 (.st Zz8))),(100100,some (B3 C))] hB) ?_;apply seq;obtain⟨F,Y,h⟩:=bindS h;obtain⟨O,h⟩:=B2 h;have lhc6:=of_decide_eq_true O;have hc6_o:=of_decide_eq_true O;refine rg (SQ (fa (cl [(0,100100)] (A29 C F Y)) tt)) ?_;apply A0;refine ghost (mp [] [(1,pt 1001),(2,pt 1002),(5,.sref 100100 22 0 C.length)] [(500,some (.know (globD 0 (.imap gv0)))),(1001,bd 26 (D4 a0)),(1002,some (.box 26 (.st Zz8))),(100100,some (B3 F))] hB) ?_;apply seq;refine ghost (Mat.freezeP (n:=100100) (e:=43) (sz:=22) (es:=F.map A8) (Ts:=[(5,A4 ((F.drop 0).take C.length))]) (Bs:=[]) (by rfl) (TwT.cons (x:=(.sref 100100 22 0 C.length)) (by rfl) (FrzL.cut (fs:=((F.drop 0).take C.length).map A8) (by simp only [List.length_map,List.length_append,List.length_take,List.length_drop,List.length_replicate,List.length_set];omega) (by first | rw [List.map_drop,List.map_take] | (simp [List.map_take,List.map_drop];done) | simp [List.take_of_length_le])) TwT.nil) TwB.nil) ?_
  obtain⟨t,Z,h⟩:=bindS h;refine rg (SQ (fa (cl [(500,500)] (B08 ((F.drop 0).take C.length) t Z)) tt)) ?_;apply A0;refine ghost (mp [] [(1,pt 1001),(2,pt 1002),(6,D1 t.1),(7,i6 t.2)] [(500,some (.know (globD 0 (.imap gv0)))),(1001,bd 26 (D4 a0)),(1002,some (.box 26 (.st Zz8)))] hB) ?_;apply seq;refine sr (SQ tt) ?_;apply AWp.cond rfl<;>intro P
  ·have h:=A5 P h;refine sr (SQ tt) ?_;apply ret;apply B8;obtain rfl:=oi h;exact rt (Mat.trans (Mat.coeP (Ts:=[]) (Bs:=[(1002,bd 26 (.st Zz5))]) TwT.nil (TwB.cons (x:=(.st Zz8)) (by rfl) (Tw.leaf ⟨_,Co.st (CoL.cons (Co.nils 22) (CoL.cons (Co.d _) CoL.nil)),rfl⟩) TwB.nil)) (Mat.trans (Mat.coeP (Ts:=[(3,D1 ([]:List A7))]) (Bs:=[]) (TwT.cons (x:=.nils) (by rfl) (Tw.leaf ⟨_,Co.nils 13,rfl⟩) TwT.nil) TwB.nil) (mp [] [(2,pt 1002),(3,D1 ([]:List A7)),(4,i6 t.2)] [(500,some (.know (globD 0 (.imap gv0)))),(1002,bd 26 (.st Zz5))] hB))) [.d (.st Zz5),D1 ([]:List A7),i6 t.2] (Res.cell (c:=(.d (.st Zz5))) (by rfl) (by rfl) tyS26 (by rfl) (by rfl) (by rfl) (rT (rT rN))) rfl
  ·have h:=A6 P h;apply AWp.skip;apply A0;apply seq;obtain⟨p,aa,h⟩:=bindS h;refine drS (SQ (fa (cl [(900000,100400)] (A2z a0.fPending p aa)) tt)) ?_;apply A0;refine ghost (mp [] [(2,pt 1002),(6,D1 t.1),(8,pt 1008)] [(500,some (.know (globD 0 (.imap gv0)))),(1002,some (.box 26 (.st Zz8))),(1008,some (.box 26 (.st [.sref 100400 22 0 p.length,.d (C1 a0.fBucket)]))),(100400,some (B3 p))] hB) ?_;refine sr (SQ tt) ?_;apply sr (cg (OpJ.mkmapQ hB (nm:=1046) (by decide) (L rfl)) rfl (cg (OpJ.allocJ hB tyJ82 (h1:=⟨rfl,rfl⟩) (nm:=1010) (by decide) (L rfl)) rfl (cg (sB tyS82 (q 10) (q 46)) rfl cn)));apply seq;refine sr (SQ tt) ?_;apply block;obtain⟨i,ab,h⟩:=bindS h;refine lg (A3z t) (fun s:Int×(List (A2×Bool))×(List A7)×D9=>([(2,pt 1002),(8,pt 1008),(9,.sref 3009 13 0 s.2.2.1.length),(10,pt 1010),(47,D1 t.1),(48,i6 (t.1.length:Int)),(49,i6 s.1)]:EL)) (fun s:Int×(List (A2×Bool))×(List A7)×D9=>([(500,some (.know (globD 0 (.imap gv0)))),(1002,some (.box 26 (.st Zz8))),(1008,some (.box 26 (.st [.sref 100400 22 0 p.length,.d (C1 s.2.2.2)]))),(1010,some (.box 82 (.mref 1046))),(1046,some (.blk (mapQ (mpairs B0 eB s.2.1)))),(3009,some (C4 s.2.2.1)),(100400,some (B3 p))]:OL)) (fun(i:((List (A2×Bool))×(List A7)×D9)) e G H=>e = .exit 0∧Mat B G H ([(2,pt 1002),(8,pt 1008),(9,.sref 3009 13 0 i.2.1.length),(10,pt 1010)]:EL) ([(500,some (.know (globD 0 (.imap gv0)))),(1002,some (.box 26 (.st Zz8))),(1008,some (.box 26 (.st [.sref 100400 22 0 p.length,.d (C1 i.2.2)]))),(1010,some (.box 82 (.mref 1046))),(1046,some (.blk (mapQ (mpairs B0 eB i.1)))),(3009,some (C4 i.2.1)),(100400,some (B3 p))]:OL)) ab (Mat.trans (Mat.beginP (n:=3009) (e:=71) (sz:=13) (Ts:=[(9,.sref 3009 13 0 0)]) (Bs:=[]) hB (by decide) (by rfl) (by decide) (TwT.cons (x:=.nils) (by rfl) (Tw.leaf ⟨rfl,rfl⟩) TwT.nil) TwB.nil) (mp [] _ _ hB)) (fun s y h => ?_) (fun e G H hR => ?_)
   ·unfold A3z at h;refine sr (SQ tt) ?_;apply seq;apply AWp.cond rfl<;>intro Q
    ·have h:=A5 Q h;apply AWp.skip;apply A0;apply seq;apply block;obtain⟨u,ac,h⟩:=bindS h;refine sr (SQ (fa ac tt)) ?_;obtain⟨J,ae,h⟩:=bindS h;refine sr (SQ (fa (cl [] (B41 s.2.2.2 J ae)) tt)) ?_;apply seq;refine sr (SQ tt) ?_;apply AWp.cond rfl<;>intro R
     ·have h:=A5 R h;apply AWp.exit;apply D6;refine B49 (by rfl) ?_;apply D6;obtain rfl:=oi h;exact⟨nofun,rfl,mp [] _ _ hB⟩
     ·have h:=A6 R h;apply AWp.skip;apply A0;refine sr (SQ tt) ?_;obtain⟨af,h⟩:=B2 h;refine sr (SQ (fa af tt)) ?_;apply seq;obtain⟨E,ag,h⟩:=bindS h;obtain⟨ah,h⟩:=B2 h;refine drS (SQ (fa (cl [(900000,100600)] (B1t u.fWithdraw E ag)) (fa ah tt))) ?_;apply A0;refine ghost (mp [] [(2,pt 1002),(8,pt 1008),(9,.sref 1066 13 0 ((s.2.2.1++[u]).length)),(10,pt 1010),(47,D1 t.1),(48,i6 (t.1.length:Int)),(49,i6 s.1),(72,.sref 1072 4 0 ((E++u.fAnnounce).length)),(73,i6 ((E++u.fAnnounce).length:Int)),(74,i6 0)] [(500,some (.know (globD 0 (.imap gv0)))),(1002,some (.box 26 (.st Zz8))),(1008,some (.box 26 (.st [.sref 100400 22 0 p.length,.d (C1 J.1)]))),(1010,some (.box 82 (.mref 1046))),(1046,some (.blk (mapQ (mpairs B0 eB s.2.1)))),(1066,some (C4 (s.2.2.1++[u]))),(1072,some (G0 (E++u.fAnnounce))),(100400,some (B3 p))] hB) ?_;apply block;obtain⟨S,ai,h⟩:=bindS h;refine lg (A3y u E) (fun I:Int×(List (A2×Bool))=>([(2,pt 1002),(8,pt 1008),(9,.sref 1066 13 0 ((s.2.2.1++[u]).length)),(10,pt 1010),(47,D1 t.1),(48,i6 (t.1.length:Int)),(49,i6 s.1),(72,.sref 1072 4 0 ((E++u.fAnnounce).length)),(73,i6 ((E++u.fAnnounce).length:Int)),(74,i6 I.1)]:EL)) (fun I:Int×(List (A2×Bool))=>([(500,some (.know (globD 0 (.imap gv0)))),(1002,some (.box 26 (.st Zz8))),(1008,some (.box 26 (.st [.sref 100400 22 0 p.length,.d (C1 J.1)]))),(1010,some (.box 82 (.mref 1046))),(1046,some (.blk (mapQ (mpairs B0 eB I.2)))),(1066,some (C4 (s.2.2.1++[u]))),(1072,some (G0 (E++u.fAnnounce))),(100400,some (B3 p))]:OL)) (fun(S:(List (A2×Bool))) e G H=>e = .exit 2∧Mat B G H ([(2,pt 1002),(8,pt 1008),(9,.sref 1066 13 0 ((s.2.2.1++[u]).length)),(10,pt 1010),(47,D1 t.1),(48,i6 (t.1.length:Int)),(49,i6 s.1)]:EL) ([(500,some (.know (globD 0 (.imap gv0)))),(1002,some (.box 26 (.st Zz8))),(1008,some (.box 26 (.st [.sref 100400 22 0 p.length,.d (C1 J.1)]))),(1010,some (.box 82 (.mref 1046))),(1046,some (.blk (mapQ (mpairs B0 eB S)))),(1066,some (C4 (s.2.2.1++[u]))),(100400,some (B3 p))]:OL)) ai (mp [] _ _ hB) (fun I y h => ?_) (fun e G H hR => ?_)
      ·unfold A3y at h;refine sr (SQ tt) ?_;apply seq;apply AWp.cond rfl<;>intro T
       ·have h:=A5 T h;apply AWp.skip;apply A0;apply seq;apply block;obtain⟨_,aj,h⟩:=bindS h;obtain⟨ak,al,h⟩:=bindS h;refine sr (SQ (fa aj (fa al tt))) ?_;apply rg (c (lb hN 82 _ _ tyS82 (At.here _) (q 10)) rfl (c (lb hN 33 _ _ tyS33 (At.here _) (q 16)) rfl (cg (OpJ.mputQ (g:=eB) (v:=true) (l:=I.2) (k:=ak) tyU82 underlying33 keyEq33 (q 78) (q 79) (Opd.bool true)) rfl cn)));apply D7;apply A0;refine rg (SQ tt) ?_;obtain rfl:=oi h;exact⟨rfl,mp [] _ _ hB⟩
       ·have h:=A6 T h;apply AWp.exit;apply D6;obtain rfl:=oi h;exact⟨nofun,rfl,mp [] _ _ hB⟩
      ·obtain⟨rfl,K⟩:=hR;apply B9;apply D7;apply A0;refine ghost K ?_;refine rg (SQ tt) ?_;obtain rfl:=oi h;exact⟨rfl,mp [(3009,1066)] _ _ hB⟩
    ·have h:=A6 Q h;apply AWp.exit;apply D6;obtain rfl:=oi h;exact⟨nofun,rfl,mp [] _ _ hB⟩
   ·obtain⟨rfl,K⟩:=hR;apply B9;apply A0;refine ghost K ?_;apply seq;obtain⟨A,am,h⟩:=bindS h;refine AWp.region (oc (ov (.ptr 1008 0 [0]) (fp hN underlying26 0 tyS22 (.box 26 (.st [.sref 100400 22 0 p.length,.d (C1 i.2.2)])) (ot 8 (pt 1008))))
     (oc (lb hN 26 (.st [.sref 100400 22 0 p.length,.d (C1 i.2.2)]) (.sref 100400 22 0 p.length) tyS22 (At.st1 (f:=(.sref 100400 22 0 p.length)) (by rfl) (by rfl) (At.here _) (by first | rfl | omega)) (ot 82 (.ptr 1008 0 [0])))
     (oc (OpJ.makeF (OpdL.cons (ot 10 (pt 1010)) OpdL.nil) rfl rfl (L rfl))
     (oc (OpJ.callFn hB fnOk49 (A8t p i.1 A am) [(0,100400),(1,1010),(2,1046)] (by kernel_rfl) (L rfl) (by kernel_rfl) (OpdL.cons (ot 83 (.sref 100400 22 0 p.length)) (OpdL.cons (ot 84 (.func 50 [pt 1010])) OpdL.nil)))
     (oc (ov (.ptr 1008 0 [0]) (fp hN underlying26 0 tyS22 (.box 26 (.st [.sref 100400 22 0 p.length,.d (C1 i.2.2)])) (ot 8 (pt 1008))))
     (oc (OpJ.storeB (bt:=26) (c:=(.st [.sref 100400 22 0 p.length,.d (C1 i.2.2)])) (v:=(A4 A)) (c':=(.st [A4 A,.d (C1 i.2.2)])) tyS22 (SetAt.st1 (f:=(.sref 100400 22 0 p.length)) (by rfl) (by rfl) (SetAt.here _ _) (by rfl) (by rfl) (by first | rfl | omega)) (by rfl) (by rfl) (by simp) rfl (ot 86 (.ptr 1008 0 [0])) (ot 85 (A4 A)))
     (OpJs.nil))))))) (by rfl) (by rfl) ?_
    apply A0;refine ghost (mp [] [(2,pt 1002),(8,pt 1008),(9,.sref 3009 13 0 i.2.1.length)] [(500,some (.know (globD 0 (.imap gv0)))),(1002,some (.box 26 (.st Zz8))),(1008,some (.box 26 (.st [A4 A,.d (C1 i.2.2)]))),(3009,some (C4 i.2.1))] hB) ?_;refine sr (SQ tt) ?_;apply ret;obtain rfl:=oi h;exact rt (Mat.trans (Mat.freezeP (n:=3009) (e:=71) (sz:=13) (es:=i.2.1.map E6) (Ts:=[(3,D1 i.2.1)]) (Bs:=[]) (by rfl) (TwT.cons (x:=(.sref 3009 13 0 i.2.1.length)) (by rfl) (FrzL.all (by first | rfl | (simp;done) | (simp;omega) | omega)) TwT.nil) TwB.nil) (Mat.trans (Mat.coeP (Ts:=[]) (Bs:=[(1002,bd 26 (.st [.list 22 (A.map A8),C1 i.2.2]))]) TwT.nil (TwB.cons (x:=(.st [A4 A,.d (C1 i.2.2)])) (by rfl) (Tw.leaf ⟨_,Co.st (CoL.cons (Co.d _) (CoL.cons (Co.d _) CoL.nil)),rfl⟩) TwB.nil)) (mp [] [(2,pt 1002),(3,D1 i.2.1),(4,i6 0)] [(500,some (.know (globD 0 (.imap gv0)))),(1002,bd 26 (.st [.list 22 (A.map A8),C1 i.2.2]))] hB))) [.d (.st [.list 22 (A.map A8),C1 i.2.2]),D1 i.2.1,i6 0] (Res.cell (c:=(.d (.st [.list 22 (A.map A8),C1 i.2.2]))) (by rfl) (by rfl) tyS26 (by rfl) (by rfl) (by rfl) (rT (rT rN))) rfl
def A38 (a0:C3):Option (Bool):=
 some ((a0.fPending.length:Int)==0)
theorem A5k (a0:C3) (r:Bool) (h:A38 a0=some r):AC Tryz.prog 13 [.d (D4 a0)] [] (.d (.bool r)) []:=by
 refine AC.of_code2 Tryz.func13 rfl rfl (Nat.le_of_ble_eq_true (by rfl)) fun B hB hN => ?_;delta A38 at h;refine sr (SQ tt) ?_;refine sr (SQ tt) ?_;apply ret;obtain rfl:=oi h;exact rt (kp [(2,_)] [] hB rfl rfl (by rfl)) [bo ((a0.fPending.length:Int)==0)] (rT rN) rfl
def A0b:Option (Bool):=
 (A5q (C3.mk ([]:List A1) (D9.mk 1 0 1)) ([A1.mk 0 (A2.mk (E5.mk false 0 0) 8) false (D5.mk (A2.mk (E5.mk false 0 0) 0) 0 (C2.mk 0 ([]:List B4) (E5.mk false 0 0) 0 0 0 ([]:List B5) ([]:List E7) ([]:List A3)))]:List A1)).bind fun p=>
 (A5r p.1).bind fun i=>
 jn (fun t:Bool=>
 some t) (fun s=>
 (if (((p.2==0)&&(i.2.2==0))&&((i.2.1.length:Int)==1))=true then
 (A38 i.1).bind fun u=>
 (if u=true then
 (A38 p.1).bind fun A=>
 s ((!A)&&(i.1.fBucket.fLevel==0))
 else
 s false)
 else
 s false))
theorem A59 (r:Bool) (h:A0b=some r):AC Tryz.prog 6 [] Zz10 (.d (.bool r)) Zz3:=by
 refine ac2 Tryz.func6 rfl rfl fun B hB hN L => ?_;delta A0b at h;refine sr (SQ tt) ?_;apply seq;obtain⟨i,F,h⟩:=bindS h;refine rg (SQ (fa (cl [(500,500)] (B09 (C3.mk ([]:List A1) (D9.mk 1 0 1)) ([A1.mk 0 (A2.mk (E5.mk false 0 0) 8) false (D5.mk (A2.mk (E5.mk false 0 0) 0) 0 (C2.mk 0 ([]:List B4) (E5.mk false 0 0) 0 0 0 ([]:List B5) ([]:List E7) ([]:List A3)))]:List A1) i F)) tt)) ?_;apply A0;refine ghost (mp [] [(1,pt 1001),(2,i6 i.2)] [(500,some (.know (globD 0 (.imap gv0)))),(1001,bd 26 (D4 i.1))] hB) ?_;apply seq;obtain⟨p,G,h⟩:=bindS h;refine rg (SQ (fa (cl [(500,500)] (B0a i.1 p G)) tt)) ?_;apply A0;refine ghost (mp [] [(1,pt 1001),(2,i6 i.2),(3,pt 1003),(4,D1 p.2.1),(5,i6 p.2.2)] [(500,some (.know (globD 0 (.imap gv0)))),(1001,bd 26 (D4 i.1)),(1003,bd 26 (D4 p.1))] hB) ?_;apply seq;refine AWp.cut h (fun u:Bool=>([(0,bo u)]:EL)) (fun u:Bool=>(Zz3:OL)) (fun u h K M H => ?_) (fun N A h => ?_)
 ·apply A0;refine ghost H ?_;apply ret;obtain rfl:=oi h;exact rt (kp [(0,_)] [(500,some _)] hB rfl rfl (by rfl)) [bo u] (rT rN) rfl
 ·rcases bft (((i.2==0)&&(p.2.2==0))&&((p.2.1.length:Int)==1)) with s | s
  ·have h:=A5 s h;obtain⟨C,E,h⟩:=bindS h;rcases bft C with t | t
   ·have h:=A5 t h;obtain⟨I,J,h⟩:=bindS h;refine rg (SQ (fa s (fa (cl [] (A5k p.1 C E)) (fa t (fa (cl [] (A5k i.1 I J)) tt))))) ?_;exact A _ h _ _ (mp [] _ _ hB)
   ·have h:=A6 t h;refine rg (SQ (fa s (fa (cl [] (A5k p.1 C E)) (fa t tt)))) ?_;exact A _ h _ _ (mp [] _ _ hB)
  ·have h:=A6 s h;refine rg (SQ (fa s tt)) ?_;exact A _ h _ _ (mp [] _ _ hB)
def I8 (a0:C2) (i:Int×Int):Option (Int⊕(Int×Int)):=
 (if (decide (i.2<(a0.fPath.length:Int)))=true then
 (idx a0.fPath i.2).bind fun p=>
 some (.inr (w64 (i.1+(w64 (1+(p.fASNs.length:Int)))),w64 (i.2+1)))
 else
 some (.inl i.1))
def I9 (a0:C2) (i:Int×Int):Option (Int⊕(Int×Int)):=
 (if (decide (i.2<(a0.fOther.length:Int)))=true then
 (idx a0.fOther i.2).bind fun p=>
 some (.inr (w64 (i.1+(p.fData.length:Int)),w64 (i.2+1)))
 else
 some (.inl i.1))
def L0 (a0:C2):Option (Bool):=
 (loop (I8 a0) (w64 ((w64 ((a0.fCommunities.length:Int)+(a0.fLarge.length:Int)))+(a0.fOther.length:Int)),0)).bind fun i=>
 (loop (I9 a0) (i,0)).bind fun p=>
 some (decide (p≤2000))
theorem A5z (a0:C2) (r:Bool) (h:L0 a0=some r):AC Tryz.prog 7 [.d (C8 a0)] [] (.d (.bool r)) []:=by
 refine ac2 Tryz.func7 rfl rfl fun B hB hN L => ?_;delta L0 at h;refine sr (SQ tt) ?_;refine sr (SQ tt) ?_;apply seq;refine sr (SQ tt) ?_;apply block;obtain⟨C,G,h⟩:=bindS h;refine lg (I8 a0) (fun s:Int×Int=>([(1,pt 1001),(3,i6 s.1),(20,D0 a0.fPath),(21,i6 (a0.fPath.length:Int)),(22,i6 s.2)]:EL)) (fun s:Int×Int=>([(1001,bd 39 (C8 a0))]:OL)) (fun(C:(Int)) e i p=>e = .exit 0∧Mat B i p ([(1,pt 1001),(3,i6 C)]:EL) ([(1001,bd 39 (C8 a0))]:OL)) G (mp [] _ _ hB) (fun s y h => ?_) (fun e i p hR => ?_)
 ·unfold I8 at h;refine sr (SQ tt) ?_;apply seq;apply AWp.cond rfl<;>intro E
  ·have h:=A5 E h;apply AWp.skip;apply A0;apply seq;apply block;obtain⟨_,H,h⟩:=bindS h;refine sr (SQ (fa H tt)) ?_;refine rg (SQ tt) ?_;apply D7;apply A0;refine rg (SQ tt) ?_;obtain rfl:=oi h;exact⟨rfl,mp [] _ _ hB⟩
  ·have h:=A6 E h;apply AWp.exit;apply D6;obtain rfl:=oi h;exact⟨nofun,rfl,mp [] _ _ hB⟩
 ·obtain⟨rfl,u⟩:=hR;apply B9;apply A0;refine ghost u ?_;apply seq;refine sr (SQ tt) ?_;apply block;obtain⟨A,I,h⟩:=bindS h;refine lg (I9 a0) (fun t:Int×Int=>([(3,i6 t.1),(34,C6 a0.fOther),(35,i6 (a0.fOther.length:Int)),(36,i6 t.2)]:EL)) (fun t:Int×Int=>([]:OL)) (fun(A:(Int)) e i p=>e = .exit 2∧Mat B i p ([(3,i6 A)]:EL) ([]:OL)) I (mp [] _ _ hB) (fun t y h => ?_) (fun e i p hR => ?_)
  ·unfold I9 at h;refine sr (SQ tt) ?_;apply seq;apply AWp.cond rfl<;>intro F
   ·have h:=A5 F h;apply AWp.skip;apply A0;apply seq;apply block;obtain⟨_,J,h⟩:=bindS h;refine sr (SQ (fa J tt)) ?_;refine rg (SQ tt) ?_;apply D7;apply A0;refine rg (SQ tt) ?_;obtain rfl:=oi h;exact⟨rfl,mp [] _ _ hB⟩
   ·have h:=A6 F h;apply AWp.exit;apply D6;obtain rfl:=oi h;exact⟨nofun,rfl,mp [] _ _ hB⟩
  ·obtain⟨rfl,u⟩:=hR;apply B9;apply A0;refine ghost u ?_;refine sr (SQ tt) ?_;apply ret;obtain rfl:=oi h;exact rt (kp [(2,_)] [] hB rfl rfl (by rfl)) [bo (decide (A≤2000))] (rT rN) rfl
def A11 (a0:(List Int)):Option (A9):=
 some (A9.mk a0 0)
theorem A6x (a0:(List Int)) (r:A9) (h:A11 a0=some r):AC Tryz.prog 8 [.d (.list 1 (a0.map (eI .i64)))] [] (pt 1005) [(1005,bd 80 (B7 r))]:=by
 refine AC.of_code2 Tryz.func8 rfl rfl (Nat.le_of_ble_eq_true (by rfl)) fun B hB hN => ?_;delta A11 at h;refine sr (SQ tt) ?_;refine sr (SQ tt) ?_;apply ret;obtain rfl:=oi h;exact rt (kp [(2,_)] [(1005,some _)] hB rfl rfl (by rfl)) [pt 1005] (rT rN) rfl
def H2 (a0:Int) (a1:Int):Option (Int):=
 chk (decide (a1≠0))<|
 jn (fun p:Int=>
 some p) (fun i=>
 (if (decide ((Int.tmod a0 a1)<0))=true then
 i (w64 ((Int.tmod a0 a1)+a1))
 else
 i (Int.tmod a0 a1)))
theorem P9 (a0:Int) (a1:Int) (r:Int) (h:H2 a0 a1=some r):AC Tryz.prog 10 [.d (.int .i64 a0),.d (.int .i64 a1)] [] (.d (.int .i64 r)) []:=by
 refine AC.of_code2 Tryz.func10 rfl rfl (Nat.le_of_ble_eq_true (by rfl)) fun B hB hN => ?_;delta H2 at h;refine sr (SQ tt) ?_;obtain⟨t,h⟩:=B2 h;refine sr (SQ (fa t tt)) ?_;apply seq;refine sr (SQ tt) ?_;refine gh [(1,_),(5,_),(10,_)] [] hB rfl rfl (by rfl) ?_;refine AWp.cut h (fun i:Int=>([(5,i6 i)]:EL)) (fun i:Int=>([]:OL)) (fun i h A C u => ?_) (fun E p h => ?_)
 ·apply A0;refine ghost u ?_;refine sr (SQ tt) ?_;apply ret;obtain rfl:=oi h;exact rt (kp [(4,_)] [] hB rfl rfl (by rfl)) [i6 i] (rT rN) rfl
 ·apply AWp.cond rfl<;>intro s
  ·have h:=A5 s h;refine rg (SQ tt) ?_;exact p _ h _ _ (mp [] _ _ hB)
  ·have h:=A6 s h;apply AWp.skip;exact p _ h _ _ (mp [] _ _ hB)
def F6 (a0:A9) (a1:Int):Option (Int×A9):=
 (if (decide ((a0.fL.length:Int)≤a0.fAt))=true then
 some (0,a0)
 else
 (idx a0.fL (w64 ((w64 (a0.fAt+1))-1))).bind fun i=>
 (H2 i a1).bind fun p=>
 some (p,A9.mk a0.fL (w64 (a0.fAt+1))))
theorem G2 (a0:A9) (a1:Int) (r:Int×A9) (h:F6 a0 a1=some r):AC Tryz.prog 25 [pt 0,.d (.int .i64 a1)] [(0,.box 80 (.d (B7 a0)))] (.d (.int .i64 r.1)) [(0,bd 80 (B7 r.2))]:=by
 refine ac2 Tryz.func25 rfl rfl fun B hB hN L => ?_;delta F6 at h;refine sr (SQ tt) ?_;apply seq;refine sdS (SQ tt) ?_;apply AWp.cond rfl<;>intro i
 ·have h:=A5 i h;refine sr (SQ tt) ?_;apply ret;apply B8;obtain rfl:=oi h;exact rt (kp [(4,_)] [(0,some _)] hB rfl rfl (by rfl)) [i6 0] (rT rN) rfl
 ·have h:=A6 i h;apply AWp.skip;apply A0;refine sr (SQ tt) ?_;obtain⟨s,t,h⟩:=bindS h;obtain⟨p,u,h⟩:=bindS h;refine sdS (SQ (fa t (fa (cl [] (P9 s a1 p u)) tt))) ?_;apply ret;obtain rfl:=oi h;exact rt (kp [(4,_)] [(0,some _)] hB rfl rfl (by rfl)) [i6 p] (rT rN) rfl
def R1 (a0:Int):Option (A2):=
 (if (decide (6≤a0))=true then
 some (A2.mk (E5.mk true (bitI .or .u64 2306139568115548160 (shlI .u64 (IntKind.u64.wrap a0) 16)) 0) 48)
 else
 some (A2.mk (E5.mk false 0 (bitI .or .u64 167772160 (shlI .u64 (IntKind.u64.wrap a0) 16))) 16))
theorem A60 (a0:Int) (r:A2) (h:R1 a0=some r):AC Tryz.prog 34 [.d (.int .i64 a0)] [] (.d (B0 r)) []:=by
 refine AC.of_code2 Tryz.func34 rfl rfl (Nat.le_of_ble_eq_true (by rfl)) fun B hB hN => ?_;delta R1 at h;refine sr (SQ tt) ?_;apply seq;refine sr (SQ tt) ?_;apply AWp.cond rfl<;>intro i
 ·have h:=A5 i h;refine sr (SQ tt) ?_;apply ret;apply B8;obtain rfl:=oi h;exact rt (kp [(2,_)] [(1002,some _)] hB rfl rfl (by rfl)) [.d (.st [.st [.bool true,.int .u64 (bitI .or .u64 2306139568115548160 (shlI .u64 (IntKind.u64.wrap a0) 16)),.int .u64 0],.int .i64 48])] (Res.cell (c:=(.d (.st [.st [.bool true,.int .u64 (bitI .or .u64 2306139568115548160 (shlI .u64 (IntKind.u64.wrap a0) 16)),.int .u64 0],.int .i64 48]))) (by rfl) (by rfl) tyS33 (by rfl) (by rfl) (by rfl) rN) rfl
 ·have h:=A6 i h;apply AWp.skip;apply A0;refine sr (SQ tt) ?_;apply ret;obtain rfl:=oi h;exact rt (kp [(2,_)] [(1002,some _)] hB rfl rfl (by rfl)) [.d (.st [.st [.bool false,.int .u64 0,.int .u64 (bitI .or .u64 167772160 (shlI .u64 (IntKind.u64.wrap a0) 16))],.int .i64 16])] (Res.cell (c:=(.d (.st [.st [.bool false,.int .u64 0,.int .u64 (bitI .or .u64 167772160 (shlI .u64 (IntKind.u64.wrap a0) 16))],.int .i64 16]))) (by rfl) (by rfl) tyS33 (by rfl) (by rfl) (by rfl) rN) rfl
def A23:Option (C2):=
 some (C2.mk (-1) ([]:List B4) (E5.mk false 0 0) (-1) (-1) (-1) ([]:List B5) ([]:List E7) ([]:List A3))
theorem A5a (r:C2) (h:A23=some r):AC Tryz.prog 35 [] [] (.d (C8 r)) []:=by
 refine AC.of_code2 Tryz.func35 rfl rfl (Nat.le_of_ble_eq_true (by rfl)) fun B hB hN => ?_;delta A23 at h;refine sr (SQ tt) ?_;refine sr (SQ tt) ?_;apply ret;obtain rfl:=oi h;exact rt (Mat.trans (Mat.coeP (Ts:=[]) (Bs:=[(1000,bd 39 (.st Zz6))]) TwT.nil (TwB.cons (x:=(.st [i6 (-1),.nils,.d (.st Zz0),i6 (-1),i6 (-1),i6 (-1),.nils,.nils,.nils])) (by rfl) (Tw.leaf ⟨_,Co.st (CoL.cons (Co.d _) (CoL.cons (Co.nils 2) (CoL.cons (Co.d _) (CoL.cons (Co.d _) (CoL.cons (Co.d _) (CoL.cons (Co.d _) (CoL.cons (Co.nils 2) (CoL.cons (Co.nils 3) (CoL.cons (Co.nils 3) CoL.nil))))))))),rfl⟩) TwB.nil)) (mp [] [(0,pt 1000)] [(1000,bd 39 (.st Zz6))] hB)) [.d (.st Zz6)] (Res.cell (c:=(.d (.st Zz6))) (by rfl) (by rfl) tyS39 (by rfl) (by rfl) (by rfl) rN) rfl
def S6 (a0:Int) (a1:Bool):Option (E5):=
 (if a1=true then
 some (E5.mk true 2306139568115613695 (IntKind.u64.wrap a0))
 else
 some (E5.mk false 0 (bitI .or .u64 3221225984 (IntKind.u64.wrap (w64 ((Int.tmod a0 250)+1))))))
theorem A68 (a0:Int) (a1:Bool) (r:E5) (h:S6 a0 a1=some r):AC Tryz.prog 36 [.d (.int .i64 a0),.d (.bool a1)] [] (.d (E4 r)) []:=by
 refine AC.of_code2 Tryz.func36 rfl rfl (Nat.le_of_ble_eq_true (by rfl)) fun B hB hN => ?_;delta S6 at h;refine sr (SQ tt) ?_;apply seq;refine sr (SQ tt) ?_;apply AWp.cond rfl<;>intro i
 ·have h:=A5 i h;refine sr (SQ tt) ?_;apply ret;apply B8;obtain rfl:=oi h;exact rt (kp [(4,_)] [(1004,some _)] hB rfl rfl (by rfl)) [.d (.st [.bool true,.int .u64 2306139568115613695,.int .u64 (IntKind.u64.wrap a0)])] (Res.cell (c:=(.d (.st [.bool true,.int .u64 2306139568115613695,.int .u64 (IntKind.u64.wrap a0)]))) (by rfl) (by rfl) tyS31 (by rfl) (by rfl) (by rfl) rN) rfl
 ·have h:=A6 i h;apply AWp.skip;apply A0;refine sr (SQ tt) ?_;apply ret;obtain rfl:=oi h;exact rt (kp [(4,_)] [(1004,some _)] hB rfl rfl (by rfl)) [.d (.st [.bool false,.int .u64 0,.int .u64 (bitI .or .u64 3221225984 (IntKind.u64.wrap (w64 ((Int.tmod a0 250)+1))))])] (Res.cell (c:=(.d (.st [.bool false,.int .u64 0,.int .u64 (bitI .or .u64 3221225984 (IntKind.u64.wrap (w64 ((Int.tmod a0 250)+1))))]))) (by rfl) (by rfl) tyS31 (by rfl) (by rfl) (by rfl) rN) rfl
def A61 (a0:E5) (a1:E5):Option (Int):=
 (if ((a0.fV6==a1.fV6)&&((a0.fHi==a1.fHi)&&((a0.fLo==a1.fLo)&&true)))=true then
 some 0
 else
 (if (a0.fV6 != a1.fV6)=true then
 (if a1.fV6=true then
 some (-1)
 else
 some 1)
 else
 jn (fun p:Bool=>
 (if p=true then
 some (-1)
 else
 some 1)) (fun i=>
 (if (decide (a0.fHi<a1.fHi))=true then
 i true
 else
 i ((a0.fHi==a1.fHi)&&(decide (a0.fLo<a1.fLo)))))))
theorem B42 (a0:E5) (a1:E5) (r:Int) (h:A61 a0 a1=some r):AC Tryz.prog 80 [.d (E4 a0),.d (E4 a1)] [] (.d (.int .i64 r)) []:=by
 refine ac2 Tryz.func80 rfl rfl fun B hB hN L => ?_;delta A61 at h;refine sr (SQ tt) ?_;apply seq;apply block;refine sr (SQ tt) ?_;apply AWp.cond rfl<;>intro s
 ·have h:=A5 s h;refine sr (SQ tt) ?_;apply ret;apply D8;apply B8;obtain rfl:=oi h;exact rt (kp [(4,_)] [] hB rfl rfl (by rfl)) [i6 0] (rT rN) rfl
 ·have h:=A6 s h;refine sr (SQ tt) ?_;apply AWp.cond rfl<;>intro t
  ·have h:=A5 t h;apply seq;refine sr (SQ tt) ?_;apply AWp.cond rfl<;>intro u
   ·have h:=A5 u h;refine sr (SQ tt) ?_;apply ret;apply B8;apply D8;apply B8;obtain rfl:=oi h;exact rt (kp [(4,_)] [] hB rfl rfl (by rfl)) [i6 (-1)] (rT rN) rfl
   ·have h:=A6 u h;apply AWp.skip;apply A0;refine sr (SQ tt) ?_;apply ret;apply D8;apply B8;obtain rfl:=oi h;exact rt (kp [(4,_)] [] hB rfl rfl (by rfl)) [i6 1] (rT rN) rfl
  ·have h:=A6 t h;apply seq;refine AWp.cut h (fun p:Bool=>([(17,bo p)]:EL)) (fun p:Bool=>([]:OL)) (fun p h F G E => ?_) (fun H A h => ?_)
   ·apply A0;refine ghost E ?_;apply AWp.cond rfl<;>intro C
    ·have h:=A5 C h;refine sr (SQ tt) ?_;apply ret;apply D8;apply B8;obtain rfl:=oi h;exact rt (kp [(4,_)] [] hB rfl rfl (by rfl)) [i6 (-1)] (rT rN) rfl
    ·have h:=A6 C h;apply AWp.skip;apply D7;apply A0;refine sr (SQ tt) ?_;apply ret;obtain rfl:=oi h;exact rt (kp [(4,_)] [] hB rfl rfl (by rfl)) [i6 1] (rT rN) rfl
   ·rcases bft (decide (a0.fHi<a1.fHi)) with i | i
    ·have h:=A5 i h;refine rg (SQ (fa i tt)) ?_;exact A _ h _ _ (mp [] _ _ hB)
    ·have h:=A6 i h;refine rg (SQ (fa i tt)) ?_;exact A _ h _ _ (mp [] _ _ hB)
def A30 (a0:A2) (a1:A2):Option (Int):=
 (A61 a0.fAddr a1.fAddr).bind fun i=>
 (if (i != 0)=true then
 some i
 else
 (if (decide (a0.fLen<a1.fLen))=true then
 some (-1)
 else
 (if (decide (a1.fLen<a0.fLen))=true then
 some 1
 else
 some 0)))
theorem A6y (a0:A2) (a1:A2) (r:Int) (h:A30 a0 a1=some r):AC Tryz.prog 51 [.d (B0 a0),.d (B0 a1)] [] (.d (.int .i64 r)) []:=by
 refine ac2 Tryz.func51 rfl rfl fun B hB hN L => ?_;delta A30 at h;refine sr (SQ tt) ?_;apply seq;obtain⟨i,u,h⟩:=bindS h;refine sr (SQ (fa (cl [] (B42 a0.fAddr a1.fAddr i u)) tt)) ?_;refine sr (SQ tt) ?_;apply AWp.cond rfl<;>intro p
 ·have h:=A5 p h;refine sr (SQ tt) ?_;apply ret;apply B8;obtain rfl:=oi h;exact rt (kp [(4,_)] [] hB rfl rfl (by rfl)) [i6 i] (rT rN) rfl
 ·have h:=A6 p h;apply AWp.skip;apply A0;apply seq;apply block;refine sr (SQ tt) ?_;apply AWp.cond rfl<;>intro s
  ·have h:=A5 s h;refine sr (SQ tt) ?_;apply ret;apply D8;apply B8;obtain rfl:=oi h;exact rt (kp [(4,_)] [] hB rfl rfl (by rfl)) [i6 (-1)] (rT rN) rfl
  ·have h:=A6 s h;refine sr (SQ tt) ?_;apply AWp.cond rfl<;>intro t
   ·have h:=A5 t h;refine sr (SQ tt) ?_;apply ret;apply D8;apply B8;obtain rfl:=oi h;exact rt (kp [(4,_)] [] hB rfl rfl (by rfl)) [i6 1] (rT rN) rfl
   ·have h:=A6 t h;apply AWp.skip;apply D7;apply A0;refine sr (SQ tt) ?_;apply ret;obtain rfl:=oi h;exact rt (kp [(4,_)] [] hB rfl rfl (by rfl)) [i6 0] (rT rN) rfl
def A24 (p:Int×(List A2)) (t:D5) (i:Int):Option (Int⊕Int):=
 jn (fun u:Bool=>
 (if u=true then
 some (.inr (w64 (i+1)))
 else
 some (.inl i))) (fun s=>
 (if (decide (i<(p.2.length:Int)))=true then
 (idx p.2 i).bind fun _=>
 (idx p.2 i).bind fun A=>
 (A30 A t.fPrefix).bind fun C=>
 s (decide (C<0))
 else
 s false))
def Y8 (a0:(List D5)) (a1:(List D5)) (i:Int×(List A2)):Option (List A2⊕(Int×(List A2))):=
 (if (decide (i.1<((a0++a1).length:Int)))=true then
 (idx (a0++a1) i.1).bind fun _=>
 (idx (a0++a1) i.1).bind fun s=>
 (loop (A24 i s) 0).bind fun p=>
 jn (fun C:Bool=>
 jn (fun E:(List A2)=>
 some (.inr (w64 (i.1+1),E))) (fun u=>
 (if C=true then
 chk (decide (0≤p)&&decide (p.toNat≤i.2.length)&&decide (i.2.length≤i.2.length))<|
 chk (decide (p.toNat+(i.2.length-p.toNat)≤i.2.length))<|
 chk (decide (((i.2.drop p.toNat).take (i.2.length-p.toNat)).length≤LIM))<|
 chk (decide (0≤p)&&decide (0≤p.toNat)&&decide (p.toNat≤i.2.length))<|
 chk (decide (((i.2.take p.toNat)++[s.fPrefix]).length≤LIM))<|
 chk (decide ((((i.2.take p.toNat)++[s.fPrefix])++((i.2.drop p.toNat).take (i.2.length-p.toNat))).length≤LIM))<|
 u (((i.2.take p.toNat)++[s.fPrefix])++((i.2.drop p.toNat).take (i.2.length-p.toNat)))
 else
 u i.2))) (fun A=>
 (if (p==(i.2.length:Int))=true then
 A true
 else
 (idx i.2 p).bind fun _=>
 (idx i.2 p).bind fun t=>
 A (!(((t.fAddr.fV6==s.fPrefix.fAddr.fV6)&&((t.fAddr.fHi==s.fPrefix.fAddr.fHi)&&((t.fAddr.fLo==s.fPrefix.fAddr.fLo)&&true)))&&((t.fLen==s.fPrefix.fLen)&&true)))))
 else
 some (.inl i.2))
def A2j (a0:(List D5)) (a1:(List D5)):Option (List A2):=
 chk (decide (a0.length≤LIM))<|
 chk (decide ((a0++a1).length≤LIM))<|
 (loop (Y8 a0 a1) (0,([]:List A2))).bind fun i=>
 some i
theorem B0t (a0:(List D5)) (a1:(List D5)) (r:(List A2)) (h:A2j a0 a1=some r):AC Tryz.prog 66 [.d (.list 16 (a0.map G6)),.d (.list 16 (a1.map G6))] [] (.d (.list 4 (r.map B0))) []:=by
 refine ac2 Tryz.func66 rfl rfl fun B hB hN L => ?_;delta A2j at h;refine sr (SQ tt) ?_;refine sr (SQ tt) ?_;apply seq;obtain⟨U,h⟩:=B2 h;obtain⟨W,h⟩:=B2 h;refine sr (SQ (fa U (fa W tt))) ?_;apply block;obtain⟨u,X,h⟩:=bindS h;refine lg (Y8 a0 a1) (fun i:Int×(List A2)=>([(5,.sref 3005 4 0 i.2.length),(13,.sref 1013 16 0 ((a0++a1).length)),(14,i6 ((a0++a1).length:Int)),(15,i6 i.1)]:EL)) (fun i:Int×(List A2)=>([(1013,some (G1 (a0++a1))),(3005,some (G0 i.2))]:OL)) (fun(u:(List A2)) e A C=>e = .exit 0∧Mat B A C ([(5,.sref 3005 4 0 u.length)]:EL) ([(3005,some (G0 u))]:OL)) X (Mat.trans (Mat.beginP (n:=3005) (e:=33) (sz:=4) (Ts:=[(5,.sref 3005 4 0 0)]) (Bs:=[]) hB (by decide) (by rfl) (by decide) (TwT.cons (x:=.nils) (by rfl) (Tw.leaf ⟨rfl,rfl⟩) TwT.nil) TwB.nil) (mp [] _ _ hB)) (fun i y h => ?_) (fun e A C hR => ?_)
 ·unfold Y8 at h;refine sr (SQ tt) ?_;apply seq;apply AWp.cond rfl<;>intro N
  ·have h:=A5 N h;apply AWp.skip;apply A0;apply seq;apply block;obtain⟨_,Y,h⟩:=bindS h;obtain⟨s,Z,h⟩:=bindS h;refine sr (SQ (fa Y (fa Z tt))) ?_;refine sr (SQ tt) ?_;apply seq;apply block;obtain⟨p,aa,h⟩:=bindS h;refine lg (A24 i s) (fun E:Int=>([(5,.sref 3005 4 0 i.2.length),(7,pt 1007),(8,i6 E),(13,.sref 1013 16 0 ((a0++a1).length)),(14,i6 ((a0++a1).length:Int)),(15,i6 i.1)]:EL)) (fun E:Int=>([(1007,bd 41 (G6 s)),(1013,some (G1 (a0++a1))),(3005,some (G0 i.2))]:OL)) (fun(p:(Int)) e A C=>e = .exit 2∧Mat B A C ([(5,.sref 3005 4 0 i.2.length),(7,pt 1007),(8,i6 p),(13,.sref 1013 16 0 ((a0++a1).length)),(14,i6 ((a0++a1).length:Int)),(15,i6 i.1)]:EL) ([(1007,bd 41 (G6 s)),(1013,some (G1 (a0++a1))),(3005,some (G0 i.2))]:OL)) aa (mp [] _ _ hB) (fun E y h => ?_) (fun e A C hR => ?_)
   ·unfold A24 at h;apply seq;apply seq;refine AWp.cut h (fun J:Bool=>([(5,.sref 3005 4 0 i.2.length),(7,pt 1007),(8,i6 E),(13,.sref 1013 16 0 ((a0++a1).length)),(14,i6 ((a0++a1).length:Int)),(15,i6 i.1),(32,bo J)]:EL)) (fun J:Bool=>([(1007,bd 41 (G6 s)),(1013,some (G1 (a0++a1))),(3005,some (G0 i.2))]:OL)) (fun J h A C t => ?_) (fun am O h => ?_)
    ·apply A0;refine ghost t ?_;apply AWp.cond rfl<;>intro P
     ·have h:=A5 P h;apply AWp.skip;apply A0;apply block;refine rg (SQ tt) ?_;apply D7;obtain rfl:=oi h;exact⟨rfl,mp [] _ _ hB⟩
     ·have h:=A6 P h;apply AWp.exit;apply D6;obtain rfl:=oi h;exact⟨nofun,rfl,mp [] _ _ hB⟩
    ·rcases bft (decide (E<(i.2.length:Int))) with F | F
     ·have h:=A5 F h;obtain⟨_,ab,h⟩:=bindS h;obtain⟨ac,ae,h⟩:=bindS h;obtain⟨af,ag,h⟩:=bindS h;refine drS (SQ (fa F (fa ab (fa ae (fa (cl [] (A6y ac s.fPrefix af ag)) tt))))) ?_;exact O _ h _ _ (mp [] _ _ hB)
     ·have h:=A6 F h;refine drS (SQ (fa F tt)) ?_;exact O _ h _ _ (mp [] _ _ hB)
   ·obtain⟨rfl,t⟩:=hR;apply B9;apply A0;refine ghost t ?_;apply seq;refine AWp.cut h (fun K:Bool=>([(5,.sref 3005 4 0 i.2.length),(7,pt 1007),(8,i6 p),(13,.sref 1013 16 0 ((a0++a1).length)),(14,i6 ((a0++a1).length:Int)),(15,i6 i.1),(47,bo K)]:EL)) (fun K:Bool=>([(1007,bd 41 (G6 s)),(1013,some (G1 (a0++a1))),(3005,some (G0 i.2))]:OL)) (fun K h A C t => ?_) (fun an Q h => ?_)
    ·apply A0;refine ghost t ?_;refine AWp.cut h (fun I:(List A2)=>([(5,.sref 3005 4 0 I.length),(13,.sref 1013 16 0 ((a0++a1).length)),(14,i6 ((a0++a1).length:Int)),(15,i6 i.1)]:EL)) (fun I:(List A2)=>([(1013,some (G1 (a0++a1))),(3005,some (G0 I))]:OL)) (fun I h A C t => ?_) (fun ao R h => ?_)
     ·apply D7;apply A0;refine ghost t ?_;refine rg (SQ tt) ?_;obtain rfl:=oi h;exact⟨rfl,mp [] _ _ hB⟩
     ·apply AWp.cond rfl<;>intro S
      ·have h:=A5 S h;obtain⟨M,h⟩:=B2 h;obtain⟨ah,h⟩:=B2 h;obtain⟨T,h⟩:=B2 h;apply sr (c (mv hN (q 5)) rfl (c (mv hN (q 8)) rfl (c (OpJ.cutS underlying69 tyS33 (l:=p.toNat) (h:=i.2.length) (off':=p.toNat) (len':=(i.2.length-p.toNat)) (.inr ⟨_,_,_,rfl,ot 49 (i6 p),of_decide_eq_true (X6 (X6 M)),rfl⟩) (.inl ⟨rfl,rfl,rfl⟩) (of_decide_eq_true (A04 (X6 M))) (of_decide_eq_true (A04 M)) (by simp) (by simp) (L rfl) (q 48)) rfl (cg (OpJ.appendNS hB underlying69 tyE33 (nm:=1051) (by decide) (es:=i.2.map B0) (ys:=((i.2.drop p.toNat).take (i.2.length-p.toNat)).map B0) (by rw [List.length_map];exact of_decide_eq_true ah) (by first | rw [List.map_drop,List.map_take] | (simp [List.map_take,List.map_drop];done) | simp [List.take_of_length_le]) (len:=((i.2.drop p.toNat).take (i.2.length-p.toNat)).length) (by simp) (A5t (f:=B0) (fun _=>rfl)) (by rw [List.length_map];exact A0i T (by decide)) (by rw [List.length_map];exact A3g T) (L rfl) Opd.nils (q 50)) rfl (c (assign (L rfl) (q 51)) rfl cn)))))
       refine gh [(5,_),(7,_),(8,_),(9,_),(13,_),(14,_),(15,_)] [(1007,some _),(1013,some _),(1051,some _),(3005,some _)] hB rfl rfl (by rfl) ?_;refine ghost (Mat.freezeP (n:=1051) (e:=33) (sz:=4) (es:=((i.2.drop p.toNat).take (i.2.length-p.toNat)).map B0) (Ts:=[(9,F8 ((i.2.drop p.toNat).take (i.2.length-p.toNat)))]) (Bs:=[]) (by rfl) (TwT.cons (x:=(.sref 1051 4 0 (((i.2.drop p.toNat).take (i.2.length-p.toNat)).length))) (by rfl) (FrzL.all (by first | rfl | (simp;done) | (simp;omega) | omega)) TwT.nil) TwB.nil) ?_
       obtain⟨G,h⟩:=B2 h;obtain⟨ai,h⟩:=B2 h;obtain⟨aj,h⟩:=B2 h;apply dr (c (mv hN (q 5)) rfl (c (mv hN (q 8)) rfl (cg (OpJ.val (v':=(.sref 3005 4 0 ((i.2.take p.toNat).length))) (by rw [List.length_take,Nat.min_eq_left (of_decide_eq_true (A04 G))]) (OpJ.shrS (OpJ.cutS underlying69 tyS33 (l:=0) (h:=p.toNat) (off':=0) (len':=p.toNat) (.inl ⟨rfl,rfl,rfl⟩) (.inr ⟨_,_,_,rfl,ot 53 (i6 p),of_decide_eq_true (X6 (X6 G)),rfl⟩) (of_decide_eq_true (A04 (X6 G))) (of_decide_eq_true (A04 G)) (by simp) (by simp) (L rfl) (q 52)) (es':=(i.2.take p.toNat).map B0) (by rw [List.length_map];exact(of_decide_eq_true (A04 G))) (by rw [List.map_take]))) rfl (c (fo 1007 0 [0] hN underlying41 0 tyS33 (q 7)) rfl (c (la hN 41 tyS33 (q 55)) rfl (c (buildSlice underlying69 tyS33 tyZD33 (by rfl) (by decide) (by decide) (Opds.cons (q 56) Opds.nil) (by kernel_rfl) (es:=([B0 s.fPrefix]:List D)) (by rfl) (by rfl) (by kernel_rfl) (by simp) (L rfl)) rfl (cg (apd hB underlying69 tyE33 1058 B0 (i.2.take p.toNat) [s.fPrefix] ai (L rfl) (q 54) (q 57)) rfl (c (mv hN (q 9)) rfl (cg (apd hB underlying69 tyE33 1060 B0 ((i.2.take p.toNat)++[s.fPrefix]) ((i.2.drop p.toNat).take (i.2.length-p.toNat)) aj (L rfl) (q 58) (q 59)) rfl (c (assign (L rfl) (q 60)) rfl cn)))))))))) (by kernel_rfl) (by kernel_rfl);exact R _ h _ _ (mp [(3005,1060)] _ _ hB)
      ·have h:=A6 S h;apply AWp.skip;exact R _ h _ _ (mp [] _ _ hB)
    ·rcases bft (p==(i.2.length:Int)) with H | H
     ·have h:=A5 H h;refine drS (SQ (fa H tt)) ?_;exact Q _ h _ _ (mp [] _ _ hB)
     ·have h:=A6 H h;obtain⟨_,ak,h⟩:=bindS h;obtain⟨_,al,h⟩:=bindS h;refine drS (SQ (fa H (fa ak (fa al tt)))) ?_;exact Q _ h _ _ (mp [] _ _ hB)
  ·have h:=A6 N h;apply AWp.exit;apply D6;obtain rfl:=oi h;exact⟨nofun,rfl,mp [] _ _ hB⟩
 ·obtain⟨rfl,t⟩:=hR;apply B9;apply A0;refine ghost t ?_;refine sr (SQ tt) ?_;apply ret;obtain rfl:=oi h;exact rt (Mat.trans (Mat.freezeP (n:=3005) (e:=33) (sz:=4) (es:=u.map B0) (Ts:=[(4,F8 u)]) (Bs:=[]) (by rfl) (TwT.cons (x:=(.sref 3005 4 0 u.length)) (by rfl) (FrzL.all (by first | rfl | (simp;done) | (simp;omega) | omega)) TwT.nil) TwB.nil) (mp [] [(4,F8 u)] [] hB)) [F8 u] (rT rN) rfl
def A1h (a0:(List D5)) (a1:A2) (p:Int):Option ((D5⊕Unit)⊕Int):=
 (if (decide (p<(a0.length:Int)))=true then
 (idx a0 p).bind fun i=>
 (if (((i.fPrefix.fAddr.fV6==a1.fAddr.fV6)&&((i.fPrefix.fAddr.fHi==a1.fAddr.fHi)&&((i.fPrefix.fAddr.fLo==a1.fAddr.fLo)&&true)))&&((i.fPrefix.fLen==a1.fLen)&&true))=true then
 some (.inl (.inl i))
 else
 some (.inr (w64 (p+1))))
 else
 some (.inl (.inr ())))
def A39 (a0:(List D5)) (a1:A2):Option (D5×Bool):=
 (loop (A1h a0 a1) 0).bind fun i=>match i with
 | (.inl p)=>
  some (p,true)
 | (.inr _)=>
  some (D5.mk (A2.mk (E5.mk false 0 0) 0) 0 (C2.mk 0 ([]:List B4) (E5.mk false 0 0) 0 0 0 ([]:List B5) ([]:List E7) ([]:List A3)),false)
theorem A8u (a0:(List D5)) (a1:A2) (r:D5×Bool) (h:A39 a0 a1=some r):AC Tryz.prog 67 [.d (.list 16 (a0.map G6)),.d (B0 a1)] [] (.tup [.d (G6 r.1),.d (.bool r.2)]) []:=by
 refine ac2 Tryz.func67 rfl rfl fun B hB hN L => ?_;delta A39 at h;refine sr (SQ tt) ?_;apply seq;refine sr (SQ tt) ?_;apply block;obtain⟨E,F,h⟩:=bindS h;refine lg (A1h a0 a1) (fun p:Int=>([(3,pt 1003),(4,pt 1004),(8,H7 a0),(9,i6 (a0.length:Int)),(10,i6 p)]:EL)) (fun p:Int=>([(1003,bd 33 (B0 a1)),(1004,some (.box 41 (.st [.d (.st Zz9),i6 0,.st Zz7])))]:OL)) (fun(x:(D5)⊕Unit) e s t=>match x with | (.inl i)=>e = .ret∧Mat B s t ([(4,pt 1004),(5,bo true)]:EL) ([(1004,bd 41 (G6 i))]:OL) | (.inr _p)=>e = .exit 0∧Mat B s t ([(4,pt 1004)]:EL) ([(1004,some (.box 41 (.st [.d (.st Zz9),i6 0,.st Zz7])))]:OL)) F (mp [] _ _ hB) (fun p y h => ?_) (fun e s t hR => ?_)
 ·unfold A1h at h;refine sr (SQ tt) ?_;apply seq;apply AWp.cond rfl<;>intro A
  ·have h:=A5 A h;apply AWp.skip;apply A0;apply seq;apply block;obtain⟨_,G,h⟩:=bindS h;refine sr (SQ (fa G tt)) ?_;refine sr (SQ tt) ?_;apply AWp.cond rfl<;>intro C
   ·have h:=A5 C h;refine sr (SQ tt) ?_;apply ret;apply D8;apply B8;obtain rfl:=oi h;exact⟨nofun,rfl,mp [] _ _ hB⟩
   ·have h:=A6 C h;apply AWp.skip;apply D7;apply A0;refine rg (SQ tt) ?_;obtain rfl:=oi h;exact⟨rfl,mp [] _ _ hB⟩
  ·have h:=A6 A h;apply AWp.exit;apply D6;obtain rfl:=oi h;exact⟨nofun,rfl,mp [] _ _ hB⟩
 ·rcases E with i | _
  ·obtain⟨rfl,u⟩:=hR;apply D8;apply B8;obtain rfl:=oi h;exact rt (Mat.trans u (mp [] [(4,pt 1004),(5,bo true)] [(1004,bd 41 (G6 i))] hB)) [.d (G6 i),bo true] (Res.cell (c:=(.d (G6 i))) (by rfl) (by rfl) tyS41 (by rfl) (by rfl) (by rfl) (rT rN)) rfl
  ·obtain⟨rfl,u⟩:=hR;apply B9;apply A0;refine ghost u ?_;refine sr (SQ tt) ?_;apply ret;obtain rfl:=oi h;exact rt (Mat.trans (Mat.coeP (Ts:=[]) (Bs:=[(1004,some (.box 41 (.d (.st [.st Zz9,.int .i64 0,.st Zz2]))))]) TwT.nil (TwB.cons (x:=(.st [.d (.st Zz9),i6 0,.st Zz7])) (by rfl) (Tw.leaf ⟨_,Co.st (CoL.cons (Co.d _) (CoL.cons (Co.d _) (CoL.cons (Co.st (CoL.cons (Co.d _) (CoL.cons (Co.nils 2) (CoL.cons (Co.d _) (CoL.cons (Co.d _) (CoL.cons (Co.d _) (CoL.cons (Co.d _) (CoL.cons (Co.nils 2) (CoL.cons (Co.nils 3) (CoL.cons (Co.nils 3) CoL.nil)))))))))) CoL.nil))),rfl⟩) TwB.nil)) (mp [] [(4,pt 1004),(5,bo false)] [(1004,some (.box 41 (.d (.st [.st Zz9,.int .i64 0,.st Zz2]))))] hB)) [.d (.st [.st Zz9,.int .i64 0,.st Zz2]),bo false] (Res.cell (c:=(.d (.st [.st Zz9,.int .i64 0,.st Zz2]))) (by rfl) (by rfl) tyS41 (by rfl) (by rfl) (by rfl) (rT rN)) rfl
def U1 (a0:(List Int)) (a1:(List Int)) (i:Int):Option ((Unit⊕Unit)⊕Int):=
 (if (decide (i<(a0.length:Int)))=true then
 (idx a0 i).bind fun p=>
 (idx a1 i).bind fun s=>
 (if (p != s)=true then
 some (.inl (.inl ()))
 else
 some (.inr (w64 (i+1))))
 else
 some (.inl (.inr ())))
def A0p (a0:(List Int)) (a1:(List Int)):Option (Bool):=
 (if ((a0.length:Int) != (a1.length:Int))=true then
 some false
 else
 (loop (U1 a0 a1) 0).bind fun i=>match i with
 | (.inl _)=>
  some false
 | (.inr _)=>
  some true)
theorem A9p (a0:(List Int)) (a1:(List Int)) (r:Bool) (h:A0p a0 a1=some r):AC Tryz.prog 82 [.d (.list 1 (a0.map (eI .i64))),.d (.list 1 (a1.map (eI .i64)))] [] (.d (.bool r)) []:=by
 refine ac2 Tryz.func82 rfl rfl fun B hB hN L => ?_;delta A0p at h;refine sr (SQ tt) ?_;apply seq;refine sr (SQ tt) ?_;apply AWp.cond rfl<;>intro u
 ·have h:=A5 u h;refine sr (SQ tt) ?_;apply ret;apply B8;obtain rfl:=oi h;exact rt (kp [(4,_)] [] hB rfl rfl (by rfl)) [bo false] (rT rN) rfl
 ·have h:=A6 u h;apply AWp.skip;apply A0;apply seq;refine sr (SQ tt) ?_;apply block;obtain⟨E,F,h⟩:=bindS h;refine lg (U1 a0 a1) (fun i:Int=>([(0,qI_1 a0),(1,qI_1 a1),(12,i6 (a0.length:Int)),(13,i6 i)]:EL)) (fun i:Int=>([]:OL)) (fun(x:(Unit)⊕Unit) e p s=>match x with | (.inl _p)=>e = .ret∧Mat B p s ([(4,bo false)]:EL) ([]:OL) | (.inr _p)=>e = .exit 0∧Mat B p s ([]:EL) ([]:OL)) F (mp [] _ _ hB) (fun i y h => ?_) (fun e p s hR => ?_)
  ·unfold U1 at h;refine sr (SQ tt) ?_;apply seq;apply AWp.cond rfl<;>intro A
   ·have h:=A5 A h;apply AWp.skip;apply A0;apply seq;apply block;refine sr (SQ tt) ?_;obtain⟨_,G,h⟩:=bindS h;obtain⟨_,H,h⟩:=bindS h;refine sdS (SQ (fa G (fa H tt))) ?_;apply AWp.cond rfl<;>intro C
    ·have h:=A5 C h;refine sr (SQ tt) ?_;apply ret;apply D8;apply B8;obtain rfl:=oi h;exact⟨nofun,rfl,mp [] _ _ hB⟩
    ·have h:=A6 C h;apply AWp.skip;apply D7;apply A0;refine rg (SQ tt) ?_;obtain rfl:=oi h;exact⟨rfl,mp [] _ _ hB⟩
   ·have h:=A6 A h;apply AWp.exit;apply D6;obtain rfl:=oi h;exact⟨nofun,rfl,mp [] _ _ hB⟩
  ·rcases E with _ | _
   ·obtain⟨rfl,t⟩:=hR;apply D8;apply B8;obtain rfl:=oi h;exact rt (Mat.trans t (mp [] [(4,bo false)] [] hB)) [bo false] (rT rN) rfl
   ·obtain⟨rfl,t⟩:=hR;apply B9;apply A0;refine ghost t ?_;refine sr (SQ tt) ?_;apply ret;obtain rfl:=oi h;exact rt (kp [(4,_)] [] hB rfl rfl (by rfl)) [bo true] (rT rN) rfl
def N2 (a0:C2) (a1:C2) (i:Int):Option ((Unit⊕Unit)⊕Int):=
 (if (decide (i<(a0.fPath.length:Int)))=true then
 jn (fun s:Bool=>
 (if s=true then
 some (.inl (.inl ()))
 else
 some (.inr (w64 (i+1))))) (fun p=>
 (idx a0.fPath i).bind fun t=>
 (idx a1.fPath i).bind fun u=>
 (if (t.fSet != u.fSet)=true then
 p true
 else
 (idx a0.fPath i).bind fun A=>
 (idx a1.fPath i).bind fun C=>
 (A0p A.fASNs C.fASNs).bind fun E=>
 p (!E)))
 else
 some (.inl (.inr ())))
def N3 (a0:C2) (a1:C2) (i:Int):Option ((Unit⊕Unit)⊕Int):=
 (if (decide (i<(a0.fCommunities.length:Int)))=true then
 (idx a0.fCommunities i).bind fun p=>
 (idx a1.fCommunities i).bind fun s=>
 (if (!((p.fA==s.fA)&&((p.fB==s.fB)&&true)))=true then
 some (.inl (.inl ()))
 else
 some (.inr (w64 (i+1))))
 else
 some (.inl (.inr ())))
def N4 (a0:C2) (a1:C2) (i:Int):Option ((Unit⊕Unit)⊕Int):=
 (if (decide (i<(a0.fLarge.length:Int)))=true then
 (idx a0.fLarge i).bind fun p=>
 (idx a1.fLarge i).bind fun s=>
 (if (!((p.fA==s.fA)&&((p.fB==s.fB)&&((p.fC==s.fC)&&true))))=true then
 some (.inl (.inl ()))
 else
 some (.inr (w64 (i+1))))
 else
 some (.inl (.inr ())))
def N5 (a0:C2) (a1:C2) (i:Int):Option ((Unit⊕Unit)⊕Int):=
 (if (decide (i<(a0.fOther.length:Int)))=true then
 jn (fun s:Bool=>
 (if s=true then
 some (.inl (.inl ()))
 else
 some (.inr (w64 (i+1))))) (fun p=>
 (idx a0.fOther i).bind fun t=>
 (idx a1.fOther i).bind fun u=>
 (if (t.fFlags != u.fFlags)=true then
 p true
 else
 (idx a0.fOther i).bind fun A=>
 (idx a1.fOther i).bind fun C=>
 (if (A.fType != C.fType)=true then
 p true
 else
 (idx a0.fOther i).bind fun E=>
 (idx a1.fOther i).bind fun F=>
 p ((bstr E.fData) != (bstr F.fData)))))
 else
 some (.inl (.inr ())))
def J8 (a0:C2) (a1:C2):Option (Bool):=
 (if (((((((((a0.fOrigin != a1.fOrigin) || (!((a0.fNext.fV6==a1.fNext.fV6)&&((a0.fNext.fHi==a1.fNext.fHi)&&((a0.fNext.fLo==a1.fNext.fLo)&&true))))) || (a0.fMED != a1.fMED)) || (a0.fPref != a1.fPref)) || (a0.fOTC != a1.fOTC)) || ((a0.fPath.length:Int) != (a1.fPath.length:Int))) || ((a0.fCommunities.length:Int) != (a1.fCommunities.length:Int))) || ((a0.fLarge.length:Int) != (a1.fLarge.length:Int))) || ((a0.fOther.length:Int) != (a1.fOther.length:Int)))=true then
 some false
 else
 (loop (N2 a0 a1) 0).bind fun i=>match i with
 | (.inl _)=>
  some false
 | (.inr _)=>
  (loop (N3 a0 a1) 0).bind fun p=>match p with
  | (.inl _)=>
   some false
  | (.inr _)=>
   (loop (N4 a0 a1) 0).bind fun s=>match s with
   | (.inl _)=>
    some false
   | (.inr _)=>
    (loop (N5 a0 a1) 0).bind fun t=>match t with
    | (.inl _)=>
     some false
    | (.inr _)=>
     some true)
theorem A2a (a0:C2) (a1:C2) (r:Bool) (h:J8 a0 a1=some r):AC Tryz.prog 55 [.d (C8 a0),.d (C8 a1)] [] (.d (.bool r)) []:=by
 refine ac2 Tryz.func55 rfl rfl fun B hB hN L => ?_;delta J8 at h;refine sr (SQ tt) ?_;apply seq;refine sr (SQ tt) ?_;apply AWp.cond rfl<;>intro P
 ·have h:=A5 P h;refine sr (SQ tt) ?_;apply ret;apply B8;obtain rfl:=oi h;exact rt (kp [(4,_)] [] hB rfl rfl (by rfl)) [bo false] (rT rN) rfl
 ·have h:=A6 P h;apply AWp.skip;apply A0;apply seq;refine sr (SQ tt) ?_;apply block;obtain⟨af,ag,h⟩:=bindS h;refine lg (N2 a0 a1) (fun C:Int=>([(2,pt 1002),(3,pt 1003),(80,i6 (a0.fPath.length:Int)),(81,i6 C)]:EL)) (fun C:Int=>([(1002,bd 39 (C8 a0)),(1003,bd 39 (C8 a1))]:OL)) (fun(x:(Unit)⊕Unit) e p s=>match x with | (.inl _p)=>e = .ret∧Mat B p s ([(4,bo false)]:EL) ([]:OL) | (.inr _p)=>e = .exit 0∧Mat B p s ([(2,pt 1002),(3,pt 1003)]:EL) ([(1002,bd 39 (C8 a0)),(1003,bd 39 (C8 a1))]:OL)) ag (mp [] _ _ hB) (fun C y h => ?_) (fun e p s hR => ?_)
  ·unfold N2 at h;refine sr (SQ tt) ?_;apply seq;apply AWp.cond rfl<;>intro Q
   ·have h:=A5 Q h;apply AWp.skip;apply A0;apply seq;apply block;refine sr (SQ tt) ?_;apply seq;refine AWp.cut h (fun H:Bool=>([(2,pt 1002),(3,pt 1003),(80,i6 (a0.fPath.length:Int)),(81,i6 C),(112,bo H)]:EL)) (fun H:Bool=>([(1002,bd 39 (C8 a0)),(1003,bd 39 (C8 a1))]:OL)) (fun H h p s i => ?_) (fun bc R h => ?_)
    ·apply A0;refine ghost i ?_;apply AWp.cond rfl<;>intro S
     ·have h:=A5 S h;refine sr (SQ tt) ?_;apply ret;apply D8;apply B8;obtain rfl:=oi h;exact⟨nofun,rfl,mp [] _ _ hB⟩
     ·have h:=A6 S h;apply AWp.skip;apply D7;apply A0;refine rg (SQ tt) ?_;obtain rfl:=oi h;exact⟨rfl,mp [] _ _ hB⟩
    ·obtain⟨ah,T,h⟩:=bindS h;obtain⟨ai,U,h⟩:=bindS h;rcases bft (ah.fSet != ai.fSet) with u | u
     ·have h:=A5 u h;refine drS (SQ (fa T (fa U (fa u tt)))) ?_;exact R _ h _ _ (mp [] _ _ hB)
     ·have h:=A6 u h;obtain⟨aj,ak,h⟩:=bindS h;obtain⟨al,am,h⟩:=bindS h;obtain⟨an,ao,h⟩:=bindS h;refine drS (SQ (fa T (fa U (fa u (fa ak (fa am (fa (cl [] (A9p aj.fASNs al.fASNs an ao)) tt))))))) ?_;exact R _ h _ _ (mp [] _ _ hB)
   ·have h:=A6 Q h;apply AWp.exit;apply D6;obtain rfl:=oi h;exact⟨nofun,rfl,mp [] _ _ hB⟩
  ·rcases af with _ | _
   ·obtain⟨rfl,i⟩:=hR;apply D8;apply B8;obtain rfl:=oi h;exact rt (Mat.trans i (mp [] [(4,bo false)] [] hB)) [bo false] (rT rN) rfl
   ·obtain⟨rfl,i⟩:=hR;apply B9;apply A0;refine ghost i ?_;apply seq;refine sr (SQ tt) ?_;apply block;obtain⟨ap,aq,h⟩:=bindS h;refine lg (N3 a0 a1) (fun I:Int=>([(2,pt 1002),(3,pt 1003),(116,i6 (a0.fCommunities.length:Int)),(117,i6 I)]:EL)) (fun I:Int=>([(1002,bd 39 (C8 a0)),(1003,bd 39 (C8 a1))]:OL)) (fun(x:(Unit)⊕Unit) e p s=>match x with | (.inl _p)=>e = .ret∧Mat B p s ([(4,bo false)]:EL) ([]:OL) | (.inr _p)=>e = .exit 2∧Mat B p s ([(2,pt 1002),(3,pt 1003)]:EL) ([(1002,bd 39 (C8 a0)),(1003,bd 39 (C8 a1))]:OL)) aq (mp [] _ _ hB) (fun I y h => ?_) (fun e p s hR => ?_)
    ·unfold N3 at h;refine sr (SQ tt) ?_;apply seq;apply AWp.cond rfl<;>intro W
     ·have h:=A5 W h;apply AWp.skip;apply A0;apply seq;apply block;refine sr (SQ tt) ?_;obtain⟨_,ar,h⟩:=bindS h;obtain⟨_,au,h⟩:=bindS h;refine sdS (SQ (fa ar (fa au tt))) ?_;apply AWp.cond rfl<;>intro X
      ·have h:=A5 X h;refine sr (SQ tt) ?_;apply ret;apply D8;apply B8;obtain rfl:=oi h;exact⟨nofun,rfl,mp [] _ _ hB⟩
      ·have h:=A6 X h;apply AWp.skip;apply D7;apply A0;refine rg (SQ tt) ?_;obtain rfl:=oi h;exact⟨rfl,mp [] _ _ hB⟩
     ·have h:=A6 W h;apply AWp.exit;apply D6;obtain rfl:=oi h;exact⟨nofun,rfl,mp [] _ _ hB⟩
    ·rcases ap with _ | _
     ·obtain⟨rfl,i⟩:=hR;apply D8;apply B8;obtain rfl:=oi h;exact rt (Mat.trans i (mp [] [(4,bo false)] [] hB)) [bo false] (rT rN) rfl
     ·obtain⟨rfl,i⟩:=hR;apply B9;apply A0;refine ghost i ?_;apply seq;refine sr (SQ tt) ?_;apply block;obtain⟨av,aw,h⟩:=bindS h;refine lg (N4 a0 a1) (fun J:Int=>([(2,pt 1002),(3,pt 1003),(134,i6 (a0.fLarge.length:Int)),(135,i6 J)]:EL)) (fun J:Int=>([(1002,bd 39 (C8 a0)),(1003,bd 39 (C8 a1))]:OL)) (fun(x:(Unit)⊕Unit) e p s=>match x with | (.inl _p)=>e = .ret∧Mat B p s ([(4,bo false)]:EL) ([]:OL) | (.inr _p)=>e = .exit 4∧Mat B p s ([(2,pt 1002),(3,pt 1003)]:EL) ([(1002,bd 39 (C8 a0)),(1003,bd 39 (C8 a1))]:OL)) aw (mp [] _ _ hB) (fun J y h => ?_) (fun e p s hR => ?_)
      ·unfold N4 at h;refine sr (SQ tt) ?_;apply seq;apply AWp.cond rfl<;>intro Y
       ·have h:=A5 Y h;apply AWp.skip;apply A0;apply seq;apply block;refine sr (SQ tt) ?_;obtain⟨_,ax,h⟩:=bindS h;obtain⟨_,ay,h⟩:=bindS h;refine sdS (SQ (fa ax (fa ay tt))) ?_;apply AWp.cond rfl<;>intro Z
        ·have h:=A5 Z h;refine sr (SQ tt) ?_;apply ret;apply D8;apply B8;obtain rfl:=oi h;exact⟨nofun,rfl,mp [] _ _ hB⟩
        ·have h:=A6 Z h;apply AWp.skip;apply D7;apply A0;refine rg (SQ tt) ?_;obtain rfl:=oi h;exact⟨rfl,mp [] _ _ hB⟩
       ·have h:=A6 Y h;apply AWp.exit;apply D6;obtain rfl:=oi h;exact⟨nofun,rfl,mp [] _ _ hB⟩
      ·rcases av with _ | _
       ·obtain⟨rfl,i⟩:=hR;apply D8;apply B8;obtain rfl:=oi h;exact rt (Mat.trans i (mp [] [(4,bo false)] [] hB)) [bo false] (rT rN) rfl
       ·obtain⟨rfl,i⟩:=hR;apply B9;apply A0;refine ghost i ?_;apply seq;refine sr (SQ tt) ?_;apply block;obtain⟨az,a5,h⟩:=bindS h;refine lg (N5 a0 a1) (fun E:Int=>([(2,pt 1002),(3,pt 1003),(152,i6 (a0.fOther.length:Int)),(153,i6 E)]:EL)) (fun E:Int=>([(1002,bd 39 (C8 a0)),(1003,bd 39 (C8 a1))]:OL)) (fun(x:(Unit)⊕Unit) e p s=>match x with | (.inl _p)=>e = .ret∧Mat B p s ([(4,bo false)]:EL) ([]:OL) | (.inr _p)=>e = .exit 6∧Mat B p s ([]:EL) ([]:OL)) a5 (mp [] _ _ hB) (fun E y h => ?_) (fun e p s hR => ?_)
        ·unfold N5 at h;refine sr (SQ tt) ?_;apply seq;apply AWp.cond rfl<;>intro aa
         ·have h:=A5 aa h;apply AWp.skip;apply A0;apply seq;apply block;refine sr (SQ tt) ?_;apply seq;refine AWp.cut h (fun K:Bool=>([(2,pt 1002),(3,pt 1003),(152,i6 (a0.fOther.length:Int)),(153,i6 E),(200,bo K)]:EL)) (fun K:Bool=>([(1002,bd 39 (C8 a0)),(1003,bd 39 (C8 a1))]:OL)) (fun K h p s i => ?_) (fun be M h => ?_)
          ·apply A0;refine ghost i ?_;apply AWp.cond rfl<;>intro ab
           ·have h:=A5 ab h;refine sr (SQ tt) ?_;apply ret;apply D8;apply B8;obtain rfl:=oi h;exact⟨nofun,rfl,mp [] _ _ hB⟩
           ·have h:=A6 ab h;apply AWp.skip;apply D7;apply A0;refine rg (SQ tt) ?_;obtain rfl:=oi h;exact⟨rfl,mp [] _ _ hB⟩
          ·obtain⟨a6,F,h⟩:=bindS h;obtain⟨a7,G,h⟩:=bindS h;rcases bft (a6.fFlags != a7.fFlags) with t | t
           ·have h:=A5 t h;refine drS (SQ (fa F (fa G (fa t tt)))) ?_;exact M _ h _ _ (mp [] _ _ hB)
           ·have h:=A6 t h;obtain⟨a8,N,h⟩:=bindS h;obtain⟨a9,O,h⟩:=bindS h;rcases bft (a8.fType != a9.fType) with A | A
            ·have h:=A5 A h;refine drS (SQ (fa F (fa G (fa t (fa N (fa O (fa A tt))))))) ?_;exact M _ h _ _ (mp [] _ _ hB)
            ·have h:=A6 A h;obtain⟨ba,ac,h⟩:=bindS h;obtain⟨bb,ae,h⟩:=bindS h;apply dr (c (fo 1002 10 [8] hN underlying39 10 tyS37 (q 2)) rfl (c (la hN 39 tyS37 (q 156)) rfl (c (mv hN (q 8)) rfl (c (indexD underlying37 tyS78 (G3 F).1 (X8 B6 (G3 F).2) (L rfl) (q 157) (q 158)) rfl (c (fieldD underlying78 (by rfl) (o:=0) (by rfl) tyS3 (by decide) (by rfl) (by rfl) (L rfl) (q 159)) rfl (c (loadD tyS3 (by rfl) (by rfl) (L rfl) (q 160)) rfl (c (fo 1003 10 [8] hN underlying39 10 tyS37 (q 3)) rfl (c (la hN 39 tyS37 (q 162)) rfl (c (mv hN (q 8)) rfl (c (indexD underlying37 tyS78 (G3 G).1 (X8 B6 (G3 G).2) (L rfl) (q 163) (q 164)) rfl (c (fieldD underlying78 (by rfl) (o:=0) (by rfl) tyS3 (by decide) (by rfl) (by rfl) (L rfl) (q 165)) rfl (c (loadD tyS3 (by rfl) (by rfl) (L rfl) (q 166)) rfl (c (neqI (L rfl) (q 161) (q 167)) rfl (c (OpJ.val (v':=.d (.bool false)) (by rw [t]<;>rfl) (mv hN (q 168))) rfl (c (gd 169 (fo 1002 10 [8] hN underlying39 10 tyS37 (q 2))) rfl (c (gd 169 (la hN 39 tyS37 (q 170))) rfl (c (gd 169 (mv hN (q 8))) rfl (c (gd 169 (indexD underlying37 tyS78 (G3 N).1 (X8 B6 (G3 N).2) (L rfl) (q 171) (q 172))) rfl (c (gd 169 (fieldD underlying78 (by rfl) (o:=1) (by rfl) tyS3 (by decide) (by rfl) (by rfl) (L rfl) (q 173))) rfl (c (gd 169 (loadD tyS3 (by rfl) (by rfl) (L rfl) (q 174))) rfl (c (gd 169 (fo 1003 10 [8] hN underlying39 10 tyS37 (q 3))) rfl (c (gd 169 (la hN 39 tyS37 (q 176))) rfl (c (gd 169 (mv hN (q 8))) rfl (c (gd 169 (indexD underlying37 tyS78 (G3 O).1 (X8 B6 (G3 O).2) (L rfl) (q 177) (q 178))) rfl (c (gd 169 (fieldD underlying78 (by rfl) (o:=1) (by rfl) tyS3 (by decide) (by rfl) (by rfl) (L rfl) (q 179))) rfl (c (gd 169 (loadD tyS3 (by rfl) (by rfl) (L rfl) (q 180))) rfl (c (gd 169 (neqI (L rfl) (q 175) (q 181))) rfl (c (pickF (L rfl) (q 169) (q 182)) rfl (c (OpJ.val (v':=.d (.bool false)) (by rw [A]<;>rfl) (mv hN (q 183))) rfl (c (gd 184 (fo 1002 10 [8] hN underlying39 10 tyS37 (q 2))) rfl (c (gd 184 (la hN 39 tyS37 (q 185))) rfl (c (gd 184 (mv hN (q 8))) rfl (c (gd 184 (indexD underlying37 tyS78 (G3 ac).1 (X8 B6 (G3 ac).2) (L rfl) (q 186) (q 187))) rfl (c (gd 184 (fieldD underlying78 (by rfl) (o:=2) (by rfl) tyS76 (by decide) (by rfl) (by rfl) (L rfl) (q 188))) rfl (c (gd 184 (loadD tyS76 (by rfl) (by rfl) (L rfl) (q 189))) rfl (cg (gd 184 (OpJ.bytesStr (xs:=ba.fData) tyU76 underlying5 underlying9 (L rfl) (q 190))) rfl (c (gd 184 (fo 1003 10 [8] hN underlying39 10 tyS37 (q 3))) rfl (c (gd 184 (la hN 39 tyS37 (q 192))) rfl (c (gd 184 (mv hN (q 8))) rfl (c (gd 184 (indexD underlying37 tyS78 (G3 ae).1 (X8 B6 (G3 ae).2) (L rfl) (q 193) (q 194))) rfl (c (gd 184 (fieldD underlying78 (by rfl) (o:=2) (by rfl) tyS76 (by decide) (by rfl) (by rfl) (L rfl) (q 195))) rfl (c (gd 184 (loadD tyS76 (by rfl) (by rfl) (L rfl) (q 196))) rfl (cg (gd 184 (OpJ.bytesStr (xs:=bb.fData) tyU76 underlying5 underlying9 (L rfl) (q 197))) rfl (cg (gd 184 (OpJ.neqS (L rfl) (q 191) (q 198))) rfl (c (pickF (L rfl) (q 184) (q 199)) rfl cn))))))))))))))))))))))))))))))))))))))))))))) (by kernel_rfl) (by kernel_rfl);exact M _ h _ _ (mp [] _ _ hB)
         ·have h:=A6 aa h;apply AWp.exit;apply D6;obtain rfl:=oi h;exact⟨nofun,rfl,mp [] _ _ hB⟩
        ·rcases az with _ | _
         ·obtain⟨rfl,i⟩:=hR;apply D8;apply B8;obtain rfl:=oi h;exact rt (Mat.trans i (mp [] [(4,bo false)] [] hB)) [bo false] (rT rN) rfl
         ·obtain⟨rfl,i⟩:=hR;apply B9;apply A0;refine ghost i ?_;refine sr (SQ tt) ?_;apply ret;obtain rfl:=oi h;exact rt (kp [(4,_)] [] hB rfl rfl (by rfl)) [bo true] (rT rN) rfl
def L1 (a0:D5) (a1:D5):Option (Bool):=
 jn (fun p:Bool=>
 some p) (fun i=>
 (if ((((a0.fPrefix.fAddr.fV6==a1.fPrefix.fAddr.fV6)&&((a0.fPrefix.fAddr.fHi==a1.fPrefix.fAddr.fHi)&&((a0.fPrefix.fAddr.fLo==a1.fPrefix.fAddr.fLo)&&true)))&&((a0.fPrefix.fLen==a1.fPrefix.fLen)&&true))&&(a0.fFrom==a1.fFrom))=true then
 (J8 a0.fAttrs a1.fAttrs).bind fun s=>
 i s
 else
 i false))
theorem A5g (a0:D5) (a1:D5) (r:Bool) (h:L1 a0 a1=some r):AC Tryz.prog 61 [.d (G6 a0),.d (G6 a1)] [] (.d (.bool r)) []:=by
 refine ac2 Tryz.func61 rfl rfl fun B hB hN L => ?_;delta L1 at h;refine sr (SQ tt) ?_;apply seq;refine AWp.cut h (fun p:Bool=>([(4,bo p)]:EL)) (fun p:Bool=>([]:OL)) (fun p h C E t => ?_) (fun F s h => ?_)
 ·apply A0;refine ghost t ?_;apply ret;obtain rfl:=oi h;exact rt (kp [(4,_)] [] hB rfl rfl (by rfl)) [bo p] (rT rN) rfl
 ·rcases bft ((((a0.fPrefix.fAddr.fV6==a1.fPrefix.fAddr.fV6)&&((a0.fPrefix.fAddr.fHi==a1.fPrefix.fAddr.fHi)&&((a0.fPrefix.fAddr.fLo==a1.fPrefix.fAddr.fLo)&&true)))&&((a0.fPrefix.fLen==a1.fPrefix.fLen)&&true))&&(a0.fFrom==a1.fFrom)) with i | i
  ·have h:=A5 i h;obtain⟨u,A,h⟩:=bindS h;refine rg (SQ (fa i (fa (cl [] (A2a a0.fAttrs a1.fAttrs u A)) tt))) ?_;exact s _ h _ _ (mp [] _ _ hB)
  ·have h:=A6 i h;refine rg (SQ (fa i tt)) ?_;exact s _ h _ _ (mp [] _ _ hB)
def S3 (a0:C2) (i:Int×(List B4)):Option (List B4⊕(Int×(List B4))):=
 (if (decide (i.1<(a0.fPath.length:Int)))=true then
 (idx a0.fPath i.1).bind fun p=>
 chk (decide (p.fASNs.length≤LIM))<|
 chk (decide ((i.2++[B4.mk p.fSet p.fASNs]).length≤LIM))<|
 some (.inr (w64 (i.1+1),(i.2++[B4.mk p.fSet p.fASNs])))
 else
 some (.inl i.2))
def S4 (a0:C2) (p:Int×(List A3)):Option (List A3⊕(Int×(List A3))):=
 (if (decide (p.1<(a0.fOther.length:Int)))=true then
 (idx a0.fOther p.1).bind fun i=>
 chk (decide (i.fData.length≤LIM))<|
 chk (decide ((p.2++[A3.mk i.fFlags i.fType i.fData]).length≤LIM))<|
 some (.inr (w64 (p.1+1),(p.2++[A3.mk i.fFlags i.fType i.fData])))
 else
 some (.inl p.2))
def L2 (a0:C2):Option (C2):=
 (loop (S3 a0) (0,([]:List B4))).bind fun i=>
 chk (decide (a0.fCommunities.length≤LIM))<|
 chk (decide (a0.fLarge.length≤LIM))<|
 (loop (S4 a0) (0,([]:List A3))).bind fun p=>
 some (C2.mk a0.fOrigin i a0.fNext a0.fMED a0.fPref a0.fOTC a0.fCommunities a0.fLarge p)
theorem Y2 (a0:C2) (r:C2) (h:L2 a0=some r):AC Tryz.prog 60 [.d (C8 a0)] [] (.d (C8 r)) []:=by
 refine ac2 Tryz.func60 rfl rfl fun B hB hN L => ?_;delta L2 at h;refine sr (SQ tt) ?_;refine sr (SQ tt) ?_;refine sr (SQ tt) ?_;apply seq;refine sr (SQ tt) ?_;apply block;obtain⟨i,K,h⟩:=bindS h;refine lg (S3 a0) (fun u:Int×(List B4)=>([(1,pt 1001),(2,pt 1002),(3,pt 1003),(12,D0 a0.fPath),(13,i6 (a0.fPath.length:Int)),(14,i6 u.1)]:EL)) (fun u:Int×(List B4)=>([(1001,bd 39 (C8 a0)),(1002,some (.box 39 (.st Zz7))),(1003,some (.box 39 (.st [i6 a0.fOrigin,.sref 13031 2 0 u.2.length,.d (E4 a0.fNext),i6 a0.fMED,i6 a0.fPref,i6 a0.fOTC,C9 a0.fCommunities,E8 a0.fLarge,.nils]))),(13031,some (K7 u.2))]:OL)) (fun(i:(List B4)) e C E=>e = .exit 0∧Mat B C E ([(1,pt 1001),(2,pt 1002),(3,pt 1003)]:EL) ([(1001,bd 39 (C8 a0)),(1002,some (.box 39 (.st Zz7))),(1003,some (.box 39 (.st [i6 a0.fOrigin,.sref 13031 2 0 i.length,.d (E4 a0.fNext),i6 a0.fMED,i6 a0.fPref,i6 a0.fOTC,C9 a0.fCommunities,E8 a0.fLarge,.nils]))),(13031,some (K7 i))]:OL)) K (Mat.trans (Mat.beginP (n:=13031) (e:=75) (sz:=2) (Ts:=[]) (Bs:=[(1003,some (.box 39 (.st [i6 a0.fOrigin,.sref 13031 2 0 0,.d (E4 a0.fNext),i6 a0.fMED,i6 a0.fPref,i6 a0.fOTC,C9 a0.fCommunities,E8 a0.fLarge,.nils])))]) hB (by decide) (by rfl) (by decide) TwT.nil (TwB.cons (x:=(.st [i6 a0.fOrigin,.nils,.d (E4 a0.fNext),i6 a0.fMED,i6 a0.fPref,i6 a0.fOTC,C9 a0.fCommunities,E8 a0.fLarge,.nils])) (by rfl) (Tw.st (TwL.cons (Tw.same _) (TwL.cons (Tw.leaf ⟨rfl,rfl⟩) (TwL.cons (Tw.same _) (TwL.cons (Tw.same _) (TwL.cons (Tw.same _) (TwL.cons (Tw.same _) (TwL.cons (Tw.same _) (TwL.cons (Tw.same _) (TwL.cons (Tw.same _) TwL.nil)))))))))) TwB.nil)) (mp [] _ _ hB)) (fun u y h => ?_) (fun e C E hR => ?_)
 ·unfold S3 at h;refine sr (SQ tt) ?_;apply seq;apply AWp.cond rfl<;>intro G
  ·have h:=A5 G h;apply AWp.skip;apply A0;apply seq;apply block;obtain⟨t,M,h⟩:=bindS h;refine sr (SQ (fa M tt)) ?_;obtain⟨H,h⟩:=B2 h;obtain⟨N,h⟩:=B2 h;apply dr (c (fo 1003 1 [1] hN underlying39 1 tyS34 (q 3)) rfl (c (lb hN 39 _ (.sref 13031 2 0 u.2.length) tyS34 (At.st1 (f:=(.sref 13031 2 0 u.2.length)) (by rfl) (by rfl) (At.here _) (by first | rfl | omega)) (q 18)) rfl (c (fo 1005 0 [0] hN underlying75 0 tyS4 (q 5)) rfl (c (la hN 75 tyS4 (q 20)) rfl (c (fo 1005 1 [1] hN underlying75 1 tyS27 (q 5)) rfl (c (la hN 75 tyS27 (q 22)) rfl (cg (OpJ.frz (OpJ.appendN hB underlying27 tyE3 (nm:=1024) (by decide) (ys:=t.fASNs.map (eI .i64)) (len:=t.fASNs.length) (by simp) (A5t (f:=(eI .i64)) (fun _=>rfl)) (by rw [List.length_map];exact A0i H (by decide)) (by rw [List.length_map];exact A3g H) (L rfl) Opd.nils (q 23)) (by simp)) rfl (c (OpJ.coe (v:=(.st [bo t.fSet,qI_1 t.fASNs])) (y:=(.st [.bool t.fSet,.list 1 (t.fASNs.map (eI .i64))])) (Co.st (CoL.cons (Co.d _) (CoL.cons (Co.d _) CoL.nil))) rfl (OpJ.build (places:=[(0,1),(1,1)]) ⟨underlying75,fun w=>by kernel_rfl⟩ tyZS75 (Opds.cons (q 21) (Opds.cons (q 24) Opds.nil)) (by kernel_rfl) (r:=(.st [bo t.fSet,qI_1 t.fASNs])) (by rfl) (L rfl))) rfl (c (buildSlice underlying34 tyS75 tyZD75 (by rfl) (by decide) (by decide) (Opds.cons (q 25) Opds.nil) (by kernel_rfl) (es:=([.st [.bool t.fSet,.list 1 (t.fASNs.map (eI .i64))]]:List D)) (by rfl) (by rfl) (by kernel_rfl) (by simp) (L rfl)) rfl (cg (apd hB underlying34 tyE75 1027 D2 u.2 [B4.mk t.fSet t.fASNs] N (L rfl) (q 19) (q 26)) rfl (c (fo 1003 1 [1] hN underlying39 1 tyS34 (q 3)) rfl (cg (OpJ.storeB (c':=(.st [i6 a0.fOrigin,.sref 1027 2 0 ((u.2++[B4.mk t.fSet t.fASNs]).length),.d (E4 a0.fNext),i6 a0.fMED,i6 a0.fPref,i6 a0.fOTC,C9 a0.fCommunities,E8 a0.fLarge,.nils])) tyS34 (SetAt.st1 (f:=(.sref 13031 2 0 u.2.length)) (by rfl) (by rfl) (SetAt.here _ _) (by rfl) (by rfl) (by first | rfl | omega)) (by rfl) (by rfl) (by simp) rfl (q 28) (q 27)) rfl cn)))))))))))) (by kernel_rfl) (by kernel_rfl)
   apply D7;apply A0;refine rg (SQ tt) ?_;obtain rfl:=oi h;exact⟨rfl,mp [(13031,1027)] _ _ hB⟩
  ·have h:=A6 G h;apply AWp.exit;apply D6;obtain rfl:=oi h;exact⟨nofun,rfl,mp [] _ _ hB⟩
 ·obtain⟨rfl,F⟩:=hR;apply B9;apply A0;refine ghost F ?_;obtain⟨O,h⟩:=B2 h;refine sr (SQ (fa O tt)) ?_;obtain⟨P,h⟩:=B2 h;refine sr (SQ (fa P tt)) ?_;apply seq;refine sr (SQ tt) ?_;apply block;obtain⟨s,Q,h⟩:=bindS h;refine lg (S4 a0) (fun A:Int×(List A3)=>([(2,pt 1002),(3,pt 1003),(39,C6 a0.fOther),(40,i6 (a0.fOther.length:Int)),(41,i6 A.1)]:EL)) (fun A:Int×(List A3)=>([(1002,some (.box 39 (.st Zz7))),(1003,some (.box 39 (.st [i6 a0.fOrigin,.sref 13031 2 0 i.length,.d (E4 a0.fNext),i6 a0.fMED,i6 a0.fPref,i6 a0.fOTC,.sref 1032 2 0 a0.fCommunities.length,.sref 1036 3 0 a0.fLarge.length,.sref 13038 3 0 A.2.length]))),(1032,some (A5d a0.fCommunities)),(1036,some (A7s a0.fLarge)),(13031,some (K7 i)),(13038,some (E0 A.2))]:OL)) (fun(s:(List A3)) e C E=>e = .exit 2∧Mat B C E ([(2,pt 1002),(3,pt 1003)]:EL) ([(1002,some (.box 39 (.st Zz7))),(1003,some (.box 39 (.st [i6 a0.fOrigin,.sref 13031 2 0 i.length,.d (E4 a0.fNext),i6 a0.fMED,i6 a0.fPref,i6 a0.fOTC,.sref 1032 2 0 a0.fCommunities.length,.sref 1036 3 0 a0.fLarge.length,.sref 13038 3 0 s.length]))),(1032,some (A5d a0.fCommunities)),(1036,some (A7s a0.fLarge)),(13031,some (K7 i)),(13038,some (E0 s))]:OL)) Q (Mat.trans (Mat.beginP (n:=13038) (e:=78) (sz:=3) (Ts:=[]) (Bs:=[(1003,some (.box 39 (.st [i6 a0.fOrigin,.sref 13031 2 0 i.length,.d (E4 a0.fNext),i6 a0.fMED,i6 a0.fPref,i6 a0.fOTC,.sref 1032 2 0 a0.fCommunities.length,.sref 1036 3 0 a0.fLarge.length,.sref 13038 3 0 0])))]) hB (by decide) (by rfl) (by decide) TwT.nil (TwB.cons (x:=(.st [i6 a0.fOrigin,.sref 13031 2 0 i.length,.d (E4 a0.fNext),i6 a0.fMED,i6 a0.fPref,i6 a0.fOTC,.sref 1032 2 0 a0.fCommunities.length,.sref 1036 3 0 a0.fLarge.length,.nils])) (by rfl) (Tw.st (TwL.cons (Tw.same _) (TwL.cons (Tw.same _) (TwL.cons (Tw.same _) (TwL.cons (Tw.same _) (TwL.cons (Tw.same _) (TwL.cons (Tw.same _) (TwL.cons (Tw.same _) (TwL.cons (Tw.same _) (TwL.cons (Tw.leaf ⟨rfl,rfl⟩) TwL.nil)))))))))) TwB.nil)) (mp [] _ _ hB)) (fun A y h => ?_) (fun e C E hR => ?_)
  ·unfold S4 at h;refine sr (SQ tt) ?_;apply seq;apply AWp.cond rfl<;>intro I
   ·have h:=A5 I h;apply AWp.skip;apply A0;apply seq;apply block;obtain⟨p,R,h⟩:=bindS h;refine sr (SQ (fa R tt)) ?_;obtain⟨J,h⟩:=B2 h;obtain⟨S,h⟩:=B2 h;apply dr (c (fo 1003 10 [8] hN underlying39 10 tyS37 (q 3)) rfl (c (lb hN 39 _ (.sref 13038 3 0 A.2.length) tyS37 (At.st1 (f:=(.sref 13038 3 0 A.2.length)) (by rfl) (by rfl) (At.here _) (by first | rfl | omega)) (q 45)) rfl (c (fo 1007 0 [0] hN underlying78 0 tyS3 (q 7)) rfl (c (la hN 78 tyS3 (q 47)) rfl (c (fo 1007 1 [1] hN underlying78 1 tyS3 (q 7)) rfl (c (la hN 78 tyS3 (q 49)) rfl (c (fo 1007 2 [2] hN underlying78 2 tyS76 (q 7)) rfl (c (la hN 78 tyS76 (q 51)) rfl (cg (OpJ.frz (OpJ.appendN hB underlying76 tyE5 (nm:=1053) (by decide) (ys:=p.fData.map (eI .u8)) (len:=p.fData.length) (by simp) (A5t (f:=(eI .u8)) (fun _=>rfl)) (by rw [List.length_map];exact A0i J (by decide)) (by rw [List.length_map];exact A3g J) (L rfl) Opd.nils (q 52)) (by simp)) rfl (c (OpJ.coe (v:=(.st [i6 p.fFlags,i6 p.fType,.d (.list 1 (p.fData.map (eI .u8)))])) (y:=(.st [.int .i64 p.fFlags,.int .i64 p.fType,.list 1 (p.fData.map (eI .u8))])) (Co.st (CoL.cons (Co.d _) (CoL.cons (Co.d _) (CoL.cons (Co.d _) CoL.nil)))) rfl (OpJ.build (places:=[(0,1),(1,1),(2,1)]) ⟨underlying78,fun w=>by kernel_rfl⟩ tyZS78 (Opds.cons (q 48) (Opds.cons (q 50) (Opds.cons (q 53) Opds.nil))) (by kernel_rfl) (r:=(.st [i6 p.fFlags,i6 p.fType,.d (.list 1 (p.fData.map (eI .u8)))])) (by rfl) (L rfl))) rfl (c (buildSlice underlying37 tyS78 tyZD78 (by rfl) (by decide) (by decide) (Opds.cons (q 54) Opds.nil) (by kernel_rfl) (es:=([.st [.int .i64 p.fFlags,.int .i64 p.fType,.list 1 (p.fData.map (eI .u8))]]:List D)) (by rfl) (by rfl) (by kernel_rfl) (by simp) (L rfl)) rfl (cg (apd hB underlying37 tyE78 1056 B6 A.2 [A3.mk p.fFlags p.fType p.fData] S (L rfl) (q 46) (q 55)) rfl (c (fo 1003 10 [8] hN underlying39 10 tyS37 (q 3)) rfl (cg (OpJ.storeB (c':=(.st [i6 a0.fOrigin,.sref 13031 2 0 i.length,.d (E4 a0.fNext),i6 a0.fMED,i6 a0.fPref,i6 a0.fOTC,.sref 1032 2 0 a0.fCommunities.length,.sref 1036 3 0 a0.fLarge.length,.sref 1056 3 0 ((A.2++[A3.mk p.fFlags p.fType p.fData]).length)])) tyS37 (SetAt.st1 (f:=(.sref 13038 3 0 A.2.length)) (by rfl) (by rfl) (SetAt.here _ _) (by rfl) (by rfl) (by first | rfl | omega)) (by rfl) (by rfl) (by simp) rfl (q 57) (q 56)) rfl cn)))))))))))))) (by kernel_rfl) (by kernel_rfl)
    apply D7;apply A0;refine rg (SQ tt) ?_;obtain rfl:=oi h;exact⟨rfl,mp [(13038,1056)] _ _ hB⟩
   ·have h:=A6 I h;apply AWp.exit;apply D6;obtain rfl:=oi h;exact⟨nofun,rfl,mp [] _ _ hB⟩
  ·obtain⟨rfl,F⟩:=hR;apply B9;apply A0;refine ghost F ?_;refine sr (SQ tt) ?_;apply ret;obtain rfl:=oi h;exact rt (Mat.trans (Mat.freezeP (n:=13031) (e:=75) (sz:=2) (es:=i.map D2) (Ts:=[]) (Bs:=[(1002,some (.box 39 (.st [i6 a0.fOrigin,D0 i,.d (E4 a0.fNext),i6 a0.fMED,i6 a0.fPref,i6 a0.fOTC,.sref 1032 2 0 a0.fCommunities.length,.sref 1036 3 0 a0.fLarge.length,.sref 13038 3 0 s.length])))]) (by rfl) TwT.nil (TwB.cons (x:=(.st [i6 a0.fOrigin,.sref 13031 2 0 i.length,.d (E4 a0.fNext),i6 a0.fMED,i6 a0.fPref,i6 a0.fOTC,.sref 1032 2 0 a0.fCommunities.length,.sref 1036 3 0 a0.fLarge.length,.sref 13038 3 0 s.length])) (by rfl) (Tw.st (TwL.cons (Tw.same _) (TwL.cons (FrzL.all (by first | rfl | (simp;done) | (simp;omega) | omega)) (TwL.cons (Tw.same _) (TwL.cons (Tw.same _) (TwL.cons (Tw.same _) (TwL.cons (Tw.same _) (TwL.cons (Tw.same _) (TwL.cons (Tw.same _) (TwL.cons (Tw.same _) TwL.nil)))))))))) TwB.nil)) (Mat.trans (Mat.freezeP (n:=1032) (e:=132) (sz:=2) (es:=a0.fCommunities.map C5) (Ts:=[]) (Bs:=[(1002,some (.box 39 (.st [i6 a0.fOrigin,D0 i,.d (E4 a0.fNext),i6 a0.fMED,i6 a0.fPref,i6 a0.fOTC,C9 a0.fCommunities,.sref 1036 3 0 a0.fLarge.length,.sref 13038 3 0 s.length])))]) (by rfl) TwT.nil (TwB.cons (x:=(.st [i6 a0.fOrigin,D0 i,.d (E4 a0.fNext),i6 a0.fMED,i6 a0.fPref,i6 a0.fOTC,.sref 1032 2 0 a0.fCommunities.length,.sref 1036 3 0 a0.fLarge.length,.sref 13038 3 0 s.length])) (by rfl) (Tw.st (TwL.cons (Tw.same _) (TwL.cons (Tw.same _) (TwL.cons (Tw.same _) (TwL.cons (Tw.same _) (TwL.cons (Tw.same _) (TwL.cons (Tw.same _) (TwL.cons (FrzL.all (by first | rfl | (simp;done) | (simp;omega) | omega)) (TwL.cons (Tw.same _) (TwL.cons (Tw.same _) TwL.nil)))))))))) TwB.nil)) (Mat.trans (Mat.freezeP (n:=1036) (e:=134) (sz:=3) (es:=a0.fLarge.map E9) (Ts:=[]) (Bs:=[(1002,some (.box 39 (.st [i6 a0.fOrigin,D0 i,.d (E4 a0.fNext),i6 a0.fMED,i6 a0.fPref,i6 a0.fOTC,C9 a0.fCommunities,E8 a0.fLarge,.sref 13038 3 0 s.length])))]) (by rfl) TwT.nil (TwB.cons (x:=(.st [i6 a0.fOrigin,D0 i,.d (E4 a0.fNext),i6 a0.fMED,i6 a0.fPref,i6 a0.fOTC,C9 a0.fCommunities,.sref 1036 3 0 a0.fLarge.length,.sref 13038 3 0 s.length])) (by rfl) (Tw.st (TwL.cons (Tw.same _) (TwL.cons (Tw.same _) (TwL.cons (Tw.same _) (TwL.cons (Tw.same _) (TwL.cons (Tw.same _) (TwL.cons (Tw.same _) (TwL.cons (Tw.same _) (TwL.cons (FrzL.all (by first | rfl | (simp;done) | (simp;omega) | omega)) (TwL.cons (Tw.same _) TwL.nil)))))))))) TwB.nil)) (Mat.trans (Mat.freezeP (n:=13038) (e:=78) (sz:=3) (es:=s.map B6) (Ts:=[]) (Bs:=[(1002,some (.box 39 (.st [i6 a0.fOrigin,D0 i,.d (E4 a0.fNext),i6 a0.fMED,i6 a0.fPref,i6 a0.fOTC,C9 a0.fCommunities,E8 a0.fLarge,C6 s])))]) (by rfl) TwT.nil (TwB.cons (x:=(.st [i6 a0.fOrigin,D0 i,.d (E4 a0.fNext),i6 a0.fMED,i6 a0.fPref,i6 a0.fOTC,C9 a0.fCommunities,E8 a0.fLarge,.sref 13038 3 0 s.length])) (by rfl) (Tw.st (TwL.cons (Tw.same _) (TwL.cons (Tw.same _) (TwL.cons (Tw.same _) (TwL.cons (Tw.same _) (TwL.cons (Tw.same _) (TwL.cons (Tw.same _) (TwL.cons (Tw.same _) (TwL.cons (Tw.same _) (TwL.cons (FrzL.all (by first | rfl | (simp;done) | (simp;omega) | omega)) TwL.nil)))))))))) TwB.nil)) (Mat.trans (Mat.coeP (Ts:=[]) (Bs:=[(1002,bd 39 (.st [.int .i64 a0.fOrigin,.list 2 (i.map D2),E4 a0.fNext,.int .i64 a0.fMED,.int .i64 a0.fPref,.int .i64 a0.fOTC,.list 2 (a0.fCommunities.map C5),.list 3 (a0.fLarge.map E9),.list 3 (s.map B6)]))]) TwT.nil (TwB.cons (x:=(.st [i6 a0.fOrigin,D0 i,.d (E4 a0.fNext),i6 a0.fMED,i6 a0.fPref,i6 a0.fOTC,C9 a0.fCommunities,E8 a0.fLarge,C6 s])) (by rfl) (Tw.leaf ⟨_,Co.st (CoL.cons (Co.d _) (CoL.cons (Co.d _) (CoL.cons (Co.d _) (CoL.cons (Co.d _) (CoL.cons (Co.d _) (CoL.cons (Co.d _) (CoL.cons (Co.d _) (CoL.cons (Co.d _) (CoL.cons (Co.d _) CoL.nil))))))))),rfl⟩) TwB.nil)) (mp [] [(2,pt 1002)] [(1002,bd 39 (.st [.int .i64 a0.fOrigin,.list 2 (i.map D2),E4 a0.fNext,.int .i64 a0.fMED,.int .i64 a0.fPref,.int .i64 a0.fOTC,.list 2 (a0.fCommunities.map C5),.list 3 (a0.fLarge.map E9),.list 3 (s.map B6)]))] hB)))))) [.d (.st [.int .i64 a0.fOrigin,.list 2 (i.map D2),E4 a0.fNext,.int .i64 a0.fMED,.int .i64 a0.fPref,.int .i64 a0.fOTC,.list 2 (a0.fCommunities.map C5),.list 3 (a0.fLarge.map E9),.list 3 (s.map B6)])] (Res.cell (c:=(.d (.st [.int .i64 a0.fOrigin,.list 2 (i.map D2),E4 a0.fNext,.int .i64 a0.fMED,.int .i64 a0.fPref,.int .i64 a0.fOTC,.list 2 (a0.fCommunities.map C5),.list 3 (a0.fLarge.map E9),.list 3 (s.map B6)]))) (by rfl) (by rfl) tyS39 (by rfl) (by rfl) (by rfl) rN) rfl
def Q5 (a0:(List D5)) (i:Int×(List D5)):Option (List D5⊕(Int×(List D5))):=
 (if (decide (i.1<(a0.length:Int)))=true then
 (idx a0 i.1).bind fun p=>
 (L2 p.fAttrs).bind fun s=>
 chk (decide ((i.2++[D5.mk p.fPrefix p.fFrom s]).length≤LIM))<|
 some (.inr (w64 (i.1+1),(i.2++[D5.mk p.fPrefix p.fFrom s])))
 else
 some (.inl i.2))
def X2 (a0:(List D5)):Option (List D5):=
 (loop (Q5 a0) (0,([]:List D5))).bind fun i=>
 some i
theorem A8v (a0:(List D5)) (r:(List D5)) (h:X2 a0=some r):AC Tryz.prog 58 [.d (.list 16 (a0.map G6))] [] (.d (.list 16 (r.map G6))) []:=by
 refine ac2 Tryz.func58 rfl rfl fun B hB hN L => ?_;delta X2 at h;refine sr (SQ tt) ?_;refine sr (SQ tt) ?_;apply seq;refine sr (SQ tt) ?_;apply block;obtain⟨i,A,h⟩:=bindS h;refine lg (Q5 a0) (fun p:Int×(List D5)=>([(3,.sref 3003 16 0 p.2.length),(6,H7 a0),(7,i6 (a0.length:Int)),(8,i6 p.1)]:EL)) (fun p:Int×(List D5)=>([(3003,some (G1 p.2))]:OL)) (fun(i:(List D5)) e s t=>e = .exit 0∧Mat B s t ([(3,.sref 3003 16 0 i.length)]:EL) ([(3003,some (G1 i))]:OL)) A (Mat.trans (Mat.beginP (n:=3003) (e:=41) (sz:=16) (Ts:=[(3,.sref 3003 16 0 0)]) (Bs:=[]) hB (by decide) (by rfl) (by decide) (TwT.cons (x:=.nils) (by rfl) (Tw.leaf ⟨rfl,rfl⟩) TwT.nil) TwB.nil) (mp [] _ _ hB)) (fun p y h => ?_) (fun e s t hR => ?_)
 ·unfold Q5 at h;refine sr (SQ tt) ?_;apply seq;apply AWp.cond rfl<;>intro u
  ·have h:=A5 u h;apply AWp.skip;apply A0;apply seq;apply block;obtain⟨C,E,h⟩:=bindS h;refine sr (SQ (fa E tt)) ?_;obtain⟨F,G,h⟩:=bindS h;obtain⟨H,h⟩:=B2 h;refine drS (SQ (fa (cl [] (Y2 C.fAttrs F G)) (fa H tt))) ?_;apply D7;apply A0;refine rg (SQ tt) ?_;obtain rfl:=oi h;exact⟨rfl,mp [(3003,1022)] _ _ hB⟩
  ·have h:=A6 u h;apply AWp.exit;apply D6;obtain rfl:=oi h;exact⟨nofun,rfl,mp [] _ _ hB⟩
 ·obtain⟨rfl,I⟩:=hR;apply B9;apply A0;refine ghost I ?_;refine sr (SQ tt) ?_;apply ret;obtain rfl:=oi h;exact rt (Mat.trans (Mat.freezeP (n:=3003) (e:=41) (sz:=16) (es:=i.map G6) (Ts:=[(2,H7 i)]) (Bs:=[]) (by rfl) (TwT.cons (x:=(.sref 3003 16 0 i.length)) (by rfl) (FrzL.all (by first | rfl | (simp;done) | (simp;omega) | omega)) TwT.nil) TwB.nil) (mp [] [(2,H7 i)] [] hB)) [H7 i] (rT rN) rfl
def A1i (a0:Int) (a1:(List D5)) (a2:(List D5)) (t:(List A2)) (i:Int×(List A1)):Option (List A1⊕(Int×(List A1))):=
 (if (decide (i.1<(t.length:Int)))=true then
 jn (fun G:(List A1)=>
 some (.inr (w64 (i.1+1),G))) (fun u=>
 (idx t i.1).bind fun s=>
 (A39 a1 s).bind fun A=>
 (A39 a2 s).bind fun p=>
 jn (fun H:Bool=>
 (if H=true then
 u i.2
 else
 jn (fun C:D5=>
 chk (decide ((i.2++[A1.mk a0 s p.2 C]).length≤LIM))<|
 u (i.2++[A1.mk a0 s p.2 C])) (fun E=>
 (if p.2=true then
 (X2 [p.1]).bind fun I=>
 (idx I 0).bind fun J=>
 E J
 else
 E (D5.mk (A2.mk (E5.mk false 0 0) 0) 0 (C2.mk 0 ([]:List B4) (E5.mk false 0 0) 0 0 0 ([]:List B5) ([]:List E7) ([]:List A3))))))) (fun F=>
 (if (A.2==p.2)=true then
 (L1 A.1 p.1).bind fun K=>
 F K
 else
 F false)))
 else
 some (.inl i.2))
def A4w (a0:Int) (a1:(List D5)) (a2:(List D5)):Option (List A1):=
 (A2j a1 a2).bind fun i=>
 (loop (A1i a0 a1 a2 i) (0,([]:List A1))).bind fun p=>
 some p
theorem B36 (a0:Int) (a1:(List D5)) (a2:(List D5)) (r:(List A1)) (h:A4w a0 a1 a2=some r):AC Tryz.prog 37 [.d (.int .i64 a0),.d (.list 16 (a1.map G6)),.d (.list 16 (a2.map G6))] [] (.d (.list 22 (r.map A8))) []:=by
 refine ac2 Tryz.func37 rfl rfl fun B hB hN L => ?_;delta A4w at h;refine sr (SQ tt) ?_;refine sr (SQ tt) ?_;apply seq;obtain⟨p,R,h⟩:=bindS h;refine sr (SQ (fa (cl [] (B0t a1 a2 p R)) tt)) ?_;apply block;obtain⟨t,S,h⟩:=bindS h;refine lg (A1i a0 a1 a2 p) (fun i:Int×(List A1)=>([(0,i6 a0),(1,H7 a1),(2,H7 a2),(7,.sref 3007 22 0 i.2.length),(17,F8 p),(18,i6 (p.length:Int)),(19,i6 i.1)]:EL)) (fun i:Int×(List A1)=>([(3007,some (B3 i.2))]:OL)) (fun(t:(List A1)) e C E=>e = .exit 0∧Mat B C E ([(7,.sref 3007 22 0 t.length)]:EL) ([(3007,some (B3 t))]:OL)) S (Mat.trans (Mat.beginP (n:=3007) (e:=43) (sz:=22) (Ts:=[(7,.sref 3007 22 0 0)]) (Bs:=[]) hB (by decide) (by rfl) (by decide) (TwT.cons (x:=.nils) (by rfl) (Tw.leaf ⟨rfl,rfl⟩) TwT.nil) TwB.nil) (mp [] _ _ hB)) (fun i y h => ?_) (fun e C E hR => ?_)
 ·unfold A1i at h;refine sr (SQ tt) ?_;apply seq;apply AWp.cond rfl<;>intro K
  ·have h:=A5 K h;apply AWp.skip;apply A0;apply seq;refine AWp.cut h (fun G:(List A1)=>([(0,i6 a0),(1,H7 a1),(2,H7 a2),(7,.sref 3007 22 0 G.length),(17,F8 p),(18,i6 (p.length:Int)),(19,i6 i.1)]:EL)) (fun G:(List A1)=>([(3007,some (B3 G))]:OL)) (fun G h C E u => ?_) (fun ae M h => ?_)
   ·apply A0;refine ghost u ?_;refine rg (SQ tt) ?_;obtain rfl:=oi h;exact⟨rfl,mp [] _ _ hB⟩
   ·apply block;obtain⟨A,T,h⟩:=bindS h;refine sr (SQ (fa T tt)) ?_;obtain⟨H,U,h⟩:=bindS h;refine sr (SQ (fa (cl [] (A8u a1 A H U)) tt)) ?_;obtain⟨s,W,h⟩:=bindS h;refine sr (SQ (fa (cl [] (A8u a2 A s W)) tt)) ?_;apply seq;apply seq;refine AWp.cut h (fun I:Bool=>([(0,i6 a0),(1,H7 a1),(2,H7 a2),(7,.sref 3007 22 0 i.2.length),(9,pt 1009),(12,pt 1012),(13,bo s.2),(17,F8 p),(18,i6 (p.length:Int)),(19,i6 i.1),(42,bo I)]:EL)) (fun I:Bool=>([(1009,bd 33 (B0 A)),(1012,bd 41 (G6 s.1)),(3007,some (B3 i.2))]:OL)) (fun I h C E u => ?_) (fun af N h => ?_)
    ·apply A0;refine ghost u ?_;apply AWp.cond rfl<;>intro O
     ·have h:=A5 O h;apply AWp.exit;apply D6;apply B9;exact M _ h _ _ (mp [] _ _ hB)
     ·have h:=A6 O h;apply AWp.skip;apply A0;refine sr (SQ tt) ?_;apply seq;refine sr (SQ tt) ?_;refine gh [(0,_),(1,_),(2,_),(7,_),(12,_),(14,_),(17,_),(18,_),(19,_),(47,_)] [(1012,some _),(1014,some _),(3007,some _)] hB rfl rfl (by rfl) ?_;refine AWp.cut h (fun J:D5=>([(0,i6 a0),(1,H7 a1),(2,H7 a2),(7,.sref 3007 22 0 i.2.length),(14,pt 1014),(17,F8 p),(18,i6 (p.length:Int)),(19,i6 i.1)]:EL)) (fun J:D5=>([(1014,some (.box 43 (.st [i6 a0,.d (B0 A),bo s.2,.d (G6 J)]))),(3007,some (B3 i.2))]:OL)) (fun J h C E u => ?_) (fun ag P h => ?_)
      ·apply A0;refine ghost u ?_;obtain⟨X,h⟩:=B2 h;refine rg (SQ (fa X tt)) ?_;apply D7;exact M _ h _ _ (mp [(3007,1057)] _ _ hB)
      ·apply AWp.cond rfl<;>intro Q
       ·have h:=A5 Q h;obtain⟨Y,Z,h⟩:=bindS h;obtain⟨_,aa,h⟩:=bindS h;refine rg (SQ (fa (cl [] (A8v [s.1] Y Z)) (fa aa tt))) ?_;exact P _ h _ _ (mp [] _ _ hB)
       ·have h:=A6 Q h;apply AWp.skip;exact P _ h _ _ (Mat.trans (Mat.coeP (Ts:=[]) (Bs:=[(1014,some (.box 43 (.st [i6 a0,.d (B0 A),bo s.2,.d (.st [.st Zz9,.int .i64 0,.st Zz2])])))]) TwT.nil (TwB.cons (x:=(.st [i6 a0,.d (B0 A),bo s.2,.st [.d (.st Zz9),i6 0,.st Zz7]])) (by rfl) (Tw.st (TwL.cons (Tw.same _) (TwL.cons (Tw.same _) (TwL.cons (Tw.same _) (TwL.cons (Tw.leaf ⟨_,Co.st (CoL.cons (Co.d _) (CoL.cons (Co.d _) (CoL.cons (Co.st (CoL.cons (Co.d _) (CoL.cons (Co.nils 2) (CoL.cons (Co.d _) (CoL.cons (Co.d _) (CoL.cons (Co.d _) (CoL.cons (Co.d _) (CoL.cons (Co.nils 2) (CoL.cons (Co.nils 3) (CoL.cons (Co.nils 3) CoL.nil)))))))))) CoL.nil))),rfl⟩) TwL.nil))))) TwB.nil)) (mp [] _ _ hB))
    ·rcases bft (H.2==s.2) with F | F
     ·have h:=A5 F h;obtain⟨ab,ac,h⟩:=bindS h;refine rg (SQ (fa F (fa (cl [] (A5g H.1 s.1 ab ac)) tt))) ?_;exact N _ h _ _ (mp [] _ _ hB)
     ·have h:=A6 F h;refine rg (SQ (fa F tt)) ?_;exact N _ h _ _ (mp [] _ _ hB)
  ·have h:=A6 K h;apply AWp.exit;apply D6;obtain rfl:=oi h;exact⟨nofun,rfl,mp [] _ _ hB⟩
 ·obtain⟨rfl,u⟩:=hR;apply B9;apply A0;refine ghost u ?_;refine sr (SQ tt) ?_;apply ret;obtain rfl:=oi h;exact rt (Mat.trans (Mat.freezeP (n:=3007) (e:=43) (sz:=22) (es:=t.map A8) (Ts:=[(6,A4 t)]) (Bs:=[]) (by rfl) (TwT.cons (x:=(.sref 3007 22 0 t.length)) (by rfl) (FrzL.all (by first | rfl | (simp;done) | (simp;omega) | omega)) TwT.nil) TwB.nil) (mp [] [(6,A4 t)] [] hB)) [A4 t] (rT rN) rfl
def G7 (p:Int×(List D5)×(List D5)×A9):Option ((A9×(List D5)×(List D5))⊕(Int×(List D5)×(List D5)×A9)):=
 (if (decide (p.1<8))=true then
 (R1 p.1).bind fun t=>
 (F6 p.2.2.2 3).bind fun s=>
 (A23).bind fun i=>
 (S6 (w64 (101+s.1)) t.fAddr.fV6).bind fun u=>
 (F6 s.2 2).bind fun A=>
 (F6 A.2 4).bind fun C=>
 jn (fun F:(List D5)×(List D5)=>
 some (.inr (w64 (p.1+1),F.1,F.2,C.2))) (fun E=>
 (if (C.1==0)=true then
 chk (decide ((p.2.2.1++([D5.mk t (w64 (101+s.1)) (C2.mk 0 ([B4.mk false ([w64 (101+s.1)]:List Int)]:List B4) u A.1 i.fPref i.fOTC i.fCommunities i.fLarge i.fOther)]:List D5)).length≤LIM))<|
 E (p.2.1,(p.2.2.1++([D5.mk t (w64 (101+s.1)) (C2.mk 0 ([B4.mk false ([w64 (101+s.1)]:List Int)]:List B4) u A.1 i.fPref i.fOTC i.fCommunities i.fLarge i.fOther)]:List D5)))
 else
 (if (C.1==1)=true then
 chk (decide ((p.2.1++([D5.mk t (w64 (101+s.1)) (C2.mk 0 ([B4.mk false ([w64 (101+s.1)]:List Int)]:List B4) u A.1 i.fPref i.fOTC i.fCommunities i.fLarge i.fOther)]:List D5)).length≤LIM))<|
 E ((p.2.1++([D5.mk t (w64 (101+s.1)) (C2.mk 0 ([B4.mk false ([w64 (101+s.1)]:List Int)]:List B4) u A.1 i.fPref i.fOTC i.fCommunities i.fLarge i.fOther)]:List D5)),p.2.2.1)
 else
 (if (C.1==2)=true then
 chk (decide ((p.2.2.1++([D5.mk t (w64 (101+s.1)) (C2.mk 0 ([B4.mk false ([w64 (101+s.1)]:List Int)]:List B4) u A.1 i.fPref i.fOTC i.fCommunities i.fLarge i.fOther)]:List D5)).length≤LIM))<|
 chk (decide ((p.2.1++([D5.mk t (w64 (101+s.1)) (C2.mk 0 ([B4.mk false ([w64 (101+s.1)]:List Int)]:List B4) u 5 i.fPref i.fOTC i.fCommunities i.fLarge i.fOther)]:List D5)).length≤LIM))<|
 E ((p.2.1++([D5.mk t (w64 (101+s.1)) (C2.mk 0 ([B4.mk false ([w64 (101+s.1)]:List Int)]:List B4) u 5 i.fPref i.fOTC i.fCommunities i.fLarge i.fOther)]:List D5)),(p.2.2.1++([D5.mk t (w64 (101+s.1)) (C2.mk 0 ([B4.mk false ([w64 (101+s.1)]:List Int)]:List B4) u A.1 i.fPref i.fOTC i.fCommunities i.fLarge i.fOther)]:List D5)))
 else
 E (p.2.1,p.2.2.1)))))
 else
 some (.inl (p.2.2.2,p.2.1,p.2.2.1)))
def G5 (a0:A9) (a1:Int):Option ((List A1)×A9):=
 (loop (G7) (0,([]:List D5),([]:List D5),a0)).bind fun i=>
 (A4w a1 i.2.2 i.2.1).bind fun p=>
 some (p,i.1)
theorem U4 (a0:A9) (a1:Int) (r:(List A1)×A9) (h:G5 a0 a1=some r):AC Tryz.prog 15 [pt 0,.d (.int .i64 a1)] [(0,.box 80 (.d (B7 a0)))] (.d (.list 22 (r.1.map A8))) [(0,bd 80 (B7 r.2))]:=by
 refine ac2 Tryz.func15 rfl rfl fun B hB hN L => ?_;delta G5 at h;refine sr (SQ tt) ?_;refine sr (SQ tt) ?_;apply seq;refine sr (SQ tt) ?_;apply block;obtain⟨p,Q,h⟩:=bindS h;refine lg (G7) (fun i:Int×(List D5)×(List D5)×A9=>([(0,pt 0),(1,i6 a1),(5,.sref 3005 16 0 i.2.2.1.length),(6,.sref 3006 16 0 i.2.1.length),(7,i6 i.1)]:EL)) (fun i:Int×(List D5)×(List D5)×A9=>([(0,bd 80 (B7 i.2.2.2)),(3005,some (G1 i.2.2.1)),(3006,some (G1 i.2.1))]:OL)) (fun(p:(A9×(List D5)×(List D5))) e G H=>e = .exit 0∧Mat B G H ([(1,i6 a1),(5,.sref 3005 16 0 p.2.2.length),(6,.sref 3006 16 0 p.2.1.length)]:EL) ([(0,bd 80 (B7 p.1)),(3005,some (G1 p.2.2)),(3006,some (G1 p.2.1))]:OL)) Q (Mat.trans (Mat.beginP (n:=3005) (e:=41) (sz:=16) (Ts:=[(5,.sref 3005 16 0 0)]) (Bs:=[]) hB (by decide) (by rfl) (by decide) (TwT.cons (x:=.nils) (by rfl) (Tw.leaf ⟨rfl,rfl⟩) TwT.nil) TwB.nil) (Mat.trans (Mat.beginP (n:=3006) (e:=41) (sz:=16) (Ts:=[(6,.sref 3006 16 0 0)]) (Bs:=[]) hB (by decide) (by rfl) (by decide) (TwT.cons (x:=.nils) (by rfl) (Tw.leaf ⟨rfl,rfl⟩) TwT.nil) TwB.nil) (mp [] _ _ hB))) (fun i y h => ?_) (fun e G H hR => ?_)
 ·unfold G7 at h;apply seq;refine sr (SQ tt) ?_;apply AWp.cond rfl<;>intro K
  ·have h:=A5 K h;apply AWp.skip;apply A0;apply seq;apply block;obtain⟨u,R,h⟩:=bindS h;refine sr (SQ (fa (cl [] (A60 i.1 u R)) tt)) ?_;apply seq;obtain⟨t,S,h⟩:=bindS h;refine drS (SQ (fa (cl [(0,0)] (G2 i.2.2.2 3 t S)) tt)) ?_;apply A0;refine ghost (mp [] [(0,pt 0),(1,i6 a1),(5,.sref 3005 16 0 i.2.2.1.length),(6,.sref 3006 16 0 i.2.1.length),(7,i6 i.1),(8,pt 1008),(9,pt 1009)] [(0,bd 80 (B7 t.2)),(1008,bd 33 (B0 u)),(1009,some (.box 41 (.st [.d (B0 u),i6 (w64 (101+t.1)),.st Zz7]))),(3005,some (G1 i.2.2.1)),(3006,some (G1 i.2.1))] hB) ?_;obtain⟨s,T,h⟩:=bindS h;refine sr (SQ (fa (cl [] (A5a s T)) tt)) ?_;obtain⟨I,U,h⟩:=bindS h;refine sdS (SQ (fa (cl [] (A68 (w64 (101+t.1)) u.fAddr.fV6 I U)) tt)) ?_;apply seq;obtain⟨C,W,h⟩:=bindS h;refine rg (SQ (fa (cl [(0,0)] (G2 t.2 2 C W)) tt)) ?_;apply A0;refine ghost (mp [] [(0,pt 0),(1,i6 a1),(5,.sref 3005 16 0 i.2.2.1.length),(6,.sref 3006 16 0 i.2.1.length),(7,i6 i.1),(9,pt 1009)] [(0,bd 80 (B7 C.2)),(1009,some (.box 41 (.st [.d (B0 u),i6 (w64 (101+t.1)),.d (.st [.int .i64 0,.list 2 (([B4.mk false ([w64 (101+t.1)]:List Int)]:List B4).map D2),E4 I,.int .i64 C.1,.int .i64 s.fPref,.int .i64 s.fOTC,.list 2 (s.fCommunities.map C5),.list 3 (s.fLarge.map E9),.list 3 (s.fOther.map B6)])]))),(3005,some (G1 i.2.2.1)),(3006,some (G1 i.2.1))] hB) ?_;apply seq;obtain⟨E,X,h⟩:=bindS h;refine rg (SQ (fa (cl [(0,0)] (G2 C.2 4 E X)) tt)) ?_;apply A0;refine ghost (mp [] [(0,pt 0),(1,i6 a1),(5,.sref 3005 16 0 i.2.2.1.length),(6,.sref 3006 16 0 i.2.1.length),(7,i6 i.1),(9,pt 1009),(45,i6 E.1)] [(0,bd 80 (B7 E.2)),(1009,some (.box 41 (.st [.d (B0 u),i6 (w64 (101+t.1)),.d (.st [.int .i64 0,.list 2 (([B4.mk false ([w64 (101+t.1)]:List Int)]:List B4).map D2),E4 I,.int .i64 C.1,.int .i64 s.fPref,.int .i64 s.fOTC,.list 2 (s.fCommunities.map C5),.list 3 (s.fLarge.map E9),.list 3 (s.fOther.map B6)])]))),(3005,some (G1 i.2.2.1)),(3006,some (G1 i.2.1))] hB) ?_;apply block;refine sr (SQ tt) ?_;refine gh [(0,_),(1,_),(5,_),(6,_),(7,_),(9,_),(45,_),(46,_)] [(0,some _),(1009,some _),(3005,some _),(3006,some _)] hB rfl rfl (by rfl) ?_;refine AWp.cut h (fun A:(List D5)×(List D5)=>([(0,pt 0),(1,i6 a1),(5,.sref 3005 16 0 A.2.length),(6,.sref 3006 16 0 A.1.length),(7,i6 i.1)]:EL)) (fun A:(List D5)×(List D5)=>([(0,bd 80 (B7 E.2)),(3005,some (G1 A.2)),(3006,some (G1 A.1))]:OL)) (fun A h G H J => ?_) (fun ae F h => ?_)
   ·apply D7;apply D7;apply A0;refine ghost J ?_;refine rg (SQ tt) ?_;obtain rfl:=oi h;exact⟨rfl,mp [] _ _ hB⟩
   ·apply AWp.cond rfl<;>intro M
    ·have h:=A5 M h;obtain⟨Y,h⟩:=B2 h;refine rg (SQ (fa Y tt)) ?_;exact F _ h _ _ (mp [(3005,1051)] _ _ hB)
    ·have h:=A6 M h;refine sr (SQ tt) ?_;apply AWp.cond rfl<;>intro N
     ·have h:=A5 N h;obtain⟨Z,h⟩:=B2 h;refine rg (SQ (fa Z tt)) ?_;exact F _ h _ _ (mp [(3006,1057)] _ _ hB)
     ·have h:=A6 N h;refine sr (SQ tt) ?_;apply AWp.cond rfl<;>intro O
      ·have h:=A5 O h;obtain⟨aa,h⟩:=B2 h;refine sr (SQ (fa aa tt)) ?_;refine sr (SQ tt) ?_;obtain⟨ab,h⟩:=B2 h;refine rg (SQ (fa ab tt)) ?_;exact F _ h _ _ (mp [(3005,1063),(3006,1069)] _ _ hB)
      ·have h:=A6 O h;apply AWp.skip;exact F _ h _ _ (mp [] _ _ hB)
  ·have h:=A6 K h;apply AWp.exit;apply D6;obtain rfl:=oi h;exact⟨nofun,rfl,mp [] _ _ hB⟩
 ·obtain⟨rfl,J⟩:=hR;apply B9;apply A0;refine ghost J ?_;apply seq;refine ghost (Mat.freezeP (n:=3005) (e:=41) (sz:=16) (es:=p.2.2.map G6) (Ts:=[(5,H7 p.2.2)]) (Bs:=[]) (by rfl) (TwT.cons (x:=(.sref 3005 16 0 p.2.2.length)) (by rfl) (FrzL.all (by first | rfl | (simp;done) | (simp;omega) | omega)) TwT.nil) TwB.nil) ?_
  refine ghost (Mat.freezeP (n:=3006) (e:=41) (sz:=16) (es:=p.2.1.map G6) (Ts:=[(6,H7 p.2.1)]) (Bs:=[]) (by rfl) (TwT.cons (x:=(.sref 3006 16 0 p.2.1.length)) (by rfl) (FrzL.all (by first | rfl | (simp;done) | (simp;omega) | omega)) TwT.nil) TwB.nil) ?_
  obtain⟨P,ac,h⟩:=bindS h;refine rg (SQ (fa (cl [] (B36 a1 p.2.2 p.2.1 P ac)) tt)) ?_;apply A0;apply ret;obtain rfl:=oi h;exact rt (kp [(4,_)] [(0,some _)] hB rfl rfl (by rfl)) [A4 P] (rT rN) rfl
def A5l (a0:D9):Option (Bool):=
 some ((((((decide (0≤a0.fBurst))&&(decide (a0.fBurst≤1048576)))&&(decide (0≤a0.fRate)))&&(decide (a0.fRate≤a0.fBurst)))&&(decide (0≤a0.fLevel)))&&(decide (a0.fLevel≤a0.fBurst)))
theorem B1u (a0:D9) (r:Bool) (h:A5l a0=some r):AC Tryz.prog 32 [.d (C1 a0)] [] (.d (.bool r)) []:=by
 refine ac2 Tryz.func32 rfl rfl fun B hB hN L => ?_;delta A5l at h;refine sr (SQ tt) ?_;refine sr (SQ tt) ?_;apply ret;obtain rfl:=oi h;exact rt (kp [(2,_)] [] hB rfl rfl (by rfl)) [bo ((((((decide (0≤a0.fBurst))&&(decide (a0.fBurst≤1048576)))&&(decide (0≤a0.fRate)))&&(decide (a0.fRate≤a0.fBurst)))&&(decide (0≤a0.fLevel)))&&(decide (a0.fLevel≤a0.fBurst)))] (rT rN) rfl
def X3 (a0:E5):Option (Bool):=
 jn (fun p:Bool=>
 some p) (fun i=>
 (if a0.fV6=true then
 i true
 else
 i ((a0.fHi==0)&&(decide (a0.fLo<4294967296)))))
theorem K6 (a0:E5) (r:Bool) (h:X3 a0=some r):AC Tryz.prog 90 [.d (E4 a0)] [] (.d (.bool r)) []:=by
 refine ac2 Tryz.func90 rfl rfl fun B hB hN L => ?_;delta X3 at h;refine sr (SQ tt) ?_;apply seq;refine AWp.cut h (fun p:Bool=>([(2,bo p)]:EL)) (fun p:Bool=>([]:OL)) (fun p h u A t => ?_) (fun C s h => ?_)
 ·apply A0;refine ghost t ?_;apply ret;obtain rfl:=oi h;exact rt (kp [(2,_)] [] hB rfl rfl (by rfl)) [bo p] (rT rN) rfl
 ·rcases bft a0.fV6 with i | i
  ·have h:=A5 i h;refine rg (SQ (fa i tt)) ?_;exact s _ h _ _ (mp [] _ _ hB)
  ·have h:=A6 i h;refine rg (SQ (fa i tt)) ?_;exact s _ h _ _ (mp [] _ _ hB)
def A5m (a0:E5):Option (Int):=
 (if a0.fV6=true then
 some 128
 else
 some 32)
theorem B1v (a0:E5) (r:Int) (h:A5m a0=some r):AC Tryz.prog 123 [.d (E4 a0)] [] (.d (.int .i64 r)) []:=by
 refine AC.of_code2 Tryz.func123 rfl rfl (Nat.le_of_ble_eq_true (by rfl)) fun B hB hN => ?_;delta A5m at h;refine sr (SQ tt) ?_;apply seq;refine sr (SQ tt) ?_;apply AWp.cond rfl<;>intro i
 ·have h:=A5 i h;refine sr (SQ tt) ?_;apply ret;apply B8;obtain rfl:=oi h;exact rt (kp [(2,_)] [] hB rfl rfl (by rfl)) [i6 128] (rT rN) rfl
 ·have h:=A6 i h;apply AWp.skip;apply A0;refine sr (SQ tt) ?_;apply ret;obtain rfl:=oi h;exact rt (kp [(2,_)] [] hB rfl rfl (by rfl)) [i6 32] (rT rN) rfl
def A2m (a0:E5) (i:Int×(List Int)):Option (List Int⊕(Int×(List Int))):=
 (if (decide (0≤i.1))=true then
 jn (fun p:Int=>
 chk (decide ((i.2++([IntKind.u8.wrap (shrI .u64 p (IntKind.u64.wrap (8*(IntKind.u64.wrap (Int.tmod i.1 8)))))]:List Int)).length≤LIM))<|
 some (.inr (w64 (i.1-1),(i.2++([IntKind.u8.wrap (shrI .u64 p (IntKind.u64.wrap (8*(IntKind.u64.wrap (Int.tmod i.1 8)))))]:List Int))))) (fun s=>
 (if (decide (8≤i.1))=true then
 s a0.fHi
 else
 s a0.fLo))
 else
 some (.inl i.2))
def Q0 (a0:E5):Option (List Int):=
 (X3 a0).bind fun p=>
 (if (!p)=true then
 some ([]:List Int)
 else
 jn (fun s:Int=>
 (loop (A2m a0) (w64 (s-1),([]:List Int))).bind fun t=>
 some t) (fun i=>
 (if a0.fV6=true then
 i 16
 else
 i 4)))
theorem A5b (a0:E5) (r:(List Int)) (h:Q0 a0=some r):AC Tryz.prog 96 [.d (E4 a0)] [] (.d (.list 1 (r.map (eI .u8)))) []:=by
 refine ac2 Tryz.func96 rfl rfl fun B hB hN L => ?_;delta Q0 at h;refine sr (SQ tt) ?_;apply seq;obtain⟨K,M,h⟩:=bindS h;refine sr (SQ (fa (cl [] (K6 a0 K M)) tt)) ?_;apply AWp.cond rfl<;>intro E
 ·have h:=A5 E h;refine sr (SQ tt) ?_;apply ret;apply B8;obtain rfl:=oi h;exact rt (Mat.trans (Mat.coeP (Ts:=[(2,.d (.list 1 (([]:List Int).map (eI .u8))))]) (Bs:=[]) (TwT.cons (x:=.nils) (by rfl) (Tw.leaf ⟨_,Co.nils 1,rfl⟩) TwT.nil) TwB.nil) (mp [] [(2,.d (.list 1 (([]:List Int).map (eI .u8))))] [] hB)) [.d (.list 1 (([]:List Int).map (eI .u8)))] (rT rN) rfl
 ·have h:=A6 E h;apply AWp.skip;apply A0;refine sr (SQ tt) ?_;apply seq;refine sr (SQ tt) ?_;refine gh [(1,_),(3,_),(11,_)] [(1001,some _)] hB rfl rfl (by rfl) ?_;refine AWp.cut h (fun A:Int=>([(1,pt 1001),(3,i6 A)]:EL)) (fun A:Int=>([(1001,bd 31 (E4 a0))]:OL)) (fun A h t u s => ?_) (fun P F h => ?_)
  ·apply A0;refine ghost s ?_;refine sr (SQ tt) ?_;apply seq;refine sr (SQ tt) ?_;apply block;obtain⟨i,N,h⟩:=bindS h;refine lg (A2m a0) (fun p:Int×(List Int)=>([(1,pt 1001),(4,.sref 3004 1 0 p.2.length),(5,i6 p.1)]:EL)) (fun p:Int×(List Int)=>([(1001,bd 31 (E4 a0)),(3004,some (.row 5 1 (p.2.map (eI .u8))))]:OL)) (fun(i:(List Int)) e t u=>e = .exit 0∧Mat B t u ([(4,.sref 3004 1 0 i.length)]:EL) ([(3004,some (.row 5 1 (i.map (eI .u8))))]:OL)) N (Mat.trans (Mat.beginP (n:=3004) (e:=5) (sz:=1) (Ts:=[(4,.sref 3004 1 0 0)]) (Bs:=[]) hB (by decide) (by rfl) (by decide) (TwT.cons (x:=.nils) (by rfl) (Tw.leaf ⟨rfl,rfl⟩) TwT.nil) TwB.nil) (mp [] _ _ hB)) (fun p y h => ?_) (fun e t u hR => ?_)
   ·unfold A2m at h;apply seq;refine sr (SQ tt) ?_;apply AWp.cond rfl<;>intro G
    ·have h:=A5 G h;apply AWp.skip;apply A0;apply seq;apply block;refine sr (SQ tt) ?_;apply seq;refine sr (SQ tt) ?_;refine gh [(1,_),(4,_),(5,_),(6,_),(21,_)] [(1001,some _),(3004,some _)] hB rfl rfl (by rfl) ?_;refine AWp.cut h (fun C:Int=>([(1,pt 1001),(4,.sref 3004 1 0 p.2.length),(5,i6 p.1),(6,.d (.int .u64 C))]:EL)) (fun C:Int=>([(1001,bd 31 (E4 a0)),(3004,some (.row 5 1 (p.2.map (eI .u8))))]:OL)) (fun C h t u s => ?_) (fun Q H h => ?_)
     ·apply A0;refine ghost s ?_;obtain⟨O,h⟩:=B2 h;refine rg (SQ (fa O tt)) ?_;apply D7;apply A0;refine rg (SQ tt) ?_;obtain rfl:=oi h;exact⟨rfl,mp [(3004,1033)] _ _ hB⟩
     ·apply AWp.cond rfl<;>intro I
      ·have h:=A5 I h;refine rg (SQ tt) ?_;exact H _ h _ _ (mp [] _ _ hB)
      ·have h:=A6 I h;apply AWp.skip;exact H _ h _ _ (mp [] _ _ hB)
    ·have h:=A6 G h;apply AWp.exit;apply D6;obtain rfl:=oi h;exact⟨nofun,rfl,mp [] _ _ hB⟩
   ·obtain⟨rfl,s⟩:=hR;apply B9;apply A0;refine ghost s ?_;refine sr (SQ tt) ?_;apply ret;obtain rfl:=oi h;exact rt (Mat.trans (Mat.freezeP (n:=3004) (e:=5) (sz:=1) (es:=i.map (eI .u8)) (Ts:=[(2,.d (.list 1 (i.map (eI .u8))))]) (Bs:=[]) (by rfl) (TwT.cons (x:=(.sref 3004 1 0 i.length)) (by rfl) (FrzL.all (by first | rfl | (simp;done) | (simp;omega) | omega)) TwT.nil) TwB.nil) (mp [] [(2,.d (.list 1 (i.map (eI .u8))))] [] hB)) [.d (.list 1 (i.map (eI .u8)))] (rT rN) rfl
  ·apply AWp.cond rfl<;>intro J
   ·have h:=A5 J h;refine rg (SQ tt) ?_;exact F _ h _ _ (mp [] _ _ hB)
   ·have h:=A6 J h;apply AWp.skip;exact F _ h _ _ (mp [] _ _ hB)
def A40 (a0:E5) (i:Int×(List Int)):Option (List Int⊕(Int×(List Int))):=
 (if (decide (0≤i.1))=true then
 jn (fun p:Int=>
 chk (decide ((i.2++([IntKind.u8.wrap (shrI .u64 p (IntKind.u64.wrap (8*(IntKind.u64.wrap (Int.tmod i.1 8)))))]:List Int)).length≤LIM))<|
 some (.inr (w64 (i.1-1),(i.2++([IntKind.u8.wrap (shrI .u64 p (IntKind.u64.wrap (8*(IntKind.u64.wrap (Int.tmod i.1 8)))))]:List Int))))) (fun s=>
 (if (decide (8≤i.1))=true then
 s a0.fHi
 else
 s a0.fLo))
 else
 some (.inl i.2))
def A41 (a0:E5):Option (List Int):=
 (X3 a0).bind fun p=>
 (if (!p)=true then
 some ([]:List Int)
 else
 jn (fun s:Int=>
 (loop (A40 a0) (w64 (s-1),([]:List Int))).bind fun t=>
 some t) (fun i=>
 (if a0.fV6=true then
 i 16
 else
 i 4)))
theorem B0b (a0:E5) (r:(List Int)) (h:A41 a0=some r):AC Tryz.prog 96 [.d (E4 a0)] [] (.sref 900000 1 0 r.length) [(900000,some (.row 5 1 (r.map (eI .u8))))]:=by
 refine ac2 Tryz.func96 rfl rfl fun B hB hN L => ?_;delta A41 at h;refine sr (SQ tt) ?_;apply seq;obtain⟨K,M,h⟩:=bindS h;refine sr (SQ (fa (cl [] (K6 a0 K M)) tt)) ?_;apply AWp.cond rfl<;>intro E
 ·have h:=A5 E h;refine sr (SQ tt) ?_;apply ret;apply B8;obtain rfl:=oi h;exact rt (Mat.trans (Mat.beginP (n:=900500) (e:=5) (sz:=1) (Ts:=[(2,.sref 900500 1 0 0)]) (Bs:=[]) hB (by decide) (by rfl) (by decide) (TwT.cons (x:=.nils) (by rfl) (Tw.leaf ⟨rfl,rfl⟩) TwT.nil) TwB.nil) (Mat.trans (Mat.lenP (Ts:=[(2,.sref 900500 1 0 (([]:List Int).length))]) (Bs:=[]) (TwT.cons (x:=(.sref 900500 1 0 0)) (by rfl) (Tw.leaf ⟨_,_,_,_,_,rfl,rfl,(by first | rfl | (simp;done) | (simp;omega) | omega)⟩) TwT.nil) TwB.nil) (mp [(900000,900500)] [(2,.sref 900000 1 0 (([]:List Int).length))] [(900000,some (.row 5 1 (([]:List Int).map (eI .u8))))] hB))) [.sref 900000 1 0 (([]:List Int).length)] (rT rN) rfl
 ·have h:=A6 E h;apply AWp.skip;apply A0;refine sr (SQ tt) ?_;apply seq;refine sr (SQ tt) ?_;refine gh [(1,_),(3,_),(11,_)] [(1001,some _)] hB rfl rfl (by rfl) ?_;refine AWp.cut h (fun A:Int=>([(1,pt 1001),(3,i6 A)]:EL)) (fun A:Int=>([(1001,bd 31 (E4 a0))]:OL)) (fun A h t u s => ?_) (fun P F h => ?_)
  ·apply A0;refine ghost s ?_;refine sr (SQ tt) ?_;apply seq;refine sr (SQ tt) ?_;apply block;obtain⟨p,N,h⟩:=bindS h;refine lg (A40 a0) (fun i:Int×(List Int)=>([(1,pt 1001),(4,.sref 3004 1 0 i.2.length),(5,i6 i.1)]:EL)) (fun i:Int×(List Int)=>([(1001,bd 31 (E4 a0)),(3004,some (.row 5 1 (i.2.map (eI .u8))))]:OL)) (fun(p:(List Int)) e t u=>e = .exit 0∧Mat B t u ([(4,.sref 3004 1 0 p.length)]:EL) ([(3004,some (.row 5 1 (p.map (eI .u8))))]:OL)) N (Mat.trans (Mat.beginP (n:=3004) (e:=5) (sz:=1) (Ts:=[(4,.sref 3004 1 0 0)]) (Bs:=[]) hB (by decide) (by rfl) (by decide) (TwT.cons (x:=.nils) (by rfl) (Tw.leaf ⟨rfl,rfl⟩) TwT.nil) TwB.nil) (mp [] _ _ hB)) (fun i y h => ?_) (fun e t u hR => ?_)
   ·unfold A40 at h;apply seq;refine sr (SQ tt) ?_;apply AWp.cond rfl<;>intro G
    ·have h:=A5 G h;apply AWp.skip;apply A0;apply seq;apply block;refine sr (SQ tt) ?_;apply seq;refine sr (SQ tt) ?_;refine gh [(1,_),(4,_),(5,_),(6,_),(21,_)] [(1001,some _),(3004,some _)] hB rfl rfl (by rfl) ?_;refine AWp.cut h (fun C:Int=>([(1,pt 1001),(4,.sref 3004 1 0 i.2.length),(5,i6 i.1),(6,.d (.int .u64 C))]:EL)) (fun C:Int=>([(1001,bd 31 (E4 a0)),(3004,some (.row 5 1 (i.2.map (eI .u8))))]:OL)) (fun C h t u s => ?_) (fun Q H h => ?_)
     ·apply A0;refine ghost s ?_;obtain⟨O,h⟩:=B2 h;refine rg (SQ (fa O tt)) ?_;apply D7;apply A0;refine rg (SQ tt) ?_;obtain rfl:=oi h;exact⟨rfl,mp [(3004,1033)] _ _ hB⟩
     ·apply AWp.cond rfl<;>intro I
      ·have h:=A5 I h;refine rg (SQ tt) ?_;exact H _ h _ _ (mp [] _ _ hB)
      ·have h:=A6 I h;apply AWp.skip;exact H _ h _ _ (mp [] _ _ hB)
    ·have h:=A6 G h;apply AWp.exit;apply D6;obtain rfl:=oi h;exact⟨nofun,rfl,mp [] _ _ hB⟩
   ·obtain⟨rfl,s⟩:=hR;apply B9;apply A0;refine ghost s ?_;refine sr (SQ tt) ?_;apply ret;obtain rfl:=oi h;exact rt (mp [(900000,3004)] [(2,.sref 900000 1 0 p.length)] [(900000,some (.row 5 1 (p.map (eI .u8))))] hB) [.sref 900000 1 0 p.length] (rT rN) rfl
  ·apply AWp.cond rfl<;>intro J
   ·have h:=A5 J h;refine rg (SQ tt) ?_;exact F _ h _ _ (mp [] _ _ hB)
   ·have h:=A6 J h;apply AWp.skip;exact F _ h _ _ (mp [] _ _ hB)
def S5 (a0:(List Int)) (i:Int×Int×Int):Option ((Int×Int)⊕(Int×Int×Int)):=
 (if (decide (i.1<(a0.length:Int)))=true then
 (idx a0 i.1).bind fun p=>
 some (.inr (w64 (i.1+1),bitI .or .u64 (shlI .u64 i.2.1 8) (shrI .u64 i.2.2 56),bitI .or .u64 (shlI .u64 i.2.2 8) (IntKind.u64.wrap p)))
 else
 some (.inl (i.2.1,i.2.2)))
def Y9 (a0:(List Int)):Option (E5×Int):=
 (if (((a0.length:Int) != 4)&&((a0.length:Int) != 16))=true then
 some (E5.mk false 0 0,1)
 else
 (loop (S5 a0) (0,0,0)).bind fun i=>
 some (E5.mk ((a0.length:Int)==16) i.1 i.2,0))
theorem A9d (a0:(List Int)) (r:E5×Int) (h:Y9 a0=some r):AC Tryz.prog 124 [.d (.list 1 (a0.map (eI .u8)))] [] (.tup [.d (E4 r.1),.d (.int .i64 r.2)]) []:=by
 refine ac2 Tryz.func124 rfl rfl fun B hB hN L => ?_;delta Y9 at h;refine sr (SQ tt) ?_;apply seq;refine sr (SQ tt) ?_;apply AWp.cond rfl<;>intro s
 ·have h:=A5 s h;refine sr (SQ tt) ?_;apply ret;apply B8;obtain rfl:=oi h;exact rt (kp [(2,_),(3,_)] [(1002,some _)] hB rfl rfl (by rfl)) [.d (.st Zz0),i6 1] (Res.cell (c:=(.d (.st Zz0))) (by rfl) (by rfl) tyS31 (by rfl) (by rfl) (by rfl) (rT rN)) rfl
 ·have h:=A6 s h;apply AWp.skip;apply A0;refine sr (SQ tt) ?_;apply seq;refine sr (SQ tt) ?_;apply block;obtain⟨i,C,h⟩:=bindS h;refine lg (S5 a0) (fun p:Int×Int×Int=>([(2,pt 1002),(4,pt 1004),(20,.d (.list 1 (a0.map (eI .u8)))),(21,i6 (a0.length:Int)),(22,i6 p.1)]:EL)) (fun p:Int×Int×Int=>([(1002,bd 31 (.st Zz0)),(1004,bd 31 (.st [.bool ((a0.length:Int)==16),.int .u64 p.2.1,.int .u64 p.2.2]))]:OL)) (fun(i:(Int×Int)) e t u=>e = .exit 0∧Mat B t u ([(2,pt 1002),(4,pt 1004)]:EL) ([(1002,bd 31 (.st Zz0)),(1004,bd 31 (.st [.bool ((a0.length:Int)==16),.int .u64 i.1,.int .u64 i.2]))]:OL)) C (mp [] _ _ hB) (fun p y h => ?_) (fun e t u hR => ?_)
  ·unfold S5 at h;refine sr (SQ tt) ?_;apply seq;apply AWp.cond rfl<;>intro A
   ·have h:=A5 A h;apply AWp.skip;apply A0;apply seq;apply block;obtain⟨_,E,h⟩:=bindS h;refine sr (SQ (fa E tt)) ?_;refine sr (SQ tt) ?_;refine rg (SQ tt) ?_;apply D7;apply A0;refine rg (SQ tt) ?_;obtain rfl:=oi h;exact⟨rfl,mp [] _ _ hB⟩
   ·have h:=A6 A h;apply AWp.exit;apply D6;obtain rfl:=oi h;exact⟨nofun,rfl,mp [] _ _ hB⟩
  ·obtain⟨rfl,F⟩:=hR;apply B9;apply A0;refine ghost F ?_;refine sr (SQ tt) ?_;apply ret;obtain rfl:=oi h;exact rt (kp [(2,_),(3,_)] [(1002,some _)] hB rfl rfl (by rfl)) [.d (.st [.bool ((a0.length:Int)==16),.int .u64 i.1,.int .u64 i.2]),i6 0] (Res.cell (c:=(.d (.st [.bool ((a0.length:Int)==16),.int .u64 i.1,.int .u64 i.2]))) (by rfl) (by rfl) tyS31 (by rfl) (by rfl) (by rfl) (rT rN)) rfl
end
end Go.Proofs.YtplbaenjbihekaaGreatDoor
