/- Printed by gen.py: the Go functions as plain functions, and that the code does what they say. -/
import Derived.Test.YtplbaenjbihekaaGreatDoorChecked
import Derived.Test.YtplbaenjbihekaaGreatDoorVcYB
import Derived.Test.YtplbaenjbihekaaGreatDoorVcZ
import Derived.Test.YtplbaenjbihekaaGreatDoorVcGC
import Derived.KernelRfl
import Derived.Test.YtplbaenjbihekaaGreatDoorVcMD
import Derived.Test.YtplbaenjbihekaaGreatDoorVcMQ
import Derived.Test.YtplbaenjbihekaaGreatDoorVcSG
import Derived.Test.YtplbaenjbihekaaGreatDoorFnsC
import Derived.Test.YtplbaenjbihekaaGreatDoorExt
import Derived.Test.YtplbaenjbihekaaGreatDoorVcPm
import Derived.Test.YtplbaenjbihekaaGreatDoorVcRg
import Derived.Test.YtplbaenjbihekaaGreatDoorVcSt
import Derived.Test.YtplbaenjbihekaaGreatDoorVcMR
namespace Go.Proofs.YtplbaenjbihekaaGreatDoor
open Go Go.Vc
open Tryz
open Go.Vc.OpJ (assign alloc lss pickT pickF extract lenD indexD loadD eqlI gtr callVal leq geq loadR nilP indexS buildSlice lenS fieldD neqI pickAnd pickOr)
open Go.Vc.AWp (seq ghost ret block)
set_option maxHeartbeats 4000000
set_option maxRecDepth 100000
noncomputable section
def P3 (a0:(List F5)) (i:Int):Option ((Unit⊕Unit)⊕Int):=
 (if (decide (i<(a0.length:Int)))=true then
 (idx a0 i).bind fun s=>
 jn (fun t:Bool=>
 (if t=true then
 some (.inl (.inl ()))
 else
 some (.inr (w64 (i+1))))) (fun p=>
 (A14 s).bind fun u=>
 (if (!u)=true then
 p true
 else
 (if (decide (0<i))=true then
 (idx a0 (w64 (i-1))).bind fun A=>
 (W6 A s).bind fun C=>
 p (decide (0≤C))
 else
 p false)))
 else
 some (.inl (.inr ())))
def T3 (a0:(List F5)):Option (Bool):=
 (loop (P3 a0) 0).bind fun i=>match i with
 | (.inl _)=>
  some false
 | (.inr _)=>
  some (decide ((a0.length:Int)≤64))
theorem A6j (a0:(List F5)) (r:Bool) (h:T3 a0=some r):AC Tryz.prog 172 [.d (.list 3 (a0.map E9)),.func 173 [],.func 174 []] [] (.d (.bool r)) []:=by
 refine ac2 Tryz.func172 rfl rfl fun B hB hN L => ?_;delta T3 at h;refine sr (SQ tt) ?_;apply seq;refine sr (SQ tt) ?_;apply block;obtain⟨K,M,h⟩:=bindS h;refine lg (P3 a0) (fun p:Int=>([(0,E7 a0),(1,.func 173 []),(2,.func 174 []),(9,E7 a0),(10,i6 (a0.length:Int)),(11,i6 p)]:EL)) (fun p:Int=>([]:OL)) (fun(x:(Unit)⊕Unit) e u A=>match x with | (.inl _p)=>e = .ret∧Mat B u A ([(6,bo false)]:EL) ([]:OL) | (.inr _p)=>e = .exit 0∧Mat B u A ([(0,E7 a0)]:EL) ([]:OL)) M (mp [] _ _ hB) (fun p y h => ?_) (fun e u A hR => ?_)
 ·unfold P3 at h;refine sr (SQ tt) ?_;apply seq;apply AWp.cond rfl<;>intro I
  ·have h:=A4 I h;apply AWp.skip;apply A0;apply seq;apply block;obtain⟨C,N,h⟩:=bindS h;refine sr (SQ (fa N tt)) ?_;apply seq;refine AWp.cut h (fun F:Bool=>([(0,E7 a0),(1,.func 173 []),(2,.func 174 []),(9,E7 a0),(10,i6 (a0.length:Int)),(11,i6 p),(34,bo F)]:EL)) (fun F:Bool=>([]:OL)) (fun F h u A s => ?_) (fun S G h => ?_)
   ·apply A0;refine ghost s ?_;apply AWp.cond rfl<;>intro J
    ·have h:=A4 J h;refine sr (SQ tt) ?_;apply ret;apply E0;apply B6;obtain rfl:=oi h;exact⟨nofun,rfl,mp [] _ _ hB⟩
    ·have h:=A5 J h;apply AWp.skip;apply D9;apply A0;refine rg (SQ tt) ?_;obtain rfl:=oi h;exact⟨rfl,mp [] _ _ hB⟩
   ·obtain⟨E,H,h⟩:=bindS h;rcases bft (!E) with i | i
    ·have h:=A4 i h;refine drS (SQ (fa (cl [] (W5 C E H)) (fa i tt))) ?_;exact G _ h _ _ (mp [] _ _ hB)
    ·have h:=A5 i h;rcases bft (decide (0<p)) with t | t
     ·have h:=A4 t h;obtain⟨O,P,h⟩:=bindS h;obtain⟨Q,R,h⟩:=bindS h;refine drS (SQ (fa (cl [] (W5 C E H)) (fa i (fa t (fa P (fa (cl [] (A53 O C Q R)) tt)))))) ?_;exact G _ h _ _ (mp [] _ _ hB)
     ·have h:=A5 t h;refine drS (SQ (fa (cl [] (W5 C E H)) (fa i (fa t tt)))) ?_;exact G _ h _ _ (mp [] _ _ hB)
  ·have h:=A5 I h;apply AWp.exit;apply D7;obtain rfl:=oi h;exact⟨nofun,rfl,mp [] _ _ hB⟩
 ·rcases K with _ | _
  ·obtain⟨rfl,s⟩:=hR;apply E0;apply B6;obtain rfl:=oi h;exact rt (Mat.trans s (mp [] [(6,bo false)] [] hB)) [bo false] (rT rN) rfl
  ·obtain⟨rfl,s⟩:=hR;apply C0;apply A0;refine ghost s ?_;refine sr (SQ tt) ?_;apply ret;obtain rfl:=oi h;exact rt (kp [(6,_)] [] hB rfl rfl (by rfl)) [bo (decide ((a0.length:Int)≤64))] (rT rN) rfl
def K5 (a0:(List F5)):Option (Bool):=
 (T3 a0).bind fun i=>
 some i
theorem N9 (a0:(List F5)) (r:Bool) (h:K5 a0=some r):AC Tryz.prog 163 [.d (.list 3 (a0.map E9))] [] (.d (.bool r)) []:=by
 refine AC.of_code2 Tryz.func163 rfl rfl (Nat.le_of_ble_eq_true (by rfl)) fun B hB hN => ?_;delta K5 at h;refine sr (SQ tt) ?_;obtain⟨i,p,h⟩:=bindS h;refine sr (SQ (fa (cl [] (A6j a0 i p)) tt)) ?_;apply ret;obtain rfl:=oi h;exact rt (kp [(2,_)] [] hB rfl rfl (by rfl)) [bo i] (rT rN) rfl
def A2q (a0:Int):Option (Bool):=
 some ((((ilk gv0 a0)==0)&&(a0 != 14))&&(a0 != 15))
theorem S0 (a0:Int) (r:Bool) (h:A2q a0=some r):AC Tryz.prog 175 [.d (.int .i64 a0)] Zz10 (.d (.bool r)) Zz4:=by
 refine AC.of_code2 Tryz.func175 rfl rfl (Nat.le_of_ble_eq_true (by rfl)) fun B hB hN => ?_;delta A2q at h;refine sr (SQ tt) ?_;apply sr (cg (OpJ.loadGD (nm:=500) (.imap gv0) tyS210 (by rfl) (by rfl) (by simp) (ltN hN rfl)) rfl (c (mv hN (q 0)) rfl (cg (OpJ.ilook tyU210 underlying3 keyEq3 tyZD3 (ltN hN rfl) (q 3) (q 4)) rfl (c (eqlI (ltN hN rfl) (q 5) (ii 0)) rfl (c (mv hN (q 6)) rfl (c (oq hN 7 (mv hN (q 0)) (OptL.keep (by rfl) OptL.nil) (GuardV.plain _)) rfl (c (oq hN 7 (neqI (ltN hN rfl) (q 8) (ii 14)) (OptL.opt OptL.nil) (GuardV.plain _)) rfl (c (pickAnd rfl (ltN hN rfl) (q 7) (q 9)) rfl (c (mv hN (q 10)) rfl (c (oq hN 11 (mv hN (q 0)) (OptL.keep (by rfl) OptL.nil) (GuardV.plain _)) rfl (c (oq hN 11 (neqI (ltN hN rfl) (q 12) (ii 15)) (OptL.opt OptL.nil) (GuardV.plain _)) rfl (c (pickAnd rfl (ltN hN rfl) (q 11) (q 13)) rfl (c (assign (ltN hN rfl) (q 14)) rfl cn)))))))))))));apply ret;obtain rfl:=oi h;exact rt (kp [(2,_)] [(500,some _)] hB rfl rfl (by rfl)) [bo ((((ilk gv0 a0)==0)&&(a0 != 14))&&(a0 != 15))] (rT rN) rfl
def T4 (a0:(List A3)) (i:Int):Option ((Unit⊕Unit)⊕Int):=
 (if (decide (i<(a0.length:Int)))=true then
 (idx a0 i).bind fun p=>
 jn (fun t:Bool=>
 (if t=true then
 some (.inl (.inl ()))
 else
 some (.inr (w64 (i+1))))) (fun s=>
 (A2q p.fType).bind fun u=>
 (if (!u)=true then
 s true
 else
 (H4 p.fType 1 255).bind fun A=>
 (if (((!A) || (p.fFlags != 224)) || (decide (255<(p.fData.length:Int))))=true then
 s true
 else
 (if (decide (0<i))=true then
 (idx a0 (w64 (i-1))).bind fun C=>
 s (decide (p.fType≤C.fType))
 else
 s false))))
 else
 some (.inl (.inr ())))
def P5 (a0:(List A3)):Option (Bool):=
 (loop (T4 a0) 0).bind fun i=>match i with
 | (.inl _)=>
  some false
 | (.inr _)=>
  some (decide ((a0.length:Int)≤8))
theorem A4d (a0:(List A3)) (r:Bool) (h:P5 a0=some r):AC Tryz.prog 164 [.d (.list 3 (a0.map B4))] Zz10 (.d (.bool r)) Zz4:=by
 refine ac2 Tryz.func164 rfl rfl fun B hB hN L => ?_;delta P5 at h;refine sr (SQ tt) ?_;apply seq;refine sr (SQ tt) ?_;apply block;obtain⟨O,P,h⟩:=bindS h;refine lg (T4 a0) (fun t:Int=>([(0,C2 a0),(5,C2 a0),(6,i6 (a0.length:Int)),(7,i6 t)]:EL)) (fun t:Int=>(Zz4:OL)) (fun(x:(Unit)⊕Unit) e E F=>match x with | (.inl _p)=>e = .ret∧Mat B E F ([(2,bo false)]:EL) (Zz4:OL) | (.inr _p)=>e = .exit 0∧Mat B E F ([(0,C2 a0)]:EL) (Zz4:OL)) P (mp [] _ _ hB) (fun t y h => ?_) (fun e E F hR => ?_)
 ·unfold T4 at h;refine sr (SQ tt) ?_;apply seq;apply AWp.cond rfl<;>intro M
  ·have h:=A4 M h;apply AWp.skip;apply A0;apply seq;apply block;obtain⟨i,Q,h⟩:=bindS h;refine sr (SQ (fa Q tt)) ?_;apply seq;refine AWp.cut h (fun J:Bool=>([(0,C2 a0),(5,C2 a0),(6,i6 (a0.length:Int)),(7,i6 t),(47,bo J)]:EL)) (fun J:Bool=>(Zz4:OL)) (fun J h E F u => ?_) (fun S G h => ?_)
   ·apply A0;refine ghost u ?_;apply AWp.cond rfl<;>intro N
    ·have h:=A4 N h;refine sr (SQ tt) ?_;apply ret;apply E0;apply B6;obtain rfl:=oi h;exact⟨nofun,rfl,mp [] _ _ hB⟩
    ·have h:=A5 N h;apply AWp.skip;apply D9;apply A0;refine rg (SQ tt) ?_;obtain rfl:=oi h;exact⟨rfl,mp [] _ _ hB⟩
   ·obtain⟨A,H,h⟩:=bindS h;rcases bft (!A) with p | p
    ·have h:=A4 p h;refine drS (SQ (fa (cl [(500,500)] (S0 i.fType A H)) (fa p tt))) ?_;exact G _ h _ _ (mp [] _ _ hB)
    ·have h:=A5 p h;obtain⟨I,K,h⟩:=bindS h;rcases bft (((!I) || (i.fFlags != 224)) || (decide (255<(i.fData.length:Int)))) with s | s
     ·have h:=A4 s h;refine drS (SQ (fa (cl [(500,500)] (S0 i.fType A H)) (fa p (fa (cl [] (C3 i.fType 1 255 I K)) (fa s tt))))) ?_;exact G _ h _ _ (mp [] _ _ hB)
     ·have h:=A5 s h;rcases bft (decide (0<t)) with C | C
      ·have h:=A4 C h;obtain⟨_,R,h⟩:=bindS h;refine drS (SQ (fa (cl [(500,500)] (S0 i.fType A H)) (fa p (fa (cl [] (C3 i.fType 1 255 I K)) (fa s (fa C (fa R tt))))))) ?_;exact G _ h _ _ (mp [] _ _ hB)
      ·have h:=A5 C h;refine drS (SQ (fa (cl [(500,500)] (S0 i.fType A H)) (fa p (fa (cl [] (C3 i.fType 1 255 I K)) (fa s (fa C tt)))))) ?_;exact G _ h _ _ (mp [] _ _ hB)
  ·have h:=A5 M h;apply AWp.exit;apply D7;obtain rfl:=oi h;exact⟨nofun,rfl,mp [] _ _ hB⟩
 ·rcases O with _ | _
  ·obtain⟨rfl,u⟩:=hR;apply E0;apply B6;obtain rfl:=oi h;exact rt (Mat.trans u (mp [] [(2,bo false)] Zz4 hB)) [bo false] (rT rN) rfl
  ·obtain⟨rfl,u⟩:=hR;apply C0;apply A0;refine ghost u ?_;refine sr (SQ tt) ?_;apply ret;obtain rfl:=oi h;exact rt (kp [(2,_)] [(500,some _)] hB rfl rfl (by rfl)) [bo (decide ((a0.length:Int)≤8))] (rT rN) rfl
def K2 (a0:D3):Option (Bool):=
 jn (fun p:Bool=>
 some p) (fun i=>
 (H4 a0.fOrigin (-1) 2).bind fun s=>
 (if s=true then
 (W4 a0.fPath).bind fun t=>
 (if t=true then
 (V9 a0.fNext).bind fun u=>
 (if u=true then
 (H4 a0.fMED (-1) 4294967295).bind fun A=>
 (if A=true then
 (H4 a0.fPref (-1) 4294967295).bind fun C=>
 (if C=true then
 (if (a0.fOTC==(-1))=true then
 (R1 a0.fCommunities).bind fun E=>
 (if E=true then
 (K5 a0.fLarge).bind fun F=>
 (if F=true then
 (P5 a0.fOther).bind fun G=>
 i G
 else
 i false)
 else
 i false)
 else
 (A18 a0.fOTC).bind fun H=>
 (if H=true then
 (R1 a0.fCommunities).bind fun I=>
 (if I=true then
 (K5 a0.fLarge).bind fun J=>
 (if J=true then
 (P5 a0.fOther).bind fun K=>
 i K
 else
 i false)
 else
 i false)
 else
 i false))
 else
 i false)
 else
 i false)
 else
 i false)
 else
 i false)
 else
 i false))
theorem A1p (a0:D3) (r:Bool) (h:K2 a0=some r):AC Tryz.prog 154 [.d (C7 a0)] Zz10 (.d (.bool r)) Zz4:=by
 refine ac2 Tryz.func154 rfl rfl fun B hB hN L => ?_;delta K2 at h;refine sr (SQ tt) ?_;apply seq;refine AWp.cut h (fun W:Bool=>([(2,bo W)]:EL)) (fun W:Bool=>(Zz4:OL)) (fun W h E' O' ah => ?_) (fun ao u h => ?_)
 ·apply A0;refine ghost ah ?_;apply ret;obtain rfl:=oi h;exact rt (kp [(2,_)] [(500,some _)] hB rfl rfl (by rfl)) [bo W] (rT rN) rfl
 ·obtain⟨s,A,h⟩:=bindS h;rcases bft s with i | i
  ·have h:=A4 i h;obtain⟨C,F,h⟩:=bindS h;rcases bft C with p | p
   ·have h:=A4 p h;obtain⟨G,I,h⟩:=bindS h;rcases bft G with t | t
    ·have h:=A4 t h;obtain⟨J,M,h⟩:=bindS h;rcases bft J with E | E
     ·have h:=A4 E h;obtain⟨N,O,h⟩:=bindS h;rcases bft N with H | H
      ·have h:=A4 H h;rcases bft (a0.fOTC==(-1)) with K | K
       ·have h:=A4 K h;obtain⟨X,aa,h⟩:=bindS h;rcases bft X with Q | Q
        ·have h:=A4 Q h;obtain⟨ab,af,h⟩:=bindS h;rcases bft ab with S | S
         ·have h:=A4 S h;obtain⟨ai,aj,h⟩:=bindS h;refine rg (SQ (fa (cl [] (C3 a0.fOrigin (-1) 2 s A)) (fa i (fa (cl [] (H9 a0.fPath C F)) (fa p (fa (cl [] (H5 a0.fNext G I)) (fa t (fa (cl [] (C3 a0.fMED (-1) 4294967295 J M)) (fa E (fa (cl [] (C3 a0.fPref (-1) 4294967295 N O)) (fa H (fa K (fa (cl [] (M5 a0.fCommunities X aa)) (fa Q (fa (cl [] (N9 a0.fLarge ab af)) (fa S (fa (cl [(500,500)] (A4d a0.fOther ai aj)) tt))))))))))))))))) ?_;exact u _ h _ _ (mp [] _ _ hB)
         ·have h:=A5 S h;refine rg (SQ (fa (cl [] (C3 a0.fOrigin (-1) 2 s A)) (fa i (fa (cl [] (H9 a0.fPath C F)) (fa p (fa (cl [] (H5 a0.fNext G I)) (fa t (fa (cl [] (C3 a0.fMED (-1) 4294967295 J M)) (fa E (fa (cl [] (C3 a0.fPref (-1) 4294967295 N O)) (fa H (fa K (fa (cl [] (M5 a0.fCommunities X aa)) (fa Q (fa (cl [] (N9 a0.fLarge ab af)) (fa S tt)))))))))))))))) ?_;exact u _ h _ _ (mp [] _ _ hB)
        ·have h:=A5 Q h;refine rg (SQ (fa (cl [] (C3 a0.fOrigin (-1) 2 s A)) (fa i (fa (cl [] (H9 a0.fPath C F)) (fa p (fa (cl [] (H5 a0.fNext G I)) (fa t (fa (cl [] (C3 a0.fMED (-1) 4294967295 J M)) (fa E (fa (cl [] (C3 a0.fPref (-1) 4294967295 N O)) (fa H (fa K (fa (cl [] (M5 a0.fCommunities X aa)) (fa Q tt)))))))))))))) ?_;exact u _ h _ _ (mp [] _ _ hB)
       ·have h:=A5 K h;obtain⟨T,Y,h⟩:=bindS h;rcases bft T with P | P
        ·have h:=A4 P h;obtain⟨Z,ac,h⟩:=bindS h;rcases bft Z with R | R
         ·have h:=A4 R h;obtain⟨ae,ag,h⟩:=bindS h;rcases bft ae with U | U
          ·have h:=A4 U h;obtain⟨ak,al,h⟩:=bindS h;refine rg (SQ (fa (cl [] (C3 a0.fOrigin (-1) 2 s A)) (fa i (fa (cl [] (H9 a0.fPath C F)) (fa p (fa (cl [] (H5 a0.fNext G I)) (fa t (fa (cl [] (C3 a0.fMED (-1) 4294967295 J M)) (fa E (fa (cl [] (C3 a0.fPref (-1) 4294967295 N O)) (fa H (fa K (fa (cl [] (M4 a0.fOTC T Y)) (fa P (fa (cl [] (M5 a0.fCommunities Z ac)) (fa R (fa (cl [] (N9 a0.fLarge ae ag)) (fa U (fa (cl [(500,500)] (A4d a0.fOther ak al)) tt))))))))))))))))))) ?_;exact u _ h _ _ (mp [] _ _ hB)
          ·have h:=A5 U h;refine rg (SQ (fa (cl [] (C3 a0.fOrigin (-1) 2 s A)) (fa i (fa (cl [] (H9 a0.fPath C F)) (fa p (fa (cl [] (H5 a0.fNext G I)) (fa t (fa (cl [] (C3 a0.fMED (-1) 4294967295 J M)) (fa E (fa (cl [] (C3 a0.fPref (-1) 4294967295 N O)) (fa H (fa K (fa (cl [] (M4 a0.fOTC T Y)) (fa P (fa (cl [] (M5 a0.fCommunities Z ac)) (fa R (fa (cl [] (N9 a0.fLarge ae ag)) (fa U tt)))))))))))))))))) ?_;exact u _ h _ _ (mp [] _ _ hB)
         ·have h:=A5 R h;refine rg (SQ (fa (cl [] (C3 a0.fOrigin (-1) 2 s A)) (fa i (fa (cl [] (H9 a0.fPath C F)) (fa p (fa (cl [] (H5 a0.fNext G I)) (fa t (fa (cl [] (C3 a0.fMED (-1) 4294967295 J M)) (fa E (fa (cl [] (C3 a0.fPref (-1) 4294967295 N O)) (fa H (fa K (fa (cl [] (M4 a0.fOTC T Y)) (fa P (fa (cl [] (M5 a0.fCommunities Z ac)) (fa R tt)))))))))))))))) ?_;exact u _ h _ _ (mp [] _ _ hB)
        ·have h:=A5 P h;refine rg (SQ (fa (cl [] (C3 a0.fOrigin (-1) 2 s A)) (fa i (fa (cl [] (H9 a0.fPath C F)) (fa p (fa (cl [] (H5 a0.fNext G I)) (fa t (fa (cl [] (C3 a0.fMED (-1) 4294967295 J M)) (fa E (fa (cl [] (C3 a0.fPref (-1) 4294967295 N O)) (fa H (fa K (fa (cl [] (M4 a0.fOTC T Y)) (fa P tt)))))))))))))) ?_;exact u _ h _ _ (mp [] _ _ hB)
      ·have h:=A5 H h;refine rg (SQ (fa (cl [] (C3 a0.fOrigin (-1) 2 s A)) (fa i (fa (cl [] (H9 a0.fPath C F)) (fa p (fa (cl [] (H5 a0.fNext G I)) (fa t (fa (cl [] (C3 a0.fMED (-1) 4294967295 J M)) (fa E (fa (cl [] (C3 a0.fPref (-1) 4294967295 N O)) (fa H tt))))))))))) ?_;exact u _ h _ _ (mp [] _ _ hB)
     ·have h:=A5 E h;refine rg (SQ (fa (cl [] (C3 a0.fOrigin (-1) 2 s A)) (fa i (fa (cl [] (H9 a0.fPath C F)) (fa p (fa (cl [] (H5 a0.fNext G I)) (fa t (fa (cl [] (C3 a0.fMED (-1) 4294967295 J M)) (fa E tt))))))))) ?_;exact u _ h _ _ (mp [] _ _ hB)
    ·have h:=A5 t h;refine rg (SQ (fa (cl [] (C3 a0.fOrigin (-1) 2 s A)) (fa i (fa (cl [] (H9 a0.fPath C F)) (fa p (fa (cl [] (H5 a0.fNext G I)) (fa t tt))))))) ?_;exact u _ h _ _ (mp [] _ _ hB)
   ·have h:=A5 p h;refine rg (SQ (fa (cl [] (C3 a0.fOrigin (-1) 2 s A)) (fa i (fa (cl [] (H9 a0.fPath C F)) (fa p tt))))) ?_;exact u _ h _ _ (mp [] _ _ hB)
  ·have h:=A5 i h;refine rg (SQ (fa (cl [] (C3 a0.fOrigin (-1) 2 s A)) (fa i tt))) ?_;exact u _ h _ _ (mp [] _ _ hB)
def A5n (a0:A1) (a1:A7):Option (Bool):=
 some (a0.fAddr.fV6 != a1.fAttrs.fNext.fV6)
theorem A9n (a0:A1) (a1:A7) (r:Bool) (h:A5n a0 a1=some r):AC Tryz.prog 153 [.d (B0 a0),pt 0] [(0,.box 71 (.d (E5 a1)))] (.d (.bool r)) [(0,bd 71 (E5 a1))]:=by
 refine AC.of_code2 Tryz.func153 rfl rfl (Nat.le_of_ble_eq_true (by rfl)) fun B hB hN => ?_;delta A5n at h;refine sr (SQ tt) ?_;refine sr (SQ tt) ?_;apply ret;obtain rfl:=oi h;exact rt (kp [(3,_)] [(0,some _)] hB rfl rfl (by rfl)) [bo (a0.fAddr.fV6 != a1.fAttrs.fNext.fV6)] (rT rN) rfl
def L5 (a0:(List A1)) (a1:A7) (i:Int):Option ((Int⊕Unit)⊕Int):=
 (if (decide (i<(a0.length:Int)))=true then
 (idx a0 i).bind fun p=>
 (A5n p a1).bind fun s=>
 (if s=true then
 some (.inl (.inl i))
 else
 some (.inr (w64 (i+1))))
 else
 some (.inl (.inr ())))
def W7 (a0:(List A1)) (a1:A7):Option (Int):=
 (loop (L5 a0 a1) 0).bind fun i=>match i with
 | (.inl p)=>
  some p
 | (.inr _)=>
  some (-1)
theorem A6x (a0:(List A1)) (a1:A7) (r:Int) (h:W7 a0 a1=some r):AC Tryz.prog 151 [.d (.list 4 (a0.map B0)),.func 153 [pt 0]] [(0,.box 71 (.d (E5 a1)))] (.d (.int .i64 r)) [(0,bd 71 (E5 a1))]:=by
 refine AC.of_code2 Tryz.func151 rfl rfl (Nat.le_of_ble_eq_true (by rfl)) fun B hB hN => ?_;delta W7 at h;refine sr (SQ tt) ?_;apply seq;refine sr (SQ tt) ?_;apply block;obtain⟨F,G,h⟩:=bindS h;refine lg (L5 a0 a1) (fun i:Int=>([(0,F7 a0),(1,.func 153 [pt 0]),(7,i6 (a0.length:Int)),(8,i6 i)]:EL)) (fun i:Int=>([(0,bd 71 (E5 a1))]:OL)) (fun(x:(Int)⊕Unit) e s t=>match x with | (.inl p)=>e = .ret∧Mat B s t ([(4,i6 p)]:EL) ([(0,bd 71 (E5 a1))]:OL) | (.inr _p)=>e = .exit 0∧Mat B s t ([]:EL) ([(0,bd 71 (E5 a1))]:OL)) G (mp [] _ _ hB) (fun i y h => ?_) (fun e s t hR => ?_)
 ·unfold L5 at h;refine sr (SQ tt) ?_;apply seq;apply AWp.cond rfl<;>intro A
  ·have h:=A4 A h;apply AWp.skip;apply A0;apply seq;apply block;refine sr (SQ tt) ?_;apply seq;obtain⟨H,I,h⟩:=bindS h;obtain⟨C,J,h⟩:=bindS h;refine rg (SQ (fa I (fa (cl [(0,0)] (A9n H a1 C J)) tt))) ?_;apply A0;refine ghost (mp [] [(0,F7 a0),(1,.func 153 [pt 0]),(5,i6 i),(7,i6 (a0.length:Int)),(8,i6 i),(16,bo C)] [(0,bd 71 (E5 a1))] hB) ?_;apply AWp.cond rfl<;>intro E
   ·have h:=A4 E h;refine sr (SQ tt) ?_;apply ret;apply E0;apply B6;obtain rfl:=oi h;exact⟨nofun,rfl,mp [] _ _ hB⟩
   ·have h:=A5 E h;apply AWp.skip;apply D9;apply A0;refine rg (SQ tt) ?_;obtain rfl:=oi h;exact⟨rfl,mp [] _ _ hB⟩
  ·have h:=A5 A h;apply AWp.exit;apply D7;obtain rfl:=oi h;exact⟨nofun,rfl,mp [] _ _ hB⟩
 ·rcases F with p | _
  ·obtain⟨rfl,u⟩:=hR;apply E0;apply B6;obtain rfl:=oi h;exact rt (Mat.trans u (mp [] [(4,i6 p)] [(0,bd 71 (E5 a1))] hB)) [i6 p] (rT rN) rfl
  ·obtain⟨rfl,u⟩:=hR;apply C0;apply A0;refine ghost u ?_;refine sr (SQ tt) ?_;apply ret;obtain rfl:=oi h;exact rt (kp [(4,_)] [(0,some _)] hB rfl rfl (by rfl)) [i6 (-1)] (rT rN) rfl
def L6 (a0:(List A1)) (a1:A7):Option (Bool):=
 (W7 a0 a1).bind fun i=>
 some (decide (0≤i))
theorem A5o (a0:(List A1)) (a1:A7) (r:Bool) (h:L6 a0 a1=some r):AC Tryz.prog 145 [.d (.list 4 (a0.map B0)),.func 153 [pt 0]] [(0,.box 71 (.d (E5 a1)))] (.d (.bool r)) [(0,bd 71 (E5 a1))]:=by
 refine AC.of_code2 Tryz.func145 rfl rfl (Nat.le_of_ble_eq_true (by rfl)) fun B hB hN => ?_;delta L6 at h;refine sr (SQ tt) ?_;apply seq;obtain⟨i,p,h⟩:=bindS h;refine rg (SQ (fa (cl [(0,0)] (A6x a0 a1 i p)) tt)) ?_;apply A0;refine ghost (mp [] [(4,bo (decide (0≤i)))] [(0,bd 71 (E5 a1))] hB) ?_;apply ret;obtain rfl:=oi h;exact rt (kp [(4,_)] [(0,some _)] hB rfl rfl (by rfl)) [bo (decide (0≤i))] (rT rN) rfl
def A0m (a0:A7):Option (Bool):=
 (if ((a0.fAnnounce.length:Int)==0)=true then
 (A2n a0.fAttrs).bind fun p=>
 some p
 else
 jn (fun s:Bool=>
 some s) (fun i=>
 (K2 a0.fAttrs).bind fun t=>
 (if ((t&&(a0.fAttrs.fOrigin != (-1)))&&(!((a0.fAttrs.fNext.fV6==false)&&((a0.fAttrs.fNext.fHi==0)&&((a0.fAttrs.fNext.fLo==0)&&true)))))=true then
 (L6 a0.fAnnounce a0).bind fun u=>
 i (!u)
 else
 i false)))
theorem B27 (a0:A7) (r:Bool) (h:A0m a0=some r):AC Tryz.prog 146 [.d (E5 a0)] Zz10 (.d (.bool r)) Zz4:=by
 refine ac2 Tryz.func146 rfl rfl fun B hB hN L => ?_;delta A0m at h;refine sr (SQ tt) ?_;apply seq;refine sr (SQ tt) ?_;apply AWp.cond rfl<;>intro t
 ·have h:=A4 t h;obtain⟨u,E,h⟩:=bindS h;refine sr (SQ (fa (cl [] (B0x a0.fAttrs u E)) tt)) ?_;apply ret;apply B6;obtain rfl:=oi h;exact rt (kp [(2,_)] [(500,some _)] hB rfl rfl (by rfl)) [bo u] (rT rN) rfl
 ·have h:=A5 t h;apply AWp.skip;apply A0;apply sr (cg (OpJ.makeF (OpdL.cons (q 1) OpdL.nil) rfl rfl (L rfl)) rfl (c (assign (L rfl) (q 11)) rfl cn));apply seq;refine AWp.cut h (fun p:Bool=>([(2,bo p)]:EL)) (fun p:Bool=>(Zz4:OL)) (fun p h I J F => ?_) (fun K A h => ?_)
  ·apply A0;refine ghost F ?_;apply ret;obtain rfl:=oi h;exact rt (kp [(2,_)] [(500,some _)] hB rfl rfl (by rfl)) [bo p] (rT rN) rfl
  ·obtain⟨s,C,h⟩:=bindS h;rcases bft ((s&&(a0.fAttrs.fOrigin != (-1)))&&(!((a0.fAttrs.fNext.fV6==false)&&((a0.fAttrs.fNext.fHi==0)&&((a0.fAttrs.fNext.fLo==0)&&true))))) with i | i
   ·have h:=A4 i h;obtain⟨G,H,h⟩:=bindS h;refine rg (SQ (fa (cl [(500,500)] (A1p a0.fAttrs s C)) (fa i (fa (cl [(0,1001)] (A5o a0.fAnnounce a0 G H)) tt)))) ?_;exact A _ h _ _ (mp [] _ _ hB)
   ·have h:=A5 i h;refine rg (SQ (fa (cl [(500,500)] (A1p a0.fAttrs s C)) (fa i tt))) ?_;exact A _ h _ _ (mp [] _ _ hB)
def J4 (a0:Bool) (a1:Int) (a2:(List Int)):Option (List A3):=
 jn (fun p:(List A3)=>
 some p) (fun i=>
 (if a0=true then
 chk (decide ([A3.mk (ilk gv0 a1) a1 a2].length≤LIM))<|
 i [A3.mk (ilk gv0 a1) a1 a2]
 else
 i ([]:List A3)))
theorem A7k (a0:Bool) (a1:Int) (a2:(List Int)) (r:(List A3)) (h:J4 a0 a1 a2=some r):AC Tryz.prog 176 [.d (.bool a0),.d (.int .i64 a1),.d (.list 1 (a2.map (eI .u8))),pt 0] [(0,.box 37 .nils),(500,.know (globD 0 (.imap gv0)))] (.tup []) [(0,some (.box 37 (.sref 950000 3 0 r.length))),(500,some (.know (globD 0 (.imap gv0)))),(950000,some (.row 78 3 (r.map B4)))]:=by
 refine AC.of_code2 Tryz.func176 rfl rfl (Nat.le_of_ble_eq_true (by rfl)) fun B hB hN => ?_;delta J4 at h;refine sr (SQ tt) ?_;refine gh [(1,_),(2,_),(3,_),(7,_)] [(0,some _),(500,some _)] hB rfl rfl (by rfl) ?_;refine AWp.cut h (fun i:(List A3)=>([]:EL)) (fun i:(List A3)=>([(0,some (.box 37 (.sref 3000 3 0 i.length))),(500,some (.know (globD 0 (.imap gv0)))),(3000,some (D8 i))]:OL)) (fun i h A C u => ?_) (fun E p h => ?_)
 ·obtain rfl:=oi h;exact⟨.inr rfl,_,_,Mat.trans u (mp [(950000,3000)] [] [(0,some (.box 37 (.sref 950000 3 0 i.length))),(500,some (.know (globD 0 (.imap gv0)))),(950000,some (D8 i))] hB),[],rN,rfl,by rfl,by rfl,by rfl⟩
 ·apply AWp.cond rfl<;>intro s
  ·have h:=A4 s h;obtain⟨t,h⟩:=B2 h;apply rg (c (lb hN 37 _ _ tyS37 (At.here _) (q 3)) rfl (cg (OpJ.loadGD (nm:=500) (.imap gv0) tyS210 (by rfl) (by rfl) (by simp) (ltN hN rfl)) rfl (c (mv hN (q 1)) rfl (cg (OpJ.ilook tyU210 underlying3 keyEq3 tyZD3 (ltN hN rfl) (q 9) (q 10)) rfl (c (mv hN (q 1)) rfl (c (mv hN (q 2)) rfl (c (OpJ.coe (v:=(.st [i6 (ilk gv0 a1),i6 a1,.d (.list 1 (a2.map (eI .u8)))])) (y:=(.st [.int .i64 (ilk gv0 a1),.int .i64 a1,.list 1 (a2.map (eI .u8))])) (Co.st (CoL.cons (Co.d _) (CoL.cons (Co.d _) (CoL.cons (Co.d _) CoL.nil)))) rfl (OpJ.build (places:=[(0,1),(1,1),(2,1)]) ⟨underlying78,fun w=>by kernel_rfl⟩ tyZS78 (Opds.cons (q 11) (Opds.cons (q 12) (Opds.cons (q 13) Opds.nil))) (by kernel_rfl) (r:=(.st [i6 (ilk gv0 a1),i6 a1,.d (.list 1 (a2.map (eI .u8)))])) (by rfl) (ltN hN rfl))) rfl (c (buildSlice underlying37 tyS78 tyZD78 (by rfl) (by decide) (by decide) (Opds.cons (q 14) Opds.nil) (by kernel_rfl) (es:=([.st [.int .i64 (ilk gv0 a1),.int .i64 a1,.list 1 (a2.map (eI .u8))]]:List D)) (by rfl) (by rfl) (by kernel_rfl) (by simp) (ltN hN rfl)) rfl (cg (OpJ.appendN hB underlying37 tyE78 (nm:=1016) (by decide) (ys:=[A3.mk (ilk gv0 a1) a1 a2].map B4) (len:=[A3.mk (ilk gv0 a1) a1 a2].length) (by simp) (A4o (f:=B4) (fun _=>rfl)) (by rw [List.length_map];exact X2 t (by decide)) (by rw [List.length_map];exact A25 t) (ltN hN rfl) (q 8) (q 15)) rfl (cg (sB tyS37 (q 3) (q 16)) rfl cn))))))))));exact p _ h _ _ (mp [(3000,1016)] _ _ hB)
  ·have h:=A5 s h;apply AWp.skip;exact p _ h _ _ (Mat.trans (Mat.beginP (n:=3000) (e:=78) (sz:=3) (Ts:=[]) (Bs:=[(0,some (.box 37 (.sref 3000 3 0 0)))]) hB (by decide) (by rfl) (by decide) TwT.nil (TwB.cons (x:=.nils) (by rfl) (Tw.leaf ⟨rfl,rfl⟩) TwB.nil)) (mp [] _ _ hB))
def P7 (a1:(List Int)) (p:Int×(List Int)):Option (List Int⊕(Int×(List Int))):=
 (if (decide (p.1<(a1.length:Int)))=true then
 (idx a1 p.1).bind fun i=>
 chk (decide ((p.2++([IntKind.u8.wrap (shrI .i64 i 24),IntKind.u8.wrap (shrI .i64 i 16),IntKind.u8.wrap (shrI .i64 i 8),IntKind.u8.wrap i]:List Int)).length≤LIM))<|
 some (.inr (w64 (p.1+1),(p.2++([IntKind.u8.wrap (shrI .i64 i 24),IntKind.u8.wrap (shrI .i64 i 16),IntKind.u8.wrap (shrI .i64 i 8),IntKind.u8.wrap i]:List Int))))
 else
 some (.inl p.2))
def O7 (a0:(List Int)) (a1:(List Int)):Option (List Int):=
 (loop (P7 a1) (0,a0)).bind fun i=>
 some i
theorem A1q (a0:(List Int)) (a1:(List Int)) (r:(List Int)) (h:O7 a0 a1=some r):AC Tryz.prog 178 [.sref 0 1 0 a0.length,.d (.list 1 (a1.map (eI .i64)))] [(0,.row 5 1 (a0.map (eI .u8)))] (.sref 900000 1 0 r.length) [(0,none),(900000,some (.row 5 1 (r.map (eI .u8))))]:=by
 refine ac2 Tryz.func178 rfl rfl fun B hB hN L => ?_;delta O7 at h;refine sr (SQ tt) ?_;apply seq;refine sr (SQ tt) ?_;apply block;obtain⟨i,C,h⟩:=bindS h;refine lg (P7 a1) (fun p:Int×(List Int)=>([(0,.sref 3000 1 0 p.2.length),(7,qI_1 a1),(8,i6 (a1.length:Int)),(9,i6 p.1)]:EL)) (fun p:Int×(List Int)=>([(3000,some (.row 5 1 (p.2.map (eI .u8))))]:OL)) (fun(i:(List Int)) e s t=>e = .exit 0∧Mat B s t ([(0,.sref 3000 1 0 i.length)]:EL) ([(3000,some (.row 5 1 (i.map (eI .u8))))]:OL)) C (mp [(3000,0)] _ _ hB) (fun p y h => ?_) (fun e s t hR => ?_)
 ·unfold P7 at h;refine sr (SQ tt) ?_;apply seq;apply AWp.cond rfl<;>intro u
  ·have h:=A4 u h;apply AWp.skip;apply A0;apply seq;apply block;obtain⟨_,E,h⟩:=bindS h;refine sr (SQ (fa E tt)) ?_;obtain⟨A,h⟩:=B2 h;have hc11_o:=A;simp only [decide_eq_true_eq] at hc11_o;refine rg (SQ (fa A tt)) ?_;apply D9;apply A0;refine rg (SQ tt) ?_;obtain rfl:=oi h;exact⟨rfl,mp [(3000,1026)] _ _ hB⟩
  ·have h:=A5 u h;apply AWp.exit;apply D7;obtain rfl:=oi h;exact⟨nofun,rfl,mp [] _ _ hB⟩
 ·obtain⟨rfl,F⟩:=hR;apply C0;apply A0;refine ghost F ?_;refine sr (SQ tt) ?_;apply ret;obtain rfl:=oi h;exact rt (mp [(900000,3000)] [(4,.sref 900000 1 0 i.length)] [(900000,some (.row 5 1 (i.map (eI .u8))))] hB) [.sref 900000 1 0 i.length] (rT rN) rfl
def O4 (a0:(List B5)) (i:Int×(List Int)):Option (List Int⊕(Int×(List Int))):=
 (if (decide (i.1<(a0.length:Int)))=true then
 (idx a0 i.1).bind fun p=>
 jn (fun s:Int=>
 chk (decide ((i.2++([s,IntKind.u8.wrap (p.fASNs.length:Int)]:List Int)).length≤LIM))<|
 (O7 (i.2++([s,IntKind.u8.wrap (p.fASNs.length:Int)]:List Int)) p.fASNs).bind fun u=>
 some (.inr (w64 (i.1+1),u))) (fun t=>
 (if p.fSet=true then
 t 1
 else
 t 2))
 else
 some (.inl i.2))
def P8 (a0:(List B5)):Option (List Int):=
 (loop (O4 a0) (0,([]:List Int))).bind fun i=>
 some i
theorem A94 (a0:(List B5)) (r:(List Int)) (h:P8 a0=some r):AC Tryz.prog 177 [.d (.list 2 (a0.map D2))] [] (.d (.list 1 (r.map (eI .u8)))) []:=by
 refine ac2 Tryz.func177 rfl rfl fun B hB hN L => ?_;delta P8 at h;refine sr (SQ tt) ?_;refine sr (SQ tt) ?_;apply seq;refine sr (SQ tt) ?_;apply block;obtain⟨p,I,h⟩:=bindS h;refine lg (O4 a0) (fun i:Int×(List Int)=>([(3,.sref 3003 1 0 i.2.length),(7,C6 a0),(8,i6 (a0.length:Int)),(9,i6 i.1)]:EL)) (fun i:Int×(List Int)=>([(3003,some (.row 5 1 (i.2.map (eI .u8))))]:OL)) (fun(p:(List Int)) e t u=>e = .exit 0∧Mat B t u ([(3,.sref 3003 1 0 p.length)]:EL) ([(3003,some (.row 5 1 (p.map (eI .u8))))]:OL)) I (Mat.trans (Mat.beginP (n:=3003) (e:=5) (sz:=1) (Ts:=[(3,.sref 3003 1 0 0)]) (Bs:=[]) hB (by decide) (by rfl) (by decide) (TwT.cons (x:=.nils) (by rfl) (Tw.leaf ⟨rfl,rfl⟩) TwT.nil) TwB.nil) (mp [] _ _ hB)) (fun i y h => ?_) (fun e t u hR => ?_)
 ·unfold O4 at h;refine sr (SQ tt) ?_;apply seq;apply AWp.cond rfl<;>intro F
  ·have h:=A4 F h;apply AWp.skip;apply A0;apply seq;apply block;obtain⟨A,J,h⟩:=bindS h;refine sr (SQ (fa J tt)) ?_;refine sr (SQ tt) ?_;apply seq;refine sr (SQ tt) ?_;refine gh [(3,_),(5,_),(6,_),(7,_),(8,_),(9,_),(14,_)] [(1005,some _),(3003,some _)] hB rfl rfl (by rfl) ?_;refine AWp.cut h (fun s:Int=>([(3,.sref 3003 1 0 i.2.length),(5,pt 1005),(6,.d (.int .u8 s)),(7,C6 a0),(8,i6 (a0.length:Int)),(9,i6 i.1)]:EL)) (fun s:Int=>([(1005,bd 75 (D2 A)),(3003,some (.row 5 1 (i.2.map (eI .u8))))]:OL)) (fun s h t u C => ?_) (fun N G h => ?_)
   ·apply A0;refine ghost C ?_;obtain⟨K,h⟩:=B2 h;obtain⟨E,M,h⟩:=bindS h;refine drS (SQ (fa K (fa (cl [(0,1022),(900000,100000)] (A1q (i.2++([s,IntKind.u8.wrap (A.fASNs.length:Int)]:List Int)) A.fASNs E M)) tt))) ?_;apply D9;apply A0;refine ghost (mp [] [(3,.sref 100000 1 0 E.length),(7,C6 a0),(8,i6 (a0.length:Int)),(9,i6 i.1)] [(100000,some (.row 5 1 (E.map (eI .u8))))] hB) ?_;refine rg (SQ tt) ?_;obtain rfl:=oi h;exact⟨rfl,mp [(3003,100000)] _ _ hB⟩
   ·apply AWp.cond rfl<;>intro H
    ·have h:=A4 H h;refine rg (SQ tt) ?_;exact G _ h _ _ (mp [] _ _ hB)
    ·have h:=A5 H h;apply AWp.skip;exact G _ h _ _ (mp [] _ _ hB)
  ·have h:=A5 F h;apply AWp.exit;apply D7;obtain rfl:=oi h;exact⟨nofun,rfl,mp [] _ _ hB⟩
 ·obtain⟨rfl,C⟩:=hR;apply C0;apply A0;refine ghost C ?_;refine sr (SQ tt) ?_;apply ret;obtain rfl:=oi h;exact rt (Mat.trans (Mat.freezeP (n:=3003) (e:=5) (sz:=1) (es:=p.map (eI .u8)) (Ts:=[(2,.d (.list 1 (p.map (eI .u8))))]) (Bs:=[]) (by rfl) (TwT.cons (x:=(.sref 3003 1 0 p.length)) (by rfl) (FrzL.all (by first | rfl | (simp;done) | (simp;omega) | omega)) TwT.nil) TwB.nil) (mp [] [(2,.d (.list 1 (p.map (eI .u8))))] [] hB)) [.d (.list 1 (p.map (eI .u8)))] (rT rN) rfl
def D5 (a0:Bool) (a1:Int) (a2:(List Int)) (a3:(List A3)):Option (List A3):=
 jn (fun p:(List A3)=>
 some p) (fun i=>
 (if a0=true then
 chk (decide ((a3++[A3.mk (ilk gv0 a1) a1 a2]).length≤LIM))<|
 i (a3++[A3.mk (ilk gv0 a1) a1 a2])
 else
 i a3))
theorem H7 (a0:Bool) (a1:Int) (a2:(List Int)) (a3:(List A3)) (r:(List A3)) (h:D5 a0 a1 a2 a3=some r):AC Tryz.prog 176 [.d (.bool a0),.d (.int .i64 a1),.d (.list 1 (a2.map (eI .u8))),pt 0] [(0,.box 37 (.sref 1 3 0 a3.length)),(1,.row 78 3 (a3.map B4)),(500,.know (globD 0 (.imap gv0)))] (.tup []) [(1,none),(0,some (.box 37 (.sref 950000 3 0 r.length))),(500,some (.know (globD 0 (.imap gv0)))),(950000,some (.row 78 3 (r.map B4)))]:=by
 refine AC.of_code2 Tryz.func176 rfl rfl (Nat.le_of_ble_eq_true (by rfl)) fun B hB hN => ?_;delta D5 at h;refine sr (SQ tt) ?_;refine gh [(1,_),(2,_),(3,_),(7,_)] [(0,some _),(1,some _),(500,some _)] hB rfl rfl (by rfl) ?_;refine AWp.cut h (fun i:(List A3)=>([]:EL)) (fun i:(List A3)=>([(0,some (.box 37 (.sref 3000 3 0 i.length))),(500,some (.know (globD 0 (.imap gv0)))),(3000,some (D8 i))]:OL)) (fun i h A C u => ?_) (fun E s h => ?_)
 ·obtain rfl:=oi h;exact⟨.inr rfl,_,_,Mat.trans u (mp [(950000,3000)] [] [(0,some (.box 37 (.sref 950000 3 0 i.length))),(500,some (.know (globD 0 (.imap gv0)))),(950000,some (D8 i))] hB),[],rN,rfl,by rfl,by rfl,by rfl⟩
 ·apply AWp.cond rfl<;>intro t
  ·have h:=A4 t h;obtain⟨p,h⟩:=B2 h;have hc6_o:=p;simp only [decide_eq_true_eq] at hc6_o;apply rg (c (lb hN 37 _ _ tyS37 (At.here _) (q 3)) rfl (cg (OpJ.loadGD (nm:=500) (.imap gv0) tyS210 (by rfl) (by rfl) (by simp) (ltN hN rfl)) rfl (c (mv hN (q 1)) rfl (cg (OpJ.ilook tyU210 underlying3 keyEq3 tyZD3 (ltN hN rfl) (q 9) (q 10)) rfl (c (mv hN (q 1)) rfl (c (mv hN (q 2)) rfl (c (OpJ.coe (v:=(.st [i6 (ilk gv0 a1),i6 a1,.d (.list 1 (a2.map (eI .u8)))])) (y:=(.st [.int .i64 (ilk gv0 a1),.int .i64 a1,.list 1 (a2.map (eI .u8))])) (Co.st (CoL.cons (Co.d _) (CoL.cons (Co.d _) (CoL.cons (Co.d _) CoL.nil)))) rfl (OpJ.build (places:=[(0,1),(1,1),(2,1)]) ⟨underlying78,fun w=>by kernel_rfl⟩ tyZS78 (Opds.cons (q 11) (Opds.cons (q 12) (Opds.cons (q 13) Opds.nil))) (by kernel_rfl) (r:=(.st [i6 (ilk gv0 a1),i6 a1,.d (.list 1 (a2.map (eI .u8)))])) (by rfl) (ltN hN rfl))) rfl (c (buildSlice underlying37 tyS78 tyZD78 (by rfl) (by decide) (by decide) (Opds.cons (q 14) Opds.nil) (by kernel_rfl) (es:=([.st [.int .i64 (ilk gv0 a1),.int .i64 a1,.list 1 (a2.map (eI .u8))]]:List D)) (by rfl) (by rfl) (by kernel_rfl) (by simp) (ltN hN rfl)) rfl (cg (OpJ.append hB underlying37 tyE78 (nm:=1016) (by decide) (es:=a3.map B4) (ys:=[A3.mk (ilk gv0 a1) a1 a2].map B4) (es':=(a3++[A3.mk (ilk gv0 a1) a1 a2]).map B4) (len:=(a3++[A3.mk (ilk gv0 a1) a1 a2]).length) (by simp) (by simp) (A4o (f:=B4) (fun _=>rfl)) (by rw [List.length_map];exact X2 p (by decide)) (by rw [List.length_map];exact A25 p) (ltN hN rfl) (by simp) (q 8) (q 15)) rfl (cg (sB tyS37 (q 3) (q 16)) rfl cn))))))))));exact s _ h _ _ (mp [(3000,1016)] _ _ hB)
  ·have h:=A5 t h;apply AWp.skip;exact s _ h _ _ (mp [(3000,1)] _ _ hB)
def A3k (i:Int×(List Int)×D1):Option (List Int⊕(Int×(List Int)×D1)):=
 (if (decide (0≤i.1))=true then
 (idx i.2.1 i.1).bind fun _=>
 (idx i.2.1 i.1).bind fun _=>
 some (.inr (w64 (i.1-1),i.2.1.set i.1.toNat (IntKind.u8.wrap i.2.2.fLo),D1.mk i.2.2.fV6 (shrI .u64 i.2.2.fHi 8) (bitI .or .u64 (shrI .u64 i.2.2.fLo 8) (shlI .u64 i.2.2.fHi 56))))
 else
 some (.inl i.2.1))
def W8 (a0:D1):Option (List Int):=
 (V9 a0).bind fun s=>
 (if (!s)=true then
 some ([]:List Int)
 else
 jn (fun i:Int=>
 chk (decide (0≤i)&&decide (i≤i)&&decide (i≤(LIM:Int)))<|
 (loop (A3k) (w64 (i-1),List.replicate i.toNat 0,a0)).bind fun t=>
 some t) (fun p=>
 (if a0.fV6=true then
 p 16
 else
 p 4)))
theorem A3l (a0:D1) (r:(List Int)) (h:W8 a0=some r):AC Tryz.prog 166 [.d (E4 a0)] [] (.d (.list 1 (r.map (eI .u8)))) []:=by
 refine ac2 Tryz.func166 rfl rfl fun B hB hN L => ?_;delta W8 at h;refine sr (SQ tt) ?_;apply seq;obtain⟨H,I,h⟩:=bindS h;refine sr (SQ (fa (cl [] (H5 a0 H I)) tt)) ?_;apply AWp.cond rfl<;>intro C
 ·have h:=A4 C h;refine sr (SQ tt) ?_;apply ret;apply B6;obtain rfl:=oi h;exact rt (Mat.trans (Mat.coeP (Ts:=[(2,.d (.list 1 (([]:List Int).map (eI .u8))))]) (Bs:=[]) (TwT.cons (x:=.nils) (by rfl) (Tw.leaf ⟨_,Co.nils 1,rfl⟩) TwT.nil) TwB.nil) (mp [] [(2,.d (.list 1 (([]:List Int).map (eI .u8))))] [] hB)) [.d (.list 1 (([]:List Int).map (eI .u8)))] (rT rN) rfl
 ·have h:=A5 C h;apply AWp.skip;apply A0;refine sr (SQ tt) ?_;apply seq;refine sr (SQ tt) ?_;refine gh [(1,_),(3,_),(10,_)] [(1001,some _)] hB rfl rfl (by rfl) ?_;refine AWp.cut h (fun s:Int=>([(1,pt 1001),(3,i6 s)]:EL)) (fun s:Int=>([(1001,bd 31 (E4 a0))]:OL)) (fun s h t u A => ?_) (fun O E h => ?_)
  ·apply A0;refine ghost A ?_;obtain⟨J,h⟩:=B2 h;refine sr (SQ (fa J tt)) ?_;apply seq;refine sr (SQ tt) ?_;apply block;obtain⟨p,K,h⟩:=bindS h;refine lg (A3k) (fun i:Int×(List Int)×D1=>([(1,pt 1001),(4,.sref 1012 1 0 i.2.1.length),(5,i6 i.1)]:EL)) (fun i:Int×(List Int)×D1=>([(1001,bd 31 (E4 i.2.2)),(1012,some (.row 5 1 (i.2.1.map (eI .u8))))]:OL)) (fun(p:(List Int)) e t u=>e = .exit 0∧Mat B t u ([(4,.sref 1012 1 0 p.length)]:EL) ([(1012,some (.row 5 1 (p.map (eI .u8))))]:OL)) K (mp [] _ _ hB) (fun i y h => ?_) (fun e t u hR => ?_)
   ·unfold A3k at h;apply seq;refine sr (SQ tt) ?_;apply AWp.cond rfl<;>intro F
    ·have h:=A4 F h;apply AWp.skip;apply A0;apply seq;apply block;obtain⟨_,M,h⟩:=bindS h;obtain⟨_,N,h⟩:=bindS h;refine sr (SQ (fa M (fa N (fa (sv (IntKind.u8.wrap i.2.2.fLo)) tt)))) ?_;refine sr (SQ tt) ?_;refine rg (SQ tt) ?_;apply D9;apply A0;refine rg (SQ tt) ?_;obtain rfl:=oi h;exact⟨rfl,Mat.trans (mp [] [(1,pt 1001),(4,.sref 1012 1 0 i.2.1.length),(5,i6 (w64 (i.1-1)))] [(1001,some (.box 31 (.d (.st [.bool i.2.2.fV6,.int .u64 (shrI .u64 i.2.2.fHi 8),.int .u64 (bitI .or .u64 (shrI .u64 i.2.2.fLo 8) (shlI .u64 i.2.2.fHi 56))])))),(1012,some (.row 5 1 ((i.2.1.set i.1.toNat (IntKind.u8.wrap i.2.2.fLo)).map (eI .u8))))] hB) (Mat.trans (Mat.lenP (Ts:=[(4,.sref 1012 1 0 ((i.2.1.set i.1.toNat (IntKind.u8.wrap i.2.2.fLo)).length))]) (Bs:=[]) (TwT.cons (x:=(.sref 1012 1 0 i.2.1.length)) (by rfl) (Tw.leaf ⟨_,_,_,_,_,rfl,rfl,(by first | rfl | (simp;done) | (simp;omega) | omega)⟩) TwT.nil) TwB.nil) (mp [] _ _ hB))⟩
    ·have h:=A5 F h;apply AWp.exit;apply D7;obtain rfl:=oi h;exact⟨nofun,rfl,mp [] _ _ hB⟩
   ·obtain⟨rfl,A⟩:=hR;apply C0;apply A0;refine ghost A ?_;refine sr (SQ tt) ?_;apply ret;obtain rfl:=oi h;exact rt (Mat.trans (Mat.freezeP (n:=1012) (e:=5) (sz:=1) (es:=p.map (eI .u8)) (Ts:=[(2,.d (.list 1 (p.map (eI .u8))))]) (Bs:=[]) (by rfl) (TwT.cons (x:=(.sref 1012 1 0 p.length)) (by rfl) (FrzL.all (by first | rfl | (simp;done) | (simp;omega) | omega)) TwT.nil) TwB.nil) (mp [] [(2,.d (.list 1 (p.map (eI .u8))))] [] hB)) [.d (.list 1 (p.map (eI .u8)))] (rT rN) rfl
  ·apply AWp.cond rfl<;>intro G
   ·have h:=A4 G h;refine rg (SQ tt) ?_;exact E _ h _ _ (mp [] _ _ hB)
   ·have h:=A5 G h;apply AWp.skip;exact E _ h _ _ (mp [] _ _ hB)
def P9 (a0:(List Int)) (p:Int×(List Int)):Option (List Int⊕(Int×(List Int))):=
 (if (decide (p.1<(a0.length:Int)))=true then
 (idx a0 p.1).bind fun i=>
 chk (decide ((p.2++([IntKind.u8.wrap (shrI .i64 i 24),IntKind.u8.wrap (shrI .i64 i 16),IntKind.u8.wrap (shrI .i64 i 8),IntKind.u8.wrap i]:List Int)).length≤LIM))<|
 some (.inr (w64 (p.1+1),(p.2++([IntKind.u8.wrap (shrI .i64 i 24),IntKind.u8.wrap (shrI .i64 i 16),IntKind.u8.wrap (shrI .i64 i 8),IntKind.u8.wrap i]:List Int))))
 else
 some (.inl p.2))
def O8 (a0:(List Int)):Option (List Int):=
 (loop (P9 a0) (0,([]:List Int))).bind fun i=>
 some i
theorem A1r (a0:(List Int)) (r:(List Int)) (h:O8 a0=some r):AC Tryz.prog 178 [.nils,.d (.list 1 (a0.map (eI .i64)))] [] (.d (.list 1 (r.map (eI .u8)))) []:=by
 refine ac2 Tryz.func178 rfl rfl fun B hB hN L => ?_;delta O8 at h;refine sr (SQ tt) ?_;apply seq;refine sr (SQ tt) ?_;apply block;obtain⟨i,A,h⟩:=bindS h;refine lg (P9 a0) (fun p:Int×(List Int)=>([(0,.sref 3000 1 0 p.2.length),(7,qI_1 a0),(8,i6 (a0.length:Int)),(9,i6 p.1)]:EL)) (fun p:Int×(List Int)=>([(3000,some (.row 5 1 (p.2.map (eI .u8))))]:OL)) (fun(i:(List Int)) e s t=>e = .exit 0∧Mat B s t ([(0,.sref 3000 1 0 i.length)]:EL) ([(3000,some (.row 5 1 (i.map (eI .u8))))]:OL)) A (Mat.trans (Mat.beginP (n:=3000) (e:=5) (sz:=1) (Ts:=[(0,.sref 3000 1 0 0)]) (Bs:=[]) hB (by decide) (by rfl) (by decide) (TwT.cons (x:=.nils) (by rfl) (Tw.leaf ⟨rfl,rfl⟩) TwT.nil) TwB.nil) (mp [] _ _ hB)) (fun p y h => ?_) (fun e s t hR => ?_)
 ·unfold P9 at h;refine sr (SQ tt) ?_;apply seq;apply AWp.cond rfl<;>intro u
  ·have h:=A4 u h;apply AWp.skip;apply A0;apply seq;apply block;obtain⟨_,C,h⟩:=bindS h;refine sr (SQ (fa C tt)) ?_;obtain⟨E,h⟩:=B2 h;refine rg (SQ (fa E tt)) ?_;apply D9;apply A0;refine rg (SQ tt) ?_;obtain rfl:=oi h;exact⟨rfl,mp [(3000,1026)] _ _ hB⟩
  ·have h:=A5 u h;apply AWp.exit;apply D7;obtain rfl:=oi h;exact⟨nofun,rfl,mp [] _ _ hB⟩
 ·obtain⟨rfl,F⟩:=hR;apply C0;apply A0;refine ghost F ?_;refine sr (SQ tt) ?_;apply ret;obtain rfl:=oi h;exact rt (Mat.trans (Mat.freezeP (n:=3000) (e:=5) (sz:=1) (es:=i.map (eI .u8)) (Ts:=[(4,.d (.list 1 (i.map (eI .u8))))]) (Bs:=[]) (by rfl) (TwT.cons (x:=(.sref 3000 1 0 i.length)) (by rfl) (FrzL.all (by first | rfl | (simp;done) | (simp;omega) | omega)) TwT.nil) TwB.nil) (mp [] [(4,.d (.list 1 (i.map (eI .u8))))] [] hB)) [.d (.list 1 (i.map (eI .u8)))] (rT rN) rfl
def M7 (a0:(List B7)) (i:Int×(List Int)):Option (List Int⊕(Int×(List Int))):=
 (if (decide (i.1<(a0.length:Int)))=true then
 (idx a0 i.1).bind fun p=>
 (O7 i.2 ([bitI .or .i64 (shlI .i64 p.fA 16) p.fB]:List Int)).bind fun s=>
 some (.inr (w64 (i.1+1),s))
 else
 some (.inl i.2))
def L7 (a0:(List B7)):Option (List Int):=
 (loop (M7 a0) (0,([]:List Int))).bind fun i=>
 some i
theorem A5p (a0:(List B7)) (r:(List Int)) (h:L7 a0=some r):AC Tryz.prog 179 [.d (.list 2 (a0.map C4))] [] (.d (.list 1 (r.map (eI .u8)))) []:=by
 refine ac2 Tryz.func179 rfl rfl fun B hB hN L => ?_;delta L7 at h;refine sr (SQ tt) ?_;refine sr (SQ tt) ?_;apply seq;refine sr (SQ tt) ?_;apply block;obtain⟨i,E,h⟩:=bindS h;refine lg (M7 a0) (fun p:Int×(List Int)=>([(3,.sref 3003 1 0 p.2.length),(6,C5 a0),(7,i6 (a0.length:Int)),(8,i6 p.1)]:EL)) (fun p:Int×(List Int)=>([(3003,some (.row 5 1 (p.2.map (eI .u8))))]:OL)) (fun(i:(List Int)) e t u=>e = .exit 0∧Mat B t u ([(3,.sref 3003 1 0 i.length)]:EL) ([(3003,some (.row 5 1 (i.map (eI .u8))))]:OL)) E (Mat.trans (Mat.beginP (n:=3003) (e:=5) (sz:=1) (Ts:=[(3,.sref 3003 1 0 0)]) (Bs:=[]) hB (by decide) (by rfl) (by decide) (TwT.cons (x:=.nils) (by rfl) (Tw.leaf ⟨rfl,rfl⟩) TwT.nil) TwB.nil) (mp [] _ _ hB)) (fun p y h => ?_) (fun e t u hR => ?_)
 ·unfold M7 at h;refine sr (SQ tt) ?_;apply seq;apply AWp.cond rfl<;>intro A
  ·have h:=A4 A h;apply AWp.skip;apply A0;apply seq;apply block;obtain⟨C,F,h⟩:=bindS h;refine sr (SQ (fa F tt)) ?_;obtain⟨s,G,h⟩:=bindS h;refine rg (SQ (fa (cl [(0,3003),(900000,100000)] (A1q p.2 ([bitI .or .i64 (shlI .i64 C.fA 16) C.fB]:List Int) s G)) tt)) ?_;apply D9;apply A0;refine ghost (mp [] [(3,.sref 100000 1 0 s.length),(6,C5 a0),(7,i6 (a0.length:Int)),(8,i6 p.1)] [(100000,some (.row 5 1 (s.map (eI .u8))))] hB) ?_;refine rg (SQ tt) ?_;obtain rfl:=oi h;exact⟨rfl,mp [(3003,100000)] _ _ hB⟩
  ·have h:=A5 A h;apply AWp.exit;apply D7;obtain rfl:=oi h;exact⟨nofun,rfl,mp [] _ _ hB⟩
 ·obtain⟨rfl,H⟩:=hR;apply C0;apply A0;refine ghost H ?_;refine sr (SQ tt) ?_;apply ret;obtain rfl:=oi h;exact rt (Mat.trans (Mat.freezeP (n:=3003) (e:=5) (sz:=1) (es:=i.map (eI .u8)) (Ts:=[(2,.d (.list 1 (i.map (eI .u8))))]) (Bs:=[]) (by rfl) (TwT.cons (x:=(.sref 3003 1 0 i.length)) (by rfl) (FrzL.all (by first | rfl | (simp;done) | (simp;omega) | omega)) TwT.nil) TwB.nil) (mp [] [(2,.d (.list 1 (i.map (eI .u8))))] [] hB)) [.d (.list 1 (i.map (eI .u8)))] (rT rN) rfl
def W9 (a0:(List F5)) (i:Int×(List Int)):Option (List Int⊕(Int×(List Int))):=
 (if (decide (i.1<(a0.length:Int)))=true then
 (idx a0 i.1).bind fun p=>
 (O7 i.2 ([p.fA,p.fB,p.fC]:List Int)).bind fun s=>
 some (.inr (w64 (i.1+1),s))
 else
 some (.inl i.2))
def Y9 (a0:(List F5)):Option (List Int):=
 (loop (W9 a0) (0,([]:List Int))).bind fun i=>
 some i
theorem A8p (a0:(List F5)) (r:(List Int)) (h:Y9 a0=some r):AC Tryz.prog 180 [.d (.list 3 (a0.map E9))] [] (.d (.list 1 (r.map (eI .u8)))) []:=by
 refine AC.of_code2 Tryz.func180 rfl rfl (Nat.le_of_ble_eq_true (by rfl)) fun B hB hN => ?_;delta Y9 at h;refine sr (SQ tt) ?_;refine sr (SQ tt) ?_;apply seq;refine sr (SQ tt) ?_;apply block;obtain⟨i,E,h⟩:=bindS h;refine lg (W9 a0) (fun p:Int×(List Int)=>([(3,.sref 3003 1 0 p.2.length),(6,E7 a0),(7,i6 (a0.length:Int)),(8,i6 p.1)]:EL)) (fun p:Int×(List Int)=>([(3003,some (.row 5 1 (p.2.map (eI .u8))))]:OL)) (fun(i:(List Int)) e u A=>e = .exit 0∧Mat B u A ([(3,.sref 3003 1 0 i.length)]:EL) ([(3003,some (.row 5 1 (i.map (eI .u8))))]:OL)) E (Mat.trans (Mat.beginP (n:=3003) (e:=5) (sz:=1) (Ts:=[(3,.sref 3003 1 0 0)]) (Bs:=[]) hB (by decide) (by rfl) (by decide) (TwT.cons (x:=.nils) (by rfl) (Tw.leaf ⟨rfl,rfl⟩) TwT.nil) TwB.nil) (mp [] _ _ hB)) (fun p y h => ?_) (fun e u A hR => ?_)
 ·unfold W9 at h;refine sr (SQ tt) ?_;apply seq;apply AWp.cond rfl<;>intro C
  ·have h:=A4 C h;apply AWp.skip;apply A0;apply seq;apply block;obtain⟨s,F,h⟩:=bindS h;refine sr (SQ (fa F tt)) ?_;obtain⟨t,G,h⟩:=bindS h;refine rg (SQ (fa (cl [(0,3003),(900000,100000)] (A1q p.2 ([s.fA,s.fB,s.fC]:List Int) t G)) tt)) ?_;apply D9;apply A0;refine ghost (mp [] [(3,.sref 100000 1 0 t.length),(6,E7 a0),(7,i6 (a0.length:Int)),(8,i6 p.1)] [(100000,some (.row 5 1 (t.map (eI .u8))))] hB) ?_;refine rg (SQ tt) ?_;obtain rfl:=oi h;exact⟨rfl,mp [(3003,100000)] _ _ hB⟩
  ·have h:=A5 C h;apply AWp.exit;apply D7;obtain rfl:=oi h;exact⟨nofun,rfl,mp [] _ _ hB⟩
 ·obtain⟨rfl,H⟩:=hR;apply C0;apply A0;refine ghost H ?_;refine sr (SQ tt) ?_;apply ret;obtain rfl:=oi h;exact rt (Mat.trans (Mat.freezeP (n:=3003) (e:=5) (sz:=1) (es:=i.map (eI .u8)) (Ts:=[(2,.d (.list 1 (i.map (eI .u8))))]) (Bs:=[]) (by rfl) (TwT.cons (x:=(.sref 3003 1 0 i.length)) (by rfl) (FrzL.all (by first | rfl | (simp;done) | (simp;omega) | omega)) TwT.nil) TwB.nil) (mp [] [(2,.d (.list 1 (i.map (eI .u8))))] [] hB)) [.d (.list 1 (i.map (eI .u8)))] (rT rN) rfl
def A37 (a0:(List Int)):Option (List Int):=chk (decide (a0.length≤LIM))<|
 some a0
theorem A5q (a0:(List Int)) (r:List Int) (h:A37 a0=some r):AC Tryz.prog 181 [.d (.list 1 (a0.map (eI .u8)))] [] (.d (.list 1 (r.map (eI .u8)))) []:=by
 obtain⟨hc,h⟩:=B2 h;obtain rfl:=oi h;exact AC.cloneD cloneOk181 (by rw [List.length_map];exact X2 hc (by decide)) (A4o (f:=(eI .u8)) (fun _=>rfl))
def J5 (a0:A3) (a1:A3):Option (Int):=
 (J3 a0.fType a1.fType).bind fun i=>
 some i
theorem A7l (a0:A3) (a1:A3) (r:Int) (h:J5 a0 a1=some r):AC Tryz.prog 182 [.d (B4 a0),.d (B4 a1)] [] (.d (.int .i64 r)) []:=by
 refine AC.of_code2 Tryz.func182 rfl rfl (Nat.le_of_ble_eq_true (by rfl)) fun B hB hN => ?_;delta J5 at h;refine sr (SQ tt) ?_;obtain⟨i,p,h⟩:=bindS h;refine sr (SQ (fa (cl [] (L0 a0.fType a1.fType i p)) tt)) ?_;apply ret;obtain rfl:=oi h;exact rt (kp [(4,_)] [] hB rfl rfl (by rfl)) [i6 i] (rT rN) rfl
def L8 (a0:(List A3)):Option (List A3):=sortF a0 fun x y=>J5 x y
theorem V1 (a0:(List A3)) (r:List A3) (h:L8 a0=some r):AC Tryz.prog 167 [.sref 0 3 0 a0.length,.func 182 []] [(0,.row 78 3 (a0.map B4))] (.tup []) [(0,some (.row 78 3 (r.map B4)))]:=
 AC.sortF B4 (fun x y=>J5 x y) a0 r h sortOk167 fnOk182 (fun _=>rfl) rfl rfl (fun x y c hc=>A7l x y c hc)
def Z2 (a1:(List A1)) (a2:Bool) (p:Int×(List Int)):Option (List Int⊕(Int×(List Int))):=
 (if (decide (p.1<(a1.length:Int)))=true then
 (idx a1 p.1).bind fun i=>
 jn (fun u:(List Int)=>
 some (.inr (w64 (p.1+1),u))) (fun t=>
 (if (i.fAddr.fV6==a2)=true then
 chk (decide ((p.2++([IntKind.u8.wrap i.fLen]:List Int)).length≤LIM))<|
 (W8 i.fAddr).bind fun s=>
 chk (decide (0≤(w64 (Int.tdiv (w64 (i.fLen+7)) 8)))&&decide (0≤(w64 (Int.tdiv (w64 (i.fLen+7)) 8)).toNat)&&decide ((w64 (Int.tdiv (w64 (i.fLen+7)) 8)).toNat≤s.length))<|
 chk (decide (((p.2++([IntKind.u8.wrap i.fLen]:List Int))++((s.take ((w64 (Int.tdiv (w64 (i.fLen+7)) 8)).toNat)).drop 0)).length≤LIM))<|
 t ((p.2++([IntKind.u8.wrap i.fLen]:List Int))++((s.take ((w64 (Int.tdiv (w64 (i.fLen+7)) 8)).toNat)).drop 0))
 else
 t p.2))
 else
 some (.inl p.2))
def X0 (a0:(List Int)) (a1:(List A1)) (a2:Bool):Option (List Int):=
 (loop (Z2 a1 a2) (0,a0)).bind fun i=>
 some i
theorem A6v (a0:(List Int)) (a1:(List A1)) (a2:Bool) (r:(List Int)) (h:X0 a0 a1 a2=some r):AC Tryz.prog 157 [.sref 0 1 0 a0.length,.d (.list 4 (a1.map B0)),.d (.bool a2)] [(0,.row 5 1 (a0.map (eI .u8)))] (.d (.list 1 (r.map (eI .u8)))) [(0,none)]:=by
 refine ac2 Tryz.func157 rfl rfl fun B hB hN L => ?_;delta X0 at h;refine sr (SQ tt) ?_;apply seq;refine sr (SQ tt) ?_;apply block;obtain⟨i,J,h⟩:=bindS h;refine lg (Z2 a1 a2) (fun p:Int×(List Int)=>([(0,.sref 3000 1 0 p.2.length),(2,bo a2),(9,F7 a1),(10,i6 (a1.length:Int)),(11,i6 p.1)]:EL)) (fun p:Int×(List Int)=>([(3000,some (.row 5 1 (p.2.map (eI .u8))))]:OL)) (fun(i:(List Int)) e t u=>e = .exit 0∧Mat B t u ([(0,.sref 3000 1 0 i.length)]:EL) ([(3000,some (.row 5 1 (i.map (eI .u8))))]:OL)) J (mp [(3000,0)] _ _ hB) (fun p y h => ?_) (fun e t u hR => ?_)
 ·unfold Z2 at h;refine sr (SQ tt) ?_;apply seq;apply AWp.cond rfl<;>intro C
  ·have h:=A4 C h;apply AWp.skip;apply A0;apply seq;apply block;obtain⟨K,M,h⟩:=bindS h;refine sr (SQ (fa M tt)) ?_;refine sr (SQ tt) ?_;refine gh [(0,_),(2,_),(8,_),(9,_),(10,_),(11,_),(19,_)] [(1008,some _),(3000,some _)] hB rfl rfl (by rfl) ?_;refine AWp.cut h (fun s:(List Int)=>([(0,.sref 3000 1 0 s.length),(2,bo a2),(9,F7 a1),(10,i6 (a1.length:Int)),(11,i6 p.1)]:EL)) (fun s:(List Int)=>([(3000,some (.row 5 1 (s.map (eI .u8))))]:OL)) (fun s h t u A => ?_) (fun P E h => ?_)
   ·apply D9;apply A0;refine ghost A ?_;refine rg (SQ tt) ?_;obtain rfl:=oi h;exact⟨rfl,mp [] _ _ hB⟩
   ·apply AWp.cond rfl<;>intro F
    ·have h:=A4 F h;obtain⟨G,h⟩:=B2 h;have hc41_o:=G;simp only [decide_eq_true_eq] at hc41_o;obtain⟨N,O,h⟩:=bindS h;obtain⟨H,h⟩:=B2 h;have hc43_o:=H;simp only [Bool.and_eq_true,decide_eq_true_eq] at hc43_o;obtain⟨I,h⟩:=B2 h;have hc44_o:=I;simp only [decide_eq_true_eq] at hc44_o;refine drS (SQ (fa G (fa (cl [] (A3l K.fAddr N O)) (fa H (fa I tt))))) ?_;exact E _ h _ _ (mp [(3000,1034)] _ _ hB)
    ·have h:=A5 F h;apply AWp.skip;exact E _ h _ _ (mp [] _ _ hB)
  ·have h:=A5 C h;apply AWp.exit;apply D7;obtain rfl:=oi h;exact⟨nofun,rfl,mp [] _ _ hB⟩
 ·obtain⟨rfl,A⟩:=hR;apply C0;apply A0;refine ghost A ?_;refine sr (SQ tt) ?_;apply ret;obtain rfl:=oi h;exact rt (Mat.trans (Mat.freezeP (n:=3000) (e:=5) (sz:=1) (es:=i.map (eI .u8)) (Ts:=[(6,.d (.list 1 (i.map (eI .u8))))]) (Bs:=[]) (by rfl) (TwT.cons (x:=(.sref 3000 1 0 i.length)) (by rfl) (FrzL.all (by first | rfl | (simp;done) | (simp;omega) | omega)) TwT.nil) TwB.nil) (mp [] [(6,.d (.list 1 (i.map (eI .u8))))] [] hB)) [.d (.list 1 (i.map (eI .u8)))] (rT rN) rfl
def N3 (a0:D3) (i:Int×(List A3)):Option (List A3⊕(Int×(List A3))):=
 (if (decide (i.1<(a0.fOther.length:Int)))=true then
 (idx a0.fOther i.1).bind fun p=>
 (A37 p.fData).bind fun s=>
 chk (decide ((i.2++[A3.mk p.fFlags p.fType s]).length≤LIM))<|
 some (.inr (w64 (i.1+1),(i.2++[A3.mk p.fFlags p.fType s])))
 else
 some (.inl i.2))
def L1 (a0:D3):Option ((List A3)×Int):=
 (K2 a0).bind fun s=>
 (if (!s)=true then
 some (([]:List A3),1)
 else
 (J4 (a0.fOrigin != (-1)) 1 ([IntKind.u8.wrap a0.fOrigin]:List Int)).bind fun t=>
 (P8 a0.fPath).bind fun u=>
 (D5 ((a0.fOrigin != (-1)) || (decide (0<(a0.fPath.length:Int)))) 2 u t).bind fun A=>
 (W8 a0.fNext).bind fun C=>
 (D5 ((!a0.fNext.fV6)&&(!((a0.fNext.fV6==false)&&((a0.fNext.fHi==0)&&((a0.fNext.fLo==0)&&true))))) 3 C A).bind fun E=>
 (O8 ([a0.fMED]:List Int)).bind fun F=>
 (D5 (a0.fMED != (-1)) 4 F E).bind fun G=>
 (O8 ([a0.fPref]:List Int)).bind fun H=>
 (D5 (a0.fPref != (-1)) 5 H G).bind fun I=>
 (L7 a0.fCommunities).bind fun J=>
 (D5 (decide (0<(a0.fCommunities.length:Int))) 8 J I).bind fun K=>
 (Y9 a0.fLarge).bind fun M=>
 (D5 (decide (0<(a0.fLarge.length:Int))) 32 M K).bind fun N=>
 (O8 ([a0.fOTC]:List Int)).bind fun O=>
 (D5 (a0.fOTC != (-1)) 35 O N).bind fun P=>
 (loop (N3 a0) (0,P)).bind fun i=>
 (L8 i).bind fun p=>
 chk (decide (p.length=i.length))<|
 some (p,0))
theorem A7m (a0:D3) (r:(List A3)×Int) (h:L1 a0=some r):AC Tryz.prog 165 [.d (C7 a0)] Zz10 (.tup [.sref 900000 3 0 r.1.length,.d (.int .i64 r.2)]) [(500,some (.know (globD 0 (.imap gv0)))),(900000,some (.row 78 3 (r.1.map B4)))]:=by
 refine ac2 Tryz.func165 rfl rfl fun B hB hN L => ?_;delta L1 at h;refine sr (SQ tt) ?_;apply seq;apply seq;obtain⟨I,X,h⟩:=bindS h;refine rg (SQ (fa (cl [(500,500)] (A1p a0 I X)) tt)) ?_;apply A0;refine ghost (mp [] [(1,pt 1001),(10,bo (!I))] [(500,some (.know (globD 0 (.imap gv0)))),(1001,bd 39 (C7 a0))] hB) ?_;apply AWp.cond rfl<;>intro J
 ·have h:=A4 J h;refine sr (SQ tt) ?_;apply ret;apply B6;obtain rfl:=oi h;exact rt (Mat.trans (Mat.beginP (n:=900500) (e:=78) (sz:=3) (Ts:=[(2,.sref 900500 3 0 0)]) (Bs:=[]) hB (by decide) (by rfl) (by decide) (TwT.cons (x:=.nils) (by rfl) (Tw.leaf ⟨rfl,rfl⟩) TwT.nil) TwB.nil) (Mat.trans (Mat.lenP (Ts:=[(2,.sref 900500 3 0 (([]:List A3).length))]) (Bs:=[]) (TwT.cons (x:=(.sref 900500 3 0 0)) (by rfl) (Tw.leaf ⟨_,_,_,_,_,rfl,rfl,(by first | rfl | (simp;done) | (simp;omega) | omega)⟩) TwT.nil) TwB.nil) (mp [(900000,900500)] [(2,.sref 900000 3 0 (([]:List A3).length)),(3,i6 1)] [(500,some (.know (globD 0 (.imap gv0)))),(900000,some (D8 ([]:List A3)))] hB))) [.sref 900000 3 0 (([]:List A3).length),i6 1] (rT (rT rN)) rfl
 ·have h:=A5 J h;apply AWp.skip;apply A0;refine sr (SQ tt) ?_;apply sr (cg (OpJ.makeF (OpdL.cons (q 4) OpdL.nil) rfl rfl (L rfl)) rfl (c (assign (L rfl) (q 11)) rfl cn));apply seq;obtain⟨t,Y,h⟩:=bindS h;refine rg (SQ (fa (cl [(0,1004),(500,500),(950000,100100)] (A7k (a0.fOrigin != (-1)) 1 ([IntKind.u8.wrap a0.fOrigin]:List Int) t Y)) tt)) ?_;apply A0;refine ghost (mp [] [(1,pt 1001),(4,pt 1004),(5,.func 176 [pt 1004])] [(500,some (.know (globD 0 (.imap gv0)))),(1001,bd 39 (C7 a0)),(1004,some (.box 37 (.sref 100100 3 0 t.length))),(100100,some (D8 t))] hB) ?_;apply seq;obtain⟨K,Z,h⟩:=bindS h;obtain⟨u,aa,h⟩:=bindS h;refine drS (SQ (fa (cl [] (A94 a0.fPath K Z)) (fa (cl [(0,1004),(1,100100),(500,500),(950000,100300)] (H7 ((a0.fOrigin != (-1)) || (decide (0<(a0.fPath.length:Int)))) 2 K t u aa)) tt))) ?_;apply A0;refine ghost (mp [] [(1,pt 1001),(4,pt 1004),(5,.func 176 [pt 1004])] [(500,some (.know (globD 0 (.imap gv0)))),(1001,bd 39 (C7 a0)),(1004,some (.box 37 (.sref 100300 3 0 u.length))),(100300,some (D8 u))] hB) ?_;apply seq;obtain⟨M,ab,h⟩:=bindS h;obtain⟨A,ac,h⟩:=bindS h;refine drS (SQ (fa (cl [] (A3l a0.fNext M ab)) (fa (cl [(0,1004),(1,100300),(500,500),(950000,100500)] (H7 ((!a0.fNext.fV6)&&(!((a0.fNext.fV6==false)&&((a0.fNext.fHi==0)&&((a0.fNext.fLo==0)&&true))))) 3 M u A ac)) tt))) ?_;apply A0;refine ghost (mp [] [(1,pt 1001),(4,pt 1004),(5,.func 176 [pt 1004])] [(500,some (.know (globD 0 (.imap gv0)))),(1001,bd 39 (C7 a0)),(1004,some (.box 37 (.sref 100500 3 0 A.length))),(100500,some (D8 A))] hB) ?_;apply seq;obtain⟨N,ae,h⟩:=bindS h;obtain⟨C,af,h⟩:=bindS h;refine drS (SQ (fa (cl [] (A1r ([a0.fMED]:List Int) N ae)) (fa (cl [(0,1004),(1,100500),(500,500),(950000,100700)] (H7 (a0.fMED != (-1)) 4 N A C af)) tt))) ?_;apply A0;refine ghost (mp [] [(1,pt 1001),(4,pt 1004),(5,.func 176 [pt 1004])] [(500,some (.know (globD 0 (.imap gv0)))),(1001,bd 39 (C7 a0)),(1004,some (.box 37 (.sref 100700 3 0 C.length))),(100700,some (D8 C))] hB) ?_;apply seq;obtain⟨O,ag,h⟩:=bindS h;obtain⟨E,ah,h⟩:=bindS h;refine drS (SQ (fa (cl [] (A1r ([a0.fPref]:List Int) O ag)) (fa (cl [(0,1004),(1,100700),(500,500),(950000,100900)] (H7 (a0.fPref != (-1)) 5 O C E ah)) tt))) ?_;apply A0;refine ghost (mp [] [(1,pt 1001),(4,pt 1004),(5,.func 176 [pt 1004])] [(500,some (.know (globD 0 (.imap gv0)))),(1001,bd 39 (C7 a0)),(1004,some (.box 37 (.sref 100900 3 0 E.length))),(100900,some (D8 E))] hB) ?_;apply seq;obtain⟨P,ai,h⟩:=bindS h;obtain⟨F,aj,h⟩:=bindS h;refine drS (SQ (fa (cl [] (A5p a0.fCommunities P ai)) (fa (cl [(0,1004),(1,100900),(500,500),(950000,101100)] (H7 (decide (0<(a0.fCommunities.length:Int))) 8 P E F aj)) tt))) ?_;apply A0;refine ghost (mp [] [(1,pt 1001),(4,pt 1004),(5,.func 176 [pt 1004])] [(500,some (.know (globD 0 (.imap gv0)))),(1001,bd 39 (C7 a0)),(1004,some (.box 37 (.sref 101100 3 0 F.length))),(101100,some (D8 F))] hB) ?_;apply seq;obtain⟨Q,ak,h⟩:=bindS h;obtain⟨G,al,h⟩:=bindS h;refine drS (SQ (fa (cl [] (A8p a0.fLarge Q ak)) (fa (cl [(0,1004),(1,101100),(500,500),(950000,101300)] (H7 (decide (0<(a0.fLarge.length:Int))) 32 Q F G al)) tt))) ?_;apply A0;refine ghost (mp [] [(1,pt 1001),(4,pt 1004),(5,.func 176 [pt 1004])] [(500,some (.know (globD 0 (.imap gv0)))),(1001,bd 39 (C7 a0)),(1004,some (.box 37 (.sref 101300 3 0 G.length))),(101300,some (D8 G))] hB) ?_;apply seq;obtain⟨R,am,h⟩:=bindS h;obtain⟨H,an,h⟩:=bindS h;refine drS (SQ (fa (cl [] (A1r ([a0.fOTC]:List Int) R am)) (fa (cl [(0,1004),(1,101300),(500,500),(950000,101500)] (H7 (a0.fOTC != (-1)) 35 R G H an)) tt))) ?_;apply A0;refine ghost (mp [] [(1,pt 1001),(4,pt 1004)] [(500,some (.know (globD 0 (.imap gv0)))),(1001,bd 39 (C7 a0)),(1004,some (.box 37 (.sref 101500 3 0 H.length))),(101500,some (D8 H))] hB) ?_;apply seq;refine sr (SQ tt) ?_;apply block;obtain⟨i,ao,h⟩:=bindS h;refine lg (N3 a0) (fun s:Int×(List A3)=>([(4,pt 1004),(96,C2 a0.fOther),(97,i6 (a0.fOther.length:Int)),(98,i6 s.1)]:EL)) (fun s:Int×(List A3)=>([(500,some (.know (globD 0 (.imap gv0)))),(1004,some (.box 37 (.sref 4004 3 0 s.2.length))),(4004,some (D8 s.2))]:OL)) (fun(i:(List A3)) e S T=>e = .exit 0∧Mat B S T ([(4,pt 1004)]:EL) ([(500,some (.know (globD 0 (.imap gv0)))),(1004,some (.box 37 (.sref 4004 3 0 i.length))),(4004,some (D8 i))]:OL)) ao (mp [(4004,101500)] _ _ hB) (fun s y h => ?_) (fun e S T hR => ?_)
  ·unfold N3 at h;refine sr (SQ tt) ?_;apply seq;apply AWp.cond rfl<;>intro U
   ·have h:=A4 U h;apply AWp.skip;apply A0;apply seq;apply block;obtain⟨ap,aq,h⟩:=bindS h;refine sr (SQ (fa aq tt)) ?_;obtain⟨ar,au,h⟩:=bindS h;refine sr (SQ (fa (cl [] (A5q ap.fData ar au)) tt)) ?_;obtain⟨av,h⟩:=B2 h;refine rg (SQ (fa av tt)) ?_;apply D9;apply A0;refine rg (SQ tt) ?_;obtain rfl:=oi h;exact⟨rfl,mp [(4004,1109)] _ _ hB⟩
   ·have h:=A5 U h;apply AWp.exit;apply D7;obtain rfl:=oi h;exact⟨nofun,rfl,mp [] _ _ hB⟩
  ·obtain⟨rfl,aw⟩:=hR;apply C0;apply A0;refine ghost aw ?_;apply seq;obtain⟨p,ax,h⟩:=bindS h;obtain⟨W,h⟩:=B2 h;have lhc35:=of_decide_eq_true W;have hc35_o:=of_decide_eq_true W;refine rg (SQ (fa (cl [(0,4004)] (V1 i p ax)) tt)) ?_;apply A0;refine ghost (mp [] [(4,pt 1004)] [(500,some (.know (globD 0 (.imap gv0)))),(1004,some (.box 37 (.sref 4004 3 0 i.length))),(4004,some (D8 p))] hB) ?_;refine sr (SQ tt) ?_;apply ret;obtain rfl:=oi h;exact rt (Mat.trans (Mat.lenP (Ts:=[(2,.sref 4004 3 0 p.length)]) (Bs:=[]) (TwT.cons (x:=(.sref 4004 3 0 i.length)) (by rfl) (Tw.leaf ⟨_,_,_,_,_,rfl,rfl,(by first | rfl | (simp;done) | (simp;omega) | omega)⟩) TwT.nil) TwB.nil) (mp [(900000,4004)] [(2,.sref 900000 3 0 p.length),(3,i6 0)] [(500,some (.know (globD 0 (.imap gv0)))),(900000,some (D8 p))] hB)) [.sref 900000 3 0 p.length,i6 0] (rT (rT rN)) rfl
def A2r (a0:(List A1)) (a1:Bool) (p:Int×(List Int)):Option (List Int⊕(Int×(List Int))):=
 (if (decide (p.1<(a0.length:Int)))=true then
 (idx a0 p.1).bind fun i=>
 jn (fun u:(List Int)=>
 some (.inr (w64 (p.1+1),u))) (fun t=>
 (if (i.fAddr.fV6==a1)=true then
 chk (decide ((p.2++([IntKind.u8.wrap i.fLen]:List Int)).length≤LIM))<|
 (W8 i.fAddr).bind fun s=>
 chk (decide (0≤(w64 (Int.tdiv (w64 (i.fLen+7)) 8)))&&decide (0≤(w64 (Int.tdiv (w64 (i.fLen+7)) 8)).toNat)&&decide ((w64 (Int.tdiv (w64 (i.fLen+7)) 8)).toNat≤s.length))<|
 chk (decide (((p.2++([IntKind.u8.wrap i.fLen]:List Int))++((s.take ((w64 (Int.tdiv (w64 (i.fLen+7)) 8)).toNat)).drop 0)).length≤LIM))<|
 t ((p.2++([IntKind.u8.wrap i.fLen]:List Int))++((s.take ((w64 (Int.tdiv (w64 (i.fLen+7)) 8)).toNat)).drop 0))
 else
 t p.2))
 else
 some (.inl p.2))
def N4 (a0:(List A1)) (a1:Bool):Option (List Int):=
 (loop (A2r a0 a1) (0,([]:List Int))).bind fun i=>
 some i
theorem A5c (a0:(List A1)) (a1:Bool) (r:(List Int)) (h:N4 a0 a1=some r):AC Tryz.prog 157 [.nils,.d (.list 4 (a0.map B0)),.d (.bool a1)] [] (.d (.list 1 (r.map (eI .u8)))) []:=by
 refine ac2 Tryz.func157 rfl rfl fun B hB hN L => ?_;delta N4 at h;refine sr (SQ tt) ?_;apply seq;refine sr (SQ tt) ?_;apply block;obtain⟨i,G,h⟩:=bindS h;refine lg (A2r a0 a1) (fun p:Int×(List Int)=>([(0,.sref 3000 1 0 p.2.length),(2,bo a1),(9,F7 a0),(10,i6 (a0.length:Int)),(11,i6 p.1)]:EL)) (fun p:Int×(List Int)=>([(3000,some (.row 5 1 (p.2.map (eI .u8))))]:OL)) (fun(i:(List Int)) e t u=>e = .exit 0∧Mat B t u ([(0,.sref 3000 1 0 i.length)]:EL) ([(3000,some (.row 5 1 (i.map (eI .u8))))]:OL)) G (Mat.trans (Mat.beginP (n:=3000) (e:=5) (sz:=1) (Ts:=[(0,.sref 3000 1 0 0)]) (Bs:=[]) hB (by decide) (by rfl) (by decide) (TwT.cons (x:=.nils) (by rfl) (Tw.leaf ⟨rfl,rfl⟩) TwT.nil) TwB.nil) (mp [] _ _ hB)) (fun p y h => ?_) (fun e t u hR => ?_)
 ·unfold A2r at h;refine sr (SQ tt) ?_;apply seq;apply AWp.cond rfl<;>intro C
  ·have h:=A4 C h;apply AWp.skip;apply A0;apply seq;apply block;obtain⟨H,I,h⟩:=bindS h;refine sr (SQ (fa I tt)) ?_;refine sr (SQ tt) ?_;refine gh [(0,_),(2,_),(8,_),(9,_),(10,_),(11,_),(19,_)] [(1008,some _),(3000,some _)] hB rfl rfl (by rfl) ?_;refine AWp.cut h (fun s:(List Int)=>([(0,.sref 3000 1 0 s.length),(2,bo a1),(9,F7 a0),(10,i6 (a0.length:Int)),(11,i6 p.1)]:EL)) (fun s:(List Int)=>([(3000,some (.row 5 1 (s.map (eI .u8))))]:OL)) (fun s h t u A => ?_) (fun P E h => ?_)
   ·apply D9;apply A0;refine ghost A ?_;refine rg (SQ tt) ?_;obtain rfl:=oi h;exact⟨rfl,mp [] _ _ hB⟩
   ·apply AWp.cond rfl<;>intro F
    ·have h:=A4 F h;obtain⟨J,h⟩:=B2 h;obtain⟨K,M,h⟩:=bindS h;obtain⟨N,h⟩:=B2 h;obtain⟨O,h⟩:=B2 h;refine drS (SQ (fa J (fa (cl [] (A3l H.fAddr K M)) (fa N (fa O tt))))) ?_;exact E _ h _ _ (mp [(3000,1034)] _ _ hB)
    ·have h:=A5 F h;apply AWp.skip;exact E _ h _ _ (mp [] _ _ hB)
  ·have h:=A5 C h;apply AWp.exit;apply D7;obtain rfl:=oi h;exact⟨nofun,rfl,mp [] _ _ hB⟩
 ·obtain⟨rfl,A⟩:=hR;apply C0;apply A0;refine ghost A ?_;refine sr (SQ tt) ?_;apply ret;obtain rfl:=oi h;exact rt (Mat.trans (Mat.freezeP (n:=3000) (e:=5) (sz:=1) (es:=i.map (eI .u8)) (Ts:=[(6,.d (.list 1 (i.map (eI .u8))))]) (Bs:=[]) (by rfl) (TwT.cons (x:=(.sref 3000 1 0 i.length)) (by rfl) (FrzL.all (by first | rfl | (simp;done) | (simp;omega) | omega)) TwT.nil) TwB.nil) (mp [] [(6,.d (.list 1 (i.map (eI .u8))))] [] hB)) [.d (.list 1 (i.map (eI .u8)))] (rT rN) rfl
def Z5 (a0:A3) (a1:A3):Option (Int):=
 (J3 a0.fType a1.fType).bind fun i=>
 some i
theorem A9o (a0:A3) (a1:A3) (r:Int) (h:Z5 a0 a1=some r):AC Tryz.prog 168 [.d (B4 a0),.d (B4 a1)] [] (.d (.int .i64 r)) []:=by
 refine AC.of_code2 Tryz.func168 rfl rfl (Nat.le_of_ble_eq_true (by rfl)) fun B hB hN => ?_;delta Z5 at h;refine sr (SQ tt) ?_;obtain⟨i,p,h⟩:=bindS h;refine sr (SQ (fa (cl [] (L0 a0.fType a1.fType i p)) tt)) ?_;apply ret;obtain rfl:=oi h;exact rt (kp [(4,_)] [] hB rfl rfl (by rfl)) [i6 i] (rT rN) rfl
def J2 (a0:(List A3)):Option (List A3):=sortF a0 fun x y=>Z5 x y
theorem A02 (a0:(List A3)) (r:List A3) (h:J2 a0=some r):AC Tryz.prog 167 [.sref 0 3 0 a0.length,.func 168 []] [(0,.row 78 3 (a0.map B4))] (.tup []) [(0,some (.row 78 3 (r.map B4)))]:=
 AC.sortF B4 (fun x y=>Z5 x y) a0 r h sortOk167 fnOk168 (fun _=>rfl) rfl rfl (fun x y c hc=>A9o x y c hc)
def V3 (a0:A7):Option (List A3):=
 (L1 a0.fAttrs).bind fun p=>
 jn (fun s:(List A3)=>
 (N4 a0.fWithdraw true).bind fun i=>
 jn (fun t:(List A3)=>
 (J2 t).bind fun A=>
 chk (decide (A.length=t.length))<|
 some ((A.drop 0).take t.length)) (fun C=>
 (if (decide (0<(i.length:Int)))=true then
 chk (decide ((([0,2,1]:List Int)++i).length≤LIM))<|
 chk (decide ((s++([A3.mk 128 15 (([0,2,1]:List Int)++i)]:List A3)).length≤LIM))<|
 C (s++([A3.mk 128 15 (([0,2,1]:List Int)++i)]:List A3))
 else
 C s))) (fun E=>
 (if ((decide (0<(a0.fAnnounce.length:Int)))&&a0.fAttrs.fNext.fV6)=true then
 (W8 a0.fAttrs.fNext).bind fun u=>
 chk (decide ((([0,2,1,16]:List Int)++u).length≤LIM))<|
 chk (decide (((([0,2,1,16]:List Int)++u)++([0]:List Int)).length≤LIM))<|
 (X0 ((([0,2,1,16]:List Int)++u)++([0]:List Int)) a0.fAnnounce true).bind fun F=>
 chk (decide ((p.1++[A3.mk 128 14 F]).length≤LIM))<|
 E (p.1++[A3.mk 128 14 F])
 else
 E p.1))
theorem B28 (a0:A7) (r:(List A3)) (h:V3 a0=some r):AC Tryz.prog 156 [.d (E5 a0)] Zz10 (.d (.list 3 (r.map B4))) Zz4:=by
 refine ac2 Tryz.func156 rfl rfl fun B hB hN L => ?_;delta V3 at h;refine sr (SQ tt) ?_;apply seq;obtain⟨u,J,h⟩:=bindS h;refine rg (SQ (fa (cl [(500,500),(900000,100000)] (A7m a0.fAttrs u J)) tt)) ?_;apply A0;refine ghost (mp [] [(1,pt 1001),(3,.sref 100000 3 0 u.1.length)] [(500,some (.know (globD 0 (.imap gv0)))),(1001,bd 71 (E5 a0)),(100000,some (D8 u.1))] hB) ?_;apply seq;refine sr (SQ tt) ?_;refine gh [(1,_),(3,_),(22,_)] [(500,some _),(1001,some _),(100000,some _)] hB rfl rfl (by rfl) ?_;refine AWp.cut h (fun t:(List A3)=>([(1,pt 1001),(3,.sref 3003 3 0 t.length)]:EL)) (fun t:(List A3)=>([(500,some (.know (globD 0 (.imap gv0)))),(1001,bd 71 (E5 a0)),(3003,some (D8 t))]:OL)) (fun t h K M A => ?_) (fun Y E h => ?_)
 ·apply A0;refine ghost A ?_;apply seq;obtain⟨p,N,h⟩:=bindS h;refine sr (SQ (fa (cl [] (A5c a0.fWithdraw true p N)) tt)) ?_;refine sr (SQ tt) ?_;refine gh [(3,_),(6,_),(44,_)] [(500,some _),(3003,some _)] hB rfl rfl (by rfl) ?_;refine AWp.cut h (fun i:(List A3)=>([(3,.sref 3003 3 0 i.length)]:EL)) (fun i:(List A3)=>([(500,some (.know (globD 0 (.imap gv0)))),(3003,some (D8 i))]:OL)) (fun i h K M A => ?_) (fun Z F h => ?_)
  ·apply A0;refine ghost A ?_;apply seq;obtain⟨s,O,h⟩:=bindS h;obtain⟨G,h⟩:=B2 h;have lhc18:=of_decide_eq_true G;have hc18_o:=of_decide_eq_true G;refine rg (SQ (fa (cl [(0,3003)] (A02 i s O)) tt)) ?_;apply A0;refine ghost (mp [] [(3,.sref 3003 3 0 i.length)] [(500,some (.know (globD 0 (.imap gv0)))),(3003,some (D8 s))] hB) ?_;refine sr (SQ tt) ?_;apply ret;obtain rfl:=oi h;exact rt (Mat.trans (Mat.freezeP (n:=3003) (e:=78) (sz:=3) (es:=s.map B4) (Ts:=[(2,C2 ((s.drop 0).take i.length))]) (Bs:=[]) (by rfl) (TwT.cons (x:=(.sref 3003 3 0 i.length)) (by rfl) (FrzL.cut (fs:=((s.drop 0).take i.length).map B4) (by simp only [List.length_map,List.length_append,List.length_take,List.length_drop,List.length_replicate,List.length_set];omega) (by first | rw [List.map_drop,List.map_take] | (simp [List.map_take,List.map_drop];done) | simp [List.take_of_length_le])) TwT.nil) TwB.nil) (mp [] [(2,C2 ((s.drop 0).take i.length))] Zz4 hB)) [C2 ((s.drop 0).take i.length)] (rT rN) rfl
  ·apply AWp.cond rfl<;>intro H
   ·have h:=A4 H h;obtain⟨P,h⟩:=B2 h;obtain⟨Q,h⟩:=B2 h;apply rg (c (mv hN (q 3)) rfl (cg (OpJ.buildSliceR underlying76 tyS5 tyZD5 (by rfl) (by decide) (by decide) hB (nm:=1046) (by decide) (len:=([0,2,1]:List Int).length) (by rfl) (Opds.cons (Opd.int .u8 (0)) (Opds.cons (Opd.int .u8 (2)) (Opds.cons (Opd.int .u8 (1)) Opds.nil))) (by kernel_rfl) (es:=([0,2,1]:List Int).map (eI .u8)) (by rfl) (by rfl) (by kernel_rfl) (by simp) (L rfl)) rfl (c (mv hN (q 6)) rfl (cg (OpJ.frz (apd hB underlying76 tyE5 1048 (eI .u8) ([0,2,1]:List Int) p P (L rfl) (q 46) (q 47)) (by simp)) rfl (c (OpJ.coe (v:=(.st [i6 128,i6 15,.d (.list 1 ((([0,2,1]:List Int)++p).map (eI .u8)))])) (y:=(.st [.int .i64 128,.int .i64 15,.list 1 ((([0,2,1]:List Int)++p).map (eI .u8))])) (Co.st (CoL.cons (Co.d _) (CoL.cons (Co.d _) (CoL.cons (Co.d _) CoL.nil)))) rfl (OpJ.build (places:=[(0,1),(1,1),(2,1)]) ⟨underlying78,fun w=>by kernel_rfl⟩ tyZS78 (Opds.cons (ii 128) (Opds.cons (ii 15) (Opds.cons (q 48) Opds.nil))) (by kernel_rfl) (r:=(.st [i6 128,i6 15,.d (.list 1 ((([0,2,1]:List Int)++p).map (eI .u8)))])) (by rfl) (L rfl))) rfl (c (buildSlice underlying37 tyS78 tyZD78 (by rfl) (by decide) (by decide) (Opds.cons (q 49) Opds.nil) (by kernel_rfl) (es:=([.st [.int .i64 128,.int .i64 15,.list 1 ((([0,2,1]:List Int)++p).map (eI .u8))]]:List D)) (by rfl) (by rfl) (by kernel_rfl) (by simp) (L rfl)) rfl (cg (apd hB underlying37 tyE78 1051 B4 t ([A3.mk 128 15 (([0,2,1]:List Int)++p)]:List A3) Q (L rfl) (q 45) (q 50)) rfl (c (assign (L rfl) (q 51)) rfl cn))))))));exact F _ h _ _ (mp [(3003,1051)] _ _ hB)
   ·have h:=A5 H h;apply AWp.skip;exact F _ h _ _ (mp [] _ _ hB)
 ·apply AWp.cond rfl<;>intro I
  ·have h:=A4 I h;obtain⟨C,R,h⟩:=bindS h;obtain⟨S,h⟩:=B2 h;apply sr (cg (OpJ.buildSliceR underlying76 tyS5 tyZD5 (by rfl) (by decide) (by decide) hB (nm:=1023) (by decide) (len:=([0,2,1,16]:List Int).length) (by rfl) (Opds.cons (Opd.int .u8 (0)) (Opds.cons (Opd.int .u8 (2)) (Opds.cons (Opd.int .u8 (1)) (Opds.cons (Opd.int .u8 (16)) Opds.nil)))) (by kernel_rfl) (es:=([0,2,1,16]:List Int).map (eI .u8)) (by rfl) (by rfl) (by kernel_rfl) (by simp) (L rfl)) rfl (c (fo 1001 1 [1] hN underlying71 1 tyS39 (q 1)) rfl (c (fo 1001 3 [1,2] hN underlying39 2 tyS31 (q 24)) rfl (c (lb hN 71 _ _ tyS31 (At.dst1 (by rfl) (by rfl) (ad _) (by first | rfl | omega)) (q 25)) rfl (cg (cf hB fnOk166 (A3l a0.fAttrs.fNext C R) (L rfl) (OpdL.cons (q 26) OpdL.nil)) rfl (cg (apd hB underlying76 tyE5 1028 (eI .u8) ([0,2,1,16]:List Int) C S (L rfl) (q 23) (q 27)) rfl (c (assign (L rfl) (q 28)) rfl cn)))))))
   obtain⟨T,h⟩:=B2 h;obtain⟨U,W,h⟩:=bindS h;obtain⟨X,h⟩:=B2 h;refine drS (SQ (fa T (fa (cl [(0,1032)] (A6v ((([0,2,1,16]:List Int)++C)++([0]:List Int)) a0.fAnnounce true U W)) (fa X tt)))) ?_;exact E _ h _ _ (mp [(3003,1038)] _ _ hB)
  ·have h:=A5 I h;apply AWp.skip;exact E _ h _ _ (mp [(3003,100000)] _ _ hB)
def S1 (a0:(List A3)) (i:Int):Option ((Unit⊕Unit)⊕Int):=
 (if (decide (i<(a0.length:Int)))=true then
 (idx a0 i).bind fun p=>
 jn (fun t:Bool=>
 (if t=true then
 some (.inl (.inl ()))
 else
 some (.inr (w64 (i+1))))) (fun s=>
 (H4 p.fFlags 0 255).bind fun u=>
 (if (!u)=true then
 s true
 else
 (H4 p.fType 0 255).bind fun A=>
 s ((!A) || (decide (65535<(p.fData.length:Int))))))
 else
 some (.inl (.inr ())))
def S2 (a0:(List A3)) (p:Int×(List Int)):Option ((Unit⊕List Int)⊕(Int×(List Int))):=
 (if (decide (p.1<(a0.length:Int)))=true then
 (idx a0 p.1).bind fun i=>
 jn (fun s:(List Int)=>
 chk (decide ((s++i.fData).length≤LIM))<|
 (if (decide (2048<((s++i.fData).length:Int)))=true then
 some (.inl (.inl ()))
 else
 some (.inr (w64 (p.1+1),(s++i.fData))))) (fun t=>
 (if (decide (255<(i.fData.length:Int)))=true then
 chk (decide ((p.2++([bitI .or .u8 (bitI .and .u8 (IntKind.u8.wrap i.fFlags) 224) 16,IntKind.u8.wrap i.fType,IntKind.u8.wrap (shrI .i64 (i.fData.length:Int) 8),IntKind.u8.wrap (i.fData.length:Int)]:List Int)).length≤LIM))<|
 t (p.2++([bitI .or .u8 (bitI .and .u8 (IntKind.u8.wrap i.fFlags) 224) 16,IntKind.u8.wrap i.fType,IntKind.u8.wrap (shrI .i64 (i.fData.length:Int) 8),IntKind.u8.wrap (i.fData.length:Int)]:List Int))
 else
 chk (decide ((p.2++([bitI .and .u8 (IntKind.u8.wrap i.fFlags) 224,IntKind.u8.wrap i.fType,IntKind.u8.wrap (i.fData.length:Int)]:List Int)).length≤LIM))<|
 t (p.2++([bitI .and .u8 (IntKind.u8.wrap i.fFlags) 224,IntKind.u8.wrap i.fType,IntKind.u8.wrap (i.fData.length:Int)]:List Int))))
 else
 some (.inl (.inr p.2)))
def A0n (a0:(List A3)):Option ((List Int)×Int):=
 (loop (S1 a0) 0).bind fun i=>match i with
 | (.inl _)=>
  some (([]:List Int),1)
 | (.inr _)=>
  (loop (S2 a0) (0,([]:List Int))).bind fun p=>match p with
  | (.inl _)=>
   some (([]:List Int),3)
  | (.inr s)=>
   some (s,0)
theorem A95 (a0:(List A3)) (r:(List Int)×Int) (h:A0n a0=some r):AC Tryz.prog 155 [.d (.list 3 (a0.map B4))] [] (.tup [.d (.list 1 (r.1.map (eI .u8))),.d (.int .i64 r.2)]) []:=by
 refine ac2 Tryz.func155 rfl rfl fun B hB hN L => ?_;delta A0n at h;refine sr (SQ tt) ?_;apply seq;refine sr (SQ tt) ?_;apply block;obtain⟨R,S,h⟩:=bindS h;refine lg (S1 a0) (fun C:Int=>([(0,C2 a0),(11,C2 a0),(12,i6 (a0.length:Int)),(13,i6 C)]:EL)) (fun C:Int=>([]:OL)) (fun(x:(Unit)⊕Unit) e p s=>match x with | (.inl _p)=>e = .ret∧Mat B p s ([(2,.nils),(3,i6 1)]:EL) ([]:OL) | (.inr _p)=>e = .exit 0∧Mat B p s ([(0,C2 a0)]:EL) ([]:OL)) S (mp [] _ _ hB) (fun C y h => ?_) (fun e p s hR => ?_)
 ·unfold S1 at h;refine sr (SQ tt) ?_;apply seq;apply AWp.cond rfl<;>intro I
  ·have h:=A4 I h;apply AWp.skip;apply A0;apply seq;apply block;obtain⟨F,T,h⟩:=bindS h;refine sr (SQ (fa T tt)) ?_;apply seq;refine AWp.cut h (fun G:Bool=>([(0,C2 a0),(11,C2 a0),(12,i6 (a0.length:Int)),(13,i6 C),(32,bo G)]:EL)) (fun G:Bool=>([]:OL)) (fun G h p s i => ?_) (fun af J h => ?_)
   ·apply A0;refine ghost i ?_;apply AWp.cond rfl<;>intro K
    ·have h:=A4 K h;refine sr (SQ tt) ?_;apply ret;apply E0;apply B6;obtain rfl:=oi h;exact⟨nofun,rfl,mp [] _ _ hB⟩
    ·have h:=A5 K h;apply AWp.skip;apply D9;apply A0;refine rg (SQ tt) ?_;obtain rfl:=oi h;exact⟨rfl,mp [] _ _ hB⟩
   ·obtain⟨H,M,h⟩:=bindS h;rcases bft (!H) with A | A
    ·have h:=A4 A h;refine rg (SQ (fa (cl [] (C3 F.fFlags 0 255 H M)) (fa A tt))) ?_;exact J _ h _ _ (mp [] _ _ hB)
    ·have h:=A5 A h;obtain⟨U,W,h⟩:=bindS h;refine rg (SQ (fa (cl [] (C3 F.fFlags 0 255 H M)) (fa A (fa (cl [] (C3 F.fType 0 255 U W)) tt)))) ?_;exact J _ h _ _ (mp [] _ _ hB)
  ·have h:=A5 I h;apply AWp.exit;apply D7;obtain rfl:=oi h;exact⟨nofun,rfl,mp [] _ _ hB⟩
 ·rcases R with _ | _
  ·obtain⟨rfl,i⟩:=hR;apply E0;apply B6;obtain rfl:=oi h;exact rt (Mat.trans i (Mat.trans (Mat.coeP (Ts:=[(2,.d (.list 1 (([]:List Int).map (eI .u8))))]) (Bs:=[]) (TwT.cons (x:=.nils) (by rfl) (Tw.leaf ⟨_,Co.nils 1,rfl⟩) TwT.nil) TwB.nil) (mp [] [(2,.d (.list 1 (([]:List Int).map (eI .u8)))),(3,i6 1)] [] hB))) [.d (.list 1 (([]:List Int).map (eI .u8))),i6 1] (rT (rT rN)) rfl
  ·obtain⟨rfl,i⟩:=hR;apply C0;apply A0;refine ghost i ?_;refine sr (SQ tt) ?_;apply seq;refine sr (SQ tt) ?_;apply block;obtain⟨X,Y,h⟩:=bindS h;refine lg (S2 a0) (fun u:Int×(List Int)=>([(6,.sref 3006 1 0 u.2.length),(34,C2 a0),(35,i6 (a0.length:Int)),(36,i6 u.1)]:EL)) (fun u:Int×(List Int)=>([(3006,some (.row 5 1 (u.2.map (eI .u8))))]:OL)) (fun(x:(Unit)⊕List Int) e p s=>match x with | (.inl _p)=>e = .ret∧Mat B p s ([(2,.nils),(3,i6 3)]:EL) ([]:OL) | (.inr t)=>e = .exit 2∧Mat B p s ([(6,.sref 3006 1 0 t.length)]:EL) ([(3006,some (.row 5 1 (t.map (eI .u8))))]:OL)) Y (Mat.trans (Mat.beginP (n:=3006) (e:=5) (sz:=1) (Ts:=[(6,.sref 3006 1 0 0)]) (Bs:=[]) hB (by decide) (by rfl) (by decide) (TwT.cons (x:=.nils) (by rfl) (Tw.leaf ⟨rfl,rfl⟩) TwT.nil) TwB.nil) (mp [] _ _ hB)) (fun u y h => ?_) (fun e p s hR => ?_)
   ·unfold S2 at h;refine sr (SQ tt) ?_;apply seq;apply AWp.cond rfl<;>intro N
    ·have h:=A4 N h;apply AWp.skip;apply A0;apply seq;apply block;obtain⟨Z,aa,h⟩:=bindS h;refine sr (SQ (fa aa tt)) ?_;refine sdS (SQ tt) ?_;apply seq;refine sr (SQ tt) ?_;refine gh [(6,_),(8,_),(9,_),(10,_),(34,_),(35,_),(36,_),(48,_)] [(1008,some _),(3006,some _)] hB rfl rfl (by rfl) ?_;refine AWp.cut h (fun E:(List Int)=>([(6,.sref 3006 1 0 E.length),(8,pt 1008),(34,C2 a0),(35,i6 (a0.length:Int)),(36,i6 u.1)]:EL)) (fun E:(List Int)=>([(1008,bd 78 (B4 Z)),(3006,some (.row 5 1 (E.map (eI .u8))))]:OL)) (fun E h p s i => ?_) (fun ag O h => ?_)
     ·apply A0;refine ghost i ?_;obtain⟨ab,h⟩:=B2 h;refine sr (SQ (fa ab tt)) ?_;refine sr (SQ tt) ?_;apply AWp.cond rfl<;>intro P
      ·have h:=A4 P h;refine sr (SQ tt) ?_;apply ret;apply E0;apply B6;obtain rfl:=oi h;exact⟨nofun,rfl,mp [] _ _ hB⟩
      ·have h:=A5 P h;apply AWp.skip;apply D9;apply A0;refine rg (SQ tt) ?_;obtain rfl:=oi h;exact⟨rfl,mp [(3006,1074)] _ _ hB⟩
     ·apply AWp.cond rfl<;>intro Q
      ·have h:=A4 Q h;obtain⟨ac,h⟩:=B2 h;refine rg (SQ (fa ac tt)) ?_;exact O _ h _ _ (mp [(3006,1061)] _ _ hB)
      ·have h:=A5 Q h;obtain⟨ae,h⟩:=B2 h;refine rg (SQ (fa ae tt)) ?_;exact O _ h _ _ (mp [(3006,1070)] _ _ hB)
    ·have h:=A5 N h;apply AWp.exit;apply D7;obtain rfl:=oi h;exact⟨nofun,rfl,mp [] _ _ hB⟩
   ·rcases X with _ | t
    ·obtain⟨rfl,i⟩:=hR;apply E0;apply B6;obtain rfl:=oi h;exact rt (Mat.trans i (Mat.trans (Mat.coeP (Ts:=[(2,.d (.list 1 (([]:List Int).map (eI .u8))))]) (Bs:=[]) (TwT.cons (x:=.nils) (by rfl) (Tw.leaf ⟨_,Co.nils 1,rfl⟩) TwT.nil) TwB.nil) (mp [] [(2,.d (.list 1 (([]:List Int).map (eI .u8)))),(3,i6 3)] [] hB))) [.d (.list 1 (([]:List Int).map (eI .u8))),i6 3] (rT (rT rN)) rfl
    ·obtain⟨rfl,i⟩:=hR;apply C0;apply A0;refine ghost i ?_;refine sr (SQ tt) ?_;apply ret;obtain rfl:=oi h;exact rt (Mat.trans (Mat.freezeP (n:=3006) (e:=5) (sz:=1) (es:=t.map (eI .u8)) (Ts:=[(2,.d (.list 1 (t.map (eI .u8))))]) (Bs:=[]) (by rfl) (TwT.cons (x:=(.sref 3006 1 0 t.length)) (by rfl) (FrzL.all (by first | rfl | (simp;done) | (simp;omega) | omega)) TwT.nil) TwB.nil) (mp [] [(2,.d (.list 1 (t.map (eI .u8)))),(3,i6 0)] [] hB)) [.d (.list 1 (t.map (eI .u8))),i6 0] (rT (rT rN)) rfl
def A4g (a0:Int):Option (List Int):=
 chk (decide (([IntKind.u8.wrap (shrI .i64 a0 8),IntKind.u8.wrap a0]:List Int).length≤LIM))<|
 some ([IntKind.u8.wrap (shrI .i64 a0 8),IntKind.u8.wrap a0]:List Int)
theorem B0y (a0:Int) (r:(List Int)) (h:A4g a0=some r):AC Tryz.prog 158 [.nils,.d (.int .i64 a0)] [] (.sref 900000 1 0 r.length) [(900000,some (.row 5 1 (r.map (eI .u8))))]:=by
 refine AC.of_code2 Tryz.func158 rfl rfl (Nat.le_of_ble_eq_true (by rfl)) fun B hB hN => ?_;delta A4g at h;refine sr (SQ tt) ?_;obtain⟨i,h⟩:=B2 h;refine sr (SQ (fa i tt)) ?_;apply ret;obtain rfl:=oi h;exact rt (mp [(900000,1012)] [(4,.sref 900000 1 0 (([IntKind.u8.wrap (shrI .i64 a0 8),IntKind.u8.wrap a0]:List Int).length))] [(900000,some (.row 5 1 (([IntKind.u8.wrap (shrI .i64 a0 8),IntKind.u8.wrap a0]:List Int).map (eI .u8))))] hB) [.sref 900000 1 0 (([IntKind.u8.wrap (shrI .i64 a0 8),IntKind.u8.wrap a0]:List Int).length)] (rT rN) rfl
def A4h (a0:(List Int)) (a1:Int):Option (List Int):=
 chk (decide ((a0++([IntKind.u8.wrap (shrI .i64 a1 8),IntKind.u8.wrap a1]:List Int)).length≤LIM))<|
 some (a0++([IntKind.u8.wrap (shrI .i64 a1 8),IntKind.u8.wrap a1]:List Int))
theorem B0z (a0:(List Int)) (a1:Int) (r:(List Int)) (h:A4h a0 a1=some r):AC Tryz.prog 158 [.sref 0 1 0 a0.length,.d (.int .i64 a1)] [(0,.row 5 1 (a0.map (eI .u8)))] (.sref 900000 1 0 r.length) [(0,none),(900000,some (.row 5 1 (r.map (eI .u8))))]:=by
 refine AC.of_code2 Tryz.func158 rfl rfl (Nat.le_of_ble_eq_true (by rfl)) fun B hB hN => ?_;delta A4h at h;refine sr (SQ tt) ?_;obtain⟨i,h⟩:=B2 h;have hc1_o:=i;simp only [decide_eq_true_eq] at hc1_o;refine sr (SQ (fa i tt)) ?_;apply ret;obtain rfl:=oi h;exact rt (mp [(900000,1012)] [(4,.sref 900000 1 0 ((a0++([IntKind.u8.wrap (shrI .i64 a1 8),IntKind.u8.wrap a1]:List Int)).length))] [(900000,some (.row 5 1 ((a0++([IntKind.u8.wrap (shrI .i64 a1 8),IntKind.u8.wrap a1]:List Int)).map (eI .u8))))] hB) [.sref 900000 1 0 ((a0++([IntKind.u8.wrap (shrI .i64 a1 8),IntKind.u8.wrap a1]:List Int)).length)] (rT rN) rfl
def A3y (a0:A7):Option ((List Int)×Bool):=
 (V3 a0).bind fun A=>
 (A0n A).bind fun i=>
 (N4 a0.fWithdraw false).bind fun p=>
 (A4g (p.length:Int)).bind fun s=>
 chk (decide ((s++p).length≤LIM))<|
 (A4h (s++p) (i.1.length:Int)).bind fun t=>
 chk (decide ((t++i.1).length≤LIM))<|
 (X0 (t++i.1) a0.fAnnounce false).bind fun u=>
 some (u,((i.2==0)&&(decide ((u.length:Int)≤4077))))
theorem B29 (a0:A7) (r:(List Int)×Bool) (h:A3y a0=some r):AC Tryz.prog 147 [.d (E5 a0)] Zz10 (.tup [.d (.list 1 (r.1.map (eI .u8))),.d (.bool r.2)]) Zz4:=by
 refine ac2 Tryz.func147 rfl rfl fun B hB hN L => ?_;delta A3y at h;refine sr (SQ tt) ?_;apply seq;obtain⟨A,C,h⟩:=bindS h;obtain⟨i,E,h⟩:=bindS h;refine rg (SQ (fa (cl [(500,500)] (B28 a0 A C)) (fa (cl [] (A95 A i E)) tt))) ?_;apply A0;refine ghost (mp [] [(1,pt 1001),(4,.d (.list 1 (i.1.map (eI .u8)))),(5,i6 i.2)] [(500,some (.know (globD 0 (.imap gv0)))),(1001,bd 71 (E5 a0))] hB) ?_;obtain⟨p,F,h⟩:=bindS h;refine sr (SQ (fa (cl [] (A5c a0.fWithdraw false p F)) tt)) ?_;apply seq;obtain⟨s,G,h⟩:=bindS h;obtain⟨H,h⟩:=B2 h;refine rg (SQ (fa (cl [(900000,100300)] (B0y (p.length:Int) s G)) (fa H tt))) ?_;apply A0;refine ghost (mp [] [(1,pt 1001),(4,.d (.list 1 (i.1.map (eI .u8)))),(5,i6 i.2),(7,.sref 1021 1 0 ((s++p).length))] [(500,some (.know (globD 0 (.imap gv0)))),(1001,bd 71 (E5 a0)),(1021,some (.row 5 1 ((s++p).map (eI .u8))))] hB) ?_;apply seq;obtain⟨t,I,h⟩:=bindS h;obtain⟨J,h⟩:=B2 h;refine rg (SQ (fa (cl [(0,1021),(900000,100400)] (B0z (s++p) (i.1.length:Int) t I)) (fa J tt))) ?_;apply A0;refine ghost (mp [] [(1,pt 1001),(5,i6 i.2),(7,.sref 1027 1 0 ((t++i.1).length))] [(500,some (.know (globD 0 (.imap gv0)))),(1001,bd 71 (E5 a0)),(1027,some (.row 5 1 ((t++i.1).map (eI .u8))))] hB) ?_;apply seq;obtain⟨u,K,h⟩:=bindS h;refine rg (SQ (fa (cl [(0,1027)] (A6v (t++i.1) a0.fAnnounce false u K)) tt)) ?_;apply A0;refine ghost (mp [] [(5,i6 i.2),(7,.d (.list 1 (u.map (eI .u8))))] Zz4 hB) ?_;refine sr (SQ tt) ?_;apply ret;obtain rfl:=oi h;exact rt (kp [(2,_),(3,_)] [(500,some _)] hB rfl rfl (by rfl)) [.d (.list 1 (u.map (eI .u8))),bo ((i.2==0)&&(decide ((u.length:Int)≤4077)))] (rT (rT rN)) rfl
def M8 (a0:A7):Option (Bool):=
 jn (fun p:Bool=>
 (if p=true then
 some false
 else
 (A3y a0).bind fun s=>
 some s.2)) (fun i=>
 (if ((decide (256<(a0.fWithdraw.length:Int))) || (decide (256<(a0.fAnnounce.length:Int))))=true then
 i true
 else
 (J1 a0.fWithdraw).bind fun t=>
 (if t=true then
 i true
 else
 (J1 a0.fAnnounce).bind fun u=>
 (if u=true then
 i true
 else
 (A0m a0).bind fun A=>
 i (!A)))))
theorem A48 (a0:A7) (r:Bool) (h:M8 a0=some r):AC Tryz.prog 113 [.d (E5 a0)] Zz10 (.d (.bool r)) Zz4:=by
 refine ac2 Tryz.func113 rfl rfl fun B hB hN L => ?_;delta M8 at h;refine sr (SQ tt) ?_;refine sr (SQ tt) ?_;apply seq;apply seq;refine AWp.cut h (fun A:Bool=>([(1,pt 1001),(32,bo A)]:EL)) (fun A:Bool=>([(500,some (.know (globD 0 (.imap gv0)))),(1001,bd 71 (E5 a0))]:OL)) (fun A h N O I => ?_) (fun P t h => ?_)
 ·apply A0;refine ghost I ?_;apply AWp.cond rfl<;>intro G
  ·have h:=A4 G h;refine sr (SQ tt) ?_;apply ret;apply B6;obtain rfl:=oi h;exact rt (kp [(2,_)] [(500,some _)] hB rfl rfl (by rfl)) [bo false] (rT rN) rfl
  ·have h:=A5 G h;apply AWp.skip;apply A0;apply seq;obtain⟨C,J,h⟩:=bindS h;refine rg (SQ (fa (cl [(500,500)] (B29 a0 C J)) tt)) ?_;apply A0;refine ghost (mp [] [(5,bo C.2)] Zz4 hB) ?_;refine sr (SQ tt) ?_;apply ret;obtain rfl:=oi h;exact rt (kp [(2,_)] [(500,some _)] hB rfl rfl (by rfl)) [bo C.2] (rT rN) rfl
 ·rcases bft ((decide (256<(a0.fWithdraw.length:Int))) || (decide (256<(a0.fAnnounce.length:Int)))) with i | i
  ·have h:=A4 i h;refine rg (SQ (fa i tt)) ?_;exact t _ h _ _ (mp [] _ _ hB)
  ·have h:=A5 i h;obtain⟨u,E,h⟩:=bindS h;rcases bft u with p | p
   ·have h:=A4 p h;refine rg (SQ (fa i (fa (cl [] (K9 a0.fWithdraw u E)) (fa p tt)))) ?_;exact t _ h _ _ (mp [] _ _ hB)
   ·have h:=A5 p h;obtain⟨F,H,h⟩:=bindS h;rcases bft F with s | s
    ·have h:=A4 s h;refine rg (SQ (fa i (fa (cl [] (K9 a0.fWithdraw u E)) (fa p (fa (cl [] (K9 a0.fAnnounce F H)) (fa s tt)))))) ?_;exact t _ h _ _ (mp [] _ _ hB)
    ·have h:=A5 s h;obtain⟨K,M,h⟩:=bindS h;refine rg (SQ (fa i (fa (cl [] (K9 a0.fWithdraw u E)) (fa p (fa (cl [] (K9 a0.fAnnounce F H)) (fa s (fa (cl [(500,500)] (B27 a0 K M)) tt))))))) ?_;exact t _ h _ _ (mp [] _ _ hB)
def A4y (a0:A2):Option (Bool):=
 jn (fun p:Bool=>
 some p) (fun i=>
 (A0x a0.fPrefix).bind fun s=>
 (if s=true then
 (if (!a0.fHas)=true then
 i true
 else
 (if (((a0.fRoute.fPrefix.fAddr.fV6==a0.fPrefix.fAddr.fV6)&&((a0.fRoute.fPrefix.fAddr.fHi==a0.fPrefix.fAddr.fHi)&&((a0.fRoute.fPrefix.fAddr.fLo==a0.fPrefix.fAddr.fLo)&&true)))&&((a0.fRoute.fPrefix.fLen==a0.fPrefix.fLen)&&true))=true then
 (I3 a0.fRoute.fAttrs [a0.fPrefix] true).bind fun t=>
 (M8 t).bind fun u=>
 i u
 else
 i false))
 else
 i false))
theorem A5r (a0:A2) (r:Bool) (h:A4y a0=some r):AC Tryz.prog 75 [.d (A8 a0)] Zz10 (.d (.bool r)) Zz4:=by
 refine ac2 Tryz.func75 rfl rfl fun B hB hN L => ?_;delta A4y at h;refine sr (SQ tt) ?_;apply seq;refine AWp.cut h (fun u:Bool=>([(2,bo u)]:EL)) (fun u:Bool=>(Zz4:OL)) (fun u h J K F => ?_) (fun M A h => ?_)
 ·apply A0;refine ghost F ?_;apply ret;obtain rfl:=oi h;exact rt (kp [(2,_)] [(500,some _)] hB rfl rfl (by rfl)) [bo u] (rT rN) rfl
 ·obtain⟨s,C,h⟩:=bindS h;rcases bft s with i | i
  ·have h:=A4 i h;rcases bft (!a0.fHas) with p | p
   ·have h:=A4 p h;refine rg (SQ (fa (cl [] (Y5 a0.fPrefix s C)) (fa i (fa p tt)))) ?_;exact A _ h _ _ (mp [] _ _ hB)
   ·have h:=A5 p h;rcases bft (((a0.fRoute.fPrefix.fAddr.fV6==a0.fPrefix.fAddr.fV6)&&((a0.fRoute.fPrefix.fAddr.fHi==a0.fPrefix.fAddr.fHi)&&((a0.fRoute.fPrefix.fAddr.fLo==a0.fPrefix.fAddr.fLo)&&true)))&&((a0.fRoute.fPrefix.fLen==a0.fPrefix.fLen)&&true)) with t | t
    ·have h:=A4 t h;obtain⟨E,G,h⟩:=bindS h;obtain⟨H,I,h⟩:=bindS h;refine rg (SQ (fa (cl [] (Y5 a0.fPrefix s C)) (fa i (fa p (fa t (fa (cl [] (Y7 a0.fRoute.fAttrs [a0.fPrefix] true E G)) (fa (cl [(500,500)] (A48 E H I)) tt))))))) ?_;exact A _ h _ _ (mp [] _ _ hB)
    ·have h:=A5 t h;refine rg (SQ (fa (cl [] (Y5 a0.fPrefix s C)) (fa i (fa p (fa t tt))))) ?_;exact A _ h _ _ (mp [] _ _ hB)
  ·have h:=A5 i h;refine rg (SQ (fa (cl [] (Y5 a0.fPrefix s C)) (fa i tt))) ?_;exact A _ h _ _ (mp [] _ _ hB)
def A20 (a0:D1):Option (Int):=
 (if a0.fV6=true then
 some 1
 else
 some 0)
theorem A7n (a0:D1) (r:Int) (h:A20 a0=some r):AC Tryz.prog 109 [.d (E4 a0)] [] (.d (.int .i64 r)) []:=by
 refine AC.of_code2 Tryz.func109 rfl rfl (Nat.le_of_ble_eq_true (by rfl)) fun B hB hN => ?_;delta A20 at h;refine sr (SQ tt) ?_;apply seq;refine sr (SQ tt) ?_;apply AWp.cond rfl<;>intro i
 ·have h:=A4 i h;refine sr (SQ tt) ?_;apply ret;apply B6;obtain rfl:=oi h;exact rt (kp [(2,_)] [] hB rfl rfl (by rfl)) [i6 1] (rT rN) rfl
 ·have h:=A5 i h;apply AWp.skip;apply A0;refine sr (SQ tt) ?_;apply ret;obtain rfl:=oi h;exact rt (kp [(2,_)] [] hB rfl rfl (by rfl)) [i6 0] (rT rN) rfl
def A5d (a0:Int):Option (Bool):=
 some (a0 != a0)
theorem A7o (a0:Int) (r:Bool) (h:A5d a0=some r):AC Tryz.prog 140 [.d (.int .u64 a0)] [] (.d (.bool r)) []:=by
 refine AC.of_code2 Tryz.func140 rfl rfl (Nat.le_of_ble_eq_true (by rfl)) fun B hB hN => ?_;delta A5d at h;refine sr (SQ tt) ?_;refine sr (SQ tt) ?_;apply ret;obtain rfl:=oi h;exact rt (kp [(2,_)] [] hB rfl rfl (by rfl)) [bo (a0 != a0)] (rT rN) rfl
def A19 (a0:Int) (a1:Int):Option (Int):=
 (A5d a0).bind fun p=>
 (A5d a1).bind fun i=>
 (if p=true then
 (if i=true then
 some 0
 else
 some (-1))
 else
 (if i=true then
 some 1
 else
 (if (decide (a0<a1))=true then
 some (-1)
 else
 (if (decide (a1<a0))=true then
 some 1
 else
 some 0))))
theorem A66 (a0:Int) (a1:Int) (r:Int) (h:A19 a0 a1=some r):AC Tryz.prog 110 [.d (.int .u64 a0),.d (.int .u64 a1)] [] (.d (.int .i64 r)) []:=by
 refine ac2 Tryz.func110 rfl rfl fun B hB hN L => ?_;delta A19 at h;refine sr (SQ tt) ?_;obtain⟨A,C,h⟩:=bindS h;refine sr (SQ (fa (cl [] (A7o a0 A C)) tt)) ?_;obtain⟨E,F,h⟩:=bindS h;refine sr (SQ (fa (cl [] (A7o a1 E F)) tt)) ?_;apply seq;refine sr (SQ tt) ?_;apply AWp.cond rfl<;>intro i
 ·have h:=A4 i h;apply seq;refine sr (SQ tt) ?_;apply AWp.cond rfl<;>intro p
  ·have h:=A4 p h;refine sr (SQ tt) ?_;apply ret;apply B6;apply B6;obtain rfl:=oi h;exact rt (kp [(4,_)] [] hB rfl rfl (by rfl)) [i6 0] (rT rN) rfl
  ·have h:=A5 p h;apply AWp.skip;apply A0;refine sr (SQ tt) ?_;apply ret;apply B6;obtain rfl:=oi h;exact rt (kp [(4,_)] [] hB rfl rfl (by rfl)) [i6 (-1)] (rT rN) rfl
 ·have h:=A5 i h;apply AWp.skip;apply A0;apply seq;refine sr (SQ tt) ?_;apply AWp.cond rfl<;>intro s
  ·have h:=A4 s h;refine sr (SQ tt) ?_;apply ret;apply B6;obtain rfl:=oi h;exact rt (kp [(4,_)] [] hB rfl rfl (by rfl)) [i6 1] (rT rN) rfl
  ·have h:=A5 s h;apply AWp.skip;apply A0;apply seq;refine sr (SQ tt) ?_;apply AWp.cond rfl<;>intro t
   ·have h:=A4 t h;refine sr (SQ tt) ?_;apply ret;apply B6;obtain rfl:=oi h;exact rt (kp [(4,_)] [] hB rfl rfl (by rfl)) [i6 (-1)] (rT rN) rfl
   ·have h:=A5 t h;apply AWp.skip;apply A0;apply seq;refine sr (SQ tt) ?_;apply AWp.cond rfl<;>intro u
    ·have h:=A4 u h;refine sr (SQ tt) ?_;apply ret;apply B6;obtain rfl:=oi h;exact rt (kp [(4,_)] [] hB rfl rfl (by rfl)) [i6 1] (rT rN) rfl
    ·have h:=A5 u h;apply AWp.skip;apply A0;refine sr (SQ tt) ?_;apply ret;obtain rfl:=oi h;exact rt (kp [(4,_)] [] hB rfl rfl (by rfl)) [i6 0] (rT rN) rfl
def A7p (a0:D1) (a1:D1):Option (Int):=
 (A20 a0).bind fun i=>
 (A20 a1).bind fun p=>
 (J3 i p).bind fun s=>
 (A19 a0.fHi a1.fHi).bind fun t=>
 (A19 a0.fLo a1.fLo).bind fun u=>
 (A7h ([s,t,u]:List Int)).bind fun A=>
 some A
theorem B58 (a0:D1) (a1:D1) (r:Int) (h:A7p a0 a1=some r):AC Tryz.prog 73 [.d (E4 a0),.d (E4 a1)] [] (.d (.int .i64 r)) []:=by
 refine AC.of_code2 Tryz.func73 rfl rfl (Nat.le_of_ble_eq_true (by rfl)) fun B hB hN => ?_;delta A7p at h;refine sr (SQ tt) ?_;obtain⟨i,C,h⟩:=bindS h;obtain⟨p,E,h⟩:=bindS h;obtain⟨s,F,h⟩:=bindS h;obtain⟨t,G,h⟩:=bindS h;obtain⟨u,H,h⟩:=bindS h;obtain⟨A,I,h⟩:=bindS h;refine sdS (SQ (fa (cl [] (A7n a0 i C)) (fa (cl [] (A7n a1 p E)) (fa (cl [] (L0 i p s F)) (fa (cl [] (A66 a0.fHi a1.fHi t G)) (fa (cl [] (A66 a0.fLo a1.fLo u H)) (fa (cl [] (A81 ([s,t,u]:List Int) A I)) tt))))))) ?_;apply ret;obtain rfl:=oi h;exact rt (kp [(4,_)] [] hB rfl rfl (by rfl)) [i6 A] (rT rN) rfl
def A3b (a0:A1) (a1:A1):Option (Int):=
 (A7p a0.fAddr a1.fAddr).bind fun i=>
 (J3 a0.fLen a1.fLen).bind fun p=>
 (A7h ([i,p]:List Int)).bind fun s=>
 some s
theorem A8f (a0:A1) (a1:A1) (r:Int) (h:A3b a0 a1=some r):AC Tryz.prog 45 [.d (B0 a0),.d (B0 a1)] [] (.d (.int .i64 r)) []:=by
 refine AC.of_code2 Tryz.func45 rfl rfl (Nat.le_of_ble_eq_true (by rfl)) fun B hB hN => ?_;delta A3b at h;refine sr (SQ tt) ?_;obtain⟨i,t,h⟩:=bindS h;obtain⟨p,u,h⟩:=bindS h;obtain⟨s,A,h⟩:=bindS h;refine sdS (SQ (fa (cl [] (B58 a0.fAddr a1.fAddr i t)) (fa (cl [] (L0 a0.fLen a1.fLen p u)) (fa (cl [] (A81 ([i,p]:List Int) s A)) tt)))) ?_;apply ret;obtain rfl:=oi h;exact rt (kp [(4,_)] [] hB rfl rfl (by rfl)) [i6 s] (rT rN) rfl
def R2 (a0:(List Int)) (a1:(List Int)) (i:Int):Option ((Unit⊕Unit)⊕Int):=
 (if (decide (i<(a0.length:Int)))=true then
 (idx a0 i).bind fun p=>
 (idx a1 i).bind fun s=>
 (if (p != s)=true then
 some (.inl (.inl ()))
 else
 some (.inr (w64 (i+1))))
 else
 some (.inl (.inr ())))
def A2s (a0:(List Int)) (a1:(List Int)):Option (Bool):=
 (if ((a0.length:Int) != (a1.length:Int))=true then
 some false
 else
 (loop (R2 a0 a1) 0).bind fun i=>match i with
 | (.inl _)=>
  some false
 | (.inr _)=>
  some true)
theorem B10 (a0:(List Int)) (a1:(List Int)) (r:Bool) (h:A2s a0 a1=some r):AC Tryz.prog 116 [.d (.list 1 (a0.map (eI .i64))),.d (.list 1 (a1.map (eI .i64)))] [] (.d (.bool r)) []:=by
 refine ac2 Tryz.func116 rfl rfl fun B hB hN L => ?_;delta A2s at h;refine sr (SQ tt) ?_;apply seq;refine sr (SQ tt) ?_;apply AWp.cond rfl<;>intro u
 ·have h:=A4 u h;refine sr (SQ tt) ?_;apply ret;apply B6;obtain rfl:=oi h;exact rt (kp [(4,_)] [] hB rfl rfl (by rfl)) [bo false] (rT rN) rfl
 ·have h:=A5 u h;apply AWp.skip;apply A0;apply seq;refine sr (SQ tt) ?_;apply block;obtain⟨E,F,h⟩:=bindS h;refine lg (R2 a0 a1) (fun i:Int=>([(0,qI_1 a0),(1,qI_1 a1),(12,i6 (a0.length:Int)),(13,i6 i)]:EL)) (fun i:Int=>([]:OL)) (fun(x:(Unit)⊕Unit) e p s=>match x with | (.inl _p)=>e = .ret∧Mat B p s ([(4,bo false)]:EL) ([]:OL) | (.inr _p)=>e = .exit 0∧Mat B p s ([]:EL) ([]:OL)) F (mp [] _ _ hB) (fun i y h => ?_) (fun e p s hR => ?_)
  ·unfold R2 at h;refine sr (SQ tt) ?_;apply seq;apply AWp.cond rfl<;>intro A
   ·have h:=A4 A h;apply AWp.skip;apply A0;apply seq;apply block;refine sr (SQ tt) ?_;obtain⟨_,G,h⟩:=bindS h;obtain⟨_,H,h⟩:=bindS h;refine sdS (SQ (fa G (fa H tt))) ?_;apply AWp.cond rfl<;>intro C
    ·have h:=A4 C h;refine sr (SQ tt) ?_;apply ret;apply E0;apply B6;obtain rfl:=oi h;exact⟨nofun,rfl,mp [] _ _ hB⟩
    ·have h:=A5 C h;apply AWp.skip;apply D9;apply A0;refine rg (SQ tt) ?_;obtain rfl:=oi h;exact⟨rfl,mp [] _ _ hB⟩
   ·have h:=A5 A h;apply AWp.exit;apply D7;obtain rfl:=oi h;exact⟨nofun,rfl,mp [] _ _ hB⟩
  ·rcases E with _ | _
   ·obtain⟨rfl,t⟩:=hR;apply E0;apply B6;obtain rfl:=oi h;exact rt (Mat.trans t (mp [] [(4,bo false)] [] hB)) [bo false] (rT rN) rfl
   ·obtain⟨rfl,t⟩:=hR;apply C0;apply A0;refine ghost t ?_;refine sr (SQ tt) ?_;apply ret;obtain rfl:=oi h;exact rt (kp [(4,_)] [] hB rfl rfl (by rfl)) [bo true] (rT rN) rfl
def A1a (a0:B5) (a1:B5):Option (Bool):=
 jn (fun p:Bool=>
 some p) (fun i=>
 (if (a0.fSet==a1.fSet)=true then
 (A2s a0.fASNs a1.fASNs).bind fun s=>
 i s
 else
 i false))
theorem A9p (a0:B5) (a1:B5) (r:Bool) (h:A1a a0 a1=some r):AC Tryz.prog 115 [.d (D2 a0),.d (D2 a1)] [] (.d (.bool r)) []:=by
 refine ac2 Tryz.func115 rfl rfl fun B hB hN L => ?_;delta A1a at h;refine sr (SQ tt) ?_;apply seq;refine AWp.cut h (fun p:Bool=>([(4,bo p)]:EL)) (fun p:Bool=>([]:OL)) (fun p h C E t => ?_) (fun F s h => ?_)
 ·apply A0;refine ghost t ?_;apply ret;obtain rfl:=oi h;exact rt (kp [(4,_)] [] hB rfl rfl (by rfl)) [bo p] (rT rN) rfl
 ·rcases bft (a0.fSet==a1.fSet) with i | i
  ·have h:=A4 i h;obtain⟨u,A,h⟩:=bindS h;refine rg (SQ (fa i (fa (cl [] (B10 a0.fASNs a1.fASNs u A)) tt))) ?_;exact s _ h _ _ (mp [] _ _ hB)
  ·have h:=A5 i h;refine rg (SQ (fa i tt)) ?_;exact s _ h _ _ (mp [] _ _ hB)
def L4 (a0:(List B5)) (a1:(List B5)) (i:Int):Option ((Unit⊕Unit)⊕Int):=
 (if (decide (i<(a0.length:Int)))=true then
 (idx a0 i).bind fun p=>
 (idx a1 i).bind fun s=>
 (A1a p s).bind fun t=>
 (if (!t)=true then
 some (.inl (.inl ()))
 else
 some (.inr (w64 (i+1))))
 else
 some (.inl (.inr ())))
def U9 (a0:(List B5)) (a1:(List B5)):Option (Bool):=
 (if ((a0.length:Int) != (a1.length:Int))=true then
 some false
 else
 (loop (L4 a0 a1) 0).bind fun i=>match i with
 | (.inl _)=>
  some false
 | (.inr _)=>
  some true)
theorem T5 (a0:(List B5)) (a1:(List B5)) (r:Bool) (h:U9 a0 a1=some r):AC Tryz.prog 119 [.d (.list 2 (a0.map D2)),.d (.list 2 (a1.map D2)),.func 115 []] [] (.d (.bool r)) []:=by
 refine ac2 Tryz.func119 rfl rfl fun B hB hN L => ?_;delta U9 at h;refine sr (SQ tt) ?_;apply seq;refine sr (SQ tt) ?_;apply AWp.cond rfl<;>intro u
 ·have h:=A4 u h;refine sr (SQ tt) ?_;apply ret;apply B6;obtain rfl:=oi h;exact rt (kp [(6,_)] [] hB rfl rfl (by rfl)) [bo false] (rT rN) rfl
 ·have h:=A5 u h;apply AWp.skip;apply A0;apply seq;refine sr (SQ tt) ?_;apply block;obtain⟨E,F,h⟩:=bindS h;refine lg (L4 a0 a1) (fun i:Int=>([(1,C6 a1),(2,.func 115 []),(15,C6 a0),(16,i6 (a0.length:Int)),(17,i6 i)]:EL)) (fun i:Int=>([]:OL)) (fun(x:(Unit)⊕Unit) e p s=>match x with | (.inl _p)=>e = .ret∧Mat B p s ([(6,bo false)]:EL) ([]:OL) | (.inr _p)=>e = .exit 0∧Mat B p s ([]:EL) ([]:OL)) F (mp [] _ _ hB) (fun i y h => ?_) (fun e p s hR => ?_)
  ·unfold L4 at h;refine sr (SQ tt) ?_;apply seq;apply AWp.cond rfl<;>intro A
   ·have h:=A4 A h;apply AWp.skip;apply A0;apply seq;apply block;obtain⟨G,H,h⟩:=bindS h;refine sr (SQ (fa H tt)) ?_;obtain⟨I,J,h⟩:=bindS h;refine sr (SQ (fa J tt)) ?_;obtain⟨K,M,h⟩:=bindS h;refine sr (SQ (fa (cl [] (A9p G I K M)) tt)) ?_;apply AWp.cond rfl<;>intro C
    ·have h:=A4 C h;refine sr (SQ tt) ?_;apply ret;apply E0;apply B6;obtain rfl:=oi h;exact⟨nofun,rfl,mp [] _ _ hB⟩
    ·have h:=A5 C h;apply AWp.skip;apply D9;apply A0;refine rg (SQ tt) ?_;obtain rfl:=oi h;exact⟨rfl,mp [] _ _ hB⟩
   ·have h:=A5 A h;apply AWp.exit;apply D7;obtain rfl:=oi h;exact⟨nofun,rfl,mp [] _ _ hB⟩
  ·rcases E with _ | _
   ·obtain⟨rfl,t⟩:=hR;apply E0;apply B6;obtain rfl:=oi h;exact rt (Mat.trans t (mp [] [(6,bo false)] [] hB)) [bo false] (rT rN) rfl
   ·obtain⟨rfl,t⟩:=hR;apply C0;apply A0;refine ghost t ?_;refine sr (SQ tt) ?_;apply ret;obtain rfl:=oi h;exact rt (kp [(6,_)] [] hB rfl rfl (by rfl)) [bo true] (rT rN) rfl
def Z9 (a0:(List B7)) (a1:(List B7)) (i:Int):Option ((Unit⊕Unit)⊕Int):=
 (if (decide (i<(a0.length:Int)))=true then
 (idx a0 i).bind fun p=>
 (idx a1 i).bind fun s=>
 (if (!((p.fA==s.fA)&&((p.fB==s.fB)&&true)))=true then
 some (.inl (.inl ()))
 else
 some (.inr (w64 (i+1))))
 else
 some (.inl (.inr ())))
def A0o (a0:(List B7)) (a1:(List B7)):Option (Bool):=
 (if ((a0.length:Int) != (a1.length:Int))=true then
 some false
 else
 (loop (Z9 a0 a1) 0).bind fun i=>match i with
 | (.inl _)=>
  some false
 | (.inr _)=>
  some true)
theorem A2t (a0:(List B7)) (a1:(List B7)) (r:Bool) (h:A0o a0 a1=some r):AC Tryz.prog 120 [.d (.list 2 (a0.map C4)),.d (.list 2 (a1.map C4))] [] (.d (.bool r)) []:=by
 refine ac2 Tryz.func120 rfl rfl fun B hB hN L => ?_;delta A0o at h;refine sr (SQ tt) ?_;apply seq;refine sr (SQ tt) ?_;apply AWp.cond rfl<;>intro u
 ·have h:=A4 u h;refine sr (SQ tt) ?_;apply ret;apply B6;obtain rfl:=oi h;exact rt (kp [(4,_)] [] hB rfl rfl (by rfl)) [bo false] (rT rN) rfl
 ·have h:=A5 u h;apply AWp.skip;apply A0;apply seq;refine sr (SQ tt) ?_;apply block;obtain⟨E,F,h⟩:=bindS h;refine lg (Z9 a0 a1) (fun i:Int=>([(0,C5 a0),(1,C5 a1),(12,i6 (a0.length:Int)),(13,i6 i)]:EL)) (fun i:Int=>([]:OL)) (fun(x:(Unit)⊕Unit) e p s=>match x with | (.inl _p)=>e = .ret∧Mat B p s ([(4,bo false)]:EL) ([]:OL) | (.inr _p)=>e = .exit 0∧Mat B p s ([]:EL) ([]:OL)) F (mp [] _ _ hB) (fun i y h => ?_) (fun e p s hR => ?_)
  ·unfold Z9 at h;refine sr (SQ tt) ?_;apply seq;apply AWp.cond rfl<;>intro A
   ·have h:=A4 A h;apply AWp.skip;apply A0;apply seq;apply block;refine sr (SQ tt) ?_;obtain⟨_,G,h⟩:=bindS h;obtain⟨_,H,h⟩:=bindS h;refine sdS (SQ (fa G (fa H tt))) ?_;apply AWp.cond rfl<;>intro C
    ·have h:=A4 C h;refine sr (SQ tt) ?_;apply ret;apply E0;apply B6;obtain rfl:=oi h;exact⟨nofun,rfl,mp [] _ _ hB⟩
    ·have h:=A5 C h;apply AWp.skip;apply D9;apply A0;refine rg (SQ tt) ?_;obtain rfl:=oi h;exact⟨rfl,mp [] _ _ hB⟩
   ·have h:=A5 A h;apply AWp.exit;apply D7;obtain rfl:=oi h;exact⟨nofun,rfl,mp [] _ _ hB⟩
  ·rcases E with _ | _
   ·obtain⟨rfl,t⟩:=hR;apply E0;apply B6;obtain rfl:=oi h;exact rt (Mat.trans t (mp [] [(4,bo false)] [] hB)) [bo false] (rT rN) rfl
   ·obtain⟨rfl,t⟩:=hR;apply C0;apply A0;refine ghost t ?_;refine sr (SQ tt) ?_;apply ret;obtain rfl:=oi h;exact rt (kp [(4,_)] [] hB rfl rfl (by rfl)) [bo true] (rT rN) rfl
def A00 (a0:(List F5)) (a1:(List F5)) (i:Int):Option ((Unit⊕Unit)⊕Int):=
 (if (decide (i<(a0.length:Int)))=true then
 (idx a0 i).bind fun p=>
 (idx a1 i).bind fun s=>
 (if (!((p.fA==s.fA)&&((p.fB==s.fB)&&((p.fC==s.fC)&&true))))=true then
 some (.inl (.inl ()))
 else
 some (.inr (w64 (i+1))))
 else
 some (.inl (.inr ())))
def A0p (a0:(List F5)) (a1:(List F5)):Option (Bool):=
 (if ((a0.length:Int) != (a1.length:Int))=true then
 some false
 else
 (loop (A00 a0 a1) 0).bind fun i=>match i with
 | (.inl _)=>
  some false
 | (.inr _)=>
  some true)
theorem A5e (a0:(List F5)) (a1:(List F5)) (r:Bool) (h:A0p a0 a1=some r):AC Tryz.prog 121 [.d (.list 3 (a0.map E9)),.d (.list 3 (a1.map E9))] [] (.d (.bool r)) []:=by
 refine ac2 Tryz.func121 rfl rfl fun B hB hN L => ?_;delta A0p at h;refine sr (SQ tt) ?_;apply seq;refine sr (SQ tt) ?_;apply AWp.cond rfl<;>intro u
 ·have h:=A4 u h;refine sr (SQ tt) ?_;apply ret;apply B6;obtain rfl:=oi h;exact rt (kp [(4,_)] [] hB rfl rfl (by rfl)) [bo false] (rT rN) rfl
 ·have h:=A5 u h;apply AWp.skip;apply A0;apply seq;refine sr (SQ tt) ?_;apply block;obtain⟨E,F,h⟩:=bindS h;refine lg (A00 a0 a1) (fun i:Int=>([(0,E7 a0),(1,E7 a1),(12,i6 (a0.length:Int)),(13,i6 i)]:EL)) (fun i:Int=>([]:OL)) (fun(x:(Unit)⊕Unit) e p s=>match x with | (.inl _p)=>e = .ret∧Mat B p s ([(4,bo false)]:EL) ([]:OL) | (.inr _p)=>e = .exit 0∧Mat B p s ([]:EL) ([]:OL)) F (mp [] _ _ hB) (fun i y h => ?_) (fun e p s hR => ?_)
  ·unfold A00 at h;refine sr (SQ tt) ?_;apply seq;apply AWp.cond rfl<;>intro A
   ·have h:=A4 A h;apply AWp.skip;apply A0;apply seq;apply block;refine sr (SQ tt) ?_;obtain⟨_,G,h⟩:=bindS h;obtain⟨_,H,h⟩:=bindS h;refine sdS (SQ (fa G (fa H tt))) ?_;apply AWp.cond rfl<;>intro C
    ·have h:=A4 C h;refine sr (SQ tt) ?_;apply ret;apply E0;apply B6;obtain rfl:=oi h;exact⟨nofun,rfl,mp [] _ _ hB⟩
    ·have h:=A5 C h;apply AWp.skip;apply D9;apply A0;refine rg (SQ tt) ?_;obtain rfl:=oi h;exact⟨rfl,mp [] _ _ hB⟩
   ·have h:=A5 A h;apply AWp.exit;apply D7;obtain rfl:=oi h;exact⟨nofun,rfl,mp [] _ _ hB⟩
  ·rcases E with _ | _
   ·obtain⟨rfl,t⟩:=hR;apply E0;apply B6;obtain rfl:=oi h;exact rt (Mat.trans t (mp [] [(4,bo false)] [] hB)) [bo false] (rT rN) rfl
   ·obtain⟨rfl,t⟩:=hR;apply C0;apply A0;refine ghost t ?_;refine sr (SQ tt) ?_;apply ret;obtain rfl:=oi h;exact rt (kp [(4,_)] [] hB rfl rfl (by rfl)) [bo true] (rT rN) rfl
def A2u (a0:(List Int)) (a1:(List Int)) (i:Int):Option ((Unit⊕Unit)⊕Int):=
 (if (decide (i<(a0.length:Int)))=true then
 (idx a0 i).bind fun p=>
 (idx a1 i).bind fun s=>
 (if (p != s)=true then
 some (.inl (.inl ()))
 else
 some (.inr (w64 (i+1))))
 else
 some (.inl (.inr ())))
def A4z (a0:(List Int)) (a1:(List Int)):Option (Bool):=
 (if ((a0.length:Int) != (a1.length:Int))=true then
 some false
 else
 (loop (A2u a0 a1) 0).bind fun i=>match i with
 | (.inl _)=>
  some false
 | (.inr _)=>
  some true)
theorem A96 (a0:(List Int)) (a1:(List Int)) (r:Bool) (h:A4z a0 a1=some r):AC Tryz.prog 118 [.d (.list 1 (a0.map (eI .u8))),.d (.list 1 (a1.map (eI .u8)))] [] (.d (.bool r)) []:=by
 refine ac2 Tryz.func118 rfl rfl fun B hB hN L => ?_;delta A4z at h;refine sr (SQ tt) ?_;apply seq;refine sr (SQ tt) ?_;apply AWp.cond rfl<;>intro u
 ·have h:=A4 u h;refine sr (SQ tt) ?_;apply ret;apply B6;obtain rfl:=oi h;exact rt (kp [(4,_)] [] hB rfl rfl (by rfl)) [bo false] (rT rN) rfl
 ·have h:=A5 u h;apply AWp.skip;apply A0;apply seq;refine sr (SQ tt) ?_;apply block;obtain⟨E,F,h⟩:=bindS h;refine lg (A2u a0 a1) (fun i:Int=>([(0,.d (.list 1 (a0.map (eI .u8)))),(1,.d (.list 1 (a1.map (eI .u8)))),(12,i6 (a0.length:Int)),(13,i6 i)]:EL)) (fun i:Int=>([]:OL)) (fun(x:(Unit)⊕Unit) e p s=>match x with | (.inl _p)=>e = .ret∧Mat B p s ([(4,bo false)]:EL) ([]:OL) | (.inr _p)=>e = .exit 0∧Mat B p s ([]:EL) ([]:OL)) F (mp [] _ _ hB) (fun i y h => ?_) (fun e p s hR => ?_)
  ·unfold A2u at h;refine sr (SQ tt) ?_;apply seq;apply AWp.cond rfl<;>intro A
   ·have h:=A4 A h;apply AWp.skip;apply A0;apply seq;apply block;refine sr (SQ tt) ?_;obtain⟨_,G,h⟩:=bindS h;obtain⟨_,H,h⟩:=bindS h;refine sdS (SQ (fa G (fa H tt))) ?_;apply AWp.cond rfl<;>intro C
    ·have h:=A4 C h;refine sr (SQ tt) ?_;apply ret;apply E0;apply B6;obtain rfl:=oi h;exact⟨nofun,rfl,mp [] _ _ hB⟩
    ·have h:=A5 C h;apply AWp.skip;apply D9;apply A0;refine rg (SQ tt) ?_;obtain rfl:=oi h;exact⟨rfl,mp [] _ _ hB⟩
   ·have h:=A5 A h;apply AWp.exit;apply D7;obtain rfl:=oi h;exact⟨nofun,rfl,mp [] _ _ hB⟩
  ·rcases E with _ | _
   ·obtain⟨rfl,t⟩:=hR;apply E0;apply B6;obtain rfl:=oi h;exact rt (Mat.trans t (mp [] [(4,bo false)] [] hB)) [bo false] (rT rN) rfl
   ·obtain⟨rfl,t⟩:=hR;apply C0;apply A0;refine ghost t ?_;refine sr (SQ tt) ?_;apply ret;obtain rfl:=oi h;exact rt (kp [(4,_)] [] hB rfl rfl (by rfl)) [bo true] (rT rN) rfl
def A5s (a0:A3) (a1:A3):Option (Bool):=
 jn (fun p:Bool=>
 some p) (fun i=>
 (if ((a0.fFlags==a1.fFlags)&&(a0.fType==a1.fType))=true then
 (A4z a0.fData a1.fData).bind fun s=>
 i s
 else
 i false))
theorem A9q (a0:A3) (a1:A3) (r:Bool) (h:A5s a0 a1=some r):AC Tryz.prog 117 [.d (B4 a0),.d (B4 a1)] [] (.d (.bool r)) []:=by
 refine ac2 Tryz.func117 rfl rfl fun B hB hN L => ?_;delta A5s at h;refine sr (SQ tt) ?_;apply seq;refine AWp.cut h (fun p:Bool=>([(4,bo p)]:EL)) (fun p:Bool=>([]:OL)) (fun p h C E t => ?_) (fun F s h => ?_)
 ·apply A0;refine ghost t ?_;apply ret;obtain rfl:=oi h;exact rt (kp [(4,_)] [] hB rfl rfl (by rfl)) [bo p] (rT rN) rfl
 ·rcases bft ((a0.fFlags==a1.fFlags)&&(a0.fType==a1.fType)) with i | i
  ·have h:=A4 i h;obtain⟨u,A,h⟩:=bindS h;refine rg (SQ (fa i (fa (cl [] (A96 a0.fData a1.fData u A)) tt))) ?_;exact s _ h _ _ (mp [] _ _ hB)
  ·have h:=A5 i h;refine rg (SQ (fa i tt)) ?_;exact s _ h _ _ (mp [] _ _ hB)
def Q5 (a0:(List A3)) (a1:(List A3)) (i:Int):Option ((Unit⊕Unit)⊕Int):=
 (if (decide (i<(a0.length:Int)))=true then
 (idx a0 i).bind fun p=>
 (idx a1 i).bind fun s=>
 (A5s p s).bind fun t=>
 (if (!t)=true then
 some (.inl (.inl ()))
 else
 some (.inr (w64 (i+1))))
 else
 some (.inl (.inr ())))
def Q0 (a0:(List A3)) (a1:(List A3)):Option (Bool):=
 (if ((a0.length:Int) != (a1.length:Int))=true then
 some false
 else
 (loop (Q5 a0 a1) 0).bind fun i=>match i with
 | (.inl _)=>
  some false
 | (.inr _)=>
  some true)
theorem A6y (a0:(List A3)) (a1:(List A3)) (r:Bool) (h:Q0 a0 a1=some r):AC Tryz.prog 122 [.d (.list 3 (a0.map B4)),.d (.list 3 (a1.map B4)),.func 117 []] [] (.d (.bool r)) []:=by
 refine ac2 Tryz.func122 rfl rfl fun B hB hN L => ?_;delta Q0 at h;refine sr (SQ tt) ?_;apply seq;refine sr (SQ tt) ?_;apply AWp.cond rfl<;>intro u
 ·have h:=A4 u h;refine sr (SQ tt) ?_;apply ret;apply B6;obtain rfl:=oi h;exact rt (kp [(6,_)] [] hB rfl rfl (by rfl)) [bo false] (rT rN) rfl
 ·have h:=A5 u h;apply AWp.skip;apply A0;apply seq;refine sr (SQ tt) ?_;apply block;obtain⟨E,F,h⟩:=bindS h;refine lg (Q5 a0 a1) (fun i:Int=>([(1,C2 a1),(2,.func 117 []),(15,C2 a0),(16,i6 (a0.length:Int)),(17,i6 i)]:EL)) (fun i:Int=>([]:OL)) (fun(x:(Unit)⊕Unit) e p s=>match x with | (.inl _p)=>e = .ret∧Mat B p s ([(6,bo false)]:EL) ([]:OL) | (.inr _p)=>e = .exit 0∧Mat B p s ([]:EL) ([]:OL)) F (mp [] _ _ hB) (fun i y h => ?_) (fun e p s hR => ?_)
  ·unfold Q5 at h;refine sr (SQ tt) ?_;apply seq;apply AWp.cond rfl<;>intro A
   ·have h:=A4 A h;apply AWp.skip;apply A0;apply seq;apply block;obtain⟨G,H,h⟩:=bindS h;refine sr (SQ (fa H tt)) ?_;obtain⟨I,J,h⟩:=bindS h;refine sr (SQ (fa J tt)) ?_;obtain⟨K,M,h⟩:=bindS h;refine sr (SQ (fa (cl [] (A9q G I K M)) tt)) ?_;apply AWp.cond rfl<;>intro C
    ·have h:=A4 C h;refine sr (SQ tt) ?_;apply ret;apply E0;apply B6;obtain rfl:=oi h;exact⟨nofun,rfl,mp [] _ _ hB⟩
    ·have h:=A5 C h;apply AWp.skip;apply D9;apply A0;refine rg (SQ tt) ?_;obtain rfl:=oi h;exact⟨rfl,mp [] _ _ hB⟩
   ·have h:=A5 A h;apply AWp.exit;apply D7;obtain rfl:=oi h;exact⟨nofun,rfl,mp [] _ _ hB⟩
  ·rcases E with _ | _
   ·obtain⟨rfl,t⟩:=hR;apply E0;apply B6;obtain rfl:=oi h;exact rt (Mat.trans t (mp [] [(6,bo false)] [] hB)) [bo false] (rT rN) rfl
   ·obtain⟨rfl,t⟩:=hR;apply C0;apply A0;refine ghost t ?_;refine sr (SQ tt) ?_;apply ret;obtain rfl:=oi h;exact rt (kp [(6,_)] [] hB rfl rfl (by rfl)) [bo true] (rT rN) rfl
def A21 (a0:D3) (a1:D3):Option (Bool):=
 jn (fun p:Bool=>
 some p) (fun i=>
 (if (((((a0.fOrigin==a1.fOrigin)&&((a0.fNext.fV6==a1.fNext.fV6)&&((a0.fNext.fHi==a1.fNext.fHi)&&((a0.fNext.fLo==a1.fNext.fLo)&&true))))&&(a0.fMED==a1.fMED))&&(a0.fPref==a1.fPref))&&(a0.fOTC==a1.fOTC))=true then
 (U9 a0.fPath a1.fPath).bind fun s=>
 (if s=true then
 (A0o a0.fCommunities a1.fCommunities).bind fun t=>
 (if t=true then
 (A0p a0.fLarge a1.fLarge).bind fun u=>
 (if u=true then
 (Q0 a0.fOther a1.fOther).bind fun A=>
 i A
 else
 i false)
 else
 i false)
 else
 i false)
 else
 i false))
theorem B2a (a0:D3) (a1:D3) (r:Bool) (h:A21 a0 a1=some r):AC Tryz.prog 78 [.d (C7 a0),.d (C7 a1)] [] (.d (.bool r)) []:=by
 refine ac2 Tryz.func78 rfl rfl fun B hB hN L => ?_;delta A21 at h;refine sr (SQ tt) ?_;refine sr (SQ tt) ?_;refine sr (SQ tt) ?_;apply seq;refine AWp.cut h (fun C:Bool=>([(4,bo C)]:EL)) (fun C:Bool=>([]:OL)) (fun C h N O J => ?_) (fun P t h => ?_)
 ·apply A0;refine ghost J ?_;apply ret;obtain rfl:=oi h;exact rt (kp [(4,_)] [] hB rfl rfl (by rfl)) [bo C] (rT rN) rfl
 ·rcases bft (((((a0.fOrigin==a1.fOrigin)&&((a0.fNext.fV6==a1.fNext.fV6)&&((a0.fNext.fHi==a1.fNext.fHi)&&((a0.fNext.fLo==a1.fNext.fLo)&&true))))&&(a0.fMED==a1.fMED))&&(a0.fPref==a1.fPref))&&(a0.fOTC==a1.fOTC)) with i | i
  ·have h:=A4 i h;obtain⟨u,E,h⟩:=bindS h;rcases bft u with p | p
   ·have h:=A4 p h;obtain⟨F,G,h⟩:=bindS h;rcases bft F with s | s
    ·have h:=A4 s h;obtain⟨H,I,h⟩:=bindS h;rcases bft H with A | A
     ·have h:=A4 A h;obtain⟨K,M,h⟩:=bindS h;refine rg (SQ (fa i (fa (cl [] (T5 a0.fPath a1.fPath u E)) (fa p (fa (cl [] (A2t a0.fCommunities a1.fCommunities F G)) (fa s (fa (cl [] (A5e a0.fLarge a1.fLarge H I)) (fa A (fa (cl [] (A6y a0.fOther a1.fOther K M)) tt))))))))) ?_;exact t _ h _ _ (mp [] _ _ hB)
     ·have h:=A5 A h;refine rg (SQ (fa i (fa (cl [] (T5 a0.fPath a1.fPath u E)) (fa p (fa (cl [] (A2t a0.fCommunities a1.fCommunities F G)) (fa s (fa (cl [] (A5e a0.fLarge a1.fLarge H I)) (fa A tt)))))))) ?_;exact t _ h _ _ (mp [] _ _ hB)
    ·have h:=A5 s h;refine rg (SQ (fa i (fa (cl [] (T5 a0.fPath a1.fPath u E)) (fa p (fa (cl [] (A2t a0.fCommunities a1.fCommunities F G)) (fa s tt)))))) ?_;exact t _ h _ _ (mp [] _ _ hB)
   ·have h:=A5 p h;refine rg (SQ (fa i (fa (cl [] (T5 a0.fPath a1.fPath u E)) (fa p tt)))) ?_;exact t _ h _ _ (mp [] _ _ hB)
  ·have h:=A5 i h;refine rg (SQ (fa i tt)) ?_;exact t _ h _ _ (mp [] _ _ hB)
def A1b (a0:D0) (a1:A2):Option (Bool):=
 (A21 a0.fattrs a1.fRoute.fAttrs).bind fun i=>
 some i
theorem A9r (a0:D0) (a1:A2) (r:Bool) (h:A1b a0 a1=some r):AC Tryz.prog 77 [.d (F0 a0),.dptr (A8 a1)] [] (.d (.bool r)) []:=by
 refine AC.of_code2 Tryz.func77 rfl rfl (Nat.le_of_ble_eq_true (by rfl)) fun B hB hN => ?_;delta A1b at h;refine sr (SQ tt) ?_;obtain⟨i,p,h⟩:=bindS h;refine sr (SQ (fa (cl [] (B2a a0.fattrs a1.fRoute.fAttrs i p)) tt)) ?_;apply ret;obtain rfl:=oi h;exact rt (kp [(3,_)] [] hB rfl rfl (by rfl)) [bo i] (rT rN) rfl
def L9 (a0:(List D0)) (a1:A2) (i:Int):Option ((Int⊕Unit)⊕Int):=
 (if (decide (i<(a0.length:Int)))=true then
 (idx a0 i).bind fun p=>
 (A1b p a1).bind fun s=>
 (if s=true then
 some (.inl (.inl i))
 else
 some (.inr (w64 (i+1))))
 else
 some (.inl (.inr ())))
def Q1 (a0:(List D0)) (a1:A2):Option (Int):=
 (loop (L9 a0 a1) 0).bind fun i=>match i with
 | (.inl p)=>
  some p
 | (.inr _)=>
  some (-1)
theorem A6z (a0:(List D0)) (a1:A2) (r:Int) (h:Q1 a0 a1=some r):AC Tryz.prog 76 [.d (.list 12 (a0.map F0)),.func 77 [.dptr (A8 a1)]] [] (.d (.int .i64 r)) []:=by
 refine AC.of_code2 Tryz.func76 rfl rfl (Nat.le_of_ble_eq_true (by rfl)) fun B hB hN => ?_;delta Q1 at h;refine sr (SQ tt) ?_;apply seq;refine sr (SQ tt) ?_;apply block;obtain⟨E,F,h⟩:=bindS h;refine lg (L9 a0 a1) (fun p:Int=>([(0,.d (.list 12 (a0.map F0))),(1,.func 77 [.dptr (A8 a1)]),(7,i6 (a0.length:Int)),(8,i6 p)]:EL)) (fun p:Int=>([]:OL)) (fun(x:(Int)⊕Unit) e s t=>match x with | (.inl i)=>e = .ret∧Mat B s t ([(4,i6 i)]:EL) ([]:OL) | (.inr _p)=>e = .exit 0∧Mat B s t ([]:EL) ([]:OL)) F (mp [] _ _ hB) (fun p y h => ?_) (fun e s t hR => ?_)
 ·unfold L9 at h;refine sr (SQ tt) ?_;apply seq;apply AWp.cond rfl<;>intro A
  ·have h:=A4 A h;apply AWp.skip;apply A0;apply seq;apply block;refine sr (SQ tt) ?_;obtain⟨G,H,h⟩:=bindS h;obtain⟨I,J,h⟩:=bindS h;refine sr (SQ (fa H (fa (cl [] (A9r G a1 I J)) tt))) ?_;apply AWp.cond rfl<;>intro C
   ·have h:=A4 C h;refine sr (SQ tt) ?_;apply ret;apply E0;apply B6;obtain rfl:=oi h;exact⟨nofun,rfl,mp [] _ _ hB⟩
   ·have h:=A5 C h;apply AWp.skip;apply D9;apply A0;refine rg (SQ tt) ?_;obtain rfl:=oi h;exact⟨rfl,mp [] _ _ hB⟩
  ·have h:=A5 A h;apply AWp.exit;apply D7;obtain rfl:=oi h;exact⟨nofun,rfl,mp [] _ _ hB⟩
 ·rcases E with i | _
  ·obtain⟨rfl,u⟩:=hR;apply E0;apply B6;obtain rfl:=oi h;exact rt (Mat.trans u (mp [] [(4,i6 i)] [] hB)) [i6 i] (rT rN) rfl
  ·obtain⟨rfl,u⟩:=hR;apply C0;apply A0;refine ghost u ?_;refine sr (SQ tt) ?_;apply ret;obtain rfl:=oi h;exact rt (kp [(4,_)] [] hB rfl rfl (by rfl)) [i6 (-1)] (rT rN) rfl
def A2v (a0:D0) (a1:Bool) (p:Int×(List A7)) (i:Int):Option (Int⊕Int):=
 jn (fun t:Bool=>
 (if t=true then
 some (.inr (w64 (i+1)))
 else
 some (.inl i))) (fun s=>
 (if (decide (i<(a0.fprefixes.length:Int)))=true then
 chk (decide (0≤p.1)&&decide (0≤(w64 (i+1)))&&decide (p.1.toNat≤(w64 (i+1)).toNat)&&decide ((w64 (i+1)).toNat≤a0.fprefixes.length))<|
 (I3 a0.fattrs ((a0.fprefixes.take ((w64 (i+1)).toNat)).drop p.1.toNat) a1).bind fun u=>
 (M8 u).bind fun A=>
 s A
 else
 s false))
def A2w (a0:D0) (a1:Bool) (i:Int×(List A7)):Option (List A7⊕(Int×(List A7))):=
 (if (decide (i.1<(a0.fprefixes.length:Int)))=true then
 (loop (A2v a0 a1 i) (w64 (i.1+1))).bind fun p=>
 chk (decide (0≤i.1)&&decide (0≤p)&&decide (i.1.toNat≤p.toNat)&&decide (p.toNat≤a0.fprefixes.length))<|
 (I3 a0.fattrs ((a0.fprefixes.take p.toNat).drop i.1.toNat) a1).bind fun s=>
 chk (decide ((i.2++[s]).length≤LIM))<|
 some (.inr (p,(i.2++[s])))
 else
 some (.inl i.2))
def S3 (a0:D0) (a1:Bool):Option (List A7):=
 (loop (A2w a0 a1) (0,([]:List A7))).bind fun i=>
 some i
theorem B2b (a0:D0) (a1:Bool) (r:(List A7)) (h:S3 a0 a1=some r):AC Tryz.prog 79 [.d (F0 a0),.d (.bool a1)] Zz10 (.d (.list 13 (r.map E5))) Zz4:=by
 refine ac2 Tryz.func79 rfl rfl fun B hB hN L => ?_;delta S3 at h;refine sr (SQ tt) ?_;refine sr (SQ tt) ?_;apply seq;refine sr (SQ tt) ?_;apply block;obtain⟨p,K,h⟩:=bindS h;refine lg (A2w a0 a1) (fun i:Int×(List A7)=>([(1,bo a1),(2,pt 1002),(5,.sref 3005 13 0 i.2.length),(6,i6 i.1)]:EL)) (fun i:Int×(List A7)=>([(500,some (.know (globD 0 (.imap gv0)))),(1002,bd 123 (F0 a0)),(3005,some (C1 i.2))]:OL)) (fun(p:(List A7)) e s t=>e = .exit 0∧Mat B s t ([(5,.sref 3005 13 0 p.length)]:EL) ([(500,some (.know (globD 0 (.imap gv0)))),(3005,some (C1 p))]:OL)) K (Mat.trans (Mat.beginP (n:=3005) (e:=71) (sz:=13) (Ts:=[(5,.sref 3005 13 0 0)]) (Bs:=[]) hB (by decide) (by rfl) (by decide) (TwT.cons (x:=.nils) (by rfl) (Tw.leaf ⟨rfl,rfl⟩) TwT.nil) TwB.nil) (mp [] _ _ hB)) (fun i y h => ?_) (fun e s t hR => ?_)
 ·unfold A2w at h;apply seq;refine sr (SQ tt) ?_;apply AWp.cond rfl<;>intro G
  ·have h:=A4 G h;apply AWp.skip;apply A0;apply block;refine sr (SQ tt) ?_;apply seq;apply block;obtain⟨E,M,h⟩:=bindS h;refine lg (A2v a0 a1 i) (fun u:Int=>([(1,bo a1),(2,pt 1002),(5,.sref 3005 13 0 i.2.length),(6,i6 i.1),(7,i6 u)]:EL)) (fun u:Int=>([(500,some (.know (globD 0 (.imap gv0)))),(1002,bd 123 (F0 a0)),(3005,some (C1 i.2))]:OL)) (fun(E:(Int)) e s t=>e = .exit 2∧Mat B s t ([(1,bo a1),(2,pt 1002),(5,.sref 3005 13 0 i.2.length),(6,i6 i.1),(7,i6 E)]:EL) ([(500,some (.know (globD 0 (.imap gv0)))),(1002,bd 123 (F0 a0)),(3005,some (C1 i.2))]:OL)) M (mp [] _ _ hB) (fun u y h => ?_) (fun e s t hR => ?_)
   ·unfold A2v at h;apply seq;apply seq;refine AWp.cut h (fun F:Bool=>([(1,bo a1),(2,pt 1002),(5,.sref 3005 13 0 i.2.length),(6,i6 i.1),(7,i6 u),(32,bo F)]:EL)) (fun F:Bool=>([(500,some (.know (globD 0 (.imap gv0)))),(1002,bd 123 (F0 a0)),(3005,some (C1 i.2))]:OL)) (fun F h s t A => ?_) (fun W H h => ?_)
    ·apply A0;refine ghost A ?_;apply AWp.cond rfl<;>intro I
     ·have h:=A4 I h;apply AWp.skip;apply A0;apply block;refine rg (SQ tt) ?_;apply D9;obtain rfl:=oi h;exact⟨rfl,mp [] _ _ hB⟩
     ·have h:=A5 I h;apply AWp.exit;apply D7;obtain rfl:=oi h;exact⟨nofun,rfl,mp [] _ _ hB⟩
    ·rcases bft (decide (u<(a0.fprefixes.length:Int))) with C | C
     ·have h:=A4 C h;obtain⟨N,h⟩:=B2 h;obtain⟨J,O,h⟩:=bindS h;obtain⟨P,Q,h⟩:=bindS h;refine drS (SQ (fa C (fa N (fa (cl [] (Y7 a0.fattrs ((a0.fprefixes.take ((w64 (u+1)).toNat)).drop i.1.toNat) a1 J O)) (fa (cl [(500,500)] (A48 J P Q)) tt))))) ?_;exact H _ h _ _ (mp [] _ _ hB)
     ·have h:=A5 C h;refine drS (SQ (fa C tt)) ?_;exact H _ h _ _ (mp [] _ _ hB)
   ·obtain⟨rfl,A⟩:=hR;apply C0;apply A0;refine ghost A ?_;obtain⟨R,h⟩:=B2 h;obtain⟨S,T,h⟩:=bindS h;obtain⟨U,h⟩:=B2 h;refine sdS (SQ (fa R (fa (cl [] (Y7 a0.fattrs ((a0.fprefixes.take E.toNat).drop i.1.toNat) a1 S T)) (fa U tt)))) ?_;refine rg (SQ tt) ?_;apply D9;obtain rfl:=oi h;exact⟨rfl,mp [(3005,1046)] _ _ hB⟩
  ·have h:=A5 G h;apply AWp.exit;apply D7;obtain rfl:=oi h;exact⟨nofun,rfl,mp [] _ _ hB⟩
 ·obtain⟨rfl,A⟩:=hR;apply C0;apply A0;refine ghost A ?_;refine sr (SQ tt) ?_;apply ret;obtain rfl:=oi h;exact rt (Mat.trans (Mat.freezeP (n:=3005) (e:=71) (sz:=13) (es:=p.map E5) (Ts:=[(4,C9 p)]) (Bs:=[]) (by rfl) (TwT.cons (x:=(.sref 3005 13 0 p.length)) (by rfl) (FrzL.all (by first | rfl | (simp;done) | (simp;omega) | omega)) TwT.nil) TwB.nil) (mp [] [(4,C9 p)] Zz4 hB)) [C9 p] (rT rN) rfl
def A3c (a0:D0) (a1:Bool) (p:Int×(List A7)) (i:Int):Option (Int⊕Int):=
 jn (fun t:Bool=>
 (if t=true then
 some (.inr (w64 (i+1)))
 else
 some (.inl i))) (fun s=>
 (if (decide (i<(a0.fprefixes.length:Int)))=true then
 chk (decide (0≤p.1)&&decide (0≤(w64 (i+1)))&&decide (p.1.toNat≤(w64 (i+1)).toNat)&&decide ((w64 (i+1)).toNat≤a0.fprefixes.length))<|
 (I3 a0.fattrs ((a0.fprefixes.take ((w64 (i+1)).toNat)).drop p.1.toNat) a1).bind fun u=>
 (M8 u).bind fun A=>
 s A
 else
 s false))
def A3d (a0:D0) (a1:Bool) (i:Int×(List A7)):Option (List A7⊕(Int×(List A7))):=
 (if (decide (i.1<(a0.fprefixes.length:Int)))=true then
 (loop (A3c a0 a1 i) (w64 (i.1+1))).bind fun p=>
 chk (decide (0≤i.1)&&decide (0≤p)&&decide (i.1.toNat≤p.toNat)&&decide (p.toNat≤a0.fprefixes.length))<|
 (I3 a0.fattrs ((a0.fprefixes.take p.toNat).drop i.1.toNat) a1).bind fun s=>
 chk (decide ((i.2++[s]).length≤LIM))<|
 some (.inr (p,(i.2++[s])))
 else
 some (.inl i.2))
def A1c (a0:D0) (a1:Bool):Option (List A7):=
 (loop (A3d a0 a1) (0,([]:List A7))).bind fun i=>
 some i
theorem A9s (a0:D0) (a1:Bool) (r:(List A7)) (h:A1c a0 a1=some r):AC Tryz.prog 79 [.d (F0 a0),.d (.bool a1)] Zz10 (.sref 900000 13 0 r.length) [(500,some (.know (globD 0 (.imap gv0)))),(900000,some (.row 71 13 (r.map E5)))]:=by
 refine ac2 Tryz.func79 rfl rfl fun B hB hN L => ?_;delta A1c at h;refine sr (SQ tt) ?_;refine sr (SQ tt) ?_;apply seq;refine sr (SQ tt) ?_;apply block;obtain⟨p,K,h⟩:=bindS h;refine lg (A3d a0 a1) (fun i:Int×(List A7)=>([(1,bo a1),(2,pt 1002),(5,.sref 3005 13 0 i.2.length),(6,i6 i.1)]:EL)) (fun i:Int×(List A7)=>([(500,some (.know (globD 0 (.imap gv0)))),(1002,bd 123 (F0 a0)),(3005,some (C1 i.2))]:OL)) (fun(p:(List A7)) e s t=>e = .exit 0∧Mat B s t ([(5,.sref 3005 13 0 p.length)]:EL) ([(500,some (.know (globD 0 (.imap gv0)))),(3005,some (C1 p))]:OL)) K (Mat.trans (Mat.beginP (n:=3005) (e:=71) (sz:=13) (Ts:=[(5,.sref 3005 13 0 0)]) (Bs:=[]) hB (by decide) (by rfl) (by decide) (TwT.cons (x:=.nils) (by rfl) (Tw.leaf ⟨rfl,rfl⟩) TwT.nil) TwB.nil) (mp [] _ _ hB)) (fun i y h => ?_) (fun e s t hR => ?_)
 ·unfold A3d at h;apply seq;refine sr (SQ tt) ?_;apply AWp.cond rfl<;>intro G
  ·have h:=A4 G h;apply AWp.skip;apply A0;apply block;refine sr (SQ tt) ?_;apply seq;apply block;obtain⟨E,M,h⟩:=bindS h;refine lg (A3c a0 a1 i) (fun u:Int=>([(1,bo a1),(2,pt 1002),(5,.sref 3005 13 0 i.2.length),(6,i6 i.1),(7,i6 u)]:EL)) (fun u:Int=>([(500,some (.know (globD 0 (.imap gv0)))),(1002,bd 123 (F0 a0)),(3005,some (C1 i.2))]:OL)) (fun(E:(Int)) e s t=>e = .exit 2∧Mat B s t ([(1,bo a1),(2,pt 1002),(5,.sref 3005 13 0 i.2.length),(6,i6 i.1),(7,i6 E)]:EL) ([(500,some (.know (globD 0 (.imap gv0)))),(1002,bd 123 (F0 a0)),(3005,some (C1 i.2))]:OL)) M (mp [] _ _ hB) (fun u y h => ?_) (fun e s t hR => ?_)
   ·unfold A3c at h;apply seq;apply seq;refine AWp.cut h (fun F:Bool=>([(1,bo a1),(2,pt 1002),(5,.sref 3005 13 0 i.2.length),(6,i6 i.1),(7,i6 u),(32,bo F)]:EL)) (fun F:Bool=>([(500,some (.know (globD 0 (.imap gv0)))),(1002,bd 123 (F0 a0)),(3005,some (C1 i.2))]:OL)) (fun F h s t A => ?_) (fun W H h => ?_)
    ·apply A0;refine ghost A ?_;apply AWp.cond rfl<;>intro I
     ·have h:=A4 I h;apply AWp.skip;apply A0;apply block;refine rg (SQ tt) ?_;apply D9;obtain rfl:=oi h;exact⟨rfl,mp [] _ _ hB⟩
     ·have h:=A5 I h;apply AWp.exit;apply D7;obtain rfl:=oi h;exact⟨nofun,rfl,mp [] _ _ hB⟩
    ·rcases bft (decide (u<(a0.fprefixes.length:Int))) with C | C
     ·have h:=A4 C h;obtain⟨N,h⟩:=B2 h;obtain⟨J,O,h⟩:=bindS h;obtain⟨P,Q,h⟩:=bindS h;refine drS (SQ (fa C (fa N (fa (cl [] (Y7 a0.fattrs ((a0.fprefixes.take ((w64 (u+1)).toNat)).drop i.1.toNat) a1 J O)) (fa (cl [(500,500)] (A48 J P Q)) tt))))) ?_;exact H _ h _ _ (mp [] _ _ hB)
     ·have h:=A5 C h;refine drS (SQ (fa C tt)) ?_;exact H _ h _ _ (mp [] _ _ hB)
   ·obtain⟨rfl,A⟩:=hR;apply C0;apply A0;refine ghost A ?_;obtain⟨R,h⟩:=B2 h;obtain⟨S,T,h⟩:=bindS h;obtain⟨U,h⟩:=B2 h;refine sdS (SQ (fa R (fa (cl [] (Y7 a0.fattrs ((a0.fprefixes.take E.toNat).drop i.1.toNat) a1 S T)) (fa U tt)))) ?_;refine rg (SQ tt) ?_;apply D9;obtain rfl:=oi h;exact⟨rfl,mp [(3005,1046)] _ _ hB⟩
  ·have h:=A5 G h;apply AWp.exit;apply D7;obtain rfl:=oi h;exact⟨nofun,rfl,mp [] _ _ hB⟩
 ·obtain⟨rfl,A⟩:=hR;apply C0;apply A0;refine ghost A ?_;refine sr (SQ tt) ?_;apply ret;obtain rfl:=oi h;exact rt (mp [(900000,3005)] [(4,.sref 900000 13 0 p.length)] [(500,some (.know (globD 0 (.imap gv0)))),(900000,some (C1 p))] hB) [.sref 900000 13 0 p.length] (rT rN) rfl
end
end Go.Proofs.YtplbaenjbihekaaGreatDoor
