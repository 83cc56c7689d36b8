/- Printed by gen.py: the Go functions as plain functions, and that the code does what they say. -/
import Derived.Test.YtgcilleccigmdaaGreatDoorChecked
import Derived.Test.YtgcilleccigmdaaGreatDoorVcYB
import Derived.Test.YtgcilleccigmdaaGreatDoorVcZ
import Derived.KernelRfl
import Derived.Test.YtgcilleccigmdaaGreatDoorVcMD
import Derived.Test.YtgcilleccigmdaaGreatDoorVcMQ
import Derived.Test.YtgcilleccigmdaaGreatDoorVcSG
import Derived.Test.YtgcilleccigmdaaGreatDoorFnsC
import Derived.Test.YtgcilleccigmdaaGreatDoorExt
import Derived.Test.YtgcilleccigmdaaGreatDoorVcGl
import Derived.Test.YtgcilleccigmdaaGreatDoorVcSO
import Derived.Test.YtgcilleccigmdaaGreatDoorVcWS
namespace Go.Proofs.YtgcilleccigmdaaGreatDoor
open Go Go.Vc
open Tryz
set_option maxHeartbeats 4000000
set_option maxRecDepth 100000
noncomputable def resource_order_minus_L1 (a1 : (List api_Addr_)) (s433 : Int × api_Addr_ × (List api_Addr_)) : Option (((Bool × api_Addr_ × (List api_Addr_))) ⊕ (Int × api_Addr_ × (List api_Addr_))) :=
 (if (decide (s433.1 < (a1.length : Int))) = true then
 jn (fun m602 : api_Addr_ × (List api_Addr_) =>
 some (.inr ((w64 (s433.1 + (1 : Int))), m602.1, m602.2))) (fun j603 =>
 (idx a1 s433.1).bind fun x604 =>
 jn (fun m609 : Bool =>
 (if m609 = true then
 j603 (s433.2.1, s433.2.2)
 else
 (resource_before x604.ffrom).bind fun r612 =>
 jn (fun m615 : Bool =>
 jn (fun m619 : (List api_Addr_) =>
 (addr_Next x604.fto).bind fun r621 =>
 jn (fun m624 : Bool =>
 (if m624 = true then
 some (.inl (false, s433.2.1, m619))
 else
 j603 ((api_Addr_.mk r621.1 s433.2.1.fto), m619))) (fun j625 =>
 (if (!r621.2) = true then
 j625 true
 else
 (addr_Cmp r621.1 s433.2.1.fto).bind fun r628 =>
 j625 (decide ((0 : Int) < r628))))) (fun j620 =>
 (if m615 = true then
 chk (decide ((s433.2.2 ++ ([(api_Addr_.mk s433.2.1.ffrom r612.1)] : List api_Addr_)).length ≤ LIM)) <|
 j620 (s433.2.2 ++ ([(api_Addr_.mk s433.2.1.ffrom r612.1)] : List api_Addr_))
 else
 j620 s433.2.2))) (fun j616 =>
 (if r612.2 = true then
 (addr_Cmp s433.2.1.ffrom r612.1).bind fun r632 =>
 j616 (decide (r632 ≤ (0 : Int)))
 else
 j616 false)))) (fun j610 =>
 (addr_Cmp x604.fto s433.2.1.ffrom).bind fun r633 =>
 (if (decide (r633 < (0 : Int))) = true then
 j610 true
 else
 (addr_Cmp x604.ffrom s433.2.1.fto).bind fun r635 =>
 j610 (decide ((0 : Int) < r635)))))
 else
 some (.inl (true, s433.2.1, s433.2.2)))
noncomputable def resource_order_minus_L0 (a0 : (List api_Addr_)) (a1 : (List api_Addr_)) (s1 : Int × (List api_Addr_)) : Option ((((List api_Addr_))) ⊕ (Int × (List api_Addr_))) :=
 (if (decide (s1.1 < (a0.length : Int))) = true then
 (idx a0 s1.1).bind fun x432 =>
 (loop (resource_order_minus_L1 a1) ((0 : Int), x432, s1.2)).bind fun p568 =>
 jn (fun m640 : (List api_Addr_) =>
 some (.inr ((w64 (s1.1 + (1 : Int))), m640))) (fun j641 =>
 (if p568.1 = true then
 chk (decide ((p568.2.2 ++ ([p568.2.1] : List api_Addr_)).length ≤ LIM)) <|
 j641 (p568.2.2 ++ ([p568.2.1] : List api_Addr_))
 else
 j641 p568.2.2))
 else
 some (.inl s1.2))
noncomputable def resource_order_minus (a0 : (List api_Addr_)) (a1 : (List api_Addr_)) : Option ((List api_Addr_)) :=
 (loop (resource_order_minus_L0 a0 a1) ((0 : Int), ([] : List api_Addr_))).bind fun p430 =>
 some p430
theorem resource_order_minus_ac (a0 : (List api_Addr_)) (a1 : (List api_Addr_)) (r : (List api_Addr_)) (h : resource_order_minus a0 a1 = some r) : AC Tryz.prog 64 [(.st [(.func 50 []), (.func 52 []), (.func 133 [])]), (.d (.list 6 (a0.map e_api_Addr_))), (.d (.list 6 (a1.map e_api_Addr_)))] [] (.d (.list 6 (r.map e_api_Addr_))) [] := by
 refine AC.of_code2 Tryz.func64 rfl rfl (Nat.le_of_ble_eq_true (by rfl)) fun B hB hN => ?_
 have L {d : Nat} (h : Nat.blt d Tryz.f64.ntmps = true) : d < B.N := ltN hN h
 delta resource_order_minus at h
 refine sr (cg (OpJ.box hB (nm := 1003) (by decide) (by simp) rfl (L rfl) (q 0)) rfl (c (OpJ.assign (L rfl) Opd.nils) rfl cn)) ?_
 refine sr (c (OpJ.assign (L rfl) Opd.nils) rfl cn) ?_
 apply AWp.seq
 refine sr (c (mv hN (q 1)) rfl (c (OpJ.val (v' := (i6 (a0.length : Int))) (by simp) (OpJ.lenD underlying66 (L rfl) (q 17))) rfl (c (mv hN (Opd.int .i64 (0))) rfl cn))) ?_
 apply AWp.block
 obtain ⟨p430, hx645, h⟩ := bindS h
 refine lg (resource_order_minus_L0 a0 a1) (fun s1 : Int × (List api_Addr_) => ([(2, (qe_api_Addr__6 a1)), (3, (pt 1003)), (7, (.sref 3007 6 0 s1.2.length)), (17, (qe_api_Addr__6 a0)), (18, (i6 (a0.length : Int))), (19, (i6 s1.1))] : EL)) (fun s1 : Int × (List api_Addr_) => ([(1003, some (.box 73 (.st [(.func 50 []), (.func 52 []), (.func 133 [])]))), (3007, some (we_api_Addr__99_6 s1.2))] : OL)) (fun (p430 : ((List api_Addr_))) e E' O' => e = .exit 0 ∧ Mat B E' O' ([(7, (.sref 3007 6 0 p430.length))] : EL) ([(3007, some (we_api_Addr__99_6 p430))] : OL)) hx645 (Mat.trans (Mat.beginP (n := 3007) (e := 99) (sz := 6) (Ts := [(7, (.sref 3007 6 0 0))]) (Bs := []) hB (by decide) (by rfl) (by decide) (TwT.cons (x := .nils) (by rfl) (Tw.leaf ⟨rfl, rfl⟩) TwT.nil) TwB.nil) (mp [] _ _ hB)) (fun s1 y h => ?_) (fun e E' O' hR => ?_)
 ·unfold resource_order_minus_L0 at h
  refine sr (c (OpJ.lss (L rfl) (q 19) (q 18)) rfl cn) ?_
  apply AWp.seq
  refine AWp.cond rfl (fun hg431 => ?_) (fun hg431 => ?_)
  ·replace h := ite_t hg431 h
   apply AWp.skip
   apply seqQ_n
   apply AWp.seq
   apply AWp.block
   obtain ⟨x432, hx432, h⟩ := bindS h
   refine sr (c (OpJ.indexD underlying66 tyS99 (idx_some hx432).1 (get_map e_api_Addr_ (idx_some hx432).2) (L rfl) (q 17) (q 19)) rfl (c (OpJ.loadD tyS99 (by rfl) (by rfl) (L rfl) (q 21)) rfl (cg (OpJ.alloc hB tyZ99 (nm := 1009) (by decide) (L rfl)) rfl (cg (sB tyS99 (q 9) (q 22)) rfl cn)))) ?_
   refine sr (c (OpJ.assign (L rfl) (Opd.bool true)) rfl cn) ?_
   apply AWp.seq
   refine sr (c (mv hN (q 2)) rfl (c (OpJ.val (v' := (i6 (a1.length : Int))) (by simp) (OpJ.lenD underlying66 (L rfl) (q 23))) rfl (c (mv hN (Opd.int .i64 (0))) rfl cn))) ?_
   apply AWp.block
   obtain ⟨p568, hx637, h⟩ := bindS h
   refine lg (resource_order_minus_L1 a1) (fun s433 : Int × api_Addr_ × (List api_Addr_) => ([(2, (qe_api_Addr__6 a1)), (3, (pt 1003)), (7, (.sref 3007 6 0 s433.2.2.length)), (9, (pt 1009)), (10, (bo true)), (17, (qe_api_Addr__6 a0)), (18, (i6 (a0.length : Int))), (19, (i6 s1.1)), (23, (qe_api_Addr__6 a1)), (24, (i6 (a1.length : Int))), (25, (i6 s433.1))] : EL)) (fun s433 : Int × api_Addr_ × (List api_Addr_) => ([(1003, some (.box 73 (.st [(.func 50 []), (.func 52 []), (.func 133 [])]))), (1009, bd 99 (e_api_Addr_ s433.2.1)), (3007, some (we_api_Addr__99_6 s433.2.2))] : OL)) (fun (p568 : (Bool × api_Addr_ × (List api_Addr_))) e E' O' => e = .exit 2 ∧ Mat B E' O' ([(2, (qe_api_Addr__6 a1)), (3, (pt 1003)), (7, (.sref 3007 6 0 p568.2.2.length)), (9, (pt 1009)), (10, (bo p568.1)), (17, (qe_api_Addr__6 a0)), (18, (i6 (a0.length : Int))), (19, (i6 s1.1))] : EL) ([(1003, some (.box 73 (.st [(.func 50 []), (.func 52 []), (.func 133 [])]))), (1009, bd 99 (e_api_Addr_ p568.2.1)), (3007, some (we_api_Addr__99_6 p568.2.2))] : OL)) hx637 (mp [] _ _ hB) (fun s433 y h => ?_) (fun e E' O' hR => ?_)
   ·unfold resource_order_minus_L1 at h
    refine sr (c (OpJ.lss (L rfl) (q 25) (q 24)) rfl cn) ?_
    apply AWp.seq
    refine AWp.cond rfl (fun hg569 => ?_) (fun hg569 => ?_)
    ·replace h := ite_t hg569 h
     apply AWp.skip
     apply seqQ_n
     apply AWp.seq
     refine AWp.cut h (fun m602 : api_Addr_ × (List api_Addr_) => ([(2, (qe_api_Addr__6 a1)), (3, (pt 1003)), (7, (.sref 3007 6 0 m602.2.length)), (9, (pt 1009)), (10, (bo true)), (17, (qe_api_Addr__6 a0)), (18, (i6 (a0.length : Int))), (19, (i6 s1.1)), (23, (qe_api_Addr__6 a1)), (24, (i6 (a1.length : Int))), (25, (i6 s433.1))] : EL)) (fun m602 : api_Addr_ × (List api_Addr_) => ([(1003, some (.box 73 (.st [(.func 50 []), (.func 52 []), (.func 133 [])]))), (1009, bd 99 (e_api_Addr_ m602.1)), (3007, some (we_api_Addr__99_6 m602.2))] : OL)) (fun m602 h E' O' hmat => ?_) (fun j603 hjj603 h => ?_)
     ·apply seqQ_n
      refine AWp.ghost hmat ?_
      refine rg (c (add6 (L rfl) (q 25) (Opd.int .i64 (1))) rfl (c (mv hN (q 93)) rfl cn)) ?_
      obtain rfl := Option.some.inj h
      exact ⟨rfl, (mp [] _ _ hB)⟩
     ·apply AWp.block
      obtain ⟨x604, hx604, h⟩ := bindS h
      refine sr (c (OpJ.indexD underlying66 tyS99 (idx_some hx604).1 (get_map e_api_Addr_ (idx_some hx604).2) (L rfl) (q 23) (q 25)) rfl (c (OpJ.loadD tyS99 (by rfl) (by rfl) (L rfl) (q 27)) rfl (cg (OpJ.alloc hB tyZ99 (nm := 1012) (by decide) (L rfl)) rfl (cg (sB tyS99 (q 12) (q 28)) rfl cn)))) ?_
      apply AWp.seq
      apply AWp.seq
      refine AWp.cut h (fun m609 : Bool => ([(2, (qe_api_Addr__6 a1)), (3, (pt 1003)), (7, (.sref 3007 6 0 s433.2.2.length)), (9, (pt 1009)), (10, (bo true)), (12, (pt 1012)), (17, (qe_api_Addr__6 a0)), (18, (i6 (a0.length : Int))), (19, (i6 s1.1)), (23, (qe_api_Addr__6 a1)), (24, (i6 (a1.length : Int))), (25, (i6 s433.1)), (46, (bo m609))] : EL)) (fun m609 : Bool => ([(1003, some (.box 73 (.st [(.func 50 []), (.func 52 []), (.func 133 [])]))), (1009, bd 99 (e_api_Addr_ s433.2.1)), (1012, bd 99 (e_api_Addr_ x604)), (3007, some (we_api_Addr__99_6 s433.2.2))] : OL)) (fun m609 h E' O' hmat => ?_) (fun j610 hjj610 h => ?_)
      ·apply seqQ_n
       refine AWp.ghost hmat ?_
       refine AWp.cond rfl (fun hg611 => ?_) (fun hg611 => ?_)
       ·replace h := ite_t hg611 h
        apply AWp.exit
        apply seqQ_e
        apply blkQ_hit
        exact hjj603 _ h _ _ (mp [] _ _ hB)
       ·replace h := ite_f hg611 h
        apply AWp.skip
        apply seqQ_n
        apply AWp.seq
        obtain ⟨r612, hr612, h⟩ := bindS h
        refine sr (c (fo 1003 2 [2] hN underlying73 2 tyS48 (q 3)) rfl (c (lb hN 73 _ (.func 133 []) tyS48 (At.st1 (f := (.func 133 [])) (by rfl) (by rfl) (At.here _) (by first | rfl | omega)) (q 48)) rfl (c (fo 1012 0 [0] hN underlying99 0 tyS42 (q 12)) rfl (c (la hN 99 tyS42 (q 50)) rfl (cg (OpJ.callVal (args := [(.d (e_api_Addr x604.ffrom))]) (caps := []) hB fnOk133 [] (resource_before_ac x604.ffrom r612 hr612) (by kernel_rfl) (L rfl) (by kernel_rfl) (by kernel_rfl) (OpdL.cons (q 51) OpdL.nil)) rfl (c (mv hN (q 52)) rfl (c (OpJ.extract (by rfl) rfl (L rfl) (q 47)) rfl (c (OpJ.extract (by rfl) rfl (L rfl) (q 47)) rfl (cg (OpJ.alloc hB tyZ42 (nm := 1013) (by decide) (L rfl)) rfl (cg (sB tyS42 (q 13) (q 53)) rfl (c (OpJ.assign (L rfl) (q 54)) rfl cn))))))))))) ?_
        apply AWp.seq
        refine AWp.cut h (fun m615 : Bool => ([(2, (qe_api_Addr__6 a1)), (3, (pt 1003)), (7, (.sref 3007 6 0 s433.2.2.length)), (9, (pt 1009)), (10, (bo true)), (12, (pt 1012)), (13, (pt 1013)), (17, (qe_api_Addr__6 a0)), (18, (i6 (a0.length : Int))), (19, (i6 s1.1)), (23, (qe_api_Addr__6 a1)), (24, (i6 (a1.length : Int))), (25, (i6 s433.1)), (64, (bo m615))] : EL)) (fun m615 : Bool => ([(1003, some (.box 73 (.st [(.func 50 []), (.func 52 []), (.func 133 [])]))), (1009, bd 99 (e_api_Addr_ s433.2.1)), (1012, bd 99 (e_api_Addr_ x604)), (1013, bd 42 (e_api_Addr r612.1)), (3007, some (we_api_Addr__99_6 s433.2.2))] : OL)) (fun m615 h E' O' hmat => ?_) (fun j616 hjj616 h => ?_)
        ·apply seqQ_n
         refine AWp.ghost hmat ?_
         refine AWp.cut h (fun m619 : (List api_Addr_) => ([(2, (qe_api_Addr__6 a1)), (3, (pt 1003)), (7, (.sref 3007 6 0 m619.length)), (9, (pt 1009)), (10, (bo true)), (12, (pt 1012)), (17, (qe_api_Addr__6 a0)), (18, (i6 (a0.length : Int))), (19, (i6 s1.1)), (23, (qe_api_Addr__6 a1)), (24, (i6 (a1.length : Int))), (25, (i6 s433.1))] : EL)) (fun m619 : (List api_Addr_) => ([(1003, some (.box 73 (.st [(.func 50 []), (.func 52 []), (.func 133 [])]))), (1009, bd 99 (e_api_Addr_ s433.2.1)), (1012, bd 99 (e_api_Addr_ x604)), (3007, some (we_api_Addr__99_6 m619))] : OL)) (fun m619 h E' O' hmat => ?_) (fun j620 hjj620 h => ?_)
         ·apply seqQ_n
          refine AWp.ghost hmat ?_
          obtain ⟨r621, hr621, h⟩ := bindS h
          refine sr (c (fo 1003 1 [1] hN underlying73 1 tyS48 (q 3)) rfl (c (lb hN 73 _ (.func 52 []) tyS48 (At.st1 (f := (.func 52 [])) (by rfl) (by rfl) (At.here _) (by first | rfl | omega)) (q 73)) rfl (c (fo 1012 3 [1] hN underlying99 3 tyS42 (q 12)) rfl (c (la hN 99 tyS42 (q 75)) rfl (cg (OpJ.callVal (args := [(.d (e_api_Addr x604.fto))]) (caps := []) hB fnOk52 [] (addr_Next_ac x604.fto r621 hr621) (by kernel_rfl) (L rfl) (by kernel_rfl) (by kernel_rfl) (OpdL.cons (q 76) OpdL.nil)) rfl (c (mv hN (q 77)) rfl (c (OpJ.extract (by rfl) rfl (L rfl) (q 72)) rfl (c (OpJ.extract (by rfl) rfl (L rfl) (q 72)) rfl (cg (OpJ.alloc hB tyZ42 (nm := 1015) (by decide) (L rfl)) rfl (cg (sB tyS42 (q 15) (q 78)) rfl (c (OpJ.assign (L rfl) (q 79)) rfl cn))))))))))) ?_
          apply AWp.seq
          apply AWp.seq
          refine AWp.cut h (fun m624 : Bool => ([(2, (qe_api_Addr__6 a1)), (3, (pt 1003)), (7, (.sref 3007 6 0 m619.length)), (9, (pt 1009)), (10, (bo true)), (15, (pt 1015)), (17, (qe_api_Addr__6 a0)), (18, (i6 (a0.length : Int))), (19, (i6 s1.1)), (23, (qe_api_Addr__6 a1)), (24, (i6 (a1.length : Int))), (25, (i6 s433.1)), (90, (bo m624))] : EL)) (fun m624 : Bool => ([(1003, some (.box 73 (.st [(.func 50 []), (.func 52 []), (.func 133 [])]))), (1009, bd 99 (e_api_Addr_ s433.2.1)), (1015, bd 42 (e_api_Addr r621.1)), (3007, some (we_api_Addr__99_6 m619))] : OL)) (fun m624 h E' O' hmat => ?_) (fun j625 hjj625 h => ?_)
          ·apply seqQ_n
           refine AWp.ghost hmat ?_
           refine AWp.cond rfl (fun hg626 => ?_) (fun hg626 => ?_)
           ·replace h := ite_t hg626 h
            refine sr (c (OpJ.assign (L rfl) (Opd.bool false)) rfl cn) ?_
            refine gh [(2, _), (3, _), (7, _), (9, _), (10, _), (17, _), (18, _), (19, _)] [(1003, some _), (1009, some _), (3007, some _)] hB rfl rfl (by rfl) ?_
            apply AWp.exit
            apply seqQ_e
            refine blkQ_miss (by rfl) ?_
            apply seqQ_e
            obtain rfl := Option.some.inj h
            exact ⟨(fun hc => by cases hc), rfl, (mp [] _ _ hB)⟩
           ·replace h := ite_f hg626 h
            apply AWp.skip
            apply seqQ_n
            refine rg (c (lb hN 42 _ _ tyS42 (At.here _) (q 15)) rfl (c (fo 1009 0 [0] hN underlying99 0 tyS42 (q 9)) rfl (cg (OpJ.storeB tyS42 (SetAt.dst1 (by rfl) (by rfl) (SetAt.here _ _) (by rfl) (by rfl) (by first | rfl | omega)) (by rfl) (by rfl) (by simp) rfl (q 92) (q 91)) rfl cn))) ?_
            apply blkQ_n
            exact hjj603 _ h _ _ (mp [] _ _ hB)
          ·rcases Bool.eq_false_or_eq_true (!r621.2) with hg627 | hg627
           ·replace h := ite_t hg627 h
            refine rg (c (mv hN (q 16)) rfl (c (OpJ.not (L rfl) (q 80)) rfl (c (OpJ.val (v' := .d (.bool true)) (by rw [hg627] <;> rfl) (mv hN (q 81))) rfl (cg (sU 82 (L rfl)) rfl (cg (sU 82 (L rfl)) rfl (cg (sU 82 (L rfl)) rfl (cg (sU 82 (L rfl)) rfl (cg (sU 82 (L rfl)) rfl (cg (sU 82 (L rfl)) rfl (cg (sU 82 (L rfl)) rfl (c (OpJ.pickT (L rfl) (q 82) (Opd.bool true)) rfl cn))))))))))) ?_
            exact hjj625 _ h _ _ (mp [] _ _ hB)
           ·replace h := ite_f hg627 h
            obtain ⟨r628, hr628, h⟩ := bindS h
            refine rg (c (mv hN (q 16)) rfl (c (OpJ.not (L rfl) (q 80)) rfl (c (OpJ.val (v' := .d (.bool false)) (by rw [hg627] <;> rfl) (mv hN (q 81))) rfl (c (gd 82 (fo 1003 0 [0] hN underlying73 0 tyS71 (q 3))) rfl (c (gd 82 (lb hN 73 _ (.func 50 []) tyS71 (At.st1 (f := (.func 50 [])) (by rfl) (by rfl) (At.here _) (by first | rfl | omega)) (q 83))) rfl (c (gd 82 (lb hN 42 _ _ tyS42 (At.here _) (q 15))) rfl (c (gd 82 (fo 1009 3 [1] hN underlying99 3 tyS42 (q 9))) rfl (c (gd 82 (la hN 99 tyS42 (q 86))) rfl (cg (gd 82 (OpJ.callVal (args := [(.d (e_api_Addr r621.1)), (.d (e_api_Addr s433.2.1.fto))]) (caps := []) hB fnOk50 [] (addr_Cmp_ac r621.1 s433.2.1.fto r628 hr628) (by kernel_rfl) (L rfl) (by kernel_rfl) (by kernel_rfl) (OpdL.cons (q 85) (OpdL.cons (q 87) OpdL.nil)))) rfl (c (gd 82 (OpJ.gtr (L rfl) (q 88) (Opd.int .i64 (0)))) rfl (c (OpJ.pickF (L rfl) (q 82) (q 89)) rfl cn))))))))))) ?_
            exact hjj625 _ h _ _ (mp [] _ _ hB)
         ·refine AWp.cond rfl (fun hg629 => ?_) (fun hg629 => ?_)
          ·replace h := ite_t hg629 h
           obtain ⟨hc630, h⟩ := chk_some h
           refine rg (c (mv hN (q 7)) rfl (c (fo 1009 0 [0] hN underlying99 0 tyS42 (q 9)) rfl (c (la hN 99 tyS42 (q 66)) rfl (c (lb hN 42 _ _ tyS42 (At.here _) (q 13)) rfl (c (OpJ.coe (v := (.st [(.d (e_api_Addr s433.2.1.ffrom)), (.d (e_api_Addr r612.1))])) (y := (.st [(e_api_Addr s433.2.1.ffrom), (e_api_Addr r612.1)])) (Co.st (CoL.cons (Co.d _) (CoL.cons (Co.d _) CoL.nil))) rfl (OpJ.build (places := [(0, 3), (3, 3)]) ⟨underlying99, fun w => by kernel_rfl⟩ tyZS99 (Opds.cons (q 67) (Opds.cons (q 68) Opds.nil)) (by kernel_rfl) (r := (.st [(.d (e_api_Addr s433.2.1.ffrom)), (.d (e_api_Addr r612.1))])) (by rfl) (L rfl))) rfl (c (OpJ.buildSlice underlying66 tyS99 tyZD99 (by rfl) (by decide) (by decide) (Opds.cons (q 69) Opds.nil) (by kernel_rfl) (es := ([(.st [(e_api_Addr s433.2.1.ffrom), (e_api_Addr r612.1)])] : List D)) (by rfl) (by rfl) (by kernel_rfl) (by simp) (L rfl)) rfl (cg (apd hB underlying66 tyE99 1071 e_api_Addr_ s433.2.2 ([(api_Addr_.mk s433.2.1.ffrom r612.1)] : List api_Addr_) hc630 (L rfl) (q 65) (q 70)) rfl (c (OpJ.assign (L rfl) (q 71)) rfl cn)))))))) ?_
           exact hjj620 _ h _ _ (mp [(3007, 1071)] _ _ hB)
          ·replace h := ite_f hg629 h
           apply AWp.skip
           exact hjj620 _ h _ _ (mp [] _ _ hB)
        ·rcases Bool.eq_false_or_eq_true r612.2 with hg631 | hg631
         ·replace h := ite_t hg631 h
          obtain ⟨r632, hr632, h⟩ := bindS h
          refine rg (c (mv hN (q 14)) rfl (c (OpJ.val (v' := .d (.bool true)) (by rw [hg631] <;> rfl) (mv hN (q 55))) rfl (c (gd 56 (fo 1003 0 [0] hN underlying73 0 tyS71 (q 3))) rfl (c (gd 56 (lb hN 73 _ (.func 50 []) tyS71 (At.st1 (f := (.func 50 [])) (by rfl) (by rfl) (At.here _) (by first | rfl | omega)) (q 57))) rfl (c (gd 56 (fo 1009 0 [0] hN underlying99 0 tyS42 (q 9))) rfl (c (gd 56 (la hN 99 tyS42 (q 59))) rfl (c (gd 56 (lb hN 42 _ _ tyS42 (At.here _) (q 13))) rfl (cg (gd 56 (OpJ.callVal (args := [(.d (e_api_Addr s433.2.1.ffrom)), (.d (e_api_Addr r612.1))]) (caps := []) hB fnOk50 [] (addr_Cmp_ac s433.2.1.ffrom r612.1 r632 hr632) (by kernel_rfl) (L rfl) (by kernel_rfl) (by kernel_rfl) (OpdL.cons (q 60) (OpdL.cons (q 61) OpdL.nil)))) rfl (c (gd 56 (OpJ.leq (L rfl) (q 62) (Opd.int .i64 (0)))) rfl (c (OpJ.pickT (L rfl) (q 56) (q 63)) rfl cn)))))))))) ?_
          exact hjj616 _ h _ _ (mp [] _ _ hB)
         ·replace h := ite_f hg631 h
          refine rg (c (mv hN (q 14)) rfl (c (OpJ.val (v' := .d (.bool false)) (by rw [hg631] <;> rfl) (mv hN (q 55))) rfl (cg (sU 56 (L rfl)) rfl (cg (sU 56 (L rfl)) rfl (cg (sU 56 (L rfl)) rfl (cg (sU 56 (L rfl)) rfl (cg (sU 56 (L rfl)) rfl (cg (sU 56 (L rfl)) rfl (cg (sU 56 (L rfl)) rfl (c (OpJ.pickF (L rfl) (q 56) (Opd.bool false)) rfl cn)))))))))) ?_
          exact hjj616 _ h _ _ (mp [] _ _ hB)
      ·obtain ⟨r633, hr633, h⟩ := bindS h
       rcases Bool.eq_false_or_eq_true (decide (r633 < (0 : Int))) with hg634 | hg634
       ·replace h := ite_t hg634 h
        refine rg (c (fo 1003 0 [0] hN underlying73 0 tyS71 (q 3)) rfl (c (lb hN 73 _ (.func 50 []) tyS71 (At.st1 (f := (.func 50 [])) (by rfl) (by rfl) (At.here _) (by first | rfl | omega)) (q 29)) rfl (c (fo 1012 3 [1] hN underlying99 3 tyS42 (q 12)) rfl (c (la hN 99 tyS42 (q 31)) rfl (c (fo 1009 0 [0] hN underlying99 0 tyS42 (q 9)) rfl (c (la hN 99 tyS42 (q 33)) rfl (cg (OpJ.callVal (args := [(.d (e_api_Addr x604.fto)), (.d (e_api_Addr s433.2.1.ffrom))]) (caps := []) hB fnOk50 [] (addr_Cmp_ac x604.fto s433.2.1.ffrom r633 hr633) (by kernel_rfl) (L rfl) (by kernel_rfl) (by kernel_rfl) (OpdL.cons (q 32) (OpdL.cons (q 34) OpdL.nil))) rfl (c (OpJ.lss (L rfl) (q 35) (Opd.int .i64 (0))) rfl (c (OpJ.val (v' := .d (.bool true)) (by rw [hg634] <;> rfl) (mv hN (q 36))) rfl (cg (sU 37 (L rfl)) rfl (cg (sU 37 (L rfl)) rfl (cg (sU 37 (L rfl)) rfl (cg (sU 37 (L rfl)) rfl (cg (sU 37 (L rfl)) rfl (cg (sU 37 (L rfl)) rfl (cg (sU 37 (L rfl)) rfl (cg (sU 37 (L rfl)) rfl (c (OpJ.pickT (L rfl) (q 37) (Opd.bool true)) rfl cn)))))))))))))))))) ?_
        exact hjj610 _ h _ _ (mp [] _ _ hB)
       ·replace h := ite_f hg634 h
        obtain ⟨r635, hr635, h⟩ := bindS h
        refine rg (c (fo 1003 0 [0] hN underlying73 0 tyS71 (q 3)) rfl (c (lb hN 73 _ (.func 50 []) tyS71 (At.st1 (f := (.func 50 [])) (by rfl) (by rfl) (At.here _) (by first | rfl | omega)) (q 29)) rfl (c (fo 1012 3 [1] hN underlying99 3 tyS42 (q 12)) rfl (c (la hN 99 tyS42 (q 31)) rfl (c (fo 1009 0 [0] hN underlying99 0 tyS42 (q 9)) rfl (c (la hN 99 tyS42 (q 33)) rfl (cg (OpJ.callVal (args := [(.d (e_api_Addr x604.fto)), (.d (e_api_Addr s433.2.1.ffrom))]) (caps := []) hB fnOk50 [] (addr_Cmp_ac x604.fto s433.2.1.ffrom r633 hr633) (by kernel_rfl) (L rfl) (by kernel_rfl) (by kernel_rfl) (OpdL.cons (q 32) (OpdL.cons (q 34) OpdL.nil))) rfl (c (OpJ.lss (L rfl) (q 35) (Opd.int .i64 (0))) rfl (c (OpJ.val (v' := .d (.bool false)) (by rw [hg634] <;> rfl) (mv hN (q 36))) rfl (c (gd 37 (fo 1003 0 [0] hN underlying73 0 tyS71 (q 3))) rfl (c (gd 37 (lb hN 73 _ (.func 50 []) tyS71 (At.st1 (f := (.func 50 [])) (by rfl) (by rfl) (At.here _) (by first | rfl | omega)) (q 38))) rfl (c (gd 37 (fo 1012 0 [0] hN underlying99 0 tyS42 (q 12))) rfl (c (gd 37 (la hN 99 tyS42 (q 40))) rfl (c (gd 37 (fo 1009 3 [1] hN underlying99 3 tyS42 (q 9))) rfl (c (gd 37 (la hN 99 tyS42 (q 42))) rfl (cg (gd 37 (OpJ.callVal (args := [(.d (e_api_Addr x604.ffrom)), (.d (e_api_Addr s433.2.1.fto))]) (caps := []) hB fnOk50 [] (addr_Cmp_ac x604.ffrom s433.2.1.fto r635 hr635) (by kernel_rfl) (L rfl) (by kernel_rfl) (by kernel_rfl) (OpdL.cons (q 41) (OpdL.cons (q 43) OpdL.nil)))) rfl (c (gd 37 (OpJ.gtr (L rfl) (q 44) (Opd.int .i64 (0)))) rfl (c (OpJ.pickF (L rfl) (q 37) (q 45)) rfl cn)))))))))))))))))) ?_
        exact hjj610 _ h _ _ (mp [] _ _ hB)
    ·replace h := ite_f hg569 h
     apply AWp.exit
     apply seqQ_e
     obtain rfl := Option.some.inj h
     exact ⟨(fun hc => by cases hc), rfl, (mp [] _ _ hB)⟩
   ·obtain ⟨rfl, hmat⟩ := hR
    apply blkQ_hit
    apply seqQ_n
    refine AWp.ghost hmat ?_
    refine sr (c (mv hN (q 10)) rfl cn) ?_
    refine gh [(2, _), (3, _), (7, _), (9, _), (17, _), (18, _), (19, _), (94, _)] [(1003, some _), (1009, some _), (3007, some _)] hB rfl rfl (by rfl) ?_
    refine AWp.cut h (fun m640 : (List api_Addr_) => ([(2, (qe_api_Addr__6 a1)), (3, (pt 1003)), (7, (.sref 3007 6 0 m640.length)), (17, (qe_api_Addr__6 a0)), (18, (i6 (a0.length : Int))), (19, (i6 s1.1))] : EL)) (fun m640 : (List api_Addr_) => ([(1003, some (.box 73 (.st [(.func 50 []), (.func 52 []), (.func 133 [])]))), (3007, some (we_api_Addr__99_6 m640))] : OL)) (fun m640 h E' O' hmat => ?_) (fun j641 hjj641 h => ?_)
    ·apply blkQ_n
     apply seqQ_n
     refine AWp.ghost hmat ?_
     refine rg (c (add6 (L rfl) (q 19) (Opd.int .i64 (1))) rfl (c (mv hN (q 99)) rfl cn)) ?_
     obtain rfl := Option.some.inj h
     exact ⟨rfl, (mp [] _ _ hB)⟩
    ·refine AWp.cond rfl (fun hg642 => ?_) (fun hg642 => ?_)
     ·replace h := ite_t hg642 h
      obtain ⟨hc643, h⟩ := chk_some h
      refine rg (c (mv hN (q 7)) rfl (c (lb hN 99 _ _ tyS99 (At.here _) (q 9)) rfl (c (OpJ.buildSlice underlying66 tyS99 tyZD99 (by rfl) (by decide) (by decide) (Opds.cons (q 96) Opds.nil) (by kernel_rfl) (es := ([(e_api_Addr_ p568.2.1)] : List D)) (by rfl) (by rfl) (by kernel_rfl) (by simp) (L rfl)) rfl (cg (apd hB underlying66 tyE99 1098 e_api_Addr_ p568.2.2 ([p568.2.1] : List api_Addr_) hc643 (L rfl) (q 95) (q 97)) rfl (c (OpJ.assign (L rfl) (q 98)) rfl cn))))) ?_
      exact hjj641 _ h _ _ (mp [(3007, 1098)] _ _ hB)
     ·replace h := ite_f hg642 h
      apply AWp.skip
      exact hjj641 _ h _ _ (mp [] _ _ hB)
  ·replace h := ite_f hg431 h
   apply AWp.exit
   apply seqQ_e
   obtain rfl := Option.some.inj h
   exact ⟨(fun hc => by cases hc), rfl, (mp [] _ _ hB)⟩
 ·obtain ⟨rfl, hmat⟩ := hR
  apply blkQ_hit
  apply seqQ_n
  refine AWp.ghost hmat ?_
  refine sr (c (mv hN (q 7)) rfl (c (OpJ.assign (L rfl) (q 100)) rfl cn)) ?_
  apply AWp.ret
  obtain rfl := Option.some.inj h
  exact ⟨.inl rfl, _, _, (Mat.trans (Mat.freezeP (n := 3007) (e := 99) (sz := 6) (es := p430.map e_api_Addr_) (Ts := [(6, (qe_api_Addr__6 p430))]) (Bs := []) (by rfl) (TwT.cons (x := (.sref 3007 6 0 p430.length)) (by rfl) (FrzL.all (by first | rfl | (simp; done) | (simp; omega) | omega)) TwT.nil) TwB.nil) (mp [] [(6, (qe_api_Addr__6 p430))] [] hB)), [(qe_api_Addr__6 p430)], (Res.tmp (by rfl) (by rfl) Res.nil), rfl, by rfl, by rfl, by rfl⟩
noncomputable def resource_numbers_2 (a0 : Int) : Option (Int × Bool) :=
 some ((w64 (a0 - (1 : Int))), (decide ((0 : Int) < a0)))
theorem resource_numbers_2_ac (a0 : Int) (r : Int × Bool) (h : resource_numbers_2 a0 = some r) : AC Tryz.prog 135 [(.d (.int .i64 a0))] [] (.tup [(.d (.int .i64 r.1)), (.d (.bool r.2))]) [] := by
 refine AC.of_code2 Tryz.func135 rfl rfl (Nat.le_of_ble_eq_true (by rfl)) fun B hB hN => ?_
 delta resource_numbers_2 at h
 refine sr (c (OpJ.assign (ltN hN rfl) (Opd.int .i64 (0))) rfl (c (OpJ.assign (ltN hN rfl) (Opd.bool false)) rfl cn)) ?_
 refine sr (c (mv hN (q 0)) rfl (c (sub6 (ltN hN rfl) (q 4) (Opd.int .i64 (1))) rfl (c (mv hN (q 0)) rfl (c (OpJ.gtr (ltN hN rfl) (q 6) (Opd.int .i64 (0))) rfl (c (OpJ.assign (ltN hN rfl) (q 5)) rfl (c (OpJ.assign (ltN hN rfl) (q 7)) rfl cn)))))) ?_
 apply AWp.ret
 obtain rfl := Option.some.inj h
 exact ⟨.inl rfl, _, _, (kp [(2, _), (3, _)] [] hB rfl rfl (by rfl)), [(i6 (w64 (a0 - (1 : Int)))), (bo (decide ((0 : Int) < a0)))], (Res.tmp (by rfl) (by rfl) (Res.tmp (by rfl) (by rfl) Res.nil)), rfl, by rfl, by rfl, by rfl⟩
noncomputable def resource_order_minus_2_L1 (a1 : (List resource_part_int_)) (s433 : Int × resource_part_int_ × (List resource_part_int_)) : Option (((Bool × resource_part_int_ × (List resource_part_int_))) ⊕ (Int × resource_part_int_ × (List resource_part_int_))) :=
 (if (decide (s433.1 < (a1.length : Int))) = true then
 jn (fun m602 : resource_part_int_ × (List resource_part_int_) =>
 some (.inr ((w64 (s433.1 + (1 : Int))), m602.1, m602.2))) (fun j603 =>
 (idx a1 s433.1).bind fun x604 =>
 jn (fun m609 : Bool =>
 (if m609 = true then
 j603 (s433.2.1, s433.2.2)
 else
 (resource_numbers_2 x604.ffrom).bind fun r612 =>
 jn (fun m615 : Bool =>
 jn (fun m619 : (List resource_part_int_) =>
 (resource_numbers_1 x604.fto).bind fun r621 =>
 jn (fun m624 : Bool =>
 (if m624 = true then
 some (.inl (false, s433.2.1, m619))
 else
 j603 ((resource_part_int_.mk r621.1 s433.2.1.fto), m619))) (fun j625 =>
 (if (!r621.2) = true then
 j625 true
 else
 (cmp_Compare r621.1 s433.2.1.fto).bind fun r628 =>
 j625 (decide ((0 : Int) < r628))))) (fun j620 =>
 (if m615 = true then
 chk (decide ((s433.2.2 ++ ([(resource_part_int_.mk s433.2.1.ffrom r612.1)] : List resource_part_int_)).length ≤ LIM)) <|
 j620 (s433.2.2 ++ ([(resource_part_int_.mk s433.2.1.ffrom r612.1)] : List resource_part_int_))
 else
 j620 s433.2.2))) (fun j616 =>
 (if r612.2 = true then
 (cmp_Compare s433.2.1.ffrom r612.1).bind fun r632 =>
 j616 (decide (r632 ≤ (0 : Int)))
 else
 j616 false)))) (fun j610 =>
 (cmp_Compare x604.fto s433.2.1.ffrom).bind fun r633 =>
 (if (decide (r633 < (0 : Int))) = true then
 j610 true
 else
 (cmp_Compare x604.ffrom s433.2.1.fto).bind fun r635 =>
 j610 (decide ((0 : Int) < r635)))))
 else
 some (.inl (true, s433.2.1, s433.2.2)))
noncomputable def resource_order_minus_2_L0 (a0 : (List resource_part_int_)) (a1 : (List resource_part_int_)) (s1 : Int × (List resource_part_int_)) : Option ((((List resource_part_int_))) ⊕ (Int × (List resource_part_int_))) :=
 (if (decide (s1.1 < (a0.length : Int))) = true then
 (idx a0 s1.1).bind fun x432 =>
 (loop (resource_order_minus_2_L1 a1) ((0 : Int), x432, s1.2)).bind fun p568 =>
 jn (fun m640 : (List resource_part_int_) =>
 some (.inr ((w64 (s1.1 + (1 : Int))), m640))) (fun j641 =>
 (if p568.1 = true then
 chk (decide ((p568.2.2 ++ ([p568.2.1] : List resource_part_int_)).length ≤ LIM)) <|
 j641 (p568.2.2 ++ ([p568.2.1] : List resource_part_int_))
 else
 j641 p568.2.2))
 else
 some (.inl s1.2))
noncomputable def resource_order_minus_2 (a0 : (List resource_part_int_)) (a1 : (List resource_part_int_)) : Option ((List resource_part_int_)) :=
 (loop (resource_order_minus_2_L0 a0 a1) ((0 : Int), ([] : List resource_part_int_))).bind fun p430 =>
 some p430
theorem resource_order_minus_2_ac (a0 : (List resource_part_int_)) (a1 : (List resource_part_int_)) (r : (List resource_part_int_)) (h : resource_order_minus_2 a0 a1 = some r) : AC Tryz.prog 65 [(.st [(.func 71 []), (.func 134 []), (.func 135 [])]), (.d (.list 2 (a0.map e_resource_part_int_))), (.d (.list 2 (a1.map e_resource_part_int_)))] [] (.d (.list 2 (r.map e_resource_part_int_))) [] := by
 refine AC.of_code2 Tryz.func65 rfl rfl (Nat.le_of_ble_eq_true (by rfl)) fun B hB hN => ?_
 have L {d : Nat} (h : Nat.blt d Tryz.f65.ntmps = true) : d < B.N := ltN hN h
 delta resource_order_minus_2 at h
 refine sr (cg (OpJ.box hB (nm := 1003) (by decide) (by simp) rfl (L rfl) (q 0)) rfl (c (OpJ.assign (L rfl) Opd.nils) rfl cn)) ?_
 refine sr (c (OpJ.assign (L rfl) Opd.nils) rfl cn) ?_
 apply AWp.seq
 refine sr (c (mv hN (q 1)) rfl (c (OpJ.val (v' := (i6 (a0.length : Int))) (by simp) (OpJ.lenD underlying67 (L rfl) (q 17))) rfl (c (mv hN (Opd.int .i64 (0))) rfl cn))) ?_
 apply AWp.block
 obtain ⟨p430, hx645, h⟩ := bindS h
 refine lg (resource_order_minus_2_L0 a0 a1) (fun s1 : Int × (List resource_part_int_) => ([(2, (.d (.list 2 (a1.map e_resource_part_int_)))), (3, (pt 1003)), (7, (.sref 3007 2 0 s1.2.length)), (17, (.d (.list 2 (a0.map e_resource_part_int_)))), (18, (i6 (a0.length : Int))), (19, (i6 s1.1))] : EL)) (fun s1 : Int × (List resource_part_int_) => ([(1003, some (.box 77 (.st [(.func 71 []), (.func 134 []), (.func 135 [])]))), (3007, some (.row 101 2 (s1.2.map e_resource_part_int_)))] : OL)) (fun (p430 : ((List resource_part_int_))) e E' O' => e = .exit 0 ∧ Mat B E' O' ([(7, (.sref 3007 2 0 p430.length))] : EL) ([(3007, some (.row 101 2 (p430.map e_resource_part_int_)))] : OL)) hx645 (Mat.trans (Mat.beginP (n := 3007) (e := 101) (sz := 2) (Ts := [(7, (.sref 3007 2 0 0))]) (Bs := []) hB (by decide) (by rfl) (by decide) (TwT.cons (x := .nils) (by rfl) (Tw.leaf ⟨rfl, rfl⟩) TwT.nil) TwB.nil) (mp [] _ _ hB)) (fun s1 y h => ?_) (fun e E' O' hR => ?_)
 ·unfold resource_order_minus_2_L0 at h
  refine sr (c (OpJ.lss (L rfl) (q 19) (q 18)) rfl cn) ?_
  apply AWp.seq
  refine AWp.cond rfl (fun hg431 => ?_) (fun hg431 => ?_)
  ·replace h := ite_t hg431 h
   apply AWp.skip
   apply seqQ_n
   apply AWp.seq
   apply AWp.block
   obtain ⟨x432, hx432, h⟩ := bindS h
   refine sr (c (OpJ.indexD underlying67 tyS101 (idx_some hx432).1 (get_map e_resource_part_int_ (idx_some hx432).2) (L rfl) (q 17) (q 19)) rfl (c (OpJ.loadD tyS101 (by rfl) (by rfl) (L rfl) (q 21)) rfl (cg (OpJ.alloc hB tyZ101 (nm := 1009) (by decide) (L rfl)) rfl (cg (sB tyS101 (q 9) (q 22)) rfl cn)))) ?_
   refine sr (c (OpJ.assign (L rfl) (Opd.bool true)) rfl cn) ?_
   apply AWp.seq
   refine sr (c (mv hN (q 2)) rfl (c (OpJ.val (v' := (i6 (a1.length : Int))) (by simp) (OpJ.lenD underlying67 (L rfl) (q 23))) rfl (c (mv hN (Opd.int .i64 (0))) rfl cn))) ?_
   apply AWp.block
   obtain ⟨p568, hx637, h⟩ := bindS h
   refine lg (resource_order_minus_2_L1 a1) (fun s433 : Int × resource_part_int_ × (List resource_part_int_) => ([(2, (.d (.list 2 (a1.map e_resource_part_int_)))), (3, (pt 1003)), (7, (.sref 3007 2 0 s433.2.2.length)), (9, (pt 1009)), (10, (bo true)), (17, (.d (.list 2 (a0.map e_resource_part_int_)))), (18, (i6 (a0.length : Int))), (19, (i6 s1.1)), (23, (.d (.list 2 (a1.map e_resource_part_int_)))), (24, (i6 (a1.length : Int))), (25, (i6 s433.1))] : EL)) (fun s433 : Int × resource_part_int_ × (List resource_part_int_) => ([(1003, some (.box 77 (.st [(.func 71 []), (.func 134 []), (.func 135 [])]))), (1009, bd 101 (e_resource_part_int_ s433.2.1)), (3007, some (.row 101 2 (s433.2.2.map e_resource_part_int_)))] : OL)) (fun (p568 : (Bool × resource_part_int_ × (List resource_part_int_))) e E' O' => e = .exit 2 ∧ Mat B E' O' ([(2, (.d (.list 2 (a1.map e_resource_part_int_)))), (3, (pt 1003)), (7, (.sref 3007 2 0 p568.2.2.length)), (9, (pt 1009)), (10, (bo p568.1)), (17, (.d (.list 2 (a0.map e_resource_part_int_)))), (18, (i6 (a0.length : Int))), (19, (i6 s1.1))] : EL) ([(1003, some (.box 77 (.st [(.func 71 []), (.func 134 []), (.func 135 [])]))), (1009, bd 101 (e_resource_part_int_ p568.2.1)), (3007, some (.row 101 2 (p568.2.2.map e_resource_part_int_)))] : OL)) hx637 (mp [] _ _ hB) (fun s433 y h => ?_) (fun e E' O' hR => ?_)
   ·unfold resource_order_minus_2_L1 at h
    refine sr (c (OpJ.lss (L rfl) (q 25) (q 24)) rfl cn) ?_
    apply AWp.seq
    refine AWp.cond rfl (fun hg569 => ?_) (fun hg569 => ?_)
    ·replace h := ite_t hg569 h
     apply AWp.skip
     apply seqQ_n
     apply AWp.seq
     refine AWp.cut h (fun m602 : resource_part_int_ × (List resource_part_int_) => ([(2, (.d (.list 2 (a1.map e_resource_part_int_)))), (3, (pt 1003)), (7, (.sref 3007 2 0 m602.2.length)), (9, (pt 1009)), (10, (bo true)), (17, (.d (.list 2 (a0.map e_resource_part_int_)))), (18, (i6 (a0.length : Int))), (19, (i6 s1.1)), (23, (.d (.list 2 (a1.map e_resource_part_int_)))), (24, (i6 (a1.length : Int))), (25, (i6 s433.1))] : EL)) (fun m602 : resource_part_int_ × (List resource_part_int_) => ([(1003, some (.box 77 (.st [(.func 71 []), (.func 134 []), (.func 135 [])]))), (1009, bd 101 (e_resource_part_int_ m602.1)), (3007, some (.row 101 2 (m602.2.map e_resource_part_int_)))] : OL)) (fun m602 h E' O' hmat => ?_) (fun j603 hjj603 h => ?_)
     ·apply seqQ_n
      refine AWp.ghost hmat ?_
      refine rg (c (add6 (L rfl) (q 25) (Opd.int .i64 (1))) rfl (c (mv hN (q 93)) rfl cn)) ?_
      obtain rfl := Option.some.inj h
      exact ⟨rfl, (mp [] _ _ hB)⟩
     ·apply AWp.block
      obtain ⟨x604, hx604, h⟩ := bindS h
      refine sr (c (OpJ.indexD underlying67 tyS101 (idx_some hx604).1 (get_map e_resource_part_int_ (idx_some hx604).2) (L rfl) (q 23) (q 25)) rfl (c (OpJ.loadD tyS101 (by rfl) (by rfl) (L rfl) (q 27)) rfl (cg (OpJ.alloc hB tyZ101 (nm := 1012) (by decide) (L rfl)) rfl (cg (sB tyS101 (q 12) (q 28)) rfl cn)))) ?_
      apply AWp.seq
      apply AWp.seq
      refine AWp.cut h (fun m609 : Bool => ([(2, (.d (.list 2 (a1.map e_resource_part_int_)))), (3, (pt 1003)), (7, (.sref 3007 2 0 s433.2.2.length)), (9, (pt 1009)), (10, (bo true)), (12, (pt 1012)), (17, (.d (.list 2 (a0.map e_resource_part_int_)))), (18, (i6 (a0.length : Int))), (19, (i6 s1.1)), (23, (.d (.list 2 (a1.map e_resource_part_int_)))), (24, (i6 (a1.length : Int))), (25, (i6 s433.1)), (46, (bo m609))] : EL)) (fun m609 : Bool => ([(1003, some (.box 77 (.st [(.func 71 []), (.func 134 []), (.func 135 [])]))), (1009, bd 101 (e_resource_part_int_ s433.2.1)), (1012, bd 101 (e_resource_part_int_ x604)), (3007, some (.row 101 2 (s433.2.2.map e_resource_part_int_)))] : OL)) (fun m609 h E' O' hmat => ?_) (fun j610 hjj610 h => ?_)
      ·apply seqQ_n
       refine AWp.ghost hmat ?_
       refine AWp.cond rfl (fun hg611 => ?_) (fun hg611 => ?_)
       ·replace h := ite_t hg611 h
        apply AWp.exit
        apply seqQ_e
        apply blkQ_hit
        exact hjj603 _ h _ _ (mp [] _ _ hB)
       ·replace h := ite_f hg611 h
        apply AWp.skip
        apply seqQ_n
        apply AWp.seq
        obtain ⟨r612, hr612, h⟩ := bindS h
        refine sr (c (fo 1003 2 [2] hN underlying77 2 tyS75 (q 3)) rfl (c (lb hN 77 _ (.func 135 []) tyS75 (At.st1 (f := (.func 135 [])) (by rfl) (by rfl) (At.here _) (by first | rfl | omega)) (q 48)) rfl (c (fo 1012 0 [0] hN underlying101 0 tyS3 (q 12)) rfl (c (la hN 101 tyS3 (q 50)) rfl (cg (OpJ.callVal (args := [(i6 x604.ffrom)]) (caps := []) hB fnOk135 [] (resource_numbers_2_ac x604.ffrom r612 hr612) (by kernel_rfl) (L rfl) (by kernel_rfl) (by kernel_rfl) (OpdL.cons (q 51) OpdL.nil)) rfl (c (mv hN (q 52)) rfl (c (OpJ.extract (by rfl) rfl (L rfl) (q 47)) rfl (c (OpJ.extract (by rfl) rfl (L rfl) (q 47)) rfl (c (OpJ.assign (L rfl) (q 53)) rfl (c (OpJ.assign (L rfl) (q 54)) rfl cn)))))))))) ?_
        apply AWp.seq
        refine AWp.cut h (fun m615 : Bool => ([(2, (.d (.list 2 (a1.map e_resource_part_int_)))), (3, (pt 1003)), (7, (.sref 3007 2 0 s433.2.2.length)), (9, (pt 1009)), (10, (bo true)), (12, (pt 1012)), (13, (i6 r612.1)), (17, (.d (.list 2 (a0.map e_resource_part_int_)))), (18, (i6 (a0.length : Int))), (19, (i6 s1.1)), (23, (.d (.list 2 (a1.map e_resource_part_int_)))), (24, (i6 (a1.length : Int))), (25, (i6 s433.1)), (64, (bo m615))] : EL)) (fun m615 : Bool => ([(1003, some (.box 77 (.st [(.func 71 []), (.func 134 []), (.func 135 [])]))), (1009, bd 101 (e_resource_part_int_ s433.2.1)), (1012, bd 101 (e_resource_part_int_ x604)), (3007, some (.row 101 2 (s433.2.2.map e_resource_part_int_)))] : OL)) (fun m615 h E' O' hmat => ?_) (fun j616 hjj616 h => ?_)
        ·apply seqQ_n
         refine AWp.ghost hmat ?_
         refine AWp.cut h (fun m619 : (List resource_part_int_) => ([(2, (.d (.list 2 (a1.map e_resource_part_int_)))), (3, (pt 1003)), (7, (.sref 3007 2 0 m619.length)), (9, (pt 1009)), (10, (bo true)), (12, (pt 1012)), (17, (.d (.list 2 (a0.map e_resource_part_int_)))), (18, (i6 (a0.length : Int))), (19, (i6 s1.1)), (23, (.d (.list 2 (a1.map e_resource_part_int_)))), (24, (i6 (a1.length : Int))), (25, (i6 s433.1))] : EL)) (fun m619 : (List resource_part_int_) => ([(1003, some (.box 77 (.st [(.func 71 []), (.func 134 []), (.func 135 [])]))), (1009, bd 101 (e_resource_part_int_ s433.2.1)), (1012, bd 101 (e_resource_part_int_ x604)), (3007, some (.row 101 2 (m619.map e_resource_part_int_)))] : OL)) (fun m619 h E' O' hmat => ?_) (fun j620 hjj620 h => ?_)
         ·apply seqQ_n
          refine AWp.ghost hmat ?_
          obtain ⟨r621, hr621, h⟩ := bindS h
          refine sr (c (fo 1003 1 [1] hN underlying77 1 tyS75 (q 3)) rfl (c (lb hN 77 _ (.func 134 []) tyS75 (At.st1 (f := (.func 134 [])) (by rfl) (by rfl) (At.here _) (by first | rfl | omega)) (q 73)) rfl (c (fo 1012 1 [1] hN underlying101 1 tyS3 (q 12)) rfl (c (la hN 101 tyS3 (q 75)) rfl (cg (OpJ.callVal (args := [(i6 x604.fto)]) (caps := []) hB fnOk134 [] (resource_numbers_1_ac x604.fto r621 hr621) (by kernel_rfl) (L rfl) (by kernel_rfl) (by kernel_rfl) (OpdL.cons (q 76) OpdL.nil)) rfl (c (mv hN (q 77)) rfl (c (OpJ.extract (by rfl) rfl (L rfl) (q 72)) rfl (c (OpJ.extract (by rfl) rfl (L rfl) (q 72)) rfl (c (OpJ.assign (L rfl) (q 78)) rfl (c (OpJ.assign (L rfl) (q 79)) rfl cn)))))))))) ?_
          apply AWp.seq
          apply AWp.seq
          refine AWp.cut h (fun m624 : Bool => ([(2, (.d (.list 2 (a1.map e_resource_part_int_)))), (3, (pt 1003)), (7, (.sref 3007 2 0 m619.length)), (9, (pt 1009)), (10, (bo true)), (15, (i6 r621.1)), (17, (.d (.list 2 (a0.map e_resource_part_int_)))), (18, (i6 (a0.length : Int))), (19, (i6 s1.1)), (23, (.d (.list 2 (a1.map e_resource_part_int_)))), (24, (i6 (a1.length : Int))), (25, (i6 s433.1)), (90, (bo m624))] : EL)) (fun m624 : Bool => ([(1003, some (.box 77 (.st [(.func 71 []), (.func 134 []), (.func 135 [])]))), (1009, bd 101 (e_resource_part_int_ s433.2.1)), (3007, some (.row 101 2 (m619.map e_resource_part_int_)))] : OL)) (fun m624 h E' O' hmat => ?_) (fun j625 hjj625 h => ?_)
          ·apply seqQ_n
           refine AWp.ghost hmat ?_
           refine AWp.cond rfl (fun hg626 => ?_) (fun hg626 => ?_)
           ·replace h := ite_t hg626 h
            refine sr (c (OpJ.assign (L rfl) (Opd.bool false)) rfl cn) ?_
            refine gh [(2, _), (3, _), (7, _), (9, _), (10, _), (17, _), (18, _), (19, _)] [(1003, some _), (1009, some _), (3007, some _)] hB rfl rfl (by rfl) ?_
            apply AWp.exit
            apply seqQ_e
            refine blkQ_miss (by rfl) ?_
            apply seqQ_e
            obtain rfl := Option.some.inj h
            exact ⟨(fun hc => by cases hc), rfl, (mp [] _ _ hB)⟩
           ·replace h := ite_f hg626 h
            apply AWp.skip
            apply seqQ_n
            refine rg (c (mv hN (q 15)) rfl (c (fo 1009 0 [0] hN underlying101 0 tyS3 (q 9)) rfl (cg (OpJ.storeB tyS3 (SetAt.dst1 (by rfl) (by rfl) (SetAt.here _ _) (by rfl) (by rfl) (by first | rfl | omega)) (by rfl) (by rfl) (by simp) rfl (q 92) (q 91)) rfl cn))) ?_
            apply blkQ_n
            exact hjj603 _ h _ _ (mp [] _ _ hB)
          ·rcases Bool.eq_false_or_eq_true (!r621.2) with hg627 | hg627
           ·replace h := ite_t hg627 h
            refine rg (c (mv hN (q 16)) rfl (c (OpJ.not (L rfl) (q 80)) rfl (c (OpJ.val (v' := .d (.bool true)) (by rw [hg627] <;> rfl) (mv hN (q 81))) rfl (cg (sU 82 (L rfl)) rfl (cg (sU 82 (L rfl)) rfl (cg (sU 82 (L rfl)) rfl (cg (sU 82 (L rfl)) rfl (cg (sU 82 (L rfl)) rfl (cg (sU 82 (L rfl)) rfl (cg (sU 82 (L rfl)) rfl (c (OpJ.pickT (L rfl) (q 82) (Opd.bool true)) rfl cn))))))))))) ?_
            exact hjj625 _ h _ _ (mp [] _ _ hB)
           ·replace h := ite_f hg627 h
            obtain ⟨r628, hr628, h⟩ := bindS h
            refine rg (c (mv hN (q 16)) rfl (c (OpJ.not (L rfl) (q 80)) rfl (c (OpJ.val (v' := .d (.bool false)) (by rw [hg627] <;> rfl) (mv hN (q 81))) rfl (c (gd 82 (fo 1003 0 [0] hN underlying77 0 tyS50 (q 3))) rfl (c (gd 82 (lb hN 77 _ (.func 71 []) tyS50 (At.st1 (f := (.func 71 [])) (by rfl) (by rfl) (At.here _) (by first | rfl | omega)) (q 83))) rfl (c (gd 82 (mv hN (q 15))) rfl (c (gd 82 (fo 1009 1 [1] hN underlying101 1 tyS3 (q 9))) rfl (c (gd 82 (la hN 101 tyS3 (q 86))) rfl (cg (gd 82 (OpJ.callVal (args := [(i6 r621.1), (i6 s433.2.1.fto)]) (caps := []) hB fnOk71 [] (cmp_Compare_ac r621.1 s433.2.1.fto r628 hr628) (by kernel_rfl) (L rfl) (by kernel_rfl) (by kernel_rfl) (OpdL.cons (q 85) (OpdL.cons (q 87) OpdL.nil)))) rfl (c (gd 82 (OpJ.gtr (L rfl) (q 88) (Opd.int .i64 (0)))) rfl (c (OpJ.pickF (L rfl) (q 82) (q 89)) rfl cn))))))))))) ?_
            exact hjj625 _ h _ _ (mp [] _ _ hB)
         ·refine AWp.cond rfl (fun hg629 => ?_) (fun hg629 => ?_)
          ·replace h := ite_t hg629 h
           obtain ⟨hc630, h⟩ := chk_some h
           refine rg (c (mv hN (q 7)) rfl (c (fo 1009 0 [0] hN underlying101 0 tyS3 (q 9)) rfl (c (la hN 101 tyS3 (q 66)) rfl (c (mv hN (q 13)) rfl (c (OpJ.coe (v := (.st [(i6 s433.2.1.ffrom), (i6 r612.1)])) (y := (.st [(.int .i64 s433.2.1.ffrom), (.int .i64 r612.1)])) (Co.st (CoL.cons (Co.d _) (CoL.cons (Co.d _) CoL.nil))) rfl (OpJ.build (places := [(0, 1), (1, 1)]) ⟨underlying101, fun w => by kernel_rfl⟩ tyZS101 (Opds.cons (q 67) (Opds.cons (q 68) Opds.nil)) (by kernel_rfl) (r := (.st [(i6 s433.2.1.ffrom), (i6 r612.1)])) (by rfl) (L rfl))) rfl (c (OpJ.buildSlice underlying67 tyS101 tyZD101 (by rfl) (by decide) (by decide) (Opds.cons (q 69) Opds.nil) (by kernel_rfl) (es := ([(.st [(.int .i64 s433.2.1.ffrom), (.int .i64 r612.1)])] : List D)) (by rfl) (by rfl) (by kernel_rfl) (by simp) (L rfl)) rfl (cg (apd hB underlying67 tyE101 1071 e_resource_part_int_ s433.2.2 ([(resource_part_int_.mk s433.2.1.ffrom r612.1)] : List resource_part_int_) hc630 (L rfl) (q 65) (q 70)) rfl (c (OpJ.assign (L rfl) (q 71)) rfl cn)))))))) ?_
           exact hjj620 _ h _ _ (mp [(3007, 1071)] _ _ hB)
          ·replace h := ite_f hg629 h
           apply AWp.skip
           exact hjj620 _ h _ _ (mp [] _ _ hB)
        ·rcases Bool.eq_false_or_eq_true r612.2 with hg631 | hg631
         ·replace h := ite_t hg631 h
          obtain ⟨r632, hr632, h⟩ := bindS h
          refine rg (c (mv hN (q 14)) rfl (c (OpJ.val (v' := .d (.bool true)) (by rw [hg631] <;> rfl) (mv hN (q 55))) rfl (c (gd 56 (fo 1003 0 [0] hN underlying77 0 tyS50 (q 3))) rfl (c (gd 56 (lb hN 77 _ (.func 71 []) tyS50 (At.st1 (f := (.func 71 [])) (by rfl) (by rfl) (At.here _) (by first | rfl | omega)) (q 57))) rfl (c (gd 56 (fo 1009 0 [0] hN underlying101 0 tyS3 (q 9))) rfl (c (gd 56 (la hN 101 tyS3 (q 59))) rfl (c (gd 56 (mv hN (q 13))) rfl (cg (gd 56 (OpJ.callVal (args := [(i6 s433.2.1.ffrom), (i6 r612.1)]) (caps := []) hB fnOk71 [] (cmp_Compare_ac s433.2.1.ffrom r612.1 r632 hr632) (by kernel_rfl) (L rfl) (by kernel_rfl) (by kernel_rfl) (OpdL.cons (q 60) (OpdL.cons (q 61) OpdL.nil)))) rfl (c (gd 56 (OpJ.leq (L rfl) (q 62) (Opd.int .i64 (0)))) rfl (c (OpJ.pickT (L rfl) (q 56) (q 63)) rfl cn)))))))))) ?_
          exact hjj616 _ h _ _ (mp [] _ _ hB)
         ·replace h := ite_f hg631 h
          refine rg (c (mv hN (q 14)) rfl (c (OpJ.val (v' := .d (.bool false)) (by rw [hg631] <;> rfl) (mv hN (q 55))) rfl (cg (sU 56 (L rfl)) rfl (cg (sU 56 (L rfl)) rfl (cg (sU 56 (L rfl)) rfl (cg (sU 56 (L rfl)) rfl (cg (sU 56 (L rfl)) rfl (cg (sU 56 (L rfl)) rfl (cg (sU 56 (L rfl)) rfl (c (OpJ.pickF (L rfl) (q 56) (Opd.bool false)) rfl cn)))))))))) ?_
          exact hjj616 _ h _ _ (mp [] _ _ hB)
      ·obtain ⟨r633, hr633, h⟩ := bindS h
       rcases Bool.eq_false_or_eq_true (decide (r633 < (0 : Int))) with hg634 | hg634
       ·replace h := ite_t hg634 h
        refine rg (c (fo 1003 0 [0] hN underlying77 0 tyS50 (q 3)) rfl (c (lb hN 77 _ (.func 71 []) tyS50 (At.st1 (f := (.func 71 [])) (by rfl) (by rfl) (At.here _) (by first | rfl | omega)) (q 29)) rfl (c (fo 1012 1 [1] hN underlying101 1 tyS3 (q 12)) rfl (c (la hN 101 tyS3 (q 31)) rfl (c (fo 1009 0 [0] hN underlying101 0 tyS3 (q 9)) rfl (c (la hN 101 tyS3 (q 33)) rfl (cg (OpJ.callVal (args := [(i6 x604.fto), (i6 s433.2.1.ffrom)]) (caps := []) hB fnOk71 [] (cmp_Compare_ac x604.fto s433.2.1.ffrom r633 hr633) (by kernel_rfl) (L rfl) (by kernel_rfl) (by kernel_rfl) (OpdL.cons (q 32) (OpdL.cons (q 34) OpdL.nil))) rfl (c (OpJ.lss (L rfl) (q 35) (Opd.int .i64 (0))) rfl (c (OpJ.val (v' := .d (.bool true)) (by rw [hg634] <;> rfl) (mv hN (q 36))) rfl (cg (sU 37 (L rfl)) rfl (cg (sU 37 (L rfl)) rfl (cg (sU 37 (L rfl)) rfl (cg (sU 37 (L rfl)) rfl (cg (sU 37 (L rfl)) rfl (cg (sU 37 (L rfl)) rfl (cg (sU 37 (L rfl)) rfl (cg (sU 37 (L rfl)) rfl (c (OpJ.pickT (L rfl) (q 37) (Opd.bool true)) rfl cn)))))))))))))))))) ?_
        exact hjj610 _ h _ _ (mp [] _ _ hB)
       ·replace h := ite_f hg634 h
        obtain ⟨r635, hr635, h⟩ := bindS h
        refine rg (c (fo 1003 0 [0] hN underlying77 0 tyS50 (q 3)) rfl (c (lb hN 77 _ (.func 71 []) tyS50 (At.st1 (f := (.func 71 [])) (by rfl) (by rfl) (At.here _) (by first | rfl | omega)) (q 29)) rfl (c (fo 1012 1 [1] hN underlying101 1 tyS3 (q 12)) rfl (c (la hN 101 tyS3 (q 31)) rfl (c (fo 1009 0 [0] hN underlying101 0 tyS3 (q 9)) rfl (c (la hN 101 tyS3 (q 33)) rfl (cg (OpJ.callVal (args := [(i6 x604.fto), (i6 s433.2.1.ffrom)]) (caps := []) hB fnOk71 [] (cmp_Compare_ac x604.fto s433.2.1.ffrom r633 hr633) (by kernel_rfl) (L rfl) (by kernel_rfl) (by kernel_rfl) (OpdL.cons (q 32) (OpdL.cons (q 34) OpdL.nil))) rfl (c (OpJ.lss (L rfl) (q 35) (Opd.int .i64 (0))) rfl (c (OpJ.val (v' := .d (.bool false)) (by rw [hg634] <;> rfl) (mv hN (q 36))) rfl (c (gd 37 (fo 1003 0 [0] hN underlying77 0 tyS50 (q 3))) rfl (c (gd 37 (lb hN 77 _ (.func 71 []) tyS50 (At.st1 (f := (.func 71 [])) (by rfl) (by rfl) (At.here _) (by first | rfl | omega)) (q 38))) rfl (c (gd 37 (fo 1012 0 [0] hN underlying101 0 tyS3 (q 12))) rfl (c (gd 37 (la hN 101 tyS3 (q 40))) rfl (c (gd 37 (fo 1009 1 [1] hN underlying101 1 tyS3 (q 9))) rfl (c (gd 37 (la hN 101 tyS3 (q 42))) rfl (cg (gd 37 (OpJ.callVal (args := [(i6 x604.ffrom), (i6 s433.2.1.fto)]) (caps := []) hB fnOk71 [] (cmp_Compare_ac x604.ffrom s433.2.1.fto r635 hr635) (by kernel_rfl) (L rfl) (by kernel_rfl) (by kernel_rfl) (OpdL.cons (q 41) (OpdL.cons (q 43) OpdL.nil)))) rfl (c (gd 37 (OpJ.gtr (L rfl) (q 44) (Opd.int .i64 (0)))) rfl (c (OpJ.pickF (L rfl) (q 37) (q 45)) rfl cn)))))))))))))))))) ?_
        exact hjj610 _ h _ _ (mp [] _ _ hB)
    ·replace h := ite_f hg569 h
     apply AWp.exit
     apply seqQ_e
     obtain rfl := Option.some.inj h
     exact ⟨(fun hc => by cases hc), rfl, (mp [] _ _ hB)⟩
   ·obtain ⟨rfl, hmat⟩ := hR
    apply blkQ_hit
    apply seqQ_n
    refine AWp.ghost hmat ?_
    refine sr (c (mv hN (q 10)) rfl cn) ?_
    refine gh [(2, _), (3, _), (7, _), (9, _), (17, _), (18, _), (19, _), (94, _)] [(1003, some _), (1009, some _), (3007, some _)] hB rfl rfl (by rfl) ?_
    refine AWp.cut h (fun m640 : (List resource_part_int_) => ([(2, (.d (.list 2 (a1.map e_resource_part_int_)))), (3, (pt 1003)), (7, (.sref 3007 2 0 m640.length)), (17, (.d (.list 2 (a0.map e_resource_part_int_)))), (18, (i6 (a0.length : Int))), (19, (i6 s1.1))] : EL)) (fun m640 : (List resource_part_int_) => ([(1003, some (.box 77 (.st [(.func 71 []), (.func 134 []), (.func 135 [])]))), (3007, some (.row 101 2 (m640.map e_resource_part_int_)))] : OL)) (fun m640 h E' O' hmat => ?_) (fun j641 hjj641 h => ?_)
    ·apply blkQ_n
     apply seqQ_n
     refine AWp.ghost hmat ?_
     refine rg (c (add6 (L rfl) (q 19) (Opd.int .i64 (1))) rfl (c (mv hN (q 99)) rfl cn)) ?_
     obtain rfl := Option.some.inj h
     exact ⟨rfl, (mp [] _ _ hB)⟩
    ·refine AWp.cond rfl (fun hg642 => ?_) (fun hg642 => ?_)
     ·replace h := ite_t hg642 h
      obtain ⟨hc643, h⟩ := chk_some h
      refine rg (c (mv hN (q 7)) rfl (c (lb hN 101 _ _ tyS101 (At.here _) (q 9)) rfl (c (OpJ.buildSlice underlying67 tyS101 tyZD101 (by rfl) (by decide) (by decide) (Opds.cons (q 96) Opds.nil) (by kernel_rfl) (es := ([(e_resource_part_int_ p568.2.1)] : List D)) (by rfl) (by rfl) (by kernel_rfl) (by simp) (L rfl)) rfl (cg (apd hB underlying67 tyE101 1098 e_resource_part_int_ p568.2.2 ([p568.2.1] : List resource_part_int_) hc643 (L rfl) (q 95) (q 97)) rfl (c (OpJ.assign (L rfl) (q 98)) rfl cn))))) ?_
      exact hjj641 _ h _ _ (mp [(3007, 1098)] _ _ hB)
     ·replace h := ite_f hg642 h
      apply AWp.skip
      exact hjj641 _ h _ _ (mp [] _ _ hB)
  ·replace h := ite_f hg431 h
   apply AWp.exit
   apply seqQ_e
   obtain rfl := Option.some.inj h
   exact ⟨(fun hc => by cases hc), rfl, (mp [] _ _ hB)⟩
 ·obtain ⟨rfl, hmat⟩ := hR
  apply blkQ_hit
  apply seqQ_n
  refine AWp.ghost hmat ?_
  refine sr (c (mv hN (q 7)) rfl (c (OpJ.assign (L rfl) (q 100)) rfl cn)) ?_
  apply AWp.ret
  obtain rfl := Option.some.inj h
  exact ⟨.inl rfl, _, _, (Mat.trans (Mat.freezeP (n := 3007) (e := 101) (sz := 2) (es := p430.map e_resource_part_int_) (Ts := [(6, (.d (.list 2 (p430.map e_resource_part_int_))))]) (Bs := []) (by rfl) (TwT.cons (x := (.sref 3007 2 0 p430.length)) (by rfl) (FrzL.all (by first | rfl | (simp; done) | (simp; omega) | omega)) TwT.nil) TwB.nil) (mp [] [(6, (.d (.list 2 (p430.map e_resource_part_int_))))] [] hB)), [(.d (.list 2 (p430.map e_resource_part_int_)))], (Res.tmp (by rfl) (by rfl) Res.nil), rfl, by rfl, by rfl, by rfl⟩
noncomputable def resource_set_minus (a0 : resource_set) (a1 : resource_set) : Option (resource_set) :=
 (resource_order_minus a0.faddrs a1.faddrs).bind fun r1 =>
 (resource_order_minus_2 a0.fasns a1.fasns).bind fun r2 =>
 some (resource_set.mk r1 r2)
theorem resource_set_minus_ac (a0 : resource_set) (a1 : resource_set) (r : resource_set) (h : resource_set_minus a0 a1 = some r) : AC Tryz.prog 37 [(.d (e_resource_set a0)), (.d (e_resource_set a1))] [(500, (.know (globF 0 [50, 52, 133]))), (501, (.know (globF 1 [71, 134, 135])))] (.d (e_resource_set r)) [(500, some (.know (globF 0 [50, 52, 133]))), (501, some (.know (globF 1 [71, 134, 135])))] := by
 refine AC.of_code2 Tryz.func37 rfl rfl (Nat.le_of_ble_eq_true (by rfl)) fun B hB hN => ?_
 delta resource_set_minus at h
 refine sr (cg (OpJ.box hB (nm := 1002) (by decide) (by simp) rfl (ltN hN rfl) (q 0)) rfl (cg (OpJ.box hB (nm := 1003) (by decide) (by simp) rfl (ltN hN rfl) (q 1)) rfl (cg (OpJ.alloc hB tyZ69 (nm := 1004) (by decide) (ltN hN rfl)) rfl cn))) ?_
 obtain ⟨r1, hr1, h⟩ := bindS h
 obtain ⟨r2, hr2, h⟩ := bindS h
 refine sd (cg (OpJ.loadG (nm := 500) [50, 52, 133] tyS73 rfl (ltN hN rfl)) rfl (c (fo 1002 0 [0] hN underlying69 0 tyS66 (q 2)) rfl (c (la hN 69 tyS66 (q 6)) rfl (c (fo 1003 0 [0] hN underlying69 0 tyS66 (q 3)) rfl (c (la hN 69 tyS66 (q 8)) rfl (cg (OpJ.callFn hB fnOk64 (resource_order_minus_ac a0.faddrs a1.faddrs r1 hr1) [] (by kernel_rfl) (ltN hN rfl) (by kernel_rfl) (OpdL.cons (q 5) (OpdL.cons (q 7) (OpdL.cons (q 9) OpdL.nil)))) rfl (cg (OpJ.loadG (nm := 501) [71, 134, 135] tyS77 rfl (ltN hN rfl)) rfl (c (fo 1002 1 [1] hN underlying69 1 tyS67 (q 2)) rfl (c (la hN 69 tyS67 (q 12)) rfl (c (fo 1003 1 [1] hN underlying69 1 tyS67 (q 3)) rfl (c (la hN 69 tyS67 (q 14)) rfl (cg (OpJ.callFn hB fnOk65 (resource_order_minus_2_ac a0.fasns a1.fasns r2 hr2) [] (by kernel_rfl) (ltN hN rfl) (by kernel_rfl) (OpdL.cons (q 11) (OpdL.cons (q 13) (OpdL.cons (q 15) OpdL.nil)))) rfl (c (OpJ.coe (v := (.st [(qe_api_Addr__6 r1), (.d (.list 2 (r2.map e_resource_part_int_)))])) (y := (.st [(.list 6 (r1.map e_api_Addr_)), (.list 2 (r2.map e_resource_part_int_))])) (Co.st (CoL.cons (Co.d _) (CoL.cons (Co.d _) CoL.nil))) rfl (OpJ.build (places := [(0, 1), (1, 1)]) ⟨underlying69, fun w => by kernel_rfl⟩ tyZS69 (Opds.cons (q 10) (Opds.cons (q 16) Opds.nil)) (by kernel_rfl) (r := (.st [(qe_api_Addr__6 r1), (.d (.list 2 (r2.map e_resource_part_int_)))])) (by rfl) (ltN hN rfl))) rfl (cg (sB tyS69 (q 4) (q 17)) rfl cn)))))))))))))) (by kernel_rfl) (by kernel_rfl) ?_
 apply AWp.ret
 obtain rfl := Option.some.inj h
 exact ⟨.inl rfl, _, _, (kp [(4, _)] [(500, some _), (501, some _), (1004, some _)] hB rfl rfl (by rfl)), [(.d (.st [(.list 6 (r1.map e_api_Addr_)), (.list 2 (r2.map e_resource_part_int_))]))], (Res.cell (c := (.d (.st [(.list 6 (r1.map e_api_Addr_)), (.list 2 (r2.map e_resource_part_int_))]))) (by rfl) (by rfl) tyS69 (by rfl) (by rfl) (by rfl) Res.nil), rfl, by rfl, by rfl, by rfl⟩
noncomputable def resource_Intersect (a0 : api_Resources) (a1 : api_Resources) : Option (api_Resources × Int) :=
 jn (fun m5 : Bool =>
 (if m5 = true then
 some ((api_Resources.mk ([] : List api_Range) ([] : List api_Span)), (1 : Int))
 else
 (resource_of a0).bind fun r8 =>
 (resource_of a1).bind fun r9 =>
 (resource_set_minus r8 r9).bind fun r10 =>
 (resource_set_minus r8 r10).bind fun r11 =>
 (resource_set_resources r11).bind fun r12 =>
 some (r12.1, r12.2))) (fun j6 =>
 (resource_Valid a0).bind fun r13 =>
 (if (!r13) = true then
 j6 true
 else
 (resource_Valid a1).bind fun r15 =>
 j6 (!r15)))
theorem resource_Intersect_ac (a0 : api_Resources) (a1 : api_Resources) (r : api_Resources × Int) (h : resource_Intersect a0 a1 = some r) : AC Tryz.prog 12 [(.d (e_api_Resources a0)), (.d (e_api_Resources a1))] [(500, (.know (globF 0 [50, 52, 133]))), (501, (.know (globF 1 [71, 134, 135])))] (.tup [(.d (e_api_Resources r.1)), (.d (.int .i64 r.2))]) [(500, some (.know (globF 0 [50, 52, 133]))), (501, some (.know (globF 1 [71, 134, 135])))] := by
 refine AC.of_code2 Tryz.func12 rfl rfl (Nat.le_of_ble_eq_true (by rfl)) fun B hB hN => ?_
 have L {d : Nat} (h : Nat.blt d Tryz.f12.ntmps = true) : d < B.N := ltN hN h
 delta resource_Intersect at h
 refine sr (cg (OpJ.box hB (nm := 1002) (by decide) (by simp) rfl (L rfl) (q 0)) rfl (cg (OpJ.box hB (nm := 1003) (by decide) (by simp) rfl (L rfl) (q 1)) rfl (cg (OpJ.alloc hB tyZ25 (nm := 1004) (by decide) (L rfl)) rfl (c (OpJ.assign (L rfl) (Opd.int .i64 (0))) rfl cn)))) ?_
 apply AWp.seq
 apply AWp.seq
 refine AWp.cut h (fun m5 : Bool => ([(2, (pt 1002)), (3, (pt 1003)), (4, (pt 1004)), (14, (bo m5))] : EL)) (fun m5 : Bool => ([(500, some (.know (globF 0 [50, 52, 133]))), (501, some (.know (globF 1 [71, 134, 135]))), (1002, bd 25 (e_api_Resources a0)), (1003, bd 25 (e_api_Resources a1)), (1004, some (.box 25 (.st [.nils, .nils])))] : OL)) (fun m5 h E' O' hmat => ?_) (fun j6 hjj6 h => ?_)
 ·apply seqQ_n
  refine AWp.ghost hmat ?_
  refine AWp.cond rfl (fun hg7 => ?_) (fun hg7 => ?_)
  ·replace h := ite_t hg7 h
   refine sr (c (OpJ.build (places := [(0, 1), (1, 1)]) ⟨underlying25, fun w => by kernel_rfl⟩ tyZS25 Opds.nil (by kernel_rfl) (r := (.st [.nils, .nils])) (by rfl) (L rfl)) rfl (cg (sB tyS25 (q 4) (q 15)) rfl (c (OpJ.assign (L rfl) (Opd.int .i64 (1))) rfl cn))) ?_
   apply AWp.ret
   apply seqQ_r
   obtain rfl := Option.some.inj h
   exact ⟨.inl rfl, _, _, (Mat.trans (Mat.coeP (Ts := []) (Bs := [(1004, bd 25 (.st [(.list 6 (([] : List api_Range).map e_api_Range)), (.list 2 (([] : List api_Span).map e_api_Span))]))]) TwT.nil (TwB.cons (x := (.st [.nils, .nils])) (by rfl) (Tw.leaf ⟨_, (Co.st (CoL.cons (Co.nils 6) (CoL.cons (Co.nils 2) CoL.nil))), rfl⟩) TwB.nil)) (mp [] [(4, (pt 1004)), (5, (i6 1))] [(500, some (.know (globF 0 [50, 52, 133]))), (501, some (.know (globF 1 [71, 134, 135]))), (1004, bd 25 (.st [(.list 6 (([] : List api_Range).map e_api_Range)), (.list 2 (([] : List api_Span).map e_api_Span))]))] hB)), [(.d (.st [(.list 6 (([] : List api_Range).map e_api_Range)), (.list 2 (([] : List api_Span).map e_api_Span))])), (i6 1)], (Res.cell (c := (.d (.st [(.list 6 (([] : List api_Range).map e_api_Range)), (.list 2 (([] : List api_Span).map e_api_Span))]))) (by rfl) (by rfl) tyS25 (by rfl) (by rfl) (by rfl) (Res.tmp (by rfl) (by rfl) Res.nil)), rfl, by rfl, by rfl, by rfl⟩
  ·replace h := ite_f hg7 h
   apply AWp.skip
   apply seqQ_n
   obtain ⟨r8, hr8, h⟩ := bindS h
   refine sr (c (lb hN 25 _ _ tyS25 (At.here _) (q 2)) rfl (cg (cf hB fnOk29 (resource_of_ac a0 r8 hr8) (L rfl) (OpdL.cons (q 16) OpdL.nil)) rfl (cg (OpJ.alloc hB tyZ69 (nm := 1006) (by decide) (L rfl)) rfl (cg (sB tyS69 (q 6) (q 17)) rfl cn)))) ?_
   apply AWp.seq
   obtain ⟨r9, hr9, h⟩ := bindS h
   obtain ⟨r10, hr10, h⟩ := bindS h
   obtain ⟨r11, hr11, h⟩ := bindS h
   obtain ⟨r12, hr12, h⟩ := bindS h
   refine AWp.draws (by kernel_rfl) (oc (lb hN 69 (.d (e_resource_set r8)) (.d (e_resource_set r8)) tyS69 (At.here _) (ot 6 (pt 1006)))
    (oc (lb hN 69 (.d (e_resource_set r8)) (.d (e_resource_set r8)) tyS69 (At.here _) (ot 6 (pt 1006)))
    (oc (lb hN 25 (.d (e_api_Resources a1)) (.d (e_api_Resources a1)) tyS25 (At.here _) (ot 3 (pt 1003)))
    (oc (cf hB fnOk29 (resource_of_ac a1 r9 hr9) (L rfl) (OpdL.cons (ot 20 (.d (e_api_Resources a1))) OpdL.nil))
    (oc (OpJ.callFn hB fnOk37 (resource_set_minus_ac r8 r9 r10 hr10) [(500, 500), (501, 501)] (by kernel_rfl) (L rfl) (by kernel_rfl) (OpdL.cons (ot 19 (.d (e_resource_set r8))) (OpdL.cons (ot 21 (.d (e_resource_set r9))) OpdL.nil)))
    (oc (OpJ.callFn hB fnOk37 (resource_set_minus_ac r8 r10 r11 hr11) [(500, 500), (501, 501)] (by kernel_rfl) (L rfl) (by kernel_rfl) (OpdL.cons (ot 18 (.d (e_resource_set r8))) (OpdL.cons (ot 22 (.d (e_resource_set r10))) OpdL.nil)))
    (oc (cf hB fnOk32 (resource_set_resources_ac r11 r12 hr12) (L rfl) (OpdL.cons (ot 23 (.d (e_resource_set r11))) OpdL.nil))
    (oc (OpJ.extract (v := (.d (e_api_Resources r12.1))) (by rfl) rfl (L rfl) (ot 24 (.tup [(.d (e_api_Resources r12.1)), (i6 r12.2)])))
    (oc (OpJ.extract (v := (i6 r12.2)) (by rfl) rfl (L rfl) (ot 24 (.tup [(.d (e_api_Resources r12.1)), (i6 r12.2)])))
    (oc (OpJ.storeB (bt := 25) (c := (.st [.nils, .nils])) (v := (.d (e_api_Resources r12.1))) (c' := (.d (e_api_Resources r12.1))) tyS25 (SetAt.here _ _) (by rfl) (by rfl) (by simp) rfl (ot 4 (pt 1004)) (ot 25 (.d (e_api_Resources r12.1))))
    (oc (OpJ.assign (L rfl) (ot 26 (i6 r12.2)))
    (OpJs.nil)))))))))))) (by kernel_rfl) (by rfl) (by rfl) ?_
   apply seqQ_n
   refine AWp.ghost (mp [] [(4, (pt 1004)), (5, (i6 r12.2))] [(500, some (.know (globF 0 [50, 52, 133]))), (501, some (.know (globF 1 [71, 134, 135]))), (1004, bd 25 (e_api_Resources r12.1))] hB) ?_
   apply AWp.ret
   obtain rfl := Option.some.inj h
   exact ⟨.inl rfl, _, _, (kp [(4, _), (5, _)] [(500, some _), (501, some _), (1004, some _)] hB rfl rfl (by rfl)), [(.d (e_api_Resources r12.1)), (i6 r12.2)], (Res.cell (c := (.d (e_api_Resources r12.1))) (by rfl) (by rfl) tyS25 (by rfl) (by rfl) (by rfl) (Res.tmp (by rfl) (by rfl) Res.nil)), rfl, by rfl, by rfl, by rfl⟩
 ·obtain ⟨r13, hr13, h⟩ := bindS h
  rcases Bool.eq_false_or_eq_true (!r13) with hg14 | hg14
  ·replace h := ite_t hg14 h
   refine AWp.region (oc (lb hN 25 (.d (e_api_Resources a0)) (.d (e_api_Resources a0)) tyS25 (At.here _) (ot 2 (pt 1002)))
    (oc (OpJ.callFn hB fnOk19 (resource_Valid_ac a0 r13 hr13) [(500, 500), (501, 501)] (by kernel_rfl) (L rfl) (by kernel_rfl) (OpdL.cons (ot 7 (.d (e_api_Resources a0))) OpdL.nil))
    (oc (OpJ.not (L rfl) (ot 8 (bo r13)))
    (oc (OpJ.val (v' := .d (.bool true)) (by rw [hg14] <;> rfl) (mv hN (ot 9 (bo (!r13)))))
    (oc (sU 10 (L rfl))
    (oc (sU 10 (L rfl))
    (oc (sU 10 (L rfl))
    (oc (OpJ.pickT (L rfl) (ot 10 (bo true)) (Opd.bool true))
    (OpJs.nil))))))))) (by rfl) (by rfl) ?_
   exact hjj6 _ h _ _ (mp [] _ _ hB)
  ·replace h := ite_f hg14 h
   obtain ⟨r15, hr15, h⟩ := bindS h
   refine AWp.region (oc (lb hN 25 (.d (e_api_Resources a0)) (.d (e_api_Resources a0)) tyS25 (At.here _) (ot 2 (pt 1002)))
    (oc (OpJ.callFn hB fnOk19 (resource_Valid_ac a0 r13 hr13) [(500, 500), (501, 501)] (by kernel_rfl) (L rfl) (by kernel_rfl) (OpdL.cons (ot 7 (.d (e_api_Resources a0))) OpdL.nil))
    (oc (OpJ.not (L rfl) (ot 8 (bo r13)))
    (oc (OpJ.val (v' := .d (.bool false)) (by rw [hg14] <;> rfl) (mv hN (ot 9 (bo (!r13)))))
    (oc (gd 10 (lb hN 25 (.d (e_api_Resources a1)) (.d (e_api_Resources a1)) tyS25 (At.here _) (ot 3 (pt 1003))))
    (oc (gd 10 (OpJ.callFn hB fnOk19 (resource_Valid_ac a1 r15 hr15) [(500, 500), (501, 501)] (by kernel_rfl) (L rfl) (by kernel_rfl) (OpdL.cons (ot 11 (.d (e_api_Resources a1))) OpdL.nil)))
    (oc (gd 10 (OpJ.not (L rfl) (ot 12 (bo r15))))
    (oc (OpJ.pickF (L rfl) (ot 10 (bo false)) (ot 13 (bo (!r15))))
    (OpJs.nil))))))))) (by rfl) (by rfl) ?_
   exact hjj6 _ h _ _ (mp [] _ _ hB)
noncomputable def exchangepointref21_greater (a0 : api_Addr) (a1 : api_Addr) : Option (api_Addr) :=
 (exchangepointref01_Cmp a0 a1).bind fun r1 =>
 (if (decide (r1 < (0 : Int))) = true then
 some a1
 else
 some a0)
theorem exchangepointref21_greater_ac (a0 : api_Addr) (a1 : api_Addr) (r : api_Addr) (h : exchangepointref21_greater a0 a1 = some r) : AC Tryz.prog 38 [(.d (e_api_Addr a0)), (.d (e_api_Addr a1))] [] (.d (e_api_Addr r)) [] := by
 refine AC.of_code2 Tryz.func38 rfl rfl (Nat.le_of_ble_eq_true (by rfl)) fun B hB hN => ?_
 delta exchangepointref21_greater at h
 refine sr (cg (OpJ.box hB (nm := 1002) (by decide) (by simp) rfl (ltN hN rfl) (q 0)) rfl (cg (OpJ.box hB (nm := 1003) (by decide) (by simp) rfl (ltN hN rfl) (q 1)) rfl (cg (OpJ.alloc hB tyZ42 (nm := 1004) (by decide) (ltN hN rfl)) rfl cn))) ?_
 apply AWp.seq
 obtain ⟨r1, hr1, h⟩ := bindS h
 refine sr (c (lb hN 42 _ _ tyS42 (At.here _) (q 2)) rfl (c (lb hN 42 _ _ tyS42 (At.here _) (q 3)) rfl (cg (OpJ.callFn hB fnOk40 (exchangepointref01_Cmp_ac a0 a1 r1 hr1) [] (by kernel_rfl) (ltN hN rfl) (by kernel_rfl) (OpdL.cons (q 5) (OpdL.cons (q 6) OpdL.nil))) rfl (c (OpJ.lss (ltN hN rfl) (q 7) (Opd.int .i64 (0))) rfl cn)))) ?_
 refine AWp.cond rfl (fun hg2 => ?_) (fun hg2 => ?_)
 ·replace h := ite_t hg2 h
  refine sr (c (lb hN 42 _ _ tyS42 (At.here _) (q 3)) rfl (cg (sB tyS42 (q 4) (q 9)) rfl cn)) ?_
  apply AWp.ret
  apply seqQ_r
  obtain rfl := Option.some.inj h
  exact ⟨.inl rfl, _, _, (kp [(4, _)] [(1004, some _)] hB rfl rfl (by rfl)), [(.d (e_api_Addr a1))], (Res.cell (c := (.d (e_api_Addr a1))) (by rfl) (by rfl) tyS42 (by rfl) (by rfl) (by rfl) Res.nil), rfl, by rfl, by rfl, by rfl⟩
 ·replace h := ite_f hg2 h
  apply AWp.skip
  apply seqQ_n
  refine sr (c (lb hN 42 _ _ tyS42 (At.here _) (q 2)) rfl (cg (sB tyS42 (q 4) (q 10)) rfl cn)) ?_
  apply AWp.ret
  obtain rfl := Option.some.inj h
  exact ⟨.inl rfl, _, _, (kp [(4, _)] [(1004, some _)] hB rfl rfl (by rfl)), [(.d (e_api_Addr a0))], (Res.cell (c := (.d (e_api_Addr a0))) (by rfl) (by rfl) tyS42 (by rfl) (by rfl) (by rfl) Res.nil), rfl, by rfl, by rfl, by rfl⟩
noncomputable def exchangepointref21_lesser (a0 : api_Addr) (a1 : api_Addr) : Option (api_Addr) :=
 (exchangepointref01_Cmp a0 a1).bind fun r1 =>
 (if (decide (r1 < (0 : Int))) = true then
 some a0
 else
 some a1)
theorem exchangepointref21_lesser_ac (a0 : api_Addr) (a1 : api_Addr) (r : api_Addr) (h : exchangepointref21_lesser a0 a1 = some r) : AC Tryz.prog 39 [(.d (e_api_Addr a0)), (.d (e_api_Addr a1))] [] (.d (e_api_Addr r)) [] := by
 refine AC.of_code2 Tryz.func39 rfl rfl (Nat.le_of_ble_eq_true (by rfl)) fun B hB hN => ?_
 delta exchangepointref21_lesser at h
 refine sr (cg (OpJ.box hB (nm := 1002) (by decide) (by simp) rfl (ltN hN rfl) (q 0)) rfl (cg (OpJ.box hB (nm := 1003) (by decide) (by simp) rfl (ltN hN rfl) (q 1)) rfl (cg (OpJ.alloc hB tyZ42 (nm := 1004) (by decide) (ltN hN rfl)) rfl cn))) ?_
 apply AWp.seq
 obtain ⟨r1, hr1, h⟩ := bindS h
 refine sr (c (lb hN 42 _ _ tyS42 (At.here _) (q 2)) rfl (c (lb hN 42 _ _ tyS42 (At.here _) (q 3)) rfl (cg (OpJ.callFn hB fnOk40 (exchangepointref01_Cmp_ac a0 a1 r1 hr1) [] (by kernel_rfl) (ltN hN rfl) (by kernel_rfl) (OpdL.cons (q 5) (OpdL.cons (q 6) OpdL.nil))) rfl (c (OpJ.lss (ltN hN rfl) (q 7) (Opd.int .i64 (0))) rfl cn)))) ?_
 refine AWp.cond rfl (fun hg2 => ?_) (fun hg2 => ?_)
 ·replace h := ite_t hg2 h
  refine sr (c (lb hN 42 _ _ tyS42 (At.here _) (q 2)) rfl (cg (sB tyS42 (q 4) (q 9)) rfl cn)) ?_
  apply AWp.ret
  apply seqQ_r
  obtain rfl := Option.some.inj h
  exact ⟨.inl rfl, _, _, (kp [(4, _)] [(1004, some _)] hB rfl rfl (by rfl)), [(.d (e_api_Addr a0))], (Res.cell (c := (.d (e_api_Addr a0))) (by rfl) (by rfl) tyS42 (by rfl) (by rfl) (by rfl) Res.nil), rfl, by rfl, by rfl, by rfl⟩
 ·replace h := ite_f hg2 h
  apply AWp.skip
  apply seqQ_n
  refine sr (c (lb hN 42 _ _ tyS42 (At.here _) (q 3)) rfl (cg (sB tyS42 (q 4) (q 10)) rfl cn)) ?_
  apply AWp.ret
  obtain rfl := Option.some.inj h
  exact ⟨.inl rfl, _, _, (kp [(4, _)] [(1004, some _)] hB rfl rfl (by rfl)), [(.d (e_api_Addr a1))], (Res.cell (c := (.d (e_api_Addr a1))) (by rfl) (by rfl) tyS42 (by rfl) (by rfl) (by rfl) Res.nil), rfl, by rfl, by rfl, by rfl⟩
noncomputable def exchangepointref21_Intersect_L1 (a1 : api_Resources) (x121 : api_Range) (s122 : Int × (List api_Range)) : Option ((((List api_Range))) ⊕ (Int × (List api_Range))) :=
 (if (decide (s122.1 < (a1.fAddrs.length : Int))) = true then
 (idx a1.fAddrs s122.1).bind fun x157 =>
 (exchangepointref21_greater x121.fFrom x157.fFrom).bind fun r158 =>
 (exchangepointref21_lesser x121.fTo x157.fTo).bind fun r159 =>
 jn (fun m162 : Bool =>
 jn (fun m166 : (List api_Range) =>
 some (.inr ((w64 (s122.1 + (1 : Int))), m166))) (fun j167 =>
 (if m162 = true then
 chk (decide ((s122.2 ++ ([(api_Range.mk r158 r159)] : List api_Range)).length ≤ LIM)) <|
 j167 (s122.2 ++ ([(api_Range.mk r158 r159)] : List api_Range))
 else
 j167 s122.2))) (fun j163 =>
 (if (x121.fFrom.fV6 == x157.fFrom.fV6) = true then
 (exchangepointref01_Cmp r158 r159).bind fun r171 =>
 j163 (decide (r171 ≤ (0 : Int)))
 else
 j163 false))
 else
 some (.inl s122.2))
noncomputable def exchangepointref21_Intersect_L0 (a0 : api_Resources) (a1 : api_Resources) (s8 : Int × (List api_Range)) : Option ((((List api_Range))) ⊕ (Int × (List api_Range))) :=
 (if (decide (s8.1 < (a0.fAddrs.length : Int))) = true then
 (idx a0.fAddrs s8.1).bind fun x121 =>
 (loop (exchangepointref21_Intersect_L1 a1 x121) ((0 : Int), s8.2)).bind fun p155 =>
 some (.inr ((w64 (s8.1 + (1 : Int))), p155))
 else
 some (.inl s8.2))
noncomputable def exchangepointref21_Intersect_L3 (a1 : api_Resources) (x241 : api_Span) (s242 : Int × (List api_Span)) : Option ((((List api_Span))) ⊕ (Int × (List api_Span))) :=
 (if (decide (s242.1 < (a1.fASNs.length : Int))) = true then
 (idx a1.fASNs s242.1).bind fun x261 =>
 jn (fun m264 : (List api_Span) =>
 some (.inr ((w64 (s242.1 + (1 : Int))), m264))) (fun j265 =>
 (if (decide ((maxI x241.fFrom x261.fFrom) ≤ (minI x241.fTo x261.fTo))) = true then
 chk (decide ((s242.2 ++ ([(api_Span.mk (maxI x241.fFrom x261.fFrom) (minI x241.fTo x261.fTo))] : List api_Span)).length ≤ LIM)) <|
 j265 (s242.2 ++ ([(api_Span.mk (maxI x241.fFrom x261.fFrom) (minI x241.fTo x261.fTo))] : List api_Span))
 else
 j265 s242.2))
 else
 some (.inl s242.2))
noncomputable def exchangepointref21_Intersect_L2 (a0 : api_Resources) (a1 : api_Resources) (s176 : Int × (List api_Span)) : Option ((((List api_Span))) ⊕ (Int × (List api_Span))) :=
 (if (decide (s176.1 < (a0.fASNs.length : Int))) = true then
 (idx a0.fASNs s176.1).bind fun x241 =>
 (loop (exchangepointref21_Intersect_L3 a1 x241) ((0 : Int), s176.2)).bind fun p259 =>
 some (.inr ((w64 (s176.1 + (1 : Int))), p259))
 else
 some (.inl s176.2))
noncomputable def exchangepointref21_Intersect (a0 : api_Resources) (a1 : api_Resources) : Option (api_Resources × Int) :=
 jn (fun m5 : Bool =>
 (if m5 = true then
 some ((api_Resources.mk ([] : List api_Range) ([] : List api_Span)), (1 : Int))
 else
 (loop (exchangepointref21_Intersect_L0 a0 a1) ((0 : Int), ([] : List api_Range))).bind fun p119 =>
 (loop (exchangepointref21_Intersect_L2 a0 a1) ((0 : Int), ([] : List api_Span))).bind fun p239 =>
 (exchangepointref21_ranges p119).bind fun r273 =>
 (exchangepointref21_spans p239).bind fun r274 =>
 (exchangepointref21_limited r273 r274).bind fun r275 =>
 some (r275.1, r275.2))) (fun j6 =>
 (exchangepointref21_Valid a0).bind fun r276 =>
 (if (!r276) = true then
 j6 true
 else
 (exchangepointref21_Valid a1).bind fun r278 =>
 j6 (!r278)))
theorem exchangepointref21_Intersect_ac (a0 : api_Resources) (a1 : api_Resources) (r : api_Resources × Int) (h : exchangepointref21_Intersect a0 a1 = some r) : AC Tryz.prog 13 [(.d (e_api_Resources a0)), (.d (e_api_Resources a1))] [] (.tup [(.d (e_api_Resources r.1)), (.d (.int .i64 r.2))]) [] := by
 refine AC.of_code2 Tryz.func13 rfl rfl (Nat.le_of_ble_eq_true (by rfl)) fun B hB hN => ?_
 have L {d : Nat} (h : Nat.blt d Tryz.f13.ntmps = true) : d < B.N := ltN hN h
 delta exchangepointref21_Intersect at h
 refine sr (cg (OpJ.box hB (nm := 1002) (by decide) (by simp) rfl (L rfl) (q 0)) rfl (cg (OpJ.box hB (nm := 1003) (by decide) (by simp) rfl (L rfl) (q 1)) rfl (cg (OpJ.alloc hB tyZ25 (nm := 1004) (by decide) (L rfl)) rfl (c (OpJ.assign (L rfl) (Opd.int .i64 (0))) rfl cn)))) ?_
 apply AWp.seq
 apply AWp.seq
 refine AWp.cut h (fun m5 : Bool => ([(2, (pt 1002)), (3, (pt 1003)), (4, (pt 1004)), (27, (bo m5))] : EL)) (fun m5 : Bool => ([(1002, bd 25 (e_api_Resources a0)), (1003, bd 25 (e_api_Resources a1)), (1004, some (.box 25 (.st [.nils, .nils])))] : OL)) (fun m5 h E' O' hmat => ?_) (fun j6 hjj6 h => ?_)
 ·apply seqQ_n
  refine AWp.ghost hmat ?_
  refine AWp.cond rfl (fun hg7 => ?_) (fun hg7 => ?_)
  ·replace h := ite_t hg7 h
   refine sr (c (OpJ.build (places := [(0, 1), (1, 1)]) ⟨underlying25, fun w => by kernel_rfl⟩ tyZS25 Opds.nil (by kernel_rfl) (r := (.st [.nils, .nils])) (by rfl) (L rfl)) rfl (cg (sB tyS25 (q 4) (q 28)) rfl (c (OpJ.assign (L rfl) (Opd.int .i64 (1))) rfl cn))) ?_
   apply AWp.ret
   apply seqQ_r
   obtain rfl := Option.some.inj h
   exact ⟨.inl rfl, _, _, (Mat.trans (Mat.coeP (Ts := []) (Bs := [(1004, bd 25 (.st [(.list 6 (([] : List api_Range).map e_api_Range)), (.list 2 (([] : List api_Span).map e_api_Span))]))]) TwT.nil (TwB.cons (x := (.st [.nils, .nils])) (by rfl) (Tw.leaf ⟨_, (Co.st (CoL.cons (Co.nils 6) (CoL.cons (Co.nils 2) CoL.nil))), rfl⟩) TwB.nil)) (mp [] [(4, (pt 1004)), (5, (i6 1))] [(1004, bd 25 (.st [(.list 6 (([] : List api_Range).map e_api_Range)), (.list 2 (([] : List api_Span).map e_api_Span))]))] hB)), [(.d (.st [(.list 6 (([] : List api_Range).map e_api_Range)), (.list 2 (([] : List api_Span).map e_api_Span))])), (i6 1)], (Res.cell (c := (.d (.st [(.list 6 (([] : List api_Range).map e_api_Range)), (.list 2 (([] : List api_Span).map e_api_Span))]))) (by rfl) (by rfl) tyS25 (by rfl) (by rfl) (by rfl) (Res.tmp (by rfl) (by rfl) Res.nil)), rfl, by rfl, by rfl, by rfl⟩
  ·replace h := ite_f hg7 h
   apply AWp.skip
   apply seqQ_n
   refine sr (c (OpJ.assign (L rfl) Opd.nils) rfl cn) ?_
   apply AWp.seq
   refine sr (c (fo 1002 0 [0] hN underlying25 0 tyS22 (q 2)) rfl (c (la hN 25 tyS22 (q 29)) rfl (c (OpJ.val (v' := (i6 (a0.fAddrs.length : Int))) (by simp) (OpJ.lenD underlying22 (L rfl) (q 30))) rfl (c (mv hN (Opd.int .i64 (0))) rfl cn)))) ?_
   apply AWp.block
   obtain ⟨p119, hx175, h⟩ := bindS h
   refine lg (exchangepointref21_Intersect_L0 a0 a1) (fun s8 : Int × (List api_Range) => ([(2, (pt 1002)), (3, (pt 1003)), (4, (pt 1004)), (6, (.sref 3006 6 0 s8.2.length)), (30, (qe_api_Range_6 a0.fAddrs)), (31, (i6 (a0.fAddrs.length : Int))), (32, (i6 s8.1))] : EL)) (fun s8 : Int × (List api_Range) => ([(1002, bd 25 (e_api_Resources a0)), (1003, bd 25 (e_api_Resources a1)), (1004, some (.box 25 (.st [.nils, .nils]))), (3006, some (we_api_Range_46_6 s8.2))] : OL)) (fun (p119 : ((List api_Range))) e E' O' => e = .exit 0 ∧ Mat B E' O' ([(2, (pt 1002)), (3, (pt 1003)), (4, (pt 1004)), (6, (.sref 3006 6 0 p119.length))] : EL) ([(1002, bd 25 (e_api_Resources a0)), (1003, bd 25 (e_api_Resources a1)), (1004, some (.box 25 (.st [.nils, .nils]))), (3006, some (we_api_Range_46_6 p119))] : OL)) hx175 (Mat.trans (Mat.beginP (n := 3006) (e := 46) (sz := 6) (Ts := [(6, (.sref 3006 6 0 0))]) (Bs := []) hB (by decide) (by rfl) (by decide) (TwT.cons (x := .nils) (by rfl) (Tw.leaf ⟨rfl, rfl⟩) TwT.nil) TwB.nil) (mp [] _ _ hB)) (fun s8 y h => ?_) (fun e E' O' hR => ?_)
   ·unfold exchangepointref21_Intersect_L0 at h
    refine sr (c (OpJ.lss (L rfl) (q 32) (q 31)) rfl cn) ?_
    apply AWp.seq
    refine AWp.cond rfl (fun hg120 => ?_) (fun hg120 => ?_)
    ·replace h := ite_t hg120 h
     apply AWp.skip
     apply seqQ_n
     apply AWp.seq
     apply AWp.block
     obtain ⟨x121, hx121, h⟩ := bindS h
     refine sr (c (OpJ.indexD underlying22 tyS46 (idx_some hx121).1 (get_map e_api_Range (idx_some hx121).2) (L rfl) (q 30) (q 32)) rfl (c (OpJ.loadD tyS46 (by rfl) (by rfl) (L rfl) (q 34)) rfl (cg (OpJ.alloc hB tyZ46 (nm := 1008) (by decide) (L rfl)) rfl (cg (sB tyS46 (q 8) (q 35)) rfl cn)))) ?_
     refine sr (c (fo 1003 0 [0] hN underlying25 0 tyS22 (q 3)) rfl (c (la hN 25 tyS22 (q 36)) rfl (c (OpJ.val (v' := (i6 (a1.fAddrs.length : Int))) (by simp) (OpJ.lenD underlying22 (L rfl) (q 37))) rfl (c (mv hN (Opd.int .i64 (0))) rfl cn)))) ?_
     apply AWp.block
     obtain ⟨p155, hx173, h⟩ := bindS h
     refine lg (exchangepointref21_Intersect_L1 a1 x121) (fun s122 : Int × (List api_Range) => ([(2, (pt 1002)), (3, (pt 1003)), (4, (pt 1004)), (6, (.sref 3006 6 0 s122.2.length)), (8, (pt 1008)), (30, (qe_api_Range_6 a0.fAddrs)), (31, (i6 (a0.fAddrs.length : Int))), (32, (i6 s8.1)), (37, (qe_api_Range_6 a1.fAddrs)), (38, (i6 (a1.fAddrs.length : Int))), (39, (i6 s122.1))] : EL)) (fun s122 : Int × (List api_Range) => ([(1002, bd 25 (e_api_Resources a0)), (1003, bd 25 (e_api_Resources a1)), (1004, some (.box 25 (.st [.nils, .nils]))), (1008, bd 46 (e_api_Range x121)), (3006, some (we_api_Range_46_6 s122.2))] : OL)) (fun (p155 : ((List api_Range))) e E' O' => e = .exit 2 ∧ Mat B E' O' ([(2, (pt 1002)), (3, (pt 1003)), (4, (pt 1004)), (6, (.sref 3006 6 0 p155.length)), (30, (qe_api_Range_6 a0.fAddrs)), (31, (i6 (a0.fAddrs.length : Int))), (32, (i6 s8.1))] : EL) ([(1002, bd 25 (e_api_Resources a0)), (1003, bd 25 (e_api_Resources a1)), (1004, some (.box 25 (.st [.nils, .nils]))), (3006, some (we_api_Range_46_6 p155))] : OL)) hx173 (mp [] _ _ hB) (fun s122 y h => ?_) (fun e E' O' hR => ?_)
     ·unfold exchangepointref21_Intersect_L1 at h
      refine sr (c (OpJ.lss (L rfl) (q 39) (q 38)) rfl cn) ?_
      apply AWp.seq
      refine AWp.cond rfl (fun hg156 => ?_) (fun hg156 => ?_)
      ·replace h := ite_t hg156 h
       apply AWp.skip
       apply seqQ_n
       apply AWp.seq
       apply AWp.block
       obtain ⟨x157, hx157, h⟩ := bindS h
       refine sr (c (OpJ.indexD underlying22 tyS46 (idx_some hx157).1 (get_map e_api_Range (idx_some hx157).2) (L rfl) (q 37) (q 39)) rfl (c (OpJ.loadD tyS46 (by rfl) (by rfl) (L rfl) (q 41)) rfl (cg (OpJ.alloc hB tyZ46 (nm := 1010) (by decide) (L rfl)) rfl (cg (sB tyS46 (q 10) (q 42)) rfl cn)))) ?_
       obtain ⟨r158, hr158, h⟩ := bindS h
       obtain ⟨r159, hr159, h⟩ := bindS h
       refine sd (c (fo 1008 0 [0] hN underlying46 0 tyS42 (q 8)) rfl (c (la hN 46 tyS42 (q 43)) rfl (c (fo 1010 0 [0] hN underlying46 0 tyS42 (q 10)) rfl (c (la hN 46 tyS42 (q 45)) rfl (cg (cf hB fnOk38 (exchangepointref21_greater_ac x121.fFrom x157.fFrom r158 hr158) (L rfl) (OpdL.cons (q 44) (OpdL.cons (q 46) OpdL.nil))) rfl (c (fo 1008 3 [1] hN underlying46 3 tyS42 (q 8)) rfl (c (la hN 46 tyS42 (q 48)) rfl (c (fo 1010 3 [1] hN underlying46 3 tyS42 (q 10)) rfl (c (la hN 46 tyS42 (q 50)) rfl (cg (cf hB fnOk39 (exchangepointref21_lesser_ac x121.fTo x157.fTo r159 hr159) (L rfl) (OpdL.cons (q 49) (OpdL.cons (q 51) OpdL.nil))) rfl (cg (OpJ.alloc hB tyZ42 (nm := 1011) (by decide) (L rfl)) rfl (cg (OpJ.alloc hB tyZ42 (nm := 1012) (by decide) (L rfl)) rfl (cg (sB tyS42 (q 11) (q 47)) rfl (cg (sB tyS42 (q 12) (q 52)) rfl cn)))))))))))))) (by kernel_rfl) (by kernel_rfl) ?_
       apply AWp.seq
       refine AWp.cut h (fun m162 : Bool => ([(2, (pt 1002)), (3, (pt 1003)), (4, (pt 1004)), (6, (.sref 3006 6 0 s122.2.length)), (8, (pt 1008)), (11, (pt 1011)), (12, (pt 1012)), (30, (qe_api_Range_6 a0.fAddrs)), (31, (i6 (a0.fAddrs.length : Int))), (32, (i6 s8.1)), (37, (qe_api_Range_6 a1.fAddrs)), (38, (i6 (a1.fAddrs.length : Int))), (39, (i6 s122.1)), (65, (bo m162))] : EL)) (fun m162 : Bool => ([(1002, bd 25 (e_api_Resources a0)), (1003, bd 25 (e_api_Resources a1)), (1004, some (.box 25 (.st [.nils, .nils]))), (1008, bd 46 (e_api_Range x121)), (1011, bd 42 (e_api_Addr r158)), (1012, bd 42 (e_api_Addr r159)), (3006, some (we_api_Range_46_6 s122.2))] : OL)) (fun m162 h E' O' hmat => ?_) (fun j163 hjj163 h => ?_)
       ·apply seqQ_n
        refine AWp.ghost hmat ?_
        refine AWp.cut h (fun m166 : (List api_Range) => ([(2, (pt 1002)), (3, (pt 1003)), (4, (pt 1004)), (6, (.sref 3006 6 0 m166.length)), (8, (pt 1008)), (30, (qe_api_Range_6 a0.fAddrs)), (31, (i6 (a0.fAddrs.length : Int))), (32, (i6 s8.1)), (37, (qe_api_Range_6 a1.fAddrs)), (38, (i6 (a1.fAddrs.length : Int))), (39, (i6 s122.1))] : EL)) (fun m166 : (List api_Range) => ([(1002, bd 25 (e_api_Resources a0)), (1003, bd 25 (e_api_Resources a1)), (1004, some (.box 25 (.st [.nils, .nils]))), (1008, bd 46 (e_api_Range x121)), (3006, some (we_api_Range_46_6 m166))] : OL)) (fun m166 h E' O' hmat => ?_) (fun j167 hjj167 h => ?_)
        ·apply blkQ_n
         apply seqQ_n
         refine AWp.ghost hmat ?_
         refine rg (c (add6 (L rfl) (q 39) (Opd.int .i64 (1))) rfl (c (mv hN (q 72)) rfl cn)) ?_
         obtain rfl := Option.some.inj h
         exact ⟨rfl, (mp [] _ _ hB)⟩
        ·refine AWp.cond rfl (fun hg168 => ?_) (fun hg168 => ?_)
         ·replace h := ite_t hg168 h
          obtain ⟨hc169, h⟩ := chk_some h
          refine rg (c (mv hN (q 6)) rfl (c (lb hN 42 _ _ tyS42 (At.here _) (q 11)) rfl (c (lb hN 42 _ _ tyS42 (At.here _) (q 12)) rfl (c (OpJ.coe (v := (.st [(.d (e_api_Addr r158)), (.d (e_api_Addr r159))])) (y := (.st [(e_api_Addr r158), (e_api_Addr r159)])) (Co.st (CoL.cons (Co.d _) (CoL.cons (Co.d _) CoL.nil))) rfl (OpJ.build (places := [(0, 3), (3, 3)]) ⟨underlying46, fun w => by kernel_rfl⟩ tyZS46 (Opds.cons (q 67) (Opds.cons (q 68) Opds.nil)) (by kernel_rfl) (r := (.st [(.d (e_api_Addr r158)), (.d (e_api_Addr r159))])) (by rfl) (L rfl))) rfl (c (OpJ.buildSlice underlying22 tyS46 tyZD46 (by rfl) (by decide) (by decide) (Opds.cons (q 69) Opds.nil) (by kernel_rfl) (es := ([(.st [(e_api_Addr r158), (e_api_Addr r159)])] : List D)) (by rfl) (by rfl) (by kernel_rfl) (by simp) (L rfl)) rfl (cg (apd hB underlying22 tyE46 1071 e_api_Range s122.2 ([(api_Range.mk r158 r159)] : List api_Range) hc169 (L rfl) (q 66) (q 70)) rfl (c (OpJ.assign (L rfl) (q 71)) rfl cn))))))) ?_
          exact hjj167 _ h _ _ (mp [(3006, 1071)] _ _ hB)
         ·replace h := ite_f hg168 h
          apply AWp.skip
          exact hjj167 _ h _ _ (mp [] _ _ hB)
       ·rcases Bool.eq_false_or_eq_true (x121.fFrom.fV6 == x157.fFrom.fV6) with hg170 | hg170
        ·replace h := ite_t hg170 h
         obtain ⟨r171, hr171, h⟩ := bindS h
         refine rg (c (fo 1008 0 [0] hN underlying46 0 tyS42 (q 8)) rfl (c (fo 1008 0 [0, 0] hN underlying42 0 tyS4 (q 53)) rfl (c (lb hN 46 _ _ tyS4 (At.dst1 (by rfl) (by rfl) (ad _) (by first | rfl | omega)) (q 54)) rfl (c (fo 1010 0 [0] hN underlying46 0 tyS42 (q 10)) rfl (c (fo 1010 0 [0, 0] hN underlying42 0 tyS4 (q 56)) rfl (c (lb hN 46 _ _ tyS4 (At.dst1 (by rfl) (by rfl) (ad _) (by first | rfl | omega)) (q 57)) rfl (c (OpJ.eqlB underlying4 (L rfl) (q 55) (q 58)) rfl (c (OpJ.val (v' := .d (.bool true)) (by rw [hg170] <;> rfl) (mv hN (q 59))) rfl (c (gd 60 (lb hN 42 _ _ tyS42 (At.here _) (q 11))) rfl (c (gd 60 (lb hN 42 _ _ tyS42 (At.here _) (q 12))) rfl (cg (gd 60 (cf hB fnOk40 (exchangepointref01_Cmp_ac r158 r159 r171 hr171) (L rfl) (OpdL.cons (q 61) (OpdL.cons (q 62) OpdL.nil)))) rfl (c (gd 60 (OpJ.leq (L rfl) (q 63) (Opd.int .i64 (0)))) rfl (c (OpJ.pickT (L rfl) (q 60) (q 64)) rfl cn))))))))))))) ?_
         exact hjj163 _ h _ _ (mp [] _ _ hB)
        ·replace h := ite_f hg170 h
         refine rg (c (fo 1008 0 [0] hN underlying46 0 tyS42 (q 8)) rfl (c (fo 1008 0 [0, 0] hN underlying42 0 tyS4 (q 53)) rfl (c (lb hN 46 _ _ tyS4 (At.dst1 (by rfl) (by rfl) (ad _) (by first | rfl | omega)) (q 54)) rfl (c (fo 1010 0 [0] hN underlying46 0 tyS42 (q 10)) rfl (c (fo 1010 0 [0, 0] hN underlying42 0 tyS4 (q 56)) rfl (c (lb hN 46 _ _ tyS4 (At.dst1 (by rfl) (by rfl) (ad _) (by first | rfl | omega)) (q 57)) rfl (c (OpJ.eqlB underlying4 (L rfl) (q 55) (q 58)) rfl (c (OpJ.val (v' := .d (.bool false)) (by rw [hg170] <;> rfl) (mv hN (q 59))) rfl (cg (sU 60 (L rfl)) rfl (cg (sU 60 (L rfl)) rfl (cg (sU 60 (L rfl)) rfl (cg (sU 60 (L rfl)) rfl (c (OpJ.pickF (L rfl) (q 60) (Opd.bool false)) rfl cn))))))))))))) ?_
         exact hjj163 _ h _ _ (mp [] _ _ hB)
      ·replace h := ite_f hg156 h
       apply AWp.exit
       apply seqQ_e
       obtain rfl := Option.some.inj h
       exact ⟨(fun hc => by cases hc), rfl, (mp [] _ _ hB)⟩
     ·obtain ⟨rfl, hmat⟩ := hR
      apply blkQ_hit
      apply blkQ_n
      apply seqQ_n
      refine AWp.ghost hmat ?_
      refine rg (c (add6 (L rfl) (q 32) (Opd.int .i64 (1))) rfl (c (mv hN (q 73)) rfl cn)) ?_
      obtain rfl := Option.some.inj h
      exact ⟨rfl, (mp [] _ _ hB)⟩
    ·replace h := ite_f hg120 h
     apply AWp.exit
     apply seqQ_e
     obtain rfl := Option.some.inj h
     exact ⟨(fun hc => by cases hc), rfl, (mp [] _ _ hB)⟩
   ·obtain ⟨rfl, hmat⟩ := hR
    apply blkQ_hit
    apply seqQ_n
    refine AWp.ghost hmat ?_
    refine sr (c (OpJ.assign (L rfl) Opd.nils) rfl cn) ?_
    apply AWp.seq
    refine sr (c (fo 1002 1 [1] hN underlying25 1 tyS23 (q 2)) rfl (c (la hN 25 tyS23 (q 74)) rfl (c (OpJ.val (v' := (i6 (a0.fASNs.length : Int))) (by simp) (OpJ.lenD underlying23 (L rfl) (q 75))) rfl (c (mv hN (Opd.int .i64 (0))) rfl cn)))) ?_
    apply AWp.block
    obtain ⟨p239, hx271, h⟩ := bindS h
    refine lg (exchangepointref21_Intersect_L2 a0 a1) (fun s176 : Int × (List api_Span) => ([(3, (pt 1003)), (4, (pt 1004)), (6, (.sref 3006 6 0 p119.length)), (13, (.sref 3013 2 0 s176.2.length)), (75, (qe_api_Span_2 a0.fASNs)), (76, (i6 (a0.fASNs.length : Int))), (77, (i6 s176.1))] : EL)) (fun s176 : Int × (List api_Span) => ([(1003, bd 25 (e_api_Resources a1)), (1004, some (.box 25 (.st [.nils, .nils]))), (3006, some (we_api_Range_46_6 p119)), (3013, some (we_api_Span_62_2 s176.2))] : OL)) (fun (p239 : ((List api_Span))) e E' O' => e = .exit 4 ∧ Mat B E' O' ([(4, (pt 1004)), (6, (.sref 3006 6 0 p119.length)), (13, (.sref 3013 2 0 p239.length))] : EL) ([(1004, some (.box 25 (.st [.nils, .nils]))), (3006, some (we_api_Range_46_6 p119)), (3013, some (we_api_Span_62_2 p239))] : OL)) hx271 (Mat.trans (Mat.beginP (n := 3013) (e := 62) (sz := 2) (Ts := [(13, (.sref 3013 2 0 0))]) (Bs := []) hB (by decide) (by rfl) (by decide) (TwT.cons (x := .nils) (by rfl) (Tw.leaf ⟨rfl, rfl⟩) TwT.nil) TwB.nil) (mp [] _ _ hB)) (fun s176 y h => ?_) (fun e E' O' hR => ?_)
    ·unfold exchangepointref21_Intersect_L2 at h
     refine sr (c (OpJ.lss (L rfl) (q 77) (q 76)) rfl cn) ?_
     apply AWp.seq
     refine AWp.cond rfl (fun hg240 => ?_) (fun hg240 => ?_)
     ·replace h := ite_t hg240 h
      apply AWp.skip
      apply seqQ_n
      apply AWp.seq
      apply AWp.block
      obtain ⟨x241, hx241, h⟩ := bindS h
      refine sr (c (OpJ.indexD underlying23 tyS62 (idx_some hx241).1 (get_map e_api_Span (idx_some hx241).2) (L rfl) (q 75) (q 77)) rfl (c (OpJ.loadD tyS62 (by rfl) (by rfl) (L rfl) (q 79)) rfl (cg (OpJ.alloc hB tyZ62 (nm := 1015) (by decide) (L rfl)) rfl (cg (sB tyS62 (q 15) (q 80)) rfl cn)))) ?_
      refine sr (c (fo 1003 1 [1] hN underlying25 1 tyS23 (q 3)) rfl (c (la hN 25 tyS23 (q 81)) rfl (c (OpJ.val (v' := (i6 (a1.fASNs.length : Int))) (by simp) (OpJ.lenD underlying23 (L rfl) (q 82))) rfl (c (mv hN (Opd.int .i64 (0))) rfl cn)))) ?_
      apply AWp.block
      obtain ⟨p259, hx269, h⟩ := bindS h
      refine lg (exchangepointref21_Intersect_L3 a1 x241) (fun s242 : Int × (List api_Span) => ([(3, (pt 1003)), (4, (pt 1004)), (6, (.sref 3006 6 0 p119.length)), (13, (.sref 3013 2 0 s242.2.length)), (15, (pt 1015)), (75, (qe_api_Span_2 a0.fASNs)), (76, (i6 (a0.fASNs.length : Int))), (77, (i6 s176.1)), (82, (qe_api_Span_2 a1.fASNs)), (83, (i6 (a1.fASNs.length : Int))), (84, (i6 s242.1))] : EL)) (fun s242 : Int × (List api_Span) => ([(1003, bd 25 (e_api_Resources a1)), (1004, some (.box 25 (.st [.nils, .nils]))), (1015, bd 62 (e_api_Span x241)), (3006, some (we_api_Range_46_6 p119)), (3013, some (we_api_Span_62_2 s242.2))] : OL)) (fun (p259 : ((List api_Span))) e E' O' => e = .exit 6 ∧ Mat B E' O' ([(3, (pt 1003)), (4, (pt 1004)), (6, (.sref 3006 6 0 p119.length)), (13, (.sref 3013 2 0 p259.length)), (75, (qe_api_Span_2 a0.fASNs)), (76, (i6 (a0.fASNs.length : Int))), (77, (i6 s176.1))] : EL) ([(1003, bd 25 (e_api_Resources a1)), (1004, some (.box 25 (.st [.nils, .nils]))), (3006, some (we_api_Range_46_6 p119)), (3013, some (we_api_Span_62_2 p259))] : OL)) hx269 (mp [] _ _ hB) (fun s242 y h => ?_) (fun e E' O' hR => ?_)
      ·unfold exchangepointref21_Intersect_L3 at h
       refine sr (c (OpJ.lss (L rfl) (q 84) (q 83)) rfl cn) ?_
       apply AWp.seq
       refine AWp.cond rfl (fun hg260 => ?_) (fun hg260 => ?_)
       ·replace h := ite_t hg260 h
        apply AWp.skip
        apply seqQ_n
        apply AWp.seq
        apply AWp.block
        obtain ⟨x261, hx261, h⟩ := bindS h
        refine sr (c (OpJ.indexD underlying23 tyS62 (idx_some hx261).1 (get_map e_api_Span (idx_some hx261).2) (L rfl) (q 82) (q 84)) rfl (c (OpJ.loadD tyS62 (by rfl) (by rfl) (L rfl) (q 86)) rfl (cg (OpJ.alloc hB tyZ62 (nm := 1017) (by decide) (L rfl)) rfl (cg (sB tyS62 (q 17) (q 87)) rfl cn)))) ?_
        refine sd (c (fo 1015 0 [0] hN underlying62 0 tyS3 (q 15)) rfl (c (la hN 62 tyS3 (q 88)) rfl (c (fo 1017 0 [0] hN underlying62 0 tyS3 (q 17)) rfl (c (la hN 62 tyS3 (q 90)) rfl (c (OpJ.max (L rfl) (q 89) (q 91)) rfl (c (fo 1015 1 [1] hN underlying62 1 tyS3 (q 15)) rfl (c (la hN 62 tyS3 (q 93)) rfl (c (fo 1017 1 [1] hN underlying62 1 tyS3 (q 17)) rfl (c (la hN 62 tyS3 (q 95)) rfl (c (OpJ.min (L rfl) (q 94) (q 96)) rfl (c (OpJ.assign (L rfl) (q 92)) rfl (c (OpJ.assign (L rfl) (q 97)) rfl cn)))))))))))) (by kernel_rfl) (by kernel_rfl) ?_
        refine sr (c (mv hN (q 18)) rfl (c (mv hN (q 19)) rfl (c (OpJ.leq (L rfl) (q 98) (q 99)) rfl cn))) ?_
        refine gh [(3, _), (4, _), (6, _), (13, _), (15, _), (18, _), (19, _), (75, _), (76, _), (77, _), (82, _), (83, _), (84, _), (100, _)] [(1003, some _), (1004, some _), (1015, some _), (3006, some _), (3013, some _)] hB rfl rfl (by rfl) ?_
        refine AWp.cut h (fun m264 : (List api_Span) => ([(3, (pt 1003)), (4, (pt 1004)), (6, (.sref 3006 6 0 p119.length)), (13, (.sref 3013 2 0 m264.length)), (15, (pt 1015)), (75, (qe_api_Span_2 a0.fASNs)), (76, (i6 (a0.fASNs.length : Int))), (77, (i6 s176.1)), (82, (qe_api_Span_2 a1.fASNs)), (83, (i6 (a1.fASNs.length : Int))), (84, (i6 s242.1))] : EL)) (fun m264 : (List api_Span) => ([(1003, bd 25 (e_api_Resources a1)), (1004, some (.box 25 (.st [.nils, .nils]))), (1015, bd 62 (e_api_Span x241)), (3006, some (we_api_Range_46_6 p119)), (3013, some (we_api_Span_62_2 m264))] : OL)) (fun m264 h E' O' hmat => ?_) (fun j265 hjj265 h => ?_)
        ·apply blkQ_n
         apply seqQ_n
         refine AWp.ghost hmat ?_
         refine rg (c (add6 (L rfl) (q 84) (Opd.int .i64 (1))) rfl (c (mv hN (q 107)) rfl cn)) ?_
         obtain rfl := Option.some.inj h
         exact ⟨rfl, (mp [] _ _ hB)⟩
        ·refine AWp.cond rfl (fun hg266 => ?_) (fun hg266 => ?_)
         ·replace h := ite_t hg266 h
          obtain ⟨hc267, h⟩ := chk_some h
          refine rg (c (mv hN (q 13)) rfl (c (mv hN (q 18)) rfl (c (mv hN (q 19)) rfl (c (OpJ.coe (v := (.st [(i6 (maxI x241.fFrom x261.fFrom)), (i6 (minI x241.fTo x261.fTo))])) (y := (.st [(.int .i64 (maxI x241.fFrom x261.fFrom)), (.int .i64 (minI x241.fTo x261.fTo))])) (Co.st (CoL.cons (Co.d _) (CoL.cons (Co.d _) CoL.nil))) rfl (OpJ.build (places := [(0, 1), (1, 1)]) ⟨underlying62, fun w => by kernel_rfl⟩ tyZS62 (Opds.cons (q 102) (Opds.cons (q 103) Opds.nil)) (by kernel_rfl) (r := (.st [(i6 (maxI x241.fFrom x261.fFrom)), (i6 (minI x241.fTo x261.fTo))])) (by rfl) (L rfl))) rfl (c (OpJ.buildSlice underlying23 tyS62 tyZD62 (by rfl) (by decide) (by decide) (Opds.cons (q 104) Opds.nil) (by kernel_rfl) (es := ([(.st [(.int .i64 (maxI x241.fFrom x261.fFrom)), (.int .i64 (minI x241.fTo x261.fTo))])] : List D)) (by rfl) (by rfl) (by kernel_rfl) (by simp) (L rfl)) rfl (cg (apd hB underlying23 tyE62 1106 e_api_Span s242.2 ([(api_Span.mk (maxI x241.fFrom x261.fFrom) (minI x241.fTo x261.fTo))] : List api_Span) hc267 (L rfl) (q 101) (q 105)) rfl (c (OpJ.assign (L rfl) (q 106)) rfl cn))))))) ?_
          exact hjj265 _ h _ _ (mp [(3013, 1106)] _ _ hB)
         ·replace h := ite_f hg266 h
          apply AWp.skip
          exact hjj265 _ h _ _ (mp [] _ _ hB)
       ·replace h := ite_f hg260 h
        apply AWp.exit
        apply seqQ_e
        obtain rfl := Option.some.inj h
        exact ⟨(fun hc => by cases hc), rfl, (mp [] _ _ hB)⟩
      ·obtain ⟨rfl, hmat⟩ := hR
       apply blkQ_hit
       apply blkQ_n
       apply seqQ_n
       refine AWp.ghost hmat ?_
       refine rg (c (add6 (L rfl) (q 77) (Opd.int .i64 (1))) rfl (c (mv hN (q 108)) rfl cn)) ?_
       obtain rfl := Option.some.inj h
       exact ⟨rfl, (mp [] _ _ hB)⟩
     ·replace h := ite_f hg240 h
      apply AWp.exit
      apply seqQ_e
      obtain rfl := Option.some.inj h
      exact ⟨(fun hc => by cases hc), rfl, (mp [] _ _ hB)⟩
    ·obtain ⟨rfl, hmat⟩ := hR
     apply blkQ_hit
     apply seqQ_n
     refine AWp.ghost hmat ?_
     apply AWp.seq
     refine AWp.ghost (Mat.freezeP (n := 3006) (e := 46) (sz := 6) (es := p119.map e_api_Range) (Ts := [(6, (qe_api_Range_6 p119))]) (Bs := []) (by rfl) (TwT.cons (x := (.sref 3006 6 0 p119.length)) (by rfl) (FrzL.all (by first | rfl | (simp; done) | (simp; omega) | omega)) TwT.nil) TwB.nil) ?_
     refine AWp.ghost (Mat.freezeP (n := 3013) (e := 62) (sz := 2) (es := p239.map e_api_Span) (Ts := [(13, (qe_api_Span_2 p239))]) (Bs := []) (by rfl) (TwT.cons (x := (.sref 3013 2 0 p239.length)) (by rfl) (FrzL.all (by first | rfl | (simp; done) | (simp; omega) | omega)) TwT.nil) TwB.nil) ?_
     obtain ⟨r273, hr273, h⟩ := bindS h
     obtain ⟨r274, hr274, h⟩ := bindS h
     obtain ⟨r275, hr275, h⟩ := bindS h
     refine rg (c (mv hN (q 6)) rfl (cg (cf hB fnOk35 (exchangepointref21_ranges_ac p119 r273 hr273) (L rfl) (OpdL.cons (q 109) OpdL.nil)) rfl (c (mv hN (q 13)) rfl (cg (cf hB fnOk36 (exchangepointref21_spans_ac p239 r274 hr274) (L rfl) (OpdL.cons (q 111) OpdL.nil)) rfl (cg (cf hB fnOk34 (exchangepointref21_limited_ac r273 r274 r275 hr275) (L rfl) (OpdL.cons (q 110) (OpdL.cons (q 112) OpdL.nil))) rfl (c (OpJ.extract (by rfl) rfl (L rfl) (q 113)) rfl (c (OpJ.extract (by rfl) rfl (L rfl) (q 113)) rfl (cg (sB tyS25 (q 4) (q 114)) rfl (c (OpJ.assign (L rfl) (q 115)) rfl cn))))))))) ?_
     apply seqQ_n
     apply AWp.ret
     obtain rfl := Option.some.inj h
     exact ⟨.inl rfl, _, _, (kp [(4, _), (5, _)] [(1004, some _)] hB rfl rfl (by rfl)), [(.d (e_api_Resources r275.1)), (i6 r275.2)], (Res.cell (c := (.d (e_api_Resources r275.1))) (by rfl) (by rfl) tyS25 (by rfl) (by rfl) (by rfl) (Res.tmp (by rfl) (by rfl) Res.nil)), rfl, by rfl, by rfl, by rfl⟩
 ·obtain ⟨r276, hr276, h⟩ := bindS h
  rcases Bool.eq_false_or_eq_true (!r276) with hg277 | hg277
  ·replace h := ite_t hg277 h
   refine rg (c (lb hN 25 _ _ tyS25 (At.here _) (q 2)) rfl (cg (cf hB fnOk33 (exchangepointref21_Valid_ac a0 r276 hr276) (L rfl) (OpdL.cons (q 20) OpdL.nil)) rfl (c (OpJ.not (L rfl) (q 21)) rfl (c (OpJ.val (v' := .d (.bool true)) (by rw [hg277] <;> rfl) (mv hN (q 22))) rfl (cg (sU 23 (L rfl)) rfl (cg (sU 23 (L rfl)) rfl (cg (sU 23 (L rfl)) rfl (c (OpJ.pickT (L rfl) (q 23) (Opd.bool true)) rfl cn)))))))) ?_
   exact hjj6 _ h _ _ (mp [] _ _ hB)
  ·replace h := ite_f hg277 h
   obtain ⟨r278, hr278, h⟩ := bindS h
   refine rg (c (lb hN 25 _ _ tyS25 (At.here _) (q 2)) rfl (cg (cf hB fnOk33 (exchangepointref21_Valid_ac a0 r276 hr276) (L rfl) (OpdL.cons (q 20) OpdL.nil)) rfl (c (OpJ.not (L rfl) (q 21)) rfl (c (OpJ.val (v' := .d (.bool false)) (by rw [hg277] <;> rfl) (mv hN (q 22))) rfl (c (gd 23 (lb hN 25 _ _ tyS25 (At.here _) (q 3))) rfl (cg (gd 23 (cf hB fnOk33 (exchangepointref21_Valid_ac a1 r278 hr278) (L rfl) (OpdL.cons (q 24) OpdL.nil))) rfl (c (gd 23 (OpJ.not (L rfl) (q 25))) rfl (c (OpJ.pickF (L rfl) (q 23) (q 26)) rfl cn)))))))) ?_
   exact hjj6 _ h _ _ (mp [] _ _ hB)
noncomputable def resource_Minus (a0 : api_Resources) (a1 : api_Resources) : Option (api_Resources × Int) :=
 jn (fun m5 : Bool =>
 (if m5 = true then
 some ((api_Resources.mk ([] : List api_Range) ([] : List api_Span)), (1 : Int))
 else
 (resource_of a0).bind fun r8 =>
 (resource_of a1).bind fun r9 =>
 (resource_set_minus r8 r9).bind fun r10 =>
 (resource_set_resources r10).bind fun r11 =>
 some (r11.1, r11.2))) (fun j6 =>
 (resource_Valid a0).bind fun r12 =>
 (if (!r12) = true then
 j6 true
 else
 (resource_Valid a1).bind fun r14 =>
 j6 (!r14)))
theorem resource_Minus_ac (a0 : api_Resources) (a1 : api_Resources) (r : api_Resources × Int) (h : resource_Minus a0 a1 = some r) : AC Tryz.prog 14 [(.d (e_api_Resources a0)), (.d (e_api_Resources a1))] [(500, (.know (globF 0 [50, 52, 133]))), (501, (.know (globF 1 [71, 134, 135])))] (.tup [(.d (e_api_Resources r.1)), (.d (.int .i64 r.2))]) [(500, some (.know (globF 0 [50, 52, 133]))), (501, some (.know (globF 1 [71, 134, 135])))] := by
 refine AC.of_code2 Tryz.func14 rfl rfl (Nat.le_of_ble_eq_true (by rfl)) fun B hB hN => ?_
 have L {d : Nat} (h : Nat.blt d Tryz.f14.ntmps = true) : d < B.N := ltN hN h
 delta resource_Minus at h
 refine sr (cg (OpJ.box hB (nm := 1002) (by decide) (by simp) rfl (L rfl) (q 0)) rfl (cg (OpJ.box hB (nm := 1003) (by decide) (by simp) rfl (L rfl) (q 1)) rfl (cg (OpJ.alloc hB tyZ25 (nm := 1004) (by decide) (L rfl)) rfl (c (OpJ.assign (L rfl) (Opd.int .i64 (0))) rfl cn)))) ?_
 apply AWp.seq
 apply AWp.seq
 refine AWp.cut h (fun m5 : Bool => ([(2, (pt 1002)), (3, (pt 1003)), (4, (pt 1004)), (13, (bo m5))] : EL)) (fun m5 : Bool => ([(500, some (.know (globF 0 [50, 52, 133]))), (501, some (.know (globF 1 [71, 134, 135]))), (1002, bd 25 (e_api_Resources a0)), (1003, bd 25 (e_api_Resources a1)), (1004, some (.box 25 (.st [.nils, .nils])))] : OL)) (fun m5 h E' O' hmat => ?_) (fun j6 hjj6 h => ?_)
 ·apply seqQ_n
  refine AWp.ghost hmat ?_
  refine AWp.cond rfl (fun hg7 => ?_) (fun hg7 => ?_)
  ·replace h := ite_t hg7 h
   refine sr (c (OpJ.build (places := [(0, 1), (1, 1)]) ⟨underlying25, fun w => by kernel_rfl⟩ tyZS25 Opds.nil (by kernel_rfl) (r := (.st [.nils, .nils])) (by rfl) (L rfl)) rfl (cg (sB tyS25 (q 4) (q 14)) rfl (c (OpJ.assign (L rfl) (Opd.int .i64 (1))) rfl cn))) ?_
   apply AWp.ret
   apply seqQ_r
   obtain rfl := Option.some.inj h
   exact ⟨.inl rfl, _, _, (Mat.trans (Mat.coeP (Ts := []) (Bs := [(1004, bd 25 (.st [(.list 6 (([] : List api_Range).map e_api_Range)), (.list 2 (([] : List api_Span).map e_api_Span))]))]) TwT.nil (TwB.cons (x := (.st [.nils, .nils])) (by rfl) (Tw.leaf ⟨_, (Co.st (CoL.cons (Co.nils 6) (CoL.cons (Co.nils 2) CoL.nil))), rfl⟩) TwB.nil)) (mp [] [(4, (pt 1004)), (5, (i6 1))] [(500, some (.know (globF 0 [50, 52, 133]))), (501, some (.know (globF 1 [71, 134, 135]))), (1004, bd 25 (.st [(.list 6 (([] : List api_Range).map e_api_Range)), (.list 2 (([] : List api_Span).map e_api_Span))]))] hB)), [(.d (.st [(.list 6 (([] : List api_Range).map e_api_Range)), (.list 2 (([] : List api_Span).map e_api_Span))])), (i6 1)], (Res.cell (c := (.d (.st [(.list 6 (([] : List api_Range).map e_api_Range)), (.list 2 (([] : List api_Span).map e_api_Span))]))) (by rfl) (by rfl) tyS25 (by rfl) (by rfl) (by rfl) (Res.tmp (by rfl) (by rfl) Res.nil)), rfl, by rfl, by rfl, by rfl⟩
  ·replace h := ite_f hg7 h
   apply AWp.skip
   apply seqQ_n
   apply AWp.seq
   obtain ⟨r8, hr8, h⟩ := bindS h
   obtain ⟨r9, hr9, h⟩ := bindS h
   obtain ⟨r10, hr10, h⟩ := bindS h
   obtain ⟨r11, hr11, h⟩ := bindS h
   refine AWp.draws (by kernel_rfl) (oc (lb hN 25 (.d (e_api_Resources a0)) (.d (e_api_Resources a0)) tyS25 (At.here _) (ot 2 (pt 1002)))
    (oc (cf hB fnOk29 (resource_of_ac a0 r8 hr8) (L rfl) (OpdL.cons (ot 15 (.d (e_api_Resources a0))) OpdL.nil))
    (oc (lb hN 25 (.d (e_api_Resources a1)) (.d (e_api_Resources a1)) tyS25 (At.here _) (ot 3 (pt 1003)))
    (oc (cf hB fnOk29 (resource_of_ac a1 r9 hr9) (L rfl) (OpdL.cons (ot 17 (.d (e_api_Resources a1))) OpdL.nil))
    (oc (OpJ.callFn hB fnOk37 (resource_set_minus_ac r8 r9 r10 hr10) [(500, 500), (501, 501)] (by kernel_rfl) (L rfl) (by kernel_rfl) (OpdL.cons (ot 16 (.d (e_resource_set r8))) (OpdL.cons (ot 18 (.d (e_resource_set r9))) OpdL.nil)))
    (oc (cf hB fnOk32 (resource_set_resources_ac r10 r11 hr11) (L rfl) (OpdL.cons (ot 19 (.d (e_resource_set r10))) OpdL.nil))
    (oc (OpJ.extract (v := (.d (e_api_Resources r11.1))) (by rfl) rfl (L rfl) (ot 20 (.tup [(.d (e_api_Resources r11.1)), (i6 r11.2)])))
    (oc (OpJ.extract (v := (i6 r11.2)) (by rfl) rfl (L rfl) (ot 20 (.tup [(.d (e_api_Resources r11.1)), (i6 r11.2)])))
    (oc (OpJ.storeB (bt := 25) (c := (.st [.nils, .nils])) (v := (.d (e_api_Resources r11.1))) (c' := (.d (e_api_Resources r11.1))) tyS25 (SetAt.here _ _) (by rfl) (by rfl) (by simp) rfl (ot 4 (pt 1004)) (ot 21 (.d (e_api_Resources r11.1))))
    (oc (OpJ.assign (L rfl) (ot 22 (i6 r11.2)))
    (OpJs.nil))))))))))) (by kernel_rfl) (by rfl) (by rfl) ?_
   apply seqQ_n
   refine AWp.ghost (mp [] [(4, (pt 1004)), (5, (i6 r11.2))] [(500, some (.know (globF 0 [50, 52, 133]))), (501, some (.know (globF 1 [71, 134, 135]))), (1004, bd 25 (e_api_Resources r11.1))] hB) ?_
   apply AWp.ret
   obtain rfl := Option.some.inj h
   exact ⟨.inl rfl, _, _, (kp [(4, _), (5, _)] [(500, some _), (501, some _), (1004, some _)] hB rfl rfl (by rfl)), [(.d (e_api_Resources r11.1)), (i6 r11.2)], (Res.cell (c := (.d (e_api_Resources r11.1))) (by rfl) (by rfl) tyS25 (by rfl) (by rfl) (by rfl) (Res.tmp (by rfl) (by rfl) Res.nil)), rfl, by rfl, by rfl, by rfl⟩
 ·obtain ⟨r12, hr12, h⟩ := bindS h
  rcases Bool.eq_false_or_eq_true (!r12) with hg13 | hg13
  ·replace h := ite_t hg13 h
   refine AWp.region (oc (lb hN 25 (.d (e_api_Resources a0)) (.d (e_api_Resources a0)) tyS25 (At.here _) (ot 2 (pt 1002)))
    (oc (OpJ.callFn hB fnOk19 (resource_Valid_ac a0 r12 hr12) [(500, 500), (501, 501)] (by kernel_rfl) (L rfl) (by kernel_rfl) (OpdL.cons (ot 6 (.d (e_api_Resources a0))) OpdL.nil))
    (oc (OpJ.not (L rfl) (ot 7 (bo r12)))
    (oc (OpJ.val (v' := .d (.bool true)) (by rw [hg13] <;> rfl) (mv hN (ot 8 (bo (!r12)))))
    (oc (sU 9 (L rfl))
    (oc (sU 9 (L rfl))
    (oc (sU 9 (L rfl))
    (oc (OpJ.pickT (L rfl) (ot 9 (bo true)) (Opd.bool true))
    (OpJs.nil))))))))) (by rfl) (by rfl) ?_
   exact hjj6 _ h _ _ (mp [] _ _ hB)
  ·replace h := ite_f hg13 h
   obtain ⟨r14, hr14, h⟩ := bindS h
   refine AWp.region (oc (lb hN 25 (.d (e_api_Resources a0)) (.d (e_api_Resources a0)) tyS25 (At.here _) (ot 2 (pt 1002)))
    (oc (OpJ.callFn hB fnOk19 (resource_Valid_ac a0 r12 hr12) [(500, 500), (501, 501)] (by kernel_rfl) (L rfl) (by kernel_rfl) (OpdL.cons (ot 6 (.d (e_api_Resources a0))) OpdL.nil))
    (oc (OpJ.not (L rfl) (ot 7 (bo r12)))
    (oc (OpJ.val (v' := .d (.bool false)) (by rw [hg13] <;> rfl) (mv hN (ot 8 (bo (!r12)))))
    (oc (gd 9 (lb hN 25 (.d (e_api_Resources a1)) (.d (e_api_Resources a1)) tyS25 (At.here _) (ot 3 (pt 1003))))
    (oc (gd 9 (OpJ.callFn hB fnOk19 (resource_Valid_ac a1 r14 hr14) [(500, 500), (501, 501)] (by kernel_rfl) (L rfl) (by kernel_rfl) (OpdL.cons (ot 10 (.d (e_api_Resources a1))) OpdL.nil)))
    (oc (gd 9 (OpJ.not (L rfl) (ot 11 (bo r14))))
    (oc (OpJ.pickF (L rfl) (ot 9 (bo false)) (ot 12 (bo (!r14))))
    (OpJs.nil))))))))) (by rfl) (by rfl) ?_
   exact hjj6 _ h _ _ (mp [] _ _ hB)
noncomputable def exchangepointref21_before (a0 : api_Addr) : Option (api_Addr) :=
 jn (fun m2 : api_Addr =>
 some (api_Addr.mk m2.fV6 m2.fHi (IntKind.u64.wrap (m2.fLo - (1 : Int))))) (fun j3 =>
 (if (a0.fLo == (0 : Int)) = true then
 j3 (api_Addr.mk a0.fV6 (IntKind.u64.wrap (a0.fHi - (1 : Int))) a0.fLo)
 else
 j3 a0))
theorem exchangepointref21_before_ac (a0 : api_Addr) (r : api_Addr) (h : exchangepointref21_before a0 = some r) : AC Tryz.prog 66 [(.d (e_api_Addr a0))] [] (.d (e_api_Addr r)) [] := by
 refine AC.of_code2 Tryz.func66 rfl rfl (Nat.le_of_ble_eq_true (by rfl)) fun B hB hN => ?_
 delta exchangepointref21_before at h
 refine sr (cg (OpJ.box hB (nm := 1001) (by decide) (by simp) rfl (ltN hN rfl) (q 0)) rfl (cg (OpJ.alloc hB tyZ42 (nm := 1002) (by decide) (ltN hN rfl)) rfl cn)) ?_
 apply AWp.seq
 refine sr (c (fo 1001 2 [2] hN underlying42 2 tyS40 (q 1)) rfl (c (la hN 42 tyS40 (q 3)) rfl (c (OpJ.eqlI (ltN hN rfl) (q 4) (Opd.int .u64 (0))) rfl cn))) ?_
 refine gh [(1, _), (2, _), (5, _)] [(1001, some _), (1002, some _)] hB rfl rfl (by rfl) ?_
 refine AWp.cut h (fun m2 : api_Addr => ([(1, (pt 1001)), (2, (pt 1002))] : EL)) (fun m2 : api_Addr => ([(1001, bd 42 (e_api_Addr m2)), (1002, bd 42 (.st [(.bool false), (.int .u64 0), (.int .u64 0)]))] : OL)) (fun m2 h E' O' hmat => ?_) (fun j3 hjj3 h => ?_)
 ·apply seqQ_n
  refine AWp.ghost hmat ?_
  refine sr (c (fo 1001 2 [2] hN underlying42 2 tyS40 (q 1)) rfl (c (la hN 42 tyS40 (q 10)) rfl (c (OpJ.sub (ltN hN rfl) (q 11) (Opd.int .u64 (1))) rfl (c (fo 1001 2 [2] hN underlying42 2 tyS40 (q 1)) rfl (cg (OpJ.storeB tyS40 (SetAt.dst1 (by rfl) (by rfl) (SetAt.here _ _) (by rfl) (by rfl) (by first | rfl | omega)) (by rfl) (by rfl) (by simp) rfl (q 13) (q 12)) rfl cn))))) ?_
  refine sr (c (lb hN 42 _ _ tyS42 (At.here _) (q 1)) rfl (cg (sB tyS42 (q 2) (q 14)) rfl cn)) ?_
  apply AWp.ret
  obtain rfl := Option.some.inj h
  exact ⟨.inl rfl, _, _, (kp [(2, _)] [(1002, some _)] hB rfl rfl (by rfl)), [(.d (.st [(.bool m2.fV6), (.int .u64 m2.fHi), (.int .u64 (IntKind.u64.wrap (m2.fLo - (1 : Int))))]))], (Res.cell (c := (.d (.st [(.bool m2.fV6), (.int .u64 m2.fHi), (.int .u64 (IntKind.u64.wrap (m2.fLo - (1 : Int))))]))) (by rfl) (by rfl) tyS42 (by rfl) (by rfl) (by rfl) Res.nil), rfl, by rfl, by rfl, by rfl⟩
 ·refine AWp.cond rfl (fun hg4 => ?_) (fun hg4 => ?_)
  ·replace h := ite_t hg4 h
   refine rg (c (fo 1001 1 [1] hN underlying42 1 tyS40 (q 1)) rfl (c (la hN 42 tyS40 (q 6)) rfl (c (OpJ.sub (ltN hN rfl) (q 7) (Opd.int .u64 (1))) rfl (c (fo 1001 1 [1] hN underlying42 1 tyS40 (q 1)) rfl (cg (OpJ.storeB tyS40 (SetAt.dst1 (by rfl) (by rfl) (SetAt.here _ _) (by rfl) (by rfl) (by first | rfl | omega)) (by rfl) (by rfl) (by simp) rfl (q 9) (q 8)) rfl cn))))) ?_
   exact hjj3 _ h _ _ (mp [] _ _ hB)
  ·replace h := ite_f hg4 h
   apply AWp.skip
   exact hjj3 _ h _ _ (mp [] _ _ hB)
noncomputable def exchangepointref21_outside_L1 (a0 : (List api_Range)) (x196 : Bool) (s197 : Bool × Int × api_Addr × (List api_Range)) : Option (((Bool × api_Addr × (List api_Range))) ⊕ (Bool × Int × api_Addr × (List api_Range))) :=
 (if (decide (s197.2.1 < (a0.length : Int))) = true then
 jn (fun m266 : Bool × api_Addr × (List api_Range) =>
 some (.inr (m266.1, (w64 (s197.2.1 + (1 : Int))), m266.2.1, m266.2.2))) (fun j267 =>
 (idx a0 s197.2.1).bind fun x268 =>
 (if (x268.fFrom.fV6 != x196) = true then
 j267 (s197.1, s197.2.2.1, s197.2.2.2)
 else
 (exchangepointref01_Cmp s197.2.2.1 x268.fFrom).bind fun r270 =>
 jn (fun m274 : (List api_Range) =>
 (exchangepointref01_Next x268.fTo).bind fun r276 =>
 j267 (r276.2, r276.1, m274)) (fun j275 =>
 (if (decide (r270 < (0 : Int))) = true then
 (exchangepointref21_before x268.fFrom).bind fun r278 =>
 chk (decide ((s197.2.2.2 ++ ([(api_Range.mk s197.2.2.1 r278)] : List api_Range)).length ≤ LIM)) <|
 j275 (s197.2.2.2 ++ ([(api_Range.mk s197.2.2.1 r278)] : List api_Range))
 else
 j275 s197.2.2.2))))
 else
 some (.inl (s197.1, s197.2.2.1, s197.2.2.2)))
noncomputable def exchangepointref21_outside_L0 (a0 : (List api_Range)) (s1 : Int × (List api_Range)) : Option ((((List api_Range))) ⊕ (Int × (List api_Range))) :=
 (if (decide (s1.1 < (([false, true] : List Bool).length : Int))) = true then
 (idx ([false, true] : List Bool) s1.1).bind fun x196 =>
 (loop (exchangepointref21_outside_L1 a0 x196) (true, (0 : Int), (api_Addr.mk x196 (0 : Int) (0 : Int)), s1.2)).bind fun p252 =>
 jn (fun m285 : (List api_Range) =>
 some (.inr ((w64 (s1.1 + (1 : Int))), m285))) (fun j286 =>
 (if p252.1 = true then
 (exchangepointref02_Last (api_Prefix.mk (api_Addr.mk x196 (0 : Int) (0 : Int)) (0 : Int))).bind fun r288 =>
 chk (decide ((p252.2.2 ++ ([(api_Range.mk p252.2.1 r288)] : List api_Range)).length ≤ LIM)) <|
 j286 (p252.2.2 ++ ([(api_Range.mk p252.2.1 r288)] : List api_Range))
 else
 j286 p252.2.2))
 else
 some (.inl s1.2))
noncomputable def exchangepointref21_outside (a0 : (List api_Range)) : Option ((List api_Range)) :=
 (loop (exchangepointref21_outside_L0 a0) ((0 : Int), ([] : List api_Range))).bind fun p194 =>
 some p194
theorem exchangepointref21_outside_ac (a0 : (List api_Range)) (r : (List api_Range)) (h : exchangepointref21_outside a0 = some r) : AC Tryz.prog 41 [(.d (.list 6 (a0.map e_api_Range)))] [] (.d (.list 6 (r.map e_api_Range))) [] := by
 refine AC.of_code2 Tryz.func41 rfl rfl (Nat.le_of_ble_eq_true (by rfl)) fun B hB hN => ?_
 have L {d : Nat} (h : Nat.blt d Tryz.f41.ntmps = true) : d < B.N := ltN hN h
 delta exchangepointref21_outside at h
 refine sr (c (OpJ.assign (L rfl) Opd.nils) rfl cn) ?_
 refine sr (c (OpJ.assign (L rfl) Opd.nils) rfl cn) ?_
 apply AWp.seq
 refine sr (c (OpJ.buildSlice underlying109 tyS4 tyZD4 (by rfl) (by decide) (by decide) (Opds.cons (Opd.bool false) (Opds.cons (Opd.bool true) Opds.nil)) (by kernel_rfl) (es := ([(.bool false), (.bool true)] : List D)) (by rfl) (by rfl) (by kernel_rfl) (by simp) (L rfl)) rfl (c (OpJ.val (v' := (i6 (([false, true] : List Bool).length : Int))) (by simp) (OpJ.lenD underlying109 (L rfl) (q 10))) rfl (c (mv hN (Opd.int .i64 (0))) rfl cn))) ?_
 apply AWp.block
 obtain ⟨p194, hx291, h⟩ := bindS h
 refine lg (exchangepointref21_outside_L0 a0) (fun s1 : Int × (List api_Range) => ([(0, (qe_api_Range_6 a0)), (3, (.sref 3003 6 0 s1.2.length)), (10, (.d (.list 1 (([false, true] : List Bool).map eB)))), (11, (i6 (([false, true] : List Bool).length : Int))), (12, (i6 s1.1))] : EL)) (fun s1 : Int × (List api_Range) => ([(3003, some (we_api_Range_46_6 s1.2))] : OL)) (fun (p194 : ((List api_Range))) e E' O' => e = .exit 0 ∧ Mat B E' O' ([(3, (.sref 3003 6 0 p194.length))] : EL) ([(3003, some (we_api_Range_46_6 p194))] : OL)) hx291 (Mat.trans (Mat.beginP (n := 3003) (e := 46) (sz := 6) (Ts := [(3, (.sref 3003 6 0 0))]) (Bs := []) hB (by decide) (by rfl) (by decide) (TwT.cons (x := .nils) (by rfl) (Tw.leaf ⟨rfl, rfl⟩) TwT.nil) TwB.nil) (mp [] _ _ hB)) (fun s1 y h => ?_) (fun e E' O' hR => ?_)
 ·unfold exchangepointref21_outside_L0 at h
  refine sr (c (OpJ.lss (L rfl) (q 12) (q 11)) rfl cn) ?_
  apply AWp.seq
  refine AWp.cond rfl (fun hg195 => ?_) (fun hg195 => ?_)
  ·replace h := ite_t hg195 h
   apply AWp.skip
   apply seqQ_n
   apply AWp.seq
   apply AWp.block
   obtain ⟨x196, hx196, h⟩ := bindS h
   refine sr (c (OpJ.indexD underlying109 tyS4 (idx_some hx196).1 (get_map eB (idx_some hx196).2) (L rfl) (q 10) (q 12)) rfl (c (OpJ.loadD tyS4 (by rfl) (by rfl) (L rfl) (q 14)) rfl (c (OpJ.assign (L rfl) (q 15)) rfl cn))) ?_
   refine sr (c (mv hN (q 5)) rfl (c (OpJ.coe (v := (.st [(bo x196), (.d (.int .u64 0)), (.d (.int .u64 0))])) (y := (.st [(.bool x196), (.int .u64 0), (.int .u64 0)])) (Co.st (CoL.cons (Co.d _) (CoL.cons (Co.d _) (CoL.cons (Co.d _) CoL.nil)))) rfl (OpJ.build (places := [(0, 1), (1, 1), (2, 1)]) ⟨underlying42, fun w => by kernel_rfl⟩ tyZS42 (Opds.cons (q 16) Opds.nil) (by kernel_rfl) (r := (.st [(bo x196), (.d (.int .u64 0)), (.d (.int .u64 0))])) (by rfl) (L rfl))) rfl (cg (OpJ.alloc hB tyZ42 (nm := 1006) (by decide) (L rfl)) rfl (cg (sB tyS42 (q 6) (q 17)) rfl (c (OpJ.assign (L rfl) (Opd.bool true)) rfl cn))))) ?_
   apply AWp.seq
   refine sr (c (mv hN (q 0)) rfl (c (OpJ.val (v' := (i6 (a0.length : Int))) (by simp) (OpJ.lenD underlying22 (L rfl) (q 18))) rfl (c (mv hN (Opd.int .i64 (0))) rfl cn))) ?_
   apply AWp.block
   obtain ⟨p252, hx281, h⟩ := bindS h
   refine lg (exchangepointref21_outside_L1 a0 x196) (fun s197 : Bool × Int × api_Addr × (List api_Range) => ([(0, (qe_api_Range_6 a0)), (3, (.sref 3003 6 0 s197.2.2.2.length)), (5, (bo x196)), (6, (pt 1006)), (7, (bo s197.1)), (10, (.d (.list 1 (([false, true] : List Bool).map eB)))), (11, (i6 (([false, true] : List Bool).length : Int))), (12, (i6 s1.1)), (18, (qe_api_Range_6 a0)), (19, (i6 (a0.length : Int))), (20, (i6 s197.2.1))] : EL)) (fun s197 : Bool × Int × api_Addr × (List api_Range) => ([(1006, bd 42 (e_api_Addr s197.2.2.1)), (3003, some (we_api_Range_46_6 s197.2.2.2))] : OL)) (fun (p252 : (Bool × api_Addr × (List api_Range))) e E' O' => e = .exit 2 ∧ Mat B E' O' ([(0, (qe_api_Range_6 a0)), (3, (.sref 3003 6 0 p252.2.2.length)), (5, (bo x196)), (6, (pt 1006)), (7, (bo p252.1)), (10, (.d (.list 1 (([false, true] : List Bool).map eB)))), (11, (i6 (([false, true] : List Bool).length : Int))), (12, (i6 s1.1))] : EL) ([(1006, bd 42 (e_api_Addr p252.2.1)), (3003, some (we_api_Range_46_6 p252.2.2))] : OL)) hx281 (mp [] _ _ hB) (fun s197 y h => ?_) (fun e E' O' hR => ?_)
   ·unfold exchangepointref21_outside_L1 at h
    refine sr (c (OpJ.lss (L rfl) (q 20) (q 19)) rfl cn) ?_
    apply AWp.seq
    refine AWp.cond rfl (fun hg253 => ?_) (fun hg253 => ?_)
    ·replace h := ite_t hg253 h
     apply AWp.skip
     apply seqQ_n
     apply AWp.seq
     refine AWp.cut h (fun m266 : Bool × api_Addr × (List api_Range) => ([(0, (qe_api_Range_6 a0)), (3, (.sref 3003 6 0 m266.2.2.length)), (5, (bo x196)), (6, (pt 1006)), (7, (bo m266.1)), (10, (.d (.list 1 (([false, true] : List Bool).map eB)))), (11, (i6 (([false, true] : List Bool).length : Int))), (12, (i6 s1.1)), (18, (qe_api_Range_6 a0)), (19, (i6 (a0.length : Int))), (20, (i6 s197.2.1))] : EL)) (fun m266 : Bool × api_Addr × (List api_Range) => ([(1006, bd 42 (e_api_Addr m266.2.1)), (3003, some (we_api_Range_46_6 m266.2.2))] : OL)) (fun m266 h E' O' hmat => ?_) (fun j267 hjj267 h => ?_)
     ·apply seqQ_n
      refine AWp.ghost hmat ?_
      refine rg (c (add6 (L rfl) (q 20) (Opd.int .i64 (1))) rfl (c (mv hN (q 48)) rfl cn)) ?_
      obtain rfl := Option.some.inj h
      exact ⟨rfl, (mp [] _ _ hB)⟩
     ·apply AWp.block
      obtain ⟨x268, hx268, h⟩ := bindS h
      refine sr (c (OpJ.indexD underlying22 tyS46 (idx_some hx268).1 (get_map e_api_Range (idx_some hx268).2) (L rfl) (q 18) (q 20)) rfl (c (OpJ.loadD tyS46 (by rfl) (by rfl) (L rfl) (q 22)) rfl (cg (OpJ.alloc hB tyZ46 (nm := 1009) (by decide) (L rfl)) rfl (cg (sB tyS46 (q 9) (q 23)) rfl cn)))) ?_
      apply AWp.seq
      refine sr (c (fo 1009 0 [0] hN underlying46 0 tyS42 (q 9)) rfl (c (fo 1009 0 [0, 0] hN underlying42 0 tyS4 (q 24)) rfl (c (lb hN 46 _ _ tyS4 (At.dst1 (by rfl) (by rfl) (ad _) (by first | rfl | omega)) (q 25)) rfl (c (mv hN (q 5)) rfl (c (OpJ.neqB underlying4 (L rfl) (q 26) (q 27)) rfl cn))))) ?_
      refine AWp.cond rfl (fun hg269 => ?_) (fun hg269 => ?_)
      ·replace h := ite_t hg269 h
       apply AWp.exit
       apply seqQ_e
       apply blkQ_hit
       exact hjj267 _ h _ _ (mp [] _ _ hB)
      ·replace h := ite_f hg269 h
       apply AWp.skip
       apply seqQ_n
       apply AWp.seq
       obtain ⟨r270, hr270, h⟩ := bindS h
       refine sr (c (lb hN 42 _ _ tyS42 (At.here _) (q 6)) rfl (c (fo 1009 0 [0] hN underlying46 0 tyS42 (q 9)) rfl (c (la hN 46 tyS42 (q 30)) rfl (cg (cf hB fnOk40 (exchangepointref01_Cmp_ac s197.2.2.1 x268.fFrom r270 hr270) (L rfl) (OpdL.cons (q 29) (OpdL.cons (q 31) OpdL.nil))) rfl (c (OpJ.lss (L rfl) (q 32) (Opd.int .i64 (0))) rfl cn))))) ?_
       refine gh [(0, _), (3, _), (5, _), (6, _), (9, _), (10, _), (11, _), (12, _), (18, _), (19, _), (20, _), (33, _)] [(1006, some _), (1009, some _), (3003, some _)] hB rfl rfl (by rfl) ?_
       refine AWp.cut h (fun m274 : (List api_Range) => ([(0, (qe_api_Range_6 a0)), (3, (.sref 3003 6 0 m274.length)), (5, (bo x196)), (6, (pt 1006)), (9, (pt 1009)), (10, (.d (.list 1 (([false, true] : List Bool).map eB)))), (11, (i6 (([false, true] : List Bool).length : Int))), (12, (i6 s1.1)), (18, (qe_api_Range_6 a0)), (19, (i6 (a0.length : Int))), (20, (i6 s197.2.1))] : EL)) (fun m274 : (List api_Range) => ([(1006, bd 42 (e_api_Addr s197.2.2.1)), (1009, bd 46 (e_api_Range x268)), (3003, some (we_api_Range_46_6 m274))] : OL)) (fun m274 h E' O' hmat => ?_) (fun j275 hjj275 h => ?_)
       ·apply seqQ_n
        refine AWp.ghost hmat ?_
        obtain ⟨r276, hr276, h⟩ := bindS h
        refine rg (c (fo 1009 3 [1] hN underlying46 3 tyS42 (q 9)) rfl (c (la hN 46 tyS42 (q 43)) rfl (cg (cf hB fnOk21 (exchangepointref01_Next_ac x268.fTo r276 hr276) (L rfl) (OpdL.cons (q 44) OpdL.nil)) rfl (c (mv hN (q 45)) rfl (c (OpJ.extract (by rfl) rfl (L rfl) (q 42)) rfl (c (OpJ.extract (by rfl) rfl (L rfl) (q 42)) rfl (cg (sB tyS42 (q 6) (q 46)) rfl (c (OpJ.assign (L rfl) (q 47)) rfl cn)))))))) ?_
        apply blkQ_n
        exact hjj267 _ h _ _ (mp [] _ _ hB)
       ·refine AWp.cond rfl (fun hg277 => ?_) (fun hg277 => ?_)
        ·replace h := ite_t hg277 h
         obtain ⟨r278, hr278, h⟩ := bindS h
         obtain ⟨hc279, h⟩ := chk_some h
         refine dr (c (mv hN (q 3)) rfl (c (lb hN 42 _ _ tyS42 (At.here _) (q 6)) rfl (c (fo 1009 0 [0] hN underlying46 0 tyS42 (q 9)) rfl (c (la hN 46 tyS42 (q 36)) rfl (cg (cf hB fnOk66 (exchangepointref21_before_ac x268.fFrom r278 hr278) (L rfl) (OpdL.cons (q 37) OpdL.nil)) rfl (c (OpJ.coe (v := (.st [(.d (e_api_Addr s197.2.2.1)), (.d (e_api_Addr r278))])) (y := (.st [(e_api_Addr s197.2.2.1), (e_api_Addr r278)])) (Co.st (CoL.cons (Co.d _) (CoL.cons (Co.d _) CoL.nil))) rfl (OpJ.build (places := [(0, 3), (3, 3)]) ⟨underlying46, fun w => by kernel_rfl⟩ tyZS46 (Opds.cons (q 35) (Opds.cons (q 38) Opds.nil)) (by kernel_rfl) (r := (.st [(.d (e_api_Addr s197.2.2.1)), (.d (e_api_Addr r278))])) (by rfl) (L rfl))) rfl (c (OpJ.buildSlice underlying22 tyS46 tyZD46 (by rfl) (by decide) (by decide) (Opds.cons (q 39) Opds.nil) (by kernel_rfl) (es := ([(.st [(e_api_Addr s197.2.2.1), (e_api_Addr r278)])] : List D)) (by rfl) (by rfl) (by kernel_rfl) (by simp) (L rfl)) rfl (cg (apd hB underlying22 tyE46 1041 e_api_Range s197.2.2.2 ([(api_Range.mk s197.2.2.1 r278)] : List api_Range) hc279 (L rfl) (q 34) (q 40)) rfl (c (OpJ.assign (L rfl) (q 41)) rfl cn))))))))) (by kernel_rfl) (by kernel_rfl) ?_
         exact hjj275 _ h _ _ (mp [(3003, 1041)] _ _ hB)
        ·replace h := ite_f hg277 h
         apply AWp.skip
         exact hjj275 _ h _ _ (mp [] _ _ hB)
    ·replace h := ite_f hg253 h
     apply AWp.exit
     apply seqQ_e
     obtain rfl := Option.some.inj h
     exact ⟨(fun hc => by cases hc), rfl, (mp [] _ _ hB)⟩
   ·obtain ⟨rfl, hmat⟩ := hR
    apply blkQ_hit
    apply seqQ_n
    refine AWp.ghost hmat ?_
    refine sr (c (mv hN (q 7)) rfl cn) ?_
    refine gh [(0, _), (3, _), (5, _), (6, _), (10, _), (11, _), (12, _), (49, _)] [(1006, some _), (3003, some _)] hB rfl rfl (by rfl) ?_
    refine AWp.cut h (fun m285 : (List api_Range) => ([(0, (qe_api_Range_6 a0)), (3, (.sref 3003 6 0 m285.length)), (10, (.d (.list 1 (([false, true] : List Bool).map eB)))), (11, (i6 (([false, true] : List Bool).length : Int))), (12, (i6 s1.1))] : EL)) (fun m285 : (List api_Range) => ([(3003, some (we_api_Range_46_6 m285))] : OL)) (fun m285 h E' O' hmat => ?_) (fun j286 hjj286 h => ?_)
    ·apply blkQ_n
     apply seqQ_n
     refine AWp.ghost hmat ?_
     refine rg (c (add6 (L rfl) (q 12) (Opd.int .i64 (1))) rfl (c (mv hN (q 59)) rfl cn)) ?_
     obtain rfl := Option.some.inj h
     exact ⟨rfl, (mp [] _ _ hB)⟩
    ·refine AWp.cond rfl (fun hg287 => ?_) (fun hg287 => ?_)
     ·replace h := ite_t hg287 h
      obtain ⟨r288, hr288, h⟩ := bindS h
      obtain ⟨hc289, h⟩ := chk_some h
      refine dr (c (mv hN (q 3)) rfl (c (lb hN 42 _ _ tyS42 (At.here _) (q 6)) rfl (c (mv hN (q 5)) rfl (c (OpJ.coe (v := (.st [(bo x196), (.d (.int .u64 0)), (.d (.int .u64 0))])) (y := (.st [(.bool x196), (.int .u64 0), (.int .u64 0)])) (Co.st (CoL.cons (Co.d _) (CoL.cons (Co.d _) (CoL.cons (Co.d _) CoL.nil)))) rfl (OpJ.build (places := [(0, 1), (1, 1), (2, 1)]) ⟨underlying42, fun w => by kernel_rfl⟩ tyZS42 (Opds.cons (q 52) Opds.nil) (by kernel_rfl) (r := (.st [(bo x196), (.d (.int .u64 0)), (.d (.int .u64 0))])) (by rfl) (L rfl))) rfl (c (OpJ.coe (v := (.st [(.d (.st [(.bool x196), (.int .u64 0), (.int .u64 0)])), (i6 0)])) (y := (.st [(.st [(.bool x196), (.int .u64 0), (.int .u64 0)]), (.int .i64 0)])) (Co.st (CoL.cons (Co.d _) (CoL.cons (Co.d _) CoL.nil))) rfl (OpJ.build (places := [(0, 3), (3, 1)]) ⟨underlying56, fun w => by kernel_rfl⟩ tyZS56 (Opds.cons (q 53) Opds.nil) (by kernel_rfl) (r := (.st [(.d (.st [(.bool x196), (.int .u64 0), (.int .u64 0)])), (i6 0)])) (by rfl) (L rfl))) rfl (cg (cf hB fnOk56 (exchangepointref02_Last_ac (api_Prefix.mk (api_Addr.mk x196 (0 : Int) (0 : Int)) (0 : Int)) r288 hr288) (L rfl) (OpdL.cons (q 54) OpdL.nil)) rfl (c (OpJ.coe (v := (.st [(.d (e_api_Addr p252.2.1)), (.d (e_api_Addr r288))])) (y := (.st [(e_api_Addr p252.2.1), (e_api_Addr r288)])) (Co.st (CoL.cons (Co.d _) (CoL.cons (Co.d _) CoL.nil))) rfl (OpJ.build (places := [(0, 3), (3, 3)]) ⟨underlying46, fun w => by kernel_rfl⟩ tyZS46 (Opds.cons (q 51) (Opds.cons (q 55) Opds.nil)) (by kernel_rfl) (r := (.st [(.d (e_api_Addr p252.2.1)), (.d (e_api_Addr r288))])) (by rfl) (L rfl))) rfl (c (OpJ.buildSlice underlying22 tyS46 tyZD46 (by rfl) (by decide) (by decide) (Opds.cons (q 56) Opds.nil) (by kernel_rfl) (es := ([(.st [(e_api_Addr p252.2.1), (e_api_Addr r288)])] : List D)) (by rfl) (by rfl) (by kernel_rfl) (by simp) (L rfl)) rfl (cg (apd hB underlying22 tyE46 1058 e_api_Range p252.2.2 ([(api_Range.mk p252.2.1 r288)] : List api_Range) hc289 (L rfl) (q 50) (q 57)) rfl (c (OpJ.assign (L rfl) (q 58)) rfl cn)))))))))) (by kernel_rfl) (by kernel_rfl) ?_
      exact hjj286 _ h _ _ (mp [(3003, 1058)] _ _ hB)
     ·replace h := ite_f hg287 h
      apply AWp.skip
      exact hjj286 _ h _ _ (mp [] _ _ hB)
  ·replace h := ite_f hg195 h
   apply AWp.exit
   apply seqQ_e
   obtain rfl := Option.some.inj h
   exact ⟨(fun hc => by cases hc), rfl, (mp [] _ _ hB)⟩
 ·obtain ⟨rfl, hmat⟩ := hR
  apply blkQ_hit
  apply seqQ_n
  refine AWp.ghost hmat ?_
  refine sr (c (mv hN (q 3)) rfl (c (OpJ.assign (L rfl) (q 60)) rfl cn)) ?_
  apply AWp.ret
  obtain rfl := Option.some.inj h
  exact ⟨.inl rfl, _, _, (Mat.trans (Mat.freezeP (n := 3003) (e := 46) (sz := 6) (es := p194.map e_api_Range) (Ts := [(2, (qe_api_Range_6 p194))]) (Bs := []) (by rfl) (TwT.cons (x := (.sref 3003 6 0 p194.length)) (by rfl) (FrzL.all (by first | rfl | (simp; done) | (simp; omega) | omega)) TwT.nil) TwB.nil) (mp [] [(2, (qe_api_Range_6 p194))] [] hB)), [(qe_api_Range_6 p194)], (Res.tmp (by rfl) (by rfl) Res.nil), rfl, by rfl, by rfl, by rfl⟩
noncomputable def exchangepointref21_Minus_L0 (a1 : api_Resources) (s9 : Int × Int × (List api_Span)) : Option (((Int × (List api_Span))) ⊕ (Int × Int × (List api_Span))) :=
 (if (decide (s9.2.1 < (a1.fASNs.length : Int))) = true then
 (idx a1.fASNs s9.2.1).bind fun x28 =>
 jn (fun m31 : (List api_Span) =>
 some (.inr ((w64 (x28.fTo + (1 : Int))), (w64 (s9.2.1 + (1 : Int))), m31))) (fun j32 =>
 (if (decide (s9.1 < x28.fFrom)) = true then
 chk (decide ((s9.2.2 ++ ([(api_Span.mk s9.1 (w64 (x28.fFrom - (1 : Int))))] : List api_Span)).length ≤ LIM)) <|
 j32 (s9.2.2 ++ ([(api_Span.mk s9.1 (w64 (x28.fFrom - (1 : Int))))] : List api_Span))
 else
 j32 s9.2.2))
 else
 some (.inl (s9.1, s9.2.2)))
noncomputable def exchangepointref21_Minus_L2 (r8 : (List api_Range)) (x154 : api_Range) (s155 : Int × (List api_Range)) : Option ((((List api_Range))) ⊕ (Int × (List api_Range))) :=
 (if (decide (s155.1 < (r8.length : Int))) = true then
 (idx r8 s155.1).bind fun x190 =>
 (exchangepointref21_greater x154.fFrom x190.fFrom).bind fun r191 =>
 (exchangepointref21_lesser x154.fTo x190.fTo).bind fun r192 =>
 jn (fun m195 : Bool =>
 jn (fun m199 : (List api_Range) =>
 some (.inr ((w64 (s155.1 + (1 : Int))), m199))) (fun j200 =>
 (if m195 = true then
 chk (decide ((s155.2 ++ ([(api_Range.mk r191 r192)] : List api_Range)).length ≤ LIM)) <|
 j200 (s155.2 ++ ([(api_Range.mk r191 r192)] : List api_Range))
 else
 j200 s155.2))) (fun j196 =>
 (if (x154.fFrom.fV6 == x190.fFrom.fV6) = true then
 (exchangepointref01_Cmp r191 r192).bind fun r204 =>
 j196 (decide (r204 ≤ (0 : Int)))
 else
 j196 false))
 else
 some (.inl s155.2))
noncomputable def exchangepointref21_Minus_L1 (a0 : api_Resources) (r8 : (List api_Range)) (s41 : Int × (List api_Range)) : Option ((((List api_Range))) ⊕ (Int × (List api_Range))) :=
 (if (decide (s41.1 < (a0.fAddrs.length : Int))) = true then
 (idx a0.fAddrs s41.1).bind fun x154 =>
 (loop (exchangepointref21_Minus_L2 r8 x154) ((0 : Int), s41.2)).bind fun p188 =>
 some (.inr ((w64 (s41.1 + (1 : Int))), p188))
 else
 some (.inl s41.2))
noncomputable def exchangepointref21_Minus_L4 (m39 : (List api_Span)) (x280 : api_Span) (s281 : Int × (List api_Span)) : Option ((((List api_Span))) ⊕ (Int × (List api_Span))) :=
 (if (decide (s281.1 < (m39.length : Int))) = true then
 (idx m39 s281.1).bind fun x302 =>
 (idx m39 s281.1).bind fun x303 =>
 jn (fun m306 : (List api_Span) =>
 some (.inr ((w64 (s281.1 + (1 : Int))), m306))) (fun j307 =>
 (if (decide ((maxI x280.fFrom x303.fFrom) ≤ (minI x280.fTo x303.fTo))) = true then
 chk (decide ((s281.2 ++ ([(api_Span.mk (maxI x280.fFrom x303.fFrom) (minI x280.fTo x303.fTo))] : List api_Span)).length ≤ LIM)) <|
 j307 (s281.2 ++ ([(api_Span.mk (maxI x280.fFrom x303.fFrom) (minI x280.fTo x303.fTo))] : List api_Span))
 else
 j307 s281.2))
 else
 some (.inl s281.2))
noncomputable def exchangepointref21_Minus_L3 (a0 : api_Resources) (m39 : (List api_Span)) (s209 : Int × (List api_Span)) : Option ((((List api_Span))) ⊕ (Int × (List api_Span))) :=
 (if (decide (s209.1 < (a0.fASNs.length : Int))) = true then
 (idx a0.fASNs s209.1).bind fun x280 =>
 (loop (exchangepointref21_Minus_L4 m39 x280) ((0 : Int), s209.2)).bind fun p300 =>
 some (.inr ((w64 (s209.1 + (1 : Int))), p300))
 else
 some (.inl s209.2))
noncomputable def exchangepointref21_Minus (a0 : api_Resources) (a1 : api_Resources) : Option (api_Resources × Int) :=
 jn (fun m5 : Bool =>
 (if m5 = true then
 some ((api_Resources.mk ([] : List api_Range) ([] : List api_Span)), (1 : Int))
 else
 (exchangepointref21_outside a1.fAddrs).bind fun r8 =>
 (loop (exchangepointref21_Minus_L0 a1) ((0 : Int), (0 : Int), ([] : List api_Span))).bind fun p26 =>
 jn (fun m39 : (List api_Span) =>
 (loop (exchangepointref21_Minus_L1 a0 r8) ((0 : Int), ([] : List api_Range))).bind fun p152 =>
 (loop (exchangepointref21_Minus_L3 a0 m39) ((0 : Int), ([] : List api_Span))).bind fun p278 =>
 (exchangepointref21_limited p152 p278).bind fun r314 =>
 some (r314.1, r314.2)) (fun j40 =>
 (if (decide (p26.1 ≤ (4294967295 : Int))) = true then
 chk (decide ((p26.2 ++ ([(api_Span.mk p26.1 (4294967295 : Int))] : List api_Span)).length ≤ LIM)) <|
 j40 (p26.2 ++ ([(api_Span.mk p26.1 (4294967295 : Int))] : List api_Span))
 else
 j40 p26.2)))) (fun j6 =>
 (exchangepointref21_Valid a0).bind fun r317 =>
 (if (!r317) = true then
 j6 true
 else
 (exchangepointref21_Valid a1).bind fun r319 =>
 j6 (!r319)))
theorem exchangepointref21_Minus_ac (a0 : api_Resources) (a1 : api_Resources) (r : api_Resources × Int) (h : exchangepointref21_Minus a0 a1 = some r) : AC Tryz.prog 15 [(.d (e_api_Resources a0)), (.d (e_api_Resources a1))] [] (.tup [(.d (e_api_Resources r.1)), (.d (.int .i64 r.2))]) [] := by
 refine AC.of_code2 Tryz.func15 rfl rfl (Nat.le_of_ble_eq_true (by rfl)) fun B hB hN => ?_
 have L {d : Nat} (h : Nat.blt d Tryz.f15.ntmps = true) : d < B.N := ltN hN h
 delta exchangepointref21_Minus at h
 refine sr (cg (OpJ.box hB (nm := 1002) (by decide) (by simp) rfl (L rfl) (q 0)) rfl (cg (OpJ.box hB (nm := 1003) (by decide) (by simp) rfl (L rfl) (q 1)) rfl (cg (OpJ.alloc hB tyZ25 (nm := 1004) (by decide) (L rfl)) rfl (c (OpJ.assign (L rfl) (Opd.int .i64 (0))) rfl cn)))) ?_
 apply AWp.seq
 apply AWp.seq
 refine AWp.cut h (fun m5 : Bool => ([(2, (pt 1002)), (3, (pt 1003)), (4, (pt 1004)), (31, (bo m5))] : EL)) (fun m5 : Bool => ([(1002, bd 25 (e_api_Resources a0)), (1003, bd 25 (e_api_Resources a1)), (1004, some (.box 25 (.st [.nils, .nils])))] : OL)) (fun m5 h E' O' hmat => ?_) (fun j6 hjj6 h => ?_)
 ·apply seqQ_n
  refine AWp.ghost hmat ?_
  refine AWp.cond rfl (fun hg7 => ?_) (fun hg7 => ?_)
  ·replace h := ite_t hg7 h
   refine sr (c (OpJ.build (places := [(0, 1), (1, 1)]) ⟨underlying25, fun w => by kernel_rfl⟩ tyZS25 Opds.nil (by kernel_rfl) (r := (.st [.nils, .nils])) (by rfl) (L rfl)) rfl (cg (sB tyS25 (q 4) (q 32)) rfl (c (OpJ.assign (L rfl) (Opd.int .i64 (1))) rfl cn))) ?_
   apply AWp.ret
   apply seqQ_r
   obtain rfl := Option.some.inj h
   exact ⟨.inl rfl, _, _, (Mat.trans (Mat.coeP (Ts := []) (Bs := [(1004, bd 25 (.st [(.list 6 (([] : List api_Range).map e_api_Range)), (.list 2 (([] : List api_Span).map e_api_Span))]))]) TwT.nil (TwB.cons (x := (.st [.nils, .nils])) (by rfl) (Tw.leaf ⟨_, (Co.st (CoL.cons (Co.nils 6) (CoL.cons (Co.nils 2) CoL.nil))), rfl⟩) TwB.nil)) (mp [] [(4, (pt 1004)), (5, (i6 1))] [(1004, bd 25 (.st [(.list 6 (([] : List api_Range).map e_api_Range)), (.list 2 (([] : List api_Span).map e_api_Span))]))] hB)), [(.d (.st [(.list 6 (([] : List api_Range).map e_api_Range)), (.list 2 (([] : List api_Span).map e_api_Span))])), (i6 1)], (Res.cell (c := (.d (.st [(.list 6 (([] : List api_Range).map e_api_Range)), (.list 2 (([] : List api_Span).map e_api_Span))]))) (by rfl) (by rfl) tyS25 (by rfl) (by rfl) (by rfl) (Res.tmp (by rfl) (by rfl) Res.nil)), rfl, by rfl, by rfl, by rfl⟩
  ·replace h := ite_f hg7 h
   apply AWp.skip
   apply seqQ_n
   obtain ⟨r8, hr8, h⟩ := bindS h
   refine sr (c (fo 1003 0 [0] hN underlying25 0 tyS22 (q 3)) rfl (c (la hN 25 tyS22 (q 33)) rfl (cg (cf hB fnOk41 (exchangepointref21_outside_ac a1.fAddrs r8 hr8) (L rfl) (OpdL.cons (q 34) OpdL.nil)) rfl (c (OpJ.build (places := [(0, 1), (1, 1)]) ⟨underlying25, fun w => by kernel_rfl⟩ tyZS25 (Opds.cons (q 35) Opds.nil) (by kernel_rfl) (r := (.st [(qe_api_Range_6 r8), .nils])) (by rfl) (L rfl)) rfl (cg (OpJ.alloc hB tyZ25 (nm := 1006) (by decide) (L rfl)) rfl (cg (sB tyS25 (q 6) (q 36)) rfl cn)))))) ?_
   refine sr (c (OpJ.assign (L rfl) (Opd.int .i64 (0))) rfl cn) ?_
   apply AWp.seq
   refine sr (c (fo 1003 1 [1] hN underlying25 1 tyS23 (q 3)) rfl (c (la hN 25 tyS23 (q 37)) rfl (c (OpJ.val (v' := (i6 (a1.fASNs.length : Int))) (by simp) (OpJ.lenD underlying23 (L rfl) (q 38))) rfl (c (mv hN (Opd.int .i64 (0))) rfl cn)))) ?_
   apply AWp.block
   obtain ⟨p26, hx36, h⟩ := bindS h
   refine lg (exchangepointref21_Minus_L0 a1) (fun s9 : Int × Int × (List api_Span) => ([(2, (pt 1002)), (4, (pt 1004)), (6, (pt 1006)), (7, (i6 s9.1)), (38, (qe_api_Span_2 a1.fASNs)), (39, (i6 (a1.fASNs.length : Int))), (40, (i6 s9.2.1))] : EL)) (fun s9 : Int × Int × (List api_Span) => ([(1002, bd 25 (e_api_Resources a0)), (1004, some (.box 25 (.st [.nils, .nils]))), (1006, some (.box 25 (.st [(qe_api_Range_6 r8), (.sref 13061 2 0 s9.2.2.length)]))), (13061, some (we_api_Span_62_2 s9.2.2))] : OL)) (fun (p26 : (Int × (List api_Span))) e E' O' => e = .exit 0 ∧ Mat B E' O' ([(2, (pt 1002)), (4, (pt 1004)), (6, (pt 1006)), (7, (i6 p26.1))] : EL) ([(1002, bd 25 (e_api_Resources a0)), (1004, some (.box 25 (.st [.nils, .nils]))), (1006, some (.box 25 (.st [(qe_api_Range_6 r8), (.sref 13061 2 0 p26.2.length)]))), (13061, some (we_api_Span_62_2 p26.2))] : OL)) hx36 (Mat.trans (Mat.beginP (n := 13061) (e := 62) (sz := 2) (Ts := []) (Bs := [(1006, some (.box 25 (.st [(qe_api_Range_6 r8), (.sref 13061 2 0 0)])))]) hB (by decide) (by rfl) (by decide) TwT.nil (TwB.cons (x := (.st [(qe_api_Range_6 r8), .nils])) (by rfl) (Tw.st (TwL.cons (Tw.same _) (TwL.cons (Tw.leaf ⟨rfl, rfl⟩) TwL.nil))) TwB.nil)) (mp [] _ _ hB)) (fun s9 y h => ?_) (fun e E' O' hR => ?_)
   ·unfold exchangepointref21_Minus_L0 at h
    refine sr (c (OpJ.lss (L rfl) (q 40) (q 39)) rfl cn) ?_
    apply AWp.seq
    refine AWp.cond rfl (fun hg27 => ?_) (fun hg27 => ?_)
    ·replace h := ite_t hg27 h
     apply AWp.skip
     apply seqQ_n
     apply AWp.seq
     apply AWp.block
     obtain ⟨x28, hx28, h⟩ := bindS h
     refine sr (c (OpJ.indexD underlying23 tyS62 (idx_some hx28).1 (get_map e_api_Span (idx_some hx28).2) (L rfl) (q 38) (q 40)) rfl (c (OpJ.loadD tyS62 (by rfl) (by rfl) (L rfl) (q 42)) rfl (cg (OpJ.alloc hB tyZ62 (nm := 1009) (by decide) (L rfl)) rfl (cg (sB tyS62 (q 9) (q 43)) rfl cn)))) ?_
     apply AWp.seq
     refine sr (c (mv hN (q 7)) rfl (c (fo 1009 0 [0] hN underlying62 0 tyS3 (q 9)) rfl (c (la hN 62 tyS3 (q 45)) rfl (c (OpJ.lss (L rfl) (q 44) (q 46)) rfl cn)))) ?_
     refine gh [(2, _), (4, _), (6, _), (7, _), (9, _), (38, _), (39, _), (40, _), (47, _)] [(1002, some _), (1004, some _), (1006, some _), (1009, some _), (13061, some _)] hB rfl rfl (by rfl) ?_
     refine AWp.cut h (fun m31 : (List api_Span) => ([(2, (pt 1002)), (4, (pt 1004)), (6, (pt 1006)), (9, (pt 1009)), (38, (qe_api_Span_2 a1.fASNs)), (39, (i6 (a1.fASNs.length : Int))), (40, (i6 s9.2.1))] : EL)) (fun m31 : (List api_Span) => ([(1002, bd 25 (e_api_Resources a0)), (1004, some (.box 25 (.st [.nils, .nils]))), (1006, some (.box 25 (.st [(qe_api_Range_6 r8), (.sref 13061 2 0 m31.length)]))), (1009, bd 62 (e_api_Span x28)), (13061, some (we_api_Span_62_2 m31))] : OL)) (fun m31 h E' O' hmat => ?_) (fun j32 hjj32 h => ?_)
     ·apply seqQ_n
      refine AWp.ghost hmat ?_
      refine rg (c (fo 1009 1 [1] hN underlying62 1 tyS3 (q 9)) rfl (c (la hN 62 tyS3 (q 58)) rfl (c (add6 (L rfl) (q 59) (Opd.int .i64 (1))) rfl (c (OpJ.assign (L rfl) (q 60)) rfl cn)))) ?_
      apply blkQ_n
      apply seqQ_n
      refine rg (c (add6 (L rfl) (q 40) (Opd.int .i64 (1))) rfl (c (mv hN (q 61)) rfl cn)) ?_
      obtain rfl := Option.some.inj h
      exact ⟨rfl, (mp [] _ _ hB)⟩
     ·refine AWp.cond rfl (fun hg33 => ?_) (fun hg33 => ?_)
      ·replace h := ite_t hg33 h
       obtain ⟨hc34, h⟩ := chk_some h
       refine rg (c (fo 1006 1 [1] hN underlying25 1 tyS23 (q 6)) rfl (c (lb hN 25 _ (.sref 13061 2 0 s9.2.2.length) tyS23 (At.st1 (f := (.sref 13061 2 0 s9.2.2.length)) (by rfl) (by rfl) (At.here _) (by first | rfl | omega)) (q 48)) rfl (c (mv hN (q 7)) rfl (c (fo 1009 0 [0] hN underlying62 0 tyS3 (q 9)) rfl (c (la hN 62 tyS3 (q 51)) rfl (c (sub6 (L rfl) (q 52) (Opd.int .i64 (1))) rfl (c (OpJ.coe (v := (.st [(i6 s9.1), (i6 (w64 (x28.fFrom - (1 : Int))))])) (y := (.st [(.int .i64 s9.1), (.int .i64 (w64 (x28.fFrom - (1 : Int))))])) (Co.st (CoL.cons (Co.d _) (CoL.cons (Co.d _) CoL.nil))) rfl (OpJ.build (places := [(0, 1), (1, 1)]) ⟨underlying62, fun w => by kernel_rfl⟩ tyZS62 (Opds.cons (q 50) (Opds.cons (q 53) Opds.nil)) (by kernel_rfl) (r := (.st [(i6 s9.1), (i6 (w64 (x28.fFrom - (1 : Int))))])) (by rfl) (L rfl))) rfl (c (OpJ.buildSlice underlying23 tyS62 tyZD62 (by rfl) (by decide) (by decide) (Opds.cons (q 54) Opds.nil) (by kernel_rfl) (es := ([(.st [(.int .i64 s9.1), (.int .i64 (w64 (x28.fFrom - (1 : Int))))])] : List D)) (by rfl) (by rfl) (by kernel_rfl) (by simp) (L rfl)) rfl (cg (apd hB underlying23 tyE62 1056 e_api_Span s9.2.2 ([(api_Span.mk s9.1 (w64 (x28.fFrom - (1 : Int))))] : List api_Span) hc34 (L rfl) (q 49) (q 55)) rfl (c (fo 1006 1 [1] hN underlying25 1 tyS23 (q 6)) rfl (cg (OpJ.storeB (c' := (.st [(qe_api_Range_6 r8), (.sref 1056 2 0 ((s9.2.2 ++ ([(api_Span.mk s9.1 (w64 (x28.fFrom - (1 : Int))))] : List api_Span)).length))])) tyS23 (SetAt.st1 (f := (.sref 13061 2 0 s9.2.2.length)) (by rfl) (by rfl) (SetAt.here _ _) (by rfl) (by rfl) (by first | rfl | omega)) (by rfl) (by rfl) (by simp) rfl (q 57) (q 56)) rfl cn))))))))))) ?_
       exact hjj32 _ h _ _ (mp [(13061, 1056)] _ _ hB)
      ·replace h := ite_f hg33 h
       apply AWp.skip
       exact hjj32 _ h _ _ (mp [] _ _ hB)
    ·replace h := ite_f hg27 h
     apply AWp.exit
     apply seqQ_e
     obtain rfl := Option.some.inj h
     exact ⟨(fun hc => by cases hc), rfl, (mp [] _ _ hB)⟩
   ·obtain ⟨rfl, hmat⟩ := hR
    apply blkQ_hit
    apply seqQ_n
    refine AWp.ghost hmat ?_
    apply AWp.seq
    refine sr (c (mv hN (q 7)) rfl (c (OpJ.leq (L rfl) (q 62) (Opd.int .i64 (4294967295))) rfl cn)) ?_
    refine gh [(2, _), (4, _), (6, _), (7, _), (63, _)] [(1002, some _), (1004, some _), (1006, some _), (13061, some _)] hB rfl rfl (by rfl) ?_
    refine AWp.cut h (fun m39 : (List api_Span) => ([(2, (pt 1002)), (4, (pt 1004)), (6, (pt 1006))] : EL)) (fun m39 : (List api_Span) => ([(1002, bd 25 (e_api_Resources a0)), (1004, some (.box 25 (.st [.nils, .nils]))), (1006, some (.box 25 (.st [(qe_api_Range_6 r8), (.sref 13061 2 0 m39.length)]))), (13061, some (we_api_Span_62_2 m39))] : OL)) (fun m39 h E' O' hmat => ?_) (fun j40 hjj40 h => ?_)
    ·apply seqQ_n
     refine AWp.ghost hmat ?_
     refine sr (c (OpJ.assign (L rfl) Opd.nils) rfl cn) ?_
     apply AWp.seq
     refine sr (c (fo 1002 0 [0] hN underlying25 0 tyS22 (q 2)) rfl (c (la hN 25 tyS22 (q 71)) rfl (c (OpJ.val (v' := (i6 (a0.fAddrs.length : Int))) (by simp) (OpJ.lenD underlying22 (L rfl) (q 72))) rfl (c (mv hN (Opd.int .i64 (0))) rfl cn)))) ?_
     apply AWp.block
     obtain ⟨p152, hx208, h⟩ := bindS h
     refine lg (exchangepointref21_Minus_L1 a0 r8) (fun s41 : Int × (List api_Range) => ([(2, (pt 1002)), (4, (pt 1004)), (6, (pt 1006)), (10, (.sref 3010 6 0 s41.2.length)), (72, (qe_api_Range_6 a0.fAddrs)), (73, (i6 (a0.fAddrs.length : Int))), (74, (i6 s41.1))] : EL)) (fun s41 : Int × (List api_Range) => ([(1002, bd 25 (e_api_Resources a0)), (1004, some (.box 25 (.st [.nils, .nils]))), (1006, some (.box 25 (.st [(qe_api_Range_6 r8), (.sref 13061 2 0 m39.length)]))), (3010, some (we_api_Range_46_6 s41.2)), (13061, some (we_api_Span_62_2 m39))] : OL)) (fun (p152 : ((List api_Range))) e E' O' => e = .exit 2 ∧ Mat B E' O' ([(2, (pt 1002)), (4, (pt 1004)), (6, (pt 1006)), (10, (.sref 3010 6 0 p152.length))] : EL) ([(1002, bd 25 (e_api_Resources a0)), (1004, some (.box 25 (.st [.nils, .nils]))), (1006, some (.box 25 (.st [(qe_api_Range_6 r8), (.sref 13061 2 0 m39.length)]))), (3010, some (we_api_Range_46_6 p152)), (13061, some (we_api_Span_62_2 m39))] : OL)) hx208 (Mat.trans (Mat.beginP (n := 3010) (e := 46) (sz := 6) (Ts := [(10, (.sref 3010 6 0 0))]) (Bs := []) hB (by decide) (by rfl) (by decide) (TwT.cons (x := .nils) (by rfl) (Tw.leaf ⟨rfl, rfl⟩) TwT.nil) TwB.nil) (mp [] _ _ hB)) (fun s41 y h => ?_) (fun e E' O' hR => ?_)
     ·unfold exchangepointref21_Minus_L1 at h
      refine sr (c (OpJ.lss (L rfl) (q 74) (q 73)) rfl cn) ?_
      apply AWp.seq
      refine AWp.cond rfl (fun hg153 => ?_) (fun hg153 => ?_)
      ·replace h := ite_t hg153 h
       apply AWp.skip
       apply seqQ_n
       apply AWp.seq
       apply AWp.block
       obtain ⟨x154, hx154, h⟩ := bindS h
       refine sr (c (OpJ.indexD underlying22 tyS46 (idx_some hx154).1 (get_map e_api_Range (idx_some hx154).2) (L rfl) (q 72) (q 74)) rfl (c (OpJ.loadD tyS46 (by rfl) (by rfl) (L rfl) (q 76)) rfl (cg (OpJ.alloc hB tyZ46 (nm := 1012) (by decide) (L rfl)) rfl (cg (sB tyS46 (q 12) (q 77)) rfl cn)))) ?_
       refine sr (c (fo 1006 0 [0] hN underlying25 0 tyS22 (q 6)) rfl (c (lb hN 25 _ (qe_api_Range_6 r8) tyS22 (At.st1 (f := (qe_api_Range_6 r8)) (by rfl) (by rfl) (At.here _) (by first | rfl | omega)) (q 78)) rfl (c (OpJ.val (v' := (i6 (r8.length : Int))) (by simp) (OpJ.lenD underlying22 (L rfl) (q 79))) rfl (c (mv hN (Opd.int .i64 (0))) rfl cn)))) ?_
       apply AWp.block
       obtain ⟨p188, hx206, h⟩ := bindS h
       refine lg (exchangepointref21_Minus_L2 r8 x154) (fun s155 : Int × (List api_Range) => ([(2, (pt 1002)), (4, (pt 1004)), (6, (pt 1006)), (10, (.sref 3010 6 0 s155.2.length)), (12, (pt 1012)), (72, (qe_api_Range_6 a0.fAddrs)), (73, (i6 (a0.fAddrs.length : Int))), (74, (i6 s41.1)), (79, (qe_api_Range_6 r8)), (80, (i6 (r8.length : Int))), (81, (i6 s155.1))] : EL)) (fun s155 : Int × (List api_Range) => ([(1002, bd 25 (e_api_Resources a0)), (1004, some (.box 25 (.st [.nils, .nils]))), (1006, some (.box 25 (.st [(qe_api_Range_6 r8), (.sref 13061 2 0 m39.length)]))), (1012, bd 46 (e_api_Range x154)), (3010, some (we_api_Range_46_6 s155.2)), (13061, some (we_api_Span_62_2 m39))] : OL)) (fun (p188 : ((List api_Range))) e E' O' => e = .exit 4 ∧ Mat B E' O' ([(2, (pt 1002)), (4, (pt 1004)), (6, (pt 1006)), (10, (.sref 3010 6 0 p188.length)), (72, (qe_api_Range_6 a0.fAddrs)), (73, (i6 (a0.fAddrs.length : Int))), (74, (i6 s41.1))] : EL) ([(1002, bd 25 (e_api_Resources a0)), (1004, some (.box 25 (.st [.nils, .nils]))), (1006, some (.box 25 (.st [(qe_api_Range_6 r8), (.sref 13061 2 0 m39.length)]))), (3010, some (we_api_Range_46_6 p188)), (13061, some (we_api_Span_62_2 m39))] : OL)) hx206 (mp [] _ _ hB) (fun s155 y h => ?_) (fun e E' O' hR => ?_)
       ·unfold exchangepointref21_Minus_L2 at h
        refine sr (c (OpJ.lss (L rfl) (q 81) (q 80)) rfl cn) ?_
        apply AWp.seq
        refine AWp.cond rfl (fun hg189 => ?_) (fun hg189 => ?_)
        ·replace h := ite_t hg189 h
         apply AWp.skip
         apply seqQ_n
         apply AWp.seq
         apply AWp.block
         obtain ⟨x190, hx190, h⟩ := bindS h
         refine sr (c (OpJ.indexD underlying22 tyS46 (idx_some hx190).1 (get_map e_api_Range (idx_some hx190).2) (L rfl) (q 79) (q 81)) rfl (c (OpJ.loadD tyS46 (by rfl) (by rfl) (L rfl) (q 83)) rfl (cg (OpJ.alloc hB tyZ46 (nm := 1014) (by decide) (L rfl)) rfl (cg (sB tyS46 (q 14) (q 84)) rfl cn)))) ?_
         obtain ⟨r191, hr191, h⟩ := bindS h
         obtain ⟨r192, hr192, h⟩ := bindS h
         refine sd (c (fo 1012 0 [0] hN underlying46 0 tyS42 (q 12)) rfl (c (la hN 46 tyS42 (q 85)) rfl (c (fo 1014 0 [0] hN underlying46 0 tyS42 (q 14)) rfl (c (la hN 46 tyS42 (q 87)) rfl (cg (cf hB fnOk38 (exchangepointref21_greater_ac x154.fFrom x190.fFrom r191 hr191) (L rfl) (OpdL.cons (q 86) (OpdL.cons (q 88) OpdL.nil))) rfl (c (fo 1012 3 [1] hN underlying46 3 tyS42 (q 12)) rfl (c (la hN 46 tyS42 (q 90)) rfl (c (fo 1014 3 [1] hN underlying46 3 tyS42 (q 14)) rfl (c (la hN 46 tyS42 (q 92)) rfl (cg (cf hB fnOk39 (exchangepointref21_lesser_ac x154.fTo x190.fTo r192 hr192) (L rfl) (OpdL.cons (q 91) (OpdL.cons (q 93) OpdL.nil))) rfl (cg (OpJ.alloc hB tyZ42 (nm := 1015) (by decide) (L rfl)) rfl (cg (OpJ.alloc hB tyZ42 (nm := 1016) (by decide) (L rfl)) rfl (cg (sB tyS42 (q 15) (q 89)) rfl (cg (sB tyS42 (q 16) (q 94)) rfl cn)))))))))))))) (by kernel_rfl) (by kernel_rfl) ?_
         apply AWp.seq
         refine AWp.cut h (fun m195 : Bool => ([(2, (pt 1002)), (4, (pt 1004)), (6, (pt 1006)), (10, (.sref 3010 6 0 s155.2.length)), (12, (pt 1012)), (15, (pt 1015)), (16, (pt 1016)), (72, (qe_api_Range_6 a0.fAddrs)), (73, (i6 (a0.fAddrs.length : Int))), (74, (i6 s41.1)), (79, (qe_api_Range_6 r8)), (80, (i6 (r8.length : Int))), (81, (i6 s155.1)), (107, (bo m195))] : EL)) (fun m195 : Bool => ([(1002, bd 25 (e_api_Resources a0)), (1004, some (.box 25 (.st [.nils, .nils]))), (1006, some (.box 25 (.st [(qe_api_Range_6 r8), (.sref 13061 2 0 m39.length)]))), (1012, bd 46 (e_api_Range x154)), (1015, bd 42 (e_api_Addr r191)), (1016, bd 42 (e_api_Addr r192)), (3010, some (we_api_Range_46_6 s155.2)), (13061, some (we_api_Span_62_2 m39))] : OL)) (fun m195 h E' O' hmat => ?_) (fun j196 hjj196 h => ?_)
         ·apply seqQ_n
          refine AWp.ghost hmat ?_
          refine AWp.cut h (fun m199 : (List api_Range) => ([(2, (pt 1002)), (4, (pt 1004)), (6, (pt 1006)), (10, (.sref 3010 6 0 m199.length)), (12, (pt 1012)), (72, (qe_api_Range_6 a0.fAddrs)), (73, (i6 (a0.fAddrs.length : Int))), (74, (i6 s41.1)), (79, (qe_api_Range_6 r8)), (80, (i6 (r8.length : Int))), (81, (i6 s155.1))] : EL)) (fun m199 : (List api_Range) => ([(1002, bd 25 (e_api_Resources a0)), (1004, some (.box 25 (.st [.nils, .nils]))), (1006, some (.box 25 (.st [(qe_api_Range_6 r8), (.sref 13061 2 0 m39.length)]))), (1012, bd 46 (e_api_Range x154)), (3010, some (we_api_Range_46_6 m199)), (13061, some (we_api_Span_62_2 m39))] : OL)) (fun m199 h E' O' hmat => ?_) (fun j200 hjj200 h => ?_)
          ·apply blkQ_n
           apply seqQ_n
           refine AWp.ghost hmat ?_
           refine rg (c (add6 (L rfl) (q 81) (Opd.int .i64 (1))) rfl (c (mv hN (q 114)) rfl cn)) ?_
           obtain rfl := Option.some.inj h
           exact ⟨rfl, (mp [] _ _ hB)⟩
          ·refine AWp.cond rfl (fun hg201 => ?_) (fun hg201 => ?_)
           ·replace h := ite_t hg201 h
            obtain ⟨hc202, h⟩ := chk_some h
            refine rg (c (mv hN (q 10)) rfl (c (lb hN 42 _ _ tyS42 (At.here _) (q 15)) rfl (c (lb hN 42 _ _ tyS42 (At.here _) (q 16)) rfl (c (OpJ.coe (v := (.st [(.d (e_api_Addr r191)), (.d (e_api_Addr r192))])) (y := (.st [(e_api_Addr r191), (e_api_Addr r192)])) (Co.st (CoL.cons (Co.d _) (CoL.cons (Co.d _) CoL.nil))) rfl (OpJ.build (places := [(0, 3), (3, 3)]) ⟨underlying46, fun w => by kernel_rfl⟩ tyZS46 (Opds.cons (q 109) (Opds.cons (q 110) Opds.nil)) (by kernel_rfl) (r := (.st [(.d (e_api_Addr r191)), (.d (e_api_Addr r192))])) (by rfl) (L rfl))) rfl (c (OpJ.buildSlice underlying22 tyS46 tyZD46 (by rfl) (by decide) (by decide) (Opds.cons (q 111) Opds.nil) (by kernel_rfl) (es := ([(.st [(e_api_Addr r191), (e_api_Addr r192)])] : List D)) (by rfl) (by rfl) (by kernel_rfl) (by simp) (L rfl)) rfl (cg (apd hB underlying22 tyE46 1113 e_api_Range s155.2 ([(api_Range.mk r191 r192)] : List api_Range) hc202 (L rfl) (q 108) (q 112)) rfl (c (OpJ.assign (L rfl) (q 113)) rfl cn))))))) ?_
            exact hjj200 _ h _ _ (mp [(3010, 1113)] _ _ hB)
           ·replace h := ite_f hg201 h
            apply AWp.skip
            exact hjj200 _ h _ _ (mp [] _ _ hB)
         ·rcases Bool.eq_false_or_eq_true (x154.fFrom.fV6 == x190.fFrom.fV6) with hg203 | hg203
          ·replace h := ite_t hg203 h
           obtain ⟨r204, hr204, h⟩ := bindS h
           refine rg (c (fo 1012 0 [0] hN underlying46 0 tyS42 (q 12)) rfl (c (fo 1012 0 [0, 0] hN underlying42 0 tyS4 (q 95)) rfl (c (lb hN 46 _ _ tyS4 (At.dst1 (by rfl) (by rfl) (ad _) (by first | rfl | omega)) (q 96)) rfl (c (fo 1014 0 [0] hN underlying46 0 tyS42 (q 14)) rfl (c (fo 1014 0 [0, 0] hN underlying42 0 tyS4 (q 98)) rfl (c (lb hN 46 _ _ tyS4 (At.dst1 (by rfl) (by rfl) (ad _) (by first | rfl | omega)) (q 99)) rfl (c (OpJ.eqlB underlying4 (L rfl) (q 97) (q 100)) rfl (c (OpJ.val (v' := .d (.bool true)) (by rw [hg203] <;> rfl) (mv hN (q 101))) rfl (c (gd 102 (lb hN 42 _ _ tyS42 (At.here _) (q 15))) rfl (c (gd 102 (lb hN 42 _ _ tyS42 (At.here _) (q 16))) rfl (cg (gd 102 (cf hB fnOk40 (exchangepointref01_Cmp_ac r191 r192 r204 hr204) (L rfl) (OpdL.cons (q 103) (OpdL.cons (q 104) OpdL.nil)))) rfl (c (gd 102 (OpJ.leq (L rfl) (q 105) (Opd.int .i64 (0)))) rfl (c (OpJ.pickT (L rfl) (q 102) (q 106)) rfl cn))))))))))))) ?_
           exact hjj196 _ h _ _ (mp [] _ _ hB)
          ·replace h := ite_f hg203 h
           refine rg (c (fo 1012 0 [0] hN underlying46 0 tyS42 (q 12)) rfl (c (fo 1012 0 [0, 0] hN underlying42 0 tyS4 (q 95)) rfl (c (lb hN 46 _ _ tyS4 (At.dst1 (by rfl) (by rfl) (ad _) (by first | rfl | omega)) (q 96)) rfl (c (fo 1014 0 [0] hN underlying46 0 tyS42 (q 14)) rfl (c (fo 1014 0 [0, 0] hN underlying42 0 tyS4 (q 98)) rfl (c (lb hN 46 _ _ tyS4 (At.dst1 (by rfl) (by rfl) (ad _) (by first | rfl | omega)) (q 99)) rfl (c (OpJ.eqlB underlying4 (L rfl) (q 97) (q 100)) rfl (c (OpJ.val (v' := .d (.bool false)) (by rw [hg203] <;> rfl) (mv hN (q 101))) rfl (cg (sU 102 (L rfl)) rfl (cg (sU 102 (L rfl)) rfl (cg (sU 102 (L rfl)) rfl (cg (sU 102 (L rfl)) rfl (c (OpJ.pickF (L rfl) (q 102) (Opd.bool false)) rfl cn))))))))))))) ?_
           exact hjj196 _ h _ _ (mp [] _ _ hB)
        ·replace h := ite_f hg189 h
         apply AWp.exit
         apply seqQ_e
         obtain rfl := Option.some.inj h
         exact ⟨(fun hc => by cases hc), rfl, (mp [] _ _ hB)⟩
       ·obtain ⟨rfl, hmat⟩ := hR
        apply blkQ_hit
        apply blkQ_n
        apply seqQ_n
        refine AWp.ghost hmat ?_
        refine rg (c (add6 (L rfl) (q 74) (Opd.int .i64 (1))) rfl (c (mv hN (q 115)) rfl cn)) ?_
        obtain rfl := Option.some.inj h
        exact ⟨rfl, (mp [] _ _ hB)⟩
      ·replace h := ite_f hg153 h
       apply AWp.exit
       apply seqQ_e
       obtain rfl := Option.some.inj h
       exact ⟨(fun hc => by cases hc), rfl, (mp [] _ _ hB)⟩
     ·obtain ⟨rfl, hmat⟩ := hR
      apply blkQ_hit
      apply seqQ_n
      refine AWp.ghost hmat ?_
      refine sr (c (OpJ.assign (L rfl) Opd.nils) rfl cn) ?_
      apply AWp.seq
      refine sr (c (fo 1002 1 [1] hN underlying25 1 tyS23 (q 2)) rfl (c (la hN 25 tyS23 (q 116)) rfl (c (OpJ.val (v' := (i6 (a0.fASNs.length : Int))) (by simp) (OpJ.lenD underlying23 (L rfl) (q 117))) rfl (c (mv hN (Opd.int .i64 (0))) rfl cn)))) ?_
      apply AWp.block
      obtain ⟨p278, hx313, h⟩ := bindS h
      refine lg (exchangepointref21_Minus_L3 a0 m39) (fun s209 : Int × (List api_Span) => ([(4, (pt 1004)), (6, (pt 1006)), (10, (.sref 3010 6 0 p152.length)), (17, (.sref 3017 2 0 s209.2.length)), (117, (qe_api_Span_2 a0.fASNs)), (118, (i6 (a0.fASNs.length : Int))), (119, (i6 s209.1))] : EL)) (fun s209 : Int × (List api_Span) => ([(1004, some (.box 25 (.st [.nils, .nils]))), (1006, some (.box 25 (.st [(qe_api_Range_6 r8), (.sref 13061 2 0 m39.length)]))), (3010, some (we_api_Range_46_6 p152)), (3017, some (we_api_Span_62_2 s209.2)), (13061, some (we_api_Span_62_2 m39))] : OL)) (fun (p278 : ((List api_Span))) e E' O' => e = .exit 6 ∧ Mat B E' O' ([(4, (pt 1004)), (10, (.sref 3010 6 0 p152.length)), (17, (.sref 3017 2 0 p278.length))] : EL) ([(1004, some (.box 25 (.st [.nils, .nils]))), (3010, some (we_api_Range_46_6 p152)), (3017, some (we_api_Span_62_2 p278))] : OL)) hx313 (Mat.trans (Mat.beginP (n := 3017) (e := 62) (sz := 2) (Ts := [(17, (.sref 3017 2 0 0))]) (Bs := []) hB (by decide) (by rfl) (by decide) (TwT.cons (x := .nils) (by rfl) (Tw.leaf ⟨rfl, rfl⟩) TwT.nil) TwB.nil) (mp [] _ _ hB)) (fun s209 y h => ?_) (fun e E' O' hR => ?_)
      ·unfold exchangepointref21_Minus_L3 at h
       refine sr (c (OpJ.lss (L rfl) (q 119) (q 118)) rfl cn) ?_
       apply AWp.seq
       refine AWp.cond rfl (fun hg279 => ?_) (fun hg279 => ?_)
       ·replace h := ite_t hg279 h
        apply AWp.skip
        apply seqQ_n
        apply AWp.seq
        apply AWp.block
        obtain ⟨x280, hx280, h⟩ := bindS h
        refine sr (c (OpJ.indexD underlying23 tyS62 (idx_some hx280).1 (get_map e_api_Span (idx_some hx280).2) (L rfl) (q 117) (q 119)) rfl (c (OpJ.loadD tyS62 (by rfl) (by rfl) (L rfl) (q 121)) rfl (cg (OpJ.alloc hB tyZ62 (nm := 1019) (by decide) (L rfl)) rfl (cg (sB tyS62 (q 19) (q 122)) rfl cn)))) ?_
        refine sr (c (fo 1006 1 [1] hN underlying25 1 tyS23 (q 6)) rfl (c (lb hN 25 _ (.sref 13061 2 0 m39.length) tyS23 (At.st1 (f := (.sref 13061 2 0 m39.length)) (by rfl) (by rfl) (At.here _) (by first | rfl | omega)) (q 123)) rfl (c (OpJ.lenS underlying23 (L rfl) (q 124)) rfl (c (mv hN (Opd.int .i64 (0))) rfl cn)))) ?_
        apply AWp.block
        obtain ⟨p300, hx311, h⟩ := bindS h
        refine lg (exchangepointref21_Minus_L4 m39 x280) (fun s281 : Int × (List api_Span) => ([(4, (pt 1004)), (6, (pt 1006)), (10, (.sref 3010 6 0 p152.length)), (17, (.sref 3017 2 0 s281.2.length)), (19, (pt 1019)), (117, (qe_api_Span_2 a0.fASNs)), (118, (i6 (a0.fASNs.length : Int))), (119, (i6 s209.1)), (124, (.sref 13061 2 0 m39.length)), (125, (i6 (m39.length : Int))), (126, (i6 s281.1))] : EL)) (fun s281 : Int × (List api_Span) => ([(1004, some (.box 25 (.st [.nils, .nils]))), (1006, some (.box 25 (.st [(qe_api_Range_6 r8), (.sref 13061 2 0 m39.length)]))), (1019, bd 62 (e_api_Span x280)), (3010, some (we_api_Range_46_6 p152)), (3017, some (we_api_Span_62_2 s281.2)), (13061, some (we_api_Span_62_2 m39))] : OL)) (fun (p300 : ((List api_Span))) e E' O' => e = .exit 8 ∧ Mat B E' O' ([(4, (pt 1004)), (6, (pt 1006)), (10, (.sref 3010 6 0 p152.length)), (17, (.sref 3017 2 0 p300.length)), (117, (qe_api_Span_2 a0.fASNs)), (118, (i6 (a0.fASNs.length : Int))), (119, (i6 s209.1))] : EL) ([(1004, some (.box 25 (.st [.nils, .nils]))), (1006, some (.box 25 (.st [(qe_api_Range_6 r8), (.sref 13061 2 0 m39.length)]))), (3010, some (we_api_Range_46_6 p152)), (3017, some (we_api_Span_62_2 p300)), (13061, some (we_api_Span_62_2 m39))] : OL)) hx311 (mp [] _ _ hB) (fun s281 y h => ?_) (fun e E' O' hR => ?_)
        ·unfold exchangepointref21_Minus_L4 at h
         refine sr (c (OpJ.lss (L rfl) (q 126) (q 125)) rfl cn) ?_
         apply AWp.seq
         refine AWp.cond rfl (fun hg301 => ?_) (fun hg301 => ?_)
         ·replace h := ite_t hg301 h
          apply AWp.skip
          apply seqQ_n
          apply AWp.seq
          apply AWp.block
          obtain ⟨x302, hx302, h⟩ := bindS h
          obtain ⟨x303, hx303, h⟩ := bindS h
          refine sr (c (OpJ.val (v' := (.ptr 13061 (s281.1.toNat * 2) [s281.1.toNat])) (by simp) (OpJ.indexS underlying23 tyS62 (idx_some hx302).1 (by have := idx_lt hx302; first | (simpa using this) | ((try simp only [List.length_map] at this); (try simp only [List.length_map]); omega)) (L rfl) (q 124) (q 126))) rfl (c (OpJ.loadR (e := 62) (sz := 2) tyS62 (get_map e_api_Span (idx_some hx303).2) (o := 0) (At.here _) (by rfl) (by rfl) (by rfl) (L rfl) (q 128)) rfl (cg (OpJ.alloc hB tyZ62 (nm := 1021) (by decide) (L rfl)) rfl (cg (sB tyS62 (q 21) (q 129)) rfl cn)))) ?_
          refine sd (c (fo 1019 0 [0] hN underlying62 0 tyS3 (q 19)) rfl (c (la hN 62 tyS3 (q 130)) rfl (c (fo 1021 0 [0] hN underlying62 0 tyS3 (q 21)) rfl (c (la hN 62 tyS3 (q 132)) rfl (c (OpJ.max (L rfl) (q 131) (q 133)) rfl (c (fo 1019 1 [1] hN underlying62 1 tyS3 (q 19)) rfl (c (la hN 62 tyS3 (q 135)) rfl (c (fo 1021 1 [1] hN underlying62 1 tyS3 (q 21)) rfl (c (la hN 62 tyS3 (q 137)) rfl (c (OpJ.min (L rfl) (q 136) (q 138)) rfl (c (OpJ.assign (L rfl) (q 134)) rfl (c (OpJ.assign (L rfl) (q 139)) rfl cn)))))))))))) (by kernel_rfl) (by kernel_rfl) ?_
          refine sr (c (mv hN (q 22)) rfl (c (mv hN (q 23)) rfl (c (OpJ.leq (L rfl) (q 140) (q 141)) rfl cn))) ?_
          refine gh [(4, _), (6, _), (10, _), (17, _), (19, _), (22, _), (23, _), (117, _), (118, _), (119, _), (124, _), (125, _), (126, _), (142, _)] [(1004, some _), (1006, some _), (1019, some _), (3010, some _), (3017, some _), (13061, some _)] hB rfl rfl (by rfl) ?_
          refine AWp.cut h (fun m306 : (List api_Span) => ([(4, (pt 1004)), (6, (pt 1006)), (10, (.sref 3010 6 0 p152.length)), (17, (.sref 3017 2 0 m306.length)), (19, (pt 1019)), (117, (qe_api_Span_2 a0.fASNs)), (118, (i6 (a0.fASNs.length : Int))), (119, (i6 s209.1)), (124, (.sref 13061 2 0 m39.length)), (125, (i6 (m39.length : Int))), (126, (i6 s281.1))] : EL)) (fun m306 : (List api_Span) => ([(1004, some (.box 25 (.st [.nils, .nils]))), (1006, some (.box 25 (.st [(qe_api_Range_6 r8), (.sref 13061 2 0 m39.length)]))), (1019, bd 62 (e_api_Span x280)), (3010, some (we_api_Range_46_6 p152)), (3017, some (we_api_Span_62_2 m306)), (13061, some (we_api_Span_62_2 m39))] : OL)) (fun m306 h E' O' hmat => ?_) (fun j307 hjj307 h => ?_)
          ·apply blkQ_n
           apply seqQ_n
           refine AWp.ghost hmat ?_
           refine rg (c (add6 (L rfl) (q 126) (Opd.int .i64 (1))) rfl (c (mv hN (q 149)) rfl cn)) ?_
           obtain rfl := Option.some.inj h
           exact ⟨rfl, (mp [] _ _ hB)⟩
          ·refine AWp.cond rfl (fun hg308 => ?_) (fun hg308 => ?_)
           ·replace h := ite_t hg308 h
            obtain ⟨hc309, h⟩ := chk_some h
            refine rg (c (mv hN (q 17)) rfl (c (mv hN (q 22)) rfl (c (mv hN (q 23)) rfl (c (OpJ.coe (v := (.st [(i6 (maxI x280.fFrom x303.fFrom)), (i6 (minI x280.fTo x303.fTo))])) (y := (.st [(.int .i64 (maxI x280.fFrom x303.fFrom)), (.int .i64 (minI x280.fTo x303.fTo))])) (Co.st (CoL.cons (Co.d _) (CoL.cons (Co.d _) CoL.nil))) rfl (OpJ.build (places := [(0, 1), (1, 1)]) ⟨underlying62, fun w => by kernel_rfl⟩ tyZS62 (Opds.cons (q 144) (Opds.cons (q 145) Opds.nil)) (by kernel_rfl) (r := (.st [(i6 (maxI x280.fFrom x303.fFrom)), (i6 (minI x280.fTo x303.fTo))])) (by rfl) (L rfl))) rfl (c (OpJ.buildSlice underlying23 tyS62 tyZD62 (by rfl) (by decide) (by decide) (Opds.cons (q 146) Opds.nil) (by kernel_rfl) (es := ([(.st [(.int .i64 (maxI x280.fFrom x303.fFrom)), (.int .i64 (minI x280.fTo x303.fTo))])] : List D)) (by rfl) (by rfl) (by kernel_rfl) (by simp) (L rfl)) rfl (cg (apd hB underlying23 tyE62 1148 e_api_Span s281.2 ([(api_Span.mk (maxI x280.fFrom x303.fFrom) (minI x280.fTo x303.fTo))] : List api_Span) hc309 (L rfl) (q 143) (q 147)) rfl (c (OpJ.assign (L rfl) (q 148)) rfl cn))))))) ?_
            exact hjj307 _ h _ _ (mp [(3017, 1148)] _ _ hB)
           ·replace h := ite_f hg308 h
            apply AWp.skip
            exact hjj307 _ h _ _ (mp [] _ _ hB)
         ·replace h := ite_f hg301 h
          apply AWp.exit
          apply seqQ_e
          obtain rfl := Option.some.inj h
          exact ⟨(fun hc => by cases hc), rfl, (mp [] _ _ hB)⟩
        ·obtain ⟨rfl, hmat⟩ := hR
         apply blkQ_hit
         apply blkQ_n
         apply seqQ_n
         refine AWp.ghost hmat ?_
         refine rg (c (add6 (L rfl) (q 119) (Opd.int .i64 (1))) rfl (c (mv hN (q 150)) rfl cn)) ?_
         obtain rfl := Option.some.inj h
         exact ⟨rfl, (mp [] _ _ hB)⟩
       ·replace h := ite_f hg279 h
        apply AWp.exit
        apply seqQ_e
        obtain rfl := Option.some.inj h
        exact ⟨(fun hc => by cases hc), rfl, (mp [] _ _ hB)⟩
      ·obtain ⟨rfl, hmat⟩ := hR
       apply blkQ_hit
       apply seqQ_n
       refine AWp.ghost hmat ?_
       apply AWp.seq
       refine AWp.ghost (Mat.freezeP (n := 3010) (e := 46) (sz := 6) (es := p152.map e_api_Range) (Ts := [(10, (qe_api_Range_6 p152))]) (Bs := []) (by rfl) (TwT.cons (x := (.sref 3010 6 0 p152.length)) (by rfl) (FrzL.all (by first | rfl | (simp; done) | (simp; omega) | omega)) TwT.nil) TwB.nil) ?_
       refine AWp.ghost (Mat.freezeP (n := 3017) (e := 62) (sz := 2) (es := p278.map e_api_Span) (Ts := [(17, (qe_api_Span_2 p278))]) (Bs := []) (by rfl) (TwT.cons (x := (.sref 3017 2 0 p278.length)) (by rfl) (FrzL.all (by first | rfl | (simp; done) | (simp; omega) | omega)) TwT.nil) TwB.nil) ?_
       obtain ⟨r314, hr314, h⟩ := bindS h
       refine rg (c (mv hN (q 10)) rfl (c (mv hN (q 17)) rfl (cg (cf hB fnOk34 (exchangepointref21_limited_ac p152 p278 r314 hr314) (L rfl) (OpdL.cons (q 151) (OpdL.cons (q 152) OpdL.nil))) rfl (c (OpJ.extract (by rfl) rfl (L rfl) (q 153)) rfl (c (OpJ.extract (by rfl) rfl (L rfl) (q 153)) rfl (cg (sB tyS25 (q 4) (q 154)) rfl (c (OpJ.assign (L rfl) (q 155)) rfl cn))))))) ?_
       apply seqQ_n
       apply AWp.ret
       obtain rfl := Option.some.inj h
       exact ⟨.inl rfl, _, _, (kp [(4, _), (5, _)] [(1004, some _)] hB rfl rfl (by rfl)), [(.d (e_api_Resources r314.1)), (i6 r314.2)], (Res.cell (c := (.d (e_api_Resources r314.1))) (by rfl) (by rfl) tyS25 (by rfl) (by rfl) (by rfl) (Res.tmp (by rfl) (by rfl) Res.nil)), rfl, by rfl, by rfl, by rfl⟩
    ·refine AWp.cond rfl (fun hg315 => ?_) (fun hg315 => ?_)
     ·replace h := ite_t hg315 h
      obtain ⟨hc316, h⟩ := chk_some h
      refine rg (c (fo 1006 1 [1] hN underlying25 1 tyS23 (q 6)) rfl (c (lb hN 25 _ (.sref 13061 2 0 p26.2.length) tyS23 (At.st1 (f := (.sref 13061 2 0 p26.2.length)) (by rfl) (by rfl) (At.here _) (by first | rfl | omega)) (q 64)) rfl (c (mv hN (q 7)) rfl (c (OpJ.coe (v := (.st [(i6 p26.1), (i6 (4294967295 : Int))])) (y := (.st [(.int .i64 p26.1), (.int .i64 (4294967295 : Int))])) (Co.st (CoL.cons (Co.d _) (CoL.cons (Co.d _) CoL.nil))) rfl (OpJ.build (places := [(0, 1), (1, 1)]) ⟨underlying62, fun w => by kernel_rfl⟩ tyZS62 (Opds.cons (q 66) (Opds.cons (Opd.int .i64 (4294967295)) Opds.nil)) (by kernel_rfl) (r := (.st [(i6 p26.1), (i6 (4294967295 : Int))])) (by rfl) (L rfl))) rfl (c (OpJ.buildSlice underlying23 tyS62 tyZD62 (by rfl) (by decide) (by decide) (Opds.cons (q 67) Opds.nil) (by kernel_rfl) (es := ([(.st [(.int .i64 p26.1), (.int .i64 (4294967295 : Int))])] : List D)) (by rfl) (by rfl) (by kernel_rfl) (by simp) (L rfl)) rfl (cg (apd hB underlying23 tyE62 1069 e_api_Span p26.2 ([(api_Span.mk p26.1 (4294967295 : Int))] : List api_Span) hc316 (L rfl) (q 65) (q 68)) rfl (c (fo 1006 1 [1] hN underlying25 1 tyS23 (q 6)) rfl (cg (OpJ.storeB (c' := (.st [(qe_api_Range_6 r8), (.sref 1069 2 0 ((p26.2 ++ ([(api_Span.mk p26.1 (4294967295 : Int))] : List api_Span)).length))])) tyS23 (SetAt.st1 (f := (.sref 13061 2 0 p26.2.length)) (by rfl) (by rfl) (SetAt.here _ _) (by rfl) (by rfl) (by first | rfl | omega)) (by rfl) (by rfl) (by simp) rfl (q 70) (q 69)) rfl cn)))))))) ?_
      exact hjj40 _ h _ _ (mp [(13061, 1069)] _ _ hB)
     ·replace h := ite_f hg315 h
      apply AWp.skip
      exact hjj40 _ h _ _ (mp [] _ _ hB)
 ·obtain ⟨r317, hr317, h⟩ := bindS h
  rcases Bool.eq_false_or_eq_true (!r317) with hg318 | hg318
  ·replace h := ite_t hg318 h
   refine rg (c (lb hN 25 _ _ tyS25 (At.here _) (q 2)) rfl (cg (cf hB fnOk33 (exchangepointref21_Valid_ac a0 r317 hr317) (L rfl) (OpdL.cons (q 24) OpdL.nil)) rfl (c (OpJ.not (L rfl) (q 25)) rfl (c (OpJ.val (v' := .d (.bool true)) (by rw [hg318] <;> rfl) (mv hN (q 26))) rfl (cg (sU 27 (L rfl)) rfl (cg (sU 27 (L rfl)) rfl (cg (sU 27 (L rfl)) rfl (c (OpJ.pickT (L rfl) (q 27) (Opd.bool true)) rfl cn)))))))) ?_
   exact hjj6 _ h _ _ (mp [] _ _ hB)
  ·replace h := ite_f hg318 h
   obtain ⟨r319, hr319, h⟩ := bindS h
   refine rg (c (lb hN 25 _ _ tyS25 (At.here _) (q 2)) rfl (cg (cf hB fnOk33 (exchangepointref21_Valid_ac a0 r317 hr317) (L rfl) (OpdL.cons (q 24) OpdL.nil)) rfl (c (OpJ.not (L rfl) (q 25)) rfl (c (OpJ.val (v' := .d (.bool false)) (by rw [hg318] <;> rfl) (mv hN (q 26))) rfl (c (gd 27 (lb hN 25 _ _ tyS25 (At.here _) (q 3))) rfl (cg (gd 27 (cf hB fnOk33 (exchangepointref21_Valid_ac a1 r319 hr319) (L rfl) (OpdL.cons (q 28) OpdL.nil))) rfl (c (gd 27 (OpJ.not (L rfl) (q 29))) rfl (c (OpJ.pickF (L rfl) (q 27) (q 30)) rfl cn)))))))) ?_
   exact hjj6 _ h _ _ (mp [] _ _ hB)
end Go.Proofs.YtgcilleccigmdaaGreatDoor
