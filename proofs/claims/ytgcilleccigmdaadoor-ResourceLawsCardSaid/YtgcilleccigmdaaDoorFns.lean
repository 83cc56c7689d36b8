/- Printed by gen.py: the Go functions as plain functions, and that the code does what they say. -/
import Derived.Test.YtgcilleccigmdaaDoorChecked
import Derived.Test.YtgcilleccigmdaaDoorVcYB
import Derived.Test.YtgcilleccigmdaaDoorVcZ
import Derived.KernelRfl
import Derived.Test.YtgcilleccigmdaaDoorVcMD
import Derived.Test.YtgcilleccigmdaaDoorVcMQ
import Derived.Test.YtgcilleccigmdaaDoorVcSG
import Derived.Test.YtgcilleccigmdaaDoorFnsC
import Derived.Test.YtgcilleccigmdaaDoorExt
import Derived.Test.YtgcilleccigmdaaDoorVcGl
import Derived.Test.YtgcilleccigmdaaDoorVcSO
namespace Go.Proofs.YtgcilleccigmdaaDoor
open Go Go.Vc
set_option maxHeartbeats 4000000
set_option maxRecDepth 100000
noncomputable def resource_order_minus_2_L1 (a1 : (List resource_part_int_)) (s433 : Int × resource_part_int_ × (List resource_part_int_)) : Option (((Bool × resource_part_int_ × (List resource_part_int_))) ⊕ (Int × resource_part_int_ × (List resource_part_int_))) :=
 (if (decide (s433.1 < (a1.length : Int))) = true then
 jn (fun m602 : resource_part_int_ × (List resource_part_int_) =>
 some (.inr ((w64 (s433.1 + (1 : Int))), m602.1, m602.2))) (fun j603 =>
 (idx a1 s433.1).bind fun x604 =>
 jn (fun m609 : Bool =>
 (if m609 = true then
 j603 (s433.2.1, s433.2.2)
 else
 (resource_numbers_2 x604.ffrom).bind fun r612 =>
 jn (fun m615 : Bool =>
 jn (fun m619 : (List resource_part_int_) =>
 (resource_numbers_1 x604.fto).bind fun r621 =>
 jn (fun m624 : Bool =>
 (if m624 = true then
 some (.inl (false, s433.2.1, m619))
 else
 j603 ((resource_part_int_.mk r621.1 s433.2.1.fto), m619))) (fun j625 =>
 (if (!r621.2) = true then
 j625 true
 else
 (cmp_Compare r621.1 s433.2.1.fto).bind fun r628 =>
 j625 (decide ((0 : Int) < r628))))) (fun j620 =>
 (if m615 = true then
 chk (decide ((s433.2.2 ++ ([(resource_part_int_.mk s433.2.1.ffrom r612.1)] : List resource_part_int_)).length ≤ LIM)) <|
 j620 (s433.2.2 ++ ([(resource_part_int_.mk s433.2.1.ffrom r612.1)] : List resource_part_int_))
 else
 j620 s433.2.2))) (fun j616 =>
 (if r612.2 = true then
 (cmp_Compare s433.2.1.ffrom r612.1).bind fun r632 =>
 j616 (decide (r632 ≤ (0 : Int)))
 else
 j616 false)))) (fun j610 =>
 (cmp_Compare x604.fto s433.2.1.ffrom).bind fun r633 =>
 (if (decide (r633 < (0 : Int))) = true then
 j610 true
 else
 (cmp_Compare x604.ffrom s433.2.1.fto).bind fun r635 =>
 j610 (decide ((0 : Int) < r635)))))
 else
 some (.inl (true, s433.2.1, s433.2.2)))
noncomputable def resource_order_minus_2_L0 (a0 : (List resource_part_int_)) (a1 : (List resource_part_int_)) (s1 : Int × (List resource_part_int_)) : Option ((((List resource_part_int_))) ⊕ (Int × (List resource_part_int_))) :=
 (if (decide (s1.1 < (a0.length : Int))) = true then
 (idx a0 s1.1).bind fun x432 =>
 (loop (resource_order_minus_2_L1 a1) ((0 : Int), x432, s1.2)).bind fun p568 =>
 jn (fun m640 : (List resource_part_int_) =>
 some (.inr ((w64 (s1.1 + (1 : Int))), m640))) (fun j641 =>
 (if p568.1 = true then
 chk (decide ((p568.2.2 ++ ([p568.2.1] : List resource_part_int_)).length ≤ LIM)) <|
 j641 (p568.2.2 ++ ([p568.2.1] : List resource_part_int_))
 else
 j641 p568.2.2))
 else
 some (.inl s1.2))
noncomputable def resource_order_minus_2 (a0 : (List resource_part_int_)) (a1 : (List resource_part_int_)) : Option ((List resource_part_int_)) :=
 (loop (resource_order_minus_2_L0 a0 a1) ((0 : Int), ([] : List resource_part_int_))).bind fun p430 =>
 some p430
theorem resource_order_minus_2_ac (a0 : (List resource_part_int_)) (a1 : (List resource_part_int_)) (r : (List resource_part_int_)) (h : resource_order_minus_2 a0 a1 = some r) : AC Tryd.prog 86 [(.st [(.func 70 []), (.func 138 []), (.func 139 [])]), (.d (.list 2 (a0.map e_resource_part_int_))), (.d (.list 2 (a1.map e_resource_part_int_)))] [] (.d (.list 2 (r.map e_resource_part_int_))) [] := by
 refine AC.of_code2 Tryd.func86 rfl rfl (Nat.le_of_ble_eq_true (by rfl)) fun B hB hN => ?_
 have L {d : Nat} (h : Nat.blt d Tryd.f86.ntmps = true) : d < B.N := ltN hN h
 delta resource_order_minus_2 at h
 refine sr (cg (OpJ.box hB (nm := 1003) (by decide) (by simp) rfl (L rfl) (q 0)) rfl (c (OpJ.assign (L rfl) Opd.nils) rfl cn)) ?_
 refine gh [(1, _), (2, _), (3, _)] [(1003, some _)] hB rfl rfl (by rfl) ?_
 refine sr (c (OpJ.assign (L rfl) Opd.nils) rfl cn) ?_
 refine gh [(1, _), (2, _), (3, _), (7, _)] [(1003, some _)] hB rfl rfl (by rfl) ?_
 refine AWp.seq ?_
 refine sr (c (mv hN (q 1)) rfl (c (OpJ.val (v' := (i6 (a0.length : Int))) (by simp) (OpJ.lenD Tryd.underlying83 (L rfl) (q 17))) rfl (c (mv hN (Opd.int .i64 (0))) rfl cn))) ?_
 refine gh [(2, _), (3, _), (7, _), (17, _), (18, _), (19, _)] [(1003, some _)] hB rfl rfl (by rfl) ?_
 refine AWp.block ?_
 obtain ⟨p430, hx645, h⟩ := bindS h
 refine lg (resource_order_minus_2_L0 a0 a1) (fun s1 : Int × (List resource_part_int_) => ([(2, (.d (.list 2 (a1.map e_resource_part_int_)))), (3, (.ptr 1003 0 [])), (7, (.sref 3007 2 0 s1.2.length)), (17, (.d (.list 2 (a0.map e_resource_part_int_)))), (18, (i6 (a0.length : Int))), (19, (i6 s1.1))] : EL)) (fun s1 : Int × (List resource_part_int_) => ([(1003, some (.box 92 (.st [(.func 70 []), (.func 138 []), (.func 139 [])]))), (3007, some (.row 122 2 (s1.2.map e_resource_part_int_)))] : OL)) (fun (p430 : ((List resource_part_int_))) e E' O' => e = .exit 0 ∧ Mat B E' O' ([(7, (.sref 3007 2 0 p430.length))] : EL) ([(3007, some (.row 122 2 (p430.map e_resource_part_int_)))] : OL)) hx645 (Mat.trans (Mat.beginP (n := 3007) (e := 122) (sz := 2) (Ts := [(7, (.sref 3007 2 0 0))]) (Bs := []) hB (by decide) (by rfl) (by decide) (TwT.cons (x := .nils) (by rfl) (Tw.leaf ⟨rfl, rfl⟩) TwT.nil) TwB.nil) (mp [] _ _ hB)) (fun s1 y h => ?_) (fun e E' O' hR => ?_)
 ·unfold resource_order_minus_2_L0 at h
  refine sr (c (OpJ.lss (L rfl) (q 19) (q 18)) rfl cn) ?_
  refine gh [(2, _), (3, _), (7, _), (17, _), (18, _), (19, _), (20, _)] [(1003, some _), (3007, some _)] hB rfl rfl (by rfl) ?_
  refine AWp.seq ?_
  refine AWp.cond rfl (fun hg431 => ?_) (fun hg431 => ?_)
  ·replace h := ite_t hg431 h
   refine AWp.skip ?_
   refine seqQ_n ?_
   refine AWp.seq ?_
   refine AWp.block ?_
   obtain ⟨x432, hx432, h⟩ := bindS h
   refine sr (c (OpJ.indexD Tryd.underlying83 tyS122 (idx_some hx432).1 (get_map e_resource_part_int_ (idx_some hx432).2) (L rfl) (q 17) (q 19)) rfl (c (OpJ.loadD tyS122 (by rfl) (by rfl) (L rfl) (q 21)) rfl (cg (OpJ.alloc hB tyZ122 (nm := 1009) (by decide) (L rfl)) rfl (cg (OpJ.storeB tyS122 (SetAt.here _ _) (by rfl) (by rfl) (by simp) rfl (q 9) (q 22)) rfl cn)))) ?_
   refine gh [(2, _), (3, _), (7, _), (9, _), (17, _), (18, _), (19, _)] [(1003, some _), (1009, some _), (3007, some _)] hB rfl rfl (by rfl) ?_
   refine sr (c (OpJ.assign (L rfl) (Opd.bool true)) rfl cn) ?_
   refine gh [(2, _), (3, _), (7, _), (9, _), (10, _), (17, _), (18, _), (19, _)] [(1003, some _), (1009, some _), (3007, some _)] hB rfl rfl (by rfl) ?_
   refine AWp.seq ?_
   refine sr (c (mv hN (q 2)) rfl (c (OpJ.val (v' := (i6 (a1.length : Int))) (by simp) (OpJ.lenD Tryd.underlying83 (L rfl) (q 23))) rfl (c (mv hN (Opd.int .i64 (0))) rfl cn))) ?_
   refine gh [(2, _), (3, _), (7, _), (9, _), (10, _), (17, _), (18, _), (19, _), (23, _), (24, _), (25, _)] [(1003, some _), (1009, some _), (3007, some _)] hB rfl rfl (by rfl) ?_
   refine AWp.block ?_
   obtain ⟨p568, hx637, h⟩ := bindS h
   refine lg (resource_order_minus_2_L1 a1) (fun s433 : Int × resource_part_int_ × (List resource_part_int_) => ([(2, (.d (.list 2 (a1.map e_resource_part_int_)))), (3, (.ptr 1003 0 [])), (7, (.sref 3007 2 0 s433.2.2.length)), (9, (.ptr 1009 0 [])), (10, (bo true)), (17, (.d (.list 2 (a0.map e_resource_part_int_)))), (18, (i6 (a0.length : Int))), (19, (i6 s1.1)), (23, (.d (.list 2 (a1.map e_resource_part_int_)))), (24, (i6 (a1.length : Int))), (25, (i6 s433.1))] : EL)) (fun s433 : Int × resource_part_int_ × (List resource_part_int_) => ([(1003, some (.box 92 (.st [(.func 70 []), (.func 138 []), (.func 139 [])]))), (1009, some (.box 122 (.d (e_resource_part_int_ s433.2.1)))), (3007, some (.row 122 2 (s433.2.2.map e_resource_part_int_)))] : OL)) (fun (p568 : (Bool × resource_part_int_ × (List resource_part_int_))) e E' O' => e = .exit 2 ∧ Mat B E' O' ([(2, (.d (.list 2 (a1.map e_resource_part_int_)))), (3, (.ptr 1003 0 [])), (7, (.sref 3007 2 0 p568.2.2.length)), (9, (.ptr 1009 0 [])), (10, (bo p568.1)), (17, (.d (.list 2 (a0.map e_resource_part_int_)))), (18, (i6 (a0.length : Int))), (19, (i6 s1.1))] : EL) ([(1003, some (.box 92 (.st [(.func 70 []), (.func 138 []), (.func 139 [])]))), (1009, some (.box 122 (.d (e_resource_part_int_ p568.2.1)))), (3007, some (.row 122 2 (p568.2.2.map e_resource_part_int_)))] : OL)) hx637 (mp [] _ _ hB) (fun s433 y h => ?_) (fun e E' O' hR => ?_)
   ·unfold resource_order_minus_2_L1 at h
    refine sr (c (OpJ.lss (L rfl) (q 25) (q 24)) rfl cn) ?_
    refine gh [(2, _), (3, _), (7, _), (9, _), (10, _), (17, _), (18, _), (19, _), (23, _), (24, _), (25, _), (26, _)] [(1003, some _), (1009, some _), (3007, some _)] hB rfl rfl (by rfl) ?_
    refine AWp.seq ?_
    refine AWp.cond rfl (fun hg569 => ?_) (fun hg569 => ?_)
    ·replace h := ite_t hg569 h
     refine AWp.skip ?_
     refine seqQ_n ?_
     refine AWp.seq ?_
     refine AWp.cut h (fun m602 : resource_part_int_ × (List resource_part_int_) => ([(2, (.d (.list 2 (a1.map e_resource_part_int_)))), (3, (.ptr 1003 0 [])), (7, (.sref 3007 2 0 m602.2.length)), (9, (.ptr 1009 0 [])), (10, (bo true)), (17, (.d (.list 2 (a0.map e_resource_part_int_)))), (18, (i6 (a0.length : Int))), (19, (i6 s1.1)), (23, (.d (.list 2 (a1.map e_resource_part_int_)))), (24, (i6 (a1.length : Int))), (25, (i6 s433.1))] : EL)) (fun m602 : resource_part_int_ × (List resource_part_int_) => ([(1003, some (.box 92 (.st [(.func 70 []), (.func 138 []), (.func 139 [])]))), (1009, some (.box 122 (.d (e_resource_part_int_ m602.1)))), (3007, some (.row 122 2 (m602.2.map e_resource_part_int_)))] : OL)) (fun m602 h E' O' hmat => ?_) (fun j603 hjj603 h => ?_)
     ·refine seqQ_n ?_
      refine AWp.ghost hmat ?_
      refine rg (c (add6 (L rfl) (q 25) (Opd.int .i64 (1))) rfl (c (mv hN (q 93)) rfl cn)) ?_
      obtain rfl := Option.some.inj h
      exact ⟨rfl, (Mat.trans (mp [] [(2, (.d (.list 2 (a1.map e_resource_part_int_)))), (3, (.ptr 1003 0 [])), (7, (.sref 3007 2 0 m602.2.length)), (9, (.ptr 1009 0 [])), (10, (bo true)), (17, (.d (.list 2 (a0.map e_resource_part_int_)))), (18, (i6 (a0.length : Int))), (19, (i6 s1.1)), (23, (.d (.list 2 (a1.map e_resource_part_int_)))), (24, (i6 (a1.length : Int))), (25, (i6 (w64 (s433.1 + (1 : Int)))))] [(1003, some (.box 92 (.st [(.func 70 []), (.func 138 []), (.func 139 [])]))), (1009, some (.box 122 (.d (e_resource_part_int_ m602.1)))), (3007, some (.row 122 2 (m602.2.map e_resource_part_int_)))] hB) (mp [] _ _ hB))⟩
     ·refine AWp.block ?_
      obtain ⟨x604, hx604, h⟩ := bindS h
      refine sr (c (OpJ.indexD Tryd.underlying83 tyS122 (idx_some hx604).1 (get_map e_resource_part_int_ (idx_some hx604).2) (L rfl) (q 23) (q 25)) rfl (c (OpJ.loadD tyS122 (by rfl) (by rfl) (L rfl) (q 27)) rfl (cg (OpJ.alloc hB tyZ122 (nm := 1012) (by decide) (L rfl)) rfl (cg (OpJ.storeB tyS122 (SetAt.here _ _) (by rfl) (by rfl) (by simp) rfl (q 12) (q 28)) rfl cn)))) ?_
      refine gh [(2, _), (3, _), (7, _), (9, _), (10, _), (12, _), (17, _), (18, _), (19, _), (23, _), (24, _), (25, _)] [(1003, some _), (1009, some _), (1012, some _), (3007, some _)] hB rfl rfl (by rfl) ?_
      refine AWp.seq ?_
      refine AWp.seq ?_
      refine AWp.cut h (fun m609 : Bool => ([(2, (.d (.list 2 (a1.map e_resource_part_int_)))), (3, (.ptr 1003 0 [])), (7, (.sref 3007 2 0 s433.2.2.length)), (9, (.ptr 1009 0 [])), (10, (bo true)), (12, (.ptr 1012 0 [])), (17, (.d (.list 2 (a0.map e_resource_part_int_)))), (18, (i6 (a0.length : Int))), (19, (i6 s1.1)), (23, (.d (.list 2 (a1.map e_resource_part_int_)))), (24, (i6 (a1.length : Int))), (25, (i6 s433.1)), (46, (bo m609))] : EL)) (fun m609 : Bool => ([(1003, some (.box 92 (.st [(.func 70 []), (.func 138 []), (.func 139 [])]))), (1009, some (.box 122 (.d (e_resource_part_int_ s433.2.1)))), (1012, some (.box 122 (.d (e_resource_part_int_ x604)))), (3007, some (.row 122 2 (s433.2.2.map e_resource_part_int_)))] : OL)) (fun m609 h E' O' hmat => ?_) (fun j610 hjj610 h => ?_)
      ·refine seqQ_n ?_
       refine AWp.ghost hmat ?_
       refine AWp.cond rfl (fun hg611 => ?_) (fun hg611 => ?_)
       ·replace h := ite_t hg611 h
        refine AWp.exit ?_
        refine seqQ_e ?_
        refine blkQ_hit ?_
        exact hjj603 _ h _ _ (mp [] _ _ hB)
       ·replace h := ite_f hg611 h
        refine AWp.skip ?_
        refine seqQ_n ?_
        refine AWp.seq ?_
        obtain ⟨r612, hr612, h⟩ := bindS h
        refine sr (c (ov (.ptr 1003 2 [2]) (fp hN Tryd.underlying92 2 tyS90 _ (q 3))) rfl (c (lb hN 92 _ (.func 139 []) tyS90 (At.st1 (f := (.func 139 [])) (by rfl) (by rfl) (At.here _) (by first | rfl | omega)) (q 48)) rfl (c (ov (.ptr 1012 0 [0]) (fp hN Tryd.underlying122 0 tyS3 _ (q 12))) rfl (c (lb hN 122 _ _ tyS3 (ad _) (q 50)) rfl (cg (OpJ.callVal (args := [(i6 x604.ffrom)]) (caps := []) hB fnOk139 [] (resource_numbers_2_ac x604.ffrom r612 hr612) (by kernel_rfl) (L rfl) (by kernel_rfl) (by kernel_rfl) (OpdL.cons (q 51) OpdL.nil)) rfl (c (mv hN (q 52)) rfl (c (OpJ.extract (by rfl) rfl (L rfl) (q 47)) rfl (c (OpJ.extract (by rfl) rfl (L rfl) (q 47)) rfl (c (OpJ.assign (L rfl) (q 53)) rfl (c (OpJ.assign (L rfl) (q 54)) rfl cn)))))))))) ?_
        refine gh [(2, _), (3, _), (7, _), (9, _), (10, _), (12, _), (13, _), (14, _), (17, _), (18, _), (19, _), (23, _), (24, _), (25, _)] [(1003, some _), (1009, some _), (1012, some _), (3007, some _)] hB rfl rfl (by rfl) ?_
        refine AWp.seq ?_
        refine AWp.cut h (fun m615 : Bool => ([(2, (.d (.list 2 (a1.map e_resource_part_int_)))), (3, (.ptr 1003 0 [])), (7, (.sref 3007 2 0 s433.2.2.length)), (9, (.ptr 1009 0 [])), (10, (bo true)), (12, (.ptr 1012 0 [])), (13, (i6 r612.1)), (17, (.d (.list 2 (a0.map e_resource_part_int_)))), (18, (i6 (a0.length : Int))), (19, (i6 s1.1)), (23, (.d (.list 2 (a1.map e_resource_part_int_)))), (24, (i6 (a1.length : Int))), (25, (i6 s433.1)), (64, (bo m615))] : EL)) (fun m615 : Bool => ([(1003, some (.box 92 (.st [(.func 70 []), (.func 138 []), (.func 139 [])]))), (1009, some (.box 122 (.d (e_resource_part_int_ s433.2.1)))), (1012, some (.box 122 (.d (e_resource_part_int_ x604)))), (3007, some (.row 122 2 (s433.2.2.map e_resource_part_int_)))] : OL)) (fun m615 h E' O' hmat => ?_) (fun j616 hjj616 h => ?_)
        ·refine seqQ_n ?_
         refine AWp.ghost hmat ?_
         refine AWp.cut h (fun m619 : (List resource_part_int_) => ([(2, (.d (.list 2 (a1.map e_resource_part_int_)))), (3, (.ptr 1003 0 [])), (7, (.sref 3007 2 0 m619.length)), (9, (.ptr 1009 0 [])), (10, (bo true)), (12, (.ptr 1012 0 [])), (17, (.d (.list 2 (a0.map e_resource_part_int_)))), (18, (i6 (a0.length : Int))), (19, (i6 s1.1)), (23, (.d (.list 2 (a1.map e_resource_part_int_)))), (24, (i6 (a1.length : Int))), (25, (i6 s433.1))] : EL)) (fun m619 : (List resource_part_int_) => ([(1003, some (.box 92 (.st [(.func 70 []), (.func 138 []), (.func 139 [])]))), (1009, some (.box 122 (.d (e_resource_part_int_ s433.2.1)))), (1012, some (.box 122 (.d (e_resource_part_int_ x604)))), (3007, some (.row 122 2 (m619.map e_resource_part_int_)))] : OL)) (fun m619 h E' O' hmat => ?_) (fun j620 hjj620 h => ?_)
         ·refine seqQ_n ?_
          refine AWp.ghost hmat ?_
          obtain ⟨r621, hr621, h⟩ := bindS h
          refine sr (c (ov (.ptr 1003 1 [1]) (fp hN Tryd.underlying92 1 tyS90 _ (q 3))) rfl (c (lb hN 92 _ (.func 138 []) tyS90 (At.st1 (f := (.func 138 [])) (by rfl) (by rfl) (At.here _) (by first | rfl | omega)) (q 73)) rfl (c (ov (.ptr 1012 1 [1]) (fp hN Tryd.underlying122 1 tyS3 _ (q 12))) rfl (c (lb hN 122 _ _ tyS3 (ad _) (q 75)) rfl (cg (OpJ.callVal (args := [(i6 x604.fto)]) (caps := []) hB fnOk138 [] (resource_numbers_1_ac x604.fto r621 hr621) (by kernel_rfl) (L rfl) (by kernel_rfl) (by kernel_rfl) (OpdL.cons (q 76) OpdL.nil)) rfl (c (mv hN (q 77)) rfl (c (OpJ.extract (by rfl) rfl (L rfl) (q 72)) rfl (c (OpJ.extract (by rfl) rfl (L rfl) (q 72)) rfl (c (OpJ.assign (L rfl) (q 78)) rfl (c (OpJ.assign (L rfl) (q 79)) rfl cn)))))))))) ?_
          refine gh [(2, _), (3, _), (7, _), (9, _), (10, _), (15, _), (16, _), (17, _), (18, _), (19, _), (23, _), (24, _), (25, _)] [(1003, some _), (1009, some _), (3007, some _)] hB rfl rfl (by rfl) ?_
          refine AWp.seq ?_
          refine AWp.seq ?_
          refine AWp.cut h (fun m624 : Bool => ([(2, (.d (.list 2 (a1.map e_resource_part_int_)))), (3, (.ptr 1003 0 [])), (7, (.sref 3007 2 0 m619.length)), (9, (.ptr 1009 0 [])), (10, (bo true)), (15, (i6 r621.1)), (17, (.d (.list 2 (a0.map e_resource_part_int_)))), (18, (i6 (a0.length : Int))), (19, (i6 s1.1)), (23, (.d (.list 2 (a1.map e_resource_part_int_)))), (24, (i6 (a1.length : Int))), (25, (i6 s433.1)), (90, (bo m624))] : EL)) (fun m624 : Bool => ([(1003, some (.box 92 (.st [(.func 70 []), (.func 138 []), (.func 139 [])]))), (1009, some (.box 122 (.d (e_resource_part_int_ s433.2.1)))), (3007, some (.row 122 2 (m619.map e_resource_part_int_)))] : OL)) (fun m624 h E' O' hmat => ?_) (fun j625 hjj625 h => ?_)
          ·refine seqQ_n ?_
           refine AWp.ghost hmat ?_
           refine AWp.cond rfl (fun hg626 => ?_) (fun hg626 => ?_)
           ·replace h := ite_t hg626 h
            refine sr (c (OpJ.assign (L rfl) (Opd.bool false)) rfl cn) ?_
            refine gh [(2, _), (3, _), (7, _), (9, _), (10, _), (17, _), (18, _), (19, _)] [(1003, some _), (1009, some _), (3007, some _)] hB rfl rfl (by rfl) ?_
            refine AWp.exit ?_
            refine seqQ_e ?_
            refine blkQ_miss (by rfl) ?_
            refine seqQ_e ?_
            obtain rfl := Option.some.inj h
            exact ⟨(fun hc => by cases hc), rfl, (mp [] _ _ hB)⟩
           ·replace h := ite_f hg626 h
            refine AWp.skip ?_
            refine seqQ_n ?_
            refine rg (c (mv hN (q 15)) rfl (c (ov (.ptr 1009 0 [0]) (fp hN Tryd.underlying122 0 tyS3 _ (q 9))) rfl (cg (OpJ.storeB tyS3 (SetAt.dst1 (by rfl) (by rfl) (SetAt.here _ _) (by rfl) (by rfl) (by first | rfl | omega)) (by rfl) (by rfl) (by simp) rfl (q 92) (q 91)) rfl cn))) ?_
            refine blkQ_n ?_
            exact hjj603 _ h _ _ (Mat.trans (mp [] [(2, (.d (.list 2 (a1.map e_resource_part_int_)))), (3, (.ptr 1003 0 [])), (7, (.sref 3007 2 0 m619.length)), (9, (.ptr 1009 0 [])), (10, (bo true)), (17, (.d (.list 2 (a0.map e_resource_part_int_)))), (18, (i6 (a0.length : Int))), (19, (i6 s1.1)), (23, (.d (.list 2 (a1.map e_resource_part_int_)))), (24, (i6 (a1.length : Int))), (25, (i6 s433.1))] [(1003, some (.box 92 (.st [(.func 70 []), (.func 138 []), (.func 139 [])]))), (1009, some (.box 122 (.d (.st [(.int .i64 r621.1), (.int .i64 s433.2.1.fto)])))), (3007, some (.row 122 2 (m619.map e_resource_part_int_)))] hB) (mp [] _ _ hB))
          ·rcases Bool.eq_false_or_eq_true (!r621.2) with hg627 | hg627
           ·replace h := ite_t hg627 h
            refine rg (c (mv hN (q 16)) rfl (c (OpJ.not (L rfl) (q 80)) rfl (c (OpJ.val (v' := .d (.bool true)) (by rw [hg627] <;> rfl) (mv hN (q 81))) rfl (cg (sU 82 (L rfl)) rfl (cg (sU 82 (L rfl)) rfl (cg (sU 82 (L rfl)) rfl (cg (sU 82 (L rfl)) rfl (cg (sU 82 (L rfl)) rfl (cg (sU 82 (L rfl)) rfl (cg (sU 82 (L rfl)) rfl (c (OpJ.pickT (L rfl) (q 82) (Opd.bool true)) rfl cn))))))))))) ?_
            exact hjj625 _ h _ _ (Mat.trans (mp [] [(2, (.d (.list 2 (a1.map e_resource_part_int_)))), (3, (.ptr 1003 0 [])), (7, (.sref 3007 2 0 m619.length)), (9, (.ptr 1009 0 [])), (10, (bo true)), (15, (i6 r621.1)), (17, (.d (.list 2 (a0.map e_resource_part_int_)))), (18, (i6 (a0.length : Int))), (19, (i6 s1.1)), (23, (.d (.list 2 (a1.map e_resource_part_int_)))), (24, (i6 (a1.length : Int))), (25, (i6 s433.1)), (90, (bo true))] [(1003, some (.box 92 (.st [(.func 70 []), (.func 138 []), (.func 139 [])]))), (1009, some (.box 122 (.d (e_resource_part_int_ s433.2.1)))), (3007, some (.row 122 2 (m619.map e_resource_part_int_)))] hB) (mp [] _ _ hB))
           ·replace h := ite_f hg627 h
            obtain ⟨r628, hr628, h⟩ := bindS h
            refine rg (c (mv hN (q 16)) rfl (c (OpJ.not (L rfl) (q 80)) rfl (c (OpJ.val (v' := .d (.bool false)) (by rw [hg627] <;> rfl) (mv hN (q 81))) rfl (c (gd 82 (ov (.ptr 1003 0 [0]) (fp hN Tryd.underlying92 0 tyS39 _ (q 3)))) rfl (c (gd 82 (lb hN 92 _ (.func 70 []) tyS39 (At.st1 (f := (.func 70 [])) (by rfl) (by rfl) (At.here _) (by first | rfl | omega)) (q 83))) rfl (c (gd 82 (mv hN (q 15))) rfl (c (gd 82 (ov (.ptr 1009 1 [1]) (fp hN Tryd.underlying122 1 tyS3 _ (q 9)))) rfl (c (gd 82 (lb hN 122 _ _ tyS3 (ad _) (q 86))) rfl (cg (gd 82 (OpJ.callVal (args := [(i6 r621.1), (i6 s433.2.1.fto)]) (caps := []) hB fnOk70 [] (cmp_Compare_ac r621.1 s433.2.1.fto r628 hr628) (by kernel_rfl) (L rfl) (by kernel_rfl) (by kernel_rfl) (OpdL.cons (q 85) (OpdL.cons (q 87) OpdL.nil)))) rfl (c (gd 82 (OpJ.gtr (L rfl) (q 88) (Opd.int .i64 (0)))) rfl (c (OpJ.pickF (L rfl) (q 82) (q 89)) rfl cn))))))))))) ?_
            exact hjj625 _ h _ _ (Mat.trans (mp [] [(2, (.d (.list 2 (a1.map e_resource_part_int_)))), (3, (.ptr 1003 0 [])), (7, (.sref 3007 2 0 m619.length)), (9, (.ptr 1009 0 [])), (10, (bo true)), (15, (i6 r621.1)), (17, (.d (.list 2 (a0.map e_resource_part_int_)))), (18, (i6 (a0.length : Int))), (19, (i6 s1.1)), (23, (.d (.list 2 (a1.map e_resource_part_int_)))), (24, (i6 (a1.length : Int))), (25, (i6 s433.1)), (90, (bo (decide ((0 : Int) < r628))))] [(1003, some (.box 92 (.st [(.func 70 []), (.func 138 []), (.func 139 [])]))), (1009, some (.box 122 (.d (e_resource_part_int_ s433.2.1)))), (3007, some (.row 122 2 (m619.map e_resource_part_int_)))] hB) (mp [] _ _ hB))
         ·refine AWp.cond rfl (fun hg629 => ?_) (fun hg629 => ?_)
          ·replace h := ite_t hg629 h
           obtain ⟨hc630, h⟩ := chk_some h
           refine rg (c (mv hN (q 7)) rfl (c (ov (.ptr 1009 0 [0]) (fp hN Tryd.underlying122 0 tyS3 _ (q 9))) rfl (c (lb hN 122 _ _ tyS3 (ad _) (q 66)) rfl (c (mv hN (q 13)) rfl (c (OpJ.coe (v := (.st [(i6 s433.2.1.ffrom), (i6 r612.1)])) (y := (.st [(.int .i64 s433.2.1.ffrom), (.int .i64 r612.1)])) (Co.st (CoL.cons (Co.d _) (CoL.cons (Co.d _) CoL.nil))) rfl (OpJ.build (places := [(0, 1), (1, 1)]) ⟨Tryd.underlying122, fun w => by kernel_rfl⟩ tyZS122 (Opds.cons (q 67) (Opds.cons (q 68) Opds.nil)) (by kernel_rfl) (r := (.st [(i6 s433.2.1.ffrom), (i6 r612.1)])) (by rfl) (L rfl))) rfl (c (OpJ.buildSlice Tryd.underlying83 tyS122 tyZD122 (by rfl) (by decide) (by decide) (Opds.cons (q 69) Opds.nil) (by kernel_rfl) (es := ([(.st [(.int .i64 s433.2.1.ffrom), (.int .i64 r612.1)])] : List D)) (by rfl) (by rfl) (by kernel_rfl) (by simp) (L rfl)) rfl (cg (OpJ.append hB Tryd.underlying83 tyE122 (nm := 1071) (by decide) (es := s433.2.2.map e_resource_part_int_) (ys := ([(resource_part_int_.mk s433.2.1.ffrom r612.1)] : List resource_part_int_).map e_resource_part_int_) (es' := (s433.2.2 ++ ([(resource_part_int_.mk s433.2.1.ffrom r612.1)] : List resource_part_int_)).map e_resource_part_int_) (len := (s433.2.2 ++ ([(resource_part_int_.mk s433.2.1.ffrom r612.1)] : List resource_part_int_)).length) (by simp) (by simp) (map_sz (f := e_resource_part_int_) (fun _ => rfl)) (by rw [List.length_map]; exact lim_mulN hc630 (by decide)) (by rw [List.length_map]; exact lim_leN hc630) (L rfl) (by simp) (q 65) (q 70)) rfl (c (OpJ.assign (L rfl) (q 71)) rfl cn)))))))) ?_
           exact hjj620 _ h _ _ (Mat.trans (mp [] [(2, (.d (.list 2 (a1.map e_resource_part_int_)))), (3, (.ptr 1003 0 [])), (7, (.sref 1071 2 0 ((s433.2.2 ++ ([(resource_part_int_.mk s433.2.1.ffrom r612.1)] : List resource_part_int_)).length))), (9, (.ptr 1009 0 [])), (10, (bo true)), (12, (.ptr 1012 0 [])), (17, (.d (.list 2 (a0.map e_resource_part_int_)))), (18, (i6 (a0.length : Int))), (19, (i6 s1.1)), (23, (.d (.list 2 (a1.map e_resource_part_int_)))), (24, (i6 (a1.length : Int))), (25, (i6 s433.1))] [(1003, some (.box 92 (.st [(.func 70 []), (.func 138 []), (.func 139 [])]))), (1009, some (.box 122 (.d (e_resource_part_int_ s433.2.1)))), (1012, some (.box 122 (.d (e_resource_part_int_ x604)))), (1071, some (.row 122 2 ((s433.2.2 ++ ([(resource_part_int_.mk s433.2.1.ffrom r612.1)] : List resource_part_int_)).map e_resource_part_int_)))] hB) (mp [(3007, 1071)] _ _ hB))
          ·replace h := ite_f hg629 h
           refine AWp.skip ?_
           exact hjj620 _ h _ _ (mp [] _ _ hB)
        ·rcases Bool.eq_false_or_eq_true r612.2 with hg631 | hg631
         ·replace h := ite_t hg631 h
          obtain ⟨r632, hr632, h⟩ := bindS h
          refine rg (c (mv hN (q 14)) rfl (c (OpJ.val (v' := .d (.bool true)) (by rw [hg631] <;> rfl) (mv hN (q 55))) rfl (c (gd 56 (ov (.ptr 1003 0 [0]) (fp hN Tryd.underlying92 0 tyS39 _ (q 3)))) rfl (c (gd 56 (lb hN 92 _ (.func 70 []) tyS39 (At.st1 (f := (.func 70 [])) (by rfl) (by rfl) (At.here _) (by first | rfl | omega)) (q 57))) rfl (c (gd 56 (ov (.ptr 1009 0 [0]) (fp hN Tryd.underlying122 0 tyS3 _ (q 9)))) rfl (c (gd 56 (lb hN 122 _ _ tyS3 (ad _) (q 59))) rfl (c (gd 56 (mv hN (q 13))) rfl (cg (gd 56 (OpJ.callVal (args := [(i6 s433.2.1.ffrom), (i6 r612.1)]) (caps := []) hB fnOk70 [] (cmp_Compare_ac s433.2.1.ffrom r612.1 r632 hr632) (by kernel_rfl) (L rfl) (by kernel_rfl) (by kernel_rfl) (OpdL.cons (q 60) (OpdL.cons (q 61) OpdL.nil)))) rfl (c (gd 56 (OpJ.leq (L rfl) (q 62) (Opd.int .i64 (0)))) rfl (c (OpJ.pickT (L rfl) (q 56) (q 63)) rfl cn)))))))))) ?_
          exact hjj616 _ h _ _ (Mat.trans (mp [] [(2, (.d (.list 2 (a1.map e_resource_part_int_)))), (3, (.ptr 1003 0 [])), (7, (.sref 3007 2 0 s433.2.2.length)), (9, (.ptr 1009 0 [])), (10, (bo true)), (12, (.ptr 1012 0 [])), (13, (i6 r612.1)), (17, (.d (.list 2 (a0.map e_resource_part_int_)))), (18, (i6 (a0.length : Int))), (19, (i6 s1.1)), (23, (.d (.list 2 (a1.map e_resource_part_int_)))), (24, (i6 (a1.length : Int))), (25, (i6 s433.1)), (64, (bo (decide (r632 ≤ (0 : Int)))))] [(1003, some (.box 92 (.st [(.func 70 []), (.func 138 []), (.func 139 [])]))), (1009, some (.box 122 (.d (e_resource_part_int_ s433.2.1)))), (1012, some (.box 122 (.d (e_resource_part_int_ x604)))), (3007, some (.row 122 2 (s433.2.2.map e_resource_part_int_)))] hB) (mp [] _ _ hB))
         ·replace h := ite_f hg631 h
          refine rg (c (mv hN (q 14)) rfl (c (OpJ.val (v' := .d (.bool false)) (by rw [hg631] <;> rfl) (mv hN (q 55))) rfl (cg (sU 56 (L rfl)) rfl (cg (sU 56 (L rfl)) rfl (cg (sU 56 (L rfl)) rfl (cg (sU 56 (L rfl)) rfl (cg (sU 56 (L rfl)) rfl (cg (sU 56 (L rfl)) rfl (cg (sU 56 (L rfl)) rfl (c (OpJ.pickF (L rfl) (q 56) (Opd.bool false)) rfl cn)))))))))) ?_
          exact hjj616 _ h _ _ (Mat.trans (mp [] [(2, (.d (.list 2 (a1.map e_resource_part_int_)))), (3, (.ptr 1003 0 [])), (7, (.sref 3007 2 0 s433.2.2.length)), (9, (.ptr 1009 0 [])), (10, (bo true)), (12, (.ptr 1012 0 [])), (13, (i6 r612.1)), (17, (.d (.list 2 (a0.map e_resource_part_int_)))), (18, (i6 (a0.length : Int))), (19, (i6 s1.1)), (23, (.d (.list 2 (a1.map e_resource_part_int_)))), (24, (i6 (a1.length : Int))), (25, (i6 s433.1)), (64, (bo false))] [(1003, some (.box 92 (.st [(.func 70 []), (.func 138 []), (.func 139 [])]))), (1009, some (.box 122 (.d (e_resource_part_int_ s433.2.1)))), (1012, some (.box 122 (.d (e_resource_part_int_ x604)))), (3007, some (.row 122 2 (s433.2.2.map e_resource_part_int_)))] hB) (mp [] _ _ hB))
      ·obtain ⟨r633, hr633, h⟩ := bindS h
       rcases Bool.eq_false_or_eq_true (decide (r633 < (0 : Int))) with hg634 | hg634
       ·replace h := ite_t hg634 h
        refine rg (c (ov (.ptr 1003 0 [0]) (fp hN Tryd.underlying92 0 tyS39 _ (q 3))) rfl (c (lb hN 92 _ (.func 70 []) tyS39 (At.st1 (f := (.func 70 [])) (by rfl) (by rfl) (At.here _) (by first | rfl | omega)) (q 29)) rfl (c (ov (.ptr 1012 1 [1]) (fp hN Tryd.underlying122 1 tyS3 _ (q 12))) rfl (c (lb hN 122 _ _ tyS3 (ad _) (q 31)) rfl (c (ov (.ptr 1009 0 [0]) (fp hN Tryd.underlying122 0 tyS3 _ (q 9))) rfl (c (lb hN 122 _ _ tyS3 (ad _) (q 33)) rfl (cg (OpJ.callVal (args := [(i6 x604.fto), (i6 s433.2.1.ffrom)]) (caps := []) hB fnOk70 [] (cmp_Compare_ac x604.fto s433.2.1.ffrom r633 hr633) (by kernel_rfl) (L rfl) (by kernel_rfl) (by kernel_rfl) (OpdL.cons (q 32) (OpdL.cons (q 34) OpdL.nil))) rfl (c (OpJ.lss (L rfl) (q 35) (Opd.int .i64 (0))) rfl (c (OpJ.val (v' := .d (.bool true)) (by rw [hg634] <;> rfl) (mv hN (q 36))) rfl (cg (sU 37 (L rfl)) rfl (cg (sU 37 (L rfl)) rfl (cg (sU 37 (L rfl)) rfl (cg (sU 37 (L rfl)) rfl (cg (sU 37 (L rfl)) rfl (cg (sU 37 (L rfl)) rfl (cg (sU 37 (L rfl)) rfl (cg (sU 37 (L rfl)) rfl (c (OpJ.pickT (L rfl) (q 37) (Opd.bool true)) rfl cn)))))))))))))))))) ?_
        exact hjj610 _ h _ _ (Mat.trans (mp [] [(2, (.d (.list 2 (a1.map e_resource_part_int_)))), (3, (.ptr 1003 0 [])), (7, (.sref 3007 2 0 s433.2.2.length)), (9, (.ptr 1009 0 [])), (10, (bo true)), (12, (.ptr 1012 0 [])), (17, (.d (.list 2 (a0.map e_resource_part_int_)))), (18, (i6 (a0.length : Int))), (19, (i6 s1.1)), (23, (.d (.list 2 (a1.map e_resource_part_int_)))), (24, (i6 (a1.length : Int))), (25, (i6 s433.1)), (46, (bo true))] [(1003, some (.box 92 (.st [(.func 70 []), (.func 138 []), (.func 139 [])]))), (1009, some (.box 122 (.d (e_resource_part_int_ s433.2.1)))), (1012, some (.box 122 (.d (e_resource_part_int_ x604)))), (3007, some (.row 122 2 (s433.2.2.map e_resource_part_int_)))] hB) (mp [] _ _ hB))
       ·replace h := ite_f hg634 h
        obtain ⟨r635, hr635, h⟩ := bindS h
        refine rg (c (ov (.ptr 1003 0 [0]) (fp hN Tryd.underlying92 0 tyS39 _ (q 3))) rfl (c (lb hN 92 _ (.func 70 []) tyS39 (At.st1 (f := (.func 70 [])) (by rfl) (by rfl) (At.here _) (by first | rfl | omega)) (q 29)) rfl (c (ov (.ptr 1012 1 [1]) (fp hN Tryd.underlying122 1 tyS3 _ (q 12))) rfl (c (lb hN 122 _ _ tyS3 (ad _) (q 31)) rfl (c (ov (.ptr 1009 0 [0]) (fp hN Tryd.underlying122 0 tyS3 _ (q 9))) rfl (c (lb hN 122 _ _ tyS3 (ad _) (q 33)) rfl (cg (OpJ.callVal (args := [(i6 x604.fto), (i6 s433.2.1.ffrom)]) (caps := []) hB fnOk70 [] (cmp_Compare_ac x604.fto s433.2.1.ffrom r633 hr633) (by kernel_rfl) (L rfl) (by kernel_rfl) (by kernel_rfl) (OpdL.cons (q 32) (OpdL.cons (q 34) OpdL.nil))) rfl (c (OpJ.lss (L rfl) (q 35) (Opd.int .i64 (0))) rfl (c (OpJ.val (v' := .d (.bool false)) (by rw [hg634] <;> rfl) (mv hN (q 36))) rfl (c (gd 37 (ov (.ptr 1003 0 [0]) (fp hN Tryd.underlying92 0 tyS39 _ (q 3)))) rfl (c (gd 37 (lb hN 92 _ (.func 70 []) tyS39 (At.st1 (f := (.func 70 [])) (by rfl) (by rfl) (At.here _) (by first | rfl | omega)) (q 38))) rfl (c (gd 37 (ov (.ptr 1012 0 [0]) (fp hN Tryd.underlying122 0 tyS3 _ (q 12)))) rfl (c (gd 37 (lb hN 122 _ _ tyS3 (ad _) (q 40))) rfl (c (gd 37 (ov (.ptr 1009 1 [1]) (fp hN Tryd.underlying122 1 tyS3 _ (q 9)))) rfl (c (gd 37 (lb hN 122 _ _ tyS3 (ad _) (q 42))) rfl (cg (gd 37 (OpJ.callVal (args := [(i6 x604.ffrom), (i6 s433.2.1.fto)]) (caps := []) hB fnOk70 [] (cmp_Compare_ac x604.ffrom s433.2.1.fto r635 hr635) (by kernel_rfl) (L rfl) (by kernel_rfl) (by kernel_rfl) (OpdL.cons (q 41) (OpdL.cons (q 43) OpdL.nil)))) rfl (c (gd 37 (OpJ.gtr (L rfl) (q 44) (Opd.int .i64 (0)))) rfl (c (OpJ.pickF (L rfl) (q 37) (q 45)) rfl cn)))))))))))))))))) ?_
        exact hjj610 _ h _ _ (Mat.trans (mp [] [(2, (.d (.list 2 (a1.map e_resource_part_int_)))), (3, (.ptr 1003 0 [])), (7, (.sref 3007 2 0 s433.2.2.length)), (9, (.ptr 1009 0 [])), (10, (bo true)), (12, (.ptr 1012 0 [])), (17, (.d (.list 2 (a0.map e_resource_part_int_)))), (18, (i6 (a0.length : Int))), (19, (i6 s1.1)), (23, (.d (.list 2 (a1.map e_resource_part_int_)))), (24, (i6 (a1.length : Int))), (25, (i6 s433.1)), (46, (bo (decide ((0 : Int) < r635))))] [(1003, some (.box 92 (.st [(.func 70 []), (.func 138 []), (.func 139 [])]))), (1009, some (.box 122 (.d (e_resource_part_int_ s433.2.1)))), (1012, some (.box 122 (.d (e_resource_part_int_ x604)))), (3007, some (.row 122 2 (s433.2.2.map e_resource_part_int_)))] hB) (mp [] _ _ hB))
    ·replace h := ite_f hg569 h
     refine AWp.exit ?_
     refine seqQ_e ?_
     obtain rfl := Option.some.inj h
     exact ⟨(fun hc => by cases hc), rfl, (mp [] _ _ hB)⟩
   ·obtain ⟨rfl, hmat⟩ := hR
    refine blkQ_hit ?_
    refine seqQ_n ?_
    refine AWp.ghost hmat ?_
    refine sr (c (mv hN (q 10)) rfl cn) ?_
    refine gh [(2, _), (3, _), (7, _), (9, _), (17, _), (18, _), (19, _), (94, _)] [(1003, some _), (1009, some _), (3007, some _)] hB rfl rfl (by rfl) ?_
    refine AWp.cut h (fun m640 : (List resource_part_int_) => ([(2, (.d (.list 2 (a1.map e_resource_part_int_)))), (3, (.ptr 1003 0 [])), (7, (.sref 3007 2 0 m640.length)), (17, (.d (.list 2 (a0.map e_resource_part_int_)))), (18, (i6 (a0.length : Int))), (19, (i6 s1.1))] : EL)) (fun m640 : (List resource_part_int_) => ([(1003, some (.box 92 (.st [(.func 70 []), (.func 138 []), (.func 139 [])]))), (3007, some (.row 122 2 (m640.map e_resource_part_int_)))] : OL)) (fun m640 h E' O' hmat => ?_) (fun j641 hjj641 h => ?_)
    ·refine blkQ_n ?_
     refine seqQ_n ?_
     refine AWp.ghost hmat ?_
     refine rg (c (add6 (L rfl) (q 19) (Opd.int .i64 (1))) rfl (c (mv hN (q 99)) rfl cn)) ?_
     obtain rfl := Option.some.inj h
     exact ⟨rfl, (Mat.trans (mp [] [(2, (.d (.list 2 (a1.map e_resource_part_int_)))), (3, (.ptr 1003 0 [])), (7, (.sref 3007 2 0 m640.length)), (17, (.d (.list 2 (a0.map e_resource_part_int_)))), (18, (i6 (a0.length : Int))), (19, (i6 (w64 (s1.1 + (1 : Int)))))] [(1003, some (.box 92 (.st [(.func 70 []), (.func 138 []), (.func 139 [])]))), (3007, some (.row 122 2 (m640.map e_resource_part_int_)))] hB) (mp [] _ _ hB))⟩
    ·refine AWp.cond rfl (fun hg642 => ?_) (fun hg642 => ?_)
     ·replace h := ite_t hg642 h
      obtain ⟨hc643, h⟩ := chk_some h
      refine rg (c (mv hN (q 7)) rfl (c (lb hN 122 _ _ tyS122 (At.here _) (q 9)) rfl (c (OpJ.buildSlice Tryd.underlying83 tyS122 tyZD122 (by rfl) (by decide) (by decide) (Opds.cons (q 96) Opds.nil) (by kernel_rfl) (es := ([(e_resource_part_int_ p568.2.1)] : List D)) (by rfl) (by rfl) (by kernel_rfl) (by simp) (L rfl)) rfl (cg (OpJ.append hB Tryd.underlying83 tyE122 (nm := 1098) (by decide) (es := p568.2.2.map e_resource_part_int_) (ys := ([p568.2.1] : List resource_part_int_).map e_resource_part_int_) (es' := (p568.2.2 ++ ([p568.2.1] : List resource_part_int_)).map e_resource_part_int_) (len := (p568.2.2 ++ ([p568.2.1] : List resource_part_int_)).length) (by simp) (by simp) (map_sz (f := e_resource_part_int_) (fun _ => rfl)) (by rw [List.length_map]; exact lim_mulN hc643 (by decide)) (by rw [List.length_map]; exact lim_leN hc643) (L rfl) (by simp) (q 95) (q 97)) rfl (c (OpJ.assign (L rfl) (q 98)) rfl cn))))) ?_
      exact hjj641 _ h _ _ (Mat.trans (mp [] [(2, (.d (.list 2 (a1.map e_resource_part_int_)))), (3, (.ptr 1003 0 [])), (7, (.sref 1098 2 0 ((p568.2.2 ++ ([p568.2.1] : List resource_part_int_)).length))), (17, (.d (.list 2 (a0.map e_resource_part_int_)))), (18, (i6 (a0.length : Int))), (19, (i6 s1.1))] [(1003, some (.box 92 (.st [(.func 70 []), (.func 138 []), (.func 139 [])]))), (1098, some (.row 122 2 ((p568.2.2 ++ ([p568.2.1] : List resource_part_int_)).map e_resource_part_int_)))] hB) (mp [(3007, 1098)] _ _ hB))
     ·replace h := ite_f hg642 h
      refine AWp.skip ?_
      exact hjj641 _ h _ _ (mp [] _ _ hB)
  ·replace h := ite_f hg431 h
   refine AWp.exit ?_
   refine seqQ_e ?_
   obtain rfl := Option.some.inj h
   exact ⟨(fun hc => by cases hc), rfl, (mp [] _ _ hB)⟩
 ·obtain ⟨rfl, hmat⟩ := hR
  refine blkQ_hit ?_
  refine seqQ_n ?_
  refine AWp.ghost hmat ?_
  refine sr (c (mv hN (q 7)) rfl (c (OpJ.assign (L rfl) (q 100)) rfl cn)) ?_
  refine gh [(6, _)] [(3007, some _)] hB rfl rfl (by rfl) ?_
  refine AWp.ret ?_
  obtain rfl := Option.some.inj h
  exact ⟨.inl rfl, _, _, (Mat.trans (Mat.freezeP (n := 3007) (e := 122) (sz := 2) (es := p430.map e_resource_part_int_) (Ts := [(6, (.d (.list 2 (p430.map e_resource_part_int_))))]) (Bs := []) (by rfl) (TwT.cons (x := (.sref 3007 2 0 p430.length)) (by rfl) (FrzL.all (by first | rfl | (simp; done) | (simp; omega) | omega)) TwT.nil) TwB.nil) (mp [] [(6, (.d (.list 2 (p430.map e_resource_part_int_))))] [] hB)), [(.d (.list 2 (p430.map e_resource_part_int_)))], (Res.tmp (by rfl) (by rfl) Res.nil), rfl, by rfl, by rfl, by rfl⟩

noncomputable def resource_set_minus (a0 : resource_set) (a1 : resource_set) : Option (resource_set) :=
 (resource_order_minus a0.faddrs a1.faddrs).bind fun r1 =>
 (resource_order_minus_2 a0.fasns a1.fasns).bind fun r2 =>
 some (resource_set.mk r1 r2)
theorem resource_set_minus_ac (a0 : resource_set) (a1 : resource_set) (r : resource_set) (h : resource_set_minus a0 a1 = some r) : AC Tryd.prog 64 [(.d (e_resource_set a0)), (.d (e_resource_set a1))] [(500, (.know (globF 0 [35, 37, 137]))), (501, (.know (globF 1 [70, 138, 139])))] (.d (e_resource_set r)) [(500, some (.know (globF 0 [35, 37, 137]))), (501, some (.know (globF 1 [70, 138, 139])))] := by
 refine AC.of_code2 Tryd.func64 rfl rfl (Nat.le_of_ble_eq_true (by rfl)) fun B hB hN => ?_
 delta resource_set_minus at h
 refine sr (cg (OpJ.box hB (nm := 1002) (by decide) (by simp) rfl (ltN hN rfl) (q 0)) rfl (cg (OpJ.box hB (nm := 1003) (by decide) (by simp) rfl (ltN hN rfl) (q 1)) rfl (cg (OpJ.alloc hB tyZ85 (nm := 1004) (by decide) (ltN hN rfl)) rfl cn))) ?_
 refine gh [(2, _), (3, _), (4, _)] [(500, some _), (501, some _), (1002, some _), (1003, some _), (1004, some _)] hB rfl rfl (by rfl) ?_
 obtain ⟨r1, hr1, h⟩ := bindS h
 obtain ⟨r2, hr2, h⟩ := bindS h
 refine sd (cg (OpJ.loadG (nm := 500) [35, 37, 137] tyS88 rfl (ltN hN rfl)) rfl (c (ov (.ptr 1002 0 [0]) (fp hN Tryd.underlying85 0 tyS82 _ (q 2))) rfl (c (lb hN 85 _ _ tyS82 (ad _) (q 6)) rfl (c (ov (.ptr 1003 0 [0]) (fp hN Tryd.underlying85 0 tyS82 _ (q 3))) rfl (c (lb hN 85 _ _ tyS82 (ad _) (q 8)) rfl (cg (OpJ.callFn hB fnOk85 (resource_order_minus_ac a0.faddrs a1.faddrs r1 hr1) [] (by kernel_rfl) (ltN hN rfl) (by kernel_rfl) (OpdL.cons (q 5) (OpdL.cons (q 7) (OpdL.cons (q 9) OpdL.nil)))) rfl (cg (OpJ.loadG (nm := 501) [70, 138, 139] tyS92 rfl (ltN hN rfl)) rfl (c (ov (.ptr 1002 1 [1]) (fp hN Tryd.underlying85 1 tyS83 _ (q 2))) rfl (c (lb hN 85 _ _ tyS83 (ad _) (q 12)) rfl (c (ov (.ptr 1003 1 [1]) (fp hN Tryd.underlying85 1 tyS83 _ (q 3))) rfl (c (lb hN 85 _ _ tyS83 (ad _) (q 14)) rfl (cg (OpJ.callFn hB fnOk86 (resource_order_minus_2_ac a0.fasns a1.fasns r2 hr2) [] (by kernel_rfl) (ltN hN rfl) (by kernel_rfl) (OpdL.cons (q 11) (OpdL.cons (q 13) (OpdL.cons (q 15) OpdL.nil)))) rfl (c (OpJ.coe (v := (.st [(qe_api_Addr__6 r1), (.d (.list 2 (r2.map e_resource_part_int_)))])) (y := (.st [(.list 6 (r1.map e_api_Addr_)), (.list 2 (r2.map e_resource_part_int_))])) (Co.st (CoL.cons (Co.d _) (CoL.cons (Co.d _) CoL.nil))) rfl (OpJ.build (places := [(0, 1), (1, 1)]) ⟨Tryd.underlying85, fun w => by kernel_rfl⟩ tyZS85 (Opds.cons (q 10) (Opds.cons (q 16) Opds.nil)) (by kernel_rfl) (r := (.st [(qe_api_Addr__6 r1), (.d (.list 2 (r2.map e_resource_part_int_)))])) (by rfl) (ltN hN rfl))) rfl (cg (OpJ.storeB tyS85 (SetAt.here _ _) (by rfl) (by rfl) (by simp) rfl (q 4) (q 17)) rfl cn)))))))))))))) (by kernel_rfl) (by kernel_rfl) ?_
 refine gh [(4, _)] [(500, some _), (501, some _), (1004, some _)] hB rfl rfl (by rfl) ?_
 refine AWp.ret ?_
 obtain rfl := Option.some.inj h
 exact ⟨.inl rfl, _, _, (kp [(4, _)] [(500, some _), (501, some _), (1004, some _)] hB rfl rfl (by rfl)), [(.d (.st [(.list 6 (r1.map e_api_Addr_)), (.list 2 (r2.map e_resource_part_int_))]))], (Res.cell (c := (.d (.st [(.list 6 (r1.map e_api_Addr_)), (.list 2 (r2.map e_resource_part_int_))]))) (by rfl) (by rfl) tyS85 (by rfl) (by rfl) (by rfl) Res.nil), rfl, by rfl, by rfl, by rfl⟩

noncomputable def resource_Intersect (a0 : api_Resources) (a1 : api_Resources) : Option (api_Resources × Int) :=
 jn (fun m5 : Bool =>
 (if m5 = true then
 some ((api_Resources.mk ([] : List api_Range) ([] : List api_Span)), (1 : Int))
 else
 (resource_of a0).bind fun r8 =>
 (resource_of a1).bind fun r9 =>
 (resource_set_minus r8 r9).bind fun r10 =>
 (resource_set_minus r8 r10).bind fun r11 =>
 (resource_set_resources r11).bind fun r12 =>
 some (r12.1, r12.2))) (fun j6 =>
 (resource_Valid a0).bind fun r13 =>
 (if (!r13) = true then
 j6 true
 else
 (resource_Valid a1).bind fun r15 =>
 j6 (!r15)))
theorem resource_Intersect_ac (a0 : api_Resources) (a1 : api_Resources) (r : api_Resources × Int) (h : resource_Intersect a0 a1 = some r) : AC Tryd.prog 30 [(.d (e_api_Resources a0)), (.d (e_api_Resources a1))] [(500, (.know (globF 0 [35, 37, 137]))), (501, (.know (globF 1 [70, 138, 139])))] (.tup [(.d (e_api_Resources r.1)), (.d (.int .i64 r.2))]) [(500, some (.know (globF 0 [35, 37, 137]))), (501, some (.know (globF 1 [70, 138, 139])))] := by
 refine AC.of_code2 Tryd.func30 rfl rfl (Nat.le_of_ble_eq_true (by rfl)) fun B hB hN => ?_
 have L {d : Nat} (h : Nat.blt d Tryd.f30.ntmps = true) : d < B.N := ltN hN h
 delta resource_Intersect at h
 refine sr (cg (OpJ.box hB (nm := 1002) (by decide) (by simp) rfl (L rfl) (q 0)) rfl (cg (OpJ.box hB (nm := 1003) (by decide) (by simp) rfl (L rfl) (q 1)) rfl (cg (OpJ.alloc hB tyZ28 (nm := 1004) (by decide) (L rfl)) rfl (c (OpJ.assign (L rfl) (Opd.int .i64 (0))) rfl cn)))) ?_
 refine gh [(2, _), (3, _), (4, _)] [(500, some _), (501, some _), (1002, some _), (1003, some _), (1004, some _)] hB rfl rfl (by rfl) ?_
 refine AWp.seq ?_
 refine AWp.seq ?_
 refine AWp.cut h (fun m5 : Bool => ([(2, (.ptr 1002 0 [])), (3, (.ptr 1003 0 [])), (4, (.ptr 1004 0 [])), (14, (bo m5))] : EL)) (fun m5 : Bool => ([(500, some (.know (globF 0 [35, 37, 137]))), (501, some (.know (globF 1 [70, 138, 139]))), (1002, some (.box 28 (.d (e_api_Resources a0)))), (1003, some (.box 28 (.d (e_api_Resources a1)))), (1004, some (.box 28 (.st [.nils, .nils])))] : OL)) (fun m5 h E' O' hmat => ?_) (fun j6 hjj6 h => ?_)
 ·refine seqQ_n ?_
  refine AWp.ghost hmat ?_
  refine AWp.cond rfl (fun hg7 => ?_) (fun hg7 => ?_)
  ·replace h := ite_t hg7 h
   refine sr (c (OpJ.build (places := [(0, 1), (1, 1)]) ⟨Tryd.underlying28, fun w => by kernel_rfl⟩ tyZS28 Opds.nil (by kernel_rfl) (r := (.st [.nils, .nils])) (by rfl) (L rfl)) rfl (cg (OpJ.storeB tyS28 (SetAt.here _ _) (by rfl) (by rfl) (by simp) rfl (q 4) (q 15)) rfl (c (OpJ.assign (L rfl) (Opd.int .i64 (1))) rfl cn))) ?_
   refine gh [(4, _), (5, _)] [(500, some _), (501, some _), (1004, some _)] hB rfl rfl (by rfl) ?_
   refine AWp.ret ?_
   refine seqQ_r ?_
   obtain rfl := Option.some.inj h
   exact ⟨.inl rfl, _, _, (Mat.trans (Mat.coeP (Ts := []) (Bs := [(1004, some (.box 28 (.d (.st [(.list 6 (([] : List api_Range).map e_api_Range)), (.list 2 (([] : List api_Span).map e_api_Span))]))))]) TwT.nil (TwB.cons (x := (.st [.nils, .nils])) (by rfl) (Tw.leaf ⟨_, (Co.st (CoL.cons (Co.nils 6) (CoL.cons (Co.nils 2) CoL.nil))), rfl⟩) TwB.nil)) (mp [] [(4, (.ptr 1004 0 [])), (5, (i6 1))] [(500, some (.know (globF 0 [35, 37, 137]))), (501, some (.know (globF 1 [70, 138, 139]))), (1004, some (.box 28 (.d (.st [(.list 6 (([] : List api_Range).map e_api_Range)), (.list 2 (([] : List api_Span).map e_api_Span))]))))] hB)), [(.d (.st [(.list 6 (([] : List api_Range).map e_api_Range)), (.list 2 (([] : List api_Span).map e_api_Span))])), (i6 1)], (Res.cell (c := (.d (.st [(.list 6 (([] : List api_Range).map e_api_Range)), (.list 2 (([] : List api_Span).map e_api_Span))]))) (by rfl) (by rfl) tyS28 (by rfl) (by rfl) (by rfl) (Res.tmp (by rfl) (by rfl) Res.nil)), rfl, by rfl, by rfl, by rfl⟩
  ·replace h := ite_f hg7 h
   refine AWp.skip ?_
   refine seqQ_n ?_
   obtain ⟨r8, hr8, h⟩ := bindS h
   refine sr (c (lb hN 28 _ _ tyS28 (At.here _) (q 2)) rfl (cg (cf hB fnOk49 (resource_of_ac a0 r8 hr8) (L rfl) (OpdL.cons (q 16) OpdL.nil)) rfl (cg (OpJ.alloc hB tyZ85 (nm := 1006) (by decide) (L rfl)) rfl (cg (OpJ.storeB tyS85 (SetAt.here _ _) (by rfl) (by rfl) (by simp) rfl (q 6) (q 17)) rfl cn)))) ?_
   refine gh [(3, _), (4, _), (6, _)] [(500, some _), (501, some _), (1003, some _), (1004, some _), (1006, some _)] hB rfl rfl (by rfl) ?_
   refine AWp.seq ?_
   obtain ⟨r9, hr9, h⟩ := bindS h
   obtain ⟨r10, hr10, h⟩ := bindS h
   obtain ⟨r11, hr11, h⟩ := bindS h
   obtain ⟨r12, hr12, h⟩ := bindS h
   refine AWp.draws (by kernel_rfl) (oc (lb hN 85 (.d (e_resource_set r8)) (.d (e_resource_set r8)) tyS85 (At.here _) (ot 6 (.ptr 1006 0 [])))
    (oc (lb hN 85 (.d (e_resource_set r8)) (.d (e_resource_set r8)) tyS85 (At.here _) (ot 6 (.ptr 1006 0 [])))
    (oc (lb hN 28 (.d (e_api_Resources a1)) (.d (e_api_Resources a1)) tyS28 (At.here _) (ot 3 (.ptr 1003 0 [])))
    (oc (cf hB fnOk49 (resource_of_ac a1 r9 hr9) (L rfl) (OpdL.cons (ot 20 (.d (e_api_Resources a1))) OpdL.nil))
    (oc (OpJ.callFn hB fnOk64 (resource_set_minus_ac r8 r9 r10 hr10) [(500, 500), (501, 501)] (by kernel_rfl) (L rfl) (by kernel_rfl) (OpdL.cons (ot 19 (.d (e_resource_set r8))) (OpdL.cons (ot 21 (.d (e_resource_set r9))) OpdL.nil)))
    (oc (OpJ.callFn hB fnOk64 (resource_set_minus_ac r8 r10 r11 hr11) [(500, 500), (501, 501)] (by kernel_rfl) (L rfl) (by kernel_rfl) (OpdL.cons (ot 18 (.d (e_resource_set r8))) (OpdL.cons (ot 22 (.d (e_resource_set r10))) OpdL.nil)))
    (oc (cf hB fnOk57 (resource_set_resources_ac r11 r12 hr12) (L rfl) (OpdL.cons (ot 23 (.d (e_resource_set r11))) OpdL.nil))
    (oc (OpJ.extract (v := (.d (e_api_Resources r12.1))) (by rfl) rfl (L rfl) (ot 24 (.tup [(.d (e_api_Resources r12.1)), (i6 r12.2)])))
    (oc (OpJ.extract (v := (i6 r12.2)) (by rfl) rfl (L rfl) (ot 24 (.tup [(.d (e_api_Resources r12.1)), (i6 r12.2)])))
    (oc (OpJ.storeB (bt := 28) (c := (.st [.nils, .nils])) (v := (.d (e_api_Resources r12.1))) (c' := (.d (e_api_Resources r12.1))) tyS28 (SetAt.here _ _) (by rfl) (by rfl) (by simp) rfl (ot 4 (.ptr 1004 0 [])) (ot 25 (.d (e_api_Resources r12.1))))
    (oc (OpJ.assign (L rfl) (ot 26 (i6 r12.2)))
    (OpJs.nil)))))))))))) (by kernel_rfl) (by rfl) (by rfl) ?_
   refine seqQ_n ?_
   refine AWp.ghost (mp [] [(4, (.ptr 1004 0 [])), (5, (i6 r12.2))] [(500, some (.know (globF 0 [35, 37, 137]))), (501, some (.know (globF 1 [70, 138, 139]))), (1004, some (.box 28 (.d (e_api_Resources r12.1))))] hB) ?_
   refine AWp.ret ?_
   obtain rfl := Option.some.inj h
   exact ⟨.inl rfl, _, _, (kp [(4, _), (5, _)] [(500, some _), (501, some _), (1004, some _)] hB rfl rfl (by rfl)), [(.d (e_api_Resources r12.1)), (i6 r12.2)], (Res.cell (c := (.d (e_api_Resources r12.1))) (by rfl) (by rfl) tyS28 (by rfl) (by rfl) (by rfl) (Res.tmp (by rfl) (by rfl) Res.nil)), rfl, by rfl, by rfl, by rfl⟩
 ·obtain ⟨r13, hr13, h⟩ := bindS h
  rcases Bool.eq_false_or_eq_true (!r13) with hg14 | hg14
  ·replace h := ite_t hg14 h
   refine AWp.region (oc (lb hN 28 (.d (e_api_Resources a0)) (.d (e_api_Resources a0)) tyS28 (At.here _) (ot 2 (.ptr 1002 0 [])))
    (oc (OpJ.callFn hB fnOk20 (resource_Valid_ac a0 r13 hr13) [(500, 500), (501, 501)] (by kernel_rfl) (L rfl) (by kernel_rfl) (OpdL.cons (ot 7 (.d (e_api_Resources a0))) OpdL.nil))
    (oc (OpJ.not (L rfl) (ot 8 (bo r13)))
    (oc (OpJ.val (v' := .d (.bool true)) (by rw [hg14] <;> rfl) (mv hN (ot 9 (bo (!r13)))))
    (oc (sU 10 (L rfl))
    (oc (sU 10 (L rfl))
    (oc (sU 10 (L rfl))
    (oc (OpJ.pickT (L rfl) (ot 10 (bo true)) (Opd.bool true))
    (OpJs.nil))))))))) (by rfl) (by rfl) ?_
   exact hjj6 _ h _ _ (Mat.trans (mp [] [(2, (.ptr 1002 0 [])), (3, (.ptr 1003 0 [])), (4, (.ptr 1004 0 [])), (14, (bo true))] [(500, some (.know (globF 0 [35, 37, 137]))), (501, some (.know (globF 1 [70, 138, 139]))), (1002, some (.box 28 (.d (e_api_Resources a0)))), (1003, some (.box 28 (.d (e_api_Resources a1)))), (1004, some (.box 28 (.st [.nils, .nils])))] hB) (mp [] _ _ hB))
  ·replace h := ite_f hg14 h
   obtain ⟨r15, hr15, h⟩ := bindS h
   refine AWp.region (oc (lb hN 28 (.d (e_api_Resources a0)) (.d (e_api_Resources a0)) tyS28 (At.here _) (ot 2 (.ptr 1002 0 [])))
    (oc (OpJ.callFn hB fnOk20 (resource_Valid_ac a0 r13 hr13) [(500, 500), (501, 501)] (by kernel_rfl) (L rfl) (by kernel_rfl) (OpdL.cons (ot 7 (.d (e_api_Resources a0))) OpdL.nil))
    (oc (OpJ.not (L rfl) (ot 8 (bo r13)))
    (oc (OpJ.val (v' := .d (.bool false)) (by rw [hg14] <;> rfl) (mv hN (ot 9 (bo (!r13)))))
    (oc (gd 10 (lb hN 28 (.d (e_api_Resources a1)) (.d (e_api_Resources a1)) tyS28 (At.here _) (ot 3 (.ptr 1003 0 []))))
    (oc (gd 10 (OpJ.callFn hB fnOk20 (resource_Valid_ac a1 r15 hr15) [(500, 500), (501, 501)] (by kernel_rfl) (L rfl) (by kernel_rfl) (OpdL.cons (ot 11 (.d (e_api_Resources a1))) OpdL.nil)))
    (oc (gd 10 (OpJ.not (L rfl) (ot 12 (bo r15))))
    (oc (OpJ.pickF (L rfl) (ot 10 (bo false)) (ot 13 (bo (!r15))))
    (OpJs.nil))))))))) (by rfl) (by rfl) ?_
   exact hjj6 _ h _ _ (Mat.trans (mp [] [(2, (.ptr 1002 0 [])), (3, (.ptr 1003 0 [])), (4, (.ptr 1004 0 [])), (14, (bo (!r15)))] [(500, some (.know (globF 0 [35, 37, 137]))), (501, some (.know (globF 1 [70, 138, 139]))), (1002, some (.box 28 (.d (e_api_Resources a0)))), (1003, some (.box 28 (.d (e_api_Resources a1)))), (1004, some (.box 28 (.st [.nils, .nils])))] hB) (mp [] _ _ hB))

noncomputable def resource_Minus (a0 : api_Resources) (a1 : api_Resources) : Option (api_Resources × Int) :=
 jn (fun m5 : Bool =>
 (if m5 = true then
 some ((api_Resources.mk ([] : List api_Range) ([] : List api_Span)), (1 : Int))
 else
 (resource_of a0).bind fun r8 =>
 (resource_of a1).bind fun r9 =>
 (resource_set_minus r8 r9).bind fun r10 =>
 (resource_set_resources r10).bind fun r11 =>
 some (r11.1, r11.2))) (fun j6 =>
 (resource_Valid a0).bind fun r12 =>
 (if (!r12) = true then
 j6 true
 else
 (resource_Valid a1).bind fun r14 =>
 j6 (!r14)))
theorem resource_Minus_ac (a0 : api_Resources) (a1 : api_Resources) (r : api_Resources × Int) (h : resource_Minus a0 a1 = some r) : AC Tryd.prog 31 [(.d (e_api_Resources a0)), (.d (e_api_Resources a1))] [(500, (.know (globF 0 [35, 37, 137]))), (501, (.know (globF 1 [70, 138, 139])))] (.tup [(.d (e_api_Resources r.1)), (.d (.int .i64 r.2))]) [(500, some (.know (globF 0 [35, 37, 137]))), (501, some (.know (globF 1 [70, 138, 139])))] := by
 refine AC.of_code2 Tryd.func31 rfl rfl (Nat.le_of_ble_eq_true (by rfl)) fun B hB hN => ?_
 have L {d : Nat} (h : Nat.blt d Tryd.f31.ntmps = true) : d < B.N := ltN hN h
 delta resource_Minus at h
 refine sr (cg (OpJ.box hB (nm := 1002) (by decide) (by simp) rfl (L rfl) (q 0)) rfl (cg (OpJ.box hB (nm := 1003) (by decide) (by simp) rfl (L rfl) (q 1)) rfl (cg (OpJ.alloc hB tyZ28 (nm := 1004) (by decide) (L rfl)) rfl (c (OpJ.assign (L rfl) (Opd.int .i64 (0))) rfl cn)))) ?_
 refine gh [(2, _), (3, _), (4, _)] [(500, some _), (501, some _), (1002, some _), (1003, some _), (1004, some _)] hB rfl rfl (by rfl) ?_
 refine AWp.seq ?_
 refine AWp.seq ?_
 refine AWp.cut h (fun m5 : Bool => ([(2, (.ptr 1002 0 [])), (3, (.ptr 1003 0 [])), (4, (.ptr 1004 0 [])), (13, (bo m5))] : EL)) (fun m5 : Bool => ([(500, some (.know (globF 0 [35, 37, 137]))), (501, some (.know (globF 1 [70, 138, 139]))), (1002, some (.box 28 (.d (e_api_Resources a0)))), (1003, some (.box 28 (.d (e_api_Resources a1)))), (1004, some (.box 28 (.st [.nils, .nils])))] : OL)) (fun m5 h E' O' hmat => ?_) (fun j6 hjj6 h => ?_)
 ·refine seqQ_n ?_
  refine AWp.ghost hmat ?_
  refine AWp.cond rfl (fun hg7 => ?_) (fun hg7 => ?_)
  ·replace h := ite_t hg7 h
   refine sr (c (OpJ.build (places := [(0, 1), (1, 1)]) ⟨Tryd.underlying28, fun w => by kernel_rfl⟩ tyZS28 Opds.nil (by kernel_rfl) (r := (.st [.nils, .nils])) (by rfl) (L rfl)) rfl (cg (OpJ.storeB tyS28 (SetAt.here _ _) (by rfl) (by rfl) (by simp) rfl (q 4) (q 14)) rfl (c (OpJ.assign (L rfl) (Opd.int .i64 (1))) rfl cn))) ?_
   refine gh [(4, _), (5, _)] [(500, some _), (501, some _), (1004, some _)] hB rfl rfl (by rfl) ?_
   refine AWp.ret ?_
   refine seqQ_r ?_
   obtain rfl := Option.some.inj h
   exact ⟨.inl rfl, _, _, (Mat.trans (Mat.coeP (Ts := []) (Bs := [(1004, some (.box 28 (.d (.st [(.list 6 (([] : List api_Range).map e_api_Range)), (.list 2 (([] : List api_Span).map e_api_Span))]))))]) TwT.nil (TwB.cons (x := (.st [.nils, .nils])) (by rfl) (Tw.leaf ⟨_, (Co.st (CoL.cons (Co.nils 6) (CoL.cons (Co.nils 2) CoL.nil))), rfl⟩) TwB.nil)) (mp [] [(4, (.ptr 1004 0 [])), (5, (i6 1))] [(500, some (.know (globF 0 [35, 37, 137]))), (501, some (.know (globF 1 [70, 138, 139]))), (1004, some (.box 28 (.d (.st [(.list 6 (([] : List api_Range).map e_api_Range)), (.list 2 (([] : List api_Span).map e_api_Span))]))))] hB)), [(.d (.st [(.list 6 (([] : List api_Range).map e_api_Range)), (.list 2 (([] : List api_Span).map e_api_Span))])), (i6 1)], (Res.cell (c := (.d (.st [(.list 6 (([] : List api_Range).map e_api_Range)), (.list 2 (([] : List api_Span).map e_api_Span))]))) (by rfl) (by rfl) tyS28 (by rfl) (by rfl) (by rfl) (Res.tmp (by rfl) (by rfl) Res.nil)), rfl, by rfl, by rfl, by rfl⟩
  ·replace h := ite_f hg7 h
   refine AWp.skip ?_
   refine seqQ_n ?_
   refine AWp.seq ?_
   obtain ⟨r8, hr8, h⟩ := bindS h
   obtain ⟨r9, hr9, h⟩ := bindS h
   obtain ⟨r10, hr10, h⟩ := bindS h
   obtain ⟨r11, hr11, h⟩ := bindS h
   refine AWp.draws (by kernel_rfl) (oc (lb hN 28 (.d (e_api_Resources a0)) (.d (e_api_Resources a0)) tyS28 (At.here _) (ot 2 (.ptr 1002 0 [])))
    (oc (cf hB fnOk49 (resource_of_ac a0 r8 hr8) (L rfl) (OpdL.cons (ot 15 (.d (e_api_Resources a0))) OpdL.nil))
    (oc (lb hN 28 (.d (e_api_Resources a1)) (.d (e_api_Resources a1)) tyS28 (At.here _) (ot 3 (.ptr 1003 0 [])))
    (oc (cf hB fnOk49 (resource_of_ac a1 r9 hr9) (L rfl) (OpdL.cons (ot 17 (.d (e_api_Resources a1))) OpdL.nil))
    (oc (OpJ.callFn hB fnOk64 (resource_set_minus_ac r8 r9 r10 hr10) [(500, 500), (501, 501)] (by kernel_rfl) (L rfl) (by kernel_rfl) (OpdL.cons (ot 16 (.d (e_resource_set r8))) (OpdL.cons (ot 18 (.d (e_resource_set r9))) OpdL.nil)))
    (oc (cf hB fnOk57 (resource_set_resources_ac r10 r11 hr11) (L rfl) (OpdL.cons (ot 19 (.d (e_resource_set r10))) OpdL.nil))
    (oc (OpJ.extract (v := (.d (e_api_Resources r11.1))) (by rfl) rfl (L rfl) (ot 20 (.tup [(.d (e_api_Resources r11.1)), (i6 r11.2)])))
    (oc (OpJ.extract (v := (i6 r11.2)) (by rfl) rfl (L rfl) (ot 20 (.tup [(.d (e_api_Resources r11.1)), (i6 r11.2)])))
    (oc (OpJ.storeB (bt := 28) (c := (.st [.nils, .nils])) (v := (.d (e_api_Resources r11.1))) (c' := (.d (e_api_Resources r11.1))) tyS28 (SetAt.here _ _) (by rfl) (by rfl) (by simp) rfl (ot 4 (.ptr 1004 0 [])) (ot 21 (.d (e_api_Resources r11.1))))
    (oc (OpJ.assign (L rfl) (ot 22 (i6 r11.2)))
    (OpJs.nil))))))))))) (by kernel_rfl) (by rfl) (by rfl) ?_
   refine seqQ_n ?_
   refine AWp.ghost (mp [] [(4, (.ptr 1004 0 [])), (5, (i6 r11.2))] [(500, some (.know (globF 0 [35, 37, 137]))), (501, some (.know (globF 1 [70, 138, 139]))), (1004, some (.box 28 (.d (e_api_Resources r11.1))))] hB) ?_
   refine AWp.ret ?_
   obtain rfl := Option.some.inj h
   exact ⟨.inl rfl, _, _, (kp [(4, _), (5, _)] [(500, some _), (501, some _), (1004, some _)] hB rfl rfl (by rfl)), [(.d (e_api_Resources r11.1)), (i6 r11.2)], (Res.cell (c := (.d (e_api_Resources r11.1))) (by rfl) (by rfl) tyS28 (by rfl) (by rfl) (by rfl) (Res.tmp (by rfl) (by rfl) Res.nil)), rfl, by rfl, by rfl, by rfl⟩
 ·obtain ⟨r12, hr12, h⟩ := bindS h
  rcases Bool.eq_false_or_eq_true (!r12) with hg13 | hg13
  ·replace h := ite_t hg13 h
   refine AWp.region (oc (lb hN 28 (.d (e_api_Resources a0)) (.d (e_api_Resources a0)) tyS28 (At.here _) (ot 2 (.ptr 1002 0 [])))
    (oc (OpJ.callFn hB fnOk20 (resource_Valid_ac a0 r12 hr12) [(500, 500), (501, 501)] (by kernel_rfl) (L rfl) (by kernel_rfl) (OpdL.cons (ot 6 (.d (e_api_Resources a0))) OpdL.nil))
    (oc (OpJ.not (L rfl) (ot 7 (bo r12)))
    (oc (OpJ.val (v' := .d (.bool true)) (by rw [hg13] <;> rfl) (mv hN (ot 8 (bo (!r12)))))
    (oc (sU 9 (L rfl))
    (oc (sU 9 (L rfl))
    (oc (sU 9 (L rfl))
    (oc (OpJ.pickT (L rfl) (ot 9 (bo true)) (Opd.bool true))
    (OpJs.nil))))))))) (by rfl) (by rfl) ?_
   exact hjj6 _ h _ _ (Mat.trans (mp [] [(2, (.ptr 1002 0 [])), (3, (.ptr 1003 0 [])), (4, (.ptr 1004 0 [])), (13, (bo true))] [(500, some (.know (globF 0 [35, 37, 137]))), (501, some (.know (globF 1 [70, 138, 139]))), (1002, some (.box 28 (.d (e_api_Resources a0)))), (1003, some (.box 28 (.d (e_api_Resources a1)))), (1004, some (.box 28 (.st [.nils, .nils])))] hB) (mp [] _ _ hB))
  ·replace h := ite_f hg13 h
   obtain ⟨r14, hr14, h⟩ := bindS h
   refine AWp.region (oc (lb hN 28 (.d (e_api_Resources a0)) (.d (e_api_Resources a0)) tyS28 (At.here _) (ot 2 (.ptr 1002 0 [])))
    (oc (OpJ.callFn hB fnOk20 (resource_Valid_ac a0 r12 hr12) [(500, 500), (501, 501)] (by kernel_rfl) (L rfl) (by kernel_rfl) (OpdL.cons (ot 6 (.d (e_api_Resources a0))) OpdL.nil))
    (oc (OpJ.not (L rfl) (ot 7 (bo r12)))
    (oc (OpJ.val (v' := .d (.bool false)) (by rw [hg13] <;> rfl) (mv hN (ot 8 (bo (!r12)))))
    (oc (gd 9 (lb hN 28 (.d (e_api_Resources a1)) (.d (e_api_Resources a1)) tyS28 (At.here _) (ot 3 (.ptr 1003 0 []))))
    (oc (gd 9 (OpJ.callFn hB fnOk20 (resource_Valid_ac a1 r14 hr14) [(500, 500), (501, 501)] (by kernel_rfl) (L rfl) (by kernel_rfl) (OpdL.cons (ot 10 (.d (e_api_Resources a1))) OpdL.nil)))
    (oc (gd 9 (OpJ.not (L rfl) (ot 11 (bo r14))))
    (oc (OpJ.pickF (L rfl) (ot 9 (bo false)) (ot 12 (bo (!r14))))
    (OpJs.nil))))))))) (by rfl) (by rfl) ?_
   exact hjj6 _ h _ _ (Mat.trans (mp [] [(2, (.ptr 1002 0 [])), (3, (.ptr 1003 0 [])), (4, (.ptr 1004 0 [])), (13, (bo (!r14)))] [(500, some (.know (globF 0 [35, 37, 137]))), (501, some (.know (globF 1 [70, 138, 139]))), (1002, some (.box 28 (.d (e_api_Resources a0)))), (1003, some (.box 28 (.d (e_api_Resources a1)))), (1004, some (.box 28 (.st [.nils, .nils])))] hB) (mp [] _ _ hB))

noncomputable def exchangepointlaw21_ResourceLaws (a0 : (List Int)) (a1 : (List Int)) (a2 : (List Int)) : Option (Bool) :=
 (exchangepointmake_New a0).bind fun r1 =>
 (exchangepointmake_Deck_Resources r1).bind fun r2 =>
 (exchangepointmake_New a1).bind fun r3 =>
 (exchangepointmake_Deck_Resources r3).bind fun r4 =>
 (exchangepointmake_New a2).bind fun r5 =>
 (exchangepointmake_Deck_Resources r5).bind fun r6 =>
 (resource_Union r2.1 r4.1).bind fun r7 =>
 (resource_Union r4.1 r6.1).bind fun r8 =>
 (resource_Union r7.1 r6.1).bind fun r9 =>
 (resource_Union r2.1 r8.1).bind fun r10 =>
 (resource_Intersect r2.1 r8.1).bind fun r11 =>
 (resource_Intersect r2.1 r4.1).bind fun r12 =>
 (resource_Intersect r2.1 r6.1).bind fun r13 =>
 (resource_Union r12.1 r13.1).bind fun r14 =>
 (resource_Union r4.1 r2.1).bind fun r15 =>
 (resource_Intersect r4.1 r2.1).bind fun r16 =>
 (resource_Minus r2.1 r4.1).bind fun r17 =>
 (resource_Intersect r17.1 r4.1).bind fun r18 =>
 jn (fun m29 : Bool =>
 some m29) (fun j30 =>
 (if (((r7.2 == (0 : Int)) && (r8.2 == (0 : Int))) && (r18.2 == (0 : Int))) = true then
 (exchangepointref21_Same r9.1 r10.1).bind fun r32 =>
 (if r32 = true then
 (exchangepointref21_Same r11.1 r14.1).bind fun r34 =>
 (if r34 = true then
 (exchangepointref21_Same r7.1 r15.1).bind fun r36 =>
 (if r36 = true then
 (exchangepointref21_Same r12.1 r16.1).bind fun r38 =>
 (if ((r38 && ((r18.1.fAddrs.length : Int) == (0 : Int))) && ((r18.1.fASNs.length : Int) == (0 : Int))) = true then
 (exchangepointlaw21_awake).bind fun r40 =>
 j30 r40
 else
 j30 false)
 else
 j30 false)
 else
 j30 false)
 else
 j30 false)
 else
 j30 false))
theorem exchangepointlaw21_ResourceLaws_ac (a0 : (List Int)) (a1 : (List Int)) (a2 : (List Int)) (r : Bool) (h : exchangepointlaw21_ResourceLaws a0 a1 a2 = some r) : AC Tryd.prog 6 [(.d (.list 1 (a0.map (eI .i64)))), (.d (.list 1 (a1.map (eI .i64)))), (.d (.list 1 (a2.map (eI .i64))))] [(500, (.know (globF 0 [35, 37, 137]))), (501, (.know (globF 1 [70, 138, 139])))] (.d (.bool r)) [(500, some (.know (globF 0 [35, 37, 137]))), (501, some (.know (globF 1 [70, 138, 139])))] := by
 refine AC.of_code2 Tryd.func6 rfl rfl (Nat.le_of_ble_eq_true (by rfl)) fun B hB hN => ?_
 have L {d : Nat} (h : Nat.blt d Tryd.f6.ntmps = true) : d < B.N := ltN hN h
 delta exchangepointlaw21_ResourceLaws at h
 refine sr (c (OpJ.assign (L rfl) (Opd.bool false)) rfl cn) ?_
 refine gh [(0, _), (1, _), (2, _)] [(500, some _), (501, some _)] hB rfl rfl (by rfl) ?_
 refine AWp.seq ?_
 obtain ⟨r1, hr1, h⟩ := bindS h
 obtain ⟨r2, hr2, h⟩ := bindS h
 obtain ⟨r3, hr3, h⟩ := bindS h
 obtain ⟨r4, hr4, h⟩ := bindS h
 obtain ⟨r5, hr5, h⟩ := bindS h
 obtain ⟨r6, hr6, h⟩ := bindS h
 refine AWp.region (oc (mv hN (ot 0 (qI_1 a0)))
 (oc (OpJ.callFn hB fnOk7 (exchangepointmake_New_ac a0 r1 hr1) [(1005, 100000)] (by kernel_rfl) (L rfl) (by kernel_rfl) (OpdL.cons (ot 34 (qI_1 a0)) OpdL.nil))
 (oc (OpJ.callFn hB fnOk8 (exchangepointmake_Deck_Resources_ac r1 r2 hr2) [(0, 100000)] (by kernel_rfl) (L rfl) (by kernel_rfl) (OpdL.cons (ot 35 (.ptr 100000 0 [])) OpdL.nil))
 (oc (mv hN (ot 1 (qI_1 a1)))
 (oc (OpJ.callFn hB fnOk7 (exchangepointmake_New_ac a1 r3 hr3) [(1005, 100200)] (by kernel_rfl) (L rfl) (by kernel_rfl) (OpdL.cons (ot 37 (qI_1 a1)) OpdL.nil))
 (oc (OpJ.callFn hB fnOk8 (exchangepointmake_Deck_Resources_ac r3 r4 hr4) [(0, 100200)] (by kernel_rfl) (L rfl) (by kernel_rfl) (OpdL.cons (ot 38 (.ptr 100200 0 [])) OpdL.nil))
 (oc (mv hN (ot 2 (qI_1 a2)))
 (oc (OpJ.callFn hB fnOk7 (exchangepointmake_New_ac a2 r5 hr5) [(1005, 100400)] (by kernel_rfl) (L rfl) (by kernel_rfl) (OpdL.cons (ot 40 (qI_1 a2)) OpdL.nil))
 (oc (OpJ.callFn hB fnOk8 (exchangepointmake_Deck_Resources_ac r5 r6 hr6) [(0, 100400)] (by kernel_rfl) (L rfl) (by kernel_rfl) (OpdL.cons (ot 41 (.ptr 100400 0 [])) OpdL.nil))
 (oc (OpJ.alloc hB tyZ28 (nm := 1007) (by decide) (L rfl))
 (oc (OpJ.alloc hB tyZ28 (nm := 1008) (by decide) (L rfl))
 (oc (OpJ.alloc hB tyZ28 (nm := 1009) (by decide) (L rfl))
 (oc (OpJ.storeB (bt := 28) (c := (.st [.nils, .nils])) (v := (.d (e_api_Resources r2.1))) (c' := (.d (e_api_Resources r2.1))) tyS28 (SetAt.here _ _) (by rfl) (by rfl) (by simp) rfl (ot 7 (.ptr 1007 0 [])) (ot 36 (.d (e_api_Resources r2.1))))
 (oc (OpJ.storeB (bt := 28) (c := (.st [.nils, .nils])) (v := (.d (e_api_Resources r4.1))) (c' := (.d (e_api_Resources r4.1))) tyS28 (SetAt.here _ _) (by rfl) (by rfl) (by simp) rfl (ot 8 (.ptr 1008 0 [])) (ot 39 (.d (e_api_Resources r4.1))))
 (oc (OpJ.storeB (bt := 28) (c := (.st [.nils, .nils])) (v := (.d (e_api_Resources r6.1))) (c' := (.d (e_api_Resources r6.1))) tyS28 (SetAt.here _ _) (by rfl) (by rfl) (by simp) rfl (ot 9 (.ptr 1009 0 [])) (ot 42 (.d (e_api_Resources r6.1))))
 (OpJs.nil)))))))))))))))) (by rfl) (by rfl) ?_
 refine seqQ_n ?_
 refine AWp.ghost (mp [] [(7, (.ptr 1007 0 [])), (8, (.ptr 1008 0 [])), (9, (.ptr 1009 0 []))] [(500, some (.know (globF 0 [35, 37, 137]))), (501, some (.know (globF 1 [70, 138, 139]))), (1007, some (.box 28 (.d (e_api_Resources r2.1)))), (1008, some (.box 28 (.d (e_api_Resources r4.1)))), (1009, some (.box 28 (.d (e_api_Resources r6.1))))] hB) ?_
 refine AWp.seq ?_
 obtain ⟨r7, hr7, h⟩ := bindS h
 refine AWp.region (oc (lb hN 28 (.d (e_api_Resources r2.1)) (.d (e_api_Resources r2.1)) tyS28 (At.here _) (ot 7 (.ptr 1007 0 [])))
 (oc (lb hN 28 (.d (e_api_Resources r4.1)) (.d (e_api_Resources r4.1)) tyS28 (At.here _) (ot 8 (.ptr 1008 0 [])))
 (oc (OpJ.callFn hB fnOk29 (resource_Union_ac r2.1 r4.1 r7 hr7) [(500, 500), (501, 501)] (by kernel_rfl) (L rfl) (by kernel_rfl) (OpdL.cons (ot 44 (.d (e_api_Resources r2.1))) (OpdL.cons (ot 45 (.d (e_api_Resources r4.1))) OpdL.nil)))
 (oc (mv hN (ot 46 (.tup [(.d (e_api_Resources r7.1)), (i6 r7.2)])))
 (oc (OpJ.extract (v := (.d (e_api_Resources r7.1))) (by rfl) rfl (L rfl) (ot 43 (.tup [(.d (e_api_Resources r7.1)), (i6 r7.2)])))
 (oc (OpJ.extract (v := (i6 r7.2)) (by rfl) rfl (L rfl) (ot 43 (.tup [(.d (e_api_Resources r7.1)), (i6 r7.2)])))
 (oc (OpJ.alloc hB tyZ28 (nm := 1010) (by decide) (L rfl))
 (oc (OpJ.storeB (bt := 28) (c := (.st [.nils, .nils])) (v := (.d (e_api_Resources r7.1))) (c' := (.d (e_api_Resources r7.1))) tyS28 (SetAt.here _ _) (by rfl) (by rfl) (by simp) rfl (ot 10 (.ptr 1010 0 [])) (ot 47 (.d (e_api_Resources r7.1))))
 (oc (OpJ.assign (L rfl) (ot 48 (i6 r7.2)))
 (OpJs.nil)))))))))) (by rfl) (by rfl) ?_
 refine seqQ_n ?_
 refine AWp.ghost (mp [] [(7, (.ptr 1007 0 [])), (8, (.ptr 1008 0 [])), (9, (.ptr 1009 0 [])), (10, (.ptr 1010 0 [])), (11, (i6 r7.2))] [(500, some (.know (globF 0 [35, 37, 137]))), (501, some (.know (globF 1 [70, 138, 139]))), (1007, some (.box 28 (.d (e_api_Resources r2.1)))), (1008, some (.box 28 (.d (e_api_Resources r4.1)))), (1009, some (.box 28 (.d (e_api_Resources r6.1)))), (1010, some (.box 28 (.d (e_api_Resources r7.1))))] hB) ?_
 refine AWp.seq ?_
 obtain ⟨r8, hr8, h⟩ := bindS h
 refine AWp.region (oc (lb hN 28 (.d (e_api_Resources r4.1)) (.d (e_api_Resources r4.1)) tyS28 (At.here _) (ot 8 (.ptr 1008 0 [])))
 (oc (lb hN 28 (.d (e_api_Resources r6.1)) (.d (e_api_Resources r6.1)) tyS28 (At.here _) (ot 9 (.ptr 1009 0 [])))
 (oc (OpJ.callFn hB fnOk29 (resource_Union_ac r4.1 r6.1 r8 hr8) [(500, 500), (501, 501)] (by kernel_rfl) (L rfl) (by kernel_rfl) (OpdL.cons (ot 50 (.d (e_api_Resources r4.1))) (OpdL.cons (ot 51 (.d (e_api_Resources r6.1))) OpdL.nil)))
 (oc (mv hN (ot 52 (.tup [(.d (e_api_Resources r8.1)), (i6 r8.2)])))
 (oc (OpJ.extract (v := (.d (e_api_Resources r8.1))) (by rfl) rfl (L rfl) (ot 49 (.tup [(.d (e_api_Resources r8.1)), (i6 r8.2)])))
 (oc (OpJ.extract (v := (i6 r8.2)) (by rfl) rfl (L rfl) (ot 49 (.tup [(.d (e_api_Resources r8.1)), (i6 r8.2)])))
 (oc (OpJ.alloc hB tyZ28 (nm := 1012) (by decide) (L rfl))
 (oc (OpJ.storeB (bt := 28) (c := (.st [.nils, .nils])) (v := (.d (e_api_Resources r8.1))) (c' := (.d (e_api_Resources r8.1))) tyS28 (SetAt.here _ _) (by rfl) (by rfl) (by simp) rfl (ot 12 (.ptr 1012 0 [])) (ot 53 (.d (e_api_Resources r8.1))))
 (oc (OpJ.assign (L rfl) (ot 54 (i6 r8.2)))
 (OpJs.nil)))))))))) (by rfl) (by rfl) ?_
 refine seqQ_n ?_
 refine AWp.ghost (mp [] [(7, (.ptr 1007 0 [])), (8, (.ptr 1008 0 [])), (9, (.ptr 1009 0 [])), (10, (.ptr 1010 0 [])), (11, (i6 r7.2)), (12, (.ptr 1012 0 [])), (13, (i6 r8.2))] [(500, some (.know (globF 0 [35, 37, 137]))), (501, some (.know (globF 1 [70, 138, 139]))), (1007, some (.box 28 (.d (e_api_Resources r2.1)))), (1008, some (.box 28 (.d (e_api_Resources r4.1)))), (1009, some (.box 28 (.d (e_api_Resources r6.1)))), (1010, some (.box 28 (.d (e_api_Resources r7.1)))), (1012, some (.box 28 (.d (e_api_Resources r8.1))))] hB) ?_
 refine AWp.seq ?_
 obtain ⟨r9, hr9, h⟩ := bindS h
 refine AWp.region (oc (lb hN 28 (.d (e_api_Resources r7.1)) (.d (e_api_Resources r7.1)) tyS28 (At.here _) (ot 10 (.ptr 1010 0 [])))
 (oc (lb hN 28 (.d (e_api_Resources r6.1)) (.d (e_api_Resources r6.1)) tyS28 (At.here _) (ot 9 (.ptr 1009 0 [])))
 (oc (OpJ.callFn hB fnOk29 (resource_Union_ac r7.1 r6.1 r9 hr9) [(500, 500), (501, 501)] (by kernel_rfl) (L rfl) (by kernel_rfl) (OpdL.cons (ot 56 (.d (e_api_Resources r7.1))) (OpdL.cons (ot 57 (.d (e_api_Resources r6.1))) OpdL.nil)))
 (oc (mv hN (ot 58 (.tup [(.d (e_api_Resources r9.1)), (i6 r9.2)])))
 (oc (OpJ.extract (v := (.d (e_api_Resources r9.1))) (by rfl) rfl (L rfl) (ot 55 (.tup [(.d (e_api_Resources r9.1)), (i6 r9.2)])))
 (oc (OpJ.extract (v := (i6 r9.2)) (by rfl) rfl (L rfl) (ot 55 (.tup [(.d (e_api_Resources r9.1)), (i6 r9.2)])))
 (oc (OpJ.alloc hB tyZ28 (nm := 1014) (by decide) (L rfl))
 (oc (OpJ.storeB (bt := 28) (c := (.st [.nils, .nils])) (v := (.d (e_api_Resources r9.1))) (c' := (.d (e_api_Resources r9.1))) tyS28 (SetAt.here _ _) (by rfl) (by rfl) (by simp) rfl (ot 14 (.ptr 1014 0 [])) (ot 59 (.d (e_api_Resources r9.1))))
 (oc (OpJ.assign (L rfl) (ot 60 (i6 r9.2)))
 (OpJs.nil)))))))))) (by rfl) (by rfl) ?_
 refine seqQ_n ?_
 refine AWp.ghost (mp [] [(7, (.ptr 1007 0 [])), (8, (.ptr 1008 0 [])), (9, (.ptr 1009 0 [])), (10, (.ptr 1010 0 [])), (11, (i6 r7.2)), (12, (.ptr 1012 0 [])), (13, (i6 r8.2)), (14, (.ptr 1014 0 []))] [(500, some (.know (globF 0 [35, 37, 137]))), (501, some (.know (globF 1 [70, 138, 139]))), (1007, some (.box 28 (.d (e_api_Resources r2.1)))), (1008, some (.box 28 (.d (e_api_Resources r4.1)))), (1009, some (.box 28 (.d (e_api_Resources r6.1)))), (1010, some (.box 28 (.d (e_api_Resources r7.1)))), (1012, some (.box 28 (.d (e_api_Resources r8.1)))), (1014, some (.box 28 (.d (e_api_Resources r9.1))))] hB) ?_
 refine AWp.seq ?_
 obtain ⟨r10, hr10, h⟩ := bindS h
 refine AWp.region (oc (lb hN 28 (.d (e_api_Resources r2.1)) (.d (e_api_Resources r2.1)) tyS28 (At.here _) (ot 7 (.ptr 1007 0 [])))
 (oc (lb hN 28 (.d (e_api_Resources r8.1)) (.d (e_api_Resources r8.1)) tyS28 (At.here _) (ot 12 (.ptr 1012 0 [])))
 (oc (OpJ.callFn hB fnOk29 (resource_Union_ac r2.1 r8.1 r10 hr10) [(500, 500), (501, 501)] (by kernel_rfl) (L rfl) (by kernel_rfl) (OpdL.cons (ot 62 (.d (e_api_Resources r2.1))) (OpdL.cons (ot 63 (.d (e_api_Resources r8.1))) OpdL.nil)))
 (oc (mv hN (ot 64 (.tup [(.d (e_api_Resources r10.1)), (i6 r10.2)])))
 (oc (OpJ.extract (v := (.d (e_api_Resources r10.1))) (by rfl) rfl (L rfl) (ot 61 (.tup [(.d (e_api_Resources r10.1)), (i6 r10.2)])))
 (oc (OpJ.extract (v := (i6 r10.2)) (by rfl) rfl (L rfl) (ot 61 (.tup [(.d (e_api_Resources r10.1)), (i6 r10.2)])))
 (oc (OpJ.alloc hB tyZ28 (nm := 1016) (by decide) (L rfl))
 (oc (OpJ.storeB (bt := 28) (c := (.st [.nils, .nils])) (v := (.d (e_api_Resources r10.1))) (c' := (.d (e_api_Resources r10.1))) tyS28 (SetAt.here _ _) (by rfl) (by rfl) (by simp) rfl (ot 16 (.ptr 1016 0 [])) (ot 65 (.d (e_api_Resources r10.1))))
 (oc (OpJ.assign (L rfl) (ot 66 (i6 r10.2)))
 (OpJs.nil)))))))))) (by rfl) (by rfl) ?_
 refine seqQ_n ?_
 refine AWp.ghost (mp [] [(7, (.ptr 1007 0 [])), (8, (.ptr 1008 0 [])), (9, (.ptr 1009 0 [])), (10, (.ptr 1010 0 [])), (11, (i6 r7.2)), (12, (.ptr 1012 0 [])), (13, (i6 r8.2)), (14, (.ptr 1014 0 [])), (16, (.ptr 1016 0 []))] [(500, some (.know (globF 0 [35, 37, 137]))), (501, some (.know (globF 1 [70, 138, 139]))), (1007, some (.box 28 (.d (e_api_Resources r2.1)))), (1008, some (.box 28 (.d (e_api_Resources r4.1)))), (1009, some (.box 28 (.d (e_api_Resources r6.1)))), (1010, some (.box 28 (.d (e_api_Resources r7.1)))), (1012, some (.box 28 (.d (e_api_Resources r8.1)))), (1014, some (.box 28 (.d (e_api_Resources r9.1)))), (1016, some (.box 28 (.d (e_api_Resources r10.1))))] hB) ?_
 refine AWp.seq ?_
 obtain ⟨r11, hr11, h⟩ := bindS h
 refine AWp.region (oc (lb hN 28 (.d (e_api_Resources r2.1)) (.d (e_api_Resources r2.1)) tyS28 (At.here _) (ot 7 (.ptr 1007 0 [])))
 (oc (lb hN 28 (.d (e_api_Resources r8.1)) (.d (e_api_Resources r8.1)) tyS28 (At.here _) (ot 12 (.ptr 1012 0 [])))
 (oc (OpJ.callFn hB fnOk30 (resource_Intersect_ac r2.1 r8.1 r11 hr11) [(500, 500), (501, 501)] (by kernel_rfl) (L rfl) (by kernel_rfl) (OpdL.cons (ot 68 (.d (e_api_Resources r2.1))) (OpdL.cons (ot 69 (.d (e_api_Resources r8.1))) OpdL.nil)))
 (oc (mv hN (ot 70 (.tup [(.d (e_api_Resources r11.1)), (i6 r11.2)])))
 (oc (OpJ.extract (v := (.d (e_api_Resources r11.1))) (by rfl) rfl (L rfl) (ot 67 (.tup [(.d (e_api_Resources r11.1)), (i6 r11.2)])))
 (oc (OpJ.extract (v := (i6 r11.2)) (by rfl) rfl (L rfl) (ot 67 (.tup [(.d (e_api_Resources r11.1)), (i6 r11.2)])))
 (oc (OpJ.alloc hB tyZ28 (nm := 1018) (by decide) (L rfl))
 (oc (OpJ.storeB (bt := 28) (c := (.st [.nils, .nils])) (v := (.d (e_api_Resources r11.1))) (c' := (.d (e_api_Resources r11.1))) tyS28 (SetAt.here _ _) (by rfl) (by rfl) (by simp) rfl (ot 18 (.ptr 1018 0 [])) (ot 71 (.d (e_api_Resources r11.1))))
 (oc (OpJ.assign (L rfl) (ot 72 (i6 r11.2)))
 (OpJs.nil)))))))))) (by rfl) (by rfl) ?_
 refine seqQ_n ?_
 refine AWp.ghost (mp [] [(7, (.ptr 1007 0 [])), (8, (.ptr 1008 0 [])), (9, (.ptr 1009 0 [])), (10, (.ptr 1010 0 [])), (11, (i6 r7.2)), (13, (i6 r8.2)), (14, (.ptr 1014 0 [])), (16, (.ptr 1016 0 [])), (18, (.ptr 1018 0 []))] [(500, some (.know (globF 0 [35, 37, 137]))), (501, some (.know (globF 1 [70, 138, 139]))), (1007, some (.box 28 (.d (e_api_Resources r2.1)))), (1008, some (.box 28 (.d (e_api_Resources r4.1)))), (1009, some (.box 28 (.d (e_api_Resources r6.1)))), (1010, some (.box 28 (.d (e_api_Resources r7.1)))), (1014, some (.box 28 (.d (e_api_Resources r9.1)))), (1016, some (.box 28 (.d (e_api_Resources r10.1)))), (1018, some (.box 28 (.d (e_api_Resources r11.1))))] hB) ?_
 refine AWp.seq ?_
 obtain ⟨r12, hr12, h⟩ := bindS h
 refine AWp.region (oc (lb hN 28 (.d (e_api_Resources r2.1)) (.d (e_api_Resources r2.1)) tyS28 (At.here _) (ot 7 (.ptr 1007 0 [])))
 (oc (lb hN 28 (.d (e_api_Resources r4.1)) (.d (e_api_Resources r4.1)) tyS28 (At.here _) (ot 8 (.ptr 1008 0 [])))
 (oc (OpJ.callFn hB fnOk30 (resource_Intersect_ac r2.1 r4.1 r12 hr12) [(500, 500), (501, 501)] (by kernel_rfl) (L rfl) (by kernel_rfl) (OpdL.cons (ot 74 (.d (e_api_Resources r2.1))) (OpdL.cons (ot 75 (.d (e_api_Resources r4.1))) OpdL.nil)))
 (oc (mv hN (ot 76 (.tup [(.d (e_api_Resources r12.1)), (i6 r12.2)])))
 (oc (OpJ.extract (v := (.d (e_api_Resources r12.1))) (by rfl) rfl (L rfl) (ot 73 (.tup [(.d (e_api_Resources r12.1)), (i6 r12.2)])))
 (oc (OpJ.extract (v := (i6 r12.2)) (by rfl) rfl (L rfl) (ot 73 (.tup [(.d (e_api_Resources r12.1)), (i6 r12.2)])))
 (oc (OpJ.alloc hB tyZ28 (nm := 1020) (by decide) (L rfl))
 (oc (OpJ.storeB (bt := 28) (c := (.st [.nils, .nils])) (v := (.d (e_api_Resources r12.1))) (c' := (.d (e_api_Resources r12.1))) tyS28 (SetAt.here _ _) (by rfl) (by rfl) (by simp) rfl (ot 20 (.ptr 1020 0 [])) (ot 77 (.d (e_api_Resources r12.1))))
 (oc (OpJ.assign (L rfl) (ot 78 (i6 r12.2)))
 (OpJs.nil)))))))))) (by rfl) (by rfl) ?_
 refine seqQ_n ?_
 refine AWp.ghost (mp [] [(7, (.ptr 1007 0 [])), (8, (.ptr 1008 0 [])), (9, (.ptr 1009 0 [])), (10, (.ptr 1010 0 [])), (11, (i6 r7.2)), (13, (i6 r8.2)), (14, (.ptr 1014 0 [])), (16, (.ptr 1016 0 [])), (18, (.ptr 1018 0 [])), (20, (.ptr 1020 0 []))] [(500, some (.know (globF 0 [35, 37, 137]))), (501, some (.know (globF 1 [70, 138, 139]))), (1007, some (.box 28 (.d (e_api_Resources r2.1)))), (1008, some (.box 28 (.d (e_api_Resources r4.1)))), (1009, some (.box 28 (.d (e_api_Resources r6.1)))), (1010, some (.box 28 (.d (e_api_Resources r7.1)))), (1014, some (.box 28 (.d (e_api_Resources r9.1)))), (1016, some (.box 28 (.d (e_api_Resources r10.1)))), (1018, some (.box 28 (.d (e_api_Resources r11.1)))), (1020, some (.box 28 (.d (e_api_Resources r12.1))))] hB) ?_
 refine AWp.seq ?_
 obtain ⟨r13, hr13, h⟩ := bindS h
 refine AWp.region (oc (lb hN 28 (.d (e_api_Resources r2.1)) (.d (e_api_Resources r2.1)) tyS28 (At.here _) (ot 7 (.ptr 1007 0 [])))
 (oc (lb hN 28 (.d (e_api_Resources r6.1)) (.d (e_api_Resources r6.1)) tyS28 (At.here _) (ot 9 (.ptr 1009 0 [])))
 (oc (OpJ.callFn hB fnOk30 (resource_Intersect_ac r2.1 r6.1 r13 hr13) [(500, 500), (501, 501)] (by kernel_rfl) (L rfl) (by kernel_rfl) (OpdL.cons (ot 80 (.d (e_api_Resources r2.1))) (OpdL.cons (ot 81 (.d (e_api_Resources r6.1))) OpdL.nil)))
 (oc (mv hN (ot 82 (.tup [(.d (e_api_Resources r13.1)), (i6 r13.2)])))
 (oc (OpJ.extract (v := (.d (e_api_Resources r13.1))) (by rfl) rfl (L rfl) (ot 79 (.tup [(.d (e_api_Resources r13.1)), (i6 r13.2)])))
 (oc (OpJ.extract (v := (i6 r13.2)) (by rfl) rfl (L rfl) (ot 79 (.tup [(.d (e_api_Resources r13.1)), (i6 r13.2)])))
 (oc (OpJ.alloc hB tyZ28 (nm := 1022) (by decide) (L rfl))
 (oc (OpJ.storeB (bt := 28) (c := (.st [.nils, .nils])) (v := (.d (e_api_Resources r13.1))) (c' := (.d (e_api_Resources r13.1))) tyS28 (SetAt.here _ _) (by rfl) (by rfl) (by simp) rfl (ot 22 (.ptr 1022 0 [])) (ot 83 (.d (e_api_Resources r13.1))))
 (oc (OpJ.assign (L rfl) (ot 84 (i6 r13.2)))
 (OpJs.nil)))))))))) (by rfl) (by rfl) ?_
 refine seqQ_n ?_
 refine AWp.ghost (mp [] [(7, (.ptr 1007 0 [])), (8, (.ptr 1008 0 [])), (10, (.ptr 1010 0 [])), (11, (i6 r7.2)), (13, (i6 r8.2)), (14, (.ptr 1014 0 [])), (16, (.ptr 1016 0 [])), (18, (.ptr 1018 0 [])), (20, (.ptr 1020 0 [])), (22, (.ptr 1022 0 []))] [(500, some (.know (globF 0 [35, 37, 137]))), (501, some (.know (globF 1 [70, 138, 139]))), (1007, some (.box 28 (.d (e_api_Resources r2.1)))), (1008, some (.box 28 (.d (e_api_Resources r4.1)))), (1010, some (.box 28 (.d (e_api_Resources r7.1)))), (1014, some (.box 28 (.d (e_api_Resources r9.1)))), (1016, some (.box 28 (.d (e_api_Resources r10.1)))), (1018, some (.box 28 (.d (e_api_Resources r11.1)))), (1020, some (.box 28 (.d (e_api_Resources r12.1)))), (1022, some (.box 28 (.d (e_api_Resources r13.1))))] hB) ?_
 refine AWp.seq ?_
 obtain ⟨r14, hr14, h⟩ := bindS h
 refine AWp.region (oc (lb hN 28 (.d (e_api_Resources r12.1)) (.d (e_api_Resources r12.1)) tyS28 (At.here _) (ot 20 (.ptr 1020 0 [])))
 (oc (lb hN 28 (.d (e_api_Resources r13.1)) (.d (e_api_Resources r13.1)) tyS28 (At.here _) (ot 22 (.ptr 1022 0 [])))
 (oc (OpJ.callFn hB fnOk29 (resource_Union_ac r12.1 r13.1 r14 hr14) [(500, 500), (501, 501)] (by kernel_rfl) (L rfl) (by kernel_rfl) (OpdL.cons (ot 86 (.d (e_api_Resources r12.1))) (OpdL.cons (ot 87 (.d (e_api_Resources r13.1))) OpdL.nil)))
 (oc (mv hN (ot 88 (.tup [(.d (e_api_Resources r14.1)), (i6 r14.2)])))
 (oc (OpJ.extract (v := (.d (e_api_Resources r14.1))) (by rfl) rfl (L rfl) (ot 85 (.tup [(.d (e_api_Resources r14.1)), (i6 r14.2)])))
 (oc (OpJ.extract (v := (i6 r14.2)) (by rfl) rfl (L rfl) (ot 85 (.tup [(.d (e_api_Resources r14.1)), (i6 r14.2)])))
 (oc (OpJ.alloc hB tyZ28 (nm := 1024) (by decide) (L rfl))
 (oc (OpJ.storeB (bt := 28) (c := (.st [.nils, .nils])) (v := (.d (e_api_Resources r14.1))) (c' := (.d (e_api_Resources r14.1))) tyS28 (SetAt.here _ _) (by rfl) (by rfl) (by simp) rfl (ot 24 (.ptr 1024 0 [])) (ot 89 (.d (e_api_Resources r14.1))))
 (oc (OpJ.assign (L rfl) (ot 90 (i6 r14.2)))
 (OpJs.nil)))))))))) (by rfl) (by rfl) ?_
 refine seqQ_n ?_
 refine AWp.ghost (mp [] [(7, (.ptr 1007 0 [])), (8, (.ptr 1008 0 [])), (10, (.ptr 1010 0 [])), (11, (i6 r7.2)), (13, (i6 r8.2)), (14, (.ptr 1014 0 [])), (16, (.ptr 1016 0 [])), (18, (.ptr 1018 0 [])), (20, (.ptr 1020 0 [])), (24, (.ptr 1024 0 []))] [(500, some (.know (globF 0 [35, 37, 137]))), (501, some (.know (globF 1 [70, 138, 139]))), (1007, some (.box 28 (.d (e_api_Resources r2.1)))), (1008, some (.box 28 (.d (e_api_Resources r4.1)))), (1010, some (.box 28 (.d (e_api_Resources r7.1)))), (1014, some (.box 28 (.d (e_api_Resources r9.1)))), (1016, some (.box 28 (.d (e_api_Resources r10.1)))), (1018, some (.box 28 (.d (e_api_Resources r11.1)))), (1020, some (.box 28 (.d (e_api_Resources r12.1)))), (1024, some (.box 28 (.d (e_api_Resources r14.1))))] hB) ?_
 refine AWp.seq ?_
 obtain ⟨r15, hr15, h⟩ := bindS h
 refine AWp.region (oc (lb hN 28 (.d (e_api_Resources r4.1)) (.d (e_api_Resources r4.1)) tyS28 (At.here _) (ot 8 (.ptr 1008 0 [])))
 (oc (lb hN 28 (.d (e_api_Resources r2.1)) (.d (e_api_Resources r2.1)) tyS28 (At.here _) (ot 7 (.ptr 1007 0 [])))
 (oc (OpJ.callFn hB fnOk29 (resource_Union_ac r4.1 r2.1 r15 hr15) [(500, 500), (501, 501)] (by kernel_rfl) (L rfl) (by kernel_rfl) (OpdL.cons (ot 92 (.d (e_api_Resources r4.1))) (OpdL.cons (ot 93 (.d (e_api_Resources r2.1))) OpdL.nil)))
 (oc (mv hN (ot 94 (.tup [(.d (e_api_Resources r15.1)), (i6 r15.2)])))
 (oc (OpJ.extract (v := (.d (e_api_Resources r15.1))) (by rfl) rfl (L rfl) (ot 91 (.tup [(.d (e_api_Resources r15.1)), (i6 r15.2)])))
 (oc (OpJ.extract (v := (i6 r15.2)) (by rfl) rfl (L rfl) (ot 91 (.tup [(.d (e_api_Resources r15.1)), (i6 r15.2)])))
 (oc (OpJ.alloc hB tyZ28 (nm := 1026) (by decide) (L rfl))
 (oc (OpJ.storeB (bt := 28) (c := (.st [.nils, .nils])) (v := (.d (e_api_Resources r15.1))) (c' := (.d (e_api_Resources r15.1))) tyS28 (SetAt.here _ _) (by rfl) (by rfl) (by simp) rfl (ot 26 (.ptr 1026 0 [])) (ot 95 (.d (e_api_Resources r15.1))))
 (oc (OpJ.assign (L rfl) (ot 96 (i6 r15.2)))
 (OpJs.nil)))))))))) (by rfl) (by rfl) ?_
 refine seqQ_n ?_
 refine AWp.ghost (mp [] [(7, (.ptr 1007 0 [])), (8, (.ptr 1008 0 [])), (10, (.ptr 1010 0 [])), (11, (i6 r7.2)), (13, (i6 r8.2)), (14, (.ptr 1014 0 [])), (16, (.ptr 1016 0 [])), (18, (.ptr 1018 0 [])), (20, (.ptr 1020 0 [])), (24, (.ptr 1024 0 [])), (26, (.ptr 1026 0 []))] [(500, some (.know (globF 0 [35, 37, 137]))), (501, some (.know (globF 1 [70, 138, 139]))), (1007, some (.box 28 (.d (e_api_Resources r2.1)))), (1008, some (.box 28 (.d (e_api_Resources r4.1)))), (1010, some (.box 28 (.d (e_api_Resources r7.1)))), (1014, some (.box 28 (.d (e_api_Resources r9.1)))), (1016, some (.box 28 (.d (e_api_Resources r10.1)))), (1018, some (.box 28 (.d (e_api_Resources r11.1)))), (1020, some (.box 28 (.d (e_api_Resources r12.1)))), (1024, some (.box 28 (.d (e_api_Resources r14.1)))), (1026, some (.box 28 (.d (e_api_Resources r15.1))))] hB) ?_
 refine AWp.seq ?_
 obtain ⟨r16, hr16, h⟩ := bindS h
 refine AWp.region (oc (lb hN 28 (.d (e_api_Resources r4.1)) (.d (e_api_Resources r4.1)) tyS28 (At.here _) (ot 8 (.ptr 1008 0 [])))
 (oc (lb hN 28 (.d (e_api_Resources r2.1)) (.d (e_api_Resources r2.1)) tyS28 (At.here _) (ot 7 (.ptr 1007 0 [])))
 (oc (OpJ.callFn hB fnOk30 (resource_Intersect_ac r4.1 r2.1 r16 hr16) [(500, 500), (501, 501)] (by kernel_rfl) (L rfl) (by kernel_rfl) (OpdL.cons (ot 98 (.d (e_api_Resources r4.1))) (OpdL.cons (ot 99 (.d (e_api_Resources r2.1))) OpdL.nil)))
 (oc (mv hN (ot 100 (.tup [(.d (e_api_Resources r16.1)), (i6 r16.2)])))
 (oc (OpJ.extract (v := (.d (e_api_Resources r16.1))) (by rfl) rfl (L rfl) (ot 97 (.tup [(.d (e_api_Resources r16.1)), (i6 r16.2)])))
 (oc (OpJ.extract (v := (i6 r16.2)) (by rfl) rfl (L rfl) (ot 97 (.tup [(.d (e_api_Resources r16.1)), (i6 r16.2)])))
 (oc (OpJ.alloc hB tyZ28 (nm := 1028) (by decide) (L rfl))
 (oc (OpJ.storeB (bt := 28) (c := (.st [.nils, .nils])) (v := (.d (e_api_Resources r16.1))) (c' := (.d (e_api_Resources r16.1))) tyS28 (SetAt.here _ _) (by rfl) (by rfl) (by simp) rfl (ot 28 (.ptr 1028 0 [])) (ot 101 (.d (e_api_Resources r16.1))))
 (oc (OpJ.assign (L rfl) (ot 102 (i6 r16.2)))
 (OpJs.nil)))))))))) (by rfl) (by rfl) ?_
 refine seqQ_n ?_
 refine AWp.ghost (mp [] [(7, (.ptr 1007 0 [])), (8, (.ptr 1008 0 [])), (10, (.ptr 1010 0 [])), (11, (i6 r7.2)), (13, (i6 r8.2)), (14, (.ptr 1014 0 [])), (16, (.ptr 1016 0 [])), (18, (.ptr 1018 0 [])), (20, (.ptr 1020 0 [])), (24, (.ptr 1024 0 [])), (26, (.ptr 1026 0 [])), (28, (.ptr 1028 0 []))] [(500, some (.know (globF 0 [35, 37, 137]))), (501, some (.know (globF 1 [70, 138, 139]))), (1007, some (.box 28 (.d (e_api_Resources r2.1)))), (1008, some (.box 28 (.d (e_api_Resources r4.1)))), (1010, some (.box 28 (.d (e_api_Resources r7.1)))), (1014, some (.box 28 (.d (e_api_Resources r9.1)))), (1016, some (.box 28 (.d (e_api_Resources r10.1)))), (1018, some (.box 28 (.d (e_api_Resources r11.1)))), (1020, some (.box 28 (.d (e_api_Resources r12.1)))), (1024, some (.box 28 (.d (e_api_Resources r14.1)))), (1026, some (.box 28 (.d (e_api_Resources r15.1)))), (1028, some (.box 28 (.d (e_api_Resources r16.1))))] hB) ?_
 refine AWp.seq ?_
 obtain ⟨r17, hr17, h⟩ := bindS h
 refine AWp.region (oc (lb hN 28 (.d (e_api_Resources r2.1)) (.d (e_api_Resources r2.1)) tyS28 (At.here _) (ot 7 (.ptr 1007 0 [])))
 (oc (lb hN 28 (.d (e_api_Resources r4.1)) (.d (e_api_Resources r4.1)) tyS28 (At.here _) (ot 8 (.ptr 1008 0 [])))
 (oc (OpJ.callFn hB fnOk31 (resource_Minus_ac r2.1 r4.1 r17 hr17) [(500, 500), (501, 501)] (by kernel_rfl) (L rfl) (by kernel_rfl) (OpdL.cons (ot 104 (.d (e_api_Resources r2.1))) (OpdL.cons (ot 105 (.d (e_api_Resources r4.1))) OpdL.nil)))
 (oc (mv hN (ot 106 (.tup [(.d (e_api_Resources r17.1)), (i6 r17.2)])))
 (oc (OpJ.extract (v := (.d (e_api_Resources r17.1))) (by rfl) rfl (L rfl) (ot 103 (.tup [(.d (e_api_Resources r17.1)), (i6 r17.2)])))
 (oc (OpJ.extract (v := (i6 r17.2)) (by rfl) rfl (L rfl) (ot 103 (.tup [(.d (e_api_Resources r17.1)), (i6 r17.2)])))
 (oc (OpJ.alloc hB tyZ28 (nm := 1030) (by decide) (L rfl))
 (oc (OpJ.storeB (bt := 28) (c := (.st [.nils, .nils])) (v := (.d (e_api_Resources r17.1))) (c' := (.d (e_api_Resources r17.1))) tyS28 (SetAt.here _ _) (by rfl) (by rfl) (by simp) rfl (ot 30 (.ptr 1030 0 [])) (ot 107 (.d (e_api_Resources r17.1))))
 (oc (OpJ.assign (L rfl) (ot 108 (i6 r17.2)))
 (OpJs.nil)))))))))) (by rfl) (by rfl) ?_
 refine seqQ_n ?_
 refine AWp.ghost (mp [] [(8, (.ptr 1008 0 [])), (10, (.ptr 1010 0 [])), (11, (i6 r7.2)), (13, (i6 r8.2)), (14, (.ptr 1014 0 [])), (16, (.ptr 1016 0 [])), (18, (.ptr 1018 0 [])), (20, (.ptr 1020 0 [])), (24, (.ptr 1024 0 [])), (26, (.ptr 1026 0 [])), (28, (.ptr 1028 0 [])), (30, (.ptr 1030 0 []))] [(500, some (.know (globF 0 [35, 37, 137]))), (501, some (.know (globF 1 [70, 138, 139]))), (1008, some (.box 28 (.d (e_api_Resources r4.1)))), (1010, some (.box 28 (.d (e_api_Resources r7.1)))), (1014, some (.box 28 (.d (e_api_Resources r9.1)))), (1016, some (.box 28 (.d (e_api_Resources r10.1)))), (1018, some (.box 28 (.d (e_api_Resources r11.1)))), (1020, some (.box 28 (.d (e_api_Resources r12.1)))), (1024, some (.box 28 (.d (e_api_Resources r14.1)))), (1026, some (.box 28 (.d (e_api_Resources r15.1)))), (1028, some (.box 28 (.d (e_api_Resources r16.1)))), (1030, some (.box 28 (.d (e_api_Resources r17.1))))] hB) ?_
 refine AWp.seq ?_
 obtain ⟨r18, hr18, h⟩ := bindS h
 refine AWp.region (oc (lb hN 28 (.d (e_api_Resources r17.1)) (.d (e_api_Resources r17.1)) tyS28 (At.here _) (ot 30 (.ptr 1030 0 [])))
 (oc (lb hN 28 (.d (e_api_Resources r4.1)) (.d (e_api_Resources r4.1)) tyS28 (At.here _) (ot 8 (.ptr 1008 0 [])))
 (oc (OpJ.callFn hB fnOk30 (resource_Intersect_ac r17.1 r4.1 r18 hr18) [(500, 500), (501, 501)] (by kernel_rfl) (L rfl) (by kernel_rfl) (OpdL.cons (ot 110 (.d (e_api_Resources r17.1))) (OpdL.cons (ot 111 (.d (e_api_Resources r4.1))) OpdL.nil)))
 (oc (mv hN (ot 112 (.tup [(.d (e_api_Resources r18.1)), (i6 r18.2)])))
 (oc (OpJ.extract (v := (.d (e_api_Resources r18.1))) (by rfl) rfl (L rfl) (ot 109 (.tup [(.d (e_api_Resources r18.1)), (i6 r18.2)])))
 (oc (OpJ.extract (v := (i6 r18.2)) (by rfl) rfl (L rfl) (ot 109 (.tup [(.d (e_api_Resources r18.1)), (i6 r18.2)])))
 (oc (OpJ.alloc hB tyZ28 (nm := 1032) (by decide) (L rfl))
 (oc (OpJ.storeB (bt := 28) (c := (.st [.nils, .nils])) (v := (.d (e_api_Resources r18.1))) (c' := (.d (e_api_Resources r18.1))) tyS28 (SetAt.here _ _) (by rfl) (by rfl) (by simp) rfl (ot 32 (.ptr 1032 0 [])) (ot 113 (.d (e_api_Resources r18.1))))
 (oc (OpJ.assign (L rfl) (ot 114 (i6 r18.2)))
 (OpJs.nil)))))))))) (by rfl) (by rfl) ?_
 refine seqQ_n ?_
 refine AWp.ghost (mp [] [(10, (.ptr 1010 0 [])), (11, (i6 r7.2)), (13, (i6 r8.2)), (14, (.ptr 1014 0 [])), (16, (.ptr 1016 0 [])), (18, (.ptr 1018 0 [])), (20, (.ptr 1020 0 [])), (24, (.ptr 1024 0 [])), (26, (.ptr 1026 0 [])), (28, (.ptr 1028 0 [])), (32, (.ptr 1032 0 [])), (33, (i6 r18.2))] [(500, some (.know (globF 0 [35, 37, 137]))), (501, some (.know (globF 1 [70, 138, 139]))), (1010, some (.box 28 (.d (e_api_Resources r7.1)))), (1014, some (.box 28 (.d (e_api_Resources r9.1)))), (1016, some (.box 28 (.d (e_api_Resources r10.1)))), (1018, some (.box 28 (.d (e_api_Resources r11.1)))), (1020, some (.box 28 (.d (e_api_Resources r12.1)))), (1024, some (.box 28 (.d (e_api_Resources r14.1)))), (1026, some (.box 28 (.d (e_api_Resources r15.1)))), (1028, some (.box 28 (.d (e_api_Resources r16.1)))), (1032, some (.box 28 (.d (e_api_Resources r18.1))))] hB) ?_
 refine AWp.seq ?_
 refine AWp.cut h (fun m29 : Bool => ([(6, (bo m29))] : EL)) (fun m29 : Bool => ([(500, some (.know (globF 0 [35, 37, 137]))), (501, some (.know (globF 1 [70, 138, 139])))] : OL)) (fun m29 h E' O' hmat => ?_) (fun j30 hjj30 h => ?_)
 ·refine seqQ_n ?_
  refine AWp.ghost hmat ?_
  refine AWp.ret ?_
  obtain rfl := Option.some.inj h
  exact ⟨.inl rfl, _, _, (kp [(6, _)] [(500, some _), (501, some _)] hB rfl rfl (by rfl)), [(bo m29)], (Res.tmp (by rfl) (by rfl) Res.nil), rfl, by rfl, by rfl, by rfl⟩
 ·rcases Bool.eq_false_or_eq_true (((r7.2 == (0 : Int)) && (r8.2 == (0 : Int))) && (r18.2 == (0 : Int))) with hg31 | hg31
  ·replace h := ite_t hg31 h
   obtain ⟨r32, hr32, h⟩ := bindS h
   rcases Bool.eq_false_or_eq_true r32 with hg33 | hg33
   ·replace h := ite_t hg33 h
    obtain ⟨r34, hr34, h⟩ := bindS h
    rcases Bool.eq_false_or_eq_true r34 with hg35 | hg35
    ·replace h := ite_t hg35 h
     obtain ⟨r36, hr36, h⟩ := bindS h
     rcases Bool.eq_false_or_eq_true r36 with hg37 | hg37
     ·replace h := ite_t hg37 h
      obtain ⟨r38, hr38, h⟩ := bindS h
      rcases Bool.eq_false_or_eq_true ((r38 && ((r18.1.fAddrs.length : Int) == (0 : Int))) && ((r18.1.fASNs.length : Int) == (0 : Int))) with hg39 | hg39
      ·replace h := ite_t hg39 h
       obtain ⟨r40, hr40, h⟩ := bindS h
       refine AWp.region (oc (mv hN (ot 11 (i6 r7.2)))
        (oc (OpJ.eqlI (L rfl) (ot 115 (i6 r7.2)) (Opd.int .i64 (0)))
        (oc (mv hN (ot 116 (bo (r7.2 == (0 : Int)))))
        (oc (op hN 117 (i6 r8.2) (mv hN (ot 13 (i6 r8.2))) (OptL.keep rfl OptL.nil) (GuardV.plain _))
        (oc (op hN 117 (bo (r8.2 == (0 : Int))) (OpJ.eqlI (L rfl) (ot 118 (i6 r8.2)) (Opd.int .i64 (0))) (OptL.opt OptL.nil) (GuardV.plain _))
        (oc (OpJ.pickAnd rfl (L rfl) (ot 117 (bo (r7.2 == (0 : Int)))) (ot 119 (.opt ((r7.2 == (0 : Int)) == true) (bo (r8.2 == (0 : Int))))))
        (oc (mv hN (ot 120 (bo ((r7.2 == (0 : Int)) && (r8.2 == (0 : Int))))))
        (oc (op hN 121 (i6 r18.2) (mv hN (ot 33 (i6 r18.2))) (OptL.keep rfl OptL.nil) (GuardV.plain _))
        (oc (op hN 121 (bo (r18.2 == (0 : Int))) (OpJ.eqlI (L rfl) (ot 122 (i6 r18.2)) (Opd.int .i64 (0))) (OptL.opt OptL.nil) (GuardV.plain _))
        (oc (OpJ.pickAnd rfl (L rfl) (ot 121 (bo ((r7.2 == (0 : Int)) && (r8.2 == (0 : Int))))) (ot 123 (.opt (((r7.2 == (0 : Int)) && (r8.2 == (0 : Int))) == true) (bo (r18.2 == (0 : Int))))))
        (oc (OpJ.val (v' := .d (.bool true)) (by rw [hg31] <;> rfl) (mv hN (ot 124 (bo (((r7.2 == (0 : Int)) && (r8.2 == (0 : Int))) && (r18.2 == (0 : Int)))))))
        (oc (gd 125 (lb hN 28 (.d (e_api_Resources r9.1)) (.d (e_api_Resources r9.1)) tyS28 (At.here _) (ot 14 (.ptr 1014 0 []))))
        (oc (gd 125 (lb hN 28 (.d (e_api_Resources r10.1)) (.d (e_api_Resources r10.1)) tyS28 (At.here _) (ot 16 (.ptr 1016 0 []))))
        (oc (gd 125 (cf hB fnOk25 (exchangepointref21_Same_ac r9.1 r10.1 r32 hr32) (L rfl) (OpdL.cons (ot 126 (.d (e_api_Resources r9.1))) (OpdL.cons (ot 127 (.d (e_api_Resources r10.1))) OpdL.nil))))
        (oc (OpJ.pickT (L rfl) (ot 125 (bo true)) (ot 128 (bo r32)))
        (oc (OpJ.val (v' := .d (.bool true)) (by rw [hg33] <;> rfl) (mv hN (ot 129 (bo r32))))
        (oc (gd 130 (lb hN 28 (.d (e_api_Resources r11.1)) (.d (e_api_Resources r11.1)) tyS28 (At.here _) (ot 18 (.ptr 1018 0 []))))
        (oc (gd 130 (lb hN 28 (.d (e_api_Resources r14.1)) (.d (e_api_Resources r14.1)) tyS28 (At.here _) (ot 24 (.ptr 1024 0 []))))
        (oc (gd 130 (cf hB fnOk25 (exchangepointref21_Same_ac r11.1 r14.1 r34 hr34) (L rfl) (OpdL.cons (ot 131 (.d (e_api_Resources r11.1))) (OpdL.cons (ot 132 (.d (e_api_Resources r14.1))) OpdL.nil))))
        (oc (OpJ.pickT (L rfl) (ot 130 (bo true)) (ot 133 (bo r34)))
        (oc (OpJ.val (v' := .d (.bool true)) (by rw [hg35] <;> rfl) (mv hN (ot 134 (bo r34))))
        (oc (gd 135 (lb hN 28 (.d (e_api_Resources r7.1)) (.d (e_api_Resources r7.1)) tyS28 (At.here _) (ot 10 (.ptr 1010 0 []))))
        (oc (gd 135 (lb hN 28 (.d (e_api_Resources r15.1)) (.d (e_api_Resources r15.1)) tyS28 (At.here _) (ot 26 (.ptr 1026 0 []))))
        (oc (gd 135 (cf hB fnOk25 (exchangepointref21_Same_ac r7.1 r15.1 r36 hr36) (L rfl) (OpdL.cons (ot 136 (.d (e_api_Resources r7.1))) (OpdL.cons (ot 137 (.d (e_api_Resources r15.1))) OpdL.nil))))
        (oc (OpJ.pickT (L rfl) (ot 135 (bo true)) (ot 138 (bo r36)))
        (oc (OpJ.val (v' := .d (.bool true)) (by rw [hg37] <;> rfl) (mv hN (ot 139 (bo r36))))
        (oc (gd 140 (lb hN 28 (.d (e_api_Resources r12.1)) (.d (e_api_Resources r12.1)) tyS28 (At.here _) (ot 20 (.ptr 1020 0 []))))
        (oc (gd 140 (lb hN 28 (.d (e_api_Resources r16.1)) (.d (e_api_Resources r16.1)) tyS28 (At.here _) (ot 28 (.ptr 1028 0 []))))
        (oc (gd 140 (cf hB fnOk25 (exchangepointref21_Same_ac r12.1 r16.1 r38 hr38) (L rfl) (OpdL.cons (ot 141 (.d (e_api_Resources r12.1))) (OpdL.cons (ot 142 (.d (e_api_Resources r16.1))) OpdL.nil))))
        (oc (OpJ.pickT (L rfl) (ot 140 (bo true)) (ot 143 (bo r38)))
        (oc (mv hN (ot 144 (bo r38)))
        (oc (op hN 145 (.ptr 1032 0 [0]) (ov (.ptr 1032 0 [0]) (fp hN Tryd.underlying28 0 tyS25 (.box 28 (.d (e_api_Resources r18.1))) (ot 32 (.ptr 1032 0 [])))) (OptL.keep rfl OptL.nil) (GuardV.plain _))
        (oc (op hN 145 (qe_api_Range_6 r18.1.fAddrs) (lb hN 28 (.d (e_api_Resources r18.1)) (qe_api_Range_6 r18.1.fAddrs) tyS25 (ad (.list 6 (r18.1.fAddrs.map e_api_Range))) (ot 146 (.ptr 1032 0 [0]))) (OptL.opt OptL.nil) (GuardV.plain _))
        (oc (op hN 145 (i6 (r18.1.fAddrs.length : Int)) (OpJ.val (v' := (i6 (r18.1.fAddrs.length : Int))) (by simp) (OpJ.lenD Tryd.underlying25 (L rfl) (ot 147 (qe_api_Range_6 r18.1.fAddrs)))) (OptL.opt OptL.nil) (GuardV.plain _))
        (oc (op hN 145 (bo ((r18.1.fAddrs.length : Int) == (0 : Int))) (OpJ.eqlI (L rfl) (ot 148 (i6 (r18.1.fAddrs.length : Int))) (Opd.int .i64 (0))) (OptL.opt OptL.nil) (GuardV.plain _))
        (oc (OpJ.pickAnd rfl (L rfl) (ot 145 (bo r38)) (ot 149 (.opt (r38 == true) (bo ((r18.1.fAddrs.length : Int) == (0 : Int))))))
        (oc (mv hN (ot 150 (bo (r38 && ((r18.1.fAddrs.length : Int) == (0 : Int))))))
        (oc (op hN 151 (.ptr 1032 1 [1]) (ov (.ptr 1032 1 [1]) (fp hN Tryd.underlying28 1 tyS26 (.box 28 (.d (e_api_Resources r18.1))) (ot 32 (.ptr 1032 0 [])))) (OptL.keep rfl OptL.nil) (GuardV.plain _))
        (oc (op hN 151 (qe_api_Span_2 r18.1.fASNs) (lb hN 28 (.d (e_api_Resources r18.1)) (qe_api_Span_2 r18.1.fASNs) tyS26 (ad (.list 2 (r18.1.fASNs.map e_api_Span))) (ot 152 (.ptr 1032 1 [1]))) (OptL.opt OptL.nil) (GuardV.plain _))
        (oc (op hN 151 (i6 (r18.1.fASNs.length : Int)) (OpJ.val (v' := (i6 (r18.1.fASNs.length : Int))) (by simp) (OpJ.lenD Tryd.underlying26 (L rfl) (ot 153 (qe_api_Span_2 r18.1.fASNs)))) (OptL.opt OptL.nil) (GuardV.plain _))
        (oc (op hN 151 (bo ((r18.1.fASNs.length : Int) == (0 : Int))) (OpJ.eqlI (L rfl) (ot 154 (i6 (r18.1.fASNs.length : Int))) (Opd.int .i64 (0))) (OptL.opt OptL.nil) (GuardV.plain _))
        (oc (OpJ.pickAnd rfl (L rfl) (ot 151 (bo (r38 && ((r18.1.fAddrs.length : Int) == (0 : Int))))) (ot 155 (.opt ((r38 && ((r18.1.fAddrs.length : Int) == (0 : Int))) == true) (bo ((r18.1.fASNs.length : Int) == (0 : Int))))))
        (oc (OpJ.val (v' := .d (.bool true)) (by rw [hg39] <;> rfl) (mv hN (ot 156 (bo ((r38 && ((r18.1.fAddrs.length : Int) == (0 : Int))) && ((r18.1.fASNs.length : Int) == (0 : Int)))))))
        (oc (gd 157 (OpJ.callFn hB fnOk17 (exchangepointlaw21_awake_ac  r40 hr40) [(500, 500), (501, 501)] (by kernel_rfl) (L rfl) (by kernel_rfl) OpdL.nil))
        (oc (OpJ.pickT (L rfl) (ot 157 (bo true)) (ot 158 (bo r40)))
        (oc (OpJ.assign (L rfl) (ot 159 (bo r40)))
        (OpJs.nil))))))))))))))))))))))))))))))))))))))))))))))) (by rfl) (by rfl) ?_
       exact hjj30 _ h _ _ (Mat.trans (mp [] [(6, (bo r40))] [(500, some (.know (globF 0 [35, 37, 137]))), (501, some (.know (globF 1 [70, 138, 139])))] hB) (mp [] _ _ hB))
      ·replace h := ite_f hg39 h
       refine rg (c (mv hN (q 11)) rfl (c (OpJ.eqlI (L rfl) (q 115) (Opd.int .i64 (0))) rfl (c (mv hN (q 116)) rfl (c (oq hN 117 (mv hN (q 13)) (OptL.keep (by rfl) OptL.nil) (GuardV.plain _)) rfl (c (oq hN 117 (OpJ.eqlI (L rfl) (q 118) (Opd.int .i64 (0))) (OptL.opt OptL.nil) (GuardV.plain _)) rfl (c (OpJ.pickAnd rfl (L rfl) (q 117) (q 119)) rfl (c (mv hN (q 120)) rfl (c (oq hN 121 (mv hN (q 33)) (OptL.keep (by rfl) OptL.nil) (GuardV.plain _)) rfl (c (oq hN 121 (OpJ.eqlI (L rfl) (q 122) (Opd.int .i64 (0))) (OptL.opt OptL.nil) (GuardV.plain _)) rfl (c (OpJ.pickAnd rfl (L rfl) (q 121) (q 123)) rfl (c (OpJ.val (v' := .d (.bool true)) (by rw [hg31] <;> rfl) (mv hN (q 124))) rfl (c (gd 125 (lb hN 28 _ _ tyS28 (At.here _) (q 14))) rfl (c (gd 125 (lb hN 28 _ _ tyS28 (At.here _) (q 16))) rfl (cg (gd 125 (cf hB fnOk25 (exchangepointref21_Same_ac r9.1 r10.1 r32 hr32) (L rfl) (OpdL.cons (q 126) (OpdL.cons (q 127) OpdL.nil)))) rfl (c (OpJ.pickT (L rfl) (q 125) (q 128)) rfl (c (OpJ.val (v' := .d (.bool true)) (by rw [hg33] <;> rfl) (mv hN (q 129))) rfl (c (gd 130 (lb hN 28 _ _ tyS28 (At.here _) (q 18))) rfl (c (gd 130 (lb hN 28 _ _ tyS28 (At.here _) (q 24))) rfl (cg (gd 130 (cf hB fnOk25 (exchangepointref21_Same_ac r11.1 r14.1 r34 hr34) (L rfl) (OpdL.cons (q 131) (OpdL.cons (q 132) OpdL.nil)))) rfl (c (OpJ.pickT (L rfl) (q 130) (q 133)) rfl (c (OpJ.val (v' := .d (.bool true)) (by rw [hg35] <;> rfl) (mv hN (q 134))) rfl (c (gd 135 (lb hN 28 _ _ tyS28 (At.here _) (q 10))) rfl (c (gd 135 (lb hN 28 _ _ tyS28 (At.here _) (q 26))) rfl (cg (gd 135 (cf hB fnOk25 (exchangepointref21_Same_ac r7.1 r15.1 r36 hr36) (L rfl) (OpdL.cons (q 136) (OpdL.cons (q 137) OpdL.nil)))) rfl (c (OpJ.pickT (L rfl) (q 135) (q 138)) rfl (c (OpJ.val (v' := .d (.bool true)) (by rw [hg37] <;> rfl) (mv hN (q 139))) rfl (c (gd 140 (lb hN 28 _ _ tyS28 (At.here _) (q 20))) rfl (c (gd 140 (lb hN 28 _ _ tyS28 (At.here _) (q 28))) rfl (cg (gd 140 (cf hB fnOk25 (exchangepointref21_Same_ac r12.1 r16.1 r38 hr38) (L rfl) (OpdL.cons (q 141) (OpdL.cons (q 142) OpdL.nil)))) rfl (c (OpJ.pickT (L rfl) (q 140) (q 143)) rfl (c (mv hN (q 144)) rfl (c (oq hN 145 (ov (.ptr 1032 0 [0]) (fp hN Tryd.underlying28 0 tyS25 _ (q 32))) (OptL.keep (by rfl) OptL.nil) (GuardV.plain _)) rfl (c (oq hN 145 (lb hN 28 _ _ tyS25 (ad _) (q 146)) (OptL.opt OptL.nil) (GuardV.plain _)) rfl (c (oq hN 145 (OpJ.val (v' := (i6 (r18.1.fAddrs.length : Int))) (by simp) (OpJ.lenD Tryd.underlying25 (L rfl) (q 147))) (OptL.opt OptL.nil) (GuardV.plain _)) rfl (c (oq hN 145 (OpJ.eqlI (L rfl) (q 148) (Opd.int .i64 (0))) (OptL.opt OptL.nil) (GuardV.plain _)) rfl (c (OpJ.pickAnd rfl (L rfl) (q 145) (q 149)) rfl (c (mv hN (q 150)) rfl (c (oq hN 151 (ov (.ptr 1032 1 [1]) (fp hN Tryd.underlying28 1 tyS26 _ (q 32))) (OptL.keep (by rfl) OptL.nil) (GuardV.plain _)) rfl (c (oq hN 151 (lb hN 28 _ _ tyS26 (ad _) (q 152)) (OptL.opt OptL.nil) (GuardV.plain _)) rfl (c (oq hN 151 (OpJ.val (v' := (i6 (r18.1.fASNs.length : Int))) (by simp) (OpJ.lenD Tryd.underlying26 (L rfl) (q 153))) (OptL.opt OptL.nil) (GuardV.plain _)) rfl (c (oq hN 151 (OpJ.eqlI (L rfl) (q 154) (Opd.int .i64 (0))) (OptL.opt OptL.nil) (GuardV.plain _)) rfl (c (OpJ.pickAnd rfl (L rfl) (q 151) (q 155)) rfl (c (OpJ.val (v' := .d (.bool false)) (by rw [hg39] <;> rfl) (mv hN (q 156))) rfl (cg (sU 157 (L rfl)) rfl (c (OpJ.pickF (L rfl) (q 157) (Opd.bool false)) rfl (c (OpJ.assign (L rfl) (q 159)) rfl cn)))))))))))))))))))))))))))))))))))))))))))))) ?_
       exact hjj30 _ h _ _ (Mat.trans (mp [] [(6, (bo false))] [(500, some (.know (globF 0 [35, 37, 137]))), (501, some (.know (globF 1 [70, 138, 139])))] hB) (mp [] _ _ hB))
     ·replace h := ite_f hg37 h
      refine rg (c (mv hN (q 11)) rfl (c (OpJ.eqlI (L rfl) (q 115) (Opd.int .i64 (0))) rfl (c (mv hN (q 116)) rfl (c (oq hN 117 (mv hN (q 13)) (OptL.keep (by rfl) OptL.nil) (GuardV.plain _)) rfl (c (oq hN 117 (OpJ.eqlI (L rfl) (q 118) (Opd.int .i64 (0))) (OptL.opt OptL.nil) (GuardV.plain _)) rfl (c (OpJ.pickAnd rfl (L rfl) (q 117) (q 119)) rfl (c (mv hN (q 120)) rfl (c (oq hN 121 (mv hN (q 33)) (OptL.keep (by rfl) OptL.nil) (GuardV.plain _)) rfl (c (oq hN 121 (OpJ.eqlI (L rfl) (q 122) (Opd.int .i64 (0))) (OptL.opt OptL.nil) (GuardV.plain _)) rfl (c (OpJ.pickAnd rfl (L rfl) (q 121) (q 123)) rfl (c (OpJ.val (v' := .d (.bool true)) (by rw [hg31] <;> rfl) (mv hN (q 124))) rfl (c (gd 125 (lb hN 28 _ _ tyS28 (At.here _) (q 14))) rfl (c (gd 125 (lb hN 28 _ _ tyS28 (At.here _) (q 16))) rfl (cg (gd 125 (cf hB fnOk25 (exchangepointref21_Same_ac r9.1 r10.1 r32 hr32) (L rfl) (OpdL.cons (q 126) (OpdL.cons (q 127) OpdL.nil)))) rfl (c (OpJ.pickT (L rfl) (q 125) (q 128)) rfl (c (OpJ.val (v' := .d (.bool true)) (by rw [hg33] <;> rfl) (mv hN (q 129))) rfl (c (gd 130 (lb hN 28 _ _ tyS28 (At.here _) (q 18))) rfl (c (gd 130 (lb hN 28 _ _ tyS28 (At.here _) (q 24))) rfl (cg (gd 130 (cf hB fnOk25 (exchangepointref21_Same_ac r11.1 r14.1 r34 hr34) (L rfl) (OpdL.cons (q 131) (OpdL.cons (q 132) OpdL.nil)))) rfl (c (OpJ.pickT (L rfl) (q 130) (q 133)) rfl (c (OpJ.val (v' := .d (.bool true)) (by rw [hg35] <;> rfl) (mv hN (q 134))) rfl (c (gd 135 (lb hN 28 _ _ tyS28 (At.here _) (q 10))) rfl (c (gd 135 (lb hN 28 _ _ tyS28 (At.here _) (q 26))) rfl (cg (gd 135 (cf hB fnOk25 (exchangepointref21_Same_ac r7.1 r15.1 r36 hr36) (L rfl) (OpdL.cons (q 136) (OpdL.cons (q 137) OpdL.nil)))) rfl (c (OpJ.pickT (L rfl) (q 135) (q 138)) rfl (c (OpJ.val (v' := .d (.bool false)) (by rw [hg37] <;> rfl) (mv hN (q 139))) rfl (cg (sU 140 (L rfl)) rfl (cg (sU 140 (L rfl)) rfl (cg (sU 140 (L rfl)) rfl (c (OpJ.pickF (L rfl) (q 140) (Opd.bool false)) rfl (c (mv hN (q 144)) rfl (cg (sU 145 (L rfl)) rfl (cg (sU 145 (L rfl)) rfl (cg (sU 145 (L rfl)) rfl (cg (sU 145 (L rfl)) rfl (c (OpJ.pickF (L rfl) (q 145) (Opd.bool false)) rfl (c (mv hN (q 150)) rfl (cg (sU 151 (L rfl)) rfl (cg (sU 151 (L rfl)) rfl (cg (sU 151 (L rfl)) rfl (cg (sU 151 (L rfl)) rfl (c (OpJ.pickF (L rfl) (q 151) (Opd.bool false)) rfl (c (mv hN (q 156)) rfl (cg (sU 157 (L rfl)) rfl (c (OpJ.pickF (L rfl) (q 157) (Opd.bool false)) rfl (c (OpJ.assign (L rfl) (q 159)) rfl cn)))))))))))))))))))))))))))))))))))))))))))))) ?_
      exact hjj30 _ h _ _ (Mat.trans (mp [] [(6, (bo false))] [(500, some (.know (globF 0 [35, 37, 137]))), (501, some (.know (globF 1 [70, 138, 139])))] hB) (mp [] _ _ hB))
    ·replace h := ite_f hg35 h
     refine rg (c (mv hN (q 11)) rfl (c (OpJ.eqlI (L rfl) (q 115) (Opd.int .i64 (0))) rfl (c (mv hN (q 116)) rfl (c (oq hN 117 (mv hN (q 13)) (OptL.keep (by rfl) OptL.nil) (GuardV.plain _)) rfl (c (oq hN 117 (OpJ.eqlI (L rfl) (q 118) (Opd.int .i64 (0))) (OptL.opt OptL.nil) (GuardV.plain _)) rfl (c (OpJ.pickAnd rfl (L rfl) (q 117) (q 119)) rfl (c (mv hN (q 120)) rfl (c (oq hN 121 (mv hN (q 33)) (OptL.keep (by rfl) OptL.nil) (GuardV.plain _)) rfl (c (oq hN 121 (OpJ.eqlI (L rfl) (q 122) (Opd.int .i64 (0))) (OptL.opt OptL.nil) (GuardV.plain _)) rfl (c (OpJ.pickAnd rfl (L rfl) (q 121) (q 123)) rfl (c (OpJ.val (v' := .d (.bool true)) (by rw [hg31] <;> rfl) (mv hN (q 124))) rfl (c (gd 125 (lb hN 28 _ _ tyS28 (At.here _) (q 14))) rfl (c (gd 125 (lb hN 28 _ _ tyS28 (At.here _) (q 16))) rfl (cg (gd 125 (cf hB fnOk25 (exchangepointref21_Same_ac r9.1 r10.1 r32 hr32) (L rfl) (OpdL.cons (q 126) (OpdL.cons (q 127) OpdL.nil)))) rfl (c (OpJ.pickT (L rfl) (q 125) (q 128)) rfl (c (OpJ.val (v' := .d (.bool true)) (by rw [hg33] <;> rfl) (mv hN (q 129))) rfl (c (gd 130 (lb hN 28 _ _ tyS28 (At.here _) (q 18))) rfl (c (gd 130 (lb hN 28 _ _ tyS28 (At.here _) (q 24))) rfl (cg (gd 130 (cf hB fnOk25 (exchangepointref21_Same_ac r11.1 r14.1 r34 hr34) (L rfl) (OpdL.cons (q 131) (OpdL.cons (q 132) OpdL.nil)))) rfl (c (OpJ.pickT (L rfl) (q 130) (q 133)) rfl (c (OpJ.val (v' := .d (.bool false)) (by rw [hg35] <;> rfl) (mv hN (q 134))) rfl (cg (sU 135 (L rfl)) rfl (cg (sU 135 (L rfl)) rfl (cg (sU 135 (L rfl)) rfl (c (OpJ.pickF (L rfl) (q 135) (Opd.bool false)) rfl (c (mv hN (q 139)) rfl (cg (sU 140 (L rfl)) rfl (cg (sU 140 (L rfl)) rfl (cg (sU 140 (L rfl)) rfl (c (OpJ.pickF (L rfl) (q 140) (Opd.bool false)) rfl (c (mv hN (q 144)) rfl (cg (sU 145 (L rfl)) rfl (cg (sU 145 (L rfl)) rfl (cg (sU 145 (L rfl)) rfl (cg (sU 145 (L rfl)) rfl (c (OpJ.pickF (L rfl) (q 145) (Opd.bool false)) rfl (c (mv hN (q 150)) rfl (cg (sU 151 (L rfl)) rfl (cg (sU 151 (L rfl)) rfl (cg (sU 151 (L rfl)) rfl (cg (sU 151 (L rfl)) rfl (c (OpJ.pickF (L rfl) (q 151) (Opd.bool false)) rfl (c (mv hN (q 156)) rfl (cg (sU 157 (L rfl)) rfl (c (OpJ.pickF (L rfl) (q 157) (Opd.bool false)) rfl (c (OpJ.assign (L rfl) (q 159)) rfl cn)))))))))))))))))))))))))))))))))))))))))))))) ?_
     exact hjj30 _ h _ _ (Mat.trans (mp [] [(6, (bo false))] [(500, some (.know (globF 0 [35, 37, 137]))), (501, some (.know (globF 1 [70, 138, 139])))] hB) (mp [] _ _ hB))
   ·replace h := ite_f hg33 h
    refine rg (c (mv hN (q 11)) rfl (c (OpJ.eqlI (L rfl) (q 115) (Opd.int .i64 (0))) rfl (c (mv hN (q 116)) rfl (c (oq hN 117 (mv hN (q 13)) (OptL.keep (by rfl) OptL.nil) (GuardV.plain _)) rfl (c (oq hN 117 (OpJ.eqlI (L rfl) (q 118) (Opd.int .i64 (0))) (OptL.opt OptL.nil) (GuardV.plain _)) rfl (c (OpJ.pickAnd rfl (L rfl) (q 117) (q 119)) rfl (c (mv hN (q 120)) rfl (c (oq hN 121 (mv hN (q 33)) (OptL.keep (by rfl) OptL.nil) (GuardV.plain _)) rfl (c (oq hN 121 (OpJ.eqlI (L rfl) (q 122) (Opd.int .i64 (0))) (OptL.opt OptL.nil) (GuardV.plain _)) rfl (c (OpJ.pickAnd rfl (L rfl) (q 121) (q 123)) rfl (c (OpJ.val (v' := .d (.bool true)) (by rw [hg31] <;> rfl) (mv hN (q 124))) rfl (c (gd 125 (lb hN 28 _ _ tyS28 (At.here _) (q 14))) rfl (c (gd 125 (lb hN 28 _ _ tyS28 (At.here _) (q 16))) rfl (cg (gd 125 (cf hB fnOk25 (exchangepointref21_Same_ac r9.1 r10.1 r32 hr32) (L rfl) (OpdL.cons (q 126) (OpdL.cons (q 127) OpdL.nil)))) rfl (c (OpJ.pickT (L rfl) (q 125) (q 128)) rfl (c (OpJ.val (v' := .d (.bool false)) (by rw [hg33] <;> rfl) (mv hN (q 129))) rfl (cg (sU 130 (L rfl)) rfl (cg (sU 130 (L rfl)) rfl (cg (sU 130 (L rfl)) rfl (c (OpJ.pickF (L rfl) (q 130) (Opd.bool false)) rfl (c (mv hN (q 134)) rfl (cg (sU 135 (L rfl)) rfl (cg (sU 135 (L rfl)) rfl (cg (sU 135 (L rfl)) rfl (c (OpJ.pickF (L rfl) (q 135) (Opd.bool false)) rfl (c (mv hN (q 139)) rfl (cg (sU 140 (L rfl)) rfl (cg (sU 140 (L rfl)) rfl (cg (sU 140 (L rfl)) rfl (c (OpJ.pickF (L rfl) (q 140) (Opd.bool false)) rfl (c (mv hN (q 144)) rfl (cg (sU 145 (L rfl)) rfl (cg (sU 145 (L rfl)) rfl (cg (sU 145 (L rfl)) rfl (cg (sU 145 (L rfl)) rfl (c (OpJ.pickF (L rfl) (q 145) (Opd.bool false)) rfl (c (mv hN (q 150)) rfl (cg (sU 151 (L rfl)) rfl (cg (sU 151 (L rfl)) rfl (cg (sU 151 (L rfl)) rfl (cg (sU 151 (L rfl)) rfl (c (OpJ.pickF (L rfl) (q 151) (Opd.bool false)) rfl (c (mv hN (q 156)) rfl (cg (sU 157 (L rfl)) rfl (c (OpJ.pickF (L rfl) (q 157) (Opd.bool false)) rfl (c (OpJ.assign (L rfl) (q 159)) rfl cn)))))))))))))))))))))))))))))))))))))))))))))) ?_
    exact hjj30 _ h _ _ (Mat.trans (mp [] [(6, (bo false))] [(500, some (.know (globF 0 [35, 37, 137]))), (501, some (.know (globF 1 [70, 138, 139])))] hB) (mp [] _ _ hB))
  ·replace h := ite_f hg31 h
   refine rg (c (mv hN (q 11)) rfl (c (OpJ.eqlI (L rfl) (q 115) (Opd.int .i64 (0))) rfl (c (mv hN (q 116)) rfl (c (oq hN 117 (mv hN (q 13)) (OptL.keep (by rfl) OptL.nil) (GuardV.plain _)) rfl (c (oq hN 117 (OpJ.eqlI (L rfl) (q 118) (Opd.int .i64 (0))) (OptL.opt OptL.nil) (GuardV.plain _)) rfl (c (OpJ.pickAnd rfl (L rfl) (q 117) (q 119)) rfl (c (mv hN (q 120)) rfl (c (oq hN 121 (mv hN (q 33)) (OptL.keep (by rfl) OptL.nil) (GuardV.plain _)) rfl (c (oq hN 121 (OpJ.eqlI (L rfl) (q 122) (Opd.int .i64 (0))) (OptL.opt OptL.nil) (GuardV.plain _)) rfl (c (OpJ.pickAnd rfl (L rfl) (q 121) (q 123)) rfl (c (OpJ.val (v' := .d (.bool false)) (by rw [hg31] <;> rfl) (mv hN (q 124))) rfl (cg (sU 125 (L rfl)) rfl (cg (sU 125 (L rfl)) rfl (cg (sU 125 (L rfl)) rfl (c (OpJ.pickF (L rfl) (q 125) (Opd.bool false)) rfl (c (mv hN (q 129)) rfl (cg (sU 130 (L rfl)) rfl (cg (sU 130 (L rfl)) rfl (cg (sU 130 (L rfl)) rfl (c (OpJ.pickF (L rfl) (q 130) (Opd.bool false)) rfl (c (mv hN (q 134)) rfl (cg (sU 135 (L rfl)) rfl (cg (sU 135 (L rfl)) rfl (cg (sU 135 (L rfl)) rfl (c (OpJ.pickF (L rfl) (q 135) (Opd.bool false)) rfl (c (mv hN (q 139)) rfl (cg (sU 140 (L rfl)) rfl (cg (sU 140 (L rfl)) rfl (cg (sU 140 (L rfl)) rfl (c (OpJ.pickF (L rfl) (q 140) (Opd.bool false)) rfl (c (mv hN (q 144)) rfl (cg (sU 145 (L rfl)) rfl (cg (sU 145 (L rfl)) rfl (cg (sU 145 (L rfl)) rfl (cg (sU 145 (L rfl)) rfl (c (OpJ.pickF (L rfl) (q 145) (Opd.bool false)) rfl (c (mv hN (q 150)) rfl (cg (sU 151 (L rfl)) rfl (cg (sU 151 (L rfl)) rfl (cg (sU 151 (L rfl)) rfl (cg (sU 151 (L rfl)) rfl (c (OpJ.pickF (L rfl) (q 151) (Opd.bool false)) rfl (c (mv hN (q 156)) rfl (cg (sU 157 (L rfl)) rfl (c (OpJ.pickF (L rfl) (q 157) (Opd.bool false)) rfl (c (OpJ.assign (L rfl) (q 159)) rfl cn)))))))))))))))))))))))))))))))))))))))))))))) ?_
   exact hjj30 _ h _ _ (Mat.trans (mp [] [(6, (bo false))] [(500, some (.know (globF 0 [35, 37, 137]))), (501, some (.know (globF 1 [70, 138, 139])))] hB) (mp [] _ _ hB))


end Go.Proofs.YtgcilleccigmdaaDoor
