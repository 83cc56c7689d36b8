/- Printed by gen.py: the Go functions as plain functions, and that the code does what they say. -/
import Derived.Test.YtgcilleccigmdaaDoorChecked
import Derived.Test.YtgcilleccigmdaaDoorVcYB
import Derived.Test.YtgcilleccigmdaaDoorVcZ
import Derived.KernelRfl
import Derived.Test.YtgcilleccigmdaaDoorVcMD
import Derived.Test.YtgcilleccigmdaaDoorVcMQ
import Derived.Test.YtgcilleccigmdaaDoorVcSG
import Derived.Test.YtgcilleccigmdaaDoorFnsA
import Derived.Test.YtgcilleccigmdaaDoorExt
import Derived.Test.YtgcilleccigmdaaDoorVcGl
import Derived.Test.YtgcilleccigmdaaDoorVcSO
namespace Go.Proofs.YtgcilleccigmdaaDoor
open Go Go.Vc
set_option maxHeartbeats 4000000
set_option maxRecDepth 100000
noncomputable def exchangepointref21_Of_L0 (a0 : (List api_Prefix)) (s1 : Int × (List api_Range)) : Option (((Unit) ⊕ ((List api_Range))) ⊕ (Int × (List api_Range))) :=
 (if (decide (s1.1 < (a0.length : Int))) = true then
 (idx a0 s1.1).bind fun x17 =>
 (exchangepointref02_Valid x17).bind fun r18 =>
 (if (!r18) = true then
 some (.inl (.inl ()))
 else
 (exchangepointref02_Last x17).bind fun r20 =>
 chk (decide ((s1.2 ++ ([(api_Range.mk x17.fAddr r20)] : List api_Range)).length ≤ LIM)) <|
 some (.inr ((w64 (s1.1 + (1 : Int))), (s1.2 ++ ([(api_Range.mk x17.fAddr r20)] : List api_Range)))))
 else
 some (.inl (.inr s1.2)))
noncomputable def exchangepointref21_Of_L1 (a1 : (List api_Span)) (s24 : Int) : Option (((Unit) ⊕ (Unit)) ⊕ (Int)) :=
 (if (decide (s24 < (a1.length : Int))) = true then
 (idx a1 s24).bind fun x34 =>
 (if (((decide (x34.fFrom < (0 : Int))) || (decide (x34.fTo < x34.fFrom))) || (decide ((4294967295 : Int) < x34.fTo))) = true then
 some (.inl (.inl ()))
 else
 some (.inr (w64 (s24 + (1 : Int)))))
 else
 some (.inl (.inr ())))
noncomputable def exchangepointref21_Of (a0 : (List api_Prefix)) (a1 : (List api_Span)) : Option (api_Resources × Int) :=
 (loop (exchangepointref21_Of_L0 a0) ((0 : Int), ([] : List api_Range))).bind fun x22 => match x22 with
 | (.inl _) =>
  some ((api_Resources.mk ([] : List api_Range) ([] : List api_Span)), (1 : Int))
 | (.inr p15) =>
  (loop (exchangepointref21_Of_L1 a1) (0 : Int)).bind fun x36 => match x36 with
  | (.inl _) =>
   some ((api_Resources.mk ([] : List api_Range) ([] : List api_Span)), (1 : Int))
  | (.inr _) =>
   (exchangepointref21_ranges p15).bind fun r38 =>
   (exchangepointref21_spans a1).bind fun r39 =>
   (exchangepointref21_limited r38 r39).bind fun r40 =>
   some (r40.1, r40.2)
theorem exchangepointref21_Of_ac (a0 : (List api_Prefix)) (a1 : (List api_Span)) (r : api_Resources × Int) (h : exchangepointref21_Of a0 a1 = some r) : AC Tryd.prog 24 [(.d (.list 4 (a0.map e_api_Prefix))), (.d (.list 2 (a1.map e_api_Span)))] [] (.tup [(.d (e_api_Resources r.1)), (.d (.int .i64 r.2))]) [] := by
 refine AC.of_code2 Tryd.func24 rfl rfl (Nat.le_of_ble_eq_true (by rfl)) fun B hB hN => ?_
 have L {d : Nat} (h : Nat.blt d Tryd.f24.ntmps = true) : d < B.N := ltN hN h
 delta exchangepointref21_Of at h
 refine sr (cg (OpJ.alloc hB tyZ28 (nm := 1004) (by decide) (L rfl)) rfl (c (OpJ.assign (L rfl) (Opd.int .i64 (0))) rfl cn)) ?_
 refine gh [(0, _), (1, _), (4, _)] [(1004, some _)] hB rfl rfl (by rfl) ?_
 refine sr (c (OpJ.assign (L rfl) Opd.nils) rfl cn) ?_
 refine gh [(0, _), (1, _), (4, _), (6, _)] [(1004, some _)] hB rfl rfl (by rfl) ?_
 refine AWp.seq ?_
 refine sr (c (mv hN (q 0)) rfl (c (OpJ.val (v' := (i6 (a0.length : Int))) (by simp) (OpJ.lenD Tryd.underlying36 (L rfl) (q 11))) rfl (c (mv hN (Opd.int .i64 (0))) rfl cn))) ?_
 refine gh [(1, _), (4, _), (6, _), (11, _), (12, _), (13, _)] [(1004, some _)] hB rfl rfl (by rfl) ?_
 refine AWp.block ?_
 obtain ⟨x22, hx23, h⟩ := bindS h
 refine lg (exchangepointref21_Of_L0 a0) (fun s1 : Int × (List api_Range) => ([(1, (qe_api_Span_2 a1)), (4, (.ptr 1004 0 [])), (6, (.sref 3006 6 0 s1.2.length)), (11, (qe_api_Prefix_4 a0)), (12, (i6 (a0.length : Int))), (13, (i6 s1.1))] : EL)) (fun s1 : Int × (List api_Range) => ([(1004, some (.box 28 (.st [.nils, .nils]))), (3006, some (we_api_Range_68_6 s1.2))] : OL)) (fun (x : (Unit) ⊕ ((List api_Range))) e E' O' => match x with | (.inl _p) => e = .ret ∧ Mat B E' O' ([(4, (.ptr 1004 0 [])), (5, (i6 1))] : EL) ([(1004, some (.box 28 (.st [.nils, .nils])))] : OL) | (.inr p15) => e = .exit 0 ∧ Mat B E' O' ([(1, (qe_api_Span_2 a1)), (4, (.ptr 1004 0 [])), (6, (.sref 3006 6 0 p15.length))] : EL) ([(1004, some (.box 28 (.st [.nils, .nils]))), (3006, some (we_api_Range_68_6 p15))] : OL)) hx23 (Mat.trans (Mat.beginP (n := 3006) (e := 68) (sz := 6) (Ts := [(6, (.sref 3006 6 0 0))]) (Bs := []) hB (by decide) (by rfl) (by decide) (TwT.cons (x := .nils) (by rfl) (Tw.leaf ⟨rfl, rfl⟩) TwT.nil) TwB.nil) (mp [] _ _ hB)) (fun s1 y h => ?_) (fun e E' O' hR => ?_)
 ·unfold exchangepointref21_Of_L0 at h
  refine sr (c (OpJ.lss (L rfl) (q 13) (q 12)) rfl cn) ?_
  refine gh [(1, _), (4, _), (6, _), (11, _), (12, _), (13, _), (14, _)] [(1004, some _), (3006, some _)] hB rfl rfl (by rfl) ?_
  refine AWp.seq ?_
  refine AWp.cond rfl (fun hg16 => ?_) (fun hg16 => ?_)
  ·replace h := ite_t hg16 h
   refine AWp.skip ?_
   refine seqQ_n ?_
   refine AWp.seq ?_
   refine AWp.block ?_
   obtain ⟨x17, hx17, h⟩ := bindS h
   refine sr (c (OpJ.indexD Tryd.underlying36 tyS34 (idx_some hx17).1 (get_map e_api_Prefix (idx_some hx17).2) (L rfl) (q 11) (q 13)) rfl (c (OpJ.loadD tyS34 (by rfl) (by rfl) (L rfl) (q 15)) rfl (cg (OpJ.alloc hB tyZ34 (nm := 1008) (by decide) (L rfl)) rfl (cg (OpJ.storeB tyS34 (SetAt.here _ _) (by rfl) (by rfl) (by simp) rfl (q 8) (q 16)) rfl cn)))) ?_
   refine gh [(1, _), (4, _), (6, _), (8, _), (11, _), (12, _), (13, _)] [(1004, some _), (1008, some _), (3006, some _)] hB rfl rfl (by rfl) ?_
   refine AWp.seq ?_
   obtain ⟨r18, hr18, h⟩ := bindS h
   refine sr (c (lb hN 34 _ _ tyS34 (At.here _) (q 8)) rfl (cg (cf hB fnOk58 (exchangepointref02_Valid_ac x17 r18 hr18) (L rfl) (OpdL.cons (q 17) OpdL.nil)) rfl (c (OpJ.not (L rfl) (q 18)) rfl cn))) ?_
   refine gh [(1, _), (4, _), (6, _), (8, _), (11, _), (12, _), (13, _), (19, _)] [(1004, some _), (1008, some _), (3006, some _)] hB rfl rfl (by rfl) ?_
   refine AWp.cond rfl (fun hg19 => ?_) (fun hg19 => ?_)
   ·replace h := ite_t hg19 h
    refine sr (c (OpJ.build (places := [(0, 1), (1, 1)]) ⟨Tryd.underlying28, fun w => by kernel_rfl⟩ tyZS28 Opds.nil (by kernel_rfl) (r := (.st [.nils, .nils])) (by rfl) (L rfl)) rfl (cg (OpJ.storeB tyS28 (SetAt.here _ _) (by rfl) (by rfl) (by simp) rfl (q 4) (q 20)) rfl (c (OpJ.assign (L rfl) (Opd.int .i64 (1))) rfl cn))) ?_
    refine gh [(4, _), (5, _)] [(1004, some _)] hB rfl rfl (by rfl) ?_
    refine AWp.ret ?_
    refine seqQ_r ?_
    refine blkQ_r ?_
    refine seqQ_r ?_
    obtain rfl := Option.some.inj h
    exact ⟨(fun hc => by cases hc), rfl, (mp [] _ _ hB)⟩
   ·replace h := ite_f hg19 h
    refine AWp.skip ?_
    refine seqQ_n ?_
    obtain ⟨r20, hr20, h⟩ := bindS h
    obtain ⟨hc21, h⟩ := chk_some h
    refine dr (c (mv hN (q 6)) rfl (c (ov (.ptr 1008 0 [0]) (fp hN Tryd.underlying34 0 tyS32 _ (q 8))) rfl (c (lb hN 34 _ _ tyS32 (ad _) (q 22)) rfl (c (lb hN 34 _ _ tyS34 (At.here _) (q 8)) rfl (cg (cf hB fnOk42 (exchangepointref02_Last_ac x17 r20 hr20) (L rfl) (OpdL.cons (q 24) OpdL.nil)) rfl (c (OpJ.coe (v := (.st [(.d (e_api_Addr x17.fAddr)), (.d (e_api_Addr r20))])) (y := (.st [(e_api_Addr x17.fAddr), (e_api_Addr r20)])) (Co.st (CoL.cons (Co.d _) (CoL.cons (Co.d _) CoL.nil))) rfl (OpJ.build (places := [(0, 3), (3, 3)]) ⟨Tryd.underlying68, fun w => by kernel_rfl⟩ tyZS68 (Opds.cons (q 23) (Opds.cons (q 25) Opds.nil)) (by kernel_rfl) (r := (.st [(.d (e_api_Addr x17.fAddr)), (.d (e_api_Addr r20))])) (by rfl) (L rfl))) rfl (c (OpJ.buildSlice Tryd.underlying25 tyS68 tyZD68 (by rfl) (by decide) (by decide) (Opds.cons (q 26) Opds.nil) (by kernel_rfl) (es := ([(.st [(e_api_Addr x17.fAddr), (e_api_Addr r20)])] : List D)) (by rfl) (by rfl) (by kernel_rfl) (by simp) (L rfl)) rfl (cg (OpJ.append hB Tryd.underlying25 tyE68 (nm := 1028) (by decide) (es := s1.2.map e_api_Range) (ys := ([(api_Range.mk x17.fAddr r20)] : List api_Range).map e_api_Range) (es' := (s1.2 ++ ([(api_Range.mk x17.fAddr r20)] : List api_Range)).map e_api_Range) (len := (s1.2 ++ ([(api_Range.mk x17.fAddr r20)] : List api_Range)).length) (by simp) (by simp) (map_sz (f := e_api_Range) (fun _ => rfl)) (by rw [List.length_map]; exact lim_mulN hc21 (by decide)) (by rw [List.length_map]; exact lim_leN hc21) (L rfl) (by simp) (q 21) (q 27)) rfl (c (OpJ.assign (L rfl) (q 28)) rfl cn))))))))) (by kernel_rfl) (by kernel_rfl) ?_
    refine blkQ_n ?_
    refine seqQ_n ?_
    refine gh [(1, _), (4, _), (6, _), (11, _), (12, _), (13, _)] [(1004, some _), (1028, some _)] hB rfl rfl (by rfl) ?_
    refine rg (c (add6 (L rfl) (q 13) (Opd.int .i64 (1))) rfl (c (mv hN (q 29)) rfl cn)) ?_
    obtain rfl := Option.some.inj h
    exact ⟨rfl, (Mat.trans (mp [] [(1, (qe_api_Span_2 a1)), (4, (.ptr 1004 0 [])), (6, (.sref 1028 6 0 ((s1.2 ++ ([(api_Range.mk x17.fAddr r20)] : List api_Range)).length))), (11, (qe_api_Prefix_4 a0)), (12, (i6 (a0.length : Int))), (13, (i6 (w64 (s1.1 + (1 : Int)))))] [(1004, some (.box 28 (.st [.nils, .nils]))), (1028, some (we_api_Range_68_6 (s1.2 ++ ([(api_Range.mk x17.fAddr r20)] : List api_Range))))] hB) (mp [(3006, 1028)] _ _ hB))⟩
  ·replace h := ite_f hg16 h
   refine AWp.exit ?_
   refine seqQ_e ?_
   obtain rfl := Option.some.inj h
   exact ⟨(fun hc => by cases hc), rfl, (mp [] _ _ hB)⟩
 ·rcases x22 with _ | p15
  ·obtain ⟨rfl, hmat⟩ := hR
   refine blkQ_r ?_
   refine seqQ_r ?_
   obtain rfl := Option.some.inj h
   exact ⟨.inl rfl, _, _, (Mat.trans hmat (Mat.trans (Mat.coeP (Ts := []) (Bs := [(1004, some (.box 28 (.d (.st [(.list 6 (([] : List api_Range).map e_api_Range)), (.list 2 (([] : List api_Span).map e_api_Span))]))))]) TwT.nil (TwB.cons (x := (.st [.nils, .nils])) (by rfl) (Tw.leaf ⟨_, (Co.st (CoL.cons (Co.nils 6) (CoL.cons (Co.nils 2) CoL.nil))), rfl⟩) TwB.nil)) (mp [] [(4, (.ptr 1004 0 [])), (5, (i6 1))] [(1004, some (.box 28 (.d (.st [(.list 6 (([] : List api_Range).map e_api_Range)), (.list 2 (([] : List api_Span).map e_api_Span))]))))] hB))), [(.d (.st [(.list 6 (([] : List api_Range).map e_api_Range)), (.list 2 (([] : List api_Span).map e_api_Span))])), (i6 1)], (Res.cell (c := (.d (.st [(.list 6 (([] : List api_Range).map e_api_Range)), (.list 2 (([] : List api_Span).map e_api_Span))]))) (by rfl) (by rfl) tyS28 (by rfl) (by rfl) (by rfl) (Res.tmp (by rfl) (by rfl) Res.nil)), rfl, by rfl, by rfl, by rfl⟩
  ·obtain ⟨rfl, hmat⟩ := hR
   refine blkQ_hit ?_
   refine seqQ_n ?_
   refine AWp.ghost hmat ?_
   refine AWp.seq ?_
   refine sr (c (mv hN (q 1)) rfl (c (OpJ.val (v' := (i6 (a1.length : Int))) (by simp) (OpJ.lenD Tryd.underlying26 (L rfl) (q 30))) rfl (c (mv hN (Opd.int .i64 (0))) rfl cn))) ?_
   refine gh [(1, _), (4, _), (6, _), (30, _), (31, _), (32, _)] [(1004, some _), (3006, some _)] hB rfl rfl (by rfl) ?_
   refine AWp.block ?_
   obtain ⟨x36, hx37, h⟩ := bindS h
   refine lg (exchangepointref21_Of_L1 a1) (fun s24 : Int => ([(1, (qe_api_Span_2 a1)), (4, (.ptr 1004 0 [])), (6, (.sref 3006 6 0 p15.length)), (30, (qe_api_Span_2 a1)), (31, (i6 (a1.length : Int))), (32, (i6 s24))] : EL)) (fun s24 : Int => ([(1004, some (.box 28 (.st [.nils, .nils]))), (3006, some (we_api_Range_68_6 p15))] : OL)) (fun (x : (Unit) ⊕ (Unit)) e E' O' => match x with | (.inl _p) => e = .ret ∧ Mat B E' O' ([(4, (.ptr 1004 0 [])), (5, (i6 1))] : EL) ([(1004, some (.box 28 (.st [.nils, .nils])))] : OL) | (.inr _p) => e = .exit 2 ∧ Mat B E' O' ([(1, (qe_api_Span_2 a1)), (4, (.ptr 1004 0 [])), (6, (.sref 3006 6 0 p15.length))] : EL) ([(1004, some (.box 28 (.st [.nils, .nils]))), (3006, some (we_api_Range_68_6 p15))] : OL)) hx37 (mp [] _ _ hB) (fun s24 y h => ?_) (fun e E' O' hR => ?_)
   ·unfold exchangepointref21_Of_L1 at h
    refine sr (c (OpJ.lss (L rfl) (q 32) (q 31)) rfl cn) ?_
    refine gh [(1, _), (4, _), (6, _), (30, _), (31, _), (32, _), (33, _)] [(1004, some _), (3006, some _)] hB rfl rfl (by rfl) ?_
    refine AWp.seq ?_
    refine AWp.cond rfl (fun hg33 => ?_) (fun hg33 => ?_)
    ·replace h := ite_t hg33 h
     refine AWp.skip ?_
     refine seqQ_n ?_
     refine AWp.seq ?_
     refine AWp.block ?_
     obtain ⟨x34, hx34, h⟩ := bindS h
     refine sr (c (OpJ.indexD Tryd.underlying26 tyS48 (idx_some hx34).1 (get_map e_api_Span (idx_some hx34).2) (L rfl) (q 30) (q 32)) rfl (c (OpJ.loadD tyS48 (by rfl) (by rfl) (L rfl) (q 34)) rfl (cg (OpJ.alloc hB tyZ48 (nm := 1010) (by decide) (L rfl)) rfl (cg (OpJ.storeB tyS48 (SetAt.here _ _) (by rfl) (by rfl) (by simp) rfl (q 10) (q 35)) rfl cn)))) ?_
     refine gh [(1, _), (4, _), (6, _), (10, _), (30, _), (31, _), (32, _)] [(1004, some _), (1010, some _), (3006, some _)] hB rfl rfl (by rfl) ?_
     refine sr (c (ov (.ptr 1010 0 [0]) (fp hN Tryd.underlying48 0 tyS3 _ (q 10))) rfl (c (lb hN 48 _ _ tyS3 (ad _) (q 36)) rfl (c (OpJ.lss (L rfl) (q 37) (Opd.int .i64 (0))) rfl (c (mv hN (q 38)) rfl (c (oq hN 39 (ov (.ptr 1010 0 [0]) (fp hN Tryd.underlying48 0 tyS3 _ (q 10))) (OptL.keep (by rfl) OptL.nil) (GuardV.plain _)) rfl (c (oq hN 39 (lb hN 48 _ _ tyS3 (ad _) (q 40)) (OptL.opt OptL.nil) (GuardV.plain _)) rfl (c (oq hN 39 (ov (.ptr 1010 1 [1]) (fp hN Tryd.underlying48 1 tyS3 _ (q 10))) (OptL.keep (by rfl) OptL.nil) (GuardV.plain _)) rfl (c (oq hN 39 (lb hN 48 _ _ tyS3 (ad _) (q 42)) (OptL.opt OptL.nil) (GuardV.plain _)) rfl (c (oq hN 39 (OpJ.gtr (L rfl) (q 41) (q 43)) (OptL.opt (OptL.opt OptL.nil)) (GuardV.plain _)) rfl (c (OpJ.pickOr rfl (L rfl) (q 39) (q 44)) rfl (c (mv hN (q 45)) rfl (c (oq hN 46 (ov (.ptr 1010 1 [1]) (fp hN Tryd.underlying48 1 tyS3 _ (q 10))) (OptL.keep (by rfl) OptL.nil) (GuardV.plain _)) rfl (c (oq hN 46 (lb hN 48 _ _ tyS3 (ad _) (q 47)) (OptL.opt OptL.nil) (GuardV.plain _)) rfl (c (oq hN 46 (OpJ.gtr (L rfl) (q 48) (Opd.int .i64 (4294967295))) (OptL.opt OptL.nil) (GuardV.plain _)) rfl (c (OpJ.pickOr rfl (L rfl) (q 46) (q 49)) rfl cn))))))))))))))) ?_
     refine gh [(1, _), (4, _), (6, _), (30, _), (31, _), (32, _), (50, _)] [(1004, some _), (3006, some _)] hB rfl rfl (by rfl) ?_
     refine AWp.cond rfl (fun hg35 => ?_) (fun hg35 => ?_)
     ·replace h := ite_t hg35 h
      refine sr (c (OpJ.build (places := [(0, 1), (1, 1)]) ⟨Tryd.underlying28, fun w => by kernel_rfl⟩ tyZS28 Opds.nil (by kernel_rfl) (r := (.st [.nils, .nils])) (by rfl) (L rfl)) rfl (cg (OpJ.storeB tyS28 (SetAt.here _ _) (by rfl) (by rfl) (by simp) rfl (q 4) (q 51)) rfl (c (OpJ.assign (L rfl) (Opd.int .i64 (1))) rfl cn))) ?_
      refine gh [(4, _), (5, _)] [(1004, some _)] hB rfl rfl (by rfl) ?_
      refine AWp.ret ?_
      refine blkQ_r ?_
      refine seqQ_r ?_
      obtain rfl := Option.some.inj h
      exact ⟨(fun hc => by cases hc), rfl, (mp [] _ _ hB)⟩
     ·replace h := ite_f hg35 h
      refine AWp.skip ?_
      refine blkQ_n ?_
      refine seqQ_n ?_
      refine rg (c (add6 (L rfl) (q 32) (Opd.int .i64 (1))) rfl (c (mv hN (q 52)) rfl cn)) ?_
      obtain rfl := Option.some.inj h
      exact ⟨rfl, (Mat.trans (mp [] [(1, (qe_api_Span_2 a1)), (4, (.ptr 1004 0 [])), (6, (.sref 3006 6 0 p15.length)), (30, (qe_api_Span_2 a1)), (31, (i6 (a1.length : Int))), (32, (i6 (w64 (s24 + (1 : Int)))))] [(1004, some (.box 28 (.st [.nils, .nils]))), (3006, some (we_api_Range_68_6 p15))] hB) (mp [] _ _ hB))⟩
    ·replace h := ite_f hg33 h
     refine AWp.exit ?_
     refine seqQ_e ?_
     obtain rfl := Option.some.inj h
     exact ⟨(fun hc => by cases hc), rfl, (mp [] _ _ hB)⟩
   ·rcases x36 with _ | _
    ·obtain ⟨rfl, hmat⟩ := hR
     refine blkQ_r ?_
     refine seqQ_r ?_
     obtain rfl := Option.some.inj h
     exact ⟨.inl rfl, _, _, (Mat.trans hmat (Mat.trans (Mat.coeP (Ts := []) (Bs := [(1004, some (.box 28 (.d (.st [(.list 6 (([] : List api_Range).map e_api_Range)), (.list 2 (([] : List api_Span).map e_api_Span))]))))]) TwT.nil (TwB.cons (x := (.st [.nils, .nils])) (by rfl) (Tw.leaf ⟨_, (Co.st (CoL.cons (Co.nils 6) (CoL.cons (Co.nils 2) CoL.nil))), rfl⟩) TwB.nil)) (mp [] [(4, (.ptr 1004 0 [])), (5, (i6 1))] [(1004, some (.box 28 (.d (.st [(.list 6 (([] : List api_Range).map e_api_Range)), (.list 2 (([] : List api_Span).map e_api_Span))]))))] hB))), [(.d (.st [(.list 6 (([] : List api_Range).map e_api_Range)), (.list 2 (([] : List api_Span).map e_api_Span))])), (i6 1)], (Res.cell (c := (.d (.st [(.list 6 (([] : List api_Range).map e_api_Range)), (.list 2 (([] : List api_Span).map e_api_Span))]))) (by rfl) (by rfl) tyS28 (by rfl) (by rfl) (by rfl) (Res.tmp (by rfl) (by rfl) Res.nil)), rfl, by rfl, by rfl, by rfl⟩
    ·obtain ⟨rfl, hmat⟩ := hR
     refine blkQ_hit ?_
     refine seqQ_n ?_
     refine AWp.ghost hmat ?_
     refine AWp.seq ?_
     refine AWp.ghost (Mat.freezeP (n := 3006) (e := 68) (sz := 6) (es := p15.map e_api_Range) (Ts := [(6, (qe_api_Range_6 p15))]) (Bs := []) (by rfl) (TwT.cons (x := (.sref 3006 6 0 p15.length)) (by rfl) (FrzL.all (by first | rfl | (simp; done) | (simp; omega) | omega)) TwT.nil) TwB.nil) ?_
     obtain ⟨r38, hr38, h⟩ := bindS h
     obtain ⟨r39, hr39, h⟩ := bindS h
     obtain ⟨r40, hr40, h⟩ := bindS h
     refine rg (c (mv hN (q 6)) rfl (cg (cf hB fnOk60 (exchangepointref21_ranges_ac p15 r38 hr38) (L rfl) (OpdL.cons (q 53) OpdL.nil)) rfl (c (mv hN (q 1)) rfl (cg (cf hB fnOk61 (exchangepointref21_spans_ac a1 r39 hr39) (L rfl) (OpdL.cons (q 55) OpdL.nil)) rfl (cg (cf hB fnOk59 (exchangepointref21_limited_ac r38 r39 r40 hr40) (L rfl) (OpdL.cons (q 54) (OpdL.cons (q 56) OpdL.nil))) rfl (c (OpJ.extract (by rfl) rfl (L rfl) (q 57)) rfl (c (OpJ.extract (by rfl) rfl (L rfl) (q 57)) rfl (cg (OpJ.storeB tyS28 (SetAt.here _ _) (by rfl) (by rfl) (by simp) rfl (q 4) (q 58)) rfl (c (OpJ.assign (L rfl) (q 59)) rfl cn))))))))) ?_
     refine seqQ_n ?_
     refine gh [(4, _), (5, _)] [(1004, some _)] hB rfl rfl (by rfl) ?_
     refine AWp.ret ?_
     obtain rfl := Option.some.inj h
     exact ⟨.inl rfl, _, _, (kp [(4, _), (5, _)] [(1004, some _)] hB rfl rfl (by rfl)), [(.d (e_api_Resources r40.1)), (i6 r40.2)], (Res.cell (c := (.d (e_api_Resources r40.1))) (by rfl) (by rfl) tyS28 (by rfl) (by rfl) (by rfl) (Res.tmp (by rfl) (by rfl) Res.nil)), rfl, by rfl, by rfl, by rfl⟩

noncomputable def exchangepointmake_Deck_Resources_L0 (s2 : Int × (List api_Prefix) × exchangepointmake_Deck) : Option ((((List api_Prefix) × exchangepointmake_Deck)) ⊕ (Int × (List api_Prefix) × exchangepointmake_Deck)) :=
 (if (decide ((0 : Int) < s2.1)) = true then
 (exchangepointmake_Deck_Prefix s2.2.2).bind fun r11 =>
 chk (decide ((s2.2.1 ++ ([r11.1] : List api_Prefix)).length ≤ LIM)) <|
 some (.inr ((w64 (s2.1 - (1 : Int))), (s2.2.1 ++ ([r11.1] : List api_Prefix)), r11.2))
 else
 some (.inl (s2.2.1, s2.2.2)))
noncomputable def exchangepointmake_Deck_Resources_L1 (s16 : Int × (List api_Span) × exchangepointmake_Deck) : Option (((exchangepointmake_Deck × (List api_Span))) ⊕ (Int × (List api_Span) × exchangepointmake_Deck)) :=
 (if (decide ((0 : Int) < s16.1)) = true then
 (exchangepointmake_Deck_Next s16.2.2 (20 : Int)).bind fun r31 =>
 (exchangepointmake_Deck_Next r31.2 (5 : Int)).bind fun r32 =>
 (idx ([(0 : Int), (1 : Int), (5 : Int), (4294967286 : Int), r31.1] : List Int) r32.1).bind fun x33 =>
 (exchangepointmake_Deck_Next r32.2 (10 : Int)).bind fun r34 =>
 chk (decide ((s16.2.1 ++ ([(api_Span.mk x33 (w64 (x33 + r34.1)))] : List api_Span)).length ≤ LIM)) <|
 some (.inr ((w64 (s16.1 - (1 : Int))), (s16.2.1 ++ ([(api_Span.mk x33 (w64 (x33 + r34.1)))] : List api_Span)), r34.2))
 else
 some (.inl (s16.2.2, s16.2.1)))
noncomputable def exchangepointmake_Deck_Resources (a0 : exchangepointmake_Deck) : Option (api_Resources × exchangepointmake_Deck) :=
 (exchangepointmake_Deck_Next a0 (6 : Int)).bind fun r1 =>
 (loop (exchangepointmake_Deck_Resources_L0) (r1.1, ([] : List api_Prefix), r1.2)).bind fun p9 =>
 (exchangepointmake_Deck_Next p9.2 (4 : Int)).bind fun r15 =>
 (loop (exchangepointmake_Deck_Resources_L1) (r15.1, ([] : List api_Span), r15.2)).bind fun p29 =>
 (exchangepointref21_Of p9.1 p29.2).bind fun r38 =>
 some (r38.1, p29.1)
theorem exchangepointmake_Deck_Resources_ac (a0 : exchangepointmake_Deck) (r : api_Resources × exchangepointmake_Deck) (h : exchangepointmake_Deck_Resources a0 = some r) : AC Tryd.prog 8 [(.ptr 0 0 [])] [(0, (.box 64 (.d (e_exchangepointmake_Deck a0))))] (.d (e_api_Resources r.1)) [(0, some (.box 64 (.d (e_exchangepointmake_Deck r.2))))] := by
 refine AC.of_code2 Tryd.func8 rfl rfl (Nat.le_of_ble_eq_true (by rfl)) fun B hB hN => ?_
 have L {d : Nat} (h : Nat.blt d Tryd.f8.ntmps = true) : d < B.N := ltN hN h
 delta exchangepointmake_Deck_Resources at h
 refine sr (cg (OpJ.alloc hB tyZ28 (nm := 1002) (by decide) (L rfl)) rfl cn) ?_
 refine gh [(0, _), (2, _)] [(0, some _), (1002, some _)] hB rfl rfl (by rfl) ?_
 refine sr (c (OpJ.assign (L rfl) Opd.nils) rfl cn) ?_
 refine gh [(0, _), (2, _), (3, _)] [(0, some _), (1002, some _)] hB rfl rfl (by rfl) ?_
 refine sr (c (OpJ.assign (L rfl) Opd.nils) rfl cn) ?_
 refine gh [(0, _), (2, _), (3, _), (4, _)] [(0, some _), (1002, some _)] hB rfl rfl (by rfl) ?_
 refine AWp.seq ?_
 refine AWp.seq ?_
 obtain ⟨r1, hr1, h⟩ := bindS h
 refine AWp.region (oc (mv hN (ot 0 (.ptr 0 0 [])))
 (oc (OpJ.callFn hB fnOk22 (exchangepointmake_Deck_Next_ac a0 (6 : Int) r1 hr1) [(0, 0)] (by kernel_rfl) (L rfl) (by kernel_rfl) (OpdL.cons (ot 10 (.ptr 0 0 [])) (OpdL.cons (Opd.int .i64 (6)) OpdL.nil)))
 (oc (OpJ.assign (L rfl) (ot 11 (i6 r1.1)))
 (OpJs.nil)))) (by rfl) (by rfl) ?_
 refine seqQ_n ?_
 refine AWp.ghost (mp [] [(0, (.ptr 0 0 [])), (2, (.ptr 1002 0 [])), (3, .nils), (4, .nils), (5, (i6 r1.1))] [(0, some (.box 64 (.d (e_exchangepointmake_Deck r1.2)))), (1002, some (.box 28 (.st [.nils, .nils])))] hB) ?_
 refine AWp.block ?_
 obtain ⟨p9, hx14, h⟩ := bindS h
 refine lg (exchangepointmake_Deck_Resources_L0) (fun s2 : Int × (List api_Prefix) × exchangepointmake_Deck => ([(0, (.ptr 0 0 [])), (2, (.ptr 1002 0 [])), (3, (.sref 3003 4 0 s2.2.1.length)), (4, .nils), (5, (i6 s2.1))] : EL)) (fun s2 : Int × (List api_Prefix) × exchangepointmake_Deck => ([(0, some (.box 64 (.d (e_exchangepointmake_Deck s2.2.2)))), (1002, some (.box 28 (.st [.nils, .nils]))), (3003, some (we_api_Prefix_34_4 s2.2.1))] : OL)) (fun (p9 : ((List api_Prefix) × exchangepointmake_Deck)) e E' O' => e = .exit 0 ∧ Mat B E' O' ([(0, (.ptr 0 0 [])), (2, (.ptr 1002 0 [])), (3, (.sref 3003 4 0 p9.1.length)), (4, .nils)] : EL) ([(0, some (.box 64 (.d (e_exchangepointmake_Deck p9.2)))), (1002, some (.box 28 (.st [.nils, .nils]))), (3003, some (we_api_Prefix_34_4 p9.1))] : OL)) hx14 (Mat.trans (Mat.beginP (n := 3003) (e := 34) (sz := 4) (Ts := [(3, (.sref 3003 4 0 0))]) (Bs := []) hB (by decide) (by rfl) (by decide) (TwT.cons (x := .nils) (by rfl) (Tw.leaf ⟨rfl, rfl⟩) TwT.nil) TwB.nil) (mp [] _ _ hB)) (fun s2 y h => ?_) (fun e E' O' hR => ?_)
 ·unfold exchangepointmake_Deck_Resources_L0 at h
  refine AWp.seq ?_
  refine sr (c (mv hN (q 5)) rfl (c (OpJ.gtr (L rfl) (q 12) (Opd.int .i64 (0))) rfl cn)) ?_
  refine gh [(0, _), (2, _), (3, _), (4, _), (5, _), (13, _)] [(0, some _), (1002, some _), (3003, some _)] hB rfl rfl (by rfl) ?_
  refine AWp.cond rfl (fun hg10 => ?_) (fun hg10 => ?_)
  ·replace h := ite_t hg10 h
   refine AWp.skip ?_
   refine seqQ_n ?_
   refine AWp.seq ?_
   refine AWp.block ?_
   obtain ⟨r11, hr11, h⟩ := bindS h
   obtain ⟨hc12, h⟩ := chk_some h
   refine AWp.region (oc (mv hN (ot 3 (.sref 3003 4 0 s2.2.1.length)))
    (oc (mv hN (ot 0 (.ptr 0 0 [])))
    (oc (OpJ.callFn hB fnOk9 (exchangepointmake_Deck_Prefix_ac s2.2.2 r11 hr11) [(0, 0)] (by kernel_rfl) (L rfl) (by kernel_rfl) (OpdL.cons (ot 17 (.ptr 0 0 [])) OpdL.nil))
    (oc (OpJ.buildSlice Tryd.underlying36 tyS34 tyZD34 (by rfl) (by decide) (by decide) (Opds.cons (ot 18 (.d (e_api_Prefix r11.1))) Opds.nil) (by kernel_rfl) (es := ([(e_api_Prefix r11.1)] : List D)) (by rfl) (by rfl) (by kernel_rfl) (by simp) (L rfl))
    (oc (OpJ.append hB Tryd.underlying36 tyE34 (nm := 1020) (by decide) (es := s2.2.1.map e_api_Prefix) (ys := ([r11.1] : List api_Prefix).map e_api_Prefix) (es' := (s2.2.1 ++ ([r11.1] : List api_Prefix)).map e_api_Prefix) (len := (s2.2.1 ++ ([r11.1] : List api_Prefix)).length) (by simp) (by simp) (map_sz (f := e_api_Prefix) (fun _ => rfl)) (by rw [List.length_map]; exact lim_mulN hc12 (by decide)) (by rw [List.length_map]; exact lim_leN hc12) (L rfl) (by simp) (ot 16 (.sref 3003 4 0 s2.2.1.length)) (ot 19 (qe_api_Prefix_4 ([r11.1] : List api_Prefix))))
    (oc (OpJ.assign (L rfl) (ot 20 (.sref 1020 4 0 ((s2.2.1 ++ ([r11.1] : List api_Prefix)).length))))
    (OpJs.nil))))))) (by rfl) (by rfl) ?_
   refine blkQ_n ?_
   refine seqQ_n ?_
   refine AWp.ghost (mp [] [(0, (.ptr 0 0 [])), (2, (.ptr 1002 0 [])), (3, (.sref 1020 4 0 ((s2.2.1 ++ ([r11.1] : List api_Prefix)).length))), (4, .nils), (5, (i6 s2.1))] [(0, some (.box 64 (.d (e_exchangepointmake_Deck r11.2)))), (1002, some (.box 28 (.st [.nils, .nils]))), (1020, some (we_api_Prefix_34_4 (s2.2.1 ++ ([r11.1] : List api_Prefix))))] hB) ?_
   refine rg (c (mv hN (q 5)) rfl (c (sub6 (L rfl) (q 14) (Opd.int .i64 (1))) rfl (c (OpJ.assign (L rfl) (q 15)) rfl cn))) ?_
   obtain rfl := Option.some.inj h
   exact ⟨rfl, (Mat.trans (mp [] [(0, (.ptr 0 0 [])), (2, (.ptr 1002 0 [])), (3, (.sref 1020 4 0 ((s2.2.1 ++ ([r11.1] : List api_Prefix)).length))), (4, .nils), (5, (i6 (w64 (s2.1 - (1 : Int)))))] [(0, some (.box 64 (.d (e_exchangepointmake_Deck r11.2)))), (1002, some (.box 28 (.st [.nils, .nils]))), (1020, some (we_api_Prefix_34_4 (s2.2.1 ++ ([r11.1] : List api_Prefix))))] hB) (mp [(3003, 1020)] _ _ hB))⟩
  ·replace h := ite_f hg10 h
   refine AWp.exit ?_
   refine seqQ_e ?_
   obtain rfl := Option.some.inj h
   exact ⟨(fun hc => by cases hc), rfl, (mp [] _ _ hB)⟩
 ·obtain ⟨rfl, hmat⟩ := hR
  refine blkQ_hit ?_
  refine seqQ_n ?_
  refine AWp.ghost hmat ?_
  refine AWp.seq ?_
  refine AWp.seq ?_
  obtain ⟨r15, hr15, h⟩ := bindS h
  refine AWp.region (oc (mv hN (ot 0 (.ptr 0 0 [])))
   (oc (OpJ.callFn hB fnOk22 (exchangepointmake_Deck_Next_ac p9.2 (4 : Int) r15 hr15) [(0, 0)] (by kernel_rfl) (L rfl) (by kernel_rfl) (OpdL.cons (ot 21 (.ptr 0 0 [])) (OpdL.cons (Opd.int .i64 (4)) OpdL.nil)))
   (oc (OpJ.assign (L rfl) (ot 22 (i6 r15.1)))
   (OpJs.nil)))) (by rfl) (by rfl) ?_
  refine seqQ_n ?_
  refine AWp.ghost (mp [] [(0, (.ptr 0 0 [])), (2, (.ptr 1002 0 [])), (3, (.sref 3003 4 0 p9.1.length)), (4, .nils), (6, (i6 r15.1))] [(0, some (.box 64 (.d (e_exchangepointmake_Deck r15.2)))), (1002, some (.box 28 (.st [.nils, .nils]))), (3003, some (we_api_Prefix_34_4 p9.1))] hB) ?_
  refine AWp.block ?_
  obtain ⟨p29, hx37, h⟩ := bindS h
  refine lg (exchangepointmake_Deck_Resources_L1) (fun s16 : Int × (List api_Span) × exchangepointmake_Deck => ([(0, (.ptr 0 0 [])), (2, (.ptr 1002 0 [])), (3, (.sref 3003 4 0 p9.1.length)), (4, (.sref 3004 2 0 s16.2.1.length)), (6, (i6 s16.1))] : EL)) (fun s16 : Int × (List api_Span) × exchangepointmake_Deck => ([(0, some (.box 64 (.d (e_exchangepointmake_Deck s16.2.2)))), (1002, some (.box 28 (.st [.nils, .nils]))), (3003, some (we_api_Prefix_34_4 p9.1)), (3004, some (we_api_Span_48_2 s16.2.1))] : OL)) (fun (p29 : (exchangepointmake_Deck × (List api_Span))) e E' O' => e = .exit 2 ∧ Mat B E' O' ([(2, (.ptr 1002 0 [])), (3, (.sref 3003 4 0 p9.1.length)), (4, (.sref 3004 2 0 p29.2.length))] : EL) ([(0, some (.box 64 (.d (e_exchangepointmake_Deck p29.1)))), (1002, some (.box 28 (.st [.nils, .nils]))), (3003, some (we_api_Prefix_34_4 p9.1)), (3004, some (we_api_Span_48_2 p29.2))] : OL)) hx37 (Mat.trans (Mat.beginP (n := 3004) (e := 48) (sz := 2) (Ts := [(4, (.sref 3004 2 0 0))]) (Bs := []) hB (by decide) (by rfl) (by decide) (TwT.cons (x := .nils) (by rfl) (Tw.leaf ⟨rfl, rfl⟩) TwT.nil) TwB.nil) (mp [] _ _ hB)) (fun s16 y h => ?_) (fun e E' O' hR => ?_)
  ·unfold exchangepointmake_Deck_Resources_L1 at h
   refine AWp.seq ?_
   refine sr (c (mv hN (q 6)) rfl (c (OpJ.gtr (L rfl) (q 23) (Opd.int .i64 (0))) rfl cn)) ?_
   refine gh [(0, _), (2, _), (3, _), (4, _), (6, _), (24, _)] [(0, some _), (1002, some _), (3003, some _), (3004, some _)] hB rfl rfl (by rfl) ?_
   refine AWp.cond rfl (fun hg30 => ?_) (fun hg30 => ?_)
   ·replace h := ite_t hg30 h
    refine AWp.skip ?_
    refine seqQ_n ?_
    refine AWp.seq ?_
    refine AWp.block ?_
    refine AWp.seq ?_
    obtain ⟨r31, hr31, h⟩ := bindS h
    obtain ⟨r32, hr32, h⟩ := bindS h
    obtain ⟨x33, hx33, h⟩ := bindS h
    refine AWp.region (oc (mv hN (ot 0 (.ptr 0 0 [])))
     (oc (OpJ.callFn hB fnOk22 (exchangepointmake_Deck_Next_ac s16.2.2 (20 : Int) r31 hr31) [(0, 0)] (by kernel_rfl) (L rfl) (by kernel_rfl) (OpdL.cons (ot 27 (.ptr 0 0 [])) (OpdL.cons (Opd.int .i64 (20)) OpdL.nil)))
     (oc (OpJ.buildSlice Tryd.underlying22 tyS3 tyZD3 (by rfl) (by decide) (by decide) (Opds.cons (Opd.int .i64 (0)) (Opds.cons (Opd.int .i64 (1)) (Opds.cons (Opd.int .i64 (5)) (Opds.cons (Opd.int .i64 (4294967286)) (Opds.cons (ot 28 (i6 r31.1)) Opds.nil))))) (by kernel_rfl) (es := ([(.int .i64 0), (.int .i64 1), (.int .i64 (5 : Int)), (.int .i64 (4294967286 : Int)), (.int .i64 r31.1)] : List D)) (by rfl) (by rfl) (by kernel_rfl) (by simp) (L rfl))
     (oc (mv hN (ot 0 (.ptr 0 0 [])))
     (oc (OpJ.callFn hB fnOk22 (exchangepointmake_Deck_Next_ac r31.2 (5 : Int) r32 hr32) [(0, 0)] (by kernel_rfl) (L rfl) (by kernel_rfl) (OpdL.cons (ot 30 (.ptr 0 0 [])) (OpdL.cons (Opd.int .i64 (5)) OpdL.nil)))
     (oc (OpJ.indexD (el := (.int .i64 x33)) Tryd.underlying22 tyS3 (idx_some hx33).1 (get_map (eI .i64) (idx_some hx33).2) (L rfl) (ot 29 (qI_1 ([(0 : Int), (1 : Int), (5 : Int), (4294967286 : Int), r31.1] : List Int))) (ot 31 (i6 r32.1)))
     (oc (OpJ.loadD tyS3 (by rfl) (by rfl) (L rfl) (ot 32 (.dptr (.int .i64 x33))))
     (oc (OpJ.assign (L rfl) (ot 33 (i6 x33)))
     (OpJs.nil))))))))) (by rfl) (by rfl) ?_
    refine seqQ_n ?_
    refine AWp.ghost (mp [] [(0, (.ptr 0 0 [])), (2, (.ptr 1002 0 [])), (3, (.sref 3003 4 0 p9.1.length)), (4, (.sref 3004 2 0 s16.2.1.length)), (6, (i6 s16.1)), (7, (i6 x33))] [(0, some (.box 64 (.d (e_exchangepointmake_Deck r32.2)))), (1002, some (.box 28 (.st [.nils, .nils]))), (3003, some (we_api_Prefix_34_4 p9.1)), (3004, some (we_api_Span_48_2 s16.2.1))] hB) ?_
    obtain ⟨r34, hr34, h⟩ := bindS h
    obtain ⟨hc35, h⟩ := chk_some h
    refine AWp.region (oc (mv hN (ot 4 (.sref 3004 2 0 s16.2.1.length)))
     (oc (mv hN (ot 7 (i6 x33)))
     (oc (mv hN (ot 7 (i6 x33)))
     (oc (mv hN (ot 0 (.ptr 0 0 [])))
     (oc (OpJ.callFn hB fnOk22 (exchangepointmake_Deck_Next_ac r32.2 (10 : Int) r34 hr34) [(0, 0)] (by kernel_rfl) (L rfl) (by kernel_rfl) (OpdL.cons (ot 37 (.ptr 0 0 [])) (OpdL.cons (Opd.int .i64 (10)) OpdL.nil)))
     (oc (add6 (L rfl) (ot 36 (i6 x33)) (ot 38 (i6 r34.1)))
     (oc (OpJ.coe (v := (.st [(i6 x33), (i6 (w64 (x33 + r34.1)))])) (y := (.st [(.int .i64 x33), (.int .i64 (w64 (x33 + r34.1)))])) (Co.st (CoL.cons (Co.d _) (CoL.cons (Co.d _) CoL.nil))) rfl (OpJ.build (places := [(0, 1), (1, 1)]) ⟨Tryd.underlying48, fun w => by kernel_rfl⟩ tyZS48 (Opds.cons (ot 35 (i6 x33)) (Opds.cons (ot 39 (i6 (w64 (x33 + r34.1)))) Opds.nil)) (by kernel_rfl) (r := (.st [(i6 x33), (i6 (w64 (x33 + r34.1)))])) (by rfl) (L rfl)))
     (oc (OpJ.buildSlice Tryd.underlying26 tyS48 tyZD48 (by rfl) (by decide) (by decide) (Opds.cons (ot 40 (.d (.st [(.int .i64 x33), (.int .i64 (w64 (x33 + r34.1)))]))) Opds.nil) (by kernel_rfl) (es := ([(.st [(.int .i64 x33), (.int .i64 (w64 (x33 + r34.1)))])] : List D)) (by rfl) (by rfl) (by kernel_rfl) (by simp) (L rfl))
     (oc (OpJ.append hB Tryd.underlying26 tyE48 (nm := 1042) (by decide) (es := s16.2.1.map e_api_Span) (ys := ([(api_Span.mk x33 (w64 (x33 + r34.1)))] : List api_Span).map e_api_Span) (es' := (s16.2.1 ++ ([(api_Span.mk x33 (w64 (x33 + r34.1)))] : List api_Span)).map e_api_Span) (len := (s16.2.1 ++ ([(api_Span.mk x33 (w64 (x33 + r34.1)))] : List api_Span)).length) (by simp) (by simp) (map_sz (f := e_api_Span) (fun _ => rfl)) (by rw [List.length_map]; exact lim_mulN hc35 (by decide)) (by rw [List.length_map]; exact lim_leN hc35) (L rfl) (by simp) (ot 34 (.sref 3004 2 0 s16.2.1.length)) (ot 41 (qe_api_Span_2 ([(api_Span.mk x33 (w64 (x33 + r34.1)))] : List api_Span))))
     (oc (OpJ.assign (L rfl) (ot 42 (.sref 1042 2 0 ((s16.2.1 ++ ([(api_Span.mk x33 (w64 (x33 + r34.1)))] : List api_Span)).length))))
     (OpJs.nil))))))))))) (by rfl) (by rfl) ?_
    refine blkQ_n ?_
    refine seqQ_n ?_
    refine AWp.ghost (mp [] [(0, (.ptr 0 0 [])), (2, (.ptr 1002 0 [])), (3, (.sref 3003 4 0 p9.1.length)), (4, (.sref 1042 2 0 ((s16.2.1 ++ ([(api_Span.mk x33 (w64 (x33 + r34.1)))] : List api_Span)).length))), (6, (i6 s16.1))] [(0, some (.box 64 (.d (e_exchangepointmake_Deck r34.2)))), (1002, some (.box 28 (.st [.nils, .nils]))), (1042, some (we_api_Span_48_2 (s16.2.1 ++ ([(api_Span.mk x33 (w64 (x33 + r34.1)))] : List api_Span)))), (3003, some (we_api_Prefix_34_4 p9.1))] hB) ?_
    refine rg (c (mv hN (q 6)) rfl (c (sub6 (L rfl) (q 25) (Opd.int .i64 (1))) rfl (c (OpJ.assign (L rfl) (q 26)) rfl cn))) ?_
    obtain rfl := Option.some.inj h
    exact ⟨rfl, (Mat.trans (mp [] [(0, (.ptr 0 0 [])), (2, (.ptr 1002 0 [])), (3, (.sref 3003 4 0 p9.1.length)), (4, (.sref 1042 2 0 ((s16.2.1 ++ ([(api_Span.mk x33 (w64 (x33 + r34.1)))] : List api_Span)).length))), (6, (i6 (w64 (s16.1 - (1 : Int)))))] [(0, some (.box 64 (.d (e_exchangepointmake_Deck r34.2)))), (1002, some (.box 28 (.st [.nils, .nils]))), (1042, some (we_api_Span_48_2 (s16.2.1 ++ ([(api_Span.mk x33 (w64 (x33 + r34.1)))] : List api_Span)))), (3003, some (we_api_Prefix_34_4 p9.1))] hB) (mp [(3004, 1042)] _ _ hB))⟩
   ·replace h := ite_f hg30 h
    refine AWp.exit ?_
    refine seqQ_e ?_
    obtain rfl := Option.some.inj h
    exact ⟨(fun hc => by cases hc), rfl, (mp [] _ _ hB)⟩
  ·obtain ⟨rfl, hmat⟩ := hR
   refine blkQ_hit ?_
   refine seqQ_n ?_
   refine AWp.ghost hmat ?_
   refine AWp.seq ?_
   refine AWp.ghost (Mat.freezeP (n := 3003) (e := 34) (sz := 4) (es := p9.1.map e_api_Prefix) (Ts := [(3, (qe_api_Prefix_4 p9.1))]) (Bs := []) (by rfl) (TwT.cons (x := (.sref 3003 4 0 p9.1.length)) (by rfl) (FrzL.all (by first | rfl | (simp; done) | (simp; omega) | omega)) TwT.nil) TwB.nil) ?_
   refine AWp.ghost (Mat.freezeP (n := 3004) (e := 48) (sz := 2) (es := p29.2.map e_api_Span) (Ts := [(4, (qe_api_Span_2 p29.2))]) (Bs := []) (by rfl) (TwT.cons (x := (.sref 3004 2 0 p29.2.length)) (by rfl) (FrzL.all (by first | rfl | (simp; done) | (simp; omega) | omega)) TwT.nil) TwB.nil) ?_
   obtain ⟨r38, hr38, h⟩ := bindS h
   refine rg (c (mv hN (q 3)) rfl (c (mv hN (q 4)) rfl (cg (cf hB fnOk24 (exchangepointref21_Of_ac p9.1 p29.2 r38 hr38) (L rfl) (OpdL.cons (q 44) (OpdL.cons (q 45) OpdL.nil))) rfl (c (mv hN (q 46)) rfl (c (OpJ.extract (by rfl) rfl (L rfl) (q 43)) rfl (c (OpJ.extract (by rfl) rfl (L rfl) (q 43)) rfl (cg (OpJ.alloc hB tyZ28 (nm := 1008) (by decide) (L rfl)) rfl (cg (OpJ.storeB tyS28 (SetAt.here _ _) (by rfl) (by rfl) (by simp) rfl (q 8) (q 47)) rfl (c (OpJ.assign (L rfl) (q 48)) rfl cn))))))))) ?_
   refine seqQ_n ?_
   refine gh [(2, _), (8, _)] [(0, some _), (1002, some _), (1008, some _)] hB rfl rfl (by rfl) ?_
   refine sr (c (lb hN 28 _ _ tyS28 (At.here _) (q 8)) rfl (cg (OpJ.storeB tyS28 (SetAt.here _ _) (by rfl) (by rfl) (by simp) rfl (q 2) (q 49)) rfl cn)) ?_
   refine gh [(2, _)] [(0, some _), (1002, some _)] hB rfl rfl (by rfl) ?_
   refine AWp.ret ?_
   obtain rfl := Option.some.inj h
   exact ⟨.inl rfl, _, _, (kp [(2, _)] [(0, some _), (1002, some _)] hB rfl rfl (by rfl)), [(.d (e_api_Resources r38.1))], (Res.cell (c := (.d (e_api_Resources r38.1))) (by rfl) (by rfl) tyS28 (by rfl) (by rfl) (by rfl) Res.nil), rfl, by rfl, by rfl, by rfl⟩

noncomputable def exchangepointref02_Halves (a0 : api_Prefix) : Option (api_Prefix × api_Prefix × Int) :=
 (exchangepointref02_Valid a0).bind fun r1 =>
 (if (!r1) = true then
 some ((api_Prefix.mk (api_Addr.mk false (0 : Int) (0 : Int)) (0 : Int)), (api_Prefix.mk (api_Addr.mk false (0 : Int) (0 : Int)) (0 : Int)), (1 : Int))
 else
 (exchangepointref02_width a0.fAddr).bind fun r3 =>
 (if (a0.fLen == r3) = true then
 some ((api_Prefix.mk (api_Addr.mk false (0 : Int) (0 : Int)) (0 : Int)), (api_Prefix.mk (api_Addr.mk false (0 : Int) (0 : Int)) (0 : Int)), (9 : Int))
 else
 (exchangepointref01_Bytes_2 a0.fAddr).bind fun r5 =>
 (idx r5 (w64 (Int.tdiv a0.fLen (8 : Int)))).bind fun x6 =>
 (idx r5 (w64 (Int.tdiv a0.fLen (8 : Int)))).bind fun x7 =>
 (idx r5 (w64 (Int.tdiv a0.fLen (8 : Int)))).bind fun x8 =>
 (idx r5 (w64 (Int.tdiv a0.fLen (8 : Int)))).bind fun x9 =>
 (exchangepointref01_FromBytes (((r5.set (w64 (Int.tdiv a0.fLen (8 : Int))).toNat (bitI .or .u8 x7 (shrI .u8 (128 : Int) (IntKind.u64.wrap (Int.tmod a0.fLen (8 : Int)))))).drop 0).take r5.length)).bind fun r10 =>
 some ((api_Prefix.mk a0.fAddr (w64 (a0.fLen + (1 : Int)))), (api_Prefix.mk r10.1 (w64 (a0.fLen + (1 : Int)))), (0 : Int))))
theorem exchangepointref02_Halves_ac (a0 : api_Prefix) (r : api_Prefix × api_Prefix × Int) (h : exchangepointref02_Halves a0 = some r) : AC Tryd.prog 68 [(.d (e_api_Prefix a0))] [] (.tup [(.d (e_api_Prefix r.1)), (.d (e_api_Prefix r.2.1)), (.d (.int .i64 r.2.2))]) [] := by
 refine AC.of_code2 Tryd.func68 rfl rfl (Nat.le_of_ble_eq_true (by rfl)) fun B hB hN => ?_
 have L {d : Nat} (h : Nat.blt d Tryd.f68.ntmps = true) : d < B.N := ltN hN h
 delta exchangepointref02_Halves at h
 refine sr (cg (OpJ.box hB (nm := 1001) (by decide) (by simp) rfl (L rfl) (q 0)) rfl (cg (OpJ.alloc hB tyZ34 (nm := 1002) (by decide) (L rfl)) rfl (cg (OpJ.alloc hB tyZ34 (nm := 1003) (by decide) (L rfl)) rfl (c (OpJ.assign (L rfl) (Opd.int .i64 (0))) rfl cn)))) ?_
 refine gh [(1, _), (2, _), (3, _)] [(1001, some _), (1002, some _), (1003, some _)] hB rfl rfl (by rfl) ?_
 refine AWp.seq ?_
 refine AWp.block ?_
 obtain ⟨r1, hr1, h⟩ := bindS h
 refine sr (c (lb hN 34 _ _ tyS34 (At.here _) (q 1)) rfl (cg (cf hB fnOk58 (exchangepointref02_Valid_ac a0 r1 hr1) (L rfl) (OpdL.cons (q 9) OpdL.nil)) rfl (c (OpJ.not (L rfl) (q 10)) rfl (c (OpJ.assign (L rfl) (q 11)) rfl cn)))) ?_
 refine gh [(1, _), (2, _), (3, _), (8, _)] [(1001, some _), (1002, some _), (1003, some _)] hB rfl rfl (by rfl) ?_
 refine AWp.cond rfl (fun hg2 => ?_) (fun hg2 => ?_)
 ·replace h := ite_t hg2 h
  refine sr (c (OpJ.coe (v := (.st [(.d (.st [(.bool false), (.int .u64 0), (.int .u64 0)])), (i6 0)])) (y := (.st [(.st [(.bool false), (.int .u64 0), (.int .u64 0)]), (.int .i64 0)])) (Co.st (CoL.cons (Co.d _) (CoL.cons (Co.d _) CoL.nil))) rfl (OpJ.build (places := [(0, 3), (3, 1)]) ⟨Tryd.underlying34, fun w => by kernel_rfl⟩ tyZS34 Opds.nil (by kernel_rfl) (r := (.st [(.d (.st [(.bool false), (.int .u64 0), (.int .u64 0)])), (i6 0)])) (by rfl) (L rfl))) rfl (c (OpJ.coe (v := (.st [(.d (.st [(.bool false), (.int .u64 0), (.int .u64 0)])), (i6 0)])) (y := (.st [(.st [(.bool false), (.int .u64 0), (.int .u64 0)]), (.int .i64 0)])) (Co.st (CoL.cons (Co.d _) (CoL.cons (Co.d _) CoL.nil))) rfl (OpJ.build (places := [(0, 3), (3, 1)]) ⟨Tryd.underlying34, fun w => by kernel_rfl⟩ tyZS34 Opds.nil (by kernel_rfl) (r := (.st [(.d (.st [(.bool false), (.int .u64 0), (.int .u64 0)])), (i6 0)])) (by rfl) (L rfl))) rfl (cg (OpJ.storeB tyS34 (SetAt.here _ _) (by rfl) (by rfl) (by simp) rfl (q 2) (q 12)) rfl (cg (OpJ.storeB tyS34 (SetAt.here _ _) (by rfl) (by rfl) (by simp) rfl (q 3) (q 13)) rfl (c (OpJ.assign (L rfl) (Opd.int .i64 (1))) rfl cn))))) ?_
  refine gh [(2, _), (3, _), (4, _)] [(1002, some _), (1003, some _)] hB rfl rfl (by rfl) ?_
  refine AWp.ret ?_
  refine blkQ_r ?_
  refine seqQ_r ?_
  obtain rfl := Option.some.inj h
  exact ⟨.inl rfl, _, _, (kp [(2, _), (3, _), (4, _)] [(1002, some _), (1003, some _)] hB rfl rfl (by rfl)), [(.d (.st [(.st [(.bool false), (.int .u64 0), (.int .u64 0)]), (.int .i64 0)])), (.d (.st [(.st [(.bool false), (.int .u64 0), (.int .u64 0)]), (.int .i64 0)])), (i6 1)], (Res.cell (c := (.d (.st [(.st [(.bool false), (.int .u64 0), (.int .u64 0)]), (.int .i64 0)]))) (by rfl) (by rfl) tyS34 (by rfl) (by rfl) (by rfl) (Res.cell (c := (.d (.st [(.st [(.bool false), (.int .u64 0), (.int .u64 0)]), (.int .i64 0)]))) (by rfl) (by rfl) tyS34 (by rfl) (by rfl) (by rfl) (Res.tmp (by rfl) (by rfl) Res.nil))), rfl, by rfl, by rfl, by rfl⟩
 ·replace h := ite_f hg2 h
  obtain ⟨r3, hr3, h⟩ := bindS h
  refine sd (c (ov (.ptr 1001 3 [1]) (fp hN Tryd.underlying34 3 tyS3 _ (q 1))) rfl (c (lb hN 34 _ _ tyS3 (ad _) (q 15)) rfl (c (ov (.ptr 1001 0 [0]) (fp hN Tryd.underlying34 0 tyS32 _ (q 1))) rfl (c (lb hN 34 _ _ tyS32 (ad _) (q 17)) rfl (cg (cf hB fnOk65 (exchangepointref02_width_ac a0.fAddr r3 hr3) (L rfl) (OpdL.cons (q 18) OpdL.nil)) rfl (c (OpJ.eqlI (L rfl) (q 16) (q 19)) rfl (c (OpJ.assign (L rfl) (q 20)) rfl cn))))))) (by kernel_rfl) (by kernel_rfl) ?_
  refine gh [(1, _), (2, _), (3, _), (14, _)] [(1001, some _), (1002, some _), (1003, some _)] hB rfl rfl (by rfl) ?_
  refine AWp.cond rfl (fun hg4 => ?_) (fun hg4 => ?_)
  ·replace h := ite_t hg4 h
   refine sr (c (OpJ.coe (v := (.st [(.d (.st [(.bool false), (.int .u64 0), (.int .u64 0)])), (i6 0)])) (y := (.st [(.st [(.bool false), (.int .u64 0), (.int .u64 0)]), (.int .i64 0)])) (Co.st (CoL.cons (Co.d _) (CoL.cons (Co.d _) CoL.nil))) rfl (OpJ.build (places := [(0, 3), (3, 1)]) ⟨Tryd.underlying34, fun w => by kernel_rfl⟩ tyZS34 Opds.nil (by kernel_rfl) (r := (.st [(.d (.st [(.bool false), (.int .u64 0), (.int .u64 0)])), (i6 0)])) (by rfl) (L rfl))) rfl (c (OpJ.coe (v := (.st [(.d (.st [(.bool false), (.int .u64 0), (.int .u64 0)])), (i6 0)])) (y := (.st [(.st [(.bool false), (.int .u64 0), (.int .u64 0)]), (.int .i64 0)])) (Co.st (CoL.cons (Co.d _) (CoL.cons (Co.d _) CoL.nil))) rfl (OpJ.build (places := [(0, 3), (3, 1)]) ⟨Tryd.underlying34, fun w => by kernel_rfl⟩ tyZS34 Opds.nil (by kernel_rfl) (r := (.st [(.d (.st [(.bool false), (.int .u64 0), (.int .u64 0)])), (i6 0)])) (by rfl) (L rfl))) rfl (cg (OpJ.storeB tyS34 (SetAt.here _ _) (by rfl) (by rfl) (by simp) rfl (q 2) (q 21)) rfl (cg (OpJ.storeB tyS34 (SetAt.here _ _) (by rfl) (by rfl) (by simp) rfl (q 3) (q 22)) rfl (c (OpJ.assign (L rfl) (Opd.int .i64 (9))) rfl cn))))) ?_
   refine gh [(2, _), (3, _), (4, _)] [(1002, some _), (1003, some _)] hB rfl rfl (by rfl) ?_
   refine AWp.ret ?_
   refine blkQ_r ?_
   refine seqQ_r ?_
   obtain rfl := Option.some.inj h
   exact ⟨.inl rfl, _, _, (kp [(2, _), (3, _), (4, _)] [(1002, some _), (1003, some _)] hB rfl rfl (by rfl)), [(.d (.st [(.st [(.bool false), (.int .u64 0), (.int .u64 0)]), (.int .i64 0)])), (.d (.st [(.st [(.bool false), (.int .u64 0), (.int .u64 0)]), (.int .i64 0)])), (i6 (9 : Int))], (Res.cell (c := (.d (.st [(.st [(.bool false), (.int .u64 0), (.int .u64 0)]), (.int .i64 0)]))) (by rfl) (by rfl) tyS34 (by rfl) (by rfl) (by rfl) (Res.cell (c := (.d (.st [(.st [(.bool false), (.int .u64 0), (.int .u64 0)]), (.int .i64 0)]))) (by rfl) (by rfl) tyS34 (by rfl) (by rfl) (by rfl) (Res.tmp (by rfl) (by rfl) Res.nil))), rfl, by rfl, by rfl, by rfl⟩
  ·replace h := ite_f hg4 h
   refine AWp.skip ?_
   refine blkQ_n ?_
   refine seqQ_n ?_
   refine AWp.seq ?_
   obtain ⟨r5, hr5, h⟩ := bindS h
   refine AWp.region (oc (ov (.ptr 1001 0 [0]) (fp hN Tryd.underlying34 0 tyS32 (.box 34 (.d (e_api_Prefix a0))) (ot 1 (.ptr 1001 0 []))))
    (oc (lb hN 34 (.d (e_api_Prefix a0)) (.d (e_api_Addr a0.fAddr)) tyS32 (ad (e_api_Addr a0.fAddr)) (ot 23 (.ptr 1001 0 [0])))
    (oc (OpJ.callFn hB fnOk66 (exchangepointref01_Bytes_2_ac a0.fAddr r5 hr5) [(900000, 100200)] (by kernel_rfl) (L rfl) (by kernel_rfl) (OpdL.cons (ot 24 (.d (e_api_Addr a0.fAddr))) OpdL.nil))
    (oc (OpJ.assign (L rfl) (ot 25 (.sref 100200 1 0 r5.length)))
    (OpJs.nil))))) (by rfl) (by rfl) ?_
   refine seqQ_n ?_
   refine AWp.ghost (mp [] [(1, (.ptr 1001 0 [])), (2, (.ptr 1002 0 [])), (3, (.ptr 1003 0 [])), (5, (.sref 100200 1 0 r5.length))] [(1001, some (.box 34 (.d (e_api_Prefix a0)))), (1002, some (.box 34 (.d (.st [(.st [(.bool false), (.int .u64 0), (.int .u64 0)]), (.int .i64 0)])))), (1003, some (.box 34 (.d (.st [(.st [(.bool false), (.int .u64 0), (.int .u64 0)]), (.int .i64 0)])))), (100200, some (.row 5 1 (r5.map (eI .u8))))] hB) ?_
   obtain ⟨x6, hx6, h⟩ := bindS h
   obtain ⟨x7, hx7, h⟩ := bindS h
   obtain ⟨x8, hx8, h⟩ := bindS h
   obtain ⟨x9, hx9, h⟩ := bindS h
   refine sd (c (mv hN (q 5)) rfl (c (ov (.ptr 1001 3 [1]) (fp hN Tryd.underlying34 3 tyS3 _ (q 1))) rfl (c (lb hN 34 _ _ tyS3 (ad _) (q 27)) rfl (c (quo6 (L rfl) (q 28) (Opd.int .i64 (8)) (by decide)) rfl (c (OpJ.val (v' := (.ptr 100200 ((w64 (Int.tdiv a0.fLen (8 : Int))).toNat * 1) [(w64 (Int.tdiv a0.fLen (8 : Int))).toNat])) (by simp) (OpJ.indexS Tryd.underlying107 tyS5 (idx_some hx6).1 (by have := idx_lt hx6; first | (simpa using this) | ((try simp only [List.length_map] at this); (try simp only [List.length_map]); omega)) (L rfl) (q 26) (q 29))) rfl (c (OpJ.loadR (e := 5) (sz := 1) tyS5 (get_map (eI .u8) (idx_some hx7).2) (o := 0) (At.here _) (by rfl) (by rfl) (by rfl) (L rfl) (q 30)) rfl (c (ov (.ptr 1001 3 [1]) (fp hN Tryd.underlying34 3 tyS3 _ (q 1))) rfl (c (lb hN 34 _ _ tyS3 (ad _) (q 32)) rfl (c (OpJ.rem (L rfl) (q 33) (Opd.int .i64 (8)) (by decide)) rfl (c (OpJ.conv Tryd.underlying3 Tryd.underlying104 (L rfl) (q 34)) rfl (c (OpJ.shr (L rfl) (Opd.int .u8 (128)) (q 35) (wrap_nonneg rfl _)) rfl (c (OpJ.bits (.inr (.inl rfl)) (L rfl) (q 31) (q 36)) rfl (c (OpJ.val (v' := (.ptr 100200 ((w64 (Int.tdiv a0.fLen (8 : Int))).toNat * 1) [(w64 (Int.tdiv a0.fLen (8 : Int))).toNat])) (by simp) (OpJ.indexS Tryd.underlying107 tyS5 (idx_some hx8).1 (by have := idx_lt hx8; first | (simpa using this) | ((try simp only [List.length_map] at this); (try simp only [List.length_map]); omega)) (L rfl) (q 26) (q 29))) rfl (cg (OpJ.storeR (e := 5) (sz := 1) (es' := (r5.set (w64 (Int.tdiv a0.fLen (8 : Int))).toNat (bitI .or .u8 x7 (shrI .u8 (128 : Int) (IntKind.u64.wrap (Int.tmod a0.fLen (8 : Int)))))).map (eI .u8)) tyS5 (get_map (eI .u8) (idx_some hx9).2) (o := 0) (SetAt.here _ _) (by rfl) (map_set _ _ _ _) (by rfl) (by rfl) (q 38) (q 37)) rfl cn)))))))))))))) (by kernel_rfl) (by kernel_rfl) ?_
   refine gh [(1, _), (2, _), (3, _), (5, _)] [(1001, some _), (1002, some _), (1003, some _), (100200, some _)] hB rfl rfl (by rfl) ?_
   refine AWp.seq ?_
   refine AWp.ghost (Mat.freezeP (n := 100200) (e := 5) (sz := 1) (es := (r5.set (w64 (Int.tdiv a0.fLen (8 : Int))).toNat (bitI .or .u8 x7 (shrI .u8 (128 : Int) (IntKind.u64.wrap (Int.tmod a0.fLen (8 : Int)))))).map (eI .u8)) (Ts := [(5, (.d (.list 1 ((((r5.set (w64 (Int.tdiv a0.fLen (8 : Int))).toNat (bitI .or .u8 x7 (shrI .u8 (128 : Int) (IntKind.u64.wrap (Int.tmod a0.fLen (8 : Int)))))).drop 0).take r5.length).map (eI .u8)))))]) (Bs := []) (by rfl) (TwT.cons (x := (.sref 100200 1 0 r5.length)) (by rfl) (FrzL.cut (fs := (((r5.set (w64 (Int.tdiv a0.fLen (8 : Int))).toNat (bitI .or .u8 x7 (shrI .u8 (128 : Int) (IntKind.u64.wrap (Int.tmod a0.fLen (8 : Int)))))).drop 0).take r5.length).map (eI .u8)) (by simp only [List.length_map, List.length_append, List.length_take, List.length_drop, List.length_replicate, List.length_set]; omega) (by first | rw [List.map_drop, List.map_take] | simp [List.map_take, List.map_drop])) TwT.nil) TwB.nil) ?_
   obtain ⟨r10, hr10, h⟩ := bindS h
   refine rg (c (mv hN (q 5)) rfl (cg (OpJ.callFn hB fnOk67 (exchangepointref01_FromBytes_ac (((r5.set (w64 (Int.tdiv a0.fLen (8 : Int))).toNat (bitI .or .u8 x7 (shrI .u8 (128 : Int) (IntKind.u64.wrap (Int.tmod a0.fLen (8 : Int)))))).drop 0).take r5.length) r10 hr10) [] (by kernel_rfl) (L rfl) (by kernel_rfl) (OpdL.cons (q 40) OpdL.nil)) rfl (c (mv hN (q 41)) rfl (c (OpJ.extract (by rfl) rfl (L rfl) (q 39)) rfl (c (OpJ.extract (by rfl) rfl (L rfl) (q 39)) rfl (cg (OpJ.alloc hB tyZ32 (nm := 1006) (by decide) (L rfl)) rfl (cg (OpJ.storeB tyS32 (SetAt.here _ _) (by rfl) (by rfl) (by simp) rfl (q 6) (q 42)) rfl (c (OpJ.assign (L rfl) (q 43)) rfl cn)))))))) ?_
   refine seqQ_n ?_
   refine gh [(1, _), (2, _), (3, _), (6, _)] [(1001, some _), (1002, some _), (1003, some _), (1006, some _)] hB rfl rfl (by rfl) ?_
   refine sd (c (ov (.ptr 1001 0 [0]) (fp hN Tryd.underlying34 0 tyS32 _ (q 1))) rfl (c (lb hN 34 _ _ tyS32 (ad _) (q 44)) rfl (c (ov (.ptr 1001 3 [1]) (fp hN Tryd.underlying34 3 tyS3 _ (q 1))) rfl (c (lb hN 34 _ _ tyS3 (ad _) (q 46)) rfl (c (add6 (L rfl) (q 47) (Opd.int .i64 (1))) rfl (c (OpJ.coe (v := (.st [(.d (e_api_Addr a0.fAddr)), (i6 (w64 (a0.fLen + (1 : Int))))])) (y := (.st [(e_api_Addr a0.fAddr), (.int .i64 (w64 (a0.fLen + (1 : Int))))])) (Co.st (CoL.cons (Co.d _) (CoL.cons (Co.d _) CoL.nil))) rfl (OpJ.build (places := [(0, 3), (3, 1)]) ⟨Tryd.underlying34, fun w => by kernel_rfl⟩ tyZS34 (Opds.cons (q 45) (Opds.cons (q 48) Opds.nil)) (by kernel_rfl) (r := (.st [(.d (e_api_Addr a0.fAddr)), (i6 (w64 (a0.fLen + (1 : Int))))])) (by rfl) (L rfl))) rfl (c (lb hN 32 _ _ tyS32 (At.here _) (q 6)) rfl (c (ov (.ptr 1001 3 [1]) (fp hN Tryd.underlying34 3 tyS3 _ (q 1))) rfl (c (lb hN 34 _ _ tyS3 (ad _) (q 51)) rfl (c (add6 (L rfl) (q 52) (Opd.int .i64 (1))) rfl (c (OpJ.coe (v := (.st [(.d (e_api_Addr r10.1)), (i6 (w64 (a0.fLen + (1 : Int))))])) (y := (.st [(e_api_Addr r10.1), (.int .i64 (w64 (a0.fLen + (1 : Int))))])) (Co.st (CoL.cons (Co.d _) (CoL.cons (Co.d _) CoL.nil))) rfl (OpJ.build (places := [(0, 3), (3, 1)]) ⟨Tryd.underlying34, fun w => by kernel_rfl⟩ tyZS34 (Opds.cons (q 50) (Opds.cons (q 53) Opds.nil)) (by kernel_rfl) (r := (.st [(.d (e_api_Addr r10.1)), (i6 (w64 (a0.fLen + (1 : Int))))])) (by rfl) (L rfl))) rfl (cg (OpJ.storeB tyS34 (SetAt.here _ _) (by rfl) (by rfl) (by simp) rfl (q 2) (q 49)) rfl (cg (OpJ.storeB tyS34 (SetAt.here _ _) (by rfl) (by rfl) (by simp) rfl (q 3) (q 54)) rfl (c (OpJ.assign (L rfl) (Opd.int .i64 (0))) rfl cn)))))))))))))) (by kernel_rfl) (by kernel_rfl) ?_
   refine gh [(2, _), (3, _), (4, _)] [(1002, some _), (1003, some _)] hB rfl rfl (by rfl) ?_
   refine AWp.ret ?_
   obtain rfl := Option.some.inj h
   exact ⟨.inl rfl, _, _, (kp [(2, _), (3, _), (4, _)] [(1002, some _), (1003, some _)] hB rfl rfl (by rfl)), [(.d (.st [(e_api_Addr a0.fAddr), (.int .i64 (w64 (a0.fLen + (1 : Int))))])), (.d (.st [(e_api_Addr r10.1), (.int .i64 (w64 (a0.fLen + (1 : Int))))])), (i6 0)], (Res.cell (c := (.d (.st [(e_api_Addr a0.fAddr), (.int .i64 (w64 (a0.fLen + (1 : Int))))]))) (by rfl) (by rfl) tyS34 (by rfl) (by rfl) (by rfl) (Res.cell (c := (.d (.st [(e_api_Addr r10.1), (.int .i64 (w64 (a0.fLen + (1 : Int))))]))) (by rfl) (by rfl) tyS34 (by rfl) (by rfl) (by rfl) (Res.tmp (by rfl) (by rfl) Res.nil))), rfl, by rfl, by rfl, by rfl⟩

noncomputable def exchangepointref21_divide : Nat → api_Prefix → api_Range → Option ((List api_Prefix))
 | 0, _, _ => none
 | fuel + 1, a0, a1 =>
  (exchangepointref02_Last a0).bind fun r1 =>
  jn (fun m6 : Bool =>
  (if m6 = true then
  some ([] : List api_Prefix)
  else
  jn (fun m13 : Bool =>
  (if m13 = true then
  some ([a0] : List api_Prefix)
  else
  (exchangepointref02_Halves a0).bind fun r16 =>
  (exchangepointref21_divide fuel r16.1 a1).bind fun r19 =>
  (exchangepointref21_divide fuel r16.2.1 a1).bind fun r20 =>
  chk (decide ((r19 ++ r20).length ≤ LIM)) <|
  some (r19 ++ r20))) (fun j14 =>
  (exchangepointref01_Cmp a1.fFrom a0.fAddr).bind fun r22 =>
  (if (decide (r22 ≤ (0 : Int))) = true then
  (exchangepointref01_Cmp r1 a1.fTo).bind fun r24 =>
  j14 (decide (r24 ≤ (0 : Int)))
  else
  j14 false)))) (fun j7 =>
  (exchangepointref01_Cmp r1 a1.fFrom).bind fun r25 =>
  (if (decide (r25 < (0 : Int))) = true then
  j7 true
  else
  (exchangepointref01_Cmp a1.fTo a0.fAddr).bind fun r27 =>
  j7 (decide (r27 < (0 : Int)))))
theorem exchangepointref21_divide_ac (fuel : Nat) : ∀ (a0 : api_Prefix) (a1 : api_Range) (r : (List api_Prefix)) (h : exchangepointref21_divide fuel a0 a1 = some r), AC Tryd.prog 34 [(.d (e_api_Prefix a0)), (.d (e_api_Range a1))] [] (.sref 900000 4 0 r.length) [(900000, some (.row 34 4 (r.map e_api_Prefix)))] := by
 induction fuel with
 | zero =>
  intro a0 a1 r h
  rw [exchangepointref21_divide] at h
  cases h
 | succ fuel ih =>
  intro a0 a1 r h
  refine AC.of_code2 Tryd.func34 rfl rfl (Nat.le_of_ble_eq_true (by rfl)) fun B hB hN => ?_
  have L {d : Nat} (h : Nat.blt d Tryd.f34.ntmps = true) : d < B.N := ltN hN h
  rw [exchangepointref21_divide] at h
  refine sr (cg (OpJ.box hB (nm := 1002) (by decide) (by simp) rfl (L rfl) (q 0)) rfl (cg (OpJ.box hB (nm := 1003) (by decide) (by simp) rfl (L rfl) (q 1)) rfl (c (OpJ.assign (L rfl) Opd.nils) rfl cn))) ?_
  refine gh [(2, _), (3, _)] [(1002, some _), (1003, some _)] hB rfl rfl (by rfl) ?_
  obtain ⟨r1, hr1, h⟩ := bindS h
  refine sr (c (lb hN 34 _ _ tyS34 (At.here _) (q 2)) rfl (cg (cf hB fnOk42 (exchangepointref02_Last_ac a0 r1 hr1) (L rfl) (OpdL.cons (q 9) OpdL.nil)) rfl (cg (OpJ.alloc hB tyZ32 (nm := 1005) (by decide) (L rfl)) rfl (cg (OpJ.storeB tyS32 (SetAt.here _ _) (by rfl) (by rfl) (by simp) rfl (q 5) (q 10)) rfl cn)))) ?_
  refine gh [(2, _), (3, _), (5, _)] [(1002, some _), (1003, some _), (1005, some _)] hB rfl rfl (by rfl) ?_
  refine AWp.seq ?_
  refine AWp.seq ?_
  refine AWp.cut h (fun m6 : Bool => ([(2, (.ptr 1002 0 [])), (3, (.ptr 1003 0 [])), (5, (.ptr 1005 0 [])), (23, (bo m6))] : EL)) (fun m6 : Bool => ([(1002, some (.box 34 (.d (e_api_Prefix a0)))), (1003, some (.box 68 (.d (e_api_Range a1)))), (1005, some (.box 32 (.d (e_api_Addr r1))))] : OL)) (fun m6 h E' O' hmat => ?_) (fun j7 hjj7 h => ?_)
  ·refine seqQ_n ?_
   refine AWp.ghost hmat ?_
   refine AWp.cond rfl (fun hg8 => ?_) (fun hg8 => ?_)
   ·replace h := ite_t hg8 h
    refine sr (c (OpJ.assign (L rfl) Opd.nils) rfl cn) ?_
    refine gh [(4, _)] [] hB rfl rfl (by rfl) ?_
    refine AWp.ret ?_
    refine seqQ_r ?_
    obtain rfl := Option.some.inj h
    exact ⟨.inl rfl, _, _, (Mat.trans (Mat.beginP (n := 900500) (e := 34) (sz := 4) (Ts := [(4, (.sref 900500 4 0 0))]) (Bs := []) hB (by decide) (by rfl) (by decide) (TwT.cons (x := .nils) (by rfl) (Tw.leaf ⟨rfl, rfl⟩) TwT.nil) TwB.nil) (Mat.trans (Mat.lenP (Ts := [(4, (.sref 900500 4 0 (([] : List api_Prefix).length)))]) (Bs := []) (TwT.cons (x := (.sref 900500 4 0 0)) (by rfl) (Tw.leaf ⟨_, _, _, _, _, rfl, rfl, (by first | rfl | (simp; done) | (simp; omega) | omega)⟩) TwT.nil) TwB.nil) (mp [(900000, 900500)] [(4, (.sref 900000 4 0 (([] : List api_Prefix).length)))] [(900000, some (we_api_Prefix_34_4 ([] : List api_Prefix)))] hB))), [(.sref 900000 4 0 (([] : List api_Prefix).length))], (Res.tmp (by rfl) (by rfl) Res.nil), rfl, by rfl, by rfl, by rfl⟩
   ·replace h := ite_f hg8 h
    refine AWp.skip ?_
    refine seqQ_n ?_
    refine AWp.seq ?_
    refine AWp.seq ?_
    refine AWp.cut h (fun m13 : Bool => ([(2, (.ptr 1002 0 [])), (3, (.ptr 1003 0 [])), (36, (bo m13))] : EL)) (fun m13 : Bool => ([(1002, some (.box 34 (.d (e_api_Prefix a0)))), (1003, some (.box 68 (.d (e_api_Range a1))))] : OL)) (fun m13 h E' O' hmat => ?_) (fun j14 hjj14 h => ?_)
    ·refine seqQ_n ?_
     refine AWp.ghost hmat ?_
     refine AWp.cond rfl (fun hg15 => ?_) (fun hg15 => ?_)
     ·replace h := ite_t hg15 h
      refine sr (c (lb hN 34 _ _ tyS34 (At.here _) (q 2)) rfl (cg (OpJ.buildSliceR Tryd.underlying36 tyS34 tyZD34 (by rfl) (by decide) (by decide) hB (nm := 1038) (by decide) (len := ([a0] : List api_Prefix).length) (by rfl) (Opds.cons (q 37) Opds.nil) (by kernel_rfl) (es := ([a0] : List api_Prefix).map e_api_Prefix) (by rfl) (by rfl) (by kernel_rfl) (by simp) (L rfl)) rfl (c (OpJ.assign (L rfl) (q 38)) rfl cn))) ?_
      refine gh [(4, _)] [(1038, some _)] hB rfl rfl (by rfl) ?_
      refine AWp.ret ?_
      refine seqQ_r ?_
      obtain rfl := Option.some.inj h
      exact ⟨.inl rfl, _, _, (mp [(900000, 1038)] [(4, (.sref 900000 4 0 (([a0] : List api_Prefix).length)))] [(900000, some (we_api_Prefix_34_4 ([a0] : List api_Prefix)))] hB), [(.sref 900000 4 0 (([a0] : List api_Prefix).length))], (Res.tmp (by rfl) (by rfl) Res.nil), rfl, by rfl, by rfl, by rfl⟩
     ·replace h := ite_f hg15 h
      refine AWp.skip ?_
      refine seqQ_n ?_
      obtain ⟨r16, hr16, h⟩ := bindS h
      refine sr (c (lb hN 34 _ _ tyS34 (At.here _) (q 2)) rfl (cg (cf hB fnOk68 (exchangepointref02_Halves_ac a0 r16 hr16) (L rfl) (OpdL.cons (q 40) OpdL.nil)) rfl (c (mv hN (q 41)) rfl (c (OpJ.extract (by rfl) rfl (L rfl) (q 39)) rfl (c (OpJ.extract (by rfl) rfl (L rfl) (q 39)) rfl (c (OpJ.extract (by rfl) rfl (L rfl) (q 39)) rfl (cg (OpJ.alloc hB tyZ34 (nm := 1006) (by decide) (L rfl)) rfl (cg (OpJ.alloc hB tyZ34 (nm := 1007) (by decide) (L rfl)) rfl (cg (OpJ.storeB tyS34 (SetAt.here _ _) (by rfl) (by rfl) (by simp) rfl (q 6) (q 42)) rfl (cg (OpJ.storeB tyS34 (SetAt.here _ _) (by rfl) (by rfl) (by simp) rfl (q 7) (q 43)) rfl (c (OpJ.assign (L rfl) (q 44)) rfl cn))))))))))) ?_
      refine gh [(3, _), (6, _), (7, _)] [(1003, some _), (1006, some _), (1007, some _)] hB rfl rfl (by rfl) ?_
      refine AWp.seq ?_
      obtain ⟨r19, hr19, h⟩ := bindS h
      obtain ⟨r20, hr20, h⟩ := bindS h
      obtain ⟨hc21, h⟩ := chk_some h
      refine AWp.draws (by kernel_rfl) (oc (lb hN 34 (.d (e_api_Prefix r16.1)) (.d (e_api_Prefix r16.1)) tyS34 (At.here _) (ot 6 (.ptr 1006 0 [])))
       (oc (lb hN 68 (.d (e_api_Range a1)) (.d (e_api_Range a1)) tyS68 (At.here _) (ot 3 (.ptr 1003 0 [])))
       (oc (OpJ.callFn hB fnOk34 (ih r16.1 a1 r19 hr19) [(900000, 100600)] (by kernel_rfl) (L rfl) (by kernel_rfl) (OpdL.cons (ot 45 (.d (e_api_Prefix r16.1))) (OpdL.cons (ot 46 (.d (e_api_Range a1))) OpdL.nil)))
       (oc (lb hN 34 (.d (e_api_Prefix r16.2.1)) (.d (e_api_Prefix r16.2.1)) tyS34 (At.here _) (ot 7 (.ptr 1007 0 [])))
       (oc (lb hN 68 (.d (e_api_Range a1)) (.d (e_api_Range a1)) tyS68 (At.here _) (ot 3 (.ptr 1003 0 [])))
       (oc (OpJ.frz (OpJ.callFn hB fnOk34 (ih r16.2.1 a1 r20 hr20) [(900000, 100700)] (by kernel_rfl) (L rfl) (by kernel_rfl) (OpdL.cons (ot 48 (.d (e_api_Prefix r16.2.1))) (OpdL.cons (ot 49 (.d (e_api_Range a1))) OpdL.nil))) (by simp))
       (oc (OpJ.append hB Tryd.underlying36 tyE34 (nm := 1051) (by decide) (es := r19.map e_api_Prefix) (ys := r20.map e_api_Prefix) (es' := (r19 ++ r20).map e_api_Prefix) (len := (r19 ++ r20).length) (by simp) (by simp) (map_sz (f := e_api_Prefix) (fun _ => rfl)) (by rw [List.length_map]; exact lim_mulN hc21 (by decide)) (by rw [List.length_map]; exact lim_leN hc21) (L rfl) (by simp) (ot 47 (.sref 100600 4 0 r19.length)) (ot 50 (qe_api_Prefix_4 r20)))
       (oc (OpJ.assign (L rfl) (ot 51 (.sref 1051 4 0 ((r19 ++ r20).length))))
       (OpJs.nil))))))))) (by kernel_rfl) (by rfl) (by rfl) ?_
      refine seqQ_n ?_
      refine AWp.ghost (mp [] [(4, (.sref 1051 4 0 ((r19 ++ r20).length)))] [(1051, some (we_api_Prefix_34_4 (r19 ++ r20)))] hB) ?_
      refine AWp.ret ?_
      obtain rfl := Option.some.inj h
      exact ⟨.inl rfl, _, _, (mp [(900000, 1051)] [(4, (.sref 900000 4 0 ((r19 ++ r20).length)))] [(900000, some (we_api_Prefix_34_4 (r19 ++ r20)))] hB), [(.sref 900000 4 0 ((r19 ++ r20).length))], (Res.tmp (by rfl) (by rfl) Res.nil), rfl, by rfl, by rfl, by rfl⟩
    ·obtain ⟨r22, hr22, h⟩ := bindS h
     rcases Bool.eq_false_or_eq_true (decide (r22 ≤ (0 : Int))) with hg23 | hg23
     ·replace h := ite_t hg23 h
      obtain ⟨r24, hr24, h⟩ := bindS h
      refine rg (c (ov (.ptr 1003 0 [0]) (fp hN Tryd.underlying68 0 tyS32 _ (q 3))) rfl (c (lb hN 68 _ _ tyS32 (ad _) (q 24)) rfl (c (ov (.ptr 1002 0 [0]) (fp hN Tryd.underlying34 0 tyS32 _ (q 2))) rfl (c (lb hN 34 _ _ tyS32 (ad _) (q 26)) rfl (cg (cf hB fnOk41 (exchangepointref01_Cmp_ac a1.fFrom a0.fAddr r22 hr22) (L rfl) (OpdL.cons (q 25) (OpdL.cons (q 27) OpdL.nil))) rfl (c (OpJ.leq (L rfl) (q 28) (Opd.int .i64 (0))) rfl (c (OpJ.val (v' := .d (.bool true)) (by rw [hg23] <;> rfl) (mv hN (q 29))) rfl (c (gd 30 (lb hN 32 _ _ tyS32 (At.here _) (q 5))) rfl (c (gd 30 (ov (.ptr 1003 3 [1]) (fp hN Tryd.underlying68 3 tyS32 _ (q 3)))) rfl (c (gd 30 (lb hN 68 _ _ tyS32 (ad _) (q 32))) rfl (cg (gd 30 (cf hB fnOk41 (exchangepointref01_Cmp_ac r1 a1.fTo r24 hr24) (L rfl) (OpdL.cons (q 31) (OpdL.cons (q 33) OpdL.nil)))) rfl (c (gd 30 (OpJ.leq (L rfl) (q 34) (Opd.int .i64 (0)))) rfl (c (OpJ.pickT (L rfl) (q 30) (q 35)) rfl cn))))))))))))) ?_
      exact hjj14 _ h _ _ (Mat.trans (mp [] [(2, (.ptr 1002 0 [])), (3, (.ptr 1003 0 [])), (36, (bo (decide (r24 ≤ (0 : Int)))))] [(1002, some (.box 34 (.d (e_api_Prefix a0)))), (1003, some (.box 68 (.d (e_api_Range a1))))] hB) (mp [] _ _ hB))
     ·replace h := ite_f hg23 h
      refine rg (c (ov (.ptr 1003 0 [0]) (fp hN Tryd.underlying68 0 tyS32 _ (q 3))) rfl (c (lb hN 68 _ _ tyS32 (ad _) (q 24)) rfl (c (ov (.ptr 1002 0 [0]) (fp hN Tryd.underlying34 0 tyS32 _ (q 2))) rfl (c (lb hN 34 _ _ tyS32 (ad _) (q 26)) rfl (cg (cf hB fnOk41 (exchangepointref01_Cmp_ac a1.fFrom a0.fAddr r22 hr22) (L rfl) (OpdL.cons (q 25) (OpdL.cons (q 27) OpdL.nil))) rfl (c (OpJ.leq (L rfl) (q 28) (Opd.int .i64 (0))) rfl (c (OpJ.val (v' := .d (.bool false)) (by rw [hg23] <;> rfl) (mv hN (q 29))) rfl (cg (sU 30 (L rfl)) rfl (cg (sU 30 (L rfl)) rfl (cg (sU 30 (L rfl)) rfl (cg (sU 30 (L rfl)) rfl (cg (sU 30 (L rfl)) rfl (c (OpJ.pickF (L rfl) (q 30) (Opd.bool false)) rfl cn))))))))))))) ?_
      exact hjj14 _ h _ _ (Mat.trans (mp [] [(2, (.ptr 1002 0 [])), (3, (.ptr 1003 0 [])), (36, (bo false))] [(1002, some (.box 34 (.d (e_api_Prefix a0)))), (1003, some (.box 68 (.d (e_api_Range a1))))] hB) (mp [] _ _ hB))
  ·obtain ⟨r25, hr25, h⟩ := bindS h
   rcases Bool.eq_false_or_eq_true (decide (r25 < (0 : Int))) with hg26 | hg26
   ·replace h := ite_t hg26 h
    refine rg (c (lb hN 32 _ _ tyS32 (At.here _) (q 5)) rfl (c (ov (.ptr 1003 0 [0]) (fp hN Tryd.underlying68 0 tyS32 _ (q 3))) rfl (c (lb hN 68 _ _ tyS32 (ad _) (q 12)) rfl (cg (cf hB fnOk41 (exchangepointref01_Cmp_ac r1 a1.fFrom r25 hr25) (L rfl) (OpdL.cons (q 11) (OpdL.cons (q 13) OpdL.nil))) rfl (c (OpJ.lss (L rfl) (q 14) (Opd.int .i64 (0))) rfl (c (OpJ.val (v' := .d (.bool true)) (by rw [hg26] <;> rfl) (mv hN (q 15))) rfl (cg (sU 16 (L rfl)) rfl (cg (sU 16 (L rfl)) rfl (cg (sU 16 (L rfl)) rfl (cg (sU 16 (L rfl)) rfl (cg (sU 16 (L rfl)) rfl (cg (sU 16 (L rfl)) rfl (c (OpJ.pickT (L rfl) (q 16) (Opd.bool true)) rfl cn))))))))))))) ?_
    exact hjj7 _ h _ _ (Mat.trans (mp [] [(2, (.ptr 1002 0 [])), (3, (.ptr 1003 0 [])), (5, (.ptr 1005 0 [])), (23, (bo true))] [(1002, some (.box 34 (.d (e_api_Prefix a0)))), (1003, some (.box 68 (.d (e_api_Range a1)))), (1005, some (.box 32 (.d (e_api_Addr r1))))] hB) (mp [] _ _ hB))
   ·replace h := ite_f hg26 h
    obtain ⟨r27, hr27, h⟩ := bindS h
    refine rg (c (lb hN 32 _ _ tyS32 (At.here _) (q 5)) rfl (c (ov (.ptr 1003 0 [0]) (fp hN Tryd.underlying68 0 tyS32 _ (q 3))) rfl (c (lb hN 68 _ _ tyS32 (ad _) (q 12)) rfl (cg (cf hB fnOk41 (exchangepointref01_Cmp_ac r1 a1.fFrom r25 hr25) (L rfl) (OpdL.cons (q 11) (OpdL.cons (q 13) OpdL.nil))) rfl (c (OpJ.lss (L rfl) (q 14) (Opd.int .i64 (0))) rfl (c (OpJ.val (v' := .d (.bool false)) (by rw [hg26] <;> rfl) (mv hN (q 15))) rfl (c (gd 16 (ov (.ptr 1003 3 [1]) (fp hN Tryd.underlying68 3 tyS32 _ (q 3)))) rfl (c (gd 16 (lb hN 68 _ _ tyS32 (ad _) (q 17))) rfl (c (gd 16 (ov (.ptr 1002 0 [0]) (fp hN Tryd.underlying34 0 tyS32 _ (q 2)))) rfl (c (gd 16 (lb hN 34 _ _ tyS32 (ad _) (q 19))) rfl (cg (gd 16 (cf hB fnOk41 (exchangepointref01_Cmp_ac a1.fTo a0.fAddr r27 hr27) (L rfl) (OpdL.cons (q 18) (OpdL.cons (q 20) OpdL.nil)))) rfl (c (gd 16 (OpJ.lss (L rfl) (q 21) (Opd.int .i64 (0)))) rfl (c (OpJ.pickF (L rfl) (q 16) (q 22)) rfl cn))))))))))))) ?_
    exact hjj7 _ h _ _ (Mat.trans (mp [] [(2, (.ptr 1002 0 [])), (3, (.ptr 1003 0 [])), (5, (.ptr 1005 0 [])), (23, (bo (decide (r27 < (0 : Int)))))] [(1002, some (.box 34 (.d (e_api_Prefix a0)))), (1003, some (.box 68 (.d (e_api_Range a1)))), (1005, some (.box 32 (.d (e_api_Addr r1))))] hB) (mp [] _ _ hB))

noncomputable def addr_Valid (a0 : api_Addr) : Option (Bool) :=
 jn (fun m2 : Bool =>
 some m2) (fun j3 =>
 (if a0.fV6 = true then
 j3 true
 else
 j3 ((a0.fHi == (0 : Int)) && (decide (a0.fLo < (4294967296 : Int))))))
theorem addr_Valid_ac (a0 : api_Addr) (r : Bool) (h : addr_Valid a0 = some r) : AC Tryd.prog 46 [(.d (e_api_Addr a0))] [] (.d (.bool r)) [] := by
 refine AC.of_code2 Tryd.func46 rfl rfl (Nat.le_of_ble_eq_true (by rfl)) fun B hB hN => ?_
 have L {d : Nat} (h : Nat.blt d Tryd.f46.ntmps = true) : d < B.N := ltN hN h
 delta addr_Valid at h
 refine sr (cg (OpJ.box hB (nm := 1001) (by decide) (by simp) rfl (L rfl) (q 0)) rfl (c (OpJ.assign (L rfl) (Opd.bool false)) rfl cn)) ?_
 refine gh [(1, _)] [(1001, some _)] hB rfl rfl (by rfl) ?_
 refine AWp.seq ?_
 refine AWp.cut h (fun m2 : Bool => ([(2, (bo m2))] : EL)) (fun m2 : Bool => ([] : OL)) (fun m2 h E' O' hmat => ?_) (fun j3 hjj3 h => ?_)
 ·refine seqQ_n ?_
  refine AWp.ghost hmat ?_
  refine AWp.ret ?_
  obtain rfl := Option.some.inj h
  exact ⟨.inl rfl, _, _, (kp [(2, _)] [] hB rfl rfl (by rfl)), [(bo m2)], (Res.tmp (by rfl) (by rfl) Res.nil), rfl, by rfl, by rfl, by rfl⟩
 ·rcases Bool.eq_false_or_eq_true a0.fV6 with hg4 | hg4
  ·replace h := ite_t hg4 h
   refine rg (c (ov (.ptr 1001 0 [0]) (fp hN Tryd.underlying32 0 tyS4 _ (q 1))) rfl (c (lb hN 32 _ _ tyS4 (ad _) (q 3)) rfl (c (OpJ.val (v' := .d (.bool true)) (by rw [hg4] <;> rfl) (mv hN (q 4))) rfl (cg (sU 5 (L rfl)) rfl (cg (sU 5 (L rfl)) rfl (cg (sU 5 (L rfl)) rfl (cg (sU 5 (L rfl)) rfl (cg (sV 9 (L rfl)) rfl (cg (sV 9 (L rfl)) rfl (cg (sV 9 (L rfl)) rfl (cg (sU 5 (L rfl)) rfl (c (OpJ.pickT (L rfl) (q 5) (Opd.bool true)) rfl (c (OpJ.assign (L rfl) (q 14)) rfl cn))))))))))))) ?_
   exact hjj3 _ h _ _ (Mat.trans (mp [] [(2, (bo true))] [] hB) (mp [] _ _ hB))
  ·replace h := ite_f hg4 h
   refine rg (c (ov (.ptr 1001 0 [0]) (fp hN Tryd.underlying32 0 tyS4 _ (q 1))) rfl (c (lb hN 32 _ _ tyS4 (ad _) (q 3)) rfl (c (OpJ.val (v' := .d (.bool false)) (by rw [hg4] <;> rfl) (mv hN (q 4))) rfl (c (gd 5 (ov (.ptr 1001 1 [1]) (fp hN Tryd.underlying32 1 tyS30 _ (q 1)))) rfl (c (gd 5 (lb hN 32 _ _ tyS30 (ad _) (q 6))) rfl (c (gd 5 (OpJ.eqlI (L rfl) (q 7) (Opd.int .u64 (0)))) rfl (c (gd 5 (mv hN (q 8))) rfl (c (oq hN 9 (ov (.ptr 1001 2 [2]) (fp hN Tryd.underlying32 2 tyS30 _ (q 1))) (OptL.keep (by rfl) OptL.nil) (GuardV.plain _)) rfl (c (oq hN 9 (lb hN 32 _ _ tyS30 (ad _) (q 10)) (OptL.opt OptL.nil) (GuardV.plain _)) rfl (c (oq hN 9 (OpJ.lss (L rfl) (q 11) (Opd.int .u64 (4294967296))) (OptL.opt OptL.nil) (GuardV.plain _)) rfl (c (gd 5 (OpJ.pickAnd rfl (L rfl) (q 9) (q 12))) rfl (c (OpJ.pickF (L rfl) (q 5) (q 13)) rfl (c (OpJ.assign (L rfl) (q 14)) rfl cn))))))))))))) ?_
   exact hjj3 _ h _ _ (Mat.trans (mp [] [(2, (bo ((a0.fHi == (0 : Int)) && (decide (a0.fLo < (4294967296 : Int))))))] [] hB) (mp [] _ _ hB))

noncomputable def resource_span (a0 : api_Span) : Option (Bool) :=
 some (((decide ((0 : Int) ≤ a0.fFrom)) && (decide (a0.fFrom ≤ a0.fTo))) && (decide (a0.fTo ≤ (4294967295 : Int))))
theorem resource_span_ac (a0 : api_Span) (r : Bool) (h : resource_span a0 = some r) : AC Tryd.prog 48 [(.d (e_api_Span a0))] [] (.d (.bool r)) [] := by
 refine AC.of_code2 Tryd.func48 rfl rfl (Nat.le_of_ble_eq_true (by rfl)) fun B hB hN => ?_
 delta resource_span at h
 refine sr (cg (OpJ.box hB (nm := 1001) (by decide) (by simp) rfl (ltN hN rfl) (q 0)) rfl (c (OpJ.assign (ltN hN rfl) (Opd.bool false)) rfl cn)) ?_
 refine gh [(1, _)] [(1001, some _)] hB rfl rfl (by rfl) ?_
 refine sr (c (ov (.ptr 1001 0 [0]) (fp hN Tryd.underlying48 0 tyS3 _ (q 1))) rfl (c (lb hN 48 _ _ tyS3 (ad _) (q 3)) rfl (c (OpJ.geq (ltN hN rfl) (q 4) (Opd.int .i64 (0))) rfl (c (mv hN (q 5)) rfl (c (oq hN 6 (ov (.ptr 1001 0 [0]) (fp hN Tryd.underlying48 0 tyS3 _ (q 1))) (OptL.keep (by rfl) OptL.nil) (GuardV.plain _)) rfl (c (oq hN 6 (lb hN 48 _ _ tyS3 (ad _) (q 7)) (OptL.opt OptL.nil) (GuardV.plain _)) rfl (c (oq hN 6 (ov (.ptr 1001 1 [1]) (fp hN Tryd.underlying48 1 tyS3 _ (q 1))) (OptL.keep (by rfl) OptL.nil) (GuardV.plain _)) rfl (c (oq hN 6 (lb hN 48 _ _ tyS3 (ad _) (q 9)) (OptL.opt OptL.nil) (GuardV.plain _)) rfl (c (oq hN 6 (OpJ.leq (ltN hN rfl) (q 8) (q 10)) (OptL.opt (OptL.opt OptL.nil)) (GuardV.plain _)) rfl (c (OpJ.pickAnd rfl (ltN hN rfl) (q 6) (q 11)) rfl (c (mv hN (q 12)) rfl (c (oq hN 13 (ov (.ptr 1001 1 [1]) (fp hN Tryd.underlying48 1 tyS3 _ (q 1))) (OptL.keep (by rfl) OptL.nil) (GuardV.plain _)) rfl (c (oq hN 13 (lb hN 48 _ _ tyS3 (ad _) (q 14)) (OptL.opt OptL.nil) (GuardV.plain _)) rfl (c (oq hN 13 (OpJ.leq (ltN hN rfl) (q 15) (Opd.int .i64 (4294967295))) (OptL.opt OptL.nil) (GuardV.plain _)) rfl (c (OpJ.pickAnd rfl (ltN hN rfl) (q 13) (q 16)) rfl (c (OpJ.assign (ltN hN rfl) (q 17)) rfl cn)))))))))))))))) ?_
 refine gh [(2, _)] [] hB rfl rfl (by rfl) ?_
 refine AWp.ret ?_
 obtain rfl := Option.some.inj h
 exact ⟨.inl rfl, _, _, (kp [(2, _)] [] hB rfl rfl (by rfl)), [(bo (((decide ((0 : Int) ≤ a0.fFrom)) && (decide (a0.fFrom ≤ a0.fTo))) && (decide (a0.fTo ≤ (4294967295 : Int)))))], (Res.tmp (by rfl) (by rfl) Res.nil), rfl, by rfl, by rfl, by rfl⟩

noncomputable def resource_Valid_1 (a0 : api_Span) : Option (Bool) :=
 (resource_span a0).bind fun r1 =>
 some (!r1)
theorem resource_Valid_1_ac (a0 : api_Span) (r : Bool) (h : resource_Valid_1 a0 = some r) : AC Tryd.prog 47 [(.d (e_api_Span a0))] [] (.d (.bool r)) [] := by
 refine AC.of_code2 Tryd.func47 rfl rfl (Nat.le_of_ble_eq_true (by rfl)) fun B hB hN => ?_
 delta resource_Valid_1 at h
 refine sr (cg (OpJ.box hB (nm := 1001) (by decide) (by simp) rfl (ltN hN rfl) (q 0)) rfl (c (OpJ.assign (ltN hN rfl) (Opd.bool false)) rfl cn)) ?_
 refine gh [(1, _)] [(1001, some _)] hB rfl rfl (by rfl) ?_
 obtain ⟨r1, hr1, h⟩ := bindS h
 refine sr (c (lb hN 48 _ _ tyS48 (At.here _) (q 1)) rfl (cg (OpJ.callFn hB fnOk48 (resource_span_ac a0 r1 hr1) [] (by kernel_rfl) (ltN hN rfl) (by kernel_rfl) (OpdL.cons (q 3) OpdL.nil)) rfl (c (OpJ.not (ltN hN rfl) (q 4)) rfl (c (OpJ.assign (ltN hN rfl) (q 5)) rfl cn)))) ?_
 refine gh [(2, _)] [] hB rfl rfl (by rfl) ?_
 refine AWp.ret ?_
 obtain rfl := Option.some.inj h
 exact ⟨.inl rfl, _, _, (kp [(2, _)] [] hB rfl rfl (by rfl)), [(bo (!r1))], (Res.tmp (by rfl) (by rfl) Res.nil), rfl, by rfl, by rfl, by rfl⟩

noncomputable def slices_IndexFunc_L0 (a0 : (List api_Span)) (s1 : Int) : Option (((Int) ⊕ (Unit)) ⊕ (Int)) :=
 (if (decide (s1 < (a0.length : Int))) = true then
 (idx a0 s1).bind fun x13 =>
 (resource_Valid_1 x13).bind fun r14 =>
 (if r14 = true then
 some (.inl (.inl s1))
 else
 some (.inr (w64 (s1 + (1 : Int)))))
 else
 some (.inl (.inr ())))
noncomputable def slices_IndexFunc (a0 : (List api_Span)) : Option (Int) :=
 (loop (slices_IndexFunc_L0 a0) (0 : Int)).bind fun x16 => match x16 with
 | (.inl p10) =>
  some p10
 | (.inr _) =>
  some (-1 : Int)
theorem slices_IndexFunc_ac (a0 : (List api_Span)) (r : Int) (h : slices_IndexFunc a0 = some r) : AC Tryd.prog 77 [(.d (.list 2 (a0.map e_api_Span))), (.func 47 [])] [] (.d (.int .i64 r)) [] := by
 refine AC.of_code2 Tryd.func77 rfl rfl (Nat.le_of_ble_eq_true (by rfl)) fun B hB hN => ?_
 delta slices_IndexFunc at h
 refine sr (c (OpJ.assign (ltN hN rfl) (Opd.int .i64 (0))) rfl cn) ?_
 refine gh [(0, _), (1, _)] [] hB rfl rfl (by rfl) ?_
 refine AWp.seq ?_
 refine sr (c (mv hN (q 0)) rfl (c (OpJ.val (v' := (i6 (a0.length : Int))) (by simp) (OpJ.lenD Tryd.underlying26 (ltN hN rfl) (q 6))) rfl (c (mv hN (Opd.int .i64 (0))) rfl cn))) ?_
 refine gh [(0, _), (1, _), (7, _), (8, _)] [] hB rfl rfl (by rfl) ?_
 refine AWp.block ?_
 obtain ⟨x16, hx17, h⟩ := bindS h
 refine lg (slices_IndexFunc_L0 a0) (fun s1 : Int => ([(0, (qe_api_Span_2 a0)), (1, (.func 47 [])), (7, (i6 (a0.length : Int))), (8, (i6 s1))] : EL)) (fun s1 : Int => ([] : OL)) (fun (x : (Int) ⊕ (Unit)) e E' O' => match x with | (.inl p10) => e = .ret ∧ Mat B E' O' ([(4, (i6 p10))] : EL) ([] : OL) | (.inr _p) => e = .exit 0 ∧ Mat B E' O' ([] : EL) ([] : OL)) hx17 (mp [] _ _ hB) (fun s1 y h => ?_) (fun e E' O' hR => ?_)
 ·unfold slices_IndexFunc_L0 at h
  refine sr (c (OpJ.lss (ltN hN rfl) (q 8) (q 7)) rfl cn) ?_
  refine gh [(0, _), (1, _), (7, _), (8, _), (9, _)] [] hB rfl rfl (by rfl) ?_
  refine AWp.seq ?_
  refine AWp.cond rfl (fun hg12 => ?_) (fun hg12 => ?_)
  ·replace h := ite_t hg12 h
   refine AWp.skip ?_
   refine seqQ_n ?_
   refine AWp.seq ?_
   refine AWp.block ?_
   refine sr (c (mv hN (q 8)) rfl (c (OpJ.assign (ltN hN rfl) (q 10)) rfl cn)) ?_
   refine gh [(0, _), (1, _), (5, _), (7, _), (8, _)] [] hB rfl rfl (by rfl) ?_
   obtain ⟨x13, hx13, h⟩ := bindS h
   obtain ⟨r14, hr14, h⟩ := bindS h
   refine sr (c (mv hN (q 1)) rfl (c (mv hN (q 0)) rfl (c (mv hN (q 5)) rfl (c (OpJ.indexD Tryd.underlying26 tyS48 (idx_some hx13).1 (get_map e_api_Span (idx_some hx13).2) (ltN hN rfl) (q 12) (q 13)) rfl (c (OpJ.loadD tyS48 (by rfl) (by rfl) (ltN hN rfl) (q 14)) rfl (cg (OpJ.callVal (args := [(.d (e_api_Span x13))]) (caps := []) hB fnOk47 [] (resource_Valid_1_ac x13 r14 hr14) (by kernel_rfl) (ltN hN rfl) (by kernel_rfl) (by kernel_rfl) (OpdL.cons (q 15) OpdL.nil)) rfl cn)))))) ?_
   refine gh [(0, _), (1, _), (5, _), (7, _), (8, _), (16, _)] [] hB rfl rfl (by rfl) ?_
   refine AWp.cond rfl (fun hg15 => ?_) (fun hg15 => ?_)
   ·replace h := ite_t hg15 h
    refine sr (c (mv hN (q 5)) rfl (c (OpJ.assign (ltN hN rfl) (q 17)) rfl cn)) ?_
    refine gh [(4, _)] [] hB rfl rfl (by rfl) ?_
    refine AWp.ret ?_
    refine blkQ_r ?_
    refine seqQ_r ?_
    obtain rfl := Option.some.inj h
    exact ⟨(fun hc => by cases hc), rfl, (mp [] _ _ hB)⟩
   ·replace h := ite_f hg15 h
    refine AWp.skip ?_
    refine blkQ_n ?_
    refine seqQ_n ?_
    refine rg (c (add6 (ltN hN rfl) (q 8) (Opd.int .i64 (1))) rfl (c (mv hN (q 18)) rfl cn)) ?_
    obtain rfl := Option.some.inj h
    exact ⟨rfl, (Mat.trans (mp [] [(0, (qe_api_Span_2 a0)), (1, (.func 47 [])), (7, (i6 (a0.length : Int))), (8, (i6 (w64 (s1 + (1 : Int)))))] [] hB) (mp [] _ _ hB))⟩
  ·replace h := ite_f hg12 h
   refine AWp.exit ?_
   refine seqQ_e ?_
   obtain rfl := Option.some.inj h
   exact ⟨(fun hc => by cases hc), rfl, (mp [] _ _ hB)⟩
 ·rcases x16 with p10 | _
  ·obtain ⟨rfl, hmat⟩ := hR
   refine blkQ_r ?_
   refine seqQ_r ?_
   obtain rfl := Option.some.inj h
   exact ⟨.inl rfl, _, _, (Mat.trans hmat (mp [] [(4, (i6 p10))] [] hB)), [(i6 p10)], (Res.tmp (by rfl) (by rfl) Res.nil), rfl, by rfl, by rfl, by rfl⟩
  ·obtain ⟨rfl, hmat⟩ := hR
   refine blkQ_hit ?_
   refine seqQ_n ?_
   refine AWp.ghost hmat ?_
   refine sr (c (OpJ.assign (ltN hN rfl) (Opd.int .i64 (-1))) rfl cn) ?_
   refine gh [(4, _)] [] hB rfl rfl (by rfl) ?_
   refine AWp.ret ?_
   obtain rfl := Option.some.inj h
   exact ⟨.inl rfl, _, _, (kp [(4, _)] [] hB rfl rfl (by rfl)), [(i6 (-1 : Int))], (Res.tmp (by rfl) (by rfl) Res.nil), rfl, by rfl, by rfl, by rfl⟩

noncomputable def slices_ContainsFunc (a0 : (List api_Span)) : Option (Bool) :=
 (slices_IndexFunc a0).bind fun r1 =>
 some (decide ((0 : Int) ≤ r1))
theorem slices_ContainsFunc_ac (a0 : (List api_Span)) (r : Bool) (h : slices_ContainsFunc a0 = some r) : AC Tryd.prog 43 [(.d (.list 2 (a0.map e_api_Span))), (.func 47 [])] [] (.d (.bool r)) [] := by
 refine AC.of_code2 Tryd.func43 rfl rfl (Nat.le_of_ble_eq_true (by rfl)) fun B hB hN => ?_
 delta slices_ContainsFunc at h
 refine sr (c (OpJ.assign (ltN hN rfl) (Opd.bool false)) rfl cn) ?_
 refine gh [(0, _), (1, _)] [] hB rfl rfl (by rfl) ?_
 obtain ⟨r1, hr1, h⟩ := bindS h
 refine sr (c (mv hN (q 0)) rfl (c (mv hN (q 1)) rfl (cg (OpJ.callFn hB fnOk77 (slices_IndexFunc_ac a0 r1 hr1) [] (by kernel_rfl) (ltN hN rfl) (by kernel_rfl) (OpdL.cons (q 5) (OpdL.cons (q 6) OpdL.nil))) rfl (c (OpJ.geq (ltN hN rfl) (q 7) (Opd.int .i64 (0))) rfl (c (OpJ.assign (ltN hN rfl) (q 8)) rfl cn))))) ?_
 refine gh [(4, _)] [] hB rfl rfl (by rfl) ?_
 refine AWp.ret ?_
 obtain rfl := Option.some.inj h
 exact ⟨.inl rfl, _, _, (kp [(4, _)] [] hB rfl rfl (by rfl)), [(bo (decide ((0 : Int) ≤ r1)))], (Res.tmp (by rfl) (by rfl) Res.nil), rfl, by rfl, by rfl, by rfl⟩

noncomputable def resource_of_L0 (a0 : api_Resources) (s1 : Int × (List api_Addr_)) : Option ((((List api_Addr_))) ⊕ (Int × (List api_Addr_))) :=
 (if (decide (s1.1 < (a0.fAddrs.length : Int))) = true then
 (idx a0.fAddrs s1.1).bind fun x10 =>
 chk (decide ((s1.2 ++ ([(api_Addr_.mk x10.fFrom x10.fTo)] : List api_Addr_)).length ≤ LIM)) <|
 some (.inr ((w64 (s1.1 + (1 : Int))), (s1.2 ++ ([(api_Addr_.mk x10.fFrom x10.fTo)] : List api_Addr_))))
 else
 some (.inl s1.2))
noncomputable def resource_of_L1 (a0 : api_Resources) (s14 : Int × (List resource_part_int_)) : Option ((((List resource_part_int_))) ⊕ (Int × (List resource_part_int_))) :=
 (if (decide (s14.1 < (a0.fASNs.length : Int))) = true then
 (idx a0.fASNs s14.1).bind fun x23 =>
 chk (decide ((s14.2 ++ ([(resource_part_int_.mk x23.fFrom x23.fTo)] : List resource_part_int_)).length ≤ LIM)) <|
 some (.inr ((w64 (s14.1 + (1 : Int))), (s14.2 ++ ([(resource_part_int_.mk x23.fFrom x23.fTo)] : List resource_part_int_))))
 else
 some (.inl s14.2))
noncomputable def resource_of (a0 : api_Resources) : Option (resource_set) :=
 (loop (resource_of_L0 a0) ((0 : Int), ([] : List api_Addr_))).bind fun p8 =>
 (loop (resource_of_L1 a0) ((0 : Int), ([] : List resource_part_int_))).bind fun p21 =>
 some (resource_set.mk p8 p21)
theorem resource_of_ac (a0 : api_Resources) (r : resource_set) (h : resource_of a0 = some r) : AC Tryd.prog 49 [(.d (e_api_Resources a0))] [] (.d (e_resource_set r)) [] := by
 refine AC.of_code2 Tryd.func49 rfl rfl (Nat.le_of_ble_eq_true (by rfl)) fun B hB hN => ?_
 have L {d : Nat} (h : Nat.blt d Tryd.f49.ntmps = true) : d < B.N := ltN hN h
 delta resource_of at h
 refine sr (cg (OpJ.box hB (nm := 1001) (by decide) (by simp) rfl (L rfl) (q 0)) rfl (cg (OpJ.alloc hB tyZ85 (nm := 1002) (by decide) (L rfl)) rfl cn)) ?_
 refine gh [(1, _), (2, _)] [(1001, some _), (1002, some _)] hB rfl rfl (by rfl) ?_
 refine sr (cg (OpJ.alloc hB tyZ85 (nm := 1003) (by decide) (L rfl)) rfl cn) ?_
 refine gh [(1, _), (2, _), (3, _)] [(1001, some _), (1002, some _), (1003, some _)] hB rfl rfl (by rfl) ?_
 refine AWp.seq ?_
 refine sr (c (ov (.ptr 1001 0 [0]) (fp hN Tryd.underlying28 0 tyS25 _ (q 1))) rfl (c (lb hN 28 _ _ tyS25 (ad _) (q 8)) rfl (c (OpJ.val (v' := (i6 (a0.fAddrs.length : Int))) (by simp) (OpJ.lenD Tryd.underlying25 (L rfl) (q 9))) rfl (c (mv hN (Opd.int .i64 (0))) rfl cn)))) ?_
 refine gh [(1, _), (2, _), (3, _), (9, _), (10, _), (11, _)] [(1001, some _), (1002, some _), (1003, some _)] hB rfl rfl (by rfl) ?_
 refine AWp.block ?_
 obtain ⟨p8, hx13, h⟩ := bindS h
 refine lg (resource_of_L0 a0) (fun s1 : Int × (List api_Addr_) => ([(1, (.ptr 1001 0 [])), (2, (.ptr 1002 0 [])), (3, (.ptr 1003 0 [])), (9, (qe_api_Range_6 a0.fAddrs)), (10, (i6 (a0.fAddrs.length : Int))), (11, (i6 s1.1))] : EL)) (fun s1 : Int × (List api_Addr_) => ([(1001, some (.box 28 (.d (e_api_Resources a0)))), (1002, some (.box 85 (.st [.nils, .nils]))), (1003, some (.box 85 (.st [(.sref 13030 6 0 s1.2.length), .nils]))), (13030, some (we_api_Addr__120_6 s1.2))] : OL)) (fun (p8 : ((List api_Addr_))) e E' O' => e = .exit 0 ∧ Mat B E' O' ([(1, (.ptr 1001 0 [])), (2, (.ptr 1002 0 [])), (3, (.ptr 1003 0 []))] : EL) ([(1001, some (.box 28 (.d (e_api_Resources a0)))), (1002, some (.box 85 (.st [.nils, .nils]))), (1003, some (.box 85 (.st [(.sref 13030 6 0 p8.length), .nils]))), (13030, some (we_api_Addr__120_6 p8))] : OL)) hx13 (Mat.trans (Mat.beginP (n := 13030) (e := 120) (sz := 6) (Ts := []) (Bs := [(1003, some (.box 85 (.st [(.sref 13030 6 0 0), .nils])))]) hB (by decide) (by rfl) (by decide) TwT.nil (TwB.cons (x := (.st [.nils, .nils])) (by rfl) (Tw.st (TwL.cons (Tw.leaf ⟨rfl, rfl⟩) (TwL.cons (Tw.same _) TwL.nil))) TwB.nil)) (mp [] _ _ hB)) (fun s1 y h => ?_) (fun e E' O' hR => ?_)
 ·unfold resource_of_L0 at h
  refine sr (c (OpJ.lss (L rfl) (q 11) (q 10)) rfl cn) ?_
  refine gh [(1, _), (2, _), (3, _), (9, _), (10, _), (11, _), (12, _)] [(1001, some _), (1002, some _), (1003, some _), (13030, some _)] hB rfl rfl (by rfl) ?_
  refine AWp.seq ?_
  refine AWp.cond rfl (fun hg9 => ?_) (fun hg9 => ?_)
  ·replace h := ite_t hg9 h
   refine AWp.skip ?_
   refine seqQ_n ?_
   refine AWp.seq ?_
   refine AWp.block ?_
   obtain ⟨x10, hx10, h⟩ := bindS h
   refine sr (c (OpJ.indexD Tryd.underlying25 tyS68 (idx_some hx10).1 (get_map e_api_Range (idx_some hx10).2) (L rfl) (q 9) (q 11)) rfl (c (OpJ.loadD tyS68 (by rfl) (by rfl) (L rfl) (q 13)) rfl (cg (OpJ.alloc hB tyZ68 (nm := 1005) (by decide) (L rfl)) rfl (cg (OpJ.storeB tyS68 (SetAt.here _ _) (by rfl) (by rfl) (by simp) rfl (q 5) (q 14)) rfl cn)))) ?_
   refine gh [(1, _), (2, _), (3, _), (5, _), (9, _), (10, _), (11, _)] [(1001, some _), (1002, some _), (1003, some _), (1005, some _), (13030, some _)] hB rfl rfl (by rfl) ?_
   obtain ⟨hc11, h⟩ := chk_some h
   refine rg (c (ov (.ptr 1003 0 [0]) (fp hN Tryd.underlying85 0 tyS82 _ (q 3))) rfl (c (lb hN 85 _ (.sref 13030 6 0 s1.2.length) tyS82 (At.st1 (f := (.sref 13030 6 0 s1.2.length)) (by rfl) (by rfl) (At.here _) (by first | rfl | omega)) (q 15)) rfl (c (ov (.ptr 1005 0 [0]) (fp hN Tryd.underlying68 0 tyS32 _ (q 5))) rfl (c (lb hN 68 _ _ tyS32 (ad _) (q 17)) rfl (c (ov (.ptr 1005 3 [1]) (fp hN Tryd.underlying68 3 tyS32 _ (q 5))) rfl (c (lb hN 68 _ _ tyS32 (ad _) (q 19)) rfl (c (OpJ.coe (v := (.st [(.d (e_api_Addr x10.fFrom)), (.d (e_api_Addr x10.fTo))])) (y := (.st [(e_api_Addr x10.fFrom), (e_api_Addr x10.fTo)])) (Co.st (CoL.cons (Co.d _) (CoL.cons (Co.d _) CoL.nil))) rfl (OpJ.build (places := [(0, 3), (3, 3)]) ⟨Tryd.underlying120, fun w => by kernel_rfl⟩ tyZS120 (Opds.cons (q 18) (Opds.cons (q 20) Opds.nil)) (by kernel_rfl) (r := (.st [(.d (e_api_Addr x10.fFrom)), (.d (e_api_Addr x10.fTo))])) (by rfl) (L rfl))) rfl (c (OpJ.buildSlice Tryd.underlying82 tyS120 tyZD120 (by rfl) (by decide) (by decide) (Opds.cons (q 21) Opds.nil) (by kernel_rfl) (es := ([(.st [(e_api_Addr x10.fFrom), (e_api_Addr x10.fTo)])] : List D)) (by rfl) (by rfl) (by kernel_rfl) (by simp) (L rfl)) rfl (cg (OpJ.append hB Tryd.underlying82 tyE120 (nm := 1023) (by decide) (es := s1.2.map e_api_Addr_) (ys := ([(api_Addr_.mk x10.fFrom x10.fTo)] : List api_Addr_).map e_api_Addr_) (es' := (s1.2 ++ ([(api_Addr_.mk x10.fFrom x10.fTo)] : List api_Addr_)).map e_api_Addr_) (len := (s1.2 ++ ([(api_Addr_.mk x10.fFrom x10.fTo)] : List api_Addr_)).length) (by simp) (by simp) (map_sz (f := e_api_Addr_) (fun _ => rfl)) (by rw [List.length_map]; exact lim_mulN hc11 (by decide)) (by rw [List.length_map]; exact lim_leN hc11) (L rfl) (by simp) (q 16) (q 22)) rfl (c (ov (.ptr 1003 0 [0]) (fp hN Tryd.underlying85 0 tyS82 _ (q 3))) rfl (cg (OpJ.storeB (c' := (.st [(.sref 1023 6 0 ((s1.2 ++ ([(api_Addr_.mk x10.fFrom x10.fTo)] : List api_Addr_)).length)), .nils])) tyS82 (SetAt.st1 (f := (.sref 13030 6 0 s1.2.length)) (by rfl) (by rfl) (SetAt.here _ _) (by rfl) (by rfl) (by first | rfl | omega)) (by rfl) (by rfl) (by simp) rfl (q 24) (q 23)) rfl cn))))))))))) ?_
   refine blkQ_n ?_
   refine seqQ_n ?_
   refine gh [(1, _), (2, _), (3, _), (9, _), (10, _), (11, _)] [(1001, some _), (1002, some _), (1003, some _), (1023, some _)] hB rfl rfl (by rfl) ?_
   refine rg (c (add6 (L rfl) (q 11) (Opd.int .i64 (1))) rfl (c (mv hN (q 25)) rfl cn)) ?_
   obtain rfl := Option.some.inj h
   exact ⟨rfl, (Mat.trans (mp [] [(1, (.ptr 1001 0 [])), (2, (.ptr 1002 0 [])), (3, (.ptr 1003 0 [])), (9, (qe_api_Range_6 a0.fAddrs)), (10, (i6 (a0.fAddrs.length : Int))), (11, (i6 (w64 (s1.1 + (1 : Int)))))] [(1001, some (.box 28 (.d (e_api_Resources a0)))), (1002, some (.box 85 (.st [.nils, .nils]))), (1003, some (.box 85 (.st [(.sref 1023 6 0 ((s1.2 ++ ([(api_Addr_.mk x10.fFrom x10.fTo)] : List api_Addr_)).length)), .nils]))), (1023, some (we_api_Addr__120_6 (s1.2 ++ ([(api_Addr_.mk x10.fFrom x10.fTo)] : List api_Addr_))))] hB) (mp [(13030, 1023)] _ _ hB))⟩
  ·replace h := ite_f hg9 h
   refine AWp.exit ?_
   refine seqQ_e ?_
   obtain rfl := Option.some.inj h
   exact ⟨(fun hc => by cases hc), rfl, (mp [] _ _ hB)⟩
 ·obtain ⟨rfl, hmat⟩ := hR
  refine blkQ_hit ?_
  refine seqQ_n ?_
  refine AWp.ghost hmat ?_
  refine AWp.seq ?_
  refine sr (c (ov (.ptr 1001 1 [1]) (fp hN Tryd.underlying28 1 tyS26 _ (q 1))) rfl (c (lb hN 28 _ _ tyS26 (ad _) (q 26)) rfl (c (OpJ.val (v' := (i6 (a0.fASNs.length : Int))) (by simp) (OpJ.lenD Tryd.underlying26 (L rfl) (q 27))) rfl (c (mv hN (Opd.int .i64 (0))) rfl cn)))) ?_
  refine gh [(2, _), (3, _), (27, _), (28, _), (29, _)] [(1002, some _), (1003, some _), (13030, some _)] hB rfl rfl (by rfl) ?_
  refine AWp.block ?_
  obtain ⟨p21, hx26, h⟩ := bindS h
  refine lg (resource_of_L1 a0) (fun s14 : Int × (List resource_part_int_) => ([(2, (.ptr 1002 0 [])), (3, (.ptr 1003 0 [])), (27, (qe_api_Span_2 a0.fASNs)), (28, (i6 (a0.fASNs.length : Int))), (29, (i6 s14.1))] : EL)) (fun s14 : Int × (List resource_part_int_) => ([(1002, some (.box 85 (.st [.nils, .nils]))), (1003, some (.box 85 (.st [(.sref 13030 6 0 p8.length), (.sref 13031 2 0 s14.2.length)]))), (13030, some (we_api_Addr__120_6 p8)), (13031, some (.row 122 2 (s14.2.map e_resource_part_int_)))] : OL)) (fun (p21 : ((List resource_part_int_))) e E' O' => e = .exit 2 ∧ Mat B E' O' ([(2, (.ptr 1002 0 [])), (3, (.ptr 1003 0 []))] : EL) ([(1002, some (.box 85 (.st [.nils, .nils]))), (1003, some (.box 85 (.st [(.sref 13030 6 0 p8.length), (.sref 13031 2 0 p21.length)]))), (13030, some (we_api_Addr__120_6 p8)), (13031, some (.row 122 2 (p21.map e_resource_part_int_)))] : OL)) hx26 (Mat.trans (Mat.beginP (n := 13031) (e := 122) (sz := 2) (Ts := []) (Bs := [(1003, some (.box 85 (.st [(.sref 13030 6 0 p8.length), (.sref 13031 2 0 0)])))]) hB (by decide) (by rfl) (by decide) TwT.nil (TwB.cons (x := (.st [(.sref 13030 6 0 p8.length), .nils])) (by rfl) (Tw.st (TwL.cons (Tw.same _) (TwL.cons (Tw.leaf ⟨rfl, rfl⟩) TwL.nil))) TwB.nil)) (mp [] _ _ hB)) (fun s14 y h => ?_) (fun e E' O' hR => ?_)
  ·unfold resource_of_L1 at h
   refine sr (c (OpJ.lss (L rfl) (q 29) (q 28)) rfl cn) ?_
   refine gh [(2, _), (3, _), (27, _), (28, _), (29, _), (30, _)] [(1002, some _), (1003, some _), (13030, some _), (13031, some _)] hB rfl rfl (by rfl) ?_
   refine AWp.seq ?_
   refine AWp.cond rfl (fun hg22 => ?_) (fun hg22 => ?_)
   ·replace h := ite_t hg22 h
    refine AWp.skip ?_
    refine seqQ_n ?_
    refine AWp.seq ?_
    refine AWp.block ?_
    obtain ⟨x23, hx23, h⟩ := bindS h
    refine sr (c (OpJ.indexD Tryd.underlying26 tyS48 (idx_some hx23).1 (get_map e_api_Span (idx_some hx23).2) (L rfl) (q 27) (q 29)) rfl (c (OpJ.loadD tyS48 (by rfl) (by rfl) (L rfl) (q 31)) rfl (cg (OpJ.alloc hB tyZ48 (nm := 1007) (by decide) (L rfl)) rfl (cg (OpJ.storeB tyS48 (SetAt.here _ _) (by rfl) (by rfl) (by simp) rfl (q 7) (q 32)) rfl cn)))) ?_
    refine gh [(2, _), (3, _), (7, _), (27, _), (28, _), (29, _)] [(1002, some _), (1003, some _), (1007, some _), (13030, some _), (13031, some _)] hB rfl rfl (by rfl) ?_
    obtain ⟨hc24, h⟩ := chk_some h
    refine rg (c (ov (.ptr 1003 1 [1]) (fp hN Tryd.underlying85 1 tyS83 _ (q 3))) rfl (c (lb hN 85 _ (.sref 13031 2 0 s14.2.length) tyS83 (At.st1 (f := (.sref 13031 2 0 s14.2.length)) (by rfl) (by rfl) (At.here _) (by first | rfl | omega)) (q 33)) rfl (c (ov (.ptr 1007 0 [0]) (fp hN Tryd.underlying48 0 tyS3 _ (q 7))) rfl (c (lb hN 48 _ _ tyS3 (ad _) (q 35)) rfl (c (ov (.ptr 1007 1 [1]) (fp hN Tryd.underlying48 1 tyS3 _ (q 7))) rfl (c (lb hN 48 _ _ tyS3 (ad _) (q 37)) rfl (c (OpJ.coe (v := (.st [(i6 x23.fFrom), (i6 x23.fTo)])) (y := (.st [(.int .i64 x23.fFrom), (.int .i64 x23.fTo)])) (Co.st (CoL.cons (Co.d _) (CoL.cons (Co.d _) CoL.nil))) rfl (OpJ.build (places := [(0, 1), (1, 1)]) ⟨Tryd.underlying122, fun w => by kernel_rfl⟩ tyZS122 (Opds.cons (q 36) (Opds.cons (q 38) Opds.nil)) (by kernel_rfl) (r := (.st [(i6 x23.fFrom), (i6 x23.fTo)])) (by rfl) (L rfl))) rfl (c (OpJ.buildSlice Tryd.underlying83 tyS122 tyZD122 (by rfl) (by decide) (by decide) (Opds.cons (q 39) Opds.nil) (by kernel_rfl) (es := ([(.st [(.int .i64 x23.fFrom), (.int .i64 x23.fTo)])] : List D)) (by rfl) (by rfl) (by kernel_rfl) (by simp) (L rfl)) rfl (cg (OpJ.append hB Tryd.underlying83 tyE122 (nm := 1041) (by decide) (es := s14.2.map e_resource_part_int_) (ys := ([(resource_part_int_.mk x23.fFrom x23.fTo)] : List resource_part_int_).map e_resource_part_int_) (es' := (s14.2 ++ ([(resource_part_int_.mk x23.fFrom x23.fTo)] : List resource_part_int_)).map e_resource_part_int_) (len := (s14.2 ++ ([(resource_part_int_.mk x23.fFrom x23.fTo)] : List resource_part_int_)).length) (by simp) (by simp) (map_sz (f := e_resource_part_int_) (fun _ => rfl)) (by rw [List.length_map]; exact lim_mulN hc24 (by decide)) (by rw [List.length_map]; exact lim_leN hc24) (L rfl) (by simp) (q 34) (q 40)) rfl (c (ov (.ptr 1003 1 [1]) (fp hN Tryd.underlying85 1 tyS83 _ (q 3))) rfl (cg (OpJ.storeB (c' := (.st [(.sref 13030 6 0 p8.length), (.sref 1041 2 0 ((s14.2 ++ ([(resource_part_int_.mk x23.fFrom x23.fTo)] : List resource_part_int_)).length))])) tyS83 (SetAt.st1 (f := (.sref 13031 2 0 s14.2.length)) (by rfl) (by rfl) (SetAt.here _ _) (by rfl) (by rfl) (by first | rfl | omega)) (by rfl) (by rfl) (by simp) rfl (q 42) (q 41)) rfl cn))))))))))) ?_
    refine blkQ_n ?_
    refine seqQ_n ?_
    refine gh [(2, _), (3, _), (27, _), (28, _), (29, _)] [(1002, some _), (1003, some _), (1041, some _), (13030, some _)] hB rfl rfl (by rfl) ?_
    refine rg (c (add6 (L rfl) (q 29) (Opd.int .i64 (1))) rfl (c (mv hN (q 43)) rfl cn)) ?_
    obtain rfl := Option.some.inj h
    exact ⟨rfl, (Mat.trans (mp [] [(2, (.ptr 1002 0 [])), (3, (.ptr 1003 0 [])), (27, (qe_api_Span_2 a0.fASNs)), (28, (i6 (a0.fASNs.length : Int))), (29, (i6 (w64 (s14.1 + (1 : Int)))))] [(1002, some (.box 85 (.st [.nils, .nils]))), (1003, some (.box 85 (.st [(.sref 13030 6 0 p8.length), (.sref 1041 2 0 ((s14.2 ++ ([(resource_part_int_.mk x23.fFrom x23.fTo)] : List resource_part_int_)).length))]))), (1041, some (.row 122 2 ((s14.2 ++ ([(resource_part_int_.mk x23.fFrom x23.fTo)] : List resource_part_int_)).map e_resource_part_int_))), (13030, some (we_api_Addr__120_6 p8))] hB) (mp [(13031, 1041)] _ _ hB))⟩
   ·replace h := ite_f hg22 h
    refine AWp.exit ?_
    refine seqQ_e ?_
    obtain rfl := Option.some.inj h
    exact ⟨(fun hc => by cases hc), rfl, (mp [] _ _ hB)⟩
  ·obtain ⟨rfl, hmat⟩ := hR
   refine blkQ_hit ?_
   refine seqQ_n ?_
   refine AWp.ghost hmat ?_
   refine sr (c (lb hN 85 _ _ tyS85 (At.here _) (q 3)) rfl (cg (OpJ.storeB tyS85 (SetAt.here _ _) (by rfl) (by rfl) (by simp) rfl (q 2) (q 44)) rfl cn)) ?_
   refine gh [(2, _)] [(1002, some _), (13030, some _), (13031, some _)] hB rfl rfl (by rfl) ?_
   refine AWp.ret ?_
   obtain rfl := Option.some.inj h
   exact ⟨.inl rfl, _, _, (Mat.trans (Mat.freezeP (n := 13030) (e := 120) (sz := 6) (es := p8.map e_api_Addr_) (Ts := []) (Bs := [(1002, some (.box 85 (.st [(qe_api_Addr__6 p8), (.sref 13031 2 0 p21.length)])))]) (by rfl) TwT.nil (TwB.cons (x := (.st [(.sref 13030 6 0 p8.length), (.sref 13031 2 0 p21.length)])) (by rfl) (Tw.st (TwL.cons (FrzL.all (by first | rfl | (simp; done) | (simp; omega) | omega)) (TwL.cons (Tw.same _) TwL.nil))) TwB.nil)) (Mat.trans (Mat.freezeP (n := 13031) (e := 122) (sz := 2) (es := p21.map e_resource_part_int_) (Ts := []) (Bs := [(1002, some (.box 85 (.st [(qe_api_Addr__6 p8), (.d (.list 2 (p21.map e_resource_part_int_)))])))]) (by rfl) TwT.nil (TwB.cons (x := (.st [(qe_api_Addr__6 p8), (.sref 13031 2 0 p21.length)])) (by rfl) (Tw.st (TwL.cons (Tw.same _) (TwL.cons (FrzL.all (by first | rfl | (simp; done) | (simp; omega) | omega)) TwL.nil))) TwB.nil)) (Mat.trans (Mat.coeP (Ts := []) (Bs := [(1002, some (.box 85 (.d (.st [(.list 6 (p8.map e_api_Addr_)), (.list 2 (p21.map e_resource_part_int_))]))))]) TwT.nil (TwB.cons (x := (.st [(qe_api_Addr__6 p8), (.d (.list 2 (p21.map e_resource_part_int_)))])) (by rfl) (Tw.leaf ⟨_, (Co.st (CoL.cons (Co.d _) (CoL.cons (Co.d _) CoL.nil))), rfl⟩) TwB.nil)) (mp [] [(2, (.ptr 1002 0 []))] [(1002, some (.box 85 (.d (.st [(.list 6 (p8.map e_api_Addr_)), (.list 2 (p21.map e_resource_part_int_))]))))] hB)))), [(.d (.st [(.list 6 (p8.map e_api_Addr_)), (.list 2 (p21.map e_resource_part_int_))]))], (Res.cell (c := (.d (.st [(.list 6 (p8.map e_api_Addr_)), (.list 2 (p21.map e_resource_part_int_))]))) (by rfl) (by rfl) tyS85 (by rfl) (by rfl) (by rfl) Res.nil), rfl, by rfl, by rfl, by rfl⟩

noncomputable def addr_family (a0 : api_Addr) : Option (Int) :=
 (if a0.fV6 = true then
 some (1 : Int)
 else
 some (0 : Int))
theorem addr_family_ac (a0 : api_Addr) (r : Int) (h : addr_family a0 = some r) : AC Tryd.prog 71 [(.d (e_api_Addr a0))] [] (.d (.int .i64 r)) [] := by
 refine AC.of_code2 Tryd.func71 rfl rfl (Nat.le_of_ble_eq_true (by rfl)) fun B hB hN => ?_
 delta addr_family at h
 refine sr (cg (OpJ.box hB (nm := 1001) (by decide) (by simp) rfl (ltN hN rfl) (q 0)) rfl (c (OpJ.assign (ltN hN rfl) (Opd.int .i64 (0))) rfl cn)) ?_
 refine gh [(1, _)] [(1001, some _)] hB rfl rfl (by rfl) ?_
 refine AWp.seq ?_
 refine sr (c (ov (.ptr 1001 0 [0]) (fp hN Tryd.underlying32 0 tyS4 _ (q 1))) rfl (c (lb hN 32 _ _ tyS4 (ad _) (q 3)) rfl cn)) ?_
 refine gh [(4, _)] [] hB rfl rfl (by rfl) ?_
 refine AWp.cond rfl (fun hg1 => ?_) (fun hg1 => ?_)
 ·replace h := ite_t hg1 h
  refine sr (c (OpJ.assign (ltN hN rfl) (Opd.int .i64 (1))) rfl cn) ?_
  refine gh [(2, _)] [] hB rfl rfl (by rfl) ?_
  refine AWp.ret ?_
  refine seqQ_r ?_
  obtain rfl := Option.some.inj h
  exact ⟨.inl rfl, _, _, (kp [(2, _)] [] hB rfl rfl (by rfl)), [(i6 1)], (Res.tmp (by rfl) (by rfl) Res.nil), rfl, by rfl, by rfl, by rfl⟩
 ·replace h := ite_f hg1 h
  refine AWp.skip ?_
  refine seqQ_n ?_
  refine sr (c (OpJ.assign (ltN hN rfl) (Opd.int .i64 (0))) rfl cn) ?_
  refine gh [(2, _)] [] hB rfl rfl (by rfl) ?_
  refine AWp.ret ?_
  obtain rfl := Option.some.inj h
  exact ⟨.inl rfl, _, _, (kp [(2, _)] [] hB rfl rfl (by rfl)), [(i6 0)], (Res.tmp (by rfl) (by rfl) Res.nil), rfl, by rfl, by rfl, by rfl⟩

noncomputable def cmp_isNaN (a0 : Int) : Option (Bool) :=
 some (a0 != a0)
theorem cmp_isNaN_ac (a0 : Int) (r : Bool) (h : cmp_isNaN a0 = some r) : AC Tryd.prog 87 [(.d (.int .i64 a0))] [] (.d (.bool r)) [] := by
 refine AC.of_code2 Tryd.func87 rfl rfl (Nat.le_of_ble_eq_true (by rfl)) fun B hB hN => ?_
 delta cmp_isNaN at h
 refine sr (c (OpJ.assign (ltN hN rfl) (Opd.bool false)) rfl cn) ?_
 refine gh [(0, _)] [] hB rfl rfl (by rfl) ?_
 refine sr (c (mv hN (q 0)) rfl (c (mv hN (q 0)) rfl (c (OpJ.neqI (ltN hN rfl) (q 3) (q 4)) rfl (c (OpJ.assign (ltN hN rfl) (q 5)) rfl cn)))) ?_
 refine gh [(2, _)] [] hB rfl rfl (by rfl) ?_
 refine AWp.ret ?_
 obtain rfl := Option.some.inj h
 exact ⟨.inl rfl, _, _, (kp [(2, _)] [] hB rfl rfl (by rfl)), [(bo (a0 != a0))], (Res.tmp (by rfl) (by rfl) Res.nil), rfl, by rfl, by rfl, by rfl⟩

noncomputable def cmp_Compare (a0 : Int) (a1 : Int) : Option (Int) :=
 (cmp_isNaN a0).bind fun r1 =>
 (cmp_isNaN a1).bind fun r2 =>
 (if r1 = true then
 (if r2 = true then
 some (0 : Int)
 else
 some (-1 : Int))
 else
 (if r2 = true then
 some (1 : Int)
 else
 (if (decide (a0 < a1)) = true then
 some (-1 : Int)
 else
 (if (decide (a1 < a0)) = true then
 some (1 : Int)
 else
 some (0 : Int)))))
theorem cmp_Compare_ac (a0 : Int) (a1 : Int) (r : Int) (h : cmp_Compare a0 a1 = some r) : AC Tryd.prog 70 [(.d (.int .i64 a0)), (.d (.int .i64 a1))] [] (.d (.int .i64 r)) [] := by
 refine AC.of_code2 Tryd.func70 rfl rfl (Nat.le_of_ble_eq_true (by rfl)) fun B hB hN => ?_
 have L {d : Nat} (h : Nat.blt d Tryd.f70.ntmps = true) : d < B.N := ltN hN h
 delta cmp_Compare at h
 refine sr (c (OpJ.assign (L rfl) (Opd.int .i64 (0))) rfl cn) ?_
 refine gh [(0, _), (1, _)] [] hB rfl rfl (by rfl) ?_
 obtain ⟨r1, hr1, h⟩ := bindS h
 refine sr (c (mv hN (q 0)) rfl (cg (cf hB fnOk87 (cmp_isNaN_ac a0 r1 hr1) (L rfl) (OpdL.cons (q 7) OpdL.nil)) rfl (c (OpJ.assign (L rfl) (q 8)) rfl cn))) ?_
 refine gh [(0, _), (1, _), (5, _)] [] hB rfl rfl (by rfl) ?_
 obtain ⟨r2, hr2, h⟩ := bindS h
 refine sr (c (mv hN (q 1)) rfl (cg (cf hB fnOk87 (cmp_isNaN_ac a1 r2 hr2) (L rfl) (OpdL.cons (q 9) OpdL.nil)) rfl (c (OpJ.assign (L rfl) (q 10)) rfl cn))) ?_
 refine gh [(0, _), (1, _), (5, _), (6, _)] [] hB rfl rfl (by rfl) ?_
 refine AWp.seq ?_
 refine sr (c (mv hN (q 5)) rfl cn) ?_
 refine gh [(0, _), (1, _), (6, _), (11, _)] [] hB rfl rfl (by rfl) ?_
 refine AWp.cond rfl (fun hg3 => ?_) (fun hg3 => ?_)
 ·replace h := ite_t hg3 h
  refine AWp.seq ?_
  refine sr (c (mv hN (q 6)) rfl cn) ?_
  refine gh [(12, _)] [] hB rfl rfl (by rfl) ?_
  refine AWp.cond rfl (fun hg4 => ?_) (fun hg4 => ?_)
  ·replace h := ite_t hg4 h
   refine sr (c (OpJ.assign (L rfl) (Opd.int .i64 (0))) rfl cn) ?_
   refine gh [(4, _)] [] hB rfl rfl (by rfl) ?_
   refine AWp.ret ?_
   refine seqQ_r ?_
   refine seqQ_r ?_
   obtain rfl := Option.some.inj h
   exact ⟨.inl rfl, _, _, (kp [(4, _)] [] hB rfl rfl (by rfl)), [(i6 0)], (Res.tmp (by rfl) (by rfl) Res.nil), rfl, by rfl, by rfl, by rfl⟩
  ·replace h := ite_f hg4 h
   refine AWp.skip ?_
   refine seqQ_n ?_
   refine sr (c (OpJ.assign (L rfl) (Opd.int .i64 (-1))) rfl cn) ?_
   refine gh [(4, _)] [] hB rfl rfl (by rfl) ?_
   refine AWp.ret ?_
   refine seqQ_r ?_
   obtain rfl := Option.some.inj h
   exact ⟨.inl rfl, _, _, (kp [(4, _)] [] hB rfl rfl (by rfl)), [(i6 (-1 : Int))], (Res.tmp (by rfl) (by rfl) Res.nil), rfl, by rfl, by rfl, by rfl⟩
 ·replace h := ite_f hg3 h
  refine AWp.skip ?_
  refine seqQ_n ?_
  refine AWp.seq ?_
  refine sr (c (mv hN (q 6)) rfl cn) ?_
  refine gh [(0, _), (1, _), (13, _)] [] hB rfl rfl (by rfl) ?_
  refine AWp.cond rfl (fun hg5 => ?_) (fun hg5 => ?_)
  ·replace h := ite_t hg5 h
   refine sr (c (OpJ.assign (L rfl) (Opd.int .i64 (1))) rfl cn) ?_
   refine gh [(4, _)] [] hB rfl rfl (by rfl) ?_
   refine AWp.ret ?_
   refine seqQ_r ?_
   obtain rfl := Option.some.inj h
   exact ⟨.inl rfl, _, _, (kp [(4, _)] [] hB rfl rfl (by rfl)), [(i6 1)], (Res.tmp (by rfl) (by rfl) Res.nil), rfl, by rfl, by rfl, by rfl⟩
  ·replace h := ite_f hg5 h
   refine AWp.skip ?_
   refine seqQ_n ?_
   refine AWp.seq ?_
   refine sr (c (mv hN (q 0)) rfl (c (mv hN (q 1)) rfl (c (OpJ.lss (L rfl) (q 14) (q 15)) rfl cn))) ?_
   refine gh [(0, _), (1, _), (16, _)] [] hB rfl rfl (by rfl) ?_
   refine AWp.cond rfl (fun hg6 => ?_) (fun hg6 => ?_)
   ·replace h := ite_t hg6 h
    refine sr (c (OpJ.assign (L rfl) (Opd.int .i64 (-1))) rfl cn) ?_
    refine gh [(4, _)] [] hB rfl rfl (by rfl) ?_
    refine AWp.ret ?_
    refine seqQ_r ?_
    obtain rfl := Option.some.inj h
    exact ⟨.inl rfl, _, _, (kp [(4, _)] [] hB rfl rfl (by rfl)), [(i6 (-1 : Int))], (Res.tmp (by rfl) (by rfl) Res.nil), rfl, by rfl, by rfl, by rfl⟩
   ·replace h := ite_f hg6 h
    refine AWp.skip ?_
    refine seqQ_n ?_
    refine AWp.seq ?_
    refine sr (c (mv hN (q 0)) rfl (c (mv hN (q 1)) rfl (c (OpJ.gtr (L rfl) (q 17) (q 18)) rfl cn))) ?_
    refine gh [(19, _)] [] hB rfl rfl (by rfl) ?_
    refine AWp.cond rfl (fun hg7 => ?_) (fun hg7 => ?_)
    ·replace h := ite_t hg7 h
     refine sr (c (OpJ.assign (L rfl) (Opd.int .i64 (1))) rfl cn) ?_
     refine gh [(4, _)] [] hB rfl rfl (by rfl) ?_
     refine AWp.ret ?_
     refine seqQ_r ?_
     obtain rfl := Option.some.inj h
     exact ⟨.inl rfl, _, _, (kp [(4, _)] [] hB rfl rfl (by rfl)), [(i6 1)], (Res.tmp (by rfl) (by rfl) Res.nil), rfl, by rfl, by rfl, by rfl⟩
    ·replace h := ite_f hg7 h
     refine AWp.skip ?_
     refine seqQ_n ?_
     refine sr (c (OpJ.assign (L rfl) (Opd.int .i64 (0))) rfl cn) ?_
     refine gh [(4, _)] [] hB rfl rfl (by rfl) ?_
     refine AWp.ret ?_
     obtain rfl := Option.some.inj h
     exact ⟨.inl rfl, _, _, (kp [(4, _)] [] hB rfl rfl (by rfl)), [(i6 0)], (Res.tmp (by rfl) (by rfl) Res.nil), rfl, by rfl, by rfl, by rfl⟩

noncomputable def cmp_isNaN_2 (a0 : Int) : Option (Bool) :=
 some (a0 != a0)
theorem cmp_isNaN_2_ac (a0 : Int) (r : Bool) (h : cmp_isNaN_2 a0 = some r) : AC Tryd.prog 88 [(.d (.int .u64 a0))] [] (.d (.bool r)) [] := by
 refine AC.of_code2 Tryd.func88 rfl rfl (Nat.le_of_ble_eq_true (by rfl)) fun B hB hN => ?_
 delta cmp_isNaN_2 at h
 refine sr (c (OpJ.assign (ltN hN rfl) (Opd.bool false)) rfl cn) ?_
 refine gh [(0, _)] [] hB rfl rfl (by rfl) ?_
 refine sr (c (mv hN (q 0)) rfl (c (mv hN (q 0)) rfl (c (OpJ.neqI (ltN hN rfl) (q 3) (q 4)) rfl (c (OpJ.assign (ltN hN rfl) (q 5)) rfl cn)))) ?_
 refine gh [(2, _)] [] hB rfl rfl (by rfl) ?_
 refine AWp.ret ?_
 obtain rfl := Option.some.inj h
 exact ⟨.inl rfl, _, _, (kp [(2, _)] [] hB rfl rfl (by rfl)), [(bo (a0 != a0))], (Res.tmp (by rfl) (by rfl) Res.nil), rfl, by rfl, by rfl, by rfl⟩

noncomputable def cmp_Compare_2 (a0 : Int) (a1 : Int) : Option (Int) :=
 (cmp_isNaN_2 a0).bind fun r1 =>
 (cmp_isNaN_2 a1).bind fun r2 =>
 (if r1 = true then
 (if r2 = true then
 some (0 : Int)
 else
 some (-1 : Int))
 else
 (if r2 = true then
 some (1 : Int)
 else
 (if (decide (a0 < a1)) = true then
 some (-1 : Int)
 else
 (if (decide (a1 < a0)) = true then
 some (1 : Int)
 else
 some (0 : Int)))))
theorem cmp_Compare_2_ac (a0 : Int) (a1 : Int) (r : Int) (h : cmp_Compare_2 a0 a1 = some r) : AC Tryd.prog 72 [(.d (.int .u64 a0)), (.d (.int .u64 a1))] [] (.d (.int .i64 r)) [] := by
 refine AC.of_code2 Tryd.func72 rfl rfl (Nat.le_of_ble_eq_true (by rfl)) fun B hB hN => ?_
 have L {d : Nat} (h : Nat.blt d Tryd.f72.ntmps = true) : d < B.N := ltN hN h
 delta cmp_Compare_2 at h
 refine sr (c (OpJ.assign (L rfl) (Opd.int .i64 (0))) rfl cn) ?_
 refine gh [(0, _), (1, _)] [] hB rfl rfl (by rfl) ?_
 obtain ⟨r1, hr1, h⟩ := bindS h
 refine sr (c (mv hN (q 0)) rfl (cg (cf hB fnOk88 (cmp_isNaN_2_ac a0 r1 hr1) (L rfl) (OpdL.cons (q 7) OpdL.nil)) rfl (c (OpJ.assign (L rfl) (q 8)) rfl cn))) ?_
 refine gh [(0, _), (1, _), (5, _)] [] hB rfl rfl (by rfl) ?_
 obtain ⟨r2, hr2, h⟩ := bindS h
 refine sr (c (mv hN (q 1)) rfl (cg (cf hB fnOk88 (cmp_isNaN_2_ac a1 r2 hr2) (L rfl) (OpdL.cons (q 9) OpdL.nil)) rfl (c (OpJ.assign (L rfl) (q 10)) rfl cn))) ?_
 refine gh [(0, _), (1, _), (5, _), (6, _)] [] hB rfl rfl (by rfl) ?_
 refine AWp.seq ?_
 refine sr (c (mv hN (q 5)) rfl cn) ?_
 refine gh [(0, _), (1, _), (6, _), (11, _)] [] hB rfl rfl (by rfl) ?_
 refine AWp.cond rfl (fun hg3 => ?_) (fun hg3 => ?_)
 ·replace h := ite_t hg3 h
  refine AWp.seq ?_
  refine sr (c (mv hN (q 6)) rfl cn) ?_
  refine gh [(12, _)] [] hB rfl rfl (by rfl) ?_
  refine AWp.cond rfl (fun hg4 => ?_) (fun hg4 => ?_)
  ·replace h := ite_t hg4 h
   refine sr (c (OpJ.assign (L rfl) (Opd.int .i64 (0))) rfl cn) ?_
   refine gh [(4, _)] [] hB rfl rfl (by rfl) ?_
   refine AWp.ret ?_
   refine seqQ_r ?_
   refine seqQ_r ?_
   obtain rfl := Option.some.inj h
   exact ⟨.inl rfl, _, _, (kp [(4, _)] [] hB rfl rfl (by rfl)), [(i6 0)], (Res.tmp (by rfl) (by rfl) Res.nil), rfl, by rfl, by rfl, by rfl⟩
  ·replace h := ite_f hg4 h
   refine AWp.skip ?_
   refine seqQ_n ?_
   refine sr (c (OpJ.assign (L rfl) (Opd.int .i64 (-1))) rfl cn) ?_
   refine gh [(4, _)] [] hB rfl rfl (by rfl) ?_
   refine AWp.ret ?_
   refine seqQ_r ?_
   obtain rfl := Option.some.inj h
   exact ⟨.inl rfl, _, _, (kp [(4, _)] [] hB rfl rfl (by rfl)), [(i6 (-1 : Int))], (Res.tmp (by rfl) (by rfl) Res.nil), rfl, by rfl, by rfl, by rfl⟩
 ·replace h := ite_f hg3 h
  refine AWp.skip ?_
  refine seqQ_n ?_
  refine AWp.seq ?_
  refine sr (c (mv hN (q 6)) rfl cn) ?_
  refine gh [(0, _), (1, _), (13, _)] [] hB rfl rfl (by rfl) ?_
  refine AWp.cond rfl (fun hg5 => ?_) (fun hg5 => ?_)
  ·replace h := ite_t hg5 h
   refine sr (c (OpJ.assign (L rfl) (Opd.int .i64 (1))) rfl cn) ?_
   refine gh [(4, _)] [] hB rfl rfl (by rfl) ?_
   refine AWp.ret ?_
   refine seqQ_r ?_
   obtain rfl := Option.some.inj h
   exact ⟨.inl rfl, _, _, (kp [(4, _)] [] hB rfl rfl (by rfl)), [(i6 1)], (Res.tmp (by rfl) (by rfl) Res.nil), rfl, by rfl, by rfl, by rfl⟩
  ·replace h := ite_f hg5 h
   refine AWp.skip ?_
   refine seqQ_n ?_
   refine AWp.seq ?_
   refine sr (c (mv hN (q 0)) rfl (c (mv hN (q 1)) rfl (c (OpJ.lss (L rfl) (q 14) (q 15)) rfl cn))) ?_
   refine gh [(0, _), (1, _), (16, _)] [] hB rfl rfl (by rfl) ?_
   refine AWp.cond rfl (fun hg6 => ?_) (fun hg6 => ?_)
   ·replace h := ite_t hg6 h
    refine sr (c (OpJ.assign (L rfl) (Opd.int .i64 (-1))) rfl cn) ?_
    refine gh [(4, _)] [] hB rfl rfl (by rfl) ?_
    refine AWp.ret ?_
    refine seqQ_r ?_
    obtain rfl := Option.some.inj h
    exact ⟨.inl rfl, _, _, (kp [(4, _)] [] hB rfl rfl (by rfl)), [(i6 (-1 : Int))], (Res.tmp (by rfl) (by rfl) Res.nil), rfl, by rfl, by rfl, by rfl⟩
   ·replace h := ite_f hg6 h
    refine AWp.skip ?_
    refine seqQ_n ?_
    refine AWp.seq ?_
    refine sr (c (mv hN (q 0)) rfl (c (mv hN (q 1)) rfl (c (OpJ.gtr (L rfl) (q 17) (q 18)) rfl cn))) ?_
    refine gh [(19, _)] [] hB rfl rfl (by rfl) ?_
    refine AWp.cond rfl (fun hg7 => ?_) (fun hg7 => ?_)
    ·replace h := ite_t hg7 h
     refine sr (c (OpJ.assign (L rfl) (Opd.int .i64 (1))) rfl cn) ?_
     refine gh [(4, _)] [] hB rfl rfl (by rfl) ?_
     refine AWp.ret ?_
     refine seqQ_r ?_
     obtain rfl := Option.some.inj h
     exact ⟨.inl rfl, _, _, (kp [(4, _)] [] hB rfl rfl (by rfl)), [(i6 1)], (Res.tmp (by rfl) (by rfl) Res.nil), rfl, by rfl, by rfl, by rfl⟩
    ·replace h := ite_f hg7 h
     refine AWp.skip ?_
     refine seqQ_n ?_
     refine sr (c (OpJ.assign (L rfl) (Opd.int .i64 (0))) rfl cn) ?_
     refine gh [(4, _)] [] hB rfl rfl (by rfl) ?_
     refine AWp.ret ?_
     obtain rfl := Option.some.inj h
     exact ⟨.inl rfl, _, _, (kp [(4, _)] [] hB rfl rfl (by rfl)), [(i6 0)], (Res.tmp (by rfl) (by rfl) Res.nil), rfl, by rfl, by rfl, by rfl⟩

noncomputable def cmp_Or_L0 (a0 : (List Int)) (s1 : Int) : Option (((Int) ⊕ (Unit)) ⊕ (Int)) :=
 (if (decide (s1 < (a0.length : Int))) = true then
 (idx a0 s1).bind fun x11 =>
 (if (x11 != (0 : Int)) = true then
 some (.inl (.inl x11))
 else
 some (.inr (w64 (s1 + (1 : Int)))))
 else
 some (.inl (.inr ())))
noncomputable def cmp_Or (a0 : (List Int)) : Option (Int) :=
 (loop (cmp_Or_L0 a0) (0 : Int)).bind fun x13 => match x13 with
 | (.inl p8) =>
  some p8
 | (.inr _) =>
  some (0 : Int)
theorem cmp_Or_ac (a0 : (List Int)) (r : Int) (h : cmp_Or a0 = some r) : AC Tryd.prog 69 [(.d (.list 1 (a0.map (eI .i64))))] [] (.d (.int .i64 r)) [] := by
 refine AC.of_code2 Tryd.func69 rfl rfl (Nat.le_of_ble_eq_true (by rfl)) fun B hB hN => ?_
 delta cmp_Or at h
 refine sr (c (OpJ.assign (ltN hN rfl) (Opd.int .i64 (0))) rfl cn) ?_
 refine gh [(0, _)] [] hB rfl rfl (by rfl) ?_
 refine sr (c (OpJ.assign (ltN hN rfl) (Opd.int .i64 (0))) rfl cn) ?_
 refine gh [(0, _), (3, _)] [] hB rfl rfl (by rfl) ?_
 refine AWp.seq ?_
 refine sr (c (mv hN (q 0)) rfl (c (OpJ.val (v' := (i6 (a0.length : Int))) (by simp) (OpJ.lenD Tryd.underlying22 (ltN hN rfl) (q 6))) rfl (c (mv hN (Opd.int .i64 (0))) rfl cn))) ?_
 refine gh [(3, _), (6, _), (7, _), (8, _)] [] hB rfl rfl (by rfl) ?_
 refine AWp.block ?_
 obtain ⟨x13, hx14, h⟩ := bindS h
 refine lg (cmp_Or_L0 a0) (fun s1 : Int => ([(3, (i6 0)), (6, (qI_1 a0)), (7, (i6 (a0.length : Int))), (8, (i6 s1))] : EL)) (fun s1 : Int => ([] : OL)) (fun (x : (Int) ⊕ (Unit)) e E' O' => match x with | (.inl p8) => e = .ret ∧ Mat B E' O' ([(2, (i6 p8))] : EL) ([] : OL) | (.inr _p) => e = .exit 0 ∧ Mat B E' O' ([(3, (i6 0))] : EL) ([] : OL)) hx14 (mp [] _ _ hB) (fun s1 y h => ?_) (fun e E' O' hR => ?_)
 ·unfold cmp_Or_L0 at h
  refine sr (c (OpJ.lss (ltN hN rfl) (q 8) (q 7)) rfl cn) ?_
  refine gh [(3, _), (6, _), (7, _), (8, _), (9, _)] [] hB rfl rfl (by rfl) ?_
  refine AWp.seq ?_
  refine AWp.cond rfl (fun hg10 => ?_) (fun hg10 => ?_)
  ·replace h := ite_t hg10 h
   refine AWp.skip ?_
   refine seqQ_n ?_
   refine AWp.seq ?_
   refine AWp.block ?_
   obtain ⟨x11, hx11, h⟩ := bindS h
   refine sr (c (OpJ.indexD Tryd.underlying22 tyS3 (idx_some hx11).1 (get_map (eI .i64) (idx_some hx11).2) (ltN hN rfl) (q 6) (q 8)) rfl (c (OpJ.loadD tyS3 (by rfl) (by rfl) (ltN hN rfl) (q 10)) rfl (c (OpJ.assign (ltN hN rfl) (q 11)) rfl cn))) ?_
   refine gh [(3, _), (5, _), (6, _), (7, _), (8, _)] [] hB rfl rfl (by rfl) ?_
   refine sr (c (mv hN (q 5)) rfl (c (mv hN (q 3)) rfl (c (OpJ.neqI (ltN hN rfl) (q 12) (q 13)) rfl cn))) ?_
   refine gh [(3, _), (5, _), (6, _), (7, _), (8, _), (14, _)] [] hB rfl rfl (by rfl) ?_
   refine AWp.cond rfl (fun hg12 => ?_) (fun hg12 => ?_)
   ·replace h := ite_t hg12 h
    refine sr (c (mv hN (q 5)) rfl (c (OpJ.assign (ltN hN rfl) (q 15)) rfl cn)) ?_
    refine gh [(2, _)] [] hB rfl rfl (by rfl) ?_
    refine AWp.ret ?_
    refine blkQ_r ?_
    refine seqQ_r ?_
    obtain rfl := Option.some.inj h
    exact ⟨(fun hc => by cases hc), rfl, (mp [] _ _ hB)⟩
   ·replace h := ite_f hg12 h
    refine AWp.skip ?_
    refine blkQ_n ?_
    refine seqQ_n ?_
    refine rg (c (add6 (ltN hN rfl) (q 8) (Opd.int .i64 (1))) rfl (c (mv hN (q 16)) rfl cn)) ?_
    obtain rfl := Option.some.inj h
    exact ⟨rfl, (Mat.trans (mp [] [(3, (i6 0)), (6, (qI_1 a0)), (7, (i6 (a0.length : Int))), (8, (i6 (w64 (s1 + (1 : Int)))))] [] hB) (mp [] _ _ hB))⟩
  ·replace h := ite_f hg10 h
   refine AWp.exit ?_
   refine seqQ_e ?_
   obtain rfl := Option.some.inj h
   exact ⟨(fun hc => by cases hc), rfl, (mp [] _ _ hB)⟩
 ·rcases x13 with p8 | _
  ·obtain ⟨rfl, hmat⟩ := hR
   refine blkQ_r ?_
   refine seqQ_r ?_
   obtain rfl := Option.some.inj h
   exact ⟨.inl rfl, _, _, (Mat.trans hmat (mp [] [(2, (i6 p8))] [] hB)), [(i6 p8)], (Res.tmp (by rfl) (by rfl) Res.nil), rfl, by rfl, by rfl, by rfl⟩
  ·obtain ⟨rfl, hmat⟩ := hR
   refine blkQ_hit ?_
   refine seqQ_n ?_
   refine AWp.ghost hmat ?_
   refine sr (c (mv hN (q 3)) rfl (c (OpJ.assign (ltN hN rfl) (q 17)) rfl cn)) ?_
   refine gh [(2, _)] [] hB rfl rfl (by rfl) ?_
   refine AWp.ret ?_
   obtain rfl := Option.some.inj h
   exact ⟨.inl rfl, _, _, (kp [(2, _)] [] hB rfl rfl (by rfl)), [(i6 0)], (Res.tmp (by rfl) (by rfl) Res.nil), rfl, by rfl, by rfl, by rfl⟩

noncomputable def addr_Cmp (a0 : api_Addr) (a1 : api_Addr) : Option (Int) :=
 (addr_family a0).bind fun r1 =>
 (addr_family a1).bind fun r2 =>
 (cmp_Compare r1 r2).bind fun r3 =>
 (cmp_Compare_2 a0.fHi a1.fHi).bind fun r4 =>
 (cmp_Compare_2 a0.fLo a1.fLo).bind fun r5 =>
 (cmp_Or ([r3, r4, r5] : List Int)).bind fun r6 =>
 some r6
theorem addr_Cmp_ac (a0 : api_Addr) (a1 : api_Addr) (r : Int) (h : addr_Cmp a0 a1 = some r) : AC Tryd.prog 35 [(.d (e_api_Addr a0)), (.d (e_api_Addr a1))] [] (.d (.int .i64 r)) [] := by
 refine AC.of_code2 Tryd.func35 rfl rfl (Nat.le_of_ble_eq_true (by rfl)) fun B hB hN => ?_
 delta addr_Cmp at h
 refine sr (cg (OpJ.box hB (nm := 1002) (by decide) (by simp) rfl (ltN hN rfl) (q 0)) rfl (cg (OpJ.box hB (nm := 1003) (by decide) (by simp) rfl (ltN hN rfl) (q 1)) rfl (c (OpJ.assign (ltN hN rfl) (Opd.int .i64 (0))) rfl cn))) ?_
 refine gh [(2, _), (3, _)] [(1002, some _), (1003, some _)] hB rfl rfl (by rfl) ?_
 obtain ⟨r1, hr1, h⟩ := bindS h
 obtain ⟨r2, hr2, h⟩ := bindS h
 obtain ⟨r3, hr3, h⟩ := bindS h
 obtain ⟨r4, hr4, h⟩ := bindS h
 obtain ⟨r5, hr5, h⟩ := bindS h
 obtain ⟨r6, hr6, h⟩ := bindS h
 refine sd (c (lb hN 32 _ _ tyS32 (At.here _) (q 2)) rfl (cg (OpJ.callFn hB fnOk71 (addr_family_ac a0 r1 hr1) [] (by kernel_rfl) (ltN hN rfl) (by kernel_rfl) (OpdL.cons (q 5) OpdL.nil)) rfl (c (lb hN 32 _ _ tyS32 (At.here _) (q 3)) rfl (cg (OpJ.callFn hB fnOk71 (addr_family_ac a1 r2 hr2) [] (by kernel_rfl) (ltN hN rfl) (by kernel_rfl) (OpdL.cons (q 7) OpdL.nil)) rfl (cg (OpJ.callFn hB fnOk70 (cmp_Compare_ac r1 r2 r3 hr3) [] (by kernel_rfl) (ltN hN rfl) (by kernel_rfl) (OpdL.cons (q 6) (OpdL.cons (q 8) OpdL.nil))) rfl (c (ov (.ptr 1002 1 [1]) (fp hN Tryd.underlying32 1 tyS30 _ (q 2))) rfl (c (lb hN 32 _ _ tyS30 (ad _) (q 10)) rfl (c (ov (.ptr 1003 1 [1]) (fp hN Tryd.underlying32 1 tyS30 _ (q 3))) rfl (c (lb hN 32 _ _ tyS30 (ad _) (q 12)) rfl (cg (OpJ.callFn hB fnOk72 (cmp_Compare_2_ac a0.fHi a1.fHi r4 hr4) [] (by kernel_rfl) (ltN hN rfl) (by kernel_rfl) (OpdL.cons (q 11) (OpdL.cons (q 13) OpdL.nil))) rfl (c (ov (.ptr 1002 2 [2]) (fp hN Tryd.underlying32 2 tyS30 _ (q 2))) rfl (c (lb hN 32 _ _ tyS30 (ad _) (q 15)) rfl (c (ov (.ptr 1003 2 [2]) (fp hN Tryd.underlying32 2 tyS30 _ (q 3))) rfl (c (lb hN 32 _ _ tyS30 (ad _) (q 17)) rfl (cg (OpJ.callFn hB fnOk72 (cmp_Compare_2_ac a0.fLo a1.fLo r5 hr5) [] (by kernel_rfl) (ltN hN rfl) (by kernel_rfl) (OpdL.cons (q 16) (OpdL.cons (q 18) OpdL.nil))) rfl (c (OpJ.buildSlice Tryd.underlying22 tyS3 tyZD3 (by rfl) (by decide) (by decide) (Opds.cons (q 9) (Opds.cons (q 14) (Opds.cons (q 19) Opds.nil))) (by kernel_rfl) (es := ([(.int .i64 r3), (.int .i64 r4), (.int .i64 r5)] : List D)) (by rfl) (by rfl) (by kernel_rfl) (by simp) (ltN hN rfl)) rfl (cg (OpJ.callFn hB fnOk69 (cmp_Or_ac ([r3, r4, r5] : List Int) r6 hr6) [] (by kernel_rfl) (ltN hN rfl) (by kernel_rfl) (OpdL.cons (q 20) OpdL.nil)) rfl (c (OpJ.assign (ltN hN rfl) (q 21)) rfl cn)))))))))))))))))) (by kernel_rfl) (by kernel_rfl) ?_
 refine gh [(4, _)] [] hB rfl rfl (by rfl) ?_
 refine AWp.ret ?_
 obtain rfl := Option.some.inj h
 exact ⟨.inl rfl, _, _, (kp [(4, _)] [] hB rfl rfl (by rfl)), [(i6 r6)], (Res.tmp (by rfl) (by rfl) Res.nil), rfl, by rfl, by rfl, by rfl⟩

noncomputable def addr_Next (a0 : api_Addr) : Option (api_Addr × Bool) :=
 jn (fun m2 : Int =>
 jn (fun m6 : Bool =>
 (if m6 = true then
 some ((api_Addr.mk false (0 : Int) (0 : Int)), false)
 else
 some ((api_Addr.mk a0.fV6 m2 (IntKind.u64.wrap (a0.fLo + (1 : Int)))), true))) (fun j7 =>
 (if ((a0.fV6 && (m2 == (0 : Int))) && ((IntKind.u64.wrap (a0.fLo + (1 : Int))) == (0 : Int))) = true then
 j7 true
 else
 (addr_Valid (api_Addr.mk a0.fV6 m2 (IntKind.u64.wrap (a0.fLo + (1 : Int))))).bind fun r10 =>
 j7 (!r10)))) (fun j3 =>
 (if (a0.fV6 && ((IntKind.u64.wrap (a0.fLo + (1 : Int))) == (0 : Int))) = true then
 j3 (IntKind.u64.wrap (a0.fHi + (1 : Int)))
 else
 j3 a0.fHi))
theorem addr_Next_ac (a0 : api_Addr) (r : api_Addr × Bool) (h : addr_Next a0 = some r) : AC Tryd.prog 37 [(.d (e_api_Addr a0))] [] (.tup [(.d (e_api_Addr r.1)), (.d (.bool r.2))]) [] := by
 refine AC.of_code2 Tryd.func37 rfl rfl (Nat.le_of_ble_eq_true (by rfl)) fun B hB hN => ?_
 have L {d : Nat} (h : Nat.blt d Tryd.f37.ntmps = true) : d < B.N := ltN hN h
 delta addr_Next at h
 refine sr (cg (OpJ.box hB (nm := 1001) (by decide) (by simp) rfl (L rfl) (q 0)) rfl (cg (OpJ.alloc hB tyZ32 (nm := 1002) (by decide) (L rfl)) rfl (c (OpJ.assign (L rfl) (Opd.bool false)) rfl cn))) ?_
 refine gh [(1, _), (2, _)] [(1001, some _), (1002, some _)] hB rfl rfl (by rfl) ?_
 refine sr (c (ov (.ptr 1001 2 [2]) (fp hN Tryd.underlying32 2 tyS30 _ (q 1))) rfl (c (lb hN 32 _ _ tyS30 (ad _) (q 4)) rfl (c (OpJ.add (L rfl) (q 5) (Opd.int .u64 (1))) rfl (c (ov (.ptr 1001 2 [2]) (fp hN Tryd.underlying32 2 tyS30 _ (q 1))) rfl (cg (OpJ.storeB tyS30 (SetAt.dst1 (by rfl) (by rfl) (SetAt.here _ _) (by rfl) (by rfl) (by first | rfl | omega)) (by rfl) (by rfl) (by simp) rfl (q 7) (q 6)) rfl cn))))) ?_
 refine gh [(1, _), (2, _)] [(1001, some _), (1002, some _)] hB rfl rfl (by rfl) ?_
 refine AWp.seq ?_
 refine sr (c (ov (.ptr 1001 0 [0]) (fp hN Tryd.underlying32 0 tyS4 _ (q 1))) rfl (c (lb hN 32 _ _ tyS4 (ad _) (q 8)) rfl (c (mv hN (q 9)) rfl (c (oq hN 10 (ov (.ptr 1001 2 [2]) (fp hN Tryd.underlying32 2 tyS30 _ (q 1))) (OptL.keep (by rfl) OptL.nil) (GuardV.plain _)) rfl (c (oq hN 10 (lb hN 32 _ _ tyS30 (ad _) (q 11)) (OptL.opt OptL.nil) (GuardV.plain _)) rfl (c (oq hN 10 (OpJ.eqlI (L rfl) (q 12) (Opd.int .u64 (0))) (OptL.opt OptL.nil) (GuardV.plain _)) rfl (c (OpJ.pickAnd rfl (L rfl) (q 10) (q 13)) rfl cn))))))) ?_
 refine gh [(1, _), (2, _), (14, _)] [(1001, some _), (1002, some _)] hB rfl rfl (by rfl) ?_
 refine AWp.cut h (fun m2 : Int => ([(1, (.ptr 1001 0 [])), (2, (.ptr 1002 0 []))] : EL)) (fun m2 : Int => ([(1001, some (.box 32 (.d (.st [(.bool a0.fV6), (.int .u64 m2), (.int .u64 (IntKind.u64.wrap (a0.fLo + (1 : Int))))])))), (1002, some (.box 32 (.d (.st [(.bool false), (.int .u64 0), (.int .u64 0)]))))] : OL)) (fun m2 h E' O' hmat => ?_) (fun j3 hjj3 h => ?_)
 ·refine seqQ_n ?_
  refine AWp.ghost hmat ?_
  refine AWp.seq ?_
  refine AWp.seq ?_
  refine AWp.cut h (fun m6 : Bool => ([(1, (.ptr 1001 0 [])), (2, (.ptr 1002 0 [])), (35, (bo m6))] : EL)) (fun m6 : Bool => ([(1001, some (.box 32 (.d (.st [(.bool a0.fV6), (.int .u64 m2), (.int .u64 (IntKind.u64.wrap (a0.fLo + (1 : Int))))])))), (1002, some (.box 32 (.d (.st [(.bool false), (.int .u64 0), (.int .u64 0)]))))] : OL)) (fun m6 h E' O' hmat => ?_) (fun j7 hjj7 h => ?_)
  ·refine seqQ_n ?_
   refine AWp.ghost hmat ?_
   refine AWp.cond rfl (fun hg8 => ?_) (fun hg8 => ?_)
   ·replace h := ite_t hg8 h
    refine sr (c (OpJ.coe (v := (.st [(bo false), (.d (.int .u64 0)), (.d (.int .u64 0))])) (y := (.st [(.bool false), (.int .u64 0), (.int .u64 0)])) (Co.st (CoL.cons (Co.d _) (CoL.cons (Co.d _) (CoL.cons (Co.d _) CoL.nil)))) rfl (OpJ.build (places := [(0, 1), (1, 1), (2, 1)]) ⟨Tryd.underlying32, fun w => by kernel_rfl⟩ tyZS32 Opds.nil (by kernel_rfl) (r := (.st [(bo false), (.d (.int .u64 0)), (.d (.int .u64 0))])) (by rfl) (L rfl))) rfl (cg (OpJ.storeB tyS32 (SetAt.here _ _) (by rfl) (by rfl) (by simp) rfl (q 2) (q 36)) rfl (c (OpJ.assign (L rfl) (Opd.bool false)) rfl cn))) ?_
    refine gh [(2, _), (3, _)] [(1002, some _)] hB rfl rfl (by rfl) ?_
    refine AWp.ret ?_
    refine seqQ_r ?_
    obtain rfl := Option.some.inj h
    exact ⟨.inl rfl, _, _, (kp [(2, _), (3, _)] [(1002, some _)] hB rfl rfl (by rfl)), [(.d (.st [(.bool false), (.int .u64 0), (.int .u64 0)])), (bo false)], (Res.cell (c := (.d (.st [(.bool false), (.int .u64 0), (.int .u64 0)]))) (by rfl) (by rfl) tyS32 (by rfl) (by rfl) (by rfl) (Res.tmp (by rfl) (by rfl) Res.nil)), rfl, by rfl, by rfl, by rfl⟩
   ·replace h := ite_f hg8 h
    refine AWp.skip ?_
    refine seqQ_n ?_
    refine sr (c (lb hN 32 _ _ tyS32 (At.here _) (q 1)) rfl (cg (OpJ.storeB tyS32 (SetAt.here _ _) (by rfl) (by rfl) (by simp) rfl (q 2) (q 37)) rfl (c (OpJ.assign (L rfl) (Opd.bool true)) rfl cn))) ?_
    refine gh [(2, _), (3, _)] [(1002, some _)] hB rfl rfl (by rfl) ?_
    refine AWp.ret ?_
    obtain rfl := Option.some.inj h
    exact ⟨.inl rfl, _, _, (kp [(2, _), (3, _)] [(1002, some _)] hB rfl rfl (by rfl)), [(.d (.st [(.bool a0.fV6), (.int .u64 m2), (.int .u64 (IntKind.u64.wrap (a0.fLo + (1 : Int))))])), (bo true)], (Res.cell (c := (.d (.st [(.bool a0.fV6), (.int .u64 m2), (.int .u64 (IntKind.u64.wrap (a0.fLo + (1 : Int))))]))) (by rfl) (by rfl) tyS32 (by rfl) (by rfl) (by rfl) (Res.tmp (by rfl) (by rfl) Res.nil)), rfl, by rfl, by rfl, by rfl⟩
  ·rcases Bool.eq_false_or_eq_true ((a0.fV6 && (m2 == (0 : Int))) && ((IntKind.u64.wrap (a0.fLo + (1 : Int))) == (0 : Int))) with hg9 | hg9
   ·replace h := ite_t hg9 h
    refine rg (c (ov (.ptr 1001 0 [0]) (fp hN Tryd.underlying32 0 tyS4 _ (q 1))) rfl (c (lb hN 32 _ _ tyS4 (ad _) (q 19)) rfl (c (mv hN (q 20)) rfl (c (oq hN 21 (ov (.ptr 1001 1 [1]) (fp hN Tryd.underlying32 1 tyS30 _ (q 1))) (OptL.keep (by rfl) OptL.nil) (GuardV.plain _)) rfl (c (oq hN 21 (lb hN 32 _ _ tyS30 (ad _) (q 22)) (OptL.opt OptL.nil) (GuardV.plain _)) rfl (c (oq hN 21 (OpJ.eqlI (L rfl) (q 23) (Opd.int .u64 (0))) (OptL.opt OptL.nil) (GuardV.plain _)) rfl (c (OpJ.pickAnd rfl (L rfl) (q 21) (q 24)) rfl (c (mv hN (q 25)) rfl (c (oq hN 26 (ov (.ptr 1001 2 [2]) (fp hN Tryd.underlying32 2 tyS30 _ (q 1))) (OptL.keep (by rfl) OptL.nil) (GuardV.plain _)) rfl (c (oq hN 26 (lb hN 32 _ _ tyS30 (ad _) (q 27)) (OptL.opt OptL.nil) (GuardV.plain _)) rfl (c (oq hN 26 (OpJ.eqlI (L rfl) (q 28) (Opd.int .u64 (0))) (OptL.opt OptL.nil) (GuardV.plain _)) rfl (c (OpJ.pickAnd rfl (L rfl) (q 26) (q 29)) rfl (c (OpJ.val (v' := .d (.bool true)) (by rw [hg9] <;> rfl) (mv hN (q 30))) rfl (cg (sU 31 (L rfl)) rfl (cg (sU 31 (L rfl)) rfl (cg (sU 31 (L rfl)) rfl (c (OpJ.pickT (L rfl) (q 31) (Opd.bool true)) rfl cn))))))))))))))))) ?_
    exact hjj7 _ h _ _ (Mat.trans (mp [] [(1, (.ptr 1001 0 [])), (2, (.ptr 1002 0 [])), (35, (bo true))] [(1001, some (.box 32 (.d (.st [(.bool a0.fV6), (.int .u64 m2), (.int .u64 (IntKind.u64.wrap (a0.fLo + (1 : Int))))])))), (1002, some (.box 32 (.d (.st [(.bool false), (.int .u64 0), (.int .u64 0)]))))] hB) (mp [] _ _ hB))
   ·replace h := ite_f hg9 h
    obtain ⟨r10, hr10, h⟩ := bindS h
    refine rg (c (ov (.ptr 1001 0 [0]) (fp hN Tryd.underlying32 0 tyS4 _ (q 1))) rfl (c (lb hN 32 _ _ tyS4 (ad _) (q 19)) rfl (c (mv hN (q 20)) rfl (c (oq hN 21 (ov (.ptr 1001 1 [1]) (fp hN Tryd.underlying32 1 tyS30 _ (q 1))) (OptL.keep (by rfl) OptL.nil) (GuardV.plain _)) rfl (c (oq hN 21 (lb hN 32 _ _ tyS30 (ad _) (q 22)) (OptL.opt OptL.nil) (GuardV.plain _)) rfl (c (oq hN 21 (OpJ.eqlI (L rfl) (q 23) (Opd.int .u64 (0))) (OptL.opt OptL.nil) (GuardV.plain _)) rfl (c (OpJ.pickAnd rfl (L rfl) (q 21) (q 24)) rfl (c (mv hN (q 25)) rfl (c (oq hN 26 (ov (.ptr 1001 2 [2]) (fp hN Tryd.underlying32 2 tyS30 _ (q 1))) (OptL.keep (by rfl) OptL.nil) (GuardV.plain _)) rfl (c (oq hN 26 (lb hN 32 _ _ tyS30 (ad _) (q 27)) (OptL.opt OptL.nil) (GuardV.plain _)) rfl (c (oq hN 26 (OpJ.eqlI (L rfl) (q 28) (Opd.int .u64 (0))) (OptL.opt OptL.nil) (GuardV.plain _)) rfl (c (OpJ.pickAnd rfl (L rfl) (q 26) (q 29)) rfl (c (OpJ.val (v' := .d (.bool false)) (by rw [hg9] <;> rfl) (mv hN (q 30))) rfl (c (gd 31 (lb hN 32 _ _ tyS32 (At.here _) (q 1))) rfl (cg (gd 31 (OpJ.callFn hB fnOk46 (addr_Valid_ac (api_Addr.mk a0.fV6 m2 (IntKind.u64.wrap (a0.fLo + (1 : Int)))) r10 hr10) [] (by kernel_rfl) (L rfl) (by kernel_rfl) (OpdL.cons (q 32) OpdL.nil))) rfl (c (gd 31 (OpJ.not (L rfl) (q 33))) rfl (c (OpJ.pickF (L rfl) (q 31) (q 34)) rfl cn))))))))))))))))) ?_
    exact hjj7 _ h _ _ (Mat.trans (mp [] [(1, (.ptr 1001 0 [])), (2, (.ptr 1002 0 [])), (35, (bo (!r10)))] [(1001, some (.box 32 (.d (.st [(.bool a0.fV6), (.int .u64 m2), (.int .u64 (IntKind.u64.wrap (a0.fLo + (1 : Int))))])))), (1002, some (.box 32 (.d (.st [(.bool false), (.int .u64 0), (.int .u64 0)]))))] hB) (mp [] _ _ hB))
 ·refine AWp.cond rfl (fun hg11 => ?_) (fun hg11 => ?_)
  ·replace h := ite_t hg11 h
   refine rg (c (ov (.ptr 1001 1 [1]) (fp hN Tryd.underlying32 1 tyS30 _ (q 1))) rfl (c (lb hN 32 _ _ tyS30 (ad _) (q 15)) rfl (c (OpJ.add (L rfl) (q 16) (Opd.int .u64 (1))) rfl (c (ov (.ptr 1001 1 [1]) (fp hN Tryd.underlying32 1 tyS30 _ (q 1))) rfl (cg (OpJ.storeB tyS30 (SetAt.dst1 (by rfl) (by rfl) (SetAt.here _ _) (by rfl) (by rfl) (by first | rfl | omega)) (by rfl) (by rfl) (by simp) rfl (q 18) (q 17)) rfl cn))))) ?_
   exact hjj3 _ h _ _ (Mat.trans (mp [] [(1, (.ptr 1001 0 [])), (2, (.ptr 1002 0 []))] [(1001, some (.box 32 (.d (.st [(.bool a0.fV6), (.int .u64 (IntKind.u64.wrap (a0.fHi + (1 : Int)))), (.int .u64 (IntKind.u64.wrap (a0.fLo + (1 : Int))))])))), (1002, some (.box 32 (.d (.st [(.bool false), (.int .u64 0), (.int .u64 0)]))))] hB) (mp [] _ _ hB))
  ·replace h := ite_f hg11 h
   refine AWp.skip ?_
   exact hjj3 _ h _ _ (mp [] _ _ hB)

noncomputable def resource_order_valid_L0 (a0 : (List api_Addr_)) (s1 : Int) : Option (((Unit) ⊕ (Unit)) ⊕ (Int)) :=
 (if (decide (s1 < (a0.length : Int))) = true then
 jn (fun _ : Unit =>
 some (.inr (w64 (s1 + (1 : Int))))) (fun j117 =>
 (idx a0 s1).bind fun x118 =>
 (addr_Cmp x118.ffrom x118.fto).bind fun r119 =>
 (if (decide ((0 : Int) < r119)) = true then
 some (.inl (.inl ()))
 else
 (if (s1 == (0 : Int)) = true then
 j117 ()
 else
 (idx a0 (w64 (s1 - (1 : Int)))).bind fun x122 =>
 (addr_Next x122.fto).bind fun r123 =>
 jn (fun m131 : Bool =>
 (if m131 = true then
 some (.inl (.inl ()))
 else
 j117 ())) (fun j132 =>
 (idx a0 (w64 (s1 - (1 : Int)))).bind fun x134 =>
 (addr_Cmp x134.fto x118.ffrom).bind fun r135 =>
 (if (decide ((0 : Int) ≤ r135)) = true then
 j132 true
 else
 (if r123.2 = true then
 (addr_Cmp r123.1 x118.ffrom).bind fun r138 =>
 j132 (r138 == (0 : Int))
 else
 j132 false))))))
 else
 some (.inl (.inr ())))
noncomputable def resource_order_valid (a0 : (List api_Addr_)) : Option (Bool) :=
 (loop (resource_order_valid_L0 a0) (0 : Int)).bind fun x139 => match x139 with
 | (.inl _) =>
  some false
 | (.inr _) =>
  some true
theorem resource_order_valid_ac (a0 : (List api_Addr_)) (r : Bool) (h : resource_order_valid a0 = some r) : AC Tryd.prog 50 [(.st [(.func 35 []), (.func 37 []), (.func 137 [])]), (.d (.list 6 (a0.map e_api_Addr_)))] [] (.d (.bool r)) [] := by
 refine AC.of_code2 Tryd.func50 rfl rfl (Nat.le_of_ble_eq_true (by rfl)) fun B hB hN => ?_
 have L {d : Nat} (h : Nat.blt d Tryd.f50.ntmps = true) : d < B.N := ltN hN h
 delta resource_order_valid at h
 refine sr (cg (OpJ.box hB (nm := 1002) (by decide) (by simp) rfl (L rfl) (q 0)) rfl (c (OpJ.assign (L rfl) (Opd.bool false)) rfl cn)) ?_
 refine gh [(1, _), (2, _)] [(1002, some _)] hB rfl rfl (by rfl) ?_
 refine AWp.seq ?_
 refine sr (c (mv hN (q 1)) rfl (c (OpJ.val (v' := (i6 (a0.length : Int))) (by simp) (OpJ.lenD Tryd.underlying82 (L rfl) (q 9))) rfl (c (mv hN (Opd.int .i64 (0))) rfl cn))) ?_
 refine gh [(1, _), (2, _), (9, _), (10, _), (11, _)] [(1002, some _)] hB rfl rfl (by rfl) ?_
 refine AWp.block ?_
 obtain ⟨x139, hx140, h⟩ := bindS h
 refine lg (resource_order_valid_L0 a0) (fun s1 : Int => ([(1, (qe_api_Addr__6 a0)), (2, (.ptr 1002 0 [])), (9, (qe_api_Addr__6 a0)), (10, (i6 (a0.length : Int))), (11, (i6 s1))] : EL)) (fun s1 : Int => ([(1002, some (.box 88 (.st [(.func 35 []), (.func 37 []), (.func 137 [])])))] : OL)) (fun (x : (Unit) ⊕ (Unit)) e E' O' => match x with | (.inl _p) => e = .ret ∧ Mat B E' O' ([(4, (bo false))] : EL) ([] : OL) | (.inr _p) => e = .exit 0 ∧ Mat B E' O' ([] : EL) ([] : OL)) hx140 (mp [] _ _ hB) (fun s1 y h => ?_) (fun e E' O' hR => ?_)
 ·unfold resource_order_valid_L0 at h
  refine sr (c (OpJ.lss (L rfl) (q 11) (q 10)) rfl cn) ?_
  refine gh [(1, _), (2, _), (9, _), (10, _), (11, _), (12, _)] [(1002, some _)] hB rfl rfl (by rfl) ?_
  refine AWp.seq ?_
  refine AWp.cond rfl (fun hg94 => ?_) (fun hg94 => ?_)
  ·replace h := ite_t hg94 h
   refine AWp.skip ?_
   refine seqQ_n ?_
   refine AWp.seq ?_
   refine AWp.cut h (fun _ : Unit => ([(1, (qe_api_Addr__6 a0)), (2, (.ptr 1002 0 [])), (9, (qe_api_Addr__6 a0)), (10, (i6 (a0.length : Int))), (11, (i6 s1))] : EL)) (fun _ : Unit => ([(1002, some (.box 88 (.st [(.func 35 []), (.func 37 []), (.func 137 [])])))] : OL)) (fun _m h E' O' hmat => ?_) (fun j117 hjj117 h => ?_)
   ·refine seqQ_n ?_
    refine AWp.ghost hmat ?_
    refine rg (c (add6 (L rfl) (q 11) (Opd.int .i64 (1))) rfl (c (mv hN (q 62)) rfl cn)) ?_
    obtain rfl := Option.some.inj h
    exact ⟨rfl, (Mat.trans (mp [] [(1, (qe_api_Addr__6 a0)), (2, (.ptr 1002 0 [])), (9, (qe_api_Addr__6 a0)), (10, (i6 (a0.length : Int))), (11, (i6 (w64 (s1 + (1 : Int)))))] [(1002, some (.box 88 (.st [(.func 35 []), (.func 37 []), (.func 137 [])])))] hB) (mp [] _ _ hB))⟩
   ·refine AWp.block ?_
    obtain ⟨x118, hx118, h⟩ := bindS h
    refine sr (c (mv hN (q 11)) rfl (c (OpJ.indexD Tryd.underlying82 tyS120 (idx_some hx118).1 (get_map e_api_Addr_ (idx_some hx118).2) (L rfl) (q 9) (q 11)) rfl (c (OpJ.loadD tyS120 (by rfl) (by rfl) (L rfl) (q 14)) rfl (cg (OpJ.alloc hB tyZ120 (nm := 1006) (by decide) (L rfl)) rfl (c (OpJ.assign (L rfl) (q 13)) rfl (cg (OpJ.storeB tyS120 (SetAt.here _ _) (by rfl) (by rfl) (by simp) rfl (q 6) (q 15)) rfl cn)))))) ?_
    refine gh [(1, _), (2, _), (5, _), (6, _), (9, _), (10, _), (11, _)] [(1002, some _), (1006, some _)] hB rfl rfl (by rfl) ?_
    refine AWp.seq ?_
    obtain ⟨r119, hr119, h⟩ := bindS h
    refine sr (c (ov (.ptr 1002 0 [0]) (fp hN Tryd.underlying88 0 tyS70 _ (q 2))) rfl (c (lb hN 88 _ (.func 35 []) tyS70 (At.st1 (f := (.func 35 [])) (by rfl) (by rfl) (At.here _) (by first | rfl | omega)) (q 16)) rfl (c (ov (.ptr 1006 0 [0]) (fp hN Tryd.underlying120 0 tyS32 _ (q 6))) rfl (c (lb hN 120 _ _ tyS32 (ad _) (q 18)) rfl (c (ov (.ptr 1006 3 [1]) (fp hN Tryd.underlying120 3 tyS32 _ (q 6))) rfl (c (lb hN 120 _ _ tyS32 (ad _) (q 20)) rfl (cg (OpJ.callVal (args := [(.d (e_api_Addr x118.ffrom)), (.d (e_api_Addr x118.fto))]) (caps := []) hB fnOk35 [] (addr_Cmp_ac x118.ffrom x118.fto r119 hr119) (by kernel_rfl) (L rfl) (by kernel_rfl) (by kernel_rfl) (OpdL.cons (q 19) (OpdL.cons (q 21) OpdL.nil))) rfl (c (OpJ.gtr (L rfl) (q 22) (Opd.int .i64 (0))) rfl cn)))))))) ?_
    refine gh [(1, _), (2, _), (5, _), (6, _), (9, _), (10, _), (11, _), (23, _)] [(1002, some _), (1006, some _)] hB rfl rfl (by rfl) ?_
    refine AWp.cond rfl (fun hg120 => ?_) (fun hg120 => ?_)
    ·replace h := ite_t hg120 h
     refine sr (c (OpJ.assign (L rfl) (Opd.bool false)) rfl cn) ?_
     refine gh [(4, _)] [] hB rfl rfl (by rfl) ?_
     refine AWp.ret ?_
     refine seqQ_r ?_
     refine blkQ_r ?_
     refine seqQ_r ?_
     obtain rfl := Option.some.inj h
     exact ⟨(fun hc => by cases hc), rfl, (mp [] _ _ hB)⟩
    ·replace h := ite_f hg120 h
     refine AWp.skip ?_
     refine seqQ_n ?_
     refine AWp.seq ?_
     refine sr (c (mv hN (q 5)) rfl (c (OpJ.eqlI (L rfl) (q 24) (Opd.int .i64 (0))) rfl cn)) ?_
     refine gh [(1, _), (2, _), (5, _), (6, _), (9, _), (10, _), (11, _), (25, _)] [(1002, some _), (1006, some _)] hB rfl rfl (by rfl) ?_
     refine AWp.cond rfl (fun hg121 => ?_) (fun hg121 => ?_)
     ·replace h := ite_t hg121 h
      refine AWp.exit ?_
      refine seqQ_e ?_
      refine blkQ_hit ?_
      exact hjj117 _ h _ _ (mp [] _ _ hB)
     ·replace h := ite_f hg121 h
      refine AWp.skip ?_
      refine seqQ_n ?_
      obtain ⟨x122, hx122, h⟩ := bindS h
      obtain ⟨r123, hr123, h⟩ := bindS h
      refine sd (c (ov (.ptr 1002 1 [1]) (fp hN Tryd.underlying88 1 tyS73 _ (q 2))) rfl (c (lb hN 88 _ (.func 37 []) tyS73 (At.st1 (f := (.func 37 [])) (by rfl) (by rfl) (At.here _) (by first | rfl | omega)) (q 27)) rfl (c (mv hN (q 1)) rfl (c (mv hN (q 5)) rfl (c (sub6 (L rfl) (q 30) (Opd.int .i64 (1))) rfl (c (OpJ.indexD Tryd.underlying82 tyS120 (idx_some hx122).1 (get_map e_api_Addr_ (idx_some hx122).2) (L rfl) (q 29) (q 31)) rfl (c (OpJ.fieldD Tryd.underlying120 (by rfl) (o := 3) (by rfl) tyS32 (by decide) (by rfl) (by rfl) (L rfl) (q 32)) rfl (c (OpJ.loadD tyS32 (by rfl) (by rfl) (L rfl) (q 33)) rfl (cg (OpJ.callVal (args := [(.d (e_api_Addr x122.fto))]) (caps := []) hB fnOk37 [] (addr_Next_ac x122.fto r123 hr123) (by kernel_rfl) (L rfl) (by kernel_rfl) (by kernel_rfl) (OpdL.cons (q 34) OpdL.nil)) rfl (c (mv hN (q 35)) rfl (c (OpJ.extract (by rfl) rfl (L rfl) (q 26)) rfl (c (OpJ.extract (by rfl) rfl (L rfl) (q 26)) rfl (cg (OpJ.alloc hB tyZ32 (nm := 1007) (by decide) (L rfl)) rfl (cg (OpJ.storeB tyS32 (SetAt.here _ _) (by rfl) (by rfl) (by simp) rfl (q 7) (q 36)) rfl (c (OpJ.assign (L rfl) (q 37)) rfl cn))))))))))))))) (by kernel_rfl) (by kernel_rfl) ?_
      refine gh [(1, _), (2, _), (5, _), (6, _), (7, _), (8, _), (9, _), (10, _), (11, _)] [(1002, some _), (1006, some _), (1007, some _)] hB rfl rfl (by rfl) ?_
      refine AWp.seq ?_
      refine AWp.cut h (fun m131 : Bool => ([(1, (qe_api_Addr__6 a0)), (2, (.ptr 1002 0 [])), (9, (qe_api_Addr__6 a0)), (10, (i6 (a0.length : Int))), (11, (i6 s1)), (61, (bo m131))] : EL)) (fun m131 : Bool => ([(1002, some (.box 88 (.st [(.func 35 []), (.func 37 []), (.func 137 [])])))] : OL)) (fun m131 h E' O' hmat => ?_) (fun j132 hjj132 h => ?_)
      ·refine seqQ_n ?_
       refine AWp.ghost hmat ?_
       refine AWp.cond rfl (fun hg133 => ?_) (fun hg133 => ?_)
       ·replace h := ite_t hg133 h
        refine sr (c (OpJ.assign (L rfl) (Opd.bool false)) rfl cn) ?_
        refine gh [(4, _)] [] hB rfl rfl (by rfl) ?_
        refine AWp.ret ?_
        refine blkQ_r ?_
        refine seqQ_r ?_
        obtain rfl := Option.some.inj h
        exact ⟨(fun hc => by cases hc), rfl, (mp [] _ _ hB)⟩
       ·replace h := ite_f hg133 h
        refine AWp.skip ?_
        refine blkQ_n ?_
        exact hjj117 _ h _ _ (mp [] _ _ hB)
      ·obtain ⟨x134, hx134, h⟩ := bindS h
       obtain ⟨r135, hr135, h⟩ := bindS h
       rcases Bool.eq_false_or_eq_true (decide ((0 : Int) ≤ r135)) with hg136 | hg136
       ·replace h := ite_t hg136 h
        refine dr (c (ov (.ptr 1002 0 [0]) (fp hN Tryd.underlying88 0 tyS70 _ (q 2))) rfl (c (lb hN 88 _ (.func 35 []) tyS70 (At.st1 (f := (.func 35 [])) (by rfl) (by rfl) (At.here _) (by first | rfl | omega)) (q 38)) rfl (c (mv hN (q 1)) rfl (c (mv hN (q 5)) rfl (c (sub6 (L rfl) (q 41) (Opd.int .i64 (1))) rfl (c (OpJ.indexD Tryd.underlying82 tyS120 (idx_some hx134).1 (get_map e_api_Addr_ (idx_some hx134).2) (L rfl) (q 40) (q 42)) rfl (c (OpJ.fieldD Tryd.underlying120 (by rfl) (o := 3) (by rfl) tyS32 (by decide) (by rfl) (by rfl) (L rfl) (q 43)) rfl (c (OpJ.loadD tyS32 (by rfl) (by rfl) (L rfl) (q 44)) rfl (c (ov (.ptr 1006 0 [0]) (fp hN Tryd.underlying120 0 tyS32 _ (q 6))) rfl (c (lb hN 120 _ _ tyS32 (ad _) (q 46)) rfl (cg (OpJ.callVal (args := [(.d (e_api_Addr x134.fto)), (.d (e_api_Addr x118.ffrom))]) (caps := []) hB fnOk35 [] (addr_Cmp_ac x134.fto x118.ffrom r135 hr135) (by kernel_rfl) (L rfl) (by kernel_rfl) (by kernel_rfl) (OpdL.cons (q 45) (OpdL.cons (q 47) OpdL.nil))) rfl (c (OpJ.geq (L rfl) (q 48) (Opd.int .i64 (0))) rfl (c (OpJ.val (v' := .d (.bool true)) (by rw [hg136] <;> rfl) (mv hN (q 49))) rfl (cg (sU 50 (L rfl)) rfl (cg (sU 50 (L rfl)) rfl (cg (sV 52 (L rfl)) rfl (cg (sV 52 (L rfl)) rfl (cg (sV 52 (L rfl)) rfl (cg (sV 52 (L rfl)) rfl (cg (sV 52 (L rfl)) rfl (cg (sV 52 (L rfl)) rfl (cg (sV 52 (L rfl)) rfl (cg (sU 50 (L rfl)) rfl (c (OpJ.pickT (L rfl) (q 50) (Opd.bool true)) rfl cn)))))))))))))))))))))))) (by kernel_rfl) (by kernel_rfl) ?_
        exact hjj132 _ h _ _ (Mat.trans (mp [] [(1, (qe_api_Addr__6 a0)), (2, (.ptr 1002 0 [])), (9, (qe_api_Addr__6 a0)), (10, (i6 (a0.length : Int))), (11, (i6 s1)), (61, (bo true))] [(1002, some (.box 88 (.st [(.func 35 []), (.func 37 []), (.func 137 [])])))] hB) (mp [] _ _ hB))
       ·replace h := ite_f hg136 h
        rcases Bool.eq_false_or_eq_true r123.2 with hg137 | hg137
        ·replace h := ite_t hg137 h
         obtain ⟨r138, hr138, h⟩ := bindS h
         refine dr (c (ov (.ptr 1002 0 [0]) (fp hN Tryd.underlying88 0 tyS70 _ (q 2))) rfl (c (lb hN 88 _ (.func 35 []) tyS70 (At.st1 (f := (.func 35 [])) (by rfl) (by rfl) (At.here _) (by first | rfl | omega)) (q 38)) rfl (c (mv hN (q 1)) rfl (c (mv hN (q 5)) rfl (c (sub6 (L rfl) (q 41) (Opd.int .i64 (1))) rfl (c (OpJ.indexD Tryd.underlying82 tyS120 (idx_some hx134).1 (get_map e_api_Addr_ (idx_some hx134).2) (L rfl) (q 40) (q 42)) rfl (c (OpJ.fieldD Tryd.underlying120 (by rfl) (o := 3) (by rfl) tyS32 (by decide) (by rfl) (by rfl) (L rfl) (q 43)) rfl (c (OpJ.loadD tyS32 (by rfl) (by rfl) (L rfl) (q 44)) rfl (c (ov (.ptr 1006 0 [0]) (fp hN Tryd.underlying120 0 tyS32 _ (q 6))) rfl (c (lb hN 120 _ _ tyS32 (ad _) (q 46)) rfl (cg (OpJ.callVal (args := [(.d (e_api_Addr x134.fto)), (.d (e_api_Addr x118.ffrom))]) (caps := []) hB fnOk35 [] (addr_Cmp_ac x134.fto x118.ffrom r135 hr135) (by kernel_rfl) (L rfl) (by kernel_rfl) (by kernel_rfl) (OpdL.cons (q 45) (OpdL.cons (q 47) OpdL.nil))) rfl (c (OpJ.geq (L rfl) (q 48) (Opd.int .i64 (0))) rfl (c (OpJ.val (v' := .d (.bool false)) (by rw [hg136] <;> rfl) (mv hN (q 49))) rfl (c (gd 50 (mv hN (q 8))) rfl (c (gd 50 (OpJ.val (v' := .d (.bool true)) (by rw [hg137] <;> rfl) (mv hN (q 51)))) rfl (c (gd 52 (ov (.ptr 1002 0 [0]) (fp hN Tryd.underlying88 0 tyS70 _ (q 2)))) rfl (c (gd 52 (lb hN 88 _ (.func 35 []) tyS70 (At.st1 (f := (.func 35 [])) (by rfl) (by rfl) (At.here _) (by first | rfl | omega)) (q 53))) rfl (c (gd 52 (lb hN 32 _ _ tyS32 (At.here _) (q 7))) rfl (c (gd 52 (ov (.ptr 1006 0 [0]) (fp hN Tryd.underlying120 0 tyS32 _ (q 6)))) rfl (c (gd 52 (lb hN 120 _ _ tyS32 (ad _) (q 56))) rfl (cg (gd 52 (OpJ.callVal (args := [(.d (e_api_Addr r123.1)), (.d (e_api_Addr x118.ffrom))]) (caps := []) hB fnOk35 [] (addr_Cmp_ac r123.1 x118.ffrom r138 hr138) (by kernel_rfl) (L rfl) (by kernel_rfl) (by kernel_rfl) (OpdL.cons (q 55) (OpdL.cons (q 57) OpdL.nil)))) rfl (c (gd 52 (OpJ.eqlI (L rfl) (q 58) (Opd.int .i64 (0)))) rfl (c (gd 50 (OpJ.pickT (L rfl) (q 52) (q 59))) rfl (c (OpJ.pickF (L rfl) (q 50) (q 60)) rfl cn)))))))))))))))))))))))) (by kernel_rfl) (by kernel_rfl) ?_
         exact hjj132 _ h _ _ (Mat.trans (mp [] [(1, (qe_api_Addr__6 a0)), (2, (.ptr 1002 0 [])), (9, (qe_api_Addr__6 a0)), (10, (i6 (a0.length : Int))), (11, (i6 s1)), (61, (bo (r138 == (0 : Int))))] [(1002, some (.box 88 (.st [(.func 35 []), (.func 37 []), (.func 137 [])])))] hB) (mp [] _ _ hB))
        ·replace h := ite_f hg137 h
         refine dr (c (ov (.ptr 1002 0 [0]) (fp hN Tryd.underlying88 0 tyS70 _ (q 2))) rfl (c (lb hN 88 _ (.func 35 []) tyS70 (At.st1 (f := (.func 35 [])) (by rfl) (by rfl) (At.here _) (by first | rfl | omega)) (q 38)) rfl (c (mv hN (q 1)) rfl (c (mv hN (q 5)) rfl (c (sub6 (L rfl) (q 41) (Opd.int .i64 (1))) rfl (c (OpJ.indexD Tryd.underlying82 tyS120 (idx_some hx134).1 (get_map e_api_Addr_ (idx_some hx134).2) (L rfl) (q 40) (q 42)) rfl (c (OpJ.fieldD Tryd.underlying120 (by rfl) (o := 3) (by rfl) tyS32 (by decide) (by rfl) (by rfl) (L rfl) (q 43)) rfl (c (OpJ.loadD tyS32 (by rfl) (by rfl) (L rfl) (q 44)) rfl (c (ov (.ptr 1006 0 [0]) (fp hN Tryd.underlying120 0 tyS32 _ (q 6))) rfl (c (lb hN 120 _ _ tyS32 (ad _) (q 46)) rfl (cg (OpJ.callVal (args := [(.d (e_api_Addr x134.fto)), (.d (e_api_Addr x118.ffrom))]) (caps := []) hB fnOk35 [] (addr_Cmp_ac x134.fto x118.ffrom r135 hr135) (by kernel_rfl) (L rfl) (by kernel_rfl) (by kernel_rfl) (OpdL.cons (q 45) (OpdL.cons (q 47) OpdL.nil))) rfl (c (OpJ.geq (L rfl) (q 48) (Opd.int .i64 (0))) rfl (c (OpJ.val (v' := .d (.bool false)) (by rw [hg136] <;> rfl) (mv hN (q 49))) rfl (c (gd 50 (mv hN (q 8))) rfl (c (gd 50 (OpJ.val (v' := .d (.bool false)) (by rw [hg137] <;> rfl) (mv hN (q 51)))) rfl (cg (sU 52 (L rfl)) rfl (cg (sU 52 (L rfl)) rfl (cg (sU 52 (L rfl)) rfl (cg (sU 52 (L rfl)) rfl (cg (sU 52 (L rfl)) rfl (cg (sU 52 (L rfl)) rfl (cg (sU 52 (L rfl)) rfl (c (gd 50 (OpJ.pickF (L rfl) (q 52) (Opd.bool false))) rfl (c (OpJ.pickF (L rfl) (q 50) (q 60)) rfl cn)))))))))))))))))))))))) (by kernel_rfl) (by kernel_rfl) ?_
         exact hjj132 _ h _ _ (Mat.trans (mp [] [(1, (qe_api_Addr__6 a0)), (2, (.ptr 1002 0 [])), (9, (qe_api_Addr__6 a0)), (10, (i6 (a0.length : Int))), (11, (i6 s1)), (61, (bo false))] [(1002, some (.box 88 (.st [(.func 35 []), (.func 37 []), (.func 137 [])])))] hB) (mp [] _ _ hB))
  ·replace h := ite_f hg94 h
   refine AWp.exit ?_
   refine seqQ_e ?_
   obtain rfl := Option.some.inj h
   exact ⟨(fun hc => by cases hc), rfl, (mp [] _ _ hB)⟩
 ·rcases x139 with _ | _
  ·obtain ⟨rfl, hmat⟩ := hR
   refine blkQ_r ?_
   refine seqQ_r ?_
   obtain rfl := Option.some.inj h
   exact ⟨.inl rfl, _, _, (Mat.trans hmat (mp [] [(4, (bo false))] [] hB)), [(bo false)], (Res.tmp (by rfl) (by rfl) Res.nil), rfl, by rfl, by rfl, by rfl⟩
  ·obtain ⟨rfl, hmat⟩ := hR
   refine blkQ_hit ?_
   refine seqQ_n ?_
   refine AWp.ghost hmat ?_
   refine sr (c (OpJ.assign (L rfl) (Opd.bool true)) rfl cn) ?_
   refine gh [(4, _)] [] hB rfl rfl (by rfl) ?_
   refine AWp.ret ?_
   obtain rfl := Option.some.inj h
   exact ⟨.inl rfl, _, _, (kp [(4, _)] [] hB rfl rfl (by rfl)), [(bo true)], (Res.tmp (by rfl) (by rfl) Res.nil), rfl, by rfl, by rfl, by rfl⟩

noncomputable def resource_numbers_1 (a0 : Int) : Option (Int × Bool) :=
 some ((w64 (a0 + (1 : Int))), (decide (a0 < (4294967295 : Int))))
theorem resource_numbers_1_ac (a0 : Int) (r : Int × Bool) (h : resource_numbers_1 a0 = some r) : AC Tryd.prog 138 [(.d (.int .i64 a0))] [] (.tup [(.d (.int .i64 r.1)), (.d (.bool r.2))]) [] := by
 refine AC.of_code2 Tryd.func138 rfl rfl (Nat.le_of_ble_eq_true (by rfl)) fun B hB hN => ?_
 delta resource_numbers_1 at h
 refine sr (c (OpJ.assign (ltN hN rfl) (Opd.int .i64 (0))) rfl (c (OpJ.assign (ltN hN rfl) (Opd.bool false)) rfl cn)) ?_
 refine gh [(0, _)] [] hB rfl rfl (by rfl) ?_
 refine sr (c (mv hN (q 0)) rfl (c (add6 (ltN hN rfl) (q 4) (Opd.int .i64 (1))) rfl (c (mv hN (q 0)) rfl (c (OpJ.lss (ltN hN rfl) (q 6) (Opd.int .i64 (4294967295))) rfl (c (OpJ.assign (ltN hN rfl) (q 5)) rfl (c (OpJ.assign (ltN hN rfl) (q 7)) rfl cn)))))) ?_
 refine gh [(2, _), (3, _)] [] hB rfl rfl (by rfl) ?_
 refine AWp.ret ?_
 obtain rfl := Option.some.inj h
 exact ⟨.inl rfl, _, _, (kp [(2, _), (3, _)] [] hB rfl rfl (by rfl)), [(i6 (w64 (a0 + (1 : Int)))), (bo (decide (a0 < (4294967295 : Int))))], (Res.tmp (by rfl) (by rfl) (Res.tmp (by rfl) (by rfl) Res.nil)), rfl, by rfl, by rfl, by rfl⟩

noncomputable def resource_order_valid_2_L0 (a0 : (List resource_part_int_)) (s1 : Int) : Option (((Unit) ⊕ (Unit)) ⊕ (Int)) :=
 (if (decide (s1 < (a0.length : Int))) = true then
 jn (fun _ : Unit =>
 some (.inr (w64 (s1 + (1 : Int))))) (fun j117 =>
 (idx a0 s1).bind fun x118 =>
 (cmp_Compare x118.ffrom x118.fto).bind fun r119 =>
 (if (decide ((0 : Int) < r119)) = true then
 some (.inl (.inl ()))
 else
 (if (s1 == (0 : Int)) = true then
 j117 ()
 else
 (idx a0 (w64 (s1 - (1 : Int)))).bind fun x122 =>
 (resource_numbers_1 x122.fto).bind fun r123 =>
 jn (fun m131 : Bool =>
 (if m131 = true then
 some (.inl (.inl ()))
 else
 j117 ())) (fun j132 =>
 (idx a0 (w64 (s1 - (1 : Int)))).bind fun x134 =>
 (cmp_Compare x134.fto x118.ffrom).bind fun r135 =>
 (if (decide ((0 : Int) ≤ r135)) = true then
 j132 true
 else
 (if r123.2 = true then
 (cmp_Compare r123.1 x118.ffrom).bind fun r138 =>
 j132 (r138 == (0 : Int))
 else
 j132 false))))))
 else
 some (.inl (.inr ())))
noncomputable def resource_order_valid_2 (a0 : (List resource_part_int_)) : Option (Bool) :=
 (loop (resource_order_valid_2_L0 a0) (0 : Int)).bind fun x139 => match x139 with
 | (.inl _) =>
  some false
 | (.inr _) =>
  some true
theorem resource_order_valid_2_ac (a0 : (List resource_part_int_)) (r : Bool) (h : resource_order_valid_2 a0 = some r) : AC Tryd.prog 51 [(.st [(.func 70 []), (.func 138 []), (.func 139 [])]), (.d (.list 2 (a0.map e_resource_part_int_)))] [] (.d (.bool r)) [] := by
 refine AC.of_code2 Tryd.func51 rfl rfl (Nat.le_of_ble_eq_true (by rfl)) fun B hB hN => ?_
 have L {d : Nat} (h : Nat.blt d Tryd.f51.ntmps = true) : d < B.N := ltN hN h
 delta resource_order_valid_2 at h
 refine sr (cg (OpJ.box hB (nm := 1002) (by decide) (by simp) rfl (L rfl) (q 0)) rfl (c (OpJ.assign (L rfl) (Opd.bool false)) rfl cn)) ?_
 refine gh [(1, _), (2, _)] [(1002, some _)] hB rfl rfl (by rfl) ?_
 refine AWp.seq ?_
 refine sr (c (mv hN (q 1)) rfl (c (OpJ.val (v' := (i6 (a0.length : Int))) (by simp) (OpJ.lenD Tryd.underlying83 (L rfl) (q 9))) rfl (c (mv hN (Opd.int .i64 (0))) rfl cn))) ?_
 refine gh [(1, _), (2, _), (9, _), (10, _), (11, _)] [(1002, some _)] hB rfl rfl (by rfl) ?_
 refine AWp.block ?_
 obtain ⟨x139, hx140, h⟩ := bindS h
 refine lg (resource_order_valid_2_L0 a0) (fun s1 : Int => ([(1, (.d (.list 2 (a0.map e_resource_part_int_)))), (2, (.ptr 1002 0 [])), (9, (.d (.list 2 (a0.map e_resource_part_int_)))), (10, (i6 (a0.length : Int))), (11, (i6 s1))] : EL)) (fun s1 : Int => ([(1002, some (.box 92 (.st [(.func 70 []), (.func 138 []), (.func 139 [])])))] : OL)) (fun (x : (Unit) ⊕ (Unit)) e E' O' => match x with | (.inl _p) => e = .ret ∧ Mat B E' O' ([(4, (bo false))] : EL) ([] : OL) | (.inr _p) => e = .exit 0 ∧ Mat B E' O' ([] : EL) ([] : OL)) hx140 (mp [] _ _ hB) (fun s1 y h => ?_) (fun e E' O' hR => ?_)
 ·unfold resource_order_valid_2_L0 at h
  refine sr (c (OpJ.lss (L rfl) (q 11) (q 10)) rfl cn) ?_
  refine gh [(1, _), (2, _), (9, _), (10, _), (11, _), (12, _)] [(1002, some _)] hB rfl rfl (by rfl) ?_
  refine AWp.seq ?_
  refine AWp.cond rfl (fun hg94 => ?_) (fun hg94 => ?_)
  ·replace h := ite_t hg94 h
   refine AWp.skip ?_
   refine seqQ_n ?_
   refine AWp.seq ?_
   refine AWp.cut h (fun _ : Unit => ([(1, (.d (.list 2 (a0.map e_resource_part_int_)))), (2, (.ptr 1002 0 [])), (9, (.d (.list 2 (a0.map e_resource_part_int_)))), (10, (i6 (a0.length : Int))), (11, (i6 s1))] : EL)) (fun _ : Unit => ([(1002, some (.box 92 (.st [(.func 70 []), (.func 138 []), (.func 139 [])])))] : OL)) (fun _m h E' O' hmat => ?_) (fun j117 hjj117 h => ?_)
   ·refine seqQ_n ?_
    refine AWp.ghost hmat ?_
    refine rg (c (add6 (L rfl) (q 11) (Opd.int .i64 (1))) rfl (c (mv hN (q 62)) rfl cn)) ?_
    obtain rfl := Option.some.inj h
    exact ⟨rfl, (Mat.trans (mp [] [(1, (.d (.list 2 (a0.map e_resource_part_int_)))), (2, (.ptr 1002 0 [])), (9, (.d (.list 2 (a0.map e_resource_part_int_)))), (10, (i6 (a0.length : Int))), (11, (i6 (w64 (s1 + (1 : Int)))))] [(1002, some (.box 92 (.st [(.func 70 []), (.func 138 []), (.func 139 [])])))] hB) (mp [] _ _ hB))⟩
   ·refine AWp.block ?_
    obtain ⟨x118, hx118, h⟩ := bindS h
    refine sr (c (mv hN (q 11)) rfl (c (OpJ.indexD Tryd.underlying83 tyS122 (idx_some hx118).1 (get_map e_resource_part_int_ (idx_some hx118).2) (L rfl) (q 9) (q 11)) rfl (c (OpJ.loadD tyS122 (by rfl) (by rfl) (L rfl) (q 14)) rfl (cg (OpJ.alloc hB tyZ122 (nm := 1006) (by decide) (L rfl)) rfl (c (OpJ.assign (L rfl) (q 13)) rfl (cg (OpJ.storeB tyS122 (SetAt.here _ _) (by rfl) (by rfl) (by simp) rfl (q 6) (q 15)) rfl cn)))))) ?_
    refine gh [(1, _), (2, _), (5, _), (6, _), (9, _), (10, _), (11, _)] [(1002, some _), (1006, some _)] hB rfl rfl (by rfl) ?_
    refine AWp.seq ?_
    obtain ⟨r119, hr119, h⟩ := bindS h
    refine sr (c (ov (.ptr 1002 0 [0]) (fp hN Tryd.underlying92 0 tyS39 _ (q 2))) rfl (c (lb hN 92 _ (.func 70 []) tyS39 (At.st1 (f := (.func 70 [])) (by rfl) (by rfl) (At.here _) (by first | rfl | omega)) (q 16)) rfl (c (ov (.ptr 1006 0 [0]) (fp hN Tryd.underlying122 0 tyS3 _ (q 6))) rfl (c (lb hN 122 _ _ tyS3 (ad _) (q 18)) rfl (c (ov (.ptr 1006 1 [1]) (fp hN Tryd.underlying122 1 tyS3 _ (q 6))) rfl (c (lb hN 122 _ _ tyS3 (ad _) (q 20)) rfl (cg (OpJ.callVal (args := [(i6 x118.ffrom), (i6 x118.fto)]) (caps := []) hB fnOk70 [] (cmp_Compare_ac x118.ffrom x118.fto r119 hr119) (by kernel_rfl) (L rfl) (by kernel_rfl) (by kernel_rfl) (OpdL.cons (q 19) (OpdL.cons (q 21) OpdL.nil))) rfl (c (OpJ.gtr (L rfl) (q 22) (Opd.int .i64 (0))) rfl cn)))))))) ?_
    refine gh [(1, _), (2, _), (5, _), (6, _), (9, _), (10, _), (11, _), (23, _)] [(1002, some _), (1006, some _)] hB rfl rfl (by rfl) ?_
    refine AWp.cond rfl (fun hg120 => ?_) (fun hg120 => ?_)
    ·replace h := ite_t hg120 h
     refine sr (c (OpJ.assign (L rfl) (Opd.bool false)) rfl cn) ?_
     refine gh [(4, _)] [] hB rfl rfl (by rfl) ?_
     refine AWp.ret ?_
     refine seqQ_r ?_
     refine blkQ_r ?_
     refine seqQ_r ?_
     obtain rfl := Option.some.inj h
     exact ⟨(fun hc => by cases hc), rfl, (mp [] _ _ hB)⟩
    ·replace h := ite_f hg120 h
     refine AWp.skip ?_
     refine seqQ_n ?_
     refine AWp.seq ?_
     refine sr (c (mv hN (q 5)) rfl (c (OpJ.eqlI (L rfl) (q 24) (Opd.int .i64 (0))) rfl cn)) ?_
     refine gh [(1, _), (2, _), (5, _), (6, _), (9, _), (10, _), (11, _), (25, _)] [(1002, some _), (1006, some _)] hB rfl rfl (by rfl) ?_
     refine AWp.cond rfl (fun hg121 => ?_) (fun hg121 => ?_)
     ·replace h := ite_t hg121 h
      refine AWp.exit ?_
      refine seqQ_e ?_
      refine blkQ_hit ?_
      exact hjj117 _ h _ _ (mp [] _ _ hB)
     ·replace h := ite_f hg121 h
      refine AWp.skip ?_
      refine seqQ_n ?_
      obtain ⟨x122, hx122, h⟩ := bindS h
      obtain ⟨r123, hr123, h⟩ := bindS h
      refine sd (c (ov (.ptr 1002 1 [1]) (fp hN Tryd.underlying92 1 tyS90 _ (q 2))) rfl (c (lb hN 92 _ (.func 138 []) tyS90 (At.st1 (f := (.func 138 [])) (by rfl) (by rfl) (At.here _) (by first | rfl | omega)) (q 27)) rfl (c (mv hN (q 1)) rfl (c (mv hN (q 5)) rfl (c (sub6 (L rfl) (q 30) (Opd.int .i64 (1))) rfl (c (OpJ.indexD Tryd.underlying83 tyS122 (idx_some hx122).1 (get_map e_resource_part_int_ (idx_some hx122).2) (L rfl) (q 29) (q 31)) rfl (c (OpJ.fieldD Tryd.underlying122 (by rfl) (o := 1) (by rfl) tyS3 (by decide) (by rfl) (by rfl) (L rfl) (q 32)) rfl (c (OpJ.loadD tyS3 (by rfl) (by rfl) (L rfl) (q 33)) rfl (cg (OpJ.callVal (args := [(i6 x122.fto)]) (caps := []) hB fnOk138 [] (resource_numbers_1_ac x122.fto r123 hr123) (by kernel_rfl) (L rfl) (by kernel_rfl) (by kernel_rfl) (OpdL.cons (q 34) OpdL.nil)) rfl (c (mv hN (q 35)) rfl (c (OpJ.extract (by rfl) rfl (L rfl) (q 26)) rfl (c (OpJ.extract (by rfl) rfl (L rfl) (q 26)) rfl (c (OpJ.assign (L rfl) (q 36)) rfl (c (OpJ.assign (L rfl) (q 37)) rfl cn)))))))))))))) (by kernel_rfl) (by kernel_rfl) ?_
      refine gh [(1, _), (2, _), (5, _), (6, _), (7, _), (8, _), (9, _), (10, _), (11, _)] [(1002, some _), (1006, some _)] hB rfl rfl (by rfl) ?_
      refine AWp.seq ?_
      refine AWp.cut h (fun m131 : Bool => ([(1, (.d (.list 2 (a0.map e_resource_part_int_)))), (2, (.ptr 1002 0 [])), (9, (.d (.list 2 (a0.map e_resource_part_int_)))), (10, (i6 (a0.length : Int))), (11, (i6 s1)), (61, (bo m131))] : EL)) (fun m131 : Bool => ([(1002, some (.box 92 (.st [(.func 70 []), (.func 138 []), (.func 139 [])])))] : OL)) (fun m131 h E' O' hmat => ?_) (fun j132 hjj132 h => ?_)
      ·refine seqQ_n ?_
       refine AWp.ghost hmat ?_
       refine AWp.cond rfl (fun hg133 => ?_) (fun hg133 => ?_)
       ·replace h := ite_t hg133 h
        refine sr (c (OpJ.assign (L rfl) (Opd.bool false)) rfl cn) ?_
        refine gh [(4, _)] [] hB rfl rfl (by rfl) ?_
        refine AWp.ret ?_
        refine blkQ_r ?_
        refine seqQ_r ?_
        obtain rfl := Option.some.inj h
        exact ⟨(fun hc => by cases hc), rfl, (mp [] _ _ hB)⟩
       ·replace h := ite_f hg133 h
        refine AWp.skip ?_
        refine blkQ_n ?_
        exact hjj117 _ h _ _ (mp [] _ _ hB)
      ·obtain ⟨x134, hx134, h⟩ := bindS h
       obtain ⟨r135, hr135, h⟩ := bindS h
       rcases Bool.eq_false_or_eq_true (decide ((0 : Int) ≤ r135)) with hg136 | hg136
       ·replace h := ite_t hg136 h
        refine dr (c (ov (.ptr 1002 0 [0]) (fp hN Tryd.underlying92 0 tyS39 _ (q 2))) rfl (c (lb hN 92 _ (.func 70 []) tyS39 (At.st1 (f := (.func 70 [])) (by rfl) (by rfl) (At.here _) (by first | rfl | omega)) (q 38)) rfl (c (mv hN (q 1)) rfl (c (mv hN (q 5)) rfl (c (sub6 (L rfl) (q 41) (Opd.int .i64 (1))) rfl (c (OpJ.indexD Tryd.underlying83 tyS122 (idx_some hx134).1 (get_map e_resource_part_int_ (idx_some hx134).2) (L rfl) (q 40) (q 42)) rfl (c (OpJ.fieldD Tryd.underlying122 (by rfl) (o := 1) (by rfl) tyS3 (by decide) (by rfl) (by rfl) (L rfl) (q 43)) rfl (c (OpJ.loadD tyS3 (by rfl) (by rfl) (L rfl) (q 44)) rfl (c (ov (.ptr 1006 0 [0]) (fp hN Tryd.underlying122 0 tyS3 _ (q 6))) rfl (c (lb hN 122 _ _ tyS3 (ad _) (q 46)) rfl (cg (OpJ.callVal (args := [(i6 x134.fto), (i6 x118.ffrom)]) (caps := []) hB fnOk70 [] (cmp_Compare_ac x134.fto x118.ffrom r135 hr135) (by kernel_rfl) (L rfl) (by kernel_rfl) (by kernel_rfl) (OpdL.cons (q 45) (OpdL.cons (q 47) OpdL.nil))) rfl (c (OpJ.geq (L rfl) (q 48) (Opd.int .i64 (0))) rfl (c (OpJ.val (v' := .d (.bool true)) (by rw [hg136] <;> rfl) (mv hN (q 49))) rfl (cg (sU 50 (L rfl)) rfl (cg (sU 50 (L rfl)) rfl (cg (sV 52 (L rfl)) rfl (cg (sV 52 (L rfl)) rfl (cg (sV 52 (L rfl)) rfl (cg (sV 52 (L rfl)) rfl (cg (sV 52 (L rfl)) rfl (cg (sV 52 (L rfl)) rfl (cg (sV 52 (L rfl)) rfl (cg (sU 50 (L rfl)) rfl (c (OpJ.pickT (L rfl) (q 50) (Opd.bool true)) rfl cn)))))))))))))))))))))))) (by kernel_rfl) (by kernel_rfl) ?_
        exact hjj132 _ h _ _ (Mat.trans (mp [] [(1, (.d (.list 2 (a0.map e_resource_part_int_)))), (2, (.ptr 1002 0 [])), (9, (.d (.list 2 (a0.map e_resource_part_int_)))), (10, (i6 (a0.length : Int))), (11, (i6 s1)), (61, (bo true))] [(1002, some (.box 92 (.st [(.func 70 []), (.func 138 []), (.func 139 [])])))] hB) (mp [] _ _ hB))
       ·replace h := ite_f hg136 h
        rcases Bool.eq_false_or_eq_true r123.2 with hg137 | hg137
        ·replace h := ite_t hg137 h
         obtain ⟨r138, hr138, h⟩ := bindS h
         refine dr (c (ov (.ptr 1002 0 [0]) (fp hN Tryd.underlying92 0 tyS39 _ (q 2))) rfl (c (lb hN 92 _ (.func 70 []) tyS39 (At.st1 (f := (.func 70 [])) (by rfl) (by rfl) (At.here _) (by first | rfl | omega)) (q 38)) rfl (c (mv hN (q 1)) rfl (c (mv hN (q 5)) rfl (c (sub6 (L rfl) (q 41) (Opd.int .i64 (1))) rfl (c (OpJ.indexD Tryd.underlying83 tyS122 (idx_some hx134).1 (get_map e_resource_part_int_ (idx_some hx134).2) (L rfl) (q 40) (q 42)) rfl (c (OpJ.fieldD Tryd.underlying122 (by rfl) (o := 1) (by rfl) tyS3 (by decide) (by rfl) (by rfl) (L rfl) (q 43)) rfl (c (OpJ.loadD tyS3 (by rfl) (by rfl) (L rfl) (q 44)) rfl (c (ov (.ptr 1006 0 [0]) (fp hN Tryd.underlying122 0 tyS3 _ (q 6))) rfl (c (lb hN 122 _ _ tyS3 (ad _) (q 46)) rfl (cg (OpJ.callVal (args := [(i6 x134.fto), (i6 x118.ffrom)]) (caps := []) hB fnOk70 [] (cmp_Compare_ac x134.fto x118.ffrom r135 hr135) (by kernel_rfl) (L rfl) (by kernel_rfl) (by kernel_rfl) (OpdL.cons (q 45) (OpdL.cons (q 47) OpdL.nil))) rfl (c (OpJ.geq (L rfl) (q 48) (Opd.int .i64 (0))) rfl (c (OpJ.val (v' := .d (.bool false)) (by rw [hg136] <;> rfl) (mv hN (q 49))) rfl (c (gd 50 (mv hN (q 8))) rfl (c (gd 50 (OpJ.val (v' := .d (.bool true)) (by rw [hg137] <;> rfl) (mv hN (q 51)))) rfl (c (gd 52 (ov (.ptr 1002 0 [0]) (fp hN Tryd.underlying92 0 tyS39 _ (q 2)))) rfl (c (gd 52 (lb hN 92 _ (.func 70 []) tyS39 (At.st1 (f := (.func 70 [])) (by rfl) (by rfl) (At.here _) (by first | rfl | omega)) (q 53))) rfl (c (gd 52 (mv hN (q 7))) rfl (c (gd 52 (ov (.ptr 1006 0 [0]) (fp hN Tryd.underlying122 0 tyS3 _ (q 6)))) rfl (c (gd 52 (lb hN 122 _ _ tyS3 (ad _) (q 56))) rfl (cg (gd 52 (OpJ.callVal (args := [(i6 r123.1), (i6 x118.ffrom)]) (caps := []) hB fnOk70 [] (cmp_Compare_ac r123.1 x118.ffrom r138 hr138) (by kernel_rfl) (L rfl) (by kernel_rfl) (by kernel_rfl) (OpdL.cons (q 55) (OpdL.cons (q 57) OpdL.nil)))) rfl (c (gd 52 (OpJ.eqlI (L rfl) (q 58) (Opd.int .i64 (0)))) rfl (c (gd 50 (OpJ.pickT (L rfl) (q 52) (q 59))) rfl (c (OpJ.pickF (L rfl) (q 50) (q 60)) rfl cn)))))))))))))))))))))))) (by kernel_rfl) (by kernel_rfl) ?_
         exact hjj132 _ h _ _ (Mat.trans (mp [] [(1, (.d (.list 2 (a0.map e_resource_part_int_)))), (2, (.ptr 1002 0 [])), (9, (.d (.list 2 (a0.map e_resource_part_int_)))), (10, (i6 (a0.length : Int))), (11, (i6 s1)), (61, (bo (r138 == (0 : Int))))] [(1002, some (.box 92 (.st [(.func 70 []), (.func 138 []), (.func 139 [])])))] hB) (mp [] _ _ hB))
        ·replace h := ite_f hg137 h
         refine dr (c (ov (.ptr 1002 0 [0]) (fp hN Tryd.underlying92 0 tyS39 _ (q 2))) rfl (c (lb hN 92 _ (.func 70 []) tyS39 (At.st1 (f := (.func 70 [])) (by rfl) (by rfl) (At.here _) (by first | rfl | omega)) (q 38)) rfl (c (mv hN (q 1)) rfl (c (mv hN (q 5)) rfl (c (sub6 (L rfl) (q 41) (Opd.int .i64 (1))) rfl (c (OpJ.indexD Tryd.underlying83 tyS122 (idx_some hx134).1 (get_map e_resource_part_int_ (idx_some hx134).2) (L rfl) (q 40) (q 42)) rfl (c (OpJ.fieldD Tryd.underlying122 (by rfl) (o := 1) (by rfl) tyS3 (by decide) (by rfl) (by rfl) (L rfl) (q 43)) rfl (c (OpJ.loadD tyS3 (by rfl) (by rfl) (L rfl) (q 44)) rfl (c (ov (.ptr 1006 0 [0]) (fp hN Tryd.underlying122 0 tyS3 _ (q 6))) rfl (c (lb hN 122 _ _ tyS3 (ad _) (q 46)) rfl (cg (OpJ.callVal (args := [(i6 x134.fto), (i6 x118.ffrom)]) (caps := []) hB fnOk70 [] (cmp_Compare_ac x134.fto x118.ffrom r135 hr135) (by kernel_rfl) (L rfl) (by kernel_rfl) (by kernel_rfl) (OpdL.cons (q 45) (OpdL.cons (q 47) OpdL.nil))) rfl (c (OpJ.geq (L rfl) (q 48) (Opd.int .i64 (0))) rfl (c (OpJ.val (v' := .d (.bool false)) (by rw [hg136] <;> rfl) (mv hN (q 49))) rfl (c (gd 50 (mv hN (q 8))) rfl (c (gd 50 (OpJ.val (v' := .d (.bool false)) (by rw [hg137] <;> rfl) (mv hN (q 51)))) rfl (cg (sU 52 (L rfl)) rfl (cg (sU 52 (L rfl)) rfl (cg (sU 52 (L rfl)) rfl (cg (sU 52 (L rfl)) rfl (cg (sU 52 (L rfl)) rfl (cg (sU 52 (L rfl)) rfl (cg (sU 52 (L rfl)) rfl (c (gd 50 (OpJ.pickF (L rfl) (q 52) (Opd.bool false))) rfl (c (OpJ.pickF (L rfl) (q 50) (q 60)) rfl cn)))))))))))))))))))))))) (by kernel_rfl) (by kernel_rfl) ?_
         exact hjj132 _ h _ _ (Mat.trans (mp [] [(1, (.d (.list 2 (a0.map e_resource_part_int_)))), (2, (.ptr 1002 0 [])), (9, (.d (.list 2 (a0.map e_resource_part_int_)))), (10, (i6 (a0.length : Int))), (11, (i6 s1)), (61, (bo false))] [(1002, some (.box 92 (.st [(.func 70 []), (.func 138 []), (.func 139 [])])))] hB) (mp [] _ _ hB))
  ·replace h := ite_f hg94 h
   refine AWp.exit ?_
   refine seqQ_e ?_
   obtain rfl := Option.some.inj h
   exact ⟨(fun hc => by cases hc), rfl, (mp [] _ _ hB)⟩
 ·rcases x139 with _ | _
  ·obtain ⟨rfl, hmat⟩ := hR
   refine blkQ_r ?_
   refine seqQ_r ?_
   obtain rfl := Option.some.inj h
   exact ⟨.inl rfl, _, _, (Mat.trans hmat (mp [] [(4, (bo false))] [] hB)), [(bo false)], (Res.tmp (by rfl) (by rfl) Res.nil), rfl, by rfl, by rfl, by rfl⟩
  ·obtain ⟨rfl, hmat⟩ := hR
   refine blkQ_hit ?_
   refine seqQ_n ?_
   refine AWp.ghost hmat ?_
   refine sr (c (OpJ.assign (L rfl) (Opd.bool true)) rfl cn) ?_
   refine gh [(4, _)] [] hB rfl rfl (by rfl) ?_
   refine AWp.ret ?_
   obtain rfl := Option.some.inj h
   exact ⟨.inl rfl, _, _, (kp [(4, _)] [] hB rfl rfl (by rfl)), [(bo true)], (Res.tmp (by rfl) (by rfl) Res.nil), rfl, by rfl, by rfl, by rfl⟩

noncomputable def resource_Valid_L0 (a0 : api_Resources) (s1 : Int) : Option (((Unit) ⊕ (Unit)) ⊕ (Int)) :=
 (if (decide (s1 < (a0.fAddrs.length : Int))) = true then
 (idx a0.fAddrs s1).bind fun x29 =>
 jn (fun m34 : Bool =>
 (if m34 = true then
 some (.inl (.inl ()))
 else
 some (.inr (w64 (s1 + (1 : Int)))))) (fun j35 =>
 (addr_Valid x29.fFrom).bind fun r37 =>
 (if (!r37) = true then
 j35 true
 else
 (addr_Valid x29.fTo).bind fun r39 =>
 j35 ((!r39) || (x29.fFrom.fV6 != x29.fTo.fV6))))
 else
 some (.inl (.inr ())))
noncomputable def resource_Valid (a0 : api_Resources) : Option (Bool) :=
 (loop (resource_Valid_L0 a0) (0 : Int)).bind fun x40 => match x40 with
 | (.inl _) =>
  some false
 | (.inr _) =>
  (slices_ContainsFunc a0.fASNs).bind fun r42 =>
  (if r42 = true then
  some false
  else
  (resource_of a0).bind fun r44 =>
  jn (fun m49 : Bool =>
  some m49) (fun j50 =>
  (if ((decide ((a0.fAddrs.length : Int) ≤ (256 : Int))) && (decide ((a0.fASNs.length : Int) ≤ (256 : Int)))) = true then
  (resource_order_valid r44.faddrs).bind fun r52 =>
  (if r52 = true then
  (resource_order_valid_2 r44.fasns).bind fun r54 =>
  j50 r54
  else
  j50 false)
  else
  j50 false)))
theorem resource_Valid_ac (a0 : api_Resources) (r : Bool) (h : resource_Valid a0 = some r) : AC Tryd.prog 20 [(.d (e_api_Resources a0))] [(500, (.know (globF 0 [35, 37, 137]))), (501, (.know (globF 1 [70, 138, 139])))] (.d (.bool r)) [(500, some (.know (globF 0 [35, 37, 137]))), (501, some (.know (globF 1 [70, 138, 139])))] := by
 refine AC.of_code2 Tryd.func20 rfl rfl (Nat.le_of_ble_eq_true (by rfl)) fun B hB hN => ?_
 have L {d : Nat} (h : Nat.blt d Tryd.f20.ntmps = true) : d < B.N := ltN hN h
 delta resource_Valid at h
 refine sr (cg (OpJ.box hB (nm := 1001) (by decide) (by simp) rfl (L rfl) (q 0)) rfl (c (OpJ.assign (L rfl) (Opd.bool false)) rfl cn)) ?_
 refine gh [(1, _)] [(500, some _), (501, some _), (1001, some _)] hB rfl rfl (by rfl) ?_
 refine AWp.seq ?_
 refine sr (c (ov (.ptr 1001 0 [0]) (fp hN Tryd.underlying28 0 tyS25 _ (q 1))) rfl (c (lb hN 28 _ _ tyS25 (ad _) (q 6)) rfl (c (OpJ.val (v' := (i6 (a0.fAddrs.length : Int))) (by simp) (OpJ.lenD Tryd.underlying25 (L rfl) (q 7))) rfl (c (mv hN (Opd.int .i64 (0))) rfl cn)))) ?_
 refine gh [(1, _), (7, _), (8, _), (9, _)] [(500, some _), (501, some _), (1001, some _)] hB rfl rfl (by rfl) ?_
 refine AWp.block ?_
 obtain ⟨x40, hx41, h⟩ := bindS h
 refine lg (resource_Valid_L0 a0) (fun s1 : Int => ([(1, (.ptr 1001 0 [])), (7, (qe_api_Range_6 a0.fAddrs)), (8, (i6 (a0.fAddrs.length : Int))), (9, (i6 s1))] : EL)) (fun s1 : Int => ([(500, some (.know (globF 0 [35, 37, 137]))), (501, some (.know (globF 1 [70, 138, 139]))), (1001, some (.box 28 (.d (e_api_Resources a0))))] : OL)) (fun (x : (Unit) ⊕ (Unit)) e E' O' => match x with | (.inl _p) => e = .ret ∧ Mat B E' O' ([(2, (bo false))] : EL) ([(500, some (.know (globF 0 [35, 37, 137]))), (501, some (.know (globF 1 [70, 138, 139])))] : OL) | (.inr _p) => e = .exit 0 ∧ Mat B E' O' ([(1, (.ptr 1001 0 []))] : EL) ([(500, some (.know (globF 0 [35, 37, 137]))), (501, some (.know (globF 1 [70, 138, 139]))), (1001, some (.box 28 (.d (e_api_Resources a0))))] : OL)) hx41 (mp [] _ _ hB) (fun s1 y h => ?_) (fun e E' O' hR => ?_)
 ·unfold resource_Valid_L0 at h
  refine sr (c (OpJ.lss (L rfl) (q 9) (q 8)) rfl cn) ?_
  refine gh [(1, _), (7, _), (8, _), (9, _), (10, _)] [(500, some _), (501, some _), (1001, some _)] hB rfl rfl (by rfl) ?_
  refine AWp.seq ?_
  refine AWp.cond rfl (fun hg28 => ?_) (fun hg28 => ?_)
  ·replace h := ite_t hg28 h
   refine AWp.skip ?_
   refine seqQ_n ?_
   refine AWp.seq ?_
   refine AWp.block ?_
   obtain ⟨x29, hx29, h⟩ := bindS h
   refine sr (c (OpJ.indexD Tryd.underlying25 tyS68 (idx_some hx29).1 (get_map e_api_Range (idx_some hx29).2) (L rfl) (q 7) (q 9)) rfl (c (OpJ.loadD tyS68 (by rfl) (by rfl) (L rfl) (q 11)) rfl (cg (OpJ.alloc hB tyZ68 (nm := 1004) (by decide) (L rfl)) rfl (cg (OpJ.storeB tyS68 (SetAt.here _ _) (by rfl) (by rfl) (by simp) rfl (q 4) (q 12)) rfl cn)))) ?_
   refine gh [(1, _), (4, _), (7, _), (8, _), (9, _)] [(500, some _), (501, some _), (1001, some _), (1004, some _)] hB rfl rfl (by rfl) ?_
   refine AWp.seq ?_
   refine AWp.cut h (fun m34 : Bool => ([(1, (.ptr 1001 0 [])), (7, (qe_api_Range_6 a0.fAddrs)), (8, (i6 (a0.fAddrs.length : Int))), (9, (i6 s1)), (31, (bo m34))] : EL)) (fun m34 : Bool => ([(500, some (.know (globF 0 [35, 37, 137]))), (501, some (.know (globF 1 [70, 138, 139]))), (1001, some (.box 28 (.d (e_api_Resources a0))))] : OL)) (fun m34 h E' O' hmat => ?_) (fun j35 hjj35 h => ?_)
   ·refine seqQ_n ?_
    refine AWp.ghost hmat ?_
    refine AWp.cond rfl (fun hg36 => ?_) (fun hg36 => ?_)
    ·replace h := ite_t hg36 h
     refine sr (c (OpJ.assign (L rfl) (Opd.bool false)) rfl cn) ?_
     refine gh [(2, _)] [(500, some _), (501, some _)] hB rfl rfl (by rfl) ?_
     refine AWp.ret ?_
     refine blkQ_r ?_
     refine seqQ_r ?_
     obtain rfl := Option.some.inj h
     exact ⟨(fun hc => by cases hc), rfl, (mp [] _ _ hB)⟩
    ·replace h := ite_f hg36 h
     refine AWp.skip ?_
     refine blkQ_n ?_
     refine seqQ_n ?_
     refine rg (c (add6 (L rfl) (q 9) (Opd.int .i64 (1))) rfl (c (mv hN (q 32)) rfl cn)) ?_
     obtain rfl := Option.some.inj h
     exact ⟨rfl, (Mat.trans (mp [] [(1, (.ptr 1001 0 [])), (7, (qe_api_Range_6 a0.fAddrs)), (8, (i6 (a0.fAddrs.length : Int))), (9, (i6 (w64 (s1 + (1 : Int)))))] [(500, some (.know (globF 0 [35, 37, 137]))), (501, some (.know (globF 1 [70, 138, 139]))), (1001, some (.box 28 (.d (e_api_Resources a0))))] hB) (mp [] _ _ hB))⟩
   ·obtain ⟨r37, hr37, h⟩ := bindS h
    rcases Bool.eq_false_or_eq_true (!r37) with hg38 | hg38
    ·replace h := ite_t hg38 h
     refine rg (c (ov (.ptr 1004 0 [0]) (fp hN Tryd.underlying68 0 tyS32 _ (q 4))) rfl (c (lb hN 68 _ _ tyS32 (ad _) (q 13)) rfl (cg (cf hB fnOk46 (addr_Valid_ac x29.fFrom r37 hr37) (L rfl) (OpdL.cons (q 14) OpdL.nil)) rfl (c (OpJ.not (L rfl) (q 15)) rfl (c (OpJ.val (v' := .d (.bool true)) (by rw [hg38] <;> rfl) (mv hN (q 16))) rfl (cg (sU 17 (L rfl)) rfl (cg (sU 17 (L rfl)) rfl (cg (sU 17 (L rfl)) rfl (cg (sU 17 (L rfl)) rfl (c (OpJ.pickT (L rfl) (q 17) (Opd.bool true)) rfl (c (mv hN (q 22)) rfl (cg (sU 23 (L rfl)) rfl (cg (sU 23 (L rfl)) rfl (cg (sU 23 (L rfl)) rfl (cg (sU 23 (L rfl)) rfl (cg (sU 23 (L rfl)) rfl (cg (sU 23 (L rfl)) rfl (cg (sU 23 (L rfl)) rfl (c (OpJ.pickT (L rfl) (q 23) (Opd.bool true)) rfl cn))))))))))))))))))) ?_
     exact hjj35 _ h _ _ (Mat.trans (mp [] [(1, (.ptr 1001 0 [])), (7, (qe_api_Range_6 a0.fAddrs)), (8, (i6 (a0.fAddrs.length : Int))), (9, (i6 s1)), (31, (bo true))] [(500, some (.know (globF 0 [35, 37, 137]))), (501, some (.know (globF 1 [70, 138, 139]))), (1001, some (.box 28 (.d (e_api_Resources a0))))] hB) (mp [] _ _ hB))
    ·replace h := ite_f hg38 h
     obtain ⟨r39, hr39, h⟩ := bindS h
     refine rg (c (ov (.ptr 1004 0 [0]) (fp hN Tryd.underlying68 0 tyS32 _ (q 4))) rfl (c (lb hN 68 _ _ tyS32 (ad _) (q 13)) rfl (cg (cf hB fnOk46 (addr_Valid_ac x29.fFrom r37 hr37) (L rfl) (OpdL.cons (q 14) OpdL.nil)) rfl (c (OpJ.not (L rfl) (q 15)) rfl (c (OpJ.val (v' := .d (.bool false)) (by rw [hg38] <;> rfl) (mv hN (q 16))) rfl (c (gd 17 (ov (.ptr 1004 3 [1]) (fp hN Tryd.underlying68 3 tyS32 _ (q 4)))) rfl (c (gd 17 (lb hN 68 _ _ tyS32 (ad _) (q 18))) rfl (cg (gd 17 (cf hB fnOk46 (addr_Valid_ac x29.fTo r39 hr39) (L rfl) (OpdL.cons (q 19) OpdL.nil))) rfl (c (gd 17 (OpJ.not (L rfl) (q 20))) rfl (c (OpJ.pickF (L rfl) (q 17) (q 21)) rfl (c (mv hN (q 22)) rfl (c (oq hN 23 (ov (.ptr 1004 0 [0]) (fp hN Tryd.underlying68 0 tyS32 _ (q 4))) (OptL.keep (by rfl) OptL.nil) (GuardV.plain _)) rfl (c (oq hN 23 (ov (.ptr 1004 0 [0, 0]) (fp hN Tryd.underlying32 0 tyS4 _ (q 24))) (OptL.opt OptL.nil) (GuardV.plain _)) rfl (c (oq hN 23 (lb hN 68 _ _ tyS4 (At.dst1 (by rfl) (by rfl) (ad _) (by first | rfl | omega)) (q 25)) (OptL.opt OptL.nil) (GuardV.plain _)) rfl (c (oq hN 23 (ov (.ptr 1004 3 [1]) (fp hN Tryd.underlying68 3 tyS32 _ (q 4))) (OptL.keep (by rfl) OptL.nil) (GuardV.plain _)) rfl (c (oq hN 23 (ov (.ptr 1004 3 [1, 0]) (fp hN Tryd.underlying32 0 tyS4 _ (q 27))) (OptL.opt OptL.nil) (GuardV.plain _)) rfl (c (oq hN 23 (lb hN 68 _ _ tyS4 (At.dst1 (by rfl) (by rfl) (ad _) (by first | rfl | omega)) (q 28)) (OptL.opt OptL.nil) (GuardV.plain _)) rfl (c (oq hN 23 (OpJ.neqB Tryd.underlying4 (L rfl) (q 26) (q 29)) (OptL.opt (OptL.opt OptL.nil)) (GuardV.plain _)) rfl (c (OpJ.pickOr rfl (L rfl) (q 23) (q 30)) rfl cn))))))))))))))))))) ?_
     exact hjj35 _ h _ _ (Mat.trans (mp [] [(1, (.ptr 1001 0 [])), (7, (qe_api_Range_6 a0.fAddrs)), (8, (i6 (a0.fAddrs.length : Int))), (9, (i6 s1)), (31, (bo ((!r39) || (x29.fFrom.fV6 != x29.fTo.fV6))))] [(500, some (.know (globF 0 [35, 37, 137]))), (501, some (.know (globF 1 [70, 138, 139]))), (1001, some (.box 28 (.d (e_api_Resources a0))))] hB) (mp [] _ _ hB))
  ·replace h := ite_f hg28 h
   refine AWp.exit ?_
   refine seqQ_e ?_
   obtain rfl := Option.some.inj h
   exact ⟨(fun hc => by cases hc), rfl, (mp [] _ _ hB)⟩
 ·rcases x40 with _ | _
  ·obtain ⟨rfl, hmat⟩ := hR
   refine blkQ_r ?_
   refine seqQ_r ?_
   obtain rfl := Option.some.inj h
   exact ⟨.inl rfl, _, _, (Mat.trans hmat (mp [] [(2, (bo false))] [(500, some (.know (globF 0 [35, 37, 137]))), (501, some (.know (globF 1 [70, 138, 139])))] hB)), [(bo false)], (Res.tmp (by rfl) (by rfl) Res.nil), rfl, by rfl, by rfl, by rfl⟩
  ·obtain ⟨rfl, hmat⟩ := hR
   refine blkQ_hit ?_
   refine seqQ_n ?_
   refine AWp.ghost hmat ?_
   refine AWp.seq ?_
   obtain ⟨r42, hr42, h⟩ := bindS h
   refine sr (c (ov (.ptr 1001 1 [1]) (fp hN Tryd.underlying28 1 tyS26 _ (q 1))) rfl (c (lb hN 28 _ _ tyS26 (ad _) (q 33)) rfl (cg (cf hB fnOk43 (slices_ContainsFunc_ac a0.fASNs r42 hr42) (L rfl) (OpdL.cons (q 34) (OpdL.cons (Opd.func 47) OpdL.nil))) rfl cn))) ?_
   refine gh [(1, _), (35, _)] [(500, some _), (501, some _), (1001, some _)] hB rfl rfl (by rfl) ?_
   refine AWp.cond rfl (fun hg43 => ?_) (fun hg43 => ?_)
   ·replace h := ite_t hg43 h
    refine sr (c (OpJ.assign (L rfl) (Opd.bool false)) rfl cn) ?_
    refine gh [(2, _)] [(500, some _), (501, some _)] hB rfl rfl (by rfl) ?_
    refine AWp.ret ?_
    refine seqQ_r ?_
    obtain rfl := Option.some.inj h
    exact ⟨.inl rfl, _, _, (kp [(2, _)] [(500, some _), (501, some _)] hB rfl rfl (by rfl)), [(bo false)], (Res.tmp (by rfl) (by rfl) Res.nil), rfl, by rfl, by rfl, by rfl⟩
   ·replace h := ite_f hg43 h
    refine AWp.skip ?_
    refine seqQ_n ?_
    obtain ⟨r44, hr44, h⟩ := bindS h
    refine sr (c (lb hN 28 _ _ tyS28 (At.here _) (q 1)) rfl (cg (cf hB fnOk49 (resource_of_ac a0 r44 hr44) (L rfl) (OpdL.cons (q 36) OpdL.nil)) rfl (cg (OpJ.alloc hB tyZ85 (nm := 1005) (by decide) (L rfl)) rfl (cg (OpJ.storeB tyS85 (SetAt.here _ _) (by rfl) (by rfl) (by simp) rfl (q 5) (q 37)) rfl cn)))) ?_
    refine gh [(1, _), (5, _)] [(500, some _), (501, some _), (1001, some _), (1005, some _)] hB rfl rfl (by rfl) ?_
    refine AWp.seq ?_
    refine AWp.cut h (fun m49 : Bool => ([(2, (bo m49))] : EL)) (fun m49 : Bool => ([(500, some (.know (globF 0 [35, 37, 137]))), (501, some (.know (globF 1 [70, 138, 139])))] : OL)) (fun m49 h E' O' hmat => ?_) (fun j50 hjj50 h => ?_)
    ·refine seqQ_n ?_
     refine AWp.ghost hmat ?_
     refine AWp.ret ?_
     obtain rfl := Option.some.inj h
     exact ⟨.inl rfl, _, _, (kp [(2, _)] [(500, some _), (501, some _)] hB rfl rfl (by rfl)), [(bo m49)], (Res.tmp (by rfl) (by rfl) Res.nil), rfl, by rfl, by rfl, by rfl⟩
    ·rcases Bool.eq_false_or_eq_true ((decide ((a0.fAddrs.length : Int) ≤ (256 : Int))) && (decide ((a0.fASNs.length : Int) ≤ (256 : Int)))) with hg51 | hg51
     ·replace h := ite_t hg51 h
      obtain ⟨r52, hr52, h⟩ := bindS h
      rcases Bool.eq_false_or_eq_true r52 with hg53 | hg53
      ·replace h := ite_t hg53 h
       obtain ⟨r54, hr54, h⟩ := bindS h
       refine rg (c (ov (.ptr 1001 0 [0]) (fp hN Tryd.underlying28 0 tyS25 _ (q 1))) rfl (c (lb hN 28 _ _ tyS25 (ad _) (q 38)) rfl (c (OpJ.val (v' := (i6 (a0.fAddrs.length : Int))) (by simp) (OpJ.lenD Tryd.underlying25 (L rfl) (q 39))) rfl (c (OpJ.leq (L rfl) (q 40) (Opd.int .i64 (256))) rfl (c (mv hN (q 41)) rfl (c (oq hN 42 (ov (.ptr 1001 1 [1]) (fp hN Tryd.underlying28 1 tyS26 _ (q 1))) (OptL.keep (by rfl) OptL.nil) (GuardV.plain _)) rfl (c (oq hN 42 (lb hN 28 _ _ tyS26 (ad _) (q 43)) (OptL.opt OptL.nil) (GuardV.plain _)) rfl (c (oq hN 42 (OpJ.val (v' := (i6 (a0.fASNs.length : Int))) (by simp) (OpJ.lenD Tryd.underlying26 (L rfl) (q 44))) (OptL.opt OptL.nil) (GuardV.plain _)) rfl (c (oq hN 42 (OpJ.leq (L rfl) (q 45) (Opd.int .i64 (256))) (OptL.opt OptL.nil) (GuardV.plain _)) rfl (c (OpJ.pickAnd rfl (L rfl) (q 42) (q 46)) rfl (c (OpJ.val (v' := .d (.bool true)) (by rw [hg51] <;> rfl) (mv hN (q 47))) rfl (cg (gd 48 (OpJ.loadG (nm := 500) [35, 37, 137] tyS88 rfl (L rfl))) rfl (c (gd 48 (ov (.ptr 1005 0 [0]) (fp hN Tryd.underlying85 0 tyS82 _ (q 5)))) rfl (c (gd 48 (lb hN 85 _ _ tyS82 (ad _) (q 50))) rfl (cg (gd 48 (cf hB fnOk50 (resource_order_valid_ac r44.faddrs r52 hr52) (L rfl) (OpdL.cons (q 49) (OpdL.cons (q 51) OpdL.nil)))) rfl (c (OpJ.pickT (L rfl) (q 48) (q 52)) rfl (c (OpJ.val (v' := .d (.bool true)) (by rw [hg53] <;> rfl) (mv hN (q 53))) rfl (cg (gd 54 (OpJ.loadG (nm := 501) [70, 138, 139] tyS92 rfl (L rfl))) rfl (c (gd 54 (ov (.ptr 1005 1 [1]) (fp hN Tryd.underlying85 1 tyS83 _ (q 5)))) rfl (c (gd 54 (lb hN 85 _ _ tyS83 (ad _) (q 56))) rfl (cg (gd 54 (cf hB fnOk51 (resource_order_valid_2_ac r44.fasns r54 hr54) (L rfl) (OpdL.cons (q 55) (OpdL.cons (q 57) OpdL.nil)))) rfl (c (OpJ.pickT (L rfl) (q 54) (q 58)) rfl (c (OpJ.assign (L rfl) (q 59)) rfl cn))))))))))))))))))))))) ?_
       exact hjj50 _ h _ _ (Mat.trans (mp [] [(2, (bo r54))] [(500, some (.know (globF 0 [35, 37, 137]))), (501, some (.know (globF 1 [70, 138, 139])))] hB) (mp [] _ _ hB))
      ·replace h := ite_f hg53 h
       refine rg (c (ov (.ptr 1001 0 [0]) (fp hN Tryd.underlying28 0 tyS25 _ (q 1))) rfl (c (lb hN 28 _ _ tyS25 (ad _) (q 38)) rfl (c (OpJ.val (v' := (i6 (a0.fAddrs.length : Int))) (by simp) (OpJ.lenD Tryd.underlying25 (L rfl) (q 39))) rfl (c (OpJ.leq (L rfl) (q 40) (Opd.int .i64 (256))) rfl (c (mv hN (q 41)) rfl (c (oq hN 42 (ov (.ptr 1001 1 [1]) (fp hN Tryd.underlying28 1 tyS26 _ (q 1))) (OptL.keep (by rfl) OptL.nil) (GuardV.plain _)) rfl (c (oq hN 42 (lb hN 28 _ _ tyS26 (ad _) (q 43)) (OptL.opt OptL.nil) (GuardV.plain _)) rfl (c (oq hN 42 (OpJ.val (v' := (i6 (a0.fASNs.length : Int))) (by simp) (OpJ.lenD Tryd.underlying26 (L rfl) (q 44))) (OptL.opt OptL.nil) (GuardV.plain _)) rfl (c (oq hN 42 (OpJ.leq (L rfl) (q 45) (Opd.int .i64 (256))) (OptL.opt OptL.nil) (GuardV.plain _)) rfl (c (OpJ.pickAnd rfl (L rfl) (q 42) (q 46)) rfl (c (OpJ.val (v' := .d (.bool true)) (by rw [hg51] <;> rfl) (mv hN (q 47))) rfl (cg (gd 48 (OpJ.loadG (nm := 500) [35, 37, 137] tyS88 rfl (L rfl))) rfl (c (gd 48 (ov (.ptr 1005 0 [0]) (fp hN Tryd.underlying85 0 tyS82 _ (q 5)))) rfl (c (gd 48 (lb hN 85 _ _ tyS82 (ad _) (q 50))) rfl (cg (gd 48 (cf hB fnOk50 (resource_order_valid_ac r44.faddrs r52 hr52) (L rfl) (OpdL.cons (q 49) (OpdL.cons (q 51) OpdL.nil)))) rfl (c (OpJ.pickT (L rfl) (q 48) (q 52)) rfl (c (OpJ.val (v' := .d (.bool false)) (by rw [hg53] <;> rfl) (mv hN (q 53))) rfl (cg (sU 54 (L rfl)) rfl (cg (sU 54 (L rfl)) rfl (cg (sU 54 (L rfl)) rfl (cg (sU 54 (L rfl)) rfl (c (OpJ.pickF (L rfl) (q 54) (Opd.bool false)) rfl (c (OpJ.assign (L rfl) (q 59)) rfl cn))))))))))))))))))))))) ?_
       exact hjj50 _ h _ _ (Mat.trans (mp [] [(2, (bo false))] [(500, some (.know (globF 0 [35, 37, 137]))), (501, some (.know (globF 1 [70, 138, 139])))] hB) (mp [] _ _ hB))
     ·replace h := ite_f hg51 h
      refine rg (c (ov (.ptr 1001 0 [0]) (fp hN Tryd.underlying28 0 tyS25 _ (q 1))) rfl (c (lb hN 28 _ _ tyS25 (ad _) (q 38)) rfl (c (OpJ.val (v' := (i6 (a0.fAddrs.length : Int))) (by simp) (OpJ.lenD Tryd.underlying25 (L rfl) (q 39))) rfl (c (OpJ.leq (L rfl) (q 40) (Opd.int .i64 (256))) rfl (c (mv hN (q 41)) rfl (c (oq hN 42 (ov (.ptr 1001 1 [1]) (fp hN Tryd.underlying28 1 tyS26 _ (q 1))) (OptL.keep (by rfl) OptL.nil) (GuardV.plain _)) rfl (c (oq hN 42 (lb hN 28 _ _ tyS26 (ad _) (q 43)) (OptL.opt OptL.nil) (GuardV.plain _)) rfl (c (oq hN 42 (OpJ.val (v' := (i6 (a0.fASNs.length : Int))) (by simp) (OpJ.lenD Tryd.underlying26 (L rfl) (q 44))) (OptL.opt OptL.nil) (GuardV.plain _)) rfl (c (oq hN 42 (OpJ.leq (L rfl) (q 45) (Opd.int .i64 (256))) (OptL.opt OptL.nil) (GuardV.plain _)) rfl (c (OpJ.pickAnd rfl (L rfl) (q 42) (q 46)) rfl (c (OpJ.val (v' := .d (.bool false)) (by rw [hg51] <;> rfl) (mv hN (q 47))) rfl (cg (sU 48 (L rfl)) rfl (cg (sU 48 (L rfl)) rfl (cg (sU 48 (L rfl)) rfl (cg (sU 48 (L rfl)) rfl (c (OpJ.pickF (L rfl) (q 48) (Opd.bool false)) rfl (c (mv hN (q 53)) rfl (cg (sU 54 (L rfl)) rfl (cg (sU 54 (L rfl)) rfl (cg (sU 54 (L rfl)) rfl (cg (sU 54 (L rfl)) rfl (c (OpJ.pickF (L rfl) (q 54) (Opd.bool false)) rfl (c (OpJ.assign (L rfl) (q 59)) rfl cn))))))))))))))))))))))) ?_
      exact hjj50 _ h _ _ (Mat.trans (mp [] [(2, (bo false))] [(500, some (.know (globF 0 [35, 37, 137]))), (501, some (.know (globF 1 [70, 138, 139])))] hB) (mp [] _ _ hB))

noncomputable def prefix_width (a0 : api_Addr) : Option (Int) :=
 (if a0.fV6 = true then
 some (128 : Int)
 else
 some (32 : Int))
theorem prefix_width_ac (a0 : api_Addr) (r : Int) (h : prefix_width a0 = some r) : AC Tryd.prog 75 [(.d (e_api_Addr a0))] [] (.d (.int .i64 r)) [] := by
 refine AC.of_code2 Tryd.func75 rfl rfl (Nat.le_of_ble_eq_true (by rfl)) fun B hB hN => ?_
 delta prefix_width at h
 refine sr (cg (OpJ.box hB (nm := 1001) (by decide) (by simp) rfl (ltN hN rfl) (q 0)) rfl (c (OpJ.assign (ltN hN rfl) (Opd.int .i64 (0))) rfl cn)) ?_
 refine gh [(1, _)] [(1001, some _)] hB rfl rfl (by rfl) ?_
 refine AWp.seq ?_
 refine sr (c (ov (.ptr 1001 0 [0]) (fp hN Tryd.underlying32 0 tyS4 _ (q 1))) rfl (c (lb hN 32 _ _ tyS4 (ad _) (q 3)) rfl cn)) ?_
 refine gh [(4, _)] [] hB rfl rfl (by rfl) ?_
 refine AWp.cond rfl (fun hg1 => ?_) (fun hg1 => ?_)
 ·replace h := ite_t hg1 h
  refine sr (c (OpJ.assign (ltN hN rfl) (Opd.int .i64 (128))) rfl cn) ?_
  refine gh [(2, _)] [] hB rfl rfl (by rfl) ?_
  refine AWp.ret ?_
  refine seqQ_r ?_
  obtain rfl := Option.some.inj h
  exact ⟨.inl rfl, _, _, (kp [(2, _)] [] hB rfl rfl (by rfl)), [(i6 (128 : Int))], (Res.tmp (by rfl) (by rfl) Res.nil), rfl, by rfl, by rfl, by rfl⟩
 ·replace h := ite_f hg1 h
  refine AWp.skip ?_
  refine seqQ_n ?_
  refine sr (c (OpJ.assign (ltN hN rfl) (Opd.int .i64 (32))) rfl cn) ?_
  refine gh [(2, _)] [] hB rfl rfl (by rfl) ?_
  refine AWp.ret ?_
  obtain rfl := Option.some.inj h
  exact ⟨.inl rfl, _, _, (kp [(2, _)] [] hB rfl rfl (by rfl)), [(i6 (32 : Int))], (Res.tmp (by rfl) (by rfl) Res.nil), rfl, by rfl, by rfl, by rfl⟩

noncomputable def prefix_masks (a0 : Int) : Option (Int × Int) :=
 (if (decide ((64 : Int) < a0)) = true then
 some ((IntKind.u64.wrap ((shlI .u64 (1 : Int) (IntKind.u64.wrap (w64 (a0 - (64 : Int))))) - (1 : Int))), (18446744073709551615 : Int))
 else
 some ((0 : Int), (IntKind.u64.wrap ((shlI .u64 (1 : Int) (IntKind.u64.wrap a0)) - (1 : Int)))))
theorem prefix_masks_ac (a0 : Int) (r : Int × Int) (h : prefix_masks a0 = some r) : AC Tryd.prog 74 [(.d (.int .i64 a0))] [] (.tup [(.d (.int .u64 r.1)), (.d (.int .u64 r.2))]) [] := by
 refine AC.of_code2 Tryd.func74 rfl rfl (Nat.le_of_ble_eq_true (by rfl)) fun B hB hN => ?_
 have L {d : Nat} (h : Nat.blt d Tryd.f74.ntmps = true) : d < B.N := ltN hN h
 delta prefix_masks at h
 refine sr (c (OpJ.assign (L rfl) (Opd.int .u64 (0))) rfl (c (OpJ.assign (L rfl) (Opd.int .u64 (0))) rfl cn)) ?_
 refine gh [(0, _)] [] hB rfl rfl (by rfl) ?_
 refine AWp.seq ?_
 refine sr (c (mv hN (q 0)) rfl (c (OpJ.gtr (L rfl) (q 4) (Opd.int .i64 (64))) rfl cn)) ?_
 refine gh [(0, _), (5, _)] [] hB rfl rfl (by rfl) ?_
 refine AWp.cond rfl (fun hg1 => ?_) (fun hg1 => ?_)
 ·replace h := ite_t hg1 h
  refine sr (c (mv hN (q 0)) rfl (c (sub6 (L rfl) (q 6) (Opd.int .i64 (64))) rfl (c (OpJ.conv Tryd.underlying3 Tryd.underlying104 (L rfl) (q 7)) rfl (c (OpJ.shl (L rfl) (Opd.int .u64 (1)) (q 8) (wrap_nonneg rfl _)) rfl (c (OpJ.sub (L rfl) (q 9) (Opd.int .u64 (1))) rfl (c (OpJ.assign (L rfl) (q 10)) rfl (c (OpJ.assign (L rfl) (Opd.int .u64 (18446744073709551615))) rfl cn))))))) ?_
  refine gh [(2, _), (3, _)] [] hB rfl rfl (by rfl) ?_
  refine AWp.ret ?_
  refine seqQ_r ?_
  obtain rfl := Option.some.inj h
  exact ⟨.inl rfl, _, _, (kp [(2, _), (3, _)] [] hB rfl rfl (by rfl)), [(.d (.int .u64 (IntKind.u64.wrap ((shlI .u64 (1 : Int) (IntKind.u64.wrap (w64 (a0 - (64 : Int))))) - (1 : Int))))), (.d (.int .u64 (18446744073709551615 : Int)))], (Res.tmp (by rfl) (by rfl) (Res.tmp (by rfl) (by rfl) Res.nil)), rfl, by rfl, by rfl, by rfl⟩
 ·replace h := ite_f hg1 h
  refine AWp.skip ?_
  refine seqQ_n ?_
  refine sr (c (mv hN (q 0)) rfl (c (OpJ.conv Tryd.underlying3 Tryd.underlying104 (L rfl) (q 11)) rfl (c (OpJ.shl (L rfl) (Opd.int .u64 (1)) (q 12) (wrap_nonneg rfl _)) rfl (c (OpJ.sub (L rfl) (q 13) (Opd.int .u64 (1))) rfl (c (OpJ.assign (L rfl) (Opd.int .u64 (0))) rfl (c (OpJ.assign (L rfl) (q 14)) rfl cn)))))) ?_
  refine gh [(2, _), (3, _)] [] hB rfl rfl (by rfl) ?_
  refine AWp.ret ?_
  obtain rfl := Option.some.inj h
  exact ⟨.inl rfl, _, _, (kp [(2, _), (3, _)] [] hB rfl rfl (by rfl)), [(.d (.int .u64 0)), (.d (.int .u64 (IntKind.u64.wrap ((shlI .u64 (1 : Int) (IntKind.u64.wrap a0)) - (1 : Int)))))], (Res.tmp (by rfl) (by rfl) (Res.tmp (by rfl) (by rfl) Res.nil)), rfl, by rfl, by rfl, by rfl⟩

noncomputable def prefix_first (a0 : api_Addr) (a1 : Int) : Option (api_Addr) :=
 (prefix_width a0).bind fun r1 =>
 (prefix_masks (w64 (r1 - a1))).bind fun r2 =>
 some (api_Addr.mk a0.fV6 (bitI .andNot .u64 a0.fHi r2.1) (bitI .andNot .u64 a0.fLo r2.2))
theorem prefix_first_ac (a0 : api_Addr) (a1 : Int) (r : api_Addr) (h : prefix_first a0 a1 = some r) : AC Tryd.prog 78 [(.d (e_api_Addr a0)), (.d (.int .i64 a1))] [] (.d (e_api_Addr r)) [] := by
 refine AC.of_code2 Tryd.func78 rfl rfl (Nat.le_of_ble_eq_true (by rfl)) fun B hB hN => ?_
 delta prefix_first at h
 refine sr (cg (OpJ.box hB (nm := 1002) (by decide) (by simp) rfl (ltN hN rfl) (q 0)) rfl (cg (OpJ.alloc hB tyZ32 (nm := 1004) (by decide) (ltN hN rfl)) rfl cn)) ?_
 refine gh [(1, _), (2, _), (4, _)] [(1002, some _), (1004, some _)] hB rfl rfl (by rfl) ?_
 obtain ⟨r1, hr1, h⟩ := bindS h
 obtain ⟨r2, hr2, h⟩ := bindS h
 refine sr (c (lb hN 32 _ _ tyS32 (At.here _) (q 2)) rfl (cg (OpJ.callFn hB fnOk75 (prefix_width_ac a0 r1 hr1) [] (by kernel_rfl) (ltN hN rfl) (by kernel_rfl) (OpdL.cons (q 8) OpdL.nil)) rfl (c (mv hN (q 1)) rfl (c (sub6 (ltN hN rfl) (q 9) (q 10)) rfl (cg (OpJ.callFn hB fnOk74 (prefix_masks_ac (w64 (r1 - a1)) r2 hr2) [] (by kernel_rfl) (ltN hN rfl) (by kernel_rfl) (OpdL.cons (q 11) OpdL.nil)) rfl (c (mv hN (q 12)) rfl (c (OpJ.extract (by rfl) rfl (ltN hN rfl) (q 7)) rfl (c (OpJ.extract (by rfl) rfl (ltN hN rfl) (q 7)) rfl (c (OpJ.assign (ltN hN rfl) (q 13)) rfl (c (OpJ.assign (ltN hN rfl) (q 14)) rfl cn)))))))))) ?_
 refine gh [(2, _), (4, _), (5, _), (6, _)] [(1002, some _), (1004, some _)] hB rfl rfl (by rfl) ?_
 refine sr (c (ov (.ptr 1002 1 [1]) (fp hN Tryd.underlying32 1 tyS30 _ (q 2))) rfl (c (lb hN 32 _ _ tyS30 (ad _) (q 15)) rfl (c (mv hN (q 5)) rfl (c (OpJ.bits (.inr (.inr (.inr rfl))) (ltN hN rfl) (q 16) (q 17)) rfl (c (ov (.ptr 1002 1 [1]) (fp hN Tryd.underlying32 1 tyS30 _ (q 2))) rfl (cg (OpJ.storeB tyS30 (SetAt.dst1 (by rfl) (by rfl) (SetAt.here _ _) (by rfl) (by rfl) (by first | rfl | omega)) (by rfl) (by rfl) (by simp) rfl (q 19) (q 18)) rfl cn)))))) ?_
 refine gh [(2, _), (4, _), (6, _)] [(1002, some _), (1004, some _)] hB rfl rfl (by rfl) ?_
 refine sr (c (ov (.ptr 1002 2 [2]) (fp hN Tryd.underlying32 2 tyS30 _ (q 2))) rfl (c (lb hN 32 _ _ tyS30 (ad _) (q 20)) rfl (c (mv hN (q 6)) rfl (c (OpJ.bits (.inr (.inr (.inr rfl))) (ltN hN rfl) (q 21) (q 22)) rfl (c (ov (.ptr 1002 2 [2]) (fp hN Tryd.underlying32 2 tyS30 _ (q 2))) rfl (cg (OpJ.storeB tyS30 (SetAt.dst1 (by rfl) (by rfl) (SetAt.here _ _) (by rfl) (by rfl) (by first | rfl | omega)) (by rfl) (by rfl) (by simp) rfl (q 24) (q 23)) rfl cn)))))) ?_
 refine gh [(2, _), (4, _)] [(1002, some _), (1004, some _)] hB rfl rfl (by rfl) ?_
 refine sr (c (lb hN 32 _ _ tyS32 (At.here _) (q 2)) rfl (cg (OpJ.storeB tyS32 (SetAt.here _ _) (by rfl) (by rfl) (by simp) rfl (q 4) (q 25)) rfl cn)) ?_
 refine gh [(4, _)] [(1004, some _)] hB rfl rfl (by rfl) ?_
 refine AWp.ret ?_
 obtain rfl := Option.some.inj h
 exact ⟨.inl rfl, _, _, (kp [(4, _)] [(1004, some _)] hB rfl rfl (by rfl)), [(.d (.st [(.bool a0.fV6), (.int .u64 (bitI .andNot .u64 a0.fHi r2.1)), (.int .u64 (bitI .andNot .u64 a0.fLo r2.2))]))], (Res.cell (c := (.d (.st [(.bool a0.fV6), (.int .u64 (bitI .andNot .u64 a0.fHi r2.1)), (.int .u64 (bitI .andNot .u64 a0.fLo r2.2))]))) (by rfl) (by rfl) tyS32 (by rfl) (by rfl) (by rfl) Res.nil), rfl, by rfl, by rfl, by rfl⟩

noncomputable def prefix_Make (a0 : api_Addr) (a1 : Int) : Option (api_Prefix × Int) :=
 (addr_Valid a0).bind fun r1 =>
 (if (!r1) = true then
 some ((api_Prefix.mk (api_Addr.mk false (0 : Int) (0 : Int)) (0 : Int)), (1 : Int))
 else
 jn (fun m5 : Bool =>
 (if m5 = true then
 some ((api_Prefix.mk (api_Addr.mk false (0 : Int) (0 : Int)) (0 : Int)), (9 : Int))
 else
 (prefix_first a0 a1).bind fun r8 =>
 some ((api_Prefix.mk r8 a1), (0 : Int)))) (fun j6 =>
 (if (decide (a1 < (0 : Int))) = true then
 j6 true
 else
 (prefix_width a0).bind fun r10 =>
 j6 (decide (r10 < a1)))))
theorem prefix_Make_ac (a0 : api_Addr) (a1 : Int) (r : api_Prefix × Int) (h : prefix_Make a0 a1 = some r) : AC Tryd.prog 73 [(.d (e_api_Addr a0)), (.d (.int .i64 a1))] [] (.tup [(.d (e_api_Prefix r.1)), (.d (.int .i64 r.2))]) [] := by
 refine AC.of_code2 Tryd.func73 rfl rfl (Nat.le_of_ble_eq_true (by rfl)) fun B hB hN => ?_
 have L {d : Nat} (h : Nat.blt d Tryd.f73.ntmps = true) : d < B.N := ltN hN h
 delta prefix_Make at h
 refine sr (cg (OpJ.box hB (nm := 1002) (by decide) (by simp) rfl (L rfl) (q 0)) rfl (cg (OpJ.alloc hB tyZ34 (nm := 1004) (by decide) (L rfl)) rfl (c (OpJ.assign (L rfl) (Opd.int .i64 (0))) rfl cn))) ?_
 refine gh [(1, _), (2, _), (4, _)] [(1002, some _), (1004, some _)] hB rfl rfl (by rfl) ?_
 refine AWp.seq ?_
 refine AWp.block ?_
 obtain ⟨r1, hr1, h⟩ := bindS h
 refine sr (c (lb hN 32 _ _ tyS32 (At.here _) (q 2)) rfl (cg (cf hB fnOk46 (addr_Valid_ac a0 r1 hr1) (L rfl) (OpdL.cons (q 7) OpdL.nil)) rfl (c (OpJ.not (L rfl) (q 8)) rfl (c (OpJ.assign (L rfl) (q 9)) rfl cn)))) ?_
 refine gh [(1, _), (2, _), (4, _), (6, _)] [(1002, some _), (1004, some _)] hB rfl rfl (by rfl) ?_
 refine AWp.cond rfl (fun hg2 => ?_) (fun hg2 => ?_)
 ·replace h := ite_t hg2 h
  refine sr (c (OpJ.coe (v := (.st [(.d (.st [(.bool false), (.int .u64 0), (.int .u64 0)])), (i6 0)])) (y := (.st [(.st [(.bool false), (.int .u64 0), (.int .u64 0)]), (.int .i64 0)])) (Co.st (CoL.cons (Co.d _) (CoL.cons (Co.d _) CoL.nil))) rfl (OpJ.build (places := [(0, 3), (3, 1)]) ⟨Tryd.underlying34, fun w => by kernel_rfl⟩ tyZS34 Opds.nil (by kernel_rfl) (r := (.st [(.d (.st [(.bool false), (.int .u64 0), (.int .u64 0)])), (i6 0)])) (by rfl) (L rfl))) rfl (cg (OpJ.storeB tyS34 (SetAt.here _ _) (by rfl) (by rfl) (by simp) rfl (q 4) (q 10)) rfl (c (OpJ.assign (L rfl) (Opd.int .i64 (1))) rfl cn))) ?_
  refine gh [(4, _), (5, _)] [(1004, some _)] hB rfl rfl (by rfl) ?_
  refine AWp.ret ?_
  refine blkQ_r ?_
  refine seqQ_r ?_
  obtain rfl := Option.some.inj h
  exact ⟨.inl rfl, _, _, (kp [(4, _), (5, _)] [(1004, some _)] hB rfl rfl (by rfl)), [(.d (.st [(.st [(.bool false), (.int .u64 0), (.int .u64 0)]), (.int .i64 0)])), (i6 1)], (Res.cell (c := (.d (.st [(.st [(.bool false), (.int .u64 0), (.int .u64 0)]), (.int .i64 0)]))) (by rfl) (by rfl) tyS34 (by rfl) (by rfl) (by rfl) (Res.tmp (by rfl) (by rfl) Res.nil)), rfl, by rfl, by rfl, by rfl⟩
 ·replace h := ite_f hg2 h
  refine AWp.seq ?_
  refine AWp.cut h (fun m5 : Bool => ([(1, (i6 a1)), (2, (.ptr 1002 0 [])), (4, (.ptr 1004 0 [])), (11, (bo m5))] : EL)) (fun m5 : Bool => ([(1002, some (.box 32 (.d (e_api_Addr a0)))), (1004, some (.box 34 (.d (.st [(.st [(.bool false), (.int .u64 0), (.int .u64 0)]), (.int .i64 0)]))))] : OL)) (fun m5 h E' O' hmat => ?_) (fun j6 hjj6 h => ?_)
  ·refine seqQ_n ?_
   refine AWp.ghost hmat ?_
   refine AWp.cond rfl (fun hg7 => ?_) (fun hg7 => ?_)
   ·replace h := ite_t hg7 h
    refine sr (c (OpJ.coe (v := (.st [(.d (.st [(.bool false), (.int .u64 0), (.int .u64 0)])), (i6 0)])) (y := (.st [(.st [(.bool false), (.int .u64 0), (.int .u64 0)]), (.int .i64 0)])) (Co.st (CoL.cons (Co.d _) (CoL.cons (Co.d _) CoL.nil))) rfl (OpJ.build (places := [(0, 3), (3, 1)]) ⟨Tryd.underlying34, fun w => by kernel_rfl⟩ tyZS34 Opds.nil (by kernel_rfl) (r := (.st [(.d (.st [(.bool false), (.int .u64 0), (.int .u64 0)])), (i6 0)])) (by rfl) (L rfl))) rfl (cg (OpJ.storeB tyS34 (SetAt.here _ _) (by rfl) (by rfl) (by simp) rfl (q 4) (q 20)) rfl (c (OpJ.assign (L rfl) (Opd.int .i64 (9))) rfl cn))) ?_
    refine gh [(4, _), (5, _)] [(1004, some _)] hB rfl rfl (by rfl) ?_
    refine AWp.ret ?_
    refine blkQ_r ?_
    refine seqQ_r ?_
    obtain rfl := Option.some.inj h
    exact ⟨.inl rfl, _, _, (kp [(4, _), (5, _)] [(1004, some _)] hB rfl rfl (by rfl)), [(.d (.st [(.st [(.bool false), (.int .u64 0), (.int .u64 0)]), (.int .i64 0)])), (i6 (9 : Int))], (Res.cell (c := (.d (.st [(.st [(.bool false), (.int .u64 0), (.int .u64 0)]), (.int .i64 0)]))) (by rfl) (by rfl) tyS34 (by rfl) (by rfl) (by rfl) (Res.tmp (by rfl) (by rfl) Res.nil)), rfl, by rfl, by rfl, by rfl⟩
   ·replace h := ite_f hg7 h
    refine AWp.skip ?_
    refine blkQ_n ?_
    refine seqQ_n ?_
    obtain ⟨r8, hr8, h⟩ := bindS h
    refine sr (c (lb hN 32 _ _ tyS32 (At.here _) (q 2)) rfl (c (mv hN (q 1)) rfl (cg (cf hB fnOk78 (prefix_first_ac a0 a1 r8 hr8) (L rfl) (OpdL.cons (q 21) (OpdL.cons (q 22) OpdL.nil))) rfl (c (mv hN (q 1)) rfl (c (OpJ.coe (v := (.st [(.d (e_api_Addr r8)), (i6 a1)])) (y := (.st [(e_api_Addr r8), (.int .i64 a1)])) (Co.st (CoL.cons (Co.d _) (CoL.cons (Co.d _) CoL.nil))) rfl (OpJ.build (places := [(0, 3), (3, 1)]) ⟨Tryd.underlying34, fun w => by kernel_rfl⟩ tyZS34 (Opds.cons (q 23) (Opds.cons (q 24) Opds.nil)) (by kernel_rfl) (r := (.st [(.d (e_api_Addr r8)), (i6 a1)])) (by rfl) (L rfl))) rfl (cg (OpJ.storeB tyS34 (SetAt.here _ _) (by rfl) (by rfl) (by simp) rfl (q 4) (q 25)) rfl (c (OpJ.assign (L rfl) (Opd.int .i64 (0))) rfl cn))))))) ?_
    refine gh [(4, _), (5, _)] [(1004, some _)] hB rfl rfl (by rfl) ?_
    refine AWp.ret ?_
    obtain rfl := Option.some.inj h
    exact ⟨.inl rfl, _, _, (kp [(4, _), (5, _)] [(1004, some _)] hB rfl rfl (by rfl)), [(.d (.st [(e_api_Addr r8), (.int .i64 a1)])), (i6 0)], (Res.cell (c := (.d (.st [(e_api_Addr r8), (.int .i64 a1)]))) (by rfl) (by rfl) tyS34 (by rfl) (by rfl) (by rfl) (Res.tmp (by rfl) (by rfl) Res.nil)), rfl, by rfl, by rfl, by rfl⟩
  ·rcases Bool.eq_false_or_eq_true (decide (a1 < (0 : Int))) with hg9 | hg9
   ·replace h := ite_t hg9 h
    refine rg (c (mv hN (q 1)) rfl (c (OpJ.lss (L rfl) (q 12) (Opd.int .i64 (0))) rfl (c (OpJ.val (v' := .d (.bool true)) (by rw [hg9] <;> rfl) (mv hN (q 13))) rfl (cg (sU 14 (L rfl)) rfl (cg (sU 14 (L rfl)) rfl (cg (sU 14 (L rfl)) rfl (cg (sU 14 (L rfl)) rfl (c (OpJ.pickT (L rfl) (q 14) (Opd.bool true)) rfl (c (OpJ.assign (L rfl) (q 19)) rfl cn))))))))) ?_
    exact hjj6 _ h _ _ (Mat.trans (mp [] [(1, (i6 a1)), (2, (.ptr 1002 0 [])), (4, (.ptr 1004 0 [])), (11, (bo true))] [(1002, some (.box 32 (.d (e_api_Addr a0)))), (1004, some (.box 34 (.d (.st [(.st [(.bool false), (.int .u64 0), (.int .u64 0)]), (.int .i64 0)]))))] hB) (mp [] _ _ hB))
   ·replace h := ite_f hg9 h
    obtain ⟨r10, hr10, h⟩ := bindS h
    refine rg (c (mv hN (q 1)) rfl (c (OpJ.lss (L rfl) (q 12) (Opd.int .i64 (0))) rfl (c (OpJ.val (v' := .d (.bool false)) (by rw [hg9] <;> rfl) (mv hN (q 13))) rfl (c (gd 14 (mv hN (q 1))) rfl (c (gd 14 (lb hN 32 _ _ tyS32 (At.here _) (q 2))) rfl (cg (gd 14 (cf hB fnOk75 (prefix_width_ac a0 r10 hr10) (L rfl) (OpdL.cons (q 16) OpdL.nil))) rfl (c (gd 14 (OpJ.gtr (L rfl) (q 15) (q 17))) rfl (c (OpJ.pickF (L rfl) (q 14) (q 18)) rfl (c (OpJ.assign (L rfl) (q 19)) rfl cn))))))))) ?_
    exact hjj6 _ h _ _ (Mat.trans (mp [] [(1, (i6 a1)), (2, (.ptr 1002 0 [])), (4, (.ptr 1004 0 [])), (11, (bo (decide (r10 < a1))))] [(1002, some (.box 32 (.d (e_api_Addr a0)))), (1004, some (.box 34 (.d (.st [(.st [(.bool false), (.int .u64 0), (.int .u64 0)]), (.int .i64 0)]))))] hB) (mp [] _ _ hB))

noncomputable def prefix_Valid (a0 : api_Prefix) : Option (Bool) :=
 jn (fun m7 : Bool =>
 some m7) (fun j8 =>
 (addr_Valid a0.fAddr).bind fun r9 =>
 (if (r9 && (decide ((0 : Int) ≤ a0.fLen))) = true then
 (prefix_width a0.fAddr).bind fun r11 =>
 (if (decide (a0.fLen ≤ r11)) = true then
 (prefix_first a0.fAddr a0.fLen).bind fun r13 =>
 j8 ((r13.fV6 == a0.fAddr.fV6) && ((r13.fHi == a0.fAddr.fHi) && ((r13.fLo == a0.fAddr.fLo) && true)))
 else
 j8 false)
 else
 j8 false))
theorem prefix_Valid_ac (a0 : api_Prefix) (r : Bool) (h : prefix_Valid a0 = some r) : AC Tryd.prog 53 [(.d (e_api_Prefix a0))] [] (.d (.bool r)) [] := by
 refine AC.of_code2 Tryd.func53 rfl rfl (Nat.le_of_ble_eq_true (by rfl)) fun B hB hN => ?_
 have L {d : Nat} (h : Nat.blt d Tryd.f53.ntmps = true) : d < B.N := ltN hN h
 delta prefix_Valid at h
 refine sr (cg (OpJ.box hB (nm := 1001) (by decide) (by simp) rfl (L rfl) (q 0)) rfl (c (OpJ.assign (L rfl) (Opd.bool false)) rfl cn)) ?_
 refine gh [(1, _)] [(1001, some _)] hB rfl rfl (by rfl) ?_
 refine AWp.seq ?_
 refine AWp.cut h (fun m7 : Bool => ([(2, (bo m7))] : EL)) (fun m7 : Bool => ([] : OL)) (fun m7 h E' O' hmat => ?_) (fun j8 hjj8 h => ?_)
 ·refine seqQ_n ?_
  refine AWp.ghost hmat ?_
  refine AWp.ret ?_
  obtain rfl := Option.some.inj h
  exact ⟨.inl rfl, _, _, (kp [(2, _)] [] hB rfl rfl (by rfl)), [(bo m7)], (Res.tmp (by rfl) (by rfl) Res.nil), rfl, by rfl, by rfl, by rfl⟩
 ·obtain ⟨r9, hr9, h⟩ := bindS h
  rcases Bool.eq_false_or_eq_true (r9 && (decide ((0 : Int) ≤ a0.fLen))) with hg10 | hg10
  ·replace h := ite_t hg10 h
   obtain ⟨r11, hr11, h⟩ := bindS h
   rcases Bool.eq_false_or_eq_true (decide (a0.fLen ≤ r11)) with hg12 | hg12
   ·replace h := ite_t hg12 h
    obtain ⟨r13, hr13, h⟩ := bindS h
    refine dr (c (ov (.ptr 1001 0 [0]) (fp hN Tryd.underlying34 0 tyS32 _ (q 1))) rfl (c (lb hN 34 _ _ tyS32 (ad _) (q 3)) rfl (cg (cf hB fnOk46 (addr_Valid_ac a0.fAddr r9 hr9) (L rfl) (OpdL.cons (q 4) OpdL.nil)) rfl (c (mv hN (q 5)) rfl (c (oq hN 6 (ov (.ptr 1001 3 [1]) (fp hN Tryd.underlying34 3 tyS3 _ (q 1))) (OptL.keep (by rfl) OptL.nil) (GuardV.plain _)) rfl (c (oq hN 6 (lb hN 34 _ _ tyS3 (ad _) (q 7)) (OptL.opt OptL.nil) (GuardV.plain _)) rfl (c (oq hN 6 (OpJ.geq (L rfl) (q 8) (Opd.int .i64 (0))) (OptL.opt OptL.nil) (GuardV.plain _)) rfl (c (OpJ.pickAnd rfl (L rfl) (q 6) (q 9)) rfl (c (OpJ.val (v' := .d (.bool true)) (by rw [hg10] <;> rfl) (mv hN (q 10))) rfl (c (gd 11 (ov (.ptr 1001 3 [1]) (fp hN Tryd.underlying34 3 tyS3 _ (q 1)))) rfl (c (gd 11 (lb hN 34 _ _ tyS3 (ad _) (q 12))) rfl (c (gd 11 (ov (.ptr 1001 0 [0]) (fp hN Tryd.underlying34 0 tyS32 _ (q 1)))) rfl (c (gd 11 (lb hN 34 _ _ tyS32 (ad _) (q 14))) rfl (cg (gd 11 (cf hB fnOk75 (prefix_width_ac a0.fAddr r11 hr11) (L rfl) (OpdL.cons (q 15) OpdL.nil))) rfl (c (gd 11 (OpJ.leq (L rfl) (q 13) (q 16))) rfl (c (OpJ.pickT (L rfl) (q 11) (q 17)) rfl (c (OpJ.val (v' := .d (.bool true)) (by rw [hg12] <;> rfl) (mv hN (q 18))) rfl (c (gd 19 (ov (.ptr 1001 0 [0]) (fp hN Tryd.underlying34 0 tyS32 _ (q 1)))) rfl (c (gd 19 (lb hN 34 _ _ tyS32 (ad _) (q 20))) rfl (c (gd 19 (ov (.ptr 1001 3 [1]) (fp hN Tryd.underlying34 3 tyS3 _ (q 1)))) rfl (c (gd 19 (lb hN 34 _ _ tyS3 (ad _) (q 22))) rfl (cg (gd 19 (cf hB fnOk78 (prefix_first_ac a0.fAddr a0.fLen r13 hr13) (L rfl) (OpdL.cons (q 21) (OpdL.cons (q 23) OpdL.nil)))) rfl (c (gd 19 (ov (.ptr 1001 0 [0]) (fp hN Tryd.underlying34 0 tyS32 _ (q 1)))) rfl (c (gd 19 (lb hN 34 _ _ tyS32 (ad _) (q 25))) rfl (c (gd 19 (OpJ.eqlD (h := 2) (FitE.st Tryd.underlying32 rfl held32 (FitF.cons (x := (.bool r13.fV6)) (y := (.bool a0.fAddr.fV6)) (by decide) rfl tyS4 ⟨rfl, rfl⟩ ⟨rfl, rfl⟩ (FitE.bool (h := 0) r13.fV6 a0.fAddr.fV6 Tryd.underlying4) (FitF.cons (x := (.int .u64 r13.fHi)) (y := (.int .u64 a0.fAddr.fHi)) (by decide) rfl tyS30 ⟨rfl, rfl⟩ ⟨rfl, rfl⟩ (FitE.int (h := 0) r13.fHi a0.fAddr.fHi Tryd.underlying30) (FitF.cons (x := (.int .u64 r13.fLo)) (y := (.int .u64 a0.fAddr.fLo)) (by decide) rfl tyS30 ⟨rfl, rfl⟩ ⟨rfl, rfl⟩ (FitE.int (h := 0) r13.fLo a0.fAddr.fLo Tryd.underlying30) FitF.nil)))) eqg32 ⟨rfl, rfl⟩ (by rfl) (L rfl) (q 24) (q 26))) rfl (c (OpJ.pickT (L rfl) (q 19) (q 27)) rfl (c (OpJ.assign (L rfl) (q 28)) rfl cn))))))))))))))))))))))))))) (by kernel_rfl) (by kernel_rfl) ?_
    exact hjj8 _ h _ _ (Mat.trans (mp [] [(2, (bo ((r13.fV6 == a0.fAddr.fV6) && ((r13.fHi == a0.fAddr.fHi) && ((r13.fLo == a0.fAddr.fLo) && true)))))] [] hB) (mp [] _ _ hB))
   ·replace h := ite_f hg12 h
    refine dr (c (ov (.ptr 1001 0 [0]) (fp hN Tryd.underlying34 0 tyS32 _ (q 1))) rfl (c (lb hN 34 _ _ tyS32 (ad _) (q 3)) rfl (cg (cf hB fnOk46 (addr_Valid_ac a0.fAddr r9 hr9) (L rfl) (OpdL.cons (q 4) OpdL.nil)) rfl (c (mv hN (q 5)) rfl (c (oq hN 6 (ov (.ptr 1001 3 [1]) (fp hN Tryd.underlying34 3 tyS3 _ (q 1))) (OptL.keep (by rfl) OptL.nil) (GuardV.plain _)) rfl (c (oq hN 6 (lb hN 34 _ _ tyS3 (ad _) (q 7)) (OptL.opt OptL.nil) (GuardV.plain _)) rfl (c (oq hN 6 (OpJ.geq (L rfl) (q 8) (Opd.int .i64 (0))) (OptL.opt OptL.nil) (GuardV.plain _)) rfl (c (OpJ.pickAnd rfl (L rfl) (q 6) (q 9)) rfl (c (OpJ.val (v' := .d (.bool true)) (by rw [hg10] <;> rfl) (mv hN (q 10))) rfl (c (gd 11 (ov (.ptr 1001 3 [1]) (fp hN Tryd.underlying34 3 tyS3 _ (q 1)))) rfl (c (gd 11 (lb hN 34 _ _ tyS3 (ad _) (q 12))) rfl (c (gd 11 (ov (.ptr 1001 0 [0]) (fp hN Tryd.underlying34 0 tyS32 _ (q 1)))) rfl (c (gd 11 (lb hN 34 _ _ tyS32 (ad _) (q 14))) rfl (cg (gd 11 (cf hB fnOk75 (prefix_width_ac a0.fAddr r11 hr11) (L rfl) (OpdL.cons (q 15) OpdL.nil))) rfl (c (gd 11 (OpJ.leq (L rfl) (q 13) (q 16))) rfl (c (OpJ.pickT (L rfl) (q 11) (q 17)) rfl (c (OpJ.val (v' := .d (.bool false)) (by rw [hg12] <;> rfl) (mv hN (q 18))) rfl (cg (sU 19 (L rfl)) rfl (cg (sU 19 (L rfl)) rfl (cg (sU 19 (L rfl)) rfl (cg (sU 19 (L rfl)) rfl (cg (sU 19 (L rfl)) rfl (cg (sU 19 (L rfl)) rfl (cg (sU 19 (L rfl)) rfl (cg (sU 19 (L rfl)) rfl (c (OpJ.pickF (L rfl) (q 19) (Opd.bool false)) rfl (c (OpJ.assign (L rfl) (q 28)) rfl cn))))))))))))))))))))))))))) (by kernel_rfl) (by kernel_rfl) ?_
    exact hjj8 _ h _ _ (Mat.trans (mp [] [(2, (bo false))] [] hB) (mp [] _ _ hB))
  ·replace h := ite_f hg10 h
   refine dr (c (ov (.ptr 1001 0 [0]) (fp hN Tryd.underlying34 0 tyS32 _ (q 1))) rfl (c (lb hN 34 _ _ tyS32 (ad _) (q 3)) rfl (cg (cf hB fnOk46 (addr_Valid_ac a0.fAddr r9 hr9) (L rfl) (OpdL.cons (q 4) OpdL.nil)) rfl (c (mv hN (q 5)) rfl (c (oq hN 6 (ov (.ptr 1001 3 [1]) (fp hN Tryd.underlying34 3 tyS3 _ (q 1))) (OptL.keep (by rfl) OptL.nil) (GuardV.plain _)) rfl (c (oq hN 6 (lb hN 34 _ _ tyS3 (ad _) (q 7)) (OptL.opt OptL.nil) (GuardV.plain _)) rfl (c (oq hN 6 (OpJ.geq (L rfl) (q 8) (Opd.int .i64 (0))) (OptL.opt OptL.nil) (GuardV.plain _)) rfl (c (OpJ.pickAnd rfl (L rfl) (q 6) (q 9)) rfl (c (OpJ.val (v' := .d (.bool false)) (by rw [hg10] <;> rfl) (mv hN (q 10))) rfl (cg (sU 11 (L rfl)) rfl (cg (sU 11 (L rfl)) rfl (cg (sU 11 (L rfl)) rfl (cg (sU 11 (L rfl)) rfl (cg (sU 11 (L rfl)) rfl (cg (sU 11 (L rfl)) rfl (c (OpJ.pickF (L rfl) (q 11) (Opd.bool false)) rfl (c (mv hN (q 18)) rfl (cg (sU 19 (L rfl)) rfl (cg (sU 19 (L rfl)) rfl (cg (sU 19 (L rfl)) rfl (cg (sU 19 (L rfl)) rfl (cg (sU 19 (L rfl)) rfl (cg (sU 19 (L rfl)) rfl (cg (sU 19 (L rfl)) rfl (cg (sU 19 (L rfl)) rfl (c (OpJ.pickF (L rfl) (q 19) (Opd.bool false)) rfl (c (OpJ.assign (L rfl) (q 28)) rfl cn))))))))))))))))))))))))))) (by kernel_rfl) (by kernel_rfl) ?_
   exact hjj8 _ h _ _ (Mat.trans (mp [] [(2, (bo false))] [] hB) (mp [] _ _ hB))

noncomputable def prefix_Last (a0 : api_Prefix) : Option (api_Addr) :=
 (prefix_Valid a0).bind fun r1 =>
 (if (!r1) = true then
 some (api_Addr.mk false (0 : Int) (0 : Int))
 else
 (prefix_width a0.fAddr).bind fun r3 =>
 (prefix_masks (w64 (r3 - a0.fLen))).bind fun r4 =>
 some (api_Addr.mk a0.fAddr.fV6 (bitI .or .u64 a0.fAddr.fHi r4.1) (bitI .or .u64 a0.fAddr.fLo r4.2)))
theorem prefix_Last_ac (a0 : api_Prefix) (r : api_Addr) (h : prefix_Last a0 = some r) : AC Tryd.prog 38 [(.d (e_api_Prefix a0))] [] (.d (e_api_Addr r)) [] := by
 refine AC.of_code2 Tryd.func38 rfl rfl (Nat.le_of_ble_eq_true (by rfl)) fun B hB hN => ?_
 have L {d : Nat} (h : Nat.blt d Tryd.f38.ntmps = true) : d < B.N := ltN hN h
 delta prefix_Last at h
 refine sr (cg (OpJ.box hB (nm := 1001) (by decide) (by simp) rfl (L rfl) (q 0)) rfl (cg (OpJ.alloc hB tyZ32 (nm := 1002) (by decide) (L rfl)) rfl cn)) ?_
 refine gh [(1, _), (2, _)] [(1001, some _), (1002, some _)] hB rfl rfl (by rfl) ?_
 refine AWp.seq ?_
 obtain ⟨r1, hr1, h⟩ := bindS h
 refine sr (c (lb hN 34 _ _ tyS34 (At.here _) (q 1)) rfl (cg (cf hB fnOk53 (prefix_Valid_ac a0 r1 hr1) (L rfl) (OpdL.cons (q 5) OpdL.nil)) rfl (c (OpJ.not (L rfl) (q 6)) rfl cn))) ?_
 refine gh [(1, _), (2, _), (7, _)] [(1001, some _), (1002, some _)] hB rfl rfl (by rfl) ?_
 refine AWp.cond rfl (fun hg2 => ?_) (fun hg2 => ?_)
 ·replace h := ite_t hg2 h
  refine sr (c (OpJ.coe (v := (.st [(bo false), (.d (.int .u64 0)), (.d (.int .u64 0))])) (y := (.st [(.bool false), (.int .u64 0), (.int .u64 0)])) (Co.st (CoL.cons (Co.d _) (CoL.cons (Co.d _) (CoL.cons (Co.d _) CoL.nil)))) rfl (OpJ.build (places := [(0, 1), (1, 1), (2, 1)]) ⟨Tryd.underlying32, fun w => by kernel_rfl⟩ tyZS32 Opds.nil (by kernel_rfl) (r := (.st [(bo false), (.d (.int .u64 0)), (.d (.int .u64 0))])) (by rfl) (L rfl))) rfl (cg (OpJ.storeB tyS32 (SetAt.here _ _) (by rfl) (by rfl) (by simp) rfl (q 2) (q 8)) rfl cn)) ?_
  refine gh [(2, _)] [(1002, some _)] hB rfl rfl (by rfl) ?_
  refine AWp.ret ?_
  refine seqQ_r ?_
  obtain rfl := Option.some.inj h
  exact ⟨.inl rfl, _, _, (kp [(2, _)] [(1002, some _)] hB rfl rfl (by rfl)), [(.d (.st [(.bool false), (.int .u64 0), (.int .u64 0)]))], (Res.cell (c := (.d (.st [(.bool false), (.int .u64 0), (.int .u64 0)]))) (by rfl) (by rfl) tyS32 (by rfl) (by rfl) (by rfl) Res.nil), rfl, by rfl, by rfl, by rfl⟩
 ·replace h := ite_f hg2 h
  refine AWp.skip ?_
  refine seqQ_n ?_
  obtain ⟨r3, hr3, h⟩ := bindS h
  obtain ⟨r4, hr4, h⟩ := bindS h
  refine sd (c (ov (.ptr 1001 0 [0]) (fp hN Tryd.underlying34 0 tyS32 _ (q 1))) rfl (c (lb hN 34 _ _ tyS32 (ad _) (q 10)) rfl (cg (cf hB fnOk75 (prefix_width_ac a0.fAddr r3 hr3) (L rfl) (OpdL.cons (q 11) OpdL.nil)) rfl (c (ov (.ptr 1001 3 [1]) (fp hN Tryd.underlying34 3 tyS3 _ (q 1))) rfl (c (lb hN 34 _ _ tyS3 (ad _) (q 13)) rfl (c (sub6 (L rfl) (q 12) (q 14)) rfl (cg (cf hB fnOk74 (prefix_masks_ac (w64 (r3 - a0.fLen)) r4 hr4) (L rfl) (OpdL.cons (q 15) OpdL.nil)) rfl (c (mv hN (q 16)) rfl (c (OpJ.extract (by rfl) rfl (L rfl) (q 9)) rfl (c (OpJ.extract (by rfl) rfl (L rfl) (q 9)) rfl (c (OpJ.assign (L rfl) (q 17)) rfl (c (OpJ.assign (L rfl) (q 18)) rfl cn)))))))))))) (by kernel_rfl) (by kernel_rfl) ?_
  refine gh [(1, _), (2, _), (3, _), (4, _)] [(1001, some _), (1002, some _)] hB rfl rfl (by rfl) ?_
  refine sr (c (ov (.ptr 1001 0 [0]) (fp hN Tryd.underlying34 0 tyS32 _ (q 1))) rfl (c (ov (.ptr 1001 1 [0, 1]) (fp hN Tryd.underlying32 1 tyS30 _ (q 19))) rfl (c (lb hN 34 _ _ tyS30 (At.dst1 (by rfl) (by rfl) (ad _) (by first | rfl | omega)) (q 20)) rfl (c (mv hN (q 3)) rfl (c (OpJ.bits (.inr (.inl rfl)) (L rfl) (q 21) (q 22)) rfl (c (ov (.ptr 1001 0 [0]) (fp hN Tryd.underlying34 0 tyS32 _ (q 1))) rfl (c (ov (.ptr 1001 1 [0, 1]) (fp hN Tryd.underlying32 1 tyS30 _ (q 24))) rfl (cg (OpJ.storeB tyS30 (SetAt.dst1 (by rfl) (by rfl) (SetAt.dst1 (by rfl) (by rfl) (SetAt.here _ _) (by rfl) (by rfl) (by first | rfl | omega)) (by rfl) (by rfl) (by first | rfl | omega)) (by rfl) (by rfl) (by simp) rfl (q 25) (q 23)) rfl cn)))))))) ?_
  refine gh [(1, _), (2, _), (4, _)] [(1001, some _), (1002, some _)] hB rfl rfl (by rfl) ?_
  refine sr (c (ov (.ptr 1001 0 [0]) (fp hN Tryd.underlying34 0 tyS32 _ (q 1))) rfl (c (ov (.ptr 1001 2 [0, 2]) (fp hN Tryd.underlying32 2 tyS30 _ (q 26))) rfl (c (lb hN 34 _ _ tyS30 (At.dst1 (by rfl) (by rfl) (ad _) (by first | rfl | omega)) (q 27)) rfl (c (mv hN (q 4)) rfl (c (OpJ.bits (.inr (.inl rfl)) (L rfl) (q 28) (q 29)) rfl (c (ov (.ptr 1001 0 [0]) (fp hN Tryd.underlying34 0 tyS32 _ (q 1))) rfl (c (ov (.ptr 1001 2 [0, 2]) (fp hN Tryd.underlying32 2 tyS30 _ (q 31))) rfl (cg (OpJ.storeB tyS30 (SetAt.dst1 (by rfl) (by rfl) (SetAt.dst1 (by rfl) (by rfl) (SetAt.here _ _) (by rfl) (by rfl) (by first | rfl | omega)) (by rfl) (by rfl) (by first | rfl | omega)) (by rfl) (by rfl) (by simp) rfl (q 32) (q 30)) rfl cn)))))))) ?_
  refine gh [(1, _), (2, _)] [(1001, some _), (1002, some _)] hB rfl rfl (by rfl) ?_
  refine sr (c (ov (.ptr 1001 0 [0]) (fp hN Tryd.underlying34 0 tyS32 _ (q 1))) rfl (c (lb hN 34 _ _ tyS32 (ad _) (q 33)) rfl (cg (OpJ.storeB tyS32 (SetAt.here _ _) (by rfl) (by rfl) (by simp) rfl (q 2) (q 34)) rfl cn))) ?_
  refine gh [(2, _)] [(1002, some _)] hB rfl rfl (by rfl) ?_
  refine AWp.ret ?_
  obtain rfl := Option.some.inj h
  exact ⟨.inl rfl, _, _, (kp [(2, _)] [(1002, some _)] hB rfl rfl (by rfl)), [(.d (.st [(.bool a0.fAddr.fV6), (.int .u64 (bitI .or .u64 a0.fAddr.fHi r4.1)), (.int .u64 (bitI .or .u64 a0.fAddr.fLo r4.2))]))], (Res.cell (c := (.d (.st [(.bool a0.fAddr.fV6), (.int .u64 (bitI .or .u64 a0.fAddr.fHi r4.1)), (.int .u64 (bitI .or .u64 a0.fAddr.fLo r4.2))]))) (by rfl) (by rfl) tyS32 (by rfl) (by rfl) (by rfl) Res.nil), rfl, by rfl, by rfl, by rfl⟩

noncomputable def resource_largest_L0 (a0 : api_Addr) (a1 : api_Addr) (s1 : Int) : Option (((api_Prefix)) ⊕ (Int)) :=
 (prefix_Make a0 s1).bind fun r27 =>
 jn (fun m32 : Bool =>
 (if m32 = true then
 some (.inl r27.1)
 else
 some (.inr (w64 (s1 + (1 : Int)))))) (fun j33 =>
 (if (r27.2 != (0 : Int)) = true then
 j33 true
 else
 (if ((r27.1.fAddr.fV6 == a0.fV6) && ((r27.1.fAddr.fHi == a0.fHi) && ((r27.1.fAddr.fLo == a0.fLo) && true))) = true then
 (prefix_Last r27.1).bind fun r37 =>
 (addr_Cmp r37 a1).bind fun r38 =>
 j33 (decide (r38 ≤ (0 : Int)))
 else
 j33 false)))
noncomputable def resource_largest (a0 : api_Addr) (a1 : api_Addr) : Option (api_Prefix) :=
 (loop (resource_largest_L0 a0 a1) (0 : Int)).bind fun p26 =>
 some p26
theorem resource_largest_ac (a0 : api_Addr) (a1 : api_Addr) (r : api_Prefix) (h : resource_largest a0 a1 = some r) : AC Tryd.prog 36 [(.d (e_api_Addr a0)), (.d (e_api_Addr a1))] [] (.d (e_api_Prefix r)) [] := by
 refine AC.of_code2 Tryd.func36 rfl rfl (Nat.le_of_ble_eq_true (by rfl)) fun B hB hN => ?_
 have L {d : Nat} (h : Nat.blt d Tryd.f36.ntmps = true) : d < B.N := ltN hN h
 delta resource_largest at h
 refine sr (cg (OpJ.box hB (nm := 1002) (by decide) (by simp) rfl (L rfl) (q 0)) rfl (cg (OpJ.box hB (nm := 1003) (by decide) (by simp) rfl (L rfl) (q 1)) rfl (cg (OpJ.alloc hB tyZ34 (nm := 1004) (by decide) (L rfl)) rfl cn))) ?_
 refine gh [(2, _), (3, _), (4, _)] [(1002, some _), (1003, some _), (1004, some _)] hB rfl rfl (by rfl) ?_
 refine sr (c (OpJ.assign (L rfl) (Opd.int .i64 (0))) rfl cn) ?_
 refine gh [(2, _), (3, _), (4, _), (5, _)] [(1002, some _), (1003, some _), (1004, some _)] hB rfl rfl (by rfl) ?_
 refine AWp.block ?_
 obtain ⟨p26, hx40, h⟩ := bindS h
 refine lg (resource_largest_L0 a0 a1) (fun s1 : Int => ([(2, (.ptr 1002 0 [])), (3, (.ptr 1003 0 [])), (4, (.ptr 1004 0 [])), (5, (i6 s1))] : EL)) (fun s1 : Int => ([(1002, some (.box 32 (.d (e_api_Addr a0)))), (1003, some (.box 32 (.d (e_api_Addr a1)))), (1004, some (.box 34 (.d (.st [(.st [(.bool false), (.int .u64 0), (.int .u64 0)]), (.int .i64 0)]))))] : OL)) (fun (p26 : (api_Prefix)) e E' O' => e = .ret ∧ Mat B E' O' ([(4, (.ptr 1004 0 []))] : EL) ([(1004, some (.box 34 (.d (e_api_Prefix p26))))] : OL)) hx40 (mp [] _ _ hB) (fun s1 y h => ?_) (fun e E' O' hR => ?_)
 ·unfold resource_largest_L0 at h
  refine AWp.seq ?_
  refine AWp.block ?_
  obtain ⟨r27, hr27, h⟩ := bindS h
  refine sr (c (lb hN 32 _ _ tyS32 (At.here _) (q 2)) rfl (c (mv hN (q 5)) rfl (cg (cf hB fnOk73 (prefix_Make_ac a0 s1 r27 hr27) (L rfl) (OpdL.cons (q 11) (OpdL.cons (q 12) OpdL.nil))) rfl (c (mv hN (q 13)) rfl (c (OpJ.extract (by rfl) rfl (L rfl) (q 10)) rfl (c (OpJ.extract (by rfl) rfl (L rfl) (q 10)) rfl (cg (OpJ.alloc hB tyZ34 (nm := 1006) (by decide) (L rfl)) rfl (cg (OpJ.storeB tyS34 (SetAt.here _ _) (by rfl) (by rfl) (by simp) rfl (q 6) (q 14)) rfl (c (OpJ.assign (L rfl) (q 15)) rfl cn))))))))) ?_
  refine gh [(2, _), (3, _), (4, _), (5, _), (6, _), (7, _)] [(1002, some _), (1003, some _), (1004, some _), (1006, some _)] hB rfl rfl (by rfl) ?_
  refine AWp.seq ?_
  refine AWp.cut h (fun m32 : Bool => ([(2, (.ptr 1002 0 [])), (3, (.ptr 1003 0 [])), (4, (.ptr 1004 0 [])), (5, (i6 s1)), (6, (.ptr 1006 0 [])), (30, (bo m32))] : EL)) (fun m32 : Bool => ([(1002, some (.box 32 (.d (e_api_Addr a0)))), (1003, some (.box 32 (.d (e_api_Addr a1)))), (1004, some (.box 34 (.d (.st [(.st [(.bool false), (.int .u64 0), (.int .u64 0)]), (.int .i64 0)])))), (1006, some (.box 34 (.d (e_api_Prefix r27.1))))] : OL)) (fun m32 h E' O' hmat => ?_) (fun j33 hjj33 h => ?_)
  ·refine seqQ_n ?_
   refine AWp.ghost hmat ?_
   refine AWp.cond rfl (fun hg34 => ?_) (fun hg34 => ?_)
   ·replace h := ite_t hg34 h
    refine sr (c (lb hN 34 _ _ tyS34 (At.here _) (q 6)) rfl (cg (OpJ.storeB tyS34 (SetAt.here _ _) (by rfl) (by rfl) (by simp) rfl (q 4) (q 31)) rfl cn)) ?_
    refine gh [(4, _)] [(1004, some _)] hB rfl rfl (by rfl) ?_
    refine AWp.ret ?_
    refine blkQ_r ?_
    refine seqQ_r ?_
    obtain rfl := Option.some.inj h
    exact ⟨(fun hc => by cases hc), rfl, (mp [] _ _ hB)⟩
   ·replace h := ite_f hg34 h
    refine AWp.skip ?_
    refine blkQ_n ?_
    refine seqQ_n ?_
    refine rg (c (mv hN (q 5)) rfl (c (add6 (L rfl) (q 8) (Opd.int .i64 (1))) rfl (c (OpJ.assign (L rfl) (q 9)) rfl cn))) ?_
    obtain rfl := Option.some.inj h
    exact ⟨rfl, (Mat.trans (mp [] [(2, (.ptr 1002 0 [])), (3, (.ptr 1003 0 [])), (4, (.ptr 1004 0 [])), (5, (i6 (w64 (s1 + (1 : Int)))))] [(1002, some (.box 32 (.d (e_api_Addr a0)))), (1003, some (.box 32 (.d (e_api_Addr a1)))), (1004, some (.box 34 (.d (.st [(.st [(.bool false), (.int .u64 0), (.int .u64 0)]), (.int .i64 0)]))))] hB) (mp [] _ _ hB))⟩
  ·rcases Bool.eq_false_or_eq_true (r27.2 != (0 : Int)) with hg35 | hg35
   ·replace h := ite_t hg35 h
    refine dr (c (mv hN (q 7)) rfl (c (OpJ.neqI (L rfl) (q 16) (Opd.int .i64 (0))) rfl (c (OpJ.val (v' := .d (.bool true)) (by rw [hg35] <;> rfl) (mv hN (q 17))) rfl (cg (sU 18 (L rfl)) rfl (cg (sU 18 (L rfl)) rfl (cg (sU 18 (L rfl)) rfl (cg (sU 18 (L rfl)) rfl (cg (sU 18 (L rfl)) rfl (cg (sV 23 (L rfl)) rfl (cg (sV 23 (L rfl)) rfl (cg (sV 23 (L rfl)) rfl (cg (sV 23 (L rfl)) rfl (cg (sV 23 (L rfl)) rfl (cg (sU 18 (L rfl)) rfl (c (OpJ.pickT (L rfl) (q 18) (Opd.bool true)) rfl cn))))))))))))))) (by kernel_rfl) (by kernel_rfl) ?_
    exact hjj33 _ h _ _ (Mat.trans (mp [] [(2, (.ptr 1002 0 [])), (3, (.ptr 1003 0 [])), (4, (.ptr 1004 0 [])), (5, (i6 s1)), (6, (.ptr 1006 0 [])), (30, (bo true))] [(1002, some (.box 32 (.d (e_api_Addr a0)))), (1003, some (.box 32 (.d (e_api_Addr a1)))), (1004, some (.box 34 (.d (.st [(.st [(.bool false), (.int .u64 0), (.int .u64 0)]), (.int .i64 0)])))), (1006, some (.box 34 (.d (e_api_Prefix r27.1))))] hB) (mp [] _ _ hB))
   ·replace h := ite_f hg35 h
    rcases Bool.eq_false_or_eq_true ((r27.1.fAddr.fV6 == a0.fV6) && ((r27.1.fAddr.fHi == a0.fHi) && ((r27.1.fAddr.fLo == a0.fLo) && true))) with hg36 | hg36
    ·replace h := ite_t hg36 h
     obtain ⟨r37, hr37, h⟩ := bindS h
     obtain ⟨r38, hr38, h⟩ := bindS h
     refine dr (c (mv hN (q 7)) rfl (c (OpJ.neqI (L rfl) (q 16) (Opd.int .i64 (0))) rfl (c (OpJ.val (v' := .d (.bool false)) (by rw [hg35] <;> rfl) (mv hN (q 17))) rfl (c (gd 18 (ov (.ptr 1006 0 [0]) (fp hN Tryd.underlying34 0 tyS32 _ (q 6)))) rfl (c (gd 18 (lb hN 34 _ _ tyS32 (ad _) (q 19))) rfl (c (gd 18 (lb hN 32 _ _ tyS32 (At.here _) (q 2))) rfl (c (gd 18 (OpJ.eqlD (h := 2) (FitE.st Tryd.underlying32 rfl held32 (FitF.cons (x := (.bool r27.1.fAddr.fV6)) (y := (.bool a0.fV6)) (by decide) rfl tyS4 ⟨rfl, rfl⟩ ⟨rfl, rfl⟩ (FitE.bool (h := 0) r27.1.fAddr.fV6 a0.fV6 Tryd.underlying4) (FitF.cons (x := (.int .u64 r27.1.fAddr.fHi)) (y := (.int .u64 a0.fHi)) (by decide) rfl tyS30 ⟨rfl, rfl⟩ ⟨rfl, rfl⟩ (FitE.int (h := 0) r27.1.fAddr.fHi a0.fHi Tryd.underlying30) (FitF.cons (x := (.int .u64 r27.1.fAddr.fLo)) (y := (.int .u64 a0.fLo)) (by decide) rfl tyS30 ⟨rfl, rfl⟩ ⟨rfl, rfl⟩ (FitE.int (h := 0) r27.1.fAddr.fLo a0.fLo Tryd.underlying30) FitF.nil)))) eqg32 ⟨rfl, rfl⟩ (by rfl) (L rfl) (q 20) (q 21))) rfl (c (gd 18 (OpJ.val (v' := .d (.bool true)) (by rw [hg36] <;> rfl) (mv hN (q 22)))) rfl (c (gd 23 (lb hN 34 _ _ tyS34 (At.here _) (q 6))) rfl (cg (gd 23 (cf hB fnOk38 (prefix_Last_ac r27.1 r37 hr37) (L rfl) (OpdL.cons (q 24) OpdL.nil))) rfl (c (gd 23 (lb hN 32 _ _ tyS32 (At.here _) (q 3))) rfl (cg (gd 23 (cf hB fnOk35 (addr_Cmp_ac r37 a1 r38 hr38) (L rfl) (OpdL.cons (q 25) (OpdL.cons (q 26) OpdL.nil)))) rfl (c (gd 23 (OpJ.leq (L rfl) (q 27) (Opd.int .i64 (0)))) rfl (c (gd 18 (OpJ.pickT (L rfl) (q 23) (q 28))) rfl (c (OpJ.pickF (L rfl) (q 18) (q 29)) rfl cn))))))))))))))) (by kernel_rfl) (by kernel_rfl) ?_
     exact hjj33 _ h _ _ (Mat.trans (mp [] [(2, (.ptr 1002 0 [])), (3, (.ptr 1003 0 [])), (4, (.ptr 1004 0 [])), (5, (i6 s1)), (6, (.ptr 1006 0 [])), (30, (bo (decide (r38 ≤ (0 : Int)))))] [(1002, some (.box 32 (.d (e_api_Addr a0)))), (1003, some (.box 32 (.d (e_api_Addr a1)))), (1004, some (.box 34 (.d (.st [(.st [(.bool false), (.int .u64 0), (.int .u64 0)]), (.int .i64 0)])))), (1006, some (.box 34 (.d (e_api_Prefix r27.1))))] hB) (mp [] _ _ hB))
    ·replace h := ite_f hg36 h
     refine dr (c (mv hN (q 7)) rfl (c (OpJ.neqI (L rfl) (q 16) (Opd.int .i64 (0))) rfl (c (OpJ.val (v' := .d (.bool false)) (by rw [hg35] <;> rfl) (mv hN (q 17))) rfl (c (gd 18 (ov (.ptr 1006 0 [0]) (fp hN Tryd.underlying34 0 tyS32 _ (q 6)))) rfl (c (gd 18 (lb hN 34 _ _ tyS32 (ad _) (q 19))) rfl (c (gd 18 (lb hN 32 _ _ tyS32 (At.here _) (q 2))) rfl (c (gd 18 (OpJ.eqlD (h := 2) (FitE.st Tryd.underlying32 rfl held32 (FitF.cons (x := (.bool r27.1.fAddr.fV6)) (y := (.bool a0.fV6)) (by decide) rfl tyS4 ⟨rfl, rfl⟩ ⟨rfl, rfl⟩ (FitE.bool (h := 0) r27.1.fAddr.fV6 a0.fV6 Tryd.underlying4) (FitF.cons (x := (.int .u64 r27.1.fAddr.fHi)) (y := (.int .u64 a0.fHi)) (by decide) rfl tyS30 ⟨rfl, rfl⟩ ⟨rfl, rfl⟩ (FitE.int (h := 0) r27.1.fAddr.fHi a0.fHi Tryd.underlying30) (FitF.cons (x := (.int .u64 r27.1.fAddr.fLo)) (y := (.int .u64 a0.fLo)) (by decide) rfl tyS30 ⟨rfl, rfl⟩ ⟨rfl, rfl⟩ (FitE.int (h := 0) r27.1.fAddr.fLo a0.fLo Tryd.underlying30) FitF.nil)))) eqg32 ⟨rfl, rfl⟩ (by rfl) (L rfl) (q 20) (q 21))) rfl (c (gd 18 (OpJ.val (v' := .d (.bool false)) (by rw [hg36] <;> rfl) (mv hN (q 22)))) rfl (cg (sU 23 (L rfl)) rfl (cg (sU 23 (L rfl)) rfl (cg (sU 23 (L rfl)) rfl (cg (sU 23 (L rfl)) rfl (cg (sU 23 (L rfl)) rfl (c (gd 18 (OpJ.pickF (L rfl) (q 23) (Opd.bool false))) rfl (c (OpJ.pickF (L rfl) (q 18) (q 29)) rfl cn))))))))))))))) (by kernel_rfl) (by kernel_rfl) ?_
     exact hjj33 _ h _ _ (Mat.trans (mp [] [(2, (.ptr 1002 0 [])), (3, (.ptr 1003 0 [])), (4, (.ptr 1004 0 [])), (5, (i6 s1)), (6, (.ptr 1006 0 [])), (30, (bo false))] [(1002, some (.box 32 (.d (e_api_Addr a0)))), (1003, some (.box 32 (.d (e_api_Addr a1)))), (1004, some (.box 34 (.d (.st [(.st [(.bool false), (.int .u64 0), (.int .u64 0)]), (.int .i64 0)])))), (1006, some (.box 34 (.d (e_api_Prefix r27.1))))] hB) (mp [] _ _ hB))
 ·obtain ⟨rfl, hmat⟩ := hR
  refine blkQ_r ?_
  obtain rfl := Option.some.inj h
  exact ⟨.inl rfl, _, _, (Mat.trans hmat (mp [] [(4, (.ptr 1004 0 []))] [(1004, some (.box 34 (.d (e_api_Prefix p26))))] hB)), [(.d (e_api_Prefix p26))], (Res.cell (c := (.d (e_api_Prefix p26))) (by rfl) (by rfl) tyS34 (by rfl) (by rfl) (by rfl) Res.nil), rfl, by rfl, by rfl, by rfl⟩


end Go.Proofs.YtgcilleccigmdaaDoor
