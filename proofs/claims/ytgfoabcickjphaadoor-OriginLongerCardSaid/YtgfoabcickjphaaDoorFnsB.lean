/- Printed by gen.py: the Go functions as plain functions, and that the code does what they say. -/
import Derived.Test.YtgfoabcickjphaaDoorChecked
import Derived.Test.YtgfoabcickjphaaDoorVcYB
import Derived.Test.YtgfoabcickjphaaDoorVcZ
import Derived.KernelRfl
import Derived.Test.YtgfoabcickjphaaDoorVcMD
import Derived.Test.YtgfoabcickjphaaDoorVcMQ
import Derived.Test.YtgfoabcickjphaaDoorVcSG
import Derived.Test.YtgfoabcickjphaaDoorFnsA
import Derived.Test.YtgfoabcickjphaaDoorExt
import Derived.Test.YtgfoabcickjphaaDoorVcGl
import Derived.Test.YtgfoabcickjphaaDoorVcWS
namespace Go.Proofs.YtgfoabcickjphaaDoor
open Go Go.Vc
open Tryd
set_option maxHeartbeats 4000000
set_option maxRecDepth 100000
noncomputable def exchangepointref21_Of_L0 (a0 : (List api_Prefix)) (s1 : Int × (List api_Range)) : Option (((Unit) ⊕ ((List api_Range))) ⊕ (Int × (List api_Range))) :=
 (if (decide (s1.1 < (a0.length : Int))) = true then
 (idx a0 s1.1).bind fun x17 =>
 (exchangepointref02_Valid x17).bind fun r18 =>
 (if (!r18) = true then
 some (.inl (.inl ()))
 else
 (exchangepointref02_Last x17).bind fun r20 =>
 chk (decide ((s1.2 ++ ([(api_Range.mk x17.fAddr r20)] : List api_Range)).length ≤ LIM)) <|
 some (.inr ((w64 (s1.1 + (1 : Int))), (s1.2 ++ ([(api_Range.mk x17.fAddr r20)] : List api_Range)))))
 else
 some (.inl (.inr s1.2)))
noncomputable def exchangepointref21_Of_L1 (a1 : (List api_Span)) (s24 : Int) : Option (((Unit) ⊕ (Unit)) ⊕ (Int)) :=
 (if (decide (s24 < (a1.length : Int))) = true then
 (idx a1 s24).bind fun x34 =>
 (if (((decide (x34.fFrom < (0 : Int))) || (decide (x34.fTo < x34.fFrom))) || (decide ((4294967295 : Int) < x34.fTo))) = true then
 some (.inl (.inl ()))
 else
 some (.inr (w64 (s24 + (1 : Int)))))
 else
 some (.inl (.inr ())))
noncomputable def exchangepointref21_Of (a0 : (List api_Prefix)) (a1 : (List api_Span)) : Option (api_Resources × Int) :=
 (loop (exchangepointref21_Of_L0 a0) ((0 : Int), ([] : List api_Range))).bind fun x22 => match x22 with
 | (.inl _) =>
  some ((api_Resources.mk ([] : List api_Range) ([] : List api_Span)), (1 : Int))
 | (.inr p15) =>
  (loop (exchangepointref21_Of_L1 a1) (0 : Int)).bind fun x36 => match x36 with
  | (.inl _) =>
   some ((api_Resources.mk ([] : List api_Range) ([] : List api_Span)), (1 : Int))
  | (.inr _) =>
   (exchangepointref21_ranges p15).bind fun r38 =>
   (exchangepointref21_spans a1).bind fun r39 =>
   (exchangepointref21_limited r38 r39).bind fun r40 =>
   some (r40.1, r40.2)
theorem exchangepointref21_Of_ac (a0 : (List api_Prefix)) (a1 : (List api_Span)) (r : api_Resources × Int) (h : exchangepointref21_Of a0 a1 = some r) : AC Tryd.prog 19 [(.d (.list 4 (a0.map e_api_Prefix))), (.d (.list 2 (a1.map e_api_Span)))] [] (.tup [(.d (e_api_Resources r.1)), (.d (.int .i64 r.2))]) [] := by
 refine AC.of_code2 Tryd.func19 rfl rfl (Nat.le_of_ble_eq_true (by rfl)) fun B hB hN => ?_
 have L {d : Nat} (h : Nat.blt d Tryd.f19.ntmps = true) : d < B.N := ltN hN h
 delta exchangepointref21_Of at h
 refine sr (cg (OpJ.alloc hB tyZ26 (nm := 1004) (by decide) (L rfl)) rfl (c (OpJ.assign (L rfl) (Opd.int .i64 (0))) rfl cn)) ?_
 refine sr (c (OpJ.assign (L rfl) Opd.nils) rfl cn) ?_
 apply AWp.seq
 refine sr (c (mv hN (q 0)) rfl (c (OpJ.val (v' := (i6 (a0.length : Int))) (by simp) (OpJ.lenD underlying49 (L rfl) (q 11))) rfl (c (mv hN (Opd.int .i64 (0))) rfl cn))) ?_
 apply AWp.block
 obtain ⟨x22, hx23, h⟩ := bindS h
 refine lg (exchangepointref21_Of_L0 a0) (fun s1 : Int × (List api_Range) => ([(1, (qe_api_Span_2 a1)), (4, (pt 1004)), (6, (.sref 3006 6 0 s1.2.length)), (11, (qe_api_Prefix_4 a0)), (12, (i6 (a0.length : Int))), (13, (i6 s1.1))] : EL)) (fun s1 : Int × (List api_Range) => ([(1004, some (.box 26 (.st [.nils, .nils]))), (3006, some (we_api_Range_88_6 s1.2))] : OL)) (fun (x : (Unit) ⊕ ((List api_Range))) e E' O' => match x with | (.inl _p) => e = .ret ∧ Mat B E' O' ([(4, (pt 1004)), (5, (i6 1))] : EL) ([(1004, some (.box 26 (.st [.nils, .nils])))] : OL) | (.inr p15) => e = .exit 0 ∧ Mat B E' O' ([(1, (qe_api_Span_2 a1)), (4, (pt 1004)), (6, (.sref 3006 6 0 p15.length))] : EL) ([(1004, some (.box 26 (.st [.nils, .nils]))), (3006, some (we_api_Range_88_6 p15))] : OL)) hx23 (Mat.trans (Mat.beginP (n := 3006) (e := 88) (sz := 6) (Ts := [(6, (.sref 3006 6 0 0))]) (Bs := []) hB (by decide) (by rfl) (by decide) (TwT.cons (x := .nils) (by rfl) (Tw.leaf ⟨rfl, rfl⟩) TwT.nil) TwB.nil) (mp [] _ _ hB)) (fun s1 y h => ?_) (fun e E' O' hR => ?_)
 ·unfold exchangepointref21_Of_L0 at h
  refine sr (c (OpJ.lss (L rfl) (q 13) (q 12)) rfl cn) ?_
  apply AWp.seq
  refine AWp.cond rfl (fun hg16 => ?_) (fun hg16 => ?_)
  ·replace h := ite_t hg16 h
   apply AWp.skip
   apply seqQ_n
   apply AWp.seq
   apply AWp.block
   obtain ⟨x17, hx17, h⟩ := bindS h
   refine sr (c (OpJ.indexD underlying49 tyS44 (idx_some hx17).1 (get_map e_api_Prefix (idx_some hx17).2) (L rfl) (q 11) (q 13)) rfl (c (OpJ.loadD tyS44 (by rfl) (by rfl) (L rfl) (q 15)) rfl (cg (OpJ.alloc hB tyZ44 (nm := 1008) (by decide) (L rfl)) rfl (cg (sB tyS44 (q 8) (q 16)) rfl cn)))) ?_
   apply AWp.seq
   obtain ⟨r18, hr18, h⟩ := bindS h
   refine sr (c (lb hN 44 _ _ tyS44 (At.here _) (q 8)) rfl (cg (cf hB fnOk35 (exchangepointref02_Valid_ac x17 r18 hr18) (L rfl) (OpdL.cons (q 17) OpdL.nil)) rfl (c (OpJ.not (L rfl) (q 18)) rfl cn))) ?_
   refine AWp.cond rfl (fun hg19 => ?_) (fun hg19 => ?_)
   ·replace h := ite_t hg19 h
    refine sr (c (OpJ.build (places := [(0, 1), (1, 1)]) ⟨underlying26, fun w => by kernel_rfl⟩ tyZS26 Opds.nil (by kernel_rfl) (r := (.st [.nils, .nils])) (by rfl) (L rfl)) rfl (cg (sB tyS26 (q 4) (q 20)) rfl (c (OpJ.assign (L rfl) (Opd.int .i64 (1))) rfl cn))) ?_
    apply AWp.ret
    apply seqQ_r
    apply blkQ_r
    apply seqQ_r
    obtain rfl := Option.some.inj h
    exact ⟨(fun hc => by cases hc), rfl, (mp [] _ _ hB)⟩
   ·replace h := ite_f hg19 h
    apply AWp.skip
    apply seqQ_n
    obtain ⟨r20, hr20, h⟩ := bindS h
    obtain ⟨hc21, h⟩ := chk_some h
    refine dr (c (mv hN (q 6)) rfl (c (fo 1008 0 [0] hN underlying44 0 tyS42 (q 8)) rfl (c (la hN 44 tyS42 (q 22)) rfl (c (lb hN 44 _ _ tyS44 (At.here _) (q 8)) rfl (cg (cf hB fnOk36 (exchangepointref02_Last_ac x17 r20 hr20) (L rfl) (OpdL.cons (q 24) OpdL.nil)) rfl (c (OpJ.coe (v := (.st [(.d (e_api_Addr x17.fAddr)), (.d (e_api_Addr r20))])) (y := (.st [(e_api_Addr x17.fAddr), (e_api_Addr r20)])) (Co.st (CoL.cons (Co.d _) (CoL.cons (Co.d _) CoL.nil))) rfl (OpJ.build (places := [(0, 3), (3, 3)]) ⟨underlying88, fun w => by kernel_rfl⟩ tyZS88 (Opds.cons (q 23) (Opds.cons (q 25) Opds.nil)) (by kernel_rfl) (r := (.st [(.d (e_api_Addr x17.fAddr)), (.d (e_api_Addr r20))])) (by rfl) (L rfl))) rfl (c (OpJ.buildSlice underlying23 tyS88 tyZD88 (by rfl) (by decide) (by decide) (Opds.cons (q 26) Opds.nil) (by kernel_rfl) (es := ([(.st [(e_api_Addr x17.fAddr), (e_api_Addr r20)])] : List D)) (by rfl) (by rfl) (by kernel_rfl) (by simp) (L rfl)) rfl (cg (apd hB underlying23 tyE88 1028 e_api_Range s1.2 ([(api_Range.mk x17.fAddr r20)] : List api_Range) hc21 (L rfl) (q 21) (q 27)) rfl (c (OpJ.assign (L rfl) (q 28)) rfl cn))))))))) (by kernel_rfl) (by kernel_rfl) ?_
    apply blkQ_n
    apply seqQ_n
    refine rg (c (add6 (L rfl) (q 13) (Opd.int .i64 (1))) rfl (c (mv hN (q 29)) rfl cn)) ?_
    obtain rfl := Option.some.inj h
    exact ⟨rfl, (mp [(3006, 1028)] _ _ hB)⟩
  ·replace h := ite_f hg16 h
   apply AWp.exit
   apply seqQ_e
   obtain rfl := Option.some.inj h
   exact ⟨(fun hc => by cases hc), rfl, (mp [] _ _ hB)⟩
 ·rcases x22 with _ | p15
  ·obtain ⟨rfl, hmat⟩ := hR
   apply blkQ_r
   apply seqQ_r
   obtain rfl := Option.some.inj h
   exact ⟨.inl rfl, _, _, (Mat.trans hmat (Mat.trans (Mat.coeP (Ts := []) (Bs := [(1004, bd 26 (.st [(.list 6 (([] : List api_Range).map e_api_Range)), (.list 2 (([] : List api_Span).map e_api_Span))]))]) TwT.nil (TwB.cons (x := (.st [.nils, .nils])) (by rfl) (Tw.leaf ⟨_, (Co.st (CoL.cons (Co.nils 6) (CoL.cons (Co.nils 2) CoL.nil))), rfl⟩) TwB.nil)) (mp [] [(4, (pt 1004)), (5, (i6 1))] [(1004, bd 26 (.st [(.list 6 (([] : List api_Range).map e_api_Range)), (.list 2 (([] : List api_Span).map e_api_Span))]))] hB))), [(.d (.st [(.list 6 (([] : List api_Range).map e_api_Range)), (.list 2 (([] : List api_Span).map e_api_Span))])), (i6 1)], (Res.cell (c := (.d (.st [(.list 6 (([] : List api_Range).map e_api_Range)), (.list 2 (([] : List api_Span).map e_api_Span))]))) (by rfl) (by rfl) tyS26 (by rfl) (by rfl) (by rfl) (Res.tmp (by rfl) (by rfl) Res.nil)), rfl, by rfl, by rfl, by rfl⟩
  ·obtain ⟨rfl, hmat⟩ := hR
   apply blkQ_hit
   apply seqQ_n
   refine AWp.ghost hmat ?_
   apply AWp.seq
   refine sr (c (mv hN (q 1)) rfl (c (OpJ.val (v' := (i6 (a1.length : Int))) (by simp) (OpJ.lenD underlying24 (L rfl) (q 30))) rfl (c (mv hN (Opd.int .i64 (0))) rfl cn))) ?_
   apply AWp.block
   obtain ⟨x36, hx37, h⟩ := bindS h
   refine lg (exchangepointref21_Of_L1 a1) (fun s24 : Int => ([(1, (qe_api_Span_2 a1)), (4, (pt 1004)), (6, (.sref 3006 6 0 p15.length)), (30, (qe_api_Span_2 a1)), (31, (i6 (a1.length : Int))), (32, (i6 s24))] : EL)) (fun s24 : Int => ([(1004, some (.box 26 (.st [.nils, .nils]))), (3006, some (we_api_Range_88_6 p15))] : OL)) (fun (x : (Unit) ⊕ (Unit)) e E' O' => match x with | (.inl _p) => e = .ret ∧ Mat B E' O' ([(4, (pt 1004)), (5, (i6 1))] : EL) ([(1004, some (.box 26 (.st [.nils, .nils])))] : OL) | (.inr _p) => e = .exit 2 ∧ Mat B E' O' ([(1, (qe_api_Span_2 a1)), (4, (pt 1004)), (6, (.sref 3006 6 0 p15.length))] : EL) ([(1004, some (.box 26 (.st [.nils, .nils]))), (3006, some (we_api_Range_88_6 p15))] : OL)) hx37 (mp [] _ _ hB) (fun s24 y h => ?_) (fun e E' O' hR => ?_)
   ·unfold exchangepointref21_Of_L1 at h
    refine sr (c (OpJ.lss (L rfl) (q 32) (q 31)) rfl cn) ?_
    apply AWp.seq
    refine AWp.cond rfl (fun hg33 => ?_) (fun hg33 => ?_)
    ·replace h := ite_t hg33 h
     apply AWp.skip
     apply seqQ_n
     apply AWp.seq
     apply AWp.block
     obtain ⟨x34, hx34, h⟩ := bindS h
     refine sr (c (OpJ.indexD underlying24 tyS62 (idx_some hx34).1 (get_map e_api_Span (idx_some hx34).2) (L rfl) (q 30) (q 32)) rfl (c (OpJ.loadD tyS62 (by rfl) (by rfl) (L rfl) (q 34)) rfl (cg (OpJ.alloc hB tyZ62 (nm := 1010) (by decide) (L rfl)) rfl (cg (sB tyS62 (q 10) (q 35)) rfl cn)))) ?_
     refine sr (c (fo 1010 0 [0] hN underlying62 0 tyS3 (q 10)) rfl (c (la hN 62 tyS3 (q 36)) rfl (c (OpJ.lss (L rfl) (q 37) (Opd.int .i64 (0))) rfl (c (mv hN (q 38)) rfl (c (oq hN 39 (fo 1010 0 [0] hN underlying62 0 tyS3 (q 10)) (OptL.keep (by rfl) OptL.nil) (GuardV.plain _)) rfl (c (oq hN 39 (la hN 62 tyS3 (q 40)) (OptL.opt OptL.nil) (GuardV.plain _)) rfl (c (oq hN 39 (fo 1010 1 [1] hN underlying62 1 tyS3 (q 10)) (OptL.keep (by rfl) OptL.nil) (GuardV.plain _)) rfl (c (oq hN 39 (la hN 62 tyS3 (q 42)) (OptL.opt OptL.nil) (GuardV.plain _)) rfl (c (oq hN 39 (OpJ.gtr (L rfl) (q 41) (q 43)) (OptL.opt (OptL.opt OptL.nil)) (GuardV.plain _)) rfl (c (OpJ.pickOr rfl (L rfl) (q 39) (q 44)) rfl (c (mv hN (q 45)) rfl (c (oq hN 46 (fo 1010 1 [1] hN underlying62 1 tyS3 (q 10)) (OptL.keep (by rfl) OptL.nil) (GuardV.plain _)) rfl (c (oq hN 46 (la hN 62 tyS3 (q 47)) (OptL.opt OptL.nil) (GuardV.plain _)) rfl (c (oq hN 46 (OpJ.gtr (L rfl) (q 48) (Opd.int .i64 (4294967295))) (OptL.opt OptL.nil) (GuardV.plain _)) rfl (c (OpJ.pickOr rfl (L rfl) (q 46) (q 49)) rfl cn))))))))))))))) ?_
     refine AWp.cond rfl (fun hg35 => ?_) (fun hg35 => ?_)
     ·replace h := ite_t hg35 h
      refine sr (c (OpJ.build (places := [(0, 1), (1, 1)]) ⟨underlying26, fun w => by kernel_rfl⟩ tyZS26 Opds.nil (by kernel_rfl) (r := (.st [.nils, .nils])) (by rfl) (L rfl)) rfl (cg (sB tyS26 (q 4) (q 51)) rfl (c (OpJ.assign (L rfl) (Opd.int .i64 (1))) rfl cn))) ?_
      apply AWp.ret
      apply blkQ_r
      apply seqQ_r
      obtain rfl := Option.some.inj h
      exact ⟨(fun hc => by cases hc), rfl, (mp [] _ _ hB)⟩
     ·replace h := ite_f hg35 h
      apply AWp.skip
      apply blkQ_n
      apply seqQ_n
      refine rg (c (add6 (L rfl) (q 32) (Opd.int .i64 (1))) rfl (c (mv hN (q 52)) rfl cn)) ?_
      obtain rfl := Option.some.inj h
      exact ⟨rfl, (mp [] _ _ hB)⟩
    ·replace h := ite_f hg33 h
     apply AWp.exit
     apply seqQ_e
     obtain rfl := Option.some.inj h
     exact ⟨(fun hc => by cases hc), rfl, (mp [] _ _ hB)⟩
   ·rcases x36 with _ | _
    ·obtain ⟨rfl, hmat⟩ := hR
     apply blkQ_r
     apply seqQ_r
     obtain rfl := Option.some.inj h
     exact ⟨.inl rfl, _, _, (Mat.trans hmat (Mat.trans (Mat.coeP (Ts := []) (Bs := [(1004, bd 26 (.st [(.list 6 (([] : List api_Range).map e_api_Range)), (.list 2 (([] : List api_Span).map e_api_Span))]))]) TwT.nil (TwB.cons (x := (.st [.nils, .nils])) (by rfl) (Tw.leaf ⟨_, (Co.st (CoL.cons (Co.nils 6) (CoL.cons (Co.nils 2) CoL.nil))), rfl⟩) TwB.nil)) (mp [] [(4, (pt 1004)), (5, (i6 1))] [(1004, bd 26 (.st [(.list 6 (([] : List api_Range).map e_api_Range)), (.list 2 (([] : List api_Span).map e_api_Span))]))] hB))), [(.d (.st [(.list 6 (([] : List api_Range).map e_api_Range)), (.list 2 (([] : List api_Span).map e_api_Span))])), (i6 1)], (Res.cell (c := (.d (.st [(.list 6 (([] : List api_Range).map e_api_Range)), (.list 2 (([] : List api_Span).map e_api_Span))]))) (by rfl) (by rfl) tyS26 (by rfl) (by rfl) (by rfl) (Res.tmp (by rfl) (by rfl) Res.nil)), rfl, by rfl, by rfl, by rfl⟩
    ·obtain ⟨rfl, hmat⟩ := hR
     apply blkQ_hit
     apply seqQ_n
     refine AWp.ghost hmat ?_
     apply AWp.seq
     refine AWp.ghost (Mat.freezeP (n := 3006) (e := 88) (sz := 6) (es := p15.map e_api_Range) (Ts := [(6, (qe_api_Range_6 p15))]) (Bs := []) (by rfl) (TwT.cons (x := (.sref 3006 6 0 p15.length)) (by rfl) (FrzL.all (by first | rfl | (simp; done) | (simp; omega) | omega)) TwT.nil) TwB.nil) ?_
     obtain ⟨r38, hr38, h⟩ := bindS h
     obtain ⟨r39, hr39, h⟩ := bindS h
     obtain ⟨r40, hr40, h⟩ := bindS h
     refine rg (c (mv hN (q 6)) rfl (cg (cf hB fnOk38 (exchangepointref21_ranges_ac p15 r38 hr38) (L rfl) (OpdL.cons (q 53) OpdL.nil)) rfl (c (mv hN (q 1)) rfl (cg (cf hB fnOk39 (exchangepointref21_spans_ac a1 r39 hr39) (L rfl) (OpdL.cons (q 55) OpdL.nil)) rfl (cg (cf hB fnOk37 (exchangepointref21_limited_ac r38 r39 r40 hr40) (L rfl) (OpdL.cons (q 54) (OpdL.cons (q 56) OpdL.nil))) rfl (c (OpJ.extract (by rfl) rfl (L rfl) (q 57)) rfl (c (OpJ.extract (by rfl) rfl (L rfl) (q 57)) rfl (cg (sB tyS26 (q 4) (q 58)) rfl (c (OpJ.assign (L rfl) (q 59)) rfl cn))))))))) ?_
     apply seqQ_n
     apply AWp.ret
     obtain rfl := Option.some.inj h
     exact ⟨.inl rfl, _, _, (kp [(4, _), (5, _)] [(1004, some _)] hB rfl rfl (by rfl)), [(.d (e_api_Resources r40.1)), (i6 r40.2)], (Res.cell (c := (.d (e_api_Resources r40.1))) (by rfl) (by rfl) tyS26 (by rfl) (by rfl) (by rfl) (Res.tmp (by rfl) (by rfl) Res.nil)), rfl, by rfl, by rfl, by rfl⟩
noncomputable def origin_current (a0 : Int) (a1 : Int) (a2 : Int) : Option (Bool) :=
 some ((decide (a0 ≤ a2)) && (decide (a2 ≤ a1)))
theorem origin_current_ac (a0 : Int) (a1 : Int) (a2 : Int) (r : Bool) (h : origin_current a0 a1 a2 = some r) : AC Tryd.prog 20 [(.d (.int .i64 a0)), (.d (.int .i64 a1)), (.d (.int .i64 a2))] [] (.d (.bool r)) [] := by
 refine AC.of_code2 Tryd.func20 rfl rfl (Nat.le_of_ble_eq_true (by rfl)) fun B hB hN => ?_
 delta origin_current at h
 refine sr (c (OpJ.assign (ltN hN rfl) (Opd.bool false)) rfl cn) ?_
 refine sr (c (mv hN (q 0)) rfl (c (mv hN (q 2)) rfl (c (OpJ.leq (ltN hN rfl) (q 7) (q 8)) rfl (c (mv hN (q 9)) rfl (c (oq hN 10 (mv hN (q 2)) (OptL.keep (by rfl) OptL.nil) (GuardV.plain _)) rfl (c (oq hN 10 (mv hN (q 1)) (OptL.keep (by rfl) OptL.nil) (GuardV.plain _)) rfl (c (oq hN 10 (OpJ.leq (ltN hN rfl) (q 11) (q 12)) (OptL.opt (OptL.opt OptL.nil)) (GuardV.plain _)) rfl (c (OpJ.pickAnd rfl (ltN hN rfl) (q 10) (q 13)) rfl (c (OpJ.assign (ltN hN rfl) (q 14)) rfl cn))))))))) ?_
 apply AWp.ret
 obtain rfl := Option.some.inj h
 exact ⟨.inl rfl, _, _, (kp [(6, _)] [] hB rfl rfl (by rfl)), [(bo ((decide (a0 ≤ a2)) && (decide (a2 ≤ a1))))], (Res.tmp (by rfl) (by rfl) Res.nil), rfl, by rfl, by rfl, by rfl⟩
noncomputable def addr_Valid (a0 : api_Addr) : Option (Bool) :=
 jn (fun m2 : Bool =>
 some m2) (fun j3 =>
 (if a0.fV6 = true then
 j3 true
 else
 j3 ((a0.fHi == (0 : Int)) && (decide (a0.fLo < (4294967296 : Int))))))
theorem addr_Valid_ac (a0 : api_Addr) (r : Bool) (h : addr_Valid a0 = some r) : AC Tryd.prog 40 [(.d (e_api_Addr a0))] [] (.d (.bool r)) [] := by
 refine AC.of_code2 Tryd.func40 rfl rfl (Nat.le_of_ble_eq_true (by rfl)) fun B hB hN => ?_
 have L {d : Nat} (h : Nat.blt d Tryd.f40.ntmps = true) : d < B.N := ltN hN h
 delta addr_Valid at h
 refine sr (cg (OpJ.box hB (nm := 1001) (by decide) (by simp) rfl (L rfl) (q 0)) rfl (c (OpJ.assign (L rfl) (Opd.bool false)) rfl cn)) ?_
 apply AWp.seq
 refine AWp.cut h (fun m2 : Bool => ([(2, (bo m2))] : EL)) (fun m2 : Bool => ([] : OL)) (fun m2 h E' O' hmat => ?_) (fun j3 hjj3 h => ?_)
 ·apply seqQ_n
  refine AWp.ghost hmat ?_
  apply AWp.ret
  obtain rfl := Option.some.inj h
  exact ⟨.inl rfl, _, _, (kp [(2, _)] [] hB rfl rfl (by rfl)), [(bo m2)], (Res.tmp (by rfl) (by rfl) Res.nil), rfl, by rfl, by rfl, by rfl⟩
 ·rcases Bool.eq_false_or_eq_true a0.fV6 with hg4 | hg4
  ·replace h := ite_t hg4 h
   refine rg (c (fo 1001 0 [0] hN underlying42 0 tyS4 (q 1)) rfl (c (la hN 42 tyS4 (q 3)) rfl (c (OpJ.val (v' := .d (.bool true)) (by rw [hg4] <;> rfl) (mv hN (q 4))) rfl (cg (sU 5 (L rfl)) rfl (cg (sU 5 (L rfl)) rfl (cg (sU 5 (L rfl)) rfl (cg (sU 5 (L rfl)) rfl (cg (sV 9 (L rfl)) rfl (cg (sV 9 (L rfl)) rfl (cg (sV 9 (L rfl)) rfl (cg (sU 5 (L rfl)) rfl (c (OpJ.pickT (L rfl) (q 5) (Opd.bool true)) rfl (c (OpJ.assign (L rfl) (q 14)) rfl cn))))))))))))) ?_
   exact hjj3 _ h _ _ (mp [] _ _ hB)
  ·replace h := ite_f hg4 h
   refine rg (c (fo 1001 0 [0] hN underlying42 0 tyS4 (q 1)) rfl (c (la hN 42 tyS4 (q 3)) rfl (c (OpJ.val (v' := .d (.bool false)) (by rw [hg4] <;> rfl) (mv hN (q 4))) rfl (c (gd 5 (fo 1001 1 [1] hN underlying42 1 tyS40 (q 1))) rfl (c (gd 5 (la hN 42 tyS40 (q 6))) rfl (c (gd 5 (OpJ.eqlI (L rfl) (q 7) (Opd.int .u64 (0)))) rfl (c (gd 5 (mv hN (q 8))) rfl (c (oq hN 9 (fo 1001 2 [2] hN underlying42 2 tyS40 (q 1)) (OptL.keep (by rfl) OptL.nil) (GuardV.plain _)) rfl (c (oq hN 9 (la hN 42 tyS40 (q 10)) (OptL.opt OptL.nil) (GuardV.plain _)) rfl (c (oq hN 9 (OpJ.lss (L rfl) (q 11) (Opd.int .u64 (4294967296))) (OptL.opt OptL.nil) (GuardV.plain _)) rfl (c (gd 5 (OpJ.pickAnd rfl (L rfl) (q 9) (q 12))) rfl (c (OpJ.pickF (L rfl) (q 5) (q 13)) rfl (c (OpJ.assign (L rfl) (q 14)) rfl cn))))))))))))) ?_
   exact hjj3 _ h _ _ (mp [] _ _ hB)
noncomputable def resource_span (a0 : api_Span) : Option (Bool) :=
 some (((decide ((0 : Int) ≤ a0.fFrom)) && (decide (a0.fFrom ≤ a0.fTo))) && (decide (a0.fTo ≤ (4294967295 : Int))))
theorem resource_span_ac (a0 : api_Span) (r : Bool) (h : resource_span a0 = some r) : AC Tryd.prog 43 [(.d (e_api_Span a0))] [] (.d (.bool r)) [] := by
 refine AC.of_code2 Tryd.func43 rfl rfl (Nat.le_of_ble_eq_true (by rfl)) fun B hB hN => ?_
 delta resource_span at h
 refine sr (cg (OpJ.box hB (nm := 1001) (by decide) (by simp) rfl (ltN hN rfl) (q 0)) rfl (c (OpJ.assign (ltN hN rfl) (Opd.bool false)) rfl cn)) ?_
 refine sr (c (fo 1001 0 [0] hN underlying62 0 tyS3 (q 1)) rfl (c (la hN 62 tyS3 (q 3)) rfl (c (OpJ.geq (ltN hN rfl) (q 4) (Opd.int .i64 (0))) rfl (c (mv hN (q 5)) rfl (c (oq hN 6 (fo 1001 0 [0] hN underlying62 0 tyS3 (q 1)) (OptL.keep (by rfl) OptL.nil) (GuardV.plain _)) rfl (c (oq hN 6 (la hN 62 tyS3 (q 7)) (OptL.opt OptL.nil) (GuardV.plain _)) rfl (c (oq hN 6 (fo 1001 1 [1] hN underlying62 1 tyS3 (q 1)) (OptL.keep (by rfl) OptL.nil) (GuardV.plain _)) rfl (c (oq hN 6 (la hN 62 tyS3 (q 9)) (OptL.opt OptL.nil) (GuardV.plain _)) rfl (c (oq hN 6 (OpJ.leq (ltN hN rfl) (q 8) (q 10)) (OptL.opt (OptL.opt OptL.nil)) (GuardV.plain _)) rfl (c (OpJ.pickAnd rfl (ltN hN rfl) (q 6) (q 11)) rfl (c (mv hN (q 12)) rfl (c (oq hN 13 (fo 1001 1 [1] hN underlying62 1 tyS3 (q 1)) (OptL.keep (by rfl) OptL.nil) (GuardV.plain _)) rfl (c (oq hN 13 (la hN 62 tyS3 (q 14)) (OptL.opt OptL.nil) (GuardV.plain _)) rfl (c (oq hN 13 (OpJ.leq (ltN hN rfl) (q 15) (Opd.int .i64 (4294967295))) (OptL.opt OptL.nil) (GuardV.plain _)) rfl (c (OpJ.pickAnd rfl (ltN hN rfl) (q 13) (q 16)) rfl (c (OpJ.assign (ltN hN rfl) (q 17)) rfl cn)))))))))))))))) ?_
 apply AWp.ret
 obtain rfl := Option.some.inj h
 exact ⟨.inl rfl, _, _, (kp [(2, _)] [] hB rfl rfl (by rfl)), [(bo (((decide ((0 : Int) ≤ a0.fFrom)) && (decide (a0.fFrom ≤ a0.fTo))) && (decide (a0.fTo ≤ (4294967295 : Int)))))], (Res.tmp (by rfl) (by rfl) Res.nil), rfl, by rfl, by rfl, by rfl⟩
noncomputable def resource_Valid_1 (a0 : api_Span) : Option (Bool) :=
 (resource_span a0).bind fun r1 =>
 some (!r1)
theorem resource_Valid_1_ac (a0 : api_Span) (r : Bool) (h : resource_Valid_1 a0 = some r) : AC Tryd.prog 42 [(.d (e_api_Span a0))] [] (.d (.bool r)) [] := by
 refine AC.of_code2 Tryd.func42 rfl rfl (Nat.le_of_ble_eq_true (by rfl)) fun B hB hN => ?_
 delta resource_Valid_1 at h
 refine sr (cg (OpJ.box hB (nm := 1001) (by decide) (by simp) rfl (ltN hN rfl) (q 0)) rfl (c (OpJ.assign (ltN hN rfl) (Opd.bool false)) rfl cn)) ?_
 obtain ⟨r1, hr1, h⟩ := bindS h
 refine sr (c (lb hN 62 _ _ tyS62 (At.here _) (q 1)) rfl (cg (OpJ.callFn hB fnOk43 (resource_span_ac a0 r1 hr1) [] (by kernel_rfl) (ltN hN rfl) (by kernel_rfl) (OpdL.cons (q 3) OpdL.nil)) rfl (c (OpJ.not (ltN hN rfl) (q 4)) rfl (c (OpJ.assign (ltN hN rfl) (q 5)) rfl cn)))) ?_
 apply AWp.ret
 obtain rfl := Option.some.inj h
 exact ⟨.inl rfl, _, _, (kp [(2, _)] [] hB rfl rfl (by rfl)), [(bo (!r1))], (Res.tmp (by rfl) (by rfl) Res.nil), rfl, by rfl, by rfl, by rfl⟩
noncomputable def slices_IndexFunc_L0 (a0 : (List api_Span)) (s1 : Int) : Option (((Int) ⊕ (Unit)) ⊕ (Int)) :=
 (if (decide (s1 < (a0.length : Int))) = true then
 (idx a0 s1).bind fun x13 =>
 (resource_Valid_1 x13).bind fun r14 =>
 (if r14 = true then
 some (.inl (.inl s1))
 else
 some (.inr (w64 (s1 + (1 : Int)))))
 else
 some (.inl (.inr ())))
noncomputable def slices_IndexFunc (a0 : (List api_Span)) : Option (Int) :=
 (loop (slices_IndexFunc_L0 a0) (0 : Int)).bind fun x16 => match x16 with
 | (.inl p10) =>
  some p10
 | (.inr _) =>
  some (-1 : Int)
theorem slices_IndexFunc_ac (a0 : (List api_Span)) (r : Int) (h : slices_IndexFunc a0 = some r) : AC Tryd.prog 55 [(.d (.list 2 (a0.map e_api_Span))), (.func 42 [])] [] (.d (.int .i64 r)) [] := by
 refine AC.of_code2 Tryd.func55 rfl rfl (Nat.le_of_ble_eq_true (by rfl)) fun B hB hN => ?_
 delta slices_IndexFunc at h
 refine sr (c (OpJ.assign (ltN hN rfl) (Opd.int .i64 (0))) rfl cn) ?_
 apply AWp.seq
 refine sr (c (mv hN (q 0)) rfl (c (OpJ.val (v' := (i6 (a0.length : Int))) (by simp) (OpJ.lenD underlying24 (ltN hN rfl) (q 6))) rfl (c (mv hN (Opd.int .i64 (0))) rfl cn))) ?_
 apply AWp.block
 obtain ⟨x16, hx17, h⟩ := bindS h
 refine lg (slices_IndexFunc_L0 a0) (fun s1 : Int => ([(0, (qe_api_Span_2 a0)), (1, (.func 42 [])), (7, (i6 (a0.length : Int))), (8, (i6 s1))] : EL)) (fun s1 : Int => ([] : OL)) (fun (x : (Int) ⊕ (Unit)) e E' O' => match x with | (.inl p10) => e = .ret ∧ Mat B E' O' ([(4, (i6 p10))] : EL) ([] : OL) | (.inr _p) => e = .exit 0 ∧ Mat B E' O' ([] : EL) ([] : OL)) hx17 (mp [] _ _ hB) (fun s1 y h => ?_) (fun e E' O' hR => ?_)
 ·unfold slices_IndexFunc_L0 at h
  refine sr (c (OpJ.lss (ltN hN rfl) (q 8) (q 7)) rfl cn) ?_
  apply AWp.seq
  refine AWp.cond rfl (fun hg12 => ?_) (fun hg12 => ?_)
  ·replace h := ite_t hg12 h
   apply AWp.skip
   apply seqQ_n
   apply AWp.seq
   apply AWp.block
   refine sr (c (mv hN (q 8)) rfl (c (OpJ.assign (ltN hN rfl) (q 10)) rfl cn)) ?_
   obtain ⟨x13, hx13, h⟩ := bindS h
   obtain ⟨r14, hr14, h⟩ := bindS h
   refine sr (c (mv hN (q 1)) rfl (c (mv hN (q 0)) rfl (c (mv hN (q 5)) rfl (c (OpJ.indexD underlying24 tyS62 (idx_some hx13).1 (get_map e_api_Span (idx_some hx13).2) (ltN hN rfl) (q 12) (q 13)) rfl (c (OpJ.loadD tyS62 (by rfl) (by rfl) (ltN hN rfl) (q 14)) rfl (cg (OpJ.callVal (args := [(.d (e_api_Span x13))]) (caps := []) hB fnOk42 [] (resource_Valid_1_ac x13 r14 hr14) (by kernel_rfl) (ltN hN rfl) (by kernel_rfl) (by kernel_rfl) (OpdL.cons (q 15) OpdL.nil)) rfl cn)))))) ?_
   refine AWp.cond rfl (fun hg15 => ?_) (fun hg15 => ?_)
   ·replace h := ite_t hg15 h
    refine sr (c (mv hN (q 5)) rfl (c (OpJ.assign (ltN hN rfl) (q 17)) rfl cn)) ?_
    apply AWp.ret
    apply blkQ_r
    apply seqQ_r
    obtain rfl := Option.some.inj h
    exact ⟨(fun hc => by cases hc), rfl, (mp [] _ _ hB)⟩
   ·replace h := ite_f hg15 h
    apply AWp.skip
    apply blkQ_n
    apply seqQ_n
    refine rg (c (add6 (ltN hN rfl) (q 8) (Opd.int .i64 (1))) rfl (c (mv hN (q 18)) rfl cn)) ?_
    obtain rfl := Option.some.inj h
    exact ⟨rfl, (mp [] _ _ hB)⟩
  ·replace h := ite_f hg12 h
   apply AWp.exit
   apply seqQ_e
   obtain rfl := Option.some.inj h
   exact ⟨(fun hc => by cases hc), rfl, (mp [] _ _ hB)⟩
 ·rcases x16 with p10 | _
  ·obtain ⟨rfl, hmat⟩ := hR
   apply blkQ_r
   apply seqQ_r
   obtain rfl := Option.some.inj h
   exact ⟨.inl rfl, _, _, (Mat.trans hmat (mp [] [(4, (i6 p10))] [] hB)), [(i6 p10)], (Res.tmp (by rfl) (by rfl) Res.nil), rfl, by rfl, by rfl, by rfl⟩
  ·obtain ⟨rfl, hmat⟩ := hR
   apply blkQ_hit
   apply seqQ_n
   refine AWp.ghost hmat ?_
   refine sr (c (OpJ.assign (ltN hN rfl) (Opd.int .i64 (-1))) rfl cn) ?_
   apply AWp.ret
   obtain rfl := Option.some.inj h
   exact ⟨.inl rfl, _, _, (kp [(4, _)] [] hB rfl rfl (by rfl)), [(i6 (-1 : Int))], (Res.tmp (by rfl) (by rfl) Res.nil), rfl, by rfl, by rfl, by rfl⟩
noncomputable def slices_ContainsFunc (a0 : (List api_Span)) : Option (Bool) :=
 (slices_IndexFunc a0).bind fun r1 =>
 some (decide ((0 : Int) ≤ r1))
theorem slices_ContainsFunc_ac (a0 : (List api_Span)) (r : Bool) (h : slices_ContainsFunc a0 = some r) : AC Tryd.prog 41 [(.d (.list 2 (a0.map e_api_Span))), (.func 42 [])] [] (.d (.bool r)) [] := by
 refine AC.of_code2 Tryd.func41 rfl rfl (Nat.le_of_ble_eq_true (by rfl)) fun B hB hN => ?_
 delta slices_ContainsFunc at h
 refine sr (c (OpJ.assign (ltN hN rfl) (Opd.bool false)) rfl cn) ?_
 obtain ⟨r1, hr1, h⟩ := bindS h
 refine sr (c (mv hN (q 0)) rfl (c (mv hN (q 1)) rfl (cg (OpJ.callFn hB fnOk55 (slices_IndexFunc_ac a0 r1 hr1) [] (by kernel_rfl) (ltN hN rfl) (by kernel_rfl) (OpdL.cons (q 5) (OpdL.cons (q 6) OpdL.nil))) rfl (c (OpJ.geq (ltN hN rfl) (q 7) (Opd.int .i64 (0))) rfl (c (OpJ.assign (ltN hN rfl) (q 8)) rfl cn))))) ?_
 apply AWp.ret
 obtain rfl := Option.some.inj h
 exact ⟨.inl rfl, _, _, (kp [(4, _)] [] hB rfl rfl (by rfl)), [(bo (decide ((0 : Int) ≤ r1)))], (Res.tmp (by rfl) (by rfl) Res.nil), rfl, by rfl, by rfl, by rfl⟩
noncomputable def resource_of_L0 (a0 : api_Resources) (s1 : Int × (List api_Addr_)) : Option ((((List api_Addr_))) ⊕ (Int × (List api_Addr_))) :=
 (if (decide (s1.1 < (a0.fAddrs.length : Int))) = true then
 (idx a0.fAddrs s1.1).bind fun x10 =>
 chk (decide ((s1.2 ++ ([(api_Addr_.mk x10.fFrom x10.fTo)] : List api_Addr_)).length ≤ LIM)) <|
 some (.inr ((w64 (s1.1 + (1 : Int))), (s1.2 ++ ([(api_Addr_.mk x10.fFrom x10.fTo)] : List api_Addr_))))
 else
 some (.inl s1.2))
noncomputable def resource_of_L1 (a0 : api_Resources) (s14 : Int × (List resource_part_int_)) : Option ((((List resource_part_int_))) ⊕ (Int × (List resource_part_int_))) :=
 (if (decide (s14.1 < (a0.fASNs.length : Int))) = true then
 (idx a0.fASNs s14.1).bind fun x23 =>
 chk (decide ((s14.2 ++ ([(resource_part_int_.mk x23.fFrom x23.fTo)] : List resource_part_int_)).length ≤ LIM)) <|
 some (.inr ((w64 (s14.1 + (1 : Int))), (s14.2 ++ ([(resource_part_int_.mk x23.fFrom x23.fTo)] : List resource_part_int_))))
 else
 some (.inl s14.2))
noncomputable def resource_of (a0 : api_Resources) : Option (resource_set) :=
 (loop (resource_of_L0 a0) ((0 : Int), ([] : List api_Addr_))).bind fun p8 =>
 (loop (resource_of_L1 a0) ((0 : Int), ([] : List resource_part_int_))).bind fun p21 =>
 some (resource_set.mk p8 p21)
theorem resource_of_ac (a0 : api_Resources) (r : resource_set) (h : resource_of a0 = some r) : AC Tryd.prog 44 [(.d (e_api_Resources a0))] [] (.d (e_resource_set r)) [] := by
 refine AC.of_code2 Tryd.func44 rfl rfl (Nat.le_of_ble_eq_true (by rfl)) fun B hB hN => ?_
 have L {d : Nat} (h : Nat.blt d Tryd.f44.ntmps = true) : d < B.N := ltN hN h
 delta resource_of at h
 refine sr (cg (OpJ.box hB (nm := 1001) (by decide) (by simp) rfl (L rfl) (q 0)) rfl (cg (OpJ.alloc hB tyZ97 (nm := 1002) (by decide) (L rfl)) rfl cn)) ?_
 refine sr (cg (OpJ.alloc hB tyZ97 (nm := 1003) (by decide) (L rfl)) rfl cn) ?_
 apply AWp.seq
 refine sr (c (fo 1001 0 [0] hN underlying26 0 tyS23 (q 1)) rfl (c (la hN 26 tyS23 (q 8)) rfl (c (OpJ.val (v' := (i6 (a0.fAddrs.length : Int))) (by simp) (OpJ.lenD underlying23 (L rfl) (q 9))) rfl (c (mv hN (Opd.int .i64 (0))) rfl cn)))) ?_
 apply AWp.block
 obtain ⟨p8, hx13, h⟩ := bindS h
 refine lg (resource_of_L0 a0) (fun s1 : Int × (List api_Addr_) => ([(1, (pt 1001)), (2, (pt 1002)), (3, (pt 1003)), (9, (qe_api_Range_6 a0.fAddrs)), (10, (i6 (a0.fAddrs.length : Int))), (11, (i6 s1.1))] : EL)) (fun s1 : Int × (List api_Addr_) => ([(1001, bd 26 (e_api_Resources a0)), (1002, some (.box 97 (.st [.nils, .nils]))), (1003, some (.box 97 (.st [(.sref 13030 6 0 s1.2.length), .nils]))), (13030, some (we_api_Addr__118_6 s1.2))] : OL)) (fun (p8 : ((List api_Addr_))) e E' O' => e = .exit 0 ∧ Mat B E' O' ([(1, (pt 1001)), (2, (pt 1002)), (3, (pt 1003))] : EL) ([(1001, bd 26 (e_api_Resources a0)), (1002, some (.box 97 (.st [.nils, .nils]))), (1003, some (.box 97 (.st [(.sref 13030 6 0 p8.length), .nils]))), (13030, some (we_api_Addr__118_6 p8))] : OL)) hx13 (Mat.trans (Mat.beginP (n := 13030) (e := 118) (sz := 6) (Ts := []) (Bs := [(1003, some (.box 97 (.st [(.sref 13030 6 0 0), .nils])))]) hB (by decide) (by rfl) (by decide) TwT.nil (TwB.cons (x := (.st [.nils, .nils])) (by rfl) (Tw.st (TwL.cons (Tw.leaf ⟨rfl, rfl⟩) (TwL.cons (Tw.same _) TwL.nil))) TwB.nil)) (mp [] _ _ hB)) (fun s1 y h => ?_) (fun e E' O' hR => ?_)
 ·unfold resource_of_L0 at h
  refine sr (c (OpJ.lss (L rfl) (q 11) (q 10)) rfl cn) ?_
  apply AWp.seq
  refine AWp.cond rfl (fun hg9 => ?_) (fun hg9 => ?_)
  ·replace h := ite_t hg9 h
   apply AWp.skip
   apply seqQ_n
   apply AWp.seq
   apply AWp.block
   obtain ⟨x10, hx10, h⟩ := bindS h
   refine sr (c (OpJ.indexD underlying23 tyS88 (idx_some hx10).1 (get_map e_api_Range (idx_some hx10).2) (L rfl) (q 9) (q 11)) rfl (c (OpJ.loadD tyS88 (by rfl) (by rfl) (L rfl) (q 13)) rfl (cg (OpJ.alloc hB tyZ88 (nm := 1005) (by decide) (L rfl)) rfl (cg (sB tyS88 (q 5) (q 14)) rfl cn)))) ?_
   obtain ⟨hc11, h⟩ := chk_some h
   refine rg (c (fo 1003 0 [0] hN underlying97 0 tyS94 (q 3)) rfl (c (lb hN 97 _ (.sref 13030 6 0 s1.2.length) tyS94 (At.st1 (f := (.sref 13030 6 0 s1.2.length)) (by rfl) (by rfl) (At.here _) (by first | rfl | omega)) (q 15)) rfl (c (fo 1005 0 [0] hN underlying88 0 tyS42 (q 5)) rfl (c (la hN 88 tyS42 (q 17)) rfl (c (fo 1005 3 [1] hN underlying88 3 tyS42 (q 5)) rfl (c (la hN 88 tyS42 (q 19)) rfl (c (OpJ.coe (v := (.st [(.d (e_api_Addr x10.fFrom)), (.d (e_api_Addr x10.fTo))])) (y := (.st [(e_api_Addr x10.fFrom), (e_api_Addr x10.fTo)])) (Co.st (CoL.cons (Co.d _) (CoL.cons (Co.d _) CoL.nil))) rfl (OpJ.build (places := [(0, 3), (3, 3)]) ⟨underlying118, fun w => by kernel_rfl⟩ tyZS118 (Opds.cons (q 18) (Opds.cons (q 20) Opds.nil)) (by kernel_rfl) (r := (.st [(.d (e_api_Addr x10.fFrom)), (.d (e_api_Addr x10.fTo))])) (by rfl) (L rfl))) rfl (c (OpJ.buildSlice underlying94 tyS118 tyZD118 (by rfl) (by decide) (by decide) (Opds.cons (q 21) Opds.nil) (by kernel_rfl) (es := ([(.st [(e_api_Addr x10.fFrom), (e_api_Addr x10.fTo)])] : List D)) (by rfl) (by rfl) (by kernel_rfl) (by simp) (L rfl)) rfl (cg (apd hB underlying94 tyE118 1023 e_api_Addr_ s1.2 ([(api_Addr_.mk x10.fFrom x10.fTo)] : List api_Addr_) hc11 (L rfl) (q 16) (q 22)) rfl (c (fo 1003 0 [0] hN underlying97 0 tyS94 (q 3)) rfl (cg (OpJ.storeB (c' := (.st [(.sref 1023 6 0 ((s1.2 ++ ([(api_Addr_.mk x10.fFrom x10.fTo)] : List api_Addr_)).length)), .nils])) tyS94 (SetAt.st1 (f := (.sref 13030 6 0 s1.2.length)) (by rfl) (by rfl) (SetAt.here _ _) (by rfl) (by rfl) (by first | rfl | omega)) (by rfl) (by rfl) (by simp) rfl (q 24) (q 23)) rfl cn))))))))))) ?_
   apply blkQ_n
   apply seqQ_n
   refine rg (c (add6 (L rfl) (q 11) (Opd.int .i64 (1))) rfl (c (mv hN (q 25)) rfl cn)) ?_
   obtain rfl := Option.some.inj h
   exact ⟨rfl, (mp [(13030, 1023)] _ _ hB)⟩
  ·replace h := ite_f hg9 h
   apply AWp.exit
   apply seqQ_e
   obtain rfl := Option.some.inj h
   exact ⟨(fun hc => by cases hc), rfl, (mp [] _ _ hB)⟩
 ·obtain ⟨rfl, hmat⟩ := hR
  apply blkQ_hit
  apply seqQ_n
  refine AWp.ghost hmat ?_
  apply AWp.seq
  refine sr (c (fo 1001 1 [1] hN underlying26 1 tyS24 (q 1)) rfl (c (la hN 26 tyS24 (q 26)) rfl (c (OpJ.val (v' := (i6 (a0.fASNs.length : Int))) (by simp) (OpJ.lenD underlying24 (L rfl) (q 27))) rfl (c (mv hN (Opd.int .i64 (0))) rfl cn)))) ?_
  apply AWp.block
  obtain ⟨p21, hx26, h⟩ := bindS h
  refine lg (resource_of_L1 a0) (fun s14 : Int × (List resource_part_int_) => ([(2, (pt 1002)), (3, (pt 1003)), (27, (qe_api_Span_2 a0.fASNs)), (28, (i6 (a0.fASNs.length : Int))), (29, (i6 s14.1))] : EL)) (fun s14 : Int × (List resource_part_int_) => ([(1002, some (.box 97 (.st [.nils, .nils]))), (1003, some (.box 97 (.st [(.sref 13030 6 0 p8.length), (.sref 13031 2 0 s14.2.length)]))), (13030, some (we_api_Addr__118_6 p8)), (13031, some (.row 120 2 (s14.2.map e_resource_part_int_)))] : OL)) (fun (p21 : ((List resource_part_int_))) e E' O' => e = .exit 2 ∧ Mat B E' O' ([(2, (pt 1002)), (3, (pt 1003))] : EL) ([(1002, some (.box 97 (.st [.nils, .nils]))), (1003, some (.box 97 (.st [(.sref 13030 6 0 p8.length), (.sref 13031 2 0 p21.length)]))), (13030, some (we_api_Addr__118_6 p8)), (13031, some (.row 120 2 (p21.map e_resource_part_int_)))] : OL)) hx26 (Mat.trans (Mat.beginP (n := 13031) (e := 120) (sz := 2) (Ts := []) (Bs := [(1003, some (.box 97 (.st [(.sref 13030 6 0 p8.length), (.sref 13031 2 0 0)])))]) hB (by decide) (by rfl) (by decide) TwT.nil (TwB.cons (x := (.st [(.sref 13030 6 0 p8.length), .nils])) (by rfl) (Tw.st (TwL.cons (Tw.same _) (TwL.cons (Tw.leaf ⟨rfl, rfl⟩) TwL.nil))) TwB.nil)) (mp [] _ _ hB)) (fun s14 y h => ?_) (fun e E' O' hR => ?_)
  ·unfold resource_of_L1 at h
   refine sr (c (OpJ.lss (L rfl) (q 29) (q 28)) rfl cn) ?_
   apply AWp.seq
   refine AWp.cond rfl (fun hg22 => ?_) (fun hg22 => ?_)
   ·replace h := ite_t hg22 h
    apply AWp.skip
    apply seqQ_n
    apply AWp.seq
    apply AWp.block
    obtain ⟨x23, hx23, h⟩ := bindS h
    refine sr (c (OpJ.indexD underlying24 tyS62 (idx_some hx23).1 (get_map e_api_Span (idx_some hx23).2) (L rfl) (q 27) (q 29)) rfl (c (OpJ.loadD tyS62 (by rfl) (by rfl) (L rfl) (q 31)) rfl (cg (OpJ.alloc hB tyZ62 (nm := 1007) (by decide) (L rfl)) rfl (cg (sB tyS62 (q 7) (q 32)) rfl cn)))) ?_
    obtain ⟨hc24, h⟩ := chk_some h
    refine rg (c (fo 1003 1 [1] hN underlying97 1 tyS95 (q 3)) rfl (c (lb hN 97 _ (.sref 13031 2 0 s14.2.length) tyS95 (At.st1 (f := (.sref 13031 2 0 s14.2.length)) (by rfl) (by rfl) (At.here _) (by first | rfl | omega)) (q 33)) rfl (c (fo 1007 0 [0] hN underlying62 0 tyS3 (q 7)) rfl (c (la hN 62 tyS3 (q 35)) rfl (c (fo 1007 1 [1] hN underlying62 1 tyS3 (q 7)) rfl (c (la hN 62 tyS3 (q 37)) rfl (c (OpJ.coe (v := (.st [(i6 x23.fFrom), (i6 x23.fTo)])) (y := (.st [(.int .i64 x23.fFrom), (.int .i64 x23.fTo)])) (Co.st (CoL.cons (Co.d _) (CoL.cons (Co.d _) CoL.nil))) rfl (OpJ.build (places := [(0, 1), (1, 1)]) ⟨underlying120, fun w => by kernel_rfl⟩ tyZS120 (Opds.cons (q 36) (Opds.cons (q 38) Opds.nil)) (by kernel_rfl) (r := (.st [(i6 x23.fFrom), (i6 x23.fTo)])) (by rfl) (L rfl))) rfl (c (OpJ.buildSlice underlying95 tyS120 tyZD120 (by rfl) (by decide) (by decide) (Opds.cons (q 39) Opds.nil) (by kernel_rfl) (es := ([(.st [(.int .i64 x23.fFrom), (.int .i64 x23.fTo)])] : List D)) (by rfl) (by rfl) (by kernel_rfl) (by simp) (L rfl)) rfl (cg (apd hB underlying95 tyE120 1041 e_resource_part_int_ s14.2 ([(resource_part_int_.mk x23.fFrom x23.fTo)] : List resource_part_int_) hc24 (L rfl) (q 34) (q 40)) rfl (c (fo 1003 1 [1] hN underlying97 1 tyS95 (q 3)) rfl (cg (OpJ.storeB (c' := (.st [(.sref 13030 6 0 p8.length), (.sref 1041 2 0 ((s14.2 ++ ([(resource_part_int_.mk x23.fFrom x23.fTo)] : List resource_part_int_)).length))])) tyS95 (SetAt.st1 (f := (.sref 13031 2 0 s14.2.length)) (by rfl) (by rfl) (SetAt.here _ _) (by rfl) (by rfl) (by first | rfl | omega)) (by rfl) (by rfl) (by simp) rfl (q 42) (q 41)) rfl cn))))))))))) ?_
    apply blkQ_n
    apply seqQ_n
    refine rg (c (add6 (L rfl) (q 29) (Opd.int .i64 (1))) rfl (c (mv hN (q 43)) rfl cn)) ?_
    obtain rfl := Option.some.inj h
    exact ⟨rfl, (mp [(13031, 1041)] _ _ hB)⟩
   ·replace h := ite_f hg22 h
    apply AWp.exit
    apply seqQ_e
    obtain rfl := Option.some.inj h
    exact ⟨(fun hc => by cases hc), rfl, (mp [] _ _ hB)⟩
  ·obtain ⟨rfl, hmat⟩ := hR
   apply blkQ_hit
   apply seqQ_n
   refine AWp.ghost hmat ?_
   refine sr (c (lb hN 97 _ _ tyS97 (At.here _) (q 3)) rfl (cg (sB tyS97 (q 2) (q 44)) rfl cn)) ?_
   apply AWp.ret
   obtain rfl := Option.some.inj h
   exact ⟨.inl rfl, _, _, (Mat.trans (Mat.freezeP (n := 13030) (e := 118) (sz := 6) (es := p8.map e_api_Addr_) (Ts := []) (Bs := [(1002, some (.box 97 (.st [(qe_api_Addr__6 p8), (.sref 13031 2 0 p21.length)])))]) (by rfl) TwT.nil (TwB.cons (x := (.st [(.sref 13030 6 0 p8.length), (.sref 13031 2 0 p21.length)])) (by rfl) (Tw.st (TwL.cons (FrzL.all (by first | rfl | (simp; done) | (simp; omega) | omega)) (TwL.cons (Tw.same _) TwL.nil))) TwB.nil)) (Mat.trans (Mat.freezeP (n := 13031) (e := 120) (sz := 2) (es := p21.map e_resource_part_int_) (Ts := []) (Bs := [(1002, some (.box 97 (.st [(qe_api_Addr__6 p8), (.d (.list 2 (p21.map e_resource_part_int_)))])))]) (by rfl) TwT.nil (TwB.cons (x := (.st [(qe_api_Addr__6 p8), (.sref 13031 2 0 p21.length)])) (by rfl) (Tw.st (TwL.cons (Tw.same _) (TwL.cons (FrzL.all (by first | rfl | (simp; done) | (simp; omega) | omega)) TwL.nil))) TwB.nil)) (Mat.trans (Mat.coeP (Ts := []) (Bs := [(1002, bd 97 (.st [(.list 6 (p8.map e_api_Addr_)), (.list 2 (p21.map e_resource_part_int_))]))]) TwT.nil (TwB.cons (x := (.st [(qe_api_Addr__6 p8), (.d (.list 2 (p21.map e_resource_part_int_)))])) (by rfl) (Tw.leaf ⟨_, (Co.st (CoL.cons (Co.d _) (CoL.cons (Co.d _) CoL.nil))), rfl⟩) TwB.nil)) (mp [] [(2, (pt 1002))] [(1002, bd 97 (.st [(.list 6 (p8.map e_api_Addr_)), (.list 2 (p21.map e_resource_part_int_))]))] hB)))), [(.d (.st [(.list 6 (p8.map e_api_Addr_)), (.list 2 (p21.map e_resource_part_int_))]))], (Res.cell (c := (.d (.st [(.list 6 (p8.map e_api_Addr_)), (.list 2 (p21.map e_resource_part_int_))]))) (by rfl) (by rfl) tyS97 (by rfl) (by rfl) (by rfl) Res.nil), rfl, by rfl, by rfl, by rfl⟩
noncomputable def addr_family (a0 : api_Addr) : Option (Int) :=
 (if a0.fV6 = true then
 some (1 : Int)
 else
 some (0 : Int))
theorem addr_family_ac (a0 : api_Addr) (r : Int) (h : addr_family a0 = some r) : AC Tryd.prog 96 [(.d (e_api_Addr a0))] [] (.d (.int .i64 r)) [] := by
 refine AC.of_code2 Tryd.func96 rfl rfl (Nat.le_of_ble_eq_true (by rfl)) fun B hB hN => ?_
 delta addr_family at h
 refine sr (cg (OpJ.box hB (nm := 1001) (by decide) (by simp) rfl (ltN hN rfl) (q 0)) rfl (c (OpJ.assign (ltN hN rfl) (Opd.int .i64 (0))) rfl cn)) ?_
 apply AWp.seq
 refine sr (c (fo 1001 0 [0] hN underlying42 0 tyS4 (q 1)) rfl (c (la hN 42 tyS4 (q 3)) rfl cn)) ?_
 refine AWp.cond rfl (fun hg1 => ?_) (fun hg1 => ?_)
 ·replace h := ite_t hg1 h
  refine sr (c (OpJ.assign (ltN hN rfl) (Opd.int .i64 (1))) rfl cn) ?_
  apply AWp.ret
  apply seqQ_r
  obtain rfl := Option.some.inj h
  exact ⟨.inl rfl, _, _, (kp [(2, _)] [] hB rfl rfl (by rfl)), [(i6 1)], (Res.tmp (by rfl) (by rfl) Res.nil), rfl, by rfl, by rfl, by rfl⟩
 ·replace h := ite_f hg1 h
  apply AWp.skip
  apply seqQ_n
  refine sr (c (OpJ.assign (ltN hN rfl) (Opd.int .i64 (0))) rfl cn) ?_
  apply AWp.ret
  obtain rfl := Option.some.inj h
  exact ⟨.inl rfl, _, _, (kp [(2, _)] [] hB rfl rfl (by rfl)), [(i6 0)], (Res.tmp (by rfl) (by rfl) Res.nil), rfl, by rfl, by rfl, by rfl⟩
noncomputable def cmp_isNaN (a0 : Int) : Option (Bool) :=
 some (a0 != a0)
theorem cmp_isNaN_ac (a0 : Int) (r : Bool) (h : cmp_isNaN a0 = some r) : AC Tryd.prog 94 [(.d (.int .i64 a0))] [] (.d (.bool r)) [] := by
 refine AC.of_code2 Tryd.func94 rfl rfl (Nat.le_of_ble_eq_true (by rfl)) fun B hB hN => ?_
 delta cmp_isNaN at h
 refine sr (c (OpJ.assign (ltN hN rfl) (Opd.bool false)) rfl cn) ?_
 refine sr (c (mv hN (q 0)) rfl (c (mv hN (q 0)) rfl (c (OpJ.neqI (ltN hN rfl) (q 3) (q 4)) rfl (c (OpJ.assign (ltN hN rfl) (q 5)) rfl cn)))) ?_
 apply AWp.ret
 obtain rfl := Option.some.inj h
 exact ⟨.inl rfl, _, _, (kp [(2, _)] [] hB rfl rfl (by rfl)), [(bo (a0 != a0))], (Res.tmp (by rfl) (by rfl) Res.nil), rfl, by rfl, by rfl, by rfl⟩
noncomputable def cmp_Compare (a0 : Int) (a1 : Int) : Option (Int) :=
 (cmp_isNaN a0).bind fun r1 =>
 (cmp_isNaN a1).bind fun r2 =>
 (if r1 = true then
 (if r2 = true then
 some (0 : Int)
 else
 some (-1 : Int))
 else
 (if r2 = true then
 some (1 : Int)
 else
 (if (decide (a0 < a1)) = true then
 some (-1 : Int)
 else
 (if (decide (a1 < a0)) = true then
 some (1 : Int)
 else
 some (0 : Int)))))
theorem cmp_Compare_ac (a0 : Int) (a1 : Int) (r : Int) (h : cmp_Compare a0 a1 = some r) : AC Tryd.prog 77 [(.d (.int .i64 a0)), (.d (.int .i64 a1))] [] (.d (.int .i64 r)) [] := by
 refine AC.of_code2 Tryd.func77 rfl rfl (Nat.le_of_ble_eq_true (by rfl)) fun B hB hN => ?_
 have L {d : Nat} (h : Nat.blt d Tryd.f77.ntmps = true) : d < B.N := ltN hN h
 delta cmp_Compare at h
 refine sr (c (OpJ.assign (L rfl) (Opd.int .i64 (0))) rfl cn) ?_
 obtain ⟨r1, hr1, h⟩ := bindS h
 refine sr (c (mv hN (q 0)) rfl (cg (cf hB fnOk94 (cmp_isNaN_ac a0 r1 hr1) (L rfl) (OpdL.cons (q 7) OpdL.nil)) rfl (c (OpJ.assign (L rfl) (q 8)) rfl cn))) ?_
 obtain ⟨r2, hr2, h⟩ := bindS h
 refine sr (c (mv hN (q 1)) rfl (cg (cf hB fnOk94 (cmp_isNaN_ac a1 r2 hr2) (L rfl) (OpdL.cons (q 9) OpdL.nil)) rfl (c (OpJ.assign (L rfl) (q 10)) rfl cn))) ?_
 apply AWp.seq
 refine sr (c (mv hN (q 5)) rfl cn) ?_
 refine AWp.cond rfl (fun hg3 => ?_) (fun hg3 => ?_)
 ·replace h := ite_t hg3 h
  apply AWp.seq
  refine sr (c (mv hN (q 6)) rfl cn) ?_
  refine AWp.cond rfl (fun hg4 => ?_) (fun hg4 => ?_)
  ·replace h := ite_t hg4 h
   refine sr (c (OpJ.assign (L rfl) (Opd.int .i64 (0))) rfl cn) ?_
   apply AWp.ret
   apply seqQ_r
   apply seqQ_r
   obtain rfl := Option.some.inj h
   exact ⟨.inl rfl, _, _, (kp [(4, _)] [] hB rfl rfl (by rfl)), [(i6 0)], (Res.tmp (by rfl) (by rfl) Res.nil), rfl, by rfl, by rfl, by rfl⟩
  ·replace h := ite_f hg4 h
   apply AWp.skip
   apply seqQ_n
   refine sr (c (OpJ.assign (L rfl) (Opd.int .i64 (-1))) rfl cn) ?_
   apply AWp.ret
   apply seqQ_r
   obtain rfl := Option.some.inj h
   exact ⟨.inl rfl, _, _, (kp [(4, _)] [] hB rfl rfl (by rfl)), [(i6 (-1 : Int))], (Res.tmp (by rfl) (by rfl) Res.nil), rfl, by rfl, by rfl, by rfl⟩
 ·replace h := ite_f hg3 h
  apply AWp.skip
  apply seqQ_n
  apply AWp.seq
  refine sr (c (mv hN (q 6)) rfl cn) ?_
  refine AWp.cond rfl (fun hg5 => ?_) (fun hg5 => ?_)
  ·replace h := ite_t hg5 h
   refine sr (c (OpJ.assign (L rfl) (Opd.int .i64 (1))) rfl cn) ?_
   apply AWp.ret
   apply seqQ_r
   obtain rfl := Option.some.inj h
   exact ⟨.inl rfl, _, _, (kp [(4, _)] [] hB rfl rfl (by rfl)), [(i6 1)], (Res.tmp (by rfl) (by rfl) Res.nil), rfl, by rfl, by rfl, by rfl⟩
  ·replace h := ite_f hg5 h
   apply AWp.skip
   apply seqQ_n
   apply AWp.seq
   refine sr (c (mv hN (q 0)) rfl (c (mv hN (q 1)) rfl (c (OpJ.lss (L rfl) (q 14) (q 15)) rfl cn))) ?_
   refine AWp.cond rfl (fun hg6 => ?_) (fun hg6 => ?_)
   ·replace h := ite_t hg6 h
    refine sr (c (OpJ.assign (L rfl) (Opd.int .i64 (-1))) rfl cn) ?_
    apply AWp.ret
    apply seqQ_r
    obtain rfl := Option.some.inj h
    exact ⟨.inl rfl, _, _, (kp [(4, _)] [] hB rfl rfl (by rfl)), [(i6 (-1 : Int))], (Res.tmp (by rfl) (by rfl) Res.nil), rfl, by rfl, by rfl, by rfl⟩
   ·replace h := ite_f hg6 h
    apply AWp.skip
    apply seqQ_n
    apply AWp.seq
    refine sr (c (mv hN (q 0)) rfl (c (mv hN (q 1)) rfl (c (OpJ.gtr (L rfl) (q 17) (q 18)) rfl cn))) ?_
    refine AWp.cond rfl (fun hg7 => ?_) (fun hg7 => ?_)
    ·replace h := ite_t hg7 h
     refine sr (c (OpJ.assign (L rfl) (Opd.int .i64 (1))) rfl cn) ?_
     apply AWp.ret
     apply seqQ_r
     obtain rfl := Option.some.inj h
     exact ⟨.inl rfl, _, _, (kp [(4, _)] [] hB rfl rfl (by rfl)), [(i6 1)], (Res.tmp (by rfl) (by rfl) Res.nil), rfl, by rfl, by rfl, by rfl⟩
    ·replace h := ite_f hg7 h
     apply AWp.skip
     apply seqQ_n
     refine sr (c (OpJ.assign (L rfl) (Opd.int .i64 (0))) rfl cn) ?_
     apply AWp.ret
     obtain rfl := Option.some.inj h
     exact ⟨.inl rfl, _, _, (kp [(4, _)] [] hB rfl rfl (by rfl)), [(i6 0)], (Res.tmp (by rfl) (by rfl) Res.nil), rfl, by rfl, by rfl, by rfl⟩
noncomputable def cmp_isNaN_2 (a0 : Int) : Option (Bool) :=
 some (a0 != a0)
theorem cmp_isNaN_2_ac (a0 : Int) (r : Bool) (h : cmp_isNaN_2 a0 = some r) : AC Tryd.prog 103 [(.d (.int .u64 a0))] [] (.d (.bool r)) [] := by
 refine AC.of_code2 Tryd.func103 rfl rfl (Nat.le_of_ble_eq_true (by rfl)) fun B hB hN => ?_
 delta cmp_isNaN_2 at h
 refine sr (c (OpJ.assign (ltN hN rfl) (Opd.bool false)) rfl cn) ?_
 refine sr (c (mv hN (q 0)) rfl (c (mv hN (q 0)) rfl (c (OpJ.neqI (ltN hN rfl) (q 3) (q 4)) rfl (c (OpJ.assign (ltN hN rfl) (q 5)) rfl cn)))) ?_
 apply AWp.ret
 obtain rfl := Option.some.inj h
 exact ⟨.inl rfl, _, _, (kp [(2, _)] [] hB rfl rfl (by rfl)), [(bo (a0 != a0))], (Res.tmp (by rfl) (by rfl) Res.nil), rfl, by rfl, by rfl, by rfl⟩
noncomputable def cmp_Compare_2 (a0 : Int) (a1 : Int) : Option (Int) :=
 (cmp_isNaN_2 a0).bind fun r1 =>
 (cmp_isNaN_2 a1).bind fun r2 =>
 (if r1 = true then
 (if r2 = true then
 some (0 : Int)
 else
 some (-1 : Int))
 else
 (if r2 = true then
 some (1 : Int)
 else
 (if (decide (a0 < a1)) = true then
 some (-1 : Int)
 else
 (if (decide (a1 < a0)) = true then
 some (1 : Int)
 else
 some (0 : Int)))))
theorem cmp_Compare_2_ac (a0 : Int) (a1 : Int) (r : Int) (h : cmp_Compare_2 a0 a1 = some r) : AC Tryd.prog 97 [(.d (.int .u64 a0)), (.d (.int .u64 a1))] [] (.d (.int .i64 r)) [] := by
 refine AC.of_code2 Tryd.func97 rfl rfl (Nat.le_of_ble_eq_true (by rfl)) fun B hB hN => ?_
 have L {d : Nat} (h : Nat.blt d Tryd.f97.ntmps = true) : d < B.N := ltN hN h
 delta cmp_Compare_2 at h
 refine sr (c (OpJ.assign (L rfl) (Opd.int .i64 (0))) rfl cn) ?_
 obtain ⟨r1, hr1, h⟩ := bindS h
 refine sr (c (mv hN (q 0)) rfl (cg (cf hB fnOk103 (cmp_isNaN_2_ac a0 r1 hr1) (L rfl) (OpdL.cons (q 7) OpdL.nil)) rfl (c (OpJ.assign (L rfl) (q 8)) rfl cn))) ?_
 obtain ⟨r2, hr2, h⟩ := bindS h
 refine sr (c (mv hN (q 1)) rfl (cg (cf hB fnOk103 (cmp_isNaN_2_ac a1 r2 hr2) (L rfl) (OpdL.cons (q 9) OpdL.nil)) rfl (c (OpJ.assign (L rfl) (q 10)) rfl cn))) ?_
 apply AWp.seq
 refine sr (c (mv hN (q 5)) rfl cn) ?_
 refine AWp.cond rfl (fun hg3 => ?_) (fun hg3 => ?_)
 ·replace h := ite_t hg3 h
  apply AWp.seq
  refine sr (c (mv hN (q 6)) rfl cn) ?_
  refine AWp.cond rfl (fun hg4 => ?_) (fun hg4 => ?_)
  ·replace h := ite_t hg4 h
   refine sr (c (OpJ.assign (L rfl) (Opd.int .i64 (0))) rfl cn) ?_
   apply AWp.ret
   apply seqQ_r
   apply seqQ_r
   obtain rfl := Option.some.inj h
   exact ⟨.inl rfl, _, _, (kp [(4, _)] [] hB rfl rfl (by rfl)), [(i6 0)], (Res.tmp (by rfl) (by rfl) Res.nil), rfl, by rfl, by rfl, by rfl⟩
  ·replace h := ite_f hg4 h
   apply AWp.skip
   apply seqQ_n
   refine sr (c (OpJ.assign (L rfl) (Opd.int .i64 (-1))) rfl cn) ?_
   apply AWp.ret
   apply seqQ_r
   obtain rfl := Option.some.inj h
   exact ⟨.inl rfl, _, _, (kp [(4, _)] [] hB rfl rfl (by rfl)), [(i6 (-1 : Int))], (Res.tmp (by rfl) (by rfl) Res.nil), rfl, by rfl, by rfl, by rfl⟩
 ·replace h := ite_f hg3 h
  apply AWp.skip
  apply seqQ_n
  apply AWp.seq
  refine sr (c (mv hN (q 6)) rfl cn) ?_
  refine AWp.cond rfl (fun hg5 => ?_) (fun hg5 => ?_)
  ·replace h := ite_t hg5 h
   refine sr (c (OpJ.assign (L rfl) (Opd.int .i64 (1))) rfl cn) ?_
   apply AWp.ret
   apply seqQ_r
   obtain rfl := Option.some.inj h
   exact ⟨.inl rfl, _, _, (kp [(4, _)] [] hB rfl rfl (by rfl)), [(i6 1)], (Res.tmp (by rfl) (by rfl) Res.nil), rfl, by rfl, by rfl, by rfl⟩
  ·replace h := ite_f hg5 h
   apply AWp.skip
   apply seqQ_n
   apply AWp.seq
   refine sr (c (mv hN (q 0)) rfl (c (mv hN (q 1)) rfl (c (OpJ.lss (L rfl) (q 14) (q 15)) rfl cn))) ?_
   refine AWp.cond rfl (fun hg6 => ?_) (fun hg6 => ?_)
   ·replace h := ite_t hg6 h
    refine sr (c (OpJ.assign (L rfl) (Opd.int .i64 (-1))) rfl cn) ?_
    apply AWp.ret
    apply seqQ_r
    obtain rfl := Option.some.inj h
    exact ⟨.inl rfl, _, _, (kp [(4, _)] [] hB rfl rfl (by rfl)), [(i6 (-1 : Int))], (Res.tmp (by rfl) (by rfl) Res.nil), rfl, by rfl, by rfl, by rfl⟩
   ·replace h := ite_f hg6 h
    apply AWp.skip
    apply seqQ_n
    apply AWp.seq
    refine sr (c (mv hN (q 0)) rfl (c (mv hN (q 1)) rfl (c (OpJ.gtr (L rfl) (q 17) (q 18)) rfl cn))) ?_
    refine AWp.cond rfl (fun hg7 => ?_) (fun hg7 => ?_)
    ·replace h := ite_t hg7 h
     refine sr (c (OpJ.assign (L rfl) (Opd.int .i64 (1))) rfl cn) ?_
     apply AWp.ret
     apply seqQ_r
     obtain rfl := Option.some.inj h
     exact ⟨.inl rfl, _, _, (kp [(4, _)] [] hB rfl rfl (by rfl)), [(i6 1)], (Res.tmp (by rfl) (by rfl) Res.nil), rfl, by rfl, by rfl, by rfl⟩
    ·replace h := ite_f hg7 h
     apply AWp.skip
     apply seqQ_n
     refine sr (c (OpJ.assign (L rfl) (Opd.int .i64 (0))) rfl cn) ?_
     apply AWp.ret
     obtain rfl := Option.some.inj h
     exact ⟨.inl rfl, _, _, (kp [(4, _)] [] hB rfl rfl (by rfl)), [(i6 0)], (Res.tmp (by rfl) (by rfl) Res.nil), rfl, by rfl, by rfl, by rfl⟩
noncomputable def cmp_Or_L0 (a0 : (List Int)) (s1 : Int) : Option (((Int) ⊕ (Unit)) ⊕ (Int)) :=
 (if (decide (s1 < (a0.length : Int))) = true then
 (idx a0 s1).bind fun x11 =>
 (if (x11 != (0 : Int)) = true then
 some (.inl (.inl x11))
 else
 some (.inr (w64 (s1 + (1 : Int)))))
 else
 some (.inl (.inr ())))
noncomputable def cmp_Or (a0 : (List Int)) : Option (Int) :=
 (loop (cmp_Or_L0 a0) (0 : Int)).bind fun x13 => match x13 with
 | (.inl p8) =>
  some p8
 | (.inr _) =>
  some (0 : Int)
theorem cmp_Or_ac (a0 : (List Int)) (r : Int) (h : cmp_Or a0 = some r) : AC Tryd.prog 75 [(.d (.list 1 (a0.map (eI .i64))))] [] (.d (.int .i64 r)) [] := by
 refine AC.of_code2 Tryd.func75 rfl rfl (Nat.le_of_ble_eq_true (by rfl)) fun B hB hN => ?_
 delta cmp_Or at h
 refine sr (c (OpJ.assign (ltN hN rfl) (Opd.int .i64 (0))) rfl cn) ?_
 refine sr (c (OpJ.assign (ltN hN rfl) (Opd.int .i64 (0))) rfl cn) ?_
 apply AWp.seq
 refine sr (c (mv hN (q 0)) rfl (c (OpJ.val (v' := (i6 (a0.length : Int))) (by simp) (OpJ.lenD underlying22 (ltN hN rfl) (q 6))) rfl (c (mv hN (Opd.int .i64 (0))) rfl cn))) ?_
 apply AWp.block
 obtain ⟨x13, hx14, h⟩ := bindS h
 refine lg (cmp_Or_L0 a0) (fun s1 : Int => ([(3, (i6 0)), (6, (qI_1 a0)), (7, (i6 (a0.length : Int))), (8, (i6 s1))] : EL)) (fun s1 : Int => ([] : OL)) (fun (x : (Int) ⊕ (Unit)) e E' O' => match x with | (.inl p8) => e = .ret ∧ Mat B E' O' ([(2, (i6 p8))] : EL) ([] : OL) | (.inr _p) => e = .exit 0 ∧ Mat B E' O' ([(3, (i6 0))] : EL) ([] : OL)) hx14 (mp [] _ _ hB) (fun s1 y h => ?_) (fun e E' O' hR => ?_)
 ·unfold cmp_Or_L0 at h
  refine sr (c (OpJ.lss (ltN hN rfl) (q 8) (q 7)) rfl cn) ?_
  apply AWp.seq
  refine AWp.cond rfl (fun hg10 => ?_) (fun hg10 => ?_)
  ·replace h := ite_t hg10 h
   apply AWp.skip
   apply seqQ_n
   apply AWp.seq
   apply AWp.block
   obtain ⟨x11, hx11, h⟩ := bindS h
   refine sr (c (OpJ.indexD underlying22 tyS3 (idx_some hx11).1 (get_map (eI .i64) (idx_some hx11).2) (ltN hN rfl) (q 6) (q 8)) rfl (c (OpJ.loadD tyS3 (by rfl) (by rfl) (ltN hN rfl) (q 10)) rfl (c (OpJ.assign (ltN hN rfl) (q 11)) rfl cn))) ?_
   refine sr (c (mv hN (q 5)) rfl (c (mv hN (q 3)) rfl (c (OpJ.neqI (ltN hN rfl) (q 12) (q 13)) rfl cn))) ?_
   refine AWp.cond rfl (fun hg12 => ?_) (fun hg12 => ?_)
   ·replace h := ite_t hg12 h
    refine sr (c (mv hN (q 5)) rfl (c (OpJ.assign (ltN hN rfl) (q 15)) rfl cn)) ?_
    apply AWp.ret
    apply blkQ_r
    apply seqQ_r
    obtain rfl := Option.some.inj h
    exact ⟨(fun hc => by cases hc), rfl, (mp [] _ _ hB)⟩
   ·replace h := ite_f hg12 h
    apply AWp.skip
    apply blkQ_n
    apply seqQ_n
    refine rg (c (add6 (ltN hN rfl) (q 8) (Opd.int .i64 (1))) rfl (c (mv hN (q 16)) rfl cn)) ?_
    obtain rfl := Option.some.inj h
    exact ⟨rfl, (mp [] _ _ hB)⟩
  ·replace h := ite_f hg10 h
   apply AWp.exit
   apply seqQ_e
   obtain rfl := Option.some.inj h
   exact ⟨(fun hc => by cases hc), rfl, (mp [] _ _ hB)⟩
 ·rcases x13 with p8 | _
  ·obtain ⟨rfl, hmat⟩ := hR
   apply blkQ_r
   apply seqQ_r
   obtain rfl := Option.some.inj h
   exact ⟨.inl rfl, _, _, (Mat.trans hmat (mp [] [(2, (i6 p8))] [] hB)), [(i6 p8)], (Res.tmp (by rfl) (by rfl) Res.nil), rfl, by rfl, by rfl, by rfl⟩
  ·obtain ⟨rfl, hmat⟩ := hR
   apply blkQ_hit
   apply seqQ_n
   refine AWp.ghost hmat ?_
   refine sr (c (mv hN (q 3)) rfl (c (OpJ.assign (ltN hN rfl) (q 17)) rfl cn)) ?_
   apply AWp.ret
   obtain rfl := Option.some.inj h
   exact ⟨.inl rfl, _, _, (kp [(2, _)] [] hB rfl rfl (by rfl)), [(i6 0)], (Res.tmp (by rfl) (by rfl) Res.nil), rfl, by rfl, by rfl, by rfl⟩
noncomputable def addr_Cmp (a0 : api_Addr) (a1 : api_Addr) : Option (Int) :=
 (addr_family a0).bind fun r1 =>
 (addr_family a1).bind fun r2 =>
 (cmp_Compare r1 r2).bind fun r3 =>
 (cmp_Compare_2 a0.fHi a1.fHi).bind fun r4 =>
 (cmp_Compare_2 a0.fLo a1.fLo).bind fun r5 =>
 (cmp_Or ([r3, r4, r5] : List Int)).bind fun r6 =>
 some r6
theorem addr_Cmp_ac (a0 : api_Addr) (a1 : api_Addr) (r : Int) (h : addr_Cmp a0 a1 = some r) : AC Tryd.prog 82 [(.d (e_api_Addr a0)), (.d (e_api_Addr a1))] [] (.d (.int .i64 r)) [] := by
 refine AC.of_code2 Tryd.func82 rfl rfl (Nat.le_of_ble_eq_true (by rfl)) fun B hB hN => ?_
 delta addr_Cmp at h
 refine sr (cg (OpJ.box hB (nm := 1002) (by decide) (by simp) rfl (ltN hN rfl) (q 0)) rfl (cg (OpJ.box hB (nm := 1003) (by decide) (by simp) rfl (ltN hN rfl) (q 1)) rfl (c (OpJ.assign (ltN hN rfl) (Opd.int .i64 (0))) rfl cn))) ?_
 obtain ⟨r1, hr1, h⟩ := bindS h
 obtain ⟨r2, hr2, h⟩ := bindS h
 obtain ⟨r3, hr3, h⟩ := bindS h
 obtain ⟨r4, hr4, h⟩ := bindS h
 obtain ⟨r5, hr5, h⟩ := bindS h
 obtain ⟨r6, hr6, h⟩ := bindS h
 refine sd (c (lb hN 42 _ _ tyS42 (At.here _) (q 2)) rfl (cg (OpJ.callFn hB fnOk96 (addr_family_ac a0 r1 hr1) [] (by kernel_rfl) (ltN hN rfl) (by kernel_rfl) (OpdL.cons (q 5) OpdL.nil)) rfl (c (lb hN 42 _ _ tyS42 (At.here _) (q 3)) rfl (cg (OpJ.callFn hB fnOk96 (addr_family_ac a1 r2 hr2) [] (by kernel_rfl) (ltN hN rfl) (by kernel_rfl) (OpdL.cons (q 7) OpdL.nil)) rfl (cg (OpJ.callFn hB fnOk77 (cmp_Compare_ac r1 r2 r3 hr3) [] (by kernel_rfl) (ltN hN rfl) (by kernel_rfl) (OpdL.cons (q 6) (OpdL.cons (q 8) OpdL.nil))) rfl (c (fo 1002 1 [1] hN underlying42 1 tyS40 (q 2)) rfl (c (la hN 42 tyS40 (q 10)) rfl (c (fo 1003 1 [1] hN underlying42 1 tyS40 (q 3)) rfl (c (la hN 42 tyS40 (q 12)) rfl (cg (OpJ.callFn hB fnOk97 (cmp_Compare_2_ac a0.fHi a1.fHi r4 hr4) [] (by kernel_rfl) (ltN hN rfl) (by kernel_rfl) (OpdL.cons (q 11) (OpdL.cons (q 13) OpdL.nil))) rfl (c (fo 1002 2 [2] hN underlying42 2 tyS40 (q 2)) rfl (c (la hN 42 tyS40 (q 15)) rfl (c (fo 1003 2 [2] hN underlying42 2 tyS40 (q 3)) rfl (c (la hN 42 tyS40 (q 17)) rfl (cg (OpJ.callFn hB fnOk97 (cmp_Compare_2_ac a0.fLo a1.fLo r5 hr5) [] (by kernel_rfl) (ltN hN rfl) (by kernel_rfl) (OpdL.cons (q 16) (OpdL.cons (q 18) OpdL.nil))) rfl (c (OpJ.buildSlice underlying22 tyS3 tyZD3 (by rfl) (by decide) (by decide) (Opds.cons (q 9) (Opds.cons (q 14) (Opds.cons (q 19) Opds.nil))) (by kernel_rfl) (es := ([(.int .i64 r3), (.int .i64 r4), (.int .i64 r5)] : List D)) (by rfl) (by rfl) (by kernel_rfl) (by simp) (ltN hN rfl)) rfl (cg (OpJ.callFn hB fnOk75 (cmp_Or_ac ([r3, r4, r5] : List Int) r6 hr6) [] (by kernel_rfl) (ltN hN rfl) (by kernel_rfl) (OpdL.cons (q 20) OpdL.nil)) rfl (c (OpJ.assign (ltN hN rfl) (q 21)) rfl cn)))))))))))))))))) (by kernel_rfl) (by kernel_rfl) ?_
 apply AWp.ret
 obtain rfl := Option.some.inj h
 exact ⟨.inl rfl, _, _, (kp [(4, _)] [] hB rfl rfl (by rfl)), [(i6 r6)], (Res.tmp (by rfl) (by rfl) Res.nil), rfl, by rfl, by rfl, by rfl⟩
noncomputable def addr_Next (a0 : api_Addr) : Option (api_Addr × Bool) :=
 jn (fun m2 : Int =>
 jn (fun m6 : Bool =>
 (if m6 = true then
 some ((api_Addr.mk false (0 : Int) (0 : Int)), false)
 else
 some ((api_Addr.mk a0.fV6 m2 (IntKind.u64.wrap (a0.fLo + (1 : Int)))), true))) (fun j7 =>
 (if ((a0.fV6 && (m2 == (0 : Int))) && ((IntKind.u64.wrap (a0.fLo + (1 : Int))) == (0 : Int))) = true then
 j7 true
 else
 (addr_Valid (api_Addr.mk a0.fV6 m2 (IntKind.u64.wrap (a0.fLo + (1 : Int))))).bind fun r10 =>
 j7 (!r10)))) (fun j3 =>
 (if (a0.fV6 && ((IntKind.u64.wrap (a0.fLo + (1 : Int))) == (0 : Int))) = true then
 j3 (IntKind.u64.wrap (a0.fHi + (1 : Int)))
 else
 j3 a0.fHi))
theorem addr_Next_ac (a0 : api_Addr) (r : api_Addr × Bool) (h : addr_Next a0 = some r) : AC Tryd.prog 122 [(.d (e_api_Addr a0))] [] (.tup [(.d (e_api_Addr r.1)), (.d (.bool r.2))]) [] := by
 refine AC.of_code2 Tryd.func122 rfl rfl (Nat.le_of_ble_eq_true (by rfl)) fun B hB hN => ?_
 have L {d : Nat} (h : Nat.blt d Tryd.f122.ntmps = true) : d < B.N := ltN hN h
 delta addr_Next at h
 refine sr (cg (OpJ.box hB (nm := 1001) (by decide) (by simp) rfl (L rfl) (q 0)) rfl (cg (OpJ.alloc hB tyZ42 (nm := 1002) (by decide) (L rfl)) rfl (c (OpJ.assign (L rfl) (Opd.bool false)) rfl cn))) ?_
 refine sr (c (fo 1001 2 [2] hN underlying42 2 tyS40 (q 1)) rfl (c (la hN 42 tyS40 (q 4)) rfl (c (OpJ.add (L rfl) (q 5) (Opd.int .u64 (1))) rfl (c (fo 1001 2 [2] hN underlying42 2 tyS40 (q 1)) rfl (cg (OpJ.storeB tyS40 (SetAt.dst1 (by rfl) (by rfl) (SetAt.here _ _) (by rfl) (by rfl) (by first | rfl | omega)) (by rfl) (by rfl) (by simp) rfl (q 7) (q 6)) rfl cn))))) ?_
 apply AWp.seq
 refine sr (c (fo 1001 0 [0] hN underlying42 0 tyS4 (q 1)) rfl (c (la hN 42 tyS4 (q 8)) rfl (c (mv hN (q 9)) rfl (c (oq hN 10 (fo 1001 2 [2] hN underlying42 2 tyS40 (q 1)) (OptL.keep (by rfl) OptL.nil) (GuardV.plain _)) rfl (c (oq hN 10 (la hN 42 tyS40 (q 11)) (OptL.opt OptL.nil) (GuardV.plain _)) rfl (c (oq hN 10 (OpJ.eqlI (L rfl) (q 12) (Opd.int .u64 (0))) (OptL.opt OptL.nil) (GuardV.plain _)) rfl (c (OpJ.pickAnd rfl (L rfl) (q 10) (q 13)) rfl cn))))))) ?_
 refine gh [(1, _), (2, _), (14, _)] [(1001, some _), (1002, some _)] hB rfl rfl (by rfl) ?_
 refine AWp.cut h (fun m2 : Int => ([(1, (pt 1001)), (2, (pt 1002))] : EL)) (fun m2 : Int => ([(1001, some (.box 42 (.d (.st [(.bool a0.fV6), (.int .u64 m2), (.int .u64 (IntKind.u64.wrap (a0.fLo + (1 : Int))))])))), (1002, bd 42 (.st [(.bool false), (.int .u64 0), (.int .u64 0)]))] : OL)) (fun m2 h E' O' hmat => ?_) (fun j3 hjj3 h => ?_)
 ·apply seqQ_n
  refine AWp.ghost hmat ?_
  apply AWp.seq
  apply AWp.seq
  refine AWp.cut h (fun m6 : Bool => ([(1, (pt 1001)), (2, (pt 1002)), (35, (bo m6))] : EL)) (fun m6 : Bool => ([(1001, some (.box 42 (.d (.st [(.bool a0.fV6), (.int .u64 m2), (.int .u64 (IntKind.u64.wrap (a0.fLo + (1 : Int))))])))), (1002, bd 42 (.st [(.bool false), (.int .u64 0), (.int .u64 0)]))] : OL)) (fun m6 h E' O' hmat => ?_) (fun j7 hjj7 h => ?_)
  ·apply seqQ_n
   refine AWp.ghost hmat ?_
   refine AWp.cond rfl (fun hg8 => ?_) (fun hg8 => ?_)
   ·replace h := ite_t hg8 h
    refine sr (c (OpJ.coe (v := (.st [(bo false), (.d (.int .u64 0)), (.d (.int .u64 0))])) (y := (.st [(.bool false), (.int .u64 0), (.int .u64 0)])) (Co.st (CoL.cons (Co.d _) (CoL.cons (Co.d _) (CoL.cons (Co.d _) CoL.nil)))) rfl (OpJ.build (places := [(0, 1), (1, 1), (2, 1)]) ⟨underlying42, fun w => by kernel_rfl⟩ tyZS42 Opds.nil (by kernel_rfl) (r := (.st [(bo false), (.d (.int .u64 0)), (.d (.int .u64 0))])) (by rfl) (L rfl))) rfl (cg (sB tyS42 (q 2) (q 36)) rfl (c (OpJ.assign (L rfl) (Opd.bool false)) rfl cn))) ?_
    apply AWp.ret
    apply seqQ_r
    obtain rfl := Option.some.inj h
    exact ⟨.inl rfl, _, _, (kp [(2, _), (3, _)] [(1002, some _)] hB rfl rfl (by rfl)), [(.d (.st [(.bool false), (.int .u64 0), (.int .u64 0)])), (bo false)], (Res.cell (c := (.d (.st [(.bool false), (.int .u64 0), (.int .u64 0)]))) (by rfl) (by rfl) tyS42 (by rfl) (by rfl) (by rfl) (Res.tmp (by rfl) (by rfl) Res.nil)), rfl, by rfl, by rfl, by rfl⟩
   ·replace h := ite_f hg8 h
    apply AWp.skip
    apply seqQ_n
    refine sr (c (lb hN 42 _ _ tyS42 (At.here _) (q 1)) rfl (cg (sB tyS42 (q 2) (q 37)) rfl (c (OpJ.assign (L rfl) (Opd.bool true)) rfl cn))) ?_
    apply AWp.ret
    obtain rfl := Option.some.inj h
    exact ⟨.inl rfl, _, _, (kp [(2, _), (3, _)] [(1002, some _)] hB rfl rfl (by rfl)), [(.d (.st [(.bool a0.fV6), (.int .u64 m2), (.int .u64 (IntKind.u64.wrap (a0.fLo + (1 : Int))))])), (bo true)], (Res.cell (c := (.d (.st [(.bool a0.fV6), (.int .u64 m2), (.int .u64 (IntKind.u64.wrap (a0.fLo + (1 : Int))))]))) (by rfl) (by rfl) tyS42 (by rfl) (by rfl) (by rfl) (Res.tmp (by rfl) (by rfl) Res.nil)), rfl, by rfl, by rfl, by rfl⟩
  ·rcases Bool.eq_false_or_eq_true ((a0.fV6 && (m2 == (0 : Int))) && ((IntKind.u64.wrap (a0.fLo + (1 : Int))) == (0 : Int))) with hg9 | hg9
   ·replace h := ite_t hg9 h
    refine rg (c (fo 1001 0 [0] hN underlying42 0 tyS4 (q 1)) rfl (c (la hN 42 tyS4 (q 19)) rfl (c (mv hN (q 20)) rfl (c (oq hN 21 (fo 1001 1 [1] hN underlying42 1 tyS40 (q 1)) (OptL.keep (by rfl) OptL.nil) (GuardV.plain _)) rfl (c (oq hN 21 (la hN 42 tyS40 (q 22)) (OptL.opt OptL.nil) (GuardV.plain _)) rfl (c (oq hN 21 (OpJ.eqlI (L rfl) (q 23) (Opd.int .u64 (0))) (OptL.opt OptL.nil) (GuardV.plain _)) rfl (c (OpJ.pickAnd rfl (L rfl) (q 21) (q 24)) rfl (c (mv hN (q 25)) rfl (c (oq hN 26 (fo 1001 2 [2] hN underlying42 2 tyS40 (q 1)) (OptL.keep (by rfl) OptL.nil) (GuardV.plain _)) rfl (c (oq hN 26 (la hN 42 tyS40 (q 27)) (OptL.opt OptL.nil) (GuardV.plain _)) rfl (c (oq hN 26 (OpJ.eqlI (L rfl) (q 28) (Opd.int .u64 (0))) (OptL.opt OptL.nil) (GuardV.plain _)) rfl (c (OpJ.pickAnd rfl (L rfl) (q 26) (q 29)) rfl (c (OpJ.val (v' := .d (.bool true)) (by rw [hg9] <;> rfl) (mv hN (q 30))) rfl (cg (sU 31 (L rfl)) rfl (cg (sU 31 (L rfl)) rfl (cg (sU 31 (L rfl)) rfl (c (OpJ.pickT (L rfl) (q 31) (Opd.bool true)) rfl cn))))))))))))))))) ?_
    exact hjj7 _ h _ _ (mp [] _ _ hB)
   ·replace h := ite_f hg9 h
    obtain ⟨r10, hr10, h⟩ := bindS h
    refine rg (c (fo 1001 0 [0] hN underlying42 0 tyS4 (q 1)) rfl (c (la hN 42 tyS4 (q 19)) rfl (c (mv hN (q 20)) rfl (c (oq hN 21 (fo 1001 1 [1] hN underlying42 1 tyS40 (q 1)) (OptL.keep (by rfl) OptL.nil) (GuardV.plain _)) rfl (c (oq hN 21 (la hN 42 tyS40 (q 22)) (OptL.opt OptL.nil) (GuardV.plain _)) rfl (c (oq hN 21 (OpJ.eqlI (L rfl) (q 23) (Opd.int .u64 (0))) (OptL.opt OptL.nil) (GuardV.plain _)) rfl (c (OpJ.pickAnd rfl (L rfl) (q 21) (q 24)) rfl (c (mv hN (q 25)) rfl (c (oq hN 26 (fo 1001 2 [2] hN underlying42 2 tyS40 (q 1)) (OptL.keep (by rfl) OptL.nil) (GuardV.plain _)) rfl (c (oq hN 26 (la hN 42 tyS40 (q 27)) (OptL.opt OptL.nil) (GuardV.plain _)) rfl (c (oq hN 26 (OpJ.eqlI (L rfl) (q 28) (Opd.int .u64 (0))) (OptL.opt OptL.nil) (GuardV.plain _)) rfl (c (OpJ.pickAnd rfl (L rfl) (q 26) (q 29)) rfl (c (OpJ.val (v' := .d (.bool false)) (by rw [hg9] <;> rfl) (mv hN (q 30))) rfl (c (gd 31 (lb hN 42 _ _ tyS42 (At.here _) (q 1))) rfl (cg (gd 31 (OpJ.callFn hB fnOk40 (addr_Valid_ac (api_Addr.mk a0.fV6 m2 (IntKind.u64.wrap (a0.fLo + (1 : Int)))) r10 hr10) [] (by kernel_rfl) (L rfl) (by kernel_rfl) (OpdL.cons (q 32) OpdL.nil))) rfl (c (gd 31 (OpJ.not (L rfl) (q 33))) rfl (c (OpJ.pickF (L rfl) (q 31) (q 34)) rfl cn))))))))))))))))) ?_
    exact hjj7 _ h _ _ (mp [] _ _ hB)
 ·refine AWp.cond rfl (fun hg11 => ?_) (fun hg11 => ?_)
  ·replace h := ite_t hg11 h
   refine rg (c (fo 1001 1 [1] hN underlying42 1 tyS40 (q 1)) rfl (c (la hN 42 tyS40 (q 15)) rfl (c (OpJ.add (L rfl) (q 16) (Opd.int .u64 (1))) rfl (c (fo 1001 1 [1] hN underlying42 1 tyS40 (q 1)) rfl (cg (OpJ.storeB tyS40 (SetAt.dst1 (by rfl) (by rfl) (SetAt.here _ _) (by rfl) (by rfl) (by first | rfl | omega)) (by rfl) (by rfl) (by simp) rfl (q 18) (q 17)) rfl cn))))) ?_
   exact hjj3 _ h _ _ (mp [] _ _ hB)
  ·replace h := ite_f hg11 h
   apply AWp.skip
   exact hjj3 _ h _ _ (mp [] _ _ hB)
noncomputable def resource_order_valid_L0 (a0 : (List api_Addr_)) (s1 : Int) : Option (((Unit) ⊕ (Unit)) ⊕ (Int)) :=
 (if (decide (s1 < (a0.length : Int))) = true then
 jn (fun _ : Unit =>
 some (.inr (w64 (s1 + (1 : Int))))) (fun j117 =>
 (idx a0 s1).bind fun x118 =>
 (addr_Cmp x118.ffrom x118.fto).bind fun r119 =>
 (if (decide ((0 : Int) < r119)) = true then
 some (.inl (.inl ()))
 else
 (if (s1 == (0 : Int)) = true then
 j117 ()
 else
 (idx a0 (w64 (s1 - (1 : Int)))).bind fun x122 =>
 (addr_Next x122.fto).bind fun r123 =>
 jn (fun m131 : Bool =>
 (if m131 = true then
 some (.inl (.inl ()))
 else
 j117 ())) (fun j132 =>
 (idx a0 (w64 (s1 - (1 : Int)))).bind fun x134 =>
 (addr_Cmp x134.fto x118.ffrom).bind fun r135 =>
 (if (decide ((0 : Int) ≤ r135)) = true then
 j132 true
 else
 (if r123.2 = true then
 (addr_Cmp r123.1 x118.ffrom).bind fun r138 =>
 j132 (r138 == (0 : Int))
 else
 j132 false))))))
 else
 some (.inl (.inr ())))
noncomputable def resource_order_valid (a0 : (List api_Addr_)) : Option (Bool) :=
 (loop (resource_order_valid_L0 a0) (0 : Int)).bind fun x139 => match x139 with
 | (.inl _) =>
  some false
 | (.inr _) =>
  some true
theorem resource_order_valid_ac (a0 : (List api_Addr_)) (r : Bool) (h : resource_order_valid a0 = some r) : AC Tryd.prog 45 [(.st [(.func 82 []), (.func 122 []), (.func 123 [])]), (.d (.list 6 (a0.map e_api_Addr_)))] [] (.d (.bool r)) [] := by
 refine AC.of_code2 Tryd.func45 rfl rfl (Nat.le_of_ble_eq_true (by rfl)) fun B hB hN => ?_
 have L {d : Nat} (h : Nat.blt d Tryd.f45.ntmps = true) : d < B.N := ltN hN h
 delta resource_order_valid at h
 refine sr (cg (OpJ.box hB (nm := 1002) (by decide) (by simp) rfl (L rfl) (q 0)) rfl (c (OpJ.assign (L rfl) (Opd.bool false)) rfl cn)) ?_
 apply AWp.seq
 refine sr (c (mv hN (q 1)) rfl (c (OpJ.val (v' := (i6 (a0.length : Int))) (by simp) (OpJ.lenD underlying94 (L rfl) (q 9))) rfl (c (mv hN (Opd.int .i64 (0))) rfl cn))) ?_
 apply AWp.block
 obtain ⟨x139, hx140, h⟩ := bindS h
 refine lg (resource_order_valid_L0 a0) (fun s1 : Int => ([(1, (qe_api_Addr__6 a0)), (2, (pt 1002)), (9, (qe_api_Addr__6 a0)), (10, (i6 (a0.length : Int))), (11, (i6 s1))] : EL)) (fun s1 : Int => ([(1002, some (.box 102 (.st [(.func 82 []), (.func 122 []), (.func 123 [])])))] : OL)) (fun (x : (Unit) ⊕ (Unit)) e E' O' => match x with | (.inl _p) => e = .ret ∧ Mat B E' O' ([(4, (bo false))] : EL) ([] : OL) | (.inr _p) => e = .exit 0 ∧ Mat B E' O' ([] : EL) ([] : OL)) hx140 (mp [] _ _ hB) (fun s1 y h => ?_) (fun e E' O' hR => ?_)
 ·unfold resource_order_valid_L0 at h
  refine sr (c (OpJ.lss (L rfl) (q 11) (q 10)) rfl cn) ?_
  apply AWp.seq
  refine AWp.cond rfl (fun hg94 => ?_) (fun hg94 => ?_)
  ·replace h := ite_t hg94 h
   apply AWp.skip
   apply seqQ_n
   apply AWp.seq
   refine AWp.cut h (fun _ : Unit => ([(1, (qe_api_Addr__6 a0)), (2, (pt 1002)), (9, (qe_api_Addr__6 a0)), (10, (i6 (a0.length : Int))), (11, (i6 s1))] : EL)) (fun _ : Unit => ([(1002, some (.box 102 (.st [(.func 82 []), (.func 122 []), (.func 123 [])])))] : OL)) (fun _m h E' O' hmat => ?_) (fun j117 hjj117 h => ?_)
   ·apply seqQ_n
    refine AWp.ghost hmat ?_
    refine rg (c (add6 (L rfl) (q 11) (Opd.int .i64 (1))) rfl (c (mv hN (q 62)) rfl cn)) ?_
    obtain rfl := Option.some.inj h
    exact ⟨rfl, (mp [] _ _ hB)⟩
   ·apply AWp.block
    obtain ⟨x118, hx118, h⟩ := bindS h
    refine sr (c (mv hN (q 11)) rfl (c (OpJ.indexD underlying94 tyS118 (idx_some hx118).1 (get_map e_api_Addr_ (idx_some hx118).2) (L rfl) (q 9) (q 11)) rfl (c (OpJ.loadD tyS118 (by rfl) (by rfl) (L rfl) (q 14)) rfl (cg (OpJ.alloc hB tyZ118 (nm := 1006) (by decide) (L rfl)) rfl (c (OpJ.assign (L rfl) (q 13)) rfl (cg (sB tyS118 (q 6) (q 15)) rfl cn)))))) ?_
    apply AWp.seq
    obtain ⟨r119, hr119, h⟩ := bindS h
    refine sr (c (fo 1002 0 [0] hN underlying102 0 tyS99 (q 2)) rfl (c (lb hN 102 _ (.func 82 []) tyS99 (At.st1 (f := (.func 82 [])) (by rfl) (by rfl) (At.here _) (by first | rfl | omega)) (q 16)) rfl (c (fo 1006 0 [0] hN underlying118 0 tyS42 (q 6)) rfl (c (la hN 118 tyS42 (q 18)) rfl (c (fo 1006 3 [1] hN underlying118 3 tyS42 (q 6)) rfl (c (la hN 118 tyS42 (q 20)) rfl (cg (OpJ.callVal (args := [(.d (e_api_Addr x118.ffrom)), (.d (e_api_Addr x118.fto))]) (caps := []) hB fnOk82 [] (addr_Cmp_ac x118.ffrom x118.fto r119 hr119) (by kernel_rfl) (L rfl) (by kernel_rfl) (by kernel_rfl) (OpdL.cons (q 19) (OpdL.cons (q 21) OpdL.nil))) rfl (c (OpJ.gtr (L rfl) (q 22) (Opd.int .i64 (0))) rfl cn)))))))) ?_
    refine AWp.cond rfl (fun hg120 => ?_) (fun hg120 => ?_)
    ·replace h := ite_t hg120 h
     refine sr (c (OpJ.assign (L rfl) (Opd.bool false)) rfl cn) ?_
     apply AWp.ret
     apply seqQ_r
     apply blkQ_r
     apply seqQ_r
     obtain rfl := Option.some.inj h
     exact ⟨(fun hc => by cases hc), rfl, (mp [] _ _ hB)⟩
    ·replace h := ite_f hg120 h
     apply AWp.skip
     apply seqQ_n
     apply AWp.seq
     refine sr (c (mv hN (q 5)) rfl (c (OpJ.eqlI (L rfl) (q 24) (Opd.int .i64 (0))) rfl cn)) ?_
     refine AWp.cond rfl (fun hg121 => ?_) (fun hg121 => ?_)
     ·replace h := ite_t hg121 h
      apply AWp.exit
      apply seqQ_e
      apply blkQ_hit
      exact hjj117 _ h _ _ (mp [] _ _ hB)
     ·replace h := ite_f hg121 h
      apply AWp.skip
      apply seqQ_n
      obtain ⟨x122, hx122, h⟩ := bindS h
      obtain ⟨r123, hr123, h⟩ := bindS h
      refine sd (c (fo 1002 1 [1] hN underlying102 1 tyS100 (q 2)) rfl (c (lb hN 102 _ (.func 122 []) tyS100 (At.st1 (f := (.func 122 [])) (by rfl) (by rfl) (At.here _) (by first | rfl | omega)) (q 27)) rfl (c (mv hN (q 1)) rfl (c (mv hN (q 5)) rfl (c (sub6 (L rfl) (q 30) (Opd.int .i64 (1))) rfl (c (OpJ.indexD underlying94 tyS118 (idx_some hx122).1 (get_map e_api_Addr_ (idx_some hx122).2) (L rfl) (q 29) (q 31)) rfl (c (OpJ.fieldD underlying118 (by rfl) (o := 3) (by rfl) tyS42 (by decide) (by rfl) (by rfl) (L rfl) (q 32)) rfl (c (OpJ.loadD tyS42 (by rfl) (by rfl) (L rfl) (q 33)) rfl (cg (OpJ.callVal (args := [(.d (e_api_Addr x122.fto))]) (caps := []) hB fnOk122 [] (addr_Next_ac x122.fto r123 hr123) (by kernel_rfl) (L rfl) (by kernel_rfl) (by kernel_rfl) (OpdL.cons (q 34) OpdL.nil)) rfl (c (mv hN (q 35)) rfl (c (OpJ.extract (by rfl) rfl (L rfl) (q 26)) rfl (c (OpJ.extract (by rfl) rfl (L rfl) (q 26)) rfl (cg (OpJ.alloc hB tyZ42 (nm := 1007) (by decide) (L rfl)) rfl (cg (sB tyS42 (q 7) (q 36)) rfl (c (OpJ.assign (L rfl) (q 37)) rfl cn))))))))))))))) (by kernel_rfl) (by kernel_rfl) ?_
      apply AWp.seq
      refine AWp.cut h (fun m131 : Bool => ([(1, (qe_api_Addr__6 a0)), (2, (pt 1002)), (9, (qe_api_Addr__6 a0)), (10, (i6 (a0.length : Int))), (11, (i6 s1)), (61, (bo m131))] : EL)) (fun m131 : Bool => ([(1002, some (.box 102 (.st [(.func 82 []), (.func 122 []), (.func 123 [])])))] : OL)) (fun m131 h E' O' hmat => ?_) (fun j132 hjj132 h => ?_)
      ·apply seqQ_n
       refine AWp.ghost hmat ?_
       refine AWp.cond rfl (fun hg133 => ?_) (fun hg133 => ?_)
       ·replace h := ite_t hg133 h
        refine sr (c (OpJ.assign (L rfl) (Opd.bool false)) rfl cn) ?_
        apply AWp.ret
        apply blkQ_r
        apply seqQ_r
        obtain rfl := Option.some.inj h
        exact ⟨(fun hc => by cases hc), rfl, (mp [] _ _ hB)⟩
       ·replace h := ite_f hg133 h
        apply AWp.skip
        apply blkQ_n
        exact hjj117 _ h _ _ (mp [] _ _ hB)
      ·obtain ⟨x134, hx134, h⟩ := bindS h
       obtain ⟨r135, hr135, h⟩ := bindS h
       rcases Bool.eq_false_or_eq_true (decide ((0 : Int) ≤ r135)) with hg136 | hg136
       ·replace h := ite_t hg136 h
        refine dr (c (fo 1002 0 [0] hN underlying102 0 tyS99 (q 2)) rfl (c (lb hN 102 _ (.func 82 []) tyS99 (At.st1 (f := (.func 82 [])) (by rfl) (by rfl) (At.here _) (by first | rfl | omega)) (q 38)) rfl (c (mv hN (q 1)) rfl (c (mv hN (q 5)) rfl (c (sub6 (L rfl) (q 41) (Opd.int .i64 (1))) rfl (c (OpJ.indexD underlying94 tyS118 (idx_some hx134).1 (get_map e_api_Addr_ (idx_some hx134).2) (L rfl) (q 40) (q 42)) rfl (c (OpJ.fieldD underlying118 (by rfl) (o := 3) (by rfl) tyS42 (by decide) (by rfl) (by rfl) (L rfl) (q 43)) rfl (c (OpJ.loadD tyS42 (by rfl) (by rfl) (L rfl) (q 44)) rfl (c (fo 1006 0 [0] hN underlying118 0 tyS42 (q 6)) rfl (c (la hN 118 tyS42 (q 46)) rfl (cg (OpJ.callVal (args := [(.d (e_api_Addr x134.fto)), (.d (e_api_Addr x118.ffrom))]) (caps := []) hB fnOk82 [] (addr_Cmp_ac x134.fto x118.ffrom r135 hr135) (by kernel_rfl) (L rfl) (by kernel_rfl) (by kernel_rfl) (OpdL.cons (q 45) (OpdL.cons (q 47) OpdL.nil))) rfl (c (OpJ.geq (L rfl) (q 48) (Opd.int .i64 (0))) rfl (c (OpJ.val (v' := .d (.bool true)) (by rw [hg136] <;> rfl) (mv hN (q 49))) rfl (cg (sU 50 (L rfl)) rfl (cg (sU 50 (L rfl)) rfl (cg (sV 52 (L rfl)) rfl (cg (sV 52 (L rfl)) rfl (cg (sV 52 (L rfl)) rfl (cg (sV 52 (L rfl)) rfl (cg (sV 52 (L rfl)) rfl (cg (sV 52 (L rfl)) rfl (cg (sV 52 (L rfl)) rfl (cg (sU 50 (L rfl)) rfl (c (OpJ.pickT (L rfl) (q 50) (Opd.bool true)) rfl cn)))))))))))))))))))))))) (by kernel_rfl) (by kernel_rfl) ?_
        exact hjj132 _ h _ _ (mp [] _ _ hB)
       ·replace h := ite_f hg136 h
        rcases Bool.eq_false_or_eq_true r123.2 with hg137 | hg137
        ·replace h := ite_t hg137 h
         obtain ⟨r138, hr138, h⟩ := bindS h
         refine dr (c (fo 1002 0 [0] hN underlying102 0 tyS99 (q 2)) rfl (c (lb hN 102 _ (.func 82 []) tyS99 (At.st1 (f := (.func 82 [])) (by rfl) (by rfl) (At.here _) (by first | rfl | omega)) (q 38)) rfl (c (mv hN (q 1)) rfl (c (mv hN (q 5)) rfl (c (sub6 (L rfl) (q 41) (Opd.int .i64 (1))) rfl (c (OpJ.indexD underlying94 tyS118 (idx_some hx134).1 (get_map e_api_Addr_ (idx_some hx134).2) (L rfl) (q 40) (q 42)) rfl (c (OpJ.fieldD underlying118 (by rfl) (o := 3) (by rfl) tyS42 (by decide) (by rfl) (by rfl) (L rfl) (q 43)) rfl (c (OpJ.loadD tyS42 (by rfl) (by rfl) (L rfl) (q 44)) rfl (c (fo 1006 0 [0] hN underlying118 0 tyS42 (q 6)) rfl (c (la hN 118 tyS42 (q 46)) rfl (cg (OpJ.callVal (args := [(.d (e_api_Addr x134.fto)), (.d (e_api_Addr x118.ffrom))]) (caps := []) hB fnOk82 [] (addr_Cmp_ac x134.fto x118.ffrom r135 hr135) (by kernel_rfl) (L rfl) (by kernel_rfl) (by kernel_rfl) (OpdL.cons (q 45) (OpdL.cons (q 47) OpdL.nil))) rfl (c (OpJ.geq (L rfl) (q 48) (Opd.int .i64 (0))) rfl (c (OpJ.val (v' := .d (.bool false)) (by rw [hg136] <;> rfl) (mv hN (q 49))) rfl (c (gd 50 (mv hN (q 8))) rfl (c (gd 50 (OpJ.val (v' := .d (.bool true)) (by rw [hg137] <;> rfl) (mv hN (q 51)))) rfl (c (gd 52 (fo 1002 0 [0] hN underlying102 0 tyS99 (q 2))) rfl (c (gd 52 (lb hN 102 _ (.func 82 []) tyS99 (At.st1 (f := (.func 82 [])) (by rfl) (by rfl) (At.here _) (by first | rfl | omega)) (q 53))) rfl (c (gd 52 (lb hN 42 _ _ tyS42 (At.here _) (q 7))) rfl (c (gd 52 (fo 1006 0 [0] hN underlying118 0 tyS42 (q 6))) rfl (c (gd 52 (la hN 118 tyS42 (q 56))) rfl (cg (gd 52 (OpJ.callVal (args := [(.d (e_api_Addr r123.1)), (.d (e_api_Addr x118.ffrom))]) (caps := []) hB fnOk82 [] (addr_Cmp_ac r123.1 x118.ffrom r138 hr138) (by kernel_rfl) (L rfl) (by kernel_rfl) (by kernel_rfl) (OpdL.cons (q 55) (OpdL.cons (q 57) OpdL.nil)))) rfl (c (gd 52 (OpJ.eqlI (L rfl) (q 58) (Opd.int .i64 (0)))) rfl (c (gd 50 (OpJ.pickT (L rfl) (q 52) (q 59))) rfl (c (OpJ.pickF (L rfl) (q 50) (q 60)) rfl cn)))))))))))))))))))))))) (by kernel_rfl) (by kernel_rfl) ?_
         exact hjj132 _ h _ _ (mp [] _ _ hB)
        ·replace h := ite_f hg137 h
         refine dr (c (fo 1002 0 [0] hN underlying102 0 tyS99 (q 2)) rfl (c (lb hN 102 _ (.func 82 []) tyS99 (At.st1 (f := (.func 82 [])) (by rfl) (by rfl) (At.here _) (by first | rfl | omega)) (q 38)) rfl (c (mv hN (q 1)) rfl (c (mv hN (q 5)) rfl (c (sub6 (L rfl) (q 41) (Opd.int .i64 (1))) rfl (c (OpJ.indexD underlying94 tyS118 (idx_some hx134).1 (get_map e_api_Addr_ (idx_some hx134).2) (L rfl) (q 40) (q 42)) rfl (c (OpJ.fieldD underlying118 (by rfl) (o := 3) (by rfl) tyS42 (by decide) (by rfl) (by rfl) (L rfl) (q 43)) rfl (c (OpJ.loadD tyS42 (by rfl) (by rfl) (L rfl) (q 44)) rfl (c (fo 1006 0 [0] hN underlying118 0 tyS42 (q 6)) rfl (c (la hN 118 tyS42 (q 46)) rfl (cg (OpJ.callVal (args := [(.d (e_api_Addr x134.fto)), (.d (e_api_Addr x118.ffrom))]) (caps := []) hB fnOk82 [] (addr_Cmp_ac x134.fto x118.ffrom r135 hr135) (by kernel_rfl) (L rfl) (by kernel_rfl) (by kernel_rfl) (OpdL.cons (q 45) (OpdL.cons (q 47) OpdL.nil))) rfl (c (OpJ.geq (L rfl) (q 48) (Opd.int .i64 (0))) rfl (c (OpJ.val (v' := .d (.bool false)) (by rw [hg136] <;> rfl) (mv hN (q 49))) rfl (c (gd 50 (mv hN (q 8))) rfl (c (gd 50 (OpJ.val (v' := .d (.bool false)) (by rw [hg137] <;> rfl) (mv hN (q 51)))) rfl (cg (sU 52 (L rfl)) rfl (cg (sU 52 (L rfl)) rfl (cg (sU 52 (L rfl)) rfl (cg (sU 52 (L rfl)) rfl (cg (sU 52 (L rfl)) rfl (cg (sU 52 (L rfl)) rfl (cg (sU 52 (L rfl)) rfl (c (gd 50 (OpJ.pickF (L rfl) (q 52) (Opd.bool false))) rfl (c (OpJ.pickF (L rfl) (q 50) (q 60)) rfl cn)))))))))))))))))))))))) (by kernel_rfl) (by kernel_rfl) ?_
         exact hjj132 _ h _ _ (mp [] _ _ hB)
  ·replace h := ite_f hg94 h
   apply AWp.exit
   apply seqQ_e
   obtain rfl := Option.some.inj h
   exact ⟨(fun hc => by cases hc), rfl, (mp [] _ _ hB)⟩
 ·rcases x139 with _ | _
  ·obtain ⟨rfl, hmat⟩ := hR
   apply blkQ_r
   apply seqQ_r
   obtain rfl := Option.some.inj h
   exact ⟨.inl rfl, _, _, (Mat.trans hmat (mp [] [(4, (bo false))] [] hB)), [(bo false)], (Res.tmp (by rfl) (by rfl) Res.nil), rfl, by rfl, by rfl, by rfl⟩
  ·obtain ⟨rfl, hmat⟩ := hR
   apply blkQ_hit
   apply seqQ_n
   refine AWp.ghost hmat ?_
   refine sr (c (OpJ.assign (L rfl) (Opd.bool true)) rfl cn) ?_
   apply AWp.ret
   obtain rfl := Option.some.inj h
   exact ⟨.inl rfl, _, _, (kp [(4, _)] [] hB rfl rfl (by rfl)), [(bo true)], (Res.tmp (by rfl) (by rfl) Res.nil), rfl, by rfl, by rfl, by rfl⟩
noncomputable def resource_numbers_1 (a0 : Int) : Option (Int × Bool) :=
 some ((w64 (a0 + (1 : Int))), (decide (a0 < (4294967295 : Int))))
theorem resource_numbers_1_ac (a0 : Int) (r : Int × Bool) (h : resource_numbers_1 a0 = some r) : AC Tryd.prog 124 [(.d (.int .i64 a0))] [] (.tup [(.d (.int .i64 r.1)), (.d (.bool r.2))]) [] := by
 refine AC.of_code2 Tryd.func124 rfl rfl (Nat.le_of_ble_eq_true (by rfl)) fun B hB hN => ?_
 delta resource_numbers_1 at h
 refine sr (c (OpJ.assign (ltN hN rfl) (Opd.int .i64 (0))) rfl (c (OpJ.assign (ltN hN rfl) (Opd.bool false)) rfl cn)) ?_
 refine sr (c (mv hN (q 0)) rfl (c (add6 (ltN hN rfl) (q 4) (Opd.int .i64 (1))) rfl (c (mv hN (q 0)) rfl (c (OpJ.lss (ltN hN rfl) (q 6) (Opd.int .i64 (4294967295))) rfl (c (OpJ.assign (ltN hN rfl) (q 5)) rfl (c (OpJ.assign (ltN hN rfl) (q 7)) rfl cn)))))) ?_
 apply AWp.ret
 obtain rfl := Option.some.inj h
 exact ⟨.inl rfl, _, _, (kp [(2, _), (3, _)] [] hB rfl rfl (by rfl)), [(i6 (w64 (a0 + (1 : Int)))), (bo (decide (a0 < (4294967295 : Int))))], (Res.tmp (by rfl) (by rfl) (Res.tmp (by rfl) (by rfl) Res.nil)), rfl, by rfl, by rfl, by rfl⟩
noncomputable def resource_order_valid_2_L0 (a0 : (List resource_part_int_)) (s1 : Int) : Option (((Unit) ⊕ (Unit)) ⊕ (Int)) :=
 (if (decide (s1 < (a0.length : Int))) = true then
 jn (fun _ : Unit =>
 some (.inr (w64 (s1 + (1 : Int))))) (fun j117 =>
 (idx a0 s1).bind fun x118 =>
 (cmp_Compare x118.ffrom x118.fto).bind fun r119 =>
 (if (decide ((0 : Int) < r119)) = true then
 some (.inl (.inl ()))
 else
 (if (s1 == (0 : Int)) = true then
 j117 ()
 else
 (idx a0 (w64 (s1 - (1 : Int)))).bind fun x122 =>
 (resource_numbers_1 x122.fto).bind fun r123 =>
 jn (fun m131 : Bool =>
 (if m131 = true then
 some (.inl (.inl ()))
 else
 j117 ())) (fun j132 =>
 (idx a0 (w64 (s1 - (1 : Int)))).bind fun x134 =>
 (cmp_Compare x134.fto x118.ffrom).bind fun r135 =>
 (if (decide ((0 : Int) ≤ r135)) = true then
 j132 true
 else
 (if r123.2 = true then
 (cmp_Compare r123.1 x118.ffrom).bind fun r138 =>
 j132 (r138 == (0 : Int))
 else
 j132 false))))))
 else
 some (.inl (.inr ())))
noncomputable def resource_order_valid_2 (a0 : (List resource_part_int_)) : Option (Bool) :=
 (loop (resource_order_valid_2_L0 a0) (0 : Int)).bind fun x139 => match x139 with
 | (.inl _) =>
  some false
 | (.inr _) =>
  some true
theorem resource_order_valid_2_ac (a0 : (List resource_part_int_)) (r : Bool) (h : resource_order_valid_2 a0 = some r) : AC Tryd.prog 46 [(.st [(.func 77 []), (.func 124 []), (.func 125 [])]), (.d (.list 2 (a0.map e_resource_part_int_)))] [] (.d (.bool r)) [] := by
 refine AC.of_code2 Tryd.func46 rfl rfl (Nat.le_of_ble_eq_true (by rfl)) fun B hB hN => ?_
 have L {d : Nat} (h : Nat.blt d Tryd.f46.ntmps = true) : d < B.N := ltN hN h
 delta resource_order_valid_2 at h
 refine sr (cg (OpJ.box hB (nm := 1002) (by decide) (by simp) rfl (L rfl) (q 0)) rfl (c (OpJ.assign (L rfl) (Opd.bool false)) rfl cn)) ?_
 apply AWp.seq
 refine sr (c (mv hN (q 1)) rfl (c (OpJ.val (v' := (i6 (a0.length : Int))) (by simp) (OpJ.lenD underlying95 (L rfl) (q 9))) rfl (c (mv hN (Opd.int .i64 (0))) rfl cn))) ?_
 apply AWp.block
 obtain ⟨x139, hx140, h⟩ := bindS h
 refine lg (resource_order_valid_2_L0 a0) (fun s1 : Int => ([(1, (.d (.list 2 (a0.map e_resource_part_int_)))), (2, (pt 1002)), (9, (.d (.list 2 (a0.map e_resource_part_int_)))), (10, (i6 (a0.length : Int))), (11, (i6 s1))] : EL)) (fun s1 : Int => ([(1002, some (.box 106 (.st [(.func 77 []), (.func 124 []), (.func 125 [])])))] : OL)) (fun (x : (Unit) ⊕ (Unit)) e E' O' => match x with | (.inl _p) => e = .ret ∧ Mat B E' O' ([(4, (bo false))] : EL) ([] : OL) | (.inr _p) => e = .exit 0 ∧ Mat B E' O' ([] : EL) ([] : OL)) hx140 (mp [] _ _ hB) (fun s1 y h => ?_) (fun e E' O' hR => ?_)
 ·unfold resource_order_valid_2_L0 at h
  refine sr (c (OpJ.lss (L rfl) (q 11) (q 10)) rfl cn) ?_
  apply AWp.seq
  refine AWp.cond rfl (fun hg94 => ?_) (fun hg94 => ?_)
  ·replace h := ite_t hg94 h
   apply AWp.skip
   apply seqQ_n
   apply AWp.seq
   refine AWp.cut h (fun _ : Unit => ([(1, (.d (.list 2 (a0.map e_resource_part_int_)))), (2, (pt 1002)), (9, (.d (.list 2 (a0.map e_resource_part_int_)))), (10, (i6 (a0.length : Int))), (11, (i6 s1))] : EL)) (fun _ : Unit => ([(1002, some (.box 106 (.st [(.func 77 []), (.func 124 []), (.func 125 [])])))] : OL)) (fun _m h E' O' hmat => ?_) (fun j117 hjj117 h => ?_)
   ·apply seqQ_n
    refine AWp.ghost hmat ?_
    refine rg (c (add6 (L rfl) (q 11) (Opd.int .i64 (1))) rfl (c (mv hN (q 62)) rfl cn)) ?_
    obtain rfl := Option.some.inj h
    exact ⟨rfl, (mp [] _ _ hB)⟩
   ·apply AWp.block
    obtain ⟨x118, hx118, h⟩ := bindS h
    refine sr (c (mv hN (q 11)) rfl (c (OpJ.indexD underlying95 tyS120 (idx_some hx118).1 (get_map e_resource_part_int_ (idx_some hx118).2) (L rfl) (q 9) (q 11)) rfl (c (OpJ.loadD tyS120 (by rfl) (by rfl) (L rfl) (q 14)) rfl (cg (OpJ.alloc hB tyZ120 (nm := 1006) (by decide) (L rfl)) rfl (c (OpJ.assign (L rfl) (q 13)) rfl (cg (sB tyS120 (q 6) (q 15)) rfl cn)))))) ?_
    apply AWp.seq
    obtain ⟨r119, hr119, h⟩ := bindS h
    refine sr (c (fo 1002 0 [0] hN underlying106 0 tyS31 (q 2)) rfl (c (lb hN 106 _ (.func 77 []) tyS31 (At.st1 (f := (.func 77 [])) (by rfl) (by rfl) (At.here _) (by first | rfl | omega)) (q 16)) rfl (c (fo 1006 0 [0] hN underlying120 0 tyS3 (q 6)) rfl (c (la hN 120 tyS3 (q 18)) rfl (c (fo 1006 1 [1] hN underlying120 1 tyS3 (q 6)) rfl (c (la hN 120 tyS3 (q 20)) rfl (cg (OpJ.callVal (args := [(i6 x118.ffrom), (i6 x118.fto)]) (caps := []) hB fnOk77 [] (cmp_Compare_ac x118.ffrom x118.fto r119 hr119) (by kernel_rfl) (L rfl) (by kernel_rfl) (by kernel_rfl) (OpdL.cons (q 19) (OpdL.cons (q 21) OpdL.nil))) rfl (c (OpJ.gtr (L rfl) (q 22) (Opd.int .i64 (0))) rfl cn)))))))) ?_
    refine AWp.cond rfl (fun hg120 => ?_) (fun hg120 => ?_)
    ·replace h := ite_t hg120 h
     refine sr (c (OpJ.assign (L rfl) (Opd.bool false)) rfl cn) ?_
     apply AWp.ret
     apply seqQ_r
     apply blkQ_r
     apply seqQ_r
     obtain rfl := Option.some.inj h
     exact ⟨(fun hc => by cases hc), rfl, (mp [] _ _ hB)⟩
    ·replace h := ite_f hg120 h
     apply AWp.skip
     apply seqQ_n
     apply AWp.seq
     refine sr (c (mv hN (q 5)) rfl (c (OpJ.eqlI (L rfl) (q 24) (Opd.int .i64 (0))) rfl cn)) ?_
     refine AWp.cond rfl (fun hg121 => ?_) (fun hg121 => ?_)
     ·replace h := ite_t hg121 h
      apply AWp.exit
      apply seqQ_e
      apply blkQ_hit
      exact hjj117 _ h _ _ (mp [] _ _ hB)
     ·replace h := ite_f hg121 h
      apply AWp.skip
      apply seqQ_n
      obtain ⟨x122, hx122, h⟩ := bindS h
      obtain ⟨r123, hr123, h⟩ := bindS h
      refine sd (c (fo 1002 1 [1] hN underlying106 1 tyS104 (q 2)) rfl (c (lb hN 106 _ (.func 124 []) tyS104 (At.st1 (f := (.func 124 [])) (by rfl) (by rfl) (At.here _) (by first | rfl | omega)) (q 27)) rfl (c (mv hN (q 1)) rfl (c (mv hN (q 5)) rfl (c (sub6 (L rfl) (q 30) (Opd.int .i64 (1))) rfl (c (OpJ.indexD underlying95 tyS120 (idx_some hx122).1 (get_map e_resource_part_int_ (idx_some hx122).2) (L rfl) (q 29) (q 31)) rfl (c (OpJ.fieldD underlying120 (by rfl) (o := 1) (by rfl) tyS3 (by decide) (by rfl) (by rfl) (L rfl) (q 32)) rfl (c (OpJ.loadD tyS3 (by rfl) (by rfl) (L rfl) (q 33)) rfl (cg (OpJ.callVal (args := [(i6 x122.fto)]) (caps := []) hB fnOk124 [] (resource_numbers_1_ac x122.fto r123 hr123) (by kernel_rfl) (L rfl) (by kernel_rfl) (by kernel_rfl) (OpdL.cons (q 34) OpdL.nil)) rfl (c (mv hN (q 35)) rfl (c (OpJ.extract (by rfl) rfl (L rfl) (q 26)) rfl (c (OpJ.extract (by rfl) rfl (L rfl) (q 26)) rfl (c (OpJ.assign (L rfl) (q 36)) rfl (c (OpJ.assign (L rfl) (q 37)) rfl cn)))))))))))))) (by kernel_rfl) (by kernel_rfl) ?_
      apply AWp.seq
      refine AWp.cut h (fun m131 : Bool => ([(1, (.d (.list 2 (a0.map e_resource_part_int_)))), (2, (pt 1002)), (9, (.d (.list 2 (a0.map e_resource_part_int_)))), (10, (i6 (a0.length : Int))), (11, (i6 s1)), (61, (bo m131))] : EL)) (fun m131 : Bool => ([(1002, some (.box 106 (.st [(.func 77 []), (.func 124 []), (.func 125 [])])))] : OL)) (fun m131 h E' O' hmat => ?_) (fun j132 hjj132 h => ?_)
      ·apply seqQ_n
       refine AWp.ghost hmat ?_
       refine AWp.cond rfl (fun hg133 => ?_) (fun hg133 => ?_)
       ·replace h := ite_t hg133 h
        refine sr (c (OpJ.assign (L rfl) (Opd.bool false)) rfl cn) ?_
        apply AWp.ret
        apply blkQ_r
        apply seqQ_r
        obtain rfl := Option.some.inj h
        exact ⟨(fun hc => by cases hc), rfl, (mp [] _ _ hB)⟩
       ·replace h := ite_f hg133 h
        apply AWp.skip
        apply blkQ_n
        exact hjj117 _ h _ _ (mp [] _ _ hB)
      ·obtain ⟨x134, hx134, h⟩ := bindS h
       obtain ⟨r135, hr135, h⟩ := bindS h
       rcases Bool.eq_false_or_eq_true (decide ((0 : Int) ≤ r135)) with hg136 | hg136
       ·replace h := ite_t hg136 h
        refine dr (c (fo 1002 0 [0] hN underlying106 0 tyS31 (q 2)) rfl (c (lb hN 106 _ (.func 77 []) tyS31 (At.st1 (f := (.func 77 [])) (by rfl) (by rfl) (At.here _) (by first | rfl | omega)) (q 38)) rfl (c (mv hN (q 1)) rfl (c (mv hN (q 5)) rfl (c (sub6 (L rfl) (q 41) (Opd.int .i64 (1))) rfl (c (OpJ.indexD underlying95 tyS120 (idx_some hx134).1 (get_map e_resource_part_int_ (idx_some hx134).2) (L rfl) (q 40) (q 42)) rfl (c (OpJ.fieldD underlying120 (by rfl) (o := 1) (by rfl) tyS3 (by decide) (by rfl) (by rfl) (L rfl) (q 43)) rfl (c (OpJ.loadD tyS3 (by rfl) (by rfl) (L rfl) (q 44)) rfl (c (fo 1006 0 [0] hN underlying120 0 tyS3 (q 6)) rfl (c (la hN 120 tyS3 (q 46)) rfl (cg (OpJ.callVal (args := [(i6 x134.fto), (i6 x118.ffrom)]) (caps := []) hB fnOk77 [] (cmp_Compare_ac x134.fto x118.ffrom r135 hr135) (by kernel_rfl) (L rfl) (by kernel_rfl) (by kernel_rfl) (OpdL.cons (q 45) (OpdL.cons (q 47) OpdL.nil))) rfl (c (OpJ.geq (L rfl) (q 48) (Opd.int .i64 (0))) rfl (c (OpJ.val (v' := .d (.bool true)) (by rw [hg136] <;> rfl) (mv hN (q 49))) rfl (cg (sU 50 (L rfl)) rfl (cg (sU 50 (L rfl)) rfl (cg (sV 52 (L rfl)) rfl (cg (sV 52 (L rfl)) rfl (cg (sV 52 (L rfl)) rfl (cg (sV 52 (L rfl)) rfl (cg (sV 52 (L rfl)) rfl (cg (sV 52 (L rfl)) rfl (cg (sV 52 (L rfl)) rfl (cg (sU 50 (L rfl)) rfl (c (OpJ.pickT (L rfl) (q 50) (Opd.bool true)) rfl cn)))))))))))))))))))))))) (by kernel_rfl) (by kernel_rfl) ?_
        exact hjj132 _ h _ _ (mp [] _ _ hB)
       ·replace h := ite_f hg136 h
        rcases Bool.eq_false_or_eq_true r123.2 with hg137 | hg137
        ·replace h := ite_t hg137 h
         obtain ⟨r138, hr138, h⟩ := bindS h
         refine dr (c (fo 1002 0 [0] hN underlying106 0 tyS31 (q 2)) rfl (c (lb hN 106 _ (.func 77 []) tyS31 (At.st1 (f := (.func 77 [])) (by rfl) (by rfl) (At.here _) (by first | rfl | omega)) (q 38)) rfl (c (mv hN (q 1)) rfl (c (mv hN (q 5)) rfl (c (sub6 (L rfl) (q 41) (Opd.int .i64 (1))) rfl (c (OpJ.indexD underlying95 tyS120 (idx_some hx134).1 (get_map e_resource_part_int_ (idx_some hx134).2) (L rfl) (q 40) (q 42)) rfl (c (OpJ.fieldD underlying120 (by rfl) (o := 1) (by rfl) tyS3 (by decide) (by rfl) (by rfl) (L rfl) (q 43)) rfl (c (OpJ.loadD tyS3 (by rfl) (by rfl) (L rfl) (q 44)) rfl (c (fo 1006 0 [0] hN underlying120 0 tyS3 (q 6)) rfl (c (la hN 120 tyS3 (q 46)) rfl (cg (OpJ.callVal (args := [(i6 x134.fto), (i6 x118.ffrom)]) (caps := []) hB fnOk77 [] (cmp_Compare_ac x134.fto x118.ffrom r135 hr135) (by kernel_rfl) (L rfl) (by kernel_rfl) (by kernel_rfl) (OpdL.cons (q 45) (OpdL.cons (q 47) OpdL.nil))) rfl (c (OpJ.geq (L rfl) (q 48) (Opd.int .i64 (0))) rfl (c (OpJ.val (v' := .d (.bool false)) (by rw [hg136] <;> rfl) (mv hN (q 49))) rfl (c (gd 50 (mv hN (q 8))) rfl (c (gd 50 (OpJ.val (v' := .d (.bool true)) (by rw [hg137] <;> rfl) (mv hN (q 51)))) rfl (c (gd 52 (fo 1002 0 [0] hN underlying106 0 tyS31 (q 2))) rfl (c (gd 52 (lb hN 106 _ (.func 77 []) tyS31 (At.st1 (f := (.func 77 [])) (by rfl) (by rfl) (At.here _) (by first | rfl | omega)) (q 53))) rfl (c (gd 52 (mv hN (q 7))) rfl (c (gd 52 (fo 1006 0 [0] hN underlying120 0 tyS3 (q 6))) rfl (c (gd 52 (la hN 120 tyS3 (q 56))) rfl (cg (gd 52 (OpJ.callVal (args := [(i6 r123.1), (i6 x118.ffrom)]) (caps := []) hB fnOk77 [] (cmp_Compare_ac r123.1 x118.ffrom r138 hr138) (by kernel_rfl) (L rfl) (by kernel_rfl) (by kernel_rfl) (OpdL.cons (q 55) (OpdL.cons (q 57) OpdL.nil)))) rfl (c (gd 52 (OpJ.eqlI (L rfl) (q 58) (Opd.int .i64 (0)))) rfl (c (gd 50 (OpJ.pickT (L rfl) (q 52) (q 59))) rfl (c (OpJ.pickF (L rfl) (q 50) (q 60)) rfl cn)))))))))))))))))))))))) (by kernel_rfl) (by kernel_rfl) ?_
         exact hjj132 _ h _ _ (mp [] _ _ hB)
        ·replace h := ite_f hg137 h
         refine dr (c (fo 1002 0 [0] hN underlying106 0 tyS31 (q 2)) rfl (c (lb hN 106 _ (.func 77 []) tyS31 (At.st1 (f := (.func 77 [])) (by rfl) (by rfl) (At.here _) (by first | rfl | omega)) (q 38)) rfl (c (mv hN (q 1)) rfl (c (mv hN (q 5)) rfl (c (sub6 (L rfl) (q 41) (Opd.int .i64 (1))) rfl (c (OpJ.indexD underlying95 tyS120 (idx_some hx134).1 (get_map e_resource_part_int_ (idx_some hx134).2) (L rfl) (q 40) (q 42)) rfl (c (OpJ.fieldD underlying120 (by rfl) (o := 1) (by rfl) tyS3 (by decide) (by rfl) (by rfl) (L rfl) (q 43)) rfl (c (OpJ.loadD tyS3 (by rfl) (by rfl) (L rfl) (q 44)) rfl (c (fo 1006 0 [0] hN underlying120 0 tyS3 (q 6)) rfl (c (la hN 120 tyS3 (q 46)) rfl (cg (OpJ.callVal (args := [(i6 x134.fto), (i6 x118.ffrom)]) (caps := []) hB fnOk77 [] (cmp_Compare_ac x134.fto x118.ffrom r135 hr135) (by kernel_rfl) (L rfl) (by kernel_rfl) (by kernel_rfl) (OpdL.cons (q 45) (OpdL.cons (q 47) OpdL.nil))) rfl (c (OpJ.geq (L rfl) (q 48) (Opd.int .i64 (0))) rfl (c (OpJ.val (v' := .d (.bool false)) (by rw [hg136] <;> rfl) (mv hN (q 49))) rfl (c (gd 50 (mv hN (q 8))) rfl (c (gd 50 (OpJ.val (v' := .d (.bool false)) (by rw [hg137] <;> rfl) (mv hN (q 51)))) rfl (cg (sU 52 (L rfl)) rfl (cg (sU 52 (L rfl)) rfl (cg (sU 52 (L rfl)) rfl (cg (sU 52 (L rfl)) rfl (cg (sU 52 (L rfl)) rfl (cg (sU 52 (L rfl)) rfl (cg (sU 52 (L rfl)) rfl (c (gd 50 (OpJ.pickF (L rfl) (q 52) (Opd.bool false))) rfl (c (OpJ.pickF (L rfl) (q 50) (q 60)) rfl cn)))))))))))))))))))))))) (by kernel_rfl) (by kernel_rfl) ?_
         exact hjj132 _ h _ _ (mp [] _ _ hB)
  ·replace h := ite_f hg94 h
   apply AWp.exit
   apply seqQ_e
   obtain rfl := Option.some.inj h
   exact ⟨(fun hc => by cases hc), rfl, (mp [] _ _ hB)⟩
 ·rcases x139 with _ | _
  ·obtain ⟨rfl, hmat⟩ := hR
   apply blkQ_r
   apply seqQ_r
   obtain rfl := Option.some.inj h
   exact ⟨.inl rfl, _, _, (Mat.trans hmat (mp [] [(4, (bo false))] [] hB)), [(bo false)], (Res.tmp (by rfl) (by rfl) Res.nil), rfl, by rfl, by rfl, by rfl⟩
  ·obtain ⟨rfl, hmat⟩ := hR
   apply blkQ_hit
   apply seqQ_n
   refine AWp.ghost hmat ?_
   refine sr (c (OpJ.assign (L rfl) (Opd.bool true)) rfl cn) ?_
   apply AWp.ret
   obtain rfl := Option.some.inj h
   exact ⟨.inl rfl, _, _, (kp [(4, _)] [] hB rfl rfl (by rfl)), [(bo true)], (Res.tmp (by rfl) (by rfl) Res.nil), rfl, by rfl, by rfl, by rfl⟩
noncomputable def resource_Valid_L0 (a0 : api_Resources) (s1 : Int) : Option (((Unit) ⊕ (Unit)) ⊕ (Int)) :=
 (if (decide (s1 < (a0.fAddrs.length : Int))) = true then
 (idx a0.fAddrs s1).bind fun x29 =>
 jn (fun m34 : Bool =>
 (if m34 = true then
 some (.inl (.inl ()))
 else
 some (.inr (w64 (s1 + (1 : Int)))))) (fun j35 =>
 (addr_Valid x29.fFrom).bind fun r37 =>
 (if (!r37) = true then
 j35 true
 else
 (addr_Valid x29.fTo).bind fun r39 =>
 j35 ((!r39) || (x29.fFrom.fV6 != x29.fTo.fV6))))
 else
 some (.inl (.inr ())))
noncomputable def resource_Valid (a0 : api_Resources) : Option (Bool) :=
 (loop (resource_Valid_L0 a0) (0 : Int)).bind fun x40 => match x40 with
 | (.inl _) =>
  some false
 | (.inr _) =>
  (slices_ContainsFunc a0.fASNs).bind fun r42 =>
  (if r42 = true then
  some false
  else
  (resource_of a0).bind fun r44 =>
  jn (fun m49 : Bool =>
  some m49) (fun j50 =>
  (if ((decide ((a0.fAddrs.length : Int) ≤ (256 : Int))) && (decide ((a0.fASNs.length : Int) ≤ (256 : Int)))) = true then
  (resource_order_valid r44.faddrs).bind fun r52 =>
  (if r52 = true then
  (resource_order_valid_2 r44.fasns).bind fun r54 =>
  j50 r54
  else
  j50 false)
  else
  j50 false)))
theorem resource_Valid_ac (a0 : api_Resources) (r : Bool) (h : resource_Valid a0 = some r) : AC Tryd.prog 21 [(.d (e_api_Resources a0))] [(500, (.know (globF 0 [82, 122, 123]))), (501, (.know (globF 1 [77, 124, 125])))] (.d (.bool r)) [(500, some (.know (globF 0 [82, 122, 123]))), (501, some (.know (globF 1 [77, 124, 125])))] := by
 refine AC.of_code2 Tryd.func21 rfl rfl (Nat.le_of_ble_eq_true (by rfl)) fun B hB hN => ?_
 have L {d : Nat} (h : Nat.blt d Tryd.f21.ntmps = true) : d < B.N := ltN hN h
 delta resource_Valid at h
 refine sr (cg (OpJ.box hB (nm := 1001) (by decide) (by simp) rfl (L rfl) (q 0)) rfl (c (OpJ.assign (L rfl) (Opd.bool false)) rfl cn)) ?_
 apply AWp.seq
 refine sr (c (fo 1001 0 [0] hN underlying26 0 tyS23 (q 1)) rfl (c (la hN 26 tyS23 (q 6)) rfl (c (OpJ.val (v' := (i6 (a0.fAddrs.length : Int))) (by simp) (OpJ.lenD underlying23 (L rfl) (q 7))) rfl (c (mv hN (Opd.int .i64 (0))) rfl cn)))) ?_
 apply AWp.block
 obtain ⟨x40, hx41, h⟩ := bindS h
 refine lg (resource_Valid_L0 a0) (fun s1 : Int => ([(1, (pt 1001)), (7, (qe_api_Range_6 a0.fAddrs)), (8, (i6 (a0.fAddrs.length : Int))), (9, (i6 s1))] : EL)) (fun s1 : Int => ([(500, some (.know (globF 0 [82, 122, 123]))), (501, some (.know (globF 1 [77, 124, 125]))), (1001, bd 26 (e_api_Resources a0))] : OL)) (fun (x : (Unit) ⊕ (Unit)) e E' O' => match x with | (.inl _p) => e = .ret ∧ Mat B E' O' ([(2, (bo false))] : EL) ([(500, some (.know (globF 0 [82, 122, 123]))), (501, some (.know (globF 1 [77, 124, 125])))] : OL) | (.inr _p) => e = .exit 0 ∧ Mat B E' O' ([(1, (pt 1001))] : EL) ([(500, some (.know (globF 0 [82, 122, 123]))), (501, some (.know (globF 1 [77, 124, 125]))), (1001, bd 26 (e_api_Resources a0))] : OL)) hx41 (mp [] _ _ hB) (fun s1 y h => ?_) (fun e E' O' hR => ?_)
 ·unfold resource_Valid_L0 at h
  refine sr (c (OpJ.lss (L rfl) (q 9) (q 8)) rfl cn) ?_
  apply AWp.seq
  refine AWp.cond rfl (fun hg28 => ?_) (fun hg28 => ?_)
  ·replace h := ite_t hg28 h
   apply AWp.skip
   apply seqQ_n
   apply AWp.seq
   apply AWp.block
   obtain ⟨x29, hx29, h⟩ := bindS h
   refine sr (c (OpJ.indexD underlying23 tyS88 (idx_some hx29).1 (get_map e_api_Range (idx_some hx29).2) (L rfl) (q 7) (q 9)) rfl (c (OpJ.loadD tyS88 (by rfl) (by rfl) (L rfl) (q 11)) rfl (cg (OpJ.alloc hB tyZ88 (nm := 1004) (by decide) (L rfl)) rfl (cg (sB tyS88 (q 4) (q 12)) rfl cn)))) ?_
   apply AWp.seq
   refine AWp.cut h (fun m34 : Bool => ([(1, (pt 1001)), (7, (qe_api_Range_6 a0.fAddrs)), (8, (i6 (a0.fAddrs.length : Int))), (9, (i6 s1)), (31, (bo m34))] : EL)) (fun m34 : Bool => ([(500, some (.know (globF 0 [82, 122, 123]))), (501, some (.know (globF 1 [77, 124, 125]))), (1001, bd 26 (e_api_Resources a0))] : OL)) (fun m34 h E' O' hmat => ?_) (fun j35 hjj35 h => ?_)
   ·apply seqQ_n
    refine AWp.ghost hmat ?_
    refine AWp.cond rfl (fun hg36 => ?_) (fun hg36 => ?_)
    ·replace h := ite_t hg36 h
     refine sr (c (OpJ.assign (L rfl) (Opd.bool false)) rfl cn) ?_
     apply AWp.ret
     apply blkQ_r
     apply seqQ_r
     obtain rfl := Option.some.inj h
     exact ⟨(fun hc => by cases hc), rfl, (mp [] _ _ hB)⟩
    ·replace h := ite_f hg36 h
     apply AWp.skip
     apply blkQ_n
     apply seqQ_n
     refine rg (c (add6 (L rfl) (q 9) (Opd.int .i64 (1))) rfl (c (mv hN (q 32)) rfl cn)) ?_
     obtain rfl := Option.some.inj h
     exact ⟨rfl, (mp [] _ _ hB)⟩
   ·obtain ⟨r37, hr37, h⟩ := bindS h
    rcases Bool.eq_false_or_eq_true (!r37) with hg38 | hg38
    ·replace h := ite_t hg38 h
     refine rg (c (fo 1004 0 [0] hN underlying88 0 tyS42 (q 4)) rfl (c (la hN 88 tyS42 (q 13)) rfl (cg (cf hB fnOk40 (addr_Valid_ac x29.fFrom r37 hr37) (L rfl) (OpdL.cons (q 14) OpdL.nil)) rfl (c (OpJ.not (L rfl) (q 15)) rfl (c (OpJ.val (v' := .d (.bool true)) (by rw [hg38] <;> rfl) (mv hN (q 16))) rfl (cg (sU 17 (L rfl)) rfl (cg (sU 17 (L rfl)) rfl (cg (sU 17 (L rfl)) rfl (cg (sU 17 (L rfl)) rfl (c (OpJ.pickT (L rfl) (q 17) (Opd.bool true)) rfl (c (mv hN (q 22)) rfl (cg (sU 23 (L rfl)) rfl (cg (sU 23 (L rfl)) rfl (cg (sU 23 (L rfl)) rfl (cg (sU 23 (L rfl)) rfl (cg (sU 23 (L rfl)) rfl (cg (sU 23 (L rfl)) rfl (cg (sU 23 (L rfl)) rfl (c (OpJ.pickT (L rfl) (q 23) (Opd.bool true)) rfl cn))))))))))))))))))) ?_
     exact hjj35 _ h _ _ (mp [] _ _ hB)
    ·replace h := ite_f hg38 h
     obtain ⟨r39, hr39, h⟩ := bindS h
     refine rg (c (fo 1004 0 [0] hN underlying88 0 tyS42 (q 4)) rfl (c (la hN 88 tyS42 (q 13)) rfl (cg (cf hB fnOk40 (addr_Valid_ac x29.fFrom r37 hr37) (L rfl) (OpdL.cons (q 14) OpdL.nil)) rfl (c (OpJ.not (L rfl) (q 15)) rfl (c (OpJ.val (v' := .d (.bool false)) (by rw [hg38] <;> rfl) (mv hN (q 16))) rfl (c (gd 17 (fo 1004 3 [1] hN underlying88 3 tyS42 (q 4))) rfl (c (gd 17 (la hN 88 tyS42 (q 18))) rfl (cg (gd 17 (cf hB fnOk40 (addr_Valid_ac x29.fTo r39 hr39) (L rfl) (OpdL.cons (q 19) OpdL.nil))) rfl (c (gd 17 (OpJ.not (L rfl) (q 20))) rfl (c (OpJ.pickF (L rfl) (q 17) (q 21)) rfl (c (mv hN (q 22)) rfl (c (oq hN 23 (fo 1004 0 [0] hN underlying88 0 tyS42 (q 4)) (OptL.keep (by rfl) OptL.nil) (GuardV.plain _)) rfl (c (oq hN 23 (fo 1004 0 [0, 0] hN underlying42 0 tyS4 (q 24)) (OptL.opt OptL.nil) (GuardV.plain _)) rfl (c (oq hN 23 (lb hN 88 _ _ tyS4 (At.dst1 (by rfl) (by rfl) (ad _) (by first | rfl | omega)) (q 25)) (OptL.opt OptL.nil) (GuardV.plain _)) rfl (c (oq hN 23 (fo 1004 3 [1] hN underlying88 3 tyS42 (q 4)) (OptL.keep (by rfl) OptL.nil) (GuardV.plain _)) rfl (c (oq hN 23 (fo 1004 3 [1, 0] hN underlying42 0 tyS4 (q 27)) (OptL.opt OptL.nil) (GuardV.plain _)) rfl (c (oq hN 23 (lb hN 88 _ _ tyS4 (At.dst1 (by rfl) (by rfl) (ad _) (by first | rfl | omega)) (q 28)) (OptL.opt OptL.nil) (GuardV.plain _)) rfl (c (oq hN 23 (OpJ.neqB underlying4 (L rfl) (q 26) (q 29)) (OptL.opt (OptL.opt OptL.nil)) (GuardV.plain _)) rfl (c (OpJ.pickOr rfl (L rfl) (q 23) (q 30)) rfl cn))))))))))))))))))) ?_
     exact hjj35 _ h _ _ (mp [] _ _ hB)
  ·replace h := ite_f hg28 h
   apply AWp.exit
   apply seqQ_e
   obtain rfl := Option.some.inj h
   exact ⟨(fun hc => by cases hc), rfl, (mp [] _ _ hB)⟩
 ·rcases x40 with _ | _
  ·obtain ⟨rfl, hmat⟩ := hR
   apply blkQ_r
   apply seqQ_r
   obtain rfl := Option.some.inj h
   exact ⟨.inl rfl, _, _, (Mat.trans hmat (mp [] [(2, (bo false))] [(500, some (.know (globF 0 [82, 122, 123]))), (501, some (.know (globF 1 [77, 124, 125])))] hB)), [(bo false)], (Res.tmp (by rfl) (by rfl) Res.nil), rfl, by rfl, by rfl, by rfl⟩
  ·obtain ⟨rfl, hmat⟩ := hR
   apply blkQ_hit
   apply seqQ_n
   refine AWp.ghost hmat ?_
   apply AWp.seq
   obtain ⟨r42, hr42, h⟩ := bindS h
   refine sr (c (fo 1001 1 [1] hN underlying26 1 tyS24 (q 1)) rfl (c (la hN 26 tyS24 (q 33)) rfl (cg (cf hB fnOk41 (slices_ContainsFunc_ac a0.fASNs r42 hr42) (L rfl) (OpdL.cons (q 34) (OpdL.cons (Opd.func 42) OpdL.nil))) rfl cn))) ?_
   refine AWp.cond rfl (fun hg43 => ?_) (fun hg43 => ?_)
   ·replace h := ite_t hg43 h
    refine sr (c (OpJ.assign (L rfl) (Opd.bool false)) rfl cn) ?_
    apply AWp.ret
    apply seqQ_r
    obtain rfl := Option.some.inj h
    exact ⟨.inl rfl, _, _, (kp [(2, _)] [(500, some _), (501, some _)] hB rfl rfl (by rfl)), [(bo false)], (Res.tmp (by rfl) (by rfl) Res.nil), rfl, by rfl, by rfl, by rfl⟩
   ·replace h := ite_f hg43 h
    apply AWp.skip
    apply seqQ_n
    obtain ⟨r44, hr44, h⟩ := bindS h
    refine sr (c (lb hN 26 _ _ tyS26 (At.here _) (q 1)) rfl (cg (cf hB fnOk44 (resource_of_ac a0 r44 hr44) (L rfl) (OpdL.cons (q 36) OpdL.nil)) rfl (cg (OpJ.alloc hB tyZ97 (nm := 1005) (by decide) (L rfl)) rfl (cg (sB tyS97 (q 5) (q 37)) rfl cn)))) ?_
    refine gh [(1, _), (5, _)] [(500, some _), (501, some _), (1001, some _), (1005, some _)] hB rfl rfl (by rfl) ?_
    apply AWp.seq
    refine AWp.cut h (fun m49 : Bool => ([(2, (bo m49))] : EL)) (fun m49 : Bool => ([(500, some (.know (globF 0 [82, 122, 123]))), (501, some (.know (globF 1 [77, 124, 125])))] : OL)) (fun m49 h E' O' hmat => ?_) (fun j50 hjj50 h => ?_)
    ·apply seqQ_n
     refine AWp.ghost hmat ?_
     apply AWp.ret
     obtain rfl := Option.some.inj h
     exact ⟨.inl rfl, _, _, (kp [(2, _)] [(500, some _), (501, some _)] hB rfl rfl (by rfl)), [(bo m49)], (Res.tmp (by rfl) (by rfl) Res.nil), rfl, by rfl, by rfl, by rfl⟩
    ·rcases Bool.eq_false_or_eq_true ((decide ((a0.fAddrs.length : Int) ≤ (256 : Int))) && (decide ((a0.fASNs.length : Int) ≤ (256 : Int)))) with hg51 | hg51
     ·replace h := ite_t hg51 h
      obtain ⟨r52, hr52, h⟩ := bindS h
      rcases Bool.eq_false_or_eq_true r52 with hg53 | hg53
      ·replace h := ite_t hg53 h
       obtain ⟨r54, hr54, h⟩ := bindS h
       refine rg (c (fo 1001 0 [0] hN underlying26 0 tyS23 (q 1)) rfl (c (la hN 26 tyS23 (q 38)) rfl (c (OpJ.val (v' := (i6 (a0.fAddrs.length : Int))) (by simp) (OpJ.lenD underlying23 (L rfl) (q 39))) rfl (c (OpJ.leq (L rfl) (q 40) (Opd.int .i64 (256))) rfl (c (mv hN (q 41)) rfl (c (oq hN 42 (fo 1001 1 [1] hN underlying26 1 tyS24 (q 1)) (OptL.keep (by rfl) OptL.nil) (GuardV.plain _)) rfl (c (oq hN 42 (la hN 26 tyS24 (q 43)) (OptL.opt OptL.nil) (GuardV.plain _)) rfl (c (oq hN 42 (OpJ.val (v' := (i6 (a0.fASNs.length : Int))) (by simp) (OpJ.lenD underlying24 (L rfl) (q 44))) (OptL.opt OptL.nil) (GuardV.plain _)) rfl (c (oq hN 42 (OpJ.leq (L rfl) (q 45) (Opd.int .i64 (256))) (OptL.opt OptL.nil) (GuardV.plain _)) rfl (c (OpJ.pickAnd rfl (L rfl) (q 42) (q 46)) rfl (c (OpJ.val (v' := .d (.bool true)) (by rw [hg51] <;> rfl) (mv hN (q 47))) rfl (cg (gd 48 (OpJ.loadG (nm := 500) [82, 122, 123] tyS102 rfl (L rfl))) rfl (c (gd 48 (fo 1005 0 [0] hN underlying97 0 tyS94 (q 5))) rfl (c (gd 48 (la hN 97 tyS94 (q 50))) rfl (cg (gd 48 (cf hB fnOk45 (resource_order_valid_ac r44.faddrs r52 hr52) (L rfl) (OpdL.cons (q 49) (OpdL.cons (q 51) OpdL.nil)))) rfl (c (OpJ.pickT (L rfl) (q 48) (q 52)) rfl (c (OpJ.val (v' := .d (.bool true)) (by rw [hg53] <;> rfl) (mv hN (q 53))) rfl (cg (gd 54 (OpJ.loadG (nm := 501) [77, 124, 125] tyS106 rfl (L rfl))) rfl (c (gd 54 (fo 1005 1 [1] hN underlying97 1 tyS95 (q 5))) rfl (c (gd 54 (la hN 97 tyS95 (q 56))) rfl (cg (gd 54 (cf hB fnOk46 (resource_order_valid_2_ac r44.fasns r54 hr54) (L rfl) (OpdL.cons (q 55) (OpdL.cons (q 57) OpdL.nil)))) rfl (c (OpJ.pickT (L rfl) (q 54) (q 58)) rfl (c (OpJ.assign (L rfl) (q 59)) rfl cn))))))))))))))))))))))) ?_
       exact hjj50 _ h _ _ (mp [] _ _ hB)
      ·replace h := ite_f hg53 h
       refine rg (c (fo 1001 0 [0] hN underlying26 0 tyS23 (q 1)) rfl (c (la hN 26 tyS23 (q 38)) rfl (c (OpJ.val (v' := (i6 (a0.fAddrs.length : Int))) (by simp) (OpJ.lenD underlying23 (L rfl) (q 39))) rfl (c (OpJ.leq (L rfl) (q 40) (Opd.int .i64 (256))) rfl (c (mv hN (q 41)) rfl (c (oq hN 42 (fo 1001 1 [1] hN underlying26 1 tyS24 (q 1)) (OptL.keep (by rfl) OptL.nil) (GuardV.plain _)) rfl (c (oq hN 42 (la hN 26 tyS24 (q 43)) (OptL.opt OptL.nil) (GuardV.plain _)) rfl (c (oq hN 42 (OpJ.val (v' := (i6 (a0.fASNs.length : Int))) (by simp) (OpJ.lenD underlying24 (L rfl) (q 44))) (OptL.opt OptL.nil) (GuardV.plain _)) rfl (c (oq hN 42 (OpJ.leq (L rfl) (q 45) (Opd.int .i64 (256))) (OptL.opt OptL.nil) (GuardV.plain _)) rfl (c (OpJ.pickAnd rfl (L rfl) (q 42) (q 46)) rfl (c (OpJ.val (v' := .d (.bool true)) (by rw [hg51] <;> rfl) (mv hN (q 47))) rfl (cg (gd 48 (OpJ.loadG (nm := 500) [82, 122, 123] tyS102 rfl (L rfl))) rfl (c (gd 48 (fo 1005 0 [0] hN underlying97 0 tyS94 (q 5))) rfl (c (gd 48 (la hN 97 tyS94 (q 50))) rfl (cg (gd 48 (cf hB fnOk45 (resource_order_valid_ac r44.faddrs r52 hr52) (L rfl) (OpdL.cons (q 49) (OpdL.cons (q 51) OpdL.nil)))) rfl (c (OpJ.pickT (L rfl) (q 48) (q 52)) rfl (c (OpJ.val (v' := .d (.bool false)) (by rw [hg53] <;> rfl) (mv hN (q 53))) rfl (cg (sU 54 (L rfl)) rfl (cg (sU 54 (L rfl)) rfl (cg (sU 54 (L rfl)) rfl (cg (sU 54 (L rfl)) rfl (c (OpJ.pickF (L rfl) (q 54) (Opd.bool false)) rfl (c (OpJ.assign (L rfl) (q 59)) rfl cn))))))))))))))))))))))) ?_
       exact hjj50 _ h _ _ (mp [] _ _ hB)
     ·replace h := ite_f hg51 h
      refine rg (c (fo 1001 0 [0] hN underlying26 0 tyS23 (q 1)) rfl (c (la hN 26 tyS23 (q 38)) rfl (c (OpJ.val (v' := (i6 (a0.fAddrs.length : Int))) (by simp) (OpJ.lenD underlying23 (L rfl) (q 39))) rfl (c (OpJ.leq (L rfl) (q 40) (Opd.int .i64 (256))) rfl (c (mv hN (q 41)) rfl (c (oq hN 42 (fo 1001 1 [1] hN underlying26 1 tyS24 (q 1)) (OptL.keep (by rfl) OptL.nil) (GuardV.plain _)) rfl (c (oq hN 42 (la hN 26 tyS24 (q 43)) (OptL.opt OptL.nil) (GuardV.plain _)) rfl (c (oq hN 42 (OpJ.val (v' := (i6 (a0.fASNs.length : Int))) (by simp) (OpJ.lenD underlying24 (L rfl) (q 44))) (OptL.opt OptL.nil) (GuardV.plain _)) rfl (c (oq hN 42 (OpJ.leq (L rfl) (q 45) (Opd.int .i64 (256))) (OptL.opt OptL.nil) (GuardV.plain _)) rfl (c (OpJ.pickAnd rfl (L rfl) (q 42) (q 46)) rfl (c (OpJ.val (v' := .d (.bool false)) (by rw [hg51] <;> rfl) (mv hN (q 47))) rfl (cg (sU 48 (L rfl)) rfl (cg (sU 48 (L rfl)) rfl (cg (sU 48 (L rfl)) rfl (cg (sU 48 (L rfl)) rfl (c (OpJ.pickF (L rfl) (q 48) (Opd.bool false)) rfl (c (mv hN (q 53)) rfl (cg (sU 54 (L rfl)) rfl (cg (sU 54 (L rfl)) rfl (cg (sU 54 (L rfl)) rfl (cg (sU 54 (L rfl)) rfl (c (OpJ.pickF (L rfl) (q 54) (Opd.bool false)) rfl (c (OpJ.assign (L rfl) (q 59)) rfl cn))))))))))))))))))))))) ?_
      exact hjj50 _ h _ _ (mp [] _ _ hB)
noncomputable def slices_Index_L0 (a0 : (List Int)) (a1 : Int) (s1 : Int) : Option (((Int) ⊕ (Unit)) ⊕ (Int)) :=
 (if (decide (s1 < (a0.length : Int))) = true then
 (idx a0 s1).bind fun x11 =>
 (if (a1 == x11) = true then
 some (.inl (.inl s1))
 else
 some (.inr (w64 (s1 + (1 : Int)))))
 else
 some (.inl (.inr ())))
noncomputable def slices_Index (a0 : (List Int)) (a1 : Int) : Option (Int) :=
 (loop (slices_Index_L0 a0 a1) (0 : Int)).bind fun x13 => match x13 with
 | (.inl p8) =>
  some p8
 | (.inr _) =>
  some (-1 : Int)
theorem slices_Index_ac (a0 : (List Int)) (a1 : Int) (r : Int) (h : slices_Index a0 a1 = some r) : AC Tryd.prog 47 [(.d (.list 1 (a0.map (eI .i64)))), (.d (.int .i64 a1))] [] (.d (.int .i64 r)) [] := by
 refine AC.of_code2 Tryd.func47 rfl rfl (Nat.le_of_ble_eq_true (by rfl)) fun B hB hN => ?_
 delta slices_Index at h
 refine sr (c (OpJ.assign (ltN hN rfl) (Opd.int .i64 (0))) rfl cn) ?_
 apply AWp.seq
 refine sr (c (mv hN (q 0)) rfl (c (OpJ.val (v' := (i6 (a0.length : Int))) (by simp) (OpJ.lenD underlying22 (ltN hN rfl) (q 6))) rfl (c (mv hN (Opd.int .i64 (0))) rfl cn))) ?_
 apply AWp.block
 obtain ⟨x13, hx14, h⟩ := bindS h
 refine lg (slices_Index_L0 a0 a1) (fun s1 : Int => ([(0, (qI_1 a0)), (1, (i6 a1)), (7, (i6 (a0.length : Int))), (8, (i6 s1))] : EL)) (fun s1 : Int => ([] : OL)) (fun (x : (Int) ⊕ (Unit)) e E' O' => match x with | (.inl p8) => e = .ret ∧ Mat B E' O' ([(4, (i6 p8))] : EL) ([] : OL) | (.inr _p) => e = .exit 0 ∧ Mat B E' O' ([] : EL) ([] : OL)) hx14 (mp [] _ _ hB) (fun s1 y h => ?_) (fun e E' O' hR => ?_)
 ·unfold slices_Index_L0 at h
  refine sr (c (OpJ.lss (ltN hN rfl) (q 8) (q 7)) rfl cn) ?_
  apply AWp.seq
  refine AWp.cond rfl (fun hg10 => ?_) (fun hg10 => ?_)
  ·replace h := ite_t hg10 h
   apply AWp.skip
   apply seqQ_n
   apply AWp.seq
   apply AWp.block
   refine sr (c (mv hN (q 8)) rfl (c (OpJ.assign (ltN hN rfl) (q 10)) rfl cn)) ?_
   obtain ⟨x11, hx11, h⟩ := bindS h
   refine sr (c (mv hN (q 1)) rfl (c (mv hN (q 0)) rfl (c (mv hN (q 5)) rfl (c (OpJ.indexD underlying22 tyS3 (idx_some hx11).1 (get_map (eI .i64) (idx_some hx11).2) (ltN hN rfl) (q 12) (q 13)) rfl (c (OpJ.loadD tyS3 (by rfl) (by rfl) (ltN hN rfl) (q 14)) rfl (c (OpJ.eqlI (ltN hN rfl) (q 11) (q 15)) rfl cn)))))) ?_
   refine AWp.cond rfl (fun hg12 => ?_) (fun hg12 => ?_)
   ·replace h := ite_t hg12 h
    refine sr (c (mv hN (q 5)) rfl (c (OpJ.assign (ltN hN rfl) (q 17)) rfl cn)) ?_
    apply AWp.ret
    apply blkQ_r
    apply seqQ_r
    obtain rfl := Option.some.inj h
    exact ⟨(fun hc => by cases hc), rfl, (mp [] _ _ hB)⟩
   ·replace h := ite_f hg12 h
    apply AWp.skip
    apply blkQ_n
    apply seqQ_n
    refine rg (c (add6 (ltN hN rfl) (q 8) (Opd.int .i64 (1))) rfl (c (mv hN (q 18)) rfl cn)) ?_
    obtain rfl := Option.some.inj h
    exact ⟨rfl, (mp [] _ _ hB)⟩
  ·replace h := ite_f hg10 h
   apply AWp.exit
   apply seqQ_e
   obtain rfl := Option.some.inj h
   exact ⟨(fun hc => by cases hc), rfl, (mp [] _ _ hB)⟩
 ·rcases x13 with p8 | _
  ·obtain ⟨rfl, hmat⟩ := hR
   apply blkQ_r
   apply seqQ_r
   obtain rfl := Option.some.inj h
   exact ⟨.inl rfl, _, _, (Mat.trans hmat (mp [] [(4, (i6 p8))] [] hB)), [(i6 p8)], (Res.tmp (by rfl) (by rfl) Res.nil), rfl, by rfl, by rfl, by rfl⟩
  ·obtain ⟨rfl, hmat⟩ := hR
   apply blkQ_hit
   apply seqQ_n
   refine AWp.ghost hmat ?_
   refine sr (c (OpJ.assign (ltN hN rfl) (Opd.int .i64 (-1))) rfl cn) ?_
   apply AWp.ret
   obtain rfl := Option.some.inj h
   exact ⟨.inl rfl, _, _, (kp [(4, _)] [] hB rfl rfl (by rfl)), [(i6 (-1 : Int))], (Res.tmp (by rfl) (by rfl) Res.nil), rfl, by rfl, by rfl, by rfl⟩
noncomputable def slices_Contains (a0 : (List Int)) (a1 : Int) : Option (Bool) :=
 (slices_Index a0 a1).bind fun r1 =>
 some (decide ((0 : Int) ≤ r1))
theorem slices_Contains_ac (a0 : (List Int)) (a1 : Int) (r : Bool) (h : slices_Contains a0 a1 = some r) : AC Tryd.prog 22 [(.d (.list 1 (a0.map (eI .i64)))), (.d (.int .i64 a1))] [] (.d (.bool r)) [] := by
 refine AC.of_code2 Tryd.func22 rfl rfl (Nat.le_of_ble_eq_true (by rfl)) fun B hB hN => ?_
 delta slices_Contains at h
 refine sr (c (OpJ.assign (ltN hN rfl) (Opd.bool false)) rfl cn) ?_
 obtain ⟨r1, hr1, h⟩ := bindS h
 refine sr (c (mv hN (q 0)) rfl (c (mv hN (q 1)) rfl (cg (OpJ.callFn hB fnOk47 (slices_Index_ac a0 a1 r1 hr1) [] (by kernel_rfl) (ltN hN rfl) (by kernel_rfl) (OpdL.cons (q 5) (OpdL.cons (q 6) OpdL.nil))) rfl (c (OpJ.geq (ltN hN rfl) (q 7) (Opd.int .i64 (0))) rfl (c (OpJ.assign (ltN hN rfl) (q 8)) rfl cn))))) ?_
 apply AWp.ret
 obtain rfl := Option.some.inj h
 exact ⟨.inl rfl, _, _, (kp [(4, _)] [] hB rfl rfl (by rfl)), [(bo (decide ((0 : Int) ≤ r1)))], (Res.tmp (by rfl) (by rfl) Res.nil), rfl, by rfl, by rfl, by rfl⟩
noncomputable def ext23_slices_Clone_S (a0 : (List Bool)) : Option (List Bool) := chk (decide (a0.length ≤ LIM)) <|
 some a0
theorem ext23_slices_Clone_S_ac (a0 : (List Bool)) (r : List Bool) (h : ext23_slices_Clone_S a0 = some r) : AC Tryd.prog 23 [(.sref 0 1 0 a0.length)] [(0, (.row 4 1 (a0.map eB)))] (.sref 900000 1 0 r.length) [(0, some (.row 4 1 (a0.map eB))), (900000, some (.row 4 1 (r.map eB)))] := by
 obtain ⟨hc, h⟩ := chk_some h
 obtain rfl := Option.some.inj h
 exact AC.cloneS cloneOk23 (by simp) (by rw [List.length_map]; exact lim_mulN hc (by decide))
noncomputable def resource_before (a0 : api_Addr) : Option (api_Addr × Bool) :=
 (if ((a0.fHi == (0 : Int)) && (a0.fLo == (0 : Int))) = true then
 some ((api_Addr.mk false (0 : Int) (0 : Int)), false)
 else
 jn (fun m3 : api_Addr =>
 some ((api_Addr.mk m3.fV6 m3.fHi (IntKind.u64.wrap (m3.fLo - (1 : Int)))), true)) (fun j4 =>
 (if (a0.fLo == (0 : Int)) = true then
 j4 (api_Addr.mk a0.fV6 (IntKind.u64.wrap (a0.fHi - (1 : Int))) a0.fLo)
 else
 j4 a0)))
theorem resource_before_ac (a0 : api_Addr) (r : api_Addr × Bool) (h : resource_before a0 = some r) : AC Tryd.prog 123 [(.d (e_api_Addr a0))] [] (.tup [(.d (e_api_Addr r.1)), (.d (.bool r.2))]) [] := by
 refine AC.of_code2 Tryd.func123 rfl rfl (Nat.le_of_ble_eq_true (by rfl)) fun B hB hN => ?_
 delta resource_before at h
 refine sr (cg (OpJ.box hB (nm := 1001) (by decide) (by simp) rfl (ltN hN rfl) (q 0)) rfl (cg (OpJ.alloc hB tyZ42 (nm := 1002) (by decide) (ltN hN rfl)) rfl (c (OpJ.assign (ltN hN rfl) (Opd.bool false)) rfl cn))) ?_
 apply AWp.seq
 refine sr (c (fo 1001 1 [1] hN underlying42 1 tyS40 (q 1)) rfl (c (la hN 42 tyS40 (q 4)) rfl (c (OpJ.eqlI (ltN hN rfl) (q 5) (Opd.int .u64 (0))) rfl (c (mv hN (q 6)) rfl (c (oq hN 7 (fo 1001 2 [2] hN underlying42 2 tyS40 (q 1)) (OptL.keep (by rfl) OptL.nil) (GuardV.plain _)) rfl (c (oq hN 7 (la hN 42 tyS40 (q 8)) (OptL.opt OptL.nil) (GuardV.plain _)) rfl (c (oq hN 7 (OpJ.eqlI (ltN hN rfl) (q 9) (Opd.int .u64 (0))) (OptL.opt OptL.nil) (GuardV.plain _)) rfl (c (OpJ.pickAnd rfl (ltN hN rfl) (q 7) (q 10)) rfl cn)))))))) ?_
 refine AWp.cond rfl (fun hg1 => ?_) (fun hg1 => ?_)
 ·replace h := ite_t hg1 h
  refine sr (c (OpJ.coe (v := (.st [(bo false), (.d (.int .u64 0)), (.d (.int .u64 0))])) (y := (.st [(.bool false), (.int .u64 0), (.int .u64 0)])) (Co.st (CoL.cons (Co.d _) (CoL.cons (Co.d _) (CoL.cons (Co.d _) CoL.nil)))) rfl (OpJ.build (places := [(0, 1), (1, 1), (2, 1)]) ⟨underlying42, fun w => by kernel_rfl⟩ tyZS42 Opds.nil (by kernel_rfl) (r := (.st [(bo false), (.d (.int .u64 0)), (.d (.int .u64 0))])) (by rfl) (ltN hN rfl))) rfl (cg (sB tyS42 (q 2) (q 12)) rfl (c (OpJ.assign (ltN hN rfl) (Opd.bool false)) rfl cn))) ?_
  apply AWp.ret
  apply seqQ_r
  obtain rfl := Option.some.inj h
  exact ⟨.inl rfl, _, _, (kp [(2, _), (3, _)] [(1002, some _)] hB rfl rfl (by rfl)), [(.d (.st [(.bool false), (.int .u64 0), (.int .u64 0)])), (bo false)], (Res.cell (c := (.d (.st [(.bool false), (.int .u64 0), (.int .u64 0)]))) (by rfl) (by rfl) tyS42 (by rfl) (by rfl) (by rfl) (Res.tmp (by rfl) (by rfl) Res.nil)), rfl, by rfl, by rfl, by rfl⟩
 ·replace h := ite_f hg1 h
  apply AWp.skip
  apply seqQ_n
  apply AWp.seq
  refine sr (c (fo 1001 2 [2] hN underlying42 2 tyS40 (q 1)) rfl (c (la hN 42 tyS40 (q 13)) rfl (c (OpJ.eqlI (ltN hN rfl) (q 14) (Opd.int .u64 (0))) rfl cn))) ?_
  refine gh [(1, _), (2, _), (15, _)] [(1001, some _), (1002, some _)] hB rfl rfl (by rfl) ?_
  refine AWp.cut h (fun m3 : api_Addr => ([(1, (pt 1001)), (2, (pt 1002))] : EL)) (fun m3 : api_Addr => ([(1001, bd 42 (e_api_Addr m3)), (1002, bd 42 (.st [(.bool false), (.int .u64 0), (.int .u64 0)]))] : OL)) (fun m3 h E' O' hmat => ?_) (fun j4 hjj4 h => ?_)
  ·apply seqQ_n
   refine AWp.ghost hmat ?_
   refine sr (c (fo 1001 2 [2] hN underlying42 2 tyS40 (q 1)) rfl (c (la hN 42 tyS40 (q 20)) rfl (c (OpJ.sub (ltN hN rfl) (q 21) (Opd.int .u64 (1))) rfl (c (fo 1001 2 [2] hN underlying42 2 tyS40 (q 1)) rfl (cg (OpJ.storeB tyS40 (SetAt.dst1 (by rfl) (by rfl) (SetAt.here _ _) (by rfl) (by rfl) (by first | rfl | omega)) (by rfl) (by rfl) (by simp) rfl (q 23) (q 22)) rfl cn))))) ?_
   refine sr (c (lb hN 42 _ _ tyS42 (At.here _) (q 1)) rfl (cg (sB tyS42 (q 2) (q 24)) rfl (c (OpJ.assign (ltN hN rfl) (Opd.bool true)) rfl cn))) ?_
   apply AWp.ret
   obtain rfl := Option.some.inj h
   exact ⟨.inl rfl, _, _, (kp [(2, _), (3, _)] [(1002, some _)] hB rfl rfl (by rfl)), [(.d (.st [(.bool m3.fV6), (.int .u64 m3.fHi), (.int .u64 (IntKind.u64.wrap (m3.fLo - (1 : Int))))])), (bo true)], (Res.cell (c := (.d (.st [(.bool m3.fV6), (.int .u64 m3.fHi), (.int .u64 (IntKind.u64.wrap (m3.fLo - (1 : Int))))]))) (by rfl) (by rfl) tyS42 (by rfl) (by rfl) (by rfl) (Res.tmp (by rfl) (by rfl) Res.nil)), rfl, by rfl, by rfl, by rfl⟩
  ·refine AWp.cond rfl (fun hg5 => ?_) (fun hg5 => ?_)
   ·replace h := ite_t hg5 h
    refine rg (c (fo 1001 1 [1] hN underlying42 1 tyS40 (q 1)) rfl (c (la hN 42 tyS40 (q 16)) rfl (c (OpJ.sub (ltN hN rfl) (q 17) (Opd.int .u64 (1))) rfl (c (fo 1001 1 [1] hN underlying42 1 tyS40 (q 1)) rfl (cg (OpJ.storeB tyS40 (SetAt.dst1 (by rfl) (by rfl) (SetAt.here _ _) (by rfl) (by rfl) (by first | rfl | omega)) (by rfl) (by rfl) (by simp) rfl (q 19) (q 18)) rfl cn))))) ?_
    exact hjj4 _ h _ _ (mp [] _ _ hB)
   ·replace h := ite_f hg5 h
    apply AWp.skip
    exact hjj4 _ h _ _ (mp [] _ _ hB)
noncomputable def resource_order_minus_L1 (a1 : (List api_Addr_)) (s433 : Int × api_Addr_ × (List api_Addr_)) : Option (((Bool × api_Addr_ × (List api_Addr_))) ⊕ (Int × api_Addr_ × (List api_Addr_))) :=
 (if (decide (s433.1 < (a1.length : Int))) = true then
 jn (fun m602 : api_Addr_ × (List api_Addr_) =>
 some (.inr ((w64 (s433.1 + (1 : Int))), m602.1, m602.2))) (fun j603 =>
 (idx a1 s433.1).bind fun x604 =>
 jn (fun m609 : Bool =>
 (if m609 = true then
 j603 (s433.2.1, s433.2.2)
 else
 (resource_before x604.ffrom).bind fun r612 =>
 jn (fun m615 : Bool =>
 jn (fun m619 : (List api_Addr_) =>
 (addr_Next x604.fto).bind fun r621 =>
 jn (fun m624 : Bool =>
 (if m624 = true then
 some (.inl (false, s433.2.1, m619))
 else
 j603 ((api_Addr_.mk r621.1 s433.2.1.fto), m619))) (fun j625 =>
 (if (!r621.2) = true then
 j625 true
 else
 (addr_Cmp r621.1 s433.2.1.fto).bind fun r628 =>
 j625 (decide ((0 : Int) < r628))))) (fun j620 =>
 (if m615 = true then
 chk (decide ((s433.2.2 ++ ([(api_Addr_.mk s433.2.1.ffrom r612.1)] : List api_Addr_)).length ≤ LIM)) <|
 j620 (s433.2.2 ++ ([(api_Addr_.mk s433.2.1.ffrom r612.1)] : List api_Addr_))
 else
 j620 s433.2.2))) (fun j616 =>
 (if r612.2 = true then
 (addr_Cmp s433.2.1.ffrom r612.1).bind fun r632 =>
 j616 (decide (r632 ≤ (0 : Int)))
 else
 j616 false)))) (fun j610 =>
 (addr_Cmp x604.fto s433.2.1.ffrom).bind fun r633 =>
 (if (decide (r633 < (0 : Int))) = true then
 j610 true
 else
 (addr_Cmp x604.ffrom s433.2.1.fto).bind fun r635 =>
 j610 (decide ((0 : Int) < r635)))))
 else
 some (.inl (true, s433.2.1, s433.2.2)))
noncomputable def resource_order_minus_L0 (a0 : (List api_Addr_)) (a1 : (List api_Addr_)) (s1 : Int × (List api_Addr_)) : Option ((((List api_Addr_))) ⊕ (Int × (List api_Addr_))) :=
 (if (decide (s1.1 < (a0.length : Int))) = true then
 (idx a0 s1.1).bind fun x432 =>
 (loop (resource_order_minus_L1 a1) ((0 : Int), x432, s1.2)).bind fun p568 =>
 jn (fun m640 : (List api_Addr_) =>
 some (.inr ((w64 (s1.1 + (1 : Int))), m640))) (fun j641 =>
 (if p568.1 = true then
 chk (decide ((p568.2.2 ++ ([p568.2.1] : List api_Addr_)).length ≤ LIM)) <|
 j641 (p568.2.2 ++ ([p568.2.1] : List api_Addr_))
 else
 j641 p568.2.2))
 else
 some (.inl s1.2))
noncomputable def resource_order_minus (a0 : (List api_Addr_)) (a1 : (List api_Addr_)) : Option ((List api_Addr_)) :=
 (loop (resource_order_minus_L0 a0 a1) ((0 : Int), ([] : List api_Addr_))).bind fun p430 =>
 some p430
theorem resource_order_minus_ac (a0 : (List api_Addr_)) (a1 : (List api_Addr_)) (r : (List api_Addr_)) (h : resource_order_minus a0 a1 = some r) : AC Tryd.prog 65 [(.st [(.func 82 []), (.func 122 []), (.func 123 [])]), (.d (.list 6 (a0.map e_api_Addr_))), (.d (.list 6 (a1.map e_api_Addr_)))] [] (.d (.list 6 (r.map e_api_Addr_))) [] := by
 refine AC.of_code2 Tryd.func65 rfl rfl (Nat.le_of_ble_eq_true (by rfl)) fun B hB hN => ?_
 have L {d : Nat} (h : Nat.blt d Tryd.f65.ntmps = true) : d < B.N := ltN hN h
 delta resource_order_minus at h
 refine sr (cg (OpJ.box hB (nm := 1003) (by decide) (by simp) rfl (L rfl) (q 0)) rfl (c (OpJ.assign (L rfl) Opd.nils) rfl cn)) ?_
 refine sr (c (OpJ.assign (L rfl) Opd.nils) rfl cn) ?_
 apply AWp.seq
 refine sr (c (mv hN (q 1)) rfl (c (OpJ.val (v' := (i6 (a0.length : Int))) (by simp) (OpJ.lenD underlying94 (L rfl) (q 17))) rfl (c (mv hN (Opd.int .i64 (0))) rfl cn))) ?_
 apply AWp.block
 obtain ⟨p430, hx645, h⟩ := bindS h
 refine lg (resource_order_minus_L0 a0 a1) (fun s1 : Int × (List api_Addr_) => ([(2, (qe_api_Addr__6 a1)), (3, (pt 1003)), (7, (.sref 3007 6 0 s1.2.length)), (17, (qe_api_Addr__6 a0)), (18, (i6 (a0.length : Int))), (19, (i6 s1.1))] : EL)) (fun s1 : Int × (List api_Addr_) => ([(1003, some (.box 102 (.st [(.func 82 []), (.func 122 []), (.func 123 [])]))), (3007, some (we_api_Addr__118_6 s1.2))] : OL)) (fun (p430 : ((List api_Addr_))) e E' O' => e = .exit 0 ∧ Mat B E' O' ([(7, (.sref 3007 6 0 p430.length))] : EL) ([(3007, some (we_api_Addr__118_6 p430))] : OL)) hx645 (Mat.trans (Mat.beginP (n := 3007) (e := 118) (sz := 6) (Ts := [(7, (.sref 3007 6 0 0))]) (Bs := []) hB (by decide) (by rfl) (by decide) (TwT.cons (x := .nils) (by rfl) (Tw.leaf ⟨rfl, rfl⟩) TwT.nil) TwB.nil) (mp [] _ _ hB)) (fun s1 y h => ?_) (fun e E' O' hR => ?_)
 ·unfold resource_order_minus_L0 at h
  refine sr (c (OpJ.lss (L rfl) (q 19) (q 18)) rfl cn) ?_
  apply AWp.seq
  refine AWp.cond rfl (fun hg431 => ?_) (fun hg431 => ?_)
  ·replace h := ite_t hg431 h
   apply AWp.skip
   apply seqQ_n
   apply AWp.seq
   apply AWp.block
   obtain ⟨x432, hx432, h⟩ := bindS h
   refine sr (c (OpJ.indexD underlying94 tyS118 (idx_some hx432).1 (get_map e_api_Addr_ (idx_some hx432).2) (L rfl) (q 17) (q 19)) rfl (c (OpJ.loadD tyS118 (by rfl) (by rfl) (L rfl) (q 21)) rfl (cg (OpJ.alloc hB tyZ118 (nm := 1009) (by decide) (L rfl)) rfl (cg (sB tyS118 (q 9) (q 22)) rfl cn)))) ?_
   refine sr (c (OpJ.assign (L rfl) (Opd.bool true)) rfl cn) ?_
   apply AWp.seq
   refine sr (c (mv hN (q 2)) rfl (c (OpJ.val (v' := (i6 (a1.length : Int))) (by simp) (OpJ.lenD underlying94 (L rfl) (q 23))) rfl (c (mv hN (Opd.int .i64 (0))) rfl cn))) ?_
   apply AWp.block
   obtain ⟨p568, hx637, h⟩ := bindS h
   refine lg (resource_order_minus_L1 a1) (fun s433 : Int × api_Addr_ × (List api_Addr_) => ([(2, (qe_api_Addr__6 a1)), (3, (pt 1003)), (7, (.sref 3007 6 0 s433.2.2.length)), (9, (pt 1009)), (10, (bo true)), (17, (qe_api_Addr__6 a0)), (18, (i6 (a0.length : Int))), (19, (i6 s1.1)), (23, (qe_api_Addr__6 a1)), (24, (i6 (a1.length : Int))), (25, (i6 s433.1))] : EL)) (fun s433 : Int × api_Addr_ × (List api_Addr_) => ([(1003, some (.box 102 (.st [(.func 82 []), (.func 122 []), (.func 123 [])]))), (1009, bd 118 (e_api_Addr_ s433.2.1)), (3007, some (we_api_Addr__118_6 s433.2.2))] : OL)) (fun (p568 : (Bool × api_Addr_ × (List api_Addr_))) e E' O' => e = .exit 2 ∧ Mat B E' O' ([(2, (qe_api_Addr__6 a1)), (3, (pt 1003)), (7, (.sref 3007 6 0 p568.2.2.length)), (9, (pt 1009)), (10, (bo p568.1)), (17, (qe_api_Addr__6 a0)), (18, (i6 (a0.length : Int))), (19, (i6 s1.1))] : EL) ([(1003, some (.box 102 (.st [(.func 82 []), (.func 122 []), (.func 123 [])]))), (1009, bd 118 (e_api_Addr_ p568.2.1)), (3007, some (we_api_Addr__118_6 p568.2.2))] : OL)) hx637 (mp [] _ _ hB) (fun s433 y h => ?_) (fun e E' O' hR => ?_)
   ·unfold resource_order_minus_L1 at h
    refine sr (c (OpJ.lss (L rfl) (q 25) (q 24)) rfl cn) ?_
    apply AWp.seq
    refine AWp.cond rfl (fun hg569 => ?_) (fun hg569 => ?_)
    ·replace h := ite_t hg569 h
     apply AWp.skip
     apply seqQ_n
     apply AWp.seq
     refine AWp.cut h (fun m602 : api_Addr_ × (List api_Addr_) => ([(2, (qe_api_Addr__6 a1)), (3, (pt 1003)), (7, (.sref 3007 6 0 m602.2.length)), (9, (pt 1009)), (10, (bo true)), (17, (qe_api_Addr__6 a0)), (18, (i6 (a0.length : Int))), (19, (i6 s1.1)), (23, (qe_api_Addr__6 a1)), (24, (i6 (a1.length : Int))), (25, (i6 s433.1))] : EL)) (fun m602 : api_Addr_ × (List api_Addr_) => ([(1003, some (.box 102 (.st [(.func 82 []), (.func 122 []), (.func 123 [])]))), (1009, bd 118 (e_api_Addr_ m602.1)), (3007, some (we_api_Addr__118_6 m602.2))] : OL)) (fun m602 h E' O' hmat => ?_) (fun j603 hjj603 h => ?_)
     ·apply seqQ_n
      refine AWp.ghost hmat ?_
      refine rg (c (add6 (L rfl) (q 25) (Opd.int .i64 (1))) rfl (c (mv hN (q 93)) rfl cn)) ?_
      obtain rfl := Option.some.inj h
      exact ⟨rfl, (mp [] _ _ hB)⟩
     ·apply AWp.block
      obtain ⟨x604, hx604, h⟩ := bindS h
      refine sr (c (OpJ.indexD underlying94 tyS118 (idx_some hx604).1 (get_map e_api_Addr_ (idx_some hx604).2) (L rfl) (q 23) (q 25)) rfl (c (OpJ.loadD tyS118 (by rfl) (by rfl) (L rfl) (q 27)) rfl (cg (OpJ.alloc hB tyZ118 (nm := 1012) (by decide) (L rfl)) rfl (cg (sB tyS118 (q 12) (q 28)) rfl cn)))) ?_
      apply AWp.seq
      apply AWp.seq
      refine AWp.cut h (fun m609 : Bool => ([(2, (qe_api_Addr__6 a1)), (3, (pt 1003)), (7, (.sref 3007 6 0 s433.2.2.length)), (9, (pt 1009)), (10, (bo true)), (12, (pt 1012)), (17, (qe_api_Addr__6 a0)), (18, (i6 (a0.length : Int))), (19, (i6 s1.1)), (23, (qe_api_Addr__6 a1)), (24, (i6 (a1.length : Int))), (25, (i6 s433.1)), (46, (bo m609))] : EL)) (fun m609 : Bool => ([(1003, some (.box 102 (.st [(.func 82 []), (.func 122 []), (.func 123 [])]))), (1009, bd 118 (e_api_Addr_ s433.2.1)), (1012, bd 118 (e_api_Addr_ x604)), (3007, some (we_api_Addr__118_6 s433.2.2))] : OL)) (fun m609 h E' O' hmat => ?_) (fun j610 hjj610 h => ?_)
      ·apply seqQ_n
       refine AWp.ghost hmat ?_
       refine AWp.cond rfl (fun hg611 => ?_) (fun hg611 => ?_)
       ·replace h := ite_t hg611 h
        apply AWp.exit
        apply seqQ_e
        apply blkQ_hit
        exact hjj603 _ h _ _ (mp [] _ _ hB)
       ·replace h := ite_f hg611 h
        apply AWp.skip
        apply seqQ_n
        apply AWp.seq
        obtain ⟨r612, hr612, h⟩ := bindS h
        refine sr (c (fo 1003 2 [2] hN underlying102 2 tyS100 (q 3)) rfl (c (lb hN 102 _ (.func 123 []) tyS100 (At.st1 (f := (.func 123 [])) (by rfl) (by rfl) (At.here _) (by first | rfl | omega)) (q 48)) rfl (c (fo 1012 0 [0] hN underlying118 0 tyS42 (q 12)) rfl (c (la hN 118 tyS42 (q 50)) rfl (cg (OpJ.callVal (args := [(.d (e_api_Addr x604.ffrom))]) (caps := []) hB fnOk123 [] (resource_before_ac x604.ffrom r612 hr612) (by kernel_rfl) (L rfl) (by kernel_rfl) (by kernel_rfl) (OpdL.cons (q 51) OpdL.nil)) rfl (c (mv hN (q 52)) rfl (c (OpJ.extract (by rfl) rfl (L rfl) (q 47)) rfl (c (OpJ.extract (by rfl) rfl (L rfl) (q 47)) rfl (cg (OpJ.alloc hB tyZ42 (nm := 1013) (by decide) (L rfl)) rfl (cg (sB tyS42 (q 13) (q 53)) rfl (c (OpJ.assign (L rfl) (q 54)) rfl cn))))))))))) ?_
        apply AWp.seq
        refine AWp.cut h (fun m615 : Bool => ([(2, (qe_api_Addr__6 a1)), (3, (pt 1003)), (7, (.sref 3007 6 0 s433.2.2.length)), (9, (pt 1009)), (10, (bo true)), (12, (pt 1012)), (13, (pt 1013)), (17, (qe_api_Addr__6 a0)), (18, (i6 (a0.length : Int))), (19, (i6 s1.1)), (23, (qe_api_Addr__6 a1)), (24, (i6 (a1.length : Int))), (25, (i6 s433.1)), (64, (bo m615))] : EL)) (fun m615 : Bool => ([(1003, some (.box 102 (.st [(.func 82 []), (.func 122 []), (.func 123 [])]))), (1009, bd 118 (e_api_Addr_ s433.2.1)), (1012, bd 118 (e_api_Addr_ x604)), (1013, bd 42 (e_api_Addr r612.1)), (3007, some (we_api_Addr__118_6 s433.2.2))] : OL)) (fun m615 h E' O' hmat => ?_) (fun j616 hjj616 h => ?_)
        ·apply seqQ_n
         refine AWp.ghost hmat ?_
         refine AWp.cut h (fun m619 : (List api_Addr_) => ([(2, (qe_api_Addr__6 a1)), (3, (pt 1003)), (7, (.sref 3007 6 0 m619.length)), (9, (pt 1009)), (10, (bo true)), (12, (pt 1012)), (17, (qe_api_Addr__6 a0)), (18, (i6 (a0.length : Int))), (19, (i6 s1.1)), (23, (qe_api_Addr__6 a1)), (24, (i6 (a1.length : Int))), (25, (i6 s433.1))] : EL)) (fun m619 : (List api_Addr_) => ([(1003, some (.box 102 (.st [(.func 82 []), (.func 122 []), (.func 123 [])]))), (1009, bd 118 (e_api_Addr_ s433.2.1)), (1012, bd 118 (e_api_Addr_ x604)), (3007, some (we_api_Addr__118_6 m619))] : OL)) (fun m619 h E' O' hmat => ?_) (fun j620 hjj620 h => ?_)
         ·apply seqQ_n
          refine AWp.ghost hmat ?_
          obtain ⟨r621, hr621, h⟩ := bindS h
          refine sr (c (fo 1003 1 [1] hN underlying102 1 tyS100 (q 3)) rfl (c (lb hN 102 _ (.func 122 []) tyS100 (At.st1 (f := (.func 122 [])) (by rfl) (by rfl) (At.here _) (by first | rfl | omega)) (q 73)) rfl (c (fo 1012 3 [1] hN underlying118 3 tyS42 (q 12)) rfl (c (la hN 118 tyS42 (q 75)) rfl (cg (OpJ.callVal (args := [(.d (e_api_Addr x604.fto))]) (caps := []) hB fnOk122 [] (addr_Next_ac x604.fto r621 hr621) (by kernel_rfl) (L rfl) (by kernel_rfl) (by kernel_rfl) (OpdL.cons (q 76) OpdL.nil)) rfl (c (mv hN (q 77)) rfl (c (OpJ.extract (by rfl) rfl (L rfl) (q 72)) rfl (c (OpJ.extract (by rfl) rfl (L rfl) (q 72)) rfl (cg (OpJ.alloc hB tyZ42 (nm := 1015) (by decide) (L rfl)) rfl (cg (sB tyS42 (q 15) (q 78)) rfl (c (OpJ.assign (L rfl) (q 79)) rfl cn))))))))))) ?_
          apply AWp.seq
          apply AWp.seq
          refine AWp.cut h (fun m624 : Bool => ([(2, (qe_api_Addr__6 a1)), (3, (pt 1003)), (7, (.sref 3007 6 0 m619.length)), (9, (pt 1009)), (10, (bo true)), (15, (pt 1015)), (17, (qe_api_Addr__6 a0)), (18, (i6 (a0.length : Int))), (19, (i6 s1.1)), (23, (qe_api_Addr__6 a1)), (24, (i6 (a1.length : Int))), (25, (i6 s433.1)), (90, (bo m624))] : EL)) (fun m624 : Bool => ([(1003, some (.box 102 (.st [(.func 82 []), (.func 122 []), (.func 123 [])]))), (1009, bd 118 (e_api_Addr_ s433.2.1)), (1015, bd 42 (e_api_Addr r621.1)), (3007, some (we_api_Addr__118_6 m619))] : OL)) (fun m624 h E' O' hmat => ?_) (fun j625 hjj625 h => ?_)
          ·apply seqQ_n
           refine AWp.ghost hmat ?_
           refine AWp.cond rfl (fun hg626 => ?_) (fun hg626 => ?_)
           ·replace h := ite_t hg626 h
            refine sr (c (OpJ.assign (L rfl) (Opd.bool false)) rfl cn) ?_
            refine gh [(2, _), (3, _), (7, _), (9, _), (10, _), (17, _), (18, _), (19, _)] [(1003, some _), (1009, some _), (3007, some _)] hB rfl rfl (by rfl) ?_
            apply AWp.exit
            apply seqQ_e
            refine blkQ_miss (by rfl) ?_
            apply seqQ_e
            obtain rfl := Option.some.inj h
            exact ⟨(fun hc => by cases hc), rfl, (mp [] _ _ hB)⟩
           ·replace h := ite_f hg626 h
            apply AWp.skip
            apply seqQ_n
            refine rg (c (lb hN 42 _ _ tyS42 (At.here _) (q 15)) rfl (c (fo 1009 0 [0] hN underlying118 0 tyS42 (q 9)) rfl (cg (OpJ.storeB tyS42 (SetAt.dst1 (by rfl) (by rfl) (SetAt.here _ _) (by rfl) (by rfl) (by first | rfl | omega)) (by rfl) (by rfl) (by simp) rfl (q 92) (q 91)) rfl cn))) ?_
            apply blkQ_n
            exact hjj603 _ h _ _ (mp [] _ _ hB)
          ·rcases Bool.eq_false_or_eq_true (!r621.2) with hg627 | hg627
           ·replace h := ite_t hg627 h
            refine rg (c (mv hN (q 16)) rfl (c (OpJ.not (L rfl) (q 80)) rfl (c (OpJ.val (v' := .d (.bool true)) (by rw [hg627] <;> rfl) (mv hN (q 81))) rfl (cg (sU 82 (L rfl)) rfl (cg (sU 82 (L rfl)) rfl (cg (sU 82 (L rfl)) rfl (cg (sU 82 (L rfl)) rfl (cg (sU 82 (L rfl)) rfl (cg (sU 82 (L rfl)) rfl (cg (sU 82 (L rfl)) rfl (c (OpJ.pickT (L rfl) (q 82) (Opd.bool true)) rfl cn))))))))))) ?_
            exact hjj625 _ h _ _ (mp [] _ _ hB)
           ·replace h := ite_f hg627 h
            obtain ⟨r628, hr628, h⟩ := bindS h
            refine rg (c (mv hN (q 16)) rfl (c (OpJ.not (L rfl) (q 80)) rfl (c (OpJ.val (v' := .d (.bool false)) (by rw [hg627] <;> rfl) (mv hN (q 81))) rfl (c (gd 82 (fo 1003 0 [0] hN underlying102 0 tyS99 (q 3))) rfl (c (gd 82 (lb hN 102 _ (.func 82 []) tyS99 (At.st1 (f := (.func 82 [])) (by rfl) (by rfl) (At.here _) (by first | rfl | omega)) (q 83))) rfl (c (gd 82 (lb hN 42 _ _ tyS42 (At.here _) (q 15))) rfl (c (gd 82 (fo 1009 3 [1] hN underlying118 3 tyS42 (q 9))) rfl (c (gd 82 (la hN 118 tyS42 (q 86))) rfl (cg (gd 82 (OpJ.callVal (args := [(.d (e_api_Addr r621.1)), (.d (e_api_Addr s433.2.1.fto))]) (caps := []) hB fnOk82 [] (addr_Cmp_ac r621.1 s433.2.1.fto r628 hr628) (by kernel_rfl) (L rfl) (by kernel_rfl) (by kernel_rfl) (OpdL.cons (q 85) (OpdL.cons (q 87) OpdL.nil)))) rfl (c (gd 82 (OpJ.gtr (L rfl) (q 88) (Opd.int .i64 (0)))) rfl (c (OpJ.pickF (L rfl) (q 82) (q 89)) rfl cn))))))))))) ?_
            exact hjj625 _ h _ _ (mp [] _ _ hB)
         ·refine AWp.cond rfl (fun hg629 => ?_) (fun hg629 => ?_)
          ·replace h := ite_t hg629 h
           obtain ⟨hc630, h⟩ := chk_some h
           refine rg (c (mv hN (q 7)) rfl (c (fo 1009 0 [0] hN underlying118 0 tyS42 (q 9)) rfl (c (la hN 118 tyS42 (q 66)) rfl (c (lb hN 42 _ _ tyS42 (At.here _) (q 13)) rfl (c (OpJ.coe (v := (.st [(.d (e_api_Addr s433.2.1.ffrom)), (.d (e_api_Addr r612.1))])) (y := (.st [(e_api_Addr s433.2.1.ffrom), (e_api_Addr r612.1)])) (Co.st (CoL.cons (Co.d _) (CoL.cons (Co.d _) CoL.nil))) rfl (OpJ.build (places := [(0, 3), (3, 3)]) ⟨underlying118, fun w => by kernel_rfl⟩ tyZS118 (Opds.cons (q 67) (Opds.cons (q 68) Opds.nil)) (by kernel_rfl) (r := (.st [(.d (e_api_Addr s433.2.1.ffrom)), (.d (e_api_Addr r612.1))])) (by rfl) (L rfl))) rfl (c (OpJ.buildSlice underlying94 tyS118 tyZD118 (by rfl) (by decide) (by decide) (Opds.cons (q 69) Opds.nil) (by kernel_rfl) (es := ([(.st [(e_api_Addr s433.2.1.ffrom), (e_api_Addr r612.1)])] : List D)) (by rfl) (by rfl) (by kernel_rfl) (by simp) (L rfl)) rfl (cg (apd hB underlying94 tyE118 1071 e_api_Addr_ s433.2.2 ([(api_Addr_.mk s433.2.1.ffrom r612.1)] : List api_Addr_) hc630 (L rfl) (q 65) (q 70)) rfl (c (OpJ.assign (L rfl) (q 71)) rfl cn)))))))) ?_
           exact hjj620 _ h _ _ (mp [(3007, 1071)] _ _ hB)
          ·replace h := ite_f hg629 h
           apply AWp.skip
           exact hjj620 _ h _ _ (mp [] _ _ hB)
        ·rcases Bool.eq_false_or_eq_true r612.2 with hg631 | hg631
         ·replace h := ite_t hg631 h
          obtain ⟨r632, hr632, h⟩ := bindS h
          refine rg (c (mv hN (q 14)) rfl (c (OpJ.val (v' := .d (.bool true)) (by rw [hg631] <;> rfl) (mv hN (q 55))) rfl (c (gd 56 (fo 1003 0 [0] hN underlying102 0 tyS99 (q 3))) rfl (c (gd 56 (lb hN 102 _ (.func 82 []) tyS99 (At.st1 (f := (.func 82 [])) (by rfl) (by rfl) (At.here _) (by first | rfl | omega)) (q 57))) rfl (c (gd 56 (fo 1009 0 [0] hN underlying118 0 tyS42 (q 9))) rfl (c (gd 56 (la hN 118 tyS42 (q 59))) rfl (c (gd 56 (lb hN 42 _ _ tyS42 (At.here _) (q 13))) rfl (cg (gd 56 (OpJ.callVal (args := [(.d (e_api_Addr s433.2.1.ffrom)), (.d (e_api_Addr r612.1))]) (caps := []) hB fnOk82 [] (addr_Cmp_ac s433.2.1.ffrom r612.1 r632 hr632) (by kernel_rfl) (L rfl) (by kernel_rfl) (by kernel_rfl) (OpdL.cons (q 60) (OpdL.cons (q 61) OpdL.nil)))) rfl (c (gd 56 (OpJ.leq (L rfl) (q 62) (Opd.int .i64 (0)))) rfl (c (OpJ.pickT (L rfl) (q 56) (q 63)) rfl cn)))))))))) ?_
          exact hjj616 _ h _ _ (mp [] _ _ hB)
         ·replace h := ite_f hg631 h
          refine rg (c (mv hN (q 14)) rfl (c (OpJ.val (v' := .d (.bool false)) (by rw [hg631] <;> rfl) (mv hN (q 55))) rfl (cg (sU 56 (L rfl)) rfl (cg (sU 56 (L rfl)) rfl (cg (sU 56 (L rfl)) rfl (cg (sU 56 (L rfl)) rfl (cg (sU 56 (L rfl)) rfl (cg (sU 56 (L rfl)) rfl (cg (sU 56 (L rfl)) rfl (c (OpJ.pickF (L rfl) (q 56) (Opd.bool false)) rfl cn)))))))))) ?_
          exact hjj616 _ h _ _ (mp [] _ _ hB)
      ·obtain ⟨r633, hr633, h⟩ := bindS h
       rcases Bool.eq_false_or_eq_true (decide (r633 < (0 : Int))) with hg634 | hg634
       ·replace h := ite_t hg634 h
        refine rg (c (fo 1003 0 [0] hN underlying102 0 tyS99 (q 3)) rfl (c (lb hN 102 _ (.func 82 []) tyS99 (At.st1 (f := (.func 82 [])) (by rfl) (by rfl) (At.here _) (by first | rfl | omega)) (q 29)) rfl (c (fo 1012 3 [1] hN underlying118 3 tyS42 (q 12)) rfl (c (la hN 118 tyS42 (q 31)) rfl (c (fo 1009 0 [0] hN underlying118 0 tyS42 (q 9)) rfl (c (la hN 118 tyS42 (q 33)) rfl (cg (OpJ.callVal (args := [(.d (e_api_Addr x604.fto)), (.d (e_api_Addr s433.2.1.ffrom))]) (caps := []) hB fnOk82 [] (addr_Cmp_ac x604.fto s433.2.1.ffrom r633 hr633) (by kernel_rfl) (L rfl) (by kernel_rfl) (by kernel_rfl) (OpdL.cons (q 32) (OpdL.cons (q 34) OpdL.nil))) rfl (c (OpJ.lss (L rfl) (q 35) (Opd.int .i64 (0))) rfl (c (OpJ.val (v' := .d (.bool true)) (by rw [hg634] <;> rfl) (mv hN (q 36))) rfl (cg (sU 37 (L rfl)) rfl (cg (sU 37 (L rfl)) rfl (cg (sU 37 (L rfl)) rfl (cg (sU 37 (L rfl)) rfl (cg (sU 37 (L rfl)) rfl (cg (sU 37 (L rfl)) rfl (cg (sU 37 (L rfl)) rfl (cg (sU 37 (L rfl)) rfl (c (OpJ.pickT (L rfl) (q 37) (Opd.bool true)) rfl cn)))))))))))))))))) ?_
        exact hjj610 _ h _ _ (mp [] _ _ hB)
       ·replace h := ite_f hg634 h
        obtain ⟨r635, hr635, h⟩ := bindS h
        refine rg (c (fo 1003 0 [0] hN underlying102 0 tyS99 (q 3)) rfl (c (lb hN 102 _ (.func 82 []) tyS99 (At.st1 (f := (.func 82 [])) (by rfl) (by rfl) (At.here _) (by first | rfl | omega)) (q 29)) rfl (c (fo 1012 3 [1] hN underlying118 3 tyS42 (q 12)) rfl (c (la hN 118 tyS42 (q 31)) rfl (c (fo 1009 0 [0] hN underlying118 0 tyS42 (q 9)) rfl (c (la hN 118 tyS42 (q 33)) rfl (cg (OpJ.callVal (args := [(.d (e_api_Addr x604.fto)), (.d (e_api_Addr s433.2.1.ffrom))]) (caps := []) hB fnOk82 [] (addr_Cmp_ac x604.fto s433.2.1.ffrom r633 hr633) (by kernel_rfl) (L rfl) (by kernel_rfl) (by kernel_rfl) (OpdL.cons (q 32) (OpdL.cons (q 34) OpdL.nil))) rfl (c (OpJ.lss (L rfl) (q 35) (Opd.int .i64 (0))) rfl (c (OpJ.val (v' := .d (.bool false)) (by rw [hg634] <;> rfl) (mv hN (q 36))) rfl (c (gd 37 (fo 1003 0 [0] hN underlying102 0 tyS99 (q 3))) rfl (c (gd 37 (lb hN 102 _ (.func 82 []) tyS99 (At.st1 (f := (.func 82 [])) (by rfl) (by rfl) (At.here _) (by first | rfl | omega)) (q 38))) rfl (c (gd 37 (fo 1012 0 [0] hN underlying118 0 tyS42 (q 12))) rfl (c (gd 37 (la hN 118 tyS42 (q 40))) rfl (c (gd 37 (fo 1009 3 [1] hN underlying118 3 tyS42 (q 9))) rfl (c (gd 37 (la hN 118 tyS42 (q 42))) rfl (cg (gd 37 (OpJ.callVal (args := [(.d (e_api_Addr x604.ffrom)), (.d (e_api_Addr s433.2.1.fto))]) (caps := []) hB fnOk82 [] (addr_Cmp_ac x604.ffrom s433.2.1.fto r635 hr635) (by kernel_rfl) (L rfl) (by kernel_rfl) (by kernel_rfl) (OpdL.cons (q 41) (OpdL.cons (q 43) OpdL.nil)))) rfl (c (gd 37 (OpJ.gtr (L rfl) (q 44) (Opd.int .i64 (0)))) rfl (c (OpJ.pickF (L rfl) (q 37) (q 45)) rfl cn)))))))))))))))))) ?_
        exact hjj610 _ h _ _ (mp [] _ _ hB)
    ·replace h := ite_f hg569 h
     apply AWp.exit
     apply seqQ_e
     obtain rfl := Option.some.inj h
     exact ⟨(fun hc => by cases hc), rfl, (mp [] _ _ hB)⟩
   ·obtain ⟨rfl, hmat⟩ := hR
    apply blkQ_hit
    apply seqQ_n
    refine AWp.ghost hmat ?_
    refine sr (c (mv hN (q 10)) rfl cn) ?_
    refine gh [(2, _), (3, _), (7, _), (9, _), (17, _), (18, _), (19, _), (94, _)] [(1003, some _), (1009, some _), (3007, some _)] hB rfl rfl (by rfl) ?_
    refine AWp.cut h (fun m640 : (List api_Addr_) => ([(2, (qe_api_Addr__6 a1)), (3, (pt 1003)), (7, (.sref 3007 6 0 m640.length)), (17, (qe_api_Addr__6 a0)), (18, (i6 (a0.length : Int))), (19, (i6 s1.1))] : EL)) (fun m640 : (List api_Addr_) => ([(1003, some (.box 102 (.st [(.func 82 []), (.func 122 []), (.func 123 [])]))), (3007, some (we_api_Addr__118_6 m640))] : OL)) (fun m640 h E' O' hmat => ?_) (fun j641 hjj641 h => ?_)
    ·apply blkQ_n
     apply seqQ_n
     refine AWp.ghost hmat ?_
     refine rg (c (add6 (L rfl) (q 19) (Opd.int .i64 (1))) rfl (c (mv hN (q 99)) rfl cn)) ?_
     obtain rfl := Option.some.inj h
     exact ⟨rfl, (mp [] _ _ hB)⟩
    ·refine AWp.cond rfl (fun hg642 => ?_) (fun hg642 => ?_)
     ·replace h := ite_t hg642 h
      obtain ⟨hc643, h⟩ := chk_some h
      refine rg (c (mv hN (q 7)) rfl (c (lb hN 118 _ _ tyS118 (At.here _) (q 9)) rfl (c (OpJ.buildSlice underlying94 tyS118 tyZD118 (by rfl) (by decide) (by decide) (Opds.cons (q 96) Opds.nil) (by kernel_rfl) (es := ([(e_api_Addr_ p568.2.1)] : List D)) (by rfl) (by rfl) (by kernel_rfl) (by simp) (L rfl)) rfl (cg (apd hB underlying94 tyE118 1098 e_api_Addr_ p568.2.2 ([p568.2.1] : List api_Addr_) hc643 (L rfl) (q 95) (q 97)) rfl (c (OpJ.assign (L rfl) (q 98)) rfl cn))))) ?_
      exact hjj641 _ h _ _ (mp [(3007, 1098)] _ _ hB)
     ·replace h := ite_f hg642 h
      apply AWp.skip
      exact hjj641 _ h _ _ (mp [] _ _ hB)
  ·replace h := ite_f hg431 h
   apply AWp.exit
   apply seqQ_e
   obtain rfl := Option.some.inj h
   exact ⟨(fun hc => by cases hc), rfl, (mp [] _ _ hB)⟩
 ·obtain ⟨rfl, hmat⟩ := hR
  apply blkQ_hit
  apply seqQ_n
  refine AWp.ghost hmat ?_
  refine sr (c (mv hN (q 7)) rfl (c (OpJ.assign (L rfl) (q 100)) rfl cn)) ?_
  apply AWp.ret
  obtain rfl := Option.some.inj h
  exact ⟨.inl rfl, _, _, (Mat.trans (Mat.freezeP (n := 3007) (e := 118) (sz := 6) (es := p430.map e_api_Addr_) (Ts := [(6, (qe_api_Addr__6 p430))]) (Bs := []) (by rfl) (TwT.cons (x := (.sref 3007 6 0 p430.length)) (by rfl) (FrzL.all (by first | rfl | (simp; done) | (simp; omega) | omega)) TwT.nil) TwB.nil) (mp [] [(6, (qe_api_Addr__6 p430))] [] hB)), [(qe_api_Addr__6 p430)], (Res.tmp (by rfl) (by rfl) Res.nil), rfl, by rfl, by rfl, by rfl⟩
noncomputable def resource_numbers_2 (a0 : Int) : Option (Int × Bool) :=
 some ((w64 (a0 - (1 : Int))), (decide ((0 : Int) < a0)))
theorem resource_numbers_2_ac (a0 : Int) (r : Int × Bool) (h : resource_numbers_2 a0 = some r) : AC Tryd.prog 125 [(.d (.int .i64 a0))] [] (.tup [(.d (.int .i64 r.1)), (.d (.bool r.2))]) [] := by
 refine AC.of_code2 Tryd.func125 rfl rfl (Nat.le_of_ble_eq_true (by rfl)) fun B hB hN => ?_
 delta resource_numbers_2 at h
 refine sr (c (OpJ.assign (ltN hN rfl) (Opd.int .i64 (0))) rfl (c (OpJ.assign (ltN hN rfl) (Opd.bool false)) rfl cn)) ?_
 refine sr (c (mv hN (q 0)) rfl (c (sub6 (ltN hN rfl) (q 4) (Opd.int .i64 (1))) rfl (c (mv hN (q 0)) rfl (c (OpJ.gtr (ltN hN rfl) (q 6) (Opd.int .i64 (0))) rfl (c (OpJ.assign (ltN hN rfl) (q 5)) rfl (c (OpJ.assign (ltN hN rfl) (q 7)) rfl cn)))))) ?_
 apply AWp.ret
 obtain rfl := Option.some.inj h
 exact ⟨.inl rfl, _, _, (kp [(2, _), (3, _)] [] hB rfl rfl (by rfl)), [(i6 (w64 (a0 - (1 : Int)))), (bo (decide ((0 : Int) < a0)))], (Res.tmp (by rfl) (by rfl) (Res.tmp (by rfl) (by rfl) Res.nil)), rfl, by rfl, by rfl, by rfl⟩
noncomputable def resource_order_minus_2_L1 (a1 : (List resource_part_int_)) (s433 : Int × resource_part_int_ × (List resource_part_int_)) : Option (((Bool × resource_part_int_ × (List resource_part_int_))) ⊕ (Int × resource_part_int_ × (List resource_part_int_))) :=
 (if (decide (s433.1 < (a1.length : Int))) = true then
 jn (fun m602 : resource_part_int_ × (List resource_part_int_) =>
 some (.inr ((w64 (s433.1 + (1 : Int))), m602.1, m602.2))) (fun j603 =>
 (idx a1 s433.1).bind fun x604 =>
 jn (fun m609 : Bool =>
 (if m609 = true then
 j603 (s433.2.1, s433.2.2)
 else
 (resource_numbers_2 x604.ffrom).bind fun r612 =>
 jn (fun m615 : Bool =>
 jn (fun m619 : (List resource_part_int_) =>
 (resource_numbers_1 x604.fto).bind fun r621 =>
 jn (fun m624 : Bool =>
 (if m624 = true then
 some (.inl (false, s433.2.1, m619))
 else
 j603 ((resource_part_int_.mk r621.1 s433.2.1.fto), m619))) (fun j625 =>
 (if (!r621.2) = true then
 j625 true
 else
 (cmp_Compare r621.1 s433.2.1.fto).bind fun r628 =>
 j625 (decide ((0 : Int) < r628))))) (fun j620 =>
 (if m615 = true then
 chk (decide ((s433.2.2 ++ ([(resource_part_int_.mk s433.2.1.ffrom r612.1)] : List resource_part_int_)).length ≤ LIM)) <|
 j620 (s433.2.2 ++ ([(resource_part_int_.mk s433.2.1.ffrom r612.1)] : List resource_part_int_))
 else
 j620 s433.2.2))) (fun j616 =>
 (if r612.2 = true then
 (cmp_Compare s433.2.1.ffrom r612.1).bind fun r632 =>
 j616 (decide (r632 ≤ (0 : Int)))
 else
 j616 false)))) (fun j610 =>
 (cmp_Compare x604.fto s433.2.1.ffrom).bind fun r633 =>
 (if (decide (r633 < (0 : Int))) = true then
 j610 true
 else
 (cmp_Compare x604.ffrom s433.2.1.fto).bind fun r635 =>
 j610 (decide ((0 : Int) < r635)))))
 else
 some (.inl (true, s433.2.1, s433.2.2)))
noncomputable def resource_order_minus_2_L0 (a0 : (List resource_part_int_)) (a1 : (List resource_part_int_)) (s1 : Int × (List resource_part_int_)) : Option ((((List resource_part_int_))) ⊕ (Int × (List resource_part_int_))) :=
 (if (decide (s1.1 < (a0.length : Int))) = true then
 (idx a0 s1.1).bind fun x432 =>
 (loop (resource_order_minus_2_L1 a1) ((0 : Int), x432, s1.2)).bind fun p568 =>
 jn (fun m640 : (List resource_part_int_) =>
 some (.inr ((w64 (s1.1 + (1 : Int))), m640))) (fun j641 =>
 (if p568.1 = true then
 chk (decide ((p568.2.2 ++ ([p568.2.1] : List resource_part_int_)).length ≤ LIM)) <|
 j641 (p568.2.2 ++ ([p568.2.1] : List resource_part_int_))
 else
 j641 p568.2.2))
 else
 some (.inl s1.2))
noncomputable def resource_order_minus_2 (a0 : (List resource_part_int_)) (a1 : (List resource_part_int_)) : Option ((List resource_part_int_)) :=
 (loop (resource_order_minus_2_L0 a0 a1) ((0 : Int), ([] : List resource_part_int_))).bind fun p430 =>
 some p430
theorem resource_order_minus_2_ac (a0 : (List resource_part_int_)) (a1 : (List resource_part_int_)) (r : (List resource_part_int_)) (h : resource_order_minus_2 a0 a1 = some r) : AC Tryd.prog 66 [(.st [(.func 77 []), (.func 124 []), (.func 125 [])]), (.d (.list 2 (a0.map e_resource_part_int_))), (.d (.list 2 (a1.map e_resource_part_int_)))] [] (.d (.list 2 (r.map e_resource_part_int_))) [] := by
 refine AC.of_code2 Tryd.func66 rfl rfl (Nat.le_of_ble_eq_true (by rfl)) fun B hB hN => ?_
 have L {d : Nat} (h : Nat.blt d Tryd.f66.ntmps = true) : d < B.N := ltN hN h
 delta resource_order_minus_2 at h
 refine sr (cg (OpJ.box hB (nm := 1003) (by decide) (by simp) rfl (L rfl) (q 0)) rfl (c (OpJ.assign (L rfl) Opd.nils) rfl cn)) ?_
 refine sr (c (OpJ.assign (L rfl) Opd.nils) rfl cn) ?_
 apply AWp.seq
 refine sr (c (mv hN (q 1)) rfl (c (OpJ.val (v' := (i6 (a0.length : Int))) (by simp) (OpJ.lenD underlying95 (L rfl) (q 17))) rfl (c (mv hN (Opd.int .i64 (0))) rfl cn))) ?_
 apply AWp.block
 obtain ⟨p430, hx645, h⟩ := bindS h
 refine lg (resource_order_minus_2_L0 a0 a1) (fun s1 : Int × (List resource_part_int_) => ([(2, (.d (.list 2 (a1.map e_resource_part_int_)))), (3, (pt 1003)), (7, (.sref 3007 2 0 s1.2.length)), (17, (.d (.list 2 (a0.map e_resource_part_int_)))), (18, (i6 (a0.length : Int))), (19, (i6 s1.1))] : EL)) (fun s1 : Int × (List resource_part_int_) => ([(1003, some (.box 106 (.st [(.func 77 []), (.func 124 []), (.func 125 [])]))), (3007, some (.row 120 2 (s1.2.map e_resource_part_int_)))] : OL)) (fun (p430 : ((List resource_part_int_))) e E' O' => e = .exit 0 ∧ Mat B E' O' ([(7, (.sref 3007 2 0 p430.length))] : EL) ([(3007, some (.row 120 2 (p430.map e_resource_part_int_)))] : OL)) hx645 (Mat.trans (Mat.beginP (n := 3007) (e := 120) (sz := 2) (Ts := [(7, (.sref 3007 2 0 0))]) (Bs := []) hB (by decide) (by rfl) (by decide) (TwT.cons (x := .nils) (by rfl) (Tw.leaf ⟨rfl, rfl⟩) TwT.nil) TwB.nil) (mp [] _ _ hB)) (fun s1 y h => ?_) (fun e E' O' hR => ?_)
 ·unfold resource_order_minus_2_L0 at h
  refine sr (c (OpJ.lss (L rfl) (q 19) (q 18)) rfl cn) ?_
  apply AWp.seq
  refine AWp.cond rfl (fun hg431 => ?_) (fun hg431 => ?_)
  ·replace h := ite_t hg431 h
   apply AWp.skip
   apply seqQ_n
   apply AWp.seq
   apply AWp.block
   obtain ⟨x432, hx432, h⟩ := bindS h
   refine sr (c (OpJ.indexD underlying95 tyS120 (idx_some hx432).1 (get_map e_resource_part_int_ (idx_some hx432).2) (L rfl) (q 17) (q 19)) rfl (c (OpJ.loadD tyS120 (by rfl) (by rfl) (L rfl) (q 21)) rfl (cg (OpJ.alloc hB tyZ120 (nm := 1009) (by decide) (L rfl)) rfl (cg (sB tyS120 (q 9) (q 22)) rfl cn)))) ?_
   refine sr (c (OpJ.assign (L rfl) (Opd.bool true)) rfl cn) ?_
   apply AWp.seq
   refine sr (c (mv hN (q 2)) rfl (c (OpJ.val (v' := (i6 (a1.length : Int))) (by simp) (OpJ.lenD underlying95 (L rfl) (q 23))) rfl (c (mv hN (Opd.int .i64 (0))) rfl cn))) ?_
   apply AWp.block
   obtain ⟨p568, hx637, h⟩ := bindS h
   refine lg (resource_order_minus_2_L1 a1) (fun s433 : Int × resource_part_int_ × (List resource_part_int_) => ([(2, (.d (.list 2 (a1.map e_resource_part_int_)))), (3, (pt 1003)), (7, (.sref 3007 2 0 s433.2.2.length)), (9, (pt 1009)), (10, (bo true)), (17, (.d (.list 2 (a0.map e_resource_part_int_)))), (18, (i6 (a0.length : Int))), (19, (i6 s1.1)), (23, (.d (.list 2 (a1.map e_resource_part_int_)))), (24, (i6 (a1.length : Int))), (25, (i6 s433.1))] : EL)) (fun s433 : Int × resource_part_int_ × (List resource_part_int_) => ([(1003, some (.box 106 (.st [(.func 77 []), (.func 124 []), (.func 125 [])]))), (1009, bd 120 (e_resource_part_int_ s433.2.1)), (3007, some (.row 120 2 (s433.2.2.map e_resource_part_int_)))] : OL)) (fun (p568 : (Bool × resource_part_int_ × (List resource_part_int_))) e E' O' => e = .exit 2 ∧ Mat B E' O' ([(2, (.d (.list 2 (a1.map e_resource_part_int_)))), (3, (pt 1003)), (7, (.sref 3007 2 0 p568.2.2.length)), (9, (pt 1009)), (10, (bo p568.1)), (17, (.d (.list 2 (a0.map e_resource_part_int_)))), (18, (i6 (a0.length : Int))), (19, (i6 s1.1))] : EL) ([(1003, some (.box 106 (.st [(.func 77 []), (.func 124 []), (.func 125 [])]))), (1009, bd 120 (e_resource_part_int_ p568.2.1)), (3007, some (.row 120 2 (p568.2.2.map e_resource_part_int_)))] : OL)) hx637 (mp [] _ _ hB) (fun s433 y h => ?_) (fun e E' O' hR => ?_)
   ·unfold resource_order_minus_2_L1 at h
    refine sr (c (OpJ.lss (L rfl) (q 25) (q 24)) rfl cn) ?_
    apply AWp.seq
    refine AWp.cond rfl (fun hg569 => ?_) (fun hg569 => ?_)
    ·replace h := ite_t hg569 h
     apply AWp.skip
     apply seqQ_n
     apply AWp.seq
     refine AWp.cut h (fun m602 : resource_part_int_ × (List resource_part_int_) => ([(2, (.d (.list 2 (a1.map e_resource_part_int_)))), (3, (pt 1003)), (7, (.sref 3007 2 0 m602.2.length)), (9, (pt 1009)), (10, (bo true)), (17, (.d (.list 2 (a0.map e_resource_part_int_)))), (18, (i6 (a0.length : Int))), (19, (i6 s1.1)), (23, (.d (.list 2 (a1.map e_resource_part_int_)))), (24, (i6 (a1.length : Int))), (25, (i6 s433.1))] : EL)) (fun m602 : resource_part_int_ × (List resource_part_int_) => ([(1003, some (.box 106 (.st [(.func 77 []), (.func 124 []), (.func 125 [])]))), (1009, bd 120 (e_resource_part_int_ m602.1)), (3007, some (.row 120 2 (m602.2.map e_resource_part_int_)))] : OL)) (fun m602 h E' O' hmat => ?_) (fun j603 hjj603 h => ?_)
     ·apply seqQ_n
      refine AWp.ghost hmat ?_
      refine rg (c (add6 (L rfl) (q 25) (Opd.int .i64 (1))) rfl (c (mv hN (q 93)) rfl cn)) ?_
      obtain rfl := Option.some.inj h
      exact ⟨rfl, (mp [] _ _ hB)⟩
     ·apply AWp.block
      obtain ⟨x604, hx604, h⟩ := bindS h
      refine sr (c (OpJ.indexD underlying95 tyS120 (idx_some hx604).1 (get_map e_resource_part_int_ (idx_some hx604).2) (L rfl) (q 23) (q 25)) rfl (c (OpJ.loadD tyS120 (by rfl) (by rfl) (L rfl) (q 27)) rfl (cg (OpJ.alloc hB tyZ120 (nm := 1012) (by decide) (L rfl)) rfl (cg (sB tyS120 (q 12) (q 28)) rfl cn)))) ?_
      apply AWp.seq
      apply AWp.seq
      refine AWp.cut h (fun m609 : Bool => ([(2, (.d (.list 2 (a1.map e_resource_part_int_)))), (3, (pt 1003)), (7, (.sref 3007 2 0 s433.2.2.length)), (9, (pt 1009)), (10, (bo true)), (12, (pt 1012)), (17, (.d (.list 2 (a0.map e_resource_part_int_)))), (18, (i6 (a0.length : Int))), (19, (i6 s1.1)), (23, (.d (.list 2 (a1.map e_resource_part_int_)))), (24, (i6 (a1.length : Int))), (25, (i6 s433.1)), (46, (bo m609))] : EL)) (fun m609 : Bool => ([(1003, some (.box 106 (.st [(.func 77 []), (.func 124 []), (.func 125 [])]))), (1009, bd 120 (e_resource_part_int_ s433.2.1)), (1012, bd 120 (e_resource_part_int_ x604)), (3007, some (.row 120 2 (s433.2.2.map e_resource_part_int_)))] : OL)) (fun m609 h E' O' hmat => ?_) (fun j610 hjj610 h => ?_)
      ·apply seqQ_n
       refine AWp.ghost hmat ?_
       refine AWp.cond rfl (fun hg611 => ?_) (fun hg611 => ?_)
       ·replace h := ite_t hg611 h
        apply AWp.exit
        apply seqQ_e
        apply blkQ_hit
        exact hjj603 _ h _ _ (mp [] _ _ hB)
       ·replace h := ite_f hg611 h
        apply AWp.skip
        apply seqQ_n
        apply AWp.seq
        obtain ⟨r612, hr612, h⟩ := bindS h
        refine sr (c (fo 1003 2 [2] hN underlying106 2 tyS104 (q 3)) rfl (c (lb hN 106 _ (.func 125 []) tyS104 (At.st1 (f := (.func 125 [])) (by rfl) (by rfl) (At.here _) (by first | rfl | omega)) (q 48)) rfl (c (fo 1012 0 [0] hN underlying120 0 tyS3 (q 12)) rfl (c (la hN 120 tyS3 (q 50)) rfl (cg (OpJ.callVal (args := [(i6 x604.ffrom)]) (caps := []) hB fnOk125 [] (resource_numbers_2_ac x604.ffrom r612 hr612) (by kernel_rfl) (L rfl) (by kernel_rfl) (by kernel_rfl) (OpdL.cons (q 51) OpdL.nil)) rfl (c (mv hN (q 52)) rfl (c (OpJ.extract (by rfl) rfl (L rfl) (q 47)) rfl (c (OpJ.extract (by rfl) rfl (L rfl) (q 47)) rfl (c (OpJ.assign (L rfl) (q 53)) rfl (c (OpJ.assign (L rfl) (q 54)) rfl cn)))))))))) ?_
        apply AWp.seq
        refine AWp.cut h (fun m615 : Bool => ([(2, (.d (.list 2 (a1.map e_resource_part_int_)))), (3, (pt 1003)), (7, (.sref 3007 2 0 s433.2.2.length)), (9, (pt 1009)), (10, (bo true)), (12, (pt 1012)), (13, (i6 r612.1)), (17, (.d (.list 2 (a0.map e_resource_part_int_)))), (18, (i6 (a0.length : Int))), (19, (i6 s1.1)), (23, (.d (.list 2 (a1.map e_resource_part_int_)))), (24, (i6 (a1.length : Int))), (25, (i6 s433.1)), (64, (bo m615))] : EL)) (fun m615 : Bool => ([(1003, some (.box 106 (.st [(.func 77 []), (.func 124 []), (.func 125 [])]))), (1009, bd 120 (e_resource_part_int_ s433.2.1)), (1012, bd 120 (e_resource_part_int_ x604)), (3007, some (.row 120 2 (s433.2.2.map e_resource_part_int_)))] : OL)) (fun m615 h E' O' hmat => ?_) (fun j616 hjj616 h => ?_)
        ·apply seqQ_n
         refine AWp.ghost hmat ?_
         refine AWp.cut h (fun m619 : (List resource_part_int_) => ([(2, (.d (.list 2 (a1.map e_resource_part_int_)))), (3, (pt 1003)), (7, (.sref 3007 2 0 m619.length)), (9, (pt 1009)), (10, (bo true)), (12, (pt 1012)), (17, (.d (.list 2 (a0.map e_resource_part_int_)))), (18, (i6 (a0.length : Int))), (19, (i6 s1.1)), (23, (.d (.list 2 (a1.map e_resource_part_int_)))), (24, (i6 (a1.length : Int))), (25, (i6 s433.1))] : EL)) (fun m619 : (List resource_part_int_) => ([(1003, some (.box 106 (.st [(.func 77 []), (.func 124 []), (.func 125 [])]))), (1009, bd 120 (e_resource_part_int_ s433.2.1)), (1012, bd 120 (e_resource_part_int_ x604)), (3007, some (.row 120 2 (m619.map e_resource_part_int_)))] : OL)) (fun m619 h E' O' hmat => ?_) (fun j620 hjj620 h => ?_)
         ·apply seqQ_n
          refine AWp.ghost hmat ?_
          obtain ⟨r621, hr621, h⟩ := bindS h
          refine sr (c (fo 1003 1 [1] hN underlying106 1 tyS104 (q 3)) rfl (c (lb hN 106 _ (.func 124 []) tyS104 (At.st1 (f := (.func 124 [])) (by rfl) (by rfl) (At.here _) (by first | rfl | omega)) (q 73)) rfl (c (fo 1012 1 [1] hN underlying120 1 tyS3 (q 12)) rfl (c (la hN 120 tyS3 (q 75)) rfl (cg (OpJ.callVal (args := [(i6 x604.fto)]) (caps := []) hB fnOk124 [] (resource_numbers_1_ac x604.fto r621 hr621) (by kernel_rfl) (L rfl) (by kernel_rfl) (by kernel_rfl) (OpdL.cons (q 76) OpdL.nil)) rfl (c (mv hN (q 77)) rfl (c (OpJ.extract (by rfl) rfl (L rfl) (q 72)) rfl (c (OpJ.extract (by rfl) rfl (L rfl) (q 72)) rfl (c (OpJ.assign (L rfl) (q 78)) rfl (c (OpJ.assign (L rfl) (q 79)) rfl cn)))))))))) ?_
          apply AWp.seq
          apply AWp.seq
          refine AWp.cut h (fun m624 : Bool => ([(2, (.d (.list 2 (a1.map e_resource_part_int_)))), (3, (pt 1003)), (7, (.sref 3007 2 0 m619.length)), (9, (pt 1009)), (10, (bo true)), (15, (i6 r621.1)), (17, (.d (.list 2 (a0.map e_resource_part_int_)))), (18, (i6 (a0.length : Int))), (19, (i6 s1.1)), (23, (.d (.list 2 (a1.map e_resource_part_int_)))), (24, (i6 (a1.length : Int))), (25, (i6 s433.1)), (90, (bo m624))] : EL)) (fun m624 : Bool => ([(1003, some (.box 106 (.st [(.func 77 []), (.func 124 []), (.func 125 [])]))), (1009, bd 120 (e_resource_part_int_ s433.2.1)), (3007, some (.row 120 2 (m619.map e_resource_part_int_)))] : OL)) (fun m624 h E' O' hmat => ?_) (fun j625 hjj625 h => ?_)
          ·apply seqQ_n
           refine AWp.ghost hmat ?_
           refine AWp.cond rfl (fun hg626 => ?_) (fun hg626 => ?_)
           ·replace h := ite_t hg626 h
            refine sr (c (OpJ.assign (L rfl) (Opd.bool false)) rfl cn) ?_
            refine gh [(2, _), (3, _), (7, _), (9, _), (10, _), (17, _), (18, _), (19, _)] [(1003, some _), (1009, some _), (3007, some _)] hB rfl rfl (by rfl) ?_
            apply AWp.exit
            apply seqQ_e
            refine blkQ_miss (by rfl) ?_
            apply seqQ_e
            obtain rfl := Option.some.inj h
            exact ⟨(fun hc => by cases hc), rfl, (mp [] _ _ hB)⟩
           ·replace h := ite_f hg626 h
            apply AWp.skip
            apply seqQ_n
            refine rg (c (mv hN (q 15)) rfl (c (fo 1009 0 [0] hN underlying120 0 tyS3 (q 9)) rfl (cg (OpJ.storeB tyS3 (SetAt.dst1 (by rfl) (by rfl) (SetAt.here _ _) (by rfl) (by rfl) (by first | rfl | omega)) (by rfl) (by rfl) (by simp) rfl (q 92) (q 91)) rfl cn))) ?_
            apply blkQ_n
            exact hjj603 _ h _ _ (mp [] _ _ hB)
          ·rcases Bool.eq_false_or_eq_true (!r621.2) with hg627 | hg627
           ·replace h := ite_t hg627 h
            refine rg (c (mv hN (q 16)) rfl (c (OpJ.not (L rfl) (q 80)) rfl (c (OpJ.val (v' := .d (.bool true)) (by rw [hg627] <;> rfl) (mv hN (q 81))) rfl (cg (sU 82 (L rfl)) rfl (cg (sU 82 (L rfl)) rfl (cg (sU 82 (L rfl)) rfl (cg (sU 82 (L rfl)) rfl (cg (sU 82 (L rfl)) rfl (cg (sU 82 (L rfl)) rfl (cg (sU 82 (L rfl)) rfl (c (OpJ.pickT (L rfl) (q 82) (Opd.bool true)) rfl cn))))))))))) ?_
            exact hjj625 _ h _ _ (mp [] _ _ hB)
           ·replace h := ite_f hg627 h
            obtain ⟨r628, hr628, h⟩ := bindS h
            refine rg (c (mv hN (q 16)) rfl (c (OpJ.not (L rfl) (q 80)) rfl (c (OpJ.val (v' := .d (.bool false)) (by rw [hg627] <;> rfl) (mv hN (q 81))) rfl (c (gd 82 (fo 1003 0 [0] hN underlying106 0 tyS31 (q 3))) rfl (c (gd 82 (lb hN 106 _ (.func 77 []) tyS31 (At.st1 (f := (.func 77 [])) (by rfl) (by rfl) (At.here _) (by first | rfl | omega)) (q 83))) rfl (c (gd 82 (mv hN (q 15))) rfl (c (gd 82 (fo 1009 1 [1] hN underlying120 1 tyS3 (q 9))) rfl (c (gd 82 (la hN 120 tyS3 (q 86))) rfl (cg (gd 82 (OpJ.callVal (args := [(i6 r621.1), (i6 s433.2.1.fto)]) (caps := []) hB fnOk77 [] (cmp_Compare_ac r621.1 s433.2.1.fto r628 hr628) (by kernel_rfl) (L rfl) (by kernel_rfl) (by kernel_rfl) (OpdL.cons (q 85) (OpdL.cons (q 87) OpdL.nil)))) rfl (c (gd 82 (OpJ.gtr (L rfl) (q 88) (Opd.int .i64 (0)))) rfl (c (OpJ.pickF (L rfl) (q 82) (q 89)) rfl cn))))))))))) ?_
            exact hjj625 _ h _ _ (mp [] _ _ hB)
         ·refine AWp.cond rfl (fun hg629 => ?_) (fun hg629 => ?_)
          ·replace h := ite_t hg629 h
           obtain ⟨hc630, h⟩ := chk_some h
           refine rg (c (mv hN (q 7)) rfl (c (fo 1009 0 [0] hN underlying120 0 tyS3 (q 9)) rfl (c (la hN 120 tyS3 (q 66)) rfl (c (mv hN (q 13)) rfl (c (OpJ.coe (v := (.st [(i6 s433.2.1.ffrom), (i6 r612.1)])) (y := (.st [(.int .i64 s433.2.1.ffrom), (.int .i64 r612.1)])) (Co.st (CoL.cons (Co.d _) (CoL.cons (Co.d _) CoL.nil))) rfl (OpJ.build (places := [(0, 1), (1, 1)]) ⟨underlying120, fun w => by kernel_rfl⟩ tyZS120 (Opds.cons (q 67) (Opds.cons (q 68) Opds.nil)) (by kernel_rfl) (r := (.st [(i6 s433.2.1.ffrom), (i6 r612.1)])) (by rfl) (L rfl))) rfl (c (OpJ.buildSlice underlying95 tyS120 tyZD120 (by rfl) (by decide) (by decide) (Opds.cons (q 69) Opds.nil) (by kernel_rfl) (es := ([(.st [(.int .i64 s433.2.1.ffrom), (.int .i64 r612.1)])] : List D)) (by rfl) (by rfl) (by kernel_rfl) (by simp) (L rfl)) rfl (cg (apd hB underlying95 tyE120 1071 e_resource_part_int_ s433.2.2 ([(resource_part_int_.mk s433.2.1.ffrom r612.1)] : List resource_part_int_) hc630 (L rfl) (q 65) (q 70)) rfl (c (OpJ.assign (L rfl) (q 71)) rfl cn)))))))) ?_
           exact hjj620 _ h _ _ (mp [(3007, 1071)] _ _ hB)
          ·replace h := ite_f hg629 h
           apply AWp.skip
           exact hjj620 _ h _ _ (mp [] _ _ hB)
        ·rcases Bool.eq_false_or_eq_true r612.2 with hg631 | hg631
         ·replace h := ite_t hg631 h
          obtain ⟨r632, hr632, h⟩ := bindS h
          refine rg (c (mv hN (q 14)) rfl (c (OpJ.val (v' := .d (.bool true)) (by rw [hg631] <;> rfl) (mv hN (q 55))) rfl (c (gd 56 (fo 1003 0 [0] hN underlying106 0 tyS31 (q 3))) rfl (c (gd 56 (lb hN 106 _ (.func 77 []) tyS31 (At.st1 (f := (.func 77 [])) (by rfl) (by rfl) (At.here _) (by first | rfl | omega)) (q 57))) rfl (c (gd 56 (fo 1009 0 [0] hN underlying120 0 tyS3 (q 9))) rfl (c (gd 56 (la hN 120 tyS3 (q 59))) rfl (c (gd 56 (mv hN (q 13))) rfl (cg (gd 56 (OpJ.callVal (args := [(i6 s433.2.1.ffrom), (i6 r612.1)]) (caps := []) hB fnOk77 [] (cmp_Compare_ac s433.2.1.ffrom r612.1 r632 hr632) (by kernel_rfl) (L rfl) (by kernel_rfl) (by kernel_rfl) (OpdL.cons (q 60) (OpdL.cons (q 61) OpdL.nil)))) rfl (c (gd 56 (OpJ.leq (L rfl) (q 62) (Opd.int .i64 (0)))) rfl (c (OpJ.pickT (L rfl) (q 56) (q 63)) rfl cn)))))))))) ?_
          exact hjj616 _ h _ _ (mp [] _ _ hB)
         ·replace h := ite_f hg631 h
          refine rg (c (mv hN (q 14)) rfl (c (OpJ.val (v' := .d (.bool false)) (by rw [hg631] <;> rfl) (mv hN (q 55))) rfl (cg (sU 56 (L rfl)) rfl (cg (sU 56 (L rfl)) rfl (cg (sU 56 (L rfl)) rfl (cg (sU 56 (L rfl)) rfl (cg (sU 56 (L rfl)) rfl (cg (sU 56 (L rfl)) rfl (cg (sU 56 (L rfl)) rfl (c (OpJ.pickF (L rfl) (q 56) (Opd.bool false)) rfl cn)))))))))) ?_
          exact hjj616 _ h _ _ (mp [] _ _ hB)
      ·obtain ⟨r633, hr633, h⟩ := bindS h
       rcases Bool.eq_false_or_eq_true (decide (r633 < (0 : Int))) with hg634 | hg634
       ·replace h := ite_t hg634 h
        refine rg (c (fo 1003 0 [0] hN underlying106 0 tyS31 (q 3)) rfl (c (lb hN 106 _ (.func 77 []) tyS31 (At.st1 (f := (.func 77 [])) (by rfl) (by rfl) (At.here _) (by first | rfl | omega)) (q 29)) rfl (c (fo 1012 1 [1] hN underlying120 1 tyS3 (q 12)) rfl (c (la hN 120 tyS3 (q 31)) rfl (c (fo 1009 0 [0] hN underlying120 0 tyS3 (q 9)) rfl (c (la hN 120 tyS3 (q 33)) rfl (cg (OpJ.callVal (args := [(i6 x604.fto), (i6 s433.2.1.ffrom)]) (caps := []) hB fnOk77 [] (cmp_Compare_ac x604.fto s433.2.1.ffrom r633 hr633) (by kernel_rfl) (L rfl) (by kernel_rfl) (by kernel_rfl) (OpdL.cons (q 32) (OpdL.cons (q 34) OpdL.nil))) rfl (c (OpJ.lss (L rfl) (q 35) (Opd.int .i64 (0))) rfl (c (OpJ.val (v' := .d (.bool true)) (by rw [hg634] <;> rfl) (mv hN (q 36))) rfl (cg (sU 37 (L rfl)) rfl (cg (sU 37 (L rfl)) rfl (cg (sU 37 (L rfl)) rfl (cg (sU 37 (L rfl)) rfl (cg (sU 37 (L rfl)) rfl (cg (sU 37 (L rfl)) rfl (cg (sU 37 (L rfl)) rfl (cg (sU 37 (L rfl)) rfl (c (OpJ.pickT (L rfl) (q 37) (Opd.bool true)) rfl cn)))))))))))))))))) ?_
        exact hjj610 _ h _ _ (mp [] _ _ hB)
       ·replace h := ite_f hg634 h
        obtain ⟨r635, hr635, h⟩ := bindS h
        refine rg (c (fo 1003 0 [0] hN underlying106 0 tyS31 (q 3)) rfl (c (lb hN 106 _ (.func 77 []) tyS31 (At.st1 (f := (.func 77 [])) (by rfl) (by rfl) (At.here _) (by first | rfl | omega)) (q 29)) rfl (c (fo 1012 1 [1] hN underlying120 1 tyS3 (q 12)) rfl (c (la hN 120 tyS3 (q 31)) rfl (c (fo 1009 0 [0] hN underlying120 0 tyS3 (q 9)) rfl (c (la hN 120 tyS3 (q 33)) rfl (cg (OpJ.callVal (args := [(i6 x604.fto), (i6 s433.2.1.ffrom)]) (caps := []) hB fnOk77 [] (cmp_Compare_ac x604.fto s433.2.1.ffrom r633 hr633) (by kernel_rfl) (L rfl) (by kernel_rfl) (by kernel_rfl) (OpdL.cons (q 32) (OpdL.cons (q 34) OpdL.nil))) rfl (c (OpJ.lss (L rfl) (q 35) (Opd.int .i64 (0))) rfl (c (OpJ.val (v' := .d (.bool false)) (by rw [hg634] <;> rfl) (mv hN (q 36))) rfl (c (gd 37 (fo 1003 0 [0] hN underlying106 0 tyS31 (q 3))) rfl (c (gd 37 (lb hN 106 _ (.func 77 []) tyS31 (At.st1 (f := (.func 77 [])) (by rfl) (by rfl) (At.here _) (by first | rfl | omega)) (q 38))) rfl (c (gd 37 (fo 1012 0 [0] hN underlying120 0 tyS3 (q 12))) rfl (c (gd 37 (la hN 120 tyS3 (q 40))) rfl (c (gd 37 (fo 1009 1 [1] hN underlying120 1 tyS3 (q 9))) rfl (c (gd 37 (la hN 120 tyS3 (q 42))) rfl (cg (gd 37 (OpJ.callVal (args := [(i6 x604.ffrom), (i6 s433.2.1.fto)]) (caps := []) hB fnOk77 [] (cmp_Compare_ac x604.ffrom s433.2.1.fto r635 hr635) (by kernel_rfl) (L rfl) (by kernel_rfl) (by kernel_rfl) (OpdL.cons (q 41) (OpdL.cons (q 43) OpdL.nil)))) rfl (c (gd 37 (OpJ.gtr (L rfl) (q 44) (Opd.int .i64 (0)))) rfl (c (OpJ.pickF (L rfl) (q 37) (q 45)) rfl cn)))))))))))))))))) ?_
        exact hjj610 _ h _ _ (mp [] _ _ hB)
    ·replace h := ite_f hg569 h
     apply AWp.exit
     apply seqQ_e
     obtain rfl := Option.some.inj h
     exact ⟨(fun hc => by cases hc), rfl, (mp [] _ _ hB)⟩
   ·obtain ⟨rfl, hmat⟩ := hR
    apply blkQ_hit
    apply seqQ_n
    refine AWp.ghost hmat ?_
    refine sr (c (mv hN (q 10)) rfl cn) ?_
    refine gh [(2, _), (3, _), (7, _), (9, _), (17, _), (18, _), (19, _), (94, _)] [(1003, some _), (1009, some _), (3007, some _)] hB rfl rfl (by rfl) ?_
    refine AWp.cut h (fun m640 : (List resource_part_int_) => ([(2, (.d (.list 2 (a1.map e_resource_part_int_)))), (3, (pt 1003)), (7, (.sref 3007 2 0 m640.length)), (17, (.d (.list 2 (a0.map e_resource_part_int_)))), (18, (i6 (a0.length : Int))), (19, (i6 s1.1))] : EL)) (fun m640 : (List resource_part_int_) => ([(1003, some (.box 106 (.st [(.func 77 []), (.func 124 []), (.func 125 [])]))), (3007, some (.row 120 2 (m640.map e_resource_part_int_)))] : OL)) (fun m640 h E' O' hmat => ?_) (fun j641 hjj641 h => ?_)
    ·apply blkQ_n
     apply seqQ_n
     refine AWp.ghost hmat ?_
     refine rg (c (add6 (L rfl) (q 19) (Opd.int .i64 (1))) rfl (c (mv hN (q 99)) rfl cn)) ?_
     obtain rfl := Option.some.inj h
     exact ⟨rfl, (mp [] _ _ hB)⟩
    ·refine AWp.cond rfl (fun hg642 => ?_) (fun hg642 => ?_)
     ·replace h := ite_t hg642 h
      obtain ⟨hc643, h⟩ := chk_some h
      refine rg (c (mv hN (q 7)) rfl (c (lb hN 120 _ _ tyS120 (At.here _) (q 9)) rfl (c (OpJ.buildSlice underlying95 tyS120 tyZD120 (by rfl) (by decide) (by decide) (Opds.cons (q 96) Opds.nil) (by kernel_rfl) (es := ([(e_resource_part_int_ p568.2.1)] : List D)) (by rfl) (by rfl) (by kernel_rfl) (by simp) (L rfl)) rfl (cg (apd hB underlying95 tyE120 1098 e_resource_part_int_ p568.2.2 ([p568.2.1] : List resource_part_int_) hc643 (L rfl) (q 95) (q 97)) rfl (c (OpJ.assign (L rfl) (q 98)) rfl cn))))) ?_
      exact hjj641 _ h _ _ (mp [(3007, 1098)] _ _ hB)
     ·replace h := ite_f hg642 h
      apply AWp.skip
      exact hjj641 _ h _ _ (mp [] _ _ hB)
  ·replace h := ite_f hg431 h
   apply AWp.exit
   apply seqQ_e
   obtain rfl := Option.some.inj h
   exact ⟨(fun hc => by cases hc), rfl, (mp [] _ _ hB)⟩
 ·obtain ⟨rfl, hmat⟩ := hR
  apply blkQ_hit
  apply seqQ_n
  refine AWp.ghost hmat ?_
  refine sr (c (mv hN (q 7)) rfl (c (OpJ.assign (L rfl) (q 100)) rfl cn)) ?_
  apply AWp.ret
  obtain rfl := Option.some.inj h
  exact ⟨.inl rfl, _, _, (Mat.trans (Mat.freezeP (n := 3007) (e := 120) (sz := 2) (es := p430.map e_resource_part_int_) (Ts := [(6, (.d (.list 2 (p430.map e_resource_part_int_))))]) (Bs := []) (by rfl) (TwT.cons (x := (.sref 3007 2 0 p430.length)) (by rfl) (FrzL.all (by first | rfl | (simp; done) | (simp; omega) | omega)) TwT.nil) TwB.nil) (mp [] [(6, (.d (.list 2 (p430.map e_resource_part_int_))))] [] hB)), [(.d (.list 2 (p430.map e_resource_part_int_)))], (Res.tmp (by rfl) (by rfl) Res.nil), rfl, by rfl, by rfl, by rfl⟩
noncomputable def resource_set_minus (a0 : resource_set) (a1 : resource_set) : Option (resource_set) :=
 (resource_order_minus a0.faddrs a1.faddrs).bind fun r1 =>
 (resource_order_minus_2 a0.fasns a1.fasns).bind fun r2 =>
 some (resource_set.mk r1 r2)
theorem resource_set_minus_ac (a0 : resource_set) (a1 : resource_set) (r : resource_set) (h : resource_set_minus a0 a1 = some r) : AC Tryd.prog 56 [(.d (e_resource_set a0)), (.d (e_resource_set a1))] [(500, (.know (globF 0 [82, 122, 123]))), (501, (.know (globF 1 [77, 124, 125])))] (.d (e_resource_set r)) [(500, some (.know (globF 0 [82, 122, 123]))), (501, some (.know (globF 1 [77, 124, 125])))] := by
 refine AC.of_code2 Tryd.func56 rfl rfl (Nat.le_of_ble_eq_true (by rfl)) fun B hB hN => ?_
 delta resource_set_minus at h
 refine sr (cg (OpJ.box hB (nm := 1002) (by decide) (by simp) rfl (ltN hN rfl) (q 0)) rfl (cg (OpJ.box hB (nm := 1003) (by decide) (by simp) rfl (ltN hN rfl) (q 1)) rfl (cg (OpJ.alloc hB tyZ97 (nm := 1004) (by decide) (ltN hN rfl)) rfl cn))) ?_
 obtain ⟨r1, hr1, h⟩ := bindS h
 obtain ⟨r2, hr2, h⟩ := bindS h
 refine sd (cg (OpJ.loadG (nm := 500) [82, 122, 123] tyS102 rfl (ltN hN rfl)) rfl (c (fo 1002 0 [0] hN underlying97 0 tyS94 (q 2)) rfl (c (la hN 97 tyS94 (q 6)) rfl (c (fo 1003 0 [0] hN underlying97 0 tyS94 (q 3)) rfl (c (la hN 97 tyS94 (q 8)) rfl (cg (OpJ.callFn hB fnOk65 (resource_order_minus_ac a0.faddrs a1.faddrs r1 hr1) [] (by kernel_rfl) (ltN hN rfl) (by kernel_rfl) (OpdL.cons (q 5) (OpdL.cons (q 7) (OpdL.cons (q 9) OpdL.nil)))) rfl (cg (OpJ.loadG (nm := 501) [77, 124, 125] tyS106 rfl (ltN hN rfl)) rfl (c (fo 1002 1 [1] hN underlying97 1 tyS95 (q 2)) rfl (c (la hN 97 tyS95 (q 12)) rfl (c (fo 1003 1 [1] hN underlying97 1 tyS95 (q 3)) rfl (c (la hN 97 tyS95 (q 14)) rfl (cg (OpJ.callFn hB fnOk66 (resource_order_minus_2_ac a0.fasns a1.fasns r2 hr2) [] (by kernel_rfl) (ltN hN rfl) (by kernel_rfl) (OpdL.cons (q 11) (OpdL.cons (q 13) (OpdL.cons (q 15) OpdL.nil)))) rfl (c (OpJ.coe (v := (.st [(qe_api_Addr__6 r1), (.d (.list 2 (r2.map e_resource_part_int_)))])) (y := (.st [(.list 6 (r1.map e_api_Addr_)), (.list 2 (r2.map e_resource_part_int_))])) (Co.st (CoL.cons (Co.d _) (CoL.cons (Co.d _) CoL.nil))) rfl (OpJ.build (places := [(0, 1), (1, 1)]) ⟨underlying97, fun w => by kernel_rfl⟩ tyZS97 (Opds.cons (q 10) (Opds.cons (q 16) Opds.nil)) (by kernel_rfl) (r := (.st [(qe_api_Addr__6 r1), (.d (.list 2 (r2.map e_resource_part_int_)))])) (by rfl) (ltN hN rfl))) rfl (cg (sB tyS97 (q 4) (q 17)) rfl cn)))))))))))))) (by kernel_rfl) (by kernel_rfl) ?_
 apply AWp.ret
 obtain rfl := Option.some.inj h
 exact ⟨.inl rfl, _, _, (kp [(4, _)] [(500, some _), (501, some _), (1004, some _)] hB rfl rfl (by rfl)), [(.d (.st [(.list 6 (r1.map e_api_Addr_)), (.list 2 (r2.map e_resource_part_int_))]))], (Res.cell (c := (.d (.st [(.list 6 (r1.map e_api_Addr_)), (.list 2 (r2.map e_resource_part_int_))]))) (by rfl) (by rfl) tyS97 (by rfl) (by rfl) (by rfl) Res.nil), rfl, by rfl, by rfl, by rfl⟩
end Go.Proofs.YtgfoabcickjphaaDoor
