/- Printed by gen.py: the Go functions as plain functions, and that the code does what they say. -/
import Derived.Test.YtjhjijcffgmpkaaChecked
import Derived.Test.YtjhjijcffgmpkaaVcN
import Derived.KernelRfl
import Derived.Test.YtjhjijcffgmpkaaFnsB
namespace Go.Proofs.Ytjhjijcffgmpkaa
open Go Go.Vc
noncomputable def exchangepointlaw39_IntervalBounds_L0 (m5 : Int) (r7 : Int) (r8 : Int) (r9 : Int) (r10 : Int) (x12 : Int) (r13 : Int) (r14 : Int) (r15 : Int) (r16 : Int) (s17 : Int) : Option (((Unit) ⊕ (Unit)) ⊕ (Int)) :=
  (if (decide (s17 < (([([m5, r7, r8, (w64 ((1 : Int) + r9))] : List Int), ([m5, r7, (w64 (r10 - (2 : Int))), x12] : List Int), ([(w64 (r13 - (2 : Int))), (w64 (r14 - (2 : Int))), (w64 (r15 - (2 : Int))), (w64 (r16 - (1 : Int)))] : List Int)] : List (List Int)).length : Int))) = true then
  (idx ([([m5, r7, r8, (w64 ((1 : Int) + r9))] : List Int), ([m5, r7, (w64 (r10 - (2 : Int))), x12] : List Int), ([(w64 (r13 - (2 : Int))), (w64 (r14 - (2 : Int))), (w64 (r15 - (2 : Int))), (w64 (r16 - (1 : Int)))] : List Int)] : List (List Int)) s17).bind fun x47 =>
  (idx x47 (0 : Int)).bind fun x48 =>
  (idx x47 (1 : Int)).bind fun x49 =>
  (idx x47 (2 : Int)).bind fun x50 =>
  (idx x47 (3 : Int)).bind fun x51 =>
  (interval_Bounds x48 x49 x50 x51).bind fun r52 =>
  (idx x47 (0 : Int)).bind fun x53 =>
  (idx x47 (1 : Int)).bind fun x54 =>
  (idx x47 (2 : Int)).bind fun x55 =>
  (idx x47 (3 : Int)).bind fun x56 =>
  (exchangepointref39_Bounds x53 x54 x55 x56).bind fun r57 =>
  (if (((r52.1 != r57.1) || (r52.2.1 != r57.2.1)) || (r52.2.2 != r57.2.2)) = true then
  some (.inl (.inl ()))
  else
  some (.inr (w64 (s17 + (1 : Int)))))
  else
  some (.inl (.inr ())))
noncomputable def exchangepointlaw39_IntervalBounds (a0 : Int) (a1 : Int) (a2 : Int) (a3 : Int) (a4 : Int) : Option (Bool) :=
  (exchangepointmill_Mod a0 (17 : Int)).bind fun r1 =>
  (exchangepointmill_Mod a3 (40 : Int)).bind fun r2 =>
  jn (fun m5 : Int =>
  (exchangepointmill_Mod a1 (w64 (m5 + (1 : Int)))).bind fun r7 =>
  (exchangepointmill_Mod a3 (w64 (r7 + (1 : Int)))).bind fun r8 =>
  (exchangepointmill_Mod a4 (999 : Int)).bind fun r9 =>
  (exchangepointmill_Mod a3 (w64 (r7 + (4 : Int)))).bind fun r10 =>
  (exchangepointmill_Mod a4 (6 : Int)).bind fun r11 =>
  (idx ([(1 : Int), (10 : Int), (50 : Int), (100 : Int), (500 : Int), (999 : Int)] : List Int) r11).bind fun x12 =>
  (exchangepointmill_Mod a0 (20 : Int)).bind fun r13 =>
  (exchangepointmill_Mod a1 (20 : Int)).bind fun r14 =>
  (exchangepointmill_Mod a3 (20 : Int)).bind fun r15 =>
  (exchangepointmill_Mod a4 (1003 : Int)).bind fun r16 =>
  (loop (exchangepointlaw39_IntervalBounds_L0 m5 r7 r8 r9 r10 x12 r13 r14 r15 r16) (0 : Int)).bind fun x59 => match x59 with
  | (.inl _) =>
    some false
  | (.inr _) =>
    (exchangepointmill_Mod a2 (w64 ((minI m5 (16 : Int)) + (1 : Int)))).bind fun r61 =>
    (exchangepointmill_Mod a4 (999 : Int)).bind fun r62 =>
    (interval_Cover (minI m5 (16 : Int)) (minI r7 (minI m5 (16 : Int))) r61 (w64 ((1 : Int) + r62))).bind fun r63 =>
    (exchangepointmill_Mod a2 (w64 ((minI m5 (16 : Int)) + (1 : Int)))).bind fun r64 =>
    (exchangepointmill_Mod a4 (999 : Int)).bind fun r65 =>
    (exchangepointref39_Cover (minI m5 (16 : Int)) (minI r7 (minI m5 (16 : Int))) r64 (w64 ((1 : Int) + r65))).bind fun r66 =>
    jn (fun m69 : Bool =>
    some m69) (fun j70 =>
    (if (((r63.1 == r66.1) && (r63.2.1 == r66.2.1)) && (r63.2.2 == r66.2.2)) = true then
    (exchangepointlaw39_awake).bind fun r72 =>
    j70 r72
    else
    j70 false))) (fun j6 =>
  (if (r2 == (0 : Int)) = true then
  (exchangepointmill_Mod a0 (61 : Int)).bind fun r74 =>
  j6 r74
  else
  j6 r1))
set_option maxHeartbeats 4000000 in
set_option maxRecDepth 100000 in
theorem exchangepointlaw39_IntervalBounds_ac (a0 : Int) (a1 : Int) (a2 : Int) (a3 : Int) (a4 : Int) (r : Bool) (h : exchangepointlaw39_IntervalBounds a0 a1 a2 a3 a4 = some r) : AC Try.prog 7 [(.d (.int .i64 a0)), (.d (.int .i64 a1)), (.d (.int .i64 a2)), (.d (.int .i64 a3)), (.d (.int .i64 a4))] [] (.d (.bool r)) [] := by
  refine AC.of_code2 Try.func7 rfl rfl (Nat.le_of_ble_eq_true (by rfl)) fun B hB hN => ?_
  delta exchangepointlaw39_IntervalBounds at h
  refine AWp.seq ?_
  refine AWp.region (OpJs.cons (OpJ.assign (ltN hN rfl) (Opd.bool false))
  (OpJs.nil)) (by rfl) (by rfl) ?_
  refine seqQ_n ?_
  refine AWp.ghost (Mat.pat [] [(0, (.d (.int .i64 a0))), (1, (.d (.int .i64 a1))), (2, (.d (.int .i64 a2))), (3, (.d (.int .i64 a3))), (4, (.d (.int .i64 a4)))] [] hB (by rfl) (by rfl) (by rfl)) ?_
  refine AWp.seq ?_
  obtain ⟨r1, hr1, h⟩ := bindS h
  refine AWp.region (OpJs.cons (OpJ.move (ltN hN rfl) (Opd.tmp 0 (.d (.int .i64 a0))))
  (OpJs.cons (OpJ.callFn hB fnOk9 (exchangepointmill_Mod_ac a0 (17 : Int) r1 hr1) [] (by kernel_rfl) (ltN hN rfl) (by kernel_rfl) (OpdL.cons (Opd.tmp 28 (.d (.int .i64 a0))) (OpdL.cons (Opd.int .i64 (17)) OpdL.nil)))
  (OpJs.cons (OpJ.assign (ltN hN rfl) (Opd.tmp 29 (.d (.int .i64 r1))))
  (OpJs.nil)))) (by rfl) (by rfl) ?_
  refine seqQ_n ?_
  refine AWp.ghost (Mat.pat [] [(0, (.d (.int .i64 a0))), (1, (.d (.int .i64 a1))), (2, (.d (.int .i64 a2))), (3, (.d (.int .i64 a3))), (4, (.d (.int .i64 a4))), (11, (.d (.int .i64 r1)))] [] hB (by rfl) (by rfl) (by rfl)) ?_
  refine AWp.seq ?_
  refine AWp.seq ?_
  obtain ⟨r2, hr2, h⟩ := bindS h
  refine AWp.region (OpJs.cons (OpJ.move (ltN hN rfl) (Opd.tmp 3 (.d (.int .i64 a3))))
  (OpJs.cons (OpJ.callFn hB fnOk9 (exchangepointmill_Mod_ac a3 (40 : Int) r2 hr2) [] (by kernel_rfl) (ltN hN rfl) (by kernel_rfl) (OpdL.cons (Opd.tmp 30 (.d (.int .i64 a3))) (OpdL.cons (Opd.int .i64 (40)) OpdL.nil)))
  (OpJs.cons (OpJ.eqlI (ltN hN rfl) (Opd.tmp 31 (.d (.int .i64 r2))) (Opd.int .i64 (0)))
  (OpJs.nil)))) (by rfl) (by rfl) ?_
  refine seqQ_n ?_
  refine AWp.ghost (Mat.pat [] [(0, (.d (.int .i64 a0))), (1, (.d (.int .i64 a1))), (2, (.d (.int .i64 a2))), (3, (.d (.int .i64 a3))), (4, (.d (.int .i64 a4))), (11, (.d (.int .i64 r1))), (32, (.d (.bool (r2 == (0 : Int)))))] [] hB (by rfl) (by rfl) (by rfl)) ?_
  refine AWp.cut h (fun m5 : Int => ([(0, (.d (.int .i64 a0))), (1, (.d (.int .i64 a1))), (2, (.d (.int .i64 a2))), (3, (.d (.int .i64 a3))), (4, (.d (.int .i64 a4))), (11, (.d (.int .i64 m5)))] : EL)) (fun m5 : Int => ([] : OL)) (fun m5 h E' O' hmat => ?_) (fun j6 hjj6 h => ?_)
  · refine seqQ_n ?_
    refine AWp.ghost hmat ?_
    refine AWp.seq ?_
    obtain ⟨r7, hr7, h⟩ := bindS h
    refine AWp.region (OpJs.cons (OpJ.move (ltN hN rfl) (Opd.tmp 1 (.d (.int .i64 a1))))
      (OpJs.cons (OpJ.move (ltN hN rfl) (Opd.tmp 11 (.d (.int .i64 m5))))
      (OpJs.cons (OpJ.add (ltN hN rfl) (Opd.tmp 36 (.d (.int .i64 m5))) (Opd.int .i64 (1)))
      (OpJs.cons (OpJ.callFn hB fnOk9 (exchangepointmill_Mod_ac a1 (w64 (m5 + (1 : Int))) r7 hr7) [] (by kernel_rfl) (ltN hN rfl) (by kernel_rfl) (OpdL.cons (Opd.tmp 35 (.d (.int .i64 a1))) (OpdL.cons (Opd.tmp 37 (.d (.int .i64 (w64 (m5 + (1 : Int)))))) OpdL.nil)))
      (OpJs.cons (OpJ.assign (ltN hN rfl) (Opd.tmp 38 (.d (.int .i64 r7))))
      (OpJs.nil)))))) (by rfl) (by rfl) ?_
    refine seqQ_n ?_
    refine AWp.ghost (Mat.pat [] [(0, (.d (.int .i64 a0))), (1, (.d (.int .i64 a1))), (2, (.d (.int .i64 a2))), (3, (.d (.int .i64 a3))), (4, (.d (.int .i64 a4))), (11, (.d (.int .i64 m5))), (12, (.d (.int .i64 r7)))] [] hB (by rfl) (by rfl) (by rfl)) ?_
    refine AWp.seq ?_
    refine AWp.seq ?_
    obtain ⟨r8, hr8, h⟩ := bindS h
    obtain ⟨r9, hr9, h⟩ := bindS h
    obtain ⟨r10, hr10, h⟩ := bindS h
    obtain ⟨r11, hr11, h⟩ := bindS h
    obtain ⟨x12, hx12, h⟩ := bindS h
    obtain ⟨r13, hr13, h⟩ := bindS h
    obtain ⟨r14, hr14, h⟩ := bindS h
    obtain ⟨r15, hr15, h⟩ := bindS h
    obtain ⟨r16, hr16, h⟩ := bindS h
    refine AWp.draws (by kernel_rfl) (OpJs.cons (OpJ.move (ltN hN rfl) (Opd.tmp 11 (.d (.int .i64 m5))))
      (OpJs.cons (OpJ.move (ltN hN rfl) (Opd.tmp 12 (.d (.int .i64 r7))))
      (OpJs.cons (OpJ.move (ltN hN rfl) (Opd.tmp 3 (.d (.int .i64 a3))))
      (OpJs.cons (OpJ.move (ltN hN rfl) (Opd.tmp 12 (.d (.int .i64 r7))))
      (OpJs.cons (OpJ.add (ltN hN rfl) (Opd.tmp 42 (.d (.int .i64 r7))) (Opd.int .i64 (1)))
      (OpJs.cons (OpJ.callFn hB fnOk9 (exchangepointmill_Mod_ac a3 (w64 (r7 + (1 : Int))) r8 hr8) [] (by kernel_rfl) (ltN hN rfl) (by kernel_rfl) (OpdL.cons (Opd.tmp 41 (.d (.int .i64 a3))) (OpdL.cons (Opd.tmp 43 (.d (.int .i64 (w64 (r7 + (1 : Int)))))) OpdL.nil)))
      (OpJs.cons (OpJ.move (ltN hN rfl) (Opd.tmp 4 (.d (.int .i64 a4))))
      (OpJs.cons (OpJ.callFn hB fnOk9 (exchangepointmill_Mod_ac a4 (999 : Int) r9 hr9) [] (by kernel_rfl) (ltN hN rfl) (by kernel_rfl) (OpdL.cons (Opd.tmp 45 (.d (.int .i64 a4))) (OpdL.cons (Opd.int .i64 (999)) OpdL.nil)))
      (OpJs.cons (OpJ.add (ltN hN rfl) (Opd.int .i64 (1)) (Opd.tmp 46 (.d (.int .i64 r9))))
      (OpJs.cons (OpJ.buildSlice Try.underlying23 tyS3 tyZD3 (by rfl) (by decide) (by decide) (Opds.cons (Opd.tmp 39 (.d (.int .i64 m5))) (Opds.cons (Opd.tmp 40 (.d (.int .i64 r7))) (Opds.cons (Opd.tmp 44 (.d (.int .i64 r8))) (Opds.cons (Opd.tmp 47 (.d (.int .i64 (w64 ((1 : Int) + r9))))) Opds.nil)))) (by kernel_rfl) (es := ([(.int .i64 m5), (.int .i64 r7), (.int .i64 r8), (.int .i64 (w64 ((1 : Int) + r9)))] : List D)) (by rfl) (by rfl) (by kernel_rfl) (by simp) (ltN hN rfl))
      (OpJs.cons (OpJ.move (ltN hN rfl) (Opd.tmp 11 (.d (.int .i64 m5))))
      (OpJs.cons (OpJ.move (ltN hN rfl) (Opd.tmp 12 (.d (.int .i64 r7))))
      (OpJs.cons (OpJ.move (ltN hN rfl) (Opd.tmp 3 (.d (.int .i64 a3))))
      (OpJs.cons (OpJ.move (ltN hN rfl) (Opd.tmp 12 (.d (.int .i64 r7))))
      (OpJs.cons (OpJ.add (ltN hN rfl) (Opd.tmp 52 (.d (.int .i64 r7))) (Opd.int .i64 (4)))
      (OpJs.cons (OpJ.callFn hB fnOk9 (exchangepointmill_Mod_ac a3 (w64 (r7 + (4 : Int))) r10 hr10) [] (by kernel_rfl) (ltN hN rfl) (by kernel_rfl) (OpdL.cons (Opd.tmp 51 (.d (.int .i64 a3))) (OpdL.cons (Opd.tmp 53 (.d (.int .i64 (w64 (r7 + (4 : Int)))))) OpdL.nil)))
      (OpJs.cons (OpJ.sub (ltN hN rfl) (Opd.tmp 54 (.d (.int .i64 r10))) (Opd.int .i64 (2)))
      (OpJs.cons (OpJ.buildSlice Try.underlying23 tyS3 tyZD3 (by rfl) (by decide) (by decide) (Opds.cons (Opd.int .i64 (1)) (Opds.cons (Opd.int .i64 (10)) (Opds.cons (Opd.int .i64 (50)) (Opds.cons (Opd.int .i64 (100)) (Opds.cons (Opd.int .i64 (500)) (Opds.cons (Opd.int .i64 (999)) Opds.nil)))))) (by kernel_rfl) (es := ([(.int .i64 (1 : Int)), (.int .i64 (10 : Int)), (.int .i64 (50 : Int)), (.int .i64 (100 : Int)), (.int .i64 (500 : Int)), (.int .i64 (999 : Int))] : List D)) (by rfl) (by rfl) (by kernel_rfl) (by simp) (ltN hN rfl))
      (OpJs.cons (OpJ.move (ltN hN rfl) (Opd.tmp 4 (.d (.int .i64 a4))))
      (OpJs.cons (OpJ.callFn hB fnOk9 (exchangepointmill_Mod_ac a4 (6 : Int) r11 hr11) [] (by kernel_rfl) (ltN hN rfl) (by kernel_rfl) (OpdL.cons (Opd.tmp 57 (.d (.int .i64 a4))) (OpdL.cons (Opd.int .i64 (6)) OpdL.nil)))
      (OpJs.cons (OpJ.indexD (el := (.int .i64 x12)) Try.underlying23 tyS3 (idx_some hx12).1 (get_map (eI .i64) (idx_some hx12).2) (ltN hN rfl) (Opd.tmp 56 (.d (.list 1 (([(1 : Int), (10 : Int), (50 : Int), (100 : Int), (500 : Int), (999 : Int)] : List Int).map (eI .i64))))) (Opd.tmp 58 (.d (.int .i64 r11))))
      (OpJs.cons (OpJ.loadD tyS3 (by rfl) (by rfl) (ltN hN rfl) (Opd.tmp 59 (.dptr (.int .i64 x12))))
      (OpJs.cons (OpJ.buildSlice Try.underlying23 tyS3 tyZD3 (by rfl) (by decide) (by decide) (Opds.cons (Opd.tmp 49 (.d (.int .i64 m5))) (Opds.cons (Opd.tmp 50 (.d (.int .i64 r7))) (Opds.cons (Opd.tmp 55 (.d (.int .i64 (w64 (r10 - (2 : Int)))))) (Opds.cons (Opd.tmp 60 (.d (.int .i64 x12))) Opds.nil)))) (by kernel_rfl) (es := ([(.int .i64 m5), (.int .i64 r7), (.int .i64 (w64 (r10 - (2 : Int)))), (.int .i64 x12)] : List D)) (by rfl) (by rfl) (by kernel_rfl) (by simp) (ltN hN rfl))
      (OpJs.cons (OpJ.move (ltN hN rfl) (Opd.tmp 0 (.d (.int .i64 a0))))
      (OpJs.cons (OpJ.callFn hB fnOk9 (exchangepointmill_Mod_ac a0 (20 : Int) r13 hr13) [] (by kernel_rfl) (ltN hN rfl) (by kernel_rfl) (OpdL.cons (Opd.tmp 62 (.d (.int .i64 a0))) (OpdL.cons (Opd.int .i64 (20)) OpdL.nil)))
      (OpJs.cons (OpJ.sub (ltN hN rfl) (Opd.tmp 63 (.d (.int .i64 r13))) (Opd.int .i64 (2)))
      (OpJs.cons (OpJ.move (ltN hN rfl) (Opd.tmp 1 (.d (.int .i64 a1))))
      (OpJs.cons (OpJ.callFn hB fnOk9 (exchangepointmill_Mod_ac a1 (20 : Int) r14 hr14) [] (by kernel_rfl) (ltN hN rfl) (by kernel_rfl) (OpdL.cons (Opd.tmp 65 (.d (.int .i64 a1))) (OpdL.cons (Opd.int .i64 (20)) OpdL.nil)))
      (OpJs.cons (OpJ.sub (ltN hN rfl) (Opd.tmp 66 (.d (.int .i64 r14))) (Opd.int .i64 (2)))
      (OpJs.cons (OpJ.move (ltN hN rfl) (Opd.tmp 3 (.d (.int .i64 a3))))
      (OpJs.cons (OpJ.callFn hB fnOk9 (exchangepointmill_Mod_ac a3 (20 : Int) r15 hr15) [] (by kernel_rfl) (ltN hN rfl) (by kernel_rfl) (OpdL.cons (Opd.tmp 68 (.d (.int .i64 a3))) (OpdL.cons (Opd.int .i64 (20)) OpdL.nil)))
      (OpJs.cons (OpJ.sub (ltN hN rfl) (Opd.tmp 69 (.d (.int .i64 r15))) (Opd.int .i64 (2)))
      (OpJs.cons (OpJ.move (ltN hN rfl) (Opd.tmp 4 (.d (.int .i64 a4))))
      (OpJs.cons (OpJ.callFn hB fnOk9 (exchangepointmill_Mod_ac a4 (1003 : Int) r16 hr16) [] (by kernel_rfl) (ltN hN rfl) (by kernel_rfl) (OpdL.cons (Opd.tmp 71 (.d (.int .i64 a4))) (OpdL.cons (Opd.int .i64 (1003)) OpdL.nil)))
      (OpJs.cons (OpJ.sub (ltN hN rfl) (Opd.tmp 72 (.d (.int .i64 r16))) (Opd.int .i64 (1)))
      (OpJs.cons (OpJ.buildSlice Try.underlying23 tyS3 tyZD3 (by rfl) (by decide) (by decide) (Opds.cons (Opd.tmp 64 (.d (.int .i64 (w64 (r13 - (2 : Int)))))) (Opds.cons (Opd.tmp 67 (.d (.int .i64 (w64 (r14 - (2 : Int)))))) (Opds.cons (Opd.tmp 70 (.d (.int .i64 (w64 (r15 - (2 : Int)))))) (Opds.cons (Opd.tmp 73 (.d (.int .i64 (w64 (r16 - (1 : Int)))))) Opds.nil)))) (by kernel_rfl) (es := ([(.int .i64 (w64 (r13 - (2 : Int)))), (.int .i64 (w64 (r14 - (2 : Int)))), (.int .i64 (w64 (r15 - (2 : Int)))), (.int .i64 (w64 (r16 - (1 : Int))))] : List D)) (by rfl) (by rfl) (by kernel_rfl) (by simp) (ltN hN rfl))
      (OpJs.cons (OpJ.buildSlice Try.underlying24 tyS23 tyZD23 (by rfl) (by decide) (by decide) (Opds.cons (Opd.tmp 48 (.d (.list 1 (([m5, r7, r8, (w64 ((1 : Int) + r9))] : List Int).map (eI .i64))))) (Opds.cons (Opd.tmp 61 (.d (.list 1 (([m5, r7, (w64 (r10 - (2 : Int))), x12] : List Int).map (eI .i64))))) (Opds.cons (Opd.tmp 74 (.d (.list 1 (([(w64 (r13 - (2 : Int))), (w64 (r14 - (2 : Int))), (w64 (r15 - (2 : Int))), (w64 (r16 - (1 : Int)))] : List Int).map (eI .i64))))) Opds.nil))) (by kernel_rfl) (es := ([(.list 1 (([m5, r7, r8, (w64 ((1 : Int) + r9))] : List Int).map (eI .i64))), (.list 1 (([m5, r7, (w64 (r10 - (2 : Int))), x12] : List Int).map (eI .i64))), (.list 1 (([(w64 (r13 - (2 : Int))), (w64 (r14 - (2 : Int))), (w64 (r15 - (2 : Int))), (w64 (r16 - (1 : Int)))] : List Int).map (eI .i64)))] : List D)) (by rfl) (by rfl) (by kernel_rfl) (by simp) (ltN hN rfl))
      (OpJs.cons (OpJ.val (v' := (.d (.int .i64 (([([m5, r7, r8, (w64 ((1 : Int) + r9))] : List Int), ([m5, r7, (w64 (r10 - (2 : Int))), x12] : List Int), ([(w64 (r13 - (2 : Int))), (w64 (r14 - (2 : Int))), (w64 (r15 - (2 : Int))), (w64 (r16 - (1 : Int)))] : List Int)] : List (List Int)).length : Int)))) (by simp) (OpJ.lenD Try.underlying24 (ltN hN rfl) (Opd.tmp 75 (.d (.list 1 (([([m5, r7, r8, (w64 ((1 : Int) + r9))] : List Int), ([m5, r7, (w64 (r10 - (2 : Int))), x12] : List Int), ([(w64 (r13 - (2 : Int))), (w64 (r14 - (2 : Int))), (w64 (r15 - (2 : Int))), (w64 (r16 - (1 : Int)))] : List Int)] : List (List Int)).map e_LeIi64))))))
      (OpJs.cons (OpJ.move (ltN hN rfl) (Opd.int .i64 (0)))
      (OpJs.nil)))))))))))))))))))))))))))))))))))))))) (by kernel_rfl) (by rfl) (by rfl) ?_
    refine seqQ_n ?_
    refine AWp.ghost (Mat.pat [] [(2, (.d (.int .i64 a2))), (4, (.d (.int .i64 a4))), (11, (.d (.int .i64 m5))), (12, (.d (.int .i64 r7))), (75, (.d (.list 1 (([([m5, r7, r8, (w64 ((1 : Int) + r9))] : List Int), ([m5, r7, (w64 (r10 - (2 : Int))), x12] : List Int), ([(w64 (r13 - (2 : Int))), (w64 (r14 - (2 : Int))), (w64 (r15 - (2 : Int))), (w64 (r16 - (1 : Int)))] : List Int)] : List (List Int)).map e_LeIi64)))), (76, (.d (.int .i64 (([([m5, r7, r8, (w64 ((1 : Int) + r9))] : List Int), ([m5, r7, (w64 (r10 - (2 : Int))), x12] : List Int), ([(w64 (r13 - (2 : Int))), (w64 (r14 - (2 : Int))), (w64 (r15 - (2 : Int))), (w64 (r16 - (1 : Int)))] : List Int)] : List (List Int)).length : Int)))), (77, (.d (.int .i64 (0 : Int))))] [] hB (by rfl) (by rfl) (by rfl)) ?_
    refine AWp.block ?_
    obtain ⟨x59, hx60, h⟩ := bindS h
    refine AWp.ghost (Mat.pat [] ((fun s17 : Int => ([(2, (.d (.int .i64 a2))), (4, (.d (.int .i64 a4))), (11, (.d (.int .i64 m5))), (12, (.d (.int .i64 r7))), (75, (.d (.list 1 (([([m5, r7, r8, (w64 ((1 : Int) + r9))] : List Int), ([m5, r7, (w64 (r10 - (2 : Int))), x12] : List Int), ([(w64 (r13 - (2 : Int))), (w64 (r14 - (2 : Int))), (w64 (r15 - (2 : Int))), (w64 (r16 - (1 : Int)))] : List Int)] : List (List Int)).map e_LeIi64)))), (76, (.d (.int .i64 (([([m5, r7, r8, (w64 ((1 : Int) + r9))] : List Int), ([m5, r7, (w64 (r10 - (2 : Int))), x12] : List Int), ([(w64 (r13 - (2 : Int))), (w64 (r14 - (2 : Int))), (w64 (r15 - (2 : Int))), (w64 (r16 - (1 : Int)))] : List Int)] : List (List Int)).length : Int)))), (77, (.d (.int .i64 s17)))] : EL)) (0 : Int)) ((fun s17 : Int => ([] : OL)) (0 : Int)) hB (by rfl) (by rfl) (by rfl)) ?_
    refine AWp.loopS (exchangepointlaw39_IntervalBounds_L0 m5 r7 r8 r9 r10 x12 r13 r14 r15 r16) (fun s17 : Int => ([(2, (.d (.int .i64 a2))), (4, (.d (.int .i64 a4))), (11, (.d (.int .i64 m5))), (12, (.d (.int .i64 r7))), (75, (.d (.list 1 (([([m5, r7, r8, (w64 ((1 : Int) + r9))] : List Int), ([m5, r7, (w64 (r10 - (2 : Int))), x12] : List Int), ([(w64 (r13 - (2 : Int))), (w64 (r14 - (2 : Int))), (w64 (r15 - (2 : Int))), (w64 (r16 - (1 : Int)))] : List Int)] : List (List Int)).map e_LeIi64)))), (76, (.d (.int .i64 (([([m5, r7, r8, (w64 ((1 : Int) + r9))] : List Int), ([m5, r7, (w64 (r10 - (2 : Int))), x12] : List Int), ([(w64 (r13 - (2 : Int))), (w64 (r14 - (2 : Int))), (w64 (r15 - (2 : Int))), (w64 (r16 - (1 : Int)))] : List Int)] : List (List Int)).length : Int)))), (77, (.d (.int .i64 s17)))] : EL)) (fun s17 : Int => ([] : OL)) (fun (x : (Unit) ⊕ (Unit)) e E' O' => match x with | (.inl _p) => e = .ret ∧ Mat B E' O' ([(10, (.d (.bool false)))] : EL) ([] : OL) | (.inr _p) => e = .exit 0 ∧ Mat B E' O' ([(2, (.d (.int .i64 a2))), (4, (.d (.int .i64 a4))), (11, (.d (.int .i64 m5))), (12, (.d (.int .i64 r7)))] : EL) ([] : OL)) hx60 (fun s17 y h => ?_) (fun e E' O' hR => ?_)
    · unfold exchangepointlaw39_IntervalBounds_L0 at h
      show AWp _ _ _ _ ([(2, (.d (.int .i64 a2))), (4, (.d (.int .i64 a4))), (11, (.d (.int .i64 m5))), (12, (.d (.int .i64 r7))), (75, (.d (.list 1 (([([m5, r7, r8, (w64 ((1 : Int) + r9))] : List Int), ([m5, r7, (w64 (r10 - (2 : Int))), x12] : List Int), ([(w64 (r13 - (2 : Int))), (w64 (r14 - (2 : Int))), (w64 (r15 - (2 : Int))), (w64 (r16 - (1 : Int)))] : List Int)] : List (List Int)).map e_LeIi64)))), (76, (.d (.int .i64 (([([m5, r7, r8, (w64 ((1 : Int) + r9))] : List Int), ([m5, r7, (w64 (r10 - (2 : Int))), x12] : List Int), ([(w64 (r13 - (2 : Int))), (w64 (r14 - (2 : Int))), (w64 (r15 - (2 : Int))), (w64 (r16 - (1 : Int)))] : List Int)] : List (List Int)).length : Int)))), (77, (.d (.int .i64 s17)))] : EL) ([] : OL)
      refine AWp.seq ?_
      refine AWp.region (OpJs.cons (OpJ.lss (ltN hN rfl) (Opd.tmp 77 (.d (.int .i64 s17))) (Opd.tmp 76 (.d (.int .i64 (([([m5, r7, r8, (w64 ((1 : Int) + r9))] : List Int), ([m5, r7, (w64 (r10 - (2 : Int))), x12] : List Int), ([(w64 (r13 - (2 : Int))), (w64 (r14 - (2 : Int))), (w64 (r15 - (2 : Int))), (w64 (r16 - (1 : Int)))] : List Int)] : List (List Int)).length : Int)))))
        (OpJs.nil)) (by rfl) (by rfl) ?_
      refine seqQ_n ?_
      refine AWp.ghost (Mat.pat [] [(2, (.d (.int .i64 a2))), (4, (.d (.int .i64 a4))), (11, (.d (.int .i64 m5))), (12, (.d (.int .i64 r7))), (75, (.d (.list 1 (([([m5, r7, r8, (w64 ((1 : Int) + r9))] : List Int), ([m5, r7, (w64 (r10 - (2 : Int))), x12] : List Int), ([(w64 (r13 - (2 : Int))), (w64 (r14 - (2 : Int))), (w64 (r15 - (2 : Int))), (w64 (r16 - (1 : Int)))] : List Int)] : List (List Int)).map e_LeIi64)))), (76, (.d (.int .i64 (([([m5, r7, r8, (w64 ((1 : Int) + r9))] : List Int), ([m5, r7, (w64 (r10 - (2 : Int))), x12] : List Int), ([(w64 (r13 - (2 : Int))), (w64 (r14 - (2 : Int))), (w64 (r15 - (2 : Int))), (w64 (r16 - (1 : Int)))] : List Int)] : List (List Int)).length : Int)))), (77, (.d (.int .i64 s17))), (78, (.d (.bool (decide (s17 < (([([m5, r7, r8, (w64 ((1 : Int) + r9))] : List Int), ([m5, r7, (w64 (r10 - (2 : Int))), x12] : List Int), ([(w64 (r13 - (2 : Int))), (w64 (r14 - (2 : Int))), (w64 (r15 - (2 : Int))), (w64 (r16 - (1 : Int)))] : List Int)] : List (List Int)).length : Int))))))] [] hB (by rfl) (by rfl) (by rfl)) ?_
      refine AWp.seq ?_
      refine AWp.cond (b := (decide (s17 < (([([m5, r7, r8, (w64 ((1 : Int) + r9))] : List Int), ([m5, r7, (w64 (r10 - (2 : Int))), x12] : List Int), ([(w64 (r13 - (2 : Int))), (w64 (r14 - (2 : Int))), (w64 (r15 - (2 : Int))), (w64 (r16 - (1 : Int)))] : List Int)] : List (List Int)).length : Int)))) (by rfl) (fun hg46 => ?_) (fun hg46 => ?_)
      · replace h := ite_t hg46 h
        refine AWp.skip ?_
        refine seqQ_n ?_
        refine AWp.seq ?_
        refine AWp.block ?_
        refine AWp.seq ?_
        obtain ⟨x47, hx47, h⟩ := bindS h
        refine AWp.region (OpJs.cons (OpJ.indexD (el := (.list 1 (x47.map (eI .i64)))) Try.underlying24 tyS23 (idx_some hx47).1 (get_map e_LeIi64 (idx_some hx47).2) (ltN hN rfl) (Opd.tmp 75 (.d (.list 1 (([([m5, r7, r8, (w64 ((1 : Int) + r9))] : List Int), ([m5, r7, (w64 (r10 - (2 : Int))), x12] : List Int), ([(w64 (r13 - (2 : Int))), (w64 (r14 - (2 : Int))), (w64 (r15 - (2 : Int))), (w64 (r16 - (1 : Int)))] : List Int)] : List (List Int)).map e_LeIi64)))) (Opd.tmp 77 (.d (.int .i64 s17))))
          (OpJs.cons (OpJ.loadD tyS23 (by rfl) (by rfl) (ltN hN rfl) (Opd.tmp 79 (.dptr (.list 1 (x47.map (eI .i64))))))
          (OpJs.cons (OpJ.assign (ltN hN rfl) (Opd.tmp 80 (.d (.list 1 (x47.map (eI .i64))))))
          (OpJs.nil)))) (by rfl) (by rfl) ?_
        refine seqQ_n ?_
        refine AWp.ghost (Mat.pat [] [(2, (.d (.int .i64 a2))), (4, (.d (.int .i64 a4))), (11, (.d (.int .i64 m5))), (12, (.d (.int .i64 r7))), (14, (.d (.list 1 (x47.map (eI .i64))))), (75, (.d (.list 1 (([([m5, r7, r8, (w64 ((1 : Int) + r9))] : List Int), ([m5, r7, (w64 (r10 - (2 : Int))), x12] : List Int), ([(w64 (r13 - (2 : Int))), (w64 (r14 - (2 : Int))), (w64 (r15 - (2 : Int))), (w64 (r16 - (1 : Int)))] : List Int)] : List (List Int)).map e_LeIi64)))), (76, (.d (.int .i64 (([([m5, r7, r8, (w64 ((1 : Int) + r9))] : List Int), ([m5, r7, (w64 (r10 - (2 : Int))), x12] : List Int), ([(w64 (r13 - (2 : Int))), (w64 (r14 - (2 : Int))), (w64 (r15 - (2 : Int))), (w64 (r16 - (1 : Int)))] : List Int)] : List (List Int)).length : Int)))), (77, (.d (.int .i64 s17)))] [] hB (by rfl) (by rfl) (by rfl)) ?_
        refine AWp.seq ?_
        obtain ⟨x48, hx48, h⟩ := bindS h
        obtain ⟨x49, hx49, h⟩ := bindS h
        obtain ⟨x50, hx50, h⟩ := bindS h
        obtain ⟨x51, hx51, h⟩ := bindS h
        obtain ⟨r52, hr52, h⟩ := bindS h
        refine AWp.draws (by kernel_rfl) (OpJs.cons (OpJ.move (ltN hN rfl) (Opd.tmp 14 (.d (.list 1 (x47.map (eI .i64))))))
          (OpJs.cons (OpJ.indexD (el := (.int .i64 x48)) Try.underlying23 tyS3 (idx_some hx48).1 (get_map (eI .i64) (idx_some hx48).2) (ltN hN rfl) (Opd.tmp 82 (.d (.list 1 (x47.map (eI .i64))))) (Opd.int .i64 (0)))
          (OpJs.cons (OpJ.loadD tyS3 (by rfl) (by rfl) (ltN hN rfl) (Opd.tmp 83 (.dptr (.int .i64 x48))))
          (OpJs.cons (OpJ.move (ltN hN rfl) (Opd.tmp 14 (.d (.list 1 (x47.map (eI .i64))))))
          (OpJs.cons (OpJ.indexD (el := (.int .i64 x49)) Try.underlying23 tyS3 (idx_some hx49).1 (get_map (eI .i64) (idx_some hx49).2) (ltN hN rfl) (Opd.tmp 85 (.d (.list 1 (x47.map (eI .i64))))) (Opd.int .i64 (1)))
          (OpJs.cons (OpJ.loadD tyS3 (by rfl) (by rfl) (ltN hN rfl) (Opd.tmp 86 (.dptr (.int .i64 x49))))
          (OpJs.cons (OpJ.move (ltN hN rfl) (Opd.tmp 14 (.d (.list 1 (x47.map (eI .i64))))))
          (OpJs.cons (OpJ.indexD (el := (.int .i64 x50)) Try.underlying23 tyS3 (idx_some hx50).1 (get_map (eI .i64) (idx_some hx50).2) (ltN hN rfl) (Opd.tmp 88 (.d (.list 1 (x47.map (eI .i64))))) (Opd.int .i64 (2)))
          (OpJs.cons (OpJ.loadD tyS3 (by rfl) (by rfl) (ltN hN rfl) (Opd.tmp 89 (.dptr (.int .i64 x50))))
          (OpJs.cons (OpJ.move (ltN hN rfl) (Opd.tmp 14 (.d (.list 1 (x47.map (eI .i64))))))
          (OpJs.cons (OpJ.indexD (el := (.int .i64 x51)) Try.underlying23 tyS3 (idx_some hx51).1 (get_map (eI .i64) (idx_some hx51).2) (ltN hN rfl) (Opd.tmp 91 (.d (.list 1 (x47.map (eI .i64))))) (Opd.int .i64 (3)))
          (OpJs.cons (OpJ.loadD tyS3 (by rfl) (by rfl) (ltN hN rfl) (Opd.tmp 92 (.dptr (.int .i64 x51))))
          (OpJs.cons (OpJ.callFn hB fnOk17 (interval_Bounds_ac x48 x49 x50 x51 r52 hr52) [] (by kernel_rfl) (ltN hN rfl) (by kernel_rfl) (OpdL.cons (Opd.tmp 84 (.d (.int .i64 x48))) (OpdL.cons (Opd.tmp 87 (.d (.int .i64 x49))) (OpdL.cons (Opd.tmp 90 (.d (.int .i64 x50))) (OpdL.cons (Opd.tmp 93 (.d (.int .i64 x51))) OpdL.nil)))))
          (OpJs.cons (OpJ.move (ltN hN rfl) (Opd.tmp 94 (.tup [(.d (.int .i64 r52.1)), (.d (.int .i64 r52.2.1)), (.d (.int .i64 r52.2.2))])))
          (OpJs.cons (OpJ.extract (v := (.d (.int .i64 r52.1))) (by rfl) rfl (ltN hN rfl) (Opd.tmp 81 (.tup [(.d (.int .i64 r52.1)), (.d (.int .i64 r52.2.1)), (.d (.int .i64 r52.2.2))])))
          (OpJs.cons (OpJ.extract (v := (.d (.int .i64 r52.2.1))) (by rfl) rfl (ltN hN rfl) (Opd.tmp 81 (.tup [(.d (.int .i64 r52.1)), (.d (.int .i64 r52.2.1)), (.d (.int .i64 r52.2.2))])))
          (OpJs.cons (OpJ.extract (v := (.d (.int .i64 r52.2.2))) (by rfl) rfl (ltN hN rfl) (Opd.tmp 81 (.tup [(.d (.int .i64 r52.1)), (.d (.int .i64 r52.2.1)), (.d (.int .i64 r52.2.2))])))
          (OpJs.cons (OpJ.assign (ltN hN rfl) (Opd.tmp 95 (.d (.int .i64 r52.1))))
          (OpJs.cons (OpJ.assign (ltN hN rfl) (Opd.tmp 96 (.d (.int .i64 r52.2.1))))
          (OpJs.cons (OpJ.assign (ltN hN rfl) (Opd.tmp 97 (.d (.int .i64 r52.2.2))))
          (OpJs.nil))))))))))))))))))))) (by kernel_rfl) (by rfl) (by rfl) ?_
        refine seqQ_n ?_
        refine AWp.ghost (Mat.pat [] [(2, (.d (.int .i64 a2))), (4, (.d (.int .i64 a4))), (11, (.d (.int .i64 m5))), (12, (.d (.int .i64 r7))), (14, (.d (.list 1 (x47.map (eI .i64))))), (15, (.d (.int .i64 r52.1))), (16, (.d (.int .i64 r52.2.1))), (17, (.d (.int .i64 r52.2.2))), (75, (.d (.list 1 (([([m5, r7, r8, (w64 ((1 : Int) + r9))] : List Int), ([m5, r7, (w64 (r10 - (2 : Int))), x12] : List Int), ([(w64 (r13 - (2 : Int))), (w64 (r14 - (2 : Int))), (w64 (r15 - (2 : Int))), (w64 (r16 - (1 : Int)))] : List Int)] : List (List Int)).map e_LeIi64)))), (76, (.d (.int .i64 (([([m5, r7, r8, (w64 ((1 : Int) + r9))] : List Int), ([m5, r7, (w64 (r10 - (2 : Int))), x12] : List Int), ([(w64 (r13 - (2 : Int))), (w64 (r14 - (2 : Int))), (w64 (r15 - (2 : Int))), (w64 (r16 - (1 : Int)))] : List Int)] : List (List Int)).length : Int)))), (77, (.d (.int .i64 s17)))] [] hB (by rfl) (by rfl) (by rfl)) ?_
        refine AWp.seq ?_
        obtain ⟨x53, hx53, h⟩ := bindS h
        obtain ⟨x54, hx54, h⟩ := bindS h
        obtain ⟨x55, hx55, h⟩ := bindS h
        obtain ⟨x56, hx56, h⟩ := bindS h
        obtain ⟨r57, hr57, h⟩ := bindS h
        refine AWp.draws (by kernel_rfl) (OpJs.cons (OpJ.move (ltN hN rfl) (Opd.tmp 14 (.d (.list 1 (x47.map (eI .i64))))))
          (OpJs.cons (OpJ.indexD (el := (.int .i64 x53)) Try.underlying23 tyS3 (idx_some hx53).1 (get_map (eI .i64) (idx_some hx53).2) (ltN hN rfl) (Opd.tmp 99 (.d (.list 1 (x47.map (eI .i64))))) (Opd.int .i64 (0)))
          (OpJs.cons (OpJ.loadD tyS3 (by rfl) (by rfl) (ltN hN rfl) (Opd.tmp 100 (.dptr (.int .i64 x53))))
          (OpJs.cons (OpJ.move (ltN hN rfl) (Opd.tmp 14 (.d (.list 1 (x47.map (eI .i64))))))
          (OpJs.cons (OpJ.indexD (el := (.int .i64 x54)) Try.underlying23 tyS3 (idx_some hx54).1 (get_map (eI .i64) (idx_some hx54).2) (ltN hN rfl) (Opd.tmp 102 (.d (.list 1 (x47.map (eI .i64))))) (Opd.int .i64 (1)))
          (OpJs.cons (OpJ.loadD tyS3 (by rfl) (by rfl) (ltN hN rfl) (Opd.tmp 103 (.dptr (.int .i64 x54))))
          (OpJs.cons (OpJ.move (ltN hN rfl) (Opd.tmp 14 (.d (.list 1 (x47.map (eI .i64))))))
          (OpJs.cons (OpJ.indexD (el := (.int .i64 x55)) Try.underlying23 tyS3 (idx_some hx55).1 (get_map (eI .i64) (idx_some hx55).2) (ltN hN rfl) (Opd.tmp 105 (.d (.list 1 (x47.map (eI .i64))))) (Opd.int .i64 (2)))
          (OpJs.cons (OpJ.loadD tyS3 (by rfl) (by rfl) (ltN hN rfl) (Opd.tmp 106 (.dptr (.int .i64 x55))))
          (OpJs.cons (OpJ.move (ltN hN rfl) (Opd.tmp 14 (.d (.list 1 (x47.map (eI .i64))))))
          (OpJs.cons (OpJ.indexD (el := (.int .i64 x56)) Try.underlying23 tyS3 (idx_some hx56).1 (get_map (eI .i64) (idx_some hx56).2) (ltN hN rfl) (Opd.tmp 108 (.d (.list 1 (x47.map (eI .i64))))) (Opd.int .i64 (3)))
          (OpJs.cons (OpJ.loadD tyS3 (by rfl) (by rfl) (ltN hN rfl) (Opd.tmp 109 (.dptr (.int .i64 x56))))
          (OpJs.cons (OpJ.callFn hB fnOk19 (exchangepointref39_Bounds_ac x53 x54 x55 x56 r57 hr57) [] (by kernel_rfl) (ltN hN rfl) (by kernel_rfl) (OpdL.cons (Opd.tmp 101 (.d (.int .i64 x53))) (OpdL.cons (Opd.tmp 104 (.d (.int .i64 x54))) (OpdL.cons (Opd.tmp 107 (.d (.int .i64 x55))) (OpdL.cons (Opd.tmp 110 (.d (.int .i64 x56))) OpdL.nil)))))
          (OpJs.cons (OpJ.move (ltN hN rfl) (Opd.tmp 111 (.tup [(.d (.int .i64 r57.1)), (.d (.int .i64 r57.2.1)), (.d (.int .i64 r57.2.2))])))
          (OpJs.cons (OpJ.extract (v := (.d (.int .i64 r57.1))) (by rfl) rfl (ltN hN rfl) (Opd.tmp 98 (.tup [(.d (.int .i64 r57.1)), (.d (.int .i64 r57.2.1)), (.d (.int .i64 r57.2.2))])))
          (OpJs.cons (OpJ.extract (v := (.d (.int .i64 r57.2.1))) (by rfl) rfl (ltN hN rfl) (Opd.tmp 98 (.tup [(.d (.int .i64 r57.1)), (.d (.int .i64 r57.2.1)), (.d (.int .i64 r57.2.2))])))
          (OpJs.cons (OpJ.extract (v := (.d (.int .i64 r57.2.2))) (by rfl) rfl (ltN hN rfl) (Opd.tmp 98 (.tup [(.d (.int .i64 r57.1)), (.d (.int .i64 r57.2.1)), (.d (.int .i64 r57.2.2))])))
          (OpJs.cons (OpJ.assign (ltN hN rfl) (Opd.tmp 112 (.d (.int .i64 r57.1))))
          (OpJs.cons (OpJ.assign (ltN hN rfl) (Opd.tmp 113 (.d (.int .i64 r57.2.1))))
          (OpJs.cons (OpJ.assign (ltN hN rfl) (Opd.tmp 114 (.d (.int .i64 r57.2.2))))
          (OpJs.nil))))))))))))))))))))) (by kernel_rfl) (by rfl) (by rfl) ?_
        refine seqQ_n ?_
        refine AWp.ghost (Mat.pat [] [(2, (.d (.int .i64 a2))), (4, (.d (.int .i64 a4))), (11, (.d (.int .i64 m5))), (12, (.d (.int .i64 r7))), (15, (.d (.int .i64 r52.1))), (16, (.d (.int .i64 r52.2.1))), (17, (.d (.int .i64 r52.2.2))), (18, (.d (.int .i64 r57.1))), (19, (.d (.int .i64 r57.2.1))), (20, (.d (.int .i64 r57.2.2))), (75, (.d (.list 1 (([([m5, r7, r8, (w64 ((1 : Int) + r9))] : List Int), ([m5, r7, (w64 (r10 - (2 : Int))), x12] : List Int), ([(w64 (r13 - (2 : Int))), (w64 (r14 - (2 : Int))), (w64 (r15 - (2 : Int))), (w64 (r16 - (1 : Int)))] : List Int)] : List (List Int)).map e_LeIi64)))), (76, (.d (.int .i64 (([([m5, r7, r8, (w64 ((1 : Int) + r9))] : List Int), ([m5, r7, (w64 (r10 - (2 : Int))), x12] : List Int), ([(w64 (r13 - (2 : Int))), (w64 (r14 - (2 : Int))), (w64 (r15 - (2 : Int))), (w64 (r16 - (1 : Int)))] : List Int)] : List (List Int)).length : Int)))), (77, (.d (.int .i64 s17)))] [] hB (by rfl) (by rfl) (by rfl)) ?_
        refine AWp.seq ?_
        refine AWp.region (OpJs.cons (OpJ.move (ltN hN rfl) (Opd.tmp 15 (.d (.int .i64 r52.1))))
          (OpJs.cons (OpJ.move (ltN hN rfl) (Opd.tmp 18 (.d (.int .i64 r57.1))))
          (OpJs.cons (OpJ.neqI (ltN hN rfl) (Opd.tmp 115 (.d (.int .i64 r52.1))) (Opd.tmp 116 (.d (.int .i64 r57.1))))
          (OpJs.cons (OpJ.move (ltN hN rfl) (Opd.tmp 117 (.d (.bool (r52.1 != r57.1)))))
          (OpJs.cons (OpJ.opt' (v := (.d (.int .i64 r52.2.1))) (OpJ.move (ltN hN rfl) (Opd.tmp 16 (.d (.int .i64 r52.2.1)))) (by rfl) (GuardV.plain _) (ltN hN rfl) (by rfl) (by rfl) (by rfl) (by rfl) (OptL.keep rfl OptL.nil))
          (OpJs.cons (OpJ.opt' (v := (.d (.int .i64 r57.2.1))) (OpJ.move (ltN hN rfl) (Opd.tmp 19 (.d (.int .i64 r57.2.1)))) (by rfl) (GuardV.plain _) (ltN hN rfl) (by rfl) (by rfl) (by rfl) (by rfl) (OptL.keep rfl OptL.nil))
          (OpJs.cons (OpJ.opt' (v := (.d (.bool (r52.2.1 != r57.2.1)))) (OpJ.neqI (ltN hN rfl) (Opd.tmp 119 (.d (.int .i64 r52.2.1))) (Opd.tmp 120 (.d (.int .i64 r57.2.1)))) (by rfl) (GuardV.plain _) (ltN hN rfl) (by rfl) (by rfl) (by rfl) (by rfl) (OptL.opt (OptL.opt OptL.nil)))
          (OpJs.cons (OpJ.pickOr rfl (ltN hN rfl) (Opd.tmp 118 (.d (.bool (r52.1 != r57.1)))) (Opd.tmp 121 (.opt ((r52.1 != r57.1) == false) (.d (.bool (r52.2.1 != r57.2.1))))))
          (OpJs.cons (OpJ.move (ltN hN rfl) (Opd.tmp 122 (.d (.bool ((r52.1 != r57.1) || (r52.2.1 != r57.2.1))))))
          (OpJs.cons (OpJ.opt' (v := (.d (.int .i64 r52.2.2))) (OpJ.move (ltN hN rfl) (Opd.tmp 17 (.d (.int .i64 r52.2.2)))) (by rfl) (GuardV.plain _) (ltN hN rfl) (by rfl) (by rfl) (by rfl) (by rfl) (OptL.keep rfl OptL.nil))
          (OpJs.cons (OpJ.opt' (v := (.d (.int .i64 r57.2.2))) (OpJ.move (ltN hN rfl) (Opd.tmp 20 (.d (.int .i64 r57.2.2)))) (by rfl) (GuardV.plain _) (ltN hN rfl) (by rfl) (by rfl) (by rfl) (by rfl) (OptL.keep rfl OptL.nil))
          (OpJs.cons (OpJ.opt' (v := (.d (.bool (r52.2.2 != r57.2.2)))) (OpJ.neqI (ltN hN rfl) (Opd.tmp 124 (.d (.int .i64 r52.2.2))) (Opd.tmp 125 (.d (.int .i64 r57.2.2)))) (by rfl) (GuardV.plain _) (ltN hN rfl) (by rfl) (by rfl) (by rfl) (by rfl) (OptL.opt (OptL.opt OptL.nil)))
          (OpJs.cons (OpJ.pickOr rfl (ltN hN rfl) (Opd.tmp 123 (.d (.bool ((r52.1 != r57.1) || (r52.2.1 != r57.2.1))))) (Opd.tmp 126 (.opt (((r52.1 != r57.1) || (r52.2.1 != r57.2.1)) == false) (.d (.bool (r52.2.2 != r57.2.2))))))
          (OpJs.nil)))))))))))))) (by rfl) (by rfl) ?_
        refine seqQ_n ?_
        refine AWp.ghost (Mat.pat [] [(2, (.d (.int .i64 a2))), (4, (.d (.int .i64 a4))), (11, (.d (.int .i64 m5))), (12, (.d (.int .i64 r7))), (75, (.d (.list 1 (([([m5, r7, r8, (w64 ((1 : Int) + r9))] : List Int), ([m5, r7, (w64 (r10 - (2 : Int))), x12] : List Int), ([(w64 (r13 - (2 : Int))), (w64 (r14 - (2 : Int))), (w64 (r15 - (2 : Int))), (w64 (r16 - (1 : Int)))] : List Int)] : List (List Int)).map e_LeIi64)))), (76, (.d (.int .i64 (([([m5, r7, r8, (w64 ((1 : Int) + r9))] : List Int), ([m5, r7, (w64 (r10 - (2 : Int))), x12] : List Int), ([(w64 (r13 - (2 : Int))), (w64 (r14 - (2 : Int))), (w64 (r15 - (2 : Int))), (w64 (r16 - (1 : Int)))] : List Int)] : List (List Int)).length : Int)))), (77, (.d (.int .i64 s17))), (127, (.d (.bool (((r52.1 != r57.1) || (r52.2.1 != r57.2.1)) || (r52.2.2 != r57.2.2)))))] [] hB (by rfl) (by rfl) (by rfl)) ?_
        refine AWp.cond (b := (((r52.1 != r57.1) || (r52.2.1 != r57.2.1)) || (r52.2.2 != r57.2.2))) (by rfl) (fun hg58 => ?_) (fun hg58 => ?_)
        · replace h := ite_t hg58 h
          refine AWp.seq ?_
          refine AWp.region (OpJs.cons (OpJ.assign (ltN hN rfl) (Opd.bool false))
            (OpJs.nil)) (by rfl) (by rfl) ?_
          refine seqQ_n ?_
          refine AWp.ghost (Mat.pat [] [(10, (.d (.bool false)))] [] hB (by rfl) (by rfl) (by rfl)) ?_
          refine AWp.ret ?_
          refine blkQ_r ?_
          refine seqQ_r ?_
          obtain rfl := Option.some.inj h
          exact ⟨(fun hc => by cases hc), rfl, (Mat.pat [] ((fun _ : Unit => ([(10, (.d (.bool false)))] : EL)) ()) ((fun _ : Unit => ([] : OL)) ()) hB (by rfl) (by rfl) (by rfl))⟩
        · replace h := ite_f hg58 h
          refine AWp.skip ?_
          refine blkQ_n ?_
          refine seqQ_n ?_
          refine AWp.region (OpJs.cons (OpJ.add (ltN hN rfl) (Opd.tmp 77 (.d (.int .i64 s17))) (Opd.int .i64 (1)))
            (OpJs.cons (OpJ.move (ltN hN rfl) (Opd.tmp 128 (.d (.int .i64 (w64 (s17 + (1 : Int)))))))
            (OpJs.nil))) (by rfl) (by rfl) ?_
          obtain rfl := Option.some.inj h
          exact ⟨rfl, (Mat.trans (Mat.pat [] [(2, (.d (.int .i64 a2))), (4, (.d (.int .i64 a4))), (11, (.d (.int .i64 m5))), (12, (.d (.int .i64 r7))), (75, (.d (.list 1 (([([m5, r7, r8, (w64 ((1 : Int) + r9))] : List Int), ([m5, r7, (w64 (r10 - (2 : Int))), x12] : List Int), ([(w64 (r13 - (2 : Int))), (w64 (r14 - (2 : Int))), (w64 (r15 - (2 : Int))), (w64 (r16 - (1 : Int)))] : List Int)] : List (List Int)).map e_LeIi64)))), (76, (.d (.int .i64 (([([m5, r7, r8, (w64 ((1 : Int) + r9))] : List Int), ([m5, r7, (w64 (r10 - (2 : Int))), x12] : List Int), ([(w64 (r13 - (2 : Int))), (w64 (r14 - (2 : Int))), (w64 (r15 - (2 : Int))), (w64 (r16 - (1 : Int)))] : List Int)] : List (List Int)).length : Int)))), (77, (.d (.int .i64 (w64 (s17 + (1 : Int))))))] [] hB (by rfl) (by rfl) (by rfl)) (Mat.pat [] ((fun s17 : Int => ([(2, (.d (.int .i64 a2))), (4, (.d (.int .i64 a4))), (11, (.d (.int .i64 m5))), (12, (.d (.int .i64 r7))), (75, (.d (.list 1 (([([m5, r7, r8, (w64 ((1 : Int) + r9))] : List Int), ([m5, r7, (w64 (r10 - (2 : Int))), x12] : List Int), ([(w64 (r13 - (2 : Int))), (w64 (r14 - (2 : Int))), (w64 (r15 - (2 : Int))), (w64 (r16 - (1 : Int)))] : List Int)] : List (List Int)).map e_LeIi64)))), (76, (.d (.int .i64 (([([m5, r7, r8, (w64 ((1 : Int) + r9))] : List Int), ([m5, r7, (w64 (r10 - (2 : Int))), x12] : List Int), ([(w64 (r13 - (2 : Int))), (w64 (r14 - (2 : Int))), (w64 (r15 - (2 : Int))), (w64 (r16 - (1 : Int)))] : List Int)] : List (List Int)).length : Int)))), (77, (.d (.int .i64 s17)))] : EL)) (w64 (s17 + (1 : Int)))) ((fun s17 : Int => ([] : OL)) (w64 (s17 + (1 : Int)))) hB (by rfl) (by rfl) (by rfl)))⟩
      · replace h := ite_f hg46 h
        refine AWp.exit ?_
        refine seqQ_e ?_
        obtain rfl := Option.some.inj h
        exact ⟨(fun hc => by cases hc), rfl, (Mat.pat [] ((fun _ : Unit => ([(2, (.d (.int .i64 a2))), (4, (.d (.int .i64 a4))), (11, (.d (.int .i64 m5))), (12, (.d (.int .i64 r7)))] : EL)) ()) ((fun _ : Unit => ([] : OL)) ()) hB (by rfl) (by rfl) (by rfl))⟩
    · rcases x59 with _ | _
      · obtain ⟨rfl, hmat⟩ := hR
        refine blkQ_r ?_
        refine seqQ_r ?_
        obtain rfl := Option.some.inj h
        exact ⟨.inl rfl, _, _, (Mat.trans hmat (Mat.pat [] [(10, (.d (.bool false)))] [] hB (by rfl) (by rfl) (by rfl))), [(.d (.bool false))], (Res.tmp (by rfl) (by rfl) Res.nil), rfl, by rfl, by rfl, by rfl⟩
      · obtain ⟨rfl, hmat⟩ := hR
        refine blkQ_hit ?_
        refine seqQ_n ?_
        refine AWp.ghost hmat ?_
        refine AWp.seq ?_
        refine AWp.region (OpJs.cons (OpJ.move (ltN hN rfl) (Opd.tmp 11 (.d (.int .i64 m5))))
          (OpJs.cons (OpJ.min (ltN hN rfl) (Opd.tmp 129 (.d (.int .i64 m5))) (Opd.int .i64 (16)))
          (OpJs.cons (OpJ.assign (ltN hN rfl) (Opd.tmp 130 (.d (.int .i64 (minI m5 (16 : Int))))))
          (OpJs.nil)))) (by rfl) (by rfl) ?_
        refine seqQ_n ?_
        refine AWp.ghost (Mat.pat [] [(2, (.d (.int .i64 a2))), (4, (.d (.int .i64 a4))), (12, (.d (.int .i64 r7))), (21, (.d (.int .i64 (minI m5 (16 : Int)))))] [] hB (by rfl) (by rfl) (by rfl)) ?_
        refine AWp.seq ?_
        obtain ⟨r61, hr61, h⟩ := bindS h
        obtain ⟨r62, hr62, h⟩ := bindS h
        obtain ⟨r63, hr63, h⟩ := bindS h
        refine AWp.region (OpJs.cons (OpJ.move (ltN hN rfl) (Opd.tmp 21 (.d (.int .i64 (minI m5 (16 : Int))))))
          (OpJs.cons (OpJ.move (ltN hN rfl) (Opd.tmp 12 (.d (.int .i64 r7))))
          (OpJs.cons (OpJ.move (ltN hN rfl) (Opd.tmp 21 (.d (.int .i64 (minI m5 (16 : Int))))))
          (OpJs.cons (OpJ.min (ltN hN rfl) (Opd.tmp 133 (.d (.int .i64 r7))) (Opd.tmp 134 (.d (.int .i64 (minI m5 (16 : Int))))))
          (OpJs.cons (OpJ.move (ltN hN rfl) (Opd.tmp 2 (.d (.int .i64 a2))))
          (OpJs.cons (OpJ.move (ltN hN rfl) (Opd.tmp 21 (.d (.int .i64 (minI m5 (16 : Int))))))
          (OpJs.cons (OpJ.add (ltN hN rfl) (Opd.tmp 137 (.d (.int .i64 (minI m5 (16 : Int))))) (Opd.int .i64 (1)))
          (OpJs.cons (OpJ.callFn hB fnOk9 (exchangepointmill_Mod_ac a2 (w64 ((minI m5 (16 : Int)) + (1 : Int))) r61 hr61) [] (by kernel_rfl) (ltN hN rfl) (by kernel_rfl) (OpdL.cons (Opd.tmp 136 (.d (.int .i64 a2))) (OpdL.cons (Opd.tmp 138 (.d (.int .i64 (w64 ((minI m5 (16 : Int)) + (1 : Int)))))) OpdL.nil)))
          (OpJs.cons (OpJ.move (ltN hN rfl) (Opd.tmp 4 (.d (.int .i64 a4))))
          (OpJs.cons (OpJ.callFn hB fnOk9 (exchangepointmill_Mod_ac a4 (999 : Int) r62 hr62) [] (by kernel_rfl) (ltN hN rfl) (by kernel_rfl) (OpdL.cons (Opd.tmp 140 (.d (.int .i64 a4))) (OpdL.cons (Opd.int .i64 (999)) OpdL.nil)))
          (OpJs.cons (OpJ.add (ltN hN rfl) (Opd.int .i64 (1)) (Opd.tmp 141 (.d (.int .i64 r62))))
          (OpJs.cons (OpJ.callFn hB fnOk18 (interval_Cover_ac (minI m5 (16 : Int)) (minI r7 (minI m5 (16 : Int))) r61 (w64 ((1 : Int) + r62)) r63 hr63) [] (by kernel_rfl) (ltN hN rfl) (by kernel_rfl) (OpdL.cons (Opd.tmp 132 (.d (.int .i64 (minI m5 (16 : Int))))) (OpdL.cons (Opd.tmp 135 (.d (.int .i64 (minI r7 (minI m5 (16 : Int)))))) (OpdL.cons (Opd.tmp 139 (.d (.int .i64 r61))) (OpdL.cons (Opd.tmp 142 (.d (.int .i64 (w64 ((1 : Int) + r62))))) OpdL.nil)))))
          (OpJs.cons (OpJ.move (ltN hN rfl) (Opd.tmp 143 (.tup [(.d (.int .i64 r63.1)), (.d (.int .i64 r63.2.1)), (.d (.int .i64 r63.2.2))])))
          (OpJs.cons (OpJ.extract (v := (.d (.int .i64 r63.1))) (by rfl) rfl (ltN hN rfl) (Opd.tmp 131 (.tup [(.d (.int .i64 r63.1)), (.d (.int .i64 r63.2.1)), (.d (.int .i64 r63.2.2))])))
          (OpJs.cons (OpJ.extract (v := (.d (.int .i64 r63.2.1))) (by rfl) rfl (ltN hN rfl) (Opd.tmp 131 (.tup [(.d (.int .i64 r63.1)), (.d (.int .i64 r63.2.1)), (.d (.int .i64 r63.2.2))])))
          (OpJs.cons (OpJ.extract (v := (.d (.int .i64 r63.2.2))) (by rfl) rfl (ltN hN rfl) (Opd.tmp 131 (.tup [(.d (.int .i64 r63.1)), (.d (.int .i64 r63.2.1)), (.d (.int .i64 r63.2.2))])))
          (OpJs.cons (OpJ.assign (ltN hN rfl) (Opd.tmp 144 (.d (.int .i64 r63.1))))
          (OpJs.cons (OpJ.assign (ltN hN rfl) (Opd.tmp 145 (.d (.int .i64 r63.2.1))))
          (OpJs.cons (OpJ.assign (ltN hN rfl) (Opd.tmp 146 (.d (.int .i64 r63.2.2))))
          (OpJs.nil)))))))))))))))))))) (by rfl) (by rfl) ?_
        refine seqQ_n ?_
        refine AWp.ghost (Mat.pat [] [(2, (.d (.int .i64 a2))), (4, (.d (.int .i64 a4))), (12, (.d (.int .i64 r7))), (21, (.d (.int .i64 (minI m5 (16 : Int))))), (22, (.d (.int .i64 r63.1))), (23, (.d (.int .i64 r63.2.1))), (24, (.d (.int .i64 r63.2.2)))] [] hB (by rfl) (by rfl) (by rfl)) ?_
        refine AWp.seq ?_
        obtain ⟨r64, hr64, h⟩ := bindS h
        obtain ⟨r65, hr65, h⟩ := bindS h
        obtain ⟨r66, hr66, h⟩ := bindS h
        refine AWp.region (OpJs.cons (OpJ.move (ltN hN rfl) (Opd.tmp 21 (.d (.int .i64 (minI m5 (16 : Int))))))
          (OpJs.cons (OpJ.move (ltN hN rfl) (Opd.tmp 12 (.d (.int .i64 r7))))
          (OpJs.cons (OpJ.move (ltN hN rfl) (Opd.tmp 21 (.d (.int .i64 (minI m5 (16 : Int))))))
          (OpJs.cons (OpJ.min (ltN hN rfl) (Opd.tmp 149 (.d (.int .i64 r7))) (Opd.tmp 150 (.d (.int .i64 (minI m5 (16 : Int))))))
          (OpJs.cons (OpJ.move (ltN hN rfl) (Opd.tmp 2 (.d (.int .i64 a2))))
          (OpJs.cons (OpJ.move (ltN hN rfl) (Opd.tmp 21 (.d (.int .i64 (minI m5 (16 : Int))))))
          (OpJs.cons (OpJ.add (ltN hN rfl) (Opd.tmp 153 (.d (.int .i64 (minI m5 (16 : Int))))) (Opd.int .i64 (1)))
          (OpJs.cons (OpJ.callFn hB fnOk9 (exchangepointmill_Mod_ac a2 (w64 ((minI m5 (16 : Int)) + (1 : Int))) r64 hr64) [] (by kernel_rfl) (ltN hN rfl) (by kernel_rfl) (OpdL.cons (Opd.tmp 152 (.d (.int .i64 a2))) (OpdL.cons (Opd.tmp 154 (.d (.int .i64 (w64 ((minI m5 (16 : Int)) + (1 : Int)))))) OpdL.nil)))
          (OpJs.cons (OpJ.move (ltN hN rfl) (Opd.tmp 4 (.d (.int .i64 a4))))
          (OpJs.cons (OpJ.callFn hB fnOk9 (exchangepointmill_Mod_ac a4 (999 : Int) r65 hr65) [] (by kernel_rfl) (ltN hN rfl) (by kernel_rfl) (OpdL.cons (Opd.tmp 156 (.d (.int .i64 a4))) (OpdL.cons (Opd.int .i64 (999)) OpdL.nil)))
          (OpJs.cons (OpJ.add (ltN hN rfl) (Opd.int .i64 (1)) (Opd.tmp 157 (.d (.int .i64 r65))))
          (OpJs.cons (OpJ.callFn hB fnOk20 (exchangepointref39_Cover_ac (minI m5 (16 : Int)) (minI r7 (minI m5 (16 : Int))) r64 (w64 ((1 : Int) + r65)) r66 hr66) [] (by kernel_rfl) (ltN hN rfl) (by kernel_rfl) (OpdL.cons (Opd.tmp 148 (.d (.int .i64 (minI m5 (16 : Int))))) (OpdL.cons (Opd.tmp 151 (.d (.int .i64 (minI r7 (minI m5 (16 : Int)))))) (OpdL.cons (Opd.tmp 155 (.d (.int .i64 r64))) (OpdL.cons (Opd.tmp 158 (.d (.int .i64 (w64 ((1 : Int) + r65))))) OpdL.nil)))))
          (OpJs.cons (OpJ.move (ltN hN rfl) (Opd.tmp 159 (.tup [(.d (.int .i64 r66.1)), (.d (.int .i64 r66.2.1)), (.d (.int .i64 r66.2.2))])))
          (OpJs.cons (OpJ.extract (v := (.d (.int .i64 r66.1))) (by rfl) rfl (ltN hN rfl) (Opd.tmp 147 (.tup [(.d (.int .i64 r66.1)), (.d (.int .i64 r66.2.1)), (.d (.int .i64 r66.2.2))])))
          (OpJs.cons (OpJ.extract (v := (.d (.int .i64 r66.2.1))) (by rfl) rfl (ltN hN rfl) (Opd.tmp 147 (.tup [(.d (.int .i64 r66.1)), (.d (.int .i64 r66.2.1)), (.d (.int .i64 r66.2.2))])))
          (OpJs.cons (OpJ.extract (v := (.d (.int .i64 r66.2.2))) (by rfl) rfl (ltN hN rfl) (Opd.tmp 147 (.tup [(.d (.int .i64 r66.1)), (.d (.int .i64 r66.2.1)), (.d (.int .i64 r66.2.2))])))
          (OpJs.cons (OpJ.assign (ltN hN rfl) (Opd.tmp 160 (.d (.int .i64 r66.1))))
          (OpJs.cons (OpJ.assign (ltN hN rfl) (Opd.tmp 161 (.d (.int .i64 r66.2.1))))
          (OpJs.cons (OpJ.assign (ltN hN rfl) (Opd.tmp 162 (.d (.int .i64 r66.2.2))))
          (OpJs.nil)))))))))))))))))))) (by rfl) (by rfl) ?_
        refine seqQ_n ?_
        refine AWp.ghost (Mat.pat [] [(22, (.d (.int .i64 r63.1))), (23, (.d (.int .i64 r63.2.1))), (24, (.d (.int .i64 r63.2.2))), (25, (.d (.int .i64 r66.1))), (26, (.d (.int .i64 r66.2.1))), (27, (.d (.int .i64 r66.2.2)))] [] hB (by rfl) (by rfl) (by rfl)) ?_
        refine AWp.seq ?_
        refine AWp.cut h (fun m69 : Bool => ([(10, (.d (.bool m69)))] : EL)) (fun m69 : Bool => ([] : OL)) (fun m69 h E' O' hmat => ?_) (fun j70 hjj70 h => ?_)
        · refine seqQ_n ?_
          refine AWp.ghost hmat ?_
          refine AWp.ret ?_
          obtain rfl := Option.some.inj h
          exact ⟨.inl rfl, _, _, (Mat.pat [] [(10, (.d (.bool m69)))] [] hB (by rfl) (by rfl) (by rfl)), [(.d (.bool m69))], (Res.tmp (by rfl) (by rfl) Res.nil), rfl, by rfl, by rfl, by rfl⟩
        · rcases Bool.eq_false_or_eq_true (((r63.1 == r66.1) && (r63.2.1 == r66.2.1)) && (r63.2.2 == r66.2.2)) with hg71 | hg71
          · replace h := ite_t hg71 h
            obtain ⟨r72, hr72, h⟩ := bindS h
            refine AWp.region (OpJs.cons (OpJ.move (ltN hN rfl) (Opd.tmp 22 (.d (.int .i64 r63.1))))
              (OpJs.cons (OpJ.move (ltN hN rfl) (Opd.tmp 25 (.d (.int .i64 r66.1))))
              (OpJs.cons (OpJ.eqlI (ltN hN rfl) (Opd.tmp 163 (.d (.int .i64 r63.1))) (Opd.tmp 164 (.d (.int .i64 r66.1))))
              (OpJs.cons (OpJ.move (ltN hN rfl) (Opd.tmp 165 (.d (.bool (r63.1 == r66.1)))))
              (OpJs.cons (OpJ.opt' (v := (.d (.int .i64 r63.2.1))) (OpJ.move (ltN hN rfl) (Opd.tmp 23 (.d (.int .i64 r63.2.1)))) (by rfl) (GuardV.plain _) (ltN hN rfl) (by rfl) (by rfl) (by rfl) (by rfl) (OptL.keep rfl OptL.nil))
              (OpJs.cons (OpJ.opt' (v := (.d (.int .i64 r66.2.1))) (OpJ.move (ltN hN rfl) (Opd.tmp 26 (.d (.int .i64 r66.2.1)))) (by rfl) (GuardV.plain _) (ltN hN rfl) (by rfl) (by rfl) (by rfl) (by rfl) (OptL.keep rfl OptL.nil))
              (OpJs.cons (OpJ.opt' (v := (.d (.bool (r63.2.1 == r66.2.1)))) (OpJ.eqlI (ltN hN rfl) (Opd.tmp 167 (.d (.int .i64 r63.2.1))) (Opd.tmp 168 (.d (.int .i64 r66.2.1)))) (by rfl) (GuardV.plain _) (ltN hN rfl) (by rfl) (by rfl) (by rfl) (by rfl) (OptL.opt (OptL.opt OptL.nil)))
              (OpJs.cons (OpJ.pickAnd rfl (ltN hN rfl) (Opd.tmp 166 (.d (.bool (r63.1 == r66.1)))) (Opd.tmp 169 (.opt ((r63.1 == r66.1) == true) (.d (.bool (r63.2.1 == r66.2.1))))))
              (OpJs.cons (OpJ.move (ltN hN rfl) (Opd.tmp 170 (.d (.bool ((r63.1 == r66.1) && (r63.2.1 == r66.2.1))))))
              (OpJs.cons (OpJ.opt' (v := (.d (.int .i64 r63.2.2))) (OpJ.move (ltN hN rfl) (Opd.tmp 24 (.d (.int .i64 r63.2.2)))) (by rfl) (GuardV.plain _) (ltN hN rfl) (by rfl) (by rfl) (by rfl) (by rfl) (OptL.keep rfl OptL.nil))
              (OpJs.cons (OpJ.opt' (v := (.d (.int .i64 r66.2.2))) (OpJ.move (ltN hN rfl) (Opd.tmp 27 (.d (.int .i64 r66.2.2)))) (by rfl) (GuardV.plain _) (ltN hN rfl) (by rfl) (by rfl) (by rfl) (by rfl) (OptL.keep rfl OptL.nil))
              (OpJs.cons (OpJ.opt' (v := (.d (.bool (r63.2.2 == r66.2.2)))) (OpJ.eqlI (ltN hN rfl) (Opd.tmp 172 (.d (.int .i64 r63.2.2))) (Opd.tmp 173 (.d (.int .i64 r66.2.2)))) (by rfl) (GuardV.plain _) (ltN hN rfl) (by rfl) (by rfl) (by rfl) (by rfl) (OptL.opt (OptL.opt OptL.nil)))
              (OpJs.cons (OpJ.pickAnd rfl (ltN hN rfl) (Opd.tmp 171 (.d (.bool ((r63.1 == r66.1) && (r63.2.1 == r66.2.1))))) (Opd.tmp 174 (.opt (((r63.1 == r66.1) && (r63.2.1 == r66.2.1)) == true) (.d (.bool (r63.2.2 == r66.2.2))))))
              (OpJs.cons (OpJ.val (v' := .d (.bool true)) (by rw [hg71]) (OpJ.move (ltN hN rfl) (Opd.tmp 175 (.d (.bool (((r63.1 == r66.1) && (r63.2.1 == r66.2.1)) && (r63.2.2 == r66.2.2)))))))
              (OpJs.cons (OpJ.guarded (by rfl) (OpJ.callFn hB fnOk16 (exchangepointlaw39_awake_ac  r72 hr72) [] (by kernel_rfl) (ltN hN rfl) (by kernel_rfl) OpdL.nil))
              (OpJs.cons (OpJ.pickT (ltN hN rfl) (Opd.tmp 176 (.d (.bool true))) (Opd.tmp 177 (.d (.bool r72))))
              (OpJs.cons (OpJ.assign (ltN hN rfl) (Opd.tmp 178 (.d (.bool r72))))
              (OpJs.nil)))))))))))))))))) (by rfl) (by rfl) ?_
            exact hjj70 _ h _ _ (Mat.trans (Mat.pat [] [(10, (.d (.bool r72)))] [] hB (by rfl) (by rfl) (by rfl)) (Mat.pat [] ((fun m69 : Bool => ([(10, (.d (.bool m69)))] : EL)) r72) ((fun m69 : Bool => ([] : OL)) r72) hB (by rfl) (by rfl) (by rfl)))
          · replace h := ite_f hg71 h
            refine AWp.region (OpJs.cons (OpJ.move (ltN hN rfl) (Opd.tmp 22 (.d (.int .i64 r63.1))))
              (OpJs.cons (OpJ.move (ltN hN rfl) (Opd.tmp 25 (.d (.int .i64 r66.1))))
              (OpJs.cons (OpJ.eqlI (ltN hN rfl) (Opd.tmp 163 (.d (.int .i64 r63.1))) (Opd.tmp 164 (.d (.int .i64 r66.1))))
              (OpJs.cons (OpJ.move (ltN hN rfl) (Opd.tmp 165 (.d (.bool (r63.1 == r66.1)))))
              (OpJs.cons (OpJ.opt' (v := (.d (.int .i64 r63.2.1))) (OpJ.move (ltN hN rfl) (Opd.tmp 23 (.d (.int .i64 r63.2.1)))) (by rfl) (GuardV.plain _) (ltN hN rfl) (by rfl) (by rfl) (by rfl) (by rfl) (OptL.keep rfl OptL.nil))
              (OpJs.cons (OpJ.opt' (v := (.d (.int .i64 r66.2.1))) (OpJ.move (ltN hN rfl) (Opd.tmp 26 (.d (.int .i64 r66.2.1)))) (by rfl) (GuardV.plain _) (ltN hN rfl) (by rfl) (by rfl) (by rfl) (by rfl) (OptL.keep rfl OptL.nil))
              (OpJs.cons (OpJ.opt' (v := (.d (.bool (r63.2.1 == r66.2.1)))) (OpJ.eqlI (ltN hN rfl) (Opd.tmp 167 (.d (.int .i64 r63.2.1))) (Opd.tmp 168 (.d (.int .i64 r66.2.1)))) (by rfl) (GuardV.plain _) (ltN hN rfl) (by rfl) (by rfl) (by rfl) (by rfl) (OptL.opt (OptL.opt OptL.nil)))
              (OpJs.cons (OpJ.pickAnd rfl (ltN hN rfl) (Opd.tmp 166 (.d (.bool (r63.1 == r66.1)))) (Opd.tmp 169 (.opt ((r63.1 == r66.1) == true) (.d (.bool (r63.2.1 == r66.2.1))))))
              (OpJs.cons (OpJ.move (ltN hN rfl) (Opd.tmp 170 (.d (.bool ((r63.1 == r66.1) && (r63.2.1 == r66.2.1))))))
              (OpJs.cons (OpJ.opt' (v := (.d (.int .i64 r63.2.2))) (OpJ.move (ltN hN rfl) (Opd.tmp 24 (.d (.int .i64 r63.2.2)))) (by rfl) (GuardV.plain _) (ltN hN rfl) (by rfl) (by rfl) (by rfl) (by rfl) (OptL.keep rfl OptL.nil))
              (OpJs.cons (OpJ.opt' (v := (.d (.int .i64 r66.2.2))) (OpJ.move (ltN hN rfl) (Opd.tmp 27 (.d (.int .i64 r66.2.2)))) (by rfl) (GuardV.plain _) (ltN hN rfl) (by rfl) (by rfl) (by rfl) (by rfl) (OptL.keep rfl OptL.nil))
              (OpJs.cons (OpJ.opt' (v := (.d (.bool (r63.2.2 == r66.2.2)))) (OpJ.eqlI (ltN hN rfl) (Opd.tmp 172 (.d (.int .i64 r63.2.2))) (Opd.tmp 173 (.d (.int .i64 r66.2.2)))) (by rfl) (GuardV.plain _) (ltN hN rfl) (by rfl) (by rfl) (by rfl) (by rfl) (OptL.opt (OptL.opt OptL.nil)))
              (OpJs.cons (OpJ.pickAnd rfl (ltN hN rfl) (Opd.tmp 171 (.d (.bool ((r63.1 == r66.1) && (r63.2.1 == r66.2.1))))) (Opd.tmp 174 (.opt (((r63.1 == r66.1) && (r63.2.1 == r66.2.1)) == true) (.d (.bool (r63.2.2 == r66.2.2))))))
              (OpJs.cons (OpJ.val (v' := .d (.bool false)) (by rw [hg71]) (OpJ.move (ltN hN rfl) (Opd.tmp 175 (.d (.bool (((r63.1 == r66.1) && (r63.2.1 == r66.2.1)) && (r63.2.2 == r66.2.2)))))))
              (OpJs.cons (OpJ.skipU (ltN hN rfl) (by rfl))
              (OpJs.cons (OpJ.pickF (ltN hN rfl) (Opd.tmp 176 (.d (.bool false))) (Opd.bool false))
              (OpJs.cons (OpJ.assign (ltN hN rfl) (Opd.tmp 178 (.d (.bool false))))
              (OpJs.nil)))))))))))))))))) (by rfl) (by rfl) ?_
            exact hjj70 _ h _ _ (Mat.trans (Mat.pat [] [(10, (.d (.bool false)))] [] hB (by rfl) (by rfl) (by rfl)) (Mat.pat [] ((fun m69 : Bool => ([(10, (.d (.bool m69)))] : EL)) false) ((fun m69 : Bool => ([] : OL)) false) hB (by rfl) (by rfl) (by rfl)))
  · refine AWp.cond (b := (r2 == (0 : Int))) (by rfl) (fun hg73 => ?_) (fun hg73 => ?_)
    · replace h := ite_t hg73 h
      obtain ⟨r74, hr74, h⟩ := bindS h
      refine AWp.region (OpJs.cons (OpJ.move (ltN hN rfl) (Opd.tmp 0 (.d (.int .i64 a0))))
        (OpJs.cons (OpJ.callFn hB fnOk9 (exchangepointmill_Mod_ac a0 (61 : Int) r74 hr74) [] (by kernel_rfl) (ltN hN rfl) (by kernel_rfl) (OpdL.cons (Opd.tmp 33 (.d (.int .i64 a0))) (OpdL.cons (Opd.int .i64 (61)) OpdL.nil)))
        (OpJs.cons (OpJ.assign (ltN hN rfl) (Opd.tmp 34 (.d (.int .i64 r74))))
        (OpJs.nil)))) (by rfl) (by rfl) ?_
      exact hjj6 _ h _ _ (Mat.trans (Mat.pat [] [(0, (.d (.int .i64 a0))), (1, (.d (.int .i64 a1))), (2, (.d (.int .i64 a2))), (3, (.d (.int .i64 a3))), (4, (.d (.int .i64 a4))), (11, (.d (.int .i64 r74)))] [] hB (by rfl) (by rfl) (by rfl)) (Mat.pat [] ((fun m5 : Int => ([(0, (.d (.int .i64 a0))), (1, (.d (.int .i64 a1))), (2, (.d (.int .i64 a2))), (3, (.d (.int .i64 a3))), (4, (.d (.int .i64 a4))), (11, (.d (.int .i64 m5)))] : EL)) r74) ((fun m5 : Int => ([] : OL)) r74) hB (by rfl) (by rfl) (by rfl)))
    · replace h := ite_f hg73 h
      refine AWp.skip ?_
      exact hjj6 _ h _ _ (Mat.pat [] ((fun m5 : Int => ([(0, (.d (.int .i64 a0))), (1, (.d (.int .i64 a1))), (2, (.d (.int .i64 a2))), (3, (.d (.int .i64 a3))), (4, (.d (.int .i64 a4))), (11, (.d (.int .i64 m5)))] : EL)) r1) ((fun m5 : Int => ([] : OL)) r1) hB (by rfl) (by rfl) (by rfl))

noncomputable def exchangepointlaw39_IntervalRaw (a0 : Int) (a1 : Int) (a2 : Int) (a3 : Int) : Option (Bool) :=
  (if ((decide ((0 : Int) ≤ a0)) && (decide (a0 ≤ (60 : Int)))) = true then
  (exchangepointlaw39_awake).bind fun r2 =>
  some r2
  else
  (interval_Choose a0 a1).bind fun r3 =>
  (interval_AtLeast a0 a1 a2 a3).bind fun r4 =>
  (interval_AtMost a0 a1 a2 a3).bind fun r5 =>
  (interval_Bounds a0 a1 a2 a3).bind fun r6 =>
  (interval_Cover a0 a1 a2 a3).bind fun r7 =>
  jn (fun m10 : Bool =>
  some m10) (fun j11 =>
  (if (((((r3.2 == (1 : Int)) && (r4.2 == (1 : Int))) && (r5.2 == (1 : Int))) && (r6.2.2 == (1 : Int))) && (r7.2.2 == (1 : Int))) = true then
  (exchangepointlaw39_awake).bind fun r13 =>
  j11 r13
  else
  j11 false)))
set_option maxHeartbeats 4000000 in
set_option maxRecDepth 100000 in
theorem exchangepointlaw39_IntervalRaw_ac (a0 : Int) (a1 : Int) (a2 : Int) (a3 : Int) (r : Bool) (h : exchangepointlaw39_IntervalRaw a0 a1 a2 a3 = some r) : AC Try.prog 8 [(.d (.int .i64 a0)), (.d (.int .i64 a1)), (.d (.int .i64 a2)), (.d (.int .i64 a3))] [] (.d (.bool r)) [] := by
  refine AC.of_code2 Try.func8 rfl rfl (Nat.le_of_ble_eq_true (by rfl)) fun B hB hN => ?_
  delta exchangepointlaw39_IntervalRaw at h
  refine AWp.seq ?_
  refine AWp.region (OpJs.cons (OpJ.assign (ltN hN rfl) (Opd.bool false))
  (OpJs.nil)) (by rfl) (by rfl) ?_
  refine seqQ_n ?_
  refine AWp.ghost (Mat.pat [] [(0, (.d (.int .i64 a0))), (1, (.d (.int .i64 a1))), (2, (.d (.int .i64 a2))), (3, (.d (.int .i64 a3)))] [] hB (by rfl) (by rfl) (by rfl)) ?_
  refine AWp.seq ?_
  refine AWp.seq ?_
  refine AWp.region (OpJs.cons (OpJ.move (ltN hN rfl) (Opd.tmp 0 (.d (.int .i64 a0))))
  (OpJs.cons (OpJ.geq (ltN hN rfl) (Opd.tmp 21 (.d (.int .i64 a0))) (Opd.int .i64 (0)))
  (OpJs.cons (OpJ.move (ltN hN rfl) (Opd.tmp 22 (.d (.bool (decide ((0 : Int) ≤ a0))))))
  (OpJs.cons (OpJ.opt' (v := (.d (.int .i64 a0))) (OpJ.move (ltN hN rfl) (Opd.tmp 0 (.d (.int .i64 a0)))) (by rfl) (GuardV.plain _) (ltN hN rfl) (by rfl) (by rfl) (by rfl) (by rfl) (OptL.keep rfl OptL.nil))
  (OpJs.cons (OpJ.opt' (v := (.d (.bool (decide (a0 ≤ (60 : Int)))))) (OpJ.leq (ltN hN rfl) (Opd.tmp 24 (.d (.int .i64 a0))) (Opd.int .i64 (60))) (by rfl) (GuardV.plain _) (ltN hN rfl) (by rfl) (by rfl) (by rfl) (by rfl) (OptL.opt OptL.nil))
  (OpJs.cons (OpJ.pickAnd rfl (ltN hN rfl) (Opd.tmp 23 (.d (.bool (decide ((0 : Int) ≤ a0))))) (Opd.tmp 25 (.opt ((decide ((0 : Int) ≤ a0)) == true) (.d (.bool (decide (a0 ≤ (60 : Int))))))))
  (OpJs.nil))))))) (by rfl) (by rfl) ?_
  refine seqQ_n ?_
  refine AWp.ghost (Mat.pat [] [(0, (.d (.int .i64 a0))), (1, (.d (.int .i64 a1))), (2, (.d (.int .i64 a2))), (3, (.d (.int .i64 a3))), (26, (.d (.bool ((decide ((0 : Int) ≤ a0)) && (decide (a0 ≤ (60 : Int)))))))] [] hB (by rfl) (by rfl) (by rfl)) ?_
  refine AWp.cond (b := ((decide ((0 : Int) ≤ a0)) && (decide (a0 ≤ (60 : Int))))) (by rfl) (fun hg1 => ?_) (fun hg1 => ?_)
  · replace h := ite_t hg1 h
    refine AWp.seq ?_
    obtain ⟨r2, hr2, h⟩ := bindS h
    refine AWp.region (OpJs.cons (OpJ.callFn hB fnOk16 (exchangepointlaw39_awake_ac  r2 hr2) [] (by kernel_rfl) (ltN hN rfl) (by kernel_rfl) OpdL.nil)
      (OpJs.cons (OpJ.assign (ltN hN rfl) (Opd.tmp 27 (.d (.bool r2))))
      (OpJs.nil))) (by rfl) (by rfl) ?_
    refine seqQ_n ?_
    refine AWp.ghost (Mat.pat [] [(8, (.d (.bool r2)))] [] hB (by rfl) (by rfl) (by rfl)) ?_
    refine AWp.ret ?_
    refine seqQ_r ?_
    obtain rfl := Option.some.inj h
    exact ⟨.inl rfl, _, _, (Mat.pat [] [(8, (.d (.bool r2)))] [] hB (by rfl) (by rfl) (by rfl)), [(.d (.bool r2))], (Res.tmp (by rfl) (by rfl) Res.nil), rfl, by rfl, by rfl, by rfl⟩
  · replace h := ite_f hg1 h
    refine AWp.skip ?_
    refine seqQ_n ?_
    refine AWp.seq ?_
    obtain ⟨r3, hr3, h⟩ := bindS h
    refine AWp.region (OpJs.cons (OpJ.move (ltN hN rfl) (Opd.tmp 0 (.d (.int .i64 a0))))
      (OpJs.cons (OpJ.move (ltN hN rfl) (Opd.tmp 1 (.d (.int .i64 a1))))
      (OpJs.cons (OpJ.callFn hB fnOk10 (interval_Choose_ac a0 a1 r3 hr3) [] (by kernel_rfl) (ltN hN rfl) (by kernel_rfl) (OpdL.cons (Opd.tmp 29 (.d (.int .i64 a0))) (OpdL.cons (Opd.tmp 30 (.d (.int .i64 a1))) OpdL.nil)))
      (OpJs.cons (OpJ.move (ltN hN rfl) (Opd.tmp 31 (.tup [(.d (.int .i64 r3.1)), (.d (.int .i64 r3.2))])))
      (OpJs.cons (OpJ.extract (v := (.d (.int .i64 r3.1))) (by rfl) rfl (ltN hN rfl) (Opd.tmp 28 (.tup [(.d (.int .i64 r3.1)), (.d (.int .i64 r3.2))])))
      (OpJs.cons (OpJ.extract (v := (.d (.int .i64 r3.2))) (by rfl) rfl (ltN hN rfl) (Opd.tmp 28 (.tup [(.d (.int .i64 r3.1)), (.d (.int .i64 r3.2))])))
      (OpJs.cons (OpJ.assign (ltN hN rfl) (Opd.tmp 32 (.d (.int .i64 r3.1))))
      (OpJs.cons (OpJ.assign (ltN hN rfl) (Opd.tmp 33 (.d (.int .i64 r3.2))))
      (OpJs.nil))))))))) (by rfl) (by rfl) ?_
    refine seqQ_n ?_
    refine AWp.ghost (Mat.pat [] [(0, (.d (.int .i64 a0))), (1, (.d (.int .i64 a1))), (2, (.d (.int .i64 a2))), (3, (.d (.int .i64 a3))), (10, (.d (.int .i64 r3.2)))] [] hB (by rfl) (by rfl) (by rfl)) ?_
    refine AWp.seq ?_
    obtain ⟨r4, hr4, h⟩ := bindS h
    refine AWp.region (OpJs.cons (OpJ.move (ltN hN rfl) (Opd.tmp 0 (.d (.int .i64 a0))))
      (OpJs.cons (OpJ.move (ltN hN rfl) (Opd.tmp 1 (.d (.int .i64 a1))))
      (OpJs.cons (OpJ.move (ltN hN rfl) (Opd.tmp 2 (.d (.int .i64 a2))))
      (OpJs.cons (OpJ.move (ltN hN rfl) (Opd.tmp 3 (.d (.int .i64 a3))))
      (OpJs.cons (OpJ.callFn hB fnOk12 (interval_AtLeast_ac a0 a1 a2 a3 r4 hr4) [] (by kernel_rfl) (ltN hN rfl) (by kernel_rfl) (OpdL.cons (Opd.tmp 35 (.d (.int .i64 a0))) (OpdL.cons (Opd.tmp 36 (.d (.int .i64 a1))) (OpdL.cons (Opd.tmp 37 (.d (.int .i64 a2))) (OpdL.cons (Opd.tmp 38 (.d (.int .i64 a3))) OpdL.nil)))))
      (OpJs.cons (OpJ.move (ltN hN rfl) (Opd.tmp 39 (.tup [(.d (.int .i64 r4.1)), (.d (.int .i64 r4.2))])))
      (OpJs.cons (OpJ.extract (v := (.d (.int .i64 r4.1))) (by rfl) rfl (ltN hN rfl) (Opd.tmp 34 (.tup [(.d (.int .i64 r4.1)), (.d (.int .i64 r4.2))])))
      (OpJs.cons (OpJ.extract (v := (.d (.int .i64 r4.2))) (by rfl) rfl (ltN hN rfl) (Opd.tmp 34 (.tup [(.d (.int .i64 r4.1)), (.d (.int .i64 r4.2))])))
      (OpJs.cons (OpJ.assign (ltN hN rfl) (Opd.tmp 40 (.d (.int .i64 r4.1))))
      (OpJs.cons (OpJ.assign (ltN hN rfl) (Opd.tmp 41 (.d (.int .i64 r4.2))))
      (OpJs.nil))))))))))) (by rfl) (by rfl) ?_
    refine seqQ_n ?_
    refine AWp.ghost (Mat.pat [] [(0, (.d (.int .i64 a0))), (1, (.d (.int .i64 a1))), (2, (.d (.int .i64 a2))), (3, (.d (.int .i64 a3))), (10, (.d (.int .i64 r3.2))), (12, (.d (.int .i64 r4.2)))] [] hB (by rfl) (by rfl) (by rfl)) ?_
    refine AWp.seq ?_
    obtain ⟨r5, hr5, h⟩ := bindS h
    refine AWp.region (OpJs.cons (OpJ.move (ltN hN rfl) (Opd.tmp 0 (.d (.int .i64 a0))))
      (OpJs.cons (OpJ.move (ltN hN rfl) (Opd.tmp 1 (.d (.int .i64 a1))))
      (OpJs.cons (OpJ.move (ltN hN rfl) (Opd.tmp 2 (.d (.int .i64 a2))))
      (OpJs.cons (OpJ.move (ltN hN rfl) (Opd.tmp 3 (.d (.int .i64 a3))))
      (OpJs.cons (OpJ.callFn hB fnOk14 (interval_AtMost_ac a0 a1 a2 a3 r5 hr5) [] (by kernel_rfl) (ltN hN rfl) (by kernel_rfl) (OpdL.cons (Opd.tmp 43 (.d (.int .i64 a0))) (OpdL.cons (Opd.tmp 44 (.d (.int .i64 a1))) (OpdL.cons (Opd.tmp 45 (.d (.int .i64 a2))) (OpdL.cons (Opd.tmp 46 (.d (.int .i64 a3))) OpdL.nil)))))
      (OpJs.cons (OpJ.move (ltN hN rfl) (Opd.tmp 47 (.tup [(.d (.int .i64 r5.1)), (.d (.int .i64 r5.2))])))
      (OpJs.cons (OpJ.extract (v := (.d (.int .i64 r5.1))) (by rfl) rfl (ltN hN rfl) (Opd.tmp 42 (.tup [(.d (.int .i64 r5.1)), (.d (.int .i64 r5.2))])))
      (OpJs.cons (OpJ.extract (v := (.d (.int .i64 r5.2))) (by rfl) rfl (ltN hN rfl) (Opd.tmp 42 (.tup [(.d (.int .i64 r5.1)), (.d (.int .i64 r5.2))])))
      (OpJs.cons (OpJ.assign (ltN hN rfl) (Opd.tmp 48 (.d (.int .i64 r5.1))))
      (OpJs.cons (OpJ.assign (ltN hN rfl) (Opd.tmp 49 (.d (.int .i64 r5.2))))
      (OpJs.nil))))))))))) (by rfl) (by rfl) ?_
    refine seqQ_n ?_
    refine AWp.ghost (Mat.pat [] [(0, (.d (.int .i64 a0))), (1, (.d (.int .i64 a1))), (2, (.d (.int .i64 a2))), (3, (.d (.int .i64 a3))), (10, (.d (.int .i64 r3.2))), (12, (.d (.int .i64 r4.2))), (14, (.d (.int .i64 r5.2)))] [] hB (by rfl) (by rfl) (by rfl)) ?_
    refine AWp.seq ?_
    obtain ⟨r6, hr6, h⟩ := bindS h
    refine AWp.region (OpJs.cons (OpJ.move (ltN hN rfl) (Opd.tmp 0 (.d (.int .i64 a0))))
      (OpJs.cons (OpJ.move (ltN hN rfl) (Opd.tmp 1 (.d (.int .i64 a1))))
      (OpJs.cons (OpJ.move (ltN hN rfl) (Opd.tmp 2 (.d (.int .i64 a2))))
      (OpJs.cons (OpJ.move (ltN hN rfl) (Opd.tmp 3 (.d (.int .i64 a3))))
      (OpJs.cons (OpJ.callFn hB fnOk17 (interval_Bounds_ac a0 a1 a2 a3 r6 hr6) [] (by kernel_rfl) (ltN hN rfl) (by kernel_rfl) (OpdL.cons (Opd.tmp 51 (.d (.int .i64 a0))) (OpdL.cons (Opd.tmp 52 (.d (.int .i64 a1))) (OpdL.cons (Opd.tmp 53 (.d (.int .i64 a2))) (OpdL.cons (Opd.tmp 54 (.d (.int .i64 a3))) OpdL.nil)))))
      (OpJs.cons (OpJ.move (ltN hN rfl) (Opd.tmp 55 (.tup [(.d (.int .i64 r6.1)), (.d (.int .i64 r6.2.1)), (.d (.int .i64 r6.2.2))])))
      (OpJs.cons (OpJ.extract (v := (.d (.int .i64 r6.1))) (by rfl) rfl (ltN hN rfl) (Opd.tmp 50 (.tup [(.d (.int .i64 r6.1)), (.d (.int .i64 r6.2.1)), (.d (.int .i64 r6.2.2))])))
      (OpJs.cons (OpJ.extract (v := (.d (.int .i64 r6.2.1))) (by rfl) rfl (ltN hN rfl) (Opd.tmp 50 (.tup [(.d (.int .i64 r6.1)), (.d (.int .i64 r6.2.1)), (.d (.int .i64 r6.2.2))])))
      (OpJs.cons (OpJ.extract (v := (.d (.int .i64 r6.2.2))) (by rfl) rfl (ltN hN rfl) (Opd.tmp 50 (.tup [(.d (.int .i64 r6.1)), (.d (.int .i64 r6.2.1)), (.d (.int .i64 r6.2.2))])))
      (OpJs.cons (OpJ.assign (ltN hN rfl) (Opd.tmp 56 (.d (.int .i64 r6.1))))
      (OpJs.cons (OpJ.assign (ltN hN rfl) (Opd.tmp 57 (.d (.int .i64 r6.2.1))))
      (OpJs.cons (OpJ.assign (ltN hN rfl) (Opd.tmp 58 (.d (.int .i64 r6.2.2))))
      (OpJs.nil))))))))))))) (by rfl) (by rfl) ?_
    refine seqQ_n ?_
    refine AWp.ghost (Mat.pat [] [(0, (.d (.int .i64 a0))), (1, (.d (.int .i64 a1))), (2, (.d (.int .i64 a2))), (3, (.d (.int .i64 a3))), (10, (.d (.int .i64 r3.2))), (12, (.d (.int .i64 r4.2))), (14, (.d (.int .i64 r5.2))), (17, (.d (.int .i64 r6.2.2)))] [] hB (by rfl) (by rfl) (by rfl)) ?_
    refine AWp.seq ?_
    obtain ⟨r7, hr7, h⟩ := bindS h
    refine AWp.region (OpJs.cons (OpJ.move (ltN hN rfl) (Opd.tmp 0 (.d (.int .i64 a0))))
      (OpJs.cons (OpJ.move (ltN hN rfl) (Opd.tmp 1 (.d (.int .i64 a1))))
      (OpJs.cons (OpJ.move (ltN hN rfl) (Opd.tmp 2 (.d (.int .i64 a2))))
      (OpJs.cons (OpJ.move (ltN hN rfl) (Opd.tmp 3 (.d (.int .i64 a3))))
      (OpJs.cons (OpJ.callFn hB fnOk18 (interval_Cover_ac a0 a1 a2 a3 r7 hr7) [] (by kernel_rfl) (ltN hN rfl) (by kernel_rfl) (OpdL.cons (Opd.tmp 60 (.d (.int .i64 a0))) (OpdL.cons (Opd.tmp 61 (.d (.int .i64 a1))) (OpdL.cons (Opd.tmp 62 (.d (.int .i64 a2))) (OpdL.cons (Opd.tmp 63 (.d (.int .i64 a3))) OpdL.nil)))))
      (OpJs.cons (OpJ.move (ltN hN rfl) (Opd.tmp 64 (.tup [(.d (.int .i64 r7.1)), (.d (.int .i64 r7.2.1)), (.d (.int .i64 r7.2.2))])))
      (OpJs.cons (OpJ.extract (v := (.d (.int .i64 r7.1))) (by rfl) rfl (ltN hN rfl) (Opd.tmp 59 (.tup [(.d (.int .i64 r7.1)), (.d (.int .i64 r7.2.1)), (.d (.int .i64 r7.2.2))])))
      (OpJs.cons (OpJ.extract (v := (.d (.int .i64 r7.2.1))) (by rfl) rfl (ltN hN rfl) (Opd.tmp 59 (.tup [(.d (.int .i64 r7.1)), (.d (.int .i64 r7.2.1)), (.d (.int .i64 r7.2.2))])))
      (OpJs.cons (OpJ.extract (v := (.d (.int .i64 r7.2.2))) (by rfl) rfl (ltN hN rfl) (Opd.tmp 59 (.tup [(.d (.int .i64 r7.1)), (.d (.int .i64 r7.2.1)), (.d (.int .i64 r7.2.2))])))
      (OpJs.cons (OpJ.assign (ltN hN rfl) (Opd.tmp 65 (.d (.int .i64 r7.1))))
      (OpJs.cons (OpJ.assign (ltN hN rfl) (Opd.tmp 66 (.d (.int .i64 r7.2.1))))
      (OpJs.cons (OpJ.assign (ltN hN rfl) (Opd.tmp 67 (.d (.int .i64 r7.2.2))))
      (OpJs.nil))))))))))))) (by rfl) (by rfl) ?_
    refine seqQ_n ?_
    refine AWp.ghost (Mat.pat [] [(10, (.d (.int .i64 r3.2))), (12, (.d (.int .i64 r4.2))), (14, (.d (.int .i64 r5.2))), (17, (.d (.int .i64 r6.2.2))), (20, (.d (.int .i64 r7.2.2)))] [] hB (by rfl) (by rfl) (by rfl)) ?_
    refine AWp.seq ?_
    refine AWp.cut h (fun m10 : Bool => ([(8, (.d (.bool m10)))] : EL)) (fun m10 : Bool => ([] : OL)) (fun m10 h E' O' hmat => ?_) (fun j11 hjj11 h => ?_)
    · refine seqQ_n ?_
      refine AWp.ghost hmat ?_
      refine AWp.ret ?_
      obtain rfl := Option.some.inj h
      exact ⟨.inl rfl, _, _, (Mat.pat [] [(8, (.d (.bool m10)))] [] hB (by rfl) (by rfl) (by rfl)), [(.d (.bool m10))], (Res.tmp (by rfl) (by rfl) Res.nil), rfl, by rfl, by rfl, by rfl⟩
    · rcases Bool.eq_false_or_eq_true (((((r3.2 == (1 : Int)) && (r4.2 == (1 : Int))) && (r5.2 == (1 : Int))) && (r6.2.2 == (1 : Int))) && (r7.2.2 == (1 : Int))) with hg12 | hg12
      · replace h := ite_t hg12 h
        obtain ⟨r13, hr13, h⟩ := bindS h
        refine AWp.region (OpJs.cons (OpJ.move (ltN hN rfl) (Opd.tmp 10 (.d (.int .i64 r3.2))))
          (OpJs.cons (OpJ.eqlI (ltN hN rfl) (Opd.tmp 68 (.d (.int .i64 r3.2))) (Opd.int .i64 (1)))
          (OpJs.cons (OpJ.move (ltN hN rfl) (Opd.tmp 69 (.d (.bool (r3.2 == (1 : Int))))))
          (OpJs.cons (OpJ.opt' (v := (.d (.int .i64 r4.2))) (OpJ.move (ltN hN rfl) (Opd.tmp 12 (.d (.int .i64 r4.2)))) (by rfl) (GuardV.plain _) (ltN hN rfl) (by rfl) (by rfl) (by rfl) (by rfl) (OptL.keep rfl OptL.nil))
          (OpJs.cons (OpJ.opt' (v := (.d (.bool (r4.2 == (1 : Int))))) (OpJ.eqlI (ltN hN rfl) (Opd.tmp 71 (.d (.int .i64 r4.2))) (Opd.int .i64 (1))) (by rfl) (GuardV.plain _) (ltN hN rfl) (by rfl) (by rfl) (by rfl) (by rfl) (OptL.opt OptL.nil))
          (OpJs.cons (OpJ.pickAnd rfl (ltN hN rfl) (Opd.tmp 70 (.d (.bool (r3.2 == (1 : Int))))) (Opd.tmp 72 (.opt ((r3.2 == (1 : Int)) == true) (.d (.bool (r4.2 == (1 : Int)))))))
          (OpJs.cons (OpJ.move (ltN hN rfl) (Opd.tmp 73 (.d (.bool ((r3.2 == (1 : Int)) && (r4.2 == (1 : Int)))))))
          (OpJs.cons (OpJ.opt' (v := (.d (.int .i64 r5.2))) (OpJ.move (ltN hN rfl) (Opd.tmp 14 (.d (.int .i64 r5.2)))) (by rfl) (GuardV.plain _) (ltN hN rfl) (by rfl) (by rfl) (by rfl) (by rfl) (OptL.keep rfl OptL.nil))
          (OpJs.cons (OpJ.opt' (v := (.d (.bool (r5.2 == (1 : Int))))) (OpJ.eqlI (ltN hN rfl) (Opd.tmp 75 (.d (.int .i64 r5.2))) (Opd.int .i64 (1))) (by rfl) (GuardV.plain _) (ltN hN rfl) (by rfl) (by rfl) (by rfl) (by rfl) (OptL.opt OptL.nil))
          (OpJs.cons (OpJ.pickAnd rfl (ltN hN rfl) (Opd.tmp 74 (.d (.bool ((r3.2 == (1 : Int)) && (r4.2 == (1 : Int)))))) (Opd.tmp 76 (.opt (((r3.2 == (1 : Int)) && (r4.2 == (1 : Int))) == true) (.d (.bool (r5.2 == (1 : Int)))))))
          (OpJs.cons (OpJ.move (ltN hN rfl) (Opd.tmp 77 (.d (.bool (((r3.2 == (1 : Int)) && (r4.2 == (1 : Int))) && (r5.2 == (1 : Int)))))))
          (OpJs.cons (OpJ.opt' (v := (.d (.int .i64 r6.2.2))) (OpJ.move (ltN hN rfl) (Opd.tmp 17 (.d (.int .i64 r6.2.2)))) (by rfl) (GuardV.plain _) (ltN hN rfl) (by rfl) (by rfl) (by rfl) (by rfl) (OptL.keep rfl OptL.nil))
          (OpJs.cons (OpJ.opt' (v := (.d (.bool (r6.2.2 == (1 : Int))))) (OpJ.eqlI (ltN hN rfl) (Opd.tmp 79 (.d (.int .i64 r6.2.2))) (Opd.int .i64 (1))) (by rfl) (GuardV.plain _) (ltN hN rfl) (by rfl) (by rfl) (by rfl) (by rfl) (OptL.opt OptL.nil))
          (OpJs.cons (OpJ.pickAnd rfl (ltN hN rfl) (Opd.tmp 78 (.d (.bool (((r3.2 == (1 : Int)) && (r4.2 == (1 : Int))) && (r5.2 == (1 : Int)))))) (Opd.tmp 80 (.opt ((((r3.2 == (1 : Int)) && (r4.2 == (1 : Int))) && (r5.2 == (1 : Int))) == true) (.d (.bool (r6.2.2 == (1 : Int)))))))
          (OpJs.cons (OpJ.move (ltN hN rfl) (Opd.tmp 81 (.d (.bool ((((r3.2 == (1 : Int)) && (r4.2 == (1 : Int))) && (r5.2 == (1 : Int))) && (r6.2.2 == (1 : Int)))))))
          (OpJs.cons (OpJ.opt' (v := (.d (.int .i64 r7.2.2))) (OpJ.move (ltN hN rfl) (Opd.tmp 20 (.d (.int .i64 r7.2.2)))) (by rfl) (GuardV.plain _) (ltN hN rfl) (by rfl) (by rfl) (by rfl) (by rfl) (OptL.keep rfl OptL.nil))
          (OpJs.cons (OpJ.opt' (v := (.d (.bool (r7.2.2 == (1 : Int))))) (OpJ.eqlI (ltN hN rfl) (Opd.tmp 83 (.d (.int .i64 r7.2.2))) (Opd.int .i64 (1))) (by rfl) (GuardV.plain _) (ltN hN rfl) (by rfl) (by rfl) (by rfl) (by rfl) (OptL.opt OptL.nil))
          (OpJs.cons (OpJ.pickAnd rfl (ltN hN rfl) (Opd.tmp 82 (.d (.bool ((((r3.2 == (1 : Int)) && (r4.2 == (1 : Int))) && (r5.2 == (1 : Int))) && (r6.2.2 == (1 : Int)))))) (Opd.tmp 84 (.opt (((((r3.2 == (1 : Int)) && (r4.2 == (1 : Int))) && (r5.2 == (1 : Int))) && (r6.2.2 == (1 : Int))) == true) (.d (.bool (r7.2.2 == (1 : Int)))))))
          (OpJs.cons (OpJ.val (v' := .d (.bool true)) (by rw [hg12]) (OpJ.move (ltN hN rfl) (Opd.tmp 85 (.d (.bool (((((r3.2 == (1 : Int)) && (r4.2 == (1 : Int))) && (r5.2 == (1 : Int))) && (r6.2.2 == (1 : Int))) && (r7.2.2 == (1 : Int))))))))
          (OpJs.cons (OpJ.guarded (by rfl) (OpJ.callFn hB fnOk16 (exchangepointlaw39_awake_ac  r13 hr13) [] (by kernel_rfl) (ltN hN rfl) (by kernel_rfl) OpdL.nil))
          (OpJs.cons (OpJ.pickT (ltN hN rfl) (Opd.tmp 86 (.d (.bool true))) (Opd.tmp 87 (.d (.bool r13))))
          (OpJs.cons (OpJ.assign (ltN hN rfl) (Opd.tmp 88 (.d (.bool r13))))
          (OpJs.nil))))))))))))))))))))))) (by rfl) (by rfl) ?_
        exact hjj11 _ h _ _ (Mat.trans (Mat.pat [] [(8, (.d (.bool r13)))] [] hB (by rfl) (by rfl) (by rfl)) (Mat.pat [] ((fun m10 : Bool => ([(8, (.d (.bool m10)))] : EL)) r13) ((fun m10 : Bool => ([] : OL)) r13) hB (by rfl) (by rfl) (by rfl)))
      · replace h := ite_f hg12 h
        refine AWp.region (OpJs.cons (OpJ.move (ltN hN rfl) (Opd.tmp 10 (.d (.int .i64 r3.2))))
          (OpJs.cons (OpJ.eqlI (ltN hN rfl) (Opd.tmp 68 (.d (.int .i64 r3.2))) (Opd.int .i64 (1)))
          (OpJs.cons (OpJ.move (ltN hN rfl) (Opd.tmp 69 (.d (.bool (r3.2 == (1 : Int))))))
          (OpJs.cons (OpJ.opt' (v := (.d (.int .i64 r4.2))) (OpJ.move (ltN hN rfl) (Opd.tmp 12 (.d (.int .i64 r4.2)))) (by rfl) (GuardV.plain _) (ltN hN rfl) (by rfl) (by rfl) (by rfl) (by rfl) (OptL.keep rfl OptL.nil))
          (OpJs.cons (OpJ.opt' (v := (.d (.bool (r4.2 == (1 : Int))))) (OpJ.eqlI (ltN hN rfl) (Opd.tmp 71 (.d (.int .i64 r4.2))) (Opd.int .i64 (1))) (by rfl) (GuardV.plain _) (ltN hN rfl) (by rfl) (by rfl) (by rfl) (by rfl) (OptL.opt OptL.nil))
          (OpJs.cons (OpJ.pickAnd rfl (ltN hN rfl) (Opd.tmp 70 (.d (.bool (r3.2 == (1 : Int))))) (Opd.tmp 72 (.opt ((r3.2 == (1 : Int)) == true) (.d (.bool (r4.2 == (1 : Int)))))))
          (OpJs.cons (OpJ.move (ltN hN rfl) (Opd.tmp 73 (.d (.bool ((r3.2 == (1 : Int)) && (r4.2 == (1 : Int)))))))
          (OpJs.cons (OpJ.opt' (v := (.d (.int .i64 r5.2))) (OpJ.move (ltN hN rfl) (Opd.tmp 14 (.d (.int .i64 r5.2)))) (by rfl) (GuardV.plain _) (ltN hN rfl) (by rfl) (by rfl) (by rfl) (by rfl) (OptL.keep rfl OptL.nil))
          (OpJs.cons (OpJ.opt' (v := (.d (.bool (r5.2 == (1 : Int))))) (OpJ.eqlI (ltN hN rfl) (Opd.tmp 75 (.d (.int .i64 r5.2))) (Opd.int .i64 (1))) (by rfl) (GuardV.plain _) (ltN hN rfl) (by rfl) (by rfl) (by rfl) (by rfl) (OptL.opt OptL.nil))
          (OpJs.cons (OpJ.pickAnd rfl (ltN hN rfl) (Opd.tmp 74 (.d (.bool ((r3.2 == (1 : Int)) && (r4.2 == (1 : Int)))))) (Opd.tmp 76 (.opt (((r3.2 == (1 : Int)) && (r4.2 == (1 : Int))) == true) (.d (.bool (r5.2 == (1 : Int)))))))
          (OpJs.cons (OpJ.move (ltN hN rfl) (Opd.tmp 77 (.d (.bool (((r3.2 == (1 : Int)) && (r4.2 == (1 : Int))) && (r5.2 == (1 : Int)))))))
          (OpJs.cons (OpJ.opt' (v := (.d (.int .i64 r6.2.2))) (OpJ.move (ltN hN rfl) (Opd.tmp 17 (.d (.int .i64 r6.2.2)))) (by rfl) (GuardV.plain _) (ltN hN rfl) (by rfl) (by rfl) (by rfl) (by rfl) (OptL.keep rfl OptL.nil))
          (OpJs.cons (OpJ.opt' (v := (.d (.bool (r6.2.2 == (1 : Int))))) (OpJ.eqlI (ltN hN rfl) (Opd.tmp 79 (.d (.int .i64 r6.2.2))) (Opd.int .i64 (1))) (by rfl) (GuardV.plain _) (ltN hN rfl) (by rfl) (by rfl) (by rfl) (by rfl) (OptL.opt OptL.nil))
          (OpJs.cons (OpJ.pickAnd rfl (ltN hN rfl) (Opd.tmp 78 (.d (.bool (((r3.2 == (1 : Int)) && (r4.2 == (1 : Int))) && (r5.2 == (1 : Int)))))) (Opd.tmp 80 (.opt ((((r3.2 == (1 : Int)) && (r4.2 == (1 : Int))) && (r5.2 == (1 : Int))) == true) (.d (.bool (r6.2.2 == (1 : Int)))))))
          (OpJs.cons (OpJ.move (ltN hN rfl) (Opd.tmp 81 (.d (.bool ((((r3.2 == (1 : Int)) && (r4.2 == (1 : Int))) && (r5.2 == (1 : Int))) && (r6.2.2 == (1 : Int)))))))
          (OpJs.cons (OpJ.opt' (v := (.d (.int .i64 r7.2.2))) (OpJ.move (ltN hN rfl) (Opd.tmp 20 (.d (.int .i64 r7.2.2)))) (by rfl) (GuardV.plain _) (ltN hN rfl) (by rfl) (by rfl) (by rfl) (by rfl) (OptL.keep rfl OptL.nil))
          (OpJs.cons (OpJ.opt' (v := (.d (.bool (r7.2.2 == (1 : Int))))) (OpJ.eqlI (ltN hN rfl) (Opd.tmp 83 (.d (.int .i64 r7.2.2))) (Opd.int .i64 (1))) (by rfl) (GuardV.plain _) (ltN hN rfl) (by rfl) (by rfl) (by rfl) (by rfl) (OptL.opt OptL.nil))
          (OpJs.cons (OpJ.pickAnd rfl (ltN hN rfl) (Opd.tmp 82 (.d (.bool ((((r3.2 == (1 : Int)) && (r4.2 == (1 : Int))) && (r5.2 == (1 : Int))) && (r6.2.2 == (1 : Int)))))) (Opd.tmp 84 (.opt (((((r3.2 == (1 : Int)) && (r4.2 == (1 : Int))) && (r5.2 == (1 : Int))) && (r6.2.2 == (1 : Int))) == true) (.d (.bool (r7.2.2 == (1 : Int)))))))
          (OpJs.cons (OpJ.val (v' := .d (.bool false)) (by rw [hg12]) (OpJ.move (ltN hN rfl) (Opd.tmp 85 (.d (.bool (((((r3.2 == (1 : Int)) && (r4.2 == (1 : Int))) && (r5.2 == (1 : Int))) && (r6.2.2 == (1 : Int))) && (r7.2.2 == (1 : Int))))))))
          (OpJs.cons (OpJ.skipU (ltN hN rfl) (by rfl))
          (OpJs.cons (OpJ.pickF (ltN hN rfl) (Opd.tmp 86 (.d (.bool false))) (Opd.bool false))
          (OpJs.cons (OpJ.assign (ltN hN rfl) (Opd.tmp 88 (.d (.bool false))))
          (OpJs.nil))))))))))))))))))))))) (by rfl) (by rfl) ?_
        exact hjj11 _ h _ _ (Mat.trans (Mat.pat [] [(8, (.d (.bool false)))] [] hB (by rfl) (by rfl) (by rfl)) (Mat.pat [] ((fun m10 : Bool => ([(8, (.d (.bool m10)))] : EL)) false) ((fun m10 : Bool => ([] : OL)) false) hB (by rfl) (by rfl) (by rfl)))


end Go.Proofs.Ytjhjijcffgmpkaa
