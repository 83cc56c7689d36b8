/- Printed by gen.py: the Go functions as plain functions, and that the code does what they say. -/
import Derived.Test.YtgbfjigliajbkaaChecked
import Derived.Test.YtgbfjigliajbkaaVcT
import Derived.KernelRfl
import Derived.Test.YtgbfjigliajbkaaExt
namespace Go.Proofs.Ytgbfjigliajbkaa
open Go Go.Vc
def e_LeIi64 (x : (List Int)) : D := (.list 1 (x.map (eI .i64)))

structure exchangepointmill_Deck where
  fL : (List Int)
  fAt : Int
def e_exchangepointmill_Deck (x : exchangepointmill_Deck) : D := .st [(.list 1 (x.fL.map (eI .i64))), (.int .i64 x.fAt)]

structure api_Series where
  fPort : Int
  fSeconds : Int
  fIn : (List Int)
  fOut : (List Int)
def e_api_Series (x : api_Series) : D := .st [(.int .i64 x.fPort), (.int .i64 x.fSeconds), (.list 1 (x.fIn.map (eI .i64))), (.list 1 (x.fOut.map (eI .i64)))]

theorem tyE3 : TyE Try.prog 3 1 8 := ⟨by kernel_rfl, by decide⟩

theorem fnOk30 : FnOk Try.prog 30 := ⟨by kernel_rfl⟩

theorem fnOk31 : FnOk Try.prog 31 := ⟨by kernel_rfl⟩

theorem tyS3 : TyS Try.prog 3 1 false := ⟨by kernel_rfl, by kernel_rfl⟩

theorem fnOk8 : FnOk Try.prog 8 := ⟨by kernel_rfl⟩

theorem tyZD3 : TyZ Try.prog 3 (.d (.int .i64 (0 : Int))) := ⟨by kernel_rfl, fun w => by kernel_rfl⟩

theorem fnOk35 : FnOk Try.prog 35 := ⟨by kernel_rfl⟩

theorem fnOk20 : FnOk Try.prog 20 := ⟨by kernel_rfl⟩

theorem fnOk9 : FnOk Try.prog 9 := ⟨by kernel_rfl⟩

theorem fnOk10 : FnOk Try.prog 10 := ⟨by kernel_rfl⟩

theorem tyZS54 : TyZ Try.prog 54 (.st [.nils, (.d (.int .i64 (0 : Int)))]) := ⟨by kernel_rfl, fun w => by kernel_rfl⟩

theorem fnOk11 : FnOk Try.prog 11 := ⟨by kernel_rfl⟩

theorem tyZ30 : TyZ Try.prog 30 (.st [(.d (.int .i64 (0 : Int))), (.d (.int .i64 (0 : Int))), .nils, .nils]) := ⟨by kernel_rfl, fun w => by kernel_rfl⟩

theorem tyS22 : TyS Try.prog 22 1 false := ⟨by kernel_rfl, by kernel_rfl⟩

theorem fnOk32 : FnOk Try.prog 32 := ⟨by kernel_rfl⟩

theorem tyZS30 : TyZ Try.prog 30 (.st [(.d (.int .i64 (0 : Int))), (.d (.int .i64 (0 : Int))), .nils, .nils]) := ⟨by kernel_rfl, fun w => by kernel_rfl⟩

theorem tyS30 : TyS Try.prog 30 4 true := ⟨by kernel_rfl, by kernel_rfl⟩

theorem fnOk12 : FnOk Try.prog 12 := ⟨by kernel_rfl⟩

theorem fnOk13 : FnOk Try.prog 13 := ⟨by kernel_rfl⟩

theorem fnOk36 : FnOk Try.prog 36 := ⟨by kernel_rfl⟩

theorem fnOk16 : FnOk Try.prog 16 := ⟨by kernel_rfl⟩

theorem fnOk33 : FnOk Try.prog 33 := ⟨by kernel_rfl⟩

theorem fnOk14 : FnOk Try.prog 14 := ⟨by kernel_rfl⟩

theorem fnOk34 : FnOk Try.prog 34 := ⟨by kernel_rfl⟩

theorem fnOk15 : FnOk Try.prog 15 := ⟨by kernel_rfl⟩

theorem tyZD30 : TyZ Try.prog 30 (.d (.st [(.int .i64 (0 : Int)), (.int .i64 (0 : Int)), (.list 1 (([] : List Int).map (eI .i64))), (.list 1 (([] : List Int).map (eI .i64)))])) := ⟨by kernel_rfl, fun w => by kernel_rfl⟩

theorem fnOk17 : FnOk Try.prog 17 := ⟨by kernel_rfl⟩

theorem tyZD22 : TyZ Try.prog 22 (.d (.list 1 (([] : List Int).map (eI .i64)))) := ⟨by kernel_rfl, fun w => by kernel_rfl⟩

theorem fnOk22 : FnOk Try.prog 22 := ⟨by kernel_rfl⟩

theorem fnOk18 : FnOk Try.prog 18 := ⟨by kernel_rfl⟩

theorem fnOk21 : FnOk Try.prog 21 := ⟨by kernel_rfl⟩

theorem fnOk23 : FnOk Try.prog 23 := ⟨by kernel_rfl⟩

theorem fnOk25 : FnOk Try.prog 25 := ⟨by kernel_rfl⟩

theorem fnOk19 : FnOk Try.prog 19 := ⟨by kernel_rfl⟩

theorem fnOk24 : FnOk Try.prog 24 := ⟨by kernel_rfl⟩

theorem fnOk27 : FnOk Try.prog 27 := ⟨by kernel_rfl⟩

theorem fnOk28 : FnOk Try.prog 28 := ⟨by kernel_rfl⟩

theorem fnOk29 : FnOk Try.prog 29 := ⟨by kernel_rfl⟩

noncomputable def clone_List_2 (a0 : (List Int)) : Option ((List Int)) :=
  chk (decide (a0.length ≤ LIM)) <|
  some a0
set_option maxHeartbeats 4000000 in
set_option maxRecDepth 100000 in
theorem clone_List_2_ac (a0 : (List Int)) (r : (List Int)) (h : clone_List_2 a0 = some r) : AC Try.prog 30 [(.d (.list 1 (a0.map (eI .i64))))] [] (.sref 900000 1 0 r.length) [(900000, some (.row 3 1 (r.map (eI .i64))))] := by
  refine AC.of_code2 Try.func30 rfl rfl (Nat.le_of_ble_eq_true (by rfl)) fun B hB hN => ?_
  delta clone_List_2 at h
  refine AWp.seq ?_
  refine AWp.region (OpJs.cons (OpJ.assign (ltN hN rfl) Opd.nils)
  (OpJs.nil)) (by rfl) (by rfl) ?_
  refine seqQ_n ?_
  refine AWp.ghost (Mat.pat [] [(0, (.d (.list 1 (a0.map (eI .i64)))))] [] hB (by rfl) (by rfl) (by rfl)) ?_
  refine AWp.seq ?_
  obtain ⟨hc1, h⟩ := chk_some h
  refine AWp.region (OpJs.cons (OpJ.move (ltN hN rfl) (Opd.tmp 0 (.d (.list 1 (a0.map (eI .i64))))))
  (OpJs.cons (OpJ.appendN hB Try.underlying22 tyE3 (nm := 1004) (by decide) (ys := a0.map (eI .i64)) (len := a0.length) (by simp) (map_sz (f := (eI .i64)) (fun _ => rfl)) (by rw [List.length_map]; exact lim_mulN hc1 (by decide)) (by rw [List.length_map]; exact lim_leN hc1) (ltN hN rfl) Opd.nils (Opd.tmp 3 (.d (.list 1 (a0.map (eI .i64))))))
  (OpJs.cons (OpJ.assign (ltN hN rfl) (Opd.tmp 4 (.sref 1004 1 0 a0.length)))
  (OpJs.nil)))) (by rfl) (by rfl) ?_
  refine seqQ_n ?_
  refine AWp.ghost (Mat.pat [] [(2, (.sref 1004 1 0 a0.length))] [(1004, some (.row 3 1 (a0.map (eI .i64))))] hB (by rfl) (by rfl) (by rfl)) ?_
  refine AWp.ret ?_
  obtain rfl := Option.some.inj h
  exact ⟨.inl rfl, _, _, (Mat.pat [(900000, 1004)] [(2, (.sref 900000 1 0 a0.length))] [(900000, some (.row 3 1 (a0.map (eI .i64))))] hB (by rfl) (by rfl) (by rfl)), [(.sref 900000 1 0 a0.length)], (Res.tmp (by rfl) (by rfl) Res.nil), rfl, by rfl, by rfl, by rfl⟩

noncomputable def percentile_Percentile (a0 : (List Int)) (a1 : Int) : Option (Int × Int) :=
  (if (((decide (a1 < (1 : Int))) || (decide ((100 : Int) < a1))) || (decide ((9000 : Int) < (a0.length : Int)))) = true then
  some ((0 : Int), (1 : Int))
  else
  (if ((a0.length : Int) == (0 : Int)) = true then
  some ((0 : Int), (39 : Int))
  else
  (clone_List_2 a0).bind fun r3 =>
  (ext31_slices_Sort r3).bind fun r4 =>
  chk (decide (r4.length = r3.length)) <|
  (idx r4 (w64 ((w64 (Int.tdiv (w64 ((w64 (a1 * (a0.length : Int))) + (99 : Int))) (100 : Int))) - (1 : Int)))).bind fun x6 =>
  (idx r4 (w64 ((w64 (Int.tdiv (w64 ((w64 (a1 * (a0.length : Int))) + (99 : Int))) (100 : Int))) - (1 : Int)))).bind fun x7 =>
  some (x7, (0 : Int))))
set_option maxHeartbeats 4000000 in
set_option maxRecDepth 100000 in
theorem percentile_Percentile_ac (a0 : (List Int)) (a1 : Int) (r : Int × Int) (h : percentile_Percentile a0 a1 = some r) : AC Try.prog 8 [(.d (.list 1 (a0.map (eI .i64)))), (.d (.int .i64 a1))] [] (.tup [(.d (.int .i64 r.1)), (.d (.int .i64 r.2))]) [] := by
  refine AC.of_code2 Try.func8 rfl rfl (Nat.le_of_ble_eq_true (by rfl)) fun B hB hN => ?_
  delta percentile_Percentile at h
  refine AWp.seq ?_
  refine AWp.region (OpJs.cons (OpJ.assign (ltN hN rfl) (Opd.int .i64 (0)))
  (OpJs.cons (OpJ.assign (ltN hN rfl) (Opd.int .i64 (0)))
  (OpJs.nil))) (by rfl) (by rfl) ?_
  refine seqQ_n ?_
  refine AWp.ghost (Mat.pat [] [(0, (.d (.list 1 (a0.map (eI .i64))))), (1, (.d (.int .i64 a1)))] [] hB (by rfl) (by rfl) (by rfl)) ?_
  refine AWp.seq ?_
  refine AWp.seq ?_
  refine AWp.region (OpJs.cons (OpJ.move (ltN hN rfl) (Opd.tmp 1 (.d (.int .i64 a1))))
  (OpJs.cons (OpJ.lss (ltN hN rfl) (Opd.tmp 7 (.d (.int .i64 a1))) (Opd.int .i64 (1)))
  (OpJs.cons (OpJ.move (ltN hN rfl) (Opd.tmp 8 (.d (.bool (decide (a1 < (1 : Int)))))))
  (OpJs.cons (OpJ.opt' (v := (.d (.int .i64 a1))) (OpJ.move (ltN hN rfl) (Opd.tmp 1 (.d (.int .i64 a1)))) (by rfl) (GuardV.plain _) (ltN hN rfl) (by rfl) (by rfl) (by rfl) (by rfl) (OptL.keep rfl OptL.nil))
  (OpJs.cons (OpJ.opt' (v := (.d (.bool (decide ((100 : Int) < a1))))) (OpJ.gtr (ltN hN rfl) (Opd.tmp 10 (.d (.int .i64 a1))) (Opd.int .i64 (100))) (by rfl) (GuardV.plain _) (ltN hN rfl) (by rfl) (by rfl) (by rfl) (by rfl) (OptL.opt OptL.nil))
  (OpJs.cons (OpJ.pickOr rfl (ltN hN rfl) (Opd.tmp 9 (.d (.bool (decide (a1 < (1 : Int)))))) (Opd.tmp 11 (.opt ((decide (a1 < (1 : Int))) == false) (.d (.bool (decide ((100 : Int) < a1)))))))
  (OpJs.cons (OpJ.move (ltN hN rfl) (Opd.tmp 12 (.d (.bool ((decide (a1 < (1 : Int))) || (decide ((100 : Int) < a1)))))))
  (OpJs.cons (OpJ.opt' (v := (.d (.list 1 (a0.map (eI .i64))))) (OpJ.move (ltN hN rfl) (Opd.tmp 0 (.d (.list 1 (a0.map (eI .i64)))))) (by rfl) (GuardV.plain _) (ltN hN rfl) (by rfl) (by rfl) (by rfl) (by rfl) (OptL.keep rfl OptL.nil))
  (OpJs.cons (OpJ.opt' (v := (.d (.int .i64 (a0.length : Int)))) (OpJ.val (v' := (.d (.int .i64 (a0.length : Int)))) (by simp) (OpJ.lenD Try.underlying22 (ltN hN rfl) (Opd.tmp 14 (.d (.list 1 (a0.map (eI .i64))))))) (by rfl) (GuardV.plain _) (ltN hN rfl) (by rfl) (by rfl) (by rfl) (by rfl) (OptL.opt OptL.nil))
  (OpJs.cons (OpJ.opt' (v := (.d (.bool (decide ((9000 : Int) < (a0.length : Int)))))) (OpJ.gtr (ltN hN rfl) (Opd.tmp 15 (.d (.int .i64 (a0.length : Int)))) (Opd.int .i64 (9000))) (by rfl) (GuardV.plain _) (ltN hN rfl) (by rfl) (by rfl) (by rfl) (by rfl) (OptL.opt OptL.nil))
  (OpJs.cons (OpJ.pickOr rfl (ltN hN rfl) (Opd.tmp 13 (.d (.bool ((decide (a1 < (1 : Int))) || (decide ((100 : Int) < a1)))))) (Opd.tmp 16 (.opt (((decide (a1 < (1 : Int))) || (decide ((100 : Int) < a1))) == false) (.d (.bool (decide ((9000 : Int) < (a0.length : Int))))))))
  (OpJs.nil)))))))))))) (by rfl) (by rfl) ?_
  refine seqQ_n ?_
  refine AWp.ghost (Mat.pat [] [(0, (.d (.list 1 (a0.map (eI .i64))))), (1, (.d (.int .i64 a1))), (17, (.d (.bool (((decide (a1 < (1 : Int))) || (decide ((100 : Int) < a1))) || (decide ((9000 : Int) < (a0.length : Int)))))))] [] hB (by rfl) (by rfl) (by rfl)) ?_
  refine AWp.cond (b := (((decide (a1 < (1 : Int))) || (decide ((100 : Int) < a1))) || (decide ((9000 : Int) < (a0.length : Int))))) (by rfl) (fun hg1 => ?_) (fun hg1 => ?_)
  · replace h := ite_t hg1 h
    refine AWp.seq ?_
    refine AWp.region (OpJs.cons (OpJ.assign (ltN hN rfl) (Opd.int .i64 (0)))
      (OpJs.cons (OpJ.assign (ltN hN rfl) (Opd.int .i64 (1)))
      (OpJs.nil))) (by rfl) (by rfl) ?_
    refine seqQ_n ?_
    refine AWp.ghost (Mat.pat [] [(4, (.d (.int .i64 (0 : Int)))), (5, (.d (.int .i64 (1 : Int))))] [] hB (by rfl) (by rfl) (by rfl)) ?_
    refine AWp.ret ?_
    refine seqQ_r ?_
    obtain rfl := Option.some.inj h
    exact ⟨.inl rfl, _, _, (Mat.pat [] [(4, (.d (.int .i64 (0 : Int)))), (5, (.d (.int .i64 (1 : Int))))] [] hB (by rfl) (by rfl) (by rfl)), [(.d (.int .i64 (0 : Int))), (.d (.int .i64 (1 : Int)))], (Res.tmp (by rfl) (by rfl) (Res.tmp (by rfl) (by rfl) Res.nil)), rfl, by rfl, by rfl, by rfl⟩
  · replace h := ite_f hg1 h
    refine AWp.skip ?_
    refine seqQ_n ?_
    refine AWp.seq ?_
    refine AWp.seq ?_
    refine AWp.region (OpJs.cons (OpJ.move (ltN hN rfl) (Opd.tmp 0 (.d (.list 1 (a0.map (eI .i64))))))
      (OpJs.cons (OpJ.val (v' := (.d (.int .i64 (a0.length : Int)))) (by simp) (OpJ.lenD Try.underlying22 (ltN hN rfl) (Opd.tmp 18 (.d (.list 1 (a0.map (eI .i64)))))))
      (OpJs.cons (OpJ.eqlI (ltN hN rfl) (Opd.tmp 19 (.d (.int .i64 (a0.length : Int)))) (Opd.int .i64 (0)))
      (OpJs.nil)))) (by rfl) (by rfl) ?_
    refine seqQ_n ?_
    refine AWp.ghost (Mat.pat [] [(0, (.d (.list 1 (a0.map (eI .i64))))), (1, (.d (.int .i64 a1))), (20, (.d (.bool ((a0.length : Int) == (0 : Int)))))] [] hB (by rfl) (by rfl) (by rfl)) ?_
    refine AWp.cond (b := ((a0.length : Int) == (0 : Int))) (by rfl) (fun hg2 => ?_) (fun hg2 => ?_)
    · replace h := ite_t hg2 h
      refine AWp.seq ?_
      refine AWp.region (OpJs.cons (OpJ.assign (ltN hN rfl) (Opd.int .i64 (0)))
        (OpJs.cons (OpJ.assign (ltN hN rfl) (Opd.int .i64 (39)))
        (OpJs.nil))) (by rfl) (by rfl) ?_
      refine seqQ_n ?_
      refine AWp.ghost (Mat.pat [] [(4, (.d (.int .i64 (0 : Int)))), (5, (.d (.int .i64 (39 : Int))))] [] hB (by rfl) (by rfl) (by rfl)) ?_
      refine AWp.ret ?_
      refine seqQ_r ?_
      obtain rfl := Option.some.inj h
      exact ⟨.inl rfl, _, _, (Mat.pat [] [(4, (.d (.int .i64 (0 : Int)))), (5, (.d (.int .i64 (39 : Int))))] [] hB (by rfl) (by rfl) (by rfl)), [(.d (.int .i64 (0 : Int))), (.d (.int .i64 (39 : Int)))], (Res.tmp (by rfl) (by rfl) (Res.tmp (by rfl) (by rfl) Res.nil)), rfl, by rfl, by rfl, by rfl⟩
    · replace h := ite_f hg2 h
      refine AWp.skip ?_
      refine seqQ_n ?_
      refine AWp.seq ?_
      obtain ⟨r3, hr3, h⟩ := bindS h
      refine AWp.region (OpJs.cons (OpJ.move (ltN hN rfl) (Opd.tmp 0 (.d (.list 1 (a0.map (eI .i64))))))
        (OpJs.cons (OpJ.callFn hB fnOk30 (clone_List_2_ac a0 r3 hr3) [(900000, 100000)] (by kernel_rfl) (ltN hN rfl) (by kernel_rfl) (OpdL.cons (Opd.tmp 21 (.d (.list 1 (a0.map (eI .i64))))) OpdL.nil))
        (OpJs.cons (OpJ.assign (ltN hN rfl) (Opd.tmp 22 (.sref 100000 1 0 r3.length)))
        (OpJs.nil)))) (by rfl) (by rfl) ?_
      refine seqQ_n ?_
      refine AWp.ghost (Mat.pat [] [(0, (.d (.list 1 (a0.map (eI .i64))))), (1, (.d (.int .i64 a1))), (6, (.sref 100000 1 0 r3.length))] [(100000, some (.row 3 1 (r3.map (eI .i64))))] hB (by rfl) (by rfl) (by rfl)) ?_
      refine AWp.seq ?_
      obtain ⟨r4, hr4, h⟩ := bindS h
      obtain ⟨hc5, h⟩ := chk_some h
      have hc5_o := of_decide_eq_true hc5
      refine AWp.region (OpJs.cons (OpJ.move (ltN hN rfl) (Opd.tmp 6 (.sref 100000 1 0 r3.length)))
        (OpJs.cons (OpJ.callFn hB fnOk31 (ext31_slices_Sort_ac r3 r4 hr4) [(0, 100000)] (by kernel_rfl) (ltN hN rfl) (by kernel_rfl) (OpdL.cons (Opd.tmp 23 (.sref 100000 1 0 r3.length)) OpdL.nil))
        (OpJs.nil))) (by rfl) (by rfl) ?_
      refine seqQ_n ?_
      refine AWp.ghost (Mat.pat [] [(0, (.d (.list 1 (a0.map (eI .i64))))), (1, (.d (.int .i64 a1))), (6, (.sref 100000 1 0 r3.length))] [(100000, some (.row 3 1 (r4.map (eI .i64))))] hB (by rfl) (by rfl) (by rfl)) ?_
      refine AWp.seq ?_
      obtain ⟨x6, hx6, h⟩ := bindS h
      obtain ⟨x7, hx7, h⟩ := bindS h
      refine AWp.region (OpJs.cons (OpJ.move (ltN hN rfl) (Opd.tmp 6 (.sref 100000 1 0 r3.length)))
        (OpJs.cons (OpJ.move (ltN hN rfl) (Opd.tmp 1 (.d (.int .i64 a1))))
        (OpJs.cons (OpJ.move (ltN hN rfl) (Opd.tmp 0 (.d (.list 1 (a0.map (eI .i64))))))
        (OpJs.cons (OpJ.val (v' := (.d (.int .i64 (a0.length : Int)))) (by simp) (OpJ.lenD Try.underlying22 (ltN hN rfl) (Opd.tmp 27 (.d (.list 1 (a0.map (eI .i64)))))))
        (OpJs.cons (OpJ.mul (ltN hN rfl) (Opd.tmp 26 (.d (.int .i64 a1))) (Opd.tmp 28 (.d (.int .i64 (a0.length : Int)))))
        (OpJs.cons (OpJ.add (ltN hN rfl) (Opd.tmp 29 (.d (.int .i64 (w64 (a1 * (a0.length : Int)))))) (Opd.int .i64 (99)))
        (OpJs.cons (OpJ.quo (ltN hN rfl) (Opd.tmp 30 (.d (.int .i64 (w64 ((w64 (a1 * (a0.length : Int))) + (99 : Int)))))) (Opd.int .i64 (100)) (by decide))
        (OpJs.cons (OpJ.sub (ltN hN rfl) (Opd.tmp 31 (.d (.int .i64 (w64 (Int.tdiv (w64 ((w64 (a1 * (a0.length : Int))) + (99 : Int))) (100 : Int)))))) (Opd.int .i64 (1)))
        (OpJs.cons (OpJ.val (v' := (.ptr 100000 ((w64 ((w64 (Int.tdiv (w64 ((w64 (a1 * (a0.length : Int))) + (99 : Int))) (100 : Int))) - (1 : Int))).toNat * 1) [(w64 ((w64 (Int.tdiv (w64 ((w64 (a1 * (a0.length : Int))) + (99 : Int))) (100 : Int))) - (1 : Int))).toNat])) (by simp) (OpJ.indexS Try.underlying22 tyS3 (obj := (.row 3 1 (r4.map (eI .i64)))) (idx_some hx6).1 (by have := idx_lt hx6; first | (simpa using this) | ((try simp only [List.length_map] at this); (try simp only [List.length_map]); omega)) (ltN hN rfl) (Opd.tmp 25 (.sref 100000 1 0 r3.length)) (Opd.tmp 32 (.d (.int .i64 (w64 ((w64 (Int.tdiv (w64 ((w64 (a1 * (a0.length : Int))) + (99 : Int))) (100 : Int))) - (1 : Int))))))))
        (OpJs.cons (OpJ.loadR (e := 3) (sz := 1) (es := r4.map (eI .i64)) tyS3 (get_map (eI .i64) (idx_some hx7).2) (o := 0) (v := (.int .i64 x7)) (At.here _) (by rfl) (by rfl) (by rfl) (ltN hN rfl) (Opd.tmp 33 (.ptr 100000 ((w64 ((w64 (Int.tdiv (w64 ((w64 (a1 * (a0.length : Int))) + (99 : Int))) (100 : Int))) - (1 : Int))).toNat * 1) [(w64 ((w64 (Int.tdiv (w64 ((w64 (a1 * (a0.length : Int))) + (99 : Int))) (100 : Int))) - (1 : Int))).toNat])))
        (OpJs.cons (OpJ.assign (ltN hN rfl) (Opd.tmp 34 (.d (.int .i64 x7))))
        (OpJs.cons (OpJ.assign (ltN hN rfl) (Opd.int .i64 (0)))
        (OpJs.nil))))))))))))) (by rfl) (by rfl) ?_
      refine seqQ_n ?_
      refine AWp.ghost (Mat.pat [] [(4, (.d (.int .i64 x7))), (5, (.d (.int .i64 (0 : Int))))] [] hB (by rfl) (by rfl) (by rfl)) ?_
      refine AWp.ret ?_
      obtain rfl := Option.some.inj h
      exact ⟨.inl rfl, _, _, (Mat.pat [] [(4, (.d (.int .i64 x7))), (5, (.d (.int .i64 (0 : Int))))] [] hB (by rfl) (by rfl) (by rfl)), [(.d (.int .i64 x7)), (.d (.int .i64 (0 : Int)))], (Res.tmp (by rfl) (by rfl) (Res.tmp (by rfl) (by rfl) Res.nil)), rfl, by rfl, by rfl, by rfl⟩

noncomputable def percentile_length (a0 : Int) : Option (Bool) :=
  some ((decide ((1 : Int) ≤ a0)) && (decide (a0 ≤ (86400 : Int))))
set_option maxHeartbeats 4000000 in
set_option maxRecDepth 100000 in
theorem percentile_length_ac (a0 : Int) (r : Bool) (h : percentile_length a0 = some r) : AC Try.prog 35 [(.d (.int .i64 a0))] [] (.d (.bool r)) [] := by
  refine AC.of_code2 Try.func35 rfl rfl (Nat.le_of_ble_eq_true (by rfl)) fun B hB hN => ?_
  delta percentile_length at h
  refine AWp.seq ?_
  refine AWp.region (OpJs.cons (OpJ.assign (ltN hN rfl) (Opd.bool false))
  (OpJs.nil)) (by rfl) (by rfl) ?_
  refine seqQ_n ?_
  refine AWp.ghost (Mat.pat [] [(0, (.d (.int .i64 a0)))] [] hB (by rfl) (by rfl) (by rfl)) ?_
  refine AWp.seq ?_
  refine AWp.region (OpJs.cons (OpJ.move (ltN hN rfl) (Opd.tmp 0 (.d (.int .i64 a0))))
  (OpJs.cons (OpJ.geq (ltN hN rfl) (Opd.tmp 3 (.d (.int .i64 a0))) (Opd.int .i64 (1)))
  (OpJs.cons (OpJ.move (ltN hN rfl) (Opd.tmp 4 (.d (.bool (decide ((1 : Int) ≤ a0))))))
  (OpJs.cons (OpJ.opt' (v := (.d (.int .i64 a0))) (OpJ.move (ltN hN rfl) (Opd.tmp 0 (.d (.int .i64 a0)))) (by rfl) (GuardV.plain _) (ltN hN rfl) (by rfl) (by rfl) (by rfl) (by rfl) (OptL.keep rfl OptL.nil))
  (OpJs.cons (OpJ.opt' (v := (.d (.bool (decide (a0 ≤ (86400 : Int)))))) (OpJ.leq (ltN hN rfl) (Opd.tmp 6 (.d (.int .i64 a0))) (Opd.int .i64 (86400))) (by rfl) (GuardV.plain _) (ltN hN rfl) (by rfl) (by rfl) (by rfl) (by rfl) (OptL.opt OptL.nil))
  (OpJs.cons (OpJ.pickAnd rfl (ltN hN rfl) (Opd.tmp 5 (.d (.bool (decide ((1 : Int) ≤ a0))))) (Opd.tmp 7 (.opt ((decide ((1 : Int) ≤ a0)) == true) (.d (.bool (decide (a0 ≤ (86400 : Int))))))))
  (OpJs.cons (OpJ.assign (ltN hN rfl) (Opd.tmp 8 (.d (.bool ((decide ((1 : Int) ≤ a0)) && (decide (a0 ≤ (86400 : Int))))))))
  (OpJs.nil)))))))) (by rfl) (by rfl) ?_
  refine seqQ_n ?_
  refine AWp.ghost (Mat.pat [] [(2, (.d (.bool ((decide ((1 : Int) ≤ a0)) && (decide (a0 ≤ (86400 : Int)))))))] [] hB (by rfl) (by rfl) (by rfl)) ?_
  refine AWp.ret ?_
  obtain rfl := Option.some.inj h
  exact ⟨.inl rfl, _, _, (Mat.pat [] [(2, (.d (.bool ((decide ((1 : Int) ≤ a0)) && (decide (a0 ≤ (86400 : Int)))))))] [] hB (by rfl) (by rfl) (by rfl)), [(.d (.bool ((decide ((1 : Int) ≤ a0)) && (decide (a0 ≤ (86400 : Int))))))], (Res.tmp (by rfl) (by rfl) Res.nil), rfl, by rfl, by rfl, by rfl⟩

noncomputable def percentile_Rate (a0 : Int) (a1 : Int) : Option (Int × Int) :=
  jn (fun m3 : Bool =>
  (if m3 = true then
  some ((0 : Int), (1 : Int))
  else
  chk (decide ((w64 (a1 * (1000000 : Int))) ≠ 0)) <|
  some ((w64 (Int.tdiv (w64 ((w64 ((w64 ((8 : Int) * a0)) + (w64 (a1 * (1000000 : Int))))) - (1 : Int))) (w64 (a1 * (1000000 : Int))))), (0 : Int)))) (fun j4 =>
  (if ((decide (a0 < (0 : Int))) || (decide ((1125899906842624 : Int) < a0))) = true then
  j4 true
  else
  (percentile_length a1).bind fun r8 =>
  j4 (!r8)))
set_option maxHeartbeats 4000000 in
set_option maxRecDepth 100000 in
theorem percentile_Rate_ac (a0 : Int) (a1 : Int) (r : Int × Int) (h : percentile_Rate a0 a1 = some r) : AC Try.prog 20 [(.d (.int .i64 a0)), (.d (.int .i64 a1))] [] (.tup [(.d (.int .i64 r.1)), (.d (.int .i64 r.2))]) [] := by
  refine AC.of_code2 Try.func20 rfl rfl (Nat.le_of_ble_eq_true (by rfl)) fun B hB hN => ?_
  delta percentile_Rate at h
  refine AWp.seq ?_
  refine AWp.region (OpJs.cons (OpJ.assign (ltN hN rfl) (Opd.int .i64 (0)))
  (OpJs.cons (OpJ.assign (ltN hN rfl) (Opd.int .i64 (0)))
  (OpJs.nil))) (by rfl) (by rfl) ?_
  refine seqQ_n ?_
  refine AWp.ghost (Mat.pat [] [(0, (.d (.int .i64 a0))), (1, (.d (.int .i64 a1)))] [] hB (by rfl) (by rfl) (by rfl)) ?_
  refine AWp.seq ?_
  refine AWp.seq ?_
  refine AWp.cut h (fun m3 : Bool => ([(0, (.d (.int .i64 a0))), (1, (.d (.int .i64 a1))), (17, (.d (.bool m3)))] : EL)) (fun m3 : Bool => ([] : OL)) (fun m3 h E' O' hmat => ?_) (fun j4 hjj4 h => ?_)
  · refine seqQ_n ?_
    refine AWp.ghost hmat ?_
    refine AWp.cond (b := m3) (by rfl) (fun hg5 => ?_) (fun hg5 => ?_)
    · replace h := ite_t hg5 h
      refine AWp.seq ?_
      refine AWp.region (OpJs.cons (OpJ.assign (ltN hN rfl) (Opd.int .i64 (0)))
        (OpJs.cons (OpJ.assign (ltN hN rfl) (Opd.int .i64 (1)))
        (OpJs.nil))) (by rfl) (by rfl) ?_
      refine seqQ_n ?_
      refine AWp.ghost (Mat.pat [] [(4, (.d (.int .i64 (0 : Int)))), (5, (.d (.int .i64 (1 : Int))))] [] hB (by rfl) (by rfl) (by rfl)) ?_
      refine AWp.ret ?_
      refine seqQ_r ?_
      obtain rfl := Option.some.inj h
      exact ⟨.inl rfl, _, _, (Mat.pat [] [(4, (.d (.int .i64 (0 : Int)))), (5, (.d (.int .i64 (1 : Int))))] [] hB (by rfl) (by rfl) (by rfl)), [(.d (.int .i64 (0 : Int))), (.d (.int .i64 (1 : Int)))], (Res.tmp (by rfl) (by rfl) (Res.tmp (by rfl) (by rfl) Res.nil)), rfl, by rfl, by rfl, by rfl⟩
    · replace h := ite_f hg5 h
      refine AWp.skip ?_
      refine seqQ_n ?_
      refine AWp.seq ?_
      refine AWp.region (OpJs.cons (OpJ.move (ltN hN rfl) (Opd.tmp 1 (.d (.int .i64 a1))))
        (OpJs.cons (OpJ.mul (ltN hN rfl) (Opd.tmp 18 (.d (.int .i64 a1))) (Opd.int .i64 (1000000)))
        (OpJs.cons (OpJ.assign (ltN hN rfl) (Opd.tmp 19 (.d (.int .i64 (w64 (a1 * (1000000 : Int)))))))
        (OpJs.nil)))) (by rfl) (by rfl) ?_
      refine seqQ_n ?_
      refine AWp.ghost (Mat.pat [] [(0, (.d (.int .i64 a0))), (6, (.d (.int .i64 (w64 (a1 * (1000000 : Int))))))] [] hB (by rfl) (by rfl) (by rfl)) ?_
      refine AWp.seq ?_
      obtain ⟨hc6, h⟩ := chk_some h
      refine AWp.region (OpJs.cons (OpJ.move (ltN hN rfl) (Opd.tmp 0 (.d (.int .i64 a0))))
        (OpJs.cons (OpJ.mul (ltN hN rfl) (Opd.int .i64 (8)) (Opd.tmp 20 (.d (.int .i64 a0))))
        (OpJs.cons (OpJ.move (ltN hN rfl) (Opd.tmp 6 (.d (.int .i64 (w64 (a1 * (1000000 : Int)))))))
        (OpJs.cons (OpJ.add (ltN hN rfl) (Opd.tmp 21 (.d (.int .i64 (w64 ((8 : Int) * a0))))) (Opd.tmp 22 (.d (.int .i64 (w64 (a1 * (1000000 : Int)))))))
        (OpJs.cons (OpJ.sub (ltN hN rfl) (Opd.tmp 23 (.d (.int .i64 (w64 ((w64 ((8 : Int) * a0)) + (w64 (a1 * (1000000 : Int)))))))) (Opd.int .i64 (1)))
        (OpJs.cons (OpJ.move (ltN hN rfl) (Opd.tmp 6 (.d (.int .i64 (w64 (a1 * (1000000 : Int)))))))
        (OpJs.cons (OpJ.quo (ltN hN rfl) (Opd.tmp 24 (.d (.int .i64 (w64 ((w64 ((w64 ((8 : Int) * a0)) + (w64 (a1 * (1000000 : Int))))) - (1 : Int)))))) (Opd.tmp 25 (.d (.int .i64 (w64 (a1 * (1000000 : Int)))))) (of_decide_eq_true hc6))
        (OpJs.cons (OpJ.assign (ltN hN rfl) (Opd.tmp 26 (.d (.int .i64 (w64 (Int.tdiv (w64 ((w64 ((w64 ((8 : Int) * a0)) + (w64 (a1 * (1000000 : Int))))) - (1 : Int))) (w64 (a1 * (1000000 : Int)))))))))
        (OpJs.cons (OpJ.assign (ltN hN rfl) (Opd.int .i64 (0)))
        (OpJs.nil)))))))))) (by rfl) (by rfl) ?_
      refine seqQ_n ?_
      refine AWp.ghost (Mat.pat [] [(4, (.d (.int .i64 (w64 (Int.tdiv (w64 ((w64 ((w64 ((8 : Int) * a0)) + (w64 (a1 * (1000000 : Int))))) - (1 : Int))) (w64 (a1 * (1000000 : Int)))))))), (5, (.d (.int .i64 (0 : Int))))] [] hB (by rfl) (by rfl) (by rfl)) ?_
      refine AWp.ret ?_
      obtain rfl := Option.some.inj h
      exact ⟨.inl rfl, _, _, (Mat.pat [] [(4, (.d (.int .i64 (w64 (Int.tdiv (w64 ((w64 ((w64 ((8 : Int) * a0)) + (w64 (a1 * (1000000 : Int))))) - (1 : Int))) (w64 (a1 * (1000000 : Int)))))))), (5, (.d (.int .i64 (0 : Int))))] [] hB (by rfl) (by rfl) (by rfl)), [(.d (.int .i64 (w64 (Int.tdiv (w64 ((w64 ((w64 ((8 : Int) * a0)) + (w64 (a1 * (1000000 : Int))))) - (1 : Int))) (w64 (a1 * (1000000 : Int))))))), (.d (.int .i64 (0 : Int)))], (Res.tmp (by rfl) (by rfl) (Res.tmp (by rfl) (by rfl) Res.nil)), rfl, by rfl, by rfl, by rfl⟩
  · rcases Bool.eq_false_or_eq_true ((decide (a0 < (0 : Int))) || (decide ((1125899906842624 : Int) < a0))) with hg7 | hg7
    · replace h := ite_t hg7 h
      refine AWp.region (OpJs.cons (OpJ.move (ltN hN rfl) (Opd.tmp 0 (.d (.int .i64 a0))))
        (OpJs.cons (OpJ.lss (ltN hN rfl) (Opd.tmp 7 (.d (.int .i64 a0))) (Opd.int .i64 (0)))
        (OpJs.cons (OpJ.move (ltN hN rfl) (Opd.tmp 8 (.d (.bool (decide (a0 < (0 : Int)))))))
        (OpJs.cons (OpJ.opt' (v := (.d (.int .i64 a0))) (OpJ.move (ltN hN rfl) (Opd.tmp 0 (.d (.int .i64 a0)))) (by rfl) (GuardV.plain _) (ltN hN rfl) (by rfl) (by rfl) (by rfl) (by rfl) (OptL.keep rfl OptL.nil))
        (OpJs.cons (OpJ.opt' (v := (.d (.bool (decide ((1125899906842624 : Int) < a0))))) (OpJ.gtr (ltN hN rfl) (Opd.tmp 10 (.d (.int .i64 a0))) (Opd.int .i64 (1125899906842624))) (by rfl) (GuardV.plain _) (ltN hN rfl) (by rfl) (by rfl) (by rfl) (by rfl) (OptL.opt OptL.nil))
        (OpJs.cons (OpJ.pickOr rfl (ltN hN rfl) (Opd.tmp 9 (.d (.bool (decide (a0 < (0 : Int)))))) (Opd.tmp 11 (.opt ((decide (a0 < (0 : Int))) == false) (.d (.bool (decide ((1125899906842624 : Int) < a0)))))))
        (OpJs.cons (OpJ.val (v' := .d (.bool true)) (by rw [hg7]) (OpJ.move (ltN hN rfl) (Opd.tmp 12 (.d (.bool ((decide (a0 < (0 : Int))) || (decide ((1125899906842624 : Int) < a0))))))))
        (OpJs.cons (OpJ.skipU (ltN hN rfl) (by rfl))
        (OpJs.cons (OpJ.skipU (ltN hN rfl) (by rfl))
        (OpJs.cons (OpJ.skipU (ltN hN rfl) (by rfl))
        (OpJs.cons (OpJ.pickT (ltN hN rfl) (Opd.tmp 13 (.d (.bool true))) (Opd.bool true))
        (OpJs.nil)))))))))))) (by rfl) (by rfl) ?_
      exact hjj4 _ h _ _ (Mat.trans (Mat.pat [] [(0, (.d (.int .i64 a0))), (1, (.d (.int .i64 a1))), (17, (.d (.bool true)))] [] hB (by rfl) (by rfl) (by rfl)) (Mat.pat [] ((fun m3 : Bool => ([(0, (.d (.int .i64 a0))), (1, (.d (.int .i64 a1))), (17, (.d (.bool m3)))] : EL)) true) ((fun m3 : Bool => ([] : OL)) true) hB (by rfl) (by rfl) (by rfl)))
    · replace h := ite_f hg7 h
      obtain ⟨r8, hr8, h⟩ := bindS h
      refine AWp.region (OpJs.cons (OpJ.move (ltN hN rfl) (Opd.tmp 0 (.d (.int .i64 a0))))
        (OpJs.cons (OpJ.lss (ltN hN rfl) (Opd.tmp 7 (.d (.int .i64 a0))) (Opd.int .i64 (0)))
        (OpJs.cons (OpJ.move (ltN hN rfl) (Opd.tmp 8 (.d (.bool (decide (a0 < (0 : Int)))))))
        (OpJs.cons (OpJ.opt' (v := (.d (.int .i64 a0))) (OpJ.move (ltN hN rfl) (Opd.tmp 0 (.d (.int .i64 a0)))) (by rfl) (GuardV.plain _) (ltN hN rfl) (by rfl) (by rfl) (by rfl) (by rfl) (OptL.keep rfl OptL.nil))
        (OpJs.cons (OpJ.opt' (v := (.d (.bool (decide ((1125899906842624 : Int) < a0))))) (OpJ.gtr (ltN hN rfl) (Opd.tmp 10 (.d (.int .i64 a0))) (Opd.int .i64 (1125899906842624))) (by rfl) (GuardV.plain _) (ltN hN rfl) (by rfl) (by rfl) (by rfl) (by rfl) (OptL.opt OptL.nil))
        (OpJs.cons (OpJ.pickOr rfl (ltN hN rfl) (Opd.tmp 9 (.d (.bool (decide (a0 < (0 : Int)))))) (Opd.tmp 11 (.opt ((decide (a0 < (0 : Int))) == false) (.d (.bool (decide ((1125899906842624 : Int) < a0)))))))
        (OpJs.cons (OpJ.val (v' := .d (.bool false)) (by rw [hg7]) (OpJ.move (ltN hN rfl) (Opd.tmp 12 (.d (.bool ((decide (a0 < (0 : Int))) || (decide ((1125899906842624 : Int) < a0))))))))
        (OpJs.cons (OpJ.guarded (by rfl) (OpJ.move (ltN hN rfl) (Opd.tmp 1 (.d (.int .i64 a1)))))
        (OpJs.cons (OpJ.guarded (by rfl) (OpJ.callFn hB fnOk35 (percentile_length_ac a1 r8 hr8) [] (by kernel_rfl) (ltN hN rfl) (by kernel_rfl) (OpdL.cons (Opd.tmp 14 (.d (.int .i64 a1))) OpdL.nil)))
        (OpJs.cons (OpJ.guarded (by rfl) (OpJ.not (ltN hN rfl) (Opd.tmp 15 (.d (.bool r8)))))
        (OpJs.cons (OpJ.pickF (ltN hN rfl) (Opd.tmp 13 (.d (.bool false))) (Opd.tmp 16 (.d (.bool (!r8)))))
        (OpJs.nil)))))))))))) (by rfl) (by rfl) ?_
      exact hjj4 _ h _ _ (Mat.trans (Mat.pat [] [(0, (.d (.int .i64 a0))), (1, (.d (.int .i64 a1))), (17, (.d (.bool (!r8))))] [] hB (by rfl) (by rfl) (by rfl)) (Mat.pat [] ((fun m3 : Bool => ([(0, (.d (.int .i64 a0))), (1, (.d (.int .i64 a1))), (17, (.d (.bool m3)))] : EL)) (!r8)) ((fun m3 : Bool => ([] : OL)) (!r8)) hB (by rfl) (by rfl) (by rfl)))

noncomputable def exchangepointlaw40_awake_L0 (s1 : Int × (List Int)) : Option ((((List Int))) ⊕ (Int × (List Int))) :=
  (if (decide ((0 : Int) < s1.1)) = true then
  chk (decide ((s1.2 ++ ([s1.1] : List Int)).length ≤ LIM)) <|
  some (.inr ((w64 (s1.1 - (1 : Int))), (s1.2 ++ ([s1.1] : List Int))))
  else
  some (.inl s1.2))
noncomputable def exchangepointlaw40_awake : Option (Bool) :=
  (loop (exchangepointlaw40_awake_L0) ((20 : Int), ([] : List Int))).bind fun p6 =>
  (percentile_Percentile p6 (95 : Int)).bind fun r11 =>
  (percentile_Rate (37500001 : Int) (300 : Int)).bind fun r12 =>
  some ((((r11.2 == (0 : Int)) && (r12.2 == (0 : Int))) && (r11.1 == (19 : Int))) && (r12.1 == (2 : Int)))
set_option maxHeartbeats 4000000 in
set_option maxRecDepth 100000 in
theorem exchangepointlaw40_awake_ac (r : Bool) (h : exchangepointlaw40_awake = some r) : AC Try.prog 9 [] [] (.d (.bool r)) [] := by
  refine AC.of_code2 Try.func9 rfl rfl (Nat.le_of_ble_eq_true (by rfl)) fun B hB hN => ?_
  delta exchangepointlaw40_awake at h
  refine AWp.seq ?_
  refine AWp.region (OpJs.cons (OpJ.assign (ltN hN rfl) (Opd.bool false))
  (OpJs.nil)) (by rfl) (by rfl) ?_
  refine seqQ_n ?_
  refine AWp.ghost (Mat.pat [] [] [] hB (by rfl) (by rfl) (by rfl)) ?_
  refine AWp.seq ?_
  refine AWp.region (OpJs.cons (OpJ.assign (ltN hN rfl) Opd.nils)
  (OpJs.nil)) (by rfl) (by rfl) ?_
  refine seqQ_n ?_
  refine AWp.ghost (Mat.pat [] [(1, .nils)] [] hB (by rfl) (by rfl) (by rfl)) ?_
  refine AWp.seq ?_
  refine AWp.seq ?_
  refine AWp.region (OpJs.cons (OpJ.assign (ltN hN rfl) (Opd.int .i64 (20)))
  (OpJs.nil)) (by rfl) (by rfl) ?_
  refine seqQ_n ?_
  refine AWp.ghost (Mat.pat [] [(1, .nils), (2, (.d (.int .i64 (20 : Int))))] [] hB (by rfl) (by rfl) (by rfl)) ?_
  refine AWp.block ?_
  obtain ⟨p6, hx10, h⟩ := bindS h
  refine AWp.ghost (Mat.trans (Mat.beginP (n := 3001) (e := 3) (sz := 1) (Ts := [(1, (.sref 3001 1 0 0))]) (Bs := []) hB (by decide) (by rfl) (by decide) (TwT.cons (x := .nils) (by rfl) (Tw.leaf ⟨rfl, rfl⟩) TwT.nil) TwB.nil) (Mat.pat [] ((fun s1 : Int × (List Int) => ([(1, (.sref 3001 1 0 s1.2.length)), (2, (.d (.int .i64 s1.1)))] : EL)) ((20 : Int), ([] : List Int))) ((fun s1 : Int × (List Int) => ([(3001, some (.row 3 1 (s1.2.map (eI .i64))))] : OL)) ((20 : Int), ([] : List Int))) hB (by rfl) (by rfl) (by rfl))) ?_
  refine AWp.loopS (exchangepointlaw40_awake_L0) (fun s1 : Int × (List Int) => ([(1, (.sref 3001 1 0 s1.2.length)), (2, (.d (.int .i64 s1.1)))] : EL)) (fun s1 : Int × (List Int) => ([(3001, some (.row 3 1 (s1.2.map (eI .i64))))] : OL)) (fun (p6 : ((List Int))) e E' O' => e = .exit 0 ∧ Mat B E' O' ([(1, (.sref 3001 1 0 p6.length))] : EL) ([(3001, some (.row 3 1 (p6.map (eI .i64))))] : OL)) hx10 (fun s1 y h => ?_) (fun e E' O' hR => ?_)
  · unfold exchangepointlaw40_awake_L0 at h
    show AWp _ _ _ _ ([(1, (.sref 3001 1 0 s1.2.length)), (2, (.d (.int .i64 s1.1)))] : EL) ([(3001, some (.row 3 1 (s1.2.map (eI .i64))))] : OL)
    refine AWp.seq ?_
    refine AWp.seq ?_
    refine AWp.region (OpJs.cons (OpJ.move (ltN hN rfl) (Opd.tmp 2 (.d (.int .i64 s1.1))))
      (OpJs.cons (OpJ.gtr (ltN hN rfl) (Opd.tmp 7 (.d (.int .i64 s1.1))) (Opd.int .i64 (0)))
      (OpJs.nil))) (by rfl) (by rfl) ?_
    refine seqQ_n ?_
    refine AWp.ghost (Mat.pat [] [(1, (.sref 3001 1 0 s1.2.length)), (2, (.d (.int .i64 s1.1))), (8, (.d (.bool (decide ((0 : Int) < s1.1)))))] [(3001, some (.row 3 1 (s1.2.map (eI .i64))))] hB (by rfl) (by rfl) (by rfl)) ?_
    refine AWp.cond (b := (decide ((0 : Int) < s1.1))) (by rfl) (fun hg7 => ?_) (fun hg7 => ?_)
    · replace h := ite_t hg7 h
      refine AWp.skip ?_
      refine seqQ_n ?_
      refine AWp.seq ?_
      refine AWp.block ?_
      obtain ⟨hc8, h⟩ := chk_some h
      refine AWp.region (OpJs.cons (OpJ.move (ltN hN rfl) (Opd.tmp 1 (.sref 3001 1 0 s1.2.length)))
        (OpJs.cons (OpJ.move (ltN hN rfl) (Opd.tmp 2 (.d (.int .i64 s1.1))))
        (OpJs.cons (OpJ.buildSlice Try.underlying22 tyS3 tyZD3 (by rfl) (by decide) (by decide) (Opds.cons (Opd.tmp 12 (.d (.int .i64 s1.1))) Opds.nil) (by kernel_rfl) (es := ([(.int .i64 s1.1)] : List D)) (by rfl) (by rfl) (by kernel_rfl) (by simp) (ltN hN rfl))
        (OpJs.cons (OpJ.append hB Try.underlying22 tyE3 (nm := 1014) (by decide) (es := s1.2.map (eI .i64)) (ys := ([s1.1] : List Int).map (eI .i64)) (es' := (s1.2 ++ ([s1.1] : List Int)).map (eI .i64)) (len := (s1.2 ++ ([s1.1] : List Int)).length) (by simp) (by simp) (map_sz (f := (eI .i64)) (fun _ => rfl)) (by rw [List.length_map]; exact lim_mulN hc8 (by decide)) (by rw [List.length_map]; exact lim_leN hc8) (ltN hN rfl) (by simp) (Opd.tmp 11 (.sref 3001 1 0 s1.2.length)) (Opd.tmp 13 (.d (.list 1 (([s1.1] : List Int).map (eI .i64))))))
        (OpJs.cons (OpJ.assign (ltN hN rfl) (Opd.tmp 14 (.sref 1014 1 0 ((s1.2 ++ ([s1.1] : List Int)).length))))
        (OpJs.nil)))))) (by rfl) (by rfl) ?_
      refine blkQ_n ?_
      refine seqQ_n ?_
      refine AWp.ghost (Mat.pat [] [(1, (.sref 1014 1 0 ((s1.2 ++ ([s1.1] : List Int)).length))), (2, (.d (.int .i64 s1.1)))] [(1014, some (.row 3 1 ((s1.2 ++ ([s1.1] : List Int)).map (eI .i64))))] hB (by rfl) (by rfl) (by rfl)) ?_
      refine AWp.region (OpJs.cons (OpJ.move (ltN hN rfl) (Opd.tmp 2 (.d (.int .i64 s1.1))))
        (OpJs.cons (OpJ.sub (ltN hN rfl) (Opd.tmp 9 (.d (.int .i64 s1.1))) (Opd.int .i64 (1)))
        (OpJs.cons (OpJ.assign (ltN hN rfl) (Opd.tmp 10 (.d (.int .i64 (w64 (s1.1 - (1 : Int)))))))
        (OpJs.nil)))) (by rfl) (by rfl) ?_
      obtain rfl := Option.some.inj h
      exact ⟨rfl, (Mat.trans (Mat.pat [] [(1, (.sref 1014 1 0 ((s1.2 ++ ([s1.1] : List Int)).length))), (2, (.d (.int .i64 (w64 (s1.1 - (1 : Int))))))] [(1014, some (.row 3 1 ((s1.2 ++ ([s1.1] : List Int)).map (eI .i64))))] hB (by rfl) (by rfl) (by rfl)) (Mat.pat [(3001, 1014)] ((fun s1 : Int × (List Int) => ([(1, (.sref 3001 1 0 s1.2.length)), (2, (.d (.int .i64 s1.1)))] : EL)) ((w64 (s1.1 - (1 : Int))), (s1.2 ++ ([s1.1] : List Int)))) ((fun s1 : Int × (List Int) => ([(3001, some (.row 3 1 (s1.2.map (eI .i64))))] : OL)) ((w64 (s1.1 - (1 : Int))), (s1.2 ++ ([s1.1] : List Int)))) hB (by rfl) (by rfl) (by rfl)))⟩
    · replace h := ite_f hg7 h
      refine AWp.exit ?_
      refine seqQ_e ?_
      obtain rfl := Option.some.inj h
      exact ⟨(fun hc => by cases hc), rfl, (Mat.pat [] ((fun p6 : (List Int) => ([(1, (.sref 3001 1 0 p6.length))] : EL)) s1.2) ((fun p6 : (List Int) => ([(3001, some (.row 3 1 (p6.map (eI .i64))))] : OL)) s1.2) hB (by rfl) (by rfl) (by rfl))⟩
  · obtain ⟨rfl, hmat⟩ := hR
    refine blkQ_hit ?_
    refine seqQ_n ?_
    refine AWp.ghost hmat ?_
    refine AWp.seq ?_
    refine AWp.ghost (Mat.freezeP (n := 3001) (e := 3) (sz := 1) (es := p6.map (eI .i64)) (Ts := [(1, (.d (.list 1 (p6.map (eI .i64)))))]) (Bs := []) (by rfl) (TwT.cons (x := (.sref 3001 1 0 p6.length)) (by rfl) (FrzL.all (by first | rfl | (simp; done) | (simp; omega))) TwT.nil) TwB.nil) ?_
    obtain ⟨r11, hr11, h⟩ := bindS h
    refine AWp.region (OpJs.cons (OpJ.move (ltN hN rfl) (Opd.tmp 1 (.d (.list 1 (p6.map (eI .i64))))))
      (OpJs.cons (OpJ.callFn hB fnOk8 (percentile_Percentile_ac p6 (95 : Int) r11 hr11) [] (by kernel_rfl) (ltN hN rfl) (by kernel_rfl) (OpdL.cons (Opd.tmp 16 (.d (.list 1 (p6.map (eI .i64))))) (OpdL.cons (Opd.int .i64 (95)) OpdL.nil)))
      (OpJs.cons (OpJ.move (ltN hN rfl) (Opd.tmp 17 (.tup [(.d (.int .i64 r11.1)), (.d (.int .i64 r11.2))])))
      (OpJs.cons (OpJ.extract (v := (.d (.int .i64 r11.1))) (by rfl) rfl (ltN hN rfl) (Opd.tmp 15 (.tup [(.d (.int .i64 r11.1)), (.d (.int .i64 r11.2))])))
      (OpJs.cons (OpJ.extract (v := (.d (.int .i64 r11.2))) (by rfl) rfl (ltN hN rfl) (Opd.tmp 15 (.tup [(.d (.int .i64 r11.1)), (.d (.int .i64 r11.2))])))
      (OpJs.cons (OpJ.assign (ltN hN rfl) (Opd.tmp 18 (.d (.int .i64 r11.1))))
      (OpJs.cons (OpJ.assign (ltN hN rfl) (Opd.tmp 19 (.d (.int .i64 r11.2))))
      (OpJs.nil)))))))) (by rfl) (by rfl) ?_
    refine seqQ_n ?_
    refine AWp.ghost (Mat.pat [] [(3, (.d (.int .i64 r11.1))), (4, (.d (.int .i64 r11.2)))] [] hB (by rfl) (by rfl) (by rfl)) ?_
    refine AWp.seq ?_
    obtain ⟨r12, hr12, h⟩ := bindS h
    refine AWp.region (OpJs.cons (OpJ.callFn hB fnOk20 (percentile_Rate_ac (37500001 : Int) (300 : Int) r12 hr12) [] (by kernel_rfl) (ltN hN rfl) (by kernel_rfl) (OpdL.cons (Opd.int .i64 (37500001)) (OpdL.cons (Opd.int .i64 (300)) OpdL.nil)))
      (OpJs.cons (OpJ.move (ltN hN rfl) (Opd.tmp 21 (.tup [(.d (.int .i64 r12.1)), (.d (.int .i64 r12.2))])))
      (OpJs.cons (OpJ.extract (v := (.d (.int .i64 r12.1))) (by rfl) rfl (ltN hN rfl) (Opd.tmp 20 (.tup [(.d (.int .i64 r12.1)), (.d (.int .i64 r12.2))])))
      (OpJs.cons (OpJ.extract (v := (.d (.int .i64 r12.2))) (by rfl) rfl (ltN hN rfl) (Opd.tmp 20 (.tup [(.d (.int .i64 r12.1)), (.d (.int .i64 r12.2))])))
      (OpJs.cons (OpJ.assign (ltN hN rfl) (Opd.tmp 22 (.d (.int .i64 r12.1))))
      (OpJs.cons (OpJ.assign (ltN hN rfl) (Opd.tmp 23 (.d (.int .i64 r12.2))))
      (OpJs.nil))))))) (by rfl) (by rfl) ?_
    refine seqQ_n ?_
    refine AWp.ghost (Mat.pat [] [(3, (.d (.int .i64 r11.1))), (4, (.d (.int .i64 r11.2))), (5, (.d (.int .i64 r12.1))), (6, (.d (.int .i64 r12.2)))] [] hB (by rfl) (by rfl) (by rfl)) ?_
    refine AWp.seq ?_
    refine AWp.region (OpJs.cons (OpJ.move (ltN hN rfl) (Opd.tmp 4 (.d (.int .i64 r11.2))))
      (OpJs.cons (OpJ.eqlI (ltN hN rfl) (Opd.tmp 24 (.d (.int .i64 r11.2))) (Opd.int .i64 (0)))
      (OpJs.cons (OpJ.move (ltN hN rfl) (Opd.tmp 25 (.d (.bool (r11.2 == (0 : Int))))))
      (OpJs.cons (OpJ.opt' (v := (.d (.int .i64 r12.2))) (OpJ.move (ltN hN rfl) (Opd.tmp 6 (.d (.int .i64 r12.2)))) (by rfl) (GuardV.plain _) (ltN hN rfl) (by rfl) (by rfl) (by rfl) (by rfl) (OptL.keep rfl OptL.nil))
      (OpJs.cons (OpJ.opt' (v := (.d (.bool (r12.2 == (0 : Int))))) (OpJ.eqlI (ltN hN rfl) (Opd.tmp 27 (.d (.int .i64 r12.2))) (Opd.int .i64 (0))) (by rfl) (GuardV.plain _) (ltN hN rfl) (by rfl) (by rfl) (by rfl) (by rfl) (OptL.opt OptL.nil))
      (OpJs.cons (OpJ.pickAnd rfl (ltN hN rfl) (Opd.tmp 26 (.d (.bool (r11.2 == (0 : Int))))) (Opd.tmp 28 (.opt ((r11.2 == (0 : Int)) == true) (.d (.bool (r12.2 == (0 : Int)))))))
      (OpJs.cons (OpJ.move (ltN hN rfl) (Opd.tmp 29 (.d (.bool ((r11.2 == (0 : Int)) && (r12.2 == (0 : Int)))))))
      (OpJs.cons (OpJ.opt' (v := (.d (.int .i64 r11.1))) (OpJ.move (ltN hN rfl) (Opd.tmp 3 (.d (.int .i64 r11.1)))) (by rfl) (GuardV.plain _) (ltN hN rfl) (by rfl) (by rfl) (by rfl) (by rfl) (OptL.keep rfl OptL.nil))
      (OpJs.cons (OpJ.opt' (v := (.d (.bool (r11.1 == (19 : Int))))) (OpJ.eqlI (ltN hN rfl) (Opd.tmp 31 (.d (.int .i64 r11.1))) (Opd.int .i64 (19))) (by rfl) (GuardV.plain _) (ltN hN rfl) (by rfl) (by rfl) (by rfl) (by rfl) (OptL.opt OptL.nil))
      (OpJs.cons (OpJ.pickAnd rfl (ltN hN rfl) (Opd.tmp 30 (.d (.bool ((r11.2 == (0 : Int)) && (r12.2 == (0 : Int)))))) (Opd.tmp 32 (.opt (((r11.2 == (0 : Int)) && (r12.2 == (0 : Int))) == true) (.d (.bool (r11.1 == (19 : Int)))))))
      (OpJs.cons (OpJ.move (ltN hN rfl) (Opd.tmp 33 (.d (.bool (((r11.2 == (0 : Int)) && (r12.2 == (0 : Int))) && (r11.1 == (19 : Int)))))))
      (OpJs.cons (OpJ.opt' (v := (.d (.int .i64 r12.1))) (OpJ.move (ltN hN rfl) (Opd.tmp 5 (.d (.int .i64 r12.1)))) (by rfl) (GuardV.plain _) (ltN hN rfl) (by rfl) (by rfl) (by rfl) (by rfl) (OptL.keep rfl OptL.nil))
      (OpJs.cons (OpJ.opt' (v := (.d (.bool (r12.1 == (2 : Int))))) (OpJ.eqlI (ltN hN rfl) (Opd.tmp 35 (.d (.int .i64 r12.1))) (Opd.int .i64 (2))) (by rfl) (GuardV.plain _) (ltN hN rfl) (by rfl) (by rfl) (by rfl) (by rfl) (OptL.opt OptL.nil))
      (OpJs.cons (OpJ.pickAnd rfl (ltN hN rfl) (Opd.tmp 34 (.d (.bool (((r11.2 == (0 : Int)) && (r12.2 == (0 : Int))) && (r11.1 == (19 : Int)))))) (Opd.tmp 36 (.opt ((((r11.2 == (0 : Int)) && (r12.2 == (0 : Int))) && (r11.1 == (19 : Int))) == true) (.d (.bool (r12.1 == (2 : Int)))))))
      (OpJs.cons (OpJ.assign (ltN hN rfl) (Opd.tmp 37 (.d (.bool ((((r11.2 == (0 : Int)) && (r12.2 == (0 : Int))) && (r11.1 == (19 : Int))) && (r12.1 == (2 : Int)))))))
      (OpJs.nil)))))))))))))))) (by rfl) (by rfl) ?_
    refine seqQ_n ?_
    refine AWp.ghost (Mat.pat [] [(0, (.d (.bool ((((r11.2 == (0 : Int)) && (r12.2 == (0 : Int))) && (r11.1 == (19 : Int))) && (r12.1 == (2 : Int))))))] [] hB (by rfl) (by rfl) (by rfl)) ?_
    refine AWp.ret ?_
    obtain rfl := Option.some.inj h
    exact ⟨.inl rfl, _, _, (Mat.pat [] [(0, (.d (.bool ((((r11.2 == (0 : Int)) && (r12.2 == (0 : Int))) && (r11.1 == (19 : Int))) && (r12.1 == (2 : Int))))))] [] hB (by rfl) (by rfl) (by rfl)), [(.d (.bool ((((r11.2 == (0 : Int)) && (r12.2 == (0 : Int))) && (r11.1 == (19 : Int))) && (r12.1 == (2 : Int)))))], (Res.tmp (by rfl) (by rfl) Res.nil), rfl, by rfl, by rfl, by rfl⟩

noncomputable def exchangepointmill_Mod (a0 : Int) (a1 : Int) : Option (Int) :=
  chk (decide (a1 ≠ 0)) <|
  jn (fun m3 : Int =>
  some m3) (fun j4 =>
  (if (decide ((Int.tmod a0 a1) < (0 : Int))) = true then
  j4 (w64 ((Int.tmod a0 a1) + a1))
  else
  j4 (Int.tmod a0 a1)))
set_option maxHeartbeats 4000000 in
set_option maxRecDepth 100000 in
theorem exchangepointmill_Mod_ac (a0 : Int) (a1 : Int) (r : Int) (h : exchangepointmill_Mod a0 a1 = some r) : AC Try.prog 10 [(.d (.int .i64 a0)), (.d (.int .i64 a1))] [] (.d (.int .i64 r)) [] := by
  refine AC.of_code2 Try.func10 rfl rfl (Nat.le_of_ble_eq_true (by rfl)) fun B hB hN => ?_
  delta exchangepointmill_Mod at h
  refine AWp.seq ?_
  refine AWp.region (OpJs.cons (OpJ.assign (ltN hN rfl) (Opd.int .i64 (0)))
  (OpJs.nil)) (by rfl) (by rfl) ?_
  refine seqQ_n ?_
  refine AWp.ghost (Mat.pat [] [(0, (.d (.int .i64 a0))), (1, (.d (.int .i64 a1)))] [] hB (by rfl) (by rfl) (by rfl)) ?_
  refine AWp.seq ?_
  obtain ⟨hc1, h⟩ := chk_some h
  refine AWp.region (OpJs.cons (OpJ.move (ltN hN rfl) (Opd.tmp 0 (.d (.int .i64 a0))))
  (OpJs.cons (OpJ.move (ltN hN rfl) (Opd.tmp 1 (.d (.int .i64 a1))))
  (OpJs.cons (OpJ.rem (ltN hN rfl) (Opd.tmp 6 (.d (.int .i64 a0))) (Opd.tmp 7 (.d (.int .i64 a1))) (of_decide_eq_true hc1))
  (OpJs.cons (OpJ.assign (ltN hN rfl) (Opd.tmp 8 (.d (.int .i64 (Int.tmod a0 a1)))))
  (OpJs.nil))))) (by rfl) (by rfl) ?_
  refine seqQ_n ?_
  refine AWp.ghost (Mat.pat [] [(1, (.d (.int .i64 a1))), (5, (.d (.int .i64 (Int.tmod a0 a1))))] [] hB (by rfl) (by rfl) (by rfl)) ?_
  refine AWp.seq ?_
  refine AWp.seq ?_
  refine AWp.region (OpJs.cons (OpJ.move (ltN hN rfl) (Opd.tmp 5 (.d (.int .i64 (Int.tmod a0 a1)))))
  (OpJs.cons (OpJ.lss (ltN hN rfl) (Opd.tmp 9 (.d (.int .i64 (Int.tmod a0 a1)))) (Opd.int .i64 (0)))
  (OpJs.nil))) (by rfl) (by rfl) ?_
  refine seqQ_n ?_
  refine AWp.ghost (Mat.pat [] [(1, (.d (.int .i64 a1))), (5, (.d (.int .i64 (Int.tmod a0 a1)))), (10, (.d (.bool (decide ((Int.tmod a0 a1) < (0 : Int))))))] [] hB (by rfl) (by rfl) (by rfl)) ?_
  refine AWp.cut h (fun m3 : Int => ([(5, (.d (.int .i64 m3)))] : EL)) (fun m3 : Int => ([] : OL)) (fun m3 h E' O' hmat => ?_) (fun j4 hjj4 h => ?_)
  · refine seqQ_n ?_
    refine AWp.ghost hmat ?_
    refine AWp.seq ?_
    refine AWp.region (OpJs.cons (OpJ.move (ltN hN rfl) (Opd.tmp 5 (.d (.int .i64 m3))))
      (OpJs.cons (OpJ.assign (ltN hN rfl) (Opd.tmp 14 (.d (.int .i64 m3))))
      (OpJs.nil))) (by rfl) (by rfl) ?_
    refine seqQ_n ?_
    refine AWp.ghost (Mat.pat [] [(4, (.d (.int .i64 m3)))] [] hB (by rfl) (by rfl) (by rfl)) ?_
    refine AWp.ret ?_
    obtain rfl := Option.some.inj h
    exact ⟨.inl rfl, _, _, (Mat.pat [] [(4, (.d (.int .i64 m3)))] [] hB (by rfl) (by rfl) (by rfl)), [(.d (.int .i64 m3))], (Res.tmp (by rfl) (by rfl) Res.nil), rfl, by rfl, by rfl, by rfl⟩
  · refine AWp.cond (b := (decide ((Int.tmod a0 a1) < (0 : Int)))) (by rfl) (fun hg5 => ?_) (fun hg5 => ?_)
    · replace h := ite_t hg5 h
      refine AWp.region (OpJs.cons (OpJ.move (ltN hN rfl) (Opd.tmp 5 (.d (.int .i64 (Int.tmod a0 a1)))))
        (OpJs.cons (OpJ.move (ltN hN rfl) (Opd.tmp 1 (.d (.int .i64 a1))))
        (OpJs.cons (OpJ.add (ltN hN rfl) (Opd.tmp 11 (.d (.int .i64 (Int.tmod a0 a1)))) (Opd.tmp 12 (.d (.int .i64 a1))))
        (OpJs.cons (OpJ.assign (ltN hN rfl) (Opd.tmp 13 (.d (.int .i64 (w64 ((Int.tmod a0 a1) + a1))))))
        (OpJs.nil))))) (by rfl) (by rfl) ?_
      exact hjj4 _ h _ _ (Mat.trans (Mat.pat [] [(5, (.d (.int .i64 (w64 ((Int.tmod a0 a1) + a1)))))] [] hB (by rfl) (by rfl) (by rfl)) (Mat.pat [] ((fun m3 : Int => ([(5, (.d (.int .i64 m3)))] : EL)) (w64 ((Int.tmod a0 a1) + a1))) ((fun m3 : Int => ([] : OL)) (w64 ((Int.tmod a0 a1) + a1))) hB (by rfl) (by rfl) (by rfl)))
    · replace h := ite_f hg5 h
      refine AWp.skip ?_
      exact hjj4 _ h _ _ (Mat.pat [] ((fun m3 : Int => ([(5, (.d (.int .i64 m3)))] : EL)) (Int.tmod a0 a1)) ((fun m3 : Int => ([] : OL)) (Int.tmod a0 a1)) hB (by rfl) (by rfl) (by rfl))

noncomputable def exchangepointlaw40_PercentileRank_L0 (a0 : (List Int)) (r10 : Int × Int) (s12 : Int × Int × Bool × Int) : Option (((Int × Int × Bool)) ⊕ (Int × Int × Bool × Int)) :=
  (if (decide (s12.2.2.2 < (a0.length : Int))) = true then
  (idx a0 s12.2.2.2).bind fun x35 =>
  jn (fun m37 : Int =>
  jn (fun m40 : Int =>
  some (.inr (m37, m40, (s12.2.2.1 || (x35 == r10.1)), (w64 (s12.2.2.2 + (1 : Int)))))) (fun j41 =>
  (if (decide (x35 < r10.1)) = true then
  j41 (w64 (s12.2.1 + (1 : Int)))
  else
  j41 s12.2.1))) (fun j38 =>
  (if (decide (x35 ≤ r10.1)) = true then
  j38 (w64 (s12.1 + (1 : Int)))
  else
  j38 s12.1))
  else
  some (.inl (s12.1, s12.2.1, s12.2.2.1)))
noncomputable def exchangepointlaw40_PercentileRank (a0 : (List Int)) (a1 : Int) : Option (Bool) :=
  (if (((a0.length : Int) == (0 : Int)) || (decide ((300 : Int) < (a0.length : Int)))) = true then
  (percentile_Percentile ([] : List Int) (95 : Int)).bind fun r2 =>
  jn (fun m5 : Bool =>
  some m5) (fun j6 =>
  (if (r2.2 == (39 : Int)) = true then
  (exchangepointlaw40_awake).bind fun r8 =>
  j6 r8
  else
  j6 false))
  else
  (exchangepointmill_Mod a1 (100 : Int)).bind fun r9 =>
  (percentile_Percentile a0 (w64 ((1 : Int) + r9))).bind fun r10 =>
  (if (r10.2 != (0 : Int)) = true then
  some false
  else
  (loop (exchangepointlaw40_PercentileRank_L0 a0 r10) ((0 : Int), (0 : Int), false, (0 : Int))).bind fun p33 =>
  jn (fun m48 : Bool =>
  some m48) (fun j49 =>
  (if ((p33.2.2 && (decide ((w64 ((w64 ((1 : Int) + r9)) * (a0.length : Int))) ≤ (w64 (p33.1 * (100 : Int)))))) && (decide ((w64 (p33.2.1 * (100 : Int))) < (w64 ((w64 ((1 : Int) + r9)) * (a0.length : Int)))))) = true then
  (exchangepointlaw40_awake).bind fun r51 =>
  j49 r51
  else
  j49 false))))
set_option maxHeartbeats 4000000 in
set_option maxRecDepth 100000 in
theorem exchangepointlaw40_PercentileRank_ac (a0 : (List Int)) (a1 : Int) (r : Bool) (h : exchangepointlaw40_PercentileRank a0 a1 = some r) : AC Try.prog 3 [(.d (.list 1 (a0.map (eI .i64)))), (.d (.int .i64 a1))] [] (.d (.bool r)) [] := by
  refine AC.of_code2 Try.func3 rfl rfl (Nat.le_of_ble_eq_true (by rfl)) fun B hB hN => ?_
  delta exchangepointlaw40_PercentileRank at h
  refine AWp.seq ?_
  refine AWp.region (OpJs.cons (OpJ.assign (ltN hN rfl) (Opd.bool false))
  (OpJs.nil)) (by rfl) (by rfl) ?_
  refine seqQ_n ?_
  refine AWp.ghost (Mat.pat [] [(0, (.d (.list 1 (a0.map (eI .i64))))), (1, (.d (.int .i64 a1)))] [] hB (by rfl) (by rfl) (by rfl)) ?_
  refine AWp.seq ?_
  refine AWp.seq ?_
  refine AWp.region (OpJs.cons (OpJ.move (ltN hN rfl) (Opd.tmp 0 (.d (.list 1 (a0.map (eI .i64))))))
  (OpJs.cons (OpJ.val (v' := (.d (.int .i64 (a0.length : Int)))) (by simp) (OpJ.lenD Try.underlying22 (ltN hN rfl) (Opd.tmp 15 (.d (.list 1 (a0.map (eI .i64)))))))
  (OpJs.cons (OpJ.eqlI (ltN hN rfl) (Opd.tmp 16 (.d (.int .i64 (a0.length : Int)))) (Opd.int .i64 (0)))
  (OpJs.cons (OpJ.move (ltN hN rfl) (Opd.tmp 17 (.d (.bool ((a0.length : Int) == (0 : Int))))))
  (OpJs.cons (OpJ.opt' (v := (.d (.list 1 (a0.map (eI .i64))))) (OpJ.move (ltN hN rfl) (Opd.tmp 0 (.d (.list 1 (a0.map (eI .i64)))))) (by rfl) (GuardV.plain _) (ltN hN rfl) (by rfl) (by rfl) (by rfl) (by rfl) (OptL.keep rfl OptL.nil))
  (OpJs.cons (OpJ.opt' (v := (.d (.int .i64 (a0.length : Int)))) (OpJ.val (v' := (.d (.int .i64 (a0.length : Int)))) (by simp) (OpJ.lenD Try.underlying22 (ltN hN rfl) (Opd.tmp 19 (.d (.list 1 (a0.map (eI .i64))))))) (by rfl) (GuardV.plain _) (ltN hN rfl) (by rfl) (by rfl) (by rfl) (by rfl) (OptL.opt OptL.nil))
  (OpJs.cons (OpJ.opt' (v := (.d (.bool (decide ((300 : Int) < (a0.length : Int)))))) (OpJ.gtr (ltN hN rfl) (Opd.tmp 20 (.d (.int .i64 (a0.length : Int)))) (Opd.int .i64 (300))) (by rfl) (GuardV.plain _) (ltN hN rfl) (by rfl) (by rfl) (by rfl) (by rfl) (OptL.opt OptL.nil))
  (OpJs.cons (OpJ.pickOr rfl (ltN hN rfl) (Opd.tmp 18 (.d (.bool ((a0.length : Int) == (0 : Int))))) (Opd.tmp 21 (.opt (((a0.length : Int) == (0 : Int)) == false) (.d (.bool (decide ((300 : Int) < (a0.length : Int))))))))
  (OpJs.nil))))))))) (by rfl) (by rfl) ?_
  refine seqQ_n ?_
  refine AWp.ghost (Mat.pat [] [(0, (.d (.list 1 (a0.map (eI .i64))))), (1, (.d (.int .i64 a1))), (22, (.d (.bool (((a0.length : Int) == (0 : Int)) || (decide ((300 : Int) < (a0.length : Int)))))))] [] hB (by rfl) (by rfl) (by rfl)) ?_
  refine AWp.cond (b := (((a0.length : Int) == (0 : Int)) || (decide ((300 : Int) < (a0.length : Int))))) (by rfl) (fun hg1 => ?_) (fun hg1 => ?_)
  · replace h := ite_t hg1 h
    refine AWp.seq ?_
    obtain ⟨r2, hr2, h⟩ := bindS h
    refine AWp.region (OpJs.cons (OpJ.callFn hB fnOk8 (percentile_Percentile_ac ([] : List Int) (95 : Int) r2 hr2) [] (by kernel_rfl) (ltN hN rfl) (by kernel_rfl) (OpdL.cons (Opd.tw Opd.nils (Tw.leaf ⟨_, (Co.nils 1), rfl⟩)) (OpdL.cons (Opd.int .i64 (95)) OpdL.nil)))
      (OpJs.cons (OpJ.move (ltN hN rfl) (Opd.tmp 24 (.tup [(.d (.int .i64 r2.1)), (.d (.int .i64 r2.2))])))
      (OpJs.cons (OpJ.extract (v := (.d (.int .i64 r2.1))) (by rfl) rfl (ltN hN rfl) (Opd.tmp 23 (.tup [(.d (.int .i64 r2.1)), (.d (.int .i64 r2.2))])))
      (OpJs.cons (OpJ.extract (v := (.d (.int .i64 r2.2))) (by rfl) rfl (ltN hN rfl) (Opd.tmp 23 (.tup [(.d (.int .i64 r2.1)), (.d (.int .i64 r2.2))])))
      (OpJs.cons (OpJ.assign (ltN hN rfl) (Opd.tmp 25 (.d (.int .i64 r2.1))))
      (OpJs.cons (OpJ.assign (ltN hN rfl) (Opd.tmp 26 (.d (.int .i64 r2.2))))
      (OpJs.nil))))))) (by rfl) (by rfl) ?_
    refine seqQ_n ?_
    refine AWp.ghost (Mat.pat [] [(6, (.d (.int .i64 r2.2)))] [] hB (by rfl) (by rfl) (by rfl)) ?_
    refine AWp.seq ?_
    refine AWp.cut h (fun m5 : Bool => ([(4, (.d (.bool m5)))] : EL)) (fun m5 : Bool => ([] : OL)) (fun m5 h E' O' hmat => ?_) (fun j6 hjj6 h => ?_)
    · refine seqQ_n ?_
      refine AWp.ghost hmat ?_
      refine AWp.ret ?_
      refine seqQ_r ?_
      obtain rfl := Option.some.inj h
      exact ⟨.inl rfl, _, _, (Mat.pat [] [(4, (.d (.bool m5)))] [] hB (by rfl) (by rfl) (by rfl)), [(.d (.bool m5))], (Res.tmp (by rfl) (by rfl) Res.nil), rfl, by rfl, by rfl, by rfl⟩
    · rcases Bool.eq_false_or_eq_true (r2.2 == (39 : Int)) with hg7 | hg7
      · replace h := ite_t hg7 h
        obtain ⟨r8, hr8, h⟩ := bindS h
        refine AWp.region (OpJs.cons (OpJ.move (ltN hN rfl) (Opd.tmp 6 (.d (.int .i64 r2.2))))
          (OpJs.cons (OpJ.eqlI (ltN hN rfl) (Opd.tmp 27 (.d (.int .i64 r2.2))) (Opd.int .i64 (39)))
          (OpJs.cons (OpJ.val (v' := .d (.bool true)) (by rw [hg7]) (OpJ.move (ltN hN rfl) (Opd.tmp 28 (.d (.bool (r2.2 == (39 : Int)))))))
          (OpJs.cons (OpJ.guarded (by rfl) (OpJ.callFn hB fnOk9 (exchangepointlaw40_awake_ac  r8 hr8) [] (by kernel_rfl) (ltN hN rfl) (by kernel_rfl) OpdL.nil))
          (OpJs.cons (OpJ.pickT (ltN hN rfl) (Opd.tmp 29 (.d (.bool true))) (Opd.tmp 30 (.d (.bool r8))))
          (OpJs.cons (OpJ.assign (ltN hN rfl) (Opd.tmp 31 (.d (.bool r8))))
          (OpJs.nil))))))) (by rfl) (by rfl) ?_
        exact hjj6 _ h _ _ (Mat.trans (Mat.pat [] [(4, (.d (.bool r8)))] [] hB (by rfl) (by rfl) (by rfl)) (Mat.pat [] ((fun m5 : Bool => ([(4, (.d (.bool m5)))] : EL)) r8) ((fun m5 : Bool => ([] : OL)) r8) hB (by rfl) (by rfl) (by rfl)))
      · replace h := ite_f hg7 h
        refine AWp.region (OpJs.cons (OpJ.move (ltN hN rfl) (Opd.tmp 6 (.d (.int .i64 r2.2))))
          (OpJs.cons (OpJ.eqlI (ltN hN rfl) (Opd.tmp 27 (.d (.int .i64 r2.2))) (Opd.int .i64 (39)))
          (OpJs.cons (OpJ.val (v' := .d (.bool false)) (by rw [hg7]) (OpJ.move (ltN hN rfl) (Opd.tmp 28 (.d (.bool (r2.2 == (39 : Int)))))))
          (OpJs.cons (OpJ.skipU (ltN hN rfl) (by rfl))
          (OpJs.cons (OpJ.pickF (ltN hN rfl) (Opd.tmp 29 (.d (.bool false))) (Opd.bool false))
          (OpJs.cons (OpJ.assign (ltN hN rfl) (Opd.tmp 31 (.d (.bool false))))
          (OpJs.nil))))))) (by rfl) (by rfl) ?_
        exact hjj6 _ h _ _ (Mat.trans (Mat.pat [] [(4, (.d (.bool false)))] [] hB (by rfl) (by rfl) (by rfl)) (Mat.pat [] ((fun m5 : Bool => ([(4, (.d (.bool m5)))] : EL)) false) ((fun m5 : Bool => ([] : OL)) false) hB (by rfl) (by rfl) (by rfl)))
  · replace h := ite_f hg1 h
    refine AWp.skip ?_
    refine seqQ_n ?_
    refine AWp.seq ?_
    obtain ⟨r9, hr9, h⟩ := bindS h
    refine AWp.region (OpJs.cons (OpJ.move (ltN hN rfl) (Opd.tmp 1 (.d (.int .i64 a1))))
      (OpJs.cons (OpJ.callFn hB fnOk10 (exchangepointmill_Mod_ac a1 (100 : Int) r9 hr9) [] (by kernel_rfl) (ltN hN rfl) (by kernel_rfl) (OpdL.cons (Opd.tmp 32 (.d (.int .i64 a1))) (OpdL.cons (Opd.int .i64 (100)) OpdL.nil)))
      (OpJs.cons (OpJ.add (ltN hN rfl) (Opd.int .i64 (1)) (Opd.tmp 33 (.d (.int .i64 r9))))
      (OpJs.cons (OpJ.assign (ltN hN rfl) (Opd.tmp 34 (.d (.int .i64 (w64 ((1 : Int) + r9))))))
      (OpJs.nil))))) (by rfl) (by rfl) ?_
    refine seqQ_n ?_
    refine AWp.ghost (Mat.pat [] [(0, (.d (.list 1 (a0.map (eI .i64))))), (7, (.d (.int .i64 (w64 ((1 : Int) + r9)))))] [] hB (by rfl) (by rfl) (by rfl)) ?_
    refine AWp.seq ?_
    obtain ⟨r10, hr10, h⟩ := bindS h
    refine AWp.region (OpJs.cons (OpJ.move (ltN hN rfl) (Opd.tmp 0 (.d (.list 1 (a0.map (eI .i64))))))
      (OpJs.cons (OpJ.move (ltN hN rfl) (Opd.tmp 7 (.d (.int .i64 (w64 ((1 : Int) + r9))))))
      (OpJs.cons (OpJ.callFn hB fnOk8 (percentile_Percentile_ac a0 (w64 ((1 : Int) + r9)) r10 hr10) [] (by kernel_rfl) (ltN hN rfl) (by kernel_rfl) (OpdL.cons (Opd.tmp 36 (.d (.list 1 (a0.map (eI .i64))))) (OpdL.cons (Opd.tmp 37 (.d (.int .i64 (w64 ((1 : Int) + r9))))) OpdL.nil)))
      (OpJs.cons (OpJ.move (ltN hN rfl) (Opd.tmp 38 (.tup [(.d (.int .i64 r10.1)), (.d (.int .i64 r10.2))])))
      (OpJs.cons (OpJ.extract (v := (.d (.int .i64 r10.1))) (by rfl) rfl (ltN hN rfl) (Opd.tmp 35 (.tup [(.d (.int .i64 r10.1)), (.d (.int .i64 r10.2))])))
      (OpJs.cons (OpJ.extract (v := (.d (.int .i64 r10.2))) (by rfl) rfl (ltN hN rfl) (Opd.tmp 35 (.tup [(.d (.int .i64 r10.1)), (.d (.int .i64 r10.2))])))
      (OpJs.cons (OpJ.assign (ltN hN rfl) (Opd.tmp 39 (.d (.int .i64 r10.1))))
      (OpJs.cons (OpJ.assign (ltN hN rfl) (Opd.tmp 40 (.d (.int .i64 r10.2))))
      (OpJs.nil))))))))) (by rfl) (by rfl) ?_
    refine seqQ_n ?_
    refine AWp.ghost (Mat.pat [] [(0, (.d (.list 1 (a0.map (eI .i64))))), (7, (.d (.int .i64 (w64 ((1 : Int) + r9))))), (8, (.d (.int .i64 r10.1))), (9, (.d (.int .i64 r10.2)))] [] hB (by rfl) (by rfl) (by rfl)) ?_
    refine AWp.seq ?_
    refine AWp.seq ?_
    refine AWp.region (OpJs.cons (OpJ.move (ltN hN rfl) (Opd.tmp 9 (.d (.int .i64 r10.2))))
      (OpJs.cons (OpJ.neqI (ltN hN rfl) (Opd.tmp 41 (.d (.int .i64 r10.2))) (Opd.int .i64 (0)))
      (OpJs.nil))) (by rfl) (by rfl) ?_
    refine seqQ_n ?_
    refine AWp.ghost (Mat.pat [] [(0, (.d (.list 1 (a0.map (eI .i64))))), (7, (.d (.int .i64 (w64 ((1 : Int) + r9))))), (8, (.d (.int .i64 r10.1))), (42, (.d (.bool (r10.2 != (0 : Int)))))] [] hB (by rfl) (by rfl) (by rfl)) ?_
    refine AWp.cond (b := (r10.2 != (0 : Int))) (by rfl) (fun hg11 => ?_) (fun hg11 => ?_)
    · replace h := ite_t hg11 h
      refine AWp.seq ?_
      refine AWp.region (OpJs.cons (OpJ.assign (ltN hN rfl) (Opd.bool false))
        (OpJs.nil)) (by rfl) (by rfl) ?_
      refine seqQ_n ?_
      refine AWp.ghost (Mat.pat [] [(4, (.d (.bool false)))] [] hB (by rfl) (by rfl) (by rfl)) ?_
      refine AWp.ret ?_
      refine seqQ_r ?_
      obtain rfl := Option.some.inj h
      exact ⟨.inl rfl, _, _, (Mat.pat [] [(4, (.d (.bool false)))] [] hB (by rfl) (by rfl) (by rfl)), [(.d (.bool false))], (Res.tmp (by rfl) (by rfl) Res.nil), rfl, by rfl, by rfl, by rfl⟩
    · replace h := ite_f hg11 h
      refine AWp.skip ?_
      refine seqQ_n ?_
      refine AWp.seq ?_
      refine AWp.region (OpJs.cons (OpJ.assign (ltN hN rfl) (Opd.int .i64 (0)))
        (OpJs.cons (OpJ.assign (ltN hN rfl) (Opd.int .i64 (0)))
        (OpJs.cons (OpJ.assign (ltN hN rfl) (Opd.bool false))
        (OpJs.nil)))) (by rfl) (by rfl) ?_
      refine seqQ_n ?_
      refine AWp.ghost (Mat.pat [] [(0, (.d (.list 1 (a0.map (eI .i64))))), (7, (.d (.int .i64 (w64 ((1 : Int) + r9))))), (8, (.d (.int .i64 r10.1))), (10, (.d (.int .i64 (0 : Int)))), (11, (.d (.int .i64 (0 : Int)))), (12, (.d (.bool false)))] [] hB (by rfl) (by rfl) (by rfl)) ?_
      refine AWp.seq ?_
      refine AWp.seq ?_
      refine AWp.region (OpJs.cons (OpJ.move (ltN hN rfl) (Opd.tmp 0 (.d (.list 1 (a0.map (eI .i64))))))
        (OpJs.cons (OpJ.val (v' := (.d (.int .i64 (a0.length : Int)))) (by simp) (OpJ.lenD Try.underlying22 (ltN hN rfl) (Opd.tmp 43 (.d (.list 1 (a0.map (eI .i64)))))))
        (OpJs.cons (OpJ.move (ltN hN rfl) (Opd.int .i64 (0)))
        (OpJs.nil)))) (by rfl) (by rfl) ?_
      refine seqQ_n ?_
      refine AWp.ghost (Mat.pat [] [(0, (.d (.list 1 (a0.map (eI .i64))))), (7, (.d (.int .i64 (w64 ((1 : Int) + r9))))), (8, (.d (.int .i64 r10.1))), (10, (.d (.int .i64 (0 : Int)))), (11, (.d (.int .i64 (0 : Int)))), (12, (.d (.bool false))), (43, (.d (.list 1 (a0.map (eI .i64))))), (44, (.d (.int .i64 (a0.length : Int)))), (45, (.d (.int .i64 (0 : Int))))] [] hB (by rfl) (by rfl) (by rfl)) ?_
      refine AWp.block ?_
      obtain ⟨p33, hx45, h⟩ := bindS h
      refine AWp.ghost (Mat.pat [] ((fun s12 : Int × Int × Bool × Int => ([(0, (.d (.list 1 (a0.map (eI .i64))))), (7, (.d (.int .i64 (w64 ((1 : Int) + r9))))), (8, (.d (.int .i64 r10.1))), (10, (.d (.int .i64 s12.1))), (11, (.d (.int .i64 s12.2.1))), (12, (.d (.bool s12.2.2.1))), (43, (.d (.list 1 (a0.map (eI .i64))))), (44, (.d (.int .i64 (a0.length : Int)))), (45, (.d (.int .i64 s12.2.2.2)))] : EL)) ((0 : Int), (0 : Int), false, (0 : Int))) ((fun s12 : Int × Int × Bool × Int => ([] : OL)) ((0 : Int), (0 : Int), false, (0 : Int))) hB (by rfl) (by rfl) (by rfl)) ?_
      refine AWp.loopS (exchangepointlaw40_PercentileRank_L0 a0 r10) (fun s12 : Int × Int × Bool × Int => ([(0, (.d (.list 1 (a0.map (eI .i64))))), (7, (.d (.int .i64 (w64 ((1 : Int) + r9))))), (8, (.d (.int .i64 r10.1))), (10, (.d (.int .i64 s12.1))), (11, (.d (.int .i64 s12.2.1))), (12, (.d (.bool s12.2.2.1))), (43, (.d (.list 1 (a0.map (eI .i64))))), (44, (.d (.int .i64 (a0.length : Int)))), (45, (.d (.int .i64 s12.2.2.2)))] : EL)) (fun s12 : Int × Int × Bool × Int => ([] : OL)) (fun (p33 : (Int × Int × Bool)) e E' O' => e = .exit 0 ∧ Mat B E' O' ([(0, (.d (.list 1 (a0.map (eI .i64))))), (7, (.d (.int .i64 (w64 ((1 : Int) + r9))))), (10, (.d (.int .i64 p33.1))), (11, (.d (.int .i64 p33.2.1))), (12, (.d (.bool p33.2.2)))] : EL) ([] : OL)) hx45 (fun s12 y h => ?_) (fun e E' O' hR => ?_)
      · unfold exchangepointlaw40_PercentileRank_L0 at h
        show AWp _ _ _ _ ([(0, (.d (.list 1 (a0.map (eI .i64))))), (7, (.d (.int .i64 (w64 ((1 : Int) + r9))))), (8, (.d (.int .i64 r10.1))), (10, (.d (.int .i64 s12.1))), (11, (.d (.int .i64 s12.2.1))), (12, (.d (.bool s12.2.2.1))), (43, (.d (.list 1 (a0.map (eI .i64))))), (44, (.d (.int .i64 (a0.length : Int)))), (45, (.d (.int .i64 s12.2.2.2)))] : EL) ([] : OL)
        refine AWp.seq ?_
        refine AWp.region (OpJs.cons (OpJ.lss (ltN hN rfl) (Opd.tmp 45 (.d (.int .i64 s12.2.2.2))) (Opd.tmp 44 (.d (.int .i64 (a0.length : Int)))))
          (OpJs.nil)) (by rfl) (by rfl) ?_
        refine seqQ_n ?_
        refine AWp.ghost (Mat.pat [] [(0, (.d (.list 1 (a0.map (eI .i64))))), (7, (.d (.int .i64 (w64 ((1 : Int) + r9))))), (8, (.d (.int .i64 r10.1))), (10, (.d (.int .i64 s12.1))), (11, (.d (.int .i64 s12.2.1))), (12, (.d (.bool s12.2.2.1))), (43, (.d (.list 1 (a0.map (eI .i64))))), (44, (.d (.int .i64 (a0.length : Int)))), (45, (.d (.int .i64 s12.2.2.2))), (46, (.d (.bool (decide (s12.2.2.2 < (a0.length : Int))))))] [] hB (by rfl) (by rfl) (by rfl)) ?_
        refine AWp.seq ?_
        refine AWp.cond (b := (decide (s12.2.2.2 < (a0.length : Int)))) (by rfl) (fun hg34 => ?_) (fun hg34 => ?_)
        · replace h := ite_t hg34 h
          refine AWp.skip ?_
          refine seqQ_n ?_
          refine AWp.seq ?_
          refine AWp.block ?_
          refine AWp.seq ?_
          obtain ⟨x35, hx35, h⟩ := bindS h
          refine AWp.region (OpJs.cons (OpJ.indexD (el := (.int .i64 x35)) Try.underlying22 tyS3 (idx_some hx35).1 (get_map (eI .i64) (idx_some hx35).2) (ltN hN rfl) (Opd.tmp 43 (.d (.list 1 (a0.map (eI .i64))))) (Opd.tmp 45 (.d (.int .i64 s12.2.2.2))))
            (OpJs.cons (OpJ.loadD tyS3 (by rfl) (by rfl) (ltN hN rfl) (Opd.tmp 47 (.dptr (.int .i64 x35))))
            (OpJs.cons (OpJ.assign (ltN hN rfl) (Opd.tmp 48 (.d (.int .i64 x35))))
            (OpJs.nil)))) (by rfl) (by rfl) ?_
          refine seqQ_n ?_
          refine AWp.ghost (Mat.pat [] [(0, (.d (.list 1 (a0.map (eI .i64))))), (7, (.d (.int .i64 (w64 ((1 : Int) + r9))))), (8, (.d (.int .i64 r10.1))), (10, (.d (.int .i64 s12.1))), (11, (.d (.int .i64 s12.2.1))), (12, (.d (.bool s12.2.2.1))), (14, (.d (.int .i64 x35))), (43, (.d (.list 1 (a0.map (eI .i64))))), (44, (.d (.int .i64 (a0.length : Int)))), (45, (.d (.int .i64 s12.2.2.2)))] [] hB (by rfl) (by rfl) (by rfl)) ?_
          refine AWp.seq ?_
          refine AWp.seq ?_
          refine AWp.region (OpJs.cons (OpJ.move (ltN hN rfl) (Opd.tmp 14 (.d (.int .i64 x35))))
            (OpJs.cons (OpJ.move (ltN hN rfl) (Opd.tmp 8 (.d (.int .i64 r10.1))))
            (OpJs.cons (OpJ.leq (ltN hN rfl) (Opd.tmp 49 (.d (.int .i64 x35))) (Opd.tmp 50 (.d (.int .i64 r10.1))))
            (OpJs.nil)))) (by rfl) (by rfl) ?_
          refine seqQ_n ?_
          refine AWp.ghost (Mat.pat [] [(0, (.d (.list 1 (a0.map (eI .i64))))), (7, (.d (.int .i64 (w64 ((1 : Int) + r9))))), (8, (.d (.int .i64 r10.1))), (10, (.d (.int .i64 s12.1))), (11, (.d (.int .i64 s12.2.1))), (12, (.d (.bool s12.2.2.1))), (14, (.d (.int .i64 x35))), (43, (.d (.list 1 (a0.map (eI .i64))))), (44, (.d (.int .i64 (a0.length : Int)))), (45, (.d (.int .i64 s12.2.2.2))), (51, (.d (.bool (decide (x35 ≤ r10.1)))))] [] hB (by rfl) (by rfl) (by rfl)) ?_
          refine AWp.cut h (fun m37 : Int => ([(0, (.d (.list 1 (a0.map (eI .i64))))), (7, (.d (.int .i64 (w64 ((1 : Int) + r9))))), (8, (.d (.int .i64 r10.1))), (10, (.d (.int .i64 m37))), (11, (.d (.int .i64 s12.2.1))), (12, (.d (.bool s12.2.2.1))), (14, (.d (.int .i64 x35))), (43, (.d (.list 1 (a0.map (eI .i64))))), (44, (.d (.int .i64 (a0.length : Int)))), (45, (.d (.int .i64 s12.2.2.2)))] : EL)) (fun m37 : Int => ([] : OL)) (fun m37 h E' O' hmat => ?_) (fun j38 hjj38 h => ?_)
          · refine seqQ_n ?_
            refine AWp.ghost hmat ?_
            refine AWp.seq ?_
            refine AWp.seq ?_
            refine AWp.region (OpJs.cons (OpJ.move (ltN hN rfl) (Opd.tmp 14 (.d (.int .i64 x35))))
              (OpJs.cons (OpJ.move (ltN hN rfl) (Opd.tmp 8 (.d (.int .i64 r10.1))))
              (OpJs.cons (OpJ.lss (ltN hN rfl) (Opd.tmp 54 (.d (.int .i64 x35))) (Opd.tmp 55 (.d (.int .i64 r10.1))))
              (OpJs.nil)))) (by rfl) (by rfl) ?_
            refine seqQ_n ?_
            refine AWp.ghost (Mat.pat [] [(0, (.d (.list 1 (a0.map (eI .i64))))), (7, (.d (.int .i64 (w64 ((1 : Int) + r9))))), (8, (.d (.int .i64 r10.1))), (10, (.d (.int .i64 m37))), (11, (.d (.int .i64 s12.2.1))), (12, (.d (.bool s12.2.2.1))), (14, (.d (.int .i64 x35))), (43, (.d (.list 1 (a0.map (eI .i64))))), (44, (.d (.int .i64 (a0.length : Int)))), (45, (.d (.int .i64 s12.2.2.2))), (56, (.d (.bool (decide (x35 < r10.1)))))] [] hB (by rfl) (by rfl) (by rfl)) ?_
            refine AWp.cut h (fun m40 : Int => ([(0, (.d (.list 1 (a0.map (eI .i64))))), (7, (.d (.int .i64 (w64 ((1 : Int) + r9))))), (8, (.d (.int .i64 r10.1))), (10, (.d (.int .i64 m37))), (11, (.d (.int .i64 m40))), (12, (.d (.bool s12.2.2.1))), (14, (.d (.int .i64 x35))), (43, (.d (.list 1 (a0.map (eI .i64))))), (44, (.d (.int .i64 (a0.length : Int)))), (45, (.d (.int .i64 s12.2.2.2)))] : EL)) (fun m40 : Int => ([] : OL)) (fun m40 h E' O' hmat => ?_) (fun j41 hjj41 h => ?_)
            · refine seqQ_n ?_
              refine AWp.ghost hmat ?_
              refine AWp.region (OpJs.cons (OpJ.move (ltN hN rfl) (Opd.tmp 12 (.d (.bool s12.2.2.1))))
                (OpJs.cons (OpJ.move (ltN hN rfl) (Opd.tmp 59 (.d (.bool s12.2.2.1))))
                (OpJs.cons (OpJ.opt' (v := (.d (.int .i64 x35))) (OpJ.move (ltN hN rfl) (Opd.tmp 14 (.d (.int .i64 x35)))) (by rfl) (GuardV.plain _) (ltN hN rfl) (by rfl) (by rfl) (by rfl) (by rfl) (OptL.keep rfl OptL.nil))
                (OpJs.cons (OpJ.opt' (v := (.d (.int .i64 r10.1))) (OpJ.move (ltN hN rfl) (Opd.tmp 8 (.d (.int .i64 r10.1)))) (by rfl) (GuardV.plain _) (ltN hN rfl) (by rfl) (by rfl) (by rfl) (by rfl) (OptL.keep rfl OptL.nil))
                (OpJs.cons (OpJ.opt' (v := (.d (.bool (x35 == r10.1)))) (OpJ.eqlI (ltN hN rfl) (Opd.tmp 61 (.d (.int .i64 x35))) (Opd.tmp 62 (.d (.int .i64 r10.1)))) (by rfl) (GuardV.plain _) (ltN hN rfl) (by rfl) (by rfl) (by rfl) (by rfl) (OptL.opt (OptL.opt OptL.nil)))
                (OpJs.cons (OpJ.pickOr rfl (ltN hN rfl) (Opd.tmp 60 (.d (.bool s12.2.2.1))) (Opd.tmp 63 (.opt (s12.2.2.1 == false) (.d (.bool (x35 == r10.1))))))
                (OpJs.cons (OpJ.assign (ltN hN rfl) (Opd.tmp 64 (.d (.bool (s12.2.2.1 || (x35 == r10.1))))))
                (OpJs.nil)))))))) (by rfl) (by rfl) ?_
              refine blkQ_n ?_
              refine seqQ_n ?_
              refine AWp.ghost (Mat.pat [] [(0, (.d (.list 1 (a0.map (eI .i64))))), (7, (.d (.int .i64 (w64 ((1 : Int) + r9))))), (8, (.d (.int .i64 r10.1))), (10, (.d (.int .i64 m37))), (11, (.d (.int .i64 m40))), (12, (.d (.bool (s12.2.2.1 || (x35 == r10.1))))), (43, (.d (.list 1 (a0.map (eI .i64))))), (44, (.d (.int .i64 (a0.length : Int)))), (45, (.d (.int .i64 s12.2.2.2)))] [] hB (by rfl) (by rfl) (by rfl)) ?_
              refine AWp.region (OpJs.cons (OpJ.add (ltN hN rfl) (Opd.tmp 45 (.d (.int .i64 s12.2.2.2))) (Opd.int .i64 (1)))
                (OpJs.cons (OpJ.move (ltN hN rfl) (Opd.tmp 65 (.d (.int .i64 (w64 (s12.2.2.2 + (1 : Int)))))))
                (OpJs.nil))) (by rfl) (by rfl) ?_
              obtain rfl := Option.some.inj h
              exact ⟨rfl, (Mat.trans (Mat.pat [] [(0, (.d (.list 1 (a0.map (eI .i64))))), (7, (.d (.int .i64 (w64 ((1 : Int) + r9))))), (8, (.d (.int .i64 r10.1))), (10, (.d (.int .i64 m37))), (11, (.d (.int .i64 m40))), (12, (.d (.bool (s12.2.2.1 || (x35 == r10.1))))), (43, (.d (.list 1 (a0.map (eI .i64))))), (44, (.d (.int .i64 (a0.length : Int)))), (45, (.d (.int .i64 (w64 (s12.2.2.2 + (1 : Int))))))] [] hB (by rfl) (by rfl) (by rfl)) (Mat.pat [] ((fun s12 : Int × Int × Bool × Int => ([(0, (.d (.list 1 (a0.map (eI .i64))))), (7, (.d (.int .i64 (w64 ((1 : Int) + r9))))), (8, (.d (.int .i64 r10.1))), (10, (.d (.int .i64 s12.1))), (11, (.d (.int .i64 s12.2.1))), (12, (.d (.bool s12.2.2.1))), (43, (.d (.list 1 (a0.map (eI .i64))))), (44, (.d (.int .i64 (a0.length : Int)))), (45, (.d (.int .i64 s12.2.2.2)))] : EL)) (m37, m40, (s12.2.2.1 || (x35 == r10.1)), (w64 (s12.2.2.2 + (1 : Int))))) ((fun s12 : Int × Int × Bool × Int => ([] : OL)) (m37, m40, (s12.2.2.1 || (x35 == r10.1)), (w64 (s12.2.2.2 + (1 : Int))))) hB (by rfl) (by rfl) (by rfl)))⟩
            · refine AWp.cond (b := (decide (x35 < r10.1))) (by rfl) (fun hg42 => ?_) (fun hg42 => ?_)
              · replace h := ite_t hg42 h
                refine AWp.region (OpJs.cons (OpJ.move (ltN hN rfl) (Opd.tmp 11 (.d (.int .i64 s12.2.1))))
                  (OpJs.cons (OpJ.add (ltN hN rfl) (Opd.tmp 57 (.d (.int .i64 s12.2.1))) (Opd.int .i64 (1)))
                  (OpJs.cons (OpJ.assign (ltN hN rfl) (Opd.tmp 58 (.d (.int .i64 (w64 (s12.2.1 + (1 : Int)))))))
                  (OpJs.nil)))) (by rfl) (by rfl) ?_
                exact hjj41 _ h _ _ (Mat.trans (Mat.pat [] [(0, (.d (.list 1 (a0.map (eI .i64))))), (7, (.d (.int .i64 (w64 ((1 : Int) + r9))))), (8, (.d (.int .i64 r10.1))), (10, (.d (.int .i64 m37))), (11, (.d (.int .i64 (w64 (s12.2.1 + (1 : Int)))))), (12, (.d (.bool s12.2.2.1))), (14, (.d (.int .i64 x35))), (43, (.d (.list 1 (a0.map (eI .i64))))), (44, (.d (.int .i64 (a0.length : Int)))), (45, (.d (.int .i64 s12.2.2.2)))] [] hB (by rfl) (by rfl) (by rfl)) (Mat.pat [] ((fun m40 : Int => ([(0, (.d (.list 1 (a0.map (eI .i64))))), (7, (.d (.int .i64 (w64 ((1 : Int) + r9))))), (8, (.d (.int .i64 r10.1))), (10, (.d (.int .i64 m37))), (11, (.d (.int .i64 m40))), (12, (.d (.bool s12.2.2.1))), (14, (.d (.int .i64 x35))), (43, (.d (.list 1 (a0.map (eI .i64))))), (44, (.d (.int .i64 (a0.length : Int)))), (45, (.d (.int .i64 s12.2.2.2)))] : EL)) (w64 (s12.2.1 + (1 : Int)))) ((fun m40 : Int => ([] : OL)) (w64 (s12.2.1 + (1 : Int)))) hB (by rfl) (by rfl) (by rfl)))
              · replace h := ite_f hg42 h
                refine AWp.skip ?_
                exact hjj41 _ h _ _ (Mat.pat [] ((fun m40 : Int => ([(0, (.d (.list 1 (a0.map (eI .i64))))), (7, (.d (.int .i64 (w64 ((1 : Int) + r9))))), (8, (.d (.int .i64 r10.1))), (10, (.d (.int .i64 m37))), (11, (.d (.int .i64 m40))), (12, (.d (.bool s12.2.2.1))), (14, (.d (.int .i64 x35))), (43, (.d (.list 1 (a0.map (eI .i64))))), (44, (.d (.int .i64 (a0.length : Int)))), (45, (.d (.int .i64 s12.2.2.2)))] : EL)) s12.2.1) ((fun m40 : Int => ([] : OL)) s12.2.1) hB (by rfl) (by rfl) (by rfl))
          · refine AWp.cond (b := (decide (x35 ≤ r10.1))) (by rfl) (fun hg43 => ?_) (fun hg43 => ?_)
            · replace h := ite_t hg43 h
              refine AWp.region (OpJs.cons (OpJ.move (ltN hN rfl) (Opd.tmp 10 (.d (.int .i64 s12.1))))
                (OpJs.cons (OpJ.add (ltN hN rfl) (Opd.tmp 52 (.d (.int .i64 s12.1))) (Opd.int .i64 (1)))
                (OpJs.cons (OpJ.assign (ltN hN rfl) (Opd.tmp 53 (.d (.int .i64 (w64 (s12.1 + (1 : Int)))))))
                (OpJs.nil)))) (by rfl) (by rfl) ?_
              exact hjj38 _ h _ _ (Mat.trans (Mat.pat [] [(0, (.d (.list 1 (a0.map (eI .i64))))), (7, (.d (.int .i64 (w64 ((1 : Int) + r9))))), (8, (.d (.int .i64 r10.1))), (10, (.d (.int .i64 (w64 (s12.1 + (1 : Int)))))), (11, (.d (.int .i64 s12.2.1))), (12, (.d (.bool s12.2.2.1))), (14, (.d (.int .i64 x35))), (43, (.d (.list 1 (a0.map (eI .i64))))), (44, (.d (.int .i64 (a0.length : Int)))), (45, (.d (.int .i64 s12.2.2.2)))] [] hB (by rfl) (by rfl) (by rfl)) (Mat.pat [] ((fun m37 : Int => ([(0, (.d (.list 1 (a0.map (eI .i64))))), (7, (.d (.int .i64 (w64 ((1 : Int) + r9))))), (8, (.d (.int .i64 r10.1))), (10, (.d (.int .i64 m37))), (11, (.d (.int .i64 s12.2.1))), (12, (.d (.bool s12.2.2.1))), (14, (.d (.int .i64 x35))), (43, (.d (.list 1 (a0.map (eI .i64))))), (44, (.d (.int .i64 (a0.length : Int)))), (45, (.d (.int .i64 s12.2.2.2)))] : EL)) (w64 (s12.1 + (1 : Int)))) ((fun m37 : Int => ([] : OL)) (w64 (s12.1 + (1 : Int)))) hB (by rfl) (by rfl) (by rfl)))
            · replace h := ite_f hg43 h
              refine AWp.skip ?_
              exact hjj38 _ h _ _ (Mat.pat [] ((fun m37 : Int => ([(0, (.d (.list 1 (a0.map (eI .i64))))), (7, (.d (.int .i64 (w64 ((1 : Int) + r9))))), (8, (.d (.int .i64 r10.1))), (10, (.d (.int .i64 m37))), (11, (.d (.int .i64 s12.2.1))), (12, (.d (.bool s12.2.2.1))), (14, (.d (.int .i64 x35))), (43, (.d (.list 1 (a0.map (eI .i64))))), (44, (.d (.int .i64 (a0.length : Int)))), (45, (.d (.int .i64 s12.2.2.2)))] : EL)) s12.1) ((fun m37 : Int => ([] : OL)) s12.1) hB (by rfl) (by rfl) (by rfl))
        · replace h := ite_f hg34 h
          refine AWp.exit ?_
          refine seqQ_e ?_
          obtain rfl := Option.some.inj h
          exact ⟨(fun hc => by cases hc), rfl, (Mat.pat [] ((fun p33 : Int × Int × Bool => ([(0, (.d (.list 1 (a0.map (eI .i64))))), (7, (.d (.int .i64 (w64 ((1 : Int) + r9))))), (10, (.d (.int .i64 p33.1))), (11, (.d (.int .i64 p33.2.1))), (12, (.d (.bool p33.2.2)))] : EL)) (s12.1, s12.2.1, s12.2.2.1)) ((fun p33 : Int × Int × Bool => ([] : OL)) (s12.1, s12.2.1, s12.2.2.1)) hB (by rfl) (by rfl) (by rfl))⟩
      · obtain ⟨rfl, hmat⟩ := hR
        refine blkQ_hit ?_
        refine seqQ_n ?_
        refine AWp.ghost hmat ?_
        refine AWp.seq ?_
        refine AWp.cut h (fun m48 : Bool => ([(4, (.d (.bool m48)))] : EL)) (fun m48 : Bool => ([] : OL)) (fun m48 h E' O' hmat => ?_) (fun j49 hjj49 h => ?_)
        · refine seqQ_n ?_
          refine AWp.ghost hmat ?_
          refine AWp.ret ?_
          obtain rfl := Option.some.inj h
          exact ⟨.inl rfl, _, _, (Mat.pat [] [(4, (.d (.bool m48)))] [] hB (by rfl) (by rfl) (by rfl)), [(.d (.bool m48))], (Res.tmp (by rfl) (by rfl) Res.nil), rfl, by rfl, by rfl, by rfl⟩
        · rcases Bool.eq_false_or_eq_true ((p33.2.2 && (decide ((w64 ((w64 ((1 : Int) + r9)) * (a0.length : Int))) ≤ (w64 (p33.1 * (100 : Int)))))) && (decide ((w64 (p33.2.1 * (100 : Int))) < (w64 ((w64 ((1 : Int) + r9)) * (a0.length : Int)))))) with hg50 | hg50
          · replace h := ite_t hg50 h
            obtain ⟨r51, hr51, h⟩ := bindS h
            refine AWp.region (OpJs.cons (OpJ.move (ltN hN rfl) (Opd.tmp 12 (.d (.bool p33.2.2))))
              (OpJs.cons (OpJ.move (ltN hN rfl) (Opd.tmp 66 (.d (.bool p33.2.2))))
              (OpJs.cons (OpJ.opt' (v := (.d (.int .i64 p33.1))) (OpJ.move (ltN hN rfl) (Opd.tmp 10 (.d (.int .i64 p33.1)))) (by rfl) (GuardV.plain _) (ltN hN rfl) (by rfl) (by rfl) (by rfl) (by rfl) (OptL.keep rfl OptL.nil))
              (OpJs.cons (OpJ.opt' (v := (.d (.int .i64 (w64 (p33.1 * (100 : Int)))))) (OpJ.mul (ltN hN rfl) (Opd.tmp 68 (.d (.int .i64 p33.1))) (Opd.int .i64 (100))) (by rfl) (GuardV.plain _) (ltN hN rfl) (by rfl) (by rfl) (by rfl) (by rfl) (OptL.opt OptL.nil))
              (OpJs.cons (OpJ.opt' (v := (.d (.int .i64 (w64 ((1 : Int) + r9))))) (OpJ.move (ltN hN rfl) (Opd.tmp 7 (.d (.int .i64 (w64 ((1 : Int) + r9)))))) (by rfl) (GuardV.plain _) (ltN hN rfl) (by rfl) (by rfl) (by rfl) (by rfl) (OptL.keep rfl OptL.nil))
              (OpJs.cons (OpJ.opt' (v := (.d (.list 1 (a0.map (eI .i64))))) (OpJ.move (ltN hN rfl) (Opd.tmp 0 (.d (.list 1 (a0.map (eI .i64)))))) (by rfl) (GuardV.plain _) (ltN hN rfl) (by rfl) (by rfl) (by rfl) (by rfl) (OptL.keep rfl OptL.nil))
              (OpJs.cons (OpJ.opt' (v := (.d (.int .i64 (a0.length : Int)))) (OpJ.val (v' := (.d (.int .i64 (a0.length : Int)))) (by simp) (OpJ.lenD Try.underlying22 (ltN hN rfl) (Opd.tmp 71 (.d (.list 1 (a0.map (eI .i64))))))) (by rfl) (GuardV.plain _) (ltN hN rfl) (by rfl) (by rfl) (by rfl) (by rfl) (OptL.opt OptL.nil))
              (OpJs.cons (OpJ.opt' (v := (.d (.int .i64 (w64 ((w64 ((1 : Int) + r9)) * (a0.length : Int)))))) (OpJ.mul (ltN hN rfl) (Opd.tmp 70 (.d (.int .i64 (w64 ((1 : Int) + r9))))) (Opd.tmp 72 (.d (.int .i64 (a0.length : Int))))) (by rfl) (GuardV.plain _) (ltN hN rfl) (by rfl) (by rfl) (by rfl) (by rfl) (OptL.opt (OptL.opt OptL.nil)))
              (OpJs.cons (OpJ.opt' (v := (.d (.bool (decide ((w64 ((w64 ((1 : Int) + r9)) * (a0.length : Int))) ≤ (w64 (p33.1 * (100 : Int)))))))) (OpJ.geq (ltN hN rfl) (Opd.tmp 69 (.d (.int .i64 (w64 (p33.1 * (100 : Int)))))) (Opd.tmp 73 (.d (.int .i64 (w64 ((w64 ((1 : Int) + r9)) * (a0.length : Int))))))) (by rfl) (GuardV.plain _) (ltN hN rfl) (by rfl) (by rfl) (by rfl) (by rfl) (OptL.opt (OptL.opt OptL.nil)))
              (OpJs.cons (OpJ.pickAnd rfl (ltN hN rfl) (Opd.tmp 67 (.d (.bool p33.2.2))) (Opd.tmp 74 (.opt (p33.2.2 == true) (.d (.bool (decide ((w64 ((w64 ((1 : Int) + r9)) * (a0.length : Int))) ≤ (w64 (p33.1 * (100 : Int))))))))))
              (OpJs.cons (OpJ.move (ltN hN rfl) (Opd.tmp 75 (.d (.bool (p33.2.2 && (decide ((w64 ((w64 ((1 : Int) + r9)) * (a0.length : Int))) ≤ (w64 (p33.1 * (100 : Int))))))))))
              (OpJs.cons (OpJ.opt' (v := (.d (.int .i64 p33.2.1))) (OpJ.move (ltN hN rfl) (Opd.tmp 11 (.d (.int .i64 p33.2.1)))) (by rfl) (GuardV.plain _) (ltN hN rfl) (by rfl) (by rfl) (by rfl) (by rfl) (OptL.keep rfl OptL.nil))
              (OpJs.cons (OpJ.opt' (v := (.d (.int .i64 (w64 (p33.2.1 * (100 : Int)))))) (OpJ.mul (ltN hN rfl) (Opd.tmp 77 (.d (.int .i64 p33.2.1))) (Opd.int .i64 (100))) (by rfl) (GuardV.plain _) (ltN hN rfl) (by rfl) (by rfl) (by rfl) (by rfl) (OptL.opt OptL.nil))
              (OpJs.cons (OpJ.opt' (v := (.d (.int .i64 (w64 ((1 : Int) + r9))))) (OpJ.move (ltN hN rfl) (Opd.tmp 7 (.d (.int .i64 (w64 ((1 : Int) + r9)))))) (by rfl) (GuardV.plain _) (ltN hN rfl) (by rfl) (by rfl) (by rfl) (by rfl) (OptL.keep rfl OptL.nil))
              (OpJs.cons (OpJ.opt' (v := (.d (.list 1 (a0.map (eI .i64))))) (OpJ.move (ltN hN rfl) (Opd.tmp 0 (.d (.list 1 (a0.map (eI .i64)))))) (by rfl) (GuardV.plain _) (ltN hN rfl) (by rfl) (by rfl) (by rfl) (by rfl) (OptL.keep rfl OptL.nil))
              (OpJs.cons (OpJ.opt' (v := (.d (.int .i64 (a0.length : Int)))) (OpJ.val (v' := (.d (.int .i64 (a0.length : Int)))) (by simp) (OpJ.lenD Try.underlying22 (ltN hN rfl) (Opd.tmp 80 (.d (.list 1 (a0.map (eI .i64))))))) (by rfl) (GuardV.plain _) (ltN hN rfl) (by rfl) (by rfl) (by rfl) (by rfl) (OptL.opt OptL.nil))
              (OpJs.cons (OpJ.opt' (v := (.d (.int .i64 (w64 ((w64 ((1 : Int) + r9)) * (a0.length : Int)))))) (OpJ.mul (ltN hN rfl) (Opd.tmp 79 (.d (.int .i64 (w64 ((1 : Int) + r9))))) (Opd.tmp 81 (.d (.int .i64 (a0.length : Int))))) (by rfl) (GuardV.plain _) (ltN hN rfl) (by rfl) (by rfl) (by rfl) (by rfl) (OptL.opt (OptL.opt OptL.nil)))
              (OpJs.cons (OpJ.opt' (v := (.d (.bool (decide ((w64 (p33.2.1 * (100 : Int))) < (w64 ((w64 ((1 : Int) + r9)) * (a0.length : Int)))))))) (OpJ.lss (ltN hN rfl) (Opd.tmp 78 (.d (.int .i64 (w64 (p33.2.1 * (100 : Int)))))) (Opd.tmp 82 (.d (.int .i64 (w64 ((w64 ((1 : Int) + r9)) * (a0.length : Int))))))) (by rfl) (GuardV.plain _) (ltN hN rfl) (by rfl) (by rfl) (by rfl) (by rfl) (OptL.opt (OptL.opt OptL.nil)))
              (OpJs.cons (OpJ.pickAnd rfl (ltN hN rfl) (Opd.tmp 76 (.d (.bool (p33.2.2 && (decide ((w64 ((w64 ((1 : Int) + r9)) * (a0.length : Int))) ≤ (w64 (p33.1 * (100 : Int))))))))) (Opd.tmp 83 (.opt ((p33.2.2 && (decide ((w64 ((w64 ((1 : Int) + r9)) * (a0.length : Int))) ≤ (w64 (p33.1 * (100 : Int)))))) == true) (.d (.bool (decide ((w64 (p33.2.1 * (100 : Int))) < (w64 ((w64 ((1 : Int) + r9)) * (a0.length : Int))))))))))
              (OpJs.cons (OpJ.val (v' := .d (.bool true)) (by rw [hg50]) (OpJ.move (ltN hN rfl) (Opd.tmp 84 (.d (.bool ((p33.2.2 && (decide ((w64 ((w64 ((1 : Int) + r9)) * (a0.length : Int))) ≤ (w64 (p33.1 * (100 : Int)))))) && (decide ((w64 (p33.2.1 * (100 : Int))) < (w64 ((w64 ((1 : Int) + r9)) * (a0.length : Int)))))))))))
              (OpJs.cons (OpJ.guarded (by rfl) (OpJ.callFn hB fnOk9 (exchangepointlaw40_awake_ac  r51 hr51) [] (by kernel_rfl) (ltN hN rfl) (by kernel_rfl) OpdL.nil))
              (OpJs.cons (OpJ.pickT (ltN hN rfl) (Opd.tmp 85 (.d (.bool true))) (Opd.tmp 86 (.d (.bool r51))))
              (OpJs.cons (OpJ.assign (ltN hN rfl) (Opd.tmp 87 (.d (.bool r51))))
              (OpJs.nil)))))))))))))))))))))))) (by rfl) (by rfl) ?_
            exact hjj49 _ h _ _ (Mat.trans (Mat.pat [] [(4, (.d (.bool r51)))] [] hB (by rfl) (by rfl) (by rfl)) (Mat.pat [] ((fun m48 : Bool => ([(4, (.d (.bool m48)))] : EL)) r51) ((fun m48 : Bool => ([] : OL)) r51) hB (by rfl) (by rfl) (by rfl)))
          · replace h := ite_f hg50 h
            refine AWp.region (OpJs.cons (OpJ.move (ltN hN rfl) (Opd.tmp 12 (.d (.bool p33.2.2))))
              (OpJs.cons (OpJ.move (ltN hN rfl) (Opd.tmp 66 (.d (.bool p33.2.2))))
              (OpJs.cons (OpJ.opt' (v := (.d (.int .i64 p33.1))) (OpJ.move (ltN hN rfl) (Opd.tmp 10 (.d (.int .i64 p33.1)))) (by rfl) (GuardV.plain _) (ltN hN rfl) (by rfl) (by rfl) (by rfl) (by rfl) (OptL.keep rfl OptL.nil))
              (OpJs.cons (OpJ.opt' (v := (.d (.int .i64 (w64 (p33.1 * (100 : Int)))))) (OpJ.mul (ltN hN rfl) (Opd.tmp 68 (.d (.int .i64 p33.1))) (Opd.int .i64 (100))) (by rfl) (GuardV.plain _) (ltN hN rfl) (by rfl) (by rfl) (by rfl) (by rfl) (OptL.opt OptL.nil))
              (OpJs.cons (OpJ.opt' (v := (.d (.int .i64 (w64 ((1 : Int) + r9))))) (OpJ.move (ltN hN rfl) (Opd.tmp 7 (.d (.int .i64 (w64 ((1 : Int) + r9)))))) (by rfl) (GuardV.plain _) (ltN hN rfl) (by rfl) (by rfl) (by rfl) (by rfl) (OptL.keep rfl OptL.nil))
              (OpJs.cons (OpJ.opt' (v := (.d (.list 1 (a0.map (eI .i64))))) (OpJ.move (ltN hN rfl) (Opd.tmp 0 (.d (.list 1 (a0.map (eI .i64)))))) (by rfl) (GuardV.plain _) (ltN hN rfl) (by rfl) (by rfl) (by rfl) (by rfl) (OptL.keep rfl OptL.nil))
              (OpJs.cons (OpJ.opt' (v := (.d (.int .i64 (a0.length : Int)))) (OpJ.val (v' := (.d (.int .i64 (a0.length : Int)))) (by simp) (OpJ.lenD Try.underlying22 (ltN hN rfl) (Opd.tmp 71 (.d (.list 1 (a0.map (eI .i64))))))) (by rfl) (GuardV.plain _) (ltN hN rfl) (by rfl) (by rfl) (by rfl) (by rfl) (OptL.opt OptL.nil))
              (OpJs.cons (OpJ.opt' (v := (.d (.int .i64 (w64 ((w64 ((1 : Int) + r9)) * (a0.length : Int)))))) (OpJ.mul (ltN hN rfl) (Opd.tmp 70 (.d (.int .i64 (w64 ((1 : Int) + r9))))) (Opd.tmp 72 (.d (.int .i64 (a0.length : Int))))) (by rfl) (GuardV.plain _) (ltN hN rfl) (by rfl) (by rfl) (by rfl) (by rfl) (OptL.opt (OptL.opt OptL.nil)))
              (OpJs.cons (OpJ.opt' (v := (.d (.bool (decide ((w64 ((w64 ((1 : Int) + r9)) * (a0.length : Int))) ≤ (w64 (p33.1 * (100 : Int)))))))) (OpJ.geq (ltN hN rfl) (Opd.tmp 69 (.d (.int .i64 (w64 (p33.1 * (100 : Int)))))) (Opd.tmp 73 (.d (.int .i64 (w64 ((w64 ((1 : Int) + r9)) * (a0.length : Int))))))) (by rfl) (GuardV.plain _) (ltN hN rfl) (by rfl) (by rfl) (by rfl) (by rfl) (OptL.opt (OptL.opt OptL.nil)))
              (OpJs.cons (OpJ.pickAnd rfl (ltN hN rfl) (Opd.tmp 67 (.d (.bool p33.2.2))) (Opd.tmp 74 (.opt (p33.2.2 == true) (.d (.bool (decide ((w64 ((w64 ((1 : Int) + r9)) * (a0.length : Int))) ≤ (w64 (p33.1 * (100 : Int))))))))))
              (OpJs.cons (OpJ.move (ltN hN rfl) (Opd.tmp 75 (.d (.bool (p33.2.2 && (decide ((w64 ((w64 ((1 : Int) + r9)) * (a0.length : Int))) ≤ (w64 (p33.1 * (100 : Int))))))))))
              (OpJs.cons (OpJ.opt' (v := (.d (.int .i64 p33.2.1))) (OpJ.move (ltN hN rfl) (Opd.tmp 11 (.d (.int .i64 p33.2.1)))) (by rfl) (GuardV.plain _) (ltN hN rfl) (by rfl) (by rfl) (by rfl) (by rfl) (OptL.keep rfl OptL.nil))
              (OpJs.cons (OpJ.opt' (v := (.d (.int .i64 (w64 (p33.2.1 * (100 : Int)))))) (OpJ.mul (ltN hN rfl) (Opd.tmp 77 (.d (.int .i64 p33.2.1))) (Opd.int .i64 (100))) (by rfl) (GuardV.plain _) (ltN hN rfl) (by rfl) (by rfl) (by rfl) (by rfl) (OptL.opt OptL.nil))
              (OpJs.cons (OpJ.opt' (v := (.d (.int .i64 (w64 ((1 : Int) + r9))))) (OpJ.move (ltN hN rfl) (Opd.tmp 7 (.d (.int .i64 (w64 ((1 : Int) + r9)))))) (by rfl) (GuardV.plain _) (ltN hN rfl) (by rfl) (by rfl) (by rfl) (by rfl) (OptL.keep rfl OptL.nil))
              (OpJs.cons (OpJ.opt' (v := (.d (.list 1 (a0.map (eI .i64))))) (OpJ.move (ltN hN rfl) (Opd.tmp 0 (.d (.list 1 (a0.map (eI .i64)))))) (by rfl) (GuardV.plain _) (ltN hN rfl) (by rfl) (by rfl) (by rfl) (by rfl) (OptL.keep rfl OptL.nil))
              (OpJs.cons (OpJ.opt' (v := (.d (.int .i64 (a0.length : Int)))) (OpJ.val (v' := (.d (.int .i64 (a0.length : Int)))) (by simp) (OpJ.lenD Try.underlying22 (ltN hN rfl) (Opd.tmp 80 (.d (.list 1 (a0.map (eI .i64))))))) (by rfl) (GuardV.plain _) (ltN hN rfl) (by rfl) (by rfl) (by rfl) (by rfl) (OptL.opt OptL.nil))
              (OpJs.cons (OpJ.opt' (v := (.d (.int .i64 (w64 ((w64 ((1 : Int) + r9)) * (a0.length : Int)))))) (OpJ.mul (ltN hN rfl) (Opd.tmp 79 (.d (.int .i64 (w64 ((1 : Int) + r9))))) (Opd.tmp 81 (.d (.int .i64 (a0.length : Int))))) (by rfl) (GuardV.plain _) (ltN hN rfl) (by rfl) (by rfl) (by rfl) (by rfl) (OptL.opt (OptL.opt OptL.nil)))
              (OpJs.cons (OpJ.opt' (v := (.d (.bool (decide ((w64 (p33.2.1 * (100 : Int))) < (w64 ((w64 ((1 : Int) + r9)) * (a0.length : Int)))))))) (OpJ.lss (ltN hN rfl) (Opd.tmp 78 (.d (.int .i64 (w64 (p33.2.1 * (100 : Int)))))) (Opd.tmp 82 (.d (.int .i64 (w64 ((w64 ((1 : Int) + r9)) * (a0.length : Int))))))) (by rfl) (GuardV.plain _) (ltN hN rfl) (by rfl) (by rfl) (by rfl) (by rfl) (OptL.opt (OptL.opt OptL.nil)))
              (OpJs.cons (OpJ.pickAnd rfl (ltN hN rfl) (Opd.tmp 76 (.d (.bool (p33.2.2 && (decide ((w64 ((w64 ((1 : Int) + r9)) * (a0.length : Int))) ≤ (w64 (p33.1 * (100 : Int))))))))) (Opd.tmp 83 (.opt ((p33.2.2 && (decide ((w64 ((w64 ((1 : Int) + r9)) * (a0.length : Int))) ≤ (w64 (p33.1 * (100 : Int)))))) == true) (.d (.bool (decide ((w64 (p33.2.1 * (100 : Int))) < (w64 ((w64 ((1 : Int) + r9)) * (a0.length : Int))))))))))
              (OpJs.cons (OpJ.val (v' := .d (.bool false)) (by rw [hg50]) (OpJ.move (ltN hN rfl) (Opd.tmp 84 (.d (.bool ((p33.2.2 && (decide ((w64 ((w64 ((1 : Int) + r9)) * (a0.length : Int))) ≤ (w64 (p33.1 * (100 : Int)))))) && (decide ((w64 (p33.2.1 * (100 : Int))) < (w64 ((w64 ((1 : Int) + r9)) * (a0.length : Int)))))))))))
              (OpJs.cons (OpJ.skipU (ltN hN rfl) (by rfl))
              (OpJs.cons (OpJ.pickF (ltN hN rfl) (Opd.tmp 85 (.d (.bool false))) (Opd.bool false))
              (OpJs.cons (OpJ.assign (ltN hN rfl) (Opd.tmp 87 (.d (.bool false))))
              (OpJs.nil)))))))))))))))))))))))) (by rfl) (by rfl) ?_
            exact hjj49 _ h _ _ (Mat.trans (Mat.pat [] [(4, (.d (.bool false)))] [] hB (by rfl) (by rfl) (by rfl)) (Mat.pat [] ((fun m48 : Bool => ([(4, (.d (.bool m48)))] : EL)) false) ((fun m48 : Bool => ([] : OL)) false) hB (by rfl) (by rfl) (by rfl)))

noncomputable def exchangepointmill_New (a0 : (List Int)) : Option (exchangepointmill_Deck) :=
  some (exchangepointmill_Deck.mk a0 (0 : Int))
set_option maxHeartbeats 4000000 in
set_option maxRecDepth 100000 in
theorem exchangepointmill_New_ac (a0 : (List Int)) (r : exchangepointmill_Deck) (h : exchangepointmill_New a0 = some r) : AC Try.prog 11 [(.d (.list 1 (a0.map (eI .i64))))] [] (.ptr 1005 0 []) [(1005, some (.box 54 (.d (e_exchangepointmill_Deck r))))] := by
  refine AC.of_code2 Try.func11 rfl rfl (Nat.le_of_ble_eq_true (by rfl)) fun B hB hN => ?_
  delta exchangepointmill_New at h
  refine AWp.seq ?_
  refine AWp.region (OpJs.cons (OpJ.assign (v := .junk) (ltN hN rfl) (Opd.junk _))
  (OpJs.nil)) (by rfl) (by rfl) ?_
  refine seqQ_n ?_
  refine AWp.ghost (Mat.pat [] [(0, (.d (.list 1 (a0.map (eI .i64)))))] [] hB (by rfl) (by rfl) (by rfl)) ?_
  refine AWp.seq ?_
  refine AWp.region (OpJs.cons (OpJ.move (ltN hN rfl) (Opd.tmp 0 (.d (.list 1 (a0.map (eI .i64))))))
  (OpJs.cons (OpJ.coe (v := (.st [(.d (.list 1 (a0.map (eI .i64)))), (.d (.int .i64 (0 : Int)))])) (y := (.st [(.list 1 (a0.map (eI .i64))), (.int .i64 (0 : Int))])) (Co.st (CoL.cons (Co.d _) (CoL.cons (Co.d _) CoL.nil))) rfl (OpJ.build (places := [(0, 1), (1, 1)]) ⟨Try.underlying54, fun w => by kernel_rfl⟩ tyZS54 (Opds.cons (Opd.tmp 3 (.d (.list 1 (a0.map (eI .i64))))) Opds.nil) (by kernel_rfl) (r := (.st [(.d (.list 1 (a0.map (eI .i64)))), (.d (.int .i64 (0 : Int)))])) (by rfl) (ltN hN rfl)))
  (OpJs.cons (OpJ.box hB (nm := 1005) (by decide) (by simp) rfl (ltN hN rfl) (Opd.tmp 4 (.d (.st [(.list 1 (a0.map (eI .i64))), (.int .i64 (0 : Int))]))))
  (OpJs.cons (OpJ.assign (ltN hN rfl) (Opd.tmp 5 (.ptr 1005 0 [])))
  (OpJs.nil))))) (by rfl) (by rfl) ?_
  refine seqQ_n ?_
  refine AWp.ghost (Mat.pat [] [(2, (.ptr 1005 0 []))] [(1005, some (.box 54 (.d (.st [(.list 1 (a0.map (eI .i64))), (.int .i64 (0 : Int))]))))] hB (by rfl) (by rfl) (by rfl)) ?_
  refine AWp.ret ?_
  obtain rfl := Option.some.inj h
  exact ⟨.inl rfl, _, _, (Mat.pat [] [(2, (.ptr 1005 0 []))] [(1005, some (.box 54 (.d (.st [(.list 1 (a0.map (eI .i64))), (.int .i64 (0 : Int))]))))] hB (by rfl) (by rfl) (by rfl)), [(.ptr 1005 0 [])], (Res.tmp (by rfl) (by rfl) Res.nil), rfl, by rfl, by rfl, by rfl⟩

noncomputable def exchangepointmill_Deck_Next (a0 : exchangepointmill_Deck) (a1 : Int) : Option (Int × exchangepointmill_Deck) :=
  (if (decide ((a0.fL.length : Int) ≤ a0.fAt)) = true then
  some ((0 : Int), a0)
  else
  (idx a0.fL (w64 ((w64 (a0.fAt + (1 : Int))) - (1 : Int)))).bind fun x2 =>
  (exchangepointmill_Mod x2 a1).bind fun r3 =>
  some (r3, (exchangepointmill_Deck.mk a0.fL (w64 (a0.fAt + (1 : Int))))))
set_option maxHeartbeats 4000000 in
set_option maxRecDepth 100000 in
theorem exchangepointmill_Deck_Next_ac (a0 : exchangepointmill_Deck) (a1 : Int) (r : Int × exchangepointmill_Deck) (h : exchangepointmill_Deck_Next a0 a1 = some r) : AC Try.prog 32 [(.ptr 0 0 []), (.d (.int .i64 a1))] [(0, (.box 54 (.d (e_exchangepointmill_Deck a0))))] (.d (.int .i64 r.1)) [(0, some (.box 54 (.d (e_exchangepointmill_Deck r.2))))] := by
  refine AC.of_code2 Try.func32 rfl rfl (Nat.le_of_ble_eq_true (by rfl)) fun B hB hN => ?_
  delta exchangepointmill_Deck_Next at h
  refine AWp.seq ?_
  refine AWp.region (OpJs.cons (OpJ.assign (ltN hN rfl) (Opd.int .i64 (0)))
  (OpJs.nil)) (by rfl) (by rfl) ?_
  refine seqQ_n ?_
  refine AWp.ghost (Mat.pat [] [(0, (.ptr 0 0 [])), (1, (.d (.int .i64 a1)))] [(0, some (.box 54 (.d (e_exchangepointmill_Deck a0))))] hB (by rfl) (by rfl) (by rfl)) ?_
  refine AWp.seq ?_
  refine AWp.seq ?_
  refine AWp.draws (by kernel_rfl) (OpJs.cons (OpJ.move (ltN hN rfl) (Opd.tmp 0 (.ptr 0 0 [])))
  (OpJs.cons (OpJ.nilP (obj := (.box 54 (.d (e_exchangepointmill_Deck a0)))) (ltN hN rfl) (Opd.tmp 5 (.ptr 0 0 [])))
  (OpJs.cons (OpJ.val (v' := (.ptr 0 1 [1])) (by rfl) (OpJ.fieldP Try.underlying54 (by rfl) (o := 1) (by rfl) tyS3 (by decide) (obj := (.box 54 (.d (e_exchangepointmill_Deck a0)))) (ltN hN rfl) (Opd.tmp 6 (.ptr 0 0 []))))
  (OpJs.cons (OpJ.loadB (bt := 54) (c := (.d (e_exchangepointmill_Deck a0))) (v := (.d (.int .i64 a0.fAt))) tyS3 (At.dst1 (f := (.int .i64 a0.fAt)) (by rfl) (by rfl) (At.here _) (by first | rfl | omega)) (by rfl) (by rfl) rfl (ltN hN rfl) (Opd.tmp 7 (.ptr 0 1 [1])))
  (OpJs.cons (OpJ.move (ltN hN rfl) (Opd.tmp 0 (.ptr 0 0 [])))
  (OpJs.cons (OpJ.nilP (obj := (.box 54 (.d (e_exchangepointmill_Deck a0)))) (ltN hN rfl) (Opd.tmp 9 (.ptr 0 0 [])))
  (OpJs.cons (OpJ.val (v' := (.ptr 0 0 [0])) (by rfl) (OpJ.fieldP Try.underlying54 (by rfl) (o := 0) (by rfl) tyS22 (by decide) (obj := (.box 54 (.d (e_exchangepointmill_Deck a0)))) (ltN hN rfl) (Opd.tmp 10 (.ptr 0 0 []))))
  (OpJs.cons (OpJ.loadB (bt := 54) (c := (.d (e_exchangepointmill_Deck a0))) (v := (.d (.list 1 (a0.fL.map (eI .i64))))) tyS22 (At.dst1 (f := (.list 1 (a0.fL.map (eI .i64)))) (by rfl) (by rfl) (At.here _) (by first | rfl | omega)) (by rfl) (by rfl) rfl (ltN hN rfl) (Opd.tmp 11 (.ptr 0 0 [0])))
  (OpJs.cons (OpJ.val (v' := (.d (.int .i64 (a0.fL.length : Int)))) (by simp) (OpJ.lenD Try.underlying22 (ltN hN rfl) (Opd.tmp 12 (.d (.list 1 (a0.fL.map (eI .i64)))))))
  (OpJs.cons (OpJ.geq (ltN hN rfl) (Opd.tmp 8 (.d (.int .i64 a0.fAt))) (Opd.tmp 13 (.d (.int .i64 (a0.fL.length : Int)))))
  (OpJs.nil))))))))))) (by kernel_rfl) (by rfl) (by rfl) ?_
  refine seqQ_n ?_
  refine AWp.ghost (Mat.pat [] [(0, (.ptr 0 0 [])), (1, (.d (.int .i64 a1))), (14, (.d (.bool (decide ((a0.fL.length : Int) ≤ a0.fAt)))))] [(0, some (.box 54 (.d (e_exchangepointmill_Deck a0))))] hB (by rfl) (by rfl) (by rfl)) ?_
  refine AWp.cond (b := (decide ((a0.fL.length : Int) ≤ a0.fAt))) (by rfl) (fun hg1 => ?_) (fun hg1 => ?_)
  · replace h := ite_t hg1 h
    refine AWp.seq ?_
    refine AWp.region (OpJs.cons (OpJ.assign (ltN hN rfl) (Opd.int .i64 (0)))
      (OpJs.nil)) (by rfl) (by rfl) ?_
    refine seqQ_n ?_
    refine AWp.ghost (Mat.pat [] [(4, (.d (.int .i64 (0 : Int))))] [(0, some (.box 54 (.d (e_exchangepointmill_Deck a0))))] hB (by rfl) (by rfl) (by rfl)) ?_
    refine AWp.ret ?_
    refine seqQ_r ?_
    obtain rfl := Option.some.inj h
    exact ⟨.inl rfl, _, _, (Mat.pat [] [(4, (.d (.int .i64 (0 : Int))))] [(0, some (.box 54 (.d (e_exchangepointmill_Deck a0))))] hB (by rfl) (by rfl) (by rfl)), [(.d (.int .i64 (0 : Int)))], (Res.tmp (by rfl) (by rfl) Res.nil), rfl, by rfl, by rfl, by rfl⟩
  · replace h := ite_f hg1 h
    refine AWp.skip ?_
    refine seqQ_n ?_
    refine AWp.seq ?_
    refine AWp.region (OpJs.cons (OpJ.move (ltN hN rfl) (Opd.tmp 0 (.ptr 0 0 [])))
      (OpJs.cons (OpJ.nilP (obj := (.box 54 (.d (e_exchangepointmill_Deck a0)))) (ltN hN rfl) (Opd.tmp 15 (.ptr 0 0 [])))
      (OpJs.cons (OpJ.val (v' := (.ptr 0 1 [1])) (by rfl) (OpJ.fieldP Try.underlying54 (by rfl) (o := 1) (by rfl) tyS3 (by decide) (obj := (.box 54 (.d (e_exchangepointmill_Deck a0)))) (ltN hN rfl) (Opd.tmp 16 (.ptr 0 0 []))))
      (OpJs.cons (OpJ.loadB (bt := 54) (c := (.d (e_exchangepointmill_Deck a0))) (v := (.d (.int .i64 a0.fAt))) tyS3 (At.dst1 (f := (.int .i64 a0.fAt)) (by rfl) (by rfl) (At.here _) (by first | rfl | omega)) (by rfl) (by rfl) rfl (ltN hN rfl) (Opd.tmp 17 (.ptr 0 1 [1])))
      (OpJs.cons (OpJ.add (ltN hN rfl) (Opd.tmp 18 (.d (.int .i64 a0.fAt))) (Opd.int .i64 (1)))
      (OpJs.cons (OpJ.nilP (obj := (.box 54 (.d (e_exchangepointmill_Deck a0)))) (ltN hN rfl) (Opd.tmp 15 (.ptr 0 0 [])))
      (OpJs.cons (OpJ.val (v' := (.ptr 0 1 [1])) (by rfl) (OpJ.fieldP Try.underlying54 (by rfl) (o := 1) (by rfl) tyS3 (by decide) (obj := (.box 54 (.d (e_exchangepointmill_Deck a0)))) (ltN hN rfl) (Opd.tmp 20 (.ptr 0 0 []))))
      (OpJs.cons (OpJ.storeB (bt := 54) (c := (.d (e_exchangepointmill_Deck a0))) (v := (.d (.int .i64 (w64 (a0.fAt + (1 : Int)))))) (c' := (.d (.st [(.list 1 (a0.fL.map (eI .i64))), (.int .i64 (w64 (a0.fAt + (1 : Int))))]))) tyS3 (SetAt.dst1 (f := (.int .i64 a0.fAt)) (f' := (.int .i64 (w64 (a0.fAt + (1 : Int))))) (by rfl) (by rfl) (SetAt.here _ _) (by rfl) (by rfl) (by first | rfl | omega)) (by rfl) (by rfl) (by simp) rfl (Opd.tmp 21 (.ptr 0 1 [1])) (Opd.tmp 19 (.d (.int .i64 (w64 (a0.fAt + (1 : Int)))))))
      (OpJs.nil))))))))) (by rfl) (by rfl) ?_
    refine seqQ_n ?_
    refine AWp.ghost (Mat.pat [] [(0, (.ptr 0 0 [])), (1, (.d (.int .i64 a1)))] [(0, some (.box 54 (.d (.st [(.list 1 (a0.fL.map (eI .i64))), (.int .i64 (w64 (a0.fAt + (1 : Int))))]))))] hB (by rfl) (by rfl) (by rfl)) ?_
    refine AWp.seq ?_
    obtain ⟨x2, hx2, h⟩ := bindS h
    obtain ⟨r3, hr3, h⟩ := bindS h
    refine AWp.draws (by kernel_rfl) (OpJs.cons (OpJ.move (ltN hN rfl) (Opd.tmp 0 (.ptr 0 0 [])))
      (OpJs.cons (OpJ.nilP (obj := (.box 54 (.d (.st [(.list 1 (a0.fL.map (eI .i64))), (.int .i64 (w64 (a0.fAt + (1 : Int))))])))) (ltN hN rfl) (Opd.tmp 22 (.ptr 0 0 [])))
      (OpJs.cons (OpJ.val (v' := (.ptr 0 0 [0])) (by rfl) (OpJ.fieldP Try.underlying54 (by rfl) (o := 0) (by rfl) tyS22 (by decide) (obj := (.box 54 (.d (.st [(.list 1 (a0.fL.map (eI .i64))), (.int .i64 (w64 (a0.fAt + (1 : Int))))])))) (ltN hN rfl) (Opd.tmp 23 (.ptr 0 0 []))))
      (OpJs.cons (OpJ.loadB (bt := 54) (c := (.d (.st [(.list 1 (a0.fL.map (eI .i64))), (.int .i64 (w64 (a0.fAt + (1 : Int))))]))) (v := (.d (.list 1 (a0.fL.map (eI .i64))))) tyS22 (At.dst1 (f := (.list 1 (a0.fL.map (eI .i64)))) (by rfl) (by rfl) (At.here _) (by first | rfl | omega)) (by rfl) (by rfl) rfl (ltN hN rfl) (Opd.tmp 24 (.ptr 0 0 [0])))
      (OpJs.cons (OpJ.move (ltN hN rfl) (Opd.tmp 0 (.ptr 0 0 [])))
      (OpJs.cons (OpJ.nilP (obj := (.box 54 (.d (.st [(.list 1 (a0.fL.map (eI .i64))), (.int .i64 (w64 (a0.fAt + (1 : Int))))])))) (ltN hN rfl) (Opd.tmp 26 (.ptr 0 0 [])))
      (OpJs.cons (OpJ.val (v' := (.ptr 0 1 [1])) (by rfl) (OpJ.fieldP Try.underlying54 (by rfl) (o := 1) (by rfl) tyS3 (by decide) (obj := (.box 54 (.d (.st [(.list 1 (a0.fL.map (eI .i64))), (.int .i64 (w64 (a0.fAt + (1 : Int))))])))) (ltN hN rfl) (Opd.tmp 27 (.ptr 0 0 []))))
      (OpJs.cons (OpJ.loadB (bt := 54) (c := (.d (.st [(.list 1 (a0.fL.map (eI .i64))), (.int .i64 (w64 (a0.fAt + (1 : Int))))]))) (v := (.d (.int .i64 (w64 (a0.fAt + (1 : Int)))))) tyS3 (At.dst1 (f := (.int .i64 (w64 (a0.fAt + (1 : Int))))) (by rfl) (by rfl) (At.here _) (by first | rfl | omega)) (by rfl) (by rfl) rfl (ltN hN rfl) (Opd.tmp 28 (.ptr 0 1 [1])))
      (OpJs.cons (OpJ.sub (ltN hN rfl) (Opd.tmp 29 (.d (.int .i64 (w64 (a0.fAt + (1 : Int)))))) (Opd.int .i64 (1)))
      (OpJs.cons (OpJ.indexD (el := (.int .i64 x2)) Try.underlying22 tyS3 (idx_some hx2).1 (get_map (eI .i64) (idx_some hx2).2) (ltN hN rfl) (Opd.tmp 25 (.d (.list 1 (a0.fL.map (eI .i64))))) (Opd.tmp 30 (.d (.int .i64 (w64 ((w64 (a0.fAt + (1 : Int))) - (1 : Int)))))))
      (OpJs.cons (OpJ.loadD tyS3 (by rfl) (by rfl) (ltN hN rfl) (Opd.tmp 31 (.dptr (.int .i64 x2))))
      (OpJs.cons (OpJ.move (ltN hN rfl) (Opd.tmp 1 (.d (.int .i64 a1))))
      (OpJs.cons (OpJ.callFn hB fnOk10 (exchangepointmill_Mod_ac x2 a1 r3 hr3) [] (by kernel_rfl) (ltN hN rfl) (by kernel_rfl) (OpdL.cons (Opd.tmp 32 (.d (.int .i64 x2))) (OpdL.cons (Opd.tmp 33 (.d (.int .i64 a1))) OpdL.nil)))
      (OpJs.cons (OpJ.assign (ltN hN rfl) (Opd.tmp 34 (.d (.int .i64 r3))))
      (OpJs.nil))))))))))))))) (by kernel_rfl) (by rfl) (by rfl) ?_
    refine seqQ_n ?_
    refine AWp.ghost (Mat.pat [] [(4, (.d (.int .i64 r3)))] [(0, some (.box 54 (.d (.st [(.list 1 (a0.fL.map (eI .i64))), (.int .i64 (w64 (a0.fAt + (1 : Int))))]))))] hB (by rfl) (by rfl) (by rfl)) ?_
    refine AWp.ret ?_
    obtain rfl := Option.some.inj h
    exact ⟨.inl rfl, _, _, (Mat.pat [] [(4, (.d (.int .i64 r3)))] [(0, some (.box 54 (.d (.st [(.list 1 (a0.fL.map (eI .i64))), (.int .i64 (w64 (a0.fAt + (1 : Int))))]))))] hB (by rfl) (by rfl) (by rfl)), [(.d (.int .i64 r3))], (Res.tmp (by rfl) (by rfl) Res.nil), rfl, by rfl, by rfl, by rfl⟩

noncomputable def exchangepointmill_Deck_Series_L0 (x4 : Int) (s6 : Int × (List Int) × (List Int) × exchangepointmill_Deck) : Option (((exchangepointmill_Deck × (List Int) × (List Int))) ⊕ (Int × (List Int) × (List Int) × exchangepointmill_Deck)) :=
  (if (decide ((0 : Int) < s6.1)) = true then
  (exchangepointmill_Deck_Next s6.2.2.2 x4).bind fun r29 =>
  (exchangepointmill_Deck_Next r29.2 x4).bind fun r30 =>
  (exchangepointmill_Deck_Next r30.2 (6 : Int)).bind fun r31 =>
  jn (fun m33 : Int × Int =>
  chk (decide ((s6.2.2.1 ++ ([m33.1] : List Int)).length ≤ LIM)) <|
  chk (decide ((s6.2.1 ++ ([m33.2] : List Int)).length ≤ LIM)) <|
  some (.inr ((w64 (s6.1 - (1 : Int))), (s6.2.1 ++ ([m33.2] : List Int)), (s6.2.2.1 ++ ([m33.1] : List Int)), r31.2))) (fun j34 =>
  (if (r31.1 == (0 : Int)) = true then
  j34 ((-1 : Int), (-1 : Int))
  else
  j34 (r29.1, r30.1)))
  else
  some (.inl (s6.2.2.2, s6.2.1, s6.2.2.1)))
noncomputable def exchangepointmill_Deck_Series (a0 : exchangepointmill_Deck) (a1 : Int) : Option (api_Series × exchangepointmill_Deck) :=
  (exchangepointmill_Deck_Next a0 (3 : Int)).bind fun r1 =>
  (idx ([(300 : Int), (1 : Int), (60 : Int)] : List Int) r1.1).bind fun x2 =>
  (exchangepointmill_Deck_Next r1.2 (3 : Int)).bind fun r3 =>
  (idx ([(1048576 : Int), (17179869184 : Int), (1125899906842625 : Int)] : List Int) r3.1).bind fun x4 =>
  (exchangepointmill_Deck_Next r3.2 (30 : Int)).bind fun r5 =>
  (loop (exchangepointmill_Deck_Series_L0 x4) (r5.1, ([] : List Int), ([] : List Int), r5.2)).bind fun p27 =>
  some ((api_Series.mk a1 x2 p27.2.2 p27.2.1), p27.1)
set_option maxHeartbeats 4000000 in
set_option maxRecDepth 100000 in
theorem exchangepointmill_Deck_Series_ac (a0 : exchangepointmill_Deck) (a1 : Int) (r : api_Series × exchangepointmill_Deck) (h : exchangepointmill_Deck_Series a0 a1 = some r) : AC Try.prog 12 [(.ptr 0 0 []), (.d (.int .i64 a1))] [(0, (.box 54 (.d (e_exchangepointmill_Deck a0))))] (.d (e_api_Series r.1)) [(0, some (.box 54 (.d (e_exchangepointmill_Deck r.2))))] := by
  refine AC.of_code2 Try.func12 rfl rfl (Nat.le_of_ble_eq_true (by rfl)) fun B hB hN => ?_
  delta exchangepointmill_Deck_Series at h
  refine AWp.seq ?_
  refine AWp.region (OpJs.cons (OpJ.alloc hB tyZ30 (nm := 1004) (by decide) (ltN hN rfl))
  (OpJs.nil)) (by rfl) (by rfl) ?_
  refine seqQ_n ?_
  refine AWp.ghost (Mat.pat [] [(0, (.ptr 0 0 [])), (1, (.d (.int .i64 a1))), (4, (.ptr 1004 0 []))] [(0, some (.box 54 (.d (e_exchangepointmill_Deck a0)))), (1004, some (.box 30 (.st [(.d (.int .i64 (0 : Int))), (.d (.int .i64 (0 : Int))), .nils, .nils])))] hB (by rfl) (by rfl) (by rfl)) ?_
  refine AWp.seq ?_
  obtain ⟨r1, hr1, h⟩ := bindS h
  obtain ⟨x2, hx2, h⟩ := bindS h
  refine AWp.region (OpJs.cons (OpJ.move (ltN hN rfl) (Opd.tmp 1 (.d (.int .i64 a1))))
  (OpJs.cons (OpJ.buildSlice Try.underlying22 tyS3 tyZD3 (by rfl) (by decide) (by decide) (Opds.cons (Opd.int .i64 (300)) (Opds.cons (Opd.int .i64 (1)) (Opds.cons (Opd.int .i64 (60)) Opds.nil))) (by kernel_rfl) (es := ([(.int .i64 (300 : Int)), (.int .i64 (1 : Int)), (.int .i64 (60 : Int))] : List D)) (by rfl) (by rfl) (by kernel_rfl) (by simp) (ltN hN rfl))
  (OpJs.cons (OpJ.move (ltN hN rfl) (Opd.tmp 0 (.ptr 0 0 [])))
  (OpJs.cons (OpJ.callFn hB fnOk32 (exchangepointmill_Deck_Next_ac a0 (3 : Int) r1 hr1) [(0, 0)] (by kernel_rfl) (ltN hN rfl) (by kernel_rfl) (OpdL.cons (Opd.tmp 12 (.ptr 0 0 [])) (OpdL.cons (Opd.int .i64 (3)) OpdL.nil)))
  (OpJs.cons (OpJ.indexD (el := (.int .i64 x2)) Try.underlying22 tyS3 (idx_some hx2).1 (get_map (eI .i64) (idx_some hx2).2) (ltN hN rfl) (Opd.tmp 11 (.d (.list 1 (([(300 : Int), (1 : Int), (60 : Int)] : List Int).map (eI .i64))))) (Opd.tmp 13 (.d (.int .i64 r1.1))))
  (OpJs.cons (OpJ.loadD tyS3 (by rfl) (by rfl) (ltN hN rfl) (Opd.tmp 14 (.dptr (.int .i64 x2))))
  (OpJs.cons (OpJ.build (places := [(0, 1), (1, 1), (2, 1), (3, 1)]) ⟨Try.underlying30, fun w => by kernel_rfl⟩ tyZS30 (Opds.cons (Opd.tmp 10 (.d (.int .i64 a1))) (Opds.cons (Opd.tmp 15 (.d (.int .i64 x2))) Opds.nil)) (by kernel_rfl) (r := (.st [(.d (.int .i64 a1)), (.d (.int .i64 x2)), .nils, .nils])) (by rfl) (ltN hN rfl))
  (OpJs.cons (OpJ.alloc hB tyZ30 (nm := 1005) (by decide) (ltN hN rfl))
  (OpJs.cons (OpJ.storeB (bt := 30) (c := (.st [(.d (.int .i64 (0 : Int))), (.d (.int .i64 (0 : Int))), .nils, .nils])) (v := (.st [(.d (.int .i64 a1)), (.d (.int .i64 x2)), .nils, .nils])) (c' := (.st [(.d (.int .i64 a1)), (.d (.int .i64 x2)), .nils, .nils])) tyS30 (SetAt.here _ _) (by rfl) (by rfl) (by simp) rfl (Opd.tmp 5 (.ptr 1005 0 [])) (Opd.tmp 16 (.st [(.d (.int .i64 a1)), (.d (.int .i64 x2)), .nils, .nils])))
  (OpJs.nil)))))))))) (by rfl) (by rfl) ?_
  refine seqQ_n ?_
  refine AWp.ghost (Mat.pat [] [(0, (.ptr 0 0 [])), (4, (.ptr 1004 0 [])), (5, (.ptr 1005 0 []))] [(0, some (.box 54 (.d (e_exchangepointmill_Deck r1.2)))), (1004, some (.box 30 (.st [(.d (.int .i64 (0 : Int))), (.d (.int .i64 (0 : Int))), .nils, .nils]))), (1005, some (.box 30 (.st [(.d (.int .i64 a1)), (.d (.int .i64 x2)), .nils, .nils])))] hB (by rfl) (by rfl) (by rfl)) ?_
  refine AWp.seq ?_
  obtain ⟨r3, hr3, h⟩ := bindS h
  obtain ⟨x4, hx4, h⟩ := bindS h
  refine AWp.region (OpJs.cons (OpJ.buildSlice Try.underlying22 tyS3 tyZD3 (by rfl) (by decide) (by decide) (Opds.cons (Opd.int .i64 (1048576)) (Opds.cons (Opd.int .i64 (17179869184)) (Opds.cons (Opd.int .i64 (1125899906842625)) Opds.nil))) (by kernel_rfl) (es := ([(.int .i64 (1048576 : Int)), (.int .i64 (17179869184 : Int)), (.int .i64 (1125899906842625 : Int))] : List D)) (by rfl) (by rfl) (by kernel_rfl) (by simp) (ltN hN rfl))
  (OpJs.cons (OpJ.move (ltN hN rfl) (Opd.tmp 0 (.ptr 0 0 [])))
  (OpJs.cons (OpJ.callFn hB fnOk32 (exchangepointmill_Deck_Next_ac r1.2 (3 : Int) r3 hr3) [(0, 0)] (by kernel_rfl) (ltN hN rfl) (by kernel_rfl) (OpdL.cons (Opd.tmp 18 (.ptr 0 0 [])) (OpdL.cons (Opd.int .i64 (3)) OpdL.nil)))
  (OpJs.cons (OpJ.indexD (el := (.int .i64 x4)) Try.underlying22 tyS3 (idx_some hx4).1 (get_map (eI .i64) (idx_some hx4).2) (ltN hN rfl) (Opd.tmp 17 (.d (.list 1 (([(1048576 : Int), (17179869184 : Int), (1125899906842625 : Int)] : List Int).map (eI .i64))))) (Opd.tmp 19 (.d (.int .i64 r3.1))))
  (OpJs.cons (OpJ.loadD tyS3 (by rfl) (by rfl) (ltN hN rfl) (Opd.tmp 20 (.dptr (.int .i64 x4))))
  (OpJs.cons (OpJ.assign (ltN hN rfl) (Opd.tmp 21 (.d (.int .i64 x4))))
  (OpJs.nil))))))) (by rfl) (by rfl) ?_
  refine seqQ_n ?_
  refine AWp.ghost (Mat.pat [] [(0, (.ptr 0 0 [])), (4, (.ptr 1004 0 [])), (5, (.ptr 1005 0 [])), (6, (.d (.int .i64 x4)))] [(0, some (.box 54 (.d (e_exchangepointmill_Deck r3.2)))), (1004, some (.box 30 (.st [(.d (.int .i64 (0 : Int))), (.d (.int .i64 (0 : Int))), .nils, .nils]))), (1005, some (.box 30 (.st [(.d (.int .i64 a1)), (.d (.int .i64 x2)), .nils, .nils])))] hB (by rfl) (by rfl) (by rfl)) ?_
  refine AWp.seq ?_
  refine AWp.seq ?_
  obtain ⟨r5, hr5, h⟩ := bindS h
  refine AWp.region (OpJs.cons (OpJ.move (ltN hN rfl) (Opd.tmp 0 (.ptr 0 0 [])))
  (OpJs.cons (OpJ.callFn hB fnOk32 (exchangepointmill_Deck_Next_ac r3.2 (30 : Int) r5 hr5) [(0, 0)] (by kernel_rfl) (ltN hN rfl) (by kernel_rfl) (OpdL.cons (Opd.tmp 22 (.ptr 0 0 [])) (OpdL.cons (Opd.int .i64 (30)) OpdL.nil)))
  (OpJs.cons (OpJ.assign (ltN hN rfl) (Opd.tmp 23 (.d (.int .i64 r5.1))))
  (OpJs.nil)))) (by rfl) (by rfl) ?_
  refine seqQ_n ?_
  refine AWp.ghost (Mat.pat [] [(0, (.ptr 0 0 [])), (4, (.ptr 1004 0 [])), (5, (.ptr 1005 0 [])), (6, (.d (.int .i64 x4))), (7, (.d (.int .i64 r5.1)))] [(0, some (.box 54 (.d (e_exchangepointmill_Deck r5.2)))), (1004, some (.box 30 (.st [(.d (.int .i64 (0 : Int))), (.d (.int .i64 (0 : Int))), .nils, .nils]))), (1005, some (.box 30 (.st [(.d (.int .i64 a1)), (.d (.int .i64 x2)), .nils, .nils])))] hB (by rfl) (by rfl) (by rfl)) ?_
  refine AWp.block ?_
  obtain ⟨p27, hx39, h⟩ := bindS h
  refine AWp.ghost (Mat.trans (Mat.beginP (n := 13052) (e := 3) (sz := 1) (Ts := []) (Bs := [(1005, some (.box 30 (.st [(.d (.int .i64 a1)), (.d (.int .i64 x2)), (.sref 13052 1 0 0), .nils])))]) hB (by decide) (by rfl) (by decide) TwT.nil (TwB.cons (x := (.st [(.d (.int .i64 a1)), (.d (.int .i64 x2)), .nils, .nils])) (by rfl) (Tw.st (TwL.cons (Tw.same _) (TwL.cons (Tw.same _) (TwL.cons (Tw.leaf ⟨rfl, rfl⟩) (TwL.cons (Tw.same _) TwL.nil))))) TwB.nil)) (Mat.trans (Mat.beginP (n := 13053) (e := 3) (sz := 1) (Ts := []) (Bs := [(1005, some (.box 30 (.st [(.d (.int .i64 a1)), (.d (.int .i64 x2)), (.sref 13052 1 0 0), (.sref 13053 1 0 0)])))]) hB (by decide) (by rfl) (by decide) TwT.nil (TwB.cons (x := (.st [(.d (.int .i64 a1)), (.d (.int .i64 x2)), (.sref 13052 1 0 0), .nils])) (by rfl) (Tw.st (TwL.cons (Tw.same _) (TwL.cons (Tw.same _) (TwL.cons (Tw.same _) (TwL.cons (Tw.leaf ⟨rfl, rfl⟩) TwL.nil))))) TwB.nil)) (Mat.pat [] ((fun s6 : Int × (List Int) × (List Int) × exchangepointmill_Deck => ([(0, (.ptr 0 0 [])), (4, (.ptr 1004 0 [])), (5, (.ptr 1005 0 [])), (6, (.d (.int .i64 x4))), (7, (.d (.int .i64 s6.1)))] : EL)) (r5.1, ([] : List Int), ([] : List Int), r5.2)) ((fun s6 : Int × (List Int) × (List Int) × exchangepointmill_Deck => ([(0, some (.box 54 (.d (e_exchangepointmill_Deck s6.2.2.2)))), (1004, some (.box 30 (.st [(.d (.int .i64 (0 : Int))), (.d (.int .i64 (0 : Int))), .nils, .nils]))), (1005, some (.box 30 (.st [(.d (.int .i64 a1)), (.d (.int .i64 x2)), (.sref 13052 1 0 s6.2.2.1.length), (.sref 13053 1 0 s6.2.1.length)]))), (13052, some (.row 3 1 (s6.2.2.1.map (eI .i64)))), (13053, some (.row 3 1 (s6.2.1.map (eI .i64))))] : OL)) (r5.1, ([] : List Int), ([] : List Int), r5.2)) hB (by rfl) (by rfl) (by rfl)))) ?_
  refine AWp.loopS (exchangepointmill_Deck_Series_L0 x4) (fun s6 : Int × (List Int) × (List Int) × exchangepointmill_Deck => ([(0, (.ptr 0 0 [])), (4, (.ptr 1004 0 [])), (5, (.ptr 1005 0 [])), (6, (.d (.int .i64 x4))), (7, (.d (.int .i64 s6.1)))] : EL)) (fun s6 : Int × (List Int) × (List Int) × exchangepointmill_Deck => ([(0, some (.box 54 (.d (e_exchangepointmill_Deck s6.2.2.2)))), (1004, some (.box 30 (.st [(.d (.int .i64 (0 : Int))), (.d (.int .i64 (0 : Int))), .nils, .nils]))), (1005, some (.box 30 (.st [(.d (.int .i64 a1)), (.d (.int .i64 x2)), (.sref 13052 1 0 s6.2.2.1.length), (.sref 13053 1 0 s6.2.1.length)]))), (13052, some (.row 3 1 (s6.2.2.1.map (eI .i64)))), (13053, some (.row 3 1 (s6.2.1.map (eI .i64))))] : OL)) (fun (p27 : (exchangepointmill_Deck × (List Int) × (List Int))) e E' O' => e = .exit 0 ∧ Mat B E' O' ([(4, (.ptr 1004 0 [])), (5, (.ptr 1005 0 []))] : EL) ([(0, some (.box 54 (.d (e_exchangepointmill_Deck p27.1)))), (1004, some (.box 30 (.st [(.d (.int .i64 (0 : Int))), (.d (.int .i64 (0 : Int))), .nils, .nils]))), (1005, some (.box 30 (.st [(.d (.int .i64 a1)), (.d (.int .i64 x2)), (.sref 13052 1 0 p27.2.2.length), (.sref 13053 1 0 p27.2.1.length)]))), (13052, some (.row 3 1 (p27.2.2.map (eI .i64)))), (13053, some (.row 3 1 (p27.2.1.map (eI .i64))))] : OL)) hx39 (fun s6 y h => ?_) (fun e E' O' hR => ?_)
  · unfold exchangepointmill_Deck_Series_L0 at h
    show AWp _ _ _ _ ([(0, (.ptr 0 0 [])), (4, (.ptr 1004 0 [])), (5, (.ptr 1005 0 [])), (6, (.d (.int .i64 x4))), (7, (.d (.int .i64 s6.1)))] : EL) ([(0, some (.box 54 (.d (e_exchangepointmill_Deck s6.2.2.2)))), (1004, some (.box 30 (.st [(.d (.int .i64 (0 : Int))), (.d (.int .i64 (0 : Int))), .nils, .nils]))), (1005, some (.box 30 (.st [(.d (.int .i64 a1)), (.d (.int .i64 x2)), (.sref 13052 1 0 s6.2.2.1.length), (.sref 13053 1 0 s6.2.1.length)]))), (13052, some (.row 3 1 (s6.2.2.1.map (eI .i64)))), (13053, some (.row 3 1 (s6.2.1.map (eI .i64))))] : OL)
    refine AWp.seq ?_
    refine AWp.seq ?_
    refine AWp.region (OpJs.cons (OpJ.move (ltN hN rfl) (Opd.tmp 7 (.d (.int .i64 s6.1))))
      (OpJs.cons (OpJ.gtr (ltN hN rfl) (Opd.tmp 24 (.d (.int .i64 s6.1))) (Opd.int .i64 (0)))
      (OpJs.nil))) (by rfl) (by rfl) ?_
    refine seqQ_n ?_
    refine AWp.ghost (Mat.pat [] [(0, (.ptr 0 0 [])), (4, (.ptr 1004 0 [])), (5, (.ptr 1005 0 [])), (6, (.d (.int .i64 x4))), (7, (.d (.int .i64 s6.1))), (25, (.d (.bool (decide ((0 : Int) < s6.1)))))] [(0, some (.box 54 (.d (e_exchangepointmill_Deck s6.2.2.2)))), (1004, some (.box 30 (.st [(.d (.int .i64 (0 : Int))), (.d (.int .i64 (0 : Int))), .nils, .nils]))), (1005, some (.box 30 (.st [(.d (.int .i64 a1)), (.d (.int .i64 x2)), (.sref 13052 1 0 s6.2.2.1.length), (.sref 13053 1 0 s6.2.1.length)]))), (13052, some (.row 3 1 (s6.2.2.1.map (eI .i64)))), (13053, some (.row 3 1 (s6.2.1.map (eI .i64))))] hB (by rfl) (by rfl) (by rfl)) ?_
    refine AWp.cond (b := (decide ((0 : Int) < s6.1))) (by rfl) (fun hg28 => ?_) (fun hg28 => ?_)
    · replace h := ite_t hg28 h
      refine AWp.skip ?_
      refine seqQ_n ?_
      refine AWp.seq ?_
      refine AWp.block ?_
      refine AWp.seq ?_
      obtain ⟨r29, hr29, h⟩ := bindS h
      obtain ⟨r30, hr30, h⟩ := bindS h
      refine AWp.region (OpJs.cons (OpJ.move (ltN hN rfl) (Opd.tmp 0 (.ptr 0 0 [])))
        (OpJs.cons (OpJ.move (ltN hN rfl) (Opd.tmp 6 (.d (.int .i64 x4))))
        (OpJs.cons (OpJ.callFn hB fnOk32 (exchangepointmill_Deck_Next_ac s6.2.2.2 x4 r29 hr29) [(0, 0)] (by kernel_rfl) (ltN hN rfl) (by kernel_rfl) (OpdL.cons (Opd.tmp 28 (.ptr 0 0 [])) (OpdL.cons (Opd.tmp 29 (.d (.int .i64 x4))) OpdL.nil)))
        (OpJs.cons (OpJ.move (ltN hN rfl) (Opd.tmp 0 (.ptr 0 0 [])))
        (OpJs.cons (OpJ.move (ltN hN rfl) (Opd.tmp 6 (.d (.int .i64 x4))))
        (OpJs.cons (OpJ.callFn hB fnOk32 (exchangepointmill_Deck_Next_ac r29.2 x4 r30 hr30) [(0, 0)] (by kernel_rfl) (ltN hN rfl) (by kernel_rfl) (OpdL.cons (Opd.tmp 31 (.ptr 0 0 [])) (OpdL.cons (Opd.tmp 32 (.d (.int .i64 x4))) OpdL.nil)))
        (OpJs.cons (OpJ.assign (ltN hN rfl) (Opd.tmp 30 (.d (.int .i64 r29.1))))
        (OpJs.cons (OpJ.assign (ltN hN rfl) (Opd.tmp 33 (.d (.int .i64 r30.1))))
        (OpJs.nil))))))))) (by rfl) (by rfl) ?_
      refine seqQ_n ?_
      refine AWp.ghost (Mat.pat [] [(0, (.ptr 0 0 [])), (4, (.ptr 1004 0 [])), (5, (.ptr 1005 0 [])), (6, (.d (.int .i64 x4))), (7, (.d (.int .i64 s6.1))), (8, (.d (.int .i64 r29.1))), (9, (.d (.int .i64 r30.1)))] [(0, some (.box 54 (.d (e_exchangepointmill_Deck r30.2)))), (1004, some (.box 30 (.st [(.d (.int .i64 (0 : Int))), (.d (.int .i64 (0 : Int))), .nils, .nils]))), (1005, some (.box 30 (.st [(.d (.int .i64 a1)), (.d (.int .i64 x2)), (.sref 13052 1 0 s6.2.2.1.length), (.sref 13053 1 0 s6.2.1.length)]))), (13052, some (.row 3 1 (s6.2.2.1.map (eI .i64)))), (13053, some (.row 3 1 (s6.2.1.map (eI .i64))))] hB (by rfl) (by rfl) (by rfl)) ?_
      refine AWp.seq ?_
      refine AWp.seq ?_
      obtain ⟨r31, hr31, h⟩ := bindS h
      refine AWp.region (OpJs.cons (OpJ.move (ltN hN rfl) (Opd.tmp 0 (.ptr 0 0 [])))
        (OpJs.cons (OpJ.callFn hB fnOk32 (exchangepointmill_Deck_Next_ac r30.2 (6 : Int) r31 hr31) [(0, 0)] (by kernel_rfl) (ltN hN rfl) (by kernel_rfl) (OpdL.cons (Opd.tmp 34 (.ptr 0 0 [])) (OpdL.cons (Opd.int .i64 (6)) OpdL.nil)))
        (OpJs.cons (OpJ.eqlI (ltN hN rfl) (Opd.tmp 35 (.d (.int .i64 r31.1))) (Opd.int .i64 (0)))
        (OpJs.nil)))) (by rfl) (by rfl) ?_
      refine seqQ_n ?_
      refine AWp.ghost (Mat.pat [] [(0, (.ptr 0 0 [])), (4, (.ptr 1004 0 [])), (5, (.ptr 1005 0 [])), (6, (.d (.int .i64 x4))), (7, (.d (.int .i64 s6.1))), (8, (.d (.int .i64 r29.1))), (9, (.d (.int .i64 r30.1))), (36, (.d (.bool (r31.1 == (0 : Int)))))] [(0, some (.box 54 (.d (e_exchangepointmill_Deck r31.2)))), (1004, some (.box 30 (.st [(.d (.int .i64 (0 : Int))), (.d (.int .i64 (0 : Int))), .nils, .nils]))), (1005, some (.box 30 (.st [(.d (.int .i64 a1)), (.d (.int .i64 x2)), (.sref 13052 1 0 s6.2.2.1.length), (.sref 13053 1 0 s6.2.1.length)]))), (13052, some (.row 3 1 (s6.2.2.1.map (eI .i64)))), (13053, some (.row 3 1 (s6.2.1.map (eI .i64))))] hB (by rfl) (by rfl) (by rfl)) ?_
      refine AWp.cut h (fun m33 : Int × Int => ([(0, (.ptr 0 0 [])), (4, (.ptr 1004 0 [])), (5, (.ptr 1005 0 [])), (6, (.d (.int .i64 x4))), (7, (.d (.int .i64 s6.1))), (8, (.d (.int .i64 m33.1))), (9, (.d (.int .i64 m33.2)))] : EL)) (fun m33 : Int × Int => ([(0, some (.box 54 (.d (e_exchangepointmill_Deck r31.2)))), (1004, some (.box 30 (.st [(.d (.int .i64 (0 : Int))), (.d (.int .i64 (0 : Int))), .nils, .nils]))), (1005, some (.box 30 (.st [(.d (.int .i64 a1)), (.d (.int .i64 x2)), (.sref 13052 1 0 s6.2.2.1.length), (.sref 13053 1 0 s6.2.1.length)]))), (13052, some (.row 3 1 (s6.2.2.1.map (eI .i64)))), (13053, some (.row 3 1 (s6.2.1.map (eI .i64))))] : OL)) (fun m33 h E' O' hmat => ?_) (fun j34 hjj34 h => ?_)
      · refine seqQ_n ?_
        refine AWp.ghost hmat ?_
        obtain ⟨hc35, h⟩ := chk_some h
        obtain ⟨hc36, h⟩ := chk_some h
        refine AWp.draws (by kernel_rfl) (OpJs.cons (OpJ.val (v' := (.ptr 1005 2 [2])) (by rfl) (OpJ.fieldP Try.underlying30 (by rfl) (o := 2) (by rfl) tyS22 (by decide) (obj := (.box 30 (.st [(.d (.int .i64 a1)), (.d (.int .i64 x2)), (.sref 13052 1 0 s6.2.2.1.length), (.sref 13053 1 0 s6.2.1.length)]))) (ltN hN rfl) (Opd.tmp 5 (.ptr 1005 0 []))))
          (OpJs.cons (OpJ.loadB (bt := 30) (c := (.st [(.d (.int .i64 a1)), (.d (.int .i64 x2)), (.sref 13052 1 0 s6.2.2.1.length), (.sref 13053 1 0 s6.2.1.length)])) (v := (.sref 13052 1 0 s6.2.2.1.length)) tyS22 (At.st1 (f := (.sref 13052 1 0 s6.2.2.1.length)) (by rfl) (by rfl) (At.here _) (by first | rfl | omega)) (by rfl) (by rfl) rfl (ltN hN rfl) (Opd.tmp 37 (.ptr 1005 2 [2])))
          (OpJs.cons (OpJ.move (ltN hN rfl) (Opd.tmp 8 (.d (.int .i64 m33.1))))
          (OpJs.cons (OpJ.buildSlice Try.underlying22 tyS3 tyZD3 (by rfl) (by decide) (by decide) (Opds.cons (Opd.tmp 39 (.d (.int .i64 m33.1))) Opds.nil) (by kernel_rfl) (es := ([(.int .i64 m33.1)] : List D)) (by rfl) (by rfl) (by kernel_rfl) (by simp) (ltN hN rfl))
          (OpJs.cons (OpJ.append hB Try.underlying22 tyE3 (nm := 1041) (by decide) (es := s6.2.2.1.map (eI .i64)) (ys := ([m33.1] : List Int).map (eI .i64)) (es' := (s6.2.2.1 ++ ([m33.1] : List Int)).map (eI .i64)) (len := (s6.2.2.1 ++ ([m33.1] : List Int)).length) (by simp) (by simp) (map_sz (f := (eI .i64)) (fun _ => rfl)) (by rw [List.length_map]; exact lim_mulN hc35 (by decide)) (by rw [List.length_map]; exact lim_leN hc35) (ltN hN rfl) (by simp) (Opd.tmp 38 (.sref 13052 1 0 s6.2.2.1.length)) (Opd.tmp 40 (.d (.list 1 (([m33.1] : List Int).map (eI .i64))))))
          (OpJs.cons (OpJ.val (v' := (.ptr 1005 3 [3])) (by rfl) (OpJ.fieldP Try.underlying30 (by rfl) (o := 3) (by rfl) tyS22 (by decide) (obj := (.box 30 (.st [(.d (.int .i64 a1)), (.d (.int .i64 x2)), (.sref 13052 1 0 s6.2.2.1.length), (.sref 13053 1 0 s6.2.1.length)]))) (ltN hN rfl) (Opd.tmp 5 (.ptr 1005 0 []))))
          (OpJs.cons (OpJ.loadB (bt := 30) (c := (.st [(.d (.int .i64 a1)), (.d (.int .i64 x2)), (.sref 13052 1 0 s6.2.2.1.length), (.sref 13053 1 0 s6.2.1.length)])) (v := (.sref 13053 1 0 s6.2.1.length)) tyS22 (At.st1 (f := (.sref 13053 1 0 s6.2.1.length)) (by rfl) (by rfl) (At.here _) (by first | rfl | omega)) (by rfl) (by rfl) rfl (ltN hN rfl) (Opd.tmp 42 (.ptr 1005 3 [3])))
          (OpJs.cons (OpJ.move (ltN hN rfl) (Opd.tmp 9 (.d (.int .i64 m33.2))))
          (OpJs.cons (OpJ.buildSlice Try.underlying22 tyS3 tyZD3 (by rfl) (by decide) (by decide) (Opds.cons (Opd.tmp 44 (.d (.int .i64 m33.2))) Opds.nil) (by kernel_rfl) (es := ([(.int .i64 m33.2)] : List D)) (by rfl) (by rfl) (by kernel_rfl) (by simp) (ltN hN rfl))
          (OpJs.cons (OpJ.append hB Try.underlying22 tyE3 (nm := 1046) (by decide) (es := s6.2.1.map (eI .i64)) (ys := ([m33.2] : List Int).map (eI .i64)) (es' := (s6.2.1 ++ ([m33.2] : List Int)).map (eI .i64)) (len := (s6.2.1 ++ ([m33.2] : List Int)).length) (by simp) (by simp) (map_sz (f := (eI .i64)) (fun _ => rfl)) (by rw [List.length_map]; exact lim_mulN hc36 (by decide)) (by rw [List.length_map]; exact lim_leN hc36) (ltN hN rfl) (by simp) (Opd.tmp 43 (.sref 13053 1 0 s6.2.1.length)) (Opd.tmp 45 (.d (.list 1 (([m33.2] : List Int).map (eI .i64))))))
          (OpJs.cons (OpJ.val (v' := (.ptr 1005 2 [2])) (by rfl) (OpJ.fieldP Try.underlying30 (by rfl) (o := 2) (by rfl) tyS22 (by decide) (obj := (.box 30 (.st [(.d (.int .i64 a1)), (.d (.int .i64 x2)), (.sref 13052 1 0 s6.2.2.1.length), (.sref 13053 1 0 s6.2.1.length)]))) (ltN hN rfl) (Opd.tmp 5 (.ptr 1005 0 []))))
          (OpJs.cons (OpJ.storeB (bt := 30) (c := (.st [(.d (.int .i64 a1)), (.d (.int .i64 x2)), (.sref 13052 1 0 s6.2.2.1.length), (.sref 13053 1 0 s6.2.1.length)])) (v := (.sref 1041 1 0 ((s6.2.2.1 ++ ([m33.1] : List Int)).length))) (c' := (.st [(.d (.int .i64 a1)), (.d (.int .i64 x2)), (.sref 1041 1 0 ((s6.2.2.1 ++ ([m33.1] : List Int)).length)), (.sref 13053 1 0 s6.2.1.length)])) tyS22 (SetAt.st1 (f := (.sref 13052 1 0 s6.2.2.1.length)) (by rfl) (by rfl) (SetAt.here _ _) (by rfl) (by rfl) (by first | rfl | omega)) (by rfl) (by rfl) (by simp) rfl (Opd.tmp 47 (.ptr 1005 2 [2])) (Opd.tmp 41 (.sref 1041 1 0 ((s6.2.2.1 ++ ([m33.1] : List Int)).length))))
          (OpJs.cons (OpJ.val (v' := (.ptr 1005 3 [3])) (by rfl) (OpJ.fieldP Try.underlying30 (by rfl) (o := 3) (by rfl) tyS22 (by decide) (obj := (.box 30 (.st [(.d (.int .i64 a1)), (.d (.int .i64 x2)), (.sref 1041 1 0 ((s6.2.2.1 ++ ([m33.1] : List Int)).length)), (.sref 13053 1 0 s6.2.1.length)]))) (ltN hN rfl) (Opd.tmp 5 (.ptr 1005 0 []))))
          (OpJs.cons (OpJ.storeB (bt := 30) (c := (.st [(.d (.int .i64 a1)), (.d (.int .i64 x2)), (.sref 1041 1 0 ((s6.2.2.1 ++ ([m33.1] : List Int)).length)), (.sref 13053 1 0 s6.2.1.length)])) (v := (.sref 1046 1 0 ((s6.2.1 ++ ([m33.2] : List Int)).length))) (c' := (.st [(.d (.int .i64 a1)), (.d (.int .i64 x2)), (.sref 1041 1 0 ((s6.2.2.1 ++ ([m33.1] : List Int)).length)), (.sref 1046 1 0 ((s6.2.1 ++ ([m33.2] : List Int)).length))])) tyS22 (SetAt.st1 (f := (.sref 13053 1 0 s6.2.1.length)) (by rfl) (by rfl) (SetAt.here _ _) (by rfl) (by rfl) (by first | rfl | omega)) (by rfl) (by rfl) (by simp) rfl (Opd.tmp 48 (.ptr 1005 3 [3])) (Opd.tmp 46 (.sref 1046 1 0 ((s6.2.1 ++ ([m33.2] : List Int)).length))))
          (OpJs.nil))))))))))))))) (by kernel_rfl) (by rfl) (by rfl) ?_
        refine blkQ_n ?_
        refine seqQ_n ?_
        refine AWp.ghost (Mat.pat [] [(0, (.ptr 0 0 [])), (4, (.ptr 1004 0 [])), (5, (.ptr 1005 0 [])), (6, (.d (.int .i64 x4))), (7, (.d (.int .i64 s6.1)))] [(0, some (.box 54 (.d (e_exchangepointmill_Deck r31.2)))), (1004, some (.box 30 (.st [(.d (.int .i64 (0 : Int))), (.d (.int .i64 (0 : Int))), .nils, .nils]))), (1005, some (.box 30 (.st [(.d (.int .i64 a1)), (.d (.int .i64 x2)), (.sref 1041 1 0 ((s6.2.2.1 ++ ([m33.1] : List Int)).length)), (.sref 1046 1 0 ((s6.2.1 ++ ([m33.2] : List Int)).length))]))), (1041, some (.row 3 1 ((s6.2.2.1 ++ ([m33.1] : List Int)).map (eI .i64)))), (1046, some (.row 3 1 ((s6.2.1 ++ ([m33.2] : List Int)).map (eI .i64))))] hB (by rfl) (by rfl) (by rfl)) ?_
        refine AWp.region (OpJs.cons (OpJ.move (ltN hN rfl) (Opd.tmp 7 (.d (.int .i64 s6.1))))
          (OpJs.cons (OpJ.sub (ltN hN rfl) (Opd.tmp 26 (.d (.int .i64 s6.1))) (Opd.int .i64 (1)))
          (OpJs.cons (OpJ.assign (ltN hN rfl) (Opd.tmp 27 (.d (.int .i64 (w64 (s6.1 - (1 : Int)))))))
          (OpJs.nil)))) (by rfl) (by rfl) ?_
        obtain rfl := Option.some.inj h
        exact ⟨rfl, (Mat.trans (Mat.pat [] [(0, (.ptr 0 0 [])), (4, (.ptr 1004 0 [])), (5, (.ptr 1005 0 [])), (6, (.d (.int .i64 x4))), (7, (.d (.int .i64 (w64 (s6.1 - (1 : Int))))))] [(0, some (.box 54 (.d (e_exchangepointmill_Deck r31.2)))), (1004, some (.box 30 (.st [(.d (.int .i64 (0 : Int))), (.d (.int .i64 (0 : Int))), .nils, .nils]))), (1005, some (.box 30 (.st [(.d (.int .i64 a1)), (.d (.int .i64 x2)), (.sref 1041 1 0 ((s6.2.2.1 ++ ([m33.1] : List Int)).length)), (.sref 1046 1 0 ((s6.2.1 ++ ([m33.2] : List Int)).length))]))), (1041, some (.row 3 1 ((s6.2.2.1 ++ ([m33.1] : List Int)).map (eI .i64)))), (1046, some (.row 3 1 ((s6.2.1 ++ ([m33.2] : List Int)).map (eI .i64))))] hB (by rfl) (by rfl) (by rfl)) (Mat.pat [(13052, 1041), (13053, 1046)] ((fun s6 : Int × (List Int) × (List Int) × exchangepointmill_Deck => ([(0, (.ptr 0 0 [])), (4, (.ptr 1004 0 [])), (5, (.ptr 1005 0 [])), (6, (.d (.int .i64 x4))), (7, (.d (.int .i64 s6.1)))] : EL)) ((w64 (s6.1 - (1 : Int))), (s6.2.1 ++ ([m33.2] : List Int)), (s6.2.2.1 ++ ([m33.1] : List Int)), r31.2)) ((fun s6 : Int × (List Int) × (List Int) × exchangepointmill_Deck => ([(0, some (.box 54 (.d (e_exchangepointmill_Deck s6.2.2.2)))), (1004, some (.box 30 (.st [(.d (.int .i64 (0 : Int))), (.d (.int .i64 (0 : Int))), .nils, .nils]))), (1005, some (.box 30 (.st [(.d (.int .i64 a1)), (.d (.int .i64 x2)), (.sref 13052 1 0 s6.2.2.1.length), (.sref 13053 1 0 s6.2.1.length)]))), (13052, some (.row 3 1 (s6.2.2.1.map (eI .i64)))), (13053, some (.row 3 1 (s6.2.1.map (eI .i64))))] : OL)) ((w64 (s6.1 - (1 : Int))), (s6.2.1 ++ ([m33.2] : List Int)), (s6.2.2.1 ++ ([m33.1] : List Int)), r31.2)) hB (by rfl) (by rfl) (by rfl)))⟩
      · refine AWp.cond (b := (r31.1 == (0 : Int))) (by rfl) (fun hg37 => ?_) (fun hg37 => ?_)
        · replace h := ite_t hg37 h
          refine AWp.region (OpJs.cons (OpJ.assign (ltN hN rfl) (Opd.int .i64 (-1)))
            (OpJs.cons (OpJ.assign (ltN hN rfl) (Opd.int .i64 (-1)))
            (OpJs.nil))) (by rfl) (by rfl) ?_
          exact hjj34 _ h _ _ (Mat.trans (Mat.pat [] [(0, (.ptr 0 0 [])), (4, (.ptr 1004 0 [])), (5, (.ptr 1005 0 [])), (6, (.d (.int .i64 x4))), (7, (.d (.int .i64 s6.1))), (8, (.d (.int .i64 (-1 : Int)))), (9, (.d (.int .i64 (-1 : Int))))] [(0, some (.box 54 (.d (e_exchangepointmill_Deck r31.2)))), (1004, some (.box 30 (.st [(.d (.int .i64 (0 : Int))), (.d (.int .i64 (0 : Int))), .nils, .nils]))), (1005, some (.box 30 (.st [(.d (.int .i64 a1)), (.d (.int .i64 x2)), (.sref 13052 1 0 s6.2.2.1.length), (.sref 13053 1 0 s6.2.1.length)]))), (13052, some (.row 3 1 (s6.2.2.1.map (eI .i64)))), (13053, some (.row 3 1 (s6.2.1.map (eI .i64))))] hB (by rfl) (by rfl) (by rfl)) (Mat.pat [] ((fun m33 : Int × Int => ([(0, (.ptr 0 0 [])), (4, (.ptr 1004 0 [])), (5, (.ptr 1005 0 [])), (6, (.d (.int .i64 x4))), (7, (.d (.int .i64 s6.1))), (8, (.d (.int .i64 m33.1))), (9, (.d (.int .i64 m33.2)))] : EL)) ((-1 : Int), (-1 : Int))) ((fun m33 : Int × Int => ([(0, some (.box 54 (.d (e_exchangepointmill_Deck r31.2)))), (1004, some (.box 30 (.st [(.d (.int .i64 (0 : Int))), (.d (.int .i64 (0 : Int))), .nils, .nils]))), (1005, some (.box 30 (.st [(.d (.int .i64 a1)), (.d (.int .i64 x2)), (.sref 13052 1 0 s6.2.2.1.length), (.sref 13053 1 0 s6.2.1.length)]))), (13052, some (.row 3 1 (s6.2.2.1.map (eI .i64)))), (13053, some (.row 3 1 (s6.2.1.map (eI .i64))))] : OL)) ((-1 : Int), (-1 : Int))) hB (by rfl) (by rfl) (by rfl)))
        · replace h := ite_f hg37 h
          refine AWp.skip ?_
          exact hjj34 _ h _ _ (Mat.pat [] ((fun m33 : Int × Int => ([(0, (.ptr 0 0 [])), (4, (.ptr 1004 0 [])), (5, (.ptr 1005 0 [])), (6, (.d (.int .i64 x4))), (7, (.d (.int .i64 s6.1))), (8, (.d (.int .i64 m33.1))), (9, (.d (.int .i64 m33.2)))] : EL)) (r29.1, r30.1)) ((fun m33 : Int × Int => ([(0, some (.box 54 (.d (e_exchangepointmill_Deck r31.2)))), (1004, some (.box 30 (.st [(.d (.int .i64 (0 : Int))), (.d (.int .i64 (0 : Int))), .nils, .nils]))), (1005, some (.box 30 (.st [(.d (.int .i64 a1)), (.d (.int .i64 x2)), (.sref 13052 1 0 s6.2.2.1.length), (.sref 13053 1 0 s6.2.1.length)]))), (13052, some (.row 3 1 (s6.2.2.1.map (eI .i64)))), (13053, some (.row 3 1 (s6.2.1.map (eI .i64))))] : OL)) (r29.1, r30.1)) hB (by rfl) (by rfl) (by rfl))
    · replace h := ite_f hg28 h
      refine AWp.exit ?_
      refine seqQ_e ?_
      obtain rfl := Option.some.inj h
      exact ⟨(fun hc => by cases hc), rfl, (Mat.pat [] ((fun p27 : exchangepointmill_Deck × (List Int) × (List Int) => ([(4, (.ptr 1004 0 [])), (5, (.ptr 1005 0 []))] : EL)) (s6.2.2.2, s6.2.1, s6.2.2.1)) ((fun p27 : exchangepointmill_Deck × (List Int) × (List Int) => ([(0, some (.box 54 (.d (e_exchangepointmill_Deck p27.1)))), (1004, some (.box 30 (.st [(.d (.int .i64 (0 : Int))), (.d (.int .i64 (0 : Int))), .nils, .nils]))), (1005, some (.box 30 (.st [(.d (.int .i64 a1)), (.d (.int .i64 x2)), (.sref 13052 1 0 p27.2.2.length), (.sref 13053 1 0 p27.2.1.length)]))), (13052, some (.row 3 1 (p27.2.2.map (eI .i64)))), (13053, some (.row 3 1 (p27.2.1.map (eI .i64))))] : OL)) (s6.2.2.2, s6.2.1, s6.2.2.1)) hB (by rfl) (by rfl) (by rfl))⟩
  · obtain ⟨rfl, hmat⟩ := hR
    refine blkQ_hit ?_
    refine seqQ_n ?_
    refine AWp.ghost hmat ?_
    refine AWp.seq ?_
    refine AWp.region (OpJs.cons (OpJ.loadB (bt := 30) (c := (.st [(.d (.int .i64 a1)), (.d (.int .i64 x2)), (.sref 13052 1 0 p27.2.2.length), (.sref 13053 1 0 p27.2.1.length)])) (v := (.st [(.d (.int .i64 a1)), (.d (.int .i64 x2)), (.sref 13052 1 0 p27.2.2.length), (.sref 13053 1 0 p27.2.1.length)])) tyS30 (At.here _) (by rfl) (by rfl) rfl (ltN hN rfl) (Opd.tmp 5 (.ptr 1005 0 [])))
      (OpJs.cons (OpJ.storeB (bt := 30) (c := (.st [(.d (.int .i64 (0 : Int))), (.d (.int .i64 (0 : Int))), .nils, .nils])) (v := (.st [(.d (.int .i64 a1)), (.d (.int .i64 x2)), (.sref 13052 1 0 p27.2.2.length), (.sref 13053 1 0 p27.2.1.length)])) (c' := (.st [(.d (.int .i64 a1)), (.d (.int .i64 x2)), (.sref 13052 1 0 p27.2.2.length), (.sref 13053 1 0 p27.2.1.length)])) tyS30 (SetAt.here _ _) (by rfl) (by rfl) (by simp) rfl (Opd.tmp 4 (.ptr 1004 0 [])) (Opd.tmp 49 (.st [(.d (.int .i64 a1)), (.d (.int .i64 x2)), (.sref 13052 1 0 p27.2.2.length), (.sref 13053 1 0 p27.2.1.length)])))
      (OpJs.nil))) (by rfl) (by rfl) ?_
    refine seqQ_n ?_
    refine AWp.ghost (Mat.pat [] [(4, (.ptr 1004 0 []))] [(0, some (.box 54 (.d (e_exchangepointmill_Deck p27.1)))), (1004, some (.box 30 (.st [(.d (.int .i64 a1)), (.d (.int .i64 x2)), (.sref 13052 1 0 p27.2.2.length), (.sref 13053 1 0 p27.2.1.length)]))), (13052, some (.row 3 1 (p27.2.2.map (eI .i64)))), (13053, some (.row 3 1 (p27.2.1.map (eI .i64))))] hB (by rfl) (by rfl) (by rfl)) ?_
    refine AWp.ret ?_
    obtain rfl := Option.some.inj h
    exact ⟨.inl rfl, _, _, (Mat.trans (Mat.freezeP (n := 13052) (e := 3) (sz := 1) (es := p27.2.2.map (eI .i64)) (Ts := []) (Bs := [(1004, some (.box 30 (.st [(.d (.int .i64 a1)), (.d (.int .i64 x2)), (.d (.list 1 (p27.2.2.map (eI .i64)))), (.sref 13053 1 0 p27.2.1.length)])))]) (by rfl) TwT.nil (TwB.cons (x := (.st [(.d (.int .i64 a1)), (.d (.int .i64 x2)), (.sref 13052 1 0 p27.2.2.length), (.sref 13053 1 0 p27.2.1.length)])) (by rfl) (Tw.st (TwL.cons (Tw.same _) (TwL.cons (Tw.same _) (TwL.cons (FrzL.all (by first | rfl | (simp; done) | (simp; omega))) (TwL.cons (Tw.same _) TwL.nil))))) TwB.nil)) (Mat.trans (Mat.freezeP (n := 13053) (e := 3) (sz := 1) (es := p27.2.1.map (eI .i64)) (Ts := []) (Bs := [(1004, some (.box 30 (.st [(.d (.int .i64 a1)), (.d (.int .i64 x2)), (.d (.list 1 (p27.2.2.map (eI .i64)))), (.d (.list 1 (p27.2.1.map (eI .i64))))])))]) (by rfl) TwT.nil (TwB.cons (x := (.st [(.d (.int .i64 a1)), (.d (.int .i64 x2)), (.d (.list 1 (p27.2.2.map (eI .i64)))), (.sref 13053 1 0 p27.2.1.length)])) (by rfl) (Tw.st (TwL.cons (Tw.same _) (TwL.cons (Tw.same _) (TwL.cons (Tw.same _) (TwL.cons (FrzL.all (by first | rfl | (simp; done) | (simp; omega))) TwL.nil))))) TwB.nil)) (Mat.trans (Mat.coeP (Ts := []) (Bs := [(1004, some (.box 30 (.d (.st [(.int .i64 a1), (.int .i64 x2), (.list 1 (p27.2.2.map (eI .i64))), (.list 1 (p27.2.1.map (eI .i64)))]))))]) TwT.nil (TwB.cons (x := (.st [(.d (.int .i64 a1)), (.d (.int .i64 x2)), (.d (.list 1 (p27.2.2.map (eI .i64)))), (.d (.list 1 (p27.2.1.map (eI .i64))))])) (by rfl) (Tw.leaf ⟨_, (Co.st (CoL.cons (Co.d _) (CoL.cons (Co.d _) (CoL.cons (Co.d _) (CoL.cons (Co.d _) CoL.nil))))), rfl⟩) TwB.nil)) (Mat.pat [] [(4, (.ptr 1004 0 []))] [(0, some (.box 54 (.d (e_exchangepointmill_Deck p27.1)))), (1004, some (.box 30 (.d (.st [(.int .i64 a1), (.int .i64 x2), (.list 1 (p27.2.2.map (eI .i64))), (.list 1 (p27.2.1.map (eI .i64)))]))))] hB (by rfl) (by rfl) (by rfl))))), [(.d (.st [(.int .i64 a1), (.int .i64 x2), (.list 1 (p27.2.2.map (eI .i64))), (.list 1 (p27.2.1.map (eI .i64)))]))], (Res.cell (c := (.d (.st [(.int .i64 a1), (.int .i64 x2), (.list 1 (p27.2.2.map (eI .i64))), (.list 1 (p27.2.1.map (eI .i64)))]))) (by rfl) (by rfl) tyS30 (by rfl) (by rfl) (by rfl) Res.nil), rfl, by rfl, by rfl, by rfl⟩

noncomputable def exchangepointref40_Copy (a0 : api_Series) : Option (api_Series) :=
  chk (decide (a0.fIn.length ≤ LIM)) <|
  chk (decide (a0.fOut.length ≤ LIM)) <|
  some (api_Series.mk a0.fPort a0.fSeconds a0.fIn a0.fOut)
set_option maxHeartbeats 4000000 in
set_option maxRecDepth 100000 in
theorem exchangepointref40_Copy_ac (a0 : api_Series) (r : api_Series) (h : exchangepointref40_Copy a0 = some r) : AC Try.prog 13 [(.d (e_api_Series a0))] [] (.d (e_api_Series r)) [] := by
  refine AC.of_code2 Try.func13 rfl rfl (Nat.le_of_ble_eq_true (by rfl)) fun B hB hN => ?_
  delta exchangepointref40_Copy at h
  refine AWp.seq ?_
  refine AWp.region (OpJs.cons (OpJ.box hB (nm := 1001) (by decide) (by simp) rfl (ltN hN rfl) (Opd.tmp 0 (.d (e_api_Series a0))))
  (OpJs.cons (OpJ.alloc hB tyZ30 (nm := 1002) (by decide) (ltN hN rfl))
  (OpJs.nil))) (by rfl) (by rfl) ?_
  refine seqQ_n ?_
  refine AWp.ghost (Mat.pat [] [(1, (.ptr 1001 0 [])), (2, (.ptr 1002 0 []))] [(1001, some (.box 30 (.d (e_api_Series a0)))), (1002, some (.box 30 (.st [(.d (.int .i64 (0 : Int))), (.d (.int .i64 (0 : Int))), .nils, .nils])))] hB (by rfl) (by rfl) (by rfl)) ?_
  refine AWp.seq ?_
  obtain ⟨hc1, h⟩ := chk_some h
  obtain ⟨hc2, h⟩ := chk_some h
  refine AWp.draws (by kernel_rfl) (OpJs.cons (OpJ.val (v' := (.ptr 1001 2 [2])) (by rfl) (OpJ.fieldP Try.underlying30 (by rfl) (o := 2) (by rfl) tyS22 (by decide) (obj := (.box 30 (.d (e_api_Series a0)))) (ltN hN rfl) (Opd.tmp 1 (.ptr 1001 0 []))))
  (OpJs.cons (OpJ.loadB (bt := 30) (c := (.d (e_api_Series a0))) (v := (.d (.list 1 (a0.fIn.map (eI .i64))))) tyS22 (At.dst1 (f := (.list 1 (a0.fIn.map (eI .i64)))) (by rfl) (by rfl) (At.here _) (by first | rfl | omega)) (by rfl) (by rfl) rfl (ltN hN rfl) (Opd.tmp 3 (.ptr 1001 2 [2])))
  (OpJs.cons (OpJ.appendN hB Try.underlying22 tyE3 (nm := 1005) (by decide) (ys := a0.fIn.map (eI .i64)) (len := a0.fIn.length) (by simp) (map_sz (f := (eI .i64)) (fun _ => rfl)) (by rw [List.length_map]; exact lim_mulN hc1 (by decide)) (by rw [List.length_map]; exact lim_leN hc1) (ltN hN rfl) Opd.nils (Opd.tmp 4 (.d (.list 1 (a0.fIn.map (eI .i64))))))
  (OpJs.cons (OpJ.val (v' := (.ptr 1001 3 [3])) (by rfl) (OpJ.fieldP Try.underlying30 (by rfl) (o := 3) (by rfl) tyS22 (by decide) (obj := (.box 30 (.d (e_api_Series a0)))) (ltN hN rfl) (Opd.tmp 1 (.ptr 1001 0 []))))
  (OpJs.cons (OpJ.loadB (bt := 30) (c := (.d (e_api_Series a0))) (v := (.d (.list 1 (a0.fOut.map (eI .i64))))) tyS22 (At.dst1 (f := (.list 1 (a0.fOut.map (eI .i64)))) (by rfl) (by rfl) (At.here _) (by first | rfl | omega)) (by rfl) (by rfl) rfl (ltN hN rfl) (Opd.tmp 6 (.ptr 1001 3 [3])))
  (OpJs.cons (OpJ.appendN hB Try.underlying22 tyE3 (nm := 1008) (by decide) (ys := a0.fOut.map (eI .i64)) (len := a0.fOut.length) (by simp) (map_sz (f := (eI .i64)) (fun _ => rfl)) (by rw [List.length_map]; exact lim_mulN hc2 (by decide)) (by rw [List.length_map]; exact lim_leN hc2) (ltN hN rfl) Opd.nils (Opd.tmp 7 (.d (.list 1 (a0.fOut.map (eI .i64))))))
  (OpJs.cons (OpJ.val (v' := (.ptr 1001 2 [2])) (by rfl) (OpJ.fieldP Try.underlying30 (by rfl) (o := 2) (by rfl) tyS22 (by decide) (obj := (.box 30 (.d (e_api_Series a0)))) (ltN hN rfl) (Opd.tmp 1 (.ptr 1001 0 []))))
  (OpJs.cons (OpJ.storeB (bt := 30) (c := (.d (e_api_Series a0))) (v := (.sref 1005 1 0 a0.fIn.length)) (c' := (.st [(.d (.int .i64 a0.fPort)), (.d (.int .i64 a0.fSeconds)), (.sref 1005 1 0 a0.fIn.length), (.d (.list 1 (a0.fOut.map (eI .i64))))])) tyS22 (SetAt.lift (fs := [(.int .i64 a0.fPort), (.int .i64 a0.fSeconds), (.list 1 (a0.fIn.map (eI .i64))), (.list 1 (a0.fOut.map (eI .i64)))]) (SetAt.st1 (by rfl) (by rfl) (SetAt.here _ _) (by rfl) (by rfl) (by first | rfl | omega))) (by rfl) (by rfl) (by simp) rfl (Opd.tmp 9 (.ptr 1001 2 [2])) (Opd.tmp 5 (.sref 1005 1 0 a0.fIn.length)))
  (OpJs.cons (OpJ.val (v' := (.ptr 1001 3 [3])) (by rfl) (OpJ.fieldP Try.underlying30 (by rfl) (o := 3) (by rfl) tyS22 (by decide) (obj := (.box 30 (.st [(.d (.int .i64 a0.fPort)), (.d (.int .i64 a0.fSeconds)), (.sref 1005 1 0 a0.fIn.length), (.d (.list 1 (a0.fOut.map (eI .i64))))]))) (ltN hN rfl) (Opd.tmp 1 (.ptr 1001 0 []))))
  (OpJs.cons (OpJ.storeB (bt := 30) (c := (.st [(.d (.int .i64 a0.fPort)), (.d (.int .i64 a0.fSeconds)), (.sref 1005 1 0 a0.fIn.length), (.d (.list 1 (a0.fOut.map (eI .i64))))])) (v := (.sref 1008 1 0 a0.fOut.length)) (c' := (.st [(.d (.int .i64 a0.fPort)), (.d (.int .i64 a0.fSeconds)), (.sref 1005 1 0 a0.fIn.length), (.sref 1008 1 0 a0.fOut.length)])) tyS22 (SetAt.st1 (f := (.d (.list 1 (a0.fOut.map (eI .i64))))) (by rfl) (by rfl) (SetAt.here _ _) (by rfl) (by rfl) (by first | rfl | omega)) (by rfl) (by rfl) (by simp) rfl (Opd.tmp 10 (.ptr 1001 3 [3])) (Opd.tmp 8 (.sref 1008 1 0 a0.fOut.length)))
  (OpJs.nil))))))))))) (by kernel_rfl) (by rfl) (by rfl) ?_
  refine seqQ_n ?_
  refine AWp.ghost (Mat.pat [] [(1, (.ptr 1001 0 [])), (2, (.ptr 1002 0 []))] [(1001, some (.box 30 (.st [(.d (.int .i64 a0.fPort)), (.d (.int .i64 a0.fSeconds)), (.sref 1005 1 0 a0.fIn.length), (.sref 1008 1 0 a0.fOut.length)]))), (1002, some (.box 30 (.st [(.d (.int .i64 (0 : Int))), (.d (.int .i64 (0 : Int))), .nils, .nils]))), (1005, some (.row 3 1 (a0.fIn.map (eI .i64)))), (1008, some (.row 3 1 (a0.fOut.map (eI .i64))))] hB (by rfl) (by rfl) (by rfl)) ?_
  refine AWp.seq ?_
  refine AWp.region (OpJs.cons (OpJ.loadB (bt := 30) (c := (.st [(.d (.int .i64 a0.fPort)), (.d (.int .i64 a0.fSeconds)), (.sref 1005 1 0 a0.fIn.length), (.sref 1008 1 0 a0.fOut.length)])) (v := (.st [(.d (.int .i64 a0.fPort)), (.d (.int .i64 a0.fSeconds)), (.sref 1005 1 0 a0.fIn.length), (.sref 1008 1 0 a0.fOut.length)])) tyS30 (At.here _) (by rfl) (by rfl) rfl (ltN hN rfl) (Opd.tmp 1 (.ptr 1001 0 [])))
  (OpJs.cons (OpJ.storeB (bt := 30) (c := (.st [(.d (.int .i64 (0 : Int))), (.d (.int .i64 (0 : Int))), .nils, .nils])) (v := (.st [(.d (.int .i64 a0.fPort)), (.d (.int .i64 a0.fSeconds)), (.sref 1005 1 0 a0.fIn.length), (.sref 1008 1 0 a0.fOut.length)])) (c' := (.st [(.d (.int .i64 a0.fPort)), (.d (.int .i64 a0.fSeconds)), (.sref 1005 1 0 a0.fIn.length), (.sref 1008 1 0 a0.fOut.length)])) tyS30 (SetAt.here _ _) (by rfl) (by rfl) (by simp) rfl (Opd.tmp 2 (.ptr 1002 0 [])) (Opd.tmp 11 (.st [(.d (.int .i64 a0.fPort)), (.d (.int .i64 a0.fSeconds)), (.sref 1005 1 0 a0.fIn.length), (.sref 1008 1 0 a0.fOut.length)])))
  (OpJs.nil))) (by rfl) (by rfl) ?_
  refine seqQ_n ?_
  refine AWp.ghost (Mat.pat [] [(2, (.ptr 1002 0 []))] [(1002, some (.box 30 (.st [(.d (.int .i64 a0.fPort)), (.d (.int .i64 a0.fSeconds)), (.sref 1005 1 0 a0.fIn.length), (.sref 1008 1 0 a0.fOut.length)]))), (1005, some (.row 3 1 (a0.fIn.map (eI .i64)))), (1008, some (.row 3 1 (a0.fOut.map (eI .i64))))] hB (by rfl) (by rfl) (by rfl)) ?_
  refine AWp.ret ?_
  obtain rfl := Option.some.inj h
  exact ⟨.inl rfl, _, _, (Mat.trans (Mat.freezeP (n := 1005) (e := 3) (sz := 1) (es := a0.fIn.map (eI .i64)) (Ts := []) (Bs := [(1002, some (.box 30 (.st [(.d (.int .i64 a0.fPort)), (.d (.int .i64 a0.fSeconds)), (.d (.list 1 (a0.fIn.map (eI .i64)))), (.sref 1008 1 0 a0.fOut.length)])))]) (by rfl) TwT.nil (TwB.cons (x := (.st [(.d (.int .i64 a0.fPort)), (.d (.int .i64 a0.fSeconds)), (.sref 1005 1 0 a0.fIn.length), (.sref 1008 1 0 a0.fOut.length)])) (by rfl) (Tw.st (TwL.cons (Tw.same _) (TwL.cons (Tw.same _) (TwL.cons (FrzL.all (by first | rfl | (simp; done) | (simp; omega))) (TwL.cons (Tw.same _) TwL.nil))))) TwB.nil)) (Mat.trans (Mat.freezeP (n := 1008) (e := 3) (sz := 1) (es := a0.fOut.map (eI .i64)) (Ts := []) (Bs := [(1002, some (.box 30 (.st [(.d (.int .i64 a0.fPort)), (.d (.int .i64 a0.fSeconds)), (.d (.list 1 (a0.fIn.map (eI .i64)))), (.d (.list 1 (a0.fOut.map (eI .i64))))])))]) (by rfl) TwT.nil (TwB.cons (x := (.st [(.d (.int .i64 a0.fPort)), (.d (.int .i64 a0.fSeconds)), (.d (.list 1 (a0.fIn.map (eI .i64)))), (.sref 1008 1 0 a0.fOut.length)])) (by rfl) (Tw.st (TwL.cons (Tw.same _) (TwL.cons (Tw.same _) (TwL.cons (Tw.same _) (TwL.cons (FrzL.all (by first | rfl | (simp; done) | (simp; omega))) TwL.nil))))) TwB.nil)) (Mat.trans (Mat.coeP (Ts := []) (Bs := [(1002, some (.box 30 (.d (.st [(.int .i64 a0.fPort), (.int .i64 a0.fSeconds), (.list 1 (a0.fIn.map (eI .i64))), (.list 1 (a0.fOut.map (eI .i64)))]))))]) TwT.nil (TwB.cons (x := (.st [(.d (.int .i64 a0.fPort)), (.d (.int .i64 a0.fSeconds)), (.d (.list 1 (a0.fIn.map (eI .i64)))), (.d (.list 1 (a0.fOut.map (eI .i64))))])) (by rfl) (Tw.leaf ⟨_, (Co.st (CoL.cons (Co.d _) (CoL.cons (Co.d _) (CoL.cons (Co.d _) (CoL.cons (Co.d _) CoL.nil))))), rfl⟩) TwB.nil)) (Mat.pat [] [(2, (.ptr 1002 0 []))] [(1002, some (.box 30 (.d (.st [(.int .i64 a0.fPort), (.int .i64 a0.fSeconds), (.list 1 (a0.fIn.map (eI .i64))), (.list 1 (a0.fOut.map (eI .i64)))]))))] hB (by rfl) (by rfl) (by rfl))))), [(.d (.st [(.int .i64 a0.fPort), (.int .i64 a0.fSeconds), (.list 1 (a0.fIn.map (eI .i64))), (.list 1 (a0.fOut.map (eI .i64)))]))], (Res.cell (c := (.d (.st [(.int .i64 a0.fPort), (.int .i64 a0.fSeconds), (.list 1 (a0.fIn.map (eI .i64))), (.list 1 (a0.fOut.map (eI .i64)))]))) (by rfl) (by rfl) tyS30 (by rfl) (by rfl) (by rfl) Res.nil), rfl, by rfl, by rfl, by rfl⟩

noncomputable def exchangepointref40_Copy_2 (a0 : api_Series) : Option (api_Series) :=
  chk (decide (a0.fIn.length ≤ LIM)) <|
  chk (decide (a0.fOut.length ≤ LIM)) <|
  some (api_Series.mk a0.fPort a0.fSeconds a0.fIn a0.fOut)
set_option maxHeartbeats 4000000 in
set_option maxRecDepth 100000 in
theorem exchangepointref40_Copy_2_ac (a0 : api_Series) (r : api_Series) (h : exchangepointref40_Copy_2 a0 = some r) : AC Try.prog 13 [(.d (e_api_Series a0))] [] (.st [(.d (.int .i64 r.fPort)), (.d (.int .i64 r.fSeconds)), (.sref 900000 1 0 r.fIn.length), (.d (.list 1 (r.fOut.map (eI .i64))))]) [(900000, some (.row 3 1 (r.fIn.map (eI .i64))))] := by
  refine AC.of_code2 Try.func13 rfl rfl (Nat.le_of_ble_eq_true (by rfl)) fun B hB hN => ?_
  delta exchangepointref40_Copy_2 at h
  refine AWp.seq ?_
  refine AWp.region (OpJs.cons (OpJ.box hB (nm := 1001) (by decide) (by simp) rfl (ltN hN rfl) (Opd.tmp 0 (.d (e_api_Series a0))))
  (OpJs.cons (OpJ.alloc hB tyZ30 (nm := 1002) (by decide) (ltN hN rfl))
  (OpJs.nil))) (by rfl) (by rfl) ?_
  refine seqQ_n ?_
  refine AWp.ghost (Mat.pat [] [(1, (.ptr 1001 0 [])), (2, (.ptr 1002 0 []))] [(1001, some (.box 30 (.d (e_api_Series a0)))), (1002, some (.box 30 (.st [(.d (.int .i64 (0 : Int))), (.d (.int .i64 (0 : Int))), .nils, .nils])))] hB (by rfl) (by rfl) (by rfl)) ?_
  refine AWp.seq ?_
  obtain ⟨hc1, h⟩ := chk_some h
  obtain ⟨hc2, h⟩ := chk_some h
  refine AWp.draws (by kernel_rfl) (OpJs.cons (OpJ.val (v' := (.ptr 1001 2 [2])) (by rfl) (OpJ.fieldP Try.underlying30 (by rfl) (o := 2) (by rfl) tyS22 (by decide) (obj := (.box 30 (.d (e_api_Series a0)))) (ltN hN rfl) (Opd.tmp 1 (.ptr 1001 0 []))))
  (OpJs.cons (OpJ.loadB (bt := 30) (c := (.d (e_api_Series a0))) (v := (.d (.list 1 (a0.fIn.map (eI .i64))))) tyS22 (At.dst1 (f := (.list 1 (a0.fIn.map (eI .i64)))) (by rfl) (by rfl) (At.here _) (by first | rfl | omega)) (by rfl) (by rfl) rfl (ltN hN rfl) (Opd.tmp 3 (.ptr 1001 2 [2])))
  (OpJs.cons (OpJ.appendN hB Try.underlying22 tyE3 (nm := 1005) (by decide) (ys := a0.fIn.map (eI .i64)) (len := a0.fIn.length) (by simp) (map_sz (f := (eI .i64)) (fun _ => rfl)) (by rw [List.length_map]; exact lim_mulN hc1 (by decide)) (by rw [List.length_map]; exact lim_leN hc1) (ltN hN rfl) Opd.nils (Opd.tmp 4 (.d (.list 1 (a0.fIn.map (eI .i64))))))
  (OpJs.cons (OpJ.val (v' := (.ptr 1001 3 [3])) (by rfl) (OpJ.fieldP Try.underlying30 (by rfl) (o := 3) (by rfl) tyS22 (by decide) (obj := (.box 30 (.d (e_api_Series a0)))) (ltN hN rfl) (Opd.tmp 1 (.ptr 1001 0 []))))
  (OpJs.cons (OpJ.loadB (bt := 30) (c := (.d (e_api_Series a0))) (v := (.d (.list 1 (a0.fOut.map (eI .i64))))) tyS22 (At.dst1 (f := (.list 1 (a0.fOut.map (eI .i64)))) (by rfl) (by rfl) (At.here _) (by first | rfl | omega)) (by rfl) (by rfl) rfl (ltN hN rfl) (Opd.tmp 6 (.ptr 1001 3 [3])))
  (OpJs.cons (OpJ.appendN hB Try.underlying22 tyE3 (nm := 1008) (by decide) (ys := a0.fOut.map (eI .i64)) (len := a0.fOut.length) (by simp) (map_sz (f := (eI .i64)) (fun _ => rfl)) (by rw [List.length_map]; exact lim_mulN hc2 (by decide)) (by rw [List.length_map]; exact lim_leN hc2) (ltN hN rfl) Opd.nils (Opd.tmp 7 (.d (.list 1 (a0.fOut.map (eI .i64))))))
  (OpJs.cons (OpJ.val (v' := (.ptr 1001 2 [2])) (by rfl) (OpJ.fieldP Try.underlying30 (by rfl) (o := 2) (by rfl) tyS22 (by decide) (obj := (.box 30 (.d (e_api_Series a0)))) (ltN hN rfl) (Opd.tmp 1 (.ptr 1001 0 []))))
  (OpJs.cons (OpJ.storeB (bt := 30) (c := (.d (e_api_Series a0))) (v := (.sref 1005 1 0 a0.fIn.length)) (c' := (.st [(.d (.int .i64 a0.fPort)), (.d (.int .i64 a0.fSeconds)), (.sref 1005 1 0 a0.fIn.length), (.d (.list 1 (a0.fOut.map (eI .i64))))])) tyS22 (SetAt.lift (fs := [(.int .i64 a0.fPort), (.int .i64 a0.fSeconds), (.list 1 (a0.fIn.map (eI .i64))), (.list 1 (a0.fOut.map (eI .i64)))]) (SetAt.st1 (by rfl) (by rfl) (SetAt.here _ _) (by rfl) (by rfl) (by first | rfl | omega))) (by rfl) (by rfl) (by simp) rfl (Opd.tmp 9 (.ptr 1001 2 [2])) (Opd.tmp 5 (.sref 1005 1 0 a0.fIn.length)))
  (OpJs.cons (OpJ.val (v' := (.ptr 1001 3 [3])) (by rfl) (OpJ.fieldP Try.underlying30 (by rfl) (o := 3) (by rfl) tyS22 (by decide) (obj := (.box 30 (.st [(.d (.int .i64 a0.fPort)), (.d (.int .i64 a0.fSeconds)), (.sref 1005 1 0 a0.fIn.length), (.d (.list 1 (a0.fOut.map (eI .i64))))]))) (ltN hN rfl) (Opd.tmp 1 (.ptr 1001 0 []))))
  (OpJs.cons (OpJ.storeB (bt := 30) (c := (.st [(.d (.int .i64 a0.fPort)), (.d (.int .i64 a0.fSeconds)), (.sref 1005 1 0 a0.fIn.length), (.d (.list 1 (a0.fOut.map (eI .i64))))])) (v := (.sref 1008 1 0 a0.fOut.length)) (c' := (.st [(.d (.int .i64 a0.fPort)), (.d (.int .i64 a0.fSeconds)), (.sref 1005 1 0 a0.fIn.length), (.sref 1008 1 0 a0.fOut.length)])) tyS22 (SetAt.st1 (f := (.d (.list 1 (a0.fOut.map (eI .i64))))) (by rfl) (by rfl) (SetAt.here _ _) (by rfl) (by rfl) (by first | rfl | omega)) (by rfl) (by rfl) (by simp) rfl (Opd.tmp 10 (.ptr 1001 3 [3])) (Opd.tmp 8 (.sref 1008 1 0 a0.fOut.length)))
  (OpJs.nil))))))))))) (by kernel_rfl) (by rfl) (by rfl) ?_
  refine seqQ_n ?_
  refine AWp.ghost (Mat.pat [] [(1, (.ptr 1001 0 [])), (2, (.ptr 1002 0 []))] [(1001, some (.box 30 (.st [(.d (.int .i64 a0.fPort)), (.d (.int .i64 a0.fSeconds)), (.sref 1005 1 0 a0.fIn.length), (.sref 1008 1 0 a0.fOut.length)]))), (1002, some (.box 30 (.st [(.d (.int .i64 (0 : Int))), (.d (.int .i64 (0 : Int))), .nils, .nils]))), (1005, some (.row 3 1 (a0.fIn.map (eI .i64)))), (1008, some (.row 3 1 (a0.fOut.map (eI .i64))))] hB (by rfl) (by rfl) (by rfl)) ?_
  refine AWp.seq ?_
  refine AWp.region (OpJs.cons (OpJ.loadB (bt := 30) (c := (.st [(.d (.int .i64 a0.fPort)), (.d (.int .i64 a0.fSeconds)), (.sref 1005 1 0 a0.fIn.length), (.sref 1008 1 0 a0.fOut.length)])) (v := (.st [(.d (.int .i64 a0.fPort)), (.d (.int .i64 a0.fSeconds)), (.sref 1005 1 0 a0.fIn.length), (.sref 1008 1 0 a0.fOut.length)])) tyS30 (At.here _) (by rfl) (by rfl) rfl (ltN hN rfl) (Opd.tmp 1 (.ptr 1001 0 [])))
  (OpJs.cons (OpJ.storeB (bt := 30) (c := (.st [(.d (.int .i64 (0 : Int))), (.d (.int .i64 (0 : Int))), .nils, .nils])) (v := (.st [(.d (.int .i64 a0.fPort)), (.d (.int .i64 a0.fSeconds)), (.sref 1005 1 0 a0.fIn.length), (.sref 1008 1 0 a0.fOut.length)])) (c' := (.st [(.d (.int .i64 a0.fPort)), (.d (.int .i64 a0.fSeconds)), (.sref 1005 1 0 a0.fIn.length), (.sref 1008 1 0 a0.fOut.length)])) tyS30 (SetAt.here _ _) (by rfl) (by rfl) (by simp) rfl (Opd.tmp 2 (.ptr 1002 0 [])) (Opd.tmp 11 (.st [(.d (.int .i64 a0.fPort)), (.d (.int .i64 a0.fSeconds)), (.sref 1005 1 0 a0.fIn.length), (.sref 1008 1 0 a0.fOut.length)])))
  (OpJs.nil))) (by rfl) (by rfl) ?_
  refine seqQ_n ?_
  refine AWp.ghost (Mat.pat [] [(2, (.ptr 1002 0 []))] [(1002, some (.box 30 (.st [(.d (.int .i64 a0.fPort)), (.d (.int .i64 a0.fSeconds)), (.sref 1005 1 0 a0.fIn.length), (.sref 1008 1 0 a0.fOut.length)]))), (1005, some (.row 3 1 (a0.fIn.map (eI .i64)))), (1008, some (.row 3 1 (a0.fOut.map (eI .i64))))] hB (by rfl) (by rfl) (by rfl)) ?_
  refine AWp.ret ?_
  obtain rfl := Option.some.inj h
  exact ⟨.inl rfl, _, _, (Mat.trans (Mat.freezeP (n := 1008) (e := 3) (sz := 1) (es := a0.fOut.map (eI .i64)) (Ts := []) (Bs := [(1002, some (.box 30 (.st [(.d (.int .i64 a0.fPort)), (.d (.int .i64 a0.fSeconds)), (.sref 1005 1 0 a0.fIn.length), (.d (.list 1 (a0.fOut.map (eI .i64))))])))]) (by rfl) TwT.nil (TwB.cons (x := (.st [(.d (.int .i64 a0.fPort)), (.d (.int .i64 a0.fSeconds)), (.sref 1005 1 0 a0.fIn.length), (.sref 1008 1 0 a0.fOut.length)])) (by rfl) (Tw.st (TwL.cons (Tw.same _) (TwL.cons (Tw.same _) (TwL.cons (Tw.same _) (TwL.cons (FrzL.all (by first | rfl | (simp; done) | (simp; omega))) TwL.nil))))) TwB.nil)) (Mat.pat [(900000, 1005)] [(2, (.ptr 1002 0 []))] [(1002, some (.box 30 (.st [(.d (.int .i64 a0.fPort)), (.d (.int .i64 a0.fSeconds)), (.sref 900000 1 0 a0.fIn.length), (.d (.list 1 (a0.fOut.map (eI .i64))))]))), (900000, some (.row 3 1 (a0.fIn.map (eI .i64))))] hB (by rfl) (by rfl) (by rfl))), [(.st [(.d (.int .i64 a0.fPort)), (.d (.int .i64 a0.fSeconds)), (.sref 900000 1 0 a0.fIn.length), (.d (.list 1 (a0.fOut.map (eI .i64))))])], (Res.cell (c := (.st [(.d (.int .i64 a0.fPort)), (.d (.int .i64 a0.fSeconds)), (.sref 900000 1 0 a0.fIn.length), (.d (.list 1 (a0.fOut.map (eI .i64))))])) (by rfl) (by rfl) tyS30 (by rfl) (by rfl) (by rfl) Res.nil), rfl, by rfl, by rfl, by rfl⟩

noncomputable def exchangepointref40_Copy_3 (a0 : api_Series) : Option (api_Series) :=
  chk (decide (a0.fIn.length ≤ LIM)) <|
  chk (decide (a0.fOut.length ≤ LIM)) <|
  some (api_Series.mk a0.fPort a0.fSeconds a0.fIn a0.fOut)
set_option maxHeartbeats 4000000 in
set_option maxRecDepth 100000 in
theorem exchangepointref40_Copy_3_ac (a0 : api_Series) (r : api_Series) (h : exchangepointref40_Copy_3 a0 = some r) : AC Try.prog 13 [(.d (e_api_Series a0))] [] (.st [(.d (.int .i64 r.fPort)), (.d (.int .i64 r.fSeconds)), (.sref 900000 1 0 r.fIn.length), (.sref 900001 1 0 r.fOut.length)]) [(900000, some (.row 3 1 (r.fIn.map (eI .i64)))), (900001, some (.row 3 1 (r.fOut.map (eI .i64))))] := by
  refine AC.of_code2 Try.func13 rfl rfl (Nat.le_of_ble_eq_true (by rfl)) fun B hB hN => ?_
  delta exchangepointref40_Copy_3 at h
  refine AWp.seq ?_
  refine AWp.region (OpJs.cons (OpJ.box hB (nm := 1001) (by decide) (by simp) rfl (ltN hN rfl) (Opd.tmp 0 (.d (e_api_Series a0))))
  (OpJs.cons (OpJ.alloc hB tyZ30 (nm := 1002) (by decide) (ltN hN rfl))
  (OpJs.nil))) (by rfl) (by rfl) ?_
  refine seqQ_n ?_
  refine AWp.ghost (Mat.pat [] [(1, (.ptr 1001 0 [])), (2, (.ptr 1002 0 []))] [(1001, some (.box 30 (.d (e_api_Series a0)))), (1002, some (.box 30 (.st [(.d (.int .i64 (0 : Int))), (.d (.int .i64 (0 : Int))), .nils, .nils])))] hB (by rfl) (by rfl) (by rfl)) ?_
  refine AWp.seq ?_
  obtain ⟨hc1, h⟩ := chk_some h
  obtain ⟨hc2, h⟩ := chk_some h
  refine AWp.draws (by kernel_rfl) (OpJs.cons (OpJ.val (v' := (.ptr 1001 2 [2])) (by rfl) (OpJ.fieldP Try.underlying30 (by rfl) (o := 2) (by rfl) tyS22 (by decide) (obj := (.box 30 (.d (e_api_Series a0)))) (ltN hN rfl) (Opd.tmp 1 (.ptr 1001 0 []))))
  (OpJs.cons (OpJ.loadB (bt := 30) (c := (.d (e_api_Series a0))) (v := (.d (.list 1 (a0.fIn.map (eI .i64))))) tyS22 (At.dst1 (f := (.list 1 (a0.fIn.map (eI .i64)))) (by rfl) (by rfl) (At.here _) (by first | rfl | omega)) (by rfl) (by rfl) rfl (ltN hN rfl) (Opd.tmp 3 (.ptr 1001 2 [2])))
  (OpJs.cons (OpJ.appendN hB Try.underlying22 tyE3 (nm := 1005) (by decide) (ys := a0.fIn.map (eI .i64)) (len := a0.fIn.length) (by simp) (map_sz (f := (eI .i64)) (fun _ => rfl)) (by rw [List.length_map]; exact lim_mulN hc1 (by decide)) (by rw [List.length_map]; exact lim_leN hc1) (ltN hN rfl) Opd.nils (Opd.tmp 4 (.d (.list 1 (a0.fIn.map (eI .i64))))))
  (OpJs.cons (OpJ.val (v' := (.ptr 1001 3 [3])) (by rfl) (OpJ.fieldP Try.underlying30 (by rfl) (o := 3) (by rfl) tyS22 (by decide) (obj := (.box 30 (.d (e_api_Series a0)))) (ltN hN rfl) (Opd.tmp 1 (.ptr 1001 0 []))))
  (OpJs.cons (OpJ.loadB (bt := 30) (c := (.d (e_api_Series a0))) (v := (.d (.list 1 (a0.fOut.map (eI .i64))))) tyS22 (At.dst1 (f := (.list 1 (a0.fOut.map (eI .i64)))) (by rfl) (by rfl) (At.here _) (by first | rfl | omega)) (by rfl) (by rfl) rfl (ltN hN rfl) (Opd.tmp 6 (.ptr 1001 3 [3])))
  (OpJs.cons (OpJ.appendN hB Try.underlying22 tyE3 (nm := 1008) (by decide) (ys := a0.fOut.map (eI .i64)) (len := a0.fOut.length) (by simp) (map_sz (f := (eI .i64)) (fun _ => rfl)) (by rw [List.length_map]; exact lim_mulN hc2 (by decide)) (by rw [List.length_map]; exact lim_leN hc2) (ltN hN rfl) Opd.nils (Opd.tmp 7 (.d (.list 1 (a0.fOut.map (eI .i64))))))
  (OpJs.cons (OpJ.val (v' := (.ptr 1001 2 [2])) (by rfl) (OpJ.fieldP Try.underlying30 (by rfl) (o := 2) (by rfl) tyS22 (by decide) (obj := (.box 30 (.d (e_api_Series a0)))) (ltN hN rfl) (Opd.tmp 1 (.ptr 1001 0 []))))
  (OpJs.cons (OpJ.storeB (bt := 30) (c := (.d (e_api_Series a0))) (v := (.sref 1005 1 0 a0.fIn.length)) (c' := (.st [(.d (.int .i64 a0.fPort)), (.d (.int .i64 a0.fSeconds)), (.sref 1005 1 0 a0.fIn.length), (.d (.list 1 (a0.fOut.map (eI .i64))))])) tyS22 (SetAt.lift (fs := [(.int .i64 a0.fPort), (.int .i64 a0.fSeconds), (.list 1 (a0.fIn.map (eI .i64))), (.list 1 (a0.fOut.map (eI .i64)))]) (SetAt.st1 (by rfl) (by rfl) (SetAt.here _ _) (by rfl) (by rfl) (by first | rfl | omega))) (by rfl) (by rfl) (by simp) rfl (Opd.tmp 9 (.ptr 1001 2 [2])) (Opd.tmp 5 (.sref 1005 1 0 a0.fIn.length)))
  (OpJs.cons (OpJ.val (v' := (.ptr 1001 3 [3])) (by rfl) (OpJ.fieldP Try.underlying30 (by rfl) (o := 3) (by rfl) tyS22 (by decide) (obj := (.box 30 (.st [(.d (.int .i64 a0.fPort)), (.d (.int .i64 a0.fSeconds)), (.sref 1005 1 0 a0.fIn.length), (.d (.list 1 (a0.fOut.map (eI .i64))))]))) (ltN hN rfl) (Opd.tmp 1 (.ptr 1001 0 []))))
  (OpJs.cons (OpJ.storeB (bt := 30) (c := (.st [(.d (.int .i64 a0.fPort)), (.d (.int .i64 a0.fSeconds)), (.sref 1005 1 0 a0.fIn.length), (.d (.list 1 (a0.fOut.map (eI .i64))))])) (v := (.sref 1008 1 0 a0.fOut.length)) (c' := (.st [(.d (.int .i64 a0.fPort)), (.d (.int .i64 a0.fSeconds)), (.sref 1005 1 0 a0.fIn.length), (.sref 1008 1 0 a0.fOut.length)])) tyS22 (SetAt.st1 (f := (.d (.list 1 (a0.fOut.map (eI .i64))))) (by rfl) (by rfl) (SetAt.here _ _) (by rfl) (by rfl) (by first | rfl | omega)) (by rfl) (by rfl) (by simp) rfl (Opd.tmp 10 (.ptr 1001 3 [3])) (Opd.tmp 8 (.sref 1008 1 0 a0.fOut.length)))
  (OpJs.nil))))))))))) (by kernel_rfl) (by rfl) (by rfl) ?_
  refine seqQ_n ?_
  refine AWp.ghost (Mat.pat [] [(1, (.ptr 1001 0 [])), (2, (.ptr 1002 0 []))] [(1001, some (.box 30 (.st [(.d (.int .i64 a0.fPort)), (.d (.int .i64 a0.fSeconds)), (.sref 1005 1 0 a0.fIn.length), (.sref 1008 1 0 a0.fOut.length)]))), (1002, some (.box 30 (.st [(.d (.int .i64 (0 : Int))), (.d (.int .i64 (0 : Int))), .nils, .nils]))), (1005, some (.row 3 1 (a0.fIn.map (eI .i64)))), (1008, some (.row 3 1 (a0.fOut.map (eI .i64))))] hB (by rfl) (by rfl) (by rfl)) ?_
  refine AWp.seq ?_
  refine AWp.region (OpJs.cons (OpJ.loadB (bt := 30) (c := (.st [(.d (.int .i64 a0.fPort)), (.d (.int .i64 a0.fSeconds)), (.sref 1005 1 0 a0.fIn.length), (.sref 1008 1 0 a0.fOut.length)])) (v := (.st [(.d (.int .i64 a0.fPort)), (.d (.int .i64 a0.fSeconds)), (.sref 1005 1 0 a0.fIn.length), (.sref 1008 1 0 a0.fOut.length)])) tyS30 (At.here _) (by rfl) (by rfl) rfl (ltN hN rfl) (Opd.tmp 1 (.ptr 1001 0 [])))
  (OpJs.cons (OpJ.storeB (bt := 30) (c := (.st [(.d (.int .i64 (0 : Int))), (.d (.int .i64 (0 : Int))), .nils, .nils])) (v := (.st [(.d (.int .i64 a0.fPort)), (.d (.int .i64 a0.fSeconds)), (.sref 1005 1 0 a0.fIn.length), (.sref 1008 1 0 a0.fOut.length)])) (c' := (.st [(.d (.int .i64 a0.fPort)), (.d (.int .i64 a0.fSeconds)), (.sref 1005 1 0 a0.fIn.length), (.sref 1008 1 0 a0.fOut.length)])) tyS30 (SetAt.here _ _) (by rfl) (by rfl) (by simp) rfl (Opd.tmp 2 (.ptr 1002 0 [])) (Opd.tmp 11 (.st [(.d (.int .i64 a0.fPort)), (.d (.int .i64 a0.fSeconds)), (.sref 1005 1 0 a0.fIn.length), (.sref 1008 1 0 a0.fOut.length)])))
  (OpJs.nil))) (by rfl) (by rfl) ?_
  refine seqQ_n ?_
  refine AWp.ghost (Mat.pat [] [(2, (.ptr 1002 0 []))] [(1002, some (.box 30 (.st [(.d (.int .i64 a0.fPort)), (.d (.int .i64 a0.fSeconds)), (.sref 1005 1 0 a0.fIn.length), (.sref 1008 1 0 a0.fOut.length)]))), (1005, some (.row 3 1 (a0.fIn.map (eI .i64)))), (1008, some (.row 3 1 (a0.fOut.map (eI .i64))))] hB (by rfl) (by rfl) (by rfl)) ?_
  refine AWp.ret ?_
  obtain rfl := Option.some.inj h
  exact ⟨.inl rfl, _, _, (Mat.pat [(900000, 1005), (900001, 1008)] [(2, (.ptr 1002 0 []))] [(1002, some (.box 30 (.st [(.d (.int .i64 a0.fPort)), (.d (.int .i64 a0.fSeconds)), (.sref 900000 1 0 a0.fIn.length), (.sref 900001 1 0 a0.fOut.length)]))), (900000, some (.row 3 1 (a0.fIn.map (eI .i64)))), (900001, some (.row 3 1 (a0.fOut.map (eI .i64))))] hB (by rfl) (by rfl) (by rfl)), [(.st [(.d (.int .i64 a0.fPort)), (.d (.int .i64 a0.fSeconds)), (.sref 900000 1 0 a0.fIn.length), (.sref 900001 1 0 a0.fOut.length)])], (Res.cell (c := (.st [(.d (.int .i64 a0.fPort)), (.d (.int .i64 a0.fSeconds)), (.sref 900000 1 0 a0.fIn.length), (.sref 900001 1 0 a0.fOut.length)])) (by rfl) (by rfl) tyS30 (by rfl) (by rfl) (by rfl) Res.nil), rfl, by rfl, by rfl, by rfl⟩

noncomputable def percentile_bin (a0 : Int) : Option (Bool) :=
  some ((decide ((-1 : Int) ≤ a0)) && (decide (a0 ≤ (1125899906842624 : Int))))
set_option maxHeartbeats 4000000 in
set_option maxRecDepth 100000 in
theorem percentile_bin_ac (a0 : Int) (r : Bool) (h : percentile_bin a0 = some r) : AC Try.prog 36 [(.d (.int .i64 a0))] [] (.d (.bool r)) [] := by
  refine AC.of_code2 Try.func36 rfl rfl (Nat.le_of_ble_eq_true (by rfl)) fun B hB hN => ?_
  delta percentile_bin at h
  refine AWp.seq ?_
  refine AWp.region (OpJs.cons (OpJ.assign (ltN hN rfl) (Opd.bool false))
  (OpJs.nil)) (by rfl) (by rfl) ?_
  refine seqQ_n ?_
  refine AWp.ghost (Mat.pat [] [(0, (.d (.int .i64 a0)))] [] hB (by rfl) (by rfl) (by rfl)) ?_
  refine AWp.seq ?_
  refine AWp.region (OpJs.cons (OpJ.move (ltN hN rfl) (Opd.tmp 0 (.d (.int .i64 a0))))
  (OpJs.cons (OpJ.geq (ltN hN rfl) (Opd.tmp 3 (.d (.int .i64 a0))) (Opd.int .i64 (-1)))
  (OpJs.cons (OpJ.move (ltN hN rfl) (Opd.tmp 4 (.d (.bool (decide ((-1 : Int) ≤ a0))))))
  (OpJs.cons (OpJ.opt' (v := (.d (.int .i64 a0))) (OpJ.move (ltN hN rfl) (Opd.tmp 0 (.d (.int .i64 a0)))) (by rfl) (GuardV.plain _) (ltN hN rfl) (by rfl) (by rfl) (by rfl) (by rfl) (OptL.keep rfl OptL.nil))
  (OpJs.cons (OpJ.opt' (v := (.d (.bool (decide (a0 ≤ (1125899906842624 : Int)))))) (OpJ.leq (ltN hN rfl) (Opd.tmp 6 (.d (.int .i64 a0))) (Opd.int .i64 (1125899906842624))) (by rfl) (GuardV.plain _) (ltN hN rfl) (by rfl) (by rfl) (by rfl) (by rfl) (OptL.opt OptL.nil))
  (OpJs.cons (OpJ.pickAnd rfl (ltN hN rfl) (Opd.tmp 5 (.d (.bool (decide ((-1 : Int) ≤ a0))))) (Opd.tmp 7 (.opt ((decide ((-1 : Int) ≤ a0)) == true) (.d (.bool (decide (a0 ≤ (1125899906842624 : Int))))))))
  (OpJs.cons (OpJ.assign (ltN hN rfl) (Opd.tmp 8 (.d (.bool ((decide ((-1 : Int) ≤ a0)) && (decide (a0 ≤ (1125899906842624 : Int))))))))
  (OpJs.nil)))))))) (by rfl) (by rfl) ?_
  refine seqQ_n ?_
  refine AWp.ghost (Mat.pat [] [(2, (.d (.bool ((decide ((-1 : Int) ≤ a0)) && (decide (a0 ≤ (1125899906842624 : Int)))))))] [] hB (by rfl) (by rfl) (by rfl)) ?_
  refine AWp.ret ?_
  obtain rfl := Option.some.inj h
  exact ⟨.inl rfl, _, _, (Mat.pat [] [(2, (.d (.bool ((decide ((-1 : Int) ≤ a0)) && (decide (a0 ≤ (1125899906842624 : Int)))))))] [] hB (by rfl) (by rfl) (by rfl)), [(.d (.bool ((decide ((-1 : Int) ≤ a0)) && (decide (a0 ≤ (1125899906842624 : Int))))))], (Res.tmp (by rfl) (by rfl) Res.nil), rfl, by rfl, by rfl, by rfl⟩

noncomputable def percentile_Valid_L0 (a0 : api_Series) (s6 : Int) : Option (((Unit) ⊕ (Unit)) ⊕ (Int)) :=
  (if (decide (s6 < (a0.fIn.length : Int))) = true then
  jn (fun m64 : Bool =>
  (if m64 = true then
  some (.inl (.inl ()))
  else
  some (.inr (w64 (s6 + (1 : Int)))))) (fun j65 =>
  (idx a0.fIn s6).bind fun x67 =>
  (percentile_bin x67).bind fun r68 =>
  (if (!r68) = true then
  j65 true
  else
  (idx a0.fOut s6).bind fun x70 =>
  (percentile_bin x70).bind fun r71 =>
  (if (!r71) = true then
  j65 true
  else
  (idx a0.fIn s6).bind fun x73 =>
  (idx a0.fOut s6).bind fun x74 =>
  j65 ((x73 == (-1 : Int)) != (x74 == (-1 : Int))))))
  else
  some (.inl (.inr ())))
noncomputable def percentile_Valid (a0 : api_Series) : Option (Bool) :=
  jn (fun m3 : Bool =>
  (if m3 = true then
  some false
  else
  (loop (percentile_Valid_L0 a0) (0 : Int)).bind fun x75 => match x75 with
  | (.inl _) =>
    some false
  | (.inr _) =>
    some true)) (fun j4 =>
  (if ((decide (a0.fPort < (1 : Int))) || (decide ((999 : Int) < a0.fPort))) = true then
  j4 true
  else
  (percentile_length a0.fSeconds).bind fun r78 =>
  j4 (((!r78) || ((a0.fIn.length : Int) != (a0.fOut.length : Int))) || (decide ((9000 : Int) < (a0.fIn.length : Int))))))
set_option maxHeartbeats 4000000 in
set_option maxRecDepth 100000 in
theorem percentile_Valid_ac (a0 : api_Series) (r : Bool) (h : percentile_Valid a0 = some r) : AC Try.prog 16 [(.d (e_api_Series a0))] [] (.d (.bool r)) [] := by
  refine AC.of_code2 Try.func16 rfl rfl (Nat.le_of_ble_eq_true (by rfl)) fun B hB hN => ?_
  delta percentile_Valid at h
  refine AWp.seq ?_
  refine AWp.region (OpJs.cons (OpJ.box hB (nm := 1001) (by decide) (by simp) rfl (ltN hN rfl) (Opd.tmp 0 (.d (e_api_Series a0))))
  (OpJs.cons (OpJ.assign (ltN hN rfl) (Opd.bool false))
  (OpJs.nil))) (by rfl) (by rfl) ?_
  refine seqQ_n ?_
  refine AWp.ghost (Mat.pat [] [(1, (.ptr 1001 0 []))] [(1001, some (.box 30 (.d (e_api_Series a0))))] hB (by rfl) (by rfl) (by rfl)) ?_
  refine AWp.seq ?_
  refine AWp.seq ?_
  refine AWp.cut h (fun m3 : Bool => ([(1, (.ptr 1001 0 [])), (32, (.d (.bool m3)))] : EL)) (fun m3 : Bool => ([(1001, some (.box 30 (.d (e_api_Series a0))))] : OL)) (fun m3 h E' O' hmat => ?_) (fun j4 hjj4 h => ?_)
  · refine seqQ_n ?_
    refine AWp.ghost hmat ?_
    refine AWp.cond (b := m3) (by rfl) (fun hg5 => ?_) (fun hg5 => ?_)
    · replace h := ite_t hg5 h
      refine AWp.seq ?_
      refine AWp.region (OpJs.cons (OpJ.assign (ltN hN rfl) (Opd.bool false))
        (OpJs.nil)) (by rfl) (by rfl) ?_
      refine seqQ_n ?_
      refine AWp.ghost (Mat.pat [] [(2, (.d (.bool false)))] [] hB (by rfl) (by rfl) (by rfl)) ?_
      refine AWp.ret ?_
      refine seqQ_r ?_
      obtain rfl := Option.some.inj h
      exact ⟨.inl rfl, _, _, (Mat.pat [] [(2, (.d (.bool false)))] [] hB (by rfl) (by rfl) (by rfl)), [(.d (.bool false))], (Res.tmp (by rfl) (by rfl) Res.nil), rfl, by rfl, by rfl, by rfl⟩
    · replace h := ite_f hg5 h
      refine AWp.skip ?_
      refine seqQ_n ?_
      refine AWp.seq ?_
      refine AWp.seq ?_
      refine AWp.region (OpJs.cons (OpJ.val (v' := (.ptr 1001 2 [2])) (by rfl) (OpJ.fieldP Try.underlying30 (by rfl) (o := 2) (by rfl) tyS22 (by decide) (obj := (.box 30 (.d (e_api_Series a0)))) (ltN hN rfl) (Opd.tmp 1 (.ptr 1001 0 []))))
        (OpJs.cons (OpJ.loadB (bt := 30) (c := (.d (e_api_Series a0))) (v := (.d (.list 1 (a0.fIn.map (eI .i64))))) tyS22 (At.dst1 (f := (.list 1 (a0.fIn.map (eI .i64)))) (by rfl) (by rfl) (At.here _) (by first | rfl | omega)) (by rfl) (by rfl) rfl (ltN hN rfl) (Opd.tmp 33 (.ptr 1001 2 [2])))
        (OpJs.cons (OpJ.val (v' := (.d (.int .i64 (a0.fIn.length : Int)))) (by simp) (OpJ.lenD Try.underlying22 (ltN hN rfl) (Opd.tmp 34 (.d (.list 1 (a0.fIn.map (eI .i64)))))))
        (OpJs.cons (OpJ.move (ltN hN rfl) (Opd.int .i64 (0)))
        (OpJs.nil))))) (by rfl) (by rfl) ?_
      refine seqQ_n ?_
      refine AWp.ghost (Mat.pat [] [(1, (.ptr 1001 0 [])), (35, (.d (.int .i64 (a0.fIn.length : Int)))), (36, (.d (.int .i64 (0 : Int))))] [(1001, some (.box 30 (.d (e_api_Series a0))))] hB (by rfl) (by rfl) (by rfl)) ?_
      refine AWp.block ?_
      obtain ⟨x75, hx76, h⟩ := bindS h
      refine AWp.ghost (Mat.pat [] ((fun s6 : Int => ([(1, (.ptr 1001 0 [])), (35, (.d (.int .i64 (a0.fIn.length : Int)))), (36, (.d (.int .i64 s6)))] : EL)) (0 : Int)) ((fun s6 : Int => ([(1001, some (.box 30 (.d (e_api_Series a0))))] : OL)) (0 : Int)) hB (by rfl) (by rfl) (by rfl)) ?_
      refine AWp.loopS (percentile_Valid_L0 a0) (fun s6 : Int => ([(1, (.ptr 1001 0 [])), (35, (.d (.int .i64 (a0.fIn.length : Int)))), (36, (.d (.int .i64 s6)))] : EL)) (fun s6 : Int => ([(1001, some (.box 30 (.d (e_api_Series a0))))] : OL)) (fun (x : (Unit) ⊕ (Unit)) e E' O' => match x with | (.inl _p) => e = .ret ∧ Mat B E' O' ([(2, (.d (.bool false)))] : EL) ([] : OL) | (.inr _p) => e = .exit 0 ∧ Mat B E' O' ([] : EL) ([] : OL)) hx76 (fun s6 y h => ?_) (fun e E' O' hR => ?_)
      · unfold percentile_Valid_L0 at h
        show AWp _ _ _ _ ([(1, (.ptr 1001 0 [])), (35, (.d (.int .i64 (a0.fIn.length : Int)))), (36, (.d (.int .i64 s6)))] : EL) ([(1001, some (.box 30 (.d (e_api_Series a0))))] : OL)
        refine AWp.seq ?_
        refine AWp.region (OpJs.cons (OpJ.lss (ltN hN rfl) (Opd.tmp 36 (.d (.int .i64 s6))) (Opd.tmp 35 (.d (.int .i64 (a0.fIn.length : Int)))))
          (OpJs.nil)) (by rfl) (by rfl) ?_
        refine seqQ_n ?_
        refine AWp.ghost (Mat.pat [] [(1, (.ptr 1001 0 [])), (35, (.d (.int .i64 (a0.fIn.length : Int)))), (36, (.d (.int .i64 s6))), (37, (.d (.bool (decide (s6 < (a0.fIn.length : Int))))))] [(1001, some (.box 30 (.d (e_api_Series a0))))] hB (by rfl) (by rfl) (by rfl)) ?_
        refine AWp.seq ?_
        refine AWp.cond (b := (decide (s6 < (a0.fIn.length : Int)))) (by rfl) (fun hg53 => ?_) (fun hg53 => ?_)
        · replace h := ite_t hg53 h
          refine AWp.skip ?_
          refine seqQ_n ?_
          refine AWp.seq ?_
          refine AWp.block ?_
          refine AWp.seq ?_
          refine AWp.region (OpJs.cons (OpJ.move (ltN hN rfl) (Opd.tmp 36 (.d (.int .i64 s6))))
            (OpJs.cons (OpJ.assign (ltN hN rfl) (Opd.tmp 38 (.d (.int .i64 s6))))
            (OpJs.nil))) (by rfl) (by rfl) ?_
          refine seqQ_n ?_
          refine AWp.ghost (Mat.pat [] [(1, (.ptr 1001 0 [])), (3, (.d (.int .i64 s6))), (35, (.d (.int .i64 (a0.fIn.length : Int)))), (36, (.d (.int .i64 s6)))] [(1001, some (.box 30 (.d (e_api_Series a0))))] hB (by rfl) (by rfl) (by rfl)) ?_
          refine AWp.seq ?_
          refine AWp.cut h (fun m64 : Bool => ([(1, (.ptr 1001 0 [])), (35, (.d (.int .i64 (a0.fIn.length : Int)))), (36, (.d (.int .i64 s6))), (69, (.d (.bool m64)))] : EL)) (fun m64 : Bool => ([(1001, some (.box 30 (.d (e_api_Series a0))))] : OL)) (fun m64 h E' O' hmat => ?_) (fun j65 hjj65 h => ?_)
          · refine seqQ_n ?_
            refine AWp.ghost hmat ?_
            refine AWp.cond (b := m64) (by rfl) (fun hg66 => ?_) (fun hg66 => ?_)
            · replace h := ite_t hg66 h
              refine AWp.seq ?_
              refine AWp.region (OpJs.cons (OpJ.assign (ltN hN rfl) (Opd.bool false))
                (OpJs.nil)) (by rfl) (by rfl) ?_
              refine seqQ_n ?_
              refine AWp.ghost (Mat.pat [] [(2, (.d (.bool false)))] [] hB (by rfl) (by rfl) (by rfl)) ?_
              refine AWp.ret ?_
              refine blkQ_r ?_
              refine seqQ_r ?_
              obtain rfl := Option.some.inj h
              exact ⟨(fun hc => by cases hc), rfl, (Mat.pat [] ((fun _ : Unit => ([(2, (.d (.bool false)))] : EL)) ()) ((fun _ : Unit => ([] : OL)) ()) hB (by rfl) (by rfl) (by rfl))⟩
            · replace h := ite_f hg66 h
              refine AWp.skip ?_
              refine blkQ_n ?_
              refine seqQ_n ?_
              refine AWp.region (OpJs.cons (OpJ.add (ltN hN rfl) (Opd.tmp 36 (.d (.int .i64 s6))) (Opd.int .i64 (1)))
                (OpJs.cons (OpJ.move (ltN hN rfl) (Opd.tmp 70 (.d (.int .i64 (w64 (s6 + (1 : Int)))))))
                (OpJs.nil))) (by rfl) (by rfl) ?_
              obtain rfl := Option.some.inj h
              exact ⟨rfl, (Mat.trans (Mat.pat [] [(1, (.ptr 1001 0 [])), (35, (.d (.int .i64 (a0.fIn.length : Int)))), (36, (.d (.int .i64 (w64 (s6 + (1 : Int))))))] [(1001, some (.box 30 (.d (e_api_Series a0))))] hB (by rfl) (by rfl) (by rfl)) (Mat.pat [] ((fun s6 : Int => ([(1, (.ptr 1001 0 [])), (35, (.d (.int .i64 (a0.fIn.length : Int)))), (36, (.d (.int .i64 s6)))] : EL)) (w64 (s6 + (1 : Int)))) ((fun s6 : Int => ([(1001, some (.box 30 (.d (e_api_Series a0))))] : OL)) (w64 (s6 + (1 : Int)))) hB (by rfl) (by rfl) (by rfl)))⟩
          · obtain ⟨x67, hx67, h⟩ := bindS h
            obtain ⟨r68, hr68, h⟩ := bindS h
            rcases Bool.eq_false_or_eq_true (!r68) with hg69 | hg69
            · replace h := ite_t hg69 h
              refine AWp.draws (by kernel_rfl) (OpJs.cons (OpJ.val (v' := (.ptr 1001 2 [2])) (by rfl) (OpJ.fieldP Try.underlying30 (by rfl) (o := 2) (by rfl) tyS22 (by decide) (obj := (.box 30 (.d (e_api_Series a0)))) (ltN hN rfl) (Opd.tmp 1 (.ptr 1001 0 []))))
                (OpJs.cons (OpJ.loadB (bt := 30) (c := (.d (e_api_Series a0))) (v := (.d (.list 1 (a0.fIn.map (eI .i64))))) tyS22 (At.dst1 (f := (.list 1 (a0.fIn.map (eI .i64)))) (by rfl) (by rfl) (At.here _) (by first | rfl | omega)) (by rfl) (by rfl) rfl (ltN hN rfl) (Opd.tmp 39 (.ptr 1001 2 [2])))
                (OpJs.cons (OpJ.move (ltN hN rfl) (Opd.tmp 3 (.d (.int .i64 s6))))
                (OpJs.cons (OpJ.indexD (el := (.int .i64 x67)) Try.underlying22 tyS3 (idx_some hx67).1 (get_map (eI .i64) (idx_some hx67).2) (ltN hN rfl) (Opd.tmp 40 (.d (.list 1 (a0.fIn.map (eI .i64))))) (Opd.tmp 41 (.d (.int .i64 s6))))
                (OpJs.cons (OpJ.loadD tyS3 (by rfl) (by rfl) (ltN hN rfl) (Opd.tmp 42 (.dptr (.int .i64 x67))))
                (OpJs.cons (OpJ.callFn hB fnOk36 (percentile_bin_ac x67 r68 hr68) [] (by kernel_rfl) (ltN hN rfl) (by kernel_rfl) (OpdL.cons (Opd.tmp 43 (.d (.int .i64 x67))) OpdL.nil))
                (OpJs.cons (OpJ.not (ltN hN rfl) (Opd.tmp 44 (.d (.bool r68))))
                (OpJs.cons (OpJ.val (v' := .d (.bool true)) (by rw [hg69]) (OpJ.move (ltN hN rfl) (Opd.tmp 45 (.d (.bool (!r68))))))
                (OpJs.cons (OpJ.skipU (ltN hN rfl) (by rfl))
                (OpJs.cons (OpJ.skipU (ltN hN rfl) (by rfl))
                (OpJs.cons (OpJ.skipU (ltN hN rfl) (by rfl))
                (OpJs.cons (OpJ.skipU (ltN hN rfl) (by rfl))
                (OpJs.cons (OpJ.skipU (ltN hN rfl) (by rfl))
                (OpJs.cons (OpJ.skipU (ltN hN rfl) (by rfl))
                (OpJs.cons (OpJ.skipU (ltN hN rfl) (by rfl))
                (OpJs.cons (OpJ.pickT (ltN hN rfl) (Opd.tmp 46 (.d (.bool true))) (Opd.bool true))
                (OpJs.cons (OpJ.move (ltN hN rfl) (Opd.tmp 54 (.d (.bool true))))
                (OpJs.cons (OpJ.skipU (ltN hN rfl) (by rfl))
                (OpJs.cons (OpJ.skipU (ltN hN rfl) (by rfl))
                (OpJs.cons (OpJ.skipU (ltN hN rfl) (by rfl))
                (OpJs.cons (OpJ.skipU (ltN hN rfl) (by rfl))
                (OpJs.cons (OpJ.skipU (ltN hN rfl) (by rfl))
                (OpJs.cons (OpJ.skipU (ltN hN rfl) (by rfl))
                (OpJs.cons (OpJ.skipU (ltN hN rfl) (by rfl))
                (OpJs.cons (OpJ.skipU (ltN hN rfl) (by rfl))
                (OpJs.cons (OpJ.skipU (ltN hN rfl) (by rfl))
                (OpJs.cons (OpJ.skipU (ltN hN rfl) (by rfl))
                (OpJs.cons (OpJ.skipU (ltN hN rfl) (by rfl))
                (OpJs.cons (OpJ.skipU (ltN hN rfl) (by rfl))
                (OpJs.cons (OpJ.skipU (ltN hN rfl) (by rfl))
                (OpJs.cons (OpJ.pickT (ltN hN rfl) (Opd.tmp 55 (.d (.bool true))) (Opd.bool true))
                (OpJs.nil)))))))))))))))))))))))))))))))) (by kernel_rfl) (by rfl) (by rfl) ?_
              exact hjj65 _ h _ _ (Mat.trans (Mat.pat [] [(1, (.ptr 1001 0 [])), (35, (.d (.int .i64 (a0.fIn.length : Int)))), (36, (.d (.int .i64 s6))), (69, (.d (.bool true)))] [(1001, some (.box 30 (.d (e_api_Series a0))))] hB (by rfl) (by rfl) (by rfl)) (Mat.pat [] ((fun m64 : Bool => ([(1, (.ptr 1001 0 [])), (35, (.d (.int .i64 (a0.fIn.length : Int)))), (36, (.d (.int .i64 s6))), (69, (.d (.bool m64)))] : EL)) true) ((fun m64 : Bool => ([(1001, some (.box 30 (.d (e_api_Series a0))))] : OL)) true) hB (by rfl) (by rfl) (by rfl)))
            · replace h := ite_f hg69 h
              obtain ⟨x70, hx70, h⟩ := bindS h
              obtain ⟨r71, hr71, h⟩ := bindS h
              rcases Bool.eq_false_or_eq_true (!r71) with hg72 | hg72
              · replace h := ite_t hg72 h
                refine AWp.draws (by kernel_rfl) (OpJs.cons (OpJ.val (v' := (.ptr 1001 2 [2])) (by rfl) (OpJ.fieldP Try.underlying30 (by rfl) (o := 2) (by rfl) tyS22 (by decide) (obj := (.box 30 (.d (e_api_Series a0)))) (ltN hN rfl) (Opd.tmp 1 (.ptr 1001 0 []))))
                  (OpJs.cons (OpJ.loadB (bt := 30) (c := (.d (e_api_Series a0))) (v := (.d (.list 1 (a0.fIn.map (eI .i64))))) tyS22 (At.dst1 (f := (.list 1 (a0.fIn.map (eI .i64)))) (by rfl) (by rfl) (At.here _) (by first | rfl | omega)) (by rfl) (by rfl) rfl (ltN hN rfl) (Opd.tmp 39 (.ptr 1001 2 [2])))
                  (OpJs.cons (OpJ.move (ltN hN rfl) (Opd.tmp 3 (.d (.int .i64 s6))))
                  (OpJs.cons (OpJ.indexD (el := (.int .i64 x67)) Try.underlying22 tyS3 (idx_some hx67).1 (get_map (eI .i64) (idx_some hx67).2) (ltN hN rfl) (Opd.tmp 40 (.d (.list 1 (a0.fIn.map (eI .i64))))) (Opd.tmp 41 (.d (.int .i64 s6))))
                  (OpJs.cons (OpJ.loadD tyS3 (by rfl) (by rfl) (ltN hN rfl) (Opd.tmp 42 (.dptr (.int .i64 x67))))
                  (OpJs.cons (OpJ.callFn hB fnOk36 (percentile_bin_ac x67 r68 hr68) [] (by kernel_rfl) (ltN hN rfl) (by kernel_rfl) (OpdL.cons (Opd.tmp 43 (.d (.int .i64 x67))) OpdL.nil))
                  (OpJs.cons (OpJ.not (ltN hN rfl) (Opd.tmp 44 (.d (.bool r68))))
                  (OpJs.cons (OpJ.val (v' := .d (.bool false)) (by rw [hg69]) (OpJ.move (ltN hN rfl) (Opd.tmp 45 (.d (.bool (!r68))))))
                  (OpJs.cons (OpJ.guarded (by rfl) (OpJ.val (v' := (.ptr 1001 3 [3])) (by rfl) (OpJ.fieldP Try.underlying30 (by rfl) (o := 3) (by rfl) tyS22 (by decide) (obj := (.box 30 (.d (e_api_Series a0)))) (ltN hN rfl) (Opd.tmp 1 (.ptr 1001 0 [])))))
                  (OpJs.cons (OpJ.guarded (by rfl) (OpJ.loadB (bt := 30) (c := (.d (e_api_Series a0))) (v := (.d (.list 1 (a0.fOut.map (eI .i64))))) tyS22 (At.dst1 (f := (.list 1 (a0.fOut.map (eI .i64)))) (by rfl) (by rfl) (At.here _) (by first | rfl | omega)) (by rfl) (by rfl) rfl (ltN hN rfl) (Opd.tmp 47 (.ptr 1001 3 [3]))))
                  (OpJs.cons (OpJ.guarded (by rfl) (OpJ.move (ltN hN rfl) (Opd.tmp 3 (.d (.int .i64 s6)))))
                  (OpJs.cons (OpJ.guarded (by rfl) (OpJ.indexD (el := (.int .i64 x70)) Try.underlying22 tyS3 (idx_some hx70).1 (get_map (eI .i64) (idx_some hx70).2) (ltN hN rfl) (Opd.tmp 48 (.d (.list 1 (a0.fOut.map (eI .i64))))) (Opd.tmp 49 (.d (.int .i64 s6)))))
                  (OpJs.cons (OpJ.guarded (by rfl) (OpJ.loadD tyS3 (by rfl) (by rfl) (ltN hN rfl) (Opd.tmp 50 (.dptr (.int .i64 x70)))))
                  (OpJs.cons (OpJ.guarded (by rfl) (OpJ.callFn hB fnOk36 (percentile_bin_ac x70 r71 hr71) [] (by kernel_rfl) (ltN hN rfl) (by kernel_rfl) (OpdL.cons (Opd.tmp 51 (.d (.int .i64 x70))) OpdL.nil)))
                  (OpJs.cons (OpJ.guarded (by rfl) (OpJ.not (ltN hN rfl) (Opd.tmp 52 (.d (.bool r71)))))
                  (OpJs.cons (OpJ.pickF (ltN hN rfl) (Opd.tmp 46 (.d (.bool false))) (Opd.tmp 53 (.d (.bool (!r71)))))
                  (OpJs.cons (OpJ.val (v' := .d (.bool true)) (by rw [hg72]) (OpJ.move (ltN hN rfl) (Opd.tmp 54 (.d (.bool (!r71))))))
                  (OpJs.cons (OpJ.skipU (ltN hN rfl) (by rfl))
                  (OpJs.cons (OpJ.skipU (ltN hN rfl) (by rfl))
                  (OpJs.cons (OpJ.skipU (ltN hN rfl) (by rfl))
                  (OpJs.cons (OpJ.skipU (ltN hN rfl) (by rfl))
                  (OpJs.cons (OpJ.skipU (ltN hN rfl) (by rfl))
                  (OpJs.cons (OpJ.skipU (ltN hN rfl) (by rfl))
                  (OpJs.cons (OpJ.skipU (ltN hN rfl) (by rfl))
                  (OpJs.cons (OpJ.skipU (ltN hN rfl) (by rfl))
                  (OpJs.cons (OpJ.skipU (ltN hN rfl) (by rfl))
                  (OpJs.cons (OpJ.skipU (ltN hN rfl) (by rfl))
                  (OpJs.cons (OpJ.skipU (ltN hN rfl) (by rfl))
                  (OpJs.cons (OpJ.skipU (ltN hN rfl) (by rfl))
                  (OpJs.cons (OpJ.skipU (ltN hN rfl) (by rfl))
                  (OpJs.cons (OpJ.pickT (ltN hN rfl) (Opd.tmp 55 (.d (.bool true))) (Opd.bool true))
                  (OpJs.nil)))))))))))))))))))))))))))))))) (by kernel_rfl) (by rfl) (by rfl) ?_
                exact hjj65 _ h _ _ (Mat.trans (Mat.pat [] [(1, (.ptr 1001 0 [])), (35, (.d (.int .i64 (a0.fIn.length : Int)))), (36, (.d (.int .i64 s6))), (69, (.d (.bool true)))] [(1001, some (.box 30 (.d (e_api_Series a0))))] hB (by rfl) (by rfl) (by rfl)) (Mat.pat [] ((fun m64 : Bool => ([(1, (.ptr 1001 0 [])), (35, (.d (.int .i64 (a0.fIn.length : Int)))), (36, (.d (.int .i64 s6))), (69, (.d (.bool m64)))] : EL)) true) ((fun m64 : Bool => ([(1001, some (.box 30 (.d (e_api_Series a0))))] : OL)) true) hB (by rfl) (by rfl) (by rfl)))
              · replace h := ite_f hg72 h
                obtain ⟨x73, hx73, h⟩ := bindS h
                obtain ⟨x74, hx74, h⟩ := bindS h
                refine AWp.draws (by kernel_rfl) (OpJs.cons (OpJ.val (v' := (.ptr 1001 2 [2])) (by rfl) (OpJ.fieldP Try.underlying30 (by rfl) (o := 2) (by rfl) tyS22 (by decide) (obj := (.box 30 (.d (e_api_Series a0)))) (ltN hN rfl) (Opd.tmp 1 (.ptr 1001 0 []))))
                  (OpJs.cons (OpJ.loadB (bt := 30) (c := (.d (e_api_Series a0))) (v := (.d (.list 1 (a0.fIn.map (eI .i64))))) tyS22 (At.dst1 (f := (.list 1 (a0.fIn.map (eI .i64)))) (by rfl) (by rfl) (At.here _) (by first | rfl | omega)) (by rfl) (by rfl) rfl (ltN hN rfl) (Opd.tmp 39 (.ptr 1001 2 [2])))
                  (OpJs.cons (OpJ.move (ltN hN rfl) (Opd.tmp 3 (.d (.int .i64 s6))))
                  (OpJs.cons (OpJ.indexD (el := (.int .i64 x67)) Try.underlying22 tyS3 (idx_some hx67).1 (get_map (eI .i64) (idx_some hx67).2) (ltN hN rfl) (Opd.tmp 40 (.d (.list 1 (a0.fIn.map (eI .i64))))) (Opd.tmp 41 (.d (.int .i64 s6))))
                  (OpJs.cons (OpJ.loadD tyS3 (by rfl) (by rfl) (ltN hN rfl) (Opd.tmp 42 (.dptr (.int .i64 x67))))
                  (OpJs.cons (OpJ.callFn hB fnOk36 (percentile_bin_ac x67 r68 hr68) [] (by kernel_rfl) (ltN hN rfl) (by kernel_rfl) (OpdL.cons (Opd.tmp 43 (.d (.int .i64 x67))) OpdL.nil))
                  (OpJs.cons (OpJ.not (ltN hN rfl) (Opd.tmp 44 (.d (.bool r68))))
                  (OpJs.cons (OpJ.val (v' := .d (.bool false)) (by rw [hg69]) (OpJ.move (ltN hN rfl) (Opd.tmp 45 (.d (.bool (!r68))))))
                  (OpJs.cons (OpJ.guarded (by rfl) (OpJ.val (v' := (.ptr 1001 3 [3])) (by rfl) (OpJ.fieldP Try.underlying30 (by rfl) (o := 3) (by rfl) tyS22 (by decide) (obj := (.box 30 (.d (e_api_Series a0)))) (ltN hN rfl) (Opd.tmp 1 (.ptr 1001 0 [])))))
                  (OpJs.cons (OpJ.guarded (by rfl) (OpJ.loadB (bt := 30) (c := (.d (e_api_Series a0))) (v := (.d (.list 1 (a0.fOut.map (eI .i64))))) tyS22 (At.dst1 (f := (.list 1 (a0.fOut.map (eI .i64)))) (by rfl) (by rfl) (At.here _) (by first | rfl | omega)) (by rfl) (by rfl) rfl (ltN hN rfl) (Opd.tmp 47 (.ptr 1001 3 [3]))))
                  (OpJs.cons (OpJ.guarded (by rfl) (OpJ.move (ltN hN rfl) (Opd.tmp 3 (.d (.int .i64 s6)))))
                  (OpJs.cons (OpJ.guarded (by rfl) (OpJ.indexD (el := (.int .i64 x70)) Try.underlying22 tyS3 (idx_some hx70).1 (get_map (eI .i64) (idx_some hx70).2) (ltN hN rfl) (Opd.tmp 48 (.d (.list 1 (a0.fOut.map (eI .i64))))) (Opd.tmp 49 (.d (.int .i64 s6)))))
                  (OpJs.cons (OpJ.guarded (by rfl) (OpJ.loadD tyS3 (by rfl) (by rfl) (ltN hN rfl) (Opd.tmp 50 (.dptr (.int .i64 x70)))))
                  (OpJs.cons (OpJ.guarded (by rfl) (OpJ.callFn hB fnOk36 (percentile_bin_ac x70 r71 hr71) [] (by kernel_rfl) (ltN hN rfl) (by kernel_rfl) (OpdL.cons (Opd.tmp 51 (.d (.int .i64 x70))) OpdL.nil)))
                  (OpJs.cons (OpJ.guarded (by rfl) (OpJ.not (ltN hN rfl) (Opd.tmp 52 (.d (.bool r71)))))
                  (OpJs.cons (OpJ.pickF (ltN hN rfl) (Opd.tmp 46 (.d (.bool false))) (Opd.tmp 53 (.d (.bool (!r71)))))
                  (OpJs.cons (OpJ.val (v' := .d (.bool false)) (by rw [hg72]) (OpJ.move (ltN hN rfl) (Opd.tmp 54 (.d (.bool (!r71))))))
                  (OpJs.cons (OpJ.guarded (by rfl) (OpJ.val (v' := (.ptr 1001 2 [2])) (by rfl) (OpJ.fieldP Try.underlying30 (by rfl) (o := 2) (by rfl) tyS22 (by decide) (obj := (.box 30 (.d (e_api_Series a0)))) (ltN hN rfl) (Opd.tmp 1 (.ptr 1001 0 [])))))
                  (OpJs.cons (OpJ.guarded (by rfl) (OpJ.loadB (bt := 30) (c := (.d (e_api_Series a0))) (v := (.d (.list 1 (a0.fIn.map (eI .i64))))) tyS22 (At.dst1 (f := (.list 1 (a0.fIn.map (eI .i64)))) (by rfl) (by rfl) (At.here _) (by first | rfl | omega)) (by rfl) (by rfl) rfl (ltN hN rfl) (Opd.tmp 56 (.ptr 1001 2 [2]))))
                  (OpJs.cons (OpJ.guarded (by rfl) (OpJ.move (ltN hN rfl) (Opd.tmp 3 (.d (.int .i64 s6)))))
                  (OpJs.cons (OpJ.guarded (by rfl) (OpJ.indexD (el := (.int .i64 x73)) Try.underlying22 tyS3 (idx_some hx73).1 (get_map (eI .i64) (idx_some hx73).2) (ltN hN rfl) (Opd.tmp 57 (.d (.list 1 (a0.fIn.map (eI .i64))))) (Opd.tmp 58 (.d (.int .i64 s6)))))
                  (OpJs.cons (OpJ.guarded (by rfl) (OpJ.loadD tyS3 (by rfl) (by rfl) (ltN hN rfl) (Opd.tmp 59 (.dptr (.int .i64 x73)))))
                  (OpJs.cons (OpJ.guarded (by rfl) (OpJ.eqlI (ltN hN rfl) (Opd.tmp 60 (.d (.int .i64 x73))) (Opd.int .i64 (-1))))
                  (OpJs.cons (OpJ.guarded (by rfl) (OpJ.val (v' := (.ptr 1001 3 [3])) (by rfl) (OpJ.fieldP Try.underlying30 (by rfl) (o := 3) (by rfl) tyS22 (by decide) (obj := (.box 30 (.d (e_api_Series a0)))) (ltN hN rfl) (Opd.tmp 1 (.ptr 1001 0 [])))))
                  (OpJs.cons (OpJ.guarded (by rfl) (OpJ.loadB (bt := 30) (c := (.d (e_api_Series a0))) (v := (.d (.list 1 (a0.fOut.map (eI .i64))))) tyS22 (At.dst1 (f := (.list 1 (a0.fOut.map (eI .i64)))) (by rfl) (by rfl) (At.here _) (by first | rfl | omega)) (by rfl) (by rfl) rfl (ltN hN rfl) (Opd.tmp 62 (.ptr 1001 3 [3]))))
                  (OpJs.cons (OpJ.guarded (by rfl) (OpJ.move (ltN hN rfl) (Opd.tmp 3 (.d (.int .i64 s6)))))
                  (OpJs.cons (OpJ.guarded (by rfl) (OpJ.indexD (el := (.int .i64 x74)) Try.underlying22 tyS3 (idx_some hx74).1 (get_map (eI .i64) (idx_some hx74).2) (ltN hN rfl) (Opd.tmp 63 (.d (.list 1 (a0.fOut.map (eI .i64))))) (Opd.tmp 64 (.d (.int .i64 s6)))))
                  (OpJs.cons (OpJ.guarded (by rfl) (OpJ.loadD tyS3 (by rfl) (by rfl) (ltN hN rfl) (Opd.tmp 65 (.dptr (.int .i64 x74)))))
                  (OpJs.cons (OpJ.guarded (by rfl) (OpJ.eqlI (ltN hN rfl) (Opd.tmp 66 (.d (.int .i64 x74))) (Opd.int .i64 (-1))))
                  (OpJs.cons (OpJ.guarded (by rfl) (OpJ.neqB Try.underlying4 (ltN hN rfl) (Opd.tmp 61 (.d (.bool (x73 == (-1 : Int))))) (Opd.tmp 67 (.d (.bool (x74 == (-1 : Int)))))))
                  (OpJs.cons (OpJ.pickF (ltN hN rfl) (Opd.tmp 55 (.d (.bool false))) (Opd.tmp 68 (.d (.bool ((x73 == (-1 : Int)) != (x74 == (-1 : Int)))))))
                  (OpJs.nil)))))))))))))))))))))))))))))))) (by kernel_rfl) (by rfl) (by rfl) ?_
                exact hjj65 _ h _ _ (Mat.trans (Mat.pat [] [(1, (.ptr 1001 0 [])), (35, (.d (.int .i64 (a0.fIn.length : Int)))), (36, (.d (.int .i64 s6))), (69, (.d (.bool ((x73 == (-1 : Int)) != (x74 == (-1 : Int))))))] [(1001, some (.box 30 (.d (e_api_Series a0))))] hB (by rfl) (by rfl) (by rfl)) (Mat.pat [] ((fun m64 : Bool => ([(1, (.ptr 1001 0 [])), (35, (.d (.int .i64 (a0.fIn.length : Int)))), (36, (.d (.int .i64 s6))), (69, (.d (.bool m64)))] : EL)) ((x73 == (-1 : Int)) != (x74 == (-1 : Int)))) ((fun m64 : Bool => ([(1001, some (.box 30 (.d (e_api_Series a0))))] : OL)) ((x73 == (-1 : Int)) != (x74 == (-1 : Int)))) hB (by rfl) (by rfl) (by rfl)))
        · replace h := ite_f hg53 h
          refine AWp.exit ?_
          refine seqQ_e ?_
          obtain rfl := Option.some.inj h
          exact ⟨(fun hc => by cases hc), rfl, (Mat.pat [] ((fun _ : Unit => ([] : EL)) ()) ((fun _ : Unit => ([] : OL)) ()) hB (by rfl) (by rfl) (by rfl))⟩
      · rcases x75 with _ | _
        · obtain ⟨rfl, hmat⟩ := hR
          refine blkQ_r ?_
          refine seqQ_r ?_
          obtain rfl := Option.some.inj h
          exact ⟨.inl rfl, _, _, (Mat.trans hmat (Mat.pat [] [(2, (.d (.bool false)))] [] hB (by rfl) (by rfl) (by rfl))), [(.d (.bool false))], (Res.tmp (by rfl) (by rfl) Res.nil), rfl, by rfl, by rfl, by rfl⟩
        · obtain ⟨rfl, hmat⟩ := hR
          refine blkQ_hit ?_
          refine seqQ_n ?_
          refine AWp.ghost hmat ?_
          refine AWp.seq ?_
          refine AWp.region (OpJs.cons (OpJ.assign (ltN hN rfl) (Opd.bool true))
            (OpJs.nil)) (by rfl) (by rfl) ?_
          refine seqQ_n ?_
          refine AWp.ghost (Mat.pat [] [(2, (.d (.bool true)))] [] hB (by rfl) (by rfl) (by rfl)) ?_
          refine AWp.ret ?_
          obtain rfl := Option.some.inj h
          exact ⟨.inl rfl, _, _, (Mat.pat [] [(2, (.d (.bool true)))] [] hB (by rfl) (by rfl) (by rfl)), [(.d (.bool true))], (Res.tmp (by rfl) (by rfl) Res.nil), rfl, by rfl, by rfl, by rfl⟩
  · rcases Bool.eq_false_or_eq_true ((decide (a0.fPort < (1 : Int))) || (decide ((999 : Int) < a0.fPort))) with hg77 | hg77
    · replace h := ite_t hg77 h
      refine AWp.region (OpJs.cons (OpJ.val (v' := (.ptr 1001 0 [0])) (by rfl) (OpJ.fieldP Try.underlying30 (by rfl) (o := 0) (by rfl) tyS3 (by decide) (obj := (.box 30 (.d (e_api_Series a0)))) (ltN hN rfl) (Opd.tmp 1 (.ptr 1001 0 []))))
        (OpJs.cons (OpJ.loadB (bt := 30) (c := (.d (e_api_Series a0))) (v := (.d (.int .i64 a0.fPort))) tyS3 (At.dst1 (f := (.int .i64 a0.fPort)) (by rfl) (by rfl) (At.here _) (by first | rfl | omega)) (by rfl) (by rfl) rfl (ltN hN rfl) (Opd.tmp 4 (.ptr 1001 0 [0])))
        (OpJs.cons (OpJ.lss (ltN hN rfl) (Opd.tmp 5 (.d (.int .i64 a0.fPort))) (Opd.int .i64 (1)))
        (OpJs.cons (OpJ.move (ltN hN rfl) (Opd.tmp 6 (.d (.bool (decide (a0.fPort < (1 : Int)))))))
        (OpJs.cons (OpJ.opt' (v := (.ptr 1001 0 [0])) (OpJ.val (v' := (.ptr 1001 0 [0])) (by rfl) (OpJ.fieldP Try.underlying30 (by rfl) (o := 0) (by rfl) tyS3 (by decide) (obj := (.box 30 (.d (e_api_Series a0)))) (ltN hN rfl) (Opd.tmp 1 (.ptr 1001 0 [])))) (by rfl) (GuardV.plain _) (ltN hN rfl) (by rfl) (by rfl) (by rfl) (by rfl) (OptL.keep rfl OptL.nil))
        (OpJs.cons (OpJ.opt' (v := (.d (.int .i64 a0.fPort))) (OpJ.loadB (bt := 30) (c := (.d (e_api_Series a0))) (v := (.d (.int .i64 a0.fPort))) tyS3 (At.dst1 (f := (.int .i64 a0.fPort)) (by rfl) (by rfl) (At.here _) (by first | rfl | omega)) (by rfl) (by rfl) rfl (ltN hN rfl) (Opd.tmp 8 (.ptr 1001 0 [0]))) (by rfl) (GuardV.plain _) (ltN hN rfl) (by rfl) (by rfl) (by rfl) (by rfl) (OptL.opt OptL.nil))
        (OpJs.cons (OpJ.opt' (v := (.d (.bool (decide ((999 : Int) < a0.fPort))))) (OpJ.gtr (ltN hN rfl) (Opd.tmp 9 (.d (.int .i64 a0.fPort))) (Opd.int .i64 (999))) (by rfl) (GuardV.plain _) (ltN hN rfl) (by rfl) (by rfl) (by rfl) (by rfl) (OptL.opt OptL.nil))
        (OpJs.cons (OpJ.pickOr rfl (ltN hN rfl) (Opd.tmp 7 (.d (.bool (decide (a0.fPort < (1 : Int)))))) (Opd.tmp 10 (.opt ((decide (a0.fPort < (1 : Int))) == false) (.d (.bool (decide ((999 : Int) < a0.fPort)))))))
        (OpJs.cons (OpJ.val (v' := .d (.bool true)) (by rw [hg77]) (OpJ.move (ltN hN rfl) (Opd.tmp 11 (.d (.bool ((decide (a0.fPort < (1 : Int))) || (decide ((999 : Int) < a0.fPort))))))))
        (OpJs.cons (OpJ.skipU (ltN hN rfl) (by rfl))
        (OpJs.cons (OpJ.skipU (ltN hN rfl) (by rfl))
        (OpJs.cons (OpJ.skipU (ltN hN rfl) (by rfl))
        (OpJs.cons (OpJ.skipU (ltN hN rfl) (by rfl))
        (OpJs.cons (OpJ.pickT (ltN hN rfl) (Opd.tmp 12 (.d (.bool true))) (Opd.bool true))
        (OpJs.cons (OpJ.move (ltN hN rfl) (Opd.tmp 17 (.d (.bool true))))
        (OpJs.cons (OpJ.skipU (ltN hN rfl) (by rfl))
        (OpJs.cons (OpJ.skipU (ltN hN rfl) (by rfl))
        (OpJs.cons (OpJ.skipU (ltN hN rfl) (by rfl))
        (OpJs.cons (OpJ.skipU (ltN hN rfl) (by rfl))
        (OpJs.cons (OpJ.skipU (ltN hN rfl) (by rfl))
        (OpJs.cons (OpJ.skipU (ltN hN rfl) (by rfl))
        (OpJs.cons (OpJ.skipU (ltN hN rfl) (by rfl))
        (OpJs.cons (OpJ.pickT (ltN hN rfl) (Opd.tmp 18 (.d (.bool true))) (Opd.bool true))
        (OpJs.cons (OpJ.move (ltN hN rfl) (Opd.tmp 26 (.d (.bool true))))
        (OpJs.cons (OpJ.skipU (ltN hN rfl) (by rfl))
        (OpJs.cons (OpJ.skipU (ltN hN rfl) (by rfl))
        (OpJs.cons (OpJ.skipU (ltN hN rfl) (by rfl))
        (OpJs.cons (OpJ.skipU (ltN hN rfl) (by rfl))
        (OpJs.cons (OpJ.pickT (ltN hN rfl) (Opd.tmp 27 (.d (.bool true))) (Opd.bool true))
        (OpJs.nil)))))))))))))))))))))))))))))) (by rfl) (by rfl) ?_
      exact hjj4 _ h _ _ (Mat.trans (Mat.pat [] [(1, (.ptr 1001 0 [])), (32, (.d (.bool true)))] [(1001, some (.box 30 (.d (e_api_Series a0))))] hB (by rfl) (by rfl) (by rfl)) (Mat.pat [] ((fun m3 : Bool => ([(1, (.ptr 1001 0 [])), (32, (.d (.bool m3)))] : EL)) true) ((fun m3 : Bool => ([(1001, some (.box 30 (.d (e_api_Series a0))))] : OL)) true) hB (by rfl) (by rfl) (by rfl)))
    · replace h := ite_f hg77 h
      obtain ⟨r78, hr78, h⟩ := bindS h
      refine AWp.region (OpJs.cons (OpJ.val (v' := (.ptr 1001 0 [0])) (by rfl) (OpJ.fieldP Try.underlying30 (by rfl) (o := 0) (by rfl) tyS3 (by decide) (obj := (.box 30 (.d (e_api_Series a0)))) (ltN hN rfl) (Opd.tmp 1 (.ptr 1001 0 []))))
        (OpJs.cons (OpJ.loadB (bt := 30) (c := (.d (e_api_Series a0))) (v := (.d (.int .i64 a0.fPort))) tyS3 (At.dst1 (f := (.int .i64 a0.fPort)) (by rfl) (by rfl) (At.here _) (by first | rfl | omega)) (by rfl) (by rfl) rfl (ltN hN rfl) (Opd.tmp 4 (.ptr 1001 0 [0])))
        (OpJs.cons (OpJ.lss (ltN hN rfl) (Opd.tmp 5 (.d (.int .i64 a0.fPort))) (Opd.int .i64 (1)))
        (OpJs.cons (OpJ.move (ltN hN rfl) (Opd.tmp 6 (.d (.bool (decide (a0.fPort < (1 : Int)))))))
        (OpJs.cons (OpJ.opt' (v := (.ptr 1001 0 [0])) (OpJ.val (v' := (.ptr 1001 0 [0])) (by rfl) (OpJ.fieldP Try.underlying30 (by rfl) (o := 0) (by rfl) tyS3 (by decide) (obj := (.box 30 (.d (e_api_Series a0)))) (ltN hN rfl) (Opd.tmp 1 (.ptr 1001 0 [])))) (by rfl) (GuardV.plain _) (ltN hN rfl) (by rfl) (by rfl) (by rfl) (by rfl) (OptL.keep rfl OptL.nil))
        (OpJs.cons (OpJ.opt' (v := (.d (.int .i64 a0.fPort))) (OpJ.loadB (bt := 30) (c := (.d (e_api_Series a0))) (v := (.d (.int .i64 a0.fPort))) tyS3 (At.dst1 (f := (.int .i64 a0.fPort)) (by rfl) (by rfl) (At.here _) (by first | rfl | omega)) (by rfl) (by rfl) rfl (ltN hN rfl) (Opd.tmp 8 (.ptr 1001 0 [0]))) (by rfl) (GuardV.plain _) (ltN hN rfl) (by rfl) (by rfl) (by rfl) (by rfl) (OptL.opt OptL.nil))
        (OpJs.cons (OpJ.opt' (v := (.d (.bool (decide ((999 : Int) < a0.fPort))))) (OpJ.gtr (ltN hN rfl) (Opd.tmp 9 (.d (.int .i64 a0.fPort))) (Opd.int .i64 (999))) (by rfl) (GuardV.plain _) (ltN hN rfl) (by rfl) (by rfl) (by rfl) (by rfl) (OptL.opt OptL.nil))
        (OpJs.cons (OpJ.pickOr rfl (ltN hN rfl) (Opd.tmp 7 (.d (.bool (decide (a0.fPort < (1 : Int)))))) (Opd.tmp 10 (.opt ((decide (a0.fPort < (1 : Int))) == false) (.d (.bool (decide ((999 : Int) < a0.fPort)))))))
        (OpJs.cons (OpJ.val (v' := .d (.bool false)) (by rw [hg77]) (OpJ.move (ltN hN rfl) (Opd.tmp 11 (.d (.bool ((decide (a0.fPort < (1 : Int))) || (decide ((999 : Int) < a0.fPort))))))))
        (OpJs.cons (OpJ.guarded (by rfl) (OpJ.val (v' := (.ptr 1001 1 [1])) (by rfl) (OpJ.fieldP Try.underlying30 (by rfl) (o := 1) (by rfl) tyS3 (by decide) (obj := (.box 30 (.d (e_api_Series a0)))) (ltN hN rfl) (Opd.tmp 1 (.ptr 1001 0 [])))))
        (OpJs.cons (OpJ.guarded (by rfl) (OpJ.loadB (bt := 30) (c := (.d (e_api_Series a0))) (v := (.d (.int .i64 a0.fSeconds))) tyS3 (At.dst1 (f := (.int .i64 a0.fSeconds)) (by rfl) (by rfl) (At.here _) (by first | rfl | omega)) (by rfl) (by rfl) rfl (ltN hN rfl) (Opd.tmp 13 (.ptr 1001 1 [1]))))
        (OpJs.cons (OpJ.guarded (by rfl) (OpJ.callFn hB fnOk35 (percentile_length_ac a0.fSeconds r78 hr78) [] (by kernel_rfl) (ltN hN rfl) (by kernel_rfl) (OpdL.cons (Opd.tmp 14 (.d (.int .i64 a0.fSeconds))) OpdL.nil)))
        (OpJs.cons (OpJ.guarded (by rfl) (OpJ.not (ltN hN rfl) (Opd.tmp 15 (.d (.bool r78)))))
        (OpJs.cons (OpJ.pickF (ltN hN rfl) (Opd.tmp 12 (.d (.bool false))) (Opd.tmp 16 (.d (.bool (!r78)))))
        (OpJs.cons (OpJ.move (ltN hN rfl) (Opd.tmp 17 (.d (.bool (!r78)))))
        (OpJs.cons (OpJ.opt' (v := (.ptr 1001 2 [2])) (OpJ.val (v' := (.ptr 1001 2 [2])) (by rfl) (OpJ.fieldP Try.underlying30 (by rfl) (o := 2) (by rfl) tyS22 (by decide) (obj := (.box 30 (.d (e_api_Series a0)))) (ltN hN rfl) (Opd.tmp 1 (.ptr 1001 0 [])))) (by rfl) (GuardV.plain _) (ltN hN rfl) (by rfl) (by rfl) (by rfl) (by rfl) (OptL.keep rfl OptL.nil))
        (OpJs.cons (OpJ.opt' (v := (.d (.list 1 (a0.fIn.map (eI .i64))))) (OpJ.loadB (bt := 30) (c := (.d (e_api_Series a0))) (v := (.d (.list 1 (a0.fIn.map (eI .i64))))) tyS22 (At.dst1 (f := (.list 1 (a0.fIn.map (eI .i64)))) (by rfl) (by rfl) (At.here _) (by first | rfl | omega)) (by rfl) (by rfl) rfl (ltN hN rfl) (Opd.tmp 19 (.ptr 1001 2 [2]))) (by rfl) (GuardV.plain _) (ltN hN rfl) (by rfl) (by rfl) (by rfl) (by rfl) (OptL.opt OptL.nil))
        (OpJs.cons (OpJ.opt' (v := (.d (.int .i64 (a0.fIn.length : Int)))) (OpJ.val (v' := (.d (.int .i64 (a0.fIn.length : Int)))) (by simp) (OpJ.lenD Try.underlying22 (ltN hN rfl) (Opd.tmp 20 (.d (.list 1 (a0.fIn.map (eI .i64))))))) (by rfl) (GuardV.plain _) (ltN hN rfl) (by rfl) (by rfl) (by rfl) (by rfl) (OptL.opt OptL.nil))
        (OpJs.cons (OpJ.opt' (v := (.ptr 1001 3 [3])) (OpJ.val (v' := (.ptr 1001 3 [3])) (by rfl) (OpJ.fieldP Try.underlying30 (by rfl) (o := 3) (by rfl) tyS22 (by decide) (obj := (.box 30 (.d (e_api_Series a0)))) (ltN hN rfl) (Opd.tmp 1 (.ptr 1001 0 [])))) (by rfl) (GuardV.plain _) (ltN hN rfl) (by rfl) (by rfl) (by rfl) (by rfl) (OptL.keep rfl OptL.nil))
        (OpJs.cons (OpJ.opt' (v := (.d (.list 1 (a0.fOut.map (eI .i64))))) (OpJ.loadB (bt := 30) (c := (.d (e_api_Series a0))) (v := (.d (.list 1 (a0.fOut.map (eI .i64))))) tyS22 (At.dst1 (f := (.list 1 (a0.fOut.map (eI .i64)))) (by rfl) (by rfl) (At.here _) (by first | rfl | omega)) (by rfl) (by rfl) rfl (ltN hN rfl) (Opd.tmp 22 (.ptr 1001 3 [3]))) (by rfl) (GuardV.plain _) (ltN hN rfl) (by rfl) (by rfl) (by rfl) (by rfl) (OptL.opt OptL.nil))
        (OpJs.cons (OpJ.opt' (v := (.d (.int .i64 (a0.fOut.length : Int)))) (OpJ.val (v' := (.d (.int .i64 (a0.fOut.length : Int)))) (by simp) (OpJ.lenD Try.underlying22 (ltN hN rfl) (Opd.tmp 23 (.d (.list 1 (a0.fOut.map (eI .i64))))))) (by rfl) (GuardV.plain _) (ltN hN rfl) (by rfl) (by rfl) (by rfl) (by rfl) (OptL.opt OptL.nil))
        (OpJs.cons (OpJ.opt' (v := (.d (.bool ((a0.fIn.length : Int) != (a0.fOut.length : Int))))) (OpJ.neqI (ltN hN rfl) (Opd.tmp 21 (.d (.int .i64 (a0.fIn.length : Int)))) (Opd.tmp 24 (.d (.int .i64 (a0.fOut.length : Int))))) (by rfl) (GuardV.plain _) (ltN hN rfl) (by rfl) (by rfl) (by rfl) (by rfl) (OptL.opt (OptL.opt OptL.nil)))
        (OpJs.cons (OpJ.pickOr rfl (ltN hN rfl) (Opd.tmp 18 (.d (.bool (!r78)))) (Opd.tmp 25 (.opt ((!r78) == false) (.d (.bool ((a0.fIn.length : Int) != (a0.fOut.length : Int)))))))
        (OpJs.cons (OpJ.move (ltN hN rfl) (Opd.tmp 26 (.d (.bool ((!r78) || ((a0.fIn.length : Int) != (a0.fOut.length : Int)))))))
        (OpJs.cons (OpJ.opt' (v := (.ptr 1001 2 [2])) (OpJ.val (v' := (.ptr 1001 2 [2])) (by rfl) (OpJ.fieldP Try.underlying30 (by rfl) (o := 2) (by rfl) tyS22 (by decide) (obj := (.box 30 (.d (e_api_Series a0)))) (ltN hN rfl) (Opd.tmp 1 (.ptr 1001 0 [])))) (by rfl) (GuardV.plain _) (ltN hN rfl) (by rfl) (by rfl) (by rfl) (by rfl) (OptL.keep rfl OptL.nil))
        (OpJs.cons (OpJ.opt' (v := (.d (.list 1 (a0.fIn.map (eI .i64))))) (OpJ.loadB (bt := 30) (c := (.d (e_api_Series a0))) (v := (.d (.list 1 (a0.fIn.map (eI .i64))))) tyS22 (At.dst1 (f := (.list 1 (a0.fIn.map (eI .i64)))) (by rfl) (by rfl) (At.here _) (by first | rfl | omega)) (by rfl) (by rfl) rfl (ltN hN rfl) (Opd.tmp 28 (.ptr 1001 2 [2]))) (by rfl) (GuardV.plain _) (ltN hN rfl) (by rfl) (by rfl) (by rfl) (by rfl) (OptL.opt OptL.nil))
        (OpJs.cons (OpJ.opt' (v := (.d (.int .i64 (a0.fIn.length : Int)))) (OpJ.val (v' := (.d (.int .i64 (a0.fIn.length : Int)))) (by simp) (OpJ.lenD Try.underlying22 (ltN hN rfl) (Opd.tmp 29 (.d (.list 1 (a0.fIn.map (eI .i64))))))) (by rfl) (GuardV.plain _) (ltN hN rfl) (by rfl) (by rfl) (by rfl) (by rfl) (OptL.opt OptL.nil))
        (OpJs.cons (OpJ.opt' (v := (.d (.bool (decide ((9000 : Int) < (a0.fIn.length : Int)))))) (OpJ.gtr (ltN hN rfl) (Opd.tmp 30 (.d (.int .i64 (a0.fIn.length : Int)))) (Opd.int .i64 (9000))) (by rfl) (GuardV.plain _) (ltN hN rfl) (by rfl) (by rfl) (by rfl) (by rfl) (OptL.opt OptL.nil))
        (OpJs.cons (OpJ.pickOr rfl (ltN hN rfl) (Opd.tmp 27 (.d (.bool ((!r78) || ((a0.fIn.length : Int) != (a0.fOut.length : Int)))))) (Opd.tmp 31 (.opt (((!r78) || ((a0.fIn.length : Int) != (a0.fOut.length : Int))) == false) (.d (.bool (decide ((9000 : Int) < (a0.fIn.length : Int))))))))
        (OpJs.nil)))))))))))))))))))))))))))))) (by rfl) (by rfl) ?_
      exact hjj4 _ h _ _ (Mat.trans (Mat.pat [] [(1, (.ptr 1001 0 [])), (32, (.d (.bool (((!r78) || ((a0.fIn.length : Int) != (a0.fOut.length : Int))) || (decide ((9000 : Int) < (a0.fIn.length : Int)))))))] [(1001, some (.box 30 (.d (e_api_Series a0))))] hB (by rfl) (by rfl) (by rfl)) (Mat.pat [] ((fun m3 : Bool => ([(1, (.ptr 1001 0 [])), (32, (.d (.bool m3)))] : EL)) (((!r78) || ((a0.fIn.length : Int) != (a0.fOut.length : Int))) || (decide ((9000 : Int) < (a0.fIn.length : Int))))) ((fun m3 : Bool => ([(1001, some (.box 30 (.d (e_api_Series a0))))] : OL)) (((!r78) || ((a0.fIn.length : Int) != (a0.fOut.length : Int))) || (decide ((9000 : Int) < (a0.fIn.length : Int))))) hB (by rfl) (by rfl) (by rfl)))

noncomputable def clone_Series_3 (a0 : api_Series) : Option (api_Series) :=
  (clone_List_2 a0.fIn).bind fun r1 =>
  (clone_List_2 a0.fOut).bind fun r2 =>
  some (api_Series.mk a0.fPort a0.fSeconds r1 r2)
set_option maxHeartbeats 4000000 in
set_option maxRecDepth 100000 in
theorem clone_Series_3_ac (a0 : api_Series) (r : api_Series) (h : clone_Series_3 a0 = some r) : AC Try.prog 33 [(.d (e_api_Series a0))] [] (.st [(.d (.int .i64 r.fPort)), (.d (.int .i64 r.fSeconds)), (.sref 900000 1 0 r.fIn.length), (.sref 900001 1 0 r.fOut.length)]) [(900000, some (.row 3 1 (r.fIn.map (eI .i64)))), (900001, some (.row 3 1 (r.fOut.map (eI .i64))))] := by
  refine AC.of_code2 Try.func33 rfl rfl (Nat.le_of_ble_eq_true (by rfl)) fun B hB hN => ?_
  delta clone_Series_3 at h
  refine AWp.seq ?_
  refine AWp.region (OpJs.cons (OpJ.box hB (nm := 1001) (by decide) (by simp) rfl (ltN hN rfl) (Opd.tmp 0 (.d (e_api_Series a0))))
  (OpJs.cons (OpJ.alloc hB tyZ30 (nm := 1002) (by decide) (ltN hN rfl))
  (OpJs.nil))) (by rfl) (by rfl) ?_
  refine seqQ_n ?_
  refine AWp.ghost (Mat.pat [] [(1, (.ptr 1001 0 [])), (2, (.ptr 1002 0 []))] [(1001, some (.box 30 (.d (e_api_Series a0)))), (1002, some (.box 30 (.st [(.d (.int .i64 (0 : Int))), (.d (.int .i64 (0 : Int))), .nils, .nils])))] hB (by rfl) (by rfl) (by rfl)) ?_
  refine AWp.seq ?_
  obtain ⟨r1, hr1, h⟩ := bindS h
  obtain ⟨r2, hr2, h⟩ := bindS h
  refine AWp.draws (by kernel_rfl) (OpJs.cons (OpJ.val (v' := (.ptr 1001 2 [2])) (by rfl) (OpJ.fieldP Try.underlying30 (by rfl) (o := 2) (by rfl) tyS22 (by decide) (obj := (.box 30 (.d (e_api_Series a0)))) (ltN hN rfl) (Opd.tmp 1 (.ptr 1001 0 []))))
  (OpJs.cons (OpJ.loadB (bt := 30) (c := (.d (e_api_Series a0))) (v := (.d (.list 1 (a0.fIn.map (eI .i64))))) tyS22 (At.dst1 (f := (.list 1 (a0.fIn.map (eI .i64)))) (by rfl) (by rfl) (At.here _) (by first | rfl | omega)) (by rfl) (by rfl) rfl (ltN hN rfl) (Opd.tmp 3 (.ptr 1001 2 [2])))
  (OpJs.cons (OpJ.callFn hB fnOk30 (clone_List_2_ac a0.fIn r1 hr1) [(900000, 100000)] (by kernel_rfl) (ltN hN rfl) (by kernel_rfl) (OpdL.cons (Opd.tmp 4 (.d (.list 1 (a0.fIn.map (eI .i64))))) OpdL.nil))
  (OpJs.cons (OpJ.val (v' := (.ptr 1001 3 [3])) (by rfl) (OpJ.fieldP Try.underlying30 (by rfl) (o := 3) (by rfl) tyS22 (by decide) (obj := (.box 30 (.d (e_api_Series a0)))) (ltN hN rfl) (Opd.tmp 1 (.ptr 1001 0 []))))
  (OpJs.cons (OpJ.loadB (bt := 30) (c := (.d (e_api_Series a0))) (v := (.d (.list 1 (a0.fOut.map (eI .i64))))) tyS22 (At.dst1 (f := (.list 1 (a0.fOut.map (eI .i64)))) (by rfl) (by rfl) (At.here _) (by first | rfl | omega)) (by rfl) (by rfl) rfl (ltN hN rfl) (Opd.tmp 6 (.ptr 1001 3 [3])))
  (OpJs.cons (OpJ.callFn hB fnOk30 (clone_List_2_ac a0.fOut r2 hr2) [(900000, 100100)] (by kernel_rfl) (ltN hN rfl) (by kernel_rfl) (OpdL.cons (Opd.tmp 7 (.d (.list 1 (a0.fOut.map (eI .i64))))) OpdL.nil))
  (OpJs.cons (OpJ.val (v' := (.ptr 1001 2 [2])) (by rfl) (OpJ.fieldP Try.underlying30 (by rfl) (o := 2) (by rfl) tyS22 (by decide) (obj := (.box 30 (.d (e_api_Series a0)))) (ltN hN rfl) (Opd.tmp 1 (.ptr 1001 0 []))))
  (OpJs.cons (OpJ.storeB (bt := 30) (c := (.d (e_api_Series a0))) (v := (.sref 100000 1 0 r1.length)) (c' := (.st [(.d (.int .i64 a0.fPort)), (.d (.int .i64 a0.fSeconds)), (.sref 100000 1 0 r1.length), (.d (.list 1 (a0.fOut.map (eI .i64))))])) tyS22 (SetAt.lift (fs := [(.int .i64 a0.fPort), (.int .i64 a0.fSeconds), (.list 1 (a0.fIn.map (eI .i64))), (.list 1 (a0.fOut.map (eI .i64)))]) (SetAt.st1 (by rfl) (by rfl) (SetAt.here _ _) (by rfl) (by rfl) (by first | rfl | omega))) (by rfl) (by rfl) (by simp) rfl (Opd.tmp 9 (.ptr 1001 2 [2])) (Opd.tmp 5 (.sref 100000 1 0 r1.length)))
  (OpJs.cons (OpJ.val (v' := (.ptr 1001 3 [3])) (by rfl) (OpJ.fieldP Try.underlying30 (by rfl) (o := 3) (by rfl) tyS22 (by decide) (obj := (.box 30 (.st [(.d (.int .i64 a0.fPort)), (.d (.int .i64 a0.fSeconds)), (.sref 100000 1 0 r1.length), (.d (.list 1 (a0.fOut.map (eI .i64))))]))) (ltN hN rfl) (Opd.tmp 1 (.ptr 1001 0 []))))
  (OpJs.cons (OpJ.storeB (bt := 30) (c := (.st [(.d (.int .i64 a0.fPort)), (.d (.int .i64 a0.fSeconds)), (.sref 100000 1 0 r1.length), (.d (.list 1 (a0.fOut.map (eI .i64))))])) (v := (.sref 100100 1 0 r2.length)) (c' := (.st [(.d (.int .i64 a0.fPort)), (.d (.int .i64 a0.fSeconds)), (.sref 100000 1 0 r1.length), (.sref 100100 1 0 r2.length)])) tyS22 (SetAt.st1 (f := (.d (.list 1 (a0.fOut.map (eI .i64))))) (by rfl) (by rfl) (SetAt.here _ _) (by rfl) (by rfl) (by first | rfl | omega)) (by rfl) (by rfl) (by simp) rfl (Opd.tmp 10 (.ptr 1001 3 [3])) (Opd.tmp 8 (.sref 100100 1 0 r2.length)))
  (OpJs.nil))))))))))) (by kernel_rfl) (by rfl) (by rfl) ?_
  refine seqQ_n ?_
  refine AWp.ghost (Mat.pat [] [(1, (.ptr 1001 0 [])), (2, (.ptr 1002 0 []))] [(1001, some (.box 30 (.st [(.d (.int .i64 a0.fPort)), (.d (.int .i64 a0.fSeconds)), (.sref 100000 1 0 r1.length), (.sref 100100 1 0 r2.length)]))), (1002, some (.box 30 (.st [(.d (.int .i64 (0 : Int))), (.d (.int .i64 (0 : Int))), .nils, .nils]))), (100000, some (.row 3 1 (r1.map (eI .i64)))), (100100, some (.row 3 1 (r2.map (eI .i64))))] hB (by rfl) (by rfl) (by rfl)) ?_
  refine AWp.seq ?_
  refine AWp.region (OpJs.cons (OpJ.loadB (bt := 30) (c := (.st [(.d (.int .i64 a0.fPort)), (.d (.int .i64 a0.fSeconds)), (.sref 100000 1 0 r1.length), (.sref 100100 1 0 r2.length)])) (v := (.st [(.d (.int .i64 a0.fPort)), (.d (.int .i64 a0.fSeconds)), (.sref 100000 1 0 r1.length), (.sref 100100 1 0 r2.length)])) tyS30 (At.here _) (by rfl) (by rfl) rfl (ltN hN rfl) (Opd.tmp 1 (.ptr 1001 0 [])))
  (OpJs.cons (OpJ.storeB (bt := 30) (c := (.st [(.d (.int .i64 (0 : Int))), (.d (.int .i64 (0 : Int))), .nils, .nils])) (v := (.st [(.d (.int .i64 a0.fPort)), (.d (.int .i64 a0.fSeconds)), (.sref 100000 1 0 r1.length), (.sref 100100 1 0 r2.length)])) (c' := (.st [(.d (.int .i64 a0.fPort)), (.d (.int .i64 a0.fSeconds)), (.sref 100000 1 0 r1.length), (.sref 100100 1 0 r2.length)])) tyS30 (SetAt.here _ _) (by rfl) (by rfl) (by simp) rfl (Opd.tmp 2 (.ptr 1002 0 [])) (Opd.tmp 11 (.st [(.d (.int .i64 a0.fPort)), (.d (.int .i64 a0.fSeconds)), (.sref 100000 1 0 r1.length), (.sref 100100 1 0 r2.length)])))
  (OpJs.nil))) (by rfl) (by rfl) ?_
  refine seqQ_n ?_
  refine AWp.ghost (Mat.pat [] [(2, (.ptr 1002 0 []))] [(1002, some (.box 30 (.st [(.d (.int .i64 a0.fPort)), (.d (.int .i64 a0.fSeconds)), (.sref 100000 1 0 r1.length), (.sref 100100 1 0 r2.length)]))), (100000, some (.row 3 1 (r1.map (eI .i64)))), (100100, some (.row 3 1 (r2.map (eI .i64))))] hB (by rfl) (by rfl) (by rfl)) ?_
  refine AWp.ret ?_
  obtain rfl := Option.some.inj h
  exact ⟨.inl rfl, _, _, (Mat.pat [(900000, 100000), (900001, 100100)] [(2, (.ptr 1002 0 []))] [(1002, some (.box 30 (.st [(.d (.int .i64 a0.fPort)), (.d (.int .i64 a0.fSeconds)), (.sref 900000 1 0 r1.length), (.sref 900001 1 0 r2.length)]))), (900000, some (.row 3 1 (r1.map (eI .i64)))), (900001, some (.row 3 1 (r2.map (eI .i64))))] hB (by rfl) (by rfl) (by rfl)), [(.st [(.d (.int .i64 a0.fPort)), (.d (.int .i64 a0.fSeconds)), (.sref 900000 1 0 r1.length), (.sref 900001 1 0 r2.length)])], (Res.cell (c := (.st [(.d (.int .i64 a0.fPort)), (.d (.int .i64 a0.fSeconds)), (.sref 900000 1 0 r1.length), (.sref 900001 1 0 r2.length)])) (by rfl) (by rfl) tyS30 (by rfl) (by rfl) (by rfl) Res.nil), rfl, by rfl, by rfl, by rfl⟩


end Go.Proofs.Ytgbfjigliajbkaa
