/- Printed by gen.py: the Go functions as plain functions, and that the code does what they say. -/
import Derived.Test.YtgbfjigliajbkaaChecked
import Derived.Test.YtgbfjigliajbkaaVcT
import Derived.KernelRfl
import Derived.Test.YtgbfjigliajbkaaExt
namespace Go.Proofs.Ytgbfjigliajbkaa
open Go Go.Vc
def e_LeIi64 (x : (List Int)) : D := (.list 1 (x.map (eI .i64)))

structure exchangepointmill_Deck where
  fL : (List Int)
  fAt : Int
def e_exchangepointmill_Deck (x : exchangepointmill_Deck) : D := .st [(.list 1 (x.fL.map (eI .i64))), (.int .i64 x.fAt)]

structure api_Series where
  fPort : Int
  fSeconds : Int
  fIn : (List Int)
  fOut : (List Int)
def e_api_Series (x : api_Series) : D := .st [(.int .i64 x.fPort), (.int .i64 x.fSeconds), (.list 1 (x.fIn.map (eI .i64))), (.list 1 (x.fOut.map (eI .i64)))]

theorem tyE3 : TyE Try.prog 3 1 8 := ⟨by kernel_rfl, by decide⟩

theorem fnOk30 : FnOk Try.prog 30 := ⟨by kernel_rfl⟩

theorem fnOk31 : FnOk Try.prog 31 := ⟨by kernel_rfl⟩

theorem tyS3 : TyS Try.prog 3 1 false := ⟨by kernel_rfl, by kernel_rfl⟩

theorem fnOk8 : FnOk Try.prog 8 := ⟨by kernel_rfl⟩

theorem tyZD3 : TyZ Try.prog 3 (.d (.int .i64 (0 : Int))) := ⟨by kernel_rfl, fun w => by kernel_rfl⟩

theorem fnOk35 : FnOk Try.prog 35 := ⟨by kernel_rfl⟩

theorem fnOk20 : FnOk Try.prog 20 := ⟨by kernel_rfl⟩

theorem fnOk9 : FnOk Try.prog 9 := ⟨by kernel_rfl⟩

theorem fnOk10 : FnOk Try.prog 10 := ⟨by kernel_rfl⟩

theorem tyS22 : TyS Try.prog 22 1 false := ⟨by kernel_rfl, by kernel_rfl⟩

theorem fnOk34 : FnOk Try.prog 34 := ⟨by kernel_rfl⟩

theorem fnOk21 : FnOk Try.prog 21 := ⟨by kernel_rfl⟩

noncomputable def clone_List_2 (a0 : (List Int)) : Option ((List Int)) :=
  chk (decide (a0.length ≤ LIM)) <|
  some a0
set_option maxHeartbeats 4000000 in
set_option maxRecDepth 100000 in
theorem clone_List_2_ac (a0 : (List Int)) (r : (List Int)) (h : clone_List_2 a0 = some r) : AC Try.prog 30 [(.d (.list 1 (a0.map (eI .i64))))] [] (.sref 900000 1 0 r.length) [(900000, some (.row 3 1 (r.map (eI .i64))))] := by
  refine AC.of_code2 Try.func30 rfl rfl (Nat.le_of_ble_eq_true (by rfl)) fun B hB hN => ?_
  delta clone_List_2 at h
  refine AWp.seq ?_
  refine AWp.region (OpJs.cons (OpJ.assign (ltN hN rfl) Opd.nils)
  (OpJs.nil)) (by rfl) (by rfl) ?_
  refine seqQ_n ?_
  refine AWp.ghost (Mat.pat [] [(0, (.d (.list 1 (a0.map (eI .i64)))))] [] hB (by rfl) (by rfl) (by rfl)) ?_
  refine AWp.seq ?_
  obtain ⟨hc1, h⟩ := chk_some h
  refine AWp.region (OpJs.cons (OpJ.move (ltN hN rfl) (Opd.tmp 0 (.d (.list 1 (a0.map (eI .i64))))))
  (OpJs.cons (OpJ.appendN hB Try.underlying22 tyE3 (nm := 1004) (by decide) (ys := a0.map (eI .i64)) (len := a0.length) (by simp) (map_sz (f := (eI .i64)) (fun _ => rfl)) (by rw [List.length_map]; exact lim_mulN hc1 (by decide)) (by rw [List.length_map]; exact lim_leN hc1) (ltN hN rfl) Opd.nils (Opd.tmp 3 (.d (.list 1 (a0.map (eI .i64))))))
  (OpJs.cons (OpJ.assign (ltN hN rfl) (Opd.tmp 4 (.sref 1004 1 0 a0.length)))
  (OpJs.nil)))) (by rfl) (by rfl) ?_
  refine seqQ_n ?_
  refine AWp.ghost (Mat.pat [] [(2, (.sref 1004 1 0 a0.length))] [(1004, some (.row 3 1 (a0.map (eI .i64))))] hB (by rfl) (by rfl) (by rfl)) ?_
  refine AWp.ret ?_
  obtain rfl := Option.some.inj h
  exact ⟨.inl rfl, _, _, (Mat.pat [(900000, 1004)] [(2, (.sref 900000 1 0 a0.length))] [(900000, some (.row 3 1 (a0.map (eI .i64))))] hB (by rfl) (by rfl) (by rfl)), [(.sref 900000 1 0 a0.length)], (Res.tmp (by rfl) (by rfl) Res.nil), rfl, by rfl, by rfl, by rfl⟩

noncomputable def percentile_Percentile (a0 : (List Int)) (a1 : Int) : Option (Int × Int) :=
  (if (((decide (a1 < (1 : Int))) || (decide ((100 : Int) < a1))) || (decide ((9000 : Int) < (a0.length : Int)))) = true then
  some ((0 : Int), (1 : Int))
  else
  (if ((a0.length : Int) == (0 : Int)) = true then
  some ((0 : Int), (39 : Int))
  else
  (clone_List_2 a0).bind fun r3 =>
  (ext31_slices_Sort r3).bind fun r4 =>
  chk (decide (r4.length = r3.length)) <|
  (idx r4 (w64 ((w64 (Int.tdiv (w64 ((w64 (a1 * (a0.length : Int))) + (99 : Int))) (100 : Int))) - (1 : Int)))).bind fun x6 =>
  (idx r4 (w64 ((w64 (Int.tdiv (w64 ((w64 (a1 * (a0.length : Int))) + (99 : Int))) (100 : Int))) - (1 : Int)))).bind fun x7 =>
  some (x7, (0 : Int))))
set_option maxHeartbeats 4000000 in
set_option maxRecDepth 100000 in
theorem percentile_Percentile_ac (a0 : (List Int)) (a1 : Int) (r : Int × Int) (h : percentile_Percentile a0 a1 = some r) : AC Try.prog 8 [(.d (.list 1 (a0.map (eI .i64)))), (.d (.int .i64 a1))] [] (.tup [(.d (.int .i64 r.1)), (.d (.int .i64 r.2))]) [] := by
  refine AC.of_code2 Try.func8 rfl rfl (Nat.le_of_ble_eq_true (by rfl)) fun B hB hN => ?_
  delta percentile_Percentile at h
  refine AWp.seq ?_
  refine AWp.region (OpJs.cons (OpJ.assign (ltN hN rfl) (Opd.int .i64 (0)))
  (OpJs.cons (OpJ.assign (ltN hN rfl) (Opd.int .i64 (0)))
  (OpJs.nil))) (by rfl) (by rfl) ?_
  refine seqQ_n ?_
  refine AWp.ghost (Mat.pat [] [(0, (.d (.list 1 (a0.map (eI .i64))))), (1, (.d (.int .i64 a1)))] [] hB (by rfl) (by rfl) (by rfl)) ?_
  refine AWp.seq ?_
  refine AWp.seq ?_
  refine AWp.region (OpJs.cons (OpJ.move (ltN hN rfl) (Opd.tmp 1 (.d (.int .i64 a1))))
  (OpJs.cons (OpJ.lss (ltN hN rfl) (Opd.tmp 7 (.d (.int .i64 a1))) (Opd.int .i64 (1)))
  (OpJs.cons (OpJ.move (ltN hN rfl) (Opd.tmp 8 (.d (.bool (decide (a1 < (1 : Int)))))))
  (OpJs.cons (OpJ.opt' (v := (.d (.int .i64 a1))) (OpJ.move (ltN hN rfl) (Opd.tmp 1 (.d (.int .i64 a1)))) (by rfl) (GuardV.plain _) (ltN hN rfl) (by rfl) (by rfl) (by rfl) (by rfl) (OptL.keep rfl OptL.nil))
  (OpJs.cons (OpJ.opt' (v := (.d (.bool (decide ((100 : Int) < a1))))) (OpJ.gtr (ltN hN rfl) (Opd.tmp 10 (.d (.int .i64 a1))) (Opd.int .i64 (100))) (by rfl) (GuardV.plain _) (ltN hN rfl) (by rfl) (by rfl) (by rfl) (by rfl) (OptL.opt OptL.nil))
  (OpJs.cons (OpJ.pickOr rfl (ltN hN rfl) (Opd.tmp 9 (.d (.bool (decide (a1 < (1 : Int)))))) (Opd.tmp 11 (.opt ((decide (a1 < (1 : Int))) == false) (.d (.bool (decide ((100 : Int) < a1)))))))
  (OpJs.cons (OpJ.move (ltN hN rfl) (Opd.tmp 12 (.d (.bool ((decide (a1 < (1 : Int))) || (decide ((100 : Int) < a1)))))))
  (OpJs.cons (OpJ.opt' (v := (.d (.list 1 (a0.map (eI .i64))))) (OpJ.move (ltN hN rfl) (Opd.tmp 0 (.d (.list 1 (a0.map (eI .i64)))))) (by rfl) (GuardV.plain _) (ltN hN rfl) (by rfl) (by rfl) (by rfl) (by rfl) (OptL.keep rfl OptL.nil))
  (OpJs.cons (OpJ.opt' (v := (.d (.int .i64 (a0.length : Int)))) (OpJ.val (v' := (.d (.int .i64 (a0.length : Int)))) (by simp) (OpJ.lenD Try.underlying22 (ltN hN rfl) (Opd.tmp 14 (.d (.list 1 (a0.map (eI .i64))))))) (by rfl) (GuardV.plain _) (ltN hN rfl) (by rfl) (by rfl) (by rfl) (by rfl) (OptL.opt OptL.nil))
  (OpJs.cons (OpJ.opt' (v := (.d (.bool (decide ((9000 : Int) < (a0.length : Int)))))) (OpJ.gtr (ltN hN rfl) (Opd.tmp 15 (.d (.int .i64 (a0.length : Int)))) (Opd.int .i64 (9000))) (by rfl) (GuardV.plain _) (ltN hN rfl) (by rfl) (by rfl) (by rfl) (by rfl) (OptL.opt OptL.nil))
  (OpJs.cons (OpJ.pickOr rfl (ltN hN rfl) (Opd.tmp 13 (.d (.bool ((decide (a1 < (1 : Int))) || (decide ((100 : Int) < a1)))))) (Opd.tmp 16 (.opt (((decide (a1 < (1 : Int))) || (decide ((100 : Int) < a1))) == false) (.d (.bool (decide ((9000 : Int) < (a0.length : Int))))))))
  (OpJs.nil)))))))))))) (by rfl) (by rfl) ?_
  refine seqQ_n ?_
  refine AWp.ghost (Mat.pat [] [(0, (.d (.list 1 (a0.map (eI .i64))))), (1, (.d (.int .i64 a1))), (17, (.d (.bool (((decide (a1 < (1 : Int))) || (decide ((100 : Int) < a1))) || (decide ((9000 : Int) < (a0.length : Int)))))))] [] hB (by rfl) (by rfl) (by rfl)) ?_
  refine AWp.cond (b := (((decide (a1 < (1 : Int))) || (decide ((100 : Int) < a1))) || (decide ((9000 : Int) < (a0.length : Int))))) (by rfl) (fun hg1 => ?_) (fun hg1 => ?_)
  · replace h := ite_t hg1 h
    refine AWp.seq ?_
    refine AWp.region (OpJs.cons (OpJ.assign (ltN hN rfl) (Opd.int .i64 (0)))
      (OpJs.cons (OpJ.assign (ltN hN rfl) (Opd.int .i64 (1)))
      (OpJs.nil))) (by rfl) (by rfl) ?_
    refine seqQ_n ?_
    refine AWp.ghost (Mat.pat [] [(4, (.d (.int .i64 (0 : Int)))), (5, (.d (.int .i64 (1 : Int))))] [] hB (by rfl) (by rfl) (by rfl)) ?_
    refine AWp.ret ?_
    refine seqQ_r ?_
    obtain rfl := Option.some.inj h
    exact ⟨.inl rfl, _, _, (Mat.pat [] [(4, (.d (.int .i64 (0 : Int)))), (5, (.d (.int .i64 (1 : Int))))] [] hB (by rfl) (by rfl) (by rfl)), [(.d (.int .i64 (0 : Int))), (.d (.int .i64 (1 : Int)))], (Res.tmp (by rfl) (by rfl) (Res.tmp (by rfl) (by rfl) Res.nil)), rfl, by rfl, by rfl, by rfl⟩
  · replace h := ite_f hg1 h
    refine AWp.skip ?_
    refine seqQ_n ?_
    refine AWp.seq ?_
    refine AWp.seq ?_
    refine AWp.region (OpJs.cons (OpJ.move (ltN hN rfl) (Opd.tmp 0 (.d (.list 1 (a0.map (eI .i64))))))
      (OpJs.cons (OpJ.val (v' := (.d (.int .i64 (a0.length : Int)))) (by simp) (OpJ.lenD Try.underlying22 (ltN hN rfl) (Opd.tmp 18 (.d (.list 1 (a0.map (eI .i64)))))))
      (OpJs.cons (OpJ.eqlI (ltN hN rfl) (Opd.tmp 19 (.d (.int .i64 (a0.length : Int)))) (Opd.int .i64 (0)))
      (OpJs.nil)))) (by rfl) (by rfl) ?_
    refine seqQ_n ?_
    refine AWp.ghost (Mat.pat [] [(0, (.d (.list 1 (a0.map (eI .i64))))), (1, (.d (.int .i64 a1))), (20, (.d (.bool ((a0.length : Int) == (0 : Int)))))] [] hB (by rfl) (by rfl) (by rfl)) ?_
    refine AWp.cond (b := ((a0.length : Int) == (0 : Int))) (by rfl) (fun hg2 => ?_) (fun hg2 => ?_)
    · replace h := ite_t hg2 h
      refine AWp.seq ?_
      refine AWp.region (OpJs.cons (OpJ.assign (ltN hN rfl) (Opd.int .i64 (0)))
        (OpJs.cons (OpJ.assign (ltN hN rfl) (Opd.int .i64 (39)))
        (OpJs.nil))) (by rfl) (by rfl) ?_
      refine seqQ_n ?_
      refine AWp.ghost (Mat.pat [] [(4, (.d (.int .i64 (0 : Int)))), (5, (.d (.int .i64 (39 : Int))))] [] hB (by rfl) (by rfl) (by rfl)) ?_
      refine AWp.ret ?_
      refine seqQ_r ?_
      obtain rfl := Option.some.inj h
      exact ⟨.inl rfl, _, _, (Mat.pat [] [(4, (.d (.int .i64 (0 : Int)))), (5, (.d (.int .i64 (39 : Int))))] [] hB (by rfl) (by rfl) (by rfl)), [(.d (.int .i64 (0 : Int))), (.d (.int .i64 (39 : Int)))], (Res.tmp (by rfl) (by rfl) (Res.tmp (by rfl) (by rfl) Res.nil)), rfl, by rfl, by rfl, by rfl⟩
    · replace h := ite_f hg2 h
      refine AWp.skip ?_
      refine seqQ_n ?_
      refine AWp.seq ?_
      obtain ⟨r3, hr3, h⟩ := bindS h
      refine AWp.region (OpJs.cons (OpJ.move (ltN hN rfl) (Opd.tmp 0 (.d (.list 1 (a0.map (eI .i64))))))
        (OpJs.cons (OpJ.callFn hB fnOk30 (clone_List_2_ac a0 r3 hr3) [(900000, 100000)] (by kernel_rfl) (ltN hN rfl) (by kernel_rfl) (OpdL.cons (Opd.tmp 21 (.d (.list 1 (a0.map (eI .i64))))) OpdL.nil))
        (OpJs.cons (OpJ.assign (ltN hN rfl) (Opd.tmp 22 (.sref 100000 1 0 r3.length)))
        (OpJs.nil)))) (by rfl) (by rfl) ?_
      refine seqQ_n ?_
      refine AWp.ghost (Mat.pat [] [(0, (.d (.list 1 (a0.map (eI .i64))))), (1, (.d (.int .i64 a1))), (6, (.sref 100000 1 0 r3.length))] [(100000, some (.row 3 1 (r3.map (eI .i64))))] hB (by rfl) (by rfl) (by rfl)) ?_
      refine AWp.seq ?_
      obtain ⟨r4, hr4, h⟩ := bindS h
      obtain ⟨hc5, h⟩ := chk_some h
      have hc5_o := of_decide_eq_true hc5
      refine AWp.region (OpJs.cons (OpJ.move (ltN hN rfl) (Opd.tmp 6 (.sref 100000 1 0 r3.length)))
        (OpJs.cons (OpJ.callFn hB fnOk31 (ext31_slices_Sort_ac r3 r4 hr4) [(0, 100000)] (by kernel_rfl) (ltN hN rfl) (by kernel_rfl) (OpdL.cons (Opd.tmp 23 (.sref 100000 1 0 r3.length)) OpdL.nil))
        (OpJs.nil))) (by rfl) (by rfl) ?_
      refine seqQ_n ?_
      refine AWp.ghost (Mat.pat [] [(0, (.d (.list 1 (a0.map (eI .i64))))), (1, (.d (.int .i64 a1))), (6, (.sref 100000 1 0 r3.length))] [(100000, some (.row 3 1 (r4.map (eI .i64))))] hB (by rfl) (by rfl) (by rfl)) ?_
      refine AWp.seq ?_
      obtain ⟨x6, hx6, h⟩ := bindS h
      obtain ⟨x7, hx7, h⟩ := bindS h
      refine AWp.region (OpJs.cons (OpJ.move (ltN hN rfl) (Opd.tmp 6 (.sref 100000 1 0 r3.length)))
        (OpJs.cons (OpJ.move (ltN hN rfl) (Opd.tmp 1 (.d (.int .i64 a1))))
        (OpJs.cons (OpJ.move (ltN hN rfl) (Opd.tmp 0 (.d (.list 1 (a0.map (eI .i64))))))
        (OpJs.cons (OpJ.val (v' := (.d (.int .i64 (a0.length : Int)))) (by simp) (OpJ.lenD Try.underlying22 (ltN hN rfl) (Opd.tmp 27 (.d (.list 1 (a0.map (eI .i64)))))))
        (OpJs.cons (OpJ.mul (ltN hN rfl) (Opd.tmp 26 (.d (.int .i64 a1))) (Opd.tmp 28 (.d (.int .i64 (a0.length : Int)))))
        (OpJs.cons (OpJ.add (ltN hN rfl) (Opd.tmp 29 (.d (.int .i64 (w64 (a1 * (a0.length : Int)))))) (Opd.int .i64 (99)))
        (OpJs.cons (OpJ.quo (ltN hN rfl) (Opd.tmp 30 (.d (.int .i64 (w64 ((w64 (a1 * (a0.length : Int))) + (99 : Int)))))) (Opd.int .i64 (100)) (by decide))
        (OpJs.cons (OpJ.sub (ltN hN rfl) (Opd.tmp 31 (.d (.int .i64 (w64 (Int.tdiv (w64 ((w64 (a1 * (a0.length : Int))) + (99 : Int))) (100 : Int)))))) (Opd.int .i64 (1)))
        (OpJs.cons (OpJ.val (v' := (.ptr 100000 ((w64 ((w64 (Int.tdiv (w64 ((w64 (a1 * (a0.length : Int))) + (99 : Int))) (100 : Int))) - (1 : Int))).toNat * 1) [(w64 ((w64 (Int.tdiv (w64 ((w64 (a1 * (a0.length : Int))) + (99 : Int))) (100 : Int))) - (1 : Int))).toNat])) (by simp) (OpJ.indexS Try.underlying22 tyS3 (obj := (.row 3 1 (r4.map (eI .i64)))) (idx_some hx6).1 (by have := idx_lt hx6; first | (simpa using this) | ((try simp only [List.length_map] at this); (try simp only [List.length_map]); omega)) (ltN hN rfl) (Opd.tmp 25 (.sref 100000 1 0 r3.length)) (Opd.tmp 32 (.d (.int .i64 (w64 ((w64 (Int.tdiv (w64 ((w64 (a1 * (a0.length : Int))) + (99 : Int))) (100 : Int))) - (1 : Int))))))))
        (OpJs.cons (OpJ.loadR (e := 3) (sz := 1) (es := r4.map (eI .i64)) tyS3 (get_map (eI .i64) (idx_some hx7).2) (o := 0) (v := (.int .i64 x7)) (At.here _) (by rfl) (by rfl) (by rfl) (ltN hN rfl) (Opd.tmp 33 (.ptr 100000 ((w64 ((w64 (Int.tdiv (w64 ((w64 (a1 * (a0.length : Int))) + (99 : Int))) (100 : Int))) - (1 : Int))).toNat * 1) [(w64 ((w64 (Int.tdiv (w64 ((w64 (a1 * (a0.length : Int))) + (99 : Int))) (100 : Int))) - (1 : Int))).toNat])))
        (OpJs.cons (OpJ.assign (ltN hN rfl) (Opd.tmp 34 (.d (.int .i64 x7))))
        (OpJs.cons (OpJ.assign (ltN hN rfl) (Opd.int .i64 (0)))
        (OpJs.nil))))))))))))) (by rfl) (by rfl) ?_
      refine seqQ_n ?_
      refine AWp.ghost (Mat.pat [] [(4, (.d (.int .i64 x7))), (5, (.d (.int .i64 (0 : Int))))] [] hB (by rfl) (by rfl) (by rfl)) ?_
      refine AWp.ret ?_
      obtain rfl := Option.some.inj h
      exact ⟨.inl rfl, _, _, (Mat.pat [] [(4, (.d (.int .i64 x7))), (5, (.d (.int .i64 (0 : Int))))] [] hB (by rfl) (by rfl) (by rfl)), [(.d (.int .i64 x7)), (.d (.int .i64 (0 : Int)))], (Res.tmp (by rfl) (by rfl) (Res.tmp (by rfl) (by rfl) Res.nil)), rfl, by rfl, by rfl, by rfl⟩

noncomputable def percentile_length (a0 : Int) : Option (Bool) :=
  some ((decide ((1 : Int) ≤ a0)) && (decide (a0 ≤ (86400 : Int))))
set_option maxHeartbeats 4000000 in
set_option maxRecDepth 100000 in
theorem percentile_length_ac (a0 : Int) (r : Bool) (h : percentile_length a0 = some r) : AC Try.prog 35 [(.d (.int .i64 a0))] [] (.d (.bool r)) [] := by
  refine AC.of_code2 Try.func35 rfl rfl (Nat.le_of_ble_eq_true (by rfl)) fun B hB hN => ?_
  delta percentile_length at h
  refine AWp.seq ?_
  refine AWp.region (OpJs.cons (OpJ.assign (ltN hN rfl) (Opd.bool false))
  (OpJs.nil)) (by rfl) (by rfl) ?_
  refine seqQ_n ?_
  refine AWp.ghost (Mat.pat [] [(0, (.d (.int .i64 a0)))] [] hB (by rfl) (by rfl) (by rfl)) ?_
  refine AWp.seq ?_
  refine AWp.region (OpJs.cons (OpJ.move (ltN hN rfl) (Opd.tmp 0 (.d (.int .i64 a0))))
  (OpJs.cons (OpJ.geq (ltN hN rfl) (Opd.tmp 3 (.d (.int .i64 a0))) (Opd.int .i64 (1)))
  (OpJs.cons (OpJ.move (ltN hN rfl) (Opd.tmp 4 (.d (.bool (decide ((1 : Int) ≤ a0))))))
  (OpJs.cons (OpJ.opt' (v := (.d (.int .i64 a0))) (OpJ.move (ltN hN rfl) (Opd.tmp 0 (.d (.int .i64 a0)))) (by rfl) (GuardV.plain _) (ltN hN rfl) (by rfl) (by rfl) (by rfl) (by rfl) (OptL.keep rfl OptL.nil))
  (OpJs.cons (OpJ.opt' (v := (.d (.bool (decide (a0 ≤ (86400 : Int)))))) (OpJ.leq (ltN hN rfl) (Opd.tmp 6 (.d (.int .i64 a0))) (Opd.int .i64 (86400))) (by rfl) (GuardV.plain _) (ltN hN rfl) (by rfl) (by rfl) (by rfl) (by rfl) (OptL.opt OptL.nil))
  (OpJs.cons (OpJ.pickAnd rfl (ltN hN rfl) (Opd.tmp 5 (.d (.bool (decide ((1 : Int) ≤ a0))))) (Opd.tmp 7 (.opt ((decide ((1 : Int) ≤ a0)) == true) (.d (.bool (decide (a0 ≤ (86400 : Int))))))))
  (OpJs.cons (OpJ.assign (ltN hN rfl) (Opd.tmp 8 (.d (.bool ((decide ((1 : Int) ≤ a0)) && (decide (a0 ≤ (86400 : Int))))))))
  (OpJs.nil)))))))) (by rfl) (by rfl) ?_
  refine seqQ_n ?_
  refine AWp.ghost (Mat.pat [] [(2, (.d (.bool ((decide ((1 : Int) ≤ a0)) && (decide (a0 ≤ (86400 : Int)))))))] [] hB (by rfl) (by rfl) (by rfl)) ?_
  refine AWp.ret ?_
  obtain rfl := Option.some.inj h
  exact ⟨.inl rfl, _, _, (Mat.pat [] [(2, (.d (.bool ((decide ((1 : Int) ≤ a0)) && (decide (a0 ≤ (86400 : Int)))))))] [] hB (by rfl) (by rfl) (by rfl)), [(.d (.bool ((decide ((1 : Int) ≤ a0)) && (decide (a0 ≤ (86400 : Int))))))], (Res.tmp (by rfl) (by rfl) Res.nil), rfl, by rfl, by rfl, by rfl⟩

noncomputable def percentile_Rate (a0 : Int) (a1 : Int) : Option (Int × Int) :=
  jn (fun m3 : Bool =>
  (if m3 = true then
  some ((0 : Int), (1 : Int))
  else
  chk (decide ((w64 (a1 * (1000000 : Int))) ≠ 0)) <|
  some ((w64 (Int.tdiv (w64 ((w64 ((w64 ((8 : Int) * a0)) + (w64 (a1 * (1000000 : Int))))) - (1 : Int))) (w64 (a1 * (1000000 : Int))))), (0 : Int)))) (fun j4 =>
  (if ((decide (a0 < (0 : Int))) || (decide ((1125899906842624 : Int) < a0))) = true then
  j4 true
  else
  (percentile_length a1).bind fun r8 =>
  j4 (!r8)))
set_option maxHeartbeats 4000000 in
set_option maxRecDepth 100000 in
theorem percentile_Rate_ac (a0 : Int) (a1 : Int) (r : Int × Int) (h : percentile_Rate a0 a1 = some r) : AC Try.prog 20 [(.d (.int .i64 a0)), (.d (.int .i64 a1))] [] (.tup [(.d (.int .i64 r.1)), (.d (.int .i64 r.2))]) [] := by
  refine AC.of_code2 Try.func20 rfl rfl (Nat.le_of_ble_eq_true (by rfl)) fun B hB hN => ?_
  delta percentile_Rate at h
  refine AWp.seq ?_
  refine AWp.region (OpJs.cons (OpJ.assign (ltN hN rfl) (Opd.int .i64 (0)))
  (OpJs.cons (OpJ.assign (ltN hN rfl) (Opd.int .i64 (0)))
  (OpJs.nil))) (by rfl) (by rfl) ?_
  refine seqQ_n ?_
  refine AWp.ghost (Mat.pat [] [(0, (.d (.int .i64 a0))), (1, (.d (.int .i64 a1)))] [] hB (by rfl) (by rfl) (by rfl)) ?_
  refine AWp.seq ?_
  refine AWp.seq ?_
  refine AWp.cut h (fun m3 : Bool => ([(0, (.d (.int .i64 a0))), (1, (.d (.int .i64 a1))), (17, (.d (.bool m3)))] : EL)) (fun m3 : Bool => ([] : OL)) (fun m3 h E' O' hmat => ?_) (fun j4 hjj4 h => ?_)
  · refine seqQ_n ?_
    refine AWp.ghost hmat ?_
    refine AWp.cond (b := m3) (by rfl) (fun hg5 => ?_) (fun hg5 => ?_)
    · replace h := ite_t hg5 h
      refine AWp.seq ?_
      refine AWp.region (OpJs.cons (OpJ.assign (ltN hN rfl) (Opd.int .i64 (0)))
        (OpJs.cons (OpJ.assign (ltN hN rfl) (Opd.int .i64 (1)))
        (OpJs.nil))) (by rfl) (by rfl) ?_
      refine seqQ_n ?_
      refine AWp.ghost (Mat.pat [] [(4, (.d (.int .i64 (0 : Int)))), (5, (.d (.int .i64 (1 : Int))))] [] hB (by rfl) (by rfl) (by rfl)) ?_
      refine AWp.ret ?_
      refine seqQ_r ?_
      obtain rfl := Option.some.inj h
      exact ⟨.inl rfl, _, _, (Mat.pat [] [(4, (.d (.int .i64 (0 : Int)))), (5, (.d (.int .i64 (1 : Int))))] [] hB (by rfl) (by rfl) (by rfl)), [(.d (.int .i64 (0 : Int))), (.d (.int .i64 (1 : Int)))], (Res.tmp (by rfl) (by rfl) (Res.tmp (by rfl) (by rfl) Res.nil)), rfl, by rfl, by rfl, by rfl⟩
    · replace h := ite_f hg5 h
      refine AWp.skip ?_
      refine seqQ_n ?_
      refine AWp.seq ?_
      refine AWp.region (OpJs.cons (OpJ.move (ltN hN rfl) (Opd.tmp 1 (.d (.int .i64 a1))))
        (OpJs.cons (OpJ.mul (ltN hN rfl) (Opd.tmp 18 (.d (.int .i64 a1))) (Opd.int .i64 (1000000)))
        (OpJs.cons (OpJ.assign (ltN hN rfl) (Opd.tmp 19 (.d (.int .i64 (w64 (a1 * (1000000 : Int)))))))
        (OpJs.nil)))) (by rfl) (by rfl) ?_
      refine seqQ_n ?_
      refine AWp.ghost (Mat.pat [] [(0, (.d (.int .i64 a0))), (6, (.d (.int .i64 (w64 (a1 * (1000000 : Int))))))] [] hB (by rfl) (by rfl) (by rfl)) ?_
      refine AWp.seq ?_
      obtain ⟨hc6, h⟩ := chk_some h
      refine AWp.region (OpJs.cons (OpJ.move (ltN hN rfl) (Opd.tmp 0 (.d (.int .i64 a0))))
        (OpJs.cons (OpJ.mul (ltN hN rfl) (Opd.int .i64 (8)) (Opd.tmp 20 (.d (.int .i64 a0))))
        (OpJs.cons (OpJ.move (ltN hN rfl) (Opd.tmp 6 (.d (.int .i64 (w64 (a1 * (1000000 : Int)))))))
        (OpJs.cons (OpJ.add (ltN hN rfl) (Opd.tmp 21 (.d (.int .i64 (w64 ((8 : Int) * a0))))) (Opd.tmp 22 (.d (.int .i64 (w64 (a1 * (1000000 : Int)))))))
        (OpJs.cons (OpJ.sub (ltN hN rfl) (Opd.tmp 23 (.d (.int .i64 (w64 ((w64 ((8 : Int) * a0)) + (w64 (a1 * (1000000 : Int)))))))) (Opd.int .i64 (1)))
        (OpJs.cons (OpJ.move (ltN hN rfl) (Opd.tmp 6 (.d (.int .i64 (w64 (a1 * (1000000 : Int)))))))
        (OpJs.cons (OpJ.quo (ltN hN rfl) (Opd.tmp 24 (.d (.int .i64 (w64 ((w64 ((w64 ((8 : Int) * a0)) + (w64 (a1 * (1000000 : Int))))) - (1 : Int)))))) (Opd.tmp 25 (.d (.int .i64 (w64 (a1 * (1000000 : Int)))))) (of_decide_eq_true hc6))
        (OpJs.cons (OpJ.assign (ltN hN rfl) (Opd.tmp 26 (.d (.int .i64 (w64 (Int.tdiv (w64 ((w64 ((w64 ((8 : Int) * a0)) + (w64 (a1 * (1000000 : Int))))) - (1 : Int))) (w64 (a1 * (1000000 : Int)))))))))
        (OpJs.cons (OpJ.assign (ltN hN rfl) (Opd.int .i64 (0)))
        (OpJs.nil)))))))))) (by rfl) (by rfl) ?_
      refine seqQ_n ?_
      refine AWp.ghost (Mat.pat [] [(4, (.d (.int .i64 (w64 (Int.tdiv (w64 ((w64 ((w64 ((8 : Int) * a0)) + (w64 (a1 * (1000000 : Int))))) - (1 : Int))) (w64 (a1 * (1000000 : Int)))))))), (5, (.d (.int .i64 (0 : Int))))] [] hB (by rfl) (by rfl) (by rfl)) ?_
      refine AWp.ret ?_
      obtain rfl := Option.some.inj h
      exact ⟨.inl rfl, _, _, (Mat.pat [] [(4, (.d (.int .i64 (w64 (Int.tdiv (w64 ((w64 ((w64 ((8 : Int) * a0)) + (w64 (a1 * (1000000 : Int))))) - (1 : Int))) (w64 (a1 * (1000000 : Int)))))))), (5, (.d (.int .i64 (0 : Int))))] [] hB (by rfl) (by rfl) (by rfl)), [(.d (.int .i64 (w64 (Int.tdiv (w64 ((w64 ((w64 ((8 : Int) * a0)) + (w64 (a1 * (1000000 : Int))))) - (1 : Int))) (w64 (a1 * (1000000 : Int))))))), (.d (.int .i64 (0 : Int)))], (Res.tmp (by rfl) (by rfl) (Res.tmp (by rfl) (by rfl) Res.nil)), rfl, by rfl, by rfl, by rfl⟩
  · rcases Bool.eq_false_or_eq_true ((decide (a0 < (0 : Int))) || (decide ((1125899906842624 : Int) < a0))) with hg7 | hg7
    · replace h := ite_t hg7 h
      refine AWp.region (OpJs.cons (OpJ.move (ltN hN rfl) (Opd.tmp 0 (.d (.int .i64 a0))))
        (OpJs.cons (OpJ.lss (ltN hN rfl) (Opd.tmp 7 (.d (.int .i64 a0))) (Opd.int .i64 (0)))
        (OpJs.cons (OpJ.move (ltN hN rfl) (Opd.tmp 8 (.d (.bool (decide (a0 < (0 : Int)))))))
        (OpJs.cons (OpJ.opt' (v := (.d (.int .i64 a0))) (OpJ.move (ltN hN rfl) (Opd.tmp 0 (.d (.int .i64 a0)))) (by rfl) (GuardV.plain _) (ltN hN rfl) (by rfl) (by rfl) (by rfl) (by rfl) (OptL.keep rfl OptL.nil))
        (OpJs.cons (OpJ.opt' (v := (.d (.bool (decide ((1125899906842624 : Int) < a0))))) (OpJ.gtr (ltN hN rfl) (Opd.tmp 10 (.d (.int .i64 a0))) (Opd.int .i64 (1125899906842624))) (by rfl) (GuardV.plain _) (ltN hN rfl) (by rfl) (by rfl) (by rfl) (by rfl) (OptL.opt OptL.nil))
        (OpJs.cons (OpJ.pickOr rfl (ltN hN rfl) (Opd.tmp 9 (.d (.bool (decide (a0 < (0 : Int)))))) (Opd.tmp 11 (.opt ((decide (a0 < (0 : Int))) == false) (.d (.bool (decide ((1125899906842624 : Int) < a0)))))))
        (OpJs.cons (OpJ.val (v' := .d (.bool true)) (by rw [hg7]) (OpJ.move (ltN hN rfl) (Opd.tmp 12 (.d (.bool ((decide (a0 < (0 : Int))) || (decide ((1125899906842624 : Int) < a0))))))))
        (OpJs.cons (OpJ.skipU (ltN hN rfl) (by rfl))
        (OpJs.cons (OpJ.skipU (ltN hN rfl) (by rfl))
        (OpJs.cons (OpJ.skipU (ltN hN rfl) (by rfl))
        (OpJs.cons (OpJ.pickT (ltN hN rfl) (Opd.tmp 13 (.d (.bool true))) (Opd.bool true))
        (OpJs.nil)))))))))))) (by rfl) (by rfl) ?_
      exact hjj4 _ h _ _ (Mat.trans (Mat.pat [] [(0, (.d (.int .i64 a0))), (1, (.d (.int .i64 a1))), (17, (.d (.bool true)))] [] hB (by rfl) (by rfl) (by rfl)) (Mat.pat [] ((fun m3 : Bool => ([(0, (.d (.int .i64 a0))), (1, (.d (.int .i64 a1))), (17, (.d (.bool m3)))] : EL)) true) ((fun m3 : Bool => ([] : OL)) true) hB (by rfl) (by rfl) (by rfl)))
    · replace h := ite_f hg7 h
      obtain ⟨r8, hr8, h⟩ := bindS h
      refine AWp.region (OpJs.cons (OpJ.move (ltN hN rfl) (Opd.tmp 0 (.d (.int .i64 a0))))
        (OpJs.cons (OpJ.lss (ltN hN rfl) (Opd.tmp 7 (.d (.int .i64 a0))) (Opd.int .i64 (0)))
        (OpJs.cons (OpJ.move (ltN hN rfl) (Opd.tmp 8 (.d (.bool (decide (a0 < (0 : Int)))))))
        (OpJs.cons (OpJ.opt' (v := (.d (.int .i64 a0))) (OpJ.move (ltN hN rfl) (Opd.tmp 0 (.d (.int .i64 a0)))) (by rfl) (GuardV.plain _) (ltN hN rfl) (by rfl) (by rfl) (by rfl) (by rfl) (OptL.keep rfl OptL.nil))
        (OpJs.cons (OpJ.opt' (v := (.d (.bool (decide ((1125899906842624 : Int) < a0))))) (OpJ.gtr (ltN hN rfl) (Opd.tmp 10 (.d (.int .i64 a0))) (Opd.int .i64 (1125899906842624))) (by rfl) (GuardV.plain _) (ltN hN rfl) (by rfl) (by rfl) (by rfl) (by rfl) (OptL.opt OptL.nil))
        (OpJs.cons (OpJ.pickOr rfl (ltN hN rfl) (Opd.tmp 9 (.d (.bool (decide (a0 < (0 : Int)))))) (Opd.tmp 11 (.opt ((decide (a0 < (0 : Int))) == false) (.d (.bool (decide ((1125899906842624 : Int) < a0)))))))
        (OpJs.cons (OpJ.val (v' := .d (.bool false)) (by rw [hg7]) (OpJ.move (ltN hN rfl) (Opd.tmp 12 (.d (.bool ((decide (a0 < (0 : Int))) || (decide ((1125899906842624 : Int) < a0))))))))
        (OpJs.cons (OpJ.guarded (by rfl) (OpJ.move (ltN hN rfl) (Opd.tmp 1 (.d (.int .i64 a1)))))
        (OpJs.cons (OpJ.guarded (by rfl) (OpJ.callFn hB fnOk35 (percentile_length_ac a1 r8 hr8) [] (by kernel_rfl) (ltN hN rfl) (by kernel_rfl) (OpdL.cons (Opd.tmp 14 (.d (.int .i64 a1))) OpdL.nil)))
        (OpJs.cons (OpJ.guarded (by rfl) (OpJ.not (ltN hN rfl) (Opd.tmp 15 (.d (.bool r8)))))
        (OpJs.cons (OpJ.pickF (ltN hN rfl) (Opd.tmp 13 (.d (.bool false))) (Opd.tmp 16 (.d (.bool (!r8)))))
        (OpJs.nil)))))))))))) (by rfl) (by rfl) ?_
      exact hjj4 _ h _ _ (Mat.trans (Mat.pat [] [(0, (.d (.int .i64 a0))), (1, (.d (.int .i64 a1))), (17, (.d (.bool (!r8))))] [] hB (by rfl) (by rfl) (by rfl)) (Mat.pat [] ((fun m3 : Bool => ([(0, (.d (.int .i64 a0))), (1, (.d (.int .i64 a1))), (17, (.d (.bool m3)))] : EL)) (!r8)) ((fun m3 : Bool => ([] : OL)) (!r8)) hB (by rfl) (by rfl) (by rfl)))

noncomputable def exchangepointlaw40_awake_L0 (s1 : Int × (List Int)) : Option ((((List Int))) ⊕ (Int × (List Int))) :=
  (if (decide ((0 : Int) < s1.1)) = true then
  chk (decide ((s1.2 ++ ([s1.1] : List Int)).length ≤ LIM)) <|
  some (.inr ((w64 (s1.1 - (1 : Int))), (s1.2 ++ ([s1.1] : List Int))))
  else
  some (.inl s1.2))
noncomputable def exchangepointlaw40_awake : Option (Bool) :=
  (loop (exchangepointlaw40_awake_L0) ((20 : Int), ([] : List Int))).bind fun p6 =>
  (percentile_Percentile p6 (95 : Int)).bind fun r11 =>
  (percentile_Rate (37500001 : Int) (300 : Int)).bind fun r12 =>
  some ((((r11.2 == (0 : Int)) && (r12.2 == (0 : Int))) && (r11.1 == (19 : Int))) && (r12.1 == (2 : Int)))
set_option maxHeartbeats 4000000 in
set_option maxRecDepth 100000 in
theorem exchangepointlaw40_awake_ac (r : Bool) (h : exchangepointlaw40_awake = some r) : AC Try.prog 9 [] [] (.d (.bool r)) [] := by
  refine AC.of_code2 Try.func9 rfl rfl (Nat.le_of_ble_eq_true (by rfl)) fun B hB hN => ?_
  delta exchangepointlaw40_awake at h
  refine AWp.seq ?_
  refine AWp.region (OpJs.cons (OpJ.assign (ltN hN rfl) (Opd.bool false))
  (OpJs.nil)) (by rfl) (by rfl) ?_
  refine seqQ_n ?_
  refine AWp.ghost (Mat.pat [] [] [] hB (by rfl) (by rfl) (by rfl)) ?_
  refine AWp.seq ?_
  refine AWp.region (OpJs.cons (OpJ.assign (ltN hN rfl) Opd.nils)
  (OpJs.nil)) (by rfl) (by rfl) ?_
  refine seqQ_n ?_
  refine AWp.ghost (Mat.pat [] [(1, .nils)] [] hB (by rfl) (by rfl) (by rfl)) ?_
  refine AWp.seq ?_
  refine AWp.seq ?_
  refine AWp.region (OpJs.cons (OpJ.assign (ltN hN rfl) (Opd.int .i64 (20)))
  (OpJs.nil)) (by rfl) (by rfl) ?_
  refine seqQ_n ?_
  refine AWp.ghost (Mat.pat [] [(1, .nils), (2, (.d (.int .i64 (20 : Int))))] [] hB (by rfl) (by rfl) (by rfl)) ?_
  refine AWp.block ?_
  obtain ⟨p6, hx10, h⟩ := bindS h
  refine AWp.ghost (Mat.trans (Mat.beginP (n := 3001) (e := 3) (sz := 1) (Ts := [(1, (.sref 3001 1 0 0))]) (Bs := []) hB (by decide) (by rfl) (by decide) (TwT.cons (x := .nils) (by rfl) (Tw.leaf ⟨rfl, rfl⟩) TwT.nil) TwB.nil) (Mat.pat [] ((fun s1 : Int × (List Int) => ([(1, (.sref 3001 1 0 s1.2.length)), (2, (.d (.int .i64 s1.1)))] : EL)) ((20 : Int), ([] : List Int))) ((fun s1 : Int × (List Int) => ([(3001, some (.row 3 1 (s1.2.map (eI .i64))))] : OL)) ((20 : Int), ([] : List Int))) hB (by rfl) (by rfl) (by rfl))) ?_
  refine AWp.loopS (exchangepointlaw40_awake_L0) (fun s1 : Int × (List Int) => ([(1, (.sref 3001 1 0 s1.2.length)), (2, (.d (.int .i64 s1.1)))] : EL)) (fun s1 : Int × (List Int) => ([(3001, some (.row 3 1 (s1.2.map (eI .i64))))] : OL)) (fun (p6 : ((List Int))) e E' O' => e = .exit 0 ∧ Mat B E' O' ([(1, (.sref 3001 1 0 p6.length))] : EL) ([(3001, some (.row 3 1 (p6.map (eI .i64))))] : OL)) hx10 (fun s1 y h => ?_) (fun e E' O' hR => ?_)
  · unfold exchangepointlaw40_awake_L0 at h
    show AWp _ _ _ _ ([(1, (.sref 3001 1 0 s1.2.length)), (2, (.d (.int .i64 s1.1)))] : EL) ([(3001, some (.row 3 1 (s1.2.map (eI .i64))))] : OL)
    refine AWp.seq ?_
    refine AWp.seq ?_
    refine AWp.region (OpJs.cons (OpJ.move (ltN hN rfl) (Opd.tmp 2 (.d (.int .i64 s1.1))))
      (OpJs.cons (OpJ.gtr (ltN hN rfl) (Opd.tmp 7 (.d (.int .i64 s1.1))) (Opd.int .i64 (0)))
      (OpJs.nil))) (by rfl) (by rfl) ?_
    refine seqQ_n ?_
    refine AWp.ghost (Mat.pat [] [(1, (.sref 3001 1 0 s1.2.length)), (2, (.d (.int .i64 s1.1))), (8, (.d (.bool (decide ((0 : Int) < s1.1)))))] [(3001, some (.row 3 1 (s1.2.map (eI .i64))))] hB (by rfl) (by rfl) (by rfl)) ?_
    refine AWp.cond (b := (decide ((0 : Int) < s1.1))) (by rfl) (fun hg7 => ?_) (fun hg7 => ?_)
    · replace h := ite_t hg7 h
      refine AWp.skip ?_
      refine seqQ_n ?_
      refine AWp.seq ?_
      refine AWp.block ?_
      obtain ⟨hc8, h⟩ := chk_some h
      refine AWp.region (OpJs.cons (OpJ.move (ltN hN rfl) (Opd.tmp 1 (.sref 3001 1 0 s1.2.length)))
        (OpJs.cons (OpJ.move (ltN hN rfl) (Opd.tmp 2 (.d (.int .i64 s1.1))))
        (OpJs.cons (OpJ.buildSlice Try.underlying22 tyS3 tyZD3 (by rfl) (by decide) (by decide) (Opds.cons (Opd.tmp 12 (.d (.int .i64 s1.1))) Opds.nil) (by kernel_rfl) (es := ([(.int .i64 s1.1)] : List D)) (by rfl) (by rfl) (by kernel_rfl) (by simp) (ltN hN rfl))
        (OpJs.cons (OpJ.append hB Try.underlying22 tyE3 (nm := 1014) (by decide) (es := s1.2.map (eI .i64)) (ys := ([s1.1] : List Int).map (eI .i64)) (es' := (s1.2 ++ ([s1.1] : List Int)).map (eI .i64)) (len := (s1.2 ++ ([s1.1] : List Int)).length) (by simp) (by simp) (map_sz (f := (eI .i64)) (fun _ => rfl)) (by rw [List.length_map]; exact lim_mulN hc8 (by decide)) (by rw [List.length_map]; exact lim_leN hc8) (ltN hN rfl) (by simp) (Opd.tmp 11 (.sref 3001 1 0 s1.2.length)) (Opd.tmp 13 (.d (.list 1 (([s1.1] : List Int).map (eI .i64))))))
        (OpJs.cons (OpJ.assign (ltN hN rfl) (Opd.tmp 14 (.sref 1014 1 0 ((s1.2 ++ ([s1.1] : List Int)).length))))
        (OpJs.nil)))))) (by rfl) (by rfl) ?_
      refine blkQ_n ?_
      refine seqQ_n ?_
      refine AWp.ghost (Mat.pat [] [(1, (.sref 1014 1 0 ((s1.2 ++ ([s1.1] : List Int)).length))), (2, (.d (.int .i64 s1.1)))] [(1014, some (.row 3 1 ((s1.2 ++ ([s1.1] : List Int)).map (eI .i64))))] hB (by rfl) (by rfl) (by rfl)) ?_
      refine AWp.region (OpJs.cons (OpJ.move (ltN hN rfl) (Opd.tmp 2 (.d (.int .i64 s1.1))))
        (OpJs.cons (OpJ.sub (ltN hN rfl) (Opd.tmp 9 (.d (.int .i64 s1.1))) (Opd.int .i64 (1)))
        (OpJs.cons (OpJ.assign (ltN hN rfl) (Opd.tmp 10 (.d (.int .i64 (w64 (s1.1 - (1 : Int)))))))
        (OpJs.nil)))) (by rfl) (by rfl) ?_
      obtain rfl := Option.some.inj h
      exact ⟨rfl, (Mat.trans (Mat.pat [] [(1, (.sref 1014 1 0 ((s1.2 ++ ([s1.1] : List Int)).length))), (2, (.d (.int .i64 (w64 (s1.1 - (1 : Int))))))] [(1014, some (.row 3 1 ((s1.2 ++ ([s1.1] : List Int)).map (eI .i64))))] hB (by rfl) (by rfl) (by rfl)) (Mat.pat [(3001, 1014)] ((fun s1 : Int × (List Int) => ([(1, (.sref 3001 1 0 s1.2.length)), (2, (.d (.int .i64 s1.1)))] : EL)) ((w64 (s1.1 - (1 : Int))), (s1.2 ++ ([s1.1] : List Int)))) ((fun s1 : Int × (List Int) => ([(3001, some (.row 3 1 (s1.2.map (eI .i64))))] : OL)) ((w64 (s1.1 - (1 : Int))), (s1.2 ++ ([s1.1] : List Int)))) hB (by rfl) (by rfl) (by rfl)))⟩
    · replace h := ite_f hg7 h
      refine AWp.exit ?_
      refine seqQ_e ?_
      obtain rfl := Option.some.inj h
      exact ⟨(fun hc => by cases hc), rfl, (Mat.pat [] ((fun p6 : (List Int) => ([(1, (.sref 3001 1 0 p6.length))] : EL)) s1.2) ((fun p6 : (List Int) => ([(3001, some (.row 3 1 (p6.map (eI .i64))))] : OL)) s1.2) hB (by rfl) (by rfl) (by rfl))⟩
  · obtain ⟨rfl, hmat⟩ := hR
    refine blkQ_hit ?_
    refine seqQ_n ?_
    refine AWp.ghost hmat ?_
    refine AWp.seq ?_
    refine AWp.ghost (Mat.freezeP (n := 3001) (e := 3) (sz := 1) (es := p6.map (eI .i64)) (Ts := [(1, (.d (.list 1 (p6.map (eI .i64)))))]) (Bs := []) (by rfl) (TwT.cons (x := (.sref 3001 1 0 p6.length)) (by rfl) (FrzL.all (by first | rfl | (simp; done) | (simp; omega))) TwT.nil) TwB.nil) ?_
    obtain ⟨r11, hr11, h⟩ := bindS h
    refine AWp.region (OpJs.cons (OpJ.move (ltN hN rfl) (Opd.tmp 1 (.d (.list 1 (p6.map (eI .i64))))))
      (OpJs.cons (OpJ.callFn hB fnOk8 (percentile_Percentile_ac p6 (95 : Int) r11 hr11) [] (by kernel_rfl) (ltN hN rfl) (by kernel_rfl) (OpdL.cons (Opd.tmp 16 (.d (.list 1 (p6.map (eI .i64))))) (OpdL.cons (Opd.int .i64 (95)) OpdL.nil)))
      (OpJs.cons (OpJ.move (ltN hN rfl) (Opd.tmp 17 (.tup [(.d (.int .i64 r11.1)), (.d (.int .i64 r11.2))])))
      (OpJs.cons (OpJ.extract (v := (.d (.int .i64 r11.1))) (by rfl) rfl (ltN hN rfl) (Opd.tmp 15 (.tup [(.d (.int .i64 r11.1)), (.d (.int .i64 r11.2))])))
      (OpJs.cons (OpJ.extract (v := (.d (.int .i64 r11.2))) (by rfl) rfl (ltN hN rfl) (Opd.tmp 15 (.tup [(.d (.int .i64 r11.1)), (.d (.int .i64 r11.2))])))
      (OpJs.cons (OpJ.assign (ltN hN rfl) (Opd.tmp 18 (.d (.int .i64 r11.1))))
      (OpJs.cons (OpJ.assign (ltN hN rfl) (Opd.tmp 19 (.d (.int .i64 r11.2))))
      (OpJs.nil)))))))) (by rfl) (by rfl) ?_
    refine seqQ_n ?_
    refine AWp.ghost (Mat.pat [] [(3, (.d (.int .i64 r11.1))), (4, (.d (.int .i64 r11.2)))] [] hB (by rfl) (by rfl) (by rfl)) ?_
    refine AWp.seq ?_
    obtain ⟨r12, hr12, h⟩ := bindS h
    refine AWp.region (OpJs.cons (OpJ.callFn hB fnOk20 (percentile_Rate_ac (37500001 : Int) (300 : Int) r12 hr12) [] (by kernel_rfl) (ltN hN rfl) (by kernel_rfl) (OpdL.cons (Opd.int .i64 (37500001)) (OpdL.cons (Opd.int .i64 (300)) OpdL.nil)))
      (OpJs.cons (OpJ.move (ltN hN rfl) (Opd.tmp 21 (.tup [(.d (.int .i64 r12.1)), (.d (.int .i64 r12.2))])))
      (OpJs.cons (OpJ.extract (v := (.d (.int .i64 r12.1))) (by rfl) rfl (ltN hN rfl) (Opd.tmp 20 (.tup [(.d (.int .i64 r12.1)), (.d (.int .i64 r12.2))])))
      (OpJs.cons (OpJ.extract (v := (.d (.int .i64 r12.2))) (by rfl) rfl (ltN hN rfl) (Opd.tmp 20 (.tup [(.d (.int .i64 r12.1)), (.d (.int .i64 r12.2))])))
      (OpJs.cons (OpJ.assign (ltN hN rfl) (Opd.tmp 22 (.d (.int .i64 r12.1))))
      (OpJs.cons (OpJ.assign (ltN hN rfl) (Opd.tmp 23 (.d (.int .i64 r12.2))))
      (OpJs.nil))))))) (by rfl) (by rfl) ?_
    refine seqQ_n ?_
    refine AWp.ghost (Mat.pat [] [(3, (.d (.int .i64 r11.1))), (4, (.d (.int .i64 r11.2))), (5, (.d (.int .i64 r12.1))), (6, (.d (.int .i64 r12.2)))] [] hB (by rfl) (by rfl) (by rfl)) ?_
    refine AWp.seq ?_
    refine AWp.region (OpJs.cons (OpJ.move (ltN hN rfl) (Opd.tmp 4 (.d (.int .i64 r11.2))))
      (OpJs.cons (OpJ.eqlI (ltN hN rfl) (Opd.tmp 24 (.d (.int .i64 r11.2))) (Opd.int .i64 (0)))
      (OpJs.cons (OpJ.move (ltN hN rfl) (Opd.tmp 25 (.d (.bool (r11.2 == (0 : Int))))))
      (OpJs.cons (OpJ.opt' (v := (.d (.int .i64 r12.2))) (OpJ.move (ltN hN rfl) (Opd.tmp 6 (.d (.int .i64 r12.2)))) (by rfl) (GuardV.plain _) (ltN hN rfl) (by rfl) (by rfl) (by rfl) (by rfl) (OptL.keep rfl OptL.nil))
      (OpJs.cons (OpJ.opt' (v := (.d (.bool (r12.2 == (0 : Int))))) (OpJ.eqlI (ltN hN rfl) (Opd.tmp 27 (.d (.int .i64 r12.2))) (Opd.int .i64 (0))) (by rfl) (GuardV.plain _) (ltN hN rfl) (by rfl) (by rfl) (by rfl) (by rfl) (OptL.opt OptL.nil))
      (OpJs.cons (OpJ.pickAnd rfl (ltN hN rfl) (Opd.tmp 26 (.d (.bool (r11.2 == (0 : Int))))) (Opd.tmp 28 (.opt ((r11.2 == (0 : Int)) == true) (.d (.bool (r12.2 == (0 : Int)))))))
      (OpJs.cons (OpJ.move (ltN hN rfl) (Opd.tmp 29 (.d (.bool ((r11.2 == (0 : Int)) && (r12.2 == (0 : Int)))))))
      (OpJs.cons (OpJ.opt' (v := (.d (.int .i64 r11.1))) (OpJ.move (ltN hN rfl) (Opd.tmp 3 (.d (.int .i64 r11.1)))) (by rfl) (GuardV.plain _) (ltN hN rfl) (by rfl) (by rfl) (by rfl) (by rfl) (OptL.keep rfl OptL.nil))
      (OpJs.cons (OpJ.opt' (v := (.d (.bool (r11.1 == (19 : Int))))) (OpJ.eqlI (ltN hN rfl) (Opd.tmp 31 (.d (.int .i64 r11.1))) (Opd.int .i64 (19))) (by rfl) (GuardV.plain _) (ltN hN rfl) (by rfl) (by rfl) (by rfl) (by rfl) (OptL.opt OptL.nil))
      (OpJs.cons (OpJ.pickAnd rfl (ltN hN rfl) (Opd.tmp 30 (.d (.bool ((r11.2 == (0 : Int)) && (r12.2 == (0 : Int)))))) (Opd.tmp 32 (.opt (((r11.2 == (0 : Int)) && (r12.2 == (0 : Int))) == true) (.d (.bool (r11.1 == (19 : Int)))))))
      (OpJs.cons (OpJ.move (ltN hN rfl) (Opd.tmp 33 (.d (.bool (((r11.2 == (0 : Int)) && (r12.2 == (0 : Int))) && (r11.1 == (19 : Int)))))))
      (OpJs.cons (OpJ.opt' (v := (.d (.int .i64 r12.1))) (OpJ.move (ltN hN rfl) (Opd.tmp 5 (.d (.int .i64 r12.1)))) (by rfl) (GuardV.plain _) (ltN hN rfl) (by rfl) (by rfl) (by rfl) (by rfl) (OptL.keep rfl OptL.nil))
      (OpJs.cons (OpJ.opt' (v := (.d (.bool (r12.1 == (2 : Int))))) (OpJ.eqlI (ltN hN rfl) (Opd.tmp 35 (.d (.int .i64 r12.1))) (Opd.int .i64 (2))) (by rfl) (GuardV.plain _) (ltN hN rfl) (by rfl) (by rfl) (by rfl) (by rfl) (OptL.opt OptL.nil))
      (OpJs.cons (OpJ.pickAnd rfl (ltN hN rfl) (Opd.tmp 34 (.d (.bool (((r11.2 == (0 : Int)) && (r12.2 == (0 : Int))) && (r11.1 == (19 : Int)))))) (Opd.tmp 36 (.opt ((((r11.2 == (0 : Int)) && (r12.2 == (0 : Int))) && (r11.1 == (19 : Int))) == true) (.d (.bool (r12.1 == (2 : Int)))))))
      (OpJs.cons (OpJ.assign (ltN hN rfl) (Opd.tmp 37 (.d (.bool ((((r11.2 == (0 : Int)) && (r12.2 == (0 : Int))) && (r11.1 == (19 : Int))) && (r12.1 == (2 : Int)))))))
      (OpJs.nil)))))))))))))))) (by rfl) (by rfl) ?_
    refine seqQ_n ?_
    refine AWp.ghost (Mat.pat [] [(0, (.d (.bool ((((r11.2 == (0 : Int)) && (r12.2 == (0 : Int))) && (r11.1 == (19 : Int))) && (r12.1 == (2 : Int))))))] [] hB (by rfl) (by rfl) (by rfl)) ?_
    refine AWp.ret ?_
    obtain rfl := Option.some.inj h
    exact ⟨.inl rfl, _, _, (Mat.pat [] [(0, (.d (.bool ((((r11.2 == (0 : Int)) && (r12.2 == (0 : Int))) && (r11.1 == (19 : Int))) && (r12.1 == (2 : Int))))))] [] hB (by rfl) (by rfl) (by rfl)), [(.d (.bool ((((r11.2 == (0 : Int)) && (r12.2 == (0 : Int))) && (r11.1 == (19 : Int))) && (r12.1 == (2 : Int)))))], (Res.tmp (by rfl) (by rfl) Res.nil), rfl, by rfl, by rfl, by rfl⟩

noncomputable def exchangepointmill_Mod (a0 : Int) (a1 : Int) : Option (Int) :=
  chk (decide (a1 ≠ 0)) <|
  jn (fun m3 : Int =>
  some m3) (fun j4 =>
  (if (decide ((Int.tmod a0 a1) < (0 : Int))) = true then
  j4 (w64 ((Int.tmod a0 a1) + a1))
  else
  j4 (Int.tmod a0 a1)))
set_option maxHeartbeats 4000000 in
set_option maxRecDepth 100000 in
theorem exchangepointmill_Mod_ac (a0 : Int) (a1 : Int) (r : Int) (h : exchangepointmill_Mod a0 a1 = some r) : AC Try.prog 10 [(.d (.int .i64 a0)), (.d (.int .i64 a1))] [] (.d (.int .i64 r)) [] := by
  refine AC.of_code2 Try.func10 rfl rfl (Nat.le_of_ble_eq_true (by rfl)) fun B hB hN => ?_
  delta exchangepointmill_Mod at h
  refine AWp.seq ?_
  refine AWp.region (OpJs.cons (OpJ.assign (ltN hN rfl) (Opd.int .i64 (0)))
  (OpJs.nil)) (by rfl) (by rfl) ?_
  refine seqQ_n ?_
  refine AWp.ghost (Mat.pat [] [(0, (.d (.int .i64 a0))), (1, (.d (.int .i64 a1)))] [] hB (by rfl) (by rfl) (by rfl)) ?_
  refine AWp.seq ?_
  obtain ⟨hc1, h⟩ := chk_some h
  refine AWp.region (OpJs.cons (OpJ.move (ltN hN rfl) (Opd.tmp 0 (.d (.int .i64 a0))))
  (OpJs.cons (OpJ.move (ltN hN rfl) (Opd.tmp 1 (.d (.int .i64 a1))))
  (OpJs.cons (OpJ.rem (ltN hN rfl) (Opd.tmp 6 (.d (.int .i64 a0))) (Opd.tmp 7 (.d (.int .i64 a1))) (of_decide_eq_true hc1))
  (OpJs.cons (OpJ.assign (ltN hN rfl) (Opd.tmp 8 (.d (.int .i64 (Int.tmod a0 a1)))))
  (OpJs.nil))))) (by rfl) (by rfl) ?_
  refine seqQ_n ?_
  refine AWp.ghost (Mat.pat [] [(1, (.d (.int .i64 a1))), (5, (.d (.int .i64 (Int.tmod a0 a1))))] [] hB (by rfl) (by rfl) (by rfl)) ?_
  refine AWp.seq ?_
  refine AWp.seq ?_
  refine AWp.region (OpJs.cons (OpJ.move (ltN hN rfl) (Opd.tmp 5 (.d (.int .i64 (Int.tmod a0 a1)))))
  (OpJs.cons (OpJ.lss (ltN hN rfl) (Opd.tmp 9 (.d (.int .i64 (Int.tmod a0 a1)))) (Opd.int .i64 (0)))
  (OpJs.nil))) (by rfl) (by rfl) ?_
  refine seqQ_n ?_
  refine AWp.ghost (Mat.pat [] [(1, (.d (.int .i64 a1))), (5, (.d (.int .i64 (Int.tmod a0 a1)))), (10, (.d (.bool (decide ((Int.tmod a0 a1) < (0 : Int))))))] [] hB (by rfl) (by rfl) (by rfl)) ?_
  refine AWp.cut h (fun m3 : Int => ([(5, (.d (.int .i64 m3)))] : EL)) (fun m3 : Int => ([] : OL)) (fun m3 h E' O' hmat => ?_) (fun j4 hjj4 h => ?_)
  · refine seqQ_n ?_
    refine AWp.ghost hmat ?_
    refine AWp.seq ?_
    refine AWp.region (OpJs.cons (OpJ.move (ltN hN rfl) (Opd.tmp 5 (.d (.int .i64 m3))))
      (OpJs.cons (OpJ.assign (ltN hN rfl) (Opd.tmp 14 (.d (.int .i64 m3))))
      (OpJs.nil))) (by rfl) (by rfl) ?_
    refine seqQ_n ?_
    refine AWp.ghost (Mat.pat [] [(4, (.d (.int .i64 m3)))] [] hB (by rfl) (by rfl) (by rfl)) ?_
    refine AWp.ret ?_
    obtain rfl := Option.some.inj h
    exact ⟨.inl rfl, _, _, (Mat.pat [] [(4, (.d (.int .i64 m3)))] [] hB (by rfl) (by rfl) (by rfl)), [(.d (.int .i64 m3))], (Res.tmp (by rfl) (by rfl) Res.nil), rfl, by rfl, by rfl, by rfl⟩
  · refine AWp.cond (b := (decide ((Int.tmod a0 a1) < (0 : Int)))) (by rfl) (fun hg5 => ?_) (fun hg5 => ?_)
    · replace h := ite_t hg5 h
      refine AWp.region (OpJs.cons (OpJ.move (ltN hN rfl) (Opd.tmp 5 (.d (.int .i64 (Int.tmod a0 a1)))))
        (OpJs.cons (OpJ.move (ltN hN rfl) (Opd.tmp 1 (.d (.int .i64 a1))))
        (OpJs.cons (OpJ.add (ltN hN rfl) (Opd.tmp 11 (.d (.int .i64 (Int.tmod a0 a1)))) (Opd.tmp 12 (.d (.int .i64 a1))))
        (OpJs.cons (OpJ.assign (ltN hN rfl) (Opd.tmp 13 (.d (.int .i64 (w64 ((Int.tmod a0 a1) + a1))))))
        (OpJs.nil))))) (by rfl) (by rfl) ?_
      exact hjj4 _ h _ _ (Mat.trans (Mat.pat [] [(5, (.d (.int .i64 (w64 ((Int.tmod a0 a1) + a1)))))] [] hB (by rfl) (by rfl) (by rfl)) (Mat.pat [] ((fun m3 : Int => ([(5, (.d (.int .i64 m3)))] : EL)) (w64 ((Int.tmod a0 a1) + a1))) ((fun m3 : Int => ([] : OL)) (w64 ((Int.tmod a0 a1) + a1))) hB (by rfl) (by rfl) (by rfl)))
    · replace h := ite_f hg5 h
      refine AWp.skip ?_
      exact hjj4 _ h _ _ (Mat.pat [] ((fun m3 : Int => ([(5, (.d (.int .i64 m3)))] : EL)) (Int.tmod a0 a1)) ((fun m3 : Int => ([] : OL)) (Int.tmod a0 a1)) hB (by rfl) (by rfl) (by rfl))

noncomputable def exchangepointlaw40_PercentileRank_L0 (a0 : (List Int)) (r10 : Int × Int) (s12 : Int × Int × Bool × Int) : Option (((Int × Int × Bool)) ⊕ (Int × Int × Bool × Int)) :=
  (if (decide (s12.2.2.2 < (a0.length : Int))) = true then
  (idx a0 s12.2.2.2).bind fun x35 =>
  jn (fun m37 : Int =>
  jn (fun m40 : Int =>
  some (.inr (m37, m40, (s12.2.2.1 || (x35 == r10.1)), (w64 (s12.2.2.2 + (1 : Int)))))) (fun j41 =>
  (if (decide (x35 < r10.1)) = true then
  j41 (w64 (s12.2.1 + (1 : Int)))
  else
  j41 s12.2.1))) (fun j38 =>
  (if (decide (x35 ≤ r10.1)) = true then
  j38 (w64 (s12.1 + (1 : Int)))
  else
  j38 s12.1))
  else
  some (.inl (s12.1, s12.2.1, s12.2.2.1)))
noncomputable def exchangepointlaw40_PercentileRank (a0 : (List Int)) (a1 : Int) : Option (Bool) :=
  (if (((a0.length : Int) == (0 : Int)) || (decide ((300 : Int) < (a0.length : Int)))) = true then
  (percentile_Percentile ([] : List Int) (95 : Int)).bind fun r2 =>
  jn (fun m5 : Bool =>
  some m5) (fun j6 =>
  (if (r2.2 == (39 : Int)) = true then
  (exchangepointlaw40_awake).bind fun r8 =>
  j6 r8
  else
  j6 false))
  else
  (exchangepointmill_Mod a1 (100 : Int)).bind fun r9 =>
  (percentile_Percentile a0 (w64 ((1 : Int) + r9))).bind fun r10 =>
  (if (r10.2 != (0 : Int)) = true then
  some false
  else
  (loop (exchangepointlaw40_PercentileRank_L0 a0 r10) ((0 : Int), (0 : Int), false, (0 : Int))).bind fun p33 =>
  jn (fun m48 : Bool =>
  some m48) (fun j49 =>
  (if ((p33.2.2 && (decide ((w64 ((w64 ((1 : Int) + r9)) * (a0.length : Int))) ≤ (w64 (p33.1 * (100 : Int)))))) && (decide ((w64 (p33.2.1 * (100 : Int))) < (w64 ((w64 ((1 : Int) + r9)) * (a0.length : Int)))))) = true then
  (exchangepointlaw40_awake).bind fun r51 =>
  j49 r51
  else
  j49 false))))
set_option maxHeartbeats 4000000 in
set_option maxRecDepth 100000 in
theorem exchangepointlaw40_PercentileRank_ac (a0 : (List Int)) (a1 : Int) (r : Bool) (h : exchangepointlaw40_PercentileRank a0 a1 = some r) : AC Try.prog 3 [(.d (.list 1 (a0.map (eI .i64)))), (.d (.int .i64 a1))] [] (.d (.bool r)) [] := by
  refine AC.of_code2 Try.func3 rfl rfl (Nat.le_of_ble_eq_true (by rfl)) fun B hB hN => ?_
  delta exchangepointlaw40_PercentileRank at h
  refine AWp.seq ?_
  refine AWp.region (OpJs.cons (OpJ.assign (ltN hN rfl) (Opd.bool false))
  (OpJs.nil)) (by rfl) (by rfl) ?_
  refine seqQ_n ?_
  refine AWp.ghost (Mat.pat [] [(0, (.d (.list 1 (a0.map (eI .i64))))), (1, (.d (.int .i64 a1)))] [] hB (by rfl) (by rfl) (by rfl)) ?_
  refine AWp.seq ?_
  refine AWp.seq ?_
  refine AWp.region (OpJs.cons (OpJ.move (ltN hN rfl) (Opd.tmp 0 (.d (.list 1 (a0.map (eI .i64))))))
  (OpJs.cons (OpJ.val (v' := (.d (.int .i64 (a0.length : Int)))) (by simp) (OpJ.lenD Try.underlying22 (ltN hN rfl) (Opd.tmp 15 (.d (.list 1 (a0.map (eI .i64)))))))
  (OpJs.cons (OpJ.eqlI (ltN hN rfl) (Opd.tmp 16 (.d (.int .i64 (a0.length : Int)))) (Opd.int .i64 (0)))
  (OpJs.cons (OpJ.move (ltN hN rfl) (Opd.tmp 17 (.d (.bool ((a0.length : Int) == (0 : Int))))))
  (OpJs.cons (OpJ.opt' (v := (.d (.list 1 (a0.map (eI .i64))))) (OpJ.move (ltN hN rfl) (Opd.tmp 0 (.d (.list 1 (a0.map (eI .i64)))))) (by rfl) (GuardV.plain _) (ltN hN rfl) (by rfl) (by rfl) (by rfl) (by rfl) (OptL.keep rfl OptL.nil))
  (OpJs.cons (OpJ.opt' (v := (.d (.int .i64 (a0.length : Int)))) (OpJ.val (v' := (.d (.int .i64 (a0.length : Int)))) (by simp) (OpJ.lenD Try.underlying22 (ltN hN rfl) (Opd.tmp 19 (.d (.list 1 (a0.map (eI .i64))))))) (by rfl) (GuardV.plain _) (ltN hN rfl) (by rfl) (by rfl) (by rfl) (by rfl) (OptL.opt OptL.nil))
  (OpJs.cons (OpJ.opt' (v := (.d (.bool (decide ((300 : Int) < (a0.length : Int)))))) (OpJ.gtr (ltN hN rfl) (Opd.tmp 20 (.d (.int .i64 (a0.length : Int)))) (Opd.int .i64 (300))) (by rfl) (GuardV.plain _) (ltN hN rfl) (by rfl) (by rfl) (by rfl) (by rfl) (OptL.opt OptL.nil))
  (OpJs.cons (OpJ.pickOr rfl (ltN hN rfl) (Opd.tmp 18 (.d (.bool ((a0.length : Int) == (0 : Int))))) (Opd.tmp 21 (.opt (((a0.length : Int) == (0 : Int)) == false) (.d (.bool (decide ((300 : Int) < (a0.length : Int))))))))
  (OpJs.nil))))))))) (by rfl) (by rfl) ?_
  refine seqQ_n ?_
  refine AWp.ghost (Mat.pat [] [(0, (.d (.list 1 (a0.map (eI .i64))))), (1, (.d (.int .i64 a1))), (22, (.d (.bool (((a0.length : Int) == (0 : Int)) || (decide ((300 : Int) < (a0.length : Int)))))))] [] hB (by rfl) (by rfl) (by rfl)) ?_
  refine AWp.cond (b := (((a0.length : Int) == (0 : Int)) || (decide ((300 : Int) < (a0.length : Int))))) (by rfl) (fun hg1 => ?_) (fun hg1 => ?_)
  · replace h := ite_t hg1 h
    refine AWp.seq ?_
    obtain ⟨r2, hr2, h⟩ := bindS h
    refine AWp.region (OpJs.cons (OpJ.callFn hB fnOk8 (percentile_Percentile_ac ([] : List Int) (95 : Int) r2 hr2) [] (by kernel_rfl) (ltN hN rfl) (by kernel_rfl) (OpdL.cons (Opd.tw Opd.nils (Tw.leaf ⟨_, (Co.nils 1), rfl⟩)) (OpdL.cons (Opd.int .i64 (95)) OpdL.nil)))
      (OpJs.cons (OpJ.move (ltN hN rfl) (Opd.tmp 24 (.tup [(.d (.int .i64 r2.1)), (.d (.int .i64 r2.2))])))
      (OpJs.cons (OpJ.extract (v := (.d (.int .i64 r2.1))) (by rfl) rfl (ltN hN rfl) (Opd.tmp 23 (.tup [(.d (.int .i64 r2.1)), (.d (.int .i64 r2.2))])))
      (OpJs.cons (OpJ.extract (v := (.d (.int .i64 r2.2))) (by rfl) rfl (ltN hN rfl) (Opd.tmp 23 (.tup [(.d (.int .i64 r2.1)), (.d (.int .i64 r2.2))])))
      (OpJs.cons (OpJ.assign (ltN hN rfl) (Opd.tmp 25 (.d (.int .i64 r2.1))))
      (OpJs.cons (OpJ.assign (ltN hN rfl) (Opd.tmp 26 (.d (.int .i64 r2.2))))
      (OpJs.nil))))))) (by rfl) (by rfl) ?_
    refine seqQ_n ?_
    refine AWp.ghost (Mat.pat [] [(6, (.d (.int .i64 r2.2)))] [] hB (by rfl) (by rfl) (by rfl)) ?_
    refine AWp.seq ?_
    refine AWp.cut h (fun m5 : Bool => ([(4, (.d (.bool m5)))] : EL)) (fun m5 : Bool => ([] : OL)) (fun m5 h E' O' hmat => ?_) (fun j6 hjj6 h => ?_)
    · refine seqQ_n ?_
      refine AWp.ghost hmat ?_
      refine AWp.ret ?_
      refine seqQ_r ?_
      obtain rfl := Option.some.inj h
      exact ⟨.inl rfl, _, _, (Mat.pat [] [(4, (.d (.bool m5)))] [] hB (by rfl) (by rfl) (by rfl)), [(.d (.bool m5))], (Res.tmp (by rfl) (by rfl) Res.nil), rfl, by rfl, by rfl, by rfl⟩
    · rcases Bool.eq_false_or_eq_true (r2.2 == (39 : Int)) with hg7 | hg7
      · replace h := ite_t hg7 h
        obtain ⟨r8, hr8, h⟩ := bindS h
        refine AWp.region (OpJs.cons (OpJ.move (ltN hN rfl) (Opd.tmp 6 (.d (.int .i64 r2.2))))
          (OpJs.cons (OpJ.eqlI (ltN hN rfl) (Opd.tmp 27 (.d (.int .i64 r2.2))) (Opd.int .i64 (39)))
          (OpJs.cons (OpJ.val (v' := .d (.bool true)) (by rw [hg7]) (OpJ.move (ltN hN rfl) (Opd.tmp 28 (.d (.bool (r2.2 == (39 : Int)))))))
          (OpJs.cons (OpJ.guarded (by rfl) (OpJ.callFn hB fnOk9 (exchangepointlaw40_awake_ac  r8 hr8) [] (by kernel_rfl) (ltN hN rfl) (by kernel_rfl) OpdL.nil))
          (OpJs.cons (OpJ.pickT (ltN hN rfl) (Opd.tmp 29 (.d (.bool true))) (Opd.tmp 30 (.d (.bool r8))))
          (OpJs.cons (OpJ.assign (ltN hN rfl) (Opd.tmp 31 (.d (.bool r8))))
          (OpJs.nil))))))) (by rfl) (by rfl) ?_
        exact hjj6 _ h _ _ (Mat.trans (Mat.pat [] [(4, (.d (.bool r8)))] [] hB (by rfl) (by rfl) (by rfl)) (Mat.pat [] ((fun m5 : Bool => ([(4, (.d (.bool m5)))] : EL)) r8) ((fun m5 : Bool => ([] : OL)) r8) hB (by rfl) (by rfl) (by rfl)))
      · replace h := ite_f hg7 h
        refine AWp.region (OpJs.cons (OpJ.move (ltN hN rfl) (Opd.tmp 6 (.d (.int .i64 r2.2))))
          (OpJs.cons (OpJ.eqlI (ltN hN rfl) (Opd.tmp 27 (.d (.int .i64 r2.2))) (Opd.int .i64 (39)))
          (OpJs.cons (OpJ.val (v' := .d (.bool false)) (by rw [hg7]) (OpJ.move (ltN hN rfl) (Opd.tmp 28 (.d (.bool (r2.2 == (39 : Int)))))))
          (OpJs.cons (OpJ.skipU (ltN hN rfl) (by rfl))
          (OpJs.cons (OpJ.pickF (ltN hN rfl) (Opd.tmp 29 (.d (.bool false))) (Opd.bool false))
          (OpJs.cons (OpJ.assign (ltN hN rfl) (Opd.tmp 31 (.d (.bool false))))
          (OpJs.nil))))))) (by rfl) (by rfl) ?_
        exact hjj6 _ h _ _ (Mat.trans (Mat.pat [] [(4, (.d (.bool false)))] [] hB (by rfl) (by rfl) (by rfl)) (Mat.pat [] ((fun m5 : Bool => ([(4, (.d (.bool m5)))] : EL)) false) ((fun m5 : Bool => ([] : OL)) false) hB (by rfl) (by rfl) (by rfl)))
  · replace h := ite_f hg1 h
    refine AWp.skip ?_
    refine seqQ_n ?_
    refine AWp.seq ?_
    obtain ⟨r9, hr9, h⟩ := bindS h
    refine AWp.region (OpJs.cons (OpJ.move (ltN hN rfl) (Opd.tmp 1 (.d (.int .i64 a1))))
      (OpJs.cons (OpJ.callFn hB fnOk10 (exchangepointmill_Mod_ac a1 (100 : Int) r9 hr9) [] (by kernel_rfl) (ltN hN rfl) (by kernel_rfl) (OpdL.cons (Opd.tmp 32 (.d (.int .i64 a1))) (OpdL.cons (Opd.int .i64 (100)) OpdL.nil)))
      (OpJs.cons (OpJ.add (ltN hN rfl) (Opd.int .i64 (1)) (Opd.tmp 33 (.d (.int .i64 r9))))
      (OpJs.cons (OpJ.assign (ltN hN rfl) (Opd.tmp 34 (.d (.int .i64 (w64 ((1 : Int) + r9))))))
      (OpJs.nil))))) (by rfl) (by rfl) ?_
    refine seqQ_n ?_
    refine AWp.ghost (Mat.pat [] [(0, (.d (.list 1 (a0.map (eI .i64))))), (7, (.d (.int .i64 (w64 ((1 : Int) + r9)))))] [] hB (by rfl) (by rfl) (by rfl)) ?_
    refine AWp.seq ?_
    obtain ⟨r10, hr10, h⟩ := bindS h
    refine AWp.region (OpJs.cons (OpJ.move (ltN hN rfl) (Opd.tmp 0 (.d (.list 1 (a0.map (eI .i64))))))
      (OpJs.cons (OpJ.move (ltN hN rfl) (Opd.tmp 7 (.d (.int .i64 (w64 ((1 : Int) + r9))))))
      (OpJs.cons (OpJ.callFn hB fnOk8 (percentile_Percentile_ac a0 (w64 ((1 : Int) + r9)) r10 hr10) [] (by kernel_rfl) (ltN hN rfl) (by kernel_rfl) (OpdL.cons (Opd.tmp 36 (.d (.list 1 (a0.map (eI .i64))))) (OpdL.cons (Opd.tmp 37 (.d (.int .i64 (w64 ((1 : Int) + r9))))) OpdL.nil)))
      (OpJs.cons (OpJ.move (ltN hN rfl) (Opd.tmp 38 (.tup [(.d (.int .i64 r10.1)), (.d (.int .i64 r10.2))])))
      (OpJs.cons (OpJ.extract (v := (.d (.int .i64 r10.1))) (by rfl) rfl (ltN hN rfl) (Opd.tmp 35 (.tup [(.d (.int .i64 r10.1)), (.d (.int .i64 r10.2))])))
      (OpJs.cons (OpJ.extract (v := (.d (.int .i64 r10.2))) (by rfl) rfl (ltN hN rfl) (Opd.tmp 35 (.tup [(.d (.int .i64 r10.1)), (.d (.int .i64 r10.2))])))
      (OpJs.cons (OpJ.assign (ltN hN rfl) (Opd.tmp 39 (.d (.int .i64 r10.1))))
      (OpJs.cons (OpJ.assign (ltN hN rfl) (Opd.tmp 40 (.d (.int .i64 r10.2))))
      (OpJs.nil))))))))) (by rfl) (by rfl) ?_
    refine seqQ_n ?_
    refine AWp.ghost (Mat.pat [] [(0, (.d (.list 1 (a0.map (eI .i64))))), (7, (.d (.int .i64 (w64 ((1 : Int) + r9))))), (8, (.d (.int .i64 r10.1))), (9, (.d (.int .i64 r10.2)))] [] hB (by rfl) (by rfl) (by rfl)) ?_
    refine AWp.seq ?_
    refine AWp.seq ?_
    refine AWp.region (OpJs.cons (OpJ.move (ltN hN rfl) (Opd.tmp 9 (.d (.int .i64 r10.2))))
      (OpJs.cons (OpJ.neqI (ltN hN rfl) (Opd.tmp 41 (.d (.int .i64 r10.2))) (Opd.int .i64 (0)))
      (OpJs.nil))) (by rfl) (by rfl) ?_
    refine seqQ_n ?_
    refine AWp.ghost (Mat.pat [] [(0, (.d (.list 1 (a0.map (eI .i64))))), (7, (.d (.int .i64 (w64 ((1 : Int) + r9))))), (8, (.d (.int .i64 r10.1))), (42, (.d (.bool (r10.2 != (0 : Int)))))] [] hB (by rfl) (by rfl) (by rfl)) ?_
    refine AWp.cond (b := (r10.2 != (0 : Int))) (by rfl) (fun hg11 => ?_) (fun hg11 => ?_)
    · replace h := ite_t hg11 h
      refine AWp.seq ?_
      refine AWp.region (OpJs.cons (OpJ.assign (ltN hN rfl) (Opd.bool false))
        (OpJs.nil)) (by rfl) (by rfl) ?_
      refine seqQ_n ?_
      refine AWp.ghost (Mat.pat [] [(4, (.d (.bool false)))] [] hB (by rfl) (by rfl) (by rfl)) ?_
      refine AWp.ret ?_
      refine seqQ_r ?_
      obtain rfl := Option.some.inj h
      exact ⟨.inl rfl, _, _, (Mat.pat [] [(4, (.d (.bool false)))] [] hB (by rfl) (by rfl) (by rfl)), [(.d (.bool false))], (Res.tmp (by rfl) (by rfl) Res.nil), rfl, by rfl, by rfl, by rfl⟩
    · replace h := ite_f hg11 h
      refine AWp.skip ?_
      refine seqQ_n ?_
      refine AWp.seq ?_
      refine AWp.region (OpJs.cons (OpJ.assign (ltN hN rfl) (Opd.int .i64 (0)))
        (OpJs.cons (OpJ.assign (ltN hN rfl) (Opd.int .i64 (0)))
        (OpJs.cons (OpJ.assign (ltN hN rfl) (Opd.bool false))
        (OpJs.nil)))) (by rfl) (by rfl) ?_
      refine seqQ_n ?_
      refine AWp.ghost (Mat.pat [] [(0, (.d (.list 1 (a0.map (eI .i64))))), (7, (.d (.int .i64 (w64 ((1 : Int) + r9))))), (8, (.d (.int .i64 r10.1))), (10, (.d (.int .i64 (0 : Int)))), (11, (.d (.int .i64 (0 : Int)))), (12, (.d (.bool false)))] [] hB (by rfl) (by rfl) (by rfl)) ?_
      refine AWp.seq ?_
      refine AWp.seq ?_
      refine AWp.region (OpJs.cons (OpJ.move (ltN hN rfl) (Opd.tmp 0 (.d (.list 1 (a0.map (eI .i64))))))
        (OpJs.cons (OpJ.val (v' := (.d (.int .i64 (a0.length : Int)))) (by simp) (OpJ.lenD Try.underlying22 (ltN hN rfl) (Opd.tmp 43 (.d (.list 1 (a0.map (eI .i64)))))))
        (OpJs.cons (OpJ.move (ltN hN rfl) (Opd.int .i64 (0)))
        (OpJs.nil)))) (by rfl) (by rfl) ?_
      refine seqQ_n ?_
      refine AWp.ghost (Mat.pat [] [(0, (.d (.list 1 (a0.map (eI .i64))))), (7, (.d (.int .i64 (w64 ((1 : Int) + r9))))), (8, (.d (.int .i64 r10.1))), (10, (.d (.int .i64 (0 : Int)))), (11, (.d (.int .i64 (0 : Int)))), (12, (.d (.bool false))), (43, (.d (.list 1 (a0.map (eI .i64))))), (44, (.d (.int .i64 (a0.length : Int)))), (45, (.d (.int .i64 (0 : Int))))] [] hB (by rfl) (by rfl) (by rfl)) ?_
      refine AWp.block ?_
      obtain ⟨p33, hx45, h⟩ := bindS h
      refine AWp.ghost (Mat.pat [] ((fun s12 : Int × Int × Bool × Int => ([(0, (.d (.list 1 (a0.map (eI .i64))))), (7, (.d (.int .i64 (w64 ((1 : Int) + r9))))), (8, (.d (.int .i64 r10.1))), (10, (.d (.int .i64 s12.1))), (11, (.d (.int .i64 s12.2.1))), (12, (.d (.bool s12.2.2.1))), (43, (.d (.list 1 (a0.map (eI .i64))))), (44, (.d (.int .i64 (a0.length : Int)))), (45, (.d (.int .i64 s12.2.2.2)))] : EL)) ((0 : Int), (0 : Int), false, (0 : Int))) ((fun s12 : Int × Int × Bool × Int => ([] : OL)) ((0 : Int), (0 : Int), false, (0 : Int))) hB (by rfl) (by rfl) (by rfl)) ?_
      refine AWp.loopS (exchangepointlaw40_PercentileRank_L0 a0 r10) (fun s12 : Int × Int × Bool × Int => ([(0, (.d (.list 1 (a0.map (eI .i64))))), (7, (.d (.int .i64 (w64 ((1 : Int) + r9))))), (8, (.d (.int .i64 r10.1))), (10, (.d (.int .i64 s12.1))), (11, (.d (.int .i64 s12.2.1))), (12, (.d (.bool s12.2.2.1))), (43, (.d (.list 1 (a0.map (eI .i64))))), (44, (.d (.int .i64 (a0.length : Int)))), (45, (.d (.int .i64 s12.2.2.2)))] : EL)) (fun s12 : Int × Int × Bool × Int => ([] : OL)) (fun (p33 : (Int × Int × Bool)) e E' O' => e = .exit 0 ∧ Mat B E' O' ([(0, (.d (.list 1 (a0.map (eI .i64))))), (7, (.d (.int .i64 (w64 ((1 : Int) + r9))))), (10, (.d (.int .i64 p33.1))), (11, (.d (.int .i64 p33.2.1))), (12, (.d (.bool p33.2.2)))] : EL) ([] : OL)) hx45 (fun s12 y h => ?_) (fun e E' O' hR => ?_)
      · unfold exchangepointlaw40_PercentileRank_L0 at h
        show AWp _ _ _ _ ([(0, (.d (.list 1 (a0.map (eI .i64))))), (7, (.d (.int .i64 (w64 ((1 : Int) + r9))))), (8, (.d (.int .i64 r10.1))), (10, (.d (.int .i64 s12.1))), (11, (.d (.int .i64 s12.2.1))), (12, (.d (.bool s12.2.2.1))), (43, (.d (.list 1 (a0.map (eI .i64))))), (44, (.d (.int .i64 (a0.length : Int)))), (45, (.d (.int .i64 s12.2.2.2)))] : EL) ([] : OL)
        refine AWp.seq ?_
        refine AWp.region (OpJs.cons (OpJ.lss (ltN hN rfl) (Opd.tmp 45 (.d (.int .i64 s12.2.2.2))) (Opd.tmp 44 (.d (.int .i64 (a0.length : Int)))))
          (OpJs.nil)) (by rfl) (by rfl) ?_
        refine seqQ_n ?_
        refine AWp.ghost (Mat.pat [] [(0, (.d (.list 1 (a0.map (eI .i64))))), (7, (.d (.int .i64 (w64 ((1 : Int) + r9))))), (8, (.d (.int .i64 r10.1))), (10, (.d (.int .i64 s12.1))), (11, (.d (.int .i64 s12.2.1))), (12, (.d (.bool s12.2.2.1))), (43, (.d (.list 1 (a0.map (eI .i64))))), (44, (.d (.int .i64 (a0.length : Int)))), (45, (.d (.int .i64 s12.2.2.2))), (46, (.d (.bool (decide (s12.2.2.2 < (a0.length : Int))))))] [] hB (by rfl) (by rfl) (by rfl)) ?_
        refine AWp.seq ?_
        refine AWp.cond (b := (decide (s12.2.2.2 < (a0.length : Int)))) (by rfl) (fun hg34 => ?_) (fun hg34 => ?_)
        · replace h := ite_t hg34 h
          refine AWp.skip ?_
          refine seqQ_n ?_
          refine AWp.seq ?_
          refine AWp.block ?_
          refine AWp.seq ?_
          obtain ⟨x35, hx35, h⟩ := bindS h
          refine AWp.region (OpJs.cons (OpJ.indexD (el := (.int .i64 x35)) Try.underlying22 tyS3 (idx_some hx35).1 (get_map (eI .i64) (idx_some hx35).2) (ltN hN rfl) (Opd.tmp 43 (.d (.list 1 (a0.map (eI .i64))))) (Opd.tmp 45 (.d (.int .i64 s12.2.2.2))))
            (OpJs.cons (OpJ.loadD tyS3 (by rfl) (by rfl) (ltN hN rfl) (Opd.tmp 47 (.dptr (.int .i64 x35))))
            (OpJs.cons (OpJ.assign (ltN hN rfl) (Opd.tmp 48 (.d (.int .i64 x35))))
            (OpJs.nil)))) (by rfl) (by rfl) ?_
          refine seqQ_n ?_
          refine AWp.ghost (Mat.pat [] [(0, (.d (.list 1 (a0.map (eI .i64))))), (7, (.d (.int .i64 (w64 ((1 : Int) + r9))))), (8, (.d (.int .i64 r10.1))), (10, (.d (.int .i64 s12.1))), (11, (.d (.int .i64 s12.2.1))), (12, (.d (.bool s12.2.2.1))), (14, (.d (.int .i64 x35))), (43, (.d (.list 1 (a0.map (eI .i64))))), (44, (.d (.int .i64 (a0.length : Int)))), (45, (.d (.int .i64 s12.2.2.2)))] [] hB (by rfl) (by rfl) (by rfl)) ?_
          refine AWp.seq ?_
          refine AWp.seq ?_
          refine AWp.region (OpJs.cons (OpJ.move (ltN hN rfl) (Opd.tmp 14 (.d (.int .i64 x35))))
            (OpJs.cons (OpJ.move (ltN hN rfl) (Opd.tmp 8 (.d (.int .i64 r10.1))))
            (OpJs.cons (OpJ.leq (ltN hN rfl) (Opd.tmp 49 (.d (.int .i64 x35))) (Opd.tmp 50 (.d (.int .i64 r10.1))))
            (OpJs.nil)))) (by rfl) (by rfl) ?_
          refine seqQ_n ?_
          refine AWp.ghost (Mat.pat [] [(0, (.d (.list 1 (a0.map (eI .i64))))), (7, (.d (.int .i64 (w64 ((1 : Int) + r9))))), (8, (.d (.int .i64 r10.1))), (10, (.d (.int .i64 s12.1))), (11, (.d (.int .i64 s12.2.1))), (12, (.d (.bool s12.2.2.1))), (14, (.d (.int .i64 x35))), (43, (.d (.list 1 (a0.map (eI .i64))))), (44, (.d (.int .i64 (a0.length : Int)))), (45, (.d (.int .i64 s12.2.2.2))), (51, (.d (.bool (decide (x35 ≤ r10.1)))))] [] hB (by rfl) (by rfl) (by rfl)) ?_
          refine AWp.cut h (fun m37 : Int => ([(0, (.d (.list 1 (a0.map (eI .i64))))), (7, (.d (.int .i64 (w64 ((1 : Int) + r9))))), (8, (.d (.int .i64 r10.1))), (10, (.d (.int .i64 m37))), (11, (.d (.int .i64 s12.2.1))), (12, (.d (.bool s12.2.2.1))), (14, (.d (.int .i64 x35))), (43, (.d (.list 1 (a0.map (eI .i64))))), (44, (.d (.int .i64 (a0.length : Int)))), (45, (.d (.int .i64 s12.2.2.2)))] : EL)) (fun m37 : Int => ([] : OL)) (fun m37 h E' O' hmat => ?_) (fun j38 hjj38 h => ?_)
          · refine seqQ_n ?_
            refine AWp.ghost hmat ?_
            refine AWp.seq ?_
            refine AWp.seq ?_
            refine AWp.region (OpJs.cons (OpJ.move (ltN hN rfl) (Opd.tmp 14 (.d (.int .i64 x35))))
              (OpJs.cons (OpJ.move (ltN hN rfl) (Opd.tmp 8 (.d (.int .i64 r10.1))))
              (OpJs.cons (OpJ.lss (ltN hN rfl) (Opd.tmp 54 (.d (.int .i64 x35))) (Opd.tmp 55 (.d (.int .i64 r10.1))))
              (OpJs.nil)))) (by rfl) (by rfl) ?_
            refine seqQ_n ?_
            refine AWp.ghost (Mat.pat [] [(0, (.d (.list 1 (a0.map (eI .i64))))), (7, (.d (.int .i64 (w64 ((1 : Int) + r9))))), (8, (.d (.int .i64 r10.1))), (10, (.d (.int .i64 m37))), (11, (.d (.int .i64 s12.2.1))), (12, (.d (.bool s12.2.2.1))), (14, (.d (.int .i64 x35))), (43, (.d (.list 1 (a0.map (eI .i64))))), (44, (.d (.int .i64 (a0.length : Int)))), (45, (.d (.int .i64 s12.2.2.2))), (56, (.d (.bool (decide (x35 < r10.1)))))] [] hB (by rfl) (by rfl) (by rfl)) ?_
            refine AWp.cut h (fun m40 : Int => ([(0, (.d (.list 1 (a0.map (eI .i64))))), (7, (.d (.int .i64 (w64 ((1 : Int) + r9))))), (8, (.d (.int .i64 r10.1))), (10, (.d (.int .i64 m37))), (11, (.d (.int .i64 m40))), (12, (.d (.bool s12.2.2.1))), (14, (.d (.int .i64 x35))), (43, (.d (.list 1 (a0.map (eI .i64))))), (44, (.d (.int .i64 (a0.length : Int)))), (45, (.d (.int .i64 s12.2.2.2)))] : EL)) (fun m40 : Int => ([] : OL)) (fun m40 h E' O' hmat => ?_) (fun j41 hjj41 h => ?_)
            · refine seqQ_n ?_
              refine AWp.ghost hmat ?_
              refine AWp.region (OpJs.cons (OpJ.move (ltN hN rfl) (Opd.tmp 12 (.d (.bool s12.2.2.1))))
                (OpJs.cons (OpJ.move (ltN hN rfl) (Opd.tmp 59 (.d (.bool s12.2.2.1))))
                (OpJs.cons (OpJ.opt' (v := (.d (.int .i64 x35))) (OpJ.move (ltN hN rfl) (Opd.tmp 14 (.d (.int .i64 x35)))) (by rfl) (GuardV.plain _) (ltN hN rfl) (by rfl) (by rfl) (by rfl) (by rfl) (OptL.keep rfl OptL.nil))
                (OpJs.cons (OpJ.opt' (v := (.d (.int .i64 r10.1))) (OpJ.move (ltN hN rfl) (Opd.tmp 8 (.d (.int .i64 r10.1)))) (by rfl) (GuardV.plain _) (ltN hN rfl) (by rfl) (by rfl) (by rfl) (by rfl) (OptL.keep rfl OptL.nil))
                (OpJs.cons (OpJ.opt' (v := (.d (.bool (x35 == r10.1)))) (OpJ.eqlI (ltN hN rfl) (Opd.tmp 61 (.d (.int .i64 x35))) (Opd.tmp 62 (.d (.int .i64 r10.1)))) (by rfl) (GuardV.plain _) (ltN hN rfl) (by rfl) (by rfl) (by rfl) (by rfl) (OptL.opt (OptL.opt OptL.nil)))
                (OpJs.cons (OpJ.pickOr rfl (ltN hN rfl) (Opd.tmp 60 (.d (.bool s12.2.2.1))) (Opd.tmp 63 (.opt (s12.2.2.1 == false) (.d (.bool (x35 == r10.1))))))
                (OpJs.cons (OpJ.assign (ltN hN rfl) (Opd.tmp 64 (.d (.bool (s12.2.2.1 || (x35 == r10.1))))))
                (OpJs.nil)))))))) (by rfl) (by rfl) ?_
              refine blkQ_n ?_
              refine seqQ_n ?_
              refine AWp.ghost (Mat.pat [] [(0, (.d (.list 1 (a0.map (eI .i64))))), (7, (.d (.int .i64 (w64 ((1 : Int) + r9))))), (8, (.d (.int .i64 r10.1))), (10, (.d (.int .i64 m37))), (11, (.d (.int .i64 m40))), (12, (.d (.bool (s12.2.2.1 || (x35 == r10.1))))), (43, (.d (.list 1 (a0.map (eI .i64))))), (44, (.d (.int .i64 (a0.length : Int)))), (45, (.d (.int .i64 s12.2.2.2)))] [] hB (by rfl) (by rfl) (by rfl)) ?_
              refine AWp.region (OpJs.cons (OpJ.add (ltN hN rfl) (Opd.tmp 45 (.d (.int .i64 s12.2.2.2))) (Opd.int .i64 (1)))
                (OpJs.cons (OpJ.move (ltN hN rfl) (Opd.tmp 65 (.d (.int .i64 (w64 (s12.2.2.2 + (1 : Int)))))))
                (OpJs.nil))) (by rfl) (by rfl) ?_
              obtain rfl := Option.some.inj h
              exact ⟨rfl, (Mat.trans (Mat.pat [] [(0, (.d (.list 1 (a0.map (eI .i64))))), (7, (.d (.int .i64 (w64 ((1 : Int) + r9))))), (8, (.d (.int .i64 r10.1))), (10, (.d (.int .i64 m37))), (11, (.d (.int .i64 m40))), (12, (.d (.bool (s12.2.2.1 || (x35 == r10.1))))), (43, (.d (.list 1 (a0.map (eI .i64))))), (44, (.d (.int .i64 (a0.length : Int)))), (45, (.d (.int .i64 (w64 (s12.2.2.2 + (1 : Int))))))] [] hB (by rfl) (by rfl) (by rfl)) (Mat.pat [] ((fun s12 : Int × Int × Bool × Int => ([(0, (.d (.list 1 (a0.map (eI .i64))))), (7, (.d (.int .i64 (w64 ((1 : Int) + r9))))), (8, (.d (.int .i64 r10.1))), (10, (.d (.int .i64 s12.1))), (11, (.d (.int .i64 s12.2.1))), (12, (.d (.bool s12.2.2.1))), (43, (.d (.list 1 (a0.map (eI .i64))))), (44, (.d (.int .i64 (a0.length : Int)))), (45, (.d (.int .i64 s12.2.2.2)))] : EL)) (m37, m40, (s12.2.2.1 || (x35 == r10.1)), (w64 (s12.2.2.2 + (1 : Int))))) ((fun s12 : Int × Int × Bool × Int => ([] : OL)) (m37, m40, (s12.2.2.1 || (x35 == r10.1)), (w64 (s12.2.2.2 + (1 : Int))))) hB (by rfl) (by rfl) (by rfl)))⟩
            · refine AWp.cond (b := (decide (x35 < r10.1))) (by rfl) (fun hg42 => ?_) (fun hg42 => ?_)
              · replace h := ite_t hg42 h
                refine AWp.region (OpJs.cons (OpJ.move (ltN hN rfl) (Opd.tmp 11 (.d (.int .i64 s12.2.1))))
                  (OpJs.cons (OpJ.add (ltN hN rfl) (Opd.tmp 57 (.d (.int .i64 s12.2.1))) (Opd.int .i64 (1)))
                  (OpJs.cons (OpJ.assign (ltN hN rfl) (Opd.tmp 58 (.d (.int .i64 (w64 (s12.2.1 + (1 : Int)))))))
                  (OpJs.nil)))) (by rfl) (by rfl) ?_
                exact hjj41 _ h _ _ (Mat.trans (Mat.pat [] [(0, (.d (.list 1 (a0.map (eI .i64))))), (7, (.d (.int .i64 (w64 ((1 : Int) + r9))))), (8, (.d (.int .i64 r10.1))), (10, (.d (.int .i64 m37))), (11, (.d (.int .i64 (w64 (s12.2.1 + (1 : Int)))))), (12, (.d (.bool s12.2.2.1))), (14, (.d (.int .i64 x35))), (43, (.d (.list 1 (a0.map (eI .i64))))), (44, (.d (.int .i64 (a0.length : Int)))), (45, (.d (.int .i64 s12.2.2.2)))] [] hB (by rfl) (by rfl) (by rfl)) (Mat.pat [] ((fun m40 : Int => ([(0, (.d (.list 1 (a0.map (eI .i64))))), (7, (.d (.int .i64 (w64 ((1 : Int) + r9))))), (8, (.d (.int .i64 r10.1))), (10, (.d (.int .i64 m37))), (11, (.d (.int .i64 m40))), (12, (.d (.bool s12.2.2.1))), (14, (.d (.int .i64 x35))), (43, (.d (.list 1 (a0.map (eI .i64))))), (44, (.d (.int .i64 (a0.length : Int)))), (45, (.d (.int .i64 s12.2.2.2)))] : EL)) (w64 (s12.2.1 + (1 : Int)))) ((fun m40 : Int => ([] : OL)) (w64 (s12.2.1 + (1 : Int)))) hB (by rfl) (by rfl) (by rfl)))
              · replace h := ite_f hg42 h
                refine AWp.skip ?_
                exact hjj41 _ h _ _ (Mat.pat [] ((fun m40 : Int => ([(0, (.d (.list 1 (a0.map (eI .i64))))), (7, (.d (.int .i64 (w64 ((1 : Int) + r9))))), (8, (.d (.int .i64 r10.1))), (10, (.d (.int .i64 m37))), (11, (.d (.int .i64 m40))), (12, (.d (.bool s12.2.2.1))), (14, (.d (.int .i64 x35))), (43, (.d (.list 1 (a0.map (eI .i64))))), (44, (.d (.int .i64 (a0.length : Int)))), (45, (.d (.int .i64 s12.2.2.2)))] : EL)) s12.2.1) ((fun m40 : Int => ([] : OL)) s12.2.1) hB (by rfl) (by rfl) (by rfl))
          · refine AWp.cond (b := (decide (x35 ≤ r10.1))) (by rfl) (fun hg43 => ?_) (fun hg43 => ?_)
            · replace h := ite_t hg43 h
              refine AWp.region (OpJs.cons (OpJ.move (ltN hN rfl) (Opd.tmp 10 (.d (.int .i64 s12.1))))
                (OpJs.cons (OpJ.add (ltN hN rfl) (Opd.tmp 52 (.d (.int .i64 s12.1))) (Opd.int .i64 (1)))
                (OpJs.cons (OpJ.assign (ltN hN rfl) (Opd.tmp 53 (.d (.int .i64 (w64 (s12.1 + (1 : Int)))))))
                (OpJs.nil)))) (by rfl) (by rfl) ?_
              exact hjj38 _ h _ _ (Mat.trans (Mat.pat [] [(0, (.d (.list 1 (a0.map (eI .i64))))), (7, (.d (.int .i64 (w64 ((1 : Int) + r9))))), (8, (.d (.int .i64 r10.1))), (10, (.d (.int .i64 (w64 (s12.1 + (1 : Int)))))), (11, (.d (.int .i64 s12.2.1))), (12, (.d (.bool s12.2.2.1))), (14, (.d (.int .i64 x35))), (43, (.d (.list 1 (a0.map (eI .i64))))), (44, (.d (.int .i64 (a0.length : Int)))), (45, (.d (.int .i64 s12.2.2.2)))] [] hB (by rfl) (by rfl) (by rfl)) (Mat.pat [] ((fun m37 : Int => ([(0, (.d (.list 1 (a0.map (eI .i64))))), (7, (.d (.int .i64 (w64 ((1 : Int) + r9))))), (8, (.d (.int .i64 r10.1))), (10, (.d (.int .i64 m37))), (11, (.d (.int .i64 s12.2.1))), (12, (.d (.bool s12.2.2.1))), (14, (.d (.int .i64 x35))), (43, (.d (.list 1 (a0.map (eI .i64))))), (44, (.d (.int .i64 (a0.length : Int)))), (45, (.d (.int .i64 s12.2.2.2)))] : EL)) (w64 (s12.1 + (1 : Int)))) ((fun m37 : Int => ([] : OL)) (w64 (s12.1 + (1 : Int)))) hB (by rfl) (by rfl) (by rfl)))
            · replace h := ite_f hg43 h
              refine AWp.skip ?_
              exact hjj38 _ h _ _ (Mat.pat [] ((fun m37 : Int => ([(0, (.d (.list 1 (a0.map (eI .i64))))), (7, (.d (.int .i64 (w64 ((1 : Int) + r9))))), (8, (.d (.int .i64 r10.1))), (10, (.d (.int .i64 m37))), (11, (.d (.int .i64 s12.2.1))), (12, (.d (.bool s12.2.2.1))), (14, (.d (.int .i64 x35))), (43, (.d (.list 1 (a0.map (eI .i64))))), (44, (.d (.int .i64 (a0.length : Int)))), (45, (.d (.int .i64 s12.2.2.2)))] : EL)) s12.1) ((fun m37 : Int => ([] : OL)) s12.1) hB (by rfl) (by rfl) (by rfl))
        · replace h := ite_f hg34 h
          refine AWp.exit ?_
          refine seqQ_e ?_
          obtain rfl := Option.some.inj h
          exact ⟨(fun hc => by cases hc), rfl, (Mat.pat [] ((fun p33 : Int × Int × Bool => ([(0, (.d (.list 1 (a0.map (eI .i64))))), (7, (.d (.int .i64 (w64 ((1 : Int) + r9))))), (10, (.d (.int .i64 p33.1))), (11, (.d (.int .i64 p33.2.1))), (12, (.d (.bool p33.2.2)))] : EL)) (s12.1, s12.2.1, s12.2.2.1)) ((fun p33 : Int × Int × Bool => ([] : OL)) (s12.1, s12.2.1, s12.2.2.1)) hB (by rfl) (by rfl) (by rfl))⟩
      · obtain ⟨rfl, hmat⟩ := hR
        refine blkQ_hit ?_
        refine seqQ_n ?_
        refine AWp.ghost hmat ?_
        refine AWp.seq ?_
        refine AWp.cut h (fun m48 : Bool => ([(4, (.d (.bool m48)))] : EL)) (fun m48 : Bool => ([] : OL)) (fun m48 h E' O' hmat => ?_) (fun j49 hjj49 h => ?_)
        · refine seqQ_n ?_
          refine AWp.ghost hmat ?_
          refine AWp.ret ?_
          obtain rfl := Option.some.inj h
          exact ⟨.inl rfl, _, _, (Mat.pat [] [(4, (.d (.bool m48)))] [] hB (by rfl) (by rfl) (by rfl)), [(.d (.bool m48))], (Res.tmp (by rfl) (by rfl) Res.nil), rfl, by rfl, by rfl, by rfl⟩
        · rcases Bool.eq_false_or_eq_true ((p33.2.2 && (decide ((w64 ((w64 ((1 : Int) + r9)) * (a0.length : Int))) ≤ (w64 (p33.1 * (100 : Int)))))) && (decide ((w64 (p33.2.1 * (100 : Int))) < (w64 ((w64 ((1 : Int) + r9)) * (a0.length : Int)))))) with hg50 | hg50
          · replace h := ite_t hg50 h
            obtain ⟨r51, hr51, h⟩ := bindS h
            refine AWp.region (OpJs.cons (OpJ.move (ltN hN rfl) (Opd.tmp 12 (.d (.bool p33.2.2))))
              (OpJs.cons (OpJ.move (ltN hN rfl) (Opd.tmp 66 (.d (.bool p33.2.2))))
              (OpJs.cons (OpJ.opt' (v := (.d (.int .i64 p33.1))) (OpJ.move (ltN hN rfl) (Opd.tmp 10 (.d (.int .i64 p33.1)))) (by rfl) (GuardV.plain _) (ltN hN rfl) (by rfl) (by rfl) (by rfl) (by rfl) (OptL.keep rfl OptL.nil))
              (OpJs.cons (OpJ.opt' (v := (.d (.int .i64 (w64 (p33.1 * (100 : Int)))))) (OpJ.mul (ltN hN rfl) (Opd.tmp 68 (.d (.int .i64 p33.1))) (Opd.int .i64 (100))) (by rfl) (GuardV.plain _) (ltN hN rfl) (by rfl) (by rfl) (by rfl) (by rfl) (OptL.opt OptL.nil))
              (OpJs.cons (OpJ.opt' (v := (.d (.int .i64 (w64 ((1 : Int) + r9))))) (OpJ.move (ltN hN rfl) (Opd.tmp 7 (.d (.int .i64 (w64 ((1 : Int) + r9)))))) (by rfl) (GuardV.plain _) (ltN hN rfl) (by rfl) (by rfl) (by rfl) (by rfl) (OptL.keep rfl OptL.nil))
              (OpJs.cons (OpJ.opt' (v := (.d (.list 1 (a0.map (eI .i64))))) (OpJ.move (ltN hN rfl) (Opd.tmp 0 (.d (.list 1 (a0.map (eI .i64)))))) (by rfl) (GuardV.plain _) (ltN hN rfl) (by rfl) (by rfl) (by rfl) (by rfl) (OptL.keep rfl OptL.nil))
              (OpJs.cons (OpJ.opt' (v := (.d (.int .i64 (a0.length : Int)))) (OpJ.val (v' := (.d (.int .i64 (a0.length : Int)))) (by simp) (OpJ.lenD Try.underlying22 (ltN hN rfl) (Opd.tmp 71 (.d (.list 1 (a0.map (eI .i64))))))) (by rfl) (GuardV.plain _) (ltN hN rfl) (by rfl) (by rfl) (by rfl) (by rfl) (OptL.opt OptL.nil))
              (OpJs.cons (OpJ.opt' (v := (.d (.int .i64 (w64 ((w64 ((1 : Int) + r9)) * (a0.length : Int)))))) (OpJ.mul (ltN hN rfl) (Opd.tmp 70 (.d (.int .i64 (w64 ((1 : Int) + r9))))) (Opd.tmp 72 (.d (.int .i64 (a0.length : Int))))) (by rfl) (GuardV.plain _) (ltN hN rfl) (by rfl) (by rfl) (by rfl) (by rfl) (OptL.opt (OptL.opt OptL.nil)))
              (OpJs.cons (OpJ.opt' (v := (.d (.bool (decide ((w64 ((w64 ((1 : Int) + r9)) * (a0.length : Int))) ≤ (w64 (p33.1 * (100 : Int)))))))) (OpJ.geq (ltN hN rfl) (Opd.tmp 69 (.d (.int .i64 (w64 (p33.1 * (100 : Int)))))) (Opd.tmp 73 (.d (.int .i64 (w64 ((w64 ((1 : Int) + r9)) * (a0.length : Int))))))) (by rfl) (GuardV.plain _) (ltN hN rfl) (by rfl) (by rfl) (by rfl) (by rfl) (OptL.opt (OptL.opt OptL.nil)))
              (OpJs.cons (OpJ.pickAnd rfl (ltN hN rfl) (Opd.tmp 67 (.d (.bool p33.2.2))) (Opd.tmp 74 (.opt (p33.2.2 == true) (.d (.bool (decide ((w64 ((w64 ((1 : Int) + r9)) * (a0.length : Int))) ≤ (w64 (p33.1 * (100 : Int))))))))))
              (OpJs.cons (OpJ.move (ltN hN rfl) (Opd.tmp 75 (.d (.bool (p33.2.2 && (decide ((w64 ((w64 ((1 : Int) + r9)) * (a0.length : Int))) ≤ (w64 (p33.1 * (100 : Int))))))))))
              (OpJs.cons (OpJ.opt' (v := (.d (.int .i64 p33.2.1))) (OpJ.move (ltN hN rfl) (Opd.tmp 11 (.d (.int .i64 p33.2.1)))) (by rfl) (GuardV.plain _) (ltN hN rfl) (by rfl) (by rfl) (by rfl) (by rfl) (OptL.keep rfl OptL.nil))
              (OpJs.cons (OpJ.opt' (v := (.d (.int .i64 (w64 (p33.2.1 * (100 : Int)))))) (OpJ.mul (ltN hN rfl) (Opd.tmp 77 (.d (.int .i64 p33.2.1))) (Opd.int .i64 (100))) (by rfl) (GuardV.plain _) (ltN hN rfl) (by rfl) (by rfl) (by rfl) (by rfl) (OptL.opt OptL.nil))
              (OpJs.cons (OpJ.opt' (v := (.d (.int .i64 (w64 ((1 : Int) + r9))))) (OpJ.move (ltN hN rfl) (Opd.tmp 7 (.d (.int .i64 (w64 ((1 : Int) + r9)))))) (by rfl) (GuardV.plain _) (ltN hN rfl) (by rfl) (by rfl) (by rfl) (by rfl) (OptL.keep rfl OptL.nil))
              (OpJs.cons (OpJ.opt' (v := (.d (.list 1 (a0.map (eI .i64))))) (OpJ.move (ltN hN rfl) (Opd.tmp 0 (.d (.list 1 (a0.map (eI .i64)))))) (by rfl) (GuardV.plain _) (ltN hN rfl) (by rfl) (by rfl) (by rfl) (by rfl) (OptL.keep rfl OptL.nil))
              (OpJs.cons (OpJ.opt' (v := (.d (.int .i64 (a0.length : Int)))) (OpJ.val (v' := (.d (.int .i64 (a0.length : Int)))) (by simp) (OpJ.lenD Try.underlying22 (ltN hN rfl) (Opd.tmp 80 (.d (.list 1 (a0.map (eI .i64))))))) (by rfl) (GuardV.plain _) (ltN hN rfl) (by rfl) (by rfl) (by rfl) (by rfl) (OptL.opt OptL.nil))
              (OpJs.cons (OpJ.opt' (v := (.d (.int .i64 (w64 ((w64 ((1 : Int) + r9)) * (a0.length : Int)))))) (OpJ.mul (ltN hN rfl) (Opd.tmp 79 (.d (.int .i64 (w64 ((1 : Int) + r9))))) (Opd.tmp 81 (.d (.int .i64 (a0.length : Int))))) (by rfl) (GuardV.plain _) (ltN hN rfl) (by rfl) (by rfl) (by rfl) (by rfl) (OptL.opt (OptL.opt OptL.nil)))
              (OpJs.cons (OpJ.opt' (v := (.d (.bool (decide ((w64 (p33.2.1 * (100 : Int))) < (w64 ((w64 ((1 : Int) + r9)) * (a0.length : Int)))))))) (OpJ.lss (ltN hN rfl) (Opd.tmp 78 (.d (.int .i64 (w64 (p33.2.1 * (100 : Int)))))) (Opd.tmp 82 (.d (.int .i64 (w64 ((w64 ((1 : Int) + r9)) * (a0.length : Int))))))) (by rfl) (GuardV.plain _) (ltN hN rfl) (by rfl) (by rfl) (by rfl) (by rfl) (OptL.opt (OptL.opt OptL.nil)))
              (OpJs.cons (OpJ.pickAnd rfl (ltN hN rfl) (Opd.tmp 76 (.d (.bool (p33.2.2 && (decide ((w64 ((w64 ((1 : Int) + r9)) * (a0.length : Int))) ≤ (w64 (p33.1 * (100 : Int))))))))) (Opd.tmp 83 (.opt ((p33.2.2 && (decide ((w64 ((w64 ((1 : Int) + r9)) * (a0.length : Int))) ≤ (w64 (p33.1 * (100 : Int)))))) == true) (.d (.bool (decide ((w64 (p33.2.1 * (100 : Int))) < (w64 ((w64 ((1 : Int) + r9)) * (a0.length : Int))))))))))
              (OpJs.cons (OpJ.val (v' := .d (.bool true)) (by rw [hg50]) (OpJ.move (ltN hN rfl) (Opd.tmp 84 (.d (.bool ((p33.2.2 && (decide ((w64 ((w64 ((1 : Int) + r9)) * (a0.length : Int))) ≤ (w64 (p33.1 * (100 : Int)))))) && (decide ((w64 (p33.2.1 * (100 : Int))) < (w64 ((w64 ((1 : Int) + r9)) * (a0.length : Int)))))))))))
              (OpJs.cons (OpJ.guarded (by rfl) (OpJ.callFn hB fnOk9 (exchangepointlaw40_awake_ac  r51 hr51) [] (by kernel_rfl) (ltN hN rfl) (by kernel_rfl) OpdL.nil))
              (OpJs.cons (OpJ.pickT (ltN hN rfl) (Opd.tmp 85 (.d (.bool true))) (Opd.tmp 86 (.d (.bool r51))))
              (OpJs.cons (OpJ.assign (ltN hN rfl) (Opd.tmp 87 (.d (.bool r51))))
              (OpJs.nil)))))))))))))))))))))))) (by rfl) (by rfl) ?_
            exact hjj49 _ h _ _ (Mat.trans (Mat.pat [] [(4, (.d (.bool r51)))] [] hB (by rfl) (by rfl) (by rfl)) (Mat.pat [] ((fun m48 : Bool => ([(4, (.d (.bool m48)))] : EL)) r51) ((fun m48 : Bool => ([] : OL)) r51) hB (by rfl) (by rfl) (by rfl)))
          · replace h := ite_f hg50 h
            refine AWp.region (OpJs.cons (OpJ.move (ltN hN rfl) (Opd.tmp 12 (.d (.bool p33.2.2))))
              (OpJs.cons (OpJ.move (ltN hN rfl) (Opd.tmp 66 (.d (.bool p33.2.2))))
              (OpJs.cons (OpJ.opt' (v := (.d (.int .i64 p33.1))) (OpJ.move (ltN hN rfl) (Opd.tmp 10 (.d (.int .i64 p33.1)))) (by rfl) (GuardV.plain _) (ltN hN rfl) (by rfl) (by rfl) (by rfl) (by rfl) (OptL.keep rfl OptL.nil))
              (OpJs.cons (OpJ.opt' (v := (.d (.int .i64 (w64 (p33.1 * (100 : Int)))))) (OpJ.mul (ltN hN rfl) (Opd.tmp 68 (.d (.int .i64 p33.1))) (Opd.int .i64 (100))) (by rfl) (GuardV.plain _) (ltN hN rfl) (by rfl) (by rfl) (by rfl) (by rfl) (OptL.opt OptL.nil))
              (OpJs.cons (OpJ.opt' (v := (.d (.int .i64 (w64 ((1 : Int) + r9))))) (OpJ.move (ltN hN rfl) (Opd.tmp 7 (.d (.int .i64 (w64 ((1 : Int) + r9)))))) (by rfl) (GuardV.plain _) (ltN hN rfl) (by rfl) (by rfl) (by rfl) (by rfl) (OptL.keep rfl OptL.nil))
              (OpJs.cons (OpJ.opt' (v := (.d (.list 1 (a0.map (eI .i64))))) (OpJ.move (ltN hN rfl) (Opd.tmp 0 (.d (.list 1 (a0.map (eI .i64)))))) (by rfl) (GuardV.plain _) (ltN hN rfl) (by rfl) (by rfl) (by rfl) (by rfl) (OptL.keep rfl OptL.nil))
              (OpJs.cons (OpJ.opt' (v := (.d (.int .i64 (a0.length : Int)))) (OpJ.val (v' := (.d (.int .i64 (a0.length : Int)))) (by simp) (OpJ.lenD Try.underlying22 (ltN hN rfl) (Opd.tmp 71 (.d (.list 1 (a0.map (eI .i64))))))) (by rfl) (GuardV.plain _) (ltN hN rfl) (by rfl) (by rfl) (by rfl) (by rfl) (OptL.opt OptL.nil))
              (OpJs.cons (OpJ.opt' (v := (.d (.int .i64 (w64 ((w64 ((1 : Int) + r9)) * (a0.length : Int)))))) (OpJ.mul (ltN hN rfl) (Opd.tmp 70 (.d (.int .i64 (w64 ((1 : Int) + r9))))) (Opd.tmp 72 (.d (.int .i64 (a0.length : Int))))) (by rfl) (GuardV.plain _) (ltN hN rfl) (by rfl) (by rfl) (by rfl) (by rfl) (OptL.opt (OptL.opt OptL.nil)))
              (OpJs.cons (OpJ.opt' (v := (.d (.bool (decide ((w64 ((w64 ((1 : Int) + r9)) * (a0.length : Int))) ≤ (w64 (p33.1 * (100 : Int)))))))) (OpJ.geq (ltN hN rfl) (Opd.tmp 69 (.d (.int .i64 (w64 (p33.1 * (100 : Int)))))) (Opd.tmp 73 (.d (.int .i64 (w64 ((w64 ((1 : Int) + r9)) * (a0.length : Int))))))) (by rfl) (GuardV.plain _) (ltN hN rfl) (by rfl) (by rfl) (by rfl) (by rfl) (OptL.opt (OptL.opt OptL.nil)))
              (OpJs.cons (OpJ.pickAnd rfl (ltN hN rfl) (Opd.tmp 67 (.d (.bool p33.2.2))) (Opd.tmp 74 (.opt (p33.2.2 == true) (.d (.bool (decide ((w64 ((w64 ((1 : Int) + r9)) * (a0.length : Int))) ≤ (w64 (p33.1 * (100 : Int))))))))))
              (OpJs.cons (OpJ.move (ltN hN rfl) (Opd.tmp 75 (.d (.bool (p33.2.2 && (decide ((w64 ((w64 ((1 : Int) + r9)) * (a0.length : Int))) ≤ (w64 (p33.1 * (100 : Int))))))))))
              (OpJs.cons (OpJ.opt' (v := (.d (.int .i64 p33.2.1))) (OpJ.move (ltN hN rfl) (Opd.tmp 11 (.d (.int .i64 p33.2.1)))) (by rfl) (GuardV.plain _) (ltN hN rfl) (by rfl) (by rfl) (by rfl) (by rfl) (OptL.keep rfl OptL.nil))
              (OpJs.cons (OpJ.opt' (v := (.d (.int .i64 (w64 (p33.2.1 * (100 : Int)))))) (OpJ.mul (ltN hN rfl) (Opd.tmp 77 (.d (.int .i64 p33.2.1))) (Opd.int .i64 (100))) (by rfl) (GuardV.plain _) (ltN hN rfl) (by rfl) (by rfl) (by rfl) (by rfl) (OptL.opt OptL.nil))
              (OpJs.cons (OpJ.opt' (v := (.d (.int .i64 (w64 ((1 : Int) + r9))))) (OpJ.move (ltN hN rfl) (Opd.tmp 7 (.d (.int .i64 (w64 ((1 : Int) + r9)))))) (by rfl) (GuardV.plain _) (ltN hN rfl) (by rfl) (by rfl) (by rfl) (by rfl) (OptL.keep rfl OptL.nil))
              (OpJs.cons (OpJ.opt' (v := (.d (.list 1 (a0.map (eI .i64))))) (OpJ.move (ltN hN rfl) (Opd.tmp 0 (.d (.list 1 (a0.map (eI .i64)))))) (by rfl) (GuardV.plain _) (ltN hN rfl) (by rfl) (by rfl) (by rfl) (by rfl) (OptL.keep rfl OptL.nil))
              (OpJs.cons (OpJ.opt' (v := (.d (.int .i64 (a0.length : Int)))) (OpJ.val (v' := (.d (.int .i64 (a0.length : Int)))) (by simp) (OpJ.lenD Try.underlying22 (ltN hN rfl) (Opd.tmp 80 (.d (.list 1 (a0.map (eI .i64))))))) (by rfl) (GuardV.plain _) (ltN hN rfl) (by rfl) (by rfl) (by rfl) (by rfl) (OptL.opt OptL.nil))
              (OpJs.cons (OpJ.opt' (v := (.d (.int .i64 (w64 ((w64 ((1 : Int) + r9)) * (a0.length : Int)))))) (OpJ.mul (ltN hN rfl) (Opd.tmp 79 (.d (.int .i64 (w64 ((1 : Int) + r9))))) (Opd.tmp 81 (.d (.int .i64 (a0.length : Int))))) (by rfl) (GuardV.plain _) (ltN hN rfl) (by rfl) (by rfl) (by rfl) (by rfl) (OptL.opt (OptL.opt OptL.nil)))
              (OpJs.cons (OpJ.opt' (v := (.d (.bool (decide ((w64 (p33.2.1 * (100 : Int))) < (w64 ((w64 ((1 : Int) + r9)) * (a0.length : Int)))))))) (OpJ.lss (ltN hN rfl) (Opd.tmp 78 (.d (.int .i64 (w64 (p33.2.1 * (100 : Int)))))) (Opd.tmp 82 (.d (.int .i64 (w64 ((w64 ((1 : Int) + r9)) * (a0.length : Int))))))) (by rfl) (GuardV.plain _) (ltN hN rfl) (by rfl) (by rfl) (by rfl) (by rfl) (OptL.opt (OptL.opt OptL.nil)))
              (OpJs.cons (OpJ.pickAnd rfl (ltN hN rfl) (Opd.tmp 76 (.d (.bool (p33.2.2 && (decide ((w64 ((w64 ((1 : Int) + r9)) * (a0.length : Int))) ≤ (w64 (p33.1 * (100 : Int))))))))) (Opd.tmp 83 (.opt ((p33.2.2 && (decide ((w64 ((w64 ((1 : Int) + r9)) * (a0.length : Int))) ≤ (w64 (p33.1 * (100 : Int)))))) == true) (.d (.bool (decide ((w64 (p33.2.1 * (100 : Int))) < (w64 ((w64 ((1 : Int) + r9)) * (a0.length : Int))))))))))
              (OpJs.cons (OpJ.val (v' := .d (.bool false)) (by rw [hg50]) (OpJ.move (ltN hN rfl) (Opd.tmp 84 (.d (.bool ((p33.2.2 && (decide ((w64 ((w64 ((1 : Int) + r9)) * (a0.length : Int))) ≤ (w64 (p33.1 * (100 : Int)))))) && (decide ((w64 (p33.2.1 * (100 : Int))) < (w64 ((w64 ((1 : Int) + r9)) * (a0.length : Int)))))))))))
              (OpJs.cons (OpJ.skipU (ltN hN rfl) (by rfl))
              (OpJs.cons (OpJ.pickF (ltN hN rfl) (Opd.tmp 85 (.d (.bool false))) (Opd.bool false))
              (OpJs.cons (OpJ.assign (ltN hN rfl) (Opd.tmp 87 (.d (.bool false))))
              (OpJs.nil)))))))))))))))))))))))) (by rfl) (by rfl) ?_
            exact hjj49 _ h _ _ (Mat.trans (Mat.pat [] [(4, (.d (.bool false)))] [] hB (by rfl) (by rfl) (by rfl)) (Mat.pat [] ((fun m48 : Bool => ([(4, (.d (.bool m48)))] : EL)) false) ((fun m48 : Bool => ([] : OL)) false) hB (by rfl) (by rfl) (by rfl)))

noncomputable def exchangepointmill_Deck_Next (a0 : exchangepointmill_Deck) (a1 : Int) : Option (Int × exchangepointmill_Deck) :=
  (if (decide ((a0.fL.length : Int) ≤ a0.fAt)) = true then
  some ((0 : Int), a0)
  else
  (idx a0.fL (w64 ((w64 (a0.fAt + (1 : Int))) - (1 : Int)))).bind fun x2 =>
  (exchangepointmill_Mod x2 a1).bind fun r3 =>
  some (r3, (exchangepointmill_Deck.mk a0.fL (w64 (a0.fAt + (1 : Int))))))
set_option maxHeartbeats 4000000 in
set_option maxRecDepth 100000 in
theorem exchangepointmill_Deck_Next_ac (a0 : exchangepointmill_Deck) (a1 : Int) (r : Int × exchangepointmill_Deck) (h : exchangepointmill_Deck_Next a0 a1 = some r) : AC Try.prog 32 [(.ptr 0 0 []), (.d (.int .i64 a1))] [(0, (.box 54 (.d (e_exchangepointmill_Deck a0))))] (.d (.int .i64 r.1)) [(0, some (.box 54 (.d (e_exchangepointmill_Deck r.2))))] := by
  refine AC.of_code2 Try.func32 rfl rfl (Nat.le_of_ble_eq_true (by rfl)) fun B hB hN => ?_
  delta exchangepointmill_Deck_Next at h
  refine AWp.seq ?_
  refine AWp.region (OpJs.cons (OpJ.assign (ltN hN rfl) (Opd.int .i64 (0)))
  (OpJs.nil)) (by rfl) (by rfl) ?_
  refine seqQ_n ?_
  refine AWp.ghost (Mat.pat [] [(0, (.ptr 0 0 [])), (1, (.d (.int .i64 a1)))] [(0, some (.box 54 (.d (e_exchangepointmill_Deck a0))))] hB (by rfl) (by rfl) (by rfl)) ?_
  refine AWp.seq ?_
  refine AWp.seq ?_
  refine AWp.draws (by kernel_rfl) (OpJs.cons (OpJ.move (ltN hN rfl) (Opd.tmp 0 (.ptr 0 0 [])))
  (OpJs.cons (OpJ.nilP (obj := (.box 54 (.d (e_exchangepointmill_Deck a0)))) (ltN hN rfl) (Opd.tmp 5 (.ptr 0 0 [])))
  (OpJs.cons (OpJ.val (v' := (.ptr 0 1 [1])) (by rfl) (OpJ.fieldP Try.underlying54 (by rfl) (o := 1) (by rfl) tyS3 (by decide) (obj := (.box 54 (.d (e_exchangepointmill_Deck a0)))) (ltN hN rfl) (Opd.tmp 6 (.ptr 0 0 []))))
  (OpJs.cons (OpJ.loadB (bt := 54) (c := (.d (e_exchangepointmill_Deck a0))) (v := (.d (.int .i64 a0.fAt))) tyS3 (At.dst1 (f := (.int .i64 a0.fAt)) (by rfl) (by rfl) (At.here _) (by first | rfl | omega)) (by rfl) (by rfl) rfl (ltN hN rfl) (Opd.tmp 7 (.ptr 0 1 [1])))
  (OpJs.cons (OpJ.move (ltN hN rfl) (Opd.tmp 0 (.ptr 0 0 [])))
  (OpJs.cons (OpJ.nilP (obj := (.box 54 (.d (e_exchangepointmill_Deck a0)))) (ltN hN rfl) (Opd.tmp 9 (.ptr 0 0 [])))
  (OpJs.cons (OpJ.val (v' := (.ptr 0 0 [0])) (by rfl) (OpJ.fieldP Try.underlying54 (by rfl) (o := 0) (by rfl) tyS22 (by decide) (obj := (.box 54 (.d (e_exchangepointmill_Deck a0)))) (ltN hN rfl) (Opd.tmp 10 (.ptr 0 0 []))))
  (OpJs.cons (OpJ.loadB (bt := 54) (c := (.d (e_exchangepointmill_Deck a0))) (v := (.d (.list 1 (a0.fL.map (eI .i64))))) tyS22 (At.dst1 (f := (.list 1 (a0.fL.map (eI .i64)))) (by rfl) (by rfl) (At.here _) (by first | rfl | omega)) (by rfl) (by rfl) rfl (ltN hN rfl) (Opd.tmp 11 (.ptr 0 0 [0])))
  (OpJs.cons (OpJ.val (v' := (.d (.int .i64 (a0.fL.length : Int)))) (by simp) (OpJ.lenD Try.underlying22 (ltN hN rfl) (Opd.tmp 12 (.d (.list 1 (a0.fL.map (eI .i64)))))))
  (OpJs.cons (OpJ.geq (ltN hN rfl) (Opd.tmp 8 (.d (.int .i64 a0.fAt))) (Opd.tmp 13 (.d (.int .i64 (a0.fL.length : Int)))))
  (OpJs.nil))))))))))) (by kernel_rfl) (by rfl) (by rfl) ?_
  refine seqQ_n ?_
  refine AWp.ghost (Mat.pat [] [(0, (.ptr 0 0 [])), (1, (.d (.int .i64 a1))), (14, (.d (.bool (decide ((a0.fL.length : Int) ≤ a0.fAt)))))] [(0, some (.box 54 (.d (e_exchangepointmill_Deck a0))))] hB (by rfl) (by rfl) (by rfl)) ?_
  refine AWp.cond (b := (decide ((a0.fL.length : Int) ≤ a0.fAt))) (by rfl) (fun hg1 => ?_) (fun hg1 => ?_)
  · replace h := ite_t hg1 h
    refine AWp.seq ?_
    refine AWp.region (OpJs.cons (OpJ.assign (ltN hN rfl) (Opd.int .i64 (0)))
      (OpJs.nil)) (by rfl) (by rfl) ?_
    refine seqQ_n ?_
    refine AWp.ghost (Mat.pat [] [(4, (.d (.int .i64 (0 : Int))))] [(0, some (.box 54 (.d (e_exchangepointmill_Deck a0))))] hB (by rfl) (by rfl) (by rfl)) ?_
    refine AWp.ret ?_
    refine seqQ_r ?_
    obtain rfl := Option.some.inj h
    exact ⟨.inl rfl, _, _, (Mat.pat [] [(4, (.d (.int .i64 (0 : Int))))] [(0, some (.box 54 (.d (e_exchangepointmill_Deck a0))))] hB (by rfl) (by rfl) (by rfl)), [(.d (.int .i64 (0 : Int)))], (Res.tmp (by rfl) (by rfl) Res.nil), rfl, by rfl, by rfl, by rfl⟩
  · replace h := ite_f hg1 h
    refine AWp.skip ?_
    refine seqQ_n ?_
    refine AWp.seq ?_
    refine AWp.region (OpJs.cons (OpJ.move (ltN hN rfl) (Opd.tmp 0 (.ptr 0 0 [])))
      (OpJs.cons (OpJ.nilP (obj := (.box 54 (.d (e_exchangepointmill_Deck a0)))) (ltN hN rfl) (Opd.tmp 15 (.ptr 0 0 [])))
      (OpJs.cons (OpJ.val (v' := (.ptr 0 1 [1])) (by rfl) (OpJ.fieldP Try.underlying54 (by rfl) (o := 1) (by rfl) tyS3 (by decide) (obj := (.box 54 (.d (e_exchangepointmill_Deck a0)))) (ltN hN rfl) (Opd.tmp 16 (.ptr 0 0 []))))
      (OpJs.cons (OpJ.loadB (bt := 54) (c := (.d (e_exchangepointmill_Deck a0))) (v := (.d (.int .i64 a0.fAt))) tyS3 (At.dst1 (f := (.int .i64 a0.fAt)) (by rfl) (by rfl) (At.here _) (by first | rfl | omega)) (by rfl) (by rfl) rfl (ltN hN rfl) (Opd.tmp 17 (.ptr 0 1 [1])))
      (OpJs.cons (OpJ.add (ltN hN rfl) (Opd.tmp 18 (.d (.int .i64 a0.fAt))) (Opd.int .i64 (1)))
      (OpJs.cons (OpJ.nilP (obj := (.box 54 (.d (e_exchangepointmill_Deck a0)))) (ltN hN rfl) (Opd.tmp 15 (.ptr 0 0 [])))
      (OpJs.cons (OpJ.val (v' := (.ptr 0 1 [1])) (by rfl) (OpJ.fieldP Try.underlying54 (by rfl) (o := 1) (by rfl) tyS3 (by decide) (obj := (.box 54 (.d (e_exchangepointmill_Deck a0)))) (ltN hN rfl) (Opd.tmp 20 (.ptr 0 0 []))))
      (OpJs.cons (OpJ.storeB (bt := 54) (c := (.d (e_exchangepointmill_Deck a0))) (v := (.d (.int .i64 (w64 (a0.fAt + (1 : Int)))))) (c' := (.d (.st [(.list 1 (a0.fL.map (eI .i64))), (.int .i64 (w64 (a0.fAt + (1 : Int))))]))) tyS3 (SetAt.dst1 (f := (.int .i64 a0.fAt)) (f' := (.int .i64 (w64 (a0.fAt + (1 : Int))))) (by rfl) (by rfl) (SetAt.here _ _) (by rfl) (by rfl) (by first | rfl | omega)) (by rfl) (by rfl) (by simp) rfl (Opd.tmp 21 (.ptr 0 1 [1])) (Opd.tmp 19 (.d (.int .i64 (w64 (a0.fAt + (1 : Int)))))))
      (OpJs.nil))))))))) (by rfl) (by rfl) ?_
    refine seqQ_n ?_
    refine AWp.ghost (Mat.pat [] [(0, (.ptr 0 0 [])), (1, (.d (.int .i64 a1)))] [(0, some (.box 54 (.d (.st [(.list 1 (a0.fL.map (eI .i64))), (.int .i64 (w64 (a0.fAt + (1 : Int))))]))))] hB (by rfl) (by rfl) (by rfl)) ?_
    refine AWp.seq ?_
    obtain ⟨x2, hx2, h⟩ := bindS h
    obtain ⟨r3, hr3, h⟩ := bindS h
    refine AWp.draws (by kernel_rfl) (OpJs.cons (OpJ.move (ltN hN rfl) (Opd.tmp 0 (.ptr 0 0 [])))
      (OpJs.cons (OpJ.nilP (obj := (.box 54 (.d (.st [(.list 1 (a0.fL.map (eI .i64))), (.int .i64 (w64 (a0.fAt + (1 : Int))))])))) (ltN hN rfl) (Opd.tmp 22 (.ptr 0 0 [])))
      (OpJs.cons (OpJ.val (v' := (.ptr 0 0 [0])) (by rfl) (OpJ.fieldP Try.underlying54 (by rfl) (o := 0) (by rfl) tyS22 (by decide) (obj := (.box 54 (.d (.st [(.list 1 (a0.fL.map (eI .i64))), (.int .i64 (w64 (a0.fAt + (1 : Int))))])))) (ltN hN rfl) (Opd.tmp 23 (.ptr 0 0 []))))
      (OpJs.cons (OpJ.loadB (bt := 54) (c := (.d (.st [(.list 1 (a0.fL.map (eI .i64))), (.int .i64 (w64 (a0.fAt + (1 : Int))))]))) (v := (.d (.list 1 (a0.fL.map (eI .i64))))) tyS22 (At.dst1 (f := (.list 1 (a0.fL.map (eI .i64)))) (by rfl) (by rfl) (At.here _) (by first | rfl | omega)) (by rfl) (by rfl) rfl (ltN hN rfl) (Opd.tmp 24 (.ptr 0 0 [0])))
      (OpJs.cons (OpJ.move (ltN hN rfl) (Opd.tmp 0 (.ptr 0 0 [])))
      (OpJs.cons (OpJ.nilP (obj := (.box 54 (.d (.st [(.list 1 (a0.fL.map (eI .i64))), (.int .i64 (w64 (a0.fAt + (1 : Int))))])))) (ltN hN rfl) (Opd.tmp 26 (.ptr 0 0 [])))
      (OpJs.cons (OpJ.val (v' := (.ptr 0 1 [1])) (by rfl) (OpJ.fieldP Try.underlying54 (by rfl) (o := 1) (by rfl) tyS3 (by decide) (obj := (.box 54 (.d (.st [(.list 1 (a0.fL.map (eI .i64))), (.int .i64 (w64 (a0.fAt + (1 : Int))))])))) (ltN hN rfl) (Opd.tmp 27 (.ptr 0 0 []))))
      (OpJs.cons (OpJ.loadB (bt := 54) (c := (.d (.st [(.list 1 (a0.fL.map (eI .i64))), (.int .i64 (w64 (a0.fAt + (1 : Int))))]))) (v := (.d (.int .i64 (w64 (a0.fAt + (1 : Int)))))) tyS3 (At.dst1 (f := (.int .i64 (w64 (a0.fAt + (1 : Int))))) (by rfl) (by rfl) (At.here _) (by first | rfl | omega)) (by rfl) (by rfl) rfl (ltN hN rfl) (Opd.tmp 28 (.ptr 0 1 [1])))
      (OpJs.cons (OpJ.sub (ltN hN rfl) (Opd.tmp 29 (.d (.int .i64 (w64 (a0.fAt + (1 : Int)))))) (Opd.int .i64 (1)))
      (OpJs.cons (OpJ.indexD (el := (.int .i64 x2)) Try.underlying22 tyS3 (idx_some hx2).1 (get_map (eI .i64) (idx_some hx2).2) (ltN hN rfl) (Opd.tmp 25 (.d (.list 1 (a0.fL.map (eI .i64))))) (Opd.tmp 30 (.d (.int .i64 (w64 ((w64 (a0.fAt + (1 : Int))) - (1 : Int)))))))
      (OpJs.cons (OpJ.loadD tyS3 (by rfl) (by rfl) (ltN hN rfl) (Opd.tmp 31 (.dptr (.int .i64 x2))))
      (OpJs.cons (OpJ.move (ltN hN rfl) (Opd.tmp 1 (.d (.int .i64 a1))))
      (OpJs.cons (OpJ.callFn hB fnOk10 (exchangepointmill_Mod_ac x2 a1 r3 hr3) [] (by kernel_rfl) (ltN hN rfl) (by kernel_rfl) (OpdL.cons (Opd.tmp 32 (.d (.int .i64 x2))) (OpdL.cons (Opd.tmp 33 (.d (.int .i64 a1))) OpdL.nil)))
      (OpJs.cons (OpJ.assign (ltN hN rfl) (Opd.tmp 34 (.d (.int .i64 r3))))
      (OpJs.nil))))))))))))))) (by kernel_rfl) (by rfl) (by rfl) ?_
    refine seqQ_n ?_
    refine AWp.ghost (Mat.pat [] [(4, (.d (.int .i64 r3)))] [(0, some (.box 54 (.d (.st [(.list 1 (a0.fL.map (eI .i64))), (.int .i64 (w64 (a0.fAt + (1 : Int))))]))))] hB (by rfl) (by rfl) (by rfl)) ?_
    refine AWp.ret ?_
    obtain rfl := Option.some.inj h
    exact ⟨.inl rfl, _, _, (Mat.pat [] [(4, (.d (.int .i64 r3)))] [(0, some (.box 54 (.d (.st [(.list 1 (a0.fL.map (eI .i64))), (.int .i64 (w64 (a0.fAt + (1 : Int))))]))))] hB (by rfl) (by rfl) (by rfl)), [(.d (.int .i64 r3))], (Res.tmp (by rfl) (by rfl) Res.nil), rfl, by rfl, by rfl, by rfl⟩

noncomputable def slices_Equal_L0 (a0 : (List Int)) (a1 : (List Int)) (s2 : Int) : Option (((Unit) ⊕ (Unit)) ⊕ (Int)) :=
  (if (decide (s2 < (a0.length : Int))) = true then
  (idx a0 s2).bind fun x14 =>
  (idx a1 s2).bind fun x15 =>
  (if (x14 != x15) = true then
  some (.inl (.inl ()))
  else
  some (.inr (w64 (s2 + (1 : Int)))))
  else
  some (.inl (.inr ())))
noncomputable def slices_Equal (a0 : (List Int)) (a1 : (List Int)) : Option (Bool) :=
  (if ((a0.length : Int) != (a1.length : Int)) = true then
  some false
  else
  (loop (slices_Equal_L0 a0 a1) (0 : Int)).bind fun x17 => match x17 with
  | (.inl _) =>
    some false
  | (.inr _) =>
    some true)
set_option maxHeartbeats 4000000 in
set_option maxRecDepth 100000 in
theorem slices_Equal_ac (a0 : (List Int)) (a1 : (List Int)) (r : Bool) (h : slices_Equal a0 a1 = some r) : AC Try.prog 34 [(.d (.list 1 (a0.map (eI .i64)))), (.d (.list 1 (a1.map (eI .i64))))] [] (.d (.bool r)) [] := by
  refine AC.of_code2 Try.func34 rfl rfl (Nat.le_of_ble_eq_true (by rfl)) fun B hB hN => ?_
  delta slices_Equal at h
  refine AWp.seq ?_
  refine AWp.region (OpJs.cons (OpJ.assign (ltN hN rfl) (Opd.bool false))
  (OpJs.nil)) (by rfl) (by rfl) ?_
  refine seqQ_n ?_
  refine AWp.ghost (Mat.pat [] [(0, (.d (.list 1 (a0.map (eI .i64))))), (1, (.d (.list 1 (a1.map (eI .i64)))))] [] hB (by rfl) (by rfl) (by rfl)) ?_
  refine AWp.seq ?_
  refine AWp.seq ?_
  refine AWp.region (OpJs.cons (OpJ.move (ltN hN rfl) (Opd.tmp 0 (.d (.list 1 (a0.map (eI .i64))))))
  (OpJs.cons (OpJ.val (v' := (.d (.int .i64 (a0.length : Int)))) (by simp) (OpJ.lenD Try.underlying22 (ltN hN rfl) (Opd.tmp 6 (.d (.list 1 (a0.map (eI .i64)))))))
  (OpJs.cons (OpJ.move (ltN hN rfl) (Opd.tmp 1 (.d (.list 1 (a1.map (eI .i64))))))
  (OpJs.cons (OpJ.val (v' := (.d (.int .i64 (a1.length : Int)))) (by simp) (OpJ.lenD Try.underlying22 (ltN hN rfl) (Opd.tmp 8 (.d (.list 1 (a1.map (eI .i64)))))))
  (OpJs.cons (OpJ.neqI (ltN hN rfl) (Opd.tmp 7 (.d (.int .i64 (a0.length : Int)))) (Opd.tmp 9 (.d (.int .i64 (a1.length : Int)))))
  (OpJs.nil)))))) (by rfl) (by rfl) ?_
  refine seqQ_n ?_
  refine AWp.ghost (Mat.pat [] [(0, (.d (.list 1 (a0.map (eI .i64))))), (1, (.d (.list 1 (a1.map (eI .i64))))), (10, (.d (.bool ((a0.length : Int) != (a1.length : Int)))))] [] hB (by rfl) (by rfl) (by rfl)) ?_
  refine AWp.cond (b := ((a0.length : Int) != (a1.length : Int))) (by rfl) (fun hg1 => ?_) (fun hg1 => ?_)
  · replace h := ite_t hg1 h
    refine AWp.seq ?_
    refine AWp.region (OpJs.cons (OpJ.assign (ltN hN rfl) (Opd.bool false))
      (OpJs.nil)) (by rfl) (by rfl) ?_
    refine seqQ_n ?_
    refine AWp.ghost (Mat.pat [] [(4, (.d (.bool false)))] [] hB (by rfl) (by rfl) (by rfl)) ?_
    refine AWp.ret ?_
    refine seqQ_r ?_
    obtain rfl := Option.some.inj h
    exact ⟨.inl rfl, _, _, (Mat.pat [] [(4, (.d (.bool false)))] [] hB (by rfl) (by rfl) (by rfl)), [(.d (.bool false))], (Res.tmp (by rfl) (by rfl) Res.nil), rfl, by rfl, by rfl, by rfl⟩
  · replace h := ite_f hg1 h
    refine AWp.skip ?_
    refine seqQ_n ?_
    refine AWp.seq ?_
    refine AWp.seq ?_
    refine AWp.region (OpJs.cons (OpJ.move (ltN hN rfl) (Opd.tmp 0 (.d (.list 1 (a0.map (eI .i64))))))
      (OpJs.cons (OpJ.val (v' := (.d (.int .i64 (a0.length : Int)))) (by simp) (OpJ.lenD Try.underlying22 (ltN hN rfl) (Opd.tmp 11 (.d (.list 1 (a0.map (eI .i64)))))))
      (OpJs.cons (OpJ.move (ltN hN rfl) (Opd.int .i64 (0)))
      (OpJs.nil)))) (by rfl) (by rfl) ?_
    refine seqQ_n ?_
    refine AWp.ghost (Mat.pat [] [(0, (.d (.list 1 (a0.map (eI .i64))))), (1, (.d (.list 1 (a1.map (eI .i64))))), (12, (.d (.int .i64 (a0.length : Int)))), (13, (.d (.int .i64 (0 : Int))))] [] hB (by rfl) (by rfl) (by rfl)) ?_
    refine AWp.block ?_
    obtain ⟨x17, hx18, h⟩ := bindS h
    refine AWp.ghost (Mat.pat [] ((fun s2 : Int => ([(0, (.d (.list 1 (a0.map (eI .i64))))), (1, (.d (.list 1 (a1.map (eI .i64))))), (12, (.d (.int .i64 (a0.length : Int)))), (13, (.d (.int .i64 s2)))] : EL)) (0 : Int)) ((fun s2 : Int => ([] : OL)) (0 : Int)) hB (by rfl) (by rfl) (by rfl)) ?_
    refine AWp.loopS (slices_Equal_L0 a0 a1) (fun s2 : Int => ([(0, (.d (.list 1 (a0.map (eI .i64))))), (1, (.d (.list 1 (a1.map (eI .i64))))), (12, (.d (.int .i64 (a0.length : Int)))), (13, (.d (.int .i64 s2)))] : EL)) (fun s2 : Int => ([] : OL)) (fun (x : (Unit) ⊕ (Unit)) e E' O' => match x with | (.inl _p) => e = .ret ∧ Mat B E' O' ([(4, (.d (.bool false)))] : EL) ([] : OL) | (.inr _p) => e = .exit 0 ∧ Mat B E' O' ([] : EL) ([] : OL)) hx18 (fun s2 y h => ?_) (fun e E' O' hR => ?_)
    · unfold slices_Equal_L0 at h
      show AWp _ _ _ _ ([(0, (.d (.list 1 (a0.map (eI .i64))))), (1, (.d (.list 1 (a1.map (eI .i64))))), (12, (.d (.int .i64 (a0.length : Int)))), (13, (.d (.int .i64 s2)))] : EL) ([] : OL)
      refine AWp.seq ?_
      refine AWp.region (OpJs.cons (OpJ.lss (ltN hN rfl) (Opd.tmp 13 (.d (.int .i64 s2))) (Opd.tmp 12 (.d (.int .i64 (a0.length : Int)))))
        (OpJs.nil)) (by rfl) (by rfl) ?_
      refine seqQ_n ?_
      refine AWp.ghost (Mat.pat [] [(0, (.d (.list 1 (a0.map (eI .i64))))), (1, (.d (.list 1 (a1.map (eI .i64))))), (12, (.d (.int .i64 (a0.length : Int)))), (13, (.d (.int .i64 s2))), (14, (.d (.bool (decide (s2 < (a0.length : Int))))))] [] hB (by rfl) (by rfl) (by rfl)) ?_
      refine AWp.seq ?_
      refine AWp.cond (b := (decide (s2 < (a0.length : Int)))) (by rfl) (fun hg13 => ?_) (fun hg13 => ?_)
      · replace h := ite_t hg13 h
        refine AWp.skip ?_
        refine seqQ_n ?_
        refine AWp.seq ?_
        refine AWp.block ?_
        refine AWp.seq ?_
        refine AWp.region (OpJs.cons (OpJ.move (ltN hN rfl) (Opd.tmp 13 (.d (.int .i64 s2))))
          (OpJs.cons (OpJ.assign (ltN hN rfl) (Opd.tmp 15 (.d (.int .i64 s2))))
          (OpJs.nil))) (by rfl) (by rfl) ?_
        refine seqQ_n ?_
        refine AWp.ghost (Mat.pat [] [(0, (.d (.list 1 (a0.map (eI .i64))))), (1, (.d (.list 1 (a1.map (eI .i64))))), (5, (.d (.int .i64 s2))), (12, (.d (.int .i64 (a0.length : Int)))), (13, (.d (.int .i64 s2)))] [] hB (by rfl) (by rfl) (by rfl)) ?_
        refine AWp.seq ?_
        obtain ⟨x14, hx14, h⟩ := bindS h
        obtain ⟨x15, hx15, h⟩ := bindS h
        refine AWp.draws (by kernel_rfl) (OpJs.cons (OpJ.move (ltN hN rfl) (Opd.tmp 0 (.d (.list 1 (a0.map (eI .i64))))))
          (OpJs.cons (OpJ.move (ltN hN rfl) (Opd.tmp 5 (.d (.int .i64 s2))))
          (OpJs.cons (OpJ.indexD (el := (.int .i64 x14)) Try.underlying22 tyS3 (idx_some hx14).1 (get_map (eI .i64) (idx_some hx14).2) (ltN hN rfl) (Opd.tmp 16 (.d (.list 1 (a0.map (eI .i64))))) (Opd.tmp 17 (.d (.int .i64 s2))))
          (OpJs.cons (OpJ.loadD tyS3 (by rfl) (by rfl) (ltN hN rfl) (Opd.tmp 18 (.dptr (.int .i64 x14))))
          (OpJs.cons (OpJ.move (ltN hN rfl) (Opd.tmp 1 (.d (.list 1 (a1.map (eI .i64))))))
          (OpJs.cons (OpJ.move (ltN hN rfl) (Opd.tmp 5 (.d (.int .i64 s2))))
          (OpJs.cons (OpJ.indexD (el := (.int .i64 x15)) Try.underlying22 tyS3 (idx_some hx15).1 (get_map (eI .i64) (idx_some hx15).2) (ltN hN rfl) (Opd.tmp 20 (.d (.list 1 (a1.map (eI .i64))))) (Opd.tmp 21 (.d (.int .i64 s2))))
          (OpJs.cons (OpJ.loadD tyS3 (by rfl) (by rfl) (ltN hN rfl) (Opd.tmp 22 (.dptr (.int .i64 x15))))
          (OpJs.cons (OpJ.neqI (ltN hN rfl) (Opd.tmp 19 (.d (.int .i64 x14))) (Opd.tmp 23 (.d (.int .i64 x15))))
          (OpJs.nil)))))))))) (by kernel_rfl) (by rfl) (by rfl) ?_
        refine seqQ_n ?_
        refine AWp.ghost (Mat.pat [] [(0, (.d (.list 1 (a0.map (eI .i64))))), (1, (.d (.list 1 (a1.map (eI .i64))))), (12, (.d (.int .i64 (a0.length : Int)))), (13, (.d (.int .i64 s2))), (24, (.d (.bool (x14 != x15))))] [] hB (by rfl) (by rfl) (by rfl)) ?_
        refine AWp.cond (b := (x14 != x15)) (by rfl) (fun hg16 => ?_) (fun hg16 => ?_)
        · replace h := ite_t hg16 h
          refine AWp.seq ?_
          refine AWp.region (OpJs.cons (OpJ.assign (ltN hN rfl) (Opd.bool false))
            (OpJs.nil)) (by rfl) (by rfl) ?_
          refine seqQ_n ?_
          refine AWp.ghost (Mat.pat [] [(4, (.d (.bool false)))] [] hB (by rfl) (by rfl) (by rfl)) ?_
          refine AWp.ret ?_
          refine blkQ_r ?_
          refine seqQ_r ?_
          obtain rfl := Option.some.inj h
          exact ⟨(fun hc => by cases hc), rfl, (Mat.pat [] ((fun _ : Unit => ([(4, (.d (.bool false)))] : EL)) ()) ((fun _ : Unit => ([] : OL)) ()) hB (by rfl) (by rfl) (by rfl))⟩
        · replace h := ite_f hg16 h
          refine AWp.skip ?_
          refine blkQ_n ?_
          refine seqQ_n ?_
          refine AWp.region (OpJs.cons (OpJ.add (ltN hN rfl) (Opd.tmp 13 (.d (.int .i64 s2))) (Opd.int .i64 (1)))
            (OpJs.cons (OpJ.move (ltN hN rfl) (Opd.tmp 25 (.d (.int .i64 (w64 (s2 + (1 : Int)))))))
            (OpJs.nil))) (by rfl) (by rfl) ?_
          obtain rfl := Option.some.inj h
          exact ⟨rfl, (Mat.trans (Mat.pat [] [(0, (.d (.list 1 (a0.map (eI .i64))))), (1, (.d (.list 1 (a1.map (eI .i64))))), (12, (.d (.int .i64 (a0.length : Int)))), (13, (.d (.int .i64 (w64 (s2 + (1 : Int))))))] [] hB (by rfl) (by rfl) (by rfl)) (Mat.pat [] ((fun s2 : Int => ([(0, (.d (.list 1 (a0.map (eI .i64))))), (1, (.d (.list 1 (a1.map (eI .i64))))), (12, (.d (.int .i64 (a0.length : Int)))), (13, (.d (.int .i64 s2)))] : EL)) (w64 (s2 + (1 : Int)))) ((fun s2 : Int => ([] : OL)) (w64 (s2 + (1 : Int)))) hB (by rfl) (by rfl) (by rfl)))⟩
      · replace h := ite_f hg13 h
        refine AWp.exit ?_
        refine seqQ_e ?_
        obtain rfl := Option.some.inj h
        exact ⟨(fun hc => by cases hc), rfl, (Mat.pat [] ((fun _ : Unit => ([] : EL)) ()) ((fun _ : Unit => ([] : OL)) ()) hB (by rfl) (by rfl) (by rfl))⟩
    · rcases x17 with _ | _
      · obtain ⟨rfl, hmat⟩ := hR
        refine blkQ_r ?_
        refine seqQ_r ?_
        obtain rfl := Option.some.inj h
        exact ⟨.inl rfl, _, _, (Mat.trans hmat (Mat.pat [] [(4, (.d (.bool false)))] [] hB (by rfl) (by rfl) (by rfl))), [(.d (.bool false))], (Res.tmp (by rfl) (by rfl) Res.nil), rfl, by rfl, by rfl, by rfl⟩
      · obtain ⟨rfl, hmat⟩ := hR
        refine blkQ_hit ?_
        refine seqQ_n ?_
        refine AWp.ghost hmat ?_
        refine AWp.seq ?_
        refine AWp.region (OpJs.cons (OpJ.assign (ltN hN rfl) (Opd.bool true))
          (OpJs.nil)) (by rfl) (by rfl) ?_
        refine seqQ_n ?_
        refine AWp.ghost (Mat.pat [] [(4, (.d (.bool true)))] [] hB (by rfl) (by rfl) (by rfl)) ?_
        refine AWp.ret ?_
        obtain rfl := Option.some.inj h
        exact ⟨.inl rfl, _, _, (Mat.pat [] [(4, (.d (.bool true)))] [] hB (by rfl) (by rfl) (by rfl)), [(.d (.bool true))], (Res.tmp (by rfl) (by rfl) Res.nil), rfl, by rfl, by rfl, by rfl⟩

noncomputable def exchangepointref40_Same (a0 : api_Series) (a1 : api_Series) : Option (Bool) :=
  jn (fun m5 : Bool =>
  some m5) (fun j6 =>
  (if ((a0.fPort == a1.fPort) && (a0.fSeconds == a1.fSeconds)) = true then
  (slices_Equal a0.fIn a1.fIn).bind fun r8 =>
  (if r8 = true then
  (slices_Equal a0.fOut a1.fOut).bind fun r10 =>
  j6 r10
  else
  j6 false)
  else
  j6 false))
set_option maxHeartbeats 4000000 in
set_option maxRecDepth 100000 in
theorem exchangepointref40_Same_ac (a0 : api_Series) (a1 : api_Series) (r : Bool) (h : exchangepointref40_Same a0 a1 = some r) : AC Try.prog 15 [(.d (e_api_Series a0)), (.d (e_api_Series a1))] [] (.d (.bool r)) [] := by
  refine AC.of_code2 Try.func15 rfl rfl (Nat.le_of_ble_eq_true (by rfl)) fun B hB hN => ?_
  delta exchangepointref40_Same at h
  refine AWp.seq ?_
  refine AWp.region (OpJs.cons (OpJ.box hB (nm := 1002) (by decide) (by simp) rfl (ltN hN rfl) (Opd.tmp 0 (.d (e_api_Series a0))))
  (OpJs.cons (OpJ.box hB (nm := 1003) (by decide) (by simp) rfl (ltN hN rfl) (Opd.tmp 1 (.d (e_api_Series a1))))
  (OpJs.cons (OpJ.assign (ltN hN rfl) (Opd.bool false))
  (OpJs.nil)))) (by rfl) (by rfl) ?_
  refine seqQ_n ?_
  refine AWp.ghost (Mat.pat [] [(2, (.ptr 1002 0 [])), (3, (.ptr 1003 0 []))] [(1002, some (.box 30 (.d (e_api_Series a0)))), (1003, some (.box 30 (.d (e_api_Series a1))))] hB (by rfl) (by rfl) (by rfl)) ?_
  refine AWp.seq ?_
  refine AWp.cut h (fun m5 : Bool => ([(4, (.d (.bool m5)))] : EL)) (fun m5 : Bool => ([] : OL)) (fun m5 h E' O' hmat => ?_) (fun j6 hjj6 h => ?_)
  · refine seqQ_n ?_
    refine AWp.ghost hmat ?_
    refine AWp.ret ?_
    obtain rfl := Option.some.inj h
    exact ⟨.inl rfl, _, _, (Mat.pat [] [(4, (.d (.bool m5)))] [] hB (by rfl) (by rfl) (by rfl)), [(.d (.bool m5))], (Res.tmp (by rfl) (by rfl) Res.nil), rfl, by rfl, by rfl, by rfl⟩
  · rcases Bool.eq_false_or_eq_true ((a0.fPort == a1.fPort) && (a0.fSeconds == a1.fSeconds)) with hg7 | hg7
    · replace h := ite_t hg7 h
      obtain ⟨r8, hr8, h⟩ := bindS h
      rcases Bool.eq_false_or_eq_true r8 with hg9 | hg9
      · replace h := ite_t hg9 h
        obtain ⟨r10, hr10, h⟩ := bindS h
        refine AWp.region (OpJs.cons (OpJ.val (v' := (.ptr 1002 0 [0])) (by rfl) (OpJ.fieldP Try.underlying30 (by rfl) (o := 0) (by rfl) tyS3 (by decide) (obj := (.box 30 (.d (e_api_Series a0)))) (ltN hN rfl) (Opd.tmp 2 (.ptr 1002 0 []))))
          (OpJs.cons (OpJ.loadB (bt := 30) (c := (.d (e_api_Series a0))) (v := (.d (.int .i64 a0.fPort))) tyS3 (At.dst1 (f := (.int .i64 a0.fPort)) (by rfl) (by rfl) (At.here _) (by first | rfl | omega)) (by rfl) (by rfl) rfl (ltN hN rfl) (Opd.tmp 5 (.ptr 1002 0 [0])))
          (OpJs.cons (OpJ.val (v' := (.ptr 1003 0 [0])) (by rfl) (OpJ.fieldP Try.underlying30 (by rfl) (o := 0) (by rfl) tyS3 (by decide) (obj := (.box 30 (.d (e_api_Series a1)))) (ltN hN rfl) (Opd.tmp 3 (.ptr 1003 0 []))))
          (OpJs.cons (OpJ.loadB (bt := 30) (c := (.d (e_api_Series a1))) (v := (.d (.int .i64 a1.fPort))) tyS3 (At.dst1 (f := (.int .i64 a1.fPort)) (by rfl) (by rfl) (At.here _) (by first | rfl | omega)) (by rfl) (by rfl) rfl (ltN hN rfl) (Opd.tmp 7 (.ptr 1003 0 [0])))
          (OpJs.cons (OpJ.eqlI (ltN hN rfl) (Opd.tmp 6 (.d (.int .i64 a0.fPort))) (Opd.tmp 8 (.d (.int .i64 a1.fPort))))
          (OpJs.cons (OpJ.move (ltN hN rfl) (Opd.tmp 9 (.d (.bool (a0.fPort == a1.fPort)))))
          (OpJs.cons (OpJ.opt' (v := (.ptr 1002 1 [1])) (OpJ.val (v' := (.ptr 1002 1 [1])) (by rfl) (OpJ.fieldP Try.underlying30 (by rfl) (o := 1) (by rfl) tyS3 (by decide) (obj := (.box 30 (.d (e_api_Series a0)))) (ltN hN rfl) (Opd.tmp 2 (.ptr 1002 0 [])))) (by rfl) (GuardV.plain _) (ltN hN rfl) (by rfl) (by rfl) (by rfl) (by rfl) (OptL.keep rfl OptL.nil))
          (OpJs.cons (OpJ.opt' (v := (.d (.int .i64 a0.fSeconds))) (OpJ.loadB (bt := 30) (c := (.d (e_api_Series a0))) (v := (.d (.int .i64 a0.fSeconds))) tyS3 (At.dst1 (f := (.int .i64 a0.fSeconds)) (by rfl) (by rfl) (At.here _) (by first | rfl | omega)) (by rfl) (by rfl) rfl (ltN hN rfl) (Opd.tmp 11 (.ptr 1002 1 [1]))) (by rfl) (GuardV.plain _) (ltN hN rfl) (by rfl) (by rfl) (by rfl) (by rfl) (OptL.opt OptL.nil))
          (OpJs.cons (OpJ.opt' (v := (.ptr 1003 1 [1])) (OpJ.val (v' := (.ptr 1003 1 [1])) (by rfl) (OpJ.fieldP Try.underlying30 (by rfl) (o := 1) (by rfl) tyS3 (by decide) (obj := (.box 30 (.d (e_api_Series a1)))) (ltN hN rfl) (Opd.tmp 3 (.ptr 1003 0 [])))) (by rfl) (GuardV.plain _) (ltN hN rfl) (by rfl) (by rfl) (by rfl) (by rfl) (OptL.keep rfl OptL.nil))
          (OpJs.cons (OpJ.opt' (v := (.d (.int .i64 a1.fSeconds))) (OpJ.loadB (bt := 30) (c := (.d (e_api_Series a1))) (v := (.d (.int .i64 a1.fSeconds))) tyS3 (At.dst1 (f := (.int .i64 a1.fSeconds)) (by rfl) (by rfl) (At.here _) (by first | rfl | omega)) (by rfl) (by rfl) rfl (ltN hN rfl) (Opd.tmp 13 (.ptr 1003 1 [1]))) (by rfl) (GuardV.plain _) (ltN hN rfl) (by rfl) (by rfl) (by rfl) (by rfl) (OptL.opt OptL.nil))
          (OpJs.cons (OpJ.opt' (v := (.d (.bool (a0.fSeconds == a1.fSeconds)))) (OpJ.eqlI (ltN hN rfl) (Opd.tmp 12 (.d (.int .i64 a0.fSeconds))) (Opd.tmp 14 (.d (.int .i64 a1.fSeconds)))) (by rfl) (GuardV.plain _) (ltN hN rfl) (by rfl) (by rfl) (by rfl) (by rfl) (OptL.opt (OptL.opt OptL.nil)))
          (OpJs.cons (OpJ.pickAnd rfl (ltN hN rfl) (Opd.tmp 10 (.d (.bool (a0.fPort == a1.fPort)))) (Opd.tmp 15 (.opt ((a0.fPort == a1.fPort) == true) (.d (.bool (a0.fSeconds == a1.fSeconds))))))
          (OpJs.cons (OpJ.val (v' := .d (.bool true)) (by rw [hg7]) (OpJ.move (ltN hN rfl) (Opd.tmp 16 (.d (.bool ((a0.fPort == a1.fPort) && (a0.fSeconds == a1.fSeconds)))))))
          (OpJs.cons (OpJ.guarded (by rfl) (OpJ.val (v' := (.ptr 1002 2 [2])) (by rfl) (OpJ.fieldP Try.underlying30 (by rfl) (o := 2) (by rfl) tyS22 (by decide) (obj := (.box 30 (.d (e_api_Series a0)))) (ltN hN rfl) (Opd.tmp 2 (.ptr 1002 0 [])))))
          (OpJs.cons (OpJ.guarded (by rfl) (OpJ.loadB (bt := 30) (c := (.d (e_api_Series a0))) (v := (.d (.list 1 (a0.fIn.map (eI .i64))))) tyS22 (At.dst1 (f := (.list 1 (a0.fIn.map (eI .i64)))) (by rfl) (by rfl) (At.here _) (by first | rfl | omega)) (by rfl) (by rfl) rfl (ltN hN rfl) (Opd.tmp 18 (.ptr 1002 2 [2]))))
          (OpJs.cons (OpJ.guarded (by rfl) (OpJ.val (v' := (.ptr 1003 2 [2])) (by rfl) (OpJ.fieldP Try.underlying30 (by rfl) (o := 2) (by rfl) tyS22 (by decide) (obj := (.box 30 (.d (e_api_Series a1)))) (ltN hN rfl) (Opd.tmp 3 (.ptr 1003 0 [])))))
          (OpJs.cons (OpJ.guarded (by rfl) (OpJ.loadB (bt := 30) (c := (.d (e_api_Series a1))) (v := (.d (.list 1 (a1.fIn.map (eI .i64))))) tyS22 (At.dst1 (f := (.list 1 (a1.fIn.map (eI .i64)))) (by rfl) (by rfl) (At.here _) (by first | rfl | omega)) (by rfl) (by rfl) rfl (ltN hN rfl) (Opd.tmp 20 (.ptr 1003 2 [2]))))
          (OpJs.cons (OpJ.guarded (by rfl) (OpJ.callFn hB fnOk34 (slices_Equal_ac a0.fIn a1.fIn r8 hr8) [] (by kernel_rfl) (ltN hN rfl) (by kernel_rfl) (OpdL.cons (Opd.tmp 19 (.d (.list 1 (a0.fIn.map (eI .i64))))) (OpdL.cons (Opd.tmp 21 (.d (.list 1 (a1.fIn.map (eI .i64))))) OpdL.nil))))
          (OpJs.cons (OpJ.pickT (ltN hN rfl) (Opd.tmp 17 (.d (.bool true))) (Opd.tmp 22 (.d (.bool r8))))
          (OpJs.cons (OpJ.val (v' := .d (.bool true)) (by rw [hg9]) (OpJ.move (ltN hN rfl) (Opd.tmp 23 (.d (.bool r8)))))
          (OpJs.cons (OpJ.guarded (by rfl) (OpJ.val (v' := (.ptr 1002 3 [3])) (by rfl) (OpJ.fieldP Try.underlying30 (by rfl) (o := 3) (by rfl) tyS22 (by decide) (obj := (.box 30 (.d (e_api_Series a0)))) (ltN hN rfl) (Opd.tmp 2 (.ptr 1002 0 [])))))
          (OpJs.cons (OpJ.guarded (by rfl) (OpJ.loadB (bt := 30) (c := (.d (e_api_Series a0))) (v := (.d (.list 1 (a0.fOut.map (eI .i64))))) tyS22 (At.dst1 (f := (.list 1 (a0.fOut.map (eI .i64)))) (by rfl) (by rfl) (At.here _) (by first | rfl | omega)) (by rfl) (by rfl) rfl (ltN hN rfl) (Opd.tmp 25 (.ptr 1002 3 [3]))))
          (OpJs.cons (OpJ.guarded (by rfl) (OpJ.val (v' := (.ptr 1003 3 [3])) (by rfl) (OpJ.fieldP Try.underlying30 (by rfl) (o := 3) (by rfl) tyS22 (by decide) (obj := (.box 30 (.d (e_api_Series a1)))) (ltN hN rfl) (Opd.tmp 3 (.ptr 1003 0 [])))))
          (OpJs.cons (OpJ.guarded (by rfl) (OpJ.loadB (bt := 30) (c := (.d (e_api_Series a1))) (v := (.d (.list 1 (a1.fOut.map (eI .i64))))) tyS22 (At.dst1 (f := (.list 1 (a1.fOut.map (eI .i64)))) (by rfl) (by rfl) (At.here _) (by first | rfl | omega)) (by rfl) (by rfl) rfl (ltN hN rfl) (Opd.tmp 27 (.ptr 1003 3 [3]))))
          (OpJs.cons (OpJ.guarded (by rfl) (OpJ.callFn hB fnOk34 (slices_Equal_ac a0.fOut a1.fOut r10 hr10) [] (by kernel_rfl) (ltN hN rfl) (by kernel_rfl) (OpdL.cons (Opd.tmp 26 (.d (.list 1 (a0.fOut.map (eI .i64))))) (OpdL.cons (Opd.tmp 28 (.d (.list 1 (a1.fOut.map (eI .i64))))) OpdL.nil))))
          (OpJs.cons (OpJ.pickT (ltN hN rfl) (Opd.tmp 24 (.d (.bool true))) (Opd.tmp 29 (.d (.bool r10))))
          (OpJs.cons (OpJ.assign (ltN hN rfl) (Opd.tmp 30 (.d (.bool r10))))
          (OpJs.nil)))))))))))))))))))))))))))) (by rfl) (by rfl) ?_
        exact hjj6 _ h _ _ (Mat.trans (Mat.pat [] [(4, (.d (.bool r10)))] [] hB (by rfl) (by rfl) (by rfl)) (Mat.pat [] ((fun m5 : Bool => ([(4, (.d (.bool m5)))] : EL)) r10) ((fun m5 : Bool => ([] : OL)) r10) hB (by rfl) (by rfl) (by rfl)))
      · replace h := ite_f hg9 h
        refine AWp.region (OpJs.cons (OpJ.val (v' := (.ptr 1002 0 [0])) (by rfl) (OpJ.fieldP Try.underlying30 (by rfl) (o := 0) (by rfl) tyS3 (by decide) (obj := (.box 30 (.d (e_api_Series a0)))) (ltN hN rfl) (Opd.tmp 2 (.ptr 1002 0 []))))
          (OpJs.cons (OpJ.loadB (bt := 30) (c := (.d (e_api_Series a0))) (v := (.d (.int .i64 a0.fPort))) tyS3 (At.dst1 (f := (.int .i64 a0.fPort)) (by rfl) (by rfl) (At.here _) (by first | rfl | omega)) (by rfl) (by rfl) rfl (ltN hN rfl) (Opd.tmp 5 (.ptr 1002 0 [0])))
          (OpJs.cons (OpJ.val (v' := (.ptr 1003 0 [0])) (by rfl) (OpJ.fieldP Try.underlying30 (by rfl) (o := 0) (by rfl) tyS3 (by decide) (obj := (.box 30 (.d (e_api_Series a1)))) (ltN hN rfl) (Opd.tmp 3 (.ptr 1003 0 []))))
          (OpJs.cons (OpJ.loadB (bt := 30) (c := (.d (e_api_Series a1))) (v := (.d (.int .i64 a1.fPort))) tyS3 (At.dst1 (f := (.int .i64 a1.fPort)) (by rfl) (by rfl) (At.here _) (by first | rfl | omega)) (by rfl) (by rfl) rfl (ltN hN rfl) (Opd.tmp 7 (.ptr 1003 0 [0])))
          (OpJs.cons (OpJ.eqlI (ltN hN rfl) (Opd.tmp 6 (.d (.int .i64 a0.fPort))) (Opd.tmp 8 (.d (.int .i64 a1.fPort))))
          (OpJs.cons (OpJ.move (ltN hN rfl) (Opd.tmp 9 (.d (.bool (a0.fPort == a1.fPort)))))
          (OpJs.cons (OpJ.opt' (v := (.ptr 1002 1 [1])) (OpJ.val (v' := (.ptr 1002 1 [1])) (by rfl) (OpJ.fieldP Try.underlying30 (by rfl) (o := 1) (by rfl) tyS3 (by decide) (obj := (.box 30 (.d (e_api_Series a0)))) (ltN hN rfl) (Opd.tmp 2 (.ptr 1002 0 [])))) (by rfl) (GuardV.plain _) (ltN hN rfl) (by rfl) (by rfl) (by rfl) (by rfl) (OptL.keep rfl OptL.nil))
          (OpJs.cons (OpJ.opt' (v := (.d (.int .i64 a0.fSeconds))) (OpJ.loadB (bt := 30) (c := (.d (e_api_Series a0))) (v := (.d (.int .i64 a0.fSeconds))) tyS3 (At.dst1 (f := (.int .i64 a0.fSeconds)) (by rfl) (by rfl) (At.here _) (by first | rfl | omega)) (by rfl) (by rfl) rfl (ltN hN rfl) (Opd.tmp 11 (.ptr 1002 1 [1]))) (by rfl) (GuardV.plain _) (ltN hN rfl) (by rfl) (by rfl) (by rfl) (by rfl) (OptL.opt OptL.nil))
          (OpJs.cons (OpJ.opt' (v := (.ptr 1003 1 [1])) (OpJ.val (v' := (.ptr 1003 1 [1])) (by rfl) (OpJ.fieldP Try.underlying30 (by rfl) (o := 1) (by rfl) tyS3 (by decide) (obj := (.box 30 (.d (e_api_Series a1)))) (ltN hN rfl) (Opd.tmp 3 (.ptr 1003 0 [])))) (by rfl) (GuardV.plain _) (ltN hN rfl) (by rfl) (by rfl) (by rfl) (by rfl) (OptL.keep rfl OptL.nil))
          (OpJs.cons (OpJ.opt' (v := (.d (.int .i64 a1.fSeconds))) (OpJ.loadB (bt := 30) (c := (.d (e_api_Series a1))) (v := (.d (.int .i64 a1.fSeconds))) tyS3 (At.dst1 (f := (.int .i64 a1.fSeconds)) (by rfl) (by rfl) (At.here _) (by first | rfl | omega)) (by rfl) (by rfl) rfl (ltN hN rfl) (Opd.tmp 13 (.ptr 1003 1 [1]))) (by rfl) (GuardV.plain _) (ltN hN rfl) (by rfl) (by rfl) (by rfl) (by rfl) (OptL.opt OptL.nil))
          (OpJs.cons (OpJ.opt' (v := (.d (.bool (a0.fSeconds == a1.fSeconds)))) (OpJ.eqlI (ltN hN rfl) (Opd.tmp 12 (.d (.int .i64 a0.fSeconds))) (Opd.tmp 14 (.d (.int .i64 a1.fSeconds)))) (by rfl) (GuardV.plain _) (ltN hN rfl) (by rfl) (by rfl) (by rfl) (by rfl) (OptL.opt (OptL.opt OptL.nil)))
          (OpJs.cons (OpJ.pickAnd rfl (ltN hN rfl) (Opd.tmp 10 (.d (.bool (a0.fPort == a1.fPort)))) (Opd.tmp 15 (.opt ((a0.fPort == a1.fPort) == true) (.d (.bool (a0.fSeconds == a1.fSeconds))))))
          (OpJs.cons (OpJ.val (v' := .d (.bool true)) (by rw [hg7]) (OpJ.move (ltN hN rfl) (Opd.tmp 16 (.d (.bool ((a0.fPort == a1.fPort) && (a0.fSeconds == a1.fSeconds)))))))
          (OpJs.cons (OpJ.guarded (by rfl) (OpJ.val (v' := (.ptr 1002 2 [2])) (by rfl) (OpJ.fieldP Try.underlying30 (by rfl) (o := 2) (by rfl) tyS22 (by decide) (obj := (.box 30 (.d (e_api_Series a0)))) (ltN hN rfl) (Opd.tmp 2 (.ptr 1002 0 [])))))
          (OpJs.cons (OpJ.guarded (by rfl) (OpJ.loadB (bt := 30) (c := (.d (e_api_Series a0))) (v := (.d (.list 1 (a0.fIn.map (eI .i64))))) tyS22 (At.dst1 (f := (.list 1 (a0.fIn.map (eI .i64)))) (by rfl) (by rfl) (At.here _) (by first | rfl | omega)) (by rfl) (by rfl) rfl (ltN hN rfl) (Opd.tmp 18 (.ptr 1002 2 [2]))))
          (OpJs.cons (OpJ.guarded (by rfl) (OpJ.val (v' := (.ptr 1003 2 [2])) (by rfl) (OpJ.fieldP Try.underlying30 (by rfl) (o := 2) (by rfl) tyS22 (by decide) (obj := (.box 30 (.d (e_api_Series a1)))) (ltN hN rfl) (Opd.tmp 3 (.ptr 1003 0 [])))))
          (OpJs.cons (OpJ.guarded (by rfl) (OpJ.loadB (bt := 30) (c := (.d (e_api_Series a1))) (v := (.d (.list 1 (a1.fIn.map (eI .i64))))) tyS22 (At.dst1 (f := (.list 1 (a1.fIn.map (eI .i64)))) (by rfl) (by rfl) (At.here _) (by first | rfl | omega)) (by rfl) (by rfl) rfl (ltN hN rfl) (Opd.tmp 20 (.ptr 1003 2 [2]))))
          (OpJs.cons (OpJ.guarded (by rfl) (OpJ.callFn hB fnOk34 (slices_Equal_ac a0.fIn a1.fIn r8 hr8) [] (by kernel_rfl) (ltN hN rfl) (by kernel_rfl) (OpdL.cons (Opd.tmp 19 (.d (.list 1 (a0.fIn.map (eI .i64))))) (OpdL.cons (Opd.tmp 21 (.d (.list 1 (a1.fIn.map (eI .i64))))) OpdL.nil))))
          (OpJs.cons (OpJ.pickT (ltN hN rfl) (Opd.tmp 17 (.d (.bool true))) (Opd.tmp 22 (.d (.bool r8))))
          (OpJs.cons (OpJ.val (v' := .d (.bool false)) (by rw [hg9]) (OpJ.move (ltN hN rfl) (Opd.tmp 23 (.d (.bool r8)))))
          (OpJs.cons (OpJ.skipU (ltN hN rfl) (by rfl))
          (OpJs.cons (OpJ.skipU (ltN hN rfl) (by rfl))
          (OpJs.cons (OpJ.skipU (ltN hN rfl) (by rfl))
          (OpJs.cons (OpJ.skipU (ltN hN rfl) (by rfl))
          (OpJs.cons (OpJ.skipU (ltN hN rfl) (by rfl))
          (OpJs.cons (OpJ.pickF (ltN hN rfl) (Opd.tmp 24 (.d (.bool false))) (Opd.bool false))
          (OpJs.cons (OpJ.assign (ltN hN rfl) (Opd.tmp 30 (.d (.bool false))))
          (OpJs.nil)))))))))))))))))))))))))))) (by rfl) (by rfl) ?_
        exact hjj6 _ h _ _ (Mat.trans (Mat.pat [] [(4, (.d (.bool false)))] [] hB (by rfl) (by rfl) (by rfl)) (Mat.pat [] ((fun m5 : Bool => ([(4, (.d (.bool m5)))] : EL)) false) ((fun m5 : Bool => ([] : OL)) false) hB (by rfl) (by rfl) (by rfl)))
    · replace h := ite_f hg7 h
      refine AWp.region (OpJs.cons (OpJ.val (v' := (.ptr 1002 0 [0])) (by rfl) (OpJ.fieldP Try.underlying30 (by rfl) (o := 0) (by rfl) tyS3 (by decide) (obj := (.box 30 (.d (e_api_Series a0)))) (ltN hN rfl) (Opd.tmp 2 (.ptr 1002 0 []))))
        (OpJs.cons (OpJ.loadB (bt := 30) (c := (.d (e_api_Series a0))) (v := (.d (.int .i64 a0.fPort))) tyS3 (At.dst1 (f := (.int .i64 a0.fPort)) (by rfl) (by rfl) (At.here _) (by first | rfl | omega)) (by rfl) (by rfl) rfl (ltN hN rfl) (Opd.tmp 5 (.ptr 1002 0 [0])))
        (OpJs.cons (OpJ.val (v' := (.ptr 1003 0 [0])) (by rfl) (OpJ.fieldP Try.underlying30 (by rfl) (o := 0) (by rfl) tyS3 (by decide) (obj := (.box 30 (.d (e_api_Series a1)))) (ltN hN rfl) (Opd.tmp 3 (.ptr 1003 0 []))))
        (OpJs.cons (OpJ.loadB (bt := 30) (c := (.d (e_api_Series a1))) (v := (.d (.int .i64 a1.fPort))) tyS3 (At.dst1 (f := (.int .i64 a1.fPort)) (by rfl) (by rfl) (At.here _) (by first | rfl | omega)) (by rfl) (by rfl) rfl (ltN hN rfl) (Opd.tmp 7 (.ptr 1003 0 [0])))
        (OpJs.cons (OpJ.eqlI (ltN hN rfl) (Opd.tmp 6 (.d (.int .i64 a0.fPort))) (Opd.tmp 8 (.d (.int .i64 a1.fPort))))
        (OpJs.cons (OpJ.move (ltN hN rfl) (Opd.tmp 9 (.d (.bool (a0.fPort == a1.fPort)))))
        (OpJs.cons (OpJ.opt' (v := (.ptr 1002 1 [1])) (OpJ.val (v' := (.ptr 1002 1 [1])) (by rfl) (OpJ.fieldP Try.underlying30 (by rfl) (o := 1) (by rfl) tyS3 (by decide) (obj := (.box 30 (.d (e_api_Series a0)))) (ltN hN rfl) (Opd.tmp 2 (.ptr 1002 0 [])))) (by rfl) (GuardV.plain _) (ltN hN rfl) (by rfl) (by rfl) (by rfl) (by rfl) (OptL.keep rfl OptL.nil))
        (OpJs.cons (OpJ.opt' (v := (.d (.int .i64 a0.fSeconds))) (OpJ.loadB (bt := 30) (c := (.d (e_api_Series a0))) (v := (.d (.int .i64 a0.fSeconds))) tyS3 (At.dst1 (f := (.int .i64 a0.fSeconds)) (by rfl) (by rfl) (At.here _) (by first | rfl | omega)) (by rfl) (by rfl) rfl (ltN hN rfl) (Opd.tmp 11 (.ptr 1002 1 [1]))) (by rfl) (GuardV.plain _) (ltN hN rfl) (by rfl) (by rfl) (by rfl) (by rfl) (OptL.opt OptL.nil))
        (OpJs.cons (OpJ.opt' (v := (.ptr 1003 1 [1])) (OpJ.val (v' := (.ptr 1003 1 [1])) (by rfl) (OpJ.fieldP Try.underlying30 (by rfl) (o := 1) (by rfl) tyS3 (by decide) (obj := (.box 30 (.d (e_api_Series a1)))) (ltN hN rfl) (Opd.tmp 3 (.ptr 1003 0 [])))) (by rfl) (GuardV.plain _) (ltN hN rfl) (by rfl) (by rfl) (by rfl) (by rfl) (OptL.keep rfl OptL.nil))
        (OpJs.cons (OpJ.opt' (v := (.d (.int .i64 a1.fSeconds))) (OpJ.loadB (bt := 30) (c := (.d (e_api_Series a1))) (v := (.d (.int .i64 a1.fSeconds))) tyS3 (At.dst1 (f := (.int .i64 a1.fSeconds)) (by rfl) (by rfl) (At.here _) (by first | rfl | omega)) (by rfl) (by rfl) rfl (ltN hN rfl) (Opd.tmp 13 (.ptr 1003 1 [1]))) (by rfl) (GuardV.plain _) (ltN hN rfl) (by rfl) (by rfl) (by rfl) (by rfl) (OptL.opt OptL.nil))
        (OpJs.cons (OpJ.opt' (v := (.d (.bool (a0.fSeconds == a1.fSeconds)))) (OpJ.eqlI (ltN hN rfl) (Opd.tmp 12 (.d (.int .i64 a0.fSeconds))) (Opd.tmp 14 (.d (.int .i64 a1.fSeconds)))) (by rfl) (GuardV.plain _) (ltN hN rfl) (by rfl) (by rfl) (by rfl) (by rfl) (OptL.opt (OptL.opt OptL.nil)))
        (OpJs.cons (OpJ.pickAnd rfl (ltN hN rfl) (Opd.tmp 10 (.d (.bool (a0.fPort == a1.fPort)))) (Opd.tmp 15 (.opt ((a0.fPort == a1.fPort) == true) (.d (.bool (a0.fSeconds == a1.fSeconds))))))
        (OpJs.cons (OpJ.val (v' := .d (.bool false)) (by rw [hg7]) (OpJ.move (ltN hN rfl) (Opd.tmp 16 (.d (.bool ((a0.fPort == a1.fPort) && (a0.fSeconds == a1.fSeconds)))))))
        (OpJs.cons (OpJ.skipU (ltN hN rfl) (by rfl))
        (OpJs.cons (OpJ.skipU (ltN hN rfl) (by rfl))
        (OpJs.cons (OpJ.skipU (ltN hN rfl) (by rfl))
        (OpJs.cons (OpJ.skipU (ltN hN rfl) (by rfl))
        (OpJs.cons (OpJ.skipU (ltN hN rfl) (by rfl))
        (OpJs.cons (OpJ.pickF (ltN hN rfl) (Opd.tmp 17 (.d (.bool false))) (Opd.bool false))
        (OpJs.cons (OpJ.move (ltN hN rfl) (Opd.tmp 23 (.d (.bool false))))
        (OpJs.cons (OpJ.skipU (ltN hN rfl) (by rfl))
        (OpJs.cons (OpJ.skipU (ltN hN rfl) (by rfl))
        (OpJs.cons (OpJ.skipU (ltN hN rfl) (by rfl))
        (OpJs.cons (OpJ.skipU (ltN hN rfl) (by rfl))
        (OpJs.cons (OpJ.skipU (ltN hN rfl) (by rfl))
        (OpJs.cons (OpJ.pickF (ltN hN rfl) (Opd.tmp 24 (.d (.bool false))) (Opd.bool false))
        (OpJs.cons (OpJ.assign (ltN hN rfl) (Opd.tmp 30 (.d (.bool false))))
        (OpJs.nil)))))))))))))))))))))))))))) (by rfl) (by rfl) ?_
      exact hjj6 _ h _ _ (Mat.trans (Mat.pat [] [(4, (.d (.bool false)))] [] hB (by rfl) (by rfl) (by rfl)) (Mat.pat [] ((fun m5 : Bool => ([(4, (.d (.bool m5)))] : EL)) false) ((fun m5 : Bool => ([] : OL)) false) hB (by rfl) (by rfl) (by rfl)))

noncomputable def percentile_Rates_L0 (a0 : (List Int)) (a1 : Int) (s3 : Int × (List Int)) : Option (((Int) ⊕ ((List Int))) ⊕ (Int × (List Int))) :=
  (if (decide (s3.1 < (a0.length : Int))) = true then
  jn (fun m38 : (List Int) =>
  some (.inr ((w64 (s3.1 + (1 : Int))), m38))) (fun j39 =>
  (idx a0 s3.1).bind fun x40 =>
  (if (x40 == (-1 : Int)) = true then
  j39 s3.2
  else
  (percentile_Rate x40 a1).bind fun r42 =>
  (if (r42.2 != (0 : Int)) = true then
  some (.inl (.inl r42.2))
  else
  chk (decide ((s3.2 ++ ([r42.1] : List Int)).length ≤ LIM)) <|
  j39 (s3.2 ++ ([r42.1] : List Int)))))
  else
  some (.inl (.inr s3.2)))
noncomputable def percentile_Rates (a0 : (List Int)) (a1 : Int) : Option ((List Int) × Int) :=
  (percentile_length a1).bind fun r1 =>
  (if (!r1) = true then
  some (([] : List Int), (1 : Int))
  else
  (loop (percentile_Rates_L0 a0 a1) ((0 : Int), ([] : List Int))).bind fun x45 => match x45 with
  | (.inl p30) =>
    some (([] : List Int), p30)
  | (.inr p31) =>
    some (p31, (0 : Int)))
set_option maxHeartbeats 4000000 in
set_option maxRecDepth 100000 in
theorem percentile_Rates_ac (a0 : (List Int)) (a1 : Int) (r : (List Int) × Int) (h : percentile_Rates a0 a1 = some r) : AC Try.prog 22 [(.d (.list 1 (a0.map (eI .i64)))), (.d (.int .i64 a1))] [] (.tup [(.d (.list 1 (r.1.map (eI .i64)))), (.d (.int .i64 r.2))]) [] := by
  refine AC.of_code2 Try.func22 rfl rfl (Nat.le_of_ble_eq_true (by rfl)) fun B hB hN => ?_
  delta percentile_Rates at h
  refine AWp.seq ?_
  refine AWp.region (OpJs.cons (OpJ.assign (ltN hN rfl) Opd.nils)
  (OpJs.cons (OpJ.assign (ltN hN rfl) (Opd.int .i64 (0)))
  (OpJs.nil))) (by rfl) (by rfl) ?_
  refine seqQ_n ?_
  refine AWp.ghost (Mat.pat [] [(0, (.d (.list 1 (a0.map (eI .i64))))), (1, (.d (.int .i64 a1)))] [] hB (by rfl) (by rfl) (by rfl)) ?_
  refine AWp.seq ?_
  refine AWp.seq ?_
  obtain ⟨r1, hr1, h⟩ := bindS h
  refine AWp.region (OpJs.cons (OpJ.move (ltN hN rfl) (Opd.tmp 1 (.d (.int .i64 a1))))
  (OpJs.cons (OpJ.callFn hB fnOk35 (percentile_length_ac a1 r1 hr1) [] (by kernel_rfl) (ltN hN rfl) (by kernel_rfl) (OpdL.cons (Opd.tmp 11 (.d (.int .i64 a1))) OpdL.nil))
  (OpJs.cons (OpJ.not (ltN hN rfl) (Opd.tmp 12 (.d (.bool r1))))
  (OpJs.nil)))) (by rfl) (by rfl) ?_
  refine seqQ_n ?_
  refine AWp.ghost (Mat.pat [] [(0, (.d (.list 1 (a0.map (eI .i64))))), (1, (.d (.int .i64 a1))), (13, (.d (.bool (!r1))))] [] hB (by rfl) (by rfl) (by rfl)) ?_
  refine AWp.cond (b := (!r1)) (by rfl) (fun hg2 => ?_) (fun hg2 => ?_)
  · replace h := ite_t hg2 h
    refine AWp.seq ?_
    refine AWp.region (OpJs.cons (OpJ.assign (ltN hN rfl) Opd.nils)
      (OpJs.cons (OpJ.assign (ltN hN rfl) (Opd.int .i64 (1)))
      (OpJs.nil))) (by rfl) (by rfl) ?_
    refine seqQ_n ?_
    refine AWp.ghost (Mat.pat [] [(4, .nils), (5, (.d (.int .i64 (1 : Int))))] [] hB (by rfl) (by rfl) (by rfl)) ?_
    refine AWp.ret ?_
    refine seqQ_r ?_
    obtain rfl := Option.some.inj h
    exact ⟨.inl rfl, _, _, (Mat.trans (Mat.coeP (Ts := [(4, (.d (.list 1 (([] : List Int).map (eI .i64)))))]) (Bs := []) (TwT.cons (x := .nils) (by rfl) (Tw.leaf ⟨_, (Co.nils 1), rfl⟩) TwT.nil) TwB.nil) (Mat.pat [] [(4, (.d (.list 1 (([] : List Int).map (eI .i64))))), (5, (.d (.int .i64 (1 : Int))))] [] hB (by rfl) (by rfl) (by rfl))), [(.d (.list 1 (([] : List Int).map (eI .i64)))), (.d (.int .i64 (1 : Int)))], (Res.tmp (by rfl) (by rfl) (Res.tmp (by rfl) (by rfl) Res.nil)), rfl, by rfl, by rfl, by rfl⟩
  · replace h := ite_f hg2 h
    refine AWp.skip ?_
    refine seqQ_n ?_
    refine AWp.seq ?_
    refine AWp.region (OpJs.cons (OpJ.assign (ltN hN rfl) Opd.nils)
      (OpJs.nil)) (by rfl) (by rfl) ?_
    refine seqQ_n ?_
    refine AWp.ghost (Mat.pat [] [(0, (.d (.list 1 (a0.map (eI .i64))))), (1, (.d (.int .i64 a1))), (6, .nils)] [] hB (by rfl) (by rfl) (by rfl)) ?_
    refine AWp.seq ?_
    refine AWp.seq ?_
    refine AWp.region (OpJs.cons (OpJ.move (ltN hN rfl) (Opd.tmp 0 (.d (.list 1 (a0.map (eI .i64))))))
      (OpJs.cons (OpJ.val (v' := (.d (.int .i64 (a0.length : Int)))) (by simp) (OpJ.lenD Try.underlying22 (ltN hN rfl) (Opd.tmp 14 (.d (.list 1 (a0.map (eI .i64)))))))
      (OpJs.cons (OpJ.move (ltN hN rfl) (Opd.int .i64 (0)))
      (OpJs.nil)))) (by rfl) (by rfl) ?_
    refine seqQ_n ?_
    refine AWp.ghost (Mat.pat [] [(1, (.d (.int .i64 a1))), (6, .nils), (14, (.d (.list 1 (a0.map (eI .i64))))), (15, (.d (.int .i64 (a0.length : Int)))), (16, (.d (.int .i64 (0 : Int))))] [] hB (by rfl) (by rfl) (by rfl)) ?_
    refine AWp.block ?_
    obtain ⟨x45, hx46, h⟩ := bindS h
    refine AWp.ghost (Mat.trans (Mat.beginP (n := 3006) (e := 3) (sz := 1) (Ts := [(6, (.sref 3006 1 0 0))]) (Bs := []) hB (by decide) (by rfl) (by decide) (TwT.cons (x := .nils) (by rfl) (Tw.leaf ⟨rfl, rfl⟩) TwT.nil) TwB.nil) (Mat.pat [] ((fun s3 : Int × (List Int) => ([(1, (.d (.int .i64 a1))), (6, (.sref 3006 1 0 s3.2.length)), (14, (.d (.list 1 (a0.map (eI .i64))))), (15, (.d (.int .i64 (a0.length : Int)))), (16, (.d (.int .i64 s3.1)))] : EL)) ((0 : Int), ([] : List Int))) ((fun s3 : Int × (List Int) => ([(3006, some (.row 3 1 (s3.2.map (eI .i64))))] : OL)) ((0 : Int), ([] : List Int))) hB (by rfl) (by rfl) (by rfl))) ?_
    refine AWp.loopS (percentile_Rates_L0 a0 a1) (fun s3 : Int × (List Int) => ([(1, (.d (.int .i64 a1))), (6, (.sref 3006 1 0 s3.2.length)), (14, (.d (.list 1 (a0.map (eI .i64))))), (15, (.d (.int .i64 (a0.length : Int)))), (16, (.d (.int .i64 s3.1)))] : EL)) (fun s3 : Int × (List Int) => ([(3006, some (.row 3 1 (s3.2.map (eI .i64))))] : OL)) (fun (x : (Int) ⊕ ((List Int))) e E' O' => match x with | (.inl p30) => e = .ret ∧ Mat B E' O' ([(4, .nils), (5, (.d (.int .i64 p30)))] : EL) ([] : OL) | (.inr p31) => e = .exit 0 ∧ Mat B E' O' ([(6, (.sref 3006 1 0 p31.length))] : EL) ([(3006, some (.row 3 1 (p31.map (eI .i64))))] : OL)) hx46 (fun s3 y h => ?_) (fun e E' O' hR => ?_)
    · unfold percentile_Rates_L0 at h
      show AWp _ _ _ _ ([(1, (.d (.int .i64 a1))), (6, (.sref 3006 1 0 s3.2.length)), (14, (.d (.list 1 (a0.map (eI .i64))))), (15, (.d (.int .i64 (a0.length : Int)))), (16, (.d (.int .i64 s3.1)))] : EL) ([(3006, some (.row 3 1 (s3.2.map (eI .i64))))] : OL)
      refine AWp.seq ?_
      refine AWp.region (OpJs.cons (OpJ.lss (ltN hN rfl) (Opd.tmp 16 (.d (.int .i64 s3.1))) (Opd.tmp 15 (.d (.int .i64 (a0.length : Int)))))
        (OpJs.nil)) (by rfl) (by rfl) ?_
      refine seqQ_n ?_
      refine AWp.ghost (Mat.pat [] [(1, (.d (.int .i64 a1))), (6, (.sref 3006 1 0 s3.2.length)), (14, (.d (.list 1 (a0.map (eI .i64))))), (15, (.d (.int .i64 (a0.length : Int)))), (16, (.d (.int .i64 s3.1))), (17, (.d (.bool (decide (s3.1 < (a0.length : Int))))))] [(3006, some (.row 3 1 (s3.2.map (eI .i64))))] hB (by rfl) (by rfl) (by rfl)) ?_
      refine AWp.seq ?_
      refine AWp.cond (b := (decide (s3.1 < (a0.length : Int)))) (by rfl) (fun hg32 => ?_) (fun hg32 => ?_)
      · replace h := ite_t hg32 h
        refine AWp.skip ?_
        refine seqQ_n ?_
        refine AWp.seq ?_
        refine AWp.cut h (fun m38 : (List Int) => ([(1, (.d (.int .i64 a1))), (6, (.sref 3006 1 0 m38.length)), (14, (.d (.list 1 (a0.map (eI .i64))))), (15, (.d (.int .i64 (a0.length : Int)))), (16, (.d (.int .i64 s3.1)))] : EL)) (fun m38 : (List Int) => ([(3006, some (.row 3 1 (m38.map (eI .i64))))] : OL)) (fun m38 h E' O' hmat => ?_) (fun j39 hjj39 h => ?_)
        · refine seqQ_n ?_
          refine AWp.ghost hmat ?_
          refine AWp.region (OpJs.cons (OpJ.add (ltN hN rfl) (Opd.tmp 16 (.d (.int .i64 s3.1))) (Opd.int .i64 (1)))
            (OpJs.cons (OpJ.move (ltN hN rfl) (Opd.tmp 35 (.d (.int .i64 (w64 (s3.1 + (1 : Int)))))))
            (OpJs.nil))) (by rfl) (by rfl) ?_
          obtain rfl := Option.some.inj h
          exact ⟨rfl, (Mat.trans (Mat.pat [] [(1, (.d (.int .i64 a1))), (6, (.sref 3006 1 0 m38.length)), (14, (.d (.list 1 (a0.map (eI .i64))))), (15, (.d (.int .i64 (a0.length : Int)))), (16, (.d (.int .i64 (w64 (s3.1 + (1 : Int))))))] [(3006, some (.row 3 1 (m38.map (eI .i64))))] hB (by rfl) (by rfl) (by rfl)) (Mat.pat [] ((fun s3 : Int × (List Int) => ([(1, (.d (.int .i64 a1))), (6, (.sref 3006 1 0 s3.2.length)), (14, (.d (.list 1 (a0.map (eI .i64))))), (15, (.d (.int .i64 (a0.length : Int)))), (16, (.d (.int .i64 s3.1)))] : EL)) ((w64 (s3.1 + (1 : Int))), m38)) ((fun s3 : Int × (List Int) => ([(3006, some (.row 3 1 (s3.2.map (eI .i64))))] : OL)) ((w64 (s3.1 + (1 : Int))), m38)) hB (by rfl) (by rfl) (by rfl)))⟩
        · refine AWp.block ?_
          refine AWp.seq ?_
          obtain ⟨x40, hx40, h⟩ := bindS h
          refine AWp.region (OpJs.cons (OpJ.indexD (el := (.int .i64 x40)) Try.underlying22 tyS3 (idx_some hx40).1 (get_map (eI .i64) (idx_some hx40).2) (ltN hN rfl) (Opd.tmp 14 (.d (.list 1 (a0.map (eI .i64))))) (Opd.tmp 16 (.d (.int .i64 s3.1))))
            (OpJs.cons (OpJ.loadD tyS3 (by rfl) (by rfl) (ltN hN rfl) (Opd.tmp 18 (.dptr (.int .i64 x40))))
            (OpJs.cons (OpJ.assign (ltN hN rfl) (Opd.tmp 19 (.d (.int .i64 x40))))
            (OpJs.nil)))) (by rfl) (by rfl) ?_
          refine seqQ_n ?_
          refine AWp.ghost (Mat.pat [] [(1, (.d (.int .i64 a1))), (6, (.sref 3006 1 0 s3.2.length)), (8, (.d (.int .i64 x40))), (14, (.d (.list 1 (a0.map (eI .i64))))), (15, (.d (.int .i64 (a0.length : Int)))), (16, (.d (.int .i64 s3.1)))] [(3006, some (.row 3 1 (s3.2.map (eI .i64))))] hB (by rfl) (by rfl) (by rfl)) ?_
          refine AWp.seq ?_
          refine AWp.seq ?_
          refine AWp.region (OpJs.cons (OpJ.move (ltN hN rfl) (Opd.tmp 8 (.d (.int .i64 x40))))
            (OpJs.cons (OpJ.eqlI (ltN hN rfl) (Opd.tmp 20 (.d (.int .i64 x40))) (Opd.int .i64 (-1)))
            (OpJs.nil))) (by rfl) (by rfl) ?_
          refine seqQ_n ?_
          refine AWp.ghost (Mat.pat [] [(1, (.d (.int .i64 a1))), (6, (.sref 3006 1 0 s3.2.length)), (8, (.d (.int .i64 x40))), (14, (.d (.list 1 (a0.map (eI .i64))))), (15, (.d (.int .i64 (a0.length : Int)))), (16, (.d (.int .i64 s3.1))), (21, (.d (.bool (x40 == (-1 : Int)))))] [(3006, some (.row 3 1 (s3.2.map (eI .i64))))] hB (by rfl) (by rfl) (by rfl)) ?_
          refine AWp.cond (b := (x40 == (-1 : Int))) (by rfl) (fun hg41 => ?_) (fun hg41 => ?_)
          · replace h := ite_t hg41 h
            refine AWp.exit ?_
            refine seqQ_e ?_
            refine blkQ_hit ?_
            exact hjj39 _ h _ _ (Mat.pat [] ((fun m38 : (List Int) => ([(1, (.d (.int .i64 a1))), (6, (.sref 3006 1 0 m38.length)), (14, (.d (.list 1 (a0.map (eI .i64))))), (15, (.d (.int .i64 (a0.length : Int)))), (16, (.d (.int .i64 s3.1)))] : EL)) s3.2) ((fun m38 : (List Int) => ([(3006, some (.row 3 1 (m38.map (eI .i64))))] : OL)) s3.2) hB (by rfl) (by rfl) (by rfl))
          · replace h := ite_f hg41 h
            refine AWp.skip ?_
            refine seqQ_n ?_
            refine AWp.seq ?_
            obtain ⟨r42, hr42, h⟩ := bindS h
            refine AWp.region (OpJs.cons (OpJ.move (ltN hN rfl) (Opd.tmp 8 (.d (.int .i64 x40))))
              (OpJs.cons (OpJ.move (ltN hN rfl) (Opd.tmp 1 (.d (.int .i64 a1))))
              (OpJs.cons (OpJ.callFn hB fnOk20 (percentile_Rate_ac x40 a1 r42 hr42) [] (by kernel_rfl) (ltN hN rfl) (by kernel_rfl) (OpdL.cons (Opd.tmp 23 (.d (.int .i64 x40))) (OpdL.cons (Opd.tmp 24 (.d (.int .i64 a1))) OpdL.nil)))
              (OpJs.cons (OpJ.move (ltN hN rfl) (Opd.tmp 25 (.tup [(.d (.int .i64 r42.1)), (.d (.int .i64 r42.2))])))
              (OpJs.cons (OpJ.extract (v := (.d (.int .i64 r42.1))) (by rfl) rfl (ltN hN rfl) (Opd.tmp 22 (.tup [(.d (.int .i64 r42.1)), (.d (.int .i64 r42.2))])))
              (OpJs.cons (OpJ.extract (v := (.d (.int .i64 r42.2))) (by rfl) rfl (ltN hN rfl) (Opd.tmp 22 (.tup [(.d (.int .i64 r42.1)), (.d (.int .i64 r42.2))])))
              (OpJs.cons (OpJ.assign (ltN hN rfl) (Opd.tmp 26 (.d (.int .i64 r42.1))))
              (OpJs.cons (OpJ.assign (ltN hN rfl) (Opd.tmp 27 (.d (.int .i64 r42.2))))
              (OpJs.nil))))))))) (by rfl) (by rfl) ?_
            refine seqQ_n ?_
            refine AWp.ghost (Mat.pat [] [(1, (.d (.int .i64 a1))), (6, (.sref 3006 1 0 s3.2.length)), (9, (.d (.int .i64 r42.1))), (10, (.d (.int .i64 r42.2))), (14, (.d (.list 1 (a0.map (eI .i64))))), (15, (.d (.int .i64 (a0.length : Int)))), (16, (.d (.int .i64 s3.1)))] [(3006, some (.row 3 1 (s3.2.map (eI .i64))))] hB (by rfl) (by rfl) (by rfl)) ?_
            refine AWp.seq ?_
            refine AWp.seq ?_
            refine AWp.region (OpJs.cons (OpJ.move (ltN hN rfl) (Opd.tmp 10 (.d (.int .i64 r42.2))))
              (OpJs.cons (OpJ.neqI (ltN hN rfl) (Opd.tmp 28 (.d (.int .i64 r42.2))) (Opd.int .i64 (0)))
              (OpJs.nil))) (by rfl) (by rfl) ?_
            refine seqQ_n ?_
            refine AWp.ghost (Mat.pat [] [(1, (.d (.int .i64 a1))), (6, (.sref 3006 1 0 s3.2.length)), (9, (.d (.int .i64 r42.1))), (10, (.d (.int .i64 r42.2))), (14, (.d (.list 1 (a0.map (eI .i64))))), (15, (.d (.int .i64 (a0.length : Int)))), (16, (.d (.int .i64 s3.1))), (29, (.d (.bool (r42.2 != (0 : Int)))))] [(3006, some (.row 3 1 (s3.2.map (eI .i64))))] hB (by rfl) (by rfl) (by rfl)) ?_
            refine AWp.cond (b := (r42.2 != (0 : Int))) (by rfl) (fun hg43 => ?_) (fun hg43 => ?_)
            · replace h := ite_t hg43 h
              refine AWp.seq ?_
              refine AWp.region (OpJs.cons (OpJ.move (ltN hN rfl) (Opd.tmp 10 (.d (.int .i64 r42.2))))
                (OpJs.cons (OpJ.assign (ltN hN rfl) Opd.nils)
                (OpJs.cons (OpJ.assign (ltN hN rfl) (Opd.tmp 30 (.d (.int .i64 r42.2))))
                (OpJs.nil)))) (by rfl) (by rfl) ?_
              refine seqQ_n ?_
              refine AWp.ghost (Mat.pat [] [(4, .nils), (5, (.d (.int .i64 r42.2)))] [] hB (by rfl) (by rfl) (by rfl)) ?_
              refine AWp.ret ?_
              refine seqQ_r ?_
              refine blkQ_r ?_
              refine seqQ_r ?_
              obtain rfl := Option.some.inj h
              exact ⟨(fun hc => by cases hc), rfl, (Mat.pat [] ((fun p30 : Int => ([(4, .nils), (5, (.d (.int .i64 p30)))] : EL)) r42.2) ((fun p30 : Int => ([] : OL)) r42.2) hB (by rfl) (by rfl) (by rfl))⟩
            · replace h := ite_f hg43 h
              refine AWp.skip ?_
              refine seqQ_n ?_
              obtain ⟨hc44, h⟩ := chk_some h
              refine AWp.region (OpJs.cons (OpJ.move (ltN hN rfl) (Opd.tmp 6 (.sref 3006 1 0 s3.2.length)))
                (OpJs.cons (OpJ.move (ltN hN rfl) (Opd.tmp 9 (.d (.int .i64 r42.1))))
                (OpJs.cons (OpJ.buildSlice Try.underlying22 tyS3 tyZD3 (by rfl) (by decide) (by decide) (Opds.cons (Opd.tmp 32 (.d (.int .i64 r42.1))) Opds.nil) (by kernel_rfl) (es := ([(.int .i64 r42.1)] : List D)) (by rfl) (by rfl) (by kernel_rfl) (by simp) (ltN hN rfl))
                (OpJs.cons (OpJ.append hB Try.underlying22 tyE3 (nm := 1034) (by decide) (es := s3.2.map (eI .i64)) (ys := ([r42.1] : List Int).map (eI .i64)) (es' := (s3.2 ++ ([r42.1] : List Int)).map (eI .i64)) (len := (s3.2 ++ ([r42.1] : List Int)).length) (by simp) (by simp) (map_sz (f := (eI .i64)) (fun _ => rfl)) (by rw [List.length_map]; exact lim_mulN hc44 (by decide)) (by rw [List.length_map]; exact lim_leN hc44) (ltN hN rfl) (by simp) (Opd.tmp 31 (.sref 3006 1 0 s3.2.length)) (Opd.tmp 33 (.d (.list 1 (([r42.1] : List Int).map (eI .i64))))))
                (OpJs.cons (OpJ.assign (ltN hN rfl) (Opd.tmp 34 (.sref 1034 1 0 ((s3.2 ++ ([r42.1] : List Int)).length))))
                (OpJs.nil)))))) (by rfl) (by rfl) ?_
              refine blkQ_n ?_
              exact hjj39 _ h _ _ (Mat.trans (Mat.pat [] [(1, (.d (.int .i64 a1))), (6, (.sref 1034 1 0 ((s3.2 ++ ([r42.1] : List Int)).length))), (14, (.d (.list 1 (a0.map (eI .i64))))), (15, (.d (.int .i64 (a0.length : Int)))), (16, (.d (.int .i64 s3.1)))] [(1034, some (.row 3 1 ((s3.2 ++ ([r42.1] : List Int)).map (eI .i64))))] hB (by rfl) (by rfl) (by rfl)) (Mat.pat [(3006, 1034)] ((fun m38 : (List Int) => ([(1, (.d (.int .i64 a1))), (6, (.sref 3006 1 0 m38.length)), (14, (.d (.list 1 (a0.map (eI .i64))))), (15, (.d (.int .i64 (a0.length : Int)))), (16, (.d (.int .i64 s3.1)))] : EL)) (s3.2 ++ ([r42.1] : List Int))) ((fun m38 : (List Int) => ([(3006, some (.row 3 1 (m38.map (eI .i64))))] : OL)) (s3.2 ++ ([r42.1] : List Int))) hB (by rfl) (by rfl) (by rfl)))
      · replace h := ite_f hg32 h
        refine AWp.exit ?_
        refine seqQ_e ?_
        obtain rfl := Option.some.inj h
        exact ⟨(fun hc => by cases hc), rfl, (Mat.pat [] ((fun p31 : (List Int) => ([(6, (.sref 3006 1 0 p31.length))] : EL)) s3.2) ((fun p31 : (List Int) => ([(3006, some (.row 3 1 (p31.map (eI .i64))))] : OL)) s3.2) hB (by rfl) (by rfl) (by rfl))⟩
    · rcases x45 with p30 | p31
      · obtain ⟨rfl, hmat⟩ := hR
        refine blkQ_r ?_
        refine seqQ_r ?_
        obtain rfl := Option.some.inj h
        exact ⟨.inl rfl, _, _, (Mat.trans hmat (Mat.trans (Mat.coeP (Ts := [(4, (.d (.list 1 (([] : List Int).map (eI .i64)))))]) (Bs := []) (TwT.cons (x := .nils) (by rfl) (Tw.leaf ⟨_, (Co.nils 1), rfl⟩) TwT.nil) TwB.nil) (Mat.pat [] [(4, (.d (.list 1 (([] : List Int).map (eI .i64))))), (5, (.d (.int .i64 p30)))] [] hB (by rfl) (by rfl) (by rfl)))), [(.d (.list 1 (([] : List Int).map (eI .i64)))), (.d (.int .i64 p30))], (Res.tmp (by rfl) (by rfl) (Res.tmp (by rfl) (by rfl) Res.nil)), rfl, by rfl, by rfl, by rfl⟩
      · obtain ⟨rfl, hmat⟩ := hR
        refine blkQ_hit ?_
        refine seqQ_n ?_
        refine AWp.ghost hmat ?_
        refine AWp.seq ?_
        refine AWp.region (OpJs.cons (OpJ.move (ltN hN rfl) (Opd.tmp 6 (.sref 3006 1 0 p31.length)))
          (OpJs.cons (OpJ.assign (ltN hN rfl) (Opd.tmp 36 (.sref 3006 1 0 p31.length)))
          (OpJs.cons (OpJ.assign (ltN hN rfl) (Opd.int .i64 (0)))
          (OpJs.nil)))) (by rfl) (by rfl) ?_
        refine seqQ_n ?_
        refine AWp.ghost (Mat.pat [] [(4, (.sref 3006 1 0 p31.length)), (5, (.d (.int .i64 (0 : Int))))] [(3006, some (.row 3 1 (p31.map (eI .i64))))] hB (by rfl) (by rfl) (by rfl)) ?_
        refine AWp.ret ?_
        obtain rfl := Option.some.inj h
        exact ⟨.inl rfl, _, _, (Mat.trans (Mat.freezeP (n := 3006) (e := 3) (sz := 1) (es := p31.map (eI .i64)) (Ts := [(4, (.d (.list 1 (p31.map (eI .i64)))))]) (Bs := []) (by rfl) (TwT.cons (x := (.sref 3006 1 0 p31.length)) (by rfl) (FrzL.all (by first | rfl | (simp; done) | (simp; omega))) TwT.nil) TwB.nil) (Mat.pat [] [(4, (.d (.list 1 (p31.map (eI .i64))))), (5, (.d (.int .i64 (0 : Int))))] [] hB (by rfl) (by rfl) (by rfl))), [(.d (.list 1 (p31.map (eI .i64)))), (.d (.int .i64 (0 : Int)))], (Res.tmp (by rfl) (by rfl) (Res.tmp (by rfl) (by rfl) Res.nil)), rfl, by rfl, by rfl, by rfl⟩

noncomputable def exchangepointref40_Rate (a0 : Int) (a1 : Int) : Option (Int × Int) :=
  (if ((((decide (a0 < (0 : Int))) || (decide ((1125899906842624 : Int) < a0))) || (decide (a1 < (1 : Int)))) || (decide ((86400 : Int) < a1))) = true then
  some ((0 : Int), (1 : Int))
  else
  chk (decide ((w64 (a1 * (1000000 : Int))) ≠ 0)) <|
  some ((w64 (Int.tdiv (w64 ((w64 ((w64 ((8 : Int) * a0)) + (w64 (a1 * (1000000 : Int))))) - (1 : Int))) (w64 (a1 * (1000000 : Int))))), (0 : Int)))
set_option maxHeartbeats 4000000 in
set_option maxRecDepth 100000 in
theorem exchangepointref40_Rate_ac (a0 : Int) (a1 : Int) (r : Int × Int) (h : exchangepointref40_Rate a0 a1 = some r) : AC Try.prog 21 [(.d (.int .i64 a0)), (.d (.int .i64 a1))] [] (.tup [(.d (.int .i64 r.1)), (.d (.int .i64 r.2))]) [] := by
  refine AC.of_code2 Try.func21 rfl rfl (Nat.le_of_ble_eq_true (by rfl)) fun B hB hN => ?_
  delta exchangepointref40_Rate at h
  refine AWp.seq ?_
  refine AWp.region (OpJs.cons (OpJ.assign (ltN hN rfl) (Opd.int .i64 (0)))
  (OpJs.cons (OpJ.assign (ltN hN rfl) (Opd.int .i64 (0)))
  (OpJs.nil))) (by rfl) (by rfl) ?_
  refine seqQ_n ?_
  refine AWp.ghost (Mat.pat [] [(0, (.d (.int .i64 a0))), (1, (.d (.int .i64 a1)))] [] hB (by rfl) (by rfl) (by rfl)) ?_
  refine AWp.seq ?_
  refine AWp.seq ?_
  refine AWp.region (OpJs.cons (OpJ.move (ltN hN rfl) (Opd.tmp 0 (.d (.int .i64 a0))))
  (OpJs.cons (OpJ.lss (ltN hN rfl) (Opd.tmp 7 (.d (.int .i64 a0))) (Opd.int .i64 (0)))
  (OpJs.cons (OpJ.move (ltN hN rfl) (Opd.tmp 8 (.d (.bool (decide (a0 < (0 : Int)))))))
  (OpJs.cons (OpJ.opt' (v := (.d (.int .i64 a0))) (OpJ.move (ltN hN rfl) (Opd.tmp 0 (.d (.int .i64 a0)))) (by rfl) (GuardV.plain _) (ltN hN rfl) (by rfl) (by rfl) (by rfl) (by rfl) (OptL.keep rfl OptL.nil))
  (OpJs.cons (OpJ.opt' (v := (.d (.bool (decide ((1125899906842624 : Int) < a0))))) (OpJ.gtr (ltN hN rfl) (Opd.tmp 10 (.d (.int .i64 a0))) (Opd.int .i64 (1125899906842624))) (by rfl) (GuardV.plain _) (ltN hN rfl) (by rfl) (by rfl) (by rfl) (by rfl) (OptL.opt OptL.nil))
  (OpJs.cons (OpJ.pickOr rfl (ltN hN rfl) (Opd.tmp 9 (.d (.bool (decide (a0 < (0 : Int)))))) (Opd.tmp 11 (.opt ((decide (a0 < (0 : Int))) == false) (.d (.bool (decide ((1125899906842624 : Int) < a0)))))))
  (OpJs.cons (OpJ.move (ltN hN rfl) (Opd.tmp 12 (.d (.bool ((decide (a0 < (0 : Int))) || (decide ((1125899906842624 : Int) < a0)))))))
  (OpJs.cons (OpJ.opt' (v := (.d (.int .i64 a1))) (OpJ.move (ltN hN rfl) (Opd.tmp 1 (.d (.int .i64 a1)))) (by rfl) (GuardV.plain _) (ltN hN rfl) (by rfl) (by rfl) (by rfl) (by rfl) (OptL.keep rfl OptL.nil))
  (OpJs.cons (OpJ.opt' (v := (.d (.bool (decide (a1 < (1 : Int)))))) (OpJ.lss (ltN hN rfl) (Opd.tmp 14 (.d (.int .i64 a1))) (Opd.int .i64 (1))) (by rfl) (GuardV.plain _) (ltN hN rfl) (by rfl) (by rfl) (by rfl) (by rfl) (OptL.opt OptL.nil))
  (OpJs.cons (OpJ.pickOr rfl (ltN hN rfl) (Opd.tmp 13 (.d (.bool ((decide (a0 < (0 : Int))) || (decide ((1125899906842624 : Int) < a0)))))) (Opd.tmp 15 (.opt (((decide (a0 < (0 : Int))) || (decide ((1125899906842624 : Int) < a0))) == false) (.d (.bool (decide (a1 < (1 : Int))))))))
  (OpJs.cons (OpJ.move (ltN hN rfl) (Opd.tmp 16 (.d (.bool (((decide (a0 < (0 : Int))) || (decide ((1125899906842624 : Int) < a0))) || (decide (a1 < (1 : Int))))))))
  (OpJs.cons (OpJ.opt' (v := (.d (.int .i64 a1))) (OpJ.move (ltN hN rfl) (Opd.tmp 1 (.d (.int .i64 a1)))) (by rfl) (GuardV.plain _) (ltN hN rfl) (by rfl) (by rfl) (by rfl) (by rfl) (OptL.keep rfl OptL.nil))
  (OpJs.cons (OpJ.opt' (v := (.d (.bool (decide ((86400 : Int) < a1))))) (OpJ.gtr (ltN hN rfl) (Opd.tmp 18 (.d (.int .i64 a1))) (Opd.int .i64 (86400))) (by rfl) (GuardV.plain _) (ltN hN rfl) (by rfl) (by rfl) (by rfl) (by rfl) (OptL.opt OptL.nil))
  (OpJs.cons (OpJ.pickOr rfl (ltN hN rfl) (Opd.tmp 17 (.d (.bool (((decide (a0 < (0 : Int))) || (decide ((1125899906842624 : Int) < a0))) || (decide (a1 < (1 : Int))))))) (Opd.tmp 19 (.opt ((((decide (a0 < (0 : Int))) || (decide ((1125899906842624 : Int) < a0))) || (decide (a1 < (1 : Int)))) == false) (.d (.bool (decide ((86400 : Int) < a1)))))))
  (OpJs.nil))))))))))))))) (by rfl) (by rfl) ?_
  refine seqQ_n ?_
  refine AWp.ghost (Mat.pat [] [(0, (.d (.int .i64 a0))), (1, (.d (.int .i64 a1))), (20, (.d (.bool ((((decide (a0 < (0 : Int))) || (decide ((1125899906842624 : Int) < a0))) || (decide (a1 < (1 : Int)))) || (decide ((86400 : Int) < a1))))))] [] hB (by rfl) (by rfl) (by rfl)) ?_
  refine AWp.cond (b := ((((decide (a0 < (0 : Int))) || (decide ((1125899906842624 : Int) < a0))) || (decide (a1 < (1 : Int)))) || (decide ((86400 : Int) < a1)))) (by rfl) (fun hg1 => ?_) (fun hg1 => ?_)
  · replace h := ite_t hg1 h
    refine AWp.seq ?_
    refine AWp.region (OpJs.cons (OpJ.assign (ltN hN rfl) (Opd.int .i64 (0)))
      (OpJs.cons (OpJ.assign (ltN hN rfl) (Opd.int .i64 (1)))
      (OpJs.nil))) (by rfl) (by rfl) ?_
    refine seqQ_n ?_
    refine AWp.ghost (Mat.pat [] [(4, (.d (.int .i64 (0 : Int)))), (5, (.d (.int .i64 (1 : Int))))] [] hB (by rfl) (by rfl) (by rfl)) ?_
    refine AWp.ret ?_
    refine seqQ_r ?_
    obtain rfl := Option.some.inj h
    exact ⟨.inl rfl, _, _, (Mat.pat [] [(4, (.d (.int .i64 (0 : Int)))), (5, (.d (.int .i64 (1 : Int))))] [] hB (by rfl) (by rfl) (by rfl)), [(.d (.int .i64 (0 : Int))), (.d (.int .i64 (1 : Int)))], (Res.tmp (by rfl) (by rfl) (Res.tmp (by rfl) (by rfl) Res.nil)), rfl, by rfl, by rfl, by rfl⟩
  · replace h := ite_f hg1 h
    refine AWp.skip ?_
    refine seqQ_n ?_
    refine AWp.seq ?_
    refine AWp.region (OpJs.cons (OpJ.move (ltN hN rfl) (Opd.tmp 1 (.d (.int .i64 a1))))
      (OpJs.cons (OpJ.mul (ltN hN rfl) (Opd.tmp 21 (.d (.int .i64 a1))) (Opd.int .i64 (1000000)))
      (OpJs.cons (OpJ.assign (ltN hN rfl) (Opd.tmp 22 (.d (.int .i64 (w64 (a1 * (1000000 : Int)))))))
      (OpJs.nil)))) (by rfl) (by rfl) ?_
    refine seqQ_n ?_
    refine AWp.ghost (Mat.pat [] [(0, (.d (.int .i64 a0))), (6, (.d (.int .i64 (w64 (a1 * (1000000 : Int))))))] [] hB (by rfl) (by rfl) (by rfl)) ?_
    refine AWp.seq ?_
    obtain ⟨hc2, h⟩ := chk_some h
    refine AWp.region (OpJs.cons (OpJ.move (ltN hN rfl) (Opd.tmp 0 (.d (.int .i64 a0))))
      (OpJs.cons (OpJ.mul (ltN hN rfl) (Opd.int .i64 (8)) (Opd.tmp 23 (.d (.int .i64 a0))))
      (OpJs.cons (OpJ.move (ltN hN rfl) (Opd.tmp 6 (.d (.int .i64 (w64 (a1 * (1000000 : Int)))))))
      (OpJs.cons (OpJ.add (ltN hN rfl) (Opd.tmp 24 (.d (.int .i64 (w64 ((8 : Int) * a0))))) (Opd.tmp 25 (.d (.int .i64 (w64 (a1 * (1000000 : Int)))))))
      (OpJs.cons (OpJ.sub (ltN hN rfl) (Opd.tmp 26 (.d (.int .i64 (w64 ((w64 ((8 : Int) * a0)) + (w64 (a1 * (1000000 : Int)))))))) (Opd.int .i64 (1)))
      (OpJs.cons (OpJ.move (ltN hN rfl) (Opd.tmp 6 (.d (.int .i64 (w64 (a1 * (1000000 : Int)))))))
      (OpJs.cons (OpJ.quo (ltN hN rfl) (Opd.tmp 27 (.d (.int .i64 (w64 ((w64 ((w64 ((8 : Int) * a0)) + (w64 (a1 * (1000000 : Int))))) - (1 : Int)))))) (Opd.tmp 28 (.d (.int .i64 (w64 (a1 * (1000000 : Int)))))) (of_decide_eq_true hc2))
      (OpJs.cons (OpJ.assign (ltN hN rfl) (Opd.tmp 29 (.d (.int .i64 (w64 (Int.tdiv (w64 ((w64 ((w64 ((8 : Int) * a0)) + (w64 (a1 * (1000000 : Int))))) - (1 : Int))) (w64 (a1 * (1000000 : Int)))))))))
      (OpJs.cons (OpJ.assign (ltN hN rfl) (Opd.int .i64 (0)))
      (OpJs.nil)))))))))) (by rfl) (by rfl) ?_
    refine seqQ_n ?_
    refine AWp.ghost (Mat.pat [] [(4, (.d (.int .i64 (w64 (Int.tdiv (w64 ((w64 ((w64 ((8 : Int) * a0)) + (w64 (a1 * (1000000 : Int))))) - (1 : Int))) (w64 (a1 * (1000000 : Int)))))))), (5, (.d (.int .i64 (0 : Int))))] [] hB (by rfl) (by rfl) (by rfl)) ?_
    refine AWp.ret ?_
    obtain rfl := Option.some.inj h
    exact ⟨.inl rfl, _, _, (Mat.pat [] [(4, (.d (.int .i64 (w64 (Int.tdiv (w64 ((w64 ((w64 ((8 : Int) * a0)) + (w64 (a1 * (1000000 : Int))))) - (1 : Int))) (w64 (a1 * (1000000 : Int)))))))), (5, (.d (.int .i64 (0 : Int))))] [] hB (by rfl) (by rfl) (by rfl)), [(.d (.int .i64 (w64 (Int.tdiv (w64 ((w64 ((w64 ((8 : Int) * a0)) + (w64 (a1 * (1000000 : Int))))) - (1 : Int))) (w64 (a1 * (1000000 : Int))))))), (.d (.int .i64 (0 : Int)))], (Res.tmp (by rfl) (by rfl) (Res.tmp (by rfl) (by rfl) Res.nil)), rfl, by rfl, by rfl, by rfl⟩

noncomputable def exchangepointref40_Rates_L0 (a0 : (List Int)) (a1 : Int) (s2 : Int × (List Int)) : Option (((Int) ⊕ ((List Int))) ⊕ (Int × (List Int))) :=
  (if (decide (s2.1 < (a0.length : Int))) = true then
  jn (fun m37 : (List Int) =>
  some (.inr ((w64 (s2.1 + (1 : Int))), m37))) (fun j38 =>
  (idx a0 s2.1).bind fun x39 =>
  (if (x39 == (-1 : Int)) = true then
  j38 s2.2
  else
  (exchangepointref40_Rate x39 a1).bind fun r41 =>
  (if (r41.2 != (0 : Int)) = true then
  some (.inl (.inl r41.2))
  else
  chk (decide ((s2.2 ++ ([r41.1] : List Int)).length ≤ LIM)) <|
  j38 (s2.2 ++ ([r41.1] : List Int)))))
  else
  some (.inl (.inr s2.2)))
noncomputable def exchangepointref40_Rates (a0 : (List Int)) (a1 : Int) : Option ((List Int) × Int) :=
  (if ((decide (a1 < (1 : Int))) || (decide ((86400 : Int) < a1))) = true then
  some (([] : List Int), (1 : Int))
  else
  (loop (exchangepointref40_Rates_L0 a0 a1) ((0 : Int), ([] : List Int))).bind fun x44 => match x44 with
  | (.inl p29) =>
    some (([] : List Int), p29)
  | (.inr p30) =>
    some (p30, (0 : Int)))
set_option maxHeartbeats 4000000 in
set_option maxRecDepth 100000 in
theorem exchangepointref40_Rates_ac (a0 : (List Int)) (a1 : Int) (r : (List Int) × Int) (h : exchangepointref40_Rates a0 a1 = some r) : AC Try.prog 23 [(.d (.list 1 (a0.map (eI .i64)))), (.d (.int .i64 a1))] [] (.tup [(.d (.list 1 (r.1.map (eI .i64)))), (.d (.int .i64 r.2))]) [] := by
  refine AC.of_code2 Try.func23 rfl rfl (Nat.le_of_ble_eq_true (by rfl)) fun B hB hN => ?_
  delta exchangepointref40_Rates at h
  refine AWp.seq ?_
  refine AWp.region (OpJs.cons (OpJ.assign (ltN hN rfl) Opd.nils)
  (OpJs.cons (OpJ.assign (ltN hN rfl) (Opd.int .i64 (0)))
  (OpJs.nil))) (by rfl) (by rfl) ?_
  refine seqQ_n ?_
  refine AWp.ghost (Mat.pat [] [(0, (.d (.list 1 (a0.map (eI .i64))))), (1, (.d (.int .i64 a1)))] [] hB (by rfl) (by rfl) (by rfl)) ?_
  refine AWp.seq ?_
  refine AWp.seq ?_
  refine AWp.region (OpJs.cons (OpJ.move (ltN hN rfl) (Opd.tmp 1 (.d (.int .i64 a1))))
  (OpJs.cons (OpJ.lss (ltN hN rfl) (Opd.tmp 11 (.d (.int .i64 a1))) (Opd.int .i64 (1)))
  (OpJs.cons (OpJ.move (ltN hN rfl) (Opd.tmp 12 (.d (.bool (decide (a1 < (1 : Int)))))))
  (OpJs.cons (OpJ.opt' (v := (.d (.int .i64 a1))) (OpJ.move (ltN hN rfl) (Opd.tmp 1 (.d (.int .i64 a1)))) (by rfl) (GuardV.plain _) (ltN hN rfl) (by rfl) (by rfl) (by rfl) (by rfl) (OptL.keep rfl OptL.nil))
  (OpJs.cons (OpJ.opt' (v := (.d (.bool (decide ((86400 : Int) < a1))))) (OpJ.gtr (ltN hN rfl) (Opd.tmp 14 (.d (.int .i64 a1))) (Opd.int .i64 (86400))) (by rfl) (GuardV.plain _) (ltN hN rfl) (by rfl) (by rfl) (by rfl) (by rfl) (OptL.opt OptL.nil))
  (OpJs.cons (OpJ.pickOr rfl (ltN hN rfl) (Opd.tmp 13 (.d (.bool (decide (a1 < (1 : Int)))))) (Opd.tmp 15 (.opt ((decide (a1 < (1 : Int))) == false) (.d (.bool (decide ((86400 : Int) < a1)))))))
  (OpJs.nil))))))) (by rfl) (by rfl) ?_
  refine seqQ_n ?_
  refine AWp.ghost (Mat.pat [] [(0, (.d (.list 1 (a0.map (eI .i64))))), (1, (.d (.int .i64 a1))), (16, (.d (.bool ((decide (a1 < (1 : Int))) || (decide ((86400 : Int) < a1))))))] [] hB (by rfl) (by rfl) (by rfl)) ?_
  refine AWp.cond (b := ((decide (a1 < (1 : Int))) || (decide ((86400 : Int) < a1)))) (by rfl) (fun hg1 => ?_) (fun hg1 => ?_)
  · replace h := ite_t hg1 h
    refine AWp.seq ?_
    refine AWp.region (OpJs.cons (OpJ.assign (ltN hN rfl) Opd.nils)
      (OpJs.cons (OpJ.assign (ltN hN rfl) (Opd.int .i64 (1)))
      (OpJs.nil))) (by rfl) (by rfl) ?_
    refine seqQ_n ?_
    refine AWp.ghost (Mat.pat [] [(4, .nils), (5, (.d (.int .i64 (1 : Int))))] [] hB (by rfl) (by rfl) (by rfl)) ?_
    refine AWp.ret ?_
    refine seqQ_r ?_
    obtain rfl := Option.some.inj h
    exact ⟨.inl rfl, _, _, (Mat.trans (Mat.coeP (Ts := [(4, (.d (.list 1 (([] : List Int).map (eI .i64)))))]) (Bs := []) (TwT.cons (x := .nils) (by rfl) (Tw.leaf ⟨_, (Co.nils 1), rfl⟩) TwT.nil) TwB.nil) (Mat.pat [] [(4, (.d (.list 1 (([] : List Int).map (eI .i64))))), (5, (.d (.int .i64 (1 : Int))))] [] hB (by rfl) (by rfl) (by rfl))), [(.d (.list 1 (([] : List Int).map (eI .i64)))), (.d (.int .i64 (1 : Int)))], (Res.tmp (by rfl) (by rfl) (Res.tmp (by rfl) (by rfl) Res.nil)), rfl, by rfl, by rfl, by rfl⟩
  · replace h := ite_f hg1 h
    refine AWp.skip ?_
    refine seqQ_n ?_
    refine AWp.seq ?_
    refine AWp.region (OpJs.cons (OpJ.assign (ltN hN rfl) Opd.nils)
      (OpJs.nil)) (by rfl) (by rfl) ?_
    refine seqQ_n ?_
    refine AWp.ghost (Mat.pat [] [(0, (.d (.list 1 (a0.map (eI .i64))))), (1, (.d (.int .i64 a1))), (6, .nils)] [] hB (by rfl) (by rfl) (by rfl)) ?_
    refine AWp.seq ?_
    refine AWp.seq ?_
    refine AWp.region (OpJs.cons (OpJ.move (ltN hN rfl) (Opd.tmp 0 (.d (.list 1 (a0.map (eI .i64))))))
      (OpJs.cons (OpJ.val (v' := (.d (.int .i64 (a0.length : Int)))) (by simp) (OpJ.lenD Try.underlying22 (ltN hN rfl) (Opd.tmp 17 (.d (.list 1 (a0.map (eI .i64)))))))
      (OpJs.cons (OpJ.move (ltN hN rfl) (Opd.int .i64 (0)))
      (OpJs.nil)))) (by rfl) (by rfl) ?_
    refine seqQ_n ?_
    refine AWp.ghost (Mat.pat [] [(1, (.d (.int .i64 a1))), (6, .nils), (17, (.d (.list 1 (a0.map (eI .i64))))), (18, (.d (.int .i64 (a0.length : Int)))), (19, (.d (.int .i64 (0 : Int))))] [] hB (by rfl) (by rfl) (by rfl)) ?_
    refine AWp.block ?_
    obtain ⟨x44, hx45, h⟩ := bindS h
    refine AWp.ghost (Mat.trans (Mat.beginP (n := 3006) (e := 3) (sz := 1) (Ts := [(6, (.sref 3006 1 0 0))]) (Bs := []) hB (by decide) (by rfl) (by decide) (TwT.cons (x := .nils) (by rfl) (Tw.leaf ⟨rfl, rfl⟩) TwT.nil) TwB.nil) (Mat.pat [] ((fun s2 : Int × (List Int) => ([(1, (.d (.int .i64 a1))), (6, (.sref 3006 1 0 s2.2.length)), (17, (.d (.list 1 (a0.map (eI .i64))))), (18, (.d (.int .i64 (a0.length : Int)))), (19, (.d (.int .i64 s2.1)))] : EL)) ((0 : Int), ([] : List Int))) ((fun s2 : Int × (List Int) => ([(3006, some (.row 3 1 (s2.2.map (eI .i64))))] : OL)) ((0 : Int), ([] : List Int))) hB (by rfl) (by rfl) (by rfl))) ?_
    refine AWp.loopS (exchangepointref40_Rates_L0 a0 a1) (fun s2 : Int × (List Int) => ([(1, (.d (.int .i64 a1))), (6, (.sref 3006 1 0 s2.2.length)), (17, (.d (.list 1 (a0.map (eI .i64))))), (18, (.d (.int .i64 (a0.length : Int)))), (19, (.d (.int .i64 s2.1)))] : EL)) (fun s2 : Int × (List Int) => ([(3006, some (.row 3 1 (s2.2.map (eI .i64))))] : OL)) (fun (x : (Int) ⊕ ((List Int))) e E' O' => match x with | (.inl p29) => e = .ret ∧ Mat B E' O' ([(4, .nils), (5, (.d (.int .i64 p29)))] : EL) ([] : OL) | (.inr p30) => e = .exit 0 ∧ Mat B E' O' ([(6, (.sref 3006 1 0 p30.length))] : EL) ([(3006, some (.row 3 1 (p30.map (eI .i64))))] : OL)) hx45 (fun s2 y h => ?_) (fun e E' O' hR => ?_)
    · unfold exchangepointref40_Rates_L0 at h
      show AWp _ _ _ _ ([(1, (.d (.int .i64 a1))), (6, (.sref 3006 1 0 s2.2.length)), (17, (.d (.list 1 (a0.map (eI .i64))))), (18, (.d (.int .i64 (a0.length : Int)))), (19, (.d (.int .i64 s2.1)))] : EL) ([(3006, some (.row 3 1 (s2.2.map (eI .i64))))] : OL)
      refine AWp.seq ?_
      refine AWp.region (OpJs.cons (OpJ.lss (ltN hN rfl) (Opd.tmp 19 (.d (.int .i64 s2.1))) (Opd.tmp 18 (.d (.int .i64 (a0.length : Int)))))
        (OpJs.nil)) (by rfl) (by rfl) ?_
      refine seqQ_n ?_
      refine AWp.ghost (Mat.pat [] [(1, (.d (.int .i64 a1))), (6, (.sref 3006 1 0 s2.2.length)), (17, (.d (.list 1 (a0.map (eI .i64))))), (18, (.d (.int .i64 (a0.length : Int)))), (19, (.d (.int .i64 s2.1))), (20, (.d (.bool (decide (s2.1 < (a0.length : Int))))))] [(3006, some (.row 3 1 (s2.2.map (eI .i64))))] hB (by rfl) (by rfl) (by rfl)) ?_
      refine AWp.seq ?_
      refine AWp.cond (b := (decide (s2.1 < (a0.length : Int)))) (by rfl) (fun hg31 => ?_) (fun hg31 => ?_)
      · replace h := ite_t hg31 h
        refine AWp.skip ?_
        refine seqQ_n ?_
        refine AWp.seq ?_
        refine AWp.cut h (fun m37 : (List Int) => ([(1, (.d (.int .i64 a1))), (6, (.sref 3006 1 0 m37.length)), (17, (.d (.list 1 (a0.map (eI .i64))))), (18, (.d (.int .i64 (a0.length : Int)))), (19, (.d (.int .i64 s2.1)))] : EL)) (fun m37 : (List Int) => ([(3006, some (.row 3 1 (m37.map (eI .i64))))] : OL)) (fun m37 h E' O' hmat => ?_) (fun j38 hjj38 h => ?_)
        · refine seqQ_n ?_
          refine AWp.ghost hmat ?_
          refine AWp.region (OpJs.cons (OpJ.add (ltN hN rfl) (Opd.tmp 19 (.d (.int .i64 s2.1))) (Opd.int .i64 (1)))
            (OpJs.cons (OpJ.move (ltN hN rfl) (Opd.tmp 38 (.d (.int .i64 (w64 (s2.1 + (1 : Int)))))))
            (OpJs.nil))) (by rfl) (by rfl) ?_
          obtain rfl := Option.some.inj h
          exact ⟨rfl, (Mat.trans (Mat.pat [] [(1, (.d (.int .i64 a1))), (6, (.sref 3006 1 0 m37.length)), (17, (.d (.list 1 (a0.map (eI .i64))))), (18, (.d (.int .i64 (a0.length : Int)))), (19, (.d (.int .i64 (w64 (s2.1 + (1 : Int))))))] [(3006, some (.row 3 1 (m37.map (eI .i64))))] hB (by rfl) (by rfl) (by rfl)) (Mat.pat [] ((fun s2 : Int × (List Int) => ([(1, (.d (.int .i64 a1))), (6, (.sref 3006 1 0 s2.2.length)), (17, (.d (.list 1 (a0.map (eI .i64))))), (18, (.d (.int .i64 (a0.length : Int)))), (19, (.d (.int .i64 s2.1)))] : EL)) ((w64 (s2.1 + (1 : Int))), m37)) ((fun s2 : Int × (List Int) => ([(3006, some (.row 3 1 (s2.2.map (eI .i64))))] : OL)) ((w64 (s2.1 + (1 : Int))), m37)) hB (by rfl) (by rfl) (by rfl)))⟩
        · refine AWp.block ?_
          refine AWp.seq ?_
          obtain ⟨x39, hx39, h⟩ := bindS h
          refine AWp.region (OpJs.cons (OpJ.indexD (el := (.int .i64 x39)) Try.underlying22 tyS3 (idx_some hx39).1 (get_map (eI .i64) (idx_some hx39).2) (ltN hN rfl) (Opd.tmp 17 (.d (.list 1 (a0.map (eI .i64))))) (Opd.tmp 19 (.d (.int .i64 s2.1))))
            (OpJs.cons (OpJ.loadD tyS3 (by rfl) (by rfl) (ltN hN rfl) (Opd.tmp 21 (.dptr (.int .i64 x39))))
            (OpJs.cons (OpJ.assign (ltN hN rfl) (Opd.tmp 22 (.d (.int .i64 x39))))
            (OpJs.nil)))) (by rfl) (by rfl) ?_
          refine seqQ_n ?_
          refine AWp.ghost (Mat.pat [] [(1, (.d (.int .i64 a1))), (6, (.sref 3006 1 0 s2.2.length)), (8, (.d (.int .i64 x39))), (17, (.d (.list 1 (a0.map (eI .i64))))), (18, (.d (.int .i64 (a0.length : Int)))), (19, (.d (.int .i64 s2.1)))] [(3006, some (.row 3 1 (s2.2.map (eI .i64))))] hB (by rfl) (by rfl) (by rfl)) ?_
          refine AWp.seq ?_
          refine AWp.seq ?_
          refine AWp.region (OpJs.cons (OpJ.move (ltN hN rfl) (Opd.tmp 8 (.d (.int .i64 x39))))
            (OpJs.cons (OpJ.eqlI (ltN hN rfl) (Opd.tmp 23 (.d (.int .i64 x39))) (Opd.int .i64 (-1)))
            (OpJs.nil))) (by rfl) (by rfl) ?_
          refine seqQ_n ?_
          refine AWp.ghost (Mat.pat [] [(1, (.d (.int .i64 a1))), (6, (.sref 3006 1 0 s2.2.length)), (8, (.d (.int .i64 x39))), (17, (.d (.list 1 (a0.map (eI .i64))))), (18, (.d (.int .i64 (a0.length : Int)))), (19, (.d (.int .i64 s2.1))), (24, (.d (.bool (x39 == (-1 : Int)))))] [(3006, some (.row 3 1 (s2.2.map (eI .i64))))] hB (by rfl) (by rfl) (by rfl)) ?_
          refine AWp.cond (b := (x39 == (-1 : Int))) (by rfl) (fun hg40 => ?_) (fun hg40 => ?_)
          · replace h := ite_t hg40 h
            refine AWp.exit ?_
            refine seqQ_e ?_
            refine blkQ_hit ?_
            exact hjj38 _ h _ _ (Mat.pat [] ((fun m37 : (List Int) => ([(1, (.d (.int .i64 a1))), (6, (.sref 3006 1 0 m37.length)), (17, (.d (.list 1 (a0.map (eI .i64))))), (18, (.d (.int .i64 (a0.length : Int)))), (19, (.d (.int .i64 s2.1)))] : EL)) s2.2) ((fun m37 : (List Int) => ([(3006, some (.row 3 1 (m37.map (eI .i64))))] : OL)) s2.2) hB (by rfl) (by rfl) (by rfl))
          · replace h := ite_f hg40 h
            refine AWp.skip ?_
            refine seqQ_n ?_
            refine AWp.seq ?_
            obtain ⟨r41, hr41, h⟩ := bindS h
            refine AWp.region (OpJs.cons (OpJ.move (ltN hN rfl) (Opd.tmp 8 (.d (.int .i64 x39))))
              (OpJs.cons (OpJ.move (ltN hN rfl) (Opd.tmp 1 (.d (.int .i64 a1))))
              (OpJs.cons (OpJ.callFn hB fnOk21 (exchangepointref40_Rate_ac x39 a1 r41 hr41) [] (by kernel_rfl) (ltN hN rfl) (by kernel_rfl) (OpdL.cons (Opd.tmp 26 (.d (.int .i64 x39))) (OpdL.cons (Opd.tmp 27 (.d (.int .i64 a1))) OpdL.nil)))
              (OpJs.cons (OpJ.move (ltN hN rfl) (Opd.tmp 28 (.tup [(.d (.int .i64 r41.1)), (.d (.int .i64 r41.2))])))
              (OpJs.cons (OpJ.extract (v := (.d (.int .i64 r41.1))) (by rfl) rfl (ltN hN rfl) (Opd.tmp 25 (.tup [(.d (.int .i64 r41.1)), (.d (.int .i64 r41.2))])))
              (OpJs.cons (OpJ.extract (v := (.d (.int .i64 r41.2))) (by rfl) rfl (ltN hN rfl) (Opd.tmp 25 (.tup [(.d (.int .i64 r41.1)), (.d (.int .i64 r41.2))])))
              (OpJs.cons (OpJ.assign (ltN hN rfl) (Opd.tmp 29 (.d (.int .i64 r41.1))))
              (OpJs.cons (OpJ.assign (ltN hN rfl) (Opd.tmp 30 (.d (.int .i64 r41.2))))
              (OpJs.nil))))))))) (by rfl) (by rfl) ?_
            refine seqQ_n ?_
            refine AWp.ghost (Mat.pat [] [(1, (.d (.int .i64 a1))), (6, (.sref 3006 1 0 s2.2.length)), (9, (.d (.int .i64 r41.1))), (10, (.d (.int .i64 r41.2))), (17, (.d (.list 1 (a0.map (eI .i64))))), (18, (.d (.int .i64 (a0.length : Int)))), (19, (.d (.int .i64 s2.1)))] [(3006, some (.row 3 1 (s2.2.map (eI .i64))))] hB (by rfl) (by rfl) (by rfl)) ?_
            refine AWp.seq ?_
            refine AWp.seq ?_
            refine AWp.region (OpJs.cons (OpJ.move (ltN hN rfl) (Opd.tmp 10 (.d (.int .i64 r41.2))))
              (OpJs.cons (OpJ.neqI (ltN hN rfl) (Opd.tmp 31 (.d (.int .i64 r41.2))) (Opd.int .i64 (0)))
              (OpJs.nil))) (by rfl) (by rfl) ?_
            refine seqQ_n ?_
            refine AWp.ghost (Mat.pat [] [(1, (.d (.int .i64 a1))), (6, (.sref 3006 1 0 s2.2.length)), (9, (.d (.int .i64 r41.1))), (10, (.d (.int .i64 r41.2))), (17, (.d (.list 1 (a0.map (eI .i64))))), (18, (.d (.int .i64 (a0.length : Int)))), (19, (.d (.int .i64 s2.1))), (32, (.d (.bool (r41.2 != (0 : Int)))))] [(3006, some (.row 3 1 (s2.2.map (eI .i64))))] hB (by rfl) (by rfl) (by rfl)) ?_
            refine AWp.cond (b := (r41.2 != (0 : Int))) (by rfl) (fun hg42 => ?_) (fun hg42 => ?_)
            · replace h := ite_t hg42 h
              refine AWp.seq ?_
              refine AWp.region (OpJs.cons (OpJ.move (ltN hN rfl) (Opd.tmp 10 (.d (.int .i64 r41.2))))
                (OpJs.cons (OpJ.assign (ltN hN rfl) Opd.nils)
                (OpJs.cons (OpJ.assign (ltN hN rfl) (Opd.tmp 33 (.d (.int .i64 r41.2))))
                (OpJs.nil)))) (by rfl) (by rfl) ?_
              refine seqQ_n ?_
              refine AWp.ghost (Mat.pat [] [(4, .nils), (5, (.d (.int .i64 r41.2)))] [] hB (by rfl) (by rfl) (by rfl)) ?_
              refine AWp.ret ?_
              refine seqQ_r ?_
              refine blkQ_r ?_
              refine seqQ_r ?_
              obtain rfl := Option.some.inj h
              exact ⟨(fun hc => by cases hc), rfl, (Mat.pat [] ((fun p29 : Int => ([(4, .nils), (5, (.d (.int .i64 p29)))] : EL)) r41.2) ((fun p29 : Int => ([] : OL)) r41.2) hB (by rfl) (by rfl) (by rfl))⟩
            · replace h := ite_f hg42 h
              refine AWp.skip ?_
              refine seqQ_n ?_
              obtain ⟨hc43, h⟩ := chk_some h
              refine AWp.region (OpJs.cons (OpJ.move (ltN hN rfl) (Opd.tmp 6 (.sref 3006 1 0 s2.2.length)))
                (OpJs.cons (OpJ.move (ltN hN rfl) (Opd.tmp 9 (.d (.int .i64 r41.1))))
                (OpJs.cons (OpJ.buildSlice Try.underlying22 tyS3 tyZD3 (by rfl) (by decide) (by decide) (Opds.cons (Opd.tmp 35 (.d (.int .i64 r41.1))) Opds.nil) (by kernel_rfl) (es := ([(.int .i64 r41.1)] : List D)) (by rfl) (by rfl) (by kernel_rfl) (by simp) (ltN hN rfl))
                (OpJs.cons (OpJ.append hB Try.underlying22 tyE3 (nm := 1037) (by decide) (es := s2.2.map (eI .i64)) (ys := ([r41.1] : List Int).map (eI .i64)) (es' := (s2.2 ++ ([r41.1] : List Int)).map (eI .i64)) (len := (s2.2 ++ ([r41.1] : List Int)).length) (by simp) (by simp) (map_sz (f := (eI .i64)) (fun _ => rfl)) (by rw [List.length_map]; exact lim_mulN hc43 (by decide)) (by rw [List.length_map]; exact lim_leN hc43) (ltN hN rfl) (by simp) (Opd.tmp 34 (.sref 3006 1 0 s2.2.length)) (Opd.tmp 36 (.d (.list 1 (([r41.1] : List Int).map (eI .i64))))))
                (OpJs.cons (OpJ.assign (ltN hN rfl) (Opd.tmp 37 (.sref 1037 1 0 ((s2.2 ++ ([r41.1] : List Int)).length))))
                (OpJs.nil)))))) (by rfl) (by rfl) ?_
              refine blkQ_n ?_
              exact hjj38 _ h _ _ (Mat.trans (Mat.pat [] [(1, (.d (.int .i64 a1))), (6, (.sref 1037 1 0 ((s2.2 ++ ([r41.1] : List Int)).length))), (17, (.d (.list 1 (a0.map (eI .i64))))), (18, (.d (.int .i64 (a0.length : Int)))), (19, (.d (.int .i64 s2.1)))] [(1037, some (.row 3 1 ((s2.2 ++ ([r41.1] : List Int)).map (eI .i64))))] hB (by rfl) (by rfl) (by rfl)) (Mat.pat [(3006, 1037)] ((fun m37 : (List Int) => ([(1, (.d (.int .i64 a1))), (6, (.sref 3006 1 0 m37.length)), (17, (.d (.list 1 (a0.map (eI .i64))))), (18, (.d (.int .i64 (a0.length : Int)))), (19, (.d (.int .i64 s2.1)))] : EL)) (s2.2 ++ ([r41.1] : List Int))) ((fun m37 : (List Int) => ([(3006, some (.row 3 1 (m37.map (eI .i64))))] : OL)) (s2.2 ++ ([r41.1] : List Int))) hB (by rfl) (by rfl) (by rfl)))
      · replace h := ite_f hg31 h
        refine AWp.exit ?_
        refine seqQ_e ?_
        obtain rfl := Option.some.inj h
        exact ⟨(fun hc => by cases hc), rfl, (Mat.pat [] ((fun p30 : (List Int) => ([(6, (.sref 3006 1 0 p30.length))] : EL)) s2.2) ((fun p30 : (List Int) => ([(3006, some (.row 3 1 (p30.map (eI .i64))))] : OL)) s2.2) hB (by rfl) (by rfl) (by rfl))⟩
    · rcases x44 with p29 | p30
      · obtain ⟨rfl, hmat⟩ := hR
        refine blkQ_r ?_
        refine seqQ_r ?_
        obtain rfl := Option.some.inj h
        exact ⟨.inl rfl, _, _, (Mat.trans hmat (Mat.trans (Mat.coeP (Ts := [(4, (.d (.list 1 (([] : List Int).map (eI .i64)))))]) (Bs := []) (TwT.cons (x := .nils) (by rfl) (Tw.leaf ⟨_, (Co.nils 1), rfl⟩) TwT.nil) TwB.nil) (Mat.pat [] [(4, (.d (.list 1 (([] : List Int).map (eI .i64))))), (5, (.d (.int .i64 p29)))] [] hB (by rfl) (by rfl) (by rfl)))), [(.d (.list 1 (([] : List Int).map (eI .i64)))), (.d (.int .i64 p29))], (Res.tmp (by rfl) (by rfl) (Res.tmp (by rfl) (by rfl) Res.nil)), rfl, by rfl, by rfl, by rfl⟩
      · obtain ⟨rfl, hmat⟩ := hR
        refine blkQ_hit ?_
        refine seqQ_n ?_
        refine AWp.ghost hmat ?_
        refine AWp.seq ?_
        refine AWp.region (OpJs.cons (OpJ.move (ltN hN rfl) (Opd.tmp 6 (.sref 3006 1 0 p30.length)))
          (OpJs.cons (OpJ.assign (ltN hN rfl) (Opd.tmp 39 (.sref 3006 1 0 p30.length)))
          (OpJs.cons (OpJ.assign (ltN hN rfl) (Opd.int .i64 (0)))
          (OpJs.nil)))) (by rfl) (by rfl) ?_
        refine seqQ_n ?_
        refine AWp.ghost (Mat.pat [] [(4, (.sref 3006 1 0 p30.length)), (5, (.d (.int .i64 (0 : Int))))] [(3006, some (.row 3 1 (p30.map (eI .i64))))] hB (by rfl) (by rfl) (by rfl)) ?_
        refine AWp.ret ?_
        obtain rfl := Option.some.inj h
        exact ⟨.inl rfl, _, _, (Mat.trans (Mat.freezeP (n := 3006) (e := 3) (sz := 1) (es := p30.map (eI .i64)) (Ts := [(4, (.d (.list 1 (p30.map (eI .i64)))))]) (Bs := []) (by rfl) (TwT.cons (x := (.sref 3006 1 0 p30.length)) (by rfl) (FrzL.all (by first | rfl | (simp; done) | (simp; omega))) TwT.nil) TwB.nil) (Mat.pat [] [(4, (.d (.list 1 (p30.map (eI .i64))))), (5, (.d (.int .i64 (0 : Int))))] [] hB (by rfl) (by rfl) (by rfl))), [(.d (.list 1 (p30.map (eI .i64)))), (.d (.int .i64 (0 : Int)))], (Res.tmp (by rfl) (by rfl) (Res.tmp (by rfl) (by rfl) Res.nil)), rfl, by rfl, by rfl, by rfl⟩

noncomputable def exchangepointref40_Percentile (a0 : (List Int)) (a1 : Int) : Option (Int × Int) :=
  (if (((decide (a1 < (1 : Int))) || (decide ((100 : Int) < a1))) || (decide ((9000 : Int) < (a0.length : Int)))) = true then
  some ((0 : Int), (1 : Int))
  else
  (if ((a0.length : Int) == (0 : Int)) = true then
  some ((0 : Int), (39 : Int))
  else
  chk (decide (a0.length ≤ LIM)) <|
  (ext31_slices_Sort a0).bind fun r4 =>
  chk (decide (r4.length = a0.length)) <|
  (idx r4 (w64 ((w64 (Int.tdiv (w64 ((w64 (a1 * (a0.length : Int))) + (99 : Int))) (100 : Int))) - (1 : Int)))).bind fun x6 =>
  (idx r4 (w64 ((w64 (Int.tdiv (w64 ((w64 (a1 * (a0.length : Int))) + (99 : Int))) (100 : Int))) - (1 : Int)))).bind fun x7 =>
  some (x7, (0 : Int))))
set_option maxHeartbeats 4000000 in
set_option maxRecDepth 100000 in
theorem exchangepointref40_Percentile_ac (a0 : (List Int)) (a1 : Int) (r : Int × Int) (h : exchangepointref40_Percentile a0 a1 = some r) : AC Try.prog 25 [(.d (.list 1 (a0.map (eI .i64)))), (.d (.int .i64 a1))] [] (.tup [(.d (.int .i64 r.1)), (.d (.int .i64 r.2))]) [] := by
  refine AC.of_code2 Try.func25 rfl rfl (Nat.le_of_ble_eq_true (by rfl)) fun B hB hN => ?_
  delta exchangepointref40_Percentile at h
  refine AWp.seq ?_
  refine AWp.region (OpJs.cons (OpJ.assign (ltN hN rfl) (Opd.int .i64 (0)))
  (OpJs.cons (OpJ.assign (ltN hN rfl) (Opd.int .i64 (0)))
  (OpJs.nil))) (by rfl) (by rfl) ?_
  refine seqQ_n ?_
  refine AWp.ghost (Mat.pat [] [(0, (.d (.list 1 (a0.map (eI .i64))))), (1, (.d (.int .i64 a1)))] [] hB (by rfl) (by rfl) (by rfl)) ?_
  refine AWp.seq ?_
  refine AWp.seq ?_
  refine AWp.region (OpJs.cons (OpJ.move (ltN hN rfl) (Opd.tmp 1 (.d (.int .i64 a1))))
  (OpJs.cons (OpJ.lss (ltN hN rfl) (Opd.tmp 7 (.d (.int .i64 a1))) (Opd.int .i64 (1)))
  (OpJs.cons (OpJ.move (ltN hN rfl) (Opd.tmp 8 (.d (.bool (decide (a1 < (1 : Int)))))))
  (OpJs.cons (OpJ.opt' (v := (.d (.int .i64 a1))) (OpJ.move (ltN hN rfl) (Opd.tmp 1 (.d (.int .i64 a1)))) (by rfl) (GuardV.plain _) (ltN hN rfl) (by rfl) (by rfl) (by rfl) (by rfl) (OptL.keep rfl OptL.nil))
  (OpJs.cons (OpJ.opt' (v := (.d (.bool (decide ((100 : Int) < a1))))) (OpJ.gtr (ltN hN rfl) (Opd.tmp 10 (.d (.int .i64 a1))) (Opd.int .i64 (100))) (by rfl) (GuardV.plain _) (ltN hN rfl) (by rfl) (by rfl) (by rfl) (by rfl) (OptL.opt OptL.nil))
  (OpJs.cons (OpJ.pickOr rfl (ltN hN rfl) (Opd.tmp 9 (.d (.bool (decide (a1 < (1 : Int)))))) (Opd.tmp 11 (.opt ((decide (a1 < (1 : Int))) == false) (.d (.bool (decide ((100 : Int) < a1)))))))
  (OpJs.cons (OpJ.move (ltN hN rfl) (Opd.tmp 12 (.d (.bool ((decide (a1 < (1 : Int))) || (decide ((100 : Int) < a1)))))))
  (OpJs.cons (OpJ.opt' (v := (.d (.list 1 (a0.map (eI .i64))))) (OpJ.move (ltN hN rfl) (Opd.tmp 0 (.d (.list 1 (a0.map (eI .i64)))))) (by rfl) (GuardV.plain _) (ltN hN rfl) (by rfl) (by rfl) (by rfl) (by rfl) (OptL.keep rfl OptL.nil))
  (OpJs.cons (OpJ.opt' (v := (.d (.int .i64 (a0.length : Int)))) (OpJ.val (v' := (.d (.int .i64 (a0.length : Int)))) (by simp) (OpJ.lenD Try.underlying22 (ltN hN rfl) (Opd.tmp 14 (.d (.list 1 (a0.map (eI .i64))))))) (by rfl) (GuardV.plain _) (ltN hN rfl) (by rfl) (by rfl) (by rfl) (by rfl) (OptL.opt OptL.nil))
  (OpJs.cons (OpJ.opt' (v := (.d (.bool (decide ((9000 : Int) < (a0.length : Int)))))) (OpJ.gtr (ltN hN rfl) (Opd.tmp 15 (.d (.int .i64 (a0.length : Int)))) (Opd.int .i64 (9000))) (by rfl) (GuardV.plain _) (ltN hN rfl) (by rfl) (by rfl) (by rfl) (by rfl) (OptL.opt OptL.nil))
  (OpJs.cons (OpJ.pickOr rfl (ltN hN rfl) (Opd.tmp 13 (.d (.bool ((decide (a1 < (1 : Int))) || (decide ((100 : Int) < a1)))))) (Opd.tmp 16 (.opt (((decide (a1 < (1 : Int))) || (decide ((100 : Int) < a1))) == false) (.d (.bool (decide ((9000 : Int) < (a0.length : Int))))))))
  (OpJs.nil)))))))))))) (by rfl) (by rfl) ?_
  refine seqQ_n ?_
  refine AWp.ghost (Mat.pat [] [(0, (.d (.list 1 (a0.map (eI .i64))))), (1, (.d (.int .i64 a1))), (17, (.d (.bool (((decide (a1 < (1 : Int))) || (decide ((100 : Int) < a1))) || (decide ((9000 : Int) < (a0.length : Int)))))))] [] hB (by rfl) (by rfl) (by rfl)) ?_
  refine AWp.cond (b := (((decide (a1 < (1 : Int))) || (decide ((100 : Int) < a1))) || (decide ((9000 : Int) < (a0.length : Int))))) (by rfl) (fun hg1 => ?_) (fun hg1 => ?_)
  · replace h := ite_t hg1 h
    refine AWp.seq ?_
    refine AWp.region (OpJs.cons (OpJ.assign (ltN hN rfl) (Opd.int .i64 (0)))
      (OpJs.cons (OpJ.assign (ltN hN rfl) (Opd.int .i64 (1)))
      (OpJs.nil))) (by rfl) (by rfl) ?_
    refine seqQ_n ?_
    refine AWp.ghost (Mat.pat [] [(4, (.d (.int .i64 (0 : Int)))), (5, (.d (.int .i64 (1 : Int))))] [] hB (by rfl) (by rfl) (by rfl)) ?_
    refine AWp.ret ?_
    refine seqQ_r ?_
    obtain rfl := Option.some.inj h
    exact ⟨.inl rfl, _, _, (Mat.pat [] [(4, (.d (.int .i64 (0 : Int)))), (5, (.d (.int .i64 (1 : Int))))] [] hB (by rfl) (by rfl) (by rfl)), [(.d (.int .i64 (0 : Int))), (.d (.int .i64 (1 : Int)))], (Res.tmp (by rfl) (by rfl) (Res.tmp (by rfl) (by rfl) Res.nil)), rfl, by rfl, by rfl, by rfl⟩
  · replace h := ite_f hg1 h
    refine AWp.skip ?_
    refine seqQ_n ?_
    refine AWp.seq ?_
    refine AWp.seq ?_
    refine AWp.region (OpJs.cons (OpJ.move (ltN hN rfl) (Opd.tmp 0 (.d (.list 1 (a0.map (eI .i64))))))
      (OpJs.cons (OpJ.val (v' := (.d (.int .i64 (a0.length : Int)))) (by simp) (OpJ.lenD Try.underlying22 (ltN hN rfl) (Opd.tmp 18 (.d (.list 1 (a0.map (eI .i64)))))))
      (OpJs.cons (OpJ.eqlI (ltN hN rfl) (Opd.tmp 19 (.d (.int .i64 (a0.length : Int)))) (Opd.int .i64 (0)))
      (OpJs.nil)))) (by rfl) (by rfl) ?_
    refine seqQ_n ?_
    refine AWp.ghost (Mat.pat [] [(0, (.d (.list 1 (a0.map (eI .i64))))), (1, (.d (.int .i64 a1))), (20, (.d (.bool ((a0.length : Int) == (0 : Int)))))] [] hB (by rfl) (by rfl) (by rfl)) ?_
    refine AWp.cond (b := ((a0.length : Int) == (0 : Int))) (by rfl) (fun hg2 => ?_) (fun hg2 => ?_)
    · replace h := ite_t hg2 h
      refine AWp.seq ?_
      refine AWp.region (OpJs.cons (OpJ.assign (ltN hN rfl) (Opd.int .i64 (0)))
        (OpJs.cons (OpJ.assign (ltN hN rfl) (Opd.int .i64 (39)))
        (OpJs.nil))) (by rfl) (by rfl) ?_
      refine seqQ_n ?_
      refine AWp.ghost (Mat.pat [] [(4, (.d (.int .i64 (0 : Int)))), (5, (.d (.int .i64 (39 : Int))))] [] hB (by rfl) (by rfl) (by rfl)) ?_
      refine AWp.ret ?_
      refine seqQ_r ?_
      obtain rfl := Option.some.inj h
      exact ⟨.inl rfl, _, _, (Mat.pat [] [(4, (.d (.int .i64 (0 : Int)))), (5, (.d (.int .i64 (39 : Int))))] [] hB (by rfl) (by rfl) (by rfl)), [(.d (.int .i64 (0 : Int))), (.d (.int .i64 (39 : Int)))], (Res.tmp (by rfl) (by rfl) (Res.tmp (by rfl) (by rfl) Res.nil)), rfl, by rfl, by rfl, by rfl⟩
    · replace h := ite_f hg2 h
      refine AWp.skip ?_
      refine seqQ_n ?_
      refine AWp.seq ?_
      obtain ⟨hc3, h⟩ := chk_some h
      refine AWp.region (OpJs.cons (OpJ.move (ltN hN rfl) (Opd.tmp 0 (.d (.list 1 (a0.map (eI .i64))))))
        (OpJs.cons (OpJ.appendN hB Try.underlying22 tyE3 (nm := 1022) (by decide) (ys := a0.map (eI .i64)) (len := a0.length) (by simp) (map_sz (f := (eI .i64)) (fun _ => rfl)) (by rw [List.length_map]; exact lim_mulN hc3 (by decide)) (by rw [List.length_map]; exact lim_leN hc3) (ltN hN rfl) Opd.nils (Opd.tmp 21 (.d (.list 1 (a0.map (eI .i64))))))
        (OpJs.cons (OpJ.assign (ltN hN rfl) (Opd.tmp 22 (.sref 1022 1 0 a0.length)))
        (OpJs.nil)))) (by rfl) (by rfl) ?_
      refine seqQ_n ?_
      refine AWp.ghost (Mat.pat [] [(1, (.d (.int .i64 a1))), (6, (.sref 1022 1 0 a0.length))] [(1022, some (.row 3 1 (a0.map (eI .i64))))] hB (by rfl) (by rfl) (by rfl)) ?_
      refine AWp.seq ?_
      obtain ⟨r4, hr4, h⟩ := bindS h
      obtain ⟨hc5, h⟩ := chk_some h
      have hc5_o := of_decide_eq_true hc5
      refine AWp.region (OpJs.cons (OpJ.move (ltN hN rfl) (Opd.tmp 6 (.sref 1022 1 0 a0.length)))
        (OpJs.cons (OpJ.callFn hB fnOk31 (ext31_slices_Sort_ac a0 r4 hr4) [(0, 1022)] (by kernel_rfl) (ltN hN rfl) (by kernel_rfl) (OpdL.cons (Opd.tmp 23 (.sref 1022 1 0 a0.length)) OpdL.nil))
        (OpJs.nil))) (by rfl) (by rfl) ?_
      refine seqQ_n ?_
      refine AWp.ghost (Mat.pat [] [(1, (.d (.int .i64 a1))), (6, (.sref 1022 1 0 a0.length))] [(1022, some (.row 3 1 (r4.map (eI .i64))))] hB (by rfl) (by rfl) (by rfl)) ?_
      refine AWp.seq ?_
      obtain ⟨x6, hx6, h⟩ := bindS h
      obtain ⟨x7, hx7, h⟩ := bindS h
      refine AWp.region (OpJs.cons (OpJ.move (ltN hN rfl) (Opd.tmp 6 (.sref 1022 1 0 a0.length)))
        (OpJs.cons (OpJ.move (ltN hN rfl) (Opd.tmp 1 (.d (.int .i64 a1))))
        (OpJs.cons (OpJ.move (ltN hN rfl) (Opd.tmp 6 (.sref 1022 1 0 a0.length)))
        (OpJs.cons (OpJ.lenS (obj := (.row 3 1 (r4.map (eI .i64)))) Try.underlying22 (ltN hN rfl) (Opd.tmp 27 (.sref 1022 1 0 a0.length)))
        (OpJs.cons (OpJ.mul (ltN hN rfl) (Opd.tmp 26 (.d (.int .i64 a1))) (Opd.tmp 28 (.d (.int .i64 (a0.length : Int)))))
        (OpJs.cons (OpJ.add (ltN hN rfl) (Opd.tmp 29 (.d (.int .i64 (w64 (a1 * (a0.length : Int)))))) (Opd.int .i64 (99)))
        (OpJs.cons (OpJ.quo (ltN hN rfl) (Opd.tmp 30 (.d (.int .i64 (w64 ((w64 (a1 * (a0.length : Int))) + (99 : Int)))))) (Opd.int .i64 (100)) (by decide))
        (OpJs.cons (OpJ.sub (ltN hN rfl) (Opd.tmp 31 (.d (.int .i64 (w64 (Int.tdiv (w64 ((w64 (a1 * (a0.length : Int))) + (99 : Int))) (100 : Int)))))) (Opd.int .i64 (1)))
        (OpJs.cons (OpJ.val (v' := (.ptr 1022 ((w64 ((w64 (Int.tdiv (w64 ((w64 (a1 * (a0.length : Int))) + (99 : Int))) (100 : Int))) - (1 : Int))).toNat * 1) [(w64 ((w64 (Int.tdiv (w64 ((w64 (a1 * (a0.length : Int))) + (99 : Int))) (100 : Int))) - (1 : Int))).toNat])) (by simp) (OpJ.indexS Try.underlying22 tyS3 (obj := (.row 3 1 (r4.map (eI .i64)))) (idx_some hx6).1 (by have := idx_lt hx6; first | (simpa using this) | ((try simp only [List.length_map] at this); (try simp only [List.length_map]); omega)) (ltN hN rfl) (Opd.tmp 25 (.sref 1022 1 0 a0.length)) (Opd.tmp 32 (.d (.int .i64 (w64 ((w64 (Int.tdiv (w64 ((w64 (a1 * (a0.length : Int))) + (99 : Int))) (100 : Int))) - (1 : Int))))))))
        (OpJs.cons (OpJ.loadR (e := 3) (sz := 1) (es := r4.map (eI .i64)) tyS3 (get_map (eI .i64) (idx_some hx7).2) (o := 0) (v := (.int .i64 x7)) (At.here _) (by rfl) (by rfl) (by rfl) (ltN hN rfl) (Opd.tmp 33 (.ptr 1022 ((w64 ((w64 (Int.tdiv (w64 ((w64 (a1 * (a0.length : Int))) + (99 : Int))) (100 : Int))) - (1 : Int))).toNat * 1) [(w64 ((w64 (Int.tdiv (w64 ((w64 (a1 * (a0.length : Int))) + (99 : Int))) (100 : Int))) - (1 : Int))).toNat])))
        (OpJs.cons (OpJ.assign (ltN hN rfl) (Opd.tmp 34 (.d (.int .i64 x7))))
        (OpJs.cons (OpJ.assign (ltN hN rfl) (Opd.int .i64 (0)))
        (OpJs.nil))))))))))))) (by rfl) (by rfl) ?_
      refine seqQ_n ?_
      refine AWp.ghost (Mat.pat [] [(4, (.d (.int .i64 x7))), (5, (.d (.int .i64 (0 : Int))))] [] hB (by rfl) (by rfl) (by rfl)) ?_
      refine AWp.ret ?_
      obtain rfl := Option.some.inj h
      exact ⟨.inl rfl, _, _, (Mat.pat [] [(4, (.d (.int .i64 x7))), (5, (.d (.int .i64 (0 : Int))))] [] hB (by rfl) (by rfl) (by rfl)), [(.d (.int .i64 x7)), (.d (.int .i64 (0 : Int)))], (Res.tmp (by rfl) (by rfl) (Res.tmp (by rfl) (by rfl) Res.nil)), rfl, by rfl, by rfl, by rfl⟩

noncomputable def exchangepointref23_SameInts_L0 (a0 : (List Int)) (a1 : (List Int)) (s2 : Int) : Option (((Unit) ⊕ (Unit)) ⊕ (Int)) :=
  (if (decide (s2 < (a0.length : Int))) = true then
  (idx a0 s2).bind fun x14 =>
  (idx a1 s2).bind fun x15 =>
  (if (x14 != x15) = true then
  some (.inl (.inl ()))
  else
  some (.inr (w64 (s2 + (1 : Int)))))
  else
  some (.inl (.inr ())))
noncomputable def exchangepointref23_SameInts (a0 : (List Int)) (a1 : (List Int)) : Option (Bool) :=
  (if ((a0.length : Int) != (a1.length : Int)) = true then
  some false
  else
  (loop (exchangepointref23_SameInts_L0 a0 a1) (0 : Int)).bind fun x17 => match x17 with
  | (.inl _) =>
    some false
  | (.inr _) =>
    some true)
set_option maxHeartbeats 4000000 in
set_option maxRecDepth 100000 in
theorem exchangepointref23_SameInts_ac (a0 : (List Int)) (a1 : (List Int)) (r : Bool) (h : exchangepointref23_SameInts a0 a1 = some r) : AC Try.prog 24 [(.d (.list 1 (a0.map (eI .i64)))), (.d (.list 1 (a1.map (eI .i64))))] [] (.d (.bool r)) [] := by
  refine AC.of_code2 Try.func24 rfl rfl (Nat.le_of_ble_eq_true (by rfl)) fun B hB hN => ?_
  delta exchangepointref23_SameInts at h
  refine AWp.seq ?_
  refine AWp.region (OpJs.cons (OpJ.assign (ltN hN rfl) (Opd.bool false))
  (OpJs.nil)) (by rfl) (by rfl) ?_
  refine seqQ_n ?_
  refine AWp.ghost (Mat.pat [] [(0, (.d (.list 1 (a0.map (eI .i64))))), (1, (.d (.list 1 (a1.map (eI .i64)))))] [] hB (by rfl) (by rfl) (by rfl)) ?_
  refine AWp.seq ?_
  refine AWp.seq ?_
  refine AWp.region (OpJs.cons (OpJ.move (ltN hN rfl) (Opd.tmp 0 (.d (.list 1 (a0.map (eI .i64))))))
  (OpJs.cons (OpJ.val (v' := (.d (.int .i64 (a0.length : Int)))) (by simp) (OpJ.lenD Try.underlying22 (ltN hN rfl) (Opd.tmp 6 (.d (.list 1 (a0.map (eI .i64)))))))
  (OpJs.cons (OpJ.move (ltN hN rfl) (Opd.tmp 1 (.d (.list 1 (a1.map (eI .i64))))))
  (OpJs.cons (OpJ.val (v' := (.d (.int .i64 (a1.length : Int)))) (by simp) (OpJ.lenD Try.underlying22 (ltN hN rfl) (Opd.tmp 8 (.d (.list 1 (a1.map (eI .i64)))))))
  (OpJs.cons (OpJ.neqI (ltN hN rfl) (Opd.tmp 7 (.d (.int .i64 (a0.length : Int)))) (Opd.tmp 9 (.d (.int .i64 (a1.length : Int)))))
  (OpJs.nil)))))) (by rfl) (by rfl) ?_
  refine seqQ_n ?_
  refine AWp.ghost (Mat.pat [] [(0, (.d (.list 1 (a0.map (eI .i64))))), (1, (.d (.list 1 (a1.map (eI .i64))))), (10, (.d (.bool ((a0.length : Int) != (a1.length : Int)))))] [] hB (by rfl) (by rfl) (by rfl)) ?_
  refine AWp.cond (b := ((a0.length : Int) != (a1.length : Int))) (by rfl) (fun hg1 => ?_) (fun hg1 => ?_)
  · replace h := ite_t hg1 h
    refine AWp.seq ?_
    refine AWp.region (OpJs.cons (OpJ.assign (ltN hN rfl) (Opd.bool false))
      (OpJs.nil)) (by rfl) (by rfl) ?_
    refine seqQ_n ?_
    refine AWp.ghost (Mat.pat [] [(4, (.d (.bool false)))] [] hB (by rfl) (by rfl) (by rfl)) ?_
    refine AWp.ret ?_
    refine seqQ_r ?_
    obtain rfl := Option.some.inj h
    exact ⟨.inl rfl, _, _, (Mat.pat [] [(4, (.d (.bool false)))] [] hB (by rfl) (by rfl) (by rfl)), [(.d (.bool false))], (Res.tmp (by rfl) (by rfl) Res.nil), rfl, by rfl, by rfl, by rfl⟩
  · replace h := ite_f hg1 h
    refine AWp.skip ?_
    refine seqQ_n ?_
    refine AWp.seq ?_
    refine AWp.seq ?_
    refine AWp.region (OpJs.cons (OpJ.move (ltN hN rfl) (Opd.tmp 0 (.d (.list 1 (a0.map (eI .i64))))))
      (OpJs.cons (OpJ.val (v' := (.d (.int .i64 (a0.length : Int)))) (by simp) (OpJ.lenD Try.underlying22 (ltN hN rfl) (Opd.tmp 11 (.d (.list 1 (a0.map (eI .i64)))))))
      (OpJs.cons (OpJ.move (ltN hN rfl) (Opd.int .i64 (0)))
      (OpJs.nil)))) (by rfl) (by rfl) ?_
    refine seqQ_n ?_
    refine AWp.ghost (Mat.pat [] [(0, (.d (.list 1 (a0.map (eI .i64))))), (1, (.d (.list 1 (a1.map (eI .i64))))), (12, (.d (.int .i64 (a0.length : Int)))), (13, (.d (.int .i64 (0 : Int))))] [] hB (by rfl) (by rfl) (by rfl)) ?_
    refine AWp.block ?_
    obtain ⟨x17, hx18, h⟩ := bindS h
    refine AWp.ghost (Mat.pat [] ((fun s2 : Int => ([(0, (.d (.list 1 (a0.map (eI .i64))))), (1, (.d (.list 1 (a1.map (eI .i64))))), (12, (.d (.int .i64 (a0.length : Int)))), (13, (.d (.int .i64 s2)))] : EL)) (0 : Int)) ((fun s2 : Int => ([] : OL)) (0 : Int)) hB (by rfl) (by rfl) (by rfl)) ?_
    refine AWp.loopS (exchangepointref23_SameInts_L0 a0 a1) (fun s2 : Int => ([(0, (.d (.list 1 (a0.map (eI .i64))))), (1, (.d (.list 1 (a1.map (eI .i64))))), (12, (.d (.int .i64 (a0.length : Int)))), (13, (.d (.int .i64 s2)))] : EL)) (fun s2 : Int => ([] : OL)) (fun (x : (Unit) ⊕ (Unit)) e E' O' => match x with | (.inl _p) => e = .ret ∧ Mat B E' O' ([(4, (.d (.bool false)))] : EL) ([] : OL) | (.inr _p) => e = .exit 0 ∧ Mat B E' O' ([] : EL) ([] : OL)) hx18 (fun s2 y h => ?_) (fun e E' O' hR => ?_)
    · unfold exchangepointref23_SameInts_L0 at h
      show AWp _ _ _ _ ([(0, (.d (.list 1 (a0.map (eI .i64))))), (1, (.d (.list 1 (a1.map (eI .i64))))), (12, (.d (.int .i64 (a0.length : Int)))), (13, (.d (.int .i64 s2)))] : EL) ([] : OL)
      refine AWp.seq ?_
      refine AWp.region (OpJs.cons (OpJ.lss (ltN hN rfl) (Opd.tmp 13 (.d (.int .i64 s2))) (Opd.tmp 12 (.d (.int .i64 (a0.length : Int)))))
        (OpJs.nil)) (by rfl) (by rfl) ?_
      refine seqQ_n ?_
      refine AWp.ghost (Mat.pat [] [(0, (.d (.list 1 (a0.map (eI .i64))))), (1, (.d (.list 1 (a1.map (eI .i64))))), (12, (.d (.int .i64 (a0.length : Int)))), (13, (.d (.int .i64 s2))), (14, (.d (.bool (decide (s2 < (a0.length : Int))))))] [] hB (by rfl) (by rfl) (by rfl)) ?_
      refine AWp.seq ?_
      refine AWp.cond (b := (decide (s2 < (a0.length : Int)))) (by rfl) (fun hg13 => ?_) (fun hg13 => ?_)
      · replace h := ite_t hg13 h
        refine AWp.skip ?_
        refine seqQ_n ?_
        refine AWp.seq ?_
        refine AWp.block ?_
        refine AWp.seq ?_
        refine AWp.region (OpJs.cons (OpJ.move (ltN hN rfl) (Opd.tmp 13 (.d (.int .i64 s2))))
          (OpJs.cons (OpJ.assign (ltN hN rfl) (Opd.tmp 15 (.d (.int .i64 s2))))
          (OpJs.nil))) (by rfl) (by rfl) ?_
        refine seqQ_n ?_
        refine AWp.ghost (Mat.pat [] [(0, (.d (.list 1 (a0.map (eI .i64))))), (1, (.d (.list 1 (a1.map (eI .i64))))), (5, (.d (.int .i64 s2))), (12, (.d (.int .i64 (a0.length : Int)))), (13, (.d (.int .i64 s2)))] [] hB (by rfl) (by rfl) (by rfl)) ?_
        refine AWp.seq ?_
        obtain ⟨x14, hx14, h⟩ := bindS h
        obtain ⟨x15, hx15, h⟩ := bindS h
        refine AWp.draws (by kernel_rfl) (OpJs.cons (OpJ.move (ltN hN rfl) (Opd.tmp 0 (.d (.list 1 (a0.map (eI .i64))))))
          (OpJs.cons (OpJ.move (ltN hN rfl) (Opd.tmp 5 (.d (.int .i64 s2))))
          (OpJs.cons (OpJ.indexD (el := (.int .i64 x14)) Try.underlying22 tyS3 (idx_some hx14).1 (get_map (eI .i64) (idx_some hx14).2) (ltN hN rfl) (Opd.tmp 16 (.d (.list 1 (a0.map (eI .i64))))) (Opd.tmp 17 (.d (.int .i64 s2))))
          (OpJs.cons (OpJ.loadD tyS3 (by rfl) (by rfl) (ltN hN rfl) (Opd.tmp 18 (.dptr (.int .i64 x14))))
          (OpJs.cons (OpJ.move (ltN hN rfl) (Opd.tmp 1 (.d (.list 1 (a1.map (eI .i64))))))
          (OpJs.cons (OpJ.move (ltN hN rfl) (Opd.tmp 5 (.d (.int .i64 s2))))
          (OpJs.cons (OpJ.indexD (el := (.int .i64 x15)) Try.underlying22 tyS3 (idx_some hx15).1 (get_map (eI .i64) (idx_some hx15).2) (ltN hN rfl) (Opd.tmp 20 (.d (.list 1 (a1.map (eI .i64))))) (Opd.tmp 21 (.d (.int .i64 s2))))
          (OpJs.cons (OpJ.loadD tyS3 (by rfl) (by rfl) (ltN hN rfl) (Opd.tmp 22 (.dptr (.int .i64 x15))))
          (OpJs.cons (OpJ.neqI (ltN hN rfl) (Opd.tmp 19 (.d (.int .i64 x14))) (Opd.tmp 23 (.d (.int .i64 x15))))
          (OpJs.nil)))))))))) (by kernel_rfl) (by rfl) (by rfl) ?_
        refine seqQ_n ?_
        refine AWp.ghost (Mat.pat [] [(0, (.d (.list 1 (a0.map (eI .i64))))), (1, (.d (.list 1 (a1.map (eI .i64))))), (12, (.d (.int .i64 (a0.length : Int)))), (13, (.d (.int .i64 s2))), (24, (.d (.bool (x14 != x15))))] [] hB (by rfl) (by rfl) (by rfl)) ?_
        refine AWp.cond (b := (x14 != x15)) (by rfl) (fun hg16 => ?_) (fun hg16 => ?_)
        · replace h := ite_t hg16 h
          refine AWp.seq ?_
          refine AWp.region (OpJs.cons (OpJ.assign (ltN hN rfl) (Opd.bool false))
            (OpJs.nil)) (by rfl) (by rfl) ?_
          refine seqQ_n ?_
          refine AWp.ghost (Mat.pat [] [(4, (.d (.bool false)))] [] hB (by rfl) (by rfl) (by rfl)) ?_
          refine AWp.ret ?_
          refine blkQ_r ?_
          refine seqQ_r ?_
          obtain rfl := Option.some.inj h
          exact ⟨(fun hc => by cases hc), rfl, (Mat.pat [] ((fun _ : Unit => ([(4, (.d (.bool false)))] : EL)) ()) ((fun _ : Unit => ([] : OL)) ()) hB (by rfl) (by rfl) (by rfl))⟩
        · replace h := ite_f hg16 h
          refine AWp.skip ?_
          refine blkQ_n ?_
          refine seqQ_n ?_
          refine AWp.region (OpJs.cons (OpJ.add (ltN hN rfl) (Opd.tmp 13 (.d (.int .i64 s2))) (Opd.int .i64 (1)))
            (OpJs.cons (OpJ.move (ltN hN rfl) (Opd.tmp 25 (.d (.int .i64 (w64 (s2 + (1 : Int)))))))
            (OpJs.nil))) (by rfl) (by rfl) ?_
          obtain rfl := Option.some.inj h
          exact ⟨rfl, (Mat.trans (Mat.pat [] [(0, (.d (.list 1 (a0.map (eI .i64))))), (1, (.d (.list 1 (a1.map (eI .i64))))), (12, (.d (.int .i64 (a0.length : Int)))), (13, (.d (.int .i64 (w64 (s2 + (1 : Int))))))] [] hB (by rfl) (by rfl) (by rfl)) (Mat.pat [] ((fun s2 : Int => ([(0, (.d (.list 1 (a0.map (eI .i64))))), (1, (.d (.list 1 (a1.map (eI .i64))))), (12, (.d (.int .i64 (a0.length : Int)))), (13, (.d (.int .i64 s2)))] : EL)) (w64 (s2 + (1 : Int)))) ((fun s2 : Int => ([] : OL)) (w64 (s2 + (1 : Int)))) hB (by rfl) (by rfl) (by rfl)))⟩
      · replace h := ite_f hg13 h
        refine AWp.exit ?_
        refine seqQ_e ?_
        obtain rfl := Option.some.inj h
        exact ⟨(fun hc => by cases hc), rfl, (Mat.pat [] ((fun _ : Unit => ([] : EL)) ()) ((fun _ : Unit => ([] : OL)) ()) hB (by rfl) (by rfl) (by rfl))⟩
    · rcases x17 with _ | _
      · obtain ⟨rfl, hmat⟩ := hR
        refine blkQ_r ?_
        refine seqQ_r ?_
        obtain rfl := Option.some.inj h
        exact ⟨.inl rfl, _, _, (Mat.trans hmat (Mat.pat [] [(4, (.d (.bool false)))] [] hB (by rfl) (by rfl) (by rfl))), [(.d (.bool false))], (Res.tmp (by rfl) (by rfl) Res.nil), rfl, by rfl, by rfl, by rfl⟩
      · obtain ⟨rfl, hmat⟩ := hR
        refine blkQ_hit ?_
        refine seqQ_n ?_
        refine AWp.ghost hmat ?_
        refine AWp.seq ?_
        refine AWp.region (OpJs.cons (OpJ.assign (ltN hN rfl) (Opd.bool true))
          (OpJs.nil)) (by rfl) (by rfl) ?_
        refine seqQ_n ?_
        refine AWp.ghost (Mat.pat [] [(4, (.d (.bool true)))] [] hB (by rfl) (by rfl) (by rfl)) ?_
        refine AWp.ret ?_
        obtain rfl := Option.some.inj h
        exact ⟨.inl rfl, _, _, (Mat.pat [] [(4, (.d (.bool true)))] [] hB (by rfl) (by rfl) (by rfl)), [(.d (.bool true))], (Res.tmp (by rfl) (by rfl) Res.nil), rfl, by rfl, by rfl, by rfl⟩


end Go.Proofs.Ytgbfjigliajbkaa
