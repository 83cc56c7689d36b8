/- Printed by gen.py: the Go functions as plain functions, and that the code does what they say. -/
import Derived.Test.YtgbfjigliajbkaaChecked
import Derived.Test.YtgbfjigliajbkaaVcY
import Derived.KernelRfl
import Derived.Test.YtgbfjigliajbkaaExt
namespace Go.Proofs.Ytgbfjigliajbkaa
open Go Go.Vc
def e_LeIi64 (x : (List Int)) : D := (.list 1 (x.map (eI .i64)))

structure exchangepointmill_Deck where
  fL : (List Int)
  fAt : Int
def e_exchangepointmill_Deck (x : exchangepointmill_Deck) : D := .st [(.list 1 (x.fL.map (eI .i64))), (.int .i64 x.fAt)]

structure api_Series where
  fPort : Int
  fSeconds : Int
  fIn : (List Int)
  fOut : (List Int)
def e_api_Series (x : api_Series) : D := .st [(.int .i64 x.fPort), (.int .i64 x.fSeconds), (.list 1 (x.fIn.map (eI .i64))), (.list 1 (x.fOut.map (eI .i64)))]

theorem tyE3 : TyE Try.prog 3 1 8 := ⟨by kernel_rfl, by decide⟩

theorem fnOk30 : FnOk Try.prog 30 := ⟨by kernel_rfl⟩

theorem fnOk31 : FnOk Try.prog 31 := ⟨by kernel_rfl⟩

theorem tyS3 : TyS Try.prog 3 1 false := ⟨by kernel_rfl, by kernel_rfl⟩

theorem fnOk8 : FnOk Try.prog 8 := ⟨by kernel_rfl⟩

theorem tyZD3 : TyZ Try.prog 3 (.d (.int .i64 (0 : Int))) := ⟨by kernel_rfl, fun w => by kernel_rfl⟩

theorem fnOk35 : FnOk Try.prog 35 := ⟨by kernel_rfl⟩

theorem fnOk20 : FnOk Try.prog 20 := ⟨by kernel_rfl⟩

theorem fnOk9 : FnOk Try.prog 9 := ⟨by kernel_rfl⟩

theorem fnOk10 : FnOk Try.prog 10 := ⟨by kernel_rfl⟩

theorem tyZS54 : TyZ Try.prog 54 (.st [.nils, (.d (.int .i64 (0 : Int)))]) := ⟨by kernel_rfl, fun w => by kernel_rfl⟩

theorem fnOk11 : FnOk Try.prog 11 := ⟨by kernel_rfl⟩

theorem tyZ30 : TyZ Try.prog 30 (.st [(.d (.int .i64 (0 : Int))), (.d (.int .i64 (0 : Int))), .nils, .nils]) := ⟨by kernel_rfl, fun w => by kernel_rfl⟩

theorem tyS22 : TyS Try.prog 22 1 false := ⟨by kernel_rfl, by kernel_rfl⟩

theorem fnOk32 : FnOk Try.prog 32 := ⟨by kernel_rfl⟩

theorem tyZS30 : TyZ Try.prog 30 (.st [(.d (.int .i64 (0 : Int))), (.d (.int .i64 (0 : Int))), .nils, .nils]) := ⟨by kernel_rfl, fun w => by kernel_rfl⟩

theorem tyS30 : TyS Try.prog 30 4 true := ⟨by kernel_rfl, by kernel_rfl⟩

theorem fnOk12 : FnOk Try.prog 12 := ⟨by kernel_rfl⟩

theorem fnOk13 : FnOk Try.prog 13 := ⟨by kernel_rfl⟩

theorem fnOk36 : FnOk Try.prog 36 := ⟨by kernel_rfl⟩

theorem fnOk16 : FnOk Try.prog 16 := ⟨by kernel_rfl⟩

theorem fnOk33 : FnOk Try.prog 33 := ⟨by kernel_rfl⟩

theorem fnOk14 : FnOk Try.prog 14 := ⟨by kernel_rfl⟩

theorem fnOk34 : FnOk Try.prog 34 := ⟨by kernel_rfl⟩

theorem fnOk15 : FnOk Try.prog 15 := ⟨by kernel_rfl⟩

theorem tyZD30 : TyZ Try.prog 30 (.d (.st [(.int .i64 (0 : Int)), (.int .i64 (0 : Int)), (.list 1 (([] : List Int).map (eI .i64))), (.list 1 (([] : List Int).map (eI .i64)))])) := ⟨by kernel_rfl, fun w => by kernel_rfl⟩

theorem fnOk17 : FnOk Try.prog 17 := ⟨by kernel_rfl⟩

theorem tyZD22 : TyZ Try.prog 22 (.d (.list 1 (([] : List Int).map (eI .i64)))) := ⟨by kernel_rfl, fun w => by kernel_rfl⟩

theorem fnOk22 : FnOk Try.prog 22 := ⟨by kernel_rfl⟩

theorem fnOk18 : FnOk Try.prog 18 := ⟨by kernel_rfl⟩

theorem fnOk21 : FnOk Try.prog 21 := ⟨by kernel_rfl⟩

theorem fnOk23 : FnOk Try.prog 23 := ⟨by kernel_rfl⟩

theorem fnOk25 : FnOk Try.prog 25 := ⟨by kernel_rfl⟩

theorem fnOk19 : FnOk Try.prog 19 := ⟨by kernel_rfl⟩

theorem fnOk24 : FnOk Try.prog 24 := ⟨by kernel_rfl⟩

theorem fnOk26 : FnOk Try.prog 26 := ⟨by kernel_rfl⟩

theorem fnOk27 : FnOk Try.prog 27 := ⟨by kernel_rfl⟩

theorem fnOk28 : FnOk Try.prog 28 := ⟨by kernel_rfl⟩

theorem fnOk29 : FnOk Try.prog 29 := ⟨by kernel_rfl⟩

noncomputable def clone_List_2 (a0 : (List Int)) : Option ((List Int)) :=
  chk (decide (a0.length ≤ LIM)) <|
  some a0
set_option maxHeartbeats 4000000 in
set_option maxRecDepth 100000 in
theorem clone_List_2_ac (a0 : (List Int)) (r : (List Int)) (h : clone_List_2 a0 = some r) : AC Try.prog 30 [(.d (.list 1 (a0.map (eI .i64))))] [] (.sref 900000 1 0 r.length) [(900000, some (.row 3 1 (r.map (eI .i64))))] := by
  refine AC.of_code2 Try.func30 rfl rfl (Nat.le_of_ble_eq_true (by rfl)) fun B hB hN => ?_
  delta clone_List_2 at h
  refine AWp.seq ?_
  refine AWp.region (oc (OpJ.assign (ltN hN rfl) Opd.nils)
  (OpJs.nil)) (by rfl) (by rfl) ?_
  refine seqQ_n ?_
  refine AWp.ghost (mp [] [(0, (.d (.list 1 (a0.map (eI .i64)))))] [] hB) ?_
  refine AWp.seq ?_
  obtain ⟨hc1, h⟩ := chk_some h
  refine AWp.region (oc (mv hN (ot 0 (.d (.list 1 (a0.map (eI .i64))))))
  (oc (OpJ.appendN hB Try.underlying22 tyE3 (nm := 1004) (by decide) (ys := a0.map (eI .i64)) (len := a0.length) (by simp) (map_sz (f := (eI .i64)) (fun _ => rfl)) (by rw [List.length_map]; exact lim_mulN hc1 (by decide)) (by rw [List.length_map]; exact lim_leN hc1) (ltN hN rfl) Opd.nils (ot 3 (.d (.list 1 (a0.map (eI .i64))))))
  (oc (OpJ.assign (ltN hN rfl) (ot 4 (.sref 1004 1 0 a0.length)))
  (OpJs.nil)))) (by rfl) (by rfl) ?_
  refine seqQ_n ?_
  refine AWp.ghost (mp [] [(2, (.sref 1004 1 0 a0.length))] [(1004, some (.row 3 1 (a0.map (eI .i64))))] hB) ?_
  refine AWp.ret ?_
  obtain rfl := Option.some.inj h
  exact ⟨.inl rfl, _, _, (mp [(900000, 1004)] [(2, (.sref 900000 1 0 a0.length))] [(900000, some (.row 3 1 (a0.map (eI .i64))))] hB), [(.sref 900000 1 0 a0.length)], (Res.tmp (by rfl) (by rfl) Res.nil), rfl, by rfl, by rfl, by rfl⟩

noncomputable def percentile_Percentile (a0 : (List Int)) (a1 : Int) : Option (Int × Int) :=
  (if (((decide (a1 < (1 : Int))) || (decide ((100 : Int) < a1))) || (decide ((9000 : Int) < (a0.length : Int)))) = true then
  some ((0 : Int), (1 : Int))
  else
  (if ((a0.length : Int) == (0 : Int)) = true then
  some ((0 : Int), (39 : Int))
  else
  (clone_List_2 a0).bind fun r3 =>
  (ext31_slices_Sort r3).bind fun r4 =>
  chk (decide (r4.length = r3.length)) <|
  (idx r4 (w64 ((w64 (Int.tdiv (w64 ((w64 (a1 * (a0.length : Int))) + (99 : Int))) (100 : Int))) - (1 : Int)))).bind fun x6 =>
  (idx r4 (w64 ((w64 (Int.tdiv (w64 ((w64 (a1 * (a0.length : Int))) + (99 : Int))) (100 : Int))) - (1 : Int)))).bind fun x7 =>
  some (x7, (0 : Int))))
set_option maxHeartbeats 4000000 in
set_option maxRecDepth 100000 in
theorem percentile_Percentile_ac (a0 : (List Int)) (a1 : Int) (r : Int × Int) (h : percentile_Percentile a0 a1 = some r) : AC Try.prog 8 [(.d (.list 1 (a0.map (eI .i64)))), (.d (.int .i64 a1))] [] (.tup [(.d (.int .i64 r.1)), (.d (.int .i64 r.2))]) [] := by
  refine AC.of_code2 Try.func8 rfl rfl (Nat.le_of_ble_eq_true (by rfl)) fun B hB hN => ?_
  delta percentile_Percentile at h
  refine AWp.seq ?_
  refine AWp.region (oc (OpJ.assign (ltN hN rfl) (Opd.int .i64 (0)))
  (oc (OpJ.assign (ltN hN rfl) (Opd.int .i64 (0)))
  (OpJs.nil))) (by rfl) (by rfl) ?_
  refine seqQ_n ?_
  refine AWp.ghost (mp [] [(0, (.d (.list 1 (a0.map (eI .i64))))), (1, (i6 a1))] [] hB) ?_
  refine AWp.seq ?_
  refine AWp.seq ?_
  refine AWp.region (oc (mv hN (ot 1 (i6 a1)))
  (oc (OpJ.lss (ltN hN rfl) (ot 7 (i6 a1)) (Opd.int .i64 (1)))
  (oc (mv hN (ot 8 (bo (decide (a1 < (1 : Int))))))
  (oc (op hN (i6 a1) (mv hN (ot 1 (i6 a1))) (OptL.keep rfl OptL.nil) (GuardV.plain _))
  (oc (op hN (bo (decide ((100 : Int) < a1))) (OpJ.gtr (ltN hN rfl) (ot 10 (i6 a1)) (Opd.int .i64 (100))) (OptL.opt OptL.nil) (GuardV.plain _))
  (oc (OpJ.pickOr rfl (ltN hN rfl) (ot 9 (bo (decide (a1 < (1 : Int))))) (ot 11 (.opt ((decide (a1 < (1 : Int))) == false) (bo (decide ((100 : Int) < a1))))))
  (oc (mv hN (ot 12 (bo ((decide (a1 < (1 : Int))) || (decide ((100 : Int) < a1))))))
  (oc (op hN (.d (.list 1 (a0.map (eI .i64)))) (mv hN (ot 0 (.d (.list 1 (a0.map (eI .i64)))))) (OptL.keep rfl OptL.nil) (GuardV.plain _))
  (oc (op hN (i6 (a0.length : Int)) (OpJ.val (v' := (i6 (a0.length : Int))) (by simp) (OpJ.lenD Try.underlying22 (ltN hN rfl) (ot 14 (.d (.list 1 (a0.map (eI .i64))))))) (OptL.opt OptL.nil) (GuardV.plain _))
  (oc (op hN (bo (decide ((9000 : Int) < (a0.length : Int)))) (OpJ.gtr (ltN hN rfl) (ot 15 (i6 (a0.length : Int))) (Opd.int .i64 (9000))) (OptL.opt OptL.nil) (GuardV.plain _))
  (oc (OpJ.pickOr rfl (ltN hN rfl) (ot 13 (bo ((decide (a1 < (1 : Int))) || (decide ((100 : Int) < a1))))) (ot 16 (.opt (((decide (a1 < (1 : Int))) || (decide ((100 : Int) < a1))) == false) (bo (decide ((9000 : Int) < (a0.length : Int)))))))
  (OpJs.nil)))))))))))) (by rfl) (by rfl) ?_
  refine seqQ_n ?_
  refine AWp.ghost (mp [] [(0, (.d (.list 1 (a0.map (eI .i64))))), (1, (i6 a1)), (17, (bo (((decide (a1 < (1 : Int))) || (decide ((100 : Int) < a1))) || (decide ((9000 : Int) < (a0.length : Int))))))] [] hB) ?_
  refine AWp.cond (b := (((decide (a1 < (1 : Int))) || (decide ((100 : Int) < a1))) || (decide ((9000 : Int) < (a0.length : Int))))) (by rfl) (fun hg1 => ?_) (fun hg1 => ?_)
  · replace h := ite_t hg1 h
    refine AWp.seq ?_
    refine AWp.region (oc (OpJ.assign (ltN hN rfl) (Opd.int .i64 (0)))
      (oc (OpJ.assign (ltN hN rfl) (Opd.int .i64 (1)))
      (OpJs.nil))) (by rfl) (by rfl) ?_
    refine seqQ_n ?_
    refine AWp.ghost (mp [] [(4, (i6 (0 : Int))), (5, (i6 (1 : Int)))] [] hB) ?_
    refine AWp.ret ?_
    refine seqQ_r ?_
    obtain rfl := Option.some.inj h
    exact ⟨.inl rfl, _, _, (mp [] [(4, (i6 (0 : Int))), (5, (i6 (1 : Int)))] [] hB), [(i6 (0 : Int)), (i6 (1 : Int))], (Res.tmp (by rfl) (by rfl) (Res.tmp (by rfl) (by rfl) Res.nil)), rfl, by rfl, by rfl, by rfl⟩
  · replace h := ite_f hg1 h
    refine AWp.skip ?_
    refine seqQ_n ?_
    refine AWp.seq ?_
    refine AWp.seq ?_
    refine AWp.region (oc (mv hN (ot 0 (.d (.list 1 (a0.map (eI .i64))))))
      (oc (OpJ.val (v' := (i6 (a0.length : Int))) (by simp) (OpJ.lenD Try.underlying22 (ltN hN rfl) (ot 18 (.d (.list 1 (a0.map (eI .i64)))))))
      (oc (OpJ.eqlI (ltN hN rfl) (ot 19 (i6 (a0.length : Int))) (Opd.int .i64 (0)))
      (OpJs.nil)))) (by rfl) (by rfl) ?_
    refine seqQ_n ?_
    refine AWp.ghost (mp [] [(0, (.d (.list 1 (a0.map (eI .i64))))), (1, (i6 a1)), (20, (bo ((a0.length : Int) == (0 : Int))))] [] hB) ?_
    refine AWp.cond (b := ((a0.length : Int) == (0 : Int))) (by rfl) (fun hg2 => ?_) (fun hg2 => ?_)
    · replace h := ite_t hg2 h
      refine AWp.seq ?_
      refine AWp.region (oc (OpJ.assign (ltN hN rfl) (Opd.int .i64 (0)))
        (oc (OpJ.assign (ltN hN rfl) (Opd.int .i64 (39)))
        (OpJs.nil))) (by rfl) (by rfl) ?_
      refine seqQ_n ?_
      refine AWp.ghost (mp [] [(4, (i6 (0 : Int))), (5, (i6 (39 : Int)))] [] hB) ?_
      refine AWp.ret ?_
      refine seqQ_r ?_
      obtain rfl := Option.some.inj h
      exact ⟨.inl rfl, _, _, (mp [] [(4, (i6 (0 : Int))), (5, (i6 (39 : Int)))] [] hB), [(i6 (0 : Int)), (i6 (39 : Int))], (Res.tmp (by rfl) (by rfl) (Res.tmp (by rfl) (by rfl) Res.nil)), rfl, by rfl, by rfl, by rfl⟩
    · replace h := ite_f hg2 h
      refine AWp.skip ?_
      refine seqQ_n ?_
      refine AWp.seq ?_
      obtain ⟨r3, hr3, h⟩ := bindS h
      refine AWp.region (oc (mv hN (ot 0 (.d (.list 1 (a0.map (eI .i64))))))
        (oc (OpJ.callFn hB fnOk30 (clone_List_2_ac a0 r3 hr3) [(900000, 100000)] (by kernel_rfl) (ltN hN rfl) (by kernel_rfl) (OpdL.cons (ot 21 (.d (.list 1 (a0.map (eI .i64))))) OpdL.nil))
        (oc (OpJ.assign (ltN hN rfl) (ot 22 (.sref 100000 1 0 r3.length)))
        (OpJs.nil)))) (by rfl) (by rfl) ?_
      refine seqQ_n ?_
      refine AWp.ghost (mp [] [(0, (.d (.list 1 (a0.map (eI .i64))))), (1, (i6 a1)), (6, (.sref 100000 1 0 r3.length))] [(100000, some (.row 3 1 (r3.map (eI .i64))))] hB) ?_
      refine AWp.seq ?_
      obtain ⟨r4, hr4, h⟩ := bindS h
      obtain ⟨hc5, h⟩ := chk_some h
      have hc5_o := of_decide_eq_true hc5
      refine AWp.region (oc (mv hN (ot 6 (.sref 100000 1 0 r3.length)))
        (oc (OpJ.callFn hB fnOk31 (ext31_slices_Sort_ac r3 r4 hr4) [(0, 100000)] (by kernel_rfl) (ltN hN rfl) (by kernel_rfl) (OpdL.cons (ot 23 (.sref 100000 1 0 r3.length)) OpdL.nil))
        (OpJs.nil))) (by rfl) (by rfl) ?_
      refine seqQ_n ?_
      refine AWp.ghost (mp [] [(0, (.d (.list 1 (a0.map (eI .i64))))), (1, (i6 a1)), (6, (.sref 100000 1 0 r3.length))] [(100000, some (.row 3 1 (r4.map (eI .i64))))] hB) ?_
      refine AWp.seq ?_
      obtain ⟨x6, hx6, h⟩ := bindS h
      obtain ⟨x7, hx7, h⟩ := bindS h
      refine AWp.region (oc (mv hN (ot 6 (.sref 100000 1 0 r3.length)))
        (oc (mv hN (ot 1 (i6 a1)))
        (oc (mv hN (ot 0 (.d (.list 1 (a0.map (eI .i64))))))
        (oc (OpJ.val (v' := (i6 (a0.length : Int))) (by simp) (OpJ.lenD Try.underlying22 (ltN hN rfl) (ot 27 (.d (.list 1 (a0.map (eI .i64)))))))
        (oc (OpJ.mul (ltN hN rfl) (ot 26 (i6 a1)) (ot 28 (i6 (a0.length : Int))))
        (oc (OpJ.add (ltN hN rfl) (ot 29 (i6 (w64 (a1 * (a0.length : Int))))) (Opd.int .i64 (99)))
        (oc (OpJ.quo (ltN hN rfl) (ot 30 (i6 (w64 ((w64 (a1 * (a0.length : Int))) + (99 : Int))))) (Opd.int .i64 (100)) (by decide))
        (oc (OpJ.sub (ltN hN rfl) (ot 31 (i6 (w64 (Int.tdiv (w64 ((w64 (a1 * (a0.length : Int))) + (99 : Int))) (100 : Int))))) (Opd.int .i64 (1)))
        (oc (OpJ.val (v' := (.ptr 100000 ((w64 ((w64 (Int.tdiv (w64 ((w64 (a1 * (a0.length : Int))) + (99 : Int))) (100 : Int))) - (1 : Int))).toNat * 1) [(w64 ((w64 (Int.tdiv (w64 ((w64 (a1 * (a0.length : Int))) + (99 : Int))) (100 : Int))) - (1 : Int))).toNat])) (by simp) (OpJ.indexS Try.underlying22 tyS3 (obj := (.row 3 1 (r4.map (eI .i64)))) (idx_some hx6).1 (by have := idx_lt hx6; first | (simpa using this) | ((try simp only [List.length_map] at this); (try simp only [List.length_map]); omega)) (ltN hN rfl) (ot 25 (.sref 100000 1 0 r3.length)) (ot 32 (i6 (w64 ((w64 (Int.tdiv (w64 ((w64 (a1 * (a0.length : Int))) + (99 : Int))) (100 : Int))) - (1 : Int)))))))
        (oc (OpJ.loadR (e := 3) (sz := 1) (es := r4.map (eI .i64)) tyS3 (get_map (eI .i64) (idx_some hx7).2) (o := 0) (v := (.int .i64 x7)) (At.here _) (by rfl) (by rfl) (by rfl) (ltN hN rfl) (ot 33 (.ptr 100000 ((w64 ((w64 (Int.tdiv (w64 ((w64 (a1 * (a0.length : Int))) + (99 : Int))) (100 : Int))) - (1 : Int))).toNat * 1) [(w64 ((w64 (Int.tdiv (w64 ((w64 (a1 * (a0.length : Int))) + (99 : Int))) (100 : Int))) - (1 : Int))).toNat])))
        (oc (OpJ.assign (ltN hN rfl) (ot 34 (i6 x7)))
        (oc (OpJ.assign (ltN hN rfl) (Opd.int .i64 (0)))
        (OpJs.nil))))))))))))) (by rfl) (by rfl) ?_
      refine seqQ_n ?_
      refine AWp.ghost (mp [] [(4, (i6 x7)), (5, (i6 (0 : Int)))] [] hB) ?_
      refine AWp.ret ?_
      obtain rfl := Option.some.inj h
      exact ⟨.inl rfl, _, _, (mp [] [(4, (i6 x7)), (5, (i6 (0 : Int)))] [] hB), [(i6 x7), (i6 (0 : Int))], (Res.tmp (by rfl) (by rfl) (Res.tmp (by rfl) (by rfl) Res.nil)), rfl, by rfl, by rfl, by rfl⟩

noncomputable def percentile_length (a0 : Int) : Option (Bool) :=
  some ((decide ((1 : Int) ≤ a0)) && (decide (a0 ≤ (86400 : Int))))
set_option maxHeartbeats 4000000 in
set_option maxRecDepth 100000 in
theorem percentile_length_ac (a0 : Int) (r : Bool) (h : percentile_length a0 = some r) : AC Try.prog 35 [(.d (.int .i64 a0))] [] (.d (.bool r)) [] := by
  refine AC.of_code2 Try.func35 rfl rfl (Nat.le_of_ble_eq_true (by rfl)) fun B hB hN => ?_
  delta percentile_length at h
  refine AWp.seq ?_
  refine AWp.region (oc (OpJ.assign (ltN hN rfl) (Opd.bool false))
  (OpJs.nil)) (by rfl) (by rfl) ?_
  refine seqQ_n ?_
  refine AWp.ghost (mp [] [(0, (i6 a0))] [] hB) ?_
  refine AWp.seq ?_
  refine AWp.region (oc (mv hN (ot 0 (i6 a0)))
  (oc (OpJ.geq (ltN hN rfl) (ot 3 (i6 a0)) (Opd.int .i64 (1)))
  (oc (mv hN (ot 4 (bo (decide ((1 : Int) ≤ a0)))))
  (oc (op hN (i6 a0) (mv hN (ot 0 (i6 a0))) (OptL.keep rfl OptL.nil) (GuardV.plain _))
  (oc (op hN (bo (decide (a0 ≤ (86400 : Int)))) (OpJ.leq (ltN hN rfl) (ot 6 (i6 a0)) (Opd.int .i64 (86400))) (OptL.opt OptL.nil) (GuardV.plain _))
  (oc (OpJ.pickAnd rfl (ltN hN rfl) (ot 5 (bo (decide ((1 : Int) ≤ a0)))) (ot 7 (.opt ((decide ((1 : Int) ≤ a0)) == true) (bo (decide (a0 ≤ (86400 : Int)))))))
  (oc (OpJ.assign (ltN hN rfl) (ot 8 (bo ((decide ((1 : Int) ≤ a0)) && (decide (a0 ≤ (86400 : Int)))))))
  (OpJs.nil)))))))) (by rfl) (by rfl) ?_
  refine seqQ_n ?_
  refine AWp.ghost (mp [] [(2, (bo ((decide ((1 : Int) ≤ a0)) && (decide (a0 ≤ (86400 : Int))))))] [] hB) ?_
  refine AWp.ret ?_
  obtain rfl := Option.some.inj h
  exact ⟨.inl rfl, _, _, (mp [] [(2, (bo ((decide ((1 : Int) ≤ a0)) && (decide (a0 ≤ (86400 : Int))))))] [] hB), [(bo ((decide ((1 : Int) ≤ a0)) && (decide (a0 ≤ (86400 : Int)))))], (Res.tmp (by rfl) (by rfl) Res.nil), rfl, by rfl, by rfl, by rfl⟩

noncomputable def percentile_Rate (a0 : Int) (a1 : Int) : Option (Int × Int) :=
  jn (fun m3 : Bool =>
  (if m3 = true then
  some ((0 : Int), (1 : Int))
  else
  chk (decide ((w64 (a1 * (1000000 : Int))) ≠ 0)) <|
  some ((w64 (Int.tdiv (w64 ((w64 ((w64 ((8 : Int) * a0)) + (w64 (a1 * (1000000 : Int))))) - (1 : Int))) (w64 (a1 * (1000000 : Int))))), (0 : Int)))) (fun j4 =>
  (if ((decide (a0 < (0 : Int))) || (decide ((1125899906842624 : Int) < a0))) = true then
  j4 true
  else
  (percentile_length a1).bind fun r8 =>
  j4 (!r8)))
set_option maxHeartbeats 4000000 in
set_option maxRecDepth 100000 in
theorem percentile_Rate_ac (a0 : Int) (a1 : Int) (r : Int × Int) (h : percentile_Rate a0 a1 = some r) : AC Try.prog 20 [(.d (.int .i64 a0)), (.d (.int .i64 a1))] [] (.tup [(.d (.int .i64 r.1)), (.d (.int .i64 r.2))]) [] := by
  refine AC.of_code2 Try.func20 rfl rfl (Nat.le_of_ble_eq_true (by rfl)) fun B hB hN => ?_
  delta percentile_Rate at h
  refine AWp.seq ?_
  refine AWp.region (oc (OpJ.assign (ltN hN rfl) (Opd.int .i64 (0)))
  (oc (OpJ.assign (ltN hN rfl) (Opd.int .i64 (0)))
  (OpJs.nil))) (by rfl) (by rfl) ?_
  refine seqQ_n ?_
  refine AWp.ghost (mp [] [(0, (i6 a0)), (1, (i6 a1))] [] hB) ?_
  refine AWp.seq ?_
  refine AWp.seq ?_
  refine AWp.cut h (fun m3 : Bool => ([(0, (i6 a0)), (1, (i6 a1)), (17, (bo m3))] : EL)) (fun m3 : Bool => ([] : OL)) (fun m3 h E' O' hmat => ?_) (fun j4 hjj4 h => ?_)
  · refine seqQ_n ?_
    refine AWp.ghost hmat ?_
    refine AWp.cond (b := m3) (by rfl) (fun hg5 => ?_) (fun hg5 => ?_)
    · replace h := ite_t hg5 h
      refine AWp.seq ?_
      refine AWp.region (oc (OpJ.assign (ltN hN rfl) (Opd.int .i64 (0)))
        (oc (OpJ.assign (ltN hN rfl) (Opd.int .i64 (1)))
        (OpJs.nil))) (by rfl) (by rfl) ?_
      refine seqQ_n ?_
      refine AWp.ghost (mp [] [(4, (i6 (0 : Int))), (5, (i6 (1 : Int)))] [] hB) ?_
      refine AWp.ret ?_
      refine seqQ_r ?_
      obtain rfl := Option.some.inj h
      exact ⟨.inl rfl, _, _, (mp [] [(4, (i6 (0 : Int))), (5, (i6 (1 : Int)))] [] hB), [(i6 (0 : Int)), (i6 (1 : Int))], (Res.tmp (by rfl) (by rfl) (Res.tmp (by rfl) (by rfl) Res.nil)), rfl, by rfl, by rfl, by rfl⟩
    · replace h := ite_f hg5 h
      refine AWp.skip ?_
      refine seqQ_n ?_
      refine AWp.seq ?_
      refine AWp.region (oc (mv hN (ot 1 (i6 a1)))
        (oc (OpJ.mul (ltN hN rfl) (ot 18 (i6 a1)) (Opd.int .i64 (1000000)))
        (oc (OpJ.assign (ltN hN rfl) (ot 19 (i6 (w64 (a1 * (1000000 : Int))))))
        (OpJs.nil)))) (by rfl) (by rfl) ?_
      refine seqQ_n ?_
      refine AWp.ghost (mp [] [(0, (i6 a0)), (6, (i6 (w64 (a1 * (1000000 : Int)))))] [] hB) ?_
      refine AWp.seq ?_
      obtain ⟨hc6, h⟩ := chk_some h
      refine AWp.region (oc (mv hN (ot 0 (i6 a0)))
        (oc (OpJ.mul (ltN hN rfl) (Opd.int .i64 (8)) (ot 20 (i6 a0)))
        (oc (mv hN (ot 6 (i6 (w64 (a1 * (1000000 : Int))))))
        (oc (OpJ.add (ltN hN rfl) (ot 21 (i6 (w64 ((8 : Int) * a0)))) (ot 22 (i6 (w64 (a1 * (1000000 : Int))))))
        (oc (OpJ.sub (ltN hN rfl) (ot 23 (i6 (w64 ((w64 ((8 : Int) * a0)) + (w64 (a1 * (1000000 : Int))))))) (Opd.int .i64 (1)))
        (oc (mv hN (ot 6 (i6 (w64 (a1 * (1000000 : Int))))))
        (oc (OpJ.quo (ltN hN rfl) (ot 24 (i6 (w64 ((w64 ((w64 ((8 : Int) * a0)) + (w64 (a1 * (1000000 : Int))))) - (1 : Int))))) (ot 25 (i6 (w64 (a1 * (1000000 : Int))))) (of_decide_eq_true hc6))
        (oc (OpJ.assign (ltN hN rfl) (ot 26 (i6 (w64 (Int.tdiv (w64 ((w64 ((w64 ((8 : Int) * a0)) + (w64 (a1 * (1000000 : Int))))) - (1 : Int))) (w64 (a1 * (1000000 : Int))))))))
        (oc (OpJ.assign (ltN hN rfl) (Opd.int .i64 (0)))
        (OpJs.nil)))))))))) (by rfl) (by rfl) ?_
      refine seqQ_n ?_
      refine AWp.ghost (mp [] [(4, (i6 (w64 (Int.tdiv (w64 ((w64 ((w64 ((8 : Int) * a0)) + (w64 (a1 * (1000000 : Int))))) - (1 : Int))) (w64 (a1 * (1000000 : Int))))))), (5, (i6 (0 : Int)))] [] hB) ?_
      refine AWp.ret ?_
      obtain rfl := Option.some.inj h
      exact ⟨.inl rfl, _, _, (mp [] [(4, (i6 (w64 (Int.tdiv (w64 ((w64 ((w64 ((8 : Int) * a0)) + (w64 (a1 * (1000000 : Int))))) - (1 : Int))) (w64 (a1 * (1000000 : Int))))))), (5, (i6 (0 : Int)))] [] hB), [(i6 (w64 (Int.tdiv (w64 ((w64 ((w64 ((8 : Int) * a0)) + (w64 (a1 * (1000000 : Int))))) - (1 : Int))) (w64 (a1 * (1000000 : Int)))))), (i6 (0 : Int))], (Res.tmp (by rfl) (by rfl) (Res.tmp (by rfl) (by rfl) Res.nil)), rfl, by rfl, by rfl, by rfl⟩
  · rcases Bool.eq_false_or_eq_true ((decide (a0 < (0 : Int))) || (decide ((1125899906842624 : Int) < a0))) with hg7 | hg7
    · replace h := ite_t hg7 h
      refine AWp.region (oc (mv hN (ot 0 (i6 a0)))
        (oc (OpJ.lss (ltN hN rfl) (ot 7 (i6 a0)) (Opd.int .i64 (0)))
        (oc (mv hN (ot 8 (bo (decide (a0 < (0 : Int))))))
        (oc (op hN (i6 a0) (mv hN (ot 0 (i6 a0))) (OptL.keep rfl OptL.nil) (GuardV.plain _))
        (oc (op hN (bo (decide ((1125899906842624 : Int) < a0))) (OpJ.gtr (ltN hN rfl) (ot 10 (i6 a0)) (Opd.int .i64 (1125899906842624))) (OptL.opt OptL.nil) (GuardV.plain _))
        (oc (OpJ.pickOr rfl (ltN hN rfl) (ot 9 (bo (decide (a0 < (0 : Int))))) (ot 11 (.opt ((decide (a0 < (0 : Int))) == false) (bo (decide ((1125899906842624 : Int) < a0))))))
        (oc (OpJ.val (v' := .d (.bool true)) (by rw [hg7]) (mv hN (ot 12 (bo ((decide (a0 < (0 : Int))) || (decide ((1125899906842624 : Int) < a0)))))))
        (oc (OpJ.skipU (ltN hN rfl) (by rfl))
        (oc (OpJ.skipU (ltN hN rfl) (by rfl))
        (oc (OpJ.skipU (ltN hN rfl) (by rfl))
        (oc (OpJ.pickT (ltN hN rfl) (ot 13 (bo true)) (Opd.bool true))
        (OpJs.nil)))))))))))) (by rfl) (by rfl) ?_
      exact hjj4 _ h _ _ (Mat.trans (mp [] [(0, (i6 a0)), (1, (i6 a1)), (17, (bo true))] [] hB) (mp [] ((fun m3 : Bool => ([(0, (i6 a0)), (1, (i6 a1)), (17, (bo m3))] : EL)) true) ((fun m3 : Bool => ([] : OL)) true) hB))
    · replace h := ite_f hg7 h
      obtain ⟨r8, hr8, h⟩ := bindS h
      refine AWp.region (oc (mv hN (ot 0 (i6 a0)))
        (oc (OpJ.lss (ltN hN rfl) (ot 7 (i6 a0)) (Opd.int .i64 (0)))
        (oc (mv hN (ot 8 (bo (decide (a0 < (0 : Int))))))
        (oc (op hN (i6 a0) (mv hN (ot 0 (i6 a0))) (OptL.keep rfl OptL.nil) (GuardV.plain _))
        (oc (op hN (bo (decide ((1125899906842624 : Int) < a0))) (OpJ.gtr (ltN hN rfl) (ot 10 (i6 a0)) (Opd.int .i64 (1125899906842624))) (OptL.opt OptL.nil) (GuardV.plain _))
        (oc (OpJ.pickOr rfl (ltN hN rfl) (ot 9 (bo (decide (a0 < (0 : Int))))) (ot 11 (.opt ((decide (a0 < (0 : Int))) == false) (bo (decide ((1125899906842624 : Int) < a0))))))
        (oc (OpJ.val (v' := .d (.bool false)) (by rw [hg7]) (mv hN (ot 12 (bo ((decide (a0 < (0 : Int))) || (decide ((1125899906842624 : Int) < a0)))))))
        (oc (OpJ.guarded (by rfl) (mv hN (ot 1 (i6 a1))))
        (oc (OpJ.guarded (by rfl) (OpJ.callFn hB fnOk35 (percentile_length_ac a1 r8 hr8) [] (by kernel_rfl) (ltN hN rfl) (by kernel_rfl) (OpdL.cons (ot 14 (i6 a1)) OpdL.nil)))
        (oc (OpJ.guarded (by rfl) (OpJ.not (ltN hN rfl) (ot 15 (bo r8))))
        (oc (OpJ.pickF (ltN hN rfl) (ot 13 (bo false)) (ot 16 (bo (!r8))))
        (OpJs.nil)))))))))))) (by rfl) (by rfl) ?_
      exact hjj4 _ h _ _ (Mat.trans (mp [] [(0, (i6 a0)), (1, (i6 a1)), (17, (bo (!r8)))] [] hB) (mp [] ((fun m3 : Bool => ([(0, (i6 a0)), (1, (i6 a1)), (17, (bo m3))] : EL)) (!r8)) ((fun m3 : Bool => ([] : OL)) (!r8)) hB))

noncomputable def exchangepointlaw40_awake_L0 (s1 : Int × (List Int)) : Option ((((List Int))) ⊕ (Int × (List Int))) :=
  (if (decide ((0 : Int) < s1.1)) = true then
  chk (decide ((s1.2 ++ ([s1.1] : List Int)).length ≤ LIM)) <|
  some (.inr ((w64 (s1.1 - (1 : Int))), (s1.2 ++ ([s1.1] : List Int))))
  else
  some (.inl s1.2))
noncomputable def exchangepointlaw40_awake : Option (Bool) :=
  (loop (exchangepointlaw40_awake_L0) ((20 : Int), ([] : List Int))).bind fun p6 =>
  (percentile_Percentile p6 (95 : Int)).bind fun r11 =>
  (percentile_Rate (37500001 : Int) (300 : Int)).bind fun r12 =>
  some ((((r11.2 == (0 : Int)) && (r12.2 == (0 : Int))) && (r11.1 == (19 : Int))) && (r12.1 == (2 : Int)))
set_option maxHeartbeats 4000000 in
set_option maxRecDepth 100000 in
theorem exchangepointlaw40_awake_ac (r : Bool) (h : exchangepointlaw40_awake = some r) : AC Try.prog 9 [] [] (.d (.bool r)) [] := by
  refine AC.of_code2 Try.func9 rfl rfl (Nat.le_of_ble_eq_true (by rfl)) fun B hB hN => ?_
  delta exchangepointlaw40_awake at h
  refine AWp.seq ?_
  refine AWp.region (oc (OpJ.assign (ltN hN rfl) (Opd.bool false))
  (OpJs.nil)) (by rfl) (by rfl) ?_
  refine seqQ_n ?_
  refine AWp.ghost (mp [] [] [] hB) ?_
  refine AWp.seq ?_
  refine AWp.region (oc (OpJ.assign (ltN hN rfl) Opd.nils)
  (OpJs.nil)) (by rfl) (by rfl) ?_
  refine seqQ_n ?_
  refine AWp.ghost (mp [] [(1, .nils)] [] hB) ?_
  refine AWp.seq ?_
  refine AWp.seq ?_
  refine AWp.region (oc (OpJ.assign (ltN hN rfl) (Opd.int .i64 (20)))
  (OpJs.nil)) (by rfl) (by rfl) ?_
  refine seqQ_n ?_
  refine AWp.ghost (mp [] [(1, .nils), (2, (i6 (20 : Int)))] [] hB) ?_
  refine AWp.block ?_
  obtain ⟨p6, hx10, h⟩ := bindS h
  refine AWp.ghost (Mat.trans (Mat.beginP (n := 3001) (e := 3) (sz := 1) (Ts := [(1, (.sref 3001 1 0 0))]) (Bs := []) hB (by decide) (by rfl) (by decide) (TwT.cons (x := .nils) (by rfl) (Tw.leaf ⟨rfl, rfl⟩) TwT.nil) TwB.nil) (mp [] ((fun s1 : Int × (List Int) => ([(1, (.sref 3001 1 0 s1.2.length)), (2, (i6 s1.1))] : EL)) ((20 : Int), ([] : List Int))) ((fun s1 : Int × (List Int) => ([(3001, some (.row 3 1 (s1.2.map (eI .i64))))] : OL)) ((20 : Int), ([] : List Int))) hB)) ?_
  refine AWp.loopS (exchangepointlaw40_awake_L0) (fun s1 : Int × (List Int) => ([(1, (.sref 3001 1 0 s1.2.length)), (2, (i6 s1.1))] : EL)) (fun s1 : Int × (List Int) => ([(3001, some (.row 3 1 (s1.2.map (eI .i64))))] : OL)) (fun (p6 : ((List Int))) e E' O' => e = .exit 0 ∧ Mat B E' O' ([(1, (.sref 3001 1 0 p6.length))] : EL) ([(3001, some (.row 3 1 (p6.map (eI .i64))))] : OL)) hx10 (fun s1 y h => ?_) (fun e E' O' hR => ?_)
  · unfold exchangepointlaw40_awake_L0 at h
    show AWp _ _ _ _ ([(1, (.sref 3001 1 0 s1.2.length)), (2, (i6 s1.1))] : EL) ([(3001, some (.row 3 1 (s1.2.map (eI .i64))))] : OL)
    refine AWp.seq ?_
    refine AWp.seq ?_
    refine AWp.region (oc (mv hN (ot 2 (i6 s1.1)))
      (oc (OpJ.gtr (ltN hN rfl) (ot 7 (i6 s1.1)) (Opd.int .i64 (0)))
      (OpJs.nil))) (by rfl) (by rfl) ?_
    refine seqQ_n ?_
    refine AWp.ghost (mp [] [(1, (.sref 3001 1 0 s1.2.length)), (2, (i6 s1.1)), (8, (bo (decide ((0 : Int) < s1.1))))] [(3001, some (.row 3 1 (s1.2.map (eI .i64))))] hB) ?_
    refine AWp.cond (b := (decide ((0 : Int) < s1.1))) (by rfl) (fun hg7 => ?_) (fun hg7 => ?_)
    · replace h := ite_t hg7 h
      refine AWp.skip ?_
      refine seqQ_n ?_
      refine AWp.seq ?_
      refine AWp.block ?_
      obtain ⟨hc8, h⟩ := chk_some h
      refine AWp.region (oc (mv hN (ot 1 (.sref 3001 1 0 s1.2.length)))
        (oc (mv hN (ot 2 (i6 s1.1)))
        (oc (OpJ.buildSlice Try.underlying22 tyS3 tyZD3 (by rfl) (by decide) (by decide) (Opds.cons (ot 12 (i6 s1.1)) Opds.nil) (by kernel_rfl) (es := ([(.int .i64 s1.1)] : List D)) (by rfl) (by rfl) (by kernel_rfl) (by simp) (ltN hN rfl))
        (oc (OpJ.append hB Try.underlying22 tyE3 (nm := 1014) (by decide) (es := s1.2.map (eI .i64)) (ys := ([s1.1] : List Int).map (eI .i64)) (es' := (s1.2 ++ ([s1.1] : List Int)).map (eI .i64)) (len := (s1.2 ++ ([s1.1] : List Int)).length) (by simp) (by simp) (map_sz (f := (eI .i64)) (fun _ => rfl)) (by rw [List.length_map]; exact lim_mulN hc8 (by decide)) (by rw [List.length_map]; exact lim_leN hc8) (ltN hN rfl) (by simp) (ot 11 (.sref 3001 1 0 s1.2.length)) (ot 13 (.d (.list 1 (([s1.1] : List Int).map (eI .i64))))))
        (oc (OpJ.assign (ltN hN rfl) (ot 14 (.sref 1014 1 0 ((s1.2 ++ ([s1.1] : List Int)).length))))
        (OpJs.nil)))))) (by rfl) (by rfl) ?_
      refine blkQ_n ?_
      refine seqQ_n ?_
      refine AWp.ghost (mp [] [(1, (.sref 1014 1 0 ((s1.2 ++ ([s1.1] : List Int)).length))), (2, (i6 s1.1))] [(1014, some (.row 3 1 ((s1.2 ++ ([s1.1] : List Int)).map (eI .i64))))] hB) ?_
      refine AWp.region (oc (mv hN (ot 2 (i6 s1.1)))
        (oc (OpJ.sub (ltN hN rfl) (ot 9 (i6 s1.1)) (Opd.int .i64 (1)))
        (oc (OpJ.assign (ltN hN rfl) (ot 10 (i6 (w64 (s1.1 - (1 : Int))))))
        (OpJs.nil)))) (by rfl) (by rfl) ?_
      obtain rfl := Option.some.inj h
      exact ⟨rfl, (Mat.trans (mp [] [(1, (.sref 1014 1 0 ((s1.2 ++ ([s1.1] : List Int)).length))), (2, (i6 (w64 (s1.1 - (1 : Int)))))] [(1014, some (.row 3 1 ((s1.2 ++ ([s1.1] : List Int)).map (eI .i64))))] hB) (mp [(3001, 1014)] ((fun s1 : Int × (List Int) => ([(1, (.sref 3001 1 0 s1.2.length)), (2, (i6 s1.1))] : EL)) ((w64 (s1.1 - (1 : Int))), (s1.2 ++ ([s1.1] : List Int)))) ((fun s1 : Int × (List Int) => ([(3001, some (.row 3 1 (s1.2.map (eI .i64))))] : OL)) ((w64 (s1.1 - (1 : Int))), (s1.2 ++ ([s1.1] : List Int)))) hB))⟩
    · replace h := ite_f hg7 h
      refine AWp.exit ?_
      refine seqQ_e ?_
      obtain rfl := Option.some.inj h
      exact ⟨(fun hc => by cases hc), rfl, (mp [] ((fun p6 : (List Int) => ([(1, (.sref 3001 1 0 p6.length))] : EL)) s1.2) ((fun p6 : (List Int) => ([(3001, some (.row 3 1 (p6.map (eI .i64))))] : OL)) s1.2) hB)⟩
  · obtain ⟨rfl, hmat⟩ := hR
    refine blkQ_hit ?_
    refine seqQ_n ?_
    refine AWp.ghost hmat ?_
    refine AWp.seq ?_
    refine AWp.ghost (Mat.freezeP (n := 3001) (e := 3) (sz := 1) (es := p6.map (eI .i64)) (Ts := [(1, (.d (.list 1 (p6.map (eI .i64)))))]) (Bs := []) (by rfl) (TwT.cons (x := (.sref 3001 1 0 p6.length)) (by rfl) (FrzL.all (by first | rfl | (simp; done) | (simp; omega))) TwT.nil) TwB.nil) ?_
    obtain ⟨r11, hr11, h⟩ := bindS h
    refine AWp.region (oc (mv hN (ot 1 (.d (.list 1 (p6.map (eI .i64))))))
      (oc (OpJ.callFn hB fnOk8 (percentile_Percentile_ac p6 (95 : Int) r11 hr11) [] (by kernel_rfl) (ltN hN rfl) (by kernel_rfl) (OpdL.cons (ot 16 (.d (.list 1 (p6.map (eI .i64))))) (OpdL.cons (Opd.int .i64 (95)) OpdL.nil)))
      (oc (mv hN (ot 17 (.tup [(i6 r11.1), (i6 r11.2)])))
      (oc (OpJ.extract (v := (i6 r11.1)) (by rfl) rfl (ltN hN rfl) (ot 15 (.tup [(i6 r11.1), (i6 r11.2)])))
      (oc (OpJ.extract (v := (i6 r11.2)) (by rfl) rfl (ltN hN rfl) (ot 15 (.tup [(i6 r11.1), (i6 r11.2)])))
      (oc (OpJ.assign (ltN hN rfl) (ot 18 (i6 r11.1)))
      (oc (OpJ.assign (ltN hN rfl) (ot 19 (i6 r11.2)))
      (OpJs.nil)))))))) (by rfl) (by rfl) ?_
    refine seqQ_n ?_
    refine AWp.ghost (mp [] [(3, (i6 r11.1)), (4, (i6 r11.2))] [] hB) ?_
    refine AWp.seq ?_
    obtain ⟨r12, hr12, h⟩ := bindS h
    refine AWp.region (oc (OpJ.callFn hB fnOk20 (percentile_Rate_ac (37500001 : Int) (300 : Int) r12 hr12) [] (by kernel_rfl) (ltN hN rfl) (by kernel_rfl) (OpdL.cons (Opd.int .i64 (37500001)) (OpdL.cons (Opd.int .i64 (300)) OpdL.nil)))
      (oc (mv hN (ot 21 (.tup [(i6 r12.1), (i6 r12.2)])))
      (oc (OpJ.extract (v := (i6 r12.1)) (by rfl) rfl (ltN hN rfl) (ot 20 (.tup [(i6 r12.1), (i6 r12.2)])))
      (oc (OpJ.extract (v := (i6 r12.2)) (by rfl) rfl (ltN hN rfl) (ot 20 (.tup [(i6 r12.1), (i6 r12.2)])))
      (oc (OpJ.assign (ltN hN rfl) (ot 22 (i6 r12.1)))
      (oc (OpJ.assign (ltN hN rfl) (ot 23 (i6 r12.2)))
      (OpJs.nil))))))) (by rfl) (by rfl) ?_
    refine seqQ_n ?_
    refine AWp.ghost (mp [] [(3, (i6 r11.1)), (4, (i6 r11.2)), (5, (i6 r12.1)), (6, (i6 r12.2))] [] hB) ?_
    refine AWp.seq ?_
    refine AWp.region (oc (mv hN (ot 4 (i6 r11.2)))
      (oc (OpJ.eqlI (ltN hN rfl) (ot 24 (i6 r11.2)) (Opd.int .i64 (0)))
      (oc (mv hN (ot 25 (bo (r11.2 == (0 : Int)))))
      (oc (op hN (i6 r12.2) (mv hN (ot 6 (i6 r12.2))) (OptL.keep rfl OptL.nil) (GuardV.plain _))
      (oc (op hN (bo (r12.2 == (0 : Int))) (OpJ.eqlI (ltN hN rfl) (ot 27 (i6 r12.2)) (Opd.int .i64 (0))) (OptL.opt OptL.nil) (GuardV.plain _))
      (oc (OpJ.pickAnd rfl (ltN hN rfl) (ot 26 (bo (r11.2 == (0 : Int)))) (ot 28 (.opt ((r11.2 == (0 : Int)) == true) (bo (r12.2 == (0 : Int))))))
      (oc (mv hN (ot 29 (bo ((r11.2 == (0 : Int)) && (r12.2 == (0 : Int))))))
      (oc (op hN (i6 r11.1) (mv hN (ot 3 (i6 r11.1))) (OptL.keep rfl OptL.nil) (GuardV.plain _))
      (oc (op hN (bo (r11.1 == (19 : Int))) (OpJ.eqlI (ltN hN rfl) (ot 31 (i6 r11.1)) (Opd.int .i64 (19))) (OptL.opt OptL.nil) (GuardV.plain _))
      (oc (OpJ.pickAnd rfl (ltN hN rfl) (ot 30 (bo ((r11.2 == (0 : Int)) && (r12.2 == (0 : Int))))) (ot 32 (.opt (((r11.2 == (0 : Int)) && (r12.2 == (0 : Int))) == true) (bo (r11.1 == (19 : Int))))))
      (oc (mv hN (ot 33 (bo (((r11.2 == (0 : Int)) && (r12.2 == (0 : Int))) && (r11.1 == (19 : Int))))))
      (oc (op hN (i6 r12.1) (mv hN (ot 5 (i6 r12.1))) (OptL.keep rfl OptL.nil) (GuardV.plain _))
      (oc (op hN (bo (r12.1 == (2 : Int))) (OpJ.eqlI (ltN hN rfl) (ot 35 (i6 r12.1)) (Opd.int .i64 (2))) (OptL.opt OptL.nil) (GuardV.plain _))
      (oc (OpJ.pickAnd rfl (ltN hN rfl) (ot 34 (bo (((r11.2 == (0 : Int)) && (r12.2 == (0 : Int))) && (r11.1 == (19 : Int))))) (ot 36 (.opt ((((r11.2 == (0 : Int)) && (r12.2 == (0 : Int))) && (r11.1 == (19 : Int))) == true) (bo (r12.1 == (2 : Int))))))
      (oc (OpJ.assign (ltN hN rfl) (ot 37 (bo ((((r11.2 == (0 : Int)) && (r12.2 == (0 : Int))) && (r11.1 == (19 : Int))) && (r12.1 == (2 : Int))))))
      (OpJs.nil)))))))))))))))) (by rfl) (by rfl) ?_
    refine seqQ_n ?_
    refine AWp.ghost (mp [] [(0, (bo ((((r11.2 == (0 : Int)) && (r12.2 == (0 : Int))) && (r11.1 == (19 : Int))) && (r12.1 == (2 : Int)))))] [] hB) ?_
    refine AWp.ret ?_
    obtain rfl := Option.some.inj h
    exact ⟨.inl rfl, _, _, (mp [] [(0, (bo ((((r11.2 == (0 : Int)) && (r12.2 == (0 : Int))) && (r11.1 == (19 : Int))) && (r12.1 == (2 : Int)))))] [] hB), [(bo ((((r11.2 == (0 : Int)) && (r12.2 == (0 : Int))) && (r11.1 == (19 : Int))) && (r12.1 == (2 : Int))))], (Res.tmp (by rfl) (by rfl) Res.nil), rfl, by rfl, by rfl, by rfl⟩

noncomputable def exchangepointmill_Mod (a0 : Int) (a1 : Int) : Option (Int) :=
  chk (decide (a1 ≠ 0)) <|
  jn (fun m3 : Int =>
  some m3) (fun j4 =>
  (if (decide ((Int.tmod a0 a1) < (0 : Int))) = true then
  j4 (w64 ((Int.tmod a0 a1) + a1))
  else
  j4 (Int.tmod a0 a1)))
set_option maxHeartbeats 4000000 in
set_option maxRecDepth 100000 in
theorem exchangepointmill_Mod_ac (a0 : Int) (a1 : Int) (r : Int) (h : exchangepointmill_Mod a0 a1 = some r) : AC Try.prog 10 [(.d (.int .i64 a0)), (.d (.int .i64 a1))] [] (.d (.int .i64 r)) [] := by
  refine AC.of_code2 Try.func10 rfl rfl (Nat.le_of_ble_eq_true (by rfl)) fun B hB hN => ?_
  delta exchangepointmill_Mod at h
  refine AWp.seq ?_
  refine AWp.region (oc (OpJ.assign (ltN hN rfl) (Opd.int .i64 (0)))
  (OpJs.nil)) (by rfl) (by rfl) ?_
  refine seqQ_n ?_
  refine AWp.ghost (mp [] [(0, (i6 a0)), (1, (i6 a1))] [] hB) ?_
  refine AWp.seq ?_
  obtain ⟨hc1, h⟩ := chk_some h
  refine AWp.region (oc (mv hN (ot 0 (i6 a0)))
  (oc (mv hN (ot 1 (i6 a1)))
  (oc (OpJ.rem (ltN hN rfl) (ot 6 (i6 a0)) (ot 7 (i6 a1)) (of_decide_eq_true hc1))
  (oc (OpJ.assign (ltN hN rfl) (ot 8 (i6 (Int.tmod a0 a1))))
  (OpJs.nil))))) (by rfl) (by rfl) ?_
  refine seqQ_n ?_
  refine AWp.ghost (mp [] [(1, (i6 a1)), (5, (i6 (Int.tmod a0 a1)))] [] hB) ?_
  refine AWp.seq ?_
  refine AWp.seq ?_
  refine AWp.region (oc (mv hN (ot 5 (i6 (Int.tmod a0 a1))))
  (oc (OpJ.lss (ltN hN rfl) (ot 9 (i6 (Int.tmod a0 a1))) (Opd.int .i64 (0)))
  (OpJs.nil))) (by rfl) (by rfl) ?_
  refine seqQ_n ?_
  refine AWp.ghost (mp [] [(1, (i6 a1)), (5, (i6 (Int.tmod a0 a1))), (10, (bo (decide ((Int.tmod a0 a1) < (0 : Int)))))] [] hB) ?_
  refine AWp.cut h (fun m3 : Int => ([(5, (i6 m3))] : EL)) (fun m3 : Int => ([] : OL)) (fun m3 h E' O' hmat => ?_) (fun j4 hjj4 h => ?_)
  · refine seqQ_n ?_
    refine AWp.ghost hmat ?_
    refine AWp.seq ?_
    refine AWp.region (oc (mv hN (ot 5 (i6 m3)))
      (oc (OpJ.assign (ltN hN rfl) (ot 14 (i6 m3)))
      (OpJs.nil))) (by rfl) (by rfl) ?_
    refine seqQ_n ?_
    refine AWp.ghost (mp [] [(4, (i6 m3))] [] hB) ?_
    refine AWp.ret ?_
    obtain rfl := Option.some.inj h
    exact ⟨.inl rfl, _, _, (mp [] [(4, (i6 m3))] [] hB), [(i6 m3)], (Res.tmp (by rfl) (by rfl) Res.nil), rfl, by rfl, by rfl, by rfl⟩
  · refine AWp.cond (b := (decide ((Int.tmod a0 a1) < (0 : Int)))) (by rfl) (fun hg5 => ?_) (fun hg5 => ?_)
    · replace h := ite_t hg5 h
      refine AWp.region (oc (mv hN (ot 5 (i6 (Int.tmod a0 a1))))
        (oc (mv hN (ot 1 (i6 a1)))
        (oc (OpJ.add (ltN hN rfl) (ot 11 (i6 (Int.tmod a0 a1))) (ot 12 (i6 a1)))
        (oc (OpJ.assign (ltN hN rfl) (ot 13 (i6 (w64 ((Int.tmod a0 a1) + a1)))))
        (OpJs.nil))))) (by rfl) (by rfl) ?_
      exact hjj4 _ h _ _ (Mat.trans (mp [] [(5, (i6 (w64 ((Int.tmod a0 a1) + a1))))] [] hB) (mp [] ((fun m3 : Int => ([(5, (i6 m3))] : EL)) (w64 ((Int.tmod a0 a1) + a1))) ((fun m3 : Int => ([] : OL)) (w64 ((Int.tmod a0 a1) + a1))) hB))
    · replace h := ite_f hg5 h
      refine AWp.skip ?_
      exact hjj4 _ h _ _ (mp [] ((fun m3 : Int => ([(5, (i6 m3))] : EL)) (Int.tmod a0 a1)) ((fun m3 : Int => ([] : OL)) (Int.tmod a0 a1)) hB)

noncomputable def exchangepointlaw40_PercentileRank_L0 (a0 : (List Int)) (r10 : Int × Int) (s12 : Int × Int × Bool × Int) : Option (((Int × Int × Bool)) ⊕ (Int × Int × Bool × Int)) :=
  (if (decide (s12.2.2.2 < (a0.length : Int))) = true then
  (idx a0 s12.2.2.2).bind fun x35 =>
  jn (fun m37 : Int =>
  jn (fun m40 : Int =>
  some (.inr (m37, m40, (s12.2.2.1 || (x35 == r10.1)), (w64 (s12.2.2.2 + (1 : Int)))))) (fun j41 =>
  (if (decide (x35 < r10.1)) = true then
  j41 (w64 (s12.2.1 + (1 : Int)))
  else
  j41 s12.2.1))) (fun j38 =>
  (if (decide (x35 ≤ r10.1)) = true then
  j38 (w64 (s12.1 + (1 : Int)))
  else
  j38 s12.1))
  else
  some (.inl (s12.1, s12.2.1, s12.2.2.1)))
noncomputable def exchangepointlaw40_PercentileRank (a0 : (List Int)) (a1 : Int) : Option (Bool) :=
  (if (((a0.length : Int) == (0 : Int)) || (decide ((300 : Int) < (a0.length : Int)))) = true then
  (percentile_Percentile ([] : List Int) (95 : Int)).bind fun r2 =>
  jn (fun m5 : Bool =>
  some m5) (fun j6 =>
  (if (r2.2 == (39 : Int)) = true then
  (exchangepointlaw40_awake).bind fun r8 =>
  j6 r8
  else
  j6 false))
  else
  (exchangepointmill_Mod a1 (100 : Int)).bind fun r9 =>
  (percentile_Percentile a0 (w64 ((1 : Int) + r9))).bind fun r10 =>
  (if (r10.2 != (0 : Int)) = true then
  some false
  else
  (loop (exchangepointlaw40_PercentileRank_L0 a0 r10) ((0 : Int), (0 : Int), false, (0 : Int))).bind fun p33 =>
  jn (fun m48 : Bool =>
  some m48) (fun j49 =>
  (if ((p33.2.2 && (decide ((w64 ((w64 ((1 : Int) + r9)) * (a0.length : Int))) ≤ (w64 (p33.1 * (100 : Int)))))) && (decide ((w64 (p33.2.1 * (100 : Int))) < (w64 ((w64 ((1 : Int) + r9)) * (a0.length : Int)))))) = true then
  (exchangepointlaw40_awake).bind fun r51 =>
  j49 r51
  else
  j49 false))))
set_option maxHeartbeats 4000000 in
set_option maxRecDepth 100000 in
theorem exchangepointlaw40_PercentileRank_ac (a0 : (List Int)) (a1 : Int) (r : Bool) (h : exchangepointlaw40_PercentileRank a0 a1 = some r) : AC Try.prog 3 [(.d (.list 1 (a0.map (eI .i64)))), (.d (.int .i64 a1))] [] (.d (.bool r)) [] := by
  refine AC.of_code2 Try.func3 rfl rfl (Nat.le_of_ble_eq_true (by rfl)) fun B hB hN => ?_
  delta exchangepointlaw40_PercentileRank at h
  refine AWp.seq ?_
  refine AWp.region (oc (OpJ.assign (ltN hN rfl) (Opd.bool false))
  (OpJs.nil)) (by rfl) (by rfl) ?_
  refine seqQ_n ?_
  refine AWp.ghost (mp [] [(0, (.d (.list 1 (a0.map (eI .i64))))), (1, (i6 a1))] [] hB) ?_
  refine AWp.seq ?_
  refine AWp.seq ?_
  refine AWp.region (oc (mv hN (ot 0 (.d (.list 1 (a0.map (eI .i64))))))
  (oc (OpJ.val (v' := (i6 (a0.length : Int))) (by simp) (OpJ.lenD Try.underlying22 (ltN hN rfl) (ot 15 (.d (.list 1 (a0.map (eI .i64)))))))
  (oc (OpJ.eqlI (ltN hN rfl) (ot 16 (i6 (a0.length : Int))) (Opd.int .i64 (0)))
  (oc (mv hN (ot 17 (bo ((a0.length : Int) == (0 : Int)))))
  (oc (op hN (.d (.list 1 (a0.map (eI .i64)))) (mv hN (ot 0 (.d (.list 1 (a0.map (eI .i64)))))) (OptL.keep rfl OptL.nil) (GuardV.plain _))
  (oc (op hN (i6 (a0.length : Int)) (OpJ.val (v' := (i6 (a0.length : Int))) (by simp) (OpJ.lenD Try.underlying22 (ltN hN rfl) (ot 19 (.d (.list 1 (a0.map (eI .i64))))))) (OptL.opt OptL.nil) (GuardV.plain _))
  (oc (op hN (bo (decide ((300 : Int) < (a0.length : Int)))) (OpJ.gtr (ltN hN rfl) (ot 20 (i6 (a0.length : Int))) (Opd.int .i64 (300))) (OptL.opt OptL.nil) (GuardV.plain _))
  (oc (OpJ.pickOr rfl (ltN hN rfl) (ot 18 (bo ((a0.length : Int) == (0 : Int)))) (ot 21 (.opt (((a0.length : Int) == (0 : Int)) == false) (bo (decide ((300 : Int) < (a0.length : Int)))))))
  (OpJs.nil))))))))) (by rfl) (by rfl) ?_
  refine seqQ_n ?_
  refine AWp.ghost (mp [] [(0, (.d (.list 1 (a0.map (eI .i64))))), (1, (i6 a1)), (22, (bo (((a0.length : Int) == (0 : Int)) || (decide ((300 : Int) < (a0.length : Int))))))] [] hB) ?_
  refine AWp.cond (b := (((a0.length : Int) == (0 : Int)) || (decide ((300 : Int) < (a0.length : Int))))) (by rfl) (fun hg1 => ?_) (fun hg1 => ?_)
  · replace h := ite_t hg1 h
    refine AWp.seq ?_
    obtain ⟨r2, hr2, h⟩ := bindS h
    refine AWp.region (oc (OpJ.callFn hB fnOk8 (percentile_Percentile_ac ([] : List Int) (95 : Int) r2 hr2) [] (by kernel_rfl) (ltN hN rfl) (by kernel_rfl) (OpdL.cons (Opd.tw Opd.nils (Tw.leaf ⟨_, (Co.nils 1), rfl⟩)) (OpdL.cons (Opd.int .i64 (95)) OpdL.nil)))
      (oc (mv hN (ot 24 (.tup [(i6 r2.1), (i6 r2.2)])))
      (oc (OpJ.extract (v := (i6 r2.1)) (by rfl) rfl (ltN hN rfl) (ot 23 (.tup [(i6 r2.1), (i6 r2.2)])))
      (oc (OpJ.extract (v := (i6 r2.2)) (by rfl) rfl (ltN hN rfl) (ot 23 (.tup [(i6 r2.1), (i6 r2.2)])))
      (oc (OpJ.assign (ltN hN rfl) (ot 25 (i6 r2.1)))
      (oc (OpJ.assign (ltN hN rfl) (ot 26 (i6 r2.2)))
      (OpJs.nil))))))) (by rfl) (by rfl) ?_
    refine seqQ_n ?_
    refine AWp.ghost (mp [] [(6, (i6 r2.2))] [] hB) ?_
    refine AWp.seq ?_
    refine AWp.cut h (fun m5 : Bool => ([(4, (bo m5))] : EL)) (fun m5 : Bool => ([] : OL)) (fun m5 h E' O' hmat => ?_) (fun j6 hjj6 h => ?_)
    · refine seqQ_n ?_
      refine AWp.ghost hmat ?_
      refine AWp.ret ?_
      refine seqQ_r ?_
      obtain rfl := Option.some.inj h
      exact ⟨.inl rfl, _, _, (mp [] [(4, (bo m5))] [] hB), [(bo m5)], (Res.tmp (by rfl) (by rfl) Res.nil), rfl, by rfl, by rfl, by rfl⟩
    · rcases Bool.eq_false_or_eq_true (r2.2 == (39 : Int)) with hg7 | hg7
      · replace h := ite_t hg7 h
        obtain ⟨r8, hr8, h⟩ := bindS h
        refine AWp.region (oc (mv hN (ot 6 (i6 r2.2)))
          (oc (OpJ.eqlI (ltN hN rfl) (ot 27 (i6 r2.2)) (Opd.int .i64 (39)))
          (oc (OpJ.val (v' := .d (.bool true)) (by rw [hg7]) (mv hN (ot 28 (bo (r2.2 == (39 : Int))))))
          (oc (OpJ.guarded (by rfl) (OpJ.callFn hB fnOk9 (exchangepointlaw40_awake_ac  r8 hr8) [] (by kernel_rfl) (ltN hN rfl) (by kernel_rfl) OpdL.nil))
          (oc (OpJ.pickT (ltN hN rfl) (ot 29 (bo true)) (ot 30 (bo r8)))
          (oc (OpJ.assign (ltN hN rfl) (ot 31 (bo r8)))
          (OpJs.nil))))))) (by rfl) (by rfl) ?_
        exact hjj6 _ h _ _ (Mat.trans (mp [] [(4, (bo r8))] [] hB) (mp [] ((fun m5 : Bool => ([(4, (bo m5))] : EL)) r8) ((fun m5 : Bool => ([] : OL)) r8) hB))
      · replace h := ite_f hg7 h
        refine AWp.region (oc (mv hN (ot 6 (i6 r2.2)))
          (oc (OpJ.eqlI (ltN hN rfl) (ot 27 (i6 r2.2)) (Opd.int .i64 (39)))
          (oc (OpJ.val (v' := .d (.bool false)) (by rw [hg7]) (mv hN (ot 28 (bo (r2.2 == (39 : Int))))))
          (oc (OpJ.skipU (ltN hN rfl) (by rfl))
          (oc (OpJ.pickF (ltN hN rfl) (ot 29 (bo false)) (Opd.bool false))
          (oc (OpJ.assign (ltN hN rfl) (ot 31 (bo false)))
          (OpJs.nil))))))) (by rfl) (by rfl) ?_
        exact hjj6 _ h _ _ (Mat.trans (mp [] [(4, (bo false))] [] hB) (mp [] ((fun m5 : Bool => ([(4, (bo m5))] : EL)) false) ((fun m5 : Bool => ([] : OL)) false) hB))
  · replace h := ite_f hg1 h
    refine AWp.skip ?_
    refine seqQ_n ?_
    refine AWp.seq ?_
    obtain ⟨r9, hr9, h⟩ := bindS h
    refine AWp.region (oc (mv hN (ot 1 (i6 a1)))
      (oc (OpJ.callFn hB fnOk10 (exchangepointmill_Mod_ac a1 (100 : Int) r9 hr9) [] (by kernel_rfl) (ltN hN rfl) (by kernel_rfl) (OpdL.cons (ot 32 (i6 a1)) (OpdL.cons (Opd.int .i64 (100)) OpdL.nil)))
      (oc (OpJ.add (ltN hN rfl) (Opd.int .i64 (1)) (ot 33 (i6 r9)))
      (oc (OpJ.assign (ltN hN rfl) (ot 34 (i6 (w64 ((1 : Int) + r9)))))
      (OpJs.nil))))) (by rfl) (by rfl) ?_
    refine seqQ_n ?_
    refine AWp.ghost (mp [] [(0, (.d (.list 1 (a0.map (eI .i64))))), (7, (i6 (w64 ((1 : Int) + r9))))] [] hB) ?_
    refine AWp.seq ?_
    obtain ⟨r10, hr10, h⟩ := bindS h
    refine AWp.region (oc (mv hN (ot 0 (.d (.list 1 (a0.map (eI .i64))))))
      (oc (mv hN (ot 7 (i6 (w64 ((1 : Int) + r9)))))
      (oc (OpJ.callFn hB fnOk8 (percentile_Percentile_ac a0 (w64 ((1 : Int) + r9)) r10 hr10) [] (by kernel_rfl) (ltN hN rfl) (by kernel_rfl) (OpdL.cons (ot 36 (.d (.list 1 (a0.map (eI .i64))))) (OpdL.cons (ot 37 (i6 (w64 ((1 : Int) + r9)))) OpdL.nil)))
      (oc (mv hN (ot 38 (.tup [(i6 r10.1), (i6 r10.2)])))
      (oc (OpJ.extract (v := (i6 r10.1)) (by rfl) rfl (ltN hN rfl) (ot 35 (.tup [(i6 r10.1), (i6 r10.2)])))
      (oc (OpJ.extract (v := (i6 r10.2)) (by rfl) rfl (ltN hN rfl) (ot 35 (.tup [(i6 r10.1), (i6 r10.2)])))
      (oc (OpJ.assign (ltN hN rfl) (ot 39 (i6 r10.1)))
      (oc (OpJ.assign (ltN hN rfl) (ot 40 (i6 r10.2)))
      (OpJs.nil))))))))) (by rfl) (by rfl) ?_
    refine seqQ_n ?_
    refine AWp.ghost (mp [] [(0, (.d (.list 1 (a0.map (eI .i64))))), (7, (i6 (w64 ((1 : Int) + r9)))), (8, (i6 r10.1)), (9, (i6 r10.2))] [] hB) ?_
    refine AWp.seq ?_
    refine AWp.seq ?_
    refine AWp.region (oc (mv hN (ot 9 (i6 r10.2)))
      (oc (OpJ.neqI (ltN hN rfl) (ot 41 (i6 r10.2)) (Opd.int .i64 (0)))
      (OpJs.nil))) (by rfl) (by rfl) ?_
    refine seqQ_n ?_
    refine AWp.ghost (mp [] [(0, (.d (.list 1 (a0.map (eI .i64))))), (7, (i6 (w64 ((1 : Int) + r9)))), (8, (i6 r10.1)), (42, (bo (r10.2 != (0 : Int))))] [] hB) ?_
    refine AWp.cond (b := (r10.2 != (0 : Int))) (by rfl) (fun hg11 => ?_) (fun hg11 => ?_)
    · replace h := ite_t hg11 h
      refine AWp.seq ?_
      refine AWp.region (oc (OpJ.assign (ltN hN rfl) (Opd.bool false))
        (OpJs.nil)) (by rfl) (by rfl) ?_
      refine seqQ_n ?_
      refine AWp.ghost (mp [] [(4, (bo false))] [] hB) ?_
      refine AWp.ret ?_
      refine seqQ_r ?_
      obtain rfl := Option.some.inj h
      exact ⟨.inl rfl, _, _, (mp [] [(4, (bo false))] [] hB), [(bo false)], (Res.tmp (by rfl) (by rfl) Res.nil), rfl, by rfl, by rfl, by rfl⟩
    · replace h := ite_f hg11 h
      refine AWp.skip ?_
      refine seqQ_n ?_
      refine AWp.seq ?_
      refine AWp.region (oc (OpJ.assign (ltN hN rfl) (Opd.int .i64 (0)))
        (oc (OpJ.assign (ltN hN rfl) (Opd.int .i64 (0)))
        (oc (OpJ.assign (ltN hN rfl) (Opd.bool false))
        (OpJs.nil)))) (by rfl) (by rfl) ?_
      refine seqQ_n ?_
      refine AWp.ghost (mp [] [(0, (.d (.list 1 (a0.map (eI .i64))))), (7, (i6 (w64 ((1 : Int) + r9)))), (8, (i6 r10.1)), (10, (i6 (0 : Int))), (11, (i6 (0 : Int))), (12, (bo false))] [] hB) ?_
      refine AWp.seq ?_
      refine AWp.seq ?_
      refine AWp.region (oc (mv hN (ot 0 (.d (.list 1 (a0.map (eI .i64))))))
        (oc (OpJ.val (v' := (i6 (a0.length : Int))) (by simp) (OpJ.lenD Try.underlying22 (ltN hN rfl) (ot 43 (.d (.list 1 (a0.map (eI .i64)))))))
        (oc (mv hN (Opd.int .i64 (0)))
        (OpJs.nil)))) (by rfl) (by rfl) ?_
      refine seqQ_n ?_
      refine AWp.ghost (mp [] [(0, (.d (.list 1 (a0.map (eI .i64))))), (7, (i6 (w64 ((1 : Int) + r9)))), (8, (i6 r10.1)), (10, (i6 (0 : Int))), (11, (i6 (0 : Int))), (12, (bo false)), (43, (.d (.list 1 (a0.map (eI .i64))))), (44, (i6 (a0.length : Int))), (45, (i6 (0 : Int)))] [] hB) ?_
      refine AWp.block ?_
      obtain ⟨p33, hx45, h⟩ := bindS h
      refine AWp.ghost (mp [] ((fun s12 : Int × Int × Bool × Int => ([(0, (.d (.list 1 (a0.map (eI .i64))))), (7, (i6 (w64 ((1 : Int) + r9)))), (8, (i6 r10.1)), (10, (i6 s12.1)), (11, (i6 s12.2.1)), (12, (bo s12.2.2.1)), (43, (.d (.list 1 (a0.map (eI .i64))))), (44, (i6 (a0.length : Int))), (45, (i6 s12.2.2.2))] : EL)) ((0 : Int), (0 : Int), false, (0 : Int))) ((fun s12 : Int × Int × Bool × Int => ([] : OL)) ((0 : Int), (0 : Int), false, (0 : Int))) hB) ?_
      refine AWp.loopS (exchangepointlaw40_PercentileRank_L0 a0 r10) (fun s12 : Int × Int × Bool × Int => ([(0, (.d (.list 1 (a0.map (eI .i64))))), (7, (i6 (w64 ((1 : Int) + r9)))), (8, (i6 r10.1)), (10, (i6 s12.1)), (11, (i6 s12.2.1)), (12, (bo s12.2.2.1)), (43, (.d (.list 1 (a0.map (eI .i64))))), (44, (i6 (a0.length : Int))), (45, (i6 s12.2.2.2))] : EL)) (fun s12 : Int × Int × Bool × Int => ([] : OL)) (fun (p33 : (Int × Int × Bool)) e E' O' => e = .exit 0 ∧ Mat B E' O' ([(0, (.d (.list 1 (a0.map (eI .i64))))), (7, (i6 (w64 ((1 : Int) + r9)))), (10, (i6 p33.1)), (11, (i6 p33.2.1)), (12, (bo p33.2.2))] : EL) ([] : OL)) hx45 (fun s12 y h => ?_) (fun e E' O' hR => ?_)
      · unfold exchangepointlaw40_PercentileRank_L0 at h
        show AWp _ _ _ _ ([(0, (.d (.list 1 (a0.map (eI .i64))))), (7, (i6 (w64 ((1 : Int) + r9)))), (8, (i6 r10.1)), (10, (i6 s12.1)), (11, (i6 s12.2.1)), (12, (bo s12.2.2.1)), (43, (.d (.list 1 (a0.map (eI .i64))))), (44, (i6 (a0.length : Int))), (45, (i6 s12.2.2.2))] : EL) ([] : OL)
        refine AWp.seq ?_
        refine AWp.region (oc (OpJ.lss (ltN hN rfl) (ot 45 (i6 s12.2.2.2)) (ot 44 (i6 (a0.length : Int))))
          (OpJs.nil)) (by rfl) (by rfl) ?_
        refine seqQ_n ?_
        refine AWp.ghost (mp [] [(0, (.d (.list 1 (a0.map (eI .i64))))), (7, (i6 (w64 ((1 : Int) + r9)))), (8, (i6 r10.1)), (10, (i6 s12.1)), (11, (i6 s12.2.1)), (12, (bo s12.2.2.1)), (43, (.d (.list 1 (a0.map (eI .i64))))), (44, (i6 (a0.length : Int))), (45, (i6 s12.2.2.2)), (46, (bo (decide (s12.2.2.2 < (a0.length : Int)))))] [] hB) ?_
        refine AWp.seq ?_
        refine AWp.cond (b := (decide (s12.2.2.2 < (a0.length : Int)))) (by rfl) (fun hg34 => ?_) (fun hg34 => ?_)
        · replace h := ite_t hg34 h
          refine AWp.skip ?_
          refine seqQ_n ?_
          refine AWp.seq ?_
          refine AWp.block ?_
          refine AWp.seq ?_
          obtain ⟨x35, hx35, h⟩ := bindS h
          refine AWp.region (oc (OpJ.indexD (el := (.int .i64 x35)) Try.underlying22 tyS3 (idx_some hx35).1 (get_map (eI .i64) (idx_some hx35).2) (ltN hN rfl) (ot 43 (.d (.list 1 (a0.map (eI .i64))))) (ot 45 (i6 s12.2.2.2)))
            (oc (OpJ.loadD tyS3 (by rfl) (by rfl) (ltN hN rfl) (ot 47 (.dptr (.int .i64 x35))))
            (oc (OpJ.assign (ltN hN rfl) (ot 48 (i6 x35)))
            (OpJs.nil)))) (by rfl) (by rfl) ?_
          refine seqQ_n ?_
          refine AWp.ghost (mp [] [(0, (.d (.list 1 (a0.map (eI .i64))))), (7, (i6 (w64 ((1 : Int) + r9)))), (8, (i6 r10.1)), (10, (i6 s12.1)), (11, (i6 s12.2.1)), (12, (bo s12.2.2.1)), (14, (i6 x35)), (43, (.d (.list 1 (a0.map (eI .i64))))), (44, (i6 (a0.length : Int))), (45, (i6 s12.2.2.2))] [] hB) ?_
          refine AWp.seq ?_
          refine AWp.seq ?_
          refine AWp.region (oc (mv hN (ot 14 (i6 x35)))
            (oc (mv hN (ot 8 (i6 r10.1)))
            (oc (OpJ.leq (ltN hN rfl) (ot 49 (i6 x35)) (ot 50 (i6 r10.1)))
            (OpJs.nil)))) (by rfl) (by rfl) ?_
          refine seqQ_n ?_
          refine AWp.ghost (mp [] [(0, (.d (.list 1 (a0.map (eI .i64))))), (7, (i6 (w64 ((1 : Int) + r9)))), (8, (i6 r10.1)), (10, (i6 s12.1)), (11, (i6 s12.2.1)), (12, (bo s12.2.2.1)), (14, (i6 x35)), (43, (.d (.list 1 (a0.map (eI .i64))))), (44, (i6 (a0.length : Int))), (45, (i6 s12.2.2.2)), (51, (bo (decide (x35 ≤ r10.1))))] [] hB) ?_
          refine AWp.cut h (fun m37 : Int => ([(0, (.d (.list 1 (a0.map (eI .i64))))), (7, (i6 (w64 ((1 : Int) + r9)))), (8, (i6 r10.1)), (10, (i6 m37)), (11, (i6 s12.2.1)), (12, (bo s12.2.2.1)), (14, (i6 x35)), (43, (.d (.list 1 (a0.map (eI .i64))))), (44, (i6 (a0.length : Int))), (45, (i6 s12.2.2.2))] : EL)) (fun m37 : Int => ([] : OL)) (fun m37 h E' O' hmat => ?_) (fun j38 hjj38 h => ?_)
          · refine seqQ_n ?_
            refine AWp.ghost hmat ?_
            refine AWp.seq ?_
            refine AWp.seq ?_
            refine AWp.region (oc (mv hN (ot 14 (i6 x35)))
              (oc (mv hN (ot 8 (i6 r10.1)))
              (oc (OpJ.lss (ltN hN rfl) (ot 54 (i6 x35)) (ot 55 (i6 r10.1)))
              (OpJs.nil)))) (by rfl) (by rfl) ?_
            refine seqQ_n ?_
            refine AWp.ghost (mp [] [(0, (.d (.list 1 (a0.map (eI .i64))))), (7, (i6 (w64 ((1 : Int) + r9)))), (8, (i6 r10.1)), (10, (i6 m37)), (11, (i6 s12.2.1)), (12, (bo s12.2.2.1)), (14, (i6 x35)), (43, (.d (.list 1 (a0.map (eI .i64))))), (44, (i6 (a0.length : Int))), (45, (i6 s12.2.2.2)), (56, (bo (decide (x35 < r10.1))))] [] hB) ?_
            refine AWp.cut h (fun m40 : Int => ([(0, (.d (.list 1 (a0.map (eI .i64))))), (7, (i6 (w64 ((1 : Int) + r9)))), (8, (i6 r10.1)), (10, (i6 m37)), (11, (i6 m40)), (12, (bo s12.2.2.1)), (14, (i6 x35)), (43, (.d (.list 1 (a0.map (eI .i64))))), (44, (i6 (a0.length : Int))), (45, (i6 s12.2.2.2))] : EL)) (fun m40 : Int => ([] : OL)) (fun m40 h E' O' hmat => ?_) (fun j41 hjj41 h => ?_)
            · refine seqQ_n ?_
              refine AWp.ghost hmat ?_
              refine AWp.region (oc (mv hN (ot 12 (bo s12.2.2.1)))
                (oc (mv hN (ot 59 (bo s12.2.2.1)))
                (oc (op hN (i6 x35) (mv hN (ot 14 (i6 x35))) (OptL.keep rfl OptL.nil) (GuardV.plain _))
                (oc (op hN (i6 r10.1) (mv hN (ot 8 (i6 r10.1))) (OptL.keep rfl OptL.nil) (GuardV.plain _))
                (oc (op hN (bo (x35 == r10.1)) (OpJ.eqlI (ltN hN rfl) (ot 61 (i6 x35)) (ot 62 (i6 r10.1))) (OptL.opt (OptL.opt OptL.nil)) (GuardV.plain _))
                (oc (OpJ.pickOr rfl (ltN hN rfl) (ot 60 (bo s12.2.2.1)) (ot 63 (.opt (s12.2.2.1 == false) (bo (x35 == r10.1)))))
                (oc (OpJ.assign (ltN hN rfl) (ot 64 (bo (s12.2.2.1 || (x35 == r10.1)))))
                (OpJs.nil)))))))) (by rfl) (by rfl) ?_
              refine blkQ_n ?_
              refine seqQ_n ?_
              refine AWp.ghost (mp [] [(0, (.d (.list 1 (a0.map (eI .i64))))), (7, (i6 (w64 ((1 : Int) + r9)))), (8, (i6 r10.1)), (10, (i6 m37)), (11, (i6 m40)), (12, (bo (s12.2.2.1 || (x35 == r10.1)))), (43, (.d (.list 1 (a0.map (eI .i64))))), (44, (i6 (a0.length : Int))), (45, (i6 s12.2.2.2))] [] hB) ?_
              refine AWp.region (oc (OpJ.add (ltN hN rfl) (ot 45 (i6 s12.2.2.2)) (Opd.int .i64 (1)))
                (oc (mv hN (ot 65 (i6 (w64 (s12.2.2.2 + (1 : Int))))))
                (OpJs.nil))) (by rfl) (by rfl) ?_
              obtain rfl := Option.some.inj h
              exact ⟨rfl, (Mat.trans (mp [] [(0, (.d (.list 1 (a0.map (eI .i64))))), (7, (i6 (w64 ((1 : Int) + r9)))), (8, (i6 r10.1)), (10, (i6 m37)), (11, (i6 m40)), (12, (bo (s12.2.2.1 || (x35 == r10.1)))), (43, (.d (.list 1 (a0.map (eI .i64))))), (44, (i6 (a0.length : Int))), (45, (i6 (w64 (s12.2.2.2 + (1 : Int)))))] [] hB) (mp [] ((fun s12 : Int × Int × Bool × Int => ([(0, (.d (.list 1 (a0.map (eI .i64))))), (7, (i6 (w64 ((1 : Int) + r9)))), (8, (i6 r10.1)), (10, (i6 s12.1)), (11, (i6 s12.2.1)), (12, (bo s12.2.2.1)), (43, (.d (.list 1 (a0.map (eI .i64))))), (44, (i6 (a0.length : Int))), (45, (i6 s12.2.2.2))] : EL)) (m37, m40, (s12.2.2.1 || (x35 == r10.1)), (w64 (s12.2.2.2 + (1 : Int))))) ((fun s12 : Int × Int × Bool × Int => ([] : OL)) (m37, m40, (s12.2.2.1 || (x35 == r10.1)), (w64 (s12.2.2.2 + (1 : Int))))) hB))⟩
            · refine AWp.cond (b := (decide (x35 < r10.1))) (by rfl) (fun hg42 => ?_) (fun hg42 => ?_)
              · replace h := ite_t hg42 h
                refine AWp.region (oc (mv hN (ot 11 (i6 s12.2.1)))
                  (oc (OpJ.add (ltN hN rfl) (ot 57 (i6 s12.2.1)) (Opd.int .i64 (1)))
                  (oc (OpJ.assign (ltN hN rfl) (ot 58 (i6 (w64 (s12.2.1 + (1 : Int))))))
                  (OpJs.nil)))) (by rfl) (by rfl) ?_
                exact hjj41 _ h _ _ (Mat.trans (mp [] [(0, (.d (.list 1 (a0.map (eI .i64))))), (7, (i6 (w64 ((1 : Int) + r9)))), (8, (i6 r10.1)), (10, (i6 m37)), (11, (i6 (w64 (s12.2.1 + (1 : Int))))), (12, (bo s12.2.2.1)), (14, (i6 x35)), (43, (.d (.list 1 (a0.map (eI .i64))))), (44, (i6 (a0.length : Int))), (45, (i6 s12.2.2.2))] [] hB) (mp [] ((fun m40 : Int => ([(0, (.d (.list 1 (a0.map (eI .i64))))), (7, (i6 (w64 ((1 : Int) + r9)))), (8, (i6 r10.1)), (10, (i6 m37)), (11, (i6 m40)), (12, (bo s12.2.2.1)), (14, (i6 x35)), (43, (.d (.list 1 (a0.map (eI .i64))))), (44, (i6 (a0.length : Int))), (45, (i6 s12.2.2.2))] : EL)) (w64 (s12.2.1 + (1 : Int)))) ((fun m40 : Int => ([] : OL)) (w64 (s12.2.1 + (1 : Int)))) hB))
              · replace h := ite_f hg42 h
                refine AWp.skip ?_
                exact hjj41 _ h _ _ (mp [] ((fun m40 : Int => ([(0, (.d (.list 1 (a0.map (eI .i64))))), (7, (i6 (w64 ((1 : Int) + r9)))), (8, (i6 r10.1)), (10, (i6 m37)), (11, (i6 m40)), (12, (bo s12.2.2.1)), (14, (i6 x35)), (43, (.d (.list 1 (a0.map (eI .i64))))), (44, (i6 (a0.length : Int))), (45, (i6 s12.2.2.2))] : EL)) s12.2.1) ((fun m40 : Int => ([] : OL)) s12.2.1) hB)
          · refine AWp.cond (b := (decide (x35 ≤ r10.1))) (by rfl) (fun hg43 => ?_) (fun hg43 => ?_)
            · replace h := ite_t hg43 h
              refine AWp.region (oc (mv hN (ot 10 (i6 s12.1)))
                (oc (OpJ.add (ltN hN rfl) (ot 52 (i6 s12.1)) (Opd.int .i64 (1)))
                (oc (OpJ.assign (ltN hN rfl) (ot 53 (i6 (w64 (s12.1 + (1 : Int))))))
                (OpJs.nil)))) (by rfl) (by rfl) ?_
              exact hjj38 _ h _ _ (Mat.trans (mp [] [(0, (.d (.list 1 (a0.map (eI .i64))))), (7, (i6 (w64 ((1 : Int) + r9)))), (8, (i6 r10.1)), (10, (i6 (w64 (s12.1 + (1 : Int))))), (11, (i6 s12.2.1)), (12, (bo s12.2.2.1)), (14, (i6 x35)), (43, (.d (.list 1 (a0.map (eI .i64))))), (44, (i6 (a0.length : Int))), (45, (i6 s12.2.2.2))] [] hB) (mp [] ((fun m37 : Int => ([(0, (.d (.list 1 (a0.map (eI .i64))))), (7, (i6 (w64 ((1 : Int) + r9)))), (8, (i6 r10.1)), (10, (i6 m37)), (11, (i6 s12.2.1)), (12, (bo s12.2.2.1)), (14, (i6 x35)), (43, (.d (.list 1 (a0.map (eI .i64))))), (44, (i6 (a0.length : Int))), (45, (i6 s12.2.2.2))] : EL)) (w64 (s12.1 + (1 : Int)))) ((fun m37 : Int => ([] : OL)) (w64 (s12.1 + (1 : Int)))) hB))
            · replace h := ite_f hg43 h
              refine AWp.skip ?_
              exact hjj38 _ h _ _ (mp [] ((fun m37 : Int => ([(0, (.d (.list 1 (a0.map (eI .i64))))), (7, (i6 (w64 ((1 : Int) + r9)))), (8, (i6 r10.1)), (10, (i6 m37)), (11, (i6 s12.2.1)), (12, (bo s12.2.2.1)), (14, (i6 x35)), (43, (.d (.list 1 (a0.map (eI .i64))))), (44, (i6 (a0.length : Int))), (45, (i6 s12.2.2.2))] : EL)) s12.1) ((fun m37 : Int => ([] : OL)) s12.1) hB)
        · replace h := ite_f hg34 h
          refine AWp.exit ?_
          refine seqQ_e ?_
          obtain rfl := Option.some.inj h
          exact ⟨(fun hc => by cases hc), rfl, (mp [] ((fun p33 : Int × Int × Bool => ([(0, (.d (.list 1 (a0.map (eI .i64))))), (7, (i6 (w64 ((1 : Int) + r9)))), (10, (i6 p33.1)), (11, (i6 p33.2.1)), (12, (bo p33.2.2))] : EL)) (s12.1, s12.2.1, s12.2.2.1)) ((fun p33 : Int × Int × Bool => ([] : OL)) (s12.1, s12.2.1, s12.2.2.1)) hB)⟩
      · obtain ⟨rfl, hmat⟩ := hR
        refine blkQ_hit ?_
        refine seqQ_n ?_
        refine AWp.ghost hmat ?_
        refine AWp.seq ?_
        refine AWp.cut h (fun m48 : Bool => ([(4, (bo m48))] : EL)) (fun m48 : Bool => ([] : OL)) (fun m48 h E' O' hmat => ?_) (fun j49 hjj49 h => ?_)
        · refine seqQ_n ?_
          refine AWp.ghost hmat ?_
          refine AWp.ret ?_
          obtain rfl := Option.some.inj h
          exact ⟨.inl rfl, _, _, (mp [] [(4, (bo m48))] [] hB), [(bo m48)], (Res.tmp (by rfl) (by rfl) Res.nil), rfl, by rfl, by rfl, by rfl⟩
        · rcases Bool.eq_false_or_eq_true ((p33.2.2 && (decide ((w64 ((w64 ((1 : Int) + r9)) * (a0.length : Int))) ≤ (w64 (p33.1 * (100 : Int)))))) && (decide ((w64 (p33.2.1 * (100 : Int))) < (w64 ((w64 ((1 : Int) + r9)) * (a0.length : Int)))))) with hg50 | hg50
          · replace h := ite_t hg50 h
            obtain ⟨r51, hr51, h⟩ := bindS h
            refine AWp.region (oc (mv hN (ot 12 (bo p33.2.2)))
              (oc (mv hN (ot 66 (bo p33.2.2)))
              (oc (op hN (i6 p33.1) (mv hN (ot 10 (i6 p33.1))) (OptL.keep rfl OptL.nil) (GuardV.plain _))
              (oc (op hN (i6 (w64 (p33.1 * (100 : Int)))) (OpJ.mul (ltN hN rfl) (ot 68 (i6 p33.1)) (Opd.int .i64 (100))) (OptL.opt OptL.nil) (GuardV.plain _))
              (oc (op hN (i6 (w64 ((1 : Int) + r9))) (mv hN (ot 7 (i6 (w64 ((1 : Int) + r9))))) (OptL.keep rfl OptL.nil) (GuardV.plain _))
              (oc (op hN (.d (.list 1 (a0.map (eI .i64)))) (mv hN (ot 0 (.d (.list 1 (a0.map (eI .i64)))))) (OptL.keep rfl OptL.nil) (GuardV.plain _))
              (oc (op hN (i6 (a0.length : Int)) (OpJ.val (v' := (i6 (a0.length : Int))) (by simp) (OpJ.lenD Try.underlying22 (ltN hN rfl) (ot 71 (.d (.list 1 (a0.map (eI .i64))))))) (OptL.opt OptL.nil) (GuardV.plain _))
              (oc (op hN (i6 (w64 ((w64 ((1 : Int) + r9)) * (a0.length : Int)))) (OpJ.mul (ltN hN rfl) (ot 70 (i6 (w64 ((1 : Int) + r9)))) (ot 72 (i6 (a0.length : Int)))) (OptL.opt (OptL.opt OptL.nil)) (GuardV.plain _))
              (oc (op hN (bo (decide ((w64 ((w64 ((1 : Int) + r9)) * (a0.length : Int))) ≤ (w64 (p33.1 * (100 : Int)))))) (OpJ.geq (ltN hN rfl) (ot 69 (i6 (w64 (p33.1 * (100 : Int))))) (ot 73 (i6 (w64 ((w64 ((1 : Int) + r9)) * (a0.length : Int)))))) (OptL.opt (OptL.opt OptL.nil)) (GuardV.plain _))
              (oc (OpJ.pickAnd rfl (ltN hN rfl) (ot 67 (bo p33.2.2)) (ot 74 (.opt (p33.2.2 == true) (bo (decide ((w64 ((w64 ((1 : Int) + r9)) * (a0.length : Int))) ≤ (w64 (p33.1 * (100 : Int)))))))))
              (oc (mv hN (ot 75 (bo (p33.2.2 && (decide ((w64 ((w64 ((1 : Int) + r9)) * (a0.length : Int))) ≤ (w64 (p33.1 * (100 : Int)))))))))
              (oc (op hN (i6 p33.2.1) (mv hN (ot 11 (i6 p33.2.1))) (OptL.keep rfl OptL.nil) (GuardV.plain _))
              (oc (op hN (i6 (w64 (p33.2.1 * (100 : Int)))) (OpJ.mul (ltN hN rfl) (ot 77 (i6 p33.2.1)) (Opd.int .i64 (100))) (OptL.opt OptL.nil) (GuardV.plain _))
              (oc (op hN (i6 (w64 ((1 : Int) + r9))) (mv hN (ot 7 (i6 (w64 ((1 : Int) + r9))))) (OptL.keep rfl OptL.nil) (GuardV.plain _))
              (oc (op hN (.d (.list 1 (a0.map (eI .i64)))) (mv hN (ot 0 (.d (.list 1 (a0.map (eI .i64)))))) (OptL.keep rfl OptL.nil) (GuardV.plain _))
              (oc (op hN (i6 (a0.length : Int)) (OpJ.val (v' := (i6 (a0.length : Int))) (by simp) (OpJ.lenD Try.underlying22 (ltN hN rfl) (ot 80 (.d (.list 1 (a0.map (eI .i64))))))) (OptL.opt OptL.nil) (GuardV.plain _))
              (oc (op hN (i6 (w64 ((w64 ((1 : Int) + r9)) * (a0.length : Int)))) (OpJ.mul (ltN hN rfl) (ot 79 (i6 (w64 ((1 : Int) + r9)))) (ot 81 (i6 (a0.length : Int)))) (OptL.opt (OptL.opt OptL.nil)) (GuardV.plain _))
              (oc (op hN (bo (decide ((w64 (p33.2.1 * (100 : Int))) < (w64 ((w64 ((1 : Int) + r9)) * (a0.length : Int)))))) (OpJ.lss (ltN hN rfl) (ot 78 (i6 (w64 (p33.2.1 * (100 : Int))))) (ot 82 (i6 (w64 ((w64 ((1 : Int) + r9)) * (a0.length : Int)))))) (OptL.opt (OptL.opt OptL.nil)) (GuardV.plain _))
              (oc (OpJ.pickAnd rfl (ltN hN rfl) (ot 76 (bo (p33.2.2 && (decide ((w64 ((w64 ((1 : Int) + r9)) * (a0.length : Int))) ≤ (w64 (p33.1 * (100 : Int)))))))) (ot 83 (.opt ((p33.2.2 && (decide ((w64 ((w64 ((1 : Int) + r9)) * (a0.length : Int))) ≤ (w64 (p33.1 * (100 : Int)))))) == true) (bo (decide ((w64 (p33.2.1 * (100 : Int))) < (w64 ((w64 ((1 : Int) + r9)) * (a0.length : Int)))))))))
              (oc (OpJ.val (v' := .d (.bool true)) (by rw [hg50]) (mv hN (ot 84 (bo ((p33.2.2 && (decide ((w64 ((w64 ((1 : Int) + r9)) * (a0.length : Int))) ≤ (w64 (p33.1 * (100 : Int)))))) && (decide ((w64 (p33.2.1 * (100 : Int))) < (w64 ((w64 ((1 : Int) + r9)) * (a0.length : Int))))))))))
              (oc (OpJ.guarded (by rfl) (OpJ.callFn hB fnOk9 (exchangepointlaw40_awake_ac  r51 hr51) [] (by kernel_rfl) (ltN hN rfl) (by kernel_rfl) OpdL.nil))
              (oc (OpJ.pickT (ltN hN rfl) (ot 85 (bo true)) (ot 86 (bo r51)))
              (oc (OpJ.assign (ltN hN rfl) (ot 87 (bo r51)))
              (OpJs.nil)))))))))))))))))))))))) (by rfl) (by rfl) ?_
            exact hjj49 _ h _ _ (Mat.trans (mp [] [(4, (bo r51))] [] hB) (mp [] ((fun m48 : Bool => ([(4, (bo m48))] : EL)) r51) ((fun m48 : Bool => ([] : OL)) r51) hB))
          · replace h := ite_f hg50 h
            refine AWp.region (oc (mv hN (ot 12 (bo p33.2.2)))
              (oc (mv hN (ot 66 (bo p33.2.2)))
              (oc (op hN (i6 p33.1) (mv hN (ot 10 (i6 p33.1))) (OptL.keep rfl OptL.nil) (GuardV.plain _))
              (oc (op hN (i6 (w64 (p33.1 * (100 : Int)))) (OpJ.mul (ltN hN rfl) (ot 68 (i6 p33.1)) (Opd.int .i64 (100))) (OptL.opt OptL.nil) (GuardV.plain _))
              (oc (op hN (i6 (w64 ((1 : Int) + r9))) (mv hN (ot 7 (i6 (w64 ((1 : Int) + r9))))) (OptL.keep rfl OptL.nil) (GuardV.plain _))
              (oc (op hN (.d (.list 1 (a0.map (eI .i64)))) (mv hN (ot 0 (.d (.list 1 (a0.map (eI .i64)))))) (OptL.keep rfl OptL.nil) (GuardV.plain _))
              (oc (op hN (i6 (a0.length : Int)) (OpJ.val (v' := (i6 (a0.length : Int))) (by simp) (OpJ.lenD Try.underlying22 (ltN hN rfl) (ot 71 (.d (.list 1 (a0.map (eI .i64))))))) (OptL.opt OptL.nil) (GuardV.plain _))
              (oc (op hN (i6 (w64 ((w64 ((1 : Int) + r9)) * (a0.length : Int)))) (OpJ.mul (ltN hN rfl) (ot 70 (i6 (w64 ((1 : Int) + r9)))) (ot 72 (i6 (a0.length : Int)))) (OptL.opt (OptL.opt OptL.nil)) (GuardV.plain _))
              (oc (op hN (bo (decide ((w64 ((w64 ((1 : Int) + r9)) * (a0.length : Int))) ≤ (w64 (p33.1 * (100 : Int)))))) (OpJ.geq (ltN hN rfl) (ot 69 (i6 (w64 (p33.1 * (100 : Int))))) (ot 73 (i6 (w64 ((w64 ((1 : Int) + r9)) * (a0.length : Int)))))) (OptL.opt (OptL.opt OptL.nil)) (GuardV.plain _))
              (oc (OpJ.pickAnd rfl (ltN hN rfl) (ot 67 (bo p33.2.2)) (ot 74 (.opt (p33.2.2 == true) (bo (decide ((w64 ((w64 ((1 : Int) + r9)) * (a0.length : Int))) ≤ (w64 (p33.1 * (100 : Int)))))))))
              (oc (mv hN (ot 75 (bo (p33.2.2 && (decide ((w64 ((w64 ((1 : Int) + r9)) * (a0.length : Int))) ≤ (w64 (p33.1 * (100 : Int)))))))))
              (oc (op hN (i6 p33.2.1) (mv hN (ot 11 (i6 p33.2.1))) (OptL.keep rfl OptL.nil) (GuardV.plain _))
              (oc (op hN (i6 (w64 (p33.2.1 * (100 : Int)))) (OpJ.mul (ltN hN rfl) (ot 77 (i6 p33.2.1)) (Opd.int .i64 (100))) (OptL.opt OptL.nil) (GuardV.plain _))
              (oc (op hN (i6 (w64 ((1 : Int) + r9))) (mv hN (ot 7 (i6 (w64 ((1 : Int) + r9))))) (OptL.keep rfl OptL.nil) (GuardV.plain _))
              (oc (op hN (.d (.list 1 (a0.map (eI .i64)))) (mv hN (ot 0 (.d (.list 1 (a0.map (eI .i64)))))) (OptL.keep rfl OptL.nil) (GuardV.plain _))
              (oc (op hN (i6 (a0.length : Int)) (OpJ.val (v' := (i6 (a0.length : Int))) (by simp) (OpJ.lenD Try.underlying22 (ltN hN rfl) (ot 80 (.d (.list 1 (a0.map (eI .i64))))))) (OptL.opt OptL.nil) (GuardV.plain _))
              (oc (op hN (i6 (w64 ((w64 ((1 : Int) + r9)) * (a0.length : Int)))) (OpJ.mul (ltN hN rfl) (ot 79 (i6 (w64 ((1 : Int) + r9)))) (ot 81 (i6 (a0.length : Int)))) (OptL.opt (OptL.opt OptL.nil)) (GuardV.plain _))
              (oc (op hN (bo (decide ((w64 (p33.2.1 * (100 : Int))) < (w64 ((w64 ((1 : Int) + r9)) * (a0.length : Int)))))) (OpJ.lss (ltN hN rfl) (ot 78 (i6 (w64 (p33.2.1 * (100 : Int))))) (ot 82 (i6 (w64 ((w64 ((1 : Int) + r9)) * (a0.length : Int)))))) (OptL.opt (OptL.opt OptL.nil)) (GuardV.plain _))
              (oc (OpJ.pickAnd rfl (ltN hN rfl) (ot 76 (bo (p33.2.2 && (decide ((w64 ((w64 ((1 : Int) + r9)) * (a0.length : Int))) ≤ (w64 (p33.1 * (100 : Int)))))))) (ot 83 (.opt ((p33.2.2 && (decide ((w64 ((w64 ((1 : Int) + r9)) * (a0.length : Int))) ≤ (w64 (p33.1 * (100 : Int)))))) == true) (bo (decide ((w64 (p33.2.1 * (100 : Int))) < (w64 ((w64 ((1 : Int) + r9)) * (a0.length : Int)))))))))
              (oc (OpJ.val (v' := .d (.bool false)) (by rw [hg50]) (mv hN (ot 84 (bo ((p33.2.2 && (decide ((w64 ((w64 ((1 : Int) + r9)) * (a0.length : Int))) ≤ (w64 (p33.1 * (100 : Int)))))) && (decide ((w64 (p33.2.1 * (100 : Int))) < (w64 ((w64 ((1 : Int) + r9)) * (a0.length : Int))))))))))
              (oc (OpJ.skipU (ltN hN rfl) (by rfl))
              (oc (OpJ.pickF (ltN hN rfl) (ot 85 (bo false)) (Opd.bool false))
              (oc (OpJ.assign (ltN hN rfl) (ot 87 (bo false)))
              (OpJs.nil)))))))))))))))))))))))) (by rfl) (by rfl) ?_
            exact hjj49 _ h _ _ (Mat.trans (mp [] [(4, (bo false))] [] hB) (mp [] ((fun m48 : Bool => ([(4, (bo m48))] : EL)) false) ((fun m48 : Bool => ([] : OL)) false) hB))

noncomputable def exchangepointmill_New (a0 : (List Int)) : Option (exchangepointmill_Deck) :=
  some (exchangepointmill_Deck.mk a0 (0 : Int))
set_option maxHeartbeats 4000000 in
set_option maxRecDepth 100000 in
theorem exchangepointmill_New_ac (a0 : (List Int)) (r : exchangepointmill_Deck) (h : exchangepointmill_New a0 = some r) : AC Try.prog 11 [(.d (.list 1 (a0.map (eI .i64))))] [] (.ptr 1005 0 []) [(1005, some (.box 54 (.d (e_exchangepointmill_Deck r))))] := by
  refine AC.of_code2 Try.func11 rfl rfl (Nat.le_of_ble_eq_true (by rfl)) fun B hB hN => ?_
  delta exchangepointmill_New at h
  refine AWp.seq ?_
  refine AWp.region (oc (OpJ.assign (v := .junk) (ltN hN rfl) (Opd.junk _))
  (OpJs.nil)) (by rfl) (by rfl) ?_
  refine seqQ_n ?_
  refine AWp.ghost (mp [] [(0, (.d (.list 1 (a0.map (eI .i64)))))] [] hB) ?_
  refine AWp.seq ?_
  refine AWp.region (oc (mv hN (ot 0 (.d (.list 1 (a0.map (eI .i64))))))
  (oc (OpJ.coe (v := (.st [(.d (.list 1 (a0.map (eI .i64)))), (i6 (0 : Int))])) (y := (.st [(.list 1 (a0.map (eI .i64))), (.int .i64 (0 : Int))])) (Co.st (CoL.cons (Co.d _) (CoL.cons (Co.d _) CoL.nil))) rfl (OpJ.build (places := [(0, 1), (1, 1)]) ⟨Try.underlying54, fun w => by kernel_rfl⟩ tyZS54 (Opds.cons (ot 3 (.d (.list 1 (a0.map (eI .i64))))) Opds.nil) (by kernel_rfl) (r := (.st [(.d (.list 1 (a0.map (eI .i64)))), (i6 (0 : Int))])) (by rfl) (ltN hN rfl)))
  (oc (OpJ.box hB (nm := 1005) (by decide) (by simp) rfl (ltN hN rfl) (ot 4 (.d (.st [(.list 1 (a0.map (eI .i64))), (.int .i64 (0 : Int))]))))
  (oc (OpJ.assign (ltN hN rfl) (ot 5 (.ptr 1005 0 [])))
  (OpJs.nil))))) (by rfl) (by rfl) ?_
  refine seqQ_n ?_
  refine AWp.ghost (mp [] [(2, (.ptr 1005 0 []))] [(1005, some (.box 54 (.d (.st [(.list 1 (a0.map (eI .i64))), (.int .i64 (0 : Int))]))))] hB) ?_
  refine AWp.ret ?_
  obtain rfl := Option.some.inj h
  exact ⟨.inl rfl, _, _, (mp [] [(2, (.ptr 1005 0 []))] [(1005, some (.box 54 (.d (.st [(.list 1 (a0.map (eI .i64))), (.int .i64 (0 : Int))]))))] hB), [(.ptr 1005 0 [])], (Res.tmp (by rfl) (by rfl) Res.nil), rfl, by rfl, by rfl, by rfl⟩

noncomputable def exchangepointmill_Deck_Next (a0 : exchangepointmill_Deck) (a1 : Int) : Option (Int × exchangepointmill_Deck) :=
  (if (decide ((a0.fL.length : Int) ≤ a0.fAt)) = true then
  some ((0 : Int), a0)
  else
  (idx a0.fL (w64 ((w64 (a0.fAt + (1 : Int))) - (1 : Int)))).bind fun x2 =>
  (exchangepointmill_Mod x2 a1).bind fun r3 =>
  some (r3, (exchangepointmill_Deck.mk a0.fL (w64 (a0.fAt + (1 : Int))))))
set_option maxHeartbeats 4000000 in
set_option maxRecDepth 100000 in
theorem exchangepointmill_Deck_Next_ac (a0 : exchangepointmill_Deck) (a1 : Int) (r : Int × exchangepointmill_Deck) (h : exchangepointmill_Deck_Next a0 a1 = some r) : AC Try.prog 32 [(.ptr 0 0 []), (.d (.int .i64 a1))] [(0, (.box 54 (.d (e_exchangepointmill_Deck a0))))] (.d (.int .i64 r.1)) [(0, some (.box 54 (.d (e_exchangepointmill_Deck r.2))))] := by
  refine AC.of_code2 Try.func32 rfl rfl (Nat.le_of_ble_eq_true (by rfl)) fun B hB hN => ?_
  delta exchangepointmill_Deck_Next at h
  refine AWp.seq ?_
  refine AWp.region (oc (OpJ.assign (ltN hN rfl) (Opd.int .i64 (0)))
  (OpJs.nil)) (by rfl) (by rfl) ?_
  refine seqQ_n ?_
  refine AWp.ghost (mp [] [(0, (.ptr 0 0 [])), (1, (i6 a1))] [(0, some (.box 54 (.d (e_exchangepointmill_Deck a0))))] hB) ?_
  refine AWp.seq ?_
  refine AWp.seq ?_
  refine AWp.draws (by kernel_rfl) (oc (mv hN (ot 0 (.ptr 0 0 [])))
  (oc (OpJ.nilP (obj := (.box 54 (.d (e_exchangepointmill_Deck a0)))) (ltN hN rfl) (ot 5 (.ptr 0 0 [])))
  (oc (ov (.ptr 0 1 [1]) (fp hN Try.underlying54 1 tyS3 (.box 54 (.d (e_exchangepointmill_Deck a0))) (ot 6 (.ptr 0 0 []))))
  (oc (lb hN 54 (.d (e_exchangepointmill_Deck a0)) (i6 a0.fAt) tyS3 (ad (.int .i64 a0.fAt)) (ot 7 (.ptr 0 1 [1])))
  (oc (mv hN (ot 0 (.ptr 0 0 [])))
  (oc (OpJ.nilP (obj := (.box 54 (.d (e_exchangepointmill_Deck a0)))) (ltN hN rfl) (ot 9 (.ptr 0 0 [])))
  (oc (ov (.ptr 0 0 [0]) (fp hN Try.underlying54 0 tyS22 (.box 54 (.d (e_exchangepointmill_Deck a0))) (ot 10 (.ptr 0 0 []))))
  (oc (lb hN 54 (.d (e_exchangepointmill_Deck a0)) (.d (.list 1 (a0.fL.map (eI .i64)))) tyS22 (ad (.list 1 (a0.fL.map (eI .i64)))) (ot 11 (.ptr 0 0 [0])))
  (oc (OpJ.val (v' := (i6 (a0.fL.length : Int))) (by simp) (OpJ.lenD Try.underlying22 (ltN hN rfl) (ot 12 (.d (.list 1 (a0.fL.map (eI .i64)))))))
  (oc (OpJ.geq (ltN hN rfl) (ot 8 (i6 a0.fAt)) (ot 13 (i6 (a0.fL.length : Int))))
  (OpJs.nil))))))))))) (by kernel_rfl) (by rfl) (by rfl) ?_
  refine seqQ_n ?_
  refine AWp.ghost (mp [] [(0, (.ptr 0 0 [])), (1, (i6 a1)), (14, (bo (decide ((a0.fL.length : Int) ≤ a0.fAt))))] [(0, some (.box 54 (.d (e_exchangepointmill_Deck a0))))] hB) ?_
  refine AWp.cond (b := (decide ((a0.fL.length : Int) ≤ a0.fAt))) (by rfl) (fun hg1 => ?_) (fun hg1 => ?_)
  · replace h := ite_t hg1 h
    refine AWp.seq ?_
    refine AWp.region (oc (OpJ.assign (ltN hN rfl) (Opd.int .i64 (0)))
      (OpJs.nil)) (by rfl) (by rfl) ?_
    refine seqQ_n ?_
    refine AWp.ghost (mp [] [(4, (i6 (0 : Int)))] [(0, some (.box 54 (.d (e_exchangepointmill_Deck a0))))] hB) ?_
    refine AWp.ret ?_
    refine seqQ_r ?_
    obtain rfl := Option.some.inj h
    exact ⟨.inl rfl, _, _, (mp [] [(4, (i6 (0 : Int)))] [(0, some (.box 54 (.d (e_exchangepointmill_Deck a0))))] hB), [(i6 (0 : Int))], (Res.tmp (by rfl) (by rfl) Res.nil), rfl, by rfl, by rfl, by rfl⟩
  · replace h := ite_f hg1 h
    refine AWp.skip ?_
    refine seqQ_n ?_
    refine AWp.seq ?_
    refine AWp.region (oc (mv hN (ot 0 (.ptr 0 0 [])))
      (oc (OpJ.nilP (obj := (.box 54 (.d (e_exchangepointmill_Deck a0)))) (ltN hN rfl) (ot 15 (.ptr 0 0 [])))
      (oc (ov (.ptr 0 1 [1]) (fp hN Try.underlying54 1 tyS3 (.box 54 (.d (e_exchangepointmill_Deck a0))) (ot 16 (.ptr 0 0 []))))
      (oc (lb hN 54 (.d (e_exchangepointmill_Deck a0)) (i6 a0.fAt) tyS3 (ad (.int .i64 a0.fAt)) (ot 17 (.ptr 0 1 [1])))
      (oc (OpJ.add (ltN hN rfl) (ot 18 (i6 a0.fAt)) (Opd.int .i64 (1)))
      (oc (OpJ.nilP (obj := (.box 54 (.d (e_exchangepointmill_Deck a0)))) (ltN hN rfl) (ot 15 (.ptr 0 0 [])))
      (oc (ov (.ptr 0 1 [1]) (fp hN Try.underlying54 1 tyS3 (.box 54 (.d (e_exchangepointmill_Deck a0))) (ot 20 (.ptr 0 0 []))))
      (oc (OpJ.storeB (bt := 54) (c := (.d (e_exchangepointmill_Deck a0))) (v := (i6 (w64 (a0.fAt + (1 : Int))))) (c' := (.d (.st [(.list 1 (a0.fL.map (eI .i64))), (.int .i64 (w64 (a0.fAt + (1 : Int))))]))) tyS3 (SetAt.dst1 (f := (.int .i64 a0.fAt)) (f' := (.int .i64 (w64 (a0.fAt + (1 : Int))))) (by rfl) (by rfl) (SetAt.here _ _) (by rfl) (by rfl) (by first | rfl | omega)) (by rfl) (by rfl) (by simp) rfl (ot 21 (.ptr 0 1 [1])) (ot 19 (i6 (w64 (a0.fAt + (1 : Int))))))
      (OpJs.nil))))))))) (by rfl) (by rfl) ?_
    refine seqQ_n ?_
    refine AWp.ghost (mp [] [(0, (.ptr 0 0 [])), (1, (i6 a1))] [(0, some (.box 54 (.d (.st [(.list 1 (a0.fL.map (eI .i64))), (.int .i64 (w64 (a0.fAt + (1 : Int))))]))))] hB) ?_
    refine AWp.seq ?_
    obtain ⟨x2, hx2, h⟩ := bindS h
    obtain ⟨r3, hr3, h⟩ := bindS h
    refine AWp.draws (by kernel_rfl) (oc (mv hN (ot 0 (.ptr 0 0 [])))
      (oc (OpJ.nilP (obj := (.box 54 (.d (.st [(.list 1 (a0.fL.map (eI .i64))), (.int .i64 (w64 (a0.fAt + (1 : Int))))])))) (ltN hN rfl) (ot 22 (.ptr 0 0 [])))
      (oc (ov (.ptr 0 0 [0]) (fp hN Try.underlying54 0 tyS22 (.box 54 (.d (.st [(.list 1 (a0.fL.map (eI .i64))), (.int .i64 (w64 (a0.fAt + (1 : Int))))]))) (ot 23 (.ptr 0 0 []))))
      (oc (lb hN 54 (.d (.st [(.list 1 (a0.fL.map (eI .i64))), (.int .i64 (w64 (a0.fAt + (1 : Int))))])) (.d (.list 1 (a0.fL.map (eI .i64)))) tyS22 (ad (.list 1 (a0.fL.map (eI .i64)))) (ot 24 (.ptr 0 0 [0])))
      (oc (mv hN (ot 0 (.ptr 0 0 [])))
      (oc (OpJ.nilP (obj := (.box 54 (.d (.st [(.list 1 (a0.fL.map (eI .i64))), (.int .i64 (w64 (a0.fAt + (1 : Int))))])))) (ltN hN rfl) (ot 26 (.ptr 0 0 [])))
      (oc (ov (.ptr 0 1 [1]) (fp hN Try.underlying54 1 tyS3 (.box 54 (.d (.st [(.list 1 (a0.fL.map (eI .i64))), (.int .i64 (w64 (a0.fAt + (1 : Int))))]))) (ot 27 (.ptr 0 0 []))))
      (oc (lb hN 54 (.d (.st [(.list 1 (a0.fL.map (eI .i64))), (.int .i64 (w64 (a0.fAt + (1 : Int))))])) (i6 (w64 (a0.fAt + (1 : Int)))) tyS3 (ad (.int .i64 (w64 (a0.fAt + (1 : Int))))) (ot 28 (.ptr 0 1 [1])))
      (oc (OpJ.sub (ltN hN rfl) (ot 29 (i6 (w64 (a0.fAt + (1 : Int))))) (Opd.int .i64 (1)))
      (oc (OpJ.indexD (el := (.int .i64 x2)) Try.underlying22 tyS3 (idx_some hx2).1 (get_map (eI .i64) (idx_some hx2).2) (ltN hN rfl) (ot 25 (.d (.list 1 (a0.fL.map (eI .i64))))) (ot 30 (i6 (w64 ((w64 (a0.fAt + (1 : Int))) - (1 : Int))))))
      (oc (OpJ.loadD tyS3 (by rfl) (by rfl) (ltN hN rfl) (ot 31 (.dptr (.int .i64 x2))))
      (oc (mv hN (ot 1 (i6 a1)))
      (oc (OpJ.callFn hB fnOk10 (exchangepointmill_Mod_ac x2 a1 r3 hr3) [] (by kernel_rfl) (ltN hN rfl) (by kernel_rfl) (OpdL.cons (ot 32 (i6 x2)) (OpdL.cons (ot 33 (i6 a1)) OpdL.nil)))
      (oc (OpJ.assign (ltN hN rfl) (ot 34 (i6 r3)))
      (OpJs.nil))))))))))))))) (by kernel_rfl) (by rfl) (by rfl) ?_
    refine seqQ_n ?_
    refine AWp.ghost (mp [] [(4, (i6 r3))] [(0, some (.box 54 (.d (.st [(.list 1 (a0.fL.map (eI .i64))), (.int .i64 (w64 (a0.fAt + (1 : Int))))]))))] hB) ?_
    refine AWp.ret ?_
    obtain rfl := Option.some.inj h
    exact ⟨.inl rfl, _, _, (mp [] [(4, (i6 r3))] [(0, some (.box 54 (.d (.st [(.list 1 (a0.fL.map (eI .i64))), (.int .i64 (w64 (a0.fAt + (1 : Int))))]))))] hB), [(i6 r3)], (Res.tmp (by rfl) (by rfl) Res.nil), rfl, by rfl, by rfl, by rfl⟩

noncomputable def exchangepointmill_Deck_Series_L0 (x4 : Int) (s6 : Int × (List Int) × (List Int) × exchangepointmill_Deck) : Option (((exchangepointmill_Deck × (List Int) × (List Int))) ⊕ (Int × (List Int) × (List Int) × exchangepointmill_Deck)) :=
  (if (decide ((0 : Int) < s6.1)) = true then
  (exchangepointmill_Deck_Next s6.2.2.2 x4).bind fun r29 =>
  (exchangepointmill_Deck_Next r29.2 x4).bind fun r30 =>
  (exchangepointmill_Deck_Next r30.2 (6 : Int)).bind fun r31 =>
  jn (fun m33 : Int × Int =>
  chk (decide ((s6.2.2.1 ++ ([m33.1] : List Int)).length ≤ LIM)) <|
  chk (decide ((s6.2.1 ++ ([m33.2] : List Int)).length ≤ LIM)) <|
  some (.inr ((w64 (s6.1 - (1 : Int))), (s6.2.1 ++ ([m33.2] : List Int)), (s6.2.2.1 ++ ([m33.1] : List Int)), r31.2))) (fun j34 =>
  (if (r31.1 == (0 : Int)) = true then
  j34 ((-1 : Int), (-1 : Int))
  else
  j34 (r29.1, r30.1)))
  else
  some (.inl (s6.2.2.2, s6.2.1, s6.2.2.1)))
noncomputable def exchangepointmill_Deck_Series (a0 : exchangepointmill_Deck) (a1 : Int) : Option (api_Series × exchangepointmill_Deck) :=
  (exchangepointmill_Deck_Next a0 (3 : Int)).bind fun r1 =>
  (idx ([(300 : Int), (1 : Int), (60 : Int)] : List Int) r1.1).bind fun x2 =>
  (exchangepointmill_Deck_Next r1.2 (3 : Int)).bind fun r3 =>
  (idx ([(1048576 : Int), (17179869184 : Int), (1125899906842625 : Int)] : List Int) r3.1).bind fun x4 =>
  (exchangepointmill_Deck_Next r3.2 (30 : Int)).bind fun r5 =>
  (loop (exchangepointmill_Deck_Series_L0 x4) (r5.1, ([] : List Int), ([] : List Int), r5.2)).bind fun p27 =>
  some ((api_Series.mk a1 x2 p27.2.2 p27.2.1), p27.1)
set_option maxHeartbeats 4000000 in
set_option maxRecDepth 100000 in
theorem exchangepointmill_Deck_Series_ac (a0 : exchangepointmill_Deck) (a1 : Int) (r : api_Series × exchangepointmill_Deck) (h : exchangepointmill_Deck_Series a0 a1 = some r) : AC Try.prog 12 [(.ptr 0 0 []), (.d (.int .i64 a1))] [(0, (.box 54 (.d (e_exchangepointmill_Deck a0))))] (.d (e_api_Series r.1)) [(0, some (.box 54 (.d (e_exchangepointmill_Deck r.2))))] := by
  refine AC.of_code2 Try.func12 rfl rfl (Nat.le_of_ble_eq_true (by rfl)) fun B hB hN => ?_
  delta exchangepointmill_Deck_Series at h
  refine AWp.seq ?_
  refine AWp.region (oc (OpJ.alloc hB tyZ30 (nm := 1004) (by decide) (ltN hN rfl))
  (OpJs.nil)) (by rfl) (by rfl) ?_
  refine seqQ_n ?_
  refine AWp.ghost (mp [] [(0, (.ptr 0 0 [])), (1, (i6 a1)), (4, (.ptr 1004 0 []))] [(0, some (.box 54 (.d (e_exchangepointmill_Deck a0)))), (1004, some (.box 30 (.st [(i6 (0 : Int)), (i6 (0 : Int)), .nils, .nils])))] hB) ?_
  refine AWp.seq ?_
  obtain ⟨r1, hr1, h⟩ := bindS h
  obtain ⟨x2, hx2, h⟩ := bindS h
  refine AWp.region (oc (mv hN (ot 1 (i6 a1)))
  (oc (OpJ.buildSlice Try.underlying22 tyS3 tyZD3 (by rfl) (by decide) (by decide) (Opds.cons (Opd.int .i64 (300)) (Opds.cons (Opd.int .i64 (1)) (Opds.cons (Opd.int .i64 (60)) Opds.nil))) (by kernel_rfl) (es := ([(.int .i64 (300 : Int)), (.int .i64 (1 : Int)), (.int .i64 (60 : Int))] : List D)) (by rfl) (by rfl) (by kernel_rfl) (by simp) (ltN hN rfl))
  (oc (mv hN (ot 0 (.ptr 0 0 [])))
  (oc (OpJ.callFn hB fnOk32 (exchangepointmill_Deck_Next_ac a0 (3 : Int) r1 hr1) [(0, 0)] (by kernel_rfl) (ltN hN rfl) (by kernel_rfl) (OpdL.cons (ot 12 (.ptr 0 0 [])) (OpdL.cons (Opd.int .i64 (3)) OpdL.nil)))
  (oc (OpJ.indexD (el := (.int .i64 x2)) Try.underlying22 tyS3 (idx_some hx2).1 (get_map (eI .i64) (idx_some hx2).2) (ltN hN rfl) (ot 11 (.d (.list 1 (([(300 : Int), (1 : Int), (60 : Int)] : List Int).map (eI .i64))))) (ot 13 (i6 r1.1)))
  (oc (OpJ.loadD tyS3 (by rfl) (by rfl) (ltN hN rfl) (ot 14 (.dptr (.int .i64 x2))))
  (oc (OpJ.build (places := [(0, 1), (1, 1), (2, 1), (3, 1)]) ⟨Try.underlying30, fun w => by kernel_rfl⟩ tyZS30 (Opds.cons (ot 10 (i6 a1)) (Opds.cons (ot 15 (i6 x2)) Opds.nil)) (by kernel_rfl) (r := (.st [(i6 a1), (i6 x2), .nils, .nils])) (by rfl) (ltN hN rfl))
  (oc (OpJ.alloc hB tyZ30 (nm := 1005) (by decide) (ltN hN rfl))
  (oc (OpJ.storeB (bt := 30) (c := (.st [(i6 (0 : Int)), (i6 (0 : Int)), .nils, .nils])) (v := (.st [(i6 a1), (i6 x2), .nils, .nils])) (c' := (.st [(i6 a1), (i6 x2), .nils, .nils])) tyS30 (SetAt.here _ _) (by rfl) (by rfl) (by simp) rfl (ot 5 (.ptr 1005 0 [])) (ot 16 (.st [(i6 a1), (i6 x2), .nils, .nils])))
  (OpJs.nil)))))))))) (by rfl) (by rfl) ?_
  refine seqQ_n ?_
  refine AWp.ghost (mp [] [(0, (.ptr 0 0 [])), (4, (.ptr 1004 0 [])), (5, (.ptr 1005 0 []))] [(0, some (.box 54 (.d (e_exchangepointmill_Deck r1.2)))), (1004, some (.box 30 (.st [(i6 (0 : Int)), (i6 (0 : Int)), .nils, .nils]))), (1005, some (.box 30 (.st [(i6 a1), (i6 x2), .nils, .nils])))] hB) ?_
  refine AWp.seq ?_
  obtain ⟨r3, hr3, h⟩ := bindS h
  obtain ⟨x4, hx4, h⟩ := bindS h
  refine AWp.region (oc (OpJ.buildSlice Try.underlying22 tyS3 tyZD3 (by rfl) (by decide) (by decide) (Opds.cons (Opd.int .i64 (1048576)) (Opds.cons (Opd.int .i64 (17179869184)) (Opds.cons (Opd.int .i64 (1125899906842625)) Opds.nil))) (by kernel_rfl) (es := ([(.int .i64 (1048576 : Int)), (.int .i64 (17179869184 : Int)), (.int .i64 (1125899906842625 : Int))] : List D)) (by rfl) (by rfl) (by kernel_rfl) (by simp) (ltN hN rfl))
  (oc (mv hN (ot 0 (.ptr 0 0 [])))
  (oc (OpJ.callFn hB fnOk32 (exchangepointmill_Deck_Next_ac r1.2 (3 : Int) r3 hr3) [(0, 0)] (by kernel_rfl) (ltN hN rfl) (by kernel_rfl) (OpdL.cons (ot 18 (.ptr 0 0 [])) (OpdL.cons (Opd.int .i64 (3)) OpdL.nil)))
  (oc (OpJ.indexD (el := (.int .i64 x4)) Try.underlying22 tyS3 (idx_some hx4).1 (get_map (eI .i64) (idx_some hx4).2) (ltN hN rfl) (ot 17 (.d (.list 1 (([(1048576 : Int), (17179869184 : Int), (1125899906842625 : Int)] : List Int).map (eI .i64))))) (ot 19 (i6 r3.1)))
  (oc (OpJ.loadD tyS3 (by rfl) (by rfl) (ltN hN rfl) (ot 20 (.dptr (.int .i64 x4))))
  (oc (OpJ.assign (ltN hN rfl) (ot 21 (i6 x4)))
  (OpJs.nil))))))) (by rfl) (by rfl) ?_
  refine seqQ_n ?_
  refine AWp.ghost (mp [] [(0, (.ptr 0 0 [])), (4, (.ptr 1004 0 [])), (5, (.ptr 1005 0 [])), (6, (i6 x4))] [(0, some (.box 54 (.d (e_exchangepointmill_Deck r3.2)))), (1004, some (.box 30 (.st [(i6 (0 : Int)), (i6 (0 : Int)), .nils, .nils]))), (1005, some (.box 30 (.st [(i6 a1), (i6 x2), .nils, .nils])))] hB) ?_
  refine AWp.seq ?_
  refine AWp.seq ?_
  obtain ⟨r5, hr5, h⟩ := bindS h
  refine AWp.region (oc (mv hN (ot 0 (.ptr 0 0 [])))
  (oc (OpJ.callFn hB fnOk32 (exchangepointmill_Deck_Next_ac r3.2 (30 : Int) r5 hr5) [(0, 0)] (by kernel_rfl) (ltN hN rfl) (by kernel_rfl) (OpdL.cons (ot 22 (.ptr 0 0 [])) (OpdL.cons (Opd.int .i64 (30)) OpdL.nil)))
  (oc (OpJ.assign (ltN hN rfl) (ot 23 (i6 r5.1)))
  (OpJs.nil)))) (by rfl) (by rfl) ?_
  refine seqQ_n ?_
  refine AWp.ghost (mp [] [(0, (.ptr 0 0 [])), (4, (.ptr 1004 0 [])), (5, (.ptr 1005 0 [])), (6, (i6 x4)), (7, (i6 r5.1))] [(0, some (.box 54 (.d (e_exchangepointmill_Deck r5.2)))), (1004, some (.box 30 (.st [(i6 (0 : Int)), (i6 (0 : Int)), .nils, .nils]))), (1005, some (.box 30 (.st [(i6 a1), (i6 x2), .nils, .nils])))] hB) ?_
  refine AWp.block ?_
  obtain ⟨p27, hx39, h⟩ := bindS h
  refine AWp.ghost (Mat.trans (Mat.beginP (n := 13052) (e := 3) (sz := 1) (Ts := []) (Bs := [(1005, some (.box 30 (.st [(i6 a1), (i6 x2), (.sref 13052 1 0 0), .nils])))]) hB (by decide) (by rfl) (by decide) TwT.nil (TwB.cons (x := (.st [(i6 a1), (i6 x2), .nils, .nils])) (by rfl) (Tw.st (TwL.cons (Tw.same _) (TwL.cons (Tw.same _) (TwL.cons (Tw.leaf ⟨rfl, rfl⟩) (TwL.cons (Tw.same _) TwL.nil))))) TwB.nil)) (Mat.trans (Mat.beginP (n := 13053) (e := 3) (sz := 1) (Ts := []) (Bs := [(1005, some (.box 30 (.st [(i6 a1), (i6 x2), (.sref 13052 1 0 0), (.sref 13053 1 0 0)])))]) hB (by decide) (by rfl) (by decide) TwT.nil (TwB.cons (x := (.st [(i6 a1), (i6 x2), (.sref 13052 1 0 0), .nils])) (by rfl) (Tw.st (TwL.cons (Tw.same _) (TwL.cons (Tw.same _) (TwL.cons (Tw.same _) (TwL.cons (Tw.leaf ⟨rfl, rfl⟩) TwL.nil))))) TwB.nil)) (mp [] ((fun s6 : Int × (List Int) × (List Int) × exchangepointmill_Deck => ([(0, (.ptr 0 0 [])), (4, (.ptr 1004 0 [])), (5, (.ptr 1005 0 [])), (6, (i6 x4)), (7, (i6 s6.1))] : EL)) (r5.1, ([] : List Int), ([] : List Int), r5.2)) ((fun s6 : Int × (List Int) × (List Int) × exchangepointmill_Deck => ([(0, some (.box 54 (.d (e_exchangepointmill_Deck s6.2.2.2)))), (1004, some (.box 30 (.st [(i6 (0 : Int)), (i6 (0 : Int)), .nils, .nils]))), (1005, some (.box 30 (.st [(i6 a1), (i6 x2), (.sref 13052 1 0 s6.2.2.1.length), (.sref 13053 1 0 s6.2.1.length)]))), (13052, some (.row 3 1 (s6.2.2.1.map (eI .i64)))), (13053, some (.row 3 1 (s6.2.1.map (eI .i64))))] : OL)) (r5.1, ([] : List Int), ([] : List Int), r5.2)) hB))) ?_
  refine AWp.loopS (exchangepointmill_Deck_Series_L0 x4) (fun s6 : Int × (List Int) × (List Int) × exchangepointmill_Deck => ([(0, (.ptr 0 0 [])), (4, (.ptr 1004 0 [])), (5, (.ptr 1005 0 [])), (6, (i6 x4)), (7, (i6 s6.1))] : EL)) (fun s6 : Int × (List Int) × (List Int) × exchangepointmill_Deck => ([(0, some (.box 54 (.d (e_exchangepointmill_Deck s6.2.2.2)))), (1004, some (.box 30 (.st [(i6 (0 : Int)), (i6 (0 : Int)), .nils, .nils]))), (1005, some (.box 30 (.st [(i6 a1), (i6 x2), (.sref 13052 1 0 s6.2.2.1.length), (.sref 13053 1 0 s6.2.1.length)]))), (13052, some (.row 3 1 (s6.2.2.1.map (eI .i64)))), (13053, some (.row 3 1 (s6.2.1.map (eI .i64))))] : OL)) (fun (p27 : (exchangepointmill_Deck × (List Int) × (List Int))) e E' O' => e = .exit 0 ∧ Mat B E' O' ([(4, (.ptr 1004 0 [])), (5, (.ptr 1005 0 []))] : EL) ([(0, some (.box 54 (.d (e_exchangepointmill_Deck p27.1)))), (1004, some (.box 30 (.st [(i6 (0 : Int)), (i6 (0 : Int)), .nils, .nils]))), (1005, some (.box 30 (.st [(i6 a1), (i6 x2), (.sref 13052 1 0 p27.2.2.length), (.sref 13053 1 0 p27.2.1.length)]))), (13052, some (.row 3 1 (p27.2.2.map (eI .i64)))), (13053, some (.row 3 1 (p27.2.1.map (eI .i64))))] : OL)) hx39 (fun s6 y h => ?_) (fun e E' O' hR => ?_)
  · unfold exchangepointmill_Deck_Series_L0 at h
    show AWp _ _ _ _ ([(0, (.ptr 0 0 [])), (4, (.ptr 1004 0 [])), (5, (.ptr 1005 0 [])), (6, (i6 x4)), (7, (i6 s6.1))] : EL) ([(0, some (.box 54 (.d (e_exchangepointmill_Deck s6.2.2.2)))), (1004, some (.box 30 (.st [(i6 (0 : Int)), (i6 (0 : Int)), .nils, .nils]))), (1005, some (.box 30 (.st [(i6 a1), (i6 x2), (.sref 13052 1 0 s6.2.2.1.length), (.sref 13053 1 0 s6.2.1.length)]))), (13052, some (.row 3 1 (s6.2.2.1.map (eI .i64)))), (13053, some (.row 3 1 (s6.2.1.map (eI .i64))))] : OL)
    refine AWp.seq ?_
    refine AWp.seq ?_
    refine AWp.region (oc (mv hN (ot 7 (i6 s6.1)))
      (oc (OpJ.gtr (ltN hN rfl) (ot 24 (i6 s6.1)) (Opd.int .i64 (0)))
      (OpJs.nil))) (by rfl) (by rfl) ?_
    refine seqQ_n ?_
    refine AWp.ghost (mp [] [(0, (.ptr 0 0 [])), (4, (.ptr 1004 0 [])), (5, (.ptr 1005 0 [])), (6, (i6 x4)), (7, (i6 s6.1)), (25, (bo (decide ((0 : Int) < s6.1))))] [(0, some (.box 54 (.d (e_exchangepointmill_Deck s6.2.2.2)))), (1004, some (.box 30 (.st [(i6 (0 : Int)), (i6 (0 : Int)), .nils, .nils]))), (1005, some (.box 30 (.st [(i6 a1), (i6 x2), (.sref 13052 1 0 s6.2.2.1.length), (.sref 13053 1 0 s6.2.1.length)]))), (13052, some (.row 3 1 (s6.2.2.1.map (eI .i64)))), (13053, some (.row 3 1 (s6.2.1.map (eI .i64))))] hB) ?_
    refine AWp.cond (b := (decide ((0 : Int) < s6.1))) (by rfl) (fun hg28 => ?_) (fun hg28 => ?_)
    · replace h := ite_t hg28 h
      refine AWp.skip ?_
      refine seqQ_n ?_
      refine AWp.seq ?_
      refine AWp.block ?_
      refine AWp.seq ?_
      obtain ⟨r29, hr29, h⟩ := bindS h
      obtain ⟨r30, hr30, h⟩ := bindS h
      refine AWp.region (oc (mv hN (ot 0 (.ptr 0 0 [])))
        (oc (mv hN (ot 6 (i6 x4)))
        (oc (OpJ.callFn hB fnOk32 (exchangepointmill_Deck_Next_ac s6.2.2.2 x4 r29 hr29) [(0, 0)] (by kernel_rfl) (ltN hN rfl) (by kernel_rfl) (OpdL.cons (ot 28 (.ptr 0 0 [])) (OpdL.cons (ot 29 (i6 x4)) OpdL.nil)))
        (oc (mv hN (ot 0 (.ptr 0 0 [])))
        (oc (mv hN (ot 6 (i6 x4)))
        (oc (OpJ.callFn hB fnOk32 (exchangepointmill_Deck_Next_ac r29.2 x4 r30 hr30) [(0, 0)] (by kernel_rfl) (ltN hN rfl) (by kernel_rfl) (OpdL.cons (ot 31 (.ptr 0 0 [])) (OpdL.cons (ot 32 (i6 x4)) OpdL.nil)))
        (oc (OpJ.assign (ltN hN rfl) (ot 30 (i6 r29.1)))
        (oc (OpJ.assign (ltN hN rfl) (ot 33 (i6 r30.1)))
        (OpJs.nil))))))))) (by rfl) (by rfl) ?_
      refine seqQ_n ?_
      refine AWp.ghost (mp [] [(0, (.ptr 0 0 [])), (4, (.ptr 1004 0 [])), (5, (.ptr 1005 0 [])), (6, (i6 x4)), (7, (i6 s6.1)), (8, (i6 r29.1)), (9, (i6 r30.1))] [(0, some (.box 54 (.d (e_exchangepointmill_Deck r30.2)))), (1004, some (.box 30 (.st [(i6 (0 : Int)), (i6 (0 : Int)), .nils, .nils]))), (1005, some (.box 30 (.st [(i6 a1), (i6 x2), (.sref 13052 1 0 s6.2.2.1.length), (.sref 13053 1 0 s6.2.1.length)]))), (13052, some (.row 3 1 (s6.2.2.1.map (eI .i64)))), (13053, some (.row 3 1 (s6.2.1.map (eI .i64))))] hB) ?_
      refine AWp.seq ?_
      refine AWp.seq ?_
      obtain ⟨r31, hr31, h⟩ := bindS h
      refine AWp.region (oc (mv hN (ot 0 (.ptr 0 0 [])))
        (oc (OpJ.callFn hB fnOk32 (exchangepointmill_Deck_Next_ac r30.2 (6 : Int) r31 hr31) [(0, 0)] (by kernel_rfl) (ltN hN rfl) (by kernel_rfl) (OpdL.cons (ot 34 (.ptr 0 0 [])) (OpdL.cons (Opd.int .i64 (6)) OpdL.nil)))
        (oc (OpJ.eqlI (ltN hN rfl) (ot 35 (i6 r31.1)) (Opd.int .i64 (0)))
        (OpJs.nil)))) (by rfl) (by rfl) ?_
      refine seqQ_n ?_
      refine AWp.ghost (mp [] [(0, (.ptr 0 0 [])), (4, (.ptr 1004 0 [])), (5, (.ptr 1005 0 [])), (6, (i6 x4)), (7, (i6 s6.1)), (8, (i6 r29.1)), (9, (i6 r30.1)), (36, (bo (r31.1 == (0 : Int))))] [(0, some (.box 54 (.d (e_exchangepointmill_Deck r31.2)))), (1004, some (.box 30 (.st [(i6 (0 : Int)), (i6 (0 : Int)), .nils, .nils]))), (1005, some (.box 30 (.st [(i6 a1), (i6 x2), (.sref 13052 1 0 s6.2.2.1.length), (.sref 13053 1 0 s6.2.1.length)]))), (13052, some (.row 3 1 (s6.2.2.1.map (eI .i64)))), (13053, some (.row 3 1 (s6.2.1.map (eI .i64))))] hB) ?_
      refine AWp.cut h (fun m33 : Int × Int => ([(0, (.ptr 0 0 [])), (4, (.ptr 1004 0 [])), (5, (.ptr 1005 0 [])), (6, (i6 x4)), (7, (i6 s6.1)), (8, (i6 m33.1)), (9, (i6 m33.2))] : EL)) (fun m33 : Int × Int => ([(0, some (.box 54 (.d (e_exchangepointmill_Deck r31.2)))), (1004, some (.box 30 (.st [(i6 (0 : Int)), (i6 (0 : Int)), .nils, .nils]))), (1005, some (.box 30 (.st [(i6 a1), (i6 x2), (.sref 13052 1 0 s6.2.2.1.length), (.sref 13053 1 0 s6.2.1.length)]))), (13052, some (.row 3 1 (s6.2.2.1.map (eI .i64)))), (13053, some (.row 3 1 (s6.2.1.map (eI .i64))))] : OL)) (fun m33 h E' O' hmat => ?_) (fun j34 hjj34 h => ?_)
      · refine seqQ_n ?_
        refine AWp.ghost hmat ?_
        obtain ⟨hc35, h⟩ := chk_some h
        obtain ⟨hc36, h⟩ := chk_some h
        refine AWp.draws (by kernel_rfl) (oc (ov (.ptr 1005 2 [2]) (fp hN Try.underlying30 2 tyS22 (.box 30 (.st [(i6 a1), (i6 x2), (.sref 13052 1 0 s6.2.2.1.length), (.sref 13053 1 0 s6.2.1.length)])) (ot 5 (.ptr 1005 0 []))))
          (oc (lb hN 30 (.st [(i6 a1), (i6 x2), (.sref 13052 1 0 s6.2.2.1.length), (.sref 13053 1 0 s6.2.1.length)]) (.sref 13052 1 0 s6.2.2.1.length) tyS22 (At.st1 (f := (.sref 13052 1 0 s6.2.2.1.length)) (by rfl) (by rfl) (At.here _) (by first | rfl | omega)) (ot 37 (.ptr 1005 2 [2])))
          (oc (mv hN (ot 8 (i6 m33.1)))
          (oc (OpJ.buildSlice Try.underlying22 tyS3 tyZD3 (by rfl) (by decide) (by decide) (Opds.cons (ot 39 (i6 m33.1)) Opds.nil) (by kernel_rfl) (es := ([(.int .i64 m33.1)] : List D)) (by rfl) (by rfl) (by kernel_rfl) (by simp) (ltN hN rfl))
          (oc (OpJ.append hB Try.underlying22 tyE3 (nm := 1041) (by decide) (es := s6.2.2.1.map (eI .i64)) (ys := ([m33.1] : List Int).map (eI .i64)) (es' := (s6.2.2.1 ++ ([m33.1] : List Int)).map (eI .i64)) (len := (s6.2.2.1 ++ ([m33.1] : List Int)).length) (by simp) (by simp) (map_sz (f := (eI .i64)) (fun _ => rfl)) (by rw [List.length_map]; exact lim_mulN hc35 (by decide)) (by rw [List.length_map]; exact lim_leN hc35) (ltN hN rfl) (by simp) (ot 38 (.sref 13052 1 0 s6.2.2.1.length)) (ot 40 (.d (.list 1 (([m33.1] : List Int).map (eI .i64))))))
          (oc (ov (.ptr 1005 3 [3]) (fp hN Try.underlying30 3 tyS22 (.box 30 (.st [(i6 a1), (i6 x2), (.sref 13052 1 0 s6.2.2.1.length), (.sref 13053 1 0 s6.2.1.length)])) (ot 5 (.ptr 1005 0 []))))
          (oc (lb hN 30 (.st [(i6 a1), (i6 x2), (.sref 13052 1 0 s6.2.2.1.length), (.sref 13053 1 0 s6.2.1.length)]) (.sref 13053 1 0 s6.2.1.length) tyS22 (At.st1 (f := (.sref 13053 1 0 s6.2.1.length)) (by rfl) (by rfl) (At.here _) (by first | rfl | omega)) (ot 42 (.ptr 1005 3 [3])))
          (oc (mv hN (ot 9 (i6 m33.2)))
          (oc (OpJ.buildSlice Try.underlying22 tyS3 tyZD3 (by rfl) (by decide) (by decide) (Opds.cons (ot 44 (i6 m33.2)) Opds.nil) (by kernel_rfl) (es := ([(.int .i64 m33.2)] : List D)) (by rfl) (by rfl) (by kernel_rfl) (by simp) (ltN hN rfl))
          (oc (OpJ.append hB Try.underlying22 tyE3 (nm := 1046) (by decide) (es := s6.2.1.map (eI .i64)) (ys := ([m33.2] : List Int).map (eI .i64)) (es' := (s6.2.1 ++ ([m33.2] : List Int)).map (eI .i64)) (len := (s6.2.1 ++ ([m33.2] : List Int)).length) (by simp) (by simp) (map_sz (f := (eI .i64)) (fun _ => rfl)) (by rw [List.length_map]; exact lim_mulN hc36 (by decide)) (by rw [List.length_map]; exact lim_leN hc36) (ltN hN rfl) (by simp) (ot 43 (.sref 13053 1 0 s6.2.1.length)) (ot 45 (.d (.list 1 (([m33.2] : List Int).map (eI .i64))))))
          (oc (ov (.ptr 1005 2 [2]) (fp hN Try.underlying30 2 tyS22 (.box 30 (.st [(i6 a1), (i6 x2), (.sref 13052 1 0 s6.2.2.1.length), (.sref 13053 1 0 s6.2.1.length)])) (ot 5 (.ptr 1005 0 []))))
          (oc (OpJ.storeB (bt := 30) (c := (.st [(i6 a1), (i6 x2), (.sref 13052 1 0 s6.2.2.1.length), (.sref 13053 1 0 s6.2.1.length)])) (v := (.sref 1041 1 0 ((s6.2.2.1 ++ ([m33.1] : List Int)).length))) (c' := (.st [(i6 a1), (i6 x2), (.sref 1041 1 0 ((s6.2.2.1 ++ ([m33.1] : List Int)).length)), (.sref 13053 1 0 s6.2.1.length)])) tyS22 (SetAt.st1 (f := (.sref 13052 1 0 s6.2.2.1.length)) (by rfl) (by rfl) (SetAt.here _ _) (by rfl) (by rfl) (by first | rfl | omega)) (by rfl) (by rfl) (by simp) rfl (ot 47 (.ptr 1005 2 [2])) (ot 41 (.sref 1041 1 0 ((s6.2.2.1 ++ ([m33.1] : List Int)).length))))
          (oc (ov (.ptr 1005 3 [3]) (fp hN Try.underlying30 3 tyS22 (.box 30 (.st [(i6 a1), (i6 x2), (.sref 1041 1 0 ((s6.2.2.1 ++ ([m33.1] : List Int)).length)), (.sref 13053 1 0 s6.2.1.length)])) (ot 5 (.ptr 1005 0 []))))
          (oc (OpJ.storeB (bt := 30) (c := (.st [(i6 a1), (i6 x2), (.sref 1041 1 0 ((s6.2.2.1 ++ ([m33.1] : List Int)).length)), (.sref 13053 1 0 s6.2.1.length)])) (v := (.sref 1046 1 0 ((s6.2.1 ++ ([m33.2] : List Int)).length))) (c' := (.st [(i6 a1), (i6 x2), (.sref 1041 1 0 ((s6.2.2.1 ++ ([m33.1] : List Int)).length)), (.sref 1046 1 0 ((s6.2.1 ++ ([m33.2] : List Int)).length))])) tyS22 (SetAt.st1 (f := (.sref 13053 1 0 s6.2.1.length)) (by rfl) (by rfl) (SetAt.here _ _) (by rfl) (by rfl) (by first | rfl | omega)) (by rfl) (by rfl) (by simp) rfl (ot 48 (.ptr 1005 3 [3])) (ot 46 (.sref 1046 1 0 ((s6.2.1 ++ ([m33.2] : List Int)).length))))
          (OpJs.nil))))))))))))))) (by kernel_rfl) (by rfl) (by rfl) ?_
        refine blkQ_n ?_
        refine seqQ_n ?_
        refine AWp.ghost (mp [] [(0, (.ptr 0 0 [])), (4, (.ptr 1004 0 [])), (5, (.ptr 1005 0 [])), (6, (i6 x4)), (7, (i6 s6.1))] [(0, some (.box 54 (.d (e_exchangepointmill_Deck r31.2)))), (1004, some (.box 30 (.st [(i6 (0 : Int)), (i6 (0 : Int)), .nils, .nils]))), (1005, some (.box 30 (.st [(i6 a1), (i6 x2), (.sref 1041 1 0 ((s6.2.2.1 ++ ([m33.1] : List Int)).length)), (.sref 1046 1 0 ((s6.2.1 ++ ([m33.2] : List Int)).length))]))), (1041, some (.row 3 1 ((s6.2.2.1 ++ ([m33.1] : List Int)).map (eI .i64)))), (1046, some (.row 3 1 ((s6.2.1 ++ ([m33.2] : List Int)).map (eI .i64))))] hB) ?_
        refine AWp.region (oc (mv hN (ot 7 (i6 s6.1)))
          (oc (OpJ.sub (ltN hN rfl) (ot 26 (i6 s6.1)) (Opd.int .i64 (1)))
          (oc (OpJ.assign (ltN hN rfl) (ot 27 (i6 (w64 (s6.1 - (1 : Int))))))
          (OpJs.nil)))) (by rfl) (by rfl) ?_
        obtain rfl := Option.some.inj h
        exact ⟨rfl, (Mat.trans (mp [] [(0, (.ptr 0 0 [])), (4, (.ptr 1004 0 [])), (5, (.ptr 1005 0 [])), (6, (i6 x4)), (7, (i6 (w64 (s6.1 - (1 : Int)))))] [(0, some (.box 54 (.d (e_exchangepointmill_Deck r31.2)))), (1004, some (.box 30 (.st [(i6 (0 : Int)), (i6 (0 : Int)), .nils, .nils]))), (1005, some (.box 30 (.st [(i6 a1), (i6 x2), (.sref 1041 1 0 ((s6.2.2.1 ++ ([m33.1] : List Int)).length)), (.sref 1046 1 0 ((s6.2.1 ++ ([m33.2] : List Int)).length))]))), (1041, some (.row 3 1 ((s6.2.2.1 ++ ([m33.1] : List Int)).map (eI .i64)))), (1046, some (.row 3 1 ((s6.2.1 ++ ([m33.2] : List Int)).map (eI .i64))))] hB) (mp [(13052, 1041), (13053, 1046)] ((fun s6 : Int × (List Int) × (List Int) × exchangepointmill_Deck => ([(0, (.ptr 0 0 [])), (4, (.ptr 1004 0 [])), (5, (.ptr 1005 0 [])), (6, (i6 x4)), (7, (i6 s6.1))] : EL)) ((w64 (s6.1 - (1 : Int))), (s6.2.1 ++ ([m33.2] : List Int)), (s6.2.2.1 ++ ([m33.1] : List Int)), r31.2)) ((fun s6 : Int × (List Int) × (List Int) × exchangepointmill_Deck => ([(0, some (.box 54 (.d (e_exchangepointmill_Deck s6.2.2.2)))), (1004, some (.box 30 (.st [(i6 (0 : Int)), (i6 (0 : Int)), .nils, .nils]))), (1005, some (.box 30 (.st [(i6 a1), (i6 x2), (.sref 13052 1 0 s6.2.2.1.length), (.sref 13053 1 0 s6.2.1.length)]))), (13052, some (.row 3 1 (s6.2.2.1.map (eI .i64)))), (13053, some (.row 3 1 (s6.2.1.map (eI .i64))))] : OL)) ((w64 (s6.1 - (1 : Int))), (s6.2.1 ++ ([m33.2] : List Int)), (s6.2.2.1 ++ ([m33.1] : List Int)), r31.2)) hB))⟩
      · refine AWp.cond (b := (r31.1 == (0 : Int))) (by rfl) (fun hg37 => ?_) (fun hg37 => ?_)
        · replace h := ite_t hg37 h
          refine AWp.region (oc (OpJ.assign (ltN hN rfl) (Opd.int .i64 (-1)))
            (oc (OpJ.assign (ltN hN rfl) (Opd.int .i64 (-1)))
            (OpJs.nil))) (by rfl) (by rfl) ?_
          exact hjj34 _ h _ _ (Mat.trans (mp [] [(0, (.ptr 0 0 [])), (4, (.ptr 1004 0 [])), (5, (.ptr 1005 0 [])), (6, (i6 x4)), (7, (i6 s6.1)), (8, (i6 (-1 : Int))), (9, (i6 (-1 : Int)))] [(0, some (.box 54 (.d (e_exchangepointmill_Deck r31.2)))), (1004, some (.box 30 (.st [(i6 (0 : Int)), (i6 (0 : Int)), .nils, .nils]))), (1005, some (.box 30 (.st [(i6 a1), (i6 x2), (.sref 13052 1 0 s6.2.2.1.length), (.sref 13053 1 0 s6.2.1.length)]))), (13052, some (.row 3 1 (s6.2.2.1.map (eI .i64)))), (13053, some (.row 3 1 (s6.2.1.map (eI .i64))))] hB) (mp [] ((fun m33 : Int × Int => ([(0, (.ptr 0 0 [])), (4, (.ptr 1004 0 [])), (5, (.ptr 1005 0 [])), (6, (i6 x4)), (7, (i6 s6.1)), (8, (i6 m33.1)), (9, (i6 m33.2))] : EL)) ((-1 : Int), (-1 : Int))) ((fun m33 : Int × Int => ([(0, some (.box 54 (.d (e_exchangepointmill_Deck r31.2)))), (1004, some (.box 30 (.st [(i6 (0 : Int)), (i6 (0 : Int)), .nils, .nils]))), (1005, some (.box 30 (.st [(i6 a1), (i6 x2), (.sref 13052 1 0 s6.2.2.1.length), (.sref 13053 1 0 s6.2.1.length)]))), (13052, some (.row 3 1 (s6.2.2.1.map (eI .i64)))), (13053, some (.row 3 1 (s6.2.1.map (eI .i64))))] : OL)) ((-1 : Int), (-1 : Int))) hB))
        · replace h := ite_f hg37 h
          refine AWp.skip ?_
          exact hjj34 _ h _ _ (mp [] ((fun m33 : Int × Int => ([(0, (.ptr 0 0 [])), (4, (.ptr 1004 0 [])), (5, (.ptr 1005 0 [])), (6, (i6 x4)), (7, (i6 s6.1)), (8, (i6 m33.1)), (9, (i6 m33.2))] : EL)) (r29.1, r30.1)) ((fun m33 : Int × Int => ([(0, some (.box 54 (.d (e_exchangepointmill_Deck r31.2)))), (1004, some (.box 30 (.st [(i6 (0 : Int)), (i6 (0 : Int)), .nils, .nils]))), (1005, some (.box 30 (.st [(i6 a1), (i6 x2), (.sref 13052 1 0 s6.2.2.1.length), (.sref 13053 1 0 s6.2.1.length)]))), (13052, some (.row 3 1 (s6.2.2.1.map (eI .i64)))), (13053, some (.row 3 1 (s6.2.1.map (eI .i64))))] : OL)) (r29.1, r30.1)) hB)
    · replace h := ite_f hg28 h
      refine AWp.exit ?_
      refine seqQ_e ?_
      obtain rfl := Option.some.inj h
      exact ⟨(fun hc => by cases hc), rfl, (mp [] ((fun p27 : exchangepointmill_Deck × (List Int) × (List Int) => ([(4, (.ptr 1004 0 [])), (5, (.ptr 1005 0 []))] : EL)) (s6.2.2.2, s6.2.1, s6.2.2.1)) ((fun p27 : exchangepointmill_Deck × (List Int) × (List Int) => ([(0, some (.box 54 (.d (e_exchangepointmill_Deck p27.1)))), (1004, some (.box 30 (.st [(i6 (0 : Int)), (i6 (0 : Int)), .nils, .nils]))), (1005, some (.box 30 (.st [(i6 a1), (i6 x2), (.sref 13052 1 0 p27.2.2.length), (.sref 13053 1 0 p27.2.1.length)]))), (13052, some (.row 3 1 (p27.2.2.map (eI .i64)))), (13053, some (.row 3 1 (p27.2.1.map (eI .i64))))] : OL)) (s6.2.2.2, s6.2.1, s6.2.2.1)) hB)⟩
  · obtain ⟨rfl, hmat⟩ := hR
    refine blkQ_hit ?_
    refine seqQ_n ?_
    refine AWp.ghost hmat ?_
    refine AWp.seq ?_
    refine AWp.region (oc (lb hN 30 (.st [(i6 a1), (i6 x2), (.sref 13052 1 0 p27.2.2.length), (.sref 13053 1 0 p27.2.1.length)]) (.st [(i6 a1), (i6 x2), (.sref 13052 1 0 p27.2.2.length), (.sref 13053 1 0 p27.2.1.length)]) tyS30 (At.here _) (ot 5 (.ptr 1005 0 [])))
      (oc (OpJ.storeB (bt := 30) (c := (.st [(i6 (0 : Int)), (i6 (0 : Int)), .nils, .nils])) (v := (.st [(i6 a1), (i6 x2), (.sref 13052 1 0 p27.2.2.length), (.sref 13053 1 0 p27.2.1.length)])) (c' := (.st [(i6 a1), (i6 x2), (.sref 13052 1 0 p27.2.2.length), (.sref 13053 1 0 p27.2.1.length)])) tyS30 (SetAt.here _ _) (by rfl) (by rfl) (by simp) rfl (ot 4 (.ptr 1004 0 [])) (ot 49 (.st [(i6 a1), (i6 x2), (.sref 13052 1 0 p27.2.2.length), (.sref 13053 1 0 p27.2.1.length)])))
      (OpJs.nil))) (by rfl) (by rfl) ?_
    refine seqQ_n ?_
    refine AWp.ghost (mp [] [(4, (.ptr 1004 0 []))] [(0, some (.box 54 (.d (e_exchangepointmill_Deck p27.1)))), (1004, some (.box 30 (.st [(i6 a1), (i6 x2), (.sref 13052 1 0 p27.2.2.length), (.sref 13053 1 0 p27.2.1.length)]))), (13052, some (.row 3 1 (p27.2.2.map (eI .i64)))), (13053, some (.row 3 1 (p27.2.1.map (eI .i64))))] hB) ?_
    refine AWp.ret ?_
    obtain rfl := Option.some.inj h
    exact ⟨.inl rfl, _, _, (Mat.trans (Mat.freezeP (n := 13052) (e := 3) (sz := 1) (es := p27.2.2.map (eI .i64)) (Ts := []) (Bs := [(1004, some (.box 30 (.st [(i6 a1), (i6 x2), (.d (.list 1 (p27.2.2.map (eI .i64)))), (.sref 13053 1 0 p27.2.1.length)])))]) (by rfl) TwT.nil (TwB.cons (x := (.st [(i6 a1), (i6 x2), (.sref 13052 1 0 p27.2.2.length), (.sref 13053 1 0 p27.2.1.length)])) (by rfl) (Tw.st (TwL.cons (Tw.same _) (TwL.cons (Tw.same _) (TwL.cons (FrzL.all (by first | rfl | (simp; done) | (simp; omega))) (TwL.cons (Tw.same _) TwL.nil))))) TwB.nil)) (Mat.trans (Mat.freezeP (n := 13053) (e := 3) (sz := 1) (es := p27.2.1.map (eI .i64)) (Ts := []) (Bs := [(1004, some (.box 30 (.st [(i6 a1), (i6 x2), (.d (.list 1 (p27.2.2.map (eI .i64)))), (.d (.list 1 (p27.2.1.map (eI .i64))))])))]) (by rfl) TwT.nil (TwB.cons (x := (.st [(i6 a1), (i6 x2), (.d (.list 1 (p27.2.2.map (eI .i64)))), (.sref 13053 1 0 p27.2.1.length)])) (by rfl) (Tw.st (TwL.cons (Tw.same _) (TwL.cons (Tw.same _) (TwL.cons (Tw.same _) (TwL.cons (FrzL.all (by first | rfl | (simp; done) | (simp; omega))) TwL.nil))))) TwB.nil)) (Mat.trans (Mat.coeP (Ts := []) (Bs := [(1004, some (.box 30 (.d (.st [(.int .i64 a1), (.int .i64 x2), (.list 1 (p27.2.2.map (eI .i64))), (.list 1 (p27.2.1.map (eI .i64)))]))))]) TwT.nil (TwB.cons (x := (.st [(i6 a1), (i6 x2), (.d (.list 1 (p27.2.2.map (eI .i64)))), (.d (.list 1 (p27.2.1.map (eI .i64))))])) (by rfl) (Tw.leaf ⟨_, (Co.st (CoL.cons (Co.d _) (CoL.cons (Co.d _) (CoL.cons (Co.d _) (CoL.cons (Co.d _) CoL.nil))))), rfl⟩) TwB.nil)) (mp [] [(4, (.ptr 1004 0 []))] [(0, some (.box 54 (.d (e_exchangepointmill_Deck p27.1)))), (1004, some (.box 30 (.d (.st [(.int .i64 a1), (.int .i64 x2), (.list 1 (p27.2.2.map (eI .i64))), (.list 1 (p27.2.1.map (eI .i64)))]))))] hB)))), [(.d (.st [(.int .i64 a1), (.int .i64 x2), (.list 1 (p27.2.2.map (eI .i64))), (.list 1 (p27.2.1.map (eI .i64)))]))], (Res.cell (c := (.d (.st [(.int .i64 a1), (.int .i64 x2), (.list 1 (p27.2.2.map (eI .i64))), (.list 1 (p27.2.1.map (eI .i64)))]))) (by rfl) (by rfl) tyS30 (by rfl) (by rfl) (by rfl) Res.nil), rfl, by rfl, by rfl, by rfl⟩

noncomputable def exchangepointref40_Copy (a0 : api_Series) : Option (api_Series) :=
  chk (decide (a0.fIn.length ≤ LIM)) <|
  chk (decide (a0.fOut.length ≤ LIM)) <|
  some (api_Series.mk a0.fPort a0.fSeconds a0.fIn a0.fOut)
set_option maxHeartbeats 4000000 in
set_option maxRecDepth 100000 in
theorem exchangepointref40_Copy_ac (a0 : api_Series) (r : api_Series) (h : exchangepointref40_Copy a0 = some r) : AC Try.prog 13 [(.d (e_api_Series a0))] [] (.d (e_api_Series r)) [] := by
  refine AC.of_code2 Try.func13 rfl rfl (Nat.le_of_ble_eq_true (by rfl)) fun B hB hN => ?_
  delta exchangepointref40_Copy at h
  refine AWp.seq ?_
  refine AWp.region (oc (OpJ.box hB (nm := 1001) (by decide) (by simp) rfl (ltN hN rfl) (ot 0 (.d (e_api_Series a0))))
  (oc (OpJ.alloc hB tyZ30 (nm := 1002) (by decide) (ltN hN rfl))
  (OpJs.nil))) (by rfl) (by rfl) ?_
  refine seqQ_n ?_
  refine AWp.ghost (mp [] [(1, (.ptr 1001 0 [])), (2, (.ptr 1002 0 []))] [(1001, some (.box 30 (.d (e_api_Series a0)))), (1002, some (.box 30 (.st [(i6 (0 : Int)), (i6 (0 : Int)), .nils, .nils])))] hB) ?_
  refine AWp.seq ?_
  obtain ⟨hc1, h⟩ := chk_some h
  obtain ⟨hc2, h⟩ := chk_some h
  refine AWp.draws (by kernel_rfl) (oc (ov (.ptr 1001 2 [2]) (fp hN Try.underlying30 2 tyS22 (.box 30 (.d (e_api_Series a0))) (ot 1 (.ptr 1001 0 []))))
  (oc (lb hN 30 (.d (e_api_Series a0)) (.d (.list 1 (a0.fIn.map (eI .i64)))) tyS22 (ad (.list 1 (a0.fIn.map (eI .i64)))) (ot 3 (.ptr 1001 2 [2])))
  (oc (OpJ.appendN hB Try.underlying22 tyE3 (nm := 1005) (by decide) (ys := a0.fIn.map (eI .i64)) (len := a0.fIn.length) (by simp) (map_sz (f := (eI .i64)) (fun _ => rfl)) (by rw [List.length_map]; exact lim_mulN hc1 (by decide)) (by rw [List.length_map]; exact lim_leN hc1) (ltN hN rfl) Opd.nils (ot 4 (.d (.list 1 (a0.fIn.map (eI .i64))))))
  (oc (ov (.ptr 1001 3 [3]) (fp hN Try.underlying30 3 tyS22 (.box 30 (.d (e_api_Series a0))) (ot 1 (.ptr 1001 0 []))))
  (oc (lb hN 30 (.d (e_api_Series a0)) (.d (.list 1 (a0.fOut.map (eI .i64)))) tyS22 (ad (.list 1 (a0.fOut.map (eI .i64)))) (ot 6 (.ptr 1001 3 [3])))
  (oc (OpJ.appendN hB Try.underlying22 tyE3 (nm := 1008) (by decide) (ys := a0.fOut.map (eI .i64)) (len := a0.fOut.length) (by simp) (map_sz (f := (eI .i64)) (fun _ => rfl)) (by rw [List.length_map]; exact lim_mulN hc2 (by decide)) (by rw [List.length_map]; exact lim_leN hc2) (ltN hN rfl) Opd.nils (ot 7 (.d (.list 1 (a0.fOut.map (eI .i64))))))
  (oc (ov (.ptr 1001 2 [2]) (fp hN Try.underlying30 2 tyS22 (.box 30 (.d (e_api_Series a0))) (ot 1 (.ptr 1001 0 []))))
  (oc (OpJ.storeB (bt := 30) (c := (.d (e_api_Series a0))) (v := (.sref 1005 1 0 a0.fIn.length)) (c' := (.st [(i6 a0.fPort), (i6 a0.fSeconds), (.sref 1005 1 0 a0.fIn.length), (.d (.list 1 (a0.fOut.map (eI .i64))))])) tyS22 (SetAt.lift (fs := [(.int .i64 a0.fPort), (.int .i64 a0.fSeconds), (.list 1 (a0.fIn.map (eI .i64))), (.list 1 (a0.fOut.map (eI .i64)))]) (SetAt.st1 (by rfl) (by rfl) (SetAt.here _ _) (by rfl) (by rfl) (by first | rfl | omega))) (by rfl) (by rfl) (by simp) rfl (ot 9 (.ptr 1001 2 [2])) (ot 5 (.sref 1005 1 0 a0.fIn.length)))
  (oc (ov (.ptr 1001 3 [3]) (fp hN Try.underlying30 3 tyS22 (.box 30 (.st [(i6 a0.fPort), (i6 a0.fSeconds), (.sref 1005 1 0 a0.fIn.length), (.d (.list 1 (a0.fOut.map (eI .i64))))])) (ot 1 (.ptr 1001 0 []))))
  (oc (OpJ.storeB (bt := 30) (c := (.st [(i6 a0.fPort), (i6 a0.fSeconds), (.sref 1005 1 0 a0.fIn.length), (.d (.list 1 (a0.fOut.map (eI .i64))))])) (v := (.sref 1008 1 0 a0.fOut.length)) (c' := (.st [(i6 a0.fPort), (i6 a0.fSeconds), (.sref 1005 1 0 a0.fIn.length), (.sref 1008 1 0 a0.fOut.length)])) tyS22 (SetAt.st1 (f := (.d (.list 1 (a0.fOut.map (eI .i64))))) (by rfl) (by rfl) (SetAt.here _ _) (by rfl) (by rfl) (by first | rfl | omega)) (by rfl) (by rfl) (by simp) rfl (ot 10 (.ptr 1001 3 [3])) (ot 8 (.sref 1008 1 0 a0.fOut.length)))
  (OpJs.nil))))))))))) (by kernel_rfl) (by rfl) (by rfl) ?_
  refine seqQ_n ?_
  refine AWp.ghost (mp [] [(1, (.ptr 1001 0 [])), (2, (.ptr 1002 0 []))] [(1001, some (.box 30 (.st [(i6 a0.fPort), (i6 a0.fSeconds), (.sref 1005 1 0 a0.fIn.length), (.sref 1008 1 0 a0.fOut.length)]))), (1002, some (.box 30 (.st [(i6 (0 : Int)), (i6 (0 : Int)), .nils, .nils]))), (1005, some (.row 3 1 (a0.fIn.map (eI .i64)))), (1008, some (.row 3 1 (a0.fOut.map (eI .i64))))] hB) ?_
  refine AWp.seq ?_
  refine AWp.region (oc (lb hN 30 (.st [(i6 a0.fPort), (i6 a0.fSeconds), (.sref 1005 1 0 a0.fIn.length), (.sref 1008 1 0 a0.fOut.length)]) (.st [(i6 a0.fPort), (i6 a0.fSeconds), (.sref 1005 1 0 a0.fIn.length), (.sref 1008 1 0 a0.fOut.length)]) tyS30 (At.here _) (ot 1 (.ptr 1001 0 [])))
  (oc (OpJ.storeB (bt := 30) (c := (.st [(i6 (0 : Int)), (i6 (0 : Int)), .nils, .nils])) (v := (.st [(i6 a0.fPort), (i6 a0.fSeconds), (.sref 1005 1 0 a0.fIn.length), (.sref 1008 1 0 a0.fOut.length)])) (c' := (.st [(i6 a0.fPort), (i6 a0.fSeconds), (.sref 1005 1 0 a0.fIn.length), (.sref 1008 1 0 a0.fOut.length)])) tyS30 (SetAt.here _ _) (by rfl) (by rfl) (by simp) rfl (ot 2 (.ptr 1002 0 [])) (ot 11 (.st [(i6 a0.fPort), (i6 a0.fSeconds), (.sref 1005 1 0 a0.fIn.length), (.sref 1008 1 0 a0.fOut.length)])))
  (OpJs.nil))) (by rfl) (by rfl) ?_
  refine seqQ_n ?_
  refine AWp.ghost (mp [] [(2, (.ptr 1002 0 []))] [(1002, some (.box 30 (.st [(i6 a0.fPort), (i6 a0.fSeconds), (.sref 1005 1 0 a0.fIn.length), (.sref 1008 1 0 a0.fOut.length)]))), (1005, some (.row 3 1 (a0.fIn.map (eI .i64)))), (1008, some (.row 3 1 (a0.fOut.map (eI .i64))))] hB) ?_
  refine AWp.ret ?_
  obtain rfl := Option.some.inj h
  exact ⟨.inl rfl, _, _, (Mat.trans (Mat.freezeP (n := 1005) (e := 3) (sz := 1) (es := a0.fIn.map (eI .i64)) (Ts := []) (Bs := [(1002, some (.box 30 (.st [(i6 a0.fPort), (i6 a0.fSeconds), (.d (.list 1 (a0.fIn.map (eI .i64)))), (.sref 1008 1 0 a0.fOut.length)])))]) (by rfl) TwT.nil (TwB.cons (x := (.st [(i6 a0.fPort), (i6 a0.fSeconds), (.sref 1005 1 0 a0.fIn.length), (.sref 1008 1 0 a0.fOut.length)])) (by rfl) (Tw.st (TwL.cons (Tw.same _) (TwL.cons (Tw.same _) (TwL.cons (FrzL.all (by first | rfl | (simp; done) | (simp; omega))) (TwL.cons (Tw.same _) TwL.nil))))) TwB.nil)) (Mat.trans (Mat.freezeP (n := 1008) (e := 3) (sz := 1) (es := a0.fOut.map (eI .i64)) (Ts := []) (Bs := [(1002, some (.box 30 (.st [(i6 a0.fPort), (i6 a0.fSeconds), (.d (.list 1 (a0.fIn.map (eI .i64)))), (.d (.list 1 (a0.fOut.map (eI .i64))))])))]) (by rfl) TwT.nil (TwB.cons (x := (.st [(i6 a0.fPort), (i6 a0.fSeconds), (.d (.list 1 (a0.fIn.map (eI .i64)))), (.sref 1008 1 0 a0.fOut.length)])) (by rfl) (Tw.st (TwL.cons (Tw.same _) (TwL.cons (Tw.same _) (TwL.cons (Tw.same _) (TwL.cons (FrzL.all (by first | rfl | (simp; done) | (simp; omega))) TwL.nil))))) TwB.nil)) (Mat.trans (Mat.coeP (Ts := []) (Bs := [(1002, some (.box 30 (.d (.st [(.int .i64 a0.fPort), (.int .i64 a0.fSeconds), (.list 1 (a0.fIn.map (eI .i64))), (.list 1 (a0.fOut.map (eI .i64)))]))))]) TwT.nil (TwB.cons (x := (.st [(i6 a0.fPort), (i6 a0.fSeconds), (.d (.list 1 (a0.fIn.map (eI .i64)))), (.d (.list 1 (a0.fOut.map (eI .i64))))])) (by rfl) (Tw.leaf ⟨_, (Co.st (CoL.cons (Co.d _) (CoL.cons (Co.d _) (CoL.cons (Co.d _) (CoL.cons (Co.d _) CoL.nil))))), rfl⟩) TwB.nil)) (mp [] [(2, (.ptr 1002 0 []))] [(1002, some (.box 30 (.d (.st [(.int .i64 a0.fPort), (.int .i64 a0.fSeconds), (.list 1 (a0.fIn.map (eI .i64))), (.list 1 (a0.fOut.map (eI .i64)))]))))] hB)))), [(.d (.st [(.int .i64 a0.fPort), (.int .i64 a0.fSeconds), (.list 1 (a0.fIn.map (eI .i64))), (.list 1 (a0.fOut.map (eI .i64)))]))], (Res.cell (c := (.d (.st [(.int .i64 a0.fPort), (.int .i64 a0.fSeconds), (.list 1 (a0.fIn.map (eI .i64))), (.list 1 (a0.fOut.map (eI .i64)))]))) (by rfl) (by rfl) tyS30 (by rfl) (by rfl) (by rfl) Res.nil), rfl, by rfl, by rfl, by rfl⟩

noncomputable def exchangepointref40_Copy_2 (a0 : api_Series) : Option (api_Series) :=
  chk (decide (a0.fIn.length ≤ LIM)) <|
  chk (decide (a0.fOut.length ≤ LIM)) <|
  some (api_Series.mk a0.fPort a0.fSeconds a0.fIn a0.fOut)
set_option maxHeartbeats 4000000 in
set_option maxRecDepth 100000 in
theorem exchangepointref40_Copy_2_ac (a0 : api_Series) (r : api_Series) (h : exchangepointref40_Copy_2 a0 = some r) : AC Try.prog 13 [(.d (e_api_Series a0))] [] (.st [(.d (.int .i64 r.fPort)), (.d (.int .i64 r.fSeconds)), (.sref 900000 1 0 r.fIn.length), (.d (.list 1 (r.fOut.map (eI .i64))))]) [(900000, some (.row 3 1 (r.fIn.map (eI .i64))))] := by
  refine AC.of_code2 Try.func13 rfl rfl (Nat.le_of_ble_eq_true (by rfl)) fun B hB hN => ?_
  delta exchangepointref40_Copy_2 at h
  refine AWp.seq ?_
  refine AWp.region (oc (OpJ.box hB (nm := 1001) (by decide) (by simp) rfl (ltN hN rfl) (ot 0 (.d (e_api_Series a0))))
  (oc (OpJ.alloc hB tyZ30 (nm := 1002) (by decide) (ltN hN rfl))
  (OpJs.nil))) (by rfl) (by rfl) ?_
  refine seqQ_n ?_
  refine AWp.ghost (mp [] [(1, (.ptr 1001 0 [])), (2, (.ptr 1002 0 []))] [(1001, some (.box 30 (.d (e_api_Series a0)))), (1002, some (.box 30 (.st [(i6 (0 : Int)), (i6 (0 : Int)), .nils, .nils])))] hB) ?_
  refine AWp.seq ?_
  obtain ⟨hc1, h⟩ := chk_some h
  obtain ⟨hc2, h⟩ := chk_some h
  refine AWp.draws (by kernel_rfl) (oc (ov (.ptr 1001 2 [2]) (fp hN Try.underlying30 2 tyS22 (.box 30 (.d (e_api_Series a0))) (ot 1 (.ptr 1001 0 []))))
  (oc (lb hN 30 (.d (e_api_Series a0)) (.d (.list 1 (a0.fIn.map (eI .i64)))) tyS22 (ad (.list 1 (a0.fIn.map (eI .i64)))) (ot 3 (.ptr 1001 2 [2])))
  (oc (OpJ.appendN hB Try.underlying22 tyE3 (nm := 1005) (by decide) (ys := a0.fIn.map (eI .i64)) (len := a0.fIn.length) (by simp) (map_sz (f := (eI .i64)) (fun _ => rfl)) (by rw [List.length_map]; exact lim_mulN hc1 (by decide)) (by rw [List.length_map]; exact lim_leN hc1) (ltN hN rfl) Opd.nils (ot 4 (.d (.list 1 (a0.fIn.map (eI .i64))))))
  (oc (ov (.ptr 1001 3 [3]) (fp hN Try.underlying30 3 tyS22 (.box 30 (.d (e_api_Series a0))) (ot 1 (.ptr 1001 0 []))))
  (oc (lb hN 30 (.d (e_api_Series a0)) (.d (.list 1 (a0.fOut.map (eI .i64)))) tyS22 (ad (.list 1 (a0.fOut.map (eI .i64)))) (ot 6 (.ptr 1001 3 [3])))
  (oc (OpJ.appendN hB Try.underlying22 tyE3 (nm := 1008) (by decide) (ys := a0.fOut.map (eI .i64)) (len := a0.fOut.length) (by simp) (map_sz (f := (eI .i64)) (fun _ => rfl)) (by rw [List.length_map]; exact lim_mulN hc2 (by decide)) (by rw [List.length_map]; exact lim_leN hc2) (ltN hN rfl) Opd.nils (ot 7 (.d (.list 1 (a0.fOut.map (eI .i64))))))
  (oc (ov (.ptr 1001 2 [2]) (fp hN Try.underlying30 2 tyS22 (.box 30 (.d (e_api_Series a0))) (ot 1 (.ptr 1001 0 []))))
  (oc (OpJ.storeB (bt := 30) (c := (.d (e_api_Series a0))) (v := (.sref 1005 1 0 a0.fIn.length)) (c' := (.st [(i6 a0.fPort), (i6 a0.fSeconds), (.sref 1005 1 0 a0.fIn.length), (.d (.list 1 (a0.fOut.map (eI .i64))))])) tyS22 (SetAt.lift (fs := [(.int .i64 a0.fPort), (.int .i64 a0.fSeconds), (.list 1 (a0.fIn.map (eI .i64))), (.list 1 (a0.fOut.map (eI .i64)))]) (SetAt.st1 (by rfl) (by rfl) (SetAt.here _ _) (by rfl) (by rfl) (by first | rfl | omega))) (by rfl) (by rfl) (by simp) rfl (ot 9 (.ptr 1001 2 [2])) (ot 5 (.sref 1005 1 0 a0.fIn.length)))
  (oc (ov (.ptr 1001 3 [3]) (fp hN Try.underlying30 3 tyS22 (.box 30 (.st [(i6 a0.fPort), (i6 a0.fSeconds), (.sref 1005 1 0 a0.fIn.length), (.d (.list 1 (a0.fOut.map (eI .i64))))])) (ot 1 (.ptr 1001 0 []))))
  (oc (OpJ.storeB (bt := 30) (c := (.st [(i6 a0.fPort), (i6 a0.fSeconds), (.sref 1005 1 0 a0.fIn.length), (.d (.list 1 (a0.fOut.map (eI .i64))))])) (v := (.sref 1008 1 0 a0.fOut.length)) (c' := (.st [(i6 a0.fPort), (i6 a0.fSeconds), (.sref 1005 1 0 a0.fIn.length), (.sref 1008 1 0 a0.fOut.length)])) tyS22 (SetAt.st1 (f := (.d (.list 1 (a0.fOut.map (eI .i64))))) (by rfl) (by rfl) (SetAt.here _ _) (by rfl) (by rfl) (by first | rfl | omega)) (by rfl) (by rfl) (by simp) rfl (ot 10 (.ptr 1001 3 [3])) (ot 8 (.sref 1008 1 0 a0.fOut.length)))
  (OpJs.nil))))))))))) (by kernel_rfl) (by rfl) (by rfl) ?_
  refine seqQ_n ?_
  refine AWp.ghost (mp [] [(1, (.ptr 1001 0 [])), (2, (.ptr 1002 0 []))] [(1001, some (.box 30 (.st [(i6 a0.fPort), (i6 a0.fSeconds), (.sref 1005 1 0 a0.fIn.length), (.sref 1008 1 0 a0.fOut.length)]))), (1002, some (.box 30 (.st [(i6 (0 : Int)), (i6 (0 : Int)), .nils, .nils]))), (1005, some (.row 3 1 (a0.fIn.map (eI .i64)))), (1008, some (.row 3 1 (a0.fOut.map (eI .i64))))] hB) ?_
  refine AWp.seq ?_
  refine AWp.region (oc (lb hN 30 (.st [(i6 a0.fPort), (i6 a0.fSeconds), (.sref 1005 1 0 a0.fIn.length), (.sref 1008 1 0 a0.fOut.length)]) (.st [(i6 a0.fPort), (i6 a0.fSeconds), (.sref 1005 1 0 a0.fIn.length), (.sref 1008 1 0 a0.fOut.length)]) tyS30 (At.here _) (ot 1 (.ptr 1001 0 [])))
  (oc (OpJ.storeB (bt := 30) (c := (.st [(i6 (0 : Int)), (i6 (0 : Int)), .nils, .nils])) (v := (.st [(i6 a0.fPort), (i6 a0.fSeconds), (.sref 1005 1 0 a0.fIn.length), (.sref 1008 1 0 a0.fOut.length)])) (c' := (.st [(i6 a0.fPort), (i6 a0.fSeconds), (.sref 1005 1 0 a0.fIn.length), (.sref 1008 1 0 a0.fOut.length)])) tyS30 (SetAt.here _ _) (by rfl) (by rfl) (by simp) rfl (ot 2 (.ptr 1002 0 [])) (ot 11 (.st [(i6 a0.fPort), (i6 a0.fSeconds), (.sref 1005 1 0 a0.fIn.length), (.sref 1008 1 0 a0.fOut.length)])))
  (OpJs.nil))) (by rfl) (by rfl) ?_
  refine seqQ_n ?_
  refine AWp.ghost (mp [] [(2, (.ptr 1002 0 []))] [(1002, some (.box 30 (.st [(i6 a0.fPort), (i6 a0.fSeconds), (.sref 1005 1 0 a0.fIn.length), (.sref 1008 1 0 a0.fOut.length)]))), (1005, some (.row 3 1 (a0.fIn.map (eI .i64)))), (1008, some (.row 3 1 (a0.fOut.map (eI .i64))))] hB) ?_
  refine AWp.ret ?_
  obtain rfl := Option.some.inj h
  exact ⟨.inl rfl, _, _, (Mat.trans (Mat.freezeP (n := 1008) (e := 3) (sz := 1) (es := a0.fOut.map (eI .i64)) (Ts := []) (Bs := [(1002, some (.box 30 (.st [(i6 a0.fPort), (i6 a0.fSeconds), (.sref 1005 1 0 a0.fIn.length), (.d (.list 1 (a0.fOut.map (eI .i64))))])))]) (by rfl) TwT.nil (TwB.cons (x := (.st [(i6 a0.fPort), (i6 a0.fSeconds), (.sref 1005 1 0 a0.fIn.length), (.sref 1008 1 0 a0.fOut.length)])) (by rfl) (Tw.st (TwL.cons (Tw.same _) (TwL.cons (Tw.same _) (TwL.cons (Tw.same _) (TwL.cons (FrzL.all (by first | rfl | (simp; done) | (simp; omega))) TwL.nil))))) TwB.nil)) (mp [(900000, 1005)] [(2, (.ptr 1002 0 []))] [(1002, some (.box 30 (.st [(i6 a0.fPort), (i6 a0.fSeconds), (.sref 900000 1 0 a0.fIn.length), (.d (.list 1 (a0.fOut.map (eI .i64))))]))), (900000, some (.row 3 1 (a0.fIn.map (eI .i64))))] hB)), [(.st [(i6 a0.fPort), (i6 a0.fSeconds), (.sref 900000 1 0 a0.fIn.length), (.d (.list 1 (a0.fOut.map (eI .i64))))])], (Res.cell (c := (.st [(i6 a0.fPort), (i6 a0.fSeconds), (.sref 900000 1 0 a0.fIn.length), (.d (.list 1 (a0.fOut.map (eI .i64))))])) (by rfl) (by rfl) tyS30 (by rfl) (by rfl) (by rfl) Res.nil), rfl, by rfl, by rfl, by rfl⟩

noncomputable def exchangepointref40_Copy_3 (a0 : api_Series) : Option (api_Series) :=
  chk (decide (a0.fIn.length ≤ LIM)) <|
  chk (decide (a0.fOut.length ≤ LIM)) <|
  some (api_Series.mk a0.fPort a0.fSeconds a0.fIn a0.fOut)
set_option maxHeartbeats 4000000 in
set_option maxRecDepth 100000 in
theorem exchangepointref40_Copy_3_ac (a0 : api_Series) (r : api_Series) (h : exchangepointref40_Copy_3 a0 = some r) : AC Try.prog 13 [(.d (e_api_Series a0))] [] (.st [(.d (.int .i64 r.fPort)), (.d (.int .i64 r.fSeconds)), (.sref 900000 1 0 r.fIn.length), (.sref 900001 1 0 r.fOut.length)]) [(900000, some (.row 3 1 (r.fIn.map (eI .i64)))), (900001, some (.row 3 1 (r.fOut.map (eI .i64))))] := by
  refine AC.of_code2 Try.func13 rfl rfl (Nat.le_of_ble_eq_true (by rfl)) fun B hB hN => ?_
  delta exchangepointref40_Copy_3 at h
  refine AWp.seq ?_
  refine AWp.region (oc (OpJ.box hB (nm := 1001) (by decide) (by simp) rfl (ltN hN rfl) (ot 0 (.d (e_api_Series a0))))
  (oc (OpJ.alloc hB tyZ30 (nm := 1002) (by decide) (ltN hN rfl))
  (OpJs.nil))) (by rfl) (by rfl) ?_
  refine seqQ_n ?_
  refine AWp.ghost (mp [] [(1, (.ptr 1001 0 [])), (2, (.ptr 1002 0 []))] [(1001, some (.box 30 (.d (e_api_Series a0)))), (1002, some (.box 30 (.st [(i6 (0 : Int)), (i6 (0 : Int)), .nils, .nils])))] hB) ?_
  refine AWp.seq ?_
  obtain ⟨hc1, h⟩ := chk_some h
  obtain ⟨hc2, h⟩ := chk_some h
  refine AWp.draws (by kernel_rfl) (oc (ov (.ptr 1001 2 [2]) (fp hN Try.underlying30 2 tyS22 (.box 30 (.d (e_api_Series a0))) (ot 1 (.ptr 1001 0 []))))
  (oc (lb hN 30 (.d (e_api_Series a0)) (.d (.list 1 (a0.fIn.map (eI .i64)))) tyS22 (ad (.list 1 (a0.fIn.map (eI .i64)))) (ot 3 (.ptr 1001 2 [2])))
  (oc (OpJ.appendN hB Try.underlying22 tyE3 (nm := 1005) (by decide) (ys := a0.fIn.map (eI .i64)) (len := a0.fIn.length) (by simp) (map_sz (f := (eI .i64)) (fun _ => rfl)) (by rw [List.length_map]; exact lim_mulN hc1 (by decide)) (by rw [List.length_map]; exact lim_leN hc1) (ltN hN rfl) Opd.nils (ot 4 (.d (.list 1 (a0.fIn.map (eI .i64))))))
  (oc (ov (.ptr 1001 3 [3]) (fp hN Try.underlying30 3 tyS22 (.box 30 (.d (e_api_Series a0))) (ot 1 (.ptr 1001 0 []))))
  (oc (lb hN 30 (.d (e_api_Series a0)) (.d (.list 1 (a0.fOut.map (eI .i64)))) tyS22 (ad (.list 1 (a0.fOut.map (eI .i64)))) (ot 6 (.ptr 1001 3 [3])))
  (oc (OpJ.appendN hB Try.underlying22 tyE3 (nm := 1008) (by decide) (ys := a0.fOut.map (eI .i64)) (len := a0.fOut.length) (by simp) (map_sz (f := (eI .i64)) (fun _ => rfl)) (by rw [List.length_map]; exact lim_mulN hc2 (by decide)) (by rw [List.length_map]; exact lim_leN hc2) (ltN hN rfl) Opd.nils (ot 7 (.d (.list 1 (a0.fOut.map (eI .i64))))))
  (oc (ov (.ptr 1001 2 [2]) (fp hN Try.underlying30 2 tyS22 (.box 30 (.d (e_api_Series a0))) (ot 1 (.ptr 1001 0 []))))
  (oc (OpJ.storeB (bt := 30) (c := (.d (e_api_Series a0))) (v := (.sref 1005 1 0 a0.fIn.length)) (c' := (.st [(i6 a0.fPort), (i6 a0.fSeconds), (.sref 1005 1 0 a0.fIn.length), (.d (.list 1 (a0.fOut.map (eI .i64))))])) tyS22 (SetAt.lift (fs := [(.int .i64 a0.fPort), (.int .i64 a0.fSeconds), (.list 1 (a0.fIn.map (eI .i64))), (.list 1 (a0.fOut.map (eI .i64)))]) (SetAt.st1 (by rfl) (by rfl) (SetAt.here _ _) (by rfl) (by rfl) (by first | rfl | omega))) (by rfl) (by rfl) (by simp) rfl (ot 9 (.ptr 1001 2 [2])) (ot 5 (.sref 1005 1 0 a0.fIn.length)))
  (oc (ov (.ptr 1001 3 [3]) (fp hN Try.underlying30 3 tyS22 (.box 30 (.st [(i6 a0.fPort), (i6 a0.fSeconds), (.sref 1005 1 0 a0.fIn.length), (.d (.list 1 (a0.fOut.map (eI .i64))))])) (ot 1 (.ptr 1001 0 []))))
  (oc (OpJ.storeB (bt := 30) (c := (.st [(i6 a0.fPort), (i6 a0.fSeconds), (.sref 1005 1 0 a0.fIn.length), (.d (.list 1 (a0.fOut.map (eI .i64))))])) (v := (.sref 1008 1 0 a0.fOut.length)) (c' := (.st [(i6 a0.fPort), (i6 a0.fSeconds), (.sref 1005 1 0 a0.fIn.length), (.sref 1008 1 0 a0.fOut.length)])) tyS22 (SetAt.st1 (f := (.d (.list 1 (a0.fOut.map (eI .i64))))) (by rfl) (by rfl) (SetAt.here _ _) (by rfl) (by rfl) (by first | rfl | omega)) (by rfl) (by rfl) (by simp) rfl (ot 10 (.ptr 1001 3 [3])) (ot 8 (.sref 1008 1 0 a0.fOut.length)))
  (OpJs.nil))))))))))) (by kernel_rfl) (by rfl) (by rfl) ?_
  refine seqQ_n ?_
  refine AWp.ghost (mp [] [(1, (.ptr 1001 0 [])), (2, (.ptr 1002 0 []))] [(1001, some (.box 30 (.st [(i6 a0.fPort), (i6 a0.fSeconds), (.sref 1005 1 0 a0.fIn.length), (.sref 1008 1 0 a0.fOut.length)]))), (1002, some (.box 30 (.st [(i6 (0 : Int)), (i6 (0 : Int)), .nils, .nils]))), (1005, some (.row 3 1 (a0.fIn.map (eI .i64)))), (1008, some (.row 3 1 (a0.fOut.map (eI .i64))))] hB) ?_
  refine AWp.seq ?_
  refine AWp.region (oc (lb hN 30 (.st [(i6 a0.fPort), (i6 a0.fSeconds), (.sref 1005 1 0 a0.fIn.length), (.sref 1008 1 0 a0.fOut.length)]) (.st [(i6 a0.fPort), (i6 a0.fSeconds), (.sref 1005 1 0 a0.fIn.length), (.sref 1008 1 0 a0.fOut.length)]) tyS30 (At.here _) (ot 1 (.ptr 1001 0 [])))
  (oc (OpJ.storeB (bt := 30) (c := (.st [(i6 (0 : Int)), (i6 (0 : Int)), .nils, .nils])) (v := (.st [(i6 a0.fPort), (i6 a0.fSeconds), (.sref 1005 1 0 a0.fIn.length), (.sref 1008 1 0 a0.fOut.length)])) (c' := (.st [(i6 a0.fPort), (i6 a0.fSeconds), (.sref 1005 1 0 a0.fIn.length), (.sref 1008 1 0 a0.fOut.length)])) tyS30 (SetAt.here _ _) (by rfl) (by rfl) (by simp) rfl (ot 2 (.ptr 1002 0 [])) (ot 11 (.st [(i6 a0.fPort), (i6 a0.fSeconds), (.sref 1005 1 0 a0.fIn.length), (.sref 1008 1 0 a0.fOut.length)])))
  (OpJs.nil))) (by rfl) (by rfl) ?_
  refine seqQ_n ?_
  refine AWp.ghost (mp [] [(2, (.ptr 1002 0 []))] [(1002, some (.box 30 (.st [(i6 a0.fPort), (i6 a0.fSeconds), (.sref 1005 1 0 a0.fIn.length), (.sref 1008 1 0 a0.fOut.length)]))), (1005, some (.row 3 1 (a0.fIn.map (eI .i64)))), (1008, some (.row 3 1 (a0.fOut.map (eI .i64))))] hB) ?_
  refine AWp.ret ?_
  obtain rfl := Option.some.inj h
  exact ⟨.inl rfl, _, _, (mp [(900000, 1005), (900001, 1008)] [(2, (.ptr 1002 0 []))] [(1002, some (.box 30 (.st [(i6 a0.fPort), (i6 a0.fSeconds), (.sref 900000 1 0 a0.fIn.length), (.sref 900001 1 0 a0.fOut.length)]))), (900000, some (.row 3 1 (a0.fIn.map (eI .i64)))), (900001, some (.row 3 1 (a0.fOut.map (eI .i64))))] hB), [(.st [(i6 a0.fPort), (i6 a0.fSeconds), (.sref 900000 1 0 a0.fIn.length), (.sref 900001 1 0 a0.fOut.length)])], (Res.cell (c := (.st [(i6 a0.fPort), (i6 a0.fSeconds), (.sref 900000 1 0 a0.fIn.length), (.sref 900001 1 0 a0.fOut.length)])) (by rfl) (by rfl) tyS30 (by rfl) (by rfl) (by rfl) Res.nil), rfl, by rfl, by rfl, by rfl⟩

noncomputable def percentile_bin (a0 : Int) : Option (Bool) :=
  some ((decide ((-1 : Int) ≤ a0)) && (decide (a0 ≤ (1125899906842624 : Int))))
set_option maxHeartbeats 4000000 in
set_option maxRecDepth 100000 in
theorem percentile_bin_ac (a0 : Int) (r : Bool) (h : percentile_bin a0 = some r) : AC Try.prog 36 [(.d (.int .i64 a0))] [] (.d (.bool r)) [] := by
  refine AC.of_code2 Try.func36 rfl rfl (Nat.le_of_ble_eq_true (by rfl)) fun B hB hN => ?_
  delta percentile_bin at h
  refine AWp.seq ?_
  refine AWp.region (oc (OpJ.assign (ltN hN rfl) (Opd.bool false))
  (OpJs.nil)) (by rfl) (by rfl) ?_
  refine seqQ_n ?_
  refine AWp.ghost (mp [] [(0, (i6 a0))] [] hB) ?_
  refine AWp.seq ?_
  refine AWp.region (oc (mv hN (ot 0 (i6 a0)))
  (oc (OpJ.geq (ltN hN rfl) (ot 3 (i6 a0)) (Opd.int .i64 (-1)))
  (oc (mv hN (ot 4 (bo (decide ((-1 : Int) ≤ a0)))))
  (oc (op hN (i6 a0) (mv hN (ot 0 (i6 a0))) (OptL.keep rfl OptL.nil) (GuardV.plain _))
  (oc (op hN (bo (decide (a0 ≤ (1125899906842624 : Int)))) (OpJ.leq (ltN hN rfl) (ot 6 (i6 a0)) (Opd.int .i64 (1125899906842624))) (OptL.opt OptL.nil) (GuardV.plain _))
  (oc (OpJ.pickAnd rfl (ltN hN rfl) (ot 5 (bo (decide ((-1 : Int) ≤ a0)))) (ot 7 (.opt ((decide ((-1 : Int) ≤ a0)) == true) (bo (decide (a0 ≤ (1125899906842624 : Int)))))))
  (oc (OpJ.assign (ltN hN rfl) (ot 8 (bo ((decide ((-1 : Int) ≤ a0)) && (decide (a0 ≤ (1125899906842624 : Int)))))))
  (OpJs.nil)))))))) (by rfl) (by rfl) ?_
  refine seqQ_n ?_
  refine AWp.ghost (mp [] [(2, (bo ((decide ((-1 : Int) ≤ a0)) && (decide (a0 ≤ (1125899906842624 : Int))))))] [] hB) ?_
  refine AWp.ret ?_
  obtain rfl := Option.some.inj h
  exact ⟨.inl rfl, _, _, (mp [] [(2, (bo ((decide ((-1 : Int) ≤ a0)) && (decide (a0 ≤ (1125899906842624 : Int))))))] [] hB), [(bo ((decide ((-1 : Int) ≤ a0)) && (decide (a0 ≤ (1125899906842624 : Int)))))], (Res.tmp (by rfl) (by rfl) Res.nil), rfl, by rfl, by rfl, by rfl⟩

noncomputable def percentile_Valid_L0 (a0 : api_Series) (s6 : Int) : Option (((Unit) ⊕ (Unit)) ⊕ (Int)) :=
  (if (decide (s6 < (a0.fIn.length : Int))) = true then
  jn (fun m64 : Bool =>
  (if m64 = true then
  some (.inl (.inl ()))
  else
  some (.inr (w64 (s6 + (1 : Int)))))) (fun j65 =>
  (idx a0.fIn s6).bind fun x67 =>
  (percentile_bin x67).bind fun r68 =>
  (if (!r68) = true then
  j65 true
  else
  (idx a0.fOut s6).bind fun x70 =>
  (percentile_bin x70).bind fun r71 =>
  (if (!r71) = true then
  j65 true
  else
  (idx a0.fIn s6).bind fun x73 =>
  (idx a0.fOut s6).bind fun x74 =>
  j65 ((x73 == (-1 : Int)) != (x74 == (-1 : Int))))))
  else
  some (.inl (.inr ())))
noncomputable def percentile_Valid (a0 : api_Series) : Option (Bool) :=
  jn (fun m3 : Bool =>
  (if m3 = true then
  some false
  else
  (loop (percentile_Valid_L0 a0) (0 : Int)).bind fun x75 => match x75 with
  | (.inl _) =>
    some false
  | (.inr _) =>
    some true)) (fun j4 =>
  (if ((decide (a0.fPort < (1 : Int))) || (decide ((999 : Int) < a0.fPort))) = true then
  j4 true
  else
  (percentile_length a0.fSeconds).bind fun r78 =>
  j4 (((!r78) || ((a0.fIn.length : Int) != (a0.fOut.length : Int))) || (decide ((9000 : Int) < (a0.fIn.length : Int))))))
set_option maxHeartbeats 4000000 in
set_option maxRecDepth 100000 in
theorem percentile_Valid_ac (a0 : api_Series) (r : Bool) (h : percentile_Valid a0 = some r) : AC Try.prog 16 [(.d (e_api_Series a0))] [] (.d (.bool r)) [] := by
  refine AC.of_code2 Try.func16 rfl rfl (Nat.le_of_ble_eq_true (by rfl)) fun B hB hN => ?_
  delta percentile_Valid at h
  refine AWp.seq ?_
  refine AWp.region (oc (OpJ.box hB (nm := 1001) (by decide) (by simp) rfl (ltN hN rfl) (ot 0 (.d (e_api_Series a0))))
  (oc (OpJ.assign (ltN hN rfl) (Opd.bool false))
  (OpJs.nil))) (by rfl) (by rfl) ?_
  refine seqQ_n ?_
  refine AWp.ghost (mp [] [(1, (.ptr 1001 0 []))] [(1001, some (.box 30 (.d (e_api_Series a0))))] hB) ?_
  refine AWp.seq ?_
  refine AWp.seq ?_
  refine AWp.cut h (fun m3 : Bool => ([(1, (.ptr 1001 0 [])), (32, (bo m3))] : EL)) (fun m3 : Bool => ([(1001, some (.box 30 (.d (e_api_Series a0))))] : OL)) (fun m3 h E' O' hmat => ?_) (fun j4 hjj4 h => ?_)
  · refine seqQ_n ?_
    refine AWp.ghost hmat ?_
    refine AWp.cond (b := m3) (by rfl) (fun hg5 => ?_) (fun hg5 => ?_)
    · replace h := ite_t hg5 h
      refine AWp.seq ?_
      refine AWp.region (oc (OpJ.assign (ltN hN rfl) (Opd.bool false))
        (OpJs.nil)) (by rfl) (by rfl) ?_
      refine seqQ_n ?_
      refine AWp.ghost (mp [] [(2, (bo false))] [] hB) ?_
      refine AWp.ret ?_
      refine seqQ_r ?_
      obtain rfl := Option.some.inj h
      exact ⟨.inl rfl, _, _, (mp [] [(2, (bo false))] [] hB), [(bo false)], (Res.tmp (by rfl) (by rfl) Res.nil), rfl, by rfl, by rfl, by rfl⟩
    · replace h := ite_f hg5 h
      refine AWp.skip ?_
      refine seqQ_n ?_
      refine AWp.seq ?_
      refine AWp.seq ?_
      refine AWp.region (oc (ov (.ptr 1001 2 [2]) (fp hN Try.underlying30 2 tyS22 (.box 30 (.d (e_api_Series a0))) (ot 1 (.ptr 1001 0 []))))
        (oc (lb hN 30 (.d (e_api_Series a0)) (.d (.list 1 (a0.fIn.map (eI .i64)))) tyS22 (ad (.list 1 (a0.fIn.map (eI .i64)))) (ot 33 (.ptr 1001 2 [2])))
        (oc (OpJ.val (v' := (i6 (a0.fIn.length : Int))) (by simp) (OpJ.lenD Try.underlying22 (ltN hN rfl) (ot 34 (.d (.list 1 (a0.fIn.map (eI .i64)))))))
        (oc (mv hN (Opd.int .i64 (0)))
        (OpJs.nil))))) (by rfl) (by rfl) ?_
      refine seqQ_n ?_
      refine AWp.ghost (mp [] [(1, (.ptr 1001 0 [])), (35, (i6 (a0.fIn.length : Int))), (36, (i6 (0 : Int)))] [(1001, some (.box 30 (.d (e_api_Series a0))))] hB) ?_
      refine AWp.block ?_
      obtain ⟨x75, hx76, h⟩ := bindS h
      refine AWp.ghost (mp [] ((fun s6 : Int => ([(1, (.ptr 1001 0 [])), (35, (i6 (a0.fIn.length : Int))), (36, (i6 s6))] : EL)) (0 : Int)) ((fun s6 : Int => ([(1001, some (.box 30 (.d (e_api_Series a0))))] : OL)) (0 : Int)) hB) ?_
      refine AWp.loopS (percentile_Valid_L0 a0) (fun s6 : Int => ([(1, (.ptr 1001 0 [])), (35, (i6 (a0.fIn.length : Int))), (36, (i6 s6))] : EL)) (fun s6 : Int => ([(1001, some (.box 30 (.d (e_api_Series a0))))] : OL)) (fun (x : (Unit) ⊕ (Unit)) e E' O' => match x with | (.inl _p) => e = .ret ∧ Mat B E' O' ([(2, (bo false))] : EL) ([] : OL) | (.inr _p) => e = .exit 0 ∧ Mat B E' O' ([] : EL) ([] : OL)) hx76 (fun s6 y h => ?_) (fun e E' O' hR => ?_)
      · unfold percentile_Valid_L0 at h
        show AWp _ _ _ _ ([(1, (.ptr 1001 0 [])), (35, (i6 (a0.fIn.length : Int))), (36, (i6 s6))] : EL) ([(1001, some (.box 30 (.d (e_api_Series a0))))] : OL)
        refine AWp.seq ?_
        refine AWp.region (oc (OpJ.lss (ltN hN rfl) (ot 36 (i6 s6)) (ot 35 (i6 (a0.fIn.length : Int))))
          (OpJs.nil)) (by rfl) (by rfl) ?_
        refine seqQ_n ?_
        refine AWp.ghost (mp [] [(1, (.ptr 1001 0 [])), (35, (i6 (a0.fIn.length : Int))), (36, (i6 s6)), (37, (bo (decide (s6 < (a0.fIn.length : Int)))))] [(1001, some (.box 30 (.d (e_api_Series a0))))] hB) ?_
        refine AWp.seq ?_
        refine AWp.cond (b := (decide (s6 < (a0.fIn.length : Int)))) (by rfl) (fun hg53 => ?_) (fun hg53 => ?_)
        · replace h := ite_t hg53 h
          refine AWp.skip ?_
          refine seqQ_n ?_
          refine AWp.seq ?_
          refine AWp.block ?_
          refine AWp.seq ?_
          refine AWp.region (oc (mv hN (ot 36 (i6 s6)))
            (oc (OpJ.assign (ltN hN rfl) (ot 38 (i6 s6)))
            (OpJs.nil))) (by rfl) (by rfl) ?_
          refine seqQ_n ?_
          refine AWp.ghost (mp [] [(1, (.ptr 1001 0 [])), (3, (i6 s6)), (35, (i6 (a0.fIn.length : Int))), (36, (i6 s6))] [(1001, some (.box 30 (.d (e_api_Series a0))))] hB) ?_
          refine AWp.seq ?_
          refine AWp.cut h (fun m64 : Bool => ([(1, (.ptr 1001 0 [])), (35, (i6 (a0.fIn.length : Int))), (36, (i6 s6)), (69, (bo m64))] : EL)) (fun m64 : Bool => ([(1001, some (.box 30 (.d (e_api_Series a0))))] : OL)) (fun m64 h E' O' hmat => ?_) (fun j65 hjj65 h => ?_)
          · refine seqQ_n ?_
            refine AWp.ghost hmat ?_
            refine AWp.cond (b := m64) (by rfl) (fun hg66 => ?_) (fun hg66 => ?_)
            · replace h := ite_t hg66 h
              refine AWp.seq ?_
              refine AWp.region (oc (OpJ.assign (ltN hN rfl) (Opd.bool false))
                (OpJs.nil)) (by rfl) (by rfl) ?_
              refine seqQ_n ?_
              refine AWp.ghost (mp [] [(2, (bo false))] [] hB) ?_
              refine AWp.ret ?_
              refine blkQ_r ?_
              refine seqQ_r ?_
              obtain rfl := Option.some.inj h
              exact ⟨(fun hc => by cases hc), rfl, (mp [] ((fun _ : Unit => ([(2, (bo false))] : EL)) ()) ((fun _ : Unit => ([] : OL)) ()) hB)⟩
            · replace h := ite_f hg66 h
              refine AWp.skip ?_
              refine blkQ_n ?_
              refine seqQ_n ?_
              refine AWp.region (oc (OpJ.add (ltN hN rfl) (ot 36 (i6 s6)) (Opd.int .i64 (1)))
                (oc (mv hN (ot 70 (i6 (w64 (s6 + (1 : Int))))))
                (OpJs.nil))) (by rfl) (by rfl) ?_
              obtain rfl := Option.some.inj h
              exact ⟨rfl, (Mat.trans (mp [] [(1, (.ptr 1001 0 [])), (35, (i6 (a0.fIn.length : Int))), (36, (i6 (w64 (s6 + (1 : Int)))))] [(1001, some (.box 30 (.d (e_api_Series a0))))] hB) (mp [] ((fun s6 : Int => ([(1, (.ptr 1001 0 [])), (35, (i6 (a0.fIn.length : Int))), (36, (i6 s6))] : EL)) (w64 (s6 + (1 : Int)))) ((fun s6 : Int => ([(1001, some (.box 30 (.d (e_api_Series a0))))] : OL)) (w64 (s6 + (1 : Int)))) hB))⟩
          · obtain ⟨x67, hx67, h⟩ := bindS h
            obtain ⟨r68, hr68, h⟩ := bindS h
            rcases Bool.eq_false_or_eq_true (!r68) with hg69 | hg69
            · replace h := ite_t hg69 h
              refine AWp.draws (by kernel_rfl) (oc (ov (.ptr 1001 2 [2]) (fp hN Try.underlying30 2 tyS22 (.box 30 (.d (e_api_Series a0))) (ot 1 (.ptr 1001 0 []))))
                (oc (lb hN 30 (.d (e_api_Series a0)) (.d (.list 1 (a0.fIn.map (eI .i64)))) tyS22 (ad (.list 1 (a0.fIn.map (eI .i64)))) (ot 39 (.ptr 1001 2 [2])))
                (oc (mv hN (ot 3 (i6 s6)))
                (oc (OpJ.indexD (el := (.int .i64 x67)) Try.underlying22 tyS3 (idx_some hx67).1 (get_map (eI .i64) (idx_some hx67).2) (ltN hN rfl) (ot 40 (.d (.list 1 (a0.fIn.map (eI .i64))))) (ot 41 (i6 s6)))
                (oc (OpJ.loadD tyS3 (by rfl) (by rfl) (ltN hN rfl) (ot 42 (.dptr (.int .i64 x67))))
                (oc (OpJ.callFn hB fnOk36 (percentile_bin_ac x67 r68 hr68) [] (by kernel_rfl) (ltN hN rfl) (by kernel_rfl) (OpdL.cons (ot 43 (i6 x67)) OpdL.nil))
                (oc (OpJ.not (ltN hN rfl) (ot 44 (bo r68)))
                (oc (OpJ.val (v' := .d (.bool true)) (by rw [hg69]) (mv hN (ot 45 (bo (!r68)))))
                (oc (OpJ.skipU (ltN hN rfl) (by rfl))
                (oc (OpJ.skipU (ltN hN rfl) (by rfl))
                (oc (OpJ.skipU (ltN hN rfl) (by rfl))
                (oc (OpJ.skipU (ltN hN rfl) (by rfl))
                (oc (OpJ.skipU (ltN hN rfl) (by rfl))
                (oc (OpJ.skipU (ltN hN rfl) (by rfl))
                (oc (OpJ.skipU (ltN hN rfl) (by rfl))
                (oc (OpJ.pickT (ltN hN rfl) (ot 46 (bo true)) (Opd.bool true))
                (oc (mv hN (ot 54 (bo true)))
                (oc (OpJ.skipU (ltN hN rfl) (by rfl))
                (oc (OpJ.skipU (ltN hN rfl) (by rfl))
                (oc (OpJ.skipU (ltN hN rfl) (by rfl))
                (oc (OpJ.skipU (ltN hN rfl) (by rfl))
                (oc (OpJ.skipU (ltN hN rfl) (by rfl))
                (oc (OpJ.skipU (ltN hN rfl) (by rfl))
                (oc (OpJ.skipU (ltN hN rfl) (by rfl))
                (oc (OpJ.skipU (ltN hN rfl) (by rfl))
                (oc (OpJ.skipU (ltN hN rfl) (by rfl))
                (oc (OpJ.skipU (ltN hN rfl) (by rfl))
                (oc (OpJ.skipU (ltN hN rfl) (by rfl))
                (oc (OpJ.skipU (ltN hN rfl) (by rfl))
                (oc (OpJ.skipU (ltN hN rfl) (by rfl))
                (oc (OpJ.pickT (ltN hN rfl) (ot 55 (bo true)) (Opd.bool true))
                (OpJs.nil)))))))))))))))))))))))))))))))) (by kernel_rfl) (by rfl) (by rfl) ?_
              exact hjj65 _ h _ _ (Mat.trans (mp [] [(1, (.ptr 1001 0 [])), (35, (i6 (a0.fIn.length : Int))), (36, (i6 s6)), (69, (bo true))] [(1001, some (.box 30 (.d (e_api_Series a0))))] hB) (mp [] ((fun m64 : Bool => ([(1, (.ptr 1001 0 [])), (35, (i6 (a0.fIn.length : Int))), (36, (i6 s6)), (69, (bo m64))] : EL)) true) ((fun m64 : Bool => ([(1001, some (.box 30 (.d (e_api_Series a0))))] : OL)) true) hB))
            · replace h := ite_f hg69 h
              obtain ⟨x70, hx70, h⟩ := bindS h
              obtain ⟨r71, hr71, h⟩ := bindS h
              rcases Bool.eq_false_or_eq_true (!r71) with hg72 | hg72
              · replace h := ite_t hg72 h
                refine AWp.draws (by kernel_rfl) (oc (ov (.ptr 1001 2 [2]) (fp hN Try.underlying30 2 tyS22 (.box 30 (.d (e_api_Series a0))) (ot 1 (.ptr 1001 0 []))))
                  (oc (lb hN 30 (.d (e_api_Series a0)) (.d (.list 1 (a0.fIn.map (eI .i64)))) tyS22 (ad (.list 1 (a0.fIn.map (eI .i64)))) (ot 39 (.ptr 1001 2 [2])))
                  (oc (mv hN (ot 3 (i6 s6)))
                  (oc (OpJ.indexD (el := (.int .i64 x67)) Try.underlying22 tyS3 (idx_some hx67).1 (get_map (eI .i64) (idx_some hx67).2) (ltN hN rfl) (ot 40 (.d (.list 1 (a0.fIn.map (eI .i64))))) (ot 41 (i6 s6)))
                  (oc (OpJ.loadD tyS3 (by rfl) (by rfl) (ltN hN rfl) (ot 42 (.dptr (.int .i64 x67))))
                  (oc (OpJ.callFn hB fnOk36 (percentile_bin_ac x67 r68 hr68) [] (by kernel_rfl) (ltN hN rfl) (by kernel_rfl) (OpdL.cons (ot 43 (i6 x67)) OpdL.nil))
                  (oc (OpJ.not (ltN hN rfl) (ot 44 (bo r68)))
                  (oc (OpJ.val (v' := .d (.bool false)) (by rw [hg69]) (mv hN (ot 45 (bo (!r68)))))
                  (oc (OpJ.guarded (by rfl) (ov (.ptr 1001 3 [3]) (fp hN Try.underlying30 3 tyS22 (.box 30 (.d (e_api_Series a0))) (ot 1 (.ptr 1001 0 [])))))
                  (oc (OpJ.guarded (by rfl) (lb hN 30 (.d (e_api_Series a0)) (.d (.list 1 (a0.fOut.map (eI .i64)))) tyS22 (ad (.list 1 (a0.fOut.map (eI .i64)))) (ot 47 (.ptr 1001 3 [3]))))
                  (oc (OpJ.guarded (by rfl) (mv hN (ot 3 (i6 s6))))
                  (oc (OpJ.guarded (by rfl) (OpJ.indexD (el := (.int .i64 x70)) Try.underlying22 tyS3 (idx_some hx70).1 (get_map (eI .i64) (idx_some hx70).2) (ltN hN rfl) (ot 48 (.d (.list 1 (a0.fOut.map (eI .i64))))) (ot 49 (i6 s6))))
                  (oc (OpJ.guarded (by rfl) (OpJ.loadD tyS3 (by rfl) (by rfl) (ltN hN rfl) (ot 50 (.dptr (.int .i64 x70)))))
                  (oc (OpJ.guarded (by rfl) (OpJ.callFn hB fnOk36 (percentile_bin_ac x70 r71 hr71) [] (by kernel_rfl) (ltN hN rfl) (by kernel_rfl) (OpdL.cons (ot 51 (i6 x70)) OpdL.nil)))
                  (oc (OpJ.guarded (by rfl) (OpJ.not (ltN hN rfl) (ot 52 (bo r71))))
                  (oc (OpJ.pickF (ltN hN rfl) (ot 46 (bo false)) (ot 53 (bo (!r71))))
                  (oc (OpJ.val (v' := .d (.bool true)) (by rw [hg72]) (mv hN (ot 54 (bo (!r71)))))
                  (oc (OpJ.skipU (ltN hN rfl) (by rfl))
                  (oc (OpJ.skipU (ltN hN rfl) (by rfl))
                  (oc (OpJ.skipU (ltN hN rfl) (by rfl))
                  (oc (OpJ.skipU (ltN hN rfl) (by rfl))
                  (oc (OpJ.skipU (ltN hN rfl) (by rfl))
                  (oc (OpJ.skipU (ltN hN rfl) (by rfl))
                  (oc (OpJ.skipU (ltN hN rfl) (by rfl))
                  (oc (OpJ.skipU (ltN hN rfl) (by rfl))
                  (oc (OpJ.skipU (ltN hN rfl) (by rfl))
                  (oc (OpJ.skipU (ltN hN rfl) (by rfl))
                  (oc (OpJ.skipU (ltN hN rfl) (by rfl))
                  (oc (OpJ.skipU (ltN hN rfl) (by rfl))
                  (oc (OpJ.skipU (ltN hN rfl) (by rfl))
                  (oc (OpJ.pickT (ltN hN rfl) (ot 55 (bo true)) (Opd.bool true))
                  (OpJs.nil)))))))))))))))))))))))))))))))) (by kernel_rfl) (by rfl) (by rfl) ?_
                exact hjj65 _ h _ _ (Mat.trans (mp [] [(1, (.ptr 1001 0 [])), (35, (i6 (a0.fIn.length : Int))), (36, (i6 s6)), (69, (bo true))] [(1001, some (.box 30 (.d (e_api_Series a0))))] hB) (mp [] ((fun m64 : Bool => ([(1, (.ptr 1001 0 [])), (35, (i6 (a0.fIn.length : Int))), (36, (i6 s6)), (69, (bo m64))] : EL)) true) ((fun m64 : Bool => ([(1001, some (.box 30 (.d (e_api_Series a0))))] : OL)) true) hB))
              · replace h := ite_f hg72 h
                obtain ⟨x73, hx73, h⟩ := bindS h
                obtain ⟨x74, hx74, h⟩ := bindS h
                refine AWp.draws (by kernel_rfl) (oc (ov (.ptr 1001 2 [2]) (fp hN Try.underlying30 2 tyS22 (.box 30 (.d (e_api_Series a0))) (ot 1 (.ptr 1001 0 []))))
                  (oc (lb hN 30 (.d (e_api_Series a0)) (.d (.list 1 (a0.fIn.map (eI .i64)))) tyS22 (ad (.list 1 (a0.fIn.map (eI .i64)))) (ot 39 (.ptr 1001 2 [2])))
                  (oc (mv hN (ot 3 (i6 s6)))
                  (oc (OpJ.indexD (el := (.int .i64 x67)) Try.underlying22 tyS3 (idx_some hx67).1 (get_map (eI .i64) (idx_some hx67).2) (ltN hN rfl) (ot 40 (.d (.list 1 (a0.fIn.map (eI .i64))))) (ot 41 (i6 s6)))
                  (oc (OpJ.loadD tyS3 (by rfl) (by rfl) (ltN hN rfl) (ot 42 (.dptr (.int .i64 x67))))
                  (oc (OpJ.callFn hB fnOk36 (percentile_bin_ac x67 r68 hr68) [] (by kernel_rfl) (ltN hN rfl) (by kernel_rfl) (OpdL.cons (ot 43 (i6 x67)) OpdL.nil))
                  (oc (OpJ.not (ltN hN rfl) (ot 44 (bo r68)))
                  (oc (OpJ.val (v' := .d (.bool false)) (by rw [hg69]) (mv hN (ot 45 (bo (!r68)))))
                  (oc (OpJ.guarded (by rfl) (ov (.ptr 1001 3 [3]) (fp hN Try.underlying30 3 tyS22 (.box 30 (.d (e_api_Series a0))) (ot 1 (.ptr 1001 0 [])))))
                  (oc (OpJ.guarded (by rfl) (lb hN 30 (.d (e_api_Series a0)) (.d (.list 1 (a0.fOut.map (eI .i64)))) tyS22 (ad (.list 1 (a0.fOut.map (eI .i64)))) (ot 47 (.ptr 1001 3 [3]))))
                  (oc (OpJ.guarded (by rfl) (mv hN (ot 3 (i6 s6))))
                  (oc (OpJ.guarded (by rfl) (OpJ.indexD (el := (.int .i64 x70)) Try.underlying22 tyS3 (idx_some hx70).1 (get_map (eI .i64) (idx_some hx70).2) (ltN hN rfl) (ot 48 (.d (.list 1 (a0.fOut.map (eI .i64))))) (ot 49 (i6 s6))))
                  (oc (OpJ.guarded (by rfl) (OpJ.loadD tyS3 (by rfl) (by rfl) (ltN hN rfl) (ot 50 (.dptr (.int .i64 x70)))))
                  (oc (OpJ.guarded (by rfl) (OpJ.callFn hB fnOk36 (percentile_bin_ac x70 r71 hr71) [] (by kernel_rfl) (ltN hN rfl) (by kernel_rfl) (OpdL.cons (ot 51 (i6 x70)) OpdL.nil)))
                  (oc (OpJ.guarded (by rfl) (OpJ.not (ltN hN rfl) (ot 52 (bo r71))))
                  (oc (OpJ.pickF (ltN hN rfl) (ot 46 (bo false)) (ot 53 (bo (!r71))))
                  (oc (OpJ.val (v' := .d (.bool false)) (by rw [hg72]) (mv hN (ot 54 (bo (!r71)))))
                  (oc (OpJ.guarded (by rfl) (ov (.ptr 1001 2 [2]) (fp hN Try.underlying30 2 tyS22 (.box 30 (.d (e_api_Series a0))) (ot 1 (.ptr 1001 0 [])))))
                  (oc (OpJ.guarded (by rfl) (lb hN 30 (.d (e_api_Series a0)) (.d (.list 1 (a0.fIn.map (eI .i64)))) tyS22 (ad (.list 1 (a0.fIn.map (eI .i64)))) (ot 56 (.ptr 1001 2 [2]))))
                  (oc (OpJ.guarded (by rfl) (mv hN (ot 3 (i6 s6))))
                  (oc (OpJ.guarded (by rfl) (OpJ.indexD (el := (.int .i64 x73)) Try.underlying22 tyS3 (idx_some hx73).1 (get_map (eI .i64) (idx_some hx73).2) (ltN hN rfl) (ot 57 (.d (.list 1 (a0.fIn.map (eI .i64))))) (ot 58 (i6 s6))))
                  (oc (OpJ.guarded (by rfl) (OpJ.loadD tyS3 (by rfl) (by rfl) (ltN hN rfl) (ot 59 (.dptr (.int .i64 x73)))))
                  (oc (OpJ.guarded (by rfl) (OpJ.eqlI (ltN hN rfl) (ot 60 (i6 x73)) (Opd.int .i64 (-1))))
                  (oc (OpJ.guarded (by rfl) (ov (.ptr 1001 3 [3]) (fp hN Try.underlying30 3 tyS22 (.box 30 (.d (e_api_Series a0))) (ot 1 (.ptr 1001 0 [])))))
                  (oc (OpJ.guarded (by rfl) (lb hN 30 (.d (e_api_Series a0)) (.d (.list 1 (a0.fOut.map (eI .i64)))) tyS22 (ad (.list 1 (a0.fOut.map (eI .i64)))) (ot 62 (.ptr 1001 3 [3]))))
                  (oc (OpJ.guarded (by rfl) (mv hN (ot 3 (i6 s6))))
                  (oc (OpJ.guarded (by rfl) (OpJ.indexD (el := (.int .i64 x74)) Try.underlying22 tyS3 (idx_some hx74).1 (get_map (eI .i64) (idx_some hx74).2) (ltN hN rfl) (ot 63 (.d (.list 1 (a0.fOut.map (eI .i64))))) (ot 64 (i6 s6))))
                  (oc (OpJ.guarded (by rfl) (OpJ.loadD tyS3 (by rfl) (by rfl) (ltN hN rfl) (ot 65 (.dptr (.int .i64 x74)))))
                  (oc (OpJ.guarded (by rfl) (OpJ.eqlI (ltN hN rfl) (ot 66 (i6 x74)) (Opd.int .i64 (-1))))
                  (oc (OpJ.guarded (by rfl) (OpJ.neqB Try.underlying4 (ltN hN rfl) (ot 61 (bo (x73 == (-1 : Int)))) (ot 67 (bo (x74 == (-1 : Int))))))
                  (oc (OpJ.pickF (ltN hN rfl) (ot 55 (bo false)) (ot 68 (bo ((x73 == (-1 : Int)) != (x74 == (-1 : Int))))))
                  (OpJs.nil)))))))))))))))))))))))))))))))) (by kernel_rfl) (by rfl) (by rfl) ?_
                exact hjj65 _ h _ _ (Mat.trans (mp [] [(1, (.ptr 1001 0 [])), (35, (i6 (a0.fIn.length : Int))), (36, (i6 s6)), (69, (bo ((x73 == (-1 : Int)) != (x74 == (-1 : Int)))))] [(1001, some (.box 30 (.d (e_api_Series a0))))] hB) (mp [] ((fun m64 : Bool => ([(1, (.ptr 1001 0 [])), (35, (i6 (a0.fIn.length : Int))), (36, (i6 s6)), (69, (bo m64))] : EL)) ((x73 == (-1 : Int)) != (x74 == (-1 : Int)))) ((fun m64 : Bool => ([(1001, some (.box 30 (.d (e_api_Series a0))))] : OL)) ((x73 == (-1 : Int)) != (x74 == (-1 : Int)))) hB))
        · replace h := ite_f hg53 h
          refine AWp.exit ?_
          refine seqQ_e ?_
          obtain rfl := Option.some.inj h
          exact ⟨(fun hc => by cases hc), rfl, (mp [] ((fun _ : Unit => ([] : EL)) ()) ((fun _ : Unit => ([] : OL)) ()) hB)⟩
      · rcases x75 with _ | _
        · obtain ⟨rfl, hmat⟩ := hR
          refine blkQ_r ?_
          refine seqQ_r ?_
          obtain rfl := Option.some.inj h
          exact ⟨.inl rfl, _, _, (Mat.trans hmat (mp [] [(2, (bo false))] [] hB)), [(bo false)], (Res.tmp (by rfl) (by rfl) Res.nil), rfl, by rfl, by rfl, by rfl⟩
        · obtain ⟨rfl, hmat⟩ := hR
          refine blkQ_hit ?_
          refine seqQ_n ?_
          refine AWp.ghost hmat ?_
          refine AWp.seq ?_
          refine AWp.region (oc (OpJ.assign (ltN hN rfl) (Opd.bool true))
            (OpJs.nil)) (by rfl) (by rfl) ?_
          refine seqQ_n ?_
          refine AWp.ghost (mp [] [(2, (bo true))] [] hB) ?_
          refine AWp.ret ?_
          obtain rfl := Option.some.inj h
          exact ⟨.inl rfl, _, _, (mp [] [(2, (bo true))] [] hB), [(bo true)], (Res.tmp (by rfl) (by rfl) Res.nil), rfl, by rfl, by rfl, by rfl⟩
  · rcases Bool.eq_false_or_eq_true ((decide (a0.fPort < (1 : Int))) || (decide ((999 : Int) < a0.fPort))) with hg77 | hg77
    · replace h := ite_t hg77 h
      refine AWp.region (oc (ov (.ptr 1001 0 [0]) (fp hN Try.underlying30 0 tyS3 (.box 30 (.d (e_api_Series a0))) (ot 1 (.ptr 1001 0 []))))
        (oc (lb hN 30 (.d (e_api_Series a0)) (i6 a0.fPort) tyS3 (ad (.int .i64 a0.fPort)) (ot 4 (.ptr 1001 0 [0])))
        (oc (OpJ.lss (ltN hN rfl) (ot 5 (i6 a0.fPort)) (Opd.int .i64 (1)))
        (oc (mv hN (ot 6 (bo (decide (a0.fPort < (1 : Int))))))
        (oc (op hN (.ptr 1001 0 [0]) (ov (.ptr 1001 0 [0]) (fp hN Try.underlying30 0 tyS3 (.box 30 (.d (e_api_Series a0))) (ot 1 (.ptr 1001 0 [])))) (OptL.keep rfl OptL.nil) (GuardV.plain _))
        (oc (op hN (i6 a0.fPort) (lb hN 30 (.d (e_api_Series a0)) (i6 a0.fPort) tyS3 (ad (.int .i64 a0.fPort)) (ot 8 (.ptr 1001 0 [0]))) (OptL.opt OptL.nil) (GuardV.plain _))
        (oc (op hN (bo (decide ((999 : Int) < a0.fPort))) (OpJ.gtr (ltN hN rfl) (ot 9 (i6 a0.fPort)) (Opd.int .i64 (999))) (OptL.opt OptL.nil) (GuardV.plain _))
        (oc (OpJ.pickOr rfl (ltN hN rfl) (ot 7 (bo (decide (a0.fPort < (1 : Int))))) (ot 10 (.opt ((decide (a0.fPort < (1 : Int))) == false) (bo (decide ((999 : Int) < a0.fPort))))))
        (oc (OpJ.val (v' := .d (.bool true)) (by rw [hg77]) (mv hN (ot 11 (bo ((decide (a0.fPort < (1 : Int))) || (decide ((999 : Int) < a0.fPort)))))))
        (oc (OpJ.skipU (ltN hN rfl) (by rfl))
        (oc (OpJ.skipU (ltN hN rfl) (by rfl))
        (oc (OpJ.skipU (ltN hN rfl) (by rfl))
        (oc (OpJ.skipU (ltN hN rfl) (by rfl))
        (oc (OpJ.pickT (ltN hN rfl) (ot 12 (bo true)) (Opd.bool true))
        (oc (mv hN (ot 17 (bo true)))
        (oc (OpJ.skipU (ltN hN rfl) (by rfl))
        (oc (OpJ.skipU (ltN hN rfl) (by rfl))
        (oc (OpJ.skipU (ltN hN rfl) (by rfl))
        (oc (OpJ.skipU (ltN hN rfl) (by rfl))
        (oc (OpJ.skipU (ltN hN rfl) (by rfl))
        (oc (OpJ.skipU (ltN hN rfl) (by rfl))
        (oc (OpJ.skipU (ltN hN rfl) (by rfl))
        (oc (OpJ.pickT (ltN hN rfl) (ot 18 (bo true)) (Opd.bool true))
        (oc (mv hN (ot 26 (bo true)))
        (oc (OpJ.skipU (ltN hN rfl) (by rfl))
        (oc (OpJ.skipU (ltN hN rfl) (by rfl))
        (oc (OpJ.skipU (ltN hN rfl) (by rfl))
        (oc (OpJ.skipU (ltN hN rfl) (by rfl))
        (oc (OpJ.pickT (ltN hN rfl) (ot 27 (bo true)) (Opd.bool true))
        (OpJs.nil)))))))))))))))))))))))))))))) (by rfl) (by rfl) ?_
      exact hjj4 _ h _ _ (Mat.trans (mp [] [(1, (.ptr 1001 0 [])), (32, (bo true))] [(1001, some (.box 30 (.d (e_api_Series a0))))] hB) (mp [] ((fun m3 : Bool => ([(1, (.ptr 1001 0 [])), (32, (bo m3))] : EL)) true) ((fun m3 : Bool => ([(1001, some (.box 30 (.d (e_api_Series a0))))] : OL)) true) hB))
    · replace h := ite_f hg77 h
      obtain ⟨r78, hr78, h⟩ := bindS h
      refine AWp.region (oc (ov (.ptr 1001 0 [0]) (fp hN Try.underlying30 0 tyS3 (.box 30 (.d (e_api_Series a0))) (ot 1 (.ptr 1001 0 []))))
        (oc (lb hN 30 (.d (e_api_Series a0)) (i6 a0.fPort) tyS3 (ad (.int .i64 a0.fPort)) (ot 4 (.ptr 1001 0 [0])))
        (oc (OpJ.lss (ltN hN rfl) (ot 5 (i6 a0.fPort)) (Opd.int .i64 (1)))
        (oc (mv hN (ot 6 (bo (decide (a0.fPort < (1 : Int))))))
        (oc (op hN (.ptr 1001 0 [0]) (ov (.ptr 1001 0 [0]) (fp hN Try.underlying30 0 tyS3 (.box 30 (.d (e_api_Series a0))) (ot 1 (.ptr 1001 0 [])))) (OptL.keep rfl OptL.nil) (GuardV.plain _))
        (oc (op hN (i6 a0.fPort) (lb hN 30 (.d (e_api_Series a0)) (i6 a0.fPort) tyS3 (ad (.int .i64 a0.fPort)) (ot 8 (.ptr 1001 0 [0]))) (OptL.opt OptL.nil) (GuardV.plain _))
        (oc (op hN (bo (decide ((999 : Int) < a0.fPort))) (OpJ.gtr (ltN hN rfl) (ot 9 (i6 a0.fPort)) (Opd.int .i64 (999))) (OptL.opt OptL.nil) (GuardV.plain _))
        (oc (OpJ.pickOr rfl (ltN hN rfl) (ot 7 (bo (decide (a0.fPort < (1 : Int))))) (ot 10 (.opt ((decide (a0.fPort < (1 : Int))) == false) (bo (decide ((999 : Int) < a0.fPort))))))
        (oc (OpJ.val (v' := .d (.bool false)) (by rw [hg77]) (mv hN (ot 11 (bo ((decide (a0.fPort < (1 : Int))) || (decide ((999 : Int) < a0.fPort)))))))
        (oc (OpJ.guarded (by rfl) (ov (.ptr 1001 1 [1]) (fp hN Try.underlying30 1 tyS3 (.box 30 (.d (e_api_Series a0))) (ot 1 (.ptr 1001 0 [])))))
        (oc (OpJ.guarded (by rfl) (lb hN 30 (.d (e_api_Series a0)) (i6 a0.fSeconds) tyS3 (ad (.int .i64 a0.fSeconds)) (ot 13 (.ptr 1001 1 [1]))))
        (oc (OpJ.guarded (by rfl) (OpJ.callFn hB fnOk35 (percentile_length_ac a0.fSeconds r78 hr78) [] (by kernel_rfl) (ltN hN rfl) (by kernel_rfl) (OpdL.cons (ot 14 (i6 a0.fSeconds)) OpdL.nil)))
        (oc (OpJ.guarded (by rfl) (OpJ.not (ltN hN rfl) (ot 15 (bo r78))))
        (oc (OpJ.pickF (ltN hN rfl) (ot 12 (bo false)) (ot 16 (bo (!r78))))
        (oc (mv hN (ot 17 (bo (!r78))))
        (oc (op hN (.ptr 1001 2 [2]) (ov (.ptr 1001 2 [2]) (fp hN Try.underlying30 2 tyS22 (.box 30 (.d (e_api_Series a0))) (ot 1 (.ptr 1001 0 [])))) (OptL.keep rfl OptL.nil) (GuardV.plain _))
        (oc (op hN (.d (.list 1 (a0.fIn.map (eI .i64)))) (lb hN 30 (.d (e_api_Series a0)) (.d (.list 1 (a0.fIn.map (eI .i64)))) tyS22 (ad (.list 1 (a0.fIn.map (eI .i64)))) (ot 19 (.ptr 1001 2 [2]))) (OptL.opt OptL.nil) (GuardV.plain _))
        (oc (op hN (i6 (a0.fIn.length : Int)) (OpJ.val (v' := (i6 (a0.fIn.length : Int))) (by simp) (OpJ.lenD Try.underlying22 (ltN hN rfl) (ot 20 (.d (.list 1 (a0.fIn.map (eI .i64))))))) (OptL.opt OptL.nil) (GuardV.plain _))
        (oc (op hN (.ptr 1001 3 [3]) (ov (.ptr 1001 3 [3]) (fp hN Try.underlying30 3 tyS22 (.box 30 (.d (e_api_Series a0))) (ot 1 (.ptr 1001 0 [])))) (OptL.keep rfl OptL.nil) (GuardV.plain _))
        (oc (op hN (.d (.list 1 (a0.fOut.map (eI .i64)))) (lb hN 30 (.d (e_api_Series a0)) (.d (.list 1 (a0.fOut.map (eI .i64)))) tyS22 (ad (.list 1 (a0.fOut.map (eI .i64)))) (ot 22 (.ptr 1001 3 [3]))) (OptL.opt OptL.nil) (GuardV.plain _))
        (oc (op hN (i6 (a0.fOut.length : Int)) (OpJ.val (v' := (i6 (a0.fOut.length : Int))) (by simp) (OpJ.lenD Try.underlying22 (ltN hN rfl) (ot 23 (.d (.list 1 (a0.fOut.map (eI .i64))))))) (OptL.opt OptL.nil) (GuardV.plain _))
        (oc (op hN (bo ((a0.fIn.length : Int) != (a0.fOut.length : Int))) (OpJ.neqI (ltN hN rfl) (ot 21 (i6 (a0.fIn.length : Int))) (ot 24 (i6 (a0.fOut.length : Int)))) (OptL.opt (OptL.opt OptL.nil)) (GuardV.plain _))
        (oc (OpJ.pickOr rfl (ltN hN rfl) (ot 18 (bo (!r78))) (ot 25 (.opt ((!r78) == false) (bo ((a0.fIn.length : Int) != (a0.fOut.length : Int))))))
        (oc (mv hN (ot 26 (bo ((!r78) || ((a0.fIn.length : Int) != (a0.fOut.length : Int))))))
        (oc (op hN (.ptr 1001 2 [2]) (ov (.ptr 1001 2 [2]) (fp hN Try.underlying30 2 tyS22 (.box 30 (.d (e_api_Series a0))) (ot 1 (.ptr 1001 0 [])))) (OptL.keep rfl OptL.nil) (GuardV.plain _))
        (oc (op hN (.d (.list 1 (a0.fIn.map (eI .i64)))) (lb hN 30 (.d (e_api_Series a0)) (.d (.list 1 (a0.fIn.map (eI .i64)))) tyS22 (ad (.list 1 (a0.fIn.map (eI .i64)))) (ot 28 (.ptr 1001 2 [2]))) (OptL.opt OptL.nil) (GuardV.plain _))
        (oc (op hN (i6 (a0.fIn.length : Int)) (OpJ.val (v' := (i6 (a0.fIn.length : Int))) (by simp) (OpJ.lenD Try.underlying22 (ltN hN rfl) (ot 29 (.d (.list 1 (a0.fIn.map (eI .i64))))))) (OptL.opt OptL.nil) (GuardV.plain _))
        (oc (op hN (bo (decide ((9000 : Int) < (a0.fIn.length : Int)))) (OpJ.gtr (ltN hN rfl) (ot 30 (i6 (a0.fIn.length : Int))) (Opd.int .i64 (9000))) (OptL.opt OptL.nil) (GuardV.plain _))
        (oc (OpJ.pickOr rfl (ltN hN rfl) (ot 27 (bo ((!r78) || ((a0.fIn.length : Int) != (a0.fOut.length : Int))))) (ot 31 (.opt (((!r78) || ((a0.fIn.length : Int) != (a0.fOut.length : Int))) == false) (bo (decide ((9000 : Int) < (a0.fIn.length : Int)))))))
        (OpJs.nil)))))))))))))))))))))))))))))) (by rfl) (by rfl) ?_
      exact hjj4 _ h _ _ (Mat.trans (mp [] [(1, (.ptr 1001 0 [])), (32, (bo (((!r78) || ((a0.fIn.length : Int) != (a0.fOut.length : Int))) || (decide ((9000 : Int) < (a0.fIn.length : Int))))))] [(1001, some (.box 30 (.d (e_api_Series a0))))] hB) (mp [] ((fun m3 : Bool => ([(1, (.ptr 1001 0 [])), (32, (bo m3))] : EL)) (((!r78) || ((a0.fIn.length : Int) != (a0.fOut.length : Int))) || (decide ((9000 : Int) < (a0.fIn.length : Int))))) ((fun m3 : Bool => ([(1001, some (.box 30 (.d (e_api_Series a0))))] : OL)) (((!r78) || ((a0.fIn.length : Int) != (a0.fOut.length : Int))) || (decide ((9000 : Int) < (a0.fIn.length : Int))))) hB))

noncomputable def clone_Series_3 (a0 : api_Series) : Option (api_Series) :=
  (clone_List_2 a0.fIn).bind fun r1 =>
  (clone_List_2 a0.fOut).bind fun r2 =>
  some (api_Series.mk a0.fPort a0.fSeconds r1 r2)
set_option maxHeartbeats 4000000 in
set_option maxRecDepth 100000 in
theorem clone_Series_3_ac (a0 : api_Series) (r : api_Series) (h : clone_Series_3 a0 = some r) : AC Try.prog 33 [(.d (e_api_Series a0))] [] (.st [(.d (.int .i64 r.fPort)), (.d (.int .i64 r.fSeconds)), (.sref 900000 1 0 r.fIn.length), (.sref 900001 1 0 r.fOut.length)]) [(900000, some (.row 3 1 (r.fIn.map (eI .i64)))), (900001, some (.row 3 1 (r.fOut.map (eI .i64))))] := by
  refine AC.of_code2 Try.func33 rfl rfl (Nat.le_of_ble_eq_true (by rfl)) fun B hB hN => ?_
  delta clone_Series_3 at h
  refine AWp.seq ?_
  refine AWp.region (oc (OpJ.box hB (nm := 1001) (by decide) (by simp) rfl (ltN hN rfl) (ot 0 (.d (e_api_Series a0))))
  (oc (OpJ.alloc hB tyZ30 (nm := 1002) (by decide) (ltN hN rfl))
  (OpJs.nil))) (by rfl) (by rfl) ?_
  refine seqQ_n ?_
  refine AWp.ghost (mp [] [(1, (.ptr 1001 0 [])), (2, (.ptr 1002 0 []))] [(1001, some (.box 30 (.d (e_api_Series a0)))), (1002, some (.box 30 (.st [(i6 (0 : Int)), (i6 (0 : Int)), .nils, .nils])))] hB) ?_
  refine AWp.seq ?_
  obtain ⟨r1, hr1, h⟩ := bindS h
  obtain ⟨r2, hr2, h⟩ := bindS h
  refine AWp.draws (by kernel_rfl) (oc (ov (.ptr 1001 2 [2]) (fp hN Try.underlying30 2 tyS22 (.box 30 (.d (e_api_Series a0))) (ot 1 (.ptr 1001 0 []))))
  (oc (lb hN 30 (.d (e_api_Series a0)) (.d (.list 1 (a0.fIn.map (eI .i64)))) tyS22 (ad (.list 1 (a0.fIn.map (eI .i64)))) (ot 3 (.ptr 1001 2 [2])))
  (oc (OpJ.callFn hB fnOk30 (clone_List_2_ac a0.fIn r1 hr1) [(900000, 100000)] (by kernel_rfl) (ltN hN rfl) (by kernel_rfl) (OpdL.cons (ot 4 (.d (.list 1 (a0.fIn.map (eI .i64))))) OpdL.nil))
  (oc (ov (.ptr 1001 3 [3]) (fp hN Try.underlying30 3 tyS22 (.box 30 (.d (e_api_Series a0))) (ot 1 (.ptr 1001 0 []))))
  (oc (lb hN 30 (.d (e_api_Series a0)) (.d (.list 1 (a0.fOut.map (eI .i64)))) tyS22 (ad (.list 1 (a0.fOut.map (eI .i64)))) (ot 6 (.ptr 1001 3 [3])))
  (oc (OpJ.callFn hB fnOk30 (clone_List_2_ac a0.fOut r2 hr2) [(900000, 100100)] (by kernel_rfl) (ltN hN rfl) (by kernel_rfl) (OpdL.cons (ot 7 (.d (.list 1 (a0.fOut.map (eI .i64))))) OpdL.nil))
  (oc (ov (.ptr 1001 2 [2]) (fp hN Try.underlying30 2 tyS22 (.box 30 (.d (e_api_Series a0))) (ot 1 (.ptr 1001 0 []))))
  (oc (OpJ.storeB (bt := 30) (c := (.d (e_api_Series a0))) (v := (.sref 100000 1 0 r1.length)) (c' := (.st [(i6 a0.fPort), (i6 a0.fSeconds), (.sref 100000 1 0 r1.length), (.d (.list 1 (a0.fOut.map (eI .i64))))])) tyS22 (SetAt.lift (fs := [(.int .i64 a0.fPort), (.int .i64 a0.fSeconds), (.list 1 (a0.fIn.map (eI .i64))), (.list 1 (a0.fOut.map (eI .i64)))]) (SetAt.st1 (by rfl) (by rfl) (SetAt.here _ _) (by rfl) (by rfl) (by first | rfl | omega))) (by rfl) (by rfl) (by simp) rfl (ot 9 (.ptr 1001 2 [2])) (ot 5 (.sref 100000 1 0 r1.length)))
  (oc (ov (.ptr 1001 3 [3]) (fp hN Try.underlying30 3 tyS22 (.box 30 (.st [(i6 a0.fPort), (i6 a0.fSeconds), (.sref 100000 1 0 r1.length), (.d (.list 1 (a0.fOut.map (eI .i64))))])) (ot 1 (.ptr 1001 0 []))))
  (oc (OpJ.storeB (bt := 30) (c := (.st [(i6 a0.fPort), (i6 a0.fSeconds), (.sref 100000 1 0 r1.length), (.d (.list 1 (a0.fOut.map (eI .i64))))])) (v := (.sref 100100 1 0 r2.length)) (c' := (.st [(i6 a0.fPort), (i6 a0.fSeconds), (.sref 100000 1 0 r1.length), (.sref 100100 1 0 r2.length)])) tyS22 (SetAt.st1 (f := (.d (.list 1 (a0.fOut.map (eI .i64))))) (by rfl) (by rfl) (SetAt.here _ _) (by rfl) (by rfl) (by first | rfl | omega)) (by rfl) (by rfl) (by simp) rfl (ot 10 (.ptr 1001 3 [3])) (ot 8 (.sref 100100 1 0 r2.length)))
  (OpJs.nil))))))))))) (by kernel_rfl) (by rfl) (by rfl) ?_
  refine seqQ_n ?_
  refine AWp.ghost (mp [] [(1, (.ptr 1001 0 [])), (2, (.ptr 1002 0 []))] [(1001, some (.box 30 (.st [(i6 a0.fPort), (i6 a0.fSeconds), (.sref 100000 1 0 r1.length), (.sref 100100 1 0 r2.length)]))), (1002, some (.box 30 (.st [(i6 (0 : Int)), (i6 (0 : Int)), .nils, .nils]))), (100000, some (.row 3 1 (r1.map (eI .i64)))), (100100, some (.row 3 1 (r2.map (eI .i64))))] hB) ?_
  refine AWp.seq ?_
  refine AWp.region (oc (lb hN 30 (.st [(i6 a0.fPort), (i6 a0.fSeconds), (.sref 100000 1 0 r1.length), (.sref 100100 1 0 r2.length)]) (.st [(i6 a0.fPort), (i6 a0.fSeconds), (.sref 100000 1 0 r1.length), (.sref 100100 1 0 r2.length)]) tyS30 (At.here _) (ot 1 (.ptr 1001 0 [])))
  (oc (OpJ.storeB (bt := 30) (c := (.st [(i6 (0 : Int)), (i6 (0 : Int)), .nils, .nils])) (v := (.st [(i6 a0.fPort), (i6 a0.fSeconds), (.sref 100000 1 0 r1.length), (.sref 100100 1 0 r2.length)])) (c' := (.st [(i6 a0.fPort), (i6 a0.fSeconds), (.sref 100000 1 0 r1.length), (.sref 100100 1 0 r2.length)])) tyS30 (SetAt.here _ _) (by rfl) (by rfl) (by simp) rfl (ot 2 (.ptr 1002 0 [])) (ot 11 (.st [(i6 a0.fPort), (i6 a0.fSeconds), (.sref 100000 1 0 r1.length), (.sref 100100 1 0 r2.length)])))
  (OpJs.nil))) (by rfl) (by rfl) ?_
  refine seqQ_n ?_
  refine AWp.ghost (mp [] [(2, (.ptr 1002 0 []))] [(1002, some (.box 30 (.st [(i6 a0.fPort), (i6 a0.fSeconds), (.sref 100000 1 0 r1.length), (.sref 100100 1 0 r2.length)]))), (100000, some (.row 3 1 (r1.map (eI .i64)))), (100100, some (.row 3 1 (r2.map (eI .i64))))] hB) ?_
  refine AWp.ret ?_
  obtain rfl := Option.some.inj h
  exact ⟨.inl rfl, _, _, (mp [(900000, 100000), (900001, 100100)] [(2, (.ptr 1002 0 []))] [(1002, some (.box 30 (.st [(i6 a0.fPort), (i6 a0.fSeconds), (.sref 900000 1 0 r1.length), (.sref 900001 1 0 r2.length)]))), (900000, some (.row 3 1 (r1.map (eI .i64)))), (900001, some (.row 3 1 (r2.map (eI .i64))))] hB), [(.st [(i6 a0.fPort), (i6 a0.fSeconds), (.sref 900000 1 0 r1.length), (.sref 900001 1 0 r2.length)])], (Res.cell (c := (.st [(i6 a0.fPort), (i6 a0.fSeconds), (.sref 900000 1 0 r1.length), (.sref 900001 1 0 r2.length)])) (by rfl) (by rfl) tyS30 (by rfl) (by rfl) (by rfl) Res.nil), rfl, by rfl, by rfl, by rfl⟩

noncomputable def percentile_Merge_L0 (a1 : api_Series) (s10 : Int × (List Int) × (List Int)) : Option (((Unit) ⊕ ((List Int) × (List Int))) ⊕ (Int × (List Int) × (List Int))) :=
  (if (decide (s10.1 < (a1.fIn.length : Int))) = true then
  (idx a1.fIn s10.1).bind fun x142 =>
  jn (fun m173 : (List Int) × (List Int) =>
  some (.inr ((w64 (s10.1 + (1 : Int))), m173.1, m173.2))) (fun j174 =>
  (if (x142 == (-1 : Int)) = true then
  j174 (s10.2.1, s10.2.2)
  else
  (idx s10.2.2 s10.1).bind fun x176 =>
  (idx s10.2.2 s10.1).bind fun x177 =>
  (if (x177 == (-1 : Int)) = true then
  (idx a1.fIn s10.1).bind fun x179 =>
  (idx a1.fOut s10.1).bind fun x180 =>
  (idx s10.2.2 s10.1).bind fun x181 =>
  (idx s10.2.2 s10.1).bind fun x182 =>
  (idx s10.2.1 s10.1).bind fun x183 =>
  (idx s10.2.1 s10.1).bind fun x184 =>
  j174 ((s10.2.1.set s10.1.toNat x180), (s10.2.2.set s10.1.toNat x179))
  else
  jn (fun m195 : Bool =>
  (if m195 = true then
  some (.inl (.inl ()))
  else
  j174 (s10.2.1, s10.2.2))) (fun j196 =>
  (idx s10.2.2 s10.1).bind fun x198 =>
  (idx s10.2.2 s10.1).bind fun x199 =>
  (idx a1.fIn s10.1).bind fun x200 =>
  (if (x199 != x200) = true then
  j196 true
  else
  (idx s10.2.1 s10.1).bind fun x202 =>
  (idx s10.2.1 s10.1).bind fun x203 =>
  (idx a1.fOut s10.1).bind fun x204 =>
  j196 (x203 != x204))))))
  else
  some (.inl (.inr (s10.2.1, s10.2.2))))
noncomputable def percentile_Merge (a0 : api_Series) (a1 : api_Series) : Option (api_Series × Int) :=
  jn (fun m5 : Bool =>
  (if m5 = true then
  some ((api_Series.mk (0 : Int) (0 : Int) ([] : List Int) ([] : List Int)), (1 : Int))
  else
  (if (((a0.fPort != a1.fPort) || (a0.fSeconds != a1.fSeconds)) || ((a0.fIn.length : Int) != (a1.fIn.length : Int))) = true then
  some ((api_Series.mk (0 : Int) (0 : Int) ([] : List Int) ([] : List Int)), (7 : Int))
  else
  (clone_Series_3 a0).bind fun r9 =>
  (loop (percentile_Merge_L0 a1) ((0 : Int), r9.fOut, r9.fIn)).bind fun x205 => match x205 with
  | (.inl _) =>
    some ((api_Series.mk (0 : Int) (0 : Int) ([] : List Int) ([] : List Int)), (8 : Int))
  | (.inr p140) =>
    some ((api_Series.mk r9.fPort r9.fSeconds p140.2 p140.1), (0 : Int))))) (fun j6 =>
  (percentile_Valid a0).bind fun r207 =>
  (if (!r207) = true then
  j6 true
  else
  (percentile_Valid a1).bind fun r209 =>
  j6 (!r209)))
set_option maxHeartbeats 4000000 in
set_option maxRecDepth 100000 in
theorem percentile_Merge_ac (a0 : api_Series) (a1 : api_Series) (r : api_Series × Int) (h : percentile_Merge a0 a1 = some r) : AC Try.prog 14 [(.d (e_api_Series a0)), (.d (e_api_Series a1))] [] (.tup [(.d (e_api_Series r.1)), (.d (.int .i64 r.2))]) [] := by
  refine AC.of_code2 Try.func14 rfl rfl (Nat.le_of_ble_eq_true (by rfl)) fun B hB hN => ?_
  delta percentile_Merge at h
  refine AWp.seq ?_
  refine AWp.region (oc (OpJ.box hB (nm := 1002) (by decide) (by simp) rfl (ltN hN rfl) (ot 0 (.d (e_api_Series a0))))
  (oc (OpJ.box hB (nm := 1003) (by decide) (by simp) rfl (ltN hN rfl) (ot 1 (.d (e_api_Series a1))))
  (oc (OpJ.alloc hB tyZ30 (nm := 1004) (by decide) (ltN hN rfl))
  (oc (OpJ.assign (ltN hN rfl) (Opd.int .i64 (0)))
  (OpJs.nil))))) (by rfl) (by rfl) ?_
  refine seqQ_n ?_
  refine AWp.ghost (mp [] [(2, (.ptr 1002 0 [])), (3, (.ptr 1003 0 [])), (4, (.ptr 1004 0 []))] [(1002, some (.box 30 (.d (e_api_Series a0)))), (1003, some (.box 30 (.d (e_api_Series a1)))), (1004, some (.box 30 (.st [(i6 (0 : Int)), (i6 (0 : Int)), .nils, .nils])))] hB) ?_
  refine AWp.seq ?_
  refine AWp.seq ?_
  refine AWp.cut h (fun m5 : Bool => ([(2, (.ptr 1002 0 [])), (3, (.ptr 1003 0 [])), (4, (.ptr 1004 0 [])), (15, (bo m5))] : EL)) (fun m5 : Bool => ([(1002, some (.box 30 (.d (e_api_Series a0)))), (1003, some (.box 30 (.d (e_api_Series a1)))), (1004, some (.box 30 (.st [(i6 (0 : Int)), (i6 (0 : Int)), .nils, .nils])))] : OL)) (fun m5 h E' O' hmat => ?_) (fun j6 hjj6 h => ?_)
  · refine seqQ_n ?_
    refine AWp.ghost hmat ?_
    refine AWp.cond (b := m5) (by rfl) (fun hg7 => ?_) (fun hg7 => ?_)
    · replace h := ite_t hg7 h
      refine AWp.seq ?_
      refine AWp.region (oc (OpJ.build (places := [(0, 1), (1, 1), (2, 1), (3, 1)]) ⟨Try.underlying30, fun w => by kernel_rfl⟩ tyZS30 Opds.nil (by kernel_rfl) (r := (.st [(i6 (0 : Int)), (i6 (0 : Int)), .nils, .nils])) (by rfl) (ltN hN rfl))
        (oc (OpJ.storeB (bt := 30) (c := (.st [(i6 (0 : Int)), (i6 (0 : Int)), .nils, .nils])) (v := (.st [(i6 (0 : Int)), (i6 (0 : Int)), .nils, .nils])) (c' := (.st [(i6 (0 : Int)), (i6 (0 : Int)), .nils, .nils])) tyS30 (SetAt.here _ _) (by rfl) (by rfl) (by simp) rfl (ot 4 (.ptr 1004 0 [])) (ot 16 (.st [(i6 (0 : Int)), (i6 (0 : Int)), .nils, .nils])))
        (oc (OpJ.assign (ltN hN rfl) (Opd.int .i64 (1)))
        (OpJs.nil)))) (by rfl) (by rfl) ?_
      refine seqQ_n ?_
      refine AWp.ghost (mp [] [(4, (.ptr 1004 0 [])), (5, (i6 (1 : Int)))] [(1004, some (.box 30 (.st [(i6 (0 : Int)), (i6 (0 : Int)), .nils, .nils])))] hB) ?_
      refine AWp.ret ?_
      refine seqQ_r ?_
      obtain rfl := Option.some.inj h
      exact ⟨.inl rfl, _, _, (Mat.trans (Mat.coeP (Ts := []) (Bs := [(1004, some (.box 30 (.d (.st [(.int .i64 (0 : Int)), (.int .i64 (0 : Int)), (.list 1 (([] : List Int).map (eI .i64))), (.list 1 (([] : List Int).map (eI .i64)))]))))]) TwT.nil (TwB.cons (x := (.st [(i6 (0 : Int)), (i6 (0 : Int)), .nils, .nils])) (by rfl) (Tw.leaf ⟨_, (Co.st (CoL.cons (Co.d _) (CoL.cons (Co.d _) (CoL.cons (Co.nils 1) (CoL.cons (Co.nils 1) CoL.nil))))), rfl⟩) TwB.nil)) (mp [] [(4, (.ptr 1004 0 [])), (5, (i6 (1 : Int)))] [(1004, some (.box 30 (.d (.st [(.int .i64 (0 : Int)), (.int .i64 (0 : Int)), (.list 1 (([] : List Int).map (eI .i64))), (.list 1 (([] : List Int).map (eI .i64)))]))))] hB)), [(.d (.st [(.int .i64 (0 : Int)), (.int .i64 (0 : Int)), (.list 1 (([] : List Int).map (eI .i64))), (.list 1 (([] : List Int).map (eI .i64)))])), (i6 (1 : Int))], (Res.cell (c := (.d (.st [(.int .i64 (0 : Int)), (.int .i64 (0 : Int)), (.list 1 (([] : List Int).map (eI .i64))), (.list 1 (([] : List Int).map (eI .i64)))]))) (by rfl) (by rfl) tyS30 (by rfl) (by rfl) (by rfl) (Res.tmp (by rfl) (by rfl) Res.nil)), rfl, by rfl, by rfl, by rfl⟩
    · replace h := ite_f hg7 h
      refine AWp.skip ?_
      refine seqQ_n ?_
      refine AWp.seq ?_
      refine AWp.seq ?_
      refine AWp.region (oc (ov (.ptr 1002 0 [0]) (fp hN Try.underlying30 0 tyS3 (.box 30 (.d (e_api_Series a0))) (ot 2 (.ptr 1002 0 []))))
        (oc (lb hN 30 (.d (e_api_Series a0)) (i6 a0.fPort) tyS3 (ad (.int .i64 a0.fPort)) (ot 17 (.ptr 1002 0 [0])))
        (oc (ov (.ptr 1003 0 [0]) (fp hN Try.underlying30 0 tyS3 (.box 30 (.d (e_api_Series a1))) (ot 3 (.ptr 1003 0 []))))
        (oc (lb hN 30 (.d (e_api_Series a1)) (i6 a1.fPort) tyS3 (ad (.int .i64 a1.fPort)) (ot 19 (.ptr 1003 0 [0])))
        (oc (OpJ.neqI (ltN hN rfl) (ot 18 (i6 a0.fPort)) (ot 20 (i6 a1.fPort)))
        (oc (mv hN (ot 21 (bo (a0.fPort != a1.fPort))))
        (oc (op hN (.ptr 1002 1 [1]) (ov (.ptr 1002 1 [1]) (fp hN Try.underlying30 1 tyS3 (.box 30 (.d (e_api_Series a0))) (ot 2 (.ptr 1002 0 [])))) (OptL.keep rfl OptL.nil) (GuardV.plain _))
        (oc (op hN (i6 a0.fSeconds) (lb hN 30 (.d (e_api_Series a0)) (i6 a0.fSeconds) tyS3 (ad (.int .i64 a0.fSeconds)) (ot 23 (.ptr 1002 1 [1]))) (OptL.opt OptL.nil) (GuardV.plain _))
        (oc (op hN (.ptr 1003 1 [1]) (ov (.ptr 1003 1 [1]) (fp hN Try.underlying30 1 tyS3 (.box 30 (.d (e_api_Series a1))) (ot 3 (.ptr 1003 0 [])))) (OptL.keep rfl OptL.nil) (GuardV.plain _))
        (oc (op hN (i6 a1.fSeconds) (lb hN 30 (.d (e_api_Series a1)) (i6 a1.fSeconds) tyS3 (ad (.int .i64 a1.fSeconds)) (ot 25 (.ptr 1003 1 [1]))) (OptL.opt OptL.nil) (GuardV.plain _))
        (oc (op hN (bo (a0.fSeconds != a1.fSeconds)) (OpJ.neqI (ltN hN rfl) (ot 24 (i6 a0.fSeconds)) (ot 26 (i6 a1.fSeconds))) (OptL.opt (OptL.opt OptL.nil)) (GuardV.plain _))
        (oc (OpJ.pickOr rfl (ltN hN rfl) (ot 22 (bo (a0.fPort != a1.fPort))) (ot 27 (.opt ((a0.fPort != a1.fPort) == false) (bo (a0.fSeconds != a1.fSeconds)))))
        (oc (mv hN (ot 28 (bo ((a0.fPort != a1.fPort) || (a0.fSeconds != a1.fSeconds)))))
        (oc (op hN (.ptr 1002 2 [2]) (ov (.ptr 1002 2 [2]) (fp hN Try.underlying30 2 tyS22 (.box 30 (.d (e_api_Series a0))) (ot 2 (.ptr 1002 0 [])))) (OptL.keep rfl OptL.nil) (GuardV.plain _))
        (oc (op hN (.d (.list 1 (a0.fIn.map (eI .i64)))) (lb hN 30 (.d (e_api_Series a0)) (.d (.list 1 (a0.fIn.map (eI .i64)))) tyS22 (ad (.list 1 (a0.fIn.map (eI .i64)))) (ot 30 (.ptr 1002 2 [2]))) (OptL.opt OptL.nil) (GuardV.plain _))
        (oc (op hN (i6 (a0.fIn.length : Int)) (OpJ.val (v' := (i6 (a0.fIn.length : Int))) (by simp) (OpJ.lenD Try.underlying22 (ltN hN rfl) (ot 31 (.d (.list 1 (a0.fIn.map (eI .i64))))))) (OptL.opt OptL.nil) (GuardV.plain _))
        (oc (op hN (.ptr 1003 2 [2]) (ov (.ptr 1003 2 [2]) (fp hN Try.underlying30 2 tyS22 (.box 30 (.d (e_api_Series a1))) (ot 3 (.ptr 1003 0 [])))) (OptL.keep rfl OptL.nil) (GuardV.plain _))
        (oc (op hN (.d (.list 1 (a1.fIn.map (eI .i64)))) (lb hN 30 (.d (e_api_Series a1)) (.d (.list 1 (a1.fIn.map (eI .i64)))) tyS22 (ad (.list 1 (a1.fIn.map (eI .i64)))) (ot 33 (.ptr 1003 2 [2]))) (OptL.opt OptL.nil) (GuardV.plain _))
        (oc (op hN (i6 (a1.fIn.length : Int)) (OpJ.val (v' := (i6 (a1.fIn.length : Int))) (by simp) (OpJ.lenD Try.underlying22 (ltN hN rfl) (ot 34 (.d (.list 1 (a1.fIn.map (eI .i64))))))) (OptL.opt OptL.nil) (GuardV.plain _))
        (oc (op hN (bo ((a0.fIn.length : Int) != (a1.fIn.length : Int))) (OpJ.neqI (ltN hN rfl) (ot 32 (i6 (a0.fIn.length : Int))) (ot 35 (i6 (a1.fIn.length : Int)))) (OptL.opt (OptL.opt OptL.nil)) (GuardV.plain _))
        (oc (OpJ.pickOr rfl (ltN hN rfl) (ot 29 (bo ((a0.fPort != a1.fPort) || (a0.fSeconds != a1.fSeconds)))) (ot 36 (.opt (((a0.fPort != a1.fPort) || (a0.fSeconds != a1.fSeconds)) == false) (bo ((a0.fIn.length : Int) != (a1.fIn.length : Int))))))
        (OpJs.nil)))))))))))))))))))))) (by rfl) (by rfl) ?_
      refine seqQ_n ?_
      refine AWp.ghost (mp [] [(2, (.ptr 1002 0 [])), (3, (.ptr 1003 0 [])), (4, (.ptr 1004 0 [])), (37, (bo (((a0.fPort != a1.fPort) || (a0.fSeconds != a1.fSeconds)) || ((a0.fIn.length : Int) != (a1.fIn.length : Int)))))] [(1002, some (.box 30 (.d (e_api_Series a0)))), (1003, some (.box 30 (.d (e_api_Series a1)))), (1004, some (.box 30 (.st [(i6 (0 : Int)), (i6 (0 : Int)), .nils, .nils])))] hB) ?_
      refine AWp.cond (b := (((a0.fPort != a1.fPort) || (a0.fSeconds != a1.fSeconds)) || ((a0.fIn.length : Int) != (a1.fIn.length : Int)))) (by rfl) (fun hg8 => ?_) (fun hg8 => ?_)
      · replace h := ite_t hg8 h
        refine AWp.seq ?_
        refine AWp.region (oc (OpJ.build (places := [(0, 1), (1, 1), (2, 1), (3, 1)]) ⟨Try.underlying30, fun w => by kernel_rfl⟩ tyZS30 Opds.nil (by kernel_rfl) (r := (.st [(i6 (0 : Int)), (i6 (0 : Int)), .nils, .nils])) (by rfl) (ltN hN rfl))
          (oc (OpJ.storeB (bt := 30) (c := (.st [(i6 (0 : Int)), (i6 (0 : Int)), .nils, .nils])) (v := (.st [(i6 (0 : Int)), (i6 (0 : Int)), .nils, .nils])) (c' := (.st [(i6 (0 : Int)), (i6 (0 : Int)), .nils, .nils])) tyS30 (SetAt.here _ _) (by rfl) (by rfl) (by simp) rfl (ot 4 (.ptr 1004 0 [])) (ot 38 (.st [(i6 (0 : Int)), (i6 (0 : Int)), .nils, .nils])))
          (oc (OpJ.assign (ltN hN rfl) (Opd.int .i64 (7)))
          (OpJs.nil)))) (by rfl) (by rfl) ?_
        refine seqQ_n ?_
        refine AWp.ghost (mp [] [(4, (.ptr 1004 0 [])), (5, (i6 (7 : Int)))] [(1004, some (.box 30 (.st [(i6 (0 : Int)), (i6 (0 : Int)), .nils, .nils])))] hB) ?_
        refine AWp.ret ?_
        refine seqQ_r ?_
        obtain rfl := Option.some.inj h
        exact ⟨.inl rfl, _, _, (Mat.trans (Mat.coeP (Ts := []) (Bs := [(1004, some (.box 30 (.d (.st [(.int .i64 (0 : Int)), (.int .i64 (0 : Int)), (.list 1 (([] : List Int).map (eI .i64))), (.list 1 (([] : List Int).map (eI .i64)))]))))]) TwT.nil (TwB.cons (x := (.st [(i6 (0 : Int)), (i6 (0 : Int)), .nils, .nils])) (by rfl) (Tw.leaf ⟨_, (Co.st (CoL.cons (Co.d _) (CoL.cons (Co.d _) (CoL.cons (Co.nils 1) (CoL.cons (Co.nils 1) CoL.nil))))), rfl⟩) TwB.nil)) (mp [] [(4, (.ptr 1004 0 [])), (5, (i6 (7 : Int)))] [(1004, some (.box 30 (.d (.st [(.int .i64 (0 : Int)), (.int .i64 (0 : Int)), (.list 1 (([] : List Int).map (eI .i64))), (.list 1 (([] : List Int).map (eI .i64)))]))))] hB)), [(.d (.st [(.int .i64 (0 : Int)), (.int .i64 (0 : Int)), (.list 1 (([] : List Int).map (eI .i64))), (.list 1 (([] : List Int).map (eI .i64)))])), (i6 (7 : Int))], (Res.cell (c := (.d (.st [(.int .i64 (0 : Int)), (.int .i64 (0 : Int)), (.list 1 (([] : List Int).map (eI .i64))), (.list 1 (([] : List Int).map (eI .i64)))]))) (by rfl) (by rfl) tyS30 (by rfl) (by rfl) (by rfl) (Res.tmp (by rfl) (by rfl) Res.nil)), rfl, by rfl, by rfl, by rfl⟩
      · replace h := ite_f hg8 h
        refine AWp.skip ?_
        refine seqQ_n ?_
        refine AWp.seq ?_
        obtain ⟨r9, hr9, h⟩ := bindS h
        refine AWp.region (oc (lb hN 30 (.d (e_api_Series a0)) (.d (e_api_Series a0)) tyS30 (At.here _) (ot 2 (.ptr 1002 0 [])))
          (oc (OpJ.callFn hB fnOk33 (clone_Series_3_ac a0 r9 hr9) [(900000, 100200), (900001, 100201)] (by kernel_rfl) (ltN hN rfl) (by kernel_rfl) (OpdL.cons (ot 39 (.d (e_api_Series a0))) OpdL.nil))
          (oc (OpJ.alloc hB tyZ30 (nm := 1006) (by decide) (ltN hN rfl))
          (oc (OpJ.storeB (bt := 30) (c := (.st [(i6 (0 : Int)), (i6 (0 : Int)), .nils, .nils])) (v := (.st [(i6 r9.fPort), (i6 r9.fSeconds), (.sref 100200 1 0 r9.fIn.length), (.sref 100201 1 0 r9.fOut.length)])) (c' := (.st [(i6 r9.fPort), (i6 r9.fSeconds), (.sref 100200 1 0 r9.fIn.length), (.sref 100201 1 0 r9.fOut.length)])) tyS30 (SetAt.here _ _) (by rfl) (by rfl) (by simp) rfl (ot 6 (.ptr 1006 0 [])) (ot 40 (.st [(i6 r9.fPort), (i6 r9.fSeconds), (.sref 100200 1 0 r9.fIn.length), (.sref 100201 1 0 r9.fOut.length)])))
          (OpJs.nil))))) (by rfl) (by rfl) ?_
        refine seqQ_n ?_
        refine AWp.ghost (mp [] [(3, (.ptr 1003 0 [])), (4, (.ptr 1004 0 [])), (6, (.ptr 1006 0 []))] [(1003, some (.box 30 (.d (e_api_Series a1)))), (1004, some (.box 30 (.st [(i6 (0 : Int)), (i6 (0 : Int)), .nils, .nils]))), (1006, some (.box 30 (.st [(i6 r9.fPort), (i6 r9.fSeconds), (.sref 100200 1 0 r9.fIn.length), (.sref 100201 1 0 r9.fOut.length)]))), (100200, some (.row 3 1 (r9.fIn.map (eI .i64)))), (100201, some (.row 3 1 (r9.fOut.map (eI .i64))))] hB) ?_
        refine AWp.seq ?_
        refine AWp.seq ?_
        refine AWp.region (oc (ov (.ptr 1003 2 [2]) (fp hN Try.underlying30 2 tyS22 (.box 30 (.d (e_api_Series a1))) (ot 3 (.ptr 1003 0 []))))
          (oc (lb hN 30 (.d (e_api_Series a1)) (.d (.list 1 (a1.fIn.map (eI .i64)))) tyS22 (ad (.list 1 (a1.fIn.map (eI .i64)))) (ot 41 (.ptr 1003 2 [2])))
          (oc (OpJ.val (v' := (i6 (a1.fIn.length : Int))) (by simp) (OpJ.lenD Try.underlying22 (ltN hN rfl) (ot 42 (.d (.list 1 (a1.fIn.map (eI .i64)))))))
          (oc (mv hN (Opd.int .i64 (0)))
          (OpJs.nil))))) (by rfl) (by rfl) ?_
        refine seqQ_n ?_
        refine AWp.ghost (mp [] [(3, (.ptr 1003 0 [])), (4, (.ptr 1004 0 [])), (6, (.ptr 1006 0 [])), (43, (i6 (a1.fIn.length : Int))), (44, (i6 (0 : Int)))] [(1003, some (.box 30 (.d (e_api_Series a1)))), (1004, some (.box 30 (.st [(i6 (0 : Int)), (i6 (0 : Int)), .nils, .nils]))), (1006, some (.box 30 (.st [(i6 r9.fPort), (i6 r9.fSeconds), (.sref 100200 1 0 r9.fIn.length), (.sref 100201 1 0 r9.fOut.length)]))), (100200, some (.row 3 1 (r9.fIn.map (eI .i64)))), (100201, some (.row 3 1 (r9.fOut.map (eI .i64))))] hB) ?_
        refine AWp.block ?_
        obtain ⟨x205, hx206, h⟩ := bindS h
        refine AWp.ghost (mp [] ((fun s10 : Int × (List Int) × (List Int) => ([(3, (.ptr 1003 0 [])), (4, (.ptr 1004 0 [])), (6, (.ptr 1006 0 [])), (43, (i6 (a1.fIn.length : Int))), (44, (i6 s10.1))] : EL)) ((0 : Int), r9.fOut, r9.fIn)) ((fun s10 : Int × (List Int) × (List Int) => ([(1003, some (.box 30 (.d (e_api_Series a1)))), (1004, some (.box 30 (.st [(i6 (0 : Int)), (i6 (0 : Int)), .nils, .nils]))), (1006, some (.box 30 (.st [(i6 r9.fPort), (i6 r9.fSeconds), (.sref 100200 1 0 s10.2.2.length), (.sref 100201 1 0 s10.2.1.length)]))), (100200, some (.row 3 1 (s10.2.2.map (eI .i64)))), (100201, some (.row 3 1 (s10.2.1.map (eI .i64))))] : OL)) ((0 : Int), r9.fOut, r9.fIn)) hB) ?_
        refine AWp.loopS (percentile_Merge_L0 a1) (fun s10 : Int × (List Int) × (List Int) => ([(3, (.ptr 1003 0 [])), (4, (.ptr 1004 0 [])), (6, (.ptr 1006 0 [])), (43, (i6 (a1.fIn.length : Int))), (44, (i6 s10.1))] : EL)) (fun s10 : Int × (List Int) × (List Int) => ([(1003, some (.box 30 (.d (e_api_Series a1)))), (1004, some (.box 30 (.st [(i6 (0 : Int)), (i6 (0 : Int)), .nils, .nils]))), (1006, some (.box 30 (.st [(i6 r9.fPort), (i6 r9.fSeconds), (.sref 100200 1 0 s10.2.2.length), (.sref 100201 1 0 s10.2.1.length)]))), (100200, some (.row 3 1 (s10.2.2.map (eI .i64)))), (100201, some (.row 3 1 (s10.2.1.map (eI .i64))))] : OL)) (fun (x : (Unit) ⊕ ((List Int) × (List Int))) e E' O' => match x with | (.inl _p) => e = .ret ∧ Mat B E' O' ([(4, (.ptr 1004 0 [])), (5, (i6 (8 : Int)))] : EL) ([(1004, some (.box 30 (.st [(i6 (0 : Int)), (i6 (0 : Int)), .nils, .nils])))] : OL) | (.inr p140) => e = .exit 0 ∧ Mat B E' O' ([(4, (.ptr 1004 0 [])), (6, (.ptr 1006 0 []))] : EL) ([(1004, some (.box 30 (.st [(i6 (0 : Int)), (i6 (0 : Int)), .nils, .nils]))), (1006, some (.box 30 (.st [(i6 r9.fPort), (i6 r9.fSeconds), (.sref 100200 1 0 p140.2.length), (.sref 100201 1 0 p140.1.length)]))), (100200, some (.row 3 1 (p140.2.map (eI .i64)))), (100201, some (.row 3 1 (p140.1.map (eI .i64))))] : OL)) hx206 (fun s10 y h => ?_) (fun e E' O' hR => ?_)
        · unfold percentile_Merge_L0 at h
          show AWp _ _ _ _ ([(3, (.ptr 1003 0 [])), (4, (.ptr 1004 0 [])), (6, (.ptr 1006 0 [])), (43, (i6 (a1.fIn.length : Int))), (44, (i6 s10.1))] : EL) ([(1003, some (.box 30 (.d (e_api_Series a1)))), (1004, some (.box 30 (.st [(i6 (0 : Int)), (i6 (0 : Int)), .nils, .nils]))), (1006, some (.box 30 (.st [(i6 r9.fPort), (i6 r9.fSeconds), (.sref 100200 1 0 s10.2.2.length), (.sref 100201 1 0 s10.2.1.length)]))), (100200, some (.row 3 1 (s10.2.2.map (eI .i64)))), (100201, some (.row 3 1 (s10.2.1.map (eI .i64))))] : OL)
          refine AWp.seq ?_
          refine AWp.region (oc (OpJ.lss (ltN hN rfl) (ot 44 (i6 s10.1)) (ot 43 (i6 (a1.fIn.length : Int))))
            (OpJs.nil)) (by rfl) (by rfl) ?_
          refine seqQ_n ?_
          refine AWp.ghost (mp [] [(3, (.ptr 1003 0 [])), (4, (.ptr 1004 0 [])), (6, (.ptr 1006 0 [])), (43, (i6 (a1.fIn.length : Int))), (44, (i6 s10.1)), (45, (bo (decide (s10.1 < (a1.fIn.length : Int)))))] [(1003, some (.box 30 (.d (e_api_Series a1)))), (1004, some (.box 30 (.st [(i6 (0 : Int)), (i6 (0 : Int)), .nils, .nils]))), (1006, some (.box 30 (.st [(i6 r9.fPort), (i6 r9.fSeconds), (.sref 100200 1 0 s10.2.2.length), (.sref 100201 1 0 s10.2.1.length)]))), (100200, some (.row 3 1 (s10.2.2.map (eI .i64)))), (100201, some (.row 3 1 (s10.2.1.map (eI .i64))))] hB) ?_
          refine AWp.seq ?_
          refine AWp.cond (b := (decide (s10.1 < (a1.fIn.length : Int)))) (by rfl) (fun hg141 => ?_) (fun hg141 => ?_)
          · replace h := ite_t hg141 h
            refine AWp.skip ?_
            refine seqQ_n ?_
            refine AWp.seq ?_
            refine AWp.block ?_
            refine AWp.seq ?_
            refine AWp.region (oc (mv hN (ot 44 (i6 s10.1)))
              (oc (OpJ.assign (ltN hN rfl) (ot 46 (i6 s10.1)))
              (OpJs.nil))) (by rfl) (by rfl) ?_
            refine seqQ_n ?_
            refine AWp.ghost (mp [] [(3, (.ptr 1003 0 [])), (4, (.ptr 1004 0 [])), (6, (.ptr 1006 0 [])), (7, (i6 s10.1)), (43, (i6 (a1.fIn.length : Int))), (44, (i6 s10.1))] [(1003, some (.box 30 (.d (e_api_Series a1)))), (1004, some (.box 30 (.st [(i6 (0 : Int)), (i6 (0 : Int)), .nils, .nils]))), (1006, some (.box 30 (.st [(i6 r9.fPort), (i6 r9.fSeconds), (.sref 100200 1 0 s10.2.2.length), (.sref 100201 1 0 s10.2.1.length)]))), (100200, some (.row 3 1 (s10.2.2.map (eI .i64)))), (100201, some (.row 3 1 (s10.2.1.map (eI .i64))))] hB) ?_
            refine AWp.block ?_
            refine AWp.seq ?_
            obtain ⟨x142, hx142, h⟩ := bindS h
            refine AWp.region (oc (ov (.ptr 1003 2 [2]) (fp hN Try.underlying30 2 tyS22 (.box 30 (.d (e_api_Series a1))) (ot 3 (.ptr 1003 0 []))))
              (oc (lb hN 30 (.d (e_api_Series a1)) (.d (.list 1 (a1.fIn.map (eI .i64)))) tyS22 (ad (.list 1 (a1.fIn.map (eI .i64)))) (ot 48 (.ptr 1003 2 [2])))
              (oc (mv hN (ot 7 (i6 s10.1)))
              (oc (OpJ.indexD (el := (.int .i64 x142)) Try.underlying22 tyS3 (idx_some hx142).1 (get_map (eI .i64) (idx_some hx142).2) (ltN hN rfl) (ot 49 (.d (.list 1 (a1.fIn.map (eI .i64))))) (ot 50 (i6 s10.1)))
              (oc (OpJ.loadD tyS3 (by rfl) (by rfl) (ltN hN rfl) (ot 51 (.dptr (.int .i64 x142))))
              (oc (OpJ.eqlI (ltN hN rfl) (ot 52 (i6 x142)) (Opd.int .i64 (-1)))
              (oc (OpJ.assign (ltN hN rfl) (ot 53 (bo (x142 == (-1 : Int)))))
              (OpJs.nil)))))))) (by rfl) (by rfl) ?_
            refine seqQ_n ?_
            refine AWp.ghost (mp [] [(3, (.ptr 1003 0 [])), (4, (.ptr 1004 0 [])), (6, (.ptr 1006 0 [])), (7, (i6 s10.1)), (43, (i6 (a1.fIn.length : Int))), (44, (i6 s10.1)), (47, (bo (x142 == (-1 : Int))))] [(1003, some (.box 30 (.d (e_api_Series a1)))), (1004, some (.box 30 (.st [(i6 (0 : Int)), (i6 (0 : Int)), .nils, .nils]))), (1006, some (.box 30 (.st [(i6 r9.fPort), (i6 r9.fSeconds), (.sref 100200 1 0 s10.2.2.length), (.sref 100201 1 0 s10.2.1.length)]))), (100200, some (.row 3 1 (s10.2.2.map (eI .i64)))), (100201, some (.row 3 1 (s10.2.1.map (eI .i64))))] hB) ?_
            refine AWp.cut h (fun m173 : (List Int) × (List Int) => ([(3, (.ptr 1003 0 [])), (4, (.ptr 1004 0 [])), (6, (.ptr 1006 0 [])), (43, (i6 (a1.fIn.length : Int))), (44, (i6 s10.1))] : EL)) (fun m173 : (List Int) × (List Int) => ([(1003, some (.box 30 (.d (e_api_Series a1)))), (1004, some (.box 30 (.st [(i6 (0 : Int)), (i6 (0 : Int)), .nils, .nils]))), (1006, some (.box 30 (.st [(i6 r9.fPort), (i6 r9.fSeconds), (.sref 100200 1 0 m173.2.length), (.sref 100201 1 0 m173.1.length)]))), (100200, some (.row 3 1 (m173.2.map (eI .i64)))), (100201, some (.row 3 1 (m173.1.map (eI .i64))))] : OL)) (fun m173 h E' O' hmat => ?_) (fun j174 hjj174 h => ?_)
            · refine blkQ_n ?_
              refine blkQ_n ?_
              refine seqQ_n ?_
              refine AWp.ghost hmat ?_
              refine AWp.region (oc (OpJ.add (ltN hN rfl) (ot 44 (i6 s10.1)) (Opd.int .i64 (1)))
                (oc (mv hN (ot 105 (i6 (w64 (s10.1 + (1 : Int))))))
                (OpJs.nil))) (by rfl) (by rfl) ?_
              obtain rfl := Option.some.inj h
              exact ⟨rfl, (Mat.trans (mp [] [(3, (.ptr 1003 0 [])), (4, (.ptr 1004 0 [])), (6, (.ptr 1006 0 [])), (43, (i6 (a1.fIn.length : Int))), (44, (i6 (w64 (s10.1 + (1 : Int)))))] [(1003, some (.box 30 (.d (e_api_Series a1)))), (1004, some (.box 30 (.st [(i6 (0 : Int)), (i6 (0 : Int)), .nils, .nils]))), (1006, some (.box 30 (.st [(i6 r9.fPort), (i6 r9.fSeconds), (.sref 100200 1 0 m173.2.length), (.sref 100201 1 0 m173.1.length)]))), (100200, some (.row 3 1 (m173.2.map (eI .i64)))), (100201, some (.row 3 1 (m173.1.map (eI .i64))))] hB) (mp [] ((fun s10 : Int × (List Int) × (List Int) => ([(3, (.ptr 1003 0 [])), (4, (.ptr 1004 0 [])), (6, (.ptr 1006 0 [])), (43, (i6 (a1.fIn.length : Int))), (44, (i6 s10.1))] : EL)) ((w64 (s10.1 + (1 : Int))), m173.1, m173.2)) ((fun s10 : Int × (List Int) × (List Int) => ([(1003, some (.box 30 (.d (e_api_Series a1)))), (1004, some (.box 30 (.st [(i6 (0 : Int)), (i6 (0 : Int)), .nils, .nils]))), (1006, some (.box 30 (.st [(i6 r9.fPort), (i6 r9.fSeconds), (.sref 100200 1 0 s10.2.2.length), (.sref 100201 1 0 s10.2.1.length)]))), (100200, some (.row 3 1 (s10.2.2.map (eI .i64)))), (100201, some (.row 3 1 (s10.2.1.map (eI .i64))))] : OL)) ((w64 (s10.1 + (1 : Int))), m173.1, m173.2)) hB))⟩
            · refine AWp.cond (b := (x142 == (-1 : Int))) (by rfl) (fun hg175 => ?_) (fun hg175 => ?_)
              · replace h := ite_t hg175 h
                refine AWp.skip ?_
                exact hjj174 _ h _ _ (mp [] ((fun m173 : (List Int) × (List Int) => ([(3, (.ptr 1003 0 [])), (4, (.ptr 1004 0 [])), (6, (.ptr 1006 0 [])), (43, (i6 (a1.fIn.length : Int))), (44, (i6 s10.1))] : EL)) (s10.2.1, s10.2.2)) ((fun m173 : (List Int) × (List Int) => ([(1003, some (.box 30 (.d (e_api_Series a1)))), (1004, some (.box 30 (.st [(i6 (0 : Int)), (i6 (0 : Int)), .nils, .nils]))), (1006, some (.box 30 (.st [(i6 r9.fPort), (i6 r9.fSeconds), (.sref 100200 1 0 m173.2.length), (.sref 100201 1 0 m173.1.length)]))), (100200, some (.row 3 1 (m173.2.map (eI .i64)))), (100201, some (.row 3 1 (m173.1.map (eI .i64))))] : OL)) (s10.2.1, s10.2.2)) hB)
              · replace h := ite_f hg175 h
                refine AWp.seq ?_
                obtain ⟨x176, hx176, h⟩ := bindS h
                obtain ⟨x177, hx177, h⟩ := bindS h
                refine AWp.region (oc (ov (.ptr 1006 2 [2]) (fp hN Try.underlying30 2 tyS22 (.box 30 (.st [(i6 r9.fPort), (i6 r9.fSeconds), (.sref 100200 1 0 s10.2.2.length), (.sref 100201 1 0 s10.2.1.length)])) (ot 6 (.ptr 1006 0 []))))
                  (oc (lb hN 30 (.st [(i6 r9.fPort), (i6 r9.fSeconds), (.sref 100200 1 0 s10.2.2.length), (.sref 100201 1 0 s10.2.1.length)]) (.sref 100200 1 0 s10.2.2.length) tyS22 (At.st1 (f := (.sref 100200 1 0 s10.2.2.length)) (by rfl) (by rfl) (At.here _) (by first | rfl | omega)) (ot 55 (.ptr 1006 2 [2])))
                  (oc (mv hN (ot 7 (i6 s10.1)))
                  (oc (OpJ.val (v' := (.ptr 100200 (s10.1.toNat * 1) [s10.1.toNat])) (by simp) (OpJ.indexS Try.underlying22 tyS3 (obj := (.row 3 1 (s10.2.2.map (eI .i64)))) (idx_some hx176).1 (by have := idx_lt hx176; first | (simpa using this) | ((try simp only [List.length_map] at this); (try simp only [List.length_map]); omega)) (ltN hN rfl) (ot 56 (.sref 100200 1 0 s10.2.2.length)) (ot 57 (i6 s10.1))))
                  (oc (OpJ.loadR (e := 3) (sz := 1) (es := s10.2.2.map (eI .i64)) tyS3 (get_map (eI .i64) (idx_some hx177).2) (o := 0) (v := (.int .i64 x177)) (At.here _) (by rfl) (by rfl) (by rfl) (ltN hN rfl) (ot 58 (.ptr 100200 (s10.1.toNat * 1) [s10.1.toNat])))
                  (oc (OpJ.eqlI (ltN hN rfl) (ot 59 (i6 x177)) (Opd.int .i64 (-1)))
                  (oc (OpJ.assign (ltN hN rfl) (ot 60 (bo (x177 == (-1 : Int)))))
                  (OpJs.nil)))))))) (by rfl) (by rfl) ?_
                refine seqQ_n ?_
                refine AWp.ghost (mp [] [(3, (.ptr 1003 0 [])), (4, (.ptr 1004 0 [])), (6, (.ptr 1006 0 [])), (7, (i6 s10.1)), (43, (i6 (a1.fIn.length : Int))), (44, (i6 s10.1)), (54, (bo (x177 == (-1 : Int))))] [(1003, some (.box 30 (.d (e_api_Series a1)))), (1004, some (.box 30 (.st [(i6 (0 : Int)), (i6 (0 : Int)), .nils, .nils]))), (1006, some (.box 30 (.st [(i6 r9.fPort), (i6 r9.fSeconds), (.sref 100200 1 0 s10.2.2.length), (.sref 100201 1 0 s10.2.1.length)]))), (100200, some (.row 3 1 (s10.2.2.map (eI .i64)))), (100201, some (.row 3 1 (s10.2.1.map (eI .i64))))] hB) ?_
                refine AWp.cond (b := (x177 == (-1 : Int))) (by rfl) (fun hg178 => ?_) (fun hg178 => ?_)
                · replace h := ite_t hg178 h
                  obtain ⟨x179, hx179, h⟩ := bindS h
                  obtain ⟨x180, hx180, h⟩ := bindS h
                  obtain ⟨x181, hx181, h⟩ := bindS h
                  obtain ⟨x182, hx182, h⟩ := bindS h
                  obtain ⟨x183, hx183, h⟩ := bindS h
                  obtain ⟨x184, hx184, h⟩ := bindS h
                  refine AWp.draws (by kernel_rfl) (oc (ov (.ptr 1006 2 [2]) (fp hN Try.underlying30 2 tyS22 (.box 30 (.st [(i6 r9.fPort), (i6 r9.fSeconds), (.sref 100200 1 0 s10.2.2.length), (.sref 100201 1 0 s10.2.1.length)])) (ot 6 (.ptr 1006 0 []))))
                    (oc (lb hN 30 (.st [(i6 r9.fPort), (i6 r9.fSeconds), (.sref 100200 1 0 s10.2.2.length), (.sref 100201 1 0 s10.2.1.length)]) (.sref 100200 1 0 s10.2.2.length) tyS22 (At.st1 (f := (.sref 100200 1 0 s10.2.2.length)) (by rfl) (by rfl) (At.here _) (by first | rfl | omega)) (ot 61 (.ptr 1006 2 [2])))
                    (oc (mv hN (ot 7 (i6 s10.1)))
                    (oc (ov (.ptr 1006 3 [3]) (fp hN Try.underlying30 3 tyS22 (.box 30 (.st [(i6 r9.fPort), (i6 r9.fSeconds), (.sref 100200 1 0 s10.2.2.length), (.sref 100201 1 0 s10.2.1.length)])) (ot 6 (.ptr 1006 0 []))))
                    (oc (lb hN 30 (.st [(i6 r9.fPort), (i6 r9.fSeconds), (.sref 100200 1 0 s10.2.2.length), (.sref 100201 1 0 s10.2.1.length)]) (.sref 100201 1 0 s10.2.1.length) tyS22 (At.st1 (f := (.sref 100201 1 0 s10.2.1.length)) (by rfl) (by rfl) (At.here _) (by first | rfl | omega)) (ot 64 (.ptr 1006 3 [3])))
                    (oc (mv hN (ot 7 (i6 s10.1)))
                    (oc (ov (.ptr 1003 2 [2]) (fp hN Try.underlying30 2 tyS22 (.box 30 (.d (e_api_Series a1))) (ot 3 (.ptr 1003 0 []))))
                    (oc (lb hN 30 (.d (e_api_Series a1)) (.d (.list 1 (a1.fIn.map (eI .i64)))) tyS22 (ad (.list 1 (a1.fIn.map (eI .i64)))) (ot 67 (.ptr 1003 2 [2])))
                    (oc (mv hN (ot 7 (i6 s10.1)))
                    (oc (OpJ.indexD (el := (.int .i64 x179)) Try.underlying22 tyS3 (idx_some hx179).1 (get_map (eI .i64) (idx_some hx179).2) (ltN hN rfl) (ot 68 (.d (.list 1 (a1.fIn.map (eI .i64))))) (ot 69 (i6 s10.1)))
                    (oc (OpJ.loadD tyS3 (by rfl) (by rfl) (ltN hN rfl) (ot 70 (.dptr (.int .i64 x179))))
                    (oc (ov (.ptr 1003 3 [3]) (fp hN Try.underlying30 3 tyS22 (.box 30 (.d (e_api_Series a1))) (ot 3 (.ptr 1003 0 []))))
                    (oc (lb hN 30 (.d (e_api_Series a1)) (.d (.list 1 (a1.fOut.map (eI .i64)))) tyS22 (ad (.list 1 (a1.fOut.map (eI .i64)))) (ot 72 (.ptr 1003 3 [3])))
                    (oc (mv hN (ot 7 (i6 s10.1)))
                    (oc (OpJ.indexD (el := (.int .i64 x180)) Try.underlying22 tyS3 (idx_some hx180).1 (get_map (eI .i64) (idx_some hx180).2) (ltN hN rfl) (ot 73 (.d (.list 1 (a1.fOut.map (eI .i64))))) (ot 74 (i6 s10.1)))
                    (oc (OpJ.loadD tyS3 (by rfl) (by rfl) (ltN hN rfl) (ot 75 (.dptr (.int .i64 x180))))
                    (oc (OpJ.val (v' := (.ptr 100200 (s10.1.toNat * 1) [s10.1.toNat])) (by simp) (OpJ.indexS Try.underlying22 tyS3 (obj := (.row 3 1 (s10.2.2.map (eI .i64)))) (idx_some hx181).1 (by have := idx_lt hx181; first | (simpa using this) | ((try simp only [List.length_map] at this); (try simp only [List.length_map]); omega)) (ltN hN rfl) (ot 62 (.sref 100200 1 0 s10.2.2.length)) (ot 63 (i6 s10.1))))
                    (oc (OpJ.storeR (e := 3) (sz := 1) (es := s10.2.2.map (eI .i64)) (es' := (s10.2.2.set s10.1.toNat x179).map (eI .i64)) tyS3 (get_map (eI .i64) (idx_some hx182).2) (o := 0) (v := (.int .i64 x179)) (el' := (.int .i64 x179)) (SetAt.here _ _) (by rfl) (map_set _ _ _ _) (by rfl) (by rfl) (ot 77 (.ptr 100200 (s10.1.toNat * 1) [s10.1.toNat])) (ot 71 (i6 x179)))
                    (oc (OpJ.val (v' := (.ptr 100201 (s10.1.toNat * 1) [s10.1.toNat])) (by simp) (OpJ.indexS Try.underlying22 tyS3 (obj := (.row 3 1 (s10.2.1.map (eI .i64)))) (idx_some hx183).1 (by have := idx_lt hx183; first | (simpa using this) | ((try simp only [List.length_map] at this); (try simp only [List.length_map]); omega)) (ltN hN rfl) (ot 65 (.sref 100201 1 0 s10.2.1.length)) (ot 66 (i6 s10.1))))
                    (oc (OpJ.storeR (e := 3) (sz := 1) (es := s10.2.1.map (eI .i64)) (es' := (s10.2.1.set s10.1.toNat x180).map (eI .i64)) tyS3 (get_map (eI .i64) (idx_some hx184).2) (o := 0) (v := (.int .i64 x180)) (el' := (.int .i64 x180)) (SetAt.here _ _) (by rfl) (map_set _ _ _ _) (by rfl) (by rfl) (ot 78 (.ptr 100201 (s10.1.toNat * 1) [s10.1.toNat])) (ot 76 (i6 x180)))
                    (OpJs.nil))))))))))))))))))))) (by kernel_rfl) (by rfl) (by rfl) ?_
                  exact hjj174 _ h _ _ (Mat.trans (mp [] [(3, (.ptr 1003 0 [])), (4, (.ptr 1004 0 [])), (6, (.ptr 1006 0 [])), (43, (i6 (a1.fIn.length : Int))), (44, (i6 s10.1))] [(1003, some (.box 30 (.d (e_api_Series a1)))), (1004, some (.box 30 (.st [(i6 (0 : Int)), (i6 (0 : Int)), .nils, .nils]))), (1006, some (.box 30 (.st [(i6 r9.fPort), (i6 r9.fSeconds), (.sref 100200 1 0 s10.2.2.length), (.sref 100201 1 0 s10.2.1.length)]))), (100200, some (.row 3 1 ((s10.2.2.set s10.1.toNat x179).map (eI .i64)))), (100201, some (.row 3 1 ((s10.2.1.set s10.1.toNat x180).map (eI .i64))))] hB) (Mat.trans (Mat.lenP (Ts := []) (Bs := [(1006, some (.box 30 (.st [(i6 r9.fPort), (i6 r9.fSeconds), (.sref 100200 1 0 ((s10.2.2.set s10.1.toNat x179).length)), (.sref 100201 1 0 s10.2.1.length)])))]) TwT.nil (TwB.cons (x := (.st [(i6 r9.fPort), (i6 r9.fSeconds), (.sref 100200 1 0 s10.2.2.length), (.sref 100201 1 0 s10.2.1.length)])) (by rfl) (Tw.st (TwL.cons (Tw.same _) (TwL.cons (Tw.same _) (TwL.cons (Tw.leaf ⟨_, _, _, _, _, rfl, rfl, (by first | rfl | (simp; done) | (simp; omega))⟩) (TwL.cons (Tw.same _) TwL.nil))))) TwB.nil)) (Mat.trans (Mat.lenP (Ts := []) (Bs := [(1006, some (.box 30 (.st [(i6 r9.fPort), (i6 r9.fSeconds), (.sref 100200 1 0 ((s10.2.2.set s10.1.toNat x179).length)), (.sref 100201 1 0 ((s10.2.1.set s10.1.toNat x180).length))])))]) TwT.nil (TwB.cons (x := (.st [(i6 r9.fPort), (i6 r9.fSeconds), (.sref 100200 1 0 ((s10.2.2.set s10.1.toNat x179).length)), (.sref 100201 1 0 s10.2.1.length)])) (by rfl) (Tw.st (TwL.cons (Tw.same _) (TwL.cons (Tw.same _) (TwL.cons (Tw.same _) (TwL.cons (Tw.leaf ⟨_, _, _, _, _, rfl, rfl, (by first | rfl | (simp; done) | (simp; omega))⟩) TwL.nil))))) TwB.nil)) (mp [] ((fun m173 : (List Int) × (List Int) => ([(3, (.ptr 1003 0 [])), (4, (.ptr 1004 0 [])), (6, (.ptr 1006 0 [])), (43, (i6 (a1.fIn.length : Int))), (44, (i6 s10.1))] : EL)) ((s10.2.1.set s10.1.toNat x180), (s10.2.2.set s10.1.toNat x179))) ((fun m173 : (List Int) × (List Int) => ([(1003, some (.box 30 (.d (e_api_Series a1)))), (1004, some (.box 30 (.st [(i6 (0 : Int)), (i6 (0 : Int)), .nils, .nils]))), (1006, some (.box 30 (.st [(i6 r9.fPort), (i6 r9.fSeconds), (.sref 100200 1 0 m173.2.length), (.sref 100201 1 0 m173.1.length)]))), (100200, some (.row 3 1 (m173.2.map (eI .i64)))), (100201, some (.row 3 1 (m173.1.map (eI .i64))))] : OL)) ((s10.2.1.set s10.1.toNat x180), (s10.2.2.set s10.1.toNat x179))) hB))))
                · replace h := ite_f hg178 h
                  refine AWp.seq ?_
                  refine AWp.cut h (fun m195 : Bool => ([(3, (.ptr 1003 0 [])), (4, (.ptr 1004 0 [])), (6, (.ptr 1006 0 [])), (43, (i6 (a1.fIn.length : Int))), (44, (i6 s10.1)), (79, (bo m195))] : EL)) (fun m195 : Bool => ([(1003, some (.box 30 (.d (e_api_Series a1)))), (1004, some (.box 30 (.st [(i6 (0 : Int)), (i6 (0 : Int)), .nils, .nils]))), (1006, some (.box 30 (.st [(i6 r9.fPort), (i6 r9.fSeconds), (.sref 100200 1 0 s10.2.2.length), (.sref 100201 1 0 s10.2.1.length)]))), (100200, some (.row 3 1 (s10.2.2.map (eI .i64)))), (100201, some (.row 3 1 (s10.2.1.map (eI .i64))))] : OL)) (fun m195 h E' O' hmat => ?_) (fun j196 hjj196 h => ?_)
                  · refine seqQ_n ?_
                    refine AWp.ghost hmat ?_
                    refine AWp.cond (b := m195) (by rfl) (fun hg197 => ?_) (fun hg197 => ?_)
                    · replace h := ite_t hg197 h
                      refine AWp.seq ?_
                      refine AWp.region (oc (OpJ.build (places := [(0, 1), (1, 1), (2, 1), (3, 1)]) ⟨Try.underlying30, fun w => by kernel_rfl⟩ tyZS30 Opds.nil (by kernel_rfl) (r := (.st [(i6 (0 : Int)), (i6 (0 : Int)), .nils, .nils])) (by rfl) (ltN hN rfl))
                        (oc (OpJ.storeB (bt := 30) (c := (.st [(i6 (0 : Int)), (i6 (0 : Int)), .nils, .nils])) (v := (.st [(i6 (0 : Int)), (i6 (0 : Int)), .nils, .nils])) (c' := (.st [(i6 (0 : Int)), (i6 (0 : Int)), .nils, .nils])) tyS30 (SetAt.here _ _) (by rfl) (by rfl) (by simp) rfl (ot 4 (.ptr 1004 0 [])) (ot 104 (.st [(i6 (0 : Int)), (i6 (0 : Int)), .nils, .nils])))
                        (oc (OpJ.assign (ltN hN rfl) (Opd.int .i64 (8)))
                        (OpJs.nil)))) (by rfl) (by rfl) ?_
                      refine seqQ_n ?_
                      refine AWp.ghost (mp [] [(4, (.ptr 1004 0 [])), (5, (i6 (8 : Int)))] [(1004, some (.box 30 (.st [(i6 (0 : Int)), (i6 (0 : Int)), .nils, .nils])))] hB) ?_
                      refine AWp.ret ?_
                      refine blkQ_r ?_
                      refine blkQ_r ?_
                      refine seqQ_r ?_
                      obtain rfl := Option.some.inj h
                      exact ⟨(fun hc => by cases hc), rfl, (mp [] ((fun _ : Unit => ([(4, (.ptr 1004 0 [])), (5, (i6 (8 : Int)))] : EL)) ()) ((fun _ : Unit => ([(1004, some (.box 30 (.st [(i6 (0 : Int)), (i6 (0 : Int)), .nils, .nils])))] : OL)) ()) hB)⟩
                    · replace h := ite_f hg197 h
                      refine AWp.skip ?_
                      exact hjj174 _ h _ _ (mp [] ((fun m173 : (List Int) × (List Int) => ([(3, (.ptr 1003 0 [])), (4, (.ptr 1004 0 [])), (6, (.ptr 1006 0 [])), (43, (i6 (a1.fIn.length : Int))), (44, (i6 s10.1))] : EL)) (s10.2.1, s10.2.2)) ((fun m173 : (List Int) × (List Int) => ([(1003, some (.box 30 (.d (e_api_Series a1)))), (1004, some (.box 30 (.st [(i6 (0 : Int)), (i6 (0 : Int)), .nils, .nils]))), (1006, some (.box 30 (.st [(i6 r9.fPort), (i6 r9.fSeconds), (.sref 100200 1 0 m173.2.length), (.sref 100201 1 0 m173.1.length)]))), (100200, some (.row 3 1 (m173.2.map (eI .i64)))), (100201, some (.row 3 1 (m173.1.map (eI .i64))))] : OL)) (s10.2.1, s10.2.2)) hB)
                  · obtain ⟨x198, hx198, h⟩ := bindS h
                    obtain ⟨x199, hx199, h⟩ := bindS h
                    obtain ⟨x200, hx200, h⟩ := bindS h
                    rcases Bool.eq_false_or_eq_true (x199 != x200) with hg201 | hg201
                    · replace h := ite_t hg201 h
                      refine AWp.draws (by kernel_rfl) (oc (ov (.ptr 1006 2 [2]) (fp hN Try.underlying30 2 tyS22 (.box 30 (.st [(i6 r9.fPort), (i6 r9.fSeconds), (.sref 100200 1 0 s10.2.2.length), (.sref 100201 1 0 s10.2.1.length)])) (ot 6 (.ptr 1006 0 []))))
                        (oc (lb hN 30 (.st [(i6 r9.fPort), (i6 r9.fSeconds), (.sref 100200 1 0 s10.2.2.length), (.sref 100201 1 0 s10.2.1.length)]) (.sref 100200 1 0 s10.2.2.length) tyS22 (At.st1 (f := (.sref 100200 1 0 s10.2.2.length)) (by rfl) (by rfl) (At.here _) (by first | rfl | omega)) (ot 80 (.ptr 1006 2 [2])))
                        (oc (mv hN (ot 7 (i6 s10.1)))
                        (oc (OpJ.val (v' := (.ptr 100200 (s10.1.toNat * 1) [s10.1.toNat])) (by simp) (OpJ.indexS Try.underlying22 tyS3 (obj := (.row 3 1 (s10.2.2.map (eI .i64)))) (idx_some hx198).1 (by have := idx_lt hx198; first | (simpa using this) | ((try simp only [List.length_map] at this); (try simp only [List.length_map]); omega)) (ltN hN rfl) (ot 81 (.sref 100200 1 0 s10.2.2.length)) (ot 82 (i6 s10.1))))
                        (oc (OpJ.loadR (e := 3) (sz := 1) (es := s10.2.2.map (eI .i64)) tyS3 (get_map (eI .i64) (idx_some hx199).2) (o := 0) (v := (.int .i64 x199)) (At.here _) (by rfl) (by rfl) (by rfl) (ltN hN rfl) (ot 83 (.ptr 100200 (s10.1.toNat * 1) [s10.1.toNat])))
                        (oc (ov (.ptr 1003 2 [2]) (fp hN Try.underlying30 2 tyS22 (.box 30 (.d (e_api_Series a1))) (ot 3 (.ptr 1003 0 []))))
                        (oc (lb hN 30 (.d (e_api_Series a1)) (.d (.list 1 (a1.fIn.map (eI .i64)))) tyS22 (ad (.list 1 (a1.fIn.map (eI .i64)))) (ot 85 (.ptr 1003 2 [2])))
                        (oc (mv hN (ot 7 (i6 s10.1)))
                        (oc (OpJ.indexD (el := (.int .i64 x200)) Try.underlying22 tyS3 (idx_some hx200).1 (get_map (eI .i64) (idx_some hx200).2) (ltN hN rfl) (ot 86 (.d (.list 1 (a1.fIn.map (eI .i64))))) (ot 87 (i6 s10.1)))
                        (oc (OpJ.loadD tyS3 (by rfl) (by rfl) (ltN hN rfl) (ot 88 (.dptr (.int .i64 x200))))
                        (oc (OpJ.neqI (ltN hN rfl) (ot 84 (i6 x199)) (ot 89 (i6 x200)))
                        (oc (OpJ.val (v' := .d (.bool true)) (by rw [hg201]) (mv hN (ot 90 (bo (x199 != x200)))))
                        (oc (OpJ.skipU (ltN hN rfl) (by rfl))
                        (oc (OpJ.skipU (ltN hN rfl) (by rfl))
                        (oc (OpJ.skipU (ltN hN rfl) (by rfl))
                        (oc (OpJ.skipU (ltN hN rfl) (by rfl))
                        (oc (OpJ.skipU (ltN hN rfl) (by rfl))
                        (oc (OpJ.skipU (ltN hN rfl) (by rfl))
                        (oc (OpJ.skipU (ltN hN rfl) (by rfl))
                        (oc (OpJ.skipU (ltN hN rfl) (by rfl))
                        (oc (OpJ.skipU (ltN hN rfl) (by rfl))
                        (oc (OpJ.skipU (ltN hN rfl) (by rfl))
                        (oc (OpJ.skipU (ltN hN rfl) (by rfl))
                        (oc (OpJ.pickT (ltN hN rfl) (ot 91 (bo true)) (Opd.bool true))
                        (oc (OpJ.assign (ltN hN rfl) (ot 103 (bo true)))
                        (OpJs.nil)))))))))))))))))))))))))) (by kernel_rfl) (by rfl) (by rfl) ?_
                      exact hjj196 _ h _ _ (Mat.trans (mp [] [(3, (.ptr 1003 0 [])), (4, (.ptr 1004 0 [])), (6, (.ptr 1006 0 [])), (43, (i6 (a1.fIn.length : Int))), (44, (i6 s10.1)), (79, (bo true))] [(1003, some (.box 30 (.d (e_api_Series a1)))), (1004, some (.box 30 (.st [(i6 (0 : Int)), (i6 (0 : Int)), .nils, .nils]))), (1006, some (.box 30 (.st [(i6 r9.fPort), (i6 r9.fSeconds), (.sref 100200 1 0 s10.2.2.length), (.sref 100201 1 0 s10.2.1.length)]))), (100200, some (.row 3 1 (s10.2.2.map (eI .i64)))), (100201, some (.row 3 1 (s10.2.1.map (eI .i64))))] hB) (mp [] ((fun m195 : Bool => ([(3, (.ptr 1003 0 [])), (4, (.ptr 1004 0 [])), (6, (.ptr 1006 0 [])), (43, (i6 (a1.fIn.length : Int))), (44, (i6 s10.1)), (79, (bo m195))] : EL)) true) ((fun m195 : Bool => ([(1003, some (.box 30 (.d (e_api_Series a1)))), (1004, some (.box 30 (.st [(i6 (0 : Int)), (i6 (0 : Int)), .nils, .nils]))), (1006, some (.box 30 (.st [(i6 r9.fPort), (i6 r9.fSeconds), (.sref 100200 1 0 s10.2.2.length), (.sref 100201 1 0 s10.2.1.length)]))), (100200, some (.row 3 1 (s10.2.2.map (eI .i64)))), (100201, some (.row 3 1 (s10.2.1.map (eI .i64))))] : OL)) true) hB))
                    · replace h := ite_f hg201 h
                      obtain ⟨x202, hx202, h⟩ := bindS h
                      obtain ⟨x203, hx203, h⟩ := bindS h
                      obtain ⟨x204, hx204, h⟩ := bindS h
                      refine AWp.draws (by kernel_rfl) (oc (ov (.ptr 1006 2 [2]) (fp hN Try.underlying30 2 tyS22 (.box 30 (.st [(i6 r9.fPort), (i6 r9.fSeconds), (.sref 100200 1 0 s10.2.2.length), (.sref 100201 1 0 s10.2.1.length)])) (ot 6 (.ptr 1006 0 []))))
                        (oc (lb hN 30 (.st [(i6 r9.fPort), (i6 r9.fSeconds), (.sref 100200 1 0 s10.2.2.length), (.sref 100201 1 0 s10.2.1.length)]) (.sref 100200 1 0 s10.2.2.length) tyS22 (At.st1 (f := (.sref 100200 1 0 s10.2.2.length)) (by rfl) (by rfl) (At.here _) (by first | rfl | omega)) (ot 80 (.ptr 1006 2 [2])))
                        (oc (mv hN (ot 7 (i6 s10.1)))
                        (oc (OpJ.val (v' := (.ptr 100200 (s10.1.toNat * 1) [s10.1.toNat])) (by simp) (OpJ.indexS Try.underlying22 tyS3 (obj := (.row 3 1 (s10.2.2.map (eI .i64)))) (idx_some hx198).1 (by have := idx_lt hx198; first | (simpa using this) | ((try simp only [List.length_map] at this); (try simp only [List.length_map]); omega)) (ltN hN rfl) (ot 81 (.sref 100200 1 0 s10.2.2.length)) (ot 82 (i6 s10.1))))
                        (oc (OpJ.loadR (e := 3) (sz := 1) (es := s10.2.2.map (eI .i64)) tyS3 (get_map (eI .i64) (idx_some hx199).2) (o := 0) (v := (.int .i64 x199)) (At.here _) (by rfl) (by rfl) (by rfl) (ltN hN rfl) (ot 83 (.ptr 100200 (s10.1.toNat * 1) [s10.1.toNat])))
                        (oc (ov (.ptr 1003 2 [2]) (fp hN Try.underlying30 2 tyS22 (.box 30 (.d (e_api_Series a1))) (ot 3 (.ptr 1003 0 []))))
                        (oc (lb hN 30 (.d (e_api_Series a1)) (.d (.list 1 (a1.fIn.map (eI .i64)))) tyS22 (ad (.list 1 (a1.fIn.map (eI .i64)))) (ot 85 (.ptr 1003 2 [2])))
                        (oc (mv hN (ot 7 (i6 s10.1)))
                        (oc (OpJ.indexD (el := (.int .i64 x200)) Try.underlying22 tyS3 (idx_some hx200).1 (get_map (eI .i64) (idx_some hx200).2) (ltN hN rfl) (ot 86 (.d (.list 1 (a1.fIn.map (eI .i64))))) (ot 87 (i6 s10.1)))
                        (oc (OpJ.loadD tyS3 (by rfl) (by rfl) (ltN hN rfl) (ot 88 (.dptr (.int .i64 x200))))
                        (oc (OpJ.neqI (ltN hN rfl) (ot 84 (i6 x199)) (ot 89 (i6 x200)))
                        (oc (OpJ.val (v' := .d (.bool false)) (by rw [hg201]) (mv hN (ot 90 (bo (x199 != x200)))))
                        (oc (OpJ.guarded (by rfl) (ov (.ptr 1006 3 [3]) (fp hN Try.underlying30 3 tyS22 (.box 30 (.st [(i6 r9.fPort), (i6 r9.fSeconds), (.sref 100200 1 0 s10.2.2.length), (.sref 100201 1 0 s10.2.1.length)])) (ot 6 (.ptr 1006 0 [])))))
                        (oc (OpJ.guarded (by rfl) (lb hN 30 (.st [(i6 r9.fPort), (i6 r9.fSeconds), (.sref 100200 1 0 s10.2.2.length), (.sref 100201 1 0 s10.2.1.length)]) (.sref 100201 1 0 s10.2.1.length) tyS22 (At.st1 (f := (.sref 100201 1 0 s10.2.1.length)) (by rfl) (by rfl) (At.here _) (by first | rfl | omega)) (ot 92 (.ptr 1006 3 [3]))))
                        (oc (OpJ.guarded (by rfl) (mv hN (ot 7 (i6 s10.1))))
                        (oc (OpJ.guarded (by rfl) (OpJ.val (v' := (.ptr 100201 (s10.1.toNat * 1) [s10.1.toNat])) (by simp) (OpJ.indexS Try.underlying22 tyS3 (obj := (.row 3 1 (s10.2.1.map (eI .i64)))) (idx_some hx202).1 (by have := idx_lt hx202; first | (simpa using this) | ((try simp only [List.length_map] at this); (try simp only [List.length_map]); omega)) (ltN hN rfl) (ot 93 (.sref 100201 1 0 s10.2.1.length)) (ot 94 (i6 s10.1)))))
                        (oc (OpJ.guarded (by rfl) (OpJ.loadR (e := 3) (sz := 1) (es := s10.2.1.map (eI .i64)) tyS3 (get_map (eI .i64) (idx_some hx203).2) (o := 0) (v := (.int .i64 x203)) (At.here _) (by rfl) (by rfl) (by rfl) (ltN hN rfl) (ot 95 (.ptr 100201 (s10.1.toNat * 1) [s10.1.toNat]))))
                        (oc (OpJ.guarded (by rfl) (ov (.ptr 1003 3 [3]) (fp hN Try.underlying30 3 tyS22 (.box 30 (.d (e_api_Series a1))) (ot 3 (.ptr 1003 0 [])))))
                        (oc (OpJ.guarded (by rfl) (lb hN 30 (.d (e_api_Series a1)) (.d (.list 1 (a1.fOut.map (eI .i64)))) tyS22 (ad (.list 1 (a1.fOut.map (eI .i64)))) (ot 97 (.ptr 1003 3 [3]))))
                        (oc (OpJ.guarded (by rfl) (mv hN (ot 7 (i6 s10.1))))
                        (oc (OpJ.guarded (by rfl) (OpJ.indexD (el := (.int .i64 x204)) Try.underlying22 tyS3 (idx_some hx204).1 (get_map (eI .i64) (idx_some hx204).2) (ltN hN rfl) (ot 98 (.d (.list 1 (a1.fOut.map (eI .i64))))) (ot 99 (i6 s10.1))))
                        (oc (OpJ.guarded (by rfl) (OpJ.loadD tyS3 (by rfl) (by rfl) (ltN hN rfl) (ot 100 (.dptr (.int .i64 x204)))))
                        (oc (OpJ.guarded (by rfl) (OpJ.neqI (ltN hN rfl) (ot 96 (i6 x203)) (ot 101 (i6 x204))))
                        (oc (OpJ.pickF (ltN hN rfl) (ot 91 (bo false)) (ot 102 (bo (x203 != x204))))
                        (oc (OpJ.assign (ltN hN rfl) (ot 103 (bo (x203 != x204))))
                        (OpJs.nil)))))))))))))))))))))))))) (by kernel_rfl) (by rfl) (by rfl) ?_
                      exact hjj196 _ h _ _ (Mat.trans (mp [] [(3, (.ptr 1003 0 [])), (4, (.ptr 1004 0 [])), (6, (.ptr 1006 0 [])), (43, (i6 (a1.fIn.length : Int))), (44, (i6 s10.1)), (79, (bo (x203 != x204)))] [(1003, some (.box 30 (.d (e_api_Series a1)))), (1004, some (.box 30 (.st [(i6 (0 : Int)), (i6 (0 : Int)), .nils, .nils]))), (1006, some (.box 30 (.st [(i6 r9.fPort), (i6 r9.fSeconds), (.sref 100200 1 0 s10.2.2.length), (.sref 100201 1 0 s10.2.1.length)]))), (100200, some (.row 3 1 (s10.2.2.map (eI .i64)))), (100201, some (.row 3 1 (s10.2.1.map (eI .i64))))] hB) (mp [] ((fun m195 : Bool => ([(3, (.ptr 1003 0 [])), (4, (.ptr 1004 0 [])), (6, (.ptr 1006 0 [])), (43, (i6 (a1.fIn.length : Int))), (44, (i6 s10.1)), (79, (bo m195))] : EL)) (x203 != x204)) ((fun m195 : Bool => ([(1003, some (.box 30 (.d (e_api_Series a1)))), (1004, some (.box 30 (.st [(i6 (0 : Int)), (i6 (0 : Int)), .nils, .nils]))), (1006, some (.box 30 (.st [(i6 r9.fPort), (i6 r9.fSeconds), (.sref 100200 1 0 s10.2.2.length), (.sref 100201 1 0 s10.2.1.length)]))), (100200, some (.row 3 1 (s10.2.2.map (eI .i64)))), (100201, some (.row 3 1 (s10.2.1.map (eI .i64))))] : OL)) (x203 != x204)) hB))
          · replace h := ite_f hg141 h
            refine AWp.exit ?_
            refine seqQ_e ?_
            obtain rfl := Option.some.inj h
            exact ⟨(fun hc => by cases hc), rfl, (mp [] ((fun p140 : (List Int) × (List Int) => ([(4, (.ptr 1004 0 [])), (6, (.ptr 1006 0 []))] : EL)) (s10.2.1, s10.2.2)) ((fun p140 : (List Int) × (List Int) => ([(1004, some (.box 30 (.st [(i6 (0 : Int)), (i6 (0 : Int)), .nils, .nils]))), (1006, some (.box 30 (.st [(i6 r9.fPort), (i6 r9.fSeconds), (.sref 100200 1 0 p140.2.length), (.sref 100201 1 0 p140.1.length)]))), (100200, some (.row 3 1 (p140.2.map (eI .i64)))), (100201, some (.row 3 1 (p140.1.map (eI .i64))))] : OL)) (s10.2.1, s10.2.2)) hB)⟩
        · rcases x205 with _ | p140
          · obtain ⟨rfl, hmat⟩ := hR
            refine blkQ_r ?_
            refine seqQ_r ?_
            obtain rfl := Option.some.inj h
            exact ⟨.inl rfl, _, _, (Mat.trans hmat (Mat.trans (Mat.coeP (Ts := []) (Bs := [(1004, some (.box 30 (.d (.st [(.int .i64 (0 : Int)), (.int .i64 (0 : Int)), (.list 1 (([] : List Int).map (eI .i64))), (.list 1 (([] : List Int).map (eI .i64)))]))))]) TwT.nil (TwB.cons (x := (.st [(i6 (0 : Int)), (i6 (0 : Int)), .nils, .nils])) (by rfl) (Tw.leaf ⟨_, (Co.st (CoL.cons (Co.d _) (CoL.cons (Co.d _) (CoL.cons (Co.nils 1) (CoL.cons (Co.nils 1) CoL.nil))))), rfl⟩) TwB.nil)) (mp [] [(4, (.ptr 1004 0 [])), (5, (i6 (8 : Int)))] [(1004, some (.box 30 (.d (.st [(.int .i64 (0 : Int)), (.int .i64 (0 : Int)), (.list 1 (([] : List Int).map (eI .i64))), (.list 1 (([] : List Int).map (eI .i64)))]))))] hB))), [(.d (.st [(.int .i64 (0 : Int)), (.int .i64 (0 : Int)), (.list 1 (([] : List Int).map (eI .i64))), (.list 1 (([] : List Int).map (eI .i64)))])), (i6 (8 : Int))], (Res.cell (c := (.d (.st [(.int .i64 (0 : Int)), (.int .i64 (0 : Int)), (.list 1 (([] : List Int).map (eI .i64))), (.list 1 (([] : List Int).map (eI .i64)))]))) (by rfl) (by rfl) tyS30 (by rfl) (by rfl) (by rfl) (Res.tmp (by rfl) (by rfl) Res.nil)), rfl, by rfl, by rfl, by rfl⟩
          · obtain ⟨rfl, hmat⟩ := hR
            refine blkQ_hit ?_
            refine seqQ_n ?_
            refine AWp.ghost hmat ?_
            refine AWp.seq ?_
            refine AWp.region (oc (lb hN 30 (.st [(i6 r9.fPort), (i6 r9.fSeconds), (.sref 100200 1 0 p140.2.length), (.sref 100201 1 0 p140.1.length)]) (.st [(i6 r9.fPort), (i6 r9.fSeconds), (.sref 100200 1 0 p140.2.length), (.sref 100201 1 0 p140.1.length)]) tyS30 (At.here _) (ot 6 (.ptr 1006 0 [])))
              (oc (OpJ.storeB (bt := 30) (c := (.st [(i6 (0 : Int)), (i6 (0 : Int)), .nils, .nils])) (v := (.st [(i6 r9.fPort), (i6 r9.fSeconds), (.sref 100200 1 0 p140.2.length), (.sref 100201 1 0 p140.1.length)])) (c' := (.st [(i6 r9.fPort), (i6 r9.fSeconds), (.sref 100200 1 0 p140.2.length), (.sref 100201 1 0 p140.1.length)])) tyS30 (SetAt.here _ _) (by rfl) (by rfl) (by simp) rfl (ot 4 (.ptr 1004 0 [])) (ot 106 (.st [(i6 r9.fPort), (i6 r9.fSeconds), (.sref 100200 1 0 p140.2.length), (.sref 100201 1 0 p140.1.length)])))
              (oc (OpJ.assign (ltN hN rfl) (Opd.int .i64 (0)))
              (OpJs.nil)))) (by rfl) (by rfl) ?_
            refine seqQ_n ?_
            refine AWp.ghost (mp [] [(4, (.ptr 1004 0 [])), (5, (i6 (0 : Int)))] [(1004, some (.box 30 (.st [(i6 r9.fPort), (i6 r9.fSeconds), (.sref 100200 1 0 p140.2.length), (.sref 100201 1 0 p140.1.length)]))), (100200, some (.row 3 1 (p140.2.map (eI .i64)))), (100201, some (.row 3 1 (p140.1.map (eI .i64))))] hB) ?_
            refine AWp.ret ?_
            obtain rfl := Option.some.inj h
            exact ⟨.inl rfl, _, _, (Mat.trans (Mat.freezeP (n := 100200) (e := 3) (sz := 1) (es := p140.2.map (eI .i64)) (Ts := []) (Bs := [(1004, some (.box 30 (.st [(i6 r9.fPort), (i6 r9.fSeconds), (.d (.list 1 (p140.2.map (eI .i64)))), (.sref 100201 1 0 p140.1.length)])))]) (by rfl) TwT.nil (TwB.cons (x := (.st [(i6 r9.fPort), (i6 r9.fSeconds), (.sref 100200 1 0 p140.2.length), (.sref 100201 1 0 p140.1.length)])) (by rfl) (Tw.st (TwL.cons (Tw.same _) (TwL.cons (Tw.same _) (TwL.cons (FrzL.all (by first | rfl | (simp; done) | (simp; omega))) (TwL.cons (Tw.same _) TwL.nil))))) TwB.nil)) (Mat.trans (Mat.freezeP (n := 100201) (e := 3) (sz := 1) (es := p140.1.map (eI .i64)) (Ts := []) (Bs := [(1004, some (.box 30 (.st [(i6 r9.fPort), (i6 r9.fSeconds), (.d (.list 1 (p140.2.map (eI .i64)))), (.d (.list 1 (p140.1.map (eI .i64))))])))]) (by rfl) TwT.nil (TwB.cons (x := (.st [(i6 r9.fPort), (i6 r9.fSeconds), (.d (.list 1 (p140.2.map (eI .i64)))), (.sref 100201 1 0 p140.1.length)])) (by rfl) (Tw.st (TwL.cons (Tw.same _) (TwL.cons (Tw.same _) (TwL.cons (Tw.same _) (TwL.cons (FrzL.all (by first | rfl | (simp; done) | (simp; omega))) TwL.nil))))) TwB.nil)) (Mat.trans (Mat.coeP (Ts := []) (Bs := [(1004, some (.box 30 (.d (.st [(.int .i64 r9.fPort), (.int .i64 r9.fSeconds), (.list 1 (p140.2.map (eI .i64))), (.list 1 (p140.1.map (eI .i64)))]))))]) TwT.nil (TwB.cons (x := (.st [(i6 r9.fPort), (i6 r9.fSeconds), (.d (.list 1 (p140.2.map (eI .i64)))), (.d (.list 1 (p140.1.map (eI .i64))))])) (by rfl) (Tw.leaf ⟨_, (Co.st (CoL.cons (Co.d _) (CoL.cons (Co.d _) (CoL.cons (Co.d _) (CoL.cons (Co.d _) CoL.nil))))), rfl⟩) TwB.nil)) (mp [] [(4, (.ptr 1004 0 [])), (5, (i6 (0 : Int)))] [(1004, some (.box 30 (.d (.st [(.int .i64 r9.fPort), (.int .i64 r9.fSeconds), (.list 1 (p140.2.map (eI .i64))), (.list 1 (p140.1.map (eI .i64)))]))))] hB)))), [(.d (.st [(.int .i64 r9.fPort), (.int .i64 r9.fSeconds), (.list 1 (p140.2.map (eI .i64))), (.list 1 (p140.1.map (eI .i64)))])), (i6 (0 : Int))], (Res.cell (c := (.d (.st [(.int .i64 r9.fPort), (.int .i64 r9.fSeconds), (.list 1 (p140.2.map (eI .i64))), (.list 1 (p140.1.map (eI .i64)))]))) (by rfl) (by rfl) tyS30 (by rfl) (by rfl) (by rfl) (Res.tmp (by rfl) (by rfl) Res.nil)), rfl, by rfl, by rfl, by rfl⟩
  · obtain ⟨r207, hr207, h⟩ := bindS h
    rcases Bool.eq_false_or_eq_true (!r207) with hg208 | hg208
    · replace h := ite_t hg208 h
      refine AWp.region (oc (lb hN 30 (.d (e_api_Series a0)) (.d (e_api_Series a0)) tyS30 (At.here _) (ot 2 (.ptr 1002 0 [])))
        (oc (OpJ.callFn hB fnOk16 (percentile_Valid_ac a0 r207 hr207) [] (by kernel_rfl) (ltN hN rfl) (by kernel_rfl) (OpdL.cons (ot 8 (.d (e_api_Series a0))) OpdL.nil))
        (oc (OpJ.not (ltN hN rfl) (ot 9 (bo r207)))
        (oc (OpJ.val (v' := .d (.bool true)) (by rw [hg208]) (mv hN (ot 10 (bo (!r207)))))
        (oc (OpJ.skipU (ltN hN rfl) (by rfl))
        (oc (OpJ.skipU (ltN hN rfl) (by rfl))
        (oc (OpJ.skipU (ltN hN rfl) (by rfl))
        (oc (OpJ.pickT (ltN hN rfl) (ot 11 (bo true)) (Opd.bool true))
        (OpJs.nil))))))))) (by rfl) (by rfl) ?_
      exact hjj6 _ h _ _ (Mat.trans (mp [] [(2, (.ptr 1002 0 [])), (3, (.ptr 1003 0 [])), (4, (.ptr 1004 0 [])), (15, (bo true))] [(1002, some (.box 30 (.d (e_api_Series a0)))), (1003, some (.box 30 (.d (e_api_Series a1)))), (1004, some (.box 30 (.st [(i6 (0 : Int)), (i6 (0 : Int)), .nils, .nils])))] hB) (mp [] ((fun m5 : Bool => ([(2, (.ptr 1002 0 [])), (3, (.ptr 1003 0 [])), (4, (.ptr 1004 0 [])), (15, (bo m5))] : EL)) true) ((fun m5 : Bool => ([(1002, some (.box 30 (.d (e_api_Series a0)))), (1003, some (.box 30 (.d (e_api_Series a1)))), (1004, some (.box 30 (.st [(i6 (0 : Int)), (i6 (0 : Int)), .nils, .nils])))] : OL)) true) hB))
    · replace h := ite_f hg208 h
      obtain ⟨r209, hr209, h⟩ := bindS h
      refine AWp.region (oc (lb hN 30 (.d (e_api_Series a0)) (.d (e_api_Series a0)) tyS30 (At.here _) (ot 2 (.ptr 1002 0 [])))
        (oc (OpJ.callFn hB fnOk16 (percentile_Valid_ac a0 r207 hr207) [] (by kernel_rfl) (ltN hN rfl) (by kernel_rfl) (OpdL.cons (ot 8 (.d (e_api_Series a0))) OpdL.nil))
        (oc (OpJ.not (ltN hN rfl) (ot 9 (bo r207)))
        (oc (OpJ.val (v' := .d (.bool false)) (by rw [hg208]) (mv hN (ot 10 (bo (!r207)))))
        (oc (OpJ.guarded (by rfl) (lb hN 30 (.d (e_api_Series a1)) (.d (e_api_Series a1)) tyS30 (At.here _) (ot 3 (.ptr 1003 0 []))))
        (oc (OpJ.guarded (by rfl) (OpJ.callFn hB fnOk16 (percentile_Valid_ac a1 r209 hr209) [] (by kernel_rfl) (ltN hN rfl) (by kernel_rfl) (OpdL.cons (ot 12 (.d (e_api_Series a1))) OpdL.nil)))
        (oc (OpJ.guarded (by rfl) (OpJ.not (ltN hN rfl) (ot 13 (bo r209))))
        (oc (OpJ.pickF (ltN hN rfl) (ot 11 (bo false)) (ot 14 (bo (!r209))))
        (OpJs.nil))))))))) (by rfl) (by rfl) ?_
      exact hjj6 _ h _ _ (Mat.trans (mp [] [(2, (.ptr 1002 0 [])), (3, (.ptr 1003 0 [])), (4, (.ptr 1004 0 [])), (15, (bo (!r209)))] [(1002, some (.box 30 (.d (e_api_Series a0)))), (1003, some (.box 30 (.d (e_api_Series a1)))), (1004, some (.box 30 (.st [(i6 (0 : Int)), (i6 (0 : Int)), .nils, .nils])))] hB) (mp [] ((fun m5 : Bool => ([(2, (.ptr 1002 0 [])), (3, (.ptr 1003 0 [])), (4, (.ptr 1004 0 [])), (15, (bo m5))] : EL)) (!r209)) ((fun m5 : Bool => ([(1002, some (.box 30 (.d (e_api_Series a0)))), (1003, some (.box 30 (.d (e_api_Series a1)))), (1004, some (.box 30 (.st [(i6 (0 : Int)), (i6 (0 : Int)), .nils, .nils])))] : OL)) (!r209)) hB))

noncomputable def slices_Equal_L0 (a0 : (List Int)) (a1 : (List Int)) (s2 : Int) : Option (((Unit) ⊕ (Unit)) ⊕ (Int)) :=
  (if (decide (s2 < (a0.length : Int))) = true then
  (idx a0 s2).bind fun x14 =>
  (idx a1 s2).bind fun x15 =>
  (if (x14 != x15) = true then
  some (.inl (.inl ()))
  else
  some (.inr (w64 (s2 + (1 : Int)))))
  else
  some (.inl (.inr ())))
noncomputable def slices_Equal (a0 : (List Int)) (a1 : (List Int)) : Option (Bool) :=
  (if ((a0.length : Int) != (a1.length : Int)) = true then
  some false
  else
  (loop (slices_Equal_L0 a0 a1) (0 : Int)).bind fun x17 => match x17 with
  | (.inl _) =>
    some false
  | (.inr _) =>
    some true)
set_option maxHeartbeats 4000000 in
set_option maxRecDepth 100000 in
theorem slices_Equal_ac (a0 : (List Int)) (a1 : (List Int)) (r : Bool) (h : slices_Equal a0 a1 = some r) : AC Try.prog 34 [(.d (.list 1 (a0.map (eI .i64)))), (.d (.list 1 (a1.map (eI .i64))))] [] (.d (.bool r)) [] := by
  refine AC.of_code2 Try.func34 rfl rfl (Nat.le_of_ble_eq_true (by rfl)) fun B hB hN => ?_
  delta slices_Equal at h
  refine AWp.seq ?_
  refine AWp.region (oc (OpJ.assign (ltN hN rfl) (Opd.bool false))
  (OpJs.nil)) (by rfl) (by rfl) ?_
  refine seqQ_n ?_
  refine AWp.ghost (mp [] [(0, (.d (.list 1 (a0.map (eI .i64))))), (1, (.d (.list 1 (a1.map (eI .i64)))))] [] hB) ?_
  refine AWp.seq ?_
  refine AWp.seq ?_
  refine AWp.region (oc (mv hN (ot 0 (.d (.list 1 (a0.map (eI .i64))))))
  (oc (OpJ.val (v' := (i6 (a0.length : Int))) (by simp) (OpJ.lenD Try.underlying22 (ltN hN rfl) (ot 6 (.d (.list 1 (a0.map (eI .i64)))))))
  (oc (mv hN (ot 1 (.d (.list 1 (a1.map (eI .i64))))))
  (oc (OpJ.val (v' := (i6 (a1.length : Int))) (by simp) (OpJ.lenD Try.underlying22 (ltN hN rfl) (ot 8 (.d (.list 1 (a1.map (eI .i64)))))))
  (oc (OpJ.neqI (ltN hN rfl) (ot 7 (i6 (a0.length : Int))) (ot 9 (i6 (a1.length : Int))))
  (OpJs.nil)))))) (by rfl) (by rfl) ?_
  refine seqQ_n ?_
  refine AWp.ghost (mp [] [(0, (.d (.list 1 (a0.map (eI .i64))))), (1, (.d (.list 1 (a1.map (eI .i64))))), (10, (bo ((a0.length : Int) != (a1.length : Int))))] [] hB) ?_
  refine AWp.cond (b := ((a0.length : Int) != (a1.length : Int))) (by rfl) (fun hg1 => ?_) (fun hg1 => ?_)
  · replace h := ite_t hg1 h
    refine AWp.seq ?_
    refine AWp.region (oc (OpJ.assign (ltN hN rfl) (Opd.bool false))
      (OpJs.nil)) (by rfl) (by rfl) ?_
    refine seqQ_n ?_
    refine AWp.ghost (mp [] [(4, (bo false))] [] hB) ?_
    refine AWp.ret ?_
    refine seqQ_r ?_
    obtain rfl := Option.some.inj h
    exact ⟨.inl rfl, _, _, (mp [] [(4, (bo false))] [] hB), [(bo false)], (Res.tmp (by rfl) (by rfl) Res.nil), rfl, by rfl, by rfl, by rfl⟩
  · replace h := ite_f hg1 h
    refine AWp.skip ?_
    refine seqQ_n ?_
    refine AWp.seq ?_
    refine AWp.seq ?_
    refine AWp.region (oc (mv hN (ot 0 (.d (.list 1 (a0.map (eI .i64))))))
      (oc (OpJ.val (v' := (i6 (a0.length : Int))) (by simp) (OpJ.lenD Try.underlying22 (ltN hN rfl) (ot 11 (.d (.list 1 (a0.map (eI .i64)))))))
      (oc (mv hN (Opd.int .i64 (0)))
      (OpJs.nil)))) (by rfl) (by rfl) ?_
    refine seqQ_n ?_
    refine AWp.ghost (mp [] [(0, (.d (.list 1 (a0.map (eI .i64))))), (1, (.d (.list 1 (a1.map (eI .i64))))), (12, (i6 (a0.length : Int))), (13, (i6 (0 : Int)))] [] hB) ?_
    refine AWp.block ?_
    obtain ⟨x17, hx18, h⟩ := bindS h
    refine AWp.ghost (mp [] ((fun s2 : Int => ([(0, (.d (.list 1 (a0.map (eI .i64))))), (1, (.d (.list 1 (a1.map (eI .i64))))), (12, (i6 (a0.length : Int))), (13, (i6 s2))] : EL)) (0 : Int)) ((fun s2 : Int => ([] : OL)) (0 : Int)) hB) ?_
    refine AWp.loopS (slices_Equal_L0 a0 a1) (fun s2 : Int => ([(0, (.d (.list 1 (a0.map (eI .i64))))), (1, (.d (.list 1 (a1.map (eI .i64))))), (12, (i6 (a0.length : Int))), (13, (i6 s2))] : EL)) (fun s2 : Int => ([] : OL)) (fun (x : (Unit) ⊕ (Unit)) e E' O' => match x with | (.inl _p) => e = .ret ∧ Mat B E' O' ([(4, (bo false))] : EL) ([] : OL) | (.inr _p) => e = .exit 0 ∧ Mat B E' O' ([] : EL) ([] : OL)) hx18 (fun s2 y h => ?_) (fun e E' O' hR => ?_)
    · unfold slices_Equal_L0 at h
      show AWp _ _ _ _ ([(0, (.d (.list 1 (a0.map (eI .i64))))), (1, (.d (.list 1 (a1.map (eI .i64))))), (12, (i6 (a0.length : Int))), (13, (i6 s2))] : EL) ([] : OL)
      refine AWp.seq ?_
      refine AWp.region (oc (OpJ.lss (ltN hN rfl) (ot 13 (i6 s2)) (ot 12 (i6 (a0.length : Int))))
        (OpJs.nil)) (by rfl) (by rfl) ?_
      refine seqQ_n ?_
      refine AWp.ghost (mp [] [(0, (.d (.list 1 (a0.map (eI .i64))))), (1, (.d (.list 1 (a1.map (eI .i64))))), (12, (i6 (a0.length : Int))), (13, (i6 s2)), (14, (bo (decide (s2 < (a0.length : Int)))))] [] hB) ?_
      refine AWp.seq ?_
      refine AWp.cond (b := (decide (s2 < (a0.length : Int)))) (by rfl) (fun hg13 => ?_) (fun hg13 => ?_)
      · replace h := ite_t hg13 h
        refine AWp.skip ?_
        refine seqQ_n ?_
        refine AWp.seq ?_
        refine AWp.block ?_
        refine AWp.seq ?_
        refine AWp.region (oc (mv hN (ot 13 (i6 s2)))
          (oc (OpJ.assign (ltN hN rfl) (ot 15 (i6 s2)))
          (OpJs.nil))) (by rfl) (by rfl) ?_
        refine seqQ_n ?_
        refine AWp.ghost (mp [] [(0, (.d (.list 1 (a0.map (eI .i64))))), (1, (.d (.list 1 (a1.map (eI .i64))))), (5, (i6 s2)), (12, (i6 (a0.length : Int))), (13, (i6 s2))] [] hB) ?_
        refine AWp.seq ?_
        obtain ⟨x14, hx14, h⟩ := bindS h
        obtain ⟨x15, hx15, h⟩ := bindS h
        refine AWp.draws (by kernel_rfl) (oc (mv hN (ot 0 (.d (.list 1 (a0.map (eI .i64))))))
          (oc (mv hN (ot 5 (i6 s2)))
          (oc (OpJ.indexD (el := (.int .i64 x14)) Try.underlying22 tyS3 (idx_some hx14).1 (get_map (eI .i64) (idx_some hx14).2) (ltN hN rfl) (ot 16 (.d (.list 1 (a0.map (eI .i64))))) (ot 17 (i6 s2)))
          (oc (OpJ.loadD tyS3 (by rfl) (by rfl) (ltN hN rfl) (ot 18 (.dptr (.int .i64 x14))))
          (oc (mv hN (ot 1 (.d (.list 1 (a1.map (eI .i64))))))
          (oc (mv hN (ot 5 (i6 s2)))
          (oc (OpJ.indexD (el := (.int .i64 x15)) Try.underlying22 tyS3 (idx_some hx15).1 (get_map (eI .i64) (idx_some hx15).2) (ltN hN rfl) (ot 20 (.d (.list 1 (a1.map (eI .i64))))) (ot 21 (i6 s2)))
          (oc (OpJ.loadD tyS3 (by rfl) (by rfl) (ltN hN rfl) (ot 22 (.dptr (.int .i64 x15))))
          (oc (OpJ.neqI (ltN hN rfl) (ot 19 (i6 x14)) (ot 23 (i6 x15)))
          (OpJs.nil)))))))))) (by kernel_rfl) (by rfl) (by rfl) ?_
        refine seqQ_n ?_
        refine AWp.ghost (mp [] [(0, (.d (.list 1 (a0.map (eI .i64))))), (1, (.d (.list 1 (a1.map (eI .i64))))), (12, (i6 (a0.length : Int))), (13, (i6 s2)), (24, (bo (x14 != x15)))] [] hB) ?_
        refine AWp.cond (b := (x14 != x15)) (by rfl) (fun hg16 => ?_) (fun hg16 => ?_)
        · replace h := ite_t hg16 h
          refine AWp.seq ?_
          refine AWp.region (oc (OpJ.assign (ltN hN rfl) (Opd.bool false))
            (OpJs.nil)) (by rfl) (by rfl) ?_
          refine seqQ_n ?_
          refine AWp.ghost (mp [] [(4, (bo false))] [] hB) ?_
          refine AWp.ret ?_
          refine blkQ_r ?_
          refine seqQ_r ?_
          obtain rfl := Option.some.inj h
          exact ⟨(fun hc => by cases hc), rfl, (mp [] ((fun _ : Unit => ([(4, (bo false))] : EL)) ()) ((fun _ : Unit => ([] : OL)) ()) hB)⟩
        · replace h := ite_f hg16 h
          refine AWp.skip ?_
          refine blkQ_n ?_
          refine seqQ_n ?_
          refine AWp.region (oc (OpJ.add (ltN hN rfl) (ot 13 (i6 s2)) (Opd.int .i64 (1)))
            (oc (mv hN (ot 25 (i6 (w64 (s2 + (1 : Int))))))
            (OpJs.nil))) (by rfl) (by rfl) ?_
          obtain rfl := Option.some.inj h
          exact ⟨rfl, (Mat.trans (mp [] [(0, (.d (.list 1 (a0.map (eI .i64))))), (1, (.d (.list 1 (a1.map (eI .i64))))), (12, (i6 (a0.length : Int))), (13, (i6 (w64 (s2 + (1 : Int)))))] [] hB) (mp [] ((fun s2 : Int => ([(0, (.d (.list 1 (a0.map (eI .i64))))), (1, (.d (.list 1 (a1.map (eI .i64))))), (12, (i6 (a0.length : Int))), (13, (i6 s2))] : EL)) (w64 (s2 + (1 : Int)))) ((fun s2 : Int => ([] : OL)) (w64 (s2 + (1 : Int)))) hB))⟩
      · replace h := ite_f hg13 h
        refine AWp.exit ?_
        refine seqQ_e ?_
        obtain rfl := Option.some.inj h
        exact ⟨(fun hc => by cases hc), rfl, (mp [] ((fun _ : Unit => ([] : EL)) ()) ((fun _ : Unit => ([] : OL)) ()) hB)⟩
    · rcases x17 with _ | _
      · obtain ⟨rfl, hmat⟩ := hR
        refine blkQ_r ?_
        refine seqQ_r ?_
        obtain rfl := Option.some.inj h
        exact ⟨.inl rfl, _, _, (Mat.trans hmat (mp [] [(4, (bo false))] [] hB)), [(bo false)], (Res.tmp (by rfl) (by rfl) Res.nil), rfl, by rfl, by rfl, by rfl⟩
      · obtain ⟨rfl, hmat⟩ := hR
        refine blkQ_hit ?_
        refine seqQ_n ?_
        refine AWp.ghost hmat ?_
        refine AWp.seq ?_
        refine AWp.region (oc (OpJ.assign (ltN hN rfl) (Opd.bool true))
          (OpJs.nil)) (by rfl) (by rfl) ?_
        refine seqQ_n ?_
        refine AWp.ghost (mp [] [(4, (bo true))] [] hB) ?_
        refine AWp.ret ?_
        obtain rfl := Option.some.inj h
        exact ⟨.inl rfl, _, _, (mp [] [(4, (bo true))] [] hB), [(bo true)], (Res.tmp (by rfl) (by rfl) Res.nil), rfl, by rfl, by rfl, by rfl⟩


end Go.Proofs.Ytgbfjigliajbkaa
