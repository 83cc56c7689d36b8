/- Printed by gen.py: the Go functions as plain functions, and that the code does what they say. -/
import Derived.Test.YtbkhigkknhlmhaaChecked
import Derived.Test.YtbkhigkknhlmhaaVcYB
import Derived.Test.YtbkhigkknhlmhaaVcZ
import Derived.KernelRfl
import Derived.Test.YtbkhigkknhlmhaaVcMD
import Derived.Test.YtbkhigkknhlmhaaVcMQ
import Derived.Test.YtbkhigkknhlmhaaVcSG
import Derived.Test.YtbkhigkknhlmhaaFnsB
import Derived.Test.YtbkhigkknhlmhaaExt
import Derived.Test.YtbkhigkknhlmhaaVcV
import Derived.Test.YtbkhigkknhlmhaaVcQ
import Derived.Test.YtbkhigkknhlmhaaVcDel
namespace Go.Proofs.Ytbkhigkknhlmhaa
open Go Go.Vc
noncomputable def table_filter_4_L0 (a0 : (List api_Entry)) (a1 : api_Prefix) (s1 : Int × (List api_Entry)) : Option ((((List api_Entry))) ⊕ (Int × (List api_Entry))) :=
  (if (decide (s1.1 < (a0.length : Int))) = true then
  (idx a0 s1.1).bind fun x22 =>
  (table_Covered_1 x22.fPrefix a1).bind fun r23 =>
  jn (fun m26 : (List api_Entry) =>
  some (.inr ((w64 (s1.1 + (1 : Int))), m26))) (fun j27 =>
  (if r23 = true then
  chk (decide ((s1.2 ++ ([x22] : List api_Entry)).length ≤ LIM)) <|
  j27 (s1.2 ++ ([x22] : List api_Entry))
  else
  j27 s1.2))
  else
  some (.inl s1.2))
noncomputable def table_filter_4 (a0 : (List api_Entry)) (a1 : api_Prefix) : Option ((List api_Entry)) :=
  (loop (table_filter_4_L0 a0 a1) ((0 : Int), ([] : List api_Entry))).bind fun p20 =>
  some p20
set_option maxHeartbeats 4000000 in
set_option maxRecDepth 100000 in
theorem table_filter_4_ac (a0 : (List api_Entry)) (a1 : api_Prefix) (r : (List api_Entry)) (h : table_filter_4 a0 a1 = some r) : AC Try.prog 45 [(.d (.list 5 (a0.map e_api_Entry))), (.func 59 [(.ptr 0 0 [])])] [(0, (.box 37 (.d (e_api_Prefix a1))))] (.d (.list 5 (r.map e_api_Entry))) [(0, some (.box 37 (.d (e_api_Prefix a1))))] := by
  refine AC.of_code2 Try.func45 rfl rfl (Nat.le_of_ble_eq_true (by rfl)) fun B hB hN => ?_
  have L {d : Nat} (h : Nat.blt d Try.f45.ntmps = true) : d < B.N := ltN hN h
  delta table_filter_4 at h
  refine sr (c (OpJ.assign (L rfl) Opd.nils) rfl cn) ?_
  refine gh [(0, _), (1, _)] [(0, some _)] hB rfl rfl (by rfl) ?_
  refine sr (c (OpJ.assign (L rfl) Opd.nils) rfl cn) ?_
  refine gh [(0, _), (1, _), (5, _)] [(0, some _)] hB rfl rfl (by rfl) ?_
  refine AWp.seq ?_
  refine sr (c (mv hN (q 0)) rfl (c (OpJ.val (v' := (i6 (a0.length : Int))) (by simp) (OpJ.lenD Try.underlying23 (L rfl) (q 8))) rfl (c (mv hN (Opd.int .i64 (0))) rfl cn))) ?_
  refine gh [(1, _), (5, _), (8, _), (9, _), (10, _)] [(0, some _)] hB rfl rfl (by rfl) ?_
  refine AWp.block ?_
  obtain ⟨p20, hx31, h⟩ := bindS h
  refine lg (table_filter_4_L0 a0 a1) (fun s1 : Int × (List api_Entry) => ([(1, (.func 59 [(.ptr 0 0 [])])), (5, (.sref 3005 5 0 s1.2.length)), (8, (qe_api_Entry_5 a0)), (9, (i6 (a0.length : Int))), (10, (i6 s1.1))] : EL)) (fun s1 : Int × (List api_Entry) => ([(0, some (.box 37 (.d (e_api_Prefix a1)))), (3005, some (we_api_Entry_39_5 s1.2))] : OL)) (fun (p20 : ((List api_Entry))) e E' O' => e = .exit 0 ∧ Mat B E' O' ([(5, (.sref 3005 5 0 p20.length))] : EL) ([(0, some (.box 37 (.d (e_api_Prefix a1)))), (3005, some (we_api_Entry_39_5 p20))] : OL)) hx31 (Mat.trans (Mat.beginP (n := 3005) (e := 39) (sz := 5) (Ts := [(5, (.sref 3005 5 0 0))]) (Bs := []) hB (by decide) (by rfl) (by decide) (TwT.cons (x := .nils) (by rfl) (Tw.leaf ⟨rfl, rfl⟩) TwT.nil) TwB.nil) (mp [] _ _ hB)) (fun s1 y h => ?_) (fun e E' O' hR => ?_)
  · unfold table_filter_4_L0 at h
    refine sr (c (OpJ.lss (L rfl) (q 10) (q 9)) rfl cn) ?_
    refine gh [(1, _), (5, _), (8, _), (9, _), (10, _), (11, _)] [(0, some _), (3005, some _)] hB rfl rfl (by rfl) ?_
    refine AWp.seq ?_
    refine AWp.cond rfl (fun hg21 => ?_) (fun hg21 => ?_)
    · replace h := ite_t hg21 h
      refine AWp.skip ?_
      refine seqQ_n ?_
      refine AWp.seq ?_
      refine AWp.block ?_
      obtain ⟨x22, hx22, h⟩ := bindS h
      refine sr (c (OpJ.indexD Try.underlying23 tyS39 (idx_some hx22).1 (get_map e_api_Entry (idx_some hx22).2) (L rfl) (q 8) (q 10)) rfl (c (OpJ.loadD tyS39 (by rfl) (by rfl) (L rfl) (q 12)) rfl (cg (OpJ.alloc hB tyZ39 (nm := 1007) (by decide) (L rfl)) rfl (cg (OpJ.storeB tyS39 (SetAt.here _ _) (by rfl) (by rfl) (by simp) rfl (q 7) (q 13)) rfl cn)))) ?_
      refine gh [(1, _), (5, _), (7, _), (8, _), (9, _), (10, _)] [(0, some _), (1007, some _), (3005, some _)] hB rfl rfl (by rfl) ?_
      refine AWp.seq ?_
      obtain ⟨r23, hr23, h⟩ := bindS h
      refine AWp.region (oc (mv hN (ot 1 (.func 59 [(.ptr 0 0 [])])))
        (oc (ov (.ptr 1007 0 [0]) (fp hN Try.underlying39 0 tyS37 (.box 39 (.d (e_api_Entry x22))) (ot 7 (.ptr 1007 0 []))))
        (oc (lb hN 39 (.d (e_api_Entry x22)) (.d (e_api_Prefix x22.fPrefix)) tyS37 (ad (e_api_Prefix x22.fPrefix)) (ot 15 (.ptr 1007 0 [0])))
        (oc (OpJ.callVal (args := [(.d (e_api_Prefix x22.fPrefix))]) (caps := [(.ptr 0 0 [])]) hB fnOk59 [(0, 0)] (table_Covered_1_ac x22.fPrefix a1 r23 hr23) (by kernel_rfl) (L rfl) (by kernel_rfl) (by kernel_rfl) (OpdL.cons (ot 16 (.d (e_api_Prefix x22.fPrefix))) OpdL.nil))
        (OpJs.nil))))) (by rfl) (by rfl) ?_
      refine seqQ_n ?_
      refine AWp.ghost (mp [] [(1, (.func 59 [(.ptr 0 0 [])])), (5, (.sref 3005 5 0 s1.2.length)), (7, (.ptr 1007 0 [])), (8, (qe_api_Entry_5 a0)), (9, (i6 (a0.length : Int))), (10, (i6 s1.1)), (17, (bo r23))] [(0, some (.box 37 (.d (e_api_Prefix a1)))), (1007, some (.box 39 (.d (e_api_Entry x22)))), (3005, some (we_api_Entry_39_5 s1.2))] hB) ?_
      refine AWp.cut h (fun m26 : (List api_Entry) => ([(1, (.func 59 [(.ptr 0 0 [])])), (5, (.sref 3005 5 0 m26.length)), (8, (qe_api_Entry_5 a0)), (9, (i6 (a0.length : Int))), (10, (i6 s1.1))] : EL)) (fun m26 : (List api_Entry) => ([(0, some (.box 37 (.d (e_api_Prefix a1)))), (3005, some (we_api_Entry_39_5 m26))] : OL)) (fun m26 h E' O' hmat => ?_) (fun j27 hjj27 h => ?_)
      · refine blkQ_n ?_
        refine seqQ_n ?_
        refine AWp.ghost hmat ?_
        refine rg (c (add6 (L rfl) (q 10) (Opd.int .i64 (1))) rfl (c (mv hN (q 22)) rfl cn)) ?_
        obtain rfl := Option.some.inj h
        exact ⟨rfl, (Mat.trans (mp [] [(1, (.func 59 [(.ptr 0 0 [])])), (5, (.sref 3005 5 0 m26.length)), (8, (qe_api_Entry_5 a0)), (9, (i6 (a0.length : Int))), (10, (i6 (w64 (s1.1 + (1 : Int)))))] [(0, some (.box 37 (.d (e_api_Prefix a1)))), (3005, some (we_api_Entry_39_5 m26))] hB) (mp [] _ _ hB))⟩
      · refine AWp.cond rfl (fun hg28 => ?_) (fun hg28 => ?_)
        · replace h := ite_t hg28 h
          obtain ⟨hc29, h⟩ := chk_some h
          refine rg (c (mv hN (q 5)) rfl (c (lb hN 39 _ _ tyS39 (At.here _) (q 7)) rfl (c (OpJ.buildSlice Try.underlying23 tyS39 tyZD39 (by rfl) (by decide) (by decide) (Opds.cons (q 19) Opds.nil) (by kernel_rfl) (es := ([(e_api_Entry x22)] : List D)) (by rfl) (by rfl) (by kernel_rfl) (by simp) (L rfl)) rfl (cg (OpJ.append hB Try.underlying23 tyE39 (nm := 1021) (by decide) (es := s1.2.map e_api_Entry) (ys := ([x22] : List api_Entry).map e_api_Entry) (es' := (s1.2 ++ ([x22] : List api_Entry)).map e_api_Entry) (len := (s1.2 ++ ([x22] : List api_Entry)).length) (by simp) (by simp) (map_sz (f := e_api_Entry) (fun _ => rfl)) (by rw [List.length_map]; exact lim_mulN hc29 (by decide)) (by rw [List.length_map]; exact lim_leN hc29) (L rfl) (by simp) (q 18) (q 20)) rfl (c (OpJ.assign (L rfl) (q 21)) rfl cn))))) ?_
          exact hjj27 _ h _ _ (Mat.trans (mp [] [(1, (.func 59 [(.ptr 0 0 [])])), (5, (.sref 1021 5 0 ((s1.2 ++ ([x22] : List api_Entry)).length))), (8, (qe_api_Entry_5 a0)), (9, (i6 (a0.length : Int))), (10, (i6 s1.1))] [(0, some (.box 37 (.d (e_api_Prefix a1)))), (1021, some (we_api_Entry_39_5 (s1.2 ++ ([x22] : List api_Entry))))] hB) (mp [(3005, 1021)] _ _ hB))
        · replace h := ite_f hg28 h
          refine AWp.skip ?_
          exact hjj27 _ h _ _ (mp [] _ _ hB)
    · replace h := ite_f hg21 h
      refine AWp.exit ?_
      refine seqQ_e ?_
      obtain rfl := Option.some.inj h
      exact ⟨(fun hc => by cases hc), rfl, (mp [] _ _ hB)⟩
  · obtain ⟨rfl, hmat⟩ := hR
    refine blkQ_hit ?_
    refine seqQ_n ?_
    refine AWp.ghost hmat ?_
    refine sr (c (mv hN (q 5)) rfl (c (OpJ.assign (L rfl) (q 23)) rfl cn)) ?_
    refine gh [(4, _)] [(0, some _), (3005, some _)] hB rfl rfl (by rfl) ?_
    refine AWp.ret ?_
    obtain rfl := Option.some.inj h
    exact ⟨.inl rfl, _, _, (Mat.trans (Mat.freezeP (n := 3005) (e := 39) (sz := 5) (es := p20.map e_api_Entry) (Ts := [(4, (qe_api_Entry_5 p20))]) (Bs := []) (by rfl) (TwT.cons (x := (.sref 3005 5 0 p20.length)) (by rfl) (FrzL.all (by first | rfl | (simp; done) | (simp; omega))) TwT.nil) TwB.nil) (mp [] [(4, (qe_api_Entry_5 p20))] [(0, some (.box 37 (.d (e_api_Prefix a1))))] hB)), [(qe_api_Entry_5 p20)], (Res.tmp (by rfl) (by rfl) Res.nil), rfl, by rfl, by rfl, by rfl⟩

noncomputable def table_Covered (a0 : (List api_Entry)) (a1 : api_Prefix) : Option ((List api_Entry)) :=
  (table_filter_4 a0 a1).bind fun r1 =>
  some r1
set_option maxHeartbeats 4000000 in
set_option maxRecDepth 100000 in
theorem table_Covered_ac (a0 : (List api_Entry)) (a1 : api_Prefix) (r : (List api_Entry)) (h : table_Covered a0 a1 = some r) : AC Try.prog 22 [(.d (.list 5 (a0.map e_api_Entry))), (.d (e_api_Prefix a1))] [] (.d (.list 5 (r.map e_api_Entry))) [] := by
  refine AC.of_code2 Try.func22 rfl rfl (Nat.le_of_ble_eq_true (by rfl)) fun B hB hN => ?_
  delta table_Covered at h
  refine sr (cg (OpJ.box hB (nm := 1003) (by decide) (by simp) rfl (ltN hN rfl) (q 1)) rfl (c (OpJ.assign (ltN hN rfl) Opd.nils) rfl cn)) ?_
  refine gh [(0, _), (3, _)] [(1003, some _)] hB rfl rfl (by rfl) ?_
  refine AWp.seq ?_
  obtain ⟨r1, hr1, h⟩ := bindS h
  refine AWp.region (oc (mv hN (ot 0 (qe_api_Entry_5 a0)))
  (oc (OpJ.makeF (OpdL.cons (ot 3 (.ptr 1003 0 [])) OpdL.nil) rfl rfl (ltN hN rfl))
  (oc (OpJ.callFn hB fnOk45 (table_filter_4_ac a0 a1 r1 hr1) [(0, 1003)] (by kernel_rfl) (ltN hN rfl) (by kernel_rfl) (OpdL.cons (ot 5 (qe_api_Entry_5 a0)) (OpdL.cons (ot 6 (.func 59 [(.ptr 1003 0 [])])) OpdL.nil)))
  (oc (OpJ.assign (ltN hN rfl) (ot 7 (qe_api_Entry_5 r1)))
  (OpJs.nil))))) (by rfl) (by rfl) ?_
  refine seqQ_n ?_
  refine AWp.ghost (mp [] [(4, (qe_api_Entry_5 r1))] [] hB) ?_
  refine AWp.ret ?_
  obtain rfl := Option.some.inj h
  exact ⟨.inl rfl, _, _, (kp [(4, _)] [] hB rfl rfl (by rfl)), [(qe_api_Entry_5 r1)], (Res.tmp (by rfl) (by rfl) Res.nil), rfl, by rfl, by rfl, by rfl⟩

noncomputable def table_Valid_L0 (a0 : (List api_Entry)) (s1 : Int) : Option (((Unit) ⊕ (Unit)) ⊕ (Int)) :=
  (if (decide (s1 < (a0.length : Int))) = true then
  (idx a0 s1).bind fun x37 =>
  jn (fun m44 : Bool =>
  (if m44 = true then
  some (.inl (.inl ()))
  else
  some (.inr (w64 (s1 + (1 : Int)))))) (fun j45 =>
  (prefix_Valid x37.fPrefix).bind fun r47 =>
  (if (!r47) = true then
  j45 true
  else
  (if (decide ((0 : Int) < s1)) = true then
  (idx a0 (w64 (s1 - (1 : Int)))).bind fun x50 =>
  (prefix_Cmp x50.fPrefix x37.fPrefix).bind fun r51 =>
  j45 (decide ((0 : Int) ≤ r51))
  else
  j45 false)))
  else
  some (.inl (.inr ())))
noncomputable def table_Valid (a0 : (List api_Entry)) : Option (Bool) :=
  (loop (table_Valid_L0 a0) (0 : Int)).bind fun x52 => match x52 with
  | (.inl _) =>
    some false
  | (.inr _) =>
    some (decide ((a0.length : Int) ≤ (512 : Int)))
set_option maxHeartbeats 4000000 in
set_option maxRecDepth 100000 in
theorem table_Valid_ac (a0 : (List api_Entry)) (r : Bool) (h : table_Valid a0 = some r) : AC Try.prog 23 [(.d (.list 5 (a0.map e_api_Entry)))] [] (.d (.bool r)) [] := by
  refine AC.of_code2 Try.func23 rfl rfl (Nat.le_of_ble_eq_true (by rfl)) fun B hB hN => ?_
  have L {d : Nat} (h : Nat.blt d Try.f23.ntmps = true) : d < B.N := ltN hN h
  delta table_Valid at h
  refine sr (c (OpJ.assign (L rfl) (Opd.bool false)) rfl cn) ?_
  refine gh [(0, _)] [] hB rfl rfl (by rfl) ?_
  refine AWp.seq ?_
  refine sr (c (mv hN (q 0)) rfl (c (OpJ.val (v' := (i6 (a0.length : Int))) (by simp) (OpJ.lenD Try.underlying23 (L rfl) (q 5))) rfl (c (mv hN (Opd.int .i64 (0))) rfl cn))) ?_
  refine gh [(0, _), (5, _), (6, _), (7, _)] [] hB rfl rfl (by rfl) ?_
  refine AWp.block ?_
  obtain ⟨x52, hx53, h⟩ := bindS h
  refine lg (table_Valid_L0 a0) (fun s1 : Int => ([(0, (qe_api_Entry_5 a0)), (5, (qe_api_Entry_5 a0)), (6, (i6 (a0.length : Int))), (7, (i6 s1))] : EL)) (fun s1 : Int => ([] : OL)) (fun (x : (Unit) ⊕ (Unit)) e E' O' => match x with | (.inl _p) => e = .ret ∧ Mat B E' O' ([(2, (bo false))] : EL) ([] : OL) | (.inr _p) => e = .exit 0 ∧ Mat B E' O' ([(0, (qe_api_Entry_5 a0))] : EL) ([] : OL)) hx53 (mp [] _ _ hB) (fun s1 y h => ?_) (fun e E' O' hR => ?_)
  · unfold table_Valid_L0 at h
    refine sr (c (OpJ.lss (L rfl) (q 7) (q 6)) rfl cn) ?_
    refine gh [(0, _), (5, _), (6, _), (7, _), (8, _)] [] hB rfl rfl (by rfl) ?_
    refine AWp.seq ?_
    refine AWp.cond rfl (fun hg36 => ?_) (fun hg36 => ?_)
    · replace h := ite_t hg36 h
      refine AWp.skip ?_
      refine seqQ_n ?_
      refine AWp.seq ?_
      refine AWp.block ?_
      obtain ⟨x37, hx37, h⟩ := bindS h
      refine sr (c (mv hN (q 7)) rfl (c (OpJ.indexD Try.underlying23 tyS39 (idx_some hx37).1 (get_map e_api_Entry (idx_some hx37).2) (L rfl) (q 5) (q 7)) rfl (c (OpJ.loadD tyS39 (by rfl) (by rfl) (L rfl) (q 10)) rfl (cg (OpJ.alloc hB tyZ39 (nm := 1004) (by decide) (L rfl)) rfl (c (OpJ.assign (L rfl) (q 9)) rfl (cg (OpJ.storeB tyS39 (SetAt.here _ _) (by rfl) (by rfl) (by simp) rfl (q 4) (q 11)) rfl cn)))))) ?_
      refine gh [(0, _), (3, _), (4, _), (5, _), (6, _), (7, _)] [(1004, some _)] hB rfl rfl (by rfl) ?_
      refine AWp.seq ?_
      refine AWp.cut h (fun m44 : Bool => ([(0, (qe_api_Entry_5 a0)), (5, (qe_api_Entry_5 a0)), (6, (i6 (a0.length : Int))), (7, (i6 s1)), (31, (bo m44))] : EL)) (fun m44 : Bool => ([] : OL)) (fun m44 h E' O' hmat => ?_) (fun j45 hjj45 h => ?_)
      · refine seqQ_n ?_
        refine AWp.ghost hmat ?_
        refine AWp.cond rfl (fun hg46 => ?_) (fun hg46 => ?_)
        · replace h := ite_t hg46 h
          refine sr (c (OpJ.assign (L rfl) (Opd.bool false)) rfl cn) ?_
          refine gh [(2, _)] [] hB rfl rfl (by rfl) ?_
          refine AWp.ret ?_
          refine blkQ_r ?_
          refine seqQ_r ?_
          obtain rfl := Option.some.inj h
          exact ⟨(fun hc => by cases hc), rfl, (mp [] _ _ hB)⟩
        · replace h := ite_f hg46 h
          refine AWp.skip ?_
          refine blkQ_n ?_
          refine seqQ_n ?_
          refine rg (c (add6 (L rfl) (q 7) (Opd.int .i64 (1))) rfl (c (mv hN (q 32)) rfl cn)) ?_
          obtain rfl := Option.some.inj h
          exact ⟨rfl, (Mat.trans (mp [] [(0, (qe_api_Entry_5 a0)), (5, (qe_api_Entry_5 a0)), (6, (i6 (a0.length : Int))), (7, (i6 (w64 (s1 + (1 : Int)))))] [] hB) (mp [] _ _ hB))⟩
      · obtain ⟨r47, hr47, h⟩ := bindS h
        rcases Bool.eq_false_or_eq_true (!r47) with hg48 | hg48
        · replace h := ite_t hg48 h
          refine dr (c (ov (.ptr 1004 0 [0]) (fp hN Try.underlying39 0 tyS37 _ (q 4))) rfl (c (lb hN 39 _ _ tyS37 (ad _) (q 12)) rfl (cg (OpJ.callFn hB fnOk60 (prefix_Valid_ac x37.fPrefix r47 hr47) [] (by kernel_rfl) (L rfl) (by kernel_rfl) (OpdL.cons (q 13) OpdL.nil)) rfl (c (OpJ.not (L rfl) (q 14)) rfl (c (OpJ.val (v' := .d (.bool true)) (by rw [hg48]) (mv hN (q 15))) rfl (cg (OpJ.skipU (g := 16) (L rfl) (by rfl)) rfl (cg (OpJ.skipU (g := 16) (L rfl) (by rfl)) rfl (cg (OpJ.skipU (g := 16) (L rfl) (by rfl)) rfl (cg (OpJ.skipV (g := 19) (L rfl) (by rfl)) rfl (cg (OpJ.skipV (g := 19) (L rfl) (by rfl)) rfl (cg (OpJ.skipV (g := 19) (L rfl) (by rfl)) rfl (cg (OpJ.skipV (g := 19) (L rfl) (by rfl)) rfl (cg (OpJ.skipV (g := 19) (L rfl) (by rfl)) rfl (cg (OpJ.skipV (g := 19) (L rfl) (by rfl)) rfl (cg (OpJ.skipV (g := 19) (L rfl) (by rfl)) rfl (cg (OpJ.skipV (g := 19) (L rfl) (by rfl)) rfl (cg (OpJ.skipV (g := 19) (L rfl) (by rfl)) rfl (cg (OpJ.skipV (g := 19) (L rfl) (by rfl)) rfl (cg (OpJ.skipU (g := 16) (L rfl) (by rfl)) rfl (c (OpJ.pickT (L rfl) (q 16) (Opd.bool true)) rfl cn)))))))))))))))))))) (by kernel_rfl) (by kernel_rfl) ?_
          exact hjj45 _ h _ _ (Mat.trans (mp [] [(0, (qe_api_Entry_5 a0)), (5, (qe_api_Entry_5 a0)), (6, (i6 (a0.length : Int))), (7, (i6 s1)), (31, (bo true))] [] hB) (mp [] _ _ hB))
        · replace h := ite_f hg48 h
          rcases Bool.eq_false_or_eq_true (decide ((0 : Int) < s1)) with hg49 | hg49
          · replace h := ite_t hg49 h
            obtain ⟨x50, hx50, h⟩ := bindS h
            obtain ⟨r51, hr51, h⟩ := bindS h
            refine dr (c (ov (.ptr 1004 0 [0]) (fp hN Try.underlying39 0 tyS37 _ (q 4))) rfl (c (lb hN 39 _ _ tyS37 (ad _) (q 12)) rfl (cg (OpJ.callFn hB fnOk60 (prefix_Valid_ac x37.fPrefix r47 hr47) [] (by kernel_rfl) (L rfl) (by kernel_rfl) (OpdL.cons (q 13) OpdL.nil)) rfl (c (OpJ.not (L rfl) (q 14)) rfl (c (OpJ.val (v' := .d (.bool false)) (by rw [hg48]) (mv hN (q 15))) rfl (c (OpJ.guarded (g := 16) (by rfl) (mv hN (q 3))) rfl (c (OpJ.guarded (g := 16) (by rfl) (OpJ.gtr (L rfl) (q 17) (Opd.int .i64 (0)))) rfl (c (OpJ.guarded (g := 16) (by rfl) (OpJ.val (v' := .d (.bool true)) (by rw [hg49]) (mv hN (q 18)))) rfl (c (OpJ.guarded (g := 19) (by rfl) (mv hN (q 0))) rfl (c (OpJ.guarded (g := 19) (by rfl) (mv hN (q 3))) rfl (c (OpJ.guarded (g := 19) (by rfl) (sub6 (L rfl) (q 21) (Opd.int .i64 (1)))) rfl (c (OpJ.guarded (g := 19) (by rfl) (OpJ.indexD Try.underlying23 tyS39 (idx_some hx50).1 (get_map e_api_Entry (idx_some hx50).2) (L rfl) (q 20) (q 22))) rfl (c (OpJ.guarded (g := 19) (by rfl) (OpJ.fieldD Try.underlying39 (by rfl) (o := 0) (by rfl) tyS37 (by decide) (by rfl) (by rfl) (L rfl) (q 23))) rfl (c (OpJ.guarded (g := 19) (by rfl) (OpJ.loadD tyS37 (by rfl) (by rfl) (L rfl) (q 24))) rfl (c (OpJ.guarded (g := 19) (by rfl) (ov (.ptr 1004 0 [0]) (fp hN Try.underlying39 0 tyS37 _ (q 4)))) rfl (c (OpJ.guarded (g := 19) (by rfl) (lb hN 39 _ _ tyS37 (ad _) (q 26))) rfl (cg (OpJ.guarded (g := 19) (by rfl) (OpJ.callFn hB fnOk44 (prefix_Cmp_ac x50.fPrefix x37.fPrefix r51 hr51) [] (by kernel_rfl) (L rfl) (by kernel_rfl) (OpdL.cons (q 25) (OpdL.cons (q 27) OpdL.nil)))) rfl (c (OpJ.guarded (g := 19) (by rfl) (OpJ.geq (L rfl) (q 28) (Opd.int .i64 (0)))) rfl (c (OpJ.guarded (g := 16) (by rfl) (OpJ.pickT (L rfl) (q 19) (q 29))) rfl (c (OpJ.pickF (L rfl) (q 16) (q 30)) rfl cn)))))))))))))))))))) (by kernel_rfl) (by kernel_rfl) ?_
            exact hjj45 _ h _ _ (Mat.trans (mp [] [(0, (qe_api_Entry_5 a0)), (5, (qe_api_Entry_5 a0)), (6, (i6 (a0.length : Int))), (7, (i6 s1)), (31, (bo (decide ((0 : Int) ≤ r51))))] [] hB) (mp [] _ _ hB))
          · replace h := ite_f hg49 h
            refine dr (c (ov (.ptr 1004 0 [0]) (fp hN Try.underlying39 0 tyS37 _ (q 4))) rfl (c (lb hN 39 _ _ tyS37 (ad _) (q 12)) rfl (cg (OpJ.callFn hB fnOk60 (prefix_Valid_ac x37.fPrefix r47 hr47) [] (by kernel_rfl) (L rfl) (by kernel_rfl) (OpdL.cons (q 13) OpdL.nil)) rfl (c (OpJ.not (L rfl) (q 14)) rfl (c (OpJ.val (v' := .d (.bool false)) (by rw [hg48]) (mv hN (q 15))) rfl (c (OpJ.guarded (g := 16) (by rfl) (mv hN (q 3))) rfl (c (OpJ.guarded (g := 16) (by rfl) (OpJ.gtr (L rfl) (q 17) (Opd.int .i64 (0)))) rfl (c (OpJ.guarded (g := 16) (by rfl) (OpJ.val (v' := .d (.bool false)) (by rw [hg49]) (mv hN (q 18)))) rfl (cg (OpJ.skipU (g := 19) (L rfl) (by rfl)) rfl (cg (OpJ.skipU (g := 19) (L rfl) (by rfl)) rfl (cg (OpJ.skipU (g := 19) (L rfl) (by rfl)) rfl (cg (OpJ.skipU (g := 19) (L rfl) (by rfl)) rfl (cg (OpJ.skipU (g := 19) (L rfl) (by rfl)) rfl (cg (OpJ.skipU (g := 19) (L rfl) (by rfl)) rfl (cg (OpJ.skipU (g := 19) (L rfl) (by rfl)) rfl (cg (OpJ.skipU (g := 19) (L rfl) (by rfl)) rfl (cg (OpJ.skipU (g := 19) (L rfl) (by rfl)) rfl (cg (OpJ.skipU (g := 19) (L rfl) (by rfl)) rfl (c (OpJ.guarded (g := 16) (by rfl) (OpJ.pickF (L rfl) (q 19) (Opd.bool false))) rfl (c (OpJ.pickF (L rfl) (q 16) (q 30)) rfl cn)))))))))))))))))))) (by kernel_rfl) (by kernel_rfl) ?_
            exact hjj45 _ h _ _ (Mat.trans (mp [] [(0, (qe_api_Entry_5 a0)), (5, (qe_api_Entry_5 a0)), (6, (i6 (a0.length : Int))), (7, (i6 s1)), (31, (bo false))] [] hB) (mp [] _ _ hB))
    · replace h := ite_f hg36 h
      refine AWp.exit ?_
      refine seqQ_e ?_
      obtain rfl := Option.some.inj h
      exact ⟨(fun hc => by cases hc), rfl, (mp [] _ _ hB)⟩
  · rcases x52 with _ | _
    · obtain ⟨rfl, hmat⟩ := hR
      refine blkQ_r ?_
      refine seqQ_r ?_
      obtain rfl := Option.some.inj h
      exact ⟨.inl rfl, _, _, (Mat.trans hmat (mp [] [(2, (bo false))] [] hB)), [(bo false)], (Res.tmp (by rfl) (by rfl) Res.nil), rfl, by rfl, by rfl, by rfl⟩
    · obtain ⟨rfl, hmat⟩ := hR
      refine blkQ_hit ?_
      refine seqQ_n ?_
      refine AWp.ghost hmat ?_
      refine sr (c (mv hN (q 0)) rfl (c (OpJ.val (v' := (i6 (a0.length : Int))) (by simp) (OpJ.lenD Try.underlying23 (L rfl) (q 33))) rfl (c (OpJ.leq (L rfl) (q 34) (Opd.int .i64 (512))) rfl (c (OpJ.assign (L rfl) (q 35)) rfl cn)))) ?_
      refine gh [(2, _)] [] hB rfl rfl (by rfl) ?_
      refine AWp.ret ?_
      obtain rfl := Option.some.inj h
      exact ⟨.inl rfl, _, _, (kp [(2, _)] [] hB rfl rfl (by rfl)), [(bo (decide ((a0.length : Int) ≤ (512 : Int))))], (Res.tmp (by rfl) (by rfl) Res.nil), rfl, by rfl, by rfl, by rfl⟩

noncomputable def exchangepointref02_Last_L0 (s2 : Int × (List Int)) : Option ((((List Int))) ⊕ (Int × (List Int))) :=
  (if (decide (s2.1 < (w64 ((8 : Int) * (s2.2.length : Int))))) = true then
  (idx s2.2 (w64 (Int.tdiv s2.1 (8 : Int)))).bind fun x15 =>
  (idx s2.2 (w64 (Int.tdiv s2.1 (8 : Int)))).bind fun x16 =>
  (idx s2.2 (w64 (Int.tdiv s2.1 (8 : Int)))).bind fun x17 =>
  (idx s2.2 (w64 (Int.tdiv s2.1 (8 : Int)))).bind fun x18 =>
  some (.inr ((w64 (s2.1 + (1 : Int))), (s2.2.set (w64 (Int.tdiv s2.1 (8 : Int))).toNat (bitI .or .u8 x16 (shrI .u8 (128 : Int) (IntKind.u64.wrap (Int.tmod s2.1 (8 : Int))))))))
  else
  some (.inl s2.2))
noncomputable def exchangepointref02_Last (a0 : api_Prefix) : Option (api_Addr) :=
  (exchangepointref01_Bytes_2 a0.fAddr).bind fun r1 =>
  (loop (exchangepointref02_Last_L0) ((maxI (0 : Int) a0.fLen), r1)).bind fun p13 =>
  (exchangepointref01_FromBytes p13).bind fun r21 =>
  some r21.1
set_option maxHeartbeats 4000000 in
set_option maxRecDepth 100000 in
theorem exchangepointref02_Last_ac (a0 : api_Prefix) (r : api_Addr) (h : exchangepointref02_Last a0 = some r) : AC Try.prog 24 [(.d (e_api_Prefix a0))] [] (.d (e_api_Addr r)) [] := by
  refine AC.of_code2 Try.func24 rfl rfl (Nat.le_of_ble_eq_true (by rfl)) fun B hB hN => ?_
  have L {d : Nat} (h : Nat.blt d Try.f24.ntmps = true) : d < B.N := ltN hN h
  delta exchangepointref02_Last at h
  refine sr (cg (OpJ.box hB (nm := 1001) (by decide) (by simp) rfl (L rfl) (q 0)) rfl (cg (OpJ.alloc hB tyZ33 (nm := 1002) (by decide) (L rfl)) rfl cn)) ?_
  refine gh [(1, _), (2, _)] [(1001, some _), (1002, some _)] hB rfl rfl (by rfl) ?_
  refine AWp.seq ?_
  obtain ⟨r1, hr1, h⟩ := bindS h
  refine AWp.region (oc (ov (.ptr 1001 0 [0]) (fp hN Try.underlying37 0 tyS33 (.box 37 (.d (e_api_Prefix a0))) (ot 1 (.ptr 1001 0 []))))
  (oc (lb hN 37 (.d (e_api_Prefix a0)) (.d (e_api_Addr a0.fAddr)) tyS33 (ad (e_api_Addr a0.fAddr)) (ot 7 (.ptr 1001 0 [0])))
  (oc (OpJ.callFn hB fnOk52 (exchangepointref01_Bytes_2_ac a0.fAddr r1 hr1) [(900000, 100000)] (by kernel_rfl) (L rfl) (by kernel_rfl) (OpdL.cons (ot 8 (.d (e_api_Addr a0.fAddr))) OpdL.nil))
  (oc (OpJ.assign (L rfl) (ot 9 (.sref 100000 1 0 r1.length)))
  (OpJs.nil))))) (by rfl) (by rfl) ?_
  refine seqQ_n ?_
  refine AWp.ghost (mp [] [(1, (.ptr 1001 0 [])), (2, (.ptr 1002 0 [])), (3, (.sref 100000 1 0 r1.length))] [(1001, some (.box 37 (.d (e_api_Prefix a0)))), (1002, some (.box 33 (.d (.st [(.bool false), (.int .u64 0), (.int .u64 0)])))), (100000, some (.row 5 1 (r1.map (eI .u8))))] hB) ?_
  refine AWp.seq ?_
  refine sr (c (ov (.ptr 1001 3 [1]) (fp hN Try.underlying37 3 tyS3 _ (q 1))) rfl (c (lb hN 37 _ _ tyS3 (ad _) (q 10)) rfl (c (OpJ.max (L rfl) (Opd.int .i64 (0)) (q 11)) rfl (c (OpJ.assign (L rfl) (q 12)) rfl cn)))) ?_
  refine gh [(2, _), (3, _), (4, _)] [(1002, some _), (100000, some _)] hB rfl rfl (by rfl) ?_
  refine AWp.block ?_
  obtain ⟨p13, hx20, h⟩ := bindS h
  refine lg (exchangepointref02_Last_L0) (fun s2 : Int × (List Int) => ([(2, (.ptr 1002 0 [])), (3, (.sref 100000 1 0 s2.2.length)), (4, (i6 s2.1))] : EL)) (fun s2 : Int × (List Int) => ([(1002, some (.box 33 (.d (.st [(.bool false), (.int .u64 0), (.int .u64 0)])))), (100000, some (.row 5 1 (s2.2.map (eI .u8))))] : OL)) (fun (p13 : ((List Int))) e E' O' => e = .exit 0 ∧ Mat B E' O' ([(2, (.ptr 1002 0 [])), (3, (.sref 100000 1 0 p13.length))] : EL) ([(1002, some (.box 33 (.d (.st [(.bool false), (.int .u64 0), (.int .u64 0)])))), (100000, some (.row 5 1 (p13.map (eI .u8))))] : OL)) hx20 (mp [] _ _ hB) (fun s2 y h => ?_) (fun e E' O' hR => ?_)
  · unfold exchangepointref02_Last_L0 at h
    refine AWp.seq ?_
    refine sr (c (mv hN (q 4)) rfl (c (mv hN (q 3)) rfl (c (OpJ.lenS Try.underlying80 (L rfl) (q 14)) rfl (c (mul6 (L rfl) (Opd.int .i64 (8)) (q 15)) rfl (c (OpJ.lss (L rfl) (q 13) (q 16)) rfl cn))))) ?_
    refine gh [(2, _), (3, _), (4, _), (17, _)] [(1002, some _), (100000, some _)] hB rfl rfl (by rfl) ?_
    refine AWp.cond rfl (fun hg14 => ?_) (fun hg14 => ?_)
    · replace h := ite_t hg14 h
      refine AWp.skip ?_
      refine seqQ_n ?_
      refine AWp.seq ?_
      refine AWp.block ?_
      obtain ⟨x15, hx15, h⟩ := bindS h
      obtain ⟨x16, hx16, h⟩ := bindS h
      obtain ⟨x17, hx17, h⟩ := bindS h
      obtain ⟨x18, hx18, h⟩ := bindS h
      refine rg (c (mv hN (q 3)) rfl (c (mv hN (q 4)) rfl (c (quo6 (L rfl) (q 21) (Opd.int .i64 (8)) (by decide)) rfl (c (OpJ.val (v' := (.ptr 100000 ((w64 (Int.tdiv s2.1 (8 : Int))).toNat * 1) [(w64 (Int.tdiv s2.1 (8 : Int))).toNat])) (by simp) (OpJ.indexS Try.underlying80 tyS5 (idx_some hx15).1 (by have := idx_lt hx15; first | (simpa using this) | ((try simp only [List.length_map] at this); (try simp only [List.length_map]); omega)) (L rfl) (q 20) (q 22))) rfl (c (OpJ.loadR (e := 5) (sz := 1) tyS5 (get_map (eI .u8) (idx_some hx16).2) (o := 0) (At.here _) (by rfl) (by rfl) (by rfl) (L rfl) (q 23)) rfl (c (mv hN (q 4)) rfl (c (OpJ.rem (L rfl) (q 25) (Opd.int .i64 (8)) (by decide)) rfl (c (OpJ.conv Try.underlying3 Try.underlying76 (L rfl) (q 26)) rfl (c (OpJ.shr (L rfl) (Opd.int .u8 (128)) (q 27) (wrap_nonneg rfl _)) rfl (c (OpJ.bits (.inr (.inl rfl)) (L rfl) (q 24) (q 28)) rfl (c (OpJ.val (v' := (.ptr 100000 ((w64 (Int.tdiv s2.1 (8 : Int))).toNat * 1) [(w64 (Int.tdiv s2.1 (8 : Int))).toNat])) (by simp) (OpJ.indexS Try.underlying80 tyS5 (idx_some hx17).1 (by have := idx_lt hx17; first | (simpa using this) | ((try simp only [List.length_map] at this); (try simp only [List.length_map]); omega)) (L rfl) (q 20) (q 22))) rfl (cg (OpJ.storeR (e := 5) (sz := 1) (es' := (s2.2.set (w64 (Int.tdiv s2.1 (8 : Int))).toNat (bitI .or .u8 x16 (shrI .u8 (128 : Int) (IntKind.u64.wrap (Int.tmod s2.1 (8 : Int)))))).map (eI .u8)) tyS5 (get_map (eI .u8) (idx_some hx18).2) (o := 0) (SetAt.here _ _) (by rfl) (map_set _ _ _ _) (by rfl) (by rfl) (q 30) (q 29)) rfl cn)))))))))))) ?_
      refine blkQ_n ?_
      refine seqQ_n ?_
      refine gh [(2, _), (3, _), (4, _)] [(1002, some _), (100000, some _)] hB rfl rfl (by rfl) ?_
      refine rg (c (mv hN (q 4)) rfl (c (add6 (L rfl) (q 18) (Opd.int .i64 (1))) rfl (c (OpJ.assign (L rfl) (q 19)) rfl cn))) ?_
      obtain rfl := Option.some.inj h
      exact ⟨rfl, (Mat.trans (mp [] [(2, (.ptr 1002 0 [])), (3, (.sref 100000 1 0 s2.2.length)), (4, (i6 (w64 (s2.1 + (1 : Int)))))] [(1002, some (.box 33 (.d (.st [(.bool false), (.int .u64 0), (.int .u64 0)])))), (100000, some (.row 5 1 ((s2.2.set (w64 (Int.tdiv s2.1 (8 : Int))).toNat (bitI .or .u8 x16 (shrI .u8 (128 : Int) (IntKind.u64.wrap (Int.tmod s2.1 (8 : Int)))))).map (eI .u8))))] hB) (Mat.trans (Mat.lenP (Ts := [(3, (.sref 100000 1 0 ((s2.2.set (w64 (Int.tdiv s2.1 (8 : Int))).toNat (bitI .or .u8 x16 (shrI .u8 (128 : Int) (IntKind.u64.wrap (Int.tmod s2.1 (8 : Int)))))).length)))]) (Bs := []) (TwT.cons (x := (.sref 100000 1 0 s2.2.length)) (by rfl) (Tw.leaf ⟨_, _, _, _, _, rfl, rfl, (by first | rfl | (simp; done) | (simp; omega))⟩) TwT.nil) TwB.nil) (mp [] _ _ hB)))⟩
    · replace h := ite_f hg14 h
      refine AWp.exit ?_
      refine seqQ_e ?_
      obtain rfl := Option.some.inj h
      exact ⟨(fun hc => by cases hc), rfl, (mp [] _ _ hB)⟩
  · obtain ⟨rfl, hmat⟩ := hR
    refine blkQ_hit ?_
    refine seqQ_n ?_
    refine AWp.ghost hmat ?_
    refine AWp.seq ?_
    refine AWp.ghost (Mat.freezeP (n := 100000) (e := 5) (sz := 1) (es := p13.map (eI .u8)) (Ts := [(3, (.d (.list 1 (p13.map (eI .u8)))))]) (Bs := []) (by rfl) (TwT.cons (x := (.sref 100000 1 0 p13.length)) (by rfl) (FrzL.all (by first | rfl | (simp; done) | (simp; omega))) TwT.nil) TwB.nil) ?_
    obtain ⟨r21, hr21, h⟩ := bindS h
    refine rg (c (mv hN (q 3)) rfl (cg (OpJ.callFn hB fnOk53 (exchangepointref01_FromBytes_ac p13 r21 hr21) [] (by kernel_rfl) (L rfl) (by kernel_rfl) (OpdL.cons (q 32) OpdL.nil)) rfl (c (mv hN (q 33)) rfl (c (OpJ.extract (by rfl) rfl (L rfl) (q 31)) rfl (c (OpJ.extract (by rfl) rfl (L rfl) (q 31)) rfl (cg (OpJ.alloc hB tyZ33 (nm := 1005) (by decide) (L rfl)) rfl (cg (OpJ.storeB tyS33 (SetAt.here _ _) (by rfl) (by rfl) (by simp) rfl (q 5) (q 34)) rfl (c (OpJ.assign (L rfl) (q 35)) rfl cn)))))))) ?_
    refine seqQ_n ?_
    refine gh [(2, _), (5, _)] [(1002, some _), (1005, some _)] hB rfl rfl (by rfl) ?_
    refine sr (c (lb hN 33 _ _ tyS33 (At.here _) (q 5)) rfl (cg (OpJ.storeB tyS33 (SetAt.here _ _) (by rfl) (by rfl) (by simp) rfl (q 2) (q 36)) rfl cn)) ?_
    refine gh [(2, _)] [(1002, some _)] hB rfl rfl (by rfl) ?_
    refine AWp.ret ?_
    obtain rfl := Option.some.inj h
    exact ⟨.inl rfl, _, _, (kp [(2, _)] [(1002, some _)] hB rfl rfl (by rfl)), [(.d (e_api_Addr r21.1))], (Res.cell (c := (.d (e_api_Addr r21.1))) (by rfl) (by rfl) tyS33 (by rfl) (by rfl) (by rfl) Res.nil), rfl, by rfl, by rfl, by rfl⟩

noncomputable def exchangepointlaw03_few (a0 : (List api_Entry)) : Option (Bool) :=
  some (decide ((a0.length : Int) ≤ (40 : Int)))
set_option maxHeartbeats 4000000 in
set_option maxRecDepth 100000 in
theorem exchangepointlaw03_few_ac (a0 : (List api_Entry)) (r : Bool) (h : exchangepointlaw03_few a0 = some r) : AC Try.prog 25 [(.d (.list 5 (a0.map e_api_Entry)))] [] (.d (.bool r)) [] := by
  refine AC.of_code2 Try.func25 rfl rfl (Nat.le_of_ble_eq_true (by rfl)) fun B hB hN => ?_
  delta exchangepointlaw03_few at h
  refine sr (c (OpJ.assign (ltN hN rfl) (Opd.bool false)) rfl cn) ?_
  refine gh [(0, _)] [] hB rfl rfl (by rfl) ?_
  refine sr (c (mv hN (q 0)) rfl (c (OpJ.val (v' := (i6 (a0.length : Int))) (by simp) (OpJ.lenD Try.underlying23 (ltN hN rfl) (q 3))) rfl (c (OpJ.leq (ltN hN rfl) (q 4) (Opd.int .i64 (40))) rfl (c (OpJ.assign (ltN hN rfl) (q 5)) rfl cn)))) ?_
  refine gh [(2, _)] [] hB rfl rfl (by rfl) ?_
  refine AWp.ret ?_
  obtain rfl := Option.some.inj h
  exact ⟨.inl rfl, _, _, (kp [(2, _)] [] hB rfl rfl (by rfl)), [(bo (decide ((a0.length : Int) ≤ (40 : Int))))], (Res.tmp (by rfl) (by rfl) Res.nil), rfl, by rfl, by rfl, by rfl⟩

noncomputable def table_find_1 (a0 : api_Entry) (a1 : api_Prefix) : Option (Int) :=
  (prefix_Cmp a0.fPrefix a1).bind fun r1 =>
  some r1
set_option maxHeartbeats 4000000 in
set_option maxRecDepth 100000 in
theorem table_find_1_ac (a0 : api_Entry) (a1 : api_Prefix) (r : Int) (h : table_find_1 a0 a1 = some r) : AC Try.prog 81 [(.d (e_api_Entry a0)), (.d (e_api_Prefix a1))] [] (.d (.int .i64 r)) [] := by
  refine AC.of_code2 Try.func81 rfl rfl (Nat.le_of_ble_eq_true (by rfl)) fun B hB hN => ?_
  delta table_find_1 at h
  refine sr (cg (OpJ.box hB (nm := 1002) (by decide) (by simp) rfl (ltN hN rfl) (q 0)) rfl (cg (OpJ.box hB (nm := 1003) (by decide) (by simp) rfl (ltN hN rfl) (q 1)) rfl (c (OpJ.assign (ltN hN rfl) (Opd.int .i64 (0))) rfl cn))) ?_
  refine gh [(2, _), (3, _)] [(1002, some _), (1003, some _)] hB rfl rfl (by rfl) ?_
  obtain ⟨r1, hr1, h⟩ := bindS h
  refine sr (c (ov (.ptr 1002 0 [0]) (fp hN Try.underlying39 0 tyS37 _ (q 2))) rfl (c (lb hN 39 _ _ tyS37 (ad _) (q 5)) rfl (c (lb hN 37 _ _ tyS37 (At.here _) (q 3)) rfl (cg (OpJ.callFn hB fnOk44 (prefix_Cmp_ac a0.fPrefix a1 r1 hr1) [] (by kernel_rfl) (ltN hN rfl) (by kernel_rfl) (OpdL.cons (q 6) (OpdL.cons (q 7) OpdL.nil))) rfl (c (OpJ.assign (ltN hN rfl) (q 8)) rfl cn))))) ?_
  refine gh [(4, _)] [] hB rfl rfl (by rfl) ?_
  refine AWp.ret ?_
  obtain rfl := Option.some.inj h
  exact ⟨.inl rfl, _, _, (kp [(4, _)] [] hB rfl rfl (by rfl)), [(i6 r1)], (Res.tmp (by rfl) (by rfl) Res.nil), rfl, by rfl, by rfl, by rfl⟩

noncomputable def slices_BinarySearchFunc_L0 (a0 : (List api_Entry)) (a1 : api_Prefix) (s1 : Int × Int) : Option (((Int)) ⊕ (Int × Int)) :=
  (if (decide (s1.1 < s1.2)) = true then
  (idx a0 (w64 (shrI .u64 (IntKind.u64.wrap (w64 (s1.1 + s1.2))) (1 : Int)))).bind fun x12 =>
  (table_find_1 x12 a1).bind fun r13 =>
  (if (decide (r13 < (0 : Int))) = true then
  some (.inr ((w64 ((w64 (shrI .u64 (IntKind.u64.wrap (w64 (s1.1 + s1.2))) (1 : Int))) + (1 : Int))), s1.2))
  else
  some (.inr (s1.1, (w64 (shrI .u64 (IntKind.u64.wrap (w64 (s1.1 + s1.2))) (1 : Int))))))
  else
  some (.inl s1.1))
noncomputable def slices_BinarySearchFunc (a0 : (List api_Entry)) (a1 : api_Prefix) : Option (Int × Bool) :=
  (loop (slices_BinarySearchFunc_L0 a0 a1) ((0 : Int), (a0.length : Int))).bind fun p10 =>
  jn (fun m20 : Bool =>
  some (p10, m20)) (fun j21 =>
  (if (decide (p10 < (a0.length : Int))) = true then
  (idx a0 p10).bind fun x23 =>
  (table_find_1 x23 a1).bind fun r24 =>
  j21 (r24 == (0 : Int))
  else
  j21 false))
set_option maxHeartbeats 4000000 in
set_option maxRecDepth 100000 in
theorem slices_BinarySearchFunc_ac (a0 : (List api_Entry)) (a1 : api_Prefix) (r : Int × Bool) (h : slices_BinarySearchFunc a0 a1 = some r) : AC Try.prog 80 [(.d (.list 5 (a0.map e_api_Entry))), (.d (e_api_Prefix a1)), (.func 81 [])] [] (.tup [(.d (.int .i64 r.1)), (.d (.bool r.2))]) [] := by
  refine AC.of_code2 Try.func80 rfl rfl (Nat.le_of_ble_eq_true (by rfl)) fun B hB hN => ?_
  have L {d : Nat} (h : Nat.blt d Try.f80.ntmps = true) : d < B.N := ltN hN h
  delta slices_BinarySearchFunc at h
  refine sr (cg (OpJ.box hB (nm := 1004) (by decide) (by simp) rfl (L rfl) (q 1)) rfl (c (OpJ.assign (L rfl) (Opd.int .i64 (0))) rfl (c (OpJ.assign (L rfl) (Opd.bool false)) rfl cn))) ?_
  refine gh [(0, _), (2, _), (4, _)] [(1004, some _)] hB rfl rfl (by rfl) ?_
  refine sr (c (mv hN (q 0)) rfl (c (OpJ.val (v' := (i6 (a0.length : Int))) (by simp) (OpJ.lenD Try.underlying23 (L rfl) (q 12))) rfl (c (OpJ.assign (L rfl) (q 13)) rfl cn))) ?_
  refine gh [(0, _), (2, _), (4, _), (8, _)] [(1004, some _)] hB rfl rfl (by rfl) ?_
  refine sr (c (mv hN (q 8)) rfl (c (OpJ.assign (L rfl) (Opd.int .i64 (0))) rfl (c (OpJ.assign (L rfl) (q 14)) rfl cn))) ?_
  refine gh [(0, _), (2, _), (4, _), (8, _), (9, _), (10, _)] [(1004, some _)] hB rfl rfl (by rfl) ?_
  refine AWp.seq ?_
  refine AWp.block ?_
  obtain ⟨p10, hx16, h⟩ := bindS h
  refine lg (slices_BinarySearchFunc_L0 a0 a1) (fun s1 : Int × Int => ([(0, (qe_api_Entry_5 a0)), (2, (.func 81 [])), (4, (.ptr 1004 0 [])), (8, (i6 (a0.length : Int))), (9, (i6 s1.1)), (10, (i6 s1.2))] : EL)) (fun s1 : Int × Int => ([(1004, some (.box 37 (.d (e_api_Prefix a1))))] : OL)) (fun (p10 : (Int)) e E' O' => e = .exit 0 ∧ Mat B E' O' ([(0, (qe_api_Entry_5 a0)), (2, (.func 81 [])), (4, (.ptr 1004 0 [])), (8, (i6 (a0.length : Int))), (9, (i6 p10))] : EL) ([(1004, some (.box 37 (.d (e_api_Prefix a1))))] : OL)) hx16 (mp [] _ _ hB) (fun s1 y h => ?_) (fun e E' O' hR => ?_)
  · unfold slices_BinarySearchFunc_L0 at h
    refine AWp.seq ?_
    refine sr (c (mv hN (q 9)) rfl (c (mv hN (q 10)) rfl (c (OpJ.lss (L rfl) (q 15) (q 16)) rfl cn))) ?_
    refine gh [(0, _), (2, _), (4, _), (8, _), (9, _), (10, _), (17, _)] [(1004, some _)] hB rfl rfl (by rfl) ?_
    refine AWp.cond rfl (fun hg11 => ?_) (fun hg11 => ?_)
    · replace h := ite_t hg11 h
      refine AWp.skip ?_
      refine seqQ_n ?_
      refine AWp.block ?_
      refine sr (c (mv hN (q 9)) rfl (c (mv hN (q 10)) rfl (c (add6 (L rfl) (q 18) (q 19)) rfl (c (OpJ.conv Try.underlying3 Try.underlying76 (L rfl) (q 20)) rfl (c (OpJ.shr (L rfl) (q 21) (Opd.int .u64 (1)) (by decide)) rfl (c (conv6 Try.underlying76 Try.underlying3 (L rfl) (q 22)) rfl (c (OpJ.assign (L rfl) (q 23)) rfl cn))))))) ?_
      refine gh [(0, _), (2, _), (4, _), (8, _), (9, _), (10, _), (11, _)] [(1004, some _)] hB rfl rfl (by rfl) ?_
      obtain ⟨x12, hx12, h⟩ := bindS h
      obtain ⟨r13, hr13, h⟩ := bindS h
      refine sd (c (mv hN (q 2)) rfl (c (mv hN (q 0)) rfl (c (mv hN (q 11)) rfl (c (OpJ.indexD Try.underlying23 tyS39 (idx_some hx12).1 (get_map e_api_Entry (idx_some hx12).2) (L rfl) (q 25) (q 26)) rfl (c (OpJ.loadD tyS39 (by rfl) (by rfl) (L rfl) (q 27)) rfl (c (lb hN 37 _ _ tyS37 (At.here _) (q 4)) rfl (cg (OpJ.callVal (args := [(.d (e_api_Entry x12)), (.d (e_api_Prefix a1))]) (caps := []) hB fnOk81 [] (table_find_1_ac x12 a1 r13 hr13) (by kernel_rfl) (L rfl) (by kernel_rfl) (by kernel_rfl) (OpdL.cons (q 28) (OpdL.cons (q 29) OpdL.nil))) rfl (c (OpJ.lss (L rfl) (q 30) (Opd.int .i64 (0))) rfl cn)))))))) (by kernel_rfl) (by kernel_rfl) ?_
      refine gh [(0, _), (2, _), (4, _), (8, _), (9, _), (10, _), (11, _), (31, _)] [(1004, some _)] hB rfl rfl (by rfl) ?_
      refine AWp.cond rfl (fun hg14 => ?_) (fun hg14 => ?_)
      · replace h := ite_t hg14 h
        refine rg (c (mv hN (q 11)) rfl (c (add6 (L rfl) (q 32) (Opd.int .i64 (1))) rfl (c (OpJ.assign (L rfl) (q 33)) rfl cn))) ?_
        refine blkQ_n ?_
        obtain rfl := Option.some.inj h
        exact ⟨rfl, (Mat.trans (mp [] [(0, (qe_api_Entry_5 a0)), (2, (.func 81 [])), (4, (.ptr 1004 0 [])), (8, (i6 (a0.length : Int))), (9, (i6 (w64 ((w64 (shrI .u64 (IntKind.u64.wrap (w64 (s1.1 + s1.2))) (1 : Int))) + (1 : Int))))), (10, (i6 s1.2))] [(1004, some (.box 37 (.d (e_api_Prefix a1))))] hB) (mp [] _ _ hB))⟩
      · replace h := ite_f hg14 h
        refine rg (c (mv hN (q 11)) rfl (c (OpJ.assign (L rfl) (q 34)) rfl cn)) ?_
        refine blkQ_n ?_
        obtain rfl := Option.some.inj h
        exact ⟨rfl, (Mat.trans (mp [] [(0, (qe_api_Entry_5 a0)), (2, (.func 81 [])), (4, (.ptr 1004 0 [])), (8, (i6 (a0.length : Int))), (9, (i6 s1.1)), (10, (i6 (w64 (shrI .u64 (IntKind.u64.wrap (w64 (s1.1 + s1.2))) (1 : Int)))))] [(1004, some (.box 37 (.d (e_api_Prefix a1))))] hB) (mp [] _ _ hB))⟩
    · replace h := ite_f hg11 h
      refine AWp.exit ?_
      refine seqQ_e ?_
      obtain rfl := Option.some.inj h
      exact ⟨(fun hc => by cases hc), rfl, (mp [] _ _ hB)⟩
  · obtain ⟨rfl, hmat⟩ := hR
    refine blkQ_hit ?_
    refine seqQ_n ?_
    refine AWp.ghost hmat ?_
    refine AWp.seq ?_
    refine AWp.cut h (fun m20 : Bool => ([(6, (i6 p10)), (7, (bo m20))] : EL)) (fun m20 : Bool => ([] : OL)) (fun m20 h E' O' hmat => ?_) (fun j21 hjj21 h => ?_)
    · refine seqQ_n ?_
      refine AWp.ghost hmat ?_
      refine AWp.ret ?_
      obtain rfl := Option.some.inj h
      exact ⟨.inl rfl, _, _, (kp [(6, _), (7, _)] [] hB rfl rfl (by rfl)), [(i6 p10), (bo m20)], (Res.tmp (by rfl) (by rfl) (Res.tmp (by rfl) (by rfl) Res.nil)), rfl, by rfl, by rfl, by rfl⟩
    · rcases Bool.eq_false_or_eq_true (decide (p10 < (a0.length : Int))) with hg22 | hg22
      · replace h := ite_t hg22 h
        obtain ⟨x23, hx23, h⟩ := bindS h
        obtain ⟨r24, hr24, h⟩ := bindS h
        refine dr (c (mv hN (q 9)) rfl (c (mv hN (q 9)) rfl (c (mv hN (q 8)) rfl (c (OpJ.lss (L rfl) (q 36) (q 37)) rfl (c (OpJ.val (v' := .d (.bool true)) (by rw [hg22]) (mv hN (q 38))) rfl (c (OpJ.guarded (g := 39) (by rfl) (mv hN (q 2))) rfl (c (OpJ.guarded (g := 39) (by rfl) (mv hN (q 0))) rfl (c (OpJ.guarded (g := 39) (by rfl) (mv hN (q 9))) rfl (c (OpJ.guarded (g := 39) (by rfl) (OpJ.indexD Try.underlying23 tyS39 (idx_some hx23).1 (get_map e_api_Entry (idx_some hx23).2) (L rfl) (q 41) (q 42))) rfl (c (OpJ.guarded (g := 39) (by rfl) (OpJ.loadD tyS39 (by rfl) (by rfl) (L rfl) (q 43))) rfl (c (OpJ.guarded (g := 39) (by rfl) (lb hN 37 _ _ tyS37 (At.here _) (q 4))) rfl (cg (OpJ.guarded (g := 39) (by rfl) (OpJ.callVal (args := [(.d (e_api_Entry x23)), (.d (e_api_Prefix a1))]) (caps := []) hB fnOk81 [] (table_find_1_ac x23 a1 r24 hr24) (by kernel_rfl) (L rfl) (by kernel_rfl) (by kernel_rfl) (OpdL.cons (q 44) (OpdL.cons (q 45) OpdL.nil)))) rfl (c (OpJ.guarded (g := 39) (by rfl) (OpJ.eqlI (L rfl) (q 46) (Opd.int .i64 (0)))) rfl (c (OpJ.pickT (L rfl) (q 39) (q 47)) rfl (c (OpJ.assign (L rfl) (q 35)) rfl (c (OpJ.assign (L rfl) (q 48)) rfl cn)))))))))))))))) (by kernel_rfl) (by kernel_rfl) ?_
        exact hjj21 _ h _ _ (Mat.trans (mp [] [(6, (i6 p10)), (7, (bo (r24 == (0 : Int))))] [] hB) (mp [] _ _ hB))
      · replace h := ite_f hg22 h
        refine dr (c (mv hN (q 9)) rfl (c (mv hN (q 9)) rfl (c (mv hN (q 8)) rfl (c (OpJ.lss (L rfl) (q 36) (q 37)) rfl (c (OpJ.val (v' := .d (.bool false)) (by rw [hg22]) (mv hN (q 38))) rfl (cg (OpJ.skipU (g := 39) (L rfl) (by rfl)) rfl (cg (OpJ.skipU (g := 39) (L rfl) (by rfl)) rfl (cg (OpJ.skipU (g := 39) (L rfl) (by rfl)) rfl (cg (OpJ.skipU (g := 39) (L rfl) (by rfl)) rfl (cg (OpJ.skipU (g := 39) (L rfl) (by rfl)) rfl (cg (OpJ.skipU (g := 39) (L rfl) (by rfl)) rfl (cg (OpJ.skipU (g := 39) (L rfl) (by rfl)) rfl (cg (OpJ.skipU (g := 39) (L rfl) (by rfl)) rfl (c (OpJ.pickF (L rfl) (q 39) (Opd.bool false)) rfl (c (OpJ.assign (L rfl) (q 35)) rfl (c (OpJ.assign (L rfl) (q 48)) rfl cn)))))))))))))))) (by kernel_rfl) (by kernel_rfl) ?_
        exact hjj21 _ h _ _ (Mat.trans (mp [] [(6, (i6 p10)), (7, (bo false))] [] hB) (mp [] _ _ hB))

noncomputable def table_find (a0 : (List api_Entry)) (a1 : api_Prefix) : Option (Int × Bool) :=
  (slices_BinarySearchFunc a0 a1).bind fun r1 =>
  some (r1.1, r1.2)
set_option maxHeartbeats 4000000 in
set_option maxRecDepth 100000 in
theorem table_find_ac (a0 : (List api_Entry)) (a1 : api_Prefix) (r : Int × Bool) (h : table_find a0 a1 = some r) : AC Try.prog 63 [(.d (.list 5 (a0.map e_api_Entry))), (.d (e_api_Prefix a1))] [] (.tup [(.d (.int .i64 r.1)), (.d (.bool r.2))]) [] := by
  refine AC.of_code2 Try.func63 rfl rfl (Nat.le_of_ble_eq_true (by rfl)) fun B hB hN => ?_
  delta table_find at h
  refine sr (cg (OpJ.box hB (nm := 1003) (by decide) (by simp) rfl (ltN hN rfl) (q 1)) rfl (c (OpJ.assign (ltN hN rfl) (Opd.int .i64 (0))) rfl (c (OpJ.assign (ltN hN rfl) (Opd.bool false)) rfl cn))) ?_
  refine gh [(0, _), (3, _)] [(1003, some _)] hB rfl rfl (by rfl) ?_
  obtain ⟨r1, hr1, h⟩ := bindS h
  refine sr (c (mv hN (q 0)) rfl (c (lb hN 37 _ _ tyS37 (At.here _) (q 3)) rfl (cg (OpJ.callFn hB fnOk80 (slices_BinarySearchFunc_ac a0 a1 r1 hr1) [] (by kernel_rfl) (ltN hN rfl) (by kernel_rfl) (OpdL.cons (q 6) (OpdL.cons (q 7) (OpdL.cons (Opd.func 81) OpdL.nil)))) rfl (c (OpJ.extract (by rfl) rfl (ltN hN rfl) (q 8)) rfl (c (OpJ.extract (by rfl) rfl (ltN hN rfl) (q 8)) rfl (c (OpJ.assign (ltN hN rfl) (q 9)) rfl (c (OpJ.assign (ltN hN rfl) (q 10)) rfl cn))))))) ?_
  refine gh [(4, _), (5, _)] [] hB rfl rfl (by rfl) ?_
  refine AWp.ret ?_
  obtain rfl := Option.some.inj h
  exact ⟨.inl rfl, _, _, (kp [(4, _), (5, _)] [] hB rfl rfl (by rfl)), [(i6 r1.1), (bo r1.2)], (Res.tmp (by rfl) (by rfl) (Res.tmp (by rfl) (by rfl) Res.nil)), rfl, by rfl, by rfl, by rfl⟩

noncomputable def table_Get (a0 : (List api_Entry)) (a1 : api_Prefix) : Option (Int × Bool) :=
  (table_find a0 a1).bind fun r1 =>
  (if (!r1.2) = true then
  some ((0 : Int), false)
  else
  (idx a0 r1.1).bind fun x3 =>
  some (x3.fValue, true))
set_option maxHeartbeats 4000000 in
set_option maxRecDepth 100000 in
theorem table_Get_ac (a0 : (List api_Entry)) (a1 : api_Prefix) (r : Int × Bool) (h : table_Get a0 a1 = some r) : AC Try.prog 28 [(.d (.list 5 (a0.map e_api_Entry))), (.d (e_api_Prefix a1))] [] (.tup [(.d (.int .i64 r.1)), (.d (.bool r.2))]) [] := by
  refine AC.of_code2 Try.func28 rfl rfl (Nat.le_of_ble_eq_true (by rfl)) fun B hB hN => ?_
  have L {d : Nat} (h : Nat.blt d Try.f28.ntmps = true) : d < B.N := ltN hN h
  delta table_Get at h
  refine sr (cg (OpJ.box hB (nm := 1003) (by decide) (by simp) rfl (L rfl) (q 1)) rfl (c (OpJ.assign (L rfl) (Opd.int .i64 (0))) rfl (c (OpJ.assign (L rfl) (Opd.bool false)) rfl cn))) ?_
  refine gh [(0, _), (3, _)] [(1003, some _)] hB rfl rfl (by rfl) ?_
  obtain ⟨r1, hr1, h⟩ := bindS h
  refine sr (c (mv hN (q 0)) rfl (c (lb hN 37 _ _ tyS37 (At.here _) (q 3)) rfl (cg (OpJ.callFn hB fnOk63 (table_find_ac a0 a1 r1 hr1) [] (by kernel_rfl) (L rfl) (by kernel_rfl) (OpdL.cons (q 9) (OpdL.cons (q 10) OpdL.nil))) rfl (c (mv hN (q 11)) rfl (c (OpJ.extract (by rfl) rfl (L rfl) (q 8)) rfl (c (OpJ.extract (by rfl) rfl (L rfl) (q 8)) rfl (c (OpJ.assign (L rfl) (q 12)) rfl (c (OpJ.assign (L rfl) (q 13)) rfl cn)))))))) ?_
  refine gh [(0, _), (6, _), (7, _)] [] hB rfl rfl (by rfl) ?_
  refine AWp.seq ?_
  refine sr (c (mv hN (q 7)) rfl (c (OpJ.not (L rfl) (q 14)) rfl cn)) ?_
  refine gh [(0, _), (6, _), (15, _)] [] hB rfl rfl (by rfl) ?_
  refine AWp.cond rfl (fun hg2 => ?_) (fun hg2 => ?_)
  · replace h := ite_t hg2 h
    refine sr (c (OpJ.assign (L rfl) (Opd.int .i64 (0))) rfl (c (OpJ.assign (L rfl) (Opd.bool false)) rfl cn)) ?_
    refine gh [(4, _), (5, _)] [] hB rfl rfl (by rfl) ?_
    refine AWp.ret ?_
    refine seqQ_r ?_
    obtain rfl := Option.some.inj h
    exact ⟨.inl rfl, _, _, (kp [(4, _), (5, _)] [] hB rfl rfl (by rfl)), [(i6 0), (bo false)], (Res.tmp (by rfl) (by rfl) (Res.tmp (by rfl) (by rfl) Res.nil)), rfl, by rfl, by rfl, by rfl⟩
  · replace h := ite_f hg2 h
    refine AWp.skip ?_
    refine seqQ_n ?_
    obtain ⟨x3, hx3, h⟩ := bindS h
    refine sr (c (mv hN (q 0)) rfl (c (mv hN (q 6)) rfl (c (OpJ.indexD Try.underlying23 tyS39 (idx_some hx3).1 (get_map e_api_Entry (idx_some hx3).2) (L rfl) (q 16) (q 17)) rfl (c (OpJ.fieldD Try.underlying39 (by rfl) (o := 4) (by rfl) tyS3 (by decide) (by rfl) (by rfl) (L rfl) (q 18)) rfl (c (OpJ.loadD tyS3 (by rfl) (by rfl) (L rfl) (q 19)) rfl (c (OpJ.assign (L rfl) (q 20)) rfl (c (OpJ.assign (L rfl) (Opd.bool true)) rfl cn))))))) ?_
    refine gh [(4, _), (5, _)] [] hB rfl rfl (by rfl) ?_
    refine AWp.ret ?_
    obtain rfl := Option.some.inj h
    exact ⟨.inl rfl, _, _, (kp [(4, _), (5, _)] [] hB rfl rfl (by rfl)), [(i6 x3.fValue), (bo true)], (Res.tmp (by rfl) (by rfl) (Res.tmp (by rfl) (by rfl) Res.nil)), rfl, by rfl, by rfl, by rfl⟩

noncomputable def exchangepointref03_Covered_L0 (a0 : (List api_Entry)) (a1 : api_Prefix) (s1 : Int × (List api_Entry)) : Option ((((List api_Entry))) ⊕ (Int × (List api_Entry))) :=
  (if (decide (s1.1 < (a0.length : Int))) = true then
  (idx a0 s1.1).bind fun x22 =>
  (exchangepointref02_Covers a1 x22.fPrefix).bind fun r23 =>
  jn (fun m26 : (List api_Entry) =>
  some (.inr ((w64 (s1.1 + (1 : Int))), m26))) (fun j27 =>
  (if r23 = true then
  chk (decide ((s1.2 ++ ([x22] : List api_Entry)).length ≤ LIM)) <|
  j27 (s1.2 ++ ([x22] : List api_Entry))
  else
  j27 s1.2))
  else
  some (.inl s1.2))
noncomputable def exchangepointref03_Covered (a0 : (List api_Entry)) (a1 : api_Prefix) : Option ((List api_Entry)) :=
  (loop (exchangepointref03_Covered_L0 a0 a1) ((0 : Int), ([] : List api_Entry))).bind fun p20 =>
  some p20
set_option maxHeartbeats 4000000 in
set_option maxRecDepth 100000 in
theorem exchangepointref03_Covered_ac (a0 : (List api_Entry)) (a1 : api_Prefix) (r : (List api_Entry)) (h : exchangepointref03_Covered a0 a1 = some r) : AC Try.prog 31 [(.d (.list 5 (a0.map e_api_Entry))), (.d (e_api_Prefix a1))] [] (.d (.list 5 (r.map e_api_Entry))) [] := by
  refine AC.of_code2 Try.func31 rfl rfl (Nat.le_of_ble_eq_true (by rfl)) fun B hB hN => ?_
  have L {d : Nat} (h : Nat.blt d Try.f31.ntmps = true) : d < B.N := ltN hN h
  delta exchangepointref03_Covered at h
  refine sr (cg (OpJ.box hB (nm := 1003) (by decide) (by simp) rfl (L rfl) (q 1)) rfl (c (OpJ.assign (L rfl) Opd.nils) rfl cn)) ?_
  refine gh [(0, _), (3, _)] [(1003, some _)] hB rfl rfl (by rfl) ?_
  refine sr (c (OpJ.assign (L rfl) Opd.nils) rfl cn) ?_
  refine gh [(0, _), (3, _), (5, _)] [(1003, some _)] hB rfl rfl (by rfl) ?_
  refine AWp.seq ?_
  refine sr (c (mv hN (q 0)) rfl (c (OpJ.val (v' := (i6 (a0.length : Int))) (by simp) (OpJ.lenD Try.underlying23 (L rfl) (q 8))) rfl (c (mv hN (Opd.int .i64 (0))) rfl cn))) ?_
  refine gh [(3, _), (5, _), (8, _), (9, _), (10, _)] [(1003, some _)] hB rfl rfl (by rfl) ?_
  refine AWp.block ?_
  obtain ⟨p20, hx31, h⟩ := bindS h
  refine lg (exchangepointref03_Covered_L0 a0 a1) (fun s1 : Int × (List api_Entry) => ([(3, (.ptr 1003 0 [])), (5, (.sref 3005 5 0 s1.2.length)), (8, (qe_api_Entry_5 a0)), (9, (i6 (a0.length : Int))), (10, (i6 s1.1))] : EL)) (fun s1 : Int × (List api_Entry) => ([(1003, some (.box 37 (.d (e_api_Prefix a1)))), (3005, some (we_api_Entry_39_5 s1.2))] : OL)) (fun (p20 : ((List api_Entry))) e E' O' => e = .exit 0 ∧ Mat B E' O' ([(5, (.sref 3005 5 0 p20.length))] : EL) ([(3005, some (we_api_Entry_39_5 p20))] : OL)) hx31 (Mat.trans (Mat.beginP (n := 3005) (e := 39) (sz := 5) (Ts := [(5, (.sref 3005 5 0 0))]) (Bs := []) hB (by decide) (by rfl) (by decide) (TwT.cons (x := .nils) (by rfl) (Tw.leaf ⟨rfl, rfl⟩) TwT.nil) TwB.nil) (mp [] _ _ hB)) (fun s1 y h => ?_) (fun e E' O' hR => ?_)
  · unfold exchangepointref03_Covered_L0 at h
    refine sr (c (OpJ.lss (L rfl) (q 10) (q 9)) rfl cn) ?_
    refine gh [(3, _), (5, _), (8, _), (9, _), (10, _), (11, _)] [(1003, some _), (3005, some _)] hB rfl rfl (by rfl) ?_
    refine AWp.seq ?_
    refine AWp.cond rfl (fun hg21 => ?_) (fun hg21 => ?_)
    · replace h := ite_t hg21 h
      refine AWp.skip ?_
      refine seqQ_n ?_
      refine AWp.seq ?_
      refine AWp.block ?_
      obtain ⟨x22, hx22, h⟩ := bindS h
      refine sr (c (OpJ.indexD Try.underlying23 tyS39 (idx_some hx22).1 (get_map e_api_Entry (idx_some hx22).2) (L rfl) (q 8) (q 10)) rfl (c (OpJ.loadD tyS39 (by rfl) (by rfl) (L rfl) (q 12)) rfl (cg (OpJ.alloc hB tyZ39 (nm := 1007) (by decide) (L rfl)) rfl (cg (OpJ.storeB tyS39 (SetAt.here _ _) (by rfl) (by rfl) (by simp) rfl (q 7) (q 13)) rfl cn)))) ?_
      refine gh [(3, _), (5, _), (7, _), (8, _), (9, _), (10, _)] [(1003, some _), (1007, some _), (3005, some _)] hB rfl rfl (by rfl) ?_
      obtain ⟨r23, hr23, h⟩ := bindS h
      refine sr (c (lb hN 37 _ _ tyS37 (At.here _) (q 3)) rfl (c (ov (.ptr 1007 0 [0]) (fp hN Try.underlying39 0 tyS37 _ (q 7))) rfl (c (lb hN 39 _ _ tyS37 (ad _) (q 15)) rfl (cg (OpJ.callFn hB fnOk21 (exchangepointref02_Covers_ac a1 x22.fPrefix r23 hr23) [] (by kernel_rfl) (L rfl) (by kernel_rfl) (OpdL.cons (q 14) (OpdL.cons (q 16) OpdL.nil))) rfl cn)))) ?_
      refine gh [(3, _), (5, _), (7, _), (8, _), (9, _), (10, _), (17, _)] [(1003, some _), (1007, some _), (3005, some _)] hB rfl rfl (by rfl) ?_
      refine AWp.cut h (fun m26 : (List api_Entry) => ([(3, (.ptr 1003 0 [])), (5, (.sref 3005 5 0 m26.length)), (8, (qe_api_Entry_5 a0)), (9, (i6 (a0.length : Int))), (10, (i6 s1.1))] : EL)) (fun m26 : (List api_Entry) => ([(1003, some (.box 37 (.d (e_api_Prefix a1)))), (3005, some (we_api_Entry_39_5 m26))] : OL)) (fun m26 h E' O' hmat => ?_) (fun j27 hjj27 h => ?_)
      · refine blkQ_n ?_
        refine seqQ_n ?_
        refine AWp.ghost hmat ?_
        refine rg (c (add6 (L rfl) (q 10) (Opd.int .i64 (1))) rfl (c (mv hN (q 22)) rfl cn)) ?_
        obtain rfl := Option.some.inj h
        exact ⟨rfl, (Mat.trans (mp [] [(3, (.ptr 1003 0 [])), (5, (.sref 3005 5 0 m26.length)), (8, (qe_api_Entry_5 a0)), (9, (i6 (a0.length : Int))), (10, (i6 (w64 (s1.1 + (1 : Int)))))] [(1003, some (.box 37 (.d (e_api_Prefix a1)))), (3005, some (we_api_Entry_39_5 m26))] hB) (mp [] _ _ hB))⟩
      · refine AWp.cond rfl (fun hg28 => ?_) (fun hg28 => ?_)
        · replace h := ite_t hg28 h
          obtain ⟨hc29, h⟩ := chk_some h
          refine rg (c (mv hN (q 5)) rfl (c (lb hN 39 _ _ tyS39 (At.here _) (q 7)) rfl (c (OpJ.buildSlice Try.underlying23 tyS39 tyZD39 (by rfl) (by decide) (by decide) (Opds.cons (q 19) Opds.nil) (by kernel_rfl) (es := ([(e_api_Entry x22)] : List D)) (by rfl) (by rfl) (by kernel_rfl) (by simp) (L rfl)) rfl (cg (OpJ.append hB Try.underlying23 tyE39 (nm := 1021) (by decide) (es := s1.2.map e_api_Entry) (ys := ([x22] : List api_Entry).map e_api_Entry) (es' := (s1.2 ++ ([x22] : List api_Entry)).map e_api_Entry) (len := (s1.2 ++ ([x22] : List api_Entry)).length) (by simp) (by simp) (map_sz (f := e_api_Entry) (fun _ => rfl)) (by rw [List.length_map]; exact lim_mulN hc29 (by decide)) (by rw [List.length_map]; exact lim_leN hc29) (L rfl) (by simp) (q 18) (q 20)) rfl (c (OpJ.assign (L rfl) (q 21)) rfl cn))))) ?_
          exact hjj27 _ h _ _ (Mat.trans (mp [] [(3, (.ptr 1003 0 [])), (5, (.sref 1021 5 0 ((s1.2 ++ ([x22] : List api_Entry)).length))), (8, (qe_api_Entry_5 a0)), (9, (i6 (a0.length : Int))), (10, (i6 s1.1))] [(1003, some (.box 37 (.d (e_api_Prefix a1)))), (1021, some (we_api_Entry_39_5 (s1.2 ++ ([x22] : List api_Entry))))] hB) (mp [(3005, 1021)] _ _ hB))
        · replace h := ite_f hg28 h
          refine AWp.skip ?_
          exact hjj27 _ h _ _ (mp [] _ _ hB)
    · replace h := ite_f hg21 h
      refine AWp.exit ?_
      refine seqQ_e ?_
      obtain rfl := Option.some.inj h
      exact ⟨(fun hc => by cases hc), rfl, (mp [] _ _ hB)⟩
  · obtain ⟨rfl, hmat⟩ := hR
    refine blkQ_hit ?_
    refine seqQ_n ?_
    refine AWp.ghost hmat ?_
    refine sr (c (mv hN (q 5)) rfl (c (OpJ.assign (L rfl) (q 23)) rfl cn)) ?_
    refine gh [(4, _)] [(3005, some _)] hB rfl rfl (by rfl) ?_
    refine AWp.ret ?_
    obtain rfl := Option.some.inj h
    exact ⟨.inl rfl, _, _, (Mat.trans (Mat.freezeP (n := 3005) (e := 39) (sz := 5) (es := p20.map e_api_Entry) (Ts := [(4, (qe_api_Entry_5 p20))]) (Bs := []) (by rfl) (TwT.cons (x := (.sref 3005 5 0 p20.length)) (by rfl) (FrzL.all (by first | rfl | (simp; done) | (simp; omega))) TwT.nil) TwB.nil) (mp [] [(4, (qe_api_Entry_5 p20))] [] hB)), [(qe_api_Entry_5 p20)], (Res.tmp (by rfl) (by rfl) Res.nil), rfl, by rfl, by rfl, by rfl⟩

noncomputable def exchangepointref03_Lookup_L0 (a0 : (List api_Entry)) (a1 : api_Addr) (s1 : Bool × Int × api_Entry) : Option (((Bool × api_Entry)) ⊕ (Bool × Int × api_Entry)) :=
  (if (decide (s1.2.1 < (a0.length : Int))) = true then
  (idx a0 s1.2.1).bind fun x30 =>
  jn (fun m34 : Bool =>
  jn (fun m37 : Bool × api_Entry =>
  some (.inr (m37.1, (w64 (s1.2.1 + (1 : Int))), m37.2))) (fun j38 =>
  (if m34 = true then
  j38 (true, x30)
  else
  j38 (s1.1, s1.2.2)))) (fun j35 =>
  (exchangepointref02_Contains x30.fPrefix a1).bind fun r40 =>
  (if r40 = true then
  j35 ((!s1.1) || (decide (s1.2.2.fPrefix.fLen < x30.fPrefix.fLen)))
  else
  j35 false))
  else
  some (.inl (s1.1, s1.2.2)))
noncomputable def exchangepointref03_Lookup (a0 : (List api_Entry)) (a1 : api_Addr) : Option (api_Entry × Bool) :=
  (loop (exchangepointref03_Lookup_L0 a0 a1) (false, (0 : Int), (api_Entry.mk (api_Prefix.mk (api_Addr.mk false (0 : Int) (0 : Int)) (0 : Int)) (0 : Int)))).bind fun p28 =>
  some (p28.2, p28.1)
set_option maxHeartbeats 4000000 in
set_option maxRecDepth 100000 in
theorem exchangepointref03_Lookup_ac (a0 : (List api_Entry)) (a1 : api_Addr) (r : api_Entry × Bool) (h : exchangepointref03_Lookup a0 a1 = some r) : AC Try.prog 32 [(.d (.list 5 (a0.map e_api_Entry))), (.d (e_api_Addr a1))] [] (.tup [(.d (e_api_Entry r.1)), (.d (.bool r.2))]) [] := by
  refine AC.of_code2 Try.func32 rfl rfl (Nat.le_of_ble_eq_true (by rfl)) fun B hB hN => ?_
  have L {d : Nat} (h : Nat.blt d Try.f32.ntmps = true) : d < B.N := ltN hN h
  delta exchangepointref03_Lookup at h
  refine sr (cg (OpJ.box hB (nm := 1003) (by decide) (by simp) rfl (L rfl) (q 1)) rfl (cg (OpJ.alloc hB tyZ39 (nm := 1004) (by decide) (L rfl)) rfl (c (OpJ.assign (L rfl) (Opd.bool false)) rfl cn))) ?_
  refine gh [(0, _), (3, _), (4, _)] [(1003, some _), (1004, some _)] hB rfl rfl (by rfl) ?_
  refine sr (c (OpJ.coe (v := (.st [(.d (.st [(.st [(.bool false), (.int .u64 0), (.int .u64 0)]), (.int .i64 0)])), (i6 0)])) (y := (.st [(.st [(.st [(.bool false), (.int .u64 0), (.int .u64 0)]), (.int .i64 0)]), (.int .i64 0)])) (Co.st (CoL.cons (Co.d _) (CoL.cons (Co.d _) CoL.nil))) rfl (OpJ.build (places := [(0, 4), (4, 1)]) ⟨Try.underlying39, fun w => by kernel_rfl⟩ tyZS39 Opds.nil (by kernel_rfl) (r := (.st [(.d (.st [(.st [(.bool false), (.int .u64 0), (.int .u64 0)]), (.int .i64 0)])), (i6 0)])) (by rfl) (L rfl))) rfl (cg (OpJ.alloc hB tyZ39 (nm := 1006) (by decide) (L rfl)) rfl (cg (OpJ.storeB tyS39 (SetAt.here _ _) (by rfl) (by rfl) (by simp) rfl (q 6) (q 10)) rfl (c (OpJ.assign (L rfl) (Opd.bool false)) rfl cn)))) ?_
  refine gh [(0, _), (3, _), (4, _), (6, _), (7, _)] [(1003, some _), (1004, some _), (1006, some _)] hB rfl rfl (by rfl) ?_
  refine AWp.seq ?_
  refine sr (c (mv hN (q 0)) rfl (c (OpJ.val (v' := (i6 (a0.length : Int))) (by simp) (OpJ.lenD Try.underlying23 (L rfl) (q 11))) rfl (c (mv hN (Opd.int .i64 (0))) rfl cn))) ?_
  refine gh [(3, _), (4, _), (6, _), (7, _), (11, _), (12, _), (13, _)] [(1003, some _), (1004, some _), (1006, some _)] hB rfl rfl (by rfl) ?_
  refine AWp.block ?_
  obtain ⟨p28, hx43, h⟩ := bindS h
  refine lg (exchangepointref03_Lookup_L0 a0 a1) (fun s1 : Bool × Int × api_Entry => ([(3, (.ptr 1003 0 [])), (4, (.ptr 1004 0 [])), (6, (.ptr 1006 0 [])), (7, (bo s1.1)), (11, (qe_api_Entry_5 a0)), (12, (i6 (a0.length : Int))), (13, (i6 s1.2.1))] : EL)) (fun s1 : Bool × Int × api_Entry => ([(1003, some (.box 33 (.d (e_api_Addr a1)))), (1004, some (.box 39 (.d (.st [(.st [(.st [(.bool false), (.int .u64 0), (.int .u64 0)]), (.int .i64 0)]), (.int .i64 0)])))), (1006, some (.box 39 (.d (e_api_Entry s1.2.2))))] : OL)) (fun (p28 : (Bool × api_Entry)) e E' O' => e = .exit 0 ∧ Mat B E' O' ([(4, (.ptr 1004 0 [])), (6, (.ptr 1006 0 [])), (7, (bo p28.1))] : EL) ([(1004, some (.box 39 (.d (.st [(.st [(.st [(.bool false), (.int .u64 0), (.int .u64 0)]), (.int .i64 0)]), (.int .i64 0)])))), (1006, some (.box 39 (.d (e_api_Entry p28.2))))] : OL)) hx43 (mp [] _ _ hB) (fun s1 y h => ?_) (fun e E' O' hR => ?_)
  · unfold exchangepointref03_Lookup_L0 at h
    refine sr (c (OpJ.lss (L rfl) (q 13) (q 12)) rfl cn) ?_
    refine gh [(3, _), (4, _), (6, _), (7, _), (11, _), (12, _), (13, _), (14, _)] [(1003, some _), (1004, some _), (1006, some _)] hB rfl rfl (by rfl) ?_
    refine AWp.seq ?_
    refine AWp.cond rfl (fun hg29 => ?_) (fun hg29 => ?_)
    · replace h := ite_t hg29 h
      refine AWp.skip ?_
      refine seqQ_n ?_
      refine AWp.seq ?_
      refine AWp.block ?_
      obtain ⟨x30, hx30, h⟩ := bindS h
      refine sr (c (OpJ.indexD Try.underlying23 tyS39 (idx_some hx30).1 (get_map e_api_Entry (idx_some hx30).2) (L rfl) (q 11) (q 13)) rfl (c (OpJ.loadD tyS39 (by rfl) (by rfl) (L rfl) (q 15)) rfl (cg (OpJ.alloc hB tyZ39 (nm := 1009) (by decide) (L rfl)) rfl (cg (OpJ.storeB tyS39 (SetAt.here _ _) (by rfl) (by rfl) (by simp) rfl (q 9) (q 16)) rfl cn)))) ?_
      refine gh [(3, _), (4, _), (6, _), (7, _), (9, _), (11, _), (12, _), (13, _)] [(1003, some _), (1004, some _), (1006, some _), (1009, some _)] hB rfl rfl (by rfl) ?_
      refine AWp.seq ?_
      refine AWp.cut h (fun m34 : Bool => ([(3, (.ptr 1003 0 [])), (4, (.ptr 1004 0 [])), (6, (.ptr 1006 0 [])), (7, (bo s1.1)), (9, (.ptr 1009 0 [])), (11, (qe_api_Entry_5 a0)), (12, (i6 (a0.length : Int))), (13, (i6 s1.2.1)), (33, (bo m34))] : EL)) (fun m34 : Bool => ([(1003, some (.box 33 (.d (e_api_Addr a1)))), (1004, some (.box 39 (.d (.st [(.st [(.st [(.bool false), (.int .u64 0), (.int .u64 0)]), (.int .i64 0)]), (.int .i64 0)])))), (1006, some (.box 39 (.d (e_api_Entry s1.2.2)))), (1009, some (.box 39 (.d (e_api_Entry x30))))] : OL)) (fun m34 h E' O' hmat => ?_) (fun j35 hjj35 h => ?_)
      · refine seqQ_n ?_
        refine AWp.ghost hmat ?_
        refine AWp.cut h (fun m37 : Bool × api_Entry => ([(3, (.ptr 1003 0 [])), (4, (.ptr 1004 0 [])), (6, (.ptr 1006 0 [])), (7, (bo m37.1)), (11, (qe_api_Entry_5 a0)), (12, (i6 (a0.length : Int))), (13, (i6 s1.2.1))] : EL)) (fun m37 : Bool × api_Entry => ([(1003, some (.box 33 (.d (e_api_Addr a1)))), (1004, some (.box 39 (.d (.st [(.st [(.st [(.bool false), (.int .u64 0), (.int .u64 0)]), (.int .i64 0)]), (.int .i64 0)])))), (1006, some (.box 39 (.d (e_api_Entry m37.2))))] : OL)) (fun m37 h E' O' hmat => ?_) (fun j38 hjj38 h => ?_)
        · refine blkQ_n ?_
          refine seqQ_n ?_
          refine AWp.ghost hmat ?_
          refine rg (c (add6 (L rfl) (q 13) (Opd.int .i64 (1))) rfl (c (mv hN (q 35)) rfl cn)) ?_
          obtain rfl := Option.some.inj h
          exact ⟨rfl, (Mat.trans (mp [] [(3, (.ptr 1003 0 [])), (4, (.ptr 1004 0 [])), (6, (.ptr 1006 0 [])), (7, (bo m37.1)), (11, (qe_api_Entry_5 a0)), (12, (i6 (a0.length : Int))), (13, (i6 (w64 (s1.2.1 + (1 : Int)))))] [(1003, some (.box 33 (.d (e_api_Addr a1)))), (1004, some (.box 39 (.d (.st [(.st [(.st [(.bool false), (.int .u64 0), (.int .u64 0)]), (.int .i64 0)]), (.int .i64 0)])))), (1006, some (.box 39 (.d (e_api_Entry m37.2))))] hB) (mp [] _ _ hB))⟩
        · refine AWp.cond rfl (fun hg39 => ?_) (fun hg39 => ?_)
          · replace h := ite_t hg39 h
            refine rg (c (lb hN 39 _ _ tyS39 (At.here _) (q 9)) rfl (cg (OpJ.storeB tyS39 (SetAt.here _ _) (by rfl) (by rfl) (by simp) rfl (q 6) (q 34)) rfl (c (OpJ.assign (L rfl) (Opd.bool true)) rfl cn))) ?_
            exact hjj38 _ h _ _ (Mat.trans (mp [] [(3, (.ptr 1003 0 [])), (4, (.ptr 1004 0 [])), (6, (.ptr 1006 0 [])), (7, (bo true)), (11, (qe_api_Entry_5 a0)), (12, (i6 (a0.length : Int))), (13, (i6 s1.2.1))] [(1003, some (.box 33 (.d (e_api_Addr a1)))), (1004, some (.box 39 (.d (.st [(.st [(.st [(.bool false), (.int .u64 0), (.int .u64 0)]), (.int .i64 0)]), (.int .i64 0)])))), (1006, some (.box 39 (.d (e_api_Entry x30))))] hB) (mp [] _ _ hB))
          · replace h := ite_f hg39 h
            refine AWp.skip ?_
            exact hjj38 _ h _ _ (mp [] _ _ hB)
      · obtain ⟨r40, hr40, h⟩ := bindS h
        rcases Bool.eq_false_or_eq_true r40 with hg41 | hg41
        · replace h := ite_t hg41 h
          refine rg (c (ov (.ptr 1009 0 [0]) (fp hN Try.underlying39 0 tyS37 _ (q 9))) rfl (c (lb hN 39 _ _ tyS37 (ad _) (q 17)) rfl (c (lb hN 33 _ _ tyS33 (At.here _) (q 3)) rfl (cg (OpJ.callFn hB fnOk35 (exchangepointref02_Contains_ac x30.fPrefix a1 r40 hr40) [] (by kernel_rfl) (L rfl) (by kernel_rfl) (OpdL.cons (q 18) (OpdL.cons (q 19) OpdL.nil))) rfl (c (OpJ.val (v' := .d (.bool true)) (by rw [hg41]) (mv hN (q 20))) rfl (c (OpJ.guarded (g := 21) (by rfl) (mv hN (q 7))) rfl (c (OpJ.guarded (g := 21) (by rfl) (OpJ.not (L rfl) (q 22))) rfl (c (OpJ.guarded (g := 21) (by rfl) (mv hN (q 23))) rfl (c (oq hN 24 (ov (.ptr 1009 0 [0]) (fp hN Try.underlying39 0 tyS37 _ (q 9))) (OptL.keep (by rfl) OptL.nil) (GuardV.plain _)) rfl (c (oq hN 24 (ov (.ptr 1009 3 [0, 1]) (fp hN Try.underlying37 3 tyS3 _ (q 25))) (OptL.opt OptL.nil) (GuardV.plain _)) rfl (c (oq hN 24 (lb hN 39 _ _ tyS3 (At.dst1 (by rfl) (by rfl) (ad _) (by first | rfl | omega)) (q 26)) (OptL.opt OptL.nil) (GuardV.plain _)) rfl (c (oq hN 24 (ov (.ptr 1006 0 [0]) (fp hN Try.underlying39 0 tyS37 _ (q 6))) (OptL.keep (by rfl) OptL.nil) (GuardV.plain _)) rfl (c (oq hN 24 (ov (.ptr 1006 3 [0, 1]) (fp hN Try.underlying37 3 tyS3 _ (q 28))) (OptL.opt OptL.nil) (GuardV.plain _)) rfl (c (oq hN 24 (lb hN 39 _ _ tyS3 (At.dst1 (by rfl) (by rfl) (ad _) (by first | rfl | omega)) (q 29)) (OptL.opt OptL.nil) (GuardV.plain _)) rfl (c (oq hN 24 (OpJ.gtr (L rfl) (q 27) (q 30)) (OptL.opt (OptL.opt OptL.nil)) (GuardV.plain _)) rfl (c (OpJ.guarded (g := 21) (by rfl) (OpJ.pickOr rfl (L rfl) (q 24) (q 31))) rfl (c (OpJ.pickT (L rfl) (q 21) (q 32)) rfl cn))))))))))))))))) ?_
          exact hjj35 _ h _ _ (Mat.trans (mp [] [(3, (.ptr 1003 0 [])), (4, (.ptr 1004 0 [])), (6, (.ptr 1006 0 [])), (7, (bo s1.1)), (9, (.ptr 1009 0 [])), (11, (qe_api_Entry_5 a0)), (12, (i6 (a0.length : Int))), (13, (i6 s1.2.1)), (33, (bo ((!s1.1) || (decide (s1.2.2.fPrefix.fLen < x30.fPrefix.fLen)))))] [(1003, some (.box 33 (.d (e_api_Addr a1)))), (1004, some (.box 39 (.d (.st [(.st [(.st [(.bool false), (.int .u64 0), (.int .u64 0)]), (.int .i64 0)]), (.int .i64 0)])))), (1006, some (.box 39 (.d (e_api_Entry s1.2.2)))), (1009, some (.box 39 (.d (e_api_Entry x30))))] hB) (mp [] _ _ hB))
        · replace h := ite_f hg41 h
          refine rg (c (ov (.ptr 1009 0 [0]) (fp hN Try.underlying39 0 tyS37 _ (q 9))) rfl (c (lb hN 39 _ _ tyS37 (ad _) (q 17)) rfl (c (lb hN 33 _ _ tyS33 (At.here _) (q 3)) rfl (cg (OpJ.callFn hB fnOk35 (exchangepointref02_Contains_ac x30.fPrefix a1 r40 hr40) [] (by kernel_rfl) (L rfl) (by kernel_rfl) (OpdL.cons (q 18) (OpdL.cons (q 19) OpdL.nil))) rfl (c (OpJ.val (v' := .d (.bool false)) (by rw [hg41]) (mv hN (q 20))) rfl (cg (OpJ.skipU (g := 21) (L rfl) (by rfl)) rfl (cg (OpJ.skipU (g := 21) (L rfl) (by rfl)) rfl (cg (OpJ.skipU (g := 21) (L rfl) (by rfl)) rfl (cg (OpJ.skipV (g := 24) (L rfl) (by rfl)) rfl (cg (OpJ.skipV (g := 24) (L rfl) (by rfl)) rfl (cg (OpJ.skipV (g := 24) (L rfl) (by rfl)) rfl (cg (OpJ.skipV (g := 24) (L rfl) (by rfl)) rfl (cg (OpJ.skipV (g := 24) (L rfl) (by rfl)) rfl (cg (OpJ.skipV (g := 24) (L rfl) (by rfl)) rfl (cg (OpJ.skipV (g := 24) (L rfl) (by rfl)) rfl (cg (OpJ.skipU (g := 21) (L rfl) (by rfl)) rfl (c (OpJ.pickF (L rfl) (q 21) (Opd.bool false)) rfl cn))))))))))))))))) ?_
          exact hjj35 _ h _ _ (Mat.trans (mp [] [(3, (.ptr 1003 0 [])), (4, (.ptr 1004 0 [])), (6, (.ptr 1006 0 [])), (7, (bo s1.1)), (9, (.ptr 1009 0 [])), (11, (qe_api_Entry_5 a0)), (12, (i6 (a0.length : Int))), (13, (i6 s1.2.1)), (33, (bo false))] [(1003, some (.box 33 (.d (e_api_Addr a1)))), (1004, some (.box 39 (.d (.st [(.st [(.st [(.bool false), (.int .u64 0), (.int .u64 0)]), (.int .i64 0)]), (.int .i64 0)])))), (1006, some (.box 39 (.d (e_api_Entry s1.2.2)))), (1009, some (.box 39 (.d (e_api_Entry x30))))] hB) (mp [] _ _ hB))
    · replace h := ite_f hg29 h
      refine AWp.exit ?_
      refine seqQ_e ?_
      obtain rfl := Option.some.inj h
      exact ⟨(fun hc => by cases hc), rfl, (mp [] _ _ hB)⟩
  · obtain ⟨rfl, hmat⟩ := hR
    refine blkQ_hit ?_
    refine seqQ_n ?_
    refine AWp.ghost hmat ?_
    refine sr (c (lb hN 39 _ _ tyS39 (At.here _) (q 6)) rfl (c (mv hN (q 7)) rfl (cg (OpJ.storeB tyS39 (SetAt.here _ _) (by rfl) (by rfl) (by simp) rfl (q 4) (q 36)) rfl (c (OpJ.assign (L rfl) (q 37)) rfl cn)))) ?_
    refine gh [(4, _), (5, _)] [(1004, some _)] hB rfl rfl (by rfl) ?_
    refine AWp.ret ?_
    obtain rfl := Option.some.inj h
    exact ⟨.inl rfl, _, _, (kp [(4, _), (5, _)] [(1004, some _)] hB rfl rfl (by rfl)), [(.d (e_api_Entry p28.2)), (bo p28.1)], (Res.cell (c := (.d (e_api_Entry p28.2))) (by rfl) (by rfl) tyS39 (by rfl) (by rfl) (by rfl) (Res.tmp (by rfl) (by rfl) Res.nil)), rfl, by rfl, by rfl, by rfl⟩

noncomputable def exchangepointlaw03_TableFinds_L0 (r5 : (List api_Entry) × exchangepointmake_Deck) (r7 : api_Addr × exchangepointmake_Deck) (m15 : api_Prefix) (r52 : api_Addr) (s53 : Int) : Option (((Unit) ⊕ (Unit)) ⊕ (Int)) :=
  (if (decide (s53 < (([r7.1, m15.fAddr, r52] : List api_Addr).length : Int))) = true then
  (idx ([r7.1, m15.fAddr, r52] : List api_Addr) s53).bind fun x67 =>
  (table_Lookup r5.1 x67).bind fun r68 =>
  (exchangepointref03_Lookup r5.1 x67).bind fun r69 =>
  (if ((!((((r68.1.fPrefix.fAddr.fV6 == r69.1.fPrefix.fAddr.fV6) && ((r68.1.fPrefix.fAddr.fHi == r69.1.fPrefix.fAddr.fHi) && ((r68.1.fPrefix.fAddr.fLo == r69.1.fPrefix.fAddr.fLo) && true))) && ((r68.1.fPrefix.fLen == r69.1.fPrefix.fLen) && true)) && ((r68.1.fValue == r69.1.fValue) && true))) || (r68.2 != r69.2)) = true then
  some (.inl (.inl ()))
  else
  some (.inr (w64 (s53 + (1 : Int)))))
  else
  some (.inl (.inr ())))
noncomputable def exchangepointlaw03_TableFinds (a0 : (List api_Entry)) (a1 : (List Int)) : Option (Bool) :=
  (exchangepointlaw03_few a0).bind fun r1 =>
  (if (!r1) = true then
  (exchangepointlaw03_awake).bind fun r3 =>
  some r3
  else
  (exchangepointmake_New a1).bind fun r4 =>
  (exchangepointmake_Deck_Table r4).bind fun r5 =>
  (exchangepointmake_Deck_Prefix r5.2).bind fun r6 =>
  (exchangepointmake_Deck_Addr r6.2).bind fun r7 =>
  jn (fun m10 : Bool × exchangepointmake_Deck =>
  jn (fun m15 : api_Prefix =>
  jn (fun m36 : Bool =>
  (if m36 = true then
  some false
  else
  (table_Get r5.1 m15).bind fun r39 =>
  (exchangepointref03_Get r5.1 m15).bind fun r40 =>
  jn (fun m49 : Bool =>
  (if m49 = true then
  some false
  else
  (exchangepointref02_Last m15).bind fun r52 =>
  (loop (exchangepointlaw03_TableFinds_L0 r5 r7 m15 r52) (0 : Int)).bind fun x71 => match x71 with
  | (.inl _) =>
    some false
  | (.inr _) =>
    (exchangepointlaw03_awake).bind fun r73 =>
    some r73)) (fun j50 =>
  (if ((r39.1 != r40.1) || (r39.2 != r40.2)) = true then
  j50 true
  else
  (table_Covering r5.1 m15).bind fun r75 =>
  (exchangepointref03_Covering r5.1 m15).bind fun r76 =>
  (exchangepointref03_Same r75 r76).bind fun r77 =>
  (if (!r77) = true then
  j50 true
  else
  (table_Covered r5.1 m15).bind fun r79 =>
  (exchangepointref03_Covered r5.1 m15).bind fun r80 =>
  (exchangepointref03_Same r79 r80).bind fun r81 =>
  j50 (!r81)))))) (fun j37 =>
  (table_Valid a0).bind fun r82 =>
  (exchangepointref03_Valid a0).bind fun r83 =>
  (if (r82 != r83) = true then
  j37 true
  else
  (table_Valid r5.1).bind fun r85 =>
  (if (!r85) = true then
  j37 true
  else
  chk (decide (r5.1.length ≤ LIM)) <|
  chk (decide ((r5.1 ++ r5.1).length ≤ LIM)) <|
  (table_Valid (r5.1 ++ r5.1)).bind fun r89 =>
  j37 (r89 != ((r5.1.length : Int) == (0 : Int))))))) (fun j16 =>
  (if m10.1 = true then
  (exchangepointmake_Deck_Next m10.2 (r5.1.length : Int)).bind fun r91 =>
  (idx r5.1 r91.1).bind fun x92 =>
  j16 x92.fPrefix
  else
  j16 r6.1))) (fun j11 =>
  (if (decide ((0 : Int) < (r5.1.length : Int))) = true then
  (exchangepointmake_Deck_Next r7.2 (2 : Int)).bind fun r94 =>
  j11 ((r94.1 == (0 : Int)), r94.2)
  else
  j11 (false, r7.2))))
set_option maxHeartbeats 4000000 in
set_option maxRecDepth 100000 in
theorem exchangepointlaw03_TableFinds_ac (a0 : (List api_Entry)) (a1 : (List Int)) (r : Bool) (h : exchangepointlaw03_TableFinds a0 a1 = some r) : AC Try.prog 6 [(.d (.list 5 (a0.map e_api_Entry))), (.d (.list 1 (a1.map (eI .i64))))] [] (.d (.bool r)) [] := by
  refine AC.of_code2 Try.func6 rfl rfl (Nat.le_of_ble_eq_true (by rfl)) fun B hB hN => ?_
  have L {d : Nat} (h : Nat.blt d Try.f6.ntmps = true) : d < B.N := ltN hN h
  delta exchangepointlaw03_TableFinds at h
  refine sr (c (OpJ.assign (L rfl) (Opd.bool false)) rfl cn) ?_
  refine gh [(0, _), (1, _)] [] hB rfl rfl (by rfl) ?_
  refine AWp.seq ?_
  obtain ⟨r1, hr1, h⟩ := bindS h
  refine sr (c (mv hN (q 0)) rfl (cg (OpJ.callFn hB fnOk25 (exchangepointlaw03_few_ac a0 r1 hr1) [] (by kernel_rfl) (L rfl) (by kernel_rfl) (OpdL.cons (q 19) OpdL.nil)) rfl (c (OpJ.not (L rfl) (q 20)) rfl cn))) ?_
  refine gh [(0, _), (1, _), (21, _)] [] hB rfl rfl (by rfl) ?_
  refine AWp.cond rfl (fun hg2 => ?_) (fun hg2 => ?_)
  · replace h := ite_t hg2 h
    obtain ⟨r3, hr3, h⟩ := bindS h
    refine sr (cg (OpJ.callFn hB fnOk15 (exchangepointlaw03_awake_ac r3 hr3) [] (by kernel_rfl) (L rfl) (by kernel_rfl) OpdL.nil) rfl (c (OpJ.assign (L rfl) (q 22)) rfl cn)) ?_
    refine gh [(4, _)] [] hB rfl rfl (by rfl) ?_
    refine AWp.ret ?_
    refine seqQ_r ?_
    obtain rfl := Option.some.inj h
    exact ⟨.inl rfl, _, _, (kp [(4, _)] [] hB rfl rfl (by rfl)), [(bo r3)], (Res.tmp (by rfl) (by rfl) Res.nil), rfl, by rfl, by rfl, by rfl⟩
  · replace h := ite_f hg2 h
    refine AWp.skip ?_
    refine seqQ_n ?_
    refine AWp.seq ?_
    obtain ⟨r4, hr4, h⟩ := bindS h
    refine AWp.region (oc (mv hN (ot 1 (qI_1 a1)))
      (oc (OpJ.callFn hB fnOk10 (exchangepointmake_New_ac a1 r4 hr4) [(1005, 100200)] (by kernel_rfl) (L rfl) (by kernel_rfl) (OpdL.cons (ot 23 (qI_1 a1)) OpdL.nil))
      (oc (OpJ.assign (L rfl) (ot 24 (.ptr 100200 0 [])))
      (OpJs.nil)))) (by rfl) (by rfl) ?_
    refine seqQ_n ?_
    refine AWp.ghost (mp [] [(0, (qe_api_Entry_5 a0)), (5, (.ptr 100200 0 []))] [(100200, some (.box 65 (.d (e_exchangepointmake_Deck r4))))] hB) ?_
    refine AWp.seq ?_
    obtain ⟨r5, hr5, h⟩ := bindS h
    refine AWp.region (oc (mv hN (ot 5 (.ptr 100200 0 [])))
      (oc (OpJ.callFn hB fnOk11 (exchangepointmake_Deck_Table_ac r4 r5 hr5) [(0, 100200)] (by kernel_rfl) (L rfl) (by kernel_rfl) (OpdL.cons (ot 25 (.ptr 100200 0 [])) OpdL.nil))
      (oc (OpJ.assign (L rfl) (ot 26 (qe_api_Entry_5 r5.1)))
      (OpJs.nil)))) (by rfl) (by rfl) ?_
    refine seqQ_n ?_
    refine AWp.ghost (mp [] [(0, (qe_api_Entry_5 a0)), (5, (.ptr 100200 0 [])), (6, (qe_api_Entry_5 r5.1))] [(100200, some (.box 65 (.d (e_exchangepointmake_Deck r5.2))))] hB) ?_
    refine AWp.seq ?_
    obtain ⟨r6, hr6, h⟩ := bindS h
    obtain ⟨r7, hr7, h⟩ := bindS h
    refine AWp.region (oc (mv hN (ot 5 (.ptr 100200 0 [])))
      (oc (OpJ.callFn hB fnOk26 (exchangepointmake_Deck_Prefix_ac r5.2 r6 hr6) [(0, 100200)] (by kernel_rfl) (L rfl) (by kernel_rfl) (OpdL.cons (ot 27 (.ptr 100200 0 [])) OpdL.nil))
      (oc (mv hN (ot 5 (.ptr 100200 0 [])))
      (oc (OpJ.callFn hB fnOk16 (exchangepointmake_Deck_Addr_ac r6.2 r7 hr7) [(0, 100200)] (by kernel_rfl) (L rfl) (by kernel_rfl) (OpdL.cons (ot 29 (.ptr 100200 0 [])) OpdL.nil))
      (oc (OpJ.alloc hB tyZ37 (nm := 1007) (by decide) (L rfl))
      (oc (OpJ.alloc hB tyZ33 (nm := 1008) (by decide) (L rfl))
      (oc (OpJ.storeB (bt := 37) (c := (.d (.st [(.st [(.bool false), (.int .u64 0), (.int .u64 0)]), (.int .i64 0)]))) (v := (.d (e_api_Prefix r6.1))) (c' := (.d (e_api_Prefix r6.1))) tyS37 (SetAt.here _ _) (by rfl) (by rfl) (by simp) rfl (ot 7 (.ptr 1007 0 [])) (ot 28 (.d (e_api_Prefix r6.1))))
      (oc (OpJ.storeB (bt := 33) (c := (.d (.st [(.bool false), (.int .u64 0), (.int .u64 0)]))) (v := (.d (e_api_Addr r7.1))) (c' := (.d (e_api_Addr r7.1))) tyS33 (SetAt.here _ _) (by rfl) (by rfl) (by simp) rfl (ot 8 (.ptr 1008 0 [])) (ot 30 (.d (e_api_Addr r7.1))))
      (OpJs.nil))))))))) (by rfl) (by rfl) ?_
    refine seqQ_n ?_
    refine AWp.ghost (mp [] [(0, (qe_api_Entry_5 a0)), (5, (.ptr 100200 0 [])), (6, (qe_api_Entry_5 r5.1)), (7, (.ptr 1007 0 [])), (8, (.ptr 1008 0 []))] [(1007, some (.box 37 (.d (e_api_Prefix r6.1)))), (1008, some (.box 33 (.d (e_api_Addr r7.1)))), (100200, some (.box 65 (.d (e_exchangepointmake_Deck r7.2))))] hB) ?_
    refine AWp.seq ?_
    refine AWp.seq ?_
    refine AWp.cut h (fun m10 : Bool × exchangepointmake_Deck => ([(0, (qe_api_Entry_5 a0)), (5, (.ptr 100200 0 [])), (6, (qe_api_Entry_5 r5.1)), (7, (.ptr 1007 0 [])), (8, (.ptr 1008 0 [])), (38, (bo m10.1))] : EL)) (fun m10 : Bool × exchangepointmake_Deck => ([(1007, some (.box 37 (.d (e_api_Prefix r6.1)))), (1008, some (.box 33 (.d (e_api_Addr r7.1)))), (100200, some (.box 65 (.d (e_exchangepointmake_Deck m10.2))))] : OL)) (fun m10 h E' O' hmat => ?_) (fun j11 hjj11 h => ?_)
    · refine seqQ_n ?_
      refine AWp.ghost hmat ?_
      refine AWp.cut h (fun m15 : api_Prefix => ([(0, (qe_api_Entry_5 a0)), (6, (qe_api_Entry_5 r5.1)), (7, (.ptr 1007 0 [])), (8, (.ptr 1008 0 []))] : EL)) (fun m15 : api_Prefix => ([(1007, some (.box 37 (.d (e_api_Prefix m15)))), (1008, some (.box 33 (.d (e_api_Addr r7.1))))] : OL)) (fun m15 h E' O' hmat => ?_) (fun j16 hjj16 h => ?_)
      · refine seqQ_n ?_
        refine AWp.ghost hmat ?_
        refine AWp.seq ?_
        refine AWp.seq ?_
        refine AWp.cut h (fun m36 : Bool => ([(6, (qe_api_Entry_5 r5.1)), (7, (.ptr 1007 0 [])), (8, (.ptr 1008 0 [])), (67, (bo m36))] : EL)) (fun m36 : Bool => ([(1007, some (.box 37 (.d (e_api_Prefix m15)))), (1008, some (.box 33 (.d (e_api_Addr r7.1))))] : OL)) (fun m36 h E' O' hmat => ?_) (fun j37 hjj37 h => ?_)
        · refine seqQ_n ?_
          refine AWp.ghost hmat ?_
          refine AWp.cond rfl (fun hg38 => ?_) (fun hg38 => ?_)
          · replace h := ite_t hg38 h
            refine sr (c (OpJ.assign (L rfl) (Opd.bool false)) rfl cn) ?_
            refine gh [(4, _)] [] hB rfl rfl (by rfl) ?_
            refine AWp.ret ?_
            refine seqQ_r ?_
            obtain rfl := Option.some.inj h
            exact ⟨.inl rfl, _, _, (kp [(4, _)] [] hB rfl rfl (by rfl)), [(bo false)], (Res.tmp (by rfl) (by rfl) Res.nil), rfl, by rfl, by rfl, by rfl⟩
          · replace h := ite_f hg38 h
            refine AWp.skip ?_
            refine seqQ_n ?_
            obtain ⟨r39, hr39, h⟩ := bindS h
            refine sr (c (mv hN (q 6)) rfl (c (lb hN 37 _ _ tyS37 (At.here _) (q 7)) rfl (cg (OpJ.callFn hB fnOk28 (table_Get_ac r5.1 m15 r39 hr39) [] (by kernel_rfl) (L rfl) (by kernel_rfl) (OpdL.cons (q 69) (OpdL.cons (q 70) OpdL.nil))) rfl (c (mv hN (q 71)) rfl (c (OpJ.extract (by rfl) rfl (L rfl) (q 68)) rfl (c (OpJ.extract (by rfl) rfl (L rfl) (q 68)) rfl (c (OpJ.assign (L rfl) (q 72)) rfl (c (OpJ.assign (L rfl) (q 73)) rfl cn)))))))) ?_
            refine gh [(6, _), (7, _), (8, _), (9, _), (10, _)] [(1007, some _), (1008, some _)] hB rfl rfl (by rfl) ?_
            obtain ⟨r40, hr40, h⟩ := bindS h
            refine sr (c (mv hN (q 6)) rfl (c (lb hN 37 _ _ tyS37 (At.here _) (q 7)) rfl (cg (OpJ.callFn hB fnOk29 (exchangepointref03_Get_ac r5.1 m15 r40 hr40) [] (by kernel_rfl) (L rfl) (by kernel_rfl) (OpdL.cons (q 75) (OpdL.cons (q 76) OpdL.nil))) rfl (c (mv hN (q 77)) rfl (c (OpJ.extract (by rfl) rfl (L rfl) (q 74)) rfl (c (OpJ.extract (by rfl) rfl (L rfl) (q 74)) rfl (c (OpJ.assign (L rfl) (q 78)) rfl (c (OpJ.assign (L rfl) (q 79)) rfl cn)))))))) ?_
            refine gh [(6, _), (7, _), (8, _), (9, _), (10, _), (11, _), (12, _)] [(1007, some _), (1008, some _)] hB rfl rfl (by rfl) ?_
            refine AWp.seq ?_
            refine AWp.seq ?_
            refine AWp.cut h (fun m49 : Bool => ([(6, (qe_api_Entry_5 r5.1)), (7, (.ptr 1007 0 [])), (8, (.ptr 1008 0 [])), (107, (bo m49))] : EL)) (fun m49 : Bool => ([(1007, some (.box 37 (.d (e_api_Prefix m15)))), (1008, some (.box 33 (.d (e_api_Addr r7.1))))] : OL)) (fun m49 h E' O' hmat => ?_) (fun j50 hjj50 h => ?_)
            · refine seqQ_n ?_
              refine AWp.ghost hmat ?_
              refine AWp.cond rfl (fun hg51 => ?_) (fun hg51 => ?_)
              · replace h := ite_t hg51 h
                refine sr (c (OpJ.assign (L rfl) (Opd.bool false)) rfl cn) ?_
                refine gh [(4, _)] [] hB rfl rfl (by rfl) ?_
                refine AWp.ret ?_
                refine seqQ_r ?_
                obtain rfl := Option.some.inj h
                exact ⟨.inl rfl, _, _, (kp [(4, _)] [] hB rfl rfl (by rfl)), [(bo false)], (Res.tmp (by rfl) (by rfl) Res.nil), rfl, by rfl, by rfl, by rfl⟩
              · replace h := ite_f hg51 h
                refine AWp.skip ?_
                refine seqQ_n ?_
                refine AWp.seq ?_
                obtain ⟨r52, hr52, h⟩ := bindS h
                refine sd (c (lb hN 33 _ _ tyS33 (At.here _) (q 8)) rfl (c (ov (.ptr 1007 0 [0]) (fp hN Try.underlying37 0 tyS33 _ (q 7))) rfl (c (lb hN 37 _ _ tyS33 (ad _) (q 109)) rfl (c (lb hN 37 _ _ tyS37 (At.here _) (q 7)) rfl (cg (OpJ.callFn hB fnOk24 (exchangepointref02_Last_ac m15 r52 hr52) [] (by kernel_rfl) (L rfl) (by kernel_rfl) (OpdL.cons (q 111) OpdL.nil)) rfl (c (OpJ.buildSlice Try.underlying48 tyS33 tyZD33 (by rfl) (by decide) (by decide) (Opds.cons (q 108) (Opds.cons (q 110) (Opds.cons (q 112) Opds.nil))) (by kernel_rfl) (es := ([(e_api_Addr r7.1), (e_api_Addr m15.fAddr), (e_api_Addr r52)] : List D)) (by rfl) (by rfl) (by kernel_rfl) (by simp) (L rfl)) rfl (c (OpJ.val (v' := (i6 (([r7.1, m15.fAddr, r52] : List api_Addr).length : Int))) (by simp) (OpJ.lenD Try.underlying48 (L rfl) (q 113))) rfl (c (mv hN (Opd.int .i64 (0))) rfl cn)))))))) (by kernel_rfl) (by kernel_rfl) ?_
                refine gh [(6, _), (113, _), (114, _), (115, _)] [] hB rfl rfl (by rfl) ?_
                refine AWp.block ?_
                obtain ⟨x71, hx72, h⟩ := bindS h
                refine lg (exchangepointlaw03_TableFinds_L0 r5 r7 m15 r52) (fun s53 : Int => ([(6, (qe_api_Entry_5 r5.1)), (113, (qe_api_Addr_3 ([r7.1, m15.fAddr, r52] : List api_Addr))), (114, (i6 (([r7.1, m15.fAddr, r52] : List api_Addr).length : Int))), (115, (i6 s53))] : EL)) (fun s53 : Int => ([] : OL)) (fun (x : (Unit) ⊕ (Unit)) e E' O' => match x with | (.inl _p) => e = .ret ∧ Mat B E' O' ([(4, (bo false))] : EL) ([] : OL) | (.inr _p) => e = .exit 0 ∧ Mat B E' O' ([] : EL) ([] : OL)) hx72 (mp [] _ _ hB) (fun s53 y h => ?_) (fun e E' O' hR => ?_)
                · unfold exchangepointlaw03_TableFinds_L0 at h
                  refine sr (c (OpJ.lss (L rfl) (q 115) (q 114)) rfl cn) ?_
                  refine gh [(6, _), (113, _), (114, _), (115, _), (116, _)] [] hB rfl rfl (by rfl) ?_
                  refine AWp.seq ?_
                  refine AWp.cond rfl (fun hg66 => ?_) (fun hg66 => ?_)
                  · replace h := ite_t hg66 h
                    refine AWp.skip ?_
                    refine seqQ_n ?_
                    refine AWp.seq ?_
                    refine AWp.block ?_
                    obtain ⟨x67, hx67, h⟩ := bindS h
                    refine sr (c (OpJ.indexD Try.underlying48 tyS33 (idx_some hx67).1 (get_map e_api_Addr (idx_some hx67).2) (L rfl) (q 113) (q 115)) rfl (c (OpJ.loadD tyS33 (by rfl) (by rfl) (L rfl) (q 117)) rfl (cg (OpJ.alloc hB tyZ33 (nm := 1014) (by decide) (L rfl)) rfl (cg (OpJ.storeB tyS33 (SetAt.here _ _) (by rfl) (by rfl) (by simp) rfl (q 14) (q 118)) rfl cn)))) ?_
                    refine gh [(6, _), (14, _), (113, _), (114, _), (115, _)] [(1014, some _)] hB rfl rfl (by rfl) ?_
                    obtain ⟨r68, hr68, h⟩ := bindS h
                    refine sr (c (mv hN (q 6)) rfl (c (lb hN 33 _ _ tyS33 (At.here _) (q 14)) rfl (cg (OpJ.callFn hB fnOk20 (table_Lookup_ac r5.1 x67 r68 hr68) [] (by kernel_rfl) (L rfl) (by kernel_rfl) (OpdL.cons (q 120) (OpdL.cons (q 121) OpdL.nil))) rfl (c (mv hN (q 122)) rfl (c (OpJ.extract (by rfl) rfl (L rfl) (q 119)) rfl (c (OpJ.extract (by rfl) rfl (L rfl) (q 119)) rfl (cg (OpJ.alloc hB tyZ39 (nm := 1015) (by decide) (L rfl)) rfl (cg (OpJ.storeB tyS39 (SetAt.here _ _) (by rfl) (by rfl) (by simp) rfl (q 15) (q 123)) rfl (c (OpJ.assign (L rfl) (q 124)) rfl cn))))))))) ?_
                    refine gh [(6, _), (14, _), (15, _), (16, _), (113, _), (114, _), (115, _)] [(1014, some _), (1015, some _)] hB rfl rfl (by rfl) ?_
                    obtain ⟨r69, hr69, h⟩ := bindS h
                    refine sr (c (mv hN (q 6)) rfl (c (lb hN 33 _ _ tyS33 (At.here _) (q 14)) rfl (cg (OpJ.callFn hB fnOk32 (exchangepointref03_Lookup_ac r5.1 x67 r69 hr69) [] (by kernel_rfl) (L rfl) (by kernel_rfl) (OpdL.cons (q 126) (OpdL.cons (q 127) OpdL.nil))) rfl (c (mv hN (q 128)) rfl (c (OpJ.extract (by rfl) rfl (L rfl) (q 125)) rfl (c (OpJ.extract (by rfl) rfl (L rfl) (q 125)) rfl (cg (OpJ.alloc hB tyZ39 (nm := 1017) (by decide) (L rfl)) rfl (cg (OpJ.storeB tyS39 (SetAt.here _ _) (by rfl) (by rfl) (by simp) rfl (q 17) (q 129)) rfl (c (OpJ.assign (L rfl) (q 130)) rfl cn))))))))) ?_
                    refine gh [(6, _), (15, _), (16, _), (17, _), (18, _), (113, _), (114, _), (115, _)] [(1015, some _), (1017, some _)] hB rfl rfl (by rfl) ?_
                    refine sr (c (lb hN 39 _ _ tyS39 (At.here _) (q 15)) rfl (c (lb hN 39 _ _ tyS39 (At.here _) (q 17)) rfl (c (OpJ.neqD (h := 4) (FitE.st Try.underlying39 rfl held39 (FitF.cons (x := (e_api_Prefix r68.1.fPrefix)) (y := (e_api_Prefix r69.1.fPrefix)) (by decide) rfl tyS37 ⟨rfl, rfl⟩ ⟨rfl, rfl⟩ (FitE.st Try.underlying37 rfl held37 (FitF.cons (x := (e_api_Addr r68.1.fPrefix.fAddr)) (y := (e_api_Addr r69.1.fPrefix.fAddr)) (by decide) rfl tyS33 ⟨rfl, rfl⟩ ⟨rfl, rfl⟩ (FitE.st Try.underlying33 rfl held33 (FitF.cons (x := (.bool r68.1.fPrefix.fAddr.fV6)) (y := (.bool r69.1.fPrefix.fAddr.fV6)) (by decide) rfl tyS4 ⟨rfl, rfl⟩ ⟨rfl, rfl⟩ (FitE.bool (h := 0) r68.1.fPrefix.fAddr.fV6 r69.1.fPrefix.fAddr.fV6 Try.underlying4) (FitF.cons (x := (.int .u64 r68.1.fPrefix.fAddr.fHi)) (y := (.int .u64 r69.1.fPrefix.fAddr.fHi)) (by decide) rfl tyS31 ⟨rfl, rfl⟩ ⟨rfl, rfl⟩ (FitE.int (h := 0) r68.1.fPrefix.fAddr.fHi r69.1.fPrefix.fAddr.fHi Try.underlying31) (FitF.cons (x := (.int .u64 r68.1.fPrefix.fAddr.fLo)) (y := (.int .u64 r69.1.fPrefix.fAddr.fLo)) (by decide) rfl tyS31 ⟨rfl, rfl⟩ ⟨rfl, rfl⟩ (FitE.int (h := 0) r68.1.fPrefix.fAddr.fLo r69.1.fPrefix.fAddr.fLo Try.underlying31) FitF.nil)))) (FitF.cons (x := (.int .i64 r68.1.fPrefix.fLen)) (y := (.int .i64 r69.1.fPrefix.fLen)) (by decide) rfl tyS3 ⟨rfl, rfl⟩ ⟨rfl, rfl⟩ (FitE.int (h := 1) r68.1.fPrefix.fLen r69.1.fPrefix.fLen Try.underlying3) FitF.nil))) (FitF.cons (x := (.int .i64 r68.1.fValue)) (y := (.int .i64 r69.1.fValue)) (by decide) rfl tyS3 ⟨rfl, rfl⟩ ⟨rfl, rfl⟩ (FitE.int (h := 2) r68.1.fValue r69.1.fValue Try.underlying3) FitF.nil))) eqg39 ⟨rfl, rfl⟩ (by rfl) (L rfl) (q 131) (q 132)) rfl (c (mv hN (q 133)) rfl (c (oq hN 134 (mv hN (q 16)) (OptL.keep (by rfl) OptL.nil) (GuardV.plain _)) rfl (c (oq hN 134 (mv hN (q 18)) (OptL.keep (by rfl) OptL.nil) (GuardV.plain _)) rfl (c (oq hN 134 (OpJ.neqB Try.underlying4 (L rfl) (q 135) (q 136)) (OptL.opt (OptL.opt OptL.nil)) (GuardV.plain _)) rfl (c (OpJ.pickOr rfl (L rfl) (q 134) (q 137)) rfl cn)))))))) ?_
                    refine gh [(6, _), (113, _), (114, _), (115, _), (138, _)] [] hB rfl rfl (by rfl) ?_
                    refine AWp.cond rfl (fun hg70 => ?_) (fun hg70 => ?_)
                    · replace h := ite_t hg70 h
                      refine sr (c (OpJ.assign (L rfl) (Opd.bool false)) rfl cn) ?_
                      refine gh [(4, _)] [] hB rfl rfl (by rfl) ?_
                      refine AWp.ret ?_
                      refine blkQ_r ?_
                      refine seqQ_r ?_
                      obtain rfl := Option.some.inj h
                      exact ⟨(fun hc => by cases hc), rfl, (mp [] _ _ hB)⟩
                    · replace h := ite_f hg70 h
                      refine AWp.skip ?_
                      refine blkQ_n ?_
                      refine seqQ_n ?_
                      refine rg (c (add6 (L rfl) (q 115) (Opd.int .i64 (1))) rfl (c (mv hN (q 139)) rfl cn)) ?_
                      obtain rfl := Option.some.inj h
                      exact ⟨rfl, (Mat.trans (mp [] [(6, (qe_api_Entry_5 r5.1)), (113, (qe_api_Addr_3 ([r7.1, m15.fAddr, r52] : List api_Addr))), (114, (i6 (([r7.1, m15.fAddr, r52] : List api_Addr).length : Int))), (115, (i6 (w64 (s53 + (1 : Int)))))] [] hB) (mp [] _ _ hB))⟩
                  · replace h := ite_f hg66 h
                    refine AWp.exit ?_
                    refine seqQ_e ?_
                    obtain rfl := Option.some.inj h
                    exact ⟨(fun hc => by cases hc), rfl, (mp [] _ _ hB)⟩
                · rcases x71 with _ | _
                  · obtain ⟨rfl, hmat⟩ := hR
                    refine blkQ_r ?_
                    refine seqQ_r ?_
                    obtain rfl := Option.some.inj h
                    exact ⟨.inl rfl, _, _, (Mat.trans hmat (mp [] [(4, (bo false))] [] hB)), [(bo false)], (Res.tmp (by rfl) (by rfl) Res.nil), rfl, by rfl, by rfl, by rfl⟩
                  · obtain ⟨rfl, hmat⟩ := hR
                    refine blkQ_hit ?_
                    refine seqQ_n ?_
                    refine AWp.ghost hmat ?_
                    obtain ⟨r73, hr73, h⟩ := bindS h
                    refine sr (cg (OpJ.callFn hB fnOk15 (exchangepointlaw03_awake_ac r73 hr73) [] (by kernel_rfl) (L rfl) (by kernel_rfl) OpdL.nil) rfl (c (OpJ.assign (L rfl) (q 140)) rfl cn)) ?_
                    refine gh [(4, _)] [] hB rfl rfl (by rfl) ?_
                    refine AWp.ret ?_
                    obtain rfl := Option.some.inj h
                    exact ⟨.inl rfl, _, _, (kp [(4, _)] [] hB rfl rfl (by rfl)), [(bo r73)], (Res.tmp (by rfl) (by rfl) Res.nil), rfl, by rfl, by rfl, by rfl⟩
            · rcases Bool.eq_false_or_eq_true ((r39.1 != r40.1) || (r39.2 != r40.2)) with hg74 | hg74
              · replace h := ite_t hg74 h
                refine dr (c (mv hN (q 9)) rfl (c (mv hN (q 11)) rfl (c (OpJ.neqI (L rfl) (q 80) (q 81)) rfl (c (mv hN (q 82)) rfl (c (oq hN 83 (mv hN (q 10)) (OptL.keep (by rfl) OptL.nil) (GuardV.plain _)) rfl (c (oq hN 83 (mv hN (q 12)) (OptL.keep (by rfl) OptL.nil) (GuardV.plain _)) rfl (c (oq hN 83 (OpJ.neqB Try.underlying4 (L rfl) (q 84) (q 85)) (OptL.opt (OptL.opt OptL.nil)) (GuardV.plain _)) rfl (c (OpJ.pickOr rfl (L rfl) (q 83) (q 86)) rfl (c (OpJ.val (v' := .d (.bool true)) (by rw [hg74]) (mv hN (q 87))) rfl (cg (OpJ.skipU (g := 88) (L rfl) (by rfl)) rfl (cg (OpJ.skipU (g := 88) (L rfl) (by rfl)) rfl (cg (OpJ.skipU (g := 88) (L rfl) (by rfl)) rfl (cg (OpJ.skipU (g := 88) (L rfl) (by rfl)) rfl (cg (OpJ.skipU (g := 88) (L rfl) (by rfl)) rfl (cg (OpJ.skipU (g := 88) (L rfl) (by rfl)) rfl (cg (OpJ.skipU (g := 88) (L rfl) (by rfl)) rfl (cg (OpJ.skipU (g := 88) (L rfl) (by rfl)) rfl (c (OpJ.pickT (L rfl) (q 88) (Opd.bool true)) rfl (c (mv hN (q 97)) rfl (cg (OpJ.skipU (g := 98) (L rfl) (by rfl)) rfl (cg (OpJ.skipU (g := 98) (L rfl) (by rfl)) rfl (cg (OpJ.skipU (g := 98) (L rfl) (by rfl)) rfl (cg (OpJ.skipU (g := 98) (L rfl) (by rfl)) rfl (cg (OpJ.skipU (g := 98) (L rfl) (by rfl)) rfl (cg (OpJ.skipU (g := 98) (L rfl) (by rfl)) rfl (cg (OpJ.skipU (g := 98) (L rfl) (by rfl)) rfl (cg (OpJ.skipU (g := 98) (L rfl) (by rfl)) rfl (c (OpJ.pickT (L rfl) (q 98) (Opd.bool true)) rfl cn)))))))))))))))))))))))))))) (by kernel_rfl) (by kernel_rfl) ?_
                exact hjj50 _ h _ _ (Mat.trans (mp [] [(6, (qe_api_Entry_5 r5.1)), (7, (.ptr 1007 0 [])), (8, (.ptr 1008 0 [])), (107, (bo true))] [(1007, some (.box 37 (.d (e_api_Prefix m15)))), (1008, some (.box 33 (.d (e_api_Addr r7.1))))] hB) (mp [] _ _ hB))
              · replace h := ite_f hg74 h
                obtain ⟨r75, hr75, h⟩ := bindS h
                obtain ⟨r76, hr76, h⟩ := bindS h
                obtain ⟨r77, hr77, h⟩ := bindS h
                rcases Bool.eq_false_or_eq_true (!r77) with hg78 | hg78
                · replace h := ite_t hg78 h
                  refine dr (c (mv hN (q 9)) rfl (c (mv hN (q 11)) rfl (c (OpJ.neqI (L rfl) (q 80) (q 81)) rfl (c (mv hN (q 82)) rfl (c (oq hN 83 (mv hN (q 10)) (OptL.keep (by rfl) OptL.nil) (GuardV.plain _)) rfl (c (oq hN 83 (mv hN (q 12)) (OptL.keep (by rfl) OptL.nil) (GuardV.plain _)) rfl (c (oq hN 83 (OpJ.neqB Try.underlying4 (L rfl) (q 84) (q 85)) (OptL.opt (OptL.opt OptL.nil)) (GuardV.plain _)) rfl (c (OpJ.pickOr rfl (L rfl) (q 83) (q 86)) rfl (c (OpJ.val (v' := .d (.bool false)) (by rw [hg74]) (mv hN (q 87))) rfl (c (OpJ.guarded (g := 88) (by rfl) (mv hN (q 6))) rfl (c (OpJ.guarded (g := 88) (by rfl) (lb hN 37 _ _ tyS37 (At.here _) (q 7))) rfl (cg (OpJ.guarded (g := 88) (by rfl) (OpJ.callFn hB fnOk19 (table_Covering_ac r5.1 m15 r75 hr75) [] (by kernel_rfl) (L rfl) (by kernel_rfl) (OpdL.cons (q 89) (OpdL.cons (q 90) OpdL.nil)))) rfl (c (OpJ.guarded (g := 88) (by rfl) (mv hN (q 6))) rfl (c (OpJ.guarded (g := 88) (by rfl) (lb hN 37 _ _ tyS37 (At.here _) (q 7))) rfl (cg (OpJ.guarded (g := 88) (by rfl) (OpJ.callFn hB fnOk30 (exchangepointref03_Covering_ac r5.1 m15 r76 hr76) [] (by kernel_rfl) (L rfl) (by kernel_rfl) (OpdL.cons (q 92) (OpdL.cons (q 93) OpdL.nil)))) rfl (cg (OpJ.guarded (g := 88) (by rfl) (OpJ.callFn hB fnOk12 (exchangepointref03_Same_ac r75 r76 r77 hr77) [] (by kernel_rfl) (L rfl) (by kernel_rfl) (OpdL.cons (q 91) (OpdL.cons (q 94) OpdL.nil)))) rfl (c (OpJ.guarded (g := 88) (by rfl) (OpJ.not (L rfl) (q 95))) rfl (c (OpJ.pickF (L rfl) (q 88) (q 96)) rfl (c (OpJ.val (v' := .d (.bool true)) (by rw [hg78]) (mv hN (q 97))) rfl (cg (OpJ.skipU (g := 98) (L rfl) (by rfl)) rfl (cg (OpJ.skipU (g := 98) (L rfl) (by rfl)) rfl (cg (OpJ.skipU (g := 98) (L rfl) (by rfl)) rfl (cg (OpJ.skipU (g := 98) (L rfl) (by rfl)) rfl (cg (OpJ.skipU (g := 98) (L rfl) (by rfl)) rfl (cg (OpJ.skipU (g := 98) (L rfl) (by rfl)) rfl (cg (OpJ.skipU (g := 98) (L rfl) (by rfl)) rfl (cg (OpJ.skipU (g := 98) (L rfl) (by rfl)) rfl (c (OpJ.pickT (L rfl) (q 98) (Opd.bool true)) rfl cn)))))))))))))))))))))))))))) (by kernel_rfl) (by kernel_rfl) ?_
                  exact hjj50 _ h _ _ (Mat.trans (mp [] [(6, (qe_api_Entry_5 r5.1)), (7, (.ptr 1007 0 [])), (8, (.ptr 1008 0 [])), (107, (bo true))] [(1007, some (.box 37 (.d (e_api_Prefix m15)))), (1008, some (.box 33 (.d (e_api_Addr r7.1))))] hB) (mp [] _ _ hB))
                · replace h := ite_f hg78 h
                  obtain ⟨r79, hr79, h⟩ := bindS h
                  obtain ⟨r80, hr80, h⟩ := bindS h
                  obtain ⟨r81, hr81, h⟩ := bindS h
                  refine dr (c (mv hN (q 9)) rfl (c (mv hN (q 11)) rfl (c (OpJ.neqI (L rfl) (q 80) (q 81)) rfl (c (mv hN (q 82)) rfl (c (oq hN 83 (mv hN (q 10)) (OptL.keep (by rfl) OptL.nil) (GuardV.plain _)) rfl (c (oq hN 83 (mv hN (q 12)) (OptL.keep (by rfl) OptL.nil) (GuardV.plain _)) rfl (c (oq hN 83 (OpJ.neqB Try.underlying4 (L rfl) (q 84) (q 85)) (OptL.opt (OptL.opt OptL.nil)) (GuardV.plain _)) rfl (c (OpJ.pickOr rfl (L rfl) (q 83) (q 86)) rfl (c (OpJ.val (v' := .d (.bool false)) (by rw [hg74]) (mv hN (q 87))) rfl (c (OpJ.guarded (g := 88) (by rfl) (mv hN (q 6))) rfl (c (OpJ.guarded (g := 88) (by rfl) (lb hN 37 _ _ tyS37 (At.here _) (q 7))) rfl (cg (OpJ.guarded (g := 88) (by rfl) (OpJ.callFn hB fnOk19 (table_Covering_ac r5.1 m15 r75 hr75) [] (by kernel_rfl) (L rfl) (by kernel_rfl) (OpdL.cons (q 89) (OpdL.cons (q 90) OpdL.nil)))) rfl (c (OpJ.guarded (g := 88) (by rfl) (mv hN (q 6))) rfl (c (OpJ.guarded (g := 88) (by rfl) (lb hN 37 _ _ tyS37 (At.here _) (q 7))) rfl (cg (OpJ.guarded (g := 88) (by rfl) (OpJ.callFn hB fnOk30 (exchangepointref03_Covering_ac r5.1 m15 r76 hr76) [] (by kernel_rfl) (L rfl) (by kernel_rfl) (OpdL.cons (q 92) (OpdL.cons (q 93) OpdL.nil)))) rfl (cg (OpJ.guarded (g := 88) (by rfl) (OpJ.callFn hB fnOk12 (exchangepointref03_Same_ac r75 r76 r77 hr77) [] (by kernel_rfl) (L rfl) (by kernel_rfl) (OpdL.cons (q 91) (OpdL.cons (q 94) OpdL.nil)))) rfl (c (OpJ.guarded (g := 88) (by rfl) (OpJ.not (L rfl) (q 95))) rfl (c (OpJ.pickF (L rfl) (q 88) (q 96)) rfl (c (OpJ.val (v' := .d (.bool false)) (by rw [hg78]) (mv hN (q 97))) rfl (c (OpJ.guarded (g := 98) (by rfl) (mv hN (q 6))) rfl (c (OpJ.guarded (g := 98) (by rfl) (lb hN 37 _ _ tyS37 (At.here _) (q 7))) rfl (cg (OpJ.guarded (g := 98) (by rfl) (OpJ.callFn hB fnOk22 (table_Covered_ac r5.1 m15 r79 hr79) [] (by kernel_rfl) (L rfl) (by kernel_rfl) (OpdL.cons (q 99) (OpdL.cons (q 100) OpdL.nil)))) rfl (c (OpJ.guarded (g := 98) (by rfl) (mv hN (q 6))) rfl (c (OpJ.guarded (g := 98) (by rfl) (lb hN 37 _ _ tyS37 (At.here _) (q 7))) rfl (cg (OpJ.guarded (g := 98) (by rfl) (OpJ.callFn hB fnOk31 (exchangepointref03_Covered_ac r5.1 m15 r80 hr80) [] (by kernel_rfl) (L rfl) (by kernel_rfl) (OpdL.cons (q 102) (OpdL.cons (q 103) OpdL.nil)))) rfl (cg (OpJ.guarded (g := 98) (by rfl) (OpJ.callFn hB fnOk12 (exchangepointref03_Same_ac r79 r80 r81 hr81) [] (by kernel_rfl) (L rfl) (by kernel_rfl) (OpdL.cons (q 101) (OpdL.cons (q 104) OpdL.nil)))) rfl (c (OpJ.guarded (g := 98) (by rfl) (OpJ.not (L rfl) (q 105))) rfl (c (OpJ.pickF (L rfl) (q 98) (q 106)) rfl cn)))))))))))))))))))))))))))) (by kernel_rfl) (by kernel_rfl) ?_
                  exact hjj50 _ h _ _ (Mat.trans (mp [] [(6, (qe_api_Entry_5 r5.1)), (7, (.ptr 1007 0 [])), (8, (.ptr 1008 0 [])), (107, (bo (!r81)))] [(1007, some (.box 37 (.d (e_api_Prefix m15)))), (1008, some (.box 33 (.d (e_api_Addr r7.1))))] hB) (mp [] _ _ hB))
        · obtain ⟨r82, hr82, h⟩ := bindS h
          obtain ⟨r83, hr83, h⟩ := bindS h
          rcases Bool.eq_false_or_eq_true (r82 != r83) with hg84 | hg84
          · replace h := ite_t hg84 h
            refine rg (c (mv hN (q 0)) rfl (cg (OpJ.callFn hB fnOk23 (table_Valid_ac a0 r82 hr82) [] (by kernel_rfl) (L rfl) (by kernel_rfl) (OpdL.cons (q 47) OpdL.nil)) rfl (c (mv hN (q 0)) rfl (cg (OpJ.callFn hB fnOk27 (exchangepointref03_Valid_ac a0 r83 hr83) [] (by kernel_rfl) (L rfl) (by kernel_rfl) (OpdL.cons (q 49) OpdL.nil)) rfl (c (OpJ.neqB Try.underlying4 (L rfl) (q 48) (q 50)) rfl (c (OpJ.val (v' := .d (.bool true)) (by rw [hg84]) (mv hN (q 51))) rfl (cg (OpJ.skipU (g := 52) (L rfl) (by rfl)) rfl (cg (OpJ.skipU (g := 52) (L rfl) (by rfl)) rfl (cg (OpJ.skipU (g := 52) (L rfl) (by rfl)) rfl (c (OpJ.pickT (L rfl) (q 52) (Opd.bool true)) rfl (c (mv hN (q 56)) rfl (cg (OpJ.skipU (g := 57) (L rfl) (by rfl)) rfl (cg (OpJ.skipU (g := 57) (L rfl) (by rfl)) rfl (cg (OpJ.skipU (g := 57) (L rfl) (by rfl)) rfl (cg (OpJ.skipU (g := 57) (L rfl) (by rfl)) rfl (cg (OpJ.skipU (g := 57) (L rfl) (by rfl)) rfl (cg (OpJ.skipU (g := 57) (L rfl) (by rfl)) rfl (cg (OpJ.skipU (g := 57) (L rfl) (by rfl)) rfl (cg (OpJ.skipU (g := 57) (L rfl) (by rfl)) rfl (cg (OpJ.skipU (g := 57) (L rfl) (by rfl)) rfl (c (OpJ.pickT (L rfl) (q 57) (Opd.bool true)) rfl cn))))))))))))))))))))) ?_
            exact hjj37 _ h _ _ (Mat.trans (mp [] [(6, (qe_api_Entry_5 r5.1)), (7, (.ptr 1007 0 [])), (8, (.ptr 1008 0 [])), (67, (bo true))] [(1007, some (.box 37 (.d (e_api_Prefix m15)))), (1008, some (.box 33 (.d (e_api_Addr r7.1))))] hB) (mp [] _ _ hB))
          · replace h := ite_f hg84 h
            obtain ⟨r85, hr85, h⟩ := bindS h
            rcases Bool.eq_false_or_eq_true (!r85) with hg86 | hg86
            · replace h := ite_t hg86 h
              refine rg (c (mv hN (q 0)) rfl (cg (OpJ.callFn hB fnOk23 (table_Valid_ac a0 r82 hr82) [] (by kernel_rfl) (L rfl) (by kernel_rfl) (OpdL.cons (q 47) OpdL.nil)) rfl (c (mv hN (q 0)) rfl (cg (OpJ.callFn hB fnOk27 (exchangepointref03_Valid_ac a0 r83 hr83) [] (by kernel_rfl) (L rfl) (by kernel_rfl) (OpdL.cons (q 49) OpdL.nil)) rfl (c (OpJ.neqB Try.underlying4 (L rfl) (q 48) (q 50)) rfl (c (OpJ.val (v' := .d (.bool false)) (by rw [hg84]) (mv hN (q 51))) rfl (c (OpJ.guarded (g := 52) (by rfl) (mv hN (q 6))) rfl (cg (OpJ.guarded (g := 52) (by rfl) (OpJ.callFn hB fnOk23 (table_Valid_ac r5.1 r85 hr85) [] (by kernel_rfl) (L rfl) (by kernel_rfl) (OpdL.cons (q 53) OpdL.nil))) rfl (c (OpJ.guarded (g := 52) (by rfl) (OpJ.not (L rfl) (q 54))) rfl (c (OpJ.pickF (L rfl) (q 52) (q 55)) rfl (c (OpJ.val (v' := .d (.bool true)) (by rw [hg86]) (mv hN (q 56))) rfl (cg (OpJ.skipU (g := 57) (L rfl) (by rfl)) rfl (cg (OpJ.skipU (g := 57) (L rfl) (by rfl)) rfl (cg (OpJ.skipU (g := 57) (L rfl) (by rfl)) rfl (cg (OpJ.skipU (g := 57) (L rfl) (by rfl)) rfl (cg (OpJ.skipU (g := 57) (L rfl) (by rfl)) rfl (cg (OpJ.skipU (g := 57) (L rfl) (by rfl)) rfl (cg (OpJ.skipU (g := 57) (L rfl) (by rfl)) rfl (cg (OpJ.skipU (g := 57) (L rfl) (by rfl)) rfl (cg (OpJ.skipU (g := 57) (L rfl) (by rfl)) rfl (c (OpJ.pickT (L rfl) (q 57) (Opd.bool true)) rfl cn))))))))))))))))))))) ?_
              exact hjj37 _ h _ _ (Mat.trans (mp [] [(6, (qe_api_Entry_5 r5.1)), (7, (.ptr 1007 0 [])), (8, (.ptr 1008 0 [])), (67, (bo true))] [(1007, some (.box 37 (.d (e_api_Prefix m15)))), (1008, some (.box 33 (.d (e_api_Addr r7.1))))] hB) (mp [] _ _ hB))
            · replace h := ite_f hg86 h
              obtain ⟨hc87, h⟩ := chk_some h
              obtain ⟨hc88, h⟩ := chk_some h
              obtain ⟨r89, hr89, h⟩ := bindS h
              refine rg (c (mv hN (q 0)) rfl (cg (OpJ.callFn hB fnOk23 (table_Valid_ac a0 r82 hr82) [] (by kernel_rfl) (L rfl) (by kernel_rfl) (OpdL.cons (q 47) OpdL.nil)) rfl (c (mv hN (q 0)) rfl (cg (OpJ.callFn hB fnOk27 (exchangepointref03_Valid_ac a0 r83 hr83) [] (by kernel_rfl) (L rfl) (by kernel_rfl) (OpdL.cons (q 49) OpdL.nil)) rfl (c (OpJ.neqB Try.underlying4 (L rfl) (q 48) (q 50)) rfl (c (OpJ.val (v' := .d (.bool false)) (by rw [hg84]) (mv hN (q 51))) rfl (c (OpJ.guarded (g := 52) (by rfl) (mv hN (q 6))) rfl (cg (OpJ.guarded (g := 52) (by rfl) (OpJ.callFn hB fnOk23 (table_Valid_ac r5.1 r85 hr85) [] (by kernel_rfl) (L rfl) (by kernel_rfl) (OpdL.cons (q 53) OpdL.nil))) rfl (c (OpJ.guarded (g := 52) (by rfl) (OpJ.not (L rfl) (q 54))) rfl (c (OpJ.pickF (L rfl) (q 52) (q 55)) rfl (c (OpJ.val (v' := .d (.bool false)) (by rw [hg86]) (mv hN (q 56))) rfl (c (OpJ.guarded (g := 57) (by rfl) (mv hN (q 6))) rfl (cg (OpJ.guarded (g := 57) (by rfl) (OpJ.appendN hB Try.underlying23 tyE39 (nm := 1059) (by decide) (ys := r5.1.map e_api_Entry) (len := r5.1.length) (by simp) (map_sz (f := e_api_Entry) (fun _ => rfl)) (by rw [List.length_map]; exact lim_mulN hc87 (by decide)) (by rw [List.length_map]; exact lim_leN hc87) (L rfl) Opd.nils (q 58))) rfl (c (OpJ.guarded (g := 57) (by rfl) (mv hN (q 6))) rfl (cg (OpJ.guarded (g := 57) (by rfl) (OpJ.frz (OpJ.append hB Try.underlying23 tyE39 (nm := 1061) (by decide) (es := r5.1.map e_api_Entry) (ys := r5.1.map e_api_Entry) (es' := (r5.1 ++ r5.1).map e_api_Entry) (len := (r5.1 ++ r5.1).length) (by simp) (by simp) (map_sz (f := e_api_Entry) (fun _ => rfl)) (by rw [List.length_map]; exact lim_mulN hc88 (by decide)) (by rw [List.length_map]; exact lim_leN hc88) (L rfl) (by simp) (q 59) (q 60)) (by simp))) rfl (cg (OpJ.guarded (g := 57) (by rfl) (OpJ.callFn hB fnOk23 (table_Valid_ac (r5.1 ++ r5.1) r89 hr89) [] (by kernel_rfl) (L rfl) (by kernel_rfl) (OpdL.cons (q 61) OpdL.nil))) rfl (c (OpJ.guarded (g := 57) (by rfl) (mv hN (q 6))) rfl (c (OpJ.guarded (g := 57) (by rfl) (OpJ.val (v' := (i6 (r5.1.length : Int))) (by simp) (OpJ.lenD Try.underlying23 (L rfl) (q 63)))) rfl (c (OpJ.guarded (g := 57) (by rfl) (OpJ.eqlI (L rfl) (q 64) (Opd.int .i64 (0)))) rfl (c (OpJ.guarded (g := 57) (by rfl) (OpJ.neqB Try.underlying4 (L rfl) (q 62) (q 65))) rfl (c (OpJ.pickF (L rfl) (q 57) (q 66)) rfl cn))))))))))))))))))))) ?_
              exact hjj37 _ h _ _ (Mat.trans (mp [] [(6, (qe_api_Entry_5 r5.1)), (7, (.ptr 1007 0 [])), (8, (.ptr 1008 0 [])), (67, (bo (r89 != ((r5.1.length : Int) == (0 : Int)))))] [(1007, some (.box 37 (.d (e_api_Prefix m15)))), (1008, some (.box 33 (.d (e_api_Addr r7.1))))] hB) (mp [] _ _ hB))
      · refine AWp.cond rfl (fun hg90 => ?_) (fun hg90 => ?_)
        · replace h := ite_t hg90 h
          obtain ⟨r91, hr91, h⟩ := bindS h
          obtain ⟨x92, hx92, h⟩ := bindS h
          refine AWp.region (oc (mv hN (ot 6 (qe_api_Entry_5 r5.1)))
            (oc (mv hN (ot 5 (.ptr 100200 0 [])))
            (oc (mv hN (ot 6 (qe_api_Entry_5 r5.1)))
            (oc (OpJ.val (v' := (i6 (r5.1.length : Int))) (by simp) (OpJ.lenD Try.underlying23 (L rfl) (ot 41 (qe_api_Entry_5 r5.1))))
            (oc (OpJ.callFn hB fnOk17 (exchangepointmake_Deck_Next_ac m10.2 (r5.1.length : Int) r91 hr91) [(0, 100200)] (by kernel_rfl) (L rfl) (by kernel_rfl) (OpdL.cons (ot 40 (.ptr 100200 0 [])) (OpdL.cons (ot 42 (i6 (r5.1.length : Int))) OpdL.nil)))
            (oc (OpJ.indexD (el := (e_api_Entry x92)) Try.underlying23 tyS39 (idx_some hx92).1 (get_map e_api_Entry (idx_some hx92).2) (L rfl) (ot 39 (qe_api_Entry_5 r5.1)) (ot 43 (i6 r91.1)))
            (oc (OpJ.fieldD Try.underlying39 (by rfl) (o := 0) (by rfl) tyS37 (by decide) (ds := [(e_api_Prefix x92.fPrefix), (.int .i64 x92.fValue)]) (e := (e_api_Prefix x92.fPrefix)) (by rfl) (by rfl) (L rfl) (ot 44 (.dptr (e_api_Entry x92))))
            (oc (OpJ.loadD tyS37 (by rfl) (by rfl) (L rfl) (ot 45 (.dptr (e_api_Prefix x92.fPrefix))))
            (oc (OpJ.storeB (bt := 37) (c := (.d (e_api_Prefix r6.1))) (v := (.d (e_api_Prefix x92.fPrefix))) (c' := (.d (e_api_Prefix x92.fPrefix))) tyS37 (SetAt.here _ _) (by rfl) (by rfl) (by simp) rfl (ot 7 (.ptr 1007 0 [])) (ot 46 (.d (e_api_Prefix x92.fPrefix))))
            (OpJs.nil)))))))))) (by rfl) (by rfl) ?_
          exact hjj16 _ h _ _ (Mat.trans (mp [] [(0, (qe_api_Entry_5 a0)), (6, (qe_api_Entry_5 r5.1)), (7, (.ptr 1007 0 [])), (8, (.ptr 1008 0 []))] [(1007, some (.box 37 (.d (e_api_Prefix x92.fPrefix)))), (1008, some (.box 33 (.d (e_api_Addr r7.1))))] hB) (mp [] _ _ hB))
        · replace h := ite_f hg90 h
          refine AWp.skip ?_
          exact hjj16 _ h _ _ (mp [] _ _ hB)
    · rcases Bool.eq_false_or_eq_true (decide ((0 : Int) < (r5.1.length : Int))) with hg93 | hg93
      · replace h := ite_t hg93 h
        obtain ⟨r94, hr94, h⟩ := bindS h
        refine AWp.region (oc (mv hN (ot 6 (qe_api_Entry_5 r5.1)))
          (oc (OpJ.val (v' := (i6 (r5.1.length : Int))) (by simp) (OpJ.lenD Try.underlying23 (L rfl) (ot 31 (qe_api_Entry_5 r5.1))))
          (oc (OpJ.gtr (L rfl) (ot 32 (i6 (r5.1.length : Int))) (Opd.int .i64 (0)))
          (oc (OpJ.val (v' := .d (.bool true)) (by rw [hg93]) (mv hN (ot 33 (bo (decide ((0 : Int) < (r5.1.length : Int)))))))
          (oc (OpJ.guarded (g := 34) (by rfl) (mv hN (ot 5 (.ptr 100200 0 []))))
          (oc (OpJ.guarded (g := 34) (by rfl) (OpJ.callFn hB fnOk17 (exchangepointmake_Deck_Next_ac r7.2 (2 : Int) r94 hr94) [(0, 100200)] (by kernel_rfl) (L rfl) (by kernel_rfl) (OpdL.cons (ot 35 (.ptr 100200 0 [])) (OpdL.cons (Opd.int .i64 (2)) OpdL.nil))))
          (oc (OpJ.guarded (g := 34) (by rfl) (OpJ.eqlI (L rfl) (ot 36 (i6 r94.1)) (Opd.int .i64 (0))))
          (oc (OpJ.pickT (L rfl) (ot 34 (bo true)) (ot 37 (bo (r94.1 == (0 : Int)))))
          (OpJs.nil))))))))) (by rfl) (by rfl) ?_
        exact hjj11 _ h _ _ (Mat.trans (mp [] [(0, (qe_api_Entry_5 a0)), (5, (.ptr 100200 0 [])), (6, (qe_api_Entry_5 r5.1)), (7, (.ptr 1007 0 [])), (8, (.ptr 1008 0 [])), (38, (bo (r94.1 == (0 : Int))))] [(1007, some (.box 37 (.d (e_api_Prefix r6.1)))), (1008, some (.box 33 (.d (e_api_Addr r7.1)))), (100200, some (.box 65 (.d (e_exchangepointmake_Deck r94.2))))] hB) (mp [] _ _ hB))
      · replace h := ite_f hg93 h
        refine rg (c (mv hN (q 6)) rfl (c (OpJ.val (v' := (i6 (r5.1.length : Int))) (by simp) (OpJ.lenD Try.underlying23 (L rfl) (q 31))) rfl (c (OpJ.gtr (L rfl) (q 32) (Opd.int .i64 (0))) rfl (c (OpJ.val (v' := .d (.bool false)) (by rw [hg93]) (mv hN (q 33))) rfl (cg (OpJ.skipU (g := 34) (L rfl) (by rfl)) rfl (cg (OpJ.skipU (g := 34) (L rfl) (by rfl)) rfl (cg (OpJ.skipU (g := 34) (L rfl) (by rfl)) rfl (c (OpJ.pickF (L rfl) (q 34) (Opd.bool false)) rfl cn)))))))) ?_
        exact hjj11 _ h _ _ (Mat.trans (mp [] [(0, (qe_api_Entry_5 a0)), (5, (.ptr 100200 0 [])), (6, (qe_api_Entry_5 r5.1)), (7, (.ptr 1007 0 [])), (8, (.ptr 1008 0 [])), (38, (bo false))] [(1007, some (.box 37 (.d (e_api_Prefix r6.1)))), (1008, some (.box 33 (.d (e_api_Addr r7.1)))), (100200, some (.box 65 (.d (e_exchangepointmake_Deck r7.2))))] hB) (mp [] _ _ hB))

noncomputable def ext64_slices_Clone_R (a0 : (List api_Entry)) : Option (List api_Entry) := chk (decide (a0.length ≤ LIM)) <|
  some a0
theorem ext64_slices_Clone_R_ac (a0 : (List api_Entry)) (r : List api_Entry) (h : ext64_slices_Clone_R a0 = some r) : AC Try.prog 64 [(.d (.list 5 (a0.map e_api_Entry)))] [] (.sref 900000 5 0 r.length) [(900000, some (.row 39 5 (r.map e_api_Entry)))] := by
  obtain ⟨hc, h⟩ := chk_some h
  obtain rfl := Option.some.inj h
  exact AC.cloneR cloneOk64 (by simp) (by rw [List.length_map]; exact lim_mulN hc (by decide)) (map_sz (f := e_api_Entry) (fun _ => rfl))

noncomputable def slices_BinarySearchFunc_2_L0 (a0 : (List api_Entry)) (a1 : api_Prefix) (s1 : Int × Int) : Option (((Int)) ⊕ (Int × Int)) :=
  (if (decide (s1.1 < s1.2)) = true then
  (idx a0 (w64 (shrI .u64 (IntKind.u64.wrap (w64 (s1.1 + s1.2))) (1 : Int)))).bind fun x14 =>
  (idx a0 (w64 (shrI .u64 (IntKind.u64.wrap (w64 (s1.1 + s1.2))) (1 : Int)))).bind fun x15 =>
  (table_find_1 x15 a1).bind fun r16 =>
  (if (decide (r16 < (0 : Int))) = true then
  some (.inr ((w64 ((w64 (shrI .u64 (IntKind.u64.wrap (w64 (s1.1 + s1.2))) (1 : Int))) + (1 : Int))), s1.2))
  else
  some (.inr (s1.1, (w64 (shrI .u64 (IntKind.u64.wrap (w64 (s1.1 + s1.2))) (1 : Int))))))
  else
  some (.inl s1.1))
noncomputable def slices_BinarySearchFunc_2 (a0 : (List api_Entry)) (a1 : api_Prefix) : Option (Int × Bool) :=
  (loop (slices_BinarySearchFunc_2_L0 a0 a1) ((0 : Int), (a0.length : Int))).bind fun p12 =>
  jn (fun m24 : Bool =>
  some (p12, m24)) (fun j25 =>
  (if (decide (p12 < (a0.length : Int))) = true then
  (idx a0 p12).bind fun x27 =>
  (idx a0 p12).bind fun x28 =>
  (table_find_1 x28 a1).bind fun r29 =>
  j25 (r29 == (0 : Int))
  else
  j25 false))
set_option maxHeartbeats 4000000 in
set_option maxRecDepth 100000 in
theorem slices_BinarySearchFunc_2_ac (a0 : (List api_Entry)) (a1 : api_Prefix) (r : Int × Bool) (h : slices_BinarySearchFunc_2 a0 a1 = some r) : AC Try.prog 80 [(.sref 0 5 0 a0.length), (.d (e_api_Prefix a1)), (.func 81 [])] [(0, (.row 39 5 (a0.map e_api_Entry)))] (.tup [(.d (.int .i64 r.1)), (.d (.bool r.2))]) [(0, some (.row 39 5 (a0.map e_api_Entry)))] := by
  refine AC.of_code2 Try.func80 rfl rfl (Nat.le_of_ble_eq_true (by rfl)) fun B hB hN => ?_
  have L {d : Nat} (h : Nat.blt d Try.f80.ntmps = true) : d < B.N := ltN hN h
  delta slices_BinarySearchFunc_2 at h
  refine sr (cg (OpJ.box hB (nm := 1004) (by decide) (by simp) rfl (L rfl) (q 1)) rfl (c (OpJ.assign (L rfl) (Opd.int .i64 (0))) rfl (c (OpJ.assign (L rfl) (Opd.bool false)) rfl cn))) ?_
  refine gh [(0, _), (2, _), (4, _)] [(0, some _), (1004, some _)] hB rfl rfl (by rfl) ?_
  refine sr (c (mv hN (q 0)) rfl (c (OpJ.lenS Try.underlying23 (L rfl) (q 12)) rfl (c (OpJ.assign (L rfl) (q 13)) rfl cn))) ?_
  refine gh [(0, _), (2, _), (4, _), (8, _)] [(0, some _), (1004, some _)] hB rfl rfl (by rfl) ?_
  refine sr (c (mv hN (q 8)) rfl (c (OpJ.assign (L rfl) (Opd.int .i64 (0))) rfl (c (OpJ.assign (L rfl) (q 14)) rfl cn))) ?_
  refine gh [(0, _), (2, _), (4, _), (8, _), (9, _), (10, _)] [(0, some _), (1004, some _)] hB rfl rfl (by rfl) ?_
  refine AWp.seq ?_
  refine AWp.block ?_
  obtain ⟨p12, hx19, h⟩ := bindS h
  refine lg (slices_BinarySearchFunc_2_L0 a0 a1) (fun s1 : Int × Int => ([(0, (.sref 0 5 0 a0.length)), (2, (.func 81 [])), (4, (.ptr 1004 0 [])), (8, (i6 (a0.length : Int))), (9, (i6 s1.1)), (10, (i6 s1.2))] : EL)) (fun s1 : Int × Int => ([(0, some (we_api_Entry_39_5 a0)), (1004, some (.box 37 (.d (e_api_Prefix a1))))] : OL)) (fun (p12 : (Int)) e E' O' => e = .exit 0 ∧ Mat B E' O' ([(0, (.sref 0 5 0 a0.length)), (2, (.func 81 [])), (4, (.ptr 1004 0 [])), (8, (i6 (a0.length : Int))), (9, (i6 p12))] : EL) ([(0, some (we_api_Entry_39_5 a0)), (1004, some (.box 37 (.d (e_api_Prefix a1))))] : OL)) hx19 (mp [] _ _ hB) (fun s1 y h => ?_) (fun e E' O' hR => ?_)
  · unfold slices_BinarySearchFunc_2_L0 at h
    refine AWp.seq ?_
    refine sr (c (mv hN (q 9)) rfl (c (mv hN (q 10)) rfl (c (OpJ.lss (L rfl) (q 15) (q 16)) rfl cn))) ?_
    refine gh [(0, _), (2, _), (4, _), (8, _), (9, _), (10, _), (17, _)] [(0, some _), (1004, some _)] hB rfl rfl (by rfl) ?_
    refine AWp.cond rfl (fun hg13 => ?_) (fun hg13 => ?_)
    · replace h := ite_t hg13 h
      refine AWp.skip ?_
      refine seqQ_n ?_
      refine AWp.block ?_
      refine sr (c (mv hN (q 9)) rfl (c (mv hN (q 10)) rfl (c (add6 (L rfl) (q 18) (q 19)) rfl (c (OpJ.conv Try.underlying3 Try.underlying76 (L rfl) (q 20)) rfl (c (OpJ.shr (L rfl) (q 21) (Opd.int .u64 (1)) (by decide)) rfl (c (conv6 Try.underlying76 Try.underlying3 (L rfl) (q 22)) rfl (c (OpJ.assign (L rfl) (q 23)) rfl cn))))))) ?_
      refine gh [(0, _), (2, _), (4, _), (8, _), (9, _), (10, _), (11, _)] [(0, some _), (1004, some _)] hB rfl rfl (by rfl) ?_
      obtain ⟨x14, hx14, h⟩ := bindS h
      obtain ⟨x15, hx15, h⟩ := bindS h
      obtain ⟨r16, hr16, h⟩ := bindS h
      refine sd (c (mv hN (q 2)) rfl (c (mv hN (q 0)) rfl (c (mv hN (q 11)) rfl (c (OpJ.val (v' := (.ptr 0 ((w64 (shrI .u64 (IntKind.u64.wrap (w64 (s1.1 + s1.2))) (1 : Int))).toNat * 5) [(w64 (shrI .u64 (IntKind.u64.wrap (w64 (s1.1 + s1.2))) (1 : Int))).toNat])) (by simp) (OpJ.indexS Try.underlying23 tyS39 (idx_some hx14).1 (by have := idx_lt hx14; first | (simpa using this) | ((try simp only [List.length_map] at this); (try simp only [List.length_map]); omega)) (L rfl) (q 25) (q 26))) rfl (c (OpJ.loadR (e := 39) (sz := 5) tyS39 (get_map e_api_Entry (idx_some hx15).2) (o := 0) (At.here _) (by rfl) (by rfl) (by rfl) (L rfl) (q 27)) rfl (c (lb hN 37 _ _ tyS37 (At.here _) (q 4)) rfl (cg (OpJ.callVal (args := [(.d (e_api_Entry x15)), (.d (e_api_Prefix a1))]) (caps := []) hB fnOk81 [] (table_find_1_ac x15 a1 r16 hr16) (by kernel_rfl) (L rfl) (by kernel_rfl) (by kernel_rfl) (OpdL.cons (q 28) (OpdL.cons (q 29) OpdL.nil))) rfl (c (OpJ.lss (L rfl) (q 30) (Opd.int .i64 (0))) rfl cn)))))))) (by kernel_rfl) (by kernel_rfl) ?_
      refine gh [(0, _), (2, _), (4, _), (8, _), (9, _), (10, _), (11, _), (31, _)] [(0, some _), (1004, some _)] hB rfl rfl (by rfl) ?_
      refine AWp.cond rfl (fun hg17 => ?_) (fun hg17 => ?_)
      · replace h := ite_t hg17 h
        refine rg (c (mv hN (q 11)) rfl (c (add6 (L rfl) (q 32) (Opd.int .i64 (1))) rfl (c (OpJ.assign (L rfl) (q 33)) rfl cn))) ?_
        refine blkQ_n ?_
        obtain rfl := Option.some.inj h
        exact ⟨rfl, (Mat.trans (mp [] [(0, (.sref 0 5 0 a0.length)), (2, (.func 81 [])), (4, (.ptr 1004 0 [])), (8, (i6 (a0.length : Int))), (9, (i6 (w64 ((w64 (shrI .u64 (IntKind.u64.wrap (w64 (s1.1 + s1.2))) (1 : Int))) + (1 : Int))))), (10, (i6 s1.2))] [(0, some (we_api_Entry_39_5 a0)), (1004, some (.box 37 (.d (e_api_Prefix a1))))] hB) (mp [] _ _ hB))⟩
      · replace h := ite_f hg17 h
        refine rg (c (mv hN (q 11)) rfl (c (OpJ.assign (L rfl) (q 34)) rfl cn)) ?_
        refine blkQ_n ?_
        obtain rfl := Option.some.inj h
        exact ⟨rfl, (Mat.trans (mp [] [(0, (.sref 0 5 0 a0.length)), (2, (.func 81 [])), (4, (.ptr 1004 0 [])), (8, (i6 (a0.length : Int))), (9, (i6 s1.1)), (10, (i6 (w64 (shrI .u64 (IntKind.u64.wrap (w64 (s1.1 + s1.2))) (1 : Int)))))] [(0, some (we_api_Entry_39_5 a0)), (1004, some (.box 37 (.d (e_api_Prefix a1))))] hB) (mp [] _ _ hB))⟩
    · replace h := ite_f hg13 h
      refine AWp.exit ?_
      refine seqQ_e ?_
      obtain rfl := Option.some.inj h
      exact ⟨(fun hc => by cases hc), rfl, (mp [] _ _ hB)⟩
  · obtain ⟨rfl, hmat⟩ := hR
    refine blkQ_hit ?_
    refine seqQ_n ?_
    refine AWp.ghost hmat ?_
    refine AWp.seq ?_
    refine AWp.cut h (fun m24 : Bool => ([(6, (i6 p12)), (7, (bo m24))] : EL)) (fun m24 : Bool => ([(0, some (we_api_Entry_39_5 a0))] : OL)) (fun m24 h E' O' hmat => ?_) (fun j25 hjj25 h => ?_)
    · refine seqQ_n ?_
      refine AWp.ghost hmat ?_
      refine AWp.ret ?_
      obtain rfl := Option.some.inj h
      exact ⟨.inl rfl, _, _, (kp [(6, _), (7, _)] [(0, some _)] hB rfl rfl (by rfl)), [(i6 p12), (bo m24)], (Res.tmp (by rfl) (by rfl) (Res.tmp (by rfl) (by rfl) Res.nil)), rfl, by rfl, by rfl, by rfl⟩
    · rcases Bool.eq_false_or_eq_true (decide (p12 < (a0.length : Int))) with hg26 | hg26
      · replace h := ite_t hg26 h
        obtain ⟨x27, hx27, h⟩ := bindS h
        obtain ⟨x28, hx28, h⟩ := bindS h
        obtain ⟨r29, hr29, h⟩ := bindS h
        refine dr (c (mv hN (q 9)) rfl (c (mv hN (q 9)) rfl (c (mv hN (q 8)) rfl (c (OpJ.lss (L rfl) (q 36) (q 37)) rfl (c (OpJ.val (v' := .d (.bool true)) (by rw [hg26]) (mv hN (q 38))) rfl (c (OpJ.guarded (g := 39) (by rfl) (mv hN (q 2))) rfl (c (OpJ.guarded (g := 39) (by rfl) (mv hN (q 0))) rfl (c (OpJ.guarded (g := 39) (by rfl) (mv hN (q 9))) rfl (c (OpJ.guarded (g := 39) (by rfl) (OpJ.val (v' := (.ptr 0 (p12.toNat * 5) [p12.toNat])) (by simp) (OpJ.indexS Try.underlying23 tyS39 (idx_some hx27).1 (by have := idx_lt hx27; first | (simpa using this) | ((try simp only [List.length_map] at this); (try simp only [List.length_map]); omega)) (L rfl) (q 41) (q 42)))) rfl (c (OpJ.guarded (g := 39) (by rfl) (OpJ.loadR (e := 39) (sz := 5) tyS39 (get_map e_api_Entry (idx_some hx28).2) (o := 0) (At.here _) (by rfl) (by rfl) (by rfl) (L rfl) (q 43))) rfl (c (OpJ.guarded (g := 39) (by rfl) (lb hN 37 _ _ tyS37 (At.here _) (q 4))) rfl (cg (OpJ.guarded (g := 39) (by rfl) (OpJ.callVal (args := [(.d (e_api_Entry x28)), (.d (e_api_Prefix a1))]) (caps := []) hB fnOk81 [] (table_find_1_ac x28 a1 r29 hr29) (by kernel_rfl) (L rfl) (by kernel_rfl) (by kernel_rfl) (OpdL.cons (q 44) (OpdL.cons (q 45) OpdL.nil)))) rfl (c (OpJ.guarded (g := 39) (by rfl) (OpJ.eqlI (L rfl) (q 46) (Opd.int .i64 (0)))) rfl (c (OpJ.pickT (L rfl) (q 39) (q 47)) rfl (c (OpJ.assign (L rfl) (q 35)) rfl (c (OpJ.assign (L rfl) (q 48)) rfl cn)))))))))))))))) (by kernel_rfl) (by kernel_rfl) ?_
        exact hjj25 _ h _ _ (Mat.trans (mp [] [(6, (i6 p12)), (7, (bo (r29 == (0 : Int))))] [(0, some (we_api_Entry_39_5 a0))] hB) (mp [] _ _ hB))
      · replace h := ite_f hg26 h
        refine dr (c (mv hN (q 9)) rfl (c (mv hN (q 9)) rfl (c (mv hN (q 8)) rfl (c (OpJ.lss (L rfl) (q 36) (q 37)) rfl (c (OpJ.val (v' := .d (.bool false)) (by rw [hg26]) (mv hN (q 38))) rfl (cg (OpJ.skipU (g := 39) (L rfl) (by rfl)) rfl (cg (OpJ.skipU (g := 39) (L rfl) (by rfl)) rfl (cg (OpJ.skipU (g := 39) (L rfl) (by rfl)) rfl (cg (OpJ.skipU (g := 39) (L rfl) (by rfl)) rfl (cg (OpJ.skipU (g := 39) (L rfl) (by rfl)) rfl (cg (OpJ.skipU (g := 39) (L rfl) (by rfl)) rfl (cg (OpJ.skipU (g := 39) (L rfl) (by rfl)) rfl (cg (OpJ.skipU (g := 39) (L rfl) (by rfl)) rfl (c (OpJ.pickF (L rfl) (q 39) (Opd.bool false)) rfl (c (OpJ.assign (L rfl) (q 35)) rfl (c (OpJ.assign (L rfl) (q 48)) rfl cn)))))))))))))))) (by kernel_rfl) (by kernel_rfl) ?_
        exact hjj25 _ h _ _ (Mat.trans (mp [] [(6, (i6 p12)), (7, (bo false))] [(0, some (we_api_Entry_39_5 a0))] hB) (mp [] _ _ hB))

noncomputable def table_find_2 (a0 : (List api_Entry)) (a1 : api_Prefix) : Option (Int × Bool) :=
  (slices_BinarySearchFunc_2 a0 a1).bind fun r1 =>
  some (r1.1, r1.2)
set_option maxHeartbeats 4000000 in
set_option maxRecDepth 100000 in
theorem table_find_2_ac (a0 : (List api_Entry)) (a1 : api_Prefix) (r : Int × Bool) (h : table_find_2 a0 a1 = some r) : AC Try.prog 63 [(.sref 0 5 0 a0.length), (.d (e_api_Prefix a1))] [(0, (.row 39 5 (a0.map e_api_Entry)))] (.tup [(.d (.int .i64 r.1)), (.d (.bool r.2))]) [(0, some (.row 39 5 (a0.map e_api_Entry)))] := by
  refine AC.of_code2 Try.func63 rfl rfl (Nat.le_of_ble_eq_true (by rfl)) fun B hB hN => ?_
  delta table_find_2 at h
  refine sr (cg (OpJ.box hB (nm := 1003) (by decide) (by simp) rfl (ltN hN rfl) (q 1)) rfl (c (OpJ.assign (ltN hN rfl) (Opd.int .i64 (0))) rfl (c (OpJ.assign (ltN hN rfl) (Opd.bool false)) rfl cn))) ?_
  refine gh [(0, _), (3, _)] [(0, some _), (1003, some _)] hB rfl rfl (by rfl) ?_
  refine AWp.seq ?_
  obtain ⟨r1, hr1, h⟩ := bindS h
  refine AWp.region (oc (mv hN (ot 0 (.sref 0 5 0 a0.length)))
  (oc (lb hN 37 (.d (e_api_Prefix a1)) (.d (e_api_Prefix a1)) tyS37 (At.here _) (ot 3 (.ptr 1003 0 [])))
  (oc (OpJ.callFn hB fnOk80 (slices_BinarySearchFunc_2_ac a0 a1 r1 hr1) [(0, 0)] (by kernel_rfl) (ltN hN rfl) (by kernel_rfl) (OpdL.cons (ot 6 (.sref 0 5 0 a0.length)) (OpdL.cons (ot 7 (.d (e_api_Prefix a1))) (OpdL.cons (Opd.func 81) OpdL.nil))))
  (oc (OpJ.extract (v := (i6 r1.1)) (by rfl) rfl (ltN hN rfl) (ot 8 (.tup [(i6 r1.1), (bo r1.2)])))
  (oc (OpJ.extract (v := (bo r1.2)) (by rfl) rfl (ltN hN rfl) (ot 8 (.tup [(i6 r1.1), (bo r1.2)])))
  (oc (OpJ.assign (ltN hN rfl) (ot 9 (i6 r1.1)))
  (oc (OpJ.assign (ltN hN rfl) (ot 10 (bo r1.2)))
  (OpJs.nil)))))))) (by rfl) (by rfl) ?_
  refine seqQ_n ?_
  refine AWp.ghost (mp [] [(4, (i6 r1.1)), (5, (bo r1.2))] [(0, some (we_api_Entry_39_5 a0))] hB) ?_
  refine AWp.ret ?_
  obtain rfl := Option.some.inj h
  exact ⟨.inl rfl, _, _, (kp [(4, _), (5, _)] [(0, some _)] hB rfl rfl (by rfl)), [(i6 r1.1), (bo r1.2)], (Res.tmp (by rfl) (by rfl) (Res.tmp (by rfl) (by rfl) Res.nil)), rfl, by rfl, by rfl, by rfl⟩

noncomputable def ext65_slices_Insert_R (a0 : List api_Entry) (a1 : Int) (a2 : List api_Entry) : Option (List api_Entry) := chk (decide (0 ≤ a1) && decide (a1.toNat ≤ a0.length) && decide (a2.length = 1) && decide (a0.length + 1 ≤ LIM)) <|
  some (a0.take a1.toNat ++ a2 ++ a0.drop a1.toNat)
set_option maxHeartbeats 4000000 in
set_option maxRecDepth 100000 in
theorem ext65_slices_Insert_R_ac (a0 : List api_Entry) (a1 : Int) (a2 : List api_Entry) (r : List api_Entry) (h : ext65_slices_Insert_R a0 a1 a2 = some r) : AC Try.prog 65 [(.sref 0 5 0 a0.length), (.d (.int .i64 a1)), (.sref 1 5 0 a2.length)] [(0, (.row 39 5 (a0.map e_api_Entry))), (1, (.row 39 5 (a2.map e_api_Entry)))] (.sref 900000 5 0 r.length) [(0, none), (1, none), (900000, some (.row 39 5 (r.map e_api_Entry)))] := by
  obtain ⟨hc, h⟩ := chk_some h
  obtain ⟨h0, hi, ⟨v0, rfl⟩, hl⟩ := ins_chk hc
  obtain ⟨i, rfl⟩ : ∃ i : Nat, a1 = (i : Int) := ⟨a1.toNat, by omega⟩
  have hin : ((i : Int)).toNat = i := Int.toNat_natCast i
  rw [hin] at hi h
  obtain rfl := Option.some.inj h
  have hml : (a0.map e_api_Entry).length = a0.length := List.length_map e_api_Entry
  refine AC.of_code3 Try.func65 rfl rfl (Nat.le_of_ble_eq_true (by rfl)) fun B hB hN hpin => ?_
  refine AWp.seq ?_
  refine AWp.region (oc (OpJ.assign (ltN hN rfl) Opd.nils) OpJs.nil) (by rfl) (by rfl) ?_
  refine seqQ_n ?_
  refine AWp.seq ?_
  refine AWp.region (oc (mv hN (ot 0 (.sref 0 5 0 a0.length))) (oc (mv hN (ot 1 (i6 (i : Int))))
    (oc (OpJ.cutS Try.underlying23 tyS39 (obj := (we_api_Entry_39_5 a0)) (l := i) (h := a0.length) (off' := i) (len' := a0.length - i) (.inr ⟨_, _, _, rfl, (ot 11 (i6 (i : Int))), (by omega), hin.symm⟩) (.inl ⟨rfl, rfl, rfl⟩) hi (Nat.le_refl _) (by simp) rfl (ltN hN rfl) (ot 10 (.sref 0 5 0 a0.length)))
    OpJs.nil))) (by rfl) (by rfl) ?_
  refine seqQ_n ?_
  refine AWp.seq ?_
  refine AWp.region (oc (mv hN (ot 2 (.sref 1 5 0 1))) (oc (ov (i6 1) (OpJ.lenS (obj := (we_api_Entry_39_5 [v0])) Try.underlying23 (ltN hN rfl) (ot 13 (.sref 1 5 0 1)))) (oc (OpJ.assign (ltN hN rfl) (ot 14 (i6 1))) OpJs.nil))) (by rfl) (by rfl) ?_
  refine seqQ_n ?_
  refine AWp.seq ?_
  refine AWp.seq ?_
  refine AWp.region (oc (mv hN (ot 7 (i6 1))) (oc (OpJ.eqlI (ltN hN rfl) (ot 15 (i6 1)) (Opd.int .i64 (0))) OpJs.nil)) (by rfl) (by rfl) ?_
  refine seqQ_n ?_
  refine AWp.cond (b := ((1 : Int) == 0)) (by rfl) (fun hg => absurd hg (by decide)) (fun _ => ?_)
  refine AWp.skip ?_
  refine seqQ_n ?_
  refine AWp.seq ?_
  refine AWp.region (oc (mv hN (ot 0 (.sref 0 5 0 a0.length))) (oc (OpJ.lenS (obj := (we_api_Entry_39_5 a0)) Try.underlying23 (ltN hN rfl) (ot 18 (.sref 0 5 0 a0.length))) (oc (OpJ.assign (ltN hN rfl) (ot 19 (i6 (a0.length : Int)))) OpJs.nil))) (by rfl) (by rfl) ?_
  refine seqQ_n ?_
  refine AWp.seq ?_
  refine AWp.seq ?_
  refine AWp.region (oc (mv hN (ot 1 (i6 (i : Int)))) (oc (mv hN (ot 8 (i6 (a0.length : Int)))) (oc (OpJ.eqlI (ltN hN rfl) (ot 20 (i6 (i : Int))) (ot 21 (i6 (a0.length : Int)))) OpJs.nil))) (by rfl) (by rfl) ?_
  refine seqQ_n ?_
  refine AWp.cond (b := ((i : Int) == (a0.length : Int))) (by rfl) (fun hg => ?_) (fun hg => ?_)
  · have hie : i = a0.length := by have := eq_of_beq hg; omega
    subst hie
    rw [ins_end]
    have hlim : decide ((a0 ++ [v0]).length ≤ LIM) = true := decide_eq_true (by rw [List.length_append]; exact hl)
    refine AWp.ghost (Mat.freezeP (n := 1) (e := 39) (sz := 5) (es := [v0].map e_api_Entry) (Ts := [(2, .d (.list 5 ([v0].map e_api_Entry)))]) (Bs := []) (by rfl) (TwT.cons (x := (.sref 1 5 0 1)) (by rfl) (FrzL.all (by rfl)) TwT.nil) TwB.nil) ?_
    refine AWp.seq ?_
    refine AWp.region (oc (mv hN (ot 0 (.sref 0 5 0 a0.length))) (oc (mv hN (ot 2 (qe_api_Entry_5 [v0])))
      (oc (OpJ.append hB Try.underlying23 tyE39 (nm := 1025) (by decide) (es := a0.map e_api_Entry) (ys := [v0].map e_api_Entry) (es' := (a0 ++ [v0]).map e_api_Entry) (len := (a0 ++ [v0]).length) (by simp) (by simp) (map_sz (f := e_api_Entry) (fun _ => rfl)) (by rw [List.length_map]; exact lim_mulN hlim (by decide)) (by rw [List.length_map]; exact lim_leN hlim) (ltN hN rfl) (by simp) (ot 23 (.sref 0 5 0 a0.length)) (ot 24 (qe_api_Entry_5 [v0])))
      (oc (OpJ.assign (ltN hN rfl) (ot 25 (.sref 1025 5 0 (a0 ++ [v0]).length))) OpJs.nil)))) (by rfl) (by rfl) ?_
    refine seqQ_n ?_
    refine AWp.ret ?_
    refine seqQ_r ?_
    exact ⟨.inl rfl, _, _, (mp [(900000, 1025)] [(6, (.sref 900000 5 0 (a0 ++ [v0]).length))] [(900000, some (we_api_Entry_39_5 (a0 ++ [v0])))] hB), [(.sref 900000 5 0 (a0 ++ [v0]).length)], (Res.tmp (by rfl) (by rfl) Res.nil), rfl, by rfl, by rfl, by rfl⟩
  have hlt : i < a0.length := by
    have : ¬ ((i : Int) = (a0.length : Int)) := fun e => by rw [e] at hg; simp at hg
    omega
  rw [ins_len hi, ins_map]
  refine AWp.skip ?_
  refine seqQ_n ?_
  refine AWp.withCap (nm := 0) (by rfl) (fun e => by rw [List.map_eq_nil_iff] at e; subst e; simp at hlt) (hpin 0 (by decide) (by rfl)) (fun c hcap hc1 hc2 => ?_)
  rw [hml] at hc1
  have w1 : IntKind.i64.wrap ((a0.length : Int) + 1) = ((a0.length + 1 : Nat) : Int) := w64_id (by omega) (by omega)
  have w2 : IntKind.i64.wrap ((i : Int) + 1) = ((i + 1 : Nat) : Int) := w64_id (by omega) (by omega)
  have w3 : IntKind.i64.wrap (((a0.length + 1 : Nat) : Int) - (i : Int)) = ((a0.length + 1 - i : Nat) : Int) := (w64_id (by omega) (by omega)).trans (by omega)
  have t1 : (((i + 1 : Nat) : Int)).toNat = i + 1 := Int.toNat_natCast _
  have t2 : (((a0.length + 1 - i : Nat) : Int)).toNat = a0.length + 1 - i := Int.toNat_natCast _
  have t3 : (((a0.length + 1 : Nat) : Int)).toNat = a0.length + 1 := Int.toNat_natCast _
  refine AWp.seq ?_
  refine AWp.seq ?_
  refine AWp.region (oc (mv hN (ot 8 (i6 (a0.length : Int)))) (oc (mv hN (ot 7 (i6 1))) (oc (ov (i6 ((a0.length + 1 : Nat) : Int)) (OpJ.add (ltN hN rfl) (ot 26 (i6 (a0.length : Int))) (ot 27 (i6 1))) (by rw [w1]))
    (oc (mv hN (ot 0 (.sref 0 5 0 a0.length))) (oc (OpJ.capC (es := a0.map e_api_Entry) Try.underlying23 (by decide) hcap (ltN hN rfl) (ot 29 (.sref 0 5 0 a0.length))) (oc (OpJ.gtr (ltN hN rfl) (ot 28 (i6 ((a0.length + 1 : Nat) : Int))) (ot 30 (i6 (c : Int)))) OpJs.nil)))))) (by rfl) (by rfl) ?_
  refine seqQ_n ?_
  refine AWp.cond (b := decide ((c : Int) < ((a0.length + 1 : Nat) : Int))) (by rfl) (fun hg => ?_) (fun hg => ?_)
  · have hg := of_decide_eq_true hg
    refine AWp.seq ?_
    refine AWp.region (oc (mv hN (ot 0 (.sref 0 5 0 a0.length))) (oc (mv hN (ot 1 (i6 (i : Int))))
      (oc (OpJ.cutS Try.underlying23 tyS39 (obj := (we_api_Entry_39_5 a0)) (l := 0) (h := i) (off' := 0) (len' := i) (.inl ⟨rfl, rfl, rfl⟩) (.inr ⟨_, _, _, rfl, (ot 33 (i6 (i : Int))), (by omega), hin.symm⟩) (Nat.zero_le _) hi (by simp) (by simp) (ltN hN rfl) (ot 32 (.sref 0 5 0 a0.length)))
      (oc (mv hN (ot 8 (i6 (a0.length : Int)))) (oc (mv hN (ot 7 (i6 1))) (oc (ov (i6 ((a0.length + 1 : Nat) : Int)) (OpJ.add (ltN hN rfl) (ot 35 (i6 (a0.length : Int))) (ot 36 (i6 1))) (by rw [w1]))
      (oc (mv hN (ot 1 (i6 (i : Int)))) (oc (ov (i6 ((a0.length + 1 - i : Nat) : Int)) (OpJ.sub (ltN hN rfl) (ot 37 (i6 ((a0.length + 1 : Nat) : Int))) (ot 38 (i6 (i : Int)))) (by rw [w3]))
      (oc (OpJ.growZ hB Try.underlying23 Try.underlying3 tyE39 tyZD39 (by rfl) (nm2 := 1040) (by decide) hcap (by rw [hml]; exact hi) (by omega) (by omega) (by omega) (lim_mulN (decide_eq_true (show i + ((a0.length + 1 - i : Nat) : Int).toNat ≤ 4294967296 by omega)) (by decide)) (len := a0.length + 1) (by omega) (es' := (a0.map e_api_Entry).take i ++ List.replicate ((a0.map e_api_Entry).length + 1 - i) (D.st [(.st [(.st [(.bool false), (.int .u64 0), (.int .u64 0)]), (.int .i64 0)]), (.int .i64 0)])) (by rw [t2, hml]) (ltN hN rfl) (ot 34 (.sref 0 5 0 i)) (ot 39 (i6 ((a0.length + 1 - i : Nat) : Int))))
      (oc (OpJ.assign (ltN hN rfl) (ot 40 (.sref 1040 5 0 (a0.length + 1)))) OpJs.nil)))))))))) (by rfl) (by rfl) ?_
    refine seqQ_n ?_
    refine AWp.seq ?_
    refine AWp.region (oc (mv hN (ot 9 (.sref 1040 5 0 (a0.length + 1)))) (oc (mv hN (ot 1 (i6 (i : Int))))
      (oc (OpJ.cutS Try.underlying23 tyS39 (obj := (.row 39 5 ((a0.map e_api_Entry).take i ++ List.replicate ((a0.map e_api_Entry).length + 1 - i) (D.st [(.st [(.st [(.bool false), (.int .u64 0), (.int .u64 0)]), (.int .i64 0)]), (.int .i64 0)])))) (l := i) (h := a0.length + 1) (off' := i) (len' := a0.length + 1 - i) (.inr ⟨_, _, _, rfl, (ot 42 (i6 (i : Int))), (by omega), hin.symm⟩) (.inl ⟨rfl, rfl, rfl⟩) (by omega) (Nat.le_refl _) (by simp) rfl (ltN hN rfl) (ot 41 (.sref 1040 5 0 (a0.length + 1))))
      (oc (mv hN (ot 2 (.sref 1 5 0 1)))
      (oc (OpJ.copyRR Try.underlying23 tyS39 1040 1 (di := i) (dl := a0.length + 1 - i) (so := 0) (sl := 1) (k := 1) (es := (a0.map e_api_Entry).take i ++ List.replicate ((a0.map e_api_Entry).length + 1 - i) (D.st [(.st [(.st [(.bool false), (.int .u64 0), (.int .u64 0)]), (.int .i64 0)]), (.int .i64 0)])) (es2 := [e_api_Entry v0]) (es' := (a0.map e_api_Entry).take i ++ [e_api_Entry v0] ++ List.replicate ((a0.map e_api_Entry).length - i) (D.st [(.st [(.st [(.bool false), (.int .u64 0), (.int .u64 0)]), (.int .i64 0)]), (.int .i64 0)])) (no := [(1040, (.row 39 5 ((a0.map e_api_Entry).take i ++ List.replicate ((a0.map e_api_Entry).length + 1 - i) (D.st [(.st [(.st [(.bool false), (.int .u64 0), (.int .u64 0)]), (.int .i64 0)]), (.int .i64 0)])))), (1, (.row 39 5 [e_api_Entry v0]))]) (by rfl) (by rfl) (by decide) (Nat.min_eq_left (by omega)) (by simp) (by rw [List.length_append, List.length_take, hml, Nat.min_eq_left hi]; omega) (ins_g1 (by rw [hml]; exact hi)) (ltN hN rfl) (ot 43 (.sref 1040 5 i (a0.length + 1 - i))) (ot 44 (.sref 1 5 0 1)))
      OpJs.nil))))) (by rfl) (by rfl) ?_
    refine seqQ_n ?_
    refine AWp.seq ?_
    refine AWp.draws (by kernel_rfl) (oc (mv hN (ot 9 (.sref 1040 5 0 (a0.length + 1)))) (oc (mv hN (ot 1 (i6 (i : Int)))) (oc (mv hN (ot 7 (i6 1))) (oc (ov (i6 ((i + 1 : Nat) : Int)) (OpJ.add (ltN hN rfl) (ot 47 (i6 (i : Int))) (ot 48 (i6 1))) (by rw [w2]))
      (oc (OpJ.cutS Try.underlying23 tyS39 (obj := (.row 39 5 ((a0.map e_api_Entry).take i ++ [e_api_Entry v0] ++ List.replicate ((a0.map e_api_Entry).length - i) (D.st [(.st [(.st [(.bool false), (.int .u64 0), (.int .u64 0)]), (.int .i64 0)]), (.int .i64 0)])))) (l := i + 1) (h := a0.length + 1) (off' := i + 1) (len' := a0.length - i) (.inr ⟨_, _, _, rfl, (ot 49 (i6 ((i + 1 : Nat) : Int))), (by omega), t1.symm⟩) (.inl ⟨rfl, rfl, rfl⟩) (by omega) (Nat.le_refl _) (by simp) (by omega) (ltN hN rfl) (ot 46 (.sref 1040 5 0 (a0.length + 1))))
      (oc (mv hN (ot 0 (.sref 0 5 0 a0.length))) (oc (mv hN (ot 1 (i6 (i : Int))))
      (oc (OpJ.cutS Try.underlying23 tyS39 (obj := (we_api_Entry_39_5 a0)) (l := i) (h := a0.length) (off' := i) (len' := a0.length - i) (.inr ⟨_, _, _, rfl, (ot 52 (i6 (i : Int))), (by omega), hin.symm⟩) (.inl ⟨rfl, rfl, rfl⟩) hi (Nat.le_refl _) (by simp) rfl (ltN hN rfl) (ot 51 (.sref 0 5 0 a0.length)))
      (oc (OpJ.copyRR Try.underlying23 tyS39 1040 0 (di := i + 1) (dl := a0.length - i) (so := i) (sl := a0.length - i) (k := a0.length - i) (es := (a0.map e_api_Entry).take i ++ [e_api_Entry v0] ++ List.replicate ((a0.map e_api_Entry).length - i) (D.st [(.st [(.st [(.bool false), (.int .u64 0), (.int .u64 0)]), (.int .i64 0)]), (.int .i64 0)])) (es2 := a0.map e_api_Entry) (es' := (a0.map e_api_Entry).take i ++ [e_api_Entry v0] ++ (a0.map e_api_Entry).drop i) (no := [(1040, (.row 39 5 ((a0.map e_api_Entry).take i ++ [e_api_Entry v0] ++ List.replicate ((a0.map e_api_Entry).length - i) (D.st [(.st [(.st [(.bool false), (.int .u64 0), (.int .u64 0)]), (.int .i64 0)]), (.int .i64 0)])))), (0, (we_api_Entry_39_5 a0))]) (by rfl) (by rfl) (by omega) (Nat.min_self _) (by rw [hml]; omega) (by simp only [List.length_append, List.length_take, hml, List.length_cons, List.length_nil]; omega) ((ins_g2 (z := (D.st [(.st [(.st [(.bool false), (.int .u64 0), (.int .u64 0)]), (.int .i64 0)]), (.int .i64 0)])) (by rw [hml]; exact hi)).trans (by rw [hml])) (ltN hN rfl) (ot 50 (.sref 1040 5 (i + 1) (a0.length - i))) (ot 53 (.sref 0 5 i (a0.length - i))))
      OpJs.nil))))))))) (by kernel_rfl) (by rfl) (by rfl) ?_
    refine seqQ_n ?_
    refine AWp.seq ?_
    refine AWp.region (oc (mv hN (ot 9 (.sref 1040 5 0 (a0.length + 1)))) (oc (OpJ.assign (ltN hN rfl) (ot 55 (.sref 1040 5 0 (a0.length + 1)))) OpJs.nil)) (by rfl) (by rfl) ?_
    refine seqQ_n ?_
    refine AWp.ret ?_
    refine seqQ_r ?_
    exact ⟨.inl rfl, _, _, (mp [(900000, 1040)] [(6, (.sref 900000 5 0 (a0.length + 1)))] [(900000, some (.row 39 5 ((a0.map e_api_Entry).take i ++ [e_api_Entry v0] ++ (a0.map e_api_Entry).drop i)))] hB), [(.sref 900000 5 0 (a0.length + 1))], (Res.tmp (by rfl) (by rfl) Res.nil), rfl, by rfl, by rfl, by rfl⟩
  have hg := of_decide_eq_false hg
  refine AWp.skip ?_
  refine seqQ_n ?_
  refine AWp.seq ?_
  refine AWp.region (oc (mv hN (ot 0 (.sref 0 5 0 a0.length))) (oc (mv hN (ot 8 (i6 (a0.length : Int)))) (oc (mv hN (ot 7 (i6 1))) (oc (ov (i6 ((a0.length + 1 : Nat) : Int)) (OpJ.add (ltN hN rfl) (ot 57 (i6 (a0.length : Int))) (ot 58 (i6 1))) (by rw [w1]))
    (oc (OpJ.cutC (es := a0.map e_api_Entry) (h := a0.length + 1) Try.underlying23 tyS39 (by decide) hcap (by omega) t3.symm (by omega) (ltN hN rfl) (ot 56 (.sref 0 5 0 a0.length)) (ot 59 (i6 ((a0.length + 1 : Nat) : Int))))
    (oc (OpJ.assign (ltN hN rfl) (ot 60 (.sref 0 5 0 (a0.length + 1)))) OpJs.nil)))))) (by rfl) (by rfl) ?_
  refine seqQ_n ?_
  refine AWp.seq ?_
  refine AWp.seq ?_
  refine AWp.region (oc (mv hN (ot 2 (.sref 1 5 0 1))) (oc (mv hN (ot 0 (.sref 0 5 0 (a0.length + 1)))) (oc (mv hN (ot 1 (i6 (i : Int)))) (oc (mv hN (ot 7 (i6 1))) (oc (ov (i6 ((i + 1 : Nat) : Int)) (OpJ.add (ltN hN rfl) (ot 63 (i6 (i : Int))) (ot 64 (i6 1))) (by rw [w2]))
    (oc (OpJ.cutS Try.underlying23 tyS39 (obj := (we_api_Entry_39_5 a0)) (l := i + 1) (h := a0.length + 1) (off' := i + 1) (len' := a0.length - i) (.inr ⟨_, _, _, rfl, (ot 65 (i6 ((i + 1 : Nat) : Int))), (by omega), t1.symm⟩) (.inl ⟨rfl, rfl, rfl⟩) (by omega) (Nat.le_refl _) (by simp) (by omega) (ltN hN rfl) (ot 62 (.sref 0 5 0 (a0.length + 1))))
    (oc (OpJ.apartC (tR := 4) (nm := 1) (nm2 := 0) (e1 := 39) (e2 := 39) (es := [e_api_Entry v0]) (es2 := a0.map e_api_Entry) Try.func82 rfl rfl (by kernel_rfl) (by kernel_rfl) Try.underlying23 tyS39 (by decide) (by decide) (by omega) (by decide) (ltN hN rfl) (ot 61 (.sref 1 5 0 1)) (ot 66 (.sref 0 5 (i + 1) (a0.length - i))))
    (oc (OpJ.not (ltN hN rfl) (ot 67 (bo false))) OpJs.nil)))))))) (by rfl) (by rfl) ?_
  refine seqQ_n ?_
  refine AWp.cond (b := (!false)) (by rfl) (fun _ => ?_) (fun hg => absurd hg (by decide))
  refine AWp.seq ?_
  refine AWp.draws (by kernel_rfl) (oc (mv hN (ot 0 (.sref 0 5 0 (a0.length + 1)))) (oc (mv hN (ot 1 (i6 (i : Int)))) (oc (mv hN (ot 7 (i6 1))) (oc (ov (i6 ((i + 1 : Nat) : Int)) (OpJ.add (ltN hN rfl) (ot 70 (i6 (i : Int))) (ot 71 (i6 1))) (by rw [w2]))
    (oc (OpJ.cutS Try.underlying23 tyS39 (obj := (we_api_Entry_39_5 a0)) (l := i + 1) (h := a0.length + 1) (off' := i + 1) (len' := a0.length - i) (.inr ⟨_, _, _, rfl, (ot 72 (i6 ((i + 1 : Nat) : Int))), (by omega), t1.symm⟩) (.inl ⟨rfl, rfl, rfl⟩) (by omega) (Nat.le_refl _) (by simp) (by omega) (ltN hN rfl) (ot 69 (.sref 0 5 0 (a0.length + 1))))
    (oc (mv hN (ot 0 (.sref 0 5 0 (a0.length + 1)))) (oc (mv hN (ot 1 (i6 (i : Int))))
    (oc (OpJ.cutS Try.underlying23 tyS39 (obj := (we_api_Entry_39_5 a0)) (l := i) (h := a0.length + 1) (off' := i) (len' := a0.length + 1 - i) (.inr ⟨_, _, _, rfl, (ot 75 (i6 (i : Int))), (by omega), hin.symm⟩) (.inl ⟨rfl, rfl, rfl⟩) (by omega) (Nat.le_refl _) (by simp) rfl (ltN hN rfl) (ot 74 (.sref 0 5 0 (a0.length + 1))))
    (oc (OpJ.copyRR Try.underlying23 tyS39 0 0 (di := i + 1) (dl := a0.length - i) (so := i) (sl := a0.length + 1 - i) (k := a0.length - i) (es := a0.map e_api_Entry) (es2 := a0.map e_api_Entry) (es' := (a0.map e_api_Entry).take (i + 1) ++ (a0.map e_api_Entry).drop i) (no := [(0, (we_api_Entry_39_5 a0))]) (by rfl) (by rfl) (by omega) (Nat.min_eq_right (by omega)) (by rw [hml]; omega) (by rw [hml]; omega) (ins_i1.trans (by rw [hml])) (ltN hN rfl) (ot 73 (.sref 0 5 (i + 1) (a0.length - i))) (ot 76 (.sref 0 5 i (a0.length + 1 - i))))
    OpJs.nil))))))))) (by kernel_rfl) (by rfl) (by rfl) ?_
  refine seqQ_n ?_
  refine AWp.seq ?_
  refine AWp.region (oc (mv hN (ot 0 (.sref 0 5 0 (a0.length + 1)))) (oc (mv hN (ot 1 (i6 (i : Int))))
    (oc (OpJ.cutS Try.underlying23 tyS39 (obj := (.row 39 5 ((a0.map e_api_Entry).take (i + 1) ++ (a0.map e_api_Entry).drop i))) (l := i) (h := a0.length + 1) (off' := i) (len' := a0.length + 1 - i) (.inr ⟨_, _, _, rfl, (ot 79 (i6 (i : Int))), (by omega), hin.symm⟩) (.inl ⟨rfl, rfl, rfl⟩) (by omega) (Nat.le_refl _) (by simp) rfl (ltN hN rfl) (ot 78 (.sref 0 5 0 (a0.length + 1))))
    (oc (mv hN (ot 2 (.sref 1 5 0 1)))
    (oc (OpJ.copyRR Try.underlying23 tyS39 0 1 (di := i) (dl := a0.length + 1 - i) (so := 0) (sl := 1) (k := 1) (es := (a0.map e_api_Entry).take (i + 1) ++ (a0.map e_api_Entry).drop i) (es2 := [e_api_Entry v0]) (es' := (a0.map e_api_Entry).take i ++ [e_api_Entry v0] ++ (a0.map e_api_Entry).drop i) (no := [(0, (.row 39 5 ((a0.map e_api_Entry).take (i + 1) ++ (a0.map e_api_Entry).drop i))), (1, (.row 39 5 [e_api_Entry v0]))]) (by rfl) (by rfl) (by decide) (Nat.min_eq_left (by omega)) (by simp) (by simp only [List.length_append, List.length_take, List.length_drop, hml]; omega) (ins_i2 (by rw [hml]; exact hlt)) (ltN hN rfl) (ot 80 (.sref 0 5 i (a0.length + 1 - i))) (ot 81 (.sref 1 5 0 1)))
    OpJs.nil))))) (by rfl) (by rfl) ?_
  refine seqQ_n ?_
  refine AWp.seq ?_
  refine AWp.region (oc (mv hN (ot 0 (.sref 0 5 0 (a0.length + 1)))) (oc (OpJ.assign (ltN hN rfl) (ot 83 (.sref 0 5 0 (a0.length + 1)))) OpJs.nil)) (by rfl) (by rfl) ?_
  refine seqQ_n ?_
  refine AWp.ret ?_
  refine seqQ_r ?_
  exact ⟨.inl rfl, _, _, (mp [(900000, 0)] [(6, (.sref 900000 5 0 (a0.length + 1)))] [(900000, some (.row 39 5 ((a0.map e_api_Entry).take i ++ [e_api_Entry v0] ++ (a0.map e_api_Entry).drop i)))] hB), [(.sref 900000 5 0 (a0.length + 1))], (Res.tmp (by rfl) (by rfl) Res.nil), rfl, by rfl, by rfl, by rfl⟩

noncomputable def table_Put (a0 : (List api_Entry)) (a1 : api_Prefix) (a2 : Int) : Option ((List api_Entry) × Int) :=
  jn (fun m5 : Bool =>
  (if m5 = true then
  some (([] : List api_Entry), (1 : Int))
  else
  (ext64_slices_Clone_R a0).bind fun r8 =>
  (table_find_2 r8 a1).bind fun r9 =>
  jn (fun m15 : (List api_Entry) =>
  some (m15, (0 : Int))) (fun j16 =>
  (if r9.2 = true then
  (idx r8 r9.1).bind fun x18 =>
  (idx r8 r9.1).bind fun x19 =>
  j16 (r8.set r9.1.toNat (api_Entry.mk x19.fPrefix a2))
  else
  (if ((r8.length : Int) == (512 : Int)) = true then
  some (([] : List api_Entry), (3 : Int))
  else
  (ext65_slices_Insert_R r8 r9.1 ([(api_Entry.mk a1 a2)] : List api_Entry)).bind fun r21 =>
  j16 r21))))) (fun j6 =>
  (table_Valid a0).bind fun r22 =>
  (if (!r22) = true then
  j6 true
  else
  (prefix_Valid a1).bind fun r24 =>
  j6 (!r24)))
set_option maxHeartbeats 4000000 in
set_option maxRecDepth 100000 in
theorem table_Put_ac (a0 : (List api_Entry)) (a1 : api_Prefix) (a2 : Int) (r : (List api_Entry) × Int) (h : table_Put a0 a1 a2 = some r) : AC Try.prog 33 [(.d (.list 5 (a0.map e_api_Entry))), (.d (e_api_Prefix a1)), (.d (.int .i64 a2))] [] (.tup [(.d (.list 5 (r.1.map e_api_Entry))), (.d (.int .i64 r.2))]) [] := by
  refine AC.of_code2 Try.func33 rfl rfl (Nat.le_of_ble_eq_true (by rfl)) fun B hB hN => ?_
  have L {d : Nat} (h : Nat.blt d Try.f33.ntmps = true) : d < B.N := ltN hN h
  delta table_Put at h
  refine sr (cg (OpJ.box hB (nm := 1004) (by decide) (by simp) rfl (L rfl) (q 1)) rfl (c (OpJ.assign (L rfl) Opd.nils) rfl (c (OpJ.assign (L rfl) (Opd.int .i64 (0))) rfl cn))) ?_
  refine gh [(0, _), (2, _), (4, _)] [(1004, some _)] hB rfl rfl (by rfl) ?_
  refine AWp.seq ?_
  refine AWp.seq ?_
  refine AWp.cut h (fun m5 : Bool => ([(0, (qe_api_Entry_5 a0)), (2, (i6 a2)), (4, (.ptr 1004 0 [])), (18, (bo m5))] : EL)) (fun m5 : Bool => ([(1004, some (.box 37 (.d (e_api_Prefix a1))))] : OL)) (fun m5 h E' O' hmat => ?_) (fun j6 hjj6 h => ?_)
  · refine seqQ_n ?_
    refine AWp.ghost hmat ?_
    refine AWp.cond rfl (fun hg7 => ?_) (fun hg7 => ?_)
    · replace h := ite_t hg7 h
      refine sr (c (OpJ.assign (L rfl) Opd.nils) rfl (c (OpJ.assign (L rfl) (Opd.int .i64 (1))) rfl cn)) ?_
      refine gh [(6, _), (7, _)] [] hB rfl rfl (by rfl) ?_
      refine AWp.ret ?_
      refine seqQ_r ?_
      obtain rfl := Option.some.inj h
      exact ⟨.inl rfl, _, _, (Mat.trans (Mat.coeP (Ts := [(6, (qe_api_Entry_5 ([] : List api_Entry)))]) (Bs := []) (TwT.cons (x := .nils) (by rfl) (Tw.leaf ⟨_, (Co.nils 5), rfl⟩) TwT.nil) TwB.nil) (mp [] [(6, (qe_api_Entry_5 ([] : List api_Entry))), (7, (i6 1))] [] hB)), [(qe_api_Entry_5 ([] : List api_Entry)), (i6 1)], (Res.tmp (by rfl) (by rfl) (Res.tmp (by rfl) (by rfl) Res.nil)), rfl, by rfl, by rfl, by rfl⟩
    · replace h := ite_f hg7 h
      refine AWp.skip ?_
      refine seqQ_n ?_
      refine AWp.seq ?_
      obtain ⟨r8, hr8, h⟩ := bindS h
      refine AWp.region (oc (mv hN (ot 0 (qe_api_Entry_5 a0)))
        (oc (OpJ.callFn hB fnOk64 (ext64_slices_Clone_R_ac a0 r8 hr8) [(900000, 100200)] (by kernel_rfl) (L rfl) (by kernel_rfl) (OpdL.cons (ot 19 (qe_api_Entry_5 a0)) OpdL.nil))
        (oc (OpJ.assign (L rfl) (ot 20 (.sref 100200 5 0 r8.length)))
        (OpJs.nil)))) (by rfl) (by rfl) ?_
      refine seqQ_n ?_
      refine AWp.ghost (mp [] [(2, (i6 a2)), (4, (.ptr 1004 0 [])), (8, (.sref 100200 5 0 r8.length))] [(1004, some (.box 37 (.d (e_api_Prefix a1)))), (100200, some (we_api_Entry_39_5 r8))] hB) ?_
      refine AWp.seq ?_
      obtain ⟨r9, hr9, h⟩ := bindS h
      refine AWp.region (oc (mv hN (ot 8 (.sref 100200 5 0 r8.length)))
        (oc (lb hN 37 (.d (e_api_Prefix a1)) (.d (e_api_Prefix a1)) tyS37 (At.here _) (ot 4 (.ptr 1004 0 [])))
        (oc (OpJ.callFn hB fnOk63 (table_find_2_ac r8 a1 r9 hr9) [(0, 100200)] (by kernel_rfl) (L rfl) (by kernel_rfl) (OpdL.cons (ot 22 (.sref 100200 5 0 r8.length)) (OpdL.cons (ot 23 (.d (e_api_Prefix a1))) OpdL.nil)))
        (oc (mv hN (ot 24 (.tup [(i6 r9.1), (bo r9.2)])))
        (oc (OpJ.extract (v := (i6 r9.1)) (by rfl) rfl (L rfl) (ot 21 (.tup [(i6 r9.1), (bo r9.2)])))
        (oc (OpJ.extract (v := (bo r9.2)) (by rfl) rfl (L rfl) (ot 21 (.tup [(i6 r9.1), (bo r9.2)])))
        (oc (OpJ.assign (L rfl) (ot 25 (i6 r9.1)))
        (oc (OpJ.assign (L rfl) (ot 26 (bo r9.2)))
        (OpJs.nil))))))))) (by rfl) (by rfl) ?_
      refine seqQ_n ?_
      refine AWp.ghost (mp [] [(2, (i6 a2)), (4, (.ptr 1004 0 [])), (8, (.sref 100200 5 0 r8.length)), (9, (i6 r9.1)), (10, (bo r9.2))] [(1004, some (.box 37 (.d (e_api_Prefix a1)))), (100200, some (we_api_Entry_39_5 r8))] hB) ?_
      refine AWp.seq ?_
      refine AWp.block ?_
      refine sr (c (mv hN (q 10)) rfl (c (OpJ.assign (L rfl) (q 35)) rfl cn)) ?_
      refine gh [(2, _), (4, _), (8, _), (9, _), (34, _)] [(1004, some _), (100200, some _)] hB rfl rfl (by rfl) ?_
      refine AWp.cut h (fun m15 : (List api_Entry) => ([(8, (.sref 3008 5 0 m15.length))] : EL)) (fun m15 : (List api_Entry) => ([(3008, some (we_api_Entry_39_5 m15))] : OL)) (fun m15 h E' O' hmat => ?_) (fun j16 hjj16 h => ?_)
      · refine blkQ_n ?_
        refine seqQ_n ?_
        refine AWp.ghost hmat ?_
        refine sr (c (mv hN (q 8)) rfl (c (OpJ.assign (L rfl) (q 45)) rfl (c (OpJ.assign (L rfl) (Opd.int .i64 (0))) rfl cn))) ?_
        refine gh [(6, _), (7, _)] [(3008, some _)] hB rfl rfl (by rfl) ?_
        refine AWp.ret ?_
        obtain rfl := Option.some.inj h
        exact ⟨.inl rfl, _, _, (Mat.trans (Mat.freezeP (n := 3008) (e := 39) (sz := 5) (es := m15.map e_api_Entry) (Ts := [(6, (qe_api_Entry_5 m15))]) (Bs := []) (by rfl) (TwT.cons (x := (.sref 3008 5 0 m15.length)) (by rfl) (FrzL.all (by first | rfl | (simp; done) | (simp; omega))) TwT.nil) TwB.nil) (mp [] [(6, (qe_api_Entry_5 m15)), (7, (i6 0))] [] hB)), [(qe_api_Entry_5 m15), (i6 0)], (Res.tmp (by rfl) (by rfl) (Res.tmp (by rfl) (by rfl) Res.nil)), rfl, by rfl, by rfl, by rfl⟩
      · refine AWp.cond rfl (fun hg17 => ?_) (fun hg17 => ?_)
        · replace h := ite_t hg17 h
          obtain ⟨x18, hx18, h⟩ := bindS h
          obtain ⟨x19, hx19, h⟩ := bindS h
          refine rg (c (mv hN (q 8)) rfl (c (mv hN (q 9)) rfl (c (mv hN (q 2)) rfl (c (OpJ.val (v' := (.ptr 100200 (r9.1.toNat * 5) [r9.1.toNat])) (by simp) (OpJ.indexS Try.underlying23 tyS39 (idx_some hx18).1 (by have := idx_lt hx18; first | (simpa using this) | ((try simp only [List.length_map] at this); (try simp only [List.length_map]); omega)) (L rfl) (q 36) (q 37))) rfl (c (ov (.ptr 100200 ((r9.1.toNat * 5) + 4) [r9.1.toNat, 1]) (fp hN Try.underlying39 4 tyS3 _ (q 39))) rfl (cg (OpJ.storeR (e := 39) (sz := 5) (es' := (r8.set r9.1.toNat (api_Entry.mk x19.fPrefix a2)).map e_api_Entry) tyS3 (get_map e_api_Entry (idx_some hx19).2) (o := 4) (SetAt.dst1 (by rfl) (by rfl) (SetAt.here _ _) (by rfl) (by rfl) (by first | rfl | omega)) (by rfl) (map_set _ _ _ _) (by rfl) (by rfl) (q 40) (q 38)) rfl cn)))))) ?_
          exact hjj16 _ h _ _ (Mat.trans (mp [] [(8, (.sref 100200 5 0 r8.length))] [(100200, some (we_api_Entry_39_5 (r8.set r9.1.toNat (api_Entry.mk x19.fPrefix a2))))] hB) (Mat.trans (Mat.lenP (Ts := [(8, (.sref 100200 5 0 ((r8.set r9.1.toNat (api_Entry.mk x19.fPrefix a2)).length)))]) (Bs := []) (TwT.cons (x := (.sref 100200 5 0 r8.length)) (by rfl) (Tw.leaf ⟨_, _, _, _, _, rfl, rfl, (by first | rfl | (simp; done) | (simp; omega))⟩) TwT.nil) TwB.nil) (mp [(3008, 100200)] _ _ hB)))
        · replace h := ite_f hg17 h
          refine sr (c (mv hN (q 8)) rfl (c (OpJ.lenS Try.underlying23 (L rfl) (q 42)) rfl (c (OpJ.eqlI (L rfl) (q 43) (Opd.int .i64 (512))) rfl (c (OpJ.assign (L rfl) (q 44)) rfl cn)))) ?_
          refine gh [(2, _), (4, _), (8, _), (9, _), (41, _)] [(1004, some _), (100200, some _)] hB rfl rfl (by rfl) ?_
          refine AWp.cond rfl (fun hg20 => ?_) (fun hg20 => ?_)
          · replace h := ite_t hg20 h
            refine sr (c (OpJ.assign (L rfl) Opd.nils) rfl (c (OpJ.assign (L rfl) (Opd.int .i64 (3))) rfl cn)) ?_
            refine gh [(6, _), (7, _)] [] hB rfl rfl (by rfl) ?_
            refine AWp.ret ?_
            refine blkQ_r ?_
            refine seqQ_r ?_
            obtain rfl := Option.some.inj h
            exact ⟨.inl rfl, _, _, (Mat.trans (Mat.coeP (Ts := [(6, (qe_api_Entry_5 ([] : List api_Entry)))]) (Bs := []) (TwT.cons (x := .nils) (by rfl) (Tw.leaf ⟨_, (Co.nils 5), rfl⟩) TwT.nil) TwB.nil) (mp [] [(6, (qe_api_Entry_5 ([] : List api_Entry))), (7, (i6 (3 : Int)))] [] hB)), [(qe_api_Entry_5 ([] : List api_Entry)), (i6 (3 : Int))], (Res.tmp (by rfl) (by rfl) (Res.tmp (by rfl) (by rfl) Res.nil)), rfl, by rfl, by rfl, by rfl⟩
          · replace h := ite_f hg20 h
            obtain ⟨r21, hr21, h⟩ := bindS h
            refine AWp.region (oc (mv hN (ot 8 (.sref 100200 5 0 r8.length)))
              (oc (mv hN (ot 9 (i6 r9.1)))
              (oc (lb hN 37 (.d (e_api_Prefix a1)) (.d (e_api_Prefix a1)) tyS37 (At.here _) (ot 4 (.ptr 1004 0 [])))
              (oc (mv hN (ot 2 (i6 a2)))
              (oc (OpJ.coe (v := (.st [(.d (e_api_Prefix a1)), (i6 a2)])) (y := (.st [(e_api_Prefix a1), (.int .i64 a2)])) (Co.st (CoL.cons (Co.d _) (CoL.cons (Co.d _) CoL.nil))) rfl (OpJ.build (places := [(0, 4), (4, 1)]) ⟨Try.underlying39, fun w => by kernel_rfl⟩ tyZS39 (Opds.cons (ot 29 (.d (e_api_Prefix a1))) (Opds.cons (ot 30 (i6 a2)) Opds.nil)) (by kernel_rfl) (r := (.st [(.d (e_api_Prefix a1)), (i6 a2)])) (by rfl) (L rfl)))
              (oc (OpJ.buildSliceR Try.underlying23 tyS39 tyZD39 (by rfl) (by decide) (by decide) hB (nm := 1032) (by decide) (len := ([(api_Entry.mk a1 a2)] : List api_Entry).length) (by rfl) (Opds.cons (ot 31 (.d (.st [(e_api_Prefix a1), (.int .i64 a2)]))) Opds.nil) (by kernel_rfl) (es := ([(api_Entry.mk a1 a2)] : List api_Entry).map e_api_Entry) (by rfl) (by rfl) (by kernel_rfl) (by simp) (L rfl))
              (oc (OpJ.callFn hB fnOk65 (ext65_slices_Insert_R_ac r8 r9.1 ([(api_Entry.mk a1 a2)] : List api_Entry) r21 hr21) [(0, 100200), (1, 1032), (900000, 100400)] (by kernel_rfl) (L rfl) (by kernel_rfl) (OpdL.cons (ot 27 (.sref 100200 5 0 r8.length)) (OpdL.cons (ot 28 (i6 r9.1)) (OpdL.cons (ot 32 (.sref 1032 5 0 (([(api_Entry.mk a1 a2)] : List api_Entry).length))) OpdL.nil))))
              (oc (OpJ.assign (L rfl) (ot 33 (.sref 100400 5 0 r21.length)))
              (OpJs.nil))))))))) (by rfl) (by rfl) ?_
            exact hjj16 _ h _ _ (Mat.trans (mp [] [(8, (.sref 100400 5 0 r21.length))] [(100400, some (we_api_Entry_39_5 r21))] hB) (mp [(3008, 100400)] _ _ hB))
  · obtain ⟨r22, hr22, h⟩ := bindS h
    rcases Bool.eq_false_or_eq_true (!r22) with hg23 | hg23
    · replace h := ite_t hg23 h
      refine rg (c (mv hN (q 0)) rfl (cg (OpJ.callFn hB fnOk23 (table_Valid_ac a0 r22 hr22) [] (by kernel_rfl) (L rfl) (by kernel_rfl) (OpdL.cons (q 11) OpdL.nil)) rfl (c (OpJ.not (L rfl) (q 12)) rfl (c (OpJ.val (v' := .d (.bool true)) (by rw [hg23]) (mv hN (q 13))) rfl (cg (OpJ.skipU (g := 14) (L rfl) (by rfl)) rfl (cg (OpJ.skipU (g := 14) (L rfl) (by rfl)) rfl (cg (OpJ.skipU (g := 14) (L rfl) (by rfl)) rfl (c (OpJ.pickT (L rfl) (q 14) (Opd.bool true)) rfl cn)))))))) ?_
      exact hjj6 _ h _ _ (Mat.trans (mp [] [(0, (qe_api_Entry_5 a0)), (2, (i6 a2)), (4, (.ptr 1004 0 [])), (18, (bo true))] [(1004, some (.box 37 (.d (e_api_Prefix a1))))] hB) (mp [] _ _ hB))
    · replace h := ite_f hg23 h
      obtain ⟨r24, hr24, h⟩ := bindS h
      refine rg (c (mv hN (q 0)) rfl (cg (OpJ.callFn hB fnOk23 (table_Valid_ac a0 r22 hr22) [] (by kernel_rfl) (L rfl) (by kernel_rfl) (OpdL.cons (q 11) OpdL.nil)) rfl (c (OpJ.not (L rfl) (q 12)) rfl (c (OpJ.val (v' := .d (.bool false)) (by rw [hg23]) (mv hN (q 13))) rfl (c (OpJ.guarded (g := 14) (by rfl) (lb hN 37 _ _ tyS37 (At.here _) (q 4))) rfl (cg (OpJ.guarded (g := 14) (by rfl) (OpJ.callFn hB fnOk60 (prefix_Valid_ac a1 r24 hr24) [] (by kernel_rfl) (L rfl) (by kernel_rfl) (OpdL.cons (q 15) OpdL.nil))) rfl (c (OpJ.guarded (g := 14) (by rfl) (OpJ.not (L rfl) (q 16))) rfl (c (OpJ.pickF (L rfl) (q 14) (q 17)) rfl cn)))))))) ?_
      exact hjj6 _ h _ _ (Mat.trans (mp [] [(0, (qe_api_Entry_5 a0)), (2, (i6 a2)), (4, (.ptr 1004 0 [])), (18, (bo (!r24)))] [(1004, some (.box 37 (.d (e_api_Prefix a1))))] hB) (mp [] _ _ hB))

noncomputable def ext66_slices_Delete (a0 : List api_Entry) (a1 : Int) (a2 : Int) : Option (List api_Entry) := chk (decide (0 ≤ a1) && decide (a1 < a2) && decide (a2.toNat ≤ a0.length)) <|
  some (a0.take a1.toNat ++ a0.drop a2.toNat)
set_option maxHeartbeats 4000000 in
set_option maxRecDepth 100000 in
theorem ext66_slices_Delete_ac (a0 : List api_Entry) (a1 : Int) (a2 : Int) (r : List api_Entry) (h : ext66_slices_Delete a0 a1 a2 = some r) : AC Try.prog 66 [(.sref 0 5 0 a0.length), (.d (.int .i64 a1)), (.d (.int .i64 a2))] [(0, (.row 39 5 (a0.map e_api_Entry)))] (.sref 900000 5 0 r.length) [(0, none), (900000, some (.row 39 5 (r.map e_api_Entry)))] := by
  obtain ⟨hc, h⟩ := chk_some h
  obtain ⟨h0, h12, h2⟩ := del_chk hc
  obtain ⟨i, rfl⟩ : ∃ i : Nat, a1 = (i : Int) := ⟨a1.toNat, by omega⟩
  obtain ⟨j, rfl⟩ : ∃ j : Nat, a2 = (j : Int) := ⟨a2.toNat, by omega⟩
  have hin : ((i : Int)).toNat = i := Int.toNat_natCast i
  have hjn : ((j : Int)).toNat = j := Int.toNat_natCast j
  rw [hjn] at h2
  rw [hin, hjn] at h
  obtain rfl := Option.some.inj h
  have hij : i < j := by omega
  have hml : (a0.map e_api_Entry).length = a0.length := List.length_map e_api_Entry
  rw [del_len2 (Nat.le_of_lt hij) h2, del_map]
  refine AC.of_code3 Try.func66 rfl rfl (Nat.le_of_ble_eq_true (by rfl)) fun B hB hN hpin => ?_
  refine AWp.seq ?_
  refine AWp.region (oc (OpJ.assign (ltN hN rfl) Opd.nils) OpJs.nil) (by rfl) (by rfl) ?_
  refine seqQ_n ?_
  refine AWp.seq ?_
  refine AWp.region (oc (mv hN (ot 0 (.sref 0 5 0 a0.length))) (oc (mv hN (ot 1 (i6 (i : Int)))) (oc (mv hN (ot 2 (i6 (j : Int)))) (oc (mv hN (ot 0 (.sref 0 5 0 a0.length))) (oc (OpJ.lenS (obj := (we_api_Entry_39_5 a0)) Try.underlying23 (ltN hN rfl) (ot 11 (.sref 0 5 0 a0.length)))
    (oc (OpJ.cut3J (obj := (we_api_Entry_39_5 a0)) Try.underlying23 tyS39 (by omega) (by omega) (by omega) (by omega) (ltN hN rfl) (ot 8 (.sref 0 5 0 a0.length)) (ot 9 (i6 (i : Int))) (ot 10 (i6 (j : Int))) (ot 12 (i6 (a0.length : Int)))) OpJs.nil)))))) (by rfl) (by rfl) ?_
  refine seqQ_n ?_
  refine AWp.seq ?_
  refine AWp.seq ?_
  refine AWp.region (oc (mv hN (ot 1 (i6 (i : Int)))) (oc (mv hN (ot 2 (i6 (j : Int)))) (oc (OpJ.eqlI (ltN hN rfl) (ot 14 (i6 (i : Int))) (ot 15 (i6 (j : Int)))) OpJs.nil))) (by rfl) (by rfl) ?_
  refine seqQ_n ?_
  refine AWp.cond (b := ((i : Int) == (j : Int))) (by rfl) (fun hg => absurd (eq_of_beq hg) (by omega)) (fun _ => ?_)
  refine AWp.skip ?_
  refine seqQ_n ?_
  refine AWp.seq ?_
  refine AWp.region (oc (mv hN (ot 0 (.sref 0 5 0 a0.length))) (oc (OpJ.lenS (obj := (we_api_Entry_39_5 a0)) Try.underlying23 (ltN hN rfl) (ot 18 (.sref 0 5 0 a0.length))) (oc (OpJ.assign (ltN hN rfl) (ot 19 (i6 (a0.length : Int)))) OpJs.nil))) (by rfl) (by rfl) ?_
  refine seqQ_n ?_
  refine AWp.withCap (nm := 0) (by rfl) (fun e => by rw [List.map_eq_nil_iff] at e; subst e; simp at h2; omega) (hpin 0 (by decide) (by rfl)) (fun c hcap hc1 hc2 => ?_)
  rw [hml] at hc1
  refine AWp.seq ?_
  refine AWp.draws (by kernel_rfl) (oc (mv hN (ot 0 (.sref 0 5 0 a0.length))) (oc (mv hN (ot 1 (i6 (i : Int))))
    (oc (OpJ.cutS Try.underlying23 tyS39 (obj := (we_api_Entry_39_5 a0)) (l := 0) (h := i) (off' := 0) (len' := i) (.inl ⟨rfl, rfl, rfl⟩) (.inr ⟨_, _, _, rfl, (ot 21 (i6 (i : Int))), (by omega), hin.symm⟩) (Nat.zero_le _) (by omega) (by simp) (by simp) (ltN hN rfl) (ot 20 (.sref 0 5 0 a0.length)))
    (oc (mv hN (ot 0 (.sref 0 5 0 a0.length))) (oc (mv hN (ot 2 (i6 (j : Int))))
    (oc (OpJ.cutS Try.underlying23 tyS39 (obj := (we_api_Entry_39_5 a0)) (l := j) (h := a0.length) (off' := j) (len' := a0.length - j) (.inr ⟨_, _, _, rfl, (ot 24 (i6 (j : Int))), (by omega), hjn.symm⟩) (.inl ⟨rfl, rfl, rfl⟩) h2 (Nat.le_refl _) (by simp) rfl (ltN hN rfl) (ot 23 (.sref 0 5 0 a0.length)))
    (oc (OpJ.appendSelf Try.underlying23 tyS39 (by decide) hcap (by rw [hml]; exact hc1) (i := i) (j := j) (m := a0.length - j) (es := a0.map e_api_Entry) (es' := ((a0.map e_api_Entry).take i ++ (a0.map e_api_Entry).drop j ++ (a0.map e_api_Entry).drop (i + (a0.length - j)))) (Nat.le_of_lt hij) (by rw [hml]; omega) (del_g1 hml) (len := i + (a0.length - j)) rfl (ltN hN rfl) (ot 22 (.sref 0 5 0 i)) (ot 25 (.sref 0 5 j (a0.length - j))))
    (oc (OpJ.assign (ltN hN rfl) (ot 26 (.sref 0 5 0 (i + (a0.length - j))))) OpJs.nil)))))))) (by kernel_rfl) (by rfl) (by rfl) ?_
  refine seqQ_n ?_
  refine AWp.seq ?_
  refine AWp.region (oc (mv hN (ot 0 (.sref 0 5 0 (i + (a0.length - j))))) (oc (mv hN (ot 0 (.sref 0 5 0 (i + (a0.length - j))))) (oc (OpJ.lenS (obj := (.row 39 5 (((a0.map e_api_Entry).take i ++ (a0.map e_api_Entry).drop j ++ (a0.map e_api_Entry).drop (i + (a0.length - j)))))) Try.underlying23 (ltN hN rfl) (ot 28 (.sref 0 5 0 (i + (a0.length - j))))) (oc (mv hN (ot 7 (i6 (a0.length : Int))))
    (oc (OpJ.cut2C (es := ((a0.map e_api_Entry).take i ++ (a0.map e_api_Entry).drop j ++ (a0.map e_api_Entry).drop (i + (a0.length - j)))) (l := i + (a0.length - j)) (h := a0.length) Try.underlying23 tyS39 (by decide) hcap (Int.natCast_nonneg _) (Int.natCast_nonneg _) (Int.toNat_natCast _).symm (Int.toNat_natCast _).symm (by omega) hc1 (ltN hN rfl) (ot 27 (.sref 0 5 0 (i + (a0.length - j)))) (ot 29 (i6 ((i + (a0.length - j) : Nat) : Int))) (ot 30 (i6 (a0.length : Int))) (len' := j - i) (by omega))
    (oc (OpJ.clearS (e := 39) (z := (D.st [(.st [(.st [(.bool false), (.int .u64 0), (.int .u64 0)]), (.int .i64 0)]), (.int .i64 0)])) (es := ((a0.map e_api_Entry).take i ++ (a0.map e_api_Entry).drop j ++ (a0.map e_api_Entry).drop (i + (a0.length - j)))) (es' := ((a0.map e_api_Entry).take i ++ (a0.map e_api_Entry).drop j ++ List.replicate (j - i) (D.st [(.st [(.st [(.bool false), (.int .u64 0), (.int .u64 0)]), (.int .i64 0)]), (.int .i64 0)]))) Try.underlying23 tyZD39 (by rfl) (by decide) (by rw [del_len hml (Nat.le_of_lt hij) h2]; omega) (del_g2 hml (Nat.le_of_lt hij) h2) (ot 31 (.sref 0 5 (i + (a0.length - j)) (j - i)))) OpJs.nil)))))) (by rfl) (by rfl) ?_
  refine seqQ_n ?_
  refine AWp.ghost (Mat.shrinkP (n := 0) (e := 39) (sz := 5) (k := i + (a0.length - j)) (es := ((a0.map e_api_Entry).take i ++ (a0.map e_api_Entry).drop j ++ List.replicate (j - i) (D.st [(.st [(.st [(.bool false), (.int .u64 0), (.int .u64 0)]), (.int .i64 0)]), (.int .i64 0)]))) (es' := ((a0.map e_api_Entry).take i ++ (a0.map e_api_Entry).drop j)) (by rfl) (del_len3 hml (Nat.le_of_lt hij) h2) (del_g3 hml (Nat.le_of_lt hij) h2)) ?_
  refine AWp.seq ?_
  refine AWp.region (oc (mv hN (ot 0 (.sref 0 5 0 (i + (a0.length - j))))) (oc (OpJ.assign (ltN hN rfl) (ot 32 (.sref 0 5 0 (i + (a0.length - j))))) OpJs.nil)) (by rfl) (by rfl) ?_
  refine seqQ_n ?_
  refine AWp.ret ?_
  exact ⟨.inl rfl, _, _, (mp [(900000, 0)] [(6, (.sref 900000 5 0 (i + (a0.length - j))))] [(900000, some (.row 39 5 (((a0.map e_api_Entry).take i ++ (a0.map e_api_Entry).drop j))))] hB), [(.sref 900000 5 0 (i + (a0.length - j)))], (Res.tmp (by rfl) (by rfl) Res.nil), rfl, by rfl, by rfl, by rfl⟩

noncomputable def table_Remove (a0 : (List api_Entry)) (a1 : api_Prefix) : Option ((List api_Entry) × Int) :=
  jn (fun m5 : Bool =>
  (if m5 = true then
  some (([] : List api_Entry), (1 : Int))
  else
  (table_find a0 a1).bind fun r8 =>
  (if (!r8.2) = true then
  some (([] : List api_Entry), (7 : Int))
  else
  (ext64_slices_Clone_R a0).bind fun r10 =>
  (ext66_slices_Delete r10 r8.1 (w64 (r8.1 + (1 : Int)))).bind fun r11 =>
  some (r11, (0 : Int))))) (fun j6 =>
  (table_Valid a0).bind fun r12 =>
  (if (!r12) = true then
  j6 true
  else
  (prefix_Valid a1).bind fun r14 =>
  j6 (!r14)))
set_option maxHeartbeats 4000000 in
set_option maxRecDepth 100000 in
theorem table_Remove_ac (a0 : (List api_Entry)) (a1 : api_Prefix) (r : (List api_Entry) × Int) (h : table_Remove a0 a1 = some r) : AC Try.prog 37 [(.d (.list 5 (a0.map e_api_Entry))), (.d (e_api_Prefix a1))] [] (.tup [(.d (.list 5 (r.1.map e_api_Entry))), (.d (.int .i64 r.2))]) [] := by
  refine AC.of_code2 Try.func37 rfl rfl (Nat.le_of_ble_eq_true (by rfl)) fun B hB hN => ?_
  have L {d : Nat} (h : Nat.blt d Try.f37.ntmps = true) : d < B.N := ltN hN h
  delta table_Remove at h
  refine sr (cg (OpJ.box hB (nm := 1003) (by decide) (by simp) rfl (L rfl) (q 1)) rfl (c (OpJ.assign (L rfl) Opd.nils) rfl (c (OpJ.assign (L rfl) (Opd.int .i64 (0))) rfl cn))) ?_
  refine gh [(0, _), (3, _)] [(1003, some _)] hB rfl rfl (by rfl) ?_
  refine AWp.seq ?_
  refine AWp.seq ?_
  refine AWp.cut h (fun m5 : Bool => ([(0, (qe_api_Entry_5 a0)), (3, (.ptr 1003 0 [])), (15, (bo m5))] : EL)) (fun m5 : Bool => ([(1003, some (.box 37 (.d (e_api_Prefix a1))))] : OL)) (fun m5 h E' O' hmat => ?_) (fun j6 hjj6 h => ?_)
  · refine seqQ_n ?_
    refine AWp.ghost hmat ?_
    refine AWp.cond rfl (fun hg7 => ?_) (fun hg7 => ?_)
    · replace h := ite_t hg7 h
      refine sr (c (OpJ.assign (L rfl) Opd.nils) rfl (c (OpJ.assign (L rfl) (Opd.int .i64 (1))) rfl cn)) ?_
      refine gh [(4, _), (5, _)] [] hB rfl rfl (by rfl) ?_
      refine AWp.ret ?_
      refine seqQ_r ?_
      obtain rfl := Option.some.inj h
      exact ⟨.inl rfl, _, _, (Mat.trans (Mat.coeP (Ts := [(4, (qe_api_Entry_5 ([] : List api_Entry)))]) (Bs := []) (TwT.cons (x := .nils) (by rfl) (Tw.leaf ⟨_, (Co.nils 5), rfl⟩) TwT.nil) TwB.nil) (mp [] [(4, (qe_api_Entry_5 ([] : List api_Entry))), (5, (i6 1))] [] hB)), [(qe_api_Entry_5 ([] : List api_Entry)), (i6 1)], (Res.tmp (by rfl) (by rfl) (Res.tmp (by rfl) (by rfl) Res.nil)), rfl, by rfl, by rfl, by rfl⟩
    · replace h := ite_f hg7 h
      refine AWp.skip ?_
      refine seqQ_n ?_
      obtain ⟨r8, hr8, h⟩ := bindS h
      refine sr (c (mv hN (q 0)) rfl (c (lb hN 37 _ _ tyS37 (At.here _) (q 3)) rfl (cg (OpJ.callFn hB fnOk63 (table_find_ac a0 a1 r8 hr8) [] (by kernel_rfl) (L rfl) (by kernel_rfl) (OpdL.cons (q 17) (OpdL.cons (q 18) OpdL.nil))) rfl (c (mv hN (q 19)) rfl (c (OpJ.extract (by rfl) rfl (L rfl) (q 16)) rfl (c (OpJ.extract (by rfl) rfl (L rfl) (q 16)) rfl (c (OpJ.assign (L rfl) (q 20)) rfl (c (OpJ.assign (L rfl) (q 21)) rfl cn)))))))) ?_
      refine gh [(0, _), (6, _), (7, _)] [] hB rfl rfl (by rfl) ?_
      refine AWp.seq ?_
      refine sr (c (mv hN (q 7)) rfl (c (OpJ.not (L rfl) (q 22)) rfl cn)) ?_
      refine gh [(0, _), (6, _), (23, _)] [] hB rfl rfl (by rfl) ?_
      refine AWp.cond rfl (fun hg9 => ?_) (fun hg9 => ?_)
      · replace h := ite_t hg9 h
        refine sr (c (OpJ.assign (L rfl) Opd.nils) rfl (c (OpJ.assign (L rfl) (Opd.int .i64 (7))) rfl cn)) ?_
        refine gh [(4, _), (5, _)] [] hB rfl rfl (by rfl) ?_
        refine AWp.ret ?_
        refine seqQ_r ?_
        obtain rfl := Option.some.inj h
        exact ⟨.inl rfl, _, _, (Mat.trans (Mat.coeP (Ts := [(4, (qe_api_Entry_5 ([] : List api_Entry)))]) (Bs := []) (TwT.cons (x := .nils) (by rfl) (Tw.leaf ⟨_, (Co.nils 5), rfl⟩) TwT.nil) TwB.nil) (mp [] [(4, (qe_api_Entry_5 ([] : List api_Entry))), (5, (i6 (7 : Int)))] [] hB)), [(qe_api_Entry_5 ([] : List api_Entry)), (i6 (7 : Int))], (Res.tmp (by rfl) (by rfl) (Res.tmp (by rfl) (by rfl) Res.nil)), rfl, by rfl, by rfl, by rfl⟩
      · replace h := ite_f hg9 h
        refine AWp.skip ?_
        refine seqQ_n ?_
        refine AWp.seq ?_
        obtain ⟨r10, hr10, h⟩ := bindS h
        obtain ⟨r11, hr11, h⟩ := bindS h
        refine AWp.region (oc (mv hN (ot 0 (qe_api_Entry_5 a0)))
          (oc (OpJ.callFn hB fnOk64 (ext64_slices_Clone_R_ac a0 r10 hr10) [(900000, 100300)] (by kernel_rfl) (L rfl) (by kernel_rfl) (OpdL.cons (ot 24 (qe_api_Entry_5 a0)) OpdL.nil))
          (oc (mv hN (ot 6 (i6 r8.1)))
          (oc (mv hN (ot 6 (i6 r8.1)))
          (oc (add6 (L rfl) (ot 27 (i6 r8.1)) (Opd.int .i64 (1)))
          (oc (OpJ.callFn hB fnOk66 (ext66_slices_Delete_ac r10 r8.1 (w64 (r8.1 + (1 : Int))) r11 hr11) [(0, 100300), (900000, 100400)] (by kernel_rfl) (L rfl) (by kernel_rfl) (OpdL.cons (ot 25 (.sref 100300 5 0 r10.length)) (OpdL.cons (ot 26 (i6 r8.1)) (OpdL.cons (ot 28 (i6 (w64 (r8.1 + (1 : Int))))) OpdL.nil))))
          (oc (OpJ.assign (L rfl) (ot 29 (.sref 100400 5 0 r11.length)))
          (oc (OpJ.assign (L rfl) (Opd.int .i64 (0)))
          (OpJs.nil))))))))) (by rfl) (by rfl) ?_
        refine seqQ_n ?_
        refine AWp.ghost (mp [] [(4, (.sref 100400 5 0 r11.length)), (5, (i6 0))] [(100400, some (we_api_Entry_39_5 r11))] hB) ?_
        refine AWp.ret ?_
        obtain rfl := Option.some.inj h
        exact ⟨.inl rfl, _, _, (Mat.trans (Mat.freezeP (n := 100400) (e := 39) (sz := 5) (es := r11.map e_api_Entry) (Ts := [(4, (qe_api_Entry_5 r11))]) (Bs := []) (by rfl) (TwT.cons (x := (.sref 100400 5 0 r11.length)) (by rfl) (FrzL.all (by first | rfl | (simp; done) | (simp; omega))) TwT.nil) TwB.nil) (mp [] [(4, (qe_api_Entry_5 r11)), (5, (i6 0))] [] hB)), [(qe_api_Entry_5 r11), (i6 0)], (Res.tmp (by rfl) (by rfl) (Res.tmp (by rfl) (by rfl) Res.nil)), rfl, by rfl, by rfl, by rfl⟩
  · obtain ⟨r12, hr12, h⟩ := bindS h
    rcases Bool.eq_false_or_eq_true (!r12) with hg13 | hg13
    · replace h := ite_t hg13 h
      refine rg (c (mv hN (q 0)) rfl (cg (OpJ.callFn hB fnOk23 (table_Valid_ac a0 r12 hr12) [] (by kernel_rfl) (L rfl) (by kernel_rfl) (OpdL.cons (q 8) OpdL.nil)) rfl (c (OpJ.not (L rfl) (q 9)) rfl (c (OpJ.val (v' := .d (.bool true)) (by rw [hg13]) (mv hN (q 10))) rfl (cg (OpJ.skipU (g := 11) (L rfl) (by rfl)) rfl (cg (OpJ.skipU (g := 11) (L rfl) (by rfl)) rfl (cg (OpJ.skipU (g := 11) (L rfl) (by rfl)) rfl (c (OpJ.pickT (L rfl) (q 11) (Opd.bool true)) rfl cn)))))))) ?_
      exact hjj6 _ h _ _ (Mat.trans (mp [] [(0, (qe_api_Entry_5 a0)), (3, (.ptr 1003 0 [])), (15, (bo true))] [(1003, some (.box 37 (.d (e_api_Prefix a1))))] hB) (mp [] _ _ hB))
    · replace h := ite_f hg13 h
      obtain ⟨r14, hr14, h⟩ := bindS h
      refine rg (c (mv hN (q 0)) rfl (cg (OpJ.callFn hB fnOk23 (table_Valid_ac a0 r12 hr12) [] (by kernel_rfl) (L rfl) (by kernel_rfl) (OpdL.cons (q 8) OpdL.nil)) rfl (c (OpJ.not (L rfl) (q 9)) rfl (c (OpJ.val (v' := .d (.bool false)) (by rw [hg13]) (mv hN (q 10))) rfl (c (OpJ.guarded (g := 11) (by rfl) (lb hN 37 _ _ tyS37 (At.here _) (q 3))) rfl (cg (OpJ.guarded (g := 11) (by rfl) (OpJ.callFn hB fnOk60 (prefix_Valid_ac a1 r14 hr14) [] (by kernel_rfl) (L rfl) (by kernel_rfl) (OpdL.cons (q 12) OpdL.nil))) rfl (c (OpJ.guarded (g := 11) (by rfl) (OpJ.not (L rfl) (q 13))) rfl (c (OpJ.pickF (L rfl) (q 11) (q 14)) rfl cn)))))))) ?_
      exact hjj6 _ h _ _ (Mat.trans (mp [] [(0, (qe_api_Entry_5 a0)), (3, (.ptr 1003 0 [])), (15, (bo (!r14)))] [(1003, some (.box 37 (.d (e_api_Prefix a1))))] hB) (mp [] _ _ hB))

noncomputable def exchangepointref03_Remove (a0 : (List api_Entry)) (a1 : api_Prefix) : Option ((List api_Entry) × Int) :=
  jn (fun m5 : Bool =>
  (if m5 = true then
  some (([] : List api_Entry), (1 : Int))
  else
  (exchangepointref03_without a0 a1).bind fun r8 =>
  (if ((r8.length : Int) == (a0.length : Int)) = true then
  some (([] : List api_Entry), (7 : Int))
  else
  some (r8, (0 : Int))))) (fun j6 =>
  (exchangepointref03_Valid a0).bind fun r10 =>
  (if (!r10) = true then
  j6 true
  else
  (exchangepointref02_Valid a1).bind fun r12 =>
  j6 (!r12)))
set_option maxHeartbeats 4000000 in
set_option maxRecDepth 100000 in
theorem exchangepointref03_Remove_ac (a0 : (List api_Entry)) (a1 : api_Prefix) (r : (List api_Entry) × Int) (h : exchangepointref03_Remove a0 a1 = some r) : AC Try.prog 38 [(.d (.list 5 (a0.map e_api_Entry))), (.d (e_api_Prefix a1))] [] (.tup [(.d (.list 5 (r.1.map e_api_Entry))), (.d (.int .i64 r.2))]) [] := by
  refine AC.of_code2 Try.func38 rfl rfl (Nat.le_of_ble_eq_true (by rfl)) fun B hB hN => ?_
  have L {d : Nat} (h : Nat.blt d Try.f38.ntmps = true) : d < B.N := ltN hN h
  delta exchangepointref03_Remove at h
  refine sr (cg (OpJ.box hB (nm := 1003) (by decide) (by simp) rfl (L rfl) (q 1)) rfl (c (OpJ.assign (L rfl) Opd.nils) rfl (c (OpJ.assign (L rfl) (Opd.int .i64 (0))) rfl cn))) ?_
  refine gh [(0, _), (3, _)] [(1003, some _)] hB rfl rfl (by rfl) ?_
  refine AWp.seq ?_
  refine AWp.seq ?_
  refine AWp.cut h (fun m5 : Bool => ([(0, (qe_api_Entry_5 a0)), (3, (.ptr 1003 0 [])), (14, (bo m5))] : EL)) (fun m5 : Bool => ([(1003, some (.box 37 (.d (e_api_Prefix a1))))] : OL)) (fun m5 h E' O' hmat => ?_) (fun j6 hjj6 h => ?_)
  · refine seqQ_n ?_
    refine AWp.ghost hmat ?_
    refine AWp.cond rfl (fun hg7 => ?_) (fun hg7 => ?_)
    · replace h := ite_t hg7 h
      refine sr (c (OpJ.assign (L rfl) Opd.nils) rfl (c (OpJ.assign (L rfl) (Opd.int .i64 (1))) rfl cn)) ?_
      refine gh [(4, _), (5, _)] [] hB rfl rfl (by rfl) ?_
      refine AWp.ret ?_
      refine seqQ_r ?_
      obtain rfl := Option.some.inj h
      exact ⟨.inl rfl, _, _, (Mat.trans (Mat.coeP (Ts := [(4, (qe_api_Entry_5 ([] : List api_Entry)))]) (Bs := []) (TwT.cons (x := .nils) (by rfl) (Tw.leaf ⟨_, (Co.nils 5), rfl⟩) TwT.nil) TwB.nil) (mp [] [(4, (qe_api_Entry_5 ([] : List api_Entry))), (5, (i6 1))] [] hB)), [(qe_api_Entry_5 ([] : List api_Entry)), (i6 1)], (Res.tmp (by rfl) (by rfl) (Res.tmp (by rfl) (by rfl) Res.nil)), rfl, by rfl, by rfl, by rfl⟩
    · replace h := ite_f hg7 h
      refine AWp.skip ?_
      refine seqQ_n ?_
      obtain ⟨r8, hr8, h⟩ := bindS h
      refine sr (c (mv hN (q 0)) rfl (c (lb hN 37 _ _ tyS37 (At.here _) (q 3)) rfl (cg (OpJ.callFn hB fnOk49 (exchangepointref03_without_ac a0 a1 r8 hr8) [] (by kernel_rfl) (L rfl) (by kernel_rfl) (OpdL.cons (q 15) (OpdL.cons (q 16) OpdL.nil))) rfl (c (OpJ.assign (L rfl) (q 17)) rfl cn)))) ?_
      refine gh [(0, _), (6, _)] [] hB rfl rfl (by rfl) ?_
      refine AWp.seq ?_
      refine sr (c (mv hN (q 6)) rfl (c (OpJ.val (v' := (i6 (r8.length : Int))) (by simp) (OpJ.lenD Try.underlying23 (L rfl) (q 18))) rfl (c (mv hN (q 0)) rfl (c (OpJ.val (v' := (i6 (a0.length : Int))) (by simp) (OpJ.lenD Try.underlying23 (L rfl) (q 20))) rfl (c (OpJ.eqlI (L rfl) (q 19) (q 21)) rfl cn))))) ?_
      refine gh [(6, _), (22, _)] [] hB rfl rfl (by rfl) ?_
      refine AWp.cond rfl (fun hg9 => ?_) (fun hg9 => ?_)
      · replace h := ite_t hg9 h
        refine sr (c (OpJ.assign (L rfl) Opd.nils) rfl (c (OpJ.assign (L rfl) (Opd.int .i64 (7))) rfl cn)) ?_
        refine gh [(4, _), (5, _)] [] hB rfl rfl (by rfl) ?_
        refine AWp.ret ?_
        refine seqQ_r ?_
        obtain rfl := Option.some.inj h
        exact ⟨.inl rfl, _, _, (Mat.trans (Mat.coeP (Ts := [(4, (qe_api_Entry_5 ([] : List api_Entry)))]) (Bs := []) (TwT.cons (x := .nils) (by rfl) (Tw.leaf ⟨_, (Co.nils 5), rfl⟩) TwT.nil) TwB.nil) (mp [] [(4, (qe_api_Entry_5 ([] : List api_Entry))), (5, (i6 (7 : Int)))] [] hB)), [(qe_api_Entry_5 ([] : List api_Entry)), (i6 (7 : Int))], (Res.tmp (by rfl) (by rfl) (Res.tmp (by rfl) (by rfl) Res.nil)), rfl, by rfl, by rfl, by rfl⟩
      · replace h := ite_f hg9 h
        refine AWp.skip ?_
        refine seqQ_n ?_
        refine sr (c (mv hN (q 6)) rfl (c (OpJ.assign (L rfl) (q 23)) rfl (c (OpJ.assign (L rfl) (Opd.int .i64 (0))) rfl cn))) ?_
        refine gh [(4, _), (5, _)] [] hB rfl rfl (by rfl) ?_
        refine AWp.ret ?_
        obtain rfl := Option.some.inj h
        exact ⟨.inl rfl, _, _, (kp [(4, _), (5, _)] [] hB rfl rfl (by rfl)), [(qe_api_Entry_5 r8), (i6 0)], (Res.tmp (by rfl) (by rfl) (Res.tmp (by rfl) (by rfl) Res.nil)), rfl, by rfl, by rfl, by rfl⟩
  · obtain ⟨r10, hr10, h⟩ := bindS h
    rcases Bool.eq_false_or_eq_true (!r10) with hg11 | hg11
    · replace h := ite_t hg11 h
      refine rg (c (mv hN (q 0)) rfl (cg (OpJ.callFn hB fnOk27 (exchangepointref03_Valid_ac a0 r10 hr10) [] (by kernel_rfl) (L rfl) (by kernel_rfl) (OpdL.cons (q 7) OpdL.nil)) rfl (c (OpJ.not (L rfl) (q 8)) rfl (c (OpJ.val (v' := .d (.bool true)) (by rw [hg11]) (mv hN (q 9))) rfl (cg (OpJ.skipU (g := 10) (L rfl) (by rfl)) rfl (cg (OpJ.skipU (g := 10) (L rfl) (by rfl)) rfl (cg (OpJ.skipU (g := 10) (L rfl) (by rfl)) rfl (c (OpJ.pickT (L rfl) (q 10) (Opd.bool true)) rfl cn)))))))) ?_
      exact hjj6 _ h _ _ (Mat.trans (mp [] [(0, (qe_api_Entry_5 a0)), (3, (.ptr 1003 0 [])), (14, (bo true))] [(1003, some (.box 37 (.d (e_api_Prefix a1))))] hB) (mp [] _ _ hB))
    · replace h := ite_f hg11 h
      obtain ⟨r12, hr12, h⟩ := bindS h
      refine rg (c (mv hN (q 0)) rfl (cg (OpJ.callFn hB fnOk27 (exchangepointref03_Valid_ac a0 r10 hr10) [] (by kernel_rfl) (L rfl) (by kernel_rfl) (OpdL.cons (q 7) OpdL.nil)) rfl (c (OpJ.not (L rfl) (q 8)) rfl (c (OpJ.val (v' := .d (.bool false)) (by rw [hg11]) (mv hN (q 9))) rfl (c (OpJ.guarded (g := 10) (by rfl) (lb hN 37 _ _ tyS37 (At.here _) (q 3))) rfl (cg (OpJ.guarded (g := 10) (by rfl) (OpJ.callFn hB fnOk61 (exchangepointref02_Valid_ac a1 r12 hr12) [] (by kernel_rfl) (L rfl) (by kernel_rfl) (OpdL.cons (q 11) OpdL.nil))) rfl (c (OpJ.guarded (g := 10) (by rfl) (OpJ.not (L rfl) (q 12))) rfl (c (OpJ.pickF (L rfl) (q 10) (q 13)) rfl cn)))))))) ?_
      exact hjj6 _ h _ _ (Mat.trans (mp [] [(0, (qe_api_Entry_5 a0)), (3, (.ptr 1003 0 [])), (14, (bo (!r12)))] [(1003, some (.box 37 (.d (e_api_Prefix a1))))] hB) (mp [] _ _ hB))


end Go.Proofs.Ytbkhigkknhlmhaa
