/- Printed by gen.py: the Go functions as plain functions, and that the code does what they say. -/
import Derived.Test.YtimcphncaffenaaChecked
import Derived.Test.YtimcphncaffenaaVcY
import Derived.Test.YtimcphncaffenaaVcZ
import Derived.KernelRfl
import Derived.Test.YtimcphncaffenaaFnsB
import Derived.Test.YtimcphncaffenaaExt
import Derived.Test.YtimcphncaffenaaVcV
import Derived.Test.YtimcphncaffenaaVcQ
namespace Go.Proofs.Ytimcphncaffenaa
open Go Go.Vc
noncomputable def exchangepointref41_ports_L1 (s1 : Int × (List Int)) (x102 : api_Port) (s103 : Int) : Option (((Int)) ⊕ (Int)) :=
  jn (fun m126 : Bool =>
  (if m126 = true then
  some (.inr (w64 (s103 - (1 : Int))))
  else
  some (.inl s103))) (fun j127 =>
  (if (decide ((0 : Int) < s103)) = true then
  (idx s1.2 (w64 (s103 - (1 : Int)))).bind fun x130 =>
  (idx s1.2 (w64 (s103 - (1 : Int)))).bind fun x131 =>
  j127 (decide (x102.fID < x131))
  else
  j127 false))
noncomputable def exchangepointref41_ports_L0 (a0 : api_Member) (s1 : Int × (List Int)) : Option (((Unit) ⊕ ((List Int))) ⊕ (Int × (List Int))) :=
  (if (decide (s1.1 < (a0.fPorts.length : Int))) = true then
  (idx a0.fPorts s1.1).bind fun x102 =>
  (loop (exchangepointref41_ports_L1 s1 x102) (s1.2.length : Int)).bind fun p122 =>
  jn (fun m138 : Bool =>
  (if m138 = true then
  some (.inl (.inl ()))
  else
  chk ((decide (0 ≤ p122) && decide (p122.toNat ≤ s1.2.length) && decide (s1.2.length ≤ s1.2.length))) <|
  chk (decide (p122.toNat + (s1.2.length - p122.toNat) ≤ s1.2.length)) <|
  chk (decide (((s1.2.drop p122.toNat).take (s1.2.length - p122.toNat)).length ≤ LIM)) <|
  chk ((decide (0 ≤ p122) && decide (0 ≤ p122.toNat) && decide (p122.toNat ≤ s1.2.length))) <|
  chk (decide (((s1.2.take p122.toNat) ++ ([x102.fID] : List Int)).length ≤ LIM)) <|
  chk (decide ((((s1.2.take p122.toNat) ++ ([x102.fID] : List Int)) ++ ((s1.2.drop p122.toNat).take (s1.2.length - p122.toNat))).length ≤ LIM)) <|
  some (.inr ((w64 (s1.1 + (1 : Int))), (((s1.2.take p122.toNat) ++ ([x102.fID] : List Int)) ++ ((s1.2.drop p122.toNat).take (s1.2.length - p122.toNat))))))) (fun j139 =>
  (if ((decide (x102.fID < (1 : Int))) || (decide ((999 : Int) < x102.fID))) = true then
  j139 true
  else
  (if (decide ((0 : Int) < p122)) = true then
  (idx s1.2 (w64 (p122 - (1 : Int)))).bind fun x151 =>
  (idx s1.2 (w64 (p122 - (1 : Int)))).bind fun x152 =>
  j139 (x152 == x102.fID)
  else
  j139 false)))
  else
  some (.inl (.inr s1.2)))
noncomputable def exchangepointref41_ports (a0 : api_Member) : Option ((List Int) × Bool) :=
  (loop (exchangepointref41_ports_L0 a0) ((0 : Int), ([] : List Int))).bind fun x153 => match x153 with
  | (.inl _) =>
    some (([] : List Int), false)
  | (.inr p100) =>
    some (p100, (decide ((p100.length : Int) ≤ (4 : Int))))
set_option maxHeartbeats 4000000 in
set_option maxRecDepth 100000 in
theorem exchangepointref41_ports_ac (a0 : api_Member) (r : (List Int) × Bool) (h : exchangepointref41_ports a0 = some r) : AC Try.prog 36 [(.d (e_api_Member a0))] [] (.tup [(.d (.list 1 (r.1.map (eI .i64)))), (.d (.bool r.2))]) [] := by
  refine AC.of_code2 Try.func36 rfl rfl (Nat.le_of_ble_eq_true (by rfl)) fun B hB hN => ?_
  delta exchangepointref41_ports at h
  refine AWp.seq ?_
  refine AWp.region (oc (OpJ.box hB (nm := 1001) (by decide) (by simp) rfl (ltN hN rfl) (ot 0 (.d (e_api_Member a0))))
  (oc (OpJ.assign (ltN hN rfl) Opd.nils)
  (oc (OpJ.assign (ltN hN rfl) (Opd.bool false))
  (OpJs.nil)))) (by rfl) (by rfl) ?_
  refine seqQ_n ?_
  refine AWp.ghost (mp [] [(1, (.ptr 1001 0 []))] [(1001, some (.box 24 (.d (e_api_Member a0))))] hB) ?_
  refine AWp.seq ?_
  refine AWp.region (oc (OpJ.assign (ltN hN rfl) Opd.nils)
  (OpJs.nil)) (by rfl) (by rfl) ?_
  refine seqQ_n ?_
  refine AWp.ghost (mp [] [(1, (.ptr 1001 0 [])), (4, .nils)] [(1001, some (.box 24 (.d (e_api_Member a0))))] hB) ?_
  refine AWp.seq ?_
  refine AWp.seq ?_
  refine AWp.region (oc (ov (.ptr 1001 5 [5]) (fp hN Try.underlying24 5 tyS22 (.box 24 (.d (e_api_Member a0))) (ot 1 (.ptr 1001 0 []))))
  (oc (lb hN 24 (.d (e_api_Member a0)) (qe_api_Port_10 a0.fPorts) tyS22 (ad (.list 10 (a0.fPorts.map e_api_Port))) (ot 9 (.ptr 1001 5 [5])))
  (oc (OpJ.val (v' := (i6 (a0.fPorts.length : Int))) (by simp) (OpJ.lenD Try.underlying22 (ltN hN rfl) (ot 10 (qe_api_Port_10 a0.fPorts))))
  (oc (mv hN (Opd.int .i64 (0)))
  (OpJs.nil))))) (by rfl) (by rfl) ?_
  refine seqQ_n ?_
  refine AWp.ghost (mp [] [(4, .nils), (10, (qe_api_Port_10 a0.fPorts)), (11, (i6 (a0.fPorts.length : Int))), (12, (i6 0))] [] hB) ?_
  refine AWp.block ?_
  obtain ⟨x153, hx154, h⟩ := bindS h
  refine AWp.ghost (Mat.trans (Mat.beginP (n := 3004) (e := 3) (sz := 1) (Ts := [(4, (.sref 3004 1 0 0))]) (Bs := []) hB (by decide) (by rfl) (by decide) (TwT.cons (x := .nils) (by rfl) (Tw.leaf ⟨rfl, rfl⟩) TwT.nil) TwB.nil) (mp [] ((fun s1 : Int × (List Int) => ([(4, (.sref 3004 1 0 s1.2.length)), (10, (qe_api_Port_10 a0.fPorts)), (11, (i6 (a0.fPorts.length : Int))), (12, (i6 s1.1))] : EL)) ((0 : Int), ([] : List Int))) ((fun s1 : Int × (List Int) => ([(3004, some (wI_3_1 s1.2))] : OL)) ((0 : Int), ([] : List Int))) hB)) ?_
  refine AWp.loopS (exchangepointref41_ports_L0 a0) (fun s1 : Int × (List Int) => ([(4, (.sref 3004 1 0 s1.2.length)), (10, (qe_api_Port_10 a0.fPorts)), (11, (i6 (a0.fPorts.length : Int))), (12, (i6 s1.1))] : EL)) (fun s1 : Int × (List Int) => ([(3004, some (wI_3_1 s1.2))] : OL)) (fun (x : (Unit) ⊕ ((List Int))) e E' O' => match x with | (.inl _p) => e = .ret ∧ Mat B E' O' ([(2, .nils), (3, (bo false))] : EL) ([] : OL) | (.inr p100) => e = .exit 0 ∧ Mat B E' O' ([(4, (.sref 3004 1 0 p100.length))] : EL) ([(3004, some (wI_3_1 p100))] : OL)) hx154 (fun s1 y h => ?_) (fun e E' O' hR => ?_)
  · unfold exchangepointref41_ports_L0 at h
    show AWp _ _ _ _ ([(4, (.sref 3004 1 0 s1.2.length)), (10, (qe_api_Port_10 a0.fPorts)), (11, (i6 (a0.fPorts.length : Int))), (12, (i6 s1.1))] : EL) ([(3004, some (wI_3_1 s1.2))] : OL)
    refine AWp.seq ?_
    refine AWp.region (oc (OpJ.lss (ltN hN rfl) (ot 12 (i6 s1.1)) (ot 11 (i6 (a0.fPorts.length : Int))))
      (OpJs.nil)) (by rfl) (by rfl) ?_
    refine seqQ_n ?_
    refine AWp.ghost (mp [] [(4, (.sref 3004 1 0 s1.2.length)), (10, (qe_api_Port_10 a0.fPorts)), (11, (i6 (a0.fPorts.length : Int))), (12, (i6 s1.1)), (13, (bo (decide (s1.1 < (a0.fPorts.length : Int)))))] [(3004, some (wI_3_1 s1.2))] hB) ?_
    refine AWp.seq ?_
    refine AWp.cond (b := (decide (s1.1 < (a0.fPorts.length : Int)))) (by rfl) (fun hg101 => ?_) (fun hg101 => ?_)
    · replace h := ite_t hg101 h
      refine AWp.skip ?_
      refine seqQ_n ?_
      refine AWp.seq ?_
      refine AWp.block ?_
      refine AWp.seq ?_
      obtain ⟨x102, hx102, h⟩ := bindS h
      refine AWp.region (oc (OpJ.indexD (el := (e_api_Port x102)) Try.underlying22 tyS68 (idx_some hx102).1 (get_map e_api_Port (idx_some hx102).2) (ltN hN rfl) (ot 10 (qe_api_Port_10 a0.fPorts)) (ot 12 (i6 s1.1)))
        (oc (OpJ.loadD tyS68 (by rfl) (by rfl) (ltN hN rfl) (ot 14 (.dptr (e_api_Port x102))))
        (oc (OpJ.alloc hB tyZ68 (nm := 1006) (by decide) (ltN hN rfl))
        (oc (OpJ.storeB (bt := 68) (c := (.st [(i6 0), (i6 0), (i6 0), .nils, (.d (.st [(.bool false), (.int .u64 0), (.int .u64 0)])), (.d (.st [(.bool false), (.int .u64 0), (.int .u64 0)]))])) (v := (.d (e_api_Port x102))) (c' := (.d (e_api_Port x102))) tyS68 (SetAt.here _ _) (by rfl) (by rfl) (by simp) rfl (ot 6 (.ptr 1006 0 [])) (ot 15 (.d (e_api_Port x102))))
        (OpJs.nil))))) (by rfl) (by rfl) ?_
      refine seqQ_n ?_
      refine AWp.ghost (mp [] [(4, (.sref 3004 1 0 s1.2.length)), (6, (.ptr 1006 0 [])), (10, (qe_api_Port_10 a0.fPorts)), (11, (i6 (a0.fPorts.length : Int))), (12, (i6 s1.1))] [(1006, some (.box 68 (.d (e_api_Port x102)))), (3004, some (wI_3_1 s1.2))] hB) ?_
      refine AWp.seq ?_
      refine AWp.region (oc (mv hN (ot 4 (.sref 3004 1 0 s1.2.length)))
        (oc (OpJ.lenS (obj := (wI_3_1 s1.2)) Try.underlying28 (ltN hN rfl) (ot 16 (.sref 3004 1 0 s1.2.length)))
        (oc (OpJ.assign (ltN hN rfl) (ot 17 (i6 (s1.2.length : Int))))
        (OpJs.nil)))) (by rfl) (by rfl) ?_
      refine seqQ_n ?_
      refine AWp.ghost (mp [] [(4, (.sref 3004 1 0 s1.2.length)), (6, (.ptr 1006 0 [])), (7, (i6 (s1.2.length : Int))), (10, (qe_api_Port_10 a0.fPorts)), (11, (i6 (a0.fPorts.length : Int))), (12, (i6 s1.1))] [(1006, some (.box 68 (.d (e_api_Port x102)))), (3004, some (wI_3_1 s1.2))] hB) ?_
      refine AWp.seq ?_
      refine AWp.block ?_
      obtain ⟨p122, hx133, h⟩ := bindS h
      refine AWp.ghost (mp [] ((fun s103 : Int => ([(4, (.sref 3004 1 0 s1.2.length)), (6, (.ptr 1006 0 [])), (7, (i6 s103)), (10, (qe_api_Port_10 a0.fPorts)), (11, (i6 (a0.fPorts.length : Int))), (12, (i6 s1.1))] : EL)) (s1.2.length : Int)) ((fun s103 : Int => ([(1006, some (.box 68 (.d (e_api_Port x102)))), (3004, some (wI_3_1 s1.2))] : OL)) (s1.2.length : Int)) hB) ?_
      refine AWp.loopS (exchangepointref41_ports_L1 s1 x102) (fun s103 : Int => ([(4, (.sref 3004 1 0 s1.2.length)), (6, (.ptr 1006 0 [])), (7, (i6 s103)), (10, (qe_api_Port_10 a0.fPorts)), (11, (i6 (a0.fPorts.length : Int))), (12, (i6 s1.1))] : EL)) (fun s103 : Int => ([(1006, some (.box 68 (.d (e_api_Port x102)))), (3004, some (wI_3_1 s1.2))] : OL)) (fun (p122 : (Int)) e E' O' => e = .exit 2 ∧ Mat B E' O' ([(4, (.sref 3004 1 0 s1.2.length)), (6, (.ptr 1006 0 [])), (7, (i6 p122)), (10, (qe_api_Port_10 a0.fPorts)), (11, (i6 (a0.fPorts.length : Int))), (12, (i6 s1.1))] : EL) ([(1006, some (.box 68 (.d (e_api_Port x102)))), (3004, some (wI_3_1 s1.2))] : OL)) hx133 (fun s103 y h => ?_) (fun e E' O' hR => ?_)
      · unfold exchangepointref41_ports_L1 at h
        show AWp _ _ _ _ ([(4, (.sref 3004 1 0 s1.2.length)), (6, (.ptr 1006 0 [])), (7, (i6 s103)), (10, (qe_api_Port_10 a0.fPorts)), (11, (i6 (a0.fPorts.length : Int))), (12, (i6 s1.1))] : EL) ([(1006, some (.box 68 (.d (e_api_Port x102)))), (3004, some (wI_3_1 s1.2))] : OL)
        refine AWp.seq ?_
        refine AWp.seq ?_
        refine AWp.cut h (fun m126 : Bool => ([(4, (.sref 3004 1 0 s1.2.length)), (6, (.ptr 1006 0 [])), (7, (i6 s103)), (10, (qe_api_Port_10 a0.fPorts)), (11, (i6 (a0.fPorts.length : Int))), (12, (i6 s1.1)), (29, (bo m126))] : EL)) (fun m126 : Bool => ([(1006, some (.box 68 (.d (e_api_Port x102)))), (3004, some (wI_3_1 s1.2))] : OL)) (fun m126 h E' O' hmat => ?_) (fun j127 hjj127 h => ?_)
        · refine seqQ_n ?_
          refine AWp.ghost hmat ?_
          refine AWp.cond (b := m126) (by rfl) (fun hg128 => ?_) (fun hg128 => ?_)
          · replace h := ite_t hg128 h
            refine AWp.skip ?_
            refine seqQ_n ?_
            refine AWp.block ?_
            refine AWp.region (oc (mv hN (ot 7 (i6 s103)))
              (oc (OpJ.sub (ltN hN rfl) (ot 30 (i6 s103)) (Opd.int .i64 (1)))
              (oc (OpJ.assign (ltN hN rfl) (ot 31 (i6 (w64 (s103 - (1 : Int))))))
              (OpJs.nil)))) (by rfl) (by rfl) ?_
            refine blkQ_n ?_
            obtain rfl := Option.some.inj h
            exact ⟨rfl, (Mat.trans (mp [] [(4, (.sref 3004 1 0 s1.2.length)), (6, (.ptr 1006 0 [])), (7, (i6 (w64 (s103 - (1 : Int))))), (10, (qe_api_Port_10 a0.fPorts)), (11, (i6 (a0.fPorts.length : Int))), (12, (i6 s1.1))] [(1006, some (.box 68 (.d (e_api_Port x102)))), (3004, some (wI_3_1 s1.2))] hB) (mp [] ((fun s103 : Int => ([(4, (.sref 3004 1 0 s1.2.length)), (6, (.ptr 1006 0 [])), (7, (i6 s103)), (10, (qe_api_Port_10 a0.fPorts)), (11, (i6 (a0.fPorts.length : Int))), (12, (i6 s1.1))] : EL)) (w64 (s103 - (1 : Int)))) ((fun s103 : Int => ([(1006, some (.box 68 (.d (e_api_Port x102)))), (3004, some (wI_3_1 s1.2))] : OL)) (w64 (s103 - (1 : Int)))) hB))⟩
          · replace h := ite_f hg128 h
            refine AWp.exit ?_
            refine seqQ_e ?_
            obtain rfl := Option.some.inj h
            exact ⟨(fun hc => by cases hc), rfl, (mp [] ((fun p122 : Int => ([(4, (.sref 3004 1 0 s1.2.length)), (6, (.ptr 1006 0 [])), (7, (i6 p122)), (10, (qe_api_Port_10 a0.fPorts)), (11, (i6 (a0.fPorts.length : Int))), (12, (i6 s1.1))] : EL)) s103) ((fun p122 : Int => ([(1006, some (.box 68 (.d (e_api_Port x102)))), (3004, some (wI_3_1 s1.2))] : OL)) s103) hB)⟩
        · rcases Bool.eq_false_or_eq_true (decide ((0 : Int) < s103)) with hg129 | hg129
          · replace h := ite_t hg129 h
            obtain ⟨x130, hx130, h⟩ := bindS h
            obtain ⟨x131, hx131, h⟩ := bindS h
            refine AWp.draws (by kernel_rfl) (oc (mv hN (ot 7 (i6 s103)))
              (oc (OpJ.gtr (ltN hN rfl) (ot 18 (i6 s103)) (Opd.int .i64 (0)))
              (oc (OpJ.val (v' := .d (.bool true)) (by rw [hg129]) (mv hN (ot 19 (bo (decide ((0 : Int) < s103))))))
              (oc (OpJ.guarded (by rfl) (mv hN (ot 4 (.sref 3004 1 0 s1.2.length))))
              (oc (OpJ.guarded (by rfl) (mv hN (ot 7 (i6 s103))))
              (oc (OpJ.guarded (by rfl) (OpJ.sub (ltN hN rfl) (ot 22 (i6 s103)) (Opd.int .i64 (1))))
              (oc (OpJ.guarded (by rfl) (OpJ.val (v' := (.ptr 3004 ((w64 (s103 - (1 : Int))).toNat * 1) [(w64 (s103 - (1 : Int))).toNat])) (by simp) (OpJ.indexS Try.underlying28 tyS3 (obj := (wI_3_1 s1.2)) (idx_some hx130).1 (by have := idx_lt hx130; first | (simpa using this) | ((try simp only [List.length_map] at this); (try simp only [List.length_map]); omega)) (ltN hN rfl) (ot 21 (.sref 3004 1 0 s1.2.length)) (ot 23 (i6 (w64 (s103 - (1 : Int))))))))
              (oc (OpJ.guarded (by rfl) (OpJ.loadR (e := 3) (sz := 1) (es := s1.2.map (eI .i64)) tyS3 (get_map (eI .i64) (idx_some hx131).2) (o := 0) (v := (.int .i64 x131)) (At.here _) (by rfl) (by rfl) (by rfl) (ltN hN rfl) (ot 24 (.ptr 3004 ((w64 (s103 - (1 : Int))).toNat * 1) [(w64 (s103 - (1 : Int))).toNat]))))
              (oc (OpJ.guarded (by rfl) (ov (.ptr 1006 0 [0]) (fp hN Try.underlying68 0 tyS3 (.box 68 (.d (e_api_Port x102))) (ot 6 (.ptr 1006 0 [])))))
              (oc (OpJ.guarded (by rfl) (lb hN 68 (.d (e_api_Port x102)) (i6 x102.fID) tyS3 (ad (.int .i64 x102.fID)) (ot 26 (.ptr 1006 0 [0]))))
              (oc (OpJ.guarded (by rfl) (OpJ.gtr (ltN hN rfl) (ot 25 (i6 x131)) (ot 27 (i6 x102.fID))))
              (oc (OpJ.pickT (ltN hN rfl) (ot 20 (bo true)) (ot 28 (bo (decide (x102.fID < x131)))))
              (OpJs.nil))))))))))))) (by kernel_rfl) (by rfl) (by rfl) ?_
            exact hjj127 _ h _ _ (Mat.trans (mp [] [(4, (.sref 3004 1 0 s1.2.length)), (6, (.ptr 1006 0 [])), (7, (i6 s103)), (10, (qe_api_Port_10 a0.fPorts)), (11, (i6 (a0.fPorts.length : Int))), (12, (i6 s1.1)), (29, (bo (decide (x102.fID < x131))))] [(1006, some (.box 68 (.d (e_api_Port x102)))), (3004, some (wI_3_1 s1.2))] hB) (mp [] ((fun m126 : Bool => ([(4, (.sref 3004 1 0 s1.2.length)), (6, (.ptr 1006 0 [])), (7, (i6 s103)), (10, (qe_api_Port_10 a0.fPorts)), (11, (i6 (a0.fPorts.length : Int))), (12, (i6 s1.1)), (29, (bo m126))] : EL)) (decide (x102.fID < x131))) ((fun m126 : Bool => ([(1006, some (.box 68 (.d (e_api_Port x102)))), (3004, some (wI_3_1 s1.2))] : OL)) (decide (x102.fID < x131))) hB))
          · replace h := ite_f hg129 h
            refine AWp.draws (by kernel_rfl) (oc (mv hN (ot 7 (i6 s103)))
              (oc (OpJ.gtr (ltN hN rfl) (ot 18 (i6 s103)) (Opd.int .i64 (0)))
              (oc (OpJ.val (v' := .d (.bool false)) (by rw [hg129]) (mv hN (ot 19 (bo (decide ((0 : Int) < s103))))))
              (oc (OpJ.skipU (ltN hN rfl) (by rfl))
              (oc (OpJ.skipU (ltN hN rfl) (by rfl))
              (oc (OpJ.skipU (ltN hN rfl) (by rfl))
              (oc (OpJ.skipU (ltN hN rfl) (by rfl))
              (oc (OpJ.skipU (ltN hN rfl) (by rfl))
              (oc (OpJ.skipU (ltN hN rfl) (by rfl))
              (oc (OpJ.skipU (ltN hN rfl) (by rfl))
              (oc (OpJ.skipU (ltN hN rfl) (by rfl))
              (oc (OpJ.pickF (ltN hN rfl) (ot 20 (bo false)) (Opd.bool false))
              (OpJs.nil))))))))))))) (by kernel_rfl) (by rfl) (by rfl) ?_
            exact hjj127 _ h _ _ (Mat.trans (mp [] [(4, (.sref 3004 1 0 s1.2.length)), (6, (.ptr 1006 0 [])), (7, (i6 s103)), (10, (qe_api_Port_10 a0.fPorts)), (11, (i6 (a0.fPorts.length : Int))), (12, (i6 s1.1)), (29, (bo false))] [(1006, some (.box 68 (.d (e_api_Port x102)))), (3004, some (wI_3_1 s1.2))] hB) (mp [] ((fun m126 : Bool => ([(4, (.sref 3004 1 0 s1.2.length)), (6, (.ptr 1006 0 [])), (7, (i6 s103)), (10, (qe_api_Port_10 a0.fPorts)), (11, (i6 (a0.fPorts.length : Int))), (12, (i6 s1.1)), (29, (bo m126))] : EL)) false) ((fun m126 : Bool => ([(1006, some (.box 68 (.d (e_api_Port x102)))), (3004, some (wI_3_1 s1.2))] : OL)) false) hB))
      · obtain ⟨rfl, hmat⟩ := hR
        refine blkQ_hit ?_
        refine seqQ_n ?_
        refine AWp.ghost hmat ?_
        refine AWp.seq ?_
        refine AWp.seq ?_
        refine AWp.cut h (fun m138 : Bool => ([(4, (.sref 3004 1 0 s1.2.length)), (6, (.ptr 1006 0 [])), (7, (i6 p122)), (10, (qe_api_Port_10 a0.fPorts)), (11, (i6 (a0.fPorts.length : Int))), (12, (i6 s1.1)), (53, (bo m138))] : EL)) (fun m138 : Bool => ([(1006, some (.box 68 (.d (e_api_Port x102)))), (3004, some (wI_3_1 s1.2))] : OL)) (fun m138 h E' O' hmat => ?_) (fun j139 hjj139 h => ?_)
        · refine seqQ_n ?_
          refine AWp.ghost hmat ?_
          refine AWp.cond (b := m138) (by rfl) (fun hg140 => ?_) (fun hg140 => ?_)
          · replace h := ite_t hg140 h
            refine AWp.seq ?_
            refine AWp.region (oc (OpJ.assign (ltN hN rfl) Opd.nils)
              (oc (OpJ.assign (ltN hN rfl) (Opd.bool false))
              (OpJs.nil))) (by rfl) (by rfl) ?_
            refine seqQ_n ?_
            refine AWp.ghost (mp [] [(2, .nils), (3, (bo false))] [] hB) ?_
            refine AWp.ret ?_
            refine seqQ_r ?_
            refine blkQ_r ?_
            refine seqQ_r ?_
            obtain rfl := Option.some.inj h
            exact ⟨(fun hc => by cases hc), rfl, (mp [] ((fun _ : Unit => ([(2, .nils), (3, (bo false))] : EL)) ()) ((fun _ : Unit => ([] : OL)) ()) hB)⟩
          · replace h := ite_f hg140 h
            refine AWp.skip ?_
            refine seqQ_n ?_
            refine AWp.seq ?_
            obtain ⟨hc141, h⟩ := chk_some h
            obtain ⟨hc142, h⟩ := chk_some h
            obtain ⟨hc143, h⟩ := chk_some h
            refine AWp.region (oc (mv hN (ot 4 (.sref 3004 1 0 s1.2.length)))
              (oc (mv hN (ot 7 (i6 p122)))
              (oc (OpJ.cutS Try.underlying28 tyS3 (obj := (wI_3_1 s1.2)) (l := p122.toNat) (h := s1.2.length) (off' := p122.toNat) (len' := (s1.2.length - p122.toNat)) (.inr ⟨_, _, _, rfl, (ot 55 (i6 p122)), (of_decide_eq_true (and_l2 (and_l2 hc141))), rfl⟩) (.inl ⟨rfl, rfl, rfl⟩) (of_decide_eq_true (and_r2 (and_l2 hc141))) (of_decide_eq_true (and_r2 hc141)) (by simp) (by simp) (ltN hN rfl) (ot 54 (.sref 3004 1 0 s1.2.length)))
              (oc (OpJ.appendNS hB Try.underlying28 tyE3 (nm := 1057) (by decide) (es := s1.2.map (eI .i64)) (ys := ((s1.2.drop p122.toNat).take (s1.2.length - p122.toNat)).map (eI .i64)) (by rw [List.length_map]; exact of_decide_eq_true hc142) (by first | rw [List.map_drop, List.map_take] | simp [List.map_take, List.map_drop]) (len := ((s1.2.drop p122.toNat).take (s1.2.length - p122.toNat)).length) (by simp) (map_sz (f := (eI .i64)) (fun _ => rfl)) (by rw [List.length_map]; exact lim_mulN hc143 (by decide)) (by rw [List.length_map]; exact lim_leN hc143) (ltN hN rfl) Opd.nils (ot 56 (.sref 3004 1 p122.toNat (s1.2.length - p122.toNat))))
              (oc (OpJ.assign (ltN hN rfl) (ot 57 (.sref 1057 1 0 (((s1.2.drop p122.toNat).take (s1.2.length - p122.toNat)).length))))
              (OpJs.nil)))))) (by rfl) (by rfl) ?_
            refine seqQ_n ?_
            refine AWp.ghost (mp [] [(4, (.sref 3004 1 0 s1.2.length)), (6, (.ptr 1006 0 [])), (7, (i6 p122)), (8, (.sref 1057 1 0 (((s1.2.drop p122.toNat).take (s1.2.length - p122.toNat)).length))), (10, (qe_api_Port_10 a0.fPorts)), (11, (i6 (a0.fPorts.length : Int))), (12, (i6 s1.1))] [(1006, some (.box 68 (.d (e_api_Port x102)))), (1057, some (wI_3_1 ((s1.2.drop p122.toNat).take (s1.2.length - p122.toNat)))), (3004, some (wI_3_1 s1.2))] hB) ?_
            refine AWp.ghost (Mat.freezeP (n := 1057) (e := 3) (sz := 1) (es := ((s1.2.drop p122.toNat).take (s1.2.length - p122.toNat)).map (eI .i64)) (Ts := [(8, (qI_1 ((s1.2.drop p122.toNat).take (s1.2.length - p122.toNat))))]) (Bs := []) (by rfl) (TwT.cons (x := (.sref 1057 1 0 (((s1.2.drop p122.toNat).take (s1.2.length - p122.toNat)).length))) (by rfl) (FrzL.all (by first | rfl | (simp; done) | (simp; omega))) TwT.nil) TwB.nil) ?_
            obtain ⟨hc146, h⟩ := chk_some h
            obtain ⟨hc147, h⟩ := chk_some h
            obtain ⟨hc148, h⟩ := chk_some h
            refine AWp.draws (by kernel_rfl) (oc (mv hN (ot 4 (.sref 3004 1 0 s1.2.length)))
              (oc (mv hN (ot 7 (i6 p122)))
              (oc (OpJ.val (v' := (.sref 3004 1 0 ((s1.2.take p122.toNat).length))) (by rw [List.length_take, Nat.min_eq_left (of_decide_eq_true (and_r2 hc146))]) (OpJ.shrS (OpJ.cutS Try.underlying28 tyS3 (obj := (wI_3_1 s1.2)) (l := 0) (h := p122.toNat) (off' := 0) (len' := p122.toNat) (.inl ⟨rfl, rfl, rfl⟩) (.inr ⟨_, _, _, rfl, (ot 59 (i6 p122)), (of_decide_eq_true (and_l2 (and_l2 hc146))), rfl⟩) (of_decide_eq_true (and_r2 (and_l2 hc146))) (of_decide_eq_true (and_r2 hc146)) (by simp) (by simp) (ltN hN rfl) (ot 58 (.sref 3004 1 0 s1.2.length))) (es' := (s1.2.take p122.toNat).map (eI .i64)) (by rw [List.length_map]; exact (of_decide_eq_true (and_r2 hc146))) (by rw [List.map_take])))
              (oc (ov (.ptr 1006 0 [0]) (fp hN Try.underlying68 0 tyS3 (.box 68 (.d (e_api_Port x102))) (ot 6 (.ptr 1006 0 []))))
              (oc (lb hN 68 (.d (e_api_Port x102)) (i6 x102.fID) tyS3 (ad (.int .i64 x102.fID)) (ot 61 (.ptr 1006 0 [0])))
              (oc (OpJ.buildSlice Try.underlying28 tyS3 tyZD3 (by rfl) (by decide) (by decide) (Opds.cons (ot 62 (i6 x102.fID)) Opds.nil) (by kernel_rfl) (es := ([(.int .i64 x102.fID)] : List D)) (by rfl) (by rfl) (by kernel_rfl) (by simp) (ltN hN rfl))
              (oc (OpJ.append hB Try.underlying28 tyE3 (nm := 1064) (by decide) (es := (s1.2.take p122.toNat).map (eI .i64)) (ys := ([x102.fID] : List Int).map (eI .i64)) (es' := ((s1.2.take p122.toNat) ++ ([x102.fID] : List Int)).map (eI .i64)) (len := ((s1.2.take p122.toNat) ++ ([x102.fID] : List Int)).length) (by simp) (by simp) (map_sz (f := (eI .i64)) (fun _ => rfl)) (by rw [List.length_map]; exact lim_mulN hc147 (by decide)) (by rw [List.length_map]; exact lim_leN hc147) (ltN hN rfl) (by simp) (ot 60 (.sref 3004 1 0 ((s1.2.take p122.toNat).length))) (ot 63 (qI_1 ([x102.fID] : List Int))))
              (oc (mv hN (ot 8 (qI_1 ((s1.2.drop p122.toNat).take (s1.2.length - p122.toNat)))))
              (oc (OpJ.append hB Try.underlying28 tyE3 (nm := 1066) (by decide) (es := ((s1.2.take p122.toNat) ++ ([x102.fID] : List Int)).map (eI .i64)) (ys := ((s1.2.drop p122.toNat).take (s1.2.length - p122.toNat)).map (eI .i64)) (es' := (((s1.2.take p122.toNat) ++ ([x102.fID] : List Int)) ++ ((s1.2.drop p122.toNat).take (s1.2.length - p122.toNat))).map (eI .i64)) (len := (((s1.2.take p122.toNat) ++ ([x102.fID] : List Int)) ++ ((s1.2.drop p122.toNat).take (s1.2.length - p122.toNat))).length) (by simp) (by simp) (map_sz (f := (eI .i64)) (fun _ => rfl)) (by rw [List.length_map]; exact lim_mulN hc148 (by decide)) (by rw [List.length_map]; exact lim_leN hc148) (ltN hN rfl) (by simp) (ot 64 (.sref 1064 1 0 (((s1.2.take p122.toNat) ++ ([x102.fID] : List Int)).length))) (ot 65 (qI_1 ((s1.2.drop p122.toNat).take (s1.2.length - p122.toNat)))))
              (oc (OpJ.assign (ltN hN rfl) (ot 66 (.sref 1066 1 0 ((((s1.2.take p122.toNat) ++ ([x102.fID] : List Int)) ++ ((s1.2.drop p122.toNat).take (s1.2.length - p122.toNat))).length))))
              (OpJs.nil))))))))))) (by kernel_rfl) (by rfl) (by rfl) ?_
            refine blkQ_n ?_
            refine seqQ_n ?_
            refine AWp.ghost (mp [] [(4, (.sref 1066 1 0 ((((s1.2.take p122.toNat) ++ ([x102.fID] : List Int)) ++ ((s1.2.drop p122.toNat).take (s1.2.length - p122.toNat))).length))), (10, (qe_api_Port_10 a0.fPorts)), (11, (i6 (a0.fPorts.length : Int))), (12, (i6 s1.1))] [(1066, some (wI_3_1 (((s1.2.take p122.toNat) ++ ([x102.fID] : List Int)) ++ ((s1.2.drop p122.toNat).take (s1.2.length - p122.toNat)))))] hB) ?_
            refine AWp.region (oc (OpJ.add (ltN hN rfl) (ot 12 (i6 s1.1)) (Opd.int .i64 (1)))
              (oc (mv hN (ot 67 (i6 (w64 (s1.1 + (1 : Int))))))
              (OpJs.nil))) (by rfl) (by rfl) ?_
            obtain rfl := Option.some.inj h
            exact ⟨rfl, (Mat.trans (mp [] [(4, (.sref 1066 1 0 ((((s1.2.take p122.toNat) ++ ([x102.fID] : List Int)) ++ ((s1.2.drop p122.toNat).take (s1.2.length - p122.toNat))).length))), (10, (qe_api_Port_10 a0.fPorts)), (11, (i6 (a0.fPorts.length : Int))), (12, (i6 (w64 (s1.1 + (1 : Int)))))] [(1066, some (wI_3_1 (((s1.2.take p122.toNat) ++ ([x102.fID] : List Int)) ++ ((s1.2.drop p122.toNat).take (s1.2.length - p122.toNat)))))] hB) (mp [(3004, 1066)] ((fun s1 : Int × (List Int) => ([(4, (.sref 3004 1 0 s1.2.length)), (10, (qe_api_Port_10 a0.fPorts)), (11, (i6 (a0.fPorts.length : Int))), (12, (i6 s1.1))] : EL)) ((w64 (s1.1 + (1 : Int))), (((s1.2.take p122.toNat) ++ ([x102.fID] : List Int)) ++ ((s1.2.drop p122.toNat).take (s1.2.length - p122.toNat))))) ((fun s1 : Int × (List Int) => ([(3004, some (wI_3_1 s1.2))] : OL)) ((w64 (s1.1 + (1 : Int))), (((s1.2.take p122.toNat) ++ ([x102.fID] : List Int)) ++ ((s1.2.drop p122.toNat).take (s1.2.length - p122.toNat))))) hB))⟩
        · rcases Bool.eq_false_or_eq_true ((decide (x102.fID < (1 : Int))) || (decide ((999 : Int) < x102.fID))) with hg149 | hg149
          · replace h := ite_t hg149 h
            refine AWp.draws (by kernel_rfl) (oc (ov (.ptr 1006 0 [0]) (fp hN Try.underlying68 0 tyS3 (.box 68 (.d (e_api_Port x102))) (ot 6 (.ptr 1006 0 []))))
              (oc (lb hN 68 (.d (e_api_Port x102)) (i6 x102.fID) tyS3 (ad (.int .i64 x102.fID)) (ot 32 (.ptr 1006 0 [0])))
              (oc (OpJ.lss (ltN hN rfl) (ot 33 (i6 x102.fID)) (Opd.int .i64 (1)))
              (oc (mv hN (ot 34 (bo (decide (x102.fID < (1 : Int))))))
              (oc (op hN (.ptr 1006 0 [0]) (ov (.ptr 1006 0 [0]) (fp hN Try.underlying68 0 tyS3 (.box 68 (.d (e_api_Port x102))) (ot 6 (.ptr 1006 0 [])))) (OptL.keep rfl OptL.nil) (GuardV.plain _))
              (oc (op hN (i6 x102.fID) (lb hN 68 (.d (e_api_Port x102)) (i6 x102.fID) tyS3 (ad (.int .i64 x102.fID)) (ot 36 (.ptr 1006 0 [0]))) (OptL.opt OptL.nil) (GuardV.plain _))
              (oc (op hN (bo (decide ((999 : Int) < x102.fID))) (OpJ.gtr (ltN hN rfl) (ot 37 (i6 x102.fID)) (Opd.int .i64 (999))) (OptL.opt OptL.nil) (GuardV.plain _))
              (oc (OpJ.pickOr rfl (ltN hN rfl) (ot 35 (bo (decide (x102.fID < (1 : Int))))) (ot 38 (.opt ((decide (x102.fID < (1 : Int))) == false) (bo (decide ((999 : Int) < x102.fID))))))
              (oc (OpJ.val (v' := .d (.bool true)) (by rw [hg149]) (mv hN (ot 39 (bo ((decide (x102.fID < (1 : Int))) || (decide ((999 : Int) < x102.fID)))))))
              (oc (OpJ.skipU (ltN hN rfl) (by rfl))
              (oc (OpJ.skipU (ltN hN rfl) (by rfl))
              (oc (OpJ.skipU (ltN hN rfl) (by rfl))
              (oc (OpJ.skipV (ltN hN rfl) (by rfl))
              (oc (OpJ.skipV (ltN hN rfl) (by rfl))
              (oc (OpJ.skipV (ltN hN rfl) (by rfl))
              (oc (OpJ.skipV (ltN hN rfl) (by rfl))
              (oc (OpJ.skipV (ltN hN rfl) (by rfl))
              (oc (OpJ.skipV (ltN hN rfl) (by rfl))
              (oc (OpJ.skipV (ltN hN rfl) (by rfl))
              (oc (OpJ.skipV (ltN hN rfl) (by rfl))
              (oc (OpJ.skipU (ltN hN rfl) (by rfl))
              (oc (OpJ.pickT (ltN hN rfl) (ot 40 (bo true)) (Opd.bool true))
              (OpJs.nil))))))))))))))))))))))) (by kernel_rfl) (by rfl) (by rfl) ?_
            exact hjj139 _ h _ _ (Mat.trans (mp [] [(4, (.sref 3004 1 0 s1.2.length)), (6, (.ptr 1006 0 [])), (7, (i6 p122)), (10, (qe_api_Port_10 a0.fPorts)), (11, (i6 (a0.fPorts.length : Int))), (12, (i6 s1.1)), (53, (bo true))] [(1006, some (.box 68 (.d (e_api_Port x102)))), (3004, some (wI_3_1 s1.2))] hB) (mp [] ((fun m138 : Bool => ([(4, (.sref 3004 1 0 s1.2.length)), (6, (.ptr 1006 0 [])), (7, (i6 p122)), (10, (qe_api_Port_10 a0.fPorts)), (11, (i6 (a0.fPorts.length : Int))), (12, (i6 s1.1)), (53, (bo m138))] : EL)) true) ((fun m138 : Bool => ([(1006, some (.box 68 (.d (e_api_Port x102)))), (3004, some (wI_3_1 s1.2))] : OL)) true) hB))
          · replace h := ite_f hg149 h
            rcases Bool.eq_false_or_eq_true (decide ((0 : Int) < p122)) with hg150 | hg150
            · replace h := ite_t hg150 h
              obtain ⟨x151, hx151, h⟩ := bindS h
              obtain ⟨x152, hx152, h⟩ := bindS h
              refine AWp.draws (by kernel_rfl) (oc (ov (.ptr 1006 0 [0]) (fp hN Try.underlying68 0 tyS3 (.box 68 (.d (e_api_Port x102))) (ot 6 (.ptr 1006 0 []))))
                (oc (lb hN 68 (.d (e_api_Port x102)) (i6 x102.fID) tyS3 (ad (.int .i64 x102.fID)) (ot 32 (.ptr 1006 0 [0])))
                (oc (OpJ.lss (ltN hN rfl) (ot 33 (i6 x102.fID)) (Opd.int .i64 (1)))
                (oc (mv hN (ot 34 (bo (decide (x102.fID < (1 : Int))))))
                (oc (op hN (.ptr 1006 0 [0]) (ov (.ptr 1006 0 [0]) (fp hN Try.underlying68 0 tyS3 (.box 68 (.d (e_api_Port x102))) (ot 6 (.ptr 1006 0 [])))) (OptL.keep rfl OptL.nil) (GuardV.plain _))
                (oc (op hN (i6 x102.fID) (lb hN 68 (.d (e_api_Port x102)) (i6 x102.fID) tyS3 (ad (.int .i64 x102.fID)) (ot 36 (.ptr 1006 0 [0]))) (OptL.opt OptL.nil) (GuardV.plain _))
                (oc (op hN (bo (decide ((999 : Int) < x102.fID))) (OpJ.gtr (ltN hN rfl) (ot 37 (i6 x102.fID)) (Opd.int .i64 (999))) (OptL.opt OptL.nil) (GuardV.plain _))
                (oc (OpJ.pickOr rfl (ltN hN rfl) (ot 35 (bo (decide (x102.fID < (1 : Int))))) (ot 38 (.opt ((decide (x102.fID < (1 : Int))) == false) (bo (decide ((999 : Int) < x102.fID))))))
                (oc (OpJ.val (v' := .d (.bool false)) (by rw [hg149]) (mv hN (ot 39 (bo ((decide (x102.fID < (1 : Int))) || (decide ((999 : Int) < x102.fID)))))))
                (oc (OpJ.guarded (by rfl) (mv hN (ot 7 (i6 p122))))
                (oc (OpJ.guarded (by rfl) (OpJ.gtr (ltN hN rfl) (ot 41 (i6 p122)) (Opd.int .i64 (0))))
                (oc (OpJ.guarded (by rfl) (OpJ.val (v' := .d (.bool true)) (by rw [hg150]) (mv hN (ot 42 (bo (decide ((0 : Int) < p122)))))))
                (oc (OpJ.guarded (by rfl) (mv hN (ot 4 (.sref 3004 1 0 s1.2.length))))
                (oc (OpJ.guarded (by rfl) (mv hN (ot 7 (i6 p122))))
                (oc (OpJ.guarded (by rfl) (OpJ.sub (ltN hN rfl) (ot 45 (i6 p122)) (Opd.int .i64 (1))))
                (oc (OpJ.guarded (by rfl) (OpJ.val (v' := (.ptr 3004 ((w64 (p122 - (1 : Int))).toNat * 1) [(w64 (p122 - (1 : Int))).toNat])) (by simp) (OpJ.indexS Try.underlying28 tyS3 (obj := (wI_3_1 s1.2)) (idx_some hx151).1 (by have := idx_lt hx151; first | (simpa using this) | ((try simp only [List.length_map] at this); (try simp only [List.length_map]); omega)) (ltN hN rfl) (ot 44 (.sref 3004 1 0 s1.2.length)) (ot 46 (i6 (w64 (p122 - (1 : Int))))))))
                (oc (OpJ.guarded (by rfl) (OpJ.loadR (e := 3) (sz := 1) (es := s1.2.map (eI .i64)) tyS3 (get_map (eI .i64) (idx_some hx152).2) (o := 0) (v := (.int .i64 x152)) (At.here _) (by rfl) (by rfl) (by rfl) (ltN hN rfl) (ot 47 (.ptr 3004 ((w64 (p122 - (1 : Int))).toNat * 1) [(w64 (p122 - (1 : Int))).toNat]))))
                (oc (OpJ.guarded (by rfl) (ov (.ptr 1006 0 [0]) (fp hN Try.underlying68 0 tyS3 (.box 68 (.d (e_api_Port x102))) (ot 6 (.ptr 1006 0 [])))))
                (oc (OpJ.guarded (by rfl) (lb hN 68 (.d (e_api_Port x102)) (i6 x102.fID) tyS3 (ad (.int .i64 x102.fID)) (ot 49 (.ptr 1006 0 [0]))))
                (oc (OpJ.guarded (by rfl) (OpJ.eqlI (ltN hN rfl) (ot 48 (i6 x152)) (ot 50 (i6 x102.fID))))
                (oc (OpJ.guarded (by rfl) (OpJ.pickT (ltN hN rfl) (ot 43 (bo true)) (ot 51 (bo (x152 == x102.fID)))))
                (oc (OpJ.pickF (ltN hN rfl) (ot 40 (bo false)) (ot 52 (bo (x152 == x102.fID))))
                (OpJs.nil))))))))))))))))))))))) (by kernel_rfl) (by rfl) (by rfl) ?_
              exact hjj139 _ h _ _ (Mat.trans (mp [] [(4, (.sref 3004 1 0 s1.2.length)), (6, (.ptr 1006 0 [])), (7, (i6 p122)), (10, (qe_api_Port_10 a0.fPorts)), (11, (i6 (a0.fPorts.length : Int))), (12, (i6 s1.1)), (53, (bo (x152 == x102.fID)))] [(1006, some (.box 68 (.d (e_api_Port x102)))), (3004, some (wI_3_1 s1.2))] hB) (mp [] ((fun m138 : Bool => ([(4, (.sref 3004 1 0 s1.2.length)), (6, (.ptr 1006 0 [])), (7, (i6 p122)), (10, (qe_api_Port_10 a0.fPorts)), (11, (i6 (a0.fPorts.length : Int))), (12, (i6 s1.1)), (53, (bo m138))] : EL)) (x152 == x102.fID)) ((fun m138 : Bool => ([(1006, some (.box 68 (.d (e_api_Port x102)))), (3004, some (wI_3_1 s1.2))] : OL)) (x152 == x102.fID)) hB))
            · replace h := ite_f hg150 h
              refine AWp.draws (by kernel_rfl) (oc (ov (.ptr 1006 0 [0]) (fp hN Try.underlying68 0 tyS3 (.box 68 (.d (e_api_Port x102))) (ot 6 (.ptr 1006 0 []))))
                (oc (lb hN 68 (.d (e_api_Port x102)) (i6 x102.fID) tyS3 (ad (.int .i64 x102.fID)) (ot 32 (.ptr 1006 0 [0])))
                (oc (OpJ.lss (ltN hN rfl) (ot 33 (i6 x102.fID)) (Opd.int .i64 (1)))
                (oc (mv hN (ot 34 (bo (decide (x102.fID < (1 : Int))))))
                (oc (op hN (.ptr 1006 0 [0]) (ov (.ptr 1006 0 [0]) (fp hN Try.underlying68 0 tyS3 (.box 68 (.d (e_api_Port x102))) (ot 6 (.ptr 1006 0 [])))) (OptL.keep rfl OptL.nil) (GuardV.plain _))
                (oc (op hN (i6 x102.fID) (lb hN 68 (.d (e_api_Port x102)) (i6 x102.fID) tyS3 (ad (.int .i64 x102.fID)) (ot 36 (.ptr 1006 0 [0]))) (OptL.opt OptL.nil) (GuardV.plain _))
                (oc (op hN (bo (decide ((999 : Int) < x102.fID))) (OpJ.gtr (ltN hN rfl) (ot 37 (i6 x102.fID)) (Opd.int .i64 (999))) (OptL.opt OptL.nil) (GuardV.plain _))
                (oc (OpJ.pickOr rfl (ltN hN rfl) (ot 35 (bo (decide (x102.fID < (1 : Int))))) (ot 38 (.opt ((decide (x102.fID < (1 : Int))) == false) (bo (decide ((999 : Int) < x102.fID))))))
                (oc (OpJ.val (v' := .d (.bool false)) (by rw [hg149]) (mv hN (ot 39 (bo ((decide (x102.fID < (1 : Int))) || (decide ((999 : Int) < x102.fID)))))))
                (oc (OpJ.guarded (by rfl) (mv hN (ot 7 (i6 p122))))
                (oc (OpJ.guarded (by rfl) (OpJ.gtr (ltN hN rfl) (ot 41 (i6 p122)) (Opd.int .i64 (0))))
                (oc (OpJ.guarded (by rfl) (OpJ.val (v' := .d (.bool false)) (by rw [hg150]) (mv hN (ot 42 (bo (decide ((0 : Int) < p122)))))))
                (oc (OpJ.skipU (ltN hN rfl) (by rfl))
                (oc (OpJ.skipU (ltN hN rfl) (by rfl))
                (oc (OpJ.skipU (ltN hN rfl) (by rfl))
                (oc (OpJ.skipU (ltN hN rfl) (by rfl))
                (oc (OpJ.skipU (ltN hN rfl) (by rfl))
                (oc (OpJ.skipU (ltN hN rfl) (by rfl))
                (oc (OpJ.skipU (ltN hN rfl) (by rfl))
                (oc (OpJ.skipU (ltN hN rfl) (by rfl))
                (oc (OpJ.guarded (by rfl) (OpJ.pickF (ltN hN rfl) (ot 43 (bo false)) (Opd.bool false)))
                (oc (OpJ.pickF (ltN hN rfl) (ot 40 (bo false)) (ot 52 (bo false)))
                (OpJs.nil))))))))))))))))))))))) (by kernel_rfl) (by rfl) (by rfl) ?_
              exact hjj139 _ h _ _ (Mat.trans (mp [] [(4, (.sref 3004 1 0 s1.2.length)), (6, (.ptr 1006 0 [])), (7, (i6 p122)), (10, (qe_api_Port_10 a0.fPorts)), (11, (i6 (a0.fPorts.length : Int))), (12, (i6 s1.1)), (53, (bo false))] [(1006, some (.box 68 (.d (e_api_Port x102)))), (3004, some (wI_3_1 s1.2))] hB) (mp [] ((fun m138 : Bool => ([(4, (.sref 3004 1 0 s1.2.length)), (6, (.ptr 1006 0 [])), (7, (i6 p122)), (10, (qe_api_Port_10 a0.fPorts)), (11, (i6 (a0.fPorts.length : Int))), (12, (i6 s1.1)), (53, (bo m138))] : EL)) false) ((fun m138 : Bool => ([(1006, some (.box 68 (.d (e_api_Port x102)))), (3004, some (wI_3_1 s1.2))] : OL)) false) hB))
    · replace h := ite_f hg101 h
      refine AWp.exit ?_
      refine seqQ_e ?_
      obtain rfl := Option.some.inj h
      exact ⟨(fun hc => by cases hc), rfl, (mp [] ((fun p100 : (List Int) => ([(4, (.sref 3004 1 0 p100.length))] : EL)) s1.2) ((fun p100 : (List Int) => ([(3004, some (wI_3_1 p100))] : OL)) s1.2) hB)⟩
  · rcases x153 with _ | p100
    · obtain ⟨rfl, hmat⟩ := hR
      refine blkQ_r ?_
      refine seqQ_r ?_
      obtain rfl := Option.some.inj h
      exact ⟨.inl rfl, _, _, (Mat.trans hmat (Mat.trans (Mat.coeP (Ts := [(2, (qI_1 ([] : List Int)))]) (Bs := []) (TwT.cons (x := .nils) (by rfl) (Tw.leaf ⟨_, (Co.nils 1), rfl⟩) TwT.nil) TwB.nil) (mp [] [(2, (qI_1 ([] : List Int))), (3, (bo false))] [] hB))), [(qI_1 ([] : List Int)), (bo false)], (Res.tmp (by rfl) (by rfl) (Res.tmp (by rfl) (by rfl) Res.nil)), rfl, by rfl, by rfl, by rfl⟩
    · obtain ⟨rfl, hmat⟩ := hR
      refine blkQ_hit ?_
      refine seqQ_n ?_
      refine AWp.ghost hmat ?_
      refine AWp.seq ?_
      refine AWp.region (oc (mv hN (ot 4 (.sref 3004 1 0 p100.length)))
        (oc (mv hN (ot 4 (.sref 3004 1 0 p100.length)))
        (oc (OpJ.lenS (obj := (wI_3_1 p100)) Try.underlying28 (ltN hN rfl) (ot 69 (.sref 3004 1 0 p100.length)))
        (oc (OpJ.leq (ltN hN rfl) (ot 70 (i6 (p100.length : Int))) (Opd.int .i64 (4)))
        (oc (OpJ.assign (ltN hN rfl) (ot 68 (.sref 3004 1 0 p100.length)))
        (oc (OpJ.assign (ltN hN rfl) (ot 71 (bo (decide ((p100.length : Int) ≤ (4 : Int))))))
        (OpJs.nil))))))) (by rfl) (by rfl) ?_
      refine seqQ_n ?_
      refine AWp.ghost (mp [] [(2, (.sref 3004 1 0 p100.length)), (3, (bo (decide ((p100.length : Int) ≤ (4 : Int)))))] [(3004, some (wI_3_1 p100))] hB) ?_
      refine AWp.ret ?_
      obtain rfl := Option.some.inj h
      exact ⟨.inl rfl, _, _, (Mat.trans (Mat.freezeP (n := 3004) (e := 3) (sz := 1) (es := p100.map (eI .i64)) (Ts := [(2, (qI_1 p100))]) (Bs := []) (by rfl) (TwT.cons (x := (.sref 3004 1 0 p100.length)) (by rfl) (FrzL.all (by first | rfl | (simp; done) | (simp; omega))) TwT.nil) TwB.nil) (mp [] [(2, (qI_1 p100)), (3, (bo (decide ((p100.length : Int) ≤ (4 : Int)))))] [] hB)), [(qI_1 p100), (bo (decide ((p100.length : Int) ≤ (4 : Int))))], (Res.tmp (by rfl) (by rfl) (Res.tmp (by rfl) (by rfl) Res.nil)), rfl, by rfl, by rfl, by rfl⟩

noncomputable def exchangepointref40_Valid_L0 (a0 : api_Series) (s2 : Int) : Option (((Unit) ⊕ (Unit)) ⊕ (Int)) :=
  (if (decide (s2 < (a0.fIn.length : Int))) = true then
  (idx a0.fIn s2).bind fun x14 =>
  (idx a0.fOut s2).bind fun x15 =>
  (if (((((decide (x14 < (-1 : Int))) || (decide ((1125899906842624 : Int) < x14))) || (decide (x15 < (-1 : Int)))) || (decide ((1125899906842624 : Int) < x15))) || ((x14 == (-1 : Int)) != (x15 == (-1 : Int)))) = true then
  some (.inl (.inl ()))
  else
  some (.inr (w64 (s2 + (1 : Int)))))
  else
  some (.inl (.inr ())))
noncomputable def exchangepointref40_Valid (a0 : api_Series) : Option (Bool) :=
  (if ((((((decide (a0.fPort < (1 : Int))) || (decide ((999 : Int) < a0.fPort))) || (decide (a0.fSeconds < (1 : Int)))) || (decide ((86400 : Int) < a0.fSeconds))) || ((a0.fIn.length : Int) != (a0.fOut.length : Int))) || (decide ((9000 : Int) < (a0.fIn.length : Int)))) = true then
  some false
  else
  (loop (exchangepointref40_Valid_L0 a0) (0 : Int)).bind fun x17 => match x17 with
  | (.inl _) =>
    some false
  | (.inr _) =>
    some true)
set_option maxHeartbeats 4000000 in
set_option maxRecDepth 100000 in
theorem exchangepointref40_Valid_ac (a0 : api_Series) (r : Bool) (h : exchangepointref40_Valid a0 = some r) : AC Try.prog 38 [(.d (e_api_Series a0))] [] (.d (.bool r)) [] := by
  refine AC.of_code2 Try.func38 rfl rfl (Nat.le_of_ble_eq_true (by rfl)) fun B hB hN => ?_
  delta exchangepointref40_Valid at h
  refine AWp.seq ?_
  refine AWp.region (oc (OpJ.box hB (nm := 1001) (by decide) (by simp) rfl (ltN hN rfl) (ot 0 (.d (e_api_Series a0))))
  (oc (OpJ.assign (ltN hN rfl) (Opd.bool false))
  (OpJs.nil))) (by rfl) (by rfl) ?_
  refine seqQ_n ?_
  refine AWp.ghost (mp [] [(1, (.ptr 1001 0 []))] [(1001, some (.box 31 (.d (e_api_Series a0))))] hB) ?_
  refine AWp.seq ?_
  refine AWp.seq ?_
  refine AWp.region (oc (ov (.ptr 1001 0 [0]) (fp hN Try.underlying31 0 tyS3 (.box 31 (.d (e_api_Series a0))) (ot 1 (.ptr 1001 0 []))))
  (oc (lb hN 31 (.d (e_api_Series a0)) (i6 a0.fPort) tyS3 (ad (.int .i64 a0.fPort)) (ot 6 (.ptr 1001 0 [0])))
  (oc (OpJ.lss (ltN hN rfl) (ot 7 (i6 a0.fPort)) (Opd.int .i64 (1)))
  (oc (mv hN (ot 8 (bo (decide (a0.fPort < (1 : Int))))))
  (oc (op hN (.ptr 1001 0 [0]) (ov (.ptr 1001 0 [0]) (fp hN Try.underlying31 0 tyS3 (.box 31 (.d (e_api_Series a0))) (ot 1 (.ptr 1001 0 [])))) (OptL.keep rfl OptL.nil) (GuardV.plain _))
  (oc (op hN (i6 a0.fPort) (lb hN 31 (.d (e_api_Series a0)) (i6 a0.fPort) tyS3 (ad (.int .i64 a0.fPort)) (ot 10 (.ptr 1001 0 [0]))) (OptL.opt OptL.nil) (GuardV.plain _))
  (oc (op hN (bo (decide ((999 : Int) < a0.fPort))) (OpJ.gtr (ltN hN rfl) (ot 11 (i6 a0.fPort)) (Opd.int .i64 (999))) (OptL.opt OptL.nil) (GuardV.plain _))
  (oc (OpJ.pickOr rfl (ltN hN rfl) (ot 9 (bo (decide (a0.fPort < (1 : Int))))) (ot 12 (.opt ((decide (a0.fPort < (1 : Int))) == false) (bo (decide ((999 : Int) < a0.fPort))))))
  (oc (mv hN (ot 13 (bo ((decide (a0.fPort < (1 : Int))) || (decide ((999 : Int) < a0.fPort))))))
  (oc (op hN (.ptr 1001 1 [1]) (ov (.ptr 1001 1 [1]) (fp hN Try.underlying31 1 tyS3 (.box 31 (.d (e_api_Series a0))) (ot 1 (.ptr 1001 0 [])))) (OptL.keep rfl OptL.nil) (GuardV.plain _))
  (oc (op hN (i6 a0.fSeconds) (lb hN 31 (.d (e_api_Series a0)) (i6 a0.fSeconds) tyS3 (ad (.int .i64 a0.fSeconds)) (ot 15 (.ptr 1001 1 [1]))) (OptL.opt OptL.nil) (GuardV.plain _))
  (oc (op hN (bo (decide (a0.fSeconds < (1 : Int)))) (OpJ.lss (ltN hN rfl) (ot 16 (i6 a0.fSeconds)) (Opd.int .i64 (1))) (OptL.opt OptL.nil) (GuardV.plain _))
  (oc (OpJ.pickOr rfl (ltN hN rfl) (ot 14 (bo ((decide (a0.fPort < (1 : Int))) || (decide ((999 : Int) < a0.fPort))))) (ot 17 (.opt (((decide (a0.fPort < (1 : Int))) || (decide ((999 : Int) < a0.fPort))) == false) (bo (decide (a0.fSeconds < (1 : Int)))))))
  (oc (mv hN (ot 18 (bo (((decide (a0.fPort < (1 : Int))) || (decide ((999 : Int) < a0.fPort))) || (decide (a0.fSeconds < (1 : Int)))))))
  (oc (op hN (.ptr 1001 1 [1]) (ov (.ptr 1001 1 [1]) (fp hN Try.underlying31 1 tyS3 (.box 31 (.d (e_api_Series a0))) (ot 1 (.ptr 1001 0 [])))) (OptL.keep rfl OptL.nil) (GuardV.plain _))
  (oc (op hN (i6 a0.fSeconds) (lb hN 31 (.d (e_api_Series a0)) (i6 a0.fSeconds) tyS3 (ad (.int .i64 a0.fSeconds)) (ot 20 (.ptr 1001 1 [1]))) (OptL.opt OptL.nil) (GuardV.plain _))
  (oc (op hN (bo (decide ((86400 : Int) < a0.fSeconds))) (OpJ.gtr (ltN hN rfl) (ot 21 (i6 a0.fSeconds)) (Opd.int .i64 (86400))) (OptL.opt OptL.nil) (GuardV.plain _))
  (oc (OpJ.pickOr rfl (ltN hN rfl) (ot 19 (bo (((decide (a0.fPort < (1 : Int))) || (decide ((999 : Int) < a0.fPort))) || (decide (a0.fSeconds < (1 : Int)))))) (ot 22 (.opt ((((decide (a0.fPort < (1 : Int))) || (decide ((999 : Int) < a0.fPort))) || (decide (a0.fSeconds < (1 : Int)))) == false) (bo (decide ((86400 : Int) < a0.fSeconds))))))
  (oc (mv hN (ot 23 (bo ((((decide (a0.fPort < (1 : Int))) || (decide ((999 : Int) < a0.fPort))) || (decide (a0.fSeconds < (1 : Int)))) || (decide ((86400 : Int) < a0.fSeconds))))))
  (oc (op hN (.ptr 1001 2 [2]) (ov (.ptr 1001 2 [2]) (fp hN Try.underlying31 2 tyS28 (.box 31 (.d (e_api_Series a0))) (ot 1 (.ptr 1001 0 [])))) (OptL.keep rfl OptL.nil) (GuardV.plain _))
  (oc (op hN (qI_1 a0.fIn) (lb hN 31 (.d (e_api_Series a0)) (qI_1 a0.fIn) tyS28 (ad (.list 1 (a0.fIn.map (eI .i64)))) (ot 25 (.ptr 1001 2 [2]))) (OptL.opt OptL.nil) (GuardV.plain _))
  (oc (op hN (i6 (a0.fIn.length : Int)) (OpJ.val (v' := (i6 (a0.fIn.length : Int))) (by simp) (OpJ.lenD Try.underlying28 (ltN hN rfl) (ot 26 (qI_1 a0.fIn)))) (OptL.opt OptL.nil) (GuardV.plain _))
  (oc (op hN (.ptr 1001 3 [3]) (ov (.ptr 1001 3 [3]) (fp hN Try.underlying31 3 tyS28 (.box 31 (.d (e_api_Series a0))) (ot 1 (.ptr 1001 0 [])))) (OptL.keep rfl OptL.nil) (GuardV.plain _))
  (oc (op hN (qI_1 a0.fOut) (lb hN 31 (.d (e_api_Series a0)) (qI_1 a0.fOut) tyS28 (ad (.list 1 (a0.fOut.map (eI .i64)))) (ot 28 (.ptr 1001 3 [3]))) (OptL.opt OptL.nil) (GuardV.plain _))
  (oc (op hN (i6 (a0.fOut.length : Int)) (OpJ.val (v' := (i6 (a0.fOut.length : Int))) (by simp) (OpJ.lenD Try.underlying28 (ltN hN rfl) (ot 29 (qI_1 a0.fOut)))) (OptL.opt OptL.nil) (GuardV.plain _))
  (oc (op hN (bo ((a0.fIn.length : Int) != (a0.fOut.length : Int))) (OpJ.neqI (ltN hN rfl) (ot 27 (i6 (a0.fIn.length : Int))) (ot 30 (i6 (a0.fOut.length : Int)))) (OptL.opt (OptL.opt OptL.nil)) (GuardV.plain _))
  (oc (OpJ.pickOr rfl (ltN hN rfl) (ot 24 (bo ((((decide (a0.fPort < (1 : Int))) || (decide ((999 : Int) < a0.fPort))) || (decide (a0.fSeconds < (1 : Int)))) || (decide ((86400 : Int) < a0.fSeconds))))) (ot 31 (.opt (((((decide (a0.fPort < (1 : Int))) || (decide ((999 : Int) < a0.fPort))) || (decide (a0.fSeconds < (1 : Int)))) || (decide ((86400 : Int) < a0.fSeconds))) == false) (bo ((a0.fIn.length : Int) != (a0.fOut.length : Int))))))
  (oc (mv hN (ot 32 (bo (((((decide (a0.fPort < (1 : Int))) || (decide ((999 : Int) < a0.fPort))) || (decide (a0.fSeconds < (1 : Int)))) || (decide ((86400 : Int) < a0.fSeconds))) || ((a0.fIn.length : Int) != (a0.fOut.length : Int))))))
  (oc (op hN (.ptr 1001 2 [2]) (ov (.ptr 1001 2 [2]) (fp hN Try.underlying31 2 tyS28 (.box 31 (.d (e_api_Series a0))) (ot 1 (.ptr 1001 0 [])))) (OptL.keep rfl OptL.nil) (GuardV.plain _))
  (oc (op hN (qI_1 a0.fIn) (lb hN 31 (.d (e_api_Series a0)) (qI_1 a0.fIn) tyS28 (ad (.list 1 (a0.fIn.map (eI .i64)))) (ot 34 (.ptr 1001 2 [2]))) (OptL.opt OptL.nil) (GuardV.plain _))
  (oc (op hN (i6 (a0.fIn.length : Int)) (OpJ.val (v' := (i6 (a0.fIn.length : Int))) (by simp) (OpJ.lenD Try.underlying28 (ltN hN rfl) (ot 35 (qI_1 a0.fIn)))) (OptL.opt OptL.nil) (GuardV.plain _))
  (oc (op hN (bo (decide ((9000 : Int) < (a0.fIn.length : Int)))) (OpJ.gtr (ltN hN rfl) (ot 36 (i6 (a0.fIn.length : Int))) (Opd.int .i64 (9000))) (OptL.opt OptL.nil) (GuardV.plain _))
  (oc (OpJ.pickOr rfl (ltN hN rfl) (ot 33 (bo (((((decide (a0.fPort < (1 : Int))) || (decide ((999 : Int) < a0.fPort))) || (decide (a0.fSeconds < (1 : Int)))) || (decide ((86400 : Int) < a0.fSeconds))) || ((a0.fIn.length : Int) != (a0.fOut.length : Int))))) (ot 37 (.opt ((((((decide (a0.fPort < (1 : Int))) || (decide ((999 : Int) < a0.fPort))) || (decide (a0.fSeconds < (1 : Int)))) || (decide ((86400 : Int) < a0.fSeconds))) || ((a0.fIn.length : Int) != (a0.fOut.length : Int))) == false) (bo (decide ((9000 : Int) < (a0.fIn.length : Int)))))))
  (OpJs.nil)))))))))))))))))))))))))))))))))) (by rfl) (by rfl) ?_
  refine seqQ_n ?_
  refine AWp.ghost (mp [] [(1, (.ptr 1001 0 [])), (38, (bo ((((((decide (a0.fPort < (1 : Int))) || (decide ((999 : Int) < a0.fPort))) || (decide (a0.fSeconds < (1 : Int)))) || (decide ((86400 : Int) < a0.fSeconds))) || ((a0.fIn.length : Int) != (a0.fOut.length : Int))) || (decide ((9000 : Int) < (a0.fIn.length : Int))))))] [(1001, some (.box 31 (.d (e_api_Series a0))))] hB) ?_
  refine AWp.cond (b := ((((((decide (a0.fPort < (1 : Int))) || (decide ((999 : Int) < a0.fPort))) || (decide (a0.fSeconds < (1 : Int)))) || (decide ((86400 : Int) < a0.fSeconds))) || ((a0.fIn.length : Int) != (a0.fOut.length : Int))) || (decide ((9000 : Int) < (a0.fIn.length : Int))))) (by rfl) (fun hg1 => ?_) (fun hg1 => ?_)
  · replace h := ite_t hg1 h
    refine AWp.seq ?_
    refine AWp.region (oc (OpJ.assign (ltN hN rfl) (Opd.bool false))
      (OpJs.nil)) (by rfl) (by rfl) ?_
    refine seqQ_n ?_
    refine AWp.ghost (mp [] [(2, (bo false))] [] hB) ?_
    refine AWp.ret ?_
    refine seqQ_r ?_
    obtain rfl := Option.some.inj h
    exact ⟨.inl rfl, _, _, (mp [] [(2, (bo false))] [] hB), [(bo false)], (Res.tmp (by rfl) (by rfl) Res.nil), rfl, by rfl, by rfl, by rfl⟩
  · replace h := ite_f hg1 h
    refine AWp.skip ?_
    refine seqQ_n ?_
    refine AWp.seq ?_
    refine AWp.seq ?_
    refine AWp.region (oc (ov (.ptr 1001 2 [2]) (fp hN Try.underlying31 2 tyS28 (.box 31 (.d (e_api_Series a0))) (ot 1 (.ptr 1001 0 []))))
      (oc (lb hN 31 (.d (e_api_Series a0)) (qI_1 a0.fIn) tyS28 (ad (.list 1 (a0.fIn.map (eI .i64)))) (ot 39 (.ptr 1001 2 [2])))
      (oc (OpJ.val (v' := (i6 (a0.fIn.length : Int))) (by simp) (OpJ.lenD Try.underlying28 (ltN hN rfl) (ot 40 (qI_1 a0.fIn))))
      (oc (mv hN (Opd.int .i64 (0)))
      (OpJs.nil))))) (by rfl) (by rfl) ?_
    refine seqQ_n ?_
    refine AWp.ghost (mp [] [(1, (.ptr 1001 0 [])), (41, (i6 (a0.fIn.length : Int))), (42, (i6 0))] [(1001, some (.box 31 (.d (e_api_Series a0))))] hB) ?_
    refine AWp.block ?_
    obtain ⟨x17, hx18, h⟩ := bindS h
    refine AWp.ghost (mp [] ((fun s2 : Int => ([(1, (.ptr 1001 0 [])), (41, (i6 (a0.fIn.length : Int))), (42, (i6 s2))] : EL)) (0 : Int)) ((fun s2 : Int => ([(1001, some (.box 31 (.d (e_api_Series a0))))] : OL)) (0 : Int)) hB) ?_
    refine AWp.loopS (exchangepointref40_Valid_L0 a0) (fun s2 : Int => ([(1, (.ptr 1001 0 [])), (41, (i6 (a0.fIn.length : Int))), (42, (i6 s2))] : EL)) (fun s2 : Int => ([(1001, some (.box 31 (.d (e_api_Series a0))))] : OL)) (fun (x : (Unit) ⊕ (Unit)) e E' O' => match x with | (.inl _p) => e = .ret ∧ Mat B E' O' ([(2, (bo false))] : EL) ([] : OL) | (.inr _p) => e = .exit 0 ∧ Mat B E' O' ([] : EL) ([] : OL)) hx18 (fun s2 y h => ?_) (fun e E' O' hR => ?_)
    · unfold exchangepointref40_Valid_L0 at h
      show AWp _ _ _ _ ([(1, (.ptr 1001 0 [])), (41, (i6 (a0.fIn.length : Int))), (42, (i6 s2))] : EL) ([(1001, some (.box 31 (.d (e_api_Series a0))))] : OL)
      refine AWp.seq ?_
      refine AWp.region (oc (OpJ.lss (ltN hN rfl) (ot 42 (i6 s2)) (ot 41 (i6 (a0.fIn.length : Int))))
        (OpJs.nil)) (by rfl) (by rfl) ?_
      refine seqQ_n ?_
      refine AWp.ghost (mp [] [(1, (.ptr 1001 0 [])), (41, (i6 (a0.fIn.length : Int))), (42, (i6 s2)), (43, (bo (decide (s2 < (a0.fIn.length : Int)))))] [(1001, some (.box 31 (.d (e_api_Series a0))))] hB) ?_
      refine AWp.seq ?_
      refine AWp.cond (b := (decide (s2 < (a0.fIn.length : Int)))) (by rfl) (fun hg13 => ?_) (fun hg13 => ?_)
      · replace h := ite_t hg13 h
        refine AWp.skip ?_
        refine seqQ_n ?_
        refine AWp.seq ?_
        refine AWp.block ?_
        refine AWp.seq ?_
        refine AWp.region (oc (mv hN (ot 42 (i6 s2)))
          (oc (OpJ.assign (ltN hN rfl) (ot 44 (i6 s2)))
          (OpJs.nil))) (by rfl) (by rfl) ?_
        refine seqQ_n ?_
        refine AWp.ghost (mp [] [(1, (.ptr 1001 0 [])), (3, (i6 s2)), (41, (i6 (a0.fIn.length : Int))), (42, (i6 s2))] [(1001, some (.box 31 (.d (e_api_Series a0))))] hB) ?_
        refine AWp.seq ?_
        obtain ⟨x14, hx14, h⟩ := bindS h
        obtain ⟨x15, hx15, h⟩ := bindS h
        refine AWp.draws (by kernel_rfl) (oc (ov (.ptr 1001 2 [2]) (fp hN Try.underlying31 2 tyS28 (.box 31 (.d (e_api_Series a0))) (ot 1 (.ptr 1001 0 []))))
          (oc (lb hN 31 (.d (e_api_Series a0)) (qI_1 a0.fIn) tyS28 (ad (.list 1 (a0.fIn.map (eI .i64)))) (ot 45 (.ptr 1001 2 [2])))
          (oc (mv hN (ot 3 (i6 s2)))
          (oc (OpJ.indexD (el := (.int .i64 x14)) Try.underlying28 tyS3 (idx_some hx14).1 (get_map (eI .i64) (idx_some hx14).2) (ltN hN rfl) (ot 46 (qI_1 a0.fIn)) (ot 47 (i6 s2)))
          (oc (OpJ.loadD tyS3 (by rfl) (by rfl) (ltN hN rfl) (ot 48 (.dptr (.int .i64 x14))))
          (oc (ov (.ptr 1001 3 [3]) (fp hN Try.underlying31 3 tyS28 (.box 31 (.d (e_api_Series a0))) (ot 1 (.ptr 1001 0 []))))
          (oc (lb hN 31 (.d (e_api_Series a0)) (qI_1 a0.fOut) tyS28 (ad (.list 1 (a0.fOut.map (eI .i64)))) (ot 50 (.ptr 1001 3 [3])))
          (oc (mv hN (ot 3 (i6 s2)))
          (oc (OpJ.indexD (el := (.int .i64 x15)) Try.underlying28 tyS3 (idx_some hx15).1 (get_map (eI .i64) (idx_some hx15).2) (ltN hN rfl) (ot 51 (qI_1 a0.fOut)) (ot 52 (i6 s2)))
          (oc (OpJ.loadD tyS3 (by rfl) (by rfl) (ltN hN rfl) (ot 53 (.dptr (.int .i64 x15))))
          (oc (OpJ.assign (ltN hN rfl) (ot 49 (i6 x14)))
          (oc (OpJ.assign (ltN hN rfl) (ot 54 (i6 x15)))
          (OpJs.nil))))))))))))) (by kernel_rfl) (by rfl) (by rfl) ?_
        refine seqQ_n ?_
        refine AWp.ghost (mp [] [(1, (.ptr 1001 0 [])), (4, (i6 x14)), (5, (i6 x15)), (41, (i6 (a0.fIn.length : Int))), (42, (i6 s2))] [(1001, some (.box 31 (.d (e_api_Series a0))))] hB) ?_
        refine AWp.seq ?_
        refine AWp.region (oc (mv hN (ot 4 (i6 x14)))
          (oc (OpJ.lss (ltN hN rfl) (ot 55 (i6 x14)) (Opd.int .i64 (-1)))
          (oc (mv hN (ot 56 (bo (decide (x14 < (-1 : Int))))))
          (oc (op hN (i6 x14) (mv hN (ot 4 (i6 x14))) (OptL.keep rfl OptL.nil) (GuardV.plain _))
          (oc (op hN (bo (decide ((1125899906842624 : Int) < x14))) (OpJ.gtr (ltN hN rfl) (ot 58 (i6 x14)) (Opd.int .i64 (1125899906842624))) (OptL.opt OptL.nil) (GuardV.plain _))
          (oc (OpJ.pickOr rfl (ltN hN rfl) (ot 57 (bo (decide (x14 < (-1 : Int))))) (ot 59 (.opt ((decide (x14 < (-1 : Int))) == false) (bo (decide ((1125899906842624 : Int) < x14))))))
          (oc (mv hN (ot 60 (bo ((decide (x14 < (-1 : Int))) || (decide ((1125899906842624 : Int) < x14))))))
          (oc (op hN (i6 x15) (mv hN (ot 5 (i6 x15))) (OptL.keep rfl OptL.nil) (GuardV.plain _))
          (oc (op hN (bo (decide (x15 < (-1 : Int)))) (OpJ.lss (ltN hN rfl) (ot 62 (i6 x15)) (Opd.int .i64 (-1))) (OptL.opt OptL.nil) (GuardV.plain _))
          (oc (OpJ.pickOr rfl (ltN hN rfl) (ot 61 (bo ((decide (x14 < (-1 : Int))) || (decide ((1125899906842624 : Int) < x14))))) (ot 63 (.opt (((decide (x14 < (-1 : Int))) || (decide ((1125899906842624 : Int) < x14))) == false) (bo (decide (x15 < (-1 : Int)))))))
          (oc (mv hN (ot 64 (bo (((decide (x14 < (-1 : Int))) || (decide ((1125899906842624 : Int) < x14))) || (decide (x15 < (-1 : Int)))))))
          (oc (op hN (i6 x15) (mv hN (ot 5 (i6 x15))) (OptL.keep rfl OptL.nil) (GuardV.plain _))
          (oc (op hN (bo (decide ((1125899906842624 : Int) < x15))) (OpJ.gtr (ltN hN rfl) (ot 66 (i6 x15)) (Opd.int .i64 (1125899906842624))) (OptL.opt OptL.nil) (GuardV.plain _))
          (oc (OpJ.pickOr rfl (ltN hN rfl) (ot 65 (bo (((decide (x14 < (-1 : Int))) || (decide ((1125899906842624 : Int) < x14))) || (decide (x15 < (-1 : Int)))))) (ot 67 (.opt ((((decide (x14 < (-1 : Int))) || (decide ((1125899906842624 : Int) < x14))) || (decide (x15 < (-1 : Int)))) == false) (bo (decide ((1125899906842624 : Int) < x15))))))
          (oc (mv hN (ot 68 (bo ((((decide (x14 < (-1 : Int))) || (decide ((1125899906842624 : Int) < x14))) || (decide (x15 < (-1 : Int)))) || (decide ((1125899906842624 : Int) < x15))))))
          (oc (op hN (i6 x14) (mv hN (ot 4 (i6 x14))) (OptL.keep rfl OptL.nil) (GuardV.plain _))
          (oc (op hN (bo (x14 == (-1 : Int))) (OpJ.eqlI (ltN hN rfl) (ot 70 (i6 x14)) (Opd.int .i64 (-1))) (OptL.opt OptL.nil) (GuardV.plain _))
          (oc (op hN (i6 x15) (mv hN (ot 5 (i6 x15))) (OptL.keep rfl OptL.nil) (GuardV.plain _))
          (oc (op hN (bo (x15 == (-1 : Int))) (OpJ.eqlI (ltN hN rfl) (ot 72 (i6 x15)) (Opd.int .i64 (-1))) (OptL.opt OptL.nil) (GuardV.plain _))
          (oc (op hN (bo ((x14 == (-1 : Int)) != (x15 == (-1 : Int)))) (OpJ.neqB Try.underlying4 (ltN hN rfl) (ot 71 (bo (x14 == (-1 : Int)))) (ot 73 (bo (x15 == (-1 : Int))))) (OptL.opt (OptL.opt OptL.nil)) (GuardV.plain _))
          (oc (OpJ.pickOr rfl (ltN hN rfl) (ot 69 (bo ((((decide (x14 < (-1 : Int))) || (decide ((1125899906842624 : Int) < x14))) || (decide (x15 < (-1 : Int)))) || (decide ((1125899906842624 : Int) < x15))))) (ot 74 (.opt (((((decide (x14 < (-1 : Int))) || (decide ((1125899906842624 : Int) < x14))) || (decide (x15 < (-1 : Int)))) || (decide ((1125899906842624 : Int) < x15))) == false) (bo ((x14 == (-1 : Int)) != (x15 == (-1 : Int)))))))
          (OpJs.nil)))))))))))))))))))))) (by rfl) (by rfl) ?_
        refine seqQ_n ?_
        refine AWp.ghost (mp [] [(1, (.ptr 1001 0 [])), (41, (i6 (a0.fIn.length : Int))), (42, (i6 s2)), (75, (bo (((((decide (x14 < (-1 : Int))) || (decide ((1125899906842624 : Int) < x14))) || (decide (x15 < (-1 : Int)))) || (decide ((1125899906842624 : Int) < x15))) || ((x14 == (-1 : Int)) != (x15 == (-1 : Int))))))] [(1001, some (.box 31 (.d (e_api_Series a0))))] hB) ?_
        refine AWp.cond (b := (((((decide (x14 < (-1 : Int))) || (decide ((1125899906842624 : Int) < x14))) || (decide (x15 < (-1 : Int)))) || (decide ((1125899906842624 : Int) < x15))) || ((x14 == (-1 : Int)) != (x15 == (-1 : Int))))) (by rfl) (fun hg16 => ?_) (fun hg16 => ?_)
        · replace h := ite_t hg16 h
          refine AWp.seq ?_
          refine AWp.region (oc (OpJ.assign (ltN hN rfl) (Opd.bool false))
            (OpJs.nil)) (by rfl) (by rfl) ?_
          refine seqQ_n ?_
          refine AWp.ghost (mp [] [(2, (bo false))] [] hB) ?_
          refine AWp.ret ?_
          refine blkQ_r ?_
          refine seqQ_r ?_
          obtain rfl := Option.some.inj h
          exact ⟨(fun hc => by cases hc), rfl, (mp [] ((fun _ : Unit => ([(2, (bo false))] : EL)) ()) ((fun _ : Unit => ([] : OL)) ()) hB)⟩
        · replace h := ite_f hg16 h
          refine AWp.skip ?_
          refine blkQ_n ?_
          refine seqQ_n ?_
          refine AWp.region (oc (OpJ.add (ltN hN rfl) (ot 42 (i6 s2)) (Opd.int .i64 (1)))
            (oc (mv hN (ot 76 (i6 (w64 (s2 + (1 : Int))))))
            (OpJs.nil))) (by rfl) (by rfl) ?_
          obtain rfl := Option.some.inj h
          exact ⟨rfl, (Mat.trans (mp [] [(1, (.ptr 1001 0 [])), (41, (i6 (a0.fIn.length : Int))), (42, (i6 (w64 (s2 + (1 : Int)))))] [(1001, some (.box 31 (.d (e_api_Series a0))))] hB) (mp [] ((fun s2 : Int => ([(1, (.ptr 1001 0 [])), (41, (i6 (a0.fIn.length : Int))), (42, (i6 s2))] : EL)) (w64 (s2 + (1 : Int)))) ((fun s2 : Int => ([(1001, some (.box 31 (.d (e_api_Series a0))))] : OL)) (w64 (s2 + (1 : Int)))) hB))⟩
      · replace h := ite_f hg13 h
        refine AWp.exit ?_
        refine seqQ_e ?_
        obtain rfl := Option.some.inj h
        exact ⟨(fun hc => by cases hc), rfl, (mp [] ((fun _ : Unit => ([] : EL)) ()) ((fun _ : Unit => ([] : OL)) ()) hB)⟩
    · rcases x17 with _ | _
      · obtain ⟨rfl, hmat⟩ := hR
        refine blkQ_r ?_
        refine seqQ_r ?_
        obtain rfl := Option.some.inj h
        exact ⟨.inl rfl, _, _, (Mat.trans hmat (mp [] [(2, (bo false))] [] hB)), [(bo false)], (Res.tmp (by rfl) (by rfl) Res.nil), rfl, by rfl, by rfl, by rfl⟩
      · obtain ⟨rfl, hmat⟩ := hR
        refine blkQ_hit ?_
        refine seqQ_n ?_
        refine AWp.ghost hmat ?_
        refine AWp.seq ?_
        refine AWp.region (oc (OpJ.assign (ltN hN rfl) (Opd.bool true))
          (OpJs.nil)) (by rfl) (by rfl) ?_
        refine seqQ_n ?_
        refine AWp.ghost (mp [] [(2, (bo true))] [] hB) ?_
        refine AWp.ret ?_
        obtain rfl := Option.some.inj h
        exact ⟨.inl rfl, _, _, (mp [] [(2, (bo true))] [] hB), [(bo true)], (Res.tmp (by rfl) (by rfl) Res.nil), rfl, by rfl, by rfl, by rfl⟩

noncomputable def exchangepointref40_Rate (a0 : Int) (a1 : Int) : Option (Int × Int) :=
  (if ((((decide (a0 < (0 : Int))) || (decide ((1125899906842624 : Int) < a0))) || (decide (a1 < (1 : Int)))) || (decide ((86400 : Int) < a1))) = true then
  some ((0 : Int), (1 : Int))
  else
  chk (decide ((w64 (a1 * (1000000 : Int))) ≠ 0)) <|
  some ((w64 (Int.tdiv (w64 ((w64 ((w64 ((8 : Int) * a0)) + (w64 (a1 * (1000000 : Int))))) - (1 : Int))) (w64 (a1 * (1000000 : Int))))), (0 : Int)))
set_option maxHeartbeats 4000000 in
set_option maxRecDepth 100000 in
theorem exchangepointref40_Rate_ac (a0 : Int) (a1 : Int) (r : Int × Int) (h : exchangepointref40_Rate a0 a1 = some r) : AC Try.prog 66 [(.d (.int .i64 a0)), (.d (.int .i64 a1))] [] (.tup [(.d (.int .i64 r.1)), (.d (.int .i64 r.2))]) [] := by
  refine AC.of_code2 Try.func66 rfl rfl (Nat.le_of_ble_eq_true (by rfl)) fun B hB hN => ?_
  delta exchangepointref40_Rate at h
  refine AWp.seq ?_
  refine AWp.region (oc (OpJ.assign (ltN hN rfl) (Opd.int .i64 (0)))
  (oc (OpJ.assign (ltN hN rfl) (Opd.int .i64 (0)))
  (OpJs.nil))) (by rfl) (by rfl) ?_
  refine seqQ_n ?_
  refine AWp.ghost (mp [] [(0, (i6 a0)), (1, (i6 a1))] [] hB) ?_
  refine AWp.seq ?_
  refine AWp.seq ?_
  refine AWp.region (oc (mv hN (ot 0 (i6 a0)))
  (oc (OpJ.lss (ltN hN rfl) (ot 7 (i6 a0)) (Opd.int .i64 (0)))
  (oc (mv hN (ot 8 (bo (decide (a0 < (0 : Int))))))
  (oc (op hN (i6 a0) (mv hN (ot 0 (i6 a0))) (OptL.keep rfl OptL.nil) (GuardV.plain _))
  (oc (op hN (bo (decide ((1125899906842624 : Int) < a0))) (OpJ.gtr (ltN hN rfl) (ot 10 (i6 a0)) (Opd.int .i64 (1125899906842624))) (OptL.opt OptL.nil) (GuardV.plain _))
  (oc (OpJ.pickOr rfl (ltN hN rfl) (ot 9 (bo (decide (a0 < (0 : Int))))) (ot 11 (.opt ((decide (a0 < (0 : Int))) == false) (bo (decide ((1125899906842624 : Int) < a0))))))
  (oc (mv hN (ot 12 (bo ((decide (a0 < (0 : Int))) || (decide ((1125899906842624 : Int) < a0))))))
  (oc (op hN (i6 a1) (mv hN (ot 1 (i6 a1))) (OptL.keep rfl OptL.nil) (GuardV.plain _))
  (oc (op hN (bo (decide (a1 < (1 : Int)))) (OpJ.lss (ltN hN rfl) (ot 14 (i6 a1)) (Opd.int .i64 (1))) (OptL.opt OptL.nil) (GuardV.plain _))
  (oc (OpJ.pickOr rfl (ltN hN rfl) (ot 13 (bo ((decide (a0 < (0 : Int))) || (decide ((1125899906842624 : Int) < a0))))) (ot 15 (.opt (((decide (a0 < (0 : Int))) || (decide ((1125899906842624 : Int) < a0))) == false) (bo (decide (a1 < (1 : Int)))))))
  (oc (mv hN (ot 16 (bo (((decide (a0 < (0 : Int))) || (decide ((1125899906842624 : Int) < a0))) || (decide (a1 < (1 : Int)))))))
  (oc (op hN (i6 a1) (mv hN (ot 1 (i6 a1))) (OptL.keep rfl OptL.nil) (GuardV.plain _))
  (oc (op hN (bo (decide ((86400 : Int) < a1))) (OpJ.gtr (ltN hN rfl) (ot 18 (i6 a1)) (Opd.int .i64 (86400))) (OptL.opt OptL.nil) (GuardV.plain _))
  (oc (OpJ.pickOr rfl (ltN hN rfl) (ot 17 (bo (((decide (a0 < (0 : Int))) || (decide ((1125899906842624 : Int) < a0))) || (decide (a1 < (1 : Int)))))) (ot 19 (.opt ((((decide (a0 < (0 : Int))) || (decide ((1125899906842624 : Int) < a0))) || (decide (a1 < (1 : Int)))) == false) (bo (decide ((86400 : Int) < a1))))))
  (OpJs.nil))))))))))))))) (by rfl) (by rfl) ?_
  refine seqQ_n ?_
  refine AWp.ghost (mp [] [(0, (i6 a0)), (1, (i6 a1)), (20, (bo ((((decide (a0 < (0 : Int))) || (decide ((1125899906842624 : Int) < a0))) || (decide (a1 < (1 : Int)))) || (decide ((86400 : Int) < a1)))))] [] hB) ?_
  refine AWp.cond (b := ((((decide (a0 < (0 : Int))) || (decide ((1125899906842624 : Int) < a0))) || (decide (a1 < (1 : Int)))) || (decide ((86400 : Int) < a1)))) (by rfl) (fun hg1 => ?_) (fun hg1 => ?_)
  · replace h := ite_t hg1 h
    refine AWp.seq ?_
    refine AWp.region (oc (OpJ.assign (ltN hN rfl) (Opd.int .i64 (0)))
      (oc (OpJ.assign (ltN hN rfl) (Opd.int .i64 (1)))
      (OpJs.nil))) (by rfl) (by rfl) ?_
    refine seqQ_n ?_
    refine AWp.ghost (mp [] [(4, (i6 0)), (5, (i6 1))] [] hB) ?_
    refine AWp.ret ?_
    refine seqQ_r ?_
    obtain rfl := Option.some.inj h
    exact ⟨.inl rfl, _, _, (mp [] [(4, (i6 0)), (5, (i6 1))] [] hB), [(i6 0), (i6 1)], (Res.tmp (by rfl) (by rfl) (Res.tmp (by rfl) (by rfl) Res.nil)), rfl, by rfl, by rfl, by rfl⟩
  · replace h := ite_f hg1 h
    refine AWp.skip ?_
    refine seqQ_n ?_
    refine AWp.seq ?_
    refine AWp.region (oc (mv hN (ot 1 (i6 a1)))
      (oc (OpJ.mul (ltN hN rfl) (ot 21 (i6 a1)) (Opd.int .i64 (1000000)))
      (oc (OpJ.assign (ltN hN rfl) (ot 22 (i6 (w64 (a1 * (1000000 : Int))))))
      (OpJs.nil)))) (by rfl) (by rfl) ?_
    refine seqQ_n ?_
    refine AWp.ghost (mp [] [(0, (i6 a0)), (6, (i6 (w64 (a1 * (1000000 : Int)))))] [] hB) ?_
    refine AWp.seq ?_
    obtain ⟨hc2, h⟩ := chk_some h
    refine AWp.region (oc (mv hN (ot 0 (i6 a0)))
      (oc (OpJ.mul (ltN hN rfl) (Opd.int .i64 (8)) (ot 23 (i6 a0)))
      (oc (mv hN (ot 6 (i6 (w64 (a1 * (1000000 : Int))))))
      (oc (OpJ.add (ltN hN rfl) (ot 24 (i6 (w64 ((8 : Int) * a0)))) (ot 25 (i6 (w64 (a1 * (1000000 : Int))))))
      (oc (OpJ.sub (ltN hN rfl) (ot 26 (i6 (w64 ((w64 ((8 : Int) * a0)) + (w64 (a1 * (1000000 : Int))))))) (Opd.int .i64 (1)))
      (oc (mv hN (ot 6 (i6 (w64 (a1 * (1000000 : Int))))))
      (oc (OpJ.quo (ltN hN rfl) (ot 27 (i6 (w64 ((w64 ((w64 ((8 : Int) * a0)) + (w64 (a1 * (1000000 : Int))))) - (1 : Int))))) (ot 28 (i6 (w64 (a1 * (1000000 : Int))))) (of_decide_eq_true hc2))
      (oc (OpJ.assign (ltN hN rfl) (ot 29 (i6 (w64 (Int.tdiv (w64 ((w64 ((w64 ((8 : Int) * a0)) + (w64 (a1 * (1000000 : Int))))) - (1 : Int))) (w64 (a1 * (1000000 : Int))))))))
      (oc (OpJ.assign (ltN hN rfl) (Opd.int .i64 (0)))
      (OpJs.nil)))))))))) (by rfl) (by rfl) ?_
    refine seqQ_n ?_
    refine AWp.ghost (mp [] [(4, (i6 (w64 (Int.tdiv (w64 ((w64 ((w64 ((8 : Int) * a0)) + (w64 (a1 * (1000000 : Int))))) - (1 : Int))) (w64 (a1 * (1000000 : Int))))))), (5, (i6 0))] [] hB) ?_
    refine AWp.ret ?_
    obtain rfl := Option.some.inj h
    exact ⟨.inl rfl, _, _, (mp [] [(4, (i6 (w64 (Int.tdiv (w64 ((w64 ((w64 ((8 : Int) * a0)) + (w64 (a1 * (1000000 : Int))))) - (1 : Int))) (w64 (a1 * (1000000 : Int))))))), (5, (i6 0))] [] hB), [(i6 (w64 (Int.tdiv (w64 ((w64 ((w64 ((8 : Int) * a0)) + (w64 (a1 * (1000000 : Int))))) - (1 : Int))) (w64 (a1 * (1000000 : Int)))))), (i6 0)], (Res.tmp (by rfl) (by rfl) (Res.tmp (by rfl) (by rfl) Res.nil)), rfl, by rfl, by rfl, by rfl⟩

noncomputable def exchangepointref40_Rates_L0 (a0 : (List Int)) (a1 : Int) (s2 : Int × (List Int)) : Option (((Int) ⊕ ((List Int))) ⊕ (Int × (List Int))) :=
  (if (decide (s2.1 < (a0.length : Int))) = true then
  jn (fun m37 : (List Int) =>
  some (.inr ((w64 (s2.1 + (1 : Int))), m37))) (fun j38 =>
  (idx a0 s2.1).bind fun x39 =>
  (if (x39 == (-1 : Int)) = true then
  j38 s2.2
  else
  (exchangepointref40_Rate x39 a1).bind fun r41 =>
  (if (r41.2 != (0 : Int)) = true then
  some (.inl (.inl r41.2))
  else
  chk (decide ((s2.2 ++ ([r41.1] : List Int)).length ≤ LIM)) <|
  j38 (s2.2 ++ ([r41.1] : List Int)))))
  else
  some (.inl (.inr s2.2)))
noncomputable def exchangepointref40_Rates (a0 : (List Int)) (a1 : Int) : Option ((List Int) × Int) :=
  (if ((decide (a1 < (1 : Int))) || (decide ((86400 : Int) < a1))) = true then
  some (([] : List Int), (1 : Int))
  else
  (loop (exchangepointref40_Rates_L0 a0 a1) ((0 : Int), ([] : List Int))).bind fun x44 => match x44 with
  | (.inl p29) =>
    some (([] : List Int), p29)
  | (.inr p30) =>
    some (p30, (0 : Int)))
set_option maxHeartbeats 4000000 in
set_option maxRecDepth 100000 in
theorem exchangepointref40_Rates_ac (a0 : (List Int)) (a1 : Int) (r : (List Int) × Int) (h : exchangepointref40_Rates a0 a1 = some r) : AC Try.prog 54 [(.d (.list 1 (a0.map (eI .i64)))), (.d (.int .i64 a1))] [] (.tup [(.d (.list 1 (r.1.map (eI .i64)))), (.d (.int .i64 r.2))]) [] := by
  refine AC.of_code2 Try.func54 rfl rfl (Nat.le_of_ble_eq_true (by rfl)) fun B hB hN => ?_
  delta exchangepointref40_Rates at h
  refine AWp.seq ?_
  refine AWp.region (oc (OpJ.assign (ltN hN rfl) Opd.nils)
  (oc (OpJ.assign (ltN hN rfl) (Opd.int .i64 (0)))
  (OpJs.nil))) (by rfl) (by rfl) ?_
  refine seqQ_n ?_
  refine AWp.ghost (mp [] [(0, (qI_1 a0)), (1, (i6 a1))] [] hB) ?_
  refine AWp.seq ?_
  refine AWp.seq ?_
  refine AWp.region (oc (mv hN (ot 1 (i6 a1)))
  (oc (OpJ.lss (ltN hN rfl) (ot 11 (i6 a1)) (Opd.int .i64 (1)))
  (oc (mv hN (ot 12 (bo (decide (a1 < (1 : Int))))))
  (oc (op hN (i6 a1) (mv hN (ot 1 (i6 a1))) (OptL.keep rfl OptL.nil) (GuardV.plain _))
  (oc (op hN (bo (decide ((86400 : Int) < a1))) (OpJ.gtr (ltN hN rfl) (ot 14 (i6 a1)) (Opd.int .i64 (86400))) (OptL.opt OptL.nil) (GuardV.plain _))
  (oc (OpJ.pickOr rfl (ltN hN rfl) (ot 13 (bo (decide (a1 < (1 : Int))))) (ot 15 (.opt ((decide (a1 < (1 : Int))) == false) (bo (decide ((86400 : Int) < a1))))))
  (OpJs.nil))))))) (by rfl) (by rfl) ?_
  refine seqQ_n ?_
  refine AWp.ghost (mp [] [(0, (qI_1 a0)), (1, (i6 a1)), (16, (bo ((decide (a1 < (1 : Int))) || (decide ((86400 : Int) < a1)))))] [] hB) ?_
  refine AWp.cond (b := ((decide (a1 < (1 : Int))) || (decide ((86400 : Int) < a1)))) (by rfl) (fun hg1 => ?_) (fun hg1 => ?_)
  · replace h := ite_t hg1 h
    refine AWp.seq ?_
    refine AWp.region (oc (OpJ.assign (ltN hN rfl) Opd.nils)
      (oc (OpJ.assign (ltN hN rfl) (Opd.int .i64 (1)))
      (OpJs.nil))) (by rfl) (by rfl) ?_
    refine seqQ_n ?_
    refine AWp.ghost (mp [] [(4, .nils), (5, (i6 1))] [] hB) ?_
    refine AWp.ret ?_
    refine seqQ_r ?_
    obtain rfl := Option.some.inj h
    exact ⟨.inl rfl, _, _, (Mat.trans (Mat.coeP (Ts := [(4, (qI_1 ([] : List Int)))]) (Bs := []) (TwT.cons (x := .nils) (by rfl) (Tw.leaf ⟨_, (Co.nils 1), rfl⟩) TwT.nil) TwB.nil) (mp [] [(4, (qI_1 ([] : List Int))), (5, (i6 1))] [] hB)), [(qI_1 ([] : List Int)), (i6 1)], (Res.tmp (by rfl) (by rfl) (Res.tmp (by rfl) (by rfl) Res.nil)), rfl, by rfl, by rfl, by rfl⟩
  · replace h := ite_f hg1 h
    refine AWp.skip ?_
    refine seqQ_n ?_
    refine AWp.seq ?_
    refine AWp.region (oc (OpJ.assign (ltN hN rfl) Opd.nils)
      (OpJs.nil)) (by rfl) (by rfl) ?_
    refine seqQ_n ?_
    refine AWp.ghost (mp [] [(0, (qI_1 a0)), (1, (i6 a1)), (6, .nils)] [] hB) ?_
    refine AWp.seq ?_
    refine AWp.seq ?_
    refine AWp.region (oc (mv hN (ot 0 (qI_1 a0)))
      (oc (OpJ.val (v' := (i6 (a0.length : Int))) (by simp) (OpJ.lenD Try.underlying28 (ltN hN rfl) (ot 17 (qI_1 a0))))
      (oc (mv hN (Opd.int .i64 (0)))
      (OpJs.nil)))) (by rfl) (by rfl) ?_
    refine seqQ_n ?_
    refine AWp.ghost (mp [] [(1, (i6 a1)), (6, .nils), (17, (qI_1 a0)), (18, (i6 (a0.length : Int))), (19, (i6 0))] [] hB) ?_
    refine AWp.block ?_
    obtain ⟨x44, hx45, h⟩ := bindS h
    refine AWp.ghost (Mat.trans (Mat.beginP (n := 3006) (e := 3) (sz := 1) (Ts := [(6, (.sref 3006 1 0 0))]) (Bs := []) hB (by decide) (by rfl) (by decide) (TwT.cons (x := .nils) (by rfl) (Tw.leaf ⟨rfl, rfl⟩) TwT.nil) TwB.nil) (mp [] ((fun s2 : Int × (List Int) => ([(1, (i6 a1)), (6, (.sref 3006 1 0 s2.2.length)), (17, (qI_1 a0)), (18, (i6 (a0.length : Int))), (19, (i6 s2.1))] : EL)) ((0 : Int), ([] : List Int))) ((fun s2 : Int × (List Int) => ([(3006, some (wI_3_1 s2.2))] : OL)) ((0 : Int), ([] : List Int))) hB)) ?_
    refine AWp.loopS (exchangepointref40_Rates_L0 a0 a1) (fun s2 : Int × (List Int) => ([(1, (i6 a1)), (6, (.sref 3006 1 0 s2.2.length)), (17, (qI_1 a0)), (18, (i6 (a0.length : Int))), (19, (i6 s2.1))] : EL)) (fun s2 : Int × (List Int) => ([(3006, some (wI_3_1 s2.2))] : OL)) (fun (x : (Int) ⊕ ((List Int))) e E' O' => match x with | (.inl p29) => e = .ret ∧ Mat B E' O' ([(4, .nils), (5, (i6 p29))] : EL) ([] : OL) | (.inr p30) => e = .exit 0 ∧ Mat B E' O' ([(6, (.sref 3006 1 0 p30.length))] : EL) ([(3006, some (wI_3_1 p30))] : OL)) hx45 (fun s2 y h => ?_) (fun e E' O' hR => ?_)
    · unfold exchangepointref40_Rates_L0 at h
      show AWp _ _ _ _ ([(1, (i6 a1)), (6, (.sref 3006 1 0 s2.2.length)), (17, (qI_1 a0)), (18, (i6 (a0.length : Int))), (19, (i6 s2.1))] : EL) ([(3006, some (wI_3_1 s2.2))] : OL)
      refine AWp.seq ?_
      refine AWp.region (oc (OpJ.lss (ltN hN rfl) (ot 19 (i6 s2.1)) (ot 18 (i6 (a0.length : Int))))
        (OpJs.nil)) (by rfl) (by rfl) ?_
      refine seqQ_n ?_
      refine AWp.ghost (mp [] [(1, (i6 a1)), (6, (.sref 3006 1 0 s2.2.length)), (17, (qI_1 a0)), (18, (i6 (a0.length : Int))), (19, (i6 s2.1)), (20, (bo (decide (s2.1 < (a0.length : Int)))))] [(3006, some (wI_3_1 s2.2))] hB) ?_
      refine AWp.seq ?_
      refine AWp.cond (b := (decide (s2.1 < (a0.length : Int)))) (by rfl) (fun hg31 => ?_) (fun hg31 => ?_)
      · replace h := ite_t hg31 h
        refine AWp.skip ?_
        refine seqQ_n ?_
        refine AWp.seq ?_
        refine AWp.cut h (fun m37 : (List Int) => ([(1, (i6 a1)), (6, (.sref 3006 1 0 m37.length)), (17, (qI_1 a0)), (18, (i6 (a0.length : Int))), (19, (i6 s2.1))] : EL)) (fun m37 : (List Int) => ([(3006, some (wI_3_1 m37))] : OL)) (fun m37 h E' O' hmat => ?_) (fun j38 hjj38 h => ?_)
        · refine seqQ_n ?_
          refine AWp.ghost hmat ?_
          refine AWp.region (oc (OpJ.add (ltN hN rfl) (ot 19 (i6 s2.1)) (Opd.int .i64 (1)))
            (oc (mv hN (ot 38 (i6 (w64 (s2.1 + (1 : Int))))))
            (OpJs.nil))) (by rfl) (by rfl) ?_
          obtain rfl := Option.some.inj h
          exact ⟨rfl, (Mat.trans (mp [] [(1, (i6 a1)), (6, (.sref 3006 1 0 m37.length)), (17, (qI_1 a0)), (18, (i6 (a0.length : Int))), (19, (i6 (w64 (s2.1 + (1 : Int)))))] [(3006, some (wI_3_1 m37))] hB) (mp [] ((fun s2 : Int × (List Int) => ([(1, (i6 a1)), (6, (.sref 3006 1 0 s2.2.length)), (17, (qI_1 a0)), (18, (i6 (a0.length : Int))), (19, (i6 s2.1))] : EL)) ((w64 (s2.1 + (1 : Int))), m37)) ((fun s2 : Int × (List Int) => ([(3006, some (wI_3_1 s2.2))] : OL)) ((w64 (s2.1 + (1 : Int))), m37)) hB))⟩
        · refine AWp.block ?_
          refine AWp.seq ?_
          obtain ⟨x39, hx39, h⟩ := bindS h
          refine AWp.region (oc (OpJ.indexD (el := (.int .i64 x39)) Try.underlying28 tyS3 (idx_some hx39).1 (get_map (eI .i64) (idx_some hx39).2) (ltN hN rfl) (ot 17 (qI_1 a0)) (ot 19 (i6 s2.1)))
            (oc (OpJ.loadD tyS3 (by rfl) (by rfl) (ltN hN rfl) (ot 21 (.dptr (.int .i64 x39))))
            (oc (OpJ.assign (ltN hN rfl) (ot 22 (i6 x39)))
            (OpJs.nil)))) (by rfl) (by rfl) ?_
          refine seqQ_n ?_
          refine AWp.ghost (mp [] [(1, (i6 a1)), (6, (.sref 3006 1 0 s2.2.length)), (8, (i6 x39)), (17, (qI_1 a0)), (18, (i6 (a0.length : Int))), (19, (i6 s2.1))] [(3006, some (wI_3_1 s2.2))] hB) ?_
          refine AWp.seq ?_
          refine AWp.seq ?_
          refine AWp.region (oc (mv hN (ot 8 (i6 x39)))
            (oc (OpJ.eqlI (ltN hN rfl) (ot 23 (i6 x39)) (Opd.int .i64 (-1)))
            (OpJs.nil))) (by rfl) (by rfl) ?_
          refine seqQ_n ?_
          refine AWp.ghost (mp [] [(1, (i6 a1)), (6, (.sref 3006 1 0 s2.2.length)), (8, (i6 x39)), (17, (qI_1 a0)), (18, (i6 (a0.length : Int))), (19, (i6 s2.1)), (24, (bo (x39 == (-1 : Int))))] [(3006, some (wI_3_1 s2.2))] hB) ?_
          refine AWp.cond (b := (x39 == (-1 : Int))) (by rfl) (fun hg40 => ?_) (fun hg40 => ?_)
          · replace h := ite_t hg40 h
            refine AWp.exit ?_
            refine seqQ_e ?_
            refine blkQ_hit ?_
            exact hjj38 _ h _ _ (mp [] ((fun m37 : (List Int) => ([(1, (i6 a1)), (6, (.sref 3006 1 0 m37.length)), (17, (qI_1 a0)), (18, (i6 (a0.length : Int))), (19, (i6 s2.1))] : EL)) s2.2) ((fun m37 : (List Int) => ([(3006, some (wI_3_1 m37))] : OL)) s2.2) hB)
          · replace h := ite_f hg40 h
            refine AWp.skip ?_
            refine seqQ_n ?_
            refine AWp.seq ?_
            obtain ⟨r41, hr41, h⟩ := bindS h
            refine AWp.region (oc (mv hN (ot 8 (i6 x39)))
              (oc (mv hN (ot 1 (i6 a1)))
              (oc (OpJ.callFn hB fnOk66 (exchangepointref40_Rate_ac x39 a1 r41 hr41) [] (by kernel_rfl) (ltN hN rfl) (by kernel_rfl) (OpdL.cons (ot 26 (i6 x39)) (OpdL.cons (ot 27 (i6 a1)) OpdL.nil)))
              (oc (mv hN (ot 28 (.tup [(i6 r41.1), (i6 r41.2)])))
              (oc (OpJ.extract (v := (i6 r41.1)) (by rfl) rfl (ltN hN rfl) (ot 25 (.tup [(i6 r41.1), (i6 r41.2)])))
              (oc (OpJ.extract (v := (i6 r41.2)) (by rfl) rfl (ltN hN rfl) (ot 25 (.tup [(i6 r41.1), (i6 r41.2)])))
              (oc (OpJ.assign (ltN hN rfl) (ot 29 (i6 r41.1)))
              (oc (OpJ.assign (ltN hN rfl) (ot 30 (i6 r41.2)))
              (OpJs.nil))))))))) (by rfl) (by rfl) ?_
            refine seqQ_n ?_
            refine AWp.ghost (mp [] [(1, (i6 a1)), (6, (.sref 3006 1 0 s2.2.length)), (9, (i6 r41.1)), (10, (i6 r41.2)), (17, (qI_1 a0)), (18, (i6 (a0.length : Int))), (19, (i6 s2.1))] [(3006, some (wI_3_1 s2.2))] hB) ?_
            refine AWp.seq ?_
            refine AWp.seq ?_
            refine AWp.region (oc (mv hN (ot 10 (i6 r41.2)))
              (oc (OpJ.neqI (ltN hN rfl) (ot 31 (i6 r41.2)) (Opd.int .i64 (0)))
              (OpJs.nil))) (by rfl) (by rfl) ?_
            refine seqQ_n ?_
            refine AWp.ghost (mp [] [(1, (i6 a1)), (6, (.sref 3006 1 0 s2.2.length)), (9, (i6 r41.1)), (10, (i6 r41.2)), (17, (qI_1 a0)), (18, (i6 (a0.length : Int))), (19, (i6 s2.1)), (32, (bo (r41.2 != (0 : Int))))] [(3006, some (wI_3_1 s2.2))] hB) ?_
            refine AWp.cond (b := (r41.2 != (0 : Int))) (by rfl) (fun hg42 => ?_) (fun hg42 => ?_)
            · replace h := ite_t hg42 h
              refine AWp.seq ?_
              refine AWp.region (oc (mv hN (ot 10 (i6 r41.2)))
                (oc (OpJ.assign (ltN hN rfl) Opd.nils)
                (oc (OpJ.assign (ltN hN rfl) (ot 33 (i6 r41.2)))
                (OpJs.nil)))) (by rfl) (by rfl) ?_
              refine seqQ_n ?_
              refine AWp.ghost (mp [] [(4, .nils), (5, (i6 r41.2))] [] hB) ?_
              refine AWp.ret ?_
              refine seqQ_r ?_
              refine blkQ_r ?_
              refine seqQ_r ?_
              obtain rfl := Option.some.inj h
              exact ⟨(fun hc => by cases hc), rfl, (mp [] ((fun p29 : Int => ([(4, .nils), (5, (i6 p29))] : EL)) r41.2) ((fun p29 : Int => ([] : OL)) r41.2) hB)⟩
            · replace h := ite_f hg42 h
              refine AWp.skip ?_
              refine seqQ_n ?_
              obtain ⟨hc43, h⟩ := chk_some h
              refine AWp.region (oc (mv hN (ot 6 (.sref 3006 1 0 s2.2.length)))
                (oc (mv hN (ot 9 (i6 r41.1)))
                (oc (OpJ.buildSlice Try.underlying28 tyS3 tyZD3 (by rfl) (by decide) (by decide) (Opds.cons (ot 35 (i6 r41.1)) Opds.nil) (by kernel_rfl) (es := ([(.int .i64 r41.1)] : List D)) (by rfl) (by rfl) (by kernel_rfl) (by simp) (ltN hN rfl))
                (oc (OpJ.append hB Try.underlying28 tyE3 (nm := 1037) (by decide) (es := s2.2.map (eI .i64)) (ys := ([r41.1] : List Int).map (eI .i64)) (es' := (s2.2 ++ ([r41.1] : List Int)).map (eI .i64)) (len := (s2.2 ++ ([r41.1] : List Int)).length) (by simp) (by simp) (map_sz (f := (eI .i64)) (fun _ => rfl)) (by rw [List.length_map]; exact lim_mulN hc43 (by decide)) (by rw [List.length_map]; exact lim_leN hc43) (ltN hN rfl) (by simp) (ot 34 (.sref 3006 1 0 s2.2.length)) (ot 36 (qI_1 ([r41.1] : List Int))))
                (oc (OpJ.assign (ltN hN rfl) (ot 37 (.sref 1037 1 0 ((s2.2 ++ ([r41.1] : List Int)).length))))
                (OpJs.nil)))))) (by rfl) (by rfl) ?_
              refine blkQ_n ?_
              exact hjj38 _ h _ _ (Mat.trans (mp [] [(1, (i6 a1)), (6, (.sref 1037 1 0 ((s2.2 ++ ([r41.1] : List Int)).length))), (17, (qI_1 a0)), (18, (i6 (a0.length : Int))), (19, (i6 s2.1))] [(1037, some (wI_3_1 (s2.2 ++ ([r41.1] : List Int))))] hB) (mp [(3006, 1037)] ((fun m37 : (List Int) => ([(1, (i6 a1)), (6, (.sref 3006 1 0 m37.length)), (17, (qI_1 a0)), (18, (i6 (a0.length : Int))), (19, (i6 s2.1))] : EL)) (s2.2 ++ ([r41.1] : List Int))) ((fun m37 : (List Int) => ([(3006, some (wI_3_1 m37))] : OL)) (s2.2 ++ ([r41.1] : List Int))) hB))
      · replace h := ite_f hg31 h
        refine AWp.exit ?_
        refine seqQ_e ?_
        obtain rfl := Option.some.inj h
        exact ⟨(fun hc => by cases hc), rfl, (mp [] ((fun p30 : (List Int) => ([(6, (.sref 3006 1 0 p30.length))] : EL)) s2.2) ((fun p30 : (List Int) => ([(3006, some (wI_3_1 p30))] : OL)) s2.2) hB)⟩
    · rcases x44 with p29 | p30
      · obtain ⟨rfl, hmat⟩ := hR
        refine blkQ_r ?_
        refine seqQ_r ?_
        obtain rfl := Option.some.inj h
        exact ⟨.inl rfl, _, _, (Mat.trans hmat (Mat.trans (Mat.coeP (Ts := [(4, (qI_1 ([] : List Int)))]) (Bs := []) (TwT.cons (x := .nils) (by rfl) (Tw.leaf ⟨_, (Co.nils 1), rfl⟩) TwT.nil) TwB.nil) (mp [] [(4, (qI_1 ([] : List Int))), (5, (i6 p29))] [] hB))), [(qI_1 ([] : List Int)), (i6 p29)], (Res.tmp (by rfl) (by rfl) (Res.tmp (by rfl) (by rfl) Res.nil)), rfl, by rfl, by rfl, by rfl⟩
      · obtain ⟨rfl, hmat⟩ := hR
        refine blkQ_hit ?_
        refine seqQ_n ?_
        refine AWp.ghost hmat ?_
        refine AWp.seq ?_
        refine AWp.region (oc (mv hN (ot 6 (.sref 3006 1 0 p30.length)))
          (oc (OpJ.assign (ltN hN rfl) (ot 39 (.sref 3006 1 0 p30.length)))
          (oc (OpJ.assign (ltN hN rfl) (Opd.int .i64 (0)))
          (OpJs.nil)))) (by rfl) (by rfl) ?_
        refine seqQ_n ?_
        refine AWp.ghost (mp [] [(4, (.sref 3006 1 0 p30.length)), (5, (i6 0))] [(3006, some (wI_3_1 p30))] hB) ?_
        refine AWp.ret ?_
        obtain rfl := Option.some.inj h
        exact ⟨.inl rfl, _, _, (Mat.trans (Mat.freezeP (n := 3006) (e := 3) (sz := 1) (es := p30.map (eI .i64)) (Ts := [(4, (qI_1 p30))]) (Bs := []) (by rfl) (TwT.cons (x := (.sref 3006 1 0 p30.length)) (by rfl) (FrzL.all (by first | rfl | (simp; done) | (simp; omega))) TwT.nil) TwB.nil) (mp [] [(4, (qI_1 p30)), (5, (i6 0))] [] hB)), [(qI_1 p30), (i6 0)], (Res.tmp (by rfl) (by rfl) (Res.tmp (by rfl) (by rfl) Res.nil)), rfl, by rfl, by rfl, by rfl⟩

noncomputable def exchangepointref40_Percentile (a0 : (List Int)) (a1 : Int) : Option (Int × Int) :=
  (if (((decide (a1 < (1 : Int))) || (decide ((100 : Int) < a1))) || (decide ((9000 : Int) < (a0.length : Int)))) = true then
  some ((0 : Int), (1 : Int))
  else
  (if ((a0.length : Int) == (0 : Int)) = true then
  some ((0 : Int), (39 : Int))
  else
  chk (decide (a0.length ≤ LIM)) <|
  (ext45_slices_Sort a0).bind fun r4 =>
  chk (decide (r4.length = a0.length)) <|
  (idx r4 (w64 ((w64 (Int.tdiv (w64 ((w64 (a1 * (a0.length : Int))) + (99 : Int))) (100 : Int))) - (1 : Int)))).bind fun x6 =>
  (idx r4 (w64 ((w64 (Int.tdiv (w64 ((w64 (a1 * (a0.length : Int))) + (99 : Int))) (100 : Int))) - (1 : Int)))).bind fun x7 =>
  some (x7, (0 : Int))))
set_option maxHeartbeats 4000000 in
set_option maxRecDepth 100000 in
theorem exchangepointref40_Percentile_ac (a0 : (List Int)) (a1 : Int) (r : Int × Int) (h : exchangepointref40_Percentile a0 a1 = some r) : AC Try.prog 55 [(.d (.list 1 (a0.map (eI .i64)))), (.d (.int .i64 a1))] [] (.tup [(.d (.int .i64 r.1)), (.d (.int .i64 r.2))]) [] := by
  refine AC.of_code2 Try.func55 rfl rfl (Nat.le_of_ble_eq_true (by rfl)) fun B hB hN => ?_
  delta exchangepointref40_Percentile at h
  refine AWp.seq ?_
  refine AWp.region (oc (OpJ.assign (ltN hN rfl) (Opd.int .i64 (0)))
  (oc (OpJ.assign (ltN hN rfl) (Opd.int .i64 (0)))
  (OpJs.nil))) (by rfl) (by rfl) ?_
  refine seqQ_n ?_
  refine AWp.ghost (mp [] [(0, (qI_1 a0)), (1, (i6 a1))] [] hB) ?_
  refine AWp.seq ?_
  refine AWp.seq ?_
  refine AWp.region (oc (mv hN (ot 1 (i6 a1)))
  (oc (OpJ.lss (ltN hN rfl) (ot 7 (i6 a1)) (Opd.int .i64 (1)))
  (oc (mv hN (ot 8 (bo (decide (a1 < (1 : Int))))))
  (oc (op hN (i6 a1) (mv hN (ot 1 (i6 a1))) (OptL.keep rfl OptL.nil) (GuardV.plain _))
  (oc (op hN (bo (decide ((100 : Int) < a1))) (OpJ.gtr (ltN hN rfl) (ot 10 (i6 a1)) (Opd.int .i64 (100))) (OptL.opt OptL.nil) (GuardV.plain _))
  (oc (OpJ.pickOr rfl (ltN hN rfl) (ot 9 (bo (decide (a1 < (1 : Int))))) (ot 11 (.opt ((decide (a1 < (1 : Int))) == false) (bo (decide ((100 : Int) < a1))))))
  (oc (mv hN (ot 12 (bo ((decide (a1 < (1 : Int))) || (decide ((100 : Int) < a1))))))
  (oc (op hN (qI_1 a0) (mv hN (ot 0 (qI_1 a0))) (OptL.keep rfl OptL.nil) (GuardV.plain _))
  (oc (op hN (i6 (a0.length : Int)) (OpJ.val (v' := (i6 (a0.length : Int))) (by simp) (OpJ.lenD Try.underlying28 (ltN hN rfl) (ot 14 (qI_1 a0)))) (OptL.opt OptL.nil) (GuardV.plain _))
  (oc (op hN (bo (decide ((9000 : Int) < (a0.length : Int)))) (OpJ.gtr (ltN hN rfl) (ot 15 (i6 (a0.length : Int))) (Opd.int .i64 (9000))) (OptL.opt OptL.nil) (GuardV.plain _))
  (oc (OpJ.pickOr rfl (ltN hN rfl) (ot 13 (bo ((decide (a1 < (1 : Int))) || (decide ((100 : Int) < a1))))) (ot 16 (.opt (((decide (a1 < (1 : Int))) || (decide ((100 : Int) < a1))) == false) (bo (decide ((9000 : Int) < (a0.length : Int)))))))
  (OpJs.nil)))))))))))) (by rfl) (by rfl) ?_
  refine seqQ_n ?_
  refine AWp.ghost (mp [] [(0, (qI_1 a0)), (1, (i6 a1)), (17, (bo (((decide (a1 < (1 : Int))) || (decide ((100 : Int) < a1))) || (decide ((9000 : Int) < (a0.length : Int))))))] [] hB) ?_
  refine AWp.cond (b := (((decide (a1 < (1 : Int))) || (decide ((100 : Int) < a1))) || (decide ((9000 : Int) < (a0.length : Int))))) (by rfl) (fun hg1 => ?_) (fun hg1 => ?_)
  · replace h := ite_t hg1 h
    refine AWp.seq ?_
    refine AWp.region (oc (OpJ.assign (ltN hN rfl) (Opd.int .i64 (0)))
      (oc (OpJ.assign (ltN hN rfl) (Opd.int .i64 (1)))
      (OpJs.nil))) (by rfl) (by rfl) ?_
    refine seqQ_n ?_
    refine AWp.ghost (mp [] [(4, (i6 0)), (5, (i6 1))] [] hB) ?_
    refine AWp.ret ?_
    refine seqQ_r ?_
    obtain rfl := Option.some.inj h
    exact ⟨.inl rfl, _, _, (mp [] [(4, (i6 0)), (5, (i6 1))] [] hB), [(i6 0), (i6 1)], (Res.tmp (by rfl) (by rfl) (Res.tmp (by rfl) (by rfl) Res.nil)), rfl, by rfl, by rfl, by rfl⟩
  · replace h := ite_f hg1 h
    refine AWp.skip ?_
    refine seqQ_n ?_
    refine AWp.seq ?_
    refine AWp.seq ?_
    refine AWp.region (oc (mv hN (ot 0 (qI_1 a0)))
      (oc (OpJ.val (v' := (i6 (a0.length : Int))) (by simp) (OpJ.lenD Try.underlying28 (ltN hN rfl) (ot 18 (qI_1 a0))))
      (oc (OpJ.eqlI (ltN hN rfl) (ot 19 (i6 (a0.length : Int))) (Opd.int .i64 (0)))
      (OpJs.nil)))) (by rfl) (by rfl) ?_
    refine seqQ_n ?_
    refine AWp.ghost (mp [] [(0, (qI_1 a0)), (1, (i6 a1)), (20, (bo ((a0.length : Int) == (0 : Int))))] [] hB) ?_
    refine AWp.cond (b := ((a0.length : Int) == (0 : Int))) (by rfl) (fun hg2 => ?_) (fun hg2 => ?_)
    · replace h := ite_t hg2 h
      refine AWp.seq ?_
      refine AWp.region (oc (OpJ.assign (ltN hN rfl) (Opd.int .i64 (0)))
        (oc (OpJ.assign (ltN hN rfl) (Opd.int .i64 (39)))
        (OpJs.nil))) (by rfl) (by rfl) ?_
      refine seqQ_n ?_
      refine AWp.ghost (mp [] [(4, (i6 0)), (5, (i6 (39 : Int)))] [] hB) ?_
      refine AWp.ret ?_
      refine seqQ_r ?_
      obtain rfl := Option.some.inj h
      exact ⟨.inl rfl, _, _, (mp [] [(4, (i6 0)), (5, (i6 (39 : Int)))] [] hB), [(i6 0), (i6 (39 : Int))], (Res.tmp (by rfl) (by rfl) (Res.tmp (by rfl) (by rfl) Res.nil)), rfl, by rfl, by rfl, by rfl⟩
    · replace h := ite_f hg2 h
      refine AWp.skip ?_
      refine seqQ_n ?_
      refine AWp.seq ?_
      obtain ⟨hc3, h⟩ := chk_some h
      refine AWp.region (oc (mv hN (ot 0 (qI_1 a0)))
        (oc (OpJ.appendN hB Try.underlying28 tyE3 (nm := 1022) (by decide) (ys := a0.map (eI .i64)) (len := a0.length) (by simp) (map_sz (f := (eI .i64)) (fun _ => rfl)) (by rw [List.length_map]; exact lim_mulN hc3 (by decide)) (by rw [List.length_map]; exact lim_leN hc3) (ltN hN rfl) Opd.nils (ot 21 (qI_1 a0)))
        (oc (OpJ.assign (ltN hN rfl) (ot 22 (.sref 1022 1 0 a0.length)))
        (OpJs.nil)))) (by rfl) (by rfl) ?_
      refine seqQ_n ?_
      refine AWp.ghost (mp [] [(1, (i6 a1)), (6, (.sref 1022 1 0 a0.length))] [(1022, some (wI_3_1 a0))] hB) ?_
      refine AWp.seq ?_
      obtain ⟨r4, hr4, h⟩ := bindS h
      obtain ⟨hc5, h⟩ := chk_some h
      have hc5_o := of_decide_eq_true hc5
      refine AWp.region (oc (mv hN (ot 6 (.sref 1022 1 0 a0.length)))
        (oc (OpJ.callFn hB fnOk45 (ext45_slices_Sort_ac a0 r4 hr4) [(0, 1022)] (by kernel_rfl) (ltN hN rfl) (by kernel_rfl) (OpdL.cons (ot 23 (.sref 1022 1 0 a0.length)) OpdL.nil))
        (OpJs.nil))) (by rfl) (by rfl) ?_
      refine seqQ_n ?_
      refine AWp.ghost (mp [] [(1, (i6 a1)), (6, (.sref 1022 1 0 a0.length))] [(1022, some (wI_3_1 r4))] hB) ?_
      refine AWp.seq ?_
      obtain ⟨x6, hx6, h⟩ := bindS h
      obtain ⟨x7, hx7, h⟩ := bindS h
      refine AWp.region (oc (mv hN (ot 6 (.sref 1022 1 0 a0.length)))
        (oc (mv hN (ot 1 (i6 a1)))
        (oc (mv hN (ot 6 (.sref 1022 1 0 a0.length)))
        (oc (OpJ.lenS (obj := (wI_3_1 r4)) Try.underlying28 (ltN hN rfl) (ot 27 (.sref 1022 1 0 a0.length)))
        (oc (OpJ.mul (ltN hN rfl) (ot 26 (i6 a1)) (ot 28 (i6 (a0.length : Int))))
        (oc (OpJ.add (ltN hN rfl) (ot 29 (i6 (w64 (a1 * (a0.length : Int))))) (Opd.int .i64 (99)))
        (oc (OpJ.quo (ltN hN rfl) (ot 30 (i6 (w64 ((w64 (a1 * (a0.length : Int))) + (99 : Int))))) (Opd.int .i64 (100)) (by decide))
        (oc (OpJ.sub (ltN hN rfl) (ot 31 (i6 (w64 (Int.tdiv (w64 ((w64 (a1 * (a0.length : Int))) + (99 : Int))) (100 : Int))))) (Opd.int .i64 (1)))
        (oc (OpJ.val (v' := (.ptr 1022 ((w64 ((w64 (Int.tdiv (w64 ((w64 (a1 * (a0.length : Int))) + (99 : Int))) (100 : Int))) - (1 : Int))).toNat * 1) [(w64 ((w64 (Int.tdiv (w64 ((w64 (a1 * (a0.length : Int))) + (99 : Int))) (100 : Int))) - (1 : Int))).toNat])) (by simp) (OpJ.indexS Try.underlying28 tyS3 (obj := (wI_3_1 r4)) (idx_some hx6).1 (by have := idx_lt hx6; first | (simpa using this) | ((try simp only [List.length_map] at this); (try simp only [List.length_map]); omega)) (ltN hN rfl) (ot 25 (.sref 1022 1 0 a0.length)) (ot 32 (i6 (w64 ((w64 (Int.tdiv (w64 ((w64 (a1 * (a0.length : Int))) + (99 : Int))) (100 : Int))) - (1 : Int)))))))
        (oc (OpJ.loadR (e := 3) (sz := 1) (es := r4.map (eI .i64)) tyS3 (get_map (eI .i64) (idx_some hx7).2) (o := 0) (v := (.int .i64 x7)) (At.here _) (by rfl) (by rfl) (by rfl) (ltN hN rfl) (ot 33 (.ptr 1022 ((w64 ((w64 (Int.tdiv (w64 ((w64 (a1 * (a0.length : Int))) + (99 : Int))) (100 : Int))) - (1 : Int))).toNat * 1) [(w64 ((w64 (Int.tdiv (w64 ((w64 (a1 * (a0.length : Int))) + (99 : Int))) (100 : Int))) - (1 : Int))).toNat])))
        (oc (OpJ.assign (ltN hN rfl) (ot 34 (i6 x7)))
        (oc (OpJ.assign (ltN hN rfl) (Opd.int .i64 (0)))
        (OpJs.nil))))))))))))) (by rfl) (by rfl) ?_
      refine seqQ_n ?_
      refine AWp.ghost (mp [] [(4, (i6 x7)), (5, (i6 0))] [] hB) ?_
      refine AWp.ret ?_
      obtain rfl := Option.some.inj h
      exact ⟨.inl rfl, _, _, (mp [] [(4, (i6 x7)), (5, (i6 0))] [] hB), [(i6 x7), (i6 0)], (Res.tmp (by rfl) (by rfl) (Res.tmp (by rfl) (by rfl) Res.nil)), rfl, by rfl, by rfl, by rfl⟩

noncomputable def exchangepointref40_Used (a0 : api_Series) (a1 : Int) : Option (Int × Int) :=
  (exchangepointref40_Valid a0).bind fun r1 =>
  (if (!r1) = true then
  some ((0 : Int), (1 : Int))
  else
  (exchangepointref40_Rates a0.fIn a0.fSeconds).bind fun r3 =>
  (exchangepointref40_Rates a0.fOut a0.fSeconds).bind fun r4 =>
  (exchangepointref40_Percentile r3.1 a1).bind fun r5 =>
  (if (r5.2 != (0 : Int)) = true then
  some ((0 : Int), r5.2)
  else
  (exchangepointref40_Percentile r4.1 a1).bind fun r7 =>
  some ((maxI r5.1 r7.1), (0 : Int))))
set_option maxHeartbeats 4000000 in
set_option maxRecDepth 100000 in
theorem exchangepointref40_Used_ac (a0 : api_Series) (a1 : Int) (r : Int × Int) (h : exchangepointref40_Used a0 a1 = some r) : AC Try.prog 37 [(.d (e_api_Series a0)), (.d (.int .i64 a1))] [] (.tup [(.d (.int .i64 r.1)), (.d (.int .i64 r.2))]) [] := by
  refine AC.of_code2 Try.func37 rfl rfl (Nat.le_of_ble_eq_true (by rfl)) fun B hB hN => ?_
  delta exchangepointref40_Used at h
  refine AWp.seq ?_
  refine AWp.region (oc (OpJ.box hB (nm := 1002) (by decide) (by simp) rfl (ltN hN rfl) (ot 0 (.d (e_api_Series a0))))
  (oc (OpJ.assign (ltN hN rfl) (Opd.int .i64 (0)))
  (oc (OpJ.assign (ltN hN rfl) (Opd.int .i64 (0)))
  (OpJs.nil)))) (by rfl) (by rfl) ?_
  refine seqQ_n ?_
  refine AWp.ghost (mp [] [(1, (i6 a1)), (2, (.ptr 1002 0 []))] [(1002, some (.box 31 (.d (e_api_Series a0))))] hB) ?_
  refine AWp.seq ?_
  refine AWp.seq ?_
  obtain ⟨r1, hr1, h⟩ := bindS h
  refine AWp.region (oc (lb hN 31 (.d (e_api_Series a0)) (.d (e_api_Series a0)) tyS31 (At.here _) (ot 2 (.ptr 1002 0 [])))
  (oc (OpJ.callFn hB fnOk38 (exchangepointref40_Valid_ac a0 r1 hr1) [] (by kernel_rfl) (ltN hN rfl) (by kernel_rfl) (OpdL.cons (ot 14 (.d (e_api_Series a0))) OpdL.nil))
  (oc (OpJ.not (ltN hN rfl) (ot 15 (bo r1)))
  (OpJs.nil)))) (by rfl) (by rfl) ?_
  refine seqQ_n ?_
  refine AWp.ghost (mp [] [(1, (i6 a1)), (2, (.ptr 1002 0 [])), (16, (bo (!r1)))] [(1002, some (.box 31 (.d (e_api_Series a0))))] hB) ?_
  refine AWp.cond (b := (!r1)) (by rfl) (fun hg2 => ?_) (fun hg2 => ?_)
  · replace h := ite_t hg2 h
    refine AWp.seq ?_
    refine AWp.region (oc (OpJ.assign (ltN hN rfl) (Opd.int .i64 (0)))
      (oc (OpJ.assign (ltN hN rfl) (Opd.int .i64 (1)))
      (OpJs.nil))) (by rfl) (by rfl) ?_
    refine seqQ_n ?_
    refine AWp.ghost (mp [] [(4, (i6 0)), (5, (i6 1))] [] hB) ?_
    refine AWp.ret ?_
    refine seqQ_r ?_
    obtain rfl := Option.some.inj h
    exact ⟨.inl rfl, _, _, (mp [] [(4, (i6 0)), (5, (i6 1))] [] hB), [(i6 0), (i6 1)], (Res.tmp (by rfl) (by rfl) (Res.tmp (by rfl) (by rfl) Res.nil)), rfl, by rfl, by rfl, by rfl⟩
  · replace h := ite_f hg2 h
    refine AWp.skip ?_
    refine seqQ_n ?_
    refine AWp.seq ?_
    obtain ⟨r3, hr3, h⟩ := bindS h
    refine AWp.region (oc (ov (.ptr 1002 2 [2]) (fp hN Try.underlying31 2 tyS28 (.box 31 (.d (e_api_Series a0))) (ot 2 (.ptr 1002 0 []))))
      (oc (lb hN 31 (.d (e_api_Series a0)) (qI_1 a0.fIn) tyS28 (ad (.list 1 (a0.fIn.map (eI .i64)))) (ot 18 (.ptr 1002 2 [2])))
      (oc (ov (.ptr 1002 1 [1]) (fp hN Try.underlying31 1 tyS3 (.box 31 (.d (e_api_Series a0))) (ot 2 (.ptr 1002 0 []))))
      (oc (lb hN 31 (.d (e_api_Series a0)) (i6 a0.fSeconds) tyS3 (ad (.int .i64 a0.fSeconds)) (ot 20 (.ptr 1002 1 [1])))
      (oc (OpJ.callFn hB fnOk54 (exchangepointref40_Rates_ac a0.fIn a0.fSeconds r3 hr3) [] (by kernel_rfl) (ltN hN rfl) (by kernel_rfl) (OpdL.cons (ot 19 (qI_1 a0.fIn)) (OpdL.cons (ot 21 (i6 a0.fSeconds)) OpdL.nil)))
      (oc (mv hN (ot 22 (.tup [(qI_1 r3.1), (i6 r3.2)])))
      (oc (OpJ.extract (v := (qI_1 r3.1)) (by rfl) rfl (ltN hN rfl) (ot 17 (.tup [(qI_1 r3.1), (i6 r3.2)])))
      (oc (OpJ.extract (v := (i6 r3.2)) (by rfl) rfl (ltN hN rfl) (ot 17 (.tup [(qI_1 r3.1), (i6 r3.2)])))
      (oc (OpJ.assign (ltN hN rfl) (ot 23 (qI_1 r3.1)))
      (oc (OpJ.assign (ltN hN rfl) (ot 24 (i6 r3.2)))
      (OpJs.nil))))))))))) (by rfl) (by rfl) ?_
    refine seqQ_n ?_
    refine AWp.ghost (mp [] [(1, (i6 a1)), (2, (.ptr 1002 0 [])), (6, (qI_1 r3.1))] [(1002, some (.box 31 (.d (e_api_Series a0))))] hB) ?_
    refine AWp.seq ?_
    obtain ⟨r4, hr4, h⟩ := bindS h
    refine AWp.region (oc (ov (.ptr 1002 3 [3]) (fp hN Try.underlying31 3 tyS28 (.box 31 (.d (e_api_Series a0))) (ot 2 (.ptr 1002 0 []))))
      (oc (lb hN 31 (.d (e_api_Series a0)) (qI_1 a0.fOut) tyS28 (ad (.list 1 (a0.fOut.map (eI .i64)))) (ot 26 (.ptr 1002 3 [3])))
      (oc (ov (.ptr 1002 1 [1]) (fp hN Try.underlying31 1 tyS3 (.box 31 (.d (e_api_Series a0))) (ot 2 (.ptr 1002 0 []))))
      (oc (lb hN 31 (.d (e_api_Series a0)) (i6 a0.fSeconds) tyS3 (ad (.int .i64 a0.fSeconds)) (ot 28 (.ptr 1002 1 [1])))
      (oc (OpJ.callFn hB fnOk54 (exchangepointref40_Rates_ac a0.fOut a0.fSeconds r4 hr4) [] (by kernel_rfl) (ltN hN rfl) (by kernel_rfl) (OpdL.cons (ot 27 (qI_1 a0.fOut)) (OpdL.cons (ot 29 (i6 a0.fSeconds)) OpdL.nil)))
      (oc (mv hN (ot 30 (.tup [(qI_1 r4.1), (i6 r4.2)])))
      (oc (OpJ.extract (v := (qI_1 r4.1)) (by rfl) rfl (ltN hN rfl) (ot 25 (.tup [(qI_1 r4.1), (i6 r4.2)])))
      (oc (OpJ.extract (v := (i6 r4.2)) (by rfl) rfl (ltN hN rfl) (ot 25 (.tup [(qI_1 r4.1), (i6 r4.2)])))
      (oc (OpJ.assign (ltN hN rfl) (ot 31 (qI_1 r4.1)))
      (oc (OpJ.assign (ltN hN rfl) (ot 32 (i6 r4.2)))
      (OpJs.nil))))))))))) (by rfl) (by rfl) ?_
    refine seqQ_n ?_
    refine AWp.ghost (mp [] [(1, (i6 a1)), (6, (qI_1 r3.1)), (8, (qI_1 r4.1))] [] hB) ?_
    refine AWp.seq ?_
    obtain ⟨r5, hr5, h⟩ := bindS h
    refine AWp.region (oc (mv hN (ot 6 (qI_1 r3.1)))
      (oc (mv hN (ot 1 (i6 a1)))
      (oc (OpJ.callFn hB fnOk55 (exchangepointref40_Percentile_ac r3.1 a1 r5 hr5) [] (by kernel_rfl) (ltN hN rfl) (by kernel_rfl) (OpdL.cons (ot 34 (qI_1 r3.1)) (OpdL.cons (ot 35 (i6 a1)) OpdL.nil)))
      (oc (mv hN (ot 36 (.tup [(i6 r5.1), (i6 r5.2)])))
      (oc (OpJ.extract (v := (i6 r5.1)) (by rfl) rfl (ltN hN rfl) (ot 33 (.tup [(i6 r5.1), (i6 r5.2)])))
      (oc (OpJ.extract (v := (i6 r5.2)) (by rfl) rfl (ltN hN rfl) (ot 33 (.tup [(i6 r5.1), (i6 r5.2)])))
      (oc (OpJ.assign (ltN hN rfl) (ot 37 (i6 r5.1)))
      (oc (OpJ.assign (ltN hN rfl) (ot 38 (i6 r5.2)))
      (OpJs.nil))))))))) (by rfl) (by rfl) ?_
    refine seqQ_n ?_
    refine AWp.ghost (mp [] [(1, (i6 a1)), (8, (qI_1 r4.1)), (10, (i6 r5.1)), (11, (i6 r5.2))] [] hB) ?_
    refine AWp.seq ?_
    refine AWp.seq ?_
    refine AWp.region (oc (mv hN (ot 11 (i6 r5.2)))
      (oc (OpJ.neqI (ltN hN rfl) (ot 39 (i6 r5.2)) (Opd.int .i64 (0)))
      (OpJs.nil))) (by rfl) (by rfl) ?_
    refine seqQ_n ?_
    refine AWp.ghost (mp [] [(1, (i6 a1)), (8, (qI_1 r4.1)), (10, (i6 r5.1)), (11, (i6 r5.2)), (40, (bo (r5.2 != (0 : Int))))] [] hB) ?_
    refine AWp.cond (b := (r5.2 != (0 : Int))) (by rfl) (fun hg6 => ?_) (fun hg6 => ?_)
    · replace h := ite_t hg6 h
      refine AWp.seq ?_
      refine AWp.region (oc (mv hN (ot 11 (i6 r5.2)))
        (oc (OpJ.assign (ltN hN rfl) (Opd.int .i64 (0)))
        (oc (OpJ.assign (ltN hN rfl) (ot 41 (i6 r5.2)))
        (OpJs.nil)))) (by rfl) (by rfl) ?_
      refine seqQ_n ?_
      refine AWp.ghost (mp [] [(4, (i6 0)), (5, (i6 r5.2))] [] hB) ?_
      refine AWp.ret ?_
      refine seqQ_r ?_
      obtain rfl := Option.some.inj h
      exact ⟨.inl rfl, _, _, (mp [] [(4, (i6 0)), (5, (i6 r5.2))] [] hB), [(i6 0), (i6 r5.2)], (Res.tmp (by rfl) (by rfl) (Res.tmp (by rfl) (by rfl) Res.nil)), rfl, by rfl, by rfl, by rfl⟩
    · replace h := ite_f hg6 h
      refine AWp.skip ?_
      refine seqQ_n ?_
      refine AWp.seq ?_
      obtain ⟨r7, hr7, h⟩ := bindS h
      refine AWp.region (oc (mv hN (ot 8 (qI_1 r4.1)))
        (oc (mv hN (ot 1 (i6 a1)))
        (oc (OpJ.callFn hB fnOk55 (exchangepointref40_Percentile_ac r4.1 a1 r7 hr7) [] (by kernel_rfl) (ltN hN rfl) (by kernel_rfl) (OpdL.cons (ot 43 (qI_1 r4.1)) (OpdL.cons (ot 44 (i6 a1)) OpdL.nil)))
        (oc (mv hN (ot 45 (.tup [(i6 r7.1), (i6 r7.2)])))
        (oc (OpJ.extract (v := (i6 r7.1)) (by rfl) rfl (ltN hN rfl) (ot 42 (.tup [(i6 r7.1), (i6 r7.2)])))
        (oc (OpJ.extract (v := (i6 r7.2)) (by rfl) rfl (ltN hN rfl) (ot 42 (.tup [(i6 r7.1), (i6 r7.2)])))
        (oc (OpJ.assign (ltN hN rfl) (ot 46 (i6 r7.1)))
        (oc (OpJ.assign (ltN hN rfl) (ot 47 (i6 r7.2)))
        (OpJs.nil))))))))) (by rfl) (by rfl) ?_
      refine seqQ_n ?_
      refine AWp.ghost (mp [] [(10, (i6 r5.1)), (12, (i6 r7.1))] [] hB) ?_
      refine AWp.seq ?_
      refine AWp.region (oc (mv hN (ot 10 (i6 r5.1)))
        (oc (mv hN (ot 12 (i6 r7.1)))
        (oc (OpJ.max (ltN hN rfl) (ot 48 (i6 r5.1)) (ot 49 (i6 r7.1)))
        (oc (OpJ.assign (ltN hN rfl) (ot 50 (i6 (maxI r5.1 r7.1))))
        (oc (OpJ.assign (ltN hN rfl) (Opd.int .i64 (0)))
        (OpJs.nil)))))) (by rfl) (by rfl) ?_
      refine seqQ_n ?_
      refine AWp.ghost (mp [] [(4, (i6 (maxI r5.1 r7.1))), (5, (i6 0))] [] hB) ?_
      refine AWp.ret ?_
      obtain rfl := Option.some.inj h
      exact ⟨.inl rfl, _, _, (mp [] [(4, (i6 (maxI r5.1 r7.1))), (5, (i6 0))] [] hB), [(i6 (maxI r5.1 r7.1)), (i6 0)], (Res.tmp (by rfl) (by rfl) (Res.tmp (by rfl) (by rfl) Res.nil)), rfl, by rfl, by rfl, by rfl⟩

noncomputable def exchangepointref41_Make_L1 (a3 : (List api_Series)) (x79 : Int) (s80 : Int) : Option (((Int)) ⊕ (Int)) :=
  jn (fun m98 : Bool =>
  (if m98 = true then
  some (.inr (w64 (s80 + (1 : Int))))
  else
  some (.inl s80))) (fun j99 =>
  (if (decide (s80 < (a3.length : Int))) = true then
  (idx a3 s80).bind fun x102 =>
  j99 (x102.fPort != x79)
  else
  j99 false))
noncomputable def exchangepointref41_Make_L0 (a2 : api_Tariff) (a3 : (List api_Series)) (r1 : (List Int) × Bool) (s5 : Int × Int × (List api_Line)) : Option (((Int) ⊕ (Int × (List api_Line))) ⊕ (Int × Int × (List api_Line))) :=
  (if (decide (s5.1 < (r1.1.length : Int))) = true then
  (idx r1.1 s5.1).bind fun x79 =>
  (loop (exchangepointref41_Make_L1 a3 x79) (0 : Int)).bind fun p95 =>
  (if (p95 == (a3.length : Int)) = true then
  some (.inl (.inl (7 : Int)))
  else
  (idx a3 p95).bind fun x106 =>
  (exchangepointref40_Used x106 (95 : Int)).bind fun r107 =>
  (if (r107.2 != (0 : Int)) = true then
  some (.inl (.inl r107.2))
  else
  (exchangepointref41_Price a2 r107.1).bind fun r109 =>
  (if (r109.2 != (0 : Int)) = true then
  some (.inl (.inl r109.2))
  else
  chk (decide ((s5.2.2 ++ ([(api_Line.mk x79 r107.1 r109.1)] : List api_Line)).length ≤ LIM)) <|
  some (.inr ((w64 (s5.1 + (1 : Int))), (w64 (s5.2.1 + r109.1)), (s5.2.2 ++ ([(api_Line.mk x79 r107.1 r109.1)] : List api_Line)))))))
  else
  some (.inl (.inr (s5.2.1, s5.2.2))))
noncomputable def exchangepointref41_Make (a0 : api_Member) (a1 : Int) (a2 : api_Tariff) (a3 : (List api_Series)) : Option (api_Invoice × Int) :=
  (exchangepointref41_ports a0).bind fun r1 =>
  (if (((((decide (a0.fASN < (1 : Int))) || (decide ((4294967295 : Int) < a0.fASN))) || (decide (a1 < (1 : Int)))) || (decide ((100000 : Int) < a1))) || (!r1.2)) = true then
  some ((api_Invoice.mk (0 : Int) (0 : Int) (0 : Int) ([] : List api_Line) (0 : Int)), (1 : Int))
  else
  (exchangepointref41_Valid a2).bind fun r3 =>
  (if (!r3) = true then
  some ((api_Invoice.mk (0 : Int) (0 : Int) (0 : Int) ([] : List api_Line) (0 : Int)), (38 : Int))
  else
  (loop (exchangepointref41_Make_L0 a2 a3 r1) ((0 : Int), (0 : Int), ([] : List api_Line))).bind fun x112 => match x112 with
  | (.inl p76) =>
    some ((api_Invoice.mk (0 : Int) (0 : Int) (0 : Int) ([] : List api_Line) (0 : Int)), p76)
  | (.inr p77) =>
    some ((api_Invoice.mk a0.fASN a1 (1 : Int) p77.2 p77.1), (0 : Int))))
set_option maxHeartbeats 4000000 in
set_option maxRecDepth 100000 in
theorem exchangepointref41_Make_ac (a0 : api_Member) (a1 : Int) (a2 : api_Tariff) (a3 : (List api_Series)) (r : api_Invoice × Int) (h : exchangepointref41_Make a0 a1 a2 a3 = some r) : AC Try.prog 14 [(.d (e_api_Member a0)), (.d (.int .i64 a1)), (.d (e_api_Tariff a2)), (.d (.list 4 (a3.map e_api_Series)))] [] (.tup [(.d (e_api_Invoice r.1)), (.d (.int .i64 r.2))]) [] := by
  refine AC.of_code2 Try.func14 rfl rfl (Nat.le_of_ble_eq_true (by rfl)) fun B hB hN => ?_
  delta exchangepointref41_Make at h
  refine AWp.seq ?_
  refine AWp.region (oc (OpJ.box hB (nm := 1004) (by decide) (by simp) rfl (ltN hN rfl) (ot 0 (.d (e_api_Member a0))))
  (oc (OpJ.box hB (nm := 1006) (by decide) (by simp) rfl (ltN hN rfl) (ot 2 (.d (e_api_Tariff a2))))
  (oc (OpJ.alloc hB tyZ45 (nm := 1008) (by decide) (ltN hN rfl))
  (oc (OpJ.assign (ltN hN rfl) (Opd.int .i64 (0)))
  (OpJs.nil))))) (by rfl) (by rfl) ?_
  refine seqQ_n ?_
  refine AWp.ghost (mp [] [(1, (i6 a1)), (3, (qe_api_Series_4 a3)), (4, (.ptr 1004 0 [])), (6, (.ptr 1006 0 [])), (8, (.ptr 1008 0 []))] [(1004, some (.box 24 (.d (e_api_Member a0)))), (1006, some (.box 27 (.d (e_api_Tariff a2)))), (1008, some (.box 45 (.st [(i6 0), (i6 0), (i6 0), .nils, (i6 0)])))] hB) ?_
  refine AWp.seq ?_
  obtain ⟨r1, hr1, h⟩ := bindS h
  refine AWp.region (oc (lb hN 24 (.d (e_api_Member a0)) (.d (e_api_Member a0)) tyS24 (At.here _) (ot 4 (.ptr 1004 0 [])))
  (oc (OpJ.callFn hB fnOk36 (exchangepointref41_ports_ac a0 r1 hr1) [] (by kernel_rfl) (ltN hN rfl) (by kernel_rfl) (OpdL.cons (ot 20 (.d (e_api_Member a0))) OpdL.nil))
  (oc (mv hN (ot 21 (.tup [(qI_1 r1.1), (bo r1.2)])))
  (oc (OpJ.extract (v := (qI_1 r1.1)) (by rfl) rfl (ltN hN rfl) (ot 19 (.tup [(qI_1 r1.1), (bo r1.2)])))
  (oc (OpJ.extract (v := (bo r1.2)) (by rfl) rfl (ltN hN rfl) (ot 19 (.tup [(qI_1 r1.1), (bo r1.2)])))
  (oc (OpJ.assign (ltN hN rfl) (ot 22 (qI_1 r1.1)))
  (oc (OpJ.assign (ltN hN rfl) (ot 23 (bo r1.2)))
  (OpJs.nil)))))))) (by rfl) (by rfl) ?_
  refine seqQ_n ?_
  refine AWp.ghost (mp [] [(1, (i6 a1)), (3, (qe_api_Series_4 a3)), (4, (.ptr 1004 0 [])), (6, (.ptr 1006 0 [])), (8, (.ptr 1008 0 [])), (10, (qI_1 r1.1)), (11, (bo r1.2))] [(1004, some (.box 24 (.d (e_api_Member a0)))), (1006, some (.box 27 (.d (e_api_Tariff a2)))), (1008, some (.box 45 (.st [(i6 0), (i6 0), (i6 0), .nils, (i6 0)])))] hB) ?_
  refine AWp.seq ?_
  refine AWp.seq ?_
  refine AWp.region (oc (ov (.ptr 1004 0 [0]) (fp hN Try.underlying24 0 tyS3 (.box 24 (.d (e_api_Member a0))) (ot 4 (.ptr 1004 0 []))))
  (oc (lb hN 24 (.d (e_api_Member a0)) (i6 a0.fASN) tyS3 (ad (.int .i64 a0.fASN)) (ot 24 (.ptr 1004 0 [0])))
  (oc (OpJ.lss (ltN hN rfl) (ot 25 (i6 a0.fASN)) (Opd.int .i64 (1)))
  (oc (mv hN (ot 26 (bo (decide (a0.fASN < (1 : Int))))))
  (oc (op hN (.ptr 1004 0 [0]) (ov (.ptr 1004 0 [0]) (fp hN Try.underlying24 0 tyS3 (.box 24 (.d (e_api_Member a0))) (ot 4 (.ptr 1004 0 [])))) (OptL.keep rfl OptL.nil) (GuardV.plain _))
  (oc (op hN (i6 a0.fASN) (lb hN 24 (.d (e_api_Member a0)) (i6 a0.fASN) tyS3 (ad (.int .i64 a0.fASN)) (ot 28 (.ptr 1004 0 [0]))) (OptL.opt OptL.nil) (GuardV.plain _))
  (oc (op hN (bo (decide ((4294967295 : Int) < a0.fASN))) (OpJ.gtr (ltN hN rfl) (ot 29 (i6 a0.fASN)) (Opd.int .i64 (4294967295))) (OptL.opt OptL.nil) (GuardV.plain _))
  (oc (OpJ.pickOr rfl (ltN hN rfl) (ot 27 (bo (decide (a0.fASN < (1 : Int))))) (ot 30 (.opt ((decide (a0.fASN < (1 : Int))) == false) (bo (decide ((4294967295 : Int) < a0.fASN))))))
  (oc (mv hN (ot 31 (bo ((decide (a0.fASN < (1 : Int))) || (decide ((4294967295 : Int) < a0.fASN))))))
  (oc (op hN (i6 a1) (mv hN (ot 1 (i6 a1))) (OptL.keep rfl OptL.nil) (GuardV.plain _))
  (oc (op hN (bo (decide (a1 < (1 : Int)))) (OpJ.lss (ltN hN rfl) (ot 33 (i6 a1)) (Opd.int .i64 (1))) (OptL.opt OptL.nil) (GuardV.plain _))
  (oc (OpJ.pickOr rfl (ltN hN rfl) (ot 32 (bo ((decide (a0.fASN < (1 : Int))) || (decide ((4294967295 : Int) < a0.fASN))))) (ot 34 (.opt (((decide (a0.fASN < (1 : Int))) || (decide ((4294967295 : Int) < a0.fASN))) == false) (bo (decide (a1 < (1 : Int)))))))
  (oc (mv hN (ot 35 (bo (((decide (a0.fASN < (1 : Int))) || (decide ((4294967295 : Int) < a0.fASN))) || (decide (a1 < (1 : Int)))))))
  (oc (op hN (i6 a1) (mv hN (ot 1 (i6 a1))) (OptL.keep rfl OptL.nil) (GuardV.plain _))
  (oc (op hN (bo (decide ((100000 : Int) < a1))) (OpJ.gtr (ltN hN rfl) (ot 37 (i6 a1)) (Opd.int .i64 (100000))) (OptL.opt OptL.nil) (GuardV.plain _))
  (oc (OpJ.pickOr rfl (ltN hN rfl) (ot 36 (bo (((decide (a0.fASN < (1 : Int))) || (decide ((4294967295 : Int) < a0.fASN))) || (decide (a1 < (1 : Int)))))) (ot 38 (.opt ((((decide (a0.fASN < (1 : Int))) || (decide ((4294967295 : Int) < a0.fASN))) || (decide (a1 < (1 : Int)))) == false) (bo (decide ((100000 : Int) < a1))))))
  (oc (mv hN (ot 39 (bo ((((decide (a0.fASN < (1 : Int))) || (decide ((4294967295 : Int) < a0.fASN))) || (decide (a1 < (1 : Int)))) || (decide ((100000 : Int) < a1))))))
  (oc (op hN (bo r1.2) (mv hN (ot 11 (bo r1.2))) (OptL.keep rfl OptL.nil) (GuardV.plain _))
  (oc (op hN (bo (!r1.2)) (OpJ.not (ltN hN rfl) (ot 41 (bo r1.2))) (OptL.opt OptL.nil) (GuardV.plain _))
  (oc (OpJ.pickOr rfl (ltN hN rfl) (ot 40 (bo ((((decide (a0.fASN < (1 : Int))) || (decide ((4294967295 : Int) < a0.fASN))) || (decide (a1 < (1 : Int)))) || (decide ((100000 : Int) < a1))))) (ot 42 (.opt (((((decide (a0.fASN < (1 : Int))) || (decide ((4294967295 : Int) < a0.fASN))) || (decide (a1 < (1 : Int)))) || (decide ((100000 : Int) < a1))) == false) (bo (!r1.2)))))
  (OpJs.nil))))))))))))))))))))) (by rfl) (by rfl) ?_
  refine seqQ_n ?_
  refine AWp.ghost (mp [] [(1, (i6 a1)), (3, (qe_api_Series_4 a3)), (4, (.ptr 1004 0 [])), (6, (.ptr 1006 0 [])), (8, (.ptr 1008 0 [])), (10, (qI_1 r1.1)), (43, (bo (((((decide (a0.fASN < (1 : Int))) || (decide ((4294967295 : Int) < a0.fASN))) || (decide (a1 < (1 : Int)))) || (decide ((100000 : Int) < a1))) || (!r1.2))))] [(1004, some (.box 24 (.d (e_api_Member a0)))), (1006, some (.box 27 (.d (e_api_Tariff a2)))), (1008, some (.box 45 (.st [(i6 0), (i6 0), (i6 0), .nils, (i6 0)])))] hB) ?_
  refine AWp.cond (b := (((((decide (a0.fASN < (1 : Int))) || (decide ((4294967295 : Int) < a0.fASN))) || (decide (a1 < (1 : Int)))) || (decide ((100000 : Int) < a1))) || (!r1.2))) (by rfl) (fun hg2 => ?_) (fun hg2 => ?_)
  · replace h := ite_t hg2 h
    refine AWp.seq ?_
    refine AWp.region (oc (OpJ.build (places := [(0, 1), (1, 1), (2, 1), (3, 1), (4, 1)]) ⟨Try.underlying45, fun w => by kernel_rfl⟩ tyZS45 Opds.nil (by kernel_rfl) (r := (.st [(i6 0), (i6 0), (i6 0), .nils, (i6 0)])) (by rfl) (ltN hN rfl))
      (oc (OpJ.storeB (bt := 45) (c := (.st [(i6 0), (i6 0), (i6 0), .nils, (i6 0)])) (v := (.st [(i6 0), (i6 0), (i6 0), .nils, (i6 0)])) (c' := (.st [(i6 0), (i6 0), (i6 0), .nils, (i6 0)])) tyS45 (SetAt.here _ _) (by rfl) (by rfl) (by simp) rfl (ot 8 (.ptr 1008 0 [])) (ot 44 (.st [(i6 0), (i6 0), (i6 0), .nils, (i6 0)])))
      (oc (OpJ.assign (ltN hN rfl) (Opd.int .i64 (1)))
      (OpJs.nil)))) (by rfl) (by rfl) ?_
    refine seqQ_n ?_
    refine AWp.ghost (mp [] [(8, (.ptr 1008 0 [])), (9, (i6 1))] [(1008, some (.box 45 (.st [(i6 0), (i6 0), (i6 0), .nils, (i6 0)])))] hB) ?_
    refine AWp.ret ?_
    refine seqQ_r ?_
    obtain rfl := Option.some.inj h
    exact ⟨.inl rfl, _, _, (Mat.trans (Mat.coeP (Ts := []) (Bs := [(1008, some (.box 45 (.d (.st [(.int .i64 0), (.int .i64 0), (.int .i64 0), (.list 3 (([] : List api_Line).map e_api_Line)), (.int .i64 0)]))))]) TwT.nil (TwB.cons (x := (.st [(i6 0), (i6 0), (i6 0), .nils, (i6 0)])) (by rfl) (Tw.leaf ⟨_, (Co.st (CoL.cons (Co.d _) (CoL.cons (Co.d _) (CoL.cons (Co.d _) (CoL.cons (Co.nils 3) (CoL.cons (Co.d _) CoL.nil)))))), rfl⟩) TwB.nil)) (mp [] [(8, (.ptr 1008 0 [])), (9, (i6 1))] [(1008, some (.box 45 (.d (.st [(.int .i64 0), (.int .i64 0), (.int .i64 0), (.list 3 (([] : List api_Line).map e_api_Line)), (.int .i64 0)]))))] hB)), [(.d (.st [(.int .i64 0), (.int .i64 0), (.int .i64 0), (.list 3 (([] : List api_Line).map e_api_Line)), (.int .i64 0)])), (i6 1)], (Res.cell (c := (.d (.st [(.int .i64 0), (.int .i64 0), (.int .i64 0), (.list 3 (([] : List api_Line).map e_api_Line)), (.int .i64 0)]))) (by rfl) (by rfl) tyS45 (by rfl) (by rfl) (by rfl) (Res.tmp (by rfl) (by rfl) Res.nil)), rfl, by rfl, by rfl, by rfl⟩
  · replace h := ite_f hg2 h
    refine AWp.skip ?_
    refine seqQ_n ?_
    refine AWp.seq ?_
    refine AWp.seq ?_
    obtain ⟨r3, hr3, h⟩ := bindS h
    refine AWp.region (oc (lb hN 27 (.d (e_api_Tariff a2)) (.d (e_api_Tariff a2)) tyS27 (At.here _) (ot 6 (.ptr 1006 0 [])))
      (oc (OpJ.callFn hB fnOk27 (exchangepointref41_Valid_ac a2 r3 hr3) [] (by kernel_rfl) (ltN hN rfl) (by kernel_rfl) (OpdL.cons (ot 45 (.d (e_api_Tariff a2))) OpdL.nil))
      (oc (OpJ.not (ltN hN rfl) (ot 46 (bo r3)))
      (OpJs.nil)))) (by rfl) (by rfl) ?_
    refine seqQ_n ?_
    refine AWp.ghost (mp [] [(1, (i6 a1)), (3, (qe_api_Series_4 a3)), (4, (.ptr 1004 0 [])), (6, (.ptr 1006 0 [])), (8, (.ptr 1008 0 [])), (10, (qI_1 r1.1)), (47, (bo (!r3)))] [(1004, some (.box 24 (.d (e_api_Member a0)))), (1006, some (.box 27 (.d (e_api_Tariff a2)))), (1008, some (.box 45 (.st [(i6 0), (i6 0), (i6 0), .nils, (i6 0)])))] hB) ?_
    refine AWp.cond (b := (!r3)) (by rfl) (fun hg4 => ?_) (fun hg4 => ?_)
    · replace h := ite_t hg4 h
      refine AWp.seq ?_
      refine AWp.region (oc (OpJ.build (places := [(0, 1), (1, 1), (2, 1), (3, 1), (4, 1)]) ⟨Try.underlying45, fun w => by kernel_rfl⟩ tyZS45 Opds.nil (by kernel_rfl) (r := (.st [(i6 0), (i6 0), (i6 0), .nils, (i6 0)])) (by rfl) (ltN hN rfl))
        (oc (OpJ.storeB (bt := 45) (c := (.st [(i6 0), (i6 0), (i6 0), .nils, (i6 0)])) (v := (.st [(i6 0), (i6 0), (i6 0), .nils, (i6 0)])) (c' := (.st [(i6 0), (i6 0), (i6 0), .nils, (i6 0)])) tyS45 (SetAt.here _ _) (by rfl) (by rfl) (by simp) rfl (ot 8 (.ptr 1008 0 [])) (ot 48 (.st [(i6 0), (i6 0), (i6 0), .nils, (i6 0)])))
        (oc (OpJ.assign (ltN hN rfl) (Opd.int .i64 (38)))
        (OpJs.nil)))) (by rfl) (by rfl) ?_
      refine seqQ_n ?_
      refine AWp.ghost (mp [] [(8, (.ptr 1008 0 [])), (9, (i6 (38 : Int)))] [(1008, some (.box 45 (.st [(i6 0), (i6 0), (i6 0), .nils, (i6 0)])))] hB) ?_
      refine AWp.ret ?_
      refine seqQ_r ?_
      obtain rfl := Option.some.inj h
      exact ⟨.inl rfl, _, _, (Mat.trans (Mat.coeP (Ts := []) (Bs := [(1008, some (.box 45 (.d (.st [(.int .i64 0), (.int .i64 0), (.int .i64 0), (.list 3 (([] : List api_Line).map e_api_Line)), (.int .i64 0)]))))]) TwT.nil (TwB.cons (x := (.st [(i6 0), (i6 0), (i6 0), .nils, (i6 0)])) (by rfl) (Tw.leaf ⟨_, (Co.st (CoL.cons (Co.d _) (CoL.cons (Co.d _) (CoL.cons (Co.d _) (CoL.cons (Co.nils 3) (CoL.cons (Co.d _) CoL.nil)))))), rfl⟩) TwB.nil)) (mp [] [(8, (.ptr 1008 0 [])), (9, (i6 (38 : Int)))] [(1008, some (.box 45 (.d (.st [(.int .i64 0), (.int .i64 0), (.int .i64 0), (.list 3 (([] : List api_Line).map e_api_Line)), (.int .i64 0)]))))] hB)), [(.d (.st [(.int .i64 0), (.int .i64 0), (.int .i64 0), (.list 3 (([] : List api_Line).map e_api_Line)), (.int .i64 0)])), (i6 (38 : Int))], (Res.cell (c := (.d (.st [(.int .i64 0), (.int .i64 0), (.int .i64 0), (.list 3 (([] : List api_Line).map e_api_Line)), (.int .i64 0)]))) (by rfl) (by rfl) tyS45 (by rfl) (by rfl) (by rfl) (Res.tmp (by rfl) (by rfl) Res.nil)), rfl, by rfl, by rfl, by rfl⟩
    · replace h := ite_f hg4 h
      refine AWp.skip ?_
      refine seqQ_n ?_
      refine AWp.seq ?_
      refine AWp.region (oc (ov (.ptr 1004 0 [0]) (fp hN Try.underlying24 0 tyS3 (.box 24 (.d (e_api_Member a0))) (ot 4 (.ptr 1004 0 []))))
        (oc (lb hN 24 (.d (e_api_Member a0)) (i6 a0.fASN) tyS3 (ad (.int .i64 a0.fASN)) (ot 49 (.ptr 1004 0 [0])))
        (oc (mv hN (ot 1 (i6 a1)))
        (oc (OpJ.build (places := [(0, 1), (1, 1), (2, 1), (3, 1), (4, 1)]) ⟨Try.underlying45, fun w => by kernel_rfl⟩ tyZS45 (Opds.cons (ot 50 (i6 a0.fASN)) (Opds.cons (ot 51 (i6 a1)) (Opds.cons (Opd.int .i64 (1)) Opds.nil))) (by kernel_rfl) (r := (.st [(i6 a0.fASN), (i6 a1), (i6 1), .nils, (i6 0)])) (by rfl) (ltN hN rfl))
        (oc (OpJ.alloc hB tyZ45 (nm := 1012) (by decide) (ltN hN rfl))
        (oc (OpJ.storeB (bt := 45) (c := (.st [(i6 0), (i6 0), (i6 0), .nils, (i6 0)])) (v := (.st [(i6 a0.fASN), (i6 a1), (i6 1), .nils, (i6 0)])) (c' := (.st [(i6 a0.fASN), (i6 a1), (i6 1), .nils, (i6 0)])) tyS45 (SetAt.here _ _) (by rfl) (by rfl) (by simp) rfl (ot 12 (.ptr 1012 0 [])) (ot 52 (.st [(i6 a0.fASN), (i6 a1), (i6 1), .nils, (i6 0)])))
        (OpJs.nil))))))) (by rfl) (by rfl) ?_
      refine seqQ_n ?_
      refine AWp.ghost (mp [] [(3, (qe_api_Series_4 a3)), (6, (.ptr 1006 0 [])), (8, (.ptr 1008 0 [])), (10, (qI_1 r1.1)), (12, (.ptr 1012 0 []))] [(1006, some (.box 27 (.d (e_api_Tariff a2)))), (1008, some (.box 45 (.st [(i6 0), (i6 0), (i6 0), .nils, (i6 0)]))), (1012, some (.box 45 (.st [(i6 a0.fASN), (i6 a1), (i6 1), .nils, (i6 0)])))] hB) ?_
      refine AWp.seq ?_
      refine AWp.seq ?_
      refine AWp.region (oc (mv hN (ot 10 (qI_1 r1.1)))
        (oc (OpJ.val (v' := (i6 (r1.1.length : Int))) (by simp) (OpJ.lenD Try.underlying28 (ltN hN rfl) (ot 53 (qI_1 r1.1))))
        (oc (mv hN (Opd.int .i64 (0)))
        (OpJs.nil)))) (by rfl) (by rfl) ?_
      refine seqQ_n ?_
      refine AWp.ghost (mp [] [(3, (qe_api_Series_4 a3)), (6, (.ptr 1006 0 [])), (8, (.ptr 1008 0 [])), (12, (.ptr 1012 0 [])), (53, (qI_1 r1.1)), (54, (i6 (r1.1.length : Int))), (55, (i6 0))] [(1006, some (.box 27 (.d (e_api_Tariff a2)))), (1008, some (.box 45 (.st [(i6 0), (i6 0), (i6 0), .nils, (i6 0)]))), (1012, some (.box 45 (.st [(i6 a0.fASN), (i6 a1), (i6 1), .nils, (i6 0)])))] hB) ?_
      refine AWp.block ?_
      obtain ⟨x112, hx113, h⟩ := bindS h
      refine AWp.ghost (Mat.trans (Mat.beginP (n := 13123) (e := 51) (sz := 3) (Ts := []) (Bs := [(1012, some (.box 45 (.st [(i6 a0.fASN), (i6 a1), (i6 1), (.sref 13123 3 0 0), (i6 0)])))]) hB (by decide) (by rfl) (by decide) TwT.nil (TwB.cons (x := (.st [(i6 a0.fASN), (i6 a1), (i6 1), .nils, (i6 0)])) (by rfl) (Tw.st (TwL.cons (Tw.same _) (TwL.cons (Tw.same _) (TwL.cons (Tw.same _) (TwL.cons (Tw.leaf ⟨rfl, rfl⟩) (TwL.cons (Tw.same _) TwL.nil)))))) TwB.nil)) (mp [] ((fun s5 : Int × Int × (List api_Line) => ([(3, (qe_api_Series_4 a3)), (6, (.ptr 1006 0 [])), (8, (.ptr 1008 0 [])), (12, (.ptr 1012 0 [])), (53, (qI_1 r1.1)), (54, (i6 (r1.1.length : Int))), (55, (i6 s5.1))] : EL)) ((0 : Int), (0 : Int), ([] : List api_Line))) ((fun s5 : Int × Int × (List api_Line) => ([(1006, some (.box 27 (.d (e_api_Tariff a2)))), (1008, some (.box 45 (.st [(i6 0), (i6 0), (i6 0), .nils, (i6 0)]))), (1012, some (.box 45 (.st [(i6 a0.fASN), (i6 a1), (i6 1), (.sref 13123 3 0 s5.2.2.length), (i6 s5.2.1)]))), (13123, some (we_api_Line_51_3 s5.2.2))] : OL)) ((0 : Int), (0 : Int), ([] : List api_Line))) hB)) ?_
      refine AWp.loopS (exchangepointref41_Make_L0 a2 a3 r1) (fun s5 : Int × Int × (List api_Line) => ([(3, (qe_api_Series_4 a3)), (6, (.ptr 1006 0 [])), (8, (.ptr 1008 0 [])), (12, (.ptr 1012 0 [])), (53, (qI_1 r1.1)), (54, (i6 (r1.1.length : Int))), (55, (i6 s5.1))] : EL)) (fun s5 : Int × Int × (List api_Line) => ([(1006, some (.box 27 (.d (e_api_Tariff a2)))), (1008, some (.box 45 (.st [(i6 0), (i6 0), (i6 0), .nils, (i6 0)]))), (1012, some (.box 45 (.st [(i6 a0.fASN), (i6 a1), (i6 1), (.sref 13123 3 0 s5.2.2.length), (i6 s5.2.1)]))), (13123, some (we_api_Line_51_3 s5.2.2))] : OL)) (fun (x : (Int) ⊕ (Int × (List api_Line))) e E' O' => match x with | (.inl p76) => e = .ret ∧ Mat B E' O' ([(8, (.ptr 1008 0 [])), (9, (i6 p76))] : EL) ([(1008, some (.box 45 (.st [(i6 0), (i6 0), (i6 0), .nils, (i6 0)])))] : OL) | (.inr p77) => e = .exit 0 ∧ Mat B E' O' ([(8, (.ptr 1008 0 [])), (12, (.ptr 1012 0 []))] : EL) ([(1008, some (.box 45 (.st [(i6 0), (i6 0), (i6 0), .nils, (i6 0)]))), (1012, some (.box 45 (.st [(i6 a0.fASN), (i6 a1), (i6 1), (.sref 13123 3 0 p77.2.length), (i6 p77.1)]))), (13123, some (we_api_Line_51_3 p77.2))] : OL)) hx113 (fun s5 y h => ?_) (fun e E' O' hR => ?_)
      · unfold exchangepointref41_Make_L0 at h
        show AWp _ _ _ _ ([(3, (qe_api_Series_4 a3)), (6, (.ptr 1006 0 [])), (8, (.ptr 1008 0 [])), (12, (.ptr 1012 0 [])), (53, (qI_1 r1.1)), (54, (i6 (r1.1.length : Int))), (55, (i6 s5.1))] : EL) ([(1006, some (.box 27 (.d (e_api_Tariff a2)))), (1008, some (.box 45 (.st [(i6 0), (i6 0), (i6 0), .nils, (i6 0)]))), (1012, some (.box 45 (.st [(i6 a0.fASN), (i6 a1), (i6 1), (.sref 13123 3 0 s5.2.2.length), (i6 s5.2.1)]))), (13123, some (we_api_Line_51_3 s5.2.2))] : OL)
        refine AWp.seq ?_
        refine AWp.region (oc (OpJ.lss (ltN hN rfl) (ot 55 (i6 s5.1)) (ot 54 (i6 (r1.1.length : Int))))
          (OpJs.nil)) (by rfl) (by rfl) ?_
        refine seqQ_n ?_
        refine AWp.ghost (mp [] [(3, (qe_api_Series_4 a3)), (6, (.ptr 1006 0 [])), (8, (.ptr 1008 0 [])), (12, (.ptr 1012 0 [])), (53, (qI_1 r1.1)), (54, (i6 (r1.1.length : Int))), (55, (i6 s5.1)), (56, (bo (decide (s5.1 < (r1.1.length : Int)))))] [(1006, some (.box 27 (.d (e_api_Tariff a2)))), (1008, some (.box 45 (.st [(i6 0), (i6 0), (i6 0), .nils, (i6 0)]))), (1012, some (.box 45 (.st [(i6 a0.fASN), (i6 a1), (i6 1), (.sref 13123 3 0 s5.2.2.length), (i6 s5.2.1)]))), (13123, some (we_api_Line_51_3 s5.2.2))] hB) ?_
        refine AWp.seq ?_
        refine AWp.cond (b := (decide (s5.1 < (r1.1.length : Int)))) (by rfl) (fun hg78 => ?_) (fun hg78 => ?_)
        · replace h := ite_t hg78 h
          refine AWp.skip ?_
          refine seqQ_n ?_
          refine AWp.seq ?_
          refine AWp.block ?_
          refine AWp.seq ?_
          obtain ⟨x79, hx79, h⟩ := bindS h
          refine AWp.region (oc (OpJ.indexD (el := (.int .i64 x79)) Try.underlying28 tyS3 (idx_some hx79).1 (get_map (eI .i64) (idx_some hx79).2) (ltN hN rfl) (ot 53 (qI_1 r1.1)) (ot 55 (i6 s5.1)))
            (oc (OpJ.loadD tyS3 (by rfl) (by rfl) (ltN hN rfl) (ot 57 (.dptr (.int .i64 x79))))
            (oc (OpJ.assign (ltN hN rfl) (ot 58 (i6 x79)))
            (OpJs.nil)))) (by rfl) (by rfl) ?_
          refine seqQ_n ?_
          refine AWp.ghost (mp [] [(3, (qe_api_Series_4 a3)), (6, (.ptr 1006 0 [])), (8, (.ptr 1008 0 [])), (12, (.ptr 1012 0 [])), (14, (i6 x79)), (53, (qI_1 r1.1)), (54, (i6 (r1.1.length : Int))), (55, (i6 s5.1))] [(1006, some (.box 27 (.d (e_api_Tariff a2)))), (1008, some (.box 45 (.st [(i6 0), (i6 0), (i6 0), .nils, (i6 0)]))), (1012, some (.box 45 (.st [(i6 a0.fASN), (i6 a1), (i6 1), (.sref 13123 3 0 s5.2.2.length), (i6 s5.2.1)]))), (13123, some (we_api_Line_51_3 s5.2.2))] hB) ?_
          refine AWp.seq ?_
          refine AWp.region (oc (OpJ.assign (ltN hN rfl) (Opd.int .i64 (0)))
            (OpJs.nil)) (by rfl) (by rfl) ?_
          refine seqQ_n ?_
          refine AWp.ghost (mp [] [(3, (qe_api_Series_4 a3)), (6, (.ptr 1006 0 [])), (8, (.ptr 1008 0 [])), (12, (.ptr 1012 0 [])), (14, (i6 x79)), (15, (i6 0)), (53, (qI_1 r1.1)), (54, (i6 (r1.1.length : Int))), (55, (i6 s5.1))] [(1006, some (.box 27 (.d (e_api_Tariff a2)))), (1008, some (.box 45 (.st [(i6 0), (i6 0), (i6 0), .nils, (i6 0)]))), (1012, some (.box 45 (.st [(i6 a0.fASN), (i6 a1), (i6 1), (.sref 13123 3 0 s5.2.2.length), (i6 s5.2.1)]))), (13123, some (we_api_Line_51_3 s5.2.2))] hB) ?_
          refine AWp.seq ?_
          refine AWp.block ?_
          obtain ⟨p95, hx104, h⟩ := bindS h
          refine AWp.ghost (mp [] ((fun s80 : Int => ([(3, (qe_api_Series_4 a3)), (6, (.ptr 1006 0 [])), (8, (.ptr 1008 0 [])), (12, (.ptr 1012 0 [])), (14, (i6 x79)), (15, (i6 s80)), (53, (qI_1 r1.1)), (54, (i6 (r1.1.length : Int))), (55, (i6 s5.1))] : EL)) (0 : Int)) ((fun s80 : Int => ([(1006, some (.box 27 (.d (e_api_Tariff a2)))), (1008, some (.box 45 (.st [(i6 0), (i6 0), (i6 0), .nils, (i6 0)]))), (1012, some (.box 45 (.st [(i6 a0.fASN), (i6 a1), (i6 1), (.sref 13123 3 0 s5.2.2.length), (i6 s5.2.1)]))), (13123, some (we_api_Line_51_3 s5.2.2))] : OL)) (0 : Int)) hB) ?_
          refine AWp.loopS (exchangepointref41_Make_L1 a3 x79) (fun s80 : Int => ([(3, (qe_api_Series_4 a3)), (6, (.ptr 1006 0 [])), (8, (.ptr 1008 0 [])), (12, (.ptr 1012 0 [])), (14, (i6 x79)), (15, (i6 s80)), (53, (qI_1 r1.1)), (54, (i6 (r1.1.length : Int))), (55, (i6 s5.1))] : EL)) (fun s80 : Int => ([(1006, some (.box 27 (.d (e_api_Tariff a2)))), (1008, some (.box 45 (.st [(i6 0), (i6 0), (i6 0), .nils, (i6 0)]))), (1012, some (.box 45 (.st [(i6 a0.fASN), (i6 a1), (i6 1), (.sref 13123 3 0 s5.2.2.length), (i6 s5.2.1)]))), (13123, some (we_api_Line_51_3 s5.2.2))] : OL)) (fun (p95 : (Int)) e E' O' => e = .exit 2 ∧ Mat B E' O' ([(3, (qe_api_Series_4 a3)), (6, (.ptr 1006 0 [])), (8, (.ptr 1008 0 [])), (12, (.ptr 1012 0 [])), (14, (i6 x79)), (15, (i6 p95)), (53, (qI_1 r1.1)), (54, (i6 (r1.1.length : Int))), (55, (i6 s5.1))] : EL) ([(1006, some (.box 27 (.d (e_api_Tariff a2)))), (1008, some (.box 45 (.st [(i6 0), (i6 0), (i6 0), .nils, (i6 0)]))), (1012, some (.box 45 (.st [(i6 a0.fASN), (i6 a1), (i6 1), (.sref 13123 3 0 s5.2.2.length), (i6 s5.2.1)]))), (13123, some (we_api_Line_51_3 s5.2.2))] : OL)) hx104 (fun s80 y h => ?_) (fun e E' O' hR => ?_)
          · unfold exchangepointref41_Make_L1 at h
            show AWp _ _ _ _ ([(3, (qe_api_Series_4 a3)), (6, (.ptr 1006 0 [])), (8, (.ptr 1008 0 [])), (12, (.ptr 1012 0 [])), (14, (i6 x79)), (15, (i6 s80)), (53, (qI_1 r1.1)), (54, (i6 (r1.1.length : Int))), (55, (i6 s5.1))] : EL) ([(1006, some (.box 27 (.d (e_api_Tariff a2)))), (1008, some (.box 45 (.st [(i6 0), (i6 0), (i6 0), .nils, (i6 0)]))), (1012, some (.box 45 (.st [(i6 a0.fASN), (i6 a1), (i6 1), (.sref 13123 3 0 s5.2.2.length), (i6 s5.2.1)]))), (13123, some (we_api_Line_51_3 s5.2.2))] : OL)
            refine AWp.seq ?_
            refine AWp.seq ?_
            refine AWp.cut h (fun m98 : Bool => ([(3, (qe_api_Series_4 a3)), (6, (.ptr 1006 0 [])), (8, (.ptr 1008 0 [])), (12, (.ptr 1012 0 [])), (14, (i6 x79)), (15, (i6 s80)), (53, (qI_1 r1.1)), (54, (i6 (r1.1.length : Int))), (55, (i6 s5.1)), (71, (bo m98))] : EL)) (fun m98 : Bool => ([(1006, some (.box 27 (.d (e_api_Tariff a2)))), (1008, some (.box 45 (.st [(i6 0), (i6 0), (i6 0), .nils, (i6 0)]))), (1012, some (.box 45 (.st [(i6 a0.fASN), (i6 a1), (i6 1), (.sref 13123 3 0 s5.2.2.length), (i6 s5.2.1)]))), (13123, some (we_api_Line_51_3 s5.2.2))] : OL)) (fun m98 h E' O' hmat => ?_) (fun j99 hjj99 h => ?_)
            · refine seqQ_n ?_
              refine AWp.ghost hmat ?_
              refine AWp.cond (b := m98) (by rfl) (fun hg100 => ?_) (fun hg100 => ?_)
              · replace h := ite_t hg100 h
                refine AWp.skip ?_
                refine seqQ_n ?_
                refine AWp.block ?_
                refine AWp.region (oc (mv hN (ot 15 (i6 s80)))
                  (oc (OpJ.add (ltN hN rfl) (ot 72 (i6 s80)) (Opd.int .i64 (1)))
                  (oc (OpJ.assign (ltN hN rfl) (ot 73 (i6 (w64 (s80 + (1 : Int))))))
                  (OpJs.nil)))) (by rfl) (by rfl) ?_
                refine blkQ_n ?_
                obtain rfl := Option.some.inj h
                exact ⟨rfl, (Mat.trans (mp [] [(3, (qe_api_Series_4 a3)), (6, (.ptr 1006 0 [])), (8, (.ptr 1008 0 [])), (12, (.ptr 1012 0 [])), (14, (i6 x79)), (15, (i6 (w64 (s80 + (1 : Int))))), (53, (qI_1 r1.1)), (54, (i6 (r1.1.length : Int))), (55, (i6 s5.1))] [(1006, some (.box 27 (.d (e_api_Tariff a2)))), (1008, some (.box 45 (.st [(i6 0), (i6 0), (i6 0), .nils, (i6 0)]))), (1012, some (.box 45 (.st [(i6 a0.fASN), (i6 a1), (i6 1), (.sref 13123 3 0 s5.2.2.length), (i6 s5.2.1)]))), (13123, some (we_api_Line_51_3 s5.2.2))] hB) (mp [] ((fun s80 : Int => ([(3, (qe_api_Series_4 a3)), (6, (.ptr 1006 0 [])), (8, (.ptr 1008 0 [])), (12, (.ptr 1012 0 [])), (14, (i6 x79)), (15, (i6 s80)), (53, (qI_1 r1.1)), (54, (i6 (r1.1.length : Int))), (55, (i6 s5.1))] : EL)) (w64 (s80 + (1 : Int)))) ((fun s80 : Int => ([(1006, some (.box 27 (.d (e_api_Tariff a2)))), (1008, some (.box 45 (.st [(i6 0), (i6 0), (i6 0), .nils, (i6 0)]))), (1012, some (.box 45 (.st [(i6 a0.fASN), (i6 a1), (i6 1), (.sref 13123 3 0 s5.2.2.length), (i6 s5.2.1)]))), (13123, some (we_api_Line_51_3 s5.2.2))] : OL)) (w64 (s80 + (1 : Int)))) hB))⟩
              · replace h := ite_f hg100 h
                refine AWp.exit ?_
                refine seqQ_e ?_
                obtain rfl := Option.some.inj h
                exact ⟨(fun hc => by cases hc), rfl, (mp [] ((fun p95 : Int => ([(3, (qe_api_Series_4 a3)), (6, (.ptr 1006 0 [])), (8, (.ptr 1008 0 [])), (12, (.ptr 1012 0 [])), (14, (i6 x79)), (15, (i6 p95)), (53, (qI_1 r1.1)), (54, (i6 (r1.1.length : Int))), (55, (i6 s5.1))] : EL)) s80) ((fun p95 : Int => ([(1006, some (.box 27 (.d (e_api_Tariff a2)))), (1008, some (.box 45 (.st [(i6 0), (i6 0), (i6 0), .nils, (i6 0)]))), (1012, some (.box 45 (.st [(i6 a0.fASN), (i6 a1), (i6 1), (.sref 13123 3 0 s5.2.2.length), (i6 s5.2.1)]))), (13123, some (we_api_Line_51_3 s5.2.2))] : OL)) s80) hB)⟩
            · rcases Bool.eq_false_or_eq_true (decide (s80 < (a3.length : Int))) with hg101 | hg101
              · replace h := ite_t hg101 h
                obtain ⟨x102, hx102, h⟩ := bindS h
                refine AWp.region (oc (mv hN (ot 15 (i6 s80)))
                  (oc (mv hN (ot 3 (qe_api_Series_4 a3)))
                  (oc (OpJ.val (v' := (i6 (a3.length : Int))) (by simp) (OpJ.lenD Try.underlying25 (ltN hN rfl) (ot 60 (qe_api_Series_4 a3))))
                  (oc (OpJ.lss (ltN hN rfl) (ot 59 (i6 s80)) (ot 61 (i6 (a3.length : Int))))
                  (oc (OpJ.val (v' := .d (.bool true)) (by rw [hg101]) (mv hN (ot 62 (bo (decide (s80 < (a3.length : Int)))))))
                  (oc (OpJ.guarded (by rfl) (mv hN (ot 3 (qe_api_Series_4 a3))))
                  (oc (OpJ.guarded (by rfl) (mv hN (ot 15 (i6 s80))))
                  (oc (OpJ.guarded (by rfl) (OpJ.indexD (el := (e_api_Series x102)) Try.underlying25 tyS31 (idx_some hx102).1 (get_map e_api_Series (idx_some hx102).2) (ltN hN rfl) (ot 64 (qe_api_Series_4 a3)) (ot 65 (i6 s80))))
                  (oc (OpJ.guarded (by rfl) (OpJ.fieldD Try.underlying31 (by rfl) (o := 0) (by rfl) tyS3 (by decide) (ds := [(.int .i64 x102.fPort), (.int .i64 x102.fSeconds), (.list 1 (x102.fIn.map (eI .i64))), (.list 1 (x102.fOut.map (eI .i64)))]) (e := (.int .i64 x102.fPort)) (by rfl) (by rfl) (ltN hN rfl) (ot 66 (.dptr (e_api_Series x102)))))
                  (oc (OpJ.guarded (by rfl) (OpJ.loadD tyS3 (by rfl) (by rfl) (ltN hN rfl) (ot 67 (.dptr (.int .i64 x102.fPort)))))
                  (oc (OpJ.guarded (by rfl) (mv hN (ot 14 (i6 x79))))
                  (oc (OpJ.guarded (by rfl) (OpJ.neqI (ltN hN rfl) (ot 68 (i6 x102.fPort)) (ot 69 (i6 x79))))
                  (oc (OpJ.pickT (ltN hN rfl) (ot 63 (bo true)) (ot 70 (bo (x102.fPort != x79))))
                  (OpJs.nil)))))))))))))) (by rfl) (by rfl) ?_
                exact hjj99 _ h _ _ (Mat.trans (mp [] [(3, (qe_api_Series_4 a3)), (6, (.ptr 1006 0 [])), (8, (.ptr 1008 0 [])), (12, (.ptr 1012 0 [])), (14, (i6 x79)), (15, (i6 s80)), (53, (qI_1 r1.1)), (54, (i6 (r1.1.length : Int))), (55, (i6 s5.1)), (71, (bo (x102.fPort != x79)))] [(1006, some (.box 27 (.d (e_api_Tariff a2)))), (1008, some (.box 45 (.st [(i6 0), (i6 0), (i6 0), .nils, (i6 0)]))), (1012, some (.box 45 (.st [(i6 a0.fASN), (i6 a1), (i6 1), (.sref 13123 3 0 s5.2.2.length), (i6 s5.2.1)]))), (13123, some (we_api_Line_51_3 s5.2.2))] hB) (mp [] ((fun m98 : Bool => ([(3, (qe_api_Series_4 a3)), (6, (.ptr 1006 0 [])), (8, (.ptr 1008 0 [])), (12, (.ptr 1012 0 [])), (14, (i6 x79)), (15, (i6 s80)), (53, (qI_1 r1.1)), (54, (i6 (r1.1.length : Int))), (55, (i6 s5.1)), (71, (bo m98))] : EL)) (x102.fPort != x79)) ((fun m98 : Bool => ([(1006, some (.box 27 (.d (e_api_Tariff a2)))), (1008, some (.box 45 (.st [(i6 0), (i6 0), (i6 0), .nils, (i6 0)]))), (1012, some (.box 45 (.st [(i6 a0.fASN), (i6 a1), (i6 1), (.sref 13123 3 0 s5.2.2.length), (i6 s5.2.1)]))), (13123, some (we_api_Line_51_3 s5.2.2))] : OL)) (x102.fPort != x79)) hB))
              · replace h := ite_f hg101 h
                refine AWp.region (oc (mv hN (ot 15 (i6 s80)))
                  (oc (mv hN (ot 3 (qe_api_Series_4 a3)))
                  (oc (OpJ.val (v' := (i6 (a3.length : Int))) (by simp) (OpJ.lenD Try.underlying25 (ltN hN rfl) (ot 60 (qe_api_Series_4 a3))))
                  (oc (OpJ.lss (ltN hN rfl) (ot 59 (i6 s80)) (ot 61 (i6 (a3.length : Int))))
                  (oc (OpJ.val (v' := .d (.bool false)) (by rw [hg101]) (mv hN (ot 62 (bo (decide (s80 < (a3.length : Int)))))))
                  (oc (OpJ.skipU (ltN hN rfl) (by rfl))
                  (oc (OpJ.skipU (ltN hN rfl) (by rfl))
                  (oc (OpJ.skipU (ltN hN rfl) (by rfl))
                  (oc (OpJ.skipU (ltN hN rfl) (by rfl))
                  (oc (OpJ.skipU (ltN hN rfl) (by rfl))
                  (oc (OpJ.skipU (ltN hN rfl) (by rfl))
                  (oc (OpJ.skipU (ltN hN rfl) (by rfl))
                  (oc (OpJ.pickF (ltN hN rfl) (ot 63 (bo false)) (Opd.bool false))
                  (OpJs.nil)))))))))))))) (by rfl) (by rfl) ?_
                exact hjj99 _ h _ _ (Mat.trans (mp [] [(3, (qe_api_Series_4 a3)), (6, (.ptr 1006 0 [])), (8, (.ptr 1008 0 [])), (12, (.ptr 1012 0 [])), (14, (i6 x79)), (15, (i6 s80)), (53, (qI_1 r1.1)), (54, (i6 (r1.1.length : Int))), (55, (i6 s5.1)), (71, (bo false))] [(1006, some (.box 27 (.d (e_api_Tariff a2)))), (1008, some (.box 45 (.st [(i6 0), (i6 0), (i6 0), .nils, (i6 0)]))), (1012, some (.box 45 (.st [(i6 a0.fASN), (i6 a1), (i6 1), (.sref 13123 3 0 s5.2.2.length), (i6 s5.2.1)]))), (13123, some (we_api_Line_51_3 s5.2.2))] hB) (mp [] ((fun m98 : Bool => ([(3, (qe_api_Series_4 a3)), (6, (.ptr 1006 0 [])), (8, (.ptr 1008 0 [])), (12, (.ptr 1012 0 [])), (14, (i6 x79)), (15, (i6 s80)), (53, (qI_1 r1.1)), (54, (i6 (r1.1.length : Int))), (55, (i6 s5.1)), (71, (bo m98))] : EL)) false) ((fun m98 : Bool => ([(1006, some (.box 27 (.d (e_api_Tariff a2)))), (1008, some (.box 45 (.st [(i6 0), (i6 0), (i6 0), .nils, (i6 0)]))), (1012, some (.box 45 (.st [(i6 a0.fASN), (i6 a1), (i6 1), (.sref 13123 3 0 s5.2.2.length), (i6 s5.2.1)]))), (13123, some (we_api_Line_51_3 s5.2.2))] : OL)) false) hB))
          · obtain ⟨rfl, hmat⟩ := hR
            refine blkQ_hit ?_
            refine seqQ_n ?_
            refine AWp.ghost hmat ?_
            refine AWp.seq ?_
            refine AWp.seq ?_
            refine AWp.region (oc (mv hN (ot 15 (i6 p95)))
              (oc (mv hN (ot 3 (qe_api_Series_4 a3)))
              (oc (OpJ.val (v' := (i6 (a3.length : Int))) (by simp) (OpJ.lenD Try.underlying25 (ltN hN rfl) (ot 75 (qe_api_Series_4 a3))))
              (oc (OpJ.eqlI (ltN hN rfl) (ot 74 (i6 p95)) (ot 76 (i6 (a3.length : Int))))
              (OpJs.nil))))) (by rfl) (by rfl) ?_
            refine seqQ_n ?_
            refine AWp.ghost (mp [] [(3, (qe_api_Series_4 a3)), (6, (.ptr 1006 0 [])), (8, (.ptr 1008 0 [])), (12, (.ptr 1012 0 [])), (14, (i6 x79)), (15, (i6 p95)), (53, (qI_1 r1.1)), (54, (i6 (r1.1.length : Int))), (55, (i6 s5.1)), (77, (bo (p95 == (a3.length : Int))))] [(1006, some (.box 27 (.d (e_api_Tariff a2)))), (1008, some (.box 45 (.st [(i6 0), (i6 0), (i6 0), .nils, (i6 0)]))), (1012, some (.box 45 (.st [(i6 a0.fASN), (i6 a1), (i6 1), (.sref 13123 3 0 s5.2.2.length), (i6 s5.2.1)]))), (13123, some (we_api_Line_51_3 s5.2.2))] hB) ?_
            refine AWp.cond (b := (p95 == (a3.length : Int))) (by rfl) (fun hg105 => ?_) (fun hg105 => ?_)
            · replace h := ite_t hg105 h
              refine AWp.seq ?_
              refine AWp.region (oc (OpJ.build (places := [(0, 1), (1, 1), (2, 1), (3, 1), (4, 1)]) ⟨Try.underlying45, fun w => by kernel_rfl⟩ tyZS45 Opds.nil (by kernel_rfl) (r := (.st [(i6 0), (i6 0), (i6 0), .nils, (i6 0)])) (by rfl) (ltN hN rfl))
                (oc (OpJ.storeB (bt := 45) (c := (.st [(i6 0), (i6 0), (i6 0), .nils, (i6 0)])) (v := (.st [(i6 0), (i6 0), (i6 0), .nils, (i6 0)])) (c' := (.st [(i6 0), (i6 0), (i6 0), .nils, (i6 0)])) tyS45 (SetAt.here _ _) (by rfl) (by rfl) (by simp) rfl (ot 8 (.ptr 1008 0 [])) (ot 78 (.st [(i6 0), (i6 0), (i6 0), .nils, (i6 0)])))
                (oc (OpJ.assign (ltN hN rfl) (Opd.int .i64 (7)))
                (OpJs.nil)))) (by rfl) (by rfl) ?_
              refine seqQ_n ?_
              refine AWp.ghost (mp [] [(8, (.ptr 1008 0 [])), (9, (i6 (7 : Int)))] [(1008, some (.box 45 (.st [(i6 0), (i6 0), (i6 0), .nils, (i6 0)])))] hB) ?_
              refine AWp.ret ?_
              refine seqQ_r ?_
              refine blkQ_r ?_
              refine seqQ_r ?_
              obtain rfl := Option.some.inj h
              exact ⟨(fun hc => by cases hc), rfl, (mp [] ((fun p76 : Int => ([(8, (.ptr 1008 0 [])), (9, (i6 p76))] : EL)) (7 : Int)) ((fun p76 : Int => ([(1008, some (.box 45 (.st [(i6 0), (i6 0), (i6 0), .nils, (i6 0)])))] : OL)) (7 : Int)) hB)⟩
            · replace h := ite_f hg105 h
              refine AWp.skip ?_
              refine seqQ_n ?_
              refine AWp.seq ?_
              obtain ⟨x106, hx106, h⟩ := bindS h
              obtain ⟨r107, hr107, h⟩ := bindS h
              refine AWp.region (oc (mv hN (ot 3 (qe_api_Series_4 a3)))
                (oc (mv hN (ot 15 (i6 p95)))
                (oc (OpJ.indexD (el := (e_api_Series x106)) Try.underlying25 tyS31 (idx_some hx106).1 (get_map e_api_Series (idx_some hx106).2) (ltN hN rfl) (ot 80 (qe_api_Series_4 a3)) (ot 81 (i6 p95)))
                (oc (OpJ.loadD tyS31 (by rfl) (by rfl) (ltN hN rfl) (ot 82 (.dptr (e_api_Series x106))))
                (oc (OpJ.callFn hB fnOk37 (exchangepointref40_Used_ac x106 (95 : Int) r107 hr107) [] (by kernel_rfl) (ltN hN rfl) (by kernel_rfl) (OpdL.cons (ot 83 (.d (e_api_Series x106))) (OpdL.cons (Opd.int .i64 (95)) OpdL.nil)))
                (oc (mv hN (ot 84 (.tup [(i6 r107.1), (i6 r107.2)])))
                (oc (OpJ.extract (v := (i6 r107.1)) (by rfl) rfl (ltN hN rfl) (ot 79 (.tup [(i6 r107.1), (i6 r107.2)])))
                (oc (OpJ.extract (v := (i6 r107.2)) (by rfl) rfl (ltN hN rfl) (ot 79 (.tup [(i6 r107.1), (i6 r107.2)])))
                (oc (OpJ.assign (ltN hN rfl) (ot 85 (i6 r107.1)))
                (oc (OpJ.assign (ltN hN rfl) (ot 86 (i6 r107.2)))
                (OpJs.nil))))))))))) (by rfl) (by rfl) ?_
              refine seqQ_n ?_
              refine AWp.ghost (mp [] [(3, (qe_api_Series_4 a3)), (6, (.ptr 1006 0 [])), (8, (.ptr 1008 0 [])), (12, (.ptr 1012 0 [])), (14, (i6 x79)), (16, (i6 r107.1)), (17, (i6 r107.2)), (53, (qI_1 r1.1)), (54, (i6 (r1.1.length : Int))), (55, (i6 s5.1))] [(1006, some (.box 27 (.d (e_api_Tariff a2)))), (1008, some (.box 45 (.st [(i6 0), (i6 0), (i6 0), .nils, (i6 0)]))), (1012, some (.box 45 (.st [(i6 a0.fASN), (i6 a1), (i6 1), (.sref 13123 3 0 s5.2.2.length), (i6 s5.2.1)]))), (13123, some (we_api_Line_51_3 s5.2.2))] hB) ?_
              refine AWp.seq ?_
              refine AWp.seq ?_
              refine AWp.region (oc (mv hN (ot 17 (i6 r107.2)))
                (oc (OpJ.neqI (ltN hN rfl) (ot 87 (i6 r107.2)) (Opd.int .i64 (0)))
                (OpJs.nil))) (by rfl) (by rfl) ?_
              refine seqQ_n ?_
              refine AWp.ghost (mp [] [(3, (qe_api_Series_4 a3)), (6, (.ptr 1006 0 [])), (8, (.ptr 1008 0 [])), (12, (.ptr 1012 0 [])), (14, (i6 x79)), (16, (i6 r107.1)), (17, (i6 r107.2)), (53, (qI_1 r1.1)), (54, (i6 (r1.1.length : Int))), (55, (i6 s5.1)), (88, (bo (r107.2 != (0 : Int))))] [(1006, some (.box 27 (.d (e_api_Tariff a2)))), (1008, some (.box 45 (.st [(i6 0), (i6 0), (i6 0), .nils, (i6 0)]))), (1012, some (.box 45 (.st [(i6 a0.fASN), (i6 a1), (i6 1), (.sref 13123 3 0 s5.2.2.length), (i6 s5.2.1)]))), (13123, some (we_api_Line_51_3 s5.2.2))] hB) ?_
              refine AWp.cond (b := (r107.2 != (0 : Int))) (by rfl) (fun hg108 => ?_) (fun hg108 => ?_)
              · replace h := ite_t hg108 h
                refine AWp.seq ?_
                refine AWp.region (oc (OpJ.build (places := [(0, 1), (1, 1), (2, 1), (3, 1), (4, 1)]) ⟨Try.underlying45, fun w => by kernel_rfl⟩ tyZS45 Opds.nil (by kernel_rfl) (r := (.st [(i6 0), (i6 0), (i6 0), .nils, (i6 0)])) (by rfl) (ltN hN rfl))
                  (oc (mv hN (ot 17 (i6 r107.2)))
                  (oc (OpJ.storeB (bt := 45) (c := (.st [(i6 0), (i6 0), (i6 0), .nils, (i6 0)])) (v := (.st [(i6 0), (i6 0), (i6 0), .nils, (i6 0)])) (c' := (.st [(i6 0), (i6 0), (i6 0), .nils, (i6 0)])) tyS45 (SetAt.here _ _) (by rfl) (by rfl) (by simp) rfl (ot 8 (.ptr 1008 0 [])) (ot 89 (.st [(i6 0), (i6 0), (i6 0), .nils, (i6 0)])))
                  (oc (OpJ.assign (ltN hN rfl) (ot 90 (i6 r107.2)))
                  (OpJs.nil))))) (by rfl) (by rfl) ?_
                refine seqQ_n ?_
                refine AWp.ghost (mp [] [(8, (.ptr 1008 0 [])), (9, (i6 r107.2))] [(1008, some (.box 45 (.st [(i6 0), (i6 0), (i6 0), .nils, (i6 0)])))] hB) ?_
                refine AWp.ret ?_
                refine seqQ_r ?_
                refine blkQ_r ?_
                refine seqQ_r ?_
                obtain rfl := Option.some.inj h
                exact ⟨(fun hc => by cases hc), rfl, (mp [] ((fun p76 : Int => ([(8, (.ptr 1008 0 [])), (9, (i6 p76))] : EL)) r107.2) ((fun p76 : Int => ([(1008, some (.box 45 (.st [(i6 0), (i6 0), (i6 0), .nils, (i6 0)])))] : OL)) r107.2) hB)⟩
              · replace h := ite_f hg108 h
                refine AWp.skip ?_
                refine seqQ_n ?_
                refine AWp.seq ?_
                obtain ⟨r109, hr109, h⟩ := bindS h
                refine AWp.region (oc (lb hN 27 (.d (e_api_Tariff a2)) (.d (e_api_Tariff a2)) tyS27 (At.here _) (ot 6 (.ptr 1006 0 [])))
                  (oc (mv hN (ot 16 (i6 r107.1)))
                  (oc (OpJ.callFn hB fnOk12 (exchangepointref41_Price_ac a2 r107.1 r109 hr109) [] (by kernel_rfl) (ltN hN rfl) (by kernel_rfl) (OpdL.cons (ot 92 (.d (e_api_Tariff a2))) (OpdL.cons (ot 93 (i6 r107.1)) OpdL.nil)))
                  (oc (mv hN (ot 94 (.tup [(i6 r109.1), (i6 r109.2)])))
                  (oc (OpJ.extract (v := (i6 r109.1)) (by rfl) rfl (ltN hN rfl) (ot 91 (.tup [(i6 r109.1), (i6 r109.2)])))
                  (oc (OpJ.extract (v := (i6 r109.2)) (by rfl) rfl (ltN hN rfl) (ot 91 (.tup [(i6 r109.1), (i6 r109.2)])))
                  (oc (OpJ.assign (ltN hN rfl) (ot 95 (i6 r109.1)))
                  (oc (OpJ.assign (ltN hN rfl) (ot 96 (i6 r109.2)))
                  (OpJs.nil))))))))) (by rfl) (by rfl) ?_
                refine seqQ_n ?_
                refine AWp.ghost (mp [] [(3, (qe_api_Series_4 a3)), (6, (.ptr 1006 0 [])), (8, (.ptr 1008 0 [])), (12, (.ptr 1012 0 [])), (14, (i6 x79)), (16, (i6 r107.1)), (17, (i6 r109.2)), (18, (i6 r109.1)), (53, (qI_1 r1.1)), (54, (i6 (r1.1.length : Int))), (55, (i6 s5.1))] [(1006, some (.box 27 (.d (e_api_Tariff a2)))), (1008, some (.box 45 (.st [(i6 0), (i6 0), (i6 0), .nils, (i6 0)]))), (1012, some (.box 45 (.st [(i6 a0.fASN), (i6 a1), (i6 1), (.sref 13123 3 0 s5.2.2.length), (i6 s5.2.1)]))), (13123, some (we_api_Line_51_3 s5.2.2))] hB) ?_
                refine AWp.seq ?_
                refine AWp.seq ?_
                refine AWp.region (oc (mv hN (ot 17 (i6 r109.2)))
                  (oc (OpJ.neqI (ltN hN rfl) (ot 97 (i6 r109.2)) (Opd.int .i64 (0)))
                  (OpJs.nil))) (by rfl) (by rfl) ?_
                refine seqQ_n ?_
                refine AWp.ghost (mp [] [(3, (qe_api_Series_4 a3)), (6, (.ptr 1006 0 [])), (8, (.ptr 1008 0 [])), (12, (.ptr 1012 0 [])), (14, (i6 x79)), (16, (i6 r107.1)), (17, (i6 r109.2)), (18, (i6 r109.1)), (53, (qI_1 r1.1)), (54, (i6 (r1.1.length : Int))), (55, (i6 s5.1)), (98, (bo (r109.2 != (0 : Int))))] [(1006, some (.box 27 (.d (e_api_Tariff a2)))), (1008, some (.box 45 (.st [(i6 0), (i6 0), (i6 0), .nils, (i6 0)]))), (1012, some (.box 45 (.st [(i6 a0.fASN), (i6 a1), (i6 1), (.sref 13123 3 0 s5.2.2.length), (i6 s5.2.1)]))), (13123, some (we_api_Line_51_3 s5.2.2))] hB) ?_
                refine AWp.cond (b := (r109.2 != (0 : Int))) (by rfl) (fun hg110 => ?_) (fun hg110 => ?_)
                · replace h := ite_t hg110 h
                  refine AWp.seq ?_
                  refine AWp.region (oc (OpJ.build (places := [(0, 1), (1, 1), (2, 1), (3, 1), (4, 1)]) ⟨Try.underlying45, fun w => by kernel_rfl⟩ tyZS45 Opds.nil (by kernel_rfl) (r := (.st [(i6 0), (i6 0), (i6 0), .nils, (i6 0)])) (by rfl) (ltN hN rfl))
                    (oc (mv hN (ot 17 (i6 r109.2)))
                    (oc (OpJ.storeB (bt := 45) (c := (.st [(i6 0), (i6 0), (i6 0), .nils, (i6 0)])) (v := (.st [(i6 0), (i6 0), (i6 0), .nils, (i6 0)])) (c' := (.st [(i6 0), (i6 0), (i6 0), .nils, (i6 0)])) tyS45 (SetAt.here _ _) (by rfl) (by rfl) (by simp) rfl (ot 8 (.ptr 1008 0 [])) (ot 99 (.st [(i6 0), (i6 0), (i6 0), .nils, (i6 0)])))
                    (oc (OpJ.assign (ltN hN rfl) (ot 100 (i6 r109.2)))
                    (OpJs.nil))))) (by rfl) (by rfl) ?_
                  refine seqQ_n ?_
                  refine AWp.ghost (mp [] [(8, (.ptr 1008 0 [])), (9, (i6 r109.2))] [(1008, some (.box 45 (.st [(i6 0), (i6 0), (i6 0), .nils, (i6 0)])))] hB) ?_
                  refine AWp.ret ?_
                  refine seqQ_r ?_
                  refine blkQ_r ?_
                  refine seqQ_r ?_
                  obtain rfl := Option.some.inj h
                  exact ⟨(fun hc => by cases hc), rfl, (mp [] ((fun p76 : Int => ([(8, (.ptr 1008 0 [])), (9, (i6 p76))] : EL)) r109.2) ((fun p76 : Int => ([(1008, some (.box 45 (.st [(i6 0), (i6 0), (i6 0), .nils, (i6 0)])))] : OL)) r109.2) hB)⟩
                · replace h := ite_f hg110 h
                  refine AWp.skip ?_
                  refine seqQ_n ?_
                  refine AWp.seq ?_
                  obtain ⟨hc111, h⟩ := chk_some h
                  refine AWp.region (oc (ov (.ptr 1012 3 [3]) (fp hN Try.underlying45 3 tyS43 (.box 45 (.st [(i6 a0.fASN), (i6 a1), (i6 1), (.sref 13123 3 0 s5.2.2.length), (i6 s5.2.1)])) (ot 12 (.ptr 1012 0 []))))
                    (oc (lb hN 45 (.st [(i6 a0.fASN), (i6 a1), (i6 1), (.sref 13123 3 0 s5.2.2.length), (i6 s5.2.1)]) (.sref 13123 3 0 s5.2.2.length) tyS43 (At.st1 (f := (.sref 13123 3 0 s5.2.2.length)) (by rfl) (by rfl) (At.here _) (by first | rfl | omega)) (ot 101 (.ptr 1012 3 [3])))
                    (oc (mv hN (ot 14 (i6 x79)))
                    (oc (mv hN (ot 16 (i6 r107.1)))
                    (oc (mv hN (ot 18 (i6 r109.1)))
                    (oc (OpJ.coe (v := (.st [(i6 x79), (i6 r107.1), (i6 r109.1)])) (y := (.st [(.int .i64 x79), (.int .i64 r107.1), (.int .i64 r109.1)])) (Co.st (CoL.cons (Co.d _) (CoL.cons (Co.d _) (CoL.cons (Co.d _) CoL.nil)))) rfl (OpJ.build (places := [(0, 1), (1, 1), (2, 1)]) ⟨Try.underlying51, fun w => by kernel_rfl⟩ tyZS51 (Opds.cons (ot 103 (i6 x79)) (Opds.cons (ot 104 (i6 r107.1)) (Opds.cons (ot 105 (i6 r109.1)) Opds.nil))) (by kernel_rfl) (r := (.st [(i6 x79), (i6 r107.1), (i6 r109.1)])) (by rfl) (ltN hN rfl)))
                    (oc (OpJ.buildSlice Try.underlying43 tyS51 tyZD51 (by rfl) (by decide) (by decide) (Opds.cons (ot 106 (.d (.st [(.int .i64 x79), (.int .i64 r107.1), (.int .i64 r109.1)]))) Opds.nil) (by kernel_rfl) (es := ([(.st [(.int .i64 x79), (.int .i64 r107.1), (.int .i64 r109.1)])] : List D)) (by rfl) (by rfl) (by kernel_rfl) (by simp) (ltN hN rfl))
                    (oc (OpJ.append hB Try.underlying43 tyE51 (nm := 1108) (by decide) (es := s5.2.2.map e_api_Line) (ys := ([(api_Line.mk x79 r107.1 r109.1)] : List api_Line).map e_api_Line) (es' := (s5.2.2 ++ ([(api_Line.mk x79 r107.1 r109.1)] : List api_Line)).map e_api_Line) (len := (s5.2.2 ++ ([(api_Line.mk x79 r107.1 r109.1)] : List api_Line)).length) (by simp) (by simp) (map_sz (f := e_api_Line) (fun _ => rfl)) (by rw [List.length_map]; exact lim_mulN hc111 (by decide)) (by rw [List.length_map]; exact lim_leN hc111) (ltN hN rfl) (by simp) (ot 102 (.sref 13123 3 0 s5.2.2.length)) (ot 107 (qe_api_Line_3 ([(api_Line.mk x79 r107.1 r109.1)] : List api_Line))))
                    (oc (ov (.ptr 1012 3 [3]) (fp hN Try.underlying45 3 tyS43 (.box 45 (.st [(i6 a0.fASN), (i6 a1), (i6 1), (.sref 13123 3 0 s5.2.2.length), (i6 s5.2.1)])) (ot 12 (.ptr 1012 0 []))))
                    (oc (OpJ.storeB (bt := 45) (c := (.st [(i6 a0.fASN), (i6 a1), (i6 1), (.sref 13123 3 0 s5.2.2.length), (i6 s5.2.1)])) (v := (.sref 1108 3 0 ((s5.2.2 ++ ([(api_Line.mk x79 r107.1 r109.1)] : List api_Line)).length))) (c' := (.st [(i6 a0.fASN), (i6 a1), (i6 1), (.sref 1108 3 0 ((s5.2.2 ++ ([(api_Line.mk x79 r107.1 r109.1)] : List api_Line)).length)), (i6 s5.2.1)])) tyS43 (SetAt.st1 (f := (.sref 13123 3 0 s5.2.2.length)) (by rfl) (by rfl) (SetAt.here _ _) (by rfl) (by rfl) (by first | rfl | omega)) (by rfl) (by rfl) (by simp) rfl (ot 109 (.ptr 1012 3 [3])) (ot 108 (.sref 1108 3 0 ((s5.2.2 ++ ([(api_Line.mk x79 r107.1 r109.1)] : List api_Line)).length))))
                    (OpJs.nil))))))))))) (by rfl) (by rfl) ?_
                  refine seqQ_n ?_
                  refine AWp.ghost (mp [] [(3, (qe_api_Series_4 a3)), (6, (.ptr 1006 0 [])), (8, (.ptr 1008 0 [])), (12, (.ptr 1012 0 [])), (18, (i6 r109.1)), (53, (qI_1 r1.1)), (54, (i6 (r1.1.length : Int))), (55, (i6 s5.1))] [(1006, some (.box 27 (.d (e_api_Tariff a2)))), (1008, some (.box 45 (.st [(i6 0), (i6 0), (i6 0), .nils, (i6 0)]))), (1012, some (.box 45 (.st [(i6 a0.fASN), (i6 a1), (i6 1), (.sref 1108 3 0 ((s5.2.2 ++ ([(api_Line.mk x79 r107.1 r109.1)] : List api_Line)).length)), (i6 s5.2.1)]))), (1108, some (we_api_Line_51_3 (s5.2.2 ++ ([(api_Line.mk x79 r107.1 r109.1)] : List api_Line))))] hB) ?_
                  refine AWp.region (oc (ov (.ptr 1012 4 [4]) (fp hN Try.underlying45 4 tyS3 (.box 45 (.st [(i6 a0.fASN), (i6 a1), (i6 1), (.sref 1108 3 0 ((s5.2.2 ++ ([(api_Line.mk x79 r107.1 r109.1)] : List api_Line)).length)), (i6 s5.2.1)])) (ot 12 (.ptr 1012 0 []))))
                    (oc (lb hN 45 (.st [(i6 a0.fASN), (i6 a1), (i6 1), (.sref 1108 3 0 ((s5.2.2 ++ ([(api_Line.mk x79 r107.1 r109.1)] : List api_Line)).length)), (i6 s5.2.1)]) (i6 s5.2.1) tyS3 (At.st1 (f := (i6 s5.2.1)) (by rfl) (by rfl) (At.here _) (by first | rfl | omega)) (ot 110 (.ptr 1012 4 [4])))
                    (oc (mv hN (ot 18 (i6 r109.1)))
                    (oc (OpJ.add (ltN hN rfl) (ot 111 (i6 s5.2.1)) (ot 112 (i6 r109.1)))
                    (oc (ov (.ptr 1012 4 [4]) (fp hN Try.underlying45 4 tyS3 (.box 45 (.st [(i6 a0.fASN), (i6 a1), (i6 1), (.sref 1108 3 0 ((s5.2.2 ++ ([(api_Line.mk x79 r107.1 r109.1)] : List api_Line)).length)), (i6 s5.2.1)])) (ot 12 (.ptr 1012 0 []))))
                    (oc (OpJ.storeB (bt := 45) (c := (.st [(i6 a0.fASN), (i6 a1), (i6 1), (.sref 1108 3 0 ((s5.2.2 ++ ([(api_Line.mk x79 r107.1 r109.1)] : List api_Line)).length)), (i6 s5.2.1)])) (v := (i6 (w64 (s5.2.1 + r109.1)))) (c' := (.st [(i6 a0.fASN), (i6 a1), (i6 1), (.sref 1108 3 0 ((s5.2.2 ++ ([(api_Line.mk x79 r107.1 r109.1)] : List api_Line)).length)), (i6 (w64 (s5.2.1 + r109.1)))])) tyS3 (SetAt.st1 (f := (i6 s5.2.1)) (by rfl) (by rfl) (SetAt.here _ _) (by rfl) (by rfl) (by first | rfl | omega)) (by rfl) (by rfl) (by simp) rfl (ot 114 (.ptr 1012 4 [4])) (ot 113 (i6 (w64 (s5.2.1 + r109.1)))))
                    (OpJs.nil))))))) (by rfl) (by rfl) ?_
                  refine blkQ_n ?_
                  refine seqQ_n ?_
                  refine AWp.ghost (mp [] [(3, (qe_api_Series_4 a3)), (6, (.ptr 1006 0 [])), (8, (.ptr 1008 0 [])), (12, (.ptr 1012 0 [])), (53, (qI_1 r1.1)), (54, (i6 (r1.1.length : Int))), (55, (i6 s5.1))] [(1006, some (.box 27 (.d (e_api_Tariff a2)))), (1008, some (.box 45 (.st [(i6 0), (i6 0), (i6 0), .nils, (i6 0)]))), (1012, some (.box 45 (.st [(i6 a0.fASN), (i6 a1), (i6 1), (.sref 1108 3 0 ((s5.2.2 ++ ([(api_Line.mk x79 r107.1 r109.1)] : List api_Line)).length)), (i6 (w64 (s5.2.1 + r109.1)))]))), (1108, some (we_api_Line_51_3 (s5.2.2 ++ ([(api_Line.mk x79 r107.1 r109.1)] : List api_Line))))] hB) ?_
                  refine AWp.region (oc (OpJ.add (ltN hN rfl) (ot 55 (i6 s5.1)) (Opd.int .i64 (1)))
                    (oc (mv hN (ot 115 (i6 (w64 (s5.1 + (1 : Int))))))
                    (OpJs.nil))) (by rfl) (by rfl) ?_
                  obtain rfl := Option.some.inj h
                  exact ⟨rfl, (Mat.trans (mp [] [(3, (qe_api_Series_4 a3)), (6, (.ptr 1006 0 [])), (8, (.ptr 1008 0 [])), (12, (.ptr 1012 0 [])), (53, (qI_1 r1.1)), (54, (i6 (r1.1.length : Int))), (55, (i6 (w64 (s5.1 + (1 : Int)))))] [(1006, some (.box 27 (.d (e_api_Tariff a2)))), (1008, some (.box 45 (.st [(i6 0), (i6 0), (i6 0), .nils, (i6 0)]))), (1012, some (.box 45 (.st [(i6 a0.fASN), (i6 a1), (i6 1), (.sref 1108 3 0 ((s5.2.2 ++ ([(api_Line.mk x79 r107.1 r109.1)] : List api_Line)).length)), (i6 (w64 (s5.2.1 + r109.1)))]))), (1108, some (we_api_Line_51_3 (s5.2.2 ++ ([(api_Line.mk x79 r107.1 r109.1)] : List api_Line))))] hB) (mp [(13123, 1108)] ((fun s5 : Int × Int × (List api_Line) => ([(3, (qe_api_Series_4 a3)), (6, (.ptr 1006 0 [])), (8, (.ptr 1008 0 [])), (12, (.ptr 1012 0 [])), (53, (qI_1 r1.1)), (54, (i6 (r1.1.length : Int))), (55, (i6 s5.1))] : EL)) ((w64 (s5.1 + (1 : Int))), (w64 (s5.2.1 + r109.1)), (s5.2.2 ++ ([(api_Line.mk x79 r107.1 r109.1)] : List api_Line)))) ((fun s5 : Int × Int × (List api_Line) => ([(1006, some (.box 27 (.d (e_api_Tariff a2)))), (1008, some (.box 45 (.st [(i6 0), (i6 0), (i6 0), .nils, (i6 0)]))), (1012, some (.box 45 (.st [(i6 a0.fASN), (i6 a1), (i6 1), (.sref 13123 3 0 s5.2.2.length), (i6 s5.2.1)]))), (13123, some (we_api_Line_51_3 s5.2.2))] : OL)) ((w64 (s5.1 + (1 : Int))), (w64 (s5.2.1 + r109.1)), (s5.2.2 ++ ([(api_Line.mk x79 r107.1 r109.1)] : List api_Line)))) hB))⟩
        · replace h := ite_f hg78 h
          refine AWp.exit ?_
          refine seqQ_e ?_
          obtain rfl := Option.some.inj h
          exact ⟨(fun hc => by cases hc), rfl, (mp [] ((fun p77 : Int × (List api_Line) => ([(8, (.ptr 1008 0 [])), (12, (.ptr 1012 0 []))] : EL)) (s5.2.1, s5.2.2)) ((fun p77 : Int × (List api_Line) => ([(1008, some (.box 45 (.st [(i6 0), (i6 0), (i6 0), .nils, (i6 0)]))), (1012, some (.box 45 (.st [(i6 a0.fASN), (i6 a1), (i6 1), (.sref 13123 3 0 p77.2.length), (i6 p77.1)]))), (13123, some (we_api_Line_51_3 p77.2))] : OL)) (s5.2.1, s5.2.2)) hB)⟩
      · rcases x112 with p76 | p77
        · obtain ⟨rfl, hmat⟩ := hR
          refine blkQ_r ?_
          refine seqQ_r ?_
          obtain rfl := Option.some.inj h
          exact ⟨.inl rfl, _, _, (Mat.trans hmat (Mat.trans (Mat.coeP (Ts := []) (Bs := [(1008, some (.box 45 (.d (.st [(.int .i64 0), (.int .i64 0), (.int .i64 0), (.list 3 (([] : List api_Line).map e_api_Line)), (.int .i64 0)]))))]) TwT.nil (TwB.cons (x := (.st [(i6 0), (i6 0), (i6 0), .nils, (i6 0)])) (by rfl) (Tw.leaf ⟨_, (Co.st (CoL.cons (Co.d _) (CoL.cons (Co.d _) (CoL.cons (Co.d _) (CoL.cons (Co.nils 3) (CoL.cons (Co.d _) CoL.nil)))))), rfl⟩) TwB.nil)) (mp [] [(8, (.ptr 1008 0 [])), (9, (i6 p76))] [(1008, some (.box 45 (.d (.st [(.int .i64 0), (.int .i64 0), (.int .i64 0), (.list 3 (([] : List api_Line).map e_api_Line)), (.int .i64 0)]))))] hB))), [(.d (.st [(.int .i64 0), (.int .i64 0), (.int .i64 0), (.list 3 (([] : List api_Line).map e_api_Line)), (.int .i64 0)])), (i6 p76)], (Res.cell (c := (.d (.st [(.int .i64 0), (.int .i64 0), (.int .i64 0), (.list 3 (([] : List api_Line).map e_api_Line)), (.int .i64 0)]))) (by rfl) (by rfl) tyS45 (by rfl) (by rfl) (by rfl) (Res.tmp (by rfl) (by rfl) Res.nil)), rfl, by rfl, by rfl, by rfl⟩
        · obtain ⟨rfl, hmat⟩ := hR
          refine blkQ_hit ?_
          refine seqQ_n ?_
          refine AWp.ghost hmat ?_
          refine AWp.seq ?_
          refine AWp.region (oc (lb hN 45 (.st [(i6 a0.fASN), (i6 a1), (i6 1), (.sref 13123 3 0 p77.2.length), (i6 p77.1)]) (.st [(i6 a0.fASN), (i6 a1), (i6 1), (.sref 13123 3 0 p77.2.length), (i6 p77.1)]) tyS45 (At.here _) (ot 12 (.ptr 1012 0 [])))
            (oc (OpJ.storeB (bt := 45) (c := (.st [(i6 0), (i6 0), (i6 0), .nils, (i6 0)])) (v := (.st [(i6 a0.fASN), (i6 a1), (i6 1), (.sref 13123 3 0 p77.2.length), (i6 p77.1)])) (c' := (.st [(i6 a0.fASN), (i6 a1), (i6 1), (.sref 13123 3 0 p77.2.length), (i6 p77.1)])) tyS45 (SetAt.here _ _) (by rfl) (by rfl) (by simp) rfl (ot 8 (.ptr 1008 0 [])) (ot 116 (.st [(i6 a0.fASN), (i6 a1), (i6 1), (.sref 13123 3 0 p77.2.length), (i6 p77.1)])))
            (oc (OpJ.assign (ltN hN rfl) (Opd.int .i64 (0)))
            (OpJs.nil)))) (by rfl) (by rfl) ?_
          refine seqQ_n ?_
          refine AWp.ghost (mp [] [(8, (.ptr 1008 0 [])), (9, (i6 0))] [(1008, some (.box 45 (.st [(i6 a0.fASN), (i6 a1), (i6 1), (.sref 13123 3 0 p77.2.length), (i6 p77.1)]))), (13123, some (we_api_Line_51_3 p77.2))] hB) ?_
          refine AWp.ret ?_
          obtain rfl := Option.some.inj h
          exact ⟨.inl rfl, _, _, (Mat.trans (Mat.freezeP (n := 13123) (e := 51) (sz := 3) (es := p77.2.map e_api_Line) (Ts := []) (Bs := [(1008, some (.box 45 (.st [(i6 a0.fASN), (i6 a1), (i6 1), (qe_api_Line_3 p77.2), (i6 p77.1)])))]) (by rfl) TwT.nil (TwB.cons (x := (.st [(i6 a0.fASN), (i6 a1), (i6 1), (.sref 13123 3 0 p77.2.length), (i6 p77.1)])) (by rfl) (Tw.st (TwL.cons (Tw.same _) (TwL.cons (Tw.same _) (TwL.cons (Tw.same _) (TwL.cons (FrzL.all (by first | rfl | (simp; done) | (simp; omega))) (TwL.cons (Tw.same _) TwL.nil)))))) TwB.nil)) (Mat.trans (Mat.coeP (Ts := []) (Bs := [(1008, some (.box 45 (.d (.st [(.int .i64 a0.fASN), (.int .i64 a1), (.int .i64 1), (.list 3 (p77.2.map e_api_Line)), (.int .i64 p77.1)]))))]) TwT.nil (TwB.cons (x := (.st [(i6 a0.fASN), (i6 a1), (i6 1), (qe_api_Line_3 p77.2), (i6 p77.1)])) (by rfl) (Tw.leaf ⟨_, (Co.st (CoL.cons (Co.d _) (CoL.cons (Co.d _) (CoL.cons (Co.d _) (CoL.cons (Co.d _) (CoL.cons (Co.d _) CoL.nil)))))), rfl⟩) TwB.nil)) (mp [] [(8, (.ptr 1008 0 [])), (9, (i6 0))] [(1008, some (.box 45 (.d (.st [(.int .i64 a0.fASN), (.int .i64 a1), (.int .i64 1), (.list 3 (p77.2.map e_api_Line)), (.int .i64 p77.1)]))))] hB))), [(.d (.st [(.int .i64 a0.fASN), (.int .i64 a1), (.int .i64 1), (.list 3 (p77.2.map e_api_Line)), (.int .i64 p77.1)])), (i6 0)], (Res.cell (c := (.d (.st [(.int .i64 a0.fASN), (.int .i64 a1), (.int .i64 1), (.list 3 (p77.2.map e_api_Line)), (.int .i64 p77.1)]))) (by rfl) (by rfl) tyS45 (by rfl) (by rfl) (by rfl) (Res.tmp (by rfl) (by rfl) Res.nil)), rfl, by rfl, by rfl, by rfl⟩

noncomputable def exchangepointref41_Same_L0 (a0 : api_Invoice) (a1 : api_Invoice) (s2 : Int) : Option (((Unit) ⊕ (Unit)) ⊕ (Int)) :=
  (if (decide (s2 < (a0.fLines.length : Int))) = true then
  (idx a0.fLines s2).bind fun x14 =>
  (idx a1.fLines s2).bind fun x15 =>
  (if (!((x14.fPort == x15.fPort) && ((x14.fUsed == x15.fUsed) && ((x14.fAmount == x15.fAmount) && true)))) = true then
  some (.inl (.inl ()))
  else
  some (.inr (w64 (s2 + (1 : Int)))))
  else
  some (.inl (.inr ())))
noncomputable def exchangepointref41_Same (a0 : api_Invoice) (a1 : api_Invoice) : Option (Bool) :=
  (if (((((a0.fMember != a1.fMember) || (a0.fMonth != a1.fMonth)) || (a0.fVersion != a1.fVersion)) || (a0.fTotal != a1.fTotal)) || ((a0.fLines.length : Int) != (a1.fLines.length : Int))) = true then
  some false
  else
  (loop (exchangepointref41_Same_L0 a0 a1) (0 : Int)).bind fun x17 => match x17 with
  | (.inl _) =>
    some false
  | (.inr _) =>
    some true)
set_option maxHeartbeats 4000000 in
set_option maxRecDepth 100000 in
theorem exchangepointref41_Same_ac (a0 : api_Invoice) (a1 : api_Invoice) (r : Bool) (h : exchangepointref41_Same a0 a1 = some r) : AC Try.prog 15 [(.d (e_api_Invoice a0)), (.d (e_api_Invoice a1))] [] (.d (.bool r)) [] := by
  refine AC.of_code2 Try.func15 rfl rfl (Nat.le_of_ble_eq_true (by rfl)) fun B hB hN => ?_
  delta exchangepointref41_Same at h
  refine AWp.seq ?_
  refine AWp.region (oc (OpJ.box hB (nm := 1002) (by decide) (by simp) rfl (ltN hN rfl) (ot 0 (.d (e_api_Invoice a0))))
  (oc (OpJ.box hB (nm := 1003) (by decide) (by simp) rfl (ltN hN rfl) (ot 1 (.d (e_api_Invoice a1))))
  (oc (OpJ.assign (ltN hN rfl) (Opd.bool false))
  (OpJs.nil)))) (by rfl) (by rfl) ?_
  refine seqQ_n ?_
  refine AWp.ghost (mp [] [(2, (.ptr 1002 0 [])), (3, (.ptr 1003 0 []))] [(1002, some (.box 45 (.d (e_api_Invoice a0)))), (1003, some (.box 45 (.d (e_api_Invoice a1))))] hB) ?_
  refine AWp.seq ?_
  refine AWp.seq ?_
  refine AWp.region (oc (ov (.ptr 1002 0 [0]) (fp hN Try.underlying45 0 tyS3 (.box 45 (.d (e_api_Invoice a0))) (ot 2 (.ptr 1002 0 []))))
  (oc (lb hN 45 (.d (e_api_Invoice a0)) (i6 a0.fMember) tyS3 (ad (.int .i64 a0.fMember)) (ot 6 (.ptr 1002 0 [0])))
  (oc (ov (.ptr 1003 0 [0]) (fp hN Try.underlying45 0 tyS3 (.box 45 (.d (e_api_Invoice a1))) (ot 3 (.ptr 1003 0 []))))
  (oc (lb hN 45 (.d (e_api_Invoice a1)) (i6 a1.fMember) tyS3 (ad (.int .i64 a1.fMember)) (ot 8 (.ptr 1003 0 [0])))
  (oc (OpJ.neqI (ltN hN rfl) (ot 7 (i6 a0.fMember)) (ot 9 (i6 a1.fMember)))
  (oc (mv hN (ot 10 (bo (a0.fMember != a1.fMember))))
  (oc (op hN (.ptr 1002 1 [1]) (ov (.ptr 1002 1 [1]) (fp hN Try.underlying45 1 tyS3 (.box 45 (.d (e_api_Invoice a0))) (ot 2 (.ptr 1002 0 [])))) (OptL.keep rfl OptL.nil) (GuardV.plain _))
  (oc (op hN (i6 a0.fMonth) (lb hN 45 (.d (e_api_Invoice a0)) (i6 a0.fMonth) tyS3 (ad (.int .i64 a0.fMonth)) (ot 12 (.ptr 1002 1 [1]))) (OptL.opt OptL.nil) (GuardV.plain _))
  (oc (op hN (.ptr 1003 1 [1]) (ov (.ptr 1003 1 [1]) (fp hN Try.underlying45 1 tyS3 (.box 45 (.d (e_api_Invoice a1))) (ot 3 (.ptr 1003 0 [])))) (OptL.keep rfl OptL.nil) (GuardV.plain _))
  (oc (op hN (i6 a1.fMonth) (lb hN 45 (.d (e_api_Invoice a1)) (i6 a1.fMonth) tyS3 (ad (.int .i64 a1.fMonth)) (ot 14 (.ptr 1003 1 [1]))) (OptL.opt OptL.nil) (GuardV.plain _))
  (oc (op hN (bo (a0.fMonth != a1.fMonth)) (OpJ.neqI (ltN hN rfl) (ot 13 (i6 a0.fMonth)) (ot 15 (i6 a1.fMonth))) (OptL.opt (OptL.opt OptL.nil)) (GuardV.plain _))
  (oc (OpJ.pickOr rfl (ltN hN rfl) (ot 11 (bo (a0.fMember != a1.fMember))) (ot 16 (.opt ((a0.fMember != a1.fMember) == false) (bo (a0.fMonth != a1.fMonth)))))
  (oc (mv hN (ot 17 (bo ((a0.fMember != a1.fMember) || (a0.fMonth != a1.fMonth)))))
  (oc (op hN (.ptr 1002 2 [2]) (ov (.ptr 1002 2 [2]) (fp hN Try.underlying45 2 tyS3 (.box 45 (.d (e_api_Invoice a0))) (ot 2 (.ptr 1002 0 [])))) (OptL.keep rfl OptL.nil) (GuardV.plain _))
  (oc (op hN (i6 a0.fVersion) (lb hN 45 (.d (e_api_Invoice a0)) (i6 a0.fVersion) tyS3 (ad (.int .i64 a0.fVersion)) (ot 19 (.ptr 1002 2 [2]))) (OptL.opt OptL.nil) (GuardV.plain _))
  (oc (op hN (.ptr 1003 2 [2]) (ov (.ptr 1003 2 [2]) (fp hN Try.underlying45 2 tyS3 (.box 45 (.d (e_api_Invoice a1))) (ot 3 (.ptr 1003 0 [])))) (OptL.keep rfl OptL.nil) (GuardV.plain _))
  (oc (op hN (i6 a1.fVersion) (lb hN 45 (.d (e_api_Invoice a1)) (i6 a1.fVersion) tyS3 (ad (.int .i64 a1.fVersion)) (ot 21 (.ptr 1003 2 [2]))) (OptL.opt OptL.nil) (GuardV.plain _))
  (oc (op hN (bo (a0.fVersion != a1.fVersion)) (OpJ.neqI (ltN hN rfl) (ot 20 (i6 a0.fVersion)) (ot 22 (i6 a1.fVersion))) (OptL.opt (OptL.opt OptL.nil)) (GuardV.plain _))
  (oc (OpJ.pickOr rfl (ltN hN rfl) (ot 18 (bo ((a0.fMember != a1.fMember) || (a0.fMonth != a1.fMonth)))) (ot 23 (.opt (((a0.fMember != a1.fMember) || (a0.fMonth != a1.fMonth)) == false) (bo (a0.fVersion != a1.fVersion)))))
  (oc (mv hN (ot 24 (bo (((a0.fMember != a1.fMember) || (a0.fMonth != a1.fMonth)) || (a0.fVersion != a1.fVersion)))))
  (oc (op hN (.ptr 1002 4 [4]) (ov (.ptr 1002 4 [4]) (fp hN Try.underlying45 4 tyS3 (.box 45 (.d (e_api_Invoice a0))) (ot 2 (.ptr 1002 0 [])))) (OptL.keep rfl OptL.nil) (GuardV.plain _))
  (oc (op hN (i6 a0.fTotal) (lb hN 45 (.d (e_api_Invoice a0)) (i6 a0.fTotal) tyS3 (ad (.int .i64 a0.fTotal)) (ot 26 (.ptr 1002 4 [4]))) (OptL.opt OptL.nil) (GuardV.plain _))
  (oc (op hN (.ptr 1003 4 [4]) (ov (.ptr 1003 4 [4]) (fp hN Try.underlying45 4 tyS3 (.box 45 (.d (e_api_Invoice a1))) (ot 3 (.ptr 1003 0 [])))) (OptL.keep rfl OptL.nil) (GuardV.plain _))
  (oc (op hN (i6 a1.fTotal) (lb hN 45 (.d (e_api_Invoice a1)) (i6 a1.fTotal) tyS3 (ad (.int .i64 a1.fTotal)) (ot 28 (.ptr 1003 4 [4]))) (OptL.opt OptL.nil) (GuardV.plain _))
  (oc (op hN (bo (a0.fTotal != a1.fTotal)) (OpJ.neqI (ltN hN rfl) (ot 27 (i6 a0.fTotal)) (ot 29 (i6 a1.fTotal))) (OptL.opt (OptL.opt OptL.nil)) (GuardV.plain _))
  (oc (OpJ.pickOr rfl (ltN hN rfl) (ot 25 (bo (((a0.fMember != a1.fMember) || (a0.fMonth != a1.fMonth)) || (a0.fVersion != a1.fVersion)))) (ot 30 (.opt ((((a0.fMember != a1.fMember) || (a0.fMonth != a1.fMonth)) || (a0.fVersion != a1.fVersion)) == false) (bo (a0.fTotal != a1.fTotal)))))
  (oc (mv hN (ot 31 (bo ((((a0.fMember != a1.fMember) || (a0.fMonth != a1.fMonth)) || (a0.fVersion != a1.fVersion)) || (a0.fTotal != a1.fTotal)))))
  (oc (op hN (.ptr 1002 3 [3]) (ov (.ptr 1002 3 [3]) (fp hN Try.underlying45 3 tyS43 (.box 45 (.d (e_api_Invoice a0))) (ot 2 (.ptr 1002 0 [])))) (OptL.keep rfl OptL.nil) (GuardV.plain _))
  (oc (op hN (qe_api_Line_3 a0.fLines) (lb hN 45 (.d (e_api_Invoice a0)) (qe_api_Line_3 a0.fLines) tyS43 (ad (.list 3 (a0.fLines.map e_api_Line))) (ot 33 (.ptr 1002 3 [3]))) (OptL.opt OptL.nil) (GuardV.plain _))
  (oc (op hN (i6 (a0.fLines.length : Int)) (OpJ.val (v' := (i6 (a0.fLines.length : Int))) (by simp) (OpJ.lenD Try.underlying43 (ltN hN rfl) (ot 34 (qe_api_Line_3 a0.fLines)))) (OptL.opt OptL.nil) (GuardV.plain _))
  (oc (op hN (.ptr 1003 3 [3]) (ov (.ptr 1003 3 [3]) (fp hN Try.underlying45 3 tyS43 (.box 45 (.d (e_api_Invoice a1))) (ot 3 (.ptr 1003 0 [])))) (OptL.keep rfl OptL.nil) (GuardV.plain _))
  (oc (op hN (qe_api_Line_3 a1.fLines) (lb hN 45 (.d (e_api_Invoice a1)) (qe_api_Line_3 a1.fLines) tyS43 (ad (.list 3 (a1.fLines.map e_api_Line))) (ot 36 (.ptr 1003 3 [3]))) (OptL.opt OptL.nil) (GuardV.plain _))
  (oc (op hN (i6 (a1.fLines.length : Int)) (OpJ.val (v' := (i6 (a1.fLines.length : Int))) (by simp) (OpJ.lenD Try.underlying43 (ltN hN rfl) (ot 37 (qe_api_Line_3 a1.fLines)))) (OptL.opt OptL.nil) (GuardV.plain _))
  (oc (op hN (bo ((a0.fLines.length : Int) != (a1.fLines.length : Int))) (OpJ.neqI (ltN hN rfl) (ot 35 (i6 (a0.fLines.length : Int))) (ot 38 (i6 (a1.fLines.length : Int)))) (OptL.opt (OptL.opt OptL.nil)) (GuardV.plain _))
  (oc (OpJ.pickOr rfl (ltN hN rfl) (ot 32 (bo ((((a0.fMember != a1.fMember) || (a0.fMonth != a1.fMonth)) || (a0.fVersion != a1.fVersion)) || (a0.fTotal != a1.fTotal)))) (ot 39 (.opt (((((a0.fMember != a1.fMember) || (a0.fMonth != a1.fMonth)) || (a0.fVersion != a1.fVersion)) || (a0.fTotal != a1.fTotal)) == false) (bo ((a0.fLines.length : Int) != (a1.fLines.length : Int))))))
  (OpJs.nil)))))))))))))))))))))))))))))))))))) (by rfl) (by rfl) ?_
  refine seqQ_n ?_
  refine AWp.ghost (mp [] [(2, (.ptr 1002 0 [])), (3, (.ptr 1003 0 [])), (40, (bo (((((a0.fMember != a1.fMember) || (a0.fMonth != a1.fMonth)) || (a0.fVersion != a1.fVersion)) || (a0.fTotal != a1.fTotal)) || ((a0.fLines.length : Int) != (a1.fLines.length : Int)))))] [(1002, some (.box 45 (.d (e_api_Invoice a0)))), (1003, some (.box 45 (.d (e_api_Invoice a1))))] hB) ?_
  refine AWp.cond (b := (((((a0.fMember != a1.fMember) || (a0.fMonth != a1.fMonth)) || (a0.fVersion != a1.fVersion)) || (a0.fTotal != a1.fTotal)) || ((a0.fLines.length : Int) != (a1.fLines.length : Int)))) (by rfl) (fun hg1 => ?_) (fun hg1 => ?_)
  · replace h := ite_t hg1 h
    refine AWp.seq ?_
    refine AWp.region (oc (OpJ.assign (ltN hN rfl) (Opd.bool false))
      (OpJs.nil)) (by rfl) (by rfl) ?_
    refine seqQ_n ?_
    refine AWp.ghost (mp [] [(4, (bo false))] [] hB) ?_
    refine AWp.ret ?_
    refine seqQ_r ?_
    obtain rfl := Option.some.inj h
    exact ⟨.inl rfl, _, _, (mp [] [(4, (bo false))] [] hB), [(bo false)], (Res.tmp (by rfl) (by rfl) Res.nil), rfl, by rfl, by rfl, by rfl⟩
  · replace h := ite_f hg1 h
    refine AWp.skip ?_
    refine seqQ_n ?_
    refine AWp.seq ?_
    refine AWp.seq ?_
    refine AWp.region (oc (ov (.ptr 1002 3 [3]) (fp hN Try.underlying45 3 tyS43 (.box 45 (.d (e_api_Invoice a0))) (ot 2 (.ptr 1002 0 []))))
      (oc (lb hN 45 (.d (e_api_Invoice a0)) (qe_api_Line_3 a0.fLines) tyS43 (ad (.list 3 (a0.fLines.map e_api_Line))) (ot 41 (.ptr 1002 3 [3])))
      (oc (OpJ.val (v' := (i6 (a0.fLines.length : Int))) (by simp) (OpJ.lenD Try.underlying43 (ltN hN rfl) (ot 42 (qe_api_Line_3 a0.fLines))))
      (oc (mv hN (Opd.int .i64 (0)))
      (OpJs.nil))))) (by rfl) (by rfl) ?_
    refine seqQ_n ?_
    refine AWp.ghost (mp [] [(2, (.ptr 1002 0 [])), (3, (.ptr 1003 0 [])), (43, (i6 (a0.fLines.length : Int))), (44, (i6 0))] [(1002, some (.box 45 (.d (e_api_Invoice a0)))), (1003, some (.box 45 (.d (e_api_Invoice a1))))] hB) ?_
    refine AWp.block ?_
    obtain ⟨x17, hx18, h⟩ := bindS h
    refine AWp.ghost (mp [] ((fun s2 : Int => ([(2, (.ptr 1002 0 [])), (3, (.ptr 1003 0 [])), (43, (i6 (a0.fLines.length : Int))), (44, (i6 s2))] : EL)) (0 : Int)) ((fun s2 : Int => ([(1002, some (.box 45 (.d (e_api_Invoice a0)))), (1003, some (.box 45 (.d (e_api_Invoice a1))))] : OL)) (0 : Int)) hB) ?_
    refine AWp.loopS (exchangepointref41_Same_L0 a0 a1) (fun s2 : Int => ([(2, (.ptr 1002 0 [])), (3, (.ptr 1003 0 [])), (43, (i6 (a0.fLines.length : Int))), (44, (i6 s2))] : EL)) (fun s2 : Int => ([(1002, some (.box 45 (.d (e_api_Invoice a0)))), (1003, some (.box 45 (.d (e_api_Invoice a1))))] : OL)) (fun (x : (Unit) ⊕ (Unit)) e E' O' => match x with | (.inl _p) => e = .ret ∧ Mat B E' O' ([(4, (bo false))] : EL) ([] : OL) | (.inr _p) => e = .exit 0 ∧ Mat B E' O' ([] : EL) ([] : OL)) hx18 (fun s2 y h => ?_) (fun e E' O' hR => ?_)
    · unfold exchangepointref41_Same_L0 at h
      show AWp _ _ _ _ ([(2, (.ptr 1002 0 [])), (3, (.ptr 1003 0 [])), (43, (i6 (a0.fLines.length : Int))), (44, (i6 s2))] : EL) ([(1002, some (.box 45 (.d (e_api_Invoice a0)))), (1003, some (.box 45 (.d (e_api_Invoice a1))))] : OL)
      refine AWp.seq ?_
      refine AWp.region (oc (OpJ.lss (ltN hN rfl) (ot 44 (i6 s2)) (ot 43 (i6 (a0.fLines.length : Int))))
        (OpJs.nil)) (by rfl) (by rfl) ?_
      refine seqQ_n ?_
      refine AWp.ghost (mp [] [(2, (.ptr 1002 0 [])), (3, (.ptr 1003 0 [])), (43, (i6 (a0.fLines.length : Int))), (44, (i6 s2)), (45, (bo (decide (s2 < (a0.fLines.length : Int)))))] [(1002, some (.box 45 (.d (e_api_Invoice a0)))), (1003, some (.box 45 (.d (e_api_Invoice a1))))] hB) ?_
      refine AWp.seq ?_
      refine AWp.cond (b := (decide (s2 < (a0.fLines.length : Int)))) (by rfl) (fun hg13 => ?_) (fun hg13 => ?_)
      · replace h := ite_t hg13 h
        refine AWp.skip ?_
        refine seqQ_n ?_
        refine AWp.seq ?_
        refine AWp.block ?_
        refine AWp.seq ?_
        refine AWp.region (oc (mv hN (ot 44 (i6 s2)))
          (oc (OpJ.assign (ltN hN rfl) (ot 46 (i6 s2)))
          (OpJs.nil))) (by rfl) (by rfl) ?_
        refine seqQ_n ?_
        refine AWp.ghost (mp [] [(2, (.ptr 1002 0 [])), (3, (.ptr 1003 0 [])), (5, (i6 s2)), (43, (i6 (a0.fLines.length : Int))), (44, (i6 s2))] [(1002, some (.box 45 (.d (e_api_Invoice a0)))), (1003, some (.box 45 (.d (e_api_Invoice a1))))] hB) ?_
        refine AWp.seq ?_
        obtain ⟨x14, hx14, h⟩ := bindS h
        obtain ⟨x15, hx15, h⟩ := bindS h
        refine AWp.draws (by kernel_rfl) (oc (ov (.ptr 1002 3 [3]) (fp hN Try.underlying45 3 tyS43 (.box 45 (.d (e_api_Invoice a0))) (ot 2 (.ptr 1002 0 []))))
          (oc (lb hN 45 (.d (e_api_Invoice a0)) (qe_api_Line_3 a0.fLines) tyS43 (ad (.list 3 (a0.fLines.map e_api_Line))) (ot 47 (.ptr 1002 3 [3])))
          (oc (mv hN (ot 5 (i6 s2)))
          (oc (OpJ.indexD (el := (e_api_Line x14)) Try.underlying43 tyS51 (idx_some hx14).1 (get_map e_api_Line (idx_some hx14).2) (ltN hN rfl) (ot 48 (qe_api_Line_3 a0.fLines)) (ot 49 (i6 s2)))
          (oc (OpJ.loadD tyS51 (by rfl) (by rfl) (ltN hN rfl) (ot 50 (.dptr (e_api_Line x14))))
          (oc (ov (.ptr 1003 3 [3]) (fp hN Try.underlying45 3 tyS43 (.box 45 (.d (e_api_Invoice a1))) (ot 3 (.ptr 1003 0 []))))
          (oc (lb hN 45 (.d (e_api_Invoice a1)) (qe_api_Line_3 a1.fLines) tyS43 (ad (.list 3 (a1.fLines.map e_api_Line))) (ot 52 (.ptr 1003 3 [3])))
          (oc (mv hN (ot 5 (i6 s2)))
          (oc (OpJ.indexD (el := (e_api_Line x15)) Try.underlying43 tyS51 (idx_some hx15).1 (get_map e_api_Line (idx_some hx15).2) (ltN hN rfl) (ot 53 (qe_api_Line_3 a1.fLines)) (ot 54 (i6 s2)))
          (oc (OpJ.loadD tyS51 (by rfl) (by rfl) (ltN hN rfl) (ot 55 (.dptr (e_api_Line x15))))
          (oc (OpJ.neqD (h := 2) (FitE.st Try.underlying51 rfl held51 (FitF.cons (x := (.int .i64 x14.fPort)) (y := (.int .i64 x15.fPort)) (by decide) rfl tyS3 ⟨rfl, rfl⟩ ⟨rfl, rfl⟩ (FitE.int (h := 0) x14.fPort x15.fPort Try.underlying3) (FitF.cons (x := (.int .i64 x14.fUsed)) (y := (.int .i64 x15.fUsed)) (by decide) rfl tyS3 ⟨rfl, rfl⟩ ⟨rfl, rfl⟩ (FitE.int (h := 0) x14.fUsed x15.fUsed Try.underlying3) (FitF.cons (x := (.int .i64 x14.fAmount)) (y := (.int .i64 x15.fAmount)) (by decide) rfl tyS3 ⟨rfl, rfl⟩ ⟨rfl, rfl⟩ (FitE.int (h := 0) x14.fAmount x15.fAmount Try.underlying3) FitF.nil)))) eqg51 ⟨rfl, rfl⟩ (by rfl) (ltN hN rfl) (ot 51 (.d (e_api_Line x14))) (ot 56 (.d (e_api_Line x15))))
          (OpJs.nil)))))))))))) (by kernel_rfl) (by rfl) (by rfl) ?_
        refine seqQ_n ?_
        refine AWp.ghost (mp [] [(2, (.ptr 1002 0 [])), (3, (.ptr 1003 0 [])), (43, (i6 (a0.fLines.length : Int))), (44, (i6 s2)), (57, (bo (!((x14.fPort == x15.fPort) && ((x14.fUsed == x15.fUsed) && ((x14.fAmount == x15.fAmount) && true))))))] [(1002, some (.box 45 (.d (e_api_Invoice a0)))), (1003, some (.box 45 (.d (e_api_Invoice a1))))] hB) ?_
        refine AWp.cond (b := (!((x14.fPort == x15.fPort) && ((x14.fUsed == x15.fUsed) && ((x14.fAmount == x15.fAmount) && true))))) (by rfl) (fun hg16 => ?_) (fun hg16 => ?_)
        · replace h := ite_t hg16 h
          refine AWp.seq ?_
          refine AWp.region (oc (OpJ.assign (ltN hN rfl) (Opd.bool false))
            (OpJs.nil)) (by rfl) (by rfl) ?_
          refine seqQ_n ?_
          refine AWp.ghost (mp [] [(4, (bo false))] [] hB) ?_
          refine AWp.ret ?_
          refine blkQ_r ?_
          refine seqQ_r ?_
          obtain rfl := Option.some.inj h
          exact ⟨(fun hc => by cases hc), rfl, (mp [] ((fun _ : Unit => ([(4, (bo false))] : EL)) ()) ((fun _ : Unit => ([] : OL)) ()) hB)⟩
        · replace h := ite_f hg16 h
          refine AWp.skip ?_
          refine blkQ_n ?_
          refine seqQ_n ?_
          refine AWp.region (oc (OpJ.add (ltN hN rfl) (ot 44 (i6 s2)) (Opd.int .i64 (1)))
            (oc (mv hN (ot 58 (i6 (w64 (s2 + (1 : Int))))))
            (OpJs.nil))) (by rfl) (by rfl) ?_
          obtain rfl := Option.some.inj h
          exact ⟨rfl, (Mat.trans (mp [] [(2, (.ptr 1002 0 [])), (3, (.ptr 1003 0 [])), (43, (i6 (a0.fLines.length : Int))), (44, (i6 (w64 (s2 + (1 : Int)))))] [(1002, some (.box 45 (.d (e_api_Invoice a0)))), (1003, some (.box 45 (.d (e_api_Invoice a1))))] hB) (mp [] ((fun s2 : Int => ([(2, (.ptr 1002 0 [])), (3, (.ptr 1003 0 [])), (43, (i6 (a0.fLines.length : Int))), (44, (i6 s2))] : EL)) (w64 (s2 + (1 : Int)))) ((fun s2 : Int => ([(1002, some (.box 45 (.d (e_api_Invoice a0)))), (1003, some (.box 45 (.d (e_api_Invoice a1))))] : OL)) (w64 (s2 + (1 : Int)))) hB))⟩
      · replace h := ite_f hg13 h
        refine AWp.exit ?_
        refine seqQ_e ?_
        obtain rfl := Option.some.inj h
        exact ⟨(fun hc => by cases hc), rfl, (mp [] ((fun _ : Unit => ([] : EL)) ()) ((fun _ : Unit => ([] : OL)) ()) hB)⟩
    · rcases x17 with _ | _
      · obtain ⟨rfl, hmat⟩ := hR
        refine blkQ_r ?_
        refine seqQ_r ?_
        obtain rfl := Option.some.inj h
        exact ⟨.inl rfl, _, _, (Mat.trans hmat (mp [] [(4, (bo false))] [] hB)), [(bo false)], (Res.tmp (by rfl) (by rfl) Res.nil), rfl, by rfl, by rfl, by rfl⟩
      · obtain ⟨rfl, hmat⟩ := hR
        refine blkQ_hit ?_
        refine seqQ_n ?_
        refine AWp.ghost hmat ?_
        refine AWp.seq ?_
        refine AWp.region (oc (OpJ.assign (ltN hN rfl) (Opd.bool true))
          (OpJs.nil)) (by rfl) (by rfl) ?_
        refine seqQ_n ?_
        refine AWp.ghost (mp [] [(4, (bo true))] [] hB) ?_
        refine AWp.ret ?_
        obtain rfl := Option.some.inj h
        exact ⟨.inl rfl, _, _, (mp [] [(4, (bo true))] [] hB), [(bo true)], (Res.tmp (by rfl) (by rfl) Res.nil), rfl, by rfl, by rfl, by rfl⟩


end Go.Proofs.Ytimcphncaffenaa
