/- Printed by gen.py: the Go functions as plain functions, and that the code does what they say. -/
import Derived.Test.YtgcilleccigmdaaDoorChecked
import Derived.Test.YtgcilleccigmdaaDoorVcYB
import Derived.Test.YtgcilleccigmdaaDoorVcZ
import Derived.KernelRfl
import Derived.Test.YtgcilleccigmdaaDoorVcMD
import Derived.Test.YtgcilleccigmdaaDoorVcMQ
import Derived.Test.YtgcilleccigmdaaDoorVcSG
import Derived.Test.YtgcilleccigmdaaDoorFnsB
import Derived.Test.YtgcilleccigmdaaDoorExt
import Derived.Test.YtgcilleccigmdaaDoorVcGl
import Derived.Test.YtgcilleccigmdaaDoorVcSO
namespace Go.Proofs.YtgcilleccigmdaaDoor
open Go Go.Vc
noncomputable def resource_Prefixes_L1 (x76 : api_Range) (s77 : Bool × api_Addr × (List api_Prefix)) : Option ((((List api_Prefix))) ⊕ (Bool × api_Addr × (List api_Prefix))) :=
  jn (fun m98 : Bool =>
  (if m98 = true then
  (resource_largest s77.2.1 x76.fTo).bind fun r101 =>
  chk (decide ((s77.2.2 ++ ([r101] : List api_Prefix)).length ≤ LIM)) <|
  (prefix_Last r101).bind fun r103 =>
  (addr_Next r103).bind fun r104 =>
  some (.inr (r104.2, r104.1, (s77.2.2 ++ ([r101] : List api_Prefix))))
  else
  some (.inl s77.2.2))) (fun j99 =>
  (if s77.1 = true then
  (addr_Cmp s77.2.1 x76.fTo).bind fun r106 =>
  j99 (decide (r106 ≤ (0 : Int)))
  else
  j99 false))
noncomputable def resource_Prefixes_L0 (a0 : api_Resources) (s3 : Int × (List api_Prefix)) : Option ((((List api_Prefix))) ⊕ (Int × (List api_Prefix))) :=
  (if (decide (s3.1 < (a0.fAddrs.length : Int))) = true then
  (idx a0.fAddrs s3.1).bind fun x76 =>
  (loop (resource_Prefixes_L1 x76) (true, x76.fFrom, s3.2)).bind fun p95 =>
  some (.inr ((w64 (s3.1 + (1 : Int))), p95))
  else
  some (.inl s3.2))
noncomputable def resource_Prefixes (a0 : api_Resources) : Option ((List api_Prefix)) :=
  (resource_Valid a0).bind fun r1 =>
  (if (!r1) = true then
  some ([] : List api_Prefix)
  else
  (loop (resource_Prefixes_L0 a0) ((0 : Int), ([] : List api_Prefix))).bind fun p74 =>
  some p74)
set_option maxHeartbeats 4000000 in
set_option maxRecDepth 100000 in
theorem resource_Prefixes_ac (a0 : api_Resources) (r : (List api_Prefix)) (h : resource_Prefixes a0 = some r) : AC Tryd.prog 11 [(.d (e_api_Resources a0))] [(500, (.know (globF 0 [35, 37, 137]))), (501, (.know (globF 1 [70, 138, 139])))] (.d (.list 4 (r.map e_api_Prefix))) [(500, some (.know (globF 0 [35, 37, 137]))), (501, some (.know (globF 1 [70, 138, 139])))] := by
  refine AC.of_code2 Tryd.func11 rfl rfl (Nat.le_of_ble_eq_true (by rfl)) fun B hB hN => ?_
  have L {d : Nat} (h : Nat.blt d Tryd.f11.ntmps = true) : d < B.N := ltN hN h
  delta resource_Prefixes at h
  refine sr (cg (OpJ.box hB (nm := 1001) (by decide) (by simp) rfl (L rfl) (q 0)) rfl (c (OpJ.assign (L rfl) Opd.nils) rfl cn)) ?_
  refine gh [(1, _)] [(500, some _), (501, some _), (1001, some _)] hB rfl rfl (by rfl) ?_
  refine sr (c (OpJ.assign (L rfl) Opd.nils) rfl cn) ?_
  refine gh [(1, _), (3, _)] [(500, some _), (501, some _), (1001, some _)] hB rfl rfl (by rfl) ?_
  refine AWp.seq ?_
  refine AWp.seq ?_
  obtain ⟨r1, hr1, h⟩ := bindS h
  refine AWp.region (oc (lb hN 28 (.d (e_api_Resources a0)) (.d (e_api_Resources a0)) tyS28 (At.here _) (ot 1 (.ptr 1001 0 [])))
  (oc (OpJ.callFn hB fnOk20 (resource_Valid_ac a0 r1 hr1) [(500, 500), (501, 501)] (by kernel_rfl) (L rfl) (by kernel_rfl) (OpdL.cons (ot 9 (.d (e_api_Resources a0))) OpdL.nil))
  (oc (OpJ.not (L rfl) (ot 10 (bo r1)))
  (OpJs.nil)))) (by rfl) (by rfl) ?_
  refine seqQ_n ?_
  refine AWp.ghost (mp [] [(1, (.ptr 1001 0 [])), (3, .nils), (11, (bo (!r1)))] [(500, some (.know (globF 0 [35, 37, 137]))), (501, some (.know (globF 1 [70, 138, 139]))), (1001, some (.box 28 (.d (e_api_Resources a0))))] hB) ?_
  refine AWp.cond rfl (fun hg2 => ?_) (fun hg2 => ?_)
  · replace h := ite_t hg2 h
    refine sr (c (OpJ.assign (L rfl) Opd.nils) rfl cn) ?_
    refine gh [(2, _)] [(500, some _), (501, some _)] hB rfl rfl (by rfl) ?_
    refine AWp.ret ?_
    refine seqQ_r ?_
    obtain rfl := Option.some.inj h
    exact ⟨.inl rfl, _, _, (Mat.trans (Mat.coeP (Ts := [(2, (qe_api_Prefix_4 ([] : List api_Prefix)))]) (Bs := []) (TwT.cons (x := .nils) (by rfl) (Tw.leaf ⟨_, (Co.nils 4), rfl⟩) TwT.nil) TwB.nil) (mp [] [(2, (qe_api_Prefix_4 ([] : List api_Prefix)))] [(500, some (.know (globF 0 [35, 37, 137]))), (501, some (.know (globF 1 [70, 138, 139])))] hB)), [(qe_api_Prefix_4 ([] : List api_Prefix))], (Res.tmp (by rfl) (by rfl) Res.nil), rfl, by rfl, by rfl, by rfl⟩
  · replace h := ite_f hg2 h
    refine AWp.skip ?_
    refine seqQ_n ?_
    refine AWp.seq ?_
    refine sr (c (ov (.ptr 1001 0 [0]) (fp hN Tryd.underlying28 0 tyS25 _ (q 1))) rfl (c (lb hN 28 _ _ tyS25 (ad _) (q 12)) rfl (c (OpJ.val (v' := (i6 (a0.fAddrs.length : Int))) (by simp) (OpJ.lenD Tryd.underlying25 (L rfl) (q 13))) rfl (c (mv hN (Opd.int .i64 (0))) rfl cn)))) ?_
    refine gh [(3, _), (13, _), (14, _), (15, _)] [(500, some _), (501, some _)] hB rfl rfl (by rfl) ?_
    refine AWp.block ?_
    obtain ⟨p74, hx110, h⟩ := bindS h
    refine lg (resource_Prefixes_L0 a0) (fun s3 : Int × (List api_Prefix) => ([(3, (.sref 3003 4 0 s3.2.length)), (13, (qe_api_Range_6 a0.fAddrs)), (14, (i6 (a0.fAddrs.length : Int))), (15, (i6 s3.1))] : EL)) (fun s3 : Int × (List api_Prefix) => ([(500, some (.know (globF 0 [35, 37, 137]))), (501, some (.know (globF 1 [70, 138, 139]))), (3003, some (we_api_Prefix_34_4 s3.2))] : OL)) (fun (p74 : ((List api_Prefix))) e E' O' => e = .exit 0 ∧ Mat B E' O' ([(3, (.sref 3003 4 0 p74.length))] : EL) ([(500, some (.know (globF 0 [35, 37, 137]))), (501, some (.know (globF 1 [70, 138, 139]))), (3003, some (we_api_Prefix_34_4 p74))] : OL)) hx110 (Mat.trans (Mat.beginP (n := 3003) (e := 34) (sz := 4) (Ts := [(3, (.sref 3003 4 0 0))]) (Bs := []) hB (by decide) (by rfl) (by decide) (TwT.cons (x := .nils) (by rfl) (Tw.leaf ⟨rfl, rfl⟩) TwT.nil) TwB.nil) (mp [] _ _ hB)) (fun s3 y h => ?_) (fun e E' O' hR => ?_)
    · unfold resource_Prefixes_L0 at h
      refine sr (c (OpJ.lss (L rfl) (q 15) (q 14)) rfl cn) ?_
      refine gh [(3, _), (13, _), (14, _), (15, _), (16, _)] [(500, some _), (501, some _), (3003, some _)] hB rfl rfl (by rfl) ?_
      refine AWp.seq ?_
      refine AWp.cond rfl (fun hg75 => ?_) (fun hg75 => ?_)
      · replace h := ite_t hg75 h
        refine AWp.skip ?_
        refine seqQ_n ?_
        refine AWp.seq ?_
        refine AWp.block ?_
        obtain ⟨x76, hx76, h⟩ := bindS h
        refine sr (c (OpJ.indexD Tryd.underlying25 tyS68 (idx_some hx76).1 (get_map e_api_Range (idx_some hx76).2) (L rfl) (q 13) (q 15)) rfl (c (OpJ.loadD tyS68 (by rfl) (by rfl) (L rfl) (q 17)) rfl (cg (OpJ.alloc hB tyZ68 (nm := 1005) (by decide) (L rfl)) rfl (cg (OpJ.storeB tyS68 (SetAt.here _ _) (by rfl) (by rfl) (by simp) rfl (q 5) (q 18)) rfl cn)))) ?_
        refine gh [(3, _), (5, _), (13, _), (14, _), (15, _)] [(500, some _), (501, some _), (1005, some _), (3003, some _)] hB rfl rfl (by rfl) ?_
        refine sr (c (ov (.ptr 1005 0 [0]) (fp hN Tryd.underlying68 0 tyS32 _ (q 5))) rfl (c (lb hN 68 _ _ tyS32 (ad _) (q 19)) rfl (cg (OpJ.alloc hB tyZ32 (nm := 1006) (by decide) (L rfl)) rfl (cg (OpJ.storeB tyS32 (SetAt.here _ _) (by rfl) (by rfl) (by simp) rfl (q 6) (q 20)) rfl (c (OpJ.assign (L rfl) (Opd.bool true)) rfl cn))))) ?_
        refine gh [(3, _), (5, _), (6, _), (7, _), (13, _), (14, _), (15, _)] [(500, some _), (501, some _), (1005, some _), (1006, some _), (3003, some _)] hB rfl rfl (by rfl) ?_
        refine AWp.block ?_
        obtain ⟨p95, hx108, h⟩ := bindS h
        refine lg (resource_Prefixes_L1 x76) (fun s77 : Bool × api_Addr × (List api_Prefix) => ([(3, (.sref 3003 4 0 s77.2.2.length)), (5, (.ptr 1005 0 [])), (6, (.ptr 1006 0 [])), (7, (bo s77.1)), (13, (qe_api_Range_6 a0.fAddrs)), (14, (i6 (a0.fAddrs.length : Int))), (15, (i6 s3.1))] : EL)) (fun s77 : Bool × api_Addr × (List api_Prefix) => ([(500, some (.know (globF 0 [35, 37, 137]))), (501, some (.know (globF 1 [70, 138, 139]))), (1005, some (.box 68 (.d (e_api_Range x76)))), (1006, some (.box 32 (.d (e_api_Addr s77.2.1)))), (3003, some (we_api_Prefix_34_4 s77.2.2))] : OL)) (fun (p95 : ((List api_Prefix))) e E' O' => e = .exit 2 ∧ Mat B E' O' ([(3, (.sref 3003 4 0 p95.length)), (13, (qe_api_Range_6 a0.fAddrs)), (14, (i6 (a0.fAddrs.length : Int))), (15, (i6 s3.1))] : EL) ([(500, some (.know (globF 0 [35, 37, 137]))), (501, some (.know (globF 1 [70, 138, 139]))), (3003, some (we_api_Prefix_34_4 p95))] : OL)) hx108 (mp [] _ _ hB) (fun s77 y h => ?_) (fun e E' O' hR => ?_)
        · unfold resource_Prefixes_L1 at h
          refine AWp.seq ?_
          refine AWp.seq ?_
          refine AWp.cut h (fun m98 : Bool => ([(3, (.sref 3003 4 0 s77.2.2.length)), (5, (.ptr 1005 0 [])), (6, (.ptr 1006 0 [])), (13, (qe_api_Range_6 a0.fAddrs)), (14, (i6 (a0.fAddrs.length : Int))), (15, (i6 s3.1)), (28, (bo m98))] : EL)) (fun m98 : Bool => ([(500, some (.know (globF 0 [35, 37, 137]))), (501, some (.know (globF 1 [70, 138, 139]))), (1005, some (.box 68 (.d (e_api_Range x76)))), (1006, some (.box 32 (.d (e_api_Addr s77.2.1)))), (3003, some (we_api_Prefix_34_4 s77.2.2))] : OL)) (fun m98 h E' O' hmat => ?_) (fun j99 hjj99 h => ?_)
          · refine seqQ_n ?_
            refine AWp.ghost hmat ?_
            refine AWp.cond rfl (fun hg100 => ?_) (fun hg100 => ?_)
            · replace h := ite_t hg100 h
              refine AWp.skip ?_
              refine seqQ_n ?_
              refine AWp.seq ?_
              refine AWp.block ?_
              obtain ⟨r101, hr101, h⟩ := bindS h
              refine sr (c (lb hN 32 _ _ tyS32 (At.here _) (q 6)) rfl (c (ov (.ptr 1005 3 [1]) (fp hN Tryd.underlying68 3 tyS32 _ (q 5))) rfl (c (lb hN 68 _ _ tyS32 (ad _) (q 30)) rfl (cg (OpJ.callFn hB fnOk36 (resource_largest_ac s77.2.1 x76.fTo r101 hr101) [] (by kernel_rfl) (L rfl) (by kernel_rfl) (OpdL.cons (q 29) (OpdL.cons (q 31) OpdL.nil))) rfl (cg (OpJ.alloc hB tyZ34 (nm := 1008) (by decide) (L rfl)) rfl (cg (OpJ.storeB tyS34 (SetAt.here _ _) (by rfl) (by rfl) (by simp) rfl (q 8) (q 32)) rfl cn)))))) ?_
              refine gh [(3, _), (5, _), (6, _), (8, _), (13, _), (14, _), (15, _)] [(500, some _), (501, some _), (1005, some _), (1006, some _), (1008, some _), (3003, some _)] hB rfl rfl (by rfl) ?_
              obtain ⟨hc102, h⟩ := chk_some h
              refine sr (c (mv hN (q 3)) rfl (c (lb hN 34 _ _ tyS34 (At.here _) (q 8)) rfl (c (OpJ.buildSlice Tryd.underlying36 tyS34 tyZD34 (by rfl) (by decide) (by decide) (Opds.cons (q 34) Opds.nil) (by kernel_rfl) (es := ([(e_api_Prefix r101)] : List D)) (by rfl) (by rfl) (by kernel_rfl) (by simp) (L rfl)) rfl (cg (OpJ.append hB Tryd.underlying36 tyE34 (nm := 1036) (by decide) (es := s77.2.2.map e_api_Prefix) (ys := ([r101] : List api_Prefix).map e_api_Prefix) (es' := (s77.2.2 ++ ([r101] : List api_Prefix)).map e_api_Prefix) (len := (s77.2.2 ++ ([r101] : List api_Prefix)).length) (by simp) (by simp) (map_sz (f := e_api_Prefix) (fun _ => rfl)) (by rw [List.length_map]; exact lim_mulN hc102 (by decide)) (by rw [List.length_map]; exact lim_leN hc102) (L rfl) (by simp) (q 33) (q 35)) rfl (c (OpJ.assign (L rfl) (q 36)) rfl cn))))) ?_
              refine gh [(3, _), (5, _), (6, _), (8, _), (13, _), (14, _), (15, _)] [(500, some _), (501, some _), (1005, some _), (1006, some _), (1008, some _), (1036, some _)] hB rfl rfl (by rfl) ?_
              obtain ⟨r103, hr103, h⟩ := bindS h
              obtain ⟨r104, hr104, h⟩ := bindS h
              refine rg (c (lb hN 34 _ _ tyS34 (At.here _) (q 8)) rfl (cg (OpJ.callFn hB fnOk38 (prefix_Last_ac r101 r103 hr103) [] (by kernel_rfl) (L rfl) (by kernel_rfl) (OpdL.cons (q 38) OpdL.nil)) rfl (cg (OpJ.callFn hB fnOk37 (addr_Next_ac r103 r104 hr104) [] (by kernel_rfl) (L rfl) (by kernel_rfl) (OpdL.cons (q 39) OpdL.nil)) rfl (c (mv hN (q 40)) rfl (c (OpJ.extract (by rfl) rfl (L rfl) (q 37)) rfl (c (OpJ.extract (by rfl) rfl (L rfl) (q 37)) rfl (cg (OpJ.storeB tyS32 (SetAt.here _ _) (by rfl) (by rfl) (by simp) rfl (q 6) (q 41)) rfl (c (OpJ.assign (L rfl) (q 42)) rfl cn)))))))) ?_
              refine blkQ_n ?_
              refine seqQ_n ?_
              refine gh [(3, _), (5, _), (6, _), (7, _), (13, _), (14, _), (15, _)] [(500, some _), (501, some _), (1005, some _), (1006, some _), (1036, some _)] hB rfl rfl (by rfl) ?_
              refine sr (c (lb hN 32 _ _ tyS32 (At.here _) (q 6)) rfl cn) ?_
              refine gh [(3, _), (5, _), (7, _), (13, _), (14, _), (15, _), (43, _)] [(500, some _), (501, some _), (1005, some _), (1036, some _)] hB rfl rfl (by rfl) ?_
              refine rg (cg (OpJ.alloc hB tyZ32 (nm := 1006) (by decide) (L rfl)) rfl (cg (OpJ.storeB tyS32 (SetAt.here _ _) (by rfl) (by rfl) (by simp) rfl (q 6) (q 43)) rfl cn)) ?_
              obtain rfl := Option.some.inj h
              exact ⟨rfl, (Mat.trans (mp [] [(3, (.sref 1036 4 0 ((s77.2.2 ++ ([r101] : List api_Prefix)).length))), (5, (.ptr 1005 0 [])), (6, (.ptr 1006 0 [])), (7, (bo r104.2)), (13, (qe_api_Range_6 a0.fAddrs)), (14, (i6 (a0.fAddrs.length : Int))), (15, (i6 s3.1))] [(500, some (.know (globF 0 [35, 37, 137]))), (501, some (.know (globF 1 [70, 138, 139]))), (1005, some (.box 68 (.d (e_api_Range x76)))), (1006, some (.box 32 (.d (e_api_Addr r104.1)))), (1036, some (we_api_Prefix_34_4 (s77.2.2 ++ ([r101] : List api_Prefix))))] hB) (mp [(3003, 1036)] _ _ hB))⟩
            · replace h := ite_f hg100 h
              refine AWp.exit ?_
              refine seqQ_e ?_
              obtain rfl := Option.some.inj h
              exact ⟨(fun hc => by cases hc), rfl, (mp [] _ _ hB)⟩
          · rcases Bool.eq_false_or_eq_true s77.1 with hg105 | hg105
            · replace h := ite_t hg105 h
              obtain ⟨r106, hr106, h⟩ := bindS h
              refine rg (c (mv hN (q 7)) rfl (c (OpJ.val (v' := .d (.bool true)) (by rw [hg105] <;> rfl) (mv hN (q 21))) rfl (c (OpJ.guarded (g := 22) (by rfl) (lb hN 32 _ _ tyS32 (At.here _) (q 6))) rfl (c (OpJ.guarded (g := 22) (by rfl) (ov (.ptr 1005 3 [1]) (fp hN Tryd.underlying68 3 tyS32 _ (q 5)))) rfl (c (OpJ.guarded (g := 22) (by rfl) (lb hN 68 _ _ tyS32 (ad _) (q 24))) rfl (cg (OpJ.guarded (g := 22) (by rfl) (OpJ.callFn hB fnOk35 (addr_Cmp_ac s77.2.1 x76.fTo r106 hr106) [] (by kernel_rfl) (L rfl) (by kernel_rfl) (OpdL.cons (q 23) (OpdL.cons (q 25) OpdL.nil)))) rfl (c (OpJ.guarded (g := 22) (by rfl) (OpJ.leq (L rfl) (q 26) (Opd.int .i64 (0)))) rfl (c (OpJ.pickT (L rfl) (q 22) (q 27)) rfl cn)))))))) ?_
              exact hjj99 _ h _ _ (Mat.trans (mp [] [(3, (.sref 3003 4 0 s77.2.2.length)), (5, (.ptr 1005 0 [])), (6, (.ptr 1006 0 [])), (13, (qe_api_Range_6 a0.fAddrs)), (14, (i6 (a0.fAddrs.length : Int))), (15, (i6 s3.1)), (28, (bo (decide (r106 ≤ (0 : Int)))))] [(500, some (.know (globF 0 [35, 37, 137]))), (501, some (.know (globF 1 [70, 138, 139]))), (1005, some (.box 68 (.d (e_api_Range x76)))), (1006, some (.box 32 (.d (e_api_Addr s77.2.1)))), (3003, some (we_api_Prefix_34_4 s77.2.2))] hB) (mp [] _ _ hB))
            · replace h := ite_f hg105 h
              refine rg (c (mv hN (q 7)) rfl (c (OpJ.val (v' := .d (.bool false)) (by rw [hg105] <;> rfl) (mv hN (q 21))) rfl (cg (OpJ.skipU (g := 22) (L rfl) (by rfl)) rfl (cg (OpJ.skipU (g := 22) (L rfl) (by rfl)) rfl (cg (OpJ.skipU (g := 22) (L rfl) (by rfl)) rfl (cg (OpJ.skipU (g := 22) (L rfl) (by rfl)) rfl (cg (OpJ.skipU (g := 22) (L rfl) (by rfl)) rfl (c (OpJ.pickF (L rfl) (q 22) (Opd.bool false)) rfl cn)))))))) ?_
              exact hjj99 _ h _ _ (Mat.trans (mp [] [(3, (.sref 3003 4 0 s77.2.2.length)), (5, (.ptr 1005 0 [])), (6, (.ptr 1006 0 [])), (13, (qe_api_Range_6 a0.fAddrs)), (14, (i6 (a0.fAddrs.length : Int))), (15, (i6 s3.1)), (28, (bo false))] [(500, some (.know (globF 0 [35, 37, 137]))), (501, some (.know (globF 1 [70, 138, 139]))), (1005, some (.box 68 (.d (e_api_Range x76)))), (1006, some (.box 32 (.d (e_api_Addr s77.2.1)))), (3003, some (we_api_Prefix_34_4 s77.2.2))] hB) (mp [] _ _ hB))
        · obtain ⟨rfl, hmat⟩ := hR
          refine blkQ_hit ?_
          refine blkQ_n ?_
          refine seqQ_n ?_
          refine AWp.ghost hmat ?_
          refine rg (c (add6 (L rfl) (q 15) (Opd.int .i64 (1))) rfl (c (mv hN (q 44)) rfl cn)) ?_
          obtain rfl := Option.some.inj h
          exact ⟨rfl, (Mat.trans (mp [] [(3, (.sref 3003 4 0 p95.length)), (13, (qe_api_Range_6 a0.fAddrs)), (14, (i6 (a0.fAddrs.length : Int))), (15, (i6 (w64 (s3.1 + (1 : Int)))))] [(500, some (.know (globF 0 [35, 37, 137]))), (501, some (.know (globF 1 [70, 138, 139]))), (3003, some (we_api_Prefix_34_4 p95))] hB) (mp [] _ _ hB))⟩
      · replace h := ite_f hg75 h
        refine AWp.exit ?_
        refine seqQ_e ?_
        obtain rfl := Option.some.inj h
        exact ⟨(fun hc => by cases hc), rfl, (mp [] _ _ hB)⟩
    · obtain ⟨rfl, hmat⟩ := hR
      refine blkQ_hit ?_
      refine seqQ_n ?_
      refine AWp.ghost hmat ?_
      refine sr (c (mv hN (q 3)) rfl (c (OpJ.assign (L rfl) (q 45)) rfl cn)) ?_
      refine gh [(2, _)] [(500, some _), (501, some _), (3003, some _)] hB rfl rfl (by rfl) ?_
      refine AWp.ret ?_
      obtain rfl := Option.some.inj h
      exact ⟨.inl rfl, _, _, (Mat.trans (Mat.freezeP (n := 3003) (e := 34) (sz := 4) (es := p74.map e_api_Prefix) (Ts := [(2, (qe_api_Prefix_4 p74))]) (Bs := []) (by rfl) (TwT.cons (x := (.sref 3003 4 0 p74.length)) (by rfl) (FrzL.all (by first | rfl | (simp; done) | (simp; omega) | omega)) TwT.nil) TwB.nil) (mp [] [(2, (qe_api_Prefix_4 p74))] [(500, some (.know (globF 0 [35, 37, 137]))), (501, some (.know (globF 1 [70, 138, 139])))] hB)), [(qe_api_Prefix_4 p74)], (Res.tmp (by rfl) (by rfl) Res.nil), rfl, by rfl, by rfl, by rfl⟩

noncomputable def exchangepointref21_Prefixes_2_L0 (a0 : api_Resources) (s1 : Int × (List api_Prefix)) : Option ((((List api_Prefix))) ⊕ (Int × (List api_Prefix))) :=
  (if (decide (s1.1 < (a0.fAddrs.length : Int))) = true then
  (idx a0.fAddrs s1.1).bind fun x13 =>
  (exchangepointref21_divide 1000 (api_Prefix.mk (api_Addr.mk x13.fFrom.fV6 (0 : Int) (0 : Int)) (0 : Int)) x13).bind fun r14 =>
  chk (decide ((s1.2 ++ r14).length ≤ LIM)) <|
  some (.inr ((w64 (s1.1 + (1 : Int))), (s1.2 ++ r14)))
  else
  some (.inl s1.2))
noncomputable def exchangepointref21_Prefixes_2 (a0 : api_Resources) : Option ((List api_Prefix)) :=
  (loop (exchangepointref21_Prefixes_2_L0 a0) ((0 : Int), ([] : List api_Prefix))).bind fun p11 =>
  some p11
set_option maxHeartbeats 4000000 in
set_option maxRecDepth 100000 in
theorem exchangepointref21_Prefixes_2_ac (a0 : api_Resources) (r : (List api_Prefix)) (h : exchangepointref21_Prefixes_2 a0 = some r) : AC Tryd.prog 10 [(.d (e_api_Resources a0))] [] (.sref 900000 4 0 r.length) [(900000, some (.row 34 4 (r.map e_api_Prefix)))] := by
  refine AC.of_code2 Tryd.func10 rfl rfl (Nat.le_of_ble_eq_true (by rfl)) fun B hB hN => ?_
  have L {d : Nat} (h : Nat.blt d Tryd.f10.ntmps = true) : d < B.N := ltN hN h
  delta exchangepointref21_Prefixes_2 at h
  refine sr (cg (OpJ.box hB (nm := 1001) (by decide) (by simp) rfl (L rfl) (q 0)) rfl (c (OpJ.assign (L rfl) Opd.nils) rfl cn)) ?_
  refine gh [(1, _)] [(1001, some _)] hB rfl rfl (by rfl) ?_
  refine sr (c (OpJ.assign (L rfl) Opd.nils) rfl cn) ?_
  refine gh [(1, _), (3, _)] [(1001, some _)] hB rfl rfl (by rfl) ?_
  refine AWp.seq ?_
  refine sr (c (ov (.ptr 1001 0 [0]) (fp hN Tryd.underlying28 0 tyS25 _ (q 1))) rfl (c (lb hN 28 _ _ tyS25 (ad _) (q 6)) rfl (c (OpJ.val (v' := (i6 (a0.fAddrs.length : Int))) (by simp) (OpJ.lenD Tryd.underlying25 (L rfl) (q 7))) rfl (c (mv hN (Opd.int .i64 (0))) rfl cn)))) ?_
  refine gh [(3, _), (7, _), (8, _), (9, _)] [] hB rfl rfl (by rfl) ?_
  refine AWp.block ?_
  obtain ⟨p11, hx17, h⟩ := bindS h
  refine lg (exchangepointref21_Prefixes_2_L0 a0) (fun s1 : Int × (List api_Prefix) => ([(3, (.sref 3003 4 0 s1.2.length)), (7, (qe_api_Range_6 a0.fAddrs)), (8, (i6 (a0.fAddrs.length : Int))), (9, (i6 s1.1))] : EL)) (fun s1 : Int × (List api_Prefix) => ([(3003, some (we_api_Prefix_34_4 s1.2))] : OL)) (fun (p11 : ((List api_Prefix))) e E' O' => e = .exit 0 ∧ Mat B E' O' ([(3, (.sref 3003 4 0 p11.length))] : EL) ([(3003, some (we_api_Prefix_34_4 p11))] : OL)) hx17 (Mat.trans (Mat.beginP (n := 3003) (e := 34) (sz := 4) (Ts := [(3, (.sref 3003 4 0 0))]) (Bs := []) hB (by decide) (by rfl) (by decide) (TwT.cons (x := .nils) (by rfl) (Tw.leaf ⟨rfl, rfl⟩) TwT.nil) TwB.nil) (mp [] _ _ hB)) (fun s1 y h => ?_) (fun e E' O' hR => ?_)
  · unfold exchangepointref21_Prefixes_2_L0 at h
    refine sr (c (OpJ.lss (L rfl) (q 9) (q 8)) rfl cn) ?_
    refine gh [(3, _), (7, _), (8, _), (9, _), (10, _)] [(3003, some _)] hB rfl rfl (by rfl) ?_
    refine AWp.seq ?_
    refine AWp.cond rfl (fun hg12 => ?_) (fun hg12 => ?_)
    · replace h := ite_t hg12 h
      refine AWp.skip ?_
      refine seqQ_n ?_
      refine AWp.seq ?_
      refine AWp.block ?_
      obtain ⟨x13, hx13, h⟩ := bindS h
      refine sr (c (OpJ.indexD Tryd.underlying25 tyS68 (idx_some hx13).1 (get_map e_api_Range (idx_some hx13).2) (L rfl) (q 7) (q 9)) rfl (c (OpJ.loadD tyS68 (by rfl) (by rfl) (L rfl) (q 11)) rfl (cg (OpJ.alloc hB tyZ68 (nm := 1005) (by decide) (L rfl)) rfl (cg (OpJ.storeB tyS68 (SetAt.here _ _) (by rfl) (by rfl) (by simp) rfl (q 5) (q 12)) rfl cn)))) ?_
      refine gh [(3, _), (5, _), (7, _), (8, _), (9, _)] [(1005, some _), (3003, some _)] hB rfl rfl (by rfl) ?_
      obtain ⟨r14, hr14, h⟩ := bindS h
      obtain ⟨hc15, h⟩ := chk_some h
      refine AWp.region (oc (mv hN (ot 3 (.sref 3003 4 0 s1.2.length)))
        (oc (ov (.ptr 1005 0 [0]) (fp hN Tryd.underlying68 0 tyS32 (.box 68 (.d (e_api_Range x13))) (ot 5 (.ptr 1005 0 []))))
        (oc (ov (.ptr 1005 0 [0, 0]) (fp hN Tryd.underlying32 0 tyS4 (.box 68 (.d (e_api_Range x13))) (ot 14 (.ptr 1005 0 [0]))))
        (oc (lb hN 68 (.d (e_api_Range x13)) (bo x13.fFrom.fV6) tyS4 (At.dst1 (f := (e_api_Addr x13.fFrom)) (by rfl) (by rfl) (ad (.bool x13.fFrom.fV6)) (by first | rfl | omega)) (ot 15 (.ptr 1005 0 [0, 0])))
        (oc (OpJ.coe (v := (.st [(bo x13.fFrom.fV6), (.d (.int .u64 0)), (.d (.int .u64 0))])) (y := (.st [(.bool x13.fFrom.fV6), (.int .u64 0), (.int .u64 0)])) (Co.st (CoL.cons (Co.d _) (CoL.cons (Co.d _) (CoL.cons (Co.d _) CoL.nil)))) rfl (OpJ.build (places := [(0, 1), (1, 1), (2, 1)]) ⟨Tryd.underlying32, fun w => by kernel_rfl⟩ tyZS32 (Opds.cons (ot 16 (bo x13.fFrom.fV6)) Opds.nil) (by kernel_rfl) (r := (.st [(bo x13.fFrom.fV6), (.d (.int .u64 0)), (.d (.int .u64 0))])) (by rfl) (L rfl)))
        (oc (OpJ.coe (v := (.st [(.d (.st [(.bool x13.fFrom.fV6), (.int .u64 0), (.int .u64 0)])), (i6 0)])) (y := (.st [(.st [(.bool x13.fFrom.fV6), (.int .u64 0), (.int .u64 0)]), (.int .i64 0)])) (Co.st (CoL.cons (Co.d _) (CoL.cons (Co.d _) CoL.nil))) rfl (OpJ.build (places := [(0, 3), (3, 1)]) ⟨Tryd.underlying34, fun w => by kernel_rfl⟩ tyZS34 (Opds.cons (ot 17 (.d (.st [(.bool x13.fFrom.fV6), (.int .u64 0), (.int .u64 0)]))) Opds.nil) (by kernel_rfl) (r := (.st [(.d (.st [(.bool x13.fFrom.fV6), (.int .u64 0), (.int .u64 0)])), (i6 0)])) (by rfl) (L rfl)))
        (oc (lb hN 68 (.d (e_api_Range x13)) (.d (e_api_Range x13)) tyS68 (At.here _) (ot 5 (.ptr 1005 0 [])))
        (oc (OpJ.frz (OpJ.callFn hB fnOk34 (exchangepointref21_divide_ac 1000 (api_Prefix.mk (api_Addr.mk x13.fFrom.fV6 (0 : Int) (0 : Int)) (0 : Int)) x13 r14 hr14) [(900000, 100000)] (by kernel_rfl) (L rfl) (by kernel_rfl) (OpdL.cons (ot 18 (.d (.st [(.st [(.bool x13.fFrom.fV6), (.int .u64 0), (.int .u64 0)]), (.int .i64 0)]))) (OpdL.cons (ot 19 (.d (e_api_Range x13))) OpdL.nil))) (by simp))
        (oc (OpJ.append hB Tryd.underlying36 tyE34 (nm := 1021) (by decide) (es := s1.2.map e_api_Prefix) (ys := r14.map e_api_Prefix) (es' := (s1.2 ++ r14).map e_api_Prefix) (len := (s1.2 ++ r14).length) (by simp) (by simp) (map_sz (f := e_api_Prefix) (fun _ => rfl)) (by rw [List.length_map]; exact lim_mulN hc15 (by decide)) (by rw [List.length_map]; exact lim_leN hc15) (L rfl) (by simp) (ot 13 (.sref 3003 4 0 s1.2.length)) (ot 20 (qe_api_Prefix_4 r14)))
        (oc (OpJ.assign (L rfl) (ot 21 (.sref 1021 4 0 ((s1.2 ++ r14).length))))
        (OpJs.nil))))))))))) (by rfl) (by rfl) ?_
      refine blkQ_n ?_
      refine seqQ_n ?_
      refine AWp.ghost (mp [] [(3, (.sref 1021 4 0 ((s1.2 ++ r14).length))), (7, (qe_api_Range_6 a0.fAddrs)), (8, (i6 (a0.fAddrs.length : Int))), (9, (i6 s1.1))] [(1021, some (we_api_Prefix_34_4 (s1.2 ++ r14)))] hB) ?_
      refine rg (c (add6 (L rfl) (q 9) (Opd.int .i64 (1))) rfl (c (mv hN (q 22)) rfl cn)) ?_
      obtain rfl := Option.some.inj h
      exact ⟨rfl, (Mat.trans (mp [] [(3, (.sref 1021 4 0 ((s1.2 ++ r14).length))), (7, (qe_api_Range_6 a0.fAddrs)), (8, (i6 (a0.fAddrs.length : Int))), (9, (i6 (w64 (s1.1 + (1 : Int)))))] [(1021, some (we_api_Prefix_34_4 (s1.2 ++ r14)))] hB) (mp [(3003, 1021)] _ _ hB))⟩
    · replace h := ite_f hg12 h
      refine AWp.exit ?_
      refine seqQ_e ?_
      obtain rfl := Option.some.inj h
      exact ⟨(fun hc => by cases hc), rfl, (mp [] _ _ hB)⟩
  · obtain ⟨rfl, hmat⟩ := hR
    refine blkQ_hit ?_
    refine seqQ_n ?_
    refine AWp.ghost hmat ?_
    refine sr (c (mv hN (q 3)) rfl (c (OpJ.assign (L rfl) (q 23)) rfl cn)) ?_
    refine gh [(2, _)] [(3003, some _)] hB rfl rfl (by rfl) ?_
    refine AWp.ret ?_
    obtain rfl := Option.some.inj h
    exact ⟨.inl rfl, _, _, (mp [(900000, 3003)] [(2, (.sref 900000 4 0 p11.length))] [(900000, some (we_api_Prefix_34_4 p11))] hB), [(.sref 900000 4 0 p11.length)], (Res.tmp (by rfl) (by rfl) Res.nil), rfl, by rfl, by rfl, by rfl⟩

noncomputable def resource_HasPrefix_1 (a0 : api_Range) (a1 : api_Prefix) : Option (Bool) :=
  jn (fun m6 : Bool =>
  some m6) (fun j7 =>
  (addr_Cmp a0.fFrom a1.fAddr).bind fun r8 =>
  (if (decide (r8 ≤ (0 : Int))) = true then
  (prefix_Last a1).bind fun r10 =>
  (addr_Cmp r10 a0.fTo).bind fun r11 =>
  j7 (decide (r11 ≤ (0 : Int)))
  else
  j7 false))
set_option maxHeartbeats 4000000 in
set_option maxRecDepth 100000 in
theorem resource_HasPrefix_1_ac (a0 : api_Range) (a1 : api_Prefix) (r : Bool) (h : resource_HasPrefix_1 a0 a1 = some r) : AC Tryd.prog 40 [(.d (e_api_Range a0)), (.ptr 0 0 [])] [(0, (.box 34 (.d (e_api_Prefix a1))))] (.d (.bool r)) [(0, some (.box 34 (.d (e_api_Prefix a1))))] := by
  refine AC.of_code2 Tryd.func40 rfl rfl (Nat.le_of_ble_eq_true (by rfl)) fun B hB hN => ?_
  have L {d : Nat} (h : Nat.blt d Tryd.f40.ntmps = true) : d < B.N := ltN hN h
  delta resource_HasPrefix_1 at h
  refine sr (cg (OpJ.box hB (nm := 1002) (by decide) (by simp) rfl (L rfl) (q 0)) rfl (c (OpJ.assign (L rfl) (Opd.bool false)) rfl cn)) ?_
  refine gh [(1, _), (2, _)] [(0, some _), (1002, some _)] hB rfl rfl (by rfl) ?_
  refine AWp.seq ?_
  refine AWp.cut h (fun m6 : Bool => ([(3, (bo m6))] : EL)) (fun m6 : Bool => ([(0, some (.box 34 (.d (e_api_Prefix a1))))] : OL)) (fun m6 h E' O' hmat => ?_) (fun j7 hjj7 h => ?_)
  · refine seqQ_n ?_
    refine AWp.ghost hmat ?_
    refine AWp.ret ?_
    obtain rfl := Option.some.inj h
    exact ⟨.inl rfl, _, _, (kp [(3, _)] [(0, some _)] hB rfl rfl (by rfl)), [(bo m6)], (Res.tmp (by rfl) (by rfl) Res.nil), rfl, by rfl, by rfl, by rfl⟩
  · obtain ⟨r8, hr8, h⟩ := bindS h
    rcases Bool.eq_false_or_eq_true (decide (r8 ≤ (0 : Int))) with hg9 | hg9
    · replace h := ite_t hg9 h
      obtain ⟨r10, hr10, h⟩ := bindS h
      obtain ⟨r11, hr11, h⟩ := bindS h
      refine dr (c (ov (.ptr 1002 0 [0]) (fp hN Tryd.underlying68 0 tyS32 _ (q 2))) rfl (c (lb hN 68 _ _ tyS32 (ad _) (q 4)) rfl (c (ov (.ptr 0 0 [0]) (fp hN Tryd.underlying34 0 tyS32 _ (q 1))) rfl (c (lb hN 34 _ _ tyS32 (ad _) (q 6)) rfl (cg (OpJ.callFn hB fnOk35 (addr_Cmp_ac a0.fFrom a1.fAddr r8 hr8) [] (by kernel_rfl) (L rfl) (by kernel_rfl) (OpdL.cons (q 5) (OpdL.cons (q 7) OpdL.nil))) rfl (c (OpJ.leq (L rfl) (q 8) (Opd.int .i64 (0))) rfl (c (OpJ.val (v' := .d (.bool true)) (by rw [hg9] <;> rfl) (mv hN (q 9))) rfl (c (OpJ.guarded (g := 10) (by rfl) (lb hN 34 _ _ tyS34 (At.here _) (q 1))) rfl (cg (OpJ.guarded (g := 10) (by rfl) (OpJ.callFn hB fnOk38 (prefix_Last_ac a1 r10 hr10) [] (by kernel_rfl) (L rfl) (by kernel_rfl) (OpdL.cons (q 11) OpdL.nil))) rfl (c (OpJ.guarded (g := 10) (by rfl) (ov (.ptr 1002 3 [1]) (fp hN Tryd.underlying68 3 tyS32 _ (q 2)))) rfl (c (OpJ.guarded (g := 10) (by rfl) (lb hN 68 _ _ tyS32 (ad _) (q 13))) rfl (cg (OpJ.guarded (g := 10) (by rfl) (OpJ.callFn hB fnOk35 (addr_Cmp_ac r10 a0.fTo r11 hr11) [] (by kernel_rfl) (L rfl) (by kernel_rfl) (OpdL.cons (q 12) (OpdL.cons (q 14) OpdL.nil)))) rfl (c (OpJ.guarded (g := 10) (by rfl) (OpJ.leq (L rfl) (q 15) (Opd.int .i64 (0)))) rfl (c (OpJ.pickT (L rfl) (q 10) (q 16)) rfl (c (OpJ.assign (L rfl) (q 17)) rfl cn))))))))))))))) (by kernel_rfl) (by kernel_rfl) ?_
      exact hjj7 _ h _ _ (Mat.trans (mp [] [(3, (bo (decide (r11 ≤ (0 : Int)))))] [(0, some (.box 34 (.d (e_api_Prefix a1))))] hB) (mp [] _ _ hB))
    · replace h := ite_f hg9 h
      refine dr (c (ov (.ptr 1002 0 [0]) (fp hN Tryd.underlying68 0 tyS32 _ (q 2))) rfl (c (lb hN 68 _ _ tyS32 (ad _) (q 4)) rfl (c (ov (.ptr 0 0 [0]) (fp hN Tryd.underlying34 0 tyS32 _ (q 1))) rfl (c (lb hN 34 _ _ tyS32 (ad _) (q 6)) rfl (cg (OpJ.callFn hB fnOk35 (addr_Cmp_ac a0.fFrom a1.fAddr r8 hr8) [] (by kernel_rfl) (L rfl) (by kernel_rfl) (OpdL.cons (q 5) (OpdL.cons (q 7) OpdL.nil))) rfl (c (OpJ.leq (L rfl) (q 8) (Opd.int .i64 (0))) rfl (c (OpJ.val (v' := .d (.bool false)) (by rw [hg9] <;> rfl) (mv hN (q 9))) rfl (cg (OpJ.skipU (g := 10) (L rfl) (by rfl)) rfl (cg (OpJ.skipU (g := 10) (L rfl) (by rfl)) rfl (cg (OpJ.skipU (g := 10) (L rfl) (by rfl)) rfl (cg (OpJ.skipU (g := 10) (L rfl) (by rfl)) rfl (cg (OpJ.skipU (g := 10) (L rfl) (by rfl)) rfl (cg (OpJ.skipU (g := 10) (L rfl) (by rfl)) rfl (c (OpJ.pickF (L rfl) (q 10) (Opd.bool false)) rfl (c (OpJ.assign (L rfl) (q 17)) rfl cn))))))))))))))) (by kernel_rfl) (by kernel_rfl) ?_
      exact hjj7 _ h _ _ (Mat.trans (mp [] [(3, (bo false))] [(0, some (.box 34 (.d (e_api_Prefix a1))))] hB) (mp [] _ _ hB))

noncomputable def slices_IndexFunc_2_L0 (a0 : (List api_Range)) (a1 : api_Prefix) (s1 : Int) : Option (((Int) ⊕ (Unit)) ⊕ (Int)) :=
  (if (decide (s1 < (a0.length : Int))) = true then
  (idx a0 s1).bind fun x13 =>
  (resource_HasPrefix_1 x13 a1).bind fun r14 =>
  (if r14 = true then
  some (.inl (.inl s1))
  else
  some (.inr (w64 (s1 + (1 : Int)))))
  else
  some (.inl (.inr ())))
noncomputable def slices_IndexFunc_2 (a0 : (List api_Range)) (a1 : api_Prefix) : Option (Int) :=
  (loop (slices_IndexFunc_2_L0 a0 a1) (0 : Int)).bind fun x16 => match x16 with
  | (.inl p10) =>
    some p10
  | (.inr _) =>
    some (-1 : Int)
set_option maxHeartbeats 4000000 in
set_option maxRecDepth 100000 in
theorem slices_IndexFunc_2_ac (a0 : (List api_Range)) (a1 : api_Prefix) (r : Int) (h : slices_IndexFunc_2 a0 a1 = some r) : AC Tryd.prog 76 [(.d (.list 6 (a0.map e_api_Range))), (.func 40 [(.ptr 0 0 [])])] [(0, (.box 34 (.d (e_api_Prefix a1))))] (.d (.int .i64 r)) [(0, some (.box 34 (.d (e_api_Prefix a1))))] := by
  refine AC.of_code2 Tryd.func76 rfl rfl (Nat.le_of_ble_eq_true (by rfl)) fun B hB hN => ?_
  delta slices_IndexFunc_2 at h
  refine sr (c (OpJ.assign (ltN hN rfl) (Opd.int .i64 (0))) rfl cn) ?_
  refine gh [(0, _), (1, _)] [(0, some _)] hB rfl rfl (by rfl) ?_
  refine AWp.seq ?_
  refine sr (c (mv hN (q 0)) rfl (c (OpJ.val (v' := (i6 (a0.length : Int))) (by simp) (OpJ.lenD Tryd.underlying25 (ltN hN rfl) (q 6))) rfl (c (mv hN (Opd.int .i64 (0))) rfl cn))) ?_
  refine gh [(0, _), (1, _), (7, _), (8, _)] [(0, some _)] hB rfl rfl (by rfl) ?_
  refine AWp.block ?_
  obtain ⟨x16, hx17, h⟩ := bindS h
  refine lg (slices_IndexFunc_2_L0 a0 a1) (fun s1 : Int => ([(0, (qe_api_Range_6 a0)), (1, (.func 40 [(.ptr 0 0 [])])), (7, (i6 (a0.length : Int))), (8, (i6 s1))] : EL)) (fun s1 : Int => ([(0, some (.box 34 (.d (e_api_Prefix a1))))] : OL)) (fun (x : (Int) ⊕ (Unit)) e E' O' => match x with | (.inl p10) => e = .ret ∧ Mat B E' O' ([(4, (i6 p10))] : EL) ([(0, some (.box 34 (.d (e_api_Prefix a1))))] : OL) | (.inr _p) => e = .exit 0 ∧ Mat B E' O' ([] : EL) ([(0, some (.box 34 (.d (e_api_Prefix a1))))] : OL)) hx17 (mp [] _ _ hB) (fun s1 y h => ?_) (fun e E' O' hR => ?_)
  · unfold slices_IndexFunc_2_L0 at h
    refine sr (c (OpJ.lss (ltN hN rfl) (q 8) (q 7)) rfl cn) ?_
    refine gh [(0, _), (1, _), (7, _), (8, _), (9, _)] [(0, some _)] hB rfl rfl (by rfl) ?_
    refine AWp.seq ?_
    refine AWp.cond rfl (fun hg12 => ?_) (fun hg12 => ?_)
    · replace h := ite_t hg12 h
      refine AWp.skip ?_
      refine seqQ_n ?_
      refine AWp.seq ?_
      refine AWp.block ?_
      refine sr (c (mv hN (q 8)) rfl (c (OpJ.assign (ltN hN rfl) (q 10)) rfl cn)) ?_
      refine gh [(0, _), (1, _), (5, _), (7, _), (8, _)] [(0, some _)] hB rfl rfl (by rfl) ?_
      refine AWp.seq ?_
      obtain ⟨x13, hx13, h⟩ := bindS h
      obtain ⟨r14, hr14, h⟩ := bindS h
      refine AWp.region (oc (mv hN (ot 1 (.func 40 [(.ptr 0 0 [])])))
        (oc (mv hN (ot 0 (qe_api_Range_6 a0)))
        (oc (mv hN (ot 5 (i6 s1)))
        (oc (OpJ.indexD (el := (e_api_Range x13)) Tryd.underlying25 tyS68 (idx_some hx13).1 (get_map e_api_Range (idx_some hx13).2) (ltN hN rfl) (ot 12 (qe_api_Range_6 a0)) (ot 13 (i6 s1)))
        (oc (OpJ.loadD tyS68 (by rfl) (by rfl) (ltN hN rfl) (ot 14 (.dptr (e_api_Range x13))))
        (oc (OpJ.callVal (args := [(.d (e_api_Range x13))]) (caps := [(.ptr 0 0 [])]) hB fnOk40 [(0, 0)] (resource_HasPrefix_1_ac x13 a1 r14 hr14) (by kernel_rfl) (ltN hN rfl) (by kernel_rfl) (by kernel_rfl) (OpdL.cons (ot 15 (.d (e_api_Range x13))) OpdL.nil))
        (OpJs.nil))))))) (by rfl) (by rfl) ?_
      refine seqQ_n ?_
      refine AWp.ghost (mp [] [(0, (qe_api_Range_6 a0)), (1, (.func 40 [(.ptr 0 0 [])])), (5, (i6 s1)), (7, (i6 (a0.length : Int))), (8, (i6 s1)), (16, (bo r14))] [(0, some (.box 34 (.d (e_api_Prefix a1))))] hB) ?_
      refine AWp.cond rfl (fun hg15 => ?_) (fun hg15 => ?_)
      · replace h := ite_t hg15 h
        refine sr (c (mv hN (q 5)) rfl (c (OpJ.assign (ltN hN rfl) (q 17)) rfl cn)) ?_
        refine gh [(4, _)] [(0, some _)] hB rfl rfl (by rfl) ?_
        refine AWp.ret ?_
        refine blkQ_r ?_
        refine seqQ_r ?_
        obtain rfl := Option.some.inj h
        exact ⟨(fun hc => by cases hc), rfl, (mp [] _ _ hB)⟩
      · replace h := ite_f hg15 h
        refine AWp.skip ?_
        refine blkQ_n ?_
        refine seqQ_n ?_
        refine rg (c (add6 (ltN hN rfl) (q 8) (Opd.int .i64 (1))) rfl (c (mv hN (q 18)) rfl cn)) ?_
        obtain rfl := Option.some.inj h
        exact ⟨rfl, (Mat.trans (mp [] [(0, (qe_api_Range_6 a0)), (1, (.func 40 [(.ptr 0 0 [])])), (7, (i6 (a0.length : Int))), (8, (i6 (w64 (s1 + (1 : Int)))))] [(0, some (.box 34 (.d (e_api_Prefix a1))))] hB) (mp [] _ _ hB))⟩
    · replace h := ite_f hg12 h
      refine AWp.exit ?_
      refine seqQ_e ?_
      obtain rfl := Option.some.inj h
      exact ⟨(fun hc => by cases hc), rfl, (mp [] _ _ hB)⟩
  · rcases x16 with p10 | _
    · obtain ⟨rfl, hmat⟩ := hR
      refine blkQ_r ?_
      refine seqQ_r ?_
      obtain rfl := Option.some.inj h
      exact ⟨.inl rfl, _, _, (Mat.trans hmat (mp [] [(4, (i6 p10))] [(0, some (.box 34 (.d (e_api_Prefix a1))))] hB)), [(i6 p10)], (Res.tmp (by rfl) (by rfl) Res.nil), rfl, by rfl, by rfl, by rfl⟩
    · obtain ⟨rfl, hmat⟩ := hR
      refine blkQ_hit ?_
      refine seqQ_n ?_
      refine AWp.ghost hmat ?_
      refine sr (c (OpJ.assign (ltN hN rfl) (Opd.int .i64 (-1))) rfl cn) ?_
      refine gh [(4, _)] [(0, some _)] hB rfl rfl (by rfl) ?_
      refine AWp.ret ?_
      obtain rfl := Option.some.inj h
      exact ⟨.inl rfl, _, _, (kp [(4, _)] [(0, some _)] hB rfl rfl (by rfl)), [(i6 (-1 : Int))], (Res.tmp (by rfl) (by rfl) Res.nil), rfl, by rfl, by rfl, by rfl⟩

noncomputable def slices_ContainsFunc_2 (a0 : (List api_Range)) (a1 : api_Prefix) : Option (Bool) :=
  (slices_IndexFunc_2 a0 a1).bind fun r1 =>
  some (decide ((0 : Int) ≤ r1))
set_option maxHeartbeats 4000000 in
set_option maxRecDepth 100000 in
theorem slices_ContainsFunc_2_ac (a0 : (List api_Range)) (a1 : api_Prefix) (r : Bool) (h : slices_ContainsFunc_2 a0 a1 = some r) : AC Tryd.prog 39 [(.d (.list 6 (a0.map e_api_Range))), (.func 40 [(.ptr 0 0 [])])] [(0, (.box 34 (.d (e_api_Prefix a1))))] (.d (.bool r)) [(0, some (.box 34 (.d (e_api_Prefix a1))))] := by
  refine AC.of_code2 Tryd.func39 rfl rfl (Nat.le_of_ble_eq_true (by rfl)) fun B hB hN => ?_
  delta slices_ContainsFunc_2 at h
  refine sr (c (OpJ.assign (ltN hN rfl) (Opd.bool false)) rfl cn) ?_
  refine gh [(0, _), (1, _)] [(0, some _)] hB rfl rfl (by rfl) ?_
  refine AWp.seq ?_
  obtain ⟨r1, hr1, h⟩ := bindS h
  refine AWp.region (oc (mv hN (ot 0 (qe_api_Range_6 a0)))
  (oc (mv hN (ot 1 (.func 40 [(.ptr 0 0 [])])))
  (oc (OpJ.callFn hB fnOk76 (slices_IndexFunc_2_ac a0 a1 r1 hr1) [(0, 0)] (by kernel_rfl) (ltN hN rfl) (by kernel_rfl) (OpdL.cons (ot 5 (qe_api_Range_6 a0)) (OpdL.cons (ot 6 (.func 40 [(.ptr 0 0 [])])) OpdL.nil)))
  (oc (OpJ.geq (ltN hN rfl) (ot 7 (i6 r1)) (Opd.int .i64 (0)))
  (oc (OpJ.assign (ltN hN rfl) (ot 8 (bo (decide ((0 : Int) ≤ r1)))))
  (OpJs.nil)))))) (by rfl) (by rfl) ?_
  refine seqQ_n ?_
  refine AWp.ghost (mp [] [(4, (bo (decide ((0 : Int) ≤ r1))))] [(0, some (.box 34 (.d (e_api_Prefix a1))))] hB) ?_
  refine AWp.ret ?_
  obtain rfl := Option.some.inj h
  exact ⟨.inl rfl, _, _, (kp [(4, _)] [(0, some _)] hB rfl rfl (by rfl)), [(bo (decide ((0 : Int) ≤ r1)))], (Res.tmp (by rfl) (by rfl) Res.nil), rfl, by rfl, by rfl, by rfl⟩

noncomputable def resource_HasPrefix (a0 : api_Resources) (a1 : api_Prefix) : Option (Bool) :=
  (slices_ContainsFunc_2 a0.fAddrs a1).bind fun r1 =>
  some r1
set_option maxHeartbeats 4000000 in
set_option maxRecDepth 100000 in
theorem resource_HasPrefix_ac (a0 : api_Resources) (a1 : api_Prefix) (r : Bool) (h : resource_HasPrefix a0 a1 = some r) : AC Tryd.prog 12 [(.d (e_api_Resources a0)), (.d (e_api_Prefix a1))] [] (.d (.bool r)) [] := by
  refine AC.of_code2 Tryd.func12 rfl rfl (Nat.le_of_ble_eq_true (by rfl)) fun B hB hN => ?_
  delta resource_HasPrefix at h
  refine sr (cg (OpJ.box hB (nm := 1002) (by decide) (by simp) rfl (ltN hN rfl) (q 0)) rfl (cg (OpJ.box hB (nm := 1003) (by decide) (by simp) rfl (ltN hN rfl) (q 1)) rfl (c (OpJ.assign (ltN hN rfl) (Opd.bool false)) rfl cn))) ?_
  refine gh [(2, _), (3, _)] [(1002, some _), (1003, some _)] hB rfl rfl (by rfl) ?_
  refine AWp.seq ?_
  obtain ⟨r1, hr1, h⟩ := bindS h
  refine AWp.region (oc (ov (.ptr 1002 0 [0]) (fp hN Tryd.underlying28 0 tyS25 (.box 28 (.d (e_api_Resources a0))) (ot 2 (.ptr 1002 0 []))))
  (oc (lb hN 28 (.d (e_api_Resources a0)) (qe_api_Range_6 a0.fAddrs) tyS25 (ad (.list 6 (a0.fAddrs.map e_api_Range))) (ot 5 (.ptr 1002 0 [0])))
  (oc (OpJ.makeF (OpdL.cons (ot 3 (.ptr 1003 0 [])) OpdL.nil) rfl rfl (ltN hN rfl))
  (oc (OpJ.callFn hB fnOk39 (slices_ContainsFunc_2_ac a0.fAddrs a1 r1 hr1) [(0, 1003)] (by kernel_rfl) (ltN hN rfl) (by kernel_rfl) (OpdL.cons (ot 6 (qe_api_Range_6 a0.fAddrs)) (OpdL.cons (ot 7 (.func 40 [(.ptr 1003 0 [])])) OpdL.nil)))
  (oc (OpJ.assign (ltN hN rfl) (ot 8 (bo r1)))
  (OpJs.nil)))))) (by rfl) (by rfl) ?_
  refine seqQ_n ?_
  refine AWp.ghost (mp [] [(4, (bo r1))] [] hB) ?_
  refine AWp.ret ?_
  obtain rfl := Option.some.inj h
  exact ⟨.inl rfl, _, _, (kp [(4, _)] [] hB rfl rfl (by rfl)), [(bo r1)], (Res.tmp (by rfl) (by rfl) Res.nil), rfl, by rfl, by rfl, by rfl⟩

noncomputable def exchangepointref21_HasPrefix_L0 (a0 : api_Resources) (a1 : api_Prefix) (s1 : Int) : Option (((Unit) ⊕ (Unit)) ⊕ (Int)) :=
  (if (decide (s1 < (a0.fAddrs.length : Int))) = true then
  (idx a0.fAddrs s1).bind fun x35 =>
  jn (fun m41 : Bool =>
  (if m41 = true then
  some (.inl (.inl ()))
  else
  some (.inr (w64 (s1 + (1 : Int)))))) (fun j42 =>
  (if (x35.fFrom.fV6 == a1.fAddr.fV6) = true then
  (exchangepointref01_Cmp x35.fFrom a1.fAddr).bind fun r45 =>
  (if (decide (r45 ≤ (0 : Int))) = true then
  (exchangepointref02_Last a1).bind fun r47 =>
  (exchangepointref01_Cmp r47 x35.fTo).bind fun r48 =>
  j42 (decide (r48 ≤ (0 : Int)))
  else
  j42 false)
  else
  j42 false))
  else
  some (.inl (.inr ())))
noncomputable def exchangepointref21_HasPrefix (a0 : api_Resources) (a1 : api_Prefix) : Option (Bool) :=
  (loop (exchangepointref21_HasPrefix_L0 a0 a1) (0 : Int)).bind fun x49 => match x49 with
  | (.inl _) =>
    some true
  | (.inr _) =>
    some false
set_option maxHeartbeats 4000000 in
set_option maxRecDepth 100000 in
theorem exchangepointref21_HasPrefix_ac (a0 : api_Resources) (a1 : api_Prefix) (r : Bool) (h : exchangepointref21_HasPrefix a0 a1 = some r) : AC Tryd.prog 13 [(.d (e_api_Resources a0)), (.d (e_api_Prefix a1))] [] (.d (.bool r)) [] := by
  refine AC.of_code2 Tryd.func13 rfl rfl (Nat.le_of_ble_eq_true (by rfl)) fun B hB hN => ?_
  have L {d : Nat} (h : Nat.blt d Tryd.f13.ntmps = true) : d < B.N := ltN hN h
  delta exchangepointref21_HasPrefix at h
  refine sr (cg (OpJ.box hB (nm := 1002) (by decide) (by simp) rfl (L rfl) (q 0)) rfl (cg (OpJ.box hB (nm := 1003) (by decide) (by simp) rfl (L rfl) (q 1)) rfl (c (OpJ.assign (L rfl) (Opd.bool false)) rfl cn))) ?_
  refine gh [(2, _), (3, _)] [(1002, some _), (1003, some _)] hB rfl rfl (by rfl) ?_
  refine AWp.seq ?_
  refine sr (c (ov (.ptr 1002 0 [0]) (fp hN Tryd.underlying28 0 tyS25 _ (q 2))) rfl (c (lb hN 28 _ _ tyS25 (ad _) (q 7)) rfl (c (OpJ.val (v' := (i6 (a0.fAddrs.length : Int))) (by simp) (OpJ.lenD Tryd.underlying25 (L rfl) (q 8))) rfl (c (mv hN (Opd.int .i64 (0))) rfl cn)))) ?_
  refine gh [(3, _), (8, _), (9, _), (10, _)] [(1003, some _)] hB rfl rfl (by rfl) ?_
  refine AWp.block ?_
  obtain ⟨x49, hx50, h⟩ := bindS h
  refine lg (exchangepointref21_HasPrefix_L0 a0 a1) (fun s1 : Int => ([(3, (.ptr 1003 0 [])), (8, (qe_api_Range_6 a0.fAddrs)), (9, (i6 (a0.fAddrs.length : Int))), (10, (i6 s1))] : EL)) (fun s1 : Int => ([(1003, some (.box 34 (.d (e_api_Prefix a1))))] : OL)) (fun (x : (Unit) ⊕ (Unit)) e E' O' => match x with | (.inl _p) => e = .ret ∧ Mat B E' O' ([(4, (bo true))] : EL) ([] : OL) | (.inr _p) => e = .exit 0 ∧ Mat B E' O' ([] : EL) ([] : OL)) hx50 (mp [] _ _ hB) (fun s1 y h => ?_) (fun e E' O' hR => ?_)
  · unfold exchangepointref21_HasPrefix_L0 at h
    refine sr (c (OpJ.lss (L rfl) (q 10) (q 9)) rfl cn) ?_
    refine gh [(3, _), (8, _), (9, _), (10, _), (11, _)] [(1003, some _)] hB rfl rfl (by rfl) ?_
    refine AWp.seq ?_
    refine AWp.cond rfl (fun hg34 => ?_) (fun hg34 => ?_)
    · replace h := ite_t hg34 h
      refine AWp.skip ?_
      refine seqQ_n ?_
      refine AWp.seq ?_
      refine AWp.block ?_
      obtain ⟨x35, hx35, h⟩ := bindS h
      refine sr (c (OpJ.indexD Tryd.underlying25 tyS68 (idx_some hx35).1 (get_map e_api_Range (idx_some hx35).2) (L rfl) (q 8) (q 10)) rfl (c (OpJ.loadD tyS68 (by rfl) (by rfl) (L rfl) (q 12)) rfl (cg (OpJ.alloc hB tyZ68 (nm := 1006) (by decide) (L rfl)) rfl (cg (OpJ.storeB tyS68 (SetAt.here _ _) (by rfl) (by rfl) (by simp) rfl (q 6) (q 13)) rfl cn)))) ?_
      refine gh [(3, _), (6, _), (8, _), (9, _), (10, _)] [(1003, some _), (1006, some _)] hB rfl rfl (by rfl) ?_
      refine AWp.seq ?_
      refine AWp.cut h (fun m41 : Bool => ([(3, (.ptr 1003 0 [])), (8, (qe_api_Range_6 a0.fAddrs)), (9, (i6 (a0.fAddrs.length : Int))), (10, (i6 s1)), (36, (bo m41))] : EL)) (fun m41 : Bool => ([(1003, some (.box 34 (.d (e_api_Prefix a1))))] : OL)) (fun m41 h E' O' hmat => ?_) (fun j42 hjj42 h => ?_)
      · refine seqQ_n ?_
        refine AWp.ghost hmat ?_
        refine AWp.cond rfl (fun hg43 => ?_) (fun hg43 => ?_)
        · replace h := ite_t hg43 h
          refine sr (c (OpJ.assign (L rfl) (Opd.bool true)) rfl cn) ?_
          refine gh [(4, _)] [] hB rfl rfl (by rfl) ?_
          refine AWp.ret ?_
          refine blkQ_r ?_
          refine seqQ_r ?_
          obtain rfl := Option.some.inj h
          exact ⟨(fun hc => by cases hc), rfl, (mp [] _ _ hB)⟩
        · replace h := ite_f hg43 h
          refine AWp.skip ?_
          refine blkQ_n ?_
          refine seqQ_n ?_
          refine rg (c (add6 (L rfl) (q 10) (Opd.int .i64 (1))) rfl (c (mv hN (q 37)) rfl cn)) ?_
          obtain rfl := Option.some.inj h
          exact ⟨rfl, (Mat.trans (mp [] [(3, (.ptr 1003 0 [])), (8, (qe_api_Range_6 a0.fAddrs)), (9, (i6 (a0.fAddrs.length : Int))), (10, (i6 (w64 (s1 + (1 : Int)))))] [(1003, some (.box 34 (.d (e_api_Prefix a1))))] hB) (mp [] _ _ hB))⟩
      · rcases Bool.eq_false_or_eq_true (x35.fFrom.fV6 == a1.fAddr.fV6) with hg44 | hg44
        · replace h := ite_t hg44 h
          obtain ⟨r45, hr45, h⟩ := bindS h
          rcases Bool.eq_false_or_eq_true (decide (r45 ≤ (0 : Int))) with hg46 | hg46
          · replace h := ite_t hg46 h
            obtain ⟨r47, hr47, h⟩ := bindS h
            obtain ⟨r48, hr48, h⟩ := bindS h
            refine dr (c (ov (.ptr 1006 0 [0]) (fp hN Tryd.underlying68 0 tyS32 _ (q 6))) rfl (c (ov (.ptr 1006 0 [0, 0]) (fp hN Tryd.underlying32 0 tyS4 _ (q 14))) rfl (c (lb hN 68 _ _ tyS4 (At.dst1 (by rfl) (by rfl) (ad _) (by first | rfl | omega)) (q 15)) rfl (c (ov (.ptr 1003 0 [0]) (fp hN Tryd.underlying34 0 tyS32 _ (q 3))) rfl (c (ov (.ptr 1003 0 [0, 0]) (fp hN Tryd.underlying32 0 tyS4 _ (q 17))) rfl (c (lb hN 34 _ _ tyS4 (At.dst1 (by rfl) (by rfl) (ad _) (by first | rfl | omega)) (q 18)) rfl (c (OpJ.eqlB Tryd.underlying4 (L rfl) (q 16) (q 19)) rfl (c (OpJ.val (v' := .d (.bool true)) (by rw [hg44] <;> rfl) (mv hN (q 20))) rfl (c (OpJ.guarded (g := 21) (by rfl) (ov (.ptr 1006 0 [0]) (fp hN Tryd.underlying68 0 tyS32 _ (q 6)))) rfl (c (OpJ.guarded (g := 21) (by rfl) (lb hN 68 _ _ tyS32 (ad _) (q 22))) rfl (c (OpJ.guarded (g := 21) (by rfl) (ov (.ptr 1003 0 [0]) (fp hN Tryd.underlying34 0 tyS32 _ (q 3)))) rfl (c (OpJ.guarded (g := 21) (by rfl) (lb hN 34 _ _ tyS32 (ad _) (q 24))) rfl (cg (OpJ.guarded (g := 21) (by rfl) (OpJ.callFn hB fnOk41 (exchangepointref01_Cmp_ac x35.fFrom a1.fAddr r45 hr45) [] (by kernel_rfl) (L rfl) (by kernel_rfl) (OpdL.cons (q 23) (OpdL.cons (q 25) OpdL.nil)))) rfl (c (OpJ.guarded (g := 21) (by rfl) (OpJ.leq (L rfl) (q 26) (Opd.int .i64 (0)))) rfl (c (OpJ.pickT (L rfl) (q 21) (q 27)) rfl (c (OpJ.val (v' := .d (.bool true)) (by rw [hg46] <;> rfl) (mv hN (q 28))) rfl (c (OpJ.guarded (g := 29) (by rfl) (lb hN 34 _ _ tyS34 (At.here _) (q 3))) rfl (cg (OpJ.guarded (g := 29) (by rfl) (OpJ.callFn hB fnOk42 (exchangepointref02_Last_ac a1 r47 hr47) [] (by kernel_rfl) (L rfl) (by kernel_rfl) (OpdL.cons (q 30) OpdL.nil))) rfl (c (OpJ.guarded (g := 29) (by rfl) (ov (.ptr 1006 3 [1]) (fp hN Tryd.underlying68 3 tyS32 _ (q 6)))) rfl (c (OpJ.guarded (g := 29) (by rfl) (lb hN 68 _ _ tyS32 (ad _) (q 32))) rfl (cg (OpJ.guarded (g := 29) (by rfl) (OpJ.callFn hB fnOk41 (exchangepointref01_Cmp_ac r47 x35.fTo r48 hr48) [] (by kernel_rfl) (L rfl) (by kernel_rfl) (OpdL.cons (q 31) (OpdL.cons (q 33) OpdL.nil)))) rfl (c (OpJ.guarded (g := 29) (by rfl) (OpJ.leq (L rfl) (q 34) (Opd.int .i64 (0)))) rfl (c (OpJ.pickT (L rfl) (q 29) (q 35)) rfl cn))))))))))))))))))))))) (by kernel_rfl) (by kernel_rfl) ?_
            exact hjj42 _ h _ _ (Mat.trans (mp [] [(3, (.ptr 1003 0 [])), (8, (qe_api_Range_6 a0.fAddrs)), (9, (i6 (a0.fAddrs.length : Int))), (10, (i6 s1)), (36, (bo (decide (r48 ≤ (0 : Int)))))] [(1003, some (.box 34 (.d (e_api_Prefix a1))))] hB) (mp [] _ _ hB))
          · replace h := ite_f hg46 h
            refine dr (c (ov (.ptr 1006 0 [0]) (fp hN Tryd.underlying68 0 tyS32 _ (q 6))) rfl (c (ov (.ptr 1006 0 [0, 0]) (fp hN Tryd.underlying32 0 tyS4 _ (q 14))) rfl (c (lb hN 68 _ _ tyS4 (At.dst1 (by rfl) (by rfl) (ad _) (by first | rfl | omega)) (q 15)) rfl (c (ov (.ptr 1003 0 [0]) (fp hN Tryd.underlying34 0 tyS32 _ (q 3))) rfl (c (ov (.ptr 1003 0 [0, 0]) (fp hN Tryd.underlying32 0 tyS4 _ (q 17))) rfl (c (lb hN 34 _ _ tyS4 (At.dst1 (by rfl) (by rfl) (ad _) (by first | rfl | omega)) (q 18)) rfl (c (OpJ.eqlB Tryd.underlying4 (L rfl) (q 16) (q 19)) rfl (c (OpJ.val (v' := .d (.bool true)) (by rw [hg44] <;> rfl) (mv hN (q 20))) rfl (c (OpJ.guarded (g := 21) (by rfl) (ov (.ptr 1006 0 [0]) (fp hN Tryd.underlying68 0 tyS32 _ (q 6)))) rfl (c (OpJ.guarded (g := 21) (by rfl) (lb hN 68 _ _ tyS32 (ad _) (q 22))) rfl (c (OpJ.guarded (g := 21) (by rfl) (ov (.ptr 1003 0 [0]) (fp hN Tryd.underlying34 0 tyS32 _ (q 3)))) rfl (c (OpJ.guarded (g := 21) (by rfl) (lb hN 34 _ _ tyS32 (ad _) (q 24))) rfl (cg (OpJ.guarded (g := 21) (by rfl) (OpJ.callFn hB fnOk41 (exchangepointref01_Cmp_ac x35.fFrom a1.fAddr r45 hr45) [] (by kernel_rfl) (L rfl) (by kernel_rfl) (OpdL.cons (q 23) (OpdL.cons (q 25) OpdL.nil)))) rfl (c (OpJ.guarded (g := 21) (by rfl) (OpJ.leq (L rfl) (q 26) (Opd.int .i64 (0)))) rfl (c (OpJ.pickT (L rfl) (q 21) (q 27)) rfl (c (OpJ.val (v' := .d (.bool false)) (by rw [hg46] <;> rfl) (mv hN (q 28))) rfl (cg (OpJ.skipU (g := 29) (L rfl) (by rfl)) rfl (cg (OpJ.skipU (g := 29) (L rfl) (by rfl)) rfl (cg (OpJ.skipU (g := 29) (L rfl) (by rfl)) rfl (cg (OpJ.skipU (g := 29) (L rfl) (by rfl)) rfl (cg (OpJ.skipU (g := 29) (L rfl) (by rfl)) rfl (cg (OpJ.skipU (g := 29) (L rfl) (by rfl)) rfl (c (OpJ.pickF (L rfl) (q 29) (Opd.bool false)) rfl cn))))))))))))))))))))))) (by kernel_rfl) (by kernel_rfl) ?_
            exact hjj42 _ h _ _ (Mat.trans (mp [] [(3, (.ptr 1003 0 [])), (8, (qe_api_Range_6 a0.fAddrs)), (9, (i6 (a0.fAddrs.length : Int))), (10, (i6 s1)), (36, (bo false))] [(1003, some (.box 34 (.d (e_api_Prefix a1))))] hB) (mp [] _ _ hB))
        · replace h := ite_f hg44 h
          refine dr (c (ov (.ptr 1006 0 [0]) (fp hN Tryd.underlying68 0 tyS32 _ (q 6))) rfl (c (ov (.ptr 1006 0 [0, 0]) (fp hN Tryd.underlying32 0 tyS4 _ (q 14))) rfl (c (lb hN 68 _ _ tyS4 (At.dst1 (by rfl) (by rfl) (ad _) (by first | rfl | omega)) (q 15)) rfl (c (ov (.ptr 1003 0 [0]) (fp hN Tryd.underlying34 0 tyS32 _ (q 3))) rfl (c (ov (.ptr 1003 0 [0, 0]) (fp hN Tryd.underlying32 0 tyS4 _ (q 17))) rfl (c (lb hN 34 _ _ tyS4 (At.dst1 (by rfl) (by rfl) (ad _) (by first | rfl | omega)) (q 18)) rfl (c (OpJ.eqlB Tryd.underlying4 (L rfl) (q 16) (q 19)) rfl (c (OpJ.val (v' := .d (.bool false)) (by rw [hg44] <;> rfl) (mv hN (q 20))) rfl (cg (OpJ.skipU (g := 21) (L rfl) (by rfl)) rfl (cg (OpJ.skipU (g := 21) (L rfl) (by rfl)) rfl (cg (OpJ.skipU (g := 21) (L rfl) (by rfl)) rfl (cg (OpJ.skipU (g := 21) (L rfl) (by rfl)) rfl (cg (OpJ.skipU (g := 21) (L rfl) (by rfl)) rfl (cg (OpJ.skipU (g := 21) (L rfl) (by rfl)) rfl (c (OpJ.pickF (L rfl) (q 21) (Opd.bool false)) rfl (c (mv hN (q 28)) rfl (cg (OpJ.skipU (g := 29) (L rfl) (by rfl)) rfl (cg (OpJ.skipU (g := 29) (L rfl) (by rfl)) rfl (cg (OpJ.skipU (g := 29) (L rfl) (by rfl)) rfl (cg (OpJ.skipU (g := 29) (L rfl) (by rfl)) rfl (cg (OpJ.skipU (g := 29) (L rfl) (by rfl)) rfl (cg (OpJ.skipU (g := 29) (L rfl) (by rfl)) rfl (c (OpJ.pickF (L rfl) (q 29) (Opd.bool false)) rfl cn))))))))))))))))))))))) (by kernel_rfl) (by kernel_rfl) ?_
          exact hjj42 _ h _ _ (Mat.trans (mp [] [(3, (.ptr 1003 0 [])), (8, (qe_api_Range_6 a0.fAddrs)), (9, (i6 (a0.fAddrs.length : Int))), (10, (i6 s1)), (36, (bo false))] [(1003, some (.box 34 (.d (e_api_Prefix a1))))] hB) (mp [] _ _ hB))
    · replace h := ite_f hg34 h
      refine AWp.exit ?_
      refine seqQ_e ?_
      obtain rfl := Option.some.inj h
      exact ⟨(fun hc => by cases hc), rfl, (mp [] _ _ hB)⟩
  · rcases x49 with _ | _
    · obtain ⟨rfl, hmat⟩ := hR
      refine blkQ_r ?_
      refine seqQ_r ?_
      obtain rfl := Option.some.inj h
      exact ⟨.inl rfl, _, _, (Mat.trans hmat (mp [] [(4, (bo true))] [] hB)), [(bo true)], (Res.tmp (by rfl) (by rfl) Res.nil), rfl, by rfl, by rfl, by rfl⟩
    · obtain ⟨rfl, hmat⟩ := hR
      refine blkQ_hit ?_
      refine seqQ_n ?_
      refine AWp.ghost hmat ?_
      refine sr (c (OpJ.assign (L rfl) (Opd.bool false)) rfl cn) ?_
      refine gh [(4, _)] [] hB rfl rfl (by rfl) ?_
      refine AWp.ret ?_
      obtain rfl := Option.some.inj h
      exact ⟨.inl rfl, _, _, (kp [(4, _)] [] hB rfl rfl (by rfl)), [(bo false)], (Res.tmp (by rfl) (by rfl) Res.nil), rfl, by rfl, by rfl, by rfl⟩

noncomputable def resource_HasASN_1 (a0 : api_Span) (a1 : Int) : Option (Bool) :=
  some ((decide (a0.fFrom ≤ a1)) && (decide (a1 ≤ a0.fTo)))
set_option maxHeartbeats 4000000 in
set_option maxRecDepth 100000 in
theorem resource_HasASN_1_ac (a0 : api_Span) (a1 : Int) (r : Bool) (h : resource_HasASN_1 a0 a1 = some r) : AC Tryd.prog 44 [(.d (e_api_Span a0)), (.ptr 0 0 [])] [(0, (.box 3 (.d (.int .i64 a1))))] (.d (.bool r)) [(0, some (.box 3 (.d (.int .i64 a1))))] := by
  refine AC.of_code2 Tryd.func44 rfl rfl (Nat.le_of_ble_eq_true (by rfl)) fun B hB hN => ?_
  delta resource_HasASN_1 at h
  refine sr (cg (OpJ.box hB (nm := 1002) (by decide) (by simp) rfl (ltN hN rfl) (q 0)) rfl (c (OpJ.assign (ltN hN rfl) (Opd.bool false)) rfl cn)) ?_
  refine gh [(1, _), (2, _)] [(0, some _), (1002, some _)] hB rfl rfl (by rfl) ?_
  refine sr (c (ov (.ptr 1002 0 [0]) (fp hN Tryd.underlying48 0 tyS3 _ (q 2))) rfl (c (lb hN 48 _ _ tyS3 (ad _) (q 4)) rfl (c (lb hN 3 _ _ tyS3 (At.here _) (q 1)) rfl (c (OpJ.leq (ltN hN rfl) (q 5) (q 6)) rfl (c (mv hN (q 7)) rfl (c (oq hN 8 (lb hN 3 _ _ tyS3 (At.here _) (q 1)) (OptL.keep (by rfl) OptL.nil) (GuardV.plain _)) rfl (c (oq hN 8 (ov (.ptr 1002 1 [1]) (fp hN Tryd.underlying48 1 tyS3 _ (q 2))) (OptL.keep (by rfl) OptL.nil) (GuardV.plain _)) rfl (c (oq hN 8 (lb hN 48 _ _ tyS3 (ad _) (q 10)) (OptL.opt OptL.nil) (GuardV.plain _)) rfl (c (oq hN 8 (OpJ.leq (ltN hN rfl) (q 9) (q 11)) (OptL.opt (OptL.opt OptL.nil)) (GuardV.plain _)) rfl (c (OpJ.pickAnd rfl (ltN hN rfl) (q 8) (q 12)) rfl (c (OpJ.assign (ltN hN rfl) (q 13)) rfl cn))))))))))) ?_
  refine gh [(3, _)] [(0, some _)] hB rfl rfl (by rfl) ?_
  refine AWp.ret ?_
  obtain rfl := Option.some.inj h
  exact ⟨.inl rfl, _, _, (kp [(3, _)] [(0, some _)] hB rfl rfl (by rfl)), [(bo ((decide (a0.fFrom ≤ a1)) && (decide (a1 ≤ a0.fTo))))], (Res.tmp (by rfl) (by rfl) Res.nil), rfl, by rfl, by rfl, by rfl⟩

noncomputable def slices_IndexFunc_3_L0 (a0 : (List api_Span)) (a1 : Int) (s1 : Int) : Option (((Int) ⊕ (Unit)) ⊕ (Int)) :=
  (if (decide (s1 < (a0.length : Int))) = true then
  (idx a0 s1).bind fun x13 =>
  (resource_HasASN_1 x13 a1).bind fun r14 =>
  (if r14 = true then
  some (.inl (.inl s1))
  else
  some (.inr (w64 (s1 + (1 : Int)))))
  else
  some (.inl (.inr ())))
noncomputable def slices_IndexFunc_3 (a0 : (List api_Span)) (a1 : Int) : Option (Int) :=
  (loop (slices_IndexFunc_3_L0 a0 a1) (0 : Int)).bind fun x16 => match x16 with
  | (.inl p10) =>
    some p10
  | (.inr _) =>
    some (-1 : Int)
set_option maxHeartbeats 4000000 in
set_option maxRecDepth 100000 in
theorem slices_IndexFunc_3_ac (a0 : (List api_Span)) (a1 : Int) (r : Int) (h : slices_IndexFunc_3 a0 a1 = some r) : AC Tryd.prog 77 [(.d (.list 2 (a0.map e_api_Span))), (.func 44 [(.ptr 0 0 [])])] [(0, (.box 3 (.d (.int .i64 a1))))] (.d (.int .i64 r)) [(0, some (.box 3 (.d (.int .i64 a1))))] := by
  refine AC.of_code2 Tryd.func77 rfl rfl (Nat.le_of_ble_eq_true (by rfl)) fun B hB hN => ?_
  delta slices_IndexFunc_3 at h
  refine sr (c (OpJ.assign (ltN hN rfl) (Opd.int .i64 (0))) rfl cn) ?_
  refine gh [(0, _), (1, _)] [(0, some _)] hB rfl rfl (by rfl) ?_
  refine AWp.seq ?_
  refine sr (c (mv hN (q 0)) rfl (c (OpJ.val (v' := (i6 (a0.length : Int))) (by simp) (OpJ.lenD Tryd.underlying26 (ltN hN rfl) (q 6))) rfl (c (mv hN (Opd.int .i64 (0))) rfl cn))) ?_
  refine gh [(0, _), (1, _), (7, _), (8, _)] [(0, some _)] hB rfl rfl (by rfl) ?_
  refine AWp.block ?_
  obtain ⟨x16, hx17, h⟩ := bindS h
  refine lg (slices_IndexFunc_3_L0 a0 a1) (fun s1 : Int => ([(0, (qe_api_Span_2 a0)), (1, (.func 44 [(.ptr 0 0 [])])), (7, (i6 (a0.length : Int))), (8, (i6 s1))] : EL)) (fun s1 : Int => ([(0, some (.box 3 (i6 a1)))] : OL)) (fun (x : (Int) ⊕ (Unit)) e E' O' => match x with | (.inl p10) => e = .ret ∧ Mat B E' O' ([(4, (i6 p10))] : EL) ([(0, some (.box 3 (i6 a1)))] : OL) | (.inr _p) => e = .exit 0 ∧ Mat B E' O' ([] : EL) ([(0, some (.box 3 (i6 a1)))] : OL)) hx17 (mp [] _ _ hB) (fun s1 y h => ?_) (fun e E' O' hR => ?_)
  · unfold slices_IndexFunc_3_L0 at h
    refine sr (c (OpJ.lss (ltN hN rfl) (q 8) (q 7)) rfl cn) ?_
    refine gh [(0, _), (1, _), (7, _), (8, _), (9, _)] [(0, some _)] hB rfl rfl (by rfl) ?_
    refine AWp.seq ?_
    refine AWp.cond rfl (fun hg12 => ?_) (fun hg12 => ?_)
    · replace h := ite_t hg12 h
      refine AWp.skip ?_
      refine seqQ_n ?_
      refine AWp.seq ?_
      refine AWp.block ?_
      refine sr (c (mv hN (q 8)) rfl (c (OpJ.assign (ltN hN rfl) (q 10)) rfl cn)) ?_
      refine gh [(0, _), (1, _), (5, _), (7, _), (8, _)] [(0, some _)] hB rfl rfl (by rfl) ?_
      refine AWp.seq ?_
      obtain ⟨x13, hx13, h⟩ := bindS h
      obtain ⟨r14, hr14, h⟩ := bindS h
      refine AWp.region (oc (mv hN (ot 1 (.func 44 [(.ptr 0 0 [])])))
        (oc (mv hN (ot 0 (qe_api_Span_2 a0)))
        (oc (mv hN (ot 5 (i6 s1)))
        (oc (OpJ.indexD (el := (e_api_Span x13)) Tryd.underlying26 tyS48 (idx_some hx13).1 (get_map e_api_Span (idx_some hx13).2) (ltN hN rfl) (ot 12 (qe_api_Span_2 a0)) (ot 13 (i6 s1)))
        (oc (OpJ.loadD tyS48 (by rfl) (by rfl) (ltN hN rfl) (ot 14 (.dptr (e_api_Span x13))))
        (oc (OpJ.callVal (args := [(.d (e_api_Span x13))]) (caps := [(.ptr 0 0 [])]) hB fnOk44 [(0, 0)] (resource_HasASN_1_ac x13 a1 r14 hr14) (by kernel_rfl) (ltN hN rfl) (by kernel_rfl) (by kernel_rfl) (OpdL.cons (ot 15 (.d (e_api_Span x13))) OpdL.nil))
        (OpJs.nil))))))) (by rfl) (by rfl) ?_
      refine seqQ_n ?_
      refine AWp.ghost (mp [] [(0, (qe_api_Span_2 a0)), (1, (.func 44 [(.ptr 0 0 [])])), (5, (i6 s1)), (7, (i6 (a0.length : Int))), (8, (i6 s1)), (16, (bo r14))] [(0, some (.box 3 (i6 a1)))] hB) ?_
      refine AWp.cond rfl (fun hg15 => ?_) (fun hg15 => ?_)
      · replace h := ite_t hg15 h
        refine sr (c (mv hN (q 5)) rfl (c (OpJ.assign (ltN hN rfl) (q 17)) rfl cn)) ?_
        refine gh [(4, _)] [(0, some _)] hB rfl rfl (by rfl) ?_
        refine AWp.ret ?_
        refine blkQ_r ?_
        refine seqQ_r ?_
        obtain rfl := Option.some.inj h
        exact ⟨(fun hc => by cases hc), rfl, (mp [] _ _ hB)⟩
      · replace h := ite_f hg15 h
        refine AWp.skip ?_
        refine blkQ_n ?_
        refine seqQ_n ?_
        refine rg (c (add6 (ltN hN rfl) (q 8) (Opd.int .i64 (1))) rfl (c (mv hN (q 18)) rfl cn)) ?_
        obtain rfl := Option.some.inj h
        exact ⟨rfl, (Mat.trans (mp [] [(0, (qe_api_Span_2 a0)), (1, (.func 44 [(.ptr 0 0 [])])), (7, (i6 (a0.length : Int))), (8, (i6 (w64 (s1 + (1 : Int)))))] [(0, some (.box 3 (i6 a1)))] hB) (mp [] _ _ hB))⟩
    · replace h := ite_f hg12 h
      refine AWp.exit ?_
      refine seqQ_e ?_
      obtain rfl := Option.some.inj h
      exact ⟨(fun hc => by cases hc), rfl, (mp [] _ _ hB)⟩
  · rcases x16 with p10 | _
    · obtain ⟨rfl, hmat⟩ := hR
      refine blkQ_r ?_
      refine seqQ_r ?_
      obtain rfl := Option.some.inj h
      exact ⟨.inl rfl, _, _, (Mat.trans hmat (mp [] [(4, (i6 p10))] [(0, some (.box 3 (i6 a1)))] hB)), [(i6 p10)], (Res.tmp (by rfl) (by rfl) Res.nil), rfl, by rfl, by rfl, by rfl⟩
    · obtain ⟨rfl, hmat⟩ := hR
      refine blkQ_hit ?_
      refine seqQ_n ?_
      refine AWp.ghost hmat ?_
      refine sr (c (OpJ.assign (ltN hN rfl) (Opd.int .i64 (-1))) rfl cn) ?_
      refine gh [(4, _)] [(0, some _)] hB rfl rfl (by rfl) ?_
      refine AWp.ret ?_
      obtain rfl := Option.some.inj h
      exact ⟨.inl rfl, _, _, (kp [(4, _)] [(0, some _)] hB rfl rfl (by rfl)), [(i6 (-1 : Int))], (Res.tmp (by rfl) (by rfl) Res.nil), rfl, by rfl, by rfl, by rfl⟩

noncomputable def slices_ContainsFunc_3 (a0 : (List api_Span)) (a1 : Int) : Option (Bool) :=
  (slices_IndexFunc_3 a0 a1).bind fun r1 =>
  some (decide ((0 : Int) ≤ r1))
set_option maxHeartbeats 4000000 in
set_option maxRecDepth 100000 in
theorem slices_ContainsFunc_3_ac (a0 : (List api_Span)) (a1 : Int) (r : Bool) (h : slices_ContainsFunc_3 a0 a1 = some r) : AC Tryd.prog 43 [(.d (.list 2 (a0.map e_api_Span))), (.func 44 [(.ptr 0 0 [])])] [(0, (.box 3 (.d (.int .i64 a1))))] (.d (.bool r)) [(0, some (.box 3 (.d (.int .i64 a1))))] := by
  refine AC.of_code2 Tryd.func43 rfl rfl (Nat.le_of_ble_eq_true (by rfl)) fun B hB hN => ?_
  delta slices_ContainsFunc_3 at h
  refine sr (c (OpJ.assign (ltN hN rfl) (Opd.bool false)) rfl cn) ?_
  refine gh [(0, _), (1, _)] [(0, some _)] hB rfl rfl (by rfl) ?_
  refine AWp.seq ?_
  obtain ⟨r1, hr1, h⟩ := bindS h
  refine AWp.region (oc (mv hN (ot 0 (qe_api_Span_2 a0)))
  (oc (mv hN (ot 1 (.func 44 [(.ptr 0 0 [])])))
  (oc (OpJ.callFn hB fnOk77 (slices_IndexFunc_3_ac a0 a1 r1 hr1) [(0, 0)] (by kernel_rfl) (ltN hN rfl) (by kernel_rfl) (OpdL.cons (ot 5 (qe_api_Span_2 a0)) (OpdL.cons (ot 6 (.func 44 [(.ptr 0 0 [])])) OpdL.nil)))
  (oc (OpJ.geq (ltN hN rfl) (ot 7 (i6 r1)) (Opd.int .i64 (0)))
  (oc (OpJ.assign (ltN hN rfl) (ot 8 (bo (decide ((0 : Int) ≤ r1)))))
  (OpJs.nil)))))) (by rfl) (by rfl) ?_
  refine seqQ_n ?_
  refine AWp.ghost (mp [] [(4, (bo (decide ((0 : Int) ≤ r1))))] [(0, some (.box 3 (i6 a1)))] hB) ?_
  refine AWp.ret ?_
  obtain rfl := Option.some.inj h
  exact ⟨.inl rfl, _, _, (kp [(4, _)] [(0, some _)] hB rfl rfl (by rfl)), [(bo (decide ((0 : Int) ≤ r1)))], (Res.tmp (by rfl) (by rfl) Res.nil), rfl, by rfl, by rfl, by rfl⟩

noncomputable def resource_HasASN (a0 : api_Resources) (a1 : Int) : Option (Bool) :=
  (slices_ContainsFunc_3 a0.fASNs a1).bind fun r1 =>
  some r1
set_option maxHeartbeats 4000000 in
set_option maxRecDepth 100000 in
theorem resource_HasASN_ac (a0 : api_Resources) (a1 : Int) (r : Bool) (h : resource_HasASN a0 a1 = some r) : AC Tryd.prog 15 [(.d (e_api_Resources a0)), (.d (.int .i64 a1))] [] (.d (.bool r)) [] := by
  refine AC.of_code2 Tryd.func15 rfl rfl (Nat.le_of_ble_eq_true (by rfl)) fun B hB hN => ?_
  delta resource_HasASN at h
  refine sr (cg (OpJ.box hB (nm := 1002) (by decide) (by simp) rfl (ltN hN rfl) (q 0)) rfl (cg (OpJ.box hB (nm := 1003) (by decide) (by simp) rfl (ltN hN rfl) (q 1)) rfl (c (OpJ.assign (ltN hN rfl) (Opd.bool false)) rfl cn))) ?_
  refine gh [(2, _), (3, _)] [(1002, some _), (1003, some _)] hB rfl rfl (by rfl) ?_
  refine AWp.seq ?_
  obtain ⟨r1, hr1, h⟩ := bindS h
  refine AWp.region (oc (ov (.ptr 1002 1 [1]) (fp hN Tryd.underlying28 1 tyS26 (.box 28 (.d (e_api_Resources a0))) (ot 2 (.ptr 1002 0 []))))
  (oc (lb hN 28 (.d (e_api_Resources a0)) (qe_api_Span_2 a0.fASNs) tyS26 (ad (.list 2 (a0.fASNs.map e_api_Span))) (ot 5 (.ptr 1002 1 [1])))
  (oc (OpJ.makeF (OpdL.cons (ot 3 (.ptr 1003 0 [])) OpdL.nil) rfl rfl (ltN hN rfl))
  (oc (OpJ.callFn hB fnOk43 (slices_ContainsFunc_3_ac a0.fASNs a1 r1 hr1) [(0, 1003)] (by kernel_rfl) (ltN hN rfl) (by kernel_rfl) (OpdL.cons (ot 6 (qe_api_Span_2 a0.fASNs)) (OpdL.cons (ot 7 (.func 44 [(.ptr 1003 0 [])])) OpdL.nil)))
  (oc (OpJ.assign (ltN hN rfl) (ot 8 (bo r1)))
  (OpJs.nil)))))) (by rfl) (by rfl) ?_
  refine seqQ_n ?_
  refine AWp.ghost (mp [] [(4, (bo r1))] [] hB) ?_
  refine AWp.ret ?_
  obtain rfl := Option.some.inj h
  exact ⟨.inl rfl, _, _, (kp [(4, _)] [] hB rfl rfl (by rfl)), [(bo r1)], (Res.tmp (by rfl) (by rfl) Res.nil), rfl, by rfl, by rfl, by rfl⟩

noncomputable def exchangepointref21_HasASN_L0 (a0 : api_Resources) (a1 : Int) (s1 : Int) : Option (((Unit) ⊕ (Unit)) ⊕ (Int)) :=
  (if (decide (s1 < (a0.fASNs.length : Int))) = true then
  (idx a0.fASNs s1).bind fun x11 =>
  (if ((decide (x11.fFrom ≤ a1)) && (decide (a1 ≤ x11.fTo))) = true then
  some (.inl (.inl ()))
  else
  some (.inr (w64 (s1 + (1 : Int)))))
  else
  some (.inl (.inr ())))
noncomputable def exchangepointref21_HasASN (a0 : api_Resources) (a1 : Int) : Option (Bool) :=
  (loop (exchangepointref21_HasASN_L0 a0 a1) (0 : Int)).bind fun x13 => match x13 with
  | (.inl _) =>
    some true
  | (.inr _) =>
    some false
set_option maxHeartbeats 4000000 in
set_option maxRecDepth 100000 in
theorem exchangepointref21_HasASN_ac (a0 : api_Resources) (a1 : Int) (r : Bool) (h : exchangepointref21_HasASN a0 a1 = some r) : AC Tryd.prog 16 [(.d (e_api_Resources a0)), (.d (.int .i64 a1))] [] (.d (.bool r)) [] := by
  refine AC.of_code2 Tryd.func16 rfl rfl (Nat.le_of_ble_eq_true (by rfl)) fun B hB hN => ?_
  have L {d : Nat} (h : Nat.blt d Tryd.f16.ntmps = true) : d < B.N := ltN hN h
  delta exchangepointref21_HasASN at h
  refine sr (cg (OpJ.box hB (nm := 1002) (by decide) (by simp) rfl (L rfl) (q 0)) rfl (c (OpJ.assign (L rfl) (Opd.bool false)) rfl cn)) ?_
  refine gh [(1, _), (2, _)] [(1002, some _)] hB rfl rfl (by rfl) ?_
  refine AWp.seq ?_
  refine sr (c (ov (.ptr 1002 1 [1]) (fp hN Tryd.underlying28 1 tyS26 _ (q 2))) rfl (c (lb hN 28 _ _ tyS26 (ad _) (q 7)) rfl (c (OpJ.val (v' := (i6 (a0.fASNs.length : Int))) (by simp) (OpJ.lenD Tryd.underlying26 (L rfl) (q 8))) rfl (c (mv hN (Opd.int .i64 (0))) rfl cn)))) ?_
  refine gh [(1, _), (8, _), (9, _), (10, _)] [] hB rfl rfl (by rfl) ?_
  refine AWp.block ?_
  obtain ⟨x13, hx14, h⟩ := bindS h
  refine lg (exchangepointref21_HasASN_L0 a0 a1) (fun s1 : Int => ([(1, (i6 a1)), (8, (qe_api_Span_2 a0.fASNs)), (9, (i6 (a0.fASNs.length : Int))), (10, (i6 s1))] : EL)) (fun s1 : Int => ([] : OL)) (fun (x : (Unit) ⊕ (Unit)) e E' O' => match x with | (.inl _p) => e = .ret ∧ Mat B E' O' ([(4, (bo true))] : EL) ([] : OL) | (.inr _p) => e = .exit 0 ∧ Mat B E' O' ([] : EL) ([] : OL)) hx14 (mp [] _ _ hB) (fun s1 y h => ?_) (fun e E' O' hR => ?_)
  · unfold exchangepointref21_HasASN_L0 at h
    refine sr (c (OpJ.lss (L rfl) (q 10) (q 9)) rfl cn) ?_
    refine gh [(1, _), (8, _), (9, _), (10, _), (11, _)] [] hB rfl rfl (by rfl) ?_
    refine AWp.seq ?_
    refine AWp.cond rfl (fun hg10 => ?_) (fun hg10 => ?_)
    · replace h := ite_t hg10 h
      refine AWp.skip ?_
      refine seqQ_n ?_
      refine AWp.seq ?_
      refine AWp.block ?_
      obtain ⟨x11, hx11, h⟩ := bindS h
      refine sr (c (OpJ.indexD Tryd.underlying26 tyS48 (idx_some hx11).1 (get_map e_api_Span (idx_some hx11).2) (L rfl) (q 8) (q 10)) rfl (c (OpJ.loadD tyS48 (by rfl) (by rfl) (L rfl) (q 12)) rfl (cg (OpJ.alloc hB tyZ48 (nm := 1006) (by decide) (L rfl)) rfl (cg (OpJ.storeB tyS48 (SetAt.here _ _) (by rfl) (by rfl) (by simp) rfl (q 6) (q 13)) rfl cn)))) ?_
      refine gh [(1, _), (6, _), (8, _), (9, _), (10, _)] [(1006, some _)] hB rfl rfl (by rfl) ?_
      refine sr (c (mv hN (q 1)) rfl (c (ov (.ptr 1006 0 [0]) (fp hN Tryd.underlying48 0 tyS3 _ (q 6))) rfl (c (lb hN 48 _ _ tyS3 (ad _) (q 15)) rfl (c (OpJ.geq (L rfl) (q 14) (q 16)) rfl (c (mv hN (q 17)) rfl (c (oq hN 18 (mv hN (q 1)) (OptL.keep (by rfl) OptL.nil) (GuardV.plain _)) rfl (c (oq hN 18 (ov (.ptr 1006 1 [1]) (fp hN Tryd.underlying48 1 tyS3 _ (q 6))) (OptL.keep (by rfl) OptL.nil) (GuardV.plain _)) rfl (c (oq hN 18 (lb hN 48 _ _ tyS3 (ad _) (q 20)) (OptL.opt OptL.nil) (GuardV.plain _)) rfl (c (oq hN 18 (OpJ.leq (L rfl) (q 19) (q 21)) (OptL.opt (OptL.opt OptL.nil)) (GuardV.plain _)) rfl (c (OpJ.pickAnd rfl (L rfl) (q 18) (q 22)) rfl cn)))))))))) ?_
      refine gh [(1, _), (8, _), (9, _), (10, _), (23, _)] [] hB rfl rfl (by rfl) ?_
      refine AWp.cond rfl (fun hg12 => ?_) (fun hg12 => ?_)
      · replace h := ite_t hg12 h
        refine sr (c (OpJ.assign (L rfl) (Opd.bool true)) rfl cn) ?_
        refine gh [(4, _)] [] hB rfl rfl (by rfl) ?_
        refine AWp.ret ?_
        refine blkQ_r ?_
        refine seqQ_r ?_
        obtain rfl := Option.some.inj h
        exact ⟨(fun hc => by cases hc), rfl, (mp [] _ _ hB)⟩
      · replace h := ite_f hg12 h
        refine AWp.skip ?_
        refine blkQ_n ?_
        refine seqQ_n ?_
        refine rg (c (add6 (L rfl) (q 10) (Opd.int .i64 (1))) rfl (c (mv hN (q 24)) rfl cn)) ?_
        obtain rfl := Option.some.inj h
        exact ⟨rfl, (Mat.trans (mp [] [(1, (i6 a1)), (8, (qe_api_Span_2 a0.fASNs)), (9, (i6 (a0.fASNs.length : Int))), (10, (i6 (w64 (s1 + (1 : Int)))))] [] hB) (mp [] _ _ hB))⟩
    · replace h := ite_f hg10 h
      refine AWp.exit ?_
      refine seqQ_e ?_
      obtain rfl := Option.some.inj h
      exact ⟨(fun hc => by cases hc), rfl, (mp [] _ _ hB)⟩
  · rcases x13 with _ | _
    · obtain ⟨rfl, hmat⟩ := hR
      refine blkQ_r ?_
      refine seqQ_r ?_
      obtain rfl := Option.some.inj h
      exact ⟨.inl rfl, _, _, (Mat.trans hmat (mp [] [(4, (bo true))] [] hB)), [(bo true)], (Res.tmp (by rfl) (by rfl) Res.nil), rfl, by rfl, by rfl, by rfl⟩
    · obtain ⟨rfl, hmat⟩ := hR
      refine blkQ_hit ?_
      refine seqQ_n ?_
      refine AWp.ghost hmat ?_
      refine sr (c (OpJ.assign (L rfl) (Opd.bool false)) rfl cn) ?_
      refine gh [(4, _)] [] hB rfl rfl (by rfl) ?_
      refine AWp.ret ?_
      obtain rfl := Option.some.inj h
      exact ⟨.inl rfl, _, _, (kp [(4, _)] [] hB rfl rfl (by rfl)), [(bo false)], (Res.tmp (by rfl) (by rfl) Res.nil), rfl, by rfl, by rfl, by rfl⟩

noncomputable def exchangepointlaw21_awake : Option (Bool) :=
  (resource_Prefixes (api_Resources.mk ([(api_Range.mk (api_Addr.mk false (0 : Int) (167772160 : Int)) (api_Addr.mk false (0 : Int) (167772162 : Int)))] : List api_Range) ([] : List api_Span))).bind fun r1 =>
  jn (fun m8 : Bool =>
  some m8) (fun j9 =>
  (if ((r1.length : Int) == (2 : Int)) = true then
  (idx r1 (0 : Int)).bind fun x11 =>
  (if (x11.fLen == (31 : Int)) = true then
  (idx r1 (1 : Int)).bind fun x13 =>
  (if (x13.fLen == (32 : Int)) = true then
  (idx r1 (1 : Int)).bind fun x15 =>
  j9 (x15.fAddr.fLo == (167772162 : Int))
  else
  j9 false)
  else
  j9 false)
  else
  j9 false))
set_option maxHeartbeats 4000000 in
set_option maxRecDepth 100000 in
theorem exchangepointlaw21_awake_ac (r : Bool) (h : exchangepointlaw21_awake = some r) : AC Tryd.prog 17 [] [(500, (.know (globF 0 [35, 37, 137]))), (501, (.know (globF 1 [70, 138, 139])))] (.d (.bool r)) [(500, some (.know (globF 0 [35, 37, 137]))), (501, some (.know (globF 1 [70, 138, 139])))] := by
  refine AC.of_code2 Tryd.func17 rfl rfl (Nat.le_of_ble_eq_true (by rfl)) fun B hB hN => ?_
  have L {d : Nat} (h : Nat.blt d Tryd.f17.ntmps = true) : d < B.N := ltN hN h
  delta exchangepointlaw21_awake at h
  refine sr (c (OpJ.assign (L rfl) (Opd.bool false)) rfl cn) ?_
  refine gh [] [(500, some _), (501, some _)] hB rfl rfl (by rfl) ?_
  refine AWp.seq ?_
  obtain ⟨r1, hr1, h⟩ := bindS h
  refine AWp.region (oc (OpJ.coe (v := (.st [(bo false), (.d (.int .u64 0)), (.d (.int .u64 (167772160 : Int)))])) (y := (.st [(.bool false), (.int .u64 0), (.int .u64 (167772160 : Int))])) (Co.st (CoL.cons (Co.d _) (CoL.cons (Co.d _) (CoL.cons (Co.d _) CoL.nil)))) rfl (OpJ.build (places := [(0, 1), (1, 1), (2, 1)]) ⟨Tryd.underlying32, fun w => by kernel_rfl⟩ tyZS32 (Opds.cons (Opd.int .u64 (167772160)) Opds.nil) (by kernel_rfl) (r := (.st [(bo false), (.d (.int .u64 0)), (.d (.int .u64 (167772160 : Int)))])) (by rfl) (L rfl)))
  (oc (OpJ.coe (v := (.st [(bo false), (.d (.int .u64 0)), (.d (.int .u64 (167772162 : Int)))])) (y := (.st [(.bool false), (.int .u64 0), (.int .u64 (167772162 : Int))])) (Co.st (CoL.cons (Co.d _) (CoL.cons (Co.d _) (CoL.cons (Co.d _) CoL.nil)))) rfl (OpJ.build (places := [(0, 1), (1, 1), (2, 1)]) ⟨Tryd.underlying32, fun w => by kernel_rfl⟩ tyZS32 (Opds.cons (Opd.int .u64 (167772162)) Opds.nil) (by kernel_rfl) (r := (.st [(bo false), (.d (.int .u64 0)), (.d (.int .u64 (167772162 : Int)))])) (by rfl) (L rfl)))
  (oc (OpJ.coe (v := (.st [(.d (.st [(.bool false), (.int .u64 0), (.int .u64 (167772160 : Int))])), (.d (.st [(.bool false), (.int .u64 0), (.int .u64 (167772162 : Int))]))])) (y := (.st [(.st [(.bool false), (.int .u64 0), (.int .u64 (167772160 : Int))]), (.st [(.bool false), (.int .u64 0), (.int .u64 (167772162 : Int))])])) (Co.st (CoL.cons (Co.d _) (CoL.cons (Co.d _) CoL.nil))) rfl (OpJ.build (places := [(0, 3), (3, 3)]) ⟨Tryd.underlying68, fun w => by kernel_rfl⟩ tyZS68 (Opds.cons (ot 2 (.d (.st [(.bool false), (.int .u64 0), (.int .u64 (167772160 : Int))]))) (Opds.cons (ot 3 (.d (.st [(.bool false), (.int .u64 0), (.int .u64 (167772162 : Int))]))) Opds.nil)) (by kernel_rfl) (r := (.st [(.d (.st [(.bool false), (.int .u64 0), (.int .u64 (167772160 : Int))])), (.d (.st [(.bool false), (.int .u64 0), (.int .u64 (167772162 : Int))]))])) (by rfl) (L rfl)))
  (oc (OpJ.buildSlice Tryd.underlying25 tyS68 tyZD68 (by rfl) (by decide) (by decide) (Opds.cons (ot 4 (.d (.st [(.st [(.bool false), (.int .u64 0), (.int .u64 (167772160 : Int))]), (.st [(.bool false), (.int .u64 0), (.int .u64 (167772162 : Int))])]))) Opds.nil) (by kernel_rfl) (es := ([(.st [(.st [(.bool false), (.int .u64 0), (.int .u64 (167772160 : Int))]), (.st [(.bool false), (.int .u64 0), (.int .u64 (167772162 : Int))])])] : List D)) (by rfl) (by rfl) (by kernel_rfl) (by simp) (L rfl))
  (oc (OpJ.build (places := [(0, 1), (1, 1)]) ⟨Tryd.underlying28, fun w => by kernel_rfl⟩ tyZS28 (Opds.cons (ot 5 (qe_api_Range_6 ([(api_Range.mk (api_Addr.mk false (0 : Int) (167772160 : Int)) (api_Addr.mk false (0 : Int) (167772162 : Int)))] : List api_Range))) Opds.nil) (by kernel_rfl) (r := (.st [(qe_api_Range_6 ([(api_Range.mk (api_Addr.mk false (0 : Int) (167772160 : Int)) (api_Addr.mk false (0 : Int) (167772162 : Int)))] : List api_Range)), .nils])) (by rfl) (L rfl))
  (oc (OpJ.callFn hB fnOk11 (resource_Prefixes_ac (api_Resources.mk ([(api_Range.mk (api_Addr.mk false (0 : Int) (167772160 : Int)) (api_Addr.mk false (0 : Int) (167772162 : Int)))] : List api_Range) ([] : List api_Span)) r1 hr1) [(500, 500), (501, 501)] (by kernel_rfl) (L rfl) (by kernel_rfl) (OpdL.cons (Opd.tw (ot 6 (.st [(qe_api_Range_6 ([(api_Range.mk (api_Addr.mk false (0 : Int) (167772160 : Int)) (api_Addr.mk false (0 : Int) (167772162 : Int)))] : List api_Range)), .nils])) (Tw.leaf ⟨_, (Co.st (CoL.cons (Co.d _) (CoL.cons (Co.nils 2) CoL.nil))), rfl⟩)) OpdL.nil))
  (oc (OpJ.assign (L rfl) (ot 7 (qe_api_Prefix_4 r1)))
  (OpJs.nil)))))))) (by rfl) (by rfl) ?_
  refine seqQ_n ?_
  refine AWp.ghost (mp [] [(1, (qe_api_Prefix_4 r1))] [(500, some (.know (globF 0 [35, 37, 137]))), (501, some (.know (globF 1 [70, 138, 139])))] hB) ?_
  refine AWp.seq ?_
  refine AWp.cut h (fun m8 : Bool => ([(0, (bo m8))] : EL)) (fun m8 : Bool => ([(500, some (.know (globF 0 [35, 37, 137]))), (501, some (.know (globF 1 [70, 138, 139])))] : OL)) (fun m8 h E' O' hmat => ?_) (fun j9 hjj9 h => ?_)
  · refine seqQ_n ?_
    refine AWp.ghost hmat ?_
    refine AWp.ret ?_
    obtain rfl := Option.some.inj h
    exact ⟨.inl rfl, _, _, (kp [(0, _)] [(500, some _), (501, some _)] hB rfl rfl (by rfl)), [(bo m8)], (Res.tmp (by rfl) (by rfl) Res.nil), rfl, by rfl, by rfl, by rfl⟩
  · rcases Bool.eq_false_or_eq_true ((r1.length : Int) == (2 : Int)) with hg10 | hg10
    · replace h := ite_t hg10 h
      obtain ⟨x11, hx11, h⟩ := bindS h
      rcases Bool.eq_false_or_eq_true (x11.fLen == (31 : Int)) with hg12 | hg12
      · replace h := ite_t hg12 h
        obtain ⟨x13, hx13, h⟩ := bindS h
        rcases Bool.eq_false_or_eq_true (x13.fLen == (32 : Int)) with hg14 | hg14
        · replace h := ite_t hg14 h
          obtain ⟨x15, hx15, h⟩ := bindS h
          refine rg (c (mv hN (q 1)) rfl (c (OpJ.val (v' := (i6 (r1.length : Int))) (by simp) (OpJ.lenD Tryd.underlying36 (L rfl) (q 8))) rfl (c (OpJ.eqlI (L rfl) (q 9) (Opd.int .i64 (2))) rfl (c (OpJ.val (v' := .d (.bool true)) (by rw [hg10] <;> rfl) (mv hN (q 10))) rfl (c (OpJ.guarded (g := 11) (by rfl) (mv hN (q 1))) rfl (c (OpJ.guarded (g := 11) (by rfl) (OpJ.indexD Tryd.underlying36 tyS34 (idx_some hx11).1 (get_map e_api_Prefix (idx_some hx11).2) (L rfl) (q 12) (Opd.int .i64 (0)))) rfl (c (OpJ.guarded (g := 11) (by rfl) (OpJ.fieldD Tryd.underlying34 (by rfl) (o := 3) (by rfl) tyS3 (by decide) (by rfl) (by rfl) (L rfl) (q 13))) rfl (c (OpJ.guarded (g := 11) (by rfl) (OpJ.loadD tyS3 (by rfl) (by rfl) (L rfl) (q 14))) rfl (c (OpJ.guarded (g := 11) (by rfl) (OpJ.eqlI (L rfl) (q 15) (Opd.int .i64 (31)))) rfl (c (OpJ.pickT (L rfl) (q 11) (q 16)) rfl (c (OpJ.val (v' := .d (.bool true)) (by rw [hg12] <;> rfl) (mv hN (q 17))) rfl (c (OpJ.guarded (g := 18) (by rfl) (mv hN (q 1))) rfl (c (OpJ.guarded (g := 18) (by rfl) (OpJ.indexD Tryd.underlying36 tyS34 (idx_some hx13).1 (get_map e_api_Prefix (idx_some hx13).2) (L rfl) (q 19) (Opd.int .i64 (1)))) rfl (c (OpJ.guarded (g := 18) (by rfl) (OpJ.fieldD Tryd.underlying34 (by rfl) (o := 3) (by rfl) tyS3 (by decide) (by rfl) (by rfl) (L rfl) (q 20))) rfl (c (OpJ.guarded (g := 18) (by rfl) (OpJ.loadD tyS3 (by rfl) (by rfl) (L rfl) (q 21))) rfl (c (OpJ.guarded (g := 18) (by rfl) (OpJ.eqlI (L rfl) (q 22) (Opd.int .i64 (32)))) rfl (c (OpJ.pickT (L rfl) (q 18) (q 23)) rfl (c (OpJ.val (v' := .d (.bool true)) (by rw [hg14] <;> rfl) (mv hN (q 24))) rfl (c (OpJ.guarded (g := 25) (by rfl) (mv hN (q 1))) rfl (c (OpJ.guarded (g := 25) (by rfl) (OpJ.indexD Tryd.underlying36 tyS34 (idx_some hx15).1 (get_map e_api_Prefix (idx_some hx15).2) (L rfl) (q 26) (Opd.int .i64 (1)))) rfl (c (OpJ.guarded (g := 25) (by rfl) (OpJ.fieldD Tryd.underlying34 (by rfl) (o := 0) (by rfl) tyS32 (by decide) (by rfl) (by rfl) (L rfl) (q 27))) rfl (c (OpJ.guarded (g := 25) (by rfl) (OpJ.fieldD Tryd.underlying32 (by rfl) (o := 2) (by rfl) tyS30 (by decide) (by rfl) (by rfl) (L rfl) (q 28))) rfl (c (OpJ.guarded (g := 25) (by rfl) (OpJ.loadD tyS30 (by rfl) (by rfl) (L rfl) (q 29))) rfl (c (OpJ.guarded (g := 25) (by rfl) (OpJ.eqlI (L rfl) (q 30) (Opd.int .u64 (167772162)))) rfl (c (OpJ.pickT (L rfl) (q 25) (q 31)) rfl (c (OpJ.assign (L rfl) (q 32)) rfl cn)))))))))))))))))))))))))) ?_
          exact hjj9 _ h _ _ (Mat.trans (mp [] [(0, (bo (x15.fAddr.fLo == (167772162 : Int))))] [(500, some (.know (globF 0 [35, 37, 137]))), (501, some (.know (globF 1 [70, 138, 139])))] hB) (mp [] _ _ hB))
        · replace h := ite_f hg14 h
          refine rg (c (mv hN (q 1)) rfl (c (OpJ.val (v' := (i6 (r1.length : Int))) (by simp) (OpJ.lenD Tryd.underlying36 (L rfl) (q 8))) rfl (c (OpJ.eqlI (L rfl) (q 9) (Opd.int .i64 (2))) rfl (c (OpJ.val (v' := .d (.bool true)) (by rw [hg10] <;> rfl) (mv hN (q 10))) rfl (c (OpJ.guarded (g := 11) (by rfl) (mv hN (q 1))) rfl (c (OpJ.guarded (g := 11) (by rfl) (OpJ.indexD Tryd.underlying36 tyS34 (idx_some hx11).1 (get_map e_api_Prefix (idx_some hx11).2) (L rfl) (q 12) (Opd.int .i64 (0)))) rfl (c (OpJ.guarded (g := 11) (by rfl) (OpJ.fieldD Tryd.underlying34 (by rfl) (o := 3) (by rfl) tyS3 (by decide) (by rfl) (by rfl) (L rfl) (q 13))) rfl (c (OpJ.guarded (g := 11) (by rfl) (OpJ.loadD tyS3 (by rfl) (by rfl) (L rfl) (q 14))) rfl (c (OpJ.guarded (g := 11) (by rfl) (OpJ.eqlI (L rfl) (q 15) (Opd.int .i64 (31)))) rfl (c (OpJ.pickT (L rfl) (q 11) (q 16)) rfl (c (OpJ.val (v' := .d (.bool true)) (by rw [hg12] <;> rfl) (mv hN (q 17))) rfl (c (OpJ.guarded (g := 18) (by rfl) (mv hN (q 1))) rfl (c (OpJ.guarded (g := 18) (by rfl) (OpJ.indexD Tryd.underlying36 tyS34 (idx_some hx13).1 (get_map e_api_Prefix (idx_some hx13).2) (L rfl) (q 19) (Opd.int .i64 (1)))) rfl (c (OpJ.guarded (g := 18) (by rfl) (OpJ.fieldD Tryd.underlying34 (by rfl) (o := 3) (by rfl) tyS3 (by decide) (by rfl) (by rfl) (L rfl) (q 20))) rfl (c (OpJ.guarded (g := 18) (by rfl) (OpJ.loadD tyS3 (by rfl) (by rfl) (L rfl) (q 21))) rfl (c (OpJ.guarded (g := 18) (by rfl) (OpJ.eqlI (L rfl) (q 22) (Opd.int .i64 (32)))) rfl (c (OpJ.pickT (L rfl) (q 18) (q 23)) rfl (c (OpJ.val (v' := .d (.bool false)) (by rw [hg14] <;> rfl) (mv hN (q 24))) rfl (cg (OpJ.skipU (g := 25) (L rfl) (by rfl)) rfl (cg (OpJ.skipU (g := 25) (L rfl) (by rfl)) rfl (cg (OpJ.skipU (g := 25) (L rfl) (by rfl)) rfl (cg (OpJ.skipU (g := 25) (L rfl) (by rfl)) rfl (cg (OpJ.skipU (g := 25) (L rfl) (by rfl)) rfl (cg (OpJ.skipU (g := 25) (L rfl) (by rfl)) rfl (c (OpJ.pickF (L rfl) (q 25) (Opd.bool false)) rfl (c (OpJ.assign (L rfl) (q 32)) rfl cn)))))))))))))))))))))))))) ?_
          exact hjj9 _ h _ _ (Mat.trans (mp [] [(0, (bo false))] [(500, some (.know (globF 0 [35, 37, 137]))), (501, some (.know (globF 1 [70, 138, 139])))] hB) (mp [] _ _ hB))
      · replace h := ite_f hg12 h
        refine rg (c (mv hN (q 1)) rfl (c (OpJ.val (v' := (i6 (r1.length : Int))) (by simp) (OpJ.lenD Tryd.underlying36 (L rfl) (q 8))) rfl (c (OpJ.eqlI (L rfl) (q 9) (Opd.int .i64 (2))) rfl (c (OpJ.val (v' := .d (.bool true)) (by rw [hg10] <;> rfl) (mv hN (q 10))) rfl (c (OpJ.guarded (g := 11) (by rfl) (mv hN (q 1))) rfl (c (OpJ.guarded (g := 11) (by rfl) (OpJ.indexD Tryd.underlying36 tyS34 (idx_some hx11).1 (get_map e_api_Prefix (idx_some hx11).2) (L rfl) (q 12) (Opd.int .i64 (0)))) rfl (c (OpJ.guarded (g := 11) (by rfl) (OpJ.fieldD Tryd.underlying34 (by rfl) (o := 3) (by rfl) tyS3 (by decide) (by rfl) (by rfl) (L rfl) (q 13))) rfl (c (OpJ.guarded (g := 11) (by rfl) (OpJ.loadD tyS3 (by rfl) (by rfl) (L rfl) (q 14))) rfl (c (OpJ.guarded (g := 11) (by rfl) (OpJ.eqlI (L rfl) (q 15) (Opd.int .i64 (31)))) rfl (c (OpJ.pickT (L rfl) (q 11) (q 16)) rfl (c (OpJ.val (v' := .d (.bool false)) (by rw [hg12] <;> rfl) (mv hN (q 17))) rfl (cg (OpJ.skipU (g := 18) (L rfl) (by rfl)) rfl (cg (OpJ.skipU (g := 18) (L rfl) (by rfl)) rfl (cg (OpJ.skipU (g := 18) (L rfl) (by rfl)) rfl (cg (OpJ.skipU (g := 18) (L rfl) (by rfl)) rfl (cg (OpJ.skipU (g := 18) (L rfl) (by rfl)) rfl (c (OpJ.pickF (L rfl) (q 18) (Opd.bool false)) rfl (c (mv hN (q 24)) rfl (cg (OpJ.skipU (g := 25) (L rfl) (by rfl)) rfl (cg (OpJ.skipU (g := 25) (L rfl) (by rfl)) rfl (cg (OpJ.skipU (g := 25) (L rfl) (by rfl)) rfl (cg (OpJ.skipU (g := 25) (L rfl) (by rfl)) rfl (cg (OpJ.skipU (g := 25) (L rfl) (by rfl)) rfl (cg (OpJ.skipU (g := 25) (L rfl) (by rfl)) rfl (c (OpJ.pickF (L rfl) (q 25) (Opd.bool false)) rfl (c (OpJ.assign (L rfl) (q 32)) rfl cn)))))))))))))))))))))))))) ?_
        exact hjj9 _ h _ _ (Mat.trans (mp [] [(0, (bo false))] [(500, some (.know (globF 0 [35, 37, 137]))), (501, some (.know (globF 1 [70, 138, 139])))] hB) (mp [] _ _ hB))
    · replace h := ite_f hg10 h
      refine rg (c (mv hN (q 1)) rfl (c (OpJ.val (v' := (i6 (r1.length : Int))) (by simp) (OpJ.lenD Tryd.underlying36 (L rfl) (q 8))) rfl (c (OpJ.eqlI (L rfl) (q 9) (Opd.int .i64 (2))) rfl (c (OpJ.val (v' := .d (.bool false)) (by rw [hg10] <;> rfl) (mv hN (q 10))) rfl (cg (OpJ.skipU (g := 11) (L rfl) (by rfl)) rfl (cg (OpJ.skipU (g := 11) (L rfl) (by rfl)) rfl (cg (OpJ.skipU (g := 11) (L rfl) (by rfl)) rfl (cg (OpJ.skipU (g := 11) (L rfl) (by rfl)) rfl (cg (OpJ.skipU (g := 11) (L rfl) (by rfl)) rfl (c (OpJ.pickF (L rfl) (q 11) (Opd.bool false)) rfl (c (mv hN (q 17)) rfl (cg (OpJ.skipU (g := 18) (L rfl) (by rfl)) rfl (cg (OpJ.skipU (g := 18) (L rfl) (by rfl)) rfl (cg (OpJ.skipU (g := 18) (L rfl) (by rfl)) rfl (cg (OpJ.skipU (g := 18) (L rfl) (by rfl)) rfl (cg (OpJ.skipU (g := 18) (L rfl) (by rfl)) rfl (c (OpJ.pickF (L rfl) (q 18) (Opd.bool false)) rfl (c (mv hN (q 24)) rfl (cg (OpJ.skipU (g := 25) (L rfl) (by rfl)) rfl (cg (OpJ.skipU (g := 25) (L rfl) (by rfl)) rfl (cg (OpJ.skipU (g := 25) (L rfl) (by rfl)) rfl (cg (OpJ.skipU (g := 25) (L rfl) (by rfl)) rfl (cg (OpJ.skipU (g := 25) (L rfl) (by rfl)) rfl (cg (OpJ.skipU (g := 25) (L rfl) (by rfl)) rfl (c (OpJ.pickF (L rfl) (q 25) (Opd.bool false)) rfl (c (OpJ.assign (L rfl) (q 32)) rfl cn)))))))))))))))))))))))))) ?_
      exact hjj9 _ h _ _ (Mat.trans (mp [] [(0, (bo false))] [(500, some (.know (globF 0 [35, 37, 137]))), (501, some (.know (globF 1 [70, 138, 139])))] hB) (mp [] _ _ hB))

noncomputable def exchangepointlaw21_ResourceHas_L0 (r4 : (List api_Prefix)) (r5 : (List api_Prefix)) (s7 : Int) : Option (((Unit) ⊕ (Unit)) ⊕ (Int)) :=
  (if (decide (s7 < (r5.length : Int))) = true then
  (idx r5 s7).bind fun x21 =>
  (idx r4 s7).bind fun x22 =>
  (idx r4 s7).bind fun x23 =>
  (if (!(((x21.fAddr.fV6 == x23.fAddr.fV6) && ((x21.fAddr.fHi == x23.fAddr.fHi) && ((x21.fAddr.fLo == x23.fAddr.fLo) && true))) && ((x21.fLen == x23.fLen) && true))) = true then
  some (.inl (.inl ()))
  else
  some (.inr (w64 (s7 + (1 : Int)))))
  else
  some (.inl (.inr ())))
noncomputable def exchangepointlaw21_ResourceHas_L1 (r2 : api_Resources × exchangepointmake_Deck) (r3 : api_Prefix × exchangepointmake_Deck) (r4 : (List api_Prefix)) (s28 : Int) : Option (((Unit) ⊕ (Unit)) ⊕ (Int)) :=
  (if (decide (s28 < ((r4 ++ ([r3.1] : List api_Prefix)).length : Int))) = true then
  (idx (r4 ++ ([r3.1] : List api_Prefix)) s28).bind fun x44 =>
  (idx (r4 ++ ([r3.1] : List api_Prefix)) s28).bind fun x45 =>
  (resource_HasPrefix r2.1 x45).bind fun r46 =>
  (exchangepointref21_HasPrefix r2.1 x45).bind fun r47 =>
  (if (r46 != r47) = true then
  some (.inl (.inl ()))
  else
  some (.inr (w64 (s28 + (1 : Int)))))
  else
  some (.inl (.inr ())))
noncomputable def exchangepointlaw21_ResourceHas_L2 (a1 : Int) (r2 : api_Resources × exchangepointmake_Deck) (r51 : Int) (r52 : Int) (s53 : Int) : Option (((Unit) ⊕ (Unit)) ⊕ (Int)) :=
  (if (decide (s53 < (([a1, r51, (w64 ((4294967295 : Int) - r52))] : List Int).length : Int))) = true then
  (idx ([a1, r51, (w64 ((4294967295 : Int) - r52))] : List Int) s53).bind fun x67 =>
  (resource_HasASN r2.1 x67).bind fun r68 =>
  (exchangepointref21_HasASN r2.1 x67).bind fun r69 =>
  (if (r68 != r69) = true then
  some (.inl (.inl ()))
  else
  some (.inr (w64 (s53 + (1 : Int)))))
  else
  some (.inl (.inr ())))
noncomputable def exchangepointlaw21_ResourceHas (a0 : (List Int)) (a1 : Int) : Option (Bool) :=
  (exchangepointmake_New a0).bind fun r1 =>
  (exchangepointmake_Deck_Resources r1).bind fun r2 =>
  (exchangepointmake_Deck_Prefix r2.2).bind fun r3 =>
  (exchangepointref21_Prefixes_2 r2.1).bind fun r4 =>
  (resource_Prefixes r2.1).bind fun r5 =>
  (if ((r5.length : Int) != (r4.length : Int)) = true then
  some false
  else
  (loop (exchangepointlaw21_ResourceHas_L0 r4 r5) (0 : Int)).bind fun x25 => match x25 with
  | (.inl _) =>
    some false
  | (.inr _) =>
    chk (decide ((r4 ++ ([r3.1] : List api_Prefix)).length ≤ LIM)) <|
    (loop (exchangepointlaw21_ResourceHas_L1 r2 r3 r4) (0 : Int)).bind fun x49 => match x49 with
    | (.inl _) =>
      some false
    | (.inr _) =>
      (exchangepointmake_Mod a1 (30 : Int)).bind fun r51 =>
      (exchangepointmake_Mod a1 (12 : Int)).bind fun r52 =>
      (loop (exchangepointlaw21_ResourceHas_L2 a1 r2 r51 r52) (0 : Int)).bind fun x71 => match x71 with
      | (.inl _) =>
        some false
      | (.inr _) =>
        (exchangepointlaw21_awake).bind fun r73 =>
        some r73)
set_option maxHeartbeats 4000000 in
set_option maxRecDepth 100000 in
theorem exchangepointlaw21_ResourceHas_ac (a0 : (List Int)) (a1 : Int) (r : Bool) (h : exchangepointlaw21_ResourceHas a0 a1 = some r) : AC Tryd.prog 3 [(.d (.list 1 (a0.map (eI .i64)))), (.d (.int .i64 a1))] [(500, (.know (globF 0 [35, 37, 137]))), (501, (.know (globF 1 [70, 138, 139])))] (.d (.bool r)) [(500, some (.know (globF 0 [35, 37, 137]))), (501, some (.know (globF 1 [70, 138, 139])))] := by
  refine AC.of_code2 Tryd.func3 rfl rfl (Nat.le_of_ble_eq_true (by rfl)) fun B hB hN => ?_
  have L {d : Nat} (h : Nat.blt d Tryd.f3.ntmps = true) : d < B.N := ltN hN h
  delta exchangepointlaw21_ResourceHas at h
  refine sr (c (OpJ.assign (L rfl) (Opd.bool false)) rfl cn) ?_
  refine gh [(0, _), (1, _)] [(500, some _), (501, some _)] hB rfl rfl (by rfl) ?_
  refine AWp.seq ?_
  obtain ⟨r1, hr1, h⟩ := bindS h
  refine AWp.region (oc (mv hN (ot 0 (qI_1 a0)))
  (oc (OpJ.callFn hB fnOk7 (exchangepointmake_New_ac a0 r1 hr1) [(1005, 100000)] (by kernel_rfl) (L rfl) (by kernel_rfl) (OpdL.cons (ot 15 (qI_1 a0)) OpdL.nil))
  (oc (OpJ.assign (L rfl) (ot 16 (.ptr 100000 0 [])))
  (OpJs.nil)))) (by rfl) (by rfl) ?_
  refine seqQ_n ?_
  refine AWp.ghost (mp [] [(1, (i6 a1)), (5, (.ptr 100000 0 []))] [(500, some (.know (globF 0 [35, 37, 137]))), (501, some (.know (globF 1 [70, 138, 139]))), (100000, some (.box 64 (.d (e_exchangepointmake_Deck r1))))] hB) ?_
  refine AWp.seq ?_
  obtain ⟨r2, hr2, h⟩ := bindS h
  refine AWp.region (oc (mv hN (ot 5 (.ptr 100000 0 [])))
  (oc (OpJ.callFn hB fnOk8 (exchangepointmake_Deck_Resources_ac r1 r2 hr2) [(0, 100000)] (by kernel_rfl) (L rfl) (by kernel_rfl) (OpdL.cons (ot 17 (.ptr 100000 0 [])) OpdL.nil))
  (oc (OpJ.alloc hB tyZ28 (nm := 1006) (by decide) (L rfl))
  (oc (OpJ.storeB (bt := 28) (c := (.st [.nils, .nils])) (v := (.d (e_api_Resources r2.1))) (c' := (.d (e_api_Resources r2.1))) tyS28 (SetAt.here _ _) (by rfl) (by rfl) (by simp) rfl (ot 6 (.ptr 1006 0 [])) (ot 18 (.d (e_api_Resources r2.1))))
  (OpJs.nil))))) (by rfl) (by rfl) ?_
  refine seqQ_n ?_
  refine AWp.ghost (mp [] [(1, (i6 a1)), (5, (.ptr 100000 0 [])), (6, (.ptr 1006 0 []))] [(500, some (.know (globF 0 [35, 37, 137]))), (501, some (.know (globF 1 [70, 138, 139]))), (1006, some (.box 28 (.d (e_api_Resources r2.1)))), (100000, some (.box 64 (.d (e_exchangepointmake_Deck r2.2))))] hB) ?_
  refine AWp.seq ?_
  obtain ⟨r3, hr3, h⟩ := bindS h
  obtain ⟨r4, hr4, h⟩ := bindS h
  refine AWp.draws (by kernel_rfl) (oc (mv hN (ot 5 (.ptr 100000 0 [])))
  (oc (OpJ.callFn hB fnOk9 (exchangepointmake_Deck_Prefix_ac r2.2 r3 hr3) [(0, 100000)] (by kernel_rfl) (L rfl) (by kernel_rfl) (OpdL.cons (ot 19 (.ptr 100000 0 [])) OpdL.nil))
  (oc (lb hN 28 (.d (e_api_Resources r2.1)) (.d (e_api_Resources r2.1)) tyS28 (At.here _) (ot 6 (.ptr 1006 0 [])))
  (oc (OpJ.callFn hB fnOk10 (exchangepointref21_Prefixes_2_ac r2.1 r4 hr4) [(900000, 100300)] (by kernel_rfl) (L rfl) (by kernel_rfl) (OpdL.cons (ot 21 (.d (e_api_Resources r2.1))) OpdL.nil))
  (oc (OpJ.alloc hB tyZ34 (nm := 1007) (by decide) (L rfl))
  (oc (OpJ.storeB (bt := 34) (c := (.d (.st [(.st [(.bool false), (.int .u64 0), (.int .u64 0)]), (.int .i64 0)]))) (v := (.d (e_api_Prefix r3.1))) (c' := (.d (e_api_Prefix r3.1))) tyS34 (SetAt.here _ _) (by rfl) (by rfl) (by simp) rfl (ot 7 (.ptr 1007 0 [])) (ot 20 (.d (e_api_Prefix r3.1))))
  (oc (OpJ.assign (L rfl) (ot 22 (.sref 100300 4 0 r4.length)))
  (OpJs.nil)))))))) (by kernel_rfl) (by rfl) (by rfl) ?_
  refine seqQ_n ?_
  refine AWp.ghost (mp [] [(1, (i6 a1)), (6, (.ptr 1006 0 [])), (7, (.ptr 1007 0 [])), (8, (.sref 100300 4 0 r4.length))] [(500, some (.know (globF 0 [35, 37, 137]))), (501, some (.know (globF 1 [70, 138, 139]))), (1006, some (.box 28 (.d (e_api_Resources r2.1)))), (1007, some (.box 34 (.d (e_api_Prefix r3.1)))), (100300, some (we_api_Prefix_34_4 r4))] hB) ?_
  refine AWp.seq ?_
  obtain ⟨r5, hr5, h⟩ := bindS h
  refine AWp.region (oc (lb hN 28 (.d (e_api_Resources r2.1)) (.d (e_api_Resources r2.1)) tyS28 (At.here _) (ot 6 (.ptr 1006 0 [])))
  (oc (OpJ.callFn hB fnOk11 (resource_Prefixes_ac r2.1 r5 hr5) [(500, 500), (501, 501)] (by kernel_rfl) (L rfl) (by kernel_rfl) (OpdL.cons (ot 23 (.d (e_api_Resources r2.1))) OpdL.nil))
  (oc (OpJ.assign (L rfl) (ot 24 (qe_api_Prefix_4 r5)))
  (OpJs.nil)))) (by rfl) (by rfl) ?_
  refine seqQ_n ?_
  refine AWp.ghost (mp [] [(1, (i6 a1)), (6, (.ptr 1006 0 [])), (7, (.ptr 1007 0 [])), (8, (.sref 100300 4 0 r4.length)), (9, (qe_api_Prefix_4 r5))] [(500, some (.know (globF 0 [35, 37, 137]))), (501, some (.know (globF 1 [70, 138, 139]))), (1006, some (.box 28 (.d (e_api_Resources r2.1)))), (1007, some (.box 34 (.d (e_api_Prefix r3.1)))), (100300, some (we_api_Prefix_34_4 r4))] hB) ?_
  refine AWp.seq ?_
  refine sr (c (mv hN (q 9)) rfl (c (OpJ.val (v' := (i6 (r5.length : Int))) (by simp) (OpJ.lenD Tryd.underlying36 (L rfl) (q 25))) rfl (c (mv hN (q 8)) rfl (c (OpJ.lenS Tryd.underlying36 (L rfl) (q 27)) rfl (c (OpJ.neqI (L rfl) (q 26) (q 28)) rfl cn))))) ?_
  refine gh [(1, _), (6, _), (7, _), (8, _), (9, _), (29, _)] [(500, some _), (501, some _), (1006, some _), (1007, some _), (100300, some _)] hB rfl rfl (by rfl) ?_
  refine AWp.cond rfl (fun hg6 => ?_) (fun hg6 => ?_)
  · replace h := ite_t hg6 h
    refine sr (c (OpJ.assign (L rfl) (Opd.bool false)) rfl cn) ?_
    refine gh [(4, _)] [(500, some _), (501, some _)] hB rfl rfl (by rfl) ?_
    refine AWp.ret ?_
    refine seqQ_r ?_
    obtain rfl := Option.some.inj h
    exact ⟨.inl rfl, _, _, (kp [(4, _)] [(500, some _), (501, some _)] hB rfl rfl (by rfl)), [(bo false)], (Res.tmp (by rfl) (by rfl) Res.nil), rfl, by rfl, by rfl, by rfl⟩
  · replace h := ite_f hg6 h
    refine AWp.skip ?_
    refine seqQ_n ?_
    refine AWp.seq ?_
    refine sr (c (mv hN (q 9)) rfl (c (OpJ.val (v' := (i6 (r5.length : Int))) (by simp) (OpJ.lenD Tryd.underlying36 (L rfl) (q 30))) rfl (c (mv hN (Opd.int .i64 (0))) rfl cn))) ?_
    refine gh [(1, _), (6, _), (7, _), (8, _), (9, _), (31, _), (32, _)] [(500, some _), (501, some _), (1006, some _), (1007, some _), (100300, some _)] hB rfl rfl (by rfl) ?_
    refine AWp.block ?_
    obtain ⟨x25, hx26, h⟩ := bindS h
    refine lg (exchangepointlaw21_ResourceHas_L0 r4 r5) (fun s7 : Int => ([(1, (i6 a1)), (6, (.ptr 1006 0 [])), (7, (.ptr 1007 0 [])), (8, (.sref 100300 4 0 r4.length)), (9, (qe_api_Prefix_4 r5)), (31, (i6 (r5.length : Int))), (32, (i6 s7))] : EL)) (fun s7 : Int => ([(500, some (.know (globF 0 [35, 37, 137]))), (501, some (.know (globF 1 [70, 138, 139]))), (1006, some (.box 28 (.d (e_api_Resources r2.1)))), (1007, some (.box 34 (.d (e_api_Prefix r3.1)))), (100300, some (we_api_Prefix_34_4 r4))] : OL)) (fun (x : (Unit) ⊕ (Unit)) e E' O' => match x with | (.inl _p) => e = .ret ∧ Mat B E' O' ([(4, (bo false))] : EL) ([(500, some (.know (globF 0 [35, 37, 137]))), (501, some (.know (globF 1 [70, 138, 139])))] : OL) | (.inr _p) => e = .exit 0 ∧ Mat B E' O' ([(1, (i6 a1)), (6, (.ptr 1006 0 [])), (7, (.ptr 1007 0 [])), (8, (.sref 100300 4 0 r4.length))] : EL) ([(500, some (.know (globF 0 [35, 37, 137]))), (501, some (.know (globF 1 [70, 138, 139]))), (1006, some (.box 28 (.d (e_api_Resources r2.1)))), (1007, some (.box 34 (.d (e_api_Prefix r3.1)))), (100300, some (we_api_Prefix_34_4 r4))] : OL)) hx26 (mp [] _ _ hB) (fun s7 y h => ?_) (fun e E' O' hR => ?_)
    · unfold exchangepointlaw21_ResourceHas_L0 at h
      refine sr (c (OpJ.lss (L rfl) (q 32) (q 31)) rfl cn) ?_
      refine gh [(1, _), (6, _), (7, _), (8, _), (9, _), (31, _), (32, _), (33, _)] [(500, some _), (501, some _), (1006, some _), (1007, some _), (100300, some _)] hB rfl rfl (by rfl) ?_
      refine AWp.seq ?_
      refine AWp.cond rfl (fun hg20 => ?_) (fun hg20 => ?_)
      · replace h := ite_t hg20 h
        refine AWp.skip ?_
        refine seqQ_n ?_
        refine AWp.seq ?_
        refine AWp.block ?_
        refine sr (c (mv hN (q 32)) rfl (c (OpJ.assign (L rfl) (q 34)) rfl cn)) ?_
        refine gh [(1, _), (6, _), (7, _), (8, _), (9, _), (10, _), (31, _), (32, _)] [(500, some _), (501, some _), (1006, some _), (1007, some _), (100300, some _)] hB rfl rfl (by rfl) ?_
        obtain ⟨x21, hx21, h⟩ := bindS h
        obtain ⟨x22, hx22, h⟩ := bindS h
        obtain ⟨x23, hx23, h⟩ := bindS h
        refine sd (c (mv hN (q 9)) rfl (c (mv hN (q 10)) rfl (c (OpJ.indexD Tryd.underlying36 tyS34 (idx_some hx21).1 (get_map e_api_Prefix (idx_some hx21).2) (L rfl) (q 35) (q 36)) rfl (c (OpJ.loadD tyS34 (by rfl) (by rfl) (L rfl) (q 37)) rfl (c (mv hN (q 8)) rfl (c (mv hN (q 10)) rfl (c (OpJ.val (v' := (.ptr 100300 (s7.toNat * 4) [s7.toNat])) (by simp) (OpJ.indexS Tryd.underlying36 tyS34 (idx_some hx22).1 (by have := idx_lt hx22; first | (simpa using this) | ((try simp only [List.length_map] at this); (try simp only [List.length_map]); omega)) (L rfl) (q 39) (q 40))) rfl (c (OpJ.loadR (e := 34) (sz := 4) tyS34 (get_map e_api_Prefix (idx_some hx23).2) (o := 0) (At.here _) (by rfl) (by rfl) (by rfl) (L rfl) (q 41)) rfl (c (OpJ.neqD (h := 3) (FitE.st Tryd.underlying34 rfl held34 (FitF.cons (x := (e_api_Addr x21.fAddr)) (y := (e_api_Addr x23.fAddr)) (by decide) rfl tyS32 ⟨rfl, rfl⟩ ⟨rfl, rfl⟩ (FitE.st Tryd.underlying32 rfl held32 (FitF.cons (x := (.bool x21.fAddr.fV6)) (y := (.bool x23.fAddr.fV6)) (by decide) rfl tyS4 ⟨rfl, rfl⟩ ⟨rfl, rfl⟩ (FitE.bool (h := 0) x21.fAddr.fV6 x23.fAddr.fV6 Tryd.underlying4) (FitF.cons (x := (.int .u64 x21.fAddr.fHi)) (y := (.int .u64 x23.fAddr.fHi)) (by decide) rfl tyS30 ⟨rfl, rfl⟩ ⟨rfl, rfl⟩ (FitE.int (h := 0) x21.fAddr.fHi x23.fAddr.fHi Tryd.underlying30) (FitF.cons (x := (.int .u64 x21.fAddr.fLo)) (y := (.int .u64 x23.fAddr.fLo)) (by decide) rfl tyS30 ⟨rfl, rfl⟩ ⟨rfl, rfl⟩ (FitE.int (h := 0) x21.fAddr.fLo x23.fAddr.fLo Tryd.underlying30) FitF.nil)))) (FitF.cons (x := (.int .i64 x21.fLen)) (y := (.int .i64 x23.fLen)) (by decide) rfl tyS3 ⟨rfl, rfl⟩ ⟨rfl, rfl⟩ (FitE.int (h := 1) x21.fLen x23.fLen Tryd.underlying3) FitF.nil))) eqg34 ⟨rfl, rfl⟩ (by rfl) (L rfl) (q 38) (q 42)) rfl cn))))))))) (by kernel_rfl) (by kernel_rfl) ?_
        refine gh [(1, _), (6, _), (7, _), (8, _), (9, _), (31, _), (32, _), (43, _)] [(500, some _), (501, some _), (1006, some _), (1007, some _), (100300, some _)] hB rfl rfl (by rfl) ?_
        refine AWp.cond rfl (fun hg24 => ?_) (fun hg24 => ?_)
        · replace h := ite_t hg24 h
          refine sr (c (OpJ.assign (L rfl) (Opd.bool false)) rfl cn) ?_
          refine gh [(4, _)] [(500, some _), (501, some _)] hB rfl rfl (by rfl) ?_
          refine AWp.ret ?_
          refine blkQ_r ?_
          refine seqQ_r ?_
          obtain rfl := Option.some.inj h
          exact ⟨(fun hc => by cases hc), rfl, (mp [] _ _ hB)⟩
        · replace h := ite_f hg24 h
          refine AWp.skip ?_
          refine blkQ_n ?_
          refine seqQ_n ?_
          refine rg (c (add6 (L rfl) (q 32) (Opd.int .i64 (1))) rfl (c (mv hN (q 44)) rfl cn)) ?_
          obtain rfl := Option.some.inj h
          exact ⟨rfl, (Mat.trans (mp [] [(1, (i6 a1)), (6, (.ptr 1006 0 [])), (7, (.ptr 1007 0 [])), (8, (.sref 100300 4 0 r4.length)), (9, (qe_api_Prefix_4 r5)), (31, (i6 (r5.length : Int))), (32, (i6 (w64 (s7 + (1 : Int)))))] [(500, some (.know (globF 0 [35, 37, 137]))), (501, some (.know (globF 1 [70, 138, 139]))), (1006, some (.box 28 (.d (e_api_Resources r2.1)))), (1007, some (.box 34 (.d (e_api_Prefix r3.1)))), (100300, some (we_api_Prefix_34_4 r4))] hB) (mp [] _ _ hB))⟩
      · replace h := ite_f hg20 h
        refine AWp.exit ?_
        refine seqQ_e ?_
        obtain rfl := Option.some.inj h
        exact ⟨(fun hc => by cases hc), rfl, (mp [] _ _ hB)⟩
    · rcases x25 with _ | _
      · obtain ⟨rfl, hmat⟩ := hR
        refine blkQ_r ?_
        refine seqQ_r ?_
        obtain rfl := Option.some.inj h
        exact ⟨.inl rfl, _, _, (Mat.trans hmat (mp [] [(4, (bo false))] [(500, some (.know (globF 0 [35, 37, 137]))), (501, some (.know (globF 1 [70, 138, 139])))] hB)), [(bo false)], (Res.tmp (by rfl) (by rfl) Res.nil), rfl, by rfl, by rfl, by rfl⟩
      · obtain ⟨rfl, hmat⟩ := hR
        refine blkQ_hit ?_
        refine seqQ_n ?_
        refine AWp.ghost hmat ?_
        refine AWp.seq ?_
        obtain ⟨hc27, h⟩ := chk_some h
        refine sr (c (mv hN (q 8)) rfl (c (lb hN 34 _ _ tyS34 (At.here _) (q 7)) rfl (c (OpJ.buildSlice Tryd.underlying36 tyS34 tyZD34 (by rfl) (by decide) (by decide) (Opds.cons (q 46) Opds.nil) (by kernel_rfl) (es := ([(e_api_Prefix r3.1)] : List D)) (by rfl) (by rfl) (by kernel_rfl) (by simp) (L rfl)) rfl (cg (OpJ.append hB Tryd.underlying36 tyE34 (nm := 1048) (by decide) (es := r4.map e_api_Prefix) (ys := ([r3.1] : List api_Prefix).map e_api_Prefix) (es' := (r4 ++ ([r3.1] : List api_Prefix)).map e_api_Prefix) (len := (r4 ++ ([r3.1] : List api_Prefix)).length) (by simp) (by simp) (map_sz (f := e_api_Prefix) (fun _ => rfl)) (by rw [List.length_map]; exact lim_mulN hc27 (by decide)) (by rw [List.length_map]; exact lim_leN hc27) (L rfl) (by simp) (q 45) (q 47)) rfl (c (OpJ.lenS Tryd.underlying36 (L rfl) (q 48)) rfl (c (mv hN (Opd.int .i64 (0))) rfl cn)))))) ?_
        refine gh [(1, _), (6, _), (48, _), (49, _), (50, _)] [(500, some _), (501, some _), (1006, some _), (1048, some _)] hB rfl rfl (by rfl) ?_
        refine AWp.block ?_
        obtain ⟨x49, hx50, h⟩ := bindS h
        refine lg (exchangepointlaw21_ResourceHas_L1 r2 r3 r4) (fun s28 : Int => ([(1, (i6 a1)), (6, (.ptr 1006 0 [])), (48, (.sref 1048 4 0 ((r4 ++ ([r3.1] : List api_Prefix)).length))), (49, (i6 ((r4 ++ ([r3.1] : List api_Prefix)).length : Int))), (50, (i6 s28))] : EL)) (fun s28 : Int => ([(500, some (.know (globF 0 [35, 37, 137]))), (501, some (.know (globF 1 [70, 138, 139]))), (1006, some (.box 28 (.d (e_api_Resources r2.1)))), (1048, some (we_api_Prefix_34_4 (r4 ++ ([r3.1] : List api_Prefix))))] : OL)) (fun (x : (Unit) ⊕ (Unit)) e E' O' => match x with | (.inl _p) => e = .ret ∧ Mat B E' O' ([(4, (bo false))] : EL) ([(500, some (.know (globF 0 [35, 37, 137]))), (501, some (.know (globF 1 [70, 138, 139])))] : OL) | (.inr _p) => e = .exit 2 ∧ Mat B E' O' ([(1, (i6 a1)), (6, (.ptr 1006 0 []))] : EL) ([(500, some (.know (globF 0 [35, 37, 137]))), (501, some (.know (globF 1 [70, 138, 139]))), (1006, some (.box 28 (.d (e_api_Resources r2.1))))] : OL)) hx50 (mp [] _ _ hB) (fun s28 y h => ?_) (fun e E' O' hR => ?_)
        · unfold exchangepointlaw21_ResourceHas_L1 at h
          refine sr (c (OpJ.lss (L rfl) (q 50) (q 49)) rfl cn) ?_
          refine gh [(1, _), (6, _), (48, _), (49, _), (50, _), (51, _)] [(500, some _), (501, some _), (1006, some _), (1048, some _)] hB rfl rfl (by rfl) ?_
          refine AWp.seq ?_
          refine AWp.cond rfl (fun hg43 => ?_) (fun hg43 => ?_)
          · replace h := ite_t hg43 h
            refine AWp.skip ?_
            refine seqQ_n ?_
            refine AWp.seq ?_
            refine AWp.block ?_
            obtain ⟨x44, hx44, h⟩ := bindS h
            obtain ⟨x45, hx45, h⟩ := bindS h
            refine sr (c (OpJ.val (v' := (.ptr 1048 (s28.toNat * 4) [s28.toNat])) (by simp) (OpJ.indexS Tryd.underlying36 tyS34 (idx_some hx44).1 (by have := idx_lt hx44; first | (simpa using this) | ((try simp only [List.length_map] at this); (try simp only [List.length_map]); omega)) (L rfl) (q 48) (q 50))) rfl (c (OpJ.loadR (e := 34) (sz := 4) tyS34 (get_map e_api_Prefix (idx_some hx45).2) (o := 0) (At.here _) (by rfl) (by rfl) (by rfl) (L rfl) (q 52)) rfl (cg (OpJ.alloc hB tyZ34 (nm := 1012) (by decide) (L rfl)) rfl (cg (OpJ.storeB tyS34 (SetAt.here _ _) (by rfl) (by rfl) (by simp) rfl (q 12) (q 53)) rfl cn)))) ?_
            refine gh [(1, _), (6, _), (12, _), (48, _), (49, _), (50, _)] [(500, some _), (501, some _), (1006, some _), (1012, some _), (1048, some _)] hB rfl rfl (by rfl) ?_
            obtain ⟨r46, hr46, h⟩ := bindS h
            obtain ⟨r47, hr47, h⟩ := bindS h
            refine sd (c (lb hN 28 _ _ tyS28 (At.here _) (q 6)) rfl (c (lb hN 34 _ _ tyS34 (At.here _) (q 12)) rfl (cg (OpJ.callFn hB fnOk12 (resource_HasPrefix_ac r2.1 x45 r46 hr46) [] (by kernel_rfl) (L rfl) (by kernel_rfl) (OpdL.cons (q 54) (OpdL.cons (q 55) OpdL.nil))) rfl (c (lb hN 28 _ _ tyS28 (At.here _) (q 6)) rfl (c (lb hN 34 _ _ tyS34 (At.here _) (q 12)) rfl (cg (OpJ.callFn hB fnOk13 (exchangepointref21_HasPrefix_ac r2.1 x45 r47 hr47) [] (by kernel_rfl) (L rfl) (by kernel_rfl) (OpdL.cons (q 57) (OpdL.cons (q 58) OpdL.nil))) rfl (c (OpJ.neqB Tryd.underlying4 (L rfl) (q 56) (q 59)) rfl cn))))))) (by kernel_rfl) (by kernel_rfl) ?_
            refine gh [(1, _), (6, _), (48, _), (49, _), (50, _), (60, _)] [(500, some _), (501, some _), (1006, some _), (1048, some _)] hB rfl rfl (by rfl) ?_
            refine AWp.cond rfl (fun hg48 => ?_) (fun hg48 => ?_)
            · replace h := ite_t hg48 h
              refine sr (c (OpJ.assign (L rfl) (Opd.bool false)) rfl cn) ?_
              refine gh [(4, _)] [(500, some _), (501, some _)] hB rfl rfl (by rfl) ?_
              refine AWp.ret ?_
              refine blkQ_r ?_
              refine seqQ_r ?_
              obtain rfl := Option.some.inj h
              exact ⟨(fun hc => by cases hc), rfl, (mp [] _ _ hB)⟩
            · replace h := ite_f hg48 h
              refine AWp.skip ?_
              refine blkQ_n ?_
              refine seqQ_n ?_
              refine rg (c (add6 (L rfl) (q 50) (Opd.int .i64 (1))) rfl (c (mv hN (q 61)) rfl cn)) ?_
              obtain rfl := Option.some.inj h
              exact ⟨rfl, (Mat.trans (mp [] [(1, (i6 a1)), (6, (.ptr 1006 0 [])), (48, (.sref 1048 4 0 ((r4 ++ ([r3.1] : List api_Prefix)).length))), (49, (i6 ((r4 ++ ([r3.1] : List api_Prefix)).length : Int))), (50, (i6 (w64 (s28 + (1 : Int)))))] [(500, some (.know (globF 0 [35, 37, 137]))), (501, some (.know (globF 1 [70, 138, 139]))), (1006, some (.box 28 (.d (e_api_Resources r2.1)))), (1048, some (we_api_Prefix_34_4 (r4 ++ ([r3.1] : List api_Prefix))))] hB) (mp [] _ _ hB))⟩
          · replace h := ite_f hg43 h
            refine AWp.exit ?_
            refine seqQ_e ?_
            obtain rfl := Option.some.inj h
            exact ⟨(fun hc => by cases hc), rfl, (mp [] _ _ hB)⟩
        · rcases x49 with _ | _
          · obtain ⟨rfl, hmat⟩ := hR
            refine blkQ_r ?_
            refine seqQ_r ?_
            obtain rfl := Option.some.inj h
            exact ⟨.inl rfl, _, _, (Mat.trans hmat (mp [] [(4, (bo false))] [(500, some (.know (globF 0 [35, 37, 137]))), (501, some (.know (globF 1 [70, 138, 139])))] hB)), [(bo false)], (Res.tmp (by rfl) (by rfl) Res.nil), rfl, by rfl, by rfl, by rfl⟩
          · obtain ⟨rfl, hmat⟩ := hR
            refine blkQ_hit ?_
            refine seqQ_n ?_
            refine AWp.ghost hmat ?_
            refine AWp.seq ?_
            obtain ⟨r51, hr51, h⟩ := bindS h
            obtain ⟨r52, hr52, h⟩ := bindS h
            refine sr (c (mv hN (q 1)) rfl (c (mv hN (q 1)) rfl (cg (OpJ.callFn hB fnOk14 (exchangepointmake_Mod_ac a1 (30 : Int) r51 hr51) [] (by kernel_rfl) (L rfl) (by kernel_rfl) (OpdL.cons (q 63) (OpdL.cons (Opd.int .i64 (30)) OpdL.nil))) rfl (c (mv hN (q 1)) rfl (cg (OpJ.callFn hB fnOk14 (exchangepointmake_Mod_ac a1 (12 : Int) r52 hr52) [] (by kernel_rfl) (L rfl) (by kernel_rfl) (OpdL.cons (q 65) (OpdL.cons (Opd.int .i64 (12)) OpdL.nil))) rfl (c (sub6 (L rfl) (Opd.int .i64 (4294967295)) (q 66)) rfl (c (OpJ.buildSlice Tryd.underlying22 tyS3 tyZD3 (by rfl) (by decide) (by decide) (Opds.cons (q 62) (Opds.cons (q 64) (Opds.cons (q 67) Opds.nil))) (by kernel_rfl) (es := ([(.int .i64 a1), (.int .i64 r51), (.int .i64 (w64 ((4294967295 : Int) - r52)))] : List D)) (by rfl) (by rfl) (by kernel_rfl) (by simp) (L rfl)) rfl (c (OpJ.val (v' := (i6 (([a1, r51, (w64 ((4294967295 : Int) - r52))] : List Int).length : Int))) (by simp) (OpJ.lenD Tryd.underlying22 (L rfl) (q 68))) rfl (c (mv hN (Opd.int .i64 (0))) rfl cn))))))))) ?_
            refine gh [(6, _), (68, _), (69, _), (70, _)] [(500, some _), (501, some _), (1006, some _)] hB rfl rfl (by rfl) ?_
            refine AWp.block ?_
            obtain ⟨x71, hx72, h⟩ := bindS h
            refine lg (exchangepointlaw21_ResourceHas_L2 a1 r2 r51 r52) (fun s53 : Int => ([(6, (.ptr 1006 0 [])), (68, (qI_1 ([a1, r51, (w64 ((4294967295 : Int) - r52))] : List Int))), (69, (i6 (([a1, r51, (w64 ((4294967295 : Int) - r52))] : List Int).length : Int))), (70, (i6 s53))] : EL)) (fun s53 : Int => ([(500, some (.know (globF 0 [35, 37, 137]))), (501, some (.know (globF 1 [70, 138, 139]))), (1006, some (.box 28 (.d (e_api_Resources r2.1))))] : OL)) (fun (x : (Unit) ⊕ (Unit)) e E' O' => match x with | (.inl _p) => e = .ret ∧ Mat B E' O' ([(4, (bo false))] : EL) ([(500, some (.know (globF 0 [35, 37, 137]))), (501, some (.know (globF 1 [70, 138, 139])))] : OL) | (.inr _p) => e = .exit 4 ∧ Mat B E' O' ([] : EL) ([(500, some (.know (globF 0 [35, 37, 137]))), (501, some (.know (globF 1 [70, 138, 139])))] : OL)) hx72 (mp [] _ _ hB) (fun s53 y h => ?_) (fun e E' O' hR => ?_)
            · unfold exchangepointlaw21_ResourceHas_L2 at h
              refine sr (c (OpJ.lss (L rfl) (q 70) (q 69)) rfl cn) ?_
              refine gh [(6, _), (68, _), (69, _), (70, _), (71, _)] [(500, some _), (501, some _), (1006, some _)] hB rfl rfl (by rfl) ?_
              refine AWp.seq ?_
              refine AWp.cond rfl (fun hg66 => ?_) (fun hg66 => ?_)
              · replace h := ite_t hg66 h
                refine AWp.skip ?_
                refine seqQ_n ?_
                refine AWp.seq ?_
                refine AWp.block ?_
                obtain ⟨x67, hx67, h⟩ := bindS h
                refine sr (c (OpJ.indexD Tryd.underlying22 tyS3 (idx_some hx67).1 (get_map (eI .i64) (idx_some hx67).2) (L rfl) (q 68) (q 70)) rfl (c (OpJ.loadD tyS3 (by rfl) (by rfl) (L rfl) (q 72)) rfl (c (OpJ.assign (L rfl) (q 73)) rfl cn))) ?_
                refine gh [(6, _), (14, _), (68, _), (69, _), (70, _)] [(500, some _), (501, some _), (1006, some _)] hB rfl rfl (by rfl) ?_
                obtain ⟨r68, hr68, h⟩ := bindS h
                obtain ⟨r69, hr69, h⟩ := bindS h
                refine sd (c (lb hN 28 _ _ tyS28 (At.here _) (q 6)) rfl (c (mv hN (q 14)) rfl (cg (OpJ.callFn hB fnOk15 (resource_HasASN_ac r2.1 x67 r68 hr68) [] (by kernel_rfl) (L rfl) (by kernel_rfl) (OpdL.cons (q 74) (OpdL.cons (q 75) OpdL.nil))) rfl (c (lb hN 28 _ _ tyS28 (At.here _) (q 6)) rfl (c (mv hN (q 14)) rfl (cg (OpJ.callFn hB fnOk16 (exchangepointref21_HasASN_ac r2.1 x67 r69 hr69) [] (by kernel_rfl) (L rfl) (by kernel_rfl) (OpdL.cons (q 77) (OpdL.cons (q 78) OpdL.nil))) rfl (c (OpJ.neqB Tryd.underlying4 (L rfl) (q 76) (q 79)) rfl cn))))))) (by kernel_rfl) (by kernel_rfl) ?_
                refine gh [(6, _), (68, _), (69, _), (70, _), (80, _)] [(500, some _), (501, some _), (1006, some _)] hB rfl rfl (by rfl) ?_
                refine AWp.cond rfl (fun hg70 => ?_) (fun hg70 => ?_)
                · replace h := ite_t hg70 h
                  refine sr (c (OpJ.assign (L rfl) (Opd.bool false)) rfl cn) ?_
                  refine gh [(4, _)] [(500, some _), (501, some _)] hB rfl rfl (by rfl) ?_
                  refine AWp.ret ?_
                  refine blkQ_r ?_
                  refine seqQ_r ?_
                  obtain rfl := Option.some.inj h
                  exact ⟨(fun hc => by cases hc), rfl, (mp [] _ _ hB)⟩
                · replace h := ite_f hg70 h
                  refine AWp.skip ?_
                  refine blkQ_n ?_
                  refine seqQ_n ?_
                  refine rg (c (add6 (L rfl) (q 70) (Opd.int .i64 (1))) rfl (c (mv hN (q 81)) rfl cn)) ?_
                  obtain rfl := Option.some.inj h
                  exact ⟨rfl, (Mat.trans (mp [] [(6, (.ptr 1006 0 [])), (68, (qI_1 ([a1, r51, (w64 ((4294967295 : Int) - r52))] : List Int))), (69, (i6 (([a1, r51, (w64 ((4294967295 : Int) - r52))] : List Int).length : Int))), (70, (i6 (w64 (s53 + (1 : Int)))))] [(500, some (.know (globF 0 [35, 37, 137]))), (501, some (.know (globF 1 [70, 138, 139]))), (1006, some (.box 28 (.d (e_api_Resources r2.1))))] hB) (mp [] _ _ hB))⟩
              · replace h := ite_f hg66 h
                refine AWp.exit ?_
                refine seqQ_e ?_
                obtain rfl := Option.some.inj h
                exact ⟨(fun hc => by cases hc), rfl, (mp [] _ _ hB)⟩
            · rcases x71 with _ | _
              · obtain ⟨rfl, hmat⟩ := hR
                refine blkQ_r ?_
                refine seqQ_r ?_
                obtain rfl := Option.some.inj h
                exact ⟨.inl rfl, _, _, (Mat.trans hmat (mp [] [(4, (bo false))] [(500, some (.know (globF 0 [35, 37, 137]))), (501, some (.know (globF 1 [70, 138, 139])))] hB)), [(bo false)], (Res.tmp (by rfl) (by rfl) Res.nil), rfl, by rfl, by rfl, by rfl⟩
              · obtain ⟨rfl, hmat⟩ := hR
                refine blkQ_hit ?_
                refine seqQ_n ?_
                refine AWp.ghost hmat ?_
                refine AWp.seq ?_
                obtain ⟨r73, hr73, h⟩ := bindS h
                refine AWp.region (oc (OpJ.callFn hB fnOk17 (exchangepointlaw21_awake_ac  r73 hr73) [(500, 500), (501, 501)] (by kernel_rfl) (L rfl) (by kernel_rfl) OpdL.nil)
                  (oc (OpJ.assign (L rfl) (ot 82 (bo r73)))
                  (OpJs.nil))) (by rfl) (by rfl) ?_
                refine seqQ_n ?_
                refine AWp.ghost (mp [] [(4, (bo r73))] [(500, some (.know (globF 0 [35, 37, 137]))), (501, some (.know (globF 1 [70, 138, 139])))] hB) ?_
                refine AWp.ret ?_
                obtain rfl := Option.some.inj h
                exact ⟨.inl rfl, _, _, (kp [(4, _)] [(500, some _), (501, some _)] hB rfl rfl (by rfl)), [(bo r73)], (Res.tmp (by rfl) (by rfl) Res.nil), rfl, by rfl, by rfl, by rfl⟩

noncomputable def exchangepointref02_Cmp (a0 : api_Prefix) (a1 : api_Prefix) : Option (Int) :=
  (exchangepointref01_Cmp a0.fAddr a1.fAddr).bind fun r1 =>
  (if (r1 != (0 : Int)) = true then
  some r1
  else
  (if (decide (a0.fLen < a1.fLen)) = true then
  some (-1 : Int)
  else
  (if (decide (a1.fLen < a0.fLen)) = true then
  some (1 : Int)
  else
  some (0 : Int))))
set_option maxHeartbeats 4000000 in
set_option maxRecDepth 100000 in
theorem exchangepointref02_Cmp_ac (a0 : api_Prefix) (a1 : api_Prefix) (r : Int) (h : exchangepointref02_Cmp a0 a1 = some r) : AC Tryd.prog 26 [(.d (e_api_Prefix a0)), (.d (e_api_Prefix a1))] [] (.d (.int .i64 r)) [] := by
  refine AC.of_code2 Tryd.func26 rfl rfl (Nat.le_of_ble_eq_true (by rfl)) fun B hB hN => ?_
  have L {d : Nat} (h : Nat.blt d Tryd.f26.ntmps = true) : d < B.N := ltN hN h
  delta exchangepointref02_Cmp at h
  refine sr (cg (OpJ.box hB (nm := 1002) (by decide) (by simp) rfl (L rfl) (q 0)) rfl (cg (OpJ.box hB (nm := 1003) (by decide) (by simp) rfl (L rfl) (q 1)) rfl (c (OpJ.assign (L rfl) (Opd.int .i64 (0))) rfl cn))) ?_
  refine gh [(2, _), (3, _)] [(1002, some _), (1003, some _)] hB rfl rfl (by rfl) ?_
  refine AWp.seq ?_
  obtain ⟨r1, hr1, h⟩ := bindS h
  refine sr (c (ov (.ptr 1002 0 [0]) (fp hN Tryd.underlying34 0 tyS32 _ (q 2))) rfl (c (lb hN 34 _ _ tyS32 (ad _) (q 6)) rfl (c (ov (.ptr 1003 0 [0]) (fp hN Tryd.underlying34 0 tyS32 _ (q 3))) rfl (c (lb hN 34 _ _ tyS32 (ad _) (q 8)) rfl (cg (OpJ.callFn hB fnOk41 (exchangepointref01_Cmp_ac a0.fAddr a1.fAddr r1 hr1) [] (by kernel_rfl) (L rfl) (by kernel_rfl) (OpdL.cons (q 7) (OpdL.cons (q 9) OpdL.nil))) rfl (c (OpJ.assign (L rfl) (q 10)) rfl cn)))))) ?_
  refine gh [(2, _), (3, _), (5, _)] [(1002, some _), (1003, some _)] hB rfl rfl (by rfl) ?_
  refine sr (c (mv hN (q 5)) rfl (c (OpJ.neqI (L rfl) (q 11) (Opd.int .i64 (0))) rfl cn)) ?_
  refine gh [(2, _), (3, _), (5, _), (12, _)] [(1002, some _), (1003, some _)] hB rfl rfl (by rfl) ?_
  refine AWp.cond rfl (fun hg2 => ?_) (fun hg2 => ?_)
  · replace h := ite_t hg2 h
    refine sr (c (mv hN (q 5)) rfl (c (OpJ.assign (L rfl) (q 13)) rfl cn)) ?_
    refine gh [(4, _)] [] hB rfl rfl (by rfl) ?_
    refine AWp.ret ?_
    refine seqQ_r ?_
    obtain rfl := Option.some.inj h
    exact ⟨.inl rfl, _, _, (kp [(4, _)] [] hB rfl rfl (by rfl)), [(i6 r1)], (Res.tmp (by rfl) (by rfl) Res.nil), rfl, by rfl, by rfl, by rfl⟩
  · replace h := ite_f hg2 h
    refine AWp.skip ?_
    refine seqQ_n ?_
    refine AWp.seq ?_
    refine AWp.block ?_
    refine sr (c (ov (.ptr 1002 3 [1]) (fp hN Tryd.underlying34 3 tyS3 _ (q 2))) rfl (c (lb hN 34 _ _ tyS3 (ad _) (q 15)) rfl (c (ov (.ptr 1003 3 [1]) (fp hN Tryd.underlying34 3 tyS3 _ (q 3))) rfl (c (lb hN 34 _ _ tyS3 (ad _) (q 17)) rfl (c (OpJ.lss (L rfl) (q 16) (q 18)) rfl (c (OpJ.assign (L rfl) (q 19)) rfl cn)))))) ?_
    refine gh [(2, _), (3, _), (14, _)] [(1002, some _), (1003, some _)] hB rfl rfl (by rfl) ?_
    refine AWp.cond rfl (fun hg3 => ?_) (fun hg3 => ?_)
    · replace h := ite_t hg3 h
      refine sr (c (OpJ.assign (L rfl) (Opd.int .i64 (-1))) rfl cn) ?_
      refine gh [(4, _)] [] hB rfl rfl (by rfl) ?_
      refine AWp.ret ?_
      refine blkQ_r ?_
      refine seqQ_r ?_
      obtain rfl := Option.some.inj h
      exact ⟨.inl rfl, _, _, (kp [(4, _)] [] hB rfl rfl (by rfl)), [(i6 (-1 : Int))], (Res.tmp (by rfl) (by rfl) Res.nil), rfl, by rfl, by rfl, by rfl⟩
    · replace h := ite_f hg3 h
      refine sr (c (ov (.ptr 1002 3 [1]) (fp hN Tryd.underlying34 3 tyS3 _ (q 2))) rfl (c (lb hN 34 _ _ tyS3 (ad _) (q 21)) rfl (c (ov (.ptr 1003 3 [1]) (fp hN Tryd.underlying34 3 tyS3 _ (q 3))) rfl (c (lb hN 34 _ _ tyS3 (ad _) (q 23)) rfl (c (OpJ.gtr (L rfl) (q 22) (q 24)) rfl (c (OpJ.assign (L rfl) (q 25)) rfl cn)))))) ?_
      refine gh [(20, _)] [] hB rfl rfl (by rfl) ?_
      refine AWp.cond rfl (fun hg4 => ?_) (fun hg4 => ?_)
      · replace h := ite_t hg4 h
        refine sr (c (OpJ.assign (L rfl) (Opd.int .i64 (1))) rfl cn) ?_
        refine gh [(4, _)] [] hB rfl rfl (by rfl) ?_
        refine AWp.ret ?_
        refine blkQ_r ?_
        refine seqQ_r ?_
        obtain rfl := Option.some.inj h
        exact ⟨.inl rfl, _, _, (kp [(4, _)] [] hB rfl rfl (by rfl)), [(i6 1)], (Res.tmp (by rfl) (by rfl) Res.nil), rfl, by rfl, by rfl, by rfl⟩
      · replace h := ite_f hg4 h
        refine AWp.skip ?_
        refine blkQ_n ?_
        refine seqQ_n ?_
        refine sr (c (OpJ.assign (L rfl) (Opd.int .i64 (0))) rfl cn) ?_
        refine gh [(4, _)] [] hB rfl rfl (by rfl) ?_
        refine AWp.ret ?_
        obtain rfl := Option.some.inj h
        exact ⟨.inl rfl, _, _, (kp [(4, _)] [] hB rfl rfl (by rfl)), [(i6 0)], (Res.tmp (by rfl) (by rfl) Res.nil), rfl, by rfl, by rfl, by rfl⟩

noncomputable def exchangepointref02_Contains (a0 : api_Prefix) (a1 : api_Addr) : Option (Bool) :=
  (exchangepointref02_Make a1 a0.fLen).bind fun r1 =>
  some ((r1.2 == (0 : Int)) && (((r1.1.fAddr.fV6 == a0.fAddr.fV6) && ((r1.1.fAddr.fHi == a0.fAddr.fHi) && ((r1.1.fAddr.fLo == a0.fAddr.fLo) && true))) && ((r1.1.fLen == a0.fLen) && true)))
set_option maxHeartbeats 4000000 in
set_option maxRecDepth 100000 in
theorem exchangepointref02_Contains_ac (a0 : api_Prefix) (a1 : api_Addr) (r : Bool) (h : exchangepointref02_Contains a0 a1 = some r) : AC Tryd.prog 62 [(.d (e_api_Prefix a0)), (.d (e_api_Addr a1))] [] (.d (.bool r)) [] := by
  refine AC.of_code2 Tryd.func62 rfl rfl (Nat.le_of_ble_eq_true (by rfl)) fun B hB hN => ?_
  delta exchangepointref02_Contains at h
  refine sr (cg (OpJ.box hB (nm := 1002) (by decide) (by simp) rfl (ltN hN rfl) (q 0)) rfl (cg (OpJ.box hB (nm := 1003) (by decide) (by simp) rfl (ltN hN rfl) (q 1)) rfl (c (OpJ.assign (ltN hN rfl) (Opd.bool false)) rfl cn))) ?_
  refine gh [(2, _), (3, _)] [(1002, some _), (1003, some _)] hB rfl rfl (by rfl) ?_
  obtain ⟨r1, hr1, h⟩ := bindS h
  refine sr (c (lb hN 32 _ _ tyS32 (At.here _) (q 3)) rfl (c (ov (.ptr 1002 3 [1]) (fp hN Tryd.underlying34 3 tyS3 _ (q 2))) rfl (c (lb hN 34 _ _ tyS3 (ad _) (q 9)) rfl (cg (OpJ.callFn hB fnOk33 (exchangepointref02_Make_ac a1 a0.fLen r1 hr1) [] (by kernel_rfl) (ltN hN rfl) (by kernel_rfl) (OpdL.cons (q 8) (OpdL.cons (q 10) OpdL.nil))) rfl (c (mv hN (q 11)) rfl (c (OpJ.extract (by rfl) rfl (ltN hN rfl) (q 7)) rfl (c (OpJ.extract (by rfl) rfl (ltN hN rfl) (q 7)) rfl (cg (OpJ.alloc hB tyZ34 (nm := 1005) (by decide) (ltN hN rfl)) rfl (cg (OpJ.storeB tyS34 (SetAt.here _ _) (by rfl) (by rfl) (by simp) rfl (q 5) (q 12)) rfl (c (OpJ.assign (ltN hN rfl) (q 13)) rfl cn)))))))))) ?_
  refine gh [(2, _), (5, _), (6, _)] [(1002, some _), (1005, some _)] hB rfl rfl (by rfl) ?_
  refine sr (c (mv hN (q 6)) rfl (c (OpJ.eqlI (ltN hN rfl) (q 14) (Opd.int .i64 (0))) rfl (c (mv hN (q 15)) rfl (c (oq hN 16 (lb hN 34 _ _ tyS34 (At.here _) (q 5)) (OptL.keep (by rfl) OptL.nil) (GuardV.plain _)) rfl (c (oq hN 16 (lb hN 34 _ _ tyS34 (At.here _) (q 2)) (OptL.keep (by rfl) OptL.nil) (GuardV.plain _)) rfl (c (oq hN 16 (OpJ.eqlD (h := 3) (FitE.st Tryd.underlying34 rfl held34 (FitF.cons (x := (e_api_Addr r1.1.fAddr)) (y := (e_api_Addr a0.fAddr)) (by decide) rfl tyS32 ⟨rfl, rfl⟩ ⟨rfl, rfl⟩ (FitE.st Tryd.underlying32 rfl held32 (FitF.cons (x := (.bool r1.1.fAddr.fV6)) (y := (.bool a0.fAddr.fV6)) (by decide) rfl tyS4 ⟨rfl, rfl⟩ ⟨rfl, rfl⟩ (FitE.bool (h := 0) r1.1.fAddr.fV6 a0.fAddr.fV6 Tryd.underlying4) (FitF.cons (x := (.int .u64 r1.1.fAddr.fHi)) (y := (.int .u64 a0.fAddr.fHi)) (by decide) rfl tyS30 ⟨rfl, rfl⟩ ⟨rfl, rfl⟩ (FitE.int (h := 0) r1.1.fAddr.fHi a0.fAddr.fHi Tryd.underlying30) (FitF.cons (x := (.int .u64 r1.1.fAddr.fLo)) (y := (.int .u64 a0.fAddr.fLo)) (by decide) rfl tyS30 ⟨rfl, rfl⟩ ⟨rfl, rfl⟩ (FitE.int (h := 0) r1.1.fAddr.fLo a0.fAddr.fLo Tryd.underlying30) FitF.nil)))) (FitF.cons (x := (.int .i64 r1.1.fLen)) (y := (.int .i64 a0.fLen)) (by decide) rfl tyS3 ⟨rfl, rfl⟩ ⟨rfl, rfl⟩ (FitE.int (h := 1) r1.1.fLen a0.fLen Tryd.underlying3) FitF.nil))) eqg34 ⟨rfl, rfl⟩ (by rfl) (ltN hN rfl) (q 17) (q 18)) (OptL.opt (OptL.opt OptL.nil)) (GuardV.plain _)) rfl (c (OpJ.pickAnd rfl (ltN hN rfl) (q 16) (q 19)) rfl (c (OpJ.assign (ltN hN rfl) (q 20)) rfl cn)))))))) ?_
  refine gh [(4, _)] [] hB rfl rfl (by rfl) ?_
  refine AWp.ret ?_
  obtain rfl := Option.some.inj h
  exact ⟨.inl rfl, _, _, (kp [(4, _)] [] hB rfl rfl (by rfl)), [(bo ((r1.2 == (0 : Int)) && (((r1.1.fAddr.fV6 == a0.fAddr.fV6) && ((r1.1.fAddr.fHi == a0.fAddr.fHi) && ((r1.1.fAddr.fLo == a0.fAddr.fLo) && true))) && ((r1.1.fLen == a0.fLen) && true))))], (Res.tmp (by rfl) (by rfl) Res.nil), rfl, by rfl, by rfl, by rfl⟩

noncomputable def exchangepointref02_Covers (a0 : api_Prefix) (a1 : api_Prefix) : Option (Bool) :=
  jn (fun m3 : Bool =>
  some m3) (fun j4 =>
  (if (decide (a0.fLen ≤ a1.fLen)) = true then
  (exchangepointref02_Contains a0 a1.fAddr).bind fun r6 =>
  j4 r6
  else
  j4 false))
set_option maxHeartbeats 4000000 in
set_option maxRecDepth 100000 in
theorem exchangepointref02_Covers_ac (a0 : api_Prefix) (a1 : api_Prefix) (r : Bool) (h : exchangepointref02_Covers a0 a1 = some r) : AC Tryd.prog 27 [(.d (e_api_Prefix a0)), (.d (e_api_Prefix a1))] [] (.d (.bool r)) [] := by
  refine AC.of_code2 Tryd.func27 rfl rfl (Nat.le_of_ble_eq_true (by rfl)) fun B hB hN => ?_
  have L {d : Nat} (h : Nat.blt d Tryd.f27.ntmps = true) : d < B.N := ltN hN h
  delta exchangepointref02_Covers at h
  refine sr (cg (OpJ.box hB (nm := 1002) (by decide) (by simp) rfl (L rfl) (q 0)) rfl (cg (OpJ.box hB (nm := 1003) (by decide) (by simp) rfl (L rfl) (q 1)) rfl (c (OpJ.assign (L rfl) (Opd.bool false)) rfl cn))) ?_
  refine gh [(2, _), (3, _)] [(1002, some _), (1003, some _)] hB rfl rfl (by rfl) ?_
  refine AWp.seq ?_
  refine AWp.cut h (fun m3 : Bool => ([(4, (bo m3))] : EL)) (fun m3 : Bool => ([] : OL)) (fun m3 h E' O' hmat => ?_) (fun j4 hjj4 h => ?_)
  · refine seqQ_n ?_
    refine AWp.ghost hmat ?_
    refine AWp.ret ?_
    obtain rfl := Option.some.inj h
    exact ⟨.inl rfl, _, _, (kp [(4, _)] [] hB rfl rfl (by rfl)), [(bo m3)], (Res.tmp (by rfl) (by rfl) Res.nil), rfl, by rfl, by rfl, by rfl⟩
  · rcases Bool.eq_false_or_eq_true (decide (a0.fLen ≤ a1.fLen)) with hg5 | hg5
    · replace h := ite_t hg5 h
      obtain ⟨r6, hr6, h⟩ := bindS h
      refine rg (c (ov (.ptr 1003 3 [1]) (fp hN Tryd.underlying34 3 tyS3 _ (q 3))) rfl (c (lb hN 34 _ _ tyS3 (ad _) (q 5)) rfl (c (ov (.ptr 1002 3 [1]) (fp hN Tryd.underlying34 3 tyS3 _ (q 2))) rfl (c (lb hN 34 _ _ tyS3 (ad _) (q 7)) rfl (c (OpJ.geq (L rfl) (q 6) (q 8)) rfl (c (OpJ.val (v' := .d (.bool true)) (by rw [hg5] <;> rfl) (mv hN (q 9))) rfl (c (OpJ.guarded (g := 10) (by rfl) (lb hN 34 _ _ tyS34 (At.here _) (q 2))) rfl (c (OpJ.guarded (g := 10) (by rfl) (ov (.ptr 1003 0 [0]) (fp hN Tryd.underlying34 0 tyS32 _ (q 3)))) rfl (c (OpJ.guarded (g := 10) (by rfl) (lb hN 34 _ _ tyS32 (ad _) (q 12))) rfl (cg (OpJ.guarded (g := 10) (by rfl) (OpJ.callFn hB fnOk62 (exchangepointref02_Contains_ac a0 a1.fAddr r6 hr6) [] (by kernel_rfl) (L rfl) (by kernel_rfl) (OpdL.cons (q 11) (OpdL.cons (q 13) OpdL.nil)))) rfl (c (OpJ.pickT (L rfl) (q 10) (q 14)) rfl (c (OpJ.assign (L rfl) (q 15)) rfl cn)))))))))))) ?_
      exact hjj4 _ h _ _ (Mat.trans (mp [] [(4, (bo r6))] [] hB) (mp [] _ _ hB))
    · replace h := ite_f hg5 h
      refine rg (c (ov (.ptr 1003 3 [1]) (fp hN Tryd.underlying34 3 tyS3 _ (q 3))) rfl (c (lb hN 34 _ _ tyS3 (ad _) (q 5)) rfl (c (ov (.ptr 1002 3 [1]) (fp hN Tryd.underlying34 3 tyS3 _ (q 2))) rfl (c (lb hN 34 _ _ tyS3 (ad _) (q 7)) rfl (c (OpJ.geq (L rfl) (q 6) (q 8)) rfl (c (OpJ.val (v' := .d (.bool false)) (by rw [hg5] <;> rfl) (mv hN (q 9))) rfl (cg (OpJ.skipU (g := 10) (L rfl) (by rfl)) rfl (cg (OpJ.skipU (g := 10) (L rfl) (by rfl)) rfl (cg (OpJ.skipU (g := 10) (L rfl) (by rfl)) rfl (cg (OpJ.skipU (g := 10) (L rfl) (by rfl)) rfl (c (OpJ.pickF (L rfl) (q 10) (Opd.bool false)) rfl (c (OpJ.assign (L rfl) (q 15)) rfl cn)))))))))))) ?_
      exact hjj4 _ h _ _ (Mat.trans (mp [] [(4, (bo false))] [] hB) (mp [] _ _ hB))


end Go.Proofs.YtgcilleccigmdaaDoor
