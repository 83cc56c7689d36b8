/- Printed by gen.py: the Go functions as plain functions, and that the code does what they say. -/
import Derived.Test.YtgcilleccigmdaaDoorChecked
import Derived.Test.YtgcilleccigmdaaDoorVcYB
import Derived.Test.YtgcilleccigmdaaDoorVcZ
import Derived.KernelRfl
import Derived.Test.YtgcilleccigmdaaDoorVcMD
import Derived.Test.YtgcilleccigmdaaDoorVcMQ
import Derived.Test.YtgcilleccigmdaaDoorVcSG
import Derived.Test.YtgcilleccigmdaaDoorFnsB
import Derived.Test.YtgcilleccigmdaaDoorExt
import Derived.Test.YtgcilleccigmdaaDoorVcGl
import Derived.Test.YtgcilleccigmdaaDoorVcSO
namespace Go.Proofs.YtgcilleccigmdaaDoor
open Go Go.Vc
noncomputable def resource_Prefixes_L1 (x76 : api_Range) (s77 : Bool × api_Addr × (List api_Prefix)) : Option ((((List api_Prefix))) ⊕ (Bool × api_Addr × (List api_Prefix))) :=
  jn (fun m98 : Bool =>
  (if m98 = true then
  (resource_largest s77.2.1 x76.fTo).bind fun r101 =>
  chk (decide ((s77.2.2 ++ ([r101] : List api_Prefix)).length ≤ LIM)) <|
  (prefix_Last r101).bind fun r103 =>
  (addr_Next r103).bind fun r104 =>
  some (.inr (r104.2, r104.1, (s77.2.2 ++ ([r101] : List api_Prefix))))
  else
  some (.inl s77.2.2))) (fun j99 =>
  (if s77.1 = true then
  (addr_Cmp s77.2.1 x76.fTo).bind fun r106 =>
  j99 (decide (r106 ≤ (0 : Int)))
  else
  j99 false))
noncomputable def resource_Prefixes_L0 (a0 : api_Resources) (s3 : Int × (List api_Prefix)) : Option ((((List api_Prefix))) ⊕ (Int × (List api_Prefix))) :=
  (if (decide (s3.1 < (a0.fAddrs.length : Int))) = true then
  (idx a0.fAddrs s3.1).bind fun x76 =>
  (loop (resource_Prefixes_L1 x76) (true, x76.fFrom, s3.2)).bind fun p95 =>
  some (.inr ((w64 (s3.1 + (1 : Int))), p95))
  else
  some (.inl s3.2))
noncomputable def resource_Prefixes (a0 : api_Resources) : Option ((List api_Prefix)) :=
  (resource_Valid a0).bind fun r1 =>
  (if (!r1) = true then
  some ([] : List api_Prefix)
  else
  (loop (resource_Prefixes_L0 a0) ((0 : Int), ([] : List api_Prefix))).bind fun p74 =>
  some p74)
set_option maxHeartbeats 4000000 in
set_option maxRecDepth 100000 in
theorem resource_Prefixes_ac (a0 : api_Resources) (r : (List api_Prefix)) (h : resource_Prefixes a0 = some r) : AC Tryd.prog 11 [(.d (e_api_Resources a0))] [(500, (.know (globF 0 [35, 37, 137]))), (501, (.know (globF 1 [70, 138, 139])))] (.d (.list 4 (r.map e_api_Prefix))) [(500, some (.know (globF 0 [35, 37, 137]))), (501, some (.know (globF 1 [70, 138, 139])))] := by
  refine AC.of_code2 Tryd.func11 rfl rfl (Nat.le_of_ble_eq_true (by rfl)) fun B hB hN => ?_
  have L {d : Nat} (h : Nat.blt d Tryd.f11.ntmps = true) : d < B.N := ltN hN h
  delta resource_Prefixes at h
  refine sr (cg (OpJ.box hB (nm := 1001) (by decide) (by simp) rfl (L rfl) (q 0)) rfl (c (OpJ.assign (L rfl) Opd.nils) rfl cn)) ?_
  refine gh [(1, _)] [(500, some _), (501, some _), (1001, some _)] hB rfl rfl (by rfl) ?_
  refine sr (c (OpJ.assign (L rfl) Opd.nils) rfl cn) ?_
  refine gh [(1, _), (3, _)] [(500, some _), (501, some _), (1001, some _)] hB rfl rfl (by rfl) ?_
  refine AWp.seq ?_
  refine AWp.seq ?_
  obtain ⟨r1, hr1, h⟩ := bindS h
  refine AWp.region (oc (lb hN 28 (.d (e_api_Resources a0)) (.d (e_api_Resources a0)) tyS28 (At.here _) (ot 1 (.ptr 1001 0 [])))
  (oc (OpJ.callFn hB fnOk20 (resource_Valid_ac a0 r1 hr1) [(500, 500), (501, 501)] (by kernel_rfl) (L rfl) (by kernel_rfl) (OpdL.cons (ot 9 (.d (e_api_Resources a0))) OpdL.nil))
  (oc (OpJ.not (L rfl) (ot 10 (bo r1)))
  (OpJs.nil)))) (by rfl) (by rfl) ?_
  refine seqQ_n ?_
  refine AWp.ghost (mp [] [(1, (.ptr 1001 0 [])), (3, .nils), (11, (bo (!r1)))] [(500, some (.know (globF 0 [35, 37, 137]))), (501, some (.know (globF 1 [70, 138, 139]))), (1001, some (.box 28 (.d (e_api_Resources a0))))] hB) ?_
  refine AWp.cond rfl (fun hg2 => ?_) (fun hg2 => ?_)
  · replace h := ite_t hg2 h
    refine sr (c (OpJ.assign (L rfl) Opd.nils) rfl cn) ?_
    refine gh [(2, _)] [(500, some _), (501, some _)] hB rfl rfl (by rfl) ?_
    refine AWp.ret ?_
    refine seqQ_r ?_
    obtain rfl := Option.some.inj h
    exact ⟨.inl rfl, _, _, (Mat.trans (Mat.coeP (Ts := [(2, (qe_api_Prefix_4 ([] : List api_Prefix)))]) (Bs := []) (TwT.cons (x := .nils) (by rfl) (Tw.leaf ⟨_, (Co.nils 4), rfl⟩) TwT.nil) TwB.nil) (mp [] [(2, (qe_api_Prefix_4 ([] : List api_Prefix)))] [(500, some (.know (globF 0 [35, 37, 137]))), (501, some (.know (globF 1 [70, 138, 139])))] hB)), [(qe_api_Prefix_4 ([] : List api_Prefix))], (Res.tmp (by rfl) (by rfl) Res.nil), rfl, by rfl, by rfl, by rfl⟩
  · replace h := ite_f hg2 h
    refine AWp.skip ?_
    refine seqQ_n ?_
    refine AWp.seq ?_
    refine sr (c (ov (.ptr 1001 0 [0]) (fp hN Tryd.underlying28 0 tyS25 _ (q 1))) rfl (c (lb hN 28 _ _ tyS25 (ad _) (q 12)) rfl (c (OpJ.val (v' := (i6 (a0.fAddrs.length : Int))) (by simp) (OpJ.lenD Tryd.underlying25 (L rfl) (q 13))) rfl (c (mv hN (Opd.int .i64 (0))) rfl cn)))) ?_
    refine gh [(3, _), (13, _), (14, _), (15, _)] [(500, some _), (501, some _)] hB rfl rfl (by rfl) ?_
    refine AWp.block ?_
    obtain ⟨p74, hx110, h⟩ := bindS h
    refine lg (resource_Prefixes_L0 a0) (fun s3 : Int × (List api_Prefix) => ([(3, (.sref 3003 4 0 s3.2.length)), (13, (qe_api_Range_6 a0.fAddrs)), (14, (i6 (a0.fAddrs.length : Int))), (15, (i6 s3.1))] : EL)) (fun s3 : Int × (List api_Prefix) => ([(500, some (.know (globF 0 [35, 37, 137]))), (501, some (.know (globF 1 [70, 138, 139]))), (3003, some (we_api_Prefix_34_4 s3.2))] : OL)) (fun (p74 : ((List api_Prefix))) e E' O' => e = .exit 0 ∧ Mat B E' O' ([(3, (.sref 3003 4 0 p74.length))] : EL) ([(500, some (.know (globF 0 [35, 37, 137]))), (501, some (.know (globF 1 [70, 138, 139]))), (3003, some (we_api_Prefix_34_4 p74))] : OL)) hx110 (Mat.trans (Mat.beginP (n := 3003) (e := 34) (sz := 4) (Ts := [(3, (.sref 3003 4 0 0))]) (Bs := []) hB (by decide) (by rfl) (by decide) (TwT.cons (x := .nils) (by rfl) (Tw.leaf ⟨rfl, rfl⟩) TwT.nil) TwB.nil) (mp [] _ _ hB)) (fun s3 y h => ?_) (fun e E' O' hR => ?_)
    · unfold resource_Prefixes_L0 at h
      refine sr (c (OpJ.lss (L rfl) (q 15) (q 14)) rfl cn) ?_
      refine gh [(3, _), (13, _), (14, _), (15, _), (16, _)] [(500, some _), (501, some _), (3003, some _)] hB rfl rfl (by rfl) ?_
      refine AWp.seq ?_
      refine AWp.cond rfl (fun hg75 => ?_) (fun hg75 => ?_)
      · replace h := ite_t hg75 h
        refine AWp.skip ?_
        refine seqQ_n ?_
        refine AWp.seq ?_
        refine AWp.block ?_
        obtain ⟨x76, hx76, h⟩ := bindS h
        refine sr (c (OpJ.indexD Tryd.underlying25 tyS68 (idx_some hx76).1 (get_map e_api_Range (idx_some hx76).2) (L rfl) (q 13) (q 15)) rfl (c (OpJ.loadD tyS68 (by rfl) (by rfl) (L rfl) (q 17)) rfl (cg (OpJ.alloc hB tyZ68 (nm := 1005) (by decide) (L rfl)) rfl (cg (OpJ.storeB tyS68 (SetAt.here _ _) (by rfl) (by rfl) (by simp) rfl (q 5) (q 18)) rfl cn)))) ?_
        refine gh [(3, _), (5, _), (13, _), (14, _), (15, _)] [(500, some _), (501, some _), (1005, some _), (3003, some _)] hB rfl rfl (by rfl) ?_
        refine sr (c (ov (.ptr 1005 0 [0]) (fp hN Tryd.underlying68 0 tyS32 _ (q 5))) rfl (c (lb hN 68 _ _ tyS32 (ad _) (q 19)) rfl (cg (OpJ.alloc hB tyZ32 (nm := 1006) (by decide) (L rfl)) rfl (cg (OpJ.storeB tyS32 (SetAt.here _ _) (by rfl) (by rfl) (by simp) rfl (q 6) (q 20)) rfl (c (OpJ.assign (L rfl) (Opd.bool true)) rfl cn))))) ?_
        refine gh [(3, _), (5, _), (6, _), (7, _), (13, _), (14, _), (15, _)] [(500, some _), (501, some _), (1005, some _), (1006, some _), (3003, some _)] hB rfl rfl (by rfl) ?_
        refine AWp.block ?_
        obtain ⟨p95, hx108, h⟩ := bindS h
        refine lg (resource_Prefixes_L1 x76) (fun s77 : Bool × api_Addr × (List api_Prefix) => ([(3, (.sref 3003 4 0 s77.2.2.length)), (5, (.ptr 1005 0 [])), (6, (.ptr 1006 0 [])), (7, (bo s77.1)), (13, (qe_api_Range_6 a0.fAddrs)), (14, (i6 (a0.fAddrs.length : Int))), (15, (i6 s3.1))] : EL)) (fun s77 : Bool × api_Addr × (List api_Prefix) => ([(500, some (.know (globF 0 [35, 37, 137]))), (501, some (.know (globF 1 [70, 138, 139]))), (1005, some (.box 68 (.d (e_api_Range x76)))), (1006, some (.box 32 (.d (e_api_Addr s77.2.1)))), (3003, some (we_api_Prefix_34_4 s77.2.2))] : OL)) (fun (p95 : ((List api_Prefix))) e E' O' => e = .exit 2 ∧ Mat B E' O' ([(3, (.sref 3003 4 0 p95.length)), (13, (qe_api_Range_6 a0.fAddrs)), (14, (i6 (a0.fAddrs.length : Int))), (15, (i6 s3.1))] : EL) ([(500, some (.know (globF 0 [35, 37, 137]))), (501, some (.know (globF 1 [70, 138, 139]))), (3003, some (we_api_Prefix_34_4 p95))] : OL)) hx108 (mp [] _ _ hB) (fun s77 y h => ?_) (fun e E' O' hR => ?_)
        · unfold resource_Prefixes_L1 at h
          refine AWp.seq ?_
          refine AWp.seq ?_
          refine AWp.cut h (fun m98 : Bool => ([(3, (.sref 3003 4 0 s77.2.2.length)), (5, (.ptr 1005 0 [])), (6, (.ptr 1006 0 [])), (13, (qe_api_Range_6 a0.fAddrs)), (14, (i6 (a0.fAddrs.length : Int))), (15, (i6 s3.1)), (28, (bo m98))] : EL)) (fun m98 : Bool => ([(500, some (.know (globF 0 [35, 37, 137]))), (501, some (.know (globF 1 [70, 138, 139]))), (1005, some (.box 68 (.d (e_api_Range x76)))), (1006, some (.box 32 (.d (e_api_Addr s77.2.1)))), (3003, some (we_api_Prefix_34_4 s77.2.2))] : OL)) (fun m98 h E' O' hmat => ?_) (fun j99 hjj99 h => ?_)
          · refine seqQ_n ?_
            refine AWp.ghost hmat ?_
            refine AWp.cond rfl (fun hg100 => ?_) (fun hg100 => ?_)
            · replace h := ite_t hg100 h
              refine AWp.skip ?_
              refine seqQ_n ?_
              refine AWp.seq ?_
              refine AWp.block ?_
              obtain ⟨r101, hr101, h⟩ := bindS h
              refine sr (c (lb hN 32 _ _ tyS32 (At.here _) (q 6)) rfl (c (ov (.ptr 1005 3 [1]) (fp hN Tryd.underlying68 3 tyS32 _ (q 5))) rfl (c (lb hN 68 _ _ tyS32 (ad _) (q 30)) rfl (cg (OpJ.callFn hB fnOk36 (resource_largest_ac s77.2.1 x76.fTo r101 hr101) [] (by kernel_rfl) (L rfl) (by kernel_rfl) (OpdL.cons (q 29) (OpdL.cons (q 31) OpdL.nil))) rfl (cg (OpJ.alloc hB tyZ34 (nm := 1008) (by decide) (L rfl)) rfl (cg (OpJ.storeB tyS34 (SetAt.here _ _) (by rfl) (by rfl) (by simp) rfl (q 8) (q 32)) rfl cn)))))) ?_
              refine gh [(3, _), (5, _), (6, _), (8, _), (13, _), (14, _), (15, _)] [(500, some _), (501, some _), (1005, some _), (1006, some _), (1008, some _), (3003, some _)] hB rfl rfl (by rfl) ?_
              obtain ⟨hc102, h⟩ := chk_some h
              refine sr (c (mv hN (q 3)) rfl (c (lb hN 34 _ _ tyS34 (At.here _) (q 8)) rfl (c (OpJ.buildSlice Tryd.underlying36 tyS34 tyZD34 (by rfl) (by decide) (by decide) (Opds.cons (q 34) Opds.nil) (by kernel_rfl) (es := ([(e_api_Prefix r101)] : List D)) (by rfl) (by rfl) (by kernel_rfl) (by simp) (L rfl)) rfl (cg (OpJ.append hB Tryd.underlying36 tyE34 (nm := 1036) (by decide) (es := s77.2.2.map e_api_Prefix) (ys := ([r101] : List api_Prefix).map e_api_Prefix) (es' := (s77.2.2 ++ ([r101] : List api_Prefix)).map e_api_Prefix) (len := (s77.2.2 ++ ([r101] : List api_Prefix)).length) (by simp) (by simp) (map_sz (f := e_api_Prefix) (fun _ => rfl)) (by rw [List.length_map]; exact lim_mulN hc102 (by decide)) (by rw [List.length_map]; exact lim_leN hc102) (L rfl) (by simp) (q 33) (q 35)) rfl (c (OpJ.assign (L rfl) (q 36)) rfl cn))))) ?_
              refine gh [(3, _), (5, _), (6, _), (8, _), (13, _), (14, _), (15, _)] [(500, some _), (501, some _), (1005, some _), (1006, some _), (1008, some _), (1036, some _)] hB rfl rfl (by rfl) ?_
              obtain ⟨r103, hr103, h⟩ := bindS h
              obtain ⟨r104, hr104, h⟩ := bindS h
              refine rg (c (lb hN 34 _ _ tyS34 (At.here _) (q 8)) rfl (cg (OpJ.callFn hB fnOk38 (prefix_Last_ac r101 r103 hr103) [] (by kernel_rfl) (L rfl) (by kernel_rfl) (OpdL.cons (q 38) OpdL.nil)) rfl (cg (OpJ.callFn hB fnOk37 (addr_Next_ac r103 r104 hr104) [] (by kernel_rfl) (L rfl) (by kernel_rfl) (OpdL.cons (q 39) OpdL.nil)) rfl (c (mv hN (q 40)) rfl (c (OpJ.extract (by rfl) rfl (L rfl) (q 37)) rfl (c (OpJ.extract (by rfl) rfl (L rfl) (q 37)) rfl (cg (OpJ.storeB tyS32 (SetAt.here _ _) (by rfl) (by rfl) (by simp) rfl (q 6) (q 41)) rfl (c (OpJ.assign (L rfl) (q 42)) rfl cn)))))))) ?_
              refine blkQ_n ?_
              refine seqQ_n ?_
              refine gh [(3, _), (5, _), (6, _), (7, _), (13, _), (14, _), (15, _)] [(500, some _), (501, some _), (1005, some _), (1006, some _), (1036, some _)] hB rfl rfl (by rfl) ?_
              refine sr (c (lb hN 32 _ _ tyS32 (At.here _) (q 6)) rfl cn) ?_
              refine gh [(3, _), (5, _), (7, _), (13, _), (14, _), (15, _), (43, _)] [(500, some _), (501, some _), (1005, some _), (1036, some _)] hB rfl rfl (by rfl) ?_
              refine rg (cg (OpJ.alloc hB tyZ32 (nm := 1006) (by decide) (L rfl)) rfl (cg (OpJ.storeB tyS32 (SetAt.here _ _) (by rfl) (by rfl) (by simp) rfl (q 6) (q 43)) rfl cn)) ?_
              obtain rfl := Option.some.inj h
              exact ⟨rfl, (Mat.trans (mp [] [(3, (.sref 1036 4 0 ((s77.2.2 ++ ([r101] : List api_Prefix)).length))), (5, (.ptr 1005 0 [])), (6, (.ptr 1006 0 [])), (7, (bo r104.2)), (13, (qe_api_Range_6 a0.fAddrs)), (14, (i6 (a0.fAddrs.length : Int))), (15, (i6 s3.1))] [(500, some (.know (globF 0 [35, 37, 137]))), (501, some (.know (globF 1 [70, 138, 139]))), (1005, some (.box 68 (.d (e_api_Range x76)))), (1006, some (.box 32 (.d (e_api_Addr r104.1)))), (1036, some (we_api_Prefix_34_4 (s77.2.2 ++ ([r101] : List api_Prefix))))] hB) (mp [(3003, 1036)] _ _ hB))⟩
            · replace h := ite_f hg100 h
              refine AWp.exit ?_
              refine seqQ_e ?_
              obtain rfl := Option.some.inj h
              exact ⟨(fun hc => by cases hc), rfl, (mp [] _ _ hB)⟩
          · rcases Bool.eq_false_or_eq_true s77.1 with hg105 | hg105
            · replace h := ite_t hg105 h
              obtain ⟨r106, hr106, h⟩ := bindS h
              refine rg (c (mv hN (q 7)) rfl (c (OpJ.val (v' := .d (.bool true)) (by rw [hg105] <;> rfl) (mv hN (q 21))) rfl (c (OpJ.guarded (g := 22) (by rfl) (lb hN 32 _ _ tyS32 (At.here _) (q 6))) rfl (c (OpJ.guarded (g := 22) (by rfl) (ov (.ptr 1005 3 [1]) (fp hN Tryd.underlying68 3 tyS32 _ (q 5)))) rfl (c (OpJ.guarded (g := 22) (by rfl) (lb hN 68 _ _ tyS32 (ad _) (q 24))) rfl (cg (OpJ.guarded (g := 22) (by rfl) (OpJ.callFn hB fnOk35 (addr_Cmp_ac s77.2.1 x76.fTo r106 hr106) [] (by kernel_rfl) (L rfl) (by kernel_rfl) (OpdL.cons (q 23) (OpdL.cons (q 25) OpdL.nil)))) rfl (c (OpJ.guarded (g := 22) (by rfl) (OpJ.leq (L rfl) (q 26) (Opd.int .i64 (0)))) rfl (c (OpJ.pickT (L rfl) (q 22) (q 27)) rfl cn)))))))) ?_
              exact hjj99 _ h _ _ (Mat.trans (mp [] [(3, (.sref 3003 4 0 s77.2.2.length)), (5, (.ptr 1005 0 [])), (6, (.ptr 1006 0 [])), (13, (qe_api_Range_6 a0.fAddrs)), (14, (i6 (a0.fAddrs.length : Int))), (15, (i6 s3.1)), (28, (bo (decide (r106 ≤ (0 : Int)))))] [(500, some (.know (globF 0 [35, 37, 137]))), (501, some (.know (globF 1 [70, 138, 139]))), (1005, some (.box 68 (.d (e_api_Range x76)))), (1006, some (.box 32 (.d (e_api_Addr s77.2.1)))), (3003, some (we_api_Prefix_34_4 s77.2.2))] hB) (mp [] _ _ hB))
            · replace h := ite_f hg105 h
              refine rg (c (mv hN (q 7)) rfl (c (OpJ.val (v' := .d (.bool false)) (by rw [hg105] <;> rfl) (mv hN (q 21))) rfl (cg (OpJ.skipU (g := 22) (L rfl) (by rfl)) rfl (cg (OpJ.skipU (g := 22) (L rfl) (by rfl)) rfl (cg (OpJ.skipU (g := 22) (L rfl) (by rfl)) rfl (cg (OpJ.skipU (g := 22) (L rfl) (by rfl)) rfl (cg (OpJ.skipU (g := 22) (L rfl) (by rfl)) rfl (c (OpJ.pickF (L rfl) (q 22) (Opd.bool false)) rfl cn)))))))) ?_
              exact hjj99 _ h _ _ (Mat.trans (mp [] [(3, (.sref 3003 4 0 s77.2.2.length)), (5, (.ptr 1005 0 [])), (6, (.ptr 1006 0 [])), (13, (qe_api_Range_6 a0.fAddrs)), (14, (i6 (a0.fAddrs.length : Int))), (15, (i6 s3.1)), (28, (bo false))] [(500, some (.know (globF 0 [35, 37, 137]))), (501, some (.know (globF 1 [70, 138, 139]))), (1005, some (.box 68 (.d (e_api_Range x76)))), (1006, some (.box 32 (.d (e_api_Addr s77.2.1)))), (3003, some (we_api_Prefix_34_4 s77.2.2))] hB) (mp [] _ _ hB))
        · obtain ⟨rfl, hmat⟩ := hR
          refine blkQ_hit ?_
          refine blkQ_n ?_
          refine seqQ_n ?_
          refine AWp.ghost hmat ?_
          refine rg (c (add6 (L rfl) (q 15) (Opd.int .i64 (1))) rfl (c (mv hN (q 44)) rfl cn)) ?_
          obtain rfl := Option.some.inj h
          exact ⟨rfl, (Mat.trans (mp [] [(3, (.sref 3003 4 0 p95.length)), (13, (qe_api_Range_6 a0.fAddrs)), (14, (i6 (a0.fAddrs.length : Int))), (15, (i6 (w64 (s3.1 + (1 : Int)))))] [(500, some (.know (globF 0 [35, 37, 137]))), (501, some (.know (globF 1 [70, 138, 139]))), (3003, some (we_api_Prefix_34_4 p95))] hB) (mp [] _ _ hB))⟩
      · replace h := ite_f hg75 h
        refine AWp.exit ?_
        refine seqQ_e ?_
        obtain rfl := Option.some.inj h
        exact ⟨(fun hc => by cases hc), rfl, (mp [] _ _ hB)⟩
    · obtain ⟨rfl, hmat⟩ := hR
      refine blkQ_hit ?_
      refine seqQ_n ?_
      refine AWp.ghost hmat ?_
      refine sr (c (mv hN (q 3)) rfl (c (OpJ.assign (L rfl) (q 45)) rfl cn)) ?_
      refine gh [(2, _)] [(500, some _), (501, some _), (3003, some _)] hB rfl rfl (by rfl) ?_
      refine AWp.ret ?_
      obtain rfl := Option.some.inj h
      exact ⟨.inl rfl, _, _, (Mat.trans (Mat.freezeP (n := 3003) (e := 34) (sz := 4) (es := p74.map e_api_Prefix) (Ts := [(2, (qe_api_Prefix_4 p74))]) (Bs := []) (by rfl) (TwT.cons (x := (.sref 3003 4 0 p74.length)) (by rfl) (FrzL.all (by first | rfl | (simp; done) | (simp; omega) | omega)) TwT.nil) TwB.nil) (mp [] [(2, (qe_api_Prefix_4 p74))] [(500, some (.know (globF 0 [35, 37, 137]))), (501, some (.know (globF 1 [70, 138, 139])))] hB)), [(qe_api_Prefix_4 p74)], (Res.tmp (by rfl) (by rfl) Res.nil), rfl, by rfl, by rfl, by rfl⟩

noncomputable def exchangepointref21_Prefixes_2_L0 (a0 : api_Resources) (s1 : Int × (List api_Prefix)) : Option ((((List api_Prefix))) ⊕ (Int × (List api_Prefix))) :=
  (if (decide (s1.1 < (a0.fAddrs.length : Int))) = true then
  (idx a0.fAddrs s1.1).bind fun x13 =>
  (exchangepointref21_divide 1000 (api_Prefix.mk (api_Addr.mk x13.fFrom.fV6 (0 : Int) (0 : Int)) (0 : Int)) x13).bind fun r14 =>
  chk (decide ((s1.2 ++ r14).length ≤ LIM)) <|
  some (.inr ((w64 (s1.1 + (1 : Int))), (s1.2 ++ r14)))
  else
  some (.inl s1.2))
noncomputable def exchangepointref21_Prefixes_2 (a0 : api_Resources) : Option ((List api_Prefix)) :=
  (loop (exchangepointref21_Prefixes_2_L0 a0) ((0 : Int), ([] : List api_Prefix))).bind fun p11 =>
  some p11
set_option maxHeartbeats 4000000 in
set_option maxRecDepth 100000 in
theorem exchangepointref21_Prefixes_2_ac (a0 : api_Resources) (r : (List api_Prefix)) (h : exchangepointref21_Prefixes_2 a0 = some r) : AC Tryd.prog 10 [(.d (e_api_Resources a0))] [] (.sref 900000 4 0 r.length) [(900000, some (.row 34 4 (r.map e_api_Prefix)))] := by
  refine AC.of_code2 Tryd.func10 rfl rfl (Nat.le_of_ble_eq_true (by rfl)) fun B hB hN => ?_
  have L {d : Nat} (h : Nat.blt d Tryd.f10.ntmps = true) : d < B.N := ltN hN h
  delta exchangepointref21_Prefixes_2 at h
  refine sr (cg (OpJ.box hB (nm := 1001) (by decide) (by simp) rfl (L rfl) (q 0)) rfl (c (OpJ.assign (L rfl) Opd.nils) rfl cn)) ?_
  refine gh [(1, _)] [(1001, some _)] hB rfl rfl (by rfl) ?_
  refine sr (c (OpJ.assign (L rfl) Opd.nils) rfl cn) ?_
  refine gh [(1, _), (3, _)] [(1001, some _)] hB rfl rfl (by rfl) ?_
  refine AWp.seq ?_
  refine sr (c (ov (.ptr 1001 0 [0]) (fp hN Tryd.underlying28 0 tyS25 _ (q 1))) rfl (c (lb hN 28 _ _ tyS25 (ad _) (q 6)) rfl (c (OpJ.val (v' := (i6 (a0.fAddrs.length : Int))) (by simp) (OpJ.lenD Tryd.underlying25 (L rfl) (q 7))) rfl (c (mv hN (Opd.int .i64 (0))) rfl cn)))) ?_
  refine gh [(3, _), (7, _), (8, _), (9, _)] [] hB rfl rfl (by rfl) ?_
  refine AWp.block ?_
  obtain ⟨p11, hx17, h⟩ := bindS h
  refine lg (exchangepointref21_Prefixes_2_L0 a0) (fun s1 : Int × (List api_Prefix) => ([(3, (.sref 3003 4 0 s1.2.length)), (7, (qe_api_Range_6 a0.fAddrs)), (8, (i6 (a0.fAddrs.length : Int))), (9, (i6 s1.1))] : EL)) (fun s1 : Int × (List api_Prefix) => ([(3003, some (we_api_Prefix_34_4 s1.2))] : OL)) (fun (p11 : ((List api_Prefix))) e E' O' => e = .exit 0 ∧ Mat B E' O' ([(3, (.sref 3003 4 0 p11.length))] : EL) ([(3003, some (we_api_Prefix_34_4 p11))] : OL)) hx17 (Mat.trans (Mat.beginP (n := 3003) (e := 34) (sz := 4) (Ts := [(3, (.sref 3003 4 0 0))]) (Bs := []) hB (by decide) (by rfl) (by decide) (TwT.cons (x := .nils) (by rfl) (Tw.leaf ⟨rfl, rfl⟩) TwT.nil) TwB.nil) (mp [] _ _ hB)) (fun s1 y h => ?_) (fun e E' O' hR => ?_)
  · unfold exchangepointref21_Prefixes_2_L0 at h
    refine sr (c (OpJ.lss (L rfl) (q 9) (q 8)) rfl cn) ?_
    refine gh [(3, _), (7, _), (8, _), (9, _), (10, _)] [(3003, some _)] hB rfl rfl (by rfl) ?_
    refine AWp.seq ?_
    refine AWp.cond rfl (fun hg12 => ?_) (fun hg12 => ?_)
    · replace h := ite_t hg12 h
      refine AWp.skip ?_
      refine seqQ_n ?_
      refine AWp.seq ?_
      refine AWp.block ?_
      obtain ⟨x13, hx13, h⟩ := bindS h
      refine sr (c (OpJ.indexD Tryd.underlying25 tyS68 (idx_some hx13).1 (get_map e_api_Range (idx_some hx13).2) (L rfl) (q 7) (q 9)) rfl (c (OpJ.loadD tyS68 (by rfl) (by rfl) (L rfl) (q 11)) rfl (cg (OpJ.alloc hB tyZ68 (nm := 1005) (by decide) (L rfl)) rfl (cg (OpJ.storeB tyS68 (SetAt.here _ _) (by rfl) (by rfl) (by simp) rfl (q 5) (q 12)) rfl cn)))) ?_
      refine gh [(3, _), (5, _), (7, _), (8, _), (9, _)] [(1005, some _), (3003, some _)] hB rfl rfl (by rfl) ?_
      obtain ⟨r14, hr14, h⟩ := bindS h
      obtain ⟨hc15, h⟩ := chk_some h
      refine AWp.region (oc (mv hN (ot 3 (.sref 3003 4 0 s1.2.length)))
        (oc (ov (.ptr 1005 0 [0]) (fp hN Tryd.underlying68 0 tyS32 (.box 68 (.d (e_api_Range x13))) (ot 5 (.ptr 1005 0 []))))
        (oc (ov (.ptr 1005 0 [0, 0]) (fp hN Tryd.underlying32 0 tyS4 (.box 68 (.d (e_api_Range x13))) (ot 14 (.ptr 1005 0 [0]))))
        (oc (lb hN 68 (.d (e_api_Range x13)) (bo x13.fFrom.fV6) tyS4 (At.dst1 (f := (e_api_Addr x13.fFrom)) (by rfl) (by rfl) (ad (.bool x13.fFrom.fV6)) (by first | rfl | omega)) (ot 15 (.ptr 1005 0 [0, 0])))
        (oc (OpJ.coe (v := (.st [(bo x13.fFrom.fV6), (.d (.int .u64 0)), (.d (.int .u64 0))])) (y := (.st [(.bool x13.fFrom.fV6), (.int .u64 0), (.int .u64 0)])) (Co.st (CoL.cons (Co.d _) (CoL.cons (Co.d _) (CoL.cons (Co.d _) CoL.nil)))) rfl (OpJ.build (places := [(0, 1), (1, 1), (2, 1)]) ⟨Tryd.underlying32, fun w => by kernel_rfl⟩ tyZS32 (Opds.cons (ot 16 (bo x13.fFrom.fV6)) Opds.nil) (by kernel_rfl) (r := (.st [(bo x13.fFrom.fV6), (.d (.int .u64 0)), (.d (.int .u64 0))])) (by rfl) (L rfl)))
        (oc (OpJ.coe (v := (.st [(.d (.st [(.bool x13.fFrom.fV6), (.int .u64 0), (.int .u64 0)])), (i6 0)])) (y := (.st [(.st [(.bool x13.fFrom.fV6), (.int .u64 0), (.int .u64 0)]), (.int .i64 0)])) (Co.st (CoL.cons (Co.d _) (CoL.cons (Co.d _) CoL.nil))) rfl (OpJ.build (places := [(0, 3), (3, 1)]) ⟨Tryd.underlying34, fun w => by kernel_rfl⟩ tyZS34 (Opds.cons (ot 17 (.d (.st [(.bool x13.fFrom.fV6), (.int .u64 0), (.int .u64 0)]))) Opds.nil) (by kernel_rfl) (r := (.st [(.d (.st [(.bool x13.fFrom.fV6), (.int .u64 0), (.int .u64 0)])), (i6 0)])) (by rfl) (L rfl)))
        (oc (lb hN 68 (.d (e_api_Range x13)) (.d (e_api_Range x13)) tyS68 (At.here _) (ot 5 (.ptr 1005 0 [])))
        (oc (OpJ.frz (OpJ.callFn hB fnOk34 (exchangepointref21_divide_ac 1000 (api_Prefix.mk (api_Addr.mk x13.fFrom.fV6 (0 : Int) (0 : Int)) (0 : Int)) x13 r14 hr14) [(900000, 100000)] (by kernel_rfl) (L rfl) (by kernel_rfl) (OpdL.cons (ot 18 (.d (.st [(.st [(.bool x13.fFrom.fV6), (.int .u64 0), (.int .u64 0)]), (.int .i64 0)]))) (OpdL.cons (ot 19 (.d (e_api_Range x13))) OpdL.nil))) (by simp))
        (oc (OpJ.append hB Tryd.underlying36 tyE34 (nm := 1021) (by decide) (es := s1.2.map e_api_Prefix) (ys := r14.map e_api_Prefix) (es' := (s1.2 ++ r14).map e_api_Prefix) (len := (s1.2 ++ r14).length) (by simp) (by simp) (map_sz (f := e_api_Prefix) (fun _ => rfl)) (by rw [List.length_map]; exact lim_mulN hc15 (by decide)) (by rw [List.length_map]; exact lim_leN hc15) (L rfl) (by simp) (ot 13 (.sref 3003 4 0 s1.2.length)) (ot 20 (qe_api_Prefix_4 r14)))
        (oc (OpJ.assign (L rfl) (ot 21 (.sref 1021 4 0 ((s1.2 ++ r14).length))))
        (OpJs.nil))))))))))) (by rfl) (by rfl) ?_
      refine blkQ_n ?_
      refine seqQ_n ?_
      refine AWp.ghost (mp [] [(3, (.sref 1021 4 0 ((s1.2 ++ r14).length))), (7, (qe_api_Range_6 a0.fAddrs)), (8, (i6 (a0.fAddrs.length : Int))), (9, (i6 s1.1))] [(1021, some (we_api_Prefix_34_4 (s1.2 ++ r14)))] hB) ?_
      refine rg (c (add6 (L rfl) (q 9) (Opd.int .i64 (1))) rfl (c (mv hN (q 22)) rfl cn)) ?_
      obtain rfl := Option.some.inj h
      exact ⟨rfl, (Mat.trans (mp [] [(3, (.sref 1021 4 0 ((s1.2 ++ r14).length))), (7, (qe_api_Range_6 a0.fAddrs)), (8, (i6 (a0.fAddrs.length : Int))), (9, (i6 (w64 (s1.1 + (1 : Int)))))] [(1021, some (we_api_Prefix_34_4 (s1.2 ++ r14)))] hB) (mp [(3003, 1021)] _ _ hB))⟩
    · replace h := ite_f hg12 h
      refine AWp.exit ?_
      refine seqQ_e ?_
      obtain rfl := Option.some.inj h
      exact ⟨(fun hc => by cases hc), rfl, (mp [] _ _ hB)⟩
  · obtain ⟨rfl, hmat⟩ := hR
    refine blkQ_hit ?_
    refine seqQ_n ?_
    refine AWp.ghost hmat ?_
    refine sr (c (mv hN (q 3)) rfl (c (OpJ.assign (L rfl) (q 23)) rfl cn)) ?_
    refine gh [(2, _)] [(3003, some _)] hB rfl rfl (by rfl) ?_
    refine AWp.ret ?_
    obtain rfl := Option.some.inj h
    exact ⟨.inl rfl, _, _, (mp [(900000, 3003)] [(2, (.sref 900000 4 0 p11.length))] [(900000, some (we_api_Prefix_34_4 p11))] hB), [(.sref 900000 4 0 p11.length)], (Res.tmp (by rfl) (by rfl) Res.nil), rfl, by rfl, by rfl, by rfl⟩

noncomputable def exchangepointlaw21_awake : Option (Bool) :=
  (resource_Prefixes (api_Resources.mk ([(api_Range.mk (api_Addr.mk false (0 : Int) (167772160 : Int)) (api_Addr.mk false (0 : Int) (167772162 : Int)))] : List api_Range) ([] : List api_Span))).bind fun r1 =>
  jn (fun m8 : Bool =>
  some m8) (fun j9 =>
  (if ((r1.length : Int) == (2 : Int)) = true then
  (idx r1 (0 : Int)).bind fun x11 =>
  (if (x11.fLen == (31 : Int)) = true then
  (idx r1 (1 : Int)).bind fun x13 =>
  (if (x13.fLen == (32 : Int)) = true then
  (idx r1 (1 : Int)).bind fun x15 =>
  j9 (x15.fAddr.fLo == (167772162 : Int))
  else
  j9 false)
  else
  j9 false)
  else
  j9 false))
set_option maxHeartbeats 4000000 in
set_option maxRecDepth 100000 in
theorem exchangepointlaw21_awake_ac (r : Bool) (h : exchangepointlaw21_awake = some r) : AC Tryd.prog 17 [] [(500, (.know (globF 0 [35, 37, 137]))), (501, (.know (globF 1 [70, 138, 139])))] (.d (.bool r)) [(500, some (.know (globF 0 [35, 37, 137]))), (501, some (.know (globF 1 [70, 138, 139])))] := by
  refine AC.of_code2 Tryd.func17 rfl rfl (Nat.le_of_ble_eq_true (by rfl)) fun B hB hN => ?_
  have L {d : Nat} (h : Nat.blt d Tryd.f17.ntmps = true) : d < B.N := ltN hN h
  delta exchangepointlaw21_awake at h
  refine sr (c (OpJ.assign (L rfl) (Opd.bool false)) rfl cn) ?_
  refine gh [] [(500, some _), (501, some _)] hB rfl rfl (by rfl) ?_
  refine AWp.seq ?_
  obtain ⟨r1, hr1, h⟩ := bindS h
  refine AWp.region (oc (OpJ.coe (v := (.st [(bo false), (.d (.int .u64 0)), (.d (.int .u64 (167772160 : Int)))])) (y := (.st [(.bool false), (.int .u64 0), (.int .u64 (167772160 : Int))])) (Co.st (CoL.cons (Co.d _) (CoL.cons (Co.d _) (CoL.cons (Co.d _) CoL.nil)))) rfl (OpJ.build (places := [(0, 1), (1, 1), (2, 1)]) ⟨Tryd.underlying32, fun w => by kernel_rfl⟩ tyZS32 (Opds.cons (Opd.int .u64 (167772160)) Opds.nil) (by kernel_rfl) (r := (.st [(bo false), (.d (.int .u64 0)), (.d (.int .u64 (167772160 : Int)))])) (by rfl) (L rfl)))
  (oc (OpJ.coe (v := (.st [(bo false), (.d (.int .u64 0)), (.d (.int .u64 (167772162 : Int)))])) (y := (.st [(.bool false), (.int .u64 0), (.int .u64 (167772162 : Int))])) (Co.st (CoL.cons (Co.d _) (CoL.cons (Co.d _) (CoL.cons (Co.d _) CoL.nil)))) rfl (OpJ.build (places := [(0, 1), (1, 1), (2, 1)]) ⟨Tryd.underlying32, fun w => by kernel_rfl⟩ tyZS32 (Opds.cons (Opd.int .u64 (167772162)) Opds.nil) (by kernel_rfl) (r := (.st [(bo false), (.d (.int .u64 0)), (.d (.int .u64 (167772162 : Int)))])) (by rfl) (L rfl)))
  (oc (OpJ.coe (v := (.st [(.d (.st [(.bool false), (.int .u64 0), (.int .u64 (167772160 : Int))])), (.d (.st [(.bool false), (.int .u64 0), (.int .u64 (167772162 : Int))]))])) (y := (.st [(.st [(.bool false), (.int .u64 0), (.int .u64 (167772160 : Int))]), (.st [(.bool false), (.int .u64 0), (.int .u64 (167772162 : Int))])])) (Co.st (CoL.cons (Co.d _) (CoL.cons (Co.d _) CoL.nil))) rfl (OpJ.build (places := [(0, 3), (3, 3)]) ⟨Tryd.underlying68, fun w => by kernel_rfl⟩ tyZS68 (Opds.cons (ot 2 (.d (.st [(.bool false), (.int .u64 0), (.int .u64 (167772160 : Int))]))) (Opds.cons (ot 3 (.d (.st [(.bool false), (.int .u64 0), (.int .u64 (167772162 : Int))]))) Opds.nil)) (by kernel_rfl) (r := (.st [(.d (.st [(.bool false), (.int .u64 0), (.int .u64 (167772160 : Int))])), (.d (.st [(.bool false), (.int .u64 0), (.int .u64 (167772162 : Int))]))])) (by rfl) (L rfl)))
  (oc (OpJ.buildSlice Tryd.underlying25 tyS68 tyZD68 (by rfl) (by decide) (by decide) (Opds.cons (ot 4 (.d (.st [(.st [(.bool false), (.int .u64 0), (.int .u64 (167772160 : Int))]), (.st [(.bool false), (.int .u64 0), (.int .u64 (167772162 : Int))])]))) Opds.nil) (by kernel_rfl) (es := ([(.st [(.st [(.bool false), (.int .u64 0), (.int .u64 (167772160 : Int))]), (.st [(.bool false), (.int .u64 0), (.int .u64 (167772162 : Int))])])] : List D)) (by rfl) (by rfl) (by kernel_rfl) (by simp) (L rfl))
  (oc (OpJ.build (places := [(0, 1), (1, 1)]) ⟨Tryd.underlying28, fun w => by kernel_rfl⟩ tyZS28 (Opds.cons (ot 5 (qe_api_Range_6 ([(api_Range.mk (api_Addr.mk false (0 : Int) (167772160 : Int)) (api_Addr.mk false (0 : Int) (167772162 : Int)))] : List api_Range))) Opds.nil) (by kernel_rfl) (r := (.st [(qe_api_Range_6 ([(api_Range.mk (api_Addr.mk false (0 : Int) (167772160 : Int)) (api_Addr.mk false (0 : Int) (167772162 : Int)))] : List api_Range)), .nils])) (by rfl) (L rfl))
  (oc (OpJ.callFn hB fnOk11 (resource_Prefixes_ac (api_Resources.mk ([(api_Range.mk (api_Addr.mk false (0 : Int) (167772160 : Int)) (api_Addr.mk false (0 : Int) (167772162 : Int)))] : List api_Range) ([] : List api_Span)) r1 hr1) [(500, 500), (501, 501)] (by kernel_rfl) (L rfl) (by kernel_rfl) (OpdL.cons (Opd.tw (ot 6 (.st [(qe_api_Range_6 ([(api_Range.mk (api_Addr.mk false (0 : Int) (167772160 : Int)) (api_Addr.mk false (0 : Int) (167772162 : Int)))] : List api_Range)), .nils])) (Tw.leaf ⟨_, (Co.st (CoL.cons (Co.d _) (CoL.cons (Co.nils 2) CoL.nil))), rfl⟩)) OpdL.nil))
  (oc (OpJ.assign (L rfl) (ot 7 (qe_api_Prefix_4 r1)))
  (OpJs.nil)))))))) (by rfl) (by rfl) ?_
  refine seqQ_n ?_
  refine AWp.ghost (mp [] [(1, (qe_api_Prefix_4 r1))] [(500, some (.know (globF 0 [35, 37, 137]))), (501, some (.know (globF 1 [70, 138, 139])))] hB) ?_
  refine AWp.seq ?_
  refine AWp.cut h (fun m8 : Bool => ([(0, (bo m8))] : EL)) (fun m8 : Bool => ([(500, some (.know (globF 0 [35, 37, 137]))), (501, some (.know (globF 1 [70, 138, 139])))] : OL)) (fun m8 h E' O' hmat => ?_) (fun j9 hjj9 h => ?_)
  · refine seqQ_n ?_
    refine AWp.ghost hmat ?_
    refine AWp.ret ?_
    obtain rfl := Option.some.inj h
    exact ⟨.inl rfl, _, _, (kp [(0, _)] [(500, some _), (501, some _)] hB rfl rfl (by rfl)), [(bo m8)], (Res.tmp (by rfl) (by rfl) Res.nil), rfl, by rfl, by rfl, by rfl⟩
  · rcases Bool.eq_false_or_eq_true ((r1.length : Int) == (2 : Int)) with hg10 | hg10
    · replace h := ite_t hg10 h
      obtain ⟨x11, hx11, h⟩ := bindS h
      rcases Bool.eq_false_or_eq_true (x11.fLen == (31 : Int)) with hg12 | hg12
      · replace h := ite_t hg12 h
        obtain ⟨x13, hx13, h⟩ := bindS h
        rcases Bool.eq_false_or_eq_true (x13.fLen == (32 : Int)) with hg14 | hg14
        · replace h := ite_t hg14 h
          obtain ⟨x15, hx15, h⟩ := bindS h
          refine rg (c (mv hN (q 1)) rfl (c (OpJ.val (v' := (i6 (r1.length : Int))) (by simp) (OpJ.lenD Tryd.underlying36 (L rfl) (q 8))) rfl (c (OpJ.eqlI (L rfl) (q 9) (Opd.int .i64 (2))) rfl (c (OpJ.val (v' := .d (.bool true)) (by rw [hg10] <;> rfl) (mv hN (q 10))) rfl (c (OpJ.guarded (g := 11) (by rfl) (mv hN (q 1))) rfl (c (OpJ.guarded (g := 11) (by rfl) (OpJ.indexD Tryd.underlying36 tyS34 (idx_some hx11).1 (get_map e_api_Prefix (idx_some hx11).2) (L rfl) (q 12) (Opd.int .i64 (0)))) rfl (c (OpJ.guarded (g := 11) (by rfl) (OpJ.fieldD Tryd.underlying34 (by rfl) (o := 3) (by rfl) tyS3 (by decide) (by rfl) (by rfl) (L rfl) (q 13))) rfl (c (OpJ.guarded (g := 11) (by rfl) (OpJ.loadD tyS3 (by rfl) (by rfl) (L rfl) (q 14))) rfl (c (OpJ.guarded (g := 11) (by rfl) (OpJ.eqlI (L rfl) (q 15) (Opd.int .i64 (31)))) rfl (c (OpJ.pickT (L rfl) (q 11) (q 16)) rfl (c (OpJ.val (v' := .d (.bool true)) (by rw [hg12] <;> rfl) (mv hN (q 17))) rfl (c (OpJ.guarded (g := 18) (by rfl) (mv hN (q 1))) rfl (c (OpJ.guarded (g := 18) (by rfl) (OpJ.indexD Tryd.underlying36 tyS34 (idx_some hx13).1 (get_map e_api_Prefix (idx_some hx13).2) (L rfl) (q 19) (Opd.int .i64 (1)))) rfl (c (OpJ.guarded (g := 18) (by rfl) (OpJ.fieldD Tryd.underlying34 (by rfl) (o := 3) (by rfl) tyS3 (by decide) (by rfl) (by rfl) (L rfl) (q 20))) rfl (c (OpJ.guarded (g := 18) (by rfl) (OpJ.loadD tyS3 (by rfl) (by rfl) (L rfl) (q 21))) rfl (c (OpJ.guarded (g := 18) (by rfl) (OpJ.eqlI (L rfl) (q 22) (Opd.int .i64 (32)))) rfl (c (OpJ.pickT (L rfl) (q 18) (q 23)) rfl (c (OpJ.val (v' := .d (.bool true)) (by rw [hg14] <;> rfl) (mv hN (q 24))) rfl (c (OpJ.guarded (g := 25) (by rfl) (mv hN (q 1))) rfl (c (OpJ.guarded (g := 25) (by rfl) (OpJ.indexD Tryd.underlying36 tyS34 (idx_some hx15).1 (get_map e_api_Prefix (idx_some hx15).2) (L rfl) (q 26) (Opd.int .i64 (1)))) rfl (c (OpJ.guarded (g := 25) (by rfl) (OpJ.fieldD Tryd.underlying34 (by rfl) (o := 0) (by rfl) tyS32 (by decide) (by rfl) (by rfl) (L rfl) (q 27))) rfl (c (OpJ.guarded (g := 25) (by rfl) (OpJ.fieldD Tryd.underlying32 (by rfl) (o := 2) (by rfl) tyS30 (by decide) (by rfl) (by rfl) (L rfl) (q 28))) rfl (c (OpJ.guarded (g := 25) (by rfl) (OpJ.loadD tyS30 (by rfl) (by rfl) (L rfl) (q 29))) rfl (c (OpJ.guarded (g := 25) (by rfl) (OpJ.eqlI (L rfl) (q 30) (Opd.int .u64 (167772162)))) rfl (c (OpJ.pickT (L rfl) (q 25) (q 31)) rfl (c (OpJ.assign (L rfl) (q 32)) rfl cn)))))))))))))))))))))))))) ?_
          exact hjj9 _ h _ _ (Mat.trans (mp [] [(0, (bo (x15.fAddr.fLo == (167772162 : Int))))] [(500, some (.know (globF 0 [35, 37, 137]))), (501, some (.know (globF 1 [70, 138, 139])))] hB) (mp [] _ _ hB))
        · replace h := ite_f hg14 h
          refine rg (c (mv hN (q 1)) rfl (c (OpJ.val (v' := (i6 (r1.length : Int))) (by simp) (OpJ.lenD Tryd.underlying36 (L rfl) (q 8))) rfl (c (OpJ.eqlI (L rfl) (q 9) (Opd.int .i64 (2))) rfl (c (OpJ.val (v' := .d (.bool true)) (by rw [hg10] <;> rfl) (mv hN (q 10))) rfl (c (OpJ.guarded (g := 11) (by rfl) (mv hN (q 1))) rfl (c (OpJ.guarded (g := 11) (by rfl) (OpJ.indexD Tryd.underlying36 tyS34 (idx_some hx11).1 (get_map e_api_Prefix (idx_some hx11).2) (L rfl) (q 12) (Opd.int .i64 (0)))) rfl (c (OpJ.guarded (g := 11) (by rfl) (OpJ.fieldD Tryd.underlying34 (by rfl) (o := 3) (by rfl) tyS3 (by decide) (by rfl) (by rfl) (L rfl) (q 13))) rfl (c (OpJ.guarded (g := 11) (by rfl) (OpJ.loadD tyS3 (by rfl) (by rfl) (L rfl) (q 14))) rfl (c (OpJ.guarded (g := 11) (by rfl) (OpJ.eqlI (L rfl) (q 15) (Opd.int .i64 (31)))) rfl (c (OpJ.pickT (L rfl) (q 11) (q 16)) rfl (c (OpJ.val (v' := .d (.bool true)) (by rw [hg12] <;> rfl) (mv hN (q 17))) rfl (c (OpJ.guarded (g := 18) (by rfl) (mv hN (q 1))) rfl (c (OpJ.guarded (g := 18) (by rfl) (OpJ.indexD Tryd.underlying36 tyS34 (idx_some hx13).1 (get_map e_api_Prefix (idx_some hx13).2) (L rfl) (q 19) (Opd.int .i64 (1)))) rfl (c (OpJ.guarded (g := 18) (by rfl) (OpJ.fieldD Tryd.underlying34 (by rfl) (o := 3) (by rfl) tyS3 (by decide) (by rfl) (by rfl) (L rfl) (q 20))) rfl (c (OpJ.guarded (g := 18) (by rfl) (OpJ.loadD tyS3 (by rfl) (by rfl) (L rfl) (q 21))) rfl (c (OpJ.guarded (g := 18) (by rfl) (OpJ.eqlI (L rfl) (q 22) (Opd.int .i64 (32)))) rfl (c (OpJ.pickT (L rfl) (q 18) (q 23)) rfl (c (OpJ.val (v' := .d (.bool false)) (by rw [hg14] <;> rfl) (mv hN (q 24))) rfl (cg (OpJ.skipU (g := 25) (L rfl) (by rfl)) rfl (cg (OpJ.skipU (g := 25) (L rfl) (by rfl)) rfl (cg (OpJ.skipU (g := 25) (L rfl) (by rfl)) rfl (cg (OpJ.skipU (g := 25) (L rfl) (by rfl)) rfl (cg (OpJ.skipU (g := 25) (L rfl) (by rfl)) rfl (cg (OpJ.skipU (g := 25) (L rfl) (by rfl)) rfl (c (OpJ.pickF (L rfl) (q 25) (Opd.bool false)) rfl (c (OpJ.assign (L rfl) (q 32)) rfl cn)))))))))))))))))))))))))) ?_
          exact hjj9 _ h _ _ (Mat.trans (mp [] [(0, (bo false))] [(500, some (.know (globF 0 [35, 37, 137]))), (501, some (.know (globF 1 [70, 138, 139])))] hB) (mp [] _ _ hB))
      · replace h := ite_f hg12 h
        refine rg (c (mv hN (q 1)) rfl (c (OpJ.val (v' := (i6 (r1.length : Int))) (by simp) (OpJ.lenD Tryd.underlying36 (L rfl) (q 8))) rfl (c (OpJ.eqlI (L rfl) (q 9) (Opd.int .i64 (2))) rfl (c (OpJ.val (v' := .d (.bool true)) (by rw [hg10] <;> rfl) (mv hN (q 10))) rfl (c (OpJ.guarded (g := 11) (by rfl) (mv hN (q 1))) rfl (c (OpJ.guarded (g := 11) (by rfl) (OpJ.indexD Tryd.underlying36 tyS34 (idx_some hx11).1 (get_map e_api_Prefix (idx_some hx11).2) (L rfl) (q 12) (Opd.int .i64 (0)))) rfl (c (OpJ.guarded (g := 11) (by rfl) (OpJ.fieldD Tryd.underlying34 (by rfl) (o := 3) (by rfl) tyS3 (by decide) (by rfl) (by rfl) (L rfl) (q 13))) rfl (c (OpJ.guarded (g := 11) (by rfl) (OpJ.loadD tyS3 (by rfl) (by rfl) (L rfl) (q 14))) rfl (c (OpJ.guarded (g := 11) (by rfl) (OpJ.eqlI (L rfl) (q 15) (Opd.int .i64 (31)))) rfl (c (OpJ.pickT (L rfl) (q 11) (q 16)) rfl (c (OpJ.val (v' := .d (.bool false)) (by rw [hg12] <;> rfl) (mv hN (q 17))) rfl (cg (OpJ.skipU (g := 18) (L rfl) (by rfl)) rfl (cg (OpJ.skipU (g := 18) (L rfl) (by rfl)) rfl (cg (OpJ.skipU (g := 18) (L rfl) (by rfl)) rfl (cg (OpJ.skipU (g := 18) (L rfl) (by rfl)) rfl (cg (OpJ.skipU (g := 18) (L rfl) (by rfl)) rfl (c (OpJ.pickF (L rfl) (q 18) (Opd.bool false)) rfl (c (mv hN (q 24)) rfl (cg (OpJ.skipU (g := 25) (L rfl) (by rfl)) rfl (cg (OpJ.skipU (g := 25) (L rfl) (by rfl)) rfl (cg (OpJ.skipU (g := 25) (L rfl) (by rfl)) rfl (cg (OpJ.skipU (g := 25) (L rfl) (by rfl)) rfl (cg (OpJ.skipU (g := 25) (L rfl) (by rfl)) rfl (cg (OpJ.skipU (g := 25) (L rfl) (by rfl)) rfl (c (OpJ.pickF (L rfl) (q 25) (Opd.bool false)) rfl (c (OpJ.assign (L rfl) (q 32)) rfl cn)))))))))))))))))))))))))) ?_
        exact hjj9 _ h _ _ (Mat.trans (mp [] [(0, (bo false))] [(500, some (.know (globF 0 [35, 37, 137]))), (501, some (.know (globF 1 [70, 138, 139])))] hB) (mp [] _ _ hB))
    · replace h := ite_f hg10 h
      refine rg (c (mv hN (q 1)) rfl (c (OpJ.val (v' := (i6 (r1.length : Int))) (by simp) (OpJ.lenD Tryd.underlying36 (L rfl) (q 8))) rfl (c (OpJ.eqlI (L rfl) (q 9) (Opd.int .i64 (2))) rfl (c (OpJ.val (v' := .d (.bool false)) (by rw [hg10] <;> rfl) (mv hN (q 10))) rfl (cg (OpJ.skipU (g := 11) (L rfl) (by rfl)) rfl (cg (OpJ.skipU (g := 11) (L rfl) (by rfl)) rfl (cg (OpJ.skipU (g := 11) (L rfl) (by rfl)) rfl (cg (OpJ.skipU (g := 11) (L rfl) (by rfl)) rfl (cg (OpJ.skipU (g := 11) (L rfl) (by rfl)) rfl (c (OpJ.pickF (L rfl) (q 11) (Opd.bool false)) rfl (c (mv hN (q 17)) rfl (cg (OpJ.skipU (g := 18) (L rfl) (by rfl)) rfl (cg (OpJ.skipU (g := 18) (L rfl) (by rfl)) rfl (cg (OpJ.skipU (g := 18) (L rfl) (by rfl)) rfl (cg (OpJ.skipU (g := 18) (L rfl) (by rfl)) rfl (cg (OpJ.skipU (g := 18) (L rfl) (by rfl)) rfl (c (OpJ.pickF (L rfl) (q 18) (Opd.bool false)) rfl (c (mv hN (q 24)) rfl (cg (OpJ.skipU (g := 25) (L rfl) (by rfl)) rfl (cg (OpJ.skipU (g := 25) (L rfl) (by rfl)) rfl (cg (OpJ.skipU (g := 25) (L rfl) (by rfl)) rfl (cg (OpJ.skipU (g := 25) (L rfl) (by rfl)) rfl (cg (OpJ.skipU (g := 25) (L rfl) (by rfl)) rfl (cg (OpJ.skipU (g := 25) (L rfl) (by rfl)) rfl (c (OpJ.pickF (L rfl) (q 25) (Opd.bool false)) rfl (c (OpJ.assign (L rfl) (q 32)) rfl cn)))))))))))))))))))))))))) ?_
      exact hjj9 _ h _ _ (Mat.trans (mp [] [(0, (bo false))] [(500, some (.know (globF 0 [35, 37, 137]))), (501, some (.know (globF 1 [70, 138, 139])))] hB) (mp [] _ _ hB))

noncomputable def exchangepointlaw21_light (a0 : api_Resources) : Option (Bool) :=
  some ((decide ((a0.fAddrs.length : Int) ≤ (40 : Int))) && (decide ((a0.fASNs.length : Int) ≤ (40 : Int))))
set_option maxHeartbeats 4000000 in
set_option maxRecDepth 100000 in
theorem exchangepointlaw21_light_ac (a0 : api_Resources) (r : Bool) (h : exchangepointlaw21_light a0 = some r) : AC Tryd.prog 18 [(.d (e_api_Resources a0))] [] (.d (.bool r)) [] := by
  refine AC.of_code2 Tryd.func18 rfl rfl (Nat.le_of_ble_eq_true (by rfl)) fun B hB hN => ?_
  delta exchangepointlaw21_light at h
  refine sr (cg (OpJ.box hB (nm := 1001) (by decide) (by simp) rfl (ltN hN rfl) (q 0)) rfl (c (OpJ.assign (ltN hN rfl) (Opd.bool false)) rfl cn)) ?_
  refine gh [(1, _)] [(1001, some _)] hB rfl rfl (by rfl) ?_
  refine sr (c (ov (.ptr 1001 0 [0]) (fp hN Tryd.underlying28 0 tyS25 _ (q 1))) rfl (c (lb hN 28 _ _ tyS25 (ad _) (q 3)) rfl (c (OpJ.val (v' := (i6 (a0.fAddrs.length : Int))) (by simp) (OpJ.lenD Tryd.underlying25 (ltN hN rfl) (q 4))) rfl (c (OpJ.leq (ltN hN rfl) (q 5) (Opd.int .i64 (40))) rfl (c (mv hN (q 6)) rfl (c (oq hN 7 (ov (.ptr 1001 1 [1]) (fp hN Tryd.underlying28 1 tyS26 _ (q 1))) (OptL.keep (by rfl) OptL.nil) (GuardV.plain _)) rfl (c (oq hN 7 (lb hN 28 _ _ tyS26 (ad _) (q 8)) (OptL.opt OptL.nil) (GuardV.plain _)) rfl (c (oq hN 7 (OpJ.val (v' := (i6 (a0.fASNs.length : Int))) (by simp) (OpJ.lenD Tryd.underlying26 (ltN hN rfl) (q 9))) (OptL.opt OptL.nil) (GuardV.plain _)) rfl (c (oq hN 7 (OpJ.leq (ltN hN rfl) (q 10) (Opd.int .i64 (40))) (OptL.opt OptL.nil) (GuardV.plain _)) rfl (c (OpJ.pickAnd rfl (ltN hN rfl) (q 7) (q 11)) rfl (c (OpJ.assign (ltN hN rfl) (q 12)) rfl cn))))))))))) ?_
  refine gh [(2, _)] [] hB rfl rfl (by rfl) ?_
  refine AWp.ret ?_
  obtain rfl := Option.some.inj h
  exact ⟨.inl rfl, _, _, (kp [(2, _)] [] hB rfl rfl (by rfl)), [(bo ((decide ((a0.fAddrs.length : Int) ≤ (40 : Int))) && (decide ((a0.fASNs.length : Int) ≤ (40 : Int)))))], (Res.tmp (by rfl) (by rfl) Res.nil), rfl, by rfl, by rfl, by rfl⟩

noncomputable def exchangepointlaw21_bent (a0 : api_Resources) (a1 : Int) (a2 : Int) : Option (api_Resources) :=
  chk (decide (a0.fAddrs.length ≤ LIM)) <|
  chk (decide (a0.fASNs.length ≤ LIM)) <|
  jn (fun m24 : (List api_Range) =>
  jn (fun m42 : (List api_Span) =>
  some (api_Resources.mk m24 m42)) (fun j43 =>
  (if (decide ((0 : Int) < (a0.fASNs.length : Int))) = true then
  (exchangepointmake_Mod a2 (a0.fASNs.length : Int)).bind fun r45 =>
  (idx a0.fASNs r45).bind fun x46 =>
  (exchangepointmake_Mod a1 (8 : Int)).bind fun r47 =>
  (if (r47 == (4 : Int)) = true then
  (exchangepointmake_Mod a2 (3 : Int)).bind fun r49 =>
  (idx ([(-1 : Int), (0 : Int), (4294967296 : Int)] : List Int) r49).bind fun x50 =>
  (idx a0.fASNs r45).bind fun x51 =>
  j43 (a0.fASNs.set r45.toNat (api_Span.mk x50 x51.fTo))
  else
  (if (r47 == (5 : Int)) = true then
  (exchangepointmake_Mod a2 (3 : Int)).bind fun r53 =>
  (idx ([(-1 : Int), (4294967295 : Int), (4294967296 : Int)] : List Int) r53).bind fun x54 =>
  (idx a0.fASNs r45).bind fun x55 =>
  j43 (a0.fASNs.set r45.toNat (api_Span.mk x55.fFrom x54))
  else
  (if (r47 == (6 : Int)) = true then
  (idx a0.fASNs r45).bind fun x57 =>
  (idx a0.fASNs r45).bind fun x58 =>
  chk (decide ((a0.fASNs ++ ([(api_Span.mk (w64 (x57.fTo + (1 : Int))) (w64 (x58.fTo + (1 : Int))))] : List api_Span)).length ≤ LIM)) <|
  j43 (a0.fASNs ++ ([(api_Span.mk (w64 (x57.fTo + (1 : Int))) (w64 (x58.fTo + (1 : Int))))] : List api_Span))
  else
  j43 a0.fASNs)))
  else
  j43 a0.fASNs))) (fun j25 =>
  (if (decide ((0 : Int) < (a0.fAddrs.length : Int))) = true then
  (exchangepointmake_Mod a2 (a0.fAddrs.length : Int)).bind fun r61 =>
  (idx a0.fAddrs r61).bind fun x62 =>
  (exchangepointmake_Mod a1 (8 : Int)).bind fun r63 =>
  (if (r63 == (0 : Int)) = true then
  (idx a0.fAddrs r61).bind fun x65 =>
  (idx a0.fAddrs r61).bind fun x66 =>
  (idx a0.fAddrs r61).bind fun x67 =>
  (idx (a0.fAddrs.set r61.toNat (api_Range.mk x65.fTo x67.fTo)) r61).bind fun x68 =>
  j25 ((a0.fAddrs.set r61.toNat (api_Range.mk x65.fTo x67.fTo)).set r61.toNat (api_Range.mk x68.fFrom x66.fFrom))
  else
  (if (r63 == (1 : Int)) = true then
  (idx a0.fAddrs r61).bind fun x70 =>
  (exchangepointref01_Next x70.fTo).bind fun r71 =>
  (idx a0.fAddrs r61).bind fun x72 =>
  j25 (a0.fAddrs.set r61.toNat (api_Range.mk x72.fFrom r71.1))
  else
  (if (r63 == (2 : Int)) = true then
  (idx a0.fAddrs r61).bind fun x74 =>
  (idx a0.fAddrs r61).bind fun x75 =>
  j25 (a0.fAddrs.set r61.toNat (api_Range.mk (api_Addr.mk (!x74.fFrom.fV6) x75.fFrom.fHi x75.fFrom.fLo) x75.fTo))
  else
  (if (r63 == (3 : Int)) = true then
  (idx a0.fAddrs r61).bind fun x77 =>
  (exchangepointref01_Next x77.fTo).bind fun r78 =>
  (if r78.2 = true then
  chk (decide ((a0.fAddrs ++ ([(api_Range.mk r78.1 r78.1)] : List api_Range)).length ≤ LIM)) <|
  j25 (a0.fAddrs ++ ([(api_Range.mk r78.1 r78.1)] : List api_Range))
  else
  j25 a0.fAddrs)
  else
  j25 a0.fAddrs))))
  else
  j25 a0.fAddrs))
set_option maxHeartbeats 4000000 in
set_option maxRecDepth 100000 in
theorem exchangepointlaw21_bent_ac (a0 : api_Resources) (a1 : Int) (a2 : Int) (r : api_Resources) (h : exchangepointlaw21_bent a0 a1 a2 = some r) : AC Tryd.prog 19 [(.d (e_api_Resources a0)), (.d (.int .i64 a1)), (.d (.int .i64 a2))] [] (.d (e_api_Resources r)) [] := by
  refine AC.of_code2 Tryd.func19 rfl rfl (Nat.le_of_ble_eq_true (by rfl)) fun B hB hN => ?_
  have L {d : Nat} (h : Nat.blt d Tryd.f19.ntmps = true) : d < B.N := ltN hN h
  delta exchangepointlaw21_bent at h
  refine sr (cg (OpJ.box hB (nm := 1003) (by decide) (by simp) rfl (L rfl) (q 0)) rfl (cg (OpJ.alloc hB tyZ28 (nm := 1006) (by decide) (L rfl)) rfl cn)) ?_
  refine gh [(1, _), (2, _), (3, _), (6, _)] [(1003, some _), (1006, some _)] hB rfl rfl (by rfl) ?_
  obtain ⟨hc1, h⟩ := chk_some h
  obtain ⟨hc2, h⟩ := chk_some h
  refine sd (c (ov (.ptr 1003 0 [0]) (fp hN Tryd.underlying28 0 tyS25 _ (q 3))) rfl (c (lb hN 28 _ _ tyS25 (ad _) (q 11)) rfl (cg (OpJ.appendN hB Tryd.underlying25 tyE68 (nm := 1013) (by decide) (ys := a0.fAddrs.map e_api_Range) (len := a0.fAddrs.length) (by simp) (map_sz (f := e_api_Range) (fun _ => rfl)) (by rw [List.length_map]; exact lim_mulN hc1 (by decide)) (by rw [List.length_map]; exact lim_leN hc1) (L rfl) Opd.nils (q 12)) rfl (c (ov (.ptr 1003 1 [1]) (fp hN Tryd.underlying28 1 tyS26 _ (q 3))) rfl (c (lb hN 28 _ _ tyS26 (ad _) (q 14)) rfl (cg (OpJ.appendN hB Tryd.underlying26 tyE48 (nm := 1016) (by decide) (ys := a0.fASNs.map e_api_Span) (len := a0.fASNs.length) (by simp) (map_sz (f := e_api_Span) (fun _ => rfl)) (by rw [List.length_map]; exact lim_mulN hc2 (by decide)) (by rw [List.length_map]; exact lim_leN hc2) (L rfl) Opd.nils (q 15)) rfl (c (ov (.ptr 1003 0 [0]) (fp hN Tryd.underlying28 0 tyS25 _ (q 3))) rfl (cg (OpJ.storeB (c' := (.st [(.sref 1013 6 0 a0.fAddrs.length), (qe_api_Span_2 a0.fASNs)])) tyS25 (SetAt.lift (fs := [(.list 6 (a0.fAddrs.map e_api_Range)), (.list 2 (a0.fASNs.map e_api_Span))]) (SetAt.st1 (by rfl) (by rfl) (SetAt.here _ _) (by rfl) (by rfl) (by first | rfl | omega))) (by rfl) (by rfl) (by simp) rfl (q 17) (q 13)) rfl (c (ov (.ptr 1003 1 [1]) (fp hN Tryd.underlying28 1 tyS26 _ (q 3))) rfl (cg (OpJ.storeB (c' := (.st [(.sref 1013 6 0 a0.fAddrs.length), (.sref 1016 2 0 a0.fASNs.length)])) tyS26 (SetAt.st1 (f := (qe_api_Span_2 a0.fASNs)) (by rfl) (by rfl) (SetAt.here _ _) (by rfl) (by rfl) (by first | rfl | omega)) (by rfl) (by rfl) (by simp) rfl (q 18) (q 16)) rfl cn)))))))))) (by kernel_rfl) (by kernel_rfl) ?_
  refine gh [(1, _), (2, _), (3, _), (6, _)] [(1003, some _), (1006, some _), (1013, some _), (1016, some _)] hB rfl rfl (by rfl) ?_
  refine AWp.seq ?_
  refine sr (c (ov (.ptr 1003 0 [0]) (fp hN Tryd.underlying28 0 tyS25 _ (q 3))) rfl (c (lb hN 28 _ (.sref 1013 6 0 a0.fAddrs.length) tyS25 (At.st1 (f := (.sref 1013 6 0 a0.fAddrs.length)) (by rfl) (by rfl) (At.here _) (by first | rfl | omega)) (q 19)) rfl (c (OpJ.lenS Tryd.underlying25 (L rfl) (q 20)) rfl (c (OpJ.gtr (L rfl) (q 21) (Opd.int .i64 (0))) rfl cn)))) ?_
  refine gh [(1, _), (2, _), (3, _), (6, _), (22, _)] [(1003, some _), (1006, some _), (1013, some _), (1016, some _)] hB rfl rfl (by rfl) ?_
  refine AWp.cut h (fun m24 : (List api_Range) => ([(1, (i6 a1)), (2, (i6 a2)), (3, (.ptr 1003 0 [])), (6, (.ptr 1006 0 []))] : EL)) (fun m24 : (List api_Range) => ([(1003, some (.box 28 (.st [(.sref 13030 6 0 m24.length), (.sref 1016 2 0 a0.fASNs.length)]))), (1006, some (.box 28 (.st [.nils, .nils]))), (1016, some (we_api_Span_48_2 a0.fASNs)), (13030, some (we_api_Range_68_6 m24))] : OL)) (fun m24 h E' O' hmat => ?_) (fun j25 hjj25 h => ?_)
  · refine seqQ_n ?_
    refine AWp.ghost hmat ?_
    refine AWp.seq ?_
    refine sr (c (ov (.ptr 1003 1 [1]) (fp hN Tryd.underlying28 1 tyS26 _ (q 3))) rfl (c (lb hN 28 _ (.sref 1016 2 0 a0.fASNs.length) tyS26 (At.st1 (f := (.sref 1016 2 0 a0.fASNs.length)) (by rfl) (by rfl) (At.here _) (by first | rfl | omega)) (q 93)) rfl (c (OpJ.lenS Tryd.underlying26 (L rfl) (q 94)) rfl (c (OpJ.gtr (L rfl) (q 95) (Opd.int .i64 (0))) rfl cn)))) ?_
    refine gh [(1, _), (2, _), (3, _), (6, _), (96, _)] [(1003, some _), (1006, some _), (1016, some _), (13030, some _)] hB rfl rfl (by rfl) ?_
    refine AWp.cut h (fun m42 : (List api_Span) => ([(3, (.ptr 1003 0 [])), (6, (.ptr 1006 0 []))] : EL)) (fun m42 : (List api_Span) => ([(1003, some (.box 28 (.st [(.sref 13030 6 0 m24.length), (.sref 13031 2 0 m42.length)]))), (1006, some (.box 28 (.st [.nils, .nils]))), (13030, some (we_api_Range_68_6 m24)), (13031, some (we_api_Span_48_2 m42))] : OL)) (fun m42 h E' O' hmat => ?_) (fun j43 hjj43 h => ?_)
    · refine seqQ_n ?_
      refine AWp.ghost hmat ?_
      refine sr (c (lb hN 28 _ _ tyS28 (At.here _) (q 3)) rfl (cg (OpJ.storeB tyS28 (SetAt.here _ _) (by rfl) (by rfl) (by simp) rfl (q 6) (q 145)) rfl cn)) ?_
      refine gh [(6, _)] [(1006, some _), (13030, some _), (13031, some _)] hB rfl rfl (by rfl) ?_
      refine AWp.ret ?_
      obtain rfl := Option.some.inj h
      exact ⟨.inl rfl, _, _, (Mat.trans (Mat.freezeP (n := 13030) (e := 68) (sz := 6) (es := m24.map e_api_Range) (Ts := []) (Bs := [(1006, some (.box 28 (.st [(qe_api_Range_6 m24), (.sref 13031 2 0 m42.length)])))]) (by rfl) TwT.nil (TwB.cons (x := (.st [(.sref 13030 6 0 m24.length), (.sref 13031 2 0 m42.length)])) (by rfl) (Tw.st (TwL.cons (FrzL.all (by first | rfl | (simp; done) | (simp; omega) | omega)) (TwL.cons (Tw.same _) TwL.nil))) TwB.nil)) (Mat.trans (Mat.freezeP (n := 13031) (e := 48) (sz := 2) (es := m42.map e_api_Span) (Ts := []) (Bs := [(1006, some (.box 28 (.st [(qe_api_Range_6 m24), (qe_api_Span_2 m42)])))]) (by rfl) TwT.nil (TwB.cons (x := (.st [(qe_api_Range_6 m24), (.sref 13031 2 0 m42.length)])) (by rfl) (Tw.st (TwL.cons (Tw.same _) (TwL.cons (FrzL.all (by first | rfl | (simp; done) | (simp; omega) | omega)) TwL.nil))) TwB.nil)) (Mat.trans (Mat.coeP (Ts := []) (Bs := [(1006, some (.box 28 (.d (.st [(.list 6 (m24.map e_api_Range)), (.list 2 (m42.map e_api_Span))]))))]) TwT.nil (TwB.cons (x := (.st [(qe_api_Range_6 m24), (qe_api_Span_2 m42)])) (by rfl) (Tw.leaf ⟨_, (Co.st (CoL.cons (Co.d _) (CoL.cons (Co.d _) CoL.nil))), rfl⟩) TwB.nil)) (mp [] [(6, (.ptr 1006 0 []))] [(1006, some (.box 28 (.d (.st [(.list 6 (m24.map e_api_Range)), (.list 2 (m42.map e_api_Span))]))))] hB)))), [(.d (.st [(.list 6 (m24.map e_api_Range)), (.list 2 (m42.map e_api_Span))]))], (Res.cell (c := (.d (.st [(.list 6 (m24.map e_api_Range)), (.list 2 (m42.map e_api_Span))]))) (by rfl) (by rfl) tyS28 (by rfl) (by rfl) (by rfl) Res.nil), rfl, by rfl, by rfl, by rfl⟩
    · refine AWp.cond rfl (fun hg44 => ?_) (fun hg44 => ?_)
      · replace h := ite_t hg44 h
        obtain ⟨r45, hr45, h⟩ := bindS h
        obtain ⟨x46, hx46, h⟩ := bindS h
        refine sd (c (ov (.ptr 1003 1 [1]) (fp hN Tryd.underlying28 1 tyS26 _ (q 3))) rfl (c (lb hN 28 _ (.sref 1016 2 0 a0.fASNs.length) tyS26 (At.st1 (f := (.sref 1016 2 0 a0.fASNs.length)) (by rfl) (by rfl) (At.here _) (by first | rfl | omega)) (q 97)) rfl (c (mv hN (q 2)) rfl (c (ov (.ptr 1003 1 [1]) (fp hN Tryd.underlying28 1 tyS26 _ (q 3))) rfl (c (lb hN 28 _ (.sref 1016 2 0 a0.fASNs.length) tyS26 (At.st1 (f := (.sref 1016 2 0 a0.fASNs.length)) (by rfl) (by rfl) (At.here _) (by first | rfl | omega)) (q 100)) rfl (c (OpJ.lenS Tryd.underlying26 (L rfl) (q 101)) rfl (cg (OpJ.callFn hB fnOk14 (exchangepointmake_Mod_ac a2 (a0.fASNs.length : Int) r45 hr45) [] (by kernel_rfl) (L rfl) (by kernel_rfl) (OpdL.cons (q 99) (OpdL.cons (q 102) OpdL.nil))) rfl (c (OpJ.val (v' := (.ptr 1016 (r45.toNat * 2) [r45.toNat])) (by simp) (OpJ.indexS Tryd.underlying26 tyS48 (idx_some hx46).1 (by have := idx_lt hx46; first | (simpa using this) | ((try simp only [List.length_map] at this); (try simp only [List.length_map]); omega)) (L rfl) (q 98) (q 103))) rfl (c (OpJ.assign (L rfl) (q 104)) rfl cn))))))))) (by kernel_rfl) (by kernel_rfl) ?_
        refine gh [(1, _), (2, _), (3, _), (6, _), (10, _)] [(1003, some _), (1006, some _), (1016, some _), (13030, some _)] hB rfl rfl (by rfl) ?_
        obtain ⟨r47, hr47, h⟩ := bindS h
        refine sr (c (mv hN (q 1)) rfl (cg (OpJ.callFn hB fnOk14 (exchangepointmake_Mod_ac a1 (8 : Int) r47 hr47) [] (by kernel_rfl) (L rfl) (by kernel_rfl) (OpdL.cons (q 105) (OpdL.cons (Opd.int .i64 (8)) OpdL.nil))) rfl cn)) ?_
        refine gh [(2, _), (3, _), (6, _), (10, _), (106, _)] [(1003, some _), (1006, some _), (1016, some _), (13030, some _)] hB rfl rfl (by rfl) ?_
        refine AWp.block ?_
        refine sr (c (OpJ.eqlI (L rfl) (q 106) (Opd.int .i64 (4))) rfl (c (OpJ.assign (L rfl) (q 108)) rfl cn)) ?_
        refine gh [(2, _), (3, _), (6, _), (10, _), (106, _), (107, _)] [(1003, some _), (1006, some _), (1016, some _), (13030, some _)] hB rfl rfl (by rfl) ?_
        refine AWp.cond rfl (fun hg48 => ?_) (fun hg48 => ?_)
        · replace h := ite_t hg48 h
          obtain ⟨r49, hr49, h⟩ := bindS h
          obtain ⟨x50, hx50, h⟩ := bindS h
          obtain ⟨x51, hx51, h⟩ := bindS h
          refine rg (c (mv hN (q 10)) rfl (c (OpJ.buildSlice Tryd.underlying22 tyS3 tyZD3 (by rfl) (by decide) (by decide) (Opds.cons (Opd.int .i64 (-1)) (Opds.cons (Opd.int .i64 (0)) (Opds.cons (Opd.int .i64 (4294967296)) Opds.nil))) (by kernel_rfl) (es := ([(.int .i64 (-1 : Int)), (.int .i64 0), (.int .i64 (4294967296 : Int))] : List D)) (by rfl) (by rfl) (by kernel_rfl) (by simp) (L rfl)) rfl (c (mv hN (q 2)) rfl (cg (OpJ.callFn hB fnOk14 (exchangepointmake_Mod_ac a2 (3 : Int) r49 hr49) [] (by kernel_rfl) (L rfl) (by kernel_rfl) (OpdL.cons (q 111) (OpdL.cons (Opd.int .i64 (3)) OpdL.nil))) rfl (c (OpJ.indexD Tryd.underlying22 tyS3 (idx_some hx50).1 (get_map (eI .i64) (idx_some hx50).2) (L rfl) (q 110) (q 112)) rfl (c (OpJ.loadD tyS3 (by rfl) (by rfl) (L rfl) (q 113)) rfl (c (OpJ.nilP (L rfl) (q 109)) rfl (c (ov (.ptr 1016 ((r45.toNat * 2) + 0) [r45.toNat, 0]) (fp hN Tryd.underlying48 0 tyS3 _ (q 115))) rfl (cg (OpJ.storeR (e := 48) (sz := 2) (es' := (a0.fASNs.set r45.toNat (api_Span.mk x50 x51.fTo)).map e_api_Span) tyS3 (get_map e_api_Span (idx_some hx51).2) (o := 0) (SetAt.dst1 (by rfl) (by rfl) (SetAt.here _ _) (by rfl) (by rfl) (by first | rfl | omega)) (by rfl) (map_set _ _ _ _) (by rfl) (by rfl) (q 116) (q 114)) rfl cn))))))))) ?_
          refine blkQ_n ?_
          exact hjj43 _ h _ _ (Mat.trans (mp [] [(3, (.ptr 1003 0 [])), (6, (.ptr 1006 0 []))] [(1003, some (.box 28 (.st [(.sref 13030 6 0 m24.length), (.sref 1016 2 0 a0.fASNs.length)]))), (1006, some (.box 28 (.st [.nils, .nils]))), (1016, some (we_api_Span_48_2 (a0.fASNs.set r45.toNat (api_Span.mk x50 x51.fTo)))), (13030, some (we_api_Range_68_6 m24))] hB) (Mat.trans (Mat.lenP (Ts := []) (Bs := [(1003, some (.box 28 (.st [(.sref 13030 6 0 m24.length), (.sref 1016 2 0 ((a0.fASNs.set r45.toNat (api_Span.mk x50 x51.fTo)).length))])))]) TwT.nil (TwB.cons (x := (.st [(.sref 13030 6 0 m24.length), (.sref 1016 2 0 a0.fASNs.length)])) (by rfl) (Tw.st (TwL.cons (Tw.same _) (TwL.cons (Tw.leaf ⟨_, _, _, _, _, rfl, rfl, (by first | rfl | (simp; done) | (simp; omega) | omega)⟩) TwL.nil))) TwB.nil)) (mp [(13031, 1016)] _ _ hB)))
        · replace h := ite_f hg48 h
          refine sr (c (OpJ.eqlI (L rfl) (q 106) (Opd.int .i64 (5))) rfl (c (OpJ.assign (L rfl) (q 118)) rfl cn)) ?_
          refine gh [(2, _), (3, _), (6, _), (10, _), (106, _), (117, _)] [(1003, some _), (1006, some _), (1016, some _), (13030, some _)] hB rfl rfl (by rfl) ?_
          refine AWp.cond rfl (fun hg52 => ?_) (fun hg52 => ?_)
          · replace h := ite_t hg52 h
            obtain ⟨r53, hr53, h⟩ := bindS h
            obtain ⟨x54, hx54, h⟩ := bindS h
            obtain ⟨x55, hx55, h⟩ := bindS h
            refine rg (c (mv hN (q 10)) rfl (c (OpJ.buildSlice Tryd.underlying22 tyS3 tyZD3 (by rfl) (by decide) (by decide) (Opds.cons (Opd.int .i64 (-1)) (Opds.cons (Opd.int .i64 (4294967295)) (Opds.cons (Opd.int .i64 (4294967296)) Opds.nil))) (by kernel_rfl) (es := ([(.int .i64 (-1 : Int)), (.int .i64 (4294967295 : Int)), (.int .i64 (4294967296 : Int))] : List D)) (by rfl) (by rfl) (by kernel_rfl) (by simp) (L rfl)) rfl (c (mv hN (q 2)) rfl (cg (OpJ.callFn hB fnOk14 (exchangepointmake_Mod_ac a2 (3 : Int) r53 hr53) [] (by kernel_rfl) (L rfl) (by kernel_rfl) (OpdL.cons (q 121) (OpdL.cons (Opd.int .i64 (3)) OpdL.nil))) rfl (c (OpJ.indexD Tryd.underlying22 tyS3 (idx_some hx54).1 (get_map (eI .i64) (idx_some hx54).2) (L rfl) (q 120) (q 122)) rfl (c (OpJ.loadD tyS3 (by rfl) (by rfl) (L rfl) (q 123)) rfl (c (OpJ.nilP (L rfl) (q 119)) rfl (c (ov (.ptr 1016 ((r45.toNat * 2) + 1) [r45.toNat, 1]) (fp hN Tryd.underlying48 1 tyS3 _ (q 125))) rfl (cg (OpJ.storeR (e := 48) (sz := 2) (es' := (a0.fASNs.set r45.toNat (api_Span.mk x55.fFrom x54)).map e_api_Span) tyS3 (get_map e_api_Span (idx_some hx55).2) (o := 1) (SetAt.dst1 (by rfl) (by rfl) (SetAt.here _ _) (by rfl) (by rfl) (by first | rfl | omega)) (by rfl) (map_set _ _ _ _) (by rfl) (by rfl) (q 126) (q 124)) rfl cn))))))))) ?_
            refine blkQ_n ?_
            exact hjj43 _ h _ _ (Mat.trans (mp [] [(3, (.ptr 1003 0 [])), (6, (.ptr 1006 0 []))] [(1003, some (.box 28 (.st [(.sref 13030 6 0 m24.length), (.sref 1016 2 0 a0.fASNs.length)]))), (1006, some (.box 28 (.st [.nils, .nils]))), (1016, some (we_api_Span_48_2 (a0.fASNs.set r45.toNat (api_Span.mk x55.fFrom x54)))), (13030, some (we_api_Range_68_6 m24))] hB) (Mat.trans (Mat.lenP (Ts := []) (Bs := [(1003, some (.box 28 (.st [(.sref 13030 6 0 m24.length), (.sref 1016 2 0 ((a0.fASNs.set r45.toNat (api_Span.mk x55.fFrom x54)).length))])))]) TwT.nil (TwB.cons (x := (.st [(.sref 13030 6 0 m24.length), (.sref 1016 2 0 a0.fASNs.length)])) (by rfl) (Tw.st (TwL.cons (Tw.same _) (TwL.cons (Tw.leaf ⟨_, _, _, _, _, rfl, rfl, (by first | rfl | (simp; done) | (simp; omega) | omega)⟩) TwL.nil))) TwB.nil)) (mp [(13031, 1016)] _ _ hB)))
          · replace h := ite_f hg52 h
            refine sr (c (OpJ.eqlI (L rfl) (q 106) (Opd.int .i64 (6))) rfl (c (OpJ.assign (L rfl) (q 128)) rfl cn)) ?_
            refine gh [(3, _), (6, _), (10, _), (127, _)] [(1003, some _), (1006, some _), (1016, some _), (13030, some _)] hB rfl rfl (by rfl) ?_
            refine AWp.cond rfl (fun hg56 => ?_) (fun hg56 => ?_)
            · replace h := ite_t hg56 h
              obtain ⟨x57, hx57, h⟩ := bindS h
              obtain ⟨x58, hx58, h⟩ := bindS h
              obtain ⟨hc59, h⟩ := chk_some h
              refine dr (c (ov (.ptr 1003 1 [1]) (fp hN Tryd.underlying28 1 tyS26 _ (q 3))) rfl (c (lb hN 28 _ (.sref 1016 2 0 a0.fASNs.length) tyS26 (At.st1 (f := (.sref 1016 2 0 a0.fASNs.length)) (by rfl) (by rfl) (At.here _) (by first | rfl | omega)) (q 129)) rfl (c (mv hN (q 10)) rfl (c (OpJ.nilP (L rfl) (q 131)) rfl (c (ov (.ptr 1016 ((r45.toNat * 2) + 1) [r45.toNat, 1]) (fp hN Tryd.underlying48 1 tyS3 _ (q 132))) rfl (c (OpJ.loadR (e := 48) (sz := 2) tyS3 (get_map e_api_Span (idx_some hx57).2) (o := 1) (ad _) (by rfl) (by rfl) (by rfl) (L rfl) (q 133)) rfl (c (add6 (L rfl) (q 134) (Opd.int .i64 (1))) rfl (c (mv hN (q 10)) rfl (c (OpJ.nilP (L rfl) (q 136)) rfl (c (ov (.ptr 1016 ((r45.toNat * 2) + 1) [r45.toNat, 1]) (fp hN Tryd.underlying48 1 tyS3 _ (q 137))) rfl (c (OpJ.loadR (e := 48) (sz := 2) tyS3 (get_map e_api_Span (idx_some hx58).2) (o := 1) (ad _) (by rfl) (by rfl) (by rfl) (L rfl) (q 138)) rfl (c (add6 (L rfl) (q 139) (Opd.int .i64 (1))) rfl (c (OpJ.coe (v := (.st [(i6 (w64 (x57.fTo + (1 : Int)))), (i6 (w64 (x58.fTo + (1 : Int))))])) (y := (.st [(.int .i64 (w64 (x57.fTo + (1 : Int)))), (.int .i64 (w64 (x58.fTo + (1 : Int))))])) (Co.st (CoL.cons (Co.d _) (CoL.cons (Co.d _) CoL.nil))) rfl (OpJ.build (places := [(0, 1), (1, 1)]) ⟨Tryd.underlying48, fun w => by kernel_rfl⟩ tyZS48 (Opds.cons (q 135) (Opds.cons (q 140) Opds.nil)) (by kernel_rfl) (r := (.st [(i6 (w64 (x57.fTo + (1 : Int)))), (i6 (w64 (x58.fTo + (1 : Int))))])) (by rfl) (L rfl))) rfl (c (OpJ.buildSlice Tryd.underlying26 tyS48 tyZD48 (by rfl) (by decide) (by decide) (Opds.cons (q 141) Opds.nil) (by kernel_rfl) (es := ([(.st [(.int .i64 (w64 (x57.fTo + (1 : Int)))), (.int .i64 (w64 (x58.fTo + (1 : Int))))])] : List D)) (by rfl) (by rfl) (by kernel_rfl) (by simp) (L rfl)) rfl (cg (OpJ.append hB Tryd.underlying26 tyE48 (nm := 1143) (by decide) (es := a0.fASNs.map e_api_Span) (ys := ([(api_Span.mk (w64 (x57.fTo + (1 : Int))) (w64 (x58.fTo + (1 : Int))))] : List api_Span).map e_api_Span) (es' := (a0.fASNs ++ ([(api_Span.mk (w64 (x57.fTo + (1 : Int))) (w64 (x58.fTo + (1 : Int))))] : List api_Span)).map e_api_Span) (len := (a0.fASNs ++ ([(api_Span.mk (w64 (x57.fTo + (1 : Int))) (w64 (x58.fTo + (1 : Int))))] : List api_Span)).length) (by simp) (by simp) (map_sz (f := e_api_Span) (fun _ => rfl)) (by rw [List.length_map]; exact lim_mulN hc59 (by decide)) (by rw [List.length_map]; exact lim_leN hc59) (L rfl) (by simp) (q 130) (q 142)) rfl (c (ov (.ptr 1003 1 [1]) (fp hN Tryd.underlying28 1 tyS26 _ (q 3))) rfl (cg (OpJ.storeB (c' := (.st [(.sref 13030 6 0 m24.length), (.sref 1143 2 0 ((a0.fASNs ++ ([(api_Span.mk (w64 (x57.fTo + (1 : Int))) (w64 (x58.fTo + (1 : Int))))] : List api_Span)).length))])) tyS26 (SetAt.st1 (f := (.sref 1016 2 0 a0.fASNs.length)) (by rfl) (by rfl) (SetAt.here _ _) (by rfl) (by rfl) (by first | rfl | omega)) (by rfl) (by rfl) (by simp) rfl (q 144) (q 143)) rfl cn))))))))))))))))) (by kernel_rfl) (by kernel_rfl) ?_
              refine blkQ_n ?_
              exact hjj43 _ h _ _ (Mat.trans (mp [] [(3, (.ptr 1003 0 [])), (6, (.ptr 1006 0 []))] [(1003, some (.box 28 (.st [(.sref 13030 6 0 m24.length), (.sref 1143 2 0 ((a0.fASNs ++ ([(api_Span.mk (w64 (x57.fTo + (1 : Int))) (w64 (x58.fTo + (1 : Int))))] : List api_Span)).length))]))), (1006, some (.box 28 (.st [.nils, .nils]))), (1143, some (we_api_Span_48_2 (a0.fASNs ++ ([(api_Span.mk (w64 (x57.fTo + (1 : Int))) (w64 (x58.fTo + (1 : Int))))] : List api_Span)))), (13030, some (we_api_Range_68_6 m24))] hB) (mp [(13031, 1143)] _ _ hB))
            · replace h := ite_f hg56 h
              refine AWp.skip ?_
              refine blkQ_n ?_
              exact hjj43 _ h _ _ (mp [(13031, 1016)] _ _ hB)
      · replace h := ite_f hg44 h
        refine AWp.skip ?_
        exact hjj43 _ h _ _ (mp [(13031, 1016)] _ _ hB)
  · refine AWp.cond rfl (fun hg60 => ?_) (fun hg60 => ?_)
    · replace h := ite_t hg60 h
      obtain ⟨r61, hr61, h⟩ := bindS h
      obtain ⟨x62, hx62, h⟩ := bindS h
      refine sd (c (ov (.ptr 1003 0 [0]) (fp hN Tryd.underlying28 0 tyS25 _ (q 3))) rfl (c (lb hN 28 _ (.sref 1013 6 0 a0.fAddrs.length) tyS25 (At.st1 (f := (.sref 1013 6 0 a0.fAddrs.length)) (by rfl) (by rfl) (At.here _) (by first | rfl | omega)) (q 23)) rfl (c (mv hN (q 2)) rfl (c (ov (.ptr 1003 0 [0]) (fp hN Tryd.underlying28 0 tyS25 _ (q 3))) rfl (c (lb hN 28 _ (.sref 1013 6 0 a0.fAddrs.length) tyS25 (At.st1 (f := (.sref 1013 6 0 a0.fAddrs.length)) (by rfl) (by rfl) (At.here _) (by first | rfl | omega)) (q 26)) rfl (c (OpJ.lenS Tryd.underlying25 (L rfl) (q 27)) rfl (cg (OpJ.callFn hB fnOk14 (exchangepointmake_Mod_ac a2 (a0.fAddrs.length : Int) r61 hr61) [] (by kernel_rfl) (L rfl) (by kernel_rfl) (OpdL.cons (q 25) (OpdL.cons (q 28) OpdL.nil))) rfl (c (OpJ.val (v' := (.ptr 1013 (r61.toNat * 6) [r61.toNat])) (by simp) (OpJ.indexS Tryd.underlying25 tyS68 (idx_some hx62).1 (by have := idx_lt hx62; first | (simpa using this) | ((try simp only [List.length_map] at this); (try simp only [List.length_map]); omega)) (L rfl) (q 24) (q 29))) rfl (c (OpJ.assign (L rfl) (q 30)) rfl cn))))))))) (by kernel_rfl) (by kernel_rfl) ?_
      refine gh [(1, _), (2, _), (3, _), (6, _), (7, _)] [(1003, some _), (1006, some _), (1013, some _), (1016, some _)] hB rfl rfl (by rfl) ?_
      obtain ⟨r63, hr63, h⟩ := bindS h
      refine sr (c (mv hN (q 1)) rfl (cg (OpJ.callFn hB fnOk14 (exchangepointmake_Mod_ac a1 (8 : Int) r63 hr63) [] (by kernel_rfl) (L rfl) (by kernel_rfl) (OpdL.cons (q 31) (OpdL.cons (Opd.int .i64 (8)) OpdL.nil))) rfl cn)) ?_
      refine gh [(1, _), (2, _), (3, _), (6, _), (7, _), (32, _)] [(1003, some _), (1006, some _), (1013, some _), (1016, some _)] hB rfl rfl (by rfl) ?_
      refine AWp.block ?_
      refine sr (c (OpJ.eqlI (L rfl) (q 32) (Opd.int .i64 (0))) rfl (c (OpJ.assign (L rfl) (q 34)) rfl cn)) ?_
      refine gh [(1, _), (2, _), (3, _), (6, _), (7, _), (32, _), (33, _)] [(1003, some _), (1006, some _), (1013, some _), (1016, some _)] hB rfl rfl (by rfl) ?_
      refine AWp.cond rfl (fun hg64 => ?_) (fun hg64 => ?_)
      · replace h := ite_t hg64 h
        obtain ⟨x65, hx65, h⟩ := bindS h
        obtain ⟨x66, hx66, h⟩ := bindS h
        obtain ⟨x67, hx67, h⟩ := bindS h
        obtain ⟨x68, hx68, h⟩ := bindS h
        refine dr (c (mv hN (q 7)) rfl (c (mv hN (q 7)) rfl (c (mv hN (q 7)) rfl (c (OpJ.nilP (L rfl) (q 37)) rfl (c (ov (.ptr 1013 ((r61.toNat * 6) + 3) [r61.toNat, 1]) (fp hN Tryd.underlying68 3 tyS32 _ (q 38))) rfl (c (OpJ.loadR (e := 68) (sz := 6) tyS32 (get_map e_api_Range (idx_some hx65).2) (o := 3) (ad _) (by rfl) (by rfl) (by rfl) (L rfl) (q 39)) rfl (c (mv hN (q 7)) rfl (c (OpJ.nilP (L rfl) (q 41)) rfl (c (ov (.ptr 1013 ((r61.toNat * 6) + 0) [r61.toNat, 0]) (fp hN Tryd.underlying68 0 tyS32 _ (q 42))) rfl (c (OpJ.loadR (e := 68) (sz := 6) tyS32 (get_map e_api_Range (idx_some hx66).2) (o := 0) (ad _) (by rfl) (by rfl) (by rfl) (L rfl) (q 43)) rfl (c (OpJ.nilP (L rfl) (q 35)) rfl (c (ov (.ptr 1013 ((r61.toNat * 6) + 0) [r61.toNat, 0]) (fp hN Tryd.underlying68 0 tyS32 _ (q 45))) rfl (cg (OpJ.storeR (e := 68) (sz := 6) (es' := (a0.fAddrs.set r61.toNat (api_Range.mk x65.fTo x67.fTo)).map e_api_Range) tyS32 (get_map e_api_Range (idx_some hx67).2) (o := 0) (SetAt.dst1 (by rfl) (by rfl) (SetAt.here _ _) (by rfl) (by rfl) (by first | rfl | omega)) (by rfl) (map_set _ _ _ _) (by rfl) (by rfl) (q 46) (q 40)) rfl (c (OpJ.nilP (L rfl) (q 36)) rfl (c (ov (.ptr 1013 ((r61.toNat * 6) + 3) [r61.toNat, 1]) (fp hN Tryd.underlying68 3 tyS32 _ (q 47))) rfl (cg (OpJ.storeR (e := 68) (sz := 6) (es' := ((a0.fAddrs.set r61.toNat (api_Range.mk x65.fTo x67.fTo)).set r61.toNat (api_Range.mk x68.fFrom x66.fFrom)).map e_api_Range) tyS32 (get_map e_api_Range (idx_some hx68).2) (o := 3) (SetAt.dst1 (by rfl) (by rfl) (SetAt.here _ _) (by rfl) (by rfl) (by first | rfl | omega)) (by rfl) (map_set _ _ _ _) (by rfl) (by rfl) (q 48) (q 44)) rfl cn)))))))))))))))) (by kernel_rfl) (by kernel_rfl) ?_
        refine blkQ_n ?_
        exact hjj25 _ h _ _ (Mat.trans (mp [] [(1, (i6 a1)), (2, (i6 a2)), (3, (.ptr 1003 0 [])), (6, (.ptr 1006 0 []))] [(1003, some (.box 28 (.st [(.sref 1013 6 0 a0.fAddrs.length), (.sref 1016 2 0 a0.fASNs.length)]))), (1006, some (.box 28 (.st [.nils, .nils]))), (1013, some (we_api_Range_68_6 ((a0.fAddrs.set r61.toNat (api_Range.mk x65.fTo x67.fTo)).set r61.toNat (api_Range.mk x68.fFrom x66.fFrom)))), (1016, some (we_api_Span_48_2 a0.fASNs))] hB) (Mat.trans (Mat.lenP (Ts := []) (Bs := [(1003, some (.box 28 (.st [(.sref 1013 6 0 (((a0.fAddrs.set r61.toNat (api_Range.mk x65.fTo x67.fTo)).set r61.toNat (api_Range.mk x68.fFrom x66.fFrom)).length)), (.sref 1016 2 0 a0.fASNs.length)])))]) TwT.nil (TwB.cons (x := (.st [(.sref 1013 6 0 a0.fAddrs.length), (.sref 1016 2 0 a0.fASNs.length)])) (by rfl) (Tw.st (TwL.cons (Tw.leaf ⟨_, _, _, _, _, rfl, rfl, (by first | rfl | (simp; done) | (simp; omega) | omega)⟩) (TwL.cons (Tw.same _) TwL.nil))) TwB.nil)) (mp [(13030, 1013)] _ _ hB)))
      · replace h := ite_f hg64 h
        refine sr (c (OpJ.eqlI (L rfl) (q 32) (Opd.int .i64 (1))) rfl (c (OpJ.assign (L rfl) (q 50)) rfl cn)) ?_
        refine gh [(1, _), (2, _), (3, _), (6, _), (7, _), (32, _), (49, _)] [(1003, some _), (1006, some _), (1013, some _), (1016, some _)] hB rfl rfl (by rfl) ?_
        refine AWp.cond rfl (fun hg69 => ?_) (fun hg69 => ?_)
        · replace h := ite_t hg69 h
          obtain ⟨x70, hx70, h⟩ := bindS h
          obtain ⟨r71, hr71, h⟩ := bindS h
          obtain ⟨x72, hx72, h⟩ := bindS h
          refine rg (c (mv hN (q 7)) rfl (c (mv hN (q 7)) rfl (c (OpJ.nilP (L rfl) (q 53)) rfl (c (ov (.ptr 1013 ((r61.toNat * 6) + 3) [r61.toNat, 1]) (fp hN Tryd.underlying68 3 tyS32 _ (q 54))) rfl (c (OpJ.loadR (e := 68) (sz := 6) tyS32 (get_map e_api_Range (idx_some hx70).2) (o := 3) (ad _) (by rfl) (by rfl) (by rfl) (L rfl) (q 55)) rfl (cg (OpJ.callFn hB fnOk45 (exchangepointref01_Next_ac x70.fTo r71 hr71) [] (by kernel_rfl) (L rfl) (by kernel_rfl) (OpdL.cons (q 56) OpdL.nil)) rfl (c (mv hN (q 57)) rfl (c (OpJ.extract (by rfl) rfl (L rfl) (q 51)) rfl (c (OpJ.extract (by rfl) rfl (L rfl) (q 51)) rfl (c (OpJ.nilP (L rfl) (q 52)) rfl (c (ov (.ptr 1013 ((r61.toNat * 6) + 3) [r61.toNat, 1]) (fp hN Tryd.underlying68 3 tyS32 _ (q 60))) rfl (cg (OpJ.storeR (e := 68) (sz := 6) (es' := (a0.fAddrs.set r61.toNat (api_Range.mk x72.fFrom r71.1)).map e_api_Range) tyS32 (get_map e_api_Range (idx_some hx72).2) (o := 3) (SetAt.dst1 (by rfl) (by rfl) (SetAt.here _ _) (by rfl) (by rfl) (by first | rfl | omega)) (by rfl) (map_set _ _ _ _) (by rfl) (by rfl) (q 61) (q 58)) rfl cn)))))))))))) ?_
          refine blkQ_n ?_
          exact hjj25 _ h _ _ (Mat.trans (mp [] [(1, (i6 a1)), (2, (i6 a2)), (3, (.ptr 1003 0 [])), (6, (.ptr 1006 0 []))] [(1003, some (.box 28 (.st [(.sref 1013 6 0 a0.fAddrs.length), (.sref 1016 2 0 a0.fASNs.length)]))), (1006, some (.box 28 (.st [.nils, .nils]))), (1013, some (we_api_Range_68_6 (a0.fAddrs.set r61.toNat (api_Range.mk x72.fFrom r71.1)))), (1016, some (we_api_Span_48_2 a0.fASNs))] hB) (Mat.trans (Mat.lenP (Ts := []) (Bs := [(1003, some (.box 28 (.st [(.sref 1013 6 0 ((a0.fAddrs.set r61.toNat (api_Range.mk x72.fFrom r71.1)).length)), (.sref 1016 2 0 a0.fASNs.length)])))]) TwT.nil (TwB.cons (x := (.st [(.sref 1013 6 0 a0.fAddrs.length), (.sref 1016 2 0 a0.fASNs.length)])) (by rfl) (Tw.st (TwL.cons (Tw.leaf ⟨_, _, _, _, _, rfl, rfl, (by first | rfl | (simp; done) | (simp; omega) | omega)⟩) (TwL.cons (Tw.same _) TwL.nil))) TwB.nil)) (mp [(13030, 1013)] _ _ hB)))
        · replace h := ite_f hg69 h
          refine sr (c (OpJ.eqlI (L rfl) (q 32) (Opd.int .i64 (2))) rfl (c (OpJ.assign (L rfl) (q 63)) rfl cn)) ?_
          refine gh [(1, _), (2, _), (3, _), (6, _), (7, _), (32, _), (62, _)] [(1003, some _), (1006, some _), (1013, some _), (1016, some _)] hB rfl rfl (by rfl) ?_
          refine AWp.cond rfl (fun hg73 => ?_) (fun hg73 => ?_)
          · replace h := ite_t hg73 h
            obtain ⟨x74, hx74, h⟩ := bindS h
            obtain ⟨x75, hx75, h⟩ := bindS h
            refine rg (c (mv hN (q 7)) rfl (c (mv hN (q 7)) rfl (c (OpJ.nilP (L rfl) (q 65)) rfl (c (ov (.ptr 1013 ((r61.toNat * 6) + 0) [r61.toNat, 0]) (fp hN Tryd.underlying68 0 tyS32 _ (q 66))) rfl (c (ov (.ptr 1013 ((r61.toNat * 6) + 0) [r61.toNat, 0, 0]) (fp hN Tryd.underlying32 0 tyS4 _ (q 67))) rfl (c (OpJ.loadR (e := 68) (sz := 6) tyS4 (get_map e_api_Range (idx_some hx74).2) (o := 0) (At.dst1 (by rfl) (by rfl) (ad _) (by first | rfl | omega)) (by rfl) (by rfl) (by rfl) (L rfl) (q 68)) rfl (c (OpJ.not (L rfl) (q 69)) rfl (c (OpJ.nilP (L rfl) (q 64)) rfl (c (ov (.ptr 1013 ((r61.toNat * 6) + 0) [r61.toNat, 0]) (fp hN Tryd.underlying68 0 tyS32 _ (q 71))) rfl (c (ov (.ptr 1013 ((r61.toNat * 6) + 0) [r61.toNat, 0, 0]) (fp hN Tryd.underlying32 0 tyS4 _ (q 72))) rfl (cg (OpJ.storeR (e := 68) (sz := 6) (es' := (a0.fAddrs.set r61.toNat (api_Range.mk (api_Addr.mk (!x74.fFrom.fV6) x75.fFrom.fHi x75.fFrom.fLo) x75.fTo)).map e_api_Range) tyS4 (get_map e_api_Range (idx_some hx75).2) (o := 0) (SetAt.dst1 (by rfl) (by rfl) (SetAt.dst1 (by rfl) (by rfl) (SetAt.here _ _) (by rfl) (by rfl) (by first | rfl | omega)) (by rfl) (by rfl) (by first | rfl | omega)) (by rfl) (map_set _ _ _ _) (by rfl) (by rfl) (q 73) (q 70)) rfl cn))))))))))) ?_
            refine blkQ_n ?_
            exact hjj25 _ h _ _ (Mat.trans (mp [] [(1, (i6 a1)), (2, (i6 a2)), (3, (.ptr 1003 0 [])), (6, (.ptr 1006 0 []))] [(1003, some (.box 28 (.st [(.sref 1013 6 0 a0.fAddrs.length), (.sref 1016 2 0 a0.fASNs.length)]))), (1006, some (.box 28 (.st [.nils, .nils]))), (1013, some (we_api_Range_68_6 (a0.fAddrs.set r61.toNat (api_Range.mk (api_Addr.mk (!x74.fFrom.fV6) x75.fFrom.fHi x75.fFrom.fLo) x75.fTo)))), (1016, some (we_api_Span_48_2 a0.fASNs))] hB) (Mat.trans (Mat.lenP (Ts := []) (Bs := [(1003, some (.box 28 (.st [(.sref 1013 6 0 ((a0.fAddrs.set r61.toNat (api_Range.mk (api_Addr.mk (!x74.fFrom.fV6) x75.fFrom.fHi x75.fFrom.fLo) x75.fTo)).length)), (.sref 1016 2 0 a0.fASNs.length)])))]) TwT.nil (TwB.cons (x := (.st [(.sref 1013 6 0 a0.fAddrs.length), (.sref 1016 2 0 a0.fASNs.length)])) (by rfl) (Tw.st (TwL.cons (Tw.leaf ⟨_, _, _, _, _, rfl, rfl, (by first | rfl | (simp; done) | (simp; omega) | omega)⟩) (TwL.cons (Tw.same _) TwL.nil))) TwB.nil)) (mp [(13030, 1013)] _ _ hB)))
          · replace h := ite_f hg73 h
            refine sr (c (OpJ.eqlI (L rfl) (q 32) (Opd.int .i64 (3))) rfl (c (OpJ.assign (L rfl) (q 75)) rfl cn)) ?_
            refine gh [(1, _), (2, _), (3, _), (6, _), (7, _), (74, _)] [(1003, some _), (1006, some _), (1013, some _), (1016, some _)] hB rfl rfl (by rfl) ?_
            refine AWp.cond rfl (fun hg76 => ?_) (fun hg76 => ?_)
            · replace h := ite_t hg76 h
              obtain ⟨x77, hx77, h⟩ := bindS h
              obtain ⟨r78, hr78, h⟩ := bindS h
              refine sr (c (mv hN (q 7)) rfl (c (OpJ.nilP (L rfl) (q 77)) rfl (c (ov (.ptr 1013 ((r61.toNat * 6) + 3) [r61.toNat, 1]) (fp hN Tryd.underlying68 3 tyS32 _ (q 78))) rfl (c (OpJ.loadR (e := 68) (sz := 6) tyS32 (get_map e_api_Range (idx_some hx77).2) (o := 3) (ad _) (by rfl) (by rfl) (by rfl) (L rfl) (q 79)) rfl (cg (OpJ.callFn hB fnOk45 (exchangepointref01_Next_ac x77.fTo r78 hr78) [] (by kernel_rfl) (L rfl) (by kernel_rfl) (OpdL.cons (q 80) OpdL.nil)) rfl (c (mv hN (q 81)) rfl (c (OpJ.extract (by rfl) rfl (L rfl) (q 76)) rfl (c (OpJ.extract (by rfl) rfl (L rfl) (q 76)) rfl (cg (OpJ.alloc hB tyZ32 (nm := 1008) (by decide) (L rfl)) rfl (cg (OpJ.storeB tyS32 (SetAt.here _ _) (by rfl) (by rfl) (by simp) rfl (q 8) (q 82)) rfl (c (OpJ.assign (L rfl) (q 83)) rfl cn))))))))))) ?_
              refine gh [(1, _), (2, _), (3, _), (6, _), (8, _), (9, _)] [(1003, some _), (1006, some _), (1008, some _), (1013, some _), (1016, some _)] hB rfl rfl (by rfl) ?_
              refine sr (c (mv hN (q 9)) rfl cn) ?_
              refine gh [(1, _), (2, _), (3, _), (6, _), (8, _), (84, _)] [(1003, some _), (1006, some _), (1008, some _), (1013, some _), (1016, some _)] hB rfl rfl (by rfl) ?_
              refine AWp.cond rfl (fun hg79 => ?_) (fun hg79 => ?_)
              · replace h := ite_t hg79 h
                obtain ⟨hc80, h⟩ := chk_some h
                refine rg (c (ov (.ptr 1003 0 [0]) (fp hN Tryd.underlying28 0 tyS25 _ (q 3))) rfl (c (lb hN 28 _ (.sref 1013 6 0 a0.fAddrs.length) tyS25 (At.st1 (f := (.sref 1013 6 0 a0.fAddrs.length)) (by rfl) (by rfl) (At.here _) (by first | rfl | omega)) (q 85)) rfl (c (lb hN 32 _ _ tyS32 (At.here _) (q 8)) rfl (c (lb hN 32 _ _ tyS32 (At.here _) (q 8)) rfl (c (OpJ.coe (v := (.st [(.d (e_api_Addr r78.1)), (.d (e_api_Addr r78.1))])) (y := (.st [(e_api_Addr r78.1), (e_api_Addr r78.1)])) (Co.st (CoL.cons (Co.d _) (CoL.cons (Co.d _) CoL.nil))) rfl (OpJ.build (places := [(0, 3), (3, 3)]) ⟨Tryd.underlying68, fun w => by kernel_rfl⟩ tyZS68 (Opds.cons (q 87) (Opds.cons (q 88) Opds.nil)) (by kernel_rfl) (r := (.st [(.d (e_api_Addr r78.1)), (.d (e_api_Addr r78.1))])) (by rfl) (L rfl))) rfl (c (OpJ.buildSlice Tryd.underlying25 tyS68 tyZD68 (by rfl) (by decide) (by decide) (Opds.cons (q 89) Opds.nil) (by kernel_rfl) (es := ([(.st [(e_api_Addr r78.1), (e_api_Addr r78.1)])] : List D)) (by rfl) (by rfl) (by kernel_rfl) (by simp) (L rfl)) rfl (cg (OpJ.append hB Tryd.underlying25 tyE68 (nm := 1091) (by decide) (es := a0.fAddrs.map e_api_Range) (ys := ([(api_Range.mk r78.1 r78.1)] : List api_Range).map e_api_Range) (es' := (a0.fAddrs ++ ([(api_Range.mk r78.1 r78.1)] : List api_Range)).map e_api_Range) (len := (a0.fAddrs ++ ([(api_Range.mk r78.1 r78.1)] : List api_Range)).length) (by simp) (by simp) (map_sz (f := e_api_Range) (fun _ => rfl)) (by rw [List.length_map]; exact lim_mulN hc80 (by decide)) (by rw [List.length_map]; exact lim_leN hc80) (L rfl) (by simp) (q 86) (q 90)) rfl (c (ov (.ptr 1003 0 [0]) (fp hN Tryd.underlying28 0 tyS25 _ (q 3))) rfl (cg (OpJ.storeB (c' := (.st [(.sref 1091 6 0 ((a0.fAddrs ++ ([(api_Range.mk r78.1 r78.1)] : List api_Range)).length)), (.sref 1016 2 0 a0.fASNs.length)])) tyS25 (SetAt.st1 (f := (.sref 1013 6 0 a0.fAddrs.length)) (by rfl) (by rfl) (SetAt.here _ _) (by rfl) (by rfl) (by first | rfl | omega)) (by rfl) (by rfl) (by simp) rfl (q 92) (q 91)) rfl cn))))))))) ?_
                refine blkQ_n ?_
                exact hjj25 _ h _ _ (Mat.trans (mp [] [(1, (i6 a1)), (2, (i6 a2)), (3, (.ptr 1003 0 [])), (6, (.ptr 1006 0 []))] [(1003, some (.box 28 (.st [(.sref 1091 6 0 ((a0.fAddrs ++ ([(api_Range.mk r78.1 r78.1)] : List api_Range)).length)), (.sref 1016 2 0 a0.fASNs.length)]))), (1006, some (.box 28 (.st [.nils, .nils]))), (1016, some (we_api_Span_48_2 a0.fASNs)), (1091, some (we_api_Range_68_6 (a0.fAddrs ++ ([(api_Range.mk r78.1 r78.1)] : List api_Range))))] hB) (mp [(13030, 1091)] _ _ hB))
              · replace h := ite_f hg79 h
                refine AWp.skip ?_
                refine blkQ_n ?_
                exact hjj25 _ h _ _ (mp [(13030, 1013)] _ _ hB)
            · replace h := ite_f hg76 h
              refine AWp.skip ?_
              refine blkQ_n ?_
              exact hjj25 _ h _ _ (mp [(13030, 1013)] _ _ hB)
    · replace h := ite_f hg60 h
      refine AWp.skip ?_
      exact hjj25 _ h _ _ (mp [(13030, 1013)] _ _ hB)

noncomputable def exchangepointref21_Valid_L0 (a0 : api_Resources) (s1 : Int) : Option (((Unit) ⊕ (Unit)) ⊕ (Int)) :=
  (if (decide (s1 < (a0.fAddrs.length : Int))) = true then
  jn (fun _ : Unit =>
  some (.inr (w64 (s1 + (1 : Int))))) (fun j142 =>
  (idx a0.fAddrs s1).bind fun x143 =>
  jn (fun m150 : Bool =>
  (if m150 = true then
  some (.inl (.inl ()))
  else
  (if (s1 == (0 : Int)) = true then
  j142 ()
  else
  (idx a0.fAddrs (w64 (s1 - (1 : Int)))).bind fun x154 =>
  (exchangepointref01_Next x154.fTo).bind fun r155 =>
  jn (fun m159 : Bool =>
  (if m159 = true then
  some (.inl (.inl ()))
  else
  j142 ())) (fun j160 =>
  (exchangepointref01_Cmp x154.fTo x143.fFrom).bind fun r162 =>
  (if (decide ((0 : Int) ≤ r162)) = true then
  j160 true
  else
  j160 (r155.2 && ((r155.1.fV6 == x143.fFrom.fV6) && ((r155.1.fHi == x143.fFrom.fHi) && ((r155.1.fLo == x143.fFrom.fLo) && true))))))))) (fun j151 =>
  (exchangepointref01_Valid x143.fFrom).bind fun r164 =>
  (if (!r164) = true then
  j151 true
  else
  (exchangepointref01_Valid x143.fTo).bind fun r166 =>
  (if ((!r166) || (x143.fFrom.fV6 != x143.fTo.fV6)) = true then
  j151 true
  else
  (exchangepointref01_Cmp x143.fFrom x143.fTo).bind fun r168 =>
  j151 (decide ((0 : Int) < r168))))))
  else
  some (.inl (.inr ())))
noncomputable def exchangepointref21_Valid_L1 (a0 : api_Resources) (s171 : Int) : Option (((Unit) ⊕ (Unit)) ⊕ (Int)) :=
  (if (decide (s171 < (a0.fASNs.length : Int))) = true then
  (idx a0.fASNs s171).bind fun x197 =>
  jn (fun m201 : Bool =>
  (if m201 = true then
  some (.inl (.inl ()))
  else
  some (.inr (w64 (s171 + (1 : Int)))))) (fun j202 =>
  (if (((decide (x197.fFrom < (0 : Int))) || (decide (x197.fTo < x197.fFrom))) || (decide ((4294967295 : Int) < x197.fTo))) = true then
  j202 true
  else
  (if (decide ((0 : Int) < s171)) = true then
  (idx a0.fASNs (w64 (s171 - (1 : Int)))).bind fun x206 =>
  j202 (decide ((w64 (x197.fFrom - (1 : Int))) ≤ x206.fTo))
  else
  j202 false)))
  else
  some (.inl (.inr ())))
noncomputable def exchangepointref21_Valid (a0 : api_Resources) : Option (Bool) :=
  (loop (exchangepointref21_Valid_L0 a0) (0 : Int)).bind fun x169 => match x169 with
  | (.inl _) =>
    some false
  | (.inr _) =>
    (loop (exchangepointref21_Valid_L1 a0) (0 : Int)).bind fun x207 => match x207 with
    | (.inl _) =>
      some false
    | (.inr _) =>
      some ((decide ((a0.fAddrs.length : Int) ≤ (256 : Int))) && (decide ((a0.fASNs.length : Int) ≤ (256 : Int))))
set_option maxHeartbeats 4000000 in
set_option maxRecDepth 100000 in
theorem exchangepointref21_Valid_ac (a0 : api_Resources) (r : Bool) (h : exchangepointref21_Valid a0 = some r) : AC Tryd.prog 21 [(.d (e_api_Resources a0))] [] (.d (.bool r)) [] := by
  refine AC.of_code2 Tryd.func21 rfl rfl (Nat.le_of_ble_eq_true (by rfl)) fun B hB hN => ?_
  have L {d : Nat} (h : Nat.blt d Tryd.f21.ntmps = true) : d < B.N := ltN hN h
  delta exchangepointref21_Valid at h
  refine sr (cg (OpJ.box hB (nm := 1001) (by decide) (by simp) rfl (L rfl) (q 0)) rfl (c (OpJ.assign (L rfl) (Opd.bool false)) rfl cn)) ?_
  refine gh [(1, _)] [(1001, some _)] hB rfl rfl (by rfl) ?_
  refine AWp.seq ?_
  refine sr (c (ov (.ptr 1001 0 [0]) (fp hN Tryd.underlying28 0 tyS25 _ (q 1))) rfl (c (lb hN 28 _ _ tyS25 (ad _) (q 10)) rfl (c (OpJ.val (v' := (i6 (a0.fAddrs.length : Int))) (by simp) (OpJ.lenD Tryd.underlying25 (L rfl) (q 11))) rfl (c (mv hN (Opd.int .i64 (0))) rfl cn)))) ?_
  refine gh [(1, _), (11, _), (12, _), (13, _)] [(1001, some _)] hB rfl rfl (by rfl) ?_
  refine AWp.block ?_
  obtain ⟨x169, hx170, h⟩ := bindS h
  refine lg (exchangepointref21_Valid_L0 a0) (fun s1 : Int => ([(1, (.ptr 1001 0 [])), (11, (qe_api_Range_6 a0.fAddrs)), (12, (i6 (a0.fAddrs.length : Int))), (13, (i6 s1))] : EL)) (fun s1 : Int => ([(1001, some (.box 28 (.d (e_api_Resources a0))))] : OL)) (fun (x : (Unit) ⊕ (Unit)) e E' O' => match x with | (.inl _p) => e = .ret ∧ Mat B E' O' ([(2, (bo false))] : EL) ([] : OL) | (.inr _p) => e = .exit 0 ∧ Mat B E' O' ([(1, (.ptr 1001 0 []))] : EL) ([(1001, some (.box 28 (.d (e_api_Resources a0))))] : OL)) hx170 (mp [] _ _ hB) (fun s1 y h => ?_) (fun e E' O' hR => ?_)
  · unfold exchangepointref21_Valid_L0 at h
    refine sr (c (OpJ.lss (L rfl) (q 13) (q 12)) rfl cn) ?_
    refine gh [(1, _), (11, _), (12, _), (13, _), (14, _)] [(1001, some _)] hB rfl rfl (by rfl) ?_
    refine AWp.seq ?_
    refine AWp.cond rfl (fun hg114 => ?_) (fun hg114 => ?_)
    · replace h := ite_t hg114 h
      refine AWp.skip ?_
      refine seqQ_n ?_
      refine AWp.seq ?_
      refine AWp.cut h (fun _ : Unit => ([(1, (.ptr 1001 0 [])), (11, (qe_api_Range_6 a0.fAddrs)), (12, (i6 (a0.fAddrs.length : Int))), (13, (i6 s1))] : EL)) (fun _ : Unit => ([(1001, some (.box 28 (.d (e_api_Resources a0))))] : OL)) (fun _m h E' O' hmat => ?_) (fun j142 hjj142 h => ?_)
      · refine seqQ_n ?_
        refine AWp.ghost hmat ?_
        refine rg (c (add6 (L rfl) (q 13) (Opd.int .i64 (1))) rfl (c (mv hN (q 73)) rfl cn)) ?_
        obtain rfl := Option.some.inj h
        exact ⟨rfl, (Mat.trans (mp [] [(1, (.ptr 1001 0 [])), (11, (qe_api_Range_6 a0.fAddrs)), (12, (i6 (a0.fAddrs.length : Int))), (13, (i6 (w64 (s1 + (1 : Int)))))] [(1001, some (.box 28 (.d (e_api_Resources a0))))] hB) (mp [] _ _ hB))⟩
      · refine AWp.block ?_
        obtain ⟨x143, hx143, h⟩ := bindS h
        refine sr (c (mv hN (q 13)) rfl (c (OpJ.indexD Tryd.underlying25 tyS68 (idx_some hx143).1 (get_map e_api_Range (idx_some hx143).2) (L rfl) (q 11) (q 13)) rfl (c (OpJ.loadD tyS68 (by rfl) (by rfl) (L rfl) (q 16)) rfl (cg (OpJ.alloc hB tyZ68 (nm := 1004) (by decide) (L rfl)) rfl (c (OpJ.assign (L rfl) (q 15)) rfl (cg (OpJ.storeB tyS68 (SetAt.here _ _) (by rfl) (by rfl) (by simp) rfl (q 4) (q 17)) rfl cn)))))) ?_
        refine gh [(1, _), (3, _), (4, _), (11, _), (12, _), (13, _)] [(1001, some _), (1004, some _)] hB rfl rfl (by rfl) ?_
        refine AWp.seq ?_
        refine AWp.seq ?_
        refine AWp.cut h (fun m150 : Bool => ([(1, (.ptr 1001 0 [])), (3, (i6 s1)), (4, (.ptr 1004 0 [])), (11, (qe_api_Range_6 a0.fAddrs)), (12, (i6 (a0.fAddrs.length : Int))), (13, (i6 s1)), (44, (bo m150))] : EL)) (fun m150 : Bool => ([(1001, some (.box 28 (.d (e_api_Resources a0)))), (1004, some (.box 68 (.d (e_api_Range x143))))] : OL)) (fun m150 h E' O' hmat => ?_) (fun j151 hjj151 h => ?_)
        · refine seqQ_n ?_
          refine AWp.ghost hmat ?_
          refine AWp.cond rfl (fun hg152 => ?_) (fun hg152 => ?_)
          · replace h := ite_t hg152 h
            refine sr (c (OpJ.assign (L rfl) (Opd.bool false)) rfl cn) ?_
            refine gh [(2, _)] [] hB rfl rfl (by rfl) ?_
            refine AWp.ret ?_
            refine seqQ_r ?_
            refine blkQ_r ?_
            refine seqQ_r ?_
            obtain rfl := Option.some.inj h
            exact ⟨(fun hc => by cases hc), rfl, (mp [] _ _ hB)⟩
          · replace h := ite_f hg152 h
            refine AWp.skip ?_
            refine seqQ_n ?_
            refine AWp.seq ?_
            refine sr (c (mv hN (q 3)) rfl (c (OpJ.eqlI (L rfl) (q 45) (Opd.int .i64 (0))) rfl cn)) ?_
            refine gh [(1, _), (3, _), (4, _), (11, _), (12, _), (13, _), (46, _)] [(1001, some _), (1004, some _)] hB rfl rfl (by rfl) ?_
            refine AWp.cond rfl (fun hg153 => ?_) (fun hg153 => ?_)
            · replace h := ite_t hg153 h
              refine AWp.exit ?_
              refine seqQ_e ?_
              refine blkQ_hit ?_
              exact hjj142 _ h _ _ (mp [] _ _ hB)
            · replace h := ite_f hg153 h
              refine AWp.skip ?_
              refine seqQ_n ?_
              obtain ⟨x154, hx154, h⟩ := bindS h
              refine sr (c (ov (.ptr 1001 0 [0]) (fp hN Tryd.underlying28 0 tyS25 _ (q 1))) rfl (c (lb hN 28 _ _ tyS25 (ad _) (q 47)) rfl (c (mv hN (q 3)) rfl (c (sub6 (L rfl) (q 49) (Opd.int .i64 (1))) rfl (c (OpJ.indexD Tryd.underlying25 tyS68 (idx_some hx154).1 (get_map e_api_Range (idx_some hx154).2) (L rfl) (q 48) (q 50)) rfl (c (OpJ.fieldD Tryd.underlying68 (by rfl) (o := 3) (by rfl) tyS32 (by decide) (by rfl) (by rfl) (L rfl) (q 51)) rfl (c (OpJ.loadD tyS32 (by rfl) (by rfl) (L rfl) (q 52)) rfl (cg (OpJ.alloc hB tyZ32 (nm := 1005) (by decide) (L rfl)) rfl (cg (OpJ.storeB tyS32 (SetAt.here _ _) (by rfl) (by rfl) (by simp) rfl (q 5) (q 53)) rfl cn))))))))) ?_
              refine gh [(1, _), (4, _), (5, _), (11, _), (12, _), (13, _)] [(1001, some _), (1004, some _), (1005, some _)] hB rfl rfl (by rfl) ?_
              obtain ⟨r155, hr155, h⟩ := bindS h
              refine sr (c (lb hN 32 _ _ tyS32 (At.here _) (q 5)) rfl (cg (OpJ.callFn hB fnOk45 (exchangepointref01_Next_ac x154.fTo r155 hr155) [] (by kernel_rfl) (L rfl) (by kernel_rfl) (OpdL.cons (q 55) OpdL.nil)) rfl (c (mv hN (q 56)) rfl (c (OpJ.extract (by rfl) rfl (L rfl) (q 54)) rfl (c (OpJ.extract (by rfl) rfl (L rfl) (q 54)) rfl (cg (OpJ.alloc hB tyZ32 (nm := 1006) (by decide) (L rfl)) rfl (cg (OpJ.storeB tyS32 (SetAt.here _ _) (by rfl) (by rfl) (by simp) rfl (q 6) (q 57)) rfl (c (OpJ.assign (L rfl) (q 58)) rfl cn)))))))) ?_
              refine gh [(1, _), (4, _), (5, _), (6, _), (7, _), (11, _), (12, _), (13, _)] [(1001, some _), (1004, some _), (1005, some _), (1006, some _)] hB rfl rfl (by rfl) ?_
              refine AWp.seq ?_
              refine AWp.cut h (fun m159 : Bool => ([(1, (.ptr 1001 0 [])), (11, (qe_api_Range_6 a0.fAddrs)), (12, (i6 (a0.fAddrs.length : Int))), (13, (i6 s1)), (72, (bo m159))] : EL)) (fun m159 : Bool => ([(1001, some (.box 28 (.d (e_api_Resources a0))))] : OL)) (fun m159 h E' O' hmat => ?_) (fun j160 hjj160 h => ?_)
              · refine seqQ_n ?_
                refine AWp.ghost hmat ?_
                refine AWp.cond rfl (fun hg161 => ?_) (fun hg161 => ?_)
                · replace h := ite_t hg161 h
                  refine sr (c (OpJ.assign (L rfl) (Opd.bool false)) rfl cn) ?_
                  refine gh [(2, _)] [] hB rfl rfl (by rfl) ?_
                  refine AWp.ret ?_
                  refine blkQ_r ?_
                  refine seqQ_r ?_
                  obtain rfl := Option.some.inj h
                  exact ⟨(fun hc => by cases hc), rfl, (mp [] _ _ hB)⟩
                · replace h := ite_f hg161 h
                  refine AWp.skip ?_
                  refine blkQ_n ?_
                  exact hjj142 _ h _ _ (mp [] _ _ hB)
              · obtain ⟨r162, hr162, h⟩ := bindS h
                rcases Bool.eq_false_or_eq_true (decide ((0 : Int) ≤ r162)) with hg163 | hg163
                · replace h := ite_t hg163 h
                  refine rg (c (lb hN 32 _ _ tyS32 (At.here _) (q 5)) rfl (c (ov (.ptr 1004 0 [0]) (fp hN Tryd.underlying68 0 tyS32 _ (q 4))) rfl (c (lb hN 68 _ _ tyS32 (ad _) (q 60)) rfl (cg (OpJ.callFn hB fnOk41 (exchangepointref01_Cmp_ac x154.fTo x143.fFrom r162 hr162) [] (by kernel_rfl) (L rfl) (by kernel_rfl) (OpdL.cons (q 59) (OpdL.cons (q 61) OpdL.nil))) rfl (c (OpJ.geq (L rfl) (q 62) (Opd.int .i64 (0))) rfl (c (OpJ.val (v' := .d (.bool true)) (by rw [hg163] <;> rfl) (mv hN (q 63))) rfl (cg (OpJ.skipU (g := 64) (L rfl) (by rfl)) rfl (cg (OpJ.skipU (g := 64) (L rfl) (by rfl)) rfl (cg (OpJ.skipV (g := 66) (L rfl) (by rfl)) rfl (cg (OpJ.skipV (g := 66) (L rfl) (by rfl)) rfl (cg (OpJ.skipV (g := 66) (L rfl) (by rfl)) rfl (cg (OpJ.skipV (g := 66) (L rfl) (by rfl)) rfl (cg (OpJ.skipU (g := 64) (L rfl) (by rfl)) rfl (c (OpJ.pickT (L rfl) (q 64) (Opd.bool true)) rfl cn)))))))))))))) ?_
                  exact hjj160 _ h _ _ (Mat.trans (mp [] [(1, (.ptr 1001 0 [])), (11, (qe_api_Range_6 a0.fAddrs)), (12, (i6 (a0.fAddrs.length : Int))), (13, (i6 s1)), (72, (bo true))] [(1001, some (.box 28 (.d (e_api_Resources a0))))] hB) (mp [] _ _ hB))
                · replace h := ite_f hg163 h
                  refine rg (c (lb hN 32 _ _ tyS32 (At.here _) (q 5)) rfl (c (ov (.ptr 1004 0 [0]) (fp hN Tryd.underlying68 0 tyS32 _ (q 4))) rfl (c (lb hN 68 _ _ tyS32 (ad _) (q 60)) rfl (cg (OpJ.callFn hB fnOk41 (exchangepointref01_Cmp_ac x154.fTo x143.fFrom r162 hr162) [] (by kernel_rfl) (L rfl) (by kernel_rfl) (OpdL.cons (q 59) (OpdL.cons (q 61) OpdL.nil))) rfl (c (OpJ.geq (L rfl) (q 62) (Opd.int .i64 (0))) rfl (c (OpJ.val (v' := .d (.bool false)) (by rw [hg163] <;> rfl) (mv hN (q 63))) rfl (c (OpJ.guarded (g := 64) (by rfl) (mv hN (q 7))) rfl (c (OpJ.guarded (g := 64) (by rfl) (mv hN (q 65))) rfl (c (oq hN 66 (lb hN 32 _ _ tyS32 (At.here _) (q 6)) (OptL.keep (by rfl) OptL.nil) (GuardV.plain _)) rfl (c (oq hN 66 (ov (.ptr 1004 0 [0]) (fp hN Tryd.underlying68 0 tyS32 _ (q 4))) (OptL.keep (by rfl) OptL.nil) (GuardV.plain _)) rfl (c (oq hN 66 (lb hN 68 _ _ tyS32 (ad _) (q 68)) (OptL.opt OptL.nil) (GuardV.plain _)) rfl (c (oq hN 66 (OpJ.eqlD (h := 2) (FitE.st Tryd.underlying32 rfl held32 (FitF.cons (x := (.bool r155.1.fV6)) (y := (.bool x143.fFrom.fV6)) (by decide) rfl tyS4 ⟨rfl, rfl⟩ ⟨rfl, rfl⟩ (FitE.bool (h := 0) r155.1.fV6 x143.fFrom.fV6 Tryd.underlying4) (FitF.cons (x := (.int .u64 r155.1.fHi)) (y := (.int .u64 x143.fFrom.fHi)) (by decide) rfl tyS30 ⟨rfl, rfl⟩ ⟨rfl, rfl⟩ (FitE.int (h := 0) r155.1.fHi x143.fFrom.fHi Tryd.underlying30) (FitF.cons (x := (.int .u64 r155.1.fLo)) (y := (.int .u64 x143.fFrom.fLo)) (by decide) rfl tyS30 ⟨rfl, rfl⟩ ⟨rfl, rfl⟩ (FitE.int (h := 0) r155.1.fLo x143.fFrom.fLo Tryd.underlying30) FitF.nil)))) eqg32 ⟨rfl, rfl⟩ (by rfl) (L rfl) (q 67) (q 69)) (OptL.opt (OptL.opt OptL.nil)) (GuardV.plain _)) rfl (c (OpJ.guarded (g := 64) (by rfl) (OpJ.pickAnd rfl (L rfl) (q 66) (q 70))) rfl (c (OpJ.pickF (L rfl) (q 64) (q 71)) rfl cn)))))))))))))) ?_
                  exact hjj160 _ h _ _ (Mat.trans (mp [] [(1, (.ptr 1001 0 [])), (11, (qe_api_Range_6 a0.fAddrs)), (12, (i6 (a0.fAddrs.length : Int))), (13, (i6 s1)), (72, (bo (r155.2 && ((r155.1.fV6 == x143.fFrom.fV6) && ((r155.1.fHi == x143.fFrom.fHi) && ((r155.1.fLo == x143.fFrom.fLo) && true))))))] [(1001, some (.box 28 (.d (e_api_Resources a0))))] hB) (mp [] _ _ hB))
        · obtain ⟨r164, hr164, h⟩ := bindS h
          rcases Bool.eq_false_or_eq_true (!r164) with hg165 | hg165
          · replace h := ite_t hg165 h
            refine rg (c (ov (.ptr 1004 0 [0]) (fp hN Tryd.underlying68 0 tyS32 _ (q 4))) rfl (c (lb hN 68 _ _ tyS32 (ad _) (q 18)) rfl (cg (OpJ.callFn hB fnOk52 (exchangepointref01_Valid_ac x143.fFrom r164 hr164) [] (by kernel_rfl) (L rfl) (by kernel_rfl) (OpdL.cons (q 19) OpdL.nil)) rfl (c (OpJ.not (L rfl) (q 20)) rfl (c (OpJ.val (v' := .d (.bool true)) (by rw [hg165] <;> rfl) (mv hN (q 21))) rfl (cg (OpJ.skipU (g := 22) (L rfl) (by rfl)) rfl (cg (OpJ.skipU (g := 22) (L rfl) (by rfl)) rfl (cg (OpJ.skipU (g := 22) (L rfl) (by rfl)) rfl (cg (OpJ.skipU (g := 22) (L rfl) (by rfl)) rfl (c (OpJ.pickT (L rfl) (q 22) (Opd.bool true)) rfl (c (mv hN (q 27)) rfl (cg (OpJ.skipU (g := 28) (L rfl) (by rfl)) rfl (cg (OpJ.skipU (g := 28) (L rfl) (by rfl)) rfl (cg (OpJ.skipU (g := 28) (L rfl) (by rfl)) rfl (cg (OpJ.skipU (g := 28) (L rfl) (by rfl)) rfl (cg (OpJ.skipU (g := 28) (L rfl) (by rfl)) rfl (cg (OpJ.skipU (g := 28) (L rfl) (by rfl)) rfl (cg (OpJ.skipU (g := 28) (L rfl) (by rfl)) rfl (c (OpJ.pickT (L rfl) (q 28) (Opd.bool true)) rfl (c (mv hN (q 36)) rfl (cg (OpJ.skipU (g := 37) (L rfl) (by rfl)) rfl (cg (OpJ.skipU (g := 37) (L rfl) (by rfl)) rfl (cg (OpJ.skipU (g := 37) (L rfl) (by rfl)) rfl (cg (OpJ.skipU (g := 37) (L rfl) (by rfl)) rfl (cg (OpJ.skipU (g := 37) (L rfl) (by rfl)) rfl (cg (OpJ.skipU (g := 37) (L rfl) (by rfl)) rfl (c (OpJ.pickT (L rfl) (q 37) (Opd.bool true)) rfl cn))))))))))))))))))))))))))) ?_
            exact hjj151 _ h _ _ (Mat.trans (mp [] [(1, (.ptr 1001 0 [])), (3, (i6 s1)), (4, (.ptr 1004 0 [])), (11, (qe_api_Range_6 a0.fAddrs)), (12, (i6 (a0.fAddrs.length : Int))), (13, (i6 s1)), (44, (bo true))] [(1001, some (.box 28 (.d (e_api_Resources a0)))), (1004, some (.box 68 (.d (e_api_Range x143))))] hB) (mp [] _ _ hB))
          · replace h := ite_f hg165 h
            obtain ⟨r166, hr166, h⟩ := bindS h
            rcases Bool.eq_false_or_eq_true ((!r166) || (x143.fFrom.fV6 != x143.fTo.fV6)) with hg167 | hg167
            · replace h := ite_t hg167 h
              refine rg (c (ov (.ptr 1004 0 [0]) (fp hN Tryd.underlying68 0 tyS32 _ (q 4))) rfl (c (lb hN 68 _ _ tyS32 (ad _) (q 18)) rfl (cg (OpJ.callFn hB fnOk52 (exchangepointref01_Valid_ac x143.fFrom r164 hr164) [] (by kernel_rfl) (L rfl) (by kernel_rfl) (OpdL.cons (q 19) OpdL.nil)) rfl (c (OpJ.not (L rfl) (q 20)) rfl (c (OpJ.val (v' := .d (.bool false)) (by rw [hg165] <;> rfl) (mv hN (q 21))) rfl (c (OpJ.guarded (g := 22) (by rfl) (ov (.ptr 1004 3 [1]) (fp hN Tryd.underlying68 3 tyS32 _ (q 4)))) rfl (c (OpJ.guarded (g := 22) (by rfl) (lb hN 68 _ _ tyS32 (ad _) (q 23))) rfl (cg (OpJ.guarded (g := 22) (by rfl) (OpJ.callFn hB fnOk52 (exchangepointref01_Valid_ac x143.fTo r166 hr166) [] (by kernel_rfl) (L rfl) (by kernel_rfl) (OpdL.cons (q 24) OpdL.nil))) rfl (c (OpJ.guarded (g := 22) (by rfl) (OpJ.not (L rfl) (q 25))) rfl (c (OpJ.pickF (L rfl) (q 22) (q 26)) rfl (c (mv hN (q 27)) rfl (c (oq hN 28 (ov (.ptr 1004 0 [0]) (fp hN Tryd.underlying68 0 tyS32 _ (q 4))) (OptL.keep (by rfl) OptL.nil) (GuardV.plain _)) rfl (c (oq hN 28 (ov (.ptr 1004 0 [0, 0]) (fp hN Tryd.underlying32 0 tyS4 _ (q 29))) (OptL.opt OptL.nil) (GuardV.plain _)) rfl (c (oq hN 28 (lb hN 68 _ _ tyS4 (At.dst1 (by rfl) (by rfl) (ad _) (by first | rfl | omega)) (q 30)) (OptL.opt OptL.nil) (GuardV.plain _)) rfl (c (oq hN 28 (ov (.ptr 1004 3 [1]) (fp hN Tryd.underlying68 3 tyS32 _ (q 4))) (OptL.keep (by rfl) OptL.nil) (GuardV.plain _)) rfl (c (oq hN 28 (ov (.ptr 1004 3 [1, 0]) (fp hN Tryd.underlying32 0 tyS4 _ (q 32))) (OptL.opt OptL.nil) (GuardV.plain _)) rfl (c (oq hN 28 (lb hN 68 _ _ tyS4 (At.dst1 (by rfl) (by rfl) (ad _) (by first | rfl | omega)) (q 33)) (OptL.opt OptL.nil) (GuardV.plain _)) rfl (c (oq hN 28 (OpJ.neqB Tryd.underlying4 (L rfl) (q 31) (q 34)) (OptL.opt (OptL.opt OptL.nil)) (GuardV.plain _)) rfl (c (OpJ.pickOr rfl (L rfl) (q 28) (q 35)) rfl (c (OpJ.val (v' := .d (.bool true)) (by rw [hg167] <;> rfl) (mv hN (q 36))) rfl (cg (OpJ.skipU (g := 37) (L rfl) (by rfl)) rfl (cg (OpJ.skipU (g := 37) (L rfl) (by rfl)) rfl (cg (OpJ.skipU (g := 37) (L rfl) (by rfl)) rfl (cg (OpJ.skipU (g := 37) (L rfl) (by rfl)) rfl (cg (OpJ.skipU (g := 37) (L rfl) (by rfl)) rfl (cg (OpJ.skipU (g := 37) (L rfl) (by rfl)) rfl (c (OpJ.pickT (L rfl) (q 37) (Opd.bool true)) rfl cn))))))))))))))))))))))))))) ?_
              exact hjj151 _ h _ _ (Mat.trans (mp [] [(1, (.ptr 1001 0 [])), (3, (i6 s1)), (4, (.ptr 1004 0 [])), (11, (qe_api_Range_6 a0.fAddrs)), (12, (i6 (a0.fAddrs.length : Int))), (13, (i6 s1)), (44, (bo true))] [(1001, some (.box 28 (.d (e_api_Resources a0)))), (1004, some (.box 68 (.d (e_api_Range x143))))] hB) (mp [] _ _ hB))
            · replace h := ite_f hg167 h
              obtain ⟨r168, hr168, h⟩ := bindS h
              refine rg (c (ov (.ptr 1004 0 [0]) (fp hN Tryd.underlying68 0 tyS32 _ (q 4))) rfl (c (lb hN 68 _ _ tyS32 (ad _) (q 18)) rfl (cg (OpJ.callFn hB fnOk52 (exchangepointref01_Valid_ac x143.fFrom r164 hr164) [] (by kernel_rfl) (L rfl) (by kernel_rfl) (OpdL.cons (q 19) OpdL.nil)) rfl (c (OpJ.not (L rfl) (q 20)) rfl (c (OpJ.val (v' := .d (.bool false)) (by rw [hg165] <;> rfl) (mv hN (q 21))) rfl (c (OpJ.guarded (g := 22) (by rfl) (ov (.ptr 1004 3 [1]) (fp hN Tryd.underlying68 3 tyS32 _ (q 4)))) rfl (c (OpJ.guarded (g := 22) (by rfl) (lb hN 68 _ _ tyS32 (ad _) (q 23))) rfl (cg (OpJ.guarded (g := 22) (by rfl) (OpJ.callFn hB fnOk52 (exchangepointref01_Valid_ac x143.fTo r166 hr166) [] (by kernel_rfl) (L rfl) (by kernel_rfl) (OpdL.cons (q 24) OpdL.nil))) rfl (c (OpJ.guarded (g := 22) (by rfl) (OpJ.not (L rfl) (q 25))) rfl (c (OpJ.pickF (L rfl) (q 22) (q 26)) rfl (c (mv hN (q 27)) rfl (c (oq hN 28 (ov (.ptr 1004 0 [0]) (fp hN Tryd.underlying68 0 tyS32 _ (q 4))) (OptL.keep (by rfl) OptL.nil) (GuardV.plain _)) rfl (c (oq hN 28 (ov (.ptr 1004 0 [0, 0]) (fp hN Tryd.underlying32 0 tyS4 _ (q 29))) (OptL.opt OptL.nil) (GuardV.plain _)) rfl (c (oq hN 28 (lb hN 68 _ _ tyS4 (At.dst1 (by rfl) (by rfl) (ad _) (by first | rfl | omega)) (q 30)) (OptL.opt OptL.nil) (GuardV.plain _)) rfl (c (oq hN 28 (ov (.ptr 1004 3 [1]) (fp hN Tryd.underlying68 3 tyS32 _ (q 4))) (OptL.keep (by rfl) OptL.nil) (GuardV.plain _)) rfl (c (oq hN 28 (ov (.ptr 1004 3 [1, 0]) (fp hN Tryd.underlying32 0 tyS4 _ (q 32))) (OptL.opt OptL.nil) (GuardV.plain _)) rfl (c (oq hN 28 (lb hN 68 _ _ tyS4 (At.dst1 (by rfl) (by rfl) (ad _) (by first | rfl | omega)) (q 33)) (OptL.opt OptL.nil) (GuardV.plain _)) rfl (c (oq hN 28 (OpJ.neqB Tryd.underlying4 (L rfl) (q 31) (q 34)) (OptL.opt (OptL.opt OptL.nil)) (GuardV.plain _)) rfl (c (OpJ.pickOr rfl (L rfl) (q 28) (q 35)) rfl (c (OpJ.val (v' := .d (.bool false)) (by rw [hg167] <;> rfl) (mv hN (q 36))) rfl (c (OpJ.guarded (g := 37) (by rfl) (ov (.ptr 1004 0 [0]) (fp hN Tryd.underlying68 0 tyS32 _ (q 4)))) rfl (c (OpJ.guarded (g := 37) (by rfl) (lb hN 68 _ _ tyS32 (ad _) (q 38))) rfl (c (OpJ.guarded (g := 37) (by rfl) (ov (.ptr 1004 3 [1]) (fp hN Tryd.underlying68 3 tyS32 _ (q 4)))) rfl (c (OpJ.guarded (g := 37) (by rfl) (lb hN 68 _ _ tyS32 (ad _) (q 40))) rfl (cg (OpJ.guarded (g := 37) (by rfl) (OpJ.callFn hB fnOk41 (exchangepointref01_Cmp_ac x143.fFrom x143.fTo r168 hr168) [] (by kernel_rfl) (L rfl) (by kernel_rfl) (OpdL.cons (q 39) (OpdL.cons (q 41) OpdL.nil)))) rfl (c (OpJ.guarded (g := 37) (by rfl) (OpJ.gtr (L rfl) (q 42) (Opd.int .i64 (0)))) rfl (c (OpJ.pickF (L rfl) (q 37) (q 43)) rfl cn))))))))))))))))))))))))))) ?_
              exact hjj151 _ h _ _ (Mat.trans (mp [] [(1, (.ptr 1001 0 [])), (3, (i6 s1)), (4, (.ptr 1004 0 [])), (11, (qe_api_Range_6 a0.fAddrs)), (12, (i6 (a0.fAddrs.length : Int))), (13, (i6 s1)), (44, (bo (decide ((0 : Int) < r168))))] [(1001, some (.box 28 (.d (e_api_Resources a0)))), (1004, some (.box 68 (.d (e_api_Range x143))))] hB) (mp [] _ _ hB))
    · replace h := ite_f hg114 h
      refine AWp.exit ?_
      refine seqQ_e ?_
      obtain rfl := Option.some.inj h
      exact ⟨(fun hc => by cases hc), rfl, (mp [] _ _ hB)⟩
  · rcases x169 with _ | _
    · obtain ⟨rfl, hmat⟩ := hR
      refine blkQ_r ?_
      refine seqQ_r ?_
      obtain rfl := Option.some.inj h
      exact ⟨.inl rfl, _, _, (Mat.trans hmat (mp [] [(2, (bo false))] [] hB)), [(bo false)], (Res.tmp (by rfl) (by rfl) Res.nil), rfl, by rfl, by rfl, by rfl⟩
    · obtain ⟨rfl, hmat⟩ := hR
      refine blkQ_hit ?_
      refine seqQ_n ?_
      refine AWp.ghost hmat ?_
      refine AWp.seq ?_
      refine sr (c (ov (.ptr 1001 1 [1]) (fp hN Tryd.underlying28 1 tyS26 _ (q 1))) rfl (c (lb hN 28 _ _ tyS26 (ad _) (q 74)) rfl (c (OpJ.val (v' := (i6 (a0.fASNs.length : Int))) (by simp) (OpJ.lenD Tryd.underlying26 (L rfl) (q 75))) rfl (c (mv hN (Opd.int .i64 (0))) rfl cn)))) ?_
      refine gh [(1, _), (75, _), (76, _), (77, _)] [(1001, some _)] hB rfl rfl (by rfl) ?_
      refine AWp.block ?_
      obtain ⟨x207, hx208, h⟩ := bindS h
      refine lg (exchangepointref21_Valid_L1 a0) (fun s171 : Int => ([(1, (.ptr 1001 0 [])), (75, (qe_api_Span_2 a0.fASNs)), (76, (i6 (a0.fASNs.length : Int))), (77, (i6 s171))] : EL)) (fun s171 : Int => ([(1001, some (.box 28 (.d (e_api_Resources a0))))] : OL)) (fun (x : (Unit) ⊕ (Unit)) e E' O' => match x with | (.inl _p) => e = .ret ∧ Mat B E' O' ([(2, (bo false))] : EL) ([] : OL) | (.inr _p) => e = .exit 2 ∧ Mat B E' O' ([(1, (.ptr 1001 0 []))] : EL) ([(1001, some (.box 28 (.d (e_api_Resources a0))))] : OL)) hx208 (mp [] _ _ hB) (fun s171 y h => ?_) (fun e E' O' hR => ?_)
      · unfold exchangepointref21_Valid_L1 at h
        refine sr (c (OpJ.lss (L rfl) (q 77) (q 76)) rfl cn) ?_
        refine gh [(1, _), (75, _), (76, _), (77, _), (78, _)] [(1001, some _)] hB rfl rfl (by rfl) ?_
        refine AWp.seq ?_
        refine AWp.cond rfl (fun hg196 => ?_) (fun hg196 => ?_)
        · replace h := ite_t hg196 h
          refine AWp.skip ?_
          refine seqQ_n ?_
          refine AWp.seq ?_
          refine AWp.block ?_
          obtain ⟨x197, hx197, h⟩ := bindS h
          refine sr (c (mv hN (q 77)) rfl (c (OpJ.indexD Tryd.underlying26 tyS48 (idx_some hx197).1 (get_map e_api_Span (idx_some hx197).2) (L rfl) (q 75) (q 77)) rfl (c (OpJ.loadD tyS48 (by rfl) (by rfl) (L rfl) (q 80)) rfl (cg (OpJ.alloc hB tyZ48 (nm := 1009) (by decide) (L rfl)) rfl (c (OpJ.assign (L rfl) (q 79)) rfl (cg (OpJ.storeB tyS48 (SetAt.here _ _) (by rfl) (by rfl) (by simp) rfl (q 9) (q 81)) rfl cn)))))) ?_
          refine gh [(1, _), (8, _), (9, _), (75, _), (76, _), (77, _)] [(1001, some _), (1009, some _)] hB rfl rfl (by rfl) ?_
          refine AWp.seq ?_
          refine AWp.cut h (fun m201 : Bool => ([(1, (.ptr 1001 0 [])), (75, (qe_api_Span_2 a0.fASNs)), (76, (i6 (a0.fASNs.length : Int))), (77, (i6 s171)), (113, (bo m201))] : EL)) (fun m201 : Bool => ([(1001, some (.box 28 (.d (e_api_Resources a0))))] : OL)) (fun m201 h E' O' hmat => ?_) (fun j202 hjj202 h => ?_)
          · refine seqQ_n ?_
            refine AWp.ghost hmat ?_
            refine AWp.cond rfl (fun hg203 => ?_) (fun hg203 => ?_)
            · replace h := ite_t hg203 h
              refine sr (c (OpJ.assign (L rfl) (Opd.bool false)) rfl cn) ?_
              refine gh [(2, _)] [] hB rfl rfl (by rfl) ?_
              refine AWp.ret ?_
              refine blkQ_r ?_
              refine seqQ_r ?_
              obtain rfl := Option.some.inj h
              exact ⟨(fun hc => by cases hc), rfl, (mp [] _ _ hB)⟩
            · replace h := ite_f hg203 h
              refine AWp.skip ?_
              refine blkQ_n ?_
              refine seqQ_n ?_
              refine rg (c (add6 (L rfl) (q 77) (Opd.int .i64 (1))) rfl (c (mv hN (q 114)) rfl cn)) ?_
              obtain rfl := Option.some.inj h
              exact ⟨rfl, (Mat.trans (mp [] [(1, (.ptr 1001 0 [])), (75, (qe_api_Span_2 a0.fASNs)), (76, (i6 (a0.fASNs.length : Int))), (77, (i6 (w64 (s171 + (1 : Int)))))] [(1001, some (.box 28 (.d (e_api_Resources a0))))] hB) (mp [] _ _ hB))⟩
          · rcases Bool.eq_false_or_eq_true (((decide (x197.fFrom < (0 : Int))) || (decide (x197.fTo < x197.fFrom))) || (decide ((4294967295 : Int) < x197.fTo))) with hg204 | hg204
            · replace h := ite_t hg204 h
              refine dr (c (ov (.ptr 1009 0 [0]) (fp hN Tryd.underlying48 0 tyS3 _ (q 9))) rfl (c (lb hN 48 _ _ tyS3 (ad _) (q 82)) rfl (c (OpJ.lss (L rfl) (q 83) (Opd.int .i64 (0))) rfl (c (mv hN (q 84)) rfl (c (oq hN 85 (ov (.ptr 1009 0 [0]) (fp hN Tryd.underlying48 0 tyS3 _ (q 9))) (OptL.keep (by rfl) OptL.nil) (GuardV.plain _)) rfl (c (oq hN 85 (lb hN 48 _ _ tyS3 (ad _) (q 86)) (OptL.opt OptL.nil) (GuardV.plain _)) rfl (c (oq hN 85 (ov (.ptr 1009 1 [1]) (fp hN Tryd.underlying48 1 tyS3 _ (q 9))) (OptL.keep (by rfl) OptL.nil) (GuardV.plain _)) rfl (c (oq hN 85 (lb hN 48 _ _ tyS3 (ad _) (q 88)) (OptL.opt OptL.nil) (GuardV.plain _)) rfl (c (oq hN 85 (OpJ.gtr (L rfl) (q 87) (q 89)) (OptL.opt (OptL.opt OptL.nil)) (GuardV.plain _)) rfl (c (OpJ.pickOr rfl (L rfl) (q 85) (q 90)) rfl (c (mv hN (q 91)) rfl (c (oq hN 92 (ov (.ptr 1009 1 [1]) (fp hN Tryd.underlying48 1 tyS3 _ (q 9))) (OptL.keep (by rfl) OptL.nil) (GuardV.plain _)) rfl (c (oq hN 92 (lb hN 48 _ _ tyS3 (ad _) (q 93)) (OptL.opt OptL.nil) (GuardV.plain _)) rfl (c (oq hN 92 (OpJ.gtr (L rfl) (q 94) (Opd.int .i64 (4294967295))) (OptL.opt OptL.nil) (GuardV.plain _)) rfl (c (OpJ.pickOr rfl (L rfl) (q 92) (q 95)) rfl (c (OpJ.val (v' := .d (.bool true)) (by rw [hg204] <;> rfl) (mv hN (q 96))) rfl (cg (OpJ.skipU (g := 97) (L rfl) (by rfl)) rfl (cg (OpJ.skipU (g := 97) (L rfl) (by rfl)) rfl (cg (OpJ.skipU (g := 97) (L rfl) (by rfl)) rfl (cg (OpJ.skipV (g := 100) (L rfl) (by rfl)) rfl (cg (OpJ.skipV (g := 100) (L rfl) (by rfl)) rfl (cg (OpJ.skipV (g := 100) (L rfl) (by rfl)) rfl (cg (OpJ.skipV (g := 100) (L rfl) (by rfl)) rfl (cg (OpJ.skipV (g := 100) (L rfl) (by rfl)) rfl (cg (OpJ.skipV (g := 100) (L rfl) (by rfl)) rfl (cg (OpJ.skipV (g := 100) (L rfl) (by rfl)) rfl (cg (OpJ.skipV (g := 100) (L rfl) (by rfl)) rfl (cg (OpJ.skipV (g := 100) (L rfl) (by rfl)) rfl (cg (OpJ.skipV (g := 100) (L rfl) (by rfl)) rfl (cg (OpJ.skipV (g := 100) (L rfl) (by rfl)) rfl (cg (OpJ.skipU (g := 97) (L rfl) (by rfl)) rfl (c (OpJ.pickT (L rfl) (q 97) (Opd.bool true)) rfl cn)))))))))))))))))))))))))))))))) (by kernel_rfl) (by kernel_rfl) ?_
              exact hjj202 _ h _ _ (Mat.trans (mp [] [(1, (.ptr 1001 0 [])), (75, (qe_api_Span_2 a0.fASNs)), (76, (i6 (a0.fASNs.length : Int))), (77, (i6 s171)), (113, (bo true))] [(1001, some (.box 28 (.d (e_api_Resources a0))))] hB) (mp [] _ _ hB))
            · replace h := ite_f hg204 h
              rcases Bool.eq_false_or_eq_true (decide ((0 : Int) < s171)) with hg205 | hg205
              · replace h := ite_t hg205 h
                obtain ⟨x206, hx206, h⟩ := bindS h
                refine dr (c (ov (.ptr 1009 0 [0]) (fp hN Tryd.underlying48 0 tyS3 _ (q 9))) rfl (c (lb hN 48 _ _ tyS3 (ad _) (q 82)) rfl (c (OpJ.lss (L rfl) (q 83) (Opd.int .i64 (0))) rfl (c (mv hN (q 84)) rfl (c (oq hN 85 (ov (.ptr 1009 0 [0]) (fp hN Tryd.underlying48 0 tyS3 _ (q 9))) (OptL.keep (by rfl) OptL.nil) (GuardV.plain _)) rfl (c (oq hN 85 (lb hN 48 _ _ tyS3 (ad _) (q 86)) (OptL.opt OptL.nil) (GuardV.plain _)) rfl (c (oq hN 85 (ov (.ptr 1009 1 [1]) (fp hN Tryd.underlying48 1 tyS3 _ (q 9))) (OptL.keep (by rfl) OptL.nil) (GuardV.plain _)) rfl (c (oq hN 85 (lb hN 48 _ _ tyS3 (ad _) (q 88)) (OptL.opt OptL.nil) (GuardV.plain _)) rfl (c (oq hN 85 (OpJ.gtr (L rfl) (q 87) (q 89)) (OptL.opt (OptL.opt OptL.nil)) (GuardV.plain _)) rfl (c (OpJ.pickOr rfl (L rfl) (q 85) (q 90)) rfl (c (mv hN (q 91)) rfl (c (oq hN 92 (ov (.ptr 1009 1 [1]) (fp hN Tryd.underlying48 1 tyS3 _ (q 9))) (OptL.keep (by rfl) OptL.nil) (GuardV.plain _)) rfl (c (oq hN 92 (lb hN 48 _ _ tyS3 (ad _) (q 93)) (OptL.opt OptL.nil) (GuardV.plain _)) rfl (c (oq hN 92 (OpJ.gtr (L rfl) (q 94) (Opd.int .i64 (4294967295))) (OptL.opt OptL.nil) (GuardV.plain _)) rfl (c (OpJ.pickOr rfl (L rfl) (q 92) (q 95)) rfl (c (OpJ.val (v' := .d (.bool false)) (by rw [hg204] <;> rfl) (mv hN (q 96))) rfl (c (OpJ.guarded (g := 97) (by rfl) (mv hN (q 8))) rfl (c (OpJ.guarded (g := 97) (by rfl) (OpJ.gtr (L rfl) (q 98) (Opd.int .i64 (0)))) rfl (c (OpJ.guarded (g := 97) (by rfl) (OpJ.val (v' := .d (.bool true)) (by rw [hg205] <;> rfl) (mv hN (q 99)))) rfl (c (OpJ.guarded (g := 100) (by rfl) (ov (.ptr 1001 1 [1]) (fp hN Tryd.underlying28 1 tyS26 _ (q 1)))) rfl (c (OpJ.guarded (g := 100) (by rfl) (lb hN 28 _ _ tyS26 (ad _) (q 101))) rfl (c (OpJ.guarded (g := 100) (by rfl) (mv hN (q 8))) rfl (c (OpJ.guarded (g := 100) (by rfl) (sub6 (L rfl) (q 103) (Opd.int .i64 (1)))) rfl (c (OpJ.guarded (g := 100) (by rfl) (OpJ.indexD Tryd.underlying26 tyS48 (idx_some hx206).1 (get_map e_api_Span (idx_some hx206).2) (L rfl) (q 102) (q 104))) rfl (c (OpJ.guarded (g := 100) (by rfl) (OpJ.fieldD Tryd.underlying48 (by rfl) (o := 1) (by rfl) tyS3 (by decide) (by rfl) (by rfl) (L rfl) (q 105))) rfl (c (OpJ.guarded (g := 100) (by rfl) (OpJ.loadD tyS3 (by rfl) (by rfl) (L rfl) (q 106))) rfl (c (OpJ.guarded (g := 100) (by rfl) (ov (.ptr 1009 0 [0]) (fp hN Tryd.underlying48 0 tyS3 _ (q 9)))) rfl (c (OpJ.guarded (g := 100) (by rfl) (lb hN 48 _ _ tyS3 (ad _) (q 108))) rfl (c (OpJ.guarded (g := 100) (by rfl) (sub6 (L rfl) (q 109) (Opd.int .i64 (1)))) rfl (c (OpJ.guarded (g := 100) (by rfl) (OpJ.geq (L rfl) (q 107) (q 110))) rfl (c (OpJ.guarded (g := 97) (by rfl) (OpJ.pickT (L rfl) (q 100) (q 111))) rfl (c (OpJ.pickF (L rfl) (q 97) (q 112)) rfl cn)))))))))))))))))))))))))))))))) (by kernel_rfl) (by kernel_rfl) ?_
                exact hjj202 _ h _ _ (Mat.trans (mp [] [(1, (.ptr 1001 0 [])), (75, (qe_api_Span_2 a0.fASNs)), (76, (i6 (a0.fASNs.length : Int))), (77, (i6 s171)), (113, (bo (decide ((w64 (x197.fFrom - (1 : Int))) ≤ x206.fTo))))] [(1001, some (.box 28 (.d (e_api_Resources a0))))] hB) (mp [] _ _ hB))
              · replace h := ite_f hg205 h
                refine dr (c (ov (.ptr 1009 0 [0]) (fp hN Tryd.underlying48 0 tyS3 _ (q 9))) rfl (c (lb hN 48 _ _ tyS3 (ad _) (q 82)) rfl (c (OpJ.lss (L rfl) (q 83) (Opd.int .i64 (0))) rfl (c (mv hN (q 84)) rfl (c (oq hN 85 (ov (.ptr 1009 0 [0]) (fp hN Tryd.underlying48 0 tyS3 _ (q 9))) (OptL.keep (by rfl) OptL.nil) (GuardV.plain _)) rfl (c (oq hN 85 (lb hN 48 _ _ tyS3 (ad _) (q 86)) (OptL.opt OptL.nil) (GuardV.plain _)) rfl (c (oq hN 85 (ov (.ptr 1009 1 [1]) (fp hN Tryd.underlying48 1 tyS3 _ (q 9))) (OptL.keep (by rfl) OptL.nil) (GuardV.plain _)) rfl (c (oq hN 85 (lb hN 48 _ _ tyS3 (ad _) (q 88)) (OptL.opt OptL.nil) (GuardV.plain _)) rfl (c (oq hN 85 (OpJ.gtr (L rfl) (q 87) (q 89)) (OptL.opt (OptL.opt OptL.nil)) (GuardV.plain _)) rfl (c (OpJ.pickOr rfl (L rfl) (q 85) (q 90)) rfl (c (mv hN (q 91)) rfl (c (oq hN 92 (ov (.ptr 1009 1 [1]) (fp hN Tryd.underlying48 1 tyS3 _ (q 9))) (OptL.keep (by rfl) OptL.nil) (GuardV.plain _)) rfl (c (oq hN 92 (lb hN 48 _ _ tyS3 (ad _) (q 93)) (OptL.opt OptL.nil) (GuardV.plain _)) rfl (c (oq hN 92 (OpJ.gtr (L rfl) (q 94) (Opd.int .i64 (4294967295))) (OptL.opt OptL.nil) (GuardV.plain _)) rfl (c (OpJ.pickOr rfl (L rfl) (q 92) (q 95)) rfl (c (OpJ.val (v' := .d (.bool false)) (by rw [hg204] <;> rfl) (mv hN (q 96))) rfl (c (OpJ.guarded (g := 97) (by rfl) (mv hN (q 8))) rfl (c (OpJ.guarded (g := 97) (by rfl) (OpJ.gtr (L rfl) (q 98) (Opd.int .i64 (0)))) rfl (c (OpJ.guarded (g := 97) (by rfl) (OpJ.val (v' := .d (.bool false)) (by rw [hg205] <;> rfl) (mv hN (q 99)))) rfl (cg (OpJ.skipU (g := 100) (L rfl) (by rfl)) rfl (cg (OpJ.skipU (g := 100) (L rfl) (by rfl)) rfl (cg (OpJ.skipU (g := 100) (L rfl) (by rfl)) rfl (cg (OpJ.skipU (g := 100) (L rfl) (by rfl)) rfl (cg (OpJ.skipU (g := 100) (L rfl) (by rfl)) rfl (cg (OpJ.skipU (g := 100) (L rfl) (by rfl)) rfl (cg (OpJ.skipU (g := 100) (L rfl) (by rfl)) rfl (cg (OpJ.skipU (g := 100) (L rfl) (by rfl)) rfl (cg (OpJ.skipU (g := 100) (L rfl) (by rfl)) rfl (cg (OpJ.skipU (g := 100) (L rfl) (by rfl)) rfl (cg (OpJ.skipU (g := 100) (L rfl) (by rfl)) rfl (c (OpJ.guarded (g := 97) (by rfl) (OpJ.pickF (L rfl) (q 100) (Opd.bool false))) rfl (c (OpJ.pickF (L rfl) (q 97) (q 112)) rfl cn)))))))))))))))))))))))))))))))) (by kernel_rfl) (by kernel_rfl) ?_
                exact hjj202 _ h _ _ (Mat.trans (mp [] [(1, (.ptr 1001 0 [])), (75, (qe_api_Span_2 a0.fASNs)), (76, (i6 (a0.fASNs.length : Int))), (77, (i6 s171)), (113, (bo false))] [(1001, some (.box 28 (.d (e_api_Resources a0))))] hB) (mp [] _ _ hB))
        · replace h := ite_f hg196 h
          refine AWp.exit ?_
          refine seqQ_e ?_
          obtain rfl := Option.some.inj h
          exact ⟨(fun hc => by cases hc), rfl, (mp [] _ _ hB)⟩
      · rcases x207 with _ | _
        · obtain ⟨rfl, hmat⟩ := hR
          refine blkQ_r ?_
          refine seqQ_r ?_
          obtain rfl := Option.some.inj h
          exact ⟨.inl rfl, _, _, (Mat.trans hmat (mp [] [(2, (bo false))] [] hB)), [(bo false)], (Res.tmp (by rfl) (by rfl) Res.nil), rfl, by rfl, by rfl, by rfl⟩
        · obtain ⟨rfl, hmat⟩ := hR
          refine blkQ_hit ?_
          refine seqQ_n ?_
          refine AWp.ghost hmat ?_
          refine sr (c (ov (.ptr 1001 0 [0]) (fp hN Tryd.underlying28 0 tyS25 _ (q 1))) rfl (c (lb hN 28 _ _ tyS25 (ad _) (q 115)) rfl (c (OpJ.val (v' := (i6 (a0.fAddrs.length : Int))) (by simp) (OpJ.lenD Tryd.underlying25 (L rfl) (q 116))) rfl (c (OpJ.leq (L rfl) (q 117) (Opd.int .i64 (256))) rfl (c (mv hN (q 118)) rfl (c (oq hN 119 (ov (.ptr 1001 1 [1]) (fp hN Tryd.underlying28 1 tyS26 _ (q 1))) (OptL.keep (by rfl) OptL.nil) (GuardV.plain _)) rfl (c (oq hN 119 (lb hN 28 _ _ tyS26 (ad _) (q 120)) (OptL.opt OptL.nil) (GuardV.plain _)) rfl (c (oq hN 119 (OpJ.val (v' := (i6 (a0.fASNs.length : Int))) (by simp) (OpJ.lenD Tryd.underlying26 (L rfl) (q 121))) (OptL.opt OptL.nil) (GuardV.plain _)) rfl (c (oq hN 119 (OpJ.leq (L rfl) (q 122) (Opd.int .i64 (256))) (OptL.opt OptL.nil) (GuardV.plain _)) rfl (c (OpJ.pickAnd rfl (L rfl) (q 119) (q 123)) rfl (c (OpJ.assign (L rfl) (q 124)) rfl cn))))))))))) ?_
          refine gh [(2, _)] [] hB rfl rfl (by rfl) ?_
          refine AWp.ret ?_
          obtain rfl := Option.some.inj h
          exact ⟨.inl rfl, _, _, (kp [(2, _)] [] hB rfl rfl (by rfl)), [(bo ((decide ((a0.fAddrs.length : Int) ≤ (256 : Int))) && (decide ((a0.fASNs.length : Int) ≤ (256 : Int)))))], (Res.tmp (by rfl) (by rfl) Res.nil), rfl, by rfl, by rfl, by rfl⟩

noncomputable def resource_Of_1 (a0 : api_Span) : Option (Bool) :=
  (resource_span a0).bind fun r1 =>
  some (!r1)
set_option maxHeartbeats 4000000 in
set_option maxRecDepth 100000 in
theorem resource_Of_1_ac (a0 : api_Span) (r : Bool) (h : resource_Of_1 a0 = some r) : AC Tryd.prog 54 [(.d (e_api_Span a0))] [] (.d (.bool r)) [] := by
  refine AC.of_code2 Tryd.func54 rfl rfl (Nat.le_of_ble_eq_true (by rfl)) fun B hB hN => ?_
  delta resource_Of_1 at h
  refine sr (cg (OpJ.box hB (nm := 1001) (by decide) (by simp) rfl (ltN hN rfl) (q 0)) rfl (c (OpJ.assign (ltN hN rfl) (Opd.bool false)) rfl cn)) ?_
  refine gh [(1, _)] [(1001, some _)] hB rfl rfl (by rfl) ?_
  obtain ⟨r1, hr1, h⟩ := bindS h
  refine sr (c (lb hN 48 _ _ tyS48 (At.here _) (q 1)) rfl (cg (OpJ.callFn hB fnOk48 (resource_span_ac a0 r1 hr1) [] (by kernel_rfl) (ltN hN rfl) (by kernel_rfl) (OpdL.cons (q 3) OpdL.nil)) rfl (c (OpJ.not (ltN hN rfl) (q 4)) rfl (c (OpJ.assign (ltN hN rfl) (q 5)) rfl cn)))) ?_
  refine gh [(2, _)] [] hB rfl rfl (by rfl) ?_
  refine AWp.ret ?_
  obtain rfl := Option.some.inj h
  exact ⟨.inl rfl, _, _, (kp [(2, _)] [] hB rfl rfl (by rfl)), [(bo (!r1))], (Res.tmp (by rfl) (by rfl) Res.nil), rfl, by rfl, by rfl, by rfl⟩

noncomputable def slices_IndexFunc_4_L0 (a0 : (List api_Span)) (s1 : Int) : Option (((Int) ⊕ (Unit)) ⊕ (Int)) :=
  (if (decide (s1 < (a0.length : Int))) = true then
  (idx a0 s1).bind fun x13 =>
  (resource_Of_1 x13).bind fun r14 =>
  (if r14 = true then
  some (.inl (.inl s1))
  else
  some (.inr (w64 (s1 + (1 : Int)))))
  else
  some (.inl (.inr ())))
noncomputable def slices_IndexFunc_4 (a0 : (List api_Span)) : Option (Int) :=
  (loop (slices_IndexFunc_4_L0 a0) (0 : Int)).bind fun x16 => match x16 with
  | (.inl p10) =>
    some p10
  | (.inr _) =>
    some (-1 : Int)
set_option maxHeartbeats 4000000 in
set_option maxRecDepth 100000 in
theorem slices_IndexFunc_4_ac (a0 : (List api_Span)) (r : Int) (h : slices_IndexFunc_4 a0 = some r) : AC Tryd.prog 77 [(.d (.list 2 (a0.map e_api_Span))), (.func 54 [])] [] (.d (.int .i64 r)) [] := by
  refine AC.of_code2 Tryd.func77 rfl rfl (Nat.le_of_ble_eq_true (by rfl)) fun B hB hN => ?_
  delta slices_IndexFunc_4 at h
  refine sr (c (OpJ.assign (ltN hN rfl) (Opd.int .i64 (0))) rfl cn) ?_
  refine gh [(0, _), (1, _)] [] hB rfl rfl (by rfl) ?_
  refine AWp.seq ?_
  refine sr (c (mv hN (q 0)) rfl (c (OpJ.val (v' := (i6 (a0.length : Int))) (by simp) (OpJ.lenD Tryd.underlying26 (ltN hN rfl) (q 6))) rfl (c (mv hN (Opd.int .i64 (0))) rfl cn))) ?_
  refine gh [(0, _), (1, _), (7, _), (8, _)] [] hB rfl rfl (by rfl) ?_
  refine AWp.block ?_
  obtain ⟨x16, hx17, h⟩ := bindS h
  refine lg (slices_IndexFunc_4_L0 a0) (fun s1 : Int => ([(0, (qe_api_Span_2 a0)), (1, (.func 54 [])), (7, (i6 (a0.length : Int))), (8, (i6 s1))] : EL)) (fun s1 : Int => ([] : OL)) (fun (x : (Int) ⊕ (Unit)) e E' O' => match x with | (.inl p10) => e = .ret ∧ Mat B E' O' ([(4, (i6 p10))] : EL) ([] : OL) | (.inr _p) => e = .exit 0 ∧ Mat B E' O' ([] : EL) ([] : OL)) hx17 (mp [] _ _ hB) (fun s1 y h => ?_) (fun e E' O' hR => ?_)
  · unfold slices_IndexFunc_4_L0 at h
    refine sr (c (OpJ.lss (ltN hN rfl) (q 8) (q 7)) rfl cn) ?_
    refine gh [(0, _), (1, _), (7, _), (8, _), (9, _)] [] hB rfl rfl (by rfl) ?_
    refine AWp.seq ?_
    refine AWp.cond rfl (fun hg12 => ?_) (fun hg12 => ?_)
    · replace h := ite_t hg12 h
      refine AWp.skip ?_
      refine seqQ_n ?_
      refine AWp.seq ?_
      refine AWp.block ?_
      refine sr (c (mv hN (q 8)) rfl (c (OpJ.assign (ltN hN rfl) (q 10)) rfl cn)) ?_
      refine gh [(0, _), (1, _), (5, _), (7, _), (8, _)] [] hB rfl rfl (by rfl) ?_
      obtain ⟨x13, hx13, h⟩ := bindS h
      obtain ⟨r14, hr14, h⟩ := bindS h
      refine sr (c (mv hN (q 1)) rfl (c (mv hN (q 0)) rfl (c (mv hN (q 5)) rfl (c (OpJ.indexD Tryd.underlying26 tyS48 (idx_some hx13).1 (get_map e_api_Span (idx_some hx13).2) (ltN hN rfl) (q 12) (q 13)) rfl (c (OpJ.loadD tyS48 (by rfl) (by rfl) (ltN hN rfl) (q 14)) rfl (cg (OpJ.callVal (args := [(.d (e_api_Span x13))]) (caps := []) hB fnOk54 [] (resource_Of_1_ac x13 r14 hr14) (by kernel_rfl) (ltN hN rfl) (by kernel_rfl) (by kernel_rfl) (OpdL.cons (q 15) OpdL.nil)) rfl cn)))))) ?_
      refine gh [(0, _), (1, _), (5, _), (7, _), (8, _), (16, _)] [] hB rfl rfl (by rfl) ?_
      refine AWp.cond rfl (fun hg15 => ?_) (fun hg15 => ?_)
      · replace h := ite_t hg15 h
        refine sr (c (mv hN (q 5)) rfl (c (OpJ.assign (ltN hN rfl) (q 17)) rfl cn)) ?_
        refine gh [(4, _)] [] hB rfl rfl (by rfl) ?_
        refine AWp.ret ?_
        refine blkQ_r ?_
        refine seqQ_r ?_
        obtain rfl := Option.some.inj h
        exact ⟨(fun hc => by cases hc), rfl, (mp [] _ _ hB)⟩
      · replace h := ite_f hg15 h
        refine AWp.skip ?_
        refine blkQ_n ?_
        refine seqQ_n ?_
        refine rg (c (add6 (ltN hN rfl) (q 8) (Opd.int .i64 (1))) rfl (c (mv hN (q 18)) rfl cn)) ?_
        obtain rfl := Option.some.inj h
        exact ⟨rfl, (Mat.trans (mp [] [(0, (qe_api_Span_2 a0)), (1, (.func 54 [])), (7, (i6 (a0.length : Int))), (8, (i6 (w64 (s1 + (1 : Int)))))] [] hB) (mp [] _ _ hB))⟩
    · replace h := ite_f hg12 h
      refine AWp.exit ?_
      refine seqQ_e ?_
      obtain rfl := Option.some.inj h
      exact ⟨(fun hc => by cases hc), rfl, (mp [] _ _ hB)⟩
  · rcases x16 with p10 | _
    · obtain ⟨rfl, hmat⟩ := hR
      refine blkQ_r ?_
      refine seqQ_r ?_
      obtain rfl := Option.some.inj h
      exact ⟨.inl rfl, _, _, (Mat.trans hmat (mp [] [(4, (i6 p10))] [] hB)), [(i6 p10)], (Res.tmp (by rfl) (by rfl) Res.nil), rfl, by rfl, by rfl, by rfl⟩
    · obtain ⟨rfl, hmat⟩ := hR
      refine blkQ_hit ?_
      refine seqQ_n ?_
      refine AWp.ghost hmat ?_
      refine sr (c (OpJ.assign (ltN hN rfl) (Opd.int .i64 (-1))) rfl cn) ?_
      refine gh [(4, _)] [] hB rfl rfl (by rfl) ?_
      refine AWp.ret ?_
      obtain rfl := Option.some.inj h
      exact ⟨.inl rfl, _, _, (kp [(4, _)] [] hB rfl rfl (by rfl)), [(i6 (-1 : Int))], (Res.tmp (by rfl) (by rfl) Res.nil), rfl, by rfl, by rfl, by rfl⟩

noncomputable def slices_ContainsFunc_4 (a0 : (List api_Span)) : Option (Bool) :=
  (slices_IndexFunc_4 a0).bind fun r1 =>
  some (decide ((0 : Int) ≤ r1))
set_option maxHeartbeats 4000000 in
set_option maxRecDepth 100000 in
theorem slices_ContainsFunc_4_ac (a0 : (List api_Span)) (r : Bool) (h : slices_ContainsFunc_4 a0 = some r) : AC Tryd.prog 43 [(.d (.list 2 (a0.map e_api_Span))), (.func 54 [])] [] (.d (.bool r)) [] := by
  refine AC.of_code2 Tryd.func43 rfl rfl (Nat.le_of_ble_eq_true (by rfl)) fun B hB hN => ?_
  delta slices_ContainsFunc_4 at h
  refine sr (c (OpJ.assign (ltN hN rfl) (Opd.bool false)) rfl cn) ?_
  refine gh [(0, _), (1, _)] [] hB rfl rfl (by rfl) ?_
  obtain ⟨r1, hr1, h⟩ := bindS h
  refine sr (c (mv hN (q 0)) rfl (c (mv hN (q 1)) rfl (cg (OpJ.callFn hB fnOk77 (slices_IndexFunc_4_ac a0 r1 hr1) [] (by kernel_rfl) (ltN hN rfl) (by kernel_rfl) (OpdL.cons (q 5) (OpdL.cons (q 6) OpdL.nil))) rfl (c (OpJ.geq (ltN hN rfl) (q 7) (Opd.int .i64 (0))) rfl (c (OpJ.assign (ltN hN rfl) (q 8)) rfl cn))))) ?_
  refine gh [(4, _)] [] hB rfl rfl (by rfl) ?_
  refine AWp.ret ?_
  obtain rfl := Option.some.inj h
  exact ⟨.inl rfl, _, _, (kp [(4, _)] [] hB rfl rfl (by rfl)), [(bo (decide ((0 : Int) ≤ r1)))], (Res.tmp (by rfl) (by rfl) Res.nil), rfl, by rfl, by rfl, by rfl⟩

noncomputable def ext79_slices_Clone_R (a0 : (List api_Addr_)) : Option (List api_Addr_) := chk (decide (a0.length ≤ LIM)) <|
  some a0
theorem ext79_slices_Clone_R_ac (a0 : (List api_Addr_)) (r : List api_Addr_) (h : ext79_slices_Clone_R a0 = some r) : AC Tryd.prog 79 [(.d (.list 6 (a0.map e_api_Addr_)))] [] (.sref 900000 6 0 r.length) [(900000, some (.row 120 6 (r.map e_api_Addr_)))] := by
  obtain ⟨hc, h⟩ := chk_some h
  obtain rfl := Option.some.inj h
  exact AC.cloneR cloneOk79 (by simp) (by rw [List.length_map]; exact lim_mulN hc (by decide)) (map_sz (f := e_api_Addr_) (fun _ => rfl))

noncomputable def resource_order_normal_1 (a0 : api_Addr_) (a1 : api_Addr_) : Option (Int) :=
  (addr_Cmp a0.ffrom a1.ffrom).bind fun r1 =>
  some r1
set_option maxHeartbeats 4000000 in
set_option maxRecDepth 100000 in
theorem resource_order_normal_1_ac (a0 : api_Addr_) (a1 : api_Addr_) (r : Int) (h : resource_order_normal_1 a0 a1 = some r) : AC Tryd.prog 81 [(.d (e_api_Addr_ a0)), (.d (e_api_Addr_ a1)), (.ptr 0 0 [])] [(0, (.box 88 (.st [(.func 35 []), (.func 37 []), (.func 137 [])])))] (.d (.int .i64 r)) [(0, some (.box 88 (.st [(.func 35 []), (.func 37 []), (.func 137 [])])))] := by
  refine AC.of_code2 Tryd.func81 rfl rfl (Nat.le_of_ble_eq_true (by rfl)) fun B hB hN => ?_
  delta resource_order_normal_1 at h
  refine sr (cg (OpJ.box hB (nm := 1003) (by decide) (by simp) rfl (ltN hN rfl) (q 0)) rfl (cg (OpJ.box hB (nm := 1004) (by decide) (by simp) rfl (ltN hN rfl) (q 1)) rfl (c (OpJ.assign (ltN hN rfl) (Opd.int .i64 (0))) rfl cn))) ?_
  refine gh [(2, _), (3, _), (4, _)] [(0, some _), (1003, some _), (1004, some _)] hB rfl rfl (by rfl) ?_
  obtain ⟨r1, hr1, h⟩ := bindS h
  refine sr (c (ov (.ptr 0 0 [0]) (fp hN Tryd.underlying88 0 tyS70 _ (q 2))) rfl (c (lb hN 88 _ (.func 35 []) tyS70 (At.st1 (f := (.func 35 [])) (by rfl) (by rfl) (At.here _) (by first | rfl | omega)) (q 6)) rfl (c (ov (.ptr 1003 0 [0]) (fp hN Tryd.underlying120 0 tyS32 _ (q 3))) rfl (c (lb hN 120 _ _ tyS32 (ad _) (q 8)) rfl (c (ov (.ptr 1004 0 [0]) (fp hN Tryd.underlying120 0 tyS32 _ (q 4))) rfl (c (lb hN 120 _ _ tyS32 (ad _) (q 10)) rfl (cg (OpJ.callVal (args := [(.d (e_api_Addr a0.ffrom)), (.d (e_api_Addr a1.ffrom))]) (caps := []) hB fnOk35 [] (addr_Cmp_ac a0.ffrom a1.ffrom r1 hr1) (by kernel_rfl) (ltN hN rfl) (by kernel_rfl) (by kernel_rfl) (OpdL.cons (q 9) (OpdL.cons (q 11) OpdL.nil))) rfl (c (OpJ.assign (ltN hN rfl) (q 12)) rfl cn)))))))) ?_
  refine gh [(5, _)] [(0, some _)] hB rfl rfl (by rfl) ?_
  refine AWp.ret ?_
  obtain rfl := Option.some.inj h
  exact ⟨.inl rfl, _, _, (kp [(5, _)] [(0, some _)] hB rfl rfl (by rfl)), [(i6 r1)], (Res.tmp (by rfl) (by rfl) Res.nil), rfl, by rfl, by rfl, by rfl⟩

noncomputable def ext80_slices_SortFunc_resource_order_normal_1 (a0 : (List api_Addr_)) : Option (List api_Addr_) := sortF a0 fun x y => resource_order_normal_1 x y
theorem ext80_slices_SortFunc_resource_order_normal_1_ac (a0 : (List api_Addr_)) (r : List api_Addr_) (h : ext80_slices_SortFunc_resource_order_normal_1 a0 = some r) : AC Tryd.prog 80 [(.sref 900 6 0 a0.length), (.func 81 [(.ptr 0 0 [])])] [(0, (.box 88 (.st [(.func 35 []), (.func 37 []), (.func 137 [])]))), (900, (.row 120 6 (a0.map e_api_Addr_)))] (.tup []) [(0, some (.box 88 (.st [(.func 35 []), (.func 37 []), (.func 137 [])]))), (900, some (.row 120 6 (r.map e_api_Addr_)))] :=
  AC.sortFC e_api_Addr_ (fun x y => resource_order_normal_1 x y) a0 r h sortOk80 fnOk81 (fun _ => rfl) (by rfl) (by rfl) rfl (fun x y c hc => resource_order_normal_1_ac x y c hc)

noncomputable def resource_order_normal_L0 (r1 : List api_Addr_) (r2 : List api_Addr_) (s4 : Int × (List api_Addr_)) : Option ((((List api_Addr_))) ⊕ (Int × (List api_Addr_))) :=
  (if (decide (s4.1 < (r1.length : Int))) = true then
  jn (fun m161 : (List api_Addr_) =>
  some (.inr ((w64 (s4.1 + (1 : Int))), m161))) (fun j162 =>
  (idx r2 s4.1).bind fun x163 =>
  (idx r2 s4.1).bind fun x164 =>
  (if (decide ((w64 ((s4.2.length : Int) - (1 : Int))) < (0 : Int))) = true then
  chk (decide ((s4.2 ++ ([x164] : List api_Addr_)).length ≤ LIM)) <|
  j162 (s4.2 ++ ([x164] : List api_Addr_))
  else
  (idx s4.2 (w64 ((s4.2.length : Int) - (1 : Int)))).bind fun x167 =>
  (idx s4.2 (w64 ((s4.2.length : Int) - (1 : Int)))).bind fun x168 =>
  (addr_Next x168.fto).bind fun r169 =>
  jn (fun m179 : Bool =>
  (if m179 = true then
  chk (decide ((s4.2 ++ ([x164] : List api_Addr_)).length ≤ LIM)) <|
  j162 (s4.2 ++ ([x164] : List api_Addr_))
  else
  (idx s4.2 (w64 ((s4.2.length : Int) - (1 : Int)))).bind fun x183 =>
  (idx s4.2 (w64 ((s4.2.length : Int) - (1 : Int)))).bind fun x184 =>
  (addr_Cmp x164.fto x184.fto).bind fun r185 =>
  (if (decide ((0 : Int) < r185)) = true then
  (idx s4.2 (w64 ((s4.2.length : Int) - (1 : Int)))).bind fun x187 =>
  (idx s4.2 (w64 ((s4.2.length : Int) - (1 : Int)))).bind fun x188 =>
  j162 (s4.2.set (w64 ((s4.2.length : Int) - (1 : Int))).toNat (api_Addr_.mk x188.ffrom x164.fto))
  else
  j162 s4.2))) (fun j180 =>
  (idx s4.2 (w64 ((s4.2.length : Int) - (1 : Int)))).bind fun x189 =>
  (idx s4.2 (w64 ((s4.2.length : Int) - (1 : Int)))).bind fun x190 =>
  (addr_Cmp x164.ffrom x190.fto).bind fun r191 =>
  (if (decide ((0 : Int) < r191)) = true then
  (if r169.2 = true then
  (addr_Cmp r169.1 x164.ffrom).bind fun r194 =>
  j180 (!(r194 == (0 : Int)))
  else
  j180 (!false))
  else
  j180 false))))
  else
  some (.inl s4.2))
noncomputable def resource_order_normal (a0 : (List api_Addr_)) : Option ((List api_Addr_)) :=
  (ext79_slices_Clone_R a0).bind fun r1 =>
  (ext80_slices_SortFunc_resource_order_normal_1 r1).bind fun r2 =>
  chk (decide (r2.length = r1.length)) <|
  (loop (resource_order_normal_L0 r1 r2) ((0 : Int), ([] : List api_Addr_))).bind fun p127 =>
  some p127
set_option maxHeartbeats 4000000 in
set_option maxRecDepth 100000 in
theorem resource_order_normal_ac (a0 : (List api_Addr_)) (r : (List api_Addr_)) (h : resource_order_normal a0 = some r) : AC Tryd.prog 55 [(.st [(.func 35 []), (.func 37 []), (.func 137 [])]), (.d (.list 6 (a0.map e_api_Addr_)))] [] (.d (.list 6 (r.map e_api_Addr_))) [] := by
  refine AC.of_code2 Tryd.func55 rfl rfl (Nat.le_of_ble_eq_true (by rfl)) fun B hB hN => ?_
  have L {d : Nat} (h : Nat.blt d Tryd.f55.ntmps = true) : d < B.N := ltN hN h
  delta resource_order_normal at h
  refine sr (cg (OpJ.box hB (nm := 1002) (by decide) (by simp) rfl (L rfl) (q 0)) rfl (c (OpJ.assign (L rfl) Opd.nils) rfl cn)) ?_
  refine gh [(1, _), (2, _)] [(1002, some _)] hB rfl rfl (by rfl) ?_
  refine AWp.seq ?_
  obtain ⟨r1, hr1, h⟩ := bindS h
  refine AWp.region (oc (mv hN (ot 1 (qe_api_Addr__6 a0)))
  (oc (OpJ.callFn hB fnOk79 (ext79_slices_Clone_R_ac a0 r1 hr1) [(900000, 100000)] (by kernel_rfl) (L rfl) (by kernel_rfl) (OpdL.cons (ot 11 (qe_api_Addr__6 a0)) OpdL.nil))
  (oc (OpJ.assign (L rfl) (ot 12 (.sref 100000 6 0 r1.length)))
  (OpJs.nil)))) (by rfl) (by rfl) ?_
  refine seqQ_n ?_
  refine AWp.ghost (mp [] [(1, (.sref 100000 6 0 r1.length)), (2, (.ptr 1002 0 []))] [(1002, some (.box 88 (.st [(.func 35 []), (.func 37 []), (.func 137 [])]))), (100000, some (we_api_Addr__120_6 r1))] hB) ?_
  refine AWp.seq ?_
  obtain ⟨r2, hr2, h⟩ := bindS h
  obtain ⟨hc3, h⟩ := chk_some h
  have lhc3 := of_decide_eq_true hc3
  have hc3_o := of_decide_eq_true hc3
  refine AWp.region (oc (mv hN (ot 1 (.sref 100000 6 0 r1.length)))
  (oc (OpJ.makeF (OpdL.cons (ot 2 (.ptr 1002 0 [])) OpdL.nil) rfl rfl (L rfl))
  (oc (OpJ.callFn hB fnOk80 (ext80_slices_SortFunc_resource_order_normal_1_ac r1 r2 hr2) [(900, 100000), (0, 1002)] (by kernel_rfl) (L rfl) (by kernel_rfl) (OpdL.cons (ot 13 (.sref 100000 6 0 r1.length)) (OpdL.cons (ot 14 (.func 81 [(.ptr 1002 0 [])])) OpdL.nil)))
  (OpJs.nil)))) (by rfl) (by rfl) ?_
  refine seqQ_n ?_
  refine AWp.ghost (mp [] [(1, (.sref 100000 6 0 r1.length)), (2, (.ptr 1002 0 []))] [(1002, some (.box 88 (.st [(.func 35 []), (.func 37 []), (.func 137 [])]))), (100000, some (we_api_Addr__120_6 r2))] hB) ?_
  refine sr (c (OpJ.assign (L rfl) Opd.nils) rfl cn) ?_
  refine gh [(1, _), (2, _), (5, _)] [(1002, some _), (100000, some _)] hB rfl rfl (by rfl) ?_
  refine AWp.seq ?_
  refine sr (c (mv hN (q 1)) rfl (c (OpJ.lenS Tryd.underlying82 (L rfl) (q 16)) rfl (c (mv hN (Opd.int .i64 (0))) rfl cn))) ?_
  refine gh [(2, _), (5, _), (16, _), (17, _), (18, _)] [(1002, some _), (100000, some _)] hB rfl rfl (by rfl) ?_
  refine AWp.block ?_
  obtain ⟨p127, hx196, h⟩ := bindS h
  refine lg (resource_order_normal_L0 r1 r2) (fun s4 : Int × (List api_Addr_) => ([(2, (.ptr 1002 0 [])), (5, (.sref 3005 6 0 s4.2.length)), (16, (.sref 100000 6 0 r2.length)), (17, (i6 (r1.length : Int))), (18, (i6 s4.1))] : EL)) (fun s4 : Int × (List api_Addr_) => ([(1002, some (.box 88 (.st [(.func 35 []), (.func 37 []), (.func 137 [])]))), (3005, some (we_api_Addr__120_6 s4.2)), (100000, some (we_api_Addr__120_6 r2))] : OL)) (fun (p127 : ((List api_Addr_))) e E' O' => e = .exit 0 ∧ Mat B E' O' ([(5, (.sref 3005 6 0 p127.length))] : EL) ([(3005, some (we_api_Addr__120_6 p127))] : OL)) hx196 (Mat.trans (Mat.beginP (n := 3005) (e := 120) (sz := 6) (Ts := [(5, (.sref 3005 6 0 0))]) (Bs := []) hB (by decide) (by rfl) (by decide) (TwT.cons (x := .nils) (by rfl) (Tw.leaf ⟨rfl, rfl⟩) TwT.nil) TwB.nil) (Mat.trans (Mat.lenP (Ts := [(16, (.sref 100000 6 0 r2.length))]) (Bs := []) (TwT.cons (x := (.sref 100000 6 0 r1.length)) (by rfl) (Tw.leaf ⟨_, _, _, _, _, rfl, rfl, (by first | rfl | (simp; done) | (simp; omega) | omega)⟩) TwT.nil) TwB.nil) (mp [] _ _ hB))) (fun s4 y h => ?_) (fun e E' O' hR => ?_)
  · unfold resource_order_normal_L0 at h
    refine sr (c (OpJ.lss (L rfl) (q 18) (q 17)) rfl cn) ?_
    refine gh [(2, _), (5, _), (16, _), (17, _), (18, _), (19, _)] [(1002, some _), (3005, some _), (100000, some _)] hB rfl rfl (by rfl) ?_
    refine AWp.seq ?_
    refine AWp.cond rfl (fun hg128 => ?_) (fun hg128 => ?_)
    · replace h := ite_t hg128 h
      refine AWp.skip ?_
      refine seqQ_n ?_
      refine AWp.seq ?_
      refine AWp.cut h (fun m161 : (List api_Addr_) => ([(2, (.ptr 1002 0 [])), (5, (.sref 3005 6 0 m161.length)), (16, (.sref 100000 6 0 r2.length)), (17, (i6 (r1.length : Int))), (18, (i6 s4.1))] : EL)) (fun m161 : (List api_Addr_) => ([(1002, some (.box 88 (.st [(.func 35 []), (.func 37 []), (.func 137 [])]))), (3005, some (we_api_Addr__120_6 m161)), (100000, some (we_api_Addr__120_6 r2))] : OL)) (fun m161 h E' O' hmat => ?_) (fun j162 hjj162 h => ?_)
      · refine seqQ_n ?_
        refine AWp.ghost hmat ?_
        refine rg (c (add6 (L rfl) (q 18) (Opd.int .i64 (1))) rfl (c (mv hN (q 89)) rfl cn)) ?_
        obtain rfl := Option.some.inj h
        exact ⟨rfl, (Mat.trans (mp [] [(2, (.ptr 1002 0 [])), (5, (.sref 3005 6 0 m161.length)), (16, (.sref 100000 6 0 r2.length)), (17, (i6 (r1.length : Int))), (18, (i6 (w64 (s4.1 + (1 : Int)))))] [(1002, some (.box 88 (.st [(.func 35 []), (.func 37 []), (.func 137 [])]))), (3005, some (we_api_Addr__120_6 m161)), (100000, some (we_api_Addr__120_6 r2))] hB) (mp [] _ _ hB))⟩
      · refine AWp.block ?_
        obtain ⟨x163, hx163, h⟩ := bindS h
        obtain ⟨x164, hx164, h⟩ := bindS h
        refine sr (c (OpJ.val (v' := (.ptr 100000 (s4.1.toNat * 6) [s4.1.toNat])) (by simp) (OpJ.indexS Tryd.underlying82 tyS120 (idx_some hx163).1 (by have := idx_lt hx163; first | (simpa using this) | ((try simp only [List.length_map] at this); (try simp only [List.length_map]); omega)) (L rfl) (q 16) (q 18))) rfl (c (OpJ.loadR (e := 120) (sz := 6) tyS120 (get_map e_api_Addr_ (idx_some hx164).2) (o := 0) (At.here _) (by rfl) (by rfl) (by rfl) (L rfl) (q 20)) rfl (cg (OpJ.alloc hB tyZ120 (nm := 1007) (by decide) (L rfl)) rfl (cg (OpJ.storeB tyS120 (SetAt.here _ _) (by rfl) (by rfl) (by simp) rfl (q 7) (q 21)) rfl cn)))) ?_
        refine gh [(2, _), (5, _), (7, _), (16, _), (17, _), (18, _)] [(1002, some _), (1007, some _), (3005, some _), (100000, some _)] hB rfl rfl (by rfl) ?_
        refine sr (c (mv hN (q 5)) rfl (c (OpJ.lenS Tryd.underlying82 (L rfl) (q 22)) rfl (c (sub6 (L rfl) (q 23) (Opd.int .i64 (1))) rfl (c (OpJ.assign (L rfl) (q 24)) rfl cn)))) ?_
        refine gh [(2, _), (5, _), (7, _), (8, _), (16, _), (17, _), (18, _)] [(1002, some _), (1007, some _), (3005, some _), (100000, some _)] hB rfl rfl (by rfl) ?_
        refine AWp.seq ?_
        refine sr (c (mv hN (q 8)) rfl (c (OpJ.lss (L rfl) (q 25) (Opd.int .i64 (0))) rfl cn)) ?_
        refine gh [(2, _), (5, _), (7, _), (8, _), (16, _), (17, _), (18, _), (26, _)] [(1002, some _), (1007, some _), (3005, some _), (100000, some _)] hB rfl rfl (by rfl) ?_
        refine AWp.cond rfl (fun hg165 => ?_) (fun hg165 => ?_)
        · replace h := ite_t hg165 h
          obtain ⟨hc166, h⟩ := chk_some h
          refine sr (c (mv hN (q 5)) rfl (c (lb hN 120 _ _ tyS120 (At.here _) (q 7)) rfl (c (OpJ.buildSlice Tryd.underlying82 tyS120 tyZD120 (by rfl) (by decide) (by decide) (Opds.cons (q 28) Opds.nil) (by kernel_rfl) (es := ([(e_api_Addr_ x164)] : List D)) (by rfl) (by rfl) (by kernel_rfl) (by simp) (L rfl)) rfl (cg (OpJ.append hB Tryd.underlying82 tyE120 (nm := 1030) (by decide) (es := s4.2.map e_api_Addr_) (ys := ([x164] : List api_Addr_).map e_api_Addr_) (es' := (s4.2 ++ ([x164] : List api_Addr_)).map e_api_Addr_) (len := (s4.2 ++ ([x164] : List api_Addr_)).length) (by simp) (by simp) (map_sz (f := e_api_Addr_) (fun _ => rfl)) (by rw [List.length_map]; exact lim_mulN hc166 (by decide)) (by rw [List.length_map]; exact lim_leN hc166) (L rfl) (by simp) (q 27) (q 29)) rfl (c (OpJ.assign (L rfl) (q 30)) rfl cn))))) ?_
          refine gh [(2, _), (5, _), (16, _), (17, _), (18, _)] [(1002, some _), (1030, some _), (100000, some _)] hB rfl rfl (by rfl) ?_
          refine AWp.exit ?_
          refine seqQ_e ?_
          refine blkQ_hit ?_
          exact hjj162 _ h _ _ (mp [(3005, 1030)] _ _ hB)
        · replace h := ite_f hg165 h
          refine AWp.skip ?_
          refine seqQ_n ?_
          obtain ⟨x167, hx167, h⟩ := bindS h
          obtain ⟨x168, hx168, h⟩ := bindS h
          obtain ⟨r169, hr169, h⟩ := bindS h
          refine sd (c (ov (.ptr 1002 1 [1]) (fp hN Tryd.underlying88 1 tyS73 _ (q 2))) rfl (c (lb hN 88 _ (.func 37 []) tyS73 (At.st1 (f := (.func 37 [])) (by rfl) (by rfl) (At.here _) (by first | rfl | omega)) (q 32)) rfl (c (mv hN (q 5)) rfl (c (mv hN (q 8)) rfl (c (OpJ.val (v' := (.ptr 3005 ((w64 ((s4.2.length : Int) - (1 : Int))).toNat * 6) [(w64 ((s4.2.length : Int) - (1 : Int))).toNat])) (by simp) (OpJ.indexS Tryd.underlying82 tyS120 (idx_some hx167).1 (by have := idx_lt hx167; first | (simpa using this) | ((try simp only [List.length_map] at this); (try simp only [List.length_map]); omega)) (L rfl) (q 34) (q 35))) rfl (c (ov (.ptr 3005 (((w64 ((s4.2.length : Int) - (1 : Int))).toNat * 6) + 3) [(w64 ((s4.2.length : Int) - (1 : Int))).toNat, 1]) (fp hN Tryd.underlying120 3 tyS32 _ (q 36))) rfl (c (OpJ.loadR (e := 120) (sz := 6) tyS32 (get_map e_api_Addr_ (idx_some hx168).2) (o := 3) (ad _) (by rfl) (by rfl) (by rfl) (L rfl) (q 37)) rfl (cg (OpJ.callVal (args := [(.d (e_api_Addr x168.fto))]) (caps := []) hB fnOk37 [] (addr_Next_ac x168.fto r169 hr169) (by kernel_rfl) (L rfl) (by kernel_rfl) (by kernel_rfl) (OpdL.cons (q 38) OpdL.nil)) rfl (c (mv hN (q 39)) rfl (c (OpJ.extract (by rfl) rfl (L rfl) (q 31)) rfl (c (OpJ.extract (by rfl) rfl (L rfl) (q 31)) rfl (cg (OpJ.alloc hB tyZ32 (nm := 1009) (by decide) (L rfl)) rfl (cg (OpJ.storeB tyS32 (SetAt.here _ _) (by rfl) (by rfl) (by simp) rfl (q 9) (q 40)) rfl (c (OpJ.assign (L rfl) (q 41)) rfl cn)))))))))))))) (by kernel_rfl) (by kernel_rfl) ?_
          refine gh [(2, _), (5, _), (7, _), (8, _), (9, _), (10, _), (16, _), (17, _), (18, _)] [(1002, some _), (1007, some _), (1009, some _), (3005, some _), (100000, some _)] hB rfl rfl (by rfl) ?_
          refine AWp.block ?_
          refine AWp.seq ?_
          refine AWp.cut h (fun m179 : Bool => ([(2, (.ptr 1002 0 [])), (5, (.sref 3005 6 0 s4.2.length)), (7, (.ptr 1007 0 [])), (8, (i6 (w64 ((s4.2.length : Int) - (1 : Int))))), (16, (.sref 100000 6 0 r2.length)), (17, (i6 (r1.length : Int))), (18, (i6 s4.1)), (42, (bo m179))] : EL)) (fun m179 : Bool => ([(1002, some (.box 88 (.st [(.func 35 []), (.func 37 []), (.func 137 [])]))), (1007, some (.box 120 (.d (e_api_Addr_ x164)))), (3005, some (we_api_Addr__120_6 s4.2)), (100000, some (we_api_Addr__120_6 r2))] : OL)) (fun m179 h E' O' hmat => ?_) (fun j180 hjj180 h => ?_)
          · refine seqQ_n ?_
            refine AWp.ghost hmat ?_
            refine AWp.cond rfl (fun hg181 => ?_) (fun hg181 => ?_)
            · replace h := ite_t hg181 h
              obtain ⟨hc182, h⟩ := chk_some h
              refine rg (c (mv hN (q 5)) rfl (c (lb hN 120 _ _ tyS120 (At.here _) (q 7)) rfl (c (OpJ.buildSlice Tryd.underlying82 tyS120 tyZD120 (by rfl) (by decide) (by decide) (Opds.cons (q 68) Opds.nil) (by kernel_rfl) (es := ([(e_api_Addr_ x164)] : List D)) (by rfl) (by rfl) (by kernel_rfl) (by simp) (L rfl)) rfl (cg (OpJ.append hB Tryd.underlying82 tyE120 (nm := 1070) (by decide) (es := s4.2.map e_api_Addr_) (ys := ([x164] : List api_Addr_).map e_api_Addr_) (es' := (s4.2 ++ ([x164] : List api_Addr_)).map e_api_Addr_) (len := (s4.2 ++ ([x164] : List api_Addr_)).length) (by simp) (by simp) (map_sz (f := e_api_Addr_) (fun _ => rfl)) (by rw [List.length_map]; exact lim_mulN hc182 (by decide)) (by rw [List.length_map]; exact lim_leN hc182) (L rfl) (by simp) (q 67) (q 69)) rfl (c (OpJ.assign (L rfl) (q 70)) rfl cn))))) ?_
              refine blkQ_n ?_
              refine blkQ_n ?_
              exact hjj162 _ h _ _ (Mat.trans (mp [] [(2, (.ptr 1002 0 [])), (5, (.sref 1070 6 0 ((s4.2 ++ ([x164] : List api_Addr_)).length))), (16, (.sref 100000 6 0 r2.length)), (17, (i6 (r1.length : Int))), (18, (i6 s4.1))] [(1002, some (.box 88 (.st [(.func 35 []), (.func 37 []), (.func 137 [])]))), (1070, some (we_api_Addr__120_6 (s4.2 ++ ([x164] : List api_Addr_)))), (100000, some (we_api_Addr__120_6 r2))] hB) (mp [(3005, 1070)] _ _ hB))
            · replace h := ite_f hg181 h
              obtain ⟨x183, hx183, h⟩ := bindS h
              obtain ⟨x184, hx184, h⟩ := bindS h
              obtain ⟨r185, hr185, h⟩ := bindS h
              refine sd (c (ov (.ptr 1002 0 [0]) (fp hN Tryd.underlying88 0 tyS70 _ (q 2))) rfl (c (lb hN 88 _ (.func 35 []) tyS70 (At.st1 (f := (.func 35 [])) (by rfl) (by rfl) (At.here _) (by first | rfl | omega)) (q 72)) rfl (c (ov (.ptr 1007 3 [1]) (fp hN Tryd.underlying120 3 tyS32 _ (q 7))) rfl (c (lb hN 120 _ _ tyS32 (ad _) (q 74)) rfl (c (mv hN (q 5)) rfl (c (mv hN (q 8)) rfl (c (OpJ.val (v' := (.ptr 3005 ((w64 ((s4.2.length : Int) - (1 : Int))).toNat * 6) [(w64 ((s4.2.length : Int) - (1 : Int))).toNat])) (by simp) (OpJ.indexS Tryd.underlying82 tyS120 (idx_some hx183).1 (by have := idx_lt hx183; first | (simpa using this) | ((try simp only [List.length_map] at this); (try simp only [List.length_map]); omega)) (L rfl) (q 76) (q 77))) rfl (c (ov (.ptr 3005 (((w64 ((s4.2.length : Int) - (1 : Int))).toNat * 6) + 3) [(w64 ((s4.2.length : Int) - (1 : Int))).toNat, 1]) (fp hN Tryd.underlying120 3 tyS32 _ (q 78))) rfl (c (OpJ.loadR (e := 120) (sz := 6) tyS32 (get_map e_api_Addr_ (idx_some hx184).2) (o := 3) (ad _) (by rfl) (by rfl) (by rfl) (L rfl) (q 79)) rfl (cg (OpJ.callVal (args := [(.d (e_api_Addr x164.fto)), (.d (e_api_Addr x184.fto))]) (caps := []) hB fnOk35 [] (addr_Cmp_ac x164.fto x184.fto r185 hr185) (by kernel_rfl) (L rfl) (by kernel_rfl) (by kernel_rfl) (OpdL.cons (q 75) (OpdL.cons (q 80) OpdL.nil))) rfl (c (OpJ.gtr (L rfl) (q 81) (Opd.int .i64 (0))) rfl (c (OpJ.assign (L rfl) (q 82)) rfl cn)))))))))))) (by kernel_rfl) (by kernel_rfl) ?_
              refine gh [(2, _), (5, _), (7, _), (8, _), (16, _), (17, _), (18, _), (71, _)] [(1002, some _), (1007, some _), (3005, some _), (100000, some _)] hB rfl rfl (by rfl) ?_
              refine AWp.cond rfl (fun hg186 => ?_) (fun hg186 => ?_)
              · replace h := ite_t hg186 h
                obtain ⟨x187, hx187, h⟩ := bindS h
                obtain ⟨x188, hx188, h⟩ := bindS h
                refine rg (c (mv hN (q 5)) rfl (c (mv hN (q 8)) rfl (c (ov (.ptr 1007 3 [1]) (fp hN Tryd.underlying120 3 tyS32 _ (q 7))) rfl (c (lb hN 120 _ _ tyS32 (ad _) (q 85)) rfl (c (OpJ.val (v' := (.ptr 3005 ((w64 ((s4.2.length : Int) - (1 : Int))).toNat * 6) [(w64 ((s4.2.length : Int) - (1 : Int))).toNat])) (by simp) (OpJ.indexS Tryd.underlying82 tyS120 (idx_some hx187).1 (by have := idx_lt hx187; first | (simpa using this) | ((try simp only [List.length_map] at this); (try simp only [List.length_map]); omega)) (L rfl) (q 83) (q 84))) rfl (c (ov (.ptr 3005 (((w64 ((s4.2.length : Int) - (1 : Int))).toNat * 6) + 3) [(w64 ((s4.2.length : Int) - (1 : Int))).toNat, 1]) (fp hN Tryd.underlying120 3 tyS32 _ (q 87))) rfl (cg (OpJ.storeR (e := 120) (sz := 6) (es' := (s4.2.set (w64 ((s4.2.length : Int) - (1 : Int))).toNat (api_Addr_.mk x188.ffrom x164.fto)).map e_api_Addr_) tyS32 (get_map e_api_Addr_ (idx_some hx188).2) (o := 3) (SetAt.dst1 (by rfl) (by rfl) (SetAt.here _ _) (by rfl) (by rfl) (by first | rfl | omega)) (by rfl) (map_set _ _ _ _) (by rfl) (by rfl) (q 88) (q 86)) rfl cn))))))) ?_
                refine blkQ_n ?_
                refine blkQ_n ?_
                exact hjj162 _ h _ _ (Mat.trans (mp [] [(2, (.ptr 1002 0 [])), (5, (.sref 3005 6 0 s4.2.length)), (16, (.sref 100000 6 0 r2.length)), (17, (i6 (r1.length : Int))), (18, (i6 s4.1))] [(1002, some (.box 88 (.st [(.func 35 []), (.func 37 []), (.func 137 [])]))), (3005, some (we_api_Addr__120_6 (s4.2.set (w64 ((s4.2.length : Int) - (1 : Int))).toNat (api_Addr_.mk x188.ffrom x164.fto)))), (100000, some (we_api_Addr__120_6 r2))] hB) (Mat.trans (Mat.lenP (Ts := [(5, (.sref 3005 6 0 ((s4.2.set (w64 ((s4.2.length : Int) - (1 : Int))).toNat (api_Addr_.mk x188.ffrom x164.fto)).length)))]) (Bs := []) (TwT.cons (x := (.sref 3005 6 0 s4.2.length)) (by rfl) (Tw.leaf ⟨_, _, _, _, _, rfl, rfl, (by first | rfl | (simp; done) | (simp; omega) | omega)⟩) TwT.nil) TwB.nil) (mp [] _ _ hB)))
              · replace h := ite_f hg186 h
                refine AWp.skip ?_
                refine blkQ_n ?_
                refine blkQ_n ?_
                exact hjj162 _ h _ _ (mp [] _ _ hB)
          · obtain ⟨x189, hx189, h⟩ := bindS h
            obtain ⟨x190, hx190, h⟩ := bindS h
            obtain ⟨r191, hr191, h⟩ := bindS h
            rcases Bool.eq_false_or_eq_true (decide ((0 : Int) < r191)) with hg192 | hg192
            · replace h := ite_t hg192 h
              rcases Bool.eq_false_or_eq_true r169.2 with hg193 | hg193
              · replace h := ite_t hg193 h
                obtain ⟨r194, hr194, h⟩ := bindS h
                refine dr (c (ov (.ptr 1002 0 [0]) (fp hN Tryd.underlying88 0 tyS70 _ (q 2))) rfl (c (lb hN 88 _ (.func 35 []) tyS70 (At.st1 (f := (.func 35 [])) (by rfl) (by rfl) (At.here _) (by first | rfl | omega)) (q 43)) rfl (c (ov (.ptr 1007 0 [0]) (fp hN Tryd.underlying120 0 tyS32 _ (q 7))) rfl (c (lb hN 120 _ _ tyS32 (ad _) (q 45)) rfl (c (mv hN (q 5)) rfl (c (mv hN (q 8)) rfl (c (OpJ.val (v' := (.ptr 3005 ((w64 ((s4.2.length : Int) - (1 : Int))).toNat * 6) [(w64 ((s4.2.length : Int) - (1 : Int))).toNat])) (by simp) (OpJ.indexS Tryd.underlying82 tyS120 (idx_some hx189).1 (by have := idx_lt hx189; first | (simpa using this) | ((try simp only [List.length_map] at this); (try simp only [List.length_map]); omega)) (L rfl) (q 47) (q 48))) rfl (c (ov (.ptr 3005 (((w64 ((s4.2.length : Int) - (1 : Int))).toNat * 6) + 3) [(w64 ((s4.2.length : Int) - (1 : Int))).toNat, 1]) (fp hN Tryd.underlying120 3 tyS32 _ (q 49))) rfl (c (OpJ.loadR (e := 120) (sz := 6) tyS32 (get_map e_api_Addr_ (idx_some hx190).2) (o := 3) (ad _) (by rfl) (by rfl) (by rfl) (L rfl) (q 50)) rfl (cg (OpJ.callVal (args := [(.d (e_api_Addr x164.ffrom)), (.d (e_api_Addr x190.fto))]) (caps := []) hB fnOk35 [] (addr_Cmp_ac x164.ffrom x190.fto r191 hr191) (by kernel_rfl) (L rfl) (by kernel_rfl) (by kernel_rfl) (OpdL.cons (q 46) (OpdL.cons (q 51) OpdL.nil))) rfl (c (OpJ.gtr (L rfl) (q 52) (Opd.int .i64 (0))) rfl (c (OpJ.val (v' := .d (.bool true)) (by rw [hg192] <;> rfl) (mv hN (q 53))) rfl (c (OpJ.guarded (g := 54) (by rfl) (mv hN (q 10))) rfl (c (OpJ.guarded (g := 54) (by rfl) (OpJ.val (v' := .d (.bool true)) (by rw [hg193] <;> rfl) (mv hN (q 55)))) rfl (c (OpJ.guarded (g := 56) (by rfl) (ov (.ptr 1002 0 [0]) (fp hN Tryd.underlying88 0 tyS70 _ (q 2)))) rfl (c (OpJ.guarded (g := 56) (by rfl) (lb hN 88 _ (.func 35 []) tyS70 (At.st1 (f := (.func 35 [])) (by rfl) (by rfl) (At.here _) (by first | rfl | omega)) (q 57))) rfl (c (OpJ.guarded (g := 56) (by rfl) (lb hN 32 _ _ tyS32 (At.here _) (q 9))) rfl (c (OpJ.guarded (g := 56) (by rfl) (ov (.ptr 1007 0 [0]) (fp hN Tryd.underlying120 0 tyS32 _ (q 7)))) rfl (c (OpJ.guarded (g := 56) (by rfl) (lb hN 120 _ _ tyS32 (ad _) (q 60))) rfl (cg (OpJ.guarded (g := 56) (by rfl) (OpJ.callVal (args := [(.d (e_api_Addr r169.1)), (.d (e_api_Addr x164.ffrom))]) (caps := []) hB fnOk35 [] (addr_Cmp_ac r169.1 x164.ffrom r194 hr194) (by kernel_rfl) (L rfl) (by kernel_rfl) (by kernel_rfl) (OpdL.cons (q 59) (OpdL.cons (q 61) OpdL.nil)))) rfl (c (OpJ.guarded (g := 56) (by rfl) (OpJ.eqlI (L rfl) (q 62) (Opd.int .i64 (0)))) rfl (c (OpJ.guarded (g := 54) (by rfl) (OpJ.pickT (L rfl) (q 56) (q 63))) rfl (c (OpJ.guarded (g := 54) (by rfl) (OpJ.not (L rfl) (q 64))) rfl (c (OpJ.pickT (L rfl) (q 54) (q 65)) rfl (c (OpJ.assign (L rfl) (q 66)) rfl cn))))))))))))))))))))))))) (by kernel_rfl) (by kernel_rfl) ?_
                exact hjj180 _ h _ _ (Mat.trans (mp [] [(2, (.ptr 1002 0 [])), (5, (.sref 3005 6 0 s4.2.length)), (7, (.ptr 1007 0 [])), (8, (i6 (w64 ((s4.2.length : Int) - (1 : Int))))), (16, (.sref 100000 6 0 r2.length)), (17, (i6 (r1.length : Int))), (18, (i6 s4.1)), (42, (bo (!(r194 == (0 : Int)))))] [(1002, some (.box 88 (.st [(.func 35 []), (.func 37 []), (.func 137 [])]))), (1007, some (.box 120 (.d (e_api_Addr_ x164)))), (3005, some (we_api_Addr__120_6 s4.2)), (100000, some (we_api_Addr__120_6 r2))] hB) (mp [] _ _ hB))
              · replace h := ite_f hg193 h
                refine dr (c (ov (.ptr 1002 0 [0]) (fp hN Tryd.underlying88 0 tyS70 _ (q 2))) rfl (c (lb hN 88 _ (.func 35 []) tyS70 (At.st1 (f := (.func 35 [])) (by rfl) (by rfl) (At.here _) (by first | rfl | omega)) (q 43)) rfl (c (ov (.ptr 1007 0 [0]) (fp hN Tryd.underlying120 0 tyS32 _ (q 7))) rfl (c (lb hN 120 _ _ tyS32 (ad _) (q 45)) rfl (c (mv hN (q 5)) rfl (c (mv hN (q 8)) rfl (c (OpJ.val (v' := (.ptr 3005 ((w64 ((s4.2.length : Int) - (1 : Int))).toNat * 6) [(w64 ((s4.2.length : Int) - (1 : Int))).toNat])) (by simp) (OpJ.indexS Tryd.underlying82 tyS120 (idx_some hx189).1 (by have := idx_lt hx189; first | (simpa using this) | ((try simp only [List.length_map] at this); (try simp only [List.length_map]); omega)) (L rfl) (q 47) (q 48))) rfl (c (ov (.ptr 3005 (((w64 ((s4.2.length : Int) - (1 : Int))).toNat * 6) + 3) [(w64 ((s4.2.length : Int) - (1 : Int))).toNat, 1]) (fp hN Tryd.underlying120 3 tyS32 _ (q 49))) rfl (c (OpJ.loadR (e := 120) (sz := 6) tyS32 (get_map e_api_Addr_ (idx_some hx190).2) (o := 3) (ad _) (by rfl) (by rfl) (by rfl) (L rfl) (q 50)) rfl (cg (OpJ.callVal (args := [(.d (e_api_Addr x164.ffrom)), (.d (e_api_Addr x190.fto))]) (caps := []) hB fnOk35 [] (addr_Cmp_ac x164.ffrom x190.fto r191 hr191) (by kernel_rfl) (L rfl) (by kernel_rfl) (by kernel_rfl) (OpdL.cons (q 46) (OpdL.cons (q 51) OpdL.nil))) rfl (c (OpJ.gtr (L rfl) (q 52) (Opd.int .i64 (0))) rfl (c (OpJ.val (v' := .d (.bool true)) (by rw [hg192] <;> rfl) (mv hN (q 53))) rfl (c (OpJ.guarded (g := 54) (by rfl) (mv hN (q 10))) rfl (c (OpJ.guarded (g := 54) (by rfl) (OpJ.val (v' := .d (.bool false)) (by rw [hg193] <;> rfl) (mv hN (q 55)))) rfl (cg (OpJ.skipU (g := 56) (L rfl) (by rfl)) rfl (cg (OpJ.skipU (g := 56) (L rfl) (by rfl)) rfl (cg (OpJ.skipU (g := 56) (L rfl) (by rfl)) rfl (cg (OpJ.skipU (g := 56) (L rfl) (by rfl)) rfl (cg (OpJ.skipU (g := 56) (L rfl) (by rfl)) rfl (cg (OpJ.skipU (g := 56) (L rfl) (by rfl)) rfl (cg (OpJ.skipU (g := 56) (L rfl) (by rfl)) rfl (c (OpJ.guarded (g := 54) (by rfl) (OpJ.pickF (L rfl) (q 56) (Opd.bool false))) rfl (c (OpJ.guarded (g := 54) (by rfl) (OpJ.not (L rfl) (q 64))) rfl (c (OpJ.pickT (L rfl) (q 54) (q 65)) rfl (c (OpJ.assign (L rfl) (q 66)) rfl cn))))))))))))))))))))))))) (by kernel_rfl) (by kernel_rfl) ?_
                exact hjj180 _ h _ _ (Mat.trans (mp [] [(2, (.ptr 1002 0 [])), (5, (.sref 3005 6 0 s4.2.length)), (7, (.ptr 1007 0 [])), (8, (i6 (w64 ((s4.2.length : Int) - (1 : Int))))), (16, (.sref 100000 6 0 r2.length)), (17, (i6 (r1.length : Int))), (18, (i6 s4.1)), (42, (bo (!false)))] [(1002, some (.box 88 (.st [(.func 35 []), (.func 37 []), (.func 137 [])]))), (1007, some (.box 120 (.d (e_api_Addr_ x164)))), (3005, some (we_api_Addr__120_6 s4.2)), (100000, some (we_api_Addr__120_6 r2))] hB) (mp [] _ _ hB))
            · replace h := ite_f hg192 h
              refine dr (c (ov (.ptr 1002 0 [0]) (fp hN Tryd.underlying88 0 tyS70 _ (q 2))) rfl (c (lb hN 88 _ (.func 35 []) tyS70 (At.st1 (f := (.func 35 [])) (by rfl) (by rfl) (At.here _) (by first | rfl | omega)) (q 43)) rfl (c (ov (.ptr 1007 0 [0]) (fp hN Tryd.underlying120 0 tyS32 _ (q 7))) rfl (c (lb hN 120 _ _ tyS32 (ad _) (q 45)) rfl (c (mv hN (q 5)) rfl (c (mv hN (q 8)) rfl (c (OpJ.val (v' := (.ptr 3005 ((w64 ((s4.2.length : Int) - (1 : Int))).toNat * 6) [(w64 ((s4.2.length : Int) - (1 : Int))).toNat])) (by simp) (OpJ.indexS Tryd.underlying82 tyS120 (idx_some hx189).1 (by have := idx_lt hx189; first | (simpa using this) | ((try simp only [List.length_map] at this); (try simp only [List.length_map]); omega)) (L rfl) (q 47) (q 48))) rfl (c (ov (.ptr 3005 (((w64 ((s4.2.length : Int) - (1 : Int))).toNat * 6) + 3) [(w64 ((s4.2.length : Int) - (1 : Int))).toNat, 1]) (fp hN Tryd.underlying120 3 tyS32 _ (q 49))) rfl (c (OpJ.loadR (e := 120) (sz := 6) tyS32 (get_map e_api_Addr_ (idx_some hx190).2) (o := 3) (ad _) (by rfl) (by rfl) (by rfl) (L rfl) (q 50)) rfl (cg (OpJ.callVal (args := [(.d (e_api_Addr x164.ffrom)), (.d (e_api_Addr x190.fto))]) (caps := []) hB fnOk35 [] (addr_Cmp_ac x164.ffrom x190.fto r191 hr191) (by kernel_rfl) (L rfl) (by kernel_rfl) (by kernel_rfl) (OpdL.cons (q 46) (OpdL.cons (q 51) OpdL.nil))) rfl (c (OpJ.gtr (L rfl) (q 52) (Opd.int .i64 (0))) rfl (c (OpJ.val (v' := .d (.bool false)) (by rw [hg192] <;> rfl) (mv hN (q 53))) rfl (cg (OpJ.skipU (g := 54) (L rfl) (by rfl)) rfl (cg (OpJ.skipU (g := 54) (L rfl) (by rfl)) rfl (cg (OpJ.skipV (g := 56) (L rfl) (by rfl)) rfl (cg (OpJ.skipV (g := 56) (L rfl) (by rfl)) rfl (cg (OpJ.skipV (g := 56) (L rfl) (by rfl)) rfl (cg (OpJ.skipV (g := 56) (L rfl) (by rfl)) rfl (cg (OpJ.skipV (g := 56) (L rfl) (by rfl)) rfl (cg (OpJ.skipV (g := 56) (L rfl) (by rfl)) rfl (cg (OpJ.skipV (g := 56) (L rfl) (by rfl)) rfl (cg (OpJ.skipU (g := 54) (L rfl) (by rfl)) rfl (cg (OpJ.skipU (g := 54) (L rfl) (by rfl)) rfl (c (OpJ.pickF (L rfl) (q 54) (Opd.bool false)) rfl (c (OpJ.assign (L rfl) (q 66)) rfl cn))))))))))))))))))))))))) (by kernel_rfl) (by kernel_rfl) ?_
              exact hjj180 _ h _ _ (Mat.trans (mp [] [(2, (.ptr 1002 0 [])), (5, (.sref 3005 6 0 s4.2.length)), (7, (.ptr 1007 0 [])), (8, (i6 (w64 ((s4.2.length : Int) - (1 : Int))))), (16, (.sref 100000 6 0 r2.length)), (17, (i6 (r1.length : Int))), (18, (i6 s4.1)), (42, (bo false))] [(1002, some (.box 88 (.st [(.func 35 []), (.func 37 []), (.func 137 [])]))), (1007, some (.box 120 (.d (e_api_Addr_ x164)))), (3005, some (we_api_Addr__120_6 s4.2)), (100000, some (we_api_Addr__120_6 r2))] hB) (mp [] _ _ hB))
    · replace h := ite_f hg128 h
      refine AWp.exit ?_
      refine seqQ_e ?_
      obtain rfl := Option.some.inj h
      exact ⟨(fun hc => by cases hc), rfl, (mp [] _ _ hB)⟩
  · obtain ⟨rfl, hmat⟩ := hR
    refine blkQ_hit ?_
    refine seqQ_n ?_
    refine AWp.ghost hmat ?_
    refine sr (c (mv hN (q 5)) rfl (c (OpJ.assign (L rfl) (q 90)) rfl cn)) ?_
    refine gh [(4, _)] [(3005, some _)] hB rfl rfl (by rfl) ?_
    refine AWp.ret ?_
    obtain rfl := Option.some.inj h
    exact ⟨.inl rfl, _, _, (Mat.trans (Mat.freezeP (n := 3005) (e := 120) (sz := 6) (es := p127.map e_api_Addr_) (Ts := [(4, (qe_api_Addr__6 p127))]) (Bs := []) (by rfl) (TwT.cons (x := (.sref 3005 6 0 p127.length)) (by rfl) (FrzL.all (by first | rfl | (simp; done) | (simp; omega) | omega)) TwT.nil) TwB.nil) (mp [] [(4, (qe_api_Addr__6 p127))] [] hB)), [(qe_api_Addr__6 p127)], (Res.tmp (by rfl) (by rfl) Res.nil), rfl, by rfl, by rfl, by rfl⟩

noncomputable def ext82_slices_Clone_R (a0 : (List resource_part_int_)) : Option (List resource_part_int_) := chk (decide (a0.length ≤ LIM)) <|
  some a0
theorem ext82_slices_Clone_R_ac (a0 : (List resource_part_int_)) (r : List resource_part_int_) (h : ext82_slices_Clone_R a0 = some r) : AC Tryd.prog 82 [(.d (.list 2 (a0.map e_resource_part_int_)))] [] (.sref 900000 2 0 r.length) [(900000, some (.row 122 2 (r.map e_resource_part_int_)))] := by
  obtain ⟨hc, h⟩ := chk_some h
  obtain rfl := Option.some.inj h
  exact AC.cloneR cloneOk82 (by simp) (by rw [List.length_map]; exact lim_mulN hc (by decide)) (map_sz (f := e_resource_part_int_) (fun _ => rfl))

noncomputable def resource_order_normal_1_2 (a0 : resource_part_int_) (a1 : resource_part_int_) : Option (Int) :=
  (cmp_Compare a0.ffrom a1.ffrom).bind fun r1 =>
  some r1
set_option maxHeartbeats 4000000 in
set_option maxRecDepth 100000 in
theorem resource_order_normal_1_2_ac (a0 : resource_part_int_) (a1 : resource_part_int_) (r : Int) (h : resource_order_normal_1_2 a0 a1 = some r) : AC Tryd.prog 84 [(.d (e_resource_part_int_ a0)), (.d (e_resource_part_int_ a1)), (.ptr 0 0 [])] [(0, (.box 92 (.st [(.func 70 []), (.func 138 []), (.func 139 [])])))] (.d (.int .i64 r)) [(0, some (.box 92 (.st [(.func 70 []), (.func 138 []), (.func 139 [])])))] := by
  refine AC.of_code2 Tryd.func84 rfl rfl (Nat.le_of_ble_eq_true (by rfl)) fun B hB hN => ?_
  delta resource_order_normal_1_2 at h
  refine sr (cg (OpJ.box hB (nm := 1003) (by decide) (by simp) rfl (ltN hN rfl) (q 0)) rfl (cg (OpJ.box hB (nm := 1004) (by decide) (by simp) rfl (ltN hN rfl) (q 1)) rfl (c (OpJ.assign (ltN hN rfl) (Opd.int .i64 (0))) rfl cn))) ?_
  refine gh [(2, _), (3, _), (4, _)] [(0, some _), (1003, some _), (1004, some _)] hB rfl rfl (by rfl) ?_
  obtain ⟨r1, hr1, h⟩ := bindS h
  refine sr (c (ov (.ptr 0 0 [0]) (fp hN Tryd.underlying92 0 tyS39 _ (q 2))) rfl (c (lb hN 92 _ (.func 70 []) tyS39 (At.st1 (f := (.func 70 [])) (by rfl) (by rfl) (At.here _) (by first | rfl | omega)) (q 6)) rfl (c (ov (.ptr 1003 0 [0]) (fp hN Tryd.underlying122 0 tyS3 _ (q 3))) rfl (c (lb hN 122 _ _ tyS3 (ad _) (q 8)) rfl (c (ov (.ptr 1004 0 [0]) (fp hN Tryd.underlying122 0 tyS3 _ (q 4))) rfl (c (lb hN 122 _ _ tyS3 (ad _) (q 10)) rfl (cg (OpJ.callVal (args := [(i6 a0.ffrom), (i6 a1.ffrom)]) (caps := []) hB fnOk70 [] (cmp_Compare_ac a0.ffrom a1.ffrom r1 hr1) (by kernel_rfl) (ltN hN rfl) (by kernel_rfl) (by kernel_rfl) (OpdL.cons (q 9) (OpdL.cons (q 11) OpdL.nil))) rfl (c (OpJ.assign (ltN hN rfl) (q 12)) rfl cn)))))))) ?_
  refine gh [(5, _)] [(0, some _)] hB rfl rfl (by rfl) ?_
  refine AWp.ret ?_
  obtain rfl := Option.some.inj h
  exact ⟨.inl rfl, _, _, (kp [(5, _)] [(0, some _)] hB rfl rfl (by rfl)), [(i6 r1)], (Res.tmp (by rfl) (by rfl) Res.nil), rfl, by rfl, by rfl, by rfl⟩

noncomputable def ext83_slices_SortFunc_resource_order_normal_1_2 (a0 : (List resource_part_int_)) : Option (List resource_part_int_) := sortF a0 fun x y => resource_order_normal_1_2 x y
theorem ext83_slices_SortFunc_resource_order_normal_1_2_ac (a0 : (List resource_part_int_)) (r : List resource_part_int_) (h : ext83_slices_SortFunc_resource_order_normal_1_2 a0 = some r) : AC Tryd.prog 83 [(.sref 900 2 0 a0.length), (.func 84 [(.ptr 0 0 [])])] [(0, (.box 92 (.st [(.func 70 []), (.func 138 []), (.func 139 [])]))), (900, (.row 122 2 (a0.map e_resource_part_int_)))] (.tup []) [(0, some (.box 92 (.st [(.func 70 []), (.func 138 []), (.func 139 [])]))), (900, some (.row 122 2 (r.map e_resource_part_int_)))] :=
  AC.sortFC e_resource_part_int_ (fun x y => resource_order_normal_1_2 x y) a0 r h sortOk83 fnOk84 (fun _ => rfl) (by rfl) (by rfl) rfl (fun x y c hc => resource_order_normal_1_2_ac x y c hc)

noncomputable def resource_order_normal_2_L0 (r1 : List resource_part_int_) (r2 : List resource_part_int_) (s4 : Int × (List resource_part_int_)) : Option ((((List resource_part_int_))) ⊕ (Int × (List resource_part_int_))) :=
  (if (decide (s4.1 < (r1.length : Int))) = true then
  jn (fun m161 : (List resource_part_int_) =>
  some (.inr ((w64 (s4.1 + (1 : Int))), m161))) (fun j162 =>
  (idx r2 s4.1).bind fun x163 =>
  (idx r2 s4.1).bind fun x164 =>
  (if (decide ((w64 ((s4.2.length : Int) - (1 : Int))) < (0 : Int))) = true then
  chk (decide ((s4.2 ++ ([x164] : List resource_part_int_)).length ≤ LIM)) <|
  j162 (s4.2 ++ ([x164] : List resource_part_int_))
  else
  (idx s4.2 (w64 ((s4.2.length : Int) - (1 : Int)))).bind fun x167 =>
  (idx s4.2 (w64 ((s4.2.length : Int) - (1 : Int)))).bind fun x168 =>
  (resource_numbers_1 x168.fto).bind fun r169 =>
  jn (fun m179 : Bool =>
  (if m179 = true then
  chk (decide ((s4.2 ++ ([x164] : List resource_part_int_)).length ≤ LIM)) <|
  j162 (s4.2 ++ ([x164] : List resource_part_int_))
  else
  (idx s4.2 (w64 ((s4.2.length : Int) - (1 : Int)))).bind fun x183 =>
  (idx s4.2 (w64 ((s4.2.length : Int) - (1 : Int)))).bind fun x184 =>
  (cmp_Compare x164.fto x184.fto).bind fun r185 =>
  (if (decide ((0 : Int) < r185)) = true then
  (idx s4.2 (w64 ((s4.2.length : Int) - (1 : Int)))).bind fun x187 =>
  (idx s4.2 (w64 ((s4.2.length : Int) - (1 : Int)))).bind fun x188 =>
  j162 (s4.2.set (w64 ((s4.2.length : Int) - (1 : Int))).toNat (resource_part_int_.mk x188.ffrom x164.fto))
  else
  j162 s4.2))) (fun j180 =>
  (idx s4.2 (w64 ((s4.2.length : Int) - (1 : Int)))).bind fun x189 =>
  (idx s4.2 (w64 ((s4.2.length : Int) - (1 : Int)))).bind fun x190 =>
  (cmp_Compare x164.ffrom x190.fto).bind fun r191 =>
  (if (decide ((0 : Int) < r191)) = true then
  (if r169.2 = true then
  (cmp_Compare r169.1 x164.ffrom).bind fun r194 =>
  j180 (!(r194 == (0 : Int)))
  else
  j180 (!false))
  else
  j180 false))))
  else
  some (.inl s4.2))
noncomputable def resource_order_normal_2 (a0 : (List resource_part_int_)) : Option ((List resource_part_int_)) :=
  (ext82_slices_Clone_R a0).bind fun r1 =>
  (ext83_slices_SortFunc_resource_order_normal_1_2 r1).bind fun r2 =>
  chk (decide (r2.length = r1.length)) <|
  (loop (resource_order_normal_2_L0 r1 r2) ((0 : Int), ([] : List resource_part_int_))).bind fun p127 =>
  some p127
set_option maxHeartbeats 4000000 in
set_option maxRecDepth 100000 in
theorem resource_order_normal_2_ac (a0 : (List resource_part_int_)) (r : (List resource_part_int_)) (h : resource_order_normal_2 a0 = some r) : AC Tryd.prog 56 [(.st [(.func 70 []), (.func 138 []), (.func 139 [])]), (.d (.list 2 (a0.map e_resource_part_int_)))] [] (.d (.list 2 (r.map e_resource_part_int_))) [] := by
  refine AC.of_code2 Tryd.func56 rfl rfl (Nat.le_of_ble_eq_true (by rfl)) fun B hB hN => ?_
  have L {d : Nat} (h : Nat.blt d Tryd.f56.ntmps = true) : d < B.N := ltN hN h
  delta resource_order_normal_2 at h
  refine sr (cg (OpJ.box hB (nm := 1002) (by decide) (by simp) rfl (L rfl) (q 0)) rfl (c (OpJ.assign (L rfl) Opd.nils) rfl cn)) ?_
  refine gh [(1, _), (2, _)] [(1002, some _)] hB rfl rfl (by rfl) ?_
  refine AWp.seq ?_
  obtain ⟨r1, hr1, h⟩ := bindS h
  refine AWp.region (oc (mv hN (ot 1 (.d (.list 2 (a0.map e_resource_part_int_)))))
  (oc (OpJ.callFn hB fnOk82 (ext82_slices_Clone_R_ac a0 r1 hr1) [(900000, 100000)] (by kernel_rfl) (L rfl) (by kernel_rfl) (OpdL.cons (ot 11 (.d (.list 2 (a0.map e_resource_part_int_)))) OpdL.nil))
  (oc (OpJ.assign (L rfl) (ot 12 (.sref 100000 2 0 r1.length)))
  (OpJs.nil)))) (by rfl) (by rfl) ?_
  refine seqQ_n ?_
  refine AWp.ghost (mp [] [(1, (.sref 100000 2 0 r1.length)), (2, (.ptr 1002 0 []))] [(1002, some (.box 92 (.st [(.func 70 []), (.func 138 []), (.func 139 [])]))), (100000, some (.row 122 2 (r1.map e_resource_part_int_)))] hB) ?_
  refine AWp.seq ?_
  obtain ⟨r2, hr2, h⟩ := bindS h
  obtain ⟨hc3, h⟩ := chk_some h
  have lhc3 := of_decide_eq_true hc3
  have hc3_o := of_decide_eq_true hc3
  refine AWp.region (oc (mv hN (ot 1 (.sref 100000 2 0 r1.length)))
  (oc (OpJ.makeF (OpdL.cons (ot 2 (.ptr 1002 0 [])) OpdL.nil) rfl rfl (L rfl))
  (oc (OpJ.callFn hB fnOk83 (ext83_slices_SortFunc_resource_order_normal_1_2_ac r1 r2 hr2) [(900, 100000), (0, 1002)] (by kernel_rfl) (L rfl) (by kernel_rfl) (OpdL.cons (ot 13 (.sref 100000 2 0 r1.length)) (OpdL.cons (ot 14 (.func 84 [(.ptr 1002 0 [])])) OpdL.nil)))
  (OpJs.nil)))) (by rfl) (by rfl) ?_
  refine seqQ_n ?_
  refine AWp.ghost (mp [] [(1, (.sref 100000 2 0 r1.length)), (2, (.ptr 1002 0 []))] [(1002, some (.box 92 (.st [(.func 70 []), (.func 138 []), (.func 139 [])]))), (100000, some (.row 122 2 (r2.map e_resource_part_int_)))] hB) ?_
  refine sr (c (OpJ.assign (L rfl) Opd.nils) rfl cn) ?_
  refine gh [(1, _), (2, _), (5, _)] [(1002, some _), (100000, some _)] hB rfl rfl (by rfl) ?_
  refine AWp.seq ?_
  refine sr (c (mv hN (q 1)) rfl (c (OpJ.lenS Tryd.underlying83 (L rfl) (q 16)) rfl (c (mv hN (Opd.int .i64 (0))) rfl cn))) ?_
  refine gh [(2, _), (5, _), (16, _), (17, _), (18, _)] [(1002, some _), (100000, some _)] hB rfl rfl (by rfl) ?_
  refine AWp.block ?_
  obtain ⟨p127, hx196, h⟩ := bindS h
  refine lg (resource_order_normal_2_L0 r1 r2) (fun s4 : Int × (List resource_part_int_) => ([(2, (.ptr 1002 0 [])), (5, (.sref 3005 2 0 s4.2.length)), (16, (.sref 100000 2 0 r2.length)), (17, (i6 (r1.length : Int))), (18, (i6 s4.1))] : EL)) (fun s4 : Int × (List resource_part_int_) => ([(1002, some (.box 92 (.st [(.func 70 []), (.func 138 []), (.func 139 [])]))), (3005, some (.row 122 2 (s4.2.map e_resource_part_int_))), (100000, some (.row 122 2 (r2.map e_resource_part_int_)))] : OL)) (fun (p127 : ((List resource_part_int_))) e E' O' => e = .exit 0 ∧ Mat B E' O' ([(5, (.sref 3005 2 0 p127.length))] : EL) ([(3005, some (.row 122 2 (p127.map e_resource_part_int_)))] : OL)) hx196 (Mat.trans (Mat.beginP (n := 3005) (e := 122) (sz := 2) (Ts := [(5, (.sref 3005 2 0 0))]) (Bs := []) hB (by decide) (by rfl) (by decide) (TwT.cons (x := .nils) (by rfl) (Tw.leaf ⟨rfl, rfl⟩) TwT.nil) TwB.nil) (Mat.trans (Mat.lenP (Ts := [(16, (.sref 100000 2 0 r2.length))]) (Bs := []) (TwT.cons (x := (.sref 100000 2 0 r1.length)) (by rfl) (Tw.leaf ⟨_, _, _, _, _, rfl, rfl, (by first | rfl | (simp; done) | (simp; omega) | omega)⟩) TwT.nil) TwB.nil) (mp [] _ _ hB))) (fun s4 y h => ?_) (fun e E' O' hR => ?_)
  · unfold resource_order_normal_2_L0 at h
    refine sr (c (OpJ.lss (L rfl) (q 18) (q 17)) rfl cn) ?_
    refine gh [(2, _), (5, _), (16, _), (17, _), (18, _), (19, _)] [(1002, some _), (3005, some _), (100000, some _)] hB rfl rfl (by rfl) ?_
    refine AWp.seq ?_
    refine AWp.cond rfl (fun hg128 => ?_) (fun hg128 => ?_)
    · replace h := ite_t hg128 h
      refine AWp.skip ?_
      refine seqQ_n ?_
      refine AWp.seq ?_
      refine AWp.cut h (fun m161 : (List resource_part_int_) => ([(2, (.ptr 1002 0 [])), (5, (.sref 3005 2 0 m161.length)), (16, (.sref 100000 2 0 r2.length)), (17, (i6 (r1.length : Int))), (18, (i6 s4.1))] : EL)) (fun m161 : (List resource_part_int_) => ([(1002, some (.box 92 (.st [(.func 70 []), (.func 138 []), (.func 139 [])]))), (3005, some (.row 122 2 (m161.map e_resource_part_int_))), (100000, some (.row 122 2 (r2.map e_resource_part_int_)))] : OL)) (fun m161 h E' O' hmat => ?_) (fun j162 hjj162 h => ?_)
      · refine seqQ_n ?_
        refine AWp.ghost hmat ?_
        refine rg (c (add6 (L rfl) (q 18) (Opd.int .i64 (1))) rfl (c (mv hN (q 89)) rfl cn)) ?_
        obtain rfl := Option.some.inj h
        exact ⟨rfl, (Mat.trans (mp [] [(2, (.ptr 1002 0 [])), (5, (.sref 3005 2 0 m161.length)), (16, (.sref 100000 2 0 r2.length)), (17, (i6 (r1.length : Int))), (18, (i6 (w64 (s4.1 + (1 : Int)))))] [(1002, some (.box 92 (.st [(.func 70 []), (.func 138 []), (.func 139 [])]))), (3005, some (.row 122 2 (m161.map e_resource_part_int_))), (100000, some (.row 122 2 (r2.map e_resource_part_int_)))] hB) (mp [] _ _ hB))⟩
      · refine AWp.block ?_
        obtain ⟨x163, hx163, h⟩ := bindS h
        obtain ⟨x164, hx164, h⟩ := bindS h
        refine sr (c (OpJ.val (v' := (.ptr 100000 (s4.1.toNat * 2) [s4.1.toNat])) (by simp) (OpJ.indexS Tryd.underlying83 tyS122 (idx_some hx163).1 (by have := idx_lt hx163; first | (simpa using this) | ((try simp only [List.length_map] at this); (try simp only [List.length_map]); omega)) (L rfl) (q 16) (q 18))) rfl (c (OpJ.loadR (e := 122) (sz := 2) tyS122 (get_map e_resource_part_int_ (idx_some hx164).2) (o := 0) (At.here _) (by rfl) (by rfl) (by rfl) (L rfl) (q 20)) rfl (cg (OpJ.alloc hB tyZ122 (nm := 1007) (by decide) (L rfl)) rfl (cg (OpJ.storeB tyS122 (SetAt.here _ _) (by rfl) (by rfl) (by simp) rfl (q 7) (q 21)) rfl cn)))) ?_
        refine gh [(2, _), (5, _), (7, _), (16, _), (17, _), (18, _)] [(1002, some _), (1007, some _), (3005, some _), (100000, some _)] hB rfl rfl (by rfl) ?_
        refine sr (c (mv hN (q 5)) rfl (c (OpJ.lenS Tryd.underlying83 (L rfl) (q 22)) rfl (c (sub6 (L rfl) (q 23) (Opd.int .i64 (1))) rfl (c (OpJ.assign (L rfl) (q 24)) rfl cn)))) ?_
        refine gh [(2, _), (5, _), (7, _), (8, _), (16, _), (17, _), (18, _)] [(1002, some _), (1007, some _), (3005, some _), (100000, some _)] hB rfl rfl (by rfl) ?_
        refine AWp.seq ?_
        refine sr (c (mv hN (q 8)) rfl (c (OpJ.lss (L rfl) (q 25) (Opd.int .i64 (0))) rfl cn)) ?_
        refine gh [(2, _), (5, _), (7, _), (8, _), (16, _), (17, _), (18, _), (26, _)] [(1002, some _), (1007, some _), (3005, some _), (100000, some _)] hB rfl rfl (by rfl) ?_
        refine AWp.cond rfl (fun hg165 => ?_) (fun hg165 => ?_)
        · replace h := ite_t hg165 h
          obtain ⟨hc166, h⟩ := chk_some h
          refine sr (c (mv hN (q 5)) rfl (c (lb hN 122 _ _ tyS122 (At.here _) (q 7)) rfl (c (OpJ.buildSlice Tryd.underlying83 tyS122 tyZD122 (by rfl) (by decide) (by decide) (Opds.cons (q 28) Opds.nil) (by kernel_rfl) (es := ([(e_resource_part_int_ x164)] : List D)) (by rfl) (by rfl) (by kernel_rfl) (by simp) (L rfl)) rfl (cg (OpJ.append hB Tryd.underlying83 tyE122 (nm := 1030) (by decide) (es := s4.2.map e_resource_part_int_) (ys := ([x164] : List resource_part_int_).map e_resource_part_int_) (es' := (s4.2 ++ ([x164] : List resource_part_int_)).map e_resource_part_int_) (len := (s4.2 ++ ([x164] : List resource_part_int_)).length) (by simp) (by simp) (map_sz (f := e_resource_part_int_) (fun _ => rfl)) (by rw [List.length_map]; exact lim_mulN hc166 (by decide)) (by rw [List.length_map]; exact lim_leN hc166) (L rfl) (by simp) (q 27) (q 29)) rfl (c (OpJ.assign (L rfl) (q 30)) rfl cn))))) ?_
          refine gh [(2, _), (5, _), (16, _), (17, _), (18, _)] [(1002, some _), (1030, some _), (100000, some _)] hB rfl rfl (by rfl) ?_
          refine AWp.exit ?_
          refine seqQ_e ?_
          refine blkQ_hit ?_
          exact hjj162 _ h _ _ (mp [(3005, 1030)] _ _ hB)
        · replace h := ite_f hg165 h
          refine AWp.skip ?_
          refine seqQ_n ?_
          obtain ⟨x167, hx167, h⟩ := bindS h
          obtain ⟨x168, hx168, h⟩ := bindS h
          obtain ⟨r169, hr169, h⟩ := bindS h
          refine sd (c (ov (.ptr 1002 1 [1]) (fp hN Tryd.underlying92 1 tyS90 _ (q 2))) rfl (c (lb hN 92 _ (.func 138 []) tyS90 (At.st1 (f := (.func 138 [])) (by rfl) (by rfl) (At.here _) (by first | rfl | omega)) (q 32)) rfl (c (mv hN (q 5)) rfl (c (mv hN (q 8)) rfl (c (OpJ.val (v' := (.ptr 3005 ((w64 ((s4.2.length : Int) - (1 : Int))).toNat * 2) [(w64 ((s4.2.length : Int) - (1 : Int))).toNat])) (by simp) (OpJ.indexS Tryd.underlying83 tyS122 (idx_some hx167).1 (by have := idx_lt hx167; first | (simpa using this) | ((try simp only [List.length_map] at this); (try simp only [List.length_map]); omega)) (L rfl) (q 34) (q 35))) rfl (c (ov (.ptr 3005 (((w64 ((s4.2.length : Int) - (1 : Int))).toNat * 2) + 1) [(w64 ((s4.2.length : Int) - (1 : Int))).toNat, 1]) (fp hN Tryd.underlying122 1 tyS3 _ (q 36))) rfl (c (OpJ.loadR (e := 122) (sz := 2) tyS3 (get_map e_resource_part_int_ (idx_some hx168).2) (o := 1) (ad _) (by rfl) (by rfl) (by rfl) (L rfl) (q 37)) rfl (cg (OpJ.callVal (args := [(i6 x168.fto)]) (caps := []) hB fnOk138 [] (resource_numbers_1_ac x168.fto r169 hr169) (by kernel_rfl) (L rfl) (by kernel_rfl) (by kernel_rfl) (OpdL.cons (q 38) OpdL.nil)) rfl (c (mv hN (q 39)) rfl (c (OpJ.extract (by rfl) rfl (L rfl) (q 31)) rfl (c (OpJ.extract (by rfl) rfl (L rfl) (q 31)) rfl (c (OpJ.assign (L rfl) (q 40)) rfl (c (OpJ.assign (L rfl) (q 41)) rfl cn))))))))))))) (by kernel_rfl) (by kernel_rfl) ?_
          refine gh [(2, _), (5, _), (7, _), (8, _), (9, _), (10, _), (16, _), (17, _), (18, _)] [(1002, some _), (1007, some _), (3005, some _), (100000, some _)] hB rfl rfl (by rfl) ?_
          refine AWp.block ?_
          refine AWp.seq ?_
          refine AWp.cut h (fun m179 : Bool => ([(2, (.ptr 1002 0 [])), (5, (.sref 3005 2 0 s4.2.length)), (7, (.ptr 1007 0 [])), (8, (i6 (w64 ((s4.2.length : Int) - (1 : Int))))), (16, (.sref 100000 2 0 r2.length)), (17, (i6 (r1.length : Int))), (18, (i6 s4.1)), (42, (bo m179))] : EL)) (fun m179 : Bool => ([(1002, some (.box 92 (.st [(.func 70 []), (.func 138 []), (.func 139 [])]))), (1007, some (.box 122 (.d (e_resource_part_int_ x164)))), (3005, some (.row 122 2 (s4.2.map e_resource_part_int_))), (100000, some (.row 122 2 (r2.map e_resource_part_int_)))] : OL)) (fun m179 h E' O' hmat => ?_) (fun j180 hjj180 h => ?_)
          · refine seqQ_n ?_
            refine AWp.ghost hmat ?_
            refine AWp.cond rfl (fun hg181 => ?_) (fun hg181 => ?_)
            · replace h := ite_t hg181 h
              obtain ⟨hc182, h⟩ := chk_some h
              refine rg (c (mv hN (q 5)) rfl (c (lb hN 122 _ _ tyS122 (At.here _) (q 7)) rfl (c (OpJ.buildSlice Tryd.underlying83 tyS122 tyZD122 (by rfl) (by decide) (by decide) (Opds.cons (q 68) Opds.nil) (by kernel_rfl) (es := ([(e_resource_part_int_ x164)] : List D)) (by rfl) (by rfl) (by kernel_rfl) (by simp) (L rfl)) rfl (cg (OpJ.append hB Tryd.underlying83 tyE122 (nm := 1070) (by decide) (es := s4.2.map e_resource_part_int_) (ys := ([x164] : List resource_part_int_).map e_resource_part_int_) (es' := (s4.2 ++ ([x164] : List resource_part_int_)).map e_resource_part_int_) (len := (s4.2 ++ ([x164] : List resource_part_int_)).length) (by simp) (by simp) (map_sz (f := e_resource_part_int_) (fun _ => rfl)) (by rw [List.length_map]; exact lim_mulN hc182 (by decide)) (by rw [List.length_map]; exact lim_leN hc182) (L rfl) (by simp) (q 67) (q 69)) rfl (c (OpJ.assign (L rfl) (q 70)) rfl cn))))) ?_
              refine blkQ_n ?_
              refine blkQ_n ?_
              exact hjj162 _ h _ _ (Mat.trans (mp [] [(2, (.ptr 1002 0 [])), (5, (.sref 1070 2 0 ((s4.2 ++ ([x164] : List resource_part_int_)).length))), (16, (.sref 100000 2 0 r2.length)), (17, (i6 (r1.length : Int))), (18, (i6 s4.1))] [(1002, some (.box 92 (.st [(.func 70 []), (.func 138 []), (.func 139 [])]))), (1070, some (.row 122 2 ((s4.2 ++ ([x164] : List resource_part_int_)).map e_resource_part_int_))), (100000, some (.row 122 2 (r2.map e_resource_part_int_)))] hB) (mp [(3005, 1070)] _ _ hB))
            · replace h := ite_f hg181 h
              obtain ⟨x183, hx183, h⟩ := bindS h
              obtain ⟨x184, hx184, h⟩ := bindS h
              obtain ⟨r185, hr185, h⟩ := bindS h
              refine sd (c (ov (.ptr 1002 0 [0]) (fp hN Tryd.underlying92 0 tyS39 _ (q 2))) rfl (c (lb hN 92 _ (.func 70 []) tyS39 (At.st1 (f := (.func 70 [])) (by rfl) (by rfl) (At.here _) (by first | rfl | omega)) (q 72)) rfl (c (ov (.ptr 1007 1 [1]) (fp hN Tryd.underlying122 1 tyS3 _ (q 7))) rfl (c (lb hN 122 _ _ tyS3 (ad _) (q 74)) rfl (c (mv hN (q 5)) rfl (c (mv hN (q 8)) rfl (c (OpJ.val (v' := (.ptr 3005 ((w64 ((s4.2.length : Int) - (1 : Int))).toNat * 2) [(w64 ((s4.2.length : Int) - (1 : Int))).toNat])) (by simp) (OpJ.indexS Tryd.underlying83 tyS122 (idx_some hx183).1 (by have := idx_lt hx183; first | (simpa using this) | ((try simp only [List.length_map] at this); (try simp only [List.length_map]); omega)) (L rfl) (q 76) (q 77))) rfl (c (ov (.ptr 3005 (((w64 ((s4.2.length : Int) - (1 : Int))).toNat * 2) + 1) [(w64 ((s4.2.length : Int) - (1 : Int))).toNat, 1]) (fp hN Tryd.underlying122 1 tyS3 _ (q 78))) rfl (c (OpJ.loadR (e := 122) (sz := 2) tyS3 (get_map e_resource_part_int_ (idx_some hx184).2) (o := 1) (ad _) (by rfl) (by rfl) (by rfl) (L rfl) (q 79)) rfl (cg (OpJ.callVal (args := [(i6 x164.fto), (i6 x184.fto)]) (caps := []) hB fnOk70 [] (cmp_Compare_ac x164.fto x184.fto r185 hr185) (by kernel_rfl) (L rfl) (by kernel_rfl) (by kernel_rfl) (OpdL.cons (q 75) (OpdL.cons (q 80) OpdL.nil))) rfl (c (OpJ.gtr (L rfl) (q 81) (Opd.int .i64 (0))) rfl (c (OpJ.assign (L rfl) (q 82)) rfl cn)))))))))))) (by kernel_rfl) (by kernel_rfl) ?_
              refine gh [(2, _), (5, _), (7, _), (8, _), (16, _), (17, _), (18, _), (71, _)] [(1002, some _), (1007, some _), (3005, some _), (100000, some _)] hB rfl rfl (by rfl) ?_
              refine AWp.cond rfl (fun hg186 => ?_) (fun hg186 => ?_)
              · replace h := ite_t hg186 h
                obtain ⟨x187, hx187, h⟩ := bindS h
                obtain ⟨x188, hx188, h⟩ := bindS h
                refine rg (c (mv hN (q 5)) rfl (c (mv hN (q 8)) rfl (c (ov (.ptr 1007 1 [1]) (fp hN Tryd.underlying122 1 tyS3 _ (q 7))) rfl (c (lb hN 122 _ _ tyS3 (ad _) (q 85)) rfl (c (OpJ.val (v' := (.ptr 3005 ((w64 ((s4.2.length : Int) - (1 : Int))).toNat * 2) [(w64 ((s4.2.length : Int) - (1 : Int))).toNat])) (by simp) (OpJ.indexS Tryd.underlying83 tyS122 (idx_some hx187).1 (by have := idx_lt hx187; first | (simpa using this) | ((try simp only [List.length_map] at this); (try simp only [List.length_map]); omega)) (L rfl) (q 83) (q 84))) rfl (c (ov (.ptr 3005 (((w64 ((s4.2.length : Int) - (1 : Int))).toNat * 2) + 1) [(w64 ((s4.2.length : Int) - (1 : Int))).toNat, 1]) (fp hN Tryd.underlying122 1 tyS3 _ (q 87))) rfl (cg (OpJ.storeR (e := 122) (sz := 2) (es' := (s4.2.set (w64 ((s4.2.length : Int) - (1 : Int))).toNat (resource_part_int_.mk x188.ffrom x164.fto)).map e_resource_part_int_) tyS3 (get_map e_resource_part_int_ (idx_some hx188).2) (o := 1) (SetAt.dst1 (by rfl) (by rfl) (SetAt.here _ _) (by rfl) (by rfl) (by first | rfl | omega)) (by rfl) (map_set _ _ _ _) (by rfl) (by rfl) (q 88) (q 86)) rfl cn))))))) ?_
                refine blkQ_n ?_
                refine blkQ_n ?_
                exact hjj162 _ h _ _ (Mat.trans (mp [] [(2, (.ptr 1002 0 [])), (5, (.sref 3005 2 0 s4.2.length)), (16, (.sref 100000 2 0 r2.length)), (17, (i6 (r1.length : Int))), (18, (i6 s4.1))] [(1002, some (.box 92 (.st [(.func 70 []), (.func 138 []), (.func 139 [])]))), (3005, some (.row 122 2 ((s4.2.set (w64 ((s4.2.length : Int) - (1 : Int))).toNat (resource_part_int_.mk x188.ffrom x164.fto)).map e_resource_part_int_))), (100000, some (.row 122 2 (r2.map e_resource_part_int_)))] hB) (Mat.trans (Mat.lenP (Ts := [(5, (.sref 3005 2 0 ((s4.2.set (w64 ((s4.2.length : Int) - (1 : Int))).toNat (resource_part_int_.mk x188.ffrom x164.fto)).length)))]) (Bs := []) (TwT.cons (x := (.sref 3005 2 0 s4.2.length)) (by rfl) (Tw.leaf ⟨_, _, _, _, _, rfl, rfl, (by first | rfl | (simp; done) | (simp; omega) | omega)⟩) TwT.nil) TwB.nil) (mp [] _ _ hB)))
              · replace h := ite_f hg186 h
                refine AWp.skip ?_
                refine blkQ_n ?_
                refine blkQ_n ?_
                exact hjj162 _ h _ _ (mp [] _ _ hB)
          · obtain ⟨x189, hx189, h⟩ := bindS h
            obtain ⟨x190, hx190, h⟩ := bindS h
            obtain ⟨r191, hr191, h⟩ := bindS h
            rcases Bool.eq_false_or_eq_true (decide ((0 : Int) < r191)) with hg192 | hg192
            · replace h := ite_t hg192 h
              rcases Bool.eq_false_or_eq_true r169.2 with hg193 | hg193
              · replace h := ite_t hg193 h
                obtain ⟨r194, hr194, h⟩ := bindS h
                refine dr (c (ov (.ptr 1002 0 [0]) (fp hN Tryd.underlying92 0 tyS39 _ (q 2))) rfl (c (lb hN 92 _ (.func 70 []) tyS39 (At.st1 (f := (.func 70 [])) (by rfl) (by rfl) (At.here _) (by first | rfl | omega)) (q 43)) rfl (c (ov (.ptr 1007 0 [0]) (fp hN Tryd.underlying122 0 tyS3 _ (q 7))) rfl (c (lb hN 122 _ _ tyS3 (ad _) (q 45)) rfl (c (mv hN (q 5)) rfl (c (mv hN (q 8)) rfl (c (OpJ.val (v' := (.ptr 3005 ((w64 ((s4.2.length : Int) - (1 : Int))).toNat * 2) [(w64 ((s4.2.length : Int) - (1 : Int))).toNat])) (by simp) (OpJ.indexS Tryd.underlying83 tyS122 (idx_some hx189).1 (by have := idx_lt hx189; first | (simpa using this) | ((try simp only [List.length_map] at this); (try simp only [List.length_map]); omega)) (L rfl) (q 47) (q 48))) rfl (c (ov (.ptr 3005 (((w64 ((s4.2.length : Int) - (1 : Int))).toNat * 2) + 1) [(w64 ((s4.2.length : Int) - (1 : Int))).toNat, 1]) (fp hN Tryd.underlying122 1 tyS3 _ (q 49))) rfl (c (OpJ.loadR (e := 122) (sz := 2) tyS3 (get_map e_resource_part_int_ (idx_some hx190).2) (o := 1) (ad _) (by rfl) (by rfl) (by rfl) (L rfl) (q 50)) rfl (cg (OpJ.callVal (args := [(i6 x164.ffrom), (i6 x190.fto)]) (caps := []) hB fnOk70 [] (cmp_Compare_ac x164.ffrom x190.fto r191 hr191) (by kernel_rfl) (L rfl) (by kernel_rfl) (by kernel_rfl) (OpdL.cons (q 46) (OpdL.cons (q 51) OpdL.nil))) rfl (c (OpJ.gtr (L rfl) (q 52) (Opd.int .i64 (0))) rfl (c (OpJ.val (v' := .d (.bool true)) (by rw [hg192] <;> rfl) (mv hN (q 53))) rfl (c (OpJ.guarded (g := 54) (by rfl) (mv hN (q 10))) rfl (c (OpJ.guarded (g := 54) (by rfl) (OpJ.val (v' := .d (.bool true)) (by rw [hg193] <;> rfl) (mv hN (q 55)))) rfl (c (OpJ.guarded (g := 56) (by rfl) (ov (.ptr 1002 0 [0]) (fp hN Tryd.underlying92 0 tyS39 _ (q 2)))) rfl (c (OpJ.guarded (g := 56) (by rfl) (lb hN 92 _ (.func 70 []) tyS39 (At.st1 (f := (.func 70 [])) (by rfl) (by rfl) (At.here _) (by first | rfl | omega)) (q 57))) rfl (c (OpJ.guarded (g := 56) (by rfl) (mv hN (q 9))) rfl (c (OpJ.guarded (g := 56) (by rfl) (ov (.ptr 1007 0 [0]) (fp hN Tryd.underlying122 0 tyS3 _ (q 7)))) rfl (c (OpJ.guarded (g := 56) (by rfl) (lb hN 122 _ _ tyS3 (ad _) (q 60))) rfl (cg (OpJ.guarded (g := 56) (by rfl) (OpJ.callVal (args := [(i6 r169.1), (i6 x164.ffrom)]) (caps := []) hB fnOk70 [] (cmp_Compare_ac r169.1 x164.ffrom r194 hr194) (by kernel_rfl) (L rfl) (by kernel_rfl) (by kernel_rfl) (OpdL.cons (q 59) (OpdL.cons (q 61) OpdL.nil)))) rfl (c (OpJ.guarded (g := 56) (by rfl) (OpJ.eqlI (L rfl) (q 62) (Opd.int .i64 (0)))) rfl (c (OpJ.guarded (g := 54) (by rfl) (OpJ.pickT (L rfl) (q 56) (q 63))) rfl (c (OpJ.guarded (g := 54) (by rfl) (OpJ.not (L rfl) (q 64))) rfl (c (OpJ.pickT (L rfl) (q 54) (q 65)) rfl (c (OpJ.assign (L rfl) (q 66)) rfl cn))))))))))))))))))))))))) (by kernel_rfl) (by kernel_rfl) ?_
                exact hjj180 _ h _ _ (Mat.trans (mp [] [(2, (.ptr 1002 0 [])), (5, (.sref 3005 2 0 s4.2.length)), (7, (.ptr 1007 0 [])), (8, (i6 (w64 ((s4.2.length : Int) - (1 : Int))))), (16, (.sref 100000 2 0 r2.length)), (17, (i6 (r1.length : Int))), (18, (i6 s4.1)), (42, (bo (!(r194 == (0 : Int)))))] [(1002, some (.box 92 (.st [(.func 70 []), (.func 138 []), (.func 139 [])]))), (1007, some (.box 122 (.d (e_resource_part_int_ x164)))), (3005, some (.row 122 2 (s4.2.map e_resource_part_int_))), (100000, some (.row 122 2 (r2.map e_resource_part_int_)))] hB) (mp [] _ _ hB))
              · replace h := ite_f hg193 h
                refine dr (c (ov (.ptr 1002 0 [0]) (fp hN Tryd.underlying92 0 tyS39 _ (q 2))) rfl (c (lb hN 92 _ (.func 70 []) tyS39 (At.st1 (f := (.func 70 [])) (by rfl) (by rfl) (At.here _) (by first | rfl | omega)) (q 43)) rfl (c (ov (.ptr 1007 0 [0]) (fp hN Tryd.underlying122 0 tyS3 _ (q 7))) rfl (c (lb hN 122 _ _ tyS3 (ad _) (q 45)) rfl (c (mv hN (q 5)) rfl (c (mv hN (q 8)) rfl (c (OpJ.val (v' := (.ptr 3005 ((w64 ((s4.2.length : Int) - (1 : Int))).toNat * 2) [(w64 ((s4.2.length : Int) - (1 : Int))).toNat])) (by simp) (OpJ.indexS Tryd.underlying83 tyS122 (idx_some hx189).1 (by have := idx_lt hx189; first | (simpa using this) | ((try simp only [List.length_map] at this); (try simp only [List.length_map]); omega)) (L rfl) (q 47) (q 48))) rfl (c (ov (.ptr 3005 (((w64 ((s4.2.length : Int) - (1 : Int))).toNat * 2) + 1) [(w64 ((s4.2.length : Int) - (1 : Int))).toNat, 1]) (fp hN Tryd.underlying122 1 tyS3 _ (q 49))) rfl (c (OpJ.loadR (e := 122) (sz := 2) tyS3 (get_map e_resource_part_int_ (idx_some hx190).2) (o := 1) (ad _) (by rfl) (by rfl) (by rfl) (L rfl) (q 50)) rfl (cg (OpJ.callVal (args := [(i6 x164.ffrom), (i6 x190.fto)]) (caps := []) hB fnOk70 [] (cmp_Compare_ac x164.ffrom x190.fto r191 hr191) (by kernel_rfl) (L rfl) (by kernel_rfl) (by kernel_rfl) (OpdL.cons (q 46) (OpdL.cons (q 51) OpdL.nil))) rfl (c (OpJ.gtr (L rfl) (q 52) (Opd.int .i64 (0))) rfl (c (OpJ.val (v' := .d (.bool true)) (by rw [hg192] <;> rfl) (mv hN (q 53))) rfl (c (OpJ.guarded (g := 54) (by rfl) (mv hN (q 10))) rfl (c (OpJ.guarded (g := 54) (by rfl) (OpJ.val (v' := .d (.bool false)) (by rw [hg193] <;> rfl) (mv hN (q 55)))) rfl (cg (OpJ.skipU (g := 56) (L rfl) (by rfl)) rfl (cg (OpJ.skipU (g := 56) (L rfl) (by rfl)) rfl (cg (OpJ.skipU (g := 56) (L rfl) (by rfl)) rfl (cg (OpJ.skipU (g := 56) (L rfl) (by rfl)) rfl (cg (OpJ.skipU (g := 56) (L rfl) (by rfl)) rfl (cg (OpJ.skipU (g := 56) (L rfl) (by rfl)) rfl (cg (OpJ.skipU (g := 56) (L rfl) (by rfl)) rfl (c (OpJ.guarded (g := 54) (by rfl) (OpJ.pickF (L rfl) (q 56) (Opd.bool false))) rfl (c (OpJ.guarded (g := 54) (by rfl) (OpJ.not (L rfl) (q 64))) rfl (c (OpJ.pickT (L rfl) (q 54) (q 65)) rfl (c (OpJ.assign (L rfl) (q 66)) rfl cn))))))))))))))))))))))))) (by kernel_rfl) (by kernel_rfl) ?_
                exact hjj180 _ h _ _ (Mat.trans (mp [] [(2, (.ptr 1002 0 [])), (5, (.sref 3005 2 0 s4.2.length)), (7, (.ptr 1007 0 [])), (8, (i6 (w64 ((s4.2.length : Int) - (1 : Int))))), (16, (.sref 100000 2 0 r2.length)), (17, (i6 (r1.length : Int))), (18, (i6 s4.1)), (42, (bo (!false)))] [(1002, some (.box 92 (.st [(.func 70 []), (.func 138 []), (.func 139 [])]))), (1007, some (.box 122 (.d (e_resource_part_int_ x164)))), (3005, some (.row 122 2 (s4.2.map e_resource_part_int_))), (100000, some (.row 122 2 (r2.map e_resource_part_int_)))] hB) (mp [] _ _ hB))
            · replace h := ite_f hg192 h
              refine dr (c (ov (.ptr 1002 0 [0]) (fp hN Tryd.underlying92 0 tyS39 _ (q 2))) rfl (c (lb hN 92 _ (.func 70 []) tyS39 (At.st1 (f := (.func 70 [])) (by rfl) (by rfl) (At.here _) (by first | rfl | omega)) (q 43)) rfl (c (ov (.ptr 1007 0 [0]) (fp hN Tryd.underlying122 0 tyS3 _ (q 7))) rfl (c (lb hN 122 _ _ tyS3 (ad _) (q 45)) rfl (c (mv hN (q 5)) rfl (c (mv hN (q 8)) rfl (c (OpJ.val (v' := (.ptr 3005 ((w64 ((s4.2.length : Int) - (1 : Int))).toNat * 2) [(w64 ((s4.2.length : Int) - (1 : Int))).toNat])) (by simp) (OpJ.indexS Tryd.underlying83 tyS122 (idx_some hx189).1 (by have := idx_lt hx189; first | (simpa using this) | ((try simp only [List.length_map] at this); (try simp only [List.length_map]); omega)) (L rfl) (q 47) (q 48))) rfl (c (ov (.ptr 3005 (((w64 ((s4.2.length : Int) - (1 : Int))).toNat * 2) + 1) [(w64 ((s4.2.length : Int) - (1 : Int))).toNat, 1]) (fp hN Tryd.underlying122 1 tyS3 _ (q 49))) rfl (c (OpJ.loadR (e := 122) (sz := 2) tyS3 (get_map e_resource_part_int_ (idx_some hx190).2) (o := 1) (ad _) (by rfl) (by rfl) (by rfl) (L rfl) (q 50)) rfl (cg (OpJ.callVal (args := [(i6 x164.ffrom), (i6 x190.fto)]) (caps := []) hB fnOk70 [] (cmp_Compare_ac x164.ffrom x190.fto r191 hr191) (by kernel_rfl) (L rfl) (by kernel_rfl) (by kernel_rfl) (OpdL.cons (q 46) (OpdL.cons (q 51) OpdL.nil))) rfl (c (OpJ.gtr (L rfl) (q 52) (Opd.int .i64 (0))) rfl (c (OpJ.val (v' := .d (.bool false)) (by rw [hg192] <;> rfl) (mv hN (q 53))) rfl (cg (OpJ.skipU (g := 54) (L rfl) (by rfl)) rfl (cg (OpJ.skipU (g := 54) (L rfl) (by rfl)) rfl (cg (OpJ.skipV (g := 56) (L rfl) (by rfl)) rfl (cg (OpJ.skipV (g := 56) (L rfl) (by rfl)) rfl (cg (OpJ.skipV (g := 56) (L rfl) (by rfl)) rfl (cg (OpJ.skipV (g := 56) (L rfl) (by rfl)) rfl (cg (OpJ.skipV (g := 56) (L rfl) (by rfl)) rfl (cg (OpJ.skipV (g := 56) (L rfl) (by rfl)) rfl (cg (OpJ.skipV (g := 56) (L rfl) (by rfl)) rfl (cg (OpJ.skipU (g := 54) (L rfl) (by rfl)) rfl (cg (OpJ.skipU (g := 54) (L rfl) (by rfl)) rfl (c (OpJ.pickF (L rfl) (q 54) (Opd.bool false)) rfl (c (OpJ.assign (L rfl) (q 66)) rfl cn))))))))))))))))))))))))) (by kernel_rfl) (by kernel_rfl) ?_
              exact hjj180 _ h _ _ (Mat.trans (mp [] [(2, (.ptr 1002 0 [])), (5, (.sref 3005 2 0 s4.2.length)), (7, (.ptr 1007 0 [])), (8, (i6 (w64 ((s4.2.length : Int) - (1 : Int))))), (16, (.sref 100000 2 0 r2.length)), (17, (i6 (r1.length : Int))), (18, (i6 s4.1)), (42, (bo false))] [(1002, some (.box 92 (.st [(.func 70 []), (.func 138 []), (.func 139 [])]))), (1007, some (.box 122 (.d (e_resource_part_int_ x164)))), (3005, some (.row 122 2 (s4.2.map e_resource_part_int_))), (100000, some (.row 122 2 (r2.map e_resource_part_int_)))] hB) (mp [] _ _ hB))
    · replace h := ite_f hg128 h
      refine AWp.exit ?_
      refine seqQ_e ?_
      obtain rfl := Option.some.inj h
      exact ⟨(fun hc => by cases hc), rfl, (mp [] _ _ hB)⟩
  · obtain ⟨rfl, hmat⟩ := hR
    refine blkQ_hit ?_
    refine seqQ_n ?_
    refine AWp.ghost hmat ?_
    refine sr (c (mv hN (q 5)) rfl (c (OpJ.assign (L rfl) (q 90)) rfl cn)) ?_
    refine gh [(4, _)] [(3005, some _)] hB rfl rfl (by rfl) ?_
    refine AWp.ret ?_
    obtain rfl := Option.some.inj h
    exact ⟨.inl rfl, _, _, (Mat.trans (Mat.freezeP (n := 3005) (e := 122) (sz := 2) (es := p127.map e_resource_part_int_) (Ts := [(4, (.d (.list 2 (p127.map e_resource_part_int_))))]) (Bs := []) (by rfl) (TwT.cons (x := (.sref 3005 2 0 p127.length)) (by rfl) (FrzL.all (by first | rfl | (simp; done) | (simp; omega) | omega)) TwT.nil) TwB.nil) (mp [] [(4, (.d (.list 2 (p127.map e_resource_part_int_))))] [] hB)), [(.d (.list 2 (p127.map e_resource_part_int_)))], (Res.tmp (by rfl) (by rfl) Res.nil), rfl, by rfl, by rfl, by rfl⟩

noncomputable def resource_set_resources_L0 (a0 : resource_set) (s2 : Int × (List api_Range)) : Option ((((List api_Range))) ⊕ (Int × (List api_Range))) :=
  (if (decide (s2.1 < (a0.faddrs.length : Int))) = true then
  (idx a0.faddrs s2.1).bind fun x11 =>
  chk (decide ((s2.2 ++ ([(api_Range.mk x11.ffrom x11.fto)] : List api_Range)).length ≤ LIM)) <|
  some (.inr ((w64 (s2.1 + (1 : Int))), (s2.2 ++ ([(api_Range.mk x11.ffrom x11.fto)] : List api_Range))))
  else
  some (.inl s2.2))
noncomputable def resource_set_resources_L1 (a0 : resource_set) (s15 : Int × (List api_Span)) : Option ((((List api_Span))) ⊕ (Int × (List api_Span))) :=
  (if (decide (s15.1 < (a0.fasns.length : Int))) = true then
  (idx a0.fasns s15.1).bind fun x24 =>
  chk (decide ((s15.2 ++ ([(api_Span.mk x24.ffrom x24.fto)] : List api_Span)).length ≤ LIM)) <|
  some (.inr ((w64 (s15.1 + (1 : Int))), (s15.2 ++ ([(api_Span.mk x24.ffrom x24.fto)] : List api_Span))))
  else
  some (.inl s15.2))
noncomputable def resource_set_resources (a0 : resource_set) : Option (api_Resources × Int) :=
  (if ((decide ((256 : Int) < (a0.faddrs.length : Int))) || (decide ((256 : Int) < (a0.fasns.length : Int)))) = true then
  some ((api_Resources.mk ([] : List api_Range) ([] : List api_Span)), (3 : Int))
  else
  (loop (resource_set_resources_L0 a0) ((0 : Int), ([] : List api_Range))).bind fun p9 =>
  (loop (resource_set_resources_L1 a0) ((0 : Int), ([] : List api_Span))).bind fun p22 =>
  some ((api_Resources.mk p9 p22), (0 : Int)))
set_option maxHeartbeats 4000000 in
set_option maxRecDepth 100000 in
theorem resource_set_resources_ac (a0 : resource_set) (r : api_Resources × Int) (h : resource_set_resources a0 = some r) : AC Tryd.prog 57 [(.d (e_resource_set a0))] [] (.tup [(.d (e_api_Resources r.1)), (.d (.int .i64 r.2))]) [] := by
  refine AC.of_code2 Tryd.func57 rfl rfl (Nat.le_of_ble_eq_true (by rfl)) fun B hB hN => ?_
  have L {d : Nat} (h : Nat.blt d Tryd.f57.ntmps = true) : d < B.N := ltN hN h
  delta resource_set_resources at h
  refine sr (cg (OpJ.box hB (nm := 1001) (by decide) (by simp) rfl (L rfl) (q 0)) rfl (cg (OpJ.alloc hB tyZ28 (nm := 1002) (by decide) (L rfl)) rfl (c (OpJ.assign (L rfl) (Opd.int .i64 (0))) rfl cn))) ?_
  refine gh [(1, _), (2, _)] [(1001, some _), (1002, some _)] hB rfl rfl (by rfl) ?_
  refine AWp.seq ?_
  refine sr (c (ov (.ptr 1001 0 [0]) (fp hN Tryd.underlying85 0 tyS82 _ (q 1))) rfl (c (lb hN 85 _ _ tyS82 (ad _) (q 9)) rfl (c (OpJ.val (v' := (i6 (a0.faddrs.length : Int))) (by simp) (OpJ.lenD Tryd.underlying82 (L rfl) (q 10))) rfl (c (OpJ.gtr (L rfl) (q 11) (Opd.int .i64 (256))) rfl (c (mv hN (q 12)) rfl (c (oq hN 13 (ov (.ptr 1001 1 [1]) (fp hN Tryd.underlying85 1 tyS83 _ (q 1))) (OptL.keep (by rfl) OptL.nil) (GuardV.plain _)) rfl (c (oq hN 13 (lb hN 85 _ _ tyS83 (ad _) (q 14)) (OptL.opt OptL.nil) (GuardV.plain _)) rfl (c (oq hN 13 (OpJ.val (v' := (i6 (a0.fasns.length : Int))) (by simp) (OpJ.lenD Tryd.underlying83 (L rfl) (q 15))) (OptL.opt OptL.nil) (GuardV.plain _)) rfl (c (oq hN 13 (OpJ.gtr (L rfl) (q 16) (Opd.int .i64 (256))) (OptL.opt OptL.nil) (GuardV.plain _)) rfl (c (OpJ.pickOr rfl (L rfl) (q 13) (q 17)) rfl cn)))))))))) ?_
  refine gh [(1, _), (2, _), (18, _)] [(1001, some _), (1002, some _)] hB rfl rfl (by rfl) ?_
  refine AWp.cond rfl (fun hg1 => ?_) (fun hg1 => ?_)
  · replace h := ite_t hg1 h
    refine sr (c (OpJ.build (places := [(0, 1), (1, 1)]) ⟨Tryd.underlying28, fun w => by kernel_rfl⟩ tyZS28 Opds.nil (by kernel_rfl) (r := (.st [.nils, .nils])) (by rfl) (L rfl)) rfl (cg (OpJ.storeB tyS28 (SetAt.here _ _) (by rfl) (by rfl) (by simp) rfl (q 2) (q 19)) rfl (c (OpJ.assign (L rfl) (Opd.int .i64 (3))) rfl cn))) ?_
    refine gh [(2, _), (3, _)] [(1002, some _)] hB rfl rfl (by rfl) ?_
    refine AWp.ret ?_
    refine seqQ_r ?_
    obtain rfl := Option.some.inj h
    exact ⟨.inl rfl, _, _, (Mat.trans (Mat.coeP (Ts := []) (Bs := [(1002, some (.box 28 (.d (.st [(.list 6 (([] : List api_Range).map e_api_Range)), (.list 2 (([] : List api_Span).map e_api_Span))]))))]) TwT.nil (TwB.cons (x := (.st [.nils, .nils])) (by rfl) (Tw.leaf ⟨_, (Co.st (CoL.cons (Co.nils 6) (CoL.cons (Co.nils 2) CoL.nil))), rfl⟩) TwB.nil)) (mp [] [(2, (.ptr 1002 0 [])), (3, (i6 (3 : Int)))] [(1002, some (.box 28 (.d (.st [(.list 6 (([] : List api_Range).map e_api_Range)), (.list 2 (([] : List api_Span).map e_api_Span))]))))] hB)), [(.d (.st [(.list 6 (([] : List api_Range).map e_api_Range)), (.list 2 (([] : List api_Span).map e_api_Span))])), (i6 (3 : Int))], (Res.cell (c := (.d (.st [(.list 6 (([] : List api_Range).map e_api_Range)), (.list 2 (([] : List api_Span).map e_api_Span))]))) (by rfl) (by rfl) tyS28 (by rfl) (by rfl) (by rfl) (Res.tmp (by rfl) (by rfl) Res.nil)), rfl, by rfl, by rfl, by rfl⟩
  · replace h := ite_f hg1 h
    refine AWp.skip ?_
    refine seqQ_n ?_
    refine sr (cg (OpJ.alloc hB tyZ28 (nm := 1004) (by decide) (L rfl)) rfl cn) ?_
    refine gh [(1, _), (2, _), (4, _)] [(1001, some _), (1002, some _), (1004, some _)] hB rfl rfl (by rfl) ?_
    refine AWp.seq ?_
    refine sr (c (ov (.ptr 1001 0 [0]) (fp hN Tryd.underlying85 0 tyS82 _ (q 1))) rfl (c (lb hN 85 _ _ tyS82 (ad _) (q 20)) rfl (c (OpJ.val (v' := (i6 (a0.faddrs.length : Int))) (by simp) (OpJ.lenD Tryd.underlying82 (L rfl) (q 21))) rfl (c (mv hN (Opd.int .i64 (0))) rfl cn)))) ?_
    refine gh [(1, _), (2, _), (4, _), (21, _), (22, _), (23, _)] [(1001, some _), (1002, some _), (1004, some _)] hB rfl rfl (by rfl) ?_
    refine AWp.block ?_
    obtain ⟨p9, hx14, h⟩ := bindS h
    refine lg (resource_set_resources_L0 a0) (fun s2 : Int × (List api_Range) => ([(1, (.ptr 1001 0 [])), (2, (.ptr 1002 0 [])), (4, (.ptr 1004 0 [])), (21, (qe_api_Addr__6 a0.faddrs)), (22, (i6 (a0.faddrs.length : Int))), (23, (i6 s2.1))] : EL)) (fun s2 : Int × (List api_Range) => ([(1001, some (.box 85 (.d (e_resource_set a0)))), (1002, some (.box 28 (.st [.nils, .nils]))), (1004, some (.box 28 (.st [(.sref 13040 6 0 s2.2.length), .nils]))), (13040, some (we_api_Range_68_6 s2.2))] : OL)) (fun (p9 : ((List api_Range))) e E' O' => e = .exit 0 ∧ Mat B E' O' ([(1, (.ptr 1001 0 [])), (2, (.ptr 1002 0 [])), (4, (.ptr 1004 0 []))] : EL) ([(1001, some (.box 85 (.d (e_resource_set a0)))), (1002, some (.box 28 (.st [.nils, .nils]))), (1004, some (.box 28 (.st [(.sref 13040 6 0 p9.length), .nils]))), (13040, some (we_api_Range_68_6 p9))] : OL)) hx14 (Mat.trans (Mat.beginP (n := 13040) (e := 68) (sz := 6) (Ts := []) (Bs := [(1004, some (.box 28 (.st [(.sref 13040 6 0 0), .nils])))]) hB (by decide) (by rfl) (by decide) TwT.nil (TwB.cons (x := (.st [.nils, .nils])) (by rfl) (Tw.st (TwL.cons (Tw.leaf ⟨rfl, rfl⟩) (TwL.cons (Tw.same _) TwL.nil))) TwB.nil)) (mp [] _ _ hB)) (fun s2 y h => ?_) (fun e E' O' hR => ?_)
    · unfold resource_set_resources_L0 at h
      refine sr (c (OpJ.lss (L rfl) (q 23) (q 22)) rfl cn) ?_
      refine gh [(1, _), (2, _), (4, _), (21, _), (22, _), (23, _), (24, _)] [(1001, some _), (1002, some _), (1004, some _), (13040, some _)] hB rfl rfl (by rfl) ?_
      refine AWp.seq ?_
      refine AWp.cond rfl (fun hg10 => ?_) (fun hg10 => ?_)
      · replace h := ite_t hg10 h
        refine AWp.skip ?_
        refine seqQ_n ?_
        refine AWp.seq ?_
        refine AWp.block ?_
        obtain ⟨x11, hx11, h⟩ := bindS h
        refine sr (c (OpJ.indexD Tryd.underlying82 tyS120 (idx_some hx11).1 (get_map e_api_Addr_ (idx_some hx11).2) (L rfl) (q 21) (q 23)) rfl (c (OpJ.loadD tyS120 (by rfl) (by rfl) (L rfl) (q 25)) rfl (cg (OpJ.alloc hB tyZ120 (nm := 1006) (by decide) (L rfl)) rfl (cg (OpJ.storeB tyS120 (SetAt.here _ _) (by rfl) (by rfl) (by simp) rfl (q 6) (q 26)) rfl cn)))) ?_
        refine gh [(1, _), (2, _), (4, _), (6, _), (21, _), (22, _), (23, _)] [(1001, some _), (1002, some _), (1004, some _), (1006, some _), (13040, some _)] hB rfl rfl (by rfl) ?_
        obtain ⟨hc12, h⟩ := chk_some h
        refine rg (c (ov (.ptr 1004 0 [0]) (fp hN Tryd.underlying28 0 tyS25 _ (q 4))) rfl (c (lb hN 28 _ (.sref 13040 6 0 s2.2.length) tyS25 (At.st1 (f := (.sref 13040 6 0 s2.2.length)) (by rfl) (by rfl) (At.here _) (by first | rfl | omega)) (q 27)) rfl (c (ov (.ptr 1006 0 [0]) (fp hN Tryd.underlying120 0 tyS32 _ (q 6))) rfl (c (lb hN 120 _ _ tyS32 (ad _) (q 29)) rfl (c (ov (.ptr 1006 3 [1]) (fp hN Tryd.underlying120 3 tyS32 _ (q 6))) rfl (c (lb hN 120 _ _ tyS32 (ad _) (q 31)) rfl (c (OpJ.coe (v := (.st [(.d (e_api_Addr x11.ffrom)), (.d (e_api_Addr x11.fto))])) (y := (.st [(e_api_Addr x11.ffrom), (e_api_Addr x11.fto)])) (Co.st (CoL.cons (Co.d _) (CoL.cons (Co.d _) CoL.nil))) rfl (OpJ.build (places := [(0, 3), (3, 3)]) ⟨Tryd.underlying68, fun w => by kernel_rfl⟩ tyZS68 (Opds.cons (q 30) (Opds.cons (q 32) Opds.nil)) (by kernel_rfl) (r := (.st [(.d (e_api_Addr x11.ffrom)), (.d (e_api_Addr x11.fto))])) (by rfl) (L rfl))) rfl (c (OpJ.buildSlice Tryd.underlying25 tyS68 tyZD68 (by rfl) (by decide) (by decide) (Opds.cons (q 33) Opds.nil) (by kernel_rfl) (es := ([(.st [(e_api_Addr x11.ffrom), (e_api_Addr x11.fto)])] : List D)) (by rfl) (by rfl) (by kernel_rfl) (by simp) (L rfl)) rfl (cg (OpJ.append hB Tryd.underlying25 tyE68 (nm := 1035) (by decide) (es := s2.2.map e_api_Range) (ys := ([(api_Range.mk x11.ffrom x11.fto)] : List api_Range).map e_api_Range) (es' := (s2.2 ++ ([(api_Range.mk x11.ffrom x11.fto)] : List api_Range)).map e_api_Range) (len := (s2.2 ++ ([(api_Range.mk x11.ffrom x11.fto)] : List api_Range)).length) (by simp) (by simp) (map_sz (f := e_api_Range) (fun _ => rfl)) (by rw [List.length_map]; exact lim_mulN hc12 (by decide)) (by rw [List.length_map]; exact lim_leN hc12) (L rfl) (by simp) (q 28) (q 34)) rfl (c (ov (.ptr 1004 0 [0]) (fp hN Tryd.underlying28 0 tyS25 _ (q 4))) rfl (cg (OpJ.storeB (c' := (.st [(.sref 1035 6 0 ((s2.2 ++ ([(api_Range.mk x11.ffrom x11.fto)] : List api_Range)).length)), .nils])) tyS25 (SetAt.st1 (f := (.sref 13040 6 0 s2.2.length)) (by rfl) (by rfl) (SetAt.here _ _) (by rfl) (by rfl) (by first | rfl | omega)) (by rfl) (by rfl) (by simp) rfl (q 36) (q 35)) rfl cn))))))))))) ?_
        refine blkQ_n ?_
        refine seqQ_n ?_
        refine gh [(1, _), (2, _), (4, _), (21, _), (22, _), (23, _)] [(1001, some _), (1002, some _), (1004, some _), (1035, some _)] hB rfl rfl (by rfl) ?_
        refine rg (c (add6 (L rfl) (q 23) (Opd.int .i64 (1))) rfl (c (mv hN (q 37)) rfl cn)) ?_
        obtain rfl := Option.some.inj h
        exact ⟨rfl, (Mat.trans (mp [] [(1, (.ptr 1001 0 [])), (2, (.ptr 1002 0 [])), (4, (.ptr 1004 0 [])), (21, (qe_api_Addr__6 a0.faddrs)), (22, (i6 (a0.faddrs.length : Int))), (23, (i6 (w64 (s2.1 + (1 : Int)))))] [(1001, some (.box 85 (.d (e_resource_set a0)))), (1002, some (.box 28 (.st [.nils, .nils]))), (1004, some (.box 28 (.st [(.sref 1035 6 0 ((s2.2 ++ ([(api_Range.mk x11.ffrom x11.fto)] : List api_Range)).length)), .nils]))), (1035, some (we_api_Range_68_6 (s2.2 ++ ([(api_Range.mk x11.ffrom x11.fto)] : List api_Range))))] hB) (mp [(13040, 1035)] _ _ hB))⟩
      · replace h := ite_f hg10 h
        refine AWp.exit ?_
        refine seqQ_e ?_
        obtain rfl := Option.some.inj h
        exact ⟨(fun hc => by cases hc), rfl, (mp [] _ _ hB)⟩
    · obtain ⟨rfl, hmat⟩ := hR
      refine blkQ_hit ?_
      refine seqQ_n ?_
      refine AWp.ghost hmat ?_
      refine AWp.seq ?_
      refine sr (c (ov (.ptr 1001 1 [1]) (fp hN Tryd.underlying85 1 tyS83 _ (q 1))) rfl (c (lb hN 85 _ _ tyS83 (ad _) (q 38)) rfl (c (OpJ.val (v' := (i6 (a0.fasns.length : Int))) (by simp) (OpJ.lenD Tryd.underlying83 (L rfl) (q 39))) rfl (c (mv hN (Opd.int .i64 (0))) rfl cn)))) ?_
      refine gh [(2, _), (4, _), (39, _), (40, _), (41, _)] [(1002, some _), (1004, some _), (13040, some _)] hB rfl rfl (by rfl) ?_
      refine AWp.block ?_
      obtain ⟨p22, hx27, h⟩ := bindS h
      refine lg (resource_set_resources_L1 a0) (fun s15 : Int × (List api_Span) => ([(2, (.ptr 1002 0 [])), (4, (.ptr 1004 0 [])), (39, (.d (.list 2 (a0.fasns.map e_resource_part_int_)))), (40, (i6 (a0.fasns.length : Int))), (41, (i6 s15.1))] : EL)) (fun s15 : Int × (List api_Span) => ([(1002, some (.box 28 (.st [.nils, .nils]))), (1004, some (.box 28 (.st [(.sref 13040 6 0 p9.length), (.sref 13041 2 0 s15.2.length)]))), (13040, some (we_api_Range_68_6 p9)), (13041, some (we_api_Span_48_2 s15.2))] : OL)) (fun (p22 : ((List api_Span))) e E' O' => e = .exit 2 ∧ Mat B E' O' ([(2, (.ptr 1002 0 [])), (4, (.ptr 1004 0 []))] : EL) ([(1002, some (.box 28 (.st [.nils, .nils]))), (1004, some (.box 28 (.st [(.sref 13040 6 0 p9.length), (.sref 13041 2 0 p22.length)]))), (13040, some (we_api_Range_68_6 p9)), (13041, some (we_api_Span_48_2 p22))] : OL)) hx27 (Mat.trans (Mat.beginP (n := 13041) (e := 48) (sz := 2) (Ts := []) (Bs := [(1004, some (.box 28 (.st [(.sref 13040 6 0 p9.length), (.sref 13041 2 0 0)])))]) hB (by decide) (by rfl) (by decide) TwT.nil (TwB.cons (x := (.st [(.sref 13040 6 0 p9.length), .nils])) (by rfl) (Tw.st (TwL.cons (Tw.same _) (TwL.cons (Tw.leaf ⟨rfl, rfl⟩) TwL.nil))) TwB.nil)) (mp [] _ _ hB)) (fun s15 y h => ?_) (fun e E' O' hR => ?_)
      · unfold resource_set_resources_L1 at h
        refine sr (c (OpJ.lss (L rfl) (q 41) (q 40)) rfl cn) ?_
        refine gh [(2, _), (4, _), (39, _), (40, _), (41, _), (42, _)] [(1002, some _), (1004, some _), (13040, some _), (13041, some _)] hB rfl rfl (by rfl) ?_
        refine AWp.seq ?_
        refine AWp.cond rfl (fun hg23 => ?_) (fun hg23 => ?_)
        · replace h := ite_t hg23 h
          refine AWp.skip ?_
          refine seqQ_n ?_
          refine AWp.seq ?_
          refine AWp.block ?_
          obtain ⟨x24, hx24, h⟩ := bindS h
          refine sr (c (OpJ.indexD Tryd.underlying83 tyS122 (idx_some hx24).1 (get_map e_resource_part_int_ (idx_some hx24).2) (L rfl) (q 39) (q 41)) rfl (c (OpJ.loadD tyS122 (by rfl) (by rfl) (L rfl) (q 43)) rfl (cg (OpJ.alloc hB tyZ122 (nm := 1008) (by decide) (L rfl)) rfl (cg (OpJ.storeB tyS122 (SetAt.here _ _) (by rfl) (by rfl) (by simp) rfl (q 8) (q 44)) rfl cn)))) ?_
          refine gh [(2, _), (4, _), (8, _), (39, _), (40, _), (41, _)] [(1002, some _), (1004, some _), (1008, some _), (13040, some _), (13041, some _)] hB rfl rfl (by rfl) ?_
          obtain ⟨hc25, h⟩ := chk_some h
          refine rg (c (ov (.ptr 1004 1 [1]) (fp hN Tryd.underlying28 1 tyS26 _ (q 4))) rfl (c (lb hN 28 _ (.sref 13041 2 0 s15.2.length) tyS26 (At.st1 (f := (.sref 13041 2 0 s15.2.length)) (by rfl) (by rfl) (At.here _) (by first | rfl | omega)) (q 45)) rfl (c (ov (.ptr 1008 0 [0]) (fp hN Tryd.underlying122 0 tyS3 _ (q 8))) rfl (c (lb hN 122 _ _ tyS3 (ad _) (q 47)) rfl (c (ov (.ptr 1008 1 [1]) (fp hN Tryd.underlying122 1 tyS3 _ (q 8))) rfl (c (lb hN 122 _ _ tyS3 (ad _) (q 49)) rfl (c (OpJ.coe (v := (.st [(i6 x24.ffrom), (i6 x24.fto)])) (y := (.st [(.int .i64 x24.ffrom), (.int .i64 x24.fto)])) (Co.st (CoL.cons (Co.d _) (CoL.cons (Co.d _) CoL.nil))) rfl (OpJ.build (places := [(0, 1), (1, 1)]) ⟨Tryd.underlying48, fun w => by kernel_rfl⟩ tyZS48 (Opds.cons (q 48) (Opds.cons (q 50) Opds.nil)) (by kernel_rfl) (r := (.st [(i6 x24.ffrom), (i6 x24.fto)])) (by rfl) (L rfl))) rfl (c (OpJ.buildSlice Tryd.underlying26 tyS48 tyZD48 (by rfl) (by decide) (by decide) (Opds.cons (q 51) Opds.nil) (by kernel_rfl) (es := ([(.st [(.int .i64 x24.ffrom), (.int .i64 x24.fto)])] : List D)) (by rfl) (by rfl) (by kernel_rfl) (by simp) (L rfl)) rfl (cg (OpJ.append hB Tryd.underlying26 tyE48 (nm := 1053) (by decide) (es := s15.2.map e_api_Span) (ys := ([(api_Span.mk x24.ffrom x24.fto)] : List api_Span).map e_api_Span) (es' := (s15.2 ++ ([(api_Span.mk x24.ffrom x24.fto)] : List api_Span)).map e_api_Span) (len := (s15.2 ++ ([(api_Span.mk x24.ffrom x24.fto)] : List api_Span)).length) (by simp) (by simp) (map_sz (f := e_api_Span) (fun _ => rfl)) (by rw [List.length_map]; exact lim_mulN hc25 (by decide)) (by rw [List.length_map]; exact lim_leN hc25) (L rfl) (by simp) (q 46) (q 52)) rfl (c (ov (.ptr 1004 1 [1]) (fp hN Tryd.underlying28 1 tyS26 _ (q 4))) rfl (cg (OpJ.storeB (c' := (.st [(.sref 13040 6 0 p9.length), (.sref 1053 2 0 ((s15.2 ++ ([(api_Span.mk x24.ffrom x24.fto)] : List api_Span)).length))])) tyS26 (SetAt.st1 (f := (.sref 13041 2 0 s15.2.length)) (by rfl) (by rfl) (SetAt.here _ _) (by rfl) (by rfl) (by first | rfl | omega)) (by rfl) (by rfl) (by simp) rfl (q 54) (q 53)) rfl cn))))))))))) ?_
          refine blkQ_n ?_
          refine seqQ_n ?_
          refine gh [(2, _), (4, _), (39, _), (40, _), (41, _)] [(1002, some _), (1004, some _), (1053, some _), (13040, some _)] hB rfl rfl (by rfl) ?_
          refine rg (c (add6 (L rfl) (q 41) (Opd.int .i64 (1))) rfl (c (mv hN (q 55)) rfl cn)) ?_
          obtain rfl := Option.some.inj h
          exact ⟨rfl, (Mat.trans (mp [] [(2, (.ptr 1002 0 [])), (4, (.ptr 1004 0 [])), (39, (.d (.list 2 (a0.fasns.map e_resource_part_int_)))), (40, (i6 (a0.fasns.length : Int))), (41, (i6 (w64 (s15.1 + (1 : Int)))))] [(1002, some (.box 28 (.st [.nils, .nils]))), (1004, some (.box 28 (.st [(.sref 13040 6 0 p9.length), (.sref 1053 2 0 ((s15.2 ++ ([(api_Span.mk x24.ffrom x24.fto)] : List api_Span)).length))]))), (1053, some (we_api_Span_48_2 (s15.2 ++ ([(api_Span.mk x24.ffrom x24.fto)] : List api_Span)))), (13040, some (we_api_Range_68_6 p9))] hB) (mp [(13041, 1053)] _ _ hB))⟩
        · replace h := ite_f hg23 h
          refine AWp.exit ?_
          refine seqQ_e ?_
          obtain rfl := Option.some.inj h
          exact ⟨(fun hc => by cases hc), rfl, (mp [] _ _ hB)⟩
      · obtain ⟨rfl, hmat⟩ := hR
        refine blkQ_hit ?_
        refine seqQ_n ?_
        refine AWp.ghost hmat ?_
        refine sr (c (lb hN 28 _ _ tyS28 (At.here _) (q 4)) rfl (cg (OpJ.storeB tyS28 (SetAt.here _ _) (by rfl) (by rfl) (by simp) rfl (q 2) (q 56)) rfl (c (OpJ.assign (L rfl) (Opd.int .i64 (0))) rfl cn))) ?_
        refine gh [(2, _), (3, _)] [(1002, some _), (13040, some _), (13041, some _)] hB rfl rfl (by rfl) ?_
        refine AWp.ret ?_
        obtain rfl := Option.some.inj h
        exact ⟨.inl rfl, _, _, (Mat.trans (Mat.freezeP (n := 13040) (e := 68) (sz := 6) (es := p9.map e_api_Range) (Ts := []) (Bs := [(1002, some (.box 28 (.st [(qe_api_Range_6 p9), (.sref 13041 2 0 p22.length)])))]) (by rfl) TwT.nil (TwB.cons (x := (.st [(.sref 13040 6 0 p9.length), (.sref 13041 2 0 p22.length)])) (by rfl) (Tw.st (TwL.cons (FrzL.all (by first | rfl | (simp; done) | (simp; omega) | omega)) (TwL.cons (Tw.same _) TwL.nil))) TwB.nil)) (Mat.trans (Mat.freezeP (n := 13041) (e := 48) (sz := 2) (es := p22.map e_api_Span) (Ts := []) (Bs := [(1002, some (.box 28 (.st [(qe_api_Range_6 p9), (qe_api_Span_2 p22)])))]) (by rfl) TwT.nil (TwB.cons (x := (.st [(qe_api_Range_6 p9), (.sref 13041 2 0 p22.length)])) (by rfl) (Tw.st (TwL.cons (Tw.same _) (TwL.cons (FrzL.all (by first | rfl | (simp; done) | (simp; omega) | omega)) TwL.nil))) TwB.nil)) (Mat.trans (Mat.coeP (Ts := []) (Bs := [(1002, some (.box 28 (.d (.st [(.list 6 (p9.map e_api_Range)), (.list 2 (p22.map e_api_Span))]))))]) TwT.nil (TwB.cons (x := (.st [(qe_api_Range_6 p9), (qe_api_Span_2 p22)])) (by rfl) (Tw.leaf ⟨_, (Co.st (CoL.cons (Co.d _) (CoL.cons (Co.d _) CoL.nil))), rfl⟩) TwB.nil)) (mp [] [(2, (.ptr 1002 0 [])), (3, (i6 0))] [(1002, some (.box 28 (.d (.st [(.list 6 (p9.map e_api_Range)), (.list 2 (p22.map e_api_Span))]))))] hB)))), [(.d (.st [(.list 6 (p9.map e_api_Range)), (.list 2 (p22.map e_api_Span))])), (i6 0)], (Res.cell (c := (.d (.st [(.list 6 (p9.map e_api_Range)), (.list 2 (p22.map e_api_Span))]))) (by rfl) (by rfl) tyS28 (by rfl) (by rfl) (by rfl) (Res.tmp (by rfl) (by rfl) Res.nil)), rfl, by rfl, by rfl, by rfl⟩

noncomputable def resource_Of_L0 (a0 : (List api_Prefix)) (s1 : Int × (List api_Range)) : Option (((Unit) ⊕ ((List api_Range))) ⊕ (Int × (List api_Range))) :=
  (if (decide (s1.1 < (a0.length : Int))) = true then
  (idx a0 s1.1).bind fun x17 =>
  (prefix_Valid x17).bind fun r18 =>
  (if (!r18) = true then
  some (.inl (.inl ()))
  else
  (prefix_Last x17).bind fun r20 =>
  chk (decide ((s1.2 ++ ([(api_Range.mk x17.fAddr r20)] : List api_Range)).length ≤ LIM)) <|
  some (.inr ((w64 (s1.1 + (1 : Int))), (s1.2 ++ ([(api_Range.mk x17.fAddr r20)] : List api_Range)))))
  else
  some (.inl (.inr s1.2)))
noncomputable def resource_Of (a0 : (List api_Prefix)) (a1 : (List api_Span)) : Option (api_Resources × Int) :=
  (loop (resource_Of_L0 a0) ((0 : Int), ([] : List api_Range))).bind fun x22 => match x22 with
  | (.inl _) =>
    some ((api_Resources.mk ([] : List api_Range) ([] : List api_Span)), (1 : Int))
  | (.inr p15) =>
    (slices_ContainsFunc_4 a1).bind fun r24 =>
    (if r24 = true then
    some ((api_Resources.mk ([] : List api_Range) ([] : List api_Span)), (1 : Int))
    else
    (resource_of (api_Resources.mk p15 a1)).bind fun r26 =>
    (resource_order_normal r26.faddrs).bind fun r27 =>
    (resource_order_normal_2 r26.fasns).bind fun r28 =>
    (resource_set_resources (resource_set.mk r27 r28)).bind fun r29 =>
    some (r29.1, r29.2))
set_option maxHeartbeats 4000000 in
set_option maxRecDepth 100000 in
theorem resource_Of_ac (a0 : (List api_Prefix)) (a1 : (List api_Span)) (r : api_Resources × Int) (h : resource_Of a0 a1 = some r) : AC Tryd.prog 23 [(.d (.list 4 (a0.map e_api_Prefix))), (.d (.list 2 (a1.map e_api_Span)))] [(500, (.know (globF 0 [35, 37, 137]))), (501, (.know (globF 1 [70, 138, 139])))] (.tup [(.d (e_api_Resources r.1)), (.d (.int .i64 r.2))]) [(500, some (.know (globF 0 [35, 37, 137]))), (501, some (.know (globF 1 [70, 138, 139])))] := by
  refine AC.of_code2 Tryd.func23 rfl rfl (Nat.le_of_ble_eq_true (by rfl)) fun B hB hN => ?_
  have L {d : Nat} (h : Nat.blt d Tryd.f23.ntmps = true) : d < B.N := ltN hN h
  delta resource_Of at h
  refine sr (cg (OpJ.alloc hB tyZ28 (nm := 1004) (by decide) (L rfl)) rfl (c (OpJ.assign (L rfl) (Opd.int .i64 (0))) rfl cn)) ?_
  refine gh [(0, _), (1, _), (4, _)] [(500, some _), (501, some _), (1004, some _)] hB rfl rfl (by rfl) ?_
  refine sr (cg (OpJ.alloc hB tyZ28 (nm := 1006) (by decide) (L rfl)) rfl cn) ?_
  refine gh [(0, _), (1, _), (4, _), (6, _)] [(500, some _), (501, some _), (1004, some _), (1006, some _)] hB rfl rfl (by rfl) ?_
  refine AWp.seq ?_
  refine sr (c (mv hN (q 0)) rfl (c (OpJ.val (v' := (i6 (a0.length : Int))) (by simp) (OpJ.lenD Tryd.underlying36 (L rfl) (q 10))) rfl (c (mv hN (Opd.int .i64 (0))) rfl cn))) ?_
  refine gh [(1, _), (4, _), (6, _), (10, _), (11, _), (12, _)] [(500, some _), (501, some _), (1004, some _), (1006, some _)] hB rfl rfl (by rfl) ?_
  refine AWp.block ?_
  obtain ⟨x22, hx23, h⟩ := bindS h
  refine lg (resource_Of_L0 a0) (fun s1 : Int × (List api_Range) => ([(1, (qe_api_Span_2 a1)), (4, (.ptr 1004 0 [])), (6, (.ptr 1006 0 [])), (10, (qe_api_Prefix_4 a0)), (11, (i6 (a0.length : Int))), (12, (i6 s1.1))] : EL)) (fun s1 : Int × (List api_Range) => ([(500, some (.know (globF 0 [35, 37, 137]))), (501, some (.know (globF 1 [70, 138, 139]))), (1004, some (.box 28 (.st [.nils, .nils]))), (1006, some (.box 28 (.st [(.sref 13060 6 0 s1.2.length), .nils]))), (13060, some (we_api_Range_68_6 s1.2))] : OL)) (fun (x : (Unit) ⊕ ((List api_Range))) e E' O' => match x with | (.inl _p) => e = .ret ∧ Mat B E' O' ([(4, (.ptr 1004 0 [])), (5, (i6 1))] : EL) ([(500, some (.know (globF 0 [35, 37, 137]))), (501, some (.know (globF 1 [70, 138, 139]))), (1004, some (.box 28 (.st [.nils, .nils])))] : OL) | (.inr p15) => e = .exit 0 ∧ Mat B E' O' ([(1, (qe_api_Span_2 a1)), (4, (.ptr 1004 0 [])), (6, (.ptr 1006 0 []))] : EL) ([(500, some (.know (globF 0 [35, 37, 137]))), (501, some (.know (globF 1 [70, 138, 139]))), (1004, some (.box 28 (.st [.nils, .nils]))), (1006, some (.box 28 (.st [(.sref 13060 6 0 p15.length), .nils]))), (13060, some (we_api_Range_68_6 p15))] : OL)) hx23 (Mat.trans (Mat.beginP (n := 13060) (e := 68) (sz := 6) (Ts := []) (Bs := [(1006, some (.box 28 (.st [(.sref 13060 6 0 0), .nils])))]) hB (by decide) (by rfl) (by decide) TwT.nil (TwB.cons (x := (.st [.nils, .nils])) (by rfl) (Tw.st (TwL.cons (Tw.leaf ⟨rfl, rfl⟩) (TwL.cons (Tw.same _) TwL.nil))) TwB.nil)) (mp [] _ _ hB)) (fun s1 y h => ?_) (fun e E' O' hR => ?_)
  · unfold resource_Of_L0 at h
    refine sr (c (OpJ.lss (L rfl) (q 12) (q 11)) rfl cn) ?_
    refine gh [(1, _), (4, _), (6, _), (10, _), (11, _), (12, _), (13, _)] [(500, some _), (501, some _), (1004, some _), (1006, some _), (13060, some _)] hB rfl rfl (by rfl) ?_
    refine AWp.seq ?_
    refine AWp.cond rfl (fun hg16 => ?_) (fun hg16 => ?_)
    · replace h := ite_t hg16 h
      refine AWp.skip ?_
      refine seqQ_n ?_
      refine AWp.seq ?_
      refine AWp.block ?_
      obtain ⟨x17, hx17, h⟩ := bindS h
      refine sr (c (OpJ.indexD Tryd.underlying36 tyS34 (idx_some hx17).1 (get_map e_api_Prefix (idx_some hx17).2) (L rfl) (q 10) (q 12)) rfl (c (OpJ.loadD tyS34 (by rfl) (by rfl) (L rfl) (q 14)) rfl (cg (OpJ.alloc hB tyZ34 (nm := 1008) (by decide) (L rfl)) rfl (cg (OpJ.storeB tyS34 (SetAt.here _ _) (by rfl) (by rfl) (by simp) rfl (q 8) (q 15)) rfl cn)))) ?_
      refine gh [(1, _), (4, _), (6, _), (8, _), (10, _), (11, _), (12, _)] [(500, some _), (501, some _), (1004, some _), (1006, some _), (1008, some _), (13060, some _)] hB rfl rfl (by rfl) ?_
      refine AWp.seq ?_
      obtain ⟨r18, hr18, h⟩ := bindS h
      refine sr (c (lb hN 34 _ _ tyS34 (At.here _) (q 8)) rfl (cg (OpJ.callFn hB fnOk53 (prefix_Valid_ac x17 r18 hr18) [] (by kernel_rfl) (L rfl) (by kernel_rfl) (OpdL.cons (q 16) OpdL.nil)) rfl (c (OpJ.not (L rfl) (q 17)) rfl cn))) ?_
      refine gh [(1, _), (4, _), (6, _), (8, _), (10, _), (11, _), (12, _), (18, _)] [(500, some _), (501, some _), (1004, some _), (1006, some _), (1008, some _), (13060, some _)] hB rfl rfl (by rfl) ?_
      refine AWp.cond rfl (fun hg19 => ?_) (fun hg19 => ?_)
      · replace h := ite_t hg19 h
        refine sr (c (OpJ.build (places := [(0, 1), (1, 1)]) ⟨Tryd.underlying28, fun w => by kernel_rfl⟩ tyZS28 Opds.nil (by kernel_rfl) (r := (.st [.nils, .nils])) (by rfl) (L rfl)) rfl (cg (OpJ.storeB tyS28 (SetAt.here _ _) (by rfl) (by rfl) (by simp) rfl (q 4) (q 19)) rfl (c (OpJ.assign (L rfl) (Opd.int .i64 (1))) rfl cn))) ?_
        refine gh [(4, _), (5, _)] [(500, some _), (501, some _), (1004, some _)] hB rfl rfl (by rfl) ?_
        refine AWp.ret ?_
        refine seqQ_r ?_
        refine blkQ_r ?_
        refine seqQ_r ?_
        obtain rfl := Option.some.inj h
        exact ⟨(fun hc => by cases hc), rfl, (mp [] _ _ hB)⟩
      · replace h := ite_f hg19 h
        refine AWp.skip ?_
        refine seqQ_n ?_
        obtain ⟨r20, hr20, h⟩ := bindS h
        obtain ⟨hc21, h⟩ := chk_some h
        refine dr (c (ov (.ptr 1006 0 [0]) (fp hN Tryd.underlying28 0 tyS25 _ (q 6))) rfl (c (lb hN 28 _ (.sref 13060 6 0 s1.2.length) tyS25 (At.st1 (f := (.sref 13060 6 0 s1.2.length)) (by rfl) (by rfl) (At.here _) (by first | rfl | omega)) (q 20)) rfl (c (ov (.ptr 1008 0 [0]) (fp hN Tryd.underlying34 0 tyS32 _ (q 8))) rfl (c (lb hN 34 _ _ tyS32 (ad _) (q 22)) rfl (c (lb hN 34 _ _ tyS34 (At.here _) (q 8)) rfl (cg (OpJ.callFn hB fnOk38 (prefix_Last_ac x17 r20 hr20) [] (by kernel_rfl) (L rfl) (by kernel_rfl) (OpdL.cons (q 24) OpdL.nil)) rfl (c (OpJ.coe (v := (.st [(.d (e_api_Addr x17.fAddr)), (.d (e_api_Addr r20))])) (y := (.st [(e_api_Addr x17.fAddr), (e_api_Addr r20)])) (Co.st (CoL.cons (Co.d _) (CoL.cons (Co.d _) CoL.nil))) rfl (OpJ.build (places := [(0, 3), (3, 3)]) ⟨Tryd.underlying68, fun w => by kernel_rfl⟩ tyZS68 (Opds.cons (q 23) (Opds.cons (q 25) Opds.nil)) (by kernel_rfl) (r := (.st [(.d (e_api_Addr x17.fAddr)), (.d (e_api_Addr r20))])) (by rfl) (L rfl))) rfl (c (OpJ.buildSlice Tryd.underlying25 tyS68 tyZD68 (by rfl) (by decide) (by decide) (Opds.cons (q 26) Opds.nil) (by kernel_rfl) (es := ([(.st [(e_api_Addr x17.fAddr), (e_api_Addr r20)])] : List D)) (by rfl) (by rfl) (by kernel_rfl) (by simp) (L rfl)) rfl (cg (OpJ.append hB Tryd.underlying25 tyE68 (nm := 1028) (by decide) (es := s1.2.map e_api_Range) (ys := ([(api_Range.mk x17.fAddr r20)] : List api_Range).map e_api_Range) (es' := (s1.2 ++ ([(api_Range.mk x17.fAddr r20)] : List api_Range)).map e_api_Range) (len := (s1.2 ++ ([(api_Range.mk x17.fAddr r20)] : List api_Range)).length) (by simp) (by simp) (map_sz (f := e_api_Range) (fun _ => rfl)) (by rw [List.length_map]; exact lim_mulN hc21 (by decide)) (by rw [List.length_map]; exact lim_leN hc21) (L rfl) (by simp) (q 21) (q 27)) rfl (c (ov (.ptr 1006 0 [0]) (fp hN Tryd.underlying28 0 tyS25 _ (q 6))) rfl (cg (OpJ.storeB (c' := (.st [(.sref 1028 6 0 ((s1.2 ++ ([(api_Range.mk x17.fAddr r20)] : List api_Range)).length)), .nils])) tyS25 (SetAt.st1 (f := (.sref 13060 6 0 s1.2.length)) (by rfl) (by rfl) (SetAt.here _ _) (by rfl) (by rfl) (by first | rfl | omega)) (by rfl) (by rfl) (by simp) rfl (q 29) (q 28)) rfl cn))))))))))) (by kernel_rfl) (by kernel_rfl) ?_
        refine blkQ_n ?_
        refine seqQ_n ?_
        refine gh [(1, _), (4, _), (6, _), (10, _), (11, _), (12, _)] [(500, some _), (501, some _), (1004, some _), (1006, some _), (1028, some _)] hB rfl rfl (by rfl) ?_
        refine rg (c (add6 (L rfl) (q 12) (Opd.int .i64 (1))) rfl (c (mv hN (q 30)) rfl cn)) ?_
        obtain rfl := Option.some.inj h
        exact ⟨rfl, (Mat.trans (mp [] [(1, (qe_api_Span_2 a1)), (4, (.ptr 1004 0 [])), (6, (.ptr 1006 0 [])), (10, (qe_api_Prefix_4 a0)), (11, (i6 (a0.length : Int))), (12, (i6 (w64 (s1.1 + (1 : Int)))))] [(500, some (.know (globF 0 [35, 37, 137]))), (501, some (.know (globF 1 [70, 138, 139]))), (1004, some (.box 28 (.st [.nils, .nils]))), (1006, some (.box 28 (.st [(.sref 1028 6 0 ((s1.2 ++ ([(api_Range.mk x17.fAddr r20)] : List api_Range)).length)), .nils]))), (1028, some (we_api_Range_68_6 (s1.2 ++ ([(api_Range.mk x17.fAddr r20)] : List api_Range))))] hB) (mp [(13060, 1028)] _ _ hB))⟩
    · replace h := ite_f hg16 h
      refine AWp.exit ?_
      refine seqQ_e ?_
      obtain rfl := Option.some.inj h
      exact ⟨(fun hc => by cases hc), rfl, (mp [] _ _ hB)⟩
  · rcases x22 with _ | p15
    · obtain ⟨rfl, hmat⟩ := hR
      refine blkQ_r ?_
      refine seqQ_r ?_
      obtain rfl := Option.some.inj h
      exact ⟨.inl rfl, _, _, (Mat.trans hmat (Mat.trans (Mat.coeP (Ts := []) (Bs := [(1004, some (.box 28 (.d (.st [(.list 6 (([] : List api_Range).map e_api_Range)), (.list 2 (([] : List api_Span).map e_api_Span))]))))]) TwT.nil (TwB.cons (x := (.st [.nils, .nils])) (by rfl) (Tw.leaf ⟨_, (Co.st (CoL.cons (Co.nils 6) (CoL.cons (Co.nils 2) CoL.nil))), rfl⟩) TwB.nil)) (mp [] [(4, (.ptr 1004 0 [])), (5, (i6 1))] [(500, some (.know (globF 0 [35, 37, 137]))), (501, some (.know (globF 1 [70, 138, 139]))), (1004, some (.box 28 (.d (.st [(.list 6 (([] : List api_Range).map e_api_Range)), (.list 2 (([] : List api_Span).map e_api_Span))]))))] hB))), [(.d (.st [(.list 6 (([] : List api_Range).map e_api_Range)), (.list 2 (([] : List api_Span).map e_api_Span))])), (i6 1)], (Res.cell (c := (.d (.st [(.list 6 (([] : List api_Range).map e_api_Range)), (.list 2 (([] : List api_Span).map e_api_Span))]))) (by rfl) (by rfl) tyS28 (by rfl) (by rfl) (by rfl) (Res.tmp (by rfl) (by rfl) Res.nil)), rfl, by rfl, by rfl, by rfl⟩
    · obtain ⟨rfl, hmat⟩ := hR
      refine blkQ_hit ?_
      refine seqQ_n ?_
      refine AWp.ghost hmat ?_
      refine AWp.seq ?_
      obtain ⟨r24, hr24, h⟩ := bindS h
      refine sr (c (mv hN (q 1)) rfl (cg (OpJ.callFn hB fnOk43 (slices_ContainsFunc_4_ac a1 r24 hr24) [] (by kernel_rfl) (L rfl) (by kernel_rfl) (OpdL.cons (q 31) (OpdL.cons (Opd.func 54) OpdL.nil))) rfl cn)) ?_
      refine gh [(1, _), (4, _), (6, _), (32, _)] [(500, some _), (501, some _), (1004, some _), (1006, some _), (13060, some _)] hB rfl rfl (by rfl) ?_
      refine AWp.cond rfl (fun hg25 => ?_) (fun hg25 => ?_)
      · replace h := ite_t hg25 h
        refine sr (c (OpJ.build (places := [(0, 1), (1, 1)]) ⟨Tryd.underlying28, fun w => by kernel_rfl⟩ tyZS28 Opds.nil (by kernel_rfl) (r := (.st [.nils, .nils])) (by rfl) (L rfl)) rfl (cg (OpJ.storeB tyS28 (SetAt.here _ _) (by rfl) (by rfl) (by simp) rfl (q 4) (q 33)) rfl (c (OpJ.assign (L rfl) (Opd.int .i64 (1))) rfl cn))) ?_
        refine gh [(4, _), (5, _)] [(500, some _), (501, some _), (1004, some _)] hB rfl rfl (by rfl) ?_
        refine AWp.ret ?_
        refine seqQ_r ?_
        obtain rfl := Option.some.inj h
        exact ⟨.inl rfl, _, _, (Mat.trans (Mat.coeP (Ts := []) (Bs := [(1004, some (.box 28 (.d (.st [(.list 6 (([] : List api_Range).map e_api_Range)), (.list 2 (([] : List api_Span).map e_api_Span))]))))]) TwT.nil (TwB.cons (x := (.st [.nils, .nils])) (by rfl) (Tw.leaf ⟨_, (Co.st (CoL.cons (Co.nils 6) (CoL.cons (Co.nils 2) CoL.nil))), rfl⟩) TwB.nil)) (mp [] [(4, (.ptr 1004 0 [])), (5, (i6 1))] [(500, some (.know (globF 0 [35, 37, 137]))), (501, some (.know (globF 1 [70, 138, 139]))), (1004, some (.box 28 (.d (.st [(.list 6 (([] : List api_Range).map e_api_Range)), (.list 2 (([] : List api_Span).map e_api_Span))]))))] hB)), [(.d (.st [(.list 6 (([] : List api_Range).map e_api_Range)), (.list 2 (([] : List api_Span).map e_api_Span))])), (i6 1)], (Res.cell (c := (.d (.st [(.list 6 (([] : List api_Range).map e_api_Range)), (.list 2 (([] : List api_Span).map e_api_Span))]))) (by rfl) (by rfl) tyS28 (by rfl) (by rfl) (by rfl) (Res.tmp (by rfl) (by rfl) Res.nil)), rfl, by rfl, by rfl, by rfl⟩
      · replace h := ite_f hg25 h
        refine AWp.skip ?_
        refine seqQ_n ?_
        refine sr (c (mv hN (q 1)) rfl (c (ov (.ptr 1006 1 [1]) (fp hN Tryd.underlying28 1 tyS26 _ (q 6))) rfl (cg (OpJ.storeB (c' := (.st [(.sref 13060 6 0 p15.length), (qe_api_Span_2 a1)])) tyS26 (SetAt.st1 (f := .nils) (by rfl) (by rfl) (SetAt.here _ _) (by rfl) (by rfl) (by first | rfl | omega)) (by rfl) (by rfl) (by simp) rfl (q 35) (q 34)) rfl cn))) ?_
        refine gh [(4, _), (6, _)] [(500, some _), (501, some _), (1004, some _), (1006, some _), (13060, some _)] hB rfl rfl (by rfl) ?_
        refine AWp.seq ?_
        refine AWp.ghost (Mat.freezeP (n := 13060) (e := 68) (sz := 6) (es := p15.map e_api_Range) (Ts := []) (Bs := [(1006, some (.box 28 (.st [(qe_api_Range_6 p15), (qe_api_Span_2 a1)])))]) (by rfl) TwT.nil (TwB.cons (x := (.st [(.sref 13060 6 0 p15.length), (qe_api_Span_2 a1)])) (by rfl) (Tw.st (TwL.cons (FrzL.all (by first | rfl | (simp; done) | (simp; omega) | omega)) (TwL.cons (Tw.same _) TwL.nil))) TwB.nil)) ?_
        obtain ⟨r26, hr26, h⟩ := bindS h
        refine rg (c (lb hN 28 _ _ tyS28 (At.here _) (q 6)) rfl (cg (OpJ.callFn hB fnOk49 (resource_of_ac (api_Resources.mk p15 a1) r26 hr26) [] (by kernel_rfl) (L rfl) (by kernel_rfl) (OpdL.cons (Opd.tw (q 36) (Tw.leaf ⟨_, (Co.st (CoL.cons (Co.d _) (CoL.cons (Co.d _) CoL.nil))), rfl⟩)) OpdL.nil)) rfl (cg (OpJ.alloc hB tyZ85 (nm := 1009) (by decide) (L rfl)) rfl (cg (OpJ.storeB tyS85 (SetAt.here _ _) (by rfl) (by rfl) (by simp) rfl (q 9) (q 37)) rfl cn)))) ?_
        refine seqQ_n ?_
        refine gh [(4, _), (9, _)] [(500, some _), (501, some _), (1004, some _), (1009, some _)] hB rfl rfl (by rfl) ?_
        obtain ⟨r27, hr27, h⟩ := bindS h
        obtain ⟨r28, hr28, h⟩ := bindS h
        obtain ⟨r29, hr29, h⟩ := bindS h
        refine sd (cg (OpJ.loadG (nm := 500) [35, 37, 137] tyS88 rfl (L rfl)) rfl (c (ov (.ptr 1009 0 [0]) (fp hN Tryd.underlying85 0 tyS82 _ (q 9))) rfl (c (lb hN 85 _ _ tyS82 (ad _) (q 39)) rfl (cg (OpJ.callFn hB fnOk55 (resource_order_normal_ac r26.faddrs r27 hr27) [] (by kernel_rfl) (L rfl) (by kernel_rfl) (OpdL.cons (q 38) (OpdL.cons (q 40) OpdL.nil))) rfl (cg (OpJ.loadG (nm := 501) [70, 138, 139] tyS92 rfl (L rfl)) rfl (c (ov (.ptr 1009 1 [1]) (fp hN Tryd.underlying85 1 tyS83 _ (q 9))) rfl (c (lb hN 85 _ _ tyS83 (ad _) (q 43)) rfl (cg (OpJ.callFn hB fnOk56 (resource_order_normal_2_ac r26.fasns r28 hr28) [] (by kernel_rfl) (L rfl) (by kernel_rfl) (OpdL.cons (q 42) (OpdL.cons (q 44) OpdL.nil))) rfl (c (OpJ.coe (v := (.st [(qe_api_Addr__6 r27), (.d (.list 2 (r28.map e_resource_part_int_)))])) (y := (.st [(.list 6 (r27.map e_api_Addr_)), (.list 2 (r28.map e_resource_part_int_))])) (Co.st (CoL.cons (Co.d _) (CoL.cons (Co.d _) CoL.nil))) rfl (OpJ.build (places := [(0, 1), (1, 1)]) ⟨Tryd.underlying85, fun w => by kernel_rfl⟩ tyZS85 (Opds.cons (q 41) (Opds.cons (q 45) Opds.nil)) (by kernel_rfl) (r := (.st [(qe_api_Addr__6 r27), (.d (.list 2 (r28.map e_resource_part_int_)))])) (by rfl) (L rfl))) rfl (cg (OpJ.callFn hB fnOk57 (resource_set_resources_ac (resource_set.mk r27 r28) r29 hr29) [] (by kernel_rfl) (L rfl) (by kernel_rfl) (OpdL.cons (q 46) OpdL.nil)) rfl (c (OpJ.extract (by rfl) rfl (L rfl) (q 47)) rfl (c (OpJ.extract (by rfl) rfl (L rfl) (q 47)) rfl (cg (OpJ.storeB tyS28 (SetAt.here _ _) (by rfl) (by rfl) (by simp) rfl (q 4) (q 48)) rfl (c (OpJ.assign (L rfl) (q 49)) rfl cn)))))))))))))) (by kernel_rfl) (by kernel_rfl) ?_
        refine gh [(4, _), (5, _)] [(500, some _), (501, some _), (1004, some _)] hB rfl rfl (by rfl) ?_
        refine AWp.ret ?_
        obtain rfl := Option.some.inj h
        exact ⟨.inl rfl, _, _, (kp [(4, _), (5, _)] [(500, some _), (501, some _), (1004, some _)] hB rfl rfl (by rfl)), [(.d (e_api_Resources r29.1)), (i6 r29.2)], (Res.cell (c := (.d (e_api_Resources r29.1))) (by rfl) (by rfl) tyS28 (by rfl) (by rfl) (by rfl) (Res.tmp (by rfl) (by rfl) Res.nil)), rfl, by rfl, by rfl, by rfl⟩


end Go.Proofs.YtgcilleccigmdaaDoor
