/- Printed by gen.py: the Go functions as plain functions, and that the code does what they say. -/
import Derived.Test.YtgcilleccigmdaaDoorChecked
import Derived.Test.YtgcilleccigmdaaDoorVcYB
import Derived.Test.YtgcilleccigmdaaDoorVcZ
import Derived.KernelRfl
import Derived.Test.YtgcilleccigmdaaDoorVcMD
import Derived.Test.YtgcilleccigmdaaDoorVcMQ
import Derived.Test.YtgcilleccigmdaaDoorVcSG
import Derived.Test.YtgcilleccigmdaaDoorFnsB
import Derived.Test.YtgcilleccigmdaaDoorExt
import Derived.Test.YtgcilleccigmdaaDoorVcGl
import Derived.Test.YtgcilleccigmdaaDoorVcSO
namespace Go.Proofs.YtgcilleccigmdaaDoor
open Go Go.Vc
set_option maxHeartbeats 4000000
set_option maxRecDepth 100000
noncomputable def resource_Prefixes_L1 (x76 : api_Range) (s77 : Bool × api_Addr × (List api_Prefix)) : Option ((((List api_Prefix))) ⊕ (Bool × api_Addr × (List api_Prefix))) :=
 jn (fun m98 : Bool =>
 (if m98 = true then
 (resource_largest s77.2.1 x76.fTo).bind fun r101 =>
 chk (decide ((s77.2.2 ++ ([r101] : List api_Prefix)).length ≤ LIM)) <|
 (prefix_Last r101).bind fun r103 =>
 (addr_Next r103).bind fun r104 =>
 some (.inr (r104.2, r104.1, (s77.2.2 ++ ([r101] : List api_Prefix))))
 else
 some (.inl s77.2.2))) (fun j99 =>
 (if s77.1 = true then
 (addr_Cmp s77.2.1 x76.fTo).bind fun r106 =>
 j99 (decide (r106 ≤ (0 : Int)))
 else
 j99 false))
noncomputable def resource_Prefixes_L0 (a0 : api_Resources) (s3 : Int × (List api_Prefix)) : Option ((((List api_Prefix))) ⊕ (Int × (List api_Prefix))) :=
 (if (decide (s3.1 < (a0.fAddrs.length : Int))) = true then
 (idx a0.fAddrs s3.1).bind fun x76 =>
 (loop (resource_Prefixes_L1 x76) (true, x76.fFrom, s3.2)).bind fun p95 =>
 some (.inr ((w64 (s3.1 + (1 : Int))), p95))
 else
 some (.inl s3.2))
noncomputable def resource_Prefixes (a0 : api_Resources) : Option ((List api_Prefix)) :=
 (resource_Valid a0).bind fun r1 =>
 (if (!r1) = true then
 some ([] : List api_Prefix)
 else
 (loop (resource_Prefixes_L0 a0) ((0 : Int), ([] : List api_Prefix))).bind fun p74 =>
 some p74)
theorem resource_Prefixes_ac (a0 : api_Resources) (r : (List api_Prefix)) (h : resource_Prefixes a0 = some r) : AC Tryd.prog 11 [(.d (e_api_Resources a0))] [(500, (.know (globF 0 [35, 37, 137]))), (501, (.know (globF 1 [70, 138, 139])))] (.d (.list 4 (r.map e_api_Prefix))) [(500, some (.know (globF 0 [35, 37, 137]))), (501, some (.know (globF 1 [70, 138, 139])))] := by
 refine AC.of_code2 Tryd.func11 rfl rfl (Nat.le_of_ble_eq_true (by rfl)) fun B hB hN => ?_
 have L {d : Nat} (h : Nat.blt d Tryd.f11.ntmps = true) : d < B.N := ltN hN h
 delta resource_Prefixes at h
 refine sr (cg (OpJ.box hB (nm := 1001) (by decide) (by simp) rfl (L rfl) (q 0)) rfl (c (OpJ.assign (L rfl) Opd.nils) rfl cn)) ?_
 refine gh [(1, _)] [(500, some _), (501, some _), (1001, some _)] hB rfl rfl (by rfl) ?_
 refine sr (c (OpJ.assign (L rfl) Opd.nils) rfl cn) ?_
 refine gh [(1, _), (3, _)] [(500, some _), (501, some _), (1001, some _)] hB rfl rfl (by rfl) ?_
 refine AWp.seq ?_
 refine AWp.seq ?_
 obtain ⟨r1, hr1, h⟩ := bindS h
 refine AWp.region (oc (lb hN 28 (.d (e_api_Resources a0)) (.d (e_api_Resources a0)) tyS28 (At.here _) (ot 1 (.ptr 1001 0 [])))
 (oc (OpJ.callFn hB fnOk20 (resource_Valid_ac a0 r1 hr1) [(500, 500), (501, 501)] (by kernel_rfl) (L rfl) (by kernel_rfl) (OpdL.cons (ot 9 (.d (e_api_Resources a0))) OpdL.nil))
 (oc (OpJ.not (L rfl) (ot 10 (bo r1)))
 (OpJs.nil)))) (by rfl) (by rfl) ?_
 refine seqQ_n ?_
 refine AWp.ghost (mp [] [(1, (.ptr 1001 0 [])), (3, .nils), (11, (bo (!r1)))] [(500, some (.know (globF 0 [35, 37, 137]))), (501, some (.know (globF 1 [70, 138, 139]))), (1001, some (.box 28 (.d (e_api_Resources a0))))] hB) ?_
 refine AWp.cond rfl (fun hg2 => ?_) (fun hg2 => ?_)
 ·replace h := ite_t hg2 h
  refine sr (c (OpJ.assign (L rfl) Opd.nils) rfl cn) ?_
  refine gh [(2, _)] [(500, some _), (501, some _)] hB rfl rfl (by rfl) ?_
  refine AWp.ret ?_
  refine seqQ_r ?_
  obtain rfl := Option.some.inj h
  exact ⟨.inl rfl, _, _, (Mat.trans (Mat.coeP (Ts := [(2, (qe_api_Prefix_4 ([] : List api_Prefix)))]) (Bs := []) (TwT.cons (x := .nils) (by rfl) (Tw.leaf ⟨_, (Co.nils 4), rfl⟩) TwT.nil) TwB.nil) (mp [] [(2, (qe_api_Prefix_4 ([] : List api_Prefix)))] [(500, some (.know (globF 0 [35, 37, 137]))), (501, some (.know (globF 1 [70, 138, 139])))] hB)), [(qe_api_Prefix_4 ([] : List api_Prefix))], (Res.tmp (by rfl) (by rfl) Res.nil), rfl, by rfl, by rfl, by rfl⟩
 ·replace h := ite_f hg2 h
  refine AWp.skip ?_
  refine seqQ_n ?_
  refine AWp.seq ?_
  refine sr (c (ov (.ptr 1001 0 [0]) (fp hN Tryd.underlying28 0 tyS25 _ (q 1))) rfl (c (lb hN 28 _ _ tyS25 (ad _) (q 12)) rfl (c (OpJ.val (v' := (i6 (a0.fAddrs.length : Int))) (by simp) (OpJ.lenD Tryd.underlying25 (L rfl) (q 13))) rfl (c (mv hN (Opd.int .i64 (0))) rfl cn)))) ?_
  refine gh [(3, _), (13, _), (14, _), (15, _)] [(500, some _), (501, some _)] hB rfl rfl (by rfl) ?_
  refine AWp.block ?_
  obtain ⟨p74, hx110, h⟩ := bindS h
  refine lg (resource_Prefixes_L0 a0) (fun s3 : Int × (List api_Prefix) => ([(3, (.sref 3003 4 0 s3.2.length)), (13, (qe_api_Range_6 a0.fAddrs)), (14, (i6 (a0.fAddrs.length : Int))), (15, (i6 s3.1))] : EL)) (fun s3 : Int × (List api_Prefix) => ([(500, some (.know (globF 0 [35, 37, 137]))), (501, some (.know (globF 1 [70, 138, 139]))), (3003, some (we_api_Prefix_34_4 s3.2))] : OL)) (fun (p74 : ((List api_Prefix))) e E' O' => e = .exit 0 ∧ Mat B E' O' ([(3, (.sref 3003 4 0 p74.length))] : EL) ([(500, some (.know (globF 0 [35, 37, 137]))), (501, some (.know (globF 1 [70, 138, 139]))), (3003, some (we_api_Prefix_34_4 p74))] : OL)) hx110 (Mat.trans (Mat.beginP (n := 3003) (e := 34) (sz := 4) (Ts := [(3, (.sref 3003 4 0 0))]) (Bs := []) hB (by decide) (by rfl) (by decide) (TwT.cons (x := .nils) (by rfl) (Tw.leaf ⟨rfl, rfl⟩) TwT.nil) TwB.nil) (mp [] _ _ hB)) (fun s3 y h => ?_) (fun e E' O' hR => ?_)
  ·unfold resource_Prefixes_L0 at h
   refine sr (c (OpJ.lss (L rfl) (q 15) (q 14)) rfl cn) ?_
   refine gh [(3, _), (13, _), (14, _), (15, _), (16, _)] [(500, some _), (501, some _), (3003, some _)] hB rfl rfl (by rfl) ?_
   refine AWp.seq ?_
   refine AWp.cond rfl (fun hg75 => ?_) (fun hg75 => ?_)
   ·replace h := ite_t hg75 h
    refine AWp.skip ?_
    refine seqQ_n ?_
    refine AWp.seq ?_
    refine AWp.block ?_
    obtain ⟨x76, hx76, h⟩ := bindS h
    refine sr (c (OpJ.indexD Tryd.underlying25 tyS68 (idx_some hx76).1 (get_map e_api_Range (idx_some hx76).2) (L rfl) (q 13) (q 15)) rfl (c (OpJ.loadD tyS68 (by rfl) (by rfl) (L rfl) (q 17)) rfl (cg (OpJ.alloc hB tyZ68 (nm := 1005) (by decide) (L rfl)) rfl (cg (OpJ.storeB tyS68 (SetAt.here _ _) (by rfl) (by rfl) (by simp) rfl (q 5) (q 18)) rfl cn)))) ?_
    refine gh [(3, _), (5, _), (13, _), (14, _), (15, _)] [(500, some _), (501, some _), (1005, some _), (3003, some _)] hB rfl rfl (by rfl) ?_
    refine sr (c (ov (.ptr 1005 0 [0]) (fp hN Tryd.underlying68 0 tyS32 _ (q 5))) rfl (c (lb hN 68 _ _ tyS32 (ad _) (q 19)) rfl (cg (OpJ.alloc hB tyZ32 (nm := 1006) (by decide) (L rfl)) rfl (cg (OpJ.storeB tyS32 (SetAt.here _ _) (by rfl) (by rfl) (by simp) rfl (q 6) (q 20)) rfl (c (OpJ.assign (L rfl) (Opd.bool true)) rfl cn))))) ?_
    refine gh [(3, _), (5, _), (6, _), (7, _), (13, _), (14, _), (15, _)] [(500, some _), (501, some _), (1005, some _), (1006, some _), (3003, some _)] hB rfl rfl (by rfl) ?_
    refine AWp.block ?_
    obtain ⟨p95, hx108, h⟩ := bindS h
    refine lg (resource_Prefixes_L1 x76) (fun s77 : Bool × api_Addr × (List api_Prefix) => ([(3, (.sref 3003 4 0 s77.2.2.length)), (5, (.ptr 1005 0 [])), (6, (.ptr 1006 0 [])), (7, (bo s77.1)), (13, (qe_api_Range_6 a0.fAddrs)), (14, (i6 (a0.fAddrs.length : Int))), (15, (i6 s3.1))] : EL)) (fun s77 : Bool × api_Addr × (List api_Prefix) => ([(500, some (.know (globF 0 [35, 37, 137]))), (501, some (.know (globF 1 [70, 138, 139]))), (1005, some (.box 68 (.d (e_api_Range x76)))), (1006, some (.box 32 (.d (e_api_Addr s77.2.1)))), (3003, some (we_api_Prefix_34_4 s77.2.2))] : OL)) (fun (p95 : ((List api_Prefix))) e E' O' => e = .exit 2 ∧ Mat B E' O' ([(3, (.sref 3003 4 0 p95.length)), (13, (qe_api_Range_6 a0.fAddrs)), (14, (i6 (a0.fAddrs.length : Int))), (15, (i6 s3.1))] : EL) ([(500, some (.know (globF 0 [35, 37, 137]))), (501, some (.know (globF 1 [70, 138, 139]))), (3003, some (we_api_Prefix_34_4 p95))] : OL)) hx108 (mp [] _ _ hB) (fun s77 y h => ?_) (fun e E' O' hR => ?_)
    ·unfold resource_Prefixes_L1 at h
     refine AWp.seq ?_
     refine AWp.seq ?_
     refine AWp.cut h (fun m98 : Bool => ([(3, (.sref 3003 4 0 s77.2.2.length)), (5, (.ptr 1005 0 [])), (6, (.ptr 1006 0 [])), (13, (qe_api_Range_6 a0.fAddrs)), (14, (i6 (a0.fAddrs.length : Int))), (15, (i6 s3.1)), (28, (bo m98))] : EL)) (fun m98 : Bool => ([(500, some (.know (globF 0 [35, 37, 137]))), (501, some (.know (globF 1 [70, 138, 139]))), (1005, some (.box 68 (.d (e_api_Range x76)))), (1006, some (.box 32 (.d (e_api_Addr s77.2.1)))), (3003, some (we_api_Prefix_34_4 s77.2.2))] : OL)) (fun m98 h E' O' hmat => ?_) (fun j99 hjj99 h => ?_)
     ·refine seqQ_n ?_
      refine AWp.ghost hmat ?_
      refine AWp.cond rfl (fun hg100 => ?_) (fun hg100 => ?_)
      ·replace h := ite_t hg100 h
       refine AWp.skip ?_
       refine seqQ_n ?_
       refine AWp.seq ?_
       refine AWp.block ?_
       obtain ⟨r101, hr101, h⟩ := bindS h
       refine sr (c (lb hN 32 _ _ tyS32 (At.here _) (q 6)) rfl (c (ov (.ptr 1005 3 [1]) (fp hN Tryd.underlying68 3 tyS32 _ (q 5))) rfl (c (lb hN 68 _ _ tyS32 (ad _) (q 30)) rfl (cg (cf hB fnOk36 (resource_largest_ac s77.2.1 x76.fTo r101 hr101) (L rfl) (OpdL.cons (q 29) (OpdL.cons (q 31) OpdL.nil))) rfl (cg (OpJ.alloc hB tyZ34 (nm := 1008) (by decide) (L rfl)) rfl (cg (OpJ.storeB tyS34 (SetAt.here _ _) (by rfl) (by rfl) (by simp) rfl (q 8) (q 32)) rfl cn)))))) ?_
       refine gh [(3, _), (5, _), (6, _), (8, _), (13, _), (14, _), (15, _)] [(500, some _), (501, some _), (1005, some _), (1006, some _), (1008, some _), (3003, some _)] hB rfl rfl (by rfl) ?_
       obtain ⟨hc102, h⟩ := chk_some h
       refine sr (c (mv hN (q 3)) rfl (c (lb hN 34 _ _ tyS34 (At.here _) (q 8)) rfl (c (OpJ.buildSlice Tryd.underlying36 tyS34 tyZD34 (by rfl) (by decide) (by decide) (Opds.cons (q 34) Opds.nil) (by kernel_rfl) (es := ([(e_api_Prefix r101)] : List D)) (by rfl) (by rfl) (by kernel_rfl) (by simp) (L rfl)) rfl (cg (OpJ.append hB Tryd.underlying36 tyE34 (nm := 1036) (by decide) (es := s77.2.2.map e_api_Prefix) (ys := ([r101] : List api_Prefix).map e_api_Prefix) (es' := (s77.2.2 ++ ([r101] : List api_Prefix)).map e_api_Prefix) (len := (s77.2.2 ++ ([r101] : List api_Prefix)).length) (by simp) (by simp) (map_sz (f := e_api_Prefix) (fun _ => rfl)) (by rw [List.length_map]; exact lim_mulN hc102 (by decide)) (by rw [List.length_map]; exact lim_leN hc102) (L rfl) (by simp) (q 33) (q 35)) rfl (c (OpJ.assign (L rfl) (q 36)) rfl cn))))) ?_
       refine gh [(3, _), (5, _), (6, _), (8, _), (13, _), (14, _), (15, _)] [(500, some _), (501, some _), (1005, some _), (1006, some _), (1008, some _), (1036, some _)] hB rfl rfl (by rfl) ?_
       obtain ⟨r103, hr103, h⟩ := bindS h
       obtain ⟨r104, hr104, h⟩ := bindS h
       refine rg (c (lb hN 34 _ _ tyS34 (At.here _) (q 8)) rfl (cg (cf hB fnOk38 (prefix_Last_ac r101 r103 hr103) (L rfl) (OpdL.cons (q 38) OpdL.nil)) rfl (cg (cf hB fnOk37 (addr_Next_ac r103 r104 hr104) (L rfl) (OpdL.cons (q 39) OpdL.nil)) rfl (c (mv hN (q 40)) rfl (c (OpJ.extract (by rfl) rfl (L rfl) (q 37)) rfl (c (OpJ.extract (by rfl) rfl (L rfl) (q 37)) rfl (cg (OpJ.storeB tyS32 (SetAt.here _ _) (by rfl) (by rfl) (by simp) rfl (q 6) (q 41)) rfl (c (OpJ.assign (L rfl) (q 42)) rfl cn)))))))) ?_
       refine blkQ_n ?_
       refine seqQ_n ?_
       refine gh [(3, _), (5, _), (6, _), (7, _), (13, _), (14, _), (15, _)] [(500, some _), (501, some _), (1005, some _), (1006, some _), (1036, some _)] hB rfl rfl (by rfl) ?_
       refine sr (c (lb hN 32 _ _ tyS32 (At.here _) (q 6)) rfl cn) ?_
       refine gh [(3, _), (5, _), (7, _), (13, _), (14, _), (15, _), (43, _)] [(500, some _), (501, some _), (1005, some _), (1036, some _)] hB rfl rfl (by rfl) ?_
       refine rg (cg (OpJ.alloc hB tyZ32 (nm := 1006) (by decide) (L rfl)) rfl (cg (OpJ.storeB tyS32 (SetAt.here _ _) (by rfl) (by rfl) (by simp) rfl (q 6) (q 43)) rfl cn)) ?_
       obtain rfl := Option.some.inj h
       exact ⟨rfl, (Mat.trans (mp [] [(3, (.sref 1036 4 0 ((s77.2.2 ++ ([r101] : List api_Prefix)).length))), (5, (.ptr 1005 0 [])), (6, (.ptr 1006 0 [])), (7, (bo r104.2)), (13, (qe_api_Range_6 a0.fAddrs)), (14, (i6 (a0.fAddrs.length : Int))), (15, (i6 s3.1))] [(500, some (.know (globF 0 [35, 37, 137]))), (501, some (.know (globF 1 [70, 138, 139]))), (1005, some (.box 68 (.d (e_api_Range x76)))), (1006, some (.box 32 (.d (e_api_Addr r104.1)))), (1036, some (we_api_Prefix_34_4 (s77.2.2 ++ ([r101] : List api_Prefix))))] hB) (mp [(3003, 1036)] _ _ hB))⟩
      ·replace h := ite_f hg100 h
       refine AWp.exit ?_
       refine seqQ_e ?_
       obtain rfl := Option.some.inj h
       exact ⟨(fun hc => by cases hc), rfl, (mp [] _ _ hB)⟩
     ·rcases Bool.eq_false_or_eq_true s77.1 with hg105 | hg105
      ·replace h := ite_t hg105 h
       obtain ⟨r106, hr106, h⟩ := bindS h
       refine rg (c (mv hN (q 7)) rfl (c (OpJ.val (v' := .d (.bool true)) (by rw [hg105] <;> rfl) (mv hN (q 21))) rfl (c (gd 22 (lb hN 32 _ _ tyS32 (At.here _) (q 6))) rfl (c (gd 22 (ov (.ptr 1005 3 [1]) (fp hN Tryd.underlying68 3 tyS32 _ (q 5)))) rfl (c (gd 22 (lb hN 68 _ _ tyS32 (ad _) (q 24))) rfl (cg (gd 22 (cf hB fnOk35 (addr_Cmp_ac s77.2.1 x76.fTo r106 hr106) (L rfl) (OpdL.cons (q 23) (OpdL.cons (q 25) OpdL.nil)))) rfl (c (gd 22 (OpJ.leq (L rfl) (q 26) (Opd.int .i64 (0)))) rfl (c (OpJ.pickT (L rfl) (q 22) (q 27)) rfl cn)))))))) ?_
       exact hjj99 _ h _ _ (Mat.trans (mp [] [(3, (.sref 3003 4 0 s77.2.2.length)), (5, (.ptr 1005 0 [])), (6, (.ptr 1006 0 [])), (13, (qe_api_Range_6 a0.fAddrs)), (14, (i6 (a0.fAddrs.length : Int))), (15, (i6 s3.1)), (28, (bo (decide (r106 ≤ (0 : Int)))))] [(500, some (.know (globF 0 [35, 37, 137]))), (501, some (.know (globF 1 [70, 138, 139]))), (1005, some (.box 68 (.d (e_api_Range x76)))), (1006, some (.box 32 (.d (e_api_Addr s77.2.1)))), (3003, some (we_api_Prefix_34_4 s77.2.2))] hB) (mp [] _ _ hB))
      ·replace h := ite_f hg105 h
       refine rg (c (mv hN (q 7)) rfl (c (OpJ.val (v' := .d (.bool false)) (by rw [hg105] <;> rfl) (mv hN (q 21))) rfl (cg (sU 22 (L rfl)) rfl (cg (sU 22 (L rfl)) rfl (cg (sU 22 (L rfl)) rfl (cg (sU 22 (L rfl)) rfl (cg (sU 22 (L rfl)) rfl (c (OpJ.pickF (L rfl) (q 22) (Opd.bool false)) rfl cn)))))))) ?_
       exact hjj99 _ h _ _ (Mat.trans (mp [] [(3, (.sref 3003 4 0 s77.2.2.length)), (5, (.ptr 1005 0 [])), (6, (.ptr 1006 0 [])), (13, (qe_api_Range_6 a0.fAddrs)), (14, (i6 (a0.fAddrs.length : Int))), (15, (i6 s3.1)), (28, (bo false))] [(500, some (.know (globF 0 [35, 37, 137]))), (501, some (.know (globF 1 [70, 138, 139]))), (1005, some (.box 68 (.d (e_api_Range x76)))), (1006, some (.box 32 (.d (e_api_Addr s77.2.1)))), (3003, some (we_api_Prefix_34_4 s77.2.2))] hB) (mp [] _ _ hB))
    ·obtain ⟨rfl, hmat⟩ := hR
     refine blkQ_hit ?_
     refine blkQ_n ?_
     refine seqQ_n ?_
     refine AWp.ghost hmat ?_
     refine rg (c (add6 (L rfl) (q 15) (Opd.int .i64 (1))) rfl (c (mv hN (q 44)) rfl cn)) ?_
     obtain rfl := Option.some.inj h
     exact ⟨rfl, (Mat.trans (mp [] [(3, (.sref 3003 4 0 p95.length)), (13, (qe_api_Range_6 a0.fAddrs)), (14, (i6 (a0.fAddrs.length : Int))), (15, (i6 (w64 (s3.1 + (1 : Int)))))] [(500, some (.know (globF 0 [35, 37, 137]))), (501, some (.know (globF 1 [70, 138, 139]))), (3003, some (we_api_Prefix_34_4 p95))] hB) (mp [] _ _ hB))⟩
   ·replace h := ite_f hg75 h
    refine AWp.exit ?_
    refine seqQ_e ?_
    obtain rfl := Option.some.inj h
    exact ⟨(fun hc => by cases hc), rfl, (mp [] _ _ hB)⟩
  ·obtain ⟨rfl, hmat⟩ := hR
   refine blkQ_hit ?_
   refine seqQ_n ?_
   refine AWp.ghost hmat ?_
   refine sr (c (mv hN (q 3)) rfl (c (OpJ.assign (L rfl) (q 45)) rfl cn)) ?_
   refine gh [(2, _)] [(500, some _), (501, some _), (3003, some _)] hB rfl rfl (by rfl) ?_
   refine AWp.ret ?_
   obtain rfl := Option.some.inj h
   exact ⟨.inl rfl, _, _, (Mat.trans (Mat.freezeP (n := 3003) (e := 34) (sz := 4) (es := p74.map e_api_Prefix) (Ts := [(2, (qe_api_Prefix_4 p74))]) (Bs := []) (by rfl) (TwT.cons (x := (.sref 3003 4 0 p74.length)) (by rfl) (FrzL.all (by first | rfl | (simp; done) | (simp; omega) | omega)) TwT.nil) TwB.nil) (mp [] [(2, (qe_api_Prefix_4 p74))] [(500, some (.know (globF 0 [35, 37, 137]))), (501, some (.know (globF 1 [70, 138, 139])))] hB)), [(qe_api_Prefix_4 p74)], (Res.tmp (by rfl) (by rfl) Res.nil), rfl, by rfl, by rfl, by rfl⟩

noncomputable def exchangepointlaw21_awake : Option (Bool) :=
 (resource_Prefixes (api_Resources.mk ([(api_Range.mk (api_Addr.mk false (0 : Int) (167772160 : Int)) (api_Addr.mk false (0 : Int) (167772162 : Int)))] : List api_Range) ([] : List api_Span))).bind fun r1 =>
 jn (fun m8 : Bool =>
 some m8) (fun j9 =>
 (if ((r1.length : Int) == (2 : Int)) = true then
 (idx r1 (0 : Int)).bind fun x11 =>
 (if (x11.fLen == (31 : Int)) = true then
 (idx r1 (1 : Int)).bind fun x13 =>
 (if (x13.fLen == (32 : Int)) = true then
 (idx r1 (1 : Int)).bind fun x15 =>
 j9 (x15.fAddr.fLo == (167772162 : Int))
 else
 j9 false)
 else
 j9 false)
 else
 j9 false))
theorem exchangepointlaw21_awake_ac (r : Bool) (h : exchangepointlaw21_awake = some r) : AC Tryd.prog 17 [] [(500, (.know (globF 0 [35, 37, 137]))), (501, (.know (globF 1 [70, 138, 139])))] (.d (.bool r)) [(500, some (.know (globF 0 [35, 37, 137]))), (501, some (.know (globF 1 [70, 138, 139])))] := by
 refine AC.of_code2 Tryd.func17 rfl rfl (Nat.le_of_ble_eq_true (by rfl)) fun B hB hN => ?_
 have L {d : Nat} (h : Nat.blt d Tryd.f17.ntmps = true) : d < B.N := ltN hN h
 delta exchangepointlaw21_awake at h
 refine sr (c (OpJ.assign (L rfl) (Opd.bool false)) rfl cn) ?_
 refine gh [] [(500, some _), (501, some _)] hB rfl rfl (by rfl) ?_
 refine AWp.seq ?_
 obtain ⟨r1, hr1, h⟩ := bindS h
 refine AWp.region (oc (OpJ.coe (v := (.st [(bo false), (.d (.int .u64 0)), (.d (.int .u64 (167772160 : Int)))])) (y := (.st [(.bool false), (.int .u64 0), (.int .u64 (167772160 : Int))])) (Co.st (CoL.cons (Co.d _) (CoL.cons (Co.d _) (CoL.cons (Co.d _) CoL.nil)))) rfl (OpJ.build (places := [(0, 1), (1, 1), (2, 1)]) ⟨Tryd.underlying32, fun w => by kernel_rfl⟩ tyZS32 (Opds.cons (Opd.int .u64 (167772160)) Opds.nil) (by kernel_rfl) (r := (.st [(bo false), (.d (.int .u64 0)), (.d (.int .u64 (167772160 : Int)))])) (by rfl) (L rfl)))
 (oc (OpJ.coe (v := (.st [(bo false), (.d (.int .u64 0)), (.d (.int .u64 (167772162 : Int)))])) (y := (.st [(.bool false), (.int .u64 0), (.int .u64 (167772162 : Int))])) (Co.st (CoL.cons (Co.d _) (CoL.cons (Co.d _) (CoL.cons (Co.d _) CoL.nil)))) rfl (OpJ.build (places := [(0, 1), (1, 1), (2, 1)]) ⟨Tryd.underlying32, fun w => by kernel_rfl⟩ tyZS32 (Opds.cons (Opd.int .u64 (167772162)) Opds.nil) (by kernel_rfl) (r := (.st [(bo false), (.d (.int .u64 0)), (.d (.int .u64 (167772162 : Int)))])) (by rfl) (L rfl)))
 (oc (OpJ.coe (v := (.st [(.d (.st [(.bool false), (.int .u64 0), (.int .u64 (167772160 : Int))])), (.d (.st [(.bool false), (.int .u64 0), (.int .u64 (167772162 : Int))]))])) (y := (.st [(.st [(.bool false), (.int .u64 0), (.int .u64 (167772160 : Int))]), (.st [(.bool false), (.int .u64 0), (.int .u64 (167772162 : Int))])])) (Co.st (CoL.cons (Co.d _) (CoL.cons (Co.d _) CoL.nil))) rfl (OpJ.build (places := [(0, 3), (3, 3)]) ⟨Tryd.underlying68, fun w => by kernel_rfl⟩ tyZS68 (Opds.cons (ot 2 (.d (.st [(.bool false), (.int .u64 0), (.int .u64 (167772160 : Int))]))) (Opds.cons (ot 3 (.d (.st [(.bool false), (.int .u64 0), (.int .u64 (167772162 : Int))]))) Opds.nil)) (by kernel_rfl) (r := (.st [(.d (.st [(.bool false), (.int .u64 0), (.int .u64 (167772160 : Int))])), (.d (.st [(.bool false), (.int .u64 0), (.int .u64 (167772162 : Int))]))])) (by rfl) (L rfl)))
 (oc (OpJ.buildSlice Tryd.underlying25 tyS68 tyZD68 (by rfl) (by decide) (by decide) (Opds.cons (ot 4 (.d (.st [(.st [(.bool false), (.int .u64 0), (.int .u64 (167772160 : Int))]), (.st [(.bool false), (.int .u64 0), (.int .u64 (167772162 : Int))])]))) Opds.nil) (by kernel_rfl) (es := ([(.st [(.st [(.bool false), (.int .u64 0), (.int .u64 (167772160 : Int))]), (.st [(.bool false), (.int .u64 0), (.int .u64 (167772162 : Int))])])] : List D)) (by rfl) (by rfl) (by kernel_rfl) (by simp) (L rfl))
 (oc (OpJ.build (places := [(0, 1), (1, 1)]) ⟨Tryd.underlying28, fun w => by kernel_rfl⟩ tyZS28 (Opds.cons (ot 5 (qe_api_Range_6 ([(api_Range.mk (api_Addr.mk false (0 : Int) (167772160 : Int)) (api_Addr.mk false (0 : Int) (167772162 : Int)))] : List api_Range))) Opds.nil) (by kernel_rfl) (r := (.st [(qe_api_Range_6 ([(api_Range.mk (api_Addr.mk false (0 : Int) (167772160 : Int)) (api_Addr.mk false (0 : Int) (167772162 : Int)))] : List api_Range)), .nils])) (by rfl) (L rfl))
 (oc (OpJ.callFn hB fnOk11 (resource_Prefixes_ac (api_Resources.mk ([(api_Range.mk (api_Addr.mk false (0 : Int) (167772160 : Int)) (api_Addr.mk false (0 : Int) (167772162 : Int)))] : List api_Range) ([] : List api_Span)) r1 hr1) [(500, 500), (501, 501)] (by kernel_rfl) (L rfl) (by kernel_rfl) (OpdL.cons (Opd.tw (ot 6 (.st [(qe_api_Range_6 ([(api_Range.mk (api_Addr.mk false (0 : Int) (167772160 : Int)) (api_Addr.mk false (0 : Int) (167772162 : Int)))] : List api_Range)), .nils])) (Tw.leaf ⟨_, (Co.st (CoL.cons (Co.d _) (CoL.cons (Co.nils 2) CoL.nil))), rfl⟩)) OpdL.nil))
 (oc (OpJ.assign (L rfl) (ot 7 (qe_api_Prefix_4 r1)))
 (OpJs.nil)))))))) (by rfl) (by rfl) ?_
 refine seqQ_n ?_
 refine AWp.ghost (mp [] [(1, (qe_api_Prefix_4 r1))] [(500, some (.know (globF 0 [35, 37, 137]))), (501, some (.know (globF 1 [70, 138, 139])))] hB) ?_
 refine AWp.seq ?_
 refine AWp.cut h (fun m8 : Bool => ([(0, (bo m8))] : EL)) (fun m8 : Bool => ([(500, some (.know (globF 0 [35, 37, 137]))), (501, some (.know (globF 1 [70, 138, 139])))] : OL)) (fun m8 h E' O' hmat => ?_) (fun j9 hjj9 h => ?_)
 ·refine seqQ_n ?_
  refine AWp.ghost hmat ?_
  refine AWp.ret ?_
  obtain rfl := Option.some.inj h
  exact ⟨.inl rfl, _, _, (kp [(0, _)] [(500, some _), (501, some _)] hB rfl rfl (by rfl)), [(bo m8)], (Res.tmp (by rfl) (by rfl) Res.nil), rfl, by rfl, by rfl, by rfl⟩
 ·rcases Bool.eq_false_or_eq_true ((r1.length : Int) == (2 : Int)) with hg10 | hg10
  ·replace h := ite_t hg10 h
   obtain ⟨x11, hx11, h⟩ := bindS h
   rcases Bool.eq_false_or_eq_true (x11.fLen == (31 : Int)) with hg12 | hg12
   ·replace h := ite_t hg12 h
    obtain ⟨x13, hx13, h⟩ := bindS h
    rcases Bool.eq_false_or_eq_true (x13.fLen == (32 : Int)) with hg14 | hg14
    ·replace h := ite_t hg14 h
     obtain ⟨x15, hx15, h⟩ := bindS h
     refine rg (c (mv hN (q 1)) rfl (c (OpJ.val (v' := (i6 (r1.length : Int))) (by simp) (OpJ.lenD Tryd.underlying36 (L rfl) (q 8))) rfl (c (OpJ.eqlI (L rfl) (q 9) (Opd.int .i64 (2))) rfl (c (OpJ.val (v' := .d (.bool true)) (by rw [hg10] <;> rfl) (mv hN (q 10))) rfl (c (gd 11 (mv hN (q 1))) rfl (c (gd 11 (OpJ.indexD Tryd.underlying36 tyS34 (idx_some hx11).1 (get_map e_api_Prefix (idx_some hx11).2) (L rfl) (q 12) (Opd.int .i64 (0)))) rfl (c (gd 11 (OpJ.fieldD Tryd.underlying34 (by rfl) (o := 3) (by rfl) tyS3 (by decide) (by rfl) (by rfl) (L rfl) (q 13))) rfl (c (gd 11 (OpJ.loadD tyS3 (by rfl) (by rfl) (L rfl) (q 14))) rfl (c (gd 11 (OpJ.eqlI (L rfl) (q 15) (Opd.int .i64 (31)))) rfl (c (OpJ.pickT (L rfl) (q 11) (q 16)) rfl (c (OpJ.val (v' := .d (.bool true)) (by rw [hg12] <;> rfl) (mv hN (q 17))) rfl (c (gd 18 (mv hN (q 1))) rfl (c (gd 18 (OpJ.indexD Tryd.underlying36 tyS34 (idx_some hx13).1 (get_map e_api_Prefix (idx_some hx13).2) (L rfl) (q 19) (Opd.int .i64 (1)))) rfl (c (gd 18 (OpJ.fieldD Tryd.underlying34 (by rfl) (o := 3) (by rfl) tyS3 (by decide) (by rfl) (by rfl) (L rfl) (q 20))) rfl (c (gd 18 (OpJ.loadD tyS3 (by rfl) (by rfl) (L rfl) (q 21))) rfl (c (gd 18 (OpJ.eqlI (L rfl) (q 22) (Opd.int .i64 (32)))) rfl (c (OpJ.pickT (L rfl) (q 18) (q 23)) rfl (c (OpJ.val (v' := .d (.bool true)) (by rw [hg14] <;> rfl) (mv hN (q 24))) rfl (c (gd 25 (mv hN (q 1))) rfl (c (gd 25 (OpJ.indexD Tryd.underlying36 tyS34 (idx_some hx15).1 (get_map e_api_Prefix (idx_some hx15).2) (L rfl) (q 26) (Opd.int .i64 (1)))) rfl (c (gd 25 (OpJ.fieldD Tryd.underlying34 (by rfl) (o := 0) (by rfl) tyS32 (by decide) (by rfl) (by rfl) (L rfl) (q 27))) rfl (c (gd 25 (OpJ.fieldD Tryd.underlying32 (by rfl) (o := 2) (by rfl) tyS30 (by decide) (by rfl) (by rfl) (L rfl) (q 28))) rfl (c (gd 25 (OpJ.loadD tyS30 (by rfl) (by rfl) (L rfl) (q 29))) rfl (c (gd 25 (OpJ.eqlI (L rfl) (q 30) (Opd.int .u64 (167772162)))) rfl (c (OpJ.pickT (L rfl) (q 25) (q 31)) rfl (c (OpJ.assign (L rfl) (q 32)) rfl cn)))))))))))))))))))))))))) ?_
     exact hjj9 _ h _ _ (Mat.trans (mp [] [(0, (bo (x15.fAddr.fLo == (167772162 : Int))))] [(500, some (.know (globF 0 [35, 37, 137]))), (501, some (.know (globF 1 [70, 138, 139])))] hB) (mp [] _ _ hB))
    ·replace h := ite_f hg14 h
     refine rg (c (mv hN (q 1)) rfl (c (OpJ.val (v' := (i6 (r1.length : Int))) (by simp) (OpJ.lenD Tryd.underlying36 (L rfl) (q 8))) rfl (c (OpJ.eqlI (L rfl) (q 9) (Opd.int .i64 (2))) rfl (c (OpJ.val (v' := .d (.bool true)) (by rw [hg10] <;> rfl) (mv hN (q 10))) rfl (c (gd 11 (mv hN (q 1))) rfl (c (gd 11 (OpJ.indexD Tryd.underlying36 tyS34 (idx_some hx11).1 (get_map e_api_Prefix (idx_some hx11).2) (L rfl) (q 12) (Opd.int .i64 (0)))) rfl (c (gd 11 (OpJ.fieldD Tryd.underlying34 (by rfl) (o := 3) (by rfl) tyS3 (by decide) (by rfl) (by rfl) (L rfl) (q 13))) rfl (c (gd 11 (OpJ.loadD tyS3 (by rfl) (by rfl) (L rfl) (q 14))) rfl (c (gd 11 (OpJ.eqlI (L rfl) (q 15) (Opd.int .i64 (31)))) rfl (c (OpJ.pickT (L rfl) (q 11) (q 16)) rfl (c (OpJ.val (v' := .d (.bool true)) (by rw [hg12] <;> rfl) (mv hN (q 17))) rfl (c (gd 18 (mv hN (q 1))) rfl (c (gd 18 (OpJ.indexD Tryd.underlying36 tyS34 (idx_some hx13).1 (get_map e_api_Prefix (idx_some hx13).2) (L rfl) (q 19) (Opd.int .i64 (1)))) rfl (c (gd 18 (OpJ.fieldD Tryd.underlying34 (by rfl) (o := 3) (by rfl) tyS3 (by decide) (by rfl) (by rfl) (L rfl) (q 20))) rfl (c (gd 18 (OpJ.loadD tyS3 (by rfl) (by rfl) (L rfl) (q 21))) rfl (c (gd 18 (OpJ.eqlI (L rfl) (q 22) (Opd.int .i64 (32)))) rfl (c (OpJ.pickT (L rfl) (q 18) (q 23)) rfl (c (OpJ.val (v' := .d (.bool false)) (by rw [hg14] <;> rfl) (mv hN (q 24))) rfl (cg (sU 25 (L rfl)) rfl (cg (sU 25 (L rfl)) rfl (cg (sU 25 (L rfl)) rfl (cg (sU 25 (L rfl)) rfl (cg (sU 25 (L rfl)) rfl (cg (sU 25 (L rfl)) rfl (c (OpJ.pickF (L rfl) (q 25) (Opd.bool false)) rfl (c (OpJ.assign (L rfl) (q 32)) rfl cn)))))))))))))))))))))))))) ?_
     exact hjj9 _ h _ _ (Mat.trans (mp [] [(0, (bo false))] [(500, some (.know (globF 0 [35, 37, 137]))), (501, some (.know (globF 1 [70, 138, 139])))] hB) (mp [] _ _ hB))
   ·replace h := ite_f hg12 h
    refine rg (c (mv hN (q 1)) rfl (c (OpJ.val (v' := (i6 (r1.length : Int))) (by simp) (OpJ.lenD Tryd.underlying36 (L rfl) (q 8))) rfl (c (OpJ.eqlI (L rfl) (q 9) (Opd.int .i64 (2))) rfl (c (OpJ.val (v' := .d (.bool true)) (by rw [hg10] <;> rfl) (mv hN (q 10))) rfl (c (gd 11 (mv hN (q 1))) rfl (c (gd 11 (OpJ.indexD Tryd.underlying36 tyS34 (idx_some hx11).1 (get_map e_api_Prefix (idx_some hx11).2) (L rfl) (q 12) (Opd.int .i64 (0)))) rfl (c (gd 11 (OpJ.fieldD Tryd.underlying34 (by rfl) (o := 3) (by rfl) tyS3 (by decide) (by rfl) (by rfl) (L rfl) (q 13))) rfl (c (gd 11 (OpJ.loadD tyS3 (by rfl) (by rfl) (L rfl) (q 14))) rfl (c (gd 11 (OpJ.eqlI (L rfl) (q 15) (Opd.int .i64 (31)))) rfl (c (OpJ.pickT (L rfl) (q 11) (q 16)) rfl (c (OpJ.val (v' := .d (.bool false)) (by rw [hg12] <;> rfl) (mv hN (q 17))) rfl (cg (sU 18 (L rfl)) rfl (cg (sU 18 (L rfl)) rfl (cg (sU 18 (L rfl)) rfl (cg (sU 18 (L rfl)) rfl (cg (sU 18 (L rfl)) rfl (c (OpJ.pickF (L rfl) (q 18) (Opd.bool false)) rfl (c (mv hN (q 24)) rfl (cg (sU 25 (L rfl)) rfl (cg (sU 25 (L rfl)) rfl (cg (sU 25 (L rfl)) rfl (cg (sU 25 (L rfl)) rfl (cg (sU 25 (L rfl)) rfl (cg (sU 25 (L rfl)) rfl (c (OpJ.pickF (L rfl) (q 25) (Opd.bool false)) rfl (c (OpJ.assign (L rfl) (q 32)) rfl cn)))))))))))))))))))))))))) ?_
    exact hjj9 _ h _ _ (Mat.trans (mp [] [(0, (bo false))] [(500, some (.know (globF 0 [35, 37, 137]))), (501, some (.know (globF 1 [70, 138, 139])))] hB) (mp [] _ _ hB))
  ·replace h := ite_f hg10 h
   refine rg (c (mv hN (q 1)) rfl (c (OpJ.val (v' := (i6 (r1.length : Int))) (by simp) (OpJ.lenD Tryd.underlying36 (L rfl) (q 8))) rfl (c (OpJ.eqlI (L rfl) (q 9) (Opd.int .i64 (2))) rfl (c (OpJ.val (v' := .d (.bool false)) (by rw [hg10] <;> rfl) (mv hN (q 10))) rfl (cg (sU 11 (L rfl)) rfl (cg (sU 11 (L rfl)) rfl (cg (sU 11 (L rfl)) rfl (cg (sU 11 (L rfl)) rfl (cg (sU 11 (L rfl)) rfl (c (OpJ.pickF (L rfl) (q 11) (Opd.bool false)) rfl (c (mv hN (q 17)) rfl (cg (sU 18 (L rfl)) rfl (cg (sU 18 (L rfl)) rfl (cg (sU 18 (L rfl)) rfl (cg (sU 18 (L rfl)) rfl (cg (sU 18 (L rfl)) rfl (c (OpJ.pickF (L rfl) (q 18) (Opd.bool false)) rfl (c (mv hN (q 24)) rfl (cg (sU 25 (L rfl)) rfl (cg (sU 25 (L rfl)) rfl (cg (sU 25 (L rfl)) rfl (cg (sU 25 (L rfl)) rfl (cg (sU 25 (L rfl)) rfl (cg (sU 25 (L rfl)) rfl (c (OpJ.pickF (L rfl) (q 25) (Opd.bool false)) rfl (c (OpJ.assign (L rfl) (q 32)) rfl cn)))))))))))))))))))))))))) ?_
   exact hjj9 _ h _ _ (Mat.trans (mp [] [(0, (bo false))] [(500, some (.know (globF 0 [35, 37, 137]))), (501, some (.know (globF 1 [70, 138, 139])))] hB) (mp [] _ _ hB))

noncomputable def resource_Of_1 (a0 : api_Span) : Option (Bool) :=
 (resource_span a0).bind fun r1 =>
 some (!r1)
theorem resource_Of_1_ac (a0 : api_Span) (r : Bool) (h : resource_Of_1 a0 = some r) : AC Tryd.prog 54 [(.d (e_api_Span a0))] [] (.d (.bool r)) [] := by
 refine AC.of_code2 Tryd.func54 rfl rfl (Nat.le_of_ble_eq_true (by rfl)) fun B hB hN => ?_
 delta resource_Of_1 at h
 refine sr (cg (OpJ.box hB (nm := 1001) (by decide) (by simp) rfl (ltN hN rfl) (q 0)) rfl (c (OpJ.assign (ltN hN rfl) (Opd.bool false)) rfl cn)) ?_
 refine gh [(1, _)] [(1001, some _)] hB rfl rfl (by rfl) ?_
 obtain ⟨r1, hr1, h⟩ := bindS h
 refine sr (c (lb hN 48 _ _ tyS48 (At.here _) (q 1)) rfl (cg (OpJ.callFn hB fnOk48 (resource_span_ac a0 r1 hr1) [] (by kernel_rfl) (ltN hN rfl) (by kernel_rfl) (OpdL.cons (q 3) OpdL.nil)) rfl (c (OpJ.not (ltN hN rfl) (q 4)) rfl (c (OpJ.assign (ltN hN rfl) (q 5)) rfl cn)))) ?_
 refine gh [(2, _)] [] hB rfl rfl (by rfl) ?_
 refine AWp.ret ?_
 obtain rfl := Option.some.inj h
 exact ⟨.inl rfl, _, _, (kp [(2, _)] [] hB rfl rfl (by rfl)), [(bo (!r1))], (Res.tmp (by rfl) (by rfl) Res.nil), rfl, by rfl, by rfl, by rfl⟩

noncomputable def slices_IndexFunc_4_L0 (a0 : (List api_Span)) (s1 : Int) : Option (((Int) ⊕ (Unit)) ⊕ (Int)) :=
 (if (decide (s1 < (a0.length : Int))) = true then
 (idx a0 s1).bind fun x13 =>
 (resource_Of_1 x13).bind fun r14 =>
 (if r14 = true then
 some (.inl (.inl s1))
 else
 some (.inr (w64 (s1 + (1 : Int)))))
 else
 some (.inl (.inr ())))
noncomputable def slices_IndexFunc_4 (a0 : (List api_Span)) : Option (Int) :=
 (loop (slices_IndexFunc_4_L0 a0) (0 : Int)).bind fun x16 => match x16 with
 | (.inl p10) =>
  some p10
 | (.inr _) =>
  some (-1 : Int)
theorem slices_IndexFunc_4_ac (a0 : (List api_Span)) (r : Int) (h : slices_IndexFunc_4 a0 = some r) : AC Tryd.prog 77 [(.d (.list 2 (a0.map e_api_Span))), (.func 54 [])] [] (.d (.int .i64 r)) [] := by
 refine AC.of_code2 Tryd.func77 rfl rfl (Nat.le_of_ble_eq_true (by rfl)) fun B hB hN => ?_
 delta slices_IndexFunc_4 at h
 refine sr (c (OpJ.assign (ltN hN rfl) (Opd.int .i64 (0))) rfl cn) ?_
 refine gh [(0, _), (1, _)] [] hB rfl rfl (by rfl) ?_
 refine AWp.seq ?_
 refine sr (c (mv hN (q 0)) rfl (c (OpJ.val (v' := (i6 (a0.length : Int))) (by simp) (OpJ.lenD Tryd.underlying26 (ltN hN rfl) (q 6))) rfl (c (mv hN (Opd.int .i64 (0))) rfl cn))) ?_
 refine gh [(0, _), (1, _), (7, _), (8, _)] [] hB rfl rfl (by rfl) ?_
 refine AWp.block ?_
 obtain ⟨x16, hx17, h⟩ := bindS h
 refine lg (slices_IndexFunc_4_L0 a0) (fun s1 : Int => ([(0, (qe_api_Span_2 a0)), (1, (.func 54 [])), (7, (i6 (a0.length : Int))), (8, (i6 s1))] : EL)) (fun s1 : Int => ([] : OL)) (fun (x : (Int) ⊕ (Unit)) e E' O' => match x with | (.inl p10) => e = .ret ∧ Mat B E' O' ([(4, (i6 p10))] : EL) ([] : OL) | (.inr _p) => e = .exit 0 ∧ Mat B E' O' ([] : EL) ([] : OL)) hx17 (mp [] _ _ hB) (fun s1 y h => ?_) (fun e E' O' hR => ?_)
 ·unfold slices_IndexFunc_4_L0 at h
  refine sr (c (OpJ.lss (ltN hN rfl) (q 8) (q 7)) rfl cn) ?_
  refine gh [(0, _), (1, _), (7, _), (8, _), (9, _)] [] hB rfl rfl (by rfl) ?_
  refine AWp.seq ?_
  refine AWp.cond rfl (fun hg12 => ?_) (fun hg12 => ?_)
  ·replace h := ite_t hg12 h
   refine AWp.skip ?_
   refine seqQ_n ?_
   refine AWp.seq ?_
   refine AWp.block ?_
   refine sr (c (mv hN (q 8)) rfl (c (OpJ.assign (ltN hN rfl) (q 10)) rfl cn)) ?_
   refine gh [(0, _), (1, _), (5, _), (7, _), (8, _)] [] hB rfl rfl (by rfl) ?_
   obtain ⟨x13, hx13, h⟩ := bindS h
   obtain ⟨r14, hr14, h⟩ := bindS h
   refine sr (c (mv hN (q 1)) rfl (c (mv hN (q 0)) rfl (c (mv hN (q 5)) rfl (c (OpJ.indexD Tryd.underlying26 tyS48 (idx_some hx13).1 (get_map e_api_Span (idx_some hx13).2) (ltN hN rfl) (q 12) (q 13)) rfl (c (OpJ.loadD tyS48 (by rfl) (by rfl) (ltN hN rfl) (q 14)) rfl (cg (OpJ.callVal (args := [(.d (e_api_Span x13))]) (caps := []) hB fnOk54 [] (resource_Of_1_ac x13 r14 hr14) (by kernel_rfl) (ltN hN rfl) (by kernel_rfl) (by kernel_rfl) (OpdL.cons (q 15) OpdL.nil)) rfl cn)))))) ?_
   refine gh [(0, _), (1, _), (5, _), (7, _), (8, _), (16, _)] [] hB rfl rfl (by rfl) ?_
   refine AWp.cond rfl (fun hg15 => ?_) (fun hg15 => ?_)
   ·replace h := ite_t hg15 h
    refine sr (c (mv hN (q 5)) rfl (c (OpJ.assign (ltN hN rfl) (q 17)) rfl cn)) ?_
    refine gh [(4, _)] [] hB rfl rfl (by rfl) ?_
    refine AWp.ret ?_
    refine blkQ_r ?_
    refine seqQ_r ?_
    obtain rfl := Option.some.inj h
    exact ⟨(fun hc => by cases hc), rfl, (mp [] _ _ hB)⟩
   ·replace h := ite_f hg15 h
    refine AWp.skip ?_
    refine blkQ_n ?_
    refine seqQ_n ?_
    refine rg (c (add6 (ltN hN rfl) (q 8) (Opd.int .i64 (1))) rfl (c (mv hN (q 18)) rfl cn)) ?_
    obtain rfl := Option.some.inj h
    exact ⟨rfl, (Mat.trans (mp [] [(0, (qe_api_Span_2 a0)), (1, (.func 54 [])), (7, (i6 (a0.length : Int))), (8, (i6 (w64 (s1 + (1 : Int)))))] [] hB) (mp [] _ _ hB))⟩
  ·replace h := ite_f hg12 h
   refine AWp.exit ?_
   refine seqQ_e ?_
   obtain rfl := Option.some.inj h
   exact ⟨(fun hc => by cases hc), rfl, (mp [] _ _ hB)⟩
 ·rcases x16 with p10 | _
  ·obtain ⟨rfl, hmat⟩ := hR
   refine blkQ_r ?_
   refine seqQ_r ?_
   obtain rfl := Option.some.inj h
   exact ⟨.inl rfl, _, _, (Mat.trans hmat (mp [] [(4, (i6 p10))] [] hB)), [(i6 p10)], (Res.tmp (by rfl) (by rfl) Res.nil), rfl, by rfl, by rfl, by rfl⟩
  ·obtain ⟨rfl, hmat⟩ := hR
   refine blkQ_hit ?_
   refine seqQ_n ?_
   refine AWp.ghost hmat ?_
   refine sr (c (OpJ.assign (ltN hN rfl) (Opd.int .i64 (-1))) rfl cn) ?_
   refine gh [(4, _)] [] hB rfl rfl (by rfl) ?_
   refine AWp.ret ?_
   obtain rfl := Option.some.inj h
   exact ⟨.inl rfl, _, _, (kp [(4, _)] [] hB rfl rfl (by rfl)), [(i6 (-1 : Int))], (Res.tmp (by rfl) (by rfl) Res.nil), rfl, by rfl, by rfl, by rfl⟩

noncomputable def slices_ContainsFunc_4 (a0 : (List api_Span)) : Option (Bool) :=
 (slices_IndexFunc_4 a0).bind fun r1 =>
 some (decide ((0 : Int) ≤ r1))
theorem slices_ContainsFunc_4_ac (a0 : (List api_Span)) (r : Bool) (h : slices_ContainsFunc_4 a0 = some r) : AC Tryd.prog 43 [(.d (.list 2 (a0.map e_api_Span))), (.func 54 [])] [] (.d (.bool r)) [] := by
 refine AC.of_code2 Tryd.func43 rfl rfl (Nat.le_of_ble_eq_true (by rfl)) fun B hB hN => ?_
 delta slices_ContainsFunc_4 at h
 refine sr (c (OpJ.assign (ltN hN rfl) (Opd.bool false)) rfl cn) ?_
 refine gh [(0, _), (1, _)] [] hB rfl rfl (by rfl) ?_
 obtain ⟨r1, hr1, h⟩ := bindS h
 refine sr (c (mv hN (q 0)) rfl (c (mv hN (q 1)) rfl (cg (OpJ.callFn hB fnOk77 (slices_IndexFunc_4_ac a0 r1 hr1) [] (by kernel_rfl) (ltN hN rfl) (by kernel_rfl) (OpdL.cons (q 5) (OpdL.cons (q 6) OpdL.nil))) rfl (c (OpJ.geq (ltN hN rfl) (q 7) (Opd.int .i64 (0))) rfl (c (OpJ.assign (ltN hN rfl) (q 8)) rfl cn))))) ?_
 refine gh [(4, _)] [] hB rfl rfl (by rfl) ?_
 refine AWp.ret ?_
 obtain rfl := Option.some.inj h
 exact ⟨.inl rfl, _, _, (kp [(4, _)] [] hB rfl rfl (by rfl)), [(bo (decide ((0 : Int) ≤ r1)))], (Res.tmp (by rfl) (by rfl) Res.nil), rfl, by rfl, by rfl, by rfl⟩

noncomputable def ext79_slices_Clone_R (a0 : (List api_Addr_)) : Option (List api_Addr_) := chk (decide (a0.length ≤ LIM)) <|
 some a0
theorem ext79_slices_Clone_R_ac (a0 : (List api_Addr_)) (r : List api_Addr_) (h : ext79_slices_Clone_R a0 = some r) : AC Tryd.prog 79 [(.d (.list 6 (a0.map e_api_Addr_)))] [] (.sref 900000 6 0 r.length) [(900000, some (.row 120 6 (r.map e_api_Addr_)))] := by
 obtain ⟨hc, h⟩ := chk_some h
 obtain rfl := Option.some.inj h
 exact AC.cloneR cloneOk79 (by simp) (by rw [List.length_map]; exact lim_mulN hc (by decide)) (map_sz (f := e_api_Addr_) (fun _ => rfl))

noncomputable def resource_order_normal_1 (a0 : api_Addr_) (a1 : api_Addr_) : Option (Int) :=
 (addr_Cmp a0.ffrom a1.ffrom).bind fun r1 =>
 some r1
theorem resource_order_normal_1_ac (a0 : api_Addr_) (a1 : api_Addr_) (r : Int) (h : resource_order_normal_1 a0 a1 = some r) : AC Tryd.prog 81 [(.d (e_api_Addr_ a0)), (.d (e_api_Addr_ a1)), (.ptr 0 0 [])] [(0, (.box 88 (.st [(.func 35 []), (.func 37 []), (.func 137 [])])))] (.d (.int .i64 r)) [(0, some (.box 88 (.st [(.func 35 []), (.func 37 []), (.func 137 [])])))] := by
 refine AC.of_code2 Tryd.func81 rfl rfl (Nat.le_of_ble_eq_true (by rfl)) fun B hB hN => ?_
 delta resource_order_normal_1 at h
 refine sr (cg (OpJ.box hB (nm := 1003) (by decide) (by simp) rfl (ltN hN rfl) (q 0)) rfl (cg (OpJ.box hB (nm := 1004) (by decide) (by simp) rfl (ltN hN rfl) (q 1)) rfl (c (OpJ.assign (ltN hN rfl) (Opd.int .i64 (0))) rfl cn))) ?_
 refine gh [(2, _), (3, _), (4, _)] [(0, some _), (1003, some _), (1004, some _)] hB rfl rfl (by rfl) ?_
 obtain ⟨r1, hr1, h⟩ := bindS h
 refine sr (c (ov (.ptr 0 0 [0]) (fp hN Tryd.underlying88 0 tyS70 _ (q 2))) rfl (c (lb hN 88 _ (.func 35 []) tyS70 (At.st1 (f := (.func 35 [])) (by rfl) (by rfl) (At.here _) (by first | rfl | omega)) (q 6)) rfl (c (ov (.ptr 1003 0 [0]) (fp hN Tryd.underlying120 0 tyS32 _ (q 3))) rfl (c (lb hN 120 _ _ tyS32 (ad _) (q 8)) rfl (c (ov (.ptr 1004 0 [0]) (fp hN Tryd.underlying120 0 tyS32 _ (q 4))) rfl (c (lb hN 120 _ _ tyS32 (ad _) (q 10)) rfl (cg (OpJ.callVal (args := [(.d (e_api_Addr a0.ffrom)), (.d (e_api_Addr a1.ffrom))]) (caps := []) hB fnOk35 [] (addr_Cmp_ac a0.ffrom a1.ffrom r1 hr1) (by kernel_rfl) (ltN hN rfl) (by kernel_rfl) (by kernel_rfl) (OpdL.cons (q 9) (OpdL.cons (q 11) OpdL.nil))) rfl (c (OpJ.assign (ltN hN rfl) (q 12)) rfl cn)))))))) ?_
 refine gh [(5, _)] [(0, some _)] hB rfl rfl (by rfl) ?_
 refine AWp.ret ?_
 obtain rfl := Option.some.inj h
 exact ⟨.inl rfl, _, _, (kp [(5, _)] [(0, some _)] hB rfl rfl (by rfl)), [(i6 r1)], (Res.tmp (by rfl) (by rfl) Res.nil), rfl, by rfl, by rfl, by rfl⟩

noncomputable def ext80_slices_SortFunc_resource_order_normal_1 (a0 : (List api_Addr_)) : Option (List api_Addr_) := sortF a0 fun x y => resource_order_normal_1 x y
theorem ext80_slices_SortFunc_resource_order_normal_1_ac (a0 : (List api_Addr_)) (r : List api_Addr_) (h : ext80_slices_SortFunc_resource_order_normal_1 a0 = some r) : AC Tryd.prog 80 [(.sref 900 6 0 a0.length), (.func 81 [(.ptr 0 0 [])])] [(0, (.box 88 (.st [(.func 35 []), (.func 37 []), (.func 137 [])]))), (900, (.row 120 6 (a0.map e_api_Addr_)))] (.tup []) [(0, some (.box 88 (.st [(.func 35 []), (.func 37 []), (.func 137 [])]))), (900, some (.row 120 6 (r.map e_api_Addr_)))] :=
 AC.sortFC e_api_Addr_ (fun x y => resource_order_normal_1 x y) a0 r h sortOk80 fnOk81 (fun _ => rfl) (by rfl) (by rfl) rfl (fun x y c hc => resource_order_normal_1_ac x y c hc)

noncomputable def resource_order_normal_L0 (r1 : List api_Addr_) (r2 : List api_Addr_) (s4 : Int × (List api_Addr_)) : Option ((((List api_Addr_))) ⊕ (Int × (List api_Addr_))) :=
 (if (decide (s4.1 < (r1.length : Int))) = true then
 jn (fun m161 : (List api_Addr_) =>
 some (.inr ((w64 (s4.1 + (1 : Int))), m161))) (fun j162 =>
 (idx r2 s4.1).bind fun x163 =>
 (idx r2 s4.1).bind fun x164 =>
 (if (decide ((w64 ((s4.2.length : Int) - (1 : Int))) < (0 : Int))) = true then
 chk (decide ((s4.2 ++ ([x164] : List api_Addr_)).length ≤ LIM)) <|
 j162 (s4.2 ++ ([x164] : List api_Addr_))
 else
 (idx s4.2 (w64 ((s4.2.length : Int) - (1 : Int)))).bind fun x167 =>
 (idx s4.2 (w64 ((s4.2.length : Int) - (1 : Int)))).bind fun x168 =>
 (addr_Next x168.fto).bind fun r169 =>
 jn (fun m179 : Bool =>
 (if m179 = true then
 chk (decide ((s4.2 ++ ([x164] : List api_Addr_)).length ≤ LIM)) <|
 j162 (s4.2 ++ ([x164] : List api_Addr_))
 else
 (idx s4.2 (w64 ((s4.2.length : Int) - (1 : Int)))).bind fun x183 =>
 (idx s4.2 (w64 ((s4.2.length : Int) - (1 : Int)))).bind fun x184 =>
 (addr_Cmp x164.fto x184.fto).bind fun r185 =>
 (if (decide ((0 : Int) < r185)) = true then
 (idx s4.2 (w64 ((s4.2.length : Int) - (1 : Int)))).bind fun x187 =>
 (idx s4.2 (w64 ((s4.2.length : Int) - (1 : Int)))).bind fun x188 =>
 j162 (s4.2.set (w64 ((s4.2.length : Int) - (1 : Int))).toNat (api_Addr_.mk x188.ffrom x164.fto))
 else
 j162 s4.2))) (fun j180 =>
 (idx s4.2 (w64 ((s4.2.length : Int) - (1 : Int)))).bind fun x189 =>
 (idx s4.2 (w64 ((s4.2.length : Int) - (1 : Int)))).bind fun x190 =>
 (addr_Cmp x164.ffrom x190.fto).bind fun r191 =>
 (if (decide ((0 : Int) < r191)) = true then
 (if r169.2 = true then
 (addr_Cmp r169.1 x164.ffrom).bind fun r194 =>
 j180 (!(r194 == (0 : Int)))
 else
 j180 (!false))
 else
 j180 false))))
 else
 some (.inl s4.2))
noncomputable def resource_order_normal (a0 : (List api_Addr_)) : Option ((List api_Addr_)) :=
 (ext79_slices_Clone_R a0).bind fun r1 =>
 (ext80_slices_SortFunc_resource_order_normal_1 r1).bind fun r2 =>
 chk (decide (r2.length = r1.length)) <|
 (loop (resource_order_normal_L0 r1 r2) ((0 : Int), ([] : List api_Addr_))).bind fun p127 =>
 some p127
theorem resource_order_normal_ac (a0 : (List api_Addr_)) (r : (List api_Addr_)) (h : resource_order_normal a0 = some r) : AC Tryd.prog 55 [(.st [(.func 35 []), (.func 37 []), (.func 137 [])]), (.d (.list 6 (a0.map e_api_Addr_)))] [] (.d (.list 6 (r.map e_api_Addr_))) [] := by
 refine AC.of_code2 Tryd.func55 rfl rfl (Nat.le_of_ble_eq_true (by rfl)) fun B hB hN => ?_
 have L {d : Nat} (h : Nat.blt d Tryd.f55.ntmps = true) : d < B.N := ltN hN h
 delta resource_order_normal at h
 refine sr (cg (OpJ.box hB (nm := 1002) (by decide) (by simp) rfl (L rfl) (q 0)) rfl (c (OpJ.assign (L rfl) Opd.nils) rfl cn)) ?_
 refine gh [(1, _), (2, _)] [(1002, some _)] hB rfl rfl (by rfl) ?_
 refine AWp.seq ?_
 obtain ⟨r1, hr1, h⟩ := bindS h
 refine AWp.region (oc (mv hN (ot 1 (qe_api_Addr__6 a0)))
 (oc (OpJ.callFn hB fnOk79 (ext79_slices_Clone_R_ac a0 r1 hr1) [(900000, 100000)] (by kernel_rfl) (L rfl) (by kernel_rfl) (OpdL.cons (ot 11 (qe_api_Addr__6 a0)) OpdL.nil))
 (oc (OpJ.assign (L rfl) (ot 12 (.sref 100000 6 0 r1.length)))
 (OpJs.nil)))) (by rfl) (by rfl) ?_
 refine seqQ_n ?_
 refine AWp.ghost (mp [] [(1, (.sref 100000 6 0 r1.length)), (2, (.ptr 1002 0 []))] [(1002, some (.box 88 (.st [(.func 35 []), (.func 37 []), (.func 137 [])]))), (100000, some (we_api_Addr__120_6 r1))] hB) ?_
 refine AWp.seq ?_
 obtain ⟨r2, hr2, h⟩ := bindS h
 obtain ⟨hc3, h⟩ := chk_some h
 have lhc3 := of_decide_eq_true hc3
 have hc3_o := of_decide_eq_true hc3
 refine AWp.region (oc (mv hN (ot 1 (.sref 100000 6 0 r1.length)))
 (oc (OpJ.makeF (OpdL.cons (ot 2 (.ptr 1002 0 [])) OpdL.nil) rfl rfl (L rfl))
 (oc (OpJ.callFn hB fnOk80 (ext80_slices_SortFunc_resource_order_normal_1_ac r1 r2 hr2) [(900, 100000), (0, 1002)] (by kernel_rfl) (L rfl) (by kernel_rfl) (OpdL.cons (ot 13 (.sref 100000 6 0 r1.length)) (OpdL.cons (ot 14 (.func 81 [(.ptr 1002 0 [])])) OpdL.nil)))
 (OpJs.nil)))) (by rfl) (by rfl) ?_
 refine seqQ_n ?_
 refine AWp.ghost (mp [] [(1, (.sref 100000 6 0 r1.length)), (2, (.ptr 1002 0 []))] [(1002, some (.box 88 (.st [(.func 35 []), (.func 37 []), (.func 137 [])]))), (100000, some (we_api_Addr__120_6 r2))] hB) ?_
 refine sr (c (OpJ.assign (L rfl) Opd.nils) rfl cn) ?_
 refine gh [(1, _), (2, _), (5, _)] [(1002, some _), (100000, some _)] hB rfl rfl (by rfl) ?_
 refine AWp.seq ?_
 refine sr (c (mv hN (q 1)) rfl (c (OpJ.lenS Tryd.underlying82 (L rfl) (q 16)) rfl (c (mv hN (Opd.int .i64 (0))) rfl cn))) ?_
 refine gh [(2, _), (5, _), (16, _), (17, _), (18, _)] [(1002, some _), (100000, some _)] hB rfl rfl (by rfl) ?_
 refine AWp.block ?_
 obtain ⟨p127, hx196, h⟩ := bindS h
 refine lg (resource_order_normal_L0 r1 r2) (fun s4 : Int × (List api_Addr_) => ([(2, (.ptr 1002 0 [])), (5, (.sref 3005 6 0 s4.2.length)), (16, (.sref 100000 6 0 r2.length)), (17, (i6 (r1.length : Int))), (18, (i6 s4.1))] : EL)) (fun s4 : Int × (List api_Addr_) => ([(1002, some (.box 88 (.st [(.func 35 []), (.func 37 []), (.func 137 [])]))), (3005, some (we_api_Addr__120_6 s4.2)), (100000, some (we_api_Addr__120_6 r2))] : OL)) (fun (p127 : ((List api_Addr_))) e E' O' => e = .exit 0 ∧ Mat B E' O' ([(5, (.sref 3005 6 0 p127.length))] : EL) ([(3005, some (we_api_Addr__120_6 p127))] : OL)) hx196 (Mat.trans (Mat.beginP (n := 3005) (e := 120) (sz := 6) (Ts := [(5, (.sref 3005 6 0 0))]) (Bs := []) hB (by decide) (by rfl) (by decide) (TwT.cons (x := .nils) (by rfl) (Tw.leaf ⟨rfl, rfl⟩) TwT.nil) TwB.nil) (Mat.trans (Mat.lenP (Ts := [(16, (.sref 100000 6 0 r2.length))]) (Bs := []) (TwT.cons (x := (.sref 100000 6 0 r1.length)) (by rfl) (Tw.leaf ⟨_, _, _, _, _, rfl, rfl, (by first | rfl | (simp; done) | (simp; omega) | omega)⟩) TwT.nil) TwB.nil) (mp [] _ _ hB))) (fun s4 y h => ?_) (fun e E' O' hR => ?_)
 ·unfold resource_order_normal_L0 at h
  refine sr (c (OpJ.lss (L rfl) (q 18) (q 17)) rfl cn) ?_
  refine gh [(2, _), (5, _), (16, _), (17, _), (18, _), (19, _)] [(1002, some _), (3005, some _), (100000, some _)] hB rfl rfl (by rfl) ?_
  refine AWp.seq ?_
  refine AWp.cond rfl (fun hg128 => ?_) (fun hg128 => ?_)
  ·replace h := ite_t hg128 h
   refine AWp.skip ?_
   refine seqQ_n ?_
   refine AWp.seq ?_
   refine AWp.cut h (fun m161 : (List api_Addr_) => ([(2, (.ptr 1002 0 [])), (5, (.sref 3005 6 0 m161.length)), (16, (.sref 100000 6 0 r2.length)), (17, (i6 (r1.length : Int))), (18, (i6 s4.1))] : EL)) (fun m161 : (List api_Addr_) => ([(1002, some (.box 88 (.st [(.func 35 []), (.func 37 []), (.func 137 [])]))), (3005, some (we_api_Addr__120_6 m161)), (100000, some (we_api_Addr__120_6 r2))] : OL)) (fun m161 h E' O' hmat => ?_) (fun j162 hjj162 h => ?_)
   ·refine seqQ_n ?_
    refine AWp.ghost hmat ?_
    refine rg (c (add6 (L rfl) (q 18) (Opd.int .i64 (1))) rfl (c (mv hN (q 89)) rfl cn)) ?_
    obtain rfl := Option.some.inj h
    exact ⟨rfl, (Mat.trans (mp [] [(2, (.ptr 1002 0 [])), (5, (.sref 3005 6 0 m161.length)), (16, (.sref 100000 6 0 r2.length)), (17, (i6 (r1.length : Int))), (18, (i6 (w64 (s4.1 + (1 : Int)))))] [(1002, some (.box 88 (.st [(.func 35 []), (.func 37 []), (.func 137 [])]))), (3005, some (we_api_Addr__120_6 m161)), (100000, some (we_api_Addr__120_6 r2))] hB) (mp [] _ _ hB))⟩
   ·refine AWp.block ?_
    obtain ⟨x163, hx163, h⟩ := bindS h
    obtain ⟨x164, hx164, h⟩ := bindS h
    refine sr (c (OpJ.val (v' := (.ptr 100000 (s4.1.toNat * 6) [s4.1.toNat])) (by simp) (OpJ.indexS Tryd.underlying82 tyS120 (idx_some hx163).1 (by have := idx_lt hx163; first | (simpa using this) | ((try simp only [List.length_map] at this); (try simp only [List.length_map]); omega)) (L rfl) (q 16) (q 18))) rfl (c (OpJ.loadR (e := 120) (sz := 6) tyS120 (get_map e_api_Addr_ (idx_some hx164).2) (o := 0) (At.here _) (by rfl) (by rfl) (by rfl) (L rfl) (q 20)) rfl (cg (OpJ.alloc hB tyZ120 (nm := 1007) (by decide) (L rfl)) rfl (cg (OpJ.storeB tyS120 (SetAt.here _ _) (by rfl) (by rfl) (by simp) rfl (q 7) (q 21)) rfl cn)))) ?_
    refine gh [(2, _), (5, _), (7, _), (16, _), (17, _), (18, _)] [(1002, some _), (1007, some _), (3005, some _), (100000, some _)] hB rfl rfl (by rfl) ?_
    refine sr (c (mv hN (q 5)) rfl (c (OpJ.lenS Tryd.underlying82 (L rfl) (q 22)) rfl (c (sub6 (L rfl) (q 23) (Opd.int .i64 (1))) rfl (c (OpJ.assign (L rfl) (q 24)) rfl cn)))) ?_
    refine gh [(2, _), (5, _), (7, _), (8, _), (16, _), (17, _), (18, _)] [(1002, some _), (1007, some _), (3005, some _), (100000, some _)] hB rfl rfl (by rfl) ?_
    refine AWp.seq ?_
    refine sr (c (mv hN (q 8)) rfl (c (OpJ.lss (L rfl) (q 25) (Opd.int .i64 (0))) rfl cn)) ?_
    refine gh [(2, _), (5, _), (7, _), (8, _), (16, _), (17, _), (18, _), (26, _)] [(1002, some _), (1007, some _), (3005, some _), (100000, some _)] hB rfl rfl (by rfl) ?_
    refine AWp.cond rfl (fun hg165 => ?_) (fun hg165 => ?_)
    ·replace h := ite_t hg165 h
     obtain ⟨hc166, h⟩ := chk_some h
     refine sr (c (mv hN (q 5)) rfl (c (lb hN 120 _ _ tyS120 (At.here _) (q 7)) rfl (c (OpJ.buildSlice Tryd.underlying82 tyS120 tyZD120 (by rfl) (by decide) (by decide) (Opds.cons (q 28) Opds.nil) (by kernel_rfl) (es := ([(e_api_Addr_ x164)] : List D)) (by rfl) (by rfl) (by kernel_rfl) (by simp) (L rfl)) rfl (cg (OpJ.append hB Tryd.underlying82 tyE120 (nm := 1030) (by decide) (es := s4.2.map e_api_Addr_) (ys := ([x164] : List api_Addr_).map e_api_Addr_) (es' := (s4.2 ++ ([x164] : List api_Addr_)).map e_api_Addr_) (len := (s4.2 ++ ([x164] : List api_Addr_)).length) (by simp) (by simp) (map_sz (f := e_api_Addr_) (fun _ => rfl)) (by rw [List.length_map]; exact lim_mulN hc166 (by decide)) (by rw [List.length_map]; exact lim_leN hc166) (L rfl) (by simp) (q 27) (q 29)) rfl (c (OpJ.assign (L rfl) (q 30)) rfl cn))))) ?_
     refine gh [(2, _), (5, _), (16, _), (17, _), (18, _)] [(1002, some _), (1030, some _), (100000, some _)] hB rfl rfl (by rfl) ?_
     refine AWp.exit ?_
     refine seqQ_e ?_
     refine blkQ_hit ?_
     exact hjj162 _ h _ _ (mp [(3005, 1030)] _ _ hB)
    ·replace h := ite_f hg165 h
     refine AWp.skip ?_
     refine seqQ_n ?_
     obtain ⟨x167, hx167, h⟩ := bindS h
     obtain ⟨x168, hx168, h⟩ := bindS h
     obtain ⟨r169, hr169, h⟩ := bindS h
     refine sd (c (ov (.ptr 1002 1 [1]) (fp hN Tryd.underlying88 1 tyS73 _ (q 2))) rfl (c (lb hN 88 _ (.func 37 []) tyS73 (At.st1 (f := (.func 37 [])) (by rfl) (by rfl) (At.here _) (by first | rfl | omega)) (q 32)) rfl (c (mv hN (q 5)) rfl (c (mv hN (q 8)) rfl (c (OpJ.val (v' := (.ptr 3005 ((w64 ((s4.2.length : Int) - (1 : Int))).toNat * 6) [(w64 ((s4.2.length : Int) - (1 : Int))).toNat])) (by simp) (OpJ.indexS Tryd.underlying82 tyS120 (idx_some hx167).1 (by have := idx_lt hx167; first | (simpa using this) | ((try simp only [List.length_map] at this); (try simp only [List.length_map]); omega)) (L rfl) (q 34) (q 35))) rfl (c (ov (.ptr 3005 (((w64 ((s4.2.length : Int) - (1 : Int))).toNat * 6) + 3) [(w64 ((s4.2.length : Int) - (1 : Int))).toNat, 1]) (fp hN Tryd.underlying120 3 tyS32 _ (q 36))) rfl (c (OpJ.loadR (e := 120) (sz := 6) tyS32 (get_map e_api_Addr_ (idx_some hx168).2) (o := 3) (ad _) (by rfl) (by rfl) (by rfl) (L rfl) (q 37)) rfl (cg (OpJ.callVal (args := [(.d (e_api_Addr x168.fto))]) (caps := []) hB fnOk37 [] (addr_Next_ac x168.fto r169 hr169) (by kernel_rfl) (L rfl) (by kernel_rfl) (by kernel_rfl) (OpdL.cons (q 38) OpdL.nil)) rfl (c (mv hN (q 39)) rfl (c (OpJ.extract (by rfl) rfl (L rfl) (q 31)) rfl (c (OpJ.extract (by rfl) rfl (L rfl) (q 31)) rfl (cg (OpJ.alloc hB tyZ32 (nm := 1009) (by decide) (L rfl)) rfl (cg (OpJ.storeB tyS32 (SetAt.here _ _) (by rfl) (by rfl) (by simp) rfl (q 9) (q 40)) rfl (c (OpJ.assign (L rfl) (q 41)) rfl cn)))))))))))))) (by kernel_rfl) (by kernel_rfl) ?_
     refine gh [(2, _), (5, _), (7, _), (8, _), (9, _), (10, _), (16, _), (17, _), (18, _)] [(1002, some _), (1007, some _), (1009, some _), (3005, some _), (100000, some _)] hB rfl rfl (by rfl) ?_
     refine AWp.block ?_
     refine AWp.seq ?_
     refine AWp.cut h (fun m179 : Bool => ([(2, (.ptr 1002 0 [])), (5, (.sref 3005 6 0 s4.2.length)), (7, (.ptr 1007 0 [])), (8, (i6 (w64 ((s4.2.length : Int) - (1 : Int))))), (16, (.sref 100000 6 0 r2.length)), (17, (i6 (r1.length : Int))), (18, (i6 s4.1)), (42, (bo m179))] : EL)) (fun m179 : Bool => ([(1002, some (.box 88 (.st [(.func 35 []), (.func 37 []), (.func 137 [])]))), (1007, some (.box 120 (.d (e_api_Addr_ x164)))), (3005, some (we_api_Addr__120_6 s4.2)), (100000, some (we_api_Addr__120_6 r2))] : OL)) (fun m179 h E' O' hmat => ?_) (fun j180 hjj180 h => ?_)
     ·refine seqQ_n ?_
      refine AWp.ghost hmat ?_
      refine AWp.cond rfl (fun hg181 => ?_) (fun hg181 => ?_)
      ·replace h := ite_t hg181 h
       obtain ⟨hc182, h⟩ := chk_some h
       refine rg (c (mv hN (q 5)) rfl (c (lb hN 120 _ _ tyS120 (At.here _) (q 7)) rfl (c (OpJ.buildSlice Tryd.underlying82 tyS120 tyZD120 (by rfl) (by decide) (by decide) (Opds.cons (q 68) Opds.nil) (by kernel_rfl) (es := ([(e_api_Addr_ x164)] : List D)) (by rfl) (by rfl) (by kernel_rfl) (by simp) (L rfl)) rfl (cg (OpJ.append hB Tryd.underlying82 tyE120 (nm := 1070) (by decide) (es := s4.2.map e_api_Addr_) (ys := ([x164] : List api_Addr_).map e_api_Addr_) (es' := (s4.2 ++ ([x164] : List api_Addr_)).map e_api_Addr_) (len := (s4.2 ++ ([x164] : List api_Addr_)).length) (by simp) (by simp) (map_sz (f := e_api_Addr_) (fun _ => rfl)) (by rw [List.length_map]; exact lim_mulN hc182 (by decide)) (by rw [List.length_map]; exact lim_leN hc182) (L rfl) (by simp) (q 67) (q 69)) rfl (c (OpJ.assign (L rfl) (q 70)) rfl cn))))) ?_
       refine blkQ_n ?_
       refine blkQ_n ?_
       exact hjj162 _ h _ _ (Mat.trans (mp [] [(2, (.ptr 1002 0 [])), (5, (.sref 1070 6 0 ((s4.2 ++ ([x164] : List api_Addr_)).length))), (16, (.sref 100000 6 0 r2.length)), (17, (i6 (r1.length : Int))), (18, (i6 s4.1))] [(1002, some (.box 88 (.st [(.func 35 []), (.func 37 []), (.func 137 [])]))), (1070, some (we_api_Addr__120_6 (s4.2 ++ ([x164] : List api_Addr_)))), (100000, some (we_api_Addr__120_6 r2))] hB) (mp [(3005, 1070)] _ _ hB))
      ·replace h := ite_f hg181 h
       obtain ⟨x183, hx183, h⟩ := bindS h
       obtain ⟨x184, hx184, h⟩ := bindS h
       obtain ⟨r185, hr185, h⟩ := bindS h
       refine sd (c (ov (.ptr 1002 0 [0]) (fp hN Tryd.underlying88 0 tyS70 _ (q 2))) rfl (c (lb hN 88 _ (.func 35 []) tyS70 (At.st1 (f := (.func 35 [])) (by rfl) (by rfl) (At.here _) (by first | rfl | omega)) (q 72)) rfl (c (ov (.ptr 1007 3 [1]) (fp hN Tryd.underlying120 3 tyS32 _ (q 7))) rfl (c (lb hN 120 _ _ tyS32 (ad _) (q 74)) rfl (c (mv hN (q 5)) rfl (c (mv hN (q 8)) rfl (c (OpJ.val (v' := (.ptr 3005 ((w64 ((s4.2.length : Int) - (1 : Int))).toNat * 6) [(w64 ((s4.2.length : Int) - (1 : Int))).toNat])) (by simp) (OpJ.indexS Tryd.underlying82 tyS120 (idx_some hx183).1 (by have := idx_lt hx183; first | (simpa using this) | ((try simp only [List.length_map] at this); (try simp only [List.length_map]); omega)) (L rfl) (q 76) (q 77))) rfl (c (ov (.ptr 3005 (((w64 ((s4.2.length : Int) - (1 : Int))).toNat * 6) + 3) [(w64 ((s4.2.length : Int) - (1 : Int))).toNat, 1]) (fp hN Tryd.underlying120 3 tyS32 _ (q 78))) rfl (c (OpJ.loadR (e := 120) (sz := 6) tyS32 (get_map e_api_Addr_ (idx_some hx184).2) (o := 3) (ad _) (by rfl) (by rfl) (by rfl) (L rfl) (q 79)) rfl (cg (OpJ.callVal (args := [(.d (e_api_Addr x164.fto)), (.d (e_api_Addr x184.fto))]) (caps := []) hB fnOk35 [] (addr_Cmp_ac x164.fto x184.fto r185 hr185) (by kernel_rfl) (L rfl) (by kernel_rfl) (by kernel_rfl) (OpdL.cons (q 75) (OpdL.cons (q 80) OpdL.nil))) rfl (c (OpJ.gtr (L rfl) (q 81) (Opd.int .i64 (0))) rfl (c (OpJ.assign (L rfl) (q 82)) rfl cn)))))))))))) (by kernel_rfl) (by kernel_rfl) ?_
       refine gh [(2, _), (5, _), (7, _), (8, _), (16, _), (17, _), (18, _), (71, _)] [(1002, some _), (1007, some _), (3005, some _), (100000, some _)] hB rfl rfl (by rfl) ?_
       refine AWp.cond rfl (fun hg186 => ?_) (fun hg186 => ?_)
       ·replace h := ite_t hg186 h
        obtain ⟨x187, hx187, h⟩ := bindS h
        obtain ⟨x188, hx188, h⟩ := bindS h
        refine rg (c (mv hN (q 5)) rfl (c (mv hN (q 8)) rfl (c (ov (.ptr 1007 3 [1]) (fp hN Tryd.underlying120 3 tyS32 _ (q 7))) rfl (c (lb hN 120 _ _ tyS32 (ad _) (q 85)) rfl (c (OpJ.val (v' := (.ptr 3005 ((w64 ((s4.2.length : Int) - (1 : Int))).toNat * 6) [(w64 ((s4.2.length : Int) - (1 : Int))).toNat])) (by simp) (OpJ.indexS Tryd.underlying82 tyS120 (idx_some hx187).1 (by have := idx_lt hx187; first | (simpa using this) | ((try simp only [List.length_map] at this); (try simp only [List.length_map]); omega)) (L rfl) (q 83) (q 84))) rfl (c (ov (.ptr 3005 (((w64 ((s4.2.length : Int) - (1 : Int))).toNat * 6) + 3) [(w64 ((s4.2.length : Int) - (1 : Int))).toNat, 1]) (fp hN Tryd.underlying120 3 tyS32 _ (q 87))) rfl (cg (OpJ.storeR (e := 120) (sz := 6) (es' := (s4.2.set (w64 ((s4.2.length : Int) - (1 : Int))).toNat (api_Addr_.mk x188.ffrom x164.fto)).map e_api_Addr_) tyS32 (get_map e_api_Addr_ (idx_some hx188).2) (o := 3) (SetAt.dst1 (by rfl) (by rfl) (SetAt.here _ _) (by rfl) (by rfl) (by first | rfl | omega)) (by rfl) (map_set _ _ _ _) (by rfl) (by rfl) (q 88) (q 86)) rfl cn))))))) ?_
        refine blkQ_n ?_
        refine blkQ_n ?_
        exact hjj162 _ h _ _ (Mat.trans (mp [] [(2, (.ptr 1002 0 [])), (5, (.sref 3005 6 0 s4.2.length)), (16, (.sref 100000 6 0 r2.length)), (17, (i6 (r1.length : Int))), (18, (i6 s4.1))] [(1002, some (.box 88 (.st [(.func 35 []), (.func 37 []), (.func 137 [])]))), (3005, some (we_api_Addr__120_6 (s4.2.set (w64 ((s4.2.length : Int) - (1 : Int))).toNat (api_Addr_.mk x188.ffrom x164.fto)))), (100000, some (we_api_Addr__120_6 r2))] hB) (Mat.trans (Mat.lenP (Ts := [(5, (.sref 3005 6 0 ((s4.2.set (w64 ((s4.2.length : Int) - (1 : Int))).toNat (api_Addr_.mk x188.ffrom x164.fto)).length)))]) (Bs := []) (TwT.cons (x := (.sref 3005 6 0 s4.2.length)) (by rfl) (Tw.leaf ⟨_, _, _, _, _, rfl, rfl, (by first | rfl | (simp; done) | (simp; omega) | omega)⟩) TwT.nil) TwB.nil) (mp [] _ _ hB)))
       ·replace h := ite_f hg186 h
        refine AWp.skip ?_
        refine blkQ_n ?_
        refine blkQ_n ?_
        exact hjj162 _ h _ _ (mp [] _ _ hB)
     ·obtain ⟨x189, hx189, h⟩ := bindS h
      obtain ⟨x190, hx190, h⟩ := bindS h
      obtain ⟨r191, hr191, h⟩ := bindS h
      rcases Bool.eq_false_or_eq_true (decide ((0 : Int) < r191)) with hg192 | hg192
      ·replace h := ite_t hg192 h
       rcases Bool.eq_false_or_eq_true r169.2 with hg193 | hg193
       ·replace h := ite_t hg193 h
        obtain ⟨r194, hr194, h⟩ := bindS h
        refine dr (c (ov (.ptr 1002 0 [0]) (fp hN Tryd.underlying88 0 tyS70 _ (q 2))) rfl (c (lb hN 88 _ (.func 35 []) tyS70 (At.st1 (f := (.func 35 [])) (by rfl) (by rfl) (At.here _) (by first | rfl | omega)) (q 43)) rfl (c (ov (.ptr 1007 0 [0]) (fp hN Tryd.underlying120 0 tyS32 _ (q 7))) rfl (c (lb hN 120 _ _ tyS32 (ad _) (q 45)) rfl (c (mv hN (q 5)) rfl (c (mv hN (q 8)) rfl (c (OpJ.val (v' := (.ptr 3005 ((w64 ((s4.2.length : Int) - (1 : Int))).toNat * 6) [(w64 ((s4.2.length : Int) - (1 : Int))).toNat])) (by simp) (OpJ.indexS Tryd.underlying82 tyS120 (idx_some hx189).1 (by have := idx_lt hx189; first | (simpa using this) | ((try simp only [List.length_map] at this); (try simp only [List.length_map]); omega)) (L rfl) (q 47) (q 48))) rfl (c (ov (.ptr 3005 (((w64 ((s4.2.length : Int) - (1 : Int))).toNat * 6) + 3) [(w64 ((s4.2.length : Int) - (1 : Int))).toNat, 1]) (fp hN Tryd.underlying120 3 tyS32 _ (q 49))) rfl (c (OpJ.loadR (e := 120) (sz := 6) tyS32 (get_map e_api_Addr_ (idx_some hx190).2) (o := 3) (ad _) (by rfl) (by rfl) (by rfl) (L rfl) (q 50)) rfl (cg (OpJ.callVal (args := [(.d (e_api_Addr x164.ffrom)), (.d (e_api_Addr x190.fto))]) (caps := []) hB fnOk35 [] (addr_Cmp_ac x164.ffrom x190.fto r191 hr191) (by kernel_rfl) (L rfl) (by kernel_rfl) (by kernel_rfl) (OpdL.cons (q 46) (OpdL.cons (q 51) OpdL.nil))) rfl (c (OpJ.gtr (L rfl) (q 52) (Opd.int .i64 (0))) rfl (c (OpJ.val (v' := .d (.bool true)) (by rw [hg192] <;> rfl) (mv hN (q 53))) rfl (c (gd 54 (mv hN (q 10))) rfl (c (gd 54 (OpJ.val (v' := .d (.bool true)) (by rw [hg193] <;> rfl) (mv hN (q 55)))) rfl (c (gd 56 (ov (.ptr 1002 0 [0]) (fp hN Tryd.underlying88 0 tyS70 _ (q 2)))) rfl (c (gd 56 (lb hN 88 _ (.func 35 []) tyS70 (At.st1 (f := (.func 35 [])) (by rfl) (by rfl) (At.here _) (by first | rfl | omega)) (q 57))) rfl (c (gd 56 (lb hN 32 _ _ tyS32 (At.here _) (q 9))) rfl (c (gd 56 (ov (.ptr 1007 0 [0]) (fp hN Tryd.underlying120 0 tyS32 _ (q 7)))) rfl (c (gd 56 (lb hN 120 _ _ tyS32 (ad _) (q 60))) rfl (cg (gd 56 (OpJ.callVal (args := [(.d (e_api_Addr r169.1)), (.d (e_api_Addr x164.ffrom))]) (caps := []) hB fnOk35 [] (addr_Cmp_ac r169.1 x164.ffrom r194 hr194) (by kernel_rfl) (L rfl) (by kernel_rfl) (by kernel_rfl) (OpdL.cons (q 59) (OpdL.cons (q 61) OpdL.nil)))) rfl (c (gd 56 (OpJ.eqlI (L rfl) (q 62) (Opd.int .i64 (0)))) rfl (c (gd 54 (OpJ.pickT (L rfl) (q 56) (q 63))) rfl (c (gd 54 (OpJ.not (L rfl) (q 64))) rfl (c (OpJ.pickT (L rfl) (q 54) (q 65)) rfl (c (OpJ.assign (L rfl) (q 66)) rfl cn))))))))))))))))))))))))) (by kernel_rfl) (by kernel_rfl) ?_
        exact hjj180 _ h _ _ (Mat.trans (mp [] [(2, (.ptr 1002 0 [])), (5, (.sref 3005 6 0 s4.2.length)), (7, (.ptr 1007 0 [])), (8, (i6 (w64 ((s4.2.length : Int) - (1 : Int))))), (16, (.sref 100000 6 0 r2.length)), (17, (i6 (r1.length : Int))), (18, (i6 s4.1)), (42, (bo (!(r194 == (0 : Int)))))] [(1002, some (.box 88 (.st [(.func 35 []), (.func 37 []), (.func 137 [])]))), (1007, some (.box 120 (.d (e_api_Addr_ x164)))), (3005, some (we_api_Addr__120_6 s4.2)), (100000, some (we_api_Addr__120_6 r2))] hB) (mp [] _ _ hB))
       ·replace h := ite_f hg193 h
        refine dr (c (ov (.ptr 1002 0 [0]) (fp hN Tryd.underlying88 0 tyS70 _ (q 2))) rfl (c (lb hN 88 _ (.func 35 []) tyS70 (At.st1 (f := (.func 35 [])) (by rfl) (by rfl) (At.here _) (by first | rfl | omega)) (q 43)) rfl (c (ov (.ptr 1007 0 [0]) (fp hN Tryd.underlying120 0 tyS32 _ (q 7))) rfl (c (lb hN 120 _ _ tyS32 (ad _) (q 45)) rfl (c (mv hN (q 5)) rfl (c (mv hN (q 8)) rfl (c (OpJ.val (v' := (.ptr 3005 ((w64 ((s4.2.length : Int) - (1 : Int))).toNat * 6) [(w64 ((s4.2.length : Int) - (1 : Int))).toNat])) (by simp) (OpJ.indexS Tryd.underlying82 tyS120 (idx_some hx189).1 (by have := idx_lt hx189; first | (simpa using this) | ((try simp only [List.length_map] at this); (try simp only [List.length_map]); omega)) (L rfl) (q 47) (q 48))) rfl (c (ov (.ptr 3005 (((w64 ((s4.2.length : Int) - (1 : Int))).toNat * 6) + 3) [(w64 ((s4.2.length : Int) - (1 : Int))).toNat, 1]) (fp hN Tryd.underlying120 3 tyS32 _ (q 49))) rfl (c (OpJ.loadR (e := 120) (sz := 6) tyS32 (get_map e_api_Addr_ (idx_some hx190).2) (o := 3) (ad _) (by rfl) (by rfl) (by rfl) (L rfl) (q 50)) rfl (cg (OpJ.callVal (args := [(.d (e_api_Addr x164.ffrom)), (.d (e_api_Addr x190.fto))]) (caps := []) hB fnOk35 [] (addr_Cmp_ac x164.ffrom x190.fto r191 hr191) (by kernel_rfl) (L rfl) (by kernel_rfl) (by kernel_rfl) (OpdL.cons (q 46) (OpdL.cons (q 51) OpdL.nil))) rfl (c (OpJ.gtr (L rfl) (q 52) (Opd.int .i64 (0))) rfl (c (OpJ.val (v' := .d (.bool true)) (by rw [hg192] <;> rfl) (mv hN (q 53))) rfl (c (gd 54 (mv hN (q 10))) rfl (c (gd 54 (OpJ.val (v' := .d (.bool false)) (by rw [hg193] <;> rfl) (mv hN (q 55)))) rfl (cg (sU 56 (L rfl)) rfl (cg (sU 56 (L rfl)) rfl (cg (sU 56 (L rfl)) rfl (cg (sU 56 (L rfl)) rfl (cg (sU 56 (L rfl)) rfl (cg (sU 56 (L rfl)) rfl (cg (sU 56 (L rfl)) rfl (c (gd 54 (OpJ.pickF (L rfl) (q 56) (Opd.bool false))) rfl (c (gd 54 (OpJ.not (L rfl) (q 64))) rfl (c (OpJ.pickT (L rfl) (q 54) (q 65)) rfl (c (OpJ.assign (L rfl) (q 66)) rfl cn))))))))))))))))))))))))) (by kernel_rfl) (by kernel_rfl) ?_
        exact hjj180 _ h _ _ (Mat.trans (mp [] [(2, (.ptr 1002 0 [])), (5, (.sref 3005 6 0 s4.2.length)), (7, (.ptr 1007 0 [])), (8, (i6 (w64 ((s4.2.length : Int) - (1 : Int))))), (16, (.sref 100000 6 0 r2.length)), (17, (i6 (r1.length : Int))), (18, (i6 s4.1)), (42, (bo (!false)))] [(1002, some (.box 88 (.st [(.func 35 []), (.func 37 []), (.func 137 [])]))), (1007, some (.box 120 (.d (e_api_Addr_ x164)))), (3005, some (we_api_Addr__120_6 s4.2)), (100000, some (we_api_Addr__120_6 r2))] hB) (mp [] _ _ hB))
      ·replace h := ite_f hg192 h
       refine dr (c (ov (.ptr 1002 0 [0]) (fp hN Tryd.underlying88 0 tyS70 _ (q 2))) rfl (c (lb hN 88 _ (.func 35 []) tyS70 (At.st1 (f := (.func 35 [])) (by rfl) (by rfl) (At.here _) (by first | rfl | omega)) (q 43)) rfl (c (ov (.ptr 1007 0 [0]) (fp hN Tryd.underlying120 0 tyS32 _ (q 7))) rfl (c (lb hN 120 _ _ tyS32 (ad _) (q 45)) rfl (c (mv hN (q 5)) rfl (c (mv hN (q 8)) rfl (c (OpJ.val (v' := (.ptr 3005 ((w64 ((s4.2.length : Int) - (1 : Int))).toNat * 6) [(w64 ((s4.2.length : Int) - (1 : Int))).toNat])) (by simp) (OpJ.indexS Tryd.underlying82 tyS120 (idx_some hx189).1 (by have := idx_lt hx189; first | (simpa using this) | ((try simp only [List.length_map] at this); (try simp only [List.length_map]); omega)) (L rfl) (q 47) (q 48))) rfl (c (ov (.ptr 3005 (((w64 ((s4.2.length : Int) - (1 : Int))).toNat * 6) + 3) [(w64 ((s4.2.length : Int) - (1 : Int))).toNat, 1]) (fp hN Tryd.underlying120 3 tyS32 _ (q 49))) rfl (c (OpJ.loadR (e := 120) (sz := 6) tyS32 (get_map e_api_Addr_ (idx_some hx190).2) (o := 3) (ad _) (by rfl) (by rfl) (by rfl) (L rfl) (q 50)) rfl (cg (OpJ.callVal (args := [(.d (e_api_Addr x164.ffrom)), (.d (e_api_Addr x190.fto))]) (caps := []) hB fnOk35 [] (addr_Cmp_ac x164.ffrom x190.fto r191 hr191) (by kernel_rfl) (L rfl) (by kernel_rfl) (by kernel_rfl) (OpdL.cons (q 46) (OpdL.cons (q 51) OpdL.nil))) rfl (c (OpJ.gtr (L rfl) (q 52) (Opd.int .i64 (0))) rfl (c (OpJ.val (v' := .d (.bool false)) (by rw [hg192] <;> rfl) (mv hN (q 53))) rfl (cg (sU 54 (L rfl)) rfl (cg (sU 54 (L rfl)) rfl (cg (sV 56 (L rfl)) rfl (cg (sV 56 (L rfl)) rfl (cg (sV 56 (L rfl)) rfl (cg (sV 56 (L rfl)) rfl (cg (sV 56 (L rfl)) rfl (cg (sV 56 (L rfl)) rfl (cg (sV 56 (L rfl)) rfl (cg (sU 54 (L rfl)) rfl (cg (sU 54 (L rfl)) rfl (c (OpJ.pickF (L rfl) (q 54) (Opd.bool false)) rfl (c (OpJ.assign (L rfl) (q 66)) rfl cn))))))))))))))))))))))))) (by kernel_rfl) (by kernel_rfl) ?_
       exact hjj180 _ h _ _ (Mat.trans (mp [] [(2, (.ptr 1002 0 [])), (5, (.sref 3005 6 0 s4.2.length)), (7, (.ptr 1007 0 [])), (8, (i6 (w64 ((s4.2.length : Int) - (1 : Int))))), (16, (.sref 100000 6 0 r2.length)), (17, (i6 (r1.length : Int))), (18, (i6 s4.1)), (42, (bo false))] [(1002, some (.box 88 (.st [(.func 35 []), (.func 37 []), (.func 137 [])]))), (1007, some (.box 120 (.d (e_api_Addr_ x164)))), (3005, some (we_api_Addr__120_6 s4.2)), (100000, some (we_api_Addr__120_6 r2))] hB) (mp [] _ _ hB))
  ·replace h := ite_f hg128 h
   refine AWp.exit ?_
   refine seqQ_e ?_
   obtain rfl := Option.some.inj h
   exact ⟨(fun hc => by cases hc), rfl, (mp [] _ _ hB)⟩
 ·obtain ⟨rfl, hmat⟩ := hR
  refine blkQ_hit ?_
  refine seqQ_n ?_
  refine AWp.ghost hmat ?_
  refine sr (c (mv hN (q 5)) rfl (c (OpJ.assign (L rfl) (q 90)) rfl cn)) ?_
  refine gh [(4, _)] [(3005, some _)] hB rfl rfl (by rfl) ?_
  refine AWp.ret ?_
  obtain rfl := Option.some.inj h
  exact ⟨.inl rfl, _, _, (Mat.trans (Mat.freezeP (n := 3005) (e := 120) (sz := 6) (es := p127.map e_api_Addr_) (Ts := [(4, (qe_api_Addr__6 p127))]) (Bs := []) (by rfl) (TwT.cons (x := (.sref 3005 6 0 p127.length)) (by rfl) (FrzL.all (by first | rfl | (simp; done) | (simp; omega) | omega)) TwT.nil) TwB.nil) (mp [] [(4, (qe_api_Addr__6 p127))] [] hB)), [(qe_api_Addr__6 p127)], (Res.tmp (by rfl) (by rfl) Res.nil), rfl, by rfl, by rfl, by rfl⟩

noncomputable def ext82_slices_Clone_R (a0 : (List resource_part_int_)) : Option (List resource_part_int_) := chk (decide (a0.length ≤ LIM)) <|
 some a0
theorem ext82_slices_Clone_R_ac (a0 : (List resource_part_int_)) (r : List resource_part_int_) (h : ext82_slices_Clone_R a0 = some r) : AC Tryd.prog 82 [(.d (.list 2 (a0.map e_resource_part_int_)))] [] (.sref 900000 2 0 r.length) [(900000, some (.row 122 2 (r.map e_resource_part_int_)))] := by
 obtain ⟨hc, h⟩ := chk_some h
 obtain rfl := Option.some.inj h
 exact AC.cloneR cloneOk82 (by simp) (by rw [List.length_map]; exact lim_mulN hc (by decide)) (map_sz (f := e_resource_part_int_) (fun _ => rfl))

noncomputable def resource_order_normal_1_2 (a0 : resource_part_int_) (a1 : resource_part_int_) : Option (Int) :=
 (cmp_Compare a0.ffrom a1.ffrom).bind fun r1 =>
 some r1
theorem resource_order_normal_1_2_ac (a0 : resource_part_int_) (a1 : resource_part_int_) (r : Int) (h : resource_order_normal_1_2 a0 a1 = some r) : AC Tryd.prog 84 [(.d (e_resource_part_int_ a0)), (.d (e_resource_part_int_ a1)), (.ptr 0 0 [])] [(0, (.box 92 (.st [(.func 70 []), (.func 138 []), (.func 139 [])])))] (.d (.int .i64 r)) [(0, some (.box 92 (.st [(.func 70 []), (.func 138 []), (.func 139 [])])))] := by
 refine AC.of_code2 Tryd.func84 rfl rfl (Nat.le_of_ble_eq_true (by rfl)) fun B hB hN => ?_
 delta resource_order_normal_1_2 at h
 refine sr (cg (OpJ.box hB (nm := 1003) (by decide) (by simp) rfl (ltN hN rfl) (q 0)) rfl (cg (OpJ.box hB (nm := 1004) (by decide) (by simp) rfl (ltN hN rfl) (q 1)) rfl (c (OpJ.assign (ltN hN rfl) (Opd.int .i64 (0))) rfl cn))) ?_
 refine gh [(2, _), (3, _), (4, _)] [(0, some _), (1003, some _), (1004, some _)] hB rfl rfl (by rfl) ?_
 obtain ⟨r1, hr1, h⟩ := bindS h
 refine sr (c (ov (.ptr 0 0 [0]) (fp hN Tryd.underlying92 0 tyS39 _ (q 2))) rfl (c (lb hN 92 _ (.func 70 []) tyS39 (At.st1 (f := (.func 70 [])) (by rfl) (by rfl) (At.here _) (by first | rfl | omega)) (q 6)) rfl (c (ov (.ptr 1003 0 [0]) (fp hN Tryd.underlying122 0 tyS3 _ (q 3))) rfl (c (lb hN 122 _ _ tyS3 (ad _) (q 8)) rfl (c (ov (.ptr 1004 0 [0]) (fp hN Tryd.underlying122 0 tyS3 _ (q 4))) rfl (c (lb hN 122 _ _ tyS3 (ad _) (q 10)) rfl (cg (OpJ.callVal (args := [(i6 a0.ffrom), (i6 a1.ffrom)]) (caps := []) hB fnOk70 [] (cmp_Compare_ac a0.ffrom a1.ffrom r1 hr1) (by kernel_rfl) (ltN hN rfl) (by kernel_rfl) (by kernel_rfl) (OpdL.cons (q 9) (OpdL.cons (q 11) OpdL.nil))) rfl (c (OpJ.assign (ltN hN rfl) (q 12)) rfl cn)))))))) ?_
 refine gh [(5, _)] [(0, some _)] hB rfl rfl (by rfl) ?_
 refine AWp.ret ?_
 obtain rfl := Option.some.inj h
 exact ⟨.inl rfl, _, _, (kp [(5, _)] [(0, some _)] hB rfl rfl (by rfl)), [(i6 r1)], (Res.tmp (by rfl) (by rfl) Res.nil), rfl, by rfl, by rfl, by rfl⟩

noncomputable def ext83_slices_SortFunc_resource_order_normal_1_2 (a0 : (List resource_part_int_)) : Option (List resource_part_int_) := sortF a0 fun x y => resource_order_normal_1_2 x y
theorem ext83_slices_SortFunc_resource_order_normal_1_2_ac (a0 : (List resource_part_int_)) (r : List resource_part_int_) (h : ext83_slices_SortFunc_resource_order_normal_1_2 a0 = some r) : AC Tryd.prog 83 [(.sref 900 2 0 a0.length), (.func 84 [(.ptr 0 0 [])])] [(0, (.box 92 (.st [(.func 70 []), (.func 138 []), (.func 139 [])]))), (900, (.row 122 2 (a0.map e_resource_part_int_)))] (.tup []) [(0, some (.box 92 (.st [(.func 70 []), (.func 138 []), (.func 139 [])]))), (900, some (.row 122 2 (r.map e_resource_part_int_)))] :=
 AC.sortFC e_resource_part_int_ (fun x y => resource_order_normal_1_2 x y) a0 r h sortOk83 fnOk84 (fun _ => rfl) (by rfl) (by rfl) rfl (fun x y c hc => resource_order_normal_1_2_ac x y c hc)

noncomputable def resource_order_normal_2_L0 (r1 : List resource_part_int_) (r2 : List resource_part_int_) (s4 : Int × (List resource_part_int_)) : Option ((((List resource_part_int_))) ⊕ (Int × (List resource_part_int_))) :=
 (if (decide (s4.1 < (r1.length : Int))) = true then
 jn (fun m161 : (List resource_part_int_) =>
 some (.inr ((w64 (s4.1 + (1 : Int))), m161))) (fun j162 =>
 (idx r2 s4.1).bind fun x163 =>
 (idx r2 s4.1).bind fun x164 =>
 (if (decide ((w64 ((s4.2.length : Int) - (1 : Int))) < (0 : Int))) = true then
 chk (decide ((s4.2 ++ ([x164] : List resource_part_int_)).length ≤ LIM)) <|
 j162 (s4.2 ++ ([x164] : List resource_part_int_))
 else
 (idx s4.2 (w64 ((s4.2.length : Int) - (1 : Int)))).bind fun x167 =>
 (idx s4.2 (w64 ((s4.2.length : Int) - (1 : Int)))).bind fun x168 =>
 (resource_numbers_1 x168.fto).bind fun r169 =>
 jn (fun m179 : Bool =>
 (if m179 = true then
 chk (decide ((s4.2 ++ ([x164] : List resource_part_int_)).length ≤ LIM)) <|
 j162 (s4.2 ++ ([x164] : List resource_part_int_))
 else
 (idx s4.2 (w64 ((s4.2.length : Int) - (1 : Int)))).bind fun x183 =>
 (idx s4.2 (w64 ((s4.2.length : Int) - (1 : Int)))).bind fun x184 =>
 (cmp_Compare x164.fto x184.fto).bind fun r185 =>
 (if (decide ((0 : Int) < r185)) = true then
 (idx s4.2 (w64 ((s4.2.length : Int) - (1 : Int)))).bind fun x187 =>
 (idx s4.2 (w64 ((s4.2.length : Int) - (1 : Int)))).bind fun x188 =>
 j162 (s4.2.set (w64 ((s4.2.length : Int) - (1 : Int))).toNat (resource_part_int_.mk x188.ffrom x164.fto))
 else
 j162 s4.2))) (fun j180 =>
 (idx s4.2 (w64 ((s4.2.length : Int) - (1 : Int)))).bind fun x189 =>
 (idx s4.2 (w64 ((s4.2.length : Int) - (1 : Int)))).bind fun x190 =>
 (cmp_Compare x164.ffrom x190.fto).bind fun r191 =>
 (if (decide ((0 : Int) < r191)) = true then
 (if r169.2 = true then
 (cmp_Compare r169.1 x164.ffrom).bind fun r194 =>
 j180 (!(r194 == (0 : Int)))
 else
 j180 (!false))
 else
 j180 false))))
 else
 some (.inl s4.2))
noncomputable def resource_order_normal_2 (a0 : (List resource_part_int_)) : Option ((List resource_part_int_)) :=
 (ext82_slices_Clone_R a0).bind fun r1 =>
 (ext83_slices_SortFunc_resource_order_normal_1_2 r1).bind fun r2 =>
 chk (decide (r2.length = r1.length)) <|
 (loop (resource_order_normal_2_L0 r1 r2) ((0 : Int), ([] : List resource_part_int_))).bind fun p127 =>
 some p127
theorem resource_order_normal_2_ac (a0 : (List resource_part_int_)) (r : (List resource_part_int_)) (h : resource_order_normal_2 a0 = some r) : AC Tryd.prog 56 [(.st [(.func 70 []), (.func 138 []), (.func 139 [])]), (.d (.list 2 (a0.map e_resource_part_int_)))] [] (.d (.list 2 (r.map e_resource_part_int_))) [] := by
 refine AC.of_code2 Tryd.func56 rfl rfl (Nat.le_of_ble_eq_true (by rfl)) fun B hB hN => ?_
 have L {d : Nat} (h : Nat.blt d Tryd.f56.ntmps = true) : d < B.N := ltN hN h
 delta resource_order_normal_2 at h
 refine sr (cg (OpJ.box hB (nm := 1002) (by decide) (by simp) rfl (L rfl) (q 0)) rfl (c (OpJ.assign (L rfl) Opd.nils) rfl cn)) ?_
 refine gh [(1, _), (2, _)] [(1002, some _)] hB rfl rfl (by rfl) ?_
 refine AWp.seq ?_
 obtain ⟨r1, hr1, h⟩ := bindS h
 refine AWp.region (oc (mv hN (ot 1 (.d (.list 2 (a0.map e_resource_part_int_)))))
 (oc (OpJ.callFn hB fnOk82 (ext82_slices_Clone_R_ac a0 r1 hr1) [(900000, 100000)] (by kernel_rfl) (L rfl) (by kernel_rfl) (OpdL.cons (ot 11 (.d (.list 2 (a0.map e_resource_part_int_)))) OpdL.nil))
 (oc (OpJ.assign (L rfl) (ot 12 (.sref 100000 2 0 r1.length)))
 (OpJs.nil)))) (by rfl) (by rfl) ?_
 refine seqQ_n ?_
 refine AWp.ghost (mp [] [(1, (.sref 100000 2 0 r1.length)), (2, (.ptr 1002 0 []))] [(1002, some (.box 92 (.st [(.func 70 []), (.func 138 []), (.func 139 [])]))), (100000, some (.row 122 2 (r1.map e_resource_part_int_)))] hB) ?_
 refine AWp.seq ?_
 obtain ⟨r2, hr2, h⟩ := bindS h
 obtain ⟨hc3, h⟩ := chk_some h
 have lhc3 := of_decide_eq_true hc3
 have hc3_o := of_decide_eq_true hc3
 refine AWp.region (oc (mv hN (ot 1 (.sref 100000 2 0 r1.length)))
 (oc (OpJ.makeF (OpdL.cons (ot 2 (.ptr 1002 0 [])) OpdL.nil) rfl rfl (L rfl))
 (oc (OpJ.callFn hB fnOk83 (ext83_slices_SortFunc_resource_order_normal_1_2_ac r1 r2 hr2) [(900, 100000), (0, 1002)] (by kernel_rfl) (L rfl) (by kernel_rfl) (OpdL.cons (ot 13 (.sref 100000 2 0 r1.length)) (OpdL.cons (ot 14 (.func 84 [(.ptr 1002 0 [])])) OpdL.nil)))
 (OpJs.nil)))) (by rfl) (by rfl) ?_
 refine seqQ_n ?_
 refine AWp.ghost (mp [] [(1, (.sref 100000 2 0 r1.length)), (2, (.ptr 1002 0 []))] [(1002, some (.box 92 (.st [(.func 70 []), (.func 138 []), (.func 139 [])]))), (100000, some (.row 122 2 (r2.map e_resource_part_int_)))] hB) ?_
 refine sr (c (OpJ.assign (L rfl) Opd.nils) rfl cn) ?_
 refine gh [(1, _), (2, _), (5, _)] [(1002, some _), (100000, some _)] hB rfl rfl (by rfl) ?_
 refine AWp.seq ?_
 refine sr (c (mv hN (q 1)) rfl (c (OpJ.lenS Tryd.underlying83 (L rfl) (q 16)) rfl (c (mv hN (Opd.int .i64 (0))) rfl cn))) ?_
 refine gh [(2, _), (5, _), (16, _), (17, _), (18, _)] [(1002, some _), (100000, some _)] hB rfl rfl (by rfl) ?_
 refine AWp.block ?_
 obtain ⟨p127, hx196, h⟩ := bindS h
 refine lg (resource_order_normal_2_L0 r1 r2) (fun s4 : Int × (List resource_part_int_) => ([(2, (.ptr 1002 0 [])), (5, (.sref 3005 2 0 s4.2.length)), (16, (.sref 100000 2 0 r2.length)), (17, (i6 (r1.length : Int))), (18, (i6 s4.1))] : EL)) (fun s4 : Int × (List resource_part_int_) => ([(1002, some (.box 92 (.st [(.func 70 []), (.func 138 []), (.func 139 [])]))), (3005, some (.row 122 2 (s4.2.map e_resource_part_int_))), (100000, some (.row 122 2 (r2.map e_resource_part_int_)))] : OL)) (fun (p127 : ((List resource_part_int_))) e E' O' => e = .exit 0 ∧ Mat B E' O' ([(5, (.sref 3005 2 0 p127.length))] : EL) ([(3005, some (.row 122 2 (p127.map e_resource_part_int_)))] : OL)) hx196 (Mat.trans (Mat.beginP (n := 3005) (e := 122) (sz := 2) (Ts := [(5, (.sref 3005 2 0 0))]) (Bs := []) hB (by decide) (by rfl) (by decide) (TwT.cons (x := .nils) (by rfl) (Tw.leaf ⟨rfl, rfl⟩) TwT.nil) TwB.nil) (Mat.trans (Mat.lenP (Ts := [(16, (.sref 100000 2 0 r2.length))]) (Bs := []) (TwT.cons (x := (.sref 100000 2 0 r1.length)) (by rfl) (Tw.leaf ⟨_, _, _, _, _, rfl, rfl, (by first | rfl | (simp; done) | (simp; omega) | omega)⟩) TwT.nil) TwB.nil) (mp [] _ _ hB))) (fun s4 y h => ?_) (fun e E' O' hR => ?_)
 ·unfold resource_order_normal_2_L0 at h
  refine sr (c (OpJ.lss (L rfl) (q 18) (q 17)) rfl cn) ?_
  refine gh [(2, _), (5, _), (16, _), (17, _), (18, _), (19, _)] [(1002, some _), (3005, some _), (100000, some _)] hB rfl rfl (by rfl) ?_
  refine AWp.seq ?_
  refine AWp.cond rfl (fun hg128 => ?_) (fun hg128 => ?_)
  ·replace h := ite_t hg128 h
   refine AWp.skip ?_
   refine seqQ_n ?_
   refine AWp.seq ?_
   refine AWp.cut h (fun m161 : (List resource_part_int_) => ([(2, (.ptr 1002 0 [])), (5, (.sref 3005 2 0 m161.length)), (16, (.sref 100000 2 0 r2.length)), (17, (i6 (r1.length : Int))), (18, (i6 s4.1))] : EL)) (fun m161 : (List resource_part_int_) => ([(1002, some (.box 92 (.st [(.func 70 []), (.func 138 []), (.func 139 [])]))), (3005, some (.row 122 2 (m161.map e_resource_part_int_))), (100000, some (.row 122 2 (r2.map e_resource_part_int_)))] : OL)) (fun m161 h E' O' hmat => ?_) (fun j162 hjj162 h => ?_)
   ·refine seqQ_n ?_
    refine AWp.ghost hmat ?_
    refine rg (c (add6 (L rfl) (q 18) (Opd.int .i64 (1))) rfl (c (mv hN (q 89)) rfl cn)) ?_
    obtain rfl := Option.some.inj h
    exact ⟨rfl, (Mat.trans (mp [] [(2, (.ptr 1002 0 [])), (5, (.sref 3005 2 0 m161.length)), (16, (.sref 100000 2 0 r2.length)), (17, (i6 (r1.length : Int))), (18, (i6 (w64 (s4.1 + (1 : Int)))))] [(1002, some (.box 92 (.st [(.func 70 []), (.func 138 []), (.func 139 [])]))), (3005, some (.row 122 2 (m161.map e_resource_part_int_))), (100000, some (.row 122 2 (r2.map e_resource_part_int_)))] hB) (mp [] _ _ hB))⟩
   ·refine AWp.block ?_
    obtain ⟨x163, hx163, h⟩ := bindS h
    obtain ⟨x164, hx164, h⟩ := bindS h
    refine sr (c (OpJ.val (v' := (.ptr 100000 (s4.1.toNat * 2) [s4.1.toNat])) (by simp) (OpJ.indexS Tryd.underlying83 tyS122 (idx_some hx163).1 (by have := idx_lt hx163; first | (simpa using this) | ((try simp only [List.length_map] at this); (try simp only [List.length_map]); omega)) (L rfl) (q 16) (q 18))) rfl (c (OpJ.loadR (e := 122) (sz := 2) tyS122 (get_map e_resource_part_int_ (idx_some hx164).2) (o := 0) (At.here _) (by rfl) (by rfl) (by rfl) (L rfl) (q 20)) rfl (cg (OpJ.alloc hB tyZ122 (nm := 1007) (by decide) (L rfl)) rfl (cg (OpJ.storeB tyS122 (SetAt.here _ _) (by rfl) (by rfl) (by simp) rfl (q 7) (q 21)) rfl cn)))) ?_
    refine gh [(2, _), (5, _), (7, _), (16, _), (17, _), (18, _)] [(1002, some _), (1007, some _), (3005, some _), (100000, some _)] hB rfl rfl (by rfl) ?_
    refine sr (c (mv hN (q 5)) rfl (c (OpJ.lenS Tryd.underlying83 (L rfl) (q 22)) rfl (c (sub6 (L rfl) (q 23) (Opd.int .i64 (1))) rfl (c (OpJ.assign (L rfl) (q 24)) rfl cn)))) ?_
    refine gh [(2, _), (5, _), (7, _), (8, _), (16, _), (17, _), (18, _)] [(1002, some _), (1007, some _), (3005, some _), (100000, some _)] hB rfl rfl (by rfl) ?_
    refine AWp.seq ?_
    refine sr (c (mv hN (q 8)) rfl (c (OpJ.lss (L rfl) (q 25) (Opd.int .i64 (0))) rfl cn)) ?_
    refine gh [(2, _), (5, _), (7, _), (8, _), (16, _), (17, _), (18, _), (26, _)] [(1002, some _), (1007, some _), (3005, some _), (100000, some _)] hB rfl rfl (by rfl) ?_
    refine AWp.cond rfl (fun hg165 => ?_) (fun hg165 => ?_)
    ·replace h := ite_t hg165 h
     obtain ⟨hc166, h⟩ := chk_some h
     refine sr (c (mv hN (q 5)) rfl (c (lb hN 122 _ _ tyS122 (At.here _) (q 7)) rfl (c (OpJ.buildSlice Tryd.underlying83 tyS122 tyZD122 (by rfl) (by decide) (by decide) (Opds.cons (q 28) Opds.nil) (by kernel_rfl) (es := ([(e_resource_part_int_ x164)] : List D)) (by rfl) (by rfl) (by kernel_rfl) (by simp) (L rfl)) rfl (cg (OpJ.append hB Tryd.underlying83 tyE122 (nm := 1030) (by decide) (es := s4.2.map e_resource_part_int_) (ys := ([x164] : List resource_part_int_).map e_resource_part_int_) (es' := (s4.2 ++ ([x164] : List resource_part_int_)).map e_resource_part_int_) (len := (s4.2 ++ ([x164] : List resource_part_int_)).length) (by simp) (by simp) (map_sz (f := e_resource_part_int_) (fun _ => rfl)) (by rw [List.length_map]; exact lim_mulN hc166 (by decide)) (by rw [List.length_map]; exact lim_leN hc166) (L rfl) (by simp) (q 27) (q 29)) rfl (c (OpJ.assign (L rfl) (q 30)) rfl cn))))) ?_
     refine gh [(2, _), (5, _), (16, _), (17, _), (18, _)] [(1002, some _), (1030, some _), (100000, some _)] hB rfl rfl (by rfl) ?_
     refine AWp.exit ?_
     refine seqQ_e ?_
     refine blkQ_hit ?_
     exact hjj162 _ h _ _ (mp [(3005, 1030)] _ _ hB)
    ·replace h := ite_f hg165 h
     refine AWp.skip ?_
     refine seqQ_n ?_
     obtain ⟨x167, hx167, h⟩ := bindS h
     obtain ⟨x168, hx168, h⟩ := bindS h
     obtain ⟨r169, hr169, h⟩ := bindS h
     refine sd (c (ov (.ptr 1002 1 [1]) (fp hN Tryd.underlying92 1 tyS90 _ (q 2))) rfl (c (lb hN 92 _ (.func 138 []) tyS90 (At.st1 (f := (.func 138 [])) (by rfl) (by rfl) (At.here _) (by first | rfl | omega)) (q 32)) rfl (c (mv hN (q 5)) rfl (c (mv hN (q 8)) rfl (c (OpJ.val (v' := (.ptr 3005 ((w64 ((s4.2.length : Int) - (1 : Int))).toNat * 2) [(w64 ((s4.2.length : Int) - (1 : Int))).toNat])) (by simp) (OpJ.indexS Tryd.underlying83 tyS122 (idx_some hx167).1 (by have := idx_lt hx167; first | (simpa using this) | ((try simp only [List.length_map] at this); (try simp only [List.length_map]); omega)) (L rfl) (q 34) (q 35))) rfl (c (ov (.ptr 3005 (((w64 ((s4.2.length : Int) - (1 : Int))).toNat * 2) + 1) [(w64 ((s4.2.length : Int) - (1 : Int))).toNat, 1]) (fp hN Tryd.underlying122 1 tyS3 _ (q 36))) rfl (c (OpJ.loadR (e := 122) (sz := 2) tyS3 (get_map e_resource_part_int_ (idx_some hx168).2) (o := 1) (ad _) (by rfl) (by rfl) (by rfl) (L rfl) (q 37)) rfl (cg (OpJ.callVal (args := [(i6 x168.fto)]) (caps := []) hB fnOk138 [] (resource_numbers_1_ac x168.fto r169 hr169) (by kernel_rfl) (L rfl) (by kernel_rfl) (by kernel_rfl) (OpdL.cons (q 38) OpdL.nil)) rfl (c (mv hN (q 39)) rfl (c (OpJ.extract (by rfl) rfl (L rfl) (q 31)) rfl (c (OpJ.extract (by rfl) rfl (L rfl) (q 31)) rfl (c (OpJ.assign (L rfl) (q 40)) rfl (c (OpJ.assign (L rfl) (q 41)) rfl cn))))))))))))) (by kernel_rfl) (by kernel_rfl) ?_
     refine gh [(2, _), (5, _), (7, _), (8, _), (9, _), (10, _), (16, _), (17, _), (18, _)] [(1002, some _), (1007, some _), (3005, some _), (100000, some _)] hB rfl rfl (by rfl) ?_
     refine AWp.block ?_
     refine AWp.seq ?_
     refine AWp.cut h (fun m179 : Bool => ([(2, (.ptr 1002 0 [])), (5, (.sref 3005 2 0 s4.2.length)), (7, (.ptr 1007 0 [])), (8, (i6 (w64 ((s4.2.length : Int) - (1 : Int))))), (16, (.sref 100000 2 0 r2.length)), (17, (i6 (r1.length : Int))), (18, (i6 s4.1)), (42, (bo m179))] : EL)) (fun m179 : Bool => ([(1002, some (.box 92 (.st [(.func 70 []), (.func 138 []), (.func 139 [])]))), (1007, some (.box 122 (.d (e_resource_part_int_ x164)))), (3005, some (.row 122 2 (s4.2.map e_resource_part_int_))), (100000, some (.row 122 2 (r2.map e_resource_part_int_)))] : OL)) (fun m179 h E' O' hmat => ?_) (fun j180 hjj180 h => ?_)
     ·refine seqQ_n ?_
      refine AWp.ghost hmat ?_
      refine AWp.cond rfl (fun hg181 => ?_) (fun hg181 => ?_)
      ·replace h := ite_t hg181 h
       obtain ⟨hc182, h⟩ := chk_some h
       refine rg (c (mv hN (q 5)) rfl (c (lb hN 122 _ _ tyS122 (At.here _) (q 7)) rfl (c (OpJ.buildSlice Tryd.underlying83 tyS122 tyZD122 (by rfl) (by decide) (by decide) (Opds.cons (q 68) Opds.nil) (by kernel_rfl) (es := ([(e_resource_part_int_ x164)] : List D)) (by rfl) (by rfl) (by kernel_rfl) (by simp) (L rfl)) rfl (cg (OpJ.append hB Tryd.underlying83 tyE122 (nm := 1070) (by decide) (es := s4.2.map e_resource_part_int_) (ys := ([x164] : List resource_part_int_).map e_resource_part_int_) (es' := (s4.2 ++ ([x164] : List resource_part_int_)).map e_resource_part_int_) (len := (s4.2 ++ ([x164] : List resource_part_int_)).length) (by simp) (by simp) (map_sz (f := e_resource_part_int_) (fun _ => rfl)) (by rw [List.length_map]; exact lim_mulN hc182 (by decide)) (by rw [List.length_map]; exact lim_leN hc182) (L rfl) (by simp) (q 67) (q 69)) rfl (c (OpJ.assign (L rfl) (q 70)) rfl cn))))) ?_
       refine blkQ_n ?_
       refine blkQ_n ?_
       exact hjj162 _ h _ _ (Mat.trans (mp [] [(2, (.ptr 1002 0 [])), (5, (.sref 1070 2 0 ((s4.2 ++ ([x164] : List resource_part_int_)).length))), (16, (.sref 100000 2 0 r2.length)), (17, (i6 (r1.length : Int))), (18, (i6 s4.1))] [(1002, some (.box 92 (.st [(.func 70 []), (.func 138 []), (.func 139 [])]))), (1070, some (.row 122 2 ((s4.2 ++ ([x164] : List resource_part_int_)).map e_resource_part_int_))), (100000, some (.row 122 2 (r2.map e_resource_part_int_)))] hB) (mp [(3005, 1070)] _ _ hB))
      ·replace h := ite_f hg181 h
       obtain ⟨x183, hx183, h⟩ := bindS h
       obtain ⟨x184, hx184, h⟩ := bindS h
       obtain ⟨r185, hr185, h⟩ := bindS h
       refine sd (c (ov (.ptr 1002 0 [0]) (fp hN Tryd.underlying92 0 tyS39 _ (q 2))) rfl (c (lb hN 92 _ (.func 70 []) tyS39 (At.st1 (f := (.func 70 [])) (by rfl) (by rfl) (At.here _) (by first | rfl | omega)) (q 72)) rfl (c (ov (.ptr 1007 1 [1]) (fp hN Tryd.underlying122 1 tyS3 _ (q 7))) rfl (c (lb hN 122 _ _ tyS3 (ad _) (q 74)) rfl (c (mv hN (q 5)) rfl (c (mv hN (q 8)) rfl (c (OpJ.val (v' := (.ptr 3005 ((w64 ((s4.2.length : Int) - (1 : Int))).toNat * 2) [(w64 ((s4.2.length : Int) - (1 : Int))).toNat])) (by simp) (OpJ.indexS Tryd.underlying83 tyS122 (idx_some hx183).1 (by have := idx_lt hx183; first | (simpa using this) | ((try simp only [List.length_map] at this); (try simp only [List.length_map]); omega)) (L rfl) (q 76) (q 77))) rfl (c (ov (.ptr 3005 (((w64 ((s4.2.length : Int) - (1 : Int))).toNat * 2) + 1) [(w64 ((s4.2.length : Int) - (1 : Int))).toNat, 1]) (fp hN Tryd.underlying122 1 tyS3 _ (q 78))) rfl (c (OpJ.loadR (e := 122) (sz := 2) tyS3 (get_map e_resource_part_int_ (idx_some hx184).2) (o := 1) (ad _) (by rfl) (by rfl) (by rfl) (L rfl) (q 79)) rfl (cg (OpJ.callVal (args := [(i6 x164.fto), (i6 x184.fto)]) (caps := []) hB fnOk70 [] (cmp_Compare_ac x164.fto x184.fto r185 hr185) (by kernel_rfl) (L rfl) (by kernel_rfl) (by kernel_rfl) (OpdL.cons (q 75) (OpdL.cons (q 80) OpdL.nil))) rfl (c (OpJ.gtr (L rfl) (q 81) (Opd.int .i64 (0))) rfl (c (OpJ.assign (L rfl) (q 82)) rfl cn)))))))))))) (by kernel_rfl) (by kernel_rfl) ?_
       refine gh [(2, _), (5, _), (7, _), (8, _), (16, _), (17, _), (18, _), (71, _)] [(1002, some _), (1007, some _), (3005, some _), (100000, some _)] hB rfl rfl (by rfl) ?_
       refine AWp.cond rfl (fun hg186 => ?_) (fun hg186 => ?_)
       ·replace h := ite_t hg186 h
        obtain ⟨x187, hx187, h⟩ := bindS h
        obtain ⟨x188, hx188, h⟩ := bindS h
        refine rg (c (mv hN (q 5)) rfl (c (mv hN (q 8)) rfl (c (ov (.ptr 1007 1 [1]) (fp hN Tryd.underlying122 1 tyS3 _ (q 7))) rfl (c (lb hN 122 _ _ tyS3 (ad _) (q 85)) rfl (c (OpJ.val (v' := (.ptr 3005 ((w64 ((s4.2.length : Int) - (1 : Int))).toNat * 2) [(w64 ((s4.2.length : Int) - (1 : Int))).toNat])) (by simp) (OpJ.indexS Tryd.underlying83 tyS122 (idx_some hx187).1 (by have := idx_lt hx187; first | (simpa using this) | ((try simp only [List.length_map] at this); (try simp only [List.length_map]); omega)) (L rfl) (q 83) (q 84))) rfl (c (ov (.ptr 3005 (((w64 ((s4.2.length : Int) - (1 : Int))).toNat * 2) + 1) [(w64 ((s4.2.length : Int) - (1 : Int))).toNat, 1]) (fp hN Tryd.underlying122 1 tyS3 _ (q 87))) rfl (cg (OpJ.storeR (e := 122) (sz := 2) (es' := (s4.2.set (w64 ((s4.2.length : Int) - (1 : Int))).toNat (resource_part_int_.mk x188.ffrom x164.fto)).map e_resource_part_int_) tyS3 (get_map e_resource_part_int_ (idx_some hx188).2) (o := 1) (SetAt.dst1 (by rfl) (by rfl) (SetAt.here _ _) (by rfl) (by rfl) (by first | rfl | omega)) (by rfl) (map_set _ _ _ _) (by rfl) (by rfl) (q 88) (q 86)) rfl cn))))))) ?_
        refine blkQ_n ?_
        refine blkQ_n ?_
        exact hjj162 _ h _ _ (Mat.trans (mp [] [(2, (.ptr 1002 0 [])), (5, (.sref 3005 2 0 s4.2.length)), (16, (.sref 100000 2 0 r2.length)), (17, (i6 (r1.length : Int))), (18, (i6 s4.1))] [(1002, some (.box 92 (.st [(.func 70 []), (.func 138 []), (.func 139 [])]))), (3005, some (.row 122 2 ((s4.2.set (w64 ((s4.2.length : Int) - (1 : Int))).toNat (resource_part_int_.mk x188.ffrom x164.fto)).map e_resource_part_int_))), (100000, some (.row 122 2 (r2.map e_resource_part_int_)))] hB) (Mat.trans (Mat.lenP (Ts := [(5, (.sref 3005 2 0 ((s4.2.set (w64 ((s4.2.length : Int) - (1 : Int))).toNat (resource_part_int_.mk x188.ffrom x164.fto)).length)))]) (Bs := []) (TwT.cons (x := (.sref 3005 2 0 s4.2.length)) (by rfl) (Tw.leaf ⟨_, _, _, _, _, rfl, rfl, (by first | rfl | (simp; done) | (simp; omega) | omega)⟩) TwT.nil) TwB.nil) (mp [] _ _ hB)))
       ·replace h := ite_f hg186 h
        refine AWp.skip ?_
        refine blkQ_n ?_
        refine blkQ_n ?_
        exact hjj162 _ h _ _ (mp [] _ _ hB)
     ·obtain ⟨x189, hx189, h⟩ := bindS h
      obtain ⟨x190, hx190, h⟩ := bindS h
      obtain ⟨r191, hr191, h⟩ := bindS h
      rcases Bool.eq_false_or_eq_true (decide ((0 : Int) < r191)) with hg192 | hg192
      ·replace h := ite_t hg192 h
       rcases Bool.eq_false_or_eq_true r169.2 with hg193 | hg193
       ·replace h := ite_t hg193 h
        obtain ⟨r194, hr194, h⟩ := bindS h
        refine dr (c (ov (.ptr 1002 0 [0]) (fp hN Tryd.underlying92 0 tyS39 _ (q 2))) rfl (c (lb hN 92 _ (.func 70 []) tyS39 (At.st1 (f := (.func 70 [])) (by rfl) (by rfl) (At.here _) (by first | rfl | omega)) (q 43)) rfl (c (ov (.ptr 1007 0 [0]) (fp hN Tryd.underlying122 0 tyS3 _ (q 7))) rfl (c (lb hN 122 _ _ tyS3 (ad _) (q 45)) rfl (c (mv hN (q 5)) rfl (c (mv hN (q 8)) rfl (c (OpJ.val (v' := (.ptr 3005 ((w64 ((s4.2.length : Int) - (1 : Int))).toNat * 2) [(w64 ((s4.2.length : Int) - (1 : Int))).toNat])) (by simp) (OpJ.indexS Tryd.underlying83 tyS122 (idx_some hx189).1 (by have := idx_lt hx189; first | (simpa using this) | ((try simp only [List.length_map] at this); (try simp only [List.length_map]); omega)) (L rfl) (q 47) (q 48))) rfl (c (ov (.ptr 3005 (((w64 ((s4.2.length : Int) - (1 : Int))).toNat * 2) + 1) [(w64 ((s4.2.length : Int) - (1 : Int))).toNat, 1]) (fp hN Tryd.underlying122 1 tyS3 _ (q 49))) rfl (c (OpJ.loadR (e := 122) (sz := 2) tyS3 (get_map e_resource_part_int_ (idx_some hx190).2) (o := 1) (ad _) (by rfl) (by rfl) (by rfl) (L rfl) (q 50)) rfl (cg (OpJ.callVal (args := [(i6 x164.ffrom), (i6 x190.fto)]) (caps := []) hB fnOk70 [] (cmp_Compare_ac x164.ffrom x190.fto r191 hr191) (by kernel_rfl) (L rfl) (by kernel_rfl) (by kernel_rfl) (OpdL.cons (q 46) (OpdL.cons (q 51) OpdL.nil))) rfl (c (OpJ.gtr (L rfl) (q 52) (Opd.int .i64 (0))) rfl (c (OpJ.val (v' := .d (.bool true)) (by rw [hg192] <;> rfl) (mv hN (q 53))) rfl (c (gd 54 (mv hN (q 10))) rfl (c (gd 54 (OpJ.val (v' := .d (.bool true)) (by rw [hg193] <;> rfl) (mv hN (q 55)))) rfl (c (gd 56 (ov (.ptr 1002 0 [0]) (fp hN Tryd.underlying92 0 tyS39 _ (q 2)))) rfl (c (gd 56 (lb hN 92 _ (.func 70 []) tyS39 (At.st1 (f := (.func 70 [])) (by rfl) (by rfl) (At.here _) (by first | rfl | omega)) (q 57))) rfl (c (gd 56 (mv hN (q 9))) rfl (c (gd 56 (ov (.ptr 1007 0 [0]) (fp hN Tryd.underlying122 0 tyS3 _ (q 7)))) rfl (c (gd 56 (lb hN 122 _ _ tyS3 (ad _) (q 60))) rfl (cg (gd 56 (OpJ.callVal (args := [(i6 r169.1), (i6 x164.ffrom)]) (caps := []) hB fnOk70 [] (cmp_Compare_ac r169.1 x164.ffrom r194 hr194) (by kernel_rfl) (L rfl) (by kernel_rfl) (by kernel_rfl) (OpdL.cons (q 59) (OpdL.cons (q 61) OpdL.nil)))) rfl (c (gd 56 (OpJ.eqlI (L rfl) (q 62) (Opd.int .i64 (0)))) rfl (c (gd 54 (OpJ.pickT (L rfl) (q 56) (q 63))) rfl (c (gd 54 (OpJ.not (L rfl) (q 64))) rfl (c (OpJ.pickT (L rfl) (q 54) (q 65)) rfl (c (OpJ.assign (L rfl) (q 66)) rfl cn))))))))))))))))))))))))) (by kernel_rfl) (by kernel_rfl) ?_
        exact hjj180 _ h _ _ (Mat.trans (mp [] [(2, (.ptr 1002 0 [])), (5, (.sref 3005 2 0 s4.2.length)), (7, (.ptr 1007 0 [])), (8, (i6 (w64 ((s4.2.length : Int) - (1 : Int))))), (16, (.sref 100000 2 0 r2.length)), (17, (i6 (r1.length : Int))), (18, (i6 s4.1)), (42, (bo (!(r194 == (0 : Int)))))] [(1002, some (.box 92 (.st [(.func 70 []), (.func 138 []), (.func 139 [])]))), (1007, some (.box 122 (.d (e_resource_part_int_ x164)))), (3005, some (.row 122 2 (s4.2.map e_resource_part_int_))), (100000, some (.row 122 2 (r2.map e_resource_part_int_)))] hB) (mp [] _ _ hB))
       ·replace h := ite_f hg193 h
        refine dr (c (ov (.ptr 1002 0 [0]) (fp hN Tryd.underlying92 0 tyS39 _ (q 2))) rfl (c (lb hN 92 _ (.func 70 []) tyS39 (At.st1 (f := (.func 70 [])) (by rfl) (by rfl) (At.here _) (by first | rfl | omega)) (q 43)) rfl (c (ov (.ptr 1007 0 [0]) (fp hN Tryd.underlying122 0 tyS3 _ (q 7))) rfl (c (lb hN 122 _ _ tyS3 (ad _) (q 45)) rfl (c (mv hN (q 5)) rfl (c (mv hN (q 8)) rfl (c (OpJ.val (v' := (.ptr 3005 ((w64 ((s4.2.length : Int) - (1 : Int))).toNat * 2) [(w64 ((s4.2.length : Int) - (1 : Int))).toNat])) (by simp) (OpJ.indexS Tryd.underlying83 tyS122 (idx_some hx189).1 (by have := idx_lt hx189; first | (simpa using this) | ((try simp only [List.length_map] at this); (try simp only [List.length_map]); omega)) (L rfl) (q 47) (q 48))) rfl (c (ov (.ptr 3005 (((w64 ((s4.2.length : Int) - (1 : Int))).toNat * 2) + 1) [(w64 ((s4.2.length : Int) - (1 : Int))).toNat, 1]) (fp hN Tryd.underlying122 1 tyS3 _ (q 49))) rfl (c (OpJ.loadR (e := 122) (sz := 2) tyS3 (get_map e_resource_part_int_ (idx_some hx190).2) (o := 1) (ad _) (by rfl) (by rfl) (by rfl) (L rfl) (q 50)) rfl (cg (OpJ.callVal (args := [(i6 x164.ffrom), (i6 x190.fto)]) (caps := []) hB fnOk70 [] (cmp_Compare_ac x164.ffrom x190.fto r191 hr191) (by kernel_rfl) (L rfl) (by kernel_rfl) (by kernel_rfl) (OpdL.cons (q 46) (OpdL.cons (q 51) OpdL.nil))) rfl (c (OpJ.gtr (L rfl) (q 52) (Opd.int .i64 (0))) rfl (c (OpJ.val (v' := .d (.bool true)) (by rw [hg192] <;> rfl) (mv hN (q 53))) rfl (c (gd 54 (mv hN (q 10))) rfl (c (gd 54 (OpJ.val (v' := .d (.bool false)) (by rw [hg193] <;> rfl) (mv hN (q 55)))) rfl (cg (sU 56 (L rfl)) rfl (cg (sU 56 (L rfl)) rfl (cg (sU 56 (L rfl)) rfl (cg (sU 56 (L rfl)) rfl (cg (sU 56 (L rfl)) rfl (cg (sU 56 (L rfl)) rfl (cg (sU 56 (L rfl)) rfl (c (gd 54 (OpJ.pickF (L rfl) (q 56) (Opd.bool false))) rfl (c (gd 54 (OpJ.not (L rfl) (q 64))) rfl (c (OpJ.pickT (L rfl) (q 54) (q 65)) rfl (c (OpJ.assign (L rfl) (q 66)) rfl cn))))))))))))))))))))))))) (by kernel_rfl) (by kernel_rfl) ?_
        exact hjj180 _ h _ _ (Mat.trans (mp [] [(2, (.ptr 1002 0 [])), (5, (.sref 3005 2 0 s4.2.length)), (7, (.ptr 1007 0 [])), (8, (i6 (w64 ((s4.2.length : Int) - (1 : Int))))), (16, (.sref 100000 2 0 r2.length)), (17, (i6 (r1.length : Int))), (18, (i6 s4.1)), (42, (bo (!false)))] [(1002, some (.box 92 (.st [(.func 70 []), (.func 138 []), (.func 139 [])]))), (1007, some (.box 122 (.d (e_resource_part_int_ x164)))), (3005, some (.row 122 2 (s4.2.map e_resource_part_int_))), (100000, some (.row 122 2 (r2.map e_resource_part_int_)))] hB) (mp [] _ _ hB))
      ·replace h := ite_f hg192 h
       refine dr (c (ov (.ptr 1002 0 [0]) (fp hN Tryd.underlying92 0 tyS39 _ (q 2))) rfl (c (lb hN 92 _ (.func 70 []) tyS39 (At.st1 (f := (.func 70 [])) (by rfl) (by rfl) (At.here _) (by first | rfl | omega)) (q 43)) rfl (c (ov (.ptr 1007 0 [0]) (fp hN Tryd.underlying122 0 tyS3 _ (q 7))) rfl (c (lb hN 122 _ _ tyS3 (ad _) (q 45)) rfl (c (mv hN (q 5)) rfl (c (mv hN (q 8)) rfl (c (OpJ.val (v' := (.ptr 3005 ((w64 ((s4.2.length : Int) - (1 : Int))).toNat * 2) [(w64 ((s4.2.length : Int) - (1 : Int))).toNat])) (by simp) (OpJ.indexS Tryd.underlying83 tyS122 (idx_some hx189).1 (by have := idx_lt hx189; first | (simpa using this) | ((try simp only [List.length_map] at this); (try simp only [List.length_map]); omega)) (L rfl) (q 47) (q 48))) rfl (c (ov (.ptr 3005 (((w64 ((s4.2.length : Int) - (1 : Int))).toNat * 2) + 1) [(w64 ((s4.2.length : Int) - (1 : Int))).toNat, 1]) (fp hN Tryd.underlying122 1 tyS3 _ (q 49))) rfl (c (OpJ.loadR (e := 122) (sz := 2) tyS3 (get_map e_resource_part_int_ (idx_some hx190).2) (o := 1) (ad _) (by rfl) (by rfl) (by rfl) (L rfl) (q 50)) rfl (cg (OpJ.callVal (args := [(i6 x164.ffrom), (i6 x190.fto)]) (caps := []) hB fnOk70 [] (cmp_Compare_ac x164.ffrom x190.fto r191 hr191) (by kernel_rfl) (L rfl) (by kernel_rfl) (by kernel_rfl) (OpdL.cons (q 46) (OpdL.cons (q 51) OpdL.nil))) rfl (c (OpJ.gtr (L rfl) (q 52) (Opd.int .i64 (0))) rfl (c (OpJ.val (v' := .d (.bool false)) (by rw [hg192] <;> rfl) (mv hN (q 53))) rfl (cg (sU 54 (L rfl)) rfl (cg (sU 54 (L rfl)) rfl (cg (sV 56 (L rfl)) rfl (cg (sV 56 (L rfl)) rfl (cg (sV 56 (L rfl)) rfl (cg (sV 56 (L rfl)) rfl (cg (sV 56 (L rfl)) rfl (cg (sV 56 (L rfl)) rfl (cg (sV 56 (L rfl)) rfl (cg (sU 54 (L rfl)) rfl (cg (sU 54 (L rfl)) rfl (c (OpJ.pickF (L rfl) (q 54) (Opd.bool false)) rfl (c (OpJ.assign (L rfl) (q 66)) rfl cn))))))))))))))))))))))))) (by kernel_rfl) (by kernel_rfl) ?_
       exact hjj180 _ h _ _ (Mat.trans (mp [] [(2, (.ptr 1002 0 [])), (5, (.sref 3005 2 0 s4.2.length)), (7, (.ptr 1007 0 [])), (8, (i6 (w64 ((s4.2.length : Int) - (1 : Int))))), (16, (.sref 100000 2 0 r2.length)), (17, (i6 (r1.length : Int))), (18, (i6 s4.1)), (42, (bo false))] [(1002, some (.box 92 (.st [(.func 70 []), (.func 138 []), (.func 139 [])]))), (1007, some (.box 122 (.d (e_resource_part_int_ x164)))), (3005, some (.row 122 2 (s4.2.map e_resource_part_int_))), (100000, some (.row 122 2 (r2.map e_resource_part_int_)))] hB) (mp [] _ _ hB))
  ·replace h := ite_f hg128 h
   refine AWp.exit ?_
   refine seqQ_e ?_
   obtain rfl := Option.some.inj h
   exact ⟨(fun hc => by cases hc), rfl, (mp [] _ _ hB)⟩
 ·obtain ⟨rfl, hmat⟩ := hR
  refine blkQ_hit ?_
  refine seqQ_n ?_
  refine AWp.ghost hmat ?_
  refine sr (c (mv hN (q 5)) rfl (c (OpJ.assign (L rfl) (q 90)) rfl cn)) ?_
  refine gh [(4, _)] [(3005, some _)] hB rfl rfl (by rfl) ?_
  refine AWp.ret ?_
  obtain rfl := Option.some.inj h
  exact ⟨.inl rfl, _, _, (Mat.trans (Mat.freezeP (n := 3005) (e := 122) (sz := 2) (es := p127.map e_resource_part_int_) (Ts := [(4, (.d (.list 2 (p127.map e_resource_part_int_))))]) (Bs := []) (by rfl) (TwT.cons (x := (.sref 3005 2 0 p127.length)) (by rfl) (FrzL.all (by first | rfl | (simp; done) | (simp; omega) | omega)) TwT.nil) TwB.nil) (mp [] [(4, (.d (.list 2 (p127.map e_resource_part_int_))))] [] hB)), [(.d (.list 2 (p127.map e_resource_part_int_)))], (Res.tmp (by rfl) (by rfl) Res.nil), rfl, by rfl, by rfl, by rfl⟩

noncomputable def resource_set_resources_L0 (a0 : resource_set) (s2 : Int × (List api_Range)) : Option ((((List api_Range))) ⊕ (Int × (List api_Range))) :=
 (if (decide (s2.1 < (a0.faddrs.length : Int))) = true then
 (idx a0.faddrs s2.1).bind fun x11 =>
 chk (decide ((s2.2 ++ ([(api_Range.mk x11.ffrom x11.fto)] : List api_Range)).length ≤ LIM)) <|
 some (.inr ((w64 (s2.1 + (1 : Int))), (s2.2 ++ ([(api_Range.mk x11.ffrom x11.fto)] : List api_Range))))
 else
 some (.inl s2.2))
noncomputable def resource_set_resources_L1 (a0 : resource_set) (s15 : Int × (List api_Span)) : Option ((((List api_Span))) ⊕ (Int × (List api_Span))) :=
 (if (decide (s15.1 < (a0.fasns.length : Int))) = true then
 (idx a0.fasns s15.1).bind fun x24 =>
 chk (decide ((s15.2 ++ ([(api_Span.mk x24.ffrom x24.fto)] : List api_Span)).length ≤ LIM)) <|
 some (.inr ((w64 (s15.1 + (1 : Int))), (s15.2 ++ ([(api_Span.mk x24.ffrom x24.fto)] : List api_Span))))
 else
 some (.inl s15.2))
noncomputable def resource_set_resources (a0 : resource_set) : Option (api_Resources × Int) :=
 (if ((decide ((256 : Int) < (a0.faddrs.length : Int))) || (decide ((256 : Int) < (a0.fasns.length : Int)))) = true then
 some ((api_Resources.mk ([] : List api_Range) ([] : List api_Span)), (3 : Int))
 else
 (loop (resource_set_resources_L0 a0) ((0 : Int), ([] : List api_Range))).bind fun p9 =>
 (loop (resource_set_resources_L1 a0) ((0 : Int), ([] : List api_Span))).bind fun p22 =>
 some ((api_Resources.mk p9 p22), (0 : Int)))
theorem resource_set_resources_ac (a0 : resource_set) (r : api_Resources × Int) (h : resource_set_resources a0 = some r) : AC Tryd.prog 57 [(.d (e_resource_set a0))] [] (.tup [(.d (e_api_Resources r.1)), (.d (.int .i64 r.2))]) [] := by
 refine AC.of_code2 Tryd.func57 rfl rfl (Nat.le_of_ble_eq_true (by rfl)) fun B hB hN => ?_
 have L {d : Nat} (h : Nat.blt d Tryd.f57.ntmps = true) : d < B.N := ltN hN h
 delta resource_set_resources at h
 refine sr (cg (OpJ.box hB (nm := 1001) (by decide) (by simp) rfl (L rfl) (q 0)) rfl (cg (OpJ.alloc hB tyZ28 (nm := 1002) (by decide) (L rfl)) rfl (c (OpJ.assign (L rfl) (Opd.int .i64 (0))) rfl cn))) ?_
 refine gh [(1, _), (2, _)] [(1001, some _), (1002, some _)] hB rfl rfl (by rfl) ?_
 refine AWp.seq ?_
 refine sr (c (ov (.ptr 1001 0 [0]) (fp hN Tryd.underlying85 0 tyS82 _ (q 1))) rfl (c (lb hN 85 _ _ tyS82 (ad _) (q 9)) rfl (c (OpJ.val (v' := (i6 (a0.faddrs.length : Int))) (by simp) (OpJ.lenD Tryd.underlying82 (L rfl) (q 10))) rfl (c (OpJ.gtr (L rfl) (q 11) (Opd.int .i64 (256))) rfl (c (mv hN (q 12)) rfl (c (oq hN 13 (ov (.ptr 1001 1 [1]) (fp hN Tryd.underlying85 1 tyS83 _ (q 1))) (OptL.keep (by rfl) OptL.nil) (GuardV.plain _)) rfl (c (oq hN 13 (lb hN 85 _ _ tyS83 (ad _) (q 14)) (OptL.opt OptL.nil) (GuardV.plain _)) rfl (c (oq hN 13 (OpJ.val (v' := (i6 (a0.fasns.length : Int))) (by simp) (OpJ.lenD Tryd.underlying83 (L rfl) (q 15))) (OptL.opt OptL.nil) (GuardV.plain _)) rfl (c (oq hN 13 (OpJ.gtr (L rfl) (q 16) (Opd.int .i64 (256))) (OptL.opt OptL.nil) (GuardV.plain _)) rfl (c (OpJ.pickOr rfl (L rfl) (q 13) (q 17)) rfl cn)))))))))) ?_
 refine gh [(1, _), (2, _), (18, _)] [(1001, some _), (1002, some _)] hB rfl rfl (by rfl) ?_
 refine AWp.cond rfl (fun hg1 => ?_) (fun hg1 => ?_)
 ·replace h := ite_t hg1 h
  refine sr (c (OpJ.build (places := [(0, 1), (1, 1)]) ⟨Tryd.underlying28, fun w => by kernel_rfl⟩ tyZS28 Opds.nil (by kernel_rfl) (r := (.st [.nils, .nils])) (by rfl) (L rfl)) rfl (cg (OpJ.storeB tyS28 (SetAt.here _ _) (by rfl) (by rfl) (by simp) rfl (q 2) (q 19)) rfl (c (OpJ.assign (L rfl) (Opd.int .i64 (3))) rfl cn))) ?_
  refine gh [(2, _), (3, _)] [(1002, some _)] hB rfl rfl (by rfl) ?_
  refine AWp.ret ?_
  refine seqQ_r ?_
  obtain rfl := Option.some.inj h
  exact ⟨.inl rfl, _, _, (Mat.trans (Mat.coeP (Ts := []) (Bs := [(1002, some (.box 28 (.d (.st [(.list 6 (([] : List api_Range).map e_api_Range)), (.list 2 (([] : List api_Span).map e_api_Span))]))))]) TwT.nil (TwB.cons (x := (.st [.nils, .nils])) (by rfl) (Tw.leaf ⟨_, (Co.st (CoL.cons (Co.nils 6) (CoL.cons (Co.nils 2) CoL.nil))), rfl⟩) TwB.nil)) (mp [] [(2, (.ptr 1002 0 [])), (3, (i6 (3 : Int)))] [(1002, some (.box 28 (.d (.st [(.list 6 (([] : List api_Range).map e_api_Range)), (.list 2 (([] : List api_Span).map e_api_Span))]))))] hB)), [(.d (.st [(.list 6 (([] : List api_Range).map e_api_Range)), (.list 2 (([] : List api_Span).map e_api_Span))])), (i6 (3 : Int))], (Res.cell (c := (.d (.st [(.list 6 (([] : List api_Range).map e_api_Range)), (.list 2 (([] : List api_Span).map e_api_Span))]))) (by rfl) (by rfl) tyS28 (by rfl) (by rfl) (by rfl) (Res.tmp (by rfl) (by rfl) Res.nil)), rfl, by rfl, by rfl, by rfl⟩
 ·replace h := ite_f hg1 h
  refine AWp.skip ?_
  refine seqQ_n ?_
  refine sr (cg (OpJ.alloc hB tyZ28 (nm := 1004) (by decide) (L rfl)) rfl cn) ?_
  refine gh [(1, _), (2, _), (4, _)] [(1001, some _), (1002, some _), (1004, some _)] hB rfl rfl (by rfl) ?_
  refine AWp.seq ?_
  refine sr (c (ov (.ptr 1001 0 [0]) (fp hN Tryd.underlying85 0 tyS82 _ (q 1))) rfl (c (lb hN 85 _ _ tyS82 (ad _) (q 20)) rfl (c (OpJ.val (v' := (i6 (a0.faddrs.length : Int))) (by simp) (OpJ.lenD Tryd.underlying82 (L rfl) (q 21))) rfl (c (mv hN (Opd.int .i64 (0))) rfl cn)))) ?_
  refine gh [(1, _), (2, _), (4, _), (21, _), (22, _), (23, _)] [(1001, some _), (1002, some _), (1004, some _)] hB rfl rfl (by rfl) ?_
  refine AWp.block ?_
  obtain ⟨p9, hx14, h⟩ := bindS h
  refine lg (resource_set_resources_L0 a0) (fun s2 : Int × (List api_Range) => ([(1, (.ptr 1001 0 [])), (2, (.ptr 1002 0 [])), (4, (.ptr 1004 0 [])), (21, (qe_api_Addr__6 a0.faddrs)), (22, (i6 (a0.faddrs.length : Int))), (23, (i6 s2.1))] : EL)) (fun s2 : Int × (List api_Range) => ([(1001, some (.box 85 (.d (e_resource_set a0)))), (1002, some (.box 28 (.st [.nils, .nils]))), (1004, some (.box 28 (.st [(.sref 13040 6 0 s2.2.length), .nils]))), (13040, some (we_api_Range_68_6 s2.2))] : OL)) (fun (p9 : ((List api_Range))) e E' O' => e = .exit 0 ∧ Mat B E' O' ([(1, (.ptr 1001 0 [])), (2, (.ptr 1002 0 [])), (4, (.ptr 1004 0 []))] : EL) ([(1001, some (.box 85 (.d (e_resource_set a0)))), (1002, some (.box 28 (.st [.nils, .nils]))), (1004, some (.box 28 (.st [(.sref 13040 6 0 p9.length), .nils]))), (13040, some (we_api_Range_68_6 p9))] : OL)) hx14 (Mat.trans (Mat.beginP (n := 13040) (e := 68) (sz := 6) (Ts := []) (Bs := [(1004, some (.box 28 (.st [(.sref 13040 6 0 0), .nils])))]) hB (by decide) (by rfl) (by decide) TwT.nil (TwB.cons (x := (.st [.nils, .nils])) (by rfl) (Tw.st (TwL.cons (Tw.leaf ⟨rfl, rfl⟩) (TwL.cons (Tw.same _) TwL.nil))) TwB.nil)) (mp [] _ _ hB)) (fun s2 y h => ?_) (fun e E' O' hR => ?_)
  ·unfold resource_set_resources_L0 at h
   refine sr (c (OpJ.lss (L rfl) (q 23) (q 22)) rfl cn) ?_
   refine gh [(1, _), (2, _), (4, _), (21, _), (22, _), (23, _), (24, _)] [(1001, some _), (1002, some _), (1004, some _), (13040, some _)] hB rfl rfl (by rfl) ?_
   refine AWp.seq ?_
   refine AWp.cond rfl (fun hg10 => ?_) (fun hg10 => ?_)
   ·replace h := ite_t hg10 h
    refine AWp.skip ?_
    refine seqQ_n ?_
    refine AWp.seq ?_
    refine AWp.block ?_
    obtain ⟨x11, hx11, h⟩ := bindS h
    refine sr (c (OpJ.indexD Tryd.underlying82 tyS120 (idx_some hx11).1 (get_map e_api_Addr_ (idx_some hx11).2) (L rfl) (q 21) (q 23)) rfl (c (OpJ.loadD tyS120 (by rfl) (by rfl) (L rfl) (q 25)) rfl (cg (OpJ.alloc hB tyZ120 (nm := 1006) (by decide) (L rfl)) rfl (cg (OpJ.storeB tyS120 (SetAt.here _ _) (by rfl) (by rfl) (by simp) rfl (q 6) (q 26)) rfl cn)))) ?_
    refine gh [(1, _), (2, _), (4, _), (6, _), (21, _), (22, _), (23, _)] [(1001, some _), (1002, some _), (1004, some _), (1006, some _), (13040, some _)] hB rfl rfl (by rfl) ?_
    obtain ⟨hc12, h⟩ := chk_some h
    refine rg (c (ov (.ptr 1004 0 [0]) (fp hN Tryd.underlying28 0 tyS25 _ (q 4))) rfl (c (lb hN 28 _ (.sref 13040 6 0 s2.2.length) tyS25 (At.st1 (f := (.sref 13040 6 0 s2.2.length)) (by rfl) (by rfl) (At.here _) (by first | rfl | omega)) (q 27)) rfl (c (ov (.ptr 1006 0 [0]) (fp hN Tryd.underlying120 0 tyS32 _ (q 6))) rfl (c (lb hN 120 _ _ tyS32 (ad _) (q 29)) rfl (c (ov (.ptr 1006 3 [1]) (fp hN Tryd.underlying120 3 tyS32 _ (q 6))) rfl (c (lb hN 120 _ _ tyS32 (ad _) (q 31)) rfl (c (OpJ.coe (v := (.st [(.d (e_api_Addr x11.ffrom)), (.d (e_api_Addr x11.fto))])) (y := (.st [(e_api_Addr x11.ffrom), (e_api_Addr x11.fto)])) (Co.st (CoL.cons (Co.d _) (CoL.cons (Co.d _) CoL.nil))) rfl (OpJ.build (places := [(0, 3), (3, 3)]) ⟨Tryd.underlying68, fun w => by kernel_rfl⟩ tyZS68 (Opds.cons (q 30) (Opds.cons (q 32) Opds.nil)) (by kernel_rfl) (r := (.st [(.d (e_api_Addr x11.ffrom)), (.d (e_api_Addr x11.fto))])) (by rfl) (L rfl))) rfl (c (OpJ.buildSlice Tryd.underlying25 tyS68 tyZD68 (by rfl) (by decide) (by decide) (Opds.cons (q 33) Opds.nil) (by kernel_rfl) (es := ([(.st [(e_api_Addr x11.ffrom), (e_api_Addr x11.fto)])] : List D)) (by rfl) (by rfl) (by kernel_rfl) (by simp) (L rfl)) rfl (cg (OpJ.append hB Tryd.underlying25 tyE68 (nm := 1035) (by decide) (es := s2.2.map e_api_Range) (ys := ([(api_Range.mk x11.ffrom x11.fto)] : List api_Range).map e_api_Range) (es' := (s2.2 ++ ([(api_Range.mk x11.ffrom x11.fto)] : List api_Range)).map e_api_Range) (len := (s2.2 ++ ([(api_Range.mk x11.ffrom x11.fto)] : List api_Range)).length) (by simp) (by simp) (map_sz (f := e_api_Range) (fun _ => rfl)) (by rw [List.length_map]; exact lim_mulN hc12 (by decide)) (by rw [List.length_map]; exact lim_leN hc12) (L rfl) (by simp) (q 28) (q 34)) rfl (c (ov (.ptr 1004 0 [0]) (fp hN Tryd.underlying28 0 tyS25 _ (q 4))) rfl (cg (OpJ.storeB (c' := (.st [(.sref 1035 6 0 ((s2.2 ++ ([(api_Range.mk x11.ffrom x11.fto)] : List api_Range)).length)), .nils])) tyS25 (SetAt.st1 (f := (.sref 13040 6 0 s2.2.length)) (by rfl) (by rfl) (SetAt.here _ _) (by rfl) (by rfl) (by first | rfl | omega)) (by rfl) (by rfl) (by simp) rfl (q 36) (q 35)) rfl cn))))))))))) ?_
    refine blkQ_n ?_
    refine seqQ_n ?_
    refine gh [(1, _), (2, _), (4, _), (21, _), (22, _), (23, _)] [(1001, some _), (1002, some _), (1004, some _), (1035, some _)] hB rfl rfl (by rfl) ?_
    refine rg (c (add6 (L rfl) (q 23) (Opd.int .i64 (1))) rfl (c (mv hN (q 37)) rfl cn)) ?_
    obtain rfl := Option.some.inj h
    exact ⟨rfl, (Mat.trans (mp [] [(1, (.ptr 1001 0 [])), (2, (.ptr 1002 0 [])), (4, (.ptr 1004 0 [])), (21, (qe_api_Addr__6 a0.faddrs)), (22, (i6 (a0.faddrs.length : Int))), (23, (i6 (w64 (s2.1 + (1 : Int)))))] [(1001, some (.box 85 (.d (e_resource_set a0)))), (1002, some (.box 28 (.st [.nils, .nils]))), (1004, some (.box 28 (.st [(.sref 1035 6 0 ((s2.2 ++ ([(api_Range.mk x11.ffrom x11.fto)] : List api_Range)).length)), .nils]))), (1035, some (we_api_Range_68_6 (s2.2 ++ ([(api_Range.mk x11.ffrom x11.fto)] : List api_Range))))] hB) (mp [(13040, 1035)] _ _ hB))⟩
   ·replace h := ite_f hg10 h
    refine AWp.exit ?_
    refine seqQ_e ?_
    obtain rfl := Option.some.inj h
    exact ⟨(fun hc => by cases hc), rfl, (mp [] _ _ hB)⟩
  ·obtain ⟨rfl, hmat⟩ := hR
   refine blkQ_hit ?_
   refine seqQ_n ?_
   refine AWp.ghost hmat ?_
   refine AWp.seq ?_
   refine sr (c (ov (.ptr 1001 1 [1]) (fp hN Tryd.underlying85 1 tyS83 _ (q 1))) rfl (c (lb hN 85 _ _ tyS83 (ad _) (q 38)) rfl (c (OpJ.val (v' := (i6 (a0.fasns.length : Int))) (by simp) (OpJ.lenD Tryd.underlying83 (L rfl) (q 39))) rfl (c (mv hN (Opd.int .i64 (0))) rfl cn)))) ?_
   refine gh [(2, _), (4, _), (39, _), (40, _), (41, _)] [(1002, some _), (1004, some _), (13040, some _)] hB rfl rfl (by rfl) ?_
   refine AWp.block ?_
   obtain ⟨p22, hx27, h⟩ := bindS h
   refine lg (resource_set_resources_L1 a0) (fun s15 : Int × (List api_Span) => ([(2, (.ptr 1002 0 [])), (4, (.ptr 1004 0 [])), (39, (.d (.list 2 (a0.fasns.map e_resource_part_int_)))), (40, (i6 (a0.fasns.length : Int))), (41, (i6 s15.1))] : EL)) (fun s15 : Int × (List api_Span) => ([(1002, some (.box 28 (.st [.nils, .nils]))), (1004, some (.box 28 (.st [(.sref 13040 6 0 p9.length), (.sref 13041 2 0 s15.2.length)]))), (13040, some (we_api_Range_68_6 p9)), (13041, some (we_api_Span_48_2 s15.2))] : OL)) (fun (p22 : ((List api_Span))) e E' O' => e = .exit 2 ∧ Mat B E' O' ([(2, (.ptr 1002 0 [])), (4, (.ptr 1004 0 []))] : EL) ([(1002, some (.box 28 (.st [.nils, .nils]))), (1004, some (.box 28 (.st [(.sref 13040 6 0 p9.length), (.sref 13041 2 0 p22.length)]))), (13040, some (we_api_Range_68_6 p9)), (13041, some (we_api_Span_48_2 p22))] : OL)) hx27 (Mat.trans (Mat.beginP (n := 13041) (e := 48) (sz := 2) (Ts := []) (Bs := [(1004, some (.box 28 (.st [(.sref 13040 6 0 p9.length), (.sref 13041 2 0 0)])))]) hB (by decide) (by rfl) (by decide) TwT.nil (TwB.cons (x := (.st [(.sref 13040 6 0 p9.length), .nils])) (by rfl) (Tw.st (TwL.cons (Tw.same _) (TwL.cons (Tw.leaf ⟨rfl, rfl⟩) TwL.nil))) TwB.nil)) (mp [] _ _ hB)) (fun s15 y h => ?_) (fun e E' O' hR => ?_)
   ·unfold resource_set_resources_L1 at h
    refine sr (c (OpJ.lss (L rfl) (q 41) (q 40)) rfl cn) ?_
    refine gh [(2, _), (4, _), (39, _), (40, _), (41, _), (42, _)] [(1002, some _), (1004, some _), (13040, some _), (13041, some _)] hB rfl rfl (by rfl) ?_
    refine AWp.seq ?_
    refine AWp.cond rfl (fun hg23 => ?_) (fun hg23 => ?_)
    ·replace h := ite_t hg23 h
     refine AWp.skip ?_
     refine seqQ_n ?_
     refine AWp.seq ?_
     refine AWp.block ?_
     obtain ⟨x24, hx24, h⟩ := bindS h
     refine sr (c (OpJ.indexD Tryd.underlying83 tyS122 (idx_some hx24).1 (get_map e_resource_part_int_ (idx_some hx24).2) (L rfl) (q 39) (q 41)) rfl (c (OpJ.loadD tyS122 (by rfl) (by rfl) (L rfl) (q 43)) rfl (cg (OpJ.alloc hB tyZ122 (nm := 1008) (by decide) (L rfl)) rfl (cg (OpJ.storeB tyS122 (SetAt.here _ _) (by rfl) (by rfl) (by simp) rfl (q 8) (q 44)) rfl cn)))) ?_
     refine gh [(2, _), (4, _), (8, _), (39, _), (40, _), (41, _)] [(1002, some _), (1004, some _), (1008, some _), (13040, some _), (13041, some _)] hB rfl rfl (by rfl) ?_
     obtain ⟨hc25, h⟩ := chk_some h
     refine rg (c (ov (.ptr 1004 1 [1]) (fp hN Tryd.underlying28 1 tyS26 _ (q 4))) rfl (c (lb hN 28 _ (.sref 13041 2 0 s15.2.length) tyS26 (At.st1 (f := (.sref 13041 2 0 s15.2.length)) (by rfl) (by rfl) (At.here _) (by first | rfl | omega)) (q 45)) rfl (c (ov (.ptr 1008 0 [0]) (fp hN Tryd.underlying122 0 tyS3 _ (q 8))) rfl (c (lb hN 122 _ _ tyS3 (ad _) (q 47)) rfl (c (ov (.ptr 1008 1 [1]) (fp hN Tryd.underlying122 1 tyS3 _ (q 8))) rfl (c (lb hN 122 _ _ tyS3 (ad _) (q 49)) rfl (c (OpJ.coe (v := (.st [(i6 x24.ffrom), (i6 x24.fto)])) (y := (.st [(.int .i64 x24.ffrom), (.int .i64 x24.fto)])) (Co.st (CoL.cons (Co.d _) (CoL.cons (Co.d _) CoL.nil))) rfl (OpJ.build (places := [(0, 1), (1, 1)]) ⟨Tryd.underlying48, fun w => by kernel_rfl⟩ tyZS48 (Opds.cons (q 48) (Opds.cons (q 50) Opds.nil)) (by kernel_rfl) (r := (.st [(i6 x24.ffrom), (i6 x24.fto)])) (by rfl) (L rfl))) rfl (c (OpJ.buildSlice Tryd.underlying26 tyS48 tyZD48 (by rfl) (by decide) (by decide) (Opds.cons (q 51) Opds.nil) (by kernel_rfl) (es := ([(.st [(.int .i64 x24.ffrom), (.int .i64 x24.fto)])] : List D)) (by rfl) (by rfl) (by kernel_rfl) (by simp) (L rfl)) rfl (cg (OpJ.append hB Tryd.underlying26 tyE48 (nm := 1053) (by decide) (es := s15.2.map e_api_Span) (ys := ([(api_Span.mk x24.ffrom x24.fto)] : List api_Span).map e_api_Span) (es' := (s15.2 ++ ([(api_Span.mk x24.ffrom x24.fto)] : List api_Span)).map e_api_Span) (len := (s15.2 ++ ([(api_Span.mk x24.ffrom x24.fto)] : List api_Span)).length) (by simp) (by simp) (map_sz (f := e_api_Span) (fun _ => rfl)) (by rw [List.length_map]; exact lim_mulN hc25 (by decide)) (by rw [List.length_map]; exact lim_leN hc25) (L rfl) (by simp) (q 46) (q 52)) rfl (c (ov (.ptr 1004 1 [1]) (fp hN Tryd.underlying28 1 tyS26 _ (q 4))) rfl (cg (OpJ.storeB (c' := (.st [(.sref 13040 6 0 p9.length), (.sref 1053 2 0 ((s15.2 ++ ([(api_Span.mk x24.ffrom x24.fto)] : List api_Span)).length))])) tyS26 (SetAt.st1 (f := (.sref 13041 2 0 s15.2.length)) (by rfl) (by rfl) (SetAt.here _ _) (by rfl) (by rfl) (by first | rfl | omega)) (by rfl) (by rfl) (by simp) rfl (q 54) (q 53)) rfl cn))))))))))) ?_
     refine blkQ_n ?_
     refine seqQ_n ?_
     refine gh [(2, _), (4, _), (39, _), (40, _), (41, _)] [(1002, some _), (1004, some _), (1053, some _), (13040, some _)] hB rfl rfl (by rfl) ?_
     refine rg (c (add6 (L rfl) (q 41) (Opd.int .i64 (1))) rfl (c (mv hN (q 55)) rfl cn)) ?_
     obtain rfl := Option.some.inj h
     exact ⟨rfl, (Mat.trans (mp [] [(2, (.ptr 1002 0 [])), (4, (.ptr 1004 0 [])), (39, (.d (.list 2 (a0.fasns.map e_resource_part_int_)))), (40, (i6 (a0.fasns.length : Int))), (41, (i6 (w64 (s15.1 + (1 : Int)))))] [(1002, some (.box 28 (.st [.nils, .nils]))), (1004, some (.box 28 (.st [(.sref 13040 6 0 p9.length), (.sref 1053 2 0 ((s15.2 ++ ([(api_Span.mk x24.ffrom x24.fto)] : List api_Span)).length))]))), (1053, some (we_api_Span_48_2 (s15.2 ++ ([(api_Span.mk x24.ffrom x24.fto)] : List api_Span)))), (13040, some (we_api_Range_68_6 p9))] hB) (mp [(13041, 1053)] _ _ hB))⟩
    ·replace h := ite_f hg23 h
     refine AWp.exit ?_
     refine seqQ_e ?_
     obtain rfl := Option.some.inj h
     exact ⟨(fun hc => by cases hc), rfl, (mp [] _ _ hB)⟩
   ·obtain ⟨rfl, hmat⟩ := hR
    refine blkQ_hit ?_
    refine seqQ_n ?_
    refine AWp.ghost hmat ?_
    refine sr (c (lb hN 28 _ _ tyS28 (At.here _) (q 4)) rfl (cg (OpJ.storeB tyS28 (SetAt.here _ _) (by rfl) (by rfl) (by simp) rfl (q 2) (q 56)) rfl (c (OpJ.assign (L rfl) (Opd.int .i64 (0))) rfl cn))) ?_
    refine gh [(2, _), (3, _)] [(1002, some _), (13040, some _), (13041, some _)] hB rfl rfl (by rfl) ?_
    refine AWp.ret ?_
    obtain rfl := Option.some.inj h
    exact ⟨.inl rfl, _, _, (Mat.trans (Mat.freezeP (n := 13040) (e := 68) (sz := 6) (es := p9.map e_api_Range) (Ts := []) (Bs := [(1002, some (.box 28 (.st [(qe_api_Range_6 p9), (.sref 13041 2 0 p22.length)])))]) (by rfl) TwT.nil (TwB.cons (x := (.st [(.sref 13040 6 0 p9.length), (.sref 13041 2 0 p22.length)])) (by rfl) (Tw.st (TwL.cons (FrzL.all (by first | rfl | (simp; done) | (simp; omega) | omega)) (TwL.cons (Tw.same _) TwL.nil))) TwB.nil)) (Mat.trans (Mat.freezeP (n := 13041) (e := 48) (sz := 2) (es := p22.map e_api_Span) (Ts := []) (Bs := [(1002, some (.box 28 (.st [(qe_api_Range_6 p9), (qe_api_Span_2 p22)])))]) (by rfl) TwT.nil (TwB.cons (x := (.st [(qe_api_Range_6 p9), (.sref 13041 2 0 p22.length)])) (by rfl) (Tw.st (TwL.cons (Tw.same _) (TwL.cons (FrzL.all (by first | rfl | (simp; done) | (simp; omega) | omega)) TwL.nil))) TwB.nil)) (Mat.trans (Mat.coeP (Ts := []) (Bs := [(1002, some (.box 28 (.d (.st [(.list 6 (p9.map e_api_Range)), (.list 2 (p22.map e_api_Span))]))))]) TwT.nil (TwB.cons (x := (.st [(qe_api_Range_6 p9), (qe_api_Span_2 p22)])) (by rfl) (Tw.leaf ⟨_, (Co.st (CoL.cons (Co.d _) (CoL.cons (Co.d _) CoL.nil))), rfl⟩) TwB.nil)) (mp [] [(2, (.ptr 1002 0 [])), (3, (i6 0))] [(1002, some (.box 28 (.d (.st [(.list 6 (p9.map e_api_Range)), (.list 2 (p22.map e_api_Span))]))))] hB)))), [(.d (.st [(.list 6 (p9.map e_api_Range)), (.list 2 (p22.map e_api_Span))])), (i6 0)], (Res.cell (c := (.d (.st [(.list 6 (p9.map e_api_Range)), (.list 2 (p22.map e_api_Span))]))) (by rfl) (by rfl) tyS28 (by rfl) (by rfl) (by rfl) (Res.tmp (by rfl) (by rfl) Res.nil)), rfl, by rfl, by rfl, by rfl⟩

noncomputable def resource_Of_L0 (a0 : (List api_Prefix)) (s1 : Int × (List api_Range)) : Option (((Unit) ⊕ ((List api_Range))) ⊕ (Int × (List api_Range))) :=
 (if (decide (s1.1 < (a0.length : Int))) = true then
 (idx a0 s1.1).bind fun x17 =>
 (prefix_Valid x17).bind fun r18 =>
 (if (!r18) = true then
 some (.inl (.inl ()))
 else
 (prefix_Last x17).bind fun r20 =>
 chk (decide ((s1.2 ++ ([(api_Range.mk x17.fAddr r20)] : List api_Range)).length ≤ LIM)) <|
 some (.inr ((w64 (s1.1 + (1 : Int))), (s1.2 ++ ([(api_Range.mk x17.fAddr r20)] : List api_Range)))))
 else
 some (.inl (.inr s1.2)))
noncomputable def resource_Of (a0 : (List api_Prefix)) (a1 : (List api_Span)) : Option (api_Resources × Int) :=
 (loop (resource_Of_L0 a0) ((0 : Int), ([] : List api_Range))).bind fun x22 => match x22 with
 | (.inl _) =>
  some ((api_Resources.mk ([] : List api_Range) ([] : List api_Span)), (1 : Int))
 | (.inr p15) =>
  (slices_ContainsFunc_4 a1).bind fun r24 =>
  (if r24 = true then
  some ((api_Resources.mk ([] : List api_Range) ([] : List api_Span)), (1 : Int))
  else
  (resource_of (api_Resources.mk p15 a1)).bind fun r26 =>
  (resource_order_normal r26.faddrs).bind fun r27 =>
  (resource_order_normal_2 r26.fasns).bind fun r28 =>
  (resource_set_resources (resource_set.mk r27 r28)).bind fun r29 =>
  some (r29.1, r29.2))
theorem resource_Of_ac (a0 : (List api_Prefix)) (a1 : (List api_Span)) (r : api_Resources × Int) (h : resource_Of a0 a1 = some r) : AC Tryd.prog 23 [(.d (.list 4 (a0.map e_api_Prefix))), (.d (.list 2 (a1.map e_api_Span)))] [(500, (.know (globF 0 [35, 37, 137]))), (501, (.know (globF 1 [70, 138, 139])))] (.tup [(.d (e_api_Resources r.1)), (.d (.int .i64 r.2))]) [(500, some (.know (globF 0 [35, 37, 137]))), (501, some (.know (globF 1 [70, 138, 139])))] := by
 refine AC.of_code2 Tryd.func23 rfl rfl (Nat.le_of_ble_eq_true (by rfl)) fun B hB hN => ?_
 have L {d : Nat} (h : Nat.blt d Tryd.f23.ntmps = true) : d < B.N := ltN hN h
 delta resource_Of at h
 refine sr (cg (OpJ.alloc hB tyZ28 (nm := 1004) (by decide) (L rfl)) rfl (c (OpJ.assign (L rfl) (Opd.int .i64 (0))) rfl cn)) ?_
 refine gh [(0, _), (1, _), (4, _)] [(500, some _), (501, some _), (1004, some _)] hB rfl rfl (by rfl) ?_
 refine sr (cg (OpJ.alloc hB tyZ28 (nm := 1006) (by decide) (L rfl)) rfl cn) ?_
 refine gh [(0, _), (1, _), (4, _), (6, _)] [(500, some _), (501, some _), (1004, some _), (1006, some _)] hB rfl rfl (by rfl) ?_
 refine AWp.seq ?_
 refine sr (c (mv hN (q 0)) rfl (c (OpJ.val (v' := (i6 (a0.length : Int))) (by simp) (OpJ.lenD Tryd.underlying36 (L rfl) (q 10))) rfl (c (mv hN (Opd.int .i64 (0))) rfl cn))) ?_
 refine gh [(1, _), (4, _), (6, _), (10, _), (11, _), (12, _)] [(500, some _), (501, some _), (1004, some _), (1006, some _)] hB rfl rfl (by rfl) ?_
 refine AWp.block ?_
 obtain ⟨x22, hx23, h⟩ := bindS h
 refine lg (resource_Of_L0 a0) (fun s1 : Int × (List api_Range) => ([(1, (qe_api_Span_2 a1)), (4, (.ptr 1004 0 [])), (6, (.ptr 1006 0 [])), (10, (qe_api_Prefix_4 a0)), (11, (i6 (a0.length : Int))), (12, (i6 s1.1))] : EL)) (fun s1 : Int × (List api_Range) => ([(500, some (.know (globF 0 [35, 37, 137]))), (501, some (.know (globF 1 [70, 138, 139]))), (1004, some (.box 28 (.st [.nils, .nils]))), (1006, some (.box 28 (.st [(.sref 13060 6 0 s1.2.length), .nils]))), (13060, some (we_api_Range_68_6 s1.2))] : OL)) (fun (x : (Unit) ⊕ ((List api_Range))) e E' O' => match x with | (.inl _p) => e = .ret ∧ Mat B E' O' ([(4, (.ptr 1004 0 [])), (5, (i6 1))] : EL) ([(500, some (.know (globF 0 [35, 37, 137]))), (501, some (.know (globF 1 [70, 138, 139]))), (1004, some (.box 28 (.st [.nils, .nils])))] : OL) | (.inr p15) => e = .exit 0 ∧ Mat B E' O' ([(1, (qe_api_Span_2 a1)), (4, (.ptr 1004 0 [])), (6, (.ptr 1006 0 []))] : EL) ([(500, some (.know (globF 0 [35, 37, 137]))), (501, some (.know (globF 1 [70, 138, 139]))), (1004, some (.box 28 (.st [.nils, .nils]))), (1006, some (.box 28 (.st [(.sref 13060 6 0 p15.length), .nils]))), (13060, some (we_api_Range_68_6 p15))] : OL)) hx23 (Mat.trans (Mat.beginP (n := 13060) (e := 68) (sz := 6) (Ts := []) (Bs := [(1006, some (.box 28 (.st [(.sref 13060 6 0 0), .nils])))]) hB (by decide) (by rfl) (by decide) TwT.nil (TwB.cons (x := (.st [.nils, .nils])) (by rfl) (Tw.st (TwL.cons (Tw.leaf ⟨rfl, rfl⟩) (TwL.cons (Tw.same _) TwL.nil))) TwB.nil)) (mp [] _ _ hB)) (fun s1 y h => ?_) (fun e E' O' hR => ?_)
 ·unfold resource_Of_L0 at h
  refine sr (c (OpJ.lss (L rfl) (q 12) (q 11)) rfl cn) ?_
  refine gh [(1, _), (4, _), (6, _), (10, _), (11, _), (12, _), (13, _)] [(500, some _), (501, some _), (1004, some _), (1006, some _), (13060, some _)] hB rfl rfl (by rfl) ?_
  refine AWp.seq ?_
  refine AWp.cond rfl (fun hg16 => ?_) (fun hg16 => ?_)
  ·replace h := ite_t hg16 h
   refine AWp.skip ?_
   refine seqQ_n ?_
   refine AWp.seq ?_
   refine AWp.block ?_
   obtain ⟨x17, hx17, h⟩ := bindS h
   refine sr (c (OpJ.indexD Tryd.underlying36 tyS34 (idx_some hx17).1 (get_map e_api_Prefix (idx_some hx17).2) (L rfl) (q 10) (q 12)) rfl (c (OpJ.loadD tyS34 (by rfl) (by rfl) (L rfl) (q 14)) rfl (cg (OpJ.alloc hB tyZ34 (nm := 1008) (by decide) (L rfl)) rfl (cg (OpJ.storeB tyS34 (SetAt.here _ _) (by rfl) (by rfl) (by simp) rfl (q 8) (q 15)) rfl cn)))) ?_
   refine gh [(1, _), (4, _), (6, _), (8, _), (10, _), (11, _), (12, _)] [(500, some _), (501, some _), (1004, some _), (1006, some _), (1008, some _), (13060, some _)] hB rfl rfl (by rfl) ?_
   refine AWp.seq ?_
   obtain ⟨r18, hr18, h⟩ := bindS h
   refine sr (c (lb hN 34 _ _ tyS34 (At.here _) (q 8)) rfl (cg (cf hB fnOk53 (prefix_Valid_ac x17 r18 hr18) (L rfl) (OpdL.cons (q 16) OpdL.nil)) rfl (c (OpJ.not (L rfl) (q 17)) rfl cn))) ?_
   refine gh [(1, _), (4, _), (6, _), (8, _), (10, _), (11, _), (12, _), (18, _)] [(500, some _), (501, some _), (1004, some _), (1006, some _), (1008, some _), (13060, some _)] hB rfl rfl (by rfl) ?_
   refine AWp.cond rfl (fun hg19 => ?_) (fun hg19 => ?_)
   ·replace h := ite_t hg19 h
    refine sr (c (OpJ.build (places := [(0, 1), (1, 1)]) ⟨Tryd.underlying28, fun w => by kernel_rfl⟩ tyZS28 Opds.nil (by kernel_rfl) (r := (.st [.nils, .nils])) (by rfl) (L rfl)) rfl (cg (OpJ.storeB tyS28 (SetAt.here _ _) (by rfl) (by rfl) (by simp) rfl (q 4) (q 19)) rfl (c (OpJ.assign (L rfl) (Opd.int .i64 (1))) rfl cn))) ?_
    refine gh [(4, _), (5, _)] [(500, some _), (501, some _), (1004, some _)] hB rfl rfl (by rfl) ?_
    refine AWp.ret ?_
    refine seqQ_r ?_
    refine blkQ_r ?_
    refine seqQ_r ?_
    obtain rfl := Option.some.inj h
    exact ⟨(fun hc => by cases hc), rfl, (mp [] _ _ hB)⟩
   ·replace h := ite_f hg19 h
    refine AWp.skip ?_
    refine seqQ_n ?_
    obtain ⟨r20, hr20, h⟩ := bindS h
    obtain ⟨hc21, h⟩ := chk_some h
    refine dr (c (ov (.ptr 1006 0 [0]) (fp hN Tryd.underlying28 0 tyS25 _ (q 6))) rfl (c (lb hN 28 _ (.sref 13060 6 0 s1.2.length) tyS25 (At.st1 (f := (.sref 13060 6 0 s1.2.length)) (by rfl) (by rfl) (At.here _) (by first | rfl | omega)) (q 20)) rfl (c (ov (.ptr 1008 0 [0]) (fp hN Tryd.underlying34 0 tyS32 _ (q 8))) rfl (c (lb hN 34 _ _ tyS32 (ad _) (q 22)) rfl (c (lb hN 34 _ _ tyS34 (At.here _) (q 8)) rfl (cg (cf hB fnOk38 (prefix_Last_ac x17 r20 hr20) (L rfl) (OpdL.cons (q 24) OpdL.nil)) rfl (c (OpJ.coe (v := (.st [(.d (e_api_Addr x17.fAddr)), (.d (e_api_Addr r20))])) (y := (.st [(e_api_Addr x17.fAddr), (e_api_Addr r20)])) (Co.st (CoL.cons (Co.d _) (CoL.cons (Co.d _) CoL.nil))) rfl (OpJ.build (places := [(0, 3), (3, 3)]) ⟨Tryd.underlying68, fun w => by kernel_rfl⟩ tyZS68 (Opds.cons (q 23) (Opds.cons (q 25) Opds.nil)) (by kernel_rfl) (r := (.st [(.d (e_api_Addr x17.fAddr)), (.d (e_api_Addr r20))])) (by rfl) (L rfl))) rfl (c (OpJ.buildSlice Tryd.underlying25 tyS68 tyZD68 (by rfl) (by decide) (by decide) (Opds.cons (q 26) Opds.nil) (by kernel_rfl) (es := ([(.st [(e_api_Addr x17.fAddr), (e_api_Addr r20)])] : List D)) (by rfl) (by rfl) (by kernel_rfl) (by simp) (L rfl)) rfl (cg (OpJ.append hB Tryd.underlying25 tyE68 (nm := 1028) (by decide) (es := s1.2.map e_api_Range) (ys := ([(api_Range.mk x17.fAddr r20)] : List api_Range).map e_api_Range) (es' := (s1.2 ++ ([(api_Range.mk x17.fAddr r20)] : List api_Range)).map e_api_Range) (len := (s1.2 ++ ([(api_Range.mk x17.fAddr r20)] : List api_Range)).length) (by simp) (by simp) (map_sz (f := e_api_Range) (fun _ => rfl)) (by rw [List.length_map]; exact lim_mulN hc21 (by decide)) (by rw [List.length_map]; exact lim_leN hc21) (L rfl) (by simp) (q 21) (q 27)) rfl (c (ov (.ptr 1006 0 [0]) (fp hN Tryd.underlying28 0 tyS25 _ (q 6))) rfl (cg (OpJ.storeB (c' := (.st [(.sref 1028 6 0 ((s1.2 ++ ([(api_Range.mk x17.fAddr r20)] : List api_Range)).length)), .nils])) tyS25 (SetAt.st1 (f := (.sref 13060 6 0 s1.2.length)) (by rfl) (by rfl) (SetAt.here _ _) (by rfl) (by rfl) (by first | rfl | omega)) (by rfl) (by rfl) (by simp) rfl (q 29) (q 28)) rfl cn))))))))))) (by kernel_rfl) (by kernel_rfl) ?_
    refine blkQ_n ?_
    refine seqQ_n ?_
    refine gh [(1, _), (4, _), (6, _), (10, _), (11, _), (12, _)] [(500, some _), (501, some _), (1004, some _), (1006, some _), (1028, some _)] hB rfl rfl (by rfl) ?_
    refine rg (c (add6 (L rfl) (q 12) (Opd.int .i64 (1))) rfl (c (mv hN (q 30)) rfl cn)) ?_
    obtain rfl := Option.some.inj h
    exact ⟨rfl, (Mat.trans (mp [] [(1, (qe_api_Span_2 a1)), (4, (.ptr 1004 0 [])), (6, (.ptr 1006 0 [])), (10, (qe_api_Prefix_4 a0)), (11, (i6 (a0.length : Int))), (12, (i6 (w64 (s1.1 + (1 : Int)))))] [(500, some (.know (globF 0 [35, 37, 137]))), (501, some (.know (globF 1 [70, 138, 139]))), (1004, some (.box 28 (.st [.nils, .nils]))), (1006, some (.box 28 (.st [(.sref 1028 6 0 ((s1.2 ++ ([(api_Range.mk x17.fAddr r20)] : List api_Range)).length)), .nils]))), (1028, some (we_api_Range_68_6 (s1.2 ++ ([(api_Range.mk x17.fAddr r20)] : List api_Range))))] hB) (mp [(13060, 1028)] _ _ hB))⟩
  ·replace h := ite_f hg16 h
   refine AWp.exit ?_
   refine seqQ_e ?_
   obtain rfl := Option.some.inj h
   exact ⟨(fun hc => by cases hc), rfl, (mp [] _ _ hB)⟩
 ·rcases x22 with _ | p15
  ·obtain ⟨rfl, hmat⟩ := hR
   refine blkQ_r ?_
   refine seqQ_r ?_
   obtain rfl := Option.some.inj h
   exact ⟨.inl rfl, _, _, (Mat.trans hmat (Mat.trans (Mat.coeP (Ts := []) (Bs := [(1004, some (.box 28 (.d (.st [(.list 6 (([] : List api_Range).map e_api_Range)), (.list 2 (([] : List api_Span).map e_api_Span))]))))]) TwT.nil (TwB.cons (x := (.st [.nils, .nils])) (by rfl) (Tw.leaf ⟨_, (Co.st (CoL.cons (Co.nils 6) (CoL.cons (Co.nils 2) CoL.nil))), rfl⟩) TwB.nil)) (mp [] [(4, (.ptr 1004 0 [])), (5, (i6 1))] [(500, some (.know (globF 0 [35, 37, 137]))), (501, some (.know (globF 1 [70, 138, 139]))), (1004, some (.box 28 (.d (.st [(.list 6 (([] : List api_Range).map e_api_Range)), (.list 2 (([] : List api_Span).map e_api_Span))]))))] hB))), [(.d (.st [(.list 6 (([] : List api_Range).map e_api_Range)), (.list 2 (([] : List api_Span).map e_api_Span))])), (i6 1)], (Res.cell (c := (.d (.st [(.list 6 (([] : List api_Range).map e_api_Range)), (.list 2 (([] : List api_Span).map e_api_Span))]))) (by rfl) (by rfl) tyS28 (by rfl) (by rfl) (by rfl) (Res.tmp (by rfl) (by rfl) Res.nil)), rfl, by rfl, by rfl, by rfl⟩
  ·obtain ⟨rfl, hmat⟩ := hR
   refine blkQ_hit ?_
   refine seqQ_n ?_
   refine AWp.ghost hmat ?_
   refine AWp.seq ?_
   obtain ⟨r24, hr24, h⟩ := bindS h
   refine sr (c (mv hN (q 1)) rfl (cg (cf hB fnOk43 (slices_ContainsFunc_4_ac a1 r24 hr24) (L rfl) (OpdL.cons (q 31) (OpdL.cons (Opd.func 54) OpdL.nil))) rfl cn)) ?_
   refine gh [(1, _), (4, _), (6, _), (32, _)] [(500, some _), (501, some _), (1004, some _), (1006, some _), (13060, some _)] hB rfl rfl (by rfl) ?_
   refine AWp.cond rfl (fun hg25 => ?_) (fun hg25 => ?_)
   ·replace h := ite_t hg25 h
    refine sr (c (OpJ.build (places := [(0, 1), (1, 1)]) ⟨Tryd.underlying28, fun w => by kernel_rfl⟩ tyZS28 Opds.nil (by kernel_rfl) (r := (.st [.nils, .nils])) (by rfl) (L rfl)) rfl (cg (OpJ.storeB tyS28 (SetAt.here _ _) (by rfl) (by rfl) (by simp) rfl (q 4) (q 33)) rfl (c (OpJ.assign (L rfl) (Opd.int .i64 (1))) rfl cn))) ?_
    refine gh [(4, _), (5, _)] [(500, some _), (501, some _), (1004, some _)] hB rfl rfl (by rfl) ?_
    refine AWp.ret ?_
    refine seqQ_r ?_
    obtain rfl := Option.some.inj h
    exact ⟨.inl rfl, _, _, (Mat.trans (Mat.coeP (Ts := []) (Bs := [(1004, some (.box 28 (.d (.st [(.list 6 (([] : List api_Range).map e_api_Range)), (.list 2 (([] : List api_Span).map e_api_Span))]))))]) TwT.nil (TwB.cons (x := (.st [.nils, .nils])) (by rfl) (Tw.leaf ⟨_, (Co.st (CoL.cons (Co.nils 6) (CoL.cons (Co.nils 2) CoL.nil))), rfl⟩) TwB.nil)) (mp [] [(4, (.ptr 1004 0 [])), (5, (i6 1))] [(500, some (.know (globF 0 [35, 37, 137]))), (501, some (.know (globF 1 [70, 138, 139]))), (1004, some (.box 28 (.d (.st [(.list 6 (([] : List api_Range).map e_api_Range)), (.list 2 (([] : List api_Span).map e_api_Span))]))))] hB)), [(.d (.st [(.list 6 (([] : List api_Range).map e_api_Range)), (.list 2 (([] : List api_Span).map e_api_Span))])), (i6 1)], (Res.cell (c := (.d (.st [(.list 6 (([] : List api_Range).map e_api_Range)), (.list 2 (([] : List api_Span).map e_api_Span))]))) (by rfl) (by rfl) tyS28 (by rfl) (by rfl) (by rfl) (Res.tmp (by rfl) (by rfl) Res.nil)), rfl, by rfl, by rfl, by rfl⟩
   ·replace h := ite_f hg25 h
    refine AWp.skip ?_
    refine seqQ_n ?_
    refine sr (c (mv hN (q 1)) rfl (c (ov (.ptr 1006 1 [1]) (fp hN Tryd.underlying28 1 tyS26 _ (q 6))) rfl (cg (OpJ.storeB (c' := (.st [(.sref 13060 6 0 p15.length), (qe_api_Span_2 a1)])) tyS26 (SetAt.st1 (f := .nils) (by rfl) (by rfl) (SetAt.here _ _) (by rfl) (by rfl) (by first | rfl | omega)) (by rfl) (by rfl) (by simp) rfl (q 35) (q 34)) rfl cn))) ?_
    refine gh [(4, _), (6, _)] [(500, some _), (501, some _), (1004, some _), (1006, some _), (13060, some _)] hB rfl rfl (by rfl) ?_
    refine AWp.seq ?_
    refine AWp.ghost (Mat.freezeP (n := 13060) (e := 68) (sz := 6) (es := p15.map e_api_Range) (Ts := []) (Bs := [(1006, some (.box 28 (.st [(qe_api_Range_6 p15), (qe_api_Span_2 a1)])))]) (by rfl) TwT.nil (TwB.cons (x := (.st [(.sref 13060 6 0 p15.length), (qe_api_Span_2 a1)])) (by rfl) (Tw.st (TwL.cons (FrzL.all (by first | rfl | (simp; done) | (simp; omega) | omega)) (TwL.cons (Tw.same _) TwL.nil))) TwB.nil)) ?_
    obtain ⟨r26, hr26, h⟩ := bindS h
    refine rg (c (lb hN 28 _ _ tyS28 (At.here _) (q 6)) rfl (cg (cf hB fnOk49 (resource_of_ac (api_Resources.mk p15 a1) r26 hr26) (L rfl) (OpdL.cons (Opd.tw (q 36) (Tw.leaf ⟨_, (Co.st (CoL.cons (Co.d _) (CoL.cons (Co.d _) CoL.nil))), rfl⟩)) OpdL.nil)) rfl (cg (OpJ.alloc hB tyZ85 (nm := 1009) (by decide) (L rfl)) rfl (cg (OpJ.storeB tyS85 (SetAt.here _ _) (by rfl) (by rfl) (by simp) rfl (q 9) (q 37)) rfl cn)))) ?_
    refine seqQ_n ?_
    refine gh [(4, _), (9, _)] [(500, some _), (501, some _), (1004, some _), (1009, some _)] hB rfl rfl (by rfl) ?_
    obtain ⟨r27, hr27, h⟩ := bindS h
    obtain ⟨r28, hr28, h⟩ := bindS h
    obtain ⟨r29, hr29, h⟩ := bindS h
    refine sd (cg (OpJ.loadG (nm := 500) [35, 37, 137] tyS88 rfl (L rfl)) rfl (c (ov (.ptr 1009 0 [0]) (fp hN Tryd.underlying85 0 tyS82 _ (q 9))) rfl (c (lb hN 85 _ _ tyS82 (ad _) (q 39)) rfl (cg (cf hB fnOk55 (resource_order_normal_ac r26.faddrs r27 hr27) (L rfl) (OpdL.cons (q 38) (OpdL.cons (q 40) OpdL.nil))) rfl (cg (OpJ.loadG (nm := 501) [70, 138, 139] tyS92 rfl (L rfl)) rfl (c (ov (.ptr 1009 1 [1]) (fp hN Tryd.underlying85 1 tyS83 _ (q 9))) rfl (c (lb hN 85 _ _ tyS83 (ad _) (q 43)) rfl (cg (cf hB fnOk56 (resource_order_normal_2_ac r26.fasns r28 hr28) (L rfl) (OpdL.cons (q 42) (OpdL.cons (q 44) OpdL.nil))) rfl (c (OpJ.coe (v := (.st [(qe_api_Addr__6 r27), (.d (.list 2 (r28.map e_resource_part_int_)))])) (y := (.st [(.list 6 (r27.map e_api_Addr_)), (.list 2 (r28.map e_resource_part_int_))])) (Co.st (CoL.cons (Co.d _) (CoL.cons (Co.d _) CoL.nil))) rfl (OpJ.build (places := [(0, 1), (1, 1)]) ⟨Tryd.underlying85, fun w => by kernel_rfl⟩ tyZS85 (Opds.cons (q 41) (Opds.cons (q 45) Opds.nil)) (by kernel_rfl) (r := (.st [(qe_api_Addr__6 r27), (.d (.list 2 (r28.map e_resource_part_int_)))])) (by rfl) (L rfl))) rfl (cg (cf hB fnOk57 (resource_set_resources_ac (resource_set.mk r27 r28) r29 hr29) (L rfl) (OpdL.cons (q 46) OpdL.nil)) rfl (c (OpJ.extract (by rfl) rfl (L rfl) (q 47)) rfl (c (OpJ.extract (by rfl) rfl (L rfl) (q 47)) rfl (cg (OpJ.storeB tyS28 (SetAt.here _ _) (by rfl) (by rfl) (by simp) rfl (q 4) (q 48)) rfl (c (OpJ.assign (L rfl) (q 49)) rfl cn)))))))))))))) (by kernel_rfl) (by kernel_rfl) ?_
    refine gh [(4, _), (5, _)] [(500, some _), (501, some _), (1004, some _)] hB rfl rfl (by rfl) ?_
    refine AWp.ret ?_
    obtain rfl := Option.some.inj h
    exact ⟨.inl rfl, _, _, (kp [(4, _), (5, _)] [(500, some _), (501, some _), (1004, some _)] hB rfl rfl (by rfl)), [(.d (e_api_Resources r29.1)), (i6 r29.2)], (Res.cell (c := (.d (e_api_Resources r29.1))) (by rfl) (by rfl) tyS28 (by rfl) (by rfl) (by rfl) (Res.tmp (by rfl) (by rfl) Res.nil)), rfl, by rfl, by rfl, by rfl⟩

noncomputable def exchangepointref21_Same_L0 (a0 : api_Resources) (a1 : api_Resources) (s2 : Int) : Option (((Unit) ⊕ (Unit)) ⊕ (Int)) :=
 (if (decide (s2 < (a0.fAddrs.length : Int))) = true then
 (idx a0.fAddrs s2).bind fun x14 =>
 (idx a1.fAddrs s2).bind fun x15 =>
 (if (!(((x15.fFrom.fV6 == x14.fFrom.fV6) && ((x15.fFrom.fHi == x14.fFrom.fHi) && ((x15.fFrom.fLo == x14.fFrom.fLo) && true))) && (((x15.fTo.fV6 == x14.fTo.fV6) && ((x15.fTo.fHi == x14.fTo.fHi) && ((x15.fTo.fLo == x14.fTo.fLo) && true))) && true))) = true then
 some (.inl (.inl ()))
 else
 some (.inr (w64 (s2 + (1 : Int)))))
 else
 some (.inl (.inr ())))
noncomputable def exchangepointref21_Same_L1 (a0 : api_Resources) (a1 : api_Resources) (s19 : Int) : Option (((Unit) ⊕ (Unit)) ⊕ (Int)) :=
 (if (decide (s19 < (a0.fASNs.length : Int))) = true then
 (idx a0.fASNs s19).bind fun x31 =>
 (idx a1.fASNs s19).bind fun x32 =>
 (if (!((x32.fFrom == x31.fFrom) && ((x32.fTo == x31.fTo) && true))) = true then
 some (.inl (.inl ()))
 else
 some (.inr (w64 (s19 + (1 : Int)))))
 else
 some (.inl (.inr ())))
noncomputable def exchangepointref21_Same (a0 : api_Resources) (a1 : api_Resources) : Option (Bool) :=
 (if (((a0.fAddrs.length : Int) != (a1.fAddrs.length : Int)) || ((a0.fASNs.length : Int) != (a1.fASNs.length : Int))) = true then
 some false
 else
 (loop (exchangepointref21_Same_L0 a0 a1) (0 : Int)).bind fun x17 => match x17 with
 | (.inl _) =>
  some false
 | (.inr _) =>
  (loop (exchangepointref21_Same_L1 a0 a1) (0 : Int)).bind fun x34 => match x34 with
  | (.inl _) =>
   some false
  | (.inr _) =>
   some true)
theorem exchangepointref21_Same_ac (a0 : api_Resources) (a1 : api_Resources) (r : Bool) (h : exchangepointref21_Same a0 a1 = some r) : AC Tryd.prog 25 [(.d (e_api_Resources a0)), (.d (e_api_Resources a1))] [] (.d (.bool r)) [] := by
 refine AC.of_code2 Tryd.func25 rfl rfl (Nat.le_of_ble_eq_true (by rfl)) fun B hB hN => ?_
 have L {d : Nat} (h : Nat.blt d Tryd.f25.ntmps = true) : d < B.N := ltN hN h
 delta exchangepointref21_Same at h
 refine sr (cg (OpJ.box hB (nm := 1002) (by decide) (by simp) rfl (L rfl) (q 0)) rfl (cg (OpJ.box hB (nm := 1003) (by decide) (by simp) rfl (L rfl) (q 1)) rfl (c (OpJ.assign (L rfl) (Opd.bool false)) rfl cn))) ?_
 refine gh [(2, _), (3, _)] [(1002, some _), (1003, some _)] hB rfl rfl (by rfl) ?_
 refine AWp.seq ?_
 refine sr (c (ov (.ptr 1002 0 [0]) (fp hN Tryd.underlying28 0 tyS25 _ (q 2))) rfl (c (lb hN 28 _ _ tyS25 (ad _) (q 9)) rfl (c (OpJ.val (v' := (i6 (a0.fAddrs.length : Int))) (by simp) (OpJ.lenD Tryd.underlying25 (L rfl) (q 10))) rfl (c (ov (.ptr 1003 0 [0]) (fp hN Tryd.underlying28 0 tyS25 _ (q 3))) rfl (c (lb hN 28 _ _ tyS25 (ad _) (q 12)) rfl (c (OpJ.val (v' := (i6 (a1.fAddrs.length : Int))) (by simp) (OpJ.lenD Tryd.underlying25 (L rfl) (q 13))) rfl (c (OpJ.neqI (L rfl) (q 11) (q 14)) rfl (c (mv hN (q 15)) rfl (c (oq hN 16 (ov (.ptr 1002 1 [1]) (fp hN Tryd.underlying28 1 tyS26 _ (q 2))) (OptL.keep (by rfl) OptL.nil) (GuardV.plain _)) rfl (c (oq hN 16 (lb hN 28 _ _ tyS26 (ad _) (q 17)) (OptL.opt OptL.nil) (GuardV.plain _)) rfl (c (oq hN 16 (OpJ.val (v' := (i6 (a0.fASNs.length : Int))) (by simp) (OpJ.lenD Tryd.underlying26 (L rfl) (q 18))) (OptL.opt OptL.nil) (GuardV.plain _)) rfl (c (oq hN 16 (ov (.ptr 1003 1 [1]) (fp hN Tryd.underlying28 1 tyS26 _ (q 3))) (OptL.keep (by rfl) OptL.nil) (GuardV.plain _)) rfl (c (oq hN 16 (lb hN 28 _ _ tyS26 (ad _) (q 20)) (OptL.opt OptL.nil) (GuardV.plain _)) rfl (c (oq hN 16 (OpJ.val (v' := (i6 (a1.fASNs.length : Int))) (by simp) (OpJ.lenD Tryd.underlying26 (L rfl) (q 21))) (OptL.opt OptL.nil) (GuardV.plain _)) rfl (c (oq hN 16 (OpJ.neqI (L rfl) (q 19) (q 22)) (OptL.opt (OptL.opt OptL.nil)) (GuardV.plain _)) rfl (c (OpJ.pickOr rfl (L rfl) (q 16) (q 23)) rfl cn)))))))))))))))) ?_
 refine gh [(2, _), (3, _), (24, _)] [(1002, some _), (1003, some _)] hB rfl rfl (by rfl) ?_
 refine AWp.cond rfl (fun hg1 => ?_) (fun hg1 => ?_)
 ·replace h := ite_t hg1 h
  refine sr (c (OpJ.assign (L rfl) (Opd.bool false)) rfl cn) ?_
  refine gh [(4, _)] [] hB rfl rfl (by rfl) ?_
  refine AWp.ret ?_
  refine seqQ_r ?_
  obtain rfl := Option.some.inj h
  exact ⟨.inl rfl, _, _, (kp [(4, _)] [] hB rfl rfl (by rfl)), [(bo false)], (Res.tmp (by rfl) (by rfl) Res.nil), rfl, by rfl, by rfl, by rfl⟩
 ·replace h := ite_f hg1 h
  refine AWp.skip ?_
  refine seqQ_n ?_
  refine AWp.seq ?_
  refine sr (c (ov (.ptr 1002 0 [0]) (fp hN Tryd.underlying28 0 tyS25 _ (q 2))) rfl (c (lb hN 28 _ _ tyS25 (ad _) (q 25)) rfl (c (OpJ.val (v' := (i6 (a0.fAddrs.length : Int))) (by simp) (OpJ.lenD Tryd.underlying25 (L rfl) (q 26))) rfl (c (mv hN (Opd.int .i64 (0))) rfl cn)))) ?_
  refine gh [(2, _), (3, _), (26, _), (27, _), (28, _)] [(1002, some _), (1003, some _)] hB rfl rfl (by rfl) ?_
  refine AWp.block ?_
  obtain ⟨x17, hx18, h⟩ := bindS h
  refine lg (exchangepointref21_Same_L0 a0 a1) (fun s2 : Int => ([(2, (.ptr 1002 0 [])), (3, (.ptr 1003 0 [])), (26, (qe_api_Range_6 a0.fAddrs)), (27, (i6 (a0.fAddrs.length : Int))), (28, (i6 s2))] : EL)) (fun s2 : Int => ([(1002, some (.box 28 (.d (e_api_Resources a0)))), (1003, some (.box 28 (.d (e_api_Resources a1))))] : OL)) (fun (x : (Unit) ⊕ (Unit)) e E' O' => match x with | (.inl _p) => e = .ret ∧ Mat B E' O' ([(4, (bo false))] : EL) ([] : OL) | (.inr _p) => e = .exit 0 ∧ Mat B E' O' ([(2, (.ptr 1002 0 [])), (3, (.ptr 1003 0 []))] : EL) ([(1002, some (.box 28 (.d (e_api_Resources a0)))), (1003, some (.box 28 (.d (e_api_Resources a1))))] : OL)) hx18 (mp [] _ _ hB) (fun s2 y h => ?_) (fun e E' O' hR => ?_)
  ·unfold exchangepointref21_Same_L0 at h
   refine sr (c (OpJ.lss (L rfl) (q 28) (q 27)) rfl cn) ?_
   refine gh [(2, _), (3, _), (26, _), (27, _), (28, _), (29, _)] [(1002, some _), (1003, some _)] hB rfl rfl (by rfl) ?_
   refine AWp.seq ?_
   refine AWp.cond rfl (fun hg13 => ?_) (fun hg13 => ?_)
   ·replace h := ite_t hg13 h
    refine AWp.skip ?_
    refine seqQ_n ?_
    refine AWp.seq ?_
    refine AWp.block ?_
    obtain ⟨x14, hx14, h⟩ := bindS h
    refine sr (c (mv hN (q 28)) rfl (c (OpJ.indexD Tryd.underlying25 tyS68 (idx_some hx14).1 (get_map e_api_Range (idx_some hx14).2) (L rfl) (q 26) (q 28)) rfl (c (OpJ.loadD tyS68 (by rfl) (by rfl) (L rfl) (q 31)) rfl (cg (OpJ.alloc hB tyZ68 (nm := 1006) (by decide) (L rfl)) rfl (c (OpJ.assign (L rfl) (q 30)) rfl (cg (OpJ.storeB tyS68 (SetAt.here _ _) (by rfl) (by rfl) (by simp) rfl (q 6) (q 32)) rfl cn)))))) ?_
    refine gh [(2, _), (3, _), (5, _), (6, _), (26, _), (27, _), (28, _)] [(1002, some _), (1003, some _), (1006, some _)] hB rfl rfl (by rfl) ?_
    obtain ⟨x15, hx15, h⟩ := bindS h
    refine sd (c (ov (.ptr 1003 0 [0]) (fp hN Tryd.underlying28 0 tyS25 _ (q 3))) rfl (c (lb hN 28 _ _ tyS25 (ad _) (q 33)) rfl (c (mv hN (q 5)) rfl (c (OpJ.indexD Tryd.underlying25 tyS68 (idx_some hx15).1 (get_map e_api_Range (idx_some hx15).2) (L rfl) (q 34) (q 35)) rfl (c (OpJ.loadD tyS68 (by rfl) (by rfl) (L rfl) (q 36)) rfl (c (lb hN 68 _ _ tyS68 (At.here _) (q 6)) rfl (c (OpJ.neqD (h := 3) (FitE.st Tryd.underlying68 rfl held68 (FitF.cons (x := (e_api_Addr x15.fFrom)) (y := (e_api_Addr x14.fFrom)) (by decide) rfl tyS32 ⟨rfl, rfl⟩ ⟨rfl, rfl⟩ (FitE.st Tryd.underlying32 rfl held32 (FitF.cons (x := (.bool x15.fFrom.fV6)) (y := (.bool x14.fFrom.fV6)) (by decide) rfl tyS4 ⟨rfl, rfl⟩ ⟨rfl, rfl⟩ (FitE.bool (h := 0) x15.fFrom.fV6 x14.fFrom.fV6 Tryd.underlying4) (FitF.cons (x := (.int .u64 x15.fFrom.fHi)) (y := (.int .u64 x14.fFrom.fHi)) (by decide) rfl tyS30 ⟨rfl, rfl⟩ ⟨rfl, rfl⟩ (FitE.int (h := 0) x15.fFrom.fHi x14.fFrom.fHi Tryd.underlying30) (FitF.cons (x := (.int .u64 x15.fFrom.fLo)) (y := (.int .u64 x14.fFrom.fLo)) (by decide) rfl tyS30 ⟨rfl, rfl⟩ ⟨rfl, rfl⟩ (FitE.int (h := 0) x15.fFrom.fLo x14.fFrom.fLo Tryd.underlying30) FitF.nil)))) (FitF.cons (x := (e_api_Addr x15.fTo)) (y := (e_api_Addr x14.fTo)) (by decide) rfl tyS32 ⟨rfl, rfl⟩ ⟨rfl, rfl⟩ (FitE.st Tryd.underlying32 rfl held32 (FitF.cons (x := (.bool x15.fTo.fV6)) (y := (.bool x14.fTo.fV6)) (by decide) rfl tyS4 ⟨rfl, rfl⟩ ⟨rfl, rfl⟩ (FitE.bool (h := 0) x15.fTo.fV6 x14.fTo.fV6 Tryd.underlying4) (FitF.cons (x := (.int .u64 x15.fTo.fHi)) (y := (.int .u64 x14.fTo.fHi)) (by decide) rfl tyS30 ⟨rfl, rfl⟩ ⟨rfl, rfl⟩ (FitE.int (h := 0) x15.fTo.fHi x14.fTo.fHi Tryd.underlying30) (FitF.cons (x := (.int .u64 x15.fTo.fLo)) (y := (.int .u64 x14.fTo.fLo)) (by decide) rfl tyS30 ⟨rfl, rfl⟩ ⟨rfl, rfl⟩ (FitE.int (h := 0) x15.fTo.fLo x14.fTo.fLo Tryd.underlying30) FitF.nil)))) FitF.nil))) eqg68 ⟨rfl, rfl⟩ (by rfl) (L rfl) (q 37) (q 38)) rfl cn))))))) (by kernel_rfl) (by kernel_rfl) ?_
    refine gh [(2, _), (3, _), (26, _), (27, _), (28, _), (39, _)] [(1002, some _), (1003, some _)] hB rfl rfl (by rfl) ?_
    refine AWp.cond rfl (fun hg16 => ?_) (fun hg16 => ?_)
    ·replace h := ite_t hg16 h
     refine sr (c (OpJ.assign (L rfl) (Opd.bool false)) rfl cn) ?_
     refine gh [(4, _)] [] hB rfl rfl (by rfl) ?_
     refine AWp.ret ?_
     refine blkQ_r ?_
     refine seqQ_r ?_
     obtain rfl := Option.some.inj h
     exact ⟨(fun hc => by cases hc), rfl, (mp [] _ _ hB)⟩
    ·replace h := ite_f hg16 h
     refine AWp.skip ?_
     refine blkQ_n ?_
     refine seqQ_n ?_
     refine rg (c (add6 (L rfl) (q 28) (Opd.int .i64 (1))) rfl (c (mv hN (q 40)) rfl cn)) ?_
     obtain rfl := Option.some.inj h
     exact ⟨rfl, (Mat.trans (mp [] [(2, (.ptr 1002 0 [])), (3, (.ptr 1003 0 [])), (26, (qe_api_Range_6 a0.fAddrs)), (27, (i6 (a0.fAddrs.length : Int))), (28, (i6 (w64 (s2 + (1 : Int)))))] [(1002, some (.box 28 (.d (e_api_Resources a0)))), (1003, some (.box 28 (.d (e_api_Resources a1))))] hB) (mp [] _ _ hB))⟩
   ·replace h := ite_f hg13 h
    refine AWp.exit ?_
    refine seqQ_e ?_
    obtain rfl := Option.some.inj h
    exact ⟨(fun hc => by cases hc), rfl, (mp [] _ _ hB)⟩
  ·rcases x17 with _ | _
   ·obtain ⟨rfl, hmat⟩ := hR
    refine blkQ_r ?_
    refine seqQ_r ?_
    obtain rfl := Option.some.inj h
    exact ⟨.inl rfl, _, _, (Mat.trans hmat (mp [] [(4, (bo false))] [] hB)), [(bo false)], (Res.tmp (by rfl) (by rfl) Res.nil), rfl, by rfl, by rfl, by rfl⟩
   ·obtain ⟨rfl, hmat⟩ := hR
    refine blkQ_hit ?_
    refine seqQ_n ?_
    refine AWp.ghost hmat ?_
    refine AWp.seq ?_
    refine sr (c (ov (.ptr 1002 1 [1]) (fp hN Tryd.underlying28 1 tyS26 _ (q 2))) rfl (c (lb hN 28 _ _ tyS26 (ad _) (q 41)) rfl (c (OpJ.val (v' := (i6 (a0.fASNs.length : Int))) (by simp) (OpJ.lenD Tryd.underlying26 (L rfl) (q 42))) rfl (c (mv hN (Opd.int .i64 (0))) rfl cn)))) ?_
    refine gh [(3, _), (42, _), (43, _), (44, _)] [(1003, some _)] hB rfl rfl (by rfl) ?_
    refine AWp.block ?_
    obtain ⟨x34, hx35, h⟩ := bindS h
    refine lg (exchangepointref21_Same_L1 a0 a1) (fun s19 : Int => ([(3, (.ptr 1003 0 [])), (42, (qe_api_Span_2 a0.fASNs)), (43, (i6 (a0.fASNs.length : Int))), (44, (i6 s19))] : EL)) (fun s19 : Int => ([(1003, some (.box 28 (.d (e_api_Resources a1))))] : OL)) (fun (x : (Unit) ⊕ (Unit)) e E' O' => match x with | (.inl _p) => e = .ret ∧ Mat B E' O' ([(4, (bo false))] : EL) ([] : OL) | (.inr _p) => e = .exit 2 ∧ Mat B E' O' ([] : EL) ([] : OL)) hx35 (mp [] _ _ hB) (fun s19 y h => ?_) (fun e E' O' hR => ?_)
    ·unfold exchangepointref21_Same_L1 at h
     refine sr (c (OpJ.lss (L rfl) (q 44) (q 43)) rfl cn) ?_
     refine gh [(3, _), (42, _), (43, _), (44, _), (45, _)] [(1003, some _)] hB rfl rfl (by rfl) ?_
     refine AWp.seq ?_
     refine AWp.cond rfl (fun hg30 => ?_) (fun hg30 => ?_)
     ·replace h := ite_t hg30 h
      refine AWp.skip ?_
      refine seqQ_n ?_
      refine AWp.seq ?_
      refine AWp.block ?_
      obtain ⟨x31, hx31, h⟩ := bindS h
      refine sr (c (mv hN (q 44)) rfl (c (OpJ.indexD Tryd.underlying26 tyS48 (idx_some hx31).1 (get_map e_api_Span (idx_some hx31).2) (L rfl) (q 42) (q 44)) rfl (c (OpJ.loadD tyS48 (by rfl) (by rfl) (L rfl) (q 47)) rfl (cg (OpJ.alloc hB tyZ48 (nm := 1008) (by decide) (L rfl)) rfl (c (OpJ.assign (L rfl) (q 46)) rfl (cg (OpJ.storeB tyS48 (SetAt.here _ _) (by rfl) (by rfl) (by simp) rfl (q 8) (q 48)) rfl cn)))))) ?_
      refine gh [(3, _), (7, _), (8, _), (42, _), (43, _), (44, _)] [(1003, some _), (1008, some _)] hB rfl rfl (by rfl) ?_
      obtain ⟨x32, hx32, h⟩ := bindS h
      refine sd (c (ov (.ptr 1003 1 [1]) (fp hN Tryd.underlying28 1 tyS26 _ (q 3))) rfl (c (lb hN 28 _ _ tyS26 (ad _) (q 49)) rfl (c (mv hN (q 7)) rfl (c (OpJ.indexD Tryd.underlying26 tyS48 (idx_some hx32).1 (get_map e_api_Span (idx_some hx32).2) (L rfl) (q 50) (q 51)) rfl (c (OpJ.loadD tyS48 (by rfl) (by rfl) (L rfl) (q 52)) rfl (c (lb hN 48 _ _ tyS48 (At.here _) (q 8)) rfl (c (OpJ.neqD (h := 2) (FitE.st Tryd.underlying48 rfl held48 (FitF.cons (x := (.int .i64 x32.fFrom)) (y := (.int .i64 x31.fFrom)) (by decide) rfl tyS3 ⟨rfl, rfl⟩ ⟨rfl, rfl⟩ (FitE.int (h := 0) x32.fFrom x31.fFrom Tryd.underlying3) (FitF.cons (x := (.int .i64 x32.fTo)) (y := (.int .i64 x31.fTo)) (by decide) rfl tyS3 ⟨rfl, rfl⟩ ⟨rfl, rfl⟩ (FitE.int (h := 0) x32.fTo x31.fTo Tryd.underlying3) FitF.nil))) eqg48 ⟨rfl, rfl⟩ (by rfl) (L rfl) (q 53) (q 54)) rfl cn))))))) (by kernel_rfl) (by kernel_rfl) ?_
      refine gh [(3, _), (42, _), (43, _), (44, _), (55, _)] [(1003, some _)] hB rfl rfl (by rfl) ?_
      refine AWp.cond rfl (fun hg33 => ?_) (fun hg33 => ?_)
      ·replace h := ite_t hg33 h
       refine sr (c (OpJ.assign (L rfl) (Opd.bool false)) rfl cn) ?_
       refine gh [(4, _)] [] hB rfl rfl (by rfl) ?_
       refine AWp.ret ?_
       refine blkQ_r ?_
       refine seqQ_r ?_
       obtain rfl := Option.some.inj h
       exact ⟨(fun hc => by cases hc), rfl, (mp [] _ _ hB)⟩
      ·replace h := ite_f hg33 h
       refine AWp.skip ?_
       refine blkQ_n ?_
       refine seqQ_n ?_
       refine rg (c (add6 (L rfl) (q 44) (Opd.int .i64 (1))) rfl (c (mv hN (q 56)) rfl cn)) ?_
       obtain rfl := Option.some.inj h
       exact ⟨rfl, (Mat.trans (mp [] [(3, (.ptr 1003 0 [])), (42, (qe_api_Span_2 a0.fASNs)), (43, (i6 (a0.fASNs.length : Int))), (44, (i6 (w64 (s19 + (1 : Int)))))] [(1003, some (.box 28 (.d (e_api_Resources a1))))] hB) (mp [] _ _ hB))⟩
     ·replace h := ite_f hg30 h
      refine AWp.exit ?_
      refine seqQ_e ?_
      obtain rfl := Option.some.inj h
      exact ⟨(fun hc => by cases hc), rfl, (mp [] _ _ hB)⟩
    ·rcases x34 with _ | _
     ·obtain ⟨rfl, hmat⟩ := hR
      refine blkQ_r ?_
      refine seqQ_r ?_
      obtain rfl := Option.some.inj h
      exact ⟨.inl rfl, _, _, (Mat.trans hmat (mp [] [(4, (bo false))] [] hB)), [(bo false)], (Res.tmp (by rfl) (by rfl) Res.nil), rfl, by rfl, by rfl, by rfl⟩
     ·obtain ⟨rfl, hmat⟩ := hR
      refine blkQ_hit ?_
      refine seqQ_n ?_
      refine AWp.ghost hmat ?_
      refine sr (c (OpJ.assign (L rfl) (Opd.bool true)) rfl cn) ?_
      refine gh [(4, _)] [] hB rfl rfl (by rfl) ?_
      refine AWp.ret ?_
      obtain rfl := Option.some.inj h
      exact ⟨.inl rfl, _, _, (kp [(4, _)] [] hB rfl rfl (by rfl)), [(bo true)], (Res.tmp (by rfl) (by rfl) Res.nil), rfl, by rfl, by rfl, by rfl⟩

noncomputable def exchangepointref02_Cmp (a0 : api_Prefix) (a1 : api_Prefix) : Option (Int) :=
 (exchangepointref01_Cmp a0.fAddr a1.fAddr).bind fun r1 =>
 (if (r1 != (0 : Int)) = true then
 some r1
 else
 (if (decide (a0.fLen < a1.fLen)) = true then
 some (-1 : Int)
 else
 (if (decide (a1.fLen < a0.fLen)) = true then
 some (1 : Int)
 else
 some (0 : Int))))
theorem exchangepointref02_Cmp_ac (a0 : api_Prefix) (a1 : api_Prefix) (r : Int) (h : exchangepointref02_Cmp a0 a1 = some r) : AC Tryd.prog 26 [(.d (e_api_Prefix a0)), (.d (e_api_Prefix a1))] [] (.d (.int .i64 r)) [] := by
 refine AC.of_code2 Tryd.func26 rfl rfl (Nat.le_of_ble_eq_true (by rfl)) fun B hB hN => ?_
 have L {d : Nat} (h : Nat.blt d Tryd.f26.ntmps = true) : d < B.N := ltN hN h
 delta exchangepointref02_Cmp at h
 refine sr (cg (OpJ.box hB (nm := 1002) (by decide) (by simp) rfl (L rfl) (q 0)) rfl (cg (OpJ.box hB (nm := 1003) (by decide) (by simp) rfl (L rfl) (q 1)) rfl (c (OpJ.assign (L rfl) (Opd.int .i64 (0))) rfl cn))) ?_
 refine gh [(2, _), (3, _)] [(1002, some _), (1003, some _)] hB rfl rfl (by rfl) ?_
 refine AWp.seq ?_
 obtain ⟨r1, hr1, h⟩ := bindS h
 refine sr (c (ov (.ptr 1002 0 [0]) (fp hN Tryd.underlying34 0 tyS32 _ (q 2))) rfl (c (lb hN 34 _ _ tyS32 (ad _) (q 6)) rfl (c (ov (.ptr 1003 0 [0]) (fp hN Tryd.underlying34 0 tyS32 _ (q 3))) rfl (c (lb hN 34 _ _ tyS32 (ad _) (q 8)) rfl (cg (cf hB fnOk41 (exchangepointref01_Cmp_ac a0.fAddr a1.fAddr r1 hr1) (L rfl) (OpdL.cons (q 7) (OpdL.cons (q 9) OpdL.nil))) rfl (c (OpJ.assign (L rfl) (q 10)) rfl cn)))))) ?_
 refine gh [(2, _), (3, _), (5, _)] [(1002, some _), (1003, some _)] hB rfl rfl (by rfl) ?_
 refine sr (c (mv hN (q 5)) rfl (c (OpJ.neqI (L rfl) (q 11) (Opd.int .i64 (0))) rfl cn)) ?_
 refine gh [(2, _), (3, _), (5, _), (12, _)] [(1002, some _), (1003, some _)] hB rfl rfl (by rfl) ?_
 refine AWp.cond rfl (fun hg2 => ?_) (fun hg2 => ?_)
 ·replace h := ite_t hg2 h
  refine sr (c (mv hN (q 5)) rfl (c (OpJ.assign (L rfl) (q 13)) rfl cn)) ?_
  refine gh [(4, _)] [] hB rfl rfl (by rfl) ?_
  refine AWp.ret ?_
  refine seqQ_r ?_
  obtain rfl := Option.some.inj h
  exact ⟨.inl rfl, _, _, (kp [(4, _)] [] hB rfl rfl (by rfl)), [(i6 r1)], (Res.tmp (by rfl) (by rfl) Res.nil), rfl, by rfl, by rfl, by rfl⟩
 ·replace h := ite_f hg2 h
  refine AWp.skip ?_
  refine seqQ_n ?_
  refine AWp.seq ?_
  refine AWp.block ?_
  refine sr (c (ov (.ptr 1002 3 [1]) (fp hN Tryd.underlying34 3 tyS3 _ (q 2))) rfl (c (lb hN 34 _ _ tyS3 (ad _) (q 15)) rfl (c (ov (.ptr 1003 3 [1]) (fp hN Tryd.underlying34 3 tyS3 _ (q 3))) rfl (c (lb hN 34 _ _ tyS3 (ad _) (q 17)) rfl (c (OpJ.lss (L rfl) (q 16) (q 18)) rfl (c (OpJ.assign (L rfl) (q 19)) rfl cn)))))) ?_
  refine gh [(2, _), (3, _), (14, _)] [(1002, some _), (1003, some _)] hB rfl rfl (by rfl) ?_
  refine AWp.cond rfl (fun hg3 => ?_) (fun hg3 => ?_)
  ·replace h := ite_t hg3 h
   refine sr (c (OpJ.assign (L rfl) (Opd.int .i64 (-1))) rfl cn) ?_
   refine gh [(4, _)] [] hB rfl rfl (by rfl) ?_
   refine AWp.ret ?_
   refine blkQ_r ?_
   refine seqQ_r ?_
   obtain rfl := Option.some.inj h
   exact ⟨.inl rfl, _, _, (kp [(4, _)] [] hB rfl rfl (by rfl)), [(i6 (-1 : Int))], (Res.tmp (by rfl) (by rfl) Res.nil), rfl, by rfl, by rfl, by rfl⟩
  ·replace h := ite_f hg3 h
   refine sr (c (ov (.ptr 1002 3 [1]) (fp hN Tryd.underlying34 3 tyS3 _ (q 2))) rfl (c (lb hN 34 _ _ tyS3 (ad _) (q 21)) rfl (c (ov (.ptr 1003 3 [1]) (fp hN Tryd.underlying34 3 tyS3 _ (q 3))) rfl (c (lb hN 34 _ _ tyS3 (ad _) (q 23)) rfl (c (OpJ.gtr (L rfl) (q 22) (q 24)) rfl (c (OpJ.assign (L rfl) (q 25)) rfl cn)))))) ?_
   refine gh [(20, _)] [] hB rfl rfl (by rfl) ?_
   refine AWp.cond rfl (fun hg4 => ?_) (fun hg4 => ?_)
   ·replace h := ite_t hg4 h
    refine sr (c (OpJ.assign (L rfl) (Opd.int .i64 (1))) rfl cn) ?_
    refine gh [(4, _)] [] hB rfl rfl (by rfl) ?_
    refine AWp.ret ?_
    refine blkQ_r ?_
    refine seqQ_r ?_
    obtain rfl := Option.some.inj h
    exact ⟨.inl rfl, _, _, (kp [(4, _)] [] hB rfl rfl (by rfl)), [(i6 1)], (Res.tmp (by rfl) (by rfl) Res.nil), rfl, by rfl, by rfl, by rfl⟩
   ·replace h := ite_f hg4 h
    refine AWp.skip ?_
    refine blkQ_n ?_
    refine seqQ_n ?_
    refine sr (c (OpJ.assign (L rfl) (Opd.int .i64 (0))) rfl cn) ?_
    refine gh [(4, _)] [] hB rfl rfl (by rfl) ?_
    refine AWp.ret ?_
    obtain rfl := Option.some.inj h
    exact ⟨.inl rfl, _, _, (kp [(4, _)] [] hB rfl rfl (by rfl)), [(i6 0)], (Res.tmp (by rfl) (by rfl) Res.nil), rfl, by rfl, by rfl, by rfl⟩

noncomputable def exchangepointref02_Contains (a0 : api_Prefix) (a1 : api_Addr) : Option (Bool) :=
 (exchangepointref02_Make a1 a0.fLen).bind fun r1 =>
 some ((r1.2 == (0 : Int)) && (((r1.1.fAddr.fV6 == a0.fAddr.fV6) && ((r1.1.fAddr.fHi == a0.fAddr.fHi) && ((r1.1.fAddr.fLo == a0.fAddr.fLo) && true))) && ((r1.1.fLen == a0.fLen) && true)))
theorem exchangepointref02_Contains_ac (a0 : api_Prefix) (a1 : api_Addr) (r : Bool) (h : exchangepointref02_Contains a0 a1 = some r) : AC Tryd.prog 62 [(.d (e_api_Prefix a0)), (.d (e_api_Addr a1))] [] (.d (.bool r)) [] := by
 refine AC.of_code2 Tryd.func62 rfl rfl (Nat.le_of_ble_eq_true (by rfl)) fun B hB hN => ?_
 delta exchangepointref02_Contains at h
 refine sr (cg (OpJ.box hB (nm := 1002) (by decide) (by simp) rfl (ltN hN rfl) (q 0)) rfl (cg (OpJ.box hB (nm := 1003) (by decide) (by simp) rfl (ltN hN rfl) (q 1)) rfl (c (OpJ.assign (ltN hN rfl) (Opd.bool false)) rfl cn))) ?_
 refine gh [(2, _), (3, _)] [(1002, some _), (1003, some _)] hB rfl rfl (by rfl) ?_
 obtain ⟨r1, hr1, h⟩ := bindS h
 refine sr (c (lb hN 32 _ _ tyS32 (At.here _) (q 3)) rfl (c (ov (.ptr 1002 3 [1]) (fp hN Tryd.underlying34 3 tyS3 _ (q 2))) rfl (c (lb hN 34 _ _ tyS3 (ad _) (q 9)) rfl (cg (OpJ.callFn hB fnOk33 (exchangepointref02_Make_ac a1 a0.fLen r1 hr1) [] (by kernel_rfl) (ltN hN rfl) (by kernel_rfl) (OpdL.cons (q 8) (OpdL.cons (q 10) OpdL.nil))) rfl (c (mv hN (q 11)) rfl (c (OpJ.extract (by rfl) rfl (ltN hN rfl) (q 7)) rfl (c (OpJ.extract (by rfl) rfl (ltN hN rfl) (q 7)) rfl (cg (OpJ.alloc hB tyZ34 (nm := 1005) (by decide) (ltN hN rfl)) rfl (cg (OpJ.storeB tyS34 (SetAt.here _ _) (by rfl) (by rfl) (by simp) rfl (q 5) (q 12)) rfl (c (OpJ.assign (ltN hN rfl) (q 13)) rfl cn)))))))))) ?_
 refine gh [(2, _), (5, _), (6, _)] [(1002, some _), (1005, some _)] hB rfl rfl (by rfl) ?_
 refine sr (c (mv hN (q 6)) rfl (c (OpJ.eqlI (ltN hN rfl) (q 14) (Opd.int .i64 (0))) rfl (c (mv hN (q 15)) rfl (c (oq hN 16 (lb hN 34 _ _ tyS34 (At.here _) (q 5)) (OptL.keep (by rfl) OptL.nil) (GuardV.plain _)) rfl (c (oq hN 16 (lb hN 34 _ _ tyS34 (At.here _) (q 2)) (OptL.keep (by rfl) OptL.nil) (GuardV.plain _)) rfl (c (oq hN 16 (OpJ.eqlD (h := 3) (FitE.st Tryd.underlying34 rfl held34 (FitF.cons (x := (e_api_Addr r1.1.fAddr)) (y := (e_api_Addr a0.fAddr)) (by decide) rfl tyS32 ⟨rfl, rfl⟩ ⟨rfl, rfl⟩ (FitE.st Tryd.underlying32 rfl held32 (FitF.cons (x := (.bool r1.1.fAddr.fV6)) (y := (.bool a0.fAddr.fV6)) (by decide) rfl tyS4 ⟨rfl, rfl⟩ ⟨rfl, rfl⟩ (FitE.bool (h := 0) r1.1.fAddr.fV6 a0.fAddr.fV6 Tryd.underlying4) (FitF.cons (x := (.int .u64 r1.1.fAddr.fHi)) (y := (.int .u64 a0.fAddr.fHi)) (by decide) rfl tyS30 ⟨rfl, rfl⟩ ⟨rfl, rfl⟩ (FitE.int (h := 0) r1.1.fAddr.fHi a0.fAddr.fHi Tryd.underlying30) (FitF.cons (x := (.int .u64 r1.1.fAddr.fLo)) (y := (.int .u64 a0.fAddr.fLo)) (by decide) rfl tyS30 ⟨rfl, rfl⟩ ⟨rfl, rfl⟩ (FitE.int (h := 0) r1.1.fAddr.fLo a0.fAddr.fLo Tryd.underlying30) FitF.nil)))) (FitF.cons (x := (.int .i64 r1.1.fLen)) (y := (.int .i64 a0.fLen)) (by decide) rfl tyS3 ⟨rfl, rfl⟩ ⟨rfl, rfl⟩ (FitE.int (h := 1) r1.1.fLen a0.fLen Tryd.underlying3) FitF.nil))) eqg34 ⟨rfl, rfl⟩ (by rfl) (ltN hN rfl) (q 17) (q 18)) (OptL.opt (OptL.opt OptL.nil)) (GuardV.plain _)) rfl (c (OpJ.pickAnd rfl (ltN hN rfl) (q 16) (q 19)) rfl (c (OpJ.assign (ltN hN rfl) (q 20)) rfl cn)))))))) ?_
 refine gh [(4, _)] [] hB rfl rfl (by rfl) ?_
 refine AWp.ret ?_
 obtain rfl := Option.some.inj h
 exact ⟨.inl rfl, _, _, (kp [(4, _)] [] hB rfl rfl (by rfl)), [(bo ((r1.2 == (0 : Int)) && (((r1.1.fAddr.fV6 == a0.fAddr.fV6) && ((r1.1.fAddr.fHi == a0.fAddr.fHi) && ((r1.1.fAddr.fLo == a0.fAddr.fLo) && true))) && ((r1.1.fLen == a0.fLen) && true))))], (Res.tmp (by rfl) (by rfl) Res.nil), rfl, by rfl, by rfl, by rfl⟩

noncomputable def exchangepointref02_Covers (a0 : api_Prefix) (a1 : api_Prefix) : Option (Bool) :=
 jn (fun m3 : Bool =>
 some m3) (fun j4 =>
 (if (decide (a0.fLen ≤ a1.fLen)) = true then
 (exchangepointref02_Contains a0 a1.fAddr).bind fun r6 =>
 j4 r6
 else
 j4 false))
theorem exchangepointref02_Covers_ac (a0 : api_Prefix) (a1 : api_Prefix) (r : Bool) (h : exchangepointref02_Covers a0 a1 = some r) : AC Tryd.prog 27 [(.d (e_api_Prefix a0)), (.d (e_api_Prefix a1))] [] (.d (.bool r)) [] := by
 refine AC.of_code2 Tryd.func27 rfl rfl (Nat.le_of_ble_eq_true (by rfl)) fun B hB hN => ?_
 have L {d : Nat} (h : Nat.blt d Tryd.f27.ntmps = true) : d < B.N := ltN hN h
 delta exchangepointref02_Covers at h
 refine sr (cg (OpJ.box hB (nm := 1002) (by decide) (by simp) rfl (L rfl) (q 0)) rfl (cg (OpJ.box hB (nm := 1003) (by decide) (by simp) rfl (L rfl) (q 1)) rfl (c (OpJ.assign (L rfl) (Opd.bool false)) rfl cn))) ?_
 refine gh [(2, _), (3, _)] [(1002, some _), (1003, some _)] hB rfl rfl (by rfl) ?_
 refine AWp.seq ?_
 refine AWp.cut h (fun m3 : Bool => ([(4, (bo m3))] : EL)) (fun m3 : Bool => ([] : OL)) (fun m3 h E' O' hmat => ?_) (fun j4 hjj4 h => ?_)
 ·refine seqQ_n ?_
  refine AWp.ghost hmat ?_
  refine AWp.ret ?_
  obtain rfl := Option.some.inj h
  exact ⟨.inl rfl, _, _, (kp [(4, _)] [] hB rfl rfl (by rfl)), [(bo m3)], (Res.tmp (by rfl) (by rfl) Res.nil), rfl, by rfl, by rfl, by rfl⟩
 ·rcases Bool.eq_false_or_eq_true (decide (a0.fLen ≤ a1.fLen)) with hg5 | hg5
  ·replace h := ite_t hg5 h
   obtain ⟨r6, hr6, h⟩ := bindS h
   refine rg (c (ov (.ptr 1003 3 [1]) (fp hN Tryd.underlying34 3 tyS3 _ (q 3))) rfl (c (lb hN 34 _ _ tyS3 (ad _) (q 5)) rfl (c (ov (.ptr 1002 3 [1]) (fp hN Tryd.underlying34 3 tyS3 _ (q 2))) rfl (c (lb hN 34 _ _ tyS3 (ad _) (q 7)) rfl (c (OpJ.geq (L rfl) (q 6) (q 8)) rfl (c (OpJ.val (v' := .d (.bool true)) (by rw [hg5] <;> rfl) (mv hN (q 9))) rfl (c (gd 10 (lb hN 34 _ _ tyS34 (At.here _) (q 2))) rfl (c (gd 10 (ov (.ptr 1003 0 [0]) (fp hN Tryd.underlying34 0 tyS32 _ (q 3)))) rfl (c (gd 10 (lb hN 34 _ _ tyS32 (ad _) (q 12))) rfl (cg (gd 10 (cf hB fnOk62 (exchangepointref02_Contains_ac a0 a1.fAddr r6 hr6) (L rfl) (OpdL.cons (q 11) (OpdL.cons (q 13) OpdL.nil)))) rfl (c (OpJ.pickT (L rfl) (q 10) (q 14)) rfl (c (OpJ.assign (L rfl) (q 15)) rfl cn)))))))))))) ?_
   exact hjj4 _ h _ _ (Mat.trans (mp [] [(4, (bo r6))] [] hB) (mp [] _ _ hB))
  ·replace h := ite_f hg5 h
   refine rg (c (ov (.ptr 1003 3 [1]) (fp hN Tryd.underlying34 3 tyS3 _ (q 3))) rfl (c (lb hN 34 _ _ tyS3 (ad _) (q 5)) rfl (c (ov (.ptr 1002 3 [1]) (fp hN Tryd.underlying34 3 tyS3 _ (q 2))) rfl (c (lb hN 34 _ _ tyS3 (ad _) (q 7)) rfl (c (OpJ.geq (L rfl) (q 6) (q 8)) rfl (c (OpJ.val (v' := .d (.bool false)) (by rw [hg5] <;> rfl) (mv hN (q 9))) rfl (cg (sU 10 (L rfl)) rfl (cg (sU 10 (L rfl)) rfl (cg (sU 10 (L rfl)) rfl (cg (sU 10 (L rfl)) rfl (c (OpJ.pickF (L rfl) (q 10) (Opd.bool false)) rfl (c (OpJ.assign (L rfl) (q 15)) rfl cn)))))))))))) ?_
   exact hjj4 _ h _ _ (Mat.trans (mp [] [(4, (bo false))] [] hB) (mp [] _ _ hB))

noncomputable def exchangepointref02_Bit (a0 : api_Addr) (a1 : Int) : Option (Int) :=
 (exchangepointref01_Bytes a0).bind fun r1 =>
 (if ((decide (a1 < (0 : Int))) || (decide ((w64 ((8 : Int) * (r1.length : Int))) ≤ a1))) = true then
 some (0 : Int)
 else
 (idx r1 (w64 (Int.tdiv a1 (8 : Int)))).bind fun x3 =>
 some (bitI .and .i64 (w64 (shrI .u8 x3 (IntKind.u64.wrap ((7 : Int) - (IntKind.u64.wrap (Int.tmod a1 (8 : Int))))))) (1 : Int)))
theorem exchangepointref02_Bit_ac (a0 : api_Addr) (a1 : Int) (r : Int) (h : exchangepointref02_Bit a0 a1 = some r) : AC Tryd.prog 63 [(.d (e_api_Addr a0)), (.d (.int .i64 a1))] [] (.d (.int .i64 r)) [] := by
 refine AC.of_code2 Tryd.func63 rfl rfl (Nat.le_of_ble_eq_true (by rfl)) fun B hB hN => ?_
 have L {d : Nat} (h : Nat.blt d Tryd.f63.ntmps = true) : d < B.N := ltN hN h
 delta exchangepointref02_Bit at h
 refine sr (cg (OpJ.box hB (nm := 1002) (by decide) (by simp) rfl (L rfl) (q 0)) rfl (c (OpJ.assign (L rfl) (Opd.int .i64 (0))) rfl cn)) ?_
 refine gh [(1, _), (2, _)] [(1002, some _)] hB rfl rfl (by rfl) ?_
 obtain ⟨r1, hr1, h⟩ := bindS h
 refine sr (c (lb hN 32 _ _ tyS32 (At.here _) (q 2)) rfl (cg (cf hB fnOk66 (exchangepointref01_Bytes_ac a0 r1 hr1) (L rfl) (OpdL.cons (q 6) OpdL.nil)) rfl (c (OpJ.assign (L rfl) (q 7)) rfl cn))) ?_
 refine gh [(1, _), (5, _)] [] hB rfl rfl (by rfl) ?_
 refine AWp.seq ?_
 refine sr (c (mv hN (q 1)) rfl (c (OpJ.lss (L rfl) (q 8) (Opd.int .i64 (0))) rfl (c (mv hN (q 9)) rfl (c (oq hN 10 (mv hN (q 1)) (OptL.keep (by rfl) OptL.nil) (GuardV.plain _)) rfl (c (oq hN 10 (mv hN (q 5)) (OptL.keep (by rfl) OptL.nil) (GuardV.plain _)) rfl (c (oq hN 10 (OpJ.val (v' := (i6 (r1.length : Int))) (by simp) (OpJ.lenD Tryd.underlying107 (L rfl) (q 12))) (OptL.opt OptL.nil) (GuardV.plain _)) rfl (c (oq hN 10 (mul6 (L rfl) (Opd.int .i64 (8)) (q 13)) (OptL.opt OptL.nil) (GuardV.plain _)) rfl (c (oq hN 10 (OpJ.geq (L rfl) (q 11) (q 14)) (OptL.opt (OptL.opt OptL.nil)) (GuardV.plain _)) rfl (c (OpJ.pickOr rfl (L rfl) (q 10) (q 15)) rfl cn))))))))) ?_
 refine gh [(1, _), (5, _), (16, _)] [] hB rfl rfl (by rfl) ?_
 refine AWp.cond rfl (fun hg2 => ?_) (fun hg2 => ?_)
 ·replace h := ite_t hg2 h
  refine sr (c (OpJ.assign (L rfl) (Opd.int .i64 (0))) rfl cn) ?_
  refine gh [(4, _)] [] hB rfl rfl (by rfl) ?_
  refine AWp.ret ?_
  refine seqQ_r ?_
  obtain rfl := Option.some.inj h
  exact ⟨.inl rfl, _, _, (kp [(4, _)] [] hB rfl rfl (by rfl)), [(i6 0)], (Res.tmp (by rfl) (by rfl) Res.nil), rfl, by rfl, by rfl, by rfl⟩
 ·replace h := ite_f hg2 h
  refine AWp.skip ?_
  refine seqQ_n ?_
  obtain ⟨x3, hx3, h⟩ := bindS h
  refine sr (c (mv hN (q 5)) rfl (c (mv hN (q 1)) rfl (c (quo6 (L rfl) (q 18) (Opd.int .i64 (8)) (by decide)) rfl (c (OpJ.indexD Tryd.underlying107 tyS5 (idx_some hx3).1 (get_map (eI .u8) (idx_some hx3).2) (L rfl) (q 17) (q 19)) rfl (c (OpJ.loadD tyS5 (by rfl) (by rfl) (L rfl) (q 20)) rfl (c (mv hN (q 1)) rfl (c (OpJ.rem (L rfl) (q 22) (Opd.int .i64 (8)) (by decide)) rfl (c (OpJ.conv Tryd.underlying3 Tryd.underlying104 (L rfl) (q 23)) rfl (c (OpJ.sub (L rfl) (Opd.int .u64 (7)) (q 24)) rfl (c (OpJ.shr (L rfl) (q 21) (q 25) (wrap_nonneg rfl _)) rfl (c (conv6 Tryd.underlying5 Tryd.underlying3 (L rfl) (q 26)) rfl (c (OpJ.bits (.inl rfl) (L rfl) (q 27) (Opd.int .i64 (1))) rfl (c (OpJ.assign (L rfl) (q 28)) rfl cn))))))))))))) ?_
  refine gh [(4, _)] [] hB rfl rfl (by rfl) ?_
  refine AWp.ret ?_
  obtain rfl := Option.some.inj h
  exact ⟨.inl rfl, _, _, (kp [(4, _)] [] hB rfl rfl (by rfl)), [(i6 (bitI .and .i64 (w64 (shrI .u8 x3 (IntKind.u64.wrap ((7 : Int) - (IntKind.u64.wrap (Int.tmod a1 (8 : Int))))))) (1 : Int)))], (Res.tmp (by rfl) (by rfl) Res.nil), rfl, by rfl, by rfl, by rfl⟩

noncomputable def exchangepointref02_Common_L0 (a0 : api_Prefix) (a1 : api_Prefix) (s9 : Int) : Option (((Int)) ⊕ (Int)) :=
 jn (fun m32 : Bool =>
 (if m32 = true then
 some (.inr (w64 (s9 + (1 : Int))))
 else
 some (.inl s9))) (fun j33 =>
 (if ((decide (s9 < a0.fLen)) && (decide (s9 < a1.fLen))) = true then
 (exchangepointref02_Bit a0.fAddr s9).bind fun r36 =>
 (exchangepointref02_Bit a1.fAddr s9).bind fun r37 =>
 j33 (r36 == r37)
 else
 j33 false))
noncomputable def exchangepointref02_Common (a0 : api_Prefix) (a1 : api_Prefix) : Option (api_Prefix × Int) :=
 jn (fun m5 : Bool =>
 (if m5 = true then
 some ((api_Prefix.mk (api_Addr.mk false (0 : Int) (0 : Int)) (0 : Int)), (1 : Int))
 else
 (if (a0.fAddr.fV6 != a1.fAddr.fV6) = true then
 some ((api_Prefix.mk (api_Addr.mk false (0 : Int) (0 : Int)) (0 : Int)), (9 : Int))
 else
 (loop (exchangepointref02_Common_L0 a0 a1) (0 : Int)).bind fun p28 =>
 (exchangepointref02_Make a0.fAddr p28).bind fun r40 =>
 some (r40.1, r40.2)))) (fun j6 =>
 (exchangepointref02_Valid a0).bind fun r41 =>
 (if (!r41) = true then
 j6 true
 else
 (exchangepointref02_Valid a1).bind fun r43 =>
 j6 (!r43)))
theorem exchangepointref02_Common_ac (a0 : api_Prefix) (a1 : api_Prefix) (r : api_Prefix × Int) (h : exchangepointref02_Common a0 a1 = some r) : AC Tryd.prog 28 [(.d (e_api_Prefix a0)), (.d (e_api_Prefix a1))] [] (.tup [(.d (e_api_Prefix r.1)), (.d (.int .i64 r.2))]) [] := by
 refine AC.of_code2 Tryd.func28 rfl rfl (Nat.le_of_ble_eq_true (by rfl)) fun B hB hN => ?_
 have L {d : Nat} (h : Nat.blt d Tryd.f28.ntmps = true) : d < B.N := ltN hN h
 delta exchangepointref02_Common at h
 refine sr (cg (OpJ.box hB (nm := 1002) (by decide) (by simp) rfl (L rfl) (q 0)) rfl (cg (OpJ.box hB (nm := 1003) (by decide) (by simp) rfl (L rfl) (q 1)) rfl (cg (OpJ.alloc hB tyZ34 (nm := 1004) (by decide) (L rfl)) rfl (c (OpJ.assign (L rfl) (Opd.int .i64 (0))) rfl cn)))) ?_
 refine gh [(2, _), (3, _), (4, _)] [(1002, some _), (1003, some _), (1004, some _)] hB rfl rfl (by rfl) ?_
 refine AWp.seq ?_
 refine AWp.block ?_
 refine AWp.seq ?_
 refine AWp.cut h (fun m5 : Bool => ([(2, (.ptr 1002 0 [])), (3, (.ptr 1003 0 [])), (4, (.ptr 1004 0 [])), (7, (bo m5))] : EL)) (fun m5 : Bool => ([(1002, some (.box 34 (.d (e_api_Prefix a0)))), (1003, some (.box 34 (.d (e_api_Prefix a1)))), (1004, some (.box 34 (.d (.st [(.st [(.bool false), (.int .u64 0), (.int .u64 0)]), (.int .i64 0)]))))] : OL)) (fun m5 h E' O' hmat => ?_) (fun j6 hjj6 h => ?_)
 ·refine seqQ_n ?_
  refine AWp.ghost hmat ?_
  refine AWp.cond rfl (fun hg7 => ?_) (fun hg7 => ?_)
  ·replace h := ite_t hg7 h
   refine sr (c (OpJ.coe (v := (.st [(.d (.st [(.bool false), (.int .u64 0), (.int .u64 0)])), (i6 0)])) (y := (.st [(.st [(.bool false), (.int .u64 0), (.int .u64 0)]), (.int .i64 0)])) (Co.st (CoL.cons (Co.d _) (CoL.cons (Co.d _) CoL.nil))) rfl (OpJ.build (places := [(0, 3), (3, 1)]) ⟨Tryd.underlying34, fun w => by kernel_rfl⟩ tyZS34 Opds.nil (by kernel_rfl) (r := (.st [(.d (.st [(.bool false), (.int .u64 0), (.int .u64 0)])), (i6 0)])) (by rfl) (L rfl))) rfl (cg (OpJ.storeB tyS34 (SetAt.here _ _) (by rfl) (by rfl) (by simp) rfl (q 4) (q 16)) rfl (c (OpJ.assign (L rfl) (Opd.int .i64 (1))) rfl cn))) ?_
   refine gh [(4, _), (5, _)] [(1004, some _)] hB rfl rfl (by rfl) ?_
   refine AWp.ret ?_
   refine blkQ_r ?_
   refine seqQ_r ?_
   obtain rfl := Option.some.inj h
   exact ⟨.inl rfl, _, _, (kp [(4, _), (5, _)] [(1004, some _)] hB rfl rfl (by rfl)), [(.d (.st [(.st [(.bool false), (.int .u64 0), (.int .u64 0)]), (.int .i64 0)])), (i6 1)], (Res.cell (c := (.d (.st [(.st [(.bool false), (.int .u64 0), (.int .u64 0)]), (.int .i64 0)]))) (by rfl) (by rfl) tyS34 (by rfl) (by rfl) (by rfl) (Res.tmp (by rfl) (by rfl) Res.nil)), rfl, by rfl, by rfl, by rfl⟩
  ·replace h := ite_f hg7 h
   refine sr (c (ov (.ptr 1002 0 [0]) (fp hN Tryd.underlying34 0 tyS32 _ (q 2))) rfl (c (ov (.ptr 1002 0 [0, 0]) (fp hN Tryd.underlying32 0 tyS4 _ (q 18))) rfl (c (lb hN 34 _ _ tyS4 (At.dst1 (by rfl) (by rfl) (ad _) (by first | rfl | omega)) (q 19)) rfl (c (ov (.ptr 1003 0 [0]) (fp hN Tryd.underlying34 0 tyS32 _ (q 3))) rfl (c (ov (.ptr 1003 0 [0, 0]) (fp hN Tryd.underlying32 0 tyS4 _ (q 21))) rfl (c (lb hN 34 _ _ tyS4 (At.dst1 (by rfl) (by rfl) (ad _) (by first | rfl | omega)) (q 22)) rfl (c (OpJ.neqB Tryd.underlying4 (L rfl) (q 20) (q 23)) rfl (c (OpJ.assign (L rfl) (q 24)) rfl cn)))))))) ?_
   refine gh [(2, _), (3, _), (4, _), (17, _)] [(1002, some _), (1003, some _), (1004, some _)] hB rfl rfl (by rfl) ?_
   refine AWp.cond rfl (fun hg8 => ?_) (fun hg8 => ?_)
   ·replace h := ite_t hg8 h
    refine sr (c (OpJ.coe (v := (.st [(.d (.st [(.bool false), (.int .u64 0), (.int .u64 0)])), (i6 0)])) (y := (.st [(.st [(.bool false), (.int .u64 0), (.int .u64 0)]), (.int .i64 0)])) (Co.st (CoL.cons (Co.d _) (CoL.cons (Co.d _) CoL.nil))) rfl (OpJ.build (places := [(0, 3), (3, 1)]) ⟨Tryd.underlying34, fun w => by kernel_rfl⟩ tyZS34 Opds.nil (by kernel_rfl) (r := (.st [(.d (.st [(.bool false), (.int .u64 0), (.int .u64 0)])), (i6 0)])) (by rfl) (L rfl))) rfl (cg (OpJ.storeB tyS34 (SetAt.here _ _) (by rfl) (by rfl) (by simp) rfl (q 4) (q 25)) rfl (c (OpJ.assign (L rfl) (Opd.int .i64 (9))) rfl cn))) ?_
    refine gh [(4, _), (5, _)] [(1004, some _)] hB rfl rfl (by rfl) ?_
    refine AWp.ret ?_
    refine blkQ_r ?_
    refine seqQ_r ?_
    obtain rfl := Option.some.inj h
    exact ⟨.inl rfl, _, _, (kp [(4, _), (5, _)] [(1004, some _)] hB rfl rfl (by rfl)), [(.d (.st [(.st [(.bool false), (.int .u64 0), (.int .u64 0)]), (.int .i64 0)])), (i6 (9 : Int))], (Res.cell (c := (.d (.st [(.st [(.bool false), (.int .u64 0), (.int .u64 0)]), (.int .i64 0)]))) (by rfl) (by rfl) tyS34 (by rfl) (by rfl) (by rfl) (Res.tmp (by rfl) (by rfl) Res.nil)), rfl, by rfl, by rfl, by rfl⟩
   ·replace h := ite_f hg8 h
    refine AWp.skip ?_
    refine blkQ_n ?_
    refine seqQ_n ?_
    refine sr (c (OpJ.assign (L rfl) (Opd.int .i64 (0))) rfl cn) ?_
    refine gh [(2, _), (3, _), (4, _), (6, _)] [(1002, some _), (1003, some _), (1004, some _)] hB rfl rfl (by rfl) ?_
    refine AWp.seq ?_
    refine AWp.block ?_
    obtain ⟨p28, hx39, h⟩ := bindS h
    refine lg (exchangepointref02_Common_L0 a0 a1) (fun s9 : Int => ([(2, (.ptr 1002 0 [])), (3, (.ptr 1003 0 [])), (4, (.ptr 1004 0 [])), (6, (i6 s9))] : EL)) (fun s9 : Int => ([(1002, some (.box 34 (.d (e_api_Prefix a0)))), (1003, some (.box 34 (.d (e_api_Prefix a1)))), (1004, some (.box 34 (.d (.st [(.st [(.bool false), (.int .u64 0), (.int .u64 0)]), (.int .i64 0)]))))] : OL)) (fun (p28 : (Int)) e E' O' => e = .exit 1 ∧ Mat B E' O' ([(2, (.ptr 1002 0 [])), (4, (.ptr 1004 0 [])), (6, (i6 p28))] : EL) ([(1002, some (.box 34 (.d (e_api_Prefix a0)))), (1004, some (.box 34 (.d (.st [(.st [(.bool false), (.int .u64 0), (.int .u64 0)]), (.int .i64 0)]))))] : OL)) hx39 (mp [] _ _ hB) (fun s9 y h => ?_) (fun e E' O' hR => ?_)
    ·unfold exchangepointref02_Common_L0 at h
     refine AWp.seq ?_
     refine AWp.seq ?_
     refine AWp.cut h (fun m32 : Bool => ([(2, (.ptr 1002 0 [])), (3, (.ptr 1003 0 [])), (4, (.ptr 1004 0 [])), (6, (i6 s9)), (46, (bo m32))] : EL)) (fun m32 : Bool => ([(1002, some (.box 34 (.d (e_api_Prefix a0)))), (1003, some (.box 34 (.d (e_api_Prefix a1)))), (1004, some (.box 34 (.d (.st [(.st [(.bool false), (.int .u64 0), (.int .u64 0)]), (.int .i64 0)]))))] : OL)) (fun m32 h E' O' hmat => ?_) (fun j33 hjj33 h => ?_)
     ·refine seqQ_n ?_
      refine AWp.ghost hmat ?_
      refine AWp.cond rfl (fun hg34 => ?_) (fun hg34 => ?_)
      ·replace h := ite_t hg34 h
       refine AWp.skip ?_
       refine seqQ_n ?_
       refine AWp.block ?_
       refine rg (c (mv hN (q 6)) rfl (c (add6 (L rfl) (q 47) (Opd.int .i64 (1))) rfl (c (OpJ.assign (L rfl) (q 48)) rfl cn))) ?_
       refine blkQ_n ?_
       obtain rfl := Option.some.inj h
       exact ⟨rfl, (Mat.trans (mp [] [(2, (.ptr 1002 0 [])), (3, (.ptr 1003 0 [])), (4, (.ptr 1004 0 [])), (6, (i6 (w64 (s9 + (1 : Int)))))] [(1002, some (.box 34 (.d (e_api_Prefix a0)))), (1003, some (.box 34 (.d (e_api_Prefix a1)))), (1004, some (.box 34 (.d (.st [(.st [(.bool false), (.int .u64 0), (.int .u64 0)]), (.int .i64 0)]))))] hB) (mp [] _ _ hB))⟩
      ·replace h := ite_f hg34 h
       refine AWp.exit ?_
       refine seqQ_e ?_
       obtain rfl := Option.some.inj h
       exact ⟨(fun hc => by cases hc), rfl, (mp [] _ _ hB)⟩
     ·rcases Bool.eq_false_or_eq_true ((decide (s9 < a0.fLen)) && (decide (s9 < a1.fLen))) with hg35 | hg35
      ·replace h := ite_t hg35 h
       obtain ⟨r36, hr36, h⟩ := bindS h
       obtain ⟨r37, hr37, h⟩ := bindS h
       refine dr (c (mv hN (q 6)) rfl (c (ov (.ptr 1002 3 [1]) (fp hN Tryd.underlying34 3 tyS3 _ (q 2))) rfl (c (lb hN 34 _ _ tyS3 (ad _) (q 27)) rfl (c (OpJ.lss (L rfl) (q 26) (q 28)) rfl (c (mv hN (q 29)) rfl (c (oq hN 30 (mv hN (q 6)) (OptL.keep (by rfl) OptL.nil) (GuardV.plain _)) rfl (c (oq hN 30 (ov (.ptr 1003 3 [1]) (fp hN Tryd.underlying34 3 tyS3 _ (q 3))) (OptL.keep (by rfl) OptL.nil) (GuardV.plain _)) rfl (c (oq hN 30 (lb hN 34 _ _ tyS3 (ad _) (q 32)) (OptL.opt OptL.nil) (GuardV.plain _)) rfl (c (oq hN 30 (OpJ.lss (L rfl) (q 31) (q 33)) (OptL.opt (OptL.opt OptL.nil)) (GuardV.plain _)) rfl (c (OpJ.pickAnd rfl (L rfl) (q 30) (q 34)) rfl (c (OpJ.val (v' := .d (.bool true)) (by rw [hg35] <;> rfl) (mv hN (q 35))) rfl (c (gd 36 (ov (.ptr 1002 0 [0]) (fp hN Tryd.underlying34 0 tyS32 _ (q 2)))) rfl (c (gd 36 (lb hN 34 _ _ tyS32 (ad _) (q 37))) rfl (c (gd 36 (mv hN (q 6))) rfl (cg (gd 36 (cf hB fnOk63 (exchangepointref02_Bit_ac a0.fAddr s9 r36 hr36) (L rfl) (OpdL.cons (q 38) (OpdL.cons (q 39) OpdL.nil)))) rfl (c (gd 36 (ov (.ptr 1003 0 [0]) (fp hN Tryd.underlying34 0 tyS32 _ (q 3)))) rfl (c (gd 36 (lb hN 34 _ _ tyS32 (ad _) (q 41))) rfl (c (gd 36 (mv hN (q 6))) rfl (cg (gd 36 (cf hB fnOk63 (exchangepointref02_Bit_ac a1.fAddr s9 r37 hr37) (L rfl) (OpdL.cons (q 42) (OpdL.cons (q 43) OpdL.nil)))) rfl (c (gd 36 (OpJ.eqlI (L rfl) (q 40) (q 44))) rfl (c (OpJ.pickT (L rfl) (q 36) (q 45)) rfl cn))))))))))))))))))))) (by kernel_rfl) (by kernel_rfl) ?_
       exact hjj33 _ h _ _ (Mat.trans (mp [] [(2, (.ptr 1002 0 [])), (3, (.ptr 1003 0 [])), (4, (.ptr 1004 0 [])), (6, (i6 s9)), (46, (bo (r36 == r37)))] [(1002, some (.box 34 (.d (e_api_Prefix a0)))), (1003, some (.box 34 (.d (e_api_Prefix a1)))), (1004, some (.box 34 (.d (.st [(.st [(.bool false), (.int .u64 0), (.int .u64 0)]), (.int .i64 0)]))))] hB) (mp [] _ _ hB))
      ·replace h := ite_f hg35 h
       refine dr (c (mv hN (q 6)) rfl (c (ov (.ptr 1002 3 [1]) (fp hN Tryd.underlying34 3 tyS3 _ (q 2))) rfl (c (lb hN 34 _ _ tyS3 (ad _) (q 27)) rfl (c (OpJ.lss (L rfl) (q 26) (q 28)) rfl (c (mv hN (q 29)) rfl (c (oq hN 30 (mv hN (q 6)) (OptL.keep (by rfl) OptL.nil) (GuardV.plain _)) rfl (c (oq hN 30 (ov (.ptr 1003 3 [1]) (fp hN Tryd.underlying34 3 tyS3 _ (q 3))) (OptL.keep (by rfl) OptL.nil) (GuardV.plain _)) rfl (c (oq hN 30 (lb hN 34 _ _ tyS3 (ad _) (q 32)) (OptL.opt OptL.nil) (GuardV.plain _)) rfl (c (oq hN 30 (OpJ.lss (L rfl) (q 31) (q 33)) (OptL.opt (OptL.opt OptL.nil)) (GuardV.plain _)) rfl (c (OpJ.pickAnd rfl (L rfl) (q 30) (q 34)) rfl (c (OpJ.val (v' := .d (.bool false)) (by rw [hg35] <;> rfl) (mv hN (q 35))) rfl (cg (sU 36 (L rfl)) rfl (cg (sU 36 (L rfl)) rfl (cg (sU 36 (L rfl)) rfl (cg (sU 36 (L rfl)) rfl (cg (sU 36 (L rfl)) rfl (cg (sU 36 (L rfl)) rfl (cg (sU 36 (L rfl)) rfl (cg (sU 36 (L rfl)) rfl (cg (sU 36 (L rfl)) rfl (c (OpJ.pickF (L rfl) (q 36) (Opd.bool false)) rfl cn))))))))))))))))))))) (by kernel_rfl) (by kernel_rfl) ?_
       exact hjj33 _ h _ _ (Mat.trans (mp [] [(2, (.ptr 1002 0 [])), (3, (.ptr 1003 0 [])), (4, (.ptr 1004 0 [])), (6, (i6 s9)), (46, (bo false))] [(1002, some (.box 34 (.d (e_api_Prefix a0)))), (1003, some (.box 34 (.d (e_api_Prefix a1)))), (1004, some (.box 34 (.d (.st [(.st [(.bool false), (.int .u64 0), (.int .u64 0)]), (.int .i64 0)]))))] hB) (mp [] _ _ hB))
    ·obtain ⟨rfl, hmat⟩ := hR
     refine blkQ_hit ?_
     refine seqQ_n ?_
     refine AWp.ghost hmat ?_
     obtain ⟨r40, hr40, h⟩ := bindS h
     refine sr (c (ov (.ptr 1002 0 [0]) (fp hN Tryd.underlying34 0 tyS32 _ (q 2))) rfl (c (lb hN 34 _ _ tyS32 (ad _) (q 49)) rfl (c (mv hN (q 6)) rfl (cg (cf hB fnOk33 (exchangepointref02_Make_ac a0.fAddr p28 r40 hr40) (L rfl) (OpdL.cons (q 50) (OpdL.cons (q 51) OpdL.nil))) rfl (c (OpJ.extract (by rfl) rfl (L rfl) (q 52)) rfl (c (OpJ.extract (by rfl) rfl (L rfl) (q 52)) rfl (cg (OpJ.storeB tyS34 (SetAt.here _ _) (by rfl) (by rfl) (by simp) rfl (q 4) (q 53)) rfl (c (OpJ.assign (L rfl) (q 54)) rfl cn)))))))) ?_
     refine gh [(4, _), (5, _)] [(1004, some _)] hB rfl rfl (by rfl) ?_
     refine AWp.ret ?_
     obtain rfl := Option.some.inj h
     exact ⟨.inl rfl, _, _, (kp [(4, _), (5, _)] [(1004, some _)] hB rfl rfl (by rfl)), [(.d (e_api_Prefix r40.1)), (i6 r40.2)], (Res.cell (c := (.d (e_api_Prefix r40.1))) (by rfl) (by rfl) tyS34 (by rfl) (by rfl) (by rfl) (Res.tmp (by rfl) (by rfl) Res.nil)), rfl, by rfl, by rfl, by rfl⟩
 ·obtain ⟨r41, hr41, h⟩ := bindS h
  rcases Bool.eq_false_or_eq_true (!r41) with hg42 | hg42
  ·replace h := ite_t hg42 h
   refine rg (c (lb hN 34 _ _ tyS34 (At.here _) (q 2)) rfl (cg (cf hB fnOk58 (exchangepointref02_Valid_ac a0 r41 hr41) (L rfl) (OpdL.cons (q 8) OpdL.nil)) rfl (c (OpJ.not (L rfl) (q 9)) rfl (c (OpJ.val (v' := .d (.bool true)) (by rw [hg42] <;> rfl) (mv hN (q 10))) rfl (cg (sU 11 (L rfl)) rfl (cg (sU 11 (L rfl)) rfl (cg (sU 11 (L rfl)) rfl (c (OpJ.pickT (L rfl) (q 11) (Opd.bool true)) rfl (c (OpJ.assign (L rfl) (q 15)) rfl cn))))))))) ?_
   exact hjj6 _ h _ _ (Mat.trans (mp [] [(2, (.ptr 1002 0 [])), (3, (.ptr 1003 0 [])), (4, (.ptr 1004 0 [])), (7, (bo true))] [(1002, some (.box 34 (.d (e_api_Prefix a0)))), (1003, some (.box 34 (.d (e_api_Prefix a1)))), (1004, some (.box 34 (.d (.st [(.st [(.bool false), (.int .u64 0), (.int .u64 0)]), (.int .i64 0)]))))] hB) (mp [] _ _ hB))
  ·replace h := ite_f hg42 h
   obtain ⟨r43, hr43, h⟩ := bindS h
   refine rg (c (lb hN 34 _ _ tyS34 (At.here _) (q 2)) rfl (cg (cf hB fnOk58 (exchangepointref02_Valid_ac a0 r41 hr41) (L rfl) (OpdL.cons (q 8) OpdL.nil)) rfl (c (OpJ.not (L rfl) (q 9)) rfl (c (OpJ.val (v' := .d (.bool false)) (by rw [hg42] <;> rfl) (mv hN (q 10))) rfl (c (gd 11 (lb hN 34 _ _ tyS34 (At.here _) (q 3))) rfl (cg (gd 11 (cf hB fnOk58 (exchangepointref02_Valid_ac a1 r43 hr43) (L rfl) (OpdL.cons (q 12) OpdL.nil))) rfl (c (gd 11 (OpJ.not (L rfl) (q 13))) rfl (c (OpJ.pickF (L rfl) (q 11) (q 14)) rfl (c (OpJ.assign (L rfl) (q 15)) rfl cn))))))))) ?_
   exact hjj6 _ h _ _ (Mat.trans (mp [] [(2, (.ptr 1002 0 [])), (3, (.ptr 1003 0 [])), (4, (.ptr 1004 0 [])), (7, (bo (!r43)))] [(1002, some (.box 34 (.d (e_api_Prefix a0)))), (1003, some (.box 34 (.d (e_api_Prefix a1)))), (1004, some (.box 34 (.d (.st [(.st [(.bool false), (.int .u64 0), (.int .u64 0)]), (.int .i64 0)]))))] hB) (mp [] _ _ hB))

noncomputable def exchangepointlaw21_ResourcePrefixes_L0 (r3 : (List api_Prefix)) (s10 : Int) : Option (((Unit) ⊕ (Unit)) ⊕ (Int)) :=
 (if (decide (s10 < (r3.length : Int))) = true then
 jn (fun m98 : Bool =>
 (if m98 = true then
 some (.inl (.inl ()))
 else
 (idx r3 (w64 (s10 - (1 : Int)))).bind fun x101 =>
 (idx r3 s10).bind fun x102 =>
 (exchangepointref02_Common x101 x102).bind fun r103 =>
 jn (fun m109 : Bool =>
 (if m109 = true then
 some (.inl (.inl ()))
 else
 some (.inr (w64 (s10 + (1 : Int)))))) (fun j110 =>
 (if (r103.2 == (0 : Int)) = true then
 (idx r3 s10).bind fun x113 =>
 (if (r103.1.fLen == (w64 (x113.fLen - (1 : Int)))) = true then
 (idx r3 (w64 (s10 - (1 : Int)))).bind fun x115 =>
 (idx r3 s10).bind fun x116 =>
 j110 (x115.fLen == x116.fLen)
 else
 j110 false)
 else
 j110 false)))) (fun j99 =>
 (idx r3 (w64 (s10 - (1 : Int)))).bind fun x117 =>
 (idx r3 s10).bind fun x118 =>
 (exchangepointref02_Cmp x117 x118).bind fun r119 =>
 (if (decide ((0 : Int) ≤ r119)) = true then
 j99 true
 else
 (idx r3 (w64 (s10 - (1 : Int)))).bind fun x121 =>
 (idx r3 s10).bind fun x122 =>
 (exchangepointref02_Covers x121 x122).bind fun r123 =>
 j99 r123))
 else
 some (.inl (.inr ())))
noncomputable def exchangepointlaw21_ResourcePrefixes (a0 : (List Int)) : Option (Bool) :=
 (exchangepointmake_New a0).bind fun r1 =>
 (exchangepointmake_Deck_Resources r1).bind fun r2 =>
 (resource_Prefixes r2.1).bind fun r3 =>
 (resource_Of r3 r2.1.fASNs).bind fun r4 =>
 jn (fun m7 : Bool =>
 (if m7 = true then
 some false
 else
 (loop (exchangepointlaw21_ResourcePrefixes_L0 r3) (1 : Int)).bind fun x124 => match x124 with
 | (.inl _) =>
  some false
 | (.inr _) =>
  (exchangepointlaw21_awake).bind fun r126 =>
  some r126)) (fun j8 =>
 (if (r4.2 != (0 : Int)) = true then
 j8 true
 else
 (exchangepointref21_Same r4.1 r2.1).bind fun r128 =>
 j8 (!r128)))
theorem exchangepointlaw21_ResourcePrefixes_ac (a0 : (List Int)) (r : Bool) (h : exchangepointlaw21_ResourcePrefixes a0 = some r) : AC Tryd.prog 5 [(.d (.list 1 (a0.map (eI .i64))))] [(500, (.know (globF 0 [35, 37, 137]))), (501, (.know (globF 1 [70, 138, 139])))] (.d (.bool r)) [(500, some (.know (globF 0 [35, 37, 137]))), (501, some (.know (globF 1 [70, 138, 139])))] := by
 refine AC.of_code2 Tryd.func5 rfl rfl (Nat.le_of_ble_eq_true (by rfl)) fun B hB hN => ?_
 have L {d : Nat} (h : Nat.blt d Tryd.f5.ntmps = true) : d < B.N := ltN hN h
 delta exchangepointlaw21_ResourcePrefixes at h
 refine sr (c (OpJ.assign (L rfl) (Opd.bool false)) rfl cn) ?_
 refine gh [(0, _)] [(500, some _), (501, some _)] hB rfl rfl (by rfl) ?_
 refine AWp.seq ?_
 obtain ⟨r1, hr1, h⟩ := bindS h
 obtain ⟨r2, hr2, h⟩ := bindS h
 refine AWp.region (oc (mv hN (ot 0 (qI_1 a0)))
 (oc (OpJ.callFn hB fnOk7 (exchangepointmake_New_ac a0 r1 hr1) [(1005, 100000)] (by kernel_rfl) (L rfl) (by kernel_rfl) (OpdL.cons (ot 10 (qI_1 a0)) OpdL.nil))
 (oc (OpJ.callFn hB fnOk8 (exchangepointmake_Deck_Resources_ac r1 r2 hr2) [(0, 100000)] (by kernel_rfl) (L rfl) (by kernel_rfl) (OpdL.cons (ot 11 (.ptr 100000 0 [])) OpdL.nil))
 (oc (OpJ.alloc hB tyZ28 (nm := 1003) (by decide) (L rfl))
 (oc (OpJ.storeB (bt := 28) (c := (.st [.nils, .nils])) (v := (.d (e_api_Resources r2.1))) (c' := (.d (e_api_Resources r2.1))) tyS28 (SetAt.here _ _) (by rfl) (by rfl) (by simp) rfl (ot 3 (.ptr 1003 0 [])) (ot 12 (.d (e_api_Resources r2.1))))
 (OpJs.nil)))))) (by rfl) (by rfl) ?_
 refine seqQ_n ?_
 refine AWp.ghost (mp [] [(3, (.ptr 1003 0 []))] [(500, some (.know (globF 0 [35, 37, 137]))), (501, some (.know (globF 1 [70, 138, 139]))), (1003, some (.box 28 (.d (e_api_Resources r2.1))))] hB) ?_
 refine AWp.seq ?_
 obtain ⟨r3, hr3, h⟩ := bindS h
 refine AWp.region (oc (lb hN 28 (.d (e_api_Resources r2.1)) (.d (e_api_Resources r2.1)) tyS28 (At.here _) (ot 3 (.ptr 1003 0 [])))
 (oc (OpJ.callFn hB fnOk11 (resource_Prefixes_ac r2.1 r3 hr3) [(500, 500), (501, 501)] (by kernel_rfl) (L rfl) (by kernel_rfl) (OpdL.cons (ot 13 (.d (e_api_Resources r2.1))) OpdL.nil))
 (oc (OpJ.assign (L rfl) (ot 14 (qe_api_Prefix_4 r3)))
 (OpJs.nil)))) (by rfl) (by rfl) ?_
 refine seqQ_n ?_
 refine AWp.ghost (mp [] [(3, (.ptr 1003 0 [])), (4, (qe_api_Prefix_4 r3))] [(500, some (.know (globF 0 [35, 37, 137]))), (501, some (.know (globF 1 [70, 138, 139]))), (1003, some (.box 28 (.d (e_api_Resources r2.1))))] hB) ?_
 refine AWp.seq ?_
 obtain ⟨r4, hr4, h⟩ := bindS h
 refine AWp.region (oc (mv hN (ot 4 (qe_api_Prefix_4 r3)))
 (oc (ov (.ptr 1003 1 [1]) (fp hN Tryd.underlying28 1 tyS26 (.box 28 (.d (e_api_Resources r2.1))) (ot 3 (.ptr 1003 0 []))))
 (oc (lb hN 28 (.d (e_api_Resources r2.1)) (qe_api_Span_2 r2.1.fASNs) tyS26 (ad (.list 2 (r2.1.fASNs.map e_api_Span))) (ot 17 (.ptr 1003 1 [1])))
 (oc (OpJ.callFn hB fnOk23 (resource_Of_ac r3 r2.1.fASNs r4 hr4) [(500, 500), (501, 501)] (by kernel_rfl) (L rfl) (by kernel_rfl) (OpdL.cons (ot 16 (qe_api_Prefix_4 r3)) (OpdL.cons (ot 18 (qe_api_Span_2 r2.1.fASNs)) OpdL.nil)))
 (oc (mv hN (ot 19 (.tup [(.d (e_api_Resources r4.1)), (i6 r4.2)])))
 (oc (OpJ.extract (v := (.d (e_api_Resources r4.1))) (by rfl) rfl (L rfl) (ot 15 (.tup [(.d (e_api_Resources r4.1)), (i6 r4.2)])))
 (oc (OpJ.extract (v := (i6 r4.2)) (by rfl) rfl (L rfl) (ot 15 (.tup [(.d (e_api_Resources r4.1)), (i6 r4.2)])))
 (oc (OpJ.alloc hB tyZ28 (nm := 1005) (by decide) (L rfl))
 (oc (OpJ.storeB (bt := 28) (c := (.st [.nils, .nils])) (v := (.d (e_api_Resources r4.1))) (c' := (.d (e_api_Resources r4.1))) tyS28 (SetAt.here _ _) (by rfl) (by rfl) (by simp) rfl (ot 5 (.ptr 1005 0 [])) (ot 20 (.d (e_api_Resources r4.1))))
 (oc (OpJ.assign (L rfl) (ot 21 (i6 r4.2)))
 (OpJs.nil))))))))))) (by rfl) (by rfl) ?_
 refine seqQ_n ?_
 refine AWp.ghost (mp [] [(3, (.ptr 1003 0 [])), (4, (qe_api_Prefix_4 r3)), (5, (.ptr 1005 0 [])), (6, (i6 r4.2))] [(500, some (.know (globF 0 [35, 37, 137]))), (501, some (.know (globF 1 [70, 138, 139]))), (1003, some (.box 28 (.d (e_api_Resources r2.1)))), (1005, some (.box 28 (.d (e_api_Resources r4.1))))] hB) ?_
 refine AWp.seq ?_
 refine AWp.seq ?_
 refine AWp.cut h (fun m7 : Bool => ([(4, (qe_api_Prefix_4 r3)), (29, (bo m7))] : EL)) (fun m7 : Bool => ([(500, some (.know (globF 0 [35, 37, 137]))), (501, some (.know (globF 1 [70, 138, 139])))] : OL)) (fun m7 h E' O' hmat => ?_) (fun j8 hjj8 h => ?_)
 ·refine seqQ_n ?_
  refine AWp.ghost hmat ?_
  refine AWp.cond rfl (fun hg9 => ?_) (fun hg9 => ?_)
  ·replace h := ite_t hg9 h
   refine sr (c (OpJ.assign (L rfl) (Opd.bool false)) rfl cn) ?_
   refine gh [(2, _)] [(500, some _), (501, some _)] hB rfl rfl (by rfl) ?_
   refine AWp.ret ?_
   refine seqQ_r ?_
   obtain rfl := Option.some.inj h
   exact ⟨.inl rfl, _, _, (kp [(2, _)] [(500, some _), (501, some _)] hB rfl rfl (by rfl)), [(bo false)], (Res.tmp (by rfl) (by rfl) Res.nil), rfl, by rfl, by rfl, by rfl⟩
  ·replace h := ite_f hg9 h
   refine AWp.skip ?_
   refine seqQ_n ?_
   refine AWp.seq ?_
   refine sr (c (OpJ.assign (L rfl) (Opd.int .i64 (1))) rfl cn) ?_
   refine gh [(4, _), (7, _)] [(500, some _), (501, some _)] hB rfl rfl (by rfl) ?_
   refine AWp.block ?_
   obtain ⟨x124, hx125, h⟩ := bindS h
   refine lg (exchangepointlaw21_ResourcePrefixes_L0 r3) (fun s10 : Int => ([(4, (qe_api_Prefix_4 r3)), (7, (i6 s10))] : EL)) (fun s10 : Int => ([(500, some (.know (globF 0 [35, 37, 137]))), (501, some (.know (globF 1 [70, 138, 139])))] : OL)) (fun (x : (Unit) ⊕ (Unit)) e E' O' => match x with | (.inl _p) => e = .ret ∧ Mat B E' O' ([(2, (bo false))] : EL) ([(500, some (.know (globF 0 [35, 37, 137]))), (501, some (.know (globF 1 [70, 138, 139])))] : OL) | (.inr _p) => e = .exit 0 ∧ Mat B E' O' ([] : EL) ([(500, some (.know (globF 0 [35, 37, 137]))), (501, some (.know (globF 1 [70, 138, 139])))] : OL)) hx125 (mp [] _ _ hB) (fun s10 y h => ?_) (fun e E' O' hR => ?_)
   ·unfold exchangepointlaw21_ResourcePrefixes_L0 at h
    refine AWp.seq ?_
    refine sr (c (mv hN (q 7)) rfl (c (mv hN (q 4)) rfl (c (OpJ.val (v' := (i6 (r3.length : Int))) (by simp) (OpJ.lenD Tryd.underlying36 (L rfl) (q 31))) rfl (c (OpJ.lss (L rfl) (q 30) (q 32)) rfl cn)))) ?_
    refine gh [(4, _), (7, _), (33, _)] [(500, some _), (501, some _)] hB rfl rfl (by rfl) ?_
    refine AWp.cond rfl (fun hg87 => ?_) (fun hg87 => ?_)
    ·replace h := ite_t hg87 h
     refine AWp.skip ?_
     refine seqQ_n ?_
     refine AWp.seq ?_
     refine AWp.block ?_
     refine AWp.seq ?_
     refine AWp.seq ?_
     refine AWp.cut h (fun m98 : Bool => ([(4, (qe_api_Prefix_4 r3)), (7, (i6 s10)), (58, (bo m98))] : EL)) (fun m98 : Bool => ([(500, some (.know (globF 0 [35, 37, 137]))), (501, some (.know (globF 1 [70, 138, 139])))] : OL)) (fun m98 h E' O' hmat => ?_) (fun j99 hjj99 h => ?_)
     ·refine seqQ_n ?_
      refine AWp.ghost hmat ?_
      refine AWp.cond rfl (fun hg100 => ?_) (fun hg100 => ?_)
      ·replace h := ite_t hg100 h
       refine sr (c (OpJ.assign (L rfl) (Opd.bool false)) rfl cn) ?_
       refine gh [(2, _)] [(500, some _), (501, some _)] hB rfl rfl (by rfl) ?_
       refine AWp.ret ?_
       refine seqQ_r ?_
       refine blkQ_r ?_
       refine seqQ_r ?_
       obtain rfl := Option.some.inj h
       exact ⟨(fun hc => by cases hc), rfl, (mp [] _ _ hB)⟩
      ·replace h := ite_f hg100 h
       refine AWp.skip ?_
       refine seqQ_n ?_
       obtain ⟨x101, hx101, h⟩ := bindS h
       obtain ⟨x102, hx102, h⟩ := bindS h
       obtain ⟨r103, hr103, h⟩ := bindS h
       refine sd (c (mv hN (q 4)) rfl (c (mv hN (q 7)) rfl (c (sub6 (L rfl) (q 61) (Opd.int .i64 (1))) rfl (c (OpJ.indexD Tryd.underlying36 tyS34 (idx_some hx101).1 (get_map e_api_Prefix (idx_some hx101).2) (L rfl) (q 60) (q 62)) rfl (c (OpJ.loadD tyS34 (by rfl) (by rfl) (L rfl) (q 63)) rfl (c (mv hN (q 4)) rfl (c (mv hN (q 7)) rfl (c (OpJ.indexD Tryd.underlying36 tyS34 (idx_some hx102).1 (get_map e_api_Prefix (idx_some hx102).2) (L rfl) (q 65) (q 66)) rfl (c (OpJ.loadD tyS34 (by rfl) (by rfl) (L rfl) (q 67)) rfl (cg (cf hB fnOk28 (exchangepointref02_Common_ac x101 x102 r103 hr103) (L rfl) (OpdL.cons (q 64) (OpdL.cons (q 68) OpdL.nil))) rfl (c (mv hN (q 69)) rfl (c (OpJ.extract (by rfl) rfl (L rfl) (q 59)) rfl (c (OpJ.extract (by rfl) rfl (L rfl) (q 59)) rfl (cg (OpJ.alloc hB tyZ34 (nm := 1008) (by decide) (L rfl)) rfl (cg (OpJ.storeB tyS34 (SetAt.here _ _) (by rfl) (by rfl) (by simp) rfl (q 8) (q 70)) rfl (c (OpJ.assign (L rfl) (q 71)) rfl cn)))))))))))))))) (by kernel_rfl) (by kernel_rfl) ?_
       refine gh [(4, _), (7, _), (8, _), (9, _)] [(500, some _), (501, some _), (1008, some _)] hB rfl rfl (by rfl) ?_
       refine AWp.seq ?_
       refine AWp.cut h (fun m109 : Bool => ([(4, (qe_api_Prefix_4 r3)), (7, (i6 s10)), (98, (bo m109))] : EL)) (fun m109 : Bool => ([(500, some (.know (globF 0 [35, 37, 137]))), (501, some (.know (globF 1 [70, 138, 139])))] : OL)) (fun m109 h E' O' hmat => ?_) (fun j110 hjj110 h => ?_)
       ·refine seqQ_n ?_
        refine AWp.ghost hmat ?_
        refine AWp.cond rfl (fun hg111 => ?_) (fun hg111 => ?_)
        ·replace h := ite_t hg111 h
         refine sr (c (OpJ.assign (L rfl) (Opd.bool false)) rfl cn) ?_
         refine gh [(2, _)] [(500, some _), (501, some _)] hB rfl rfl (by rfl) ?_
         refine AWp.ret ?_
         refine blkQ_r ?_
         refine seqQ_r ?_
         obtain rfl := Option.some.inj h
         exact ⟨(fun hc => by cases hc), rfl, (mp [] _ _ hB)⟩
        ·replace h := ite_f hg111 h
         refine AWp.skip ?_
         refine blkQ_n ?_
         refine seqQ_n ?_
         refine rg (c (mv hN (q 7)) rfl (c (add6 (L rfl) (q 34) (Opd.int .i64 (1))) rfl (c (OpJ.assign (L rfl) (q 35)) rfl cn))) ?_
         obtain rfl := Option.some.inj h
         exact ⟨rfl, (Mat.trans (mp [] [(4, (qe_api_Prefix_4 r3)), (7, (i6 (w64 (s10 + (1 : Int)))))] [(500, some (.know (globF 0 [35, 37, 137]))), (501, some (.know (globF 1 [70, 138, 139])))] hB) (mp [] _ _ hB))⟩
       ·rcases Bool.eq_false_or_eq_true (r103.2 == (0 : Int)) with hg112 | hg112
        ·replace h := ite_t hg112 h
         obtain ⟨x113, hx113, h⟩ := bindS h
         rcases Bool.eq_false_or_eq_true (r103.1.fLen == (w64 (x113.fLen - (1 : Int)))) with hg114 | hg114
         ·replace h := ite_t hg114 h
          obtain ⟨x115, hx115, h⟩ := bindS h
          obtain ⟨x116, hx116, h⟩ := bindS h
          refine dr (c (mv hN (q 9)) rfl (c (OpJ.eqlI (L rfl) (q 72) (Opd.int .i64 (0))) rfl (c (OpJ.val (v' := .d (.bool true)) (by rw [hg112] <;> rfl) (mv hN (q 73))) rfl (c (gd 74 (ov (.ptr 1008 3 [1]) (fp hN Tryd.underlying34 3 tyS3 _ (q 8)))) rfl (c (gd 74 (lb hN 34 _ _ tyS3 (ad _) (q 75))) rfl (c (gd 74 (mv hN (q 4))) rfl (c (gd 74 (mv hN (q 7))) rfl (c (gd 74 (OpJ.indexD Tryd.underlying36 tyS34 (idx_some hx113).1 (get_map e_api_Prefix (idx_some hx113).2) (L rfl) (q 77) (q 78))) rfl (c (gd 74 (OpJ.fieldD Tryd.underlying34 (by rfl) (o := 3) (by rfl) tyS3 (by decide) (by rfl) (by rfl) (L rfl) (q 79))) rfl (c (gd 74 (OpJ.loadD tyS3 (by rfl) (by rfl) (L rfl) (q 80))) rfl (c (gd 74 (sub6 (L rfl) (q 81) (Opd.int .i64 (1)))) rfl (c (gd 74 (OpJ.eqlI (L rfl) (q 76) (q 82))) rfl (c (OpJ.pickT (L rfl) (q 74) (q 83)) rfl (c (OpJ.val (v' := .d (.bool true)) (by rw [hg114] <;> rfl) (mv hN (q 84))) rfl (c (gd 85 (mv hN (q 4))) rfl (c (gd 85 (mv hN (q 7))) rfl (c (gd 85 (sub6 (L rfl) (q 87) (Opd.int .i64 (1)))) rfl (c (gd 85 (OpJ.indexD Tryd.underlying36 tyS34 (idx_some hx115).1 (get_map e_api_Prefix (idx_some hx115).2) (L rfl) (q 86) (q 88))) rfl (c (gd 85 (OpJ.fieldD Tryd.underlying34 (by rfl) (o := 3) (by rfl) tyS3 (by decide) (by rfl) (by rfl) (L rfl) (q 89))) rfl (c (gd 85 (OpJ.loadD tyS3 (by rfl) (by rfl) (L rfl) (q 90))) rfl (c (gd 85 (mv hN (q 4))) rfl (c (gd 85 (mv hN (q 7))) rfl (c (gd 85 (OpJ.indexD Tryd.underlying36 tyS34 (idx_some hx116).1 (get_map e_api_Prefix (idx_some hx116).2) (L rfl) (q 92) (q 93))) rfl (c (gd 85 (OpJ.fieldD Tryd.underlying34 (by rfl) (o := 3) (by rfl) tyS3 (by decide) (by rfl) (by rfl) (L rfl) (q 94))) rfl (c (gd 85 (OpJ.loadD tyS3 (by rfl) (by rfl) (L rfl) (q 95))) rfl (c (gd 85 (OpJ.eqlI (L rfl) (q 91) (q 96))) rfl (c (OpJ.pickT (L rfl) (q 85) (q 97)) rfl cn))))))))))))))))))))))))))) (by kernel_rfl) (by kernel_rfl) ?_
          exact hjj110 _ h _ _ (Mat.trans (mp [] [(4, (qe_api_Prefix_4 r3)), (7, (i6 s10)), (98, (bo (x115.fLen == x116.fLen)))] [(500, some (.know (globF 0 [35, 37, 137]))), (501, some (.know (globF 1 [70, 138, 139])))] hB) (mp [] _ _ hB))
         ·replace h := ite_f hg114 h
          refine dr (c (mv hN (q 9)) rfl (c (OpJ.eqlI (L rfl) (q 72) (Opd.int .i64 (0))) rfl (c (OpJ.val (v' := .d (.bool true)) (by rw [hg112] <;> rfl) (mv hN (q 73))) rfl (c (gd 74 (ov (.ptr 1008 3 [1]) (fp hN Tryd.underlying34 3 tyS3 _ (q 8)))) rfl (c (gd 74 (lb hN 34 _ _ tyS3 (ad _) (q 75))) rfl (c (gd 74 (mv hN (q 4))) rfl (c (gd 74 (mv hN (q 7))) rfl (c (gd 74 (OpJ.indexD Tryd.underlying36 tyS34 (idx_some hx113).1 (get_map e_api_Prefix (idx_some hx113).2) (L rfl) (q 77) (q 78))) rfl (c (gd 74 (OpJ.fieldD Tryd.underlying34 (by rfl) (o := 3) (by rfl) tyS3 (by decide) (by rfl) (by rfl) (L rfl) (q 79))) rfl (c (gd 74 (OpJ.loadD tyS3 (by rfl) (by rfl) (L rfl) (q 80))) rfl (c (gd 74 (sub6 (L rfl) (q 81) (Opd.int .i64 (1)))) rfl (c (gd 74 (OpJ.eqlI (L rfl) (q 76) (q 82))) rfl (c (OpJ.pickT (L rfl) (q 74) (q 83)) rfl (c (OpJ.val (v' := .d (.bool false)) (by rw [hg114] <;> rfl) (mv hN (q 84))) rfl (cg (sU 85 (L rfl)) rfl (cg (sU 85 (L rfl)) rfl (cg (sU 85 (L rfl)) rfl (cg (sU 85 (L rfl)) rfl (cg (sU 85 (L rfl)) rfl (cg (sU 85 (L rfl)) rfl (cg (sU 85 (L rfl)) rfl (cg (sU 85 (L rfl)) rfl (cg (sU 85 (L rfl)) rfl (cg (sU 85 (L rfl)) rfl (cg (sU 85 (L rfl)) rfl (cg (sU 85 (L rfl)) rfl (c (OpJ.pickF (L rfl) (q 85) (Opd.bool false)) rfl cn))))))))))))))))))))))))))) (by kernel_rfl) (by kernel_rfl) ?_
          exact hjj110 _ h _ _ (Mat.trans (mp [] [(4, (qe_api_Prefix_4 r3)), (7, (i6 s10)), (98, (bo false))] [(500, some (.know (globF 0 [35, 37, 137]))), (501, some (.know (globF 1 [70, 138, 139])))] hB) (mp [] _ _ hB))
        ·replace h := ite_f hg112 h
         refine dr (c (mv hN (q 9)) rfl (c (OpJ.eqlI (L rfl) (q 72) (Opd.int .i64 (0))) rfl (c (OpJ.val (v' := .d (.bool false)) (by rw [hg112] <;> rfl) (mv hN (q 73))) rfl (cg (sU 74 (L rfl)) rfl (cg (sU 74 (L rfl)) rfl (cg (sU 74 (L rfl)) rfl (cg (sU 74 (L rfl)) rfl (cg (sU 74 (L rfl)) rfl (cg (sU 74 (L rfl)) rfl (cg (sU 74 (L rfl)) rfl (cg (sU 74 (L rfl)) rfl (cg (sU 74 (L rfl)) rfl (c (OpJ.pickF (L rfl) (q 74) (Opd.bool false)) rfl (c (mv hN (q 84)) rfl (cg (sU 85 (L rfl)) rfl (cg (sU 85 (L rfl)) rfl (cg (sU 85 (L rfl)) rfl (cg (sU 85 (L rfl)) rfl (cg (sU 85 (L rfl)) rfl (cg (sU 85 (L rfl)) rfl (cg (sU 85 (L rfl)) rfl (cg (sU 85 (L rfl)) rfl (cg (sU 85 (L rfl)) rfl (cg (sU 85 (L rfl)) rfl (cg (sU 85 (L rfl)) rfl (cg (sU 85 (L rfl)) rfl (c (OpJ.pickF (L rfl) (q 85) (Opd.bool false)) rfl cn))))))))))))))))))))))))))) (by kernel_rfl) (by kernel_rfl) ?_
         exact hjj110 _ h _ _ (Mat.trans (mp [] [(4, (qe_api_Prefix_4 r3)), (7, (i6 s10)), (98, (bo false))] [(500, some (.know (globF 0 [35, 37, 137]))), (501, some (.know (globF 1 [70, 138, 139])))] hB) (mp [] _ _ hB))
     ·obtain ⟨x117, hx117, h⟩ := bindS h
      obtain ⟨x118, hx118, h⟩ := bindS h
      obtain ⟨r119, hr119, h⟩ := bindS h
      rcases Bool.eq_false_or_eq_true (decide ((0 : Int) ≤ r119)) with hg120 | hg120
      ·replace h := ite_t hg120 h
       refine dr (c (mv hN (q 4)) rfl (c (mv hN (q 7)) rfl (c (sub6 (L rfl) (q 37) (Opd.int .i64 (1))) rfl (c (OpJ.indexD Tryd.underlying36 tyS34 (idx_some hx117).1 (get_map e_api_Prefix (idx_some hx117).2) (L rfl) (q 36) (q 38)) rfl (c (OpJ.loadD tyS34 (by rfl) (by rfl) (L rfl) (q 39)) rfl (c (mv hN (q 4)) rfl (c (mv hN (q 7)) rfl (c (OpJ.indexD Tryd.underlying36 tyS34 (idx_some hx118).1 (get_map e_api_Prefix (idx_some hx118).2) (L rfl) (q 41) (q 42)) rfl (c (OpJ.loadD tyS34 (by rfl) (by rfl) (L rfl) (q 43)) rfl (cg (cf hB fnOk26 (exchangepointref02_Cmp_ac x117 x118 r119 hr119) (L rfl) (OpdL.cons (q 40) (OpdL.cons (q 44) OpdL.nil))) rfl (c (OpJ.geq (L rfl) (q 45) (Opd.int .i64 (0))) rfl (c (OpJ.val (v' := .d (.bool true)) (by rw [hg120] <;> rfl) (mv hN (q 46))) rfl (cg (sU 47 (L rfl)) rfl (cg (sU 47 (L rfl)) rfl (cg (sU 47 (L rfl)) rfl (cg (sU 47 (L rfl)) rfl (cg (sU 47 (L rfl)) rfl (cg (sU 47 (L rfl)) rfl (cg (sU 47 (L rfl)) rfl (cg (sU 47 (L rfl)) rfl (cg (sU 47 (L rfl)) rfl (cg (sU 47 (L rfl)) rfl (c (OpJ.pickT (L rfl) (q 47) (Opd.bool true)) rfl cn))))))))))))))))))))))) (by kernel_rfl) (by kernel_rfl) ?_
       exact hjj99 _ h _ _ (Mat.trans (mp [] [(4, (qe_api_Prefix_4 r3)), (7, (i6 s10)), (58, (bo true))] [(500, some (.know (globF 0 [35, 37, 137]))), (501, some (.know (globF 1 [70, 138, 139])))] hB) (mp [] _ _ hB))
      ·replace h := ite_f hg120 h
       obtain ⟨x121, hx121, h⟩ := bindS h
       obtain ⟨x122, hx122, h⟩ := bindS h
       obtain ⟨r123, hr123, h⟩ := bindS h
       refine dr (c (mv hN (q 4)) rfl (c (mv hN (q 7)) rfl (c (sub6 (L rfl) (q 37) (Opd.int .i64 (1))) rfl (c (OpJ.indexD Tryd.underlying36 tyS34 (idx_some hx117).1 (get_map e_api_Prefix (idx_some hx117).2) (L rfl) (q 36) (q 38)) rfl (c (OpJ.loadD tyS34 (by rfl) (by rfl) (L rfl) (q 39)) rfl (c (mv hN (q 4)) rfl (c (mv hN (q 7)) rfl (c (OpJ.indexD Tryd.underlying36 tyS34 (idx_some hx118).1 (get_map e_api_Prefix (idx_some hx118).2) (L rfl) (q 41) (q 42)) rfl (c (OpJ.loadD tyS34 (by rfl) (by rfl) (L rfl) (q 43)) rfl (cg (cf hB fnOk26 (exchangepointref02_Cmp_ac x117 x118 r119 hr119) (L rfl) (OpdL.cons (q 40) (OpdL.cons (q 44) OpdL.nil))) rfl (c (OpJ.geq (L rfl) (q 45) (Opd.int .i64 (0))) rfl (c (OpJ.val (v' := .d (.bool false)) (by rw [hg120] <;> rfl) (mv hN (q 46))) rfl (c (gd 47 (mv hN (q 4))) rfl (c (gd 47 (mv hN (q 7))) rfl (c (gd 47 (sub6 (L rfl) (q 49) (Opd.int .i64 (1)))) rfl (c (gd 47 (OpJ.indexD Tryd.underlying36 tyS34 (idx_some hx121).1 (get_map e_api_Prefix (idx_some hx121).2) (L rfl) (q 48) (q 50))) rfl (c (gd 47 (OpJ.loadD tyS34 (by rfl) (by rfl) (L rfl) (q 51))) rfl (c (gd 47 (mv hN (q 4))) rfl (c (gd 47 (mv hN (q 7))) rfl (c (gd 47 (OpJ.indexD Tryd.underlying36 tyS34 (idx_some hx122).1 (get_map e_api_Prefix (idx_some hx122).2) (L rfl) (q 53) (q 54))) rfl (c (gd 47 (OpJ.loadD tyS34 (by rfl) (by rfl) (L rfl) (q 55))) rfl (cg (gd 47 (cf hB fnOk27 (exchangepointref02_Covers_ac x121 x122 r123 hr123) (L rfl) (OpdL.cons (q 52) (OpdL.cons (q 56) OpdL.nil)))) rfl (c (OpJ.pickF (L rfl) (q 47) (q 57)) rfl cn))))))))))))))))))))))) (by kernel_rfl) (by kernel_rfl) ?_
       exact hjj99 _ h _ _ (Mat.trans (mp [] [(4, (qe_api_Prefix_4 r3)), (7, (i6 s10)), (58, (bo r123))] [(500, some (.know (globF 0 [35, 37, 137]))), (501, some (.know (globF 1 [70, 138, 139])))] hB) (mp [] _ _ hB))
    ·replace h := ite_f hg87 h
     refine AWp.exit ?_
     refine seqQ_e ?_
     obtain rfl := Option.some.inj h
     exact ⟨(fun hc => by cases hc), rfl, (mp [] _ _ hB)⟩
   ·rcases x124 with _ | _
    ·obtain ⟨rfl, hmat⟩ := hR
     refine blkQ_r ?_
     refine seqQ_r ?_
     obtain rfl := Option.some.inj h
     exact ⟨.inl rfl, _, _, (Mat.trans hmat (mp [] [(2, (bo false))] [(500, some (.know (globF 0 [35, 37, 137]))), (501, some (.know (globF 1 [70, 138, 139])))] hB)), [(bo false)], (Res.tmp (by rfl) (by rfl) Res.nil), rfl, by rfl, by rfl, by rfl⟩
    ·obtain ⟨rfl, hmat⟩ := hR
     refine blkQ_hit ?_
     refine seqQ_n ?_
     refine AWp.ghost hmat ?_
     refine AWp.seq ?_
     obtain ⟨r126, hr126, h⟩ := bindS h
     refine AWp.region (oc (OpJ.callFn hB fnOk17 (exchangepointlaw21_awake_ac  r126 hr126) [(500, 500), (501, 501)] (by kernel_rfl) (L rfl) (by kernel_rfl) OpdL.nil)
      (oc (OpJ.assign (L rfl) (ot 99 (bo r126)))
      (OpJs.nil))) (by rfl) (by rfl) ?_
     refine seqQ_n ?_
     refine AWp.ghost (mp [] [(2, (bo r126))] [(500, some (.know (globF 0 [35, 37, 137]))), (501, some (.know (globF 1 [70, 138, 139])))] hB) ?_
     refine AWp.ret ?_
     obtain rfl := Option.some.inj h
     exact ⟨.inl rfl, _, _, (kp [(2, _)] [(500, some _), (501, some _)] hB rfl rfl (by rfl)), [(bo r126)], (Res.tmp (by rfl) (by rfl) Res.nil), rfl, by rfl, by rfl, by rfl⟩
 ·rcases Bool.eq_false_or_eq_true (r4.2 != (0 : Int)) with hg127 | hg127
  ·replace h := ite_t hg127 h
   refine rg (c (mv hN (q 6)) rfl (c (OpJ.neqI (L rfl) (q 22) (Opd.int .i64 (0))) rfl (c (OpJ.val (v' := .d (.bool true)) (by rw [hg127] <;> rfl) (mv hN (q 23))) rfl (cg (sU 24 (L rfl)) rfl (cg (sU 24 (L rfl)) rfl (cg (sU 24 (L rfl)) rfl (cg (sU 24 (L rfl)) rfl (c (OpJ.pickT (L rfl) (q 24) (Opd.bool true)) rfl cn)))))))) ?_
   exact hjj8 _ h _ _ (Mat.trans (mp [] [(4, (qe_api_Prefix_4 r3)), (29, (bo true))] [(500, some (.know (globF 0 [35, 37, 137]))), (501, some (.know (globF 1 [70, 138, 139])))] hB) (mp [] _ _ hB))
  ·replace h := ite_f hg127 h
   obtain ⟨r128, hr128, h⟩ := bindS h
   refine rg (c (mv hN (q 6)) rfl (c (OpJ.neqI (L rfl) (q 22) (Opd.int .i64 (0))) rfl (c (OpJ.val (v' := .d (.bool false)) (by rw [hg127] <;> rfl) (mv hN (q 23))) rfl (c (gd 24 (lb hN 28 _ _ tyS28 (At.here _) (q 5))) rfl (c (gd 24 (lb hN 28 _ _ tyS28 (At.here _) (q 3))) rfl (cg (gd 24 (cf hB fnOk25 (exchangepointref21_Same_ac r4.1 r2.1 r128 hr128) (L rfl) (OpdL.cons (q 25) (OpdL.cons (q 26) OpdL.nil)))) rfl (c (gd 24 (OpJ.not (L rfl) (q 27))) rfl (c (OpJ.pickF (L rfl) (q 24) (q 28)) rfl cn)))))))) ?_
   exact hjj8 _ h _ _ (Mat.trans (mp [] [(4, (qe_api_Prefix_4 r3)), (29, (bo (!r128)))] [(500, some (.know (globF 0 [35, 37, 137]))), (501, some (.know (globF 1 [70, 138, 139])))] hB) (mp [] _ _ hB))


end Go.Proofs.YtgcilleccigmdaaDoor
