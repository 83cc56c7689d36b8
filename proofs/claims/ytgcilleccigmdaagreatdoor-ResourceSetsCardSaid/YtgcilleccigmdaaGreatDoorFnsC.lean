/- Printed by gen.py: the Go functions as plain functions, and that the code does what they say. -/
import Derived.Test.YtgcilleccigmdaaGreatDoorChecked
import Derived.Test.YtgcilleccigmdaaGreatDoorVcYB
import Derived.Test.YtgcilleccigmdaaGreatDoorVcZ
import Derived.KernelRfl
import Derived.Test.YtgcilleccigmdaaGreatDoorVcMD
import Derived.Test.YtgcilleccigmdaaGreatDoorVcMQ
import Derived.Test.YtgcilleccigmdaaGreatDoorVcSG
import Derived.Test.YtgcilleccigmdaaGreatDoorFnsB
import Derived.Test.YtgcilleccigmdaaGreatDoorExt
import Derived.Test.YtgcilleccigmdaaGreatDoorVcGl
import Derived.Test.YtgcilleccigmdaaGreatDoorVcSO
import Derived.Test.YtgcilleccigmdaaGreatDoorVcWS
namespace Go.Proofs.YtgcilleccigmdaaGreatDoor
open Go Go.Vc
set_option maxHeartbeats 4000000
set_option maxRecDepth 100000
noncomputable def resource_order_normal_1 (a0 : api_Addr_) (a1 : api_Addr_) : Option (Int) :=
 (addr_Cmp a0.ffrom a1.ffrom).bind fun r1 =>
 some r1
theorem resource_order_normal_1_ac (a0 : api_Addr_) (a1 : api_Addr_) (r : Int) (h : resource_order_normal_1 a0 a1 = some r) : AC Tryz.prog 59 [(.d (e_api_Addr_ a0)), (.d (e_api_Addr_ a1)), (.ptr 0 0 [])] [(0, (.box 73 (.st [(.func 50 []), (.func 52 []), (.func 133 [])])))] (.d (.int .i64 r)) [(0, some (.box 73 (.st [(.func 50 []), (.func 52 []), (.func 133 [])])))] := by
 refine AC.of_code2 Tryz.func59 rfl rfl (Nat.le_of_ble_eq_true (by rfl)) fun B hB hN => ?_
 delta resource_order_normal_1 at h
 refine sr (cg (OpJ.box hB (nm := 1003) (by decide) (by simp) rfl (ltN hN rfl) (q 0)) rfl (cg (OpJ.box hB (nm := 1004) (by decide) (by simp) rfl (ltN hN rfl) (q 1)) rfl (c (OpJ.assign (ltN hN rfl) (Opd.int .i64 (0))) rfl cn))) ?_
 refine gh [(2, _), (3, _), (4, _)] [(0, some _), (1003, some _), (1004, some _)] hB rfl rfl (by rfl) ?_
 obtain ⟨r1, hr1, h⟩ := bindS h
 refine sr (c (ov (.ptr 0 0 [0]) (fp hN Tryz.underlying73 0 tyS71 _ (q 2))) rfl (c (lb hN 73 _ (.func 50 []) tyS71 (At.st1 (f := (.func 50 [])) (by rfl) (by rfl) (At.here _) (by first | rfl | omega)) (q 6)) rfl (c (ov (.ptr 1003 0 [0]) (fp hN Tryz.underlying99 0 tyS42 _ (q 3))) rfl (c (lb hN 99 _ _ tyS42 (ad _) (q 8)) rfl (c (ov (.ptr 1004 0 [0]) (fp hN Tryz.underlying99 0 tyS42 _ (q 4))) rfl (c (lb hN 99 _ _ tyS42 (ad _) (q 10)) rfl (cg (OpJ.callVal (args := [(.d (e_api_Addr a0.ffrom)), (.d (e_api_Addr a1.ffrom))]) (caps := []) hB fnOk50 [] (addr_Cmp_ac a0.ffrom a1.ffrom r1 hr1) (by kernel_rfl) (ltN hN rfl) (by kernel_rfl) (by kernel_rfl) (OpdL.cons (q 9) (OpdL.cons (q 11) OpdL.nil))) rfl (c (OpJ.assign (ltN hN rfl) (q 12)) rfl cn)))))))) ?_
 refine gh [(5, _)] [(0, some _)] hB rfl rfl (by rfl) ?_
 refine AWp.ret ?_
 obtain rfl := Option.some.inj h
 exact ⟨.inl rfl, _, _, (kp [(5, _)] [(0, some _)] hB rfl rfl (by rfl)), [(i6 r1)], (Res.tmp (by rfl) (by rfl) Res.nil), rfl, by rfl, by rfl, by rfl⟩

noncomputable def ext58_slices_SortFunc_resource_order_normal_1 (a0 : (List api_Addr_)) : Option (List api_Addr_) := sortF a0 fun x y => resource_order_normal_1 x y
theorem ext58_slices_SortFunc_resource_order_normal_1_ac (a0 : (List api_Addr_)) (r : List api_Addr_) (h : ext58_slices_SortFunc_resource_order_normal_1 a0 = some r) : AC Tryz.prog 58 [(.sref 900 6 0 a0.length), (.func 59 [(.ptr 0 0 [])])] [(0, (.box 73 (.st [(.func 50 []), (.func 52 []), (.func 133 [])]))), (900, (.row 99 6 (a0.map e_api_Addr_)))] (.tup []) [(0, some (.box 73 (.st [(.func 50 []), (.func 52 []), (.func 133 [])]))), (900, some (.row 99 6 (r.map e_api_Addr_)))] :=
 AC.sortFC e_api_Addr_ (fun x y => resource_order_normal_1 x y) a0 r h sortOk58 fnOk59 (fun _ => rfl) (by rfl) (by rfl) rfl (fun x y c hc => resource_order_normal_1_ac x y c hc)

noncomputable def resource_order_normal_L0 (r1 : List api_Addr_) (r2 : List api_Addr_) (s4 : Int × (List api_Addr_)) : Option ((((List api_Addr_))) ⊕ (Int × (List api_Addr_))) :=
 (if (decide (s4.1 < (r1.length : Int))) = true then
 jn (fun m161 : (List api_Addr_) =>
 some (.inr ((w64 (s4.1 + (1 : Int))), m161))) (fun j162 =>
 (idx r2 s4.1).bind fun x163 =>
 (idx r2 s4.1).bind fun x164 =>
 (if (decide ((w64 ((s4.2.length : Int) - (1 : Int))) < (0 : Int))) = true then
 chk (decide ((s4.2 ++ ([x164] : List api_Addr_)).length ≤ LIM)) <|
 j162 (s4.2 ++ ([x164] : List api_Addr_))
 else
 (idx s4.2 (w64 ((s4.2.length : Int) - (1 : Int)))).bind fun x167 =>
 (idx s4.2 (w64 ((s4.2.length : Int) - (1 : Int)))).bind fun x168 =>
 (addr_Next x168.fto).bind fun r169 =>
 jn (fun m179 : Bool =>
 (if m179 = true then
 chk (decide ((s4.2 ++ ([x164] : List api_Addr_)).length ≤ LIM)) <|
 j162 (s4.2 ++ ([x164] : List api_Addr_))
 else
 (idx s4.2 (w64 ((s4.2.length : Int) - (1 : Int)))).bind fun x183 =>
 (idx s4.2 (w64 ((s4.2.length : Int) - (1 : Int)))).bind fun x184 =>
 (addr_Cmp x164.fto x184.fto).bind fun r185 =>
 (if (decide ((0 : Int) < r185)) = true then
 (idx s4.2 (w64 ((s4.2.length : Int) - (1 : Int)))).bind fun x187 =>
 (idx s4.2 (w64 ((s4.2.length : Int) - (1 : Int)))).bind fun x188 =>
 j162 (s4.2.set (w64 ((s4.2.length : Int) - (1 : Int))).toNat (api_Addr_.mk x188.ffrom x164.fto))
 else
 j162 s4.2))) (fun j180 =>
 (idx s4.2 (w64 ((s4.2.length : Int) - (1 : Int)))).bind fun x189 =>
 (idx s4.2 (w64 ((s4.2.length : Int) - (1 : Int)))).bind fun x190 =>
 (addr_Cmp x164.ffrom x190.fto).bind fun r191 =>
 (if (decide ((0 : Int) < r191)) = true then
 (if r169.2 = true then
 (addr_Cmp r169.1 x164.ffrom).bind fun r194 =>
 j180 (!(r194 == (0 : Int)))
 else
 j180 (!false))
 else
 j180 false))))
 else
 some (.inl s4.2))
noncomputable def resource_order_normal (a0 : (List api_Addr_)) : Option ((List api_Addr_)) :=
 (ext57_slices_Clone_R a0).bind fun r1 =>
 (ext58_slices_SortFunc_resource_order_normal_1 r1).bind fun r2 =>
 chk (decide (r2.length = r1.length)) <|
 (loop (resource_order_normal_L0 r1 r2) ((0 : Int), ([] : List api_Addr_))).bind fun p127 =>
 some p127
theorem resource_order_normal_ac (a0 : (List api_Addr_)) (r : (List api_Addr_)) (h : resource_order_normal a0 = some r) : AC Tryz.prog 30 [(.st [(.func 50 []), (.func 52 []), (.func 133 [])]), (.d (.list 6 (a0.map e_api_Addr_)))] [] (.d (.list 6 (r.map e_api_Addr_))) [] := by
 refine AC.of_code2 Tryz.func30 rfl rfl (Nat.le_of_ble_eq_true (by rfl)) fun B hB hN => ?_
 have L {d : Nat} (h : Nat.blt d Tryz.f30.ntmps = true) : d < B.N := ltN hN h
 delta resource_order_normal at h
 refine sr (cg (OpJ.box hB (nm := 1002) (by decide) (by simp) rfl (L rfl) (q 0)) rfl (c (OpJ.assign (L rfl) Opd.nils) rfl cn)) ?_
 refine gh [(1, _), (2, _)] [(1002, some _)] hB rfl rfl (by rfl) ?_
 refine AWp.seq ?_
 obtain ⟨r1, hr1, h⟩ := bindS h
 refine AWp.region (oc (mv hN (ot 1 (qe_api_Addr__6 a0)))
 (oc (OpJ.callFn hB fnOk57 (ext57_slices_Clone_R_ac a0 r1 hr1) [(900000, 100000)] (by kernel_rfl) (L rfl) (by kernel_rfl) (OpdL.cons (ot 11 (qe_api_Addr__6 a0)) OpdL.nil))
 (oc (OpJ.assign (L rfl) (ot 12 (.sref 100000 6 0 r1.length)))
 (OpJs.nil)))) (by rfl) (by rfl) ?_
 refine seqQ_n ?_
 refine AWp.ghost (mp [] [(1, (.sref 100000 6 0 r1.length)), (2, (.ptr 1002 0 []))] [(1002, some (.box 73 (.st [(.func 50 []), (.func 52 []), (.func 133 [])]))), (100000, some (we_api_Addr__99_6 r1))] hB) ?_
 refine AWp.seq ?_
 obtain ⟨r2, hr2, h⟩ := bindS h
 obtain ⟨hc3, h⟩ := chk_some h
 have lhc3 := of_decide_eq_true hc3
 have hc3_o := of_decide_eq_true hc3
 refine AWp.region (oc (mv hN (ot 1 (.sref 100000 6 0 r1.length)))
 (oc (OpJ.makeF (OpdL.cons (ot 2 (.ptr 1002 0 [])) OpdL.nil) rfl rfl (L rfl))
 (oc (OpJ.callFn hB fnOk58 (ext58_slices_SortFunc_resource_order_normal_1_ac r1 r2 hr2) [(900, 100000), (0, 1002)] (by kernel_rfl) (L rfl) (by kernel_rfl) (OpdL.cons (ot 13 (.sref 100000 6 0 r1.length)) (OpdL.cons (ot 14 (.func 59 [(.ptr 1002 0 [])])) OpdL.nil)))
 (OpJs.nil)))) (by rfl) (by rfl) ?_
 refine seqQ_n ?_
 refine AWp.ghost (mp [] [(1, (.sref 100000 6 0 r1.length)), (2, (.ptr 1002 0 []))] [(1002, some (.box 73 (.st [(.func 50 []), (.func 52 []), (.func 133 [])]))), (100000, some (we_api_Addr__99_6 r2))] hB) ?_
 refine sr (c (OpJ.assign (L rfl) Opd.nils) rfl cn) ?_
 refine gh [(1, _), (2, _), (5, _)] [(1002, some _), (100000, some _)] hB rfl rfl (by rfl) ?_
 refine AWp.seq ?_
 refine sr (c (mv hN (q 1)) rfl (c (OpJ.lenS Tryz.underlying66 (L rfl) (q 16)) rfl (c (mv hN (Opd.int .i64 (0))) rfl cn))) ?_
 refine gh [(2, _), (5, _), (16, _), (17, _), (18, _)] [(1002, some _), (100000, some _)] hB rfl rfl (by rfl) ?_
 refine AWp.block ?_
 obtain ⟨p127, hx196, h⟩ := bindS h
 refine lg (resource_order_normal_L0 r1 r2) (fun s4 : Int × (List api_Addr_) => ([(2, (.ptr 1002 0 [])), (5, (.sref 3005 6 0 s4.2.length)), (16, (.sref 100000 6 0 r2.length)), (17, (i6 (r1.length : Int))), (18, (i6 s4.1))] : EL)) (fun s4 : Int × (List api_Addr_) => ([(1002, some (.box 73 (.st [(.func 50 []), (.func 52 []), (.func 133 [])]))), (3005, some (we_api_Addr__99_6 s4.2)), (100000, some (we_api_Addr__99_6 r2))] : OL)) (fun (p127 : ((List api_Addr_))) e E' O' => e = .exit 0 ∧ Mat B E' O' ([(5, (.sref 3005 6 0 p127.length))] : EL) ([(3005, some (we_api_Addr__99_6 p127))] : OL)) hx196 (Mat.trans (Mat.beginP (n := 3005) (e := 99) (sz := 6) (Ts := [(5, (.sref 3005 6 0 0))]) (Bs := []) hB (by decide) (by rfl) (by decide) (TwT.cons (x := .nils) (by rfl) (Tw.leaf ⟨rfl, rfl⟩) TwT.nil) TwB.nil) (Mat.trans (Mat.lenP (Ts := [(16, (.sref 100000 6 0 r2.length))]) (Bs := []) (TwT.cons (x := (.sref 100000 6 0 r1.length)) (by rfl) (Tw.leaf ⟨_, _, _, _, _, rfl, rfl, (by first | rfl | (simp; done) | (simp; omega) | omega)⟩) TwT.nil) TwB.nil) (mp [] _ _ hB))) (fun s4 y h => ?_) (fun e E' O' hR => ?_)
 ·unfold resource_order_normal_L0 at h
  refine sr (c (OpJ.lss (L rfl) (q 18) (q 17)) rfl cn) ?_
  refine gh [(2, _), (5, _), (16, _), (17, _), (18, _), (19, _)] [(1002, some _), (3005, some _), (100000, some _)] hB rfl rfl (by rfl) ?_
  refine AWp.seq ?_
  refine AWp.cond rfl (fun hg128 => ?_) (fun hg128 => ?_)
  ·replace h := ite_t hg128 h
   refine AWp.skip ?_
   refine seqQ_n ?_
   refine AWp.seq ?_
   refine AWp.cut h (fun m161 : (List api_Addr_) => ([(2, (.ptr 1002 0 [])), (5, (.sref 3005 6 0 m161.length)), (16, (.sref 100000 6 0 r2.length)), (17, (i6 (r1.length : Int))), (18, (i6 s4.1))] : EL)) (fun m161 : (List api_Addr_) => ([(1002, some (.box 73 (.st [(.func 50 []), (.func 52 []), (.func 133 [])]))), (3005, some (we_api_Addr__99_6 m161)), (100000, some (we_api_Addr__99_6 r2))] : OL)) (fun m161 h E' O' hmat => ?_) (fun j162 hjj162 h => ?_)
   ·refine seqQ_n ?_
    refine AWp.ghost hmat ?_
    refine rg (c (add6 (L rfl) (q 18) (Opd.int .i64 (1))) rfl (c (mv hN (q 89)) rfl cn)) ?_
    obtain rfl := Option.some.inj h
    exact ⟨rfl, (Mat.trans (mp [] [(2, (.ptr 1002 0 [])), (5, (.sref 3005 6 0 m161.length)), (16, (.sref 100000 6 0 r2.length)), (17, (i6 (r1.length : Int))), (18, (i6 (w64 (s4.1 + (1 : Int)))))] [(1002, some (.box 73 (.st [(.func 50 []), (.func 52 []), (.func 133 [])]))), (3005, some (we_api_Addr__99_6 m161)), (100000, some (we_api_Addr__99_6 r2))] hB) (mp [] _ _ hB))⟩
   ·refine AWp.block ?_
    obtain ⟨x163, hx163, h⟩ := bindS h
    obtain ⟨x164, hx164, h⟩ := bindS h
    refine sr (c (OpJ.val (v' := (.ptr 100000 (s4.1.toNat * 6) [s4.1.toNat])) (by simp) (OpJ.indexS Tryz.underlying66 tyS99 (idx_some hx163).1 (by have := idx_lt hx163; first | (simpa using this) | ((try simp only [List.length_map] at this); (try simp only [List.length_map]); omega)) (L rfl) (q 16) (q 18))) rfl (c (OpJ.loadR (e := 99) (sz := 6) tyS99 (get_map e_api_Addr_ (idx_some hx164).2) (o := 0) (At.here _) (by rfl) (by rfl) (by rfl) (L rfl) (q 20)) rfl (cg (OpJ.alloc hB tyZ99 (nm := 1007) (by decide) (L rfl)) rfl (cg (OpJ.storeB tyS99 (SetAt.here _ _) (by rfl) (by rfl) (by simp) rfl (q 7) (q 21)) rfl cn)))) ?_
    refine gh [(2, _), (5, _), (7, _), (16, _), (17, _), (18, _)] [(1002, some _), (1007, some _), (3005, some _), (100000, some _)] hB rfl rfl (by rfl) ?_
    refine sr (c (mv hN (q 5)) rfl (c (OpJ.lenS Tryz.underlying66 (L rfl) (q 22)) rfl (c (sub6 (L rfl) (q 23) (Opd.int .i64 (1))) rfl (c (OpJ.assign (L rfl) (q 24)) rfl cn)))) ?_
    refine gh [(2, _), (5, _), (7, _), (8, _), (16, _), (17, _), (18, _)] [(1002, some _), (1007, some _), (3005, some _), (100000, some _)] hB rfl rfl (by rfl) ?_
    refine AWp.seq ?_
    refine sr (c (mv hN (q 8)) rfl (c (OpJ.lss (L rfl) (q 25) (Opd.int .i64 (0))) rfl cn)) ?_
    refine gh [(2, _), (5, _), (7, _), (8, _), (16, _), (17, _), (18, _), (26, _)] [(1002, some _), (1007, some _), (3005, some _), (100000, some _)] hB rfl rfl (by rfl) ?_
    refine AWp.cond rfl (fun hg165 => ?_) (fun hg165 => ?_)
    ·replace h := ite_t hg165 h
     obtain ⟨hc166, h⟩ := chk_some h
     refine sr (c (mv hN (q 5)) rfl (c (lb hN 99 _ _ tyS99 (At.here _) (q 7)) rfl (c (OpJ.buildSlice Tryz.underlying66 tyS99 tyZD99 (by rfl) (by decide) (by decide) (Opds.cons (q 28) Opds.nil) (by kernel_rfl) (es := ([(e_api_Addr_ x164)] : List D)) (by rfl) (by rfl) (by kernel_rfl) (by simp) (L rfl)) rfl (cg (OpJ.append hB Tryz.underlying66 tyE99 (nm := 1030) (by decide) (es := s4.2.map e_api_Addr_) (ys := ([x164] : List api_Addr_).map e_api_Addr_) (es' := (s4.2 ++ ([x164] : List api_Addr_)).map e_api_Addr_) (len := (s4.2 ++ ([x164] : List api_Addr_)).length) (by simp) (by simp) (map_sz (f := e_api_Addr_) (fun _ => rfl)) (by rw [List.length_map]; exact lim_mulN hc166 (by decide)) (by rw [List.length_map]; exact lim_leN hc166) (L rfl) (by simp) (q 27) (q 29)) rfl (c (OpJ.assign (L rfl) (q 30)) rfl cn))))) ?_
     refine gh [(2, _), (5, _), (16, _), (17, _), (18, _)] [(1002, some _), (1030, some _), (100000, some _)] hB rfl rfl (by rfl) ?_
     refine AWp.exit ?_
     refine seqQ_e ?_
     refine blkQ_hit ?_
     exact hjj162 _ h _ _ (mp [(3005, 1030)] _ _ hB)
    ·replace h := ite_f hg165 h
     refine AWp.skip ?_
     refine seqQ_n ?_
     obtain ⟨x167, hx167, h⟩ := bindS h
     obtain ⟨x168, hx168, h⟩ := bindS h
     obtain ⟨r169, hr169, h⟩ := bindS h
     refine sd (c (ov (.ptr 1002 1 [1]) (fp hN Tryz.underlying73 1 tyS48 _ (q 2))) rfl (c (lb hN 73 _ (.func 52 []) tyS48 (At.st1 (f := (.func 52 [])) (by rfl) (by rfl) (At.here _) (by first | rfl | omega)) (q 32)) rfl (c (mv hN (q 5)) rfl (c (mv hN (q 8)) rfl (c (OpJ.val (v' := (.ptr 3005 ((w64 ((s4.2.length : Int) - (1 : Int))).toNat * 6) [(w64 ((s4.2.length : Int) - (1 : Int))).toNat])) (by simp) (OpJ.indexS Tryz.underlying66 tyS99 (idx_some hx167).1 (by have := idx_lt hx167; first | (simpa using this) | ((try simp only [List.length_map] at this); (try simp only [List.length_map]); omega)) (L rfl) (q 34) (q 35))) rfl (c (ov (.ptr 3005 (((w64 ((s4.2.length : Int) - (1 : Int))).toNat * 6) + 3) [(w64 ((s4.2.length : Int) - (1 : Int))).toNat, 1]) (fp hN Tryz.underlying99 3 tyS42 _ (q 36))) rfl (c (OpJ.loadR (e := 99) (sz := 6) tyS42 (get_map e_api_Addr_ (idx_some hx168).2) (o := 3) (ad _) (by rfl) (by rfl) (by rfl) (L rfl) (q 37)) rfl (cg (OpJ.callVal (args := [(.d (e_api_Addr x168.fto))]) (caps := []) hB fnOk52 [] (addr_Next_ac x168.fto r169 hr169) (by kernel_rfl) (L rfl) (by kernel_rfl) (by kernel_rfl) (OpdL.cons (q 38) OpdL.nil)) rfl (c (mv hN (q 39)) rfl (c (OpJ.extract (by rfl) rfl (L rfl) (q 31)) rfl (c (OpJ.extract (by rfl) rfl (L rfl) (q 31)) rfl (cg (OpJ.alloc hB tyZ42 (nm := 1009) (by decide) (L rfl)) rfl (cg (OpJ.storeB tyS42 (SetAt.here _ _) (by rfl) (by rfl) (by simp) rfl (q 9) (q 40)) rfl (c (OpJ.assign (L rfl) (q 41)) rfl cn)))))))))))))) (by kernel_rfl) (by kernel_rfl) ?_
     refine gh [(2, _), (5, _), (7, _), (8, _), (9, _), (10, _), (16, _), (17, _), (18, _)] [(1002, some _), (1007, some _), (1009, some _), (3005, some _), (100000, some _)] hB rfl rfl (by rfl) ?_
     refine AWp.block ?_
     refine AWp.seq ?_
     refine AWp.cut h (fun m179 : Bool => ([(2, (.ptr 1002 0 [])), (5, (.sref 3005 6 0 s4.2.length)), (7, (.ptr 1007 0 [])), (8, (i6 (w64 ((s4.2.length : Int) - (1 : Int))))), (16, (.sref 100000 6 0 r2.length)), (17, (i6 (r1.length : Int))), (18, (i6 s4.1)), (42, (bo m179))] : EL)) (fun m179 : Bool => ([(1002, some (.box 73 (.st [(.func 50 []), (.func 52 []), (.func 133 [])]))), (1007, some (.box 99 (.d (e_api_Addr_ x164)))), (3005, some (we_api_Addr__99_6 s4.2)), (100000, some (we_api_Addr__99_6 r2))] : OL)) (fun m179 h E' O' hmat => ?_) (fun j180 hjj180 h => ?_)
     ·refine seqQ_n ?_
      refine AWp.ghost hmat ?_
      refine AWp.cond rfl (fun hg181 => ?_) (fun hg181 => ?_)
      ·replace h := ite_t hg181 h
       obtain ⟨hc182, h⟩ := chk_some h
       refine rg (c (mv hN (q 5)) rfl (c (lb hN 99 _ _ tyS99 (At.here _) (q 7)) rfl (c (OpJ.buildSlice Tryz.underlying66 tyS99 tyZD99 (by rfl) (by decide) (by decide) (Opds.cons (q 68) Opds.nil) (by kernel_rfl) (es := ([(e_api_Addr_ x164)] : List D)) (by rfl) (by rfl) (by kernel_rfl) (by simp) (L rfl)) rfl (cg (OpJ.append hB Tryz.underlying66 tyE99 (nm := 1070) (by decide) (es := s4.2.map e_api_Addr_) (ys := ([x164] : List api_Addr_).map e_api_Addr_) (es' := (s4.2 ++ ([x164] : List api_Addr_)).map e_api_Addr_) (len := (s4.2 ++ ([x164] : List api_Addr_)).length) (by simp) (by simp) (map_sz (f := e_api_Addr_) (fun _ => rfl)) (by rw [List.length_map]; exact lim_mulN hc182 (by decide)) (by rw [List.length_map]; exact lim_leN hc182) (L rfl) (by simp) (q 67) (q 69)) rfl (c (OpJ.assign (L rfl) (q 70)) rfl cn))))) ?_
       refine blkQ_n ?_
       refine blkQ_n ?_
       exact hjj162 _ h _ _ (Mat.trans (mp [] [(2, (.ptr 1002 0 [])), (5, (.sref 1070 6 0 ((s4.2 ++ ([x164] : List api_Addr_)).length))), (16, (.sref 100000 6 0 r2.length)), (17, (i6 (r1.length : Int))), (18, (i6 s4.1))] [(1002, some (.box 73 (.st [(.func 50 []), (.func 52 []), (.func 133 [])]))), (1070, some (we_api_Addr__99_6 (s4.2 ++ ([x164] : List api_Addr_)))), (100000, some (we_api_Addr__99_6 r2))] hB) (mp [(3005, 1070)] _ _ hB))
      ·replace h := ite_f hg181 h
       obtain ⟨x183, hx183, h⟩ := bindS h
       obtain ⟨x184, hx184, h⟩ := bindS h
       obtain ⟨r185, hr185, h⟩ := bindS h
       refine sd (c (ov (.ptr 1002 0 [0]) (fp hN Tryz.underlying73 0 tyS71 _ (q 2))) rfl (c (lb hN 73 _ (.func 50 []) tyS71 (At.st1 (f := (.func 50 [])) (by rfl) (by rfl) (At.here _) (by first | rfl | omega)) (q 72)) rfl (c (ov (.ptr 1007 3 [1]) (fp hN Tryz.underlying99 3 tyS42 _ (q 7))) rfl (c (lb hN 99 _ _ tyS42 (ad _) (q 74)) rfl (c (mv hN (q 5)) rfl (c (mv hN (q 8)) rfl (c (OpJ.val (v' := (.ptr 3005 ((w64 ((s4.2.length : Int) - (1 : Int))).toNat * 6) [(w64 ((s4.2.length : Int) - (1 : Int))).toNat])) (by simp) (OpJ.indexS Tryz.underlying66 tyS99 (idx_some hx183).1 (by have := idx_lt hx183; first | (simpa using this) | ((try simp only [List.length_map] at this); (try simp only [List.length_map]); omega)) (L rfl) (q 76) (q 77))) rfl (c (ov (.ptr 3005 (((w64 ((s4.2.length : Int) - (1 : Int))).toNat * 6) + 3) [(w64 ((s4.2.length : Int) - (1 : Int))).toNat, 1]) (fp hN Tryz.underlying99 3 tyS42 _ (q 78))) rfl (c (OpJ.loadR (e := 99) (sz := 6) tyS42 (get_map e_api_Addr_ (idx_some hx184).2) (o := 3) (ad _) (by rfl) (by rfl) (by rfl) (L rfl) (q 79)) rfl (cg (OpJ.callVal (args := [(.d (e_api_Addr x164.fto)), (.d (e_api_Addr x184.fto))]) (caps := []) hB fnOk50 [] (addr_Cmp_ac x164.fto x184.fto r185 hr185) (by kernel_rfl) (L rfl) (by kernel_rfl) (by kernel_rfl) (OpdL.cons (q 75) (OpdL.cons (q 80) OpdL.nil))) rfl (c (OpJ.gtr (L rfl) (q 81) (Opd.int .i64 (0))) rfl (c (OpJ.assign (L rfl) (q 82)) rfl cn)))))))))))) (by kernel_rfl) (by kernel_rfl) ?_
       refine gh [(2, _), (5, _), (7, _), (8, _), (16, _), (17, _), (18, _), (71, _)] [(1002, some _), (1007, some _), (3005, some _), (100000, some _)] hB rfl rfl (by rfl) ?_
       refine AWp.cond rfl (fun hg186 => ?_) (fun hg186 => ?_)
       ·replace h := ite_t hg186 h
        obtain ⟨x187, hx187, h⟩ := bindS h
        obtain ⟨x188, hx188, h⟩ := bindS h
        refine rg (c (mv hN (q 5)) rfl (c (mv hN (q 8)) rfl (c (ov (.ptr 1007 3 [1]) (fp hN Tryz.underlying99 3 tyS42 _ (q 7))) rfl (c (lb hN 99 _ _ tyS42 (ad _) (q 85)) rfl (c (OpJ.val (v' := (.ptr 3005 ((w64 ((s4.2.length : Int) - (1 : Int))).toNat * 6) [(w64 ((s4.2.length : Int) - (1 : Int))).toNat])) (by simp) (OpJ.indexS Tryz.underlying66 tyS99 (idx_some hx187).1 (by have := idx_lt hx187; first | (simpa using this) | ((try simp only [List.length_map] at this); (try simp only [List.length_map]); omega)) (L rfl) (q 83) (q 84))) rfl (c (ov (.ptr 3005 (((w64 ((s4.2.length : Int) - (1 : Int))).toNat * 6) + 3) [(w64 ((s4.2.length : Int) - (1 : Int))).toNat, 1]) (fp hN Tryz.underlying99 3 tyS42 _ (q 87))) rfl (cg (OpJ.storeR (e := 99) (sz := 6) (es' := (s4.2.set (w64 ((s4.2.length : Int) - (1 : Int))).toNat (api_Addr_.mk x188.ffrom x164.fto)).map e_api_Addr_) tyS42 (get_map e_api_Addr_ (idx_some hx188).2) (o := 3) (SetAt.dst1 (by rfl) (by rfl) (SetAt.here _ _) (by rfl) (by rfl) (by first | rfl | omega)) (by rfl) (map_set _ _ _ _) (by rfl) (by rfl) (q 88) (q 86)) rfl cn))))))) ?_
        refine blkQ_n ?_
        refine blkQ_n ?_
        exact hjj162 _ h _ _ (Mat.trans (mp [] [(2, (.ptr 1002 0 [])), (5, (.sref 3005 6 0 s4.2.length)), (16, (.sref 100000 6 0 r2.length)), (17, (i6 (r1.length : Int))), (18, (i6 s4.1))] [(1002, some (.box 73 (.st [(.func 50 []), (.func 52 []), (.func 133 [])]))), (3005, some (we_api_Addr__99_6 (s4.2.set (w64 ((s4.2.length : Int) - (1 : Int))).toNat (api_Addr_.mk x188.ffrom x164.fto)))), (100000, some (we_api_Addr__99_6 r2))] hB) (Mat.trans (Mat.lenP (Ts := [(5, (.sref 3005 6 0 ((s4.2.set (w64 ((s4.2.length : Int) - (1 : Int))).toNat (api_Addr_.mk x188.ffrom x164.fto)).length)))]) (Bs := []) (TwT.cons (x := (.sref 3005 6 0 s4.2.length)) (by rfl) (Tw.leaf ⟨_, _, _, _, _, rfl, rfl, (by first | rfl | (simp; done) | (simp; omega) | omega)⟩) TwT.nil) TwB.nil) (mp [] _ _ hB)))
       ·replace h := ite_f hg186 h
        refine AWp.skip ?_
        refine blkQ_n ?_
        refine blkQ_n ?_
        exact hjj162 _ h _ _ (mp [] _ _ hB)
     ·obtain ⟨x189, hx189, h⟩ := bindS h
      obtain ⟨x190, hx190, h⟩ := bindS h
      obtain ⟨r191, hr191, h⟩ := bindS h
      rcases Bool.eq_false_or_eq_true (decide ((0 : Int) < r191)) with hg192 | hg192
      ·replace h := ite_t hg192 h
       rcases Bool.eq_false_or_eq_true r169.2 with hg193 | hg193
       ·replace h := ite_t hg193 h
        obtain ⟨r194, hr194, h⟩ := bindS h
        refine dr (c (ov (.ptr 1002 0 [0]) (fp hN Tryz.underlying73 0 tyS71 _ (q 2))) rfl (c (lb hN 73 _ (.func 50 []) tyS71 (At.st1 (f := (.func 50 [])) (by rfl) (by rfl) (At.here _) (by first | rfl | omega)) (q 43)) rfl (c (ov (.ptr 1007 0 [0]) (fp hN Tryz.underlying99 0 tyS42 _ (q 7))) rfl (c (lb hN 99 _ _ tyS42 (ad _) (q 45)) rfl (c (mv hN (q 5)) rfl (c (mv hN (q 8)) rfl (c (OpJ.val (v' := (.ptr 3005 ((w64 ((s4.2.length : Int) - (1 : Int))).toNat * 6) [(w64 ((s4.2.length : Int) - (1 : Int))).toNat])) (by simp) (OpJ.indexS Tryz.underlying66 tyS99 (idx_some hx189).1 (by have := idx_lt hx189; first | (simpa using this) | ((try simp only [List.length_map] at this); (try simp only [List.length_map]); omega)) (L rfl) (q 47) (q 48))) rfl (c (ov (.ptr 3005 (((w64 ((s4.2.length : Int) - (1 : Int))).toNat * 6) + 3) [(w64 ((s4.2.length : Int) - (1 : Int))).toNat, 1]) (fp hN Tryz.underlying99 3 tyS42 _ (q 49))) rfl (c (OpJ.loadR (e := 99) (sz := 6) tyS42 (get_map e_api_Addr_ (idx_some hx190).2) (o := 3) (ad _) (by rfl) (by rfl) (by rfl) (L rfl) (q 50)) rfl (cg (OpJ.callVal (args := [(.d (e_api_Addr x164.ffrom)), (.d (e_api_Addr x190.fto))]) (caps := []) hB fnOk50 [] (addr_Cmp_ac x164.ffrom x190.fto r191 hr191) (by kernel_rfl) (L rfl) (by kernel_rfl) (by kernel_rfl) (OpdL.cons (q 46) (OpdL.cons (q 51) OpdL.nil))) rfl (c (OpJ.gtr (L rfl) (q 52) (Opd.int .i64 (0))) rfl (c (OpJ.val (v' := .d (.bool true)) (by rw [hg192] <;> rfl) (mv hN (q 53))) rfl (c (gd 54 (mv hN (q 10))) rfl (c (gd 54 (OpJ.val (v' := .d (.bool true)) (by rw [hg193] <;> rfl) (mv hN (q 55)))) rfl (c (gd 56 (ov (.ptr 1002 0 [0]) (fp hN Tryz.underlying73 0 tyS71 _ (q 2)))) rfl (c (gd 56 (lb hN 73 _ (.func 50 []) tyS71 (At.st1 (f := (.func 50 [])) (by rfl) (by rfl) (At.here _) (by first | rfl | omega)) (q 57))) rfl (c (gd 56 (lb hN 42 _ _ tyS42 (At.here _) (q 9))) rfl (c (gd 56 (ov (.ptr 1007 0 [0]) (fp hN Tryz.underlying99 0 tyS42 _ (q 7)))) rfl (c (gd 56 (lb hN 99 _ _ tyS42 (ad _) (q 60))) rfl (cg (gd 56 (OpJ.callVal (args := [(.d (e_api_Addr r169.1)), (.d (e_api_Addr x164.ffrom))]) (caps := []) hB fnOk50 [] (addr_Cmp_ac r169.1 x164.ffrom r194 hr194) (by kernel_rfl) (L rfl) (by kernel_rfl) (by kernel_rfl) (OpdL.cons (q 59) (OpdL.cons (q 61) OpdL.nil)))) rfl (c (gd 56 (OpJ.eqlI (L rfl) (q 62) (Opd.int .i64 (0)))) rfl (c (gd 54 (OpJ.pickT (L rfl) (q 56) (q 63))) rfl (c (gd 54 (OpJ.not (L rfl) (q 64))) rfl (c (OpJ.pickT (L rfl) (q 54) (q 65)) rfl (c (OpJ.assign (L rfl) (q 66)) rfl cn))))))))))))))))))))))))) (by kernel_rfl) (by kernel_rfl) ?_
        exact hjj180 _ h _ _ (Mat.trans (mp [] [(2, (.ptr 1002 0 [])), (5, (.sref 3005 6 0 s4.2.length)), (7, (.ptr 1007 0 [])), (8, (i6 (w64 ((s4.2.length : Int) - (1 : Int))))), (16, (.sref 100000 6 0 r2.length)), (17, (i6 (r1.length : Int))), (18, (i6 s4.1)), (42, (bo (!(r194 == (0 : Int)))))] [(1002, some (.box 73 (.st [(.func 50 []), (.func 52 []), (.func 133 [])]))), (1007, some (.box 99 (.d (e_api_Addr_ x164)))), (3005, some (we_api_Addr__99_6 s4.2)), (100000, some (we_api_Addr__99_6 r2))] hB) (mp [] _ _ hB))
       ·replace h := ite_f hg193 h
        refine dr (c (ov (.ptr 1002 0 [0]) (fp hN Tryz.underlying73 0 tyS71 _ (q 2))) rfl (c (lb hN 73 _ (.func 50 []) tyS71 (At.st1 (f := (.func 50 [])) (by rfl) (by rfl) (At.here _) (by first | rfl | omega)) (q 43)) rfl (c (ov (.ptr 1007 0 [0]) (fp hN Tryz.underlying99 0 tyS42 _ (q 7))) rfl (c (lb hN 99 _ _ tyS42 (ad _) (q 45)) rfl (c (mv hN (q 5)) rfl (c (mv hN (q 8)) rfl (c (OpJ.val (v' := (.ptr 3005 ((w64 ((s4.2.length : Int) - (1 : Int))).toNat * 6) [(w64 ((s4.2.length : Int) - (1 : Int))).toNat])) (by simp) (OpJ.indexS Tryz.underlying66 tyS99 (idx_some hx189).1 (by have := idx_lt hx189; first | (simpa using this) | ((try simp only [List.length_map] at this); (try simp only [List.length_map]); omega)) (L rfl) (q 47) (q 48))) rfl (c (ov (.ptr 3005 (((w64 ((s4.2.length : Int) - (1 : Int))).toNat * 6) + 3) [(w64 ((s4.2.length : Int) - (1 : Int))).toNat, 1]) (fp hN Tryz.underlying99 3 tyS42 _ (q 49))) rfl (c (OpJ.loadR (e := 99) (sz := 6) tyS42 (get_map e_api_Addr_ (idx_some hx190).2) (o := 3) (ad _) (by rfl) (by rfl) (by rfl) (L rfl) (q 50)) rfl (cg (OpJ.callVal (args := [(.d (e_api_Addr x164.ffrom)), (.d (e_api_Addr x190.fto))]) (caps := []) hB fnOk50 [] (addr_Cmp_ac x164.ffrom x190.fto r191 hr191) (by kernel_rfl) (L rfl) (by kernel_rfl) (by kernel_rfl) (OpdL.cons (q 46) (OpdL.cons (q 51) OpdL.nil))) rfl (c (OpJ.gtr (L rfl) (q 52) (Opd.int .i64 (0))) rfl (c (OpJ.val (v' := .d (.bool true)) (by rw [hg192] <;> rfl) (mv hN (q 53))) rfl (c (gd 54 (mv hN (q 10))) rfl (c (gd 54 (OpJ.val (v' := .d (.bool false)) (by rw [hg193] <;> rfl) (mv hN (q 55)))) rfl (cg (sU 56 (L rfl)) rfl (cg (sU 56 (L rfl)) rfl (cg (sU 56 (L rfl)) rfl (cg (sU 56 (L rfl)) rfl (cg (sU 56 (L rfl)) rfl (cg (sU 56 (L rfl)) rfl (cg (sU 56 (L rfl)) rfl (c (gd 54 (OpJ.pickF (L rfl) (q 56) (Opd.bool false))) rfl (c (gd 54 (OpJ.not (L rfl) (q 64))) rfl (c (OpJ.pickT (L rfl) (q 54) (q 65)) rfl (c (OpJ.assign (L rfl) (q 66)) rfl cn))))))))))))))))))))))))) (by kernel_rfl) (by kernel_rfl) ?_
        exact hjj180 _ h _ _ (Mat.trans (mp [] [(2, (.ptr 1002 0 [])), (5, (.sref 3005 6 0 s4.2.length)), (7, (.ptr 1007 0 [])), (8, (i6 (w64 ((s4.2.length : Int) - (1 : Int))))), (16, (.sref 100000 6 0 r2.length)), (17, (i6 (r1.length : Int))), (18, (i6 s4.1)), (42, (bo (!false)))] [(1002, some (.box 73 (.st [(.func 50 []), (.func 52 []), (.func 133 [])]))), (1007, some (.box 99 (.d (e_api_Addr_ x164)))), (3005, some (we_api_Addr__99_6 s4.2)), (100000, some (we_api_Addr__99_6 r2))] hB) (mp [] _ _ hB))
      ·replace h := ite_f hg192 h
       refine dr (c (ov (.ptr 1002 0 [0]) (fp hN Tryz.underlying73 0 tyS71 _ (q 2))) rfl (c (lb hN 73 _ (.func 50 []) tyS71 (At.st1 (f := (.func 50 [])) (by rfl) (by rfl) (At.here _) (by first | rfl | omega)) (q 43)) rfl (c (ov (.ptr 1007 0 [0]) (fp hN Tryz.underlying99 0 tyS42 _ (q 7))) rfl (c (lb hN 99 _ _ tyS42 (ad _) (q 45)) rfl (c (mv hN (q 5)) rfl (c (mv hN (q 8)) rfl (c (OpJ.val (v' := (.ptr 3005 ((w64 ((s4.2.length : Int) - (1 : Int))).toNat * 6) [(w64 ((s4.2.length : Int) - (1 : Int))).toNat])) (by simp) (OpJ.indexS Tryz.underlying66 tyS99 (idx_some hx189).1 (by have := idx_lt hx189; first | (simpa using this) | ((try simp only [List.length_map] at this); (try simp only [List.length_map]); omega)) (L rfl) (q 47) (q 48))) rfl (c (ov (.ptr 3005 (((w64 ((s4.2.length : Int) - (1 : Int))).toNat * 6) + 3) [(w64 ((s4.2.length : Int) - (1 : Int))).toNat, 1]) (fp hN Tryz.underlying99 3 tyS42 _ (q 49))) rfl (c (OpJ.loadR (e := 99) (sz := 6) tyS42 (get_map e_api_Addr_ (idx_some hx190).2) (o := 3) (ad _) (by rfl) (by rfl) (by rfl) (L rfl) (q 50)) rfl (cg (OpJ.callVal (args := [(.d (e_api_Addr x164.ffrom)), (.d (e_api_Addr x190.fto))]) (caps := []) hB fnOk50 [] (addr_Cmp_ac x164.ffrom x190.fto r191 hr191) (by kernel_rfl) (L rfl) (by kernel_rfl) (by kernel_rfl) (OpdL.cons (q 46) (OpdL.cons (q 51) OpdL.nil))) rfl (c (OpJ.gtr (L rfl) (q 52) (Opd.int .i64 (0))) rfl (c (OpJ.val (v' := .d (.bool false)) (by rw [hg192] <;> rfl) (mv hN (q 53))) rfl (cg (sU 54 (L rfl)) rfl (cg (sU 54 (L rfl)) rfl (cg (sV 56 (L rfl)) rfl (cg (sV 56 (L rfl)) rfl (cg (sV 56 (L rfl)) rfl (cg (sV 56 (L rfl)) rfl (cg (sV 56 (L rfl)) rfl (cg (sV 56 (L rfl)) rfl (cg (sV 56 (L rfl)) rfl (cg (sU 54 (L rfl)) rfl (cg (sU 54 (L rfl)) rfl (c (OpJ.pickF (L rfl) (q 54) (Opd.bool false)) rfl (c (OpJ.assign (L rfl) (q 66)) rfl cn))))))))))))))))))))))))) (by kernel_rfl) (by kernel_rfl) ?_
       exact hjj180 _ h _ _ (Mat.trans (mp [] [(2, (.ptr 1002 0 [])), (5, (.sref 3005 6 0 s4.2.length)), (7, (.ptr 1007 0 [])), (8, (i6 (w64 ((s4.2.length : Int) - (1 : Int))))), (16, (.sref 100000 6 0 r2.length)), (17, (i6 (r1.length : Int))), (18, (i6 s4.1)), (42, (bo false))] [(1002, some (.box 73 (.st [(.func 50 []), (.func 52 []), (.func 133 [])]))), (1007, some (.box 99 (.d (e_api_Addr_ x164)))), (3005, some (we_api_Addr__99_6 s4.2)), (100000, some (we_api_Addr__99_6 r2))] hB) (mp [] _ _ hB))
  ·replace h := ite_f hg128 h
   refine AWp.exit ?_
   refine seqQ_e ?_
   obtain rfl := Option.some.inj h
   exact ⟨(fun hc => by cases hc), rfl, (mp [] _ _ hB)⟩
 ·obtain ⟨rfl, hmat⟩ := hR
  refine blkQ_hit ?_
  refine seqQ_n ?_
  refine AWp.ghost hmat ?_
  refine sr (c (mv hN (q 5)) rfl (c (OpJ.assign (L rfl) (q 90)) rfl cn)) ?_
  refine gh [(4, _)] [(3005, some _)] hB rfl rfl (by rfl) ?_
  refine AWp.ret ?_
  obtain rfl := Option.some.inj h
  exact ⟨.inl rfl, _, _, (Mat.trans (Mat.freezeP (n := 3005) (e := 99) (sz := 6) (es := p127.map e_api_Addr_) (Ts := [(4, (qe_api_Addr__6 p127))]) (Bs := []) (by rfl) (TwT.cons (x := (.sref 3005 6 0 p127.length)) (by rfl) (FrzL.all (by first | rfl | (simp; done) | (simp; omega) | omega)) TwT.nil) TwB.nil) (mp [] [(4, (qe_api_Addr__6 p127))] [] hB)), [(qe_api_Addr__6 p127)], (Res.tmp (by rfl) (by rfl) Res.nil), rfl, by rfl, by rfl, by rfl⟩

noncomputable def resource_of_3_L0 (a0 : api_Resources) (s1 : Int × (List api_Addr_)) : Option ((((List api_Addr_))) ⊕ (Int × (List api_Addr_))) :=
 (if (decide (s1.1 < (a0.fAddrs.length : Int))) = true then
 (idx a0.fAddrs s1.1).bind fun x10 =>
 chk (decide ((s1.2 ++ ([(api_Addr_.mk x10.fFrom x10.fTo)] : List api_Addr_)).length ≤ LIM)) <|
 some (.inr ((w64 (s1.1 + (1 : Int))), (s1.2 ++ ([(api_Addr_.mk x10.fFrom x10.fTo)] : List api_Addr_))))
 else
 some (.inl s1.2))
noncomputable def resource_of_3_L1 (a0 : api_Resources) (s14 : Int × (List resource_part_int_)) : Option ((((List resource_part_int_))) ⊕ (Int × (List resource_part_int_))) :=
 (if (decide (s14.1 < (a0.fASNs.length : Int))) = true then
 (idx a0.fASNs s14.1).bind fun x23 =>
 chk (decide ((s14.2 ++ ([(resource_part_int_.mk x23.fFrom x23.fTo)] : List resource_part_int_)).length ≤ LIM)) <|
 some (.inr ((w64 (s14.1 + (1 : Int))), (s14.2 ++ ([(resource_part_int_.mk x23.fFrom x23.fTo)] : List resource_part_int_))))
 else
 some (.inl s14.2))
noncomputable def resource_of_3 (a0 : api_Resources) : Option (resource_set) :=
 (loop (resource_of_3_L0 a0) ((0 : Int), ([] : List api_Addr_))).bind fun p8 =>
 (loop (resource_of_3_L1 a0) ((0 : Int), ([] : List resource_part_int_))).bind fun p21 =>
 some (resource_set.mk p8 p21)
theorem resource_of_3_ac (a0 : api_Resources) (r : resource_set) (h : resource_of_3 a0 = some r) : AC Tryz.prog 29 [(.d (e_api_Resources a0))] [] (.st [(.sref 900000 6 0 r.faddrs.length), (.sref 900001 2 0 r.fasns.length)]) [(900000, some (.row 99 6 (r.faddrs.map e_api_Addr_))), (900001, some (.row 101 2 (r.fasns.map e_resource_part_int_)))] := by
 refine AC.of_code2 Tryz.func29 rfl rfl (Nat.le_of_ble_eq_true (by rfl)) fun B hB hN => ?_
 have L {d : Nat} (h : Nat.blt d Tryz.f29.ntmps = true) : d < B.N := ltN hN h
 delta resource_of_3 at h
 refine sr (cg (OpJ.box hB (nm := 1001) (by decide) (by simp) rfl (L rfl) (q 0)) rfl (cg (OpJ.alloc hB tyZ69 (nm := 1002) (by decide) (L rfl)) rfl cn)) ?_
 refine gh [(1, _), (2, _)] [(1001, some _), (1002, some _)] hB rfl rfl (by rfl) ?_
 refine sr (cg (OpJ.alloc hB tyZ69 (nm := 1003) (by decide) (L rfl)) rfl cn) ?_
 refine gh [(1, _), (2, _), (3, _)] [(1001, some _), (1002, some _), (1003, some _)] hB rfl rfl (by rfl) ?_
 refine AWp.seq ?_
 refine sr (c (ov (.ptr 1001 0 [0]) (fp hN Tryz.underlying25 0 tyS22 _ (q 1))) rfl (c (lb hN 25 _ _ tyS22 (ad _) (q 8)) rfl (c (OpJ.val (v' := (i6 (a0.fAddrs.length : Int))) (by simp) (OpJ.lenD Tryz.underlying22 (L rfl) (q 9))) rfl (c (mv hN (Opd.int .i64 (0))) rfl cn)))) ?_
 refine gh [(1, _), (2, _), (3, _), (9, _), (10, _), (11, _)] [(1001, some _), (1002, some _), (1003, some _)] hB rfl rfl (by rfl) ?_
 refine AWp.block ?_
 obtain ⟨p8, hx13, h⟩ := bindS h
 refine lg (resource_of_3_L0 a0) (fun s1 : Int × (List api_Addr_) => ([(1, (.ptr 1001 0 [])), (2, (.ptr 1002 0 [])), (3, (.ptr 1003 0 [])), (9, (qe_api_Range_6 a0.fAddrs)), (10, (i6 (a0.fAddrs.length : Int))), (11, (i6 s1.1))] : EL)) (fun s1 : Int × (List api_Addr_) => ([(1001, some (.box 25 (.d (e_api_Resources a0)))), (1002, some (.box 69 (.st [.nils, .nils]))), (1003, some (.box 69 (.st [(.sref 13030 6 0 s1.2.length), .nils]))), (13030, some (we_api_Addr__99_6 s1.2))] : OL)) (fun (p8 : ((List api_Addr_))) e E' O' => e = .exit 0 ∧ Mat B E' O' ([(1, (.ptr 1001 0 [])), (2, (.ptr 1002 0 [])), (3, (.ptr 1003 0 []))] : EL) ([(1001, some (.box 25 (.d (e_api_Resources a0)))), (1002, some (.box 69 (.st [.nils, .nils]))), (1003, some (.box 69 (.st [(.sref 13030 6 0 p8.length), .nils]))), (13030, some (we_api_Addr__99_6 p8))] : OL)) hx13 (Mat.trans (Mat.beginP (n := 13030) (e := 99) (sz := 6) (Ts := []) (Bs := [(1003, some (.box 69 (.st [(.sref 13030 6 0 0), .nils])))]) hB (by decide) (by rfl) (by decide) TwT.nil (TwB.cons (x := (.st [.nils, .nils])) (by rfl) (Tw.st (TwL.cons (Tw.leaf ⟨rfl, rfl⟩) (TwL.cons (Tw.same _) TwL.nil))) TwB.nil)) (mp [] _ _ hB)) (fun s1 y h => ?_) (fun e E' O' hR => ?_)
 ·unfold resource_of_3_L0 at h
  refine sr (c (OpJ.lss (L rfl) (q 11) (q 10)) rfl cn) ?_
  refine gh [(1, _), (2, _), (3, _), (9, _), (10, _), (11, _), (12, _)] [(1001, some _), (1002, some _), (1003, some _), (13030, some _)] hB rfl rfl (by rfl) ?_
  refine AWp.seq ?_
  refine AWp.cond rfl (fun hg9 => ?_) (fun hg9 => ?_)
  ·replace h := ite_t hg9 h
   refine AWp.skip ?_
   refine seqQ_n ?_
   refine AWp.seq ?_
   refine AWp.block ?_
   obtain ⟨x10, hx10, h⟩ := bindS h
   refine sr (c (OpJ.indexD Tryz.underlying22 tyS46 (idx_some hx10).1 (get_map e_api_Range (idx_some hx10).2) (L rfl) (q 9) (q 11)) rfl (c (OpJ.loadD tyS46 (by rfl) (by rfl) (L rfl) (q 13)) rfl (cg (OpJ.alloc hB tyZ46 (nm := 1005) (by decide) (L rfl)) rfl (cg (OpJ.storeB tyS46 (SetAt.here _ _) (by rfl) (by rfl) (by simp) rfl (q 5) (q 14)) rfl cn)))) ?_
   refine gh [(1, _), (2, _), (3, _), (5, _), (9, _), (10, _), (11, _)] [(1001, some _), (1002, some _), (1003, some _), (1005, some _), (13030, some _)] hB rfl rfl (by rfl) ?_
   obtain ⟨hc11, h⟩ := chk_some h
   refine rg (c (ov (.ptr 1003 0 [0]) (fp hN Tryz.underlying69 0 tyS66 _ (q 3))) rfl (c (lb hN 69 _ (.sref 13030 6 0 s1.2.length) tyS66 (At.st1 (f := (.sref 13030 6 0 s1.2.length)) (by rfl) (by rfl) (At.here _) (by first | rfl | omega)) (q 15)) rfl (c (ov (.ptr 1005 0 [0]) (fp hN Tryz.underlying46 0 tyS42 _ (q 5))) rfl (c (lb hN 46 _ _ tyS42 (ad _) (q 17)) rfl (c (ov (.ptr 1005 3 [1]) (fp hN Tryz.underlying46 3 tyS42 _ (q 5))) rfl (c (lb hN 46 _ _ tyS42 (ad _) (q 19)) rfl (c (OpJ.coe (v := (.st [(.d (e_api_Addr x10.fFrom)), (.d (e_api_Addr x10.fTo))])) (y := (.st [(e_api_Addr x10.fFrom), (e_api_Addr x10.fTo)])) (Co.st (CoL.cons (Co.d _) (CoL.cons (Co.d _) CoL.nil))) rfl (OpJ.build (places := [(0, 3), (3, 3)]) ⟨Tryz.underlying99, fun w => by kernel_rfl⟩ tyZS99 (Opds.cons (q 18) (Opds.cons (q 20) Opds.nil)) (by kernel_rfl) (r := (.st [(.d (e_api_Addr x10.fFrom)), (.d (e_api_Addr x10.fTo))])) (by rfl) (L rfl))) rfl (c (OpJ.buildSlice Tryz.underlying66 tyS99 tyZD99 (by rfl) (by decide) (by decide) (Opds.cons (q 21) Opds.nil) (by kernel_rfl) (es := ([(.st [(e_api_Addr x10.fFrom), (e_api_Addr x10.fTo)])] : List D)) (by rfl) (by rfl) (by kernel_rfl) (by simp) (L rfl)) rfl (cg (OpJ.append hB Tryz.underlying66 tyE99 (nm := 1023) (by decide) (es := s1.2.map e_api_Addr_) (ys := ([(api_Addr_.mk x10.fFrom x10.fTo)] : List api_Addr_).map e_api_Addr_) (es' := (s1.2 ++ ([(api_Addr_.mk x10.fFrom x10.fTo)] : List api_Addr_)).map e_api_Addr_) (len := (s1.2 ++ ([(api_Addr_.mk x10.fFrom x10.fTo)] : List api_Addr_)).length) (by simp) (by simp) (map_sz (f := e_api_Addr_) (fun _ => rfl)) (by rw [List.length_map]; exact lim_mulN hc11 (by decide)) (by rw [List.length_map]; exact lim_leN hc11) (L rfl) (by simp) (q 16) (q 22)) rfl (c (ov (.ptr 1003 0 [0]) (fp hN Tryz.underlying69 0 tyS66 _ (q 3))) rfl (cg (OpJ.storeB (c' := (.st [(.sref 1023 6 0 ((s1.2 ++ ([(api_Addr_.mk x10.fFrom x10.fTo)] : List api_Addr_)).length)), .nils])) tyS66 (SetAt.st1 (f := (.sref 13030 6 0 s1.2.length)) (by rfl) (by rfl) (SetAt.here _ _) (by rfl) (by rfl) (by first | rfl | omega)) (by rfl) (by rfl) (by simp) rfl (q 24) (q 23)) rfl cn))))))))))) ?_
   refine blkQ_n ?_
   refine seqQ_n ?_
   refine gh [(1, _), (2, _), (3, _), (9, _), (10, _), (11, _)] [(1001, some _), (1002, some _), (1003, some _), (1023, some _)] hB rfl rfl (by rfl) ?_
   refine rg (c (add6 (L rfl) (q 11) (Opd.int .i64 (1))) rfl (c (mv hN (q 25)) rfl cn)) ?_
   obtain rfl := Option.some.inj h
   exact ⟨rfl, (Mat.trans (mp [] [(1, (.ptr 1001 0 [])), (2, (.ptr 1002 0 [])), (3, (.ptr 1003 0 [])), (9, (qe_api_Range_6 a0.fAddrs)), (10, (i6 (a0.fAddrs.length : Int))), (11, (i6 (w64 (s1.1 + (1 : Int)))))] [(1001, some (.box 25 (.d (e_api_Resources a0)))), (1002, some (.box 69 (.st [.nils, .nils]))), (1003, some (.box 69 (.st [(.sref 1023 6 0 ((s1.2 ++ ([(api_Addr_.mk x10.fFrom x10.fTo)] : List api_Addr_)).length)), .nils]))), (1023, some (we_api_Addr__99_6 (s1.2 ++ ([(api_Addr_.mk x10.fFrom x10.fTo)] : List api_Addr_))))] hB) (mp [(13030, 1023)] _ _ hB))⟩
  ·replace h := ite_f hg9 h
   refine AWp.exit ?_
   refine seqQ_e ?_
   obtain rfl := Option.some.inj h
   exact ⟨(fun hc => by cases hc), rfl, (mp [] _ _ hB)⟩
 ·obtain ⟨rfl, hmat⟩ := hR
  refine blkQ_hit ?_
  refine seqQ_n ?_
  refine AWp.ghost hmat ?_
  refine AWp.seq ?_
  refine sr (c (ov (.ptr 1001 1 [1]) (fp hN Tryz.underlying25 1 tyS23 _ (q 1))) rfl (c (lb hN 25 _ _ tyS23 (ad _) (q 26)) rfl (c (OpJ.val (v' := (i6 (a0.fASNs.length : Int))) (by simp) (OpJ.lenD Tryz.underlying23 (L rfl) (q 27))) rfl (c (mv hN (Opd.int .i64 (0))) rfl cn)))) ?_
  refine gh [(2, _), (3, _), (27, _), (28, _), (29, _)] [(1002, some _), (1003, some _), (13030, some _)] hB rfl rfl (by rfl) ?_
  refine AWp.block ?_
  obtain ⟨p21, hx26, h⟩ := bindS h
  refine lg (resource_of_3_L1 a0) (fun s14 : Int × (List resource_part_int_) => ([(2, (.ptr 1002 0 [])), (3, (.ptr 1003 0 [])), (27, (qe_api_Span_2 a0.fASNs)), (28, (i6 (a0.fASNs.length : Int))), (29, (i6 s14.1))] : EL)) (fun s14 : Int × (List resource_part_int_) => ([(1002, some (.box 69 (.st [.nils, .nils]))), (1003, some (.box 69 (.st [(.sref 13030 6 0 p8.length), (.sref 13031 2 0 s14.2.length)]))), (13030, some (we_api_Addr__99_6 p8)), (13031, some (.row 101 2 (s14.2.map e_resource_part_int_)))] : OL)) (fun (p21 : ((List resource_part_int_))) e E' O' => e = .exit 2 ∧ Mat B E' O' ([(2, (.ptr 1002 0 [])), (3, (.ptr 1003 0 []))] : EL) ([(1002, some (.box 69 (.st [.nils, .nils]))), (1003, some (.box 69 (.st [(.sref 13030 6 0 p8.length), (.sref 13031 2 0 p21.length)]))), (13030, some (we_api_Addr__99_6 p8)), (13031, some (.row 101 2 (p21.map e_resource_part_int_)))] : OL)) hx26 (Mat.trans (Mat.beginP (n := 13031) (e := 101) (sz := 2) (Ts := []) (Bs := [(1003, some (.box 69 (.st [(.sref 13030 6 0 p8.length), (.sref 13031 2 0 0)])))]) hB (by decide) (by rfl) (by decide) TwT.nil (TwB.cons (x := (.st [(.sref 13030 6 0 p8.length), .nils])) (by rfl) (Tw.st (TwL.cons (Tw.same _) (TwL.cons (Tw.leaf ⟨rfl, rfl⟩) TwL.nil))) TwB.nil)) (mp [] _ _ hB)) (fun s14 y h => ?_) (fun e E' O' hR => ?_)
  ·unfold resource_of_3_L1 at h
   refine sr (c (OpJ.lss (L rfl) (q 29) (q 28)) rfl cn) ?_
   refine gh [(2, _), (3, _), (27, _), (28, _), (29, _), (30, _)] [(1002, some _), (1003, some _), (13030, some _), (13031, some _)] hB rfl rfl (by rfl) ?_
   refine AWp.seq ?_
   refine AWp.cond rfl (fun hg22 => ?_) (fun hg22 => ?_)
   ·replace h := ite_t hg22 h
    refine AWp.skip ?_
    refine seqQ_n ?_
    refine AWp.seq ?_
    refine AWp.block ?_
    obtain ⟨x23, hx23, h⟩ := bindS h
    refine sr (c (OpJ.indexD Tryz.underlying23 tyS62 (idx_some hx23).1 (get_map e_api_Span (idx_some hx23).2) (L rfl) (q 27) (q 29)) rfl (c (OpJ.loadD tyS62 (by rfl) (by rfl) (L rfl) (q 31)) rfl (cg (OpJ.alloc hB tyZ62 (nm := 1007) (by decide) (L rfl)) rfl (cg (OpJ.storeB tyS62 (SetAt.here _ _) (by rfl) (by rfl) (by simp) rfl (q 7) (q 32)) rfl cn)))) ?_
    refine gh [(2, _), (3, _), (7, _), (27, _), (28, _), (29, _)] [(1002, some _), (1003, some _), (1007, some _), (13030, some _), (13031, some _)] hB rfl rfl (by rfl) ?_
    obtain ⟨hc24, h⟩ := chk_some h
    refine rg (c (ov (.ptr 1003 1 [1]) (fp hN Tryz.underlying69 1 tyS67 _ (q 3))) rfl (c (lb hN 69 _ (.sref 13031 2 0 s14.2.length) tyS67 (At.st1 (f := (.sref 13031 2 0 s14.2.length)) (by rfl) (by rfl) (At.here _) (by first | rfl | omega)) (q 33)) rfl (c (ov (.ptr 1007 0 [0]) (fp hN Tryz.underlying62 0 tyS3 _ (q 7))) rfl (c (lb hN 62 _ _ tyS3 (ad _) (q 35)) rfl (c (ov (.ptr 1007 1 [1]) (fp hN Tryz.underlying62 1 tyS3 _ (q 7))) rfl (c (lb hN 62 _ _ tyS3 (ad _) (q 37)) rfl (c (OpJ.coe (v := (.st [(i6 x23.fFrom), (i6 x23.fTo)])) (y := (.st [(.int .i64 x23.fFrom), (.int .i64 x23.fTo)])) (Co.st (CoL.cons (Co.d _) (CoL.cons (Co.d _) CoL.nil))) rfl (OpJ.build (places := [(0, 1), (1, 1)]) ⟨Tryz.underlying101, fun w => by kernel_rfl⟩ tyZS101 (Opds.cons (q 36) (Opds.cons (q 38) Opds.nil)) (by kernel_rfl) (r := (.st [(i6 x23.fFrom), (i6 x23.fTo)])) (by rfl) (L rfl))) rfl (c (OpJ.buildSlice Tryz.underlying67 tyS101 tyZD101 (by rfl) (by decide) (by decide) (Opds.cons (q 39) Opds.nil) (by kernel_rfl) (es := ([(.st [(.int .i64 x23.fFrom), (.int .i64 x23.fTo)])] : List D)) (by rfl) (by rfl) (by kernel_rfl) (by simp) (L rfl)) rfl (cg (OpJ.append hB Tryz.underlying67 tyE101 (nm := 1041) (by decide) (es := s14.2.map e_resource_part_int_) (ys := ([(resource_part_int_.mk x23.fFrom x23.fTo)] : List resource_part_int_).map e_resource_part_int_) (es' := (s14.2 ++ ([(resource_part_int_.mk x23.fFrom x23.fTo)] : List resource_part_int_)).map e_resource_part_int_) (len := (s14.2 ++ ([(resource_part_int_.mk x23.fFrom x23.fTo)] : List resource_part_int_)).length) (by simp) (by simp) (map_sz (f := e_resource_part_int_) (fun _ => rfl)) (by rw [List.length_map]; exact lim_mulN hc24 (by decide)) (by rw [List.length_map]; exact lim_leN hc24) (L rfl) (by simp) (q 34) (q 40)) rfl (c (ov (.ptr 1003 1 [1]) (fp hN Tryz.underlying69 1 tyS67 _ (q 3))) rfl (cg (OpJ.storeB (c' := (.st [(.sref 13030 6 0 p8.length), (.sref 1041 2 0 ((s14.2 ++ ([(resource_part_int_.mk x23.fFrom x23.fTo)] : List resource_part_int_)).length))])) tyS67 (SetAt.st1 (f := (.sref 13031 2 0 s14.2.length)) (by rfl) (by rfl) (SetAt.here _ _) (by rfl) (by rfl) (by first | rfl | omega)) (by rfl) (by rfl) (by simp) rfl (q 42) (q 41)) rfl cn))))))))))) ?_
    refine blkQ_n ?_
    refine seqQ_n ?_
    refine gh [(2, _), (3, _), (27, _), (28, _), (29, _)] [(1002, some _), (1003, some _), (1041, some _), (13030, some _)] hB rfl rfl (by rfl) ?_
    refine rg (c (add6 (L rfl) (q 29) (Opd.int .i64 (1))) rfl (c (mv hN (q 43)) rfl cn)) ?_
    obtain rfl := Option.some.inj h
    exact ⟨rfl, (Mat.trans (mp [] [(2, (.ptr 1002 0 [])), (3, (.ptr 1003 0 [])), (27, (qe_api_Span_2 a0.fASNs)), (28, (i6 (a0.fASNs.length : Int))), (29, (i6 (w64 (s14.1 + (1 : Int)))))] [(1002, some (.box 69 (.st [.nils, .nils]))), (1003, some (.box 69 (.st [(.sref 13030 6 0 p8.length), (.sref 1041 2 0 ((s14.2 ++ ([(resource_part_int_.mk x23.fFrom x23.fTo)] : List resource_part_int_)).length))]))), (1041, some (.row 101 2 ((s14.2 ++ ([(resource_part_int_.mk x23.fFrom x23.fTo)] : List resource_part_int_)).map e_resource_part_int_))), (13030, some (we_api_Addr__99_6 p8))] hB) (mp [(13031, 1041)] _ _ hB))⟩
   ·replace h := ite_f hg22 h
    refine AWp.exit ?_
    refine seqQ_e ?_
    obtain rfl := Option.some.inj h
    exact ⟨(fun hc => by cases hc), rfl, (mp [] _ _ hB)⟩
  ·obtain ⟨rfl, hmat⟩ := hR
   refine blkQ_hit ?_
   refine seqQ_n ?_
   refine AWp.ghost hmat ?_
   refine sr (c (lb hN 69 _ _ tyS69 (At.here _) (q 3)) rfl (cg (OpJ.storeB tyS69 (SetAt.here _ _) (by rfl) (by rfl) (by simp) rfl (q 2) (q 44)) rfl cn)) ?_
   refine gh [(2, _)] [(1002, some _), (13030, some _), (13031, some _)] hB rfl rfl (by rfl) ?_
   refine AWp.ret ?_
   obtain rfl := Option.some.inj h
   exact ⟨.inl rfl, _, _, (mp [(900000, 13030), (900001, 13031)] [(2, (.ptr 1002 0 []))] [(1002, some (.box 69 (.st [(.sref 900000 6 0 p8.length), (.sref 900001 2 0 p21.length)]))), (900000, some (we_api_Addr__99_6 p8)), (900001, some (.row 101 2 (p21.map e_resource_part_int_)))] hB), [(.st [(.sref 900000 6 0 p8.length), (.sref 900001 2 0 p21.length)])], (Res.cell (c := (.st [(.sref 900000 6 0 p8.length), (.sref 900001 2 0 p21.length)])) (by rfl) (by rfl) tyS69 (by rfl) (by rfl) (by rfl) Res.nil), rfl, by rfl, by rfl, by rfl⟩

noncomputable def ext60_slices_Clone_R (a0 : (List resource_part_int_)) : Option (List resource_part_int_) := chk (decide (a0.length ≤ LIM)) <|
 some a0
theorem ext60_slices_Clone_R_ac (a0 : (List resource_part_int_)) (r : List resource_part_int_) (h : ext60_slices_Clone_R a0 = some r) : AC Tryz.prog 60 [(.d (.list 2 (a0.map e_resource_part_int_)))] [] (.sref 900000 2 0 r.length) [(900000, some (.row 101 2 (r.map e_resource_part_int_)))] := by
 obtain ⟨hc, h⟩ := chk_some h
 obtain rfl := Option.some.inj h
 exact AC.cloneR cloneOk60 (by simp) (by rw [List.length_map]; exact lim_mulN hc (by decide)) (map_sz (f := e_resource_part_int_) (fun _ => rfl))

noncomputable def resource_order_normal_1_2 (a0 : resource_part_int_) (a1 : resource_part_int_) : Option (Int) :=
 (cmp_Compare a0.ffrom a1.ffrom).bind fun r1 =>
 some r1
theorem resource_order_normal_1_2_ac (a0 : resource_part_int_) (a1 : resource_part_int_) (r : Int) (h : resource_order_normal_1_2 a0 a1 = some r) : AC Tryz.prog 62 [(.d (e_resource_part_int_ a0)), (.d (e_resource_part_int_ a1)), (.ptr 0 0 [])] [(0, (.box 77 (.st [(.func 71 []), (.func 134 []), (.func 135 [])])))] (.d (.int .i64 r)) [(0, some (.box 77 (.st [(.func 71 []), (.func 134 []), (.func 135 [])])))] := by
 refine AC.of_code2 Tryz.func62 rfl rfl (Nat.le_of_ble_eq_true (by rfl)) fun B hB hN => ?_
 delta resource_order_normal_1_2 at h
 refine sr (cg (OpJ.box hB (nm := 1003) (by decide) (by simp) rfl (ltN hN rfl) (q 0)) rfl (cg (OpJ.box hB (nm := 1004) (by decide) (by simp) rfl (ltN hN rfl) (q 1)) rfl (c (OpJ.assign (ltN hN rfl) (Opd.int .i64 (0))) rfl cn))) ?_
 refine gh [(2, _), (3, _), (4, _)] [(0, some _), (1003, some _), (1004, some _)] hB rfl rfl (by rfl) ?_
 obtain ⟨r1, hr1, h⟩ := bindS h
 refine sr (c (ov (.ptr 0 0 [0]) (fp hN Tryz.underlying77 0 tyS50 _ (q 2))) rfl (c (lb hN 77 _ (.func 71 []) tyS50 (At.st1 (f := (.func 71 [])) (by rfl) (by rfl) (At.here _) (by first | rfl | omega)) (q 6)) rfl (c (ov (.ptr 1003 0 [0]) (fp hN Tryz.underlying101 0 tyS3 _ (q 3))) rfl (c (lb hN 101 _ _ tyS3 (ad _) (q 8)) rfl (c (ov (.ptr 1004 0 [0]) (fp hN Tryz.underlying101 0 tyS3 _ (q 4))) rfl (c (lb hN 101 _ _ tyS3 (ad _) (q 10)) rfl (cg (OpJ.callVal (args := [(i6 a0.ffrom), (i6 a1.ffrom)]) (caps := []) hB fnOk71 [] (cmp_Compare_ac a0.ffrom a1.ffrom r1 hr1) (by kernel_rfl) (ltN hN rfl) (by kernel_rfl) (by kernel_rfl) (OpdL.cons (q 9) (OpdL.cons (q 11) OpdL.nil))) rfl (c (OpJ.assign (ltN hN rfl) (q 12)) rfl cn)))))))) ?_
 refine gh [(5, _)] [(0, some _)] hB rfl rfl (by rfl) ?_
 refine AWp.ret ?_
 obtain rfl := Option.some.inj h
 exact ⟨.inl rfl, _, _, (kp [(5, _)] [(0, some _)] hB rfl rfl (by rfl)), [(i6 r1)], (Res.tmp (by rfl) (by rfl) Res.nil), rfl, by rfl, by rfl, by rfl⟩

noncomputable def ext61_slices_SortFunc_resource_order_normal_1_2 (a0 : (List resource_part_int_)) : Option (List resource_part_int_) := sortF a0 fun x y => resource_order_normal_1_2 x y
theorem ext61_slices_SortFunc_resource_order_normal_1_2_ac (a0 : (List resource_part_int_)) (r : List resource_part_int_) (h : ext61_slices_SortFunc_resource_order_normal_1_2 a0 = some r) : AC Tryz.prog 61 [(.sref 900 2 0 a0.length), (.func 62 [(.ptr 0 0 [])])] [(0, (.box 77 (.st [(.func 71 []), (.func 134 []), (.func 135 [])]))), (900, (.row 101 2 (a0.map e_resource_part_int_)))] (.tup []) [(0, some (.box 77 (.st [(.func 71 []), (.func 134 []), (.func 135 [])]))), (900, some (.row 101 2 (r.map e_resource_part_int_)))] :=
 AC.sortFC e_resource_part_int_ (fun x y => resource_order_normal_1_2 x y) a0 r h sortOk61 fnOk62 (fun _ => rfl) (by rfl) (by rfl) rfl (fun x y c hc => resource_order_normal_1_2_ac x y c hc)

noncomputable def resource_order_normal_2_L0 (r1 : List resource_part_int_) (r2 : List resource_part_int_) (s4 : Int × (List resource_part_int_)) : Option ((((List resource_part_int_))) ⊕ (Int × (List resource_part_int_))) :=
 (if (decide (s4.1 < (r1.length : Int))) = true then
 jn (fun m161 : (List resource_part_int_) =>
 some (.inr ((w64 (s4.1 + (1 : Int))), m161))) (fun j162 =>
 (idx r2 s4.1).bind fun x163 =>
 (idx r2 s4.1).bind fun x164 =>
 (if (decide ((w64 ((s4.2.length : Int) - (1 : Int))) < (0 : Int))) = true then
 chk (decide ((s4.2 ++ ([x164] : List resource_part_int_)).length ≤ LIM)) <|
 j162 (s4.2 ++ ([x164] : List resource_part_int_))
 else
 (idx s4.2 (w64 ((s4.2.length : Int) - (1 : Int)))).bind fun x167 =>
 (idx s4.2 (w64 ((s4.2.length : Int) - (1 : Int)))).bind fun x168 =>
 (resource_numbers_1 x168.fto).bind fun r169 =>
 jn (fun m179 : Bool =>
 (if m179 = true then
 chk (decide ((s4.2 ++ ([x164] : List resource_part_int_)).length ≤ LIM)) <|
 j162 (s4.2 ++ ([x164] : List resource_part_int_))
 else
 (idx s4.2 (w64 ((s4.2.length : Int) - (1 : Int)))).bind fun x183 =>
 (idx s4.2 (w64 ((s4.2.length : Int) - (1 : Int)))).bind fun x184 =>
 (cmp_Compare x164.fto x184.fto).bind fun r185 =>
 (if (decide ((0 : Int) < r185)) = true then
 (idx s4.2 (w64 ((s4.2.length : Int) - (1 : Int)))).bind fun x187 =>
 (idx s4.2 (w64 ((s4.2.length : Int) - (1 : Int)))).bind fun x188 =>
 j162 (s4.2.set (w64 ((s4.2.length : Int) - (1 : Int))).toNat (resource_part_int_.mk x188.ffrom x164.fto))
 else
 j162 s4.2))) (fun j180 =>
 (idx s4.2 (w64 ((s4.2.length : Int) - (1 : Int)))).bind fun x189 =>
 (idx s4.2 (w64 ((s4.2.length : Int) - (1 : Int)))).bind fun x190 =>
 (cmp_Compare x164.ffrom x190.fto).bind fun r191 =>
 (if (decide ((0 : Int) < r191)) = true then
 (if r169.2 = true then
 (cmp_Compare r169.1 x164.ffrom).bind fun r194 =>
 j180 (!(r194 == (0 : Int)))
 else
 j180 (!false))
 else
 j180 false))))
 else
 some (.inl s4.2))
noncomputable def resource_order_normal_2 (a0 : (List resource_part_int_)) : Option ((List resource_part_int_)) :=
 (ext60_slices_Clone_R a0).bind fun r1 =>
 (ext61_slices_SortFunc_resource_order_normal_1_2 r1).bind fun r2 =>
 chk (decide (r2.length = r1.length)) <|
 (loop (resource_order_normal_2_L0 r1 r2) ((0 : Int), ([] : List resource_part_int_))).bind fun p127 =>
 some p127
theorem resource_order_normal_2_ac (a0 : (List resource_part_int_)) (r : (List resource_part_int_)) (h : resource_order_normal_2 a0 = some r) : AC Tryz.prog 31 [(.st [(.func 71 []), (.func 134 []), (.func 135 [])]), (.d (.list 2 (a0.map e_resource_part_int_)))] [] (.d (.list 2 (r.map e_resource_part_int_))) [] := by
 refine AC.of_code2 Tryz.func31 rfl rfl (Nat.le_of_ble_eq_true (by rfl)) fun B hB hN => ?_
 have L {d : Nat} (h : Nat.blt d Tryz.f31.ntmps = true) : d < B.N := ltN hN h
 delta resource_order_normal_2 at h
 refine sr (cg (OpJ.box hB (nm := 1002) (by decide) (by simp) rfl (L rfl) (q 0)) rfl (c (OpJ.assign (L rfl) Opd.nils) rfl cn)) ?_
 refine gh [(1, _), (2, _)] [(1002, some _)] hB rfl rfl (by rfl) ?_
 refine AWp.seq ?_
 obtain ⟨r1, hr1, h⟩ := bindS h
 refine AWp.region (oc (mv hN (ot 1 (.d (.list 2 (a0.map e_resource_part_int_)))))
 (oc (OpJ.callFn hB fnOk60 (ext60_slices_Clone_R_ac a0 r1 hr1) [(900000, 100000)] (by kernel_rfl) (L rfl) (by kernel_rfl) (OpdL.cons (ot 11 (.d (.list 2 (a0.map e_resource_part_int_)))) OpdL.nil))
 (oc (OpJ.assign (L rfl) (ot 12 (.sref 100000 2 0 r1.length)))
 (OpJs.nil)))) (by rfl) (by rfl) ?_
 refine seqQ_n ?_
 refine AWp.ghost (mp [] [(1, (.sref 100000 2 0 r1.length)), (2, (.ptr 1002 0 []))] [(1002, some (.box 77 (.st [(.func 71 []), (.func 134 []), (.func 135 [])]))), (100000, some (.row 101 2 (r1.map e_resource_part_int_)))] hB) ?_
 refine AWp.seq ?_
 obtain ⟨r2, hr2, h⟩ := bindS h
 obtain ⟨hc3, h⟩ := chk_some h
 have lhc3 := of_decide_eq_true hc3
 have hc3_o := of_decide_eq_true hc3
 refine AWp.region (oc (mv hN (ot 1 (.sref 100000 2 0 r1.length)))
 (oc (OpJ.makeF (OpdL.cons (ot 2 (.ptr 1002 0 [])) OpdL.nil) rfl rfl (L rfl))
 (oc (OpJ.callFn hB fnOk61 (ext61_slices_SortFunc_resource_order_normal_1_2_ac r1 r2 hr2) [(900, 100000), (0, 1002)] (by kernel_rfl) (L rfl) (by kernel_rfl) (OpdL.cons (ot 13 (.sref 100000 2 0 r1.length)) (OpdL.cons (ot 14 (.func 62 [(.ptr 1002 0 [])])) OpdL.nil)))
 (OpJs.nil)))) (by rfl) (by rfl) ?_
 refine seqQ_n ?_
 refine AWp.ghost (mp [] [(1, (.sref 100000 2 0 r1.length)), (2, (.ptr 1002 0 []))] [(1002, some (.box 77 (.st [(.func 71 []), (.func 134 []), (.func 135 [])]))), (100000, some (.row 101 2 (r2.map e_resource_part_int_)))] hB) ?_
 refine sr (c (OpJ.assign (L rfl) Opd.nils) rfl cn) ?_
 refine gh [(1, _), (2, _), (5, _)] [(1002, some _), (100000, some _)] hB rfl rfl (by rfl) ?_
 refine AWp.seq ?_
 refine sr (c (mv hN (q 1)) rfl (c (OpJ.lenS Tryz.underlying67 (L rfl) (q 16)) rfl (c (mv hN (Opd.int .i64 (0))) rfl cn))) ?_
 refine gh [(2, _), (5, _), (16, _), (17, _), (18, _)] [(1002, some _), (100000, some _)] hB rfl rfl (by rfl) ?_
 refine AWp.block ?_
 obtain ⟨p127, hx196, h⟩ := bindS h
 refine lg (resource_order_normal_2_L0 r1 r2) (fun s4 : Int × (List resource_part_int_) => ([(2, (.ptr 1002 0 [])), (5, (.sref 3005 2 0 s4.2.length)), (16, (.sref 100000 2 0 r2.length)), (17, (i6 (r1.length : Int))), (18, (i6 s4.1))] : EL)) (fun s4 : Int × (List resource_part_int_) => ([(1002, some (.box 77 (.st [(.func 71 []), (.func 134 []), (.func 135 [])]))), (3005, some (.row 101 2 (s4.2.map e_resource_part_int_))), (100000, some (.row 101 2 (r2.map e_resource_part_int_)))] : OL)) (fun (p127 : ((List resource_part_int_))) e E' O' => e = .exit 0 ∧ Mat B E' O' ([(5, (.sref 3005 2 0 p127.length))] : EL) ([(3005, some (.row 101 2 (p127.map e_resource_part_int_)))] : OL)) hx196 (Mat.trans (Mat.beginP (n := 3005) (e := 101) (sz := 2) (Ts := [(5, (.sref 3005 2 0 0))]) (Bs := []) hB (by decide) (by rfl) (by decide) (TwT.cons (x := .nils) (by rfl) (Tw.leaf ⟨rfl, rfl⟩) TwT.nil) TwB.nil) (Mat.trans (Mat.lenP (Ts := [(16, (.sref 100000 2 0 r2.length))]) (Bs := []) (TwT.cons (x := (.sref 100000 2 0 r1.length)) (by rfl) (Tw.leaf ⟨_, _, _, _, _, rfl, rfl, (by first | rfl | (simp; done) | (simp; omega) | omega)⟩) TwT.nil) TwB.nil) (mp [] _ _ hB))) (fun s4 y h => ?_) (fun e E' O' hR => ?_)
 ·unfold resource_order_normal_2_L0 at h
  refine sr (c (OpJ.lss (L rfl) (q 18) (q 17)) rfl cn) ?_
  refine gh [(2, _), (5, _), (16, _), (17, _), (18, _), (19, _)] [(1002, some _), (3005, some _), (100000, some _)] hB rfl rfl (by rfl) ?_
  refine AWp.seq ?_
  refine AWp.cond rfl (fun hg128 => ?_) (fun hg128 => ?_)
  ·replace h := ite_t hg128 h
   refine AWp.skip ?_
   refine seqQ_n ?_
   refine AWp.seq ?_
   refine AWp.cut h (fun m161 : (List resource_part_int_) => ([(2, (.ptr 1002 0 [])), (5, (.sref 3005 2 0 m161.length)), (16, (.sref 100000 2 0 r2.length)), (17, (i6 (r1.length : Int))), (18, (i6 s4.1))] : EL)) (fun m161 : (List resource_part_int_) => ([(1002, some (.box 77 (.st [(.func 71 []), (.func 134 []), (.func 135 [])]))), (3005, some (.row 101 2 (m161.map e_resource_part_int_))), (100000, some (.row 101 2 (r2.map e_resource_part_int_)))] : OL)) (fun m161 h E' O' hmat => ?_) (fun j162 hjj162 h => ?_)
   ·refine seqQ_n ?_
    refine AWp.ghost hmat ?_
    refine rg (c (add6 (L rfl) (q 18) (Opd.int .i64 (1))) rfl (c (mv hN (q 89)) rfl cn)) ?_
    obtain rfl := Option.some.inj h
    exact ⟨rfl, (Mat.trans (mp [] [(2, (.ptr 1002 0 [])), (5, (.sref 3005 2 0 m161.length)), (16, (.sref 100000 2 0 r2.length)), (17, (i6 (r1.length : Int))), (18, (i6 (w64 (s4.1 + (1 : Int)))))] [(1002, some (.box 77 (.st [(.func 71 []), (.func 134 []), (.func 135 [])]))), (3005, some (.row 101 2 (m161.map e_resource_part_int_))), (100000, some (.row 101 2 (r2.map e_resource_part_int_)))] hB) (mp [] _ _ hB))⟩
   ·refine AWp.block ?_
    obtain ⟨x163, hx163, h⟩ := bindS h
    obtain ⟨x164, hx164, h⟩ := bindS h
    refine sr (c (OpJ.val (v' := (.ptr 100000 (s4.1.toNat * 2) [s4.1.toNat])) (by simp) (OpJ.indexS Tryz.underlying67 tyS101 (idx_some hx163).1 (by have := idx_lt hx163; first | (simpa using this) | ((try simp only [List.length_map] at this); (try simp only [List.length_map]); omega)) (L rfl) (q 16) (q 18))) rfl (c (OpJ.loadR (e := 101) (sz := 2) tyS101 (get_map e_resource_part_int_ (idx_some hx164).2) (o := 0) (At.here _) (by rfl) (by rfl) (by rfl) (L rfl) (q 20)) rfl (cg (OpJ.alloc hB tyZ101 (nm := 1007) (by decide) (L rfl)) rfl (cg (OpJ.storeB tyS101 (SetAt.here _ _) (by rfl) (by rfl) (by simp) rfl (q 7) (q 21)) rfl cn)))) ?_
    refine gh [(2, _), (5, _), (7, _), (16, _), (17, _), (18, _)] [(1002, some _), (1007, some _), (3005, some _), (100000, some _)] hB rfl rfl (by rfl) ?_
    refine sr (c (mv hN (q 5)) rfl (c (OpJ.lenS Tryz.underlying67 (L rfl) (q 22)) rfl (c (sub6 (L rfl) (q 23) (Opd.int .i64 (1))) rfl (c (OpJ.assign (L rfl) (q 24)) rfl cn)))) ?_
    refine gh [(2, _), (5, _), (7, _), (8, _), (16, _), (17, _), (18, _)] [(1002, some _), (1007, some _), (3005, some _), (100000, some _)] hB rfl rfl (by rfl) ?_
    refine AWp.seq ?_
    refine sr (c (mv hN (q 8)) rfl (c (OpJ.lss (L rfl) (q 25) (Opd.int .i64 (0))) rfl cn)) ?_
    refine gh [(2, _), (5, _), (7, _), (8, _), (16, _), (17, _), (18, _), (26, _)] [(1002, some _), (1007, some _), (3005, some _), (100000, some _)] hB rfl rfl (by rfl) ?_
    refine AWp.cond rfl (fun hg165 => ?_) (fun hg165 => ?_)
    ·replace h := ite_t hg165 h
     obtain ⟨hc166, h⟩ := chk_some h
     refine sr (c (mv hN (q 5)) rfl (c (lb hN 101 _ _ tyS101 (At.here _) (q 7)) rfl (c (OpJ.buildSlice Tryz.underlying67 tyS101 tyZD101 (by rfl) (by decide) (by decide) (Opds.cons (q 28) Opds.nil) (by kernel_rfl) (es := ([(e_resource_part_int_ x164)] : List D)) (by rfl) (by rfl) (by kernel_rfl) (by simp) (L rfl)) rfl (cg (OpJ.append hB Tryz.underlying67 tyE101 (nm := 1030) (by decide) (es := s4.2.map e_resource_part_int_) (ys := ([x164] : List resource_part_int_).map e_resource_part_int_) (es' := (s4.2 ++ ([x164] : List resource_part_int_)).map e_resource_part_int_) (len := (s4.2 ++ ([x164] : List resource_part_int_)).length) (by simp) (by simp) (map_sz (f := e_resource_part_int_) (fun _ => rfl)) (by rw [List.length_map]; exact lim_mulN hc166 (by decide)) (by rw [List.length_map]; exact lim_leN hc166) (L rfl) (by simp) (q 27) (q 29)) rfl (c (OpJ.assign (L rfl) (q 30)) rfl cn))))) ?_
     refine gh [(2, _), (5, _), (16, _), (17, _), (18, _)] [(1002, some _), (1030, some _), (100000, some _)] hB rfl rfl (by rfl) ?_
     refine AWp.exit ?_
     refine seqQ_e ?_
     refine blkQ_hit ?_
     exact hjj162 _ h _ _ (mp [(3005, 1030)] _ _ hB)
    ·replace h := ite_f hg165 h
     refine AWp.skip ?_
     refine seqQ_n ?_
     obtain ⟨x167, hx167, h⟩ := bindS h
     obtain ⟨x168, hx168, h⟩ := bindS h
     obtain ⟨r169, hr169, h⟩ := bindS h
     refine sd (c (ov (.ptr 1002 1 [1]) (fp hN Tryz.underlying77 1 tyS75 _ (q 2))) rfl (c (lb hN 77 _ (.func 134 []) tyS75 (At.st1 (f := (.func 134 [])) (by rfl) (by rfl) (At.here _) (by first | rfl | omega)) (q 32)) rfl (c (mv hN (q 5)) rfl (c (mv hN (q 8)) rfl (c (OpJ.val (v' := (.ptr 3005 ((w64 ((s4.2.length : Int) - (1 : Int))).toNat * 2) [(w64 ((s4.2.length : Int) - (1 : Int))).toNat])) (by simp) (OpJ.indexS Tryz.underlying67 tyS101 (idx_some hx167).1 (by have := idx_lt hx167; first | (simpa using this) | ((try simp only [List.length_map] at this); (try simp only [List.length_map]); omega)) (L rfl) (q 34) (q 35))) rfl (c (ov (.ptr 3005 (((w64 ((s4.2.length : Int) - (1 : Int))).toNat * 2) + 1) [(w64 ((s4.2.length : Int) - (1 : Int))).toNat, 1]) (fp hN Tryz.underlying101 1 tyS3 _ (q 36))) rfl (c (OpJ.loadR (e := 101) (sz := 2) tyS3 (get_map e_resource_part_int_ (idx_some hx168).2) (o := 1) (ad _) (by rfl) (by rfl) (by rfl) (L rfl) (q 37)) rfl (cg (OpJ.callVal (args := [(i6 x168.fto)]) (caps := []) hB fnOk134 [] (resource_numbers_1_ac x168.fto r169 hr169) (by kernel_rfl) (L rfl) (by kernel_rfl) (by kernel_rfl) (OpdL.cons (q 38) OpdL.nil)) rfl (c (mv hN (q 39)) rfl (c (OpJ.extract (by rfl) rfl (L rfl) (q 31)) rfl (c (OpJ.extract (by rfl) rfl (L rfl) (q 31)) rfl (c (OpJ.assign (L rfl) (q 40)) rfl (c (OpJ.assign (L rfl) (q 41)) rfl cn))))))))))))) (by kernel_rfl) (by kernel_rfl) ?_
     refine gh [(2, _), (5, _), (7, _), (8, _), (9, _), (10, _), (16, _), (17, _), (18, _)] [(1002, some _), (1007, some _), (3005, some _), (100000, some _)] hB rfl rfl (by rfl) ?_
     refine AWp.block ?_
     refine AWp.seq ?_
     refine AWp.cut h (fun m179 : Bool => ([(2, (.ptr 1002 0 [])), (5, (.sref 3005 2 0 s4.2.length)), (7, (.ptr 1007 0 [])), (8, (i6 (w64 ((s4.2.length : Int) - (1 : Int))))), (16, (.sref 100000 2 0 r2.length)), (17, (i6 (r1.length : Int))), (18, (i6 s4.1)), (42, (bo m179))] : EL)) (fun m179 : Bool => ([(1002, some (.box 77 (.st [(.func 71 []), (.func 134 []), (.func 135 [])]))), (1007, some (.box 101 (.d (e_resource_part_int_ x164)))), (3005, some (.row 101 2 (s4.2.map e_resource_part_int_))), (100000, some (.row 101 2 (r2.map e_resource_part_int_)))] : OL)) (fun m179 h E' O' hmat => ?_) (fun j180 hjj180 h => ?_)
     ·refine seqQ_n ?_
      refine AWp.ghost hmat ?_
      refine AWp.cond rfl (fun hg181 => ?_) (fun hg181 => ?_)
      ·replace h := ite_t hg181 h
       obtain ⟨hc182, h⟩ := chk_some h
       refine rg (c (mv hN (q 5)) rfl (c (lb hN 101 _ _ tyS101 (At.here _) (q 7)) rfl (c (OpJ.buildSlice Tryz.underlying67 tyS101 tyZD101 (by rfl) (by decide) (by decide) (Opds.cons (q 68) Opds.nil) (by kernel_rfl) (es := ([(e_resource_part_int_ x164)] : List D)) (by rfl) (by rfl) (by kernel_rfl) (by simp) (L rfl)) rfl (cg (OpJ.append hB Tryz.underlying67 tyE101 (nm := 1070) (by decide) (es := s4.2.map e_resource_part_int_) (ys := ([x164] : List resource_part_int_).map e_resource_part_int_) (es' := (s4.2 ++ ([x164] : List resource_part_int_)).map e_resource_part_int_) (len := (s4.2 ++ ([x164] : List resource_part_int_)).length) (by simp) (by simp) (map_sz (f := e_resource_part_int_) (fun _ => rfl)) (by rw [List.length_map]; exact lim_mulN hc182 (by decide)) (by rw [List.length_map]; exact lim_leN hc182) (L rfl) (by simp) (q 67) (q 69)) rfl (c (OpJ.assign (L rfl) (q 70)) rfl cn))))) ?_
       refine blkQ_n ?_
       refine blkQ_n ?_
       exact hjj162 _ h _ _ (Mat.trans (mp [] [(2, (.ptr 1002 0 [])), (5, (.sref 1070 2 0 ((s4.2 ++ ([x164] : List resource_part_int_)).length))), (16, (.sref 100000 2 0 r2.length)), (17, (i6 (r1.length : Int))), (18, (i6 s4.1))] [(1002, some (.box 77 (.st [(.func 71 []), (.func 134 []), (.func 135 [])]))), (1070, some (.row 101 2 ((s4.2 ++ ([x164] : List resource_part_int_)).map e_resource_part_int_))), (100000, some (.row 101 2 (r2.map e_resource_part_int_)))] hB) (mp [(3005, 1070)] _ _ hB))
      ·replace h := ite_f hg181 h
       obtain ⟨x183, hx183, h⟩ := bindS h
       obtain ⟨x184, hx184, h⟩ := bindS h
       obtain ⟨r185, hr185, h⟩ := bindS h
       refine sd (c (ov (.ptr 1002 0 [0]) (fp hN Tryz.underlying77 0 tyS50 _ (q 2))) rfl (c (lb hN 77 _ (.func 71 []) tyS50 (At.st1 (f := (.func 71 [])) (by rfl) (by rfl) (At.here _) (by first | rfl | omega)) (q 72)) rfl (c (ov (.ptr 1007 1 [1]) (fp hN Tryz.underlying101 1 tyS3 _ (q 7))) rfl (c (lb hN 101 _ _ tyS3 (ad _) (q 74)) rfl (c (mv hN (q 5)) rfl (c (mv hN (q 8)) rfl (c (OpJ.val (v' := (.ptr 3005 ((w64 ((s4.2.length : Int) - (1 : Int))).toNat * 2) [(w64 ((s4.2.length : Int) - (1 : Int))).toNat])) (by simp) (OpJ.indexS Tryz.underlying67 tyS101 (idx_some hx183).1 (by have := idx_lt hx183; first | (simpa using this) | ((try simp only [List.length_map] at this); (try simp only [List.length_map]); omega)) (L rfl) (q 76) (q 77))) rfl (c (ov (.ptr 3005 (((w64 ((s4.2.length : Int) - (1 : Int))).toNat * 2) + 1) [(w64 ((s4.2.length : Int) - (1 : Int))).toNat, 1]) (fp hN Tryz.underlying101 1 tyS3 _ (q 78))) rfl (c (OpJ.loadR (e := 101) (sz := 2) tyS3 (get_map e_resource_part_int_ (idx_some hx184).2) (o := 1) (ad _) (by rfl) (by rfl) (by rfl) (L rfl) (q 79)) rfl (cg (OpJ.callVal (args := [(i6 x164.fto), (i6 x184.fto)]) (caps := []) hB fnOk71 [] (cmp_Compare_ac x164.fto x184.fto r185 hr185) (by kernel_rfl) (L rfl) (by kernel_rfl) (by kernel_rfl) (OpdL.cons (q 75) (OpdL.cons (q 80) OpdL.nil))) rfl (c (OpJ.gtr (L rfl) (q 81) (Opd.int .i64 (0))) rfl (c (OpJ.assign (L rfl) (q 82)) rfl cn)))))))))))) (by kernel_rfl) (by kernel_rfl) ?_
       refine gh [(2, _), (5, _), (7, _), (8, _), (16, _), (17, _), (18, _), (71, _)] [(1002, some _), (1007, some _), (3005, some _), (100000, some _)] hB rfl rfl (by rfl) ?_
       refine AWp.cond rfl (fun hg186 => ?_) (fun hg186 => ?_)
       ·replace h := ite_t hg186 h
        obtain ⟨x187, hx187, h⟩ := bindS h
        obtain ⟨x188, hx188, h⟩ := bindS h
        refine rg (c (mv hN (q 5)) rfl (c (mv hN (q 8)) rfl (c (ov (.ptr 1007 1 [1]) (fp hN Tryz.underlying101 1 tyS3 _ (q 7))) rfl (c (lb hN 101 _ _ tyS3 (ad _) (q 85)) rfl (c (OpJ.val (v' := (.ptr 3005 ((w64 ((s4.2.length : Int) - (1 : Int))).toNat * 2) [(w64 ((s4.2.length : Int) - (1 : Int))).toNat])) (by simp) (OpJ.indexS Tryz.underlying67 tyS101 (idx_some hx187).1 (by have := idx_lt hx187; first | (simpa using this) | ((try simp only [List.length_map] at this); (try simp only [List.length_map]); omega)) (L rfl) (q 83) (q 84))) rfl (c (ov (.ptr 3005 (((w64 ((s4.2.length : Int) - (1 : Int))).toNat * 2) + 1) [(w64 ((s4.2.length : Int) - (1 : Int))).toNat, 1]) (fp hN Tryz.underlying101 1 tyS3 _ (q 87))) rfl (cg (OpJ.storeR (e := 101) (sz := 2) (es' := (s4.2.set (w64 ((s4.2.length : Int) - (1 : Int))).toNat (resource_part_int_.mk x188.ffrom x164.fto)).map e_resource_part_int_) tyS3 (get_map e_resource_part_int_ (idx_some hx188).2) (o := 1) (SetAt.dst1 (by rfl) (by rfl) (SetAt.here _ _) (by rfl) (by rfl) (by first | rfl | omega)) (by rfl) (map_set _ _ _ _) (by rfl) (by rfl) (q 88) (q 86)) rfl cn))))))) ?_
        refine blkQ_n ?_
        refine blkQ_n ?_
        exact hjj162 _ h _ _ (Mat.trans (mp [] [(2, (.ptr 1002 0 [])), (5, (.sref 3005 2 0 s4.2.length)), (16, (.sref 100000 2 0 r2.length)), (17, (i6 (r1.length : Int))), (18, (i6 s4.1))] [(1002, some (.box 77 (.st [(.func 71 []), (.func 134 []), (.func 135 [])]))), (3005, some (.row 101 2 ((s4.2.set (w64 ((s4.2.length : Int) - (1 : Int))).toNat (resource_part_int_.mk x188.ffrom x164.fto)).map e_resource_part_int_))), (100000, some (.row 101 2 (r2.map e_resource_part_int_)))] hB) (Mat.trans (Mat.lenP (Ts := [(5, (.sref 3005 2 0 ((s4.2.set (w64 ((s4.2.length : Int) - (1 : Int))).toNat (resource_part_int_.mk x188.ffrom x164.fto)).length)))]) (Bs := []) (TwT.cons (x := (.sref 3005 2 0 s4.2.length)) (by rfl) (Tw.leaf ⟨_, _, _, _, _, rfl, rfl, (by first | rfl | (simp; done) | (simp; omega) | omega)⟩) TwT.nil) TwB.nil) (mp [] _ _ hB)))
       ·replace h := ite_f hg186 h
        refine AWp.skip ?_
        refine blkQ_n ?_
        refine blkQ_n ?_
        exact hjj162 _ h _ _ (mp [] _ _ hB)
     ·obtain ⟨x189, hx189, h⟩ := bindS h
      obtain ⟨x190, hx190, h⟩ := bindS h
      obtain ⟨r191, hr191, h⟩ := bindS h
      rcases Bool.eq_false_or_eq_true (decide ((0 : Int) < r191)) with hg192 | hg192
      ·replace h := ite_t hg192 h
       rcases Bool.eq_false_or_eq_true r169.2 with hg193 | hg193
       ·replace h := ite_t hg193 h
        obtain ⟨r194, hr194, h⟩ := bindS h
        refine dr (c (ov (.ptr 1002 0 [0]) (fp hN Tryz.underlying77 0 tyS50 _ (q 2))) rfl (c (lb hN 77 _ (.func 71 []) tyS50 (At.st1 (f := (.func 71 [])) (by rfl) (by rfl) (At.here _) (by first | rfl | omega)) (q 43)) rfl (c (ov (.ptr 1007 0 [0]) (fp hN Tryz.underlying101 0 tyS3 _ (q 7))) rfl (c (lb hN 101 _ _ tyS3 (ad _) (q 45)) rfl (c (mv hN (q 5)) rfl (c (mv hN (q 8)) rfl (c (OpJ.val (v' := (.ptr 3005 ((w64 ((s4.2.length : Int) - (1 : Int))).toNat * 2) [(w64 ((s4.2.length : Int) - (1 : Int))).toNat])) (by simp) (OpJ.indexS Tryz.underlying67 tyS101 (idx_some hx189).1 (by have := idx_lt hx189; first | (simpa using this) | ((try simp only [List.length_map] at this); (try simp only [List.length_map]); omega)) (L rfl) (q 47) (q 48))) rfl (c (ov (.ptr 3005 (((w64 ((s4.2.length : Int) - (1 : Int))).toNat * 2) + 1) [(w64 ((s4.2.length : Int) - (1 : Int))).toNat, 1]) (fp hN Tryz.underlying101 1 tyS3 _ (q 49))) rfl (c (OpJ.loadR (e := 101) (sz := 2) tyS3 (get_map e_resource_part_int_ (idx_some hx190).2) (o := 1) (ad _) (by rfl) (by rfl) (by rfl) (L rfl) (q 50)) rfl (cg (OpJ.callVal (args := [(i6 x164.ffrom), (i6 x190.fto)]) (caps := []) hB fnOk71 [] (cmp_Compare_ac x164.ffrom x190.fto r191 hr191) (by kernel_rfl) (L rfl) (by kernel_rfl) (by kernel_rfl) (OpdL.cons (q 46) (OpdL.cons (q 51) OpdL.nil))) rfl (c (OpJ.gtr (L rfl) (q 52) (Opd.int .i64 (0))) rfl (c (OpJ.val (v' := .d (.bool true)) (by rw [hg192] <;> rfl) (mv hN (q 53))) rfl (c (gd 54 (mv hN (q 10))) rfl (c (gd 54 (OpJ.val (v' := .d (.bool true)) (by rw [hg193] <;> rfl) (mv hN (q 55)))) rfl (c (gd 56 (ov (.ptr 1002 0 [0]) (fp hN Tryz.underlying77 0 tyS50 _ (q 2)))) rfl (c (gd 56 (lb hN 77 _ (.func 71 []) tyS50 (At.st1 (f := (.func 71 [])) (by rfl) (by rfl) (At.here _) (by first | rfl | omega)) (q 57))) rfl (c (gd 56 (mv hN (q 9))) rfl (c (gd 56 (ov (.ptr 1007 0 [0]) (fp hN Tryz.underlying101 0 tyS3 _ (q 7)))) rfl (c (gd 56 (lb hN 101 _ _ tyS3 (ad _) (q 60))) rfl (cg (gd 56 (OpJ.callVal (args := [(i6 r169.1), (i6 x164.ffrom)]) (caps := []) hB fnOk71 [] (cmp_Compare_ac r169.1 x164.ffrom r194 hr194) (by kernel_rfl) (L rfl) (by kernel_rfl) (by kernel_rfl) (OpdL.cons (q 59) (OpdL.cons (q 61) OpdL.nil)))) rfl (c (gd 56 (OpJ.eqlI (L rfl) (q 62) (Opd.int .i64 (0)))) rfl (c (gd 54 (OpJ.pickT (L rfl) (q 56) (q 63))) rfl (c (gd 54 (OpJ.not (L rfl) (q 64))) rfl (c (OpJ.pickT (L rfl) (q 54) (q 65)) rfl (c (OpJ.assign (L rfl) (q 66)) rfl cn))))))))))))))))))))))))) (by kernel_rfl) (by kernel_rfl) ?_
        exact hjj180 _ h _ _ (Mat.trans (mp [] [(2, (.ptr 1002 0 [])), (5, (.sref 3005 2 0 s4.2.length)), (7, (.ptr 1007 0 [])), (8, (i6 (w64 ((s4.2.length : Int) - (1 : Int))))), (16, (.sref 100000 2 0 r2.length)), (17, (i6 (r1.length : Int))), (18, (i6 s4.1)), (42, (bo (!(r194 == (0 : Int)))))] [(1002, some (.box 77 (.st [(.func 71 []), (.func 134 []), (.func 135 [])]))), (1007, some (.box 101 (.d (e_resource_part_int_ x164)))), (3005, some (.row 101 2 (s4.2.map e_resource_part_int_))), (100000, some (.row 101 2 (r2.map e_resource_part_int_)))] hB) (mp [] _ _ hB))
       ·replace h := ite_f hg193 h
        refine dr (c (ov (.ptr 1002 0 [0]) (fp hN Tryz.underlying77 0 tyS50 _ (q 2))) rfl (c (lb hN 77 _ (.func 71 []) tyS50 (At.st1 (f := (.func 71 [])) (by rfl) (by rfl) (At.here _) (by first | rfl | omega)) (q 43)) rfl (c (ov (.ptr 1007 0 [0]) (fp hN Tryz.underlying101 0 tyS3 _ (q 7))) rfl (c (lb hN 101 _ _ tyS3 (ad _) (q 45)) rfl (c (mv hN (q 5)) rfl (c (mv hN (q 8)) rfl (c (OpJ.val (v' := (.ptr 3005 ((w64 ((s4.2.length : Int) - (1 : Int))).toNat * 2) [(w64 ((s4.2.length : Int) - (1 : Int))).toNat])) (by simp) (OpJ.indexS Tryz.underlying67 tyS101 (idx_some hx189).1 (by have := idx_lt hx189; first | (simpa using this) | ((try simp only [List.length_map] at this); (try simp only [List.length_map]); omega)) (L rfl) (q 47) (q 48))) rfl (c (ov (.ptr 3005 (((w64 ((s4.2.length : Int) - (1 : Int))).toNat * 2) + 1) [(w64 ((s4.2.length : Int) - (1 : Int))).toNat, 1]) (fp hN Tryz.underlying101 1 tyS3 _ (q 49))) rfl (c (OpJ.loadR (e := 101) (sz := 2) tyS3 (get_map e_resource_part_int_ (idx_some hx190).2) (o := 1) (ad _) (by rfl) (by rfl) (by rfl) (L rfl) (q 50)) rfl (cg (OpJ.callVal (args := [(i6 x164.ffrom), (i6 x190.fto)]) (caps := []) hB fnOk71 [] (cmp_Compare_ac x164.ffrom x190.fto r191 hr191) (by kernel_rfl) (L rfl) (by kernel_rfl) (by kernel_rfl) (OpdL.cons (q 46) (OpdL.cons (q 51) OpdL.nil))) rfl (c (OpJ.gtr (L rfl) (q 52) (Opd.int .i64 (0))) rfl (c (OpJ.val (v' := .d (.bool true)) (by rw [hg192] <;> rfl) (mv hN (q 53))) rfl (c (gd 54 (mv hN (q 10))) rfl (c (gd 54 (OpJ.val (v' := .d (.bool false)) (by rw [hg193] <;> rfl) (mv hN (q 55)))) rfl (cg (sU 56 (L rfl)) rfl (cg (sU 56 (L rfl)) rfl (cg (sU 56 (L rfl)) rfl (cg (sU 56 (L rfl)) rfl (cg (sU 56 (L rfl)) rfl (cg (sU 56 (L rfl)) rfl (cg (sU 56 (L rfl)) rfl (c (gd 54 (OpJ.pickF (L rfl) (q 56) (Opd.bool false))) rfl (c (gd 54 (OpJ.not (L rfl) (q 64))) rfl (c (OpJ.pickT (L rfl) (q 54) (q 65)) rfl (c (OpJ.assign (L rfl) (q 66)) rfl cn))))))))))))))))))))))))) (by kernel_rfl) (by kernel_rfl) ?_
        exact hjj180 _ h _ _ (Mat.trans (mp [] [(2, (.ptr 1002 0 [])), (5, (.sref 3005 2 0 s4.2.length)), (7, (.ptr 1007 0 [])), (8, (i6 (w64 ((s4.2.length : Int) - (1 : Int))))), (16, (.sref 100000 2 0 r2.length)), (17, (i6 (r1.length : Int))), (18, (i6 s4.1)), (42, (bo (!false)))] [(1002, some (.box 77 (.st [(.func 71 []), (.func 134 []), (.func 135 [])]))), (1007, some (.box 101 (.d (e_resource_part_int_ x164)))), (3005, some (.row 101 2 (s4.2.map e_resource_part_int_))), (100000, some (.row 101 2 (r2.map e_resource_part_int_)))] hB) (mp [] _ _ hB))
      ·replace h := ite_f hg192 h
       refine dr (c (ov (.ptr 1002 0 [0]) (fp hN Tryz.underlying77 0 tyS50 _ (q 2))) rfl (c (lb hN 77 _ (.func 71 []) tyS50 (At.st1 (f := (.func 71 [])) (by rfl) (by rfl) (At.here _) (by first | rfl | omega)) (q 43)) rfl (c (ov (.ptr 1007 0 [0]) (fp hN Tryz.underlying101 0 tyS3 _ (q 7))) rfl (c (lb hN 101 _ _ tyS3 (ad _) (q 45)) rfl (c (mv hN (q 5)) rfl (c (mv hN (q 8)) rfl (c (OpJ.val (v' := (.ptr 3005 ((w64 ((s4.2.length : Int) - (1 : Int))).toNat * 2) [(w64 ((s4.2.length : Int) - (1 : Int))).toNat])) (by simp) (OpJ.indexS Tryz.underlying67 tyS101 (idx_some hx189).1 (by have := idx_lt hx189; first | (simpa using this) | ((try simp only [List.length_map] at this); (try simp only [List.length_map]); omega)) (L rfl) (q 47) (q 48))) rfl (c (ov (.ptr 3005 (((w64 ((s4.2.length : Int) - (1 : Int))).toNat * 2) + 1) [(w64 ((s4.2.length : Int) - (1 : Int))).toNat, 1]) (fp hN Tryz.underlying101 1 tyS3 _ (q 49))) rfl (c (OpJ.loadR (e := 101) (sz := 2) tyS3 (get_map e_resource_part_int_ (idx_some hx190).2) (o := 1) (ad _) (by rfl) (by rfl) (by rfl) (L rfl) (q 50)) rfl (cg (OpJ.callVal (args := [(i6 x164.ffrom), (i6 x190.fto)]) (caps := []) hB fnOk71 [] (cmp_Compare_ac x164.ffrom x190.fto r191 hr191) (by kernel_rfl) (L rfl) (by kernel_rfl) (by kernel_rfl) (OpdL.cons (q 46) (OpdL.cons (q 51) OpdL.nil))) rfl (c (OpJ.gtr (L rfl) (q 52) (Opd.int .i64 (0))) rfl (c (OpJ.val (v' := .d (.bool false)) (by rw [hg192] <;> rfl) (mv hN (q 53))) rfl (cg (sU 54 (L rfl)) rfl (cg (sU 54 (L rfl)) rfl (cg (sV 56 (L rfl)) rfl (cg (sV 56 (L rfl)) rfl (cg (sV 56 (L rfl)) rfl (cg (sV 56 (L rfl)) rfl (cg (sV 56 (L rfl)) rfl (cg (sV 56 (L rfl)) rfl (cg (sV 56 (L rfl)) rfl (cg (sU 54 (L rfl)) rfl (cg (sU 54 (L rfl)) rfl (c (OpJ.pickF (L rfl) (q 54) (Opd.bool false)) rfl (c (OpJ.assign (L rfl) (q 66)) rfl cn))))))))))))))))))))))))) (by kernel_rfl) (by kernel_rfl) ?_
       exact hjj180 _ h _ _ (Mat.trans (mp [] [(2, (.ptr 1002 0 [])), (5, (.sref 3005 2 0 s4.2.length)), (7, (.ptr 1007 0 [])), (8, (i6 (w64 ((s4.2.length : Int) - (1 : Int))))), (16, (.sref 100000 2 0 r2.length)), (17, (i6 (r1.length : Int))), (18, (i6 s4.1)), (42, (bo false))] [(1002, some (.box 77 (.st [(.func 71 []), (.func 134 []), (.func 135 [])]))), (1007, some (.box 101 (.d (e_resource_part_int_ x164)))), (3005, some (.row 101 2 (s4.2.map e_resource_part_int_))), (100000, some (.row 101 2 (r2.map e_resource_part_int_)))] hB) (mp [] _ _ hB))
  ·replace h := ite_f hg128 h
   refine AWp.exit ?_
   refine seqQ_e ?_
   obtain rfl := Option.some.inj h
   exact ⟨(fun hc => by cases hc), rfl, (mp [] _ _ hB)⟩
 ·obtain ⟨rfl, hmat⟩ := hR
  refine blkQ_hit ?_
  refine seqQ_n ?_
  refine AWp.ghost hmat ?_
  refine sr (c (mv hN (q 5)) rfl (c (OpJ.assign (L rfl) (q 90)) rfl cn)) ?_
  refine gh [(4, _)] [(3005, some _)] hB rfl rfl (by rfl) ?_
  refine AWp.ret ?_
  obtain rfl := Option.some.inj h
  exact ⟨.inl rfl, _, _, (Mat.trans (Mat.freezeP (n := 3005) (e := 101) (sz := 2) (es := p127.map e_resource_part_int_) (Ts := [(4, (.d (.list 2 (p127.map e_resource_part_int_))))]) (Bs := []) (by rfl) (TwT.cons (x := (.sref 3005 2 0 p127.length)) (by rfl) (FrzL.all (by first | rfl | (simp; done) | (simp; omega) | omega)) TwT.nil) TwB.nil) (mp [] [(4, (.d (.list 2 (p127.map e_resource_part_int_))))] [] hB)), [(.d (.list 2 (p127.map e_resource_part_int_)))], (Res.tmp (by rfl) (by rfl) Res.nil), rfl, by rfl, by rfl, by rfl⟩

noncomputable def resource_set_resources_L0 (a0 : resource_set) (s2 : Int × (List api_Range)) : Option ((((List api_Range))) ⊕ (Int × (List api_Range))) :=
 (if (decide (s2.1 < (a0.faddrs.length : Int))) = true then
 (idx a0.faddrs s2.1).bind fun x11 =>
 chk (decide ((s2.2 ++ ([(api_Range.mk x11.ffrom x11.fto)] : List api_Range)).length ≤ LIM)) <|
 some (.inr ((w64 (s2.1 + (1 : Int))), (s2.2 ++ ([(api_Range.mk x11.ffrom x11.fto)] : List api_Range))))
 else
 some (.inl s2.2))
noncomputable def resource_set_resources_L1 (a0 : resource_set) (s15 : Int × (List api_Span)) : Option ((((List api_Span))) ⊕ (Int × (List api_Span))) :=
 (if (decide (s15.1 < (a0.fasns.length : Int))) = true then
 (idx a0.fasns s15.1).bind fun x24 =>
 chk (decide ((s15.2 ++ ([(api_Span.mk x24.ffrom x24.fto)] : List api_Span)).length ≤ LIM)) <|
 some (.inr ((w64 (s15.1 + (1 : Int))), (s15.2 ++ ([(api_Span.mk x24.ffrom x24.fto)] : List api_Span))))
 else
 some (.inl s15.2))
noncomputable def resource_set_resources (a0 : resource_set) : Option (api_Resources × Int) :=
 (if ((decide ((256 : Int) < (a0.faddrs.length : Int))) || (decide ((256 : Int) < (a0.fasns.length : Int)))) = true then
 some ((api_Resources.mk ([] : List api_Range) ([] : List api_Span)), (3 : Int))
 else
 (loop (resource_set_resources_L0 a0) ((0 : Int), ([] : List api_Range))).bind fun p9 =>
 (loop (resource_set_resources_L1 a0) ((0 : Int), ([] : List api_Span))).bind fun p22 =>
 some ((api_Resources.mk p9 p22), (0 : Int)))
theorem resource_set_resources_ac (a0 : resource_set) (r : api_Resources × Int) (h : resource_set_resources a0 = some r) : AC Tryz.prog 32 [(.d (e_resource_set a0))] [] (.tup [(.d (e_api_Resources r.1)), (.d (.int .i64 r.2))]) [] := by
 refine AC.of_code2 Tryz.func32 rfl rfl (Nat.le_of_ble_eq_true (by rfl)) fun B hB hN => ?_
 have L {d : Nat} (h : Nat.blt d Tryz.f32.ntmps = true) : d < B.N := ltN hN h
 delta resource_set_resources at h
 refine sr (cg (OpJ.box hB (nm := 1001) (by decide) (by simp) rfl (L rfl) (q 0)) rfl (cg (OpJ.alloc hB tyZ25 (nm := 1002) (by decide) (L rfl)) rfl (c (OpJ.assign (L rfl) (Opd.int .i64 (0))) rfl cn))) ?_
 refine gh [(1, _), (2, _)] [(1001, some _), (1002, some _)] hB rfl rfl (by rfl) ?_
 refine AWp.seq ?_
 refine sr (c (ov (.ptr 1001 0 [0]) (fp hN Tryz.underlying69 0 tyS66 _ (q 1))) rfl (c (lb hN 69 _ _ tyS66 (ad _) (q 9)) rfl (c (OpJ.val (v' := (i6 (a0.faddrs.length : Int))) (by simp) (OpJ.lenD Tryz.underlying66 (L rfl) (q 10))) rfl (c (OpJ.gtr (L rfl) (q 11) (Opd.int .i64 (256))) rfl (c (mv hN (q 12)) rfl (c (oq hN 13 (ov (.ptr 1001 1 [1]) (fp hN Tryz.underlying69 1 tyS67 _ (q 1))) (OptL.keep (by rfl) OptL.nil) (GuardV.plain _)) rfl (c (oq hN 13 (lb hN 69 _ _ tyS67 (ad _) (q 14)) (OptL.opt OptL.nil) (GuardV.plain _)) rfl (c (oq hN 13 (OpJ.val (v' := (i6 (a0.fasns.length : Int))) (by simp) (OpJ.lenD Tryz.underlying67 (L rfl) (q 15))) (OptL.opt OptL.nil) (GuardV.plain _)) rfl (c (oq hN 13 (OpJ.gtr (L rfl) (q 16) (Opd.int .i64 (256))) (OptL.opt OptL.nil) (GuardV.plain _)) rfl (c (OpJ.pickOr rfl (L rfl) (q 13) (q 17)) rfl cn)))))))))) ?_
 refine gh [(1, _), (2, _), (18, _)] [(1001, some _), (1002, some _)] hB rfl rfl (by rfl) ?_
 refine AWp.cond rfl (fun hg1 => ?_) (fun hg1 => ?_)
 ·replace h := ite_t hg1 h
  refine sr (c (OpJ.build (places := [(0, 1), (1, 1)]) ⟨Tryz.underlying25, fun w => by kernel_rfl⟩ tyZS25 Opds.nil (by kernel_rfl) (r := (.st [.nils, .nils])) (by rfl) (L rfl)) rfl (cg (OpJ.storeB tyS25 (SetAt.here _ _) (by rfl) (by rfl) (by simp) rfl (q 2) (q 19)) rfl (c (OpJ.assign (L rfl) (Opd.int .i64 (3))) rfl cn))) ?_
  refine gh [(2, _), (3, _)] [(1002, some _)] hB rfl rfl (by rfl) ?_
  refine AWp.ret ?_
  refine seqQ_r ?_
  obtain rfl := Option.some.inj h
  exact ⟨.inl rfl, _, _, (Mat.trans (Mat.coeP (Ts := []) (Bs := [(1002, some (.box 25 (.d (.st [(.list 6 (([] : List api_Range).map e_api_Range)), (.list 2 (([] : List api_Span).map e_api_Span))]))))]) TwT.nil (TwB.cons (x := (.st [.nils, .nils])) (by rfl) (Tw.leaf ⟨_, (Co.st (CoL.cons (Co.nils 6) (CoL.cons (Co.nils 2) CoL.nil))), rfl⟩) TwB.nil)) (mp [] [(2, (.ptr 1002 0 [])), (3, (i6 (3 : Int)))] [(1002, some (.box 25 (.d (.st [(.list 6 (([] : List api_Range).map e_api_Range)), (.list 2 (([] : List api_Span).map e_api_Span))]))))] hB)), [(.d (.st [(.list 6 (([] : List api_Range).map e_api_Range)), (.list 2 (([] : List api_Span).map e_api_Span))])), (i6 (3 : Int))], (Res.cell (c := (.d (.st [(.list 6 (([] : List api_Range).map e_api_Range)), (.list 2 (([] : List api_Span).map e_api_Span))]))) (by rfl) (by rfl) tyS25 (by rfl) (by rfl) (by rfl) (Res.tmp (by rfl) (by rfl) Res.nil)), rfl, by rfl, by rfl, by rfl⟩
 ·replace h := ite_f hg1 h
  refine AWp.skip ?_
  refine seqQ_n ?_
  refine sr (cg (OpJ.alloc hB tyZ25 (nm := 1004) (by decide) (L rfl)) rfl cn) ?_
  refine gh [(1, _), (2, _), (4, _)] [(1001, some _), (1002, some _), (1004, some _)] hB rfl rfl (by rfl) ?_
  refine AWp.seq ?_
  refine sr (c (ov (.ptr 1001 0 [0]) (fp hN Tryz.underlying69 0 tyS66 _ (q 1))) rfl (c (lb hN 69 _ _ tyS66 (ad _) (q 20)) rfl (c (OpJ.val (v' := (i6 (a0.faddrs.length : Int))) (by simp) (OpJ.lenD Tryz.underlying66 (L rfl) (q 21))) rfl (c (mv hN (Opd.int .i64 (0))) rfl cn)))) ?_
  refine gh [(1, _), (2, _), (4, _), (21, _), (22, _), (23, _)] [(1001, some _), (1002, some _), (1004, some _)] hB rfl rfl (by rfl) ?_
  refine AWp.block ?_
  obtain ⟨p9, hx14, h⟩ := bindS h
  refine lg (resource_set_resources_L0 a0) (fun s2 : Int × (List api_Range) => ([(1, (.ptr 1001 0 [])), (2, (.ptr 1002 0 [])), (4, (.ptr 1004 0 [])), (21, (qe_api_Addr__6 a0.faddrs)), (22, (i6 (a0.faddrs.length : Int))), (23, (i6 s2.1))] : EL)) (fun s2 : Int × (List api_Range) => ([(1001, some (.box 69 (.d (e_resource_set a0)))), (1002, some (.box 25 (.st [.nils, .nils]))), (1004, some (.box 25 (.st [(.sref 13040 6 0 s2.2.length), .nils]))), (13040, some (we_api_Range_46_6 s2.2))] : OL)) (fun (p9 : ((List api_Range))) e E' O' => e = .exit 0 ∧ Mat B E' O' ([(1, (.ptr 1001 0 [])), (2, (.ptr 1002 0 [])), (4, (.ptr 1004 0 []))] : EL) ([(1001, some (.box 69 (.d (e_resource_set a0)))), (1002, some (.box 25 (.st [.nils, .nils]))), (1004, some (.box 25 (.st [(.sref 13040 6 0 p9.length), .nils]))), (13040, some (we_api_Range_46_6 p9))] : OL)) hx14 (Mat.trans (Mat.beginP (n := 13040) (e := 46) (sz := 6) (Ts := []) (Bs := [(1004, some (.box 25 (.st [(.sref 13040 6 0 0), .nils])))]) hB (by decide) (by rfl) (by decide) TwT.nil (TwB.cons (x := (.st [.nils, .nils])) (by rfl) (Tw.st (TwL.cons (Tw.leaf ⟨rfl, rfl⟩) (TwL.cons (Tw.same _) TwL.nil))) TwB.nil)) (mp [] _ _ hB)) (fun s2 y h => ?_) (fun e E' O' hR => ?_)
  ·unfold resource_set_resources_L0 at h
   refine sr (c (OpJ.lss (L rfl) (q 23) (q 22)) rfl cn) ?_
   refine gh [(1, _), (2, _), (4, _), (21, _), (22, _), (23, _), (24, _)] [(1001, some _), (1002, some _), (1004, some _), (13040, some _)] hB rfl rfl (by rfl) ?_
   refine AWp.seq ?_
   refine AWp.cond rfl (fun hg10 => ?_) (fun hg10 => ?_)
   ·replace h := ite_t hg10 h
    refine AWp.skip ?_
    refine seqQ_n ?_
    refine AWp.seq ?_
    refine AWp.block ?_
    obtain ⟨x11, hx11, h⟩ := bindS h
    refine sr (c (OpJ.indexD Tryz.underlying66 tyS99 (idx_some hx11).1 (get_map e_api_Addr_ (idx_some hx11).2) (L rfl) (q 21) (q 23)) rfl (c (OpJ.loadD tyS99 (by rfl) (by rfl) (L rfl) (q 25)) rfl (cg (OpJ.alloc hB tyZ99 (nm := 1006) (by decide) (L rfl)) rfl (cg (OpJ.storeB tyS99 (SetAt.here _ _) (by rfl) (by rfl) (by simp) rfl (q 6) (q 26)) rfl cn)))) ?_
    refine gh [(1, _), (2, _), (4, _), (6, _), (21, _), (22, _), (23, _)] [(1001, some _), (1002, some _), (1004, some _), (1006, some _), (13040, some _)] hB rfl rfl (by rfl) ?_
    obtain ⟨hc12, h⟩ := chk_some h
    refine rg (c (ov (.ptr 1004 0 [0]) (fp hN Tryz.underlying25 0 tyS22 _ (q 4))) rfl (c (lb hN 25 _ (.sref 13040 6 0 s2.2.length) tyS22 (At.st1 (f := (.sref 13040 6 0 s2.2.length)) (by rfl) (by rfl) (At.here _) (by first | rfl | omega)) (q 27)) rfl (c (ov (.ptr 1006 0 [0]) (fp hN Tryz.underlying99 0 tyS42 _ (q 6))) rfl (c (lb hN 99 _ _ tyS42 (ad _) (q 29)) rfl (c (ov (.ptr 1006 3 [1]) (fp hN Tryz.underlying99 3 tyS42 _ (q 6))) rfl (c (lb hN 99 _ _ tyS42 (ad _) (q 31)) rfl (c (OpJ.coe (v := (.st [(.d (e_api_Addr x11.ffrom)), (.d (e_api_Addr x11.fto))])) (y := (.st [(e_api_Addr x11.ffrom), (e_api_Addr x11.fto)])) (Co.st (CoL.cons (Co.d _) (CoL.cons (Co.d _) CoL.nil))) rfl (OpJ.build (places := [(0, 3), (3, 3)]) ⟨Tryz.underlying46, fun w => by kernel_rfl⟩ tyZS46 (Opds.cons (q 30) (Opds.cons (q 32) Opds.nil)) (by kernel_rfl) (r := (.st [(.d (e_api_Addr x11.ffrom)), (.d (e_api_Addr x11.fto))])) (by rfl) (L rfl))) rfl (c (OpJ.buildSlice Tryz.underlying22 tyS46 tyZD46 (by rfl) (by decide) (by decide) (Opds.cons (q 33) Opds.nil) (by kernel_rfl) (es := ([(.st [(e_api_Addr x11.ffrom), (e_api_Addr x11.fto)])] : List D)) (by rfl) (by rfl) (by kernel_rfl) (by simp) (L rfl)) rfl (cg (OpJ.append hB Tryz.underlying22 tyE46 (nm := 1035) (by decide) (es := s2.2.map e_api_Range) (ys := ([(api_Range.mk x11.ffrom x11.fto)] : List api_Range).map e_api_Range) (es' := (s2.2 ++ ([(api_Range.mk x11.ffrom x11.fto)] : List api_Range)).map e_api_Range) (len := (s2.2 ++ ([(api_Range.mk x11.ffrom x11.fto)] : List api_Range)).length) (by simp) (by simp) (map_sz (f := e_api_Range) (fun _ => rfl)) (by rw [List.length_map]; exact lim_mulN hc12 (by decide)) (by rw [List.length_map]; exact lim_leN hc12) (L rfl) (by simp) (q 28) (q 34)) rfl (c (ov (.ptr 1004 0 [0]) (fp hN Tryz.underlying25 0 tyS22 _ (q 4))) rfl (cg (OpJ.storeB (c' := (.st [(.sref 1035 6 0 ((s2.2 ++ ([(api_Range.mk x11.ffrom x11.fto)] : List api_Range)).length)), .nils])) tyS22 (SetAt.st1 (f := (.sref 13040 6 0 s2.2.length)) (by rfl) (by rfl) (SetAt.here _ _) (by rfl) (by rfl) (by first | rfl | omega)) (by rfl) (by rfl) (by simp) rfl (q 36) (q 35)) rfl cn))))))))))) ?_
    refine blkQ_n ?_
    refine seqQ_n ?_
    refine gh [(1, _), (2, _), (4, _), (21, _), (22, _), (23, _)] [(1001, some _), (1002, some _), (1004, some _), (1035, some _)] hB rfl rfl (by rfl) ?_
    refine rg (c (add6 (L rfl) (q 23) (Opd.int .i64 (1))) rfl (c (mv hN (q 37)) rfl cn)) ?_
    obtain rfl := Option.some.inj h
    exact ⟨rfl, (Mat.trans (mp [] [(1, (.ptr 1001 0 [])), (2, (.ptr 1002 0 [])), (4, (.ptr 1004 0 [])), (21, (qe_api_Addr__6 a0.faddrs)), (22, (i6 (a0.faddrs.length : Int))), (23, (i6 (w64 (s2.1 + (1 : Int)))))] [(1001, some (.box 69 (.d (e_resource_set a0)))), (1002, some (.box 25 (.st [.nils, .nils]))), (1004, some (.box 25 (.st [(.sref 1035 6 0 ((s2.2 ++ ([(api_Range.mk x11.ffrom x11.fto)] : List api_Range)).length)), .nils]))), (1035, some (we_api_Range_46_6 (s2.2 ++ ([(api_Range.mk x11.ffrom x11.fto)] : List api_Range))))] hB) (mp [(13040, 1035)] _ _ hB))⟩
   ·replace h := ite_f hg10 h
    refine AWp.exit ?_
    refine seqQ_e ?_
    obtain rfl := Option.some.inj h
    exact ⟨(fun hc => by cases hc), rfl, (mp [] _ _ hB)⟩
  ·obtain ⟨rfl, hmat⟩ := hR
   refine blkQ_hit ?_
   refine seqQ_n ?_
   refine AWp.ghost hmat ?_
   refine AWp.seq ?_
   refine sr (c (ov (.ptr 1001 1 [1]) (fp hN Tryz.underlying69 1 tyS67 _ (q 1))) rfl (c (lb hN 69 _ _ tyS67 (ad _) (q 38)) rfl (c (OpJ.val (v' := (i6 (a0.fasns.length : Int))) (by simp) (OpJ.lenD Tryz.underlying67 (L rfl) (q 39))) rfl (c (mv hN (Opd.int .i64 (0))) rfl cn)))) ?_
   refine gh [(2, _), (4, _), (39, _), (40, _), (41, _)] [(1002, some _), (1004, some _), (13040, some _)] hB rfl rfl (by rfl) ?_
   refine AWp.block ?_
   obtain ⟨p22, hx27, h⟩ := bindS h
   refine lg (resource_set_resources_L1 a0) (fun s15 : Int × (List api_Span) => ([(2, (.ptr 1002 0 [])), (4, (.ptr 1004 0 [])), (39, (.d (.list 2 (a0.fasns.map e_resource_part_int_)))), (40, (i6 (a0.fasns.length : Int))), (41, (i6 s15.1))] : EL)) (fun s15 : Int × (List api_Span) => ([(1002, some (.box 25 (.st [.nils, .nils]))), (1004, some (.box 25 (.st [(.sref 13040 6 0 p9.length), (.sref 13041 2 0 s15.2.length)]))), (13040, some (we_api_Range_46_6 p9)), (13041, some (we_api_Span_62_2 s15.2))] : OL)) (fun (p22 : ((List api_Span))) e E' O' => e = .exit 2 ∧ Mat B E' O' ([(2, (.ptr 1002 0 [])), (4, (.ptr 1004 0 []))] : EL) ([(1002, some (.box 25 (.st [.nils, .nils]))), (1004, some (.box 25 (.st [(.sref 13040 6 0 p9.length), (.sref 13041 2 0 p22.length)]))), (13040, some (we_api_Range_46_6 p9)), (13041, some (we_api_Span_62_2 p22))] : OL)) hx27 (Mat.trans (Mat.beginP (n := 13041) (e := 62) (sz := 2) (Ts := []) (Bs := [(1004, some (.box 25 (.st [(.sref 13040 6 0 p9.length), (.sref 13041 2 0 0)])))]) hB (by decide) (by rfl) (by decide) TwT.nil (TwB.cons (x := (.st [(.sref 13040 6 0 p9.length), .nils])) (by rfl) (Tw.st (TwL.cons (Tw.same _) (TwL.cons (Tw.leaf ⟨rfl, rfl⟩) TwL.nil))) TwB.nil)) (mp [] _ _ hB)) (fun s15 y h => ?_) (fun e E' O' hR => ?_)
   ·unfold resource_set_resources_L1 at h
    refine sr (c (OpJ.lss (L rfl) (q 41) (q 40)) rfl cn) ?_
    refine gh [(2, _), (4, _), (39, _), (40, _), (41, _), (42, _)] [(1002, some _), (1004, some _), (13040, some _), (13041, some _)] hB rfl rfl (by rfl) ?_
    refine AWp.seq ?_
    refine AWp.cond rfl (fun hg23 => ?_) (fun hg23 => ?_)
    ·replace h := ite_t hg23 h
     refine AWp.skip ?_
     refine seqQ_n ?_
     refine AWp.seq ?_
     refine AWp.block ?_
     obtain ⟨x24, hx24, h⟩ := bindS h
     refine sr (c (OpJ.indexD Tryz.underlying67 tyS101 (idx_some hx24).1 (get_map e_resource_part_int_ (idx_some hx24).2) (L rfl) (q 39) (q 41)) rfl (c (OpJ.loadD tyS101 (by rfl) (by rfl) (L rfl) (q 43)) rfl (cg (OpJ.alloc hB tyZ101 (nm := 1008) (by decide) (L rfl)) rfl (cg (OpJ.storeB tyS101 (SetAt.here _ _) (by rfl) (by rfl) (by simp) rfl (q 8) (q 44)) rfl cn)))) ?_
     refine gh [(2, _), (4, _), (8, _), (39, _), (40, _), (41, _)] [(1002, some _), (1004, some _), (1008, some _), (13040, some _), (13041, some _)] hB rfl rfl (by rfl) ?_
     obtain ⟨hc25, h⟩ := chk_some h
     refine rg (c (ov (.ptr 1004 1 [1]) (fp hN Tryz.underlying25 1 tyS23 _ (q 4))) rfl (c (lb hN 25 _ (.sref 13041 2 0 s15.2.length) tyS23 (At.st1 (f := (.sref 13041 2 0 s15.2.length)) (by rfl) (by rfl) (At.here _) (by first | rfl | omega)) (q 45)) rfl (c (ov (.ptr 1008 0 [0]) (fp hN Tryz.underlying101 0 tyS3 _ (q 8))) rfl (c (lb hN 101 _ _ tyS3 (ad _) (q 47)) rfl (c (ov (.ptr 1008 1 [1]) (fp hN Tryz.underlying101 1 tyS3 _ (q 8))) rfl (c (lb hN 101 _ _ tyS3 (ad _) (q 49)) rfl (c (OpJ.coe (v := (.st [(i6 x24.ffrom), (i6 x24.fto)])) (y := (.st [(.int .i64 x24.ffrom), (.int .i64 x24.fto)])) (Co.st (CoL.cons (Co.d _) (CoL.cons (Co.d _) CoL.nil))) rfl (OpJ.build (places := [(0, 1), (1, 1)]) ⟨Tryz.underlying62, fun w => by kernel_rfl⟩ tyZS62 (Opds.cons (q 48) (Opds.cons (q 50) Opds.nil)) (by kernel_rfl) (r := (.st [(i6 x24.ffrom), (i6 x24.fto)])) (by rfl) (L rfl))) rfl (c (OpJ.buildSlice Tryz.underlying23 tyS62 tyZD62 (by rfl) (by decide) (by decide) (Opds.cons (q 51) Opds.nil) (by kernel_rfl) (es := ([(.st [(.int .i64 x24.ffrom), (.int .i64 x24.fto)])] : List D)) (by rfl) (by rfl) (by kernel_rfl) (by simp) (L rfl)) rfl (cg (OpJ.append hB Tryz.underlying23 tyE62 (nm := 1053) (by decide) (es := s15.2.map e_api_Span) (ys := ([(api_Span.mk x24.ffrom x24.fto)] : List api_Span).map e_api_Span) (es' := (s15.2 ++ ([(api_Span.mk x24.ffrom x24.fto)] : List api_Span)).map e_api_Span) (len := (s15.2 ++ ([(api_Span.mk x24.ffrom x24.fto)] : List api_Span)).length) (by simp) (by simp) (map_sz (f := e_api_Span) (fun _ => rfl)) (by rw [List.length_map]; exact lim_mulN hc25 (by decide)) (by rw [List.length_map]; exact lim_leN hc25) (L rfl) (by simp) (q 46) (q 52)) rfl (c (ov (.ptr 1004 1 [1]) (fp hN Tryz.underlying25 1 tyS23 _ (q 4))) rfl (cg (OpJ.storeB (c' := (.st [(.sref 13040 6 0 p9.length), (.sref 1053 2 0 ((s15.2 ++ ([(api_Span.mk x24.ffrom x24.fto)] : List api_Span)).length))])) tyS23 (SetAt.st1 (f := (.sref 13041 2 0 s15.2.length)) (by rfl) (by rfl) (SetAt.here _ _) (by rfl) (by rfl) (by first | rfl | omega)) (by rfl) (by rfl) (by simp) rfl (q 54) (q 53)) rfl cn))))))))))) ?_
     refine blkQ_n ?_
     refine seqQ_n ?_
     refine gh [(2, _), (4, _), (39, _), (40, _), (41, _)] [(1002, some _), (1004, some _), (1053, some _), (13040, some _)] hB rfl rfl (by rfl) ?_
     refine rg (c (add6 (L rfl) (q 41) (Opd.int .i64 (1))) rfl (c (mv hN (q 55)) rfl cn)) ?_
     obtain rfl := Option.some.inj h
     exact ⟨rfl, (Mat.trans (mp [] [(2, (.ptr 1002 0 [])), (4, (.ptr 1004 0 [])), (39, (.d (.list 2 (a0.fasns.map e_resource_part_int_)))), (40, (i6 (a0.fasns.length : Int))), (41, (i6 (w64 (s15.1 + (1 : Int)))))] [(1002, some (.box 25 (.st [.nils, .nils]))), (1004, some (.box 25 (.st [(.sref 13040 6 0 p9.length), (.sref 1053 2 0 ((s15.2 ++ ([(api_Span.mk x24.ffrom x24.fto)] : List api_Span)).length))]))), (1053, some (we_api_Span_62_2 (s15.2 ++ ([(api_Span.mk x24.ffrom x24.fto)] : List api_Span)))), (13040, some (we_api_Range_46_6 p9))] hB) (mp [(13041, 1053)] _ _ hB))⟩
    ·replace h := ite_f hg23 h
     refine AWp.exit ?_
     refine seqQ_e ?_
     obtain rfl := Option.some.inj h
     exact ⟨(fun hc => by cases hc), rfl, (mp [] _ _ hB)⟩
   ·obtain ⟨rfl, hmat⟩ := hR
    refine blkQ_hit ?_
    refine seqQ_n ?_
    refine AWp.ghost hmat ?_
    refine sr (c (lb hN 25 _ _ tyS25 (At.here _) (q 4)) rfl (cg (OpJ.storeB tyS25 (SetAt.here _ _) (by rfl) (by rfl) (by simp) rfl (q 2) (q 56)) rfl (c (OpJ.assign (L rfl) (Opd.int .i64 (0))) rfl cn))) ?_
    refine gh [(2, _), (3, _)] [(1002, some _), (13040, some _), (13041, some _)] hB rfl rfl (by rfl) ?_
    refine AWp.ret ?_
    obtain rfl := Option.some.inj h
    exact ⟨.inl rfl, _, _, (Mat.trans (Mat.freezeP (n := 13040) (e := 46) (sz := 6) (es := p9.map e_api_Range) (Ts := []) (Bs := [(1002, some (.box 25 (.st [(qe_api_Range_6 p9), (.sref 13041 2 0 p22.length)])))]) (by rfl) TwT.nil (TwB.cons (x := (.st [(.sref 13040 6 0 p9.length), (.sref 13041 2 0 p22.length)])) (by rfl) (Tw.st (TwL.cons (FrzL.all (by first | rfl | (simp; done) | (simp; omega) | omega)) (TwL.cons (Tw.same _) TwL.nil))) TwB.nil)) (Mat.trans (Mat.freezeP (n := 13041) (e := 62) (sz := 2) (es := p22.map e_api_Span) (Ts := []) (Bs := [(1002, some (.box 25 (.st [(qe_api_Range_6 p9), (qe_api_Span_2 p22)])))]) (by rfl) TwT.nil (TwB.cons (x := (.st [(qe_api_Range_6 p9), (.sref 13041 2 0 p22.length)])) (by rfl) (Tw.st (TwL.cons (Tw.same _) (TwL.cons (FrzL.all (by first | rfl | (simp; done) | (simp; omega) | omega)) TwL.nil))) TwB.nil)) (Mat.trans (Mat.coeP (Ts := []) (Bs := [(1002, some (.box 25 (.d (.st [(.list 6 (p9.map e_api_Range)), (.list 2 (p22.map e_api_Span))]))))]) TwT.nil (TwB.cons (x := (.st [(qe_api_Range_6 p9), (qe_api_Span_2 p22)])) (by rfl) (Tw.leaf ⟨_, (Co.st (CoL.cons (Co.d _) (CoL.cons (Co.d _) CoL.nil))), rfl⟩) TwB.nil)) (mp [] [(2, (.ptr 1002 0 [])), (3, (i6 0))] [(1002, some (.box 25 (.d (.st [(.list 6 (p9.map e_api_Range)), (.list 2 (p22.map e_api_Span))]))))] hB)))), [(.d (.st [(.list 6 (p9.map e_api_Range)), (.list 2 (p22.map e_api_Span))])), (i6 0)], (Res.cell (c := (.d (.st [(.list 6 (p9.map e_api_Range)), (.list 2 (p22.map e_api_Span))]))) (by rfl) (by rfl) tyS25 (by rfl) (by rfl) (by rfl) (Res.tmp (by rfl) (by rfl) Res.nil)), rfl, by rfl, by rfl, by rfl⟩

noncomputable def resource_Union (a0 : api_Resources) (a1 : api_Resources) : Option (api_Resources × Int) :=
 jn (fun m5 : Bool =>
 (if m5 = true then
 some ((api_Resources.mk ([] : List api_Range) ([] : List api_Span)), (1 : Int))
 else
 (resource_of_3 a0).bind fun r8 =>
 (resource_of a1).bind fun r9 =>
 chk (decide ((r8.faddrs ++ r9.faddrs).length ≤ LIM)) <|
 (resource_order_normal (r8.faddrs ++ r9.faddrs)).bind fun r15 =>
 chk (decide ((r8.fasns ++ r9.fasns).length ≤ LIM)) <|
 (resource_order_normal_2 (r8.fasns ++ r9.fasns)).bind fun r17 =>
 (resource_set_resources (resource_set.mk r15 r17)).bind fun r18 =>
 some (r18.1, r18.2))) (fun j6 =>
 (resource_Valid a0).bind fun r19 =>
 (if (!r19) = true then
 j6 true
 else
 (resource_Valid a1).bind fun r21 =>
 j6 (!r21)))
theorem resource_Union_ac (a0 : api_Resources) (a1 : api_Resources) (r : api_Resources × Int) (h : resource_Union a0 a1 = some r) : AC Tryz.prog 10 [(.d (e_api_Resources a0)), (.d (e_api_Resources a1))] [(500, (.know (globF 0 [50, 52, 133]))), (501, (.know (globF 1 [71, 134, 135])))] (.tup [(.d (e_api_Resources r.1)), (.d (.int .i64 r.2))]) [(500, some (.know (globF 0 [50, 52, 133]))), (501, some (.know (globF 1 [71, 134, 135])))] := by
 refine AC.of_code2 Tryz.func10 rfl rfl (Nat.le_of_ble_eq_true (by rfl)) fun B hB hN => ?_
 have L {d : Nat} (h : Nat.blt d Tryz.f10.ntmps = true) : d < B.N := ltN hN h
 delta resource_Union at h
 refine sr (cg (OpJ.box hB (nm := 1002) (by decide) (by simp) rfl (L rfl) (q 0)) rfl (cg (OpJ.box hB (nm := 1003) (by decide) (by simp) rfl (L rfl) (q 1)) rfl (cg (OpJ.alloc hB tyZ25 (nm := 1004) (by decide) (L rfl)) rfl (c (OpJ.assign (L rfl) (Opd.int .i64 (0))) rfl cn)))) ?_
 refine gh [(2, _), (3, _), (4, _)] [(500, some _), (501, some _), (1002, some _), (1003, some _), (1004, some _)] hB rfl rfl (by rfl) ?_
 refine AWp.seq ?_
 refine AWp.seq ?_
 refine AWp.cut h (fun m5 : Bool => ([(2, (.ptr 1002 0 [])), (3, (.ptr 1003 0 [])), (4, (.ptr 1004 0 [])), (15, (bo m5))] : EL)) (fun m5 : Bool => ([(500, some (.know (globF 0 [50, 52, 133]))), (501, some (.know (globF 1 [71, 134, 135]))), (1002, some (.box 25 (.d (e_api_Resources a0)))), (1003, some (.box 25 (.d (e_api_Resources a1)))), (1004, some (.box 25 (.st [.nils, .nils])))] : OL)) (fun m5 h E' O' hmat => ?_) (fun j6 hjj6 h => ?_)
 ·refine seqQ_n ?_
  refine AWp.ghost hmat ?_
  refine AWp.cond rfl (fun hg7 => ?_) (fun hg7 => ?_)
  ·replace h := ite_t hg7 h
   refine sr (c (OpJ.build (places := [(0, 1), (1, 1)]) ⟨Tryz.underlying25, fun w => by kernel_rfl⟩ tyZS25 Opds.nil (by kernel_rfl) (r := (.st [.nils, .nils])) (by rfl) (L rfl)) rfl (cg (OpJ.storeB tyS25 (SetAt.here _ _) (by rfl) (by rfl) (by simp) rfl (q 4) (q 16)) rfl (c (OpJ.assign (L rfl) (Opd.int .i64 (1))) rfl cn))) ?_
   refine gh [(4, _), (5, _)] [(500, some _), (501, some _), (1004, some _)] hB rfl rfl (by rfl) ?_
   refine AWp.ret ?_
   refine seqQ_r ?_
   obtain rfl := Option.some.inj h
   exact ⟨.inl rfl, _, _, (Mat.trans (Mat.coeP (Ts := []) (Bs := [(1004, some (.box 25 (.d (.st [(.list 6 (([] : List api_Range).map e_api_Range)), (.list 2 (([] : List api_Span).map e_api_Span))]))))]) TwT.nil (TwB.cons (x := (.st [.nils, .nils])) (by rfl) (Tw.leaf ⟨_, (Co.st (CoL.cons (Co.nils 6) (CoL.cons (Co.nils 2) CoL.nil))), rfl⟩) TwB.nil)) (mp [] [(4, (.ptr 1004 0 [])), (5, (i6 1))] [(500, some (.know (globF 0 [50, 52, 133]))), (501, some (.know (globF 1 [71, 134, 135]))), (1004, some (.box 25 (.d (.st [(.list 6 (([] : List api_Range).map e_api_Range)), (.list 2 (([] : List api_Span).map e_api_Span))]))))] hB)), [(.d (.st [(.list 6 (([] : List api_Range).map e_api_Range)), (.list 2 (([] : List api_Span).map e_api_Span))])), (i6 1)], (Res.cell (c := (.d (.st [(.list 6 (([] : List api_Range).map e_api_Range)), (.list 2 (([] : List api_Span).map e_api_Span))]))) (by rfl) (by rfl) tyS25 (by rfl) (by rfl) (by rfl) (Res.tmp (by rfl) (by rfl) Res.nil)), rfl, by rfl, by rfl, by rfl⟩
  ·replace h := ite_f hg7 h
   refine AWp.skip ?_
   refine seqQ_n ?_
   refine AWp.seq ?_
   obtain ⟨r8, hr8, h⟩ := bindS h
   obtain ⟨r9, hr9, h⟩ := bindS h
   refine AWp.draws (by kernel_rfl) (oc (lb hN 25 (.d (e_api_Resources a0)) (.d (e_api_Resources a0)) tyS25 (At.here _) (ot 2 (.ptr 1002 0 [])))
    (oc (OpJ.callFn hB fnOk29 (resource_of_3_ac a0 r8 hr8) [(900000, 100200), (900001, 100201)] (by kernel_rfl) (L rfl) (by kernel_rfl) (OpdL.cons (ot 17 (.d (e_api_Resources a0))) OpdL.nil))
    (oc (lb hN 25 (.d (e_api_Resources a1)) (.d (e_api_Resources a1)) tyS25 (At.here _) (ot 3 (.ptr 1003 0 [])))
    (oc (cf hB fnOk29 (resource_of_ac a1 r9 hr9) (L rfl) (OpdL.cons (ot 19 (.d (e_api_Resources a1))) OpdL.nil))
    (oc (OpJ.alloc hB tyZ69 (nm := 1006) (by decide) (L rfl))
    (oc (OpJ.alloc hB tyZ69 (nm := 1007) (by decide) (L rfl))
    (oc (OpJ.storeB (bt := 69) (c := (.st [.nils, .nils])) (v := (.st [(.sref 100200 6 0 r8.faddrs.length), (.sref 100201 2 0 r8.fasns.length)])) (c' := (.st [(.sref 100200 6 0 r8.faddrs.length), (.sref 100201 2 0 r8.fasns.length)])) tyS69 (SetAt.here _ _) (by rfl) (by rfl) (by simp) rfl (ot 6 (.ptr 1006 0 [])) (ot 18 (.st [(.sref 100200 6 0 r8.faddrs.length), (.sref 100201 2 0 r8.fasns.length)])))
    (oc (OpJ.storeB (bt := 69) (c := (.st [.nils, .nils])) (v := (.d (e_resource_set r9))) (c' := (.d (e_resource_set r9))) tyS69 (SetAt.here _ _) (by rfl) (by rfl) (by simp) rfl (ot 7 (.ptr 1007 0 [])) (ot 20 (.d (e_resource_set r9))))
    (OpJs.nil))))))))) (by kernel_rfl) (by rfl) (by rfl) ?_
   refine seqQ_n ?_
   refine AWp.ghost (mp [] [(4, (.ptr 1004 0 [])), (6, (.ptr 1006 0 [])), (7, (.ptr 1007 0 []))] [(500, some (.know (globF 0 [50, 52, 133]))), (501, some (.know (globF 1 [71, 134, 135]))), (1004, some (.box 25 (.st [.nils, .nils]))), (1006, some (.box 69 (.st [(.sref 100200 6 0 r8.faddrs.length), (.sref 100201 2 0 r8.fasns.length)]))), (1007, some (.box 69 (.d (e_resource_set r9)))), (100200, some (we_api_Addr__99_6 r8.faddrs)), (100201, some (.row 101 2 (r8.fasns.map e_resource_part_int_)))] hB) ?_
   obtain ⟨hc14, h⟩ := chk_some h
   obtain ⟨r15, hr15, h⟩ := bindS h
   obtain ⟨hc16, h⟩ := chk_some h
   obtain ⟨r17, hr17, h⟩ := bindS h
   obtain ⟨r18, hr18, h⟩ := bindS h
   refine sd (cg (OpJ.loadG (nm := 500) [50, 52, 133] tyS73 rfl (L rfl)) rfl (c (ov (.ptr 1006 0 [0]) (fp hN Tryz.underlying69 0 tyS66 _ (q 6))) rfl (c (lb hN 69 _ (.sref 100200 6 0 r8.faddrs.length) tyS66 (At.st1 (f := (.sref 100200 6 0 r8.faddrs.length)) (by rfl) (by rfl) (At.here _) (by first | rfl | omega)) (q 22)) rfl (c (ov (.ptr 1007 0 [0]) (fp hN Tryz.underlying69 0 tyS66 _ (q 7))) rfl (c (lb hN 69 _ _ tyS66 (ad _) (q 24)) rfl (cg (OpJ.frz (OpJ.append hB Tryz.underlying66 tyE99 (nm := 1026) (by decide) (es := r8.faddrs.map e_api_Addr_) (ys := r9.faddrs.map e_api_Addr_) (es' := (r8.faddrs ++ r9.faddrs).map e_api_Addr_) (len := (r8.faddrs ++ r9.faddrs).length) (by simp) (by simp) (map_sz (f := e_api_Addr_) (fun _ => rfl)) (by rw [List.length_map]; exact lim_mulN hc14 (by decide)) (by rw [List.length_map]; exact lim_leN hc14) (L rfl) (by simp) (q 23) (q 25)) (by simp)) rfl (cg (cf hB fnOk30 (resource_order_normal_ac (r8.faddrs ++ r9.faddrs) r15 hr15) (L rfl) (OpdL.cons (q 21) (OpdL.cons (q 26) OpdL.nil))) rfl (cg (OpJ.loadG (nm := 501) [71, 134, 135] tyS77 rfl (L rfl)) rfl (c (ov (.ptr 1006 1 [1]) (fp hN Tryz.underlying69 1 tyS67 _ (q 6))) rfl (c (lb hN 69 _ (.sref 100201 2 0 r8.fasns.length) tyS67 (At.st1 (f := (.sref 100201 2 0 r8.fasns.length)) (by rfl) (by rfl) (At.here _) (by first | rfl | omega)) (q 29)) rfl (c (ov (.ptr 1007 1 [1]) (fp hN Tryz.underlying69 1 tyS67 _ (q 7))) rfl (c (lb hN 69 _ _ tyS67 (ad _) (q 31)) rfl (cg (OpJ.frz (OpJ.append hB Tryz.underlying67 tyE101 (nm := 1033) (by decide) (es := r8.fasns.map e_resource_part_int_) (ys := r9.fasns.map e_resource_part_int_) (es' := (r8.fasns ++ r9.fasns).map e_resource_part_int_) (len := (r8.fasns ++ r9.fasns).length) (by simp) (by simp) (map_sz (f := e_resource_part_int_) (fun _ => rfl)) (by rw [List.length_map]; exact lim_mulN hc16 (by decide)) (by rw [List.length_map]; exact lim_leN hc16) (L rfl) (by simp) (q 30) (q 32)) (by simp)) rfl (cg (cf hB fnOk31 (resource_order_normal_2_ac (r8.fasns ++ r9.fasns) r17 hr17) (L rfl) (OpdL.cons (q 28) (OpdL.cons (q 33) OpdL.nil))) rfl (c (OpJ.coe (v := (.st [(qe_api_Addr__6 r15), (.d (.list 2 (r17.map e_resource_part_int_)))])) (y := (.st [(.list 6 (r15.map e_api_Addr_)), (.list 2 (r17.map e_resource_part_int_))])) (Co.st (CoL.cons (Co.d _) (CoL.cons (Co.d _) CoL.nil))) rfl (OpJ.build (places := [(0, 1), (1, 1)]) ⟨Tryz.underlying69, fun w => by kernel_rfl⟩ tyZS69 (Opds.cons (q 27) (Opds.cons (q 34) Opds.nil)) (by kernel_rfl) (r := (.st [(qe_api_Addr__6 r15), (.d (.list 2 (r17.map e_resource_part_int_)))])) (by rfl) (L rfl))) rfl (cg (cf hB fnOk32 (resource_set_resources_ac (resource_set.mk r15 r17) r18 hr18) (L rfl) (OpdL.cons (q 35) OpdL.nil)) rfl (c (OpJ.extract (by rfl) rfl (L rfl) (q 36)) rfl (c (OpJ.extract (by rfl) rfl (L rfl) (q 36)) rfl (cg (OpJ.storeB tyS25 (SetAt.here _ _) (by rfl) (by rfl) (by simp) rfl (q 4) (q 37)) rfl (c (OpJ.assign (L rfl) (q 38)) rfl cn)))))))))))))))))))) (by kernel_rfl) (by kernel_rfl) ?_
   refine gh [(4, _), (5, _)] [(500, some _), (501, some _), (1004, some _)] hB rfl rfl (by rfl) ?_
   refine AWp.ret ?_
   obtain rfl := Option.some.inj h
   exact ⟨.inl rfl, _, _, (kp [(4, _), (5, _)] [(500, some _), (501, some _), (1004, some _)] hB rfl rfl (by rfl)), [(.d (e_api_Resources r18.1)), (i6 r18.2)], (Res.cell (c := (.d (e_api_Resources r18.1))) (by rfl) (by rfl) tyS25 (by rfl) (by rfl) (by rfl) (Res.tmp (by rfl) (by rfl) Res.nil)), rfl, by rfl, by rfl, by rfl⟩
 ·obtain ⟨r19, hr19, h⟩ := bindS h
  rcases Bool.eq_false_or_eq_true (!r19) with hg20 | hg20
  ·replace h := ite_t hg20 h
   refine AWp.region (oc (lb hN 25 (.d (e_api_Resources a0)) (.d (e_api_Resources a0)) tyS25 (At.here _) (ot 2 (.ptr 1002 0 [])))
    (oc (OpJ.callFn hB fnOk19 (resource_Valid_ac a0 r19 hr19) [(500, 500), (501, 501)] (by kernel_rfl) (L rfl) (by kernel_rfl) (OpdL.cons (ot 8 (.d (e_api_Resources a0))) OpdL.nil))
    (oc (OpJ.not (L rfl) (ot 9 (bo r19)))
    (oc (OpJ.val (v' := .d (.bool true)) (by rw [hg20] <;> rfl) (mv hN (ot 10 (bo (!r19)))))
    (oc (sU 11 (L rfl))
    (oc (sU 11 (L rfl))
    (oc (sU 11 (L rfl))
    (oc (OpJ.pickT (L rfl) (ot 11 (bo true)) (Opd.bool true))
    (OpJs.nil))))))))) (by rfl) (by rfl) ?_
   exact hjj6 _ h _ _ (Mat.trans (mp [] [(2, (.ptr 1002 0 [])), (3, (.ptr 1003 0 [])), (4, (.ptr 1004 0 [])), (15, (bo true))] [(500, some (.know (globF 0 [50, 52, 133]))), (501, some (.know (globF 1 [71, 134, 135]))), (1002, some (.box 25 (.d (e_api_Resources a0)))), (1003, some (.box 25 (.d (e_api_Resources a1)))), (1004, some (.box 25 (.st [.nils, .nils])))] hB) (mp [] _ _ hB))
  ·replace h := ite_f hg20 h
   obtain ⟨r21, hr21, h⟩ := bindS h
   refine AWp.region (oc (lb hN 25 (.d (e_api_Resources a0)) (.d (e_api_Resources a0)) tyS25 (At.here _) (ot 2 (.ptr 1002 0 [])))
    (oc (OpJ.callFn hB fnOk19 (resource_Valid_ac a0 r19 hr19) [(500, 500), (501, 501)] (by kernel_rfl) (L rfl) (by kernel_rfl) (OpdL.cons (ot 8 (.d (e_api_Resources a0))) OpdL.nil))
    (oc (OpJ.not (L rfl) (ot 9 (bo r19)))
    (oc (OpJ.val (v' := .d (.bool false)) (by rw [hg20] <;> rfl) (mv hN (ot 10 (bo (!r19)))))
    (oc (gd 11 (lb hN 25 (.d (e_api_Resources a1)) (.d (e_api_Resources a1)) tyS25 (At.here _) (ot 3 (.ptr 1003 0 []))))
    (oc (gd 11 (OpJ.callFn hB fnOk19 (resource_Valid_ac a1 r21 hr21) [(500, 500), (501, 501)] (by kernel_rfl) (L rfl) (by kernel_rfl) (OpdL.cons (ot 12 (.d (e_api_Resources a1))) OpdL.nil)))
    (oc (gd 11 (OpJ.not (L rfl) (ot 13 (bo r21))))
    (oc (OpJ.pickF (L rfl) (ot 11 (bo false)) (ot 14 (bo (!r21))))
    (OpJs.nil))))))))) (by rfl) (by rfl) ?_
   exact hjj6 _ h _ _ (Mat.trans (mp [] [(2, (.ptr 1002 0 [])), (3, (.ptr 1003 0 [])), (4, (.ptr 1004 0 [])), (15, (bo (!r21)))] [(500, some (.know (globF 0 [50, 52, 133]))), (501, some (.know (globF 1 [71, 134, 135]))), (1002, some (.box 25 (.d (e_api_Resources a0)))), (1003, some (.box 25 (.d (e_api_Resources a1)))), (1004, some (.box 25 (.st [.nils, .nils])))] hB) (mp [] _ _ hB))

noncomputable def resource_before (a0 : api_Addr) : Option (api_Addr × Bool) :=
 (if ((a0.fHi == (0 : Int)) && (a0.fLo == (0 : Int))) = true then
 some ((api_Addr.mk false (0 : Int) (0 : Int)), false)
 else
 jn (fun m3 : api_Addr =>
 some ((api_Addr.mk m3.fV6 m3.fHi (IntKind.u64.wrap (m3.fLo - (1 : Int)))), true)) (fun j4 =>
 (if (a0.fLo == (0 : Int)) = true then
 j4 (api_Addr.mk a0.fV6 (IntKind.u64.wrap (a0.fHi - (1 : Int))) a0.fLo)
 else
 j4 a0)))
theorem resource_before_ac (a0 : api_Addr) (r : api_Addr × Bool) (h : resource_before a0 = some r) : AC Tryz.prog 133 [(.d (e_api_Addr a0))] [] (.tup [(.d (e_api_Addr r.1)), (.d (.bool r.2))]) [] := by
 refine AC.of_code2 Tryz.func133 rfl rfl (Nat.le_of_ble_eq_true (by rfl)) fun B hB hN => ?_
 delta resource_before at h
 refine sr (cg (OpJ.box hB (nm := 1001) (by decide) (by simp) rfl (ltN hN rfl) (q 0)) rfl (cg (OpJ.alloc hB tyZ42 (nm := 1002) (by decide) (ltN hN rfl)) rfl (c (OpJ.assign (ltN hN rfl) (Opd.bool false)) rfl cn))) ?_
 refine gh [(1, _), (2, _)] [(1001, some _), (1002, some _)] hB rfl rfl (by rfl) ?_
 refine AWp.seq ?_
 refine sr (c (ov (.ptr 1001 1 [1]) (fp hN Tryz.underlying42 1 tyS40 _ (q 1))) rfl (c (lb hN 42 _ _ tyS40 (ad _) (q 4)) rfl (c (OpJ.eqlI (ltN hN rfl) (q 5) (Opd.int .u64 (0))) rfl (c (mv hN (q 6)) rfl (c (oq hN 7 (ov (.ptr 1001 2 [2]) (fp hN Tryz.underlying42 2 tyS40 _ (q 1))) (OptL.keep (by rfl) OptL.nil) (GuardV.plain _)) rfl (c (oq hN 7 (lb hN 42 _ _ tyS40 (ad _) (q 8)) (OptL.opt OptL.nil) (GuardV.plain _)) rfl (c (oq hN 7 (OpJ.eqlI (ltN hN rfl) (q 9) (Opd.int .u64 (0))) (OptL.opt OptL.nil) (GuardV.plain _)) rfl (c (OpJ.pickAnd rfl (ltN hN rfl) (q 7) (q 10)) rfl cn)))))))) ?_
 refine gh [(1, _), (2, _), (11, _)] [(1001, some _), (1002, some _)] hB rfl rfl (by rfl) ?_
 refine AWp.cond rfl (fun hg1 => ?_) (fun hg1 => ?_)
 ·replace h := ite_t hg1 h
  refine sr (c (OpJ.coe (v := (.st [(bo false), (.d (.int .u64 0)), (.d (.int .u64 0))])) (y := (.st [(.bool false), (.int .u64 0), (.int .u64 0)])) (Co.st (CoL.cons (Co.d _) (CoL.cons (Co.d _) (CoL.cons (Co.d _) CoL.nil)))) rfl (OpJ.build (places := [(0, 1), (1, 1), (2, 1)]) ⟨Tryz.underlying42, fun w => by kernel_rfl⟩ tyZS42 Opds.nil (by kernel_rfl) (r := (.st [(bo false), (.d (.int .u64 0)), (.d (.int .u64 0))])) (by rfl) (ltN hN rfl))) rfl (cg (OpJ.storeB tyS42 (SetAt.here _ _) (by rfl) (by rfl) (by simp) rfl (q 2) (q 12)) rfl (c (OpJ.assign (ltN hN rfl) (Opd.bool false)) rfl cn))) ?_
  refine gh [(2, _), (3, _)] [(1002, some _)] hB rfl rfl (by rfl) ?_
  refine AWp.ret ?_
  refine seqQ_r ?_
  obtain rfl := Option.some.inj h
  exact ⟨.inl rfl, _, _, (kp [(2, _), (3, _)] [(1002, some _)] hB rfl rfl (by rfl)), [(.d (.st [(.bool false), (.int .u64 0), (.int .u64 0)])), (bo false)], (Res.cell (c := (.d (.st [(.bool false), (.int .u64 0), (.int .u64 0)]))) (by rfl) (by rfl) tyS42 (by rfl) (by rfl) (by rfl) (Res.tmp (by rfl) (by rfl) Res.nil)), rfl, by rfl, by rfl, by rfl⟩
 ·replace h := ite_f hg1 h
  refine AWp.skip ?_
  refine seqQ_n ?_
  refine AWp.seq ?_
  refine sr (c (ov (.ptr 1001 2 [2]) (fp hN Tryz.underlying42 2 tyS40 _ (q 1))) rfl (c (lb hN 42 _ _ tyS40 (ad _) (q 13)) rfl (c (OpJ.eqlI (ltN hN rfl) (q 14) (Opd.int .u64 (0))) rfl cn))) ?_
  refine gh [(1, _), (2, _), (15, _)] [(1001, some _), (1002, some _)] hB rfl rfl (by rfl) ?_
  refine AWp.cut h (fun m3 : api_Addr => ([(1, (.ptr 1001 0 [])), (2, (.ptr 1002 0 []))] : EL)) (fun m3 : api_Addr => ([(1001, some (.box 42 (.d (e_api_Addr m3)))), (1002, some (.box 42 (.d (.st [(.bool false), (.int .u64 0), (.int .u64 0)]))))] : OL)) (fun m3 h E' O' hmat => ?_) (fun j4 hjj4 h => ?_)
  ·refine seqQ_n ?_
   refine AWp.ghost hmat ?_
   refine sr (c (ov (.ptr 1001 2 [2]) (fp hN Tryz.underlying42 2 tyS40 _ (q 1))) rfl (c (lb hN 42 _ _ tyS40 (ad _) (q 20)) rfl (c (OpJ.sub (ltN hN rfl) (q 21) (Opd.int .u64 (1))) rfl (c (ov (.ptr 1001 2 [2]) (fp hN Tryz.underlying42 2 tyS40 _ (q 1))) rfl (cg (OpJ.storeB tyS40 (SetAt.dst1 (by rfl) (by rfl) (SetAt.here _ _) (by rfl) (by rfl) (by first | rfl | omega)) (by rfl) (by rfl) (by simp) rfl (q 23) (q 22)) rfl cn))))) ?_
   refine gh [(1, _), (2, _)] [(1001, some _), (1002, some _)] hB rfl rfl (by rfl) ?_
   refine sr (c (lb hN 42 _ _ tyS42 (At.here _) (q 1)) rfl (cg (OpJ.storeB tyS42 (SetAt.here _ _) (by rfl) (by rfl) (by simp) rfl (q 2) (q 24)) rfl (c (OpJ.assign (ltN hN rfl) (Opd.bool true)) rfl cn))) ?_
   refine gh [(2, _), (3, _)] [(1002, some _)] hB rfl rfl (by rfl) ?_
   refine AWp.ret ?_
   obtain rfl := Option.some.inj h
   exact ⟨.inl rfl, _, _, (kp [(2, _), (3, _)] [(1002, some _)] hB rfl rfl (by rfl)), [(.d (.st [(.bool m3.fV6), (.int .u64 m3.fHi), (.int .u64 (IntKind.u64.wrap (m3.fLo - (1 : Int))))])), (bo true)], (Res.cell (c := (.d (.st [(.bool m3.fV6), (.int .u64 m3.fHi), (.int .u64 (IntKind.u64.wrap (m3.fLo - (1 : Int))))]))) (by rfl) (by rfl) tyS42 (by rfl) (by rfl) (by rfl) (Res.tmp (by rfl) (by rfl) Res.nil)), rfl, by rfl, by rfl, by rfl⟩
  ·refine AWp.cond rfl (fun hg5 => ?_) (fun hg5 => ?_)
   ·replace h := ite_t hg5 h
    refine rg (c (ov (.ptr 1001 1 [1]) (fp hN Tryz.underlying42 1 tyS40 _ (q 1))) rfl (c (lb hN 42 _ _ tyS40 (ad _) (q 16)) rfl (c (OpJ.sub (ltN hN rfl) (q 17) (Opd.int .u64 (1))) rfl (c (ov (.ptr 1001 1 [1]) (fp hN Tryz.underlying42 1 tyS40 _ (q 1))) rfl (cg (OpJ.storeB tyS40 (SetAt.dst1 (by rfl) (by rfl) (SetAt.here _ _) (by rfl) (by rfl) (by first | rfl | omega)) (by rfl) (by rfl) (by simp) rfl (q 19) (q 18)) rfl cn))))) ?_
    exact hjj4 _ h _ _ (Mat.trans (mp [] [(1, (.ptr 1001 0 [])), (2, (.ptr 1002 0 []))] [(1001, some (.box 42 (.d (.st [(.bool a0.fV6), (.int .u64 (IntKind.u64.wrap (a0.fHi - (1 : Int)))), (.int .u64 a0.fLo)])))), (1002, some (.box 42 (.d (.st [(.bool false), (.int .u64 0), (.int .u64 0)]))))] hB) (mp [] _ _ hB))
   ·replace h := ite_f hg5 h
    refine AWp.skip ?_
    exact hjj4 _ h _ _ (mp [] _ _ hB)

noncomputable def resource_order_minus_L1 (a1 : (List api_Addr_)) (s433 : Int × api_Addr_ × (List api_Addr_)) : Option (((Bool × api_Addr_ × (List api_Addr_))) ⊕ (Int × api_Addr_ × (List api_Addr_))) :=
 (if (decide (s433.1 < (a1.length : Int))) = true then
 jn (fun m602 : api_Addr_ × (List api_Addr_) =>
 some (.inr ((w64 (s433.1 + (1 : Int))), m602.1, m602.2))) (fun j603 =>
 (idx a1 s433.1).bind fun x604 =>
 jn (fun m609 : Bool =>
 (if m609 = true then
 j603 (s433.2.1, s433.2.2)
 else
 (resource_before x604.ffrom).bind fun r612 =>
 jn (fun m615 : Bool =>
 jn (fun m619 : (List api_Addr_) =>
 (addr_Next x604.fto).bind fun r621 =>
 jn (fun m624 : Bool =>
 (if m624 = true then
 some (.inl (false, s433.2.1, m619))
 else
 j603 ((api_Addr_.mk r621.1 s433.2.1.fto), m619))) (fun j625 =>
 (if (!r621.2) = true then
 j625 true
 else
 (addr_Cmp r621.1 s433.2.1.fto).bind fun r628 =>
 j625 (decide ((0 : Int) < r628))))) (fun j620 =>
 (if m615 = true then
 chk (decide ((s433.2.2 ++ ([(api_Addr_.mk s433.2.1.ffrom r612.1)] : List api_Addr_)).length ≤ LIM)) <|
 j620 (s433.2.2 ++ ([(api_Addr_.mk s433.2.1.ffrom r612.1)] : List api_Addr_))
 else
 j620 s433.2.2))) (fun j616 =>
 (if r612.2 = true then
 (addr_Cmp s433.2.1.ffrom r612.1).bind fun r632 =>
 j616 (decide (r632 ≤ (0 : Int)))
 else
 j616 false)))) (fun j610 =>
 (addr_Cmp x604.fto s433.2.1.ffrom).bind fun r633 =>
 (if (decide (r633 < (0 : Int))) = true then
 j610 true
 else
 (addr_Cmp x604.ffrom s433.2.1.fto).bind fun r635 =>
 j610 (decide ((0 : Int) < r635)))))
 else
 some (.inl (true, s433.2.1, s433.2.2)))
noncomputable def resource_order_minus_L0 (a0 : (List api_Addr_)) (a1 : (List api_Addr_)) (s1 : Int × (List api_Addr_)) : Option ((((List api_Addr_))) ⊕ (Int × (List api_Addr_))) :=
 (if (decide (s1.1 < (a0.length : Int))) = true then
 (idx a0 s1.1).bind fun x432 =>
 (loop (resource_order_minus_L1 a1) ((0 : Int), x432, s1.2)).bind fun p568 =>
 jn (fun m640 : (List api_Addr_) =>
 some (.inr ((w64 (s1.1 + (1 : Int))), m640))) (fun j641 =>
 (if p568.1 = true then
 chk (decide ((p568.2.2 ++ ([p568.2.1] : List api_Addr_)).length ≤ LIM)) <|
 j641 (p568.2.2 ++ ([p568.2.1] : List api_Addr_))
 else
 j641 p568.2.2))
 else
 some (.inl s1.2))
noncomputable def resource_order_minus (a0 : (List api_Addr_)) (a1 : (List api_Addr_)) : Option ((List api_Addr_)) :=
 (loop (resource_order_minus_L0 a0 a1) ((0 : Int), ([] : List api_Addr_))).bind fun p430 =>
 some p430
theorem resource_order_minus_ac (a0 : (List api_Addr_)) (a1 : (List api_Addr_)) (r : (List api_Addr_)) (h : resource_order_minus a0 a1 = some r) : AC Tryz.prog 64 [(.st [(.func 50 []), (.func 52 []), (.func 133 [])]), (.d (.list 6 (a0.map e_api_Addr_))), (.d (.list 6 (a1.map e_api_Addr_)))] [] (.d (.list 6 (r.map e_api_Addr_))) [] := by
 refine AC.of_code2 Tryz.func64 rfl rfl (Nat.le_of_ble_eq_true (by rfl)) fun B hB hN => ?_
 have L {d : Nat} (h : Nat.blt d Tryz.f64.ntmps = true) : d < B.N := ltN hN h
 delta resource_order_minus at h
 refine sr (cg (OpJ.box hB (nm := 1003) (by decide) (by simp) rfl (L rfl) (q 0)) rfl (c (OpJ.assign (L rfl) Opd.nils) rfl cn)) ?_
 refine gh [(1, _), (2, _), (3, _)] [(1003, some _)] hB rfl rfl (by rfl) ?_
 refine sr (c (OpJ.assign (L rfl) Opd.nils) rfl cn) ?_
 refine gh [(1, _), (2, _), (3, _), (7, _)] [(1003, some _)] hB rfl rfl (by rfl) ?_
 refine AWp.seq ?_
 refine sr (c (mv hN (q 1)) rfl (c (OpJ.val (v' := (i6 (a0.length : Int))) (by simp) (OpJ.lenD Tryz.underlying66 (L rfl) (q 17))) rfl (c (mv hN (Opd.int .i64 (0))) rfl cn))) ?_
 refine gh [(2, _), (3, _), (7, _), (17, _), (18, _), (19, _)] [(1003, some _)] hB rfl rfl (by rfl) ?_
 refine AWp.block ?_
 obtain ⟨p430, hx645, h⟩ := bindS h
 refine lg (resource_order_minus_L0 a0 a1) (fun s1 : Int × (List api_Addr_) => ([(2, (qe_api_Addr__6 a1)), (3, (.ptr 1003 0 [])), (7, (.sref 3007 6 0 s1.2.length)), (17, (qe_api_Addr__6 a0)), (18, (i6 (a0.length : Int))), (19, (i6 s1.1))] : EL)) (fun s1 : Int × (List api_Addr_) => ([(1003, some (.box 73 (.st [(.func 50 []), (.func 52 []), (.func 133 [])]))), (3007, some (we_api_Addr__99_6 s1.2))] : OL)) (fun (p430 : ((List api_Addr_))) e E' O' => e = .exit 0 ∧ Mat B E' O' ([(7, (.sref 3007 6 0 p430.length))] : EL) ([(3007, some (we_api_Addr__99_6 p430))] : OL)) hx645 (Mat.trans (Mat.beginP (n := 3007) (e := 99) (sz := 6) (Ts := [(7, (.sref 3007 6 0 0))]) (Bs := []) hB (by decide) (by rfl) (by decide) (TwT.cons (x := .nils) (by rfl) (Tw.leaf ⟨rfl, rfl⟩) TwT.nil) TwB.nil) (mp [] _ _ hB)) (fun s1 y h => ?_) (fun e E' O' hR => ?_)
 ·unfold resource_order_minus_L0 at h
  refine sr (c (OpJ.lss (L rfl) (q 19) (q 18)) rfl cn) ?_
  refine gh [(2, _), (3, _), (7, _), (17, _), (18, _), (19, _), (20, _)] [(1003, some _), (3007, some _)] hB rfl rfl (by rfl) ?_
  refine AWp.seq ?_
  refine AWp.cond rfl (fun hg431 => ?_) (fun hg431 => ?_)
  ·replace h := ite_t hg431 h
   refine AWp.skip ?_
   refine seqQ_n ?_
   refine AWp.seq ?_
   refine AWp.block ?_
   obtain ⟨x432, hx432, h⟩ := bindS h
   refine sr (c (OpJ.indexD Tryz.underlying66 tyS99 (idx_some hx432).1 (get_map e_api_Addr_ (idx_some hx432).2) (L rfl) (q 17) (q 19)) rfl (c (OpJ.loadD tyS99 (by rfl) (by rfl) (L rfl) (q 21)) rfl (cg (OpJ.alloc hB tyZ99 (nm := 1009) (by decide) (L rfl)) rfl (cg (OpJ.storeB tyS99 (SetAt.here _ _) (by rfl) (by rfl) (by simp) rfl (q 9) (q 22)) rfl cn)))) ?_
   refine gh [(2, _), (3, _), (7, _), (9, _), (17, _), (18, _), (19, _)] [(1003, some _), (1009, some _), (3007, some _)] hB rfl rfl (by rfl) ?_
   refine sr (c (OpJ.assign (L rfl) (Opd.bool true)) rfl cn) ?_
   refine gh [(2, _), (3, _), (7, _), (9, _), (10, _), (17, _), (18, _), (19, _)] [(1003, some _), (1009, some _), (3007, some _)] hB rfl rfl (by rfl) ?_
   refine AWp.seq ?_
   refine sr (c (mv hN (q 2)) rfl (c (OpJ.val (v' := (i6 (a1.length : Int))) (by simp) (OpJ.lenD Tryz.underlying66 (L rfl) (q 23))) rfl (c (mv hN (Opd.int .i64 (0))) rfl cn))) ?_
   refine gh [(2, _), (3, _), (7, _), (9, _), (10, _), (17, _), (18, _), (19, _), (23, _), (24, _), (25, _)] [(1003, some _), (1009, some _), (3007, some _)] hB rfl rfl (by rfl) ?_
   refine AWp.block ?_
   obtain ⟨p568, hx637, h⟩ := bindS h
   refine lg (resource_order_minus_L1 a1) (fun s433 : Int × api_Addr_ × (List api_Addr_) => ([(2, (qe_api_Addr__6 a1)), (3, (.ptr 1003 0 [])), (7, (.sref 3007 6 0 s433.2.2.length)), (9, (.ptr 1009 0 [])), (10, (bo true)), (17, (qe_api_Addr__6 a0)), (18, (i6 (a0.length : Int))), (19, (i6 s1.1)), (23, (qe_api_Addr__6 a1)), (24, (i6 (a1.length : Int))), (25, (i6 s433.1))] : EL)) (fun s433 : Int × api_Addr_ × (List api_Addr_) => ([(1003, some (.box 73 (.st [(.func 50 []), (.func 52 []), (.func 133 [])]))), (1009, some (.box 99 (.d (e_api_Addr_ s433.2.1)))), (3007, some (we_api_Addr__99_6 s433.2.2))] : OL)) (fun (p568 : (Bool × api_Addr_ × (List api_Addr_))) e E' O' => e = .exit 2 ∧ Mat B E' O' ([(2, (qe_api_Addr__6 a1)), (3, (.ptr 1003 0 [])), (7, (.sref 3007 6 0 p568.2.2.length)), (9, (.ptr 1009 0 [])), (10, (bo p568.1)), (17, (qe_api_Addr__6 a0)), (18, (i6 (a0.length : Int))), (19, (i6 s1.1))] : EL) ([(1003, some (.box 73 (.st [(.func 50 []), (.func 52 []), (.func 133 [])]))), (1009, some (.box 99 (.d (e_api_Addr_ p568.2.1)))), (3007, some (we_api_Addr__99_6 p568.2.2))] : OL)) hx637 (mp [] _ _ hB) (fun s433 y h => ?_) (fun e E' O' hR => ?_)
   ·unfold resource_order_minus_L1 at h
    refine sr (c (OpJ.lss (L rfl) (q 25) (q 24)) rfl cn) ?_
    refine gh [(2, _), (3, _), (7, _), (9, _), (10, _), (17, _), (18, _), (19, _), (23, _), (24, _), (25, _), (26, _)] [(1003, some _), (1009, some _), (3007, some _)] hB rfl rfl (by rfl) ?_
    refine AWp.seq ?_
    refine AWp.cond rfl (fun hg569 => ?_) (fun hg569 => ?_)
    ·replace h := ite_t hg569 h
     refine AWp.skip ?_
     refine seqQ_n ?_
     refine AWp.seq ?_
     refine AWp.cut h (fun m602 : api_Addr_ × (List api_Addr_) => ([(2, (qe_api_Addr__6 a1)), (3, (.ptr 1003 0 [])), (7, (.sref 3007 6 0 m602.2.length)), (9, (.ptr 1009 0 [])), (10, (bo true)), (17, (qe_api_Addr__6 a0)), (18, (i6 (a0.length : Int))), (19, (i6 s1.1)), (23, (qe_api_Addr__6 a1)), (24, (i6 (a1.length : Int))), (25, (i6 s433.1))] : EL)) (fun m602 : api_Addr_ × (List api_Addr_) => ([(1003, some (.box 73 (.st [(.func 50 []), (.func 52 []), (.func 133 [])]))), (1009, some (.box 99 (.d (e_api_Addr_ m602.1)))), (3007, some (we_api_Addr__99_6 m602.2))] : OL)) (fun m602 h E' O' hmat => ?_) (fun j603 hjj603 h => ?_)
     ·refine seqQ_n ?_
      refine AWp.ghost hmat ?_
      refine rg (c (add6 (L rfl) (q 25) (Opd.int .i64 (1))) rfl (c (mv hN (q 93)) rfl cn)) ?_
      obtain rfl := Option.some.inj h
      exact ⟨rfl, (Mat.trans (mp [] [(2, (qe_api_Addr__6 a1)), (3, (.ptr 1003 0 [])), (7, (.sref 3007 6 0 m602.2.length)), (9, (.ptr 1009 0 [])), (10, (bo true)), (17, (qe_api_Addr__6 a0)), (18, (i6 (a0.length : Int))), (19, (i6 s1.1)), (23, (qe_api_Addr__6 a1)), (24, (i6 (a1.length : Int))), (25, (i6 (w64 (s433.1 + (1 : Int)))))] [(1003, some (.box 73 (.st [(.func 50 []), (.func 52 []), (.func 133 [])]))), (1009, some (.box 99 (.d (e_api_Addr_ m602.1)))), (3007, some (we_api_Addr__99_6 m602.2))] hB) (mp [] _ _ hB))⟩
     ·refine AWp.block ?_
      obtain ⟨x604, hx604, h⟩ := bindS h
      refine sr (c (OpJ.indexD Tryz.underlying66 tyS99 (idx_some hx604).1 (get_map e_api_Addr_ (idx_some hx604).2) (L rfl) (q 23) (q 25)) rfl (c (OpJ.loadD tyS99 (by rfl) (by rfl) (L rfl) (q 27)) rfl (cg (OpJ.alloc hB tyZ99 (nm := 1012) (by decide) (L rfl)) rfl (cg (OpJ.storeB tyS99 (SetAt.here _ _) (by rfl) (by rfl) (by simp) rfl (q 12) (q 28)) rfl cn)))) ?_
      refine gh [(2, _), (3, _), (7, _), (9, _), (10, _), (12, _), (17, _), (18, _), (19, _), (23, _), (24, _), (25, _)] [(1003, some _), (1009, some _), (1012, some _), (3007, some _)] hB rfl rfl (by rfl) ?_
      refine AWp.seq ?_
      refine AWp.seq ?_
      refine AWp.cut h (fun m609 : Bool => ([(2, (qe_api_Addr__6 a1)), (3, (.ptr 1003 0 [])), (7, (.sref 3007 6 0 s433.2.2.length)), (9, (.ptr 1009 0 [])), (10, (bo true)), (12, (.ptr 1012 0 [])), (17, (qe_api_Addr__6 a0)), (18, (i6 (a0.length : Int))), (19, (i6 s1.1)), (23, (qe_api_Addr__6 a1)), (24, (i6 (a1.length : Int))), (25, (i6 s433.1)), (46, (bo m609))] : EL)) (fun m609 : Bool => ([(1003, some (.box 73 (.st [(.func 50 []), (.func 52 []), (.func 133 [])]))), (1009, some (.box 99 (.d (e_api_Addr_ s433.2.1)))), (1012, some (.box 99 (.d (e_api_Addr_ x604)))), (3007, some (we_api_Addr__99_6 s433.2.2))] : OL)) (fun m609 h E' O' hmat => ?_) (fun j610 hjj610 h => ?_)
      ·refine seqQ_n ?_
       refine AWp.ghost hmat ?_
       refine AWp.cond rfl (fun hg611 => ?_) (fun hg611 => ?_)
       ·replace h := ite_t hg611 h
        refine AWp.exit ?_
        refine seqQ_e ?_
        refine blkQ_hit ?_
        exact hjj603 _ h _ _ (mp [] _ _ hB)
       ·replace h := ite_f hg611 h
        refine AWp.skip ?_
        refine seqQ_n ?_
        refine AWp.seq ?_
        obtain ⟨r612, hr612, h⟩ := bindS h
        refine sr (c (ov (.ptr 1003 2 [2]) (fp hN Tryz.underlying73 2 tyS48 _ (q 3))) rfl (c (lb hN 73 _ (.func 133 []) tyS48 (At.st1 (f := (.func 133 [])) (by rfl) (by rfl) (At.here _) (by first | rfl | omega)) (q 48)) rfl (c (ov (.ptr 1012 0 [0]) (fp hN Tryz.underlying99 0 tyS42 _ (q 12))) rfl (c (lb hN 99 _ _ tyS42 (ad _) (q 50)) rfl (cg (OpJ.callVal (args := [(.d (e_api_Addr x604.ffrom))]) (caps := []) hB fnOk133 [] (resource_before_ac x604.ffrom r612 hr612) (by kernel_rfl) (L rfl) (by kernel_rfl) (by kernel_rfl) (OpdL.cons (q 51) OpdL.nil)) rfl (c (mv hN (q 52)) rfl (c (OpJ.extract (by rfl) rfl (L rfl) (q 47)) rfl (c (OpJ.extract (by rfl) rfl (L rfl) (q 47)) rfl (cg (OpJ.alloc hB tyZ42 (nm := 1013) (by decide) (L rfl)) rfl (cg (OpJ.storeB tyS42 (SetAt.here _ _) (by rfl) (by rfl) (by simp) rfl (q 13) (q 53)) rfl (c (OpJ.assign (L rfl) (q 54)) rfl cn))))))))))) ?_
        refine gh [(2, _), (3, _), (7, _), (9, _), (10, _), (12, _), (13, _), (14, _), (17, _), (18, _), (19, _), (23, _), (24, _), (25, _)] [(1003, some _), (1009, some _), (1012, some _), (1013, some _), (3007, some _)] hB rfl rfl (by rfl) ?_
        refine AWp.seq ?_
        refine AWp.cut h (fun m615 : Bool => ([(2, (qe_api_Addr__6 a1)), (3, (.ptr 1003 0 [])), (7, (.sref 3007 6 0 s433.2.2.length)), (9, (.ptr 1009 0 [])), (10, (bo true)), (12, (.ptr 1012 0 [])), (13, (.ptr 1013 0 [])), (17, (qe_api_Addr__6 a0)), (18, (i6 (a0.length : Int))), (19, (i6 s1.1)), (23, (qe_api_Addr__6 a1)), (24, (i6 (a1.length : Int))), (25, (i6 s433.1)), (64, (bo m615))] : EL)) (fun m615 : Bool => ([(1003, some (.box 73 (.st [(.func 50 []), (.func 52 []), (.func 133 [])]))), (1009, some (.box 99 (.d (e_api_Addr_ s433.2.1)))), (1012, some (.box 99 (.d (e_api_Addr_ x604)))), (1013, some (.box 42 (.d (e_api_Addr r612.1)))), (3007, some (we_api_Addr__99_6 s433.2.2))] : OL)) (fun m615 h E' O' hmat => ?_) (fun j616 hjj616 h => ?_)
        ·refine seqQ_n ?_
         refine AWp.ghost hmat ?_
         refine AWp.cut h (fun m619 : (List api_Addr_) => ([(2, (qe_api_Addr__6 a1)), (3, (.ptr 1003 0 [])), (7, (.sref 3007 6 0 m619.length)), (9, (.ptr 1009 0 [])), (10, (bo true)), (12, (.ptr 1012 0 [])), (17, (qe_api_Addr__6 a0)), (18, (i6 (a0.length : Int))), (19, (i6 s1.1)), (23, (qe_api_Addr__6 a1)), (24, (i6 (a1.length : Int))), (25, (i6 s433.1))] : EL)) (fun m619 : (List api_Addr_) => ([(1003, some (.box 73 (.st [(.func 50 []), (.func 52 []), (.func 133 [])]))), (1009, some (.box 99 (.d (e_api_Addr_ s433.2.1)))), (1012, some (.box 99 (.d (e_api_Addr_ x604)))), (3007, some (we_api_Addr__99_6 m619))] : OL)) (fun m619 h E' O' hmat => ?_) (fun j620 hjj620 h => ?_)
         ·refine seqQ_n ?_
          refine AWp.ghost hmat ?_
          obtain ⟨r621, hr621, h⟩ := bindS h
          refine sr (c (ov (.ptr 1003 1 [1]) (fp hN Tryz.underlying73 1 tyS48 _ (q 3))) rfl (c (lb hN 73 _ (.func 52 []) tyS48 (At.st1 (f := (.func 52 [])) (by rfl) (by rfl) (At.here _) (by first | rfl | omega)) (q 73)) rfl (c (ov (.ptr 1012 3 [1]) (fp hN Tryz.underlying99 3 tyS42 _ (q 12))) rfl (c (lb hN 99 _ _ tyS42 (ad _) (q 75)) rfl (cg (OpJ.callVal (args := [(.d (e_api_Addr x604.fto))]) (caps := []) hB fnOk52 [] (addr_Next_ac x604.fto r621 hr621) (by kernel_rfl) (L rfl) (by kernel_rfl) (by kernel_rfl) (OpdL.cons (q 76) OpdL.nil)) rfl (c (mv hN (q 77)) rfl (c (OpJ.extract (by rfl) rfl (L rfl) (q 72)) rfl (c (OpJ.extract (by rfl) rfl (L rfl) (q 72)) rfl (cg (OpJ.alloc hB tyZ42 (nm := 1015) (by decide) (L rfl)) rfl (cg (OpJ.storeB tyS42 (SetAt.here _ _) (by rfl) (by rfl) (by simp) rfl (q 15) (q 78)) rfl (c (OpJ.assign (L rfl) (q 79)) rfl cn))))))))))) ?_
          refine gh [(2, _), (3, _), (7, _), (9, _), (10, _), (15, _), (16, _), (17, _), (18, _), (19, _), (23, _), (24, _), (25, _)] [(1003, some _), (1009, some _), (1015, some _), (3007, some _)] hB rfl rfl (by rfl) ?_
          refine AWp.seq ?_
          refine AWp.seq ?_
          refine AWp.cut h (fun m624 : Bool => ([(2, (qe_api_Addr__6 a1)), (3, (.ptr 1003 0 [])), (7, (.sref 3007 6 0 m619.length)), (9, (.ptr 1009 0 [])), (10, (bo true)), (15, (.ptr 1015 0 [])), (17, (qe_api_Addr__6 a0)), (18, (i6 (a0.length : Int))), (19, (i6 s1.1)), (23, (qe_api_Addr__6 a1)), (24, (i6 (a1.length : Int))), (25, (i6 s433.1)), (90, (bo m624))] : EL)) (fun m624 : Bool => ([(1003, some (.box 73 (.st [(.func 50 []), (.func 52 []), (.func 133 [])]))), (1009, some (.box 99 (.d (e_api_Addr_ s433.2.1)))), (1015, some (.box 42 (.d (e_api_Addr r621.1)))), (3007, some (we_api_Addr__99_6 m619))] : OL)) (fun m624 h E' O' hmat => ?_) (fun j625 hjj625 h => ?_)
          ·refine seqQ_n ?_
           refine AWp.ghost hmat ?_
           refine AWp.cond rfl (fun hg626 => ?_) (fun hg626 => ?_)
           ·replace h := ite_t hg626 h
            refine sr (c (OpJ.assign (L rfl) (Opd.bool false)) rfl cn) ?_
            refine gh [(2, _), (3, _), (7, _), (9, _), (10, _), (17, _), (18, _), (19, _)] [(1003, some _), (1009, some _), (3007, some _)] hB rfl rfl (by rfl) ?_
            refine AWp.exit ?_
            refine seqQ_e ?_
            refine blkQ_miss (by rfl) ?_
            refine seqQ_e ?_
            obtain rfl := Option.some.inj h
            exact ⟨(fun hc => by cases hc), rfl, (mp [] _ _ hB)⟩
           ·replace h := ite_f hg626 h
            refine AWp.skip ?_
            refine seqQ_n ?_
            refine rg (c (lb hN 42 _ _ tyS42 (At.here _) (q 15)) rfl (c (ov (.ptr 1009 0 [0]) (fp hN Tryz.underlying99 0 tyS42 _ (q 9))) rfl (cg (OpJ.storeB tyS42 (SetAt.dst1 (by rfl) (by rfl) (SetAt.here _ _) (by rfl) (by rfl) (by first | rfl | omega)) (by rfl) (by rfl) (by simp) rfl (q 92) (q 91)) rfl cn))) ?_
            refine blkQ_n ?_
            exact hjj603 _ h _ _ (Mat.trans (mp [] [(2, (qe_api_Addr__6 a1)), (3, (.ptr 1003 0 [])), (7, (.sref 3007 6 0 m619.length)), (9, (.ptr 1009 0 [])), (10, (bo true)), (17, (qe_api_Addr__6 a0)), (18, (i6 (a0.length : Int))), (19, (i6 s1.1)), (23, (qe_api_Addr__6 a1)), (24, (i6 (a1.length : Int))), (25, (i6 s433.1))] [(1003, some (.box 73 (.st [(.func 50 []), (.func 52 []), (.func 133 [])]))), (1009, some (.box 99 (.d (.st [(e_api_Addr r621.1), (e_api_Addr s433.2.1.fto)])))), (3007, some (we_api_Addr__99_6 m619))] hB) (mp [] _ _ hB))
          ·rcases Bool.eq_false_or_eq_true (!r621.2) with hg627 | hg627
           ·replace h := ite_t hg627 h
            refine rg (c (mv hN (q 16)) rfl (c (OpJ.not (L rfl) (q 80)) rfl (c (OpJ.val (v' := .d (.bool true)) (by rw [hg627] <;> rfl) (mv hN (q 81))) rfl (cg (sU 82 (L rfl)) rfl (cg (sU 82 (L rfl)) rfl (cg (sU 82 (L rfl)) rfl (cg (sU 82 (L rfl)) rfl (cg (sU 82 (L rfl)) rfl (cg (sU 82 (L rfl)) rfl (cg (sU 82 (L rfl)) rfl (c (OpJ.pickT (L rfl) (q 82) (Opd.bool true)) rfl cn))))))))))) ?_
            exact hjj625 _ h _ _ (Mat.trans (mp [] [(2, (qe_api_Addr__6 a1)), (3, (.ptr 1003 0 [])), (7, (.sref 3007 6 0 m619.length)), (9, (.ptr 1009 0 [])), (10, (bo true)), (15, (.ptr 1015 0 [])), (17, (qe_api_Addr__6 a0)), (18, (i6 (a0.length : Int))), (19, (i6 s1.1)), (23, (qe_api_Addr__6 a1)), (24, (i6 (a1.length : Int))), (25, (i6 s433.1)), (90, (bo true))] [(1003, some (.box 73 (.st [(.func 50 []), (.func 52 []), (.func 133 [])]))), (1009, some (.box 99 (.d (e_api_Addr_ s433.2.1)))), (1015, some (.box 42 (.d (e_api_Addr r621.1)))), (3007, some (we_api_Addr__99_6 m619))] hB) (mp [] _ _ hB))
           ·replace h := ite_f hg627 h
            obtain ⟨r628, hr628, h⟩ := bindS h
            refine rg (c (mv hN (q 16)) rfl (c (OpJ.not (L rfl) (q 80)) rfl (c (OpJ.val (v' := .d (.bool false)) (by rw [hg627] <;> rfl) (mv hN (q 81))) rfl (c (gd 82 (ov (.ptr 1003 0 [0]) (fp hN Tryz.underlying73 0 tyS71 _ (q 3)))) rfl (c (gd 82 (lb hN 73 _ (.func 50 []) tyS71 (At.st1 (f := (.func 50 [])) (by rfl) (by rfl) (At.here _) (by first | rfl | omega)) (q 83))) rfl (c (gd 82 (lb hN 42 _ _ tyS42 (At.here _) (q 15))) rfl (c (gd 82 (ov (.ptr 1009 3 [1]) (fp hN Tryz.underlying99 3 tyS42 _ (q 9)))) rfl (c (gd 82 (lb hN 99 _ _ tyS42 (ad _) (q 86))) rfl (cg (gd 82 (OpJ.callVal (args := [(.d (e_api_Addr r621.1)), (.d (e_api_Addr s433.2.1.fto))]) (caps := []) hB fnOk50 [] (addr_Cmp_ac r621.1 s433.2.1.fto r628 hr628) (by kernel_rfl) (L rfl) (by kernel_rfl) (by kernel_rfl) (OpdL.cons (q 85) (OpdL.cons (q 87) OpdL.nil)))) rfl (c (gd 82 (OpJ.gtr (L rfl) (q 88) (Opd.int .i64 (0)))) rfl (c (OpJ.pickF (L rfl) (q 82) (q 89)) rfl cn))))))))))) ?_
            exact hjj625 _ h _ _ (Mat.trans (mp [] [(2, (qe_api_Addr__6 a1)), (3, (.ptr 1003 0 [])), (7, (.sref 3007 6 0 m619.length)), (9, (.ptr 1009 0 [])), (10, (bo true)), (15, (.ptr 1015 0 [])), (17, (qe_api_Addr__6 a0)), (18, (i6 (a0.length : Int))), (19, (i6 s1.1)), (23, (qe_api_Addr__6 a1)), (24, (i6 (a1.length : Int))), (25, (i6 s433.1)), (90, (bo (decide ((0 : Int) < r628))))] [(1003, some (.box 73 (.st [(.func 50 []), (.func 52 []), (.func 133 [])]))), (1009, some (.box 99 (.d (e_api_Addr_ s433.2.1)))), (1015, some (.box 42 (.d (e_api_Addr r621.1)))), (3007, some (we_api_Addr__99_6 m619))] hB) (mp [] _ _ hB))
         ·refine AWp.cond rfl (fun hg629 => ?_) (fun hg629 => ?_)
          ·replace h := ite_t hg629 h
           obtain ⟨hc630, h⟩ := chk_some h
           refine rg (c (mv hN (q 7)) rfl (c (ov (.ptr 1009 0 [0]) (fp hN Tryz.underlying99 0 tyS42 _ (q 9))) rfl (c (lb hN 99 _ _ tyS42 (ad _) (q 66)) rfl (c (lb hN 42 _ _ tyS42 (At.here _) (q 13)) rfl (c (OpJ.coe (v := (.st [(.d (e_api_Addr s433.2.1.ffrom)), (.d (e_api_Addr r612.1))])) (y := (.st [(e_api_Addr s433.2.1.ffrom), (e_api_Addr r612.1)])) (Co.st (CoL.cons (Co.d _) (CoL.cons (Co.d _) CoL.nil))) rfl (OpJ.build (places := [(0, 3), (3, 3)]) ⟨Tryz.underlying99, fun w => by kernel_rfl⟩ tyZS99 (Opds.cons (q 67) (Opds.cons (q 68) Opds.nil)) (by kernel_rfl) (r := (.st [(.d (e_api_Addr s433.2.1.ffrom)), (.d (e_api_Addr r612.1))])) (by rfl) (L rfl))) rfl (c (OpJ.buildSlice Tryz.underlying66 tyS99 tyZD99 (by rfl) (by decide) (by decide) (Opds.cons (q 69) Opds.nil) (by kernel_rfl) (es := ([(.st [(e_api_Addr s433.2.1.ffrom), (e_api_Addr r612.1)])] : List D)) (by rfl) (by rfl) (by kernel_rfl) (by simp) (L rfl)) rfl (cg (OpJ.append hB Tryz.underlying66 tyE99 (nm := 1071) (by decide) (es := s433.2.2.map e_api_Addr_) (ys := ([(api_Addr_.mk s433.2.1.ffrom r612.1)] : List api_Addr_).map e_api_Addr_) (es' := (s433.2.2 ++ ([(api_Addr_.mk s433.2.1.ffrom r612.1)] : List api_Addr_)).map e_api_Addr_) (len := (s433.2.2 ++ ([(api_Addr_.mk s433.2.1.ffrom r612.1)] : List api_Addr_)).length) (by simp) (by simp) (map_sz (f := e_api_Addr_) (fun _ => rfl)) (by rw [List.length_map]; exact lim_mulN hc630 (by decide)) (by rw [List.length_map]; exact lim_leN hc630) (L rfl) (by simp) (q 65) (q 70)) rfl (c (OpJ.assign (L rfl) (q 71)) rfl cn)))))))) ?_
           exact hjj620 _ h _ _ (Mat.trans (mp [] [(2, (qe_api_Addr__6 a1)), (3, (.ptr 1003 0 [])), (7, (.sref 1071 6 0 ((s433.2.2 ++ ([(api_Addr_.mk s433.2.1.ffrom r612.1)] : List api_Addr_)).length))), (9, (.ptr 1009 0 [])), (10, (bo true)), (12, (.ptr 1012 0 [])), (17, (qe_api_Addr__6 a0)), (18, (i6 (a0.length : Int))), (19, (i6 s1.1)), (23, (qe_api_Addr__6 a1)), (24, (i6 (a1.length : Int))), (25, (i6 s433.1))] [(1003, some (.box 73 (.st [(.func 50 []), (.func 52 []), (.func 133 [])]))), (1009, some (.box 99 (.d (e_api_Addr_ s433.2.1)))), (1012, some (.box 99 (.d (e_api_Addr_ x604)))), (1071, some (we_api_Addr__99_6 (s433.2.2 ++ ([(api_Addr_.mk s433.2.1.ffrom r612.1)] : List api_Addr_))))] hB) (mp [(3007, 1071)] _ _ hB))
          ·replace h := ite_f hg629 h
           refine AWp.skip ?_
           exact hjj620 _ h _ _ (mp [] _ _ hB)
        ·rcases Bool.eq_false_or_eq_true r612.2 with hg631 | hg631
         ·replace h := ite_t hg631 h
          obtain ⟨r632, hr632, h⟩ := bindS h
          refine rg (c (mv hN (q 14)) rfl (c (OpJ.val (v' := .d (.bool true)) (by rw [hg631] <;> rfl) (mv hN (q 55))) rfl (c (gd 56 (ov (.ptr 1003 0 [0]) (fp hN Tryz.underlying73 0 tyS71 _ (q 3)))) rfl (c (gd 56 (lb hN 73 _ (.func 50 []) tyS71 (At.st1 (f := (.func 50 [])) (by rfl) (by rfl) (At.here _) (by first | rfl | omega)) (q 57))) rfl (c (gd 56 (ov (.ptr 1009 0 [0]) (fp hN Tryz.underlying99 0 tyS42 _ (q 9)))) rfl (c (gd 56 (lb hN 99 _ _ tyS42 (ad _) (q 59))) rfl (c (gd 56 (lb hN 42 _ _ tyS42 (At.here _) (q 13))) rfl (cg (gd 56 (OpJ.callVal (args := [(.d (e_api_Addr s433.2.1.ffrom)), (.d (e_api_Addr r612.1))]) (caps := []) hB fnOk50 [] (addr_Cmp_ac s433.2.1.ffrom r612.1 r632 hr632) (by kernel_rfl) (L rfl) (by kernel_rfl) (by kernel_rfl) (OpdL.cons (q 60) (OpdL.cons (q 61) OpdL.nil)))) rfl (c (gd 56 (OpJ.leq (L rfl) (q 62) (Opd.int .i64 (0)))) rfl (c (OpJ.pickT (L rfl) (q 56) (q 63)) rfl cn)))))))))) ?_
          exact hjj616 _ h _ _ (Mat.trans (mp [] [(2, (qe_api_Addr__6 a1)), (3, (.ptr 1003 0 [])), (7, (.sref 3007 6 0 s433.2.2.length)), (9, (.ptr 1009 0 [])), (10, (bo true)), (12, (.ptr 1012 0 [])), (13, (.ptr 1013 0 [])), (17, (qe_api_Addr__6 a0)), (18, (i6 (a0.length : Int))), (19, (i6 s1.1)), (23, (qe_api_Addr__6 a1)), (24, (i6 (a1.length : Int))), (25, (i6 s433.1)), (64, (bo (decide (r632 ≤ (0 : Int)))))] [(1003, some (.box 73 (.st [(.func 50 []), (.func 52 []), (.func 133 [])]))), (1009, some (.box 99 (.d (e_api_Addr_ s433.2.1)))), (1012, some (.box 99 (.d (e_api_Addr_ x604)))), (1013, some (.box 42 (.d (e_api_Addr r612.1)))), (3007, some (we_api_Addr__99_6 s433.2.2))] hB) (mp [] _ _ hB))
         ·replace h := ite_f hg631 h
          refine rg (c (mv hN (q 14)) rfl (c (OpJ.val (v' := .d (.bool false)) (by rw [hg631] <;> rfl) (mv hN (q 55))) rfl (cg (sU 56 (L rfl)) rfl (cg (sU 56 (L rfl)) rfl (cg (sU 56 (L rfl)) rfl (cg (sU 56 (L rfl)) rfl (cg (sU 56 (L rfl)) rfl (cg (sU 56 (L rfl)) rfl (cg (sU 56 (L rfl)) rfl (c (OpJ.pickF (L rfl) (q 56) (Opd.bool false)) rfl cn)))))))))) ?_
          exact hjj616 _ h _ _ (Mat.trans (mp [] [(2, (qe_api_Addr__6 a1)), (3, (.ptr 1003 0 [])), (7, (.sref 3007 6 0 s433.2.2.length)), (9, (.ptr 1009 0 [])), (10, (bo true)), (12, (.ptr 1012 0 [])), (13, (.ptr 1013 0 [])), (17, (qe_api_Addr__6 a0)), (18, (i6 (a0.length : Int))), (19, (i6 s1.1)), (23, (qe_api_Addr__6 a1)), (24, (i6 (a1.length : Int))), (25, (i6 s433.1)), (64, (bo false))] [(1003, some (.box 73 (.st [(.func 50 []), (.func 52 []), (.func 133 [])]))), (1009, some (.box 99 (.d (e_api_Addr_ s433.2.1)))), (1012, some (.box 99 (.d (e_api_Addr_ x604)))), (1013, some (.box 42 (.d (e_api_Addr r612.1)))), (3007, some (we_api_Addr__99_6 s433.2.2))] hB) (mp [] _ _ hB))
      ·obtain ⟨r633, hr633, h⟩ := bindS h
       rcases Bool.eq_false_or_eq_true (decide (r633 < (0 : Int))) with hg634 | hg634
       ·replace h := ite_t hg634 h
        refine rg (c (ov (.ptr 1003 0 [0]) (fp hN Tryz.underlying73 0 tyS71 _ (q 3))) rfl (c (lb hN 73 _ (.func 50 []) tyS71 (At.st1 (f := (.func 50 [])) (by rfl) (by rfl) (At.here _) (by first | rfl | omega)) (q 29)) rfl (c (ov (.ptr 1012 3 [1]) (fp hN Tryz.underlying99 3 tyS42 _ (q 12))) rfl (c (lb hN 99 _ _ tyS42 (ad _) (q 31)) rfl (c (ov (.ptr 1009 0 [0]) (fp hN Tryz.underlying99 0 tyS42 _ (q 9))) rfl (c (lb hN 99 _ _ tyS42 (ad _) (q 33)) rfl (cg (OpJ.callVal (args := [(.d (e_api_Addr x604.fto)), (.d (e_api_Addr s433.2.1.ffrom))]) (caps := []) hB fnOk50 [] (addr_Cmp_ac x604.fto s433.2.1.ffrom r633 hr633) (by kernel_rfl) (L rfl) (by kernel_rfl) (by kernel_rfl) (OpdL.cons (q 32) (OpdL.cons (q 34) OpdL.nil))) rfl (c (OpJ.lss (L rfl) (q 35) (Opd.int .i64 (0))) rfl (c (OpJ.val (v' := .d (.bool true)) (by rw [hg634] <;> rfl) (mv hN (q 36))) rfl (cg (sU 37 (L rfl)) rfl (cg (sU 37 (L rfl)) rfl (cg (sU 37 (L rfl)) rfl (cg (sU 37 (L rfl)) rfl (cg (sU 37 (L rfl)) rfl (cg (sU 37 (L rfl)) rfl (cg (sU 37 (L rfl)) rfl (cg (sU 37 (L rfl)) rfl (c (OpJ.pickT (L rfl) (q 37) (Opd.bool true)) rfl cn)))))))))))))))))) ?_
        exact hjj610 _ h _ _ (Mat.trans (mp [] [(2, (qe_api_Addr__6 a1)), (3, (.ptr 1003 0 [])), (7, (.sref 3007 6 0 s433.2.2.length)), (9, (.ptr 1009 0 [])), (10, (bo true)), (12, (.ptr 1012 0 [])), (17, (qe_api_Addr__6 a0)), (18, (i6 (a0.length : Int))), (19, (i6 s1.1)), (23, (qe_api_Addr__6 a1)), (24, (i6 (a1.length : Int))), (25, (i6 s433.1)), (46, (bo true))] [(1003, some (.box 73 (.st [(.func 50 []), (.func 52 []), (.func 133 [])]))), (1009, some (.box 99 (.d (e_api_Addr_ s433.2.1)))), (1012, some (.box 99 (.d (e_api_Addr_ x604)))), (3007, some (we_api_Addr__99_6 s433.2.2))] hB) (mp [] _ _ hB))
       ·replace h := ite_f hg634 h
        obtain ⟨r635, hr635, h⟩ := bindS h
        refine rg (c (ov (.ptr 1003 0 [0]) (fp hN Tryz.underlying73 0 tyS71 _ (q 3))) rfl (c (lb hN 73 _ (.func 50 []) tyS71 (At.st1 (f := (.func 50 [])) (by rfl) (by rfl) (At.here _) (by first | rfl | omega)) (q 29)) rfl (c (ov (.ptr 1012 3 [1]) (fp hN Tryz.underlying99 3 tyS42 _ (q 12))) rfl (c (lb hN 99 _ _ tyS42 (ad _) (q 31)) rfl (c (ov (.ptr 1009 0 [0]) (fp hN Tryz.underlying99 0 tyS42 _ (q 9))) rfl (c (lb hN 99 _ _ tyS42 (ad _) (q 33)) rfl (cg (OpJ.callVal (args := [(.d (e_api_Addr x604.fto)), (.d (e_api_Addr s433.2.1.ffrom))]) (caps := []) hB fnOk50 [] (addr_Cmp_ac x604.fto s433.2.1.ffrom r633 hr633) (by kernel_rfl) (L rfl) (by kernel_rfl) (by kernel_rfl) (OpdL.cons (q 32) (OpdL.cons (q 34) OpdL.nil))) rfl (c (OpJ.lss (L rfl) (q 35) (Opd.int .i64 (0))) rfl (c (OpJ.val (v' := .d (.bool false)) (by rw [hg634] <;> rfl) (mv hN (q 36))) rfl (c (gd 37 (ov (.ptr 1003 0 [0]) (fp hN Tryz.underlying73 0 tyS71 _ (q 3)))) rfl (c (gd 37 (lb hN 73 _ (.func 50 []) tyS71 (At.st1 (f := (.func 50 [])) (by rfl) (by rfl) (At.here _) (by first | rfl | omega)) (q 38))) rfl (c (gd 37 (ov (.ptr 1012 0 [0]) (fp hN Tryz.underlying99 0 tyS42 _ (q 12)))) rfl (c (gd 37 (lb hN 99 _ _ tyS42 (ad _) (q 40))) rfl (c (gd 37 (ov (.ptr 1009 3 [1]) (fp hN Tryz.underlying99 3 tyS42 _ (q 9)))) rfl (c (gd 37 (lb hN 99 _ _ tyS42 (ad _) (q 42))) rfl (cg (gd 37 (OpJ.callVal (args := [(.d (e_api_Addr x604.ffrom)), (.d (e_api_Addr s433.2.1.fto))]) (caps := []) hB fnOk50 [] (addr_Cmp_ac x604.ffrom s433.2.1.fto r635 hr635) (by kernel_rfl) (L rfl) (by kernel_rfl) (by kernel_rfl) (OpdL.cons (q 41) (OpdL.cons (q 43) OpdL.nil)))) rfl (c (gd 37 (OpJ.gtr (L rfl) (q 44) (Opd.int .i64 (0)))) rfl (c (OpJ.pickF (L rfl) (q 37) (q 45)) rfl cn)))))))))))))))))) ?_
        exact hjj610 _ h _ _ (Mat.trans (mp [] [(2, (qe_api_Addr__6 a1)), (3, (.ptr 1003 0 [])), (7, (.sref 3007 6 0 s433.2.2.length)), (9, (.ptr 1009 0 [])), (10, (bo true)), (12, (.ptr 1012 0 [])), (17, (qe_api_Addr__6 a0)), (18, (i6 (a0.length : Int))), (19, (i6 s1.1)), (23, (qe_api_Addr__6 a1)), (24, (i6 (a1.length : Int))), (25, (i6 s433.1)), (46, (bo (decide ((0 : Int) < r635))))] [(1003, some (.box 73 (.st [(.func 50 []), (.func 52 []), (.func 133 [])]))), (1009, some (.box 99 (.d (e_api_Addr_ s433.2.1)))), (1012, some (.box 99 (.d (e_api_Addr_ x604)))), (3007, some (we_api_Addr__99_6 s433.2.2))] hB) (mp [] _ _ hB))
    ·replace h := ite_f hg569 h
     refine AWp.exit ?_
     refine seqQ_e ?_
     obtain rfl := Option.some.inj h
     exact ⟨(fun hc => by cases hc), rfl, (mp [] _ _ hB)⟩
   ·obtain ⟨rfl, hmat⟩ := hR
    refine blkQ_hit ?_
    refine seqQ_n ?_
    refine AWp.ghost hmat ?_
    refine sr (c (mv hN (q 10)) rfl cn) ?_
    refine gh [(2, _), (3, _), (7, _), (9, _), (17, _), (18, _), (19, _), (94, _)] [(1003, some _), (1009, some _), (3007, some _)] hB rfl rfl (by rfl) ?_
    refine AWp.cut h (fun m640 : (List api_Addr_) => ([(2, (qe_api_Addr__6 a1)), (3, (.ptr 1003 0 [])), (7, (.sref 3007 6 0 m640.length)), (17, (qe_api_Addr__6 a0)), (18, (i6 (a0.length : Int))), (19, (i6 s1.1))] : EL)) (fun m640 : (List api_Addr_) => ([(1003, some (.box 73 (.st [(.func 50 []), (.func 52 []), (.func 133 [])]))), (3007, some (we_api_Addr__99_6 m640))] : OL)) (fun m640 h E' O' hmat => ?_) (fun j641 hjj641 h => ?_)
    ·refine blkQ_n ?_
     refine seqQ_n ?_
     refine AWp.ghost hmat ?_
     refine rg (c (add6 (L rfl) (q 19) (Opd.int .i64 (1))) rfl (c (mv hN (q 99)) rfl cn)) ?_
     obtain rfl := Option.some.inj h
     exact ⟨rfl, (Mat.trans (mp [] [(2, (qe_api_Addr__6 a1)), (3, (.ptr 1003 0 [])), (7, (.sref 3007 6 0 m640.length)), (17, (qe_api_Addr__6 a0)), (18, (i6 (a0.length : Int))), (19, (i6 (w64 (s1.1 + (1 : Int)))))] [(1003, some (.box 73 (.st [(.func 50 []), (.func 52 []), (.func 133 [])]))), (3007, some (we_api_Addr__99_6 m640))] hB) (mp [] _ _ hB))⟩
    ·refine AWp.cond rfl (fun hg642 => ?_) (fun hg642 => ?_)
     ·replace h := ite_t hg642 h
      obtain ⟨hc643, h⟩ := chk_some h
      refine rg (c (mv hN (q 7)) rfl (c (lb hN 99 _ _ tyS99 (At.here _) (q 9)) rfl (c (OpJ.buildSlice Tryz.underlying66 tyS99 tyZD99 (by rfl) (by decide) (by decide) (Opds.cons (q 96) Opds.nil) (by kernel_rfl) (es := ([(e_api_Addr_ p568.2.1)] : List D)) (by rfl) (by rfl) (by kernel_rfl) (by simp) (L rfl)) rfl (cg (OpJ.append hB Tryz.underlying66 tyE99 (nm := 1098) (by decide) (es := p568.2.2.map e_api_Addr_) (ys := ([p568.2.1] : List api_Addr_).map e_api_Addr_) (es' := (p568.2.2 ++ ([p568.2.1] : List api_Addr_)).map e_api_Addr_) (len := (p568.2.2 ++ ([p568.2.1] : List api_Addr_)).length) (by simp) (by simp) (map_sz (f := e_api_Addr_) (fun _ => rfl)) (by rw [List.length_map]; exact lim_mulN hc643 (by decide)) (by rw [List.length_map]; exact lim_leN hc643) (L rfl) (by simp) (q 95) (q 97)) rfl (c (OpJ.assign (L rfl) (q 98)) rfl cn))))) ?_
      exact hjj641 _ h _ _ (Mat.trans (mp [] [(2, (qe_api_Addr__6 a1)), (3, (.ptr 1003 0 [])), (7, (.sref 1098 6 0 ((p568.2.2 ++ ([p568.2.1] : List api_Addr_)).length))), (17, (qe_api_Addr__6 a0)), (18, (i6 (a0.length : Int))), (19, (i6 s1.1))] [(1003, some (.box 73 (.st [(.func 50 []), (.func 52 []), (.func 133 [])]))), (1098, some (we_api_Addr__99_6 (p568.2.2 ++ ([p568.2.1] : List api_Addr_))))] hB) (mp [(3007, 1098)] _ _ hB))
     ·replace h := ite_f hg642 h
      refine AWp.skip ?_
      exact hjj641 _ h _ _ (mp [] _ _ hB)
  ·replace h := ite_f hg431 h
   refine AWp.exit ?_
   refine seqQ_e ?_
   obtain rfl := Option.some.inj h
   exact ⟨(fun hc => by cases hc), rfl, (mp [] _ _ hB)⟩
 ·obtain ⟨rfl, hmat⟩ := hR
  refine blkQ_hit ?_
  refine seqQ_n ?_
  refine AWp.ghost hmat ?_
  refine sr (c (mv hN (q 7)) rfl (c (OpJ.assign (L rfl) (q 100)) rfl cn)) ?_
  refine gh [(6, _)] [(3007, some _)] hB rfl rfl (by rfl) ?_
  refine AWp.ret ?_
  obtain rfl := Option.some.inj h
  exact ⟨.inl rfl, _, _, (Mat.trans (Mat.freezeP (n := 3007) (e := 99) (sz := 6) (es := p430.map e_api_Addr_) (Ts := [(6, (qe_api_Addr__6 p430))]) (Bs := []) (by rfl) (TwT.cons (x := (.sref 3007 6 0 p430.length)) (by rfl) (FrzL.all (by first | rfl | (simp; done) | (simp; omega) | omega)) TwT.nil) TwB.nil) (mp [] [(6, (qe_api_Addr__6 p430))] [] hB)), [(qe_api_Addr__6 p430)], (Res.tmp (by rfl) (by rfl) Res.nil), rfl, by rfl, by rfl, by rfl⟩

noncomputable def resource_numbers_2 (a0 : Int) : Option (Int × Bool) :=
 some ((w64 (a0 - (1 : Int))), (decide ((0 : Int) < a0)))
theorem resource_numbers_2_ac (a0 : Int) (r : Int × Bool) (h : resource_numbers_2 a0 = some r) : AC Tryz.prog 135 [(.d (.int .i64 a0))] [] (.tup [(.d (.int .i64 r.1)), (.d (.bool r.2))]) [] := by
 refine AC.of_code2 Tryz.func135 rfl rfl (Nat.le_of_ble_eq_true (by rfl)) fun B hB hN => ?_
 delta resource_numbers_2 at h
 refine sr (c (OpJ.assign (ltN hN rfl) (Opd.int .i64 (0))) rfl (c (OpJ.assign (ltN hN rfl) (Opd.bool false)) rfl cn)) ?_
 refine gh [(0, _)] [] hB rfl rfl (by rfl) ?_
 refine sr (c (mv hN (q 0)) rfl (c (sub6 (ltN hN rfl) (q 4) (Opd.int .i64 (1))) rfl (c (mv hN (q 0)) rfl (c (OpJ.gtr (ltN hN rfl) (q 6) (Opd.int .i64 (0))) rfl (c (OpJ.assign (ltN hN rfl) (q 5)) rfl (c (OpJ.assign (ltN hN rfl) (q 7)) rfl cn)))))) ?_
 refine gh [(2, _), (3, _)] [] hB rfl rfl (by rfl) ?_
 refine AWp.ret ?_
 obtain rfl := Option.some.inj h
 exact ⟨.inl rfl, _, _, (kp [(2, _), (3, _)] [] hB rfl rfl (by rfl)), [(i6 (w64 (a0 - (1 : Int)))), (bo (decide ((0 : Int) < a0)))], (Res.tmp (by rfl) (by rfl) (Res.tmp (by rfl) (by rfl) Res.nil)), rfl, by rfl, by rfl, by rfl⟩

noncomputable def resource_order_minus_2_L1 (a1 : (List resource_part_int_)) (s433 : Int × resource_part_int_ × (List resource_part_int_)) : Option (((Bool × resource_part_int_ × (List resource_part_int_))) ⊕ (Int × resource_part_int_ × (List resource_part_int_))) :=
 (if (decide (s433.1 < (a1.length : Int))) = true then
 jn (fun m602 : resource_part_int_ × (List resource_part_int_) =>
 some (.inr ((w64 (s433.1 + (1 : Int))), m602.1, m602.2))) (fun j603 =>
 (idx a1 s433.1).bind fun x604 =>
 jn (fun m609 : Bool =>
 (if m609 = true then
 j603 (s433.2.1, s433.2.2)
 else
 (resource_numbers_2 x604.ffrom).bind fun r612 =>
 jn (fun m615 : Bool =>
 jn (fun m619 : (List resource_part_int_) =>
 (resource_numbers_1 x604.fto).bind fun r621 =>
 jn (fun m624 : Bool =>
 (if m624 = true then
 some (.inl (false, s433.2.1, m619))
 else
 j603 ((resource_part_int_.mk r621.1 s433.2.1.fto), m619))) (fun j625 =>
 (if (!r621.2) = true then
 j625 true
 else
 (cmp_Compare r621.1 s433.2.1.fto).bind fun r628 =>
 j625 (decide ((0 : Int) < r628))))) (fun j620 =>
 (if m615 = true then
 chk (decide ((s433.2.2 ++ ([(resource_part_int_.mk s433.2.1.ffrom r612.1)] : List resource_part_int_)).length ≤ LIM)) <|
 j620 (s433.2.2 ++ ([(resource_part_int_.mk s433.2.1.ffrom r612.1)] : List resource_part_int_))
 else
 j620 s433.2.2))) (fun j616 =>
 (if r612.2 = true then
 (cmp_Compare s433.2.1.ffrom r612.1).bind fun r632 =>
 j616 (decide (r632 ≤ (0 : Int)))
 else
 j616 false)))) (fun j610 =>
 (cmp_Compare x604.fto s433.2.1.ffrom).bind fun r633 =>
 (if (decide (r633 < (0 : Int))) = true then
 j610 true
 else
 (cmp_Compare x604.ffrom s433.2.1.fto).bind fun r635 =>
 j610 (decide ((0 : Int) < r635)))))
 else
 some (.inl (true, s433.2.1, s433.2.2)))
noncomputable def resource_order_minus_2_L0 (a0 : (List resource_part_int_)) (a1 : (List resource_part_int_)) (s1 : Int × (List resource_part_int_)) : Option ((((List resource_part_int_))) ⊕ (Int × (List resource_part_int_))) :=
 (if (decide (s1.1 < (a0.length : Int))) = true then
 (idx a0 s1.1).bind fun x432 =>
 (loop (resource_order_minus_2_L1 a1) ((0 : Int), x432, s1.2)).bind fun p568 =>
 jn (fun m640 : (List resource_part_int_) =>
 some (.inr ((w64 (s1.1 + (1 : Int))), m640))) (fun j641 =>
 (if p568.1 = true then
 chk (decide ((p568.2.2 ++ ([p568.2.1] : List resource_part_int_)).length ≤ LIM)) <|
 j641 (p568.2.2 ++ ([p568.2.1] : List resource_part_int_))
 else
 j641 p568.2.2))
 else
 some (.inl s1.2))
noncomputable def resource_order_minus_2 (a0 : (List resource_part_int_)) (a1 : (List resource_part_int_)) : Option ((List resource_part_int_)) :=
 (loop (resource_order_minus_2_L0 a0 a1) ((0 : Int), ([] : List resource_part_int_))).bind fun p430 =>
 some p430
theorem resource_order_minus_2_ac (a0 : (List resource_part_int_)) (a1 : (List resource_part_int_)) (r : (List resource_part_int_)) (h : resource_order_minus_2 a0 a1 = some r) : AC Tryz.prog 65 [(.st [(.func 71 []), (.func 134 []), (.func 135 [])]), (.d (.list 2 (a0.map e_resource_part_int_))), (.d (.list 2 (a1.map e_resource_part_int_)))] [] (.d (.list 2 (r.map e_resource_part_int_))) [] := by
 refine AC.of_code2 Tryz.func65 rfl rfl (Nat.le_of_ble_eq_true (by rfl)) fun B hB hN => ?_
 have L {d : Nat} (h : Nat.blt d Tryz.f65.ntmps = true) : d < B.N := ltN hN h
 delta resource_order_minus_2 at h
 refine sr (cg (OpJ.box hB (nm := 1003) (by decide) (by simp) rfl (L rfl) (q 0)) rfl (c (OpJ.assign (L rfl) Opd.nils) rfl cn)) ?_
 refine gh [(1, _), (2, _), (3, _)] [(1003, some _)] hB rfl rfl (by rfl) ?_
 refine sr (c (OpJ.assign (L rfl) Opd.nils) rfl cn) ?_
 refine gh [(1, _), (2, _), (3, _), (7, _)] [(1003, some _)] hB rfl rfl (by rfl) ?_
 refine AWp.seq ?_
 refine sr (c (mv hN (q 1)) rfl (c (OpJ.val (v' := (i6 (a0.length : Int))) (by simp) (OpJ.lenD Tryz.underlying67 (L rfl) (q 17))) rfl (c (mv hN (Opd.int .i64 (0))) rfl cn))) ?_
 refine gh [(2, _), (3, _), (7, _), (17, _), (18, _), (19, _)] [(1003, some _)] hB rfl rfl (by rfl) ?_
 refine AWp.block ?_
 obtain ⟨p430, hx645, h⟩ := bindS h
 refine lg (resource_order_minus_2_L0 a0 a1) (fun s1 : Int × (List resource_part_int_) => ([(2, (.d (.list 2 (a1.map e_resource_part_int_)))), (3, (.ptr 1003 0 [])), (7, (.sref 3007 2 0 s1.2.length)), (17, (.d (.list 2 (a0.map e_resource_part_int_)))), (18, (i6 (a0.length : Int))), (19, (i6 s1.1))] : EL)) (fun s1 : Int × (List resource_part_int_) => ([(1003, some (.box 77 (.st [(.func 71 []), (.func 134 []), (.func 135 [])]))), (3007, some (.row 101 2 (s1.2.map e_resource_part_int_)))] : OL)) (fun (p430 : ((List resource_part_int_))) e E' O' => e = .exit 0 ∧ Mat B E' O' ([(7, (.sref 3007 2 0 p430.length))] : EL) ([(3007, some (.row 101 2 (p430.map e_resource_part_int_)))] : OL)) hx645 (Mat.trans (Mat.beginP (n := 3007) (e := 101) (sz := 2) (Ts := [(7, (.sref 3007 2 0 0))]) (Bs := []) hB (by decide) (by rfl) (by decide) (TwT.cons (x := .nils) (by rfl) (Tw.leaf ⟨rfl, rfl⟩) TwT.nil) TwB.nil) (mp [] _ _ hB)) (fun s1 y h => ?_) (fun e E' O' hR => ?_)
 ·unfold resource_order_minus_2_L0 at h
  refine sr (c (OpJ.lss (L rfl) (q 19) (q 18)) rfl cn) ?_
  refine gh [(2, _), (3, _), (7, _), (17, _), (18, _), (19, _), (20, _)] [(1003, some _), (3007, some _)] hB rfl rfl (by rfl) ?_
  refine AWp.seq ?_
  refine AWp.cond rfl (fun hg431 => ?_) (fun hg431 => ?_)
  ·replace h := ite_t hg431 h
   refine AWp.skip ?_
   refine seqQ_n ?_
   refine AWp.seq ?_
   refine AWp.block ?_
   obtain ⟨x432, hx432, h⟩ := bindS h
   refine sr (c (OpJ.indexD Tryz.underlying67 tyS101 (idx_some hx432).1 (get_map e_resource_part_int_ (idx_some hx432).2) (L rfl) (q 17) (q 19)) rfl (c (OpJ.loadD tyS101 (by rfl) (by rfl) (L rfl) (q 21)) rfl (cg (OpJ.alloc hB tyZ101 (nm := 1009) (by decide) (L rfl)) rfl (cg (OpJ.storeB tyS101 (SetAt.here _ _) (by rfl) (by rfl) (by simp) rfl (q 9) (q 22)) rfl cn)))) ?_
   refine gh [(2, _), (3, _), (7, _), (9, _), (17, _), (18, _), (19, _)] [(1003, some _), (1009, some _), (3007, some _)] hB rfl rfl (by rfl) ?_
   refine sr (c (OpJ.assign (L rfl) (Opd.bool true)) rfl cn) ?_
   refine gh [(2, _), (3, _), (7, _), (9, _), (10, _), (17, _), (18, _), (19, _)] [(1003, some _), (1009, some _), (3007, some _)] hB rfl rfl (by rfl) ?_
   refine AWp.seq ?_
   refine sr (c (mv hN (q 2)) rfl (c (OpJ.val (v' := (i6 (a1.length : Int))) (by simp) (OpJ.lenD Tryz.underlying67 (L rfl) (q 23))) rfl (c (mv hN (Opd.int .i64 (0))) rfl cn))) ?_
   refine gh [(2, _), (3, _), (7, _), (9, _), (10, _), (17, _), (18, _), (19, _), (23, _), (24, _), (25, _)] [(1003, some _), (1009, some _), (3007, some _)] hB rfl rfl (by rfl) ?_
   refine AWp.block ?_
   obtain ⟨p568, hx637, h⟩ := bindS h
   refine lg (resource_order_minus_2_L1 a1) (fun s433 : Int × resource_part_int_ × (List resource_part_int_) => ([(2, (.d (.list 2 (a1.map e_resource_part_int_)))), (3, (.ptr 1003 0 [])), (7, (.sref 3007 2 0 s433.2.2.length)), (9, (.ptr 1009 0 [])), (10, (bo true)), (17, (.d (.list 2 (a0.map e_resource_part_int_)))), (18, (i6 (a0.length : Int))), (19, (i6 s1.1)), (23, (.d (.list 2 (a1.map e_resource_part_int_)))), (24, (i6 (a1.length : Int))), (25, (i6 s433.1))] : EL)) (fun s433 : Int × resource_part_int_ × (List resource_part_int_) => ([(1003, some (.box 77 (.st [(.func 71 []), (.func 134 []), (.func 135 [])]))), (1009, some (.box 101 (.d (e_resource_part_int_ s433.2.1)))), (3007, some (.row 101 2 (s433.2.2.map e_resource_part_int_)))] : OL)) (fun (p568 : (Bool × resource_part_int_ × (List resource_part_int_))) e E' O' => e = .exit 2 ∧ Mat B E' O' ([(2, (.d (.list 2 (a1.map e_resource_part_int_)))), (3, (.ptr 1003 0 [])), (7, (.sref 3007 2 0 p568.2.2.length)), (9, (.ptr 1009 0 [])), (10, (bo p568.1)), (17, (.d (.list 2 (a0.map e_resource_part_int_)))), (18, (i6 (a0.length : Int))), (19, (i6 s1.1))] : EL) ([(1003, some (.box 77 (.st [(.func 71 []), (.func 134 []), (.func 135 [])]))), (1009, some (.box 101 (.d (e_resource_part_int_ p568.2.1)))), (3007, some (.row 101 2 (p568.2.2.map e_resource_part_int_)))] : OL)) hx637 (mp [] _ _ hB) (fun s433 y h => ?_) (fun e E' O' hR => ?_)
   ·unfold resource_order_minus_2_L1 at h
    refine sr (c (OpJ.lss (L rfl) (q 25) (q 24)) rfl cn) ?_
    refine gh [(2, _), (3, _), (7, _), (9, _), (10, _), (17, _), (18, _), (19, _), (23, _), (24, _), (25, _), (26, _)] [(1003, some _), (1009, some _), (3007, some _)] hB rfl rfl (by rfl) ?_
    refine AWp.seq ?_
    refine AWp.cond rfl (fun hg569 => ?_) (fun hg569 => ?_)
    ·replace h := ite_t hg569 h
     refine AWp.skip ?_
     refine seqQ_n ?_
     refine AWp.seq ?_
     refine AWp.cut h (fun m602 : resource_part_int_ × (List resource_part_int_) => ([(2, (.d (.list 2 (a1.map e_resource_part_int_)))), (3, (.ptr 1003 0 [])), (7, (.sref 3007 2 0 m602.2.length)), (9, (.ptr 1009 0 [])), (10, (bo true)), (17, (.d (.list 2 (a0.map e_resource_part_int_)))), (18, (i6 (a0.length : Int))), (19, (i6 s1.1)), (23, (.d (.list 2 (a1.map e_resource_part_int_)))), (24, (i6 (a1.length : Int))), (25, (i6 s433.1))] : EL)) (fun m602 : resource_part_int_ × (List resource_part_int_) => ([(1003, some (.box 77 (.st [(.func 71 []), (.func 134 []), (.func 135 [])]))), (1009, some (.box 101 (.d (e_resource_part_int_ m602.1)))), (3007, some (.row 101 2 (m602.2.map e_resource_part_int_)))] : OL)) (fun m602 h E' O' hmat => ?_) (fun j603 hjj603 h => ?_)
     ·refine seqQ_n ?_
      refine AWp.ghost hmat ?_
      refine rg (c (add6 (L rfl) (q 25) (Opd.int .i64 (1))) rfl (c (mv hN (q 93)) rfl cn)) ?_
      obtain rfl := Option.some.inj h
      exact ⟨rfl, (Mat.trans (mp [] [(2, (.d (.list 2 (a1.map e_resource_part_int_)))), (3, (.ptr 1003 0 [])), (7, (.sref 3007 2 0 m602.2.length)), (9, (.ptr 1009 0 [])), (10, (bo true)), (17, (.d (.list 2 (a0.map e_resource_part_int_)))), (18, (i6 (a0.length : Int))), (19, (i6 s1.1)), (23, (.d (.list 2 (a1.map e_resource_part_int_)))), (24, (i6 (a1.length : Int))), (25, (i6 (w64 (s433.1 + (1 : Int)))))] [(1003, some (.box 77 (.st [(.func 71 []), (.func 134 []), (.func 135 [])]))), (1009, some (.box 101 (.d (e_resource_part_int_ m602.1)))), (3007, some (.row 101 2 (m602.2.map e_resource_part_int_)))] hB) (mp [] _ _ hB))⟩
     ·refine AWp.block ?_
      obtain ⟨x604, hx604, h⟩ := bindS h
      refine sr (c (OpJ.indexD Tryz.underlying67 tyS101 (idx_some hx604).1 (get_map e_resource_part_int_ (idx_some hx604).2) (L rfl) (q 23) (q 25)) rfl (c (OpJ.loadD tyS101 (by rfl) (by rfl) (L rfl) (q 27)) rfl (cg (OpJ.alloc hB tyZ101 (nm := 1012) (by decide) (L rfl)) rfl (cg (OpJ.storeB tyS101 (SetAt.here _ _) (by rfl) (by rfl) (by simp) rfl (q 12) (q 28)) rfl cn)))) ?_
      refine gh [(2, _), (3, _), (7, _), (9, _), (10, _), (12, _), (17, _), (18, _), (19, _), (23, _), (24, _), (25, _)] [(1003, some _), (1009, some _), (1012, some _), (3007, some _)] hB rfl rfl (by rfl) ?_
      refine AWp.seq ?_
      refine AWp.seq ?_
      refine AWp.cut h (fun m609 : Bool => ([(2, (.d (.list 2 (a1.map e_resource_part_int_)))), (3, (.ptr 1003 0 [])), (7, (.sref 3007 2 0 s433.2.2.length)), (9, (.ptr 1009 0 [])), (10, (bo true)), (12, (.ptr 1012 0 [])), (17, (.d (.list 2 (a0.map e_resource_part_int_)))), (18, (i6 (a0.length : Int))), (19, (i6 s1.1)), (23, (.d (.list 2 (a1.map e_resource_part_int_)))), (24, (i6 (a1.length : Int))), (25, (i6 s433.1)), (46, (bo m609))] : EL)) (fun m609 : Bool => ([(1003, some (.box 77 (.st [(.func 71 []), (.func 134 []), (.func 135 [])]))), (1009, some (.box 101 (.d (e_resource_part_int_ s433.2.1)))), (1012, some (.box 101 (.d (e_resource_part_int_ x604)))), (3007, some (.row 101 2 (s433.2.2.map e_resource_part_int_)))] : OL)) (fun m609 h E' O' hmat => ?_) (fun j610 hjj610 h => ?_)
      ·refine seqQ_n ?_
       refine AWp.ghost hmat ?_
       refine AWp.cond rfl (fun hg611 => ?_) (fun hg611 => ?_)
       ·replace h := ite_t hg611 h
        refine AWp.exit ?_
        refine seqQ_e ?_
        refine blkQ_hit ?_
        exact hjj603 _ h _ _ (mp [] _ _ hB)
       ·replace h := ite_f hg611 h
        refine AWp.skip ?_
        refine seqQ_n ?_
        refine AWp.seq ?_
        obtain ⟨r612, hr612, h⟩ := bindS h
        refine sr (c (ov (.ptr 1003 2 [2]) (fp hN Tryz.underlying77 2 tyS75 _ (q 3))) rfl (c (lb hN 77 _ (.func 135 []) tyS75 (At.st1 (f := (.func 135 [])) (by rfl) (by rfl) (At.here _) (by first | rfl | omega)) (q 48)) rfl (c (ov (.ptr 1012 0 [0]) (fp hN Tryz.underlying101 0 tyS3 _ (q 12))) rfl (c (lb hN 101 _ _ tyS3 (ad _) (q 50)) rfl (cg (OpJ.callVal (args := [(i6 x604.ffrom)]) (caps := []) hB fnOk135 [] (resource_numbers_2_ac x604.ffrom r612 hr612) (by kernel_rfl) (L rfl) (by kernel_rfl) (by kernel_rfl) (OpdL.cons (q 51) OpdL.nil)) rfl (c (mv hN (q 52)) rfl (c (OpJ.extract (by rfl) rfl (L rfl) (q 47)) rfl (c (OpJ.extract (by rfl) rfl (L rfl) (q 47)) rfl (c (OpJ.assign (L rfl) (q 53)) rfl (c (OpJ.assign (L rfl) (q 54)) rfl cn)))))))))) ?_
        refine gh [(2, _), (3, _), (7, _), (9, _), (10, _), (12, _), (13, _), (14, _), (17, _), (18, _), (19, _), (23, _), (24, _), (25, _)] [(1003, some _), (1009, some _), (1012, some _), (3007, some _)] hB rfl rfl (by rfl) ?_
        refine AWp.seq ?_
        refine AWp.cut h (fun m615 : Bool => ([(2, (.d (.list 2 (a1.map e_resource_part_int_)))), (3, (.ptr 1003 0 [])), (7, (.sref 3007 2 0 s433.2.2.length)), (9, (.ptr 1009 0 [])), (10, (bo true)), (12, (.ptr 1012 0 [])), (13, (i6 r612.1)), (17, (.d (.list 2 (a0.map e_resource_part_int_)))), (18, (i6 (a0.length : Int))), (19, (i6 s1.1)), (23, (.d (.list 2 (a1.map e_resource_part_int_)))), (24, (i6 (a1.length : Int))), (25, (i6 s433.1)), (64, (bo m615))] : EL)) (fun m615 : Bool => ([(1003, some (.box 77 (.st [(.func 71 []), (.func 134 []), (.func 135 [])]))), (1009, some (.box 101 (.d (e_resource_part_int_ s433.2.1)))), (1012, some (.box 101 (.d (e_resource_part_int_ x604)))), (3007, some (.row 101 2 (s433.2.2.map e_resource_part_int_)))] : OL)) (fun m615 h E' O' hmat => ?_) (fun j616 hjj616 h => ?_)
        ·refine seqQ_n ?_
         refine AWp.ghost hmat ?_
         refine AWp.cut h (fun m619 : (List resource_part_int_) => ([(2, (.d (.list 2 (a1.map e_resource_part_int_)))), (3, (.ptr 1003 0 [])), (7, (.sref 3007 2 0 m619.length)), (9, (.ptr 1009 0 [])), (10, (bo true)), (12, (.ptr 1012 0 [])), (17, (.d (.list 2 (a0.map e_resource_part_int_)))), (18, (i6 (a0.length : Int))), (19, (i6 s1.1)), (23, (.d (.list 2 (a1.map e_resource_part_int_)))), (24, (i6 (a1.length : Int))), (25, (i6 s433.1))] : EL)) (fun m619 : (List resource_part_int_) => ([(1003, some (.box 77 (.st [(.func 71 []), (.func 134 []), (.func 135 [])]))), (1009, some (.box 101 (.d (e_resource_part_int_ s433.2.1)))), (1012, some (.box 101 (.d (e_resource_part_int_ x604)))), (3007, some (.row 101 2 (m619.map e_resource_part_int_)))] : OL)) (fun m619 h E' O' hmat => ?_) (fun j620 hjj620 h => ?_)
         ·refine seqQ_n ?_
          refine AWp.ghost hmat ?_
          obtain ⟨r621, hr621, h⟩ := bindS h
          refine sr (c (ov (.ptr 1003 1 [1]) (fp hN Tryz.underlying77 1 tyS75 _ (q 3))) rfl (c (lb hN 77 _ (.func 134 []) tyS75 (At.st1 (f := (.func 134 [])) (by rfl) (by rfl) (At.here _) (by first | rfl | omega)) (q 73)) rfl (c (ov (.ptr 1012 1 [1]) (fp hN Tryz.underlying101 1 tyS3 _ (q 12))) rfl (c (lb hN 101 _ _ tyS3 (ad _) (q 75)) rfl (cg (OpJ.callVal (args := [(i6 x604.fto)]) (caps := []) hB fnOk134 [] (resource_numbers_1_ac x604.fto r621 hr621) (by kernel_rfl) (L rfl) (by kernel_rfl) (by kernel_rfl) (OpdL.cons (q 76) OpdL.nil)) rfl (c (mv hN (q 77)) rfl (c (OpJ.extract (by rfl) rfl (L rfl) (q 72)) rfl (c (OpJ.extract (by rfl) rfl (L rfl) (q 72)) rfl (c (OpJ.assign (L rfl) (q 78)) rfl (c (OpJ.assign (L rfl) (q 79)) rfl cn)))))))))) ?_
          refine gh [(2, _), (3, _), (7, _), (9, _), (10, _), (15, _), (16, _), (17, _), (18, _), (19, _), (23, _), (24, _), (25, _)] [(1003, some _), (1009, some _), (3007, some _)] hB rfl rfl (by rfl) ?_
          refine AWp.seq ?_
          refine AWp.seq ?_
          refine AWp.cut h (fun m624 : Bool => ([(2, (.d (.list 2 (a1.map e_resource_part_int_)))), (3, (.ptr 1003 0 [])), (7, (.sref 3007 2 0 m619.length)), (9, (.ptr 1009 0 [])), (10, (bo true)), (15, (i6 r621.1)), (17, (.d (.list 2 (a0.map e_resource_part_int_)))), (18, (i6 (a0.length : Int))), (19, (i6 s1.1)), (23, (.d (.list 2 (a1.map e_resource_part_int_)))), (24, (i6 (a1.length : Int))), (25, (i6 s433.1)), (90, (bo m624))] : EL)) (fun m624 : Bool => ([(1003, some (.box 77 (.st [(.func 71 []), (.func 134 []), (.func 135 [])]))), (1009, some (.box 101 (.d (e_resource_part_int_ s433.2.1)))), (3007, some (.row 101 2 (m619.map e_resource_part_int_)))] : OL)) (fun m624 h E' O' hmat => ?_) (fun j625 hjj625 h => ?_)
          ·refine seqQ_n ?_
           refine AWp.ghost hmat ?_
           refine AWp.cond rfl (fun hg626 => ?_) (fun hg626 => ?_)
           ·replace h := ite_t hg626 h
            refine sr (c (OpJ.assign (L rfl) (Opd.bool false)) rfl cn) ?_
            refine gh [(2, _), (3, _), (7, _), (9, _), (10, _), (17, _), (18, _), (19, _)] [(1003, some _), (1009, some _), (3007, some _)] hB rfl rfl (by rfl) ?_
            refine AWp.exit ?_
            refine seqQ_e ?_
            refine blkQ_miss (by rfl) ?_
            refine seqQ_e ?_
            obtain rfl := Option.some.inj h
            exact ⟨(fun hc => by cases hc), rfl, (mp [] _ _ hB)⟩
           ·replace h := ite_f hg626 h
            refine AWp.skip ?_
            refine seqQ_n ?_
            refine rg (c (mv hN (q 15)) rfl (c (ov (.ptr 1009 0 [0]) (fp hN Tryz.underlying101 0 tyS3 _ (q 9))) rfl (cg (OpJ.storeB tyS3 (SetAt.dst1 (by rfl) (by rfl) (SetAt.here _ _) (by rfl) (by rfl) (by first | rfl | omega)) (by rfl) (by rfl) (by simp) rfl (q 92) (q 91)) rfl cn))) ?_
            refine blkQ_n ?_
            exact hjj603 _ h _ _ (Mat.trans (mp [] [(2, (.d (.list 2 (a1.map e_resource_part_int_)))), (3, (.ptr 1003 0 [])), (7, (.sref 3007 2 0 m619.length)), (9, (.ptr 1009 0 [])), (10, (bo true)), (17, (.d (.list 2 (a0.map e_resource_part_int_)))), (18, (i6 (a0.length : Int))), (19, (i6 s1.1)), (23, (.d (.list 2 (a1.map e_resource_part_int_)))), (24, (i6 (a1.length : Int))), (25, (i6 s433.1))] [(1003, some (.box 77 (.st [(.func 71 []), (.func 134 []), (.func 135 [])]))), (1009, some (.box 101 (.d (.st [(.int .i64 r621.1), (.int .i64 s433.2.1.fto)])))), (3007, some (.row 101 2 (m619.map e_resource_part_int_)))] hB) (mp [] _ _ hB))
          ·rcases Bool.eq_false_or_eq_true (!r621.2) with hg627 | hg627
           ·replace h := ite_t hg627 h
            refine rg (c (mv hN (q 16)) rfl (c (OpJ.not (L rfl) (q 80)) rfl (c (OpJ.val (v' := .d (.bool true)) (by rw [hg627] <;> rfl) (mv hN (q 81))) rfl (cg (sU 82 (L rfl)) rfl (cg (sU 82 (L rfl)) rfl (cg (sU 82 (L rfl)) rfl (cg (sU 82 (L rfl)) rfl (cg (sU 82 (L rfl)) rfl (cg (sU 82 (L rfl)) rfl (cg (sU 82 (L rfl)) rfl (c (OpJ.pickT (L rfl) (q 82) (Opd.bool true)) rfl cn))))))))))) ?_
            exact hjj625 _ h _ _ (Mat.trans (mp [] [(2, (.d (.list 2 (a1.map e_resource_part_int_)))), (3, (.ptr 1003 0 [])), (7, (.sref 3007 2 0 m619.length)), (9, (.ptr 1009 0 [])), (10, (bo true)), (15, (i6 r621.1)), (17, (.d (.list 2 (a0.map e_resource_part_int_)))), (18, (i6 (a0.length : Int))), (19, (i6 s1.1)), (23, (.d (.list 2 (a1.map e_resource_part_int_)))), (24, (i6 (a1.length : Int))), (25, (i6 s433.1)), (90, (bo true))] [(1003, some (.box 77 (.st [(.func 71 []), (.func 134 []), (.func 135 [])]))), (1009, some (.box 101 (.d (e_resource_part_int_ s433.2.1)))), (3007, some (.row 101 2 (m619.map e_resource_part_int_)))] hB) (mp [] _ _ hB))
           ·replace h := ite_f hg627 h
            obtain ⟨r628, hr628, h⟩ := bindS h
            refine rg (c (mv hN (q 16)) rfl (c (OpJ.not (L rfl) (q 80)) rfl (c (OpJ.val (v' := .d (.bool false)) (by rw [hg627] <;> rfl) (mv hN (q 81))) rfl (c (gd 82 (ov (.ptr 1003 0 [0]) (fp hN Tryz.underlying77 0 tyS50 _ (q 3)))) rfl (c (gd 82 (lb hN 77 _ (.func 71 []) tyS50 (At.st1 (f := (.func 71 [])) (by rfl) (by rfl) (At.here _) (by first | rfl | omega)) (q 83))) rfl (c (gd 82 (mv hN (q 15))) rfl (c (gd 82 (ov (.ptr 1009 1 [1]) (fp hN Tryz.underlying101 1 tyS3 _ (q 9)))) rfl (c (gd 82 (lb hN 101 _ _ tyS3 (ad _) (q 86))) rfl (cg (gd 82 (OpJ.callVal (args := [(i6 r621.1), (i6 s433.2.1.fto)]) (caps := []) hB fnOk71 [] (cmp_Compare_ac r621.1 s433.2.1.fto r628 hr628) (by kernel_rfl) (L rfl) (by kernel_rfl) (by kernel_rfl) (OpdL.cons (q 85) (OpdL.cons (q 87) OpdL.nil)))) rfl (c (gd 82 (OpJ.gtr (L rfl) (q 88) (Opd.int .i64 (0)))) rfl (c (OpJ.pickF (L rfl) (q 82) (q 89)) rfl cn))))))))))) ?_
            exact hjj625 _ h _ _ (Mat.trans (mp [] [(2, (.d (.list 2 (a1.map e_resource_part_int_)))), (3, (.ptr 1003 0 [])), (7, (.sref 3007 2 0 m619.length)), (9, (.ptr 1009 0 [])), (10, (bo true)), (15, (i6 r621.1)), (17, (.d (.list 2 (a0.map e_resource_part_int_)))), (18, (i6 (a0.length : Int))), (19, (i6 s1.1)), (23, (.d (.list 2 (a1.map e_resource_part_int_)))), (24, (i6 (a1.length : Int))), (25, (i6 s433.1)), (90, (bo (decide ((0 : Int) < r628))))] [(1003, some (.box 77 (.st [(.func 71 []), (.func 134 []), (.func 135 [])]))), (1009, some (.box 101 (.d (e_resource_part_int_ s433.2.1)))), (3007, some (.row 101 2 (m619.map e_resource_part_int_)))] hB) (mp [] _ _ hB))
         ·refine AWp.cond rfl (fun hg629 => ?_) (fun hg629 => ?_)
          ·replace h := ite_t hg629 h
           obtain ⟨hc630, h⟩ := chk_some h
           refine rg (c (mv hN (q 7)) rfl (c (ov (.ptr 1009 0 [0]) (fp hN Tryz.underlying101 0 tyS3 _ (q 9))) rfl (c (lb hN 101 _ _ tyS3 (ad _) (q 66)) rfl (c (mv hN (q 13)) rfl (c (OpJ.coe (v := (.st [(i6 s433.2.1.ffrom), (i6 r612.1)])) (y := (.st [(.int .i64 s433.2.1.ffrom), (.int .i64 r612.1)])) (Co.st (CoL.cons (Co.d _) (CoL.cons (Co.d _) CoL.nil))) rfl (OpJ.build (places := [(0, 1), (1, 1)]) ⟨Tryz.underlying101, fun w => by kernel_rfl⟩ tyZS101 (Opds.cons (q 67) (Opds.cons (q 68) Opds.nil)) (by kernel_rfl) (r := (.st [(i6 s433.2.1.ffrom), (i6 r612.1)])) (by rfl) (L rfl))) rfl (c (OpJ.buildSlice Tryz.underlying67 tyS101 tyZD101 (by rfl) (by decide) (by decide) (Opds.cons (q 69) Opds.nil) (by kernel_rfl) (es := ([(.st [(.int .i64 s433.2.1.ffrom), (.int .i64 r612.1)])] : List D)) (by rfl) (by rfl) (by kernel_rfl) (by simp) (L rfl)) rfl (cg (OpJ.append hB Tryz.underlying67 tyE101 (nm := 1071) (by decide) (es := s433.2.2.map e_resource_part_int_) (ys := ([(resource_part_int_.mk s433.2.1.ffrom r612.1)] : List resource_part_int_).map e_resource_part_int_) (es' := (s433.2.2 ++ ([(resource_part_int_.mk s433.2.1.ffrom r612.1)] : List resource_part_int_)).map e_resource_part_int_) (len := (s433.2.2 ++ ([(resource_part_int_.mk s433.2.1.ffrom r612.1)] : List resource_part_int_)).length) (by simp) (by simp) (map_sz (f := e_resource_part_int_) (fun _ => rfl)) (by rw [List.length_map]; exact lim_mulN hc630 (by decide)) (by rw [List.length_map]; exact lim_leN hc630) (L rfl) (by simp) (q 65) (q 70)) rfl (c (OpJ.assign (L rfl) (q 71)) rfl cn)))))))) ?_
           exact hjj620 _ h _ _ (Mat.trans (mp [] [(2, (.d (.list 2 (a1.map e_resource_part_int_)))), (3, (.ptr 1003 0 [])), (7, (.sref 1071 2 0 ((s433.2.2 ++ ([(resource_part_int_.mk s433.2.1.ffrom r612.1)] : List resource_part_int_)).length))), (9, (.ptr 1009 0 [])), (10, (bo true)), (12, (.ptr 1012 0 [])), (17, (.d (.list 2 (a0.map e_resource_part_int_)))), (18, (i6 (a0.length : Int))), (19, (i6 s1.1)), (23, (.d (.list 2 (a1.map e_resource_part_int_)))), (24, (i6 (a1.length : Int))), (25, (i6 s433.1))] [(1003, some (.box 77 (.st [(.func 71 []), (.func 134 []), (.func 135 [])]))), (1009, some (.box 101 (.d (e_resource_part_int_ s433.2.1)))), (1012, some (.box 101 (.d (e_resource_part_int_ x604)))), (1071, some (.row 101 2 ((s433.2.2 ++ ([(resource_part_int_.mk s433.2.1.ffrom r612.1)] : List resource_part_int_)).map e_resource_part_int_)))] hB) (mp [(3007, 1071)] _ _ hB))
          ·replace h := ite_f hg629 h
           refine AWp.skip ?_
           exact hjj620 _ h _ _ (mp [] _ _ hB)
        ·rcases Bool.eq_false_or_eq_true r612.2 with hg631 | hg631
         ·replace h := ite_t hg631 h
          obtain ⟨r632, hr632, h⟩ := bindS h
          refine rg (c (mv hN (q 14)) rfl (c (OpJ.val (v' := .d (.bool true)) (by rw [hg631] <;> rfl) (mv hN (q 55))) rfl (c (gd 56 (ov (.ptr 1003 0 [0]) (fp hN Tryz.underlying77 0 tyS50 _ (q 3)))) rfl (c (gd 56 (lb hN 77 _ (.func 71 []) tyS50 (At.st1 (f := (.func 71 [])) (by rfl) (by rfl) (At.here _) (by first | rfl | omega)) (q 57))) rfl (c (gd 56 (ov (.ptr 1009 0 [0]) (fp hN Tryz.underlying101 0 tyS3 _ (q 9)))) rfl (c (gd 56 (lb hN 101 _ _ tyS3 (ad _) (q 59))) rfl (c (gd 56 (mv hN (q 13))) rfl (cg (gd 56 (OpJ.callVal (args := [(i6 s433.2.1.ffrom), (i6 r612.1)]) (caps := []) hB fnOk71 [] (cmp_Compare_ac s433.2.1.ffrom r612.1 r632 hr632) (by kernel_rfl) (L rfl) (by kernel_rfl) (by kernel_rfl) (OpdL.cons (q 60) (OpdL.cons (q 61) OpdL.nil)))) rfl (c (gd 56 (OpJ.leq (L rfl) (q 62) (Opd.int .i64 (0)))) rfl (c (OpJ.pickT (L rfl) (q 56) (q 63)) rfl cn)))))))))) ?_
          exact hjj616 _ h _ _ (Mat.trans (mp [] [(2, (.d (.list 2 (a1.map e_resource_part_int_)))), (3, (.ptr 1003 0 [])), (7, (.sref 3007 2 0 s433.2.2.length)), (9, (.ptr 1009 0 [])), (10, (bo true)), (12, (.ptr 1012 0 [])), (13, (i6 r612.1)), (17, (.d (.list 2 (a0.map e_resource_part_int_)))), (18, (i6 (a0.length : Int))), (19, (i6 s1.1)), (23, (.d (.list 2 (a1.map e_resource_part_int_)))), (24, (i6 (a1.length : Int))), (25, (i6 s433.1)), (64, (bo (decide (r632 ≤ (0 : Int)))))] [(1003, some (.box 77 (.st [(.func 71 []), (.func 134 []), (.func 135 [])]))), (1009, some (.box 101 (.d (e_resource_part_int_ s433.2.1)))), (1012, some (.box 101 (.d (e_resource_part_int_ x604)))), (3007, some (.row 101 2 (s433.2.2.map e_resource_part_int_)))] hB) (mp [] _ _ hB))
         ·replace h := ite_f hg631 h
          refine rg (c (mv hN (q 14)) rfl (c (OpJ.val (v' := .d (.bool false)) (by rw [hg631] <;> rfl) (mv hN (q 55))) rfl (cg (sU 56 (L rfl)) rfl (cg (sU 56 (L rfl)) rfl (cg (sU 56 (L rfl)) rfl (cg (sU 56 (L rfl)) rfl (cg (sU 56 (L rfl)) rfl (cg (sU 56 (L rfl)) rfl (cg (sU 56 (L rfl)) rfl (c (OpJ.pickF (L rfl) (q 56) (Opd.bool false)) rfl cn)))))))))) ?_
          exact hjj616 _ h _ _ (Mat.trans (mp [] [(2, (.d (.list 2 (a1.map e_resource_part_int_)))), (3, (.ptr 1003 0 [])), (7, (.sref 3007 2 0 s433.2.2.length)), (9, (.ptr 1009 0 [])), (10, (bo true)), (12, (.ptr 1012 0 [])), (13, (i6 r612.1)), (17, (.d (.list 2 (a0.map e_resource_part_int_)))), (18, (i6 (a0.length : Int))), (19, (i6 s1.1)), (23, (.d (.list 2 (a1.map e_resource_part_int_)))), (24, (i6 (a1.length : Int))), (25, (i6 s433.1)), (64, (bo false))] [(1003, some (.box 77 (.st [(.func 71 []), (.func 134 []), (.func 135 [])]))), (1009, some (.box 101 (.d (e_resource_part_int_ s433.2.1)))), (1012, some (.box 101 (.d (e_resource_part_int_ x604)))), (3007, some (.row 101 2 (s433.2.2.map e_resource_part_int_)))] hB) (mp [] _ _ hB))
      ·obtain ⟨r633, hr633, h⟩ := bindS h
       rcases Bool.eq_false_or_eq_true (decide (r633 < (0 : Int))) with hg634 | hg634
       ·replace h := ite_t hg634 h
        refine rg (c (ov (.ptr 1003 0 [0]) (fp hN Tryz.underlying77 0 tyS50 _ (q 3))) rfl (c (lb hN 77 _ (.func 71 []) tyS50 (At.st1 (f := (.func 71 [])) (by rfl) (by rfl) (At.here _) (by first | rfl | omega)) (q 29)) rfl (c (ov (.ptr 1012 1 [1]) (fp hN Tryz.underlying101 1 tyS3 _ (q 12))) rfl (c (lb hN 101 _ _ tyS3 (ad _) (q 31)) rfl (c (ov (.ptr 1009 0 [0]) (fp hN Tryz.underlying101 0 tyS3 _ (q 9))) rfl (c (lb hN 101 _ _ tyS3 (ad _) (q 33)) rfl (cg (OpJ.callVal (args := [(i6 x604.fto), (i6 s433.2.1.ffrom)]) (caps := []) hB fnOk71 [] (cmp_Compare_ac x604.fto s433.2.1.ffrom r633 hr633) (by kernel_rfl) (L rfl) (by kernel_rfl) (by kernel_rfl) (OpdL.cons (q 32) (OpdL.cons (q 34) OpdL.nil))) rfl (c (OpJ.lss (L rfl) (q 35) (Opd.int .i64 (0))) rfl (c (OpJ.val (v' := .d (.bool true)) (by rw [hg634] <;> rfl) (mv hN (q 36))) rfl (cg (sU 37 (L rfl)) rfl (cg (sU 37 (L rfl)) rfl (cg (sU 37 (L rfl)) rfl (cg (sU 37 (L rfl)) rfl (cg (sU 37 (L rfl)) rfl (cg (sU 37 (L rfl)) rfl (cg (sU 37 (L rfl)) rfl (cg (sU 37 (L rfl)) rfl (c (OpJ.pickT (L rfl) (q 37) (Opd.bool true)) rfl cn)))))))))))))))))) ?_
        exact hjj610 _ h _ _ (Mat.trans (mp [] [(2, (.d (.list 2 (a1.map e_resource_part_int_)))), (3, (.ptr 1003 0 [])), (7, (.sref 3007 2 0 s433.2.2.length)), (9, (.ptr 1009 0 [])), (10, (bo true)), (12, (.ptr 1012 0 [])), (17, (.d (.list 2 (a0.map e_resource_part_int_)))), (18, (i6 (a0.length : Int))), (19, (i6 s1.1)), (23, (.d (.list 2 (a1.map e_resource_part_int_)))), (24, (i6 (a1.length : Int))), (25, (i6 s433.1)), (46, (bo true))] [(1003, some (.box 77 (.st [(.func 71 []), (.func 134 []), (.func 135 [])]))), (1009, some (.box 101 (.d (e_resource_part_int_ s433.2.1)))), (1012, some (.box 101 (.d (e_resource_part_int_ x604)))), (3007, some (.row 101 2 (s433.2.2.map e_resource_part_int_)))] hB) (mp [] _ _ hB))
       ·replace h := ite_f hg634 h
        obtain ⟨r635, hr635, h⟩ := bindS h
        refine rg (c (ov (.ptr 1003 0 [0]) (fp hN Tryz.underlying77 0 tyS50 _ (q 3))) rfl (c (lb hN 77 _ (.func 71 []) tyS50 (At.st1 (f := (.func 71 [])) (by rfl) (by rfl) (At.here _) (by first | rfl | omega)) (q 29)) rfl (c (ov (.ptr 1012 1 [1]) (fp hN Tryz.underlying101 1 tyS3 _ (q 12))) rfl (c (lb hN 101 _ _ tyS3 (ad _) (q 31)) rfl (c (ov (.ptr 1009 0 [0]) (fp hN Tryz.underlying101 0 tyS3 _ (q 9))) rfl (c (lb hN 101 _ _ tyS3 (ad _) (q 33)) rfl (cg (OpJ.callVal (args := [(i6 x604.fto), (i6 s433.2.1.ffrom)]) (caps := []) hB fnOk71 [] (cmp_Compare_ac x604.fto s433.2.1.ffrom r633 hr633) (by kernel_rfl) (L rfl) (by kernel_rfl) (by kernel_rfl) (OpdL.cons (q 32) (OpdL.cons (q 34) OpdL.nil))) rfl (c (OpJ.lss (L rfl) (q 35) (Opd.int .i64 (0))) rfl (c (OpJ.val (v' := .d (.bool false)) (by rw [hg634] <;> rfl) (mv hN (q 36))) rfl (c (gd 37 (ov (.ptr 1003 0 [0]) (fp hN Tryz.underlying77 0 tyS50 _ (q 3)))) rfl (c (gd 37 (lb hN 77 _ (.func 71 []) tyS50 (At.st1 (f := (.func 71 [])) (by rfl) (by rfl) (At.here _) (by first | rfl | omega)) (q 38))) rfl (c (gd 37 (ov (.ptr 1012 0 [0]) (fp hN Tryz.underlying101 0 tyS3 _ (q 12)))) rfl (c (gd 37 (lb hN 101 _ _ tyS3 (ad _) (q 40))) rfl (c (gd 37 (ov (.ptr 1009 1 [1]) (fp hN Tryz.underlying101 1 tyS3 _ (q 9)))) rfl (c (gd 37 (lb hN 101 _ _ tyS3 (ad _) (q 42))) rfl (cg (gd 37 (OpJ.callVal (args := [(i6 x604.ffrom), (i6 s433.2.1.fto)]) (caps := []) hB fnOk71 [] (cmp_Compare_ac x604.ffrom s433.2.1.fto r635 hr635) (by kernel_rfl) (L rfl) (by kernel_rfl) (by kernel_rfl) (OpdL.cons (q 41) (OpdL.cons (q 43) OpdL.nil)))) rfl (c (gd 37 (OpJ.gtr (L rfl) (q 44) (Opd.int .i64 (0)))) rfl (c (OpJ.pickF (L rfl) (q 37) (q 45)) rfl cn)))))))))))))))))) ?_
        exact hjj610 _ h _ _ (Mat.trans (mp [] [(2, (.d (.list 2 (a1.map e_resource_part_int_)))), (3, (.ptr 1003 0 [])), (7, (.sref 3007 2 0 s433.2.2.length)), (9, (.ptr 1009 0 [])), (10, (bo true)), (12, (.ptr 1012 0 [])), (17, (.d (.list 2 (a0.map e_resource_part_int_)))), (18, (i6 (a0.length : Int))), (19, (i6 s1.1)), (23, (.d (.list 2 (a1.map e_resource_part_int_)))), (24, (i6 (a1.length : Int))), (25, (i6 s433.1)), (46, (bo (decide ((0 : Int) < r635))))] [(1003, some (.box 77 (.st [(.func 71 []), (.func 134 []), (.func 135 [])]))), (1009, some (.box 101 (.d (e_resource_part_int_ s433.2.1)))), (1012, some (.box 101 (.d (e_resource_part_int_ x604)))), (3007, some (.row 101 2 (s433.2.2.map e_resource_part_int_)))] hB) (mp [] _ _ hB))
    ·replace h := ite_f hg569 h
     refine AWp.exit ?_
     refine seqQ_e ?_
     obtain rfl := Option.some.inj h
     exact ⟨(fun hc => by cases hc), rfl, (mp [] _ _ hB)⟩
   ·obtain ⟨rfl, hmat⟩ := hR
    refine blkQ_hit ?_
    refine seqQ_n ?_
    refine AWp.ghost hmat ?_
    refine sr (c (mv hN (q 10)) rfl cn) ?_
    refine gh [(2, _), (3, _), (7, _), (9, _), (17, _), (18, _), (19, _), (94, _)] [(1003, some _), (1009, some _), (3007, some _)] hB rfl rfl (by rfl) ?_
    refine AWp.cut h (fun m640 : (List resource_part_int_) => ([(2, (.d (.list 2 (a1.map e_resource_part_int_)))), (3, (.ptr 1003 0 [])), (7, (.sref 3007 2 0 m640.length)), (17, (.d (.list 2 (a0.map e_resource_part_int_)))), (18, (i6 (a0.length : Int))), (19, (i6 s1.1))] : EL)) (fun m640 : (List resource_part_int_) => ([(1003, some (.box 77 (.st [(.func 71 []), (.func 134 []), (.func 135 [])]))), (3007, some (.row 101 2 (m640.map e_resource_part_int_)))] : OL)) (fun m640 h E' O' hmat => ?_) (fun j641 hjj641 h => ?_)
    ·refine blkQ_n ?_
     refine seqQ_n ?_
     refine AWp.ghost hmat ?_
     refine rg (c (add6 (L rfl) (q 19) (Opd.int .i64 (1))) rfl (c (mv hN (q 99)) rfl cn)) ?_
     obtain rfl := Option.some.inj h
     exact ⟨rfl, (Mat.trans (mp [] [(2, (.d (.list 2 (a1.map e_resource_part_int_)))), (3, (.ptr 1003 0 [])), (7, (.sref 3007 2 0 m640.length)), (17, (.d (.list 2 (a0.map e_resource_part_int_)))), (18, (i6 (a0.length : Int))), (19, (i6 (w64 (s1.1 + (1 : Int)))))] [(1003, some (.box 77 (.st [(.func 71 []), (.func 134 []), (.func 135 [])]))), (3007, some (.row 101 2 (m640.map e_resource_part_int_)))] hB) (mp [] _ _ hB))⟩
    ·refine AWp.cond rfl (fun hg642 => ?_) (fun hg642 => ?_)
     ·replace h := ite_t hg642 h
      obtain ⟨hc643, h⟩ := chk_some h
      refine rg (c (mv hN (q 7)) rfl (c (lb hN 101 _ _ tyS101 (At.here _) (q 9)) rfl (c (OpJ.buildSlice Tryz.underlying67 tyS101 tyZD101 (by rfl) (by decide) (by decide) (Opds.cons (q 96) Opds.nil) (by kernel_rfl) (es := ([(e_resource_part_int_ p568.2.1)] : List D)) (by rfl) (by rfl) (by kernel_rfl) (by simp) (L rfl)) rfl (cg (OpJ.append hB Tryz.underlying67 tyE101 (nm := 1098) (by decide) (es := p568.2.2.map e_resource_part_int_) (ys := ([p568.2.1] : List resource_part_int_).map e_resource_part_int_) (es' := (p568.2.2 ++ ([p568.2.1] : List resource_part_int_)).map e_resource_part_int_) (len := (p568.2.2 ++ ([p568.2.1] : List resource_part_int_)).length) (by simp) (by simp) (map_sz (f := e_resource_part_int_) (fun _ => rfl)) (by rw [List.length_map]; exact lim_mulN hc643 (by decide)) (by rw [List.length_map]; exact lim_leN hc643) (L rfl) (by simp) (q 95) (q 97)) rfl (c (OpJ.assign (L rfl) (q 98)) rfl cn))))) ?_
      exact hjj641 _ h _ _ (Mat.trans (mp [] [(2, (.d (.list 2 (a1.map e_resource_part_int_)))), (3, (.ptr 1003 0 [])), (7, (.sref 1098 2 0 ((p568.2.2 ++ ([p568.2.1] : List resource_part_int_)).length))), (17, (.d (.list 2 (a0.map e_resource_part_int_)))), (18, (i6 (a0.length : Int))), (19, (i6 s1.1))] [(1003, some (.box 77 (.st [(.func 71 []), (.func 134 []), (.func 135 [])]))), (1098, some (.row 101 2 ((p568.2.2 ++ ([p568.2.1] : List resource_part_int_)).map e_resource_part_int_)))] hB) (mp [(3007, 1098)] _ _ hB))
     ·replace h := ite_f hg642 h
      refine AWp.skip ?_
      exact hjj641 _ h _ _ (mp [] _ _ hB)
  ·replace h := ite_f hg431 h
   refine AWp.exit ?_
   refine seqQ_e ?_
   obtain rfl := Option.some.inj h
   exact ⟨(fun hc => by cases hc), rfl, (mp [] _ _ hB)⟩
 ·obtain ⟨rfl, hmat⟩ := hR
  refine blkQ_hit ?_
  refine seqQ_n ?_
  refine AWp.ghost hmat ?_
  refine sr (c (mv hN (q 7)) rfl (c (OpJ.assign (L rfl) (q 100)) rfl cn)) ?_
  refine gh [(6, _)] [(3007, some _)] hB rfl rfl (by rfl) ?_
  refine AWp.ret ?_
  obtain rfl := Option.some.inj h
  exact ⟨.inl rfl, _, _, (Mat.trans (Mat.freezeP (n := 3007) (e := 101) (sz := 2) (es := p430.map e_resource_part_int_) (Ts := [(6, (.d (.list 2 (p430.map e_resource_part_int_))))]) (Bs := []) (by rfl) (TwT.cons (x := (.sref 3007 2 0 p430.length)) (by rfl) (FrzL.all (by first | rfl | (simp; done) | (simp; omega) | omega)) TwT.nil) TwB.nil) (mp [] [(6, (.d (.list 2 (p430.map e_resource_part_int_))))] [] hB)), [(.d (.list 2 (p430.map e_resource_part_int_)))], (Res.tmp (by rfl) (by rfl) Res.nil), rfl, by rfl, by rfl, by rfl⟩

noncomputable def resource_set_minus (a0 : resource_set) (a1 : resource_set) : Option (resource_set) :=
 (resource_order_minus a0.faddrs a1.faddrs).bind fun r1 =>
 (resource_order_minus_2 a0.fasns a1.fasns).bind fun r2 =>
 some (resource_set.mk r1 r2)
theorem resource_set_minus_ac (a0 : resource_set) (a1 : resource_set) (r : resource_set) (h : resource_set_minus a0 a1 = some r) : AC Tryz.prog 37 [(.d (e_resource_set a0)), (.d (e_resource_set a1))] [(500, (.know (globF 0 [50, 52, 133]))), (501, (.know (globF 1 [71, 134, 135])))] (.d (e_resource_set r)) [(500, some (.know (globF 0 [50, 52, 133]))), (501, some (.know (globF 1 [71, 134, 135])))] := by
 refine AC.of_code2 Tryz.func37 rfl rfl (Nat.le_of_ble_eq_true (by rfl)) fun B hB hN => ?_
 delta resource_set_minus at h
 refine sr (cg (OpJ.box hB (nm := 1002) (by decide) (by simp) rfl (ltN hN rfl) (q 0)) rfl (cg (OpJ.box hB (nm := 1003) (by decide) (by simp) rfl (ltN hN rfl) (q 1)) rfl (cg (OpJ.alloc hB tyZ69 (nm := 1004) (by decide) (ltN hN rfl)) rfl cn))) ?_
 refine gh [(2, _), (3, _), (4, _)] [(500, some _), (501, some _), (1002, some _), (1003, some _), (1004, some _)] hB rfl rfl (by rfl) ?_
 obtain ⟨r1, hr1, h⟩ := bindS h
 obtain ⟨r2, hr2, h⟩ := bindS h
 refine sd (cg (OpJ.loadG (nm := 500) [50, 52, 133] tyS73 rfl (ltN hN rfl)) rfl (c (ov (.ptr 1002 0 [0]) (fp hN Tryz.underlying69 0 tyS66 _ (q 2))) rfl (c (lb hN 69 _ _ tyS66 (ad _) (q 6)) rfl (c (ov (.ptr 1003 0 [0]) (fp hN Tryz.underlying69 0 tyS66 _ (q 3))) rfl (c (lb hN 69 _ _ tyS66 (ad _) (q 8)) rfl (cg (OpJ.callFn hB fnOk64 (resource_order_minus_ac a0.faddrs a1.faddrs r1 hr1) [] (by kernel_rfl) (ltN hN rfl) (by kernel_rfl) (OpdL.cons (q 5) (OpdL.cons (q 7) (OpdL.cons (q 9) OpdL.nil)))) rfl (cg (OpJ.loadG (nm := 501) [71, 134, 135] tyS77 rfl (ltN hN rfl)) rfl (c (ov (.ptr 1002 1 [1]) (fp hN Tryz.underlying69 1 tyS67 _ (q 2))) rfl (c (lb hN 69 _ _ tyS67 (ad _) (q 12)) rfl (c (ov (.ptr 1003 1 [1]) (fp hN Tryz.underlying69 1 tyS67 _ (q 3))) rfl (c (lb hN 69 _ _ tyS67 (ad _) (q 14)) rfl (cg (OpJ.callFn hB fnOk65 (resource_order_minus_2_ac a0.fasns a1.fasns r2 hr2) [] (by kernel_rfl) (ltN hN rfl) (by kernel_rfl) (OpdL.cons (q 11) (OpdL.cons (q 13) (OpdL.cons (q 15) OpdL.nil)))) rfl (c (OpJ.coe (v := (.st [(qe_api_Addr__6 r1), (.d (.list 2 (r2.map e_resource_part_int_)))])) (y := (.st [(.list 6 (r1.map e_api_Addr_)), (.list 2 (r2.map e_resource_part_int_))])) (Co.st (CoL.cons (Co.d _) (CoL.cons (Co.d _) CoL.nil))) rfl (OpJ.build (places := [(0, 1), (1, 1)]) ⟨Tryz.underlying69, fun w => by kernel_rfl⟩ tyZS69 (Opds.cons (q 10) (Opds.cons (q 16) Opds.nil)) (by kernel_rfl) (r := (.st [(qe_api_Addr__6 r1), (.d (.list 2 (r2.map e_resource_part_int_)))])) (by rfl) (ltN hN rfl))) rfl (cg (OpJ.storeB tyS69 (SetAt.here _ _) (by rfl) (by rfl) (by simp) rfl (q 4) (q 17)) rfl cn)))))))))))))) (by kernel_rfl) (by kernel_rfl) ?_
 refine gh [(4, _)] [(500, some _), (501, some _), (1004, some _)] hB rfl rfl (by rfl) ?_
 refine AWp.ret ?_
 obtain rfl := Option.some.inj h
 exact ⟨.inl rfl, _, _, (kp [(4, _)] [(500, some _), (501, some _), (1004, some _)] hB rfl rfl (by rfl)), [(.d (.st [(.list 6 (r1.map e_api_Addr_)), (.list 2 (r2.map e_resource_part_int_))]))], (Res.cell (c := (.d (.st [(.list 6 (r1.map e_api_Addr_)), (.list 2 (r2.map e_resource_part_int_))]))) (by rfl) (by rfl) tyS69 (by rfl) (by rfl) (by rfl) Res.nil), rfl, by rfl, by rfl, by rfl⟩

noncomputable def resource_Intersect (a0 : api_Resources) (a1 : api_Resources) : Option (api_Resources × Int) :=
 jn (fun m5 : Bool =>
 (if m5 = true then
 some ((api_Resources.mk ([] : List api_Range) ([] : List api_Span)), (1 : Int))
 else
 (resource_of a0).bind fun r8 =>
 (resource_of a1).bind fun r9 =>
 (resource_set_minus r8 r9).bind fun r10 =>
 (resource_set_minus r8 r10).bind fun r11 =>
 (resource_set_resources r11).bind fun r12 =>
 some (r12.1, r12.2))) (fun j6 =>
 (resource_Valid a0).bind fun r13 =>
 (if (!r13) = true then
 j6 true
 else
 (resource_Valid a1).bind fun r15 =>
 j6 (!r15)))
theorem resource_Intersect_ac (a0 : api_Resources) (a1 : api_Resources) (r : api_Resources × Int) (h : resource_Intersect a0 a1 = some r) : AC Tryz.prog 12 [(.d (e_api_Resources a0)), (.d (e_api_Resources a1))] [(500, (.know (globF 0 [50, 52, 133]))), (501, (.know (globF 1 [71, 134, 135])))] (.tup [(.d (e_api_Resources r.1)), (.d (.int .i64 r.2))]) [(500, some (.know (globF 0 [50, 52, 133]))), (501, some (.know (globF 1 [71, 134, 135])))] := by
 refine AC.of_code2 Tryz.func12 rfl rfl (Nat.le_of_ble_eq_true (by rfl)) fun B hB hN => ?_
 have L {d : Nat} (h : Nat.blt d Tryz.f12.ntmps = true) : d < B.N := ltN hN h
 delta resource_Intersect at h
 refine sr (cg (OpJ.box hB (nm := 1002) (by decide) (by simp) rfl (L rfl) (q 0)) rfl (cg (OpJ.box hB (nm := 1003) (by decide) (by simp) rfl (L rfl) (q 1)) rfl (cg (OpJ.alloc hB tyZ25 (nm := 1004) (by decide) (L rfl)) rfl (c (OpJ.assign (L rfl) (Opd.int .i64 (0))) rfl cn)))) ?_
 refine gh [(2, _), (3, _), (4, _)] [(500, some _), (501, some _), (1002, some _), (1003, some _), (1004, some _)] hB rfl rfl (by rfl) ?_
 refine AWp.seq ?_
 refine AWp.seq ?_
 refine AWp.cut h (fun m5 : Bool => ([(2, (.ptr 1002 0 [])), (3, (.ptr 1003 0 [])), (4, (.ptr 1004 0 [])), (14, (bo m5))] : EL)) (fun m5 : Bool => ([(500, some (.know (globF 0 [50, 52, 133]))), (501, some (.know (globF 1 [71, 134, 135]))), (1002, some (.box 25 (.d (e_api_Resources a0)))), (1003, some (.box 25 (.d (e_api_Resources a1)))), (1004, some (.box 25 (.st [.nils, .nils])))] : OL)) (fun m5 h E' O' hmat => ?_) (fun j6 hjj6 h => ?_)
 ·refine seqQ_n ?_
  refine AWp.ghost hmat ?_
  refine AWp.cond rfl (fun hg7 => ?_) (fun hg7 => ?_)
  ·replace h := ite_t hg7 h
   refine sr (c (OpJ.build (places := [(0, 1), (1, 1)]) ⟨Tryz.underlying25, fun w => by kernel_rfl⟩ tyZS25 Opds.nil (by kernel_rfl) (r := (.st [.nils, .nils])) (by rfl) (L rfl)) rfl (cg (OpJ.storeB tyS25 (SetAt.here _ _) (by rfl) (by rfl) (by simp) rfl (q 4) (q 15)) rfl (c (OpJ.assign (L rfl) (Opd.int .i64 (1))) rfl cn))) ?_
   refine gh [(4, _), (5, _)] [(500, some _), (501, some _), (1004, some _)] hB rfl rfl (by rfl) ?_
   refine AWp.ret ?_
   refine seqQ_r ?_
   obtain rfl := Option.some.inj h
   exact ⟨.inl rfl, _, _, (Mat.trans (Mat.coeP (Ts := []) (Bs := [(1004, some (.box 25 (.d (.st [(.list 6 (([] : List api_Range).map e_api_Range)), (.list 2 (([] : List api_Span).map e_api_Span))]))))]) TwT.nil (TwB.cons (x := (.st [.nils, .nils])) (by rfl) (Tw.leaf ⟨_, (Co.st (CoL.cons (Co.nils 6) (CoL.cons (Co.nils 2) CoL.nil))), rfl⟩) TwB.nil)) (mp [] [(4, (.ptr 1004 0 [])), (5, (i6 1))] [(500, some (.know (globF 0 [50, 52, 133]))), (501, some (.know (globF 1 [71, 134, 135]))), (1004, some (.box 25 (.d (.st [(.list 6 (([] : List api_Range).map e_api_Range)), (.list 2 (([] : List api_Span).map e_api_Span))]))))] hB)), [(.d (.st [(.list 6 (([] : List api_Range).map e_api_Range)), (.list 2 (([] : List api_Span).map e_api_Span))])), (i6 1)], (Res.cell (c := (.d (.st [(.list 6 (([] : List api_Range).map e_api_Range)), (.list 2 (([] : List api_Span).map e_api_Span))]))) (by rfl) (by rfl) tyS25 (by rfl) (by rfl) (by rfl) (Res.tmp (by rfl) (by rfl) Res.nil)), rfl, by rfl, by rfl, by rfl⟩
  ·replace h := ite_f hg7 h
   refine AWp.skip ?_
   refine seqQ_n ?_
   obtain ⟨r8, hr8, h⟩ := bindS h
   refine sr (c (lb hN 25 _ _ tyS25 (At.here _) (q 2)) rfl (cg (cf hB fnOk29 (resource_of_ac a0 r8 hr8) (L rfl) (OpdL.cons (q 16) OpdL.nil)) rfl (cg (OpJ.alloc hB tyZ69 (nm := 1006) (by decide) (L rfl)) rfl (cg (OpJ.storeB tyS69 (SetAt.here _ _) (by rfl) (by rfl) (by simp) rfl (q 6) (q 17)) rfl cn)))) ?_
   refine gh [(3, _), (4, _), (6, _)] [(500, some _), (501, some _), (1003, some _), (1004, some _), (1006, some _)] hB rfl rfl (by rfl) ?_
   refine AWp.seq ?_
   obtain ⟨r9, hr9, h⟩ := bindS h
   obtain ⟨r10, hr10, h⟩ := bindS h
   obtain ⟨r11, hr11, h⟩ := bindS h
   obtain ⟨r12, hr12, h⟩ := bindS h
   refine AWp.draws (by kernel_rfl) (oc (lb hN 69 (.d (e_resource_set r8)) (.d (e_resource_set r8)) tyS69 (At.here _) (ot 6 (.ptr 1006 0 [])))
    (oc (lb hN 69 (.d (e_resource_set r8)) (.d (e_resource_set r8)) tyS69 (At.here _) (ot 6 (.ptr 1006 0 [])))
    (oc (lb hN 25 (.d (e_api_Resources a1)) (.d (e_api_Resources a1)) tyS25 (At.here _) (ot 3 (.ptr 1003 0 [])))
    (oc (cf hB fnOk29 (resource_of_ac a1 r9 hr9) (L rfl) (OpdL.cons (ot 20 (.d (e_api_Resources a1))) OpdL.nil))
    (oc (OpJ.callFn hB fnOk37 (resource_set_minus_ac r8 r9 r10 hr10) [(500, 500), (501, 501)] (by kernel_rfl) (L rfl) (by kernel_rfl) (OpdL.cons (ot 19 (.d (e_resource_set r8))) (OpdL.cons (ot 21 (.d (e_resource_set r9))) OpdL.nil)))
    (oc (OpJ.callFn hB fnOk37 (resource_set_minus_ac r8 r10 r11 hr11) [(500, 500), (501, 501)] (by kernel_rfl) (L rfl) (by kernel_rfl) (OpdL.cons (ot 18 (.d (e_resource_set r8))) (OpdL.cons (ot 22 (.d (e_resource_set r10))) OpdL.nil)))
    (oc (cf hB fnOk32 (resource_set_resources_ac r11 r12 hr12) (L rfl) (OpdL.cons (ot 23 (.d (e_resource_set r11))) OpdL.nil))
    (oc (OpJ.extract (v := (.d (e_api_Resources r12.1))) (by rfl) rfl (L rfl) (ot 24 (.tup [(.d (e_api_Resources r12.1)), (i6 r12.2)])))
    (oc (OpJ.extract (v := (i6 r12.2)) (by rfl) rfl (L rfl) (ot 24 (.tup [(.d (e_api_Resources r12.1)), (i6 r12.2)])))
    (oc (OpJ.storeB (bt := 25) (c := (.st [.nils, .nils])) (v := (.d (e_api_Resources r12.1))) (c' := (.d (e_api_Resources r12.1))) tyS25 (SetAt.here _ _) (by rfl) (by rfl) (by simp) rfl (ot 4 (.ptr 1004 0 [])) (ot 25 (.d (e_api_Resources r12.1))))
    (oc (OpJ.assign (L rfl) (ot 26 (i6 r12.2)))
    (OpJs.nil)))))))))))) (by kernel_rfl) (by rfl) (by rfl) ?_
   refine seqQ_n ?_
   refine AWp.ghost (mp [] [(4, (.ptr 1004 0 [])), (5, (i6 r12.2))] [(500, some (.know (globF 0 [50, 52, 133]))), (501, some (.know (globF 1 [71, 134, 135]))), (1004, some (.box 25 (.d (e_api_Resources r12.1))))] hB) ?_
   refine AWp.ret ?_
   obtain rfl := Option.some.inj h
   exact ⟨.inl rfl, _, _, (kp [(4, _), (5, _)] [(500, some _), (501, some _), (1004, some _)] hB rfl rfl (by rfl)), [(.d (e_api_Resources r12.1)), (i6 r12.2)], (Res.cell (c := (.d (e_api_Resources r12.1))) (by rfl) (by rfl) tyS25 (by rfl) (by rfl) (by rfl) (Res.tmp (by rfl) (by rfl) Res.nil)), rfl, by rfl, by rfl, by rfl⟩
 ·obtain ⟨r13, hr13, h⟩ := bindS h
  rcases Bool.eq_false_or_eq_true (!r13) with hg14 | hg14
  ·replace h := ite_t hg14 h
   refine AWp.region (oc (lb hN 25 (.d (e_api_Resources a0)) (.d (e_api_Resources a0)) tyS25 (At.here _) (ot 2 (.ptr 1002 0 [])))
    (oc (OpJ.callFn hB fnOk19 (resource_Valid_ac a0 r13 hr13) [(500, 500), (501, 501)] (by kernel_rfl) (L rfl) (by kernel_rfl) (OpdL.cons (ot 7 (.d (e_api_Resources a0))) OpdL.nil))
    (oc (OpJ.not (L rfl) (ot 8 (bo r13)))
    (oc (OpJ.val (v' := .d (.bool true)) (by rw [hg14] <;> rfl) (mv hN (ot 9 (bo (!r13)))))
    (oc (sU 10 (L rfl))
    (oc (sU 10 (L rfl))
    (oc (sU 10 (L rfl))
    (oc (OpJ.pickT (L rfl) (ot 10 (bo true)) (Opd.bool true))
    (OpJs.nil))))))))) (by rfl) (by rfl) ?_
   exact hjj6 _ h _ _ (Mat.trans (mp [] [(2, (.ptr 1002 0 [])), (3, (.ptr 1003 0 [])), (4, (.ptr 1004 0 [])), (14, (bo true))] [(500, some (.know (globF 0 [50, 52, 133]))), (501, some (.know (globF 1 [71, 134, 135]))), (1002, some (.box 25 (.d (e_api_Resources a0)))), (1003, some (.box 25 (.d (e_api_Resources a1)))), (1004, some (.box 25 (.st [.nils, .nils])))] hB) (mp [] _ _ hB))
  ·replace h := ite_f hg14 h
   obtain ⟨r15, hr15, h⟩ := bindS h
   refine AWp.region (oc (lb hN 25 (.d (e_api_Resources a0)) (.d (e_api_Resources a0)) tyS25 (At.here _) (ot 2 (.ptr 1002 0 [])))
    (oc (OpJ.callFn hB fnOk19 (resource_Valid_ac a0 r13 hr13) [(500, 500), (501, 501)] (by kernel_rfl) (L rfl) (by kernel_rfl) (OpdL.cons (ot 7 (.d (e_api_Resources a0))) OpdL.nil))
    (oc (OpJ.not (L rfl) (ot 8 (bo r13)))
    (oc (OpJ.val (v' := .d (.bool false)) (by rw [hg14] <;> rfl) (mv hN (ot 9 (bo (!r13)))))
    (oc (gd 10 (lb hN 25 (.d (e_api_Resources a1)) (.d (e_api_Resources a1)) tyS25 (At.here _) (ot 3 (.ptr 1003 0 []))))
    (oc (gd 10 (OpJ.callFn hB fnOk19 (resource_Valid_ac a1 r15 hr15) [(500, 500), (501, 501)] (by kernel_rfl) (L rfl) (by kernel_rfl) (OpdL.cons (ot 11 (.d (e_api_Resources a1))) OpdL.nil)))
    (oc (gd 10 (OpJ.not (L rfl) (ot 12 (bo r15))))
    (oc (OpJ.pickF (L rfl) (ot 10 (bo false)) (ot 13 (bo (!r15))))
    (OpJs.nil))))))))) (by rfl) (by rfl) ?_
   exact hjj6 _ h _ _ (Mat.trans (mp [] [(2, (.ptr 1002 0 [])), (3, (.ptr 1003 0 [])), (4, (.ptr 1004 0 [])), (14, (bo (!r15)))] [(500, some (.know (globF 0 [50, 52, 133]))), (501, some (.know (globF 1 [71, 134, 135]))), (1002, some (.box 25 (.d (e_api_Resources a0)))), (1003, some (.box 25 (.d (e_api_Resources a1)))), (1004, some (.box 25 (.st [.nils, .nils])))] hB) (mp [] _ _ hB))

noncomputable def resource_Minus (a0 : api_Resources) (a1 : api_Resources) : Option (api_Resources × Int) :=
 jn (fun m5 : Bool =>
 (if m5 = true then
 some ((api_Resources.mk ([] : List api_Range) ([] : List api_Span)), (1 : Int))
 else
 (resource_of a0).bind fun r8 =>
 (resource_of a1).bind fun r9 =>
 (resource_set_minus r8 r9).bind fun r10 =>
 (resource_set_resources r10).bind fun r11 =>
 some (r11.1, r11.2))) (fun j6 =>
 (resource_Valid a0).bind fun r12 =>
 (if (!r12) = true then
 j6 true
 else
 (resource_Valid a1).bind fun r14 =>
 j6 (!r14)))
theorem resource_Minus_ac (a0 : api_Resources) (a1 : api_Resources) (r : api_Resources × Int) (h : resource_Minus a0 a1 = some r) : AC Tryz.prog 14 [(.d (e_api_Resources a0)), (.d (e_api_Resources a1))] [(500, (.know (globF 0 [50, 52, 133]))), (501, (.know (globF 1 [71, 134, 135])))] (.tup [(.d (e_api_Resources r.1)), (.d (.int .i64 r.2))]) [(500, some (.know (globF 0 [50, 52, 133]))), (501, some (.know (globF 1 [71, 134, 135])))] := by
 refine AC.of_code2 Tryz.func14 rfl rfl (Nat.le_of_ble_eq_true (by rfl)) fun B hB hN => ?_
 have L {d : Nat} (h : Nat.blt d Tryz.f14.ntmps = true) : d < B.N := ltN hN h
 delta resource_Minus at h
 refine sr (cg (OpJ.box hB (nm := 1002) (by decide) (by simp) rfl (L rfl) (q 0)) rfl (cg (OpJ.box hB (nm := 1003) (by decide) (by simp) rfl (L rfl) (q 1)) rfl (cg (OpJ.alloc hB tyZ25 (nm := 1004) (by decide) (L rfl)) rfl (c (OpJ.assign (L rfl) (Opd.int .i64 (0))) rfl cn)))) ?_
 refine gh [(2, _), (3, _), (4, _)] [(500, some _), (501, some _), (1002, some _), (1003, some _), (1004, some _)] hB rfl rfl (by rfl) ?_
 refine AWp.seq ?_
 refine AWp.seq ?_
 refine AWp.cut h (fun m5 : Bool => ([(2, (.ptr 1002 0 [])), (3, (.ptr 1003 0 [])), (4, (.ptr 1004 0 [])), (13, (bo m5))] : EL)) (fun m5 : Bool => ([(500, some (.know (globF 0 [50, 52, 133]))), (501, some (.know (globF 1 [71, 134, 135]))), (1002, some (.box 25 (.d (e_api_Resources a0)))), (1003, some (.box 25 (.d (e_api_Resources a1)))), (1004, some (.box 25 (.st [.nils, .nils])))] : OL)) (fun m5 h E' O' hmat => ?_) (fun j6 hjj6 h => ?_)
 ·refine seqQ_n ?_
  refine AWp.ghost hmat ?_
  refine AWp.cond rfl (fun hg7 => ?_) (fun hg7 => ?_)
  ·replace h := ite_t hg7 h
   refine sr (c (OpJ.build (places := [(0, 1), (1, 1)]) ⟨Tryz.underlying25, fun w => by kernel_rfl⟩ tyZS25 Opds.nil (by kernel_rfl) (r := (.st [.nils, .nils])) (by rfl) (L rfl)) rfl (cg (OpJ.storeB tyS25 (SetAt.here _ _) (by rfl) (by rfl) (by simp) rfl (q 4) (q 14)) rfl (c (OpJ.assign (L rfl) (Opd.int .i64 (1))) rfl cn))) ?_
   refine gh [(4, _), (5, _)] [(500, some _), (501, some _), (1004, some _)] hB rfl rfl (by rfl) ?_
   refine AWp.ret ?_
   refine seqQ_r ?_
   obtain rfl := Option.some.inj h
   exact ⟨.inl rfl, _, _, (Mat.trans (Mat.coeP (Ts := []) (Bs := [(1004, some (.box 25 (.d (.st [(.list 6 (([] : List api_Range).map e_api_Range)), (.list 2 (([] : List api_Span).map e_api_Span))]))))]) TwT.nil (TwB.cons (x := (.st [.nils, .nils])) (by rfl) (Tw.leaf ⟨_, (Co.st (CoL.cons (Co.nils 6) (CoL.cons (Co.nils 2) CoL.nil))), rfl⟩) TwB.nil)) (mp [] [(4, (.ptr 1004 0 [])), (5, (i6 1))] [(500, some (.know (globF 0 [50, 52, 133]))), (501, some (.know (globF 1 [71, 134, 135]))), (1004, some (.box 25 (.d (.st [(.list 6 (([] : List api_Range).map e_api_Range)), (.list 2 (([] : List api_Span).map e_api_Span))]))))] hB)), [(.d (.st [(.list 6 (([] : List api_Range).map e_api_Range)), (.list 2 (([] : List api_Span).map e_api_Span))])), (i6 1)], (Res.cell (c := (.d (.st [(.list 6 (([] : List api_Range).map e_api_Range)), (.list 2 (([] : List api_Span).map e_api_Span))]))) (by rfl) (by rfl) tyS25 (by rfl) (by rfl) (by rfl) (Res.tmp (by rfl) (by rfl) Res.nil)), rfl, by rfl, by rfl, by rfl⟩
  ·replace h := ite_f hg7 h
   refine AWp.skip ?_
   refine seqQ_n ?_
   refine AWp.seq ?_
   obtain ⟨r8, hr8, h⟩ := bindS h
   obtain ⟨r9, hr9, h⟩ := bindS h
   obtain ⟨r10, hr10, h⟩ := bindS h
   obtain ⟨r11, hr11, h⟩ := bindS h
   refine AWp.draws (by kernel_rfl) (oc (lb hN 25 (.d (e_api_Resources a0)) (.d (e_api_Resources a0)) tyS25 (At.here _) (ot 2 (.ptr 1002 0 [])))
    (oc (cf hB fnOk29 (resource_of_ac a0 r8 hr8) (L rfl) (OpdL.cons (ot 15 (.d (e_api_Resources a0))) OpdL.nil))
    (oc (lb hN 25 (.d (e_api_Resources a1)) (.d (e_api_Resources a1)) tyS25 (At.here _) (ot 3 (.ptr 1003 0 [])))
    (oc (cf hB fnOk29 (resource_of_ac a1 r9 hr9) (L rfl) (OpdL.cons (ot 17 (.d (e_api_Resources a1))) OpdL.nil))
    (oc (OpJ.callFn hB fnOk37 (resource_set_minus_ac r8 r9 r10 hr10) [(500, 500), (501, 501)] (by kernel_rfl) (L rfl) (by kernel_rfl) (OpdL.cons (ot 16 (.d (e_resource_set r8))) (OpdL.cons (ot 18 (.d (e_resource_set r9))) OpdL.nil)))
    (oc (cf hB fnOk32 (resource_set_resources_ac r10 r11 hr11) (L rfl) (OpdL.cons (ot 19 (.d (e_resource_set r10))) OpdL.nil))
    (oc (OpJ.extract (v := (.d (e_api_Resources r11.1))) (by rfl) rfl (L rfl) (ot 20 (.tup [(.d (e_api_Resources r11.1)), (i6 r11.2)])))
    (oc (OpJ.extract (v := (i6 r11.2)) (by rfl) rfl (L rfl) (ot 20 (.tup [(.d (e_api_Resources r11.1)), (i6 r11.2)])))
    (oc (OpJ.storeB (bt := 25) (c := (.st [.nils, .nils])) (v := (.d (e_api_Resources r11.1))) (c' := (.d (e_api_Resources r11.1))) tyS25 (SetAt.here _ _) (by rfl) (by rfl) (by simp) rfl (ot 4 (.ptr 1004 0 [])) (ot 21 (.d (e_api_Resources r11.1))))
    (oc (OpJ.assign (L rfl) (ot 22 (i6 r11.2)))
    (OpJs.nil))))))))))) (by kernel_rfl) (by rfl) (by rfl) ?_
   refine seqQ_n ?_
   refine AWp.ghost (mp [] [(4, (.ptr 1004 0 [])), (5, (i6 r11.2))] [(500, some (.know (globF 0 [50, 52, 133]))), (501, some (.know (globF 1 [71, 134, 135]))), (1004, some (.box 25 (.d (e_api_Resources r11.1))))] hB) ?_
   refine AWp.ret ?_
   obtain rfl := Option.some.inj h
   exact ⟨.inl rfl, _, _, (kp [(4, _), (5, _)] [(500, some _), (501, some _), (1004, some _)] hB rfl rfl (by rfl)), [(.d (e_api_Resources r11.1)), (i6 r11.2)], (Res.cell (c := (.d (e_api_Resources r11.1))) (by rfl) (by rfl) tyS25 (by rfl) (by rfl) (by rfl) (Res.tmp (by rfl) (by rfl) Res.nil)), rfl, by rfl, by rfl, by rfl⟩
 ·obtain ⟨r12, hr12, h⟩ := bindS h
  rcases Bool.eq_false_or_eq_true (!r12) with hg13 | hg13
  ·replace h := ite_t hg13 h
   refine AWp.region (oc (lb hN 25 (.d (e_api_Resources a0)) (.d (e_api_Resources a0)) tyS25 (At.here _) (ot 2 (.ptr 1002 0 [])))
    (oc (OpJ.callFn hB fnOk19 (resource_Valid_ac a0 r12 hr12) [(500, 500), (501, 501)] (by kernel_rfl) (L rfl) (by kernel_rfl) (OpdL.cons (ot 6 (.d (e_api_Resources a0))) OpdL.nil))
    (oc (OpJ.not (L rfl) (ot 7 (bo r12)))
    (oc (OpJ.val (v' := .d (.bool true)) (by rw [hg13] <;> rfl) (mv hN (ot 8 (bo (!r12)))))
    (oc (sU 9 (L rfl))
    (oc (sU 9 (L rfl))
    (oc (sU 9 (L rfl))
    (oc (OpJ.pickT (L rfl) (ot 9 (bo true)) (Opd.bool true))
    (OpJs.nil))))))))) (by rfl) (by rfl) ?_
   exact hjj6 _ h _ _ (Mat.trans (mp [] [(2, (.ptr 1002 0 [])), (3, (.ptr 1003 0 [])), (4, (.ptr 1004 0 [])), (13, (bo true))] [(500, some (.know (globF 0 [50, 52, 133]))), (501, some (.know (globF 1 [71, 134, 135]))), (1002, some (.box 25 (.d (e_api_Resources a0)))), (1003, some (.box 25 (.d (e_api_Resources a1)))), (1004, some (.box 25 (.st [.nils, .nils])))] hB) (mp [] _ _ hB))
  ·replace h := ite_f hg13 h
   obtain ⟨r14, hr14, h⟩ := bindS h
   refine AWp.region (oc (lb hN 25 (.d (e_api_Resources a0)) (.d (e_api_Resources a0)) tyS25 (At.here _) (ot 2 (.ptr 1002 0 [])))
    (oc (OpJ.callFn hB fnOk19 (resource_Valid_ac a0 r12 hr12) [(500, 500), (501, 501)] (by kernel_rfl) (L rfl) (by kernel_rfl) (OpdL.cons (ot 6 (.d (e_api_Resources a0))) OpdL.nil))
    (oc (OpJ.not (L rfl) (ot 7 (bo r12)))
    (oc (OpJ.val (v' := .d (.bool false)) (by rw [hg13] <;> rfl) (mv hN (ot 8 (bo (!r12)))))
    (oc (gd 9 (lb hN 25 (.d (e_api_Resources a1)) (.d (e_api_Resources a1)) tyS25 (At.here _) (ot 3 (.ptr 1003 0 []))))
    (oc (gd 9 (OpJ.callFn hB fnOk19 (resource_Valid_ac a1 r14 hr14) [(500, 500), (501, 501)] (by kernel_rfl) (L rfl) (by kernel_rfl) (OpdL.cons (ot 10 (.d (e_api_Resources a1))) OpdL.nil)))
    (oc (gd 9 (OpJ.not (L rfl) (ot 11 (bo r14))))
    (oc (OpJ.pickF (L rfl) (ot 9 (bo false)) (ot 12 (bo (!r14))))
    (OpJs.nil))))))))) (by rfl) (by rfl) ?_
   exact hjj6 _ h _ _ (Mat.trans (mp [] [(2, (.ptr 1002 0 [])), (3, (.ptr 1003 0 [])), (4, (.ptr 1004 0 [])), (13, (bo (!r14)))] [(500, some (.know (globF 0 [50, 52, 133]))), (501, some (.know (globF 1 [71, 134, 135]))), (1002, some (.box 25 (.d (e_api_Resources a0)))), (1003, some (.box 25 (.d (e_api_Resources a1)))), (1004, some (.box 25 (.st [.nils, .nils])))] hB) (mp [] _ _ hB))


end Go.Proofs.YtgcilleccigmdaaGreatDoor
