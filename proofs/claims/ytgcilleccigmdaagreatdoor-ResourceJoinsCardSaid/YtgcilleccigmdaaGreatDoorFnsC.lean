/- Printed by gen.py: the Go functions as plain functions, and that the code does what they say. -/
import Derived.Test.YtgcilleccigmdaaGreatDoorChecked
import Derived.Test.YtgcilleccigmdaaGreatDoorVcYB
import Derived.Test.YtgcilleccigmdaaGreatDoorVcZ
import Derived.KernelRfl
import Derived.Test.YtgcilleccigmdaaGreatDoorVcMD
import Derived.Test.YtgcilleccigmdaaGreatDoorVcMQ
import Derived.Test.YtgcilleccigmdaaGreatDoorVcSG
import Derived.Test.YtgcilleccigmdaaGreatDoorFnsB
import Derived.Test.YtgcilleccigmdaaGreatDoorExt
import Derived.Test.YtgcilleccigmdaaGreatDoorVcGl
import Derived.Test.YtgcilleccigmdaaGreatDoorVcSO
import Derived.Test.YtgcilleccigmdaaGreatDoorVcWS
namespace Go.Proofs.YtgcilleccigmdaaGreatDoor
open Go Go.Vc
open Tryz
set_option maxHeartbeats 4000000
set_option maxRecDepth 100000
noncomputable def exchangepointlaw21_bent (a0 : api_Resources) (a1 : Int) (a2 : Int) : Option (api_Resources) :=
 chk (decide (a0.fAddrs.length ≤ LIM)) <|
 chk (decide (a0.fASNs.length ≤ LIM)) <|
 jn (fun m24 : (List api_Range) =>
 jn (fun m42 : (List api_Span) =>
 some (api_Resources.mk m24 m42)) (fun j43 =>
 (if (decide ((0 : Int) < (a0.fASNs.length : Int))) = true then
 (exchangepointmake_Mod a2 (a0.fASNs.length : Int)).bind fun r45 =>
 (idx a0.fASNs r45).bind fun x46 =>
 (exchangepointmake_Mod a1 (8 : Int)).bind fun r47 =>
 (if (r47 == (4 : Int)) = true then
 (exchangepointmake_Mod a2 (3 : Int)).bind fun r49 =>
 (idx ([(-1 : Int), (0 : Int), (4294967296 : Int)] : List Int) r49).bind fun x50 =>
 (idx a0.fASNs r45).bind fun x51 =>
 j43 (a0.fASNs.set r45.toNat (api_Span.mk x50 x51.fTo))
 else
 (if (r47 == (5 : Int)) = true then
 (exchangepointmake_Mod a2 (3 : Int)).bind fun r53 =>
 (idx ([(-1 : Int), (4294967295 : Int), (4294967296 : Int)] : List Int) r53).bind fun x54 =>
 (idx a0.fASNs r45).bind fun x55 =>
 j43 (a0.fASNs.set r45.toNat (api_Span.mk x55.fFrom x54))
 else
 (if (r47 == (6 : Int)) = true then
 (idx a0.fASNs r45).bind fun x57 =>
 (idx a0.fASNs r45).bind fun x58 =>
 chk (decide ((a0.fASNs ++ ([(api_Span.mk (w64 (x57.fTo + (1 : Int))) (w64 (x58.fTo + (1 : Int))))] : List api_Span)).length ≤ LIM)) <|
 j43 (a0.fASNs ++ ([(api_Span.mk (w64 (x57.fTo + (1 : Int))) (w64 (x58.fTo + (1 : Int))))] : List api_Span))
 else
 j43 a0.fASNs)))
 else
 j43 a0.fASNs))) (fun j25 =>
 (if (decide ((0 : Int) < (a0.fAddrs.length : Int))) = true then
 (exchangepointmake_Mod a2 (a0.fAddrs.length : Int)).bind fun r61 =>
 (idx a0.fAddrs r61).bind fun x62 =>
 (exchangepointmake_Mod a1 (8 : Int)).bind fun r63 =>
 (if (r63 == (0 : Int)) = true then
 (idx a0.fAddrs r61).bind fun x65 =>
 (idx a0.fAddrs r61).bind fun x66 =>
 (idx a0.fAddrs r61).bind fun x67 =>
 (idx (a0.fAddrs.set r61.toNat (api_Range.mk x65.fTo x67.fTo)) r61).bind fun x68 =>
 j25 ((a0.fAddrs.set r61.toNat (api_Range.mk x65.fTo x67.fTo)).set r61.toNat (api_Range.mk x68.fFrom x66.fFrom))
 else
 (if (r63 == (1 : Int)) = true then
 (idx a0.fAddrs r61).bind fun x70 =>
 (exchangepointref01_Next x70.fTo).bind fun r71 =>
 (idx a0.fAddrs r61).bind fun x72 =>
 j25 (a0.fAddrs.set r61.toNat (api_Range.mk x72.fFrom r71.1))
 else
 (if (r63 == (2 : Int)) = true then
 (idx a0.fAddrs r61).bind fun x74 =>
 (idx a0.fAddrs r61).bind fun x75 =>
 j25 (a0.fAddrs.set r61.toNat (api_Range.mk (api_Addr.mk (!x74.fFrom.fV6) x75.fFrom.fHi x75.fFrom.fLo) x75.fTo))
 else
 (if (r63 == (3 : Int)) = true then
 (idx a0.fAddrs r61).bind fun x77 =>
 (exchangepointref01_Next x77.fTo).bind fun r78 =>
 (if r78.2 = true then
 chk (decide ((a0.fAddrs ++ ([(api_Range.mk r78.1 r78.1)] : List api_Range)).length ≤ LIM)) <|
 j25 (a0.fAddrs ++ ([(api_Range.mk r78.1 r78.1)] : List api_Range))
 else
 j25 a0.fAddrs)
 else
 j25 a0.fAddrs))))
 else
 j25 a0.fAddrs))
theorem exchangepointlaw21_bent_ac (a0 : api_Resources) (a1 : Int) (a2 : Int) (r : api_Resources) (h : exchangepointlaw21_bent a0 a1 a2 = some r) : AC Tryz.prog 9 [(.d (e_api_Resources a0)), (.d (.int .i64 a1)), (.d (.int .i64 a2))] [] (.d (e_api_Resources r)) [] := by
 refine AC.of_code2 Tryz.func9 rfl rfl (Nat.le_of_ble_eq_true (by rfl)) fun B hB hN => ?_
 have L {d : Nat} (h : Nat.blt d Tryz.f9.ntmps = true) : d < B.N := ltN hN h
 delta exchangepointlaw21_bent at h
 refine sr (cg (OpJ.box hB (nm := 1003) (by decide) (by simp) rfl (L rfl) (q 0)) rfl (cg (OpJ.alloc hB tyZ25 (nm := 1006) (by decide) (L rfl)) rfl cn)) ?_
 obtain ⟨hc1, h⟩ := chk_some h
 obtain ⟨hc2, h⟩ := chk_some h
 refine sd (c (fo 1003 0 [0] hN underlying25 0 tyS22 (q 3)) rfl (c (la hN 25 tyS22 (q 11)) rfl (cg (OpJ.appendN hB underlying22 tyE46 (nm := 1013) (by decide) (ys := a0.fAddrs.map e_api_Range) (len := a0.fAddrs.length) (by simp) (map_sz (f := e_api_Range) (fun _ => rfl)) (by rw [List.length_map]; exact lim_mulN hc1 (by decide)) (by rw [List.length_map]; exact lim_leN hc1) (L rfl) Opd.nils (q 12)) rfl (c (fo 1003 1 [1] hN underlying25 1 tyS23 (q 3)) rfl (c (la hN 25 tyS23 (q 14)) rfl (cg (OpJ.appendN hB underlying23 tyE62 (nm := 1016) (by decide) (ys := a0.fASNs.map e_api_Span) (len := a0.fASNs.length) (by simp) (map_sz (f := e_api_Span) (fun _ => rfl)) (by rw [List.length_map]; exact lim_mulN hc2 (by decide)) (by rw [List.length_map]; exact lim_leN hc2) (L rfl) Opd.nils (q 15)) rfl (c (fo 1003 0 [0] hN underlying25 0 tyS22 (q 3)) rfl (cg (OpJ.storeB (c' := (.st [(.sref 1013 6 0 a0.fAddrs.length), (qe_api_Span_2 a0.fASNs)])) tyS22 (SetAt.lift (fs := [(.list 6 (a0.fAddrs.map e_api_Range)), (.list 2 (a0.fASNs.map e_api_Span))]) (SetAt.st1 (by rfl) (by rfl) (SetAt.here _ _) (by rfl) (by rfl) (by first | rfl | omega))) (by rfl) (by rfl) (by simp) rfl (q 17) (q 13)) rfl (c (fo 1003 1 [1] hN underlying25 1 tyS23 (q 3)) rfl (cg (OpJ.storeB (c' := (.st [(.sref 1013 6 0 a0.fAddrs.length), (.sref 1016 2 0 a0.fASNs.length)])) tyS23 (SetAt.st1 (f := (qe_api_Span_2 a0.fASNs)) (by rfl) (by rfl) (SetAt.here _ _) (by rfl) (by rfl) (by first | rfl | omega)) (by rfl) (by rfl) (by simp) rfl (q 18) (q 16)) rfl cn)))))))))) (by kernel_rfl) (by kernel_rfl) ?_
 apply AWp.seq
 refine sr (c (fo 1003 0 [0] hN underlying25 0 tyS22 (q 3)) rfl (c (lb hN 25 _ (.sref 1013 6 0 a0.fAddrs.length) tyS22 (At.st1 (f := (.sref 1013 6 0 a0.fAddrs.length)) (by rfl) (by rfl) (At.here _) (by first | rfl | omega)) (q 19)) rfl (c (OpJ.lenS underlying22 (L rfl) (q 20)) rfl (c (OpJ.gtr (L rfl) (q 21) (Opd.int .i64 (0))) rfl cn)))) ?_
 refine gh [(1, _), (2, _), (3, _), (6, _), (22, _)] [(1003, some _), (1006, some _), (1013, some _), (1016, some _)] hB rfl rfl (by rfl) ?_
 refine AWp.cut h (fun m24 : (List api_Range) => ([(1, (i6 a1)), (2, (i6 a2)), (3, (pt 1003)), (6, (pt 1006))] : EL)) (fun m24 : (List api_Range) => ([(1003, some (.box 25 (.st [(.sref 13030 6 0 m24.length), (.sref 1016 2 0 a0.fASNs.length)]))), (1006, some (.box 25 (.st [.nils, .nils]))), (1016, some (we_api_Span_62_2 a0.fASNs)), (13030, some (we_api_Range_46_6 m24))] : OL)) (fun m24 h E' O' hmat => ?_) (fun j25 hjj25 h => ?_)
 ·apply seqQ_n
  refine AWp.ghost hmat ?_
  apply AWp.seq
  refine sr (c (fo 1003 1 [1] hN underlying25 1 tyS23 (q 3)) rfl (c (lb hN 25 _ (.sref 1016 2 0 a0.fASNs.length) tyS23 (At.st1 (f := (.sref 1016 2 0 a0.fASNs.length)) (by rfl) (by rfl) (At.here _) (by first | rfl | omega)) (q 93)) rfl (c (OpJ.lenS underlying23 (L rfl) (q 94)) rfl (c (OpJ.gtr (L rfl) (q 95) (Opd.int .i64 (0))) rfl cn)))) ?_
  refine gh [(1, _), (2, _), (3, _), (6, _), (96, _)] [(1003, some _), (1006, some _), (1016, some _), (13030, some _)] hB rfl rfl (by rfl) ?_
  refine AWp.cut h (fun m42 : (List api_Span) => ([(3, (pt 1003)), (6, (pt 1006))] : EL)) (fun m42 : (List api_Span) => ([(1003, some (.box 25 (.st [(.sref 13030 6 0 m24.length), (.sref 13031 2 0 m42.length)]))), (1006, some (.box 25 (.st [.nils, .nils]))), (13030, some (we_api_Range_46_6 m24)), (13031, some (we_api_Span_62_2 m42))] : OL)) (fun m42 h E' O' hmat => ?_) (fun j43 hjj43 h => ?_)
  ·apply seqQ_n
   refine AWp.ghost hmat ?_
   refine sr (c (lb hN 25 _ _ tyS25 (At.here _) (q 3)) rfl (cg (sB tyS25 (q 6) (q 145)) rfl cn)) ?_
   apply AWp.ret
   obtain rfl := Option.some.inj h
   exact ⟨.inl rfl, _, _, (Mat.trans (Mat.freezeP (n := 13030) (e := 46) (sz := 6) (es := m24.map e_api_Range) (Ts := []) (Bs := [(1006, some (.box 25 (.st [(qe_api_Range_6 m24), (.sref 13031 2 0 m42.length)])))]) (by rfl) TwT.nil (TwB.cons (x := (.st [(.sref 13030 6 0 m24.length), (.sref 13031 2 0 m42.length)])) (by rfl) (Tw.st (TwL.cons (FrzL.all (by first | rfl | (simp; done) | (simp; omega) | omega)) (TwL.cons (Tw.same _) TwL.nil))) TwB.nil)) (Mat.trans (Mat.freezeP (n := 13031) (e := 62) (sz := 2) (es := m42.map e_api_Span) (Ts := []) (Bs := [(1006, some (.box 25 (.st [(qe_api_Range_6 m24), (qe_api_Span_2 m42)])))]) (by rfl) TwT.nil (TwB.cons (x := (.st [(qe_api_Range_6 m24), (.sref 13031 2 0 m42.length)])) (by rfl) (Tw.st (TwL.cons (Tw.same _) (TwL.cons (FrzL.all (by first | rfl | (simp; done) | (simp; omega) | omega)) TwL.nil))) TwB.nil)) (Mat.trans (Mat.coeP (Ts := []) (Bs := [(1006, bd 25 (.st [(.list 6 (m24.map e_api_Range)), (.list 2 (m42.map e_api_Span))]))]) TwT.nil (TwB.cons (x := (.st [(qe_api_Range_6 m24), (qe_api_Span_2 m42)])) (by rfl) (Tw.leaf ⟨_, (Co.st (CoL.cons (Co.d _) (CoL.cons (Co.d _) CoL.nil))), rfl⟩) TwB.nil)) (mp [] [(6, (pt 1006))] [(1006, bd 25 (.st [(.list 6 (m24.map e_api_Range)), (.list 2 (m42.map e_api_Span))]))] hB)))), [(.d (.st [(.list 6 (m24.map e_api_Range)), (.list 2 (m42.map e_api_Span))]))], (Res.cell (c := (.d (.st [(.list 6 (m24.map e_api_Range)), (.list 2 (m42.map e_api_Span))]))) (by rfl) (by rfl) tyS25 (by rfl) (by rfl) (by rfl) Res.nil), rfl, by rfl, by rfl, by rfl⟩
  ·refine AWp.cond rfl (fun hg44 => ?_) (fun hg44 => ?_)
   ·replace h := ite_t hg44 h
    obtain ⟨r45, hr45, h⟩ := bindS h
    obtain ⟨x46, hx46, h⟩ := bindS h
    refine sd (c (fo 1003 1 [1] hN underlying25 1 tyS23 (q 3)) rfl (c (lb hN 25 _ (.sref 1016 2 0 a0.fASNs.length) tyS23 (At.st1 (f := (.sref 1016 2 0 a0.fASNs.length)) (by rfl) (by rfl) (At.here _) (by first | rfl | omega)) (q 97)) rfl (c (mv hN (q 2)) rfl (c (fo 1003 1 [1] hN underlying25 1 tyS23 (q 3)) rfl (c (lb hN 25 _ (.sref 1016 2 0 a0.fASNs.length) tyS23 (At.st1 (f := (.sref 1016 2 0 a0.fASNs.length)) (by rfl) (by rfl) (At.here _) (by first | rfl | omega)) (q 100)) rfl (c (OpJ.lenS underlying23 (L rfl) (q 101)) rfl (cg (cf hB fnOk23 (exchangepointmake_Mod_ac a2 (a0.fASNs.length : Int) r45 hr45) (L rfl) (OpdL.cons (q 99) (OpdL.cons (q 102) OpdL.nil))) rfl (c (OpJ.val (v' := (.ptr 1016 (r45.toNat * 2) [r45.toNat])) (by simp) (OpJ.indexS underlying23 tyS62 (idx_some hx46).1 (by have := idx_lt hx46; first | (simpa using this) | ((try simp only [List.length_map] at this); (try simp only [List.length_map]); omega)) (L rfl) (q 98) (q 103))) rfl (c (OpJ.assign (L rfl) (q 104)) rfl cn))))))))) (by kernel_rfl) (by kernel_rfl) ?_
    obtain ⟨r47, hr47, h⟩ := bindS h
    refine sr (c (mv hN (q 1)) rfl (cg (cf hB fnOk23 (exchangepointmake_Mod_ac a1 (8 : Int) r47 hr47) (L rfl) (OpdL.cons (q 105) (OpdL.cons (Opd.int .i64 (8)) OpdL.nil))) rfl cn)) ?_
    apply AWp.block
    refine sr (c (OpJ.eqlI (L rfl) (q 106) (Opd.int .i64 (4))) rfl (c (OpJ.assign (L rfl) (q 108)) rfl cn)) ?_
    refine AWp.cond rfl (fun hg48 => ?_) (fun hg48 => ?_)
    ·replace h := ite_t hg48 h
     obtain ⟨r49, hr49, h⟩ := bindS h
     obtain ⟨x50, hx50, h⟩ := bindS h
     obtain ⟨x51, hx51, h⟩ := bindS h
     refine rg (c (mv hN (q 10)) rfl (c (OpJ.buildSlice underlying26 tyS3 tyZD3 (by rfl) (by decide) (by decide) (Opds.cons (Opd.int .i64 (-1)) (Opds.cons (Opd.int .i64 (0)) (Opds.cons (Opd.int .i64 (4294967296)) Opds.nil))) (by kernel_rfl) (es := ([(.int .i64 (-1 : Int)), (.int .i64 0), (.int .i64 (4294967296 : Int))] : List D)) (by rfl) (by rfl) (by kernel_rfl) (by simp) (L rfl)) rfl (c (mv hN (q 2)) rfl (cg (cf hB fnOk23 (exchangepointmake_Mod_ac a2 (3 : Int) r49 hr49) (L rfl) (OpdL.cons (q 111) (OpdL.cons (Opd.int .i64 (3)) OpdL.nil))) rfl (c (OpJ.indexD underlying26 tyS3 (idx_some hx50).1 (get_map (eI .i64) (idx_some hx50).2) (L rfl) (q 110) (q 112)) rfl (c (OpJ.loadD tyS3 (by rfl) (by rfl) (L rfl) (q 113)) rfl (c (OpJ.nilP (L rfl) (q 109)) rfl (c (ov (.ptr 1016 ((r45.toNat * 2) + 0) [r45.toNat, 0]) (fp hN underlying62 0 tyS3 _ (q 115))) rfl (cg (OpJ.storeR (e := 62) (sz := 2) (es' := (a0.fASNs.set r45.toNat (api_Span.mk x50 x51.fTo)).map e_api_Span) tyS3 (get_map e_api_Span (idx_some hx51).2) (o := 0) (SetAt.dst1 (by rfl) (by rfl) (SetAt.here _ _) (by rfl) (by rfl) (by first | rfl | omega)) (by rfl) (map_set _ _ _ _) (by rfl) (by rfl) (q 116) (q 114)) rfl cn))))))))) ?_
     apply blkQ_n
     exact hjj43 _ h _ _ (Mat.trans (mp [] [(3, (pt 1003)), (6, (pt 1006))] [(1003, some (.box 25 (.st [(.sref 13030 6 0 m24.length), (.sref 1016 2 0 a0.fASNs.length)]))), (1006, some (.box 25 (.st [.nils, .nils]))), (1016, some (we_api_Span_62_2 (a0.fASNs.set r45.toNat (api_Span.mk x50 x51.fTo)))), (13030, some (we_api_Range_46_6 m24))] hB) (Mat.trans (Mat.lenP (Ts := []) (Bs := [(1003, some (.box 25 (.st [(.sref 13030 6 0 m24.length), (.sref 1016 2 0 ((a0.fASNs.set r45.toNat (api_Span.mk x50 x51.fTo)).length))])))]) TwT.nil (TwB.cons (x := (.st [(.sref 13030 6 0 m24.length), (.sref 1016 2 0 a0.fASNs.length)])) (by rfl) (Tw.st (TwL.cons (Tw.same _) (TwL.cons (Tw.leaf ⟨_, _, _, _, _, rfl, rfl, (by first | rfl | (simp; done) | (simp; omega) | omega)⟩) TwL.nil))) TwB.nil)) (mp [(13031, 1016)] _ _ hB)))
    ·replace h := ite_f hg48 h
     refine sr (c (OpJ.eqlI (L rfl) (q 106) (Opd.int .i64 (5))) rfl (c (OpJ.assign (L rfl) (q 118)) rfl cn)) ?_
     refine AWp.cond rfl (fun hg52 => ?_) (fun hg52 => ?_)
     ·replace h := ite_t hg52 h
      obtain ⟨r53, hr53, h⟩ := bindS h
      obtain ⟨x54, hx54, h⟩ := bindS h
      obtain ⟨x55, hx55, h⟩ := bindS h
      refine rg (c (mv hN (q 10)) rfl (c (OpJ.buildSlice underlying26 tyS3 tyZD3 (by rfl) (by decide) (by decide) (Opds.cons (Opd.int .i64 (-1)) (Opds.cons (Opd.int .i64 (4294967295)) (Opds.cons (Opd.int .i64 (4294967296)) Opds.nil))) (by kernel_rfl) (es := ([(.int .i64 (-1 : Int)), (.int .i64 (4294967295 : Int)), (.int .i64 (4294967296 : Int))] : List D)) (by rfl) (by rfl) (by kernel_rfl) (by simp) (L rfl)) rfl (c (mv hN (q 2)) rfl (cg (cf hB fnOk23 (exchangepointmake_Mod_ac a2 (3 : Int) r53 hr53) (L rfl) (OpdL.cons (q 121) (OpdL.cons (Opd.int .i64 (3)) OpdL.nil))) rfl (c (OpJ.indexD underlying26 tyS3 (idx_some hx54).1 (get_map (eI .i64) (idx_some hx54).2) (L rfl) (q 120) (q 122)) rfl (c (OpJ.loadD tyS3 (by rfl) (by rfl) (L rfl) (q 123)) rfl (c (OpJ.nilP (L rfl) (q 119)) rfl (c (ov (.ptr 1016 ((r45.toNat * 2) + 1) [r45.toNat, 1]) (fp hN underlying62 1 tyS3 _ (q 125))) rfl (cg (OpJ.storeR (e := 62) (sz := 2) (es' := (a0.fASNs.set r45.toNat (api_Span.mk x55.fFrom x54)).map e_api_Span) tyS3 (get_map e_api_Span (idx_some hx55).2) (o := 1) (SetAt.dst1 (by rfl) (by rfl) (SetAt.here _ _) (by rfl) (by rfl) (by first | rfl | omega)) (by rfl) (map_set _ _ _ _) (by rfl) (by rfl) (q 126) (q 124)) rfl cn))))))))) ?_
      apply blkQ_n
      exact hjj43 _ h _ _ (Mat.trans (mp [] [(3, (pt 1003)), (6, (pt 1006))] [(1003, some (.box 25 (.st [(.sref 13030 6 0 m24.length), (.sref 1016 2 0 a0.fASNs.length)]))), (1006, some (.box 25 (.st [.nils, .nils]))), (1016, some (we_api_Span_62_2 (a0.fASNs.set r45.toNat (api_Span.mk x55.fFrom x54)))), (13030, some (we_api_Range_46_6 m24))] hB) (Mat.trans (Mat.lenP (Ts := []) (Bs := [(1003, some (.box 25 (.st [(.sref 13030 6 0 m24.length), (.sref 1016 2 0 ((a0.fASNs.set r45.toNat (api_Span.mk x55.fFrom x54)).length))])))]) TwT.nil (TwB.cons (x := (.st [(.sref 13030 6 0 m24.length), (.sref 1016 2 0 a0.fASNs.length)])) (by rfl) (Tw.st (TwL.cons (Tw.same _) (TwL.cons (Tw.leaf ⟨_, _, _, _, _, rfl, rfl, (by first | rfl | (simp; done) | (simp; omega) | omega)⟩) TwL.nil))) TwB.nil)) (mp [(13031, 1016)] _ _ hB)))
     ·replace h := ite_f hg52 h
      refine sr (c (OpJ.eqlI (L rfl) (q 106) (Opd.int .i64 (6))) rfl (c (OpJ.assign (L rfl) (q 128)) rfl cn)) ?_
      refine AWp.cond rfl (fun hg56 => ?_) (fun hg56 => ?_)
      ·replace h := ite_t hg56 h
       obtain ⟨x57, hx57, h⟩ := bindS h
       obtain ⟨x58, hx58, h⟩ := bindS h
       obtain ⟨hc59, h⟩ := chk_some h
       refine dr (c (fo 1003 1 [1] hN underlying25 1 tyS23 (q 3)) rfl (c (lb hN 25 _ (.sref 1016 2 0 a0.fASNs.length) tyS23 (At.st1 (f := (.sref 1016 2 0 a0.fASNs.length)) (by rfl) (by rfl) (At.here _) (by first | rfl | omega)) (q 129)) rfl (c (mv hN (q 10)) rfl (c (OpJ.nilP (L rfl) (q 131)) rfl (c (ov (.ptr 1016 ((r45.toNat * 2) + 1) [r45.toNat, 1]) (fp hN underlying62 1 tyS3 _ (q 132))) rfl (c (OpJ.loadR (e := 62) (sz := 2) tyS3 (get_map e_api_Span (idx_some hx57).2) (o := 1) (ad _) (by rfl) (by rfl) (by rfl) (L rfl) (q 133)) rfl (c (add6 (L rfl) (q 134) (Opd.int .i64 (1))) rfl (c (mv hN (q 10)) rfl (c (OpJ.nilP (L rfl) (q 136)) rfl (c (ov (.ptr 1016 ((r45.toNat * 2) + 1) [r45.toNat, 1]) (fp hN underlying62 1 tyS3 _ (q 137))) rfl (c (OpJ.loadR (e := 62) (sz := 2) tyS3 (get_map e_api_Span (idx_some hx58).2) (o := 1) (ad _) (by rfl) (by rfl) (by rfl) (L rfl) (q 138)) rfl (c (add6 (L rfl) (q 139) (Opd.int .i64 (1))) rfl (c (OpJ.coe (v := (.st [(i6 (w64 (x57.fTo + (1 : Int)))), (i6 (w64 (x58.fTo + (1 : Int))))])) (y := (.st [(.int .i64 (w64 (x57.fTo + (1 : Int)))), (.int .i64 (w64 (x58.fTo + (1 : Int))))])) (Co.st (CoL.cons (Co.d _) (CoL.cons (Co.d _) CoL.nil))) rfl (OpJ.build (places := [(0, 1), (1, 1)]) ⟨underlying62, fun w => by kernel_rfl⟩ tyZS62 (Opds.cons (q 135) (Opds.cons (q 140) Opds.nil)) (by kernel_rfl) (r := (.st [(i6 (w64 (x57.fTo + (1 : Int)))), (i6 (w64 (x58.fTo + (1 : Int))))])) (by rfl) (L rfl))) rfl (c (OpJ.buildSlice underlying23 tyS62 tyZD62 (by rfl) (by decide) (by decide) (Opds.cons (q 141) Opds.nil) (by kernel_rfl) (es := ([(.st [(.int .i64 (w64 (x57.fTo + (1 : Int)))), (.int .i64 (w64 (x58.fTo + (1 : Int))))])] : List D)) (by rfl) (by rfl) (by kernel_rfl) (by simp) (L rfl)) rfl (cg (apd hB underlying23 tyE62 1143 e_api_Span a0.fASNs ([(api_Span.mk (w64 (x57.fTo + (1 : Int))) (w64 (x58.fTo + (1 : Int))))] : List api_Span) hc59 (L rfl) (q 130) (q 142)) rfl (c (fo 1003 1 [1] hN underlying25 1 tyS23 (q 3)) rfl (cg (OpJ.storeB (c' := (.st [(.sref 13030 6 0 m24.length), (.sref 1143 2 0 ((a0.fASNs ++ ([(api_Span.mk (w64 (x57.fTo + (1 : Int))) (w64 (x58.fTo + (1 : Int))))] : List api_Span)).length))])) tyS23 (SetAt.st1 (f := (.sref 1016 2 0 a0.fASNs.length)) (by rfl) (by rfl) (SetAt.here _ _) (by rfl) (by rfl) (by first | rfl | omega)) (by rfl) (by rfl) (by simp) rfl (q 144) (q 143)) rfl cn))))))))))))))))) (by kernel_rfl) (by kernel_rfl) ?_
       apply blkQ_n
       exact hjj43 _ h _ _ (mp [(13031, 1143)] _ _ hB)
      ·replace h := ite_f hg56 h
       apply AWp.skip
       apply blkQ_n
       exact hjj43 _ h _ _ (mp [(13031, 1016)] _ _ hB)
   ·replace h := ite_f hg44 h
    apply AWp.skip
    exact hjj43 _ h _ _ (mp [(13031, 1016)] _ _ hB)
 ·refine AWp.cond rfl (fun hg60 => ?_) (fun hg60 => ?_)
  ·replace h := ite_t hg60 h
   obtain ⟨r61, hr61, h⟩ := bindS h
   obtain ⟨x62, hx62, h⟩ := bindS h
   refine sd (c (fo 1003 0 [0] hN underlying25 0 tyS22 (q 3)) rfl (c (lb hN 25 _ (.sref 1013 6 0 a0.fAddrs.length) tyS22 (At.st1 (f := (.sref 1013 6 0 a0.fAddrs.length)) (by rfl) (by rfl) (At.here _) (by first | rfl | omega)) (q 23)) rfl (c (mv hN (q 2)) rfl (c (fo 1003 0 [0] hN underlying25 0 tyS22 (q 3)) rfl (c (lb hN 25 _ (.sref 1013 6 0 a0.fAddrs.length) tyS22 (At.st1 (f := (.sref 1013 6 0 a0.fAddrs.length)) (by rfl) (by rfl) (At.here _) (by first | rfl | omega)) (q 26)) rfl (c (OpJ.lenS underlying22 (L rfl) (q 27)) rfl (cg (cf hB fnOk23 (exchangepointmake_Mod_ac a2 (a0.fAddrs.length : Int) r61 hr61) (L rfl) (OpdL.cons (q 25) (OpdL.cons (q 28) OpdL.nil))) rfl (c (OpJ.val (v' := (.ptr 1013 (r61.toNat * 6) [r61.toNat])) (by simp) (OpJ.indexS underlying22 tyS46 (idx_some hx62).1 (by have := idx_lt hx62; first | (simpa using this) | ((try simp only [List.length_map] at this); (try simp only [List.length_map]); omega)) (L rfl) (q 24) (q 29))) rfl (c (OpJ.assign (L rfl) (q 30)) rfl cn))))))))) (by kernel_rfl) (by kernel_rfl) ?_
   obtain ⟨r63, hr63, h⟩ := bindS h
   refine sr (c (mv hN (q 1)) rfl (cg (cf hB fnOk23 (exchangepointmake_Mod_ac a1 (8 : Int) r63 hr63) (L rfl) (OpdL.cons (q 31) (OpdL.cons (Opd.int .i64 (8)) OpdL.nil))) rfl cn)) ?_
   apply AWp.block
   refine sr (c (OpJ.eqlI (L rfl) (q 32) (Opd.int .i64 (0))) rfl (c (OpJ.assign (L rfl) (q 34)) rfl cn)) ?_
   refine AWp.cond rfl (fun hg64 => ?_) (fun hg64 => ?_)
   ·replace h := ite_t hg64 h
    obtain ⟨x65, hx65, h⟩ := bindS h
    obtain ⟨x66, hx66, h⟩ := bindS h
    obtain ⟨x67, hx67, h⟩ := bindS h
    obtain ⟨x68, hx68, h⟩ := bindS h
    refine dr (c (mv hN (q 7)) rfl (c (mv hN (q 7)) rfl (c (mv hN (q 7)) rfl (c (OpJ.nilP (L rfl) (q 37)) rfl (c (ov (.ptr 1013 ((r61.toNat * 6) + 3) [r61.toNat, 1]) (fp hN underlying46 3 tyS42 _ (q 38))) rfl (c (OpJ.loadR (e := 46) (sz := 6) tyS42 (get_map e_api_Range (idx_some hx65).2) (o := 3) (ad _) (by rfl) (by rfl) (by rfl) (L rfl) (q 39)) rfl (c (mv hN (q 7)) rfl (c (OpJ.nilP (L rfl) (q 41)) rfl (c (ov (.ptr 1013 ((r61.toNat * 6) + 0) [r61.toNat, 0]) (fp hN underlying46 0 tyS42 _ (q 42))) rfl (c (OpJ.loadR (e := 46) (sz := 6) tyS42 (get_map e_api_Range (idx_some hx66).2) (o := 0) (ad _) (by rfl) (by rfl) (by rfl) (L rfl) (q 43)) rfl (c (OpJ.nilP (L rfl) (q 35)) rfl (c (ov (.ptr 1013 ((r61.toNat * 6) + 0) [r61.toNat, 0]) (fp hN underlying46 0 tyS42 _ (q 45))) rfl (cg (OpJ.storeR (e := 46) (sz := 6) (es' := (a0.fAddrs.set r61.toNat (api_Range.mk x65.fTo x67.fTo)).map e_api_Range) tyS42 (get_map e_api_Range (idx_some hx67).2) (o := 0) (SetAt.dst1 (by rfl) (by rfl) (SetAt.here _ _) (by rfl) (by rfl) (by first | rfl | omega)) (by rfl) (map_set _ _ _ _) (by rfl) (by rfl) (q 46) (q 40)) rfl (c (OpJ.nilP (L rfl) (q 36)) rfl (c (ov (.ptr 1013 ((r61.toNat * 6) + 3) [r61.toNat, 1]) (fp hN underlying46 3 tyS42 _ (q 47))) rfl (cg (OpJ.storeR (e := 46) (sz := 6) (es' := ((a0.fAddrs.set r61.toNat (api_Range.mk x65.fTo x67.fTo)).set r61.toNat (api_Range.mk x68.fFrom x66.fFrom)).map e_api_Range) tyS42 (get_map e_api_Range (idx_some hx68).2) (o := 3) (SetAt.dst1 (by rfl) (by rfl) (SetAt.here _ _) (by rfl) (by rfl) (by first | rfl | omega)) (by rfl) (map_set _ _ _ _) (by rfl) (by rfl) (q 48) (q 44)) rfl cn)))))))))))))))) (by kernel_rfl) (by kernel_rfl) ?_
    apply blkQ_n
    exact hjj25 _ h _ _ (Mat.trans (mp [] [(1, (i6 a1)), (2, (i6 a2)), (3, (pt 1003)), (6, (pt 1006))] [(1003, some (.box 25 (.st [(.sref 1013 6 0 a0.fAddrs.length), (.sref 1016 2 0 a0.fASNs.length)]))), (1006, some (.box 25 (.st [.nils, .nils]))), (1013, some (we_api_Range_46_6 ((a0.fAddrs.set r61.toNat (api_Range.mk x65.fTo x67.fTo)).set r61.toNat (api_Range.mk x68.fFrom x66.fFrom)))), (1016, some (we_api_Span_62_2 a0.fASNs))] hB) (Mat.trans (Mat.lenP (Ts := []) (Bs := [(1003, some (.box 25 (.st [(.sref 1013 6 0 (((a0.fAddrs.set r61.toNat (api_Range.mk x65.fTo x67.fTo)).set r61.toNat (api_Range.mk x68.fFrom x66.fFrom)).length)), (.sref 1016 2 0 a0.fASNs.length)])))]) TwT.nil (TwB.cons (x := (.st [(.sref 1013 6 0 a0.fAddrs.length), (.sref 1016 2 0 a0.fASNs.length)])) (by rfl) (Tw.st (TwL.cons (Tw.leaf ⟨_, _, _, _, _, rfl, rfl, (by first | rfl | (simp; done) | (simp; omega) | omega)⟩) (TwL.cons (Tw.same _) TwL.nil))) TwB.nil)) (mp [(13030, 1013)] _ _ hB)))
   ·replace h := ite_f hg64 h
    refine sr (c (OpJ.eqlI (L rfl) (q 32) (Opd.int .i64 (1))) rfl (c (OpJ.assign (L rfl) (q 50)) rfl cn)) ?_
    refine AWp.cond rfl (fun hg69 => ?_) (fun hg69 => ?_)
    ·replace h := ite_t hg69 h
     obtain ⟨x70, hx70, h⟩ := bindS h
     obtain ⟨r71, hr71, h⟩ := bindS h
     obtain ⟨x72, hx72, h⟩ := bindS h
     refine rg (c (mv hN (q 7)) rfl (c (mv hN (q 7)) rfl (c (OpJ.nilP (L rfl) (q 53)) rfl (c (ov (.ptr 1013 ((r61.toNat * 6) + 3) [r61.toNat, 1]) (fp hN underlying46 3 tyS42 _ (q 54))) rfl (c (OpJ.loadR (e := 46) (sz := 6) tyS42 (get_map e_api_Range (idx_some hx70).2) (o := 3) (ad _) (by rfl) (by rfl) (by rfl) (L rfl) (q 55)) rfl (cg (cf hB fnOk21 (exchangepointref01_Next_ac x70.fTo r71 hr71) (L rfl) (OpdL.cons (q 56) OpdL.nil)) rfl (c (mv hN (q 57)) rfl (c (OpJ.extract (by rfl) rfl (L rfl) (q 51)) rfl (c (OpJ.extract (by rfl) rfl (L rfl) (q 51)) rfl (c (OpJ.nilP (L rfl) (q 52)) rfl (c (ov (.ptr 1013 ((r61.toNat * 6) + 3) [r61.toNat, 1]) (fp hN underlying46 3 tyS42 _ (q 60))) rfl (cg (OpJ.storeR (e := 46) (sz := 6) (es' := (a0.fAddrs.set r61.toNat (api_Range.mk x72.fFrom r71.1)).map e_api_Range) tyS42 (get_map e_api_Range (idx_some hx72).2) (o := 3) (SetAt.dst1 (by rfl) (by rfl) (SetAt.here _ _) (by rfl) (by rfl) (by first | rfl | omega)) (by rfl) (map_set _ _ _ _) (by rfl) (by rfl) (q 61) (q 58)) rfl cn)))))))))))) ?_
     apply blkQ_n
     exact hjj25 _ h _ _ (Mat.trans (mp [] [(1, (i6 a1)), (2, (i6 a2)), (3, (pt 1003)), (6, (pt 1006))] [(1003, some (.box 25 (.st [(.sref 1013 6 0 a0.fAddrs.length), (.sref 1016 2 0 a0.fASNs.length)]))), (1006, some (.box 25 (.st [.nils, .nils]))), (1013, some (we_api_Range_46_6 (a0.fAddrs.set r61.toNat (api_Range.mk x72.fFrom r71.1)))), (1016, some (we_api_Span_62_2 a0.fASNs))] hB) (Mat.trans (Mat.lenP (Ts := []) (Bs := [(1003, some (.box 25 (.st [(.sref 1013 6 0 ((a0.fAddrs.set r61.toNat (api_Range.mk x72.fFrom r71.1)).length)), (.sref 1016 2 0 a0.fASNs.length)])))]) TwT.nil (TwB.cons (x := (.st [(.sref 1013 6 0 a0.fAddrs.length), (.sref 1016 2 0 a0.fASNs.length)])) (by rfl) (Tw.st (TwL.cons (Tw.leaf ⟨_, _, _, _, _, rfl, rfl, (by first | rfl | (simp; done) | (simp; omega) | omega)⟩) (TwL.cons (Tw.same _) TwL.nil))) TwB.nil)) (mp [(13030, 1013)] _ _ hB)))
    ·replace h := ite_f hg69 h
     refine sr (c (OpJ.eqlI (L rfl) (q 32) (Opd.int .i64 (2))) rfl (c (OpJ.assign (L rfl) (q 63)) rfl cn)) ?_
     refine AWp.cond rfl (fun hg73 => ?_) (fun hg73 => ?_)
     ·replace h := ite_t hg73 h
      obtain ⟨x74, hx74, h⟩ := bindS h
      obtain ⟨x75, hx75, h⟩ := bindS h
      refine rg (c (mv hN (q 7)) rfl (c (mv hN (q 7)) rfl (c (OpJ.nilP (L rfl) (q 65)) rfl (c (ov (.ptr 1013 ((r61.toNat * 6) + 0) [r61.toNat, 0]) (fp hN underlying46 0 tyS42 _ (q 66))) rfl (c (ov (.ptr 1013 ((r61.toNat * 6) + 0) [r61.toNat, 0, 0]) (fp hN underlying42 0 tyS4 _ (q 67))) rfl (c (OpJ.loadR (e := 46) (sz := 6) tyS4 (get_map e_api_Range (idx_some hx74).2) (o := 0) (At.dst1 (by rfl) (by rfl) (ad _) (by first | rfl | omega)) (by rfl) (by rfl) (by rfl) (L rfl) (q 68)) rfl (c (OpJ.not (L rfl) (q 69)) rfl (c (OpJ.nilP (L rfl) (q 64)) rfl (c (ov (.ptr 1013 ((r61.toNat * 6) + 0) [r61.toNat, 0]) (fp hN underlying46 0 tyS42 _ (q 71))) rfl (c (ov (.ptr 1013 ((r61.toNat * 6) + 0) [r61.toNat, 0, 0]) (fp hN underlying42 0 tyS4 _ (q 72))) rfl (cg (OpJ.storeR (e := 46) (sz := 6) (es' := (a0.fAddrs.set r61.toNat (api_Range.mk (api_Addr.mk (!x74.fFrom.fV6) x75.fFrom.fHi x75.fFrom.fLo) x75.fTo)).map e_api_Range) tyS4 (get_map e_api_Range (idx_some hx75).2) (o := 0) (SetAt.dst1 (by rfl) (by rfl) (SetAt.dst1 (by rfl) (by rfl) (SetAt.here _ _) (by rfl) (by rfl) (by first | rfl | omega)) (by rfl) (by rfl) (by first | rfl | omega)) (by rfl) (map_set _ _ _ _) (by rfl) (by rfl) (q 73) (q 70)) rfl cn))))))))))) ?_
      apply blkQ_n
      exact hjj25 _ h _ _ (Mat.trans (mp [] [(1, (i6 a1)), (2, (i6 a2)), (3, (pt 1003)), (6, (pt 1006))] [(1003, some (.box 25 (.st [(.sref 1013 6 0 a0.fAddrs.length), (.sref 1016 2 0 a0.fASNs.length)]))), (1006, some (.box 25 (.st [.nils, .nils]))), (1013, some (we_api_Range_46_6 (a0.fAddrs.set r61.toNat (api_Range.mk (api_Addr.mk (!x74.fFrom.fV6) x75.fFrom.fHi x75.fFrom.fLo) x75.fTo)))), (1016, some (we_api_Span_62_2 a0.fASNs))] hB) (Mat.trans (Mat.lenP (Ts := []) (Bs := [(1003, some (.box 25 (.st [(.sref 1013 6 0 ((a0.fAddrs.set r61.toNat (api_Range.mk (api_Addr.mk (!x74.fFrom.fV6) x75.fFrom.fHi x75.fFrom.fLo) x75.fTo)).length)), (.sref 1016 2 0 a0.fASNs.length)])))]) TwT.nil (TwB.cons (x := (.st [(.sref 1013 6 0 a0.fAddrs.length), (.sref 1016 2 0 a0.fASNs.length)])) (by rfl) (Tw.st (TwL.cons (Tw.leaf ⟨_, _, _, _, _, rfl, rfl, (by first | rfl | (simp; done) | (simp; omega) | omega)⟩) (TwL.cons (Tw.same _) TwL.nil))) TwB.nil)) (mp [(13030, 1013)] _ _ hB)))
     ·replace h := ite_f hg73 h
      refine sr (c (OpJ.eqlI (L rfl) (q 32) (Opd.int .i64 (3))) rfl (c (OpJ.assign (L rfl) (q 75)) rfl cn)) ?_
      refine AWp.cond rfl (fun hg76 => ?_) (fun hg76 => ?_)
      ·replace h := ite_t hg76 h
       obtain ⟨x77, hx77, h⟩ := bindS h
       obtain ⟨r78, hr78, h⟩ := bindS h
       refine sr (c (mv hN (q 7)) rfl (c (OpJ.nilP (L rfl) (q 77)) rfl (c (ov (.ptr 1013 ((r61.toNat * 6) + 3) [r61.toNat, 1]) (fp hN underlying46 3 tyS42 _ (q 78))) rfl (c (OpJ.loadR (e := 46) (sz := 6) tyS42 (get_map e_api_Range (idx_some hx77).2) (o := 3) (ad _) (by rfl) (by rfl) (by rfl) (L rfl) (q 79)) rfl (cg (cf hB fnOk21 (exchangepointref01_Next_ac x77.fTo r78 hr78) (L rfl) (OpdL.cons (q 80) OpdL.nil)) rfl (c (mv hN (q 81)) rfl (c (OpJ.extract (by rfl) rfl (L rfl) (q 76)) rfl (c (OpJ.extract (by rfl) rfl (L rfl) (q 76)) rfl (cg (OpJ.alloc hB tyZ42 (nm := 1008) (by decide) (L rfl)) rfl (cg (sB tyS42 (q 8) (q 82)) rfl (c (OpJ.assign (L rfl) (q 83)) rfl cn))))))))))) ?_
       refine sr (c (mv hN (q 9)) rfl cn) ?_
       refine AWp.cond rfl (fun hg79 => ?_) (fun hg79 => ?_)
       ·replace h := ite_t hg79 h
        obtain ⟨hc80, h⟩ := chk_some h
        refine rg (c (fo 1003 0 [0] hN underlying25 0 tyS22 (q 3)) rfl (c (lb hN 25 _ (.sref 1013 6 0 a0.fAddrs.length) tyS22 (At.st1 (f := (.sref 1013 6 0 a0.fAddrs.length)) (by rfl) (by rfl) (At.here _) (by first | rfl | omega)) (q 85)) rfl (c (lb hN 42 _ _ tyS42 (At.here _) (q 8)) rfl (c (lb hN 42 _ _ tyS42 (At.here _) (q 8)) rfl (c (OpJ.coe (v := (.st [(.d (e_api_Addr r78.1)), (.d (e_api_Addr r78.1))])) (y := (.st [(e_api_Addr r78.1), (e_api_Addr r78.1)])) (Co.st (CoL.cons (Co.d _) (CoL.cons (Co.d _) CoL.nil))) rfl (OpJ.build (places := [(0, 3), (3, 3)]) ⟨underlying46, fun w => by kernel_rfl⟩ tyZS46 (Opds.cons (q 87) (Opds.cons (q 88) Opds.nil)) (by kernel_rfl) (r := (.st [(.d (e_api_Addr r78.1)), (.d (e_api_Addr r78.1))])) (by rfl) (L rfl))) rfl (c (OpJ.buildSlice underlying22 tyS46 tyZD46 (by rfl) (by decide) (by decide) (Opds.cons (q 89) Opds.nil) (by kernel_rfl) (es := ([(.st [(e_api_Addr r78.1), (e_api_Addr r78.1)])] : List D)) (by rfl) (by rfl) (by kernel_rfl) (by simp) (L rfl)) rfl (cg (apd hB underlying22 tyE46 1091 e_api_Range a0.fAddrs ([(api_Range.mk r78.1 r78.1)] : List api_Range) hc80 (L rfl) (q 86) (q 90)) rfl (c (fo 1003 0 [0] hN underlying25 0 tyS22 (q 3)) rfl (cg (OpJ.storeB (c' := (.st [(.sref 1091 6 0 ((a0.fAddrs ++ ([(api_Range.mk r78.1 r78.1)] : List api_Range)).length)), (.sref 1016 2 0 a0.fASNs.length)])) tyS22 (SetAt.st1 (f := (.sref 1013 6 0 a0.fAddrs.length)) (by rfl) (by rfl) (SetAt.here _ _) (by rfl) (by rfl) (by first | rfl | omega)) (by rfl) (by rfl) (by simp) rfl (q 92) (q 91)) rfl cn))))))))) ?_
        apply blkQ_n
        exact hjj25 _ h _ _ (mp [(13030, 1091)] _ _ hB)
       ·replace h := ite_f hg79 h
        apply AWp.skip
        apply blkQ_n
        exact hjj25 _ h _ _ (mp [(13030, 1013)] _ _ hB)
      ·replace h := ite_f hg76 h
       apply AWp.skip
       apply blkQ_n
       exact hjj25 _ h _ _ (mp [(13030, 1013)] _ _ hB)
  ·replace h := ite_f hg60 h
   apply AWp.skip
   exact hjj25 _ h _ _ (mp [(13030, 1013)] _ _ hB)
noncomputable def ext57_slices_Clone_R (a0 : (List api_Addr_)) : Option (List api_Addr_) := chk (decide (a0.length ≤ LIM)) <|
 some a0
theorem ext57_slices_Clone_R_ac (a0 : (List api_Addr_)) (r : List api_Addr_) (h : ext57_slices_Clone_R a0 = some r) : AC Tryz.prog 57 [(.d (.list 6 (a0.map e_api_Addr_)))] [] (.sref 900000 6 0 r.length) [(900000, some (.row 99 6 (r.map e_api_Addr_)))] := by
 obtain ⟨hc, h⟩ := chk_some h
 obtain rfl := Option.some.inj h
 exact AC.cloneR cloneOk57 (by simp) (by rw [List.length_map]; exact lim_mulN hc (by decide)) (map_sz (f := e_api_Addr_) (fun _ => rfl))
noncomputable def resource_order_normal_1 (a0 : api_Addr_) (a1 : api_Addr_) : Option (Int) :=
 (addr_Cmp a0.ffrom a1.ffrom).bind fun r1 =>
 some r1
theorem resource_order_normal_1_ac (a0 : api_Addr_) (a1 : api_Addr_) (r : Int) (h : resource_order_normal_1 a0 a1 = some r) : AC Tryz.prog 59 [(.d (e_api_Addr_ a0)), (.d (e_api_Addr_ a1)), (pt 0)] [(0, (.box 73 (.st [(.func 50 []), (.func 52 []), (.func 133 [])])))] (.d (.int .i64 r)) [(0, some (.box 73 (.st [(.func 50 []), (.func 52 []), (.func 133 [])])))] := by
 refine AC.of_code2 Tryz.func59 rfl rfl (Nat.le_of_ble_eq_true (by rfl)) fun B hB hN => ?_
 delta resource_order_normal_1 at h
 refine sr (cg (OpJ.box hB (nm := 1003) (by decide) (by simp) rfl (ltN hN rfl) (q 0)) rfl (cg (OpJ.box hB (nm := 1004) (by decide) (by simp) rfl (ltN hN rfl) (q 1)) rfl (c (OpJ.assign (ltN hN rfl) (Opd.int .i64 (0))) rfl cn))) ?_
 obtain ⟨r1, hr1, h⟩ := bindS h
 refine sr (c (fo 0 0 [0] hN underlying73 0 tyS71 (q 2)) rfl (c (lb hN 73 _ (.func 50 []) tyS71 (At.st1 (f := (.func 50 [])) (by rfl) (by rfl) (At.here _) (by first | rfl | omega)) (q 6)) rfl (c (fo 1003 0 [0] hN underlying99 0 tyS42 (q 3)) rfl (c (la hN 99 tyS42 (q 8)) rfl (c (fo 1004 0 [0] hN underlying99 0 tyS42 (q 4)) rfl (c (la hN 99 tyS42 (q 10)) rfl (cg (OpJ.callVal (args := [(.d (e_api_Addr a0.ffrom)), (.d (e_api_Addr a1.ffrom))]) (caps := []) hB fnOk50 [] (addr_Cmp_ac a0.ffrom a1.ffrom r1 hr1) (by kernel_rfl) (ltN hN rfl) (by kernel_rfl) (by kernel_rfl) (OpdL.cons (q 9) (OpdL.cons (q 11) OpdL.nil))) rfl (c (OpJ.assign (ltN hN rfl) (q 12)) rfl cn)))))))) ?_
 apply AWp.ret
 obtain rfl := Option.some.inj h
 exact ⟨.inl rfl, _, _, (kp [(5, _)] [(0, some _)] hB rfl rfl (by rfl)), [(i6 r1)], (Res.tmp (by rfl) (by rfl) Res.nil), rfl, by rfl, by rfl, by rfl⟩
noncomputable def ext58_slices_SortFunc_resource_order_normal_1 (a0 : (List api_Addr_)) : Option (List api_Addr_) := sortF a0 fun x y => resource_order_normal_1 x y
theorem ext58_slices_SortFunc_resource_order_normal_1_ac (a0 : (List api_Addr_)) (r : List api_Addr_) (h : ext58_slices_SortFunc_resource_order_normal_1 a0 = some r) : AC Tryz.prog 58 [(.sref 900 6 0 a0.length), (.func 59 [(pt 0)])] [(0, (.box 73 (.st [(.func 50 []), (.func 52 []), (.func 133 [])]))), (900, (.row 99 6 (a0.map e_api_Addr_)))] (.tup []) [(0, some (.box 73 (.st [(.func 50 []), (.func 52 []), (.func 133 [])]))), (900, some (.row 99 6 (r.map e_api_Addr_)))] :=
 AC.sortFC e_api_Addr_ (fun x y => resource_order_normal_1 x y) a0 r h sortOk58 fnOk59 (fun _ => rfl) (by rfl) (by rfl) rfl (fun x y c hc => resource_order_normal_1_ac x y c hc)
noncomputable def resource_order_normal_L0 (r1 : List api_Addr_) (r2 : List api_Addr_) (s4 : Int × (List api_Addr_)) : Option ((((List api_Addr_))) ⊕ (Int × (List api_Addr_))) :=
 (if (decide (s4.1 < (r1.length : Int))) = true then
 jn (fun m161 : (List api_Addr_) =>
 some (.inr ((w64 (s4.1 + (1 : Int))), m161))) (fun j162 =>
 (idx r2 s4.1).bind fun x163 =>
 (idx r2 s4.1).bind fun x164 =>
 (if (decide ((w64 ((s4.2.length : Int) - (1 : Int))) < (0 : Int))) = true then
 chk (decide ((s4.2 ++ ([x164] : List api_Addr_)).length ≤ LIM)) <|
 j162 (s4.2 ++ ([x164] : List api_Addr_))
 else
 (idx s4.2 (w64 ((s4.2.length : Int) - (1 : Int)))).bind fun x167 =>
 (idx s4.2 (w64 ((s4.2.length : Int) - (1 : Int)))).bind fun x168 =>
 (addr_Next x168.fto).bind fun r169 =>
 jn (fun m179 : Bool =>
 (if m179 = true then
 chk (decide ((s4.2 ++ ([x164] : List api_Addr_)).length ≤ LIM)) <|
 j162 (s4.2 ++ ([x164] : List api_Addr_))
 else
 (idx s4.2 (w64 ((s4.2.length : Int) - (1 : Int)))).bind fun x183 =>
 (idx s4.2 (w64 ((s4.2.length : Int) - (1 : Int)))).bind fun x184 =>
 (addr_Cmp x164.fto x184.fto).bind fun r185 =>
 (if (decide ((0 : Int) < r185)) = true then
 (idx s4.2 (w64 ((s4.2.length : Int) - (1 : Int)))).bind fun x187 =>
 (idx s4.2 (w64 ((s4.2.length : Int) - (1 : Int)))).bind fun x188 =>
 j162 (s4.2.set (w64 ((s4.2.length : Int) - (1 : Int))).toNat (api_Addr_.mk x188.ffrom x164.fto))
 else
 j162 s4.2))) (fun j180 =>
 (idx s4.2 (w64 ((s4.2.length : Int) - (1 : Int)))).bind fun x189 =>
 (idx s4.2 (w64 ((s4.2.length : Int) - (1 : Int)))).bind fun x190 =>
 (addr_Cmp x164.ffrom x190.fto).bind fun r191 =>
 (if (decide ((0 : Int) < r191)) = true then
 (if r169.2 = true then
 (addr_Cmp r169.1 x164.ffrom).bind fun r194 =>
 j180 (!(r194 == (0 : Int)))
 else
 j180 (!false))
 else
 j180 false))))
 else
 some (.inl s4.2))
noncomputable def resource_order_normal (a0 : (List api_Addr_)) : Option ((List api_Addr_)) :=
 (ext57_slices_Clone_R a0).bind fun r1 =>
 (ext58_slices_SortFunc_resource_order_normal_1 r1).bind fun r2 =>
 chk (decide (r2.length = r1.length)) <|
 (loop (resource_order_normal_L0 r1 r2) ((0 : Int), ([] : List api_Addr_))).bind fun p127 =>
 some p127
theorem resource_order_normal_ac (a0 : (List api_Addr_)) (r : (List api_Addr_)) (h : resource_order_normal a0 = some r) : AC Tryz.prog 30 [(.st [(.func 50 []), (.func 52 []), (.func 133 [])]), (.d (.list 6 (a0.map e_api_Addr_)))] [] (.d (.list 6 (r.map e_api_Addr_))) [] := by
 refine AC.of_code2 Tryz.func30 rfl rfl (Nat.le_of_ble_eq_true (by rfl)) fun B hB hN => ?_
 have L {d : Nat} (h : Nat.blt d Tryz.f30.ntmps = true) : d < B.N := ltN hN h
 delta resource_order_normal at h
 refine sr (cg (OpJ.box hB (nm := 1002) (by decide) (by simp) rfl (L rfl) (q 0)) rfl (c (OpJ.assign (L rfl) Opd.nils) rfl cn)) ?_
 apply AWp.seq
 obtain ⟨r1, hr1, h⟩ := bindS h
 refine AWp.region (oc (mv hN (ot 1 (qe_api_Addr__6 a0)))
 (oc (OpJ.callFn hB fnOk57 (ext57_slices_Clone_R_ac a0 r1 hr1) [(900000, 100000)] (by kernel_rfl) (L rfl) (by kernel_rfl) (OpdL.cons (ot 11 (qe_api_Addr__6 a0)) OpdL.nil))
 (oc (OpJ.assign (L rfl) (ot 12 (.sref 100000 6 0 r1.length)))
 (OpJs.nil)))) (by rfl) (by rfl) ?_
 apply seqQ_n
 refine AWp.ghost (mp [] [(1, (.sref 100000 6 0 r1.length)), (2, (pt 1002))] [(1002, some (.box 73 (.st [(.func 50 []), (.func 52 []), (.func 133 [])]))), (100000, some (we_api_Addr__99_6 r1))] hB) ?_
 apply AWp.seq
 obtain ⟨r2, hr2, h⟩ := bindS h
 obtain ⟨hc3, h⟩ := chk_some h
 have lhc3 := of_decide_eq_true hc3
 have hc3_o := of_decide_eq_true hc3
 refine AWp.region (oc (mv hN (ot 1 (.sref 100000 6 0 r1.length)))
 (oc (OpJ.makeF (OpdL.cons (ot 2 (pt 1002)) OpdL.nil) rfl rfl (L rfl))
 (oc (OpJ.callFn hB fnOk58 (ext58_slices_SortFunc_resource_order_normal_1_ac r1 r2 hr2) [(900, 100000), (0, 1002)] (by kernel_rfl) (L rfl) (by kernel_rfl) (OpdL.cons (ot 13 (.sref 100000 6 0 r1.length)) (OpdL.cons (ot 14 (.func 59 [(pt 1002)])) OpdL.nil)))
 (OpJs.nil)))) (by rfl) (by rfl) ?_
 apply seqQ_n
 refine AWp.ghost (mp [] [(1, (.sref 100000 6 0 r1.length)), (2, (pt 1002))] [(1002, some (.box 73 (.st [(.func 50 []), (.func 52 []), (.func 133 [])]))), (100000, some (we_api_Addr__99_6 r2))] hB) ?_
 refine sr (c (OpJ.assign (L rfl) Opd.nils) rfl cn) ?_
 apply AWp.seq
 refine sr (c (mv hN (q 1)) rfl (c (OpJ.lenS underlying66 (L rfl) (q 16)) rfl (c (mv hN (Opd.int .i64 (0))) rfl cn))) ?_
 apply AWp.block
 obtain ⟨p127, hx196, h⟩ := bindS h
 refine lg (resource_order_normal_L0 r1 r2) (fun s4 : Int × (List api_Addr_) => ([(2, (pt 1002)), (5, (.sref 3005 6 0 s4.2.length)), (16, (.sref 100000 6 0 r2.length)), (17, (i6 (r1.length : Int))), (18, (i6 s4.1))] : EL)) (fun s4 : Int × (List api_Addr_) => ([(1002, some (.box 73 (.st [(.func 50 []), (.func 52 []), (.func 133 [])]))), (3005, some (we_api_Addr__99_6 s4.2)), (100000, some (we_api_Addr__99_6 r2))] : OL)) (fun (p127 : ((List api_Addr_))) e E' O' => e = .exit 0 ∧ Mat B E' O' ([(5, (.sref 3005 6 0 p127.length))] : EL) ([(3005, some (we_api_Addr__99_6 p127))] : OL)) hx196 (Mat.trans (Mat.beginP (n := 3005) (e := 99) (sz := 6) (Ts := [(5, (.sref 3005 6 0 0))]) (Bs := []) hB (by decide) (by rfl) (by decide) (TwT.cons (x := .nils) (by rfl) (Tw.leaf ⟨rfl, rfl⟩) TwT.nil) TwB.nil) (Mat.trans (Mat.lenP (Ts := [(16, (.sref 100000 6 0 r2.length))]) (Bs := []) (TwT.cons (x := (.sref 100000 6 0 r1.length)) (by rfl) (Tw.leaf ⟨_, _, _, _, _, rfl, rfl, (by first | rfl | (simp; done) | (simp; omega) | omega)⟩) TwT.nil) TwB.nil) (mp [] _ _ hB))) (fun s4 y h => ?_) (fun e E' O' hR => ?_)
 ·unfold resource_order_normal_L0 at h
  refine sr (c (OpJ.lss (L rfl) (q 18) (q 17)) rfl cn) ?_
  apply AWp.seq
  refine AWp.cond rfl (fun hg128 => ?_) (fun hg128 => ?_)
  ·replace h := ite_t hg128 h
   apply AWp.skip
   apply seqQ_n
   apply AWp.seq
   refine AWp.cut h (fun m161 : (List api_Addr_) => ([(2, (pt 1002)), (5, (.sref 3005 6 0 m161.length)), (16, (.sref 100000 6 0 r2.length)), (17, (i6 (r1.length : Int))), (18, (i6 s4.1))] : EL)) (fun m161 : (List api_Addr_) => ([(1002, some (.box 73 (.st [(.func 50 []), (.func 52 []), (.func 133 [])]))), (3005, some (we_api_Addr__99_6 m161)), (100000, some (we_api_Addr__99_6 r2))] : OL)) (fun m161 h E' O' hmat => ?_) (fun j162 hjj162 h => ?_)
   ·apply seqQ_n
    refine AWp.ghost hmat ?_
    refine rg (c (add6 (L rfl) (q 18) (Opd.int .i64 (1))) rfl (c (mv hN (q 89)) rfl cn)) ?_
    obtain rfl := Option.some.inj h
    exact ⟨rfl, (mp [] _ _ hB)⟩
   ·apply AWp.block
    obtain ⟨x163, hx163, h⟩ := bindS h
    obtain ⟨x164, hx164, h⟩ := bindS h
    refine sr (c (OpJ.val (v' := (.ptr 100000 (s4.1.toNat * 6) [s4.1.toNat])) (by simp) (OpJ.indexS underlying66 tyS99 (idx_some hx163).1 (by have := idx_lt hx163; first | (simpa using this) | ((try simp only [List.length_map] at this); (try simp only [List.length_map]); omega)) (L rfl) (q 16) (q 18))) rfl (c (OpJ.loadR (e := 99) (sz := 6) tyS99 (get_map e_api_Addr_ (idx_some hx164).2) (o := 0) (At.here _) (by rfl) (by rfl) (by rfl) (L rfl) (q 20)) rfl (cg (OpJ.alloc hB tyZ99 (nm := 1007) (by decide) (L rfl)) rfl (cg (sB tyS99 (q 7) (q 21)) rfl cn)))) ?_
    refine sr (c (mv hN (q 5)) rfl (c (OpJ.lenS underlying66 (L rfl) (q 22)) rfl (c (sub6 (L rfl) (q 23) (Opd.int .i64 (1))) rfl (c (OpJ.assign (L rfl) (q 24)) rfl cn)))) ?_
    apply AWp.seq
    refine sr (c (mv hN (q 8)) rfl (c (OpJ.lss (L rfl) (q 25) (Opd.int .i64 (0))) rfl cn)) ?_
    refine AWp.cond rfl (fun hg165 => ?_) (fun hg165 => ?_)
    ·replace h := ite_t hg165 h
     obtain ⟨hc166, h⟩ := chk_some h
     refine sr (c (mv hN (q 5)) rfl (c (lb hN 99 _ _ tyS99 (At.here _) (q 7)) rfl (c (OpJ.buildSlice underlying66 tyS99 tyZD99 (by rfl) (by decide) (by decide) (Opds.cons (q 28) Opds.nil) (by kernel_rfl) (es := ([(e_api_Addr_ x164)] : List D)) (by rfl) (by rfl) (by kernel_rfl) (by simp) (L rfl)) rfl (cg (apd hB underlying66 tyE99 1030 e_api_Addr_ s4.2 ([x164] : List api_Addr_) hc166 (L rfl) (q 27) (q 29)) rfl (c (OpJ.assign (L rfl) (q 30)) rfl cn))))) ?_
     refine gh [(2, _), (5, _), (16, _), (17, _), (18, _)] [(1002, some _), (1030, some _), (100000, some _)] hB rfl rfl (by rfl) ?_
     apply AWp.exit
     apply seqQ_e
     apply blkQ_hit
     exact hjj162 _ h _ _ (mp [(3005, 1030)] _ _ hB)
    ·replace h := ite_f hg165 h
     apply AWp.skip
     apply seqQ_n
     obtain ⟨x167, hx167, h⟩ := bindS h
     obtain ⟨x168, hx168, h⟩ := bindS h
     obtain ⟨r169, hr169, h⟩ := bindS h
     refine sd (c (fo 1002 1 [1] hN underlying73 1 tyS48 (q 2)) rfl (c (lb hN 73 _ (.func 52 []) tyS48 (At.st1 (f := (.func 52 [])) (by rfl) (by rfl) (At.here _) (by first | rfl | omega)) (q 32)) rfl (c (mv hN (q 5)) rfl (c (mv hN (q 8)) rfl (c (OpJ.val (v' := (.ptr 3005 ((w64 ((s4.2.length : Int) - (1 : Int))).toNat * 6) [(w64 ((s4.2.length : Int) - (1 : Int))).toNat])) (by simp) (OpJ.indexS underlying66 tyS99 (idx_some hx167).1 (by have := idx_lt hx167; first | (simpa using this) | ((try simp only [List.length_map] at this); (try simp only [List.length_map]); omega)) (L rfl) (q 34) (q 35))) rfl (c (ov (.ptr 3005 (((w64 ((s4.2.length : Int) - (1 : Int))).toNat * 6) + 3) [(w64 ((s4.2.length : Int) - (1 : Int))).toNat, 1]) (fp hN underlying99 3 tyS42 _ (q 36))) rfl (c (OpJ.loadR (e := 99) (sz := 6) tyS42 (get_map e_api_Addr_ (idx_some hx168).2) (o := 3) (ad _) (by rfl) (by rfl) (by rfl) (L rfl) (q 37)) rfl (cg (OpJ.callVal (args := [(.d (e_api_Addr x168.fto))]) (caps := []) hB fnOk52 [] (addr_Next_ac x168.fto r169 hr169) (by kernel_rfl) (L rfl) (by kernel_rfl) (by kernel_rfl) (OpdL.cons (q 38) OpdL.nil)) rfl (c (mv hN (q 39)) rfl (c (OpJ.extract (by rfl) rfl (L rfl) (q 31)) rfl (c (OpJ.extract (by rfl) rfl (L rfl) (q 31)) rfl (cg (OpJ.alloc hB tyZ42 (nm := 1009) (by decide) (L rfl)) rfl (cg (sB tyS42 (q 9) (q 40)) rfl (c (OpJ.assign (L rfl) (q 41)) rfl cn)))))))))))))) (by kernel_rfl) (by kernel_rfl) ?_
     apply AWp.block
     apply AWp.seq
     refine AWp.cut h (fun m179 : Bool => ([(2, (pt 1002)), (5, (.sref 3005 6 0 s4.2.length)), (7, (pt 1007)), (8, (i6 (w64 ((s4.2.length : Int) - (1 : Int))))), (16, (.sref 100000 6 0 r2.length)), (17, (i6 (r1.length : Int))), (18, (i6 s4.1)), (42, (bo m179))] : EL)) (fun m179 : Bool => ([(1002, some (.box 73 (.st [(.func 50 []), (.func 52 []), (.func 133 [])]))), (1007, bd 99 (e_api_Addr_ x164)), (3005, some (we_api_Addr__99_6 s4.2)), (100000, some (we_api_Addr__99_6 r2))] : OL)) (fun m179 h E' O' hmat => ?_) (fun j180 hjj180 h => ?_)
     ·apply seqQ_n
      refine AWp.ghost hmat ?_
      refine AWp.cond rfl (fun hg181 => ?_) (fun hg181 => ?_)
      ·replace h := ite_t hg181 h
       obtain ⟨hc182, h⟩ := chk_some h
       refine rg (c (mv hN (q 5)) rfl (c (lb hN 99 _ _ tyS99 (At.here _) (q 7)) rfl (c (OpJ.buildSlice underlying66 tyS99 tyZD99 (by rfl) (by decide) (by decide) (Opds.cons (q 68) Opds.nil) (by kernel_rfl) (es := ([(e_api_Addr_ x164)] : List D)) (by rfl) (by rfl) (by kernel_rfl) (by simp) (L rfl)) rfl (cg (apd hB underlying66 tyE99 1070 e_api_Addr_ s4.2 ([x164] : List api_Addr_) hc182 (L rfl) (q 67) (q 69)) rfl (c (OpJ.assign (L rfl) (q 70)) rfl cn))))) ?_
       apply blkQ_n
       apply blkQ_n
       exact hjj162 _ h _ _ (mp [(3005, 1070)] _ _ hB)
      ·replace h := ite_f hg181 h
       obtain ⟨x183, hx183, h⟩ := bindS h
       obtain ⟨x184, hx184, h⟩ := bindS h
       obtain ⟨r185, hr185, h⟩ := bindS h
       refine sd (c (fo 1002 0 [0] hN underlying73 0 tyS71 (q 2)) rfl (c (lb hN 73 _ (.func 50 []) tyS71 (At.st1 (f := (.func 50 [])) (by rfl) (by rfl) (At.here _) (by first | rfl | omega)) (q 72)) rfl (c (fo 1007 3 [1] hN underlying99 3 tyS42 (q 7)) rfl (c (la hN 99 tyS42 (q 74)) rfl (c (mv hN (q 5)) rfl (c (mv hN (q 8)) rfl (c (OpJ.val (v' := (.ptr 3005 ((w64 ((s4.2.length : Int) - (1 : Int))).toNat * 6) [(w64 ((s4.2.length : Int) - (1 : Int))).toNat])) (by simp) (OpJ.indexS underlying66 tyS99 (idx_some hx183).1 (by have := idx_lt hx183; first | (simpa using this) | ((try simp only [List.length_map] at this); (try simp only [List.length_map]); omega)) (L rfl) (q 76) (q 77))) rfl (c (ov (.ptr 3005 (((w64 ((s4.2.length : Int) - (1 : Int))).toNat * 6) + 3) [(w64 ((s4.2.length : Int) - (1 : Int))).toNat, 1]) (fp hN underlying99 3 tyS42 _ (q 78))) rfl (c (OpJ.loadR (e := 99) (sz := 6) tyS42 (get_map e_api_Addr_ (idx_some hx184).2) (o := 3) (ad _) (by rfl) (by rfl) (by rfl) (L rfl) (q 79)) rfl (cg (OpJ.callVal (args := [(.d (e_api_Addr x164.fto)), (.d (e_api_Addr x184.fto))]) (caps := []) hB fnOk50 [] (addr_Cmp_ac x164.fto x184.fto r185 hr185) (by kernel_rfl) (L rfl) (by kernel_rfl) (by kernel_rfl) (OpdL.cons (q 75) (OpdL.cons (q 80) OpdL.nil))) rfl (c (OpJ.gtr (L rfl) (q 81) (Opd.int .i64 (0))) rfl (c (OpJ.assign (L rfl) (q 82)) rfl cn)))))))))))) (by kernel_rfl) (by kernel_rfl) ?_
       refine AWp.cond rfl (fun hg186 => ?_) (fun hg186 => ?_)
       ·replace h := ite_t hg186 h
        obtain ⟨x187, hx187, h⟩ := bindS h
        obtain ⟨x188, hx188, h⟩ := bindS h
        refine rg (c (mv hN (q 5)) rfl (c (mv hN (q 8)) rfl (c (fo 1007 3 [1] hN underlying99 3 tyS42 (q 7)) rfl (c (la hN 99 tyS42 (q 85)) rfl (c (OpJ.val (v' := (.ptr 3005 ((w64 ((s4.2.length : Int) - (1 : Int))).toNat * 6) [(w64 ((s4.2.length : Int) - (1 : Int))).toNat])) (by simp) (OpJ.indexS underlying66 tyS99 (idx_some hx187).1 (by have := idx_lt hx187; first | (simpa using this) | ((try simp only [List.length_map] at this); (try simp only [List.length_map]); omega)) (L rfl) (q 83) (q 84))) rfl (c (ov (.ptr 3005 (((w64 ((s4.2.length : Int) - (1 : Int))).toNat * 6) + 3) [(w64 ((s4.2.length : Int) - (1 : Int))).toNat, 1]) (fp hN underlying99 3 tyS42 _ (q 87))) rfl (cg (OpJ.storeR (e := 99) (sz := 6) (es' := (s4.2.set (w64 ((s4.2.length : Int) - (1 : Int))).toNat (api_Addr_.mk x188.ffrom x164.fto)).map e_api_Addr_) tyS42 (get_map e_api_Addr_ (idx_some hx188).2) (o := 3) (SetAt.dst1 (by rfl) (by rfl) (SetAt.here _ _) (by rfl) (by rfl) (by first | rfl | omega)) (by rfl) (map_set _ _ _ _) (by rfl) (by rfl) (q 88) (q 86)) rfl cn))))))) ?_
        apply blkQ_n
        apply blkQ_n
        exact hjj162 _ h _ _ (Mat.trans (mp [] [(2, (pt 1002)), (5, (.sref 3005 6 0 s4.2.length)), (16, (.sref 100000 6 0 r2.length)), (17, (i6 (r1.length : Int))), (18, (i6 s4.1))] [(1002, some (.box 73 (.st [(.func 50 []), (.func 52 []), (.func 133 [])]))), (3005, some (we_api_Addr__99_6 (s4.2.set (w64 ((s4.2.length : Int) - (1 : Int))).toNat (api_Addr_.mk x188.ffrom x164.fto)))), (100000, some (we_api_Addr__99_6 r2))] hB) (Mat.trans (Mat.lenP (Ts := [(5, (.sref 3005 6 0 ((s4.2.set (w64 ((s4.2.length : Int) - (1 : Int))).toNat (api_Addr_.mk x188.ffrom x164.fto)).length)))]) (Bs := []) (TwT.cons (x := (.sref 3005 6 0 s4.2.length)) (by rfl) (Tw.leaf ⟨_, _, _, _, _, rfl, rfl, (by first | rfl | (simp; done) | (simp; omega) | omega)⟩) TwT.nil) TwB.nil) (mp [] _ _ hB)))
       ·replace h := ite_f hg186 h
        apply AWp.skip
        apply blkQ_n
        apply blkQ_n
        exact hjj162 _ h _ _ (mp [] _ _ hB)
     ·obtain ⟨x189, hx189, h⟩ := bindS h
      obtain ⟨x190, hx190, h⟩ := bindS h
      obtain ⟨r191, hr191, h⟩ := bindS h
      rcases Bool.eq_false_or_eq_true (decide ((0 : Int) < r191)) with hg192 | hg192
      ·replace h := ite_t hg192 h
       rcases Bool.eq_false_or_eq_true r169.2 with hg193 | hg193
       ·replace h := ite_t hg193 h
        obtain ⟨r194, hr194, h⟩ := bindS h
        refine dr (c (fo 1002 0 [0] hN underlying73 0 tyS71 (q 2)) rfl (c (lb hN 73 _ (.func 50 []) tyS71 (At.st1 (f := (.func 50 [])) (by rfl) (by rfl) (At.here _) (by first | rfl | omega)) (q 43)) rfl (c (fo 1007 0 [0] hN underlying99 0 tyS42 (q 7)) rfl (c (la hN 99 tyS42 (q 45)) rfl (c (mv hN (q 5)) rfl (c (mv hN (q 8)) rfl (c (OpJ.val (v' := (.ptr 3005 ((w64 ((s4.2.length : Int) - (1 : Int))).toNat * 6) [(w64 ((s4.2.length : Int) - (1 : Int))).toNat])) (by simp) (OpJ.indexS underlying66 tyS99 (idx_some hx189).1 (by have := idx_lt hx189; first | (simpa using this) | ((try simp only [List.length_map] at this); (try simp only [List.length_map]); omega)) (L rfl) (q 47) (q 48))) rfl (c (ov (.ptr 3005 (((w64 ((s4.2.length : Int) - (1 : Int))).toNat * 6) + 3) [(w64 ((s4.2.length : Int) - (1 : Int))).toNat, 1]) (fp hN underlying99 3 tyS42 _ (q 49))) rfl (c (OpJ.loadR (e := 99) (sz := 6) tyS42 (get_map e_api_Addr_ (idx_some hx190).2) (o := 3) (ad _) (by rfl) (by rfl) (by rfl) (L rfl) (q 50)) rfl (cg (OpJ.callVal (args := [(.d (e_api_Addr x164.ffrom)), (.d (e_api_Addr x190.fto))]) (caps := []) hB fnOk50 [] (addr_Cmp_ac x164.ffrom x190.fto r191 hr191) (by kernel_rfl) (L rfl) (by kernel_rfl) (by kernel_rfl) (OpdL.cons (q 46) (OpdL.cons (q 51) OpdL.nil))) rfl (c (OpJ.gtr (L rfl) (q 52) (Opd.int .i64 (0))) rfl (c (OpJ.val (v' := .d (.bool true)) (by rw [hg192] <;> rfl) (mv hN (q 53))) rfl (c (gd 54 (mv hN (q 10))) rfl (c (gd 54 (OpJ.val (v' := .d (.bool true)) (by rw [hg193] <;> rfl) (mv hN (q 55)))) rfl (c (gd 56 (fo 1002 0 [0] hN underlying73 0 tyS71 (q 2))) rfl (c (gd 56 (lb hN 73 _ (.func 50 []) tyS71 (At.st1 (f := (.func 50 [])) (by rfl) (by rfl) (At.here _) (by first | rfl | omega)) (q 57))) rfl (c (gd 56 (lb hN 42 _ _ tyS42 (At.here _) (q 9))) rfl (c (gd 56 (fo 1007 0 [0] hN underlying99 0 tyS42 (q 7))) rfl (c (gd 56 (la hN 99 tyS42 (q 60))) rfl (cg (gd 56 (OpJ.callVal (args := [(.d (e_api_Addr r169.1)), (.d (e_api_Addr x164.ffrom))]) (caps := []) hB fnOk50 [] (addr_Cmp_ac r169.1 x164.ffrom r194 hr194) (by kernel_rfl) (L rfl) (by kernel_rfl) (by kernel_rfl) (OpdL.cons (q 59) (OpdL.cons (q 61) OpdL.nil)))) rfl (c (gd 56 (OpJ.eqlI (L rfl) (q 62) (Opd.int .i64 (0)))) rfl (c (gd 54 (OpJ.pickT (L rfl) (q 56) (q 63))) rfl (c (gd 54 (OpJ.not (L rfl) (q 64))) rfl (c (OpJ.pickT (L rfl) (q 54) (q 65)) rfl (c (OpJ.assign (L rfl) (q 66)) rfl cn))))))))))))))))))))))))) (by kernel_rfl) (by kernel_rfl) ?_
        exact hjj180 _ h _ _ (mp [] _ _ hB)
       ·replace h := ite_f hg193 h
        refine dr (c (fo 1002 0 [0] hN underlying73 0 tyS71 (q 2)) rfl (c (lb hN 73 _ (.func 50 []) tyS71 (At.st1 (f := (.func 50 [])) (by rfl) (by rfl) (At.here _) (by first | rfl | omega)) (q 43)) rfl (c (fo 1007 0 [0] hN underlying99 0 tyS42 (q 7)) rfl (c (la hN 99 tyS42 (q 45)) rfl (c (mv hN (q 5)) rfl (c (mv hN (q 8)) rfl (c (OpJ.val (v' := (.ptr 3005 ((w64 ((s4.2.length : Int) - (1 : Int))).toNat * 6) [(w64 ((s4.2.length : Int) - (1 : Int))).toNat])) (by simp) (OpJ.indexS underlying66 tyS99 (idx_some hx189).1 (by have := idx_lt hx189; first | (simpa using this) | ((try simp only [List.length_map] at this); (try simp only [List.length_map]); omega)) (L rfl) (q 47) (q 48))) rfl (c (ov (.ptr 3005 (((w64 ((s4.2.length : Int) - (1 : Int))).toNat * 6) + 3) [(w64 ((s4.2.length : Int) - (1 : Int))).toNat, 1]) (fp hN underlying99 3 tyS42 _ (q 49))) rfl (c (OpJ.loadR (e := 99) (sz := 6) tyS42 (get_map e_api_Addr_ (idx_some hx190).2) (o := 3) (ad _) (by rfl) (by rfl) (by rfl) (L rfl) (q 50)) rfl (cg (OpJ.callVal (args := [(.d (e_api_Addr x164.ffrom)), (.d (e_api_Addr x190.fto))]) (caps := []) hB fnOk50 [] (addr_Cmp_ac x164.ffrom x190.fto r191 hr191) (by kernel_rfl) (L rfl) (by kernel_rfl) (by kernel_rfl) (OpdL.cons (q 46) (OpdL.cons (q 51) OpdL.nil))) rfl (c (OpJ.gtr (L rfl) (q 52) (Opd.int .i64 (0))) rfl (c (OpJ.val (v' := .d (.bool true)) (by rw [hg192] <;> rfl) (mv hN (q 53))) rfl (c (gd 54 (mv hN (q 10))) rfl (c (gd 54 (OpJ.val (v' := .d (.bool false)) (by rw [hg193] <;> rfl) (mv hN (q 55)))) rfl (cg (sU 56 (L rfl)) rfl (cg (sU 56 (L rfl)) rfl (cg (sU 56 (L rfl)) rfl (cg (sU 56 (L rfl)) rfl (cg (sU 56 (L rfl)) rfl (cg (sU 56 (L rfl)) rfl (cg (sU 56 (L rfl)) rfl (c (gd 54 (OpJ.pickF (L rfl) (q 56) (Opd.bool false))) rfl (c (gd 54 (OpJ.not (L rfl) (q 64))) rfl (c (OpJ.pickT (L rfl) (q 54) (q 65)) rfl (c (OpJ.assign (L rfl) (q 66)) rfl cn))))))))))))))))))))))))) (by kernel_rfl) (by kernel_rfl) ?_
        exact hjj180 _ h _ _ (mp [] _ _ hB)
      ·replace h := ite_f hg192 h
       refine dr (c (fo 1002 0 [0] hN underlying73 0 tyS71 (q 2)) rfl (c (lb hN 73 _ (.func 50 []) tyS71 (At.st1 (f := (.func 50 [])) (by rfl) (by rfl) (At.here _) (by first | rfl | omega)) (q 43)) rfl (c (fo 1007 0 [0] hN underlying99 0 tyS42 (q 7)) rfl (c (la hN 99 tyS42 (q 45)) rfl (c (mv hN (q 5)) rfl (c (mv hN (q 8)) rfl (c (OpJ.val (v' := (.ptr 3005 ((w64 ((s4.2.length : Int) - (1 : Int))).toNat * 6) [(w64 ((s4.2.length : Int) - (1 : Int))).toNat])) (by simp) (OpJ.indexS underlying66 tyS99 (idx_some hx189).1 (by have := idx_lt hx189; first | (simpa using this) | ((try simp only [List.length_map] at this); (try simp only [List.length_map]); omega)) (L rfl) (q 47) (q 48))) rfl (c (ov (.ptr 3005 (((w64 ((s4.2.length : Int) - (1 : Int))).toNat * 6) + 3) [(w64 ((s4.2.length : Int) - (1 : Int))).toNat, 1]) (fp hN underlying99 3 tyS42 _ (q 49))) rfl (c (OpJ.loadR (e := 99) (sz := 6) tyS42 (get_map e_api_Addr_ (idx_some hx190).2) (o := 3) (ad _) (by rfl) (by rfl) (by rfl) (L rfl) (q 50)) rfl (cg (OpJ.callVal (args := [(.d (e_api_Addr x164.ffrom)), (.d (e_api_Addr x190.fto))]) (caps := []) hB fnOk50 [] (addr_Cmp_ac x164.ffrom x190.fto r191 hr191) (by kernel_rfl) (L rfl) (by kernel_rfl) (by kernel_rfl) (OpdL.cons (q 46) (OpdL.cons (q 51) OpdL.nil))) rfl (c (OpJ.gtr (L rfl) (q 52) (Opd.int .i64 (0))) rfl (c (OpJ.val (v' := .d (.bool false)) (by rw [hg192] <;> rfl) (mv hN (q 53))) rfl (cg (sU 54 (L rfl)) rfl (cg (sU 54 (L rfl)) rfl (cg (sV 56 (L rfl)) rfl (cg (sV 56 (L rfl)) rfl (cg (sV 56 (L rfl)) rfl (cg (sV 56 (L rfl)) rfl (cg (sV 56 (L rfl)) rfl (cg (sV 56 (L rfl)) rfl (cg (sV 56 (L rfl)) rfl (cg (sU 54 (L rfl)) rfl (cg (sU 54 (L rfl)) rfl (c (OpJ.pickF (L rfl) (q 54) (Opd.bool false)) rfl (c (OpJ.assign (L rfl) (q 66)) rfl cn))))))))))))))))))))))))) (by kernel_rfl) (by kernel_rfl) ?_
       exact hjj180 _ h _ _ (mp [] _ _ hB)
  ·replace h := ite_f hg128 h
   apply AWp.exit
   apply seqQ_e
   obtain rfl := Option.some.inj h
   exact ⟨(fun hc => by cases hc), rfl, (mp [] _ _ hB)⟩
 ·obtain ⟨rfl, hmat⟩ := hR
  apply blkQ_hit
  apply seqQ_n
  refine AWp.ghost hmat ?_
  refine sr (c (mv hN (q 5)) rfl (c (OpJ.assign (L rfl) (q 90)) rfl cn)) ?_
  apply AWp.ret
  obtain rfl := Option.some.inj h
  exact ⟨.inl rfl, _, _, (Mat.trans (Mat.freezeP (n := 3005) (e := 99) (sz := 6) (es := p127.map e_api_Addr_) (Ts := [(4, (qe_api_Addr__6 p127))]) (Bs := []) (by rfl) (TwT.cons (x := (.sref 3005 6 0 p127.length)) (by rfl) (FrzL.all (by first | rfl | (simp; done) | (simp; omega) | omega)) TwT.nil) TwB.nil) (mp [] [(4, (qe_api_Addr__6 p127))] [] hB)), [(qe_api_Addr__6 p127)], (Res.tmp (by rfl) (by rfl) Res.nil), rfl, by rfl, by rfl, by rfl⟩
noncomputable def resource_of_3_L0 (a0 : api_Resources) (s1 : Int × (List api_Addr_)) : Option ((((List api_Addr_))) ⊕ (Int × (List api_Addr_))) :=
 (if (decide (s1.1 < (a0.fAddrs.length : Int))) = true then
 (idx a0.fAddrs s1.1).bind fun x10 =>
 chk (decide ((s1.2 ++ ([(api_Addr_.mk x10.fFrom x10.fTo)] : List api_Addr_)).length ≤ LIM)) <|
 some (.inr ((w64 (s1.1 + (1 : Int))), (s1.2 ++ ([(api_Addr_.mk x10.fFrom x10.fTo)] : List api_Addr_))))
 else
 some (.inl s1.2))
noncomputable def resource_of_3_L1 (a0 : api_Resources) (s14 : Int × (List resource_part_int_)) : Option ((((List resource_part_int_))) ⊕ (Int × (List resource_part_int_))) :=
 (if (decide (s14.1 < (a0.fASNs.length : Int))) = true then
 (idx a0.fASNs s14.1).bind fun x23 =>
 chk (decide ((s14.2 ++ ([(resource_part_int_.mk x23.fFrom x23.fTo)] : List resource_part_int_)).length ≤ LIM)) <|
 some (.inr ((w64 (s14.1 + (1 : Int))), (s14.2 ++ ([(resource_part_int_.mk x23.fFrom x23.fTo)] : List resource_part_int_))))
 else
 some (.inl s14.2))
noncomputable def resource_of_3 (a0 : api_Resources) : Option (resource_set) :=
 (loop (resource_of_3_L0 a0) ((0 : Int), ([] : List api_Addr_))).bind fun p8 =>
 (loop (resource_of_3_L1 a0) ((0 : Int), ([] : List resource_part_int_))).bind fun p21 =>
 some (resource_set.mk p8 p21)
theorem resource_of_3_ac (a0 : api_Resources) (r : resource_set) (h : resource_of_3 a0 = some r) : AC Tryz.prog 29 [(.d (e_api_Resources a0))] [] (.st [(.sref 900000 6 0 r.faddrs.length), (.sref 900001 2 0 r.fasns.length)]) [(900000, some (.row 99 6 (r.faddrs.map e_api_Addr_))), (900001, some (.row 101 2 (r.fasns.map e_resource_part_int_)))] := by
 refine AC.of_code2 Tryz.func29 rfl rfl (Nat.le_of_ble_eq_true (by rfl)) fun B hB hN => ?_
 have L {d : Nat} (h : Nat.blt d Tryz.f29.ntmps = true) : d < B.N := ltN hN h
 delta resource_of_3 at h
 refine sr (cg (OpJ.box hB (nm := 1001) (by decide) (by simp) rfl (L rfl) (q 0)) rfl (cg (OpJ.alloc hB tyZ69 (nm := 1002) (by decide) (L rfl)) rfl cn)) ?_
 refine sr (cg (OpJ.alloc hB tyZ69 (nm := 1003) (by decide) (L rfl)) rfl cn) ?_
 apply AWp.seq
 refine sr (c (fo 1001 0 [0] hN underlying25 0 tyS22 (q 1)) rfl (c (la hN 25 tyS22 (q 8)) rfl (c (OpJ.val (v' := (i6 (a0.fAddrs.length : Int))) (by simp) (OpJ.lenD underlying22 (L rfl) (q 9))) rfl (c (mv hN (Opd.int .i64 (0))) rfl cn)))) ?_
 apply AWp.block
 obtain ⟨p8, hx13, h⟩ := bindS h
 refine lg (resource_of_3_L0 a0) (fun s1 : Int × (List api_Addr_) => ([(1, (pt 1001)), (2, (pt 1002)), (3, (pt 1003)), (9, (qe_api_Range_6 a0.fAddrs)), (10, (i6 (a0.fAddrs.length : Int))), (11, (i6 s1.1))] : EL)) (fun s1 : Int × (List api_Addr_) => ([(1001, bd 25 (e_api_Resources a0)), (1002, some (.box 69 (.st [.nils, .nils]))), (1003, some (.box 69 (.st [(.sref 13030 6 0 s1.2.length), .nils]))), (13030, some (we_api_Addr__99_6 s1.2))] : OL)) (fun (p8 : ((List api_Addr_))) e E' O' => e = .exit 0 ∧ Mat B E' O' ([(1, (pt 1001)), (2, (pt 1002)), (3, (pt 1003))] : EL) ([(1001, bd 25 (e_api_Resources a0)), (1002, some (.box 69 (.st [.nils, .nils]))), (1003, some (.box 69 (.st [(.sref 13030 6 0 p8.length), .nils]))), (13030, some (we_api_Addr__99_6 p8))] : OL)) hx13 (Mat.trans (Mat.beginP (n := 13030) (e := 99) (sz := 6) (Ts := []) (Bs := [(1003, some (.box 69 (.st [(.sref 13030 6 0 0), .nils])))]) hB (by decide) (by rfl) (by decide) TwT.nil (TwB.cons (x := (.st [.nils, .nils])) (by rfl) (Tw.st (TwL.cons (Tw.leaf ⟨rfl, rfl⟩) (TwL.cons (Tw.same _) TwL.nil))) TwB.nil)) (mp [] _ _ hB)) (fun s1 y h => ?_) (fun e E' O' hR => ?_)
 ·unfold resource_of_3_L0 at h
  refine sr (c (OpJ.lss (L rfl) (q 11) (q 10)) rfl cn) ?_
  apply AWp.seq
  refine AWp.cond rfl (fun hg9 => ?_) (fun hg9 => ?_)
  ·replace h := ite_t hg9 h
   apply AWp.skip
   apply seqQ_n
   apply AWp.seq
   apply AWp.block
   obtain ⟨x10, hx10, h⟩ := bindS h
   refine sr (c (OpJ.indexD underlying22 tyS46 (idx_some hx10).1 (get_map e_api_Range (idx_some hx10).2) (L rfl) (q 9) (q 11)) rfl (c (OpJ.loadD tyS46 (by rfl) (by rfl) (L rfl) (q 13)) rfl (cg (OpJ.alloc hB tyZ46 (nm := 1005) (by decide) (L rfl)) rfl (cg (sB tyS46 (q 5) (q 14)) rfl cn)))) ?_
   obtain ⟨hc11, h⟩ := chk_some h
   refine rg (c (fo 1003 0 [0] hN underlying69 0 tyS66 (q 3)) rfl (c (lb hN 69 _ (.sref 13030 6 0 s1.2.length) tyS66 (At.st1 (f := (.sref 13030 6 0 s1.2.length)) (by rfl) (by rfl) (At.here _) (by first | rfl | omega)) (q 15)) rfl (c (fo 1005 0 [0] hN underlying46 0 tyS42 (q 5)) rfl (c (la hN 46 tyS42 (q 17)) rfl (c (fo 1005 3 [1] hN underlying46 3 tyS42 (q 5)) rfl (c (la hN 46 tyS42 (q 19)) rfl (c (OpJ.coe (v := (.st [(.d (e_api_Addr x10.fFrom)), (.d (e_api_Addr x10.fTo))])) (y := (.st [(e_api_Addr x10.fFrom), (e_api_Addr x10.fTo)])) (Co.st (CoL.cons (Co.d _) (CoL.cons (Co.d _) CoL.nil))) rfl (OpJ.build (places := [(0, 3), (3, 3)]) ⟨underlying99, fun w => by kernel_rfl⟩ tyZS99 (Opds.cons (q 18) (Opds.cons (q 20) Opds.nil)) (by kernel_rfl) (r := (.st [(.d (e_api_Addr x10.fFrom)), (.d (e_api_Addr x10.fTo))])) (by rfl) (L rfl))) rfl (c (OpJ.buildSlice underlying66 tyS99 tyZD99 (by rfl) (by decide) (by decide) (Opds.cons (q 21) Opds.nil) (by kernel_rfl) (es := ([(.st [(e_api_Addr x10.fFrom), (e_api_Addr x10.fTo)])] : List D)) (by rfl) (by rfl) (by kernel_rfl) (by simp) (L rfl)) rfl (cg (apd hB underlying66 tyE99 1023 e_api_Addr_ s1.2 ([(api_Addr_.mk x10.fFrom x10.fTo)] : List api_Addr_) hc11 (L rfl) (q 16) (q 22)) rfl (c (fo 1003 0 [0] hN underlying69 0 tyS66 (q 3)) rfl (cg (OpJ.storeB (c' := (.st [(.sref 1023 6 0 ((s1.2 ++ ([(api_Addr_.mk x10.fFrom x10.fTo)] : List api_Addr_)).length)), .nils])) tyS66 (SetAt.st1 (f := (.sref 13030 6 0 s1.2.length)) (by rfl) (by rfl) (SetAt.here _ _) (by rfl) (by rfl) (by first | rfl | omega)) (by rfl) (by rfl) (by simp) rfl (q 24) (q 23)) rfl cn))))))))))) ?_
   apply blkQ_n
   apply seqQ_n
   refine rg (c (add6 (L rfl) (q 11) (Opd.int .i64 (1))) rfl (c (mv hN (q 25)) rfl cn)) ?_
   obtain rfl := Option.some.inj h
   exact ⟨rfl, (mp [(13030, 1023)] _ _ hB)⟩
  ·replace h := ite_f hg9 h
   apply AWp.exit
   apply seqQ_e
   obtain rfl := Option.some.inj h
   exact ⟨(fun hc => by cases hc), rfl, (mp [] _ _ hB)⟩
 ·obtain ⟨rfl, hmat⟩ := hR
  apply blkQ_hit
  apply seqQ_n
  refine AWp.ghost hmat ?_
  apply AWp.seq
  refine sr (c (fo 1001 1 [1] hN underlying25 1 tyS23 (q 1)) rfl (c (la hN 25 tyS23 (q 26)) rfl (c (OpJ.val (v' := (i6 (a0.fASNs.length : Int))) (by simp) (OpJ.lenD underlying23 (L rfl) (q 27))) rfl (c (mv hN (Opd.int .i64 (0))) rfl cn)))) ?_
  apply AWp.block
  obtain ⟨p21, hx26, h⟩ := bindS h
  refine lg (resource_of_3_L1 a0) (fun s14 : Int × (List resource_part_int_) => ([(2, (pt 1002)), (3, (pt 1003)), (27, (qe_api_Span_2 a0.fASNs)), (28, (i6 (a0.fASNs.length : Int))), (29, (i6 s14.1))] : EL)) (fun s14 : Int × (List resource_part_int_) => ([(1002, some (.box 69 (.st [.nils, .nils]))), (1003, some (.box 69 (.st [(.sref 13030 6 0 p8.length), (.sref 13031 2 0 s14.2.length)]))), (13030, some (we_api_Addr__99_6 p8)), (13031, some (.row 101 2 (s14.2.map e_resource_part_int_)))] : OL)) (fun (p21 : ((List resource_part_int_))) e E' O' => e = .exit 2 ∧ Mat B E' O' ([(2, (pt 1002)), (3, (pt 1003))] : EL) ([(1002, some (.box 69 (.st [.nils, .nils]))), (1003, some (.box 69 (.st [(.sref 13030 6 0 p8.length), (.sref 13031 2 0 p21.length)]))), (13030, some (we_api_Addr__99_6 p8)), (13031, some (.row 101 2 (p21.map e_resource_part_int_)))] : OL)) hx26 (Mat.trans (Mat.beginP (n := 13031) (e := 101) (sz := 2) (Ts := []) (Bs := [(1003, some (.box 69 (.st [(.sref 13030 6 0 p8.length), (.sref 13031 2 0 0)])))]) hB (by decide) (by rfl) (by decide) TwT.nil (TwB.cons (x := (.st [(.sref 13030 6 0 p8.length), .nils])) (by rfl) (Tw.st (TwL.cons (Tw.same _) (TwL.cons (Tw.leaf ⟨rfl, rfl⟩) TwL.nil))) TwB.nil)) (mp [] _ _ hB)) (fun s14 y h => ?_) (fun e E' O' hR => ?_)
  ·unfold resource_of_3_L1 at h
   refine sr (c (OpJ.lss (L rfl) (q 29) (q 28)) rfl cn) ?_
   apply AWp.seq
   refine AWp.cond rfl (fun hg22 => ?_) (fun hg22 => ?_)
   ·replace h := ite_t hg22 h
    apply AWp.skip
    apply seqQ_n
    apply AWp.seq
    apply AWp.block
    obtain ⟨x23, hx23, h⟩ := bindS h
    refine sr (c (OpJ.indexD underlying23 tyS62 (idx_some hx23).1 (get_map e_api_Span (idx_some hx23).2) (L rfl) (q 27) (q 29)) rfl (c (OpJ.loadD tyS62 (by rfl) (by rfl) (L rfl) (q 31)) rfl (cg (OpJ.alloc hB tyZ62 (nm := 1007) (by decide) (L rfl)) rfl (cg (sB tyS62 (q 7) (q 32)) rfl cn)))) ?_
    obtain ⟨hc24, h⟩ := chk_some h
    refine rg (c (fo 1003 1 [1] hN underlying69 1 tyS67 (q 3)) rfl (c (lb hN 69 _ (.sref 13031 2 0 s14.2.length) tyS67 (At.st1 (f := (.sref 13031 2 0 s14.2.length)) (by rfl) (by rfl) (At.here _) (by first | rfl | omega)) (q 33)) rfl (c (fo 1007 0 [0] hN underlying62 0 tyS3 (q 7)) rfl (c (la hN 62 tyS3 (q 35)) rfl (c (fo 1007 1 [1] hN underlying62 1 tyS3 (q 7)) rfl (c (la hN 62 tyS3 (q 37)) rfl (c (OpJ.coe (v := (.st [(i6 x23.fFrom), (i6 x23.fTo)])) (y := (.st [(.int .i64 x23.fFrom), (.int .i64 x23.fTo)])) (Co.st (CoL.cons (Co.d _) (CoL.cons (Co.d _) CoL.nil))) rfl (OpJ.build (places := [(0, 1), (1, 1)]) ⟨underlying101, fun w => by kernel_rfl⟩ tyZS101 (Opds.cons (q 36) (Opds.cons (q 38) Opds.nil)) (by kernel_rfl) (r := (.st [(i6 x23.fFrom), (i6 x23.fTo)])) (by rfl) (L rfl))) rfl (c (OpJ.buildSlice underlying67 tyS101 tyZD101 (by rfl) (by decide) (by decide) (Opds.cons (q 39) Opds.nil) (by kernel_rfl) (es := ([(.st [(.int .i64 x23.fFrom), (.int .i64 x23.fTo)])] : List D)) (by rfl) (by rfl) (by kernel_rfl) (by simp) (L rfl)) rfl (cg (apd hB underlying67 tyE101 1041 e_resource_part_int_ s14.2 ([(resource_part_int_.mk x23.fFrom x23.fTo)] : List resource_part_int_) hc24 (L rfl) (q 34) (q 40)) rfl (c (fo 1003 1 [1] hN underlying69 1 tyS67 (q 3)) rfl (cg (OpJ.storeB (c' := (.st [(.sref 13030 6 0 p8.length), (.sref 1041 2 0 ((s14.2 ++ ([(resource_part_int_.mk x23.fFrom x23.fTo)] : List resource_part_int_)).length))])) tyS67 (SetAt.st1 (f := (.sref 13031 2 0 s14.2.length)) (by rfl) (by rfl) (SetAt.here _ _) (by rfl) (by rfl) (by first | rfl | omega)) (by rfl) (by rfl) (by simp) rfl (q 42) (q 41)) rfl cn))))))))))) ?_
    apply blkQ_n
    apply seqQ_n
    refine rg (c (add6 (L rfl) (q 29) (Opd.int .i64 (1))) rfl (c (mv hN (q 43)) rfl cn)) ?_
    obtain rfl := Option.some.inj h
    exact ⟨rfl, (mp [(13031, 1041)] _ _ hB)⟩
   ·replace h := ite_f hg22 h
    apply AWp.exit
    apply seqQ_e
    obtain rfl := Option.some.inj h
    exact ⟨(fun hc => by cases hc), rfl, (mp [] _ _ hB)⟩
  ·obtain ⟨rfl, hmat⟩ := hR
   apply blkQ_hit
   apply seqQ_n
   refine AWp.ghost hmat ?_
   refine sr (c (lb hN 69 _ _ tyS69 (At.here _) (q 3)) rfl (cg (sB tyS69 (q 2) (q 44)) rfl cn)) ?_
   apply AWp.ret
   obtain rfl := Option.some.inj h
   exact ⟨.inl rfl, _, _, (mp [(900000, 13030), (900001, 13031)] [(2, (pt 1002))] [(1002, some (.box 69 (.st [(.sref 900000 6 0 p8.length), (.sref 900001 2 0 p21.length)]))), (900000, some (we_api_Addr__99_6 p8)), (900001, some (.row 101 2 (p21.map e_resource_part_int_)))] hB), [(.st [(.sref 900000 6 0 p8.length), (.sref 900001 2 0 p21.length)])], (Res.cell (c := (.st [(.sref 900000 6 0 p8.length), (.sref 900001 2 0 p21.length)])) (by rfl) (by rfl) tyS69 (by rfl) (by rfl) (by rfl) Res.nil), rfl, by rfl, by rfl, by rfl⟩
noncomputable def ext60_slices_Clone_R (a0 : (List resource_part_int_)) : Option (List resource_part_int_) := chk (decide (a0.length ≤ LIM)) <|
 some a0
theorem ext60_slices_Clone_R_ac (a0 : (List resource_part_int_)) (r : List resource_part_int_) (h : ext60_slices_Clone_R a0 = some r) : AC Tryz.prog 60 [(.d (.list 2 (a0.map e_resource_part_int_)))] [] (.sref 900000 2 0 r.length) [(900000, some (.row 101 2 (r.map e_resource_part_int_)))] := by
 obtain ⟨hc, h⟩ := chk_some h
 obtain rfl := Option.some.inj h
 exact AC.cloneR cloneOk60 (by simp) (by rw [List.length_map]; exact lim_mulN hc (by decide)) (map_sz (f := e_resource_part_int_) (fun _ => rfl))
noncomputable def resource_order_normal_1_2 (a0 : resource_part_int_) (a1 : resource_part_int_) : Option (Int) :=
 (cmp_Compare a0.ffrom a1.ffrom).bind fun r1 =>
 some r1
theorem resource_order_normal_1_2_ac (a0 : resource_part_int_) (a1 : resource_part_int_) (r : Int) (h : resource_order_normal_1_2 a0 a1 = some r) : AC Tryz.prog 62 [(.d (e_resource_part_int_ a0)), (.d (e_resource_part_int_ a1)), (pt 0)] [(0, (.box 77 (.st [(.func 71 []), (.func 134 []), (.func 135 [])])))] (.d (.int .i64 r)) [(0, some (.box 77 (.st [(.func 71 []), (.func 134 []), (.func 135 [])])))] := by
 refine AC.of_code2 Tryz.func62 rfl rfl (Nat.le_of_ble_eq_true (by rfl)) fun B hB hN => ?_
 delta resource_order_normal_1_2 at h
 refine sr (cg (OpJ.box hB (nm := 1003) (by decide) (by simp) rfl (ltN hN rfl) (q 0)) rfl (cg (OpJ.box hB (nm := 1004) (by decide) (by simp) rfl (ltN hN rfl) (q 1)) rfl (c (OpJ.assign (ltN hN rfl) (Opd.int .i64 (0))) rfl cn))) ?_
 obtain ⟨r1, hr1, h⟩ := bindS h
 refine sr (c (fo 0 0 [0] hN underlying77 0 tyS50 (q 2)) rfl (c (lb hN 77 _ (.func 71 []) tyS50 (At.st1 (f := (.func 71 [])) (by rfl) (by rfl) (At.here _) (by first | rfl | omega)) (q 6)) rfl (c (fo 1003 0 [0] hN underlying101 0 tyS3 (q 3)) rfl (c (la hN 101 tyS3 (q 8)) rfl (c (fo 1004 0 [0] hN underlying101 0 tyS3 (q 4)) rfl (c (la hN 101 tyS3 (q 10)) rfl (cg (OpJ.callVal (args := [(i6 a0.ffrom), (i6 a1.ffrom)]) (caps := []) hB fnOk71 [] (cmp_Compare_ac a0.ffrom a1.ffrom r1 hr1) (by kernel_rfl) (ltN hN rfl) (by kernel_rfl) (by kernel_rfl) (OpdL.cons (q 9) (OpdL.cons (q 11) OpdL.nil))) rfl (c (OpJ.assign (ltN hN rfl) (q 12)) rfl cn)))))))) ?_
 apply AWp.ret
 obtain rfl := Option.some.inj h
 exact ⟨.inl rfl, _, _, (kp [(5, _)] [(0, some _)] hB rfl rfl (by rfl)), [(i6 r1)], (Res.tmp (by rfl) (by rfl) Res.nil), rfl, by rfl, by rfl, by rfl⟩
noncomputable def ext61_slices_SortFunc_resource_order_normal_1_2 (a0 : (List resource_part_int_)) : Option (List resource_part_int_) := sortF a0 fun x y => resource_order_normal_1_2 x y
theorem ext61_slices_SortFunc_resource_order_normal_1_2_ac (a0 : (List resource_part_int_)) (r : List resource_part_int_) (h : ext61_slices_SortFunc_resource_order_normal_1_2 a0 = some r) : AC Tryz.prog 61 [(.sref 900 2 0 a0.length), (.func 62 [(pt 0)])] [(0, (.box 77 (.st [(.func 71 []), (.func 134 []), (.func 135 [])]))), (900, (.row 101 2 (a0.map e_resource_part_int_)))] (.tup []) [(0, some (.box 77 (.st [(.func 71 []), (.func 134 []), (.func 135 [])]))), (900, some (.row 101 2 (r.map e_resource_part_int_)))] :=
 AC.sortFC e_resource_part_int_ (fun x y => resource_order_normal_1_2 x y) a0 r h sortOk61 fnOk62 (fun _ => rfl) (by rfl) (by rfl) rfl (fun x y c hc => resource_order_normal_1_2_ac x y c hc)
noncomputable def resource_order_normal_2_L0 (r1 : List resource_part_int_) (r2 : List resource_part_int_) (s4 : Int × (List resource_part_int_)) : Option ((((List resource_part_int_))) ⊕ (Int × (List resource_part_int_))) :=
 (if (decide (s4.1 < (r1.length : Int))) = true then
 jn (fun m161 : (List resource_part_int_) =>
 some (.inr ((w64 (s4.1 + (1 : Int))), m161))) (fun j162 =>
 (idx r2 s4.1).bind fun x163 =>
 (idx r2 s4.1).bind fun x164 =>
 (if (decide ((w64 ((s4.2.length : Int) - (1 : Int))) < (0 : Int))) = true then
 chk (decide ((s4.2 ++ ([x164] : List resource_part_int_)).length ≤ LIM)) <|
 j162 (s4.2 ++ ([x164] : List resource_part_int_))
 else
 (idx s4.2 (w64 ((s4.2.length : Int) - (1 : Int)))).bind fun x167 =>
 (idx s4.2 (w64 ((s4.2.length : Int) - (1 : Int)))).bind fun x168 =>
 (resource_numbers_1 x168.fto).bind fun r169 =>
 jn (fun m179 : Bool =>
 (if m179 = true then
 chk (decide ((s4.2 ++ ([x164] : List resource_part_int_)).length ≤ LIM)) <|
 j162 (s4.2 ++ ([x164] : List resource_part_int_))
 else
 (idx s4.2 (w64 ((s4.2.length : Int) - (1 : Int)))).bind fun x183 =>
 (idx s4.2 (w64 ((s4.2.length : Int) - (1 : Int)))).bind fun x184 =>
 (cmp_Compare x164.fto x184.fto).bind fun r185 =>
 (if (decide ((0 : Int) < r185)) = true then
 (idx s4.2 (w64 ((s4.2.length : Int) - (1 : Int)))).bind fun x187 =>
 (idx s4.2 (w64 ((s4.2.length : Int) - (1 : Int)))).bind fun x188 =>
 j162 (s4.2.set (w64 ((s4.2.length : Int) - (1 : Int))).toNat (resource_part_int_.mk x188.ffrom x164.fto))
 else
 j162 s4.2))) (fun j180 =>
 (idx s4.2 (w64 ((s4.2.length : Int) - (1 : Int)))).bind fun x189 =>
 (idx s4.2 (w64 ((s4.2.length : Int) - (1 : Int)))).bind fun x190 =>
 (cmp_Compare x164.ffrom x190.fto).bind fun r191 =>
 (if (decide ((0 : Int) < r191)) = true then
 (if r169.2 = true then
 (cmp_Compare r169.1 x164.ffrom).bind fun r194 =>
 j180 (!(r194 == (0 : Int)))
 else
 j180 (!false))
 else
 j180 false))))
 else
 some (.inl s4.2))
noncomputable def resource_order_normal_2 (a0 : (List resource_part_int_)) : Option ((List resource_part_int_)) :=
 (ext60_slices_Clone_R a0).bind fun r1 =>
 (ext61_slices_SortFunc_resource_order_normal_1_2 r1).bind fun r2 =>
 chk (decide (r2.length = r1.length)) <|
 (loop (resource_order_normal_2_L0 r1 r2) ((0 : Int), ([] : List resource_part_int_))).bind fun p127 =>
 some p127
theorem resource_order_normal_2_ac (a0 : (List resource_part_int_)) (r : (List resource_part_int_)) (h : resource_order_normal_2 a0 = some r) : AC Tryz.prog 31 [(.st [(.func 71 []), (.func 134 []), (.func 135 [])]), (.d (.list 2 (a0.map e_resource_part_int_)))] [] (.d (.list 2 (r.map e_resource_part_int_))) [] := by
 refine AC.of_code2 Tryz.func31 rfl rfl (Nat.le_of_ble_eq_true (by rfl)) fun B hB hN => ?_
 have L {d : Nat} (h : Nat.blt d Tryz.f31.ntmps = true) : d < B.N := ltN hN h
 delta resource_order_normal_2 at h
 refine sr (cg (OpJ.box hB (nm := 1002) (by decide) (by simp) rfl (L rfl) (q 0)) rfl (c (OpJ.assign (L rfl) Opd.nils) rfl cn)) ?_
 apply AWp.seq
 obtain ⟨r1, hr1, h⟩ := bindS h
 refine AWp.region (oc (mv hN (ot 1 (.d (.list 2 (a0.map e_resource_part_int_)))))
 (oc (OpJ.callFn hB fnOk60 (ext60_slices_Clone_R_ac a0 r1 hr1) [(900000, 100000)] (by kernel_rfl) (L rfl) (by kernel_rfl) (OpdL.cons (ot 11 (.d (.list 2 (a0.map e_resource_part_int_)))) OpdL.nil))
 (oc (OpJ.assign (L rfl) (ot 12 (.sref 100000 2 0 r1.length)))
 (OpJs.nil)))) (by rfl) (by rfl) ?_
 apply seqQ_n
 refine AWp.ghost (mp [] [(1, (.sref 100000 2 0 r1.length)), (2, (pt 1002))] [(1002, some (.box 77 (.st [(.func 71 []), (.func 134 []), (.func 135 [])]))), (100000, some (.row 101 2 (r1.map e_resource_part_int_)))] hB) ?_
 apply AWp.seq
 obtain ⟨r2, hr2, h⟩ := bindS h
 obtain ⟨hc3, h⟩ := chk_some h
 have lhc3 := of_decide_eq_true hc3
 have hc3_o := of_decide_eq_true hc3
 refine AWp.region (oc (mv hN (ot 1 (.sref 100000 2 0 r1.length)))
 (oc (OpJ.makeF (OpdL.cons (ot 2 (pt 1002)) OpdL.nil) rfl rfl (L rfl))
 (oc (OpJ.callFn hB fnOk61 (ext61_slices_SortFunc_resource_order_normal_1_2_ac r1 r2 hr2) [(900, 100000), (0, 1002)] (by kernel_rfl) (L rfl) (by kernel_rfl) (OpdL.cons (ot 13 (.sref 100000 2 0 r1.length)) (OpdL.cons (ot 14 (.func 62 [(pt 1002)])) OpdL.nil)))
 (OpJs.nil)))) (by rfl) (by rfl) ?_
 apply seqQ_n
 refine AWp.ghost (mp [] [(1, (.sref 100000 2 0 r1.length)), (2, (pt 1002))] [(1002, some (.box 77 (.st [(.func 71 []), (.func 134 []), (.func 135 [])]))), (100000, some (.row 101 2 (r2.map e_resource_part_int_)))] hB) ?_
 refine sr (c (OpJ.assign (L rfl) Opd.nils) rfl cn) ?_
 apply AWp.seq
 refine sr (c (mv hN (q 1)) rfl (c (OpJ.lenS underlying67 (L rfl) (q 16)) rfl (c (mv hN (Opd.int .i64 (0))) rfl cn))) ?_
 apply AWp.block
 obtain ⟨p127, hx196, h⟩ := bindS h
 refine lg (resource_order_normal_2_L0 r1 r2) (fun s4 : Int × (List resource_part_int_) => ([(2, (pt 1002)), (5, (.sref 3005 2 0 s4.2.length)), (16, (.sref 100000 2 0 r2.length)), (17, (i6 (r1.length : Int))), (18, (i6 s4.1))] : EL)) (fun s4 : Int × (List resource_part_int_) => ([(1002, some (.box 77 (.st [(.func 71 []), (.func 134 []), (.func 135 [])]))), (3005, some (.row 101 2 (s4.2.map e_resource_part_int_))), (100000, some (.row 101 2 (r2.map e_resource_part_int_)))] : OL)) (fun (p127 : ((List resource_part_int_))) e E' O' => e = .exit 0 ∧ Mat B E' O' ([(5, (.sref 3005 2 0 p127.length))] : EL) ([(3005, some (.row 101 2 (p127.map e_resource_part_int_)))] : OL)) hx196 (Mat.trans (Mat.beginP (n := 3005) (e := 101) (sz := 2) (Ts := [(5, (.sref 3005 2 0 0))]) (Bs := []) hB (by decide) (by rfl) (by decide) (TwT.cons (x := .nils) (by rfl) (Tw.leaf ⟨rfl, rfl⟩) TwT.nil) TwB.nil) (Mat.trans (Mat.lenP (Ts := [(16, (.sref 100000 2 0 r2.length))]) (Bs := []) (TwT.cons (x := (.sref 100000 2 0 r1.length)) (by rfl) (Tw.leaf ⟨_, _, _, _, _, rfl, rfl, (by first | rfl | (simp; done) | (simp; omega) | omega)⟩) TwT.nil) TwB.nil) (mp [] _ _ hB))) (fun s4 y h => ?_) (fun e E' O' hR => ?_)
 ·unfold resource_order_normal_2_L0 at h
  refine sr (c (OpJ.lss (L rfl) (q 18) (q 17)) rfl cn) ?_
  apply AWp.seq
  refine AWp.cond rfl (fun hg128 => ?_) (fun hg128 => ?_)
  ·replace h := ite_t hg128 h
   apply AWp.skip
   apply seqQ_n
   apply AWp.seq
   refine AWp.cut h (fun m161 : (List resource_part_int_) => ([(2, (pt 1002)), (5, (.sref 3005 2 0 m161.length)), (16, (.sref 100000 2 0 r2.length)), (17, (i6 (r1.length : Int))), (18, (i6 s4.1))] : EL)) (fun m161 : (List resource_part_int_) => ([(1002, some (.box 77 (.st [(.func 71 []), (.func 134 []), (.func 135 [])]))), (3005, some (.row 101 2 (m161.map e_resource_part_int_))), (100000, some (.row 101 2 (r2.map e_resource_part_int_)))] : OL)) (fun m161 h E' O' hmat => ?_) (fun j162 hjj162 h => ?_)
   ·apply seqQ_n
    refine AWp.ghost hmat ?_
    refine rg (c (add6 (L rfl) (q 18) (Opd.int .i64 (1))) rfl (c (mv hN (q 89)) rfl cn)) ?_
    obtain rfl := Option.some.inj h
    exact ⟨rfl, (mp [] _ _ hB)⟩
   ·apply AWp.block
    obtain ⟨x163, hx163, h⟩ := bindS h
    obtain ⟨x164, hx164, h⟩ := bindS h
    refine sr (c (OpJ.val (v' := (.ptr 100000 (s4.1.toNat * 2) [s4.1.toNat])) (by simp) (OpJ.indexS underlying67 tyS101 (idx_some hx163).1 (by have := idx_lt hx163; first | (simpa using this) | ((try simp only [List.length_map] at this); (try simp only [List.length_map]); omega)) (L rfl) (q 16) (q 18))) rfl (c (OpJ.loadR (e := 101) (sz := 2) tyS101 (get_map e_resource_part_int_ (idx_some hx164).2) (o := 0) (At.here _) (by rfl) (by rfl) (by rfl) (L rfl) (q 20)) rfl (cg (OpJ.alloc hB tyZ101 (nm := 1007) (by decide) (L rfl)) rfl (cg (sB tyS101 (q 7) (q 21)) rfl cn)))) ?_
    refine sr (c (mv hN (q 5)) rfl (c (OpJ.lenS underlying67 (L rfl) (q 22)) rfl (c (sub6 (L rfl) (q 23) (Opd.int .i64 (1))) rfl (c (OpJ.assign (L rfl) (q 24)) rfl cn)))) ?_
    apply AWp.seq
    refine sr (c (mv hN (q 8)) rfl (c (OpJ.lss (L rfl) (q 25) (Opd.int .i64 (0))) rfl cn)) ?_
    refine AWp.cond rfl (fun hg165 => ?_) (fun hg165 => ?_)
    ·replace h := ite_t hg165 h
     obtain ⟨hc166, h⟩ := chk_some h
     refine sr (c (mv hN (q 5)) rfl (c (lb hN 101 _ _ tyS101 (At.here _) (q 7)) rfl (c (OpJ.buildSlice underlying67 tyS101 tyZD101 (by rfl) (by decide) (by decide) (Opds.cons (q 28) Opds.nil) (by kernel_rfl) (es := ([(e_resource_part_int_ x164)] : List D)) (by rfl) (by rfl) (by kernel_rfl) (by simp) (L rfl)) rfl (cg (apd hB underlying67 tyE101 1030 e_resource_part_int_ s4.2 ([x164] : List resource_part_int_) hc166 (L rfl) (q 27) (q 29)) rfl (c (OpJ.assign (L rfl) (q 30)) rfl cn))))) ?_
     refine gh [(2, _), (5, _), (16, _), (17, _), (18, _)] [(1002, some _), (1030, some _), (100000, some _)] hB rfl rfl (by rfl) ?_
     apply AWp.exit
     apply seqQ_e
     apply blkQ_hit
     exact hjj162 _ h _ _ (mp [(3005, 1030)] _ _ hB)
    ·replace h := ite_f hg165 h
     apply AWp.skip
     apply seqQ_n
     obtain ⟨x167, hx167, h⟩ := bindS h
     obtain ⟨x168, hx168, h⟩ := bindS h
     obtain ⟨r169, hr169, h⟩ := bindS h
     refine sd (c (fo 1002 1 [1] hN underlying77 1 tyS75 (q 2)) rfl (c (lb hN 77 _ (.func 134 []) tyS75 (At.st1 (f := (.func 134 [])) (by rfl) (by rfl) (At.here _) (by first | rfl | omega)) (q 32)) rfl (c (mv hN (q 5)) rfl (c (mv hN (q 8)) rfl (c (OpJ.val (v' := (.ptr 3005 ((w64 ((s4.2.length : Int) - (1 : Int))).toNat * 2) [(w64 ((s4.2.length : Int) - (1 : Int))).toNat])) (by simp) (OpJ.indexS underlying67 tyS101 (idx_some hx167).1 (by have := idx_lt hx167; first | (simpa using this) | ((try simp only [List.length_map] at this); (try simp only [List.length_map]); omega)) (L rfl) (q 34) (q 35))) rfl (c (ov (.ptr 3005 (((w64 ((s4.2.length : Int) - (1 : Int))).toNat * 2) + 1) [(w64 ((s4.2.length : Int) - (1 : Int))).toNat, 1]) (fp hN underlying101 1 tyS3 _ (q 36))) rfl (c (OpJ.loadR (e := 101) (sz := 2) tyS3 (get_map e_resource_part_int_ (idx_some hx168).2) (o := 1) (ad _) (by rfl) (by rfl) (by rfl) (L rfl) (q 37)) rfl (cg (OpJ.callVal (args := [(i6 x168.fto)]) (caps := []) hB fnOk134 [] (resource_numbers_1_ac x168.fto r169 hr169) (by kernel_rfl) (L rfl) (by kernel_rfl) (by kernel_rfl) (OpdL.cons (q 38) OpdL.nil)) rfl (c (mv hN (q 39)) rfl (c (OpJ.extract (by rfl) rfl (L rfl) (q 31)) rfl (c (OpJ.extract (by rfl) rfl (L rfl) (q 31)) rfl (c (OpJ.assign (L rfl) (q 40)) rfl (c (OpJ.assign (L rfl) (q 41)) rfl cn))))))))))))) (by kernel_rfl) (by kernel_rfl) ?_
     apply AWp.block
     apply AWp.seq
     refine AWp.cut h (fun m179 : Bool => ([(2, (pt 1002)), (5, (.sref 3005 2 0 s4.2.length)), (7, (pt 1007)), (8, (i6 (w64 ((s4.2.length : Int) - (1 : Int))))), (16, (.sref 100000 2 0 r2.length)), (17, (i6 (r1.length : Int))), (18, (i6 s4.1)), (42, (bo m179))] : EL)) (fun m179 : Bool => ([(1002, some (.box 77 (.st [(.func 71 []), (.func 134 []), (.func 135 [])]))), (1007, bd 101 (e_resource_part_int_ x164)), (3005, some (.row 101 2 (s4.2.map e_resource_part_int_))), (100000, some (.row 101 2 (r2.map e_resource_part_int_)))] : OL)) (fun m179 h E' O' hmat => ?_) (fun j180 hjj180 h => ?_)
     ·apply seqQ_n
      refine AWp.ghost hmat ?_
      refine AWp.cond rfl (fun hg181 => ?_) (fun hg181 => ?_)
      ·replace h := ite_t hg181 h
       obtain ⟨hc182, h⟩ := chk_some h
       refine rg (c (mv hN (q 5)) rfl (c (lb hN 101 _ _ tyS101 (At.here _) (q 7)) rfl (c (OpJ.buildSlice underlying67 tyS101 tyZD101 (by rfl) (by decide) (by decide) (Opds.cons (q 68) Opds.nil) (by kernel_rfl) (es := ([(e_resource_part_int_ x164)] : List D)) (by rfl) (by rfl) (by kernel_rfl) (by simp) (L rfl)) rfl (cg (apd hB underlying67 tyE101 1070 e_resource_part_int_ s4.2 ([x164] : List resource_part_int_) hc182 (L rfl) (q 67) (q 69)) rfl (c (OpJ.assign (L rfl) (q 70)) rfl cn))))) ?_
       apply blkQ_n
       apply blkQ_n
       exact hjj162 _ h _ _ (mp [(3005, 1070)] _ _ hB)
      ·replace h := ite_f hg181 h
       obtain ⟨x183, hx183, h⟩ := bindS h
       obtain ⟨x184, hx184, h⟩ := bindS h
       obtain ⟨r185, hr185, h⟩ := bindS h
       refine sd (c (fo 1002 0 [0] hN underlying77 0 tyS50 (q 2)) rfl (c (lb hN 77 _ (.func 71 []) tyS50 (At.st1 (f := (.func 71 [])) (by rfl) (by rfl) (At.here _) (by first | rfl | omega)) (q 72)) rfl (c (fo 1007 1 [1] hN underlying101 1 tyS3 (q 7)) rfl (c (la hN 101 tyS3 (q 74)) rfl (c (mv hN (q 5)) rfl (c (mv hN (q 8)) rfl (c (OpJ.val (v' := (.ptr 3005 ((w64 ((s4.2.length : Int) - (1 : Int))).toNat * 2) [(w64 ((s4.2.length : Int) - (1 : Int))).toNat])) (by simp) (OpJ.indexS underlying67 tyS101 (idx_some hx183).1 (by have := idx_lt hx183; first | (simpa using this) | ((try simp only [List.length_map] at this); (try simp only [List.length_map]); omega)) (L rfl) (q 76) (q 77))) rfl (c (ov (.ptr 3005 (((w64 ((s4.2.length : Int) - (1 : Int))).toNat * 2) + 1) [(w64 ((s4.2.length : Int) - (1 : Int))).toNat, 1]) (fp hN underlying101 1 tyS3 _ (q 78))) rfl (c (OpJ.loadR (e := 101) (sz := 2) tyS3 (get_map e_resource_part_int_ (idx_some hx184).2) (o := 1) (ad _) (by rfl) (by rfl) (by rfl) (L rfl) (q 79)) rfl (cg (OpJ.callVal (args := [(i6 x164.fto), (i6 x184.fto)]) (caps := []) hB fnOk71 [] (cmp_Compare_ac x164.fto x184.fto r185 hr185) (by kernel_rfl) (L rfl) (by kernel_rfl) (by kernel_rfl) (OpdL.cons (q 75) (OpdL.cons (q 80) OpdL.nil))) rfl (c (OpJ.gtr (L rfl) (q 81) (Opd.int .i64 (0))) rfl (c (OpJ.assign (L rfl) (q 82)) rfl cn)))))))))))) (by kernel_rfl) (by kernel_rfl) ?_
       refine AWp.cond rfl (fun hg186 => ?_) (fun hg186 => ?_)
       ·replace h := ite_t hg186 h
        obtain ⟨x187, hx187, h⟩ := bindS h
        obtain ⟨x188, hx188, h⟩ := bindS h
        refine rg (c (mv hN (q 5)) rfl (c (mv hN (q 8)) rfl (c (fo 1007 1 [1] hN underlying101 1 tyS3 (q 7)) rfl (c (la hN 101 tyS3 (q 85)) rfl (c (OpJ.val (v' := (.ptr 3005 ((w64 ((s4.2.length : Int) - (1 : Int))).toNat * 2) [(w64 ((s4.2.length : Int) - (1 : Int))).toNat])) (by simp) (OpJ.indexS underlying67 tyS101 (idx_some hx187).1 (by have := idx_lt hx187; first | (simpa using this) | ((try simp only [List.length_map] at this); (try simp only [List.length_map]); omega)) (L rfl) (q 83) (q 84))) rfl (c (ov (.ptr 3005 (((w64 ((s4.2.length : Int) - (1 : Int))).toNat * 2) + 1) [(w64 ((s4.2.length : Int) - (1 : Int))).toNat, 1]) (fp hN underlying101 1 tyS3 _ (q 87))) rfl (cg (OpJ.storeR (e := 101) (sz := 2) (es' := (s4.2.set (w64 ((s4.2.length : Int) - (1 : Int))).toNat (resource_part_int_.mk x188.ffrom x164.fto)).map e_resource_part_int_) tyS3 (get_map e_resource_part_int_ (idx_some hx188).2) (o := 1) (SetAt.dst1 (by rfl) (by rfl) (SetAt.here _ _) (by rfl) (by rfl) (by first | rfl | omega)) (by rfl) (map_set _ _ _ _) (by rfl) (by rfl) (q 88) (q 86)) rfl cn))))))) ?_
        apply blkQ_n
        apply blkQ_n
        exact hjj162 _ h _ _ (Mat.trans (mp [] [(2, (pt 1002)), (5, (.sref 3005 2 0 s4.2.length)), (16, (.sref 100000 2 0 r2.length)), (17, (i6 (r1.length : Int))), (18, (i6 s4.1))] [(1002, some (.box 77 (.st [(.func 71 []), (.func 134 []), (.func 135 [])]))), (3005, some (.row 101 2 ((s4.2.set (w64 ((s4.2.length : Int) - (1 : Int))).toNat (resource_part_int_.mk x188.ffrom x164.fto)).map e_resource_part_int_))), (100000, some (.row 101 2 (r2.map e_resource_part_int_)))] hB) (Mat.trans (Mat.lenP (Ts := [(5, (.sref 3005 2 0 ((s4.2.set (w64 ((s4.2.length : Int) - (1 : Int))).toNat (resource_part_int_.mk x188.ffrom x164.fto)).length)))]) (Bs := []) (TwT.cons (x := (.sref 3005 2 0 s4.2.length)) (by rfl) (Tw.leaf ⟨_, _, _, _, _, rfl, rfl, (by first | rfl | (simp; done) | (simp; omega) | omega)⟩) TwT.nil) TwB.nil) (mp [] _ _ hB)))
       ·replace h := ite_f hg186 h
        apply AWp.skip
        apply blkQ_n
        apply blkQ_n
        exact hjj162 _ h _ _ (mp [] _ _ hB)
     ·obtain ⟨x189, hx189, h⟩ := bindS h
      obtain ⟨x190, hx190, h⟩ := bindS h
      obtain ⟨r191, hr191, h⟩ := bindS h
      rcases Bool.eq_false_or_eq_true (decide ((0 : Int) < r191)) with hg192 | hg192
      ·replace h := ite_t hg192 h
       rcases Bool.eq_false_or_eq_true r169.2 with hg193 | hg193
       ·replace h := ite_t hg193 h
        obtain ⟨r194, hr194, h⟩ := bindS h
        refine dr (c (fo 1002 0 [0] hN underlying77 0 tyS50 (q 2)) rfl (c (lb hN 77 _ (.func 71 []) tyS50 (At.st1 (f := (.func 71 [])) (by rfl) (by rfl) (At.here _) (by first | rfl | omega)) (q 43)) rfl (c (fo 1007 0 [0] hN underlying101 0 tyS3 (q 7)) rfl (c (la hN 101 tyS3 (q 45)) rfl (c (mv hN (q 5)) rfl (c (mv hN (q 8)) rfl (c (OpJ.val (v' := (.ptr 3005 ((w64 ((s4.2.length : Int) - (1 : Int))).toNat * 2) [(w64 ((s4.2.length : Int) - (1 : Int))).toNat])) (by simp) (OpJ.indexS underlying67 tyS101 (idx_some hx189).1 (by have := idx_lt hx189; first | (simpa using this) | ((try simp only [List.length_map] at this); (try simp only [List.length_map]); omega)) (L rfl) (q 47) (q 48))) rfl (c (ov (.ptr 3005 (((w64 ((s4.2.length : Int) - (1 : Int))).toNat * 2) + 1) [(w64 ((s4.2.length : Int) - (1 : Int))).toNat, 1]) (fp hN underlying101 1 tyS3 _ (q 49))) rfl (c (OpJ.loadR (e := 101) (sz := 2) tyS3 (get_map e_resource_part_int_ (idx_some hx190).2) (o := 1) (ad _) (by rfl) (by rfl) (by rfl) (L rfl) (q 50)) rfl (cg (OpJ.callVal (args := [(i6 x164.ffrom), (i6 x190.fto)]) (caps := []) hB fnOk71 [] (cmp_Compare_ac x164.ffrom x190.fto r191 hr191) (by kernel_rfl) (L rfl) (by kernel_rfl) (by kernel_rfl) (OpdL.cons (q 46) (OpdL.cons (q 51) OpdL.nil))) rfl (c (OpJ.gtr (L rfl) (q 52) (Opd.int .i64 (0))) rfl (c (OpJ.val (v' := .d (.bool true)) (by rw [hg192] <;> rfl) (mv hN (q 53))) rfl (c (gd 54 (mv hN (q 10))) rfl (c (gd 54 (OpJ.val (v' := .d (.bool true)) (by rw [hg193] <;> rfl) (mv hN (q 55)))) rfl (c (gd 56 (fo 1002 0 [0] hN underlying77 0 tyS50 (q 2))) rfl (c (gd 56 (lb hN 77 _ (.func 71 []) tyS50 (At.st1 (f := (.func 71 [])) (by rfl) (by rfl) (At.here _) (by first | rfl | omega)) (q 57))) rfl (c (gd 56 (mv hN (q 9))) rfl (c (gd 56 (fo 1007 0 [0] hN underlying101 0 tyS3 (q 7))) rfl (c (gd 56 (la hN 101 tyS3 (q 60))) rfl (cg (gd 56 (OpJ.callVal (args := [(i6 r169.1), (i6 x164.ffrom)]) (caps := []) hB fnOk71 [] (cmp_Compare_ac r169.1 x164.ffrom r194 hr194) (by kernel_rfl) (L rfl) (by kernel_rfl) (by kernel_rfl) (OpdL.cons (q 59) (OpdL.cons (q 61) OpdL.nil)))) rfl (c (gd 56 (OpJ.eqlI (L rfl) (q 62) (Opd.int .i64 (0)))) rfl (c (gd 54 (OpJ.pickT (L rfl) (q 56) (q 63))) rfl (c (gd 54 (OpJ.not (L rfl) (q 64))) rfl (c (OpJ.pickT (L rfl) (q 54) (q 65)) rfl (c (OpJ.assign (L rfl) (q 66)) rfl cn))))))))))))))))))))))))) (by kernel_rfl) (by kernel_rfl) ?_
        exact hjj180 _ h _ _ (mp [] _ _ hB)
       ·replace h := ite_f hg193 h
        refine dr (c (fo 1002 0 [0] hN underlying77 0 tyS50 (q 2)) rfl (c (lb hN 77 _ (.func 71 []) tyS50 (At.st1 (f := (.func 71 [])) (by rfl) (by rfl) (At.here _) (by first | rfl | omega)) (q 43)) rfl (c (fo 1007 0 [0] hN underlying101 0 tyS3 (q 7)) rfl (c (la hN 101 tyS3 (q 45)) rfl (c (mv hN (q 5)) rfl (c (mv hN (q 8)) rfl (c (OpJ.val (v' := (.ptr 3005 ((w64 ((s4.2.length : Int) - (1 : Int))).toNat * 2) [(w64 ((s4.2.length : Int) - (1 : Int))).toNat])) (by simp) (OpJ.indexS underlying67 tyS101 (idx_some hx189).1 (by have := idx_lt hx189; first | (simpa using this) | ((try simp only [List.length_map] at this); (try simp only [List.length_map]); omega)) (L rfl) (q 47) (q 48))) rfl (c (ov (.ptr 3005 (((w64 ((s4.2.length : Int) - (1 : Int))).toNat * 2) + 1) [(w64 ((s4.2.length : Int) - (1 : Int))).toNat, 1]) (fp hN underlying101 1 tyS3 _ (q 49))) rfl (c (OpJ.loadR (e := 101) (sz := 2) tyS3 (get_map e_resource_part_int_ (idx_some hx190).2) (o := 1) (ad _) (by rfl) (by rfl) (by rfl) (L rfl) (q 50)) rfl (cg (OpJ.callVal (args := [(i6 x164.ffrom), (i6 x190.fto)]) (caps := []) hB fnOk71 [] (cmp_Compare_ac x164.ffrom x190.fto r191 hr191) (by kernel_rfl) (L rfl) (by kernel_rfl) (by kernel_rfl) (OpdL.cons (q 46) (OpdL.cons (q 51) OpdL.nil))) rfl (c (OpJ.gtr (L rfl) (q 52) (Opd.int .i64 (0))) rfl (c (OpJ.val (v' := .d (.bool true)) (by rw [hg192] <;> rfl) (mv hN (q 53))) rfl (c (gd 54 (mv hN (q 10))) rfl (c (gd 54 (OpJ.val (v' := .d (.bool false)) (by rw [hg193] <;> rfl) (mv hN (q 55)))) rfl (cg (sU 56 (L rfl)) rfl (cg (sU 56 (L rfl)) rfl (cg (sU 56 (L rfl)) rfl (cg (sU 56 (L rfl)) rfl (cg (sU 56 (L rfl)) rfl (cg (sU 56 (L rfl)) rfl (cg (sU 56 (L rfl)) rfl (c (gd 54 (OpJ.pickF (L rfl) (q 56) (Opd.bool false))) rfl (c (gd 54 (OpJ.not (L rfl) (q 64))) rfl (c (OpJ.pickT (L rfl) (q 54) (q 65)) rfl (c (OpJ.assign (L rfl) (q 66)) rfl cn))))))))))))))))))))))))) (by kernel_rfl) (by kernel_rfl) ?_
        exact hjj180 _ h _ _ (mp [] _ _ hB)
      ·replace h := ite_f hg192 h
       refine dr (c (fo 1002 0 [0] hN underlying77 0 tyS50 (q 2)) rfl (c (lb hN 77 _ (.func 71 []) tyS50 (At.st1 (f := (.func 71 [])) (by rfl) (by rfl) (At.here _) (by first | rfl | omega)) (q 43)) rfl (c (fo 1007 0 [0] hN underlying101 0 tyS3 (q 7)) rfl (c (la hN 101 tyS3 (q 45)) rfl (c (mv hN (q 5)) rfl (c (mv hN (q 8)) rfl (c (OpJ.val (v' := (.ptr 3005 ((w64 ((s4.2.length : Int) - (1 : Int))).toNat * 2) [(w64 ((s4.2.length : Int) - (1 : Int))).toNat])) (by simp) (OpJ.indexS underlying67 tyS101 (idx_some hx189).1 (by have := idx_lt hx189; first | (simpa using this) | ((try simp only [List.length_map] at this); (try simp only [List.length_map]); omega)) (L rfl) (q 47) (q 48))) rfl (c (ov (.ptr 3005 (((w64 ((s4.2.length : Int) - (1 : Int))).toNat * 2) + 1) [(w64 ((s4.2.length : Int) - (1 : Int))).toNat, 1]) (fp hN underlying101 1 tyS3 _ (q 49))) rfl (c (OpJ.loadR (e := 101) (sz := 2) tyS3 (get_map e_resource_part_int_ (idx_some hx190).2) (o := 1) (ad _) (by rfl) (by rfl) (by rfl) (L rfl) (q 50)) rfl (cg (OpJ.callVal (args := [(i6 x164.ffrom), (i6 x190.fto)]) (caps := []) hB fnOk71 [] (cmp_Compare_ac x164.ffrom x190.fto r191 hr191) (by kernel_rfl) (L rfl) (by kernel_rfl) (by kernel_rfl) (OpdL.cons (q 46) (OpdL.cons (q 51) OpdL.nil))) rfl (c (OpJ.gtr (L rfl) (q 52) (Opd.int .i64 (0))) rfl (c (OpJ.val (v' := .d (.bool false)) (by rw [hg192] <;> rfl) (mv hN (q 53))) rfl (cg (sU 54 (L rfl)) rfl (cg (sU 54 (L rfl)) rfl (cg (sV 56 (L rfl)) rfl (cg (sV 56 (L rfl)) rfl (cg (sV 56 (L rfl)) rfl (cg (sV 56 (L rfl)) rfl (cg (sV 56 (L rfl)) rfl (cg (sV 56 (L rfl)) rfl (cg (sV 56 (L rfl)) rfl (cg (sU 54 (L rfl)) rfl (cg (sU 54 (L rfl)) rfl (c (OpJ.pickF (L rfl) (q 54) (Opd.bool false)) rfl (c (OpJ.assign (L rfl) (q 66)) rfl cn))))))))))))))))))))))))) (by kernel_rfl) (by kernel_rfl) ?_
       exact hjj180 _ h _ _ (mp [] _ _ hB)
  ·replace h := ite_f hg128 h
   apply AWp.exit
   apply seqQ_e
   obtain rfl := Option.some.inj h
   exact ⟨(fun hc => by cases hc), rfl, (mp [] _ _ hB)⟩
 ·obtain ⟨rfl, hmat⟩ := hR
  apply blkQ_hit
  apply seqQ_n
  refine AWp.ghost hmat ?_
  refine sr (c (mv hN (q 5)) rfl (c (OpJ.assign (L rfl) (q 90)) rfl cn)) ?_
  apply AWp.ret
  obtain rfl := Option.some.inj h
  exact ⟨.inl rfl, _, _, (Mat.trans (Mat.freezeP (n := 3005) (e := 101) (sz := 2) (es := p127.map e_resource_part_int_) (Ts := [(4, (.d (.list 2 (p127.map e_resource_part_int_))))]) (Bs := []) (by rfl) (TwT.cons (x := (.sref 3005 2 0 p127.length)) (by rfl) (FrzL.all (by first | rfl | (simp; done) | (simp; omega) | omega)) TwT.nil) TwB.nil) (mp [] [(4, (.d (.list 2 (p127.map e_resource_part_int_))))] [] hB)), [(.d (.list 2 (p127.map e_resource_part_int_)))], (Res.tmp (by rfl) (by rfl) Res.nil), rfl, by rfl, by rfl, by rfl⟩
noncomputable def resource_set_resources_L0 (a0 : resource_set) (s2 : Int × (List api_Range)) : Option ((((List api_Range))) ⊕ (Int × (List api_Range))) :=
 (if (decide (s2.1 < (a0.faddrs.length : Int))) = true then
 (idx a0.faddrs s2.1).bind fun x11 =>
 chk (decide ((s2.2 ++ ([(api_Range.mk x11.ffrom x11.fto)] : List api_Range)).length ≤ LIM)) <|
 some (.inr ((w64 (s2.1 + (1 : Int))), (s2.2 ++ ([(api_Range.mk x11.ffrom x11.fto)] : List api_Range))))
 else
 some (.inl s2.2))
noncomputable def resource_set_resources_L1 (a0 : resource_set) (s15 : Int × (List api_Span)) : Option ((((List api_Span))) ⊕ (Int × (List api_Span))) :=
 (if (decide (s15.1 < (a0.fasns.length : Int))) = true then
 (idx a0.fasns s15.1).bind fun x24 =>
 chk (decide ((s15.2 ++ ([(api_Span.mk x24.ffrom x24.fto)] : List api_Span)).length ≤ LIM)) <|
 some (.inr ((w64 (s15.1 + (1 : Int))), (s15.2 ++ ([(api_Span.mk x24.ffrom x24.fto)] : List api_Span))))
 else
 some (.inl s15.2))
noncomputable def resource_set_resources (a0 : resource_set) : Option (api_Resources × Int) :=
 (if ((decide ((256 : Int) < (a0.faddrs.length : Int))) || (decide ((256 : Int) < (a0.fasns.length : Int)))) = true then
 some ((api_Resources.mk ([] : List api_Range) ([] : List api_Span)), (3 : Int))
 else
 (loop (resource_set_resources_L0 a0) ((0 : Int), ([] : List api_Range))).bind fun p9 =>
 (loop (resource_set_resources_L1 a0) ((0 : Int), ([] : List api_Span))).bind fun p22 =>
 some ((api_Resources.mk p9 p22), (0 : Int)))
theorem resource_set_resources_ac (a0 : resource_set) (r : api_Resources × Int) (h : resource_set_resources a0 = some r) : AC Tryz.prog 32 [(.d (e_resource_set a0))] [] (.tup [(.d (e_api_Resources r.1)), (.d (.int .i64 r.2))]) [] := by
 refine AC.of_code2 Tryz.func32 rfl rfl (Nat.le_of_ble_eq_true (by rfl)) fun B hB hN => ?_
 have L {d : Nat} (h : Nat.blt d Tryz.f32.ntmps = true) : d < B.N := ltN hN h
 delta resource_set_resources at h
 refine sr (cg (OpJ.box hB (nm := 1001) (by decide) (by simp) rfl (L rfl) (q 0)) rfl (cg (OpJ.alloc hB tyZ25 (nm := 1002) (by decide) (L rfl)) rfl (c (OpJ.assign (L rfl) (Opd.int .i64 (0))) rfl cn))) ?_
 apply AWp.seq
 refine sr (c (fo 1001 0 [0] hN underlying69 0 tyS66 (q 1)) rfl (c (la hN 69 tyS66 (q 9)) rfl (c (OpJ.val (v' := (i6 (a0.faddrs.length : Int))) (by simp) (OpJ.lenD underlying66 (L rfl) (q 10))) rfl (c (OpJ.gtr (L rfl) (q 11) (Opd.int .i64 (256))) rfl (c (mv hN (q 12)) rfl (c (oq hN 13 (fo 1001 1 [1] hN underlying69 1 tyS67 (q 1)) (OptL.keep (by rfl) OptL.nil) (GuardV.plain _)) rfl (c (oq hN 13 (la hN 69 tyS67 (q 14)) (OptL.opt OptL.nil) (GuardV.plain _)) rfl (c (oq hN 13 (OpJ.val (v' := (i6 (a0.fasns.length : Int))) (by simp) (OpJ.lenD underlying67 (L rfl) (q 15))) (OptL.opt OptL.nil) (GuardV.plain _)) rfl (c (oq hN 13 (OpJ.gtr (L rfl) (q 16) (Opd.int .i64 (256))) (OptL.opt OptL.nil) (GuardV.plain _)) rfl (c (OpJ.pickOr rfl (L rfl) (q 13) (q 17)) rfl cn)))))))))) ?_
 refine AWp.cond rfl (fun hg1 => ?_) (fun hg1 => ?_)
 ·replace h := ite_t hg1 h
  refine sr (c (OpJ.build (places := [(0, 1), (1, 1)]) ⟨underlying25, fun w => by kernel_rfl⟩ tyZS25 Opds.nil (by kernel_rfl) (r := (.st [.nils, .nils])) (by rfl) (L rfl)) rfl (cg (sB tyS25 (q 2) (q 19)) rfl (c (OpJ.assign (L rfl) (Opd.int .i64 (3))) rfl cn))) ?_
  apply AWp.ret
  apply seqQ_r
  obtain rfl := Option.some.inj h
  exact ⟨.inl rfl, _, _, (Mat.trans (Mat.coeP (Ts := []) (Bs := [(1002, bd 25 (.st [(.list 6 (([] : List api_Range).map e_api_Range)), (.list 2 (([] : List api_Span).map e_api_Span))]))]) TwT.nil (TwB.cons (x := (.st [.nils, .nils])) (by rfl) (Tw.leaf ⟨_, (Co.st (CoL.cons (Co.nils 6) (CoL.cons (Co.nils 2) CoL.nil))), rfl⟩) TwB.nil)) (mp [] [(2, (pt 1002)), (3, (i6 (3 : Int)))] [(1002, bd 25 (.st [(.list 6 (([] : List api_Range).map e_api_Range)), (.list 2 (([] : List api_Span).map e_api_Span))]))] hB)), [(.d (.st [(.list 6 (([] : List api_Range).map e_api_Range)), (.list 2 (([] : List api_Span).map e_api_Span))])), (i6 (3 : Int))], (Res.cell (c := (.d (.st [(.list 6 (([] : List api_Range).map e_api_Range)), (.list 2 (([] : List api_Span).map e_api_Span))]))) (by rfl) (by rfl) tyS25 (by rfl) (by rfl) (by rfl) (Res.tmp (by rfl) (by rfl) Res.nil)), rfl, by rfl, by rfl, by rfl⟩
 ·replace h := ite_f hg1 h
  apply AWp.skip
  apply seqQ_n
  refine sr (cg (OpJ.alloc hB tyZ25 (nm := 1004) (by decide) (L rfl)) rfl cn) ?_
  apply AWp.seq
  refine sr (c (fo 1001 0 [0] hN underlying69 0 tyS66 (q 1)) rfl (c (la hN 69 tyS66 (q 20)) rfl (c (OpJ.val (v' := (i6 (a0.faddrs.length : Int))) (by simp) (OpJ.lenD underlying66 (L rfl) (q 21))) rfl (c (mv hN (Opd.int .i64 (0))) rfl cn)))) ?_
  apply AWp.block
  obtain ⟨p9, hx14, h⟩ := bindS h
  refine lg (resource_set_resources_L0 a0) (fun s2 : Int × (List api_Range) => ([(1, (pt 1001)), (2, (pt 1002)), (4, (pt 1004)), (21, (qe_api_Addr__6 a0.faddrs)), (22, (i6 (a0.faddrs.length : Int))), (23, (i6 s2.1))] : EL)) (fun s2 : Int × (List api_Range) => ([(1001, bd 69 (e_resource_set a0)), (1002, some (.box 25 (.st [.nils, .nils]))), (1004, some (.box 25 (.st [(.sref 13040 6 0 s2.2.length), .nils]))), (13040, some (we_api_Range_46_6 s2.2))] : OL)) (fun (p9 : ((List api_Range))) e E' O' => e = .exit 0 ∧ Mat B E' O' ([(1, (pt 1001)), (2, (pt 1002)), (4, (pt 1004))] : EL) ([(1001, bd 69 (e_resource_set a0)), (1002, some (.box 25 (.st [.nils, .nils]))), (1004, some (.box 25 (.st [(.sref 13040 6 0 p9.length), .nils]))), (13040, some (we_api_Range_46_6 p9))] : OL)) hx14 (Mat.trans (Mat.beginP (n := 13040) (e := 46) (sz := 6) (Ts := []) (Bs := [(1004, some (.box 25 (.st [(.sref 13040 6 0 0), .nils])))]) hB (by decide) (by rfl) (by decide) TwT.nil (TwB.cons (x := (.st [.nils, .nils])) (by rfl) (Tw.st (TwL.cons (Tw.leaf ⟨rfl, rfl⟩) (TwL.cons (Tw.same _) TwL.nil))) TwB.nil)) (mp [] _ _ hB)) (fun s2 y h => ?_) (fun e E' O' hR => ?_)
  ·unfold resource_set_resources_L0 at h
   refine sr (c (OpJ.lss (L rfl) (q 23) (q 22)) rfl cn) ?_
   apply AWp.seq
   refine AWp.cond rfl (fun hg10 => ?_) (fun hg10 => ?_)
   ·replace h := ite_t hg10 h
    apply AWp.skip
    apply seqQ_n
    apply AWp.seq
    apply AWp.block
    obtain ⟨x11, hx11, h⟩ := bindS h
    refine sr (c (OpJ.indexD underlying66 tyS99 (idx_some hx11).1 (get_map e_api_Addr_ (idx_some hx11).2) (L rfl) (q 21) (q 23)) rfl (c (OpJ.loadD tyS99 (by rfl) (by rfl) (L rfl) (q 25)) rfl (cg (OpJ.alloc hB tyZ99 (nm := 1006) (by decide) (L rfl)) rfl (cg (sB tyS99 (q 6) (q 26)) rfl cn)))) ?_
    obtain ⟨hc12, h⟩ := chk_some h
    refine rg (c (fo 1004 0 [0] hN underlying25 0 tyS22 (q 4)) rfl (c (lb hN 25 _ (.sref 13040 6 0 s2.2.length) tyS22 (At.st1 (f := (.sref 13040 6 0 s2.2.length)) (by rfl) (by rfl) (At.here _) (by first | rfl | omega)) (q 27)) rfl (c (fo 1006 0 [0] hN underlying99 0 tyS42 (q 6)) rfl (c (la hN 99 tyS42 (q 29)) rfl (c (fo 1006 3 [1] hN underlying99 3 tyS42 (q 6)) rfl (c (la hN 99 tyS42 (q 31)) rfl (c (OpJ.coe (v := (.st [(.d (e_api_Addr x11.ffrom)), (.d (e_api_Addr x11.fto))])) (y := (.st [(e_api_Addr x11.ffrom), (e_api_Addr x11.fto)])) (Co.st (CoL.cons (Co.d _) (CoL.cons (Co.d _) CoL.nil))) rfl (OpJ.build (places := [(0, 3), (3, 3)]) ⟨underlying46, fun w => by kernel_rfl⟩ tyZS46 (Opds.cons (q 30) (Opds.cons (q 32) Opds.nil)) (by kernel_rfl) (r := (.st [(.d (e_api_Addr x11.ffrom)), (.d (e_api_Addr x11.fto))])) (by rfl) (L rfl))) rfl (c (OpJ.buildSlice underlying22 tyS46 tyZD46 (by rfl) (by decide) (by decide) (Opds.cons (q 33) Opds.nil) (by kernel_rfl) (es := ([(.st [(e_api_Addr x11.ffrom), (e_api_Addr x11.fto)])] : List D)) (by rfl) (by rfl) (by kernel_rfl) (by simp) (L rfl)) rfl (cg (apd hB underlying22 tyE46 1035 e_api_Range s2.2 ([(api_Range.mk x11.ffrom x11.fto)] : List api_Range) hc12 (L rfl) (q 28) (q 34)) rfl (c (fo 1004 0 [0] hN underlying25 0 tyS22 (q 4)) rfl (cg (OpJ.storeB (c' := (.st [(.sref 1035 6 0 ((s2.2 ++ ([(api_Range.mk x11.ffrom x11.fto)] : List api_Range)).length)), .nils])) tyS22 (SetAt.st1 (f := (.sref 13040 6 0 s2.2.length)) (by rfl) (by rfl) (SetAt.here _ _) (by rfl) (by rfl) (by first | rfl | omega)) (by rfl) (by rfl) (by simp) rfl (q 36) (q 35)) rfl cn))))))))))) ?_
    apply blkQ_n
    apply seqQ_n
    refine rg (c (add6 (L rfl) (q 23) (Opd.int .i64 (1))) rfl (c (mv hN (q 37)) rfl cn)) ?_
    obtain rfl := Option.some.inj h
    exact ⟨rfl, (mp [(13040, 1035)] _ _ hB)⟩
   ·replace h := ite_f hg10 h
    apply AWp.exit
    apply seqQ_e
    obtain rfl := Option.some.inj h
    exact ⟨(fun hc => by cases hc), rfl, (mp [] _ _ hB)⟩
  ·obtain ⟨rfl, hmat⟩ := hR
   apply blkQ_hit
   apply seqQ_n
   refine AWp.ghost hmat ?_
   apply AWp.seq
   refine sr (c (fo 1001 1 [1] hN underlying69 1 tyS67 (q 1)) rfl (c (la hN 69 tyS67 (q 38)) rfl (c (OpJ.val (v' := (i6 (a0.fasns.length : Int))) (by simp) (OpJ.lenD underlying67 (L rfl) (q 39))) rfl (c (mv hN (Opd.int .i64 (0))) rfl cn)))) ?_
   apply AWp.block
   obtain ⟨p22, hx27, h⟩ := bindS h
   refine lg (resource_set_resources_L1 a0) (fun s15 : Int × (List api_Span) => ([(2, (pt 1002)), (4, (pt 1004)), (39, (.d (.list 2 (a0.fasns.map e_resource_part_int_)))), (40, (i6 (a0.fasns.length : Int))), (41, (i6 s15.1))] : EL)) (fun s15 : Int × (List api_Span) => ([(1002, some (.box 25 (.st [.nils, .nils]))), (1004, some (.box 25 (.st [(.sref 13040 6 0 p9.length), (.sref 13041 2 0 s15.2.length)]))), (13040, some (we_api_Range_46_6 p9)), (13041, some (we_api_Span_62_2 s15.2))] : OL)) (fun (p22 : ((List api_Span))) e E' O' => e = .exit 2 ∧ Mat B E' O' ([(2, (pt 1002)), (4, (pt 1004))] : EL) ([(1002, some (.box 25 (.st [.nils, .nils]))), (1004, some (.box 25 (.st [(.sref 13040 6 0 p9.length), (.sref 13041 2 0 p22.length)]))), (13040, some (we_api_Range_46_6 p9)), (13041, some (we_api_Span_62_2 p22))] : OL)) hx27 (Mat.trans (Mat.beginP (n := 13041) (e := 62) (sz := 2) (Ts := []) (Bs := [(1004, some (.box 25 (.st [(.sref 13040 6 0 p9.length), (.sref 13041 2 0 0)])))]) hB (by decide) (by rfl) (by decide) TwT.nil (TwB.cons (x := (.st [(.sref 13040 6 0 p9.length), .nils])) (by rfl) (Tw.st (TwL.cons (Tw.same _) (TwL.cons (Tw.leaf ⟨rfl, rfl⟩) TwL.nil))) TwB.nil)) (mp [] _ _ hB)) (fun s15 y h => ?_) (fun e E' O' hR => ?_)
   ·unfold resource_set_resources_L1 at h
    refine sr (c (OpJ.lss (L rfl) (q 41) (q 40)) rfl cn) ?_
    apply AWp.seq
    refine AWp.cond rfl (fun hg23 => ?_) (fun hg23 => ?_)
    ·replace h := ite_t hg23 h
     apply AWp.skip
     apply seqQ_n
     apply AWp.seq
     apply AWp.block
     obtain ⟨x24, hx24, h⟩ := bindS h
     refine sr (c (OpJ.indexD underlying67 tyS101 (idx_some hx24).1 (get_map e_resource_part_int_ (idx_some hx24).2) (L rfl) (q 39) (q 41)) rfl (c (OpJ.loadD tyS101 (by rfl) (by rfl) (L rfl) (q 43)) rfl (cg (OpJ.alloc hB tyZ101 (nm := 1008) (by decide) (L rfl)) rfl (cg (sB tyS101 (q 8) (q 44)) rfl cn)))) ?_
     obtain ⟨hc25, h⟩ := chk_some h
     refine rg (c (fo 1004 1 [1] hN underlying25 1 tyS23 (q 4)) rfl (c (lb hN 25 _ (.sref 13041 2 0 s15.2.length) tyS23 (At.st1 (f := (.sref 13041 2 0 s15.2.length)) (by rfl) (by rfl) (At.here _) (by first | rfl | omega)) (q 45)) rfl (c (fo 1008 0 [0] hN underlying101 0 tyS3 (q 8)) rfl (c (la hN 101 tyS3 (q 47)) rfl (c (fo 1008 1 [1] hN underlying101 1 tyS3 (q 8)) rfl (c (la hN 101 tyS3 (q 49)) rfl (c (OpJ.coe (v := (.st [(i6 x24.ffrom), (i6 x24.fto)])) (y := (.st [(.int .i64 x24.ffrom), (.int .i64 x24.fto)])) (Co.st (CoL.cons (Co.d _) (CoL.cons (Co.d _) CoL.nil))) rfl (OpJ.build (places := [(0, 1), (1, 1)]) ⟨underlying62, fun w => by kernel_rfl⟩ tyZS62 (Opds.cons (q 48) (Opds.cons (q 50) Opds.nil)) (by kernel_rfl) (r := (.st [(i6 x24.ffrom), (i6 x24.fto)])) (by rfl) (L rfl))) rfl (c (OpJ.buildSlice underlying23 tyS62 tyZD62 (by rfl) (by decide) (by decide) (Opds.cons (q 51) Opds.nil) (by kernel_rfl) (es := ([(.st [(.int .i64 x24.ffrom), (.int .i64 x24.fto)])] : List D)) (by rfl) (by rfl) (by kernel_rfl) (by simp) (L rfl)) rfl (cg (apd hB underlying23 tyE62 1053 e_api_Span s15.2 ([(api_Span.mk x24.ffrom x24.fto)] : List api_Span) hc25 (L rfl) (q 46) (q 52)) rfl (c (fo 1004 1 [1] hN underlying25 1 tyS23 (q 4)) rfl (cg (OpJ.storeB (c' := (.st [(.sref 13040 6 0 p9.length), (.sref 1053 2 0 ((s15.2 ++ ([(api_Span.mk x24.ffrom x24.fto)] : List api_Span)).length))])) tyS23 (SetAt.st1 (f := (.sref 13041 2 0 s15.2.length)) (by rfl) (by rfl) (SetAt.here _ _) (by rfl) (by rfl) (by first | rfl | omega)) (by rfl) (by rfl) (by simp) rfl (q 54) (q 53)) rfl cn))))))))))) ?_
     apply blkQ_n
     apply seqQ_n
     refine rg (c (add6 (L rfl) (q 41) (Opd.int .i64 (1))) rfl (c (mv hN (q 55)) rfl cn)) ?_
     obtain rfl := Option.some.inj h
     exact ⟨rfl, (mp [(13041, 1053)] _ _ hB)⟩
    ·replace h := ite_f hg23 h
     apply AWp.exit
     apply seqQ_e
     obtain rfl := Option.some.inj h
     exact ⟨(fun hc => by cases hc), rfl, (mp [] _ _ hB)⟩
   ·obtain ⟨rfl, hmat⟩ := hR
    apply blkQ_hit
    apply seqQ_n
    refine AWp.ghost hmat ?_
    refine sr (c (lb hN 25 _ _ tyS25 (At.here _) (q 4)) rfl (cg (sB tyS25 (q 2) (q 56)) rfl (c (OpJ.assign (L rfl) (Opd.int .i64 (0))) rfl cn))) ?_
    apply AWp.ret
    obtain rfl := Option.some.inj h
    exact ⟨.inl rfl, _, _, (Mat.trans (Mat.freezeP (n := 13040) (e := 46) (sz := 6) (es := p9.map e_api_Range) (Ts := []) (Bs := [(1002, some (.box 25 (.st [(qe_api_Range_6 p9), (.sref 13041 2 0 p22.length)])))]) (by rfl) TwT.nil (TwB.cons (x := (.st [(.sref 13040 6 0 p9.length), (.sref 13041 2 0 p22.length)])) (by rfl) (Tw.st (TwL.cons (FrzL.all (by first | rfl | (simp; done) | (simp; omega) | omega)) (TwL.cons (Tw.same _) TwL.nil))) TwB.nil)) (Mat.trans (Mat.freezeP (n := 13041) (e := 62) (sz := 2) (es := p22.map e_api_Span) (Ts := []) (Bs := [(1002, some (.box 25 (.st [(qe_api_Range_6 p9), (qe_api_Span_2 p22)])))]) (by rfl) TwT.nil (TwB.cons (x := (.st [(qe_api_Range_6 p9), (.sref 13041 2 0 p22.length)])) (by rfl) (Tw.st (TwL.cons (Tw.same _) (TwL.cons (FrzL.all (by first | rfl | (simp; done) | (simp; omega) | omega)) TwL.nil))) TwB.nil)) (Mat.trans (Mat.coeP (Ts := []) (Bs := [(1002, bd 25 (.st [(.list 6 (p9.map e_api_Range)), (.list 2 (p22.map e_api_Span))]))]) TwT.nil (TwB.cons (x := (.st [(qe_api_Range_6 p9), (qe_api_Span_2 p22)])) (by rfl) (Tw.leaf ⟨_, (Co.st (CoL.cons (Co.d _) (CoL.cons (Co.d _) CoL.nil))), rfl⟩) TwB.nil)) (mp [] [(2, (pt 1002)), (3, (i6 0))] [(1002, bd 25 (.st [(.list 6 (p9.map e_api_Range)), (.list 2 (p22.map e_api_Span))]))] hB)))), [(.d (.st [(.list 6 (p9.map e_api_Range)), (.list 2 (p22.map e_api_Span))])), (i6 0)], (Res.cell (c := (.d (.st [(.list 6 (p9.map e_api_Range)), (.list 2 (p22.map e_api_Span))]))) (by rfl) (by rfl) tyS25 (by rfl) (by rfl) (by rfl) (Res.tmp (by rfl) (by rfl) Res.nil)), rfl, by rfl, by rfl, by rfl⟩
noncomputable def resource_Union (a0 : api_Resources) (a1 : api_Resources) : Option (api_Resources × Int) :=
 jn (fun m5 : Bool =>
 (if m5 = true then
 some ((api_Resources.mk ([] : List api_Range) ([] : List api_Span)), (1 : Int))
 else
 (resource_of_3 a0).bind fun r8 =>
 (resource_of a1).bind fun r9 =>
 chk (decide ((r8.faddrs ++ r9.faddrs).length ≤ LIM)) <|
 (resource_order_normal (r8.faddrs ++ r9.faddrs)).bind fun r15 =>
 chk (decide ((r8.fasns ++ r9.fasns).length ≤ LIM)) <|
 (resource_order_normal_2 (r8.fasns ++ r9.fasns)).bind fun r17 =>
 (resource_set_resources (resource_set.mk r15 r17)).bind fun r18 =>
 some (r18.1, r18.2))) (fun j6 =>
 (resource_Valid a0).bind fun r19 =>
 (if (!r19) = true then
 j6 true
 else
 (resource_Valid a1).bind fun r21 =>
 j6 (!r21)))
theorem resource_Union_ac (a0 : api_Resources) (a1 : api_Resources) (r : api_Resources × Int) (h : resource_Union a0 a1 = some r) : AC Tryz.prog 10 [(.d (e_api_Resources a0)), (.d (e_api_Resources a1))] [(500, (.know (globF 0 [50, 52, 133]))), (501, (.know (globF 1 [71, 134, 135])))] (.tup [(.d (e_api_Resources r.1)), (.d (.int .i64 r.2))]) [(500, some (.know (globF 0 [50, 52, 133]))), (501, some (.know (globF 1 [71, 134, 135])))] := by
 refine AC.of_code2 Tryz.func10 rfl rfl (Nat.le_of_ble_eq_true (by rfl)) fun B hB hN => ?_
 have L {d : Nat} (h : Nat.blt d Tryz.f10.ntmps = true) : d < B.N := ltN hN h
 delta resource_Union at h
 refine sr (cg (OpJ.box hB (nm := 1002) (by decide) (by simp) rfl (L rfl) (q 0)) rfl (cg (OpJ.box hB (nm := 1003) (by decide) (by simp) rfl (L rfl) (q 1)) rfl (cg (OpJ.alloc hB tyZ25 (nm := 1004) (by decide) (L rfl)) rfl (c (OpJ.assign (L rfl) (Opd.int .i64 (0))) rfl cn)))) ?_
 apply AWp.seq
 apply AWp.seq
 refine AWp.cut h (fun m5 : Bool => ([(2, (pt 1002)), (3, (pt 1003)), (4, (pt 1004)), (15, (bo m5))] : EL)) (fun m5 : Bool => ([(500, some (.know (globF 0 [50, 52, 133]))), (501, some (.know (globF 1 [71, 134, 135]))), (1002, bd 25 (e_api_Resources a0)), (1003, bd 25 (e_api_Resources a1)), (1004, some (.box 25 (.st [.nils, .nils])))] : OL)) (fun m5 h E' O' hmat => ?_) (fun j6 hjj6 h => ?_)
 ·apply seqQ_n
  refine AWp.ghost hmat ?_
  refine AWp.cond rfl (fun hg7 => ?_) (fun hg7 => ?_)
  ·replace h := ite_t hg7 h
   refine sr (c (OpJ.build (places := [(0, 1), (1, 1)]) ⟨underlying25, fun w => by kernel_rfl⟩ tyZS25 Opds.nil (by kernel_rfl) (r := (.st [.nils, .nils])) (by rfl) (L rfl)) rfl (cg (sB tyS25 (q 4) (q 16)) rfl (c (OpJ.assign (L rfl) (Opd.int .i64 (1))) rfl cn))) ?_
   apply AWp.ret
   apply seqQ_r
   obtain rfl := Option.some.inj h
   exact ⟨.inl rfl, _, _, (Mat.trans (Mat.coeP (Ts := []) (Bs := [(1004, bd 25 (.st [(.list 6 (([] : List api_Range).map e_api_Range)), (.list 2 (([] : List api_Span).map e_api_Span))]))]) TwT.nil (TwB.cons (x := (.st [.nils, .nils])) (by rfl) (Tw.leaf ⟨_, (Co.st (CoL.cons (Co.nils 6) (CoL.cons (Co.nils 2) CoL.nil))), rfl⟩) TwB.nil)) (mp [] [(4, (pt 1004)), (5, (i6 1))] [(500, some (.know (globF 0 [50, 52, 133]))), (501, some (.know (globF 1 [71, 134, 135]))), (1004, bd 25 (.st [(.list 6 (([] : List api_Range).map e_api_Range)), (.list 2 (([] : List api_Span).map e_api_Span))]))] hB)), [(.d (.st [(.list 6 (([] : List api_Range).map e_api_Range)), (.list 2 (([] : List api_Span).map e_api_Span))])), (i6 1)], (Res.cell (c := (.d (.st [(.list 6 (([] : List api_Range).map e_api_Range)), (.list 2 (([] : List api_Span).map e_api_Span))]))) (by rfl) (by rfl) tyS25 (by rfl) (by rfl) (by rfl) (Res.tmp (by rfl) (by rfl) Res.nil)), rfl, by rfl, by rfl, by rfl⟩
  ·replace h := ite_f hg7 h
   apply AWp.skip
   apply seqQ_n
   apply AWp.seq
   obtain ⟨r8, hr8, h⟩ := bindS h
   obtain ⟨r9, hr9, h⟩ := bindS h
   refine AWp.draws (by kernel_rfl) (oc (lb hN 25 (.d (e_api_Resources a0)) (.d (e_api_Resources a0)) tyS25 (At.here _) (ot 2 (pt 1002)))
    (oc (OpJ.callFn hB fnOk29 (resource_of_3_ac a0 r8 hr8) [(900000, 100200), (900001, 100201)] (by kernel_rfl) (L rfl) (by kernel_rfl) (OpdL.cons (ot 17 (.d (e_api_Resources a0))) OpdL.nil))
    (oc (lb hN 25 (.d (e_api_Resources a1)) (.d (e_api_Resources a1)) tyS25 (At.here _) (ot 3 (pt 1003)))
    (oc (cf hB fnOk29 (resource_of_ac a1 r9 hr9) (L rfl) (OpdL.cons (ot 19 (.d (e_api_Resources a1))) OpdL.nil))
    (oc (OpJ.alloc hB tyZ69 (nm := 1006) (by decide) (L rfl))
    (oc (OpJ.alloc hB tyZ69 (nm := 1007) (by decide) (L rfl))
    (oc (OpJ.storeB (bt := 69) (c := (.st [.nils, .nils])) (v := (.st [(.sref 100200 6 0 r8.faddrs.length), (.sref 100201 2 0 r8.fasns.length)])) (c' := (.st [(.sref 100200 6 0 r8.faddrs.length), (.sref 100201 2 0 r8.fasns.length)])) tyS69 (SetAt.here _ _) (by rfl) (by rfl) (by simp) rfl (ot 6 (pt 1006)) (ot 18 (.st [(.sref 100200 6 0 r8.faddrs.length), (.sref 100201 2 0 r8.fasns.length)])))
    (oc (OpJ.storeB (bt := 69) (c := (.st [.nils, .nils])) (v := (.d (e_resource_set r9))) (c' := (.d (e_resource_set r9))) tyS69 (SetAt.here _ _) (by rfl) (by rfl) (by simp) rfl (ot 7 (pt 1007)) (ot 20 (.d (e_resource_set r9))))
    (OpJs.nil))))))))) (by kernel_rfl) (by rfl) (by rfl) ?_
   apply seqQ_n
   refine AWp.ghost (mp [] [(4, (pt 1004)), (6, (pt 1006)), (7, (pt 1007))] [(500, some (.know (globF 0 [50, 52, 133]))), (501, some (.know (globF 1 [71, 134, 135]))), (1004, some (.box 25 (.st [.nils, .nils]))), (1006, some (.box 69 (.st [(.sref 100200 6 0 r8.faddrs.length), (.sref 100201 2 0 r8.fasns.length)]))), (1007, bd 69 (e_resource_set r9)), (100200, some (we_api_Addr__99_6 r8.faddrs)), (100201, some (.row 101 2 (r8.fasns.map e_resource_part_int_)))] hB) ?_
   obtain ⟨hc14, h⟩ := chk_some h
   obtain ⟨r15, hr15, h⟩ := bindS h
   obtain ⟨hc16, h⟩ := chk_some h
   obtain ⟨r17, hr17, h⟩ := bindS h
   obtain ⟨r18, hr18, h⟩ := bindS h
   refine sd (cg (OpJ.loadG (nm := 500) [50, 52, 133] tyS73 rfl (L rfl)) rfl (c (fo 1006 0 [0] hN underlying69 0 tyS66 (q 6)) rfl (c (lb hN 69 _ (.sref 100200 6 0 r8.faddrs.length) tyS66 (At.st1 (f := (.sref 100200 6 0 r8.faddrs.length)) (by rfl) (by rfl) (At.here _) (by first | rfl | omega)) (q 22)) rfl (c (fo 1007 0 [0] hN underlying69 0 tyS66 (q 7)) rfl (c (la hN 69 tyS66 (q 24)) rfl (cg (OpJ.frz (apd hB underlying66 tyE99 1026 e_api_Addr_ r8.faddrs r9.faddrs hc14 (L rfl) (q 23) (q 25)) (by simp)) rfl (cg (cf hB fnOk30 (resource_order_normal_ac (r8.faddrs ++ r9.faddrs) r15 hr15) (L rfl) (OpdL.cons (q 21) (OpdL.cons (q 26) OpdL.nil))) rfl (cg (OpJ.loadG (nm := 501) [71, 134, 135] tyS77 rfl (L rfl)) rfl (c (fo 1006 1 [1] hN underlying69 1 tyS67 (q 6)) rfl (c (lb hN 69 _ (.sref 100201 2 0 r8.fasns.length) tyS67 (At.st1 (f := (.sref 100201 2 0 r8.fasns.length)) (by rfl) (by rfl) (At.here _) (by first | rfl | omega)) (q 29)) rfl (c (fo 1007 1 [1] hN underlying69 1 tyS67 (q 7)) rfl (c (la hN 69 tyS67 (q 31)) rfl (cg (OpJ.frz (apd hB underlying67 tyE101 1033 e_resource_part_int_ r8.fasns r9.fasns hc16 (L rfl) (q 30) (q 32)) (by simp)) rfl (cg (cf hB fnOk31 (resource_order_normal_2_ac (r8.fasns ++ r9.fasns) r17 hr17) (L rfl) (OpdL.cons (q 28) (OpdL.cons (q 33) OpdL.nil))) rfl (c (OpJ.coe (v := (.st [(qe_api_Addr__6 r15), (.d (.list 2 (r17.map e_resource_part_int_)))])) (y := (.st [(.list 6 (r15.map e_api_Addr_)), (.list 2 (r17.map e_resource_part_int_))])) (Co.st (CoL.cons (Co.d _) (CoL.cons (Co.d _) CoL.nil))) rfl (OpJ.build (places := [(0, 1), (1, 1)]) ⟨underlying69, fun w => by kernel_rfl⟩ tyZS69 (Opds.cons (q 27) (Opds.cons (q 34) Opds.nil)) (by kernel_rfl) (r := (.st [(qe_api_Addr__6 r15), (.d (.list 2 (r17.map e_resource_part_int_)))])) (by rfl) (L rfl))) rfl (cg (cf hB fnOk32 (resource_set_resources_ac (resource_set.mk r15 r17) r18 hr18) (L rfl) (OpdL.cons (q 35) OpdL.nil)) rfl (c (OpJ.extract (by rfl) rfl (L rfl) (q 36)) rfl (c (OpJ.extract (by rfl) rfl (L rfl) (q 36)) rfl (cg (sB tyS25 (q 4) (q 37)) rfl (c (OpJ.assign (L rfl) (q 38)) rfl cn)))))))))))))))))))) (by kernel_rfl) (by kernel_rfl) ?_
   apply AWp.ret
   obtain rfl := Option.some.inj h
   exact ⟨.inl rfl, _, _, (kp [(4, _), (5, _)] [(500, some _), (501, some _), (1004, some _)] hB rfl rfl (by rfl)), [(.d (e_api_Resources r18.1)), (i6 r18.2)], (Res.cell (c := (.d (e_api_Resources r18.1))) (by rfl) (by rfl) tyS25 (by rfl) (by rfl) (by rfl) (Res.tmp (by rfl) (by rfl) Res.nil)), rfl, by rfl, by rfl, by rfl⟩
 ·obtain ⟨r19, hr19, h⟩ := bindS h
  rcases Bool.eq_false_or_eq_true (!r19) with hg20 | hg20
  ·replace h := ite_t hg20 h
   refine AWp.region (oc (lb hN 25 (.d (e_api_Resources a0)) (.d (e_api_Resources a0)) tyS25 (At.here _) (ot 2 (pt 1002)))
    (oc (OpJ.callFn hB fnOk19 (resource_Valid_ac a0 r19 hr19) [(500, 500), (501, 501)] (by kernel_rfl) (L rfl) (by kernel_rfl) (OpdL.cons (ot 8 (.d (e_api_Resources a0))) OpdL.nil))
    (oc (OpJ.not (L rfl) (ot 9 (bo r19)))
    (oc (OpJ.val (v' := .d (.bool true)) (by rw [hg20] <;> rfl) (mv hN (ot 10 (bo (!r19)))))
    (oc (sU 11 (L rfl))
    (oc (sU 11 (L rfl))
    (oc (sU 11 (L rfl))
    (oc (OpJ.pickT (L rfl) (ot 11 (bo true)) (Opd.bool true))
    (OpJs.nil))))))))) (by rfl) (by rfl) ?_
   exact hjj6 _ h _ _ (mp [] _ _ hB)
  ·replace h := ite_f hg20 h
   obtain ⟨r21, hr21, h⟩ := bindS h
   refine AWp.region (oc (lb hN 25 (.d (e_api_Resources a0)) (.d (e_api_Resources a0)) tyS25 (At.here _) (ot 2 (pt 1002)))
    (oc (OpJ.callFn hB fnOk19 (resource_Valid_ac a0 r19 hr19) [(500, 500), (501, 501)] (by kernel_rfl) (L rfl) (by kernel_rfl) (OpdL.cons (ot 8 (.d (e_api_Resources a0))) OpdL.nil))
    (oc (OpJ.not (L rfl) (ot 9 (bo r19)))
    (oc (OpJ.val (v' := .d (.bool false)) (by rw [hg20] <;> rfl) (mv hN (ot 10 (bo (!r19)))))
    (oc (gd 11 (lb hN 25 (.d (e_api_Resources a1)) (.d (e_api_Resources a1)) tyS25 (At.here _) (ot 3 (pt 1003))))
    (oc (gd 11 (OpJ.callFn hB fnOk19 (resource_Valid_ac a1 r21 hr21) [(500, 500), (501, 501)] (by kernel_rfl) (L rfl) (by kernel_rfl) (OpdL.cons (ot 12 (.d (e_api_Resources a1))) OpdL.nil)))
    (oc (gd 11 (OpJ.not (L rfl) (ot 13 (bo r21))))
    (oc (OpJ.pickF (L rfl) (ot 11 (bo false)) (ot 14 (bo (!r21))))
    (OpJs.nil))))))))) (by rfl) (by rfl) ?_
   exact hjj6 _ h _ _ (mp [] _ _ hB)
noncomputable def exchangepointref21_Valid_L0 (a0 : api_Resources) (s1 : Int) : Option (((Unit) ⊕ (Unit)) ⊕ (Int)) :=
 (if (decide (s1 < (a0.fAddrs.length : Int))) = true then
 jn (fun _ : Unit =>
 some (.inr (w64 (s1 + (1 : Int))))) (fun j142 =>
 (idx a0.fAddrs s1).bind fun x143 =>
 jn (fun m150 : Bool =>
 (if m150 = true then
 some (.inl (.inl ()))
 else
 (if (s1 == (0 : Int)) = true then
 j142 ()
 else
 (idx a0.fAddrs (w64 (s1 - (1 : Int)))).bind fun x154 =>
 (exchangepointref01_Next x154.fTo).bind fun r155 =>
 jn (fun m159 : Bool =>
 (if m159 = true then
 some (.inl (.inl ()))
 else
 j142 ())) (fun j160 =>
 (exchangepointref01_Cmp x154.fTo x143.fFrom).bind fun r162 =>
 (if (decide ((0 : Int) ≤ r162)) = true then
 j160 true
 else
 j160 (r155.2 && ((r155.1.fV6 == x143.fFrom.fV6) && ((r155.1.fHi == x143.fFrom.fHi) && ((r155.1.fLo == x143.fFrom.fLo) && true))))))))) (fun j151 =>
 (exchangepointref01_Valid x143.fFrom).bind fun r164 =>
 (if (!r164) = true then
 j151 true
 else
 (exchangepointref01_Valid x143.fTo).bind fun r166 =>
 (if ((!r166) || (x143.fFrom.fV6 != x143.fTo.fV6)) = true then
 j151 true
 else
 (exchangepointref01_Cmp x143.fFrom x143.fTo).bind fun r168 =>
 j151 (decide ((0 : Int) < r168))))))
 else
 some (.inl (.inr ())))
noncomputable def exchangepointref21_Valid_L1 (a0 : api_Resources) (s171 : Int) : Option (((Unit) ⊕ (Unit)) ⊕ (Int)) :=
 (if (decide (s171 < (a0.fASNs.length : Int))) = true then
 (idx a0.fASNs s171).bind fun x197 =>
 jn (fun m201 : Bool =>
 (if m201 = true then
 some (.inl (.inl ()))
 else
 some (.inr (w64 (s171 + (1 : Int)))))) (fun j202 =>
 (if (((decide (x197.fFrom < (0 : Int))) || (decide (x197.fTo < x197.fFrom))) || (decide ((4294967295 : Int) < x197.fTo))) = true then
 j202 true
 else
 (if (decide ((0 : Int) < s171)) = true then
 (idx a0.fASNs (w64 (s171 - (1 : Int)))).bind fun x206 =>
 j202 (decide ((w64 (x197.fFrom - (1 : Int))) ≤ x206.fTo))
 else
 j202 false)))
 else
 some (.inl (.inr ())))
noncomputable def exchangepointref21_Valid (a0 : api_Resources) : Option (Bool) :=
 (loop (exchangepointref21_Valid_L0 a0) (0 : Int)).bind fun x169 => match x169 with
 | (.inl _) =>
  some false
 | (.inr _) =>
  (loop (exchangepointref21_Valid_L1 a0) (0 : Int)).bind fun x207 => match x207 with
  | (.inl _) =>
   some false
  | (.inr _) =>
   some ((decide ((a0.fAddrs.length : Int) ≤ (256 : Int))) && (decide ((a0.fASNs.length : Int) ≤ (256 : Int))))
theorem exchangepointref21_Valid_ac (a0 : api_Resources) (r : Bool) (h : exchangepointref21_Valid a0 = some r) : AC Tryz.prog 33 [(.d (e_api_Resources a0))] [] (.d (.bool r)) [] := by
 refine AC.of_code2 Tryz.func33 rfl rfl (Nat.le_of_ble_eq_true (by rfl)) fun B hB hN => ?_
 have L {d : Nat} (h : Nat.blt d Tryz.f33.ntmps = true) : d < B.N := ltN hN h
 delta exchangepointref21_Valid at h
 refine sr (cg (OpJ.box hB (nm := 1001) (by decide) (by simp) rfl (L rfl) (q 0)) rfl (c (OpJ.assign (L rfl) (Opd.bool false)) rfl cn)) ?_
 apply AWp.seq
 refine sr (c (fo 1001 0 [0] hN underlying25 0 tyS22 (q 1)) rfl (c (la hN 25 tyS22 (q 10)) rfl (c (OpJ.val (v' := (i6 (a0.fAddrs.length : Int))) (by simp) (OpJ.lenD underlying22 (L rfl) (q 11))) rfl (c (mv hN (Opd.int .i64 (0))) rfl cn)))) ?_
 apply AWp.block
 obtain ⟨x169, hx170, h⟩ := bindS h
 refine lg (exchangepointref21_Valid_L0 a0) (fun s1 : Int => ([(1, (pt 1001)), (11, (qe_api_Range_6 a0.fAddrs)), (12, (i6 (a0.fAddrs.length : Int))), (13, (i6 s1))] : EL)) (fun s1 : Int => ([(1001, bd 25 (e_api_Resources a0))] : OL)) (fun (x : (Unit) ⊕ (Unit)) e E' O' => match x with | (.inl _p) => e = .ret ∧ Mat B E' O' ([(2, (bo false))] : EL) ([] : OL) | (.inr _p) => e = .exit 0 ∧ Mat B E' O' ([(1, (pt 1001))] : EL) ([(1001, bd 25 (e_api_Resources a0))] : OL)) hx170 (mp [] _ _ hB) (fun s1 y h => ?_) (fun e E' O' hR => ?_)
 ·unfold exchangepointref21_Valid_L0 at h
  refine sr (c (OpJ.lss (L rfl) (q 13) (q 12)) rfl cn) ?_
  apply AWp.seq
  refine AWp.cond rfl (fun hg114 => ?_) (fun hg114 => ?_)
  ·replace h := ite_t hg114 h
   apply AWp.skip
   apply seqQ_n
   apply AWp.seq
   refine AWp.cut h (fun _ : Unit => ([(1, (pt 1001)), (11, (qe_api_Range_6 a0.fAddrs)), (12, (i6 (a0.fAddrs.length : Int))), (13, (i6 s1))] : EL)) (fun _ : Unit => ([(1001, bd 25 (e_api_Resources a0))] : OL)) (fun _m h E' O' hmat => ?_) (fun j142 hjj142 h => ?_)
   ·apply seqQ_n
    refine AWp.ghost hmat ?_
    refine rg (c (add6 (L rfl) (q 13) (Opd.int .i64 (1))) rfl (c (mv hN (q 73)) rfl cn)) ?_
    obtain rfl := Option.some.inj h
    exact ⟨rfl, (mp [] _ _ hB)⟩
   ·apply AWp.block
    obtain ⟨x143, hx143, h⟩ := bindS h
    refine sr (c (mv hN (q 13)) rfl (c (OpJ.indexD underlying22 tyS46 (idx_some hx143).1 (get_map e_api_Range (idx_some hx143).2) (L rfl) (q 11) (q 13)) rfl (c (OpJ.loadD tyS46 (by rfl) (by rfl) (L rfl) (q 16)) rfl (cg (OpJ.alloc hB tyZ46 (nm := 1004) (by decide) (L rfl)) rfl (c (OpJ.assign (L rfl) (q 15)) rfl (cg (sB tyS46 (q 4) (q 17)) rfl cn)))))) ?_
    apply AWp.seq
    apply AWp.seq
    refine AWp.cut h (fun m150 : Bool => ([(1, (pt 1001)), (3, (i6 s1)), (4, (pt 1004)), (11, (qe_api_Range_6 a0.fAddrs)), (12, (i6 (a0.fAddrs.length : Int))), (13, (i6 s1)), (44, (bo m150))] : EL)) (fun m150 : Bool => ([(1001, bd 25 (e_api_Resources a0)), (1004, bd 46 (e_api_Range x143))] : OL)) (fun m150 h E' O' hmat => ?_) (fun j151 hjj151 h => ?_)
    ·apply seqQ_n
     refine AWp.ghost hmat ?_
     refine AWp.cond rfl (fun hg152 => ?_) (fun hg152 => ?_)
     ·replace h := ite_t hg152 h
      refine sr (c (OpJ.assign (L rfl) (Opd.bool false)) rfl cn) ?_
      apply AWp.ret
      apply seqQ_r
      apply blkQ_r
      apply seqQ_r
      obtain rfl := Option.some.inj h
      exact ⟨(fun hc => by cases hc), rfl, (mp [] _ _ hB)⟩
     ·replace h := ite_f hg152 h
      apply AWp.skip
      apply seqQ_n
      apply AWp.seq
      refine sr (c (mv hN (q 3)) rfl (c (OpJ.eqlI (L rfl) (q 45) (Opd.int .i64 (0))) rfl cn)) ?_
      refine AWp.cond rfl (fun hg153 => ?_) (fun hg153 => ?_)
      ·replace h := ite_t hg153 h
       apply AWp.exit
       apply seqQ_e
       apply blkQ_hit
       exact hjj142 _ h _ _ (mp [] _ _ hB)
      ·replace h := ite_f hg153 h
       apply AWp.skip
       apply seqQ_n
       obtain ⟨x154, hx154, h⟩ := bindS h
       refine sr (c (fo 1001 0 [0] hN underlying25 0 tyS22 (q 1)) rfl (c (la hN 25 tyS22 (q 47)) rfl (c (mv hN (q 3)) rfl (c (sub6 (L rfl) (q 49) (Opd.int .i64 (1))) rfl (c (OpJ.indexD underlying22 tyS46 (idx_some hx154).1 (get_map e_api_Range (idx_some hx154).2) (L rfl) (q 48) (q 50)) rfl (c (OpJ.fieldD underlying46 (by rfl) (o := 3) (by rfl) tyS42 (by decide) (by rfl) (by rfl) (L rfl) (q 51)) rfl (c (OpJ.loadD tyS42 (by rfl) (by rfl) (L rfl) (q 52)) rfl (cg (OpJ.alloc hB tyZ42 (nm := 1005) (by decide) (L rfl)) rfl (cg (sB tyS42 (q 5) (q 53)) rfl cn))))))))) ?_
       obtain ⟨r155, hr155, h⟩ := bindS h
       refine sr (c (lb hN 42 _ _ tyS42 (At.here _) (q 5)) rfl (cg (cf hB fnOk21 (exchangepointref01_Next_ac x154.fTo r155 hr155) (L rfl) (OpdL.cons (q 55) OpdL.nil)) rfl (c (mv hN (q 56)) rfl (c (OpJ.extract (by rfl) rfl (L rfl) (q 54)) rfl (c (OpJ.extract (by rfl) rfl (L rfl) (q 54)) rfl (cg (OpJ.alloc hB tyZ42 (nm := 1006) (by decide) (L rfl)) rfl (cg (sB tyS42 (q 6) (q 57)) rfl (c (OpJ.assign (L rfl) (q 58)) rfl cn)))))))) ?_
       apply AWp.seq
       refine AWp.cut h (fun m159 : Bool => ([(1, (pt 1001)), (11, (qe_api_Range_6 a0.fAddrs)), (12, (i6 (a0.fAddrs.length : Int))), (13, (i6 s1)), (72, (bo m159))] : EL)) (fun m159 : Bool => ([(1001, bd 25 (e_api_Resources a0))] : OL)) (fun m159 h E' O' hmat => ?_) (fun j160 hjj160 h => ?_)
       ·apply seqQ_n
        refine AWp.ghost hmat ?_
        refine AWp.cond rfl (fun hg161 => ?_) (fun hg161 => ?_)
        ·replace h := ite_t hg161 h
         refine sr (c (OpJ.assign (L rfl) (Opd.bool false)) rfl cn) ?_
         apply AWp.ret
         apply blkQ_r
         apply seqQ_r
         obtain rfl := Option.some.inj h
         exact ⟨(fun hc => by cases hc), rfl, (mp [] _ _ hB)⟩
        ·replace h := ite_f hg161 h
         apply AWp.skip
         apply blkQ_n
         exact hjj142 _ h _ _ (mp [] _ _ hB)
       ·obtain ⟨r162, hr162, h⟩ := bindS h
        rcases Bool.eq_false_or_eq_true (decide ((0 : Int) ≤ r162)) with hg163 | hg163
        ·replace h := ite_t hg163 h
         refine rg (c (lb hN 42 _ _ tyS42 (At.here _) (q 5)) rfl (c (fo 1004 0 [0] hN underlying46 0 tyS42 (q 4)) rfl (c (la hN 46 tyS42 (q 60)) rfl (cg (cf hB fnOk40 (exchangepointref01_Cmp_ac x154.fTo x143.fFrom r162 hr162) (L rfl) (OpdL.cons (q 59) (OpdL.cons (q 61) OpdL.nil))) rfl (c (OpJ.geq (L rfl) (q 62) (Opd.int .i64 (0))) rfl (c (OpJ.val (v' := .d (.bool true)) (by rw [hg163] <;> rfl) (mv hN (q 63))) rfl (cg (sU 64 (L rfl)) rfl (cg (sU 64 (L rfl)) rfl (cg (sV 66 (L rfl)) rfl (cg (sV 66 (L rfl)) rfl (cg (sV 66 (L rfl)) rfl (cg (sV 66 (L rfl)) rfl (cg (sU 64 (L rfl)) rfl (c (OpJ.pickT (L rfl) (q 64) (Opd.bool true)) rfl cn)))))))))))))) ?_
         exact hjj160 _ h _ _ (mp [] _ _ hB)
        ·replace h := ite_f hg163 h
         refine rg (c (lb hN 42 _ _ tyS42 (At.here _) (q 5)) rfl (c (fo 1004 0 [0] hN underlying46 0 tyS42 (q 4)) rfl (c (la hN 46 tyS42 (q 60)) rfl (cg (cf hB fnOk40 (exchangepointref01_Cmp_ac x154.fTo x143.fFrom r162 hr162) (L rfl) (OpdL.cons (q 59) (OpdL.cons (q 61) OpdL.nil))) rfl (c (OpJ.geq (L rfl) (q 62) (Opd.int .i64 (0))) rfl (c (OpJ.val (v' := .d (.bool false)) (by rw [hg163] <;> rfl) (mv hN (q 63))) rfl (c (gd 64 (mv hN (q 7))) rfl (c (gd 64 (mv hN (q 65))) rfl (c (oq hN 66 (lb hN 42 _ _ tyS42 (At.here _) (q 6)) (OptL.keep (by rfl) OptL.nil) (GuardV.plain _)) rfl (c (oq hN 66 (fo 1004 0 [0] hN underlying46 0 tyS42 (q 4)) (OptL.keep (by rfl) OptL.nil) (GuardV.plain _)) rfl (c (oq hN 66 (la hN 46 tyS42 (q 68)) (OptL.opt OptL.nil) (GuardV.plain _)) rfl (c (oq hN 66 (OpJ.eqlD (h := 2) (FitE.st underlying42 rfl held42 (FitF.cons (x := (.bool r155.1.fV6)) (y := (.bool x143.fFrom.fV6)) (by decide) rfl tyS4 ⟨rfl, rfl⟩ ⟨rfl, rfl⟩ (FitE.bool (h := 0) r155.1.fV6 x143.fFrom.fV6 underlying4) (FitF.cons (x := (.int .u64 r155.1.fHi)) (y := (.int .u64 x143.fFrom.fHi)) (by decide) rfl tyS40 ⟨rfl, rfl⟩ ⟨rfl, rfl⟩ (FitE.int (h := 0) r155.1.fHi x143.fFrom.fHi underlying40) (FitF.cons (x := (.int .u64 r155.1.fLo)) (y := (.int .u64 x143.fFrom.fLo)) (by decide) rfl tyS40 ⟨rfl, rfl⟩ ⟨rfl, rfl⟩ (FitE.int (h := 0) r155.1.fLo x143.fFrom.fLo underlying40) FitF.nil)))) eqg42 ⟨rfl, rfl⟩ (by rfl) (L rfl) (q 67) (q 69)) (OptL.opt (OptL.opt OptL.nil)) (GuardV.plain _)) rfl (c (gd 64 (OpJ.pickAnd rfl (L rfl) (q 66) (q 70))) rfl (c (OpJ.pickF (L rfl) (q 64) (q 71)) rfl cn)))))))))))))) ?_
         exact hjj160 _ h _ _ (mp [] _ _ hB)
    ·obtain ⟨r164, hr164, h⟩ := bindS h
     rcases Bool.eq_false_or_eq_true (!r164) with hg165 | hg165
     ·replace h := ite_t hg165 h
      refine rg (c (fo 1004 0 [0] hN underlying46 0 tyS42 (q 4)) rfl (c (la hN 46 tyS42 (q 18)) rfl (cg (cf hB fnOk63 (exchangepointref01_Valid_ac x143.fFrom r164 hr164) (L rfl) (OpdL.cons (q 19) OpdL.nil)) rfl (c (OpJ.not (L rfl) (q 20)) rfl (c (OpJ.val (v' := .d (.bool true)) (by rw [hg165] <;> rfl) (mv hN (q 21))) rfl (cg (sU 22 (L rfl)) rfl (cg (sU 22 (L rfl)) rfl (cg (sU 22 (L rfl)) rfl (cg (sU 22 (L rfl)) rfl (c (OpJ.pickT (L rfl) (q 22) (Opd.bool true)) rfl (c (mv hN (q 27)) rfl (cg (sU 28 (L rfl)) rfl (cg (sU 28 (L rfl)) rfl (cg (sU 28 (L rfl)) rfl (cg (sU 28 (L rfl)) rfl (cg (sU 28 (L rfl)) rfl (cg (sU 28 (L rfl)) rfl (cg (sU 28 (L rfl)) rfl (c (OpJ.pickT (L rfl) (q 28) (Opd.bool true)) rfl (c (mv hN (q 36)) rfl (cg (sU 37 (L rfl)) rfl (cg (sU 37 (L rfl)) rfl (cg (sU 37 (L rfl)) rfl (cg (sU 37 (L rfl)) rfl (cg (sU 37 (L rfl)) rfl (cg (sU 37 (L rfl)) rfl (c (OpJ.pickT (L rfl) (q 37) (Opd.bool true)) rfl cn))))))))))))))))))))))))))) ?_
      exact hjj151 _ h _ _ (mp [] _ _ hB)
     ·replace h := ite_f hg165 h
      obtain ⟨r166, hr166, h⟩ := bindS h
      rcases Bool.eq_false_or_eq_true ((!r166) || (x143.fFrom.fV6 != x143.fTo.fV6)) with hg167 | hg167
      ·replace h := ite_t hg167 h
       refine rg (c (fo 1004 0 [0] hN underlying46 0 tyS42 (q 4)) rfl (c (la hN 46 tyS42 (q 18)) rfl (cg (cf hB fnOk63 (exchangepointref01_Valid_ac x143.fFrom r164 hr164) (L rfl) (OpdL.cons (q 19) OpdL.nil)) rfl (c (OpJ.not (L rfl) (q 20)) rfl (c (OpJ.val (v' := .d (.bool false)) (by rw [hg165] <;> rfl) (mv hN (q 21))) rfl (c (gd 22 (fo 1004 3 [1] hN underlying46 3 tyS42 (q 4))) rfl (c (gd 22 (la hN 46 tyS42 (q 23))) rfl (cg (gd 22 (cf hB fnOk63 (exchangepointref01_Valid_ac x143.fTo r166 hr166) (L rfl) (OpdL.cons (q 24) OpdL.nil))) rfl (c (gd 22 (OpJ.not (L rfl) (q 25))) rfl (c (OpJ.pickF (L rfl) (q 22) (q 26)) rfl (c (mv hN (q 27)) rfl (c (oq hN 28 (fo 1004 0 [0] hN underlying46 0 tyS42 (q 4)) (OptL.keep (by rfl) OptL.nil) (GuardV.plain _)) rfl (c (oq hN 28 (fo 1004 0 [0, 0] hN underlying42 0 tyS4 (q 29)) (OptL.opt OptL.nil) (GuardV.plain _)) rfl (c (oq hN 28 (lb hN 46 _ _ tyS4 (At.dst1 (by rfl) (by rfl) (ad _) (by first | rfl | omega)) (q 30)) (OptL.opt OptL.nil) (GuardV.plain _)) rfl (c (oq hN 28 (fo 1004 3 [1] hN underlying46 3 tyS42 (q 4)) (OptL.keep (by rfl) OptL.nil) (GuardV.plain _)) rfl (c (oq hN 28 (fo 1004 3 [1, 0] hN underlying42 0 tyS4 (q 32)) (OptL.opt OptL.nil) (GuardV.plain _)) rfl (c (oq hN 28 (lb hN 46 _ _ tyS4 (At.dst1 (by rfl) (by rfl) (ad _) (by first | rfl | omega)) (q 33)) (OptL.opt OptL.nil) (GuardV.plain _)) rfl (c (oq hN 28 (OpJ.neqB underlying4 (L rfl) (q 31) (q 34)) (OptL.opt (OptL.opt OptL.nil)) (GuardV.plain _)) rfl (c (OpJ.pickOr rfl (L rfl) (q 28) (q 35)) rfl (c (OpJ.val (v' := .d (.bool true)) (by rw [hg167] <;> rfl) (mv hN (q 36))) rfl (cg (sU 37 (L rfl)) rfl (cg (sU 37 (L rfl)) rfl (cg (sU 37 (L rfl)) rfl (cg (sU 37 (L rfl)) rfl (cg (sU 37 (L rfl)) rfl (cg (sU 37 (L rfl)) rfl (c (OpJ.pickT (L rfl) (q 37) (Opd.bool true)) rfl cn))))))))))))))))))))))))))) ?_
       exact hjj151 _ h _ _ (mp [] _ _ hB)
      ·replace h := ite_f hg167 h
       obtain ⟨r168, hr168, h⟩ := bindS h
       refine rg (c (fo 1004 0 [0] hN underlying46 0 tyS42 (q 4)) rfl (c (la hN 46 tyS42 (q 18)) rfl (cg (cf hB fnOk63 (exchangepointref01_Valid_ac x143.fFrom r164 hr164) (L rfl) (OpdL.cons (q 19) OpdL.nil)) rfl (c (OpJ.not (L rfl) (q 20)) rfl (c (OpJ.val (v' := .d (.bool false)) (by rw [hg165] <;> rfl) (mv hN (q 21))) rfl (c (gd 22 (fo 1004 3 [1] hN underlying46 3 tyS42 (q 4))) rfl (c (gd 22 (la hN 46 tyS42 (q 23))) rfl (cg (gd 22 (cf hB fnOk63 (exchangepointref01_Valid_ac x143.fTo r166 hr166) (L rfl) (OpdL.cons (q 24) OpdL.nil))) rfl (c (gd 22 (OpJ.not (L rfl) (q 25))) rfl (c (OpJ.pickF (L rfl) (q 22) (q 26)) rfl (c (mv hN (q 27)) rfl (c (oq hN 28 (fo 1004 0 [0] hN underlying46 0 tyS42 (q 4)) (OptL.keep (by rfl) OptL.nil) (GuardV.plain _)) rfl (c (oq hN 28 (fo 1004 0 [0, 0] hN underlying42 0 tyS4 (q 29)) (OptL.opt OptL.nil) (GuardV.plain _)) rfl (c (oq hN 28 (lb hN 46 _ _ tyS4 (At.dst1 (by rfl) (by rfl) (ad _) (by first | rfl | omega)) (q 30)) (OptL.opt OptL.nil) (GuardV.plain _)) rfl (c (oq hN 28 (fo 1004 3 [1] hN underlying46 3 tyS42 (q 4)) (OptL.keep (by rfl) OptL.nil) (GuardV.plain _)) rfl (c (oq hN 28 (fo 1004 3 [1, 0] hN underlying42 0 tyS4 (q 32)) (OptL.opt OptL.nil) (GuardV.plain _)) rfl (c (oq hN 28 (lb hN 46 _ _ tyS4 (At.dst1 (by rfl) (by rfl) (ad _) (by first | rfl | omega)) (q 33)) (OptL.opt OptL.nil) (GuardV.plain _)) rfl (c (oq hN 28 (OpJ.neqB underlying4 (L rfl) (q 31) (q 34)) (OptL.opt (OptL.opt OptL.nil)) (GuardV.plain _)) rfl (c (OpJ.pickOr rfl (L rfl) (q 28) (q 35)) rfl (c (OpJ.val (v' := .d (.bool false)) (by rw [hg167] <;> rfl) (mv hN (q 36))) rfl (c (gd 37 (fo 1004 0 [0] hN underlying46 0 tyS42 (q 4))) rfl (c (gd 37 (la hN 46 tyS42 (q 38))) rfl (c (gd 37 (fo 1004 3 [1] hN underlying46 3 tyS42 (q 4))) rfl (c (gd 37 (la hN 46 tyS42 (q 40))) rfl (cg (gd 37 (cf hB fnOk40 (exchangepointref01_Cmp_ac x143.fFrom x143.fTo r168 hr168) (L rfl) (OpdL.cons (q 39) (OpdL.cons (q 41) OpdL.nil)))) rfl (c (gd 37 (OpJ.gtr (L rfl) (q 42) (Opd.int .i64 (0)))) rfl (c (OpJ.pickF (L rfl) (q 37) (q 43)) rfl cn))))))))))))))))))))))))))) ?_
       exact hjj151 _ h _ _ (mp [] _ _ hB)
  ·replace h := ite_f hg114 h
   apply AWp.exit
   apply seqQ_e
   obtain rfl := Option.some.inj h
   exact ⟨(fun hc => by cases hc), rfl, (mp [] _ _ hB)⟩
 ·rcases x169 with _ | _
  ·obtain ⟨rfl, hmat⟩ := hR
   apply blkQ_r
   apply seqQ_r
   obtain rfl := Option.some.inj h
   exact ⟨.inl rfl, _, _, (Mat.trans hmat (mp [] [(2, (bo false))] [] hB)), [(bo false)], (Res.tmp (by rfl) (by rfl) Res.nil), rfl, by rfl, by rfl, by rfl⟩
  ·obtain ⟨rfl, hmat⟩ := hR
   apply blkQ_hit
   apply seqQ_n
   refine AWp.ghost hmat ?_
   apply AWp.seq
   refine sr (c (fo 1001 1 [1] hN underlying25 1 tyS23 (q 1)) rfl (c (la hN 25 tyS23 (q 74)) rfl (c (OpJ.val (v' := (i6 (a0.fASNs.length : Int))) (by simp) (OpJ.lenD underlying23 (L rfl) (q 75))) rfl (c (mv hN (Opd.int .i64 (0))) rfl cn)))) ?_
   apply AWp.block
   obtain ⟨x207, hx208, h⟩ := bindS h
   refine lg (exchangepointref21_Valid_L1 a0) (fun s171 : Int => ([(1, (pt 1001)), (75, (qe_api_Span_2 a0.fASNs)), (76, (i6 (a0.fASNs.length : Int))), (77, (i6 s171))] : EL)) (fun s171 : Int => ([(1001, bd 25 (e_api_Resources a0))] : OL)) (fun (x : (Unit) ⊕ (Unit)) e E' O' => match x with | (.inl _p) => e = .ret ∧ Mat B E' O' ([(2, (bo false))] : EL) ([] : OL) | (.inr _p) => e = .exit 2 ∧ Mat B E' O' ([(1, (pt 1001))] : EL) ([(1001, bd 25 (e_api_Resources a0))] : OL)) hx208 (mp [] _ _ hB) (fun s171 y h => ?_) (fun e E' O' hR => ?_)
   ·unfold exchangepointref21_Valid_L1 at h
    refine sr (c (OpJ.lss (L rfl) (q 77) (q 76)) rfl cn) ?_
    apply AWp.seq
    refine AWp.cond rfl (fun hg196 => ?_) (fun hg196 => ?_)
    ·replace h := ite_t hg196 h
     apply AWp.skip
     apply seqQ_n
     apply AWp.seq
     apply AWp.block
     obtain ⟨x197, hx197, h⟩ := bindS h
     refine sr (c (mv hN (q 77)) rfl (c (OpJ.indexD underlying23 tyS62 (idx_some hx197).1 (get_map e_api_Span (idx_some hx197).2) (L rfl) (q 75) (q 77)) rfl (c (OpJ.loadD tyS62 (by rfl) (by rfl) (L rfl) (q 80)) rfl (cg (OpJ.alloc hB tyZ62 (nm := 1009) (by decide) (L rfl)) rfl (c (OpJ.assign (L rfl) (q 79)) rfl (cg (sB tyS62 (q 9) (q 81)) rfl cn)))))) ?_
     apply AWp.seq
     refine AWp.cut h (fun m201 : Bool => ([(1, (pt 1001)), (75, (qe_api_Span_2 a0.fASNs)), (76, (i6 (a0.fASNs.length : Int))), (77, (i6 s171)), (113, (bo m201))] : EL)) (fun m201 : Bool => ([(1001, bd 25 (e_api_Resources a0))] : OL)) (fun m201 h E' O' hmat => ?_) (fun j202 hjj202 h => ?_)
     ·apply seqQ_n
      refine AWp.ghost hmat ?_
      refine AWp.cond rfl (fun hg203 => ?_) (fun hg203 => ?_)
      ·replace h := ite_t hg203 h
       refine sr (c (OpJ.assign (L rfl) (Opd.bool false)) rfl cn) ?_
       apply AWp.ret
       apply blkQ_r
       apply seqQ_r
       obtain rfl := Option.some.inj h
       exact ⟨(fun hc => by cases hc), rfl, (mp [] _ _ hB)⟩
      ·replace h := ite_f hg203 h
       apply AWp.skip
       apply blkQ_n
       apply seqQ_n
       refine rg (c (add6 (L rfl) (q 77) (Opd.int .i64 (1))) rfl (c (mv hN (q 114)) rfl cn)) ?_
       obtain rfl := Option.some.inj h
       exact ⟨rfl, (mp [] _ _ hB)⟩
     ·rcases Bool.eq_false_or_eq_true (((decide (x197.fFrom < (0 : Int))) || (decide (x197.fTo < x197.fFrom))) || (decide ((4294967295 : Int) < x197.fTo))) with hg204 | hg204
      ·replace h := ite_t hg204 h
       refine dr (c (fo 1009 0 [0] hN underlying62 0 tyS3 (q 9)) rfl (c (la hN 62 tyS3 (q 82)) rfl (c (OpJ.lss (L rfl) (q 83) (Opd.int .i64 (0))) rfl (c (mv hN (q 84)) rfl (c (oq hN 85 (fo 1009 0 [0] hN underlying62 0 tyS3 (q 9)) (OptL.keep (by rfl) OptL.nil) (GuardV.plain _)) rfl (c (oq hN 85 (la hN 62 tyS3 (q 86)) (OptL.opt OptL.nil) (GuardV.plain _)) rfl (c (oq hN 85 (fo 1009 1 [1] hN underlying62 1 tyS3 (q 9)) (OptL.keep (by rfl) OptL.nil) (GuardV.plain _)) rfl (c (oq hN 85 (la hN 62 tyS3 (q 88)) (OptL.opt OptL.nil) (GuardV.plain _)) rfl (c (oq hN 85 (OpJ.gtr (L rfl) (q 87) (q 89)) (OptL.opt (OptL.opt OptL.nil)) (GuardV.plain _)) rfl (c (OpJ.pickOr rfl (L rfl) (q 85) (q 90)) rfl (c (mv hN (q 91)) rfl (c (oq hN 92 (fo 1009 1 [1] hN underlying62 1 tyS3 (q 9)) (OptL.keep (by rfl) OptL.nil) (GuardV.plain _)) rfl (c (oq hN 92 (la hN 62 tyS3 (q 93)) (OptL.opt OptL.nil) (GuardV.plain _)) rfl (c (oq hN 92 (OpJ.gtr (L rfl) (q 94) (Opd.int .i64 (4294967295))) (OptL.opt OptL.nil) (GuardV.plain _)) rfl (c (OpJ.pickOr rfl (L rfl) (q 92) (q 95)) rfl (c (OpJ.val (v' := .d (.bool true)) (by rw [hg204] <;> rfl) (mv hN (q 96))) rfl (cg (sU 97 (L rfl)) rfl (cg (sU 97 (L rfl)) rfl (cg (sU 97 (L rfl)) rfl (cg (sV 100 (L rfl)) rfl (cg (sV 100 (L rfl)) rfl (cg (sV 100 (L rfl)) rfl (cg (sV 100 (L rfl)) rfl (cg (sV 100 (L rfl)) rfl (cg (sV 100 (L rfl)) rfl (cg (sV 100 (L rfl)) rfl (cg (sV 100 (L rfl)) rfl (cg (sV 100 (L rfl)) rfl (cg (sV 100 (L rfl)) rfl (cg (sV 100 (L rfl)) rfl (cg (sU 97 (L rfl)) rfl (c (OpJ.pickT (L rfl) (q 97) (Opd.bool true)) rfl cn)))))))))))))))))))))))))))))))) (by kernel_rfl) (by kernel_rfl) ?_
       exact hjj202 _ h _ _ (mp [] _ _ hB)
      ·replace h := ite_f hg204 h
       rcases Bool.eq_false_or_eq_true (decide ((0 : Int) < s171)) with hg205 | hg205
       ·replace h := ite_t hg205 h
        obtain ⟨x206, hx206, h⟩ := bindS h
        refine dr (c (fo 1009 0 [0] hN underlying62 0 tyS3 (q 9)) rfl (c (la hN 62 tyS3 (q 82)) rfl (c (OpJ.lss (L rfl) (q 83) (Opd.int .i64 (0))) rfl (c (mv hN (q 84)) rfl (c (oq hN 85 (fo 1009 0 [0] hN underlying62 0 tyS3 (q 9)) (OptL.keep (by rfl) OptL.nil) (GuardV.plain _)) rfl (c (oq hN 85 (la hN 62 tyS3 (q 86)) (OptL.opt OptL.nil) (GuardV.plain _)) rfl (c (oq hN 85 (fo 1009 1 [1] hN underlying62 1 tyS3 (q 9)) (OptL.keep (by rfl) OptL.nil) (GuardV.plain _)) rfl (c (oq hN 85 (la hN 62 tyS3 (q 88)) (OptL.opt OptL.nil) (GuardV.plain _)) rfl (c (oq hN 85 (OpJ.gtr (L rfl) (q 87) (q 89)) (OptL.opt (OptL.opt OptL.nil)) (GuardV.plain _)) rfl (c (OpJ.pickOr rfl (L rfl) (q 85) (q 90)) rfl (c (mv hN (q 91)) rfl (c (oq hN 92 (fo 1009 1 [1] hN underlying62 1 tyS3 (q 9)) (OptL.keep (by rfl) OptL.nil) (GuardV.plain _)) rfl (c (oq hN 92 (la hN 62 tyS3 (q 93)) (OptL.opt OptL.nil) (GuardV.plain _)) rfl (c (oq hN 92 (OpJ.gtr (L rfl) (q 94) (Opd.int .i64 (4294967295))) (OptL.opt OptL.nil) (GuardV.plain _)) rfl (c (OpJ.pickOr rfl (L rfl) (q 92) (q 95)) rfl (c (OpJ.val (v' := .d (.bool false)) (by rw [hg204] <;> rfl) (mv hN (q 96))) rfl (c (gd 97 (mv hN (q 8))) rfl (c (gd 97 (OpJ.gtr (L rfl) (q 98) (Opd.int .i64 (0)))) rfl (c (gd 97 (OpJ.val (v' := .d (.bool true)) (by rw [hg205] <;> rfl) (mv hN (q 99)))) rfl (c (gd 100 (fo 1001 1 [1] hN underlying25 1 tyS23 (q 1))) rfl (c (gd 100 (la hN 25 tyS23 (q 101))) rfl (c (gd 100 (mv hN (q 8))) rfl (c (gd 100 (sub6 (L rfl) (q 103) (Opd.int .i64 (1)))) rfl (c (gd 100 (OpJ.indexD underlying23 tyS62 (idx_some hx206).1 (get_map e_api_Span (idx_some hx206).2) (L rfl) (q 102) (q 104))) rfl (c (gd 100 (OpJ.fieldD underlying62 (by rfl) (o := 1) (by rfl) tyS3 (by decide) (by rfl) (by rfl) (L rfl) (q 105))) rfl (c (gd 100 (OpJ.loadD tyS3 (by rfl) (by rfl) (L rfl) (q 106))) rfl (c (gd 100 (fo 1009 0 [0] hN underlying62 0 tyS3 (q 9))) rfl (c (gd 100 (la hN 62 tyS3 (q 108))) rfl (c (gd 100 (sub6 (L rfl) (q 109) (Opd.int .i64 (1)))) rfl (c (gd 100 (OpJ.geq (L rfl) (q 107) (q 110))) rfl (c (gd 97 (OpJ.pickT (L rfl) (q 100) (q 111))) rfl (c (OpJ.pickF (L rfl) (q 97) (q 112)) rfl cn)))))))))))))))))))))))))))))))) (by kernel_rfl) (by kernel_rfl) ?_
        exact hjj202 _ h _ _ (mp [] _ _ hB)
       ·replace h := ite_f hg205 h
        refine dr (c (fo 1009 0 [0] hN underlying62 0 tyS3 (q 9)) rfl (c (la hN 62 tyS3 (q 82)) rfl (c (OpJ.lss (L rfl) (q 83) (Opd.int .i64 (0))) rfl (c (mv hN (q 84)) rfl (c (oq hN 85 (fo 1009 0 [0] hN underlying62 0 tyS3 (q 9)) (OptL.keep (by rfl) OptL.nil) (GuardV.plain _)) rfl (c (oq hN 85 (la hN 62 tyS3 (q 86)) (OptL.opt OptL.nil) (GuardV.plain _)) rfl (c (oq hN 85 (fo 1009 1 [1] hN underlying62 1 tyS3 (q 9)) (OptL.keep (by rfl) OptL.nil) (GuardV.plain _)) rfl (c (oq hN 85 (la hN 62 tyS3 (q 88)) (OptL.opt OptL.nil) (GuardV.plain _)) rfl (c (oq hN 85 (OpJ.gtr (L rfl) (q 87) (q 89)) (OptL.opt (OptL.opt OptL.nil)) (GuardV.plain _)) rfl (c (OpJ.pickOr rfl (L rfl) (q 85) (q 90)) rfl (c (mv hN (q 91)) rfl (c (oq hN 92 (fo 1009 1 [1] hN underlying62 1 tyS3 (q 9)) (OptL.keep (by rfl) OptL.nil) (GuardV.plain _)) rfl (c (oq hN 92 (la hN 62 tyS3 (q 93)) (OptL.opt OptL.nil) (GuardV.plain _)) rfl (c (oq hN 92 (OpJ.gtr (L rfl) (q 94) (Opd.int .i64 (4294967295))) (OptL.opt OptL.nil) (GuardV.plain _)) rfl (c (OpJ.pickOr rfl (L rfl) (q 92) (q 95)) rfl (c (OpJ.val (v' := .d (.bool false)) (by rw [hg204] <;> rfl) (mv hN (q 96))) rfl (c (gd 97 (mv hN (q 8))) rfl (c (gd 97 (OpJ.gtr (L rfl) (q 98) (Opd.int .i64 (0)))) rfl (c (gd 97 (OpJ.val (v' := .d (.bool false)) (by rw [hg205] <;> rfl) (mv hN (q 99)))) rfl (cg (sU 100 (L rfl)) rfl (cg (sU 100 (L rfl)) rfl (cg (sU 100 (L rfl)) rfl (cg (sU 100 (L rfl)) rfl (cg (sU 100 (L rfl)) rfl (cg (sU 100 (L rfl)) rfl (cg (sU 100 (L rfl)) rfl (cg (sU 100 (L rfl)) rfl (cg (sU 100 (L rfl)) rfl (cg (sU 100 (L rfl)) rfl (cg (sU 100 (L rfl)) rfl (c (gd 97 (OpJ.pickF (L rfl) (q 100) (Opd.bool false))) rfl (c (OpJ.pickF (L rfl) (q 97) (q 112)) rfl cn)))))))))))))))))))))))))))))))) (by kernel_rfl) (by kernel_rfl) ?_
        exact hjj202 _ h _ _ (mp [] _ _ hB)
    ·replace h := ite_f hg196 h
     apply AWp.exit
     apply seqQ_e
     obtain rfl := Option.some.inj h
     exact ⟨(fun hc => by cases hc), rfl, (mp [] _ _ hB)⟩
   ·rcases x207 with _ | _
    ·obtain ⟨rfl, hmat⟩ := hR
     apply blkQ_r
     apply seqQ_r
     obtain rfl := Option.some.inj h
     exact ⟨.inl rfl, _, _, (Mat.trans hmat (mp [] [(2, (bo false))] [] hB)), [(bo false)], (Res.tmp (by rfl) (by rfl) Res.nil), rfl, by rfl, by rfl, by rfl⟩
    ·obtain ⟨rfl, hmat⟩ := hR
     apply blkQ_hit
     apply seqQ_n
     refine AWp.ghost hmat ?_
     refine sr (c (fo 1001 0 [0] hN underlying25 0 tyS22 (q 1)) rfl (c (la hN 25 tyS22 (q 115)) rfl (c (OpJ.val (v' := (i6 (a0.fAddrs.length : Int))) (by simp) (OpJ.lenD underlying22 (L rfl) (q 116))) rfl (c (OpJ.leq (L rfl) (q 117) (Opd.int .i64 (256))) rfl (c (mv hN (q 118)) rfl (c (oq hN 119 (fo 1001 1 [1] hN underlying25 1 tyS23 (q 1)) (OptL.keep (by rfl) OptL.nil) (GuardV.plain _)) rfl (c (oq hN 119 (la hN 25 tyS23 (q 120)) (OptL.opt OptL.nil) (GuardV.plain _)) rfl (c (oq hN 119 (OpJ.val (v' := (i6 (a0.fASNs.length : Int))) (by simp) (OpJ.lenD underlying23 (L rfl) (q 121))) (OptL.opt OptL.nil) (GuardV.plain _)) rfl (c (oq hN 119 (OpJ.leq (L rfl) (q 122) (Opd.int .i64 (256))) (OptL.opt OptL.nil) (GuardV.plain _)) rfl (c (OpJ.pickAnd rfl (L rfl) (q 119) (q 123)) rfl (c (OpJ.assign (L rfl) (q 124)) rfl cn))))))))))) ?_
     apply AWp.ret
     obtain rfl := Option.some.inj h
     exact ⟨.inl rfl, _, _, (kp [(2, _)] [] hB rfl rfl (by rfl)), [(bo ((decide ((a0.fAddrs.length : Int) ≤ (256 : Int))) && (decide ((a0.fASNs.length : Int) ≤ (256 : Int)))))], (Res.tmp (by rfl) (by rfl) Res.nil), rfl, by rfl, by rfl, by rfl⟩
noncomputable def exchangepointref21_Union (a0 : api_Resources) (a1 : api_Resources) : Option (api_Resources × Int) :=
 jn (fun m5 : Bool =>
 (if m5 = true then
 some ((api_Resources.mk ([] : List api_Range) ([] : List api_Span)), (1 : Int))
 else
 chk (decide (a0.fAddrs.length ≤ LIM)) <|
 chk (decide ((a0.fAddrs ++ a1.fAddrs).length ≤ LIM)) <|
 (exchangepointref21_ranges (a0.fAddrs ++ a1.fAddrs)).bind fun r17 =>
 chk (decide (a0.fASNs.length ≤ LIM)) <|
 chk (decide ((a0.fASNs ++ a1.fASNs).length ≤ LIM)) <|
 (exchangepointref21_spans (a0.fASNs ++ a1.fASNs)).bind fun r20 =>
 (exchangepointref21_limited r17 r20).bind fun r21 =>
 some (r21.1, r21.2))) (fun j6 =>
 (exchangepointref21_Valid a0).bind fun r22 =>
 (if (!r22) = true then
 j6 true
 else
 (exchangepointref21_Valid a1).bind fun r24 =>
 j6 (!r24)))
theorem exchangepointref21_Union_ac (a0 : api_Resources) (a1 : api_Resources) (r : api_Resources × Int) (h : exchangepointref21_Union a0 a1 = some r) : AC Tryz.prog 11 [(.d (e_api_Resources a0)), (.d (e_api_Resources a1))] [] (.tup [(.d (e_api_Resources r.1)), (.d (.int .i64 r.2))]) [] := by
 refine AC.of_code2 Tryz.func11 rfl rfl (Nat.le_of_ble_eq_true (by rfl)) fun B hB hN => ?_
 have L {d : Nat} (h : Nat.blt d Tryz.f11.ntmps = true) : d < B.N := ltN hN h
 delta exchangepointref21_Union at h
 refine sr (cg (OpJ.box hB (nm := 1002) (by decide) (by simp) rfl (L rfl) (q 0)) rfl (cg (OpJ.box hB (nm := 1003) (by decide) (by simp) rfl (L rfl) (q 1)) rfl (cg (OpJ.alloc hB tyZ25 (nm := 1004) (by decide) (L rfl)) rfl (c (OpJ.assign (L rfl) (Opd.int .i64 (0))) rfl cn)))) ?_
 apply AWp.seq
 apply AWp.seq
 refine AWp.cut h (fun m5 : Bool => ([(2, (pt 1002)), (3, (pt 1003)), (4, (pt 1004)), (13, (bo m5))] : EL)) (fun m5 : Bool => ([(1002, bd 25 (e_api_Resources a0)), (1003, bd 25 (e_api_Resources a1)), (1004, some (.box 25 (.st [.nils, .nils])))] : OL)) (fun m5 h E' O' hmat => ?_) (fun j6 hjj6 h => ?_)
 ·apply seqQ_n
  refine AWp.ghost hmat ?_
  refine AWp.cond rfl (fun hg7 => ?_) (fun hg7 => ?_)
  ·replace h := ite_t hg7 h
   refine sr (c (OpJ.build (places := [(0, 1), (1, 1)]) ⟨underlying25, fun w => by kernel_rfl⟩ tyZS25 Opds.nil (by kernel_rfl) (r := (.st [.nils, .nils])) (by rfl) (L rfl)) rfl (cg (sB tyS25 (q 4) (q 14)) rfl (c (OpJ.assign (L rfl) (Opd.int .i64 (1))) rfl cn))) ?_
   apply AWp.ret
   apply seqQ_r
   obtain rfl := Option.some.inj h
   exact ⟨.inl rfl, _, _, (Mat.trans (Mat.coeP (Ts := []) (Bs := [(1004, bd 25 (.st [(.list 6 (([] : List api_Range).map e_api_Range)), (.list 2 (([] : List api_Span).map e_api_Span))]))]) TwT.nil (TwB.cons (x := (.st [.nils, .nils])) (by rfl) (Tw.leaf ⟨_, (Co.st (CoL.cons (Co.nils 6) (CoL.cons (Co.nils 2) CoL.nil))), rfl⟩) TwB.nil)) (mp [] [(4, (pt 1004)), (5, (i6 1))] [(1004, bd 25 (.st [(.list 6 (([] : List api_Range).map e_api_Range)), (.list 2 (([] : List api_Span).map e_api_Span))]))] hB)), [(.d (.st [(.list 6 (([] : List api_Range).map e_api_Range)), (.list 2 (([] : List api_Span).map e_api_Span))])), (i6 1)], (Res.cell (c := (.d (.st [(.list 6 (([] : List api_Range).map e_api_Range)), (.list 2 (([] : List api_Span).map e_api_Span))]))) (by rfl) (by rfl) tyS25 (by rfl) (by rfl) (by rfl) (Res.tmp (by rfl) (by rfl) Res.nil)), rfl, by rfl, by rfl, by rfl⟩
  ·replace h := ite_f hg7 h
   apply AWp.skip
   apply seqQ_n
   obtain ⟨hc15, h⟩ := chk_some h
   obtain ⟨hc16, h⟩ := chk_some h
   obtain ⟨r17, hr17, h⟩ := bindS h
   obtain ⟨hc18, h⟩ := chk_some h
   obtain ⟨hc19, h⟩ := chk_some h
   obtain ⟨r20, hr20, h⟩ := bindS h
   obtain ⟨r21, hr21, h⟩ := bindS h
   refine sd (c (fo 1002 0 [0] hN underlying25 0 tyS22 (q 2)) rfl (c (la hN 25 tyS22 (q 15)) rfl (cg (OpJ.appendN hB underlying22 tyE46 (nm := 1017) (by decide) (ys := a0.fAddrs.map e_api_Range) (len := a0.fAddrs.length) (by simp) (map_sz (f := e_api_Range) (fun _ => rfl)) (by rw [List.length_map]; exact lim_mulN hc15 (by decide)) (by rw [List.length_map]; exact lim_leN hc15) (L rfl) Opd.nils (q 16)) rfl (c (fo 1003 0 [0] hN underlying25 0 tyS22 (q 3)) rfl (c (la hN 25 tyS22 (q 18)) rfl (cg (OpJ.frz (apd hB underlying22 tyE46 1020 e_api_Range a0.fAddrs a1.fAddrs hc16 (L rfl) (q 17) (q 19)) (by simp)) rfl (cg (cf hB fnOk35 (exchangepointref21_ranges_ac (a0.fAddrs ++ a1.fAddrs) r17 hr17) (L rfl) (OpdL.cons (q 20) OpdL.nil)) rfl (c (fo 1002 1 [1] hN underlying25 1 tyS23 (q 2)) rfl (c (la hN 25 tyS23 (q 22)) rfl (cg (OpJ.appendN hB underlying23 tyE62 (nm := 1024) (by decide) (ys := a0.fASNs.map e_api_Span) (len := a0.fASNs.length) (by simp) (map_sz (f := e_api_Span) (fun _ => rfl)) (by rw [List.length_map]; exact lim_mulN hc18 (by decide)) (by rw [List.length_map]; exact lim_leN hc18) (L rfl) Opd.nils (q 23)) rfl (c (fo 1003 1 [1] hN underlying25 1 tyS23 (q 3)) rfl (c (la hN 25 tyS23 (q 25)) rfl (cg (OpJ.frz (apd hB underlying23 tyE62 1027 e_api_Span a0.fASNs a1.fASNs hc19 (L rfl) (q 24) (q 26)) (by simp)) rfl (cg (cf hB fnOk36 (exchangepointref21_spans_ac (a0.fASNs ++ a1.fASNs) r20 hr20) (L rfl) (OpdL.cons (q 27) OpdL.nil)) rfl (cg (cf hB fnOk34 (exchangepointref21_limited_ac r17 r20 r21 hr21) (L rfl) (OpdL.cons (q 21) (OpdL.cons (q 28) OpdL.nil))) rfl (c (OpJ.extract (by rfl) rfl (L rfl) (q 29)) rfl (c (OpJ.extract (by rfl) rfl (L rfl) (q 29)) rfl (cg (sB tyS25 (q 4) (q 30)) rfl (c (OpJ.assign (L rfl) (q 31)) rfl cn))))))))))))))))))) (by kernel_rfl) (by kernel_rfl) ?_
   apply AWp.ret
   obtain rfl := Option.some.inj h
   exact ⟨.inl rfl, _, _, (kp [(4, _), (5, _)] [(1004, some _)] hB rfl rfl (by rfl)), [(.d (e_api_Resources r21.1)), (i6 r21.2)], (Res.cell (c := (.d (e_api_Resources r21.1))) (by rfl) (by rfl) tyS25 (by rfl) (by rfl) (by rfl) (Res.tmp (by rfl) (by rfl) Res.nil)), rfl, by rfl, by rfl, by rfl⟩
 ·obtain ⟨r22, hr22, h⟩ := bindS h
  rcases Bool.eq_false_or_eq_true (!r22) with hg23 | hg23
  ·replace h := ite_t hg23 h
   refine rg (c (lb hN 25 _ _ tyS25 (At.here _) (q 2)) rfl (cg (cf hB fnOk33 (exchangepointref21_Valid_ac a0 r22 hr22) (L rfl) (OpdL.cons (q 6) OpdL.nil)) rfl (c (OpJ.not (L rfl) (q 7)) rfl (c (OpJ.val (v' := .d (.bool true)) (by rw [hg23] <;> rfl) (mv hN (q 8))) rfl (cg (sU 9 (L rfl)) rfl (cg (sU 9 (L rfl)) rfl (cg (sU 9 (L rfl)) rfl (c (OpJ.pickT (L rfl) (q 9) (Opd.bool true)) rfl cn)))))))) ?_
   exact hjj6 _ h _ _ (mp [] _ _ hB)
  ·replace h := ite_f hg23 h
   obtain ⟨r24, hr24, h⟩ := bindS h
   refine rg (c (lb hN 25 _ _ tyS25 (At.here _) (q 2)) rfl (cg (cf hB fnOk33 (exchangepointref21_Valid_ac a0 r22 hr22) (L rfl) (OpdL.cons (q 6) OpdL.nil)) rfl (c (OpJ.not (L rfl) (q 7)) rfl (c (OpJ.val (v' := .d (.bool false)) (by rw [hg23] <;> rfl) (mv hN (q 8))) rfl (c (gd 9 (lb hN 25 _ _ tyS25 (At.here _) (q 3))) rfl (cg (gd 9 (cf hB fnOk33 (exchangepointref21_Valid_ac a1 r24 hr24) (L rfl) (OpdL.cons (q 10) OpdL.nil))) rfl (c (gd 9 (OpJ.not (L rfl) (q 11))) rfl (c (OpJ.pickF (L rfl) (q 9) (q 12)) rfl cn)))))))) ?_
   exact hjj6 _ h _ _ (mp [] _ _ hB)
noncomputable def resource_before (a0 : api_Addr) : Option (api_Addr × Bool) :=
 (if ((a0.fHi == (0 : Int)) && (a0.fLo == (0 : Int))) = true then
 some ((api_Addr.mk false (0 : Int) (0 : Int)), false)
 else
 jn (fun m3 : api_Addr =>
 some ((api_Addr.mk m3.fV6 m3.fHi (IntKind.u64.wrap (m3.fLo - (1 : Int)))), true)) (fun j4 =>
 (if (a0.fLo == (0 : Int)) = true then
 j4 (api_Addr.mk a0.fV6 (IntKind.u64.wrap (a0.fHi - (1 : Int))) a0.fLo)
 else
 j4 a0)))
theorem resource_before_ac (a0 : api_Addr) (r : api_Addr × Bool) (h : resource_before a0 = some r) : AC Tryz.prog 133 [(.d (e_api_Addr a0))] [] (.tup [(.d (e_api_Addr r.1)), (.d (.bool r.2))]) [] := by
 refine AC.of_code2 Tryz.func133 rfl rfl (Nat.le_of_ble_eq_true (by rfl)) fun B hB hN => ?_
 delta resource_before at h
 refine sr (cg (OpJ.box hB (nm := 1001) (by decide) (by simp) rfl (ltN hN rfl) (q 0)) rfl (cg (OpJ.alloc hB tyZ42 (nm := 1002) (by decide) (ltN hN rfl)) rfl (c (OpJ.assign (ltN hN rfl) (Opd.bool false)) rfl cn))) ?_
 apply AWp.seq
 refine sr (c (fo 1001 1 [1] hN underlying42 1 tyS40 (q 1)) rfl (c (la hN 42 tyS40 (q 4)) rfl (c (OpJ.eqlI (ltN hN rfl) (q 5) (Opd.int .u64 (0))) rfl (c (mv hN (q 6)) rfl (c (oq hN 7 (fo 1001 2 [2] hN underlying42 2 tyS40 (q 1)) (OptL.keep (by rfl) OptL.nil) (GuardV.plain _)) rfl (c (oq hN 7 (la hN 42 tyS40 (q 8)) (OptL.opt OptL.nil) (GuardV.plain _)) rfl (c (oq hN 7 (OpJ.eqlI (ltN hN rfl) (q 9) (Opd.int .u64 (0))) (OptL.opt OptL.nil) (GuardV.plain _)) rfl (c (OpJ.pickAnd rfl (ltN hN rfl) (q 7) (q 10)) rfl cn)))))))) ?_
 refine AWp.cond rfl (fun hg1 => ?_) (fun hg1 => ?_)
 ·replace h := ite_t hg1 h
  refine sr (c (OpJ.coe (v := (.st [(bo false), (.d (.int .u64 0)), (.d (.int .u64 0))])) (y := (.st [(.bool false), (.int .u64 0), (.int .u64 0)])) (Co.st (CoL.cons (Co.d _) (CoL.cons (Co.d _) (CoL.cons (Co.d _) CoL.nil)))) rfl (OpJ.build (places := [(0, 1), (1, 1), (2, 1)]) ⟨underlying42, fun w => by kernel_rfl⟩ tyZS42 Opds.nil (by kernel_rfl) (r := (.st [(bo false), (.d (.int .u64 0)), (.d (.int .u64 0))])) (by rfl) (ltN hN rfl))) rfl (cg (sB tyS42 (q 2) (q 12)) rfl (c (OpJ.assign (ltN hN rfl) (Opd.bool false)) rfl cn))) ?_
  apply AWp.ret
  apply seqQ_r
  obtain rfl := Option.some.inj h
  exact ⟨.inl rfl, _, _, (kp [(2, _), (3, _)] [(1002, some _)] hB rfl rfl (by rfl)), [(.d (.st [(.bool false), (.int .u64 0), (.int .u64 0)])), (bo false)], (Res.cell (c := (.d (.st [(.bool false), (.int .u64 0), (.int .u64 0)]))) (by rfl) (by rfl) tyS42 (by rfl) (by rfl) (by rfl) (Res.tmp (by rfl) (by rfl) Res.nil)), rfl, by rfl, by rfl, by rfl⟩
 ·replace h := ite_f hg1 h
  apply AWp.skip
  apply seqQ_n
  apply AWp.seq
  refine sr (c (fo 1001 2 [2] hN underlying42 2 tyS40 (q 1)) rfl (c (la hN 42 tyS40 (q 13)) rfl (c (OpJ.eqlI (ltN hN rfl) (q 14) (Opd.int .u64 (0))) rfl cn))) ?_
  refine gh [(1, _), (2, _), (15, _)] [(1001, some _), (1002, some _)] hB rfl rfl (by rfl) ?_
  refine AWp.cut h (fun m3 : api_Addr => ([(1, (pt 1001)), (2, (pt 1002))] : EL)) (fun m3 : api_Addr => ([(1001, bd 42 (e_api_Addr m3)), (1002, bd 42 (.st [(.bool false), (.int .u64 0), (.int .u64 0)]))] : OL)) (fun m3 h E' O' hmat => ?_) (fun j4 hjj4 h => ?_)
  ·apply seqQ_n
   refine AWp.ghost hmat ?_
   refine sr (c (fo 1001 2 [2] hN underlying42 2 tyS40 (q 1)) rfl (c (la hN 42 tyS40 (q 20)) rfl (c (OpJ.sub (ltN hN rfl) (q 21) (Opd.int .u64 (1))) rfl (c (fo 1001 2 [2] hN underlying42 2 tyS40 (q 1)) rfl (cg (OpJ.storeB tyS40 (SetAt.dst1 (by rfl) (by rfl) (SetAt.here _ _) (by rfl) (by rfl) (by first | rfl | omega)) (by rfl) (by rfl) (by simp) rfl (q 23) (q 22)) rfl cn))))) ?_
   refine sr (c (lb hN 42 _ _ tyS42 (At.here _) (q 1)) rfl (cg (sB tyS42 (q 2) (q 24)) rfl (c (OpJ.assign (ltN hN rfl) (Opd.bool true)) rfl cn))) ?_
   apply AWp.ret
   obtain rfl := Option.some.inj h
   exact ⟨.inl rfl, _, _, (kp [(2, _), (3, _)] [(1002, some _)] hB rfl rfl (by rfl)), [(.d (.st [(.bool m3.fV6), (.int .u64 m3.fHi), (.int .u64 (IntKind.u64.wrap (m3.fLo - (1 : Int))))])), (bo true)], (Res.cell (c := (.d (.st [(.bool m3.fV6), (.int .u64 m3.fHi), (.int .u64 (IntKind.u64.wrap (m3.fLo - (1 : Int))))]))) (by rfl) (by rfl) tyS42 (by rfl) (by rfl) (by rfl) (Res.tmp (by rfl) (by rfl) Res.nil)), rfl, by rfl, by rfl, by rfl⟩
  ·refine AWp.cond rfl (fun hg5 => ?_) (fun hg5 => ?_)
   ·replace h := ite_t hg5 h
    refine rg (c (fo 1001 1 [1] hN underlying42 1 tyS40 (q 1)) rfl (c (la hN 42 tyS40 (q 16)) rfl (c (OpJ.sub (ltN hN rfl) (q 17) (Opd.int .u64 (1))) rfl (c (fo 1001 1 [1] hN underlying42 1 tyS40 (q 1)) rfl (cg (OpJ.storeB tyS40 (SetAt.dst1 (by rfl) (by rfl) (SetAt.here _ _) (by rfl) (by rfl) (by first | rfl | omega)) (by rfl) (by rfl) (by simp) rfl (q 19) (q 18)) rfl cn))))) ?_
    exact hjj4 _ h _ _ (mp [] _ _ hB)
   ·replace h := ite_f hg5 h
    apply AWp.skip
    exact hjj4 _ h _ _ (mp [] _ _ hB)
end Go.Proofs.YtgcilleccigmdaaGreatDoor
