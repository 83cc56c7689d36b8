/- The example of chapter 21 at this seat, in plain Lean. -/
import Derived.Test.YtgcilleccigmdaaGreatDoorPureX
namespace Go.Proofs.YtgcilleccigmdaaGreatDoor
open Go Go.Vc

theorem gl_ex : GL exR.fTo (exR.fFrom, true) [ex1, ex2] := gl_ex1
theorem awake_eq : exchangepointlaw21_awake = some true := by
 have hV : VRes (api_Resources.mk [exR] []) := exR_V
 have e : resource_Prefixes (api_Resources.mk [exR] []) = some [ex1, ex2] := by
  refine Tot.eq ?_
  unfold resource_Prefixes
  refine Tot.bindT (valid_eq hV.R (by decide) (by decide)) fun b hb => ?_
  have hb : b = true := hb.2 hV
  subst hb
  refine Tot.iteF rfl ?_
  refine Tot.bindRng 1 (fun k (b : List api_Prefix) => (((k : Nat) : Int), b)) (fun k b => b = if k = 0 then [] else [ex1, ex2]) (fun l => l = [ex1, ex2]) [] rfl rfl (fun k b hk hb => ?_) (fun b hb => ?_) (fun l hl => Tot.some hl)
  ·have hk : k = 0 := by omega
   subst hk
   subst hb
   unfold resource_Prefixes_L0
   refine Tot.iteT (by decide) (Tot.bindIdx 0 rfl (by decide) (Tot.bindT (greedy_tot (x := exR) ex2_V.addr gl_ex [] (fun _ => ex1_V.addr) (by decide)) fun l hl => ?_))
   subst hl
   exact Tot.step _ rfl rfl
  ·unfold resource_Prefixes_L0
   exact Tot.iteF (decide_eq_false (show ¬ ((1 : Nat) : Int) < ((1 : Nat) : Int) by omega)) (Tot.last hb)
 refine Tot.eq ?_
 unfold exchangepointlaw21_awake
 refine Tot.bindOf e ?_
 exact ⟨true, rfl, rfl⟩
end Go.Proofs.YtgcilleccigmdaaGreatDoor
