/- PlanLarge. -/
import Derived.Test.YtkcpjnjneehecaaPureZC
namespace Go.Proofs.Ytkcpjnjneehecaa
open Go Go.Vc
theorem ShOk.nil:ShOk []:=⟨by simp,(fun x hx=>nomatch hx)⟩
theorem large_L0:Tot (loop (xlaw43_PlanLarge_L0) ((0:Int),([]:List aLink))) (fun x=>x.length=7∧∀ l∈x,LV 6 l):=by
 refine Tot.rng 7 (fun k (b:List aLink)=>(((k:Nat):Int),b)) (fun k b=>b.length=k∧∀ l∈b,LV 6 l) _ [] rfl ⟨rfl,(fun l hl=>nomatch hl)⟩ (fun k b hk hb => ?_) (fun b hb => ?_)
 ·unfold xlaw43_PlanLarge_L0
  refine Tot.iteT (decide_eq_true (by simp only;omega)) (Tot.chk (limB (by simp;omega)) (Tot.step _ (by rw [wN (by omega)]) ⟨by simp;exact hb.1,fun l hl => ?_⟩))
  rcases List.mem_append.1 hl with hl | hl
  ·exact hb.2 l hl
  ·rw [List.mem_singleton.1 hl]
   refine⟨?_,?_,?_,⟨by simp only;omega,by simp only;omega⟩⟩
   ·show 0≤Int.tmod (k:Int) 6∧Int.tmod (k:Int) 6<6
    rw [Int.tmod_eq_emod_of_nonneg (by omega)];omega
   ·show 0≤Int.tmod ((k+1:Nat):Int) 6∧Int.tmod ((k+1:Nat):Int) 6<6
    rw [Int.tmod_eq_emod_of_nonneg (by omega)];omega
   ·show Int.tmod (k:Int) 6≠Int.tmod ((k+1:Nat):Int) 6
    rw [Int.tmod_eq_emod_of_nonneg (by omega),Int.tmod_eq_emod_of_nonneg (by omega)];omega
 ·unfold xlaw43_PlanLarge_L0
  exact Tot.iteF (by simp) (Tot.last hb)
theorem large_law (a0:aFabric) {p0:Prop} (_:p0) (a1:List Int) {p1:Prop} (_:p1):xlaw43_PlanLarge a0 a1=some true:=by
 refine Tot.eq ?_
 unfold xlaw43_PlanLarge
 refine Tot.ite (fun _=>Tot.bindOf awake_eq (Tot.some rfl)) (fun h => ?_)
 have hb:a0.fLinks.length≤30∧a1.length≤40:=by simp at h;omega
 refine Tot.chk rfl (Tot.chk rfl (Tot.bindT large_L0 fun p hp => ?_))
 have hf:FV ⟨6,p,List.replicate 7 false,List.replicate 6 false⟩:=⟨⟨by simp only;omega,by simp only;omega⟩,by simp only;omega,by simp [hp.1],rfl,hp.2⟩
 obtain⟨r1,e1,_,h1⟩:=build_ex (f:=⟨6,p,List.replicate 7 false,List.replicate 6 false⟩) (loads:=[]) (o:=[]) (by simp only;omega) (by simp) (by simp)
 obtain⟨r2,e2,e3,h2⟩:=build_ex (f:=a0) (loads:=[]) (o:=a1) (by omega) (by simp) (by omega)
 have h1:r1=([],3):=by
  rcases h1 with ⟨h,_⟩ | ⟨_,_,h⟩ | ⟨_,h,_⟩
  ·exact absurd ⟨⟨hf,by simp,by simp,fun k hk=>absurd hk (Nat.not_lt_zero _),fun k hk=>absurd hk (Nat.not_lt_zero _)⟩,⟨(fun x hx=>nomatch hx),List.nodup_nil,rfl⟩⟩ h
  ·exact h
  ·simp only at h;omega
 subst h1
 have hs:ShOk r2.1:=by
  rcases h2 with ⟨_,h⟩ | ⟨_,_,h⟩ | ⟨_,_,h⟩
  ·rw [h];exact ShOk.nil
  ·rw [h];exact ShOk.nil
  ·rw [h];exact bdF_ok _ (by simp) _
 refine Tot.bindOf e1 (Tot.bindOf e2 (Tot.bindOf e3 (Tot.jnR (fun m:Bool=>m=true) (fun j hj=>Tot.iteT rfl (Tot.bindOf (failures_eq (by simp only;omega)) (Tot.iteT ?_ (Tot.bindOf (same_self hs) (Tot.iteT rfl (Tot.bindOf awake_eq (hj _ rfl))))))) (fun m hm=>Tot.some hm))))
 unfold flF
 rw [if_neg (fun g=>by have:=g.2;simp only at this;omega)]
 simp
end Go.Proofs.Ytkcpjnjneehecaa
