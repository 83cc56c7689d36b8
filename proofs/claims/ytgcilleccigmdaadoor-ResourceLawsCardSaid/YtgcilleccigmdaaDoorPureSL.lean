/- The laws of union and intersection, in plain Lean. -/
import Derived.Test.YtgcilleccigmdaaDoorPureSF
namespace Go.Proofs.YtgcilleccigmdaaDoor
open Go Go.Vc

theorem is_same {r r' : api_Resources} {p q : Nat → Prop} {n m : Nat} (h : Is r p q n m) (e : r = r') : exchangepointref21_Same r r' = some true := by
 subst e
 have := h.v.la
 have := h.v.ls
 exact same_self (by omega) (by omega)
theorem nil_of {r : api_Resources} {p q : Nat → Prop} {n m : Nat} (h : Is r p q n m) (hp : ∀ i, ¬ p i) (hq : ∀ i, ¬ q i) : r = zR := by
 refine vres_one h.v zR_V (fun i => ⟨fun e => (hp i ((h.a i).1 e)).elim, fun e => (inI_nil e).elim⟩) (fun i => ⟨fun e => (hq i ((h.s i).1 e)).elim, fun e => (inI_nil e).elim⟩)
theorem laws_law (a0 : List Int) (h0 : (∀ y ∈ a0, I64 y) ∧ a0.length ≤ maxLen) (a1 : List Int) (h1 : (∀ y ∈ a1, I64 y) ∧ a1.length ≤ maxLen) (a2 : List Int) (h2 : (∀ y ∈ a2, I64 y) ∧ a2.length ≤ maxLen) : exchangepointlaw21_ResourceLaws a0 a1 a2 = some true := by
 refine Tot.eq ?_
 unfold maxLen at h0 h1 h2
 unfold exchangepointlaw21_ResourceLaws
 refine Tot.bindOf (show exchangepointmake_New a0 = some ⟨a0, 0⟩ from rfl) (Tot.bindT (dres_tot _ (new_ok a0 (by omega))) fun r2 hr2 => ?_)
 refine Tot.bindOf (show exchangepointmake_New a1 = some ⟨a1, 0⟩ from rfl) (Tot.bindT (dres_tot _ (new_ok a1 (by omega))) fun r4 hr4 => ?_)
 refine Tot.bindOf (show exchangepointmake_New a2 = some ⟨a2, 0⟩ from rfl) (Tot.bindT (dres_tot _ (new_ok a2 (by omega))) fun r6 hr6 => ?_)
 have A := is_self hr2.1.1 hr2.1.2.1 hr2.1.2.2
 have B := is_self hr4.1.1 hr4.1.2.1 hr4.1.2.2
 have C := is_self hr6.1.1 hr6.1.2.1 hr6.1.2.2
 generalize r2.1 = a at A
 generalize r4.1 = b at B
 generalize r6.1 = c at C
 obtain ⟨ab, e1, AB⟩ := uni_is A B (by omega) (by omega)
 obtain ⟨bc, e2, BC⟩ := uni_is B C (by omega) (by omega)
 obtain ⟨x, e3, X⟩ := uni_is AB C (by omega) (by omega)
 obtain ⟨y, e4, Y⟩ := uni_is A BC (by omega) (by omega)
 obtain ⟨p, e5, P⟩ := int_is A BC (by omega) (by omega)
 obtain ⟨q, e6, Q⟩ := int_is A B (by omega) (by omega)
 obtain ⟨r, e7, R⟩ := int_is A C (by omega) (by omega)
 obtain ⟨s, e8, S⟩ := uni_is Q R (by omega) (by omega)
 obtain ⟨ba, e9, BA⟩ := uni_is B A (by omega) (by omega)
 obtain ⟨qq, e10, QQ⟩ := int_is B A (by omega) (by omega)
 obtain ⟨w, e11, W⟩ := min_is A B (by omega) (by omega)
 obtain ⟨z, e12, Z⟩ := int_is W B (by omega) (by omega)
 have z0 : z = zR := nil_of Z (fun i e => e.1.2 e.2) (fun i e => e.1.2 e.2)
 refine Tot.bindOf e1 (Tot.bindOf e2 (Tot.bindOf e3 (Tot.bindOf e4 (Tot.bindOf e5 (Tot.bindOf e6 (Tot.bindOf e7 (Tot.bindOf e8 (Tot.bindOf e9 (Tot.bindOf e10 (Tot.bindOf e11 (Tot.bindOf e12 ?_)))))))))))
 refine Tot.jnR (fun m : Bool => m = true) (fun j hj => ?_) (fun m hm => Tot.some hm)
 refine Tot.iteT rfl (Tot.bindOf (is_same X (is_one X Y (fun _ => or_assoc) (fun _ => or_assoc))) (Tot.iteT rfl ?_))
 refine Tot.bindOf (is_same P (is_one P S (fun _ => and_or_left) (fun _ => and_or_left))) (Tot.iteT rfl ?_)
 refine Tot.bindOf (is_same AB (is_one AB BA (fun _ => or_comm) (fun _ => or_comm))) (Tot.iteT rfl ?_)
 refine Tot.bindOf (is_same Q (is_one Q QQ (fun _ => and_comm) (fun _ => and_comm))) (Tot.iteT (by rw [z0]; rfl) (Tot.bindOf awake_eq (hj _ rfl)))
end Go.Proofs.YtgcilleccigmdaaDoor
