/- What is in resources, both sides, in plain Lean. -/
import Derived.Test.YtgfoabcickjphaaDoorPureO
namespace Go.Proofs.YtgfoabcickjphaaDoor
open Go Go.Vc
def inP (x : api_Range) (p : api_Prefix) : Prop := rk x.fFrom ≤ rk p.fAddr ∧ rk (LastF p) ≤ rk x.fTo
def HasF (l : List api_Range) (p : api_Prefix) : Prop := ∃ x ∈ l, inP x p
theorem take_ex {α : Type} {l : List α} {k : Nat} (hk : k < l.length) {P : α → Prop} (h : ¬ ∃ x ∈ l.take k, P x) (h2 : ¬ P l[k]) : ¬ ∃ x ∈ l.take (k + 1), P x := by
 rintro ⟨x, hx, hp⟩
 rw [take_snoc hk] at hx
 rcases List.mem_append.1 hx with hx | hx
 ·exact h ⟨x, hx, hp⟩
 ·rw [List.mem_singleton.1 hx] at hp; exact h2 hp
theorem has_eq {r : api_Resources} (hr : AVr r.fAddrs) (hl : r.fAddrs.length ≤ 1000000) {p : api_Prefix} (hp : pV p) : Tot (resource_HasPrefix r p) (fun b => b = true ↔ HasF r.fAddrs p) := by
 unfold resource_HasPrefix slices_ContainsFunc_4 slices_IndexFunc_4
 refine Tot.bindT (P' := fun b : Bool => b = true ↔ HasF r.fAddrs p) (Tot.bindT (P' := fun i : Int => (0 ≤ i ∧ HasF r.fAddrs p) ∨ (i = -1 ∧ ¬ HasF r.fAddrs p)) ?_ fun i hi => Tot.some ?_) fun b hb => Tot.some hb
 ·refine Tot.bindRng r.fAddrs.length (fun k (_ : Unit) => ((k : Nat) : Int)) (fun k _ => ¬ HasF (r.fAddrs.take k) p) (fun x => match x with | .inl i => 0 ≤ i ∧ HasF r.fAddrs p | .inr _ => ¬ HasF r.fAddrs p) () rfl (by rintro ⟨x, hx, _⟩; simp at hx) (fun k b hk hb => ?_) (fun b hb => ?_) (fun x hx => ?_)
  ·unfold slices_IndexFunc_4_L0
   have hw : w64 ((k : Int) + 1) = ((k + 1 : Nat) : Int) := by rw [w64_id (by omega) (by omega)]; rfl
   have hx := hr _ (List.getElem_mem hk)
   refine Tot.iteT (by simpa using hk) (Tot.bindIdx k rfl hk (Tot.bindT (P' := fun b : Bool => b = true ↔ inP r.fAddrs[k] p) ?_ fun b hb2 => Tot.ite (fun h => Tot.stop ⟨by omega, ⟨_, List.getElem_mem hk, hb2.1 h⟩⟩) (fun h => Tot.step () (by rw [hw]) (take_ex hk hb fun e => by rw [hb2.2 e] at h; cases h))))
   unfold resource_HasPrefix_1 inP
   refine Tot.jnR (fun b : Bool => b = true ↔ rk r.fAddrs[k].fFrom ≤ rk p.fAddr ∧ rk (LastF p) ≤ rk r.fAddrs[k].fTo) (fun j hj => Tot.bindOf (acmp_eq hx.1.1 hp.addr.1) (Tot.ite (fun h => Tot.bindOf (last_eq hp) (Tot.bindOf (acmp_eq (lastF_V hp).1 hx.2.1.1) (hj _ ?_))) (fun h => hj _ ?_))) (fun b hb2 => Tot.some hb2)
   ·have h := (cmpA_le hx.1 hp.addr).1 (of_decide_eq_true h)
    rw [decide_eq_true_iff, cmpA_le (lastF_V hp) hx.2.1]
    exact ⟨fun e => ⟨h, e⟩, fun e => e.2⟩
   ·exact ⟨fun e => (by cases e), fun e => (of_decide_eq_false h ((cmpA_le hx.1 hp.addr).2 e.1)).elim⟩
  ·unfold slices_IndexFunc_4_L0
   refine Tot.iteF (by simp) (Tot.last ?_)
   rw [List.take_length] at hb
   exact hb
  ·cases x with
   | inl i => exact Tot.some (.inl hx)
   | inr _ => exact Tot.some (.inr ⟨rfl, hx⟩)
 ·rcases hi with ⟨h1, h2⟩ | ⟨h1, h2⟩
  ·rw [decide_eq_true h1]
   exact ⟨fun _ => h2, fun _ => rfl⟩
  ·subst h1
   exact ⟨fun e => absurd e (by decide), fun e => (h2 e).elim⟩
end Go.Proofs.YtgfoabcickjphaaDoor
