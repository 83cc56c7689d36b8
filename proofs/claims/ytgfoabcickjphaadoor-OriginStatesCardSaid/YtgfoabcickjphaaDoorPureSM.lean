/- The code's normal form and Of; when resources are the same: in plain Lean. -/
import Derived.Test.YtgfoabcickjphaaDoorPureO
namespace Go.Proofs.YtgfoabcickjphaaDoor
open Go Go.Vc
def AVp (l : List api_Addr_) : Prop := ∀ x ∈ l, aV x.ffrom ∧ aV x.fto ∧ x.ffrom.fV6 = x.fto.fV6
def SVp (l : List resource_part_int_) : Prop := ∀ x ∈ l, okN x.ffrom x.fto
theorem cmp_I {x y : Int} : cmp_Compare x y = some (if x < y then -1 else if y < x then 1 else 0) := compare_eq x y
theorem lt_I {x y : Int} : (if x < y then (-1 : Int) else if y < x then 1 else 0) < 0 ↔ x < y := by
 split
 ·exact ⟨fun _ => by assumption, fun _ => by omega⟩
 ·split
  ·exact ⟨fun h => by omega, fun h => by omega⟩
  ·exact ⟨fun h => by omega, fun h => by omega⟩
theorem avp_r {l : List api_Range} (h : AVr l) : AVp (l.map paA) := fun x hx => by
 obtain ⟨y, hy, rfl⟩ := List.mem_map.1 hx
 exact h y hy
theorem svp_r {l : List api_Span} (h : SVr l) : SVp (l.map paS) := fun x hx => by
 obtain ⟨y, hy, rfl⟩ := List.mem_map.1 hx
 exact h y hy
theorem map_paA (l : List api_Range) : (l.map paA).map ivP = l.map ivA := by rw [List.map_map]; rfl
theorem map_paS (l : List api_Span) : (l.map paS).map ivI = l.map ivS := by rw [List.map_map]; rfl
end Go.Proofs.YtgfoabcickjphaaDoor
