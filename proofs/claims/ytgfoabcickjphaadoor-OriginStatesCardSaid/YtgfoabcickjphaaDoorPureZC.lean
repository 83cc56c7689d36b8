/- The example of chapter 21 at this seat; when one set covers another: in plain Lean. -/
import Derived.Test.YtgfoabcickjphaaDoorPureX
import Derived.Test.YtgfoabcickjphaaDoorPureSF
namespace Go.Proofs.YtgfoabcickjphaaDoor
open Go Go.Vc
theorem nil_iff {l : List Iv} (h : okI l) : l = [] ↔ ∀ n, ¬ inI n l := by
 constructor
 ·rintro rfl n
  exact inI_nil
 ·intro k
  cases l with
  | nil => rfl
  | cons x l => exact (k x.1 ⟨x, List.mem_cons_self .., Nat.le_refl _, h x (List.mem_cons_self ..)⟩).elim
theorem map_nil_iff {α β : Type} {f : α → β} {l : List α} : l.length = 0 ↔ l.map f = [] := by
 cases l <;> simp
theorem covers_tot {a b : api_Resources} (ha : VRes a) (hb : VRes b) : Tot (resource_Covers a b) (fun c => c = true ↔ (∀ n, cA b n → cA a n) ∧ (∀ n, cS b n → cS a n)) := by
 have l1 := ha.la
 have l2 := ha.ls
 have l3 := hb.la
 have l4 := hb.ls
 have b1 : b.fAddrs.length * (a.fAddrs.length + 1) ≤ 256 * 257 := Nat.mul_le_mul l3 (by omega)
 have b2 : b.fASNs.length * (a.fASNs.length + 1) ≤ 256 * 257 := Nat.mul_le_mul l4 (by omega)
 unfold resource_Covers
 refine Tot.bindOf (of_eq b (by omega) (by omega)) (Tot.bindOf (of_eq a (by omega) (by omega)) ?_)
 refine Tot.bindT (setminus_tot (avp_r hb.av) (by simp only; rw [map_paA]; exact hb.va) (svp_r hb.sv) (avp_r ha.av) (by simp only; rw [map_paA]; exact ha.va) (svp_r ha.sv) (by simp; omega) (by simp; omega) (by simp; omega) (by simp; omega)) fun r hr => ?_
 obtain ⟨⟨r1, r2, r3⟩, r4, r5, r6⟩ := hr
 simp only [map_paA, map_paS, List.length_map] at r2 r3 r5 r6
 obtain ⟨m1, m2, m3⟩ := minusL_ok ha.va hb.va
 obtain ⟨k1, k2, k3⟩ := minusL_ok ha.vs hb.vs
 refine Tot.some ?_
 rw [beq_iff_eq, w64_id (by omega) (by omega)]
 have e1 : r.faddrs.length = 0 ↔ ∀ n, cA b n → cA a n := by
  rw [map_nil_iff (f := ivP), r2, nil_iff m1.1]
  constructor
  ·intro h n hn
   by_cases c : cA a n
   ·exact c
   ·exact (h n ((m2 n).2 ⟨hn, c⟩)).elim
  ·intro h n hn
   obtain ⟨h1, h2⟩ := (m2 n).1 hn
   exact h2 (h n h1)
 have e2 : r.fasns.length = 0 ↔ ∀ n, cS b n → cS a n := by
  rw [map_nil_iff (f := ivI), r5, nil_iff k1.1]
  constructor
  ·intro h n hn
   by_cases c : cS a n
   ·exact c
   ·exact (h n ((k2 n).2 ⟨hn, c⟩)).elim
  ·intro h n hn
   obtain ⟨h1, h2⟩ := (k2 n).1 hn
   exact h2 (h n h1)
 rw [← e1, ← e2]
 omega
end Go.Proofs.YtgfoabcickjphaaDoor
