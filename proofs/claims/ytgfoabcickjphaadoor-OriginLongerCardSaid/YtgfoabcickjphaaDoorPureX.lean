/- The fewest prefixes, both sides, and the example, in plain Lean. -/
import Derived.Test.YtgfoabcickjphaaDoorPureO
namespace Go.Proofs.YtgfoabcickjphaaDoor
open Go Go.Vc
theorem last_num {p : api_Prefix} (h : pV p) : nA (LastF p) = nA p.fAddr + (2 ^ fr p - 1) := by
 unfold LastF
 rw [nA_mkA]
 unfold fill
 rw [low_fr h]
theorem cut_range {n k m : Nat} (h : cut m k = m) : cut n k = m ↔ m ≤ n ∧ n ≤ m + (2 ^ k - 1) := by
 have hp : 0 < 2 ^ k := Nat.pow_pos (by decide)
 unfold cut at *
 constructor
 ·intro e
  have h1 := Nat.div_add_mod n (2 ^ k)
  have h2 := Nat.mod_lt n hp
  rw [Nat.mul_comm] at h1
  omega
 ·rintro ⟨h1, h2⟩
  have e : n / 2 ^ k = m / 2 ^ k := by
   refine Nat.div_eq_of_lt_le ?_ ?_
   ·rw [h]; exact h1
   ·rw [Nat.add_mul, h]; omega
  rw [e, h]
theorem cont_num {p : api_Prefix} (h : pV p) {a : api_Addr} : ContF p a = true ↔ a.fV6 = p.fAddr.fV6 ∧ nA p.fAddr ≤ nA a ∧ nA a ≤ nA (LastF p) := by
 rw [cont_iff h, cut_range (low_fr h), last_num h]
theorem rk_num {a b : api_Addr} (h : a.fV6 = b.fV6) : rk a ≤ rk b ↔ nA a ≤ nA b := by
 unfold rk
 rw [h]
 split <;> omega
theorem last_ge {p : api_Prefix} (h : pV p) : nA p.fAddr ≤ nA (LastF p) := by rw [last_num h]; omega
theorem rk_first_last {P : api_Prefix} (hP : pV P) : rk P.fAddr ≤ rk (LastF P) := (rk_num (show P.fAddr.fV6 = (LastF P).fV6 from rfl)).2 (last_ge hP)
end Go.Proofs.YtgfoabcickjphaaDoor
