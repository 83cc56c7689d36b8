/- The fewest prefixes, both sides, and the example, in plain Lean. -/
import Derived.Test.YtgfoabcickjphaaDoorPureO
namespace Go.Proofs.YtgfoabcickjphaaDoor
open Go Go.Vc
theorem last_num {p : api_Prefix} (h : pV p) : nA (LastF p) = nA p.fAddr + (2 ^ fr p - 1) := by
 unfold LastF
 rw [nA_mkA]
 unfold fill
 rw [low_fr h]
theorem rk_num {a b : api_Addr} (h : a.fV6 = b.fV6) : rk a ≤ rk b ↔ nA a ≤ nA b := by
 unfold rk
 rw [h]
 split <;> omega
theorem last_ge {p : api_Prefix} (h : pV p) : nA p.fAddr ≤ nA (LastF p) := by rw [last_num h]; omega
theorem rk_first_last {P : api_Prefix} (hP : pV P) : rk P.fAddr ≤ rk (LastF P) := (rk_num (show P.fAddr.fV6 = (LastF P).fV6 from rfl)).2 (last_ge hP)
end Go.Proofs.YtgfoabcickjphaaDoor
