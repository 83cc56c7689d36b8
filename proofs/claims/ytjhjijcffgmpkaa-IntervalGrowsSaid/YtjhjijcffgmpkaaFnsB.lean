/- Printed by gen.py: the Go functions as plain functions, and that the code does what they say. -/
import Derived.Test.YtjhjijcffgmpkaaChecked
import Derived.Test.YtjhjijcffgmpkaaVcN
import Derived.KernelRfl
import Derived.Test.YtjhjijcffgmpkaaFnsA
namespace Go.Proofs.Ytjhjijcffgmpkaa
open Go Go.Vc
noncomputable def bits_Mul64 (a0 : Int) (a1 : Int) : Option (Int × Int) :=
  some ((IntKind.u64.wrap ((IntKind.u64.wrap ((IntKind.u64.wrap ((shrI .u64 a0 (32 : Int)) * (shrI .u64 a1 (32 : Int)))) + (shrI .u64 (IntKind.u64.wrap ((IntKind.u64.wrap ((shrI .u64 a0 (32 : Int)) * (bitI .and .u64 a1 (4294967295 : Int)))) + (shrI .u64 (IntKind.u64.wrap ((bitI .and .u64 a0 (4294967295 : Int)) * (bitI .and .u64 a1 (4294967295 : Int)))) (32 : Int)))) (32 : Int)))) + (shrI .u64 (IntKind.u64.wrap ((bitI .and .u64 (IntKind.u64.wrap ((IntKind.u64.wrap ((shrI .u64 a0 (32 : Int)) * (bitI .and .u64 a1 (4294967295 : Int)))) + (shrI .u64 (IntKind.u64.wrap ((bitI .and .u64 a0 (4294967295 : Int)) * (bitI .and .u64 a1 (4294967295 : Int)))) (32 : Int)))) (4294967295 : Int)) + (IntKind.u64.wrap ((bitI .and .u64 a0 (4294967295 : Int)) * (shrI .u64 a1 (32 : Int)))))) (32 : Int)))), (IntKind.u64.wrap (a0 * a1)))
set_option maxHeartbeats 4000000 in
set_option maxRecDepth 100000 in
theorem bits_Mul64_ac (a0 : Int) (a1 : Int) (r : Int × Int) (h : bits_Mul64 a0 a1 = some r) : AC Try.prog 33 [(.d (.int .u64 a0)), (.d (.int .u64 a1))] [] (.tup [(.d (.int .u64 r.1)), (.d (.int .u64 r.2))]) [] := by
  refine AC.of_code2 Try.func33 rfl rfl (Nat.le_of_ble_eq_true (by rfl)) fun B hB hN => ?_
  delta bits_Mul64 at h
  refine AWp.seq ?_
  refine AWp.region (OpJs.cons (OpJ.assign (ltN hN rfl) (Opd.int .u64 (0)))
  (OpJs.cons (OpJ.assign (ltN hN rfl) (Opd.int .u64 (0)))
  (OpJs.nil))) (by rfl) (by rfl) ?_
  refine seqQ_n ?_
  refine AWp.ghost (Mat.pat [] [(0, (.d (.int .u64 a0))), (1, (.d (.int .u64 a1)))] [] hB (by rfl) (by rfl) (by rfl)) ?_
  refine AWp.seq ?_
  refine AWp.region (OpJs.cons (OpJ.move (ltN hN rfl) (Opd.tmp 0 (.d (.int .u64 a0))))
  (OpJs.cons (OpJ.bits (op := .and) (by simp) (ltN hN rfl) (Opd.tmp 14 (.d (.int .u64 a0))) (Opd.int .u64 (4294967295)))
  (OpJs.cons (OpJ.assign (ltN hN rfl) (Opd.tmp 15 (.d (.int .u64 (bitI .and .u64 a0 (4294967295 : Int))))))
  (OpJs.nil)))) (by rfl) (by rfl) ?_
  refine seqQ_n ?_
  refine AWp.ghost (Mat.pat [] [(0, (.d (.int .u64 a0))), (1, (.d (.int .u64 a1))), (6, (.d (.int .u64 (bitI .and .u64 a0 (4294967295 : Int)))))] [] hB (by rfl) (by rfl) (by rfl)) ?_
  refine AWp.seq ?_
  refine AWp.region (OpJs.cons (OpJ.move (ltN hN rfl) (Opd.tmp 0 (.d (.int .u64 a0))))
  (OpJs.cons (OpJ.shr (ltN hN rfl) (Opd.tmp 16 (.d (.int .u64 a0))) (Opd.int .u64 (32)) (by decide))
  (OpJs.cons (OpJ.assign (ltN hN rfl) (Opd.tmp 17 (.d (.int .u64 (shrI .u64 a0 (32 : Int))))))
  (OpJs.nil)))) (by rfl) (by rfl) ?_
  refine seqQ_n ?_
  refine AWp.ghost (Mat.pat [] [(0, (.d (.int .u64 a0))), (1, (.d (.int .u64 a1))), (6, (.d (.int .u64 (bitI .and .u64 a0 (4294967295 : Int))))), (7, (.d (.int .u64 (shrI .u64 a0 (32 : Int)))))] [] hB (by rfl) (by rfl) (by rfl)) ?_
  refine AWp.seq ?_
  refine AWp.region (OpJs.cons (OpJ.move (ltN hN rfl) (Opd.tmp 1 (.d (.int .u64 a1))))
  (OpJs.cons (OpJ.bits (op := .and) (by simp) (ltN hN rfl) (Opd.tmp 18 (.d (.int .u64 a1))) (Opd.int .u64 (4294967295)))
  (OpJs.cons (OpJ.assign (ltN hN rfl) (Opd.tmp 19 (.d (.int .u64 (bitI .and .u64 a1 (4294967295 : Int))))))
  (OpJs.nil)))) (by rfl) (by rfl) ?_
  refine seqQ_n ?_
  refine AWp.ghost (Mat.pat [] [(0, (.d (.int .u64 a0))), (1, (.d (.int .u64 a1))), (6, (.d (.int .u64 (bitI .and .u64 a0 (4294967295 : Int))))), (7, (.d (.int .u64 (shrI .u64 a0 (32 : Int))))), (8, (.d (.int .u64 (bitI .and .u64 a1 (4294967295 : Int)))))] [] hB (by rfl) (by rfl) (by rfl)) ?_
  refine AWp.seq ?_
  refine AWp.region (OpJs.cons (OpJ.move (ltN hN rfl) (Opd.tmp 1 (.d (.int .u64 a1))))
  (OpJs.cons (OpJ.shr (ltN hN rfl) (Opd.tmp 20 (.d (.int .u64 a1))) (Opd.int .u64 (32)) (by decide))
  (OpJs.cons (OpJ.assign (ltN hN rfl) (Opd.tmp 21 (.d (.int .u64 (shrI .u64 a1 (32 : Int))))))
  (OpJs.nil)))) (by rfl) (by rfl) ?_
  refine seqQ_n ?_
  refine AWp.ghost (Mat.pat [] [(0, (.d (.int .u64 a0))), (1, (.d (.int .u64 a1))), (6, (.d (.int .u64 (bitI .and .u64 a0 (4294967295 : Int))))), (7, (.d (.int .u64 (shrI .u64 a0 (32 : Int))))), (8, (.d (.int .u64 (bitI .and .u64 a1 (4294967295 : Int))))), (9, (.d (.int .u64 (shrI .u64 a1 (32 : Int)))))] [] hB (by rfl) (by rfl) (by rfl)) ?_
  refine AWp.seq ?_
  refine AWp.region (OpJs.cons (OpJ.move (ltN hN rfl) (Opd.tmp 6 (.d (.int .u64 (bitI .and .u64 a0 (4294967295 : Int))))))
  (OpJs.cons (OpJ.move (ltN hN rfl) (Opd.tmp 8 (.d (.int .u64 (bitI .and .u64 a1 (4294967295 : Int))))))
  (OpJs.cons (OpJ.mul (ltN hN rfl) (Opd.tmp 22 (.d (.int .u64 (bitI .and .u64 a0 (4294967295 : Int))))) (Opd.tmp 23 (.d (.int .u64 (bitI .and .u64 a1 (4294967295 : Int))))))
  (OpJs.cons (OpJ.assign (ltN hN rfl) (Opd.tmp 24 (.d (.int .u64 (IntKind.u64.wrap ((bitI .and .u64 a0 (4294967295 : Int)) * (bitI .and .u64 a1 (4294967295 : Int))))))))
  (OpJs.nil))))) (by rfl) (by rfl) ?_
  refine seqQ_n ?_
  refine AWp.ghost (Mat.pat [] [(0, (.d (.int .u64 a0))), (1, (.d (.int .u64 a1))), (6, (.d (.int .u64 (bitI .and .u64 a0 (4294967295 : Int))))), (7, (.d (.int .u64 (shrI .u64 a0 (32 : Int))))), (8, (.d (.int .u64 (bitI .and .u64 a1 (4294967295 : Int))))), (9, (.d (.int .u64 (shrI .u64 a1 (32 : Int))))), (10, (.d (.int .u64 (IntKind.u64.wrap ((bitI .and .u64 a0 (4294967295 : Int)) * (bitI .and .u64 a1 (4294967295 : Int)))))))] [] hB (by rfl) (by rfl) (by rfl)) ?_
  refine AWp.seq ?_
  refine AWp.region (OpJs.cons (OpJ.move (ltN hN rfl) (Opd.tmp 7 (.d (.int .u64 (shrI .u64 a0 (32 : Int))))))
  (OpJs.cons (OpJ.move (ltN hN rfl) (Opd.tmp 8 (.d (.int .u64 (bitI .and .u64 a1 (4294967295 : Int))))))
  (OpJs.cons (OpJ.mul (ltN hN rfl) (Opd.tmp 25 (.d (.int .u64 (shrI .u64 a0 (32 : Int))))) (Opd.tmp 26 (.d (.int .u64 (bitI .and .u64 a1 (4294967295 : Int))))))
  (OpJs.cons (OpJ.move (ltN hN rfl) (Opd.tmp 10 (.d (.int .u64 (IntKind.u64.wrap ((bitI .and .u64 a0 (4294967295 : Int)) * (bitI .and .u64 a1 (4294967295 : Int))))))))
  (OpJs.cons (OpJ.shr (ltN hN rfl) (Opd.tmp 28 (.d (.int .u64 (IntKind.u64.wrap ((bitI .and .u64 a0 (4294967295 : Int)) * (bitI .and .u64 a1 (4294967295 : Int))))))) (Opd.int .u64 (32)) (by decide))
  (OpJs.cons (OpJ.add (ltN hN rfl) (Opd.tmp 27 (.d (.int .u64 (IntKind.u64.wrap ((shrI .u64 a0 (32 : Int)) * (bitI .and .u64 a1 (4294967295 : Int))))))) (Opd.tmp 29 (.d (.int .u64 (shrI .u64 (IntKind.u64.wrap ((bitI .and .u64 a0 (4294967295 : Int)) * (bitI .and .u64 a1 (4294967295 : Int)))) (32 : Int))))))
  (OpJs.cons (OpJ.assign (ltN hN rfl) (Opd.tmp 30 (.d (.int .u64 (IntKind.u64.wrap ((IntKind.u64.wrap ((shrI .u64 a0 (32 : Int)) * (bitI .and .u64 a1 (4294967295 : Int)))) + (shrI .u64 (IntKind.u64.wrap ((bitI .and .u64 a0 (4294967295 : Int)) * (bitI .and .u64 a1 (4294967295 : Int)))) (32 : Int))))))))
  (OpJs.nil)))))))) (by rfl) (by rfl) ?_
  refine seqQ_n ?_
  refine AWp.ghost (Mat.pat [] [(0, (.d (.int .u64 a0))), (1, (.d (.int .u64 a1))), (6, (.d (.int .u64 (bitI .and .u64 a0 (4294967295 : Int))))), (7, (.d (.int .u64 (shrI .u64 a0 (32 : Int))))), (9, (.d (.int .u64 (shrI .u64 a1 (32 : Int))))), (11, (.d (.int .u64 (IntKind.u64.wrap ((IntKind.u64.wrap ((shrI .u64 a0 (32 : Int)) * (bitI .and .u64 a1 (4294967295 : Int)))) + (shrI .u64 (IntKind.u64.wrap ((bitI .and .u64 a0 (4294967295 : Int)) * (bitI .and .u64 a1 (4294967295 : Int)))) (32 : Int)))))))] [] hB (by rfl) (by rfl) (by rfl)) ?_
  refine AWp.seq ?_
  refine AWp.region (OpJs.cons (OpJ.move (ltN hN rfl) (Opd.tmp 11 (.d (.int .u64 (IntKind.u64.wrap ((IntKind.u64.wrap ((shrI .u64 a0 (32 : Int)) * (bitI .and .u64 a1 (4294967295 : Int)))) + (shrI .u64 (IntKind.u64.wrap ((bitI .and .u64 a0 (4294967295 : Int)) * (bitI .and .u64 a1 (4294967295 : Int)))) (32 : Int))))))))
  (OpJs.cons (OpJ.bits (op := .and) (by simp) (ltN hN rfl) (Opd.tmp 31 (.d (.int .u64 (IntKind.u64.wrap ((IntKind.u64.wrap ((shrI .u64 a0 (32 : Int)) * (bitI .and .u64 a1 (4294967295 : Int)))) + (shrI .u64 (IntKind.u64.wrap ((bitI .and .u64 a0 (4294967295 : Int)) * (bitI .and .u64 a1 (4294967295 : Int)))) (32 : Int))))))) (Opd.int .u64 (4294967295)))
  (OpJs.cons (OpJ.assign (ltN hN rfl) (Opd.tmp 32 (.d (.int .u64 (bitI .and .u64 (IntKind.u64.wrap ((IntKind.u64.wrap ((shrI .u64 a0 (32 : Int)) * (bitI .and .u64 a1 (4294967295 : Int)))) + (shrI .u64 (IntKind.u64.wrap ((bitI .and .u64 a0 (4294967295 : Int)) * (bitI .and .u64 a1 (4294967295 : Int)))) (32 : Int)))) (4294967295 : Int))))))
  (OpJs.nil)))) (by rfl) (by rfl) ?_
  refine seqQ_n ?_
  refine AWp.ghost (Mat.pat [] [(0, (.d (.int .u64 a0))), (1, (.d (.int .u64 a1))), (6, (.d (.int .u64 (bitI .and .u64 a0 (4294967295 : Int))))), (7, (.d (.int .u64 (shrI .u64 a0 (32 : Int))))), (9, (.d (.int .u64 (shrI .u64 a1 (32 : Int))))), (11, (.d (.int .u64 (IntKind.u64.wrap ((IntKind.u64.wrap ((shrI .u64 a0 (32 : Int)) * (bitI .and .u64 a1 (4294967295 : Int)))) + (shrI .u64 (IntKind.u64.wrap ((bitI .and .u64 a0 (4294967295 : Int)) * (bitI .and .u64 a1 (4294967295 : Int)))) (32 : Int))))))), (12, (.d (.int .u64 (bitI .and .u64 (IntKind.u64.wrap ((IntKind.u64.wrap ((shrI .u64 a0 (32 : Int)) * (bitI .and .u64 a1 (4294967295 : Int)))) + (shrI .u64 (IntKind.u64.wrap ((bitI .and .u64 a0 (4294967295 : Int)) * (bitI .and .u64 a1 (4294967295 : Int)))) (32 : Int)))) (4294967295 : Int)))))] [] hB (by rfl) (by rfl) (by rfl)) ?_
  refine AWp.seq ?_
  refine AWp.region (OpJs.cons (OpJ.move (ltN hN rfl) (Opd.tmp 11 (.d (.int .u64 (IntKind.u64.wrap ((IntKind.u64.wrap ((shrI .u64 a0 (32 : Int)) * (bitI .and .u64 a1 (4294967295 : Int)))) + (shrI .u64 (IntKind.u64.wrap ((bitI .and .u64 a0 (4294967295 : Int)) * (bitI .and .u64 a1 (4294967295 : Int)))) (32 : Int))))))))
  (OpJs.cons (OpJ.shr (ltN hN rfl) (Opd.tmp 33 (.d (.int .u64 (IntKind.u64.wrap ((IntKind.u64.wrap ((shrI .u64 a0 (32 : Int)) * (bitI .and .u64 a1 (4294967295 : Int)))) + (shrI .u64 (IntKind.u64.wrap ((bitI .and .u64 a0 (4294967295 : Int)) * (bitI .and .u64 a1 (4294967295 : Int)))) (32 : Int))))))) (Opd.int .u64 (32)) (by decide))
  (OpJs.cons (OpJ.assign (ltN hN rfl) (Opd.tmp 34 (.d (.int .u64 (shrI .u64 (IntKind.u64.wrap ((IntKind.u64.wrap ((shrI .u64 a0 (32 : Int)) * (bitI .and .u64 a1 (4294967295 : Int)))) + (shrI .u64 (IntKind.u64.wrap ((bitI .and .u64 a0 (4294967295 : Int)) * (bitI .and .u64 a1 (4294967295 : Int)))) (32 : Int)))) (32 : Int))))))
  (OpJs.nil)))) (by rfl) (by rfl) ?_
  refine seqQ_n ?_
  refine AWp.ghost (Mat.pat [] [(0, (.d (.int .u64 a0))), (1, (.d (.int .u64 a1))), (6, (.d (.int .u64 (bitI .and .u64 a0 (4294967295 : Int))))), (7, (.d (.int .u64 (shrI .u64 a0 (32 : Int))))), (9, (.d (.int .u64 (shrI .u64 a1 (32 : Int))))), (12, (.d (.int .u64 (bitI .and .u64 (IntKind.u64.wrap ((IntKind.u64.wrap ((shrI .u64 a0 (32 : Int)) * (bitI .and .u64 a1 (4294967295 : Int)))) + (shrI .u64 (IntKind.u64.wrap ((bitI .and .u64 a0 (4294967295 : Int)) * (bitI .and .u64 a1 (4294967295 : Int)))) (32 : Int)))) (4294967295 : Int))))), (13, (.d (.int .u64 (shrI .u64 (IntKind.u64.wrap ((IntKind.u64.wrap ((shrI .u64 a0 (32 : Int)) * (bitI .and .u64 a1 (4294967295 : Int)))) + (shrI .u64 (IntKind.u64.wrap ((bitI .and .u64 a0 (4294967295 : Int)) * (bitI .and .u64 a1 (4294967295 : Int)))) (32 : Int)))) (32 : Int)))))] [] hB (by rfl) (by rfl) (by rfl)) ?_
  refine AWp.seq ?_
  refine AWp.region (OpJs.cons (OpJ.move (ltN hN rfl) (Opd.tmp 12 (.d (.int .u64 (bitI .and .u64 (IntKind.u64.wrap ((IntKind.u64.wrap ((shrI .u64 a0 (32 : Int)) * (bitI .and .u64 a1 (4294967295 : Int)))) + (shrI .u64 (IntKind.u64.wrap ((bitI .and .u64 a0 (4294967295 : Int)) * (bitI .and .u64 a1 (4294967295 : Int)))) (32 : Int)))) (4294967295 : Int))))))
  (OpJs.cons (OpJ.move (ltN hN rfl) (Opd.tmp 6 (.d (.int .u64 (bitI .and .u64 a0 (4294967295 : Int))))))
  (OpJs.cons (OpJ.move (ltN hN rfl) (Opd.tmp 9 (.d (.int .u64 (shrI .u64 a1 (32 : Int))))))
  (OpJs.cons (OpJ.mul (ltN hN rfl) (Opd.tmp 36 (.d (.int .u64 (bitI .and .u64 a0 (4294967295 : Int))))) (Opd.tmp 37 (.d (.int .u64 (shrI .u64 a1 (32 : Int))))))
  (OpJs.cons (OpJ.add (ltN hN rfl) (Opd.tmp 35 (.d (.int .u64 (bitI .and .u64 (IntKind.u64.wrap ((IntKind.u64.wrap ((shrI .u64 a0 (32 : Int)) * (bitI .and .u64 a1 (4294967295 : Int)))) + (shrI .u64 (IntKind.u64.wrap ((bitI .and .u64 a0 (4294967295 : Int)) * (bitI .and .u64 a1 (4294967295 : Int)))) (32 : Int)))) (4294967295 : Int))))) (Opd.tmp 38 (.d (.int .u64 (IntKind.u64.wrap ((bitI .and .u64 a0 (4294967295 : Int)) * (shrI .u64 a1 (32 : Int))))))))
  (OpJs.cons (OpJ.assign (ltN hN rfl) (Opd.tmp 39 (.d (.int .u64 (IntKind.u64.wrap ((bitI .and .u64 (IntKind.u64.wrap ((IntKind.u64.wrap ((shrI .u64 a0 (32 : Int)) * (bitI .and .u64 a1 (4294967295 : Int)))) + (shrI .u64 (IntKind.u64.wrap ((bitI .and .u64 a0 (4294967295 : Int)) * (bitI .and .u64 a1 (4294967295 : Int)))) (32 : Int)))) (4294967295 : Int)) + (IntKind.u64.wrap ((bitI .and .u64 a0 (4294967295 : Int)) * (shrI .u64 a1 (32 : Int))))))))))
  (OpJs.nil))))))) (by rfl) (by rfl) ?_
  refine seqQ_n ?_
  refine AWp.ghost (Mat.pat [] [(0, (.d (.int .u64 a0))), (1, (.d (.int .u64 a1))), (7, (.d (.int .u64 (shrI .u64 a0 (32 : Int))))), (9, (.d (.int .u64 (shrI .u64 a1 (32 : Int))))), (12, (.d (.int .u64 (IntKind.u64.wrap ((bitI .and .u64 (IntKind.u64.wrap ((IntKind.u64.wrap ((shrI .u64 a0 (32 : Int)) * (bitI .and .u64 a1 (4294967295 : Int)))) + (shrI .u64 (IntKind.u64.wrap ((bitI .and .u64 a0 (4294967295 : Int)) * (bitI .and .u64 a1 (4294967295 : Int)))) (32 : Int)))) (4294967295 : Int)) + (IntKind.u64.wrap ((bitI .and .u64 a0 (4294967295 : Int)) * (shrI .u64 a1 (32 : Int))))))))), (13, (.d (.int .u64 (shrI .u64 (IntKind.u64.wrap ((IntKind.u64.wrap ((shrI .u64 a0 (32 : Int)) * (bitI .and .u64 a1 (4294967295 : Int)))) + (shrI .u64 (IntKind.u64.wrap ((bitI .and .u64 a0 (4294967295 : Int)) * (bitI .and .u64 a1 (4294967295 : Int)))) (32 : Int)))) (32 : Int)))))] [] hB (by rfl) (by rfl) (by rfl)) ?_
  refine AWp.seq ?_
  refine AWp.region (OpJs.cons (OpJ.move (ltN hN rfl) (Opd.tmp 7 (.d (.int .u64 (shrI .u64 a0 (32 : Int))))))
  (OpJs.cons (OpJ.move (ltN hN rfl) (Opd.tmp 9 (.d (.int .u64 (shrI .u64 a1 (32 : Int))))))
  (OpJs.cons (OpJ.mul (ltN hN rfl) (Opd.tmp 40 (.d (.int .u64 (shrI .u64 a0 (32 : Int))))) (Opd.tmp 41 (.d (.int .u64 (shrI .u64 a1 (32 : Int))))))
  (OpJs.cons (OpJ.move (ltN hN rfl) (Opd.tmp 13 (.d (.int .u64 (shrI .u64 (IntKind.u64.wrap ((IntKind.u64.wrap ((shrI .u64 a0 (32 : Int)) * (bitI .and .u64 a1 (4294967295 : Int)))) + (shrI .u64 (IntKind.u64.wrap ((bitI .and .u64 a0 (4294967295 : Int)) * (bitI .and .u64 a1 (4294967295 : Int)))) (32 : Int)))) (32 : Int))))))
  (OpJs.cons (OpJ.add (ltN hN rfl) (Opd.tmp 42 (.d (.int .u64 (IntKind.u64.wrap ((shrI .u64 a0 (32 : Int)) * (shrI .u64 a1 (32 : Int))))))) (Opd.tmp 43 (.d (.int .u64 (shrI .u64 (IntKind.u64.wrap ((IntKind.u64.wrap ((shrI .u64 a0 (32 : Int)) * (bitI .and .u64 a1 (4294967295 : Int)))) + (shrI .u64 (IntKind.u64.wrap ((bitI .and .u64 a0 (4294967295 : Int)) * (bitI .and .u64 a1 (4294967295 : Int)))) (32 : Int)))) (32 : Int))))))
  (OpJs.cons (OpJ.move (ltN hN rfl) (Opd.tmp 12 (.d (.int .u64 (IntKind.u64.wrap ((bitI .and .u64 (IntKind.u64.wrap ((IntKind.u64.wrap ((shrI .u64 a0 (32 : Int)) * (bitI .and .u64 a1 (4294967295 : Int)))) + (shrI .u64 (IntKind.u64.wrap ((bitI .and .u64 a0 (4294967295 : Int)) * (bitI .and .u64 a1 (4294967295 : Int)))) (32 : Int)))) (4294967295 : Int)) + (IntKind.u64.wrap ((bitI .and .u64 a0 (4294967295 : Int)) * (shrI .u64 a1 (32 : Int))))))))))
  (OpJs.cons (OpJ.shr (ltN hN rfl) (Opd.tmp 45 (.d (.int .u64 (IntKind.u64.wrap ((bitI .and .u64 (IntKind.u64.wrap ((IntKind.u64.wrap ((shrI .u64 a0 (32 : Int)) * (bitI .and .u64 a1 (4294967295 : Int)))) + (shrI .u64 (IntKind.u64.wrap ((bitI .and .u64 a0 (4294967295 : Int)) * (bitI .and .u64 a1 (4294967295 : Int)))) (32 : Int)))) (4294967295 : Int)) + (IntKind.u64.wrap ((bitI .and .u64 a0 (4294967295 : Int)) * (shrI .u64 a1 (32 : Int))))))))) (Opd.int .u64 (32)) (by decide))
  (OpJs.cons (OpJ.add (ltN hN rfl) (Opd.tmp 44 (.d (.int .u64 (IntKind.u64.wrap ((IntKind.u64.wrap ((shrI .u64 a0 (32 : Int)) * (shrI .u64 a1 (32 : Int)))) + (shrI .u64 (IntKind.u64.wrap ((IntKind.u64.wrap ((shrI .u64 a0 (32 : Int)) * (bitI .and .u64 a1 (4294967295 : Int)))) + (shrI .u64 (IntKind.u64.wrap ((bitI .and .u64 a0 (4294967295 : Int)) * (bitI .and .u64 a1 (4294967295 : Int)))) (32 : Int)))) (32 : Int))))))) (Opd.tmp 46 (.d (.int .u64 (shrI .u64 (IntKind.u64.wrap ((bitI .and .u64 (IntKind.u64.wrap ((IntKind.u64.wrap ((shrI .u64 a0 (32 : Int)) * (bitI .and .u64 a1 (4294967295 : Int)))) + (shrI .u64 (IntKind.u64.wrap ((bitI .and .u64 a0 (4294967295 : Int)) * (bitI .and .u64 a1 (4294967295 : Int)))) (32 : Int)))) (4294967295 : Int)) + (IntKind.u64.wrap ((bitI .and .u64 a0 (4294967295 : Int)) * (shrI .u64 a1 (32 : Int)))))) (32 : Int))))))
  (OpJs.cons (OpJ.assign (ltN hN rfl) (Opd.tmp 47 (.d (.int .u64 (IntKind.u64.wrap ((IntKind.u64.wrap ((IntKind.u64.wrap ((shrI .u64 a0 (32 : Int)) * (shrI .u64 a1 (32 : Int)))) + (shrI .u64 (IntKind.u64.wrap ((IntKind.u64.wrap ((shrI .u64 a0 (32 : Int)) * (bitI .and .u64 a1 (4294967295 : Int)))) + (shrI .u64 (IntKind.u64.wrap ((bitI .and .u64 a0 (4294967295 : Int)) * (bitI .and .u64 a1 (4294967295 : Int)))) (32 : Int)))) (32 : Int)))) + (shrI .u64 (IntKind.u64.wrap ((bitI .and .u64 (IntKind.u64.wrap ((IntKind.u64.wrap ((shrI .u64 a0 (32 : Int)) * (bitI .and .u64 a1 (4294967295 : Int)))) + (shrI .u64 (IntKind.u64.wrap ((bitI .and .u64 a0 (4294967295 : Int)) * (bitI .and .u64 a1 (4294967295 : Int)))) (32 : Int)))) (4294967295 : Int)) + (IntKind.u64.wrap ((bitI .and .u64 a0 (4294967295 : Int)) * (shrI .u64 a1 (32 : Int)))))) (32 : Int))))))))
  (OpJs.nil)))))))))) (by rfl) (by rfl) ?_
  refine seqQ_n ?_
  refine AWp.ghost (Mat.pat [] [(0, (.d (.int .u64 a0))), (1, (.d (.int .u64 a1))), (4, (.d (.int .u64 (IntKind.u64.wrap ((IntKind.u64.wrap ((IntKind.u64.wrap ((shrI .u64 a0 (32 : Int)) * (shrI .u64 a1 (32 : Int)))) + (shrI .u64 (IntKind.u64.wrap ((IntKind.u64.wrap ((shrI .u64 a0 (32 : Int)) * (bitI .and .u64 a1 (4294967295 : Int)))) + (shrI .u64 (IntKind.u64.wrap ((bitI .and .u64 a0 (4294967295 : Int)) * (bitI .and .u64 a1 (4294967295 : Int)))) (32 : Int)))) (32 : Int)))) + (shrI .u64 (IntKind.u64.wrap ((bitI .and .u64 (IntKind.u64.wrap ((IntKind.u64.wrap ((shrI .u64 a0 (32 : Int)) * (bitI .and .u64 a1 (4294967295 : Int)))) + (shrI .u64 (IntKind.u64.wrap ((bitI .and .u64 a0 (4294967295 : Int)) * (bitI .and .u64 a1 (4294967295 : Int)))) (32 : Int)))) (4294967295 : Int)) + (IntKind.u64.wrap ((bitI .and .u64 a0 (4294967295 : Int)) * (shrI .u64 a1 (32 : Int)))))) (32 : Int)))))))] [] hB (by rfl) (by rfl) (by rfl)) ?_
  refine AWp.seq ?_
  refine AWp.region (OpJs.cons (OpJ.move (ltN hN rfl) (Opd.tmp 0 (.d (.int .u64 a0))))
  (OpJs.cons (OpJ.move (ltN hN rfl) (Opd.tmp 1 (.d (.int .u64 a1))))
  (OpJs.cons (OpJ.mul (ltN hN rfl) (Opd.tmp 48 (.d (.int .u64 a0))) (Opd.tmp 49 (.d (.int .u64 a1))))
  (OpJs.cons (OpJ.assign (ltN hN rfl) (Opd.tmp 50 (.d (.int .u64 (IntKind.u64.wrap (a0 * a1))))))
  (OpJs.nil))))) (by rfl) (by rfl) ?_
  refine seqQ_n ?_
  refine AWp.ghost (Mat.pat [] [(4, (.d (.int .u64 (IntKind.u64.wrap ((IntKind.u64.wrap ((IntKind.u64.wrap ((shrI .u64 a0 (32 : Int)) * (shrI .u64 a1 (32 : Int)))) + (shrI .u64 (IntKind.u64.wrap ((IntKind.u64.wrap ((shrI .u64 a0 (32 : Int)) * (bitI .and .u64 a1 (4294967295 : Int)))) + (shrI .u64 (IntKind.u64.wrap ((bitI .and .u64 a0 (4294967295 : Int)) * (bitI .and .u64 a1 (4294967295 : Int)))) (32 : Int)))) (32 : Int)))) + (shrI .u64 (IntKind.u64.wrap ((bitI .and .u64 (IntKind.u64.wrap ((IntKind.u64.wrap ((shrI .u64 a0 (32 : Int)) * (bitI .and .u64 a1 (4294967295 : Int)))) + (shrI .u64 (IntKind.u64.wrap ((bitI .and .u64 a0 (4294967295 : Int)) * (bitI .and .u64 a1 (4294967295 : Int)))) (32 : Int)))) (4294967295 : Int)) + (IntKind.u64.wrap ((bitI .and .u64 a0 (4294967295 : Int)) * (shrI .u64 a1 (32 : Int)))))) (32 : Int))))))), (5, (.d (.int .u64 (IntKind.u64.wrap (a0 * a1)))))] [] hB (by rfl) (by rfl) (by rfl)) ?_
  refine AWp.ret ?_
  obtain rfl := Option.some.inj h
  exact ⟨.inl rfl, _, _, (Mat.pat [] [(4, (.d (.int .u64 (IntKind.u64.wrap ((IntKind.u64.wrap ((IntKind.u64.wrap ((shrI .u64 a0 (32 : Int)) * (shrI .u64 a1 (32 : Int)))) + (shrI .u64 (IntKind.u64.wrap ((IntKind.u64.wrap ((shrI .u64 a0 (32 : Int)) * (bitI .and .u64 a1 (4294967295 : Int)))) + (shrI .u64 (IntKind.u64.wrap ((bitI .and .u64 a0 (4294967295 : Int)) * (bitI .and .u64 a1 (4294967295 : Int)))) (32 : Int)))) (32 : Int)))) + (shrI .u64 (IntKind.u64.wrap ((bitI .and .u64 (IntKind.u64.wrap ((IntKind.u64.wrap ((shrI .u64 a0 (32 : Int)) * (bitI .and .u64 a1 (4294967295 : Int)))) + (shrI .u64 (IntKind.u64.wrap ((bitI .and .u64 a0 (4294967295 : Int)) * (bitI .and .u64 a1 (4294967295 : Int)))) (32 : Int)))) (4294967295 : Int)) + (IntKind.u64.wrap ((bitI .and .u64 a0 (4294967295 : Int)) * (shrI .u64 a1 (32 : Int)))))) (32 : Int))))))), (5, (.d (.int .u64 (IntKind.u64.wrap (a0 * a1)))))] [] hB (by rfl) (by rfl) (by rfl)), [(.d (.int .u64 (IntKind.u64.wrap ((IntKind.u64.wrap ((IntKind.u64.wrap ((shrI .u64 a0 (32 : Int)) * (shrI .u64 a1 (32 : Int)))) + (shrI .u64 (IntKind.u64.wrap ((IntKind.u64.wrap ((shrI .u64 a0 (32 : Int)) * (bitI .and .u64 a1 (4294967295 : Int)))) + (shrI .u64 (IntKind.u64.wrap ((bitI .and .u64 a0 (4294967295 : Int)) * (bitI .and .u64 a1 (4294967295 : Int)))) (32 : Int)))) (32 : Int)))) + (shrI .u64 (IntKind.u64.wrap ((bitI .and .u64 (IntKind.u64.wrap ((IntKind.u64.wrap ((shrI .u64 a0 (32 : Int)) * (bitI .and .u64 a1 (4294967295 : Int)))) + (shrI .u64 (IntKind.u64.wrap ((bitI .and .u64 a0 (4294967295 : Int)) * (bitI .and .u64 a1 (4294967295 : Int)))) (32 : Int)))) (4294967295 : Int)) + (IntKind.u64.wrap ((bitI .and .u64 a0 (4294967295 : Int)) * (shrI .u64 a1 (32 : Int)))))) (32 : Int)))))), (.d (.int .u64 (IntKind.u64.wrap (a0 * a1))))], (Res.tmp (by rfl) (by rfl) (Res.tmp (by rfl) (by rfl) Res.nil)), rfl, by rfl, by rfl, by rfl⟩

noncomputable def interval_greater (a0 : Int) (a1 : Int) (a2 : Int) (a3 : Int) : Option (Bool) :=
  (bits_Mul64 (IntKind.u64.wrap a0) (IntKind.u64.wrap a1)).bind fun r1 =>
  (bits_Mul64 (IntKind.u64.wrap a2) (IntKind.u64.wrap a3)).bind fun r2 =>
  jn (fun m4 : Bool =>
  some m4) (fun j5 =>
  (if (decide (r2.1 < r1.1)) = true then
  j5 true
  else
  j5 ((r1.1 == r2.1) && (decide (r2.2 < r1.2)))))
set_option maxHeartbeats 4000000 in
set_option maxRecDepth 100000 in
theorem interval_greater_ac (a0 : Int) (a1 : Int) (a2 : Int) (a3 : Int) (r : Bool) (h : interval_greater a0 a1 a2 a3 = some r) : AC Try.prog 31 [(.d (.int .i64 a0)), (.d (.int .i64 a1)), (.d (.int .i64 a2)), (.d (.int .i64 a3))] [] (.d (.bool r)) [] := by
  refine AC.of_code2 Try.func31 rfl rfl (Nat.le_of_ble_eq_true (by rfl)) fun B hB hN => ?_
  delta interval_greater at h
  refine AWp.seq ?_
  refine AWp.region (OpJs.cons (OpJ.assign (ltN hN rfl) (Opd.bool false))
  (OpJs.nil)) (by rfl) (by rfl) ?_
  refine seqQ_n ?_
  refine AWp.ghost (Mat.pat [] [(0, (.d (.int .i64 a0))), (1, (.d (.int .i64 a1))), (2, (.d (.int .i64 a2))), (3, (.d (.int .i64 a3)))] [] hB (by rfl) (by rfl) (by rfl)) ?_
  refine AWp.seq ?_
  obtain ⟨r1, hr1, h⟩ := bindS h
  refine AWp.region (OpJs.cons (OpJ.move (ltN hN rfl) (Opd.tmp 0 (.d (.int .i64 a0))))
  (OpJs.cons (OpJ.conv Try.underlying3 Try.underlying43 (ltN hN rfl) (Opd.tmp 14 (.d (.int .i64 a0))))
  (OpJs.cons (OpJ.move (ltN hN rfl) (Opd.tmp 1 (.d (.int .i64 a1))))
  (OpJs.cons (OpJ.conv Try.underlying3 Try.underlying43 (ltN hN rfl) (Opd.tmp 16 (.d (.int .i64 a1))))
  (OpJs.cons (OpJ.callFn hB fnOk33 (bits_Mul64_ac (IntKind.u64.wrap a0) (IntKind.u64.wrap a1) r1 hr1) [] (by kernel_rfl) (ltN hN rfl) (by kernel_rfl) (OpdL.cons (Opd.tmp 15 (.d (.int .u64 (IntKind.u64.wrap a0)))) (OpdL.cons (Opd.tmp 17 (.d (.int .u64 (IntKind.u64.wrap a1)))) OpdL.nil)))
  (OpJs.cons (OpJ.move (ltN hN rfl) (Opd.tmp 18 (.tup [(.d (.int .u64 r1.1)), (.d (.int .u64 r1.2))])))
  (OpJs.cons (OpJ.extract (v := (.d (.int .u64 r1.1))) (by rfl) rfl (ltN hN rfl) (Opd.tmp 13 (.tup [(.d (.int .u64 r1.1)), (.d (.int .u64 r1.2))])))
  (OpJs.cons (OpJ.extract (v := (.d (.int .u64 r1.2))) (by rfl) rfl (ltN hN rfl) (Opd.tmp 13 (.tup [(.d (.int .u64 r1.1)), (.d (.int .u64 r1.2))])))
  (OpJs.cons (OpJ.assign (ltN hN rfl) (Opd.tmp 19 (.d (.int .u64 r1.1))))
  (OpJs.cons (OpJ.assign (ltN hN rfl) (Opd.tmp 20 (.d (.int .u64 r1.2))))
  (OpJs.nil))))))))))) (by rfl) (by rfl) ?_
  refine seqQ_n ?_
  refine AWp.ghost (Mat.pat [] [(2, (.d (.int .i64 a2))), (3, (.d (.int .i64 a3))), (9, (.d (.int .u64 r1.1))), (10, (.d (.int .u64 r1.2)))] [] hB (by rfl) (by rfl) (by rfl)) ?_
  refine AWp.seq ?_
  obtain ⟨r2, hr2, h⟩ := bindS h
  refine AWp.region (OpJs.cons (OpJ.move (ltN hN rfl) (Opd.tmp 2 (.d (.int .i64 a2))))
  (OpJs.cons (OpJ.conv Try.underlying3 Try.underlying43 (ltN hN rfl) (Opd.tmp 22 (.d (.int .i64 a2))))
  (OpJs.cons (OpJ.move (ltN hN rfl) (Opd.tmp 3 (.d (.int .i64 a3))))
  (OpJs.cons (OpJ.conv Try.underlying3 Try.underlying43 (ltN hN rfl) (Opd.tmp 24 (.d (.int .i64 a3))))
  (OpJs.cons (OpJ.callFn hB fnOk33 (bits_Mul64_ac (IntKind.u64.wrap a2) (IntKind.u64.wrap a3) r2 hr2) [] (by kernel_rfl) (ltN hN rfl) (by kernel_rfl) (OpdL.cons (Opd.tmp 23 (.d (.int .u64 (IntKind.u64.wrap a2)))) (OpdL.cons (Opd.tmp 25 (.d (.int .u64 (IntKind.u64.wrap a3)))) OpdL.nil)))
  (OpJs.cons (OpJ.move (ltN hN rfl) (Opd.tmp 26 (.tup [(.d (.int .u64 r2.1)), (.d (.int .u64 r2.2))])))
  (OpJs.cons (OpJ.extract (v := (.d (.int .u64 r2.1))) (by rfl) rfl (ltN hN rfl) (Opd.tmp 21 (.tup [(.d (.int .u64 r2.1)), (.d (.int .u64 r2.2))])))
  (OpJs.cons (OpJ.extract (v := (.d (.int .u64 r2.2))) (by rfl) rfl (ltN hN rfl) (Opd.tmp 21 (.tup [(.d (.int .u64 r2.1)), (.d (.int .u64 r2.2))])))
  (OpJs.cons (OpJ.assign (ltN hN rfl) (Opd.tmp 27 (.d (.int .u64 r2.1))))
  (OpJs.cons (OpJ.assign (ltN hN rfl) (Opd.tmp 28 (.d (.int .u64 r2.2))))
  (OpJs.nil))))))))))) (by rfl) (by rfl) ?_
  refine seqQ_n ?_
  refine AWp.ghost (Mat.pat [] [(9, (.d (.int .u64 r1.1))), (10, (.d (.int .u64 r1.2))), (11, (.d (.int .u64 r2.1))), (12, (.d (.int .u64 r2.2)))] [] hB (by rfl) (by rfl) (by rfl)) ?_
  refine AWp.seq ?_
  refine AWp.cut h (fun m4 : Bool => ([(8, (.d (.bool m4)))] : EL)) (fun m4 : Bool => ([] : OL)) (fun m4 h E' O' hmat => ?_) (fun j5 hjj5 h => ?_)
  · refine seqQ_n ?_
    refine AWp.ghost hmat ?_
    refine AWp.ret ?_
    obtain rfl := Option.some.inj h
    exact ⟨.inl rfl, _, _, (Mat.pat [] [(8, (.d (.bool m4)))] [] hB (by rfl) (by rfl) (by rfl)), [(.d (.bool m4))], (Res.tmp (by rfl) (by rfl) Res.nil), rfl, by rfl, by rfl, by rfl⟩
  · rcases Bool.eq_false_or_eq_true (decide (r2.1 < r1.1)) with hg6 | hg6
    · replace h := ite_t hg6 h
      refine AWp.region (OpJs.cons (OpJ.move (ltN hN rfl) (Opd.tmp 9 (.d (.int .u64 r1.1))))
        (OpJs.cons (OpJ.move (ltN hN rfl) (Opd.tmp 11 (.d (.int .u64 r2.1))))
        (OpJs.cons (OpJ.gtr (ltN hN rfl) (Opd.tmp 29 (.d (.int .u64 r1.1))) (Opd.tmp 30 (.d (.int .u64 r2.1))))
        (OpJs.cons (OpJ.val (v' := .d (.bool true)) (by rw [hg6]) (OpJ.move (ltN hN rfl) (Opd.tmp 31 (.d (.bool (decide (r2.1 < r1.1)))))))
        (OpJs.cons (OpJ.skipU (ltN hN rfl) (by rfl))
        (OpJs.cons (OpJ.skipU (ltN hN rfl) (by rfl))
        (OpJs.cons (OpJ.skipU (ltN hN rfl) (by rfl))
        (OpJs.cons (OpJ.skipU (ltN hN rfl) (by rfl))
        (OpJs.cons (OpJ.skipV (ltN hN rfl) (by rfl))
        (OpJs.cons (OpJ.skipV (ltN hN rfl) (by rfl))
        (OpJs.cons (OpJ.skipV (ltN hN rfl) (by rfl))
        (OpJs.cons (OpJ.skipU (ltN hN rfl) (by rfl))
        (OpJs.cons (OpJ.pickT (ltN hN rfl) (Opd.tmp 32 (.d (.bool true))) (Opd.bool true))
        (OpJs.cons (OpJ.assign (ltN hN rfl) (Opd.tmp 41 (.d (.bool true))))
        (OpJs.nil))))))))))))))) (by rfl) (by rfl) ?_
      exact hjj5 _ h _ _ (Mat.trans (Mat.pat [] [(8, (.d (.bool true)))] [] hB (by rfl) (by rfl) (by rfl)) (Mat.pat [] ((fun m4 : Bool => ([(8, (.d (.bool m4)))] : EL)) true) ((fun m4 : Bool => ([] : OL)) true) hB (by rfl) (by rfl) (by rfl)))
    · replace h := ite_f hg6 h
      refine AWp.region (OpJs.cons (OpJ.move (ltN hN rfl) (Opd.tmp 9 (.d (.int .u64 r1.1))))
        (OpJs.cons (OpJ.move (ltN hN rfl) (Opd.tmp 11 (.d (.int .u64 r2.1))))
        (OpJs.cons (OpJ.gtr (ltN hN rfl) (Opd.tmp 29 (.d (.int .u64 r1.1))) (Opd.tmp 30 (.d (.int .u64 r2.1))))
        (OpJs.cons (OpJ.val (v' := .d (.bool false)) (by rw [hg6]) (OpJ.move (ltN hN rfl) (Opd.tmp 31 (.d (.bool (decide (r2.1 < r1.1)))))))
        (OpJs.cons (OpJ.guarded (by rfl) (OpJ.move (ltN hN rfl) (Opd.tmp 9 (.d (.int .u64 r1.1)))))
        (OpJs.cons (OpJ.guarded (by rfl) (OpJ.move (ltN hN rfl) (Opd.tmp 11 (.d (.int .u64 r2.1)))))
        (OpJs.cons (OpJ.guarded (by rfl) (OpJ.eqlI (ltN hN rfl) (Opd.tmp 33 (.d (.int .u64 r1.1))) (Opd.tmp 34 (.d (.int .u64 r2.1)))))
        (OpJs.cons (OpJ.guarded (by rfl) (OpJ.move (ltN hN rfl) (Opd.tmp 35 (.d (.bool (r1.1 == r2.1))))))
        (OpJs.cons (OpJ.opt' (v := (.d (.int .u64 r1.2))) (OpJ.move (ltN hN rfl) (Opd.tmp 10 (.d (.int .u64 r1.2)))) (by rfl) (GuardV.plain _) (ltN hN rfl) (by rfl) (by rfl) (by rfl) (by rfl) (OptL.keep rfl OptL.nil))
        (OpJs.cons (OpJ.opt' (v := (.d (.int .u64 r2.2))) (OpJ.move (ltN hN rfl) (Opd.tmp 12 (.d (.int .u64 r2.2)))) (by rfl) (GuardV.plain _) (ltN hN rfl) (by rfl) (by rfl) (by rfl) (by rfl) (OptL.keep rfl OptL.nil))
        (OpJs.cons (OpJ.opt' (v := (.d (.bool (decide (r2.2 < r1.2))))) (OpJ.gtr (ltN hN rfl) (Opd.tmp 37 (.d (.int .u64 r1.2))) (Opd.tmp 38 (.d (.int .u64 r2.2)))) (by rfl) (GuardV.plain _) (ltN hN rfl) (by rfl) (by rfl) (by rfl) (by rfl) (OptL.opt (OptL.opt OptL.nil)))
        (OpJs.cons (OpJ.guarded (by rfl) (OpJ.pickAnd rfl (ltN hN rfl) (Opd.tmp 36 (.d (.bool (r1.1 == r2.1)))) (Opd.tmp 39 (.opt ((r1.1 == r2.1) == true) (.d (.bool (decide (r2.2 < r1.2))))))))
        (OpJs.cons (OpJ.pickF (ltN hN rfl) (Opd.tmp 32 (.d (.bool false))) (Opd.tmp 40 (.d (.bool ((r1.1 == r2.1) && (decide (r2.2 < r1.2)))))))
        (OpJs.cons (OpJ.assign (ltN hN rfl) (Opd.tmp 41 (.d (.bool ((r1.1 == r2.1) && (decide (r2.2 < r1.2)))))))
        (OpJs.nil))))))))))))))) (by rfl) (by rfl) ?_
      exact hjj5 _ h _ _ (Mat.trans (Mat.pat [] [(8, (.d (.bool ((r1.1 == r2.1) && (decide (r2.2 < r1.2))))))] [] hB (by rfl) (by rfl) (by rfl)) (Mat.pat [] ((fun m4 : Bool => ([(8, (.d (.bool m4)))] : EL)) ((r1.1 == r2.1) && (decide (r2.2 < r1.2)))) ((fun m4 : Bool => ([] : OL)) ((r1.1 == r2.1) && (decide (r2.2 < r1.2)))) hB (by rfl) (by rfl) (by rfl)))

noncomputable def interval_triangle_bounds_L0 (a1 : Int) (a2 : Int) (a3 : Int) (a4 : Int) (r1 : Int × (List (List Int))) (s2 : Int × Int × Int × (List (List Int))) : Option (((Int × Int × (List (List Int)))) ⊕ (Int × Int × Int × (List (List Int)))) :=
  (if (decide (s2.2.2.1 ≤ (w64 (a1 - (w64 (a2 - a3)))))) = true then
  (interval_triangle_tails s2.2.2.2 a1 a2 s2.2.2.1 a3).bind fun r51 =>
  jn (fun m56 : Bool =>
  jn (fun m63 : Int × Int =>
  some (.inr (m63.1, m63.2, (w64 (s2.2.2.1 + (1 : Int))), r51.2.2))) (fun j64 =>
  (if m56 = true then
  jn (fun m67 : Int =>
  j64 (m67, s2.2.2.1)) (fun j68 =>
  (if (decide (s2.1 < (0 : Int))) = true then
  j68 s2.2.2.1
  else
  j68 s2.1))
  else
  j64 (s2.1, s2.2.1)))) (fun j57 =>
  (interval_greater (2000 : Int) r51.1 a4 r1.1).bind fun r70 =>
  (if r70 = true then
  (interval_greater (2000 : Int) r51.2.1 a4 r1.1).bind fun r72 =>
  j57 r72
  else
  j57 false))
  else
  some (.inl (s2.1, s2.2.1, s2.2.2.2)))
noncomputable def interval_triangle_bounds (a0 : (List (List Int))) (a1 : Int) (a2 : Int) (a3 : Int) (a4 : Int) : Option (Int × Int × (List (List Int))) :=
  (interval_triangle_choose a0 a1 a2).bind fun r1 =>
  (loop (interval_triangle_bounds_L0 a1 a2 a3 a4 r1) ((-1 : Int), (-1 : Int), a3, r1.2)).bind fun p49 =>
  some (p49.1, p49.2.1, p49.2.2)
set_option maxHeartbeats 4000000 in
set_option maxRecDepth 100000 in
theorem interval_triangle_bounds_ac (a0 : (List (List Int))) (a1 : Int) (a2 : Int) (a3 : Int) (a4 : Int) (r : Int × Int × (List (List Int))) (h : interval_triangle_bounds a0 a1 a2 a3 a4 = some r) : AC Try.prog 28 [(.ptr 0 0 []), (.d (.int .i64 a1)), (.d (.int .i64 a2)), (.d (.int .i64 a3)), (.d (.int .i64 a4))] [(0, (.box 42 (.d (.arr 61 61 (a0.map e_A61eIi64)))))] (.tup [(.d (.int .i64 r.1)), (.d (.int .i64 r.2.1))]) [(0, some (.box 42 (.d (.arr 61 61 (r.2.2.map e_A61eIi64)))))] := by
  refine AC.of_code2 Try.func28 rfl rfl (Nat.le_of_ble_eq_true (by rfl)) fun B hB hN => ?_
  delta interval_triangle_bounds at h
  refine AWp.seq ?_
  refine AWp.region (OpJs.cons (OpJ.assign (ltN hN rfl) (Opd.int .i64 (0)))
  (OpJs.cons (OpJ.assign (ltN hN rfl) (Opd.int .i64 (0)))
  (OpJs.nil))) (by rfl) (by rfl) ?_
  refine seqQ_n ?_
  refine AWp.ghost (Mat.pat [] [(0, (.ptr 0 0 [])), (1, (.d (.int .i64 a1))), (2, (.d (.int .i64 a2))), (3, (.d (.int .i64 a3))), (4, (.d (.int .i64 a4)))] [(0, some (.box 42 (.d (.arr 61 61 (a0.map e_A61eIi64)))))] hB (by rfl) (by rfl) (by rfl)) ?_
  refine AWp.seq ?_
  refine AWp.region (OpJs.cons (OpJ.assign (ltN hN rfl) (Opd.int .i64 (-1)))
  (OpJs.cons (OpJ.assign (ltN hN rfl) (Opd.int .i64 (-1)))
  (OpJs.nil))) (by rfl) (by rfl) ?_
  refine seqQ_n ?_
  refine AWp.ghost (Mat.pat [] [(0, (.ptr 0 0 [])), (1, (.d (.int .i64 a1))), (2, (.d (.int .i64 a2))), (3, (.d (.int .i64 a3))), (4, (.d (.int .i64 a4))), (12, (.d (.int .i64 (-1 : Int)))), (13, (.d (.int .i64 (-1 : Int))))] [(0, some (.box 42 (.d (.arr 61 61 (a0.map e_A61eIi64)))))] hB (by rfl) (by rfl) (by rfl)) ?_
  refine AWp.seq ?_
  obtain ⟨r1, hr1, h⟩ := bindS h
  refine AWp.region (OpJs.cons (OpJ.move (ltN hN rfl) (Opd.tmp 0 (.ptr 0 0 [])))
  (OpJs.cons (OpJ.move (ltN hN rfl) (Opd.tmp 1 (.d (.int .i64 a1))))
  (OpJs.cons (OpJ.move (ltN hN rfl) (Opd.tmp 2 (.d (.int .i64 a2))))
  (OpJs.cons (OpJ.callFn hB fnOk22 (interval_triangle_choose_ac a0 a1 a2 r1 hr1) [(0, 0)] (by kernel_rfl) (ltN hN rfl) (by kernel_rfl) (OpdL.cons (Opd.tmp 18 (.ptr 0 0 [])) (OpdL.cons (Opd.tmp 19 (.d (.int .i64 a1))) (OpdL.cons (Opd.tmp 20 (.d (.int .i64 a2))) OpdL.nil))))
  (OpJs.cons (OpJ.assign (ltN hN rfl) (Opd.tmp 21 (.d (.int .i64 r1.1))))
  (OpJs.nil)))))) (by rfl) (by rfl) ?_
  refine seqQ_n ?_
  refine AWp.ghost (Mat.pat [] [(0, (.ptr 0 0 [])), (1, (.d (.int .i64 a1))), (2, (.d (.int .i64 a2))), (3, (.d (.int .i64 a3))), (4, (.d (.int .i64 a4))), (12, (.d (.int .i64 (-1 : Int)))), (13, (.d (.int .i64 (-1 : Int)))), (14, (.d (.int .i64 r1.1)))] [(0, some (.box 42 (.d (.arr 61 61 (r1.2.map e_A61eIi64)))))] hB (by rfl) (by rfl) (by rfl)) ?_
  refine AWp.seq ?_
  refine AWp.seq ?_
  refine AWp.region (OpJs.cons (OpJ.move (ltN hN rfl) (Opd.tmp 3 (.d (.int .i64 a3))))
  (OpJs.cons (OpJ.assign (ltN hN rfl) (Opd.tmp 22 (.d (.int .i64 a3))))
  (OpJs.nil))) (by rfl) (by rfl) ?_
  refine seqQ_n ?_
  refine AWp.ghost (Mat.pat [] [(0, (.ptr 0 0 [])), (1, (.d (.int .i64 a1))), (2, (.d (.int .i64 a2))), (3, (.d (.int .i64 a3))), (4, (.d (.int .i64 a4))), (12, (.d (.int .i64 (-1 : Int)))), (13, (.d (.int .i64 (-1 : Int)))), (14, (.d (.int .i64 r1.1))), (15, (.d (.int .i64 a3)))] [(0, some (.box 42 (.d (.arr 61 61 (r1.2.map e_A61eIi64)))))] hB (by rfl) (by rfl) (by rfl)) ?_
  refine AWp.block ?_
  obtain ⟨p49, hx74, h⟩ := bindS h
  refine AWp.ghost (Mat.pat [] ((fun s2 : Int × Int × Int × (List (List Int)) => ([(0, (.ptr 0 0 [])), (1, (.d (.int .i64 a1))), (2, (.d (.int .i64 a2))), (3, (.d (.int .i64 a3))), (4, (.d (.int .i64 a4))), (12, (.d (.int .i64 s2.1))), (13, (.d (.int .i64 s2.2.1))), (14, (.d (.int .i64 r1.1))), (15, (.d (.int .i64 s2.2.2.1)))] : EL)) ((-1 : Int), (-1 : Int), a3, r1.2)) ((fun s2 : Int × Int × Int × (List (List Int)) => ([(0, some (.box 42 (.d (.arr 61 61 (s2.2.2.2.map e_A61eIi64)))))] : OL)) ((-1 : Int), (-1 : Int), a3, r1.2)) hB (by rfl) (by rfl) (by rfl)) ?_
  refine AWp.loopS (interval_triangle_bounds_L0 a1 a2 a3 a4 r1) (fun s2 : Int × Int × Int × (List (List Int)) => ([(0, (.ptr 0 0 [])), (1, (.d (.int .i64 a1))), (2, (.d (.int .i64 a2))), (3, (.d (.int .i64 a3))), (4, (.d (.int .i64 a4))), (12, (.d (.int .i64 s2.1))), (13, (.d (.int .i64 s2.2.1))), (14, (.d (.int .i64 r1.1))), (15, (.d (.int .i64 s2.2.2.1)))] : EL)) (fun s2 : Int × Int × Int × (List (List Int)) => ([(0, some (.box 42 (.d (.arr 61 61 (s2.2.2.2.map e_A61eIi64)))))] : OL)) (fun (p49 : (Int × Int × (List (List Int)))) e E' O' => e = .exit 0 ∧ Mat B E' O' ([(12, (.d (.int .i64 p49.1))), (13, (.d (.int .i64 p49.2.1)))] : EL) ([(0, some (.box 42 (.d (.arr 61 61 (p49.2.2.map e_A61eIi64)))))] : OL)) hx74 (fun s2 y h => ?_) (fun e E' O' hR => ?_)
  · unfold interval_triangle_bounds_L0 at h
    show AWp _ _ _ _ ([(0, (.ptr 0 0 [])), (1, (.d (.int .i64 a1))), (2, (.d (.int .i64 a2))), (3, (.d (.int .i64 a3))), (4, (.d (.int .i64 a4))), (12, (.d (.int .i64 s2.1))), (13, (.d (.int .i64 s2.2.1))), (14, (.d (.int .i64 r1.1))), (15, (.d (.int .i64 s2.2.2.1)))] : EL) ([(0, some (.box 42 (.d (.arr 61 61 (s2.2.2.2.map e_A61eIi64)))))] : OL)
    refine AWp.seq ?_
    refine AWp.seq ?_
    refine AWp.region (OpJs.cons (OpJ.move (ltN hN rfl) (Opd.tmp 15 (.d (.int .i64 s2.2.2.1))))
      (OpJs.cons (OpJ.move (ltN hN rfl) (Opd.tmp 1 (.d (.int .i64 a1))))
      (OpJs.cons (OpJ.move (ltN hN rfl) (Opd.tmp 2 (.d (.int .i64 a2))))
      (OpJs.cons (OpJ.move (ltN hN rfl) (Opd.tmp 3 (.d (.int .i64 a3))))
      (OpJs.cons (OpJ.sub (ltN hN rfl) (Opd.tmp 25 (.d (.int .i64 a2))) (Opd.tmp 26 (.d (.int .i64 a3))))
      (OpJs.cons (OpJ.sub (ltN hN rfl) (Opd.tmp 24 (.d (.int .i64 a1))) (Opd.tmp 27 (.d (.int .i64 (w64 (a2 - a3))))))
      (OpJs.cons (OpJ.leq (ltN hN rfl) (Opd.tmp 23 (.d (.int .i64 s2.2.2.1))) (Opd.tmp 28 (.d (.int .i64 (w64 (a1 - (w64 (a2 - a3))))))))
      (OpJs.nil)))))))) (by rfl) (by rfl) ?_
    refine seqQ_n ?_
    refine AWp.ghost (Mat.pat [] [(0, (.ptr 0 0 [])), (1, (.d (.int .i64 a1))), (2, (.d (.int .i64 a2))), (3, (.d (.int .i64 a3))), (4, (.d (.int .i64 a4))), (12, (.d (.int .i64 s2.1))), (13, (.d (.int .i64 s2.2.1))), (14, (.d (.int .i64 r1.1))), (15, (.d (.int .i64 s2.2.2.1))), (29, (.d (.bool (decide (s2.2.2.1 ≤ (w64 (a1 - (w64 (a2 - a3)))))))))] [(0, some (.box 42 (.d (.arr 61 61 (s2.2.2.2.map e_A61eIi64)))))] hB (by rfl) (by rfl) (by rfl)) ?_
    refine AWp.cond (b := (decide (s2.2.2.1 ≤ (w64 (a1 - (w64 (a2 - a3))))))) (by rfl) (fun hg50 => ?_) (fun hg50 => ?_)
    · replace h := ite_t hg50 h
      refine AWp.skip ?_
      refine seqQ_n ?_
      refine AWp.seq ?_
      refine AWp.block ?_
      refine AWp.seq ?_
      obtain ⟨r51, hr51, h⟩ := bindS h
      refine AWp.region (OpJs.cons (OpJ.move (ltN hN rfl) (Opd.tmp 0 (.ptr 0 0 [])))
        (OpJs.cons (OpJ.move (ltN hN rfl) (Opd.tmp 1 (.d (.int .i64 a1))))
        (OpJs.cons (OpJ.move (ltN hN rfl) (Opd.tmp 2 (.d (.int .i64 a2))))
        (OpJs.cons (OpJ.move (ltN hN rfl) (Opd.tmp 15 (.d (.int .i64 s2.2.2.1))))
        (OpJs.cons (OpJ.move (ltN hN rfl) (Opd.tmp 3 (.d (.int .i64 a3))))
        (OpJs.cons (OpJ.callFn hB fnOk25 (interval_triangle_tails_ac s2.2.2.2 a1 a2 s2.2.2.1 a3 r51 hr51) [(0, 0)] (by kernel_rfl) (ltN hN rfl) (by kernel_rfl) (OpdL.cons (Opd.tmp 33 (.ptr 0 0 [])) (OpdL.cons (Opd.tmp 34 (.d (.int .i64 a1))) (OpdL.cons (Opd.tmp 35 (.d (.int .i64 a2))) (OpdL.cons (Opd.tmp 36 (.d (.int .i64 s2.2.2.1))) (OpdL.cons (Opd.tmp 37 (.d (.int .i64 a3))) OpdL.nil))))))
        (OpJs.cons (OpJ.move (ltN hN rfl) (Opd.tmp 38 (.tup [(.d (.int .i64 r51.1)), (.d (.int .i64 r51.2.1))])))
        (OpJs.cons (OpJ.extract (v := (.d (.int .i64 r51.1))) (by rfl) rfl (ltN hN rfl) (Opd.tmp 32 (.tup [(.d (.int .i64 r51.1)), (.d (.int .i64 r51.2.1))])))
        (OpJs.cons (OpJ.extract (v := (.d (.int .i64 r51.2.1))) (by rfl) rfl (ltN hN rfl) (Opd.tmp 32 (.tup [(.d (.int .i64 r51.1)), (.d (.int .i64 r51.2.1))])))
        (OpJs.cons (OpJ.assign (ltN hN rfl) (Opd.tmp 39 (.d (.int .i64 r51.1))))
        (OpJs.cons (OpJ.assign (ltN hN rfl) (Opd.tmp 40 (.d (.int .i64 r51.2.1))))
        (OpJs.nil)))))))))))) (by rfl) (by rfl) ?_
      refine seqQ_n ?_
      refine AWp.ghost (Mat.pat [] [(0, (.ptr 0 0 [])), (1, (.d (.int .i64 a1))), (2, (.d (.int .i64 a2))), (3, (.d (.int .i64 a3))), (4, (.d (.int .i64 a4))), (12, (.d (.int .i64 s2.1))), (13, (.d (.int .i64 s2.2.1))), (14, (.d (.int .i64 r1.1))), (15, (.d (.int .i64 s2.2.2.1))), (16, (.d (.int .i64 r51.1))), (17, (.d (.int .i64 r51.2.1)))] [(0, some (.box 42 (.d (.arr 61 61 (r51.2.2.map e_A61eIi64)))))] hB (by rfl) (by rfl) (by rfl)) ?_
      refine AWp.seq ?_
      refine AWp.cut h (fun m56 : Bool => ([(0, (.ptr 0 0 [])), (1, (.d (.int .i64 a1))), (2, (.d (.int .i64 a2))), (3, (.d (.int .i64 a3))), (4, (.d (.int .i64 a4))), (12, (.d (.int .i64 s2.1))), (13, (.d (.int .i64 s2.2.1))), (14, (.d (.int .i64 r1.1))), (15, (.d (.int .i64 s2.2.2.1))), (50, (.d (.bool m56)))] : EL)) (fun m56 : Bool => ([(0, some (.box 42 (.d (.arr 61 61 (r51.2.2.map e_A61eIi64)))))] : OL)) (fun m56 h E' O' hmat => ?_) (fun j57 hjj57 h => ?_)
      · refine seqQ_n ?_
        refine AWp.ghost hmat ?_
        refine AWp.cut h (fun m63 : Int × Int => ([(0, (.ptr 0 0 [])), (1, (.d (.int .i64 a1))), (2, (.d (.int .i64 a2))), (3, (.d (.int .i64 a3))), (4, (.d (.int .i64 a4))), (12, (.d (.int .i64 m63.1))), (13, (.d (.int .i64 m63.2))), (14, (.d (.int .i64 r1.1))), (15, (.d (.int .i64 s2.2.2.1)))] : EL)) (fun m63 : Int × Int => ([(0, some (.box 42 (.d (.arr 61 61 (r51.2.2.map e_A61eIi64)))))] : OL)) (fun m63 h E' O' hmat => ?_) (fun j64 hjj64 h => ?_)
        · refine blkQ_n ?_
          refine seqQ_n ?_
          refine AWp.ghost hmat ?_
          refine AWp.region (OpJs.cons (OpJ.move (ltN hN rfl) (Opd.tmp 15 (.d (.int .i64 s2.2.2.1))))
            (OpJs.cons (OpJ.add (ltN hN rfl) (Opd.tmp 30 (.d (.int .i64 s2.2.2.1))) (Opd.int .i64 (1)))
            (OpJs.cons (OpJ.assign (ltN hN rfl) (Opd.tmp 31 (.d (.int .i64 (w64 (s2.2.2.1 + (1 : Int)))))))
            (OpJs.nil)))) (by rfl) (by rfl) ?_
          obtain rfl := Option.some.inj h
          exact ⟨rfl, (Mat.trans (Mat.pat [] [(0, (.ptr 0 0 [])), (1, (.d (.int .i64 a1))), (2, (.d (.int .i64 a2))), (3, (.d (.int .i64 a3))), (4, (.d (.int .i64 a4))), (12, (.d (.int .i64 m63.1))), (13, (.d (.int .i64 m63.2))), (14, (.d (.int .i64 r1.1))), (15, (.d (.int .i64 (w64 (s2.2.2.1 + (1 : Int))))))] [(0, some (.box 42 (.d (.arr 61 61 (r51.2.2.map e_A61eIi64)))))] hB (by rfl) (by rfl) (by rfl)) (Mat.pat [] ((fun s2 : Int × Int × Int × (List (List Int)) => ([(0, (.ptr 0 0 [])), (1, (.d (.int .i64 a1))), (2, (.d (.int .i64 a2))), (3, (.d (.int .i64 a3))), (4, (.d (.int .i64 a4))), (12, (.d (.int .i64 s2.1))), (13, (.d (.int .i64 s2.2.1))), (14, (.d (.int .i64 r1.1))), (15, (.d (.int .i64 s2.2.2.1)))] : EL)) (m63.1, m63.2, (w64 (s2.2.2.1 + (1 : Int))), r51.2.2)) ((fun s2 : Int × Int × Int × (List (List Int)) => ([(0, some (.box 42 (.d (.arr 61 61 (s2.2.2.2.map e_A61eIi64)))))] : OL)) (m63.1, m63.2, (w64 (s2.2.2.1 + (1 : Int))), r51.2.2)) hB (by rfl) (by rfl) (by rfl)))⟩
        · refine AWp.cond (b := m56) (by rfl) (fun hg65 => ?_) (fun hg65 => ?_)
          · replace h := ite_t hg65 h
            refine AWp.seq ?_
            refine AWp.seq ?_
            refine AWp.region (OpJs.cons (OpJ.move (ltN hN rfl) (Opd.tmp 12 (.d (.int .i64 s2.1))))
              (OpJs.cons (OpJ.lss (ltN hN rfl) (Opd.tmp 51 (.d (.int .i64 s2.1))) (Opd.int .i64 (0)))
              (OpJs.nil))) (by rfl) (by rfl) ?_
            refine seqQ_n ?_
            refine AWp.ghost (Mat.pat [] [(0, (.ptr 0 0 [])), (1, (.d (.int .i64 a1))), (2, (.d (.int .i64 a2))), (3, (.d (.int .i64 a3))), (4, (.d (.int .i64 a4))), (12, (.d (.int .i64 s2.1))), (14, (.d (.int .i64 r1.1))), (15, (.d (.int .i64 s2.2.2.1))), (52, (.d (.bool (decide (s2.1 < (0 : Int))))))] [(0, some (.box 42 (.d (.arr 61 61 (r51.2.2.map e_A61eIi64)))))] hB (by rfl) (by rfl) (by rfl)) ?_
            refine AWp.cut h (fun m67 : Int => ([(0, (.ptr 0 0 [])), (1, (.d (.int .i64 a1))), (2, (.d (.int .i64 a2))), (3, (.d (.int .i64 a3))), (4, (.d (.int .i64 a4))), (12, (.d (.int .i64 m67))), (14, (.d (.int .i64 r1.1))), (15, (.d (.int .i64 s2.2.2.1)))] : EL)) (fun m67 : Int => ([(0, some (.box 42 (.d (.arr 61 61 (r51.2.2.map e_A61eIi64)))))] : OL)) (fun m67 h E' O' hmat => ?_) (fun j68 hjj68 h => ?_)
            · refine seqQ_n ?_
              refine AWp.ghost hmat ?_
              refine AWp.region (OpJs.cons (OpJ.move (ltN hN rfl) (Opd.tmp 15 (.d (.int .i64 s2.2.2.1))))
                (OpJs.cons (OpJ.assign (ltN hN rfl) (Opd.tmp 54 (.d (.int .i64 s2.2.2.1))))
                (OpJs.nil))) (by rfl) (by rfl) ?_
              exact hjj64 _ h _ _ (Mat.trans (Mat.pat [] [(0, (.ptr 0 0 [])), (1, (.d (.int .i64 a1))), (2, (.d (.int .i64 a2))), (3, (.d (.int .i64 a3))), (4, (.d (.int .i64 a4))), (12, (.d (.int .i64 m67))), (13, (.d (.int .i64 s2.2.2.1))), (14, (.d (.int .i64 r1.1))), (15, (.d (.int .i64 s2.2.2.1)))] [(0, some (.box 42 (.d (.arr 61 61 (r51.2.2.map e_A61eIi64)))))] hB (by rfl) (by rfl) (by rfl)) (Mat.pat [] ((fun m63 : Int × Int => ([(0, (.ptr 0 0 [])), (1, (.d (.int .i64 a1))), (2, (.d (.int .i64 a2))), (3, (.d (.int .i64 a3))), (4, (.d (.int .i64 a4))), (12, (.d (.int .i64 m63.1))), (13, (.d (.int .i64 m63.2))), (14, (.d (.int .i64 r1.1))), (15, (.d (.int .i64 s2.2.2.1)))] : EL)) (m67, s2.2.2.1)) ((fun m63 : Int × Int => ([(0, some (.box 42 (.d (.arr 61 61 (r51.2.2.map e_A61eIi64)))))] : OL)) (m67, s2.2.2.1)) hB (by rfl) (by rfl) (by rfl)))
            · refine AWp.cond (b := (decide (s2.1 < (0 : Int)))) (by rfl) (fun hg69 => ?_) (fun hg69 => ?_)
              · replace h := ite_t hg69 h
                refine AWp.region (OpJs.cons (OpJ.move (ltN hN rfl) (Opd.tmp 15 (.d (.int .i64 s2.2.2.1))))
                  (OpJs.cons (OpJ.assign (ltN hN rfl) (Opd.tmp 53 (.d (.int .i64 s2.2.2.1))))
                  (OpJs.nil))) (by rfl) (by rfl) ?_
                exact hjj68 _ h _ _ (Mat.trans (Mat.pat [] [(0, (.ptr 0 0 [])), (1, (.d (.int .i64 a1))), (2, (.d (.int .i64 a2))), (3, (.d (.int .i64 a3))), (4, (.d (.int .i64 a4))), (12, (.d (.int .i64 s2.2.2.1))), (14, (.d (.int .i64 r1.1))), (15, (.d (.int .i64 s2.2.2.1)))] [(0, some (.box 42 (.d (.arr 61 61 (r51.2.2.map e_A61eIi64)))))] hB (by rfl) (by rfl) (by rfl)) (Mat.pat [] ((fun m67 : Int => ([(0, (.ptr 0 0 [])), (1, (.d (.int .i64 a1))), (2, (.d (.int .i64 a2))), (3, (.d (.int .i64 a3))), (4, (.d (.int .i64 a4))), (12, (.d (.int .i64 m67))), (14, (.d (.int .i64 r1.1))), (15, (.d (.int .i64 s2.2.2.1)))] : EL)) s2.2.2.1) ((fun m67 : Int => ([(0, some (.box 42 (.d (.arr 61 61 (r51.2.2.map e_A61eIi64)))))] : OL)) s2.2.2.1) hB (by rfl) (by rfl) (by rfl)))
              · replace h := ite_f hg69 h
                refine AWp.skip ?_
                exact hjj68 _ h _ _ (Mat.pat [] ((fun m67 : Int => ([(0, (.ptr 0 0 [])), (1, (.d (.int .i64 a1))), (2, (.d (.int .i64 a2))), (3, (.d (.int .i64 a3))), (4, (.d (.int .i64 a4))), (12, (.d (.int .i64 m67))), (14, (.d (.int .i64 r1.1))), (15, (.d (.int .i64 s2.2.2.1)))] : EL)) s2.1) ((fun m67 : Int => ([(0, some (.box 42 (.d (.arr 61 61 (r51.2.2.map e_A61eIi64)))))] : OL)) s2.1) hB (by rfl) (by rfl) (by rfl))
          · replace h := ite_f hg65 h
            refine AWp.skip ?_
            exact hjj64 _ h _ _ (Mat.pat [] ((fun m63 : Int × Int => ([(0, (.ptr 0 0 [])), (1, (.d (.int .i64 a1))), (2, (.d (.int .i64 a2))), (3, (.d (.int .i64 a3))), (4, (.d (.int .i64 a4))), (12, (.d (.int .i64 m63.1))), (13, (.d (.int .i64 m63.2))), (14, (.d (.int .i64 r1.1))), (15, (.d (.int .i64 s2.2.2.1)))] : EL)) (s2.1, s2.2.1)) ((fun m63 : Int × Int => ([(0, some (.box 42 (.d (.arr 61 61 (r51.2.2.map e_A61eIi64)))))] : OL)) (s2.1, s2.2.1)) hB (by rfl) (by rfl) (by rfl))
      · obtain ⟨r70, hr70, h⟩ := bindS h
        rcases Bool.eq_false_or_eq_true r70 with hg71 | hg71
        · replace h := ite_t hg71 h
          obtain ⟨r72, hr72, h⟩ := bindS h
          refine AWp.region (OpJs.cons (OpJ.move (ltN hN rfl) (Opd.tmp 16 (.d (.int .i64 r51.1))))
            (OpJs.cons (OpJ.move (ltN hN rfl) (Opd.tmp 4 (.d (.int .i64 a4))))
            (OpJs.cons (OpJ.move (ltN hN rfl) (Opd.tmp 14 (.d (.int .i64 r1.1))))
            (OpJs.cons (OpJ.callFn hB fnOk31 (interval_greater_ac (2000 : Int) r51.1 a4 r1.1 r70 hr70) [] (by kernel_rfl) (ltN hN rfl) (by kernel_rfl) (OpdL.cons (Opd.int .i64 (2000)) (OpdL.cons (Opd.tmp 41 (.d (.int .i64 r51.1))) (OpdL.cons (Opd.tmp 42 (.d (.int .i64 a4))) (OpdL.cons (Opd.tmp 43 (.d (.int .i64 r1.1))) OpdL.nil)))))
            (OpJs.cons (OpJ.val (v' := .d (.bool true)) (by rw [hg71]) (OpJ.move (ltN hN rfl) (Opd.tmp 44 (.d (.bool r70)))))
            (OpJs.cons (OpJ.guarded (by rfl) (OpJ.move (ltN hN rfl) (Opd.tmp 17 (.d (.int .i64 r51.2.1)))))
            (OpJs.cons (OpJ.guarded (by rfl) (OpJ.move (ltN hN rfl) (Opd.tmp 4 (.d (.int .i64 a4)))))
            (OpJs.cons (OpJ.guarded (by rfl) (OpJ.move (ltN hN rfl) (Opd.tmp 14 (.d (.int .i64 r1.1)))))
            (OpJs.cons (OpJ.guarded (by rfl) (OpJ.callFn hB fnOk31 (interval_greater_ac (2000 : Int) r51.2.1 a4 r1.1 r72 hr72) [] (by kernel_rfl) (ltN hN rfl) (by kernel_rfl) (OpdL.cons (Opd.int .i64 (2000)) (OpdL.cons (Opd.tmp 46 (.d (.int .i64 r51.2.1))) (OpdL.cons (Opd.tmp 47 (.d (.int .i64 a4))) (OpdL.cons (Opd.tmp 48 (.d (.int .i64 r1.1))) OpdL.nil))))))
            (OpJs.cons (OpJ.pickT (ltN hN rfl) (Opd.tmp 45 (.d (.bool true))) (Opd.tmp 49 (.d (.bool r72))))
            (OpJs.nil))))))))))) (by rfl) (by rfl) ?_
          exact hjj57 _ h _ _ (Mat.trans (Mat.pat [] [(0, (.ptr 0 0 [])), (1, (.d (.int .i64 a1))), (2, (.d (.int .i64 a2))), (3, (.d (.int .i64 a3))), (4, (.d (.int .i64 a4))), (12, (.d (.int .i64 s2.1))), (13, (.d (.int .i64 s2.2.1))), (14, (.d (.int .i64 r1.1))), (15, (.d (.int .i64 s2.2.2.1))), (50, (.d (.bool r72)))] [(0, some (.box 42 (.d (.arr 61 61 (r51.2.2.map e_A61eIi64)))))] hB (by rfl) (by rfl) (by rfl)) (Mat.pat [] ((fun m56 : Bool => ([(0, (.ptr 0 0 [])), (1, (.d (.int .i64 a1))), (2, (.d (.int .i64 a2))), (3, (.d (.int .i64 a3))), (4, (.d (.int .i64 a4))), (12, (.d (.int .i64 s2.1))), (13, (.d (.int .i64 s2.2.1))), (14, (.d (.int .i64 r1.1))), (15, (.d (.int .i64 s2.2.2.1))), (50, (.d (.bool m56)))] : EL)) r72) ((fun m56 : Bool => ([(0, some (.box 42 (.d (.arr 61 61 (r51.2.2.map e_A61eIi64)))))] : OL)) r72) hB (by rfl) (by rfl) (by rfl)))
        · replace h := ite_f hg71 h
          refine AWp.region (OpJs.cons (OpJ.move (ltN hN rfl) (Opd.tmp 16 (.d (.int .i64 r51.1))))
            (OpJs.cons (OpJ.move (ltN hN rfl) (Opd.tmp 4 (.d (.int .i64 a4))))
            (OpJs.cons (OpJ.move (ltN hN rfl) (Opd.tmp 14 (.d (.int .i64 r1.1))))
            (OpJs.cons (OpJ.callFn hB fnOk31 (interval_greater_ac (2000 : Int) r51.1 a4 r1.1 r70 hr70) [] (by kernel_rfl) (ltN hN rfl) (by kernel_rfl) (OpdL.cons (Opd.int .i64 (2000)) (OpdL.cons (Opd.tmp 41 (.d (.int .i64 r51.1))) (OpdL.cons (Opd.tmp 42 (.d (.int .i64 a4))) (OpdL.cons (Opd.tmp 43 (.d (.int .i64 r1.1))) OpdL.nil)))))
            (OpJs.cons (OpJ.val (v' := .d (.bool false)) (by rw [hg71]) (OpJ.move (ltN hN rfl) (Opd.tmp 44 (.d (.bool r70)))))
            (OpJs.cons (OpJ.skipU (ltN hN rfl) (by rfl))
            (OpJs.cons (OpJ.skipU (ltN hN rfl) (by rfl))
            (OpJs.cons (OpJ.skipU (ltN hN rfl) (by rfl))
            (OpJs.cons (OpJ.skipU (ltN hN rfl) (by rfl))
            (OpJs.cons (OpJ.pickF (ltN hN rfl) (Opd.tmp 45 (.d (.bool false))) (Opd.bool false))
            (OpJs.nil))))))))))) (by rfl) (by rfl) ?_
          exact hjj57 _ h _ _ (Mat.trans (Mat.pat [] [(0, (.ptr 0 0 [])), (1, (.d (.int .i64 a1))), (2, (.d (.int .i64 a2))), (3, (.d (.int .i64 a3))), (4, (.d (.int .i64 a4))), (12, (.d (.int .i64 s2.1))), (13, (.d (.int .i64 s2.2.1))), (14, (.d (.int .i64 r1.1))), (15, (.d (.int .i64 s2.2.2.1))), (50, (.d (.bool false)))] [(0, some (.box 42 (.d (.arr 61 61 (r51.2.2.map e_A61eIi64)))))] hB (by rfl) (by rfl) (by rfl)) (Mat.pat [] ((fun m56 : Bool => ([(0, (.ptr 0 0 [])), (1, (.d (.int .i64 a1))), (2, (.d (.int .i64 a2))), (3, (.d (.int .i64 a3))), (4, (.d (.int .i64 a4))), (12, (.d (.int .i64 s2.1))), (13, (.d (.int .i64 s2.2.1))), (14, (.d (.int .i64 r1.1))), (15, (.d (.int .i64 s2.2.2.1))), (50, (.d (.bool m56)))] : EL)) false) ((fun m56 : Bool => ([(0, some (.box 42 (.d (.arr 61 61 (r51.2.2.map e_A61eIi64)))))] : OL)) false) hB (by rfl) (by rfl) (by rfl)))
    · replace h := ite_f hg50 h
      refine AWp.exit ?_
      refine seqQ_e ?_
      obtain rfl := Option.some.inj h
      exact ⟨(fun hc => by cases hc), rfl, (Mat.pat [] ((fun p49 : Int × Int × (List (List Int)) => ([(12, (.d (.int .i64 p49.1))), (13, (.d (.int .i64 p49.2.1)))] : EL)) (s2.1, s2.2.1, s2.2.2.2)) ((fun p49 : Int × Int × (List (List Int)) => ([(0, some (.box 42 (.d (.arr 61 61 (p49.2.2.map e_A61eIi64)))))] : OL)) (s2.1, s2.2.1, s2.2.2.2)) hB (by rfl) (by rfl) (by rfl))⟩
  · obtain ⟨rfl, hmat⟩ := hR
    refine blkQ_hit ?_
    refine seqQ_n ?_
    refine AWp.ghost hmat ?_
    refine AWp.seq ?_
    refine AWp.region (OpJs.cons (OpJ.move (ltN hN rfl) (Opd.tmp 12 (.d (.int .i64 p49.1))))
      (OpJs.cons (OpJ.move (ltN hN rfl) (Opd.tmp 13 (.d (.int .i64 p49.2.1))))
      (OpJs.cons (OpJ.assign (ltN hN rfl) (Opd.tmp 55 (.d (.int .i64 p49.1))))
      (OpJs.cons (OpJ.assign (ltN hN rfl) (Opd.tmp 56 (.d (.int .i64 p49.2.1))))
      (OpJs.nil))))) (by rfl) (by rfl) ?_
    refine seqQ_n ?_
    refine AWp.ghost (Mat.pat [] [(10, (.d (.int .i64 p49.1))), (11, (.d (.int .i64 p49.2.1)))] [(0, some (.box 42 (.d (.arr 61 61 (p49.2.2.map e_A61eIi64)))))] hB (by rfl) (by rfl) (by rfl)) ?_
    refine AWp.ret ?_
    obtain rfl := Option.some.inj h
    exact ⟨.inl rfl, _, _, (Mat.pat [] [(10, (.d (.int .i64 p49.1))), (11, (.d (.int .i64 p49.2.1)))] [(0, some (.box 42 (.d (.arr 61 61 (p49.2.2.map e_A61eIi64)))))] hB (by rfl) (by rfl) (by rfl)), [(.d (.int .i64 p49.1)), (.d (.int .i64 p49.2.1))], (Res.tmp (by rfl) (by rfl) (Res.tmp (by rfl) (by rfl) Res.nil)), rfl, by rfl, by rfl, by rfl⟩

noncomputable def interval_Bounds (a0 : Int) (a1 : Int) (a2 : Int) (a3 : Int) : Option (Int × Int × Int) :=
  (interval_valid a0 a1 (0 : Int) a3).bind fun r1 =>
  (if (((!r1) || (decide (a2 < (0 : Int)))) || (decide (a1 < a2))) = true then
  some ((0 : Int), (0 : Int), (1 : Int))
  else
  (interval_pascal).bind fun r3 =>
  (interval_triangle_bounds r3 a0 a1 a2 a3).bind fun r4 =>
  some (r4.1, r4.2.1, (0 : Int)))
set_option maxHeartbeats 4000000 in
set_option maxRecDepth 100000 in
theorem interval_Bounds_ac (a0 : Int) (a1 : Int) (a2 : Int) (a3 : Int) (r : Int × Int × Int) (h : interval_Bounds a0 a1 a2 a3 = some r) : AC Try.prog 17 [(.d (.int .i64 a0)), (.d (.int .i64 a1)), (.d (.int .i64 a2)), (.d (.int .i64 a3))] [] (.tup [(.d (.int .i64 r.1)), (.d (.int .i64 r.2.1)), (.d (.int .i64 r.2.2))]) [] := by
  refine AC.of_code2 Try.func17 rfl rfl (Nat.le_of_ble_eq_true (by rfl)) fun B hB hN => ?_
  delta interval_Bounds at h
  refine AWp.seq ?_
  refine AWp.region (OpJs.cons (OpJ.assign (ltN hN rfl) (Opd.int .i64 (0)))
  (OpJs.cons (OpJ.assign (ltN hN rfl) (Opd.int .i64 (0)))
  (OpJs.cons (OpJ.assign (ltN hN rfl) (Opd.int .i64 (0)))
  (OpJs.nil)))) (by rfl) (by rfl) ?_
  refine seqQ_n ?_
  refine AWp.ghost (Mat.pat [] [(0, (.d (.int .i64 a0))), (1, (.d (.int .i64 a1))), (2, (.d (.int .i64 a2))), (3, (.d (.int .i64 a3)))] [] hB (by rfl) (by rfl) (by rfl)) ?_
  refine AWp.seq ?_
  refine AWp.seq ?_
  obtain ⟨r1, hr1, h⟩ := bindS h
  refine AWp.region (OpJs.cons (OpJ.move (ltN hN rfl) (Opd.tmp 0 (.d (.int .i64 a0))))
  (OpJs.cons (OpJ.move (ltN hN rfl) (Opd.tmp 1 (.d (.int .i64 a1))))
  (OpJs.cons (OpJ.move (ltN hN rfl) (Opd.tmp 3 (.d (.int .i64 a3))))
  (OpJs.cons (OpJ.callFn hB fnOk24 (interval_valid_ac a0 a1 (0 : Int) a3 r1 hr1) [] (by kernel_rfl) (ltN hN rfl) (by kernel_rfl) (OpdL.cons (Opd.tmp 13 (.d (.int .i64 a0))) (OpdL.cons (Opd.tmp 14 (.d (.int .i64 a1))) (OpdL.cons (Opd.int .i64 (0)) (OpdL.cons (Opd.tmp 15 (.d (.int .i64 a3))) OpdL.nil)))))
  (OpJs.cons (OpJ.not (ltN hN rfl) (Opd.tmp 16 (.d (.bool r1))))
  (OpJs.cons (OpJ.move (ltN hN rfl) (Opd.tmp 17 (.d (.bool (!r1)))))
  (OpJs.cons (OpJ.opt' (v := (.d (.int .i64 a2))) (OpJ.move (ltN hN rfl) (Opd.tmp 2 (.d (.int .i64 a2)))) (by rfl) (GuardV.plain _) (ltN hN rfl) (by rfl) (by rfl) (by rfl) (by rfl) (OptL.keep rfl OptL.nil))
  (OpJs.cons (OpJ.opt' (v := (.d (.bool (decide (a2 < (0 : Int)))))) (OpJ.lss (ltN hN rfl) (Opd.tmp 19 (.d (.int .i64 a2))) (Opd.int .i64 (0))) (by rfl) (GuardV.plain _) (ltN hN rfl) (by rfl) (by rfl) (by rfl) (by rfl) (OptL.opt OptL.nil))
  (OpJs.cons (OpJ.pickOr rfl (ltN hN rfl) (Opd.tmp 18 (.d (.bool (!r1)))) (Opd.tmp 20 (.opt ((!r1) == false) (.d (.bool (decide (a2 < (0 : Int))))))))
  (OpJs.cons (OpJ.move (ltN hN rfl) (Opd.tmp 21 (.d (.bool ((!r1) || (decide (a2 < (0 : Int))))))))
  (OpJs.cons (OpJ.opt' (v := (.d (.int .i64 a2))) (OpJ.move (ltN hN rfl) (Opd.tmp 2 (.d (.int .i64 a2)))) (by rfl) (GuardV.plain _) (ltN hN rfl) (by rfl) (by rfl) (by rfl) (by rfl) (OptL.keep rfl OptL.nil))
  (OpJs.cons (OpJ.opt' (v := (.d (.int .i64 a1))) (OpJ.move (ltN hN rfl) (Opd.tmp 1 (.d (.int .i64 a1)))) (by rfl) (GuardV.plain _) (ltN hN rfl) (by rfl) (by rfl) (by rfl) (by rfl) (OptL.keep rfl OptL.nil))
  (OpJs.cons (OpJ.opt' (v := (.d (.bool (decide (a1 < a2))))) (OpJ.gtr (ltN hN rfl) (Opd.tmp 23 (.d (.int .i64 a2))) (Opd.tmp 24 (.d (.int .i64 a1)))) (by rfl) (GuardV.plain _) (ltN hN rfl) (by rfl) (by rfl) (by rfl) (by rfl) (OptL.opt (OptL.opt OptL.nil)))
  (OpJs.cons (OpJ.pickOr rfl (ltN hN rfl) (Opd.tmp 22 (.d (.bool ((!r1) || (decide (a2 < (0 : Int))))))) (Opd.tmp 25 (.opt (((!r1) || (decide (a2 < (0 : Int)))) == false) (.d (.bool (decide (a1 < a2)))))))
  (OpJs.nil))))))))))))))) (by rfl) (by rfl) ?_
  refine seqQ_n ?_
  refine AWp.ghost (Mat.pat [] [(0, (.d (.int .i64 a0))), (1, (.d (.int .i64 a1))), (2, (.d (.int .i64 a2))), (3, (.d (.int .i64 a3))), (26, (.d (.bool (((!r1) || (decide (a2 < (0 : Int)))) || (decide (a1 < a2))))))] [] hB (by rfl) (by rfl) (by rfl)) ?_
  refine AWp.cond (b := (((!r1) || (decide (a2 < (0 : Int)))) || (decide (a1 < a2)))) (by rfl) (fun hg2 => ?_) (fun hg2 => ?_)
  · replace h := ite_t hg2 h
    refine AWp.seq ?_
    refine AWp.region (OpJs.cons (OpJ.assign (ltN hN rfl) (Opd.int .i64 (0)))
      (OpJs.cons (OpJ.assign (ltN hN rfl) (Opd.int .i64 (0)))
      (OpJs.cons (OpJ.assign (ltN hN rfl) (Opd.int .i64 (1)))
      (OpJs.nil)))) (by rfl) (by rfl) ?_
    refine seqQ_n ?_
    refine AWp.ghost (Mat.pat [] [(8, (.d (.int .i64 (0 : Int)))), (9, (.d (.int .i64 (0 : Int)))), (10, (.d (.int .i64 (1 : Int))))] [] hB (by rfl) (by rfl) (by rfl)) ?_
    refine AWp.ret ?_
    refine seqQ_r ?_
    obtain rfl := Option.some.inj h
    exact ⟨.inl rfl, _, _, (Mat.pat [] [(8, (.d (.int .i64 (0 : Int)))), (9, (.d (.int .i64 (0 : Int)))), (10, (.d (.int .i64 (1 : Int))))] [] hB (by rfl) (by rfl) (by rfl)), [(.d (.int .i64 (0 : Int))), (.d (.int .i64 (0 : Int))), (.d (.int .i64 (1 : Int)))], (Res.tmp (by rfl) (by rfl) (Res.tmp (by rfl) (by rfl) (Res.tmp (by rfl) (by rfl) Res.nil))), rfl, by rfl, by rfl, by rfl⟩
  · replace h := ite_f hg2 h
    refine AWp.skip ?_
    refine seqQ_n ?_
    refine AWp.seq ?_
    obtain ⟨r3, hr3, h⟩ := bindS h
    obtain ⟨r4, hr4, h⟩ := bindS h
    refine AWp.region (OpJs.cons (OpJ.callFn hB fnOk21 (interval_pascal_ac  r3 hr3) [(1001, 100280)] (by kernel_rfl) (ltN hN rfl) (by kernel_rfl) OpdL.nil)
      (OpJs.cons (OpJ.move (ltN hN rfl) (Opd.tmp 0 (.d (.int .i64 a0))))
      (OpJs.cons (OpJ.move (ltN hN rfl) (Opd.tmp 1 (.d (.int .i64 a1))))
      (OpJs.cons (OpJ.move (ltN hN rfl) (Opd.tmp 2 (.d (.int .i64 a2))))
      (OpJs.cons (OpJ.move (ltN hN rfl) (Opd.tmp 3 (.d (.int .i64 a3))))
      (OpJs.cons (OpJ.callFn hB fnOk28 (interval_triangle_bounds_ac r3 a0 a1 a2 a3 r4 hr4) [(0, 100280)] (by kernel_rfl) (ltN hN rfl) (by kernel_rfl) (OpdL.cons (Opd.tmp 28 (.ptr 100280 0 [])) (OpdL.cons (Opd.tmp 29 (.d (.int .i64 a0))) (OpdL.cons (Opd.tmp 30 (.d (.int .i64 a1))) (OpdL.cons (Opd.tmp 31 (.d (.int .i64 a2))) (OpdL.cons (Opd.tmp 32 (.d (.int .i64 a3))) OpdL.nil))))))
      (OpJs.cons (OpJ.move (ltN hN rfl) (Opd.tmp 33 (.tup [(.d (.int .i64 r4.1)), (.d (.int .i64 r4.2.1))])))
      (OpJs.cons (OpJ.extract (v := (.d (.int .i64 r4.1))) (by rfl) rfl (ltN hN rfl) (Opd.tmp 27 (.tup [(.d (.int .i64 r4.1)), (.d (.int .i64 r4.2.1))])))
      (OpJs.cons (OpJ.extract (v := (.d (.int .i64 r4.2.1))) (by rfl) rfl (ltN hN rfl) (Opd.tmp 27 (.tup [(.d (.int .i64 r4.1)), (.d (.int .i64 r4.2.1))])))
      (OpJs.cons (OpJ.assign (ltN hN rfl) (Opd.tmp 34 (.d (.int .i64 r4.1))))
      (OpJs.cons (OpJ.assign (ltN hN rfl) (Opd.tmp 35 (.d (.int .i64 r4.2.1))))
      (OpJs.nil)))))))))))) (by rfl) (by rfl) ?_
    refine seqQ_n ?_
    refine AWp.ghost (Mat.pat [] [(11, (.d (.int .i64 r4.1))), (12, (.d (.int .i64 r4.2.1)))] [] hB (by rfl) (by rfl) (by rfl)) ?_
    refine AWp.seq ?_
    refine AWp.region (OpJs.cons (OpJ.move (ltN hN rfl) (Opd.tmp 11 (.d (.int .i64 r4.1))))
      (OpJs.cons (OpJ.move (ltN hN rfl) (Opd.tmp 12 (.d (.int .i64 r4.2.1))))
      (OpJs.cons (OpJ.assign (ltN hN rfl) (Opd.tmp 36 (.d (.int .i64 r4.1))))
      (OpJs.cons (OpJ.assign (ltN hN rfl) (Opd.tmp 37 (.d (.int .i64 r4.2.1))))
      (OpJs.cons (OpJ.assign (ltN hN rfl) (Opd.int .i64 (0)))
      (OpJs.nil)))))) (by rfl) (by rfl) ?_
    refine seqQ_n ?_
    refine AWp.ghost (Mat.pat [] [(8, (.d (.int .i64 r4.1))), (9, (.d (.int .i64 r4.2.1))), (10, (.d (.int .i64 (0 : Int))))] [] hB (by rfl) (by rfl) (by rfl)) ?_
    refine AWp.ret ?_
    obtain rfl := Option.some.inj h
    exact ⟨.inl rfl, _, _, (Mat.pat [] [(8, (.d (.int .i64 r4.1))), (9, (.d (.int .i64 r4.2.1))), (10, (.d (.int .i64 (0 : Int))))] [] hB (by rfl) (by rfl) (by rfl)), [(.d (.int .i64 r4.1)), (.d (.int .i64 r4.2.1)), (.d (.int .i64 (0 : Int)))], (Res.tmp (by rfl) (by rfl) (Res.tmp (by rfl) (by rfl) (Res.tmp (by rfl) (by rfl) Res.nil))), rfl, by rfl, by rfl, by rfl⟩

noncomputable def exchangepointlaw39_IntervalGrows (a0 : Int) (a1 : Int) (a2 : Int) (a3 : Int) (a4 : Int) : Option (Bool) :=
  (exchangepointmill_Mod a0 (24 : Int)).bind fun r1 =>
  (exchangepointmill_Mod a1 (w64 ((w64 ((1 : Int) + r1)) + (1 : Int)))).bind fun r2 =>
  (exchangepointmill_Mod a2 (w64 (r2 + (1 : Int)))).bind fun r3 =>
  (exchangepointmill_Mod a3 (999 : Int)).bind fun r4 =>
  (exchangepointmill_Mod a4 (999 : Int)).bind fun r5 =>
  (interval_Bounds (w64 ((1 : Int) + r1)) r2 r3 (minI (w64 ((1 : Int) + r4)) (w64 ((1 : Int) + r5)))).bind fun r6 =>
  (interval_Bounds (w64 ((1 : Int) + r1)) r2 r3 (maxI (w64 ((1 : Int) + r4)) (w64 ((1 : Int) + r5)))).bind fun r7 =>
  (if (((((((r6.2.2 != (0 : Int)) || (r7.2.2 != (0 : Int))) || (decide (r7.1 < r6.1))) || (decide (r6.2.1 < r7.2.1))) || (decide (r7.2.1 < r7.1))) || (decide (r6.1 < r3))) || (decide ((w64 ((w64 ((1 : Int) + r1)) - (w64 (r2 - r3)))) < r6.2.1))) = true then
  some false
  else
  jn (fun _ : Unit =>
  (exchangepointmill_Mod a2 (w64 ((w64 ((1 : Int) + r1)) + (1 : Int)))).bind fun r14 =>
  (interval_Bounds (w64 ((1 : Int) + r1)) (w64 ((1 : Int) + r1)) r14 (w64 ((1 : Int) + r4))).bind fun r15 =>
  jn (fun m18 : Bool =>
  some m18) (fun j19 =>
  (if (((r15.2.2 == (0 : Int)) && (r15.1 == r14)) && (r15.2.1 == r14)) = true then
  (exchangepointlaw39_awake).bind fun r21 =>
  j19 r21
  else
  j19 false))) (fun j13 =>
  (if (decide (r3 < r2)) = true then
  (interval_Bounds (w64 ((1 : Int) + r1)) r2 (w64 (r3 + (1 : Int))) (minI (w64 ((1 : Int) + r4)) (w64 ((1 : Int) + r5)))).bind fun r23 =>
  (if (((r23.2.2 != (0 : Int)) || (decide (r23.1 < r6.1))) || (decide (r23.2.1 < r6.2.1))) = true then
  some false
  else
  j13 ())
  else
  j13 ())))
set_option maxHeartbeats 4000000 in
set_option maxRecDepth 100000 in
theorem exchangepointlaw39_IntervalGrows_ac (a0 : Int) (a1 : Int) (a2 : Int) (a3 : Int) (a4 : Int) (r : Bool) (h : exchangepointlaw39_IntervalGrows a0 a1 a2 a3 a4 = some r) : AC Try.prog 5 [(.d (.int .i64 a0)), (.d (.int .i64 a1)), (.d (.int .i64 a2)), (.d (.int .i64 a3)), (.d (.int .i64 a4))] [] (.d (.bool r)) [] := by
  refine AC.of_code2 Try.func5 rfl rfl (Nat.le_of_ble_eq_true (by rfl)) fun B hB hN => ?_
  delta exchangepointlaw39_IntervalGrows at h
  refine AWp.seq ?_
  refine AWp.region (OpJs.cons (OpJ.assign (ltN hN rfl) (Opd.bool false))
  (OpJs.nil)) (by rfl) (by rfl) ?_
  refine seqQ_n ?_
  refine AWp.ghost (Mat.pat [] [(0, (.d (.int .i64 a0))), (1, (.d (.int .i64 a1))), (2, (.d (.int .i64 a2))), (3, (.d (.int .i64 a3))), (4, (.d (.int .i64 a4)))] [] hB (by rfl) (by rfl) (by rfl)) ?_
  refine AWp.seq ?_
  obtain ⟨r1, hr1, h⟩ := bindS h
  refine AWp.region (OpJs.cons (OpJ.move (ltN hN rfl) (Opd.tmp 0 (.d (.int .i64 a0))))
  (OpJs.cons (OpJ.callFn hB fnOk9 (exchangepointmill_Mod_ac a0 (24 : Int) r1 hr1) [] (by kernel_rfl) (ltN hN rfl) (by kernel_rfl) (OpdL.cons (Opd.tmp 29 (.d (.int .i64 a0))) (OpdL.cons (Opd.int .i64 (24)) OpdL.nil)))
  (OpJs.cons (OpJ.add (ltN hN rfl) (Opd.int .i64 (1)) (Opd.tmp 30 (.d (.int .i64 r1))))
  (OpJs.cons (OpJ.assign (ltN hN rfl) (Opd.tmp 31 (.d (.int .i64 (w64 ((1 : Int) + r1))))))
  (OpJs.nil))))) (by rfl) (by rfl) ?_
  refine seqQ_n ?_
  refine AWp.ghost (Mat.pat [] [(1, (.d (.int .i64 a1))), (2, (.d (.int .i64 a2))), (3, (.d (.int .i64 a3))), (4, (.d (.int .i64 a4))), (11, (.d (.int .i64 (w64 ((1 : Int) + r1)))))] [] hB (by rfl) (by rfl) (by rfl)) ?_
  refine AWp.seq ?_
  obtain ⟨r2, hr2, h⟩ := bindS h
  refine AWp.region (OpJs.cons (OpJ.move (ltN hN rfl) (Opd.tmp 1 (.d (.int .i64 a1))))
  (OpJs.cons (OpJ.move (ltN hN rfl) (Opd.tmp 11 (.d (.int .i64 (w64 ((1 : Int) + r1))))))
  (OpJs.cons (OpJ.add (ltN hN rfl) (Opd.tmp 33 (.d (.int .i64 (w64 ((1 : Int) + r1))))) (Opd.int .i64 (1)))
  (OpJs.cons (OpJ.callFn hB fnOk9 (exchangepointmill_Mod_ac a1 (w64 ((w64 ((1 : Int) + r1)) + (1 : Int))) r2 hr2) [] (by kernel_rfl) (ltN hN rfl) (by kernel_rfl) (OpdL.cons (Opd.tmp 32 (.d (.int .i64 a1))) (OpdL.cons (Opd.tmp 34 (.d (.int .i64 (w64 ((w64 ((1 : Int) + r1)) + (1 : Int)))))) OpdL.nil)))
  (OpJs.cons (OpJ.assign (ltN hN rfl) (Opd.tmp 35 (.d (.int .i64 r2))))
  (OpJs.nil)))))) (by rfl) (by rfl) ?_
  refine seqQ_n ?_
  refine AWp.ghost (Mat.pat [] [(2, (.d (.int .i64 a2))), (3, (.d (.int .i64 a3))), (4, (.d (.int .i64 a4))), (11, (.d (.int .i64 (w64 ((1 : Int) + r1))))), (12, (.d (.int .i64 r2)))] [] hB (by rfl) (by rfl) (by rfl)) ?_
  refine AWp.seq ?_
  obtain ⟨r3, hr3, h⟩ := bindS h
  refine AWp.region (OpJs.cons (OpJ.move (ltN hN rfl) (Opd.tmp 2 (.d (.int .i64 a2))))
  (OpJs.cons (OpJ.move (ltN hN rfl) (Opd.tmp 12 (.d (.int .i64 r2))))
  (OpJs.cons (OpJ.add (ltN hN rfl) (Opd.tmp 37 (.d (.int .i64 r2))) (Opd.int .i64 (1)))
  (OpJs.cons (OpJ.callFn hB fnOk9 (exchangepointmill_Mod_ac a2 (w64 (r2 + (1 : Int))) r3 hr3) [] (by kernel_rfl) (ltN hN rfl) (by kernel_rfl) (OpdL.cons (Opd.tmp 36 (.d (.int .i64 a2))) (OpdL.cons (Opd.tmp 38 (.d (.int .i64 (w64 (r2 + (1 : Int)))))) OpdL.nil)))
  (OpJs.cons (OpJ.assign (ltN hN rfl) (Opd.tmp 39 (.d (.int .i64 r3))))
  (OpJs.nil)))))) (by rfl) (by rfl) ?_
  refine seqQ_n ?_
  refine AWp.ghost (Mat.pat [] [(2, (.d (.int .i64 a2))), (3, (.d (.int .i64 a3))), (4, (.d (.int .i64 a4))), (11, (.d (.int .i64 (w64 ((1 : Int) + r1))))), (12, (.d (.int .i64 r2))), (13, (.d (.int .i64 r3)))] [] hB (by rfl) (by rfl) (by rfl)) ?_
  refine AWp.seq ?_
  obtain ⟨r4, hr4, h⟩ := bindS h
  obtain ⟨r5, hr5, h⟩ := bindS h
  refine AWp.region (OpJs.cons (OpJ.move (ltN hN rfl) (Opd.tmp 3 (.d (.int .i64 a3))))
  (OpJs.cons (OpJ.callFn hB fnOk9 (exchangepointmill_Mod_ac a3 (999 : Int) r4 hr4) [] (by kernel_rfl) (ltN hN rfl) (by kernel_rfl) (OpdL.cons (Opd.tmp 40 (.d (.int .i64 a3))) (OpdL.cons (Opd.int .i64 (999)) OpdL.nil)))
  (OpJs.cons (OpJ.add (ltN hN rfl) (Opd.int .i64 (1)) (Opd.tmp 41 (.d (.int .i64 r4))))
  (OpJs.cons (OpJ.move (ltN hN rfl) (Opd.tmp 4 (.d (.int .i64 a4))))
  (OpJs.cons (OpJ.callFn hB fnOk9 (exchangepointmill_Mod_ac a4 (999 : Int) r5 hr5) [] (by kernel_rfl) (ltN hN rfl) (by kernel_rfl) (OpdL.cons (Opd.tmp 43 (.d (.int .i64 a4))) (OpdL.cons (Opd.int .i64 (999)) OpdL.nil)))
  (OpJs.cons (OpJ.add (ltN hN rfl) (Opd.int .i64 (1)) (Opd.tmp 44 (.d (.int .i64 r5))))
  (OpJs.cons (OpJ.assign (ltN hN rfl) (Opd.tmp 42 (.d (.int .i64 (w64 ((1 : Int) + r4))))))
  (OpJs.cons (OpJ.assign (ltN hN rfl) (Opd.tmp 45 (.d (.int .i64 (w64 ((1 : Int) + r5))))))
  (OpJs.nil))))))))) (by rfl) (by rfl) ?_
  refine seqQ_n ?_
  refine AWp.ghost (Mat.pat [] [(2, (.d (.int .i64 a2))), (11, (.d (.int .i64 (w64 ((1 : Int) + r1))))), (12, (.d (.int .i64 r2))), (13, (.d (.int .i64 r3))), (14, (.d (.int .i64 (w64 ((1 : Int) + r4))))), (15, (.d (.int .i64 (w64 ((1 : Int) + r5)))))] [] hB (by rfl) (by rfl) (by rfl)) ?_
  refine AWp.seq ?_
  obtain ⟨r6, hr6, h⟩ := bindS h
  refine AWp.region (OpJs.cons (OpJ.move (ltN hN rfl) (Opd.tmp 11 (.d (.int .i64 (w64 ((1 : Int) + r1))))))
  (OpJs.cons (OpJ.move (ltN hN rfl) (Opd.tmp 12 (.d (.int .i64 r2))))
  (OpJs.cons (OpJ.move (ltN hN rfl) (Opd.tmp 13 (.d (.int .i64 r3))))
  (OpJs.cons (OpJ.move (ltN hN rfl) (Opd.tmp 14 (.d (.int .i64 (w64 ((1 : Int) + r4))))))
  (OpJs.cons (OpJ.move (ltN hN rfl) (Opd.tmp 15 (.d (.int .i64 (w64 ((1 : Int) + r5))))))
  (OpJs.cons (OpJ.min (ltN hN rfl) (Opd.tmp 50 (.d (.int .i64 (w64 ((1 : Int) + r4))))) (Opd.tmp 51 (.d (.int .i64 (w64 ((1 : Int) + r5))))))
  (OpJs.cons (OpJ.callFn hB fnOk17 (interval_Bounds_ac (w64 ((1 : Int) + r1)) r2 r3 (minI (w64 ((1 : Int) + r4)) (w64 ((1 : Int) + r5))) r6 hr6) [] (by kernel_rfl) (ltN hN rfl) (by kernel_rfl) (OpdL.cons (Opd.tmp 47 (.d (.int .i64 (w64 ((1 : Int) + r1))))) (OpdL.cons (Opd.tmp 48 (.d (.int .i64 r2))) (OpdL.cons (Opd.tmp 49 (.d (.int .i64 r3))) (OpdL.cons (Opd.tmp 52 (.d (.int .i64 (minI (w64 ((1 : Int) + r4)) (w64 ((1 : Int) + r5)))))) OpdL.nil)))))
  (OpJs.cons (OpJ.move (ltN hN rfl) (Opd.tmp 53 (.tup [(.d (.int .i64 r6.1)), (.d (.int .i64 r6.2.1)), (.d (.int .i64 r6.2.2))])))
  (OpJs.cons (OpJ.extract (v := (.d (.int .i64 r6.1))) (by rfl) rfl (ltN hN rfl) (Opd.tmp 46 (.tup [(.d (.int .i64 r6.1)), (.d (.int .i64 r6.2.1)), (.d (.int .i64 r6.2.2))])))
  (OpJs.cons (OpJ.extract (v := (.d (.int .i64 r6.2.1))) (by rfl) rfl (ltN hN rfl) (Opd.tmp 46 (.tup [(.d (.int .i64 r6.1)), (.d (.int .i64 r6.2.1)), (.d (.int .i64 r6.2.2))])))
  (OpJs.cons (OpJ.extract (v := (.d (.int .i64 r6.2.2))) (by rfl) rfl (ltN hN rfl) (Opd.tmp 46 (.tup [(.d (.int .i64 r6.1)), (.d (.int .i64 r6.2.1)), (.d (.int .i64 r6.2.2))])))
  (OpJs.cons (OpJ.assign (ltN hN rfl) (Opd.tmp 54 (.d (.int .i64 r6.1))))
  (OpJs.cons (OpJ.assign (ltN hN rfl) (Opd.tmp 55 (.d (.int .i64 r6.2.1))))
  (OpJs.cons (OpJ.assign (ltN hN rfl) (Opd.tmp 56 (.d (.int .i64 r6.2.2))))
  (OpJs.nil))))))))))))))) (by rfl) (by rfl) ?_
  refine seqQ_n ?_
  refine AWp.ghost (Mat.pat [] [(2, (.d (.int .i64 a2))), (11, (.d (.int .i64 (w64 ((1 : Int) + r1))))), (12, (.d (.int .i64 r2))), (13, (.d (.int .i64 r3))), (14, (.d (.int .i64 (w64 ((1 : Int) + r4))))), (15, (.d (.int .i64 (w64 ((1 : Int) + r5))))), (16, (.d (.int .i64 r6.1))), (17, (.d (.int .i64 r6.2.1))), (18, (.d (.int .i64 r6.2.2)))] [] hB (by rfl) (by rfl) (by rfl)) ?_
  refine AWp.seq ?_
  obtain ⟨r7, hr7, h⟩ := bindS h
  refine AWp.region (OpJs.cons (OpJ.move (ltN hN rfl) (Opd.tmp 11 (.d (.int .i64 (w64 ((1 : Int) + r1))))))
  (OpJs.cons (OpJ.move (ltN hN rfl) (Opd.tmp 12 (.d (.int .i64 r2))))
  (OpJs.cons (OpJ.move (ltN hN rfl) (Opd.tmp 13 (.d (.int .i64 r3))))
  (OpJs.cons (OpJ.move (ltN hN rfl) (Opd.tmp 14 (.d (.int .i64 (w64 ((1 : Int) + r4))))))
  (OpJs.cons (OpJ.move (ltN hN rfl) (Opd.tmp 15 (.d (.int .i64 (w64 ((1 : Int) + r5))))))
  (OpJs.cons (OpJ.max (ltN hN rfl) (Opd.tmp 61 (.d (.int .i64 (w64 ((1 : Int) + r4))))) (Opd.tmp 62 (.d (.int .i64 (w64 ((1 : Int) + r5))))))
  (OpJs.cons (OpJ.callFn hB fnOk17 (interval_Bounds_ac (w64 ((1 : Int) + r1)) r2 r3 (maxI (w64 ((1 : Int) + r4)) (w64 ((1 : Int) + r5))) r7 hr7) [] (by kernel_rfl) (ltN hN rfl) (by kernel_rfl) (OpdL.cons (Opd.tmp 58 (.d (.int .i64 (w64 ((1 : Int) + r1))))) (OpdL.cons (Opd.tmp 59 (.d (.int .i64 r2))) (OpdL.cons (Opd.tmp 60 (.d (.int .i64 r3))) (OpdL.cons (Opd.tmp 63 (.d (.int .i64 (maxI (w64 ((1 : Int) + r4)) (w64 ((1 : Int) + r5)))))) OpdL.nil)))))
  (OpJs.cons (OpJ.move (ltN hN rfl) (Opd.tmp 64 (.tup [(.d (.int .i64 r7.1)), (.d (.int .i64 r7.2.1)), (.d (.int .i64 r7.2.2))])))
  (OpJs.cons (OpJ.extract (v := (.d (.int .i64 r7.1))) (by rfl) rfl (ltN hN rfl) (Opd.tmp 57 (.tup [(.d (.int .i64 r7.1)), (.d (.int .i64 r7.2.1)), (.d (.int .i64 r7.2.2))])))
  (OpJs.cons (OpJ.extract (v := (.d (.int .i64 r7.2.1))) (by rfl) rfl (ltN hN rfl) (Opd.tmp 57 (.tup [(.d (.int .i64 r7.1)), (.d (.int .i64 r7.2.1)), (.d (.int .i64 r7.2.2))])))
  (OpJs.cons (OpJ.extract (v := (.d (.int .i64 r7.2.2))) (by rfl) rfl (ltN hN rfl) (Opd.tmp 57 (.tup [(.d (.int .i64 r7.1)), (.d (.int .i64 r7.2.1)), (.d (.int .i64 r7.2.2))])))
  (OpJs.cons (OpJ.assign (ltN hN rfl) (Opd.tmp 65 (.d (.int .i64 r7.1))))
  (OpJs.cons (OpJ.assign (ltN hN rfl) (Opd.tmp 66 (.d (.int .i64 r7.2.1))))
  (OpJs.cons (OpJ.assign (ltN hN rfl) (Opd.tmp 67 (.d (.int .i64 r7.2.2))))
  (OpJs.nil))))))))))))))) (by rfl) (by rfl) ?_
  refine seqQ_n ?_
  refine AWp.ghost (Mat.pat [] [(2, (.d (.int .i64 a2))), (11, (.d (.int .i64 (w64 ((1 : Int) + r1))))), (12, (.d (.int .i64 r2))), (13, (.d (.int .i64 r3))), (14, (.d (.int .i64 (w64 ((1 : Int) + r4))))), (15, (.d (.int .i64 (w64 ((1 : Int) + r5))))), (16, (.d (.int .i64 r6.1))), (17, (.d (.int .i64 r6.2.1))), (18, (.d (.int .i64 r6.2.2))), (19, (.d (.int .i64 r7.1))), (20, (.d (.int .i64 r7.2.1))), (21, (.d (.int .i64 r7.2.2)))] [] hB (by rfl) (by rfl) (by rfl)) ?_
  refine AWp.seq ?_
  refine AWp.seq ?_
  refine AWp.region (OpJs.cons (OpJ.move (ltN hN rfl) (Opd.tmp 18 (.d (.int .i64 r6.2.2))))
  (OpJs.cons (OpJ.neqI (ltN hN rfl) (Opd.tmp 68 (.d (.int .i64 r6.2.2))) (Opd.int .i64 (0)))
  (OpJs.cons (OpJ.move (ltN hN rfl) (Opd.tmp 69 (.d (.bool (r6.2.2 != (0 : Int))))))
  (OpJs.cons (OpJ.opt' (v := (.d (.int .i64 r7.2.2))) (OpJ.move (ltN hN rfl) (Opd.tmp 21 (.d (.int .i64 r7.2.2)))) (by rfl) (GuardV.plain _) (ltN hN rfl) (by rfl) (by rfl) (by rfl) (by rfl) (OptL.keep rfl OptL.nil))
  (OpJs.cons (OpJ.opt' (v := (.d (.bool (r7.2.2 != (0 : Int))))) (OpJ.neqI (ltN hN rfl) (Opd.tmp 71 (.d (.int .i64 r7.2.2))) (Opd.int .i64 (0))) (by rfl) (GuardV.plain _) (ltN hN rfl) (by rfl) (by rfl) (by rfl) (by rfl) (OptL.opt OptL.nil))
  (OpJs.cons (OpJ.pickOr rfl (ltN hN rfl) (Opd.tmp 70 (.d (.bool (r6.2.2 != (0 : Int))))) (Opd.tmp 72 (.opt ((r6.2.2 != (0 : Int)) == false) (.d (.bool (r7.2.2 != (0 : Int)))))))
  (OpJs.cons (OpJ.move (ltN hN rfl) (Opd.tmp 73 (.d (.bool ((r6.2.2 != (0 : Int)) || (r7.2.2 != (0 : Int)))))))
  (OpJs.cons (OpJ.opt' (v := (.d (.int .i64 r6.1))) (OpJ.move (ltN hN rfl) (Opd.tmp 16 (.d (.int .i64 r6.1)))) (by rfl) (GuardV.plain _) (ltN hN rfl) (by rfl) (by rfl) (by rfl) (by rfl) (OptL.keep rfl OptL.nil))
  (OpJs.cons (OpJ.opt' (v := (.d (.int .i64 r7.1))) (OpJ.move (ltN hN rfl) (Opd.tmp 19 (.d (.int .i64 r7.1)))) (by rfl) (GuardV.plain _) (ltN hN rfl) (by rfl) (by rfl) (by rfl) (by rfl) (OptL.keep rfl OptL.nil))
  (OpJs.cons (OpJ.opt' (v := (.d (.bool (decide (r7.1 < r6.1))))) (OpJ.gtr (ltN hN rfl) (Opd.tmp 75 (.d (.int .i64 r6.1))) (Opd.tmp 76 (.d (.int .i64 r7.1)))) (by rfl) (GuardV.plain _) (ltN hN rfl) (by rfl) (by rfl) (by rfl) (by rfl) (OptL.opt (OptL.opt OptL.nil)))
  (OpJs.cons (OpJ.pickOr rfl (ltN hN rfl) (Opd.tmp 74 (.d (.bool ((r6.2.2 != (0 : Int)) || (r7.2.2 != (0 : Int)))))) (Opd.tmp 77 (.opt (((r6.2.2 != (0 : Int)) || (r7.2.2 != (0 : Int))) == false) (.d (.bool (decide (r7.1 < r6.1)))))))
  (OpJs.cons (OpJ.move (ltN hN rfl) (Opd.tmp 78 (.d (.bool (((r6.2.2 != (0 : Int)) || (r7.2.2 != (0 : Int))) || (decide (r7.1 < r6.1)))))))
  (OpJs.cons (OpJ.opt' (v := (.d (.int .i64 r6.2.1))) (OpJ.move (ltN hN rfl) (Opd.tmp 17 (.d (.int .i64 r6.2.1)))) (by rfl) (GuardV.plain _) (ltN hN rfl) (by rfl) (by rfl) (by rfl) (by rfl) (OptL.keep rfl OptL.nil))
  (OpJs.cons (OpJ.opt' (v := (.d (.int .i64 r7.2.1))) (OpJ.move (ltN hN rfl) (Opd.tmp 20 (.d (.int .i64 r7.2.1)))) (by rfl) (GuardV.plain _) (ltN hN rfl) (by rfl) (by rfl) (by rfl) (by rfl) (OptL.keep rfl OptL.nil))
  (OpJs.cons (OpJ.opt' (v := (.d (.bool (decide (r6.2.1 < r7.2.1))))) (OpJ.lss (ltN hN rfl) (Opd.tmp 80 (.d (.int .i64 r6.2.1))) (Opd.tmp 81 (.d (.int .i64 r7.2.1)))) (by rfl) (GuardV.plain _) (ltN hN rfl) (by rfl) (by rfl) (by rfl) (by rfl) (OptL.opt (OptL.opt OptL.nil)))
  (OpJs.cons (OpJ.pickOr rfl (ltN hN rfl) (Opd.tmp 79 (.d (.bool (((r6.2.2 != (0 : Int)) || (r7.2.2 != (0 : Int))) || (decide (r7.1 < r6.1)))))) (Opd.tmp 82 (.opt ((((r6.2.2 != (0 : Int)) || (r7.2.2 != (0 : Int))) || (decide (r7.1 < r6.1))) == false) (.d (.bool (decide (r6.2.1 < r7.2.1)))))))
  (OpJs.cons (OpJ.move (ltN hN rfl) (Opd.tmp 83 (.d (.bool ((((r6.2.2 != (0 : Int)) || (r7.2.2 != (0 : Int))) || (decide (r7.1 < r6.1))) || (decide (r6.2.1 < r7.2.1)))))))
  (OpJs.cons (OpJ.opt' (v := (.d (.int .i64 r7.1))) (OpJ.move (ltN hN rfl) (Opd.tmp 19 (.d (.int .i64 r7.1)))) (by rfl) (GuardV.plain _) (ltN hN rfl) (by rfl) (by rfl) (by rfl) (by rfl) (OptL.keep rfl OptL.nil))
  (OpJs.cons (OpJ.opt' (v := (.d (.int .i64 r7.2.1))) (OpJ.move (ltN hN rfl) (Opd.tmp 20 (.d (.int .i64 r7.2.1)))) (by rfl) (GuardV.plain _) (ltN hN rfl) (by rfl) (by rfl) (by rfl) (by rfl) (OptL.keep rfl OptL.nil))
  (OpJs.cons (OpJ.opt' (v := (.d (.bool (decide (r7.2.1 < r7.1))))) (OpJ.gtr (ltN hN rfl) (Opd.tmp 85 (.d (.int .i64 r7.1))) (Opd.tmp 86 (.d (.int .i64 r7.2.1)))) (by rfl) (GuardV.plain _) (ltN hN rfl) (by rfl) (by rfl) (by rfl) (by rfl) (OptL.opt (OptL.opt OptL.nil)))
  (OpJs.cons (OpJ.pickOr rfl (ltN hN rfl) (Opd.tmp 84 (.d (.bool ((((r6.2.2 != (0 : Int)) || (r7.2.2 != (0 : Int))) || (decide (r7.1 < r6.1))) || (decide (r6.2.1 < r7.2.1)))))) (Opd.tmp 87 (.opt (((((r6.2.2 != (0 : Int)) || (r7.2.2 != (0 : Int))) || (decide (r7.1 < r6.1))) || (decide (r6.2.1 < r7.2.1))) == false) (.d (.bool (decide (r7.2.1 < r7.1)))))))
  (OpJs.cons (OpJ.move (ltN hN rfl) (Opd.tmp 88 (.d (.bool (((((r6.2.2 != (0 : Int)) || (r7.2.2 != (0 : Int))) || (decide (r7.1 < r6.1))) || (decide (r6.2.1 < r7.2.1))) || (decide (r7.2.1 < r7.1)))))))
  (OpJs.cons (OpJ.opt' (v := (.d (.int .i64 r6.1))) (OpJ.move (ltN hN rfl) (Opd.tmp 16 (.d (.int .i64 r6.1)))) (by rfl) (GuardV.plain _) (ltN hN rfl) (by rfl) (by rfl) (by rfl) (by rfl) (OptL.keep rfl OptL.nil))
  (OpJs.cons (OpJ.opt' (v := (.d (.int .i64 r3))) (OpJ.move (ltN hN rfl) (Opd.tmp 13 (.d (.int .i64 r3)))) (by rfl) (GuardV.plain _) (ltN hN rfl) (by rfl) (by rfl) (by rfl) (by rfl) (OptL.keep rfl OptL.nil))
  (OpJs.cons (OpJ.opt' (v := (.d (.bool (decide (r6.1 < r3))))) (OpJ.lss (ltN hN rfl) (Opd.tmp 90 (.d (.int .i64 r6.1))) (Opd.tmp 91 (.d (.int .i64 r3)))) (by rfl) (GuardV.plain _) (ltN hN rfl) (by rfl) (by rfl) (by rfl) (by rfl) (OptL.opt (OptL.opt OptL.nil)))
  (OpJs.cons (OpJ.pickOr rfl (ltN hN rfl) (Opd.tmp 89 (.d (.bool (((((r6.2.2 != (0 : Int)) || (r7.2.2 != (0 : Int))) || (decide (r7.1 < r6.1))) || (decide (r6.2.1 < r7.2.1))) || (decide (r7.2.1 < r7.1)))))) (Opd.tmp 92 (.opt ((((((r6.2.2 != (0 : Int)) || (r7.2.2 != (0 : Int))) || (decide (r7.1 < r6.1))) || (decide (r6.2.1 < r7.2.1))) || (decide (r7.2.1 < r7.1))) == false) (.d (.bool (decide (r6.1 < r3)))))))
  (OpJs.cons (OpJ.move (ltN hN rfl) (Opd.tmp 93 (.d (.bool ((((((r6.2.2 != (0 : Int)) || (r7.2.2 != (0 : Int))) || (decide (r7.1 < r6.1))) || (decide (r6.2.1 < r7.2.1))) || (decide (r7.2.1 < r7.1))) || (decide (r6.1 < r3)))))))
  (OpJs.cons (OpJ.opt' (v := (.d (.int .i64 r6.2.1))) (OpJ.move (ltN hN rfl) (Opd.tmp 17 (.d (.int .i64 r6.2.1)))) (by rfl) (GuardV.plain _) (ltN hN rfl) (by rfl) (by rfl) (by rfl) (by rfl) (OptL.keep rfl OptL.nil))
  (OpJs.cons (OpJ.opt' (v := (.d (.int .i64 (w64 ((1 : Int) + r1))))) (OpJ.move (ltN hN rfl) (Opd.tmp 11 (.d (.int .i64 (w64 ((1 : Int) + r1)))))) (by rfl) (GuardV.plain _) (ltN hN rfl) (by rfl) (by rfl) (by rfl) (by rfl) (OptL.keep rfl OptL.nil))
  (OpJs.cons (OpJ.opt' (v := (.d (.int .i64 r2))) (OpJ.move (ltN hN rfl) (Opd.tmp 12 (.d (.int .i64 r2)))) (by rfl) (GuardV.plain _) (ltN hN rfl) (by rfl) (by rfl) (by rfl) (by rfl) (OptL.keep rfl OptL.nil))
  (OpJs.cons (OpJ.opt' (v := (.d (.int .i64 r3))) (OpJ.move (ltN hN rfl) (Opd.tmp 13 (.d (.int .i64 r3)))) (by rfl) (GuardV.plain _) (ltN hN rfl) (by rfl) (by rfl) (by rfl) (by rfl) (OptL.keep rfl OptL.nil))
  (OpJs.cons (OpJ.opt' (v := (.d (.int .i64 (w64 (r2 - r3))))) (OpJ.sub (ltN hN rfl) (Opd.tmp 97 (.d (.int .i64 r2))) (Opd.tmp 98 (.d (.int .i64 r3)))) (by rfl) (GuardV.plain _) (ltN hN rfl) (by rfl) (by rfl) (by rfl) (by rfl) (OptL.opt (OptL.opt OptL.nil)))
  (OpJs.cons (OpJ.opt' (v := (.d (.int .i64 (w64 ((w64 ((1 : Int) + r1)) - (w64 (r2 - r3))))))) (OpJ.sub (ltN hN rfl) (Opd.tmp 96 (.d (.int .i64 (w64 ((1 : Int) + r1))))) (Opd.tmp 99 (.d (.int .i64 (w64 (r2 - r3)))))) (by rfl) (GuardV.plain _) (ltN hN rfl) (by rfl) (by rfl) (by rfl) (by rfl) (OptL.opt (OptL.opt OptL.nil)))
  (OpJs.cons (OpJ.opt' (v := (.d (.bool (decide ((w64 ((w64 ((1 : Int) + r1)) - (w64 (r2 - r3)))) < r6.2.1))))) (OpJ.gtr (ltN hN rfl) (Opd.tmp 95 (.d (.int .i64 r6.2.1))) (Opd.tmp 100 (.d (.int .i64 (w64 ((w64 ((1 : Int) + r1)) - (w64 (r2 - r3)))))))) (by rfl) (GuardV.plain _) (ltN hN rfl) (by rfl) (by rfl) (by rfl) (by rfl) (OptL.opt (OptL.opt OptL.nil)))
  (OpJs.cons (OpJ.pickOr rfl (ltN hN rfl) (Opd.tmp 94 (.d (.bool ((((((r6.2.2 != (0 : Int)) || (r7.2.2 != (0 : Int))) || (decide (r7.1 < r6.1))) || (decide (r6.2.1 < r7.2.1))) || (decide (r7.2.1 < r7.1))) || (decide (r6.1 < r3)))))) (Opd.tmp 101 (.opt (((((((r6.2.2 != (0 : Int)) || (r7.2.2 != (0 : Int))) || (decide (r7.1 < r6.1))) || (decide (r6.2.1 < r7.2.1))) || (decide (r7.2.1 < r7.1))) || (decide (r6.1 < r3))) == false) (.d (.bool (decide ((w64 ((w64 ((1 : Int) + r1)) - (w64 (r2 - r3)))) < r6.2.1)))))))
  (OpJs.nil)))))))))))))))))))))))))))))))))))) (by rfl) (by rfl) ?_
  refine seqQ_n ?_
  refine AWp.ghost (Mat.pat [] [(2, (.d (.int .i64 a2))), (11, (.d (.int .i64 (w64 ((1 : Int) + r1))))), (12, (.d (.int .i64 r2))), (13, (.d (.int .i64 r3))), (14, (.d (.int .i64 (w64 ((1 : Int) + r4))))), (15, (.d (.int .i64 (w64 ((1 : Int) + r5))))), (16, (.d (.int .i64 r6.1))), (17, (.d (.int .i64 r6.2.1))), (102, (.d (.bool (((((((r6.2.2 != (0 : Int)) || (r7.2.2 != (0 : Int))) || (decide (r7.1 < r6.1))) || (decide (r6.2.1 < r7.2.1))) || (decide (r7.2.1 < r7.1))) || (decide (r6.1 < r3))) || (decide ((w64 ((w64 ((1 : Int) + r1)) - (w64 (r2 - r3)))) < r6.2.1))))))] [] hB (by rfl) (by rfl) (by rfl)) ?_
  refine AWp.cond (b := (((((((r6.2.2 != (0 : Int)) || (r7.2.2 != (0 : Int))) || (decide (r7.1 < r6.1))) || (decide (r6.2.1 < r7.2.1))) || (decide (r7.2.1 < r7.1))) || (decide (r6.1 < r3))) || (decide ((w64 ((w64 ((1 : Int) + r1)) - (w64 (r2 - r3)))) < r6.2.1)))) (by rfl) (fun hg8 => ?_) (fun hg8 => ?_)
  · replace h := ite_t hg8 h
    refine AWp.seq ?_
    refine AWp.region (OpJs.cons (OpJ.assign (ltN hN rfl) (Opd.bool false))
      (OpJs.nil)) (by rfl) (by rfl) ?_
    refine seqQ_n ?_
    refine AWp.ghost (Mat.pat [] [(10, (.d (.bool false)))] [] hB (by rfl) (by rfl) (by rfl)) ?_
    refine AWp.ret ?_
    refine seqQ_r ?_
    obtain rfl := Option.some.inj h
    exact ⟨.inl rfl, _, _, (Mat.pat [] [(10, (.d (.bool false)))] [] hB (by rfl) (by rfl) (by rfl)), [(.d (.bool false))], (Res.tmp (by rfl) (by rfl) Res.nil), rfl, by rfl, by rfl, by rfl⟩
  · replace h := ite_f hg8 h
    refine AWp.skip ?_
    refine seqQ_n ?_
    refine AWp.seq ?_
    refine AWp.seq ?_
    refine AWp.region (OpJs.cons (OpJ.move (ltN hN rfl) (Opd.tmp 13 (.d (.int .i64 r3))))
      (OpJs.cons (OpJ.move (ltN hN rfl) (Opd.tmp 12 (.d (.int .i64 r2))))
      (OpJs.cons (OpJ.lss (ltN hN rfl) (Opd.tmp 103 (.d (.int .i64 r3))) (Opd.tmp 104 (.d (.int .i64 r2))))
      (OpJs.nil)))) (by rfl) (by rfl) ?_
    refine seqQ_n ?_
    refine AWp.ghost (Mat.pat [] [(2, (.d (.int .i64 a2))), (11, (.d (.int .i64 (w64 ((1 : Int) + r1))))), (12, (.d (.int .i64 r2))), (13, (.d (.int .i64 r3))), (14, (.d (.int .i64 (w64 ((1 : Int) + r4))))), (15, (.d (.int .i64 (w64 ((1 : Int) + r5))))), (16, (.d (.int .i64 r6.1))), (17, (.d (.int .i64 r6.2.1))), (105, (.d (.bool (decide (r3 < r2)))))] [] hB (by rfl) (by rfl) (by rfl)) ?_
    refine AWp.cut h (fun _ : Unit => ([(2, (.d (.int .i64 a2))), (11, (.d (.int .i64 (w64 ((1 : Int) + r1))))), (14, (.d (.int .i64 (w64 ((1 : Int) + r4)))))] : EL)) (fun _ : Unit => ([] : OL)) (fun _m h E' O' hmat => ?_) (fun j13 hjj13 h => ?_)
    · refine seqQ_n ?_
      refine AWp.ghost hmat ?_
      refine AWp.seq ?_
      obtain ⟨r14, hr14, h⟩ := bindS h
      refine AWp.region (OpJs.cons (OpJ.move (ltN hN rfl) (Opd.tmp 2 (.d (.int .i64 a2))))
        (OpJs.cons (OpJ.move (ltN hN rfl) (Opd.tmp 11 (.d (.int .i64 (w64 ((1 : Int) + r1))))))
        (OpJs.cons (OpJ.add (ltN hN rfl) (Opd.tmp 131 (.d (.int .i64 (w64 ((1 : Int) + r1))))) (Opd.int .i64 (1)))
        (OpJs.cons (OpJ.callFn hB fnOk9 (exchangepointmill_Mod_ac a2 (w64 ((w64 ((1 : Int) + r1)) + (1 : Int))) r14 hr14) [] (by kernel_rfl) (ltN hN rfl) (by kernel_rfl) (OpdL.cons (Opd.tmp 130 (.d (.int .i64 a2))) (OpdL.cons (Opd.tmp 132 (.d (.int .i64 (w64 ((w64 ((1 : Int) + r1)) + (1 : Int)))))) OpdL.nil)))
        (OpJs.cons (OpJ.assign (ltN hN rfl) (Opd.tmp 133 (.d (.int .i64 r14))))
        (OpJs.nil)))))) (by rfl) (by rfl) ?_
      refine seqQ_n ?_
      refine AWp.ghost (Mat.pat [] [(11, (.d (.int .i64 (w64 ((1 : Int) + r1))))), (14, (.d (.int .i64 (w64 ((1 : Int) + r4))))), (25, (.d (.int .i64 r14)))] [] hB (by rfl) (by rfl) (by rfl)) ?_
      refine AWp.seq ?_
      obtain ⟨r15, hr15, h⟩ := bindS h
      refine AWp.region (OpJs.cons (OpJ.move (ltN hN rfl) (Opd.tmp 11 (.d (.int .i64 (w64 ((1 : Int) + r1))))))
        (OpJs.cons (OpJ.move (ltN hN rfl) (Opd.tmp 11 (.d (.int .i64 (w64 ((1 : Int) + r1))))))
        (OpJs.cons (OpJ.move (ltN hN rfl) (Opd.tmp 25 (.d (.int .i64 r14))))
        (OpJs.cons (OpJ.move (ltN hN rfl) (Opd.tmp 14 (.d (.int .i64 (w64 ((1 : Int) + r4))))))
        (OpJs.cons (OpJ.callFn hB fnOk17 (interval_Bounds_ac (w64 ((1 : Int) + r1)) (w64 ((1 : Int) + r1)) r14 (w64 ((1 : Int) + r4)) r15 hr15) [] (by kernel_rfl) (ltN hN rfl) (by kernel_rfl) (OpdL.cons (Opd.tmp 135 (.d (.int .i64 (w64 ((1 : Int) + r1))))) (OpdL.cons (Opd.tmp 136 (.d (.int .i64 (w64 ((1 : Int) + r1))))) (OpdL.cons (Opd.tmp 137 (.d (.int .i64 r14))) (OpdL.cons (Opd.tmp 138 (.d (.int .i64 (w64 ((1 : Int) + r4))))) OpdL.nil)))))
        (OpJs.cons (OpJ.move (ltN hN rfl) (Opd.tmp 139 (.tup [(.d (.int .i64 r15.1)), (.d (.int .i64 r15.2.1)), (.d (.int .i64 r15.2.2))])))
        (OpJs.cons (OpJ.extract (v := (.d (.int .i64 r15.1))) (by rfl) rfl (ltN hN rfl) (Opd.tmp 134 (.tup [(.d (.int .i64 r15.1)), (.d (.int .i64 r15.2.1)), (.d (.int .i64 r15.2.2))])))
        (OpJs.cons (OpJ.extract (v := (.d (.int .i64 r15.2.1))) (by rfl) rfl (ltN hN rfl) (Opd.tmp 134 (.tup [(.d (.int .i64 r15.1)), (.d (.int .i64 r15.2.1)), (.d (.int .i64 r15.2.2))])))
        (OpJs.cons (OpJ.extract (v := (.d (.int .i64 r15.2.2))) (by rfl) rfl (ltN hN rfl) (Opd.tmp 134 (.tup [(.d (.int .i64 r15.1)), (.d (.int .i64 r15.2.1)), (.d (.int .i64 r15.2.2))])))
        (OpJs.cons (OpJ.assign (ltN hN rfl) (Opd.tmp 140 (.d (.int .i64 r15.1))))
        (OpJs.cons (OpJ.assign (ltN hN rfl) (Opd.tmp 141 (.d (.int .i64 r15.2.1))))
        (OpJs.cons (OpJ.assign (ltN hN rfl) (Opd.tmp 142 (.d (.int .i64 r15.2.2))))
        (OpJs.nil))))))))))))) (by rfl) (by rfl) ?_
      refine seqQ_n ?_
      refine AWp.ghost (Mat.pat [] [(25, (.d (.int .i64 r14))), (26, (.d (.int .i64 r15.1))), (27, (.d (.int .i64 r15.2.1))), (28, (.d (.int .i64 r15.2.2)))] [] hB (by rfl) (by rfl) (by rfl)) ?_
      refine AWp.seq ?_
      refine AWp.cut h (fun m18 : Bool => ([(10, (.d (.bool m18)))] : EL)) (fun m18 : Bool => ([] : OL)) (fun m18 h E' O' hmat => ?_) (fun j19 hjj19 h => ?_)
      · refine seqQ_n ?_
        refine AWp.ghost hmat ?_
        refine AWp.ret ?_
        obtain rfl := Option.some.inj h
        exact ⟨.inl rfl, _, _, (Mat.pat [] [(10, (.d (.bool m18)))] [] hB (by rfl) (by rfl) (by rfl)), [(.d (.bool m18))], (Res.tmp (by rfl) (by rfl) Res.nil), rfl, by rfl, by rfl, by rfl⟩
      · rcases Bool.eq_false_or_eq_true (((r15.2.2 == (0 : Int)) && (r15.1 == r14)) && (r15.2.1 == r14)) with hg20 | hg20
        · replace h := ite_t hg20 h
          obtain ⟨r21, hr21, h⟩ := bindS h
          refine AWp.region (OpJs.cons (OpJ.move (ltN hN rfl) (Opd.tmp 28 (.d (.int .i64 r15.2.2))))
            (OpJs.cons (OpJ.eqlI (ltN hN rfl) (Opd.tmp 143 (.d (.int .i64 r15.2.2))) (Opd.int .i64 (0)))
            (OpJs.cons (OpJ.move (ltN hN rfl) (Opd.tmp 144 (.d (.bool (r15.2.2 == (0 : Int))))))
            (OpJs.cons (OpJ.opt' (v := (.d (.int .i64 r15.1))) (OpJ.move (ltN hN rfl) (Opd.tmp 26 (.d (.int .i64 r15.1)))) (by rfl) (GuardV.plain _) (ltN hN rfl) (by rfl) (by rfl) (by rfl) (by rfl) (OptL.keep rfl OptL.nil))
            (OpJs.cons (OpJ.opt' (v := (.d (.int .i64 r14))) (OpJ.move (ltN hN rfl) (Opd.tmp 25 (.d (.int .i64 r14)))) (by rfl) (GuardV.plain _) (ltN hN rfl) (by rfl) (by rfl) (by rfl) (by rfl) (OptL.keep rfl OptL.nil))
            (OpJs.cons (OpJ.opt' (v := (.d (.bool (r15.1 == r14)))) (OpJ.eqlI (ltN hN rfl) (Opd.tmp 146 (.d (.int .i64 r15.1))) (Opd.tmp 147 (.d (.int .i64 r14)))) (by rfl) (GuardV.plain _) (ltN hN rfl) (by rfl) (by rfl) (by rfl) (by rfl) (OptL.opt (OptL.opt OptL.nil)))
            (OpJs.cons (OpJ.pickAnd rfl (ltN hN rfl) (Opd.tmp 145 (.d (.bool (r15.2.2 == (0 : Int))))) (Opd.tmp 148 (.opt ((r15.2.2 == (0 : Int)) == true) (.d (.bool (r15.1 == r14))))))
            (OpJs.cons (OpJ.move (ltN hN rfl) (Opd.tmp 149 (.d (.bool ((r15.2.2 == (0 : Int)) && (r15.1 == r14))))))
            (OpJs.cons (OpJ.opt' (v := (.d (.int .i64 r15.2.1))) (OpJ.move (ltN hN rfl) (Opd.tmp 27 (.d (.int .i64 r15.2.1)))) (by rfl) (GuardV.plain _) (ltN hN rfl) (by rfl) (by rfl) (by rfl) (by rfl) (OptL.keep rfl OptL.nil))
            (OpJs.cons (OpJ.opt' (v := (.d (.int .i64 r14))) (OpJ.move (ltN hN rfl) (Opd.tmp 25 (.d (.int .i64 r14)))) (by rfl) (GuardV.plain _) (ltN hN rfl) (by rfl) (by rfl) (by rfl) (by rfl) (OptL.keep rfl OptL.nil))
            (OpJs.cons (OpJ.opt' (v := (.d (.bool (r15.2.1 == r14)))) (OpJ.eqlI (ltN hN rfl) (Opd.tmp 151 (.d (.int .i64 r15.2.1))) (Opd.tmp 152 (.d (.int .i64 r14)))) (by rfl) (GuardV.plain _) (ltN hN rfl) (by rfl) (by rfl) (by rfl) (by rfl) (OptL.opt (OptL.opt OptL.nil)))
            (OpJs.cons (OpJ.pickAnd rfl (ltN hN rfl) (Opd.tmp 150 (.d (.bool ((r15.2.2 == (0 : Int)) && (r15.1 == r14))))) (Opd.tmp 153 (.opt (((r15.2.2 == (0 : Int)) && (r15.1 == r14)) == true) (.d (.bool (r15.2.1 == r14))))))
            (OpJs.cons (OpJ.val (v' := .d (.bool true)) (by rw [hg20]) (OpJ.move (ltN hN rfl) (Opd.tmp 154 (.d (.bool (((r15.2.2 == (0 : Int)) && (r15.1 == r14)) && (r15.2.1 == r14)))))))
            (OpJs.cons (OpJ.guarded (by rfl) (OpJ.callFn hB fnOk16 (exchangepointlaw39_awake_ac  r21 hr21) [] (by kernel_rfl) (ltN hN rfl) (by kernel_rfl) OpdL.nil))
            (OpJs.cons (OpJ.pickT (ltN hN rfl) (Opd.tmp 155 (.d (.bool true))) (Opd.tmp 156 (.d (.bool r21))))
            (OpJs.cons (OpJ.assign (ltN hN rfl) (Opd.tmp 157 (.d (.bool r21))))
            (OpJs.nil))))))))))))))))) (by rfl) (by rfl) ?_
          exact hjj19 _ h _ _ (Mat.trans (Mat.pat [] [(10, (.d (.bool r21)))] [] hB (by rfl) (by rfl) (by rfl)) (Mat.pat [] ((fun m18 : Bool => ([(10, (.d (.bool m18)))] : EL)) r21) ((fun m18 : Bool => ([] : OL)) r21) hB (by rfl) (by rfl) (by rfl)))
        · replace h := ite_f hg20 h
          refine AWp.region (OpJs.cons (OpJ.move (ltN hN rfl) (Opd.tmp 28 (.d (.int .i64 r15.2.2))))
            (OpJs.cons (OpJ.eqlI (ltN hN rfl) (Opd.tmp 143 (.d (.int .i64 r15.2.2))) (Opd.int .i64 (0)))
            (OpJs.cons (OpJ.move (ltN hN rfl) (Opd.tmp 144 (.d (.bool (r15.2.2 == (0 : Int))))))
            (OpJs.cons (OpJ.opt' (v := (.d (.int .i64 r15.1))) (OpJ.move (ltN hN rfl) (Opd.tmp 26 (.d (.int .i64 r15.1)))) (by rfl) (GuardV.plain _) (ltN hN rfl) (by rfl) (by rfl) (by rfl) (by rfl) (OptL.keep rfl OptL.nil))
            (OpJs.cons (OpJ.opt' (v := (.d (.int .i64 r14))) (OpJ.move (ltN hN rfl) (Opd.tmp 25 (.d (.int .i64 r14)))) (by rfl) (GuardV.plain _) (ltN hN rfl) (by rfl) (by rfl) (by rfl) (by rfl) (OptL.keep rfl OptL.nil))
            (OpJs.cons (OpJ.opt' (v := (.d (.bool (r15.1 == r14)))) (OpJ.eqlI (ltN hN rfl) (Opd.tmp 146 (.d (.int .i64 r15.1))) (Opd.tmp 147 (.d (.int .i64 r14)))) (by rfl) (GuardV.plain _) (ltN hN rfl) (by rfl) (by rfl) (by rfl) (by rfl) (OptL.opt (OptL.opt OptL.nil)))
            (OpJs.cons (OpJ.pickAnd rfl (ltN hN rfl) (Opd.tmp 145 (.d (.bool (r15.2.2 == (0 : Int))))) (Opd.tmp 148 (.opt ((r15.2.2 == (0 : Int)) == true) (.d (.bool (r15.1 == r14))))))
            (OpJs.cons (OpJ.move (ltN hN rfl) (Opd.tmp 149 (.d (.bool ((r15.2.2 == (0 : Int)) && (r15.1 == r14))))))
            (OpJs.cons (OpJ.opt' (v := (.d (.int .i64 r15.2.1))) (OpJ.move (ltN hN rfl) (Opd.tmp 27 (.d (.int .i64 r15.2.1)))) (by rfl) (GuardV.plain _) (ltN hN rfl) (by rfl) (by rfl) (by rfl) (by rfl) (OptL.keep rfl OptL.nil))
            (OpJs.cons (OpJ.opt' (v := (.d (.int .i64 r14))) (OpJ.move (ltN hN rfl) (Opd.tmp 25 (.d (.int .i64 r14)))) (by rfl) (GuardV.plain _) (ltN hN rfl) (by rfl) (by rfl) (by rfl) (by rfl) (OptL.keep rfl OptL.nil))
            (OpJs.cons (OpJ.opt' (v := (.d (.bool (r15.2.1 == r14)))) (OpJ.eqlI (ltN hN rfl) (Opd.tmp 151 (.d (.int .i64 r15.2.1))) (Opd.tmp 152 (.d (.int .i64 r14)))) (by rfl) (GuardV.plain _) (ltN hN rfl) (by rfl) (by rfl) (by rfl) (by rfl) (OptL.opt (OptL.opt OptL.nil)))
            (OpJs.cons (OpJ.pickAnd rfl (ltN hN rfl) (Opd.tmp 150 (.d (.bool ((r15.2.2 == (0 : Int)) && (r15.1 == r14))))) (Opd.tmp 153 (.opt (((r15.2.2 == (0 : Int)) && (r15.1 == r14)) == true) (.d (.bool (r15.2.1 == r14))))))
            (OpJs.cons (OpJ.val (v' := .d (.bool false)) (by rw [hg20]) (OpJ.move (ltN hN rfl) (Opd.tmp 154 (.d (.bool (((r15.2.2 == (0 : Int)) && (r15.1 == r14)) && (r15.2.1 == r14)))))))
            (OpJs.cons (OpJ.skipU (ltN hN rfl) (by rfl))
            (OpJs.cons (OpJ.pickF (ltN hN rfl) (Opd.tmp 155 (.d (.bool false))) (Opd.bool false))
            (OpJs.cons (OpJ.assign (ltN hN rfl) (Opd.tmp 157 (.d (.bool false))))
            (OpJs.nil))))))))))))))))) (by rfl) (by rfl) ?_
          exact hjj19 _ h _ _ (Mat.trans (Mat.pat [] [(10, (.d (.bool false)))] [] hB (by rfl) (by rfl) (by rfl)) (Mat.pat [] ((fun m18 : Bool => ([(10, (.d (.bool m18)))] : EL)) false) ((fun m18 : Bool => ([] : OL)) false) hB (by rfl) (by rfl) (by rfl)))
    · refine AWp.cond (b := (decide (r3 < r2))) (by rfl) (fun hg22 => ?_) (fun hg22 => ?_)
      · replace h := ite_t hg22 h
        refine AWp.seq ?_
        obtain ⟨r23, hr23, h⟩ := bindS h
        refine AWp.region (OpJs.cons (OpJ.move (ltN hN rfl) (Opd.tmp 11 (.d (.int .i64 (w64 ((1 : Int) + r1))))))
          (OpJs.cons (OpJ.move (ltN hN rfl) (Opd.tmp 12 (.d (.int .i64 r2))))
          (OpJs.cons (OpJ.move (ltN hN rfl) (Opd.tmp 13 (.d (.int .i64 r3))))
          (OpJs.cons (OpJ.add (ltN hN rfl) (Opd.tmp 109 (.d (.int .i64 r3))) (Opd.int .i64 (1)))
          (OpJs.cons (OpJ.move (ltN hN rfl) (Opd.tmp 14 (.d (.int .i64 (w64 ((1 : Int) + r4))))))
          (OpJs.cons (OpJ.move (ltN hN rfl) (Opd.tmp 15 (.d (.int .i64 (w64 ((1 : Int) + r5))))))
          (OpJs.cons (OpJ.min (ltN hN rfl) (Opd.tmp 111 (.d (.int .i64 (w64 ((1 : Int) + r4))))) (Opd.tmp 112 (.d (.int .i64 (w64 ((1 : Int) + r5))))))
          (OpJs.cons (OpJ.callFn hB fnOk17 (interval_Bounds_ac (w64 ((1 : Int) + r1)) r2 (w64 (r3 + (1 : Int))) (minI (w64 ((1 : Int) + r4)) (w64 ((1 : Int) + r5))) r23 hr23) [] (by kernel_rfl) (ltN hN rfl) (by kernel_rfl) (OpdL.cons (Opd.tmp 107 (.d (.int .i64 (w64 ((1 : Int) + r1))))) (OpdL.cons (Opd.tmp 108 (.d (.int .i64 r2))) (OpdL.cons (Opd.tmp 110 (.d (.int .i64 (w64 (r3 + (1 : Int)))))) (OpdL.cons (Opd.tmp 113 (.d (.int .i64 (minI (w64 ((1 : Int) + r4)) (w64 ((1 : Int) + r5)))))) OpdL.nil)))))
          (OpJs.cons (OpJ.move (ltN hN rfl) (Opd.tmp 114 (.tup [(.d (.int .i64 r23.1)), (.d (.int .i64 r23.2.1)), (.d (.int .i64 r23.2.2))])))
          (OpJs.cons (OpJ.extract (v := (.d (.int .i64 r23.1))) (by rfl) rfl (ltN hN rfl) (Opd.tmp 106 (.tup [(.d (.int .i64 r23.1)), (.d (.int .i64 r23.2.1)), (.d (.int .i64 r23.2.2))])))
          (OpJs.cons (OpJ.extract (v := (.d (.int .i64 r23.2.1))) (by rfl) rfl (ltN hN rfl) (Opd.tmp 106 (.tup [(.d (.int .i64 r23.1)), (.d (.int .i64 r23.2.1)), (.d (.int .i64 r23.2.2))])))
          (OpJs.cons (OpJ.extract (v := (.d (.int .i64 r23.2.2))) (by rfl) rfl (ltN hN rfl) (Opd.tmp 106 (.tup [(.d (.int .i64 r23.1)), (.d (.int .i64 r23.2.1)), (.d (.int .i64 r23.2.2))])))
          (OpJs.cons (OpJ.assign (ltN hN rfl) (Opd.tmp 115 (.d (.int .i64 r23.1))))
          (OpJs.cons (OpJ.assign (ltN hN rfl) (Opd.tmp 116 (.d (.int .i64 r23.2.1))))
          (OpJs.cons (OpJ.assign (ltN hN rfl) (Opd.tmp 117 (.d (.int .i64 r23.2.2))))
          (OpJs.nil)))))))))))))))) (by rfl) (by rfl) ?_
        refine seqQ_n ?_
        refine AWp.ghost (Mat.pat [] [(2, (.d (.int .i64 a2))), (11, (.d (.int .i64 (w64 ((1 : Int) + r1))))), (14, (.d (.int .i64 (w64 ((1 : Int) + r4))))), (16, (.d (.int .i64 r6.1))), (17, (.d (.int .i64 r6.2.1))), (22, (.d (.int .i64 r23.1))), (23, (.d (.int .i64 r23.2.1))), (24, (.d (.int .i64 r23.2.2)))] [] hB (by rfl) (by rfl) (by rfl)) ?_
        refine AWp.seq ?_
        refine AWp.region (OpJs.cons (OpJ.move (ltN hN rfl) (Opd.tmp 24 (.d (.int .i64 r23.2.2))))
          (OpJs.cons (OpJ.neqI (ltN hN rfl) (Opd.tmp 118 (.d (.int .i64 r23.2.2))) (Opd.int .i64 (0)))
          (OpJs.cons (OpJ.move (ltN hN rfl) (Opd.tmp 119 (.d (.bool (r23.2.2 != (0 : Int))))))
          (OpJs.cons (OpJ.opt' (v := (.d (.int .i64 r23.1))) (OpJ.move (ltN hN rfl) (Opd.tmp 22 (.d (.int .i64 r23.1)))) (by rfl) (GuardV.plain _) (ltN hN rfl) (by rfl) (by rfl) (by rfl) (by rfl) (OptL.keep rfl OptL.nil))
          (OpJs.cons (OpJ.opt' (v := (.d (.int .i64 r6.1))) (OpJ.move (ltN hN rfl) (Opd.tmp 16 (.d (.int .i64 r6.1)))) (by rfl) (GuardV.plain _) (ltN hN rfl) (by rfl) (by rfl) (by rfl) (by rfl) (OptL.keep rfl OptL.nil))
          (OpJs.cons (OpJ.opt' (v := (.d (.bool (decide (r23.1 < r6.1))))) (OpJ.lss (ltN hN rfl) (Opd.tmp 121 (.d (.int .i64 r23.1))) (Opd.tmp 122 (.d (.int .i64 r6.1)))) (by rfl) (GuardV.plain _) (ltN hN rfl) (by rfl) (by rfl) (by rfl) (by rfl) (OptL.opt (OptL.opt OptL.nil)))
          (OpJs.cons (OpJ.pickOr rfl (ltN hN rfl) (Opd.tmp 120 (.d (.bool (r23.2.2 != (0 : Int))))) (Opd.tmp 123 (.opt ((r23.2.2 != (0 : Int)) == false) (.d (.bool (decide (r23.1 < r6.1)))))))
          (OpJs.cons (OpJ.move (ltN hN rfl) (Opd.tmp 124 (.d (.bool ((r23.2.2 != (0 : Int)) || (decide (r23.1 < r6.1)))))))
          (OpJs.cons (OpJ.opt' (v := (.d (.int .i64 r23.2.1))) (OpJ.move (ltN hN rfl) (Opd.tmp 23 (.d (.int .i64 r23.2.1)))) (by rfl) (GuardV.plain _) (ltN hN rfl) (by rfl) (by rfl) (by rfl) (by rfl) (OptL.keep rfl OptL.nil))
          (OpJs.cons (OpJ.opt' (v := (.d (.int .i64 r6.2.1))) (OpJ.move (ltN hN rfl) (Opd.tmp 17 (.d (.int .i64 r6.2.1)))) (by rfl) (GuardV.plain _) (ltN hN rfl) (by rfl) (by rfl) (by rfl) (by rfl) (OptL.keep rfl OptL.nil))
          (OpJs.cons (OpJ.opt' (v := (.d (.bool (decide (r23.2.1 < r6.2.1))))) (OpJ.lss (ltN hN rfl) (Opd.tmp 126 (.d (.int .i64 r23.2.1))) (Opd.tmp 127 (.d (.int .i64 r6.2.1)))) (by rfl) (GuardV.plain _) (ltN hN rfl) (by rfl) (by rfl) (by rfl) (by rfl) (OptL.opt (OptL.opt OptL.nil)))
          (OpJs.cons (OpJ.pickOr rfl (ltN hN rfl) (Opd.tmp 125 (.d (.bool ((r23.2.2 != (0 : Int)) || (decide (r23.1 < r6.1)))))) (Opd.tmp 128 (.opt (((r23.2.2 != (0 : Int)) || (decide (r23.1 < r6.1))) == false) (.d (.bool (decide (r23.2.1 < r6.2.1)))))))
          (OpJs.nil))))))))))))) (by rfl) (by rfl) ?_
        refine seqQ_n ?_
        refine AWp.ghost (Mat.pat [] [(2, (.d (.int .i64 a2))), (11, (.d (.int .i64 (w64 ((1 : Int) + r1))))), (14, (.d (.int .i64 (w64 ((1 : Int) + r4))))), (129, (.d (.bool (((r23.2.2 != (0 : Int)) || (decide (r23.1 < r6.1))) || (decide (r23.2.1 < r6.2.1))))))] [] hB (by rfl) (by rfl) (by rfl)) ?_
        refine AWp.cond (b := (((r23.2.2 != (0 : Int)) || (decide (r23.1 < r6.1))) || (decide (r23.2.1 < r6.2.1)))) (by rfl) (fun hg24 => ?_) (fun hg24 => ?_)
        · replace h := ite_t hg24 h
          refine AWp.seq ?_
          refine AWp.region (OpJs.cons (OpJ.assign (ltN hN rfl) (Opd.bool false))
            (OpJs.nil)) (by rfl) (by rfl) ?_
          refine seqQ_n ?_
          refine AWp.ghost (Mat.pat [] [(10, (.d (.bool false)))] [] hB (by rfl) (by rfl) (by rfl)) ?_
          refine AWp.ret ?_
          refine seqQ_r ?_
          obtain rfl := Option.some.inj h
          exact ⟨.inl rfl, _, _, (Mat.pat [] [(10, (.d (.bool false)))] [] hB (by rfl) (by rfl) (by rfl)), [(.d (.bool false))], (Res.tmp (by rfl) (by rfl) Res.nil), rfl, by rfl, by rfl, by rfl⟩
        · replace h := ite_f hg24 h
          refine AWp.skip ?_
          exact hjj13 _ h _ _ (Mat.pat [] ((fun _ : Unit => ([(2, (.d (.int .i64 a2))), (11, (.d (.int .i64 (w64 ((1 : Int) + r1))))), (14, (.d (.int .i64 (w64 ((1 : Int) + r4)))))] : EL)) ()) ((fun _ : Unit => ([] : OL)) ()) hB (by rfl) (by rfl) (by rfl))
      · replace h := ite_f hg22 h
        refine AWp.skip ?_
        exact hjj13 _ h _ _ (Mat.pat [] ((fun _ : Unit => ([(2, (.d (.int .i64 a2))), (11, (.d (.int .i64 (w64 ((1 : Int) + r1))))), (14, (.d (.int .i64 (w64 ((1 : Int) + r4)))))] : EL)) ()) ((fun _ : Unit => ([] : OL)) ()) hB (by rfl) (by rfl) (by rfl))

noncomputable def interval_Cover_L0 (a0 : Int) (a1 : Int) (a2 : Int) (a3 : Int) (s4 : Int × Int × (List (List Int))) : Option (((Int × (List (List Int)))) ⊕ (Int × Int × (List (List Int)))) :=
  (if (decide (s4.2.1 ≤ a1)) = true then
  (interval_triangle_exactly s4.2.2 a0 a1 a2 s4.2.1).bind fun r27 =>
  jn (fun m31 : Int × (List (List Int)) =>
  some (.inr (m31.1, (w64 (s4.2.1 + (1 : Int))), m31.2))) (fun j32 =>
  (if (decide ((0 : Int) < r27.1)) = true then
  (interval_triangle_bounds r27.2 a0 a1 s4.2.1 a3).bind fun r34 =>
  (if ((decide (r34.1 ≤ a2)) && (decide (a2 ≤ r34.2.1))) = true then
  j32 ((w64 (s4.1 + r27.1)), r34.2.2)
  else
  j32 (s4.1, r34.2.2))
  else
  j32 (s4.1, r27.2)))
  else
  some (.inl (s4.1, s4.2.2)))
noncomputable def interval_Cover (a0 : Int) (a1 : Int) (a2 : Int) (a3 : Int) : Option (Int × Int × Int) :=
  (interval_valid a0 a1 a2 a3).bind fun r1 =>
  (if (!r1) = true then
  some ((0 : Int), (0 : Int), (1 : Int))
  else
  (interval_pascal).bind fun r3 =>
  (loop (interval_Cover_L0 a0 a1 a2 a3) ((0 : Int), (0 : Int), r3)).bind fun p25 =>
  (interval_triangle_choose p25.2 a0 a1).bind fun r38 =>
  some (p25.1, r38.1, (0 : Int)))
set_option maxHeartbeats 4000000 in
set_option maxRecDepth 100000 in
theorem interval_Cover_ac (a0 : Int) (a1 : Int) (a2 : Int) (a3 : Int) (r : Int × Int × Int) (h : interval_Cover a0 a1 a2 a3 = some r) : AC Try.prog 18 [(.d (.int .i64 a0)), (.d (.int .i64 a1)), (.d (.int .i64 a2)), (.d (.int .i64 a3))] [] (.tup [(.d (.int .i64 r.1)), (.d (.int .i64 r.2.1)), (.d (.int .i64 r.2.2))]) [] := by
  refine AC.of_code2 Try.func18 rfl rfl (Nat.le_of_ble_eq_true (by rfl)) fun B hB hN => ?_
  delta interval_Cover at h
  refine AWp.seq ?_
  refine AWp.region (OpJs.cons (OpJ.assign (ltN hN rfl) (Opd.int .i64 (0)))
  (OpJs.cons (OpJ.assign (ltN hN rfl) (Opd.int .i64 (0)))
  (OpJs.cons (OpJ.assign (ltN hN rfl) (Opd.int .i64 (0)))
  (OpJs.nil)))) (by rfl) (by rfl) ?_
  refine seqQ_n ?_
  refine AWp.ghost (Mat.pat [] [(0, (.d (.int .i64 a0))), (1, (.d (.int .i64 a1))), (2, (.d (.int .i64 a2))), (3, (.d (.int .i64 a3)))] [] hB (by rfl) (by rfl) (by rfl)) ?_
  refine AWp.seq ?_
  refine AWp.seq ?_
  obtain ⟨r1, hr1, h⟩ := bindS h
  refine AWp.region (OpJs.cons (OpJ.move (ltN hN rfl) (Opd.tmp 0 (.d (.int .i64 a0))))
  (OpJs.cons (OpJ.move (ltN hN rfl) (Opd.tmp 1 (.d (.int .i64 a1))))
  (OpJs.cons (OpJ.move (ltN hN rfl) (Opd.tmp 2 (.d (.int .i64 a2))))
  (OpJs.cons (OpJ.move (ltN hN rfl) (Opd.tmp 3 (.d (.int .i64 a3))))
  (OpJs.cons (OpJ.callFn hB fnOk24 (interval_valid_ac a0 a1 a2 a3 r1 hr1) [] (by kernel_rfl) (ltN hN rfl) (by kernel_rfl) (OpdL.cons (Opd.tmp 17 (.d (.int .i64 a0))) (OpdL.cons (Opd.tmp 18 (.d (.int .i64 a1))) (OpdL.cons (Opd.tmp 19 (.d (.int .i64 a2))) (OpdL.cons (Opd.tmp 20 (.d (.int .i64 a3))) OpdL.nil)))))
  (OpJs.cons (OpJ.not (ltN hN rfl) (Opd.tmp 21 (.d (.bool r1))))
  (OpJs.nil))))))) (by rfl) (by rfl) ?_
  refine seqQ_n ?_
  refine AWp.ghost (Mat.pat [] [(0, (.d (.int .i64 a0))), (1, (.d (.int .i64 a1))), (2, (.d (.int .i64 a2))), (3, (.d (.int .i64 a3))), (22, (.d (.bool (!r1))))] [] hB (by rfl) (by rfl) (by rfl)) ?_
  refine AWp.cond (b := (!r1)) (by rfl) (fun hg2 => ?_) (fun hg2 => ?_)
  · replace h := ite_t hg2 h
    refine AWp.seq ?_
    refine AWp.region (OpJs.cons (OpJ.assign (ltN hN rfl) (Opd.int .i64 (0)))
      (OpJs.cons (OpJ.assign (ltN hN rfl) (Opd.int .i64 (0)))
      (OpJs.cons (OpJ.assign (ltN hN rfl) (Opd.int .i64 (1)))
      (OpJs.nil)))) (by rfl) (by rfl) ?_
    refine seqQ_n ?_
    refine AWp.ghost (Mat.pat [] [(8, (.d (.int .i64 (0 : Int)))), (9, (.d (.int .i64 (0 : Int)))), (10, (.d (.int .i64 (1 : Int))))] [] hB (by rfl) (by rfl) (by rfl)) ?_
    refine AWp.ret ?_
    refine seqQ_r ?_
    obtain rfl := Option.some.inj h
    exact ⟨.inl rfl, _, _, (Mat.pat [] [(8, (.d (.int .i64 (0 : Int)))), (9, (.d (.int .i64 (0 : Int)))), (10, (.d (.int .i64 (1 : Int))))] [] hB (by rfl) (by rfl) (by rfl)), [(.d (.int .i64 (0 : Int))), (.d (.int .i64 (0 : Int))), (.d (.int .i64 (1 : Int)))], (Res.tmp (by rfl) (by rfl) (Res.tmp (by rfl) (by rfl) (Res.tmp (by rfl) (by rfl) Res.nil))), rfl, by rfl, by rfl, by rfl⟩
  · replace h := ite_f hg2 h
    refine AWp.skip ?_
    refine seqQ_n ?_
    refine AWp.seq ?_
    obtain ⟨r3, hr3, h⟩ := bindS h
    refine AWp.region (OpJs.cons (OpJ.callFn hB fnOk21 (interval_pascal_ac  r3 hr3) [(1001, 100230)] (by kernel_rfl) (ltN hN rfl) (by kernel_rfl) OpdL.nil)
      (OpJs.cons (OpJ.assign (ltN hN rfl) (Opd.tmp 23 (.ptr 100230 0 [])))
      (OpJs.nil))) (by rfl) (by rfl) ?_
    refine seqQ_n ?_
    refine AWp.ghost (Mat.pat [] [(0, (.d (.int .i64 a0))), (1, (.d (.int .i64 a1))), (2, (.d (.int .i64 a2))), (3, (.d (.int .i64 a3))), (11, (.ptr 100230 0 []))] [(100230, some (.box 42 (.d (.arr 61 61 (r3.map e_A61eIi64)))))] hB (by rfl) (by rfl) (by rfl)) ?_
    refine AWp.seq ?_
    refine AWp.region (OpJs.cons (OpJ.assign (ltN hN rfl) (Opd.int .i64 (0)))
      (OpJs.nil)) (by rfl) (by rfl) ?_
    refine seqQ_n ?_
    refine AWp.ghost (Mat.pat [] [(0, (.d (.int .i64 a0))), (1, (.d (.int .i64 a1))), (2, (.d (.int .i64 a2))), (3, (.d (.int .i64 a3))), (11, (.ptr 100230 0 [])), (12, (.d (.int .i64 (0 : Int))))] [(100230, some (.box 42 (.d (.arr 61 61 (r3.map e_A61eIi64)))))] hB (by rfl) (by rfl) (by rfl)) ?_
    refine AWp.seq ?_
    refine AWp.seq ?_
    refine AWp.region (OpJs.cons (OpJ.assign (ltN hN rfl) (Opd.int .i64 (0)))
      (OpJs.nil)) (by rfl) (by rfl) ?_
    refine seqQ_n ?_
    refine AWp.ghost (Mat.pat [] [(0, (.d (.int .i64 a0))), (1, (.d (.int .i64 a1))), (2, (.d (.int .i64 a2))), (3, (.d (.int .i64 a3))), (11, (.ptr 100230 0 [])), (12, (.d (.int .i64 (0 : Int)))), (13, (.d (.int .i64 (0 : Int))))] [(100230, some (.box 42 (.d (.arr 61 61 (r3.map e_A61eIi64)))))] hB (by rfl) (by rfl) (by rfl)) ?_
    refine AWp.block ?_
    obtain ⟨p25, hx37, h⟩ := bindS h
    refine AWp.ghost (Mat.pat [] ((fun s4 : Int × Int × (List (List Int)) => ([(0, (.d (.int .i64 a0))), (1, (.d (.int .i64 a1))), (2, (.d (.int .i64 a2))), (3, (.d (.int .i64 a3))), (11, (.ptr 100230 0 [])), (12, (.d (.int .i64 s4.1))), (13, (.d (.int .i64 s4.2.1)))] : EL)) ((0 : Int), (0 : Int), r3)) ((fun s4 : Int × Int × (List (List Int)) => ([(100230, some (.box 42 (.d (.arr 61 61 (s4.2.2.map e_A61eIi64)))))] : OL)) ((0 : Int), (0 : Int), r3)) hB (by rfl) (by rfl) (by rfl)) ?_
    refine AWp.loopS (interval_Cover_L0 a0 a1 a2 a3) (fun s4 : Int × Int × (List (List Int)) => ([(0, (.d (.int .i64 a0))), (1, (.d (.int .i64 a1))), (2, (.d (.int .i64 a2))), (3, (.d (.int .i64 a3))), (11, (.ptr 100230 0 [])), (12, (.d (.int .i64 s4.1))), (13, (.d (.int .i64 s4.2.1)))] : EL)) (fun s4 : Int × Int × (List (List Int)) => ([(100230, some (.box 42 (.d (.arr 61 61 (s4.2.2.map e_A61eIi64)))))] : OL)) (fun (p25 : (Int × (List (List Int)))) e E' O' => e = .exit 0 ∧ Mat B E' O' ([(0, (.d (.int .i64 a0))), (1, (.d (.int .i64 a1))), (11, (.ptr 100230 0 [])), (12, (.d (.int .i64 p25.1)))] : EL) ([(100230, some (.box 42 (.d (.arr 61 61 (p25.2.map e_A61eIi64)))))] : OL)) hx37 (fun s4 y h => ?_) (fun e E' O' hR => ?_)
    · unfold interval_Cover_L0 at h
      show AWp _ _ _ _ ([(0, (.d (.int .i64 a0))), (1, (.d (.int .i64 a1))), (2, (.d (.int .i64 a2))), (3, (.d (.int .i64 a3))), (11, (.ptr 100230 0 [])), (12, (.d (.int .i64 s4.1))), (13, (.d (.int .i64 s4.2.1)))] : EL) ([(100230, some (.box 42 (.d (.arr 61 61 (s4.2.2.map e_A61eIi64)))))] : OL)
      refine AWp.seq ?_
      refine AWp.seq ?_
      refine AWp.region (OpJs.cons (OpJ.move (ltN hN rfl) (Opd.tmp 13 (.d (.int .i64 s4.2.1))))
        (OpJs.cons (OpJ.move (ltN hN rfl) (Opd.tmp 1 (.d (.int .i64 a1))))
        (OpJs.cons (OpJ.leq (ltN hN rfl) (Opd.tmp 24 (.d (.int .i64 s4.2.1))) (Opd.tmp 25 (.d (.int .i64 a1))))
        (OpJs.nil)))) (by rfl) (by rfl) ?_
      refine seqQ_n ?_
      refine AWp.ghost (Mat.pat [] [(0, (.d (.int .i64 a0))), (1, (.d (.int .i64 a1))), (2, (.d (.int .i64 a2))), (3, (.d (.int .i64 a3))), (11, (.ptr 100230 0 [])), (12, (.d (.int .i64 s4.1))), (13, (.d (.int .i64 s4.2.1))), (26, (.d (.bool (decide (s4.2.1 ≤ a1)))))] [(100230, some (.box 42 (.d (.arr 61 61 (s4.2.2.map e_A61eIi64)))))] hB (by rfl) (by rfl) (by rfl)) ?_
      refine AWp.cond (b := (decide (s4.2.1 ≤ a1))) (by rfl) (fun hg26 => ?_) (fun hg26 => ?_)
      · replace h := ite_t hg26 h
        refine AWp.skip ?_
        refine seqQ_n ?_
        refine AWp.seq ?_
        refine AWp.block ?_
        refine AWp.seq ?_
        obtain ⟨r27, hr27, h⟩ := bindS h
        refine AWp.region (OpJs.cons (OpJ.move (ltN hN rfl) (Opd.tmp 11 (.ptr 100230 0 [])))
          (OpJs.cons (OpJ.move (ltN hN rfl) (Opd.tmp 0 (.d (.int .i64 a0))))
          (OpJs.cons (OpJ.move (ltN hN rfl) (Opd.tmp 1 (.d (.int .i64 a1))))
          (OpJs.cons (OpJ.move (ltN hN rfl) (Opd.tmp 2 (.d (.int .i64 a2))))
          (OpJs.cons (OpJ.move (ltN hN rfl) (Opd.tmp 13 (.d (.int .i64 s4.2.1))))
          (OpJs.cons (OpJ.callFn hB fnOk29 (interval_triangle_exactly_ac s4.2.2 a0 a1 a2 s4.2.1 r27 hr27) [(0, 100230)] (by kernel_rfl) (ltN hN rfl) (by kernel_rfl) (OpdL.cons (Opd.tmp 29 (.ptr 100230 0 [])) (OpdL.cons (Opd.tmp 30 (.d (.int .i64 a0))) (OpdL.cons (Opd.tmp 31 (.d (.int .i64 a1))) (OpdL.cons (Opd.tmp 32 (.d (.int .i64 a2))) (OpdL.cons (Opd.tmp 33 (.d (.int .i64 s4.2.1))) OpdL.nil))))))
          (OpJs.cons (OpJ.assign (ltN hN rfl) (Opd.tmp 34 (.d (.int .i64 r27.1))))
          (OpJs.nil)))))))) (by rfl) (by rfl) ?_
        refine seqQ_n ?_
        refine AWp.ghost (Mat.pat [] [(0, (.d (.int .i64 a0))), (1, (.d (.int .i64 a1))), (2, (.d (.int .i64 a2))), (3, (.d (.int .i64 a3))), (11, (.ptr 100230 0 [])), (12, (.d (.int .i64 s4.1))), (13, (.d (.int .i64 s4.2.1))), (14, (.d (.int .i64 r27.1)))] [(100230, some (.box 42 (.d (.arr 61 61 (r27.2.map e_A61eIi64)))))] hB (by rfl) (by rfl) (by rfl)) ?_
        refine AWp.seq ?_
        refine AWp.region (OpJs.cons (OpJ.move (ltN hN rfl) (Opd.tmp 14 (.d (.int .i64 r27.1))))
          (OpJs.cons (OpJ.gtr (ltN hN rfl) (Opd.tmp 35 (.d (.int .i64 r27.1))) (Opd.int .i64 (0)))
          (OpJs.nil))) (by rfl) (by rfl) ?_
        refine seqQ_n ?_
        refine AWp.ghost (Mat.pat [] [(0, (.d (.int .i64 a0))), (1, (.d (.int .i64 a1))), (2, (.d (.int .i64 a2))), (3, (.d (.int .i64 a3))), (11, (.ptr 100230 0 [])), (12, (.d (.int .i64 s4.1))), (13, (.d (.int .i64 s4.2.1))), (14, (.d (.int .i64 r27.1))), (36, (.d (.bool (decide ((0 : Int) < r27.1)))))] [(100230, some (.box 42 (.d (.arr 61 61 (r27.2.map e_A61eIi64)))))] hB (by rfl) (by rfl) (by rfl)) ?_
        refine AWp.cut h (fun m31 : Int × (List (List Int)) => ([(0, (.d (.int .i64 a0))), (1, (.d (.int .i64 a1))), (2, (.d (.int .i64 a2))), (3, (.d (.int .i64 a3))), (11, (.ptr 100230 0 [])), (12, (.d (.int .i64 m31.1))), (13, (.d (.int .i64 s4.2.1)))] : EL)) (fun m31 : Int × (List (List Int)) => ([(100230, some (.box 42 (.d (.arr 61 61 (m31.2.map e_A61eIi64)))))] : OL)) (fun m31 h E' O' hmat => ?_) (fun j32 hjj32 h => ?_)
        · refine blkQ_n ?_
          refine seqQ_n ?_
          refine AWp.ghost hmat ?_
          refine AWp.region (OpJs.cons (OpJ.move (ltN hN rfl) (Opd.tmp 13 (.d (.int .i64 s4.2.1))))
            (OpJs.cons (OpJ.add (ltN hN rfl) (Opd.tmp 27 (.d (.int .i64 s4.2.1))) (Opd.int .i64 (1)))
            (OpJs.cons (OpJ.assign (ltN hN rfl) (Opd.tmp 28 (.d (.int .i64 (w64 (s4.2.1 + (1 : Int)))))))
            (OpJs.nil)))) (by rfl) (by rfl) ?_
          obtain rfl := Option.some.inj h
          exact ⟨rfl, (Mat.trans (Mat.pat [] [(0, (.d (.int .i64 a0))), (1, (.d (.int .i64 a1))), (2, (.d (.int .i64 a2))), (3, (.d (.int .i64 a3))), (11, (.ptr 100230 0 [])), (12, (.d (.int .i64 m31.1))), (13, (.d (.int .i64 (w64 (s4.2.1 + (1 : Int))))))] [(100230, some (.box 42 (.d (.arr 61 61 (m31.2.map e_A61eIi64)))))] hB (by rfl) (by rfl) (by rfl)) (Mat.pat [] ((fun s4 : Int × Int × (List (List Int)) => ([(0, (.d (.int .i64 a0))), (1, (.d (.int .i64 a1))), (2, (.d (.int .i64 a2))), (3, (.d (.int .i64 a3))), (11, (.ptr 100230 0 [])), (12, (.d (.int .i64 s4.1))), (13, (.d (.int .i64 s4.2.1)))] : EL)) (m31.1, (w64 (s4.2.1 + (1 : Int))), m31.2)) ((fun s4 : Int × Int × (List (List Int)) => ([(100230, some (.box 42 (.d (.arr 61 61 (s4.2.2.map e_A61eIi64)))))] : OL)) (m31.1, (w64 (s4.2.1 + (1 : Int))), m31.2)) hB (by rfl) (by rfl) (by rfl)))⟩
        · refine AWp.cond (b := (decide ((0 : Int) < r27.1))) (by rfl) (fun hg33 => ?_) (fun hg33 => ?_)
          · replace h := ite_t hg33 h
            refine AWp.seq ?_
            obtain ⟨r34, hr34, h⟩ := bindS h
            refine AWp.region (OpJs.cons (OpJ.move (ltN hN rfl) (Opd.tmp 11 (.ptr 100230 0 [])))
              (OpJs.cons (OpJ.move (ltN hN rfl) (Opd.tmp 0 (.d (.int .i64 a0))))
              (OpJs.cons (OpJ.move (ltN hN rfl) (Opd.tmp 1 (.d (.int .i64 a1))))
              (OpJs.cons (OpJ.move (ltN hN rfl) (Opd.tmp 13 (.d (.int .i64 s4.2.1))))
              (OpJs.cons (OpJ.move (ltN hN rfl) (Opd.tmp 3 (.d (.int .i64 a3))))
              (OpJs.cons (OpJ.callFn hB fnOk28 (interval_triangle_bounds_ac r27.2 a0 a1 s4.2.1 a3 r34 hr34) [(0, 100230)] (by kernel_rfl) (ltN hN rfl) (by kernel_rfl) (OpdL.cons (Opd.tmp 38 (.ptr 100230 0 [])) (OpdL.cons (Opd.tmp 39 (.d (.int .i64 a0))) (OpdL.cons (Opd.tmp 40 (.d (.int .i64 a1))) (OpdL.cons (Opd.tmp 41 (.d (.int .i64 s4.2.1))) (OpdL.cons (Opd.tmp 42 (.d (.int .i64 a3))) OpdL.nil))))))
              (OpJs.cons (OpJ.move (ltN hN rfl) (Opd.tmp 43 (.tup [(.d (.int .i64 r34.1)), (.d (.int .i64 r34.2.1))])))
              (OpJs.cons (OpJ.extract (v := (.d (.int .i64 r34.1))) (by rfl) rfl (ltN hN rfl) (Opd.tmp 37 (.tup [(.d (.int .i64 r34.1)), (.d (.int .i64 r34.2.1))])))
              (OpJs.cons (OpJ.extract (v := (.d (.int .i64 r34.2.1))) (by rfl) rfl (ltN hN rfl) (Opd.tmp 37 (.tup [(.d (.int .i64 r34.1)), (.d (.int .i64 r34.2.1))])))
              (OpJs.cons (OpJ.assign (ltN hN rfl) (Opd.tmp 44 (.d (.int .i64 r34.1))))
              (OpJs.cons (OpJ.assign (ltN hN rfl) (Opd.tmp 45 (.d (.int .i64 r34.2.1))))
              (OpJs.nil)))))))))))) (by rfl) (by rfl) ?_
            refine seqQ_n ?_
            refine AWp.ghost (Mat.pat [] [(0, (.d (.int .i64 a0))), (1, (.d (.int .i64 a1))), (2, (.d (.int .i64 a2))), (3, (.d (.int .i64 a3))), (11, (.ptr 100230 0 [])), (12, (.d (.int .i64 s4.1))), (13, (.d (.int .i64 s4.2.1))), (14, (.d (.int .i64 r27.1))), (15, (.d (.int .i64 r34.1))), (16, (.d (.int .i64 r34.2.1)))] [(100230, some (.box 42 (.d (.arr 61 61 (r34.2.2.map e_A61eIi64)))))] hB (by rfl) (by rfl) (by rfl)) ?_
            refine AWp.seq ?_
            refine AWp.region (OpJs.cons (OpJ.move (ltN hN rfl) (Opd.tmp 15 (.d (.int .i64 r34.1))))
              (OpJs.cons (OpJ.move (ltN hN rfl) (Opd.tmp 2 (.d (.int .i64 a2))))
              (OpJs.cons (OpJ.leq (ltN hN rfl) (Opd.tmp 46 (.d (.int .i64 r34.1))) (Opd.tmp 47 (.d (.int .i64 a2))))
              (OpJs.cons (OpJ.move (ltN hN rfl) (Opd.tmp 48 (.d (.bool (decide (r34.1 ≤ a2))))))
              (OpJs.cons (OpJ.opt' (v := (.d (.int .i64 a2))) (OpJ.move (ltN hN rfl) (Opd.tmp 2 (.d (.int .i64 a2)))) (by rfl) (GuardV.plain _) (ltN hN rfl) (by rfl) (by rfl) (by rfl) (by rfl) (OptL.keep rfl OptL.nil))
              (OpJs.cons (OpJ.opt' (v := (.d (.int .i64 r34.2.1))) (OpJ.move (ltN hN rfl) (Opd.tmp 16 (.d (.int .i64 r34.2.1)))) (by rfl) (GuardV.plain _) (ltN hN rfl) (by rfl) (by rfl) (by rfl) (by rfl) (OptL.keep rfl OptL.nil))
              (OpJs.cons (OpJ.opt' (v := (.d (.bool (decide (a2 ≤ r34.2.1))))) (OpJ.leq (ltN hN rfl) (Opd.tmp 50 (.d (.int .i64 a2))) (Opd.tmp 51 (.d (.int .i64 r34.2.1)))) (by rfl) (GuardV.plain _) (ltN hN rfl) (by rfl) (by rfl) (by rfl) (by rfl) (OptL.opt (OptL.opt OptL.nil)))
              (OpJs.cons (OpJ.pickAnd rfl (ltN hN rfl) (Opd.tmp 49 (.d (.bool (decide (r34.1 ≤ a2))))) (Opd.tmp 52 (.opt ((decide (r34.1 ≤ a2)) == true) (.d (.bool (decide (a2 ≤ r34.2.1)))))))
              (OpJs.nil))))))))) (by rfl) (by rfl) ?_
            refine seqQ_n ?_
            refine AWp.ghost (Mat.pat [] [(0, (.d (.int .i64 a0))), (1, (.d (.int .i64 a1))), (2, (.d (.int .i64 a2))), (3, (.d (.int .i64 a3))), (11, (.ptr 100230 0 [])), (12, (.d (.int .i64 s4.1))), (13, (.d (.int .i64 s4.2.1))), (14, (.d (.int .i64 r27.1))), (53, (.d (.bool ((decide (r34.1 ≤ a2)) && (decide (a2 ≤ r34.2.1))))))] [(100230, some (.box 42 (.d (.arr 61 61 (r34.2.2.map e_A61eIi64)))))] hB (by rfl) (by rfl) (by rfl)) ?_
            refine AWp.cond (b := ((decide (r34.1 ≤ a2)) && (decide (a2 ≤ r34.2.1)))) (by rfl) (fun hg35 => ?_) (fun hg35 => ?_)
            · replace h := ite_t hg35 h
              refine AWp.region (OpJs.cons (OpJ.move (ltN hN rfl) (Opd.tmp 12 (.d (.int .i64 s4.1))))
                (OpJs.cons (OpJ.move (ltN hN rfl) (Opd.tmp 14 (.d (.int .i64 r27.1))))
                (OpJs.cons (OpJ.add (ltN hN rfl) (Opd.tmp 54 (.d (.int .i64 s4.1))) (Opd.tmp 55 (.d (.int .i64 r27.1))))
                (OpJs.cons (OpJ.assign (ltN hN rfl) (Opd.tmp 56 (.d (.int .i64 (w64 (s4.1 + r27.1))))))
                (OpJs.nil))))) (by rfl) (by rfl) ?_
              exact hjj32 _ h _ _ (Mat.trans (Mat.pat [] [(0, (.d (.int .i64 a0))), (1, (.d (.int .i64 a1))), (2, (.d (.int .i64 a2))), (3, (.d (.int .i64 a3))), (11, (.ptr 100230 0 [])), (12, (.d (.int .i64 (w64 (s4.1 + r27.1))))), (13, (.d (.int .i64 s4.2.1)))] [(100230, some (.box 42 (.d (.arr 61 61 (r34.2.2.map e_A61eIi64)))))] hB (by rfl) (by rfl) (by rfl)) (Mat.pat [] ((fun m31 : Int × (List (List Int)) => ([(0, (.d (.int .i64 a0))), (1, (.d (.int .i64 a1))), (2, (.d (.int .i64 a2))), (3, (.d (.int .i64 a3))), (11, (.ptr 100230 0 [])), (12, (.d (.int .i64 m31.1))), (13, (.d (.int .i64 s4.2.1)))] : EL)) ((w64 (s4.1 + r27.1)), r34.2.2)) ((fun m31 : Int × (List (List Int)) => ([(100230, some (.box 42 (.d (.arr 61 61 (m31.2.map e_A61eIi64)))))] : OL)) ((w64 (s4.1 + r27.1)), r34.2.2)) hB (by rfl) (by rfl) (by rfl)))
            · replace h := ite_f hg35 h
              refine AWp.skip ?_
              exact hjj32 _ h _ _ (Mat.pat [] ((fun m31 : Int × (List (List Int)) => ([(0, (.d (.int .i64 a0))), (1, (.d (.int .i64 a1))), (2, (.d (.int .i64 a2))), (3, (.d (.int .i64 a3))), (11, (.ptr 100230 0 [])), (12, (.d (.int .i64 m31.1))), (13, (.d (.int .i64 s4.2.1)))] : EL)) (s4.1, r34.2.2)) ((fun m31 : Int × (List (List Int)) => ([(100230, some (.box 42 (.d (.arr 61 61 (m31.2.map e_A61eIi64)))))] : OL)) (s4.1, r34.2.2)) hB (by rfl) (by rfl) (by rfl))
          · replace h := ite_f hg33 h
            refine AWp.skip ?_
            exact hjj32 _ h _ _ (Mat.pat [] ((fun m31 : Int × (List (List Int)) => ([(0, (.d (.int .i64 a0))), (1, (.d (.int .i64 a1))), (2, (.d (.int .i64 a2))), (3, (.d (.int .i64 a3))), (11, (.ptr 100230 0 [])), (12, (.d (.int .i64 m31.1))), (13, (.d (.int .i64 s4.2.1)))] : EL)) (s4.1, r27.2)) ((fun m31 : Int × (List (List Int)) => ([(100230, some (.box 42 (.d (.arr 61 61 (m31.2.map e_A61eIi64)))))] : OL)) (s4.1, r27.2)) hB (by rfl) (by rfl) (by rfl))
      · replace h := ite_f hg26 h
        refine AWp.exit ?_
        refine seqQ_e ?_
        obtain rfl := Option.some.inj h
        exact ⟨(fun hc => by cases hc), rfl, (Mat.pat [] ((fun p25 : Int × (List (List Int)) => ([(0, (.d (.int .i64 a0))), (1, (.d (.int .i64 a1))), (11, (.ptr 100230 0 [])), (12, (.d (.int .i64 p25.1)))] : EL)) (s4.1, s4.2.2)) ((fun p25 : Int × (List (List Int)) => ([(100230, some (.box 42 (.d (.arr 61 61 (p25.2.map e_A61eIi64)))))] : OL)) (s4.1, s4.2.2)) hB (by rfl) (by rfl) (by rfl))⟩
    · obtain ⟨rfl, hmat⟩ := hR
      refine blkQ_hit ?_
      refine seqQ_n ?_
      refine AWp.ghost hmat ?_
      refine AWp.seq ?_
      obtain ⟨r38, hr38, h⟩ := bindS h
      refine AWp.region (OpJs.cons (OpJ.move (ltN hN rfl) (Opd.tmp 12 (.d (.int .i64 p25.1))))
        (OpJs.cons (OpJ.move (ltN hN rfl) (Opd.tmp 11 (.ptr 100230 0 [])))
        (OpJs.cons (OpJ.move (ltN hN rfl) (Opd.tmp 0 (.d (.int .i64 a0))))
        (OpJs.cons (OpJ.move (ltN hN rfl) (Opd.tmp 1 (.d (.int .i64 a1))))
        (OpJs.cons (OpJ.callFn hB fnOk22 (interval_triangle_choose_ac p25.2 a0 a1 r38 hr38) [(0, 100230)] (by kernel_rfl) (ltN hN rfl) (by kernel_rfl) (OpdL.cons (Opd.tmp 58 (.ptr 100230 0 [])) (OpdL.cons (Opd.tmp 59 (.d (.int .i64 a0))) (OpdL.cons (Opd.tmp 60 (.d (.int .i64 a1))) OpdL.nil))))
        (OpJs.cons (OpJ.assign (ltN hN rfl) (Opd.tmp 57 (.d (.int .i64 p25.1))))
        (OpJs.cons (OpJ.assign (ltN hN rfl) (Opd.tmp 61 (.d (.int .i64 r38.1))))
        (OpJs.cons (OpJ.assign (ltN hN rfl) (Opd.int .i64 (0)))
        (OpJs.nil))))))))) (by rfl) (by rfl) ?_
      refine seqQ_n ?_
      refine AWp.ghost (Mat.pat [] [(8, (.d (.int .i64 p25.1))), (9, (.d (.int .i64 r38.1))), (10, (.d (.int .i64 (0 : Int))))] [] hB (by rfl) (by rfl) (by rfl)) ?_
      refine AWp.ret ?_
      obtain rfl := Option.some.inj h
      exact ⟨.inl rfl, _, _, (Mat.pat [] [(8, (.d (.int .i64 p25.1))), (9, (.d (.int .i64 r38.1))), (10, (.d (.int .i64 (0 : Int))))] [] hB (by rfl) (by rfl) (by rfl)), [(.d (.int .i64 p25.1)), (.d (.int .i64 r38.1)), (.d (.int .i64 (0 : Int)))], (Res.tmp (by rfl) (by rfl) (Res.tmp (by rfl) (by rfl) (Res.tmp (by rfl) (by rfl) Res.nil))), rfl, by rfl, by rfl, by rfl⟩

noncomputable def exchangepointlaw39_IntervalCovers (a0 : Int) (a1 : Int) (a2 : Int) (a3 : Int) : Option (Bool) :=
  (exchangepointmill_Mod a0 (14 : Int)).bind fun r1 =>
  (exchangepointmill_Mod a1 (w64 ((w64 ((1 : Int) + r1)) + (1 : Int)))).bind fun r2 =>
  (exchangepointmill_Mod a3 (999 : Int)).bind fun r3 =>
  (exchangepointmill_Mod a2 (w64 ((w64 ((1 : Int) + r1)) + (1 : Int)))).bind fun r4 =>
  (interval_Cover (w64 ((1 : Int) + r1)) r2 r4 (w64 ((1 : Int) + r3))).bind fun r5 =>
  jn (fun m8 : Bool =>
  some m8) (fun j9 =>
  (if ((((r5.2.2 == (0 : Int)) && (decide ((0 : Int) < r5.2.1))) && (decide (r5.1 ≤ r5.2.1))) && (decide ((w64 ((w64 ((1000 : Int) - (w64 ((1 : Int) + r3)))) * r5.2.1)) ≤ (w64 ((1000 : Int) * r5.1))))) = true then
  (exchangepointlaw39_awake).bind fun r11 =>
  j9 r11
  else
  j9 false))
set_option maxHeartbeats 4000000 in
set_option maxRecDepth 100000 in
theorem exchangepointlaw39_IntervalCovers_ac (a0 : Int) (a1 : Int) (a2 : Int) (a3 : Int) (r : Bool) (h : exchangepointlaw39_IntervalCovers a0 a1 a2 a3 = some r) : AC Try.prog 6 [(.d (.int .i64 a0)), (.d (.int .i64 a1)), (.d (.int .i64 a2)), (.d (.int .i64 a3))] [] (.d (.bool r)) [] := by
  refine AC.of_code2 Try.func6 rfl rfl (Nat.le_of_ble_eq_true (by rfl)) fun B hB hN => ?_
  delta exchangepointlaw39_IntervalCovers at h
  refine AWp.seq ?_
  refine AWp.region (OpJs.cons (OpJ.assign (ltN hN rfl) (Opd.bool false))
  (OpJs.nil)) (by rfl) (by rfl) ?_
  refine seqQ_n ?_
  refine AWp.ghost (Mat.pat [] [(0, (.d (.int .i64 a0))), (1, (.d (.int .i64 a1))), (2, (.d (.int .i64 a2))), (3, (.d (.int .i64 a3)))] [] hB (by rfl) (by rfl) (by rfl)) ?_
  refine AWp.seq ?_
  obtain ⟨r1, hr1, h⟩ := bindS h
  refine AWp.region (OpJs.cons (OpJ.move (ltN hN rfl) (Opd.tmp 0 (.d (.int .i64 a0))))
  (OpJs.cons (OpJ.callFn hB fnOk9 (exchangepointmill_Mod_ac a0 (14 : Int) r1 hr1) [] (by kernel_rfl) (ltN hN rfl) (by kernel_rfl) (OpdL.cons (Opd.tmp 15 (.d (.int .i64 a0))) (OpdL.cons (Opd.int .i64 (14)) OpdL.nil)))
  (OpJs.cons (OpJ.add (ltN hN rfl) (Opd.int .i64 (1)) (Opd.tmp 16 (.d (.int .i64 r1))))
  (OpJs.cons (OpJ.assign (ltN hN rfl) (Opd.tmp 17 (.d (.int .i64 (w64 ((1 : Int) + r1))))))
  (OpJs.nil))))) (by rfl) (by rfl) ?_
  refine seqQ_n ?_
  refine AWp.ghost (Mat.pat [] [(1, (.d (.int .i64 a1))), (2, (.d (.int .i64 a2))), (3, (.d (.int .i64 a3))), (9, (.d (.int .i64 (w64 ((1 : Int) + r1)))))] [] hB (by rfl) (by rfl) (by rfl)) ?_
  refine AWp.seq ?_
  obtain ⟨r2, hr2, h⟩ := bindS h
  obtain ⟨r3, hr3, h⟩ := bindS h
  refine AWp.region (OpJs.cons (OpJ.move (ltN hN rfl) (Opd.tmp 1 (.d (.int .i64 a1))))
  (OpJs.cons (OpJ.move (ltN hN rfl) (Opd.tmp 9 (.d (.int .i64 (w64 ((1 : Int) + r1))))))
  (OpJs.cons (OpJ.add (ltN hN rfl) (Opd.tmp 19 (.d (.int .i64 (w64 ((1 : Int) + r1))))) (Opd.int .i64 (1)))
  (OpJs.cons (OpJ.callFn hB fnOk9 (exchangepointmill_Mod_ac a1 (w64 ((w64 ((1 : Int) + r1)) + (1 : Int))) r2 hr2) [] (by kernel_rfl) (ltN hN rfl) (by kernel_rfl) (OpdL.cons (Opd.tmp 18 (.d (.int .i64 a1))) (OpdL.cons (Opd.tmp 20 (.d (.int .i64 (w64 ((w64 ((1 : Int) + r1)) + (1 : Int)))))) OpdL.nil)))
  (OpJs.cons (OpJ.move (ltN hN rfl) (Opd.tmp 3 (.d (.int .i64 a3))))
  (OpJs.cons (OpJ.callFn hB fnOk9 (exchangepointmill_Mod_ac a3 (999 : Int) r3 hr3) [] (by kernel_rfl) (ltN hN rfl) (by kernel_rfl) (OpdL.cons (Opd.tmp 22 (.d (.int .i64 a3))) (OpdL.cons (Opd.int .i64 (999)) OpdL.nil)))
  (OpJs.cons (OpJ.add (ltN hN rfl) (Opd.int .i64 (1)) (Opd.tmp 23 (.d (.int .i64 r3))))
  (OpJs.cons (OpJ.assign (ltN hN rfl) (Opd.tmp 21 (.d (.int .i64 r2))))
  (OpJs.cons (OpJ.assign (ltN hN rfl) (Opd.tmp 24 (.d (.int .i64 (w64 ((1 : Int) + r3))))))
  (OpJs.nil)))))))))) (by rfl) (by rfl) ?_
  refine seqQ_n ?_
  refine AWp.ghost (Mat.pat [] [(2, (.d (.int .i64 a2))), (9, (.d (.int .i64 (w64 ((1 : Int) + r1))))), (10, (.d (.int .i64 r2))), (11, (.d (.int .i64 (w64 ((1 : Int) + r3)))))] [] hB (by rfl) (by rfl) (by rfl)) ?_
  refine AWp.seq ?_
  obtain ⟨r4, hr4, h⟩ := bindS h
  obtain ⟨r5, hr5, h⟩ := bindS h
  refine AWp.region (OpJs.cons (OpJ.move (ltN hN rfl) (Opd.tmp 9 (.d (.int .i64 (w64 ((1 : Int) + r1))))))
  (OpJs.cons (OpJ.move (ltN hN rfl) (Opd.tmp 10 (.d (.int .i64 r2))))
  (OpJs.cons (OpJ.move (ltN hN rfl) (Opd.tmp 2 (.d (.int .i64 a2))))
  (OpJs.cons (OpJ.move (ltN hN rfl) (Opd.tmp 9 (.d (.int .i64 (w64 ((1 : Int) + r1))))))
  (OpJs.cons (OpJ.add (ltN hN rfl) (Opd.tmp 29 (.d (.int .i64 (w64 ((1 : Int) + r1))))) (Opd.int .i64 (1)))
  (OpJs.cons (OpJ.callFn hB fnOk9 (exchangepointmill_Mod_ac a2 (w64 ((w64 ((1 : Int) + r1)) + (1 : Int))) r4 hr4) [] (by kernel_rfl) (ltN hN rfl) (by kernel_rfl) (OpdL.cons (Opd.tmp 28 (.d (.int .i64 a2))) (OpdL.cons (Opd.tmp 30 (.d (.int .i64 (w64 ((w64 ((1 : Int) + r1)) + (1 : Int)))))) OpdL.nil)))
  (OpJs.cons (OpJ.move (ltN hN rfl) (Opd.tmp 11 (.d (.int .i64 (w64 ((1 : Int) + r3))))))
  (OpJs.cons (OpJ.callFn hB fnOk18 (interval_Cover_ac (w64 ((1 : Int) + r1)) r2 r4 (w64 ((1 : Int) + r3)) r5 hr5) [] (by kernel_rfl) (ltN hN rfl) (by kernel_rfl) (OpdL.cons (Opd.tmp 26 (.d (.int .i64 (w64 ((1 : Int) + r1))))) (OpdL.cons (Opd.tmp 27 (.d (.int .i64 r2))) (OpdL.cons (Opd.tmp 31 (.d (.int .i64 r4))) (OpdL.cons (Opd.tmp 32 (.d (.int .i64 (w64 ((1 : Int) + r3))))) OpdL.nil)))))
  (OpJs.cons (OpJ.move (ltN hN rfl) (Opd.tmp 33 (.tup [(.d (.int .i64 r5.1)), (.d (.int .i64 r5.2.1)), (.d (.int .i64 r5.2.2))])))
  (OpJs.cons (OpJ.extract (v := (.d (.int .i64 r5.1))) (by rfl) rfl (ltN hN rfl) (Opd.tmp 25 (.tup [(.d (.int .i64 r5.1)), (.d (.int .i64 r5.2.1)), (.d (.int .i64 r5.2.2))])))
  (OpJs.cons (OpJ.extract (v := (.d (.int .i64 r5.2.1))) (by rfl) rfl (ltN hN rfl) (Opd.tmp 25 (.tup [(.d (.int .i64 r5.1)), (.d (.int .i64 r5.2.1)), (.d (.int .i64 r5.2.2))])))
  (OpJs.cons (OpJ.extract (v := (.d (.int .i64 r5.2.2))) (by rfl) rfl (ltN hN rfl) (Opd.tmp 25 (.tup [(.d (.int .i64 r5.1)), (.d (.int .i64 r5.2.1)), (.d (.int .i64 r5.2.2))])))
  (OpJs.cons (OpJ.assign (ltN hN rfl) (Opd.tmp 34 (.d (.int .i64 r5.1))))
  (OpJs.cons (OpJ.assign (ltN hN rfl) (Opd.tmp 35 (.d (.int .i64 r5.2.1))))
  (OpJs.cons (OpJ.assign (ltN hN rfl) (Opd.tmp 36 (.d (.int .i64 r5.2.2))))
  (OpJs.nil)))))))))))))))) (by rfl) (by rfl) ?_
  refine seqQ_n ?_
  refine AWp.ghost (Mat.pat [] [(11, (.d (.int .i64 (w64 ((1 : Int) + r3))))), (12, (.d (.int .i64 r5.1))), (13, (.d (.int .i64 r5.2.1))), (14, (.d (.int .i64 r5.2.2)))] [] hB (by rfl) (by rfl) (by rfl)) ?_
  refine AWp.seq ?_
  refine AWp.cut h (fun m8 : Bool => ([(8, (.d (.bool m8)))] : EL)) (fun m8 : Bool => ([] : OL)) (fun m8 h E' O' hmat => ?_) (fun j9 hjj9 h => ?_)
  · refine seqQ_n ?_
    refine AWp.ghost hmat ?_
    refine AWp.ret ?_
    obtain rfl := Option.some.inj h
    exact ⟨.inl rfl, _, _, (Mat.pat [] [(8, (.d (.bool m8)))] [] hB (by rfl) (by rfl) (by rfl)), [(.d (.bool m8))], (Res.tmp (by rfl) (by rfl) Res.nil), rfl, by rfl, by rfl, by rfl⟩
  · rcases Bool.eq_false_or_eq_true ((((r5.2.2 == (0 : Int)) && (decide ((0 : Int) < r5.2.1))) && (decide (r5.1 ≤ r5.2.1))) && (decide ((w64 ((w64 ((1000 : Int) - (w64 ((1 : Int) + r3)))) * r5.2.1)) ≤ (w64 ((1000 : Int) * r5.1))))) with hg10 | hg10
    · replace h := ite_t hg10 h
      obtain ⟨r11, hr11, h⟩ := bindS h
      refine AWp.region (OpJs.cons (OpJ.move (ltN hN rfl) (Opd.tmp 14 (.d (.int .i64 r5.2.2))))
        (OpJs.cons (OpJ.eqlI (ltN hN rfl) (Opd.tmp 37 (.d (.int .i64 r5.2.2))) (Opd.int .i64 (0)))
        (OpJs.cons (OpJ.move (ltN hN rfl) (Opd.tmp 38 (.d (.bool (r5.2.2 == (0 : Int))))))
        (OpJs.cons (OpJ.opt' (v := (.d (.int .i64 r5.2.1))) (OpJ.move (ltN hN rfl) (Opd.tmp 13 (.d (.int .i64 r5.2.1)))) (by rfl) (GuardV.plain _) (ltN hN rfl) (by rfl) (by rfl) (by rfl) (by rfl) (OptL.keep rfl OptL.nil))
        (OpJs.cons (OpJ.opt' (v := (.d (.bool (decide ((0 : Int) < r5.2.1))))) (OpJ.gtr (ltN hN rfl) (Opd.tmp 40 (.d (.int .i64 r5.2.1))) (Opd.int .i64 (0))) (by rfl) (GuardV.plain _) (ltN hN rfl) (by rfl) (by rfl) (by rfl) (by rfl) (OptL.opt OptL.nil))
        (OpJs.cons (OpJ.pickAnd rfl (ltN hN rfl) (Opd.tmp 39 (.d (.bool (r5.2.2 == (0 : Int))))) (Opd.tmp 41 (.opt ((r5.2.2 == (0 : Int)) == true) (.d (.bool (decide ((0 : Int) < r5.2.1)))))))
        (OpJs.cons (OpJ.move (ltN hN rfl) (Opd.tmp 42 (.d (.bool ((r5.2.2 == (0 : Int)) && (decide ((0 : Int) < r5.2.1)))))))
        (OpJs.cons (OpJ.opt' (v := (.d (.int .i64 r5.1))) (OpJ.move (ltN hN rfl) (Opd.tmp 12 (.d (.int .i64 r5.1)))) (by rfl) (GuardV.plain _) (ltN hN rfl) (by rfl) (by rfl) (by rfl) (by rfl) (OptL.keep rfl OptL.nil))
        (OpJs.cons (OpJ.opt' (v := (.d (.int .i64 r5.2.1))) (OpJ.move (ltN hN rfl) (Opd.tmp 13 (.d (.int .i64 r5.2.1)))) (by rfl) (GuardV.plain _) (ltN hN rfl) (by rfl) (by rfl) (by rfl) (by rfl) (OptL.keep rfl OptL.nil))
        (OpJs.cons (OpJ.opt' (v := (.d (.bool (decide (r5.1 ≤ r5.2.1))))) (OpJ.leq (ltN hN rfl) (Opd.tmp 44 (.d (.int .i64 r5.1))) (Opd.tmp 45 (.d (.int .i64 r5.2.1)))) (by rfl) (GuardV.plain _) (ltN hN rfl) (by rfl) (by rfl) (by rfl) (by rfl) (OptL.opt (OptL.opt OptL.nil)))
        (OpJs.cons (OpJ.pickAnd rfl (ltN hN rfl) (Opd.tmp 43 (.d (.bool ((r5.2.2 == (0 : Int)) && (decide ((0 : Int) < r5.2.1)))))) (Opd.tmp 46 (.opt (((r5.2.2 == (0 : Int)) && (decide ((0 : Int) < r5.2.1))) == true) (.d (.bool (decide (r5.1 ≤ r5.2.1)))))))
        (OpJs.cons (OpJ.move (ltN hN rfl) (Opd.tmp 47 (.d (.bool (((r5.2.2 == (0 : Int)) && (decide ((0 : Int) < r5.2.1))) && (decide (r5.1 ≤ r5.2.1)))))))
        (OpJs.cons (OpJ.opt' (v := (.d (.int .i64 r5.1))) (OpJ.move (ltN hN rfl) (Opd.tmp 12 (.d (.int .i64 r5.1)))) (by rfl) (GuardV.plain _) (ltN hN rfl) (by rfl) (by rfl) (by rfl) (by rfl) (OptL.keep rfl OptL.nil))
        (OpJs.cons (OpJ.opt' (v := (.d (.int .i64 (w64 ((1000 : Int) * r5.1))))) (OpJ.mul (ltN hN rfl) (Opd.int .i64 (1000)) (Opd.tmp 49 (.d (.int .i64 r5.1)))) (by rfl) (GuardV.plain _) (ltN hN rfl) (by rfl) (by rfl) (by rfl) (by rfl) (OptL.opt OptL.nil))
        (OpJs.cons (OpJ.opt' (v := (.d (.int .i64 (w64 ((1 : Int) + r3))))) (OpJ.move (ltN hN rfl) (Opd.tmp 11 (.d (.int .i64 (w64 ((1 : Int) + r3)))))) (by rfl) (GuardV.plain _) (ltN hN rfl) (by rfl) (by rfl) (by rfl) (by rfl) (OptL.keep rfl OptL.nil))
        (OpJs.cons (OpJ.opt' (v := (.d (.int .i64 (w64 ((1000 : Int) - (w64 ((1 : Int) + r3))))))) (OpJ.sub (ltN hN rfl) (Opd.int .i64 (1000)) (Opd.tmp 51 (.d (.int .i64 (w64 ((1 : Int) + r3)))))) (by rfl) (GuardV.plain _) (ltN hN rfl) (by rfl) (by rfl) (by rfl) (by rfl) (OptL.opt OptL.nil))
        (OpJs.cons (OpJ.opt' (v := (.d (.int .i64 r5.2.1))) (OpJ.move (ltN hN rfl) (Opd.tmp 13 (.d (.int .i64 r5.2.1)))) (by rfl) (GuardV.plain _) (ltN hN rfl) (by rfl) (by rfl) (by rfl) (by rfl) (OptL.keep rfl OptL.nil))
        (OpJs.cons (OpJ.opt' (v := (.d (.int .i64 (w64 ((w64 ((1000 : Int) - (w64 ((1 : Int) + r3)))) * r5.2.1))))) (OpJ.mul (ltN hN rfl) (Opd.tmp 52 (.d (.int .i64 (w64 ((1000 : Int) - (w64 ((1 : Int) + r3))))))) (Opd.tmp 53 (.d (.int .i64 r5.2.1)))) (by rfl) (GuardV.plain _) (ltN hN rfl) (by rfl) (by rfl) (by rfl) (by rfl) (OptL.opt (OptL.opt OptL.nil)))
        (OpJs.cons (OpJ.opt' (v := (.d (.bool (decide ((w64 ((w64 ((1000 : Int) - (w64 ((1 : Int) + r3)))) * r5.2.1)) ≤ (w64 ((1000 : Int) * r5.1))))))) (OpJ.geq (ltN hN rfl) (Opd.tmp 50 (.d (.int .i64 (w64 ((1000 : Int) * r5.1))))) (Opd.tmp 54 (.d (.int .i64 (w64 ((w64 ((1000 : Int) - (w64 ((1 : Int) + r3)))) * r5.2.1)))))) (by rfl) (GuardV.plain _) (ltN hN rfl) (by rfl) (by rfl) (by rfl) (by rfl) (OptL.opt (OptL.opt OptL.nil)))
        (OpJs.cons (OpJ.pickAnd rfl (ltN hN rfl) (Opd.tmp 48 (.d (.bool (((r5.2.2 == (0 : Int)) && (decide ((0 : Int) < r5.2.1))) && (decide (r5.1 ≤ r5.2.1)))))) (Opd.tmp 55 (.opt ((((r5.2.2 == (0 : Int)) && (decide ((0 : Int) < r5.2.1))) && (decide (r5.1 ≤ r5.2.1))) == true) (.d (.bool (decide ((w64 ((w64 ((1000 : Int) - (w64 ((1 : Int) + r3)))) * r5.2.1)) ≤ (w64 ((1000 : Int) * r5.1)))))))))
        (OpJs.cons (OpJ.val (v' := .d (.bool true)) (by rw [hg10]) (OpJ.move (ltN hN rfl) (Opd.tmp 56 (.d (.bool ((((r5.2.2 == (0 : Int)) && (decide ((0 : Int) < r5.2.1))) && (decide (r5.1 ≤ r5.2.1))) && (decide ((w64 ((w64 ((1000 : Int) - (w64 ((1 : Int) + r3)))) * r5.2.1)) ≤ (w64 ((1000 : Int) * r5.1))))))))))
        (OpJs.cons (OpJ.guarded (by rfl) (OpJ.callFn hB fnOk16 (exchangepointlaw39_awake_ac  r11 hr11) [] (by kernel_rfl) (ltN hN rfl) (by kernel_rfl) OpdL.nil))
        (OpJs.cons (OpJ.pickT (ltN hN rfl) (Opd.tmp 57 (.d (.bool true))) (Opd.tmp 58 (.d (.bool r11))))
        (OpJs.cons (OpJ.assign (ltN hN rfl) (Opd.tmp 59 (.d (.bool r11))))
        (OpJs.nil))))))))))))))))))))))))) (by rfl) (by rfl) ?_
      exact hjj9 _ h _ _ (Mat.trans (Mat.pat [] [(8, (.d (.bool r11)))] [] hB (by rfl) (by rfl) (by rfl)) (Mat.pat [] ((fun m8 : Bool => ([(8, (.d (.bool m8)))] : EL)) r11) ((fun m8 : Bool => ([] : OL)) r11) hB (by rfl) (by rfl) (by rfl)))
    · replace h := ite_f hg10 h
      refine AWp.region (OpJs.cons (OpJ.move (ltN hN rfl) (Opd.tmp 14 (.d (.int .i64 r5.2.2))))
        (OpJs.cons (OpJ.eqlI (ltN hN rfl) (Opd.tmp 37 (.d (.int .i64 r5.2.2))) (Opd.int .i64 (0)))
        (OpJs.cons (OpJ.move (ltN hN rfl) (Opd.tmp 38 (.d (.bool (r5.2.2 == (0 : Int))))))
        (OpJs.cons (OpJ.opt' (v := (.d (.int .i64 r5.2.1))) (OpJ.move (ltN hN rfl) (Opd.tmp 13 (.d (.int .i64 r5.2.1)))) (by rfl) (GuardV.plain _) (ltN hN rfl) (by rfl) (by rfl) (by rfl) (by rfl) (OptL.keep rfl OptL.nil))
        (OpJs.cons (OpJ.opt' (v := (.d (.bool (decide ((0 : Int) < r5.2.1))))) (OpJ.gtr (ltN hN rfl) (Opd.tmp 40 (.d (.int .i64 r5.2.1))) (Opd.int .i64 (0))) (by rfl) (GuardV.plain _) (ltN hN rfl) (by rfl) (by rfl) (by rfl) (by rfl) (OptL.opt OptL.nil))
        (OpJs.cons (OpJ.pickAnd rfl (ltN hN rfl) (Opd.tmp 39 (.d (.bool (r5.2.2 == (0 : Int))))) (Opd.tmp 41 (.opt ((r5.2.2 == (0 : Int)) == true) (.d (.bool (decide ((0 : Int) < r5.2.1)))))))
        (OpJs.cons (OpJ.move (ltN hN rfl) (Opd.tmp 42 (.d (.bool ((r5.2.2 == (0 : Int)) && (decide ((0 : Int) < r5.2.1)))))))
        (OpJs.cons (OpJ.opt' (v := (.d (.int .i64 r5.1))) (OpJ.move (ltN hN rfl) (Opd.tmp 12 (.d (.int .i64 r5.1)))) (by rfl) (GuardV.plain _) (ltN hN rfl) (by rfl) (by rfl) (by rfl) (by rfl) (OptL.keep rfl OptL.nil))
        (OpJs.cons (OpJ.opt' (v := (.d (.int .i64 r5.2.1))) (OpJ.move (ltN hN rfl) (Opd.tmp 13 (.d (.int .i64 r5.2.1)))) (by rfl) (GuardV.plain _) (ltN hN rfl) (by rfl) (by rfl) (by rfl) (by rfl) (OptL.keep rfl OptL.nil))
        (OpJs.cons (OpJ.opt' (v := (.d (.bool (decide (r5.1 ≤ r5.2.1))))) (OpJ.leq (ltN hN rfl) (Opd.tmp 44 (.d (.int .i64 r5.1))) (Opd.tmp 45 (.d (.int .i64 r5.2.1)))) (by rfl) (GuardV.plain _) (ltN hN rfl) (by rfl) (by rfl) (by rfl) (by rfl) (OptL.opt (OptL.opt OptL.nil)))
        (OpJs.cons (OpJ.pickAnd rfl (ltN hN rfl) (Opd.tmp 43 (.d (.bool ((r5.2.2 == (0 : Int)) && (decide ((0 : Int) < r5.2.1)))))) (Opd.tmp 46 (.opt (((r5.2.2 == (0 : Int)) && (decide ((0 : Int) < r5.2.1))) == true) (.d (.bool (decide (r5.1 ≤ r5.2.1)))))))
        (OpJs.cons (OpJ.move (ltN hN rfl) (Opd.tmp 47 (.d (.bool (((r5.2.2 == (0 : Int)) && (decide ((0 : Int) < r5.2.1))) && (decide (r5.1 ≤ r5.2.1)))))))
        (OpJs.cons (OpJ.opt' (v := (.d (.int .i64 r5.1))) (OpJ.move (ltN hN rfl) (Opd.tmp 12 (.d (.int .i64 r5.1)))) (by rfl) (GuardV.plain _) (ltN hN rfl) (by rfl) (by rfl) (by rfl) (by rfl) (OptL.keep rfl OptL.nil))
        (OpJs.cons (OpJ.opt' (v := (.d (.int .i64 (w64 ((1000 : Int) * r5.1))))) (OpJ.mul (ltN hN rfl) (Opd.int .i64 (1000)) (Opd.tmp 49 (.d (.int .i64 r5.1)))) (by rfl) (GuardV.plain _) (ltN hN rfl) (by rfl) (by rfl) (by rfl) (by rfl) (OptL.opt OptL.nil))
        (OpJs.cons (OpJ.opt' (v := (.d (.int .i64 (w64 ((1 : Int) + r3))))) (OpJ.move (ltN hN rfl) (Opd.tmp 11 (.d (.int .i64 (w64 ((1 : Int) + r3)))))) (by rfl) (GuardV.plain _) (ltN hN rfl) (by rfl) (by rfl) (by rfl) (by rfl) (OptL.keep rfl OptL.nil))
        (OpJs.cons (OpJ.opt' (v := (.d (.int .i64 (w64 ((1000 : Int) - (w64 ((1 : Int) + r3))))))) (OpJ.sub (ltN hN rfl) (Opd.int .i64 (1000)) (Opd.tmp 51 (.d (.int .i64 (w64 ((1 : Int) + r3)))))) (by rfl) (GuardV.plain _) (ltN hN rfl) (by rfl) (by rfl) (by rfl) (by rfl) (OptL.opt OptL.nil))
        (OpJs.cons (OpJ.opt' (v := (.d (.int .i64 r5.2.1))) (OpJ.move (ltN hN rfl) (Opd.tmp 13 (.d (.int .i64 r5.2.1)))) (by rfl) (GuardV.plain _) (ltN hN rfl) (by rfl) (by rfl) (by rfl) (by rfl) (OptL.keep rfl OptL.nil))
        (OpJs.cons (OpJ.opt' (v := (.d (.int .i64 (w64 ((w64 ((1000 : Int) - (w64 ((1 : Int) + r3)))) * r5.2.1))))) (OpJ.mul (ltN hN rfl) (Opd.tmp 52 (.d (.int .i64 (w64 ((1000 : Int) - (w64 ((1 : Int) + r3))))))) (Opd.tmp 53 (.d (.int .i64 r5.2.1)))) (by rfl) (GuardV.plain _) (ltN hN rfl) (by rfl) (by rfl) (by rfl) (by rfl) (OptL.opt (OptL.opt OptL.nil)))
        (OpJs.cons (OpJ.opt' (v := (.d (.bool (decide ((w64 ((w64 ((1000 : Int) - (w64 ((1 : Int) + r3)))) * r5.2.1)) ≤ (w64 ((1000 : Int) * r5.1))))))) (OpJ.geq (ltN hN rfl) (Opd.tmp 50 (.d (.int .i64 (w64 ((1000 : Int) * r5.1))))) (Opd.tmp 54 (.d (.int .i64 (w64 ((w64 ((1000 : Int) - (w64 ((1 : Int) + r3)))) * r5.2.1)))))) (by rfl) (GuardV.plain _) (ltN hN rfl) (by rfl) (by rfl) (by rfl) (by rfl) (OptL.opt (OptL.opt OptL.nil)))
        (OpJs.cons (OpJ.pickAnd rfl (ltN hN rfl) (Opd.tmp 48 (.d (.bool (((r5.2.2 == (0 : Int)) && (decide ((0 : Int) < r5.2.1))) && (decide (r5.1 ≤ r5.2.1)))))) (Opd.tmp 55 (.opt ((((r5.2.2 == (0 : Int)) && (decide ((0 : Int) < r5.2.1))) && (decide (r5.1 ≤ r5.2.1))) == true) (.d (.bool (decide ((w64 ((w64 ((1000 : Int) - (w64 ((1 : Int) + r3)))) * r5.2.1)) ≤ (w64 ((1000 : Int) * r5.1)))))))))
        (OpJs.cons (OpJ.val (v' := .d (.bool false)) (by rw [hg10]) (OpJ.move (ltN hN rfl) (Opd.tmp 56 (.d (.bool ((((r5.2.2 == (0 : Int)) && (decide ((0 : Int) < r5.2.1))) && (decide (r5.1 ≤ r5.2.1))) && (decide ((w64 ((w64 ((1000 : Int) - (w64 ((1 : Int) + r3)))) * r5.2.1)) ≤ (w64 ((1000 : Int) * r5.1))))))))))
        (OpJs.cons (OpJ.skipU (ltN hN rfl) (by rfl))
        (OpJs.cons (OpJ.pickF (ltN hN rfl) (Opd.tmp 57 (.d (.bool false))) (Opd.bool false))
        (OpJs.cons (OpJ.assign (ltN hN rfl) (Opd.tmp 59 (.d (.bool false))))
        (OpJs.nil))))))))))))))))))))))))) (by rfl) (by rfl) ?_
      exact hjj9 _ h _ _ (Mat.trans (Mat.pat [] [(8, (.d (.bool false)))] [] hB (by rfl) (by rfl) (by rfl)) (Mat.pat [] ((fun m8 : Bool => ([(8, (.d (.bool m8)))] : EL)) false) ((fun m8 : Bool => ([] : OL)) false) hB (by rfl) (by rfl) (by rfl)))

noncomputable def exchangepointref39_above (a0 : Int) (a1 : Int) (a2 : Int) : Option (Bool) :=
  (bits_Mul64 (2000 : Int) (IntKind.u64.wrap a0)).bind fun r1 =>
  (bits_Mul64 (IntKind.u64.wrap a1) (IntKind.u64.wrap a2)).bind fun r2 =>
  jn (fun m4 : Bool =>
  some m4) (fun j5 =>
  (if (decide (r2.1 < r1.1)) = true then
  j5 true
  else
  j5 ((r1.1 == r2.1) && (decide (r2.2 < r1.2)))))
set_option maxHeartbeats 4000000 in
set_option maxRecDepth 100000 in
theorem exchangepointref39_above_ac (a0 : Int) (a1 : Int) (a2 : Int) (r : Bool) (h : exchangepointref39_above a0 a1 a2 = some r) : AC Try.prog 32 [(.d (.int .i64 a0)), (.d (.int .i64 a1)), (.d (.int .i64 a2))] [] (.d (.bool r)) [] := by
  refine AC.of_code2 Try.func32 rfl rfl (Nat.le_of_ble_eq_true (by rfl)) fun B hB hN => ?_
  delta exchangepointref39_above at h
  refine AWp.seq ?_
  refine AWp.region (OpJs.cons (OpJ.assign (ltN hN rfl) (Opd.bool false))
  (OpJs.nil)) (by rfl) (by rfl) ?_
  refine seqQ_n ?_
  refine AWp.ghost (Mat.pat [] [(0, (.d (.int .i64 a0))), (1, (.d (.int .i64 a1))), (2, (.d (.int .i64 a2)))] [] hB (by rfl) (by rfl) (by rfl)) ?_
  refine AWp.seq ?_
  obtain ⟨r1, hr1, h⟩ := bindS h
  refine AWp.region (OpJs.cons (OpJ.move (ltN hN rfl) (Opd.tmp 0 (.d (.int .i64 a0))))
  (OpJs.cons (OpJ.conv Try.underlying3 Try.underlying43 (ltN hN rfl) (Opd.tmp 12 (.d (.int .i64 a0))))
  (OpJs.cons (OpJ.callFn hB fnOk33 (bits_Mul64_ac (2000 : Int) (IntKind.u64.wrap a0) r1 hr1) [] (by kernel_rfl) (ltN hN rfl) (by kernel_rfl) (OpdL.cons (Opd.int .u64 (2000)) (OpdL.cons (Opd.tmp 13 (.d (.int .u64 (IntKind.u64.wrap a0)))) OpdL.nil)))
  (OpJs.cons (OpJ.move (ltN hN rfl) (Opd.tmp 14 (.tup [(.d (.int .u64 r1.1)), (.d (.int .u64 r1.2))])))
  (OpJs.cons (OpJ.extract (v := (.d (.int .u64 r1.1))) (by rfl) rfl (ltN hN rfl) (Opd.tmp 11 (.tup [(.d (.int .u64 r1.1)), (.d (.int .u64 r1.2))])))
  (OpJs.cons (OpJ.extract (v := (.d (.int .u64 r1.2))) (by rfl) rfl (ltN hN rfl) (Opd.tmp 11 (.tup [(.d (.int .u64 r1.1)), (.d (.int .u64 r1.2))])))
  (OpJs.cons (OpJ.assign (ltN hN rfl) (Opd.tmp 15 (.d (.int .u64 r1.1))))
  (OpJs.cons (OpJ.assign (ltN hN rfl) (Opd.tmp 16 (.d (.int .u64 r1.2))))
  (OpJs.nil))))))))) (by rfl) (by rfl) ?_
  refine seqQ_n ?_
  refine AWp.ghost (Mat.pat [] [(1, (.d (.int .i64 a1))), (2, (.d (.int .i64 a2))), (7, (.d (.int .u64 r1.1))), (8, (.d (.int .u64 r1.2)))] [] hB (by rfl) (by rfl) (by rfl)) ?_
  refine AWp.seq ?_
  obtain ⟨r2, hr2, h⟩ := bindS h
  refine AWp.region (OpJs.cons (OpJ.move (ltN hN rfl) (Opd.tmp 1 (.d (.int .i64 a1))))
  (OpJs.cons (OpJ.conv Try.underlying3 Try.underlying43 (ltN hN rfl) (Opd.tmp 18 (.d (.int .i64 a1))))
  (OpJs.cons (OpJ.move (ltN hN rfl) (Opd.tmp 2 (.d (.int .i64 a2))))
  (OpJs.cons (OpJ.conv Try.underlying3 Try.underlying43 (ltN hN rfl) (Opd.tmp 20 (.d (.int .i64 a2))))
  (OpJs.cons (OpJ.callFn hB fnOk33 (bits_Mul64_ac (IntKind.u64.wrap a1) (IntKind.u64.wrap a2) r2 hr2) [] (by kernel_rfl) (ltN hN rfl) (by kernel_rfl) (OpdL.cons (Opd.tmp 19 (.d (.int .u64 (IntKind.u64.wrap a1)))) (OpdL.cons (Opd.tmp 21 (.d (.int .u64 (IntKind.u64.wrap a2)))) OpdL.nil)))
  (OpJs.cons (OpJ.move (ltN hN rfl) (Opd.tmp 22 (.tup [(.d (.int .u64 r2.1)), (.d (.int .u64 r2.2))])))
  (OpJs.cons (OpJ.extract (v := (.d (.int .u64 r2.1))) (by rfl) rfl (ltN hN rfl) (Opd.tmp 17 (.tup [(.d (.int .u64 r2.1)), (.d (.int .u64 r2.2))])))
  (OpJs.cons (OpJ.extract (v := (.d (.int .u64 r2.2))) (by rfl) rfl (ltN hN rfl) (Opd.tmp 17 (.tup [(.d (.int .u64 r2.1)), (.d (.int .u64 r2.2))])))
  (OpJs.cons (OpJ.assign (ltN hN rfl) (Opd.tmp 23 (.d (.int .u64 r2.1))))
  (OpJs.cons (OpJ.assign (ltN hN rfl) (Opd.tmp 24 (.d (.int .u64 r2.2))))
  (OpJs.nil))))))))))) (by rfl) (by rfl) ?_
  refine seqQ_n ?_
  refine AWp.ghost (Mat.pat [] [(7, (.d (.int .u64 r1.1))), (8, (.d (.int .u64 r1.2))), (9, (.d (.int .u64 r2.1))), (10, (.d (.int .u64 r2.2)))] [] hB (by rfl) (by rfl) (by rfl)) ?_
  refine AWp.seq ?_
  refine AWp.cut h (fun m4 : Bool => ([(6, (.d (.bool m4)))] : EL)) (fun m4 : Bool => ([] : OL)) (fun m4 h E' O' hmat => ?_) (fun j5 hjj5 h => ?_)
  · refine seqQ_n ?_
    refine AWp.ghost hmat ?_
    refine AWp.ret ?_
    obtain rfl := Option.some.inj h
    exact ⟨.inl rfl, _, _, (Mat.pat [] [(6, (.d (.bool m4)))] [] hB (by rfl) (by rfl) (by rfl)), [(.d (.bool m4))], (Res.tmp (by rfl) (by rfl) Res.nil), rfl, by rfl, by rfl, by rfl⟩
  · rcases Bool.eq_false_or_eq_true (decide (r2.1 < r1.1)) with hg6 | hg6
    · replace h := ite_t hg6 h
      refine AWp.region (OpJs.cons (OpJ.move (ltN hN rfl) (Opd.tmp 7 (.d (.int .u64 r1.1))))
        (OpJs.cons (OpJ.move (ltN hN rfl) (Opd.tmp 9 (.d (.int .u64 r2.1))))
        (OpJs.cons (OpJ.gtr (ltN hN rfl) (Opd.tmp 25 (.d (.int .u64 r1.1))) (Opd.tmp 26 (.d (.int .u64 r2.1))))
        (OpJs.cons (OpJ.val (v' := .d (.bool true)) (by rw [hg6]) (OpJ.move (ltN hN rfl) (Opd.tmp 27 (.d (.bool (decide (r2.1 < r1.1)))))))
        (OpJs.cons (OpJ.skipU (ltN hN rfl) (by rfl))
        (OpJs.cons (OpJ.skipU (ltN hN rfl) (by rfl))
        (OpJs.cons (OpJ.skipU (ltN hN rfl) (by rfl))
        (OpJs.cons (OpJ.skipU (ltN hN rfl) (by rfl))
        (OpJs.cons (OpJ.skipV (ltN hN rfl) (by rfl))
        (OpJs.cons (OpJ.skipV (ltN hN rfl) (by rfl))
        (OpJs.cons (OpJ.skipV (ltN hN rfl) (by rfl))
        (OpJs.cons (OpJ.skipU (ltN hN rfl) (by rfl))
        (OpJs.cons (OpJ.pickT (ltN hN rfl) (Opd.tmp 28 (.d (.bool true))) (Opd.bool true))
        (OpJs.cons (OpJ.assign (ltN hN rfl) (Opd.tmp 37 (.d (.bool true))))
        (OpJs.nil))))))))))))))) (by rfl) (by rfl) ?_
      exact hjj5 _ h _ _ (Mat.trans (Mat.pat [] [(6, (.d (.bool true)))] [] hB (by rfl) (by rfl) (by rfl)) (Mat.pat [] ((fun m4 : Bool => ([(6, (.d (.bool m4)))] : EL)) true) ((fun m4 : Bool => ([] : OL)) true) hB (by rfl) (by rfl) (by rfl)))
    · replace h := ite_f hg6 h
      refine AWp.region (OpJs.cons (OpJ.move (ltN hN rfl) (Opd.tmp 7 (.d (.int .u64 r1.1))))
        (OpJs.cons (OpJ.move (ltN hN rfl) (Opd.tmp 9 (.d (.int .u64 r2.1))))
        (OpJs.cons (OpJ.gtr (ltN hN rfl) (Opd.tmp 25 (.d (.int .u64 r1.1))) (Opd.tmp 26 (.d (.int .u64 r2.1))))
        (OpJs.cons (OpJ.val (v' := .d (.bool false)) (by rw [hg6]) (OpJ.move (ltN hN rfl) (Opd.tmp 27 (.d (.bool (decide (r2.1 < r1.1)))))))
        (OpJs.cons (OpJ.guarded (by rfl) (OpJ.move (ltN hN rfl) (Opd.tmp 7 (.d (.int .u64 r1.1)))))
        (OpJs.cons (OpJ.guarded (by rfl) (OpJ.move (ltN hN rfl) (Opd.tmp 9 (.d (.int .u64 r2.1)))))
        (OpJs.cons (OpJ.guarded (by rfl) (OpJ.eqlI (ltN hN rfl) (Opd.tmp 29 (.d (.int .u64 r1.1))) (Opd.tmp 30 (.d (.int .u64 r2.1)))))
        (OpJs.cons (OpJ.guarded (by rfl) (OpJ.move (ltN hN rfl) (Opd.tmp 31 (.d (.bool (r1.1 == r2.1))))))
        (OpJs.cons (OpJ.opt' (v := (.d (.int .u64 r1.2))) (OpJ.move (ltN hN rfl) (Opd.tmp 8 (.d (.int .u64 r1.2)))) (by rfl) (GuardV.plain _) (ltN hN rfl) (by rfl) (by rfl) (by rfl) (by rfl) (OptL.keep rfl OptL.nil))
        (OpJs.cons (OpJ.opt' (v := (.d (.int .u64 r2.2))) (OpJ.move (ltN hN rfl) (Opd.tmp 10 (.d (.int .u64 r2.2)))) (by rfl) (GuardV.plain _) (ltN hN rfl) (by rfl) (by rfl) (by rfl) (by rfl) (OptL.keep rfl OptL.nil))
        (OpJs.cons (OpJ.opt' (v := (.d (.bool (decide (r2.2 < r1.2))))) (OpJ.gtr (ltN hN rfl) (Opd.tmp 33 (.d (.int .u64 r1.2))) (Opd.tmp 34 (.d (.int .u64 r2.2)))) (by rfl) (GuardV.plain _) (ltN hN rfl) (by rfl) (by rfl) (by rfl) (by rfl) (OptL.opt (OptL.opt OptL.nil)))
        (OpJs.cons (OpJ.guarded (by rfl) (OpJ.pickAnd rfl (ltN hN rfl) (Opd.tmp 32 (.d (.bool (r1.1 == r2.1)))) (Opd.tmp 35 (.opt ((r1.1 == r2.1) == true) (.d (.bool (decide (r2.2 < r1.2))))))))
        (OpJs.cons (OpJ.pickF (ltN hN rfl) (Opd.tmp 28 (.d (.bool false))) (Opd.tmp 36 (.d (.bool ((r1.1 == r2.1) && (decide (r2.2 < r1.2)))))))
        (OpJs.cons (OpJ.assign (ltN hN rfl) (Opd.tmp 37 (.d (.bool ((r1.1 == r2.1) && (decide (r2.2 < r1.2)))))))
        (OpJs.nil))))))))))))))) (by rfl) (by rfl) ?_
      exact hjj5 _ h _ _ (Mat.trans (Mat.pat [] [(6, (.d (.bool ((r1.1 == r2.1) && (decide (r2.2 < r1.2))))))] [] hB (by rfl) (by rfl) (by rfl)) (Mat.pat [] ((fun m4 : Bool => ([(6, (.d (.bool m4)))] : EL)) ((r1.1 == r2.1) && (decide (r2.2 < r1.2)))) ((fun m4 : Bool => ([] : OL)) ((r1.1 == r2.1) && (decide (r2.2 < r1.2)))) hB (by rfl) (by rfl) (by rfl)))

noncomputable def exchangepointref39_plausible (a0 : Int) (a1 : Int) (a2 : Int) (a3 : Int) (a4 : Int) : Option (Bool) :=
  (exchangepointref39_choose a0 a1).bind fun r1 =>
  (exchangepointref39_AtLeast a0 a1 a2 a3).bind fun r2 =>
  (exchangepointref39_AtMost a0 a1 a2 a3).bind fun r3 =>
  jn (fun m8 : Bool =>
  some m8) (fun j9 =>
  (exchangepointref39_above r2.1 a4 r1).bind fun r10 =>
  (if r10 = true then
  (exchangepointref39_above r3.1 a4 r1).bind fun r12 =>
  j9 r12
  else
  j9 false))
set_option maxHeartbeats 4000000 in
set_option maxRecDepth 100000 in
theorem exchangepointref39_plausible_ac (a0 : Int) (a1 : Int) (a2 : Int) (a3 : Int) (a4 : Int) (r : Bool) (h : exchangepointref39_plausible a0 a1 a2 a3 a4 = some r) : AC Try.prog 30 [(.d (.int .i64 a0)), (.d (.int .i64 a1)), (.d (.int .i64 a2)), (.d (.int .i64 a3)), (.d (.int .i64 a4))] [] (.d (.bool r)) [] := by
  refine AC.of_code2 Try.func30 rfl rfl (Nat.le_of_ble_eq_true (by rfl)) fun B hB hN => ?_
  delta exchangepointref39_plausible at h
  refine AWp.seq ?_
  refine AWp.region (OpJs.cons (OpJ.assign (ltN hN rfl) (Opd.bool false))
  (OpJs.nil)) (by rfl) (by rfl) ?_
  refine seqQ_n ?_
  refine AWp.ghost (Mat.pat [] [(0, (.d (.int .i64 a0))), (1, (.d (.int .i64 a1))), (2, (.d (.int .i64 a2))), (3, (.d (.int .i64 a3))), (4, (.d (.int .i64 a4)))] [] hB (by rfl) (by rfl) (by rfl)) ?_
  refine AWp.seq ?_
  obtain ⟨r1, hr1, h⟩ := bindS h
  refine AWp.region (OpJs.cons (OpJ.move (ltN hN rfl) (Opd.tmp 0 (.d (.int .i64 a0))))
  (OpJs.cons (OpJ.move (ltN hN rfl) (Opd.tmp 1 (.d (.int .i64 a1))))
  (OpJs.cons (OpJ.callFn hB fnOk23 (exchangepointref39_choose_ac a0 a1 r1 hr1) [] (by kernel_rfl) (ltN hN rfl) (by kernel_rfl) (OpdL.cons (Opd.tmp 16 (.d (.int .i64 a0))) (OpdL.cons (Opd.tmp 17 (.d (.int .i64 a1))) OpdL.nil)))
  (OpJs.cons (OpJ.assign (ltN hN rfl) (Opd.tmp 18 (.d (.int .i64 r1))))
  (OpJs.nil))))) (by rfl) (by rfl) ?_
  refine seqQ_n ?_
  refine AWp.ghost (Mat.pat [] [(0, (.d (.int .i64 a0))), (1, (.d (.int .i64 a1))), (2, (.d (.int .i64 a2))), (3, (.d (.int .i64 a3))), (4, (.d (.int .i64 a4))), (11, (.d (.int .i64 r1)))] [] hB (by rfl) (by rfl) (by rfl)) ?_
  refine AWp.seq ?_
  obtain ⟨r2, hr2, h⟩ := bindS h
  refine AWp.region (OpJs.cons (OpJ.move (ltN hN rfl) (Opd.tmp 0 (.d (.int .i64 a0))))
  (OpJs.cons (OpJ.move (ltN hN rfl) (Opd.tmp 1 (.d (.int .i64 a1))))
  (OpJs.cons (OpJ.move (ltN hN rfl) (Opd.tmp 2 (.d (.int .i64 a2))))
  (OpJs.cons (OpJ.move (ltN hN rfl) (Opd.tmp 3 (.d (.int .i64 a3))))
  (OpJs.cons (OpJ.callFn hB fnOk13 (exchangepointref39_AtLeast_ac a0 a1 a2 a3 r2 hr2) [] (by kernel_rfl) (ltN hN rfl) (by kernel_rfl) (OpdL.cons (Opd.tmp 20 (.d (.int .i64 a0))) (OpdL.cons (Opd.tmp 21 (.d (.int .i64 a1))) (OpdL.cons (Opd.tmp 22 (.d (.int .i64 a2))) (OpdL.cons (Opd.tmp 23 (.d (.int .i64 a3))) OpdL.nil)))))
  (OpJs.cons (OpJ.move (ltN hN rfl) (Opd.tmp 24 (.tup [(.d (.int .i64 r2.1)), (.d (.int .i64 r2.2))])))
  (OpJs.cons (OpJ.extract (v := (.d (.int .i64 r2.1))) (by rfl) rfl (ltN hN rfl) (Opd.tmp 19 (.tup [(.d (.int .i64 r2.1)), (.d (.int .i64 r2.2))])))
  (OpJs.cons (OpJ.extract (v := (.d (.int .i64 r2.2))) (by rfl) rfl (ltN hN rfl) (Opd.tmp 19 (.tup [(.d (.int .i64 r2.1)), (.d (.int .i64 r2.2))])))
  (OpJs.cons (OpJ.assign (ltN hN rfl) (Opd.tmp 25 (.d (.int .i64 r2.1))))
  (OpJs.cons (OpJ.assign (ltN hN rfl) (Opd.tmp 26 (.d (.int .i64 r2.2))))
  (OpJs.nil))))))))))) (by rfl) (by rfl) ?_
  refine seqQ_n ?_
  refine AWp.ghost (Mat.pat [] [(0, (.d (.int .i64 a0))), (1, (.d (.int .i64 a1))), (2, (.d (.int .i64 a2))), (3, (.d (.int .i64 a3))), (4, (.d (.int .i64 a4))), (11, (.d (.int .i64 r1))), (12, (.d (.int .i64 r2.1)))] [] hB (by rfl) (by rfl) (by rfl)) ?_
  refine AWp.seq ?_
  obtain ⟨r3, hr3, h⟩ := bindS h
  refine AWp.region (OpJs.cons (OpJ.move (ltN hN rfl) (Opd.tmp 0 (.d (.int .i64 a0))))
  (OpJs.cons (OpJ.move (ltN hN rfl) (Opd.tmp 1 (.d (.int .i64 a1))))
  (OpJs.cons (OpJ.move (ltN hN rfl) (Opd.tmp 2 (.d (.int .i64 a2))))
  (OpJs.cons (OpJ.move (ltN hN rfl) (Opd.tmp 3 (.d (.int .i64 a3))))
  (OpJs.cons (OpJ.callFn hB fnOk15 (exchangepointref39_AtMost_ac a0 a1 a2 a3 r3 hr3) [] (by kernel_rfl) (ltN hN rfl) (by kernel_rfl) (OpdL.cons (Opd.tmp 28 (.d (.int .i64 a0))) (OpdL.cons (Opd.tmp 29 (.d (.int .i64 a1))) (OpdL.cons (Opd.tmp 30 (.d (.int .i64 a2))) (OpdL.cons (Opd.tmp 31 (.d (.int .i64 a3))) OpdL.nil)))))
  (OpJs.cons (OpJ.move (ltN hN rfl) (Opd.tmp 32 (.tup [(.d (.int .i64 r3.1)), (.d (.int .i64 r3.2))])))
  (OpJs.cons (OpJ.extract (v := (.d (.int .i64 r3.1))) (by rfl) rfl (ltN hN rfl) (Opd.tmp 27 (.tup [(.d (.int .i64 r3.1)), (.d (.int .i64 r3.2))])))
  (OpJs.cons (OpJ.extract (v := (.d (.int .i64 r3.2))) (by rfl) rfl (ltN hN rfl) (Opd.tmp 27 (.tup [(.d (.int .i64 r3.1)), (.d (.int .i64 r3.2))])))
  (OpJs.cons (OpJ.assign (ltN hN rfl) (Opd.tmp 33 (.d (.int .i64 r3.1))))
  (OpJs.cons (OpJ.assign (ltN hN rfl) (Opd.tmp 34 (.d (.int .i64 r3.2))))
  (OpJs.nil))))))))))) (by rfl) (by rfl) ?_
  refine seqQ_n ?_
  refine AWp.ghost (Mat.pat [] [(4, (.d (.int .i64 a4))), (11, (.d (.int .i64 r1))), (12, (.d (.int .i64 r2.1))), (14, (.d (.int .i64 r3.1)))] [] hB (by rfl) (by rfl) (by rfl)) ?_
  refine AWp.seq ?_
  refine AWp.cut h (fun m8 : Bool => ([(10, (.d (.bool m8)))] : EL)) (fun m8 : Bool => ([] : OL)) (fun m8 h E' O' hmat => ?_) (fun j9 hjj9 h => ?_)
  · refine seqQ_n ?_
    refine AWp.ghost hmat ?_
    refine AWp.ret ?_
    obtain rfl := Option.some.inj h
    exact ⟨.inl rfl, _, _, (Mat.pat [] [(10, (.d (.bool m8)))] [] hB (by rfl) (by rfl) (by rfl)), [(.d (.bool m8))], (Res.tmp (by rfl) (by rfl) Res.nil), rfl, by rfl, by rfl, by rfl⟩
  · obtain ⟨r10, hr10, h⟩ := bindS h
    rcases Bool.eq_false_or_eq_true r10 with hg11 | hg11
    · replace h := ite_t hg11 h
      obtain ⟨r12, hr12, h⟩ := bindS h
      refine AWp.region (OpJs.cons (OpJ.move (ltN hN rfl) (Opd.tmp 12 (.d (.int .i64 r2.1))))
        (OpJs.cons (OpJ.move (ltN hN rfl) (Opd.tmp 4 (.d (.int .i64 a4))))
        (OpJs.cons (OpJ.move (ltN hN rfl) (Opd.tmp 11 (.d (.int .i64 r1))))
        (OpJs.cons (OpJ.callFn hB fnOk32 (exchangepointref39_above_ac r2.1 a4 r1 r10 hr10) [] (by kernel_rfl) (ltN hN rfl) (by kernel_rfl) (OpdL.cons (Opd.tmp 35 (.d (.int .i64 r2.1))) (OpdL.cons (Opd.tmp 36 (.d (.int .i64 a4))) (OpdL.cons (Opd.tmp 37 (.d (.int .i64 r1))) OpdL.nil))))
        (OpJs.cons (OpJ.val (v' := .d (.bool true)) (by rw [hg11]) (OpJ.move (ltN hN rfl) (Opd.tmp 38 (.d (.bool r10)))))
        (OpJs.cons (OpJ.guarded (by rfl) (OpJ.move (ltN hN rfl) (Opd.tmp 14 (.d (.int .i64 r3.1)))))
        (OpJs.cons (OpJ.guarded (by rfl) (OpJ.move (ltN hN rfl) (Opd.tmp 4 (.d (.int .i64 a4)))))
        (OpJs.cons (OpJ.guarded (by rfl) (OpJ.move (ltN hN rfl) (Opd.tmp 11 (.d (.int .i64 r1)))))
        (OpJs.cons (OpJ.guarded (by rfl) (OpJ.callFn hB fnOk32 (exchangepointref39_above_ac r3.1 a4 r1 r12 hr12) [] (by kernel_rfl) (ltN hN rfl) (by kernel_rfl) (OpdL.cons (Opd.tmp 40 (.d (.int .i64 r3.1))) (OpdL.cons (Opd.tmp 41 (.d (.int .i64 a4))) (OpdL.cons (Opd.tmp 42 (.d (.int .i64 r1))) OpdL.nil)))))
        (OpJs.cons (OpJ.pickT (ltN hN rfl) (Opd.tmp 39 (.d (.bool true))) (Opd.tmp 43 (.d (.bool r12))))
        (OpJs.cons (OpJ.assign (ltN hN rfl) (Opd.tmp 44 (.d (.bool r12))))
        (OpJs.nil)))))))))))) (by rfl) (by rfl) ?_
      exact hjj9 _ h _ _ (Mat.trans (Mat.pat [] [(10, (.d (.bool r12)))] [] hB (by rfl) (by rfl) (by rfl)) (Mat.pat [] ((fun m8 : Bool => ([(10, (.d (.bool m8)))] : EL)) r12) ((fun m8 : Bool => ([] : OL)) r12) hB (by rfl) (by rfl) (by rfl)))
    · replace h := ite_f hg11 h
      refine AWp.region (OpJs.cons (OpJ.move (ltN hN rfl) (Opd.tmp 12 (.d (.int .i64 r2.1))))
        (OpJs.cons (OpJ.move (ltN hN rfl) (Opd.tmp 4 (.d (.int .i64 a4))))
        (OpJs.cons (OpJ.move (ltN hN rfl) (Opd.tmp 11 (.d (.int .i64 r1))))
        (OpJs.cons (OpJ.callFn hB fnOk32 (exchangepointref39_above_ac r2.1 a4 r1 r10 hr10) [] (by kernel_rfl) (ltN hN rfl) (by kernel_rfl) (OpdL.cons (Opd.tmp 35 (.d (.int .i64 r2.1))) (OpdL.cons (Opd.tmp 36 (.d (.int .i64 a4))) (OpdL.cons (Opd.tmp 37 (.d (.int .i64 r1))) OpdL.nil))))
        (OpJs.cons (OpJ.val (v' := .d (.bool false)) (by rw [hg11]) (OpJ.move (ltN hN rfl) (Opd.tmp 38 (.d (.bool r10)))))
        (OpJs.cons (OpJ.skipU (ltN hN rfl) (by rfl))
        (OpJs.cons (OpJ.skipU (ltN hN rfl) (by rfl))
        (OpJs.cons (OpJ.skipU (ltN hN rfl) (by rfl))
        (OpJs.cons (OpJ.skipU (ltN hN rfl) (by rfl))
        (OpJs.cons (OpJ.pickF (ltN hN rfl) (Opd.tmp 39 (.d (.bool false))) (Opd.bool false))
        (OpJs.cons (OpJ.assign (ltN hN rfl) (Opd.tmp 44 (.d (.bool false))))
        (OpJs.nil)))))))))))) (by rfl) (by rfl) ?_
      exact hjj9 _ h _ _ (Mat.trans (Mat.pat [] [(10, (.d (.bool false)))] [] hB (by rfl) (by rfl) (by rfl)) (Mat.pat [] ((fun m8 : Bool => ([(10, (.d (.bool m8)))] : EL)) false) ((fun m8 : Bool => ([] : OL)) false) hB (by rfl) (by rfl) (by rfl)))

noncomputable def exchangepointref39_Bounds_L0 (a0 : Int) (a1 : Int) (a2 : Int) (a3 : Int) (s3 : Int × Int × Int) : Option (((Int × Int)) ⊕ (Int × Int × Int)) :=
  (if (decide (s3.2.2 ≤ (w64 (a0 - (w64 (a1 - a2)))))) = true then
  (exchangepointref39_plausible a0 a1 s3.2.2 a2 a3).bind fun r34 =>
  jn (fun m40 : Int × Int =>
  some (.inr (m40.1, m40.2, (w64 (s3.2.2 + (1 : Int)))))) (fun j41 =>
  (if r34 = true then
  jn (fun m44 : Int =>
  j41 (m44, s3.2.2)) (fun j45 =>
  (if (decide (s3.1 < (0 : Int))) = true then
  j45 s3.2.2
  else
  j45 s3.1))
  else
  j41 (s3.1, s3.2.1)))
  else
  some (.inl (s3.1, s3.2.1)))
noncomputable def exchangepointref39_Bounds (a0 : Int) (a1 : Int) (a2 : Int) (a3 : Int) : Option (Int × Int × Int) :=
  (exchangepointref39_bad a0 a1 (0 : Int)).bind fun r1 =>
  (if ((((r1 || (decide (a3 < (1 : Int)))) || (decide ((1000 : Int) ≤ a3))) || (decide (a2 < (0 : Int)))) || (decide (a1 < a2))) = true then
  some ((0 : Int), (0 : Int), (1 : Int))
  else
  (loop (exchangepointref39_Bounds_L0 a0 a1 a2 a3) ((-1 : Int), (-1 : Int), a2)).bind fun p32 =>
  some (p32.1, p32.2, (0 : Int)))
set_option maxHeartbeats 4000000 in
set_option maxRecDepth 100000 in
theorem exchangepointref39_Bounds_ac (a0 : Int) (a1 : Int) (a2 : Int) (a3 : Int) (r : Int × Int × Int) (h : exchangepointref39_Bounds a0 a1 a2 a3 = some r) : AC Try.prog 19 [(.d (.int .i64 a0)), (.d (.int .i64 a1)), (.d (.int .i64 a2)), (.d (.int .i64 a3))] [] (.tup [(.d (.int .i64 r.1)), (.d (.int .i64 r.2.1)), (.d (.int .i64 r.2.2))]) [] := by
  refine AC.of_code2 Try.func19 rfl rfl (Nat.le_of_ble_eq_true (by rfl)) fun B hB hN => ?_
  delta exchangepointref39_Bounds at h
  refine AWp.seq ?_
  refine AWp.region (OpJs.cons (OpJ.assign (ltN hN rfl) (Opd.int .i64 (0)))
  (OpJs.cons (OpJ.assign (ltN hN rfl) (Opd.int .i64 (0)))
  (OpJs.cons (OpJ.assign (ltN hN rfl) (Opd.int .i64 (0)))
  (OpJs.nil)))) (by rfl) (by rfl) ?_
  refine seqQ_n ?_
  refine AWp.ghost (Mat.pat [] [(0, (.d (.int .i64 a0))), (1, (.d (.int .i64 a1))), (2, (.d (.int .i64 a2))), (3, (.d (.int .i64 a3)))] [] hB (by rfl) (by rfl) (by rfl)) ?_
  refine AWp.seq ?_
  refine AWp.seq ?_
  obtain ⟨r1, hr1, h⟩ := bindS h
  refine AWp.region (OpJs.cons (OpJ.move (ltN hN rfl) (Opd.tmp 0 (.d (.int .i64 a0))))
  (OpJs.cons (OpJ.move (ltN hN rfl) (Opd.tmp 1 (.d (.int .i64 a1))))
  (OpJs.cons (OpJ.callFn hB fnOk26 (exchangepointref39_bad_ac a0 a1 (0 : Int) r1 hr1) [] (by kernel_rfl) (ltN hN rfl) (by kernel_rfl) (OpdL.cons (Opd.tmp 14 (.d (.int .i64 a0))) (OpdL.cons (Opd.tmp 15 (.d (.int .i64 a1))) (OpdL.cons (Opd.int .i64 (0)) OpdL.nil))))
  (OpJs.cons (OpJ.move (ltN hN rfl) (Opd.tmp 16 (.d (.bool r1))))
  (OpJs.cons (OpJ.opt' (v := (.d (.int .i64 a3))) (OpJ.move (ltN hN rfl) (Opd.tmp 3 (.d (.int .i64 a3)))) (by rfl) (GuardV.plain _) (ltN hN rfl) (by rfl) (by rfl) (by rfl) (by rfl) (OptL.keep rfl OptL.nil))
  (OpJs.cons (OpJ.opt' (v := (.d (.bool (decide (a3 < (1 : Int)))))) (OpJ.lss (ltN hN rfl) (Opd.tmp 18 (.d (.int .i64 a3))) (Opd.int .i64 (1))) (by rfl) (GuardV.plain _) (ltN hN rfl) (by rfl) (by rfl) (by rfl) (by rfl) (OptL.opt OptL.nil))
  (OpJs.cons (OpJ.pickOr rfl (ltN hN rfl) (Opd.tmp 17 (.d (.bool r1))) (Opd.tmp 19 (.opt (r1 == false) (.d (.bool (decide (a3 < (1 : Int))))))))
  (OpJs.cons (OpJ.move (ltN hN rfl) (Opd.tmp 20 (.d (.bool (r1 || (decide (a3 < (1 : Int))))))))
  (OpJs.cons (OpJ.opt' (v := (.d (.int .i64 a3))) (OpJ.move (ltN hN rfl) (Opd.tmp 3 (.d (.int .i64 a3)))) (by rfl) (GuardV.plain _) (ltN hN rfl) (by rfl) (by rfl) (by rfl) (by rfl) (OptL.keep rfl OptL.nil))
  (OpJs.cons (OpJ.opt' (v := (.d (.bool (decide ((1000 : Int) ≤ a3))))) (OpJ.geq (ltN hN rfl) (Opd.tmp 22 (.d (.int .i64 a3))) (Opd.int .i64 (1000))) (by rfl) (GuardV.plain _) (ltN hN rfl) (by rfl) (by rfl) (by rfl) (by rfl) (OptL.opt OptL.nil))
  (OpJs.cons (OpJ.pickOr rfl (ltN hN rfl) (Opd.tmp 21 (.d (.bool (r1 || (decide (a3 < (1 : Int))))))) (Opd.tmp 23 (.opt ((r1 || (decide (a3 < (1 : Int)))) == false) (.d (.bool (decide ((1000 : Int) ≤ a3)))))))
  (OpJs.cons (OpJ.move (ltN hN rfl) (Opd.tmp 24 (.d (.bool ((r1 || (decide (a3 < (1 : Int)))) || (decide ((1000 : Int) ≤ a3)))))))
  (OpJs.cons (OpJ.opt' (v := (.d (.int .i64 a2))) (OpJ.move (ltN hN rfl) (Opd.tmp 2 (.d (.int .i64 a2)))) (by rfl) (GuardV.plain _) (ltN hN rfl) (by rfl) (by rfl) (by rfl) (by rfl) (OptL.keep rfl OptL.nil))
  (OpJs.cons (OpJ.opt' (v := (.d (.bool (decide (a2 < (0 : Int)))))) (OpJ.lss (ltN hN rfl) (Opd.tmp 26 (.d (.int .i64 a2))) (Opd.int .i64 (0))) (by rfl) (GuardV.plain _) (ltN hN rfl) (by rfl) (by rfl) (by rfl) (by rfl) (OptL.opt OptL.nil))
  (OpJs.cons (OpJ.pickOr rfl (ltN hN rfl) (Opd.tmp 25 (.d (.bool ((r1 || (decide (a3 < (1 : Int)))) || (decide ((1000 : Int) ≤ a3)))))) (Opd.tmp 27 (.opt (((r1 || (decide (a3 < (1 : Int)))) || (decide ((1000 : Int) ≤ a3))) == false) (.d (.bool (decide (a2 < (0 : Int))))))))
  (OpJs.cons (OpJ.move (ltN hN rfl) (Opd.tmp 28 (.d (.bool (((r1 || (decide (a3 < (1 : Int)))) || (decide ((1000 : Int) ≤ a3))) || (decide (a2 < (0 : Int))))))))
  (OpJs.cons (OpJ.opt' (v := (.d (.int .i64 a2))) (OpJ.move (ltN hN rfl) (Opd.tmp 2 (.d (.int .i64 a2)))) (by rfl) (GuardV.plain _) (ltN hN rfl) (by rfl) (by rfl) (by rfl) (by rfl) (OptL.keep rfl OptL.nil))
  (OpJs.cons (OpJ.opt' (v := (.d (.int .i64 a1))) (OpJ.move (ltN hN rfl) (Opd.tmp 1 (.d (.int .i64 a1)))) (by rfl) (GuardV.plain _) (ltN hN rfl) (by rfl) (by rfl) (by rfl) (by rfl) (OptL.keep rfl OptL.nil))
  (OpJs.cons (OpJ.opt' (v := (.d (.bool (decide (a1 < a2))))) (OpJ.gtr (ltN hN rfl) (Opd.tmp 30 (.d (.int .i64 a2))) (Opd.tmp 31 (.d (.int .i64 a1)))) (by rfl) (GuardV.plain _) (ltN hN rfl) (by rfl) (by rfl) (by rfl) (by rfl) (OptL.opt (OptL.opt OptL.nil)))
  (OpJs.cons (OpJ.pickOr rfl (ltN hN rfl) (Opd.tmp 29 (.d (.bool (((r1 || (decide (a3 < (1 : Int)))) || (decide ((1000 : Int) ≤ a3))) || (decide (a2 < (0 : Int))))))) (Opd.tmp 32 (.opt ((((r1 || (decide (a3 < (1 : Int)))) || (decide ((1000 : Int) ≤ a3))) || (decide (a2 < (0 : Int)))) == false) (.d (.bool (decide (a1 < a2)))))))
  (OpJs.nil))))))))))))))))))))) (by rfl) (by rfl) ?_
  refine seqQ_n ?_
  refine AWp.ghost (Mat.pat [] [(0, (.d (.int .i64 a0))), (1, (.d (.int .i64 a1))), (2, (.d (.int .i64 a2))), (3, (.d (.int .i64 a3))), (33, (.d (.bool ((((r1 || (decide (a3 < (1 : Int)))) || (decide ((1000 : Int) ≤ a3))) || (decide (a2 < (0 : Int)))) || (decide (a1 < a2))))))] [] hB (by rfl) (by rfl) (by rfl)) ?_
  refine AWp.cond (b := ((((r1 || (decide (a3 < (1 : Int)))) || (decide ((1000 : Int) ≤ a3))) || (decide (a2 < (0 : Int)))) || (decide (a1 < a2)))) (by rfl) (fun hg2 => ?_) (fun hg2 => ?_)
  · replace h := ite_t hg2 h
    refine AWp.seq ?_
    refine AWp.region (OpJs.cons (OpJ.assign (ltN hN rfl) (Opd.int .i64 (0)))
      (OpJs.cons (OpJ.assign (ltN hN rfl) (Opd.int .i64 (0)))
      (OpJs.cons (OpJ.assign (ltN hN rfl) (Opd.int .i64 (1)))
      (OpJs.nil)))) (by rfl) (by rfl) ?_
    refine seqQ_n ?_
    refine AWp.ghost (Mat.pat [] [(8, (.d (.int .i64 (0 : Int)))), (9, (.d (.int .i64 (0 : Int)))), (10, (.d (.int .i64 (1 : Int))))] [] hB (by rfl) (by rfl) (by rfl)) ?_
    refine AWp.ret ?_
    refine seqQ_r ?_
    obtain rfl := Option.some.inj h
    exact ⟨.inl rfl, _, _, (Mat.pat [] [(8, (.d (.int .i64 (0 : Int)))), (9, (.d (.int .i64 (0 : Int)))), (10, (.d (.int .i64 (1 : Int))))] [] hB (by rfl) (by rfl) (by rfl)), [(.d (.int .i64 (0 : Int))), (.d (.int .i64 (0 : Int))), (.d (.int .i64 (1 : Int)))], (Res.tmp (by rfl) (by rfl) (Res.tmp (by rfl) (by rfl) (Res.tmp (by rfl) (by rfl) Res.nil))), rfl, by rfl, by rfl, by rfl⟩
  · replace h := ite_f hg2 h
    refine AWp.skip ?_
    refine seqQ_n ?_
    refine AWp.seq ?_
    refine AWp.region (OpJs.cons (OpJ.assign (ltN hN rfl) (Opd.int .i64 (-1)))
      (OpJs.cons (OpJ.assign (ltN hN rfl) (Opd.int .i64 (-1)))
      (OpJs.nil))) (by rfl) (by rfl) ?_
    refine seqQ_n ?_
    refine AWp.ghost (Mat.pat [] [(0, (.d (.int .i64 a0))), (1, (.d (.int .i64 a1))), (2, (.d (.int .i64 a2))), (3, (.d (.int .i64 a3))), (11, (.d (.int .i64 (-1 : Int)))), (12, (.d (.int .i64 (-1 : Int))))] [] hB (by rfl) (by rfl) (by rfl)) ?_
    refine AWp.seq ?_
    refine AWp.seq ?_
    refine AWp.region (OpJs.cons (OpJ.move (ltN hN rfl) (Opd.tmp 2 (.d (.int .i64 a2))))
      (OpJs.cons (OpJ.assign (ltN hN rfl) (Opd.tmp 34 (.d (.int .i64 a2))))
      (OpJs.nil))) (by rfl) (by rfl) ?_
    refine seqQ_n ?_
    refine AWp.ghost (Mat.pat [] [(0, (.d (.int .i64 a0))), (1, (.d (.int .i64 a1))), (2, (.d (.int .i64 a2))), (3, (.d (.int .i64 a3))), (11, (.d (.int .i64 (-1 : Int)))), (12, (.d (.int .i64 (-1 : Int)))), (13, (.d (.int .i64 a2)))] [] hB (by rfl) (by rfl) (by rfl)) ?_
    refine AWp.block ?_
    obtain ⟨p32, hx48, h⟩ := bindS h
    refine AWp.ghost (Mat.pat [] ((fun s3 : Int × Int × Int => ([(0, (.d (.int .i64 a0))), (1, (.d (.int .i64 a1))), (2, (.d (.int .i64 a2))), (3, (.d (.int .i64 a3))), (11, (.d (.int .i64 s3.1))), (12, (.d (.int .i64 s3.2.1))), (13, (.d (.int .i64 s3.2.2)))] : EL)) ((-1 : Int), (-1 : Int), a2)) ((fun s3 : Int × Int × Int => ([] : OL)) ((-1 : Int), (-1 : Int), a2)) hB (by rfl) (by rfl) (by rfl)) ?_
    refine AWp.loopS (exchangepointref39_Bounds_L0 a0 a1 a2 a3) (fun s3 : Int × Int × Int => ([(0, (.d (.int .i64 a0))), (1, (.d (.int .i64 a1))), (2, (.d (.int .i64 a2))), (3, (.d (.int .i64 a3))), (11, (.d (.int .i64 s3.1))), (12, (.d (.int .i64 s3.2.1))), (13, (.d (.int .i64 s3.2.2)))] : EL)) (fun s3 : Int × Int × Int => ([] : OL)) (fun (p32 : (Int × Int)) e E' O' => e = .exit 0 ∧ Mat B E' O' ([(11, (.d (.int .i64 p32.1))), (12, (.d (.int .i64 p32.2)))] : EL) ([] : OL)) hx48 (fun s3 y h => ?_) (fun e E' O' hR => ?_)
    · unfold exchangepointref39_Bounds_L0 at h
      show AWp _ _ _ _ ([(0, (.d (.int .i64 a0))), (1, (.d (.int .i64 a1))), (2, (.d (.int .i64 a2))), (3, (.d (.int .i64 a3))), (11, (.d (.int .i64 s3.1))), (12, (.d (.int .i64 s3.2.1))), (13, (.d (.int .i64 s3.2.2)))] : EL) ([] : OL)
      refine AWp.seq ?_
      refine AWp.seq ?_
      refine AWp.region (OpJs.cons (OpJ.move (ltN hN rfl) (Opd.tmp 13 (.d (.int .i64 s3.2.2))))
        (OpJs.cons (OpJ.move (ltN hN rfl) (Opd.tmp 0 (.d (.int .i64 a0))))
        (OpJs.cons (OpJ.move (ltN hN rfl) (Opd.tmp 1 (.d (.int .i64 a1))))
        (OpJs.cons (OpJ.move (ltN hN rfl) (Opd.tmp 2 (.d (.int .i64 a2))))
        (OpJs.cons (OpJ.sub (ltN hN rfl) (Opd.tmp 37 (.d (.int .i64 a1))) (Opd.tmp 38 (.d (.int .i64 a2))))
        (OpJs.cons (OpJ.sub (ltN hN rfl) (Opd.tmp 36 (.d (.int .i64 a0))) (Opd.tmp 39 (.d (.int .i64 (w64 (a1 - a2))))))
        (OpJs.cons (OpJ.leq (ltN hN rfl) (Opd.tmp 35 (.d (.int .i64 s3.2.2))) (Opd.tmp 40 (.d (.int .i64 (w64 (a0 - (w64 (a1 - a2))))))))
        (OpJs.nil)))))))) (by rfl) (by rfl) ?_
      refine seqQ_n ?_
      refine AWp.ghost (Mat.pat [] [(0, (.d (.int .i64 a0))), (1, (.d (.int .i64 a1))), (2, (.d (.int .i64 a2))), (3, (.d (.int .i64 a3))), (11, (.d (.int .i64 s3.1))), (12, (.d (.int .i64 s3.2.1))), (13, (.d (.int .i64 s3.2.2))), (41, (.d (.bool (decide (s3.2.2 ≤ (w64 (a0 - (w64 (a1 - a2)))))))))] [] hB (by rfl) (by rfl) (by rfl)) ?_
      refine AWp.cond (b := (decide (s3.2.2 ≤ (w64 (a0 - (w64 (a1 - a2))))))) (by rfl) (fun hg33 => ?_) (fun hg33 => ?_)
      · replace h := ite_t hg33 h
        refine AWp.skip ?_
        refine seqQ_n ?_
        refine AWp.seq ?_
        refine AWp.block ?_
        refine AWp.seq ?_
        obtain ⟨r34, hr34, h⟩ := bindS h
        refine AWp.region (OpJs.cons (OpJ.move (ltN hN rfl) (Opd.tmp 0 (.d (.int .i64 a0))))
          (OpJs.cons (OpJ.move (ltN hN rfl) (Opd.tmp 1 (.d (.int .i64 a1))))
          (OpJs.cons (OpJ.move (ltN hN rfl) (Opd.tmp 13 (.d (.int .i64 s3.2.2))))
          (OpJs.cons (OpJ.move (ltN hN rfl) (Opd.tmp 2 (.d (.int .i64 a2))))
          (OpJs.cons (OpJ.move (ltN hN rfl) (Opd.tmp 3 (.d (.int .i64 a3))))
          (OpJs.cons (OpJ.callFn hB fnOk30 (exchangepointref39_plausible_ac a0 a1 s3.2.2 a2 a3 r34 hr34) [] (by kernel_rfl) (ltN hN rfl) (by kernel_rfl) (OpdL.cons (Opd.tmp 44 (.d (.int .i64 a0))) (OpdL.cons (Opd.tmp 45 (.d (.int .i64 a1))) (OpdL.cons (Opd.tmp 46 (.d (.int .i64 s3.2.2))) (OpdL.cons (Opd.tmp 47 (.d (.int .i64 a2))) (OpdL.cons (Opd.tmp 48 (.d (.int .i64 a3))) OpdL.nil))))))
          (OpJs.nil))))))) (by rfl) (by rfl) ?_
        refine seqQ_n ?_
        refine AWp.ghost (Mat.pat [] [(0, (.d (.int .i64 a0))), (1, (.d (.int .i64 a1))), (2, (.d (.int .i64 a2))), (3, (.d (.int .i64 a3))), (11, (.d (.int .i64 s3.1))), (12, (.d (.int .i64 s3.2.1))), (13, (.d (.int .i64 s3.2.2))), (49, (.d (.bool r34)))] [] hB (by rfl) (by rfl) (by rfl)) ?_
        refine AWp.cut h (fun m40 : Int × Int => ([(0, (.d (.int .i64 a0))), (1, (.d (.int .i64 a1))), (2, (.d (.int .i64 a2))), (3, (.d (.int .i64 a3))), (11, (.d (.int .i64 m40.1))), (12, (.d (.int .i64 m40.2))), (13, (.d (.int .i64 s3.2.2)))] : EL)) (fun m40 : Int × Int => ([] : OL)) (fun m40 h E' O' hmat => ?_) (fun j41 hjj41 h => ?_)
        · refine blkQ_n ?_
          refine seqQ_n ?_
          refine AWp.ghost hmat ?_
          refine AWp.region (OpJs.cons (OpJ.move (ltN hN rfl) (Opd.tmp 13 (.d (.int .i64 s3.2.2))))
            (OpJs.cons (OpJ.add (ltN hN rfl) (Opd.tmp 42 (.d (.int .i64 s3.2.2))) (Opd.int .i64 (1)))
            (OpJs.cons (OpJ.assign (ltN hN rfl) (Opd.tmp 43 (.d (.int .i64 (w64 (s3.2.2 + (1 : Int)))))))
            (OpJs.nil)))) (by rfl) (by rfl) ?_
          obtain rfl := Option.some.inj h
          exact ⟨rfl, (Mat.trans (Mat.pat [] [(0, (.d (.int .i64 a0))), (1, (.d (.int .i64 a1))), (2, (.d (.int .i64 a2))), (3, (.d (.int .i64 a3))), (11, (.d (.int .i64 m40.1))), (12, (.d (.int .i64 m40.2))), (13, (.d (.int .i64 (w64 (s3.2.2 + (1 : Int))))))] [] hB (by rfl) (by rfl) (by rfl)) (Mat.pat [] ((fun s3 : Int × Int × Int => ([(0, (.d (.int .i64 a0))), (1, (.d (.int .i64 a1))), (2, (.d (.int .i64 a2))), (3, (.d (.int .i64 a3))), (11, (.d (.int .i64 s3.1))), (12, (.d (.int .i64 s3.2.1))), (13, (.d (.int .i64 s3.2.2)))] : EL)) (m40.1, m40.2, (w64 (s3.2.2 + (1 : Int))))) ((fun s3 : Int × Int × Int => ([] : OL)) (m40.1, m40.2, (w64 (s3.2.2 + (1 : Int))))) hB (by rfl) (by rfl) (by rfl)))⟩
        · refine AWp.cond (b := r34) (by rfl) (fun hg42 => ?_) (fun hg42 => ?_)
          · replace h := ite_t hg42 h
            refine AWp.seq ?_
            refine AWp.seq ?_
            refine AWp.region (OpJs.cons (OpJ.move (ltN hN rfl) (Opd.tmp 11 (.d (.int .i64 s3.1))))
              (OpJs.cons (OpJ.lss (ltN hN rfl) (Opd.tmp 50 (.d (.int .i64 s3.1))) (Opd.int .i64 (0)))
              (OpJs.nil))) (by rfl) (by rfl) ?_
            refine seqQ_n ?_
            refine AWp.ghost (Mat.pat [] [(0, (.d (.int .i64 a0))), (1, (.d (.int .i64 a1))), (2, (.d (.int .i64 a2))), (3, (.d (.int .i64 a3))), (11, (.d (.int .i64 s3.1))), (13, (.d (.int .i64 s3.2.2))), (51, (.d (.bool (decide (s3.1 < (0 : Int))))))] [] hB (by rfl) (by rfl) (by rfl)) ?_
            refine AWp.cut h (fun m44 : Int => ([(0, (.d (.int .i64 a0))), (1, (.d (.int .i64 a1))), (2, (.d (.int .i64 a2))), (3, (.d (.int .i64 a3))), (11, (.d (.int .i64 m44))), (13, (.d (.int .i64 s3.2.2)))] : EL)) (fun m44 : Int => ([] : OL)) (fun m44 h E' O' hmat => ?_) (fun j45 hjj45 h => ?_)
            · refine seqQ_n ?_
              refine AWp.ghost hmat ?_
              refine AWp.region (OpJs.cons (OpJ.move (ltN hN rfl) (Opd.tmp 13 (.d (.int .i64 s3.2.2))))
                (OpJs.cons (OpJ.assign (ltN hN rfl) (Opd.tmp 53 (.d (.int .i64 s3.2.2))))
                (OpJs.nil))) (by rfl) (by rfl) ?_
              exact hjj41 _ h _ _ (Mat.trans (Mat.pat [] [(0, (.d (.int .i64 a0))), (1, (.d (.int .i64 a1))), (2, (.d (.int .i64 a2))), (3, (.d (.int .i64 a3))), (11, (.d (.int .i64 m44))), (12, (.d (.int .i64 s3.2.2))), (13, (.d (.int .i64 s3.2.2)))] [] hB (by rfl) (by rfl) (by rfl)) (Mat.pat [] ((fun m40 : Int × Int => ([(0, (.d (.int .i64 a0))), (1, (.d (.int .i64 a1))), (2, (.d (.int .i64 a2))), (3, (.d (.int .i64 a3))), (11, (.d (.int .i64 m40.1))), (12, (.d (.int .i64 m40.2))), (13, (.d (.int .i64 s3.2.2)))] : EL)) (m44, s3.2.2)) ((fun m40 : Int × Int => ([] : OL)) (m44, s3.2.2)) hB (by rfl) (by rfl) (by rfl)))
            · refine AWp.cond (b := (decide (s3.1 < (0 : Int)))) (by rfl) (fun hg46 => ?_) (fun hg46 => ?_)
              · replace h := ite_t hg46 h
                refine AWp.region (OpJs.cons (OpJ.move (ltN hN rfl) (Opd.tmp 13 (.d (.int .i64 s3.2.2))))
                  (OpJs.cons (OpJ.assign (ltN hN rfl) (Opd.tmp 52 (.d (.int .i64 s3.2.2))))
                  (OpJs.nil))) (by rfl) (by rfl) ?_
                exact hjj45 _ h _ _ (Mat.trans (Mat.pat [] [(0, (.d (.int .i64 a0))), (1, (.d (.int .i64 a1))), (2, (.d (.int .i64 a2))), (3, (.d (.int .i64 a3))), (11, (.d (.int .i64 s3.2.2))), (13, (.d (.int .i64 s3.2.2)))] [] hB (by rfl) (by rfl) (by rfl)) (Mat.pat [] ((fun m44 : Int => ([(0, (.d (.int .i64 a0))), (1, (.d (.int .i64 a1))), (2, (.d (.int .i64 a2))), (3, (.d (.int .i64 a3))), (11, (.d (.int .i64 m44))), (13, (.d (.int .i64 s3.2.2)))] : EL)) s3.2.2) ((fun m44 : Int => ([] : OL)) s3.2.2) hB (by rfl) (by rfl) (by rfl)))
              · replace h := ite_f hg46 h
                refine AWp.skip ?_
                exact hjj45 _ h _ _ (Mat.pat [] ((fun m44 : Int => ([(0, (.d (.int .i64 a0))), (1, (.d (.int .i64 a1))), (2, (.d (.int .i64 a2))), (3, (.d (.int .i64 a3))), (11, (.d (.int .i64 m44))), (13, (.d (.int .i64 s3.2.2)))] : EL)) s3.1) ((fun m44 : Int => ([] : OL)) s3.1) hB (by rfl) (by rfl) (by rfl))
          · replace h := ite_f hg42 h
            refine AWp.skip ?_
            exact hjj41 _ h _ _ (Mat.pat [] ((fun m40 : Int × Int => ([(0, (.d (.int .i64 a0))), (1, (.d (.int .i64 a1))), (2, (.d (.int .i64 a2))), (3, (.d (.int .i64 a3))), (11, (.d (.int .i64 m40.1))), (12, (.d (.int .i64 m40.2))), (13, (.d (.int .i64 s3.2.2)))] : EL)) (s3.1, s3.2.1)) ((fun m40 : Int × Int => ([] : OL)) (s3.1, s3.2.1)) hB (by rfl) (by rfl) (by rfl))
      · replace h := ite_f hg33 h
        refine AWp.exit ?_
        refine seqQ_e ?_
        obtain rfl := Option.some.inj h
        exact ⟨(fun hc => by cases hc), rfl, (Mat.pat [] ((fun p32 : Int × Int => ([(11, (.d (.int .i64 p32.1))), (12, (.d (.int .i64 p32.2)))] : EL)) (s3.1, s3.2.1)) ((fun p32 : Int × Int => ([] : OL)) (s3.1, s3.2.1)) hB (by rfl) (by rfl) (by rfl))⟩
    · obtain ⟨rfl, hmat⟩ := hR
      refine blkQ_hit ?_
      refine seqQ_n ?_
      refine AWp.ghost hmat ?_
      refine AWp.seq ?_
      refine AWp.region (OpJs.cons (OpJ.move (ltN hN rfl) (Opd.tmp 11 (.d (.int .i64 p32.1))))
        (OpJs.cons (OpJ.move (ltN hN rfl) (Opd.tmp 12 (.d (.int .i64 p32.2))))
        (OpJs.cons (OpJ.assign (ltN hN rfl) (Opd.tmp 54 (.d (.int .i64 p32.1))))
        (OpJs.cons (OpJ.assign (ltN hN rfl) (Opd.tmp 55 (.d (.int .i64 p32.2))))
        (OpJs.cons (OpJ.assign (ltN hN rfl) (Opd.int .i64 (0)))
        (OpJs.nil)))))) (by rfl) (by rfl) ?_
      refine seqQ_n ?_
      refine AWp.ghost (Mat.pat [] [(8, (.d (.int .i64 p32.1))), (9, (.d (.int .i64 p32.2))), (10, (.d (.int .i64 (0 : Int))))] [] hB (by rfl) (by rfl) (by rfl)) ?_
      refine AWp.ret ?_
      obtain rfl := Option.some.inj h
      exact ⟨.inl rfl, _, _, (Mat.pat [] [(8, (.d (.int .i64 p32.1))), (9, (.d (.int .i64 p32.2))), (10, (.d (.int .i64 (0 : Int))))] [] hB (by rfl) (by rfl) (by rfl)), [(.d (.int .i64 p32.1)), (.d (.int .i64 p32.2)), (.d (.int .i64 (0 : Int)))], (Res.tmp (by rfl) (by rfl) (Res.tmp (by rfl) (by rfl) (Res.tmp (by rfl) (by rfl) Res.nil))), rfl, by rfl, by rfl, by rfl⟩

noncomputable def exchangepointref39_Cover_L0 (a0 : Int) (a1 : Int) (a2 : Int) (a3 : Int) (s3 : Int × Int) : Option (((Int)) ⊕ (Int × Int)) :=
  (if (decide (s3.2 ≤ a1)) = true then
  jn (fun m32 : Int =>
  some (.inr (m32, (w64 (s3.2 + (1 : Int)))))) (fun j33 =>
  (if ((decide (a2 < s3.2)) || (decide ((w64 (a0 - a2)) < (w64 (a1 - s3.2))))) = true then
  j33 s3.1
  else
  (exchangepointref39_Bounds a0 a1 s3.2 a3).bind fun r35 =>
  (if ((decide (r35.1 ≤ a2)) && (decide (a2 ≤ r35.2.1))) = true then
  (exchangepointref39_exactly a0 a1 a2 s3.2).bind fun r37 =>
  j33 (w64 (s3.1 + r37))
  else
  j33 s3.1)))
  else
  some (.inl s3.1))
noncomputable def exchangepointref39_Cover (a0 : Int) (a1 : Int) (a2 : Int) (a3 : Int) : Option (Int × Int × Int) :=
  (exchangepointref39_bad a0 a1 a2).bind fun r1 =>
  (if ((r1 || (decide (a3 < (1 : Int)))) || (decide ((1000 : Int) ≤ a3))) = true then
  some ((0 : Int), (0 : Int), (1 : Int))
  else
  (loop (exchangepointref39_Cover_L0 a0 a1 a2 a3) ((0 : Int), (0 : Int))).bind fun p26 =>
  (exchangepointref39_choose a0 a1).bind fun r40 =>
  some (p26, r40, (0 : Int)))
set_option maxHeartbeats 4000000 in
set_option maxRecDepth 100000 in
theorem exchangepointref39_Cover_ac (a0 : Int) (a1 : Int) (a2 : Int) (a3 : Int) (r : Int × Int × Int) (h : exchangepointref39_Cover a0 a1 a2 a3 = some r) : AC Try.prog 20 [(.d (.int .i64 a0)), (.d (.int .i64 a1)), (.d (.int .i64 a2)), (.d (.int .i64 a3))] [] (.tup [(.d (.int .i64 r.1)), (.d (.int .i64 r.2.1)), (.d (.int .i64 r.2.2))]) [] := by
  refine AC.of_code2 Try.func20 rfl rfl (Nat.le_of_ble_eq_true (by rfl)) fun B hB hN => ?_
  delta exchangepointref39_Cover at h
  refine AWp.seq ?_
  refine AWp.region (OpJs.cons (OpJ.assign (ltN hN rfl) (Opd.int .i64 (0)))
  (OpJs.cons (OpJ.assign (ltN hN rfl) (Opd.int .i64 (0)))
  (OpJs.cons (OpJ.assign (ltN hN rfl) (Opd.int .i64 (0)))
  (OpJs.nil)))) (by rfl) (by rfl) ?_
  refine seqQ_n ?_
  refine AWp.ghost (Mat.pat [] [(0, (.d (.int .i64 a0))), (1, (.d (.int .i64 a1))), (2, (.d (.int .i64 a2))), (3, (.d (.int .i64 a3)))] [] hB (by rfl) (by rfl) (by rfl)) ?_
  refine AWp.seq ?_
  refine AWp.seq ?_
  obtain ⟨r1, hr1, h⟩ := bindS h
  refine AWp.region (OpJs.cons (OpJ.move (ltN hN rfl) (Opd.tmp 0 (.d (.int .i64 a0))))
  (OpJs.cons (OpJ.move (ltN hN rfl) (Opd.tmp 1 (.d (.int .i64 a1))))
  (OpJs.cons (OpJ.move (ltN hN rfl) (Opd.tmp 2 (.d (.int .i64 a2))))
  (OpJs.cons (OpJ.callFn hB fnOk26 (exchangepointref39_bad_ac a0 a1 a2 r1 hr1) [] (by kernel_rfl) (ltN hN rfl) (by kernel_rfl) (OpdL.cons (Opd.tmp 16 (.d (.int .i64 a0))) (OpdL.cons (Opd.tmp 17 (.d (.int .i64 a1))) (OpdL.cons (Opd.tmp 18 (.d (.int .i64 a2))) OpdL.nil))))
  (OpJs.cons (OpJ.move (ltN hN rfl) (Opd.tmp 19 (.d (.bool r1))))
  (OpJs.cons (OpJ.opt' (v := (.d (.int .i64 a3))) (OpJ.move (ltN hN rfl) (Opd.tmp 3 (.d (.int .i64 a3)))) (by rfl) (GuardV.plain _) (ltN hN rfl) (by rfl) (by rfl) (by rfl) (by rfl) (OptL.keep rfl OptL.nil))
  (OpJs.cons (OpJ.opt' (v := (.d (.bool (decide (a3 < (1 : Int)))))) (OpJ.lss (ltN hN rfl) (Opd.tmp 21 (.d (.int .i64 a3))) (Opd.int .i64 (1))) (by rfl) (GuardV.plain _) (ltN hN rfl) (by rfl) (by rfl) (by rfl) (by rfl) (OptL.opt OptL.nil))
  (OpJs.cons (OpJ.pickOr rfl (ltN hN rfl) (Opd.tmp 20 (.d (.bool r1))) (Opd.tmp 22 (.opt (r1 == false) (.d (.bool (decide (a3 < (1 : Int))))))))
  (OpJs.cons (OpJ.move (ltN hN rfl) (Opd.tmp 23 (.d (.bool (r1 || (decide (a3 < (1 : Int))))))))
  (OpJs.cons (OpJ.opt' (v := (.d (.int .i64 a3))) (OpJ.move (ltN hN rfl) (Opd.tmp 3 (.d (.int .i64 a3)))) (by rfl) (GuardV.plain _) (ltN hN rfl) (by rfl) (by rfl) (by rfl) (by rfl) (OptL.keep rfl OptL.nil))
  (OpJs.cons (OpJ.opt' (v := (.d (.bool (decide ((1000 : Int) ≤ a3))))) (OpJ.geq (ltN hN rfl) (Opd.tmp 25 (.d (.int .i64 a3))) (Opd.int .i64 (1000))) (by rfl) (GuardV.plain _) (ltN hN rfl) (by rfl) (by rfl) (by rfl) (by rfl) (OptL.opt OptL.nil))
  (OpJs.cons (OpJ.pickOr rfl (ltN hN rfl) (Opd.tmp 24 (.d (.bool (r1 || (decide (a3 < (1 : Int))))))) (Opd.tmp 26 (.opt ((r1 || (decide (a3 < (1 : Int)))) == false) (.d (.bool (decide ((1000 : Int) ≤ a3)))))))
  (OpJs.nil))))))))))))) (by rfl) (by rfl) ?_
  refine seqQ_n ?_
  refine AWp.ghost (Mat.pat [] [(0, (.d (.int .i64 a0))), (1, (.d (.int .i64 a1))), (2, (.d (.int .i64 a2))), (3, (.d (.int .i64 a3))), (27, (.d (.bool ((r1 || (decide (a3 < (1 : Int)))) || (decide ((1000 : Int) ≤ a3))))))] [] hB (by rfl) (by rfl) (by rfl)) ?_
  refine AWp.cond (b := ((r1 || (decide (a3 < (1 : Int)))) || (decide ((1000 : Int) ≤ a3)))) (by rfl) (fun hg2 => ?_) (fun hg2 => ?_)
  · replace h := ite_t hg2 h
    refine AWp.seq ?_
    refine AWp.region (OpJs.cons (OpJ.assign (ltN hN rfl) (Opd.int .i64 (0)))
      (OpJs.cons (OpJ.assign (ltN hN rfl) (Opd.int .i64 (0)))
      (OpJs.cons (OpJ.assign (ltN hN rfl) (Opd.int .i64 (1)))
      (OpJs.nil)))) (by rfl) (by rfl) ?_
    refine seqQ_n ?_
    refine AWp.ghost (Mat.pat [] [(8, (.d (.int .i64 (0 : Int)))), (9, (.d (.int .i64 (0 : Int)))), (10, (.d (.int .i64 (1 : Int))))] [] hB (by rfl) (by rfl) (by rfl)) ?_
    refine AWp.ret ?_
    refine seqQ_r ?_
    obtain rfl := Option.some.inj h
    exact ⟨.inl rfl, _, _, (Mat.pat [] [(8, (.d (.int .i64 (0 : Int)))), (9, (.d (.int .i64 (0 : Int)))), (10, (.d (.int .i64 (1 : Int))))] [] hB (by rfl) (by rfl) (by rfl)), [(.d (.int .i64 (0 : Int))), (.d (.int .i64 (0 : Int))), (.d (.int .i64 (1 : Int)))], (Res.tmp (by rfl) (by rfl) (Res.tmp (by rfl) (by rfl) (Res.tmp (by rfl) (by rfl) Res.nil))), rfl, by rfl, by rfl, by rfl⟩
  · replace h := ite_f hg2 h
    refine AWp.skip ?_
    refine seqQ_n ?_
    refine AWp.seq ?_
    refine AWp.region (OpJs.cons (OpJ.assign (ltN hN rfl) (Opd.int .i64 (0)))
      (OpJs.nil)) (by rfl) (by rfl) ?_
    refine seqQ_n ?_
    refine AWp.ghost (Mat.pat [] [(0, (.d (.int .i64 a0))), (1, (.d (.int .i64 a1))), (2, (.d (.int .i64 a2))), (3, (.d (.int .i64 a3))), (11, (.d (.int .i64 (0 : Int))))] [] hB (by rfl) (by rfl) (by rfl)) ?_
    refine AWp.seq ?_
    refine AWp.seq ?_
    refine AWp.region (OpJs.cons (OpJ.assign (ltN hN rfl) (Opd.int .i64 (0)))
      (OpJs.nil)) (by rfl) (by rfl) ?_
    refine seqQ_n ?_
    refine AWp.ghost (Mat.pat [] [(0, (.d (.int .i64 a0))), (1, (.d (.int .i64 a1))), (2, (.d (.int .i64 a2))), (3, (.d (.int .i64 a3))), (11, (.d (.int .i64 (0 : Int)))), (12, (.d (.int .i64 (0 : Int))))] [] hB (by rfl) (by rfl) (by rfl)) ?_
    refine AWp.block ?_
    obtain ⟨p26, hx39, h⟩ := bindS h
    refine AWp.ghost (Mat.pat [] ((fun s3 : Int × Int => ([(0, (.d (.int .i64 a0))), (1, (.d (.int .i64 a1))), (2, (.d (.int .i64 a2))), (3, (.d (.int .i64 a3))), (11, (.d (.int .i64 s3.1))), (12, (.d (.int .i64 s3.2)))] : EL)) ((0 : Int), (0 : Int))) ((fun s3 : Int × Int => ([] : OL)) ((0 : Int), (0 : Int))) hB (by rfl) (by rfl) (by rfl)) ?_
    refine AWp.loopS (exchangepointref39_Cover_L0 a0 a1 a2 a3) (fun s3 : Int × Int => ([(0, (.d (.int .i64 a0))), (1, (.d (.int .i64 a1))), (2, (.d (.int .i64 a2))), (3, (.d (.int .i64 a3))), (11, (.d (.int .i64 s3.1))), (12, (.d (.int .i64 s3.2)))] : EL)) (fun s3 : Int × Int => ([] : OL)) (fun (p26 : (Int)) e E' O' => e = .exit 0 ∧ Mat B E' O' ([(0, (.d (.int .i64 a0))), (1, (.d (.int .i64 a1))), (11, (.d (.int .i64 p26)))] : EL) ([] : OL)) hx39 (fun s3 y h => ?_) (fun e E' O' hR => ?_)
    · unfold exchangepointref39_Cover_L0 at h
      show AWp _ _ _ _ ([(0, (.d (.int .i64 a0))), (1, (.d (.int .i64 a1))), (2, (.d (.int .i64 a2))), (3, (.d (.int .i64 a3))), (11, (.d (.int .i64 s3.1))), (12, (.d (.int .i64 s3.2)))] : EL) ([] : OL)
      refine AWp.seq ?_
      refine AWp.seq ?_
      refine AWp.region (OpJs.cons (OpJ.move (ltN hN rfl) (Opd.tmp 12 (.d (.int .i64 s3.2))))
        (OpJs.cons (OpJ.move (ltN hN rfl) (Opd.tmp 1 (.d (.int .i64 a1))))
        (OpJs.cons (OpJ.leq (ltN hN rfl) (Opd.tmp 28 (.d (.int .i64 s3.2))) (Opd.tmp 29 (.d (.int .i64 a1))))
        (OpJs.nil)))) (by rfl) (by rfl) ?_
      refine seqQ_n ?_
      refine AWp.ghost (Mat.pat [] [(0, (.d (.int .i64 a0))), (1, (.d (.int .i64 a1))), (2, (.d (.int .i64 a2))), (3, (.d (.int .i64 a3))), (11, (.d (.int .i64 s3.1))), (12, (.d (.int .i64 s3.2))), (30, (.d (.bool (decide (s3.2 ≤ a1)))))] [] hB (by rfl) (by rfl) (by rfl)) ?_
      refine AWp.cond (b := (decide (s3.2 ≤ a1))) (by rfl) (fun hg27 => ?_) (fun hg27 => ?_)
      · replace h := ite_t hg27 h
        refine AWp.skip ?_
        refine seqQ_n ?_
        refine AWp.seq ?_
        refine AWp.cut h (fun m32 : Int => ([(0, (.d (.int .i64 a0))), (1, (.d (.int .i64 a1))), (2, (.d (.int .i64 a2))), (3, (.d (.int .i64 a3))), (11, (.d (.int .i64 m32))), (12, (.d (.int .i64 s3.2)))] : EL)) (fun m32 : Int => ([] : OL)) (fun m32 h E' O' hmat => ?_) (fun j33 hjj33 h => ?_)
        · refine seqQ_n ?_
          refine AWp.ghost hmat ?_
          refine AWp.region (OpJs.cons (OpJ.move (ltN hN rfl) (Opd.tmp 12 (.d (.int .i64 s3.2))))
            (OpJs.cons (OpJ.add (ltN hN rfl) (Opd.tmp 31 (.d (.int .i64 s3.2))) (Opd.int .i64 (1)))
            (OpJs.cons (OpJ.assign (ltN hN rfl) (Opd.tmp 32 (.d (.int .i64 (w64 (s3.2 + (1 : Int)))))))
            (OpJs.nil)))) (by rfl) (by rfl) ?_
          obtain rfl := Option.some.inj h
          exact ⟨rfl, (Mat.trans (Mat.pat [] [(0, (.d (.int .i64 a0))), (1, (.d (.int .i64 a1))), (2, (.d (.int .i64 a2))), (3, (.d (.int .i64 a3))), (11, (.d (.int .i64 m32))), (12, (.d (.int .i64 (w64 (s3.2 + (1 : Int))))))] [] hB (by rfl) (by rfl) (by rfl)) (Mat.pat [] ((fun s3 : Int × Int => ([(0, (.d (.int .i64 a0))), (1, (.d (.int .i64 a1))), (2, (.d (.int .i64 a2))), (3, (.d (.int .i64 a3))), (11, (.d (.int .i64 s3.1))), (12, (.d (.int .i64 s3.2)))] : EL)) (m32, (w64 (s3.2 + (1 : Int))))) ((fun s3 : Int × Int => ([] : OL)) (m32, (w64 (s3.2 + (1 : Int))))) hB (by rfl) (by rfl) (by rfl)))⟩
        · refine AWp.block ?_
          refine AWp.seq ?_
          refine AWp.seq ?_
          refine AWp.region (OpJs.cons (OpJ.move (ltN hN rfl) (Opd.tmp 12 (.d (.int .i64 s3.2))))
            (OpJs.cons (OpJ.move (ltN hN rfl) (Opd.tmp 2 (.d (.int .i64 a2))))
            (OpJs.cons (OpJ.gtr (ltN hN rfl) (Opd.tmp 33 (.d (.int .i64 s3.2))) (Opd.tmp 34 (.d (.int .i64 a2))))
            (OpJs.cons (OpJ.move (ltN hN rfl) (Opd.tmp 35 (.d (.bool (decide (a2 < s3.2))))))
            (OpJs.cons (OpJ.opt' (v := (.d (.int .i64 a1))) (OpJ.move (ltN hN rfl) (Opd.tmp 1 (.d (.int .i64 a1)))) (by rfl) (GuardV.plain _) (ltN hN rfl) (by rfl) (by rfl) (by rfl) (by rfl) (OptL.keep rfl OptL.nil))
            (OpJs.cons (OpJ.opt' (v := (.d (.int .i64 s3.2))) (OpJ.move (ltN hN rfl) (Opd.tmp 12 (.d (.int .i64 s3.2)))) (by rfl) (GuardV.plain _) (ltN hN rfl) (by rfl) (by rfl) (by rfl) (by rfl) (OptL.keep rfl OptL.nil))
            (OpJs.cons (OpJ.opt' (v := (.d (.int .i64 (w64 (a1 - s3.2))))) (OpJ.sub (ltN hN rfl) (Opd.tmp 37 (.d (.int .i64 a1))) (Opd.tmp 38 (.d (.int .i64 s3.2)))) (by rfl) (GuardV.plain _) (ltN hN rfl) (by rfl) (by rfl) (by rfl) (by rfl) (OptL.opt (OptL.opt OptL.nil)))
            (OpJs.cons (OpJ.opt' (v := (.d (.int .i64 a0))) (OpJ.move (ltN hN rfl) (Opd.tmp 0 (.d (.int .i64 a0)))) (by rfl) (GuardV.plain _) (ltN hN rfl) (by rfl) (by rfl) (by rfl) (by rfl) (OptL.keep rfl OptL.nil))
            (OpJs.cons (OpJ.opt' (v := (.d (.int .i64 a2))) (OpJ.move (ltN hN rfl) (Opd.tmp 2 (.d (.int .i64 a2)))) (by rfl) (GuardV.plain _) (ltN hN rfl) (by rfl) (by rfl) (by rfl) (by rfl) (OptL.keep rfl OptL.nil))
            (OpJs.cons (OpJ.opt' (v := (.d (.int .i64 (w64 (a0 - a2))))) (OpJ.sub (ltN hN rfl) (Opd.tmp 40 (.d (.int .i64 a0))) (Opd.tmp 41 (.d (.int .i64 a2)))) (by rfl) (GuardV.plain _) (ltN hN rfl) (by rfl) (by rfl) (by rfl) (by rfl) (OptL.opt (OptL.opt OptL.nil)))
            (OpJs.cons (OpJ.opt' (v := (.d (.bool (decide ((w64 (a0 - a2)) < (w64 (a1 - s3.2))))))) (OpJ.gtr (ltN hN rfl) (Opd.tmp 39 (.d (.int .i64 (w64 (a1 - s3.2))))) (Opd.tmp 42 (.d (.int .i64 (w64 (a0 - a2)))))) (by rfl) (GuardV.plain _) (ltN hN rfl) (by rfl) (by rfl) (by rfl) (by rfl) (OptL.opt (OptL.opt OptL.nil)))
            (OpJs.cons (OpJ.pickOr rfl (ltN hN rfl) (Opd.tmp 36 (.d (.bool (decide (a2 < s3.2))))) (Opd.tmp 43 (.opt ((decide (a2 < s3.2)) == false) (.d (.bool (decide ((w64 (a0 - a2)) < (w64 (a1 - s3.2)))))))))
            (OpJs.nil))))))))))))) (by rfl) (by rfl) ?_
          refine seqQ_n ?_
          refine AWp.ghost (Mat.pat [] [(0, (.d (.int .i64 a0))), (1, (.d (.int .i64 a1))), (2, (.d (.int .i64 a2))), (3, (.d (.int .i64 a3))), (11, (.d (.int .i64 s3.1))), (12, (.d (.int .i64 s3.2))), (44, (.d (.bool ((decide (a2 < s3.2)) || (decide ((w64 (a0 - a2)) < (w64 (a1 - s3.2))))))))] [] hB (by rfl) (by rfl) (by rfl)) ?_
          refine AWp.cond (b := ((decide (a2 < s3.2)) || (decide ((w64 (a0 - a2)) < (w64 (a1 - s3.2)))))) (by rfl) (fun hg34 => ?_) (fun hg34 => ?_)
          · replace h := ite_t hg34 h
            refine AWp.exit ?_
            refine seqQ_e ?_
            refine blkQ_hit ?_
            exact hjj33 _ h _ _ (Mat.pat [] ((fun m32 : Int => ([(0, (.d (.int .i64 a0))), (1, (.d (.int .i64 a1))), (2, (.d (.int .i64 a2))), (3, (.d (.int .i64 a3))), (11, (.d (.int .i64 m32))), (12, (.d (.int .i64 s3.2)))] : EL)) s3.1) ((fun m32 : Int => ([] : OL)) s3.1) hB (by rfl) (by rfl) (by rfl))
          · replace h := ite_f hg34 h
            refine AWp.skip ?_
            refine seqQ_n ?_
            refine AWp.seq ?_
            obtain ⟨r35, hr35, h⟩ := bindS h
            refine AWp.region (OpJs.cons (OpJ.move (ltN hN rfl) (Opd.tmp 0 (.d (.int .i64 a0))))
              (OpJs.cons (OpJ.move (ltN hN rfl) (Opd.tmp 1 (.d (.int .i64 a1))))
              (OpJs.cons (OpJ.move (ltN hN rfl) (Opd.tmp 12 (.d (.int .i64 s3.2))))
              (OpJs.cons (OpJ.move (ltN hN rfl) (Opd.tmp 3 (.d (.int .i64 a3))))
              (OpJs.cons (OpJ.callFn hB fnOk19 (exchangepointref39_Bounds_ac a0 a1 s3.2 a3 r35 hr35) [] (by kernel_rfl) (ltN hN rfl) (by kernel_rfl) (OpdL.cons (Opd.tmp 46 (.d (.int .i64 a0))) (OpdL.cons (Opd.tmp 47 (.d (.int .i64 a1))) (OpdL.cons (Opd.tmp 48 (.d (.int .i64 s3.2))) (OpdL.cons (Opd.tmp 49 (.d (.int .i64 a3))) OpdL.nil)))))
              (OpJs.cons (OpJ.move (ltN hN rfl) (Opd.tmp 50 (.tup [(.d (.int .i64 r35.1)), (.d (.int .i64 r35.2.1)), (.d (.int .i64 r35.2.2))])))
              (OpJs.cons (OpJ.extract (v := (.d (.int .i64 r35.1))) (by rfl) rfl (ltN hN rfl) (Opd.tmp 45 (.tup [(.d (.int .i64 r35.1)), (.d (.int .i64 r35.2.1)), (.d (.int .i64 r35.2.2))])))
              (OpJs.cons (OpJ.extract (v := (.d (.int .i64 r35.2.1))) (by rfl) rfl (ltN hN rfl) (Opd.tmp 45 (.tup [(.d (.int .i64 r35.1)), (.d (.int .i64 r35.2.1)), (.d (.int .i64 r35.2.2))])))
              (OpJs.cons (OpJ.extract (v := (.d (.int .i64 r35.2.2))) (by rfl) rfl (ltN hN rfl) (Opd.tmp 45 (.tup [(.d (.int .i64 r35.1)), (.d (.int .i64 r35.2.1)), (.d (.int .i64 r35.2.2))])))
              (OpJs.cons (OpJ.assign (ltN hN rfl) (Opd.tmp 51 (.d (.int .i64 r35.1))))
              (OpJs.cons (OpJ.assign (ltN hN rfl) (Opd.tmp 52 (.d (.int .i64 r35.2.1))))
              (OpJs.cons (OpJ.assign (ltN hN rfl) (Opd.tmp 53 (.d (.int .i64 r35.2.2))))
              (OpJs.nil))))))))))))) (by rfl) (by rfl) ?_
            refine seqQ_n ?_
            refine AWp.ghost (Mat.pat [] [(0, (.d (.int .i64 a0))), (1, (.d (.int .i64 a1))), (2, (.d (.int .i64 a2))), (3, (.d (.int .i64 a3))), (11, (.d (.int .i64 s3.1))), (12, (.d (.int .i64 s3.2))), (13, (.d (.int .i64 r35.1))), (14, (.d (.int .i64 r35.2.1)))] [] hB (by rfl) (by rfl) (by rfl)) ?_
            refine AWp.seq ?_
            refine AWp.region (OpJs.cons (OpJ.move (ltN hN rfl) (Opd.tmp 2 (.d (.int .i64 a2))))
              (OpJs.cons (OpJ.move (ltN hN rfl) (Opd.tmp 13 (.d (.int .i64 r35.1))))
              (OpJs.cons (OpJ.geq (ltN hN rfl) (Opd.tmp 54 (.d (.int .i64 a2))) (Opd.tmp 55 (.d (.int .i64 r35.1))))
              (OpJs.cons (OpJ.move (ltN hN rfl) (Opd.tmp 56 (.d (.bool (decide (r35.1 ≤ a2))))))
              (OpJs.cons (OpJ.opt' (v := (.d (.int .i64 a2))) (OpJ.move (ltN hN rfl) (Opd.tmp 2 (.d (.int .i64 a2)))) (by rfl) (GuardV.plain _) (ltN hN rfl) (by rfl) (by rfl) (by rfl) (by rfl) (OptL.keep rfl OptL.nil))
              (OpJs.cons (OpJ.opt' (v := (.d (.int .i64 r35.2.1))) (OpJ.move (ltN hN rfl) (Opd.tmp 14 (.d (.int .i64 r35.2.1)))) (by rfl) (GuardV.plain _) (ltN hN rfl) (by rfl) (by rfl) (by rfl) (by rfl) (OptL.keep rfl OptL.nil))
              (OpJs.cons (OpJ.opt' (v := (.d (.bool (decide (a2 ≤ r35.2.1))))) (OpJ.leq (ltN hN rfl) (Opd.tmp 58 (.d (.int .i64 a2))) (Opd.tmp 59 (.d (.int .i64 r35.2.1)))) (by rfl) (GuardV.plain _) (ltN hN rfl) (by rfl) (by rfl) (by rfl) (by rfl) (OptL.opt (OptL.opt OptL.nil)))
              (OpJs.cons (OpJ.pickAnd rfl (ltN hN rfl) (Opd.tmp 57 (.d (.bool (decide (r35.1 ≤ a2))))) (Opd.tmp 60 (.opt ((decide (r35.1 ≤ a2)) == true) (.d (.bool (decide (a2 ≤ r35.2.1)))))))
              (OpJs.nil))))))))) (by rfl) (by rfl) ?_
            refine seqQ_n ?_
            refine AWp.ghost (Mat.pat [] [(0, (.d (.int .i64 a0))), (1, (.d (.int .i64 a1))), (2, (.d (.int .i64 a2))), (3, (.d (.int .i64 a3))), (11, (.d (.int .i64 s3.1))), (12, (.d (.int .i64 s3.2))), (61, (.d (.bool ((decide (r35.1 ≤ a2)) && (decide (a2 ≤ r35.2.1))))))] [] hB (by rfl) (by rfl) (by rfl)) ?_
            refine AWp.cond (b := ((decide (r35.1 ≤ a2)) && (decide (a2 ≤ r35.2.1)))) (by rfl) (fun hg36 => ?_) (fun hg36 => ?_)
            · replace h := ite_t hg36 h
              obtain ⟨r37, hr37, h⟩ := bindS h
              refine AWp.region (OpJs.cons (OpJ.move (ltN hN rfl) (Opd.tmp 11 (.d (.int .i64 s3.1))))
                (OpJs.cons (OpJ.move (ltN hN rfl) (Opd.tmp 0 (.d (.int .i64 a0))))
                (OpJs.cons (OpJ.move (ltN hN rfl) (Opd.tmp 1 (.d (.int .i64 a1))))
                (OpJs.cons (OpJ.move (ltN hN rfl) (Opd.tmp 2 (.d (.int .i64 a2))))
                (OpJs.cons (OpJ.move (ltN hN rfl) (Opd.tmp 12 (.d (.int .i64 s3.2))))
                (OpJs.cons (OpJ.callFn hB fnOk27 (exchangepointref39_exactly_ac a0 a1 a2 s3.2 r37 hr37) [] (by kernel_rfl) (ltN hN rfl) (by kernel_rfl) (OpdL.cons (Opd.tmp 63 (.d (.int .i64 a0))) (OpdL.cons (Opd.tmp 64 (.d (.int .i64 a1))) (OpdL.cons (Opd.tmp 65 (.d (.int .i64 a2))) (OpdL.cons (Opd.tmp 66 (.d (.int .i64 s3.2))) OpdL.nil)))))
                (OpJs.cons (OpJ.add (ltN hN rfl) (Opd.tmp 62 (.d (.int .i64 s3.1))) (Opd.tmp 67 (.d (.int .i64 r37))))
                (OpJs.cons (OpJ.assign (ltN hN rfl) (Opd.tmp 68 (.d (.int .i64 (w64 (s3.1 + r37))))))
                (OpJs.nil))))))))) (by rfl) (by rfl) ?_
              refine blkQ_n ?_
              exact hjj33 _ h _ _ (Mat.trans (Mat.pat [] [(0, (.d (.int .i64 a0))), (1, (.d (.int .i64 a1))), (2, (.d (.int .i64 a2))), (3, (.d (.int .i64 a3))), (11, (.d (.int .i64 (w64 (s3.1 + r37))))), (12, (.d (.int .i64 s3.2)))] [] hB (by rfl) (by rfl) (by rfl)) (Mat.pat [] ((fun m32 : Int => ([(0, (.d (.int .i64 a0))), (1, (.d (.int .i64 a1))), (2, (.d (.int .i64 a2))), (3, (.d (.int .i64 a3))), (11, (.d (.int .i64 m32))), (12, (.d (.int .i64 s3.2)))] : EL)) (w64 (s3.1 + r37))) ((fun m32 : Int => ([] : OL)) (w64 (s3.1 + r37))) hB (by rfl) (by rfl) (by rfl)))
            · replace h := ite_f hg36 h
              refine AWp.skip ?_
              refine blkQ_n ?_
              exact hjj33 _ h _ _ (Mat.pat [] ((fun m32 : Int => ([(0, (.d (.int .i64 a0))), (1, (.d (.int .i64 a1))), (2, (.d (.int .i64 a2))), (3, (.d (.int .i64 a3))), (11, (.d (.int .i64 m32))), (12, (.d (.int .i64 s3.2)))] : EL)) s3.1) ((fun m32 : Int => ([] : OL)) s3.1) hB (by rfl) (by rfl) (by rfl))
      · replace h := ite_f hg27 h
        refine AWp.exit ?_
        refine seqQ_e ?_
        obtain rfl := Option.some.inj h
        exact ⟨(fun hc => by cases hc), rfl, (Mat.pat [] ((fun p26 : Int => ([(0, (.d (.int .i64 a0))), (1, (.d (.int .i64 a1))), (11, (.d (.int .i64 p26)))] : EL)) s3.1) ((fun p26 : Int => ([] : OL)) s3.1) hB (by rfl) (by rfl) (by rfl))⟩
    · obtain ⟨rfl, hmat⟩ := hR
      refine blkQ_hit ?_
      refine seqQ_n ?_
      refine AWp.ghost hmat ?_
      refine AWp.seq ?_
      obtain ⟨r40, hr40, h⟩ := bindS h
      refine AWp.region (OpJs.cons (OpJ.move (ltN hN rfl) (Opd.tmp 11 (.d (.int .i64 p26))))
        (OpJs.cons (OpJ.move (ltN hN rfl) (Opd.tmp 0 (.d (.int .i64 a0))))
        (OpJs.cons (OpJ.move (ltN hN rfl) (Opd.tmp 1 (.d (.int .i64 a1))))
        (OpJs.cons (OpJ.callFn hB fnOk23 (exchangepointref39_choose_ac a0 a1 r40 hr40) [] (by kernel_rfl) (ltN hN rfl) (by kernel_rfl) (OpdL.cons (Opd.tmp 70 (.d (.int .i64 a0))) (OpdL.cons (Opd.tmp 71 (.d (.int .i64 a1))) OpdL.nil)))
        (OpJs.cons (OpJ.assign (ltN hN rfl) (Opd.tmp 69 (.d (.int .i64 p26))))
        (OpJs.cons (OpJ.assign (ltN hN rfl) (Opd.tmp 72 (.d (.int .i64 r40))))
        (OpJs.cons (OpJ.assign (ltN hN rfl) (Opd.int .i64 (0)))
        (OpJs.nil)))))))) (by rfl) (by rfl) ?_
      refine seqQ_n ?_
      refine AWp.ghost (Mat.pat [] [(8, (.d (.int .i64 p26))), (9, (.d (.int .i64 r40))), (10, (.d (.int .i64 (0 : Int))))] [] hB (by rfl) (by rfl) (by rfl)) ?_
      refine AWp.ret ?_
      obtain rfl := Option.some.inj h
      exact ⟨.inl rfl, _, _, (Mat.pat [] [(8, (.d (.int .i64 p26))), (9, (.d (.int .i64 r40))), (10, (.d (.int .i64 (0 : Int))))] [] hB (by rfl) (by rfl) (by rfl)), [(.d (.int .i64 p26)), (.d (.int .i64 r40)), (.d (.int .i64 (0 : Int)))], (Res.tmp (by rfl) (by rfl) (Res.tmp (by rfl) (by rfl) (Res.tmp (by rfl) (by rfl) Res.nil))), rfl, by rfl, by rfl, by rfl⟩


end Go.Proofs.Ytjhjijcffgmpkaa
