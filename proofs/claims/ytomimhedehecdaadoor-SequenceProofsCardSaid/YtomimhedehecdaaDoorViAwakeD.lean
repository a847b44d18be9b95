/- The examples hold. -/
import Derived.Test.YtomimhedehecdaaDoorViAwakeX
import Derived.Test.YtomimhedehecdaaDoorViWalkV
set_option linter.unusedSimpArgs false
set_option linter.unusedVariables false
namespace Go.ViD
open Go.Vi

theorem pc_awake : pc E 14 [] = some (.bool true) := by
  refine pc_code (mf := f14) rfl ?_
  rw [runF_U rfl]
  simp only [f14, x67, x68, x21, x36a, x36b, x24, x46, x28, x18, List.replicate, List.set, List.foldl, beq_self_eq_true, wx, I, exec, resOf, reduceIte, reduceCtorEq, ne_eq, not_false_eq_true, Root.bx.injEq, Root.tm.injEq, Nat.reduceAdd, Nat.reduceBEq, Nat.reduceBNe, Nat.reduceEqDiff, Nat.reduceLT, Nat.reduceLeDiff, Nat.reduceMul, Nat.reduceSub, Int.reduceToNat, Int.reduceEq, Int.reduceBEq, Int.reduceBNe, Int.reduceLT, Int.reduceLE, if_true, if_false, Bool.false_eq_true, decide_true, decide_false, List.zipIdx_nil, bne_self_eq_false]
end Go.ViD
