/- TopSequenceShortcuts: what it answers, for every input. -/
import Derived.Test.YtomimhedehecdaaDoorViShortcuts
set_option linter.unusedSimpArgs false
set_option linter.unusedVariables false
namespace Go.ViD
open Go.Vi

theorem pc_shortcuts (p : Plan) (s : State) (t1 t2 : Int) : pc E 10 [.agg (cPlan p), .agg (cState s), .agg [I t1, I t2]] = some (.bool true) := by
  by_cases hall : few p = true ∧ (planE p).2 = 0 ∧ light p = true ∧ stateE p s = 0 ∧ idxE p t1 = 0 ∧ idxE p t2 = 0
  · obtain ⟨hp, c0, c3, c1, c2, c4⟩ := hall
    exact pc_shortcuts_main p s t1 t2 hp c0 c1 c2 c4 c3
  · refine pc_code (mf := f10) rfl ?_
    rw [runF_U rfl]
    have hf := pc_few p
    cases hp : few p
    · simp only [f10, pc_awakeS, hf, hp, cState, wx, I, exec, resOf, reduceIte, reduceCtorEq, ne_eq, not_false_eq_true, Root.bx.injEq, Root.tm.injEq, Nat.reduceAdd, Nat.reduceBEq, Nat.reduceBNe, Nat.reduceEqDiff, Nat.reduceLT, Nat.reduceLeDiff, Nat.reduceMul, Nat.reduceSub, Int.reduceToNat, Int.reduceEq, Int.reduceBEq, Int.reduceBNe, Int.reduceLT, Int.reduceLE, if_true, if_false, Bool.false_eq_true, decide_true, decide_false, List.zipIdx_nil, bne_self_eq_false]
    · have hfg := few_get hp
      have h1 := pc_planErr p hp
      have h2 := pc_light p
      have h5 := pc_stateErrR p hp s
      have h6 := pc_idxErrR p (by omega) t1
      have h7 := pc_idxErrR p (by omega) t2
      simp only [cState] at h5
      by_cases c0 : (planE p).2 = 0
      · cases c3 : light p
        · simp only [f10, pc_awakeS, hf, hp, h1, h2, c0, c3, bne_self_eq_false, cState, wx, I, exec, resOf, reduceIte, reduceCtorEq, ne_eq, not_false_eq_true, Root.bx.injEq, Root.tm.injEq, Nat.reduceAdd, Nat.reduceBEq, Nat.reduceBNe, Nat.reduceEqDiff, Nat.reduceLT, Nat.reduceLeDiff, Nat.reduceMul, Nat.reduceSub, Int.reduceToNat, Int.reduceEq, Int.reduceBEq, Int.reduceBNe, Int.reduceLT, Int.reduceLE, if_true, if_false, Bool.false_eq_true, decide_true, decide_false, List.zipIdx_nil, bne_self_eq_false]
        · by_cases c1 : stateE p s = 0
          · by_cases c2 : idxE p t1 = 0
            · have c4 : (idxE p t2 != 0) = true := by
                have : ¬ idxE p t2 = 0 := fun h => hall ⟨hp, c0, c3, c1, c2, h⟩
                simpa using this
              simp only [f10, pc_awakeS, hf, hp, h1, h2, h5, h6, h7, c0, c1, c2, c3, c4, bne_self_eq_false, cState, wx, I, exec, resOf, reduceIte, reduceCtorEq, ne_eq, not_false_eq_true, Root.bx.injEq, Root.tm.injEq, Nat.reduceAdd, Nat.reduceBEq, Nat.reduceBNe, Nat.reduceEqDiff, Nat.reduceLT, Nat.reduceLeDiff, Nat.reduceMul, Nat.reduceSub, Int.reduceToNat, Int.reduceEq, Int.reduceBEq, Int.reduceBNe, Int.reduceLT, Int.reduceLE, if_true, if_false, Bool.false_eq_true, decide_true, decide_false, List.zipIdx_nil, bne_self_eq_false]
            · have d : (idxE p t1 != 0) = true := by simp [c2]
              simp only [f10, pc_awakeS, hf, hp, h1, h2, h5, h6, c0, c1, d, c3, bne_self_eq_false, cState, wx, I, exec, resOf, reduceIte, reduceCtorEq, ne_eq, not_false_eq_true, Root.bx.injEq, Root.tm.injEq, Nat.reduceAdd, Nat.reduceBEq, Nat.reduceBNe, Nat.reduceEqDiff, Nat.reduceLT, Nat.reduceLeDiff, Nat.reduceMul, Nat.reduceSub, Int.reduceToNat, Int.reduceEq, Int.reduceBEq, Int.reduceBNe, Int.reduceLT, Int.reduceLE, if_true, if_false, Bool.false_eq_true, decide_true, decide_false, List.zipIdx_nil, bne_self_eq_false]
          · have d : (stateE p s != 0) = true := by simp [c1]
            simp only [f10, pc_awakeS, hf, hp, h1, h2, h5, c0, d, c3, bne_self_eq_false, cState, wx, I, exec, resOf, reduceIte, reduceCtorEq, ne_eq, not_false_eq_true, Root.bx.injEq, Root.tm.injEq, Nat.reduceAdd, Nat.reduceBEq, Nat.reduceBNe, Nat.reduceEqDiff, Nat.reduceLT, Nat.reduceLeDiff, Nat.reduceMul, Nat.reduceSub, Int.reduceToNat, Int.reduceEq, Int.reduceBEq, Int.reduceBNe, Int.reduceLT, Int.reduceLE, if_true, if_false, Bool.false_eq_true, decide_true, decide_false, List.zipIdx_nil, bne_self_eq_false]
      · have d : ((planE p).2 != 0) = true := by simp [c0]
        simp only [f10, pc_awakeS, hf, hp, h1, d, cState, wx, I, exec, resOf, reduceIte, reduceCtorEq, ne_eq, not_false_eq_true, Root.bx.injEq, Root.tm.injEq, Nat.reduceAdd, Nat.reduceBEq, Nat.reduceBNe, Nat.reduceEqDiff, Nat.reduceLT, Nat.reduceLeDiff, Nat.reduceMul, Nat.reduceSub, Int.reduceToNat, Int.reduceEq, Int.reduceBEq, Int.reduceBNe, Int.reduceLT, Int.reduceLE, if_true, if_false, Bool.false_eq_true, decide_true, decide_false, List.zipIdx_nil, bne_self_eq_false]

end Go.ViD
