/- SequenceProofs: what it answers. -/
import Derived.Test.YtomimhedehecdaaDoorViGProofs
set_option linter.unusedSimpArgs false
set_option linter.unusedVariables false
namespace Go.ViD
open Go.Vi

theorem ranksI_bad {p : Plan} (l : List Rank) (h : ¬ (planE p).2 = 0) : ranksI p l = (0, (planE p).2) := by unfold ranksI; rw [if_neg h]

set_option maxHeartbeats 4000000 in
theorem pc_proofs (p : Plan) (l : List Rank) : pc E 13 [.agg (cPlan p), .sl .s 5 (cRanks l)] = some (.bool true) := by
  refine pc_code (mf := f13) rfl ?_
  rw [runF_U rfl]
  have hf := pc_few p
  simp only [f13, pc_awake, hf, cRanks, wx, I, exec, resOf, reduceIte, reduceCtorEq, ne_eq, not_false_eq_true, Root.bx.injEq, Root.tm.injEq, Nat.reduceAdd, Nat.reduceBEq, Nat.reduceBNe, Nat.reduceEqDiff, Nat.reduceLT, Nat.reduceLeDiff, Nat.reduceMul, Nat.reduceSub, Int.reduceToNat, Int.reduceEq, Int.reduceBEq, Int.reduceBNe, Int.reduceLT, Int.reduceLE, if_true, if_false, Bool.false_eq_true, decide_true, decide_false, List.zipIdx_nil, bne_self_eq_false]
  rcases Bool.eq_false_or_eq_true (few p) with hp | hp
  · have h1 := pc_copy p hp
    by_cases c2 : (4002 : Int) < (l.length : Int)
    · by_cases c3 : (300 : Int) < (l.length : Int)
      · have c4 : ¬ (l.length : Int) ≤ 4000 := by omega
        simp only [hp, c2, c3, c4, wx, I, exec, resOf, reduceIte, reduceCtorEq, ne_eq, not_false_eq_true, Root.bx.injEq, Root.tm.injEq, Nat.reduceAdd, Nat.reduceBEq, Nat.reduceBNe, Nat.reduceEqDiff, Nat.reduceLT, Nat.reduceLeDiff, Nat.reduceMul, Nat.reduceSub, Int.reduceToNat, Int.reduceEq, Int.reduceBEq, Int.reduceBNe, Int.reduceLT, Int.reduceLE, if_true, if_false, Bool.false_eq_true, decide_true, decide_false, List.zipIdx_nil, bne_self_eq_false]
      · omega
    · have hl : l.length ≤ 10000 := by omega
      have main : (((300 : Int) < (l.length : Int)) ∧ (l.length : Int) ≤ 4000) ∨ ¬ (((300 : Int) < (l.length : Int)) ∧ (l.length : Int) ≤ 4000) := Classical.em _
      rcases main with ⟨c3, c4⟩ | cn
      · simp only [hp, c2, c3, c4, wx, I, exec, resOf, reduceIte, reduceCtorEq, ne_eq, not_false_eq_true, Root.bx.injEq, Root.tm.injEq, Nat.reduceAdd, Nat.reduceBEq, Nat.reduceBNe, Nat.reduceEqDiff, Nat.reduceLT, Nat.reduceLeDiff, Nat.reduceMul, Nat.reduceSub, Int.reduceToNat, Int.reduceEq, Int.reduceBEq, Int.reduceBNe, Int.reduceLT, Int.reduceLE, if_true, if_false, Bool.false_eq_true, decide_true, decide_false, List.zipIdx_nil, bne_self_eq_false]
      · have h2 := pc_copyRanks l hl
        have h3 := pc_checkRanks p hp l hl
        have h4 := pc_planErr p hp
        simp only [cRanks] at h2 h3
        by_cases c0 : (planE p).2 = 0
        · have h5 := pc_checkRanksR p hp c0 (fun x hx hw => ((okP_of c0).st x hx).rest hw |>.2) l hl
          simp only [cRanks] at h5
          rw [c0] at h4
          by_cases c3 : (300 : Int) < (l.length : Int)
          · have c4 : ¬ (l.length : Int) ≤ 4000 := fun h => cn ⟨c3, h⟩
            simp only [hp, c2, c3, c4, h1, h2, h3, h4, h5, beq_self_eq_true, bne_self_eq_false, List.replicate, List.set, wx, I, exec, resOf, reduceIte, reduceCtorEq, ne_eq, not_false_eq_true, Root.bx.injEq, Root.tm.injEq, Nat.reduceAdd, Nat.reduceBEq, Nat.reduceBNe, Nat.reduceEqDiff, Nat.reduceLT, Nat.reduceLeDiff, Nat.reduceMul, Nat.reduceSub, Int.reduceToNat, Int.reduceEq, Int.reduceBEq, Int.reduceBNe, Int.reduceLT, Int.reduceLE, if_true, if_false, Bool.false_eq_true, decide_true, decide_false, List.zipIdx_nil, bne_self_eq_false]
          · simp only [hp, c2, c3, h1, h2, h3, h4, h5, beq_self_eq_true, bne_self_eq_false, List.replicate, List.set, wx, I, exec, resOf, reduceIte, reduceCtorEq, ne_eq, not_false_eq_true, Root.bx.injEq, Root.tm.injEq, Nat.reduceAdd, Nat.reduceBEq, Nat.reduceBNe, Nat.reduceEqDiff, Nat.reduceLT, Nat.reduceLeDiff, Nat.reduceMul, Nat.reduceSub, Int.reduceToNat, Int.reduceEq, Int.reduceBEq, Int.reduceBNe, Int.reduceLT, Int.reduceLE, if_true, if_false, Bool.false_eq_true, decide_true, decide_false, List.zipIdx_nil, bne_self_eq_false]
        · have c0b : ((planE p).2 != 0) = true := by simpa using c0
          rw [ranksI_bad l c0] at h3
          by_cases c3 : (300 : Int) < (l.length : Int)
          · have c4 : ¬ (l.length : Int) ≤ 4000 := fun h => cn ⟨c3, h⟩
            simp only [hp, c2, c3, c4, h1, h2, h3, h4, c0b, beq_self_eq_true, List.replicate, List.set, wx, I, exec, resOf, reduceIte, reduceCtorEq, ne_eq, not_false_eq_true, Root.bx.injEq, Root.tm.injEq, Nat.reduceAdd, Nat.reduceBEq, Nat.reduceBNe, Nat.reduceEqDiff, Nat.reduceLT, Nat.reduceLeDiff, Nat.reduceMul, Nat.reduceSub, Int.reduceToNat, Int.reduceEq, Int.reduceBEq, Int.reduceBNe, Int.reduceLT, Int.reduceLE, if_true, if_false, Bool.false_eq_true, decide_true, decide_false, List.zipIdx_nil, bne_self_eq_false]
          · simp only [hp, c2, c3, h1, h2, h3, h4, c0b, beq_self_eq_true, List.replicate, List.set, wx, I, exec, resOf, reduceIte, reduceCtorEq, ne_eq, not_false_eq_true, Root.bx.injEq, Root.tm.injEq, Nat.reduceAdd, Nat.reduceBEq, Nat.reduceBNe, Nat.reduceEqDiff, Nat.reduceLT, Nat.reduceLeDiff, Nat.reduceMul, Nat.reduceSub, Int.reduceToNat, Int.reduceEq, Int.reduceBEq, Int.reduceBNe, Int.reduceLT, Int.reduceLE, if_true, if_false, Bool.false_eq_true, decide_true, decide_false, List.zipIdx_nil, bne_self_eq_false]
  · simp only [hp, wx, I, exec, resOf, reduceIte, reduceCtorEq, ne_eq, not_false_eq_true, Root.bx.injEq, Root.tm.injEq, Nat.reduceAdd, Nat.reduceBEq, Nat.reduceBNe, Nat.reduceEqDiff, Nat.reduceLT, Nat.reduceLeDiff, Nat.reduceMul, Nat.reduceSub, Int.reduceToNat, Int.reduceEq, Int.reduceBEq, Int.reduceBNe, Int.reduceLT, Int.reduceLE, if_true, if_false, Bool.false_eq_true, decide_true, decide_false, List.zipIdx_nil, bne_self_eq_false]

end Go.ViD
