/- SequenceTurns: what it answers. -/
import Derived.Test.YtomimhedehecdaaDoorViGTurn
import Derived.Test.YtomimhedehecdaaDoorViAwakeD
set_option linter.unusedSimpArgs false
set_option linter.unusedVariables false
namespace Go.ViD
open Go.Vi

set_option maxHeartbeats 4000000 in
theorem pc_turns (p : Plan) (s : State) (f : Fault) (cm : Int) : pc E 8 [.agg (cPlan p), .agg (cState s), .agg [I f.signal, .bool f.on, I cm]] = some (.bool true) := by
  refine pc_code (mf := f8) rfl ?_
  rw [runF_U rfl]
  have hf := pc_few p
  simp only [f8, pc_awake, hf, ww0, ww1, ww2, ww3, ww4, ww5, ww6, ww7, ww8, ww9, ww10, I, Vi.start, exec, St.gone, St.cells, St.write, St.ints, St.optInt, St.deref, vals, Vi.gone, cut, paste, fill, rowsOf, leqv, leqs, leq1, binv, ibin, unv, ptrOp, resOf, resAll, res1, reduceIte, reduceCtorEq, ne_eq, not_false_eq_true, Root.bx.injEq, Root.tm.injEq, Nat.reduceAdd, Nat.reduceBEq, Nat.reduceBNe, Nat.reduceEqDiff, Nat.reduceLT, Nat.reduceLeDiff, Nat.reduceMul, Nat.reduceSub, Int.reduceToNat, Int.reduceEq, Int.reduceBEq, Int.reduceBNe, Int.reduceLT, Int.reduceLE, if_true, if_false, Bool.false_eq_true, decide_true, decide_false, List.zipIdx_nil, bne_self_eq_false]
  cases hp : few p
  · simp only [hp, ww0, ww1, ww2, ww3, ww4, ww5, ww6, ww7, ww8, ww9, ww10, I, Vi.start, exec, St.gone, St.cells, St.write, St.ints, St.optInt, St.deref, vals, Vi.gone, cut, paste, fill, rowsOf, leqv, leqs, leq1, binv, ibin, unv, ptrOp, resOf, resAll, res1, reduceIte, reduceCtorEq, ne_eq, not_false_eq_true, Root.bx.injEq, Root.tm.injEq, Nat.reduceAdd, Nat.reduceBEq, Nat.reduceBNe, Nat.reduceEqDiff, Nat.reduceLT, Nat.reduceLeDiff, Nat.reduceMul, Nat.reduceSub, Int.reduceToNat, Int.reduceEq, Int.reduceBEq, Int.reduceBNe, Int.reduceLT, Int.reduceLE, if_true, if_false, Bool.false_eq_true, decide_true, decide_false, List.zipIdx_nil, bne_self_eq_false]
  · have h1 := pc_copy p hp
    have h2 := pc_seenIn p hp s f
    have h5 := pc_bothErr p hp s f
    by_cases c : bothE p s f = 0
    · obtain ⟨c1, c2, c3⟩ := both_of c
      obtain ⟨d1, d2⟩ := okS_of c2
      have d3 := okF_of c3
      have ok := okP_of c1
      obtain ⟨x, hx⟩ := step_at d1
      have okx := ok.st x (List.mem_of_getElem? hx)
      have hl : x.exits.length ≤ 1000 := by have := ((few_get hp).2.2.2 x (List.mem_of_getElem? hx)).2; omega
      have h3 := pc_TurnOf p hp s f cm c x hx
      have h4 := pc_HomeTurn p hp s f c x hx
      have h6 := pc_homeTurnR p s x d1.1 hx f ok d2 d3.2
      have h7 := pc_seenR ok d2 d3.2
      have h8 : pc E 49 [.agg (cPlan p), .agg (cState s), I cm] = some (.bool (mayB x cm)) := pc_permitted p s x d1.1 hx hl cm
      have h9 := fun hc => pc_turnR p s x d1.1 hx f ok d2 d3.2 cm hc
      simp only [cState, cFault, c, if_true] at h2 h3 h4 h5 h6 h7 h8 h9
      have hcm : mayB x cm = true → -1 ≤ cm := by
        intro h
        simp only [mayB, Bool.or_eq_true, Bool.and_eq_true, beq_iff_eq] at h
        rcases h with h | ⟨ha, hb⟩
        · omega
        · have := okx.exits ha _ (hasI_mem hb)
          have := this.1; omega
      rcases Bool.eq_false_or_eq_true (homeTurnI x s f).2.2 with g | g <;> simp only [g, unl, if_true, Bool.false_eq_true, if_false] at h4 h6 <;>
      rcases Bool.eq_false_or_eq_true (mayB x cm) with e | e
      all_goals first
      | have h9 := h9 (hcm e)
        simp only [e, if_true] at h3
        simp only [hp, h1, h2, h3, h4, h5, h6, h7, h8, h9, e, List.replicate, List.set, bne_self_eq_false, beq_self_eq_true, ww0, ww1, ww2, ww3, ww4, ww5, ww6, ww7, ww8, ww9, ww10, I, Vi.start, exec, St.gone, St.cells, St.write, St.ints, St.optInt, St.deref, vals, Vi.gone, cut, paste, fill, rowsOf, leqv, leqs, leq1, binv, ibin, unv, ptrOp, resOf, resAll, res1, reduceIte, reduceCtorEq, ne_eq, not_false_eq_true, Root.bx.injEq, Root.tm.injEq, Nat.reduceAdd, Nat.reduceBEq, Nat.reduceBNe, Nat.reduceEqDiff, Nat.reduceLT, Nat.reduceLeDiff, Nat.reduceMul, Nat.reduceSub, Int.reduceToNat, Int.reduceEq, Int.reduceBEq, Int.reduceBNe, Int.reduceLT, Int.reduceLE, if_true, if_false, Bool.false_eq_true, decide_true, decide_false, List.zipIdx_nil, bne_self_eq_false]
      | simp only [e, Bool.false_eq_true, if_false] at h3
        simp only [hp, h1, h2, h3, h4, h5, h6, h7, h8, e, List.replicate, List.set, bne_self_eq_false, beq_self_eq_true, ww0, ww1, ww2, ww3, ww4, ww5, ww6, ww7, ww8, ww9, ww10, I, Vi.start, exec, St.gone, St.cells, St.write, St.ints, St.optInt, St.deref, vals, Vi.gone, cut, paste, fill, rowsOf, leqv, leqs, leq1, binv, ibin, unv, ptrOp, resOf, resAll, res1, reduceIte, reduceCtorEq, ne_eq, not_false_eq_true, Root.bx.injEq, Root.tm.injEq, Nat.reduceAdd, Nat.reduceBEq, Nat.reduceBNe, Nat.reduceEqDiff, Nat.reduceLT, Nat.reduceLeDiff, Nat.reduceMul, Nat.reduceSub, Int.reduceToNat, Int.reduceEq, Int.reduceBEq, Int.reduceBNe, Int.reduceLT, Int.reduceLE, if_true, if_false, Bool.false_eq_true, decide_true, decide_false, List.zipIdx_nil, bne_self_eq_false]
    · have h3 := pc_TurnOf_bad p hp s f cm c
      have h4 := pc_HomeTurn_bad p hp s f c
      have c2 : (bothE p s f != 0) = true := by simp [c]
      simp only [cState, cFault, c, if_false] at h2 h3 h4 h5
      simp only [hp, h1, h2, h3, h4, h5, c2, beq_self_eq_true, List.replicate, List.set, ww0, ww1, ww2, ww3, ww4, ww5, ww6, ww7, ww8, ww9, ww10, I, Vi.start, exec, St.gone, St.cells, St.write, St.ints, St.optInt, St.deref, vals, Vi.gone, cut, paste, fill, rowsOf, leqv, leqs, leq1, binv, ibin, unv, ptrOp, resOf, resAll, res1, reduceIte, reduceCtorEq, ne_eq, not_false_eq_true, Root.bx.injEq, Root.tm.injEq, Nat.reduceAdd, Nat.reduceBEq, Nat.reduceBNe, Nat.reduceEqDiff, Nat.reduceLT, Nat.reduceLeDiff, Nat.reduceMul, Nat.reduceSub, Int.reduceToNat, Int.reduceEq, Int.reduceBEq, Int.reduceBNe, Int.reduceLT, Int.reduceLE, if_true, if_false, Bool.false_eq_true, decide_true, decide_false, List.zipIdx_nil, bne_self_eq_false]

end Go.ViD
