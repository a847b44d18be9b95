/- Halls: the law. -/
import Derived.Test.YtomimhedehecdaaDoorViHallsB
import Derived.Test.YtomimhedehecdaaDoorViAwakeD
set_option linter.unusedSimpArgs false
set_option linter.unusedVariables false
namespace Go.ViD
open Go.Vi

theorem stepsErr_len {h : Hall} {steps : List Int} (h0 : stepsErr h steps = 0) : (steps.length : Int) = h.machines := by
  unfold stepsErr at h0
  by_cases h1 : (steps.length : Int) = h.machines
  · exact h1
  · rw [if_neg h1] at h0; cases h0

theorem pc_halls (h : Hall) (steps : List Int) (x : Entry) : pc E 6 [vHall h, .sl .s 1 (ints steps), .agg [I x.machine, I x.step]] = some (.bool true) := by
  refine pc_code (mf := f6) rfl ?_
  rw [runF_U rfl]
  have hf := pc_fewRules h steps
  simp only [ints] at hf
  cases h1 : decide (h.rules.length ≤ 14) && decide (steps.length ≤ 8)
  · rw [h1] at hf
    simp only [f6, ints, pc_awake, hf, ww0, ww1, ww2, ww3, ww4, ww5, ww6, ww7, ww8, ww9, ww10, I, Vi.start, exec, St.gone, St.cells, St.write, St.ints, St.optInt, St.deref, vals, Vi.gone, cut, paste, fill, rowsOf, leqv, leqs, leq1, binv, ibin, unv, ptrOp, resOf, resAll, res1, reduceIte, reduceCtorEq, ne_eq, not_false_eq_true, Root.bx.injEq, Root.tm.injEq, Nat.reduceAdd, Nat.reduceBEq, Nat.reduceBNe, Nat.reduceEqDiff, Nat.reduceLT, Nat.reduceLeDiff, Nat.reduceMul, Nat.reduceSub, Int.reduceToNat, Int.reduceEq, Int.reduceBEq, Int.reduceBNe, Int.reduceLT, Int.reduceLE, if_true, if_false, Bool.false_eq_true, decide_true, decide_false, List.zipIdx_nil, bne_self_eq_false]
  · rw [h1] at hf
    simp only [Bool.and_eq_true, decide_eq_true_eq] at h1
    have hl : h.rules.length < 9223372036854775807 := by omega
    have hs : steps.length ≤ 1000000 := by omega
    have e1 := pc_copyHall h (by omega)
    have e2 := pc_copyInts steps hs
    have e3 := pc_brokenIn h steps hs hl
    have e4 := pc_mayEnter h steps x hs hl
    have e5 := pc_checkHall h hl
    have e6 := pc_refCheckHall h hl
    have e7 := pc_stepsErr h steps (by omega)
    have e8 := pc_refBroken h steps hs hl
    simp only [ints] at e2 e3 e4 e7 e8
    by_cases hA : (checkHall h).2 = 0
    · have hA' : ((checkHall h).2 == 0) = true := by simp [hA]
      by_cases hB : stepsErr h steps = 0
      · have hE : hallErr h steps = 0 := by unfold hallErr; rw [if_pos hA]; exact hB
        have hlen := stepsErr_len hB
        have hw : IntKind.i64.wrap (h.machines - 1) = (steps.length : Int) - 1 := by rw [← hlen]; exact wrap_id (by omega) (by omega)
        have hme : ∀ e : Int × Int, ((if inR x.machine 0 ((steps.length : Int) - 1) && isStep x.step then (match broken h (steps.set x.machine.toNat x.step) with
            | some (_, b) => ((b : Int), (24 : Int))
            | none => ((0 : Int), (0 : Int))) else (0, 6)) : Int × Int) = e → mayEnter h steps x = e := fun e he => by unfold mayEnter; rw [if_pos hE]; exact he
        cases hbr : broken h steps with
        | none =>
          have eb : brokenIn h steps = (0, 0, 12) := by unfold brokenIn; rw [if_pos hE, hbr]
          rw [hbr] at e8
          rw [eb] at e3
          simp only at e8 e3
          simp only [f6, ints, pc_awake, hf, e1, e2, e3, e4, e5, e6, e7, e8, hA, hB, hw, pc_Within, ww0, ww1, ww2, ww3, ww4, ww5, ww6, ww7, ww8, ww9, ww10, I, Vi.start, exec, St.gone, St.cells, St.write, St.ints, St.optInt, St.deref, vals, Vi.gone, cut, paste, fill, rowsOf, leqv, leqs, leq1, binv, ibin, unv, ptrOp, resOf, resAll, res1, reduceIte, reduceCtorEq, ne_eq, not_false_eq_true, Root.bx.injEq, Root.tm.injEq, Nat.reduceAdd, Nat.reduceBEq, Nat.reduceBNe, Nat.reduceEqDiff, Nat.reduceLT, Nat.reduceLeDiff, Nat.reduceMul, Nat.reduceSub, Int.reduceToNat, Int.reduceEq, Int.reduceBEq, Int.reduceBNe, Int.reduceLT, Int.reduceLE, if_true, if_false, Bool.false_eq_true, decide_true, decide_false, List.zipIdx_nil, bne_self_eq_false]
          cases hin : inR x.machine 0 ((steps.length : Int) - 1)
          · have em := hme (0, 6) (by rw [hin]; rfl)
            simp only [hin, em, ww0, ww1, ww2, ww3, ww4, ww5, ww6, ww7, ww8, ww9, ww10, I, Vi.start, exec, St.gone, St.cells, St.write, St.ints, St.optInt, St.deref, vals, Vi.gone, cut, paste, fill, rowsOf, leqv, leqs, leq1, binv, ibin, unv, ptrOp, resOf, resAll, res1, reduceIte, reduceCtorEq, ne_eq, not_false_eq_true, Root.bx.injEq, Root.tm.injEq, Nat.reduceAdd, Nat.reduceBEq, Nat.reduceBNe, Nat.reduceEqDiff, Nat.reduceLT, Nat.reduceLeDiff, Nat.reduceMul, Nat.reduceSub, Int.reduceToNat, Int.reduceEq, Int.reduceBEq, Int.reduceBNe, Int.reduceLT, Int.reduceLE, if_true, if_false, Bool.false_eq_true, decide_true, decide_false, List.zipIdx_nil, bne_self_eq_false]
          · cases hst : inR x.step 0 9
            · have em := hme (0, 6) (by rw [hin, isStep, hst]; rfl)
              simp only [hin, hst, em, pc_Within, ww0, ww1, ww2, ww3, ww4, ww5, ww6, ww7, ww8, ww9, ww10, I, Vi.start, exec, St.gone, St.cells, St.write, St.ints, St.optInt, St.deref, vals, Vi.gone, cut, paste, fill, rowsOf, leqv, leqs, leq1, binv, ibin, unv, ptrOp, resOf, resAll, res1, reduceIte, reduceCtorEq, ne_eq, not_false_eq_true, Root.bx.injEq, Root.tm.injEq, Nat.reduceAdd, Nat.reduceBEq, Nat.reduceBNe, Nat.reduceEqDiff, Nat.reduceLT, Nat.reduceLeDiff, Nat.reduceMul, Nat.reduceSub, Int.reduceToNat, Int.reduceEq, Int.reduceBEq, Int.reduceBNe, Int.reduceLT, Int.reduceLE, if_true, if_false, Bool.false_eq_true, decide_true, decide_false, List.zipIdx_nil, bne_self_eq_false]
            · have h5 : 0 ≤ x.machine ∧ x.machine < steps.length := by
                simp only [inR, Bool.and_eq_true, decide_eq_true_eq] at hin; omega
              obtain ⟨m, hm⟩ := Int.eq_ofNat_of_zero_le h5.1
              have h6 : m < steps.length := by omega
              have e9 := pc_entered steps hs m h6 x.step
              have e10 := pc_refBroken h (steps.set m x.step) (by simpa using hs) hl
              simp only [ints, List.map_set] at e9 e10
              cases hb2 : broken h (steps.set m x.step) with
              | none =>
                have em := hme (0, 0) (by rw [hin, isStep, hst, hm, Int.toNat_natCast, hb2]; rfl)
                rw [hb2] at e10
                rw [hm] at hin
                simp only [hin, hst, em, hm, e9, e10, pc_Within, ww0, ww1, ww2, ww3, ww4, ww5, ww6, ww7, ww8, ww9, ww10, I, Vi.start, exec, St.gone, St.cells, St.write, St.ints, St.optInt, St.deref, vals, Vi.gone, cut, paste, fill, rowsOf, leqv, leqs, leq1, binv, ibin, unv, ptrOp, resOf, resAll, res1, reduceIte, reduceCtorEq, ne_eq, not_false_eq_true, Root.bx.injEq, Root.tm.injEq, Nat.reduceAdd, Nat.reduceBEq, Nat.reduceBNe, Nat.reduceEqDiff, Nat.reduceLT, Nat.reduceLeDiff, Nat.reduceMul, Nat.reduceSub, Int.reduceToNat, Int.reduceEq, Int.reduceBEq, Int.reduceBNe, Int.reduceLT, Int.reduceLE, if_true, if_false, Bool.false_eq_true, decide_true, decide_false, List.zipIdx_nil, bne_self_eq_false]
              | some p2 =>
                obtain ⟨a2, b2⟩ := p2
                have em := hme ((b2 : Int), 24) (by rw [hin, isStep, hst, hm, Int.toNat_natCast, hb2]; rfl)
                rw [hb2] at e10
                rw [hm] at hin
                simp only [hin, hst, em, hm, e9, e10, beq_self_eq_true, pc_Within, ww0, ww1, ww2, ww3, ww4, ww5, ww6, ww7, ww8, ww9, ww10, I, Vi.start, exec, St.gone, St.cells, St.write, St.ints, St.optInt, St.deref, vals, Vi.gone, cut, paste, fill, rowsOf, leqv, leqs, leq1, binv, ibin, unv, ptrOp, resOf, resAll, res1, reduceIte, reduceCtorEq, ne_eq, not_false_eq_true, Root.bx.injEq, Root.tm.injEq, Nat.reduceAdd, Nat.reduceBEq, Nat.reduceBNe, Nat.reduceEqDiff, Nat.reduceLT, Nat.reduceLeDiff, Nat.reduceMul, Nat.reduceSub, Int.reduceToNat, Int.reduceEq, Int.reduceBEq, Int.reduceBNe, Int.reduceLT, Int.reduceLE, if_true, if_false, Bool.false_eq_true, decide_true, decide_false, List.zipIdx_nil, bne_self_eq_false]
        | some p =>
          obtain ⟨a, b⟩ := p
          have eb : brokenIn h steps = ((a : Int), (b : Int), (0 : Int)) := by unfold brokenIn; rw [if_pos hE, hbr]
          rw [hbr] at e8
          rw [eb] at e3
          simp only at e8 e3
          simp only [f6, ints, pc_awake, hf, e1, e2, e3, e4, e5, e6, e7, e8, hA, hB, hw, beq_self_eq_true, pc_Within, ww0, ww1, ww2, ww3, ww4, ww5, ww6, ww7, ww8, ww9, ww10, I, Vi.start, exec, St.gone, St.cells, St.write, St.ints, St.optInt, St.deref, vals, Vi.gone, cut, paste, fill, rowsOf, leqv, leqs, leq1, binv, ibin, unv, ptrOp, resOf, resAll, res1, reduceIte, reduceCtorEq, ne_eq, not_false_eq_true, Root.bx.injEq, Root.tm.injEq, Nat.reduceAdd, Nat.reduceBEq, Nat.reduceBNe, Nat.reduceEqDiff, Nat.reduceLT, Nat.reduceLeDiff, Nat.reduceMul, Nat.reduceSub, Int.reduceToNat, Int.reduceEq, Int.reduceBEq, Int.reduceBNe, Int.reduceLT, Int.reduceLE, if_true, if_false, Bool.false_eq_true, decide_true, decide_false, List.zipIdx_nil, bne_self_eq_false]
          cases hin : inR x.machine 0 ((steps.length : Int) - 1)
          · have em := hme (0, 6) (by rw [hin]; rfl)
            simp only [hin, em, ww0, ww1, ww2, ww3, ww4, ww5, ww6, ww7, ww8, ww9, ww10, I, Vi.start, exec, St.gone, St.cells, St.write, St.ints, St.optInt, St.deref, vals, Vi.gone, cut, paste, fill, rowsOf, leqv, leqs, leq1, binv, ibin, unv, ptrOp, resOf, resAll, res1, reduceIte, reduceCtorEq, ne_eq, not_false_eq_true, Root.bx.injEq, Root.tm.injEq, Nat.reduceAdd, Nat.reduceBEq, Nat.reduceBNe, Nat.reduceEqDiff, Nat.reduceLT, Nat.reduceLeDiff, Nat.reduceMul, Nat.reduceSub, Int.reduceToNat, Int.reduceEq, Int.reduceBEq, Int.reduceBNe, Int.reduceLT, Int.reduceLE, if_true, if_false, Bool.false_eq_true, decide_true, decide_false, List.zipIdx_nil, bne_self_eq_false]
          · cases hst : inR x.step 0 9
            · have em := hme (0, 6) (by rw [hin, isStep, hst]; rfl)
              simp only [hin, hst, em, pc_Within, ww0, ww1, ww2, ww3, ww4, ww5, ww6, ww7, ww8, ww9, ww10, I, Vi.start, exec, St.gone, St.cells, St.write, St.ints, St.optInt, St.deref, vals, Vi.gone, cut, paste, fill, rowsOf, leqv, leqs, leq1, binv, ibin, unv, ptrOp, resOf, resAll, res1, reduceIte, reduceCtorEq, ne_eq, not_false_eq_true, Root.bx.injEq, Root.tm.injEq, Nat.reduceAdd, Nat.reduceBEq, Nat.reduceBNe, Nat.reduceEqDiff, Nat.reduceLT, Nat.reduceLeDiff, Nat.reduceMul, Nat.reduceSub, Int.reduceToNat, Int.reduceEq, Int.reduceBEq, Int.reduceBNe, Int.reduceLT, Int.reduceLE, if_true, if_false, Bool.false_eq_true, decide_true, decide_false, List.zipIdx_nil, bne_self_eq_false]
            · have h5 : 0 ≤ x.machine ∧ x.machine < steps.length := by
                simp only [inR, Bool.and_eq_true, decide_eq_true_eq] at hin; omega
              obtain ⟨m, hm⟩ := Int.eq_ofNat_of_zero_le h5.1
              have h6 : m < steps.length := by omega
              have e9 := pc_entered steps hs m h6 x.step
              have e10 := pc_refBroken h (steps.set m x.step) (by simpa using hs) hl
              simp only [ints, List.map_set] at e9 e10
              cases hb2 : broken h (steps.set m x.step) with
              | none =>
                have em := hme (0, 0) (by rw [hin, isStep, hst, hm, Int.toNat_natCast, hb2]; rfl)
                rw [hb2] at e10
                rw [hm] at hin
                simp only [hin, hst, em, hm, e9, e10, pc_Within, ww0, ww1, ww2, ww3, ww4, ww5, ww6, ww7, ww8, ww9, ww10, I, Vi.start, exec, St.gone, St.cells, St.write, St.ints, St.optInt, St.deref, vals, Vi.gone, cut, paste, fill, rowsOf, leqv, leqs, leq1, binv, ibin, unv, ptrOp, resOf, resAll, res1, reduceIte, reduceCtorEq, ne_eq, not_false_eq_true, Root.bx.injEq, Root.tm.injEq, Nat.reduceAdd, Nat.reduceBEq, Nat.reduceBNe, Nat.reduceEqDiff, Nat.reduceLT, Nat.reduceLeDiff, Nat.reduceMul, Nat.reduceSub, Int.reduceToNat, Int.reduceEq, Int.reduceBEq, Int.reduceBNe, Int.reduceLT, Int.reduceLE, if_true, if_false, Bool.false_eq_true, decide_true, decide_false, List.zipIdx_nil, bne_self_eq_false]
              | some p2 =>
                obtain ⟨a2, b2⟩ := p2
                have em := hme ((b2 : Int), 24) (by rw [hin, isStep, hst, hm, Int.toNat_natCast, hb2]; rfl)
                rw [hb2] at e10
                rw [hm] at hin
                simp only [hin, hst, em, hm, e9, e10, beq_self_eq_true, pc_Within, ww0, ww1, ww2, ww3, ww4, ww5, ww6, ww7, ww8, ww9, ww10, I, Vi.start, exec, St.gone, St.cells, St.write, St.ints, St.optInt, St.deref, vals, Vi.gone, cut, paste, fill, rowsOf, leqv, leqs, leq1, binv, ibin, unv, ptrOp, resOf, resAll, res1, reduceIte, reduceCtorEq, ne_eq, not_false_eq_true, Root.bx.injEq, Root.tm.injEq, Nat.reduceAdd, Nat.reduceBEq, Nat.reduceBNe, Nat.reduceEqDiff, Nat.reduceLT, Nat.reduceLeDiff, Nat.reduceMul, Nat.reduceSub, Int.reduceToNat, Int.reduceEq, Int.reduceBEq, Int.reduceBNe, Int.reduceLT, Int.reduceLE, if_true, if_false, Bool.false_eq_true, decide_true, decide_false, List.zipIdx_nil, bne_self_eq_false]
      · have hE : hallErr h steps = stepsErr h steps := by unfold hallErr; rw [if_pos hA]
        have eb : brokenIn h steps = (0, 0, stepsErr h steps) := by unfold brokenIn; rw [hE, if_neg hB]
        have em : mayEnter h steps x = (0, stepsErr h steps) := by unfold mayEnter; rw [hE, if_neg hB]
        have hB' : (stepsErr h steps != 0) = true := by simp [hB]
        simp only [f6, ints, pc_awake, hf, e1, e2, e3, e4, e5, e6, e7, eb, em, hA, hB', beq_self_eq_true, ww0, ww1, ww2, ww3, ww4, ww5, ww6, ww7, ww8, ww9, ww10, I, Vi.start, exec, St.gone, St.cells, St.write, St.ints, St.optInt, St.deref, vals, Vi.gone, cut, paste, fill, rowsOf, leqv, leqs, leq1, binv, ibin, unv, ptrOp, resOf, resAll, res1, reduceIte, reduceCtorEq, ne_eq, not_false_eq_true, Root.bx.injEq, Root.tm.injEq, Nat.reduceAdd, Nat.reduceBEq, Nat.reduceBNe, Nat.reduceEqDiff, Nat.reduceLT, Nat.reduceLeDiff, Nat.reduceMul, Nat.reduceSub, Int.reduceToNat, Int.reduceEq, Int.reduceBEq, Int.reduceBNe, Int.reduceLT, Int.reduceLE, if_true, if_false, Bool.false_eq_true, decide_true, decide_false, List.zipIdx_nil, bne_self_eq_false]
    · have hE : hallErr h steps = (checkHall h).2 := by unfold hallErr; rw [if_neg hA]
      have eb : brokenIn h steps = (0, 0, (checkHall h).2) := by unfold brokenIn; rw [hE, if_neg hA]
      have em : mayEnter h steps x = (0, (checkHall h).2) := by unfold mayEnter; rw [hE, if_neg hA]
      have hB' : ((checkHall h).2 != 0) = true := by simp [hA]
      have hB2 : ((checkHall h).2 == 0) = false := by simp [hA]
      simp only [f6, ints, pc_awake, hf, e1, e2, e3, e4, e5, e6, eb, em, hB', hB2, beq_self_eq_true, ww0, ww1, ww2, ww3, ww4, ww5, ww6, ww7, ww8, ww9, ww10, I, Vi.start, exec, St.gone, St.cells, St.write, St.ints, St.optInt, St.deref, vals, Vi.gone, cut, paste, fill, rowsOf, leqv, leqs, leq1, binv, ibin, unv, ptrOp, resOf, resAll, res1, reduceIte, reduceCtorEq, ne_eq, not_false_eq_true, Root.bx.injEq, Root.tm.injEq, Nat.reduceAdd, Nat.reduceBEq, Nat.reduceBNe, Nat.reduceEqDiff, Nat.reduceLT, Nat.reduceLeDiff, Nat.reduceMul, Nat.reduceSub, Int.reduceToNat, Int.reduceEq, Int.reduceBEq, Int.reduceBNe, Int.reduceLT, Int.reduceLE, if_true, if_false, Bool.false_eq_true, decide_true, decide_false, List.zipIdx_nil, bne_self_eq_false]

end Go.ViD
