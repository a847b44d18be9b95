/- The vote of three sets: the law. -/
import Derived.Test.YtomimhedehecdaaDoorViVotesA
import Derived.Test.YtomimhedehecdaaDoorViAwakeD
set_option linter.unusedSimpArgs false
set_option linter.unusedVariables false
namespace Go.ViD
open Go.Vi

theorem loop4 {call : FuncId → List V → Option V} {a b c x w t : Int} {n : Nat} {td : List Todo} {k : Ex → St → Option V} (y : Int) (hy : [a, b, c][n]? = some y) (hw : 0 ≤ w ∧ w < 100) :
    U call (.c (.loop f4l0) :: td) .normal ⟨[(1, I t), (2, .loc 2 0), (5, I x), (8, I w), (9, I n)], [(2, false, [I a, I b, I c])]⟩ k =
    U call (.c (.loop f4l0) :: td) .normal ⟨[(1, I t), (2, .loc 2 0), (5, I x), (8, I (w + if y = t then 0 else 1)), (9, I (n + 1 : Nat))], [(2, false, [I a, I b, I c])]⟩ k := by
  conv => lhs; rw [U_loop' f4l0.eq_1]
  have hn : n < 3 := by have := (List.getElem?_eq_some_iff.1 hy).1; simpa using this
  have h0 : (n : Int) < 3 := by omega
  have h2 : n * 1 ≤ 2 := by omega
  have h3 : ([I a, I b, I c].drop (n * 1)).take 1 = [I y] := by
    match n, hn, hy with
    | 0, _, hy => simp at hy; subst hy; rfl
    | 1, _, hy => simp at hy; subst hy; rfl
    | 2, _, hy => simp at hy; subst hy; rfl
  simp only [I] at h3
  simp only [h0, wrap_succ (i := n) (by omega), ww0, ww1, ww2, ww3, ww4, ww5, ww6, ww7, ww8, ww9, ww10, I, Vi.start, exec, St.gone, St.cells, St.write, St.ints, St.optInt, St.deref, vals, Vi.gone, cut, paste, fill, rowsOf, leqv, leqs, leq1, binv, ibin, unv, ptrOp, resOf, resAll, res1, reduceIte, reduceCtorEq, not_false, Root.bx.injEq, Root.tm.injEq, Nat.reduceAdd, Nat.reduceBEq, Nat.reduceBNe, Nat.reduceEqDiff, Nat.reduceLT, Nat.reduceLeDiff, Nat.reduceMul, Nat.reduceSub, Int.reduceToNat, Int.reduceBEq, Int.reduceBNe, Int.reduceLT, Int.reduceLE, if_true, if_false, Bool.false_eq_true, decide_true, decide_false, List.zipIdx_nil, bne_self_eq_false]
  rw [if_pos h2, h3]
  simp only [ww0, ww1, ww2, ww3, ww4, ww5, ww6, ww7, ww8, ww9, ww10, I, Vi.start, exec, St.gone, St.cells, St.write, St.ints, St.optInt, St.deref, vals, Vi.gone, cut, paste, fill, rowsOf, leqv, leqs, leq1, binv, ibin, unv, ptrOp, resOf, resAll, res1, reduceIte, reduceCtorEq, not_false, Root.bx.injEq, Root.tm.injEq, Nat.reduceAdd, Nat.reduceBEq, Nat.reduceBNe, Nat.reduceEqDiff, Nat.reduceLT, Nat.reduceLeDiff, Nat.reduceMul, Nat.reduceSub, Int.reduceToNat, Int.reduceBEq, Int.reduceBNe, Int.reduceLT, Int.reduceLE, if_true, if_false, Bool.false_eq_true, decide_true, decide_false, List.zipIdx_nil, bne_self_eq_false]
  by_cases h4 : y = t
  · have h5 : (y != t) = false := by simp [h4]
    simp only [h4, h5, wrap_succ (i := n) (by omega), Int.add_zero, ww0, ww1, ww2, ww3, ww4, ww5, ww6, ww7, ww8, ww9, ww10, I, Vi.start, exec, St.gone, St.cells, St.write, St.ints, St.optInt, St.deref, vals, Vi.gone, cut, paste, fill, rowsOf, leqv, leqs, leq1, binv, ibin, unv, ptrOp, resOf, resAll, res1, reduceIte, reduceCtorEq, not_false, Root.bx.injEq, Root.tm.injEq, Nat.reduceAdd, Nat.reduceBEq, Nat.reduceBNe, Nat.reduceEqDiff, Nat.reduceLT, Nat.reduceLeDiff, Nat.reduceMul, Nat.reduceSub, Int.reduceToNat, Int.reduceBEq, Int.reduceBNe, Int.reduceLT, Int.reduceLE, if_true, if_false, Bool.false_eq_true, decide_true, decide_false, List.zipIdx_nil, bne_self_eq_false]
  · have h5 : (y != t) = true := by simp [h4]
    simp only [h4, h5, wrap_succ (i := n) (by omega), wrap_id (n := w + 1) (by omega) (by omega), ww0, ww1, ww2, ww3, ww4, ww5, ww6, ww7, ww8, ww9, ww10, I, Vi.start, exec, St.gone, St.cells, St.write, St.ints, St.optInt, St.deref, vals, Vi.gone, cut, paste, fill, rowsOf, leqv, leqs, leq1, binv, ibin, unv, ptrOp, resOf, resAll, res1, reduceIte, reduceCtorEq, not_false, Root.bx.injEq, Root.tm.injEq, Nat.reduceAdd, Nat.reduceBEq, Nat.reduceBNe, Nat.reduceEqDiff, Nat.reduceLT, Nat.reduceLeDiff, Nat.reduceMul, Nat.reduceSub, Int.reduceToNat, Int.reduceBEq, Int.reduceBNe, Int.reduceLT, Int.reduceLE, if_true, if_false, Bool.false_eq_true, decide_true, decide_false, List.zipIdx_nil, bne_self_eq_false]

theorem pc_votes (a b c t : Int) : pc E 4 [.agg [I a, I b, I c], I t] = some (.bool true) := by
  refine pc_code (mf := f4) rfl ?_
  rw [runF_U rfl]
  have hl0 := fun x t td k => loop4 (call := pc E) (a := a) (b := b) (c := c) (x := x) (w := 0) (t := t) (n := 0) (td := td) (k := k) a rfl (by omega)
  have hl1 := fun x t td k => loop4 (call := pc E) (a := a) (b := b) (c := c) (x := x) (w := 0 + if a = t then 0 else 1) (t := t) (n := 1) (td := td) (k := k) b rfl (by split <;> omega)
  have hl2 := fun x t td k => loop4 (call := pc E) (a := a) (b := b) (c := c) (x := x) (w := (0 + if a = t then 0 else 1) + if b = t then 0 else 1) (t := t) (n := 2) (td := td) (k := k) c rfl (by split <;> split <;> omega)
  simp only [I, Int.cast_ofNat_Int, Nat.reduceAdd] at hl0 hl1 hl2
  cases h1 : [a, b, c].any (fun n => !(decide (0 ≤ n) && decide (n ≤ 31)))
  · simp only [List.any_cons, List.any_nil, Bool.or_false, Bool.or_eq_false_iff, Bool.not_eq_false', Bool.and_eq_true, decide_eq_true_eq] at h1
    obtain ⟨ha, hb, hc⟩ := h1
    have h1 : [a, b, c].any (fun n => !(decide (0 ≤ n) && decide (n ≤ 31))) = false := by simp [ha, hb, hc]
    have hv := vote_same ha hb hc
    simp only [f4, pc_awake, pc_voted, pc_voteErr, pc_refVoted, h1, hv, ww0, ww1, ww2, ww3, ww4, ww5, ww6, ww7, ww8, ww9, ww10, I, Vi.start, exec, St.gone, St.cells, St.write, St.ints, St.optInt, St.deref, vals, Vi.gone, cut, paste, fill, rowsOf, leqv, leqs, leq1, binv, ibin, unv, ptrOp, resOf, resAll, res1, reduceIte, reduceCtorEq, not_false, Root.bx.injEq, Root.tm.injEq, Nat.reduceAdd, Nat.reduceBEq, Nat.reduceBNe, Nat.reduceEqDiff, Nat.reduceLT, Nat.reduceLeDiff, Nat.reduceMul, Nat.reduceSub, Int.reduceToNat, Int.reduceBEq, Int.reduceBNe, Int.reduceLT, Int.reduceLE, if_true, if_false, Bool.false_eq_true, decide_true, decide_false, List.zipIdx_nil, bne_self_eq_false]
    rw [hl0, hl1, hl2]
    simp only [U_loop' f4l0.eq_1, ww0, ww1, ww2, ww3, ww4, ww5, ww6, ww7, ww8, ww9, ww10, I, Vi.start, exec, St.gone, St.cells, St.write, St.ints, St.optInt, St.deref, vals, Vi.gone, cut, paste, fill, rowsOf, leqv, leqs, leq1, binv, ibin, unv, ptrOp, resOf, resAll, res1, reduceIte, reduceCtorEq, not_false, Root.bx.injEq, Root.tm.injEq, Nat.reduceAdd, Nat.reduceBEq, Nat.reduceBNe, Nat.reduceEqDiff, Nat.reduceLT, Nat.reduceLeDiff, Nat.reduceMul, Nat.reduceSub, Int.reduceToNat, Int.reduceBEq, Int.reduceBNe, Int.reduceLT, Int.reduceLE, if_true, if_false, Bool.false_eq_true, decide_true, decide_false, List.zipIdx_nil, bne_self_eq_false]
    have h2 : (((0 + if a = t then 0 else 1) + if b = t then 0 else 1) + if c = t then 0 else 1 : Int) = wrongs a b c t := by unfold wrongs; omega
    rw [h2]
    cases h3 : decide (wrongs a b c t > 1)
    · have h4 := vote_two (t := t) (by have := of_decide_eq_false h3; omega) ha hb hc
      simp only [h3, h4, beq_self_eq_true, ww0, ww1, ww2, ww3, ww4, ww5, ww6, ww7, ww8, ww9, ww10, I, Vi.start, exec, St.gone, St.cells, St.write, St.ints, St.optInt, St.deref, vals, Vi.gone, cut, paste, fill, rowsOf, leqv, leqs, leq1, binv, ibin, unv, ptrOp, resOf, resAll, res1, reduceIte, reduceCtorEq, not_false, Root.bx.injEq, Root.tm.injEq, Nat.reduceAdd, Nat.reduceBEq, Nat.reduceBNe, Nat.reduceEqDiff, Nat.reduceLT, Nat.reduceLeDiff, Nat.reduceMul, Nat.reduceSub, Int.reduceToNat, Int.reduceBEq, Int.reduceBNe, Int.reduceLT, Int.reduceLE, if_true, if_false, Bool.false_eq_true, decide_true, decide_false, List.zipIdx_nil, bne_self_eq_false]
    · simp only [h3, ww0, ww1, ww2, ww3, ww4, ww5, ww6, ww7, ww8, ww9, ww10, I, Vi.start, exec, St.gone, St.cells, St.write, St.ints, St.optInt, St.deref, vals, Vi.gone, cut, paste, fill, rowsOf, leqv, leqs, leq1, binv, ibin, unv, ptrOp, resOf, resAll, res1, reduceIte, reduceCtorEq, not_false, Root.bx.injEq, Root.tm.injEq, Nat.reduceAdd, Nat.reduceBEq, Nat.reduceBNe, Nat.reduceEqDiff, Nat.reduceLT, Nat.reduceLeDiff, Nat.reduceMul, Nat.reduceSub, Int.reduceToNat, Int.reduceBEq, Int.reduceBNe, Int.reduceLT, Int.reduceLE, if_true, if_false, Bool.false_eq_true, decide_true, decide_false, List.zipIdx_nil, bne_self_eq_false]
  · simp only [f4, pc_awake, pc_voted, pc_voteErr, h1, ww0, ww1, ww2, ww3, ww4, ww5, ww6, ww7, ww8, ww9, ww10, I, Vi.start, exec, St.gone, St.cells, St.write, St.ints, St.optInt, St.deref, vals, Vi.gone, cut, paste, fill, rowsOf, leqv, leqs, leq1, binv, ibin, unv, ptrOp, resOf, resAll, res1, reduceIte, reduceCtorEq, not_false, Root.bx.injEq, Root.tm.injEq, Nat.reduceAdd, Nat.reduceBEq, Nat.reduceBNe, Nat.reduceEqDiff, Nat.reduceLT, Nat.reduceLeDiff, Nat.reduceMul, Nat.reduceSub, Int.reduceToNat, Int.reduceBEq, Int.reduceBNe, Int.reduceLT, Int.reduceLE, if_true, if_false, Bool.false_eq_true, decide_true, decide_false, List.zipIdx_nil, bne_self_eq_false]

end Go.ViD
