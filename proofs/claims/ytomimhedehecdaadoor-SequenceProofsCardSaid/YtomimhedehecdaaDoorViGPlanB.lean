import Derived.Test.YtomimhedehecdaaDoorViGPlanA
section
/- Plans: the errors of a step, second part. -/
set_option linter.unusedSimpArgs false
set_option linter.unusedVariables false
namespace Go.ViD
open Go.Vi

theorem pc_steady (p : Plan) (h : p.steps.length ≤ 1000) (s : Step) (hl : s.exits.length ≤ 1000) : pc E 129 [.agg (cPlan p), .agg (cStep s)] = some (I (steadyE p s)) := by
  refine pc_code (mf := f129) rfl ?_
  rw [runF_U rfl]
  have hlp := fun t k => loop129 p h s hl (t := t) (k := k) s.exits.length 0 (by omega)
  simp only [ints, Int.cast_ofNat_Int] at hlp
  have hc := pc_contains s.exits (by omega) s.home
  simp only [ints] at hc
  simp only [f129, ints, List.replicate, List.set, steadyE, zero7, homeOK, bneB, wx, I, exec, resOf, reduceIte, reduceCtorEq, ne_eq, not_false_eq_true, Root.bx.injEq, Root.tm.injEq, Nat.reduceAdd, Nat.reduceBEq, Nat.reduceBNe, Nat.reduceEqDiff, Nat.reduceLT, Nat.reduceLeDiff, Nat.reduceMul, Nat.reduceSub, Int.reduceToNat, Int.reduceEq, Int.reduceBEq, Int.reduceBNe, Int.reduceLT, Int.reduceLE, if_true, if_false, Bool.false_eq_true, decide_true, decide_false, List.zipIdx_nil, bne_self_eq_false]
  repeat' (first | ((first | (with_reducible refine split_condE (fun _ _ _ => ?_) (fun _ _ _ => ?_)) | (with_reducible refine split_guardE (fun _ _ _ => ?_) (fun _ _ _ => ?_))) <;> (rename_i h h2 h3; simp only [h, h2, h3, hlp, wx, I, exec, resOf, reduceIte, reduceCtorEq, ne_eq, not_false_eq_true, Root.bx.injEq, Root.tm.injEq, Nat.reduceAdd, Nat.reduceBEq, Nat.reduceBNe, Nat.reduceEqDiff, Nat.reduceLT, Nat.reduceLeDiff, Nat.reduceMul, Nat.reduceSub, Int.reduceToNat, Int.reduceEq, Int.reduceBEq, Int.reduceBNe, Int.reduceLT, Int.reduceLE, if_true, if_false, Bool.false_eq_true, decide_true, decide_false, List.zipIdx_nil, bne_self_eq_false])) | ((first | (with_reducible refine split_condN (fun _ => ?_) (fun _ => ?_)) | (with_reducible refine split_condA (fun _ => ?_) (fun _ => ?_)) | (with_reducible refine split_condO (fun _ => ?_) (fun _ => ?_)) | (with_reducible refine split_cond (fun _ => ?_) (fun _ => ?_)) | (with_reducible refine split_guardN (fun _ => ?_) (fun _ => ?_)) | (with_reducible refine split_guardA (fun _ => ?_) (fun _ => ?_)) | (with_reducible refine split_guardO (fun _ => ?_) (fun _ => ?_)) | (with_reducible refine split_guard (fun _ => ?_) (fun _ => ?_))) <;> (rename_i h; simp only [h, hlp, wx, I, exec, resOf, reduceIte, reduceCtorEq, ne_eq, not_false_eq_true, Root.bx.injEq, Root.tm.injEq, Nat.reduceAdd, Nat.reduceBEq, Nat.reduceBNe, Nat.reduceEqDiff, Nat.reduceLT, Nat.reduceLeDiff, Nat.reduceMul, Nat.reduceSub, Int.reduceToNat, Int.reduceEq, Int.reduceBEq, Int.reduceBNe, Int.reduceLT, Int.reduceLE, if_true, if_false, Bool.false_eq_true, decide_true, decide_false, List.zipIdx_nil, bne_self_eq_false])))
  by_cases he : exFrom p s.exits s.exits.length 0 = 0
  · simp only [he, hc, wx, I, exec, resOf, reduceIte, reduceCtorEq, ne_eq, not_false_eq_true, Root.bx.injEq, Root.tm.injEq, Nat.reduceAdd, Nat.reduceBEq, Nat.reduceBNe, Nat.reduceEqDiff, Nat.reduceLT, Nat.reduceLeDiff, Nat.reduceMul, Nat.reduceSub, Int.reduceToNat, Int.reduceEq, Int.reduceBEq, Int.reduceBNe, Int.reduceLT, Int.reduceLE, if_true, if_false, Bool.false_eq_true, decide_true, decide_false, List.zipIdx_nil, bne_self_eq_false]
    repeat' (first | ((first | (with_reducible refine split_condE (fun _ _ _ => ?_) (fun _ _ _ => ?_)) | (with_reducible refine split_guardE (fun _ _ _ => ?_) (fun _ _ _ => ?_))) <;> (rename_i h h2 h3; simp only [h, h2, h3, pc_unless, hc, wx, I, exec, resOf, reduceIte, reduceCtorEq, ne_eq, not_false_eq_true, Root.bx.injEq, Root.tm.injEq, Nat.reduceAdd, Nat.reduceBEq, Nat.reduceBNe, Nat.reduceEqDiff, Nat.reduceLT, Nat.reduceLeDiff, Nat.reduceMul, Nat.reduceSub, Int.reduceToNat, Int.reduceEq, Int.reduceBEq, Int.reduceBNe, Int.reduceLT, Int.reduceLE, if_true, if_false, Bool.false_eq_true, decide_true, decide_false, List.zipIdx_nil, bne_self_eq_false])) | ((first | (with_reducible refine split_condN (fun _ => ?_) (fun _ => ?_)) | (with_reducible refine split_condA (fun _ => ?_) (fun _ => ?_)) | (with_reducible refine split_condO (fun _ => ?_) (fun _ => ?_)) | (with_reducible refine split_cond (fun _ => ?_) (fun _ => ?_)) | (with_reducible refine split_guardN (fun _ => ?_) (fun _ => ?_)) | (with_reducible refine split_guardA (fun _ => ?_) (fun _ => ?_)) | (with_reducible refine split_guardO (fun _ => ?_) (fun _ => ?_)) | (with_reducible refine split_guard (fun _ => ?_) (fun _ => ?_))) <;> (rename_i h; simp only [h, pc_unless, hc, wx, I, exec, resOf, reduceIte, reduceCtorEq, ne_eq, not_false_eq_true, Root.bx.injEq, Root.tm.injEq, Nat.reduceAdd, Nat.reduceBEq, Nat.reduceBNe, Nat.reduceEqDiff, Nat.reduceLT, Nat.reduceLeDiff, Nat.reduceMul, Nat.reduceSub, Int.reduceToNat, Int.reduceEq, Int.reduceBEq, Int.reduceBNe, Int.reduceLT, Int.reduceLE, if_true, if_false, Bool.false_eq_true, decide_true, decide_false, List.zipIdx_nil, bne_self_eq_false])))
  · simp only [he, hc, wx, I, exec, resOf, reduceIte, reduceCtorEq, ne_eq, not_false_eq_true, Root.bx.injEq, Root.tm.injEq, Nat.reduceAdd, Nat.reduceBEq, Nat.reduceBNe, Nat.reduceEqDiff, Nat.reduceLT, Nat.reduceLeDiff, Nat.reduceMul, Nat.reduceSub, Int.reduceToNat, Int.reduceEq, Int.reduceBEq, Int.reduceBNe, Int.reduceLT, Int.reduceLE, if_true, if_false, Bool.false_eq_true, decide_true, decide_false, List.zipIdx_nil, bne_self_eq_false]

theorem loop109 (p : Plan) (h : p.steps.length ≤ 1000) (s : Step) (hl : s.exits.length ≤ 1000) {t : List Todo} {k : Ex → St → Option V} :
    ∀ (m i : Nat), i + m = s.exits.length → U (pc E) (.c (.loop f109l0) :: t) .normal ⟨[(2, .loc 2 0), (3, .loc 3 0), (5, I i)], [(2, false, cPlan p), (3, false, cStep s)]⟩ k =
      if exFrom p s.exits m i = 0 then U (pc E) t (.exit 0) ⟨[(3, .loc 3 0)], [(3, false, cStep s)]⟩ k else k .ret ⟨[(4, I (exFrom p s.exits m i))], []⟩
  | 0, i, hm => by
    rw [U_loop' f109l0.eq_1]
    have h0 : ¬ ((i : Int) < (s.exits.length : Int)) := by omega
    simp only [ints, h0, exFrom, wx, I, exec, resOf, reduceIte, reduceCtorEq, ne_eq, not_false_eq_true, Root.bx.injEq, Root.tm.injEq, Nat.reduceAdd, Nat.reduceBEq, Nat.reduceBNe, Nat.reduceEqDiff, Nat.reduceLT, Nat.reduceLeDiff, Nat.reduceMul, Nat.reduceSub, Int.reduceToNat, Int.reduceEq, Int.reduceBEq, Int.reduceBNe, Int.reduceLT, Int.reduceLE, if_true, if_false, Bool.false_eq_true, decide_true, decide_false, List.zipIdx_nil, bne_self_eq_false]
  | m + 1, i, hm => by
    rw [U_loop' f109l0.eq_1]
    have h0 : ((i : Int) < (s.exits.length : Int)) := by omega
    have hx : s.exits[i]? = some s.exits[i] := List.getElem?_eq_getElem (by omega)
    have hx' : i ≠ 0 → s.exits[i - 1]? = some s.exits[i - 1] := fun _ => List.getElem?_eq_getElem (by omega)
    have ih := loop109 p h s hl (t := t) (k := k) m (i + 1) (by omega)
    have hw := wrap_succ (i := i) (by omega)
    have hc1 := pc_idxErrR p h
    simp only [exFrom]
    generalize s.exits[i] = x at hx ⊢
    simp only [ints, h0, hx, hc1, fst1, unl, List.replicate, List.set, wx, I, exec, resOf, reduceIte, reduceCtorEq, ne_eq, not_false_eq_true, Root.bx.injEq, Root.tm.injEq, Nat.reduceAdd, Nat.reduceBEq, Nat.reduceBNe, Nat.reduceEqDiff, Nat.reduceLT, Nat.reduceLeDiff, Nat.reduceMul, Nat.reduceSub, Int.reduceToNat, Int.reduceEq, Int.reduceBEq, Int.reduceBNe, Int.reduceLT, Int.reduceLE, if_true, if_false, Bool.false_eq_true, decide_true, decide_false, List.zipIdx_nil, bne_self_eq_false]
    rcases Nat.eq_zero_or_pos i with hi | hi
    · subst hi
      have hw0 : IntKind.i64.wrap (0 + 1) = 1 := wrap_id (by omega) (by omega)
      simp only [Nat.zero_add, Int.cast_ofNat_Int] at ih
      simp only [wx, I, exec, resOf, reduceIte, reduceCtorEq, ne_eq, not_false_eq_true, Root.bx.injEq, Root.tm.injEq, Nat.reduceAdd, Nat.reduceBEq, Nat.reduceBNe, Nat.reduceEqDiff, Nat.reduceLT, Nat.reduceLeDiff, Nat.reduceMul, Nat.reduceSub, Int.reduceToNat, Int.reduceEq, Int.reduceBEq, Int.reduceBNe, Int.reduceLT, Int.reduceLE, if_true, if_false, Bool.false_eq_true, decide_true, decide_false, List.zipIdx_nil, bne_self_eq_false]
      repeat' (first | ((first | (with_reducible refine split_condE (fun _ _ _ => ?_) (fun _ _ _ => ?_)) | (with_reducible refine split_guardE (fun _ _ _ => ?_) (fun _ _ _ => ?_))) <;> (rename_i h h2 h3; simp only [h, h2, h3, hw0, ih, hc1, Int.lt_irrefl, gt_iff_lt, wx, I, exec, resOf, reduceIte, reduceCtorEq, ne_eq, not_false_eq_true, Root.bx.injEq, Root.tm.injEq, Nat.reduceAdd, Nat.reduceBEq, Nat.reduceBNe, Nat.reduceEqDiff, Nat.reduceLT, Nat.reduceLeDiff, Nat.reduceMul, Nat.reduceSub, Int.reduceToNat, Int.reduceEq, Int.reduceBEq, Int.reduceBNe, Int.reduceLT, Int.reduceLE, if_true, if_false, Bool.false_eq_true, decide_true, decide_false, List.zipIdx_nil, bne_self_eq_false])) | ((first | (with_reducible refine split_condN (fun _ => ?_) (fun _ => ?_)) | (with_reducible refine split_condA (fun _ => ?_) (fun _ => ?_)) | (with_reducible refine split_condO (fun _ => ?_) (fun _ => ?_)) | (with_reducible refine split_cond (fun _ => ?_) (fun _ => ?_)) | (with_reducible refine split_guardN (fun _ => ?_) (fun _ => ?_)) | (with_reducible refine split_guardA (fun _ => ?_) (fun _ => ?_)) | (with_reducible refine split_guardO (fun _ => ?_) (fun _ => ?_)) | (with_reducible refine split_guard (fun _ => ?_) (fun _ => ?_))) <;> (rename_i h; simp only [h, hw0, ih, hc1, Int.lt_irrefl, gt_iff_lt, wx, I, exec, resOf, reduceIte, reduceCtorEq, ne_eq, not_false_eq_true, Root.bx.injEq, Root.tm.injEq, Nat.reduceAdd, Nat.reduceBEq, Nat.reduceBNe, Nat.reduceEqDiff, Nat.reduceLT, Nat.reduceLeDiff, Nat.reduceMul, Nat.reduceSub, Int.reduceToNat, Int.reduceEq, Int.reduceBEq, Int.reduceBNe, Int.reduceLT, Int.reduceLE, if_true, if_false, Bool.false_eq_true, decide_true, decide_false, List.zipIdx_nil, bne_self_eq_false])))
    · have hx' := hx' (by omega)
      generalize s.exits[i - 1] = y at hx' ⊢
      have e0 : ((i : Int) == 0) = false := by simp; omega
      have e1 : IntKind.i64.wrap ((i : Int) - 1) = ((i - 1 : Nat) : Int) := by rw [wrap_id (by omega) (by omega)]; omega
      have e2 : decide ((i : Int) > 0) = true := by simp; omega
      have e3 : decide (x ≤ y) = !decide (x > y) := by by_cases h : x ≤ y <;> simp [h] <;> omega
      simp only [e0, e1, e2, hx', wx, I, exec, resOf, reduceIte, reduceCtorEq, ne_eq, not_false_eq_true, Root.bx.injEq, Root.tm.injEq, Nat.reduceAdd, Nat.reduceBEq, Nat.reduceBNe, Nat.reduceEqDiff, Nat.reduceLT, Nat.reduceLeDiff, Nat.reduceMul, Nat.reduceSub, Int.reduceToNat, Int.reduceEq, Int.reduceBEq, Int.reduceBNe, Int.reduceLT, Int.reduceLE, if_true, if_false, Bool.false_eq_true, decide_true, decide_false, List.zipIdx_nil, bne_self_eq_false]
      repeat' (first | ((first | (with_reducible refine split_condE (fun _ _ _ => ?_) (fun _ _ _ => ?_)) | (with_reducible refine split_guardE (fun _ _ _ => ?_) (fun _ _ _ => ?_))) <;> (rename_i h h2 h3; simp only [h, h2, h3, e0, e1, e2, e3, hw, ih, hc1, hx, hx', wx, I, exec, resOf, reduceIte, reduceCtorEq, ne_eq, not_false_eq_true, Root.bx.injEq, Root.tm.injEq, Nat.reduceAdd, Nat.reduceBEq, Nat.reduceBNe, Nat.reduceEqDiff, Nat.reduceLT, Nat.reduceLeDiff, Nat.reduceMul, Nat.reduceSub, Int.reduceToNat, Int.reduceEq, Int.reduceBEq, Int.reduceBNe, Int.reduceLT, Int.reduceLE, if_true, if_false, Bool.false_eq_true, decide_true, decide_false, List.zipIdx_nil, bne_self_eq_false])) | ((first | (with_reducible refine split_condN (fun _ => ?_) (fun _ => ?_)) | (with_reducible refine split_condA (fun _ => ?_) (fun _ => ?_)) | (with_reducible refine split_condO (fun _ => ?_) (fun _ => ?_)) | (with_reducible refine split_cond (fun _ => ?_) (fun _ => ?_)) | (with_reducible refine split_guardN (fun _ => ?_) (fun _ => ?_)) | (with_reducible refine split_guardA (fun _ => ?_) (fun _ => ?_)) | (with_reducible refine split_guardO (fun _ => ?_) (fun _ => ?_)) | (with_reducible refine split_guard (fun _ => ?_) (fun _ => ?_))) <;> (rename_i h; simp only [h, e0, e1, e2, e3, hw, ih, hc1, hx, hx', wx, I, exec, resOf, reduceIte, reduceCtorEq, ne_eq, not_false_eq_true, Root.bx.injEq, Root.tm.injEq, Nat.reduceAdd, Nat.reduceBEq, Nat.reduceBNe, Nat.reduceEqDiff, Nat.reduceLT, Nat.reduceLeDiff, Nat.reduceMul, Nat.reduceSub, Int.reduceToNat, Int.reduceEq, Int.reduceBEq, Int.reduceBNe, Int.reduceLT, Int.reduceLE, if_true, if_false, Bool.false_eq_true, decide_true, decide_false, List.zipIdx_nil, bne_self_eq_false])))
      all_goals trace_state

theorem pc_steadyR (p : Plan) (h : p.steps.length ≤ 1000) (s : Step) (hl : s.exits.length ≤ 1000) : pc E 109 [.agg (cPlan p), .agg (cStep s)] = some (I (steadyE p s)) := by
  refine pc_code (mf := f109) rfl ?_
  rw [runF_U rfl]
  have hlp := fun t k => loop109 p h s hl (t := t) (k := k) s.exits.length 0 (by omega)
  simp only [ints, Int.cast_ofNat_Int] at hlp
  have hc := pc_Has s.exits (by omega) s.home
  simp only [ints] at hc
  have e2 : decide ((s.exits.length : Int) > 0) = !((s.exits.length : Int) == 0) := by
    by_cases h : s.exits.length = 0
    · simp [h]
    · have h2 : ((s.exits.length : Int) == 0) = false := by simp [h]
      rw [h2]; simp; omega
  have e3 : ((s.exits.length : Int) == 0) = true → hasI s.exits s.home = false := by
    intro h; simp at h; simp [h, hasI]
  simp only [f109, ints, steadyE, zero7, homeOK, bneB, wx, I, exec, resOf, reduceIte, reduceCtorEq, ne_eq, not_false_eq_true, Root.bx.injEq, Root.tm.injEq, Nat.reduceAdd, Nat.reduceBEq, Nat.reduceBNe, Nat.reduceEqDiff, Nat.reduceLT, Nat.reduceLeDiff, Nat.reduceMul, Nat.reduceSub, Int.reduceToNat, Int.reduceEq, Int.reduceBEq, Int.reduceBNe, Int.reduceLT, Int.reduceLE, if_true, if_false, Bool.false_eq_true, decide_true, decide_false, List.zipIdx_nil, bne_self_eq_false]
  repeat' (first | ((first | (with_reducible refine split_condE (fun _ _ _ => ?_) (fun _ _ _ => ?_)) | (with_reducible refine split_guardE (fun _ _ _ => ?_) (fun _ _ _ => ?_))) <;> (rename_i h h2 h3; simp only [h, h2, h3, hlp, wx, I, exec, resOf, reduceIte, reduceCtorEq, ne_eq, not_false_eq_true, Root.bx.injEq, Root.tm.injEq, Nat.reduceAdd, Nat.reduceBEq, Nat.reduceBNe, Nat.reduceEqDiff, Nat.reduceLT, Nat.reduceLeDiff, Nat.reduceMul, Nat.reduceSub, Int.reduceToNat, Int.reduceEq, Int.reduceBEq, Int.reduceBNe, Int.reduceLT, Int.reduceLE, if_true, if_false, Bool.false_eq_true, decide_true, decide_false, List.zipIdx_nil, bne_self_eq_false])) | ((first | (with_reducible refine split_condN (fun _ => ?_) (fun _ => ?_)) | (with_reducible refine split_condA (fun _ => ?_) (fun _ => ?_)) | (with_reducible refine split_condO (fun _ => ?_) (fun _ => ?_)) | (with_reducible refine split_cond (fun _ => ?_) (fun _ => ?_)) | (with_reducible refine split_guardN (fun _ => ?_) (fun _ => ?_)) | (with_reducible refine split_guardA (fun _ => ?_) (fun _ => ?_)) | (with_reducible refine split_guardO (fun _ => ?_) (fun _ => ?_)) | (with_reducible refine split_guard (fun _ => ?_) (fun _ => ?_))) <;> (rename_i h; simp only [h, hlp, wx, I, exec, resOf, reduceIte, reduceCtorEq, ne_eq, not_false_eq_true, Root.bx.injEq, Root.tm.injEq, Nat.reduceAdd, Nat.reduceBEq, Nat.reduceBNe, Nat.reduceEqDiff, Nat.reduceLT, Nat.reduceLeDiff, Nat.reduceMul, Nat.reduceSub, Int.reduceToNat, Int.reduceEq, Int.reduceBEq, Int.reduceBNe, Int.reduceLT, Int.reduceLE, if_true, if_false, Bool.false_eq_true, decide_true, decide_false, List.zipIdx_nil, bne_self_eq_false])))
  by_cases he : exFrom p s.exits s.exits.length 0 = 0
  · simp only [he, hc, wx, I, exec, resOf, reduceIte, reduceCtorEq, ne_eq, not_false_eq_true, Root.bx.injEq, Root.tm.injEq, Nat.reduceAdd, Nat.reduceBEq, Nat.reduceBNe, Nat.reduceEqDiff, Nat.reduceLT, Nat.reduceLeDiff, Nat.reduceMul, Nat.reduceSub, Int.reduceToNat, Int.reduceEq, Int.reduceBEq, Int.reduceBNe, Int.reduceLT, Int.reduceLE, if_true, if_false, Bool.false_eq_true, decide_true, decide_false, List.zipIdx_nil, bne_self_eq_false]
    rcases Bool.eq_false_or_eq_true ((s.exits.length : Int) == 0) with h1 | h1
    · simp only [h1, e3 h1, e2, wx, I, exec, resOf, reduceIte, reduceCtorEq, ne_eq, not_false_eq_true, Root.bx.injEq, Root.tm.injEq, Nat.reduceAdd, Nat.reduceBEq, Nat.reduceBNe, Nat.reduceEqDiff, Nat.reduceLT, Nat.reduceLeDiff, Nat.reduceMul, Nat.reduceSub, Int.reduceToNat, Int.reduceEq, Int.reduceBEq, Int.reduceBNe, Int.reduceLT, Int.reduceLE, if_true, if_false, Bool.false_eq_true, decide_true, decide_false, List.zipIdx_nil, bne_self_eq_false]
      repeat' (first | ((first | (with_reducible refine split_condE (fun _ _ _ => ?_) (fun _ _ _ => ?_)) | (with_reducible refine split_guardE (fun _ _ _ => ?_) (fun _ _ _ => ?_))) <;> (rename_i h h2 h3; simp only [h, h2, h3, pc_unless, hc, e2, unl, h1, wx, I, exec, resOf, reduceIte, reduceCtorEq, ne_eq, not_false_eq_true, Root.bx.injEq, Root.tm.injEq, Nat.reduceAdd, Nat.reduceBEq, Nat.reduceBNe, Nat.reduceEqDiff, Nat.reduceLT, Nat.reduceLeDiff, Nat.reduceMul, Nat.reduceSub, Int.reduceToNat, Int.reduceEq, Int.reduceBEq, Int.reduceBNe, Int.reduceLT, Int.reduceLE, if_true, if_false, Bool.false_eq_true, decide_true, decide_false, List.zipIdx_nil, bne_self_eq_false])) | ((first | (with_reducible refine split_condN (fun _ => ?_) (fun _ => ?_)) | (with_reducible refine split_condA (fun _ => ?_) (fun _ => ?_)) | (with_reducible refine split_condO (fun _ => ?_) (fun _ => ?_)) | (with_reducible refine split_cond (fun _ => ?_) (fun _ => ?_)) | (with_reducible refine split_guardN (fun _ => ?_) (fun _ => ?_)) | (with_reducible refine split_guardA (fun _ => ?_) (fun _ => ?_)) | (with_reducible refine split_guardO (fun _ => ?_) (fun _ => ?_)) | (with_reducible refine split_guard (fun _ => ?_) (fun _ => ?_))) <;> (rename_i h; simp only [h, pc_unless, hc, e2, unl, h1, wx, I, exec, resOf, reduceIte, reduceCtorEq, ne_eq, not_false_eq_true, Root.bx.injEq, Root.tm.injEq, Nat.reduceAdd, Nat.reduceBEq, Nat.reduceBNe, Nat.reduceEqDiff, Nat.reduceLT, Nat.reduceLeDiff, Nat.reduceMul, Nat.reduceSub, Int.reduceToNat, Int.reduceEq, Int.reduceBEq, Int.reduceBNe, Int.reduceLT, Int.reduceLE, if_true, if_false, Bool.false_eq_true, decide_true, decide_false, List.zipIdx_nil, bne_self_eq_false])))
    · simp only [h1, e2, hc, wx, I, exec, resOf, reduceIte, reduceCtorEq, ne_eq, not_false_eq_true, Root.bx.injEq, Root.tm.injEq, Nat.reduceAdd, Nat.reduceBEq, Nat.reduceBNe, Nat.reduceEqDiff, Nat.reduceLT, Nat.reduceLeDiff, Nat.reduceMul, Nat.reduceSub, Int.reduceToNat, Int.reduceEq, Int.reduceBEq, Int.reduceBNe, Int.reduceLT, Int.reduceLE, if_true, if_false, Bool.false_eq_true, decide_true, decide_false, List.zipIdx_nil, bne_self_eq_false]
      repeat' (first | ((first | (with_reducible refine split_condE (fun _ _ _ => ?_) (fun _ _ _ => ?_)) | (with_reducible refine split_guardE (fun _ _ _ => ?_) (fun _ _ _ => ?_))) <;> (rename_i h h2 h3; simp only [h, h2, h3, pc_unless, hc, e2, unl, wx, I, exec, resOf, reduceIte, reduceCtorEq, ne_eq, not_false_eq_true, Root.bx.injEq, Root.tm.injEq, Nat.reduceAdd, Nat.reduceBEq, Nat.reduceBNe, Nat.reduceEqDiff, Nat.reduceLT, Nat.reduceLeDiff, Nat.reduceMul, Nat.reduceSub, Int.reduceToNat, Int.reduceEq, Int.reduceBEq, Int.reduceBNe, Int.reduceLT, Int.reduceLE, if_true, if_false, Bool.false_eq_true, decide_true, decide_false, List.zipIdx_nil, bne_self_eq_false])) | ((first | (with_reducible refine split_condN (fun _ => ?_) (fun _ => ?_)) | (with_reducible refine split_condA (fun _ => ?_) (fun _ => ?_)) | (with_reducible refine split_condO (fun _ => ?_) (fun _ => ?_)) | (with_reducible refine split_cond (fun _ => ?_) (fun _ => ?_)) | (with_reducible refine split_guardN (fun _ => ?_) (fun _ => ?_)) | (with_reducible refine split_guardA (fun _ => ?_) (fun _ => ?_)) | (with_reducible refine split_guardO (fun _ => ?_) (fun _ => ?_)) | (with_reducible refine split_guard (fun _ => ?_) (fun _ => ?_))) <;> (rename_i h; simp only [h, pc_unless, hc, e2, unl, wx, I, exec, resOf, reduceIte, reduceCtorEq, ne_eq, not_false_eq_true, Root.bx.injEq, Root.tm.injEq, Nat.reduceAdd, Nat.reduceBEq, Nat.reduceBNe, Nat.reduceEqDiff, Nat.reduceLT, Nat.reduceLeDiff, Nat.reduceMul, Nat.reduceSub, Int.reduceToNat, Int.reduceEq, Int.reduceBEq, Int.reduceBNe, Int.reduceLT, Int.reduceLE, if_true, if_false, Bool.false_eq_true, decide_true, decide_false, List.zipIdx_nil, bne_self_eq_false])))
  · simp only [he, hc, wx, I, exec, resOf, reduceIte, reduceCtorEq, ne_eq, not_false_eq_true, Root.bx.injEq, Root.tm.injEq, Nat.reduceAdd, Nat.reduceBEq, Nat.reduceBNe, Nat.reduceEqDiff, Nat.reduceLT, Nat.reduceLeDiff, Nat.reduceMul, Nat.reduceSub, Int.reduceToNat, Int.reduceEq, Int.reduceBEq, Int.reduceBNe, Int.reduceLT, Int.reduceLE, if_true, if_false, Bool.false_eq_true, decide_true, decide_false, List.zipIdx_nil, bne_self_eq_false]

/-! ### moving steps -/
def movingE (p : Plan) (s : Step) : Int :=
  fst1 [unl (!s.safe && ((s.home == 0) && ((s.exits.length : Int) == 0))) 3, fst1 [setE p s.on, setE p s.off, setE p s.makesOn, setE p s.makesOff], unl ((band .i64 s.on s.off == 0) && (band .i64 s.makesOn s.makesOff == 0)) 13, unl (inR s.time 1 s.wait) 2, fst1 [idxE p s.next, idxE p s.back]]

theorem movingE_if (p : Plan) (s : Step) : movingE p s = if (!s.safe && ((s.home == 0) && ((s.exits.length : Int) == 0))) then (if fst1 [setE p s.on, setE p s.off, setE p s.makesOn, setE p s.makesOff] = 0 then (if ((band .i64 s.on s.off == 0) && (band .i64 s.makesOn s.makesOff == 0)) then (if inR s.time 1 s.wait then fst1 [idxE p s.next, idxE p s.back] else 2) else 13) else fst1 [setE p s.on, setE p s.off, setE p s.makesOn, setE p s.makesOff]) else 3 := by
  unfold movingE
  generalize fst1 [setE p s.on, setE p s.off, setE p s.makesOn, setE p s.makesOff] = a
  generalize fst1 [idxE p s.next, idxE p s.back] = b
  generalize (!s.safe && ((s.home == 0) && ((s.exits.length : Int) == 0))) = c
  generalize ((band .i64 s.on s.off == 0) && (band .i64 s.makesOn s.makesOff == 0)) = d
  generalize inR s.time 1 s.wait = e
  simp only [fst1, unl]
  by_cases ha : a = 0 <;> by_cases hb : b = 0 <;> cases c <;> cases d <;> cases e <;> simp [ha, hb]

theorem pc_first4 (a b c d : Int) : pc E 85 [.sl .s 1 [[I a], [I b], [I c], [I d]]] = some (I (fst1 [a, b, c, d])) := pc_first [a, b, c, d] (by simp)
theorem pc_first5 (a b c d e : Int) : pc E 85 [.sl .s 1 [[I a], [I b], [I c], [I d], [I e]]] = some (I (fst1 [a, b, c, d, e])) := pc_first [a, b, c, d, e] (by simp)
theorem pc_one2 (a b : Int) : pc E 98 [.sl .s 1 [[I a], [I b]]] = some (I (fst1 [a, b])) := pc_one [a, b] (by simp)
theorem pc_one3 (a b c : Int) : pc E 98 [.sl .s 1 [[I a], [I b], [I c]]] = some (I (fst1 [a, b, c])) := pc_one [a, b, c] (by simp)
theorem pc_one4 (a b c d : Int) : pc E 98 [.sl .s 1 [[I a], [I b], [I c], [I d]]] = some (I (fst1 [a, b, c, d])) := pc_one [a, b, c, d] (by simp)
theorem pc_set1l (p : Plan) (h : p.signals.length ≤ 60) (a : Int) : pc E 102 [.agg (cPlan p), .sl .s 1 [[I a]]] = some (I (setE p a)) := by
  have := pc_setErr p h [a] (by simp)
  simpa only [ints, List.map_cons, List.map_nil, fst1_one] using this
theorem pc_set4l (p : Plan) (h : p.signals.length ≤ 60) (a b c d : Int) : pc E 102 [.agg (cPlan p), .sl .s 1 [[I a], [I b], [I c], [I d]]] = some (I (fst1 [setE p a, setE p b, setE p c, setE p d])) := pc_setErr p h [a, b, c, d] (by simp)
theorem pc_idx1l (p : Plan) (h : p.steps.length ≤ 1000) (a : Int) : pc E 70 [.agg (cPlan p), .sl .s 1 [[I a]]] = some (I (idxE p a)) := by
  have := pc_idxErr p h [a] (by simp)
  simpa only [ints, List.map_cons, List.map_nil, fst1_one] using this
theorem pc_idx2l (p : Plan) (h : p.steps.length ≤ 1000) (a b : Int) : pc E 70 [.agg (cPlan p), .sl .s 1 [[I a], [I b]]] = some (I (fst1 [idxE p a, idxE p b])) := pc_idxErr p h [a, b] (by simp)

theorem pc_moving (p : Plan) (h : p.steps.length ≤ 1000) (h2 : p.signals.length ≤ 60) (s : Step) : pc E 130 [.agg (cPlan p), .agg (cStep s)] = some (I (movingE p s)) := by
  refine pc_code (mf := f130) rfl ?_
  rw [runF_U rfl]
  have hs := pc_set4l p h2
  have hi := pc_idx2l p h
  simp only [f130, ints, List.replicate, List.set, movingE, pc_inR, pc_unless, pc_first5, hs, hi, wx, I, exec, resOf, reduceIte, reduceCtorEq, ne_eq, not_false_eq_true, Root.bx.injEq, Root.tm.injEq, Nat.reduceAdd, Nat.reduceBEq, Nat.reduceBNe, Nat.reduceEqDiff, Nat.reduceLT, Nat.reduceLeDiff, Nat.reduceMul, Nat.reduceSub, Int.reduceToNat, Int.reduceEq, Int.reduceBEq, Int.reduceBNe, Int.reduceLT, Int.reduceLE, if_true, if_false, Bool.false_eq_true, decide_true, decide_false, List.zipIdx_nil, bne_self_eq_false]
  repeat' (first | ((first | (with_reducible refine split_condE (fun _ _ _ => ?_) (fun _ _ _ => ?_)) | (with_reducible refine split_guardE (fun _ _ _ => ?_) (fun _ _ _ => ?_))) <;> (rename_i h h2 h3; simp only [h, h2, h3, List.replicate, List.set, pc_inR, pc_unless, pc_first5, hs, hi, wx, I, exec, resOf, reduceIte, reduceCtorEq, ne_eq, not_false_eq_true, Root.bx.injEq, Root.tm.injEq, Nat.reduceAdd, Nat.reduceBEq, Nat.reduceBNe, Nat.reduceEqDiff, Nat.reduceLT, Nat.reduceLeDiff, Nat.reduceMul, Nat.reduceSub, Int.reduceToNat, Int.reduceEq, Int.reduceBEq, Int.reduceBNe, Int.reduceLT, Int.reduceLE, if_true, if_false, Bool.false_eq_true, decide_true, decide_false, List.zipIdx_nil, bne_self_eq_false])) | ((first | (with_reducible refine split_condN (fun _ => ?_) (fun _ => ?_)) | (with_reducible refine split_condA (fun _ => ?_) (fun _ => ?_)) | (with_reducible refine split_condO (fun _ => ?_) (fun _ => ?_)) | (with_reducible refine split_cond (fun _ => ?_) (fun _ => ?_)) | (with_reducible refine split_guardN (fun _ => ?_) (fun _ => ?_)) | (with_reducible refine split_guardA (fun _ => ?_) (fun _ => ?_)) | (with_reducible refine split_guardO (fun _ => ?_) (fun _ => ?_)) | (with_reducible refine split_guard (fun _ => ?_) (fun _ => ?_))) <;> (rename_i h; simp only [h, List.replicate, List.set, pc_inR, pc_unless, pc_first5, hs, hi, wx, I, exec, resOf, reduceIte, reduceCtorEq, ne_eq, not_false_eq_true, Root.bx.injEq, Root.tm.injEq, Nat.reduceAdd, Nat.reduceBEq, Nat.reduceBNe, Nat.reduceEqDiff, Nat.reduceLT, Nat.reduceLeDiff, Nat.reduceMul, Nat.reduceSub, Int.reduceToNat, Int.reduceEq, Int.reduceBEq, Int.reduceBNe, Int.reduceLT, Int.reduceLE, if_true, if_false, Bool.false_eq_true, decide_true, decide_false, List.zipIdx_nil, bne_self_eq_false])))

theorem pc_movingR (p : Plan) (h : p.steps.length ≤ 1000) (h2 : p.signals.length ≤ 60) (s : Step) : pc E 110 [.agg (cPlan p), .agg (cStep s)] = some (I (movingE p s)) := by
  refine pc_code (mf := f110) rfl ?_
  rw [runF_U rfl]
  have hs := pc_setErrR p h2
  have hi := pc_idxErrR p h
  have e1 : decide ((s.exits.length : Int) > 0) = !((s.exits.length : Int) == 0) := by
    by_cases h : s.exits.length = 0
    · simp [h]
    · have h2 : ((s.exits.length : Int) == 0) = false := by simp [h]
      rw [h2]; simp; omega
  simp only [f110, ints, List.replicate, List.set, movingE_if, pc_Within, hs, hi, bneB, pc_one4, pc_one2, wx, I, exec, resOf, reduceIte, reduceCtorEq, ne_eq, not_false_eq_true, Root.bx.injEq, Root.tm.injEq, Nat.reduceAdd, Nat.reduceBEq, Nat.reduceBNe, Nat.reduceEqDiff, Nat.reduceLT, Nat.reduceLeDiff, Nat.reduceMul, Nat.reduceSub, Int.reduceToNat, Int.reduceEq, Int.reduceBEq, Int.reduceBNe, Int.reduceLT, Int.reduceLE, if_true, if_false, Bool.false_eq_true, decide_true, decide_false, List.zipIdx_nil, bne_self_eq_false]
  repeat' (first | ((first | (with_reducible refine split_condE (fun _ _ _ => ?_) (fun _ _ _ => ?_)) | (with_reducible refine split_guardE (fun _ _ _ => ?_) (fun _ _ _ => ?_))) <;> (rename_i h h2 h3; simp only [h, h2, h3, List.replicate, List.set, pc_Within, pc_one4, pc_one2, hs, hi, e1, wx, I, exec, resOf, reduceIte, reduceCtorEq, ne_eq, not_false_eq_true, Root.bx.injEq, Root.tm.injEq, Nat.reduceAdd, Nat.reduceBEq, Nat.reduceBNe, Nat.reduceEqDiff, Nat.reduceLT, Nat.reduceLeDiff, Nat.reduceMul, Nat.reduceSub, Int.reduceToNat, Int.reduceEq, Int.reduceBEq, Int.reduceBNe, Int.reduceLT, Int.reduceLE, if_true, if_false, Bool.false_eq_true, decide_true, decide_false, List.zipIdx_nil, bne_self_eq_false])) | ((first | (with_reducible refine split_condN (fun _ => ?_) (fun _ => ?_)) | (with_reducible refine split_condA (fun _ => ?_) (fun _ => ?_)) | (with_reducible refine split_condO (fun _ => ?_) (fun _ => ?_)) | (with_reducible refine split_cond (fun _ => ?_) (fun _ => ?_)) | (with_reducible refine split_guardN (fun _ => ?_) (fun _ => ?_)) | (with_reducible refine split_guardA (fun _ => ?_) (fun _ => ?_)) | (with_reducible refine split_guardO (fun _ => ?_) (fun _ => ?_)) | (with_reducible refine split_guard (fun _ => ?_) (fun _ => ?_))) <;> (rename_i h; simp only [h, List.replicate, List.set, pc_Within, pc_one4, pc_one2, hs, hi, e1, wx, I, exec, resOf, reduceIte, reduceCtorEq, ne_eq, not_false_eq_true, Root.bx.injEq, Root.tm.injEq, Nat.reduceAdd, Nat.reduceBEq, Nat.reduceBNe, Nat.reduceEqDiff, Nat.reduceLT, Nat.reduceLeDiff, Nat.reduceMul, Nat.reduceSub, Int.reduceToNat, Int.reduceEq, Int.reduceBEq, Int.reduceBNe, Int.reduceLT, Int.reduceLE, if_true, if_false, Bool.false_eq_true, decide_true, decide_false, List.zipIdx_nil, bne_self_eq_false])))
  all_goals trace_state

end Go.ViD
end
section
/- Plans: the error of a step, and of a plan (the program's). -/
set_option linter.unusedSimpArgs false
set_option linter.unusedVariables false
namespace Go.ViD
open Go.Vi

def headE (p : Plan) (s : Step) (known : Bool) : Int := fst1 [fst1 [unl (isName s.name) 4, unl (!known) 5], setE p s.needs, idxE p s.trip]

def stepE (p : Plan) (s : Step) (known : Bool) : Int :=
  if headE p s known = 0 then (if inR s.wait 0 10000 then (if (s.wait == 0) then steadyE p s else movingE p s) else 2) else headE p s known

theorem fst1_5 (a b c d e : Int) : fst1 [a, b, c, d, e] = if fst1 [fst1 [a, b], c, d] = 0 then e else fst1 [fst1 [a, b], c, d] := by
  simp only [fst1]
  by_cases ha : a = 0 <;> by_cases hb : b = 0 <;> by_cases hc : c = 0 <;> by_cases hd : d = 0 <;> by_cases he : e = 0 <;> simp [ha, hb, hc, hd, he]

theorem pc_step (p : Plan) (h : p.steps.length ≤ 1000) (h2 : p.signals.length ≤ 60) (s : Step) (hn : s.name.size ≤ 1000) (hl : s.exits.length ≤ 1000) (known : Bool) : pc E 103 [.agg (cPlan p), .agg (cStep s), .bool known] = some (I (stepE p s known)) := by
  refine pc_code (mf := f103) rfl ?_
  rw [runF_U rfl]
  have hs := pc_set1l p h2
  have hi := pc_idx1l p h
  have hst := pc_steady p h s hl
  have hmv := pc_moving p h h2 s
  have e5 : fst1 [unl (isName s.name) 4, unl (!known) 5, setE p s.needs, idxE p s.trip, unl (inR s.wait 0 10000) 2] = if headE p s known = 0 then unl (inR s.wait 0 10000) 2 else headE p s known := fst1_5 _ _ _ _ _
  simp only [f103, List.replicate, List.set, stepE, pc_isName s.name hn, pc_inR, pc_unless, pc_first5, hs, hi, e5, wx, I, exec, resOf, reduceIte, reduceCtorEq, ne_eq, not_false_eq_true, Root.bx.injEq, Root.tm.injEq, Nat.reduceAdd, Nat.reduceBEq, Nat.reduceBNe, Nat.reduceEqDiff, Nat.reduceLT, Nat.reduceLeDiff, Nat.reduceMul, Nat.reduceSub, Int.reduceToNat, Int.reduceEq, Int.reduceBEq, Int.reduceBNe, Int.reduceLT, Int.reduceLE, if_true, if_false, Bool.false_eq_true, decide_true, decide_false, List.zipIdx_nil, bne_self_eq_false]
  by_cases h0 : headE p s known = 0
  · simp only [h0, wx, I, exec, resOf, reduceIte, reduceCtorEq, ne_eq, not_false_eq_true, Root.bx.injEq, Root.tm.injEq, Nat.reduceAdd, Nat.reduceBEq, Nat.reduceBNe, Nat.reduceEqDiff, Nat.reduceLT, Nat.reduceLeDiff, Nat.reduceMul, Nat.reduceSub, Int.reduceToNat, Int.reduceEq, Int.reduceBEq, Int.reduceBNe, Int.reduceLT, Int.reduceLE, if_true, if_false, Bool.false_eq_true, decide_true, decide_false, List.zipIdx_nil, bne_self_eq_false]
    cases h1 : inR s.wait 0 10000
    · simp only [h1, unl, wx, I, exec, resOf, reduceIte, reduceCtorEq, ne_eq, not_false_eq_true, Root.bx.injEq, Root.tm.injEq, Nat.reduceAdd, Nat.reduceBEq, Nat.reduceBNe, Nat.reduceEqDiff, Nat.reduceLT, Nat.reduceLeDiff, Nat.reduceMul, Nat.reduceSub, Int.reduceToNat, Int.reduceEq, Int.reduceBEq, Int.reduceBNe, Int.reduceLT, Int.reduceLE, if_true, if_false, Bool.false_eq_true, decide_true, decide_false, List.zipIdx_nil, bne_self_eq_false]
    · simp only [h1, unl, wx, I, exec, resOf, reduceIte, reduceCtorEq, ne_eq, not_false_eq_true, Root.bx.injEq, Root.tm.injEq, Nat.reduceAdd, Nat.reduceBEq, Nat.reduceBNe, Nat.reduceEqDiff, Nat.reduceLT, Nat.reduceLeDiff, Nat.reduceMul, Nat.reduceSub, Int.reduceToNat, Int.reduceEq, Int.reduceBEq, Int.reduceBNe, Int.reduceLT, Int.reduceLE, if_true, if_false, Bool.false_eq_true, decide_true, decide_false, List.zipIdx_nil, bne_self_eq_false]
      repeat' (first | ((first | (with_reducible refine split_condE (fun _ _ _ => ?_) (fun _ _ _ => ?_)) | (with_reducible refine split_guardE (fun _ _ _ => ?_) (fun _ _ _ => ?_))) <;> (rename_i h h2 h3; simp only [h, h2, h3, hst, hmv, wx, I, exec, resOf, reduceIte, reduceCtorEq, ne_eq, not_false_eq_true, Root.bx.injEq, Root.tm.injEq, Nat.reduceAdd, Nat.reduceBEq, Nat.reduceBNe, Nat.reduceEqDiff, Nat.reduceLT, Nat.reduceLeDiff, Nat.reduceMul, Nat.reduceSub, Int.reduceToNat, Int.reduceEq, Int.reduceBEq, Int.reduceBNe, Int.reduceLT, Int.reduceLE, if_true, if_false, Bool.false_eq_true, decide_true, decide_false, List.zipIdx_nil, bne_self_eq_false])) | ((first | (with_reducible refine split_condN (fun _ => ?_) (fun _ => ?_)) | (with_reducible refine split_condA (fun _ => ?_) (fun _ => ?_)) | (with_reducible refine split_condO (fun _ => ?_) (fun _ => ?_)) | (with_reducible refine split_cond (fun _ => ?_) (fun _ => ?_)) | (with_reducible refine split_guardN (fun _ => ?_) (fun _ => ?_)) | (with_reducible refine split_guardA (fun _ => ?_) (fun _ => ?_)) | (with_reducible refine split_guardO (fun _ => ?_) (fun _ => ?_)) | (with_reducible refine split_guard (fun _ => ?_) (fun _ => ?_))) <;> (rename_i h; simp only [h, hst, hmv, wx, I, exec, resOf, reduceIte, reduceCtorEq, ne_eq, not_false_eq_true, Root.bx.injEq, Root.tm.injEq, Nat.reduceAdd, Nat.reduceBEq, Nat.reduceBNe, Nat.reduceEqDiff, Nat.reduceLT, Nat.reduceLeDiff, Nat.reduceMul, Nat.reduceSub, Int.reduceToNat, Int.reduceEq, Int.reduceBEq, Int.reduceBNe, Int.reduceLT, Int.reduceLE, if_true, if_false, Bool.false_eq_true, decide_true, decide_false, List.zipIdx_nil, bne_self_eq_false])))
  · have h1 : (headE p s known != 0) = true := by simp [h0]
    simp only [h0, h1, wx, I, exec, resOf, reduceIte, reduceCtorEq, ne_eq, not_false_eq_true, Root.bx.injEq, Root.tm.injEq, Nat.reduceAdd, Nat.reduceBEq, Nat.reduceBNe, Nat.reduceEqDiff, Nat.reduceLT, Nat.reduceLeDiff, Nat.reduceMul, Nat.reduceSub, Int.reduceToNat, Int.reduceEq, Int.reduceBEq, Int.reduceBNe, Int.reduceLT, Int.reduceLE, if_true, if_false, Bool.false_eq_true, decide_true, decide_false, List.zipIdx_nil, bne_self_eq_false]

/-! ### the map of names -/
theorem hit_str (v n : ByteArray) (x : V) : hit false [.s] (.str v) (.str n, x) = (v.toList == n.toList) := by
  simp only [hit, leqv, cellsAg, leqs, leq1, Bool.and_true]
  cases v.toList == n.toList <;> rfl

abbrev nameMap (l : List ByteArray) : List (V × V) := l.map fun n => (.str n, .bool true)

theorem fit_names (v : ByteArray) (l : List ByteArray) : allFit false [.s] (.str v) (nameMap l) = true := by
  simp [allFit, leqv, cellsAg, leqs, leq1]

/-- Are they all different? -/
def diff (l : List ByteArray) : Prop := l.Pairwise fun a b => a.toList ≠ b.toList

theorem filt_names (v : ByteArray) : ∀ l : List ByteArray, diff l → (hasB l v = false → (nameMap l).filter (hit false [.s] (.str v)) = []) ∧ (hasB l v = true → ∃ n, (nameMap l).filter (hit false [.s] (.str v)) = [(.str n, .bool true)])
  | [], _ => by simp [hasB]
  | a :: l, hd => by
    have hd' := List.pairwise_cons.1 hd
    have ih := filt_names v l hd'.2
    simp only [nameMap, List.map_cons, List.filter_cons, hit_str] at ih ⊢
    have hc : hasB (a :: l) v = ((v.toList == a.toList) || hasB l v) := by simp only [hasB, List.any_cons]
    rw [hc]
    rcases Bool.eq_false_or_eq_true (v.toList == a.toList) with h | h
    · have hn : hasB l v = false := by
        rw [hasB, List.any_eq_false]
        intro b hb hbv
        have e1 := eq_of_beq h
        have e2 := eq_of_beq hbv
        exact hd'.1 b hb (e1.symm.trans e2)
      rw [h, if_pos rfl, ih.1 hn]
      exact ⟨fun h => by simp at h, fun _ => ⟨a, rfl⟩⟩
    · rw [h]
      simp only [Bool.false_eq_true, if_false, Bool.false_or]
      exact ih

theorem look_names (v : ByteArray) (l : List ByteArray) (hd : diff l) : lookM false [.s] (.str v) (nameMap l) = some (if hasB l v then some (.bool true) else none) := by
  have hf := filt_names v l hd
  unfold lookM
  rw [if_pos (fit_names v l)]
  cases hb : hasB l v
  · rw [hf.1 hb]; rfl
  · obtain ⟨n, hn⟩ := hf.2 hb
    rw [hn]; rfl

theorem insK_names (v : ByteArray) (x : V) : ∀ l : List ByteArray, insK (.str v, x) (nameMap l) = nameMap l ++ [(.str v, x)]
  | [] => rfl
  | a :: l => by
    simp only [nameMap, List.map_cons, insK, kless, flat, kless1, Bool.false_eq_true, if_false, List.cons_append]
    rw [← insK_names v x l]

theorem set_names (v : ByteArray) (l : List ByteArray) (hd : diff l) (hb : hasB l v = false) : setM false [.s] (.str v) (.bool true) (nameMap l) = some (nameMap (l ++ [v])) := by
  have hf := filt_names v l hd
  unfold setM
  rw [if_pos (fit_names v l), hf.1 hb]
  simp only [insK_names, nameMap, List.map_append, List.map_cons, List.map_nil]

theorem diff_snoc {l : List ByteArray} {v : ByteArray} (hd : diff l) (hb : hasB l v = false) : diff (l ++ [v]) := by
  unfold diff
  rw [List.pairwise_append]
  refine ⟨hd, by simp, fun a ha b hb' => ?_⟩
  simp only [List.mem_singleton] at hb'
  subst hb'
  rw [hasB, List.any_eq_false] at hb
  intro h
  exact hb a ha (by rw [h]; simp)

/-! ### the program's check -/
def sigFrom (l : List ByteArray) : Nat → Nat → Int
  | 0, _ => 0
  | m + 1, i => if fst1 [unl (isName (l[i]?.getD ByteArray.empty)) 4, unl (!hasB (l.take i) (l[i]?.getD ByteArray.empty)) 5] = 0 then sigFrom l m (i + 1) else fst1 [unl (isName (l[i]?.getD ByteArray.empty)) 4, unl (!hasB (l.take i) (l[i]?.getD ByteArray.empty)) 5]

def names (p : Plan) : List ByteArray := p.steps.map (·.name)

def stepsFrom (p : Plan) : List Step → Nat → Int × Int
  | [], _ => (0, 0)
  | s :: l, i => if stepE p s (hasB ((names p).take i) s.name) = 0 then stepsFrom p l (i + 1) else (i, stepE p s (hasB ((names p).take i) s.name))

theorem stepsFrom_zero (p : Plan) : ∀ (l : List Step) (i : Nat), (stepsFrom p l i).2 = 0 → stepsFrom p l i = (0, 0)
  | [], _, _ => rfl
  | s :: l, i, h => by
    simp only [stepsFrom] at h ⊢
    by_cases h1 : stepE p s (hasB ((names p).take i) s.name) = 0
    · rw [if_pos h1] at h ⊢; exact stepsFrom_zero p l (i + 1) h
    · rw [if_neg h1] at h; exact absurd h h1

theorem loop56a (p : Plan) (hl : p.signals.length ≤ 1000) (hz : ∀ s ∈ p.signals, s.size ≤ 1000) {t : List Todo} {k : Ex → St → Option V} :
    ∀ (m i : Nat), i + m = p.signals.length → U (pc E) (.c (.loop f56l0) :: t) .normal ⟨[(4, .loc 4 0), (22, .sl .s 1 (strs p.signals)), (23, I p.signals.length), (24, I i)], [(4, false, cPlan p)]⟩ k =
      if sigFrom p.signals m i = 0 then U (pc E) t (.exit 0) ⟨[(4, .loc 4 0)], [(4, false, cPlan p)]⟩ k else k .ret ⟨[(2, I 0), (3, I (sigFrom p.signals m i))], []⟩
  | 0, i, hm => by
    rw [U_loop' f56l0.eq_1]
    have h0 : ¬ ((i : Int) < (p.signals.length : Int)) := by omega
    simp only [strs, h0, sigFrom, wx, I, exec, resOf, reduceIte, reduceCtorEq, ne_eq, not_false_eq_true, Root.bx.injEq, Root.tm.injEq, Nat.reduceAdd, Nat.reduceBEq, Nat.reduceBNe, Nat.reduceEqDiff, Nat.reduceLT, Nat.reduceLeDiff, Nat.reduceMul, Nat.reduceSub, Int.reduceToNat, Int.reduceEq, Int.reduceBEq, Int.reduceBNe, Int.reduceLT, Int.reduceLE, if_true, if_false, Bool.false_eq_true, decide_true, decide_false, List.zipIdx_nil, bne_self_eq_false]
  | m + 1, i, hm => by
    rw [U_loop' f56l0.eq_1]
    have h0 : ((i : Int) < (p.signals.length : Int)) := by omega
    have hx : p.signals[i]? = some p.signals[i] := List.getElem?_eq_getElem (by omega)
    have ih := loop56a p hl hz (t := t) (k := k) m (i + 1) (by omega)
    simp only [strs] at ih
    have hw := wrap_succ (i := i) (by omega)
    have hs := pc_isName p.signals[i] (hz _ (List.getElem_mem _))
    have hc := pc_containsS (p.signals.take i) (by rw [List.length_take]; omega) p.signals[i]
    simp only [strs, List.map_take] at hc
    simp only [sigFrom]
    generalize p.signals[i] = x at hx hs hc ⊢
    have e1 : (i : Int) ≤ (p.signals.length : Int) := by omega
    simp only [strs, h0, hx, hs, hc, e1, pc_unless, pc_first2, List.replicate, List.set, wx, I, exec, resOf, reduceIte, reduceCtorEq, ne_eq, not_false_eq_true, Root.bx.injEq, Root.tm.injEq, Nat.reduceAdd, Nat.reduceBEq, Nat.reduceBNe, Nat.reduceEqDiff, Nat.reduceLT, Nat.reduceLeDiff, Nat.reduceMul, Nat.reduceSub, Int.reduceToNat, Int.reduceEq, Int.reduceBEq, Int.reduceBNe, Int.reduceLT, Int.reduceLE, if_true, if_false, Bool.false_eq_true, decide_true, decide_false, List.zipIdx_nil, bne_self_eq_false]
    repeat' (first | ((first | (with_reducible refine split_condE (fun _ _ _ => ?_) (fun _ _ _ => ?_)) | (with_reducible refine split_guardE (fun _ _ _ => ?_) (fun _ _ _ => ?_))) <;> (rename_i h h2 h3; simp only [h, h2, h3, hw, ih, wx, I, exec, resOf, reduceIte, reduceCtorEq, ne_eq, not_false_eq_true, Root.bx.injEq, Root.tm.injEq, Nat.reduceAdd, Nat.reduceBEq, Nat.reduceBNe, Nat.reduceEqDiff, Nat.reduceLT, Nat.reduceLeDiff, Nat.reduceMul, Nat.reduceSub, Int.reduceToNat, Int.reduceEq, Int.reduceBEq, Int.reduceBNe, Int.reduceLT, Int.reduceLE, if_true, if_false, Bool.false_eq_true, decide_true, decide_false, List.zipIdx_nil, bne_self_eq_false])) | ((first | (with_reducible refine split_condN (fun _ => ?_) (fun _ => ?_)) | (with_reducible refine split_condA (fun _ => ?_) (fun _ => ?_)) | (with_reducible refine split_condO (fun _ => ?_) (fun _ => ?_)) | (with_reducible refine split_cond (fun _ => ?_) (fun _ => ?_)) | (with_reducible refine split_guardN (fun _ => ?_) (fun _ => ?_)) | (with_reducible refine split_guardA (fun _ => ?_) (fun _ => ?_)) | (with_reducible refine split_guardO (fun _ => ?_) (fun _ => ?_)) | (with_reducible refine split_guard (fun _ => ?_) (fun _ => ?_))) <;> (rename_i h; simp only [h, hw, ih, wx, I, exec, resOf, reduceIte, reduceCtorEq, ne_eq, not_false_eq_true, Root.bx.injEq, Root.tm.injEq, Nat.reduceAdd, Nat.reduceBEq, Nat.reduceBNe, Nat.reduceEqDiff, Nat.reduceLT, Nat.reduceLeDiff, Nat.reduceMul, Nat.reduceSub, Int.reduceToNat, Int.reduceEq, Int.reduceBEq, Int.reduceBNe, Int.reduceLT, Int.reduceLE, if_true, if_false, Bool.false_eq_true, decide_true, decide_false, List.zipIdx_nil, bne_self_eq_false])))

theorem stepE_known (p : Plan) (s : Step) : ¬ stepE p s true = 0 := by
  have hh : ¬ headE p s true = 0 := by
    simp only [headE, unl, fst1, Bool.not_true, Bool.false_eq_true, if_false]
    cases isName s.name <;> simp
  unfold stepE
  rw [if_neg hh]
  exact hh

theorem loop56b (p : Plan) (h : p.steps.length ≤ 1000) (h2 : p.signals.length ≤ 60) (hz : ∀ s ∈ p.steps, s.name.size ≤ 1000 ∧ s.exits.length ≤ 1000) {t : List Todo} {k : Ex → St → Option V} :
    ∀ (m i : Nat), i + m = p.steps.length → diff ((names p).take i) → U (pc E) (.c (.loop f56l1) :: t) .normal ⟨[(4, .loc 4 0), (9, .mp .x (nameMap ((names p).take i))), (73, .sl .s 14 (cSteps p.steps)), (74, I p.steps.length), (75, I i)], [(4, false, cPlan p)]⟩ k =
      if (stepsFrom p (p.steps.drop i) i).2 = 0 then U (pc E) t (.exit 2) ⟨[(4, .loc 4 0)], [(4, false, cPlan p)]⟩ k else k .ret ⟨[(2, I (stepsFrom p (p.steps.drop i) i).1), (3, I (stepsFrom p (p.steps.drop i) i).2)], []⟩
  | 0, i, hm, hd => by
    rw [U_loop' f56l1.eq_1]
    have h0 : ¬ ((i : Int) < (p.steps.length : Int)) := by omega
    rw [List.drop_eq_nil_of_le (by omega)]
    simp only [cSteps, h0, stepsFrom, wx, I, exec, resOf, reduceIte, reduceCtorEq, ne_eq, not_false_eq_true, Root.bx.injEq, Root.tm.injEq, Nat.reduceAdd, Nat.reduceBEq, Nat.reduceBNe, Nat.reduceEqDiff, Nat.reduceLT, Nat.reduceLeDiff, Nat.reduceMul, Nat.reduceSub, Int.reduceToNat, Int.reduceEq, Int.reduceBEq, Int.reduceBNe, Int.reduceLT, Int.reduceLE, if_true, if_false, Bool.false_eq_true, decide_true, decide_false, List.zipIdx_nil, bne_self_eq_false]
  | m + 1, i, hm, hd => by
    rw [U_loop' f56l1.eq_1]
    have h0 : ((i : Int) < (p.steps.length : Int)) := by omega
    have hx : p.steps[i]? = some p.steps[i] := List.getElem?_eq_getElem (by omega)
    have hdr : p.steps.drop i = p.steps[i] :: p.steps.drop (i + 1) := List.drop_eq_getElem_cons (by omega)
    have ht : (names p).take (i + 1) = (names p).take i ++ [p.steps[i].name] := by
      rw [List.take_succ_eq_append_getElem (by simp [names]; omega)]
      simp [names]
    have ih := loop56b p h h2 hz (t := t) (k := k) m (i + 1) (by omega)
    rw [hdr]
    have hw := wrap_succ (i := i) (by omega)
    obtain ⟨hz1, hz2⟩ := hz p.steps[i] (List.getElem_mem _)
    generalize p.steps[i] = s at hx hz1 hz2 ht ⊢
    have hl := look_names s.name _ hd
    have hst := fun b => pc_step p h h2 s hz1 hz2 b
    have hfit : fits false [.s] (.str s.name) = true := by simp [fits, leqv, cellsAg, leqs, leq1]
    rw [ht] at ih
    simp only [stepsFrom]
    have hk : ((if hasB ((names p).take i) s.name = true then some (V.bool true) else none : Option V).getD (.bool false)) = .bool (hasB ((names p).take i) s.name) := by
      cases hasB ((names p).take i) s.name <;> rfl
    have hset : stepE p s (hasB ((names p).take i) s.name) = 0 → diff ((names p).take i ++ [s.name]) ∧ setM false [.s] (.str s.name) (.bool true) (nameMap ((names p).take i)) = some (nameMap ((names p).take i ++ [s.name])) := by
      intro h0
      have hb : hasB ((names p).take i) s.name = false := by
        cases hb : hasB ((names p).take i) s.name
        · rfl
        · rw [hb] at h0; exact absurd h0 (stepE_known p s)
      exact ⟨diff_snoc hd hb, set_names s.name _ hd hb⟩
    simp only [cSteps, h0, hx, hl, hfit, hk, hst, cStep, List.replicate, List.set, wx, I, exec, resOf, reduceIte, reduceCtorEq, ne_eq, not_false_eq_true, Root.bx.injEq, Root.tm.injEq, Nat.reduceAdd, Nat.reduceBEq, Nat.reduceBNe, Nat.reduceEqDiff, Nat.reduceLT, Nat.reduceLeDiff, Nat.reduceMul, Nat.reduceSub, Int.reduceToNat, Int.reduceEq, Int.reduceBEq, Int.reduceBNe, Int.reduceLT, Int.reduceLE, if_true, if_false, Bool.false_eq_true, decide_true, decide_false, List.zipIdx_nil, bne_self_eq_false]
    by_cases he : stepE p s (hasB ((names p).take i) s.name) = 0
    · obtain ⟨hs1, hs2⟩ := hset he
      have ih := ih hs1
      simp only [cSteps] at ih
      simp only [he, hs2, hfit, hw, ih, wx, I, exec, resOf, reduceIte, reduceCtorEq, ne_eq, not_false_eq_true, Root.bx.injEq, Root.tm.injEq, Nat.reduceAdd, Nat.reduceBEq, Nat.reduceBNe, Nat.reduceEqDiff, Nat.reduceLT, Nat.reduceLeDiff, Nat.reduceMul, Nat.reduceSub, Int.reduceToNat, Int.reduceEq, Int.reduceBEq, Int.reduceBNe, Int.reduceLT, Int.reduceLE, if_true, if_false, Bool.false_eq_true, decide_true, decide_false, List.zipIdx_nil, bne_self_eq_false]
    · have he2 : (stepE p s (hasB ((names p).take i) s.name) != 0) = true := by simp [he]
      simp only [he, he2, hw, wx, I, exec, resOf, reduceIte, reduceCtorEq, ne_eq, not_false_eq_true, Root.bx.injEq, Root.tm.injEq, Nat.reduceAdd, Nat.reduceBEq, Nat.reduceBNe, Nat.reduceEqDiff, Nat.reduceLT, Nat.reduceLeDiff, Nat.reduceMul, Nat.reduceSub, Int.reduceToNat, Int.reduceEq, Int.reduceBEq, Int.reduceBNe, Int.reduceLT, Int.reduceLE, if_true, if_false, Bool.false_eq_true, decide_true, decide_false, List.zipIdx_nil, bne_self_eq_false]

end Go.ViD
end
section
/- Plans: the error of a plan, the program's and the reference's. -/
set_option linter.unusedSimpArgs false
set_option linter.unusedVariables false
namespace Go.ViD
open Go.Vi

theorem pc_isSteady (s : Step) : pc E 72 [.agg (cStep s)] = some (.bool (s.wait == 0)) := by
  refine pc_code (mf := f72) rfl ?_
  rw [runF_U rfl]
  simp only [f72, wx, I, exec, resOf, reduceIte, reduceCtorEq, ne_eq, not_false_eq_true, Root.bx.injEq, Root.tm.injEq, Nat.reduceAdd, Nat.reduceBEq, Nat.reduceBNe, Nat.reduceEqDiff, Nat.reduceLT, Nat.reduceLeDiff, Nat.reduceMul, Nat.reduceSub, Int.reduceToNat, Int.reduceEq, Int.reduceBEq, Int.reduceBNe, Int.reduceLT, Int.reduceLE, if_true, if_false, Bool.false_eq_true, decide_true, decide_false, List.zipIdx_nil, bne_self_eq_false]

theorem pc_isSafe (s : Step) : pc E 104 [.agg (cStep s)] = some (.bool (s.safe && (s.wait == 0))) := by
  obtain ⟨nm, sf, nd, tr, wt, hm, ex, a, b, c, d, tm, nx, bk⟩ := s
  refine pc_code (mf := f104) rfl ?_
  rw [runF_U rfl]
  have hh := fun sf => pc_isSteady ⟨nm, sf, nd, tr, wt, hm, ex, a, b, c, d, tm, nx, bk⟩
  simp only [cStep] at hh
  cases sf <;> simp only [f104, hh, wx, I, exec, resOf, reduceIte, reduceCtorEq, ne_eq, not_false_eq_true, Root.bx.injEq, Root.tm.injEq, Nat.reduceAdd, Nat.reduceBEq, Nat.reduceBNe, Nat.reduceEqDiff, Nat.reduceLT, Nat.reduceLeDiff, Nat.reduceMul, Nat.reduceSub, Int.reduceToNat, Int.reduceEq, Int.reduceBEq, Int.reduceBNe, Int.reduceLT, Int.reduceLE, if_true, if_false, Bool.false_eq_true, decide_true, decide_false, List.zipIdx_nil, bne_self_eq_false]

def safe0 (p : Plan) : Bool := match p.steps with
  | [] => false
  | s :: _ => s.safe && (s.wait == 0)

def shapeE (p : Plan) : Int := fst1 [setE p p.start, unl (decide ((p.steps.length : Int) > 0)) 10, unl (decide ((p.steps.length : Int) ≤ 10)) 8]

/-- The error of a plan, with the index of a step. -/
def planE (p : Plan) : Int × Int :=
  if p.signals.length ≤ 5 then
    if sigFrom p.signals p.signals.length 0 = 0 then
      if shapeE p = 0 then
        if (stepsFrom p p.steps 0).2 = 0 then (0, unl (safe0 p) 20) else stepsFrom p p.steps 0
      else (0, shapeE p)
    else (0, sigFrom p.signals p.signals.length 0)
  else (0, 8)

theorem shape_pos {p : Plan} (h : shapeE p = 0) : ∃ s l, p.steps = s :: l := by
  cases hs : p.steps with
  | nil => simp only [shapeE, hs, List.length_nil, fst1, unl] at h; by_cases ha : setE p p.start = 0 <;> simp [ha] at h
  | cons s l => exact ⟨s, l, rfl⟩

theorem pc_checkPlan (p : Plan) (hp : few p = true) : pc E 56 [.agg (cPlan p)] = some (.tup [I (planE p).1, I (planE p).2]) := by
  obtain ⟨h1, h2, h3, h4⟩ := few_get hp
  refine pc_code (mf := f56) rfl ?_
  rw [runF_U rfl]
  have hl1 := fun t k => loop56a p (by omega) (fun s hs => by have := h3 s hs; omega) (t := t) (k := k) p.signals.length 0 (by omega)
  have hl2 := fun t k => loop56b p (by omega) (by omega) (fun s hs => by have := h4 s hs; omega) (t := t) (k := k) p.steps.length 0 (by omega) (by simp [diff])
  simp only [List.drop_zero, List.take_zero, nameMap, List.map_nil, Int.cast_ofNat_Int, strs, cSteps] at hl1 hl2
  have hs := pc_set1l p (by omega)
  have e1 : decide ((p.signals.length : Int) > 5) = !decide (p.signals.length ≤ 5) := by by_cases h : (p.signals.length : Int) > 5 <;> simp [h] <;> omega
  simp only [f56, strs, cSteps, e1, hs, wx, I, exec, resOf, reduceIte, reduceCtorEq, ne_eq, not_false_eq_true, Root.bx.injEq, Root.tm.injEq, Nat.reduceAdd, Nat.reduceBEq, Nat.reduceBNe, Nat.reduceEqDiff, Nat.reduceLT, Nat.reduceLeDiff, Nat.reduceMul, Nat.reduceSub, Int.reduceToNat, Int.reduceEq, Int.reduceBEq, Int.reduceBNe, Int.reduceLT, Int.reduceLE, if_true, if_false, Bool.false_eq_true, decide_true, decide_false, List.zipIdx_nil, bne_self_eq_false]
  unfold planE
  by_cases c1 : p.signals.length ≤ 5
  · simp only [c1, hl1, List.replicate, List.set, wx, I, exec, resOf, reduceIte, reduceCtorEq, ne_eq, not_false_eq_true, Root.bx.injEq, Root.tm.injEq, Nat.reduceAdd, Nat.reduceBEq, Nat.reduceBNe, Nat.reduceEqDiff, Nat.reduceLT, Nat.reduceLeDiff, Nat.reduceMul, Nat.reduceSub, Int.reduceToNat, Int.reduceEq, Int.reduceBEq, Int.reduceBNe, Int.reduceLT, Int.reduceLE, if_true, if_false, Bool.false_eq_true, decide_true, decide_false, List.zipIdx_nil, bne_self_eq_false]
    by_cases c2 : sigFrom p.signals p.signals.length 0 = 0
    · simp only [c2, hs, pc_unless, pc_first3, List.replicate, List.set, wx, I, exec, resOf, reduceIte, reduceCtorEq, ne_eq, not_false_eq_true, Root.bx.injEq, Root.tm.injEq, Nat.reduceAdd, Nat.reduceBEq, Nat.reduceBNe, Nat.reduceEqDiff, Nat.reduceLT, Nat.reduceLeDiff, Nat.reduceMul, Nat.reduceSub, Int.reduceToNat, Int.reduceEq, Int.reduceBEq, Int.reduceBNe, Int.reduceLT, Int.reduceLE, if_true, if_false, Bool.false_eq_true, decide_true, decide_false, List.zipIdx_nil, bne_self_eq_false]
      have e3 : fst1 [setE p p.start, unl (decide ((p.steps.length : Int) > 0)) 10, unl (decide ((p.steps.length : Int) ≤ 10)) 8] = shapeE p := rfl
      rw [e3]
      by_cases c3 : shapeE p = 0
      · simp only [c3, hl2, wx, I, exec, resOf, reduceIte, reduceCtorEq, ne_eq, not_false_eq_true, Root.bx.injEq, Root.tm.injEq, Nat.reduceAdd, Nat.reduceBEq, Nat.reduceBNe, Nat.reduceEqDiff, Nat.reduceLT, Nat.reduceLeDiff, Nat.reduceMul, Nat.reduceSub, Int.reduceToNat, Int.reduceEq, Int.reduceBEq, Int.reduceBNe, Int.reduceLT, Int.reduceLE, if_true, if_false, Bool.false_eq_true, decide_true, decide_false, List.zipIdx_nil, bne_self_eq_false]
        by_cases c4 : (stepsFrom p p.steps 0).2 = 0
        · obtain ⟨s0, l0, hsl⟩ := shape_pos c3
          have hsf := pc_isSafe s0
          have hx : p.steps[0]? = some s0 := by rw [hsl]; rfl
          have hs0 : safe0 p = (s0.safe && (s0.wait == 0)) := by unfold safe0; rw [hsl]
          simp only [c4, hx, hsf, pc_unless, hs0, cStep, Int.toNat_zero, wx, I, exec, resOf, reduceIte, reduceCtorEq, ne_eq, not_false_eq_true, Root.bx.injEq, Root.tm.injEq, Nat.reduceAdd, Nat.reduceBEq, Nat.reduceBNe, Nat.reduceEqDiff, Nat.reduceLT, Nat.reduceLeDiff, Nat.reduceMul, Nat.reduceSub, Int.reduceToNat, Int.reduceEq, Int.reduceBEq, Int.reduceBNe, Int.reduceLT, Int.reduceLE, if_true, if_false, Bool.false_eq_true, decide_true, decide_false, List.zipIdx_nil, bne_self_eq_false]
        · simp only [c4, wx, I, exec, resOf, reduceIte, reduceCtorEq, ne_eq, not_false_eq_true, Root.bx.injEq, Root.tm.injEq, Nat.reduceAdd, Nat.reduceBEq, Nat.reduceBNe, Nat.reduceEqDiff, Nat.reduceLT, Nat.reduceLeDiff, Nat.reduceMul, Nat.reduceSub, Int.reduceToNat, Int.reduceEq, Int.reduceBEq, Int.reduceBNe, Int.reduceLT, Int.reduceLE, if_true, if_false, Bool.false_eq_true, decide_true, decide_false, List.zipIdx_nil, bne_self_eq_false]
      · have c3' : (shapeE p != 0) = true := by simp [c3]
        simp only [c3, c3', wx, I, exec, resOf, reduceIte, reduceCtorEq, ne_eq, not_false_eq_true, Root.bx.injEq, Root.tm.injEq, Nat.reduceAdd, Nat.reduceBEq, Nat.reduceBNe, Nat.reduceEqDiff, Nat.reduceLT, Nat.reduceLeDiff, Nat.reduceMul, Nat.reduceSub, Int.reduceToNat, Int.reduceEq, Int.reduceBEq, Int.reduceBNe, Int.reduceLT, Int.reduceLE, if_true, if_false, Bool.false_eq_true, decide_true, decide_false, List.zipIdx_nil, bne_self_eq_false]
    · simp only [c2, wx, I, exec, resOf, reduceIte, reduceCtorEq, ne_eq, not_false_eq_true, Root.bx.injEq, Root.tm.injEq, Nat.reduceAdd, Nat.reduceBEq, Nat.reduceBNe, Nat.reduceEqDiff, Nat.reduceLT, Nat.reduceLeDiff, Nat.reduceMul, Nat.reduceSub, Int.reduceToNat, Int.reduceEq, Int.reduceBEq, Int.reduceBNe, Int.reduceLT, Int.reduceLE, if_true, if_false, Bool.false_eq_true, decide_true, decide_false, List.zipIdx_nil, bne_self_eq_false]
  · simp only [c1, wx, I, exec, resOf, reduceIte, reduceCtorEq, ne_eq, not_false_eq_true, Root.bx.injEq, Root.tm.injEq, Nat.reduceAdd, Nat.reduceBEq, Nat.reduceBNe, Nat.reduceEqDiff, Nat.reduceLT, Nat.reduceLeDiff, Nat.reduceMul, Nat.reduceSub, Int.reduceToNat, Int.reduceEq, Int.reduceBEq, Int.reduceBNe, Int.reduceLT, Int.reduceLE, if_true, if_false, Bool.false_eq_true, decide_true, decide_false, List.zipIdx_nil, bne_self_eq_false]

/-! ### the reference's check -/
theorem loop60a (p : Plan) (hl : p.signals.length ≤ 1000) (hz : ∀ s ∈ p.signals, s.size ≤ 1000) {t : List Todo} {k : Ex → St → Option V} :
    ∀ (m i : Nat), i + m = p.signals.length → U (pc E) (.c (.loop f60l0) :: t) .normal ⟨[(1, .loc 1 0), (4, I i)], [(1, false, cPlan p)]⟩ k =
      if sigFrom p.signals m i = 0 then U (pc E) t (.exit 0) ⟨[(1, .loc 1 0)], [(1, false, cPlan p)]⟩ k else k .ret ⟨[(2, I 0), (3, I (sigFrom p.signals m i))], []⟩
  | 0, i, hm => by
    rw [U_loop' f60l0.eq_1]
    have h0 : ¬ ((i : Int) < (p.signals.length : Int)) := by omega
    simp only [strs, h0, sigFrom, wx, I, exec, resOf, reduceIte, reduceCtorEq, ne_eq, not_false_eq_true, Root.bx.injEq, Root.tm.injEq, Nat.reduceAdd, Nat.reduceBEq, Nat.reduceBNe, Nat.reduceEqDiff, Nat.reduceLT, Nat.reduceLeDiff, Nat.reduceMul, Nat.reduceSub, Int.reduceToNat, Int.reduceEq, Int.reduceBEq, Int.reduceBNe, Int.reduceLT, Int.reduceLE, if_true, if_false, Bool.false_eq_true, decide_true, decide_false, List.zipIdx_nil, bne_self_eq_false]
  | m + 1, i, hm => by
    rw [U_loop' f60l0.eq_1]
    have h0 : ((i : Int) < (p.signals.length : Int)) := by omega
    have hx : p.signals[i]? = some p.signals[i] := List.getElem?_eq_getElem (by omega)
    have ih := loop60a p hl hz (t := t) (k := k) m (i + 1) (by omega)
    have hw := wrap_succ (i := i) (by omega)
    have hc := pc_nameErr (p.signals.take i) (by rw [List.length_take]; omega) p.signals[i] (hz _ (List.getElem_mem _))
    simp only [strs, List.map_take] at hc
    simp only [sigFrom]
    generalize p.signals[i] = x at hx hc ⊢
    have e1 : (i : Int) ≤ (p.signals.length : Int) := by omega
    simp only [strs, h0, hx, hc, e1, wx, I, exec, resOf, reduceIte, reduceCtorEq, ne_eq, not_false_eq_true, Root.bx.injEq, Root.tm.injEq, Nat.reduceAdd, Nat.reduceBEq, Nat.reduceBNe, Nat.reduceEqDiff, Nat.reduceLT, Nat.reduceLeDiff, Nat.reduceMul, Nat.reduceSub, Int.reduceToNat, Int.reduceEq, Int.reduceBEq, Int.reduceBNe, Int.reduceLT, Int.reduceLE, if_true, if_false, Bool.false_eq_true, decide_true, decide_false, List.zipIdx_nil, bne_self_eq_false]
    repeat' (first | ((first | (with_reducible refine split_condE (fun _ _ _ => ?_) (fun _ _ _ => ?_)) | (with_reducible refine split_guardE (fun _ _ _ => ?_) (fun _ _ _ => ?_))) <;> (rename_i h h2 h3; simp only [h, h2, h3, hw, ih, wx, I, exec, resOf, reduceIte, reduceCtorEq, ne_eq, not_false_eq_true, Root.bx.injEq, Root.tm.injEq, Nat.reduceAdd, Nat.reduceBEq, Nat.reduceBNe, Nat.reduceEqDiff, Nat.reduceLT, Nat.reduceLeDiff, Nat.reduceMul, Nat.reduceSub, Int.reduceToNat, Int.reduceEq, Int.reduceBEq, Int.reduceBNe, Int.reduceLT, Int.reduceLE, if_true, if_false, Bool.false_eq_true, decide_true, decide_false, List.zipIdx_nil, bne_self_eq_false])) | ((first | (with_reducible refine split_condN (fun _ => ?_) (fun _ => ?_)) | (with_reducible refine split_condA (fun _ => ?_) (fun _ => ?_)) | (with_reducible refine split_condO (fun _ => ?_) (fun _ => ?_)) | (with_reducible refine split_cond (fun _ => ?_) (fun _ => ?_)) | (with_reducible refine split_guardN (fun _ => ?_) (fun _ => ?_)) | (with_reducible refine split_guardA (fun _ => ?_) (fun _ => ?_)) | (with_reducible refine split_guardO (fun _ => ?_) (fun _ => ?_)) | (with_reducible refine split_guard (fun _ => ?_) (fun _ => ?_))) <;> (rename_i h; simp only [h, hw, ih, wx, I, exec, resOf, reduceIte, reduceCtorEq, ne_eq, not_false_eq_true, Root.bx.injEq, Root.tm.injEq, Nat.reduceAdd, Nat.reduceBEq, Nat.reduceBNe, Nat.reduceEqDiff, Nat.reduceLT, Nat.reduceLeDiff, Nat.reduceMul, Nat.reduceSub, Int.reduceToNat, Int.reduceEq, Int.reduceBEq, Int.reduceBNe, Int.reduceLT, Int.reduceLE, if_true, if_false, Bool.false_eq_true, decide_true, decide_false, List.zipIdx_nil, bne_self_eq_false])))

theorem pc_pl {p : Plan} : cPlan p = [.sl .s 1 (strs p.signals), I p.start, .sl .s 14 (cSteps p.steps)] := rfl

theorem loop60b (p : Plan) (h : p.steps.length ≤ 1000) (h2 : p.signals.length ≤ 60) (hz : ∀ s ∈ p.steps, s.name.size ≤ 1000 ∧ s.exits.length ≤ 1000) {t : List Todo} {k : Ex → St → Option V} :
    ∀ (m i : Nat), i + m = p.steps.length → U (pc E) (.c (.loop f60l1) :: t) .normal ⟨[(1, .loc 1 0), (7, .sl .a 1 (strs ((names p).take i))), (8, I i)], [(1, false, cPlan p)]⟩ k =
      if (stepsFrom p (p.steps.drop i) i).2 = 0 then U (pc E) t (.exit 2) ⟨[(1, .loc 1 0)], [(1, false, cPlan p)]⟩ k else k .ret ⟨[(2, I (stepsFrom p (p.steps.drop i) i).1), (3, I (stepsFrom p (p.steps.drop i) i).2)], []⟩
  | 0, i, hm => by
    rw [U_loop' f60l1.eq_1]
    have h0 : ¬ ((i : Int) < (p.steps.length : Int)) := by omega
    rw [List.drop_eq_nil_of_le (by omega)]
    simp only [cSteps, h0, stepsFrom, wx, I, exec, resOf, reduceIte, reduceCtorEq, ne_eq, not_false_eq_true, Root.bx.injEq, Root.tm.injEq, Nat.reduceAdd, Nat.reduceBEq, Nat.reduceBNe, Nat.reduceEqDiff, Nat.reduceLT, Nat.reduceLeDiff, Nat.reduceMul, Nat.reduceSub, Int.reduceToNat, Int.reduceEq, Int.reduceBEq, Int.reduceBNe, Int.reduceLT, Int.reduceLE, if_true, if_false, Bool.false_eq_true, decide_true, decide_false, List.zipIdx_nil, bne_self_eq_false]
  | m + 1, i, hm => by
    rw [U_loop' f60l1.eq_1]
    have h0 : ((i : Int) < (p.steps.length : Int)) := by omega
    have hx : p.steps[i]? = some p.steps[i] := List.getElem?_eq_getElem (by omega)
    have hdr : p.steps.drop i = p.steps[i] :: p.steps.drop (i + 1) := List.drop_eq_getElem_cons (by omega)
    have ht : (names p).take (i + 1) = (names p).take i ++ [p.steps[i].name] := by
      rw [List.take_succ_eq_append_getElem (by simp [names]; omega)]
      simp [names]
    have ih := loop60b p h h2 hz (t := t) (k := k) m (i + 1) (by omega)
    rw [hdr]
    have hw := wrap_succ (i := i) (by omega)
    obtain ⟨hz1, hz2⟩ := hz p.steps[i] (List.getElem_mem _)
    generalize p.steps[i] = s at hx hz1 hz2 ht ⊢
    have hlen : ((names p).take i).length = i := by simp [names]; omega
    have hn := pc_nameErr ((names p).take i) (by omega) s.name hz1
    have hs := pc_setErrR p h2
    have hi := pc_idxErrR p h
    have hst := pc_steadyR p h s hz2
    have hmv := pc_movingR p h h2 s
    have hr : room (i + 1) 16 = true := room_ok (by omega) (by omega)
    rw [ht] at ih
    simp only [strs, List.map_append, List.map_cons, List.map_nil] at ih
    simp only [strs] at hn
    simp only [stepsFrom]
    have e1 : fst1 [fst1 [unl (isName s.name) 4, unl (!hasB ((names p).take i) s.name) 5], setE p s.needs, idxE p s.trip] = headE p s (hasB ((names p).take i) s.name) := rfl
    have e2 : ∀ v : Int, (v = 0 → (v == 0) = true) ∧ (¬ v = 0 → (v == 0) = false) ∧ (¬ v = 0 → (v != 0) = true) := fun v => ⟨fun h => by simp [h], fun h => by simp [h], fun h => by simp [h]⟩
    simp only [strs, cSteps, h0, hx, hn, hs, hi, pc_one3, e1, cStep, List.replicate, List.set, wx, I, exec, resOf, reduceIte, reduceCtorEq, ne_eq, not_false_eq_true, Root.bx.injEq, Root.tm.injEq, Nat.reduceAdd, Nat.reduceBEq, Nat.reduceBNe, Nat.reduceEqDiff, Nat.reduceLT, Nat.reduceLeDiff, Nat.reduceMul, Nat.reduceSub, Int.reduceToNat, Int.reduceEq, Int.reduceBEq, Int.reduceBNe, Int.reduceLT, Int.reduceLE, if_true, if_false, Bool.false_eq_true, decide_true, decide_false, List.zipIdx_nil, bne_self_eq_false]
    unfold stepE
    by_cases c1 : headE p s (hasB ((names p).take i) s.name) = 0
    · simp only [c1, pc_Within, wx, I, exec, resOf, reduceIte, reduceCtorEq, ne_eq, not_false_eq_true, Root.bx.injEq, Root.tm.injEq, Nat.reduceAdd, Nat.reduceBEq, Nat.reduceBNe, Nat.reduceEqDiff, Nat.reduceLT, Nat.reduceLeDiff, Nat.reduceMul, Nat.reduceSub, Int.reduceToNat, Int.reduceEq, Int.reduceBEq, Int.reduceBNe, Int.reduceLT, Int.reduceLE, if_true, if_false, Bool.false_eq_true, decide_true, decide_false, List.zipIdx_nil, bne_self_eq_false]
      cases c2 : inR s.wait 0 10000
      · simp only [c2, wx, I, exec, resOf, reduceIte, reduceCtorEq, ne_eq, not_false_eq_true, Root.bx.injEq, Root.tm.injEq, Nat.reduceAdd, Nat.reduceBEq, Nat.reduceBNe, Nat.reduceEqDiff, Nat.reduceLT, Nat.reduceLeDiff, Nat.reduceMul, Nat.reduceSub, Int.reduceToNat, Int.reduceEq, Int.reduceBEq, Int.reduceBNe, Int.reduceLT, Int.reduceLE, if_true, if_false, Bool.false_eq_true, decide_true, decide_false, List.zipIdx_nil, bne_self_eq_false]
      · simp only [c2, wx, I, exec, resOf, reduceIte, reduceCtorEq, ne_eq, not_false_eq_true, Root.bx.injEq, Root.tm.injEq, Nat.reduceAdd, Nat.reduceBEq, Nat.reduceBNe, Nat.reduceEqDiff, Nat.reduceLT, Nat.reduceLeDiff, Nat.reduceMul, Nat.reduceSub, Int.reduceToNat, Int.reduceEq, Int.reduceBEq, Int.reduceBNe, Int.reduceLT, Int.reduceLE, if_true, if_false, Bool.false_eq_true, decide_true, decide_false, List.zipIdx_nil, bne_self_eq_false]
        cases c3 : (s.wait == 0)
        · simp only [c3, hmv, wx, I, exec, resOf, reduceIte, reduceCtorEq, ne_eq, not_false_eq_true, Root.bx.injEq, Root.tm.injEq, Nat.reduceAdd, Nat.reduceBEq, Nat.reduceBNe, Nat.reduceEqDiff, Nat.reduceLT, Nat.reduceLeDiff, Nat.reduceMul, Nat.reduceSub, Int.reduceToNat, Int.reduceEq, Int.reduceBEq, Int.reduceBNe, Int.reduceLT, Int.reduceLE, if_true, if_false, Bool.false_eq_true, decide_true, decide_false, List.zipIdx_nil, bne_self_eq_false]
          by_cases c4 : movingE p s = 0
          · simp only [c4, hr, hlen, hw, ih, List.length_map, List.replicate, List.set, wx, I, exec, resOf, reduceIte, reduceCtorEq, ne_eq, not_false_eq_true, Root.bx.injEq, Root.tm.injEq, Nat.reduceAdd, Nat.reduceBEq, Nat.reduceBNe, Nat.reduceEqDiff, Nat.reduceLT, Nat.reduceLeDiff, Nat.reduceMul, Nat.reduceSub, Int.reduceToNat, Int.reduceEq, Int.reduceBEq, Int.reduceBNe, Int.reduceLT, Int.reduceLE, if_true, if_false, Bool.false_eq_true, decide_true, decide_false, List.zipIdx_nil, bne_self_eq_false]
          · simp only [c4, (e2 _).2.2 c4, wx, I, exec, resOf, reduceIte, reduceCtorEq, ne_eq, not_false_eq_true, Root.bx.injEq, Root.tm.injEq, Nat.reduceAdd, Nat.reduceBEq, Nat.reduceBNe, Nat.reduceEqDiff, Nat.reduceLT, Nat.reduceLeDiff, Nat.reduceMul, Nat.reduceSub, Int.reduceToNat, Int.reduceEq, Int.reduceBEq, Int.reduceBNe, Int.reduceLT, Int.reduceLE, if_true, if_false, Bool.false_eq_true, decide_true, decide_false, List.zipIdx_nil, bne_self_eq_false]
        · simp only [c3, hst, wx, I, exec, resOf, reduceIte, reduceCtorEq, ne_eq, not_false_eq_true, Root.bx.injEq, Root.tm.injEq, Nat.reduceAdd, Nat.reduceBEq, Nat.reduceBNe, Nat.reduceEqDiff, Nat.reduceLT, Nat.reduceLeDiff, Nat.reduceMul, Nat.reduceSub, Int.reduceToNat, Int.reduceEq, Int.reduceBEq, Int.reduceBNe, Int.reduceLT, Int.reduceLE, if_true, if_false, Bool.false_eq_true, decide_true, decide_false, List.zipIdx_nil, bne_self_eq_false]
          by_cases c4 : steadyE p s = 0
          · simp only [c4, hr, hlen, hw, ih, List.length_map, List.replicate, List.set, wx, I, exec, resOf, reduceIte, reduceCtorEq, ne_eq, not_false_eq_true, Root.bx.injEq, Root.tm.injEq, Nat.reduceAdd, Nat.reduceBEq, Nat.reduceBNe, Nat.reduceEqDiff, Nat.reduceLT, Nat.reduceLeDiff, Nat.reduceMul, Nat.reduceSub, Int.reduceToNat, Int.reduceEq, Int.reduceBEq, Int.reduceBNe, Int.reduceLT, Int.reduceLE, if_true, if_false, Bool.false_eq_true, decide_true, decide_false, List.zipIdx_nil, bne_self_eq_false]
          · simp only [c4, (e2 _).2.2 c4, wx, I, exec, resOf, reduceIte, reduceCtorEq, ne_eq, not_false_eq_true, Root.bx.injEq, Root.tm.injEq, Nat.reduceAdd, Nat.reduceBEq, Nat.reduceBNe, Nat.reduceEqDiff, Nat.reduceLT, Nat.reduceLeDiff, Nat.reduceMul, Nat.reduceSub, Int.reduceToNat, Int.reduceEq, Int.reduceBEq, Int.reduceBNe, Int.reduceLT, Int.reduceLE, if_true, if_false, Bool.false_eq_true, decide_true, decide_false, List.zipIdx_nil, bne_self_eq_false]
    · simp only [c1, (e2 _).2.1 c1, (e2 _).2.2 c1, wx, I, exec, resOf, reduceIte, reduceCtorEq, ne_eq, not_false_eq_true, Root.bx.injEq, Root.tm.injEq, Nat.reduceAdd, Nat.reduceBEq, Nat.reduceBNe, Nat.reduceEqDiff, Nat.reduceLT, Nat.reduceLeDiff, Nat.reduceMul, Nat.reduceSub, Int.reduceToNat, Int.reduceEq, Int.reduceBEq, Int.reduceBNe, Int.reduceLT, Int.reduceLE, if_true, if_false, Bool.false_eq_true, decide_true, decide_false, List.zipIdx_nil, bne_self_eq_false]

theorem pc_checkPlanR (p : Plan) (hp : few p = true) : pc E 60 [.agg (cPlan p)] = some (.tup [I (planE p).1, I (planE p).2]) := by
  obtain ⟨h1, h2, h3, h4⟩ := few_get hp
  refine pc_code (mf := f60) rfl ?_
  rw [runF_U rfl]
  have hl1 := fun t k => loop60a p (by omega) (fun s hs => by have := h3 s hs; omega) (t := t) (k := k) p.signals.length 0 (by omega)
  have hl2 := fun t k => loop60b p (by omega) (by omega) (fun s hs => by have := h4 s hs; omega) (t := t) (k := k) p.steps.length 0 (by omega)
  simp only [List.drop_zero, List.take_zero, strs, List.map_nil, Int.cast_ofNat_Int] at hl1 hl2
  have hs := pc_setErrR p (by omega)
  have e1 : decide ((p.signals.length : Int) > 5) = !decide (p.signals.length ≤ 5) := by by_cases h : (p.signals.length : Int) > 5 <;> simp [h] <;> omega
  have e2 : decide ((p.steps.length : Int) > 10) = !decide ((p.steps.length : Int) ≤ 10) := by by_cases h : (p.steps.length : Int) > 10 <;> simp [h] <;> omega
  simp only [f60, strs, e1, wx, I, exec, resOf, reduceIte, reduceCtorEq, ne_eq, not_false_eq_true, Root.bx.injEq, Root.tm.injEq, Nat.reduceAdd, Nat.reduceBEq, Nat.reduceBNe, Nat.reduceEqDiff, Nat.reduceLT, Nat.reduceLeDiff, Nat.reduceMul, Nat.reduceSub, Int.reduceToNat, Int.reduceEq, Int.reduceBEq, Int.reduceBNe, Int.reduceLT, Int.reduceLE, if_true, if_false, Bool.false_eq_true, decide_true, decide_false, List.zipIdx_nil, bne_self_eq_false]
  unfold planE
  by_cases c1 : p.signals.length ≤ 5
  · simp only [c1, hl1, wx, I, exec, resOf, reduceIte, reduceCtorEq, ne_eq, not_false_eq_true, Root.bx.injEq, Root.tm.injEq, Nat.reduceAdd, Nat.reduceBEq, Nat.reduceBNe, Nat.reduceEqDiff, Nat.reduceLT, Nat.reduceLeDiff, Nat.reduceMul, Nat.reduceSub, Int.reduceToNat, Int.reduceEq, Int.reduceBEq, Int.reduceBNe, Int.reduceLT, Int.reduceLE, if_true, if_false, Bool.false_eq_true, decide_true, decide_false, List.zipIdx_nil, bne_self_eq_false]
    by_cases c2 : sigFrom p.signals p.signals.length 0 = 0
    · simp only [c2, hs, wx, I, exec, resOf, reduceIte, reduceCtorEq, ne_eq, not_false_eq_true, Root.bx.injEq, Root.tm.injEq, Nat.reduceAdd, Nat.reduceBEq, Nat.reduceBNe, Nat.reduceEqDiff, Nat.reduceLT, Nat.reduceLeDiff, Nat.reduceMul, Nat.reduceSub, Int.reduceToNat, Int.reduceEq, Int.reduceBEq, Int.reduceBNe, Int.reduceLT, Int.reduceLE, if_true, if_false, Bool.false_eq_true, decide_true, decide_false, List.zipIdx_nil, bne_self_eq_false]
      unfold shapeE
      by_cases c3 : setE p p.start = 0
      · simp only [c3, cSteps, fst1, wx, I, exec, resOf, reduceIte, reduceCtorEq, ne_eq, not_false_eq_true, Root.bx.injEq, Root.tm.injEq, Nat.reduceAdd, Nat.reduceBEq, Nat.reduceBNe, Nat.reduceEqDiff, Nat.reduceLT, Nat.reduceLeDiff, Nat.reduceMul, Nat.reduceSub, Int.reduceToNat, Int.reduceEq, Int.reduceBEq, Int.reduceBNe, Int.reduceLT, Int.reduceLE, if_true, if_false, Bool.false_eq_true, decide_true, decide_false, List.zipIdx_nil, bne_self_eq_false]
        cases hsl : p.steps with
        | nil => simp only [unl, List.length_nil, show decide ((0 : Int) > 0) = false from rfl, wx, I, exec, resOf, reduceIte, reduceCtorEq, ne_eq, not_false_eq_true, Root.bx.injEq, Root.tm.injEq, Nat.reduceAdd, Nat.reduceBEq, Nat.reduceBNe, Nat.reduceEqDiff, Nat.reduceLT, Nat.reduceLeDiff, Nat.reduceMul, Nat.reduceSub, Int.reduceToNat, Int.reduceEq, Int.reduceBEq, Int.reduceBNe, Int.reduceLT, Int.reduceLE, if_true, if_false, Bool.false_eq_true, decide_true, decide_false, List.zipIdx_nil, bne_self_eq_false]
        | cons s0 l0 =>
          have hx : p.steps[0]? = some s0 := by rw [hsl]; rfl
          have hs0 : safe0 p = (s0.safe && (s0.wait == 0)) := by unfold safe0; rw [hsl]
          rw [← hsl]
          have e3 : decide ((p.steps.length : Int) > 0) = true := by rw [hsl]; simp
          have e4 : ((p.steps.length : Int) == 0) = false := by rw [hsl]; simp; omega
          simp only [e2, e3, e4, unl, wx, I, exec, resOf, reduceIte, reduceCtorEq, ne_eq, not_false_eq_true, Root.bx.injEq, Root.tm.injEq, Nat.reduceAdd, Nat.reduceBEq, Nat.reduceBNe, Nat.reduceEqDiff, Nat.reduceLT, Nat.reduceLeDiff, Nat.reduceMul, Nat.reduceSub, Int.reduceToNat, Int.reduceEq, Int.reduceBEq, Int.reduceBNe, Int.reduceLT, Int.reduceLE, if_true, if_false, Bool.false_eq_true, decide_true, decide_false, List.zipIdx_nil, bne_self_eq_false]
          by_cases c5 : (p.steps.length : Int) ≤ 10
          · simp only [c5, hl2, wx, I, exec, resOf, reduceIte, reduceCtorEq, ne_eq, not_false_eq_true, Root.bx.injEq, Root.tm.injEq, Nat.reduceAdd, Nat.reduceBEq, Nat.reduceBNe, Nat.reduceEqDiff, Nat.reduceLT, Nat.reduceLeDiff, Nat.reduceMul, Nat.reduceSub, Int.reduceToNat, Int.reduceEq, Int.reduceBEq, Int.reduceBNe, Int.reduceLT, Int.reduceLE, if_true, if_false, Bool.false_eq_true, decide_true, decide_false, List.zipIdx_nil, bne_self_eq_false]
            by_cases c4 : (stepsFrom p p.steps 0).2 = 0
            · simp only [c4, hx, hs0, cStep, cSteps, bneB, Int.toNat_zero, wx, I, exec, resOf, reduceIte, reduceCtorEq, ne_eq, not_false_eq_true, Root.bx.injEq, Root.tm.injEq, Nat.reduceAdd, Nat.reduceBEq, Nat.reduceBNe, Nat.reduceEqDiff, Nat.reduceLT, Nat.reduceLeDiff, Nat.reduceMul, Nat.reduceSub, Int.reduceToNat, Int.reduceEq, Int.reduceBEq, Int.reduceBNe, Int.reduceLT, Int.reduceLE, if_true, if_false, Bool.false_eq_true, decide_true, decide_false, List.zipIdx_nil, bne_self_eq_false]
              repeat' (first | ((first | (with_reducible refine split_condE (fun _ _ _ => ?_) (fun _ _ _ => ?_)) | (with_reducible refine split_guardE (fun _ _ _ => ?_) (fun _ _ _ => ?_))) <;> (rename_i h h2 h3; simp only [h, h2, h3, hx, Int.toNat_zero, wx, I, exec, resOf, reduceIte, reduceCtorEq, ne_eq, not_false_eq_true, Root.bx.injEq, Root.tm.injEq, Nat.reduceAdd, Nat.reduceBEq, Nat.reduceBNe, Nat.reduceEqDiff, Nat.reduceLT, Nat.reduceLeDiff, Nat.reduceMul, Nat.reduceSub, Int.reduceToNat, Int.reduceEq, Int.reduceBEq, Int.reduceBNe, Int.reduceLT, Int.reduceLE, if_true, if_false, Bool.false_eq_true, decide_true, decide_false, List.zipIdx_nil, bne_self_eq_false])) | ((first | (with_reducible refine split_condN (fun _ => ?_) (fun _ => ?_)) | (with_reducible refine split_condA (fun _ => ?_) (fun _ => ?_)) | (with_reducible refine split_condO (fun _ => ?_) (fun _ => ?_)) | (with_reducible refine split_cond (fun _ => ?_) (fun _ => ?_)) | (with_reducible refine split_guardN (fun _ => ?_) (fun _ => ?_)) | (with_reducible refine split_guardA (fun _ => ?_) (fun _ => ?_)) | (with_reducible refine split_guardO (fun _ => ?_) (fun _ => ?_)) | (with_reducible refine split_guard (fun _ => ?_) (fun _ => ?_))) <;> (rename_i h; simp only [h, hx, Int.toNat_zero, wx, I, exec, resOf, reduceIte, reduceCtorEq, ne_eq, not_false_eq_true, Root.bx.injEq, Root.tm.injEq, Nat.reduceAdd, Nat.reduceBEq, Nat.reduceBNe, Nat.reduceEqDiff, Nat.reduceLT, Nat.reduceLeDiff, Nat.reduceMul, Nat.reduceSub, Int.reduceToNat, Int.reduceEq, Int.reduceBEq, Int.reduceBNe, Int.reduceLT, Int.reduceLE, if_true, if_false, Bool.false_eq_true, decide_true, decide_false, List.zipIdx_nil, bne_self_eq_false])))
            · simp only [c4, wx, I, exec, resOf, reduceIte, reduceCtorEq, ne_eq, not_false_eq_true, Root.bx.injEq, Root.tm.injEq, Nat.reduceAdd, Nat.reduceBEq, Nat.reduceBNe, Nat.reduceEqDiff, Nat.reduceLT, Nat.reduceLeDiff, Nat.reduceMul, Nat.reduceSub, Int.reduceToNat, Int.reduceEq, Int.reduceBEq, Int.reduceBNe, Int.reduceLT, Int.reduceLE, if_true, if_false, Bool.false_eq_true, decide_true, decide_false, List.zipIdx_nil, bne_self_eq_false]
          · simp only [c5, wx, I, exec, resOf, reduceIte, reduceCtorEq, ne_eq, not_false_eq_true, Root.bx.injEq, Root.tm.injEq, Nat.reduceAdd, Nat.reduceBEq, Nat.reduceBNe, Nat.reduceEqDiff, Nat.reduceLT, Nat.reduceLeDiff, Nat.reduceMul, Nat.reduceSub, Int.reduceToNat, Int.reduceEq, Int.reduceBEq, Int.reduceBNe, Int.reduceLT, Int.reduceLE, if_true, if_false, Bool.false_eq_true, decide_true, decide_false, List.zipIdx_nil, bne_self_eq_false]
      · have c3' : (setE p p.start != 0) = true := by simp [c3]
        simp only [c3, c3', fst1, wx, I, exec, resOf, reduceIte, reduceCtorEq, ne_eq, not_false_eq_true, Root.bx.injEq, Root.tm.injEq, Nat.reduceAdd, Nat.reduceBEq, Nat.reduceBNe, Nat.reduceEqDiff, Nat.reduceLT, Nat.reduceLeDiff, Nat.reduceMul, Nat.reduceSub, Int.reduceToNat, Int.reduceEq, Int.reduceBEq, Int.reduceBNe, Int.reduceLT, Int.reduceLE, if_true, if_false, Bool.false_eq_true, decide_true, decide_false, List.zipIdx_nil, bne_self_eq_false]
    · simp only [c2, wx, I, exec, resOf, reduceIte, reduceCtorEq, ne_eq, not_false_eq_true, Root.bx.injEq, Root.tm.injEq, Nat.reduceAdd, Nat.reduceBEq, Nat.reduceBNe, Nat.reduceEqDiff, Nat.reduceLT, Nat.reduceLeDiff, Nat.reduceMul, Nat.reduceSub, Int.reduceToNat, Int.reduceEq, Int.reduceBEq, Int.reduceBNe, Int.reduceLT, Int.reduceLE, if_true, if_false, Bool.false_eq_true, decide_true, decide_false, List.zipIdx_nil, bne_self_eq_false]
  · simp only [c1, wx, I, exec, resOf, reduceIte, reduceCtorEq, ne_eq, not_false_eq_true, Root.bx.injEq, Root.tm.injEq, Nat.reduceAdd, Nat.reduceBEq, Nat.reduceBNe, Nat.reduceEqDiff, Nat.reduceLT, Nat.reduceLeDiff, Nat.reduceMul, Nat.reduceSub, Int.reduceToNat, Int.reduceEq, Int.reduceBEq, Int.reduceBNe, Int.reduceLT, Int.reduceLE, if_true, if_false, Bool.false_eq_true, decide_true, decide_false, List.zipIdx_nil, bne_self_eq_false]

end Go.ViD
end
section
/- Plans, states and faults: their errors, and the faults of a plan. -/
set_option linter.unusedSimpArgs false
set_option linter.unusedVariables false
namespace Go.ViD
open Go.Vi

structure State where
  step : Int
  signals : Int

structure Fault where
  signal : Int
  on : Bool

abbrev cState (s : State) : List V := [I s.step, I s.signals]
abbrev cFault (f : Fault) : List V := [I f.signal, .bool f.on]

def stateE (p : Plan) (s : State) : Int := fst1 [idxE p s.step, setE p s.signals]
def faultE (p : Plan) (f : Fault) : Int := fst1 [unl (inR f.signal (-1) ((p.signals.length : Int) - 1)) 2, unl (decide (f.signal ≥ 0) || !f.on) 3]

theorem pc_planErr (p : Plan) (hp : few p = true) : pc E 16 [.agg (cPlan p)] = some (I (planE p).2) := by
  refine pc_code (mf := f16) rfl ?_
  rw [runF_U rfl]
  have h := pc_checkPlanR p hp
  simp only [f16, h, wx, I, exec, resOf, reduceIte, reduceCtorEq, ne_eq, not_false_eq_true, Root.bx.injEq, Root.tm.injEq, Nat.reduceAdd, Nat.reduceBEq, Nat.reduceBNe, Nat.reduceEqDiff, Nat.reduceLT, Nat.reduceLeDiff, Nat.reduceMul, Nat.reduceSub, Int.reduceToNat, Int.reduceEq, Int.reduceBEq, Int.reduceBNe, Int.reduceLT, Int.reduceLE, if_true, if_false, Bool.false_eq_true, decide_true, decide_false, List.zipIdx_nil, bne_self_eq_false]

theorem pc_open (p : Plan) (hp : few p = true) : pc E 105 [.agg (cPlan p)] = some (.tup [.agg (cPlan p), I (planE p).2]) := by
  refine pc_code (mf := f105) rfl ?_
  rw [runF_U rfl]
  have h := pc_checkPlan p hp
  simp only [f105, h, List.replicate, List.set, wx, I, exec, resOf, reduceIte, reduceCtorEq, ne_eq, not_false_eq_true, Root.bx.injEq, Root.tm.injEq, Nat.reduceAdd, Nat.reduceBEq, Nat.reduceBNe, Nat.reduceEqDiff, Nat.reduceLT, Nat.reduceLeDiff, Nat.reduceMul, Nat.reduceSub, Int.reduceToNat, Int.reduceEq, Int.reduceBEq, Int.reduceBNe, Int.reduceLT, Int.reduceLE, if_true, if_false, Bool.false_eq_true, decide_true, decide_false, List.zipIdx_nil, bne_self_eq_false]

theorem pc_stateErr (p : Plan) (hp : few p = true) (s : State) : pc E 111 [.agg (cPlan p), .agg (cState s)] = some (I (stateE p s)) := by
  obtain ⟨h1, h2, -, -⟩ := few_get hp
  refine pc_code (mf := f111) rfl ?_
  rw [runF_U rfl]
  have hi := pc_idx1l p (by omega)
  have hs := pc_set1l p (by omega)
  simp only [f111, hi, hs, stateE, pc_first2, List.replicate, List.set, wx, I, exec, resOf, reduceIte, reduceCtorEq, ne_eq, not_false_eq_true, Root.bx.injEq, Root.tm.injEq, Nat.reduceAdd, Nat.reduceBEq, Nat.reduceBNe, Nat.reduceEqDiff, Nat.reduceLT, Nat.reduceLeDiff, Nat.reduceMul, Nat.reduceSub, Int.reduceToNat, Int.reduceEq, Int.reduceBEq, Int.reduceBNe, Int.reduceLT, Int.reduceLE, if_true, if_false, Bool.false_eq_true, decide_true, decide_false, List.zipIdx_nil, bne_self_eq_false]

theorem pc_stateErrR (p : Plan) (hp : few p = true) (s : State) : pc E 55 [.agg (cPlan p), .agg (cState s)] = some (I (stateE p s)) := by
  obtain ⟨h1, h2, -, -⟩ := few_get hp
  refine pc_code (mf := f55) rfl ?_
  rw [runF_U rfl]
  have hi := pc_idxErrR p (by omega)
  have hs := pc_setErrR p (by omega)
  simp only [f55, hi, hs, stateE, pc_one2, List.replicate, List.set, wx, I, exec, resOf, reduceIte, reduceCtorEq, ne_eq, not_false_eq_true, Root.bx.injEq, Root.tm.injEq, Nat.reduceAdd, Nat.reduceBEq, Nat.reduceBNe, Nat.reduceEqDiff, Nat.reduceLT, Nat.reduceLeDiff, Nat.reduceMul, Nat.reduceSub, Int.reduceToNat, Int.reduceEq, Int.reduceBEq, Int.reduceBNe, Int.reduceLT, Int.reduceLE, if_true, if_false, Bool.false_eq_true, decide_true, decide_false, List.zipIdx_nil, bne_self_eq_false]

theorem pc_faultErr (p : Plan) (hp : few p = true) (f : Fault) : pc E 107 [.agg (cPlan p), .agg (cFault f)] = some (I (faultE p f)) := by
  obtain ⟨h1, h2, -, -⟩ := few_get hp
  refine pc_code (mf := f107) rfl ?_
  rw [runF_U rfl]
  have e2 : IntKind.i64.wrap ((p.signals.length : Int) - 1) = (p.signals.length : Int) - 1 := by
    rw [wrap_id (by omega) (by omega)]
  simp only [f107, e2, faultE, strs, pc_inR, pc_unless, pc_first2, List.replicate, List.set, wx, I, exec, resOf, reduceIte, reduceCtorEq, ne_eq, not_false_eq_true, Root.bx.injEq, Root.tm.injEq, Nat.reduceAdd, Nat.reduceBEq, Nat.reduceBNe, Nat.reduceEqDiff, Nat.reduceLT, Nat.reduceLeDiff, Nat.reduceMul, Nat.reduceSub, Int.reduceToNat, Int.reduceEq, Int.reduceBEq, Int.reduceBNe, Int.reduceLT, Int.reduceLE, if_true, if_false, Bool.false_eq_true, decide_true, decide_false, List.zipIdx_nil, bne_self_eq_false]
  repeat' (first | ((first | (with_reducible refine split_condE (fun _ _ _ => ?_) (fun _ _ _ => ?_)) | (with_reducible refine split_guardE (fun _ _ _ => ?_) (fun _ _ _ => ?_))) <;> (rename_i h h2 h3; simp only [h, h2, h3, pc_inR, pc_unless, pc_first2, List.replicate, List.set, wx, I, exec, resOf, reduceIte, reduceCtorEq, ne_eq, not_false_eq_true, Root.bx.injEq, Root.tm.injEq, Nat.reduceAdd, Nat.reduceBEq, Nat.reduceBNe, Nat.reduceEqDiff, Nat.reduceLT, Nat.reduceLeDiff, Nat.reduceMul, Nat.reduceSub, Int.reduceToNat, Int.reduceEq, Int.reduceBEq, Int.reduceBNe, Int.reduceLT, Int.reduceLE, if_true, if_false, Bool.false_eq_true, decide_true, decide_false, List.zipIdx_nil, bne_self_eq_false])) | ((first | (with_reducible refine split_condN (fun _ => ?_) (fun _ => ?_)) | (with_reducible refine split_condA (fun _ => ?_) (fun _ => ?_)) | (with_reducible refine split_condO (fun _ => ?_) (fun _ => ?_)) | (with_reducible refine split_cond (fun _ => ?_) (fun _ => ?_)) | (with_reducible refine split_guardN (fun _ => ?_) (fun _ => ?_)) | (with_reducible refine split_guardA (fun _ => ?_) (fun _ => ?_)) | (with_reducible refine split_guardO (fun _ => ?_) (fun _ => ?_)) | (with_reducible refine split_guard (fun _ => ?_) (fun _ => ?_))) <;> (rename_i h; simp only [h, pc_inR, pc_unless, pc_first2, List.replicate, List.set, wx, I, exec, resOf, reduceIte, reduceCtorEq, ne_eq, not_false_eq_true, Root.bx.injEq, Root.tm.injEq, Nat.reduceAdd, Nat.reduceBEq, Nat.reduceBNe, Nat.reduceEqDiff, Nat.reduceLT, Nat.reduceLeDiff, Nat.reduceMul, Nat.reduceSub, Int.reduceToNat, Int.reduceEq, Int.reduceBEq, Int.reduceBNe, Int.reduceLT, Int.reduceLE, if_true, if_false, Bool.false_eq_true, decide_true, decide_false, List.zipIdx_nil, bne_self_eq_false])))

theorem pc_faultErrR (p : Plan) (hp : few p = true) (f : Fault) : pc E 63 [.agg (cPlan p), .agg (cFault f)] = some (I (faultE p f)) := by
  obtain ⟨h1, h2, -, -⟩ := few_get hp
  refine pc_code (mf := f63) rfl ?_
  rw [runF_U rfl]
  have e2 : IntKind.i64.wrap ((p.signals.length : Int) - 1) = (p.signals.length : Int) - 1 := by
    rw [wrap_id (by omega) (by omega)]
  simp only [f63, e2, faultE, strs, pc_Within, fst1, wx, I, exec, resOf, reduceIte, reduceCtorEq, ne_eq, not_false_eq_true, Root.bx.injEq, Root.tm.injEq, Nat.reduceAdd, Nat.reduceBEq, Nat.reduceBNe, Nat.reduceEqDiff, Nat.reduceLT, Nat.reduceLeDiff, Nat.reduceMul, Nat.reduceSub, Int.reduceToNat, Int.reduceEq, Int.reduceBEq, Int.reduceBNe, Int.reduceLT, Int.reduceLE, if_true, if_false, Bool.false_eq_true, decide_true, decide_false, List.zipIdx_nil, bne_self_eq_false]
  cases c1 : inR f.signal (-1) ((p.signals.length : Int) - 1)
  · simp only [unl, wx, I, exec, resOf, reduceIte, reduceCtorEq, ne_eq, not_false_eq_true, Root.bx.injEq, Root.tm.injEq, Nat.reduceAdd, Nat.reduceBEq, Nat.reduceBNe, Nat.reduceEqDiff, Nat.reduceLT, Nat.reduceLeDiff, Nat.reduceMul, Nat.reduceSub, Int.reduceToNat, Int.reduceEq, Int.reduceBEq, Int.reduceBNe, Int.reduceLT, Int.reduceLE, if_true, if_false, Bool.false_eq_true, decide_true, decide_false, List.zipIdx_nil, bne_self_eq_false]
  · simp only [unl, wx, I, exec, resOf, reduceIte, reduceCtorEq, ne_eq, not_false_eq_true, Root.bx.injEq, Root.tm.injEq, Nat.reduceAdd, Nat.reduceBEq, Nat.reduceBNe, Nat.reduceEqDiff, Nat.reduceLT, Nat.reduceLeDiff, Nat.reduceMul, Nat.reduceSub, Int.reduceToNat, Int.reduceEq, Int.reduceBEq, Int.reduceBNe, Int.reduceLT, Int.reduceLE, if_true, if_false, Bool.false_eq_true, decide_true, decide_false, List.zipIdx_nil, bne_self_eq_false]
    simp only [inR, Bool.and_eq_true, decide_eq_true_eq] at c1
    by_cases c2 : f.signal = -1
    · have c3 : decide (f.signal ≥ 0) = false := by simp; omega
      have c4 : (f.signal == -1) = true := by simp [c2]
      simp only [c3, c4, wx, I, exec, resOf, reduceIte, reduceCtorEq, ne_eq, not_false_eq_true, Root.bx.injEq, Root.tm.injEq, Nat.reduceAdd, Nat.reduceBEq, Nat.reduceBNe, Nat.reduceEqDiff, Nat.reduceLT, Nat.reduceLeDiff, Nat.reduceMul, Nat.reduceSub, Int.reduceToNat, Int.reduceEq, Int.reduceBEq, Int.reduceBNe, Int.reduceLT, Int.reduceLE, if_true, if_false, Bool.false_eq_true, decide_true, decide_false, List.zipIdx_nil, bne_self_eq_false]
      cases c5 : f.on <;> simp only [wx, I, exec, resOf, reduceIte, reduceCtorEq, ne_eq, not_false_eq_true, Root.bx.injEq, Root.tm.injEq, Nat.reduceAdd, Nat.reduceBEq, Nat.reduceBNe, Nat.reduceEqDiff, Nat.reduceLT, Nat.reduceLeDiff, Nat.reduceMul, Nat.reduceSub, Int.reduceToNat, Int.reduceEq, Int.reduceBEq, Int.reduceBNe, Int.reduceLT, Int.reduceLE, if_true, if_false, Bool.false_eq_true, decide_true, decide_false, List.zipIdx_nil, bne_self_eq_false]
    · have c3 : decide (f.signal ≥ 0) = true := by simp; omega
      have c4 : (f.signal == -1) = false := by simp [c2]
      simp only [c3, c4, wx, I, exec, resOf, reduceIte, reduceCtorEq, ne_eq, not_false_eq_true, Root.bx.injEq, Root.tm.injEq, Nat.reduceAdd, Nat.reduceBEq, Nat.reduceBNe, Nat.reduceEqDiff, Nat.reduceLT, Nat.reduceLeDiff, Nat.reduceMul, Nat.reduceSub, Int.reduceToNat, Int.reduceEq, Int.reduceBEq, Int.reduceBNe, Int.reduceLT, Int.reduceLE, if_true, if_false, Bool.false_eq_true, decide_true, decide_false, List.zipIdx_nil, bne_self_eq_false]

/-- The error of a plan, a state and a fault. -/
def bothE (p : Plan) (s : State) (f : Fault) : Int := if (planE p).2 = 0 then fst1 [stateE p s, faultE p f] else (planE p).2

theorem pc_openState (p : Plan) (hp : few p = true) (s : State) (f : Fault) : pc E 69 [.agg (cPlan p), .agg (cState s), .agg (cFault f)] = some (.tup [.agg (cPlan p), I (bothE p s f)]) := by
  refine pc_code (mf := f69) rfl ?_
  rw [runF_U rfl]
  have h1 := pc_open p hp
  have h2 := pc_stateErr p hp s
  have h3 := pc_faultErr p hp f
  simp only [cState, cFault] at h2 h3
  simp only [f69, h1, List.replicate, List.set, bothE, wx, I, exec, resOf, reduceIte, reduceCtorEq, ne_eq, not_false_eq_true, Root.bx.injEq, Root.tm.injEq, Nat.reduceAdd, Nat.reduceBEq, Nat.reduceBNe, Nat.reduceEqDiff, Nat.reduceLT, Nat.reduceLeDiff, Nat.reduceMul, Nat.reduceSub, Int.reduceToNat, Int.reduceEq, Int.reduceBEq, Int.reduceBNe, Int.reduceLT, Int.reduceLE, if_true, if_false, Bool.false_eq_true, decide_true, decide_false, List.zipIdx_nil, bne_self_eq_false]
  by_cases c : (planE p).2 = 0
  · simp only [c, h2, h3, pc_first2, List.replicate, List.set, wx, I, exec, resOf, reduceIte, reduceCtorEq, ne_eq, not_false_eq_true, Root.bx.injEq, Root.tm.injEq, Nat.reduceAdd, Nat.reduceBEq, Nat.reduceBNe, Nat.reduceEqDiff, Nat.reduceLT, Nat.reduceLeDiff, Nat.reduceMul, Nat.reduceSub, Int.reduceToNat, Int.reduceEq, Int.reduceBEq, Int.reduceBNe, Int.reduceLT, Int.reduceLE, if_true, if_false, Bool.false_eq_true, decide_true, decide_false, List.zipIdx_nil, bne_self_eq_false]
  · have c2 : ((planE p).2 == 0) = false := by simp [c]
    simp only [c, c2, List.replicate, List.set, wx, I, exec, resOf, reduceIte, reduceCtorEq, ne_eq, not_false_eq_true, Root.bx.injEq, Root.tm.injEq, Nat.reduceAdd, Nat.reduceBEq, Nat.reduceBNe, Nat.reduceEqDiff, Nat.reduceLT, Nat.reduceLeDiff, Nat.reduceMul, Nat.reduceSub, Int.reduceToNat, Int.reduceEq, Int.reduceBEq, Int.reduceBNe, Int.reduceLT, Int.reduceLE, if_true, if_false, Bool.false_eq_true, decide_true, decide_false, List.zipIdx_nil, bne_self_eq_false]

theorem pc_bothErr (p : Plan) (hp : few p = true) (s : State) (f : Fault) : pc E 20 [.agg (cPlan p), .agg (cState s), .agg (cFault f)] = some (I (bothE p s f)) := by
  refine pc_code (mf := f20) rfl ?_
  rw [runF_U rfl]
  have h1 := pc_planErr p hp
  have h2 := pc_stateErrR p hp s
  have h3 := pc_faultErrR p hp f
  simp only [cState, cFault] at h2 h3
  simp only [f20, h1, List.replicate, List.set, bothE, wx, I, exec, resOf, reduceIte, reduceCtorEq, ne_eq, not_false_eq_true, Root.bx.injEq, Root.tm.injEq, Nat.reduceAdd, Nat.reduceBEq, Nat.reduceBNe, Nat.reduceEqDiff, Nat.reduceLT, Nat.reduceLeDiff, Nat.reduceMul, Nat.reduceSub, Int.reduceToNat, Int.reduceEq, Int.reduceBEq, Int.reduceBNe, Int.reduceLT, Int.reduceLE, if_true, if_false, Bool.false_eq_true, decide_true, decide_false, List.zipIdx_nil, bne_self_eq_false]
  by_cases c : (planE p).2 = 0
  · simp only [c, h2, h3, List.replicate, List.set, wx, I, exec, resOf, reduceIte, reduceCtorEq, ne_eq, not_false_eq_true, Root.bx.injEq, Root.tm.injEq, Nat.reduceAdd, Nat.reduceBEq, Nat.reduceBNe, Nat.reduceEqDiff, Nat.reduceLT, Nat.reduceLeDiff, Nat.reduceMul, Nat.reduceSub, Int.reduceToNat, Int.reduceEq, Int.reduceBEq, Int.reduceBNe, Int.reduceLT, Int.reduceLE, if_true, if_false, Bool.false_eq_true, decide_true, decide_false, List.zipIdx_nil, bne_self_eq_false]
    by_cases c3 : stateE p s = 0
    · simp only [c3, h3, fst1, wx, I, exec, resOf, reduceIte, reduceCtorEq, ne_eq, not_false_eq_true, Root.bx.injEq, Root.tm.injEq, Nat.reduceAdd, Nat.reduceBEq, Nat.reduceBNe, Nat.reduceEqDiff, Nat.reduceLT, Nat.reduceLeDiff, Nat.reduceMul, Nat.reduceSub, Int.reduceToNat, Int.reduceEq, Int.reduceBEq, Int.reduceBNe, Int.reduceLT, Int.reduceLE, if_true, if_false, Bool.false_eq_true, decide_true, decide_false, List.zipIdx_nil, bne_self_eq_false]
      split <;> simp_all
    · have c2 : (stateE p s != 0) = true := by simp [c3]
      simp only [c3, c2, fst1, wx, I, exec, resOf, reduceIte, reduceCtorEq, ne_eq, not_false_eq_true, Root.bx.injEq, Root.tm.injEq, Nat.reduceAdd, Nat.reduceBEq, Nat.reduceBNe, Nat.reduceEqDiff, Nat.reduceLT, Nat.reduceLeDiff, Nat.reduceMul, Nat.reduceSub, Int.reduceToNat, Int.reduceEq, Int.reduceBEq, Int.reduceBNe, Int.reduceLT, Int.reduceLE, if_true, if_false, Bool.false_eq_true, decide_true, decide_false, List.zipIdx_nil, bne_self_eq_false]
  · have c2 : ((planE p).2 != 0) = true := by simp [c]
    simp only [c, c2, List.replicate, List.set, wx, I, exec, resOf, reduceIte, reduceCtorEq, ne_eq, not_false_eq_true, Root.bx.injEq, Root.tm.injEq, Nat.reduceAdd, Nat.reduceBEq, Nat.reduceBNe, Nat.reduceEqDiff, Nat.reduceLT, Nat.reduceLeDiff, Nat.reduceMul, Nat.reduceSub, Int.reduceToNat, Int.reduceEq, Int.reduceBEq, Int.reduceBNe, Int.reduceLT, Int.reduceLE, if_true, if_false, Bool.false_eq_true, decide_true, decide_false, List.zipIdx_nil, bne_self_eq_false]

end Go.ViD
end
