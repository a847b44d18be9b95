/- SequenceWays: what it answers. -/
import Derived.Test.YtomimhedehecdaaDoorViGWaysC
set_option linter.unusedSimpArgs false
set_option linter.unusedVariables false
namespace Go.ViD
open Go.Vi

theorem bestN_len {p : Plan} (hp : OkP p) {s : State} (hs : goodS p s) (to : Int) : ∀ N, N ≤ 100 → (wcs (bestN p s to N)).length ≤ 100
  | N, h => by
    have hl := best_least hp hs to N
    cases hb : bestN p s to N with
    | none => simp [wcs]
    | some b =>
      rw [hb] at hl
      obtain ⟨⟨n, hn, e, he, hq⟩, -⟩ := hl
      have := (all_good (exP p) (extP p) s (goodS p) hs 4000000 (by omega) (fun e c r he hc hr => ext_ok hp he hc hr) n e b hq).2.1
      simp only [wcs]; omega

/-- The errors of the fastest way, one after the other. -/
theorem fastE_cases (p : Plan) (s : State) (to : Int) :
    (bothE p s noF ≠ 0 ∧ fastE p s to = bothE p s noF) ∨ (bothE p s noF = 0 ∧ idxE p to ≠ 0 ∧ fastE p s to = idxE p to) ∨
      (bothE p s noF = 0 ∧ idxE p to = 0 ∧ (steadyH p s && steadyH p ⟨to, 0⟩) = false ∧ fastE p s to = 20) ∨ (bothE p s noF = 0 ∧ idxE p to = 0 ∧ steadyH p s = true ∧ steadyH p ⟨to, 0⟩ = true ∧ fastE p s to = 0) := by
  unfold fastE
  by_cases h1 : bothE p s noF = 0
  · by_cases h2 : idxE p to = 0
    · cases h3 : steadyH p s && steadyH p ⟨to, 0⟩ with
      | false => exact Or.inr (Or.inr (Or.inl ⟨h1, h2, rfl, by rw [if_pos h1, if_pos h2]; rfl⟩))
      | true =>
        have h4 := h3
        rw [Bool.and_eq_true] at h4
        exact Or.inr (Or.inr (Or.inr ⟨h1, h2, h4.1, h4.2, by rw [if_pos h1, if_pos h2]; rfl⟩))
    · exact Or.inr (Or.inl ⟨h1, h2, by rw [if_pos h1, if_neg h2]⟩)
  · exact Or.inl ⟨h1, by rw [if_neg h1]⟩

theorem pc_ways1 (p : Plan) (s : State) (to : Int) (hp : few p = true) (c1 : bothE p s noF ≠ 0) (c2 : fastE p s to = bothE p s noF) : pc E 3 [.agg (cPlan p), .agg (cState s), I to] = some (.bool true) := by
  refine pc_code (mf := f3) rfl ?_
  rw [runF_U rfl]
  have hf := pc_few p
  have hfg := few_get hp
  have h1 := pc_planErr p hp
  have h2 := pc_light p
  have h3 := pc_copy p hp
  have h4 := pc_FastestWay p hp s to
  have h5 := pc_bothErr p hp s noF
  have h6 := pc_idxErrR p (by omega) to
  simp only [cState, cFault] at h4 h5
  rw [c2, if_neg c1] at h4
  have d1 : (bothE p s noF == 0) = false := by simp [c1]
  have d2 : (bothE p s noF != 0) = true := by simp [c1]
  simp only [f3, pc_awake, hf, hp, h1, cState, wx, I, exec, resOf, reduceIte, reduceCtorEq, ne_eq, not_false_eq_true, Root.bx.injEq, Root.tm.injEq, Nat.reduceAdd, Nat.reduceBEq, Nat.reduceBNe, Nat.reduceEqDiff, Nat.reduceLT, Nat.reduceLeDiff, Nat.reduceMul, Nat.reduceSub, Int.reduceToNat, Int.reduceEq, Int.reduceBEq, Int.reduceBNe, Int.reduceLT, Int.reduceLE, if_true, if_false, Bool.false_eq_true, decide_true, decide_false, List.zipIdx_nil, bne_self_eq_false]
  repeat' (first | ((first | (with_reducible refine split_condE (fun _ _ _ => ?_) (fun _ _ _ => ?_)) | (with_reducible refine split_guardE (fun _ _ _ => ?_) (fun _ _ _ => ?_))) <;> (rename_i h h2 h3; simp only [h, h2, h3, h1, h2, h3, h4, h5, x21, d1, d2, beq_self_eq_true, List.replicate, List.set, List.map_nil, ints, cState, wx, I, exec, resOf, reduceIte, reduceCtorEq, ne_eq, not_false_eq_true, Root.bx.injEq, Root.tm.injEq, Nat.reduceAdd, Nat.reduceBEq, Nat.reduceBNe, Nat.reduceEqDiff, Nat.reduceLT, Nat.reduceLeDiff, Nat.reduceMul, Nat.reduceSub, Int.reduceToNat, Int.reduceEq, Int.reduceBEq, Int.reduceBNe, Int.reduceLT, Int.reduceLE, if_true, if_false, Bool.false_eq_true, decide_true, decide_false, List.zipIdx_nil, bne_self_eq_false])) | ((first | (with_reducible refine split_condN (fun _ => ?_) (fun _ => ?_)) | (with_reducible refine split_condA (fun _ => ?_) (fun _ => ?_)) | (with_reducible refine split_condO (fun _ => ?_) (fun _ => ?_)) | (with_reducible refine split_cond (fun _ => ?_) (fun _ => ?_)) | (with_reducible refine split_guardN (fun _ => ?_) (fun _ => ?_)) | (with_reducible refine split_guardA (fun _ => ?_) (fun _ => ?_)) | (with_reducible refine split_guardO (fun _ => ?_) (fun _ => ?_)) | (with_reducible refine split_guard (fun _ => ?_) (fun _ => ?_))) <;> (rename_i h; simp only [h, h1, h2, h3, h4, h5, x21, d1, d2, beq_self_eq_true, List.replicate, List.set, List.map_nil, ints, cState, wx, I, exec, resOf, reduceIte, reduceCtorEq, ne_eq, not_false_eq_true, Root.bx.injEq, Root.tm.injEq, Nat.reduceAdd, Nat.reduceBEq, Nat.reduceBNe, Nat.reduceEqDiff, Nat.reduceLT, Nat.reduceLeDiff, Nat.reduceMul, Nat.reduceSub, Int.reduceToNat, Int.reduceEq, Int.reduceBEq, Int.reduceBNe, Int.reduceLT, Int.reduceLE, if_true, if_false, Bool.false_eq_true, decide_true, decide_false, List.zipIdx_nil, bne_self_eq_false])))

theorem pc_ways2 (p : Plan) (s : State) (to : Int) (hp : few p = true) (c1 : bothE p s noF = 0) (c2 : idxE p to ≠ 0) (c3 : fastE p s to = idxE p to) : pc E 3 [.agg (cPlan p), .agg (cState s), I to] = some (.bool true) := by
  refine pc_code (mf := f3) rfl ?_
  rw [runF_U rfl]
  have hf := pc_few p
  have hfg := few_get hp
  have h1 := pc_planErr p hp
  have h2 := pc_light p
  have h3 := pc_copy p hp
  have h4 := pc_FastestWay p hp s to
  have h5 := pc_bothErr p hp s noF
  have h6 := pc_idxErrR p (by omega) to
  simp only [cState, cFault] at h4 h5
  rw [c3, if_neg c2] at h4
  have d1 : (idxE p to == 0) = false := by simp [c2]
  have d2 : (idxE p to != 0) = true := by simp [c2]
  simp only [f3, pc_awake, hf, hp, h1, cState, wx, I, exec, resOf, reduceIte, reduceCtorEq, ne_eq, not_false_eq_true, Root.bx.injEq, Root.tm.injEq, Nat.reduceAdd, Nat.reduceBEq, Nat.reduceBNe, Nat.reduceEqDiff, Nat.reduceLT, Nat.reduceLeDiff, Nat.reduceMul, Nat.reduceSub, Int.reduceToNat, Int.reduceEq, Int.reduceBEq, Int.reduceBNe, Int.reduceLT, Int.reduceLE, if_true, if_false, Bool.false_eq_true, decide_true, decide_false, List.zipIdx_nil, bne_self_eq_false]
  repeat' (first | ((first | (with_reducible refine split_condE (fun _ _ _ => ?_) (fun _ _ _ => ?_)) | (with_reducible refine split_guardE (fun _ _ _ => ?_) (fun _ _ _ => ?_))) <;> (rename_i h h2 h3; simp only [h, h2, h3, h1, h2, h3, h4, h5, h6, x21, c1, d1, d2, beq_self_eq_true, List.replicate, List.set, List.map_nil, ints, cState, wx, I, exec, resOf, reduceIte, reduceCtorEq, ne_eq, not_false_eq_true, Root.bx.injEq, Root.tm.injEq, Nat.reduceAdd, Nat.reduceBEq, Nat.reduceBNe, Nat.reduceEqDiff, Nat.reduceLT, Nat.reduceLeDiff, Nat.reduceMul, Nat.reduceSub, Int.reduceToNat, Int.reduceEq, Int.reduceBEq, Int.reduceBNe, Int.reduceLT, Int.reduceLE, if_true, if_false, Bool.false_eq_true, decide_true, decide_false, List.zipIdx_nil, bne_self_eq_false])) | ((first | (with_reducible refine split_condN (fun _ => ?_) (fun _ => ?_)) | (with_reducible refine split_condA (fun _ => ?_) (fun _ => ?_)) | (with_reducible refine split_condO (fun _ => ?_) (fun _ => ?_)) | (with_reducible refine split_cond (fun _ => ?_) (fun _ => ?_)) | (with_reducible refine split_guardN (fun _ => ?_) (fun _ => ?_)) | (with_reducible refine split_guardA (fun _ => ?_) (fun _ => ?_)) | (with_reducible refine split_guardO (fun _ => ?_) (fun _ => ?_)) | (with_reducible refine split_guard (fun _ => ?_) (fun _ => ?_))) <;> (rename_i h; simp only [h, h1, h2, h3, h4, h5, h6, x21, c1, d1, d2, beq_self_eq_true, List.replicate, List.set, List.map_nil, ints, cState, wx, I, exec, resOf, reduceIte, reduceCtorEq, ne_eq, not_false_eq_true, Root.bx.injEq, Root.tm.injEq, Nat.reduceAdd, Nat.reduceBEq, Nat.reduceBNe, Nat.reduceEqDiff, Nat.reduceLT, Nat.reduceLeDiff, Nat.reduceMul, Nat.reduceSub, Int.reduceToNat, Int.reduceEq, Int.reduceBEq, Int.reduceBNe, Int.reduceLT, Int.reduceLE, if_true, if_false, Bool.false_eq_true, decide_true, decide_false, List.zipIdx_nil, bne_self_eq_false])))

theorem pc_ways3 (p : Plan) (s : State) (to : Int) (hp : few p = true) (c1 : bothE p s noF = 0) (c2 : idxE p to = 0) (c3 : (steadyH p s && steadyH p ⟨to, 0⟩) = false) (c4 : fastE p s to = 20) : pc E 3 [.agg (cPlan p), .agg (cState s), I to] = some (.bool true) := by
  refine pc_code (mf := f3) rfl ?_
  rw [runF_U rfl]
  have hf := pc_few p
  have hfg := few_get hp
  have h1 := pc_planErr p hp
  have h2 := pc_light p
  have h3 := pc_copy p hp
  have h4 := pc_FastestWay p hp s to
  have h5 := pc_bothErr p hp s noF
  have h6 := pc_idxErrR p (by omega) to
  simp only [cState, cFault] at h4 h5
  obtain ⟨b1, b2, b3⟩ := both_of c1
  have hs := okS_of b2
  obtain ⟨x, hx⟩ := step_at hs.1
  obtain ⟨y, hy⟩ := step_at (idxE_zero.1 c2)
  have hs0 := hs.1.1
  have hy0 := (idxE_zero.1 c2).1
  rw [c4, if_neg (by decide)] at h4
  rw [steadyH_at hx, steadyH_at (s := ⟨to, 0⟩) (p := p) (x := y) hy] at c3
  simp only [f3, pc_awake, hf, hp, h1, b1, h2, cState, wx, I, exec, resOf, reduceIte, reduceCtorEq, ne_eq, not_false_eq_true, Root.bx.injEq, Root.tm.injEq, Nat.reduceAdd, Nat.reduceBEq, Nat.reduceBNe, Nat.reduceEqDiff, Nat.reduceLT, Nat.reduceLeDiff, Nat.reduceMul, Nat.reduceSub, Int.reduceToNat, Int.reduceEq, Int.reduceBEq, Int.reduceBNe, Int.reduceLT, Int.reduceLE, if_true, if_false, Bool.false_eq_true, decide_true, decide_false, List.zipIdx_nil, bne_self_eq_false]
  rcases Bool.eq_false_or_eq_true (light p) with g | g
  · simp only [g, h3, h4, h5, h6, x21, c1, c2, hx, hs0, bneB, cSteps, cStep, beq_self_eq_true, List.replicate, List.set, List.map_nil, ints, cState, wx, I, exec, resOf, reduceIte, reduceCtorEq, ne_eq, not_false_eq_true, Root.bx.injEq, Root.tm.injEq, Nat.reduceAdd, Nat.reduceBEq, Nat.reduceBNe, Nat.reduceEqDiff, Nat.reduceLT, Nat.reduceLeDiff, Nat.reduceMul, Nat.reduceSub, Int.reduceToNat, Int.reduceEq, Int.reduceBEq, Int.reduceBNe, Int.reduceLT, Int.reduceLE, if_true, if_false, Bool.false_eq_true, decide_true, decide_false, List.zipIdx_nil, bne_self_eq_false]
    rcases Bool.eq_false_or_eq_true (x.wait == 0) with g1 | g1
    · rw [g1, Bool.true_and] at c3
      simp only [g1, hy, hy0, c3, bneB, cSteps, cStep, beq_self_eq_true, List.replicate, List.set, List.map_nil, ints, cState, wx, I, exec, resOf, reduceIte, reduceCtorEq, ne_eq, not_false_eq_true, Root.bx.injEq, Root.tm.injEq, Nat.reduceAdd, Nat.reduceBEq, Nat.reduceBNe, Nat.reduceEqDiff, Nat.reduceLT, Nat.reduceLeDiff, Nat.reduceMul, Nat.reduceSub, Int.reduceToNat, Int.reduceEq, Int.reduceBEq, Int.reduceBNe, Int.reduceLT, Int.reduceLE, if_true, if_false, Bool.false_eq_true, decide_true, decide_false, List.zipIdx_nil, bne_self_eq_false]
    · simp only [g1, bneB, cSteps, cStep, beq_self_eq_true, List.replicate, List.set, List.map_nil, ints, cState, wx, I, exec, resOf, reduceIte, reduceCtorEq, ne_eq, not_false_eq_true, Root.bx.injEq, Root.tm.injEq, Nat.reduceAdd, Nat.reduceBEq, Nat.reduceBNe, Nat.reduceEqDiff, Nat.reduceLT, Nat.reduceLeDiff, Nat.reduceMul, Nat.reduceSub, Int.reduceToNat, Int.reduceEq, Int.reduceBEq, Int.reduceBNe, Int.reduceLT, Int.reduceLE, if_true, if_false, Bool.false_eq_true, decide_true, decide_false, List.zipIdx_nil, bne_self_eq_false]
  · simp only [g, wx, I, exec, resOf, reduceIte, reduceCtorEq, ne_eq, not_false_eq_true, Root.bx.injEq, Root.tm.injEq, Nat.reduceAdd, Nat.reduceBEq, Nat.reduceBNe, Nat.reduceEqDiff, Nat.reduceLT, Nat.reduceLeDiff, Nat.reduceMul, Nat.reduceSub, Int.reduceToNat, Int.reduceEq, Int.reduceBEq, Int.reduceBNe, Int.reduceLT, Int.reduceLE, if_true, if_false, Bool.false_eq_true, decide_true, decide_false, List.zipIdx_nil, bne_self_eq_false]

theorem pc_ways4 (p : Plan) (s : State) (to : Int) (hp : few p = true) (c1 : bothE p s noF = 0) (c2 : idxE p to = 0) (c3 : steadyH p s = true) (c4 : steadyH p ⟨to, 0⟩ = true) (c5 : fastE p s to = 0) : pc E 3 [.agg (cPlan p), .agg (cState s), I to] = some (.bool true) := by
  refine pc_code (mf := f3) rfl ?_
  rw [runF_U rfl]
  have hf := pc_few p
  have hfg := few_get hp
  have h1 := pc_planErr p hp
  have h2 := pc_light p
  have h3 := pc_copy p hp
  have h4 := pc_FastestWay p hp s to
  have h5 := pc_bothErr p hp s noF
  have h6 := pc_idxErrR p (by omega) to
  simp only [cState, cFault] at h4 h5
  obtain ⟨b1, b2, b3⟩ := both_of c1
  have ok := okP_of b1
  have hs := okS_of b2
  obtain ⟨x, hx⟩ := step_at hs.1
  obtain ⟨y, hy⟩ := step_at (idxE_zero.1 c2)
  have hs0 := hs.1.1
  have hy0 := (idxE_zero.1 c2).1
  rw [c5, if_pos rfl] at h4
  have hg : goodS p s := ⟨hs, c3⟩
  have e1 := c3
  have e2 := c4
  rw [steadyH_at hx] at e1
  rw [steadyH_at (s := ⟨to, 0⟩) (p := p) (x := y) hy] at e2
  have hxl : ∀ x ∈ p.steps, x.exits.length ≤ 1000 := fun x hx => by have := (hfg.2.2.2 x hx).2; omega
  obtain ⟨ow, h7, hO⟩ := pc_Fastest p ok hxl s hg to
  have h8 := pc_sameInts (wcs (bestN p s to 11)) (by have := bestN_len ok hg to 11 (by omega); omega)
  generalize hbest : bestN p s to 11 = o at h4 h7 h8
  simp only [cState, ints] at h7 h8 h4
  simp only [f3, pc_awake, hf, hp, h1, b1, h2, cState, wx, I, exec, resOf, reduceIte, reduceCtorEq, ne_eq, not_false_eq_true, Root.bx.injEq, Root.tm.injEq, Nat.reduceAdd, Nat.reduceBEq, Nat.reduceBNe, Nat.reduceEqDiff, Nat.reduceLT, Nat.reduceLeDiff, Nat.reduceMul, Nat.reduceSub, Int.reduceToNat, Int.reduceEq, Int.reduceBEq, Int.reduceBNe, Int.reduceLT, Int.reduceLE, if_true, if_false, Bool.false_eq_true, decide_true, decide_false, List.zipIdx_nil, bne_self_eq_false]
  rcases Bool.eq_false_or_eq_true (light p) with g | g
  · simp only [g, h3, h4, h5, h6, x21, c1, c2, hx, hy, hs0, hy0, e1, e2, bneB, cSteps, cStep, beq_self_eq_true, List.replicate, List.set, List.map_nil, ints, cState, wx, I, exec, resOf, reduceIte, reduceCtorEq, ne_eq, not_false_eq_true, Root.bx.injEq, Root.tm.injEq, Nat.reduceAdd, Nat.reduceBEq, Nat.reduceBNe, Nat.reduceEqDiff, Nat.reduceLT, Nat.reduceLeDiff, Nat.reduceMul, Nat.reduceSub, Int.reduceToNat, Int.reduceEq, Int.reduceBEq, Int.reduceBNe, Int.reduceLT, Int.reduceLE, if_true, if_false, Bool.false_eq_true, decide_true, decide_false, List.zipIdx_nil, bne_self_eq_false]
    cases o with
    | none =>
      simp only [wcs, wtm] at h7
      rcases hO with rfl | rfl <;> simp only [h7, unl, wcs, wtm, Option.isSome_none, beq_self_eq_true, List.replicate, List.set, List.map_nil, ints, cState, wx, I, exec, resOf, reduceIte, reduceCtorEq, ne_eq, not_false_eq_true, Root.bx.injEq, Root.tm.injEq, Nat.reduceAdd, Nat.reduceBEq, Nat.reduceBNe, Nat.reduceEqDiff, Nat.reduceLT, Nat.reduceLeDiff, Nat.reduceMul, Nat.reduceSub, Int.reduceToNat, Int.reduceEq, Int.reduceBEq, Int.reduceBNe, Int.reduceLT, Int.reduceLE, if_true, if_false, Bool.false_eq_true, decide_true, decide_false, List.zipIdx_nil, bne_self_eq_false]
    | some b =>
      simp only [wcs, wtm] at h7 h8
      rcases hO with rfl | rfl <;> simp only [h7, h8, unl, wcs, wtm, Option.isSome_some, beq_self_eq_true, List.replicate, List.set, List.map_nil, ints, cState, wx, I, exec, resOf, reduceIte, reduceCtorEq, ne_eq, not_false_eq_true, Root.bx.injEq, Root.tm.injEq, Nat.reduceAdd, Nat.reduceBEq, Nat.reduceBNe, Nat.reduceEqDiff, Nat.reduceLT, Nat.reduceLeDiff, Nat.reduceMul, Nat.reduceSub, Int.reduceToNat, Int.reduceEq, Int.reduceBEq, Int.reduceBNe, Int.reduceLT, Int.reduceLE, if_true, if_false, Bool.false_eq_true, decide_true, decide_false, List.zipIdx_nil, bne_self_eq_false]
  · simp only [g, wx, I, exec, resOf, reduceIte, reduceCtorEq, ne_eq, not_false_eq_true, Root.bx.injEq, Root.tm.injEq, Nat.reduceAdd, Nat.reduceBEq, Nat.reduceBNe, Nat.reduceEqDiff, Nat.reduceLT, Nat.reduceLeDiff, Nat.reduceMul, Nat.reduceSub, Int.reduceToNat, Int.reduceEq, Int.reduceBEq, Int.reduceBNe, Int.reduceLT, Int.reduceLE, if_true, if_false, Bool.false_eq_true, decide_true, decide_false, List.zipIdx_nil, bne_self_eq_false]

theorem pc_ways (p : Plan) (s : State) (to : Int) : pc E 3 [.agg (cPlan p), .agg (cState s), I to] = some (.bool true) := by
  cases hp : few p
  · refine pc_code (mf := f3) rfl ?_
    rw [runF_U rfl]
    have hf := pc_few p
    simp only [f3, pc_awake, hf, hp, cState, wx, I, exec, resOf, reduceIte, reduceCtorEq, ne_eq, not_false_eq_true, Root.bx.injEq, Root.tm.injEq, Nat.reduceAdd, Nat.reduceBEq, Nat.reduceBNe, Nat.reduceEqDiff, Nat.reduceLT, Nat.reduceLeDiff, Nat.reduceMul, Nat.reduceSub, Int.reduceToNat, Int.reduceEq, Int.reduceBEq, Int.reduceBNe, Int.reduceLT, Int.reduceLE, if_true, if_false, Bool.false_eq_true, decide_true, decide_false, List.zipIdx_nil, bne_self_eq_false]
  · rcases fastE_cases p s to with ⟨c1, c2⟩ | ⟨c1, c2, c3⟩ | ⟨c1, c2, c3, c4⟩ | ⟨c1, c2, c3, c4, c5⟩
    · exact pc_ways1 p s to hp c1 c2
    · exact pc_ways2 p s to hp c1 c2 c3
    · exact pc_ways3 p s to hp c1 c2 c3 c4
    · exact pc_ways4 p s to hp c1 c2 c3 c4 c5

end Go.ViD
