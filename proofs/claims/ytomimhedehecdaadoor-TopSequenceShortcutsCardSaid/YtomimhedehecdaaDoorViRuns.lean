/- SequenceRuns: what it answers. -/
import Derived.Test.YtomimhedehecdaaDoorViGRuns
import Derived.Test.YtomimhedehecdaaDoorViAwakeD
set_option linter.unusedSimpArgs false
set_option linter.unusedVariables false
namespace Go.ViD
open Go.Vi

theorem pc_runR (p : Plan) (hp : OkP p) (he : ∀ x ∈ p.steps, x.exits.length ≤ 1000) (f : Fault) (hf : f.signal < (p.signals.length : Int)) (s : State) (hs : okS p s) (cs : List Int) (x : Step) (hx : p.steps[s.step.toNat]? = some x) : pc E 53 [.agg (cPlan p), .agg (cState s), .agg [I f.signal, .bool f.on, .sl .s 1 (ints cs)]] =
    some (.tup [.sl (if (runI p f x s cs).2.2 = 0 then .s else .a) 2 (cSts (runI p f x s cs).1), I (runI p f x s cs).2.1, I (runI p f x s cs).2.2]) := by
  refine pc_code (mf := f53) rfl ?_
  rw [runF_U rfl]
  have hs0 := hs.1.1
  simp only [f53, hs0, hx, bneB, ints, cSteps, cStep, List.replicate, List.set, wx, I, exec, resOf, reduceIte, reduceCtorEq, ne_eq, not_false_eq_true, Root.bx.injEq, Root.tm.injEq, Nat.reduceAdd, Nat.reduceBEq, Nat.reduceBNe, Nat.reduceEqDiff, Nat.reduceLT, Nat.reduceLeDiff, Nat.reduceMul, Nat.reduceSub, Int.reduceToNat, Int.reduceEq, Int.reduceBEq, Int.reduceBNe, Int.reduceLT, Int.reduceLE, if_true, if_false, Bool.false_eq_true, decide_true, decide_false, List.zipIdx_nil, bne_self_eq_false]
  unfold runI preE
  rcases Bool.eq_false_or_eq_true (x.wait == 0) with g1 | g1
  · by_cases g2 : (cs.length : Int) ≤ 10
    · have g3 : decide ((cs.length : Int) > 10) = false := by simp; omega
      have hl := fun t k => loop53a p hp he f hf cs (by omega) (t := t) (k := k) cs.length 0 s [] 0 (by simp) hs (by rw [steadyH_at hx]; exact g1) (by simp)
      simp only [ints, cSts, cState, List.map_nil, List.drop_zero, Int.cast_ofNat_Int] at hl
      simp only [g1, g2, g3, hl, doneR, unl, fst1, cState, wx, I, exec, resOf, reduceIte, reduceCtorEq, ne_eq, not_false_eq_true, Root.bx.injEq, Root.tm.injEq, Nat.reduceAdd, Nat.reduceBEq, Nat.reduceBNe, Nat.reduceEqDiff, Nat.reduceLT, Nat.reduceLeDiff, Nat.reduceMul, Nat.reduceSub, Int.reduceToNat, Int.reduceEq, Int.reduceBEq, Int.reduceBNe, Int.reduceLT, Int.reduceLE, if_true, if_false, Bool.false_eq_true, decide_true, decide_false, List.zipIdx_nil, bne_self_eq_false]
      by_cases r : (wayI p f cs s [] 0).2.2 = 0
      · simp only [r, wx, I, exec, resOf, reduceIte, reduceCtorEq, ne_eq, not_false_eq_true, Root.bx.injEq, Root.tm.injEq, Nat.reduceAdd, Nat.reduceBEq, Nat.reduceBNe, Nat.reduceEqDiff, Nat.reduceLT, Nat.reduceLeDiff, Nat.reduceMul, Nat.reduceSub, Int.reduceToNat, Int.reduceEq, Int.reduceBEq, Int.reduceBNe, Int.reduceLT, Int.reduceLE, if_true, if_false, Bool.false_eq_true, decide_true, decide_false, List.zipIdx_nil, bne_self_eq_false]
      · simp only [r, List.map_nil, wx, I, exec, resOf, reduceIte, reduceCtorEq, ne_eq, not_false_eq_true, Root.bx.injEq, Root.tm.injEq, Nat.reduceAdd, Nat.reduceBEq, Nat.reduceBNe, Nat.reduceEqDiff, Nat.reduceLT, Nat.reduceLeDiff, Nat.reduceMul, Nat.reduceSub, Int.reduceToNat, Int.reduceEq, Int.reduceBEq, Int.reduceBNe, Int.reduceLT, Int.reduceLE, if_true, if_false, Bool.false_eq_true, decide_true, decide_false, List.zipIdx_nil, bne_self_eq_false]
    · have g3 : decide ((cs.length : Int) > 10) = true := by simp; omega
      simp only [g1, g2, g3, unl, fst1, List.map_nil, wx, I, exec, resOf, reduceIte, reduceCtorEq, ne_eq, not_false_eq_true, Root.bx.injEq, Root.tm.injEq, Nat.reduceAdd, Nat.reduceBEq, Nat.reduceBNe, Nat.reduceEqDiff, Nat.reduceLT, Nat.reduceLeDiff, Nat.reduceMul, Nat.reduceSub, Int.reduceToNat, Int.reduceEq, Int.reduceBEq, Int.reduceBNe, Int.reduceLT, Int.reduceLE, if_true, if_false, Bool.false_eq_true, decide_true, decide_false, List.zipIdx_nil, bne_self_eq_false]
  · simp only [g1, unl, fst1, List.map_nil, wx, I, exec, resOf, reduceIte, reduceCtorEq, ne_eq, not_false_eq_true, Root.bx.injEq, Root.tm.injEq, Nat.reduceAdd, Nat.reduceBEq, Nat.reduceBNe, Nat.reduceEqDiff, Nat.reduceLT, Nat.reduceLeDiff, Nat.reduceMul, Nat.reduceSub, Int.reduceToNat, Int.reduceEq, Int.reduceBEq, Int.reduceBNe, Int.reduceLT, Int.reduceLE, if_true, if_false, Bool.false_eq_true, decide_true, decide_false, List.zipIdx_nil, bne_self_eq_false]

theorem wayI_len (p : Plan) (f : Fault) : ∀ (cs : List Int) (s : State) (out : List State) (a : Int) (B : Nat), (∀ m s l, refL (steadyH p) (nextT p f) m s = some l → l.length ≤ m) → out.length ≤ B → (wayI p f cs s out a).1.length ≤ B + cs.length * (nS p + 1)
  | [], s, out, a, B, _, h => by simp only [wayI]; simp; omega
  | c :: cs, s, out, a, B, hr, h => by
    simp only [wayI]
    split
    · simp
    · rename_i x hx
      by_cases h1 : hasI x.exits c = true
      · rw [if_pos h1]
        split
        · rename_i l hl
          have h2 := hr _ _ _ hl
          have := wayI_len p f cs (endS (turnI x s f c).1 l) (out ++ (turnI x s f c).1 :: l) (accOf (nextT p f) (turnI x s f c).1 l (IntKind.i64.wrap (a + (turnI x s f c).2))) (B + (nS p + 1)) hr (by simp; omega)
          simp only [List.length_cons, Nat.add_mul, Nat.one_mul]
          omega
        · simp
      · rw [if_neg h1]; simp

theorem runI_len {p : Plan} (hp : OkP p) (f : Fault) (x : Step) (s : State) (cs : List Int) : (runI p f x s cs).1.length ≤ 1000000 := by
  have hr : ∀ m s l, refL (steadyH p) (nextT p f) m s = some l → l.length ≤ m := fun m s l h => (ref_all (steadyH p) (nextT p f) (fun _ => True) (fun _ _ _ => trivial) m s l h trivial).2.1
  unfold runI
  by_cases h1 : preE x cs = 0
  · rw [if_pos h1]
    have h2 := (pre_zero h1).2
    have h3 := wayI_len p f cs s [] 0 0 hr (by simp)
    have h4 := nS_le hp
    have h5 : cs.length * (nS p + 1) ≤ 10 * 321 := Nat.mul_le_mul h2 (by omega)
    by_cases h6 : (wayI p f cs s [] 0).2.2 = 0
    · rw [if_pos h6]; omega
    · rw [if_neg h6]; simp
  · rw [if_neg h1]; simp

theorem pc_runs (p : Plan) (s : State) (f : Fault) (cs : List Int) : pc E 9 [.agg (cPlan p), .agg (cState s), .agg [I f.signal, .bool f.on, .sl .s 1 (ints cs)]] = some (.bool true) := by
  refine pc_code (mf := f9) rfl ?_
  rw [runF_U rfl]
  have hf := pc_few p
  simp only [f9, pc_awake, hf, wx, I, exec, resOf, reduceIte, reduceCtorEq, ne_eq, not_false_eq_true, Root.bx.injEq, Root.tm.injEq, Nat.reduceAdd, Nat.reduceBEq, Nat.reduceBNe, Nat.reduceEqDiff, Nat.reduceLT, Nat.reduceLeDiff, Nat.reduceMul, Nat.reduceSub, Int.reduceToNat, Int.reduceEq, Int.reduceBEq, Int.reduceBNe, Int.reduceLT, Int.reduceLE, if_true, if_false, Bool.false_eq_true, decide_true, decide_false, List.zipIdx_nil, bne_self_eq_false]
  cases hp : few p
  · simp only [hp, wx, I, exec, resOf, reduceIte, reduceCtorEq, ne_eq, not_false_eq_true, Root.bx.injEq, Root.tm.injEq, Nat.reduceAdd, Nat.reduceBEq, Nat.reduceBNe, Nat.reduceEqDiff, Nat.reduceLT, Nat.reduceLeDiff, Nat.reduceMul, Nat.reduceSub, Int.reduceToNat, Int.reduceEq, Int.reduceBEq, Int.reduceBNe, Int.reduceLT, Int.reduceLE, if_true, if_false, Bool.false_eq_true, decide_true, decide_false, List.zipIdx_nil, bne_self_eq_false]
  · by_cases hl : (cs.length : Int) > 12
    · simp only [hp, hl, ints, wx, I, exec, resOf, reduceIte, reduceCtorEq, ne_eq, not_false_eq_true, Root.bx.injEq, Root.tm.injEq, Nat.reduceAdd, Nat.reduceBEq, Nat.reduceBNe, Nat.reduceEqDiff, Nat.reduceLT, Nat.reduceLeDiff, Nat.reduceMul, Nat.reduceSub, Int.reduceToNat, Int.reduceEq, Int.reduceBEq, Int.reduceBNe, Int.reduceLT, Int.reduceLE, if_true, if_false, Bool.false_eq_true, decide_true, decide_false, List.zipIdx_nil, bne_self_eq_false]
    · have h1 := pc_copy p hp
      have h2 := pc_copyRun f cs (by omega)
      have h5 := pc_bothErr p hp s f
      simp only [cState, cFault, ints] at h2 h5
      by_cases c : bothE p s f = 0
      · obtain ⟨c1, c2, c3⟩ := both_of c
        have hs := okS_of c2
        have ok := okP_of c1
        have d3 := (okF_of c3).2
        obtain ⟨x, hx⟩ := step_at hs.1
        have h3 := pc_RunOf p hp s f cs c x hx
        have h4 := pc_runR p ok (fun x hx => by have := ((few_get hp).2.2.2 x hx).2; omega) f d3 s hs cs x hx
        have h6 := pc_sameStates (runI p f x s cs).1 (runI_len ok f x s cs)
        simp only [cState, cFault, ints, cSts] at h3 h4 h6
        by_cases r : (runI p f x s cs).2.2 = 0
        · simp only [r, if_true] at h3 h4
          simp only [hp, hl, h1, h2, h3, h4, h5, h6, c, beq_self_eq_true, List.replicate, List.set, ints, wx, I, exec, resOf, reduceIte, reduceCtorEq, ne_eq, not_false_eq_true, Root.bx.injEq, Root.tm.injEq, Nat.reduceAdd, Nat.reduceBEq, Nat.reduceBNe, Nat.reduceEqDiff, Nat.reduceLT, Nat.reduceLeDiff, Nat.reduceMul, Nat.reduceSub, Int.reduceToNat, Int.reduceEq, Int.reduceBEq, Int.reduceBNe, Int.reduceLT, Int.reduceLE, if_true, if_false, Bool.false_eq_true, decide_true, decide_false, List.zipIdx_nil, bne_self_eq_false]
        · simp only [r, if_false] at h3 h4
          simp only [hp, hl, h1, h2, h3, h4, h5, h6, c, beq_self_eq_true, List.replicate, List.set, ints, wx, I, exec, resOf, reduceIte, reduceCtorEq, ne_eq, not_false_eq_true, Root.bx.injEq, Root.tm.injEq, Nat.reduceAdd, Nat.reduceBEq, Nat.reduceBNe, Nat.reduceEqDiff, Nat.reduceLT, Nat.reduceLeDiff, Nat.reduceMul, Nat.reduceSub, Int.reduceToNat, Int.reduceEq, Int.reduceBEq, Int.reduceBNe, Int.reduceLT, Int.reduceLE, if_true, if_false, Bool.false_eq_true, decide_true, decide_false, List.zipIdx_nil, bne_self_eq_false]
      · have h3 := pc_RunOf_bad p hp s f cs c
        have h6 := pc_sameStates [] (by simp)
        have c2 : (bothE p s f == 0) = false := by simp [c]
        simp only [cState, cFault, ints, cSts, List.map_nil] at h3 h6
        simp only [hp, hl, h1, h2, h3, h5, h6, c2, beq_self_eq_true, List.replicate, List.set, ints, wx, I, exec, resOf, reduceIte, reduceCtorEq, ne_eq, not_false_eq_true, Root.bx.injEq, Root.tm.injEq, Nat.reduceAdd, Nat.reduceBEq, Nat.reduceBNe, Nat.reduceEqDiff, Nat.reduceLT, Nat.reduceLeDiff, Nat.reduceMul, Nat.reduceSub, Int.reduceToNat, Int.reduceEq, Int.reduceBEq, Int.reduceBNe, Int.reduceLT, Int.reduceLE, if_true, if_false, Bool.false_eq_true, decide_true, decide_false, List.zipIdx_nil, bne_self_eq_false]

end Go.ViD
