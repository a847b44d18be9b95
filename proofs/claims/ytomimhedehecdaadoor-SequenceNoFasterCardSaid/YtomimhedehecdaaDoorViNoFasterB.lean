/- SequenceNoFaster: what it answers, from end to end. -/
import Derived.Test.YtomimhedehecdaaDoorViNoFaster
set_option linter.unusedSimpArgs false
set_option linter.unusedVariables false
namespace Go.ViD
open Go.Vi

set_option maxRecDepth 8000 in
set_option maxHeartbeats 1600000 in
theorem pc_noFaster_main (p : Plan) (s : State) (cs : List Int) (to : Int) (hp : few p = true) (c1 : bothE p s noF = 0) (c2 : idxE p to = 0) (c3 : light p = true) (hc : cs.length ≤ 10) : pc E 11 [.agg (cPlan p), .agg (cState s), .agg [.sl .s 1 (ints cs), I to]] = some (.bool true) := by
  refine pc_code (mf := f11) rfl ?_
  rw [runF_U rfl]
  have hf := pc_few p
  have hfg := few_get hp
  have h2 := pc_light p
  have h3 := pc_copy p hp
  have h4 := pc_FastestWay p hp s to
  have h5 := pc_bothErr p hp s noF
  have h6 := pc_idxErrR p (by omega) to
  have h7 := pc_copyInts cs (by omega)
  obtain ⟨b1, b2, b3⟩ := both_of c1
  have ok := okP_of b1
  have hs := okS_of b2
  obtain ⟨x, hx⟩ := step_at hs.1
  have hs0 := hs.1.1
  have h8 := pc_RunOf p hp s noF cs c1 x hx
  have h9 : ¬ (cs.length : Int) > 10 := by omega
  have hF := @runI_bad p noF x s cs
  have hlen := runI_len ok noF x s cs
  have key : (fastE p s to = 20) ∨ (goodS p s ∧ fastE p s to = 0) := by
    rcases fastE_cases p s to with ⟨d1, d2⟩ | ⟨d1, d2, d3⟩ | ⟨d1, d2, d3, d4⟩ | ⟨d1, d2, d3, d4, d5⟩
    · exact absurd c1 d1
    · exact absurd c2 d2
    · exact Or.inl d4
    · exact Or.inr ⟨⟨hs, d3⟩, d5⟩
  simp only [cState, cFault, ints] at h4 h5 h7 h8
  have hrc : goodS p s → _ := fun hg => run_cases ok hg hx cs hc
  generalize runI p noF x s cs = F at h8 hF hlen hrc
  obtain ⟨O, T, e⟩ := F
  simp only at h8 hF hlen hrc
  -- where the run ends, as the program sees it
  have hend : ∀ (h : O ≠ []), (cSts O)[O.length - 1]? = some (cState (endOf s O)) := fun h => by rw [List.getElem?_map, endOf_last s O h]; rfl
  have hlow : O ≠ [] → ((O.length : Int) > 0) ∧ IntKind.i64.wrap ((O.length : Int) - 1) = ((O.length - 1 : Nat) : Int) := fun h => by
    have : 0 < O.length := List.length_pos_iff.2 h
    exact ⟨by omega, by rw [wrap_id (by omega) (by omega)]; omega⟩
  rcases key with k | ⟨hg, k⟩
  · rw [k, if_neg (by decide)] at h4
    by_cases g1 : e = 0
    · subst g1
      rw [if_pos rfl] at h8
      by_cases g2 : O = []
      · subst g2
        simp only [cSts, List.map_nil] at h8
        simp only [f11, pc_awake, hf, hp, h2, h3, h4, h5, h6, h7, h8, h9, c1, c2, c3, x21, hs0, beq_self_eq_true, Int.reduceGT, List.replicate, List.set, List.map_nil, ints, cState, wx, I, exec, resOf, reduceIte, reduceCtorEq, ne_eq, not_false_eq_true, Root.bx.injEq, Root.tm.injEq, Nat.reduceAdd, Nat.reduceBEq, Nat.reduceBNe, Nat.reduceEqDiff, Nat.reduceLT, Nat.reduceLeDiff, Nat.reduceMul, Nat.reduceSub, Int.reduceToNat, Int.reduceEq, Int.reduceBEq, Int.reduceBNe, Int.reduceLT, Int.reduceLE, if_true, if_false, Bool.false_eq_true, decide_true, decide_false, List.zipIdx_nil, bne_self_eq_false]
      · have hl := hend g2
        obtain ⟨hl1, hl2⟩ := hlow g2
        simp only [cSts, cState] at h8 hl
        simp only [f11, pc_awake, hf, hp, h2, h3, h4, h5, h6, h7, h8, h9, c1, c2, c3, x21, hs0, hl, hl1, hl2, List.length_map, beq_self_eq_true, Int.reduceGT, List.replicate, List.set, List.map_nil, ints, cState, wx, I, exec, resOf, reduceIte, reduceCtorEq, ne_eq, not_false_eq_true, Root.bx.injEq, Root.tm.injEq, Nat.reduceAdd, Nat.reduceBEq, Nat.reduceBNe, Nat.reduceEqDiff, Nat.reduceLT, Nat.reduceLeDiff, Nat.reduceMul, Nat.reduceSub, Int.reduceToNat, Int.reduceEq, Int.reduceBEq, Int.reduceBNe, Int.reduceLT, Int.reduceLE, if_true, if_false, Bool.false_eq_true, decide_true, decide_false, List.zipIdx_nil, bne_self_eq_false]
    · have g2 := hF g1
      subst g2
      rw [if_neg g1] at h8
      simp only [cSts, List.map_nil] at h8
      simp only [f11, pc_awake, hf, hp, h2, h3, h4, h5, h6, h7, h8, h9, c1, c2, c3, x21, hs0, beq_self_eq_true, Int.reduceGT, List.replicate, List.set, List.map_nil, ints, cState, wx, I, exec, resOf, reduceIte, reduceCtorEq, ne_eq, not_false_eq_true, Root.bx.injEq, Root.tm.injEq, Nat.reduceAdd, Nat.reduceBEq, Nat.reduceBNe, Nat.reduceEqDiff, Nat.reduceLT, Nat.reduceLeDiff, Nat.reduceMul, Nat.reduceSub, Int.reduceToNat, Int.reduceEq, Int.reduceBEq, Int.reduceBNe, Int.reduceLT, Int.reduceLE, if_true, if_false, Bool.false_eq_true, decide_true, decide_false, List.zipIdx_nil, bne_self_eq_false]
  · rw [k, if_pos rfl] at h4
    have hr := hrc hg
    cases hb : bestN p s to 11 with
    | none =>
      rw [hb] at h4
      simp only [wcs, wtm, Option.isSome_none, unl, List.map_nil] at h4
      by_cases g1 : e = 0
      · subst g1
        rw [if_pos rfl] at h8
        obtain ⟨e', -, q1, q2, -⟩ := hr.resolve_right fun h => h.1 rfl
        have q3 : (endOf s O).step ≠ to := fun h => best_none ok hg 11 hb cs.length e' ⟨cs, T⟩ (by omega) (by rw [← q2]; exact h) q1
        have q4 : ((endOf s O).step != to) = true := by simpa using q3
        by_cases g2 : O = []
        · subst g2
          have q5 : (s.step != to) = true := q4
          simp only [cSts, List.map_nil] at h8
          simp only [f11, pc_awake, hf, hp, h2, h3, h4, h5, h6, h7, h8, h9, c1, c2, c3, x21, hs0, q5, beq_self_eq_true, Int.reduceGT, List.replicate, List.set, List.map_nil, ints, cState, wx, I, exec, resOf, reduceIte, reduceCtorEq, ne_eq, not_false_eq_true, Root.bx.injEq, Root.tm.injEq, Nat.reduceAdd, Nat.reduceBEq, Nat.reduceBNe, Nat.reduceEqDiff, Nat.reduceLT, Nat.reduceLeDiff, Nat.reduceMul, Nat.reduceSub, Int.reduceToNat, Int.reduceEq, Int.reduceBEq, Int.reduceBNe, Int.reduceLT, Int.reduceLE, if_true, if_false, Bool.false_eq_true, decide_true, decide_false, List.zipIdx_nil, bne_self_eq_false]
        · have hl := hend g2
          obtain ⟨hl1, hl2⟩ := hlow g2
          simp only [cSts, cState] at h8 hl
          simp only [f11, pc_awake, hf, hp, h2, h3, h4, h5, h6, h7, h8, h9, c1, c2, c3, x21, hs0, hl, hl1, hl2, q4, List.length_map, beq_self_eq_true, Int.reduceGT, List.replicate, List.set, List.map_nil, ints, cState, wx, I, exec, resOf, reduceIte, reduceCtorEq, ne_eq, not_false_eq_true, Root.bx.injEq, Root.tm.injEq, Nat.reduceAdd, Nat.reduceBEq, Nat.reduceBNe, Nat.reduceEqDiff, Nat.reduceLT, Nat.reduceLeDiff, Nat.reduceMul, Nat.reduceSub, Int.reduceToNat, Int.reduceEq, Int.reduceBEq, Int.reduceBNe, Int.reduceLT, Int.reduceLE, if_true, if_false, Bool.false_eq_true, decide_true, decide_false, List.zipIdx_nil, bne_self_eq_false]
      · have g2 := hF g1
        have g3 : (e != 0) = true := by simp [g1]
        subst g2
        rw [if_neg g1] at h8
        simp only [cSts, List.map_nil] at h8
        simp only [f11, pc_awake, hf, hp, h2, h3, h4, h5, h6, h7, h8, h9, c1, c2, c3, x21, hs0, g3, beq_self_eq_true, Int.reduceGT, List.replicate, List.set, List.map_nil, ints, cState, wx, I, exec, resOf, reduceIte, reduceCtorEq, ne_eq, not_false_eq_true, Root.bx.injEq, Root.tm.injEq, Nat.reduceAdd, Nat.reduceBEq, Nat.reduceBNe, Nat.reduceEqDiff, Nat.reduceLT, Nat.reduceLeDiff, Nat.reduceMul, Nat.reduceSub, Int.reduceToNat, Int.reduceEq, Int.reduceBEq, Int.reduceBNe, Int.reduceLT, Int.reduceLE, if_true, if_false, Bool.false_eq_true, decide_true, decide_false, List.zipIdx_nil, bne_self_eq_false]
    | some b =>
      rw [hb] at h4
      simp only [wcs, wtm, Option.isSome_some, unl] at h4
      obtain ⟨r1, r2, r3, r4, r5, r6, r7, r8, r9⟩ := best_run ok hg hx hb
      have hmin := (best_some ok hg 11 hb).2
      have h10 := pc_RunOf p hp s noF b.cs c1 x hx
      have hlen2 := runI_len ok noF x s b.cs
      rw [r4, r5, if_pos rfl] at h10
      generalize (runI p noF x s b.cs).1 = O2 at h10 hlen2 r6 r7 r8 r9
      have r1' : ¬ (b.cs.length : Int) > 10 := by omega
      have r6' : ((endOf s O2).step == to) = true := by simpa using r6
      have hend2 : ∀ (h : O2 ≠ []), (cSts O2)[O2.length - 1]? = some (cState (endOf s O2)) := fun h => by rw [List.getElem?_map, endOf_last s O2 h]; rfl
      simp only [cState, cFault, ints] at h10
      have tail : (O2 = [] ∧ b.cs = [] ∧ (s.step == to) = true) ∨ (O2 ≠ [] ∧ b.cs ≠ [] ∧ ((O2.length : Int) == 0) = false ∧ ((b.cs.length : Int) == 0) = false ∧ ((O2.length : Int) > 0) ∧ IntKind.i64.wrap ((O2.length : Int) - 1) = ((O2.length - 1 : Nat) : Int)) := by
        by_cases g : O2 = []
        · left
          subst g
          exact ⟨rfl, r8.1 rfl, r6'⟩
        · right
          have q : b.cs ≠ [] := fun h => g (r8.2 h)
          have l1 : 0 < O2.length := List.length_pos_iff.2 g
          have l2 : 0 < b.cs.length := List.length_pos_iff.2 q
          refine ⟨g, q, by simp [g], by simp [q], by omega, by rw [wrap_id (by omega) (by omega)]; omega⟩
      by_cases g1 : e = 0
      · subst g1
        rw [if_pos rfl] at h8
        obtain ⟨e', -, q1, q2, -⟩ := hr.resolve_right fun h => h.1 rfl
        have q3 : (endOf s O).step = to → ¬ T < b.tm := fun q h => by
          have := hmin cs.length e' ⟨cs, T⟩ (by omega) (by rw [← q2]; exact q) q1
          exact this (Or.inl h)
        rcases tail with ⟨t1, t2, t3⟩ | ⟨t1, t2, t3, t4, t5, t6⟩
        · rw [t2] at h4 h10
          rw [t1] at h10
          simp only [cSts, List.map_nil] at h4 h10
          by_cases g2 : O = []
          · subst g2
            have q4 : s.step = to := by simpa using t3
            have q5 := q3 q4
            simp only [cSts, List.map_nil] at h8
            simp only [f11, pc_awake, hf, hp, h2, h3, h4, h5, h6, h7, h8, h9, c1, c2, c3, x21, hs0, t3, q5, h10, beq_self_eq_true, Int.reduceGT, List.replicate, List.set, List.map_nil, ints, cState, wx, I, exec, resOf, reduceIte, reduceCtorEq, ne_eq, not_false_eq_true, Root.bx.injEq, Root.tm.injEq, Nat.reduceAdd, Nat.reduceBEq, Nat.reduceBNe, Nat.reduceEqDiff, Nat.reduceLT, Nat.reduceLeDiff, Nat.reduceMul, Nat.reduceSub, Int.reduceToNat, Int.reduceEq, Int.reduceBEq, Int.reduceBNe, Int.reduceLT, Int.reduceLE, if_true, if_false, Bool.false_eq_true, decide_true, decide_false, List.zipIdx_nil, bne_self_eq_false]
          · have hl := hend g2
            obtain ⟨hl1, hl2⟩ := hlow g2
            simp only [cSts, cState] at h8 hl
            by_cases q4 : (endOf s O).step = to
            · have q5 := q3 q4
              have q6 : ((endOf s O).step == to) = true := by simpa using q4
              simp only [f11, pc_awake, hf, hp, h2, h3, h4, h5, h6, h7, h8, h9, c1, c2, c3, x21, hs0, hl, hl1, hl2, q5, q6, t3, h10, List.length_map, beq_self_eq_true, Int.reduceGT, List.replicate, List.set, List.map_nil, ints, cState, wx, I, exec, resOf, reduceIte, reduceCtorEq, ne_eq, not_false_eq_true, Root.bx.injEq, Root.tm.injEq, Nat.reduceAdd, Nat.reduceBEq, Nat.reduceBNe, Nat.reduceEqDiff, Nat.reduceLT, Nat.reduceLeDiff, Nat.reduceMul, Nat.reduceSub, Int.reduceToNat, Int.reduceEq, Int.reduceBEq, Int.reduceBNe, Int.reduceLT, Int.reduceLE, if_true, if_false, Bool.false_eq_true, decide_true, decide_false, List.zipIdx_nil, bne_self_eq_false]
            · have q6 : ((endOf s O).step == to) = false := by simpa using q4
              simp only [f11, pc_awake, hf, hp, h2, h3, h4, h5, h6, h7, h8, h9, c1, c2, c3, x21, hs0, hl, hl1, hl2, q6, t3, h10, List.length_map, beq_self_eq_true, Int.reduceGT, List.replicate, List.set, List.map_nil, ints, cState, wx, I, exec, resOf, reduceIte, reduceCtorEq, ne_eq, not_false_eq_true, Root.bx.injEq, Root.tm.injEq, Nat.reduceAdd, Nat.reduceBEq, Nat.reduceBNe, Nat.reduceEqDiff, Nat.reduceLT, Nat.reduceLeDiff, Nat.reduceMul, Nat.reduceSub, Int.reduceToNat, Int.reduceEq, Int.reduceBEq, Int.reduceBNe, Int.reduceLT, Int.reduceLE, if_true, if_false, Bool.false_eq_true, decide_true, decide_false, List.zipIdx_nil, bne_self_eq_false]
        · have hm := hend2 t1
          simp only [cSts, cState] at h10 hm
          by_cases g2 : O = []
          · subst g2
            simp only [cSts, List.map_nil] at h8
            by_cases q4 : s.step = to
            · have q5 := q3 q4
              have q6 : (s.step == to) = true := by simpa using q4
              simp only [f11, pc_awake, hf, hp, h2, h3, h4, h5, h6, h7, h8, h9, c1, c2, c3, x21, hs0, q5, q6, h10, r1', t3, t4, t5, t6, hm, r6', List.length_map, beq_self_eq_true, Int.reduceGT, List.replicate, List.set, List.map_nil, ints, cState, wx, I, exec, resOf, reduceIte, reduceCtorEq, ne_eq, not_false_eq_true, Root.bx.injEq, Root.tm.injEq, Nat.reduceAdd, Nat.reduceBEq, Nat.reduceBNe, Nat.reduceEqDiff, Nat.reduceLT, Nat.reduceLeDiff, Nat.reduceMul, Nat.reduceSub, Int.reduceToNat, Int.reduceEq, Int.reduceBEq, Int.reduceBNe, Int.reduceLT, Int.reduceLE, if_true, if_false, Bool.false_eq_true, decide_true, decide_false, List.zipIdx_nil, bne_self_eq_false]
            · have q6 : (s.step == to) = false := by simpa using q4
              simp only [f11, pc_awake, hf, hp, h2, h3, h4, h5, h6, h7, h8, h9, c1, c2, c3, x21, hs0, q6, h10, r1', t3, t4, t5, t6, hm, r6', List.length_map, beq_self_eq_true, Int.reduceGT, List.replicate, List.set, List.map_nil, ints, cState, wx, I, exec, resOf, reduceIte, reduceCtorEq, ne_eq, not_false_eq_true, Root.bx.injEq, Root.tm.injEq, Nat.reduceAdd, Nat.reduceBEq, Nat.reduceBNe, Nat.reduceEqDiff, Nat.reduceLT, Nat.reduceLeDiff, Nat.reduceMul, Nat.reduceSub, Int.reduceToNat, Int.reduceEq, Int.reduceBEq, Int.reduceBNe, Int.reduceLT, Int.reduceLE, if_true, if_false, Bool.false_eq_true, decide_true, decide_false, List.zipIdx_nil, bne_self_eq_false]
          · have hl := hend g2
            obtain ⟨hl1, hl2⟩ := hlow g2
            simp only [cSts, cState] at h8 hl
            by_cases q4 : (endOf s O).step = to
            · have q5 := q3 q4
              have q6 : ((endOf s O).step == to) = true := by simpa using q4
              simp only [f11, pc_awake, hf, hp, h2, h3, h4, h5, h6, h7, h8, h9, c1, c2, c3, x21, hs0, hl, hl1, hl2, q5, q6, h10, r1', t3, t4, t5, t6, hm, r6', List.length_map, beq_self_eq_true, Int.reduceGT, List.replicate, List.set, List.map_nil, ints, cState, wx, I, exec, resOf, reduceIte, reduceCtorEq, ne_eq, not_false_eq_true, Root.bx.injEq, Root.tm.injEq, Nat.reduceAdd, Nat.reduceBEq, Nat.reduceBNe, Nat.reduceEqDiff, Nat.reduceLT, Nat.reduceLeDiff, Nat.reduceMul, Nat.reduceSub, Int.reduceToNat, Int.reduceEq, Int.reduceBEq, Int.reduceBNe, Int.reduceLT, Int.reduceLE, if_true, if_false, Bool.false_eq_true, decide_true, decide_false, List.zipIdx_nil, bne_self_eq_false]
            · have q6 : ((endOf s O).step == to) = false := by simpa using q4
              simp only [f11, pc_awake, hf, hp, h2, h3, h4, h5, h6, h7, h8, h9, c1, c2, c3, x21, hs0, hl, hl1, hl2, q6, h10, r1', t3, t4, t5, t6, hm, r6', List.length_map, beq_self_eq_true, Int.reduceGT, List.replicate, List.set, List.map_nil, ints, cState, wx, I, exec, resOf, reduceIte, reduceCtorEq, ne_eq, not_false_eq_true, Root.bx.injEq, Root.tm.injEq, Nat.reduceAdd, Nat.reduceBEq, Nat.reduceBNe, Nat.reduceEqDiff, Nat.reduceLT, Nat.reduceLeDiff, Nat.reduceMul, Nat.reduceSub, Int.reduceToNat, Int.reduceEq, Int.reduceBEq, Int.reduceBNe, Int.reduceLT, Int.reduceLE, if_true, if_false, Bool.false_eq_true, decide_true, decide_false, List.zipIdx_nil, bne_self_eq_false]
      · have g2 := hF g1
        have g3 : (e != 0) = true := by simp [g1]
        have g4 : (e == 0) = false := by simp [g1]
        subst g2
        rw [if_neg g1] at h8
        simp only [cSts, List.map_nil] at h8
        rcases tail with ⟨t1, t2, t3⟩ | ⟨t1, t2, t3, t4, t5, t6⟩
        · rw [t2] at h4 h10
          rw [t1] at h10
          simp only [cSts, List.map_nil] at h4 h10
          simp only [f11, pc_awake, hf, hp, h2, h3, h4, h5, h6, h7, h8, h9, c1, c2, c3, x21, hs0, g3, g4, h10, t3, beq_self_eq_true, Int.reduceGT, List.replicate, List.set, List.map_nil, ints, cState, wx, I, exec, resOf, reduceIte, reduceCtorEq, ne_eq, not_false_eq_true, Root.bx.injEq, Root.tm.injEq, Nat.reduceAdd, Nat.reduceBEq, Nat.reduceBNe, Nat.reduceEqDiff, Nat.reduceLT, Nat.reduceLeDiff, Nat.reduceMul, Nat.reduceSub, Int.reduceToNat, Int.reduceEq, Int.reduceBEq, Int.reduceBNe, Int.reduceLT, Int.reduceLE, if_true, if_false, Bool.false_eq_true, decide_true, decide_false, List.zipIdx_nil, bne_self_eq_false]
        · have hl := hend2 t1
          simp only [cSts, cState] at h10 hl
          simp only [f11, pc_awake, hf, hp, h2, h3, h4, h5, h6, h7, h8, h9, c1, c2, c3, x21, hs0, g3, g4, h10, r1', t3, t4, t5, t6, hl, r6', List.length_map, beq_self_eq_true, Int.reduceGT, List.replicate, List.set, List.map_nil, ints, cState, wx, I, exec, resOf, reduceIte, reduceCtorEq, ne_eq, not_false_eq_true, Root.bx.injEq, Root.tm.injEq, Nat.reduceAdd, Nat.reduceBEq, Nat.reduceBNe, Nat.reduceEqDiff, Nat.reduceLT, Nat.reduceLeDiff, Nat.reduceMul, Nat.reduceSub, Int.reduceToNat, Int.reduceEq, Int.reduceBEq, Int.reduceBNe, Int.reduceLT, Int.reduceLE, if_true, if_false, Bool.false_eq_true, decide_true, decide_false, List.zipIdx_nil, bne_self_eq_false]

theorem pc_noFaster (p : Plan) (s : State) (cs : List Int) (to : Int) : pc E 11 [.agg (cPlan p), .agg (cState s), .agg [.sl .s 1 (ints cs), I to]] = some (.bool true) := by
  by_cases hall : few p = true ∧ bothE p s noF = 0 ∧ light p = true ∧ idxE p to = 0 ∧ cs.length ≤ 10
  · obtain ⟨hp, c1, c3, c2, hc⟩ := hall
    exact pc_noFaster_main p s cs to hp c1 c2 c3 hc
  · refine pc_code (mf := f11) rfl ?_
    rw [runF_U rfl]
    have hf := pc_few p
    cases hp : few p
    · simp only [f11, pc_awake, hf, hp, cState, ints, wx, I, exec, resOf, reduceIte, reduceCtorEq, ne_eq, not_false_eq_true, Root.bx.injEq, Root.tm.injEq, Nat.reduceAdd, Nat.reduceBEq, Nat.reduceBNe, Nat.reduceEqDiff, Nat.reduceLT, Nat.reduceLeDiff, Nat.reduceMul, Nat.reduceSub, Int.reduceToNat, Int.reduceEq, Int.reduceBEq, Int.reduceBNe, Int.reduceLT, Int.reduceLE, if_true, if_false, Bool.false_eq_true, decide_true, decide_false, List.zipIdx_nil, bne_self_eq_false]
    · have hfg := few_get hp
      have h2 := pc_light p
      have h5 := pc_bothErr p hp s noF
      have h6 := pc_idxErrR p (by omega) to
      simp only [cState, cFault] at h5
      by_cases c1 : bothE p s noF = 0
      · cases c3 : light p
        · simp only [f11, pc_awake, hf, hp, h2, h5, x21, c1, c3, cState, ints, wx, I, exec, resOf, reduceIte, reduceCtorEq, ne_eq, not_false_eq_true, Root.bx.injEq, Root.tm.injEq, Nat.reduceAdd, Nat.reduceBEq, Nat.reduceBNe, Nat.reduceEqDiff, Nat.reduceLT, Nat.reduceLeDiff, Nat.reduceMul, Nat.reduceSub, Int.reduceToNat, Int.reduceEq, Int.reduceBEq, Int.reduceBNe, Int.reduceLT, Int.reduceLE, if_true, if_false, Bool.false_eq_true, decide_true, decide_false, List.zipIdx_nil, bne_self_eq_false]
        · by_cases c2 : idxE p to = 0
          · have hc : (cs.length : Int) > 10 := by
              have : ¬ cs.length ≤ 10 := fun h => hall ⟨hp, c1, c3, c2, h⟩
              omega
            simp only [f11, pc_awake, hf, hp, h2, h5, h6, x21, c1, c2, c3, hc, cState, ints, wx, I, exec, resOf, reduceIte, reduceCtorEq, ne_eq, not_false_eq_true, Root.bx.injEq, Root.tm.injEq, Nat.reduceAdd, Nat.reduceBEq, Nat.reduceBNe, Nat.reduceEqDiff, Nat.reduceLT, Nat.reduceLeDiff, Nat.reduceMul, Nat.reduceSub, Int.reduceToNat, Int.reduceEq, Int.reduceBEq, Int.reduceBNe, Int.reduceLT, Int.reduceLE, if_true, if_false, Bool.false_eq_true, decide_true, decide_false, List.zipIdx_nil, bne_self_eq_false]
          · have d2 : (idxE p to != 0) = true := by simp [c2]
            simp only [f11, pc_awake, hf, hp, h2, h5, h6, x21, c1, d2, c3, cState, ints, wx, I, exec, resOf, reduceIte, reduceCtorEq, ne_eq, not_false_eq_true, Root.bx.injEq, Root.tm.injEq, Nat.reduceAdd, Nat.reduceBEq, Nat.reduceBNe, Nat.reduceEqDiff, Nat.reduceLT, Nat.reduceLeDiff, Nat.reduceMul, Nat.reduceSub, Int.reduceToNat, Int.reduceEq, Int.reduceBEq, Int.reduceBNe, Int.reduceLT, Int.reduceLE, if_true, if_false, Bool.false_eq_true, decide_true, decide_false, List.zipIdx_nil, bne_self_eq_false]
      · have d1 : (bothE p s noF != 0) = true := by simp [c1]
        simp only [f11, pc_awake, hf, hp, h2, h5, x21, d1, cState, ints, wx, I, exec, resOf, reduceIte, reduceCtorEq, ne_eq, not_false_eq_true, Root.bx.injEq, Root.tm.injEq, Nat.reduceAdd, Nat.reduceBEq, Nat.reduceBNe, Nat.reduceEqDiff, Nat.reduceLT, Nat.reduceLeDiff, Nat.reduceMul, Nat.reduceSub, Int.reduceToNat, Int.reduceEq, Int.reduceBEq, Int.reduceBNe, Int.reduceLT, Int.reduceLE, if_true, if_false, Bool.false_eq_true, decide_true, decide_false, List.zipIdx_nil, bne_self_eq_false]

end Go.ViD
