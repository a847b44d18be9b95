/- SequencePlans: what it answers. -/
import Derived.Test.YtomimhedehecdaaDoorViGPlanB
import Derived.Test.YtomimhedehecdaaDoorViAwakeD
set_option linter.unusedSimpArgs false
set_option linter.unusedVariables false
namespace Go.ViD
open Go.Vi

/-- The faults of so many signals. -/
def fl : Nat → List Fault
  | 0 => [⟨-1, false⟩]
  | n + 1 => fl n ++ [⟨n, false⟩, ⟨n, true⟩]

theorem fl_len : ∀ n, (fl n).length = 2 * n + 1
  | 0 => rfl
  | n + 1 => by rw [fl, List.length_append, fl_len n]; simp; omega

abbrev cFl (l : List Fault) : List (List V) := l.map cFault

theorem pc_none : pc E 21 [] = some (.agg [I (-1), .bool false]) := by
  refine pc_code (mf := f21) rfl ?_
  rw [runF_U rfl]
  simp only [f21, wx, I, exec, resOf, reduceIte, reduceCtorEq, ne_eq, not_false_eq_true, Root.bx.injEq, Root.tm.injEq, Nat.reduceAdd, Nat.reduceBEq, Nat.reduceBNe, Nat.reduceEqDiff, Nat.reduceLT, Nat.reduceLeDiff, Nat.reduceMul, Nat.reduceSub, Int.reduceToNat, Int.reduceEq, Int.reduceBEq, Int.reduceBNe, Int.reduceLT, Int.reduceLE, if_true, if_false, Bool.false_eq_true, decide_true, decide_false, List.zipIdx_nil, bne_self_eq_false]

theorem loop106 (n : Nat) (hn : n ≤ 1000) {t : List Todo} {k : Ex → St → Option V} :
    ∀ (m i : Nat), i + m = n → U (pc E) (.c (.loop f106l0) :: t) .normal ⟨[(3, .sl .a 2 (cFl (fl i))), (10, I n), (11, I i)], []⟩ k =
      U (pc E) t (.exit 0) ⟨[(3, .sl .a 2 (cFl (fl n)))], []⟩ k
  | 0, i, hm => by
    rw [U_loop' f106l0.eq_1]
    have h0 : ¬ ((i : Int) < (n : Int)) := by omega
    simp only [h0, wx, I, exec, resOf, reduceIte, reduceCtorEq, ne_eq, not_false_eq_true, Root.bx.injEq, Root.tm.injEq, Nat.reduceAdd, Nat.reduceBEq, Nat.reduceBNe, Nat.reduceEqDiff, Nat.reduceLT, Nat.reduceLeDiff, Nat.reduceMul, Nat.reduceSub, Int.reduceToNat, Int.reduceEq, Int.reduceBEq, Int.reduceBNe, Int.reduceLT, Int.reduceLE, if_true, if_false, Bool.false_eq_true, decide_true, decide_false, List.zipIdx_nil, bne_self_eq_false]
    rw [show i = n by omega]
  | m + 1, i, hm => by
    rw [U_loop' f106l0.eq_1]
    have h0 : ((i : Int) < (n : Int)) := by omega
    have ih := loop106 n hn (t := t) (k := k) m (i + 1) (by omega)
    have hw := wrap_succ (i := i) (by omega)
    have hr : room ((fl i).length + 2) 16 = true := room_ok (by rw [fl_len]; omega) (by omega)
    simp only [fl, cFl, List.map_append, List.map_cons, List.map_nil, cFault] at ih
    simp only [h0, hw, hr, cFl, cFault, ih, List.length_map, List.replicate, List.set, wx, I, exec, resOf, reduceIte, reduceCtorEq, ne_eq, not_false_eq_true, Root.bx.injEq, Root.tm.injEq, Nat.reduceAdd, Nat.reduceBEq, Nat.reduceBNe, Nat.reduceEqDiff, Nat.reduceLT, Nat.reduceLeDiff, Nat.reduceMul, Nat.reduceSub, Int.reduceToNat, Int.reduceEq, Int.reduceBEq, Int.reduceBNe, Int.reduceLT, Int.reduceLE, if_true, if_false, Bool.false_eq_true, decide_true, decide_false, List.zipIdx_nil, bne_self_eq_false]

theorem pc_faults (p : Plan) (hp : few p = true) : pc E 106 [.agg (cPlan p)] = some (.sl .s 2 (cFl (fl p.signals.length))) := by
  obtain ⟨h1, h2, -, -⟩ := few_get hp
  refine pc_code (mf := f106) rfl ?_
  rw [runF_U rfl]
  have hl := fun t k => loop106 p.signals.length (by omega) (t := t) (k := k) p.signals.length 0 (by omega)
  simp only [fl, cFl, List.map_cons, List.map_nil, Int.cast_ofNat_Int] at hl
  simp only [f106, strs, glob0, hl, List.replicate, List.set, wx, I, exec, resOf, reduceIte, reduceCtorEq, ne_eq, not_false_eq_true, Root.bx.injEq, Root.tm.injEq, Nat.reduceAdd, Nat.reduceBEq, Nat.reduceBNe, Nat.reduceEqDiff, Nat.reduceLT, Nat.reduceLeDiff, Nat.reduceMul, Nat.reduceSub, Int.reduceToNat, Int.reduceEq, Int.reduceBEq, Int.reduceBNe, Int.reduceLT, Int.reduceLE, if_true, if_false, Bool.false_eq_true, decide_true, decide_false, List.zipIdx_nil, bne_self_eq_false]

theorem loop62 (p : Plan) (hn : p.signals.length ≤ 1000) {t : List Todo} {k : Ex → St → Option V} :
    ∀ (m i : Nat), i + m = p.signals.length → U (pc E) (.c (.loop f62l0) :: t) .normal ⟨[(1, .loc 1 0), (3, .sl .a 2 (cFl (fl i))), (4, I i)], [(1, false, cPlan p)]⟩ k =
      U (pc E) t (.exit 0) ⟨[(3, .sl .a 2 (cFl (fl p.signals.length)))], []⟩ k
  | 0, i, hm => by
    rw [U_loop' f62l0.eq_1]
    have h0 : ¬ ((i : Int) < (p.signals.length : Int)) := by omega
    simp only [h0, strs, wx, I, exec, resOf, reduceIte, reduceCtorEq, ne_eq, not_false_eq_true, Root.bx.injEq, Root.tm.injEq, Nat.reduceAdd, Nat.reduceBEq, Nat.reduceBNe, Nat.reduceEqDiff, Nat.reduceLT, Nat.reduceLeDiff, Nat.reduceMul, Nat.reduceSub, Int.reduceToNat, Int.reduceEq, Int.reduceBEq, Int.reduceBNe, Int.reduceLT, Int.reduceLE, if_true, if_false, Bool.false_eq_true, decide_true, decide_false, List.zipIdx_nil, bne_self_eq_false]
    rw [show i = p.signals.length by omega]
  | m + 1, i, hm => by
    rw [U_loop' f62l0.eq_1]
    have h0 : ((i : Int) < (p.signals.length : Int)) := by omega
    have ih := loop62 p hn (t := t) (k := k) m (i + 1) (by omega)
    have hw := wrap_succ (i := i) (by omega)
    have hr : room ((fl i).length + 2) 16 = true := room_ok (by rw [fl_len]; omega) (by omega)
    simp only [fl, cFl, List.map_append, List.map_cons, List.map_nil, cFault] at ih
    simp only [h0, hw, hr, strs, cFl, cFault, ih, List.length_map, List.replicate, List.set, wx, I, exec, resOf, reduceIte, reduceCtorEq, ne_eq, not_false_eq_true, Root.bx.injEq, Root.tm.injEq, Nat.reduceAdd, Nat.reduceBEq, Nat.reduceBNe, Nat.reduceEqDiff, Nat.reduceLT, Nat.reduceLeDiff, Nat.reduceMul, Nat.reduceSub, Int.reduceToNat, Int.reduceEq, Int.reduceBEq, Int.reduceBNe, Int.reduceLT, Int.reduceLE, if_true, if_false, Bool.false_eq_true, decide_true, decide_false, List.zipIdx_nil, bne_self_eq_false]

theorem pc_faultsR (p : Plan) (hp : few p = true) : pc E 62 [.agg (cPlan p)] = some (.sl .s 2 (cFl (fl p.signals.length))) := by
  obtain ⟨h1, h2, -, -⟩ := few_get hp
  refine pc_code (mf := f62) rfl ?_
  rw [runF_U rfl]
  have hl := fun t k => loop62 p (by omega) (t := t) (k := k) p.signals.length 0 (by omega)
  simp only [fl, cFl, List.map_cons, List.map_nil, Int.cast_ofNat_Int] at hl
  simp only [f62, strs, pc_none, hl, List.replicate, List.set, wx, I, exec, resOf, reduceIte, reduceCtorEq, ne_eq, not_false_eq_true, Root.bx.injEq, Root.tm.injEq, Nat.reduceAdd, Nat.reduceBEq, Nat.reduceBNe, Nat.reduceEqDiff, Nat.reduceLT, Nat.reduceLeDiff, Nat.reduceMul, Nat.reduceSub, Int.reduceToNat, Int.reduceEq, Int.reduceBEq, Int.reduceBNe, Int.reduceLT, Int.reduceLE, if_true, if_false, Bool.false_eq_true, decide_true, decide_false, List.zipIdx_nil, bne_self_eq_false]

theorem loop61 (l : List Fault) (hn : l.length ≤ 1000) {t : List Todo} {k : Ex → St → Option V} :
    ∀ (m i : Nat), i + m = l.length → U (pc E) (.c (.loop f61l0) :: t) .normal ⟨[(0, .sl .s 2 (cFl l)), (1, .sl .s 2 (cFl l)), (5, I i)], []⟩ k =
      U (pc E) t (.exit 0) ⟨[], []⟩ k
  | 0, i, hm => by
    rw [U_loop' f61l0.eq_1]
    have h0 : ¬ ((i : Int) < (l.length : Int)) := by omega
    simp only [h0, cFl, wx, I, exec, resOf, reduceIte, reduceCtorEq, ne_eq, not_false_eq_true, Root.bx.injEq, Root.tm.injEq, Nat.reduceAdd, Nat.reduceBEq, Nat.reduceBNe, Nat.reduceEqDiff, Nat.reduceLT, Nat.reduceLeDiff, Nat.reduceMul, Nat.reduceSub, Int.reduceToNat, Int.reduceEq, Int.reduceBEq, Int.reduceBNe, Int.reduceLT, Int.reduceLE, if_true, if_false, Bool.false_eq_true, decide_true, decide_false, List.zipIdx_nil, bne_self_eq_false]
  | m + 1, i, hm => by
    rw [U_loop' f61l0.eq_1]
    have h0 : ((i : Int) < (l.length : Int)) := by omega
    have hx : l[i]? = some l[i] := List.getElem?_eq_getElem (by omega)
    have ih := loop61 l hn (t := t) (k := k) m (i + 1) (by omega)
    have hw := wrap_succ (i := i) (by omega)
    generalize l[i] = x at hx
    simp only [cFl] at ih
    simp only [h0, hw, hx, cFl, cFault, ih, beq_self_eq_true, wx, I, exec, resOf, reduceIte, reduceCtorEq, ne_eq, not_false_eq_true, Root.bx.injEq, Root.tm.injEq, Nat.reduceAdd, Nat.reduceBEq, Nat.reduceBNe, Nat.reduceEqDiff, Nat.reduceLT, Nat.reduceLeDiff, Nat.reduceMul, Nat.reduceSub, Int.reduceToNat, Int.reduceEq, Int.reduceBEq, Int.reduceBNe, Int.reduceLT, Int.reduceLE, if_true, if_false, Bool.false_eq_true, decide_true, decide_false, List.zipIdx_nil, bne_self_eq_false]

theorem pc_sameFaults (l : List Fault) (hn : l.length ≤ 1000) : pc E 61 [.sl .s 2 (cFl l), .sl .s 2 (cFl l)] = some (.bool true) := by
  refine pc_code (mf := f61) rfl ?_
  rw [runF_U rfl]
  have hl := fun t k => loop61 l hn (t := t) (k := k) l.length 0 (by omega)
  simp only [cFl, Int.cast_ofNat_Int] at hl
  simp only [f61, cFl, hl, wx, I, exec, resOf, reduceIte, reduceCtorEq, ne_eq, not_false_eq_true, Root.bx.injEq, Root.tm.injEq, Nat.reduceAdd, Nat.reduceBEq, Nat.reduceBNe, Nat.reduceEqDiff, Nat.reduceLT, Nat.reduceLeDiff, Nat.reduceMul, Nat.reduceSub, Int.reduceToNat, Int.reduceEq, Int.reduceBEq, Int.reduceBNe, Int.reduceLT, Int.reduceLE, if_true, if_false, Bool.false_eq_true, decide_true, decide_false, List.zipIdx_nil, bne_self_eq_false]

theorem pc_faultsOf (p : Plan) (hp : few p = true) : pc E 57 [.agg (cPlan p)] = some (.tup [.sl (if (planE p).2 = 0 then .s else .a) 2 (if (planE p).2 = 0 then cFl (fl p.signals.length) else []), I (planE p).2]) := by
  refine pc_code (mf := f57) rfl ?_
  rw [runF_U rfl]
  have h1 := pc_open p hp
  have h2 := pc_faults p hp
  simp only [f57, h1, List.replicate, List.set, wx, I, exec, resOf, reduceIte, reduceCtorEq, ne_eq, not_false_eq_true, Root.bx.injEq, Root.tm.injEq, Nat.reduceAdd, Nat.reduceBEq, Nat.reduceBNe, Nat.reduceEqDiff, Nat.reduceLT, Nat.reduceLeDiff, Nat.reduceMul, Nat.reduceSub, Int.reduceToNat, Int.reduceEq, Int.reduceBEq, Int.reduceBNe, Int.reduceLT, Int.reduceLE, if_true, if_false, Bool.false_eq_true, decide_true, decide_false, List.zipIdx_nil, bne_self_eq_false]
  by_cases c : (planE p).2 = 0
  · simp only [c, h2, wx, I, exec, resOf, reduceIte, reduceCtorEq, ne_eq, not_false_eq_true, Root.bx.injEq, Root.tm.injEq, Nat.reduceAdd, Nat.reduceBEq, Nat.reduceBNe, Nat.reduceEqDiff, Nat.reduceLT, Nat.reduceLeDiff, Nat.reduceMul, Nat.reduceSub, Int.reduceToNat, Int.reduceEq, Int.reduceBEq, Int.reduceBNe, Int.reduceLT, Int.reduceLE, if_true, if_false, Bool.false_eq_true, decide_true, decide_false, List.zipIdx_nil, bne_self_eq_false]
  · have c2 : ((planE p).2 != 0) = true := by simp [c]
    simp only [c, c2, h2, wx, I, exec, resOf, reduceIte, reduceCtorEq, ne_eq, not_false_eq_true, Root.bx.injEq, Root.tm.injEq, Nat.reduceAdd, Nat.reduceBEq, Nat.reduceBNe, Nat.reduceEqDiff, Nat.reduceLT, Nat.reduceLeDiff, Nat.reduceMul, Nat.reduceSub, Int.reduceToNat, Int.reduceEq, Int.reduceBEq, Int.reduceBNe, Int.reduceLT, Int.reduceLE, if_true, if_false, Bool.false_eq_true, decide_true, decide_false, List.zipIdx_nil, bne_self_eq_false]

theorem pc_checkState (p : Plan) (hp : few p = true) (s : State) : pc E 58 [.agg (cPlan p), .agg (cState s)] = some (I (bothE p s ⟨-1, false⟩)) := by
  refine pc_code (mf := f58) rfl ?_
  rw [runF_U rfl]
  have h1 := pc_openState p hp s ⟨-1, false⟩
  simp only [cState, cFault] at h1
  simp only [f58, h1, glob0, List.replicate, List.set, wx, I, exec, resOf, reduceIte, reduceCtorEq, ne_eq, not_false_eq_true, Root.bx.injEq, Root.tm.injEq, Nat.reduceAdd, Nat.reduceBEq, Nat.reduceBNe, Nat.reduceEqDiff, Nat.reduceLT, Nat.reduceLeDiff, Nat.reduceMul, Nat.reduceSub, Int.reduceToNat, Int.reduceEq, Int.reduceBEq, Int.reduceBNe, Int.reduceLT, Int.reduceLE, if_true, if_false, Bool.false_eq_true, decide_true, decide_false, List.zipIdx_nil, bne_self_eq_false]

theorem pc_checkFault (p : Plan) (hp : few p = true) (f : Fault) : pc E 59 [.agg (cPlan p), .agg (cFault f)] = some (I (if (planE p).2 = 0 then faultE p f else (planE p).2)) := by
  refine pc_code (mf := f59) rfl ?_
  rw [runF_U rfl]
  have h1 := pc_open p hp
  have h2 := pc_faultErr p hp f
  simp only [cFault] at h2
  simp only [f59, h1, List.replicate, List.set, wx, I, exec, resOf, reduceIte, reduceCtorEq, ne_eq, not_false_eq_true, Root.bx.injEq, Root.tm.injEq, Nat.reduceAdd, Nat.reduceBEq, Nat.reduceBNe, Nat.reduceEqDiff, Nat.reduceLT, Nat.reduceLeDiff, Nat.reduceMul, Nat.reduceSub, Int.reduceToNat, Int.reduceEq, Int.reduceBEq, Int.reduceBNe, Int.reduceLT, Int.reduceLE, if_true, if_false, Bool.false_eq_true, decide_true, decide_false, List.zipIdx_nil, bne_self_eq_false]
  by_cases c : (planE p).2 = 0
  · simp only [c, h2, wx, I, exec, resOf, reduceIte, reduceCtorEq, ne_eq, not_false_eq_true, Root.bx.injEq, Root.tm.injEq, Nat.reduceAdd, Nat.reduceBEq, Nat.reduceBNe, Nat.reduceEqDiff, Nat.reduceLT, Nat.reduceLeDiff, Nat.reduceMul, Nat.reduceSub, Int.reduceToNat, Int.reduceEq, Int.reduceBEq, Int.reduceBNe, Int.reduceLT, Int.reduceLE, if_true, if_false, Bool.false_eq_true, decide_true, decide_false, List.zipIdx_nil, bne_self_eq_false]
  · have c2 : ((planE p).2 == 0) = false := by simp [c]
    simp only [c, c2, h2, wx, I, exec, resOf, reduceIte, reduceCtorEq, ne_eq, not_false_eq_true, Root.bx.injEq, Root.tm.injEq, Nat.reduceAdd, Nat.reduceBEq, Nat.reduceBNe, Nat.reduceEqDiff, Nat.reduceLT, Nat.reduceLeDiff, Nat.reduceMul, Nat.reduceSub, Int.reduceToNat, Int.reduceEq, Int.reduceBEq, Int.reduceBNe, Int.reduceLT, Int.reduceLE, if_true, if_false, Bool.false_eq_true, decide_true, decide_false, List.zipIdx_nil, bne_self_eq_false]

theorem faultE_none (p : Plan) : faultE p ⟨-1, false⟩ = 0 := by
  have c1 : inR (-1) (-1) ((p.signals.length : Int) - 1) = true := by simp only [inR, Bool.and_eq_true, decide_eq_true_eq]; omega
  simp only [faultE, c1, unl, fst1, Bool.not_false, Bool.or_true, if_true]

theorem fst1_z (a : Int) : fst1 [a, 0] = a := by by_cases h : a = 0 <;> simp [fst1, h]

theorem bothE_none (p : Plan) (s : State) (h : (planE p).2 = 0) : bothE p s ⟨-1, false⟩ = stateE p s := by
  rw [bothE, if_pos h, faultE_none, fst1_z]

theorem bothE_bad (p : Plan) (s : State) (f : Fault) (h : ¬ (planE p).2 = 0) : bothE p s f = (planE p).2 := by
  rw [bothE, if_neg h]

theorem pc_plans (p : Plan) (s : State) (f : Fault) : pc E 12 [.agg (cPlan p), .agg (cState s), .agg (cFault f)] = some (.bool true) := by
  refine pc_code (mf := f12) rfl ?_
  rw [runF_U rfl]
  have hf := pc_few p
  simp only [f12, pc_awake, hf, wx, I, exec, resOf, reduceIte, reduceCtorEq, ne_eq, not_false_eq_true, Root.bx.injEq, Root.tm.injEq, Nat.reduceAdd, Nat.reduceBEq, Nat.reduceBNe, Nat.reduceEqDiff, Nat.reduceLT, Nat.reduceLeDiff, Nat.reduceMul, Nat.reduceSub, Int.reduceToNat, Int.reduceEq, Int.reduceBEq, Int.reduceBNe, Int.reduceLT, Int.reduceLE, if_true, if_false, Bool.false_eq_true, decide_true, decide_false, List.zipIdx_nil, bne_self_eq_false]
  cases hp : few p
  · simp only [hp, wx, I, exec, resOf, reduceIte, reduceCtorEq, ne_eq, not_false_eq_true, Root.bx.injEq, Root.tm.injEq, Nat.reduceAdd, Nat.reduceBEq, Nat.reduceBNe, Nat.reduceEqDiff, Nat.reduceLT, Nat.reduceLeDiff, Nat.reduceMul, Nat.reduceSub, Int.reduceToNat, Int.reduceEq, Int.reduceBEq, Int.reduceBNe, Int.reduceLT, Int.reduceLE, if_true, if_false, Bool.false_eq_true, decide_true, decide_false, List.zipIdx_nil, bne_self_eq_false]
  · have h1 := pc_copy p hp
    have h2 := pc_checkPlan p hp
    have h3 := pc_faultsOf p hp
    have h4 := pc_checkState p hp s
    have h5 := pc_checkFault p hp f
    have h6 := pc_checkPlanR p hp
    have h7 := pc_faultsR p hp
    have h8 := pc_sameFaults (fl p.signals.length) (by have := (few_get hp).1; rw [fl_len]; omega)
    have h9 := pc_stateErrR p hp s
    have h10 := pc_faultErrR p hp f
    simp only [cState, cFault] at h4 h5 h9 h10
    by_cases c : (planE p).2 = 0
    · simp only [c, if_true, bothE_none p s c, cFl] at h2 h3 h4 h5 h6 h7 h8
      simp only [hp, h1, h2, h3, h4, h5, h6, h7, h8, h9, h10, cFl, beq_self_eq_true, wx, I, exec, resOf, reduceIte, reduceCtorEq, ne_eq, not_false_eq_true, Root.bx.injEq, Root.tm.injEq, Nat.reduceAdd, Nat.reduceBEq, Nat.reduceBNe, Nat.reduceEqDiff, Nat.reduceLT, Nat.reduceLeDiff, Nat.reduceMul, Nat.reduceSub, Int.reduceToNat, Int.reduceEq, Int.reduceBEq, Int.reduceBNe, Int.reduceLT, Int.reduceLE, if_true, if_false, Bool.false_eq_true, decide_true, decide_false, List.zipIdx_nil, bne_self_eq_false]
    · simp only [c, if_false, bothE_bad p s _ c] at h3 h4 h5
      have c2 : ((planE p).2 != 0) = true := by simp [c]
      simp only [hp, h1, h2, h3, h4, h5, h6, h7, h8, h9, h10, c2, beq_self_eq_true, wx, I, exec, resOf, reduceIte, reduceCtorEq, ne_eq, not_false_eq_true, Root.bx.injEq, Root.tm.injEq, Nat.reduceAdd, Nat.reduceBEq, Nat.reduceBNe, Nat.reduceEqDiff, Nat.reduceLT, Nat.reduceLeDiff, Nat.reduceMul, Nat.reduceSub, Int.reduceToNat, Int.reduceEq, Int.reduceBEq, Int.reduceBNe, Int.reduceLT, Int.reduceLE, if_true, if_false, Bool.false_eq_true, decide_true, decide_false, List.zipIdx_nil, bne_self_eq_false]

end Go.ViD
