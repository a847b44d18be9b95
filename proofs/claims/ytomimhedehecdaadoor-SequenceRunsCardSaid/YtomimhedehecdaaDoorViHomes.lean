/- SequenceHomes: what it answers. -/
import Derived.Test.YtomimhedehecdaaDoorViGHomes
import Derived.Test.YtomimhedehecdaaDoorViAwakeD
set_option linter.unusedSimpArgs false
set_option linter.unusedVariables false
namespace Go.ViD
open Go.Vi

theorem loop30 (l : List State) (hn : l.length ≤ 1000000) {t : List Todo} {k : Ex → St → Option V} :
    ∀ (m i : Nat), i + m = l.length → U (pc E) (.c (.loop f30l0) :: t) .normal ⟨[(0, .sl .s 2 (cSts l)), (1, .sl .s 2 (cSts l)), (5, I i)], []⟩ k =
      U (pc E) t (.exit 0) ⟨[], []⟩ k
  | 0, i, hm => by
    rw [U_loop' f30l0.eq_1]
    have h0 : ¬ ((i : Int) < (l.length : Int)) := by omega
    simp only [h0, cSts, ww0, ww1, ww2, ww3, ww4, ww5, ww6, ww7, ww8, ww9, ww10, I, Vi.start, exec, St.gone, St.cells, St.write, St.ints, St.optInt, St.deref, vals, Vi.gone, cut, paste, fill, rowsOf, leqv, leqs, leq1, binv, ibin, unv, ptrOp, resOf, resAll, res1, reduceIte, reduceCtorEq, ne_eq, not_false_eq_true, Root.bx.injEq, Root.tm.injEq, Nat.reduceAdd, Nat.reduceBEq, Nat.reduceBNe, Nat.reduceEqDiff, Nat.reduceLT, Nat.reduceLeDiff, Nat.reduceMul, Nat.reduceSub, Int.reduceToNat, Int.reduceEq, Int.reduceBEq, Int.reduceBNe, Int.reduceLT, Int.reduceLE, if_true, if_false, Bool.false_eq_true, decide_true, decide_false, List.zipIdx_nil, bne_self_eq_false]
  | m + 1, i, hm => by
    rw [U_loop' f30l0.eq_1]
    have h0 : ((i : Int) < (l.length : Int)) := by omega
    have hx : l[i]? = some l[i] := List.getElem?_eq_getElem (by omega)
    have ih := loop30 l hn (t := t) (k := k) m (i + 1) (by omega)
    have hw := wrap_succ (i := i) (by omega)
    generalize l[i] = x at hx
    simp only [cSts] at ih
    simp only [h0, hw, hx, cSts, cState, ih, beq_self_eq_true, ww0, ww1, ww2, ww3, ww4, ww5, ww6, ww7, ww8, ww9, ww10, I, Vi.start, exec, St.gone, St.cells, St.write, St.ints, St.optInt, St.deref, vals, Vi.gone, cut, paste, fill, rowsOf, leqv, leqs, leq1, binv, ibin, unv, ptrOp, resOf, resAll, res1, reduceIte, reduceCtorEq, ne_eq, not_false_eq_true, Root.bx.injEq, Root.tm.injEq, Nat.reduceAdd, Nat.reduceBEq, Nat.reduceBNe, Nat.reduceEqDiff, Nat.reduceLT, Nat.reduceLeDiff, Nat.reduceMul, Nat.reduceSub, Int.reduceToNat, Int.reduceEq, Int.reduceBEq, Int.reduceBNe, Int.reduceLT, Int.reduceLE, if_true, if_false, Bool.false_eq_true, decide_true, decide_false, List.zipIdx_nil, bne_self_eq_false]

theorem pc_sameStates (l : List State) (hn : l.length ≤ 1000000) : pc E 30 [.sl .s 2 (cSts l), .sl .s 2 (cSts l)] = some (.bool true) := by
  refine pc_code (mf := f30) rfl ?_
  rw [runF_U rfl]
  have hl := fun t k => loop30 l hn (t := t) (k := k) l.length 0 (by omega)
  simp only [cSts, Int.cast_ofNat_Int] at hl
  simp only [f30, cSts, hl, ww0, ww1, ww2, ww3, ww4, ww5, ww6, ww7, ww8, ww9, ww10, I, Vi.start, exec, St.gone, St.cells, St.write, St.ints, St.optInt, St.deref, vals, Vi.gone, cut, paste, fill, rowsOf, leqv, leqs, leq1, binv, ibin, unv, ptrOp, resOf, resAll, res1, reduceIte, reduceCtorEq, ne_eq, not_false_eq_true, Root.bx.injEq, Root.tm.injEq, Nat.reduceAdd, Nat.reduceBEq, Nat.reduceBNe, Nat.reduceEqDiff, Nat.reduceLT, Nat.reduceLeDiff, Nat.reduceMul, Nat.reduceSub, Int.reduceToNat, Int.reduceEq, Int.reduceBEq, Int.reduceBNe, Int.reduceLT, Int.reduceLE, if_true, if_false, Bool.false_eq_true, decide_true, decide_false, List.zipIdx_nil, bne_self_eq_false]

theorem both_mk {p : Plan} {s : State} {f : Fault} (h1 : (planE p).2 = 0) (h2 : okS p s) (h3 : faultE p f = 0) : bothE p s f = 0 := by
  unfold bothE
  rw [if_pos h1]
  refine (fst1_zero _).2 fun e he => ?_
  simp only [List.mem_cons, List.not_mem_nil, or_false] at he
  rcases he with rfl | rfl
  · refine (fst1_zero _).2 fun e he => ?_
    simp only [List.mem_cons, List.not_mem_nil, or_false] at he
    rcases he with rfl | rfl
    · exact idxE_zero.2 h2.1
    · exact setE_zero.2 h2.2
  · exact h3

/-- Where a way ends. -/
def endS : State → List State → State
  | s, [] => s
  | _, s' :: l => endS s' l

theorem loop5 (p : Plan) (hp : few p = true) (f : Fault) (c1 : (planE p).2 = 0) (c3 : faultE p f = 0) (l : List State) (hl : l.length ≤ 1000) (n : Int) {t : List Todo} {k : Ex → St → Option V} :
    ∀ (l' : List State) (m i : Nat) (now : State) (a : Int), i + l'.length = l.length → l.drop i = l' → refL (homeH p f) (nextH p f) m now = some l' → okS p now →
    U (pc E) (.c (.loop f5l0) :: t) .normal ⟨[(3, .loc 3 0), (5, .loc 5 0), (7, .sl .s 2 (cSts l)), (8, I n), (14, .loc 14 0), (15, I a), (16, I i)], [(3, false, cPlan p), (5, false, cFault f), (14, false, cState now)]⟩ k =
      U (pc E) t (.exit 0) ⟨[(3, .loc 3 0), (5, .loc 5 0), (8, I n), (14, .loc 14 0), (15, I (accOf (nextH p f) now l' a))], [(3, false, cPlan p), (5, false, cFault f), (14, false, cState (endS now l'))]⟩ k
  | [], m, i, now, a, hi, hd, hr, hs => by
    rw [U_loop' f5l0.eq_1]
    simp only [List.length_nil] at hi
    have h0 : ¬ ((i : Int) < (l.length : Int)) := by omega
    simp only [h0, cSts, accOf, endS, ww0, ww1, ww2, ww3, ww4, ww5, ww6, ww7, ww8, ww9, ww10, I, Vi.start, exec, St.gone, St.cells, St.write, St.ints, St.optInt, St.deref, vals, Vi.gone, cut, paste, fill, rowsOf, leqv, leqs, leq1, binv, ibin, unv, ptrOp, resOf, resAll, res1, reduceIte, reduceCtorEq, ne_eq, not_false_eq_true, Root.bx.injEq, Root.tm.injEq, Nat.reduceAdd, Nat.reduceBEq, Nat.reduceBNe, Nat.reduceEqDiff, Nat.reduceLT, Nat.reduceLeDiff, Nat.reduceMul, Nat.reduceSub, Int.reduceToNat, Int.reduceEq, Int.reduceBEq, Int.reduceBNe, Int.reduceLT, Int.reduceLE, if_true, if_false, Bool.false_eq_true, decide_true, decide_false, List.zipIdx_nil, bne_self_eq_false]
  | s' :: l', m, i, now, a, hi, hd, hr, hs => by
    rw [U_loop' f5l0.eq_1]
    simp only [List.length_cons] at hi
    have h0 : ((i : Int) < (l.length : Int)) := by omega
    have hx : l[i]? = some s' := by
      have := congrArg (·[0]?) hd
      simpa using this
    have hd' : l.drop (i + 1) = l' := by
      have := congrArg (List.drop 1) hd
      simpa [List.drop_drop] using this
    obtain ⟨m', hm', hok, hnext, hr'⟩ : ∃ m', m = m' + 1 ∧ (nextH p f now).2.2 = true ∧ (nextH p f now).1 = s' ∧ refL (homeH p f) (nextH p f) m' s' = some l' := by
      cases m with
      | zero => simp only [refL] at hr; split at hr <;> simp at hr
      | succ m' =>
        simp only [refL] at hr
        by_cases h1 : homeH p f now = true
        · rw [if_pos h1] at hr; simp at hr
        · rw [if_neg h1] at hr
          by_cases h2 : (!(nextH p f now).2.2) = true
          · rw [if_pos h2] at hr; cases hr
          · rw [if_neg h2] at hr
            obtain ⟨l2, hl2, he⟩ := Option.map_eq_some_iff.1 hr
            simp only [List.cons.injEq] at he
            obtain ⟨he1, he2⟩ := he
            subst he1 he2
            exact ⟨m', rfl, by simpa using h2, rfl, hl2⟩
    have hf := (okF_of c3).2
    have hs' := nextH_ok (okP_of c1) hf now hs hok
    rw [hnext] at hs'
    have ih := loop5 p hp f c1 c3 l hl n (t := t) (k := k) l' m' (i + 1) s' (IntKind.i64.wrap (a + (nextH p f now).2.1)) (by omega) hd' hr' hs'
    have hw := wrap_succ (i := i) (by omega)
    obtain ⟨x, hxx⟩ := step_at hs.1
    have h2 := pc_HomeTurn p hp now f (both_mk c1 hs c3) x hxx
    rw [← nextH_at hxx, hok, hnext] at h2
    have hcp := pc_copy p hp
    simp only [cState, cFault] at h2
    simp only [cSts, cState, cFault] at ih
    simp only [h0, hw, hx, hcp, h2, unl, ih, cSts, cState, cFault, accOf, endS, beq_self_eq_true, bne_self_eq_false, List.replicate, List.set, ww0, ww1, ww2, ww3, ww4, ww5, ww6, ww7, ww8, ww9, ww10, I, Vi.start, exec, St.gone, St.cells, St.write, St.ints, St.optInt, St.deref, vals, Vi.gone, cut, paste, fill, rowsOf, leqv, leqs, leq1, binv, ibin, unv, ptrOp, resOf, resAll, res1, reduceIte, reduceCtorEq, ne_eq, not_false_eq_true, Root.bx.injEq, Root.tm.injEq, Nat.reduceAdd, Nat.reduceBEq, Nat.reduceBNe, Nat.reduceEqDiff, Nat.reduceLT, Nat.reduceLeDiff, Nat.reduceMul, Nat.reduceSub, Int.reduceToNat, Int.reduceEq, Int.reduceBEq, Int.reduceBNe, Int.reduceLT, Int.reduceLE, if_true, if_false, Bool.false_eq_true, decide_true, decide_false, List.zipIdx_nil, bne_self_eq_false]

theorem ref_end (p : Plan) (f : Fault) : ∀ (l : List State) (m : Nat) (s : State), refL (homeH p f) (nextH p f) m s = some l → homeH p f (endS s l) = true
  | [], m, s, h => by
    cases m <;> simp only [refL] at h
    · by_cases h1 : homeH p f s = true
      · exact h1
      · rw [if_neg h1] at h; cases h
    · by_cases h1 : homeH p f s = true
      · exact h1
      · rw [if_neg h1] at h
        by_cases h2 : (!(nextH p f s).2.2) = true
        · rw [if_pos h2] at h; cases h
        · rw [if_neg h2] at h
          obtain ⟨l2, hl2, he⟩ := Option.map_eq_some_iff.1 h
          cases he
  | s' :: l, m, s, h => by
    cases m <;> simp only [refL] at h
    · by_cases h1 : homeH p f s = true
      · rw [if_pos h1] at h; cases h
      · rw [if_neg h1] at h; cases h
    · by_cases h1 : homeH p f s = true
      · rw [if_pos h1] at h; cases h
      · rw [if_neg h1] at h
        by_cases h2 : (!(nextH p f s).2.2) = true
        · rw [if_pos h2] at h; cases h
        · rw [if_neg h2] at h
          obtain ⟨l2, hl2, he⟩ := Option.map_eq_some_iff.1 h
          simp only [List.cons.injEq] at he
          obtain ⟨he1, he2⟩ := he
          subst he1 he2
          exact ref_end p f l2 _ _ hl2

theorem ref_ok {p : Plan} (hp : OkP p) {f : Fault} (hf : f.signal < (p.signals.length : Int)) : ∀ (l : List State) (m : Nat) (s : State), okS p s → refL (homeH p f) (nextH p f) m s = some l → okS p (endS s l) ∧ l.length ≤ m
  | [], m, s, hs, h => ⟨hs, by simp⟩
  | s' :: l, m, s, hs, h => by
    cases m <;> simp only [refL] at h
    · by_cases h1 : homeH p f s = true
      · rw [if_pos h1] at h; cases h
      · rw [if_neg h1] at h; cases h
    · by_cases h1 : homeH p f s = true
      · rw [if_pos h1] at h; cases h
      · rw [if_neg h1] at h
        by_cases h2 : (!(nextH p f s).2.2) = true
        · rw [if_pos h2] at h; cases h
        · rw [if_neg h2] at h
          obtain ⟨l2, hl2, he⟩ := Option.map_eq_some_iff.1 h
          simp only [List.cons.injEq] at he
          obtain ⟨he1, he2⟩ := he
          subst he1 he2
          have := ref_ok hp hf l2 _ _ (nextH_ok hp hf s hs (by simpa using h2)) hl2
          exact ⟨this.1, by simp; omega⟩

set_option maxHeartbeats 4000000 in
theorem pc_homes (p : Plan) (s : State) (f : Fault) : pc E 5 [.agg (cPlan p), .agg (cState s), .agg (cFault f)] = some (.bool true) := by
  refine pc_code (mf := f5) rfl ?_
  rw [runF_U rfl]
  have hf := pc_few p
  simp only [f5, pc_awake, hf, ww0, ww1, ww2, ww3, ww4, ww5, ww6, ww7, ww8, ww9, ww10, I, Vi.start, exec, St.gone, St.cells, St.write, St.ints, St.optInt, St.deref, vals, Vi.gone, cut, paste, fill, rowsOf, leqv, leqs, leq1, binv, ibin, unv, ptrOp, resOf, resAll, res1, reduceIte, reduceCtorEq, ne_eq, not_false_eq_true, Root.bx.injEq, Root.tm.injEq, Nat.reduceAdd, Nat.reduceBEq, Nat.reduceBNe, Nat.reduceEqDiff, Nat.reduceLT, Nat.reduceLeDiff, Nat.reduceMul, Nat.reduceSub, Int.reduceToNat, Int.reduceEq, Int.reduceBEq, Int.reduceBNe, Int.reduceLT, Int.reduceLE, if_true, if_false, Bool.false_eq_true, decide_true, decide_false, List.zipIdx_nil, bne_self_eq_false]
  cases hp : few p
  · simp only [hp, ww0, ww1, ww2, ww3, ww4, ww5, ww6, ww7, ww8, ww9, ww10, I, Vi.start, exec, St.gone, St.cells, St.write, St.ints, St.optInt, St.deref, vals, Vi.gone, cut, paste, fill, rowsOf, leqv, leqs, leq1, binv, ibin, unv, ptrOp, resOf, resAll, res1, reduceIte, reduceCtorEq, ne_eq, not_false_eq_true, Root.bx.injEq, Root.tm.injEq, Nat.reduceAdd, Nat.reduceBEq, Nat.reduceBNe, Nat.reduceEqDiff, Nat.reduceLT, Nat.reduceLeDiff, Nat.reduceMul, Nat.reduceSub, Int.reduceToNat, Int.reduceEq, Int.reduceBEq, Int.reduceBNe, Int.reduceLT, Int.reduceLE, if_true, if_false, Bool.false_eq_true, decide_true, decide_false, List.zipIdx_nil, bne_self_eq_false]
  · have h1 := pc_copy p hp
    have h5 := pc_bothErr p hp s f
    by_cases c : bothE p s f = 0
    · obtain ⟨c1, c2, c3⟩ := both_of c
      have d2 := okS_of c2
      have d3 := (okF_of c3).2
      have ok := okP_of c1
      have h2 := pc_HomeOf p hp s f c
      have h3 := pc_homeR p ok f d3 s d2
      simp only [cState, cFault, c] at h2 h3 h5
      cases hh : homeL p f s with
      | none =>
        simp only [hh] at h2 h3
        simp only [hp, h1, h2, h3, h5, List.replicate, List.set, beq_self_eq_true, ww0, ww1, ww2, ww3, ww4, ww5, ww6, ww7, ww8, ww9, ww10, I, Vi.start, exec, St.gone, St.cells, St.write, St.ints, St.optInt, St.deref, vals, Vi.gone, cut, paste, fill, rowsOf, leqv, leqs, leq1, binv, ibin, unv, ptrOp, resOf, resAll, res1, reduceIte, reduceCtorEq, ne_eq, not_false_eq_true, Root.bx.injEq, Root.tm.injEq, Nat.reduceAdd, Nat.reduceBEq, Nat.reduceBNe, Nat.reduceEqDiff, Nat.reduceLT, Nat.reduceLeDiff, Nat.reduceMul, Nat.reduceSub, Int.reduceToNat, Int.reduceEq, Int.reduceBEq, Int.reduceBNe, Int.reduceLT, Int.reduceLE, if_true, if_false, Bool.false_eq_true, decide_true, decide_false, List.zipIdx_nil, bne_self_eq_false]
      | some l =>
        simp only [hh] at h2 h3
        obtain ⟨r1, r2⟩ := ref_ok ok d3 l _ s d2 hh
        have r3 := ref_end p f l _ s hh
        have hle := nS_le ok
        obtain ⟨x, hx⟩ := step_at r1.1
        have h4 := pc_sameStates l (by omega)
        have h6 := pc_IsHome p (endS s l) x r1.1.1 hx f ok r1.2 d3
        have hlp := fun t k => loop5 p hp f c1 c3 l (by omega) (ticksL p f s l) (t := t) (k := k) l _ 0 s 0 (by simp) rfl hh d2
        have e : accOf (nextH p f) s l 0 = ticksL p f s l := rfl
        rw [e] at hlp
        simp only [cSts, cState, cFault, r3, Int.cast_ofNat_Int] at h4 h6 hlp
        simp only [hp, h1, h2, h3, h4, h5, h6, hlp, cSts, cState, List.replicate, List.set, beq_self_eq_true, bne_self_eq_false, ww0, ww1, ww2, ww3, ww4, ww5, ww6, ww7, ww8, ww9, ww10, I, Vi.start, exec, St.gone, St.cells, St.write, St.ints, St.optInt, St.deref, vals, Vi.gone, cut, paste, fill, rowsOf, leqv, leqs, leq1, binv, ibin, unv, ptrOp, resOf, resAll, res1, reduceIte, reduceCtorEq, ne_eq, not_false_eq_true, Root.bx.injEq, Root.tm.injEq, Nat.reduceAdd, Nat.reduceBEq, Nat.reduceBNe, Nat.reduceEqDiff, Nat.reduceLT, Nat.reduceLeDiff, Nat.reduceMul, Nat.reduceSub, Int.reduceToNat, Int.reduceEq, Int.reduceBEq, Int.reduceBNe, Int.reduceLT, Int.reduceLE, if_true, if_false, Bool.false_eq_true, decide_true, decide_false, List.zipIdx_nil, bne_self_eq_false]
    · have h2 := pc_HomeOf_bad p hp s f c
      have c2 : (bothE p s f != 0) = true := by simp [c]
      simp only [cState, cFault] at h2 h5
      simp only [hp, h1, h2, h5, c2, beq_self_eq_true, List.replicate, List.set, ww0, ww1, ww2, ww3, ww4, ww5, ww6, ww7, ww8, ww9, ww10, I, Vi.start, exec, St.gone, St.cells, St.write, St.ints, St.optInt, St.deref, vals, Vi.gone, cut, paste, fill, rowsOf, leqv, leqs, leq1, binv, ibin, unv, ptrOp, resOf, resAll, res1, reduceIte, reduceCtorEq, ne_eq, not_false_eq_true, Root.bx.injEq, Root.tm.injEq, Nat.reduceAdd, Nat.reduceBEq, Nat.reduceBNe, Nat.reduceEqDiff, Nat.reduceLT, Nat.reduceLeDiff, Nat.reduceMul, Nat.reduceSub, Int.reduceToNat, Int.reduceEq, Int.reduceBEq, Int.reduceBNe, Int.reduceLT, Int.reduceLE, if_true, if_false, Bool.false_eq_true, decide_true, decide_false, List.zipIdx_nil, bne_self_eq_false]

end Go.ViD
