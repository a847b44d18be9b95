/- Halls: rules that are broken. -/
import Derived.Test.YtomimhedehecdaaDoorViHalls
set_option linter.unusedSimpArgs false
set_option linter.unusedVariables false
namespace Go.ViD
open Go.Vi

/-- The steps of the other machines. -/
def others (steps : List Int) (m : Nat) : List Int := steps.take m ++ steps.drop (m + 1)

theorem pc_delete (xs : List Int) (m : Nat) (h : m < xs.length) : pc E 123 [.sl .x 1 (ints xs), I m, I (m + 1 : Nat)] = some (.sl .x 1 (ints (others xs m))) := by
  refine pc_prim (p := delP) rfl ?_
  have h1 : xs ≠ [] := by rintro rfl; simp at h
  simp only [delP, ints, intRows_mk]
  rw [if_pos ⟨by omega, by omega, by omega, h1⟩]
  rfl

def othR (m v : Int) : List Int → Nat → Bool
  | [], _ => false
  | x :: l, i => ((i : Int) != m && x == v) || othR m v l (i + 1)

theorem loop91 {call : FuncId → List V → Option V} {mm v : Int} (xs : List Int) (hl : xs.length < 9223372036854775807) {t : List Todo} {k : Ex → St → Option V} :
    ∀ (m i : Nat), i + m = xs.length → U call (.c (.loop f91l0) :: t) .normal ⟨[(0, .sl .s 1 (ints xs)), (1, I mm), (2, I v), (7, I i)], []⟩ k =
      if othR mm v (xs.drop i) i then k .ret ⟨[(6, .bool true)], []⟩ else U call t (.exit 0) ⟨[], []⟩ k
  | 0, i, hm => by
    rw [U_loop' f91l0.eq_1]
    have h0 : ¬ ((i : Int) < (xs.length : Int)) := by omega
    simp only [ints, h0, ww0, ww1, ww2, ww3, ww4, ww5, ww6, ww7, ww8, ww9, ww10, I, Vi.start, exec, St.gone, St.cells, St.write, St.ints, St.optInt, St.deref, vals, Vi.gone, cut, paste, fill, rowsOf, leqv, leqs, leq1, binv, ibin, unv, ptrOp, resOf, resAll, res1, reduceIte, reduceCtorEq, ne_eq, not_false_eq_true, Root.bx.injEq, Root.tm.injEq, Nat.reduceAdd, Nat.reduceBEq, Nat.reduceBNe, Nat.reduceEqDiff, Nat.reduceLT, Nat.reduceLeDiff, Nat.reduceMul, Nat.reduceSub, Int.reduceToNat, Int.reduceEq, Int.reduceBEq, Int.reduceBNe, Int.reduceLT, Int.reduceLE, if_true, if_false, Bool.false_eq_true, decide_true, decide_false, List.zipIdx_nil, bne_self_eq_false]
    rw [List.drop_eq_nil_of_le (by omega)]
    simp only [othR, Bool.false_eq_true, if_false]
  | m + 1, i, hm => by
    rw [U_loop' f91l0.eq_1]
    have h0 : ((i : Int) < (xs.length : Int)) := by omega
    have hx : xs[i]? = some xs[i] := List.getElem?_eq_getElem (by omega)
    have hd : xs.drop i = xs[i] :: xs.drop (i + 1) := List.drop_eq_getElem_cons (by omega)
    have ih := loop91 (call := call) (mm := mm) (v := v) xs hl (t := t) (k := k) m (i + 1) (by omega)
    simp only [ints] at ih
    rw [hd]
    simp only [ints, h0, othR, ww0, ww1, ww2, ww3, ww4, ww5, ww6, ww7, ww8, ww9, ww10, I, Vi.start, exec, St.gone, St.cells, St.write, St.ints, St.optInt, St.deref, vals, Vi.gone, cut, paste, fill, rowsOf, leqv, leqs, leq1, binv, ibin, unv, ptrOp, resOf, resAll, res1, reduceIte, reduceCtorEq, ne_eq, not_false_eq_true, Root.bx.injEq, Root.tm.injEq, Nat.reduceAdd, Nat.reduceBEq, Nat.reduceBNe, Nat.reduceEqDiff, Nat.reduceLT, Nat.reduceLeDiff, Nat.reduceMul, Nat.reduceSub, Int.reduceToNat, Int.reduceEq, Int.reduceBEq, Int.reduceBNe, Int.reduceLT, Int.reduceLE, if_true, if_false, Bool.false_eq_true, decide_true, decide_false, List.zipIdx_nil, bne_self_eq_false]
    rcases Bool.eq_false_or_eq_true ((i : Int) != mm) with h1 | h1
    · simp only [h1, hx, ww0, ww1, ww2, ww3, ww4, ww5, ww6, ww7, ww8, ww9, ww10, I, Vi.start, exec, St.gone, St.cells, St.write, St.ints, St.optInt, St.deref, vals, Vi.gone, cut, paste, fill, rowsOf, leqv, leqs, leq1, binv, ibin, unv, ptrOp, resOf, resAll, res1, reduceIte, reduceCtorEq, ne_eq, not_false_eq_true, Root.bx.injEq, Root.tm.injEq, Nat.reduceAdd, Nat.reduceBEq, Nat.reduceBNe, Nat.reduceEqDiff, Nat.reduceLT, Nat.reduceLeDiff, Nat.reduceMul, Nat.reduceSub, Int.reduceToNat, Int.reduceEq, Int.reduceBEq, Int.reduceBNe, Int.reduceLT, Int.reduceLE, if_true, if_false, Bool.false_eq_true, decide_true, decide_false, List.zipIdx_nil, bne_self_eq_false]
      rcases Bool.eq_false_or_eq_true (xs[i] == v) with h2 | h2 <;> simp only [h2, wrap_succ (i := i) (by omega), ih, ww0, ww1, ww2, ww3, ww4, ww5, ww6, ww7, ww8, ww9, ww10, I, Vi.start, exec, St.gone, St.cells, St.write, St.ints, St.optInt, St.deref, vals, Vi.gone, cut, paste, fill, rowsOf, leqv, leqs, leq1, binv, ibin, unv, ptrOp, resOf, resAll, res1, reduceIte, reduceCtorEq, ne_eq, not_false_eq_true, Root.bx.injEq, Root.tm.injEq, Nat.reduceAdd, Nat.reduceBEq, Nat.reduceBNe, Nat.reduceEqDiff, Nat.reduceLT, Nat.reduceLeDiff, Nat.reduceMul, Nat.reduceSub, Int.reduceToNat, Int.reduceEq, Int.reduceBEq, Int.reduceBNe, Int.reduceLT, Int.reduceLE, if_true, if_false, Bool.false_eq_true, decide_true, decide_false, List.zipIdx_nil, bne_self_eq_false]
    · simp only [h1, wrap_succ (i := i) (by omega), ih, ww0, ww1, ww2, ww3, ww4, ww5, ww6, ww7, ww8, ww9, ww10, I, Vi.start, exec, St.gone, St.cells, St.write, St.ints, St.optInt, St.deref, vals, Vi.gone, cut, paste, fill, rowsOf, leqv, leqs, leq1, binv, ibin, unv, ptrOp, resOf, resAll, res1, reduceIte, reduceCtorEq, ne_eq, not_false_eq_true, Root.bx.injEq, Root.tm.injEq, Nat.reduceAdd, Nat.reduceBEq, Nat.reduceBNe, Nat.reduceEqDiff, Nat.reduceLT, Nat.reduceLeDiff, Nat.reduceMul, Nat.reduceSub, Int.reduceToNat, Int.reduceEq, Int.reduceBEq, Int.reduceBNe, Int.reduceLT, Int.reduceLE, if_true, if_false, Bool.false_eq_true, decide_true, decide_false, List.zipIdx_nil, bne_self_eq_false]

theorem othR_shift (m v : Int) : ∀ (l : List Int) (i : Nat), (∀ j : Nat, j < l.length → ((i + j : Nat) : Int) ≠ m) → othR m v l i = hasI l v
  | [], _, _ => rfl
  | x :: l, i, h => by
    have h0 : ((i : Int) != m) = true := by have := h 0 (by simp); simpa using this
    simp only [othR, hasI, List.any_cons, h0, Bool.true_and]
    have h1 : (x == v) = (v == x) := by rw [Bool.eq_iff_iff, beq_iff_eq, beq_iff_eq]; exact ⟨Eq.symm, Eq.symm⟩
    rw [h1, othR_shift m v l (i + 1) (fun j hj => by have := h (j + 1) (by simpa using hj); rwa [show i + 1 + j = i + (j + 1) by omega])]
    rfl

theorem othR_others (m : Nat) (v : Int) : ∀ (l : List Int) (i : Nat), i ≤ m → othR m v l i = hasI (l.take (m - i) ++ l.drop (m - i + 1)) v
  | [], i, _ => by simp [othR, hasI]
  | x :: l, i, hi => by
    by_cases h : i = m
    · subst h
      have h0 : ((i : Int) != (i : Int)) = false := by simp
      simp only [othR, h0, Bool.false_and, Bool.false_or, Nat.sub_self, List.take_zero, List.nil_append, Nat.zero_add, List.drop_succ_cons, List.drop_zero]
      exact othR_shift _ _ _ _ fun j _ => by omega
    · have h0 : ((i : Int) != (m : Int)) = true := by simp; omega
      have h1 : (x == v) = (v == x) := by rw [Bool.eq_iff_iff, beq_iff_eq, beq_iff_eq]; exact ⟨Eq.symm, Eq.symm⟩
      have h2 : m - i = (m - (i + 1)) + 1 := by omega
      simp only [othR, h0, Bool.true_and, h1]
      rw [othR_others m v l (i + 1) (by omega), h2]
      simp only [List.take_succ_cons, List.drop_succ_cons, List.cons_append, hasI, List.any_cons]

theorem pc_other (steps : List Int) (hl : steps.length < 9223372036854775807) (m : Nat) (v : Int) : pc E 91 [.sl .s 1 (ints steps), I m, I v] = some (.bool (hasI (others steps m) v)) := by
  refine pc_code (mf := f91) rfl ?_
  rw [runF_U rfl]
  have hlp := fun t k => loop91 (call := pc E) (mm := m) (v := v) steps hl (t := t) (k := k) steps.length 0 (by omega)
  simp only [List.drop_zero, Int.cast_ofNat_Int, ints, othR_others m v steps 0 (by omega), Nat.sub_zero] at hlp
  simp only [f91, ints, hlp, others, ww0, ww1, ww2, ww3, ww4, ww5, ww6, ww7, ww8, ww9, ww10, I, Vi.start, exec, St.gone, St.cells, St.write, St.ints, St.optInt, St.deref, vals, Vi.gone, cut, paste, fill, rowsOf, leqv, leqs, leq1, binv, ibin, unv, ptrOp, resOf, resAll, res1, reduceIte, reduceCtorEq, ne_eq, not_false_eq_true, Root.bx.injEq, Root.tm.injEq, Nat.reduceAdd, Nat.reduceBEq, Nat.reduceBNe, Nat.reduceEqDiff, Nat.reduceLT, Nat.reduceLeDiff, Nat.reduceMul, Nat.reduceSub, Int.reduceToNat, Int.reduceEq, Int.reduceBEq, Int.reduceBNe, Int.reduceLT, Int.reduceLE, if_true, if_false, Bool.false_eq_true, decide_true, decide_false, List.zipIdx_nil, bne_self_eq_false]
  cases hasI (steps.take m ++ steps.drop (m + 1)) v <;> simp only [ww0, ww1, ww2, ww3, ww4, ww5, ww6, ww7, ww8, ww9, ww10, I, Vi.start, exec, St.gone, St.cells, St.write, St.ints, St.optInt, St.deref, vals, Vi.gone, cut, paste, fill, rowsOf, leqv, leqs, leq1, binv, ibin, unv, ptrOp, resOf, resAll, res1, reduceIte, reduceCtorEq, ne_eq, not_false_eq_true, Root.bx.injEq, Root.tm.injEq, Nat.reduceAdd, Nat.reduceBEq, Nat.reduceBNe, Nat.reduceEqDiff, Nat.reduceLT, Nat.reduceLeDiff, Nat.reduceMul, Nat.reduceSub, Int.reduceToNat, Int.reduceEq, Int.reduceBEq, Int.reduceBNe, Int.reduceLT, Int.reduceLE, if_true, if_false, Bool.false_eq_true, decide_true, decide_false, List.zipIdx_nil, bne_self_eq_false]

/-- Does a rule not hold for a machine in a step? -/
def bad (r : Rule) (steps : List Int) (m : Nat) (step : Int) : Bool := r.step == step && (hasI (others steps m) r.other != (r.kind == 1))

def badAt (steps : List Int) (m : Nat) (step : Int) : List Rule → Nat → Option Nat
  | [], _ => none
  | r :: l, i => if bad r steps m step then some i else badAt steps m step l (i + 1)

def brk (rules : List Rule) (steps : List Int) : List Int → Nat → Option (Nat × Nat)
  | [], _ => none
  | s :: l, m => match badAt steps m s rules 0 with
    | some i => some (m, i)
    | none => brk rules steps l (m + 1)

/-- The first machine for which a rule does not hold, and the rule. -/
def broken (h : Hall) (steps : List Int) : Option (Nat × Nat) := brk h.rules steps steps 0

abbrev stB (h : Hall) (steps : List Int) : List (Nat × Bool × List V) := [(2, false, [I h.machines, .sl .s 3 (h.rules.map cRule)]), (4, false, [I 0, I 0])]

theorem loop88i (h : Hall) (steps : List Int) (hs : steps.length ≤ 1000000) (hl : h.rules.length < 9223372036854775807) (mm : Nat) (hmm : mm < steps.length) (step : Int) {t : List Todo} {k : Ex → St → Option V} :
    ∀ (m i : Nat), i + m = h.rules.length → U (pc E) (.c (.loop f88l1) :: t) .normal ⟨[(1, .sl .s 1 (ints steps)), (2, .loc 2 0), (4, .loc 4 0), (6, I mm), (7, I step), (11, .sl .s 1 (ints steps)), (12, I steps.length), (13, I mm), (19, .sl .s 3 (h.rules.map cRule)), (20, I h.rules.length), (21, I i)], stB h steps⟩ k =
      match badAt steps mm step (h.rules.drop i) i with
      | some j => k .ret ⟨[(4, .loc 4 0), (5, .bool true)], [(4, false, [I mm, I j])]⟩
      | none => U (pc E) t (.exit 2) ⟨[(1, .sl .s 1 (ints steps)), (2, .loc 2 0), (4, .loc 4 0), (11, .sl .s 1 (ints steps)), (12, I steps.length), (13, I mm)], stB h steps⟩ k
  | 0, i, hm => by
    rw [U_loop' f88l1.eq_1]
    have h0 : ¬ ((i : Int) < (h.rules.length : Int)) := by omega
    simp only [ints, h0, ww0, ww1, ww2, ww3, ww4, ww5, ww6, ww7, ww8, ww9, ww10, I, Vi.start, exec, St.gone, St.cells, St.write, St.ints, St.optInt, St.deref, vals, Vi.gone, cut, paste, fill, rowsOf, leqv, leqs, leq1, binv, ibin, unv, ptrOp, resOf, resAll, res1, reduceIte, reduceCtorEq, ne_eq, not_false_eq_true, Root.bx.injEq, Root.tm.injEq, Nat.reduceAdd, Nat.reduceBEq, Nat.reduceBNe, Nat.reduceEqDiff, Nat.reduceLT, Nat.reduceLeDiff, Nat.reduceMul, Nat.reduceSub, Int.reduceToNat, Int.reduceEq, Int.reduceBEq, Int.reduceBNe, Int.reduceLT, Int.reduceLE, if_true, if_false, Bool.false_eq_true, decide_true, decide_false, List.zipIdx_nil, bne_self_eq_false]
    rw [List.drop_eq_nil_of_le (by omega)]
    simp only [badAt]
  | m + 1, i, hm => by
    rw [U_loop' f88l1.eq_1]
    have h0 : ((i : Int) < (h.rules.length : Int)) := by omega
    have hx : h.rules[i]? = some h.rules[i] := List.getElem?_eq_getElem (by omega)
    have hd : h.rules.drop i = h.rules[i] :: h.rules.drop (i + 1) := List.drop_eq_getElem_cons (by omega)
    have ih := loop88i h steps hs hl mm hmm step (t := t) (k := k) m (i + 1) (by omega)
    have hc := pc_clone steps hs
    have hdl := pc_delete steps mm hmm
    have hol : (others steps mm).length < 9223372036854775807 := by simp [others]; omega
    have hct := fun v => pc_contains (others steps mm) hol v
    simp only [ints] at ih hc hdl hct
    rw [hd]
    simp only [ints, h0, hx, badAt, cRule, hc, hdl, wrap_succ (i := mm) (by omega), ww0, ww1, ww2, ww3, ww4, ww5, ww6, ww7, ww8, ww9, ww10, I, Vi.start, exec, St.gone, St.cells, St.write, St.ints, St.optInt, St.deref, vals, Vi.gone, cut, paste, fill, rowsOf, leqv, leqs, leq1, binv, ibin, unv, ptrOp, resOf, resAll, res1, reduceIte, reduceCtorEq, ne_eq, not_false_eq_true, Root.bx.injEq, Root.tm.injEq, Nat.reduceAdd, Nat.reduceBEq, Nat.reduceBNe, Nat.reduceEqDiff, Nat.reduceLT, Nat.reduceLeDiff, Nat.reduceMul, Nat.reduceSub, Int.reduceToNat, Int.reduceEq, Int.reduceBEq, Int.reduceBNe, Int.reduceLT, Int.reduceLE, if_true, if_false, Bool.false_eq_true, decide_true, decide_false, List.zipIdx_nil, bne_self_eq_false]
    generalize h.rules[i] = r
    rcases Bool.eq_false_or_eq_true (r.step == step) with h1 | h1
    · simp only [h1, hct, bad, bne, ww0, ww1, ww2, ww3, ww4, ww5, ww6, ww7, ww8, ww9, ww10, I, Vi.start, exec, St.gone, St.cells, St.write, St.ints, St.optInt, St.deref, vals, Vi.gone, cut, paste, fill, rowsOf, leqv, leqs, leq1, binv, ibin, unv, ptrOp, resOf, resAll, res1, reduceIte, reduceCtorEq, ne_eq, not_false_eq_true, Root.bx.injEq, Root.tm.injEq, Nat.reduceAdd, Nat.reduceBEq, Nat.reduceBNe, Nat.reduceEqDiff, Nat.reduceLT, Nat.reduceLeDiff, Nat.reduceMul, Nat.reduceSub, Int.reduceToNat, Int.reduceEq, Int.reduceBEq, Int.reduceBNe, Int.reduceLT, Int.reduceLE, if_true, if_false, Bool.false_eq_true, decide_true, decide_false, List.zipIdx_nil, bne_self_eq_false]
      rcases Bool.eq_false_or_eq_true (hasI (others steps mm) r.other == (r.kind == 1)) with h2 | h2
      · simp only [h2, wrap_succ (i := i) (by omega), ih, ww0, ww1, ww2, ww3, ww4, ww5, ww6, ww7, ww8, ww9, ww10, I, Vi.start, exec, St.gone, St.cells, St.write, St.ints, St.optInt, St.deref, vals, Vi.gone, cut, paste, fill, rowsOf, leqv, leqs, leq1, binv, ibin, unv, ptrOp, resOf, resAll, res1, reduceIte, reduceCtorEq, ne_eq, not_false_eq_true, Root.bx.injEq, Root.tm.injEq, Nat.reduceAdd, Nat.reduceBEq, Nat.reduceBNe, Nat.reduceEqDiff, Nat.reduceLT, Nat.reduceLeDiff, Nat.reduceMul, Nat.reduceSub, Int.reduceToNat, Int.reduceEq, Int.reduceBEq, Int.reduceBNe, Int.reduceLT, Int.reduceLE, if_true, if_false, Bool.false_eq_true, decide_true, decide_false, List.zipIdx_nil, bne_self_eq_false]
      · simp only [h2, ww0, ww1, ww2, ww3, ww4, ww5, ww6, ww7, ww8, ww9, ww10, I, Vi.start, exec, St.gone, St.cells, St.write, St.ints, St.optInt, St.deref, vals, Vi.gone, cut, paste, fill, rowsOf, leqv, leqs, leq1, binv, ibin, unv, ptrOp, resOf, resAll, res1, reduceIte, reduceCtorEq, ne_eq, not_false_eq_true, Root.bx.injEq, Root.tm.injEq, Nat.reduceAdd, Nat.reduceBEq, Nat.reduceBNe, Nat.reduceEqDiff, Nat.reduceLT, Nat.reduceLeDiff, Nat.reduceMul, Nat.reduceSub, Int.reduceToNat, Int.reduceEq, Int.reduceBEq, Int.reduceBNe, Int.reduceLT, Int.reduceLE, if_true, if_false, Bool.false_eq_true, decide_true, decide_false, List.zipIdx_nil, bne_self_eq_false]
    · simp only [h1, bad, wrap_succ (i := i) (by omega), ih, ww0, ww1, ww2, ww3, ww4, ww5, ww6, ww7, ww8, ww9, ww10, I, Vi.start, exec, St.gone, St.cells, St.write, St.ints, St.optInt, St.deref, vals, Vi.gone, cut, paste, fill, rowsOf, leqv, leqs, leq1, binv, ibin, unv, ptrOp, resOf, resAll, res1, reduceIte, reduceCtorEq, ne_eq, not_false_eq_true, Root.bx.injEq, Root.tm.injEq, Nat.reduceAdd, Nat.reduceBEq, Nat.reduceBNe, Nat.reduceEqDiff, Nat.reduceLT, Nat.reduceLeDiff, Nat.reduceMul, Nat.reduceSub, Int.reduceToNat, Int.reduceEq, Int.reduceBEq, Int.reduceBNe, Int.reduceLT, Int.reduceLE, if_true, if_false, Bool.false_eq_true, decide_true, decide_false, List.zipIdx_nil, bne_self_eq_false]

theorem loop88 (h : Hall) (steps : List Int) (hs : steps.length ≤ 1000000) (hl : h.rules.length < 9223372036854775807) {t : List Todo} {k : Ex → St → Option V} :
    ∀ (m i : Nat), i + m = steps.length → U (pc E) (.c (.loop f88l0) :: t) .normal ⟨[(1, .sl .s 1 (ints steps)), (2, .loc 2 0), (4, .loc 4 0), (11, .sl .s 1 (ints steps)), (12, I steps.length), (13, I i)], stB h steps⟩ k =
      match brk h.rules steps (steps.drop i) i with
      | some (a, b) => k .ret ⟨[(4, .loc 4 0), (5, .bool true)], [(4, false, [I a, I b])]⟩
      | none => U (pc E) t (.exit 0) ⟨[(4, .loc 4 0)], [(4, false, [I 0, I 0])]⟩ k
  | 0, i, hm => by
    rw [U_loop' f88l0.eq_1]
    have h0 : ¬ ((i : Int) < (steps.length : Int)) := by omega
    simp only [ints, h0, ww0, ww1, ww2, ww3, ww4, ww5, ww6, ww7, ww8, ww9, ww10, I, Vi.start, exec, St.gone, St.cells, St.write, St.ints, St.optInt, St.deref, vals, Vi.gone, cut, paste, fill, rowsOf, leqv, leqs, leq1, binv, ibin, unv, ptrOp, resOf, resAll, res1, reduceIte, reduceCtorEq, ne_eq, not_false_eq_true, Root.bx.injEq, Root.tm.injEq, Nat.reduceAdd, Nat.reduceBEq, Nat.reduceBNe, Nat.reduceEqDiff, Nat.reduceLT, Nat.reduceLeDiff, Nat.reduceMul, Nat.reduceSub, Int.reduceToNat, Int.reduceEq, Int.reduceBEq, Int.reduceBNe, Int.reduceLT, Int.reduceLE, if_true, if_false, Bool.false_eq_true, decide_true, decide_false, List.zipIdx_nil, bne_self_eq_false]
    rw [List.drop_eq_nil_of_le (by omega)]
    simp only [brk]
  | m + 1, i, hm => by
    rw [U_loop' f88l0.eq_1]
    have h0 : ((i : Int) < (steps.length : Int)) := by omega
    have hx : steps[i]? = some steps[i] := List.getElem?_eq_getElem (by omega)
    have hd : steps.drop i = steps[i] :: steps.drop (i + 1) := List.drop_eq_getElem_cons (by omega)
    have ih := loop88 h steps hs hl (t := t) (k := k) m (i + 1) (by omega)
    have hin := fun t k => loop88i h steps hs hl i (by omega) steps[i] (t := t) (k := k) h.rules.length 0 (by omega)
    simp only [ints, List.drop_zero, Int.cast_ofNat_Int] at ih hin
    rw [hd]
    simp only [ints, h0, hx, brk, hin, ww0, ww1, ww2, ww3, ww4, ww5, ww6, ww7, ww8, ww9, ww10, I, Vi.start, exec, St.gone, St.cells, St.write, St.ints, St.optInt, St.deref, vals, Vi.gone, cut, paste, fill, rowsOf, leqv, leqs, leq1, binv, ibin, unv, ptrOp, resOf, resAll, res1, reduceIte, reduceCtorEq, ne_eq, not_false_eq_true, Root.bx.injEq, Root.tm.injEq, Nat.reduceAdd, Nat.reduceBEq, Nat.reduceBNe, Nat.reduceEqDiff, Nat.reduceLT, Nat.reduceLeDiff, Nat.reduceMul, Nat.reduceSub, Int.reduceToNat, Int.reduceEq, Int.reduceBEq, Int.reduceBNe, Int.reduceLT, Int.reduceLE, if_true, if_false, Bool.false_eq_true, decide_true, decide_false, List.zipIdx_nil, bne_self_eq_false]
    cases h1 : badAt steps i steps[i] h.rules 0
    · simp only [h1, wrap_succ (i := i) (by omega), ih, ww0, ww1, ww2, ww3, ww4, ww5, ww6, ww7, ww8, ww9, ww10, I, Vi.start, exec, St.gone, St.cells, St.write, St.ints, St.optInt, St.deref, vals, Vi.gone, cut, paste, fill, rowsOf, leqv, leqs, leq1, binv, ibin, unv, ptrOp, resOf, resAll, res1, reduceIte, reduceCtorEq, ne_eq, not_false_eq_true, Root.bx.injEq, Root.tm.injEq, Nat.reduceAdd, Nat.reduceBEq, Nat.reduceBNe, Nat.reduceEqDiff, Nat.reduceLT, Nat.reduceLeDiff, Nat.reduceMul, Nat.reduceSub, Int.reduceToNat, Int.reduceEq, Int.reduceBEq, Int.reduceBNe, Int.reduceLT, Int.reduceLE, if_true, if_false, Bool.false_eq_true, decide_true, decide_false, List.zipIdx_nil, bne_self_eq_false]
    · simp only [h1, ww0, ww1, ww2, ww3, ww4, ww5, ww6, ww7, ww8, ww9, ww10, I, Vi.start, exec, St.gone, St.cells, St.write, St.ints, St.optInt, St.deref, vals, Vi.gone, cut, paste, fill, rowsOf, leqv, leqs, leq1, binv, ibin, unv, ptrOp, resOf, resAll, res1, reduceIte, reduceCtorEq, ne_eq, not_false_eq_true, Root.bx.injEq, Root.tm.injEq, Nat.reduceAdd, Nat.reduceBEq, Nat.reduceBNe, Nat.reduceEqDiff, Nat.reduceLT, Nat.reduceLeDiff, Nat.reduceMul, Nat.reduceSub, Int.reduceToNat, Int.reduceEq, Int.reduceBEq, Int.reduceBNe, Int.reduceLT, Int.reduceLE, if_true, if_false, Bool.false_eq_true, decide_true, decide_false, List.zipIdx_nil, bne_self_eq_false]

theorem pc_broken (h : Hall) (steps : List Int) (hs : steps.length ≤ 1000000) (hl : h.rules.length < 9223372036854775807) : pc E 88 [vHall h, .sl .s 1 (ints steps)] = some (match broken h steps with
    | some (a, b) => .tup [.agg [I a, I b], .bool true]
    | none => .tup [.agg [I 0, I 0], .bool false]) := by
  refine pc_code (mf := f88) rfl ?_
  rw [runF_U rfl]
  have hlp := fun t k => loop88 h steps hs hl (t := t) (k := k) steps.length 0 (by omega)
  simp only [List.drop_zero, Int.cast_ofNat_Int, ints] at hlp
  simp only [f88, ints, hlp, broken, ww0, ww1, ww2, ww3, ww4, ww5, ww6, ww7, ww8, ww9, ww10, I, Vi.start, exec, St.gone, St.cells, St.write, St.ints, St.optInt, St.deref, vals, Vi.gone, cut, paste, fill, rowsOf, leqv, leqs, leq1, binv, ibin, unv, ptrOp, resOf, resAll, res1, reduceIte, reduceCtorEq, ne_eq, not_false_eq_true, Root.bx.injEq, Root.tm.injEq, Nat.reduceAdd, Nat.reduceBEq, Nat.reduceBNe, Nat.reduceEqDiff, Nat.reduceLT, Nat.reduceLeDiff, Nat.reduceMul, Nat.reduceSub, Int.reduceToNat, Int.reduceEq, Int.reduceBEq, Int.reduceBNe, Int.reduceLT, Int.reduceLE, if_true, if_false, Bool.false_eq_true, decide_true, decide_false, List.zipIdx_nil, bne_self_eq_false]
  cases brk h.rules steps steps 0 with
  | none => simp only [ww0, ww1, ww2, ww3, ww4, ww5, ww6, ww7, ww8, ww9, ww10, I, Vi.start, exec, St.gone, St.cells, St.write, St.ints, St.optInt, St.deref, vals, Vi.gone, cut, paste, fill, rowsOf, leqv, leqs, leq1, binv, ibin, unv, ptrOp, resOf, resAll, res1, reduceIte, reduceCtorEq, ne_eq, not_false_eq_true, Root.bx.injEq, Root.tm.injEq, Nat.reduceAdd, Nat.reduceBEq, Nat.reduceBNe, Nat.reduceEqDiff, Nat.reduceLT, Nat.reduceLeDiff, Nat.reduceMul, Nat.reduceSub, Int.reduceToNat, Int.reduceEq, Int.reduceBEq, Int.reduceBNe, Int.reduceLT, Int.reduceLE, if_true, if_false, Bool.false_eq_true, decide_true, decide_false, List.zipIdx_nil, bne_self_eq_false]
  | some p => obtain ⟨a, b⟩ := p; simp only [ww0, ww1, ww2, ww3, ww4, ww5, ww6, ww7, ww8, ww9, ww10, I, Vi.start, exec, St.gone, St.cells, St.write, St.ints, St.optInt, St.deref, vals, Vi.gone, cut, paste, fill, rowsOf, leqv, leqs, leq1, binv, ibin, unv, ptrOp, resOf, resAll, res1, reduceIte, reduceCtorEq, ne_eq, not_false_eq_true, Root.bx.injEq, Root.tm.injEq, Nat.reduceAdd, Nat.reduceBEq, Nat.reduceBNe, Nat.reduceEqDiff, Nat.reduceLT, Nat.reduceLeDiff, Nat.reduceMul, Nat.reduceSub, Int.reduceToNat, Int.reduceEq, Int.reduceBEq, Int.reduceBNe, Int.reduceLT, Int.reduceLE, if_true, if_false, Bool.false_eq_true, decide_true, decide_false, List.zipIdx_nil, bne_self_eq_false]

abbrev stR (h : Hall) : List (Nat × Bool × List V) := [(2, false, [I h.machines, .sl .s 3 (h.rules.map cRule)]), (4, false, [I 0, I 0])]

theorem loop41i (h : Hall) (steps : List Int) (hs : steps.length ≤ 1000000) (hl : h.rules.length < 9223372036854775807) (mm : Nat) (hmm : mm < steps.length) {t : List Todo} {k : Ex → St → Option V} :
    ∀ (m i : Nat), i + m = h.rules.length → U (pc E) (.c (.loop f41l1) :: t) .normal ⟨[(1, .sl .s 1 (ints steps)), (2, .loc 2 0), (4, .loc 4 0), (6, I mm), (7, I i)], stR h⟩ k =
      match badAt steps mm steps[mm] (h.rules.drop i) i with
      | some j => k .ret ⟨[(4, .loc 4 0), (5, .bool true)], [(4, false, [I mm, I j])]⟩
      | none => U (pc E) t (.exit 2) ⟨[(1, .sl .s 1 (ints steps)), (2, .loc 2 0), (4, .loc 4 0), (6, I mm)], stR h⟩ k
  | 0, i, hm => by
    rw [U_loop' f41l1.eq_1]
    have h0 : ¬ ((i : Int) < (h.rules.length : Int)) := by omega
    simp only [ints, h0, ww0, ww1, ww2, ww3, ww4, ww5, ww6, ww7, ww8, ww9, ww10, I, Vi.start, exec, St.gone, St.cells, St.write, St.ints, St.optInt, St.deref, vals, Vi.gone, cut, paste, fill, rowsOf, leqv, leqs, leq1, binv, ibin, unv, ptrOp, resOf, resAll, res1, reduceIte, reduceCtorEq, ne_eq, not_false_eq_true, Root.bx.injEq, Root.tm.injEq, Nat.reduceAdd, Nat.reduceBEq, Nat.reduceBNe, Nat.reduceEqDiff, Nat.reduceLT, Nat.reduceLeDiff, Nat.reduceMul, Nat.reduceSub, Int.reduceToNat, Int.reduceEq, Int.reduceBEq, Int.reduceBNe, Int.reduceLT, Int.reduceLE, if_true, if_false, Bool.false_eq_true, decide_true, decide_false, List.zipIdx_nil, bne_self_eq_false]
    rw [List.drop_eq_nil_of_le (by omega)]
    simp only [badAt]
  | m + 1, i, hm => by
    rw [U_loop' f41l1.eq_1]
    have h0 : ((i : Int) < (h.rules.length : Int)) := by omega
    have hx : h.rules[i]? = some h.rules[i] := List.getElem?_eq_getElem (by omega)
    have hd : h.rules.drop i = h.rules[i] :: h.rules.drop (i + 1) := List.drop_eq_getElem_cons (by omega)
    have hst : steps[mm]? = some steps[mm] := List.getElem?_eq_getElem hmm
    have ih := loop41i h steps hs hl mm hmm (t := t) (k := k) m (i + 1) (by omega)
    have hot := fun v => pc_other steps (by omega) mm v
    simp only [ints] at ih hot
    rw [hd]
    generalize steps[mm] = step at hst ih
    simp only [ints, h0, hx, hst, badAt, cRule, ww0, ww1, ww2, ww3, ww4, ww5, ww6, ww7, ww8, ww9, ww10, I, Vi.start, exec, St.gone, St.cells, St.write, St.ints, St.optInt, St.deref, vals, Vi.gone, cut, paste, fill, rowsOf, leqv, leqs, leq1, binv, ibin, unv, ptrOp, resOf, resAll, res1, reduceIte, reduceCtorEq, ne_eq, not_false_eq_true, Root.bx.injEq, Root.tm.injEq, Nat.reduceAdd, Nat.reduceBEq, Nat.reduceBNe, Nat.reduceEqDiff, Nat.reduceLT, Nat.reduceLeDiff, Nat.reduceMul, Nat.reduceSub, Int.reduceToNat, Int.reduceEq, Int.reduceBEq, Int.reduceBNe, Int.reduceLT, Int.reduceLE, if_true, if_false, Bool.false_eq_true, decide_true, decide_false, List.zipIdx_nil, bne_self_eq_false]
    generalize h.rules[i] = r
    rcases Bool.eq_false_or_eq_true (r.step == step) with h1 | h1
    · simp only [h1, hot, bad, bne, ww0, ww1, ww2, ww3, ww4, ww5, ww6, ww7, ww8, ww9, ww10, I, Vi.start, exec, St.gone, St.cells, St.write, St.ints, St.optInt, St.deref, vals, Vi.gone, cut, paste, fill, rowsOf, leqv, leqs, leq1, binv, ibin, unv, ptrOp, resOf, resAll, res1, reduceIte, reduceCtorEq, ne_eq, not_false_eq_true, Root.bx.injEq, Root.tm.injEq, Nat.reduceAdd, Nat.reduceBEq, Nat.reduceBNe, Nat.reduceEqDiff, Nat.reduceLT, Nat.reduceLeDiff, Nat.reduceMul, Nat.reduceSub, Int.reduceToNat, Int.reduceEq, Int.reduceBEq, Int.reduceBNe, Int.reduceLT, Int.reduceLE, if_true, if_false, Bool.false_eq_true, decide_true, decide_false, List.zipIdx_nil, bne_self_eq_false]
      rcases Bool.eq_false_or_eq_true (hasI (others steps mm) r.other == (r.kind == 1)) with h2 | h2
      · simp only [h2, wrap_succ (i := i) (by omega), ih, ww0, ww1, ww2, ww3, ww4, ww5, ww6, ww7, ww8, ww9, ww10, I, Vi.start, exec, St.gone, St.cells, St.write, St.ints, St.optInt, St.deref, vals, Vi.gone, cut, paste, fill, rowsOf, leqv, leqs, leq1, binv, ibin, unv, ptrOp, resOf, resAll, res1, reduceIte, reduceCtorEq, ne_eq, not_false_eq_true, Root.bx.injEq, Root.tm.injEq, Nat.reduceAdd, Nat.reduceBEq, Nat.reduceBNe, Nat.reduceEqDiff, Nat.reduceLT, Nat.reduceLeDiff, Nat.reduceMul, Nat.reduceSub, Int.reduceToNat, Int.reduceEq, Int.reduceBEq, Int.reduceBNe, Int.reduceLT, Int.reduceLE, if_true, if_false, Bool.false_eq_true, decide_true, decide_false, List.zipIdx_nil, bne_self_eq_false]
      · simp only [h2, ww0, ww1, ww2, ww3, ww4, ww5, ww6, ww7, ww8, ww9, ww10, I, Vi.start, exec, St.gone, St.cells, St.write, St.ints, St.optInt, St.deref, vals, Vi.gone, cut, paste, fill, rowsOf, leqv, leqs, leq1, binv, ibin, unv, ptrOp, resOf, resAll, res1, reduceIte, reduceCtorEq, ne_eq, not_false_eq_true, Root.bx.injEq, Root.tm.injEq, Nat.reduceAdd, Nat.reduceBEq, Nat.reduceBNe, Nat.reduceEqDiff, Nat.reduceLT, Nat.reduceLeDiff, Nat.reduceMul, Nat.reduceSub, Int.reduceToNat, Int.reduceEq, Int.reduceBEq, Int.reduceBNe, Int.reduceLT, Int.reduceLE, if_true, if_false, Bool.false_eq_true, decide_true, decide_false, List.zipIdx_nil, bne_self_eq_false]
    · simp only [h1, bad, wrap_succ (i := i) (by omega), ih, ww0, ww1, ww2, ww3, ww4, ww5, ww6, ww7, ww8, ww9, ww10, I, Vi.start, exec, St.gone, St.cells, St.write, St.ints, St.optInt, St.deref, vals, Vi.gone, cut, paste, fill, rowsOf, leqv, leqs, leq1, binv, ibin, unv, ptrOp, resOf, resAll, res1, reduceIte, reduceCtorEq, ne_eq, not_false_eq_true, Root.bx.injEq, Root.tm.injEq, Nat.reduceAdd, Nat.reduceBEq, Nat.reduceBNe, Nat.reduceEqDiff, Nat.reduceLT, Nat.reduceLeDiff, Nat.reduceMul, Nat.reduceSub, Int.reduceToNat, Int.reduceEq, Int.reduceBEq, Int.reduceBNe, Int.reduceLT, Int.reduceLE, if_true, if_false, Bool.false_eq_true, decide_true, decide_false, List.zipIdx_nil, bne_self_eq_false]

theorem loop41 (h : Hall) (steps : List Int) (hs : steps.length ≤ 1000000) (hl : h.rules.length < 9223372036854775807) {t : List Todo} {k : Ex → St → Option V} :
    ∀ (m i : Nat), i + m = steps.length → U (pc E) (.c (.loop f41l0) :: t) .normal ⟨[(1, .sl .s 1 (ints steps)), (2, .loc 2 0), (4, .loc 4 0), (6, I i)], stR h⟩ k =
      match brk h.rules steps (steps.drop i) i with
      | some (a, b) => k .ret ⟨[(4, .loc 4 0), (5, .bool true)], [(4, false, [I a, I b])]⟩
      | none => U (pc E) t (.exit 0) ⟨[(4, .loc 4 0)], [(4, false, [I 0, I 0])]⟩ k
  | 0, i, hm => by
    rw [U_loop' f41l0.eq_1]
    have h0 : ¬ ((i : Int) < (steps.length : Int)) := by omega
    simp only [ints, h0, ww0, ww1, ww2, ww3, ww4, ww5, ww6, ww7, ww8, ww9, ww10, I, Vi.start, exec, St.gone, St.cells, St.write, St.ints, St.optInt, St.deref, vals, Vi.gone, cut, paste, fill, rowsOf, leqv, leqs, leq1, binv, ibin, unv, ptrOp, resOf, resAll, res1, reduceIte, reduceCtorEq, ne_eq, not_false_eq_true, Root.bx.injEq, Root.tm.injEq, Nat.reduceAdd, Nat.reduceBEq, Nat.reduceBNe, Nat.reduceEqDiff, Nat.reduceLT, Nat.reduceLeDiff, Nat.reduceMul, Nat.reduceSub, Int.reduceToNat, Int.reduceEq, Int.reduceBEq, Int.reduceBNe, Int.reduceLT, Int.reduceLE, if_true, if_false, Bool.false_eq_true, decide_true, decide_false, List.zipIdx_nil, bne_self_eq_false]
    rw [List.drop_eq_nil_of_le (by omega)]
    simp only [brk]
  | m + 1, i, hm => by
    rw [U_loop' f41l0.eq_1]
    have h0 : ((i : Int) < (steps.length : Int)) := by omega
    have hd : steps.drop i = steps[i] :: steps.drop (i + 1) := List.drop_eq_getElem_cons (by omega)
    have ih := loop41 h steps hs hl (t := t) (k := k) m (i + 1) (by omega)
    have hin := fun t k => loop41i h steps hs hl i (by omega) (t := t) (k := k) h.rules.length 0 (by omega)
    simp only [ints, List.drop_zero, Int.cast_ofNat_Int] at ih hin
    rw [hd]
    simp only [ints, h0, brk, hin, ww0, ww1, ww2, ww3, ww4, ww5, ww6, ww7, ww8, ww9, ww10, I, Vi.start, exec, St.gone, St.cells, St.write, St.ints, St.optInt, St.deref, vals, Vi.gone, cut, paste, fill, rowsOf, leqv, leqs, leq1, binv, ibin, unv, ptrOp, resOf, resAll, res1, reduceIte, reduceCtorEq, ne_eq, not_false_eq_true, Root.bx.injEq, Root.tm.injEq, Nat.reduceAdd, Nat.reduceBEq, Nat.reduceBNe, Nat.reduceEqDiff, Nat.reduceLT, Nat.reduceLeDiff, Nat.reduceMul, Nat.reduceSub, Int.reduceToNat, Int.reduceEq, Int.reduceBEq, Int.reduceBNe, Int.reduceLT, Int.reduceLE, if_true, if_false, Bool.false_eq_true, decide_true, decide_false, List.zipIdx_nil, bne_self_eq_false]
    cases h1 : badAt steps i steps[i] h.rules 0
    · simp only [h1, wrap_succ (i := i) (by omega), ih, ww0, ww1, ww2, ww3, ww4, ww5, ww6, ww7, ww8, ww9, ww10, I, Vi.start, exec, St.gone, St.cells, St.write, St.ints, St.optInt, St.deref, vals, Vi.gone, cut, paste, fill, rowsOf, leqv, leqs, leq1, binv, ibin, unv, ptrOp, resOf, resAll, res1, reduceIte, reduceCtorEq, ne_eq, not_false_eq_true, Root.bx.injEq, Root.tm.injEq, Nat.reduceAdd, Nat.reduceBEq, Nat.reduceBNe, Nat.reduceEqDiff, Nat.reduceLT, Nat.reduceLeDiff, Nat.reduceMul, Nat.reduceSub, Int.reduceToNat, Int.reduceEq, Int.reduceBEq, Int.reduceBNe, Int.reduceLT, Int.reduceLE, if_true, if_false, Bool.false_eq_true, decide_true, decide_false, List.zipIdx_nil, bne_self_eq_false]
    · simp only [h1, ww0, ww1, ww2, ww3, ww4, ww5, ww6, ww7, ww8, ww9, ww10, I, Vi.start, exec, St.gone, St.cells, St.write, St.ints, St.optInt, St.deref, vals, Vi.gone, cut, paste, fill, rowsOf, leqv, leqs, leq1, binv, ibin, unv, ptrOp, resOf, resAll, res1, reduceIte, reduceCtorEq, ne_eq, not_false_eq_true, Root.bx.injEq, Root.tm.injEq, Nat.reduceAdd, Nat.reduceBEq, Nat.reduceBNe, Nat.reduceEqDiff, Nat.reduceLT, Nat.reduceLeDiff, Nat.reduceMul, Nat.reduceSub, Int.reduceToNat, Int.reduceEq, Int.reduceBEq, Int.reduceBNe, Int.reduceLT, Int.reduceLE, if_true, if_false, Bool.false_eq_true, decide_true, decide_false, List.zipIdx_nil, bne_self_eq_false]

theorem pc_refBroken (h : Hall) (steps : List Int) (hs : steps.length ≤ 1000000) (hl : h.rules.length < 9223372036854775807) : pc E 41 [vHall h, .sl .s 1 (ints steps)] = some (match broken h steps with
    | some (a, b) => .tup [.agg [I a, I b], .bool true]
    | none => .tup [.agg [I 0, I 0], .bool false]) := by
  refine pc_code (mf := f41) rfl ?_
  rw [runF_U rfl]
  have hlp := fun t k => loop41 h steps hs hl (t := t) (k := k) steps.length 0 (by omega)
  simp only [List.drop_zero, Int.cast_ofNat_Int, ints] at hlp
  simp only [f41, ints, hlp, broken, ww0, ww1, ww2, ww3, ww4, ww5, ww6, ww7, ww8, ww9, ww10, I, Vi.start, exec, St.gone, St.cells, St.write, St.ints, St.optInt, St.deref, vals, Vi.gone, cut, paste, fill, rowsOf, leqv, leqs, leq1, binv, ibin, unv, ptrOp, resOf, resAll, res1, reduceIte, reduceCtorEq, ne_eq, not_false_eq_true, Root.bx.injEq, Root.tm.injEq, Nat.reduceAdd, Nat.reduceBEq, Nat.reduceBNe, Nat.reduceEqDiff, Nat.reduceLT, Nat.reduceLeDiff, Nat.reduceMul, Nat.reduceSub, Int.reduceToNat, Int.reduceEq, Int.reduceBEq, Int.reduceBNe, Int.reduceLT, Int.reduceLE, if_true, if_false, Bool.false_eq_true, decide_true, decide_false, List.zipIdx_nil, bne_self_eq_false]
  cases brk h.rules steps steps 0 with
  | none => simp only [ww0, ww1, ww2, ww3, ww4, ww5, ww6, ww7, ww8, ww9, ww10, I, Vi.start, exec, St.gone, St.cells, St.write, St.ints, St.optInt, St.deref, vals, Vi.gone, cut, paste, fill, rowsOf, leqv, leqs, leq1, binv, ibin, unv, ptrOp, resOf, resAll, res1, reduceIte, reduceCtorEq, ne_eq, not_false_eq_true, Root.bx.injEq, Root.tm.injEq, Nat.reduceAdd, Nat.reduceBEq, Nat.reduceBNe, Nat.reduceEqDiff, Nat.reduceLT, Nat.reduceLeDiff, Nat.reduceMul, Nat.reduceSub, Int.reduceToNat, Int.reduceEq, Int.reduceBEq, Int.reduceBNe, Int.reduceLT, Int.reduceLE, if_true, if_false, Bool.false_eq_true, decide_true, decide_false, List.zipIdx_nil, bne_self_eq_false]
  | some p => obtain ⟨a, b⟩ := p; simp only [ww0, ww1, ww2, ww3, ww4, ww5, ww6, ww7, ww8, ww9, ww10, I, Vi.start, exec, St.gone, St.cells, St.write, St.ints, St.optInt, St.deref, vals, Vi.gone, cut, paste, fill, rowsOf, leqv, leqs, leq1, binv, ibin, unv, ptrOp, resOf, resAll, res1, reduceIte, reduceCtorEq, ne_eq, not_false_eq_true, Root.bx.injEq, Root.tm.injEq, Nat.reduceAdd, Nat.reduceBEq, Nat.reduceBNe, Nat.reduceEqDiff, Nat.reduceLT, Nat.reduceLeDiff, Nat.reduceMul, Nat.reduceSub, Int.reduceToNat, Int.reduceEq, Int.reduceBEq, Int.reduceBNe, Int.reduceLT, Int.reduceLE, if_true, if_false, Bool.false_eq_true, decide_true, decide_false, List.zipIdx_nil, bne_self_eq_false]

/-- The error of a hall and of the steps of its machines. -/
def hallErr (h : Hall) (steps : List Int) : Int := if (checkHall h).2 = 0 then stepsErr h steps else (checkHall h).2

/-- The first machine for which a rule does not hold. -/
def brokenIn (h : Hall) (steps : List Int) : Int × Int × Int := if hallErr h steps = 0 then (match broken h steps with
  | some (a, b) => (a, b, 0)
  | none => (0, 0, 12)) else (0, 0, hallErr h steps)

theorem pc_brokenIn (h : Hall) (steps : List Int) (hs : steps.length ≤ 1000000) (hl : h.rules.length < 9223372036854775807) :
    pc E 36 [vHall h, .sl .s 1 (ints steps)] = some (.tup [.agg [I (brokenIn h steps).1, I (brokenIn h steps).2.1], I (brokenIn h steps).2.2]) := by
  refine pc_code (mf := f36) rfl ?_
  rw [runF_U rfl]
  have ho := pc_openHall h steps hl (by omega)
  have hb := pc_broken h steps hs hl
  have he : (if (checkHall h).2 = 0 then stepsErr h steps else (checkHall h).2) = hallErr h steps := rfl
  rw [he] at ho
  simp only [ints] at ho hb
  simp only [f36, ints, ho, ww0, ww1, ww2, ww3, ww4, ww5, ww6, ww7, ww8, ww9, ww10, I, Vi.start, exec, St.gone, St.cells, St.write, St.ints, St.optInt, St.deref, vals, Vi.gone, cut, paste, fill, rowsOf, leqv, leqs, leq1, binv, ibin, unv, ptrOp, resOf, resAll, res1, reduceIte, reduceCtorEq, ne_eq, not_false_eq_true, Root.bx.injEq, Root.tm.injEq, Nat.reduceAdd, Nat.reduceBEq, Nat.reduceBNe, Nat.reduceEqDiff, Nat.reduceLT, Nat.reduceLeDiff, Nat.reduceMul, Nat.reduceSub, Int.reduceToNat, Int.reduceEq, Int.reduceBEq, Int.reduceBNe, Int.reduceLT, Int.reduceLE, if_true, if_false, Bool.false_eq_true, decide_true, decide_false, List.zipIdx_nil, bne_self_eq_false]
  by_cases h1 : hallErr h steps = 0
  · have h2 : (hallErr h steps != 0) = false := by simp [h1]
    simp only [h2, hb, brokenIn, ww0, ww1, ww2, ww3, ww4, ww5, ww6, ww7, ww8, ww9, ww10, I, Vi.start, exec, St.gone, St.cells, St.write, St.ints, St.optInt, St.deref, vals, Vi.gone, cut, paste, fill, rowsOf, leqv, leqs, leq1, binv, ibin, unv, ptrOp, resOf, resAll, res1, reduceIte, reduceCtorEq, ne_eq, not_false_eq_true, Root.bx.injEq, Root.tm.injEq, Nat.reduceAdd, Nat.reduceBEq, Nat.reduceBNe, Nat.reduceEqDiff, Nat.reduceLT, Nat.reduceLeDiff, Nat.reduceMul, Nat.reduceSub, Int.reduceToNat, Int.reduceEq, Int.reduceBEq, Int.reduceBNe, Int.reduceLT, Int.reduceLE, if_true, if_false, Bool.false_eq_true, decide_true, decide_false, List.zipIdx_nil, bne_self_eq_false]
    cases h3 : broken h steps with
    | none => simp only [h1, pc_unless, unl, ww0, ww1, ww2, ww3, ww4, ww5, ww6, ww7, ww8, ww9, ww10, I, Vi.start, exec, St.gone, St.cells, St.write, St.ints, St.optInt, St.deref, vals, Vi.gone, cut, paste, fill, rowsOf, leqv, leqs, leq1, binv, ibin, unv, ptrOp, resOf, resAll, res1, reduceIte, reduceCtorEq, ne_eq, not_false_eq_true, Root.bx.injEq, Root.tm.injEq, Nat.reduceAdd, Nat.reduceBEq, Nat.reduceBNe, Nat.reduceEqDiff, Nat.reduceLT, Nat.reduceLeDiff, Nat.reduceMul, Nat.reduceSub, Int.reduceToNat, Int.reduceEq, Int.reduceBEq, Int.reduceBNe, Int.reduceLT, Int.reduceLE, if_true, if_false, Bool.false_eq_true, decide_true, decide_false, List.zipIdx_nil, bne_self_eq_false]
    | some p => obtain ⟨a, b⟩ := p; simp only [h1, pc_unless, unl, ww0, ww1, ww2, ww3, ww4, ww5, ww6, ww7, ww8, ww9, ww10, I, Vi.start, exec, St.gone, St.cells, St.write, St.ints, St.optInt, St.deref, vals, Vi.gone, cut, paste, fill, rowsOf, leqv, leqs, leq1, binv, ibin, unv, ptrOp, resOf, resAll, res1, reduceIte, reduceCtorEq, ne_eq, not_false_eq_true, Root.bx.injEq, Root.tm.injEq, Nat.reduceAdd, Nat.reduceBEq, Nat.reduceBNe, Nat.reduceEqDiff, Nat.reduceLT, Nat.reduceLeDiff, Nat.reduceMul, Nat.reduceSub, Int.reduceToNat, Int.reduceEq, Int.reduceBEq, Int.reduceBNe, Int.reduceLT, Int.reduceLE, if_true, if_false, Bool.false_eq_true, decide_true, decide_false, List.zipIdx_nil, bne_self_eq_false]
  · have h2 : (hallErr h steps != 0) = true := by simp [h1]
    simp only [h1, h2, brokenIn, ww0, ww1, ww2, ww3, ww4, ww5, ww6, ww7, ww8, ww9, ww10, I, Vi.start, exec, St.gone, St.cells, St.write, St.ints, St.optInt, St.deref, vals, Vi.gone, cut, paste, fill, rowsOf, leqv, leqs, leq1, binv, ibin, unv, ptrOp, resOf, resAll, res1, reduceIte, reduceCtorEq, ne_eq, not_false_eq_true, Root.bx.injEq, Root.tm.injEq, Nat.reduceAdd, Nat.reduceBEq, Nat.reduceBNe, Nat.reduceEqDiff, Nat.reduceLT, Nat.reduceLeDiff, Nat.reduceMul, Nat.reduceSub, Int.reduceToNat, Int.reduceEq, Int.reduceBEq, Int.reduceBNe, Int.reduceLT, Int.reduceLE, if_true, if_false, Bool.false_eq_true, decide_true, decide_false, List.zipIdx_nil, bne_self_eq_false]

theorem rules_leaf (rs : List Rule) : ((rs.map cRule).all fun y => y.all leaf) = true := by simp [cRule, leaf]

theorem pc_copyHall (h : Hall) (hl : h.rules.length ≤ 1000000) : pc E 35 [vHall h] = some (vHall h) := by
  refine pc_code (mf := f35) rfl ?_
  rw [runF_U rfl]
  have h1 := rules_leaf h.rules
  have h2 : room h.rules.length 24 = true := room_ok (by omega) (by omega)
  simp only [f35, h1, h2, List.replicate, Nat.zero_le, ww0, ww1, ww2, ww3, ww4, ww5, ww6, ww7, ww8, ww9, ww10, I, Vi.start, exec, St.gone, St.cells, St.write, St.ints, St.optInt, St.deref, vals, Vi.gone, cut, paste, fill, rowsOf, leqv, leqs, leq1, binv, ibin, unv, ptrOp, resOf, resAll, res1, reduceIte, reduceCtorEq, ne_eq, not_false_eq_true, Root.bx.injEq, Root.tm.injEq, Nat.reduceAdd, Nat.reduceBEq, Nat.reduceBNe, Nat.reduceEqDiff, Nat.reduceLT, Nat.reduceLeDiff, Nat.reduceMul, Nat.reduceSub, Int.reduceToNat, Int.reduceEq, Int.reduceBEq, Int.reduceBNe, Int.reduceLT, Int.reduceLE, if_true, if_false, Bool.false_eq_true, decide_true, decide_false, List.zipIdx_nil, bne_self_eq_false]

structure Entry where
  machine : Int
  step : Int

theorem pc_entered (steps : List Int) (hs : steps.length ≤ 1000000) (m : Nat) (hm : m < steps.length) (v : Int) : pc E 43 [.sl .s 1 (ints steps), .agg [I m, I v]] = some (.sl .x 1 (ints (steps.set m v))) := by
  refine pc_code (mf := f43) rfl ?_
  rw [runF_U rfl]
  have hc := pc_copyInts steps hs
  simp only [ints] at hc
  have hx : steps[m]? = some steps[m] := List.getElem?_eq_getElem hm
  have h0 : (m : Int) < (steps.length : Int) := by omega
  simp only [f43, ints, hc, h0, hx, List.map_set, ww0, ww1, ww2, ww3, ww4, ww5, ww6, ww7, ww8, ww9, ww10, I, Vi.start, exec, St.gone, St.cells, St.write, St.ints, St.optInt, St.deref, vals, Vi.gone, cut, paste, fill, rowsOf, leqv, leqs, leq1, binv, ibin, unv, ptrOp, resOf, resAll, res1, reduceIte, reduceCtorEq, ne_eq, not_false_eq_true, Root.bx.injEq, Root.tm.injEq, Nat.reduceAdd, Nat.reduceBEq, Nat.reduceBNe, Nat.reduceEqDiff, Nat.reduceLT, Nat.reduceLeDiff, Nat.reduceMul, Nat.reduceSub, Int.reduceToNat, Int.reduceEq, Int.reduceBEq, Int.reduceBNe, Int.reduceLT, Int.reduceLE, if_true, if_false, Bool.false_eq_true, decide_true, decide_false, List.zipIdx_nil, bne_self_eq_false]

/-- The index of the rule that is broken when a machine enters a step, or the error. -/
def mayEnter (h : Hall) (steps : List Int) (x : Entry) : Int × Int :=
  if hallErr h steps = 0 then (if inR x.machine 0 (steps.length - 1) && isStep x.step then (match broken h (steps.set x.machine.toNat x.step) with
    | some (_, b) => (b, 24)
    | none => (0, 0)) else (0, 6)) else (0, hallErr h steps)

theorem pc_mayEnter (h : Hall) (steps : List Int) (x : Entry) (hs : steps.length ≤ 1000000) (hl : h.rules.length < 9223372036854775807) :
    pc E 38 [vHall h, .sl .s 1 (ints steps), .agg [I x.machine, I x.step]] = some (.tup [I (mayEnter h steps x).1, I (mayEnter h steps x).2]) := by
  refine pc_code (mf := f38) rfl ?_
  rw [runF_U rfl]
  have ho := pc_openHall h steps hl (by omega)
  have he : (if (checkHall h).2 = 0 then stepsErr h steps else (checkHall h).2) = hallErr h steps := rfl
  rw [he] at ho
  have hc := pc_clone steps hs
  simp only [ints] at ho hc
  have hw : IntKind.i64.wrap ((steps.length : Int) - 1) = (steps.length : Int) - 1 := wrap_id (by omega) (by omega)
  simp only [f38, ints, ho, pc_inR, hw, ww0, ww1, ww2, ww3, ww4, ww5, ww6, ww7, ww8, ww9, ww10, I, Vi.start, exec, St.gone, St.cells, St.write, St.ints, St.optInt, St.deref, vals, Vi.gone, cut, paste, fill, rowsOf, leqv, leqs, leq1, binv, ibin, unv, ptrOp, resOf, resAll, res1, reduceIte, reduceCtorEq, ne_eq, not_false_eq_true, Root.bx.injEq, Root.tm.injEq, Nat.reduceAdd, Nat.reduceBEq, Nat.reduceBNe, Nat.reduceEqDiff, Nat.reduceLT, Nat.reduceLeDiff, Nat.reduceMul, Nat.reduceSub, Int.reduceToNat, Int.reduceEq, Int.reduceBEq, Int.reduceBNe, Int.reduceLT, Int.reduceLE, if_true, if_false, Bool.false_eq_true, decide_true, decide_false, List.zipIdx_nil, bne_self_eq_false]
  cases h2 : inR x.machine 0 ((steps.length : Int) - 1)
  · by_cases h1 : hallErr h steps = 0
    · simp only [h1, h2, pc_unless, pc_first2, fst1, unl, mayEnter, List.replicate, List.set, ww0, ww1, ww2, ww3, ww4, ww5, ww6, ww7, ww8, ww9, ww10, I, Vi.start, exec, St.gone, St.cells, St.write, St.ints, St.optInt, St.deref, vals, Vi.gone, cut, paste, fill, rowsOf, leqv, leqs, leq1, binv, ibin, unv, ptrOp, resOf, resAll, res1, reduceIte, reduceCtorEq, ne_eq, not_false_eq_true, Root.bx.injEq, Root.tm.injEq, Nat.reduceAdd, Nat.reduceBEq, Nat.reduceBNe, Nat.reduceEqDiff, Nat.reduceLT, Nat.reduceLeDiff, Nat.reduceMul, Nat.reduceSub, Int.reduceToNat, Int.reduceEq, Int.reduceBEq, Int.reduceBNe, Int.reduceLT, Int.reduceLE, if_true, if_false, Bool.false_eq_true, decide_true, decide_false, List.zipIdx_nil, bne_self_eq_false]
    · have h3 : (hallErr h steps != 0) = true := by simp [h1]
      simp only [h1, h2, h3, pc_unless, pc_first2, fst1, unl, mayEnter, List.replicate, List.set, ww0, ww1, ww2, ww3, ww4, ww5, ww6, ww7, ww8, ww9, ww10, I, Vi.start, exec, St.gone, St.cells, St.write, St.ints, St.optInt, St.deref, vals, Vi.gone, cut, paste, fill, rowsOf, leqv, leqs, leq1, binv, ibin, unv, ptrOp, resOf, resAll, res1, reduceIte, reduceCtorEq, ne_eq, not_false_eq_true, Root.bx.injEq, Root.tm.injEq, Nat.reduceAdd, Nat.reduceBEq, Nat.reduceBNe, Nat.reduceEqDiff, Nat.reduceLT, Nat.reduceLeDiff, Nat.reduceMul, Nat.reduceSub, Int.reduceToNat, Int.reduceEq, Int.reduceBEq, Int.reduceBNe, Int.reduceLT, Int.reduceLE, if_true, if_false, Bool.false_eq_true, decide_true, decide_false, List.zipIdx_nil, bne_self_eq_false]
  · cases h4 : isStep x.step
    · by_cases h1 : hallErr h steps = 0
      · simp only [h1, h2, h4, pc_isStep, pc_unless, pc_first2, fst1, unl, mayEnter, List.replicate, List.set, ww0, ww1, ww2, ww3, ww4, ww5, ww6, ww7, ww8, ww9, ww10, I, Vi.start, exec, St.gone, St.cells, St.write, St.ints, St.optInt, St.deref, vals, Vi.gone, cut, paste, fill, rowsOf, leqv, leqs, leq1, binv, ibin, unv, ptrOp, resOf, resAll, res1, reduceIte, reduceCtorEq, ne_eq, not_false_eq_true, Root.bx.injEq, Root.tm.injEq, Nat.reduceAdd, Nat.reduceBEq, Nat.reduceBNe, Nat.reduceEqDiff, Nat.reduceLT, Nat.reduceLeDiff, Nat.reduceMul, Nat.reduceSub, Int.reduceToNat, Int.reduceEq, Int.reduceBEq, Int.reduceBNe, Int.reduceLT, Int.reduceLE, if_true, if_false, Bool.false_eq_true, decide_true, decide_false, List.zipIdx_nil, bne_self_eq_false]
      · have h3 : (hallErr h steps != 0) = true := by simp [h1]
        simp only [h1, h2, h3, h4, pc_isStep, pc_unless, pc_first2, fst1, unl, mayEnter, List.replicate, List.set, ww0, ww1, ww2, ww3, ww4, ww5, ww6, ww7, ww8, ww9, ww10, I, Vi.start, exec, St.gone, St.cells, St.write, St.ints, St.optInt, St.deref, vals, Vi.gone, cut, paste, fill, rowsOf, leqv, leqs, leq1, binv, ibin, unv, ptrOp, resOf, resAll, res1, reduceIte, reduceCtorEq, ne_eq, not_false_eq_true, Root.bx.injEq, Root.tm.injEq, Nat.reduceAdd, Nat.reduceBEq, Nat.reduceBNe, Nat.reduceEqDiff, Nat.reduceLT, Nat.reduceLeDiff, Nat.reduceMul, Nat.reduceSub, Int.reduceToNat, Int.reduceEq, Int.reduceBEq, Int.reduceBNe, Int.reduceLT, Int.reduceLE, if_true, if_false, Bool.false_eq_true, decide_true, decide_false, List.zipIdx_nil, bne_self_eq_false]
    · by_cases h1 : hallErr h steps = 0
      · have h5 : 0 ≤ x.machine ∧ x.machine < steps.length := by
          simp only [inR, Bool.and_eq_true, decide_eq_true_eq] at h2; omega
        obtain ⟨m, hm⟩ := Int.eq_ofNat_of_zero_le h5.1
        have hb := pc_broken h (steps.set m x.step) (by simpa using hs) hl
        have hmx : steps[m]? = some (steps[m]'(by omega)) := List.getElem?_eq_getElem (by omega)
        have h6 := h5.2
        simp only [ints, List.map_set] at hb
        rw [hm] at h2 h6 ⊢
        simp only [h1, h2, h4, h6, hc, hmx, hb, hm, pc_isStep, pc_unless, pc_first2, fst1, unl, mayEnter, List.replicate, List.set, List.map_set, ww0, ww1, ww2, ww3, ww4, ww5, ww6, ww7, ww8, ww9, ww10, I, Vi.start, exec, St.gone, St.cells, St.write, St.ints, St.optInt, St.deref, vals, Vi.gone, cut, paste, fill, rowsOf, leqv, leqs, leq1, binv, ibin, unv, ptrOp, resOf, resAll, res1, reduceIte, reduceCtorEq, ne_eq, not_false_eq_true, Root.bx.injEq, Root.tm.injEq, Nat.reduceAdd, Nat.reduceBEq, Nat.reduceBNe, Nat.reduceEqDiff, Nat.reduceLT, Nat.reduceLeDiff, Nat.reduceMul, Nat.reduceSub, Int.reduceToNat, Int.reduceEq, Int.reduceBEq, Int.reduceBNe, Int.reduceLT, Int.reduceLE, if_true, if_false, Bool.false_eq_true, decide_true, decide_false, List.zipIdx_nil, bne_self_eq_false]
        cases broken h (steps.set m x.step) with
        | none => simp only [ww0, ww1, ww2, ww3, ww4, ww5, ww6, ww7, ww8, ww9, ww10, I, Vi.start, exec, St.gone, St.cells, St.write, St.ints, St.optInt, St.deref, vals, Vi.gone, cut, paste, fill, rowsOf, leqv, leqs, leq1, binv, ibin, unv, ptrOp, resOf, resAll, res1, reduceIte, reduceCtorEq, ne_eq, not_false_eq_true, Root.bx.injEq, Root.tm.injEq, Nat.reduceAdd, Nat.reduceBEq, Nat.reduceBNe, Nat.reduceEqDiff, Nat.reduceLT, Nat.reduceLeDiff, Nat.reduceMul, Nat.reduceSub, Int.reduceToNat, Int.reduceEq, Int.reduceBEq, Int.reduceBNe, Int.reduceLT, Int.reduceLE, if_true, if_false, Bool.false_eq_true, decide_true, decide_false, List.zipIdx_nil, bne_self_eq_false]
        | some p => obtain ⟨a, b⟩ := p; simp only [ww0, ww1, ww2, ww3, ww4, ww5, ww6, ww7, ww8, ww9, ww10, I, Vi.start, exec, St.gone, St.cells, St.write, St.ints, St.optInt, St.deref, vals, Vi.gone, cut, paste, fill, rowsOf, leqv, leqs, leq1, binv, ibin, unv, ptrOp, resOf, resAll, res1, reduceIte, reduceCtorEq, ne_eq, not_false_eq_true, Root.bx.injEq, Root.tm.injEq, Nat.reduceAdd, Nat.reduceBEq, Nat.reduceBNe, Nat.reduceEqDiff, Nat.reduceLT, Nat.reduceLeDiff, Nat.reduceMul, Nat.reduceSub, Int.reduceToNat, Int.reduceEq, Int.reduceBEq, Int.reduceBNe, Int.reduceLT, Int.reduceLE, if_true, if_false, Bool.false_eq_true, decide_true, decide_false, List.zipIdx_nil, bne_self_eq_false]
      · have h3 : (hallErr h steps != 0) = true := by simp [h1]
        simp only [h1, h2, h3, h4, pc_isStep, pc_unless, pc_first2, fst1, unl, mayEnter, List.replicate, List.set, ww0, ww1, ww2, ww3, ww4, ww5, ww6, ww7, ww8, ww9, ww10, I, Vi.start, exec, St.gone, St.cells, St.write, St.ints, St.optInt, St.deref, vals, Vi.gone, cut, paste, fill, rowsOf, leqv, leqs, leq1, binv, ibin, unv, ptrOp, resOf, resAll, res1, reduceIte, reduceCtorEq, ne_eq, not_false_eq_true, Root.bx.injEq, Root.tm.injEq, Nat.reduceAdd, Nat.reduceBEq, Nat.reduceBNe, Nat.reduceEqDiff, Nat.reduceLT, Nat.reduceLeDiff, Nat.reduceMul, Nat.reduceSub, Int.reduceToNat, Int.reduceEq, Int.reduceBEq, Int.reduceBNe, Int.reduceLT, Int.reduceLE, if_true, if_false, Bool.false_eq_true, decide_true, decide_false, List.zipIdx_nil, bne_self_eq_false]

end Go.ViD
