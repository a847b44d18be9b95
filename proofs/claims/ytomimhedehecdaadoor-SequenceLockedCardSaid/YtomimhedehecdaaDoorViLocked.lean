/- Halls: machines that enter steps one after the other. -/
import Derived.Test.YtomimhedehecdaaDoorViHallsL
set_option linter.unusedSimpArgs false
set_option linter.unusedVariables false
namespace Go.ViD
open Go.Vi

abbrev cEnt (x : Entry) : List V := [I x.machine, I x.step]
abbrev cHall (h : Hall) : List V := [I h.machines, .sl .s 3 (h.rules.map cRule)]

theorem loop7d {call : FuncId → List V → Option V} (now : List Int) (hl : now.length < 1000000) (es : List Entry) (h : Hall) (r : Rule) (i k0 : Int) (a : Nat) {t : List Todo} {k : Ex → St → Option V} :
    ∀ (m b : Nat) (acc : Bool), b + m = now.length → U call (.c (.loop f7l3) :: t) .normal ⟨[(2, .sl .s 2 (es.map cEnt)), (3, .loc 3 0), (9, .sl .a 1 (ints now)), (10, I i), (13, I k0), (14, .loc 14 0), (15, I a), (16, .bool acc), (17, I b)], [(3, false, cHall h), (14, false, cRule r)]⟩ k =
      U call t (.exit 6) ⟨[(2, .sl .s 2 (es.map cEnt)), (3, .loc 3 0), (9, .sl .a 1 (ints now)), (10, I i), (13, I k0), (14, .loc 14 0), (15, I a), (16, .bool (acc || othR a r.other (now.drop b) b))], [(3, false, cHall h), (14, false, cRule r)]⟩ k
  | 0, b, acc, hm => by
    rw [U_loop' f7l3.eq_1]
    have h0 : ¬ ((b : Int) < (now.length : Int)) := by omega
    simp only [ints, h0, ww0, ww1, ww2, ww3, ww4, ww5, ww6, ww7, ww8, ww9, ww10, I, Vi.start, exec, St.gone, St.cells, St.write, St.ints, St.optInt, St.deref, vals, Vi.gone, cut, paste, fill, rowsOf, leqv, leqs, leq1, binv, ibin, unv, ptrOp, resOf, resAll, res1, reduceIte, reduceCtorEq, ne_eq, not_false_eq_true, Root.bx.injEq, Root.tm.injEq, Nat.reduceAdd, Nat.reduceBEq, Nat.reduceBNe, Nat.reduceEqDiff, Nat.reduceLT, Nat.reduceLeDiff, Nat.reduceMul, Nat.reduceSub, Int.reduceToNat, Int.reduceEq, Int.reduceBEq, Int.reduceBNe, Int.reduceLT, Int.reduceLE, if_true, if_false, Bool.false_eq_true, decide_true, decide_false, List.zipIdx_nil, bne_self_eq_false]
    rw [List.drop_eq_nil_of_le (by omega)]
    simp only [othR, Bool.or_false]
  | m + 1, b, acc, hm => by
    rw [U_loop' f7l3.eq_1]
    have h0 : ((b : Int) < (now.length : Int)) := by omega
    have hx : now[b]? = some now[b] := List.getElem?_eq_getElem (by omega)
    have hd : now.drop b = now[b] :: now.drop (b + 1) := List.drop_eq_getElem_cons (by omega)
    have ih := fun acc => loop7d (call := call) now hl es h r i k0 a (t := t) (k := k) m (b + 1) acc (by omega)
    simp only [ints] at ih
    rw [hd]
    have hsym : ((a : Int) != (b : Int)) = ((b : Int) != (a : Int)) := by rw [Bool.eq_iff_iff]; simp; omega
    simp only [ints, h0, othR, ww0, ww1, ww2, ww3, ww4, ww5, ww6, ww7, ww8, ww9, ww10, I, Vi.start, exec, St.gone, St.cells, St.write, St.ints, St.optInt, St.deref, vals, Vi.gone, cut, paste, fill, rowsOf, leqv, leqs, leq1, binv, ibin, unv, ptrOp, resOf, resAll, res1, reduceIte, reduceCtorEq, ne_eq, not_false_eq_true, Root.bx.injEq, Root.tm.injEq, Nat.reduceAdd, Nat.reduceBEq, Nat.reduceBNe, Nat.reduceEqDiff, Nat.reduceLT, Nat.reduceLeDiff, Nat.reduceMul, Nat.reduceSub, Int.reduceToNat, Int.reduceEq, Int.reduceBEq, Int.reduceBNe, Int.reduceLT, Int.reduceLE, if_true, if_false, Bool.false_eq_true, decide_true, decide_false, List.zipIdx_nil, bne_self_eq_false]
    cases acc
    · rcases Bool.eq_false_or_eq_true ((b : Int) != (a : Int)) with h1 | h1
      · simp only [hsym, h1, hx, ww0, ww1, ww2, ww3, ww4, ww5, ww6, ww7, ww8, ww9, ww10, I, Vi.start, exec, St.gone, St.cells, St.write, St.ints, St.optInt, St.deref, vals, Vi.gone, cut, paste, fill, rowsOf, leqv, leqs, leq1, binv, ibin, unv, ptrOp, resOf, resAll, res1, reduceIte, reduceCtorEq, ne_eq, not_false_eq_true, Root.bx.injEq, Root.tm.injEq, Nat.reduceAdd, Nat.reduceBEq, Nat.reduceBNe, Nat.reduceEqDiff, Nat.reduceLT, Nat.reduceLeDiff, Nat.reduceMul, Nat.reduceSub, Int.reduceToNat, Int.reduceEq, Int.reduceBEq, Int.reduceBNe, Int.reduceLT, Int.reduceLE, if_true, if_false, Bool.false_eq_true, decide_true, decide_false, List.zipIdx_nil, bne_self_eq_false]
        rcases Bool.eq_false_or_eq_true (now[b] == r.other) with h2 | h2 <;> simp only [h2, wrap_succ (i := b) (by omega), ih, ww0, ww1, ww2, ww3, ww4, ww5, ww6, ww7, ww8, ww9, ww10, I, Vi.start, exec, St.gone, St.cells, St.write, St.ints, St.optInt, St.deref, vals, Vi.gone, cut, paste, fill, rowsOf, leqv, leqs, leq1, binv, ibin, unv, ptrOp, resOf, resAll, res1, reduceIte, reduceCtorEq, ne_eq, not_false_eq_true, Root.bx.injEq, Root.tm.injEq, Nat.reduceAdd, Nat.reduceBEq, Nat.reduceBNe, Nat.reduceEqDiff, Nat.reduceLT, Nat.reduceLeDiff, Nat.reduceMul, Nat.reduceSub, Int.reduceToNat, Int.reduceEq, Int.reduceBEq, Int.reduceBNe, Int.reduceLT, Int.reduceLE, if_true, if_false, Bool.false_eq_true, decide_true, decide_false, List.zipIdx_nil, bne_self_eq_false]
      · simp only [hsym, h1, wrap_succ (i := b) (by omega), ih, ww0, ww1, ww2, ww3, ww4, ww5, ww6, ww7, ww8, ww9, ww10, I, Vi.start, exec, St.gone, St.cells, St.write, St.ints, St.optInt, St.deref, vals, Vi.gone, cut, paste, fill, rowsOf, leqv, leqs, leq1, binv, ibin, unv, ptrOp, resOf, resAll, res1, reduceIte, reduceCtorEq, ne_eq, not_false_eq_true, Root.bx.injEq, Root.tm.injEq, Nat.reduceAdd, Nat.reduceBEq, Nat.reduceBNe, Nat.reduceEqDiff, Nat.reduceLT, Nat.reduceLeDiff, Nat.reduceMul, Nat.reduceSub, Int.reduceToNat, Int.reduceEq, Int.reduceBEq, Int.reduceBNe, Int.reduceLT, Int.reduceLE, if_true, if_false, Bool.false_eq_true, decide_true, decide_false, List.zipIdx_nil, bne_self_eq_false]
    · simp only [wrap_succ (i := b) (by omega), ih, ww0, ww1, ww2, ww3, ww4, ww5, ww6, ww7, ww8, ww9, ww10, I, Vi.start, exec, St.gone, St.cells, St.write, St.ints, St.optInt, St.deref, vals, Vi.gone, cut, paste, fill, rowsOf, leqv, leqs, leq1, binv, ibin, unv, ptrOp, resOf, resAll, res1, reduceIte, reduceCtorEq, ne_eq, not_false_eq_true, Root.bx.injEq, Root.tm.injEq, Nat.reduceAdd, Nat.reduceBEq, Nat.reduceBNe, Nat.reduceEqDiff, Nat.reduceLT, Nat.reduceLeDiff, Nat.reduceMul, Nat.reduceSub, Int.reduceToNat, Int.reduceEq, Int.reduceBEq, Int.reduceBNe, Int.reduceLT, Int.reduceLE, if_true, if_false, Bool.false_eq_true, decide_true, decide_false, List.zipIdx_nil, bne_self_eq_false]

/-- What the law holds against a rule. -/
def breaks (r : Rule) (now : List Int) (a : Nat) (x : Int) : Bool := x == r.step && ((r.kind == 0 && hasI (others now a) r.other) || (r.kind == 1 && !hasI (others now a) r.other))

theorem breaks_not {r : Rule} {now : List Int} {a : Nat} {x : Int} (hk : r.kind = 0 ∨ r.kind = 1) (hb : bad r now a x = false) : breaks r now a x = false := by
  unfold breaks
  unfold bad at hb
  have hs : (r.step == x) = (x == r.step) := by rw [Bool.eq_iff_iff]; simp; exact eq_comm
  rw [hs] at hb
  cases h1 : x == r.step
  · rfl
  · rw [h1] at hb
    simp only [Bool.true_and] at hb ⊢
    rcases hk with hk | hk <;> rw [hk] at hb ⊢ <;> cases h2 : hasI (others now a) r.other <;> rw [h2] at hb <;> first | rfl | (exact absurd hb (by decide))

theorem loop7c (now : List Int) (hl : now.length < 1000000) (es : List Entry) (h : Hall) (r : Rule) (i k0 : Int) (hno : ∀ (a : Nat) (x : Int), now[a]? = some x → breaks r now a x = false) {t : List Todo} {k : Ex → St → Option V} :
    ∀ (m a : Nat), a + m = now.length → U (pc E) (.c (.loop f7l2) :: t) .normal ⟨[(2, .sl .s 2 (es.map cEnt)), (3, .loc 3 0), (9, .sl .a 1 (ints now)), (10, I i), (13, I k0), (14, .loc 14 0), (15, I a)], [(3, false, cHall h), (14, false, cRule r)]⟩ k =
      U (pc E) t (.exit 4) ⟨[(2, .sl .s 2 (es.map cEnt)), (3, .loc 3 0), (9, .sl .a 1 (ints now)), (10, I i), (13, I k0)], [(3, false, cHall h)]⟩ k
  | 0, a, hm => by
    rw [U_loop' f7l2.eq_1]
    have h0 : ¬ ((a : Int) < (now.length : Int)) := by omega
    simp only [ints, h0, ww0, ww1, ww2, ww3, ww4, ww5, ww6, ww7, ww8, ww9, ww10, I, Vi.start, exec, St.gone, St.cells, St.write, St.ints, St.optInt, St.deref, vals, Vi.gone, cut, paste, fill, rowsOf, leqv, leqs, leq1, binv, ibin, unv, ptrOp, resOf, resAll, res1, reduceIte, reduceCtorEq, ne_eq, not_false_eq_true, Root.bx.injEq, Root.tm.injEq, Nat.reduceAdd, Nat.reduceBEq, Nat.reduceBNe, Nat.reduceEqDiff, Nat.reduceLT, Nat.reduceLeDiff, Nat.reduceMul, Nat.reduceSub, Int.reduceToNat, Int.reduceEq, Int.reduceBEq, Int.reduceBNe, Int.reduceLT, Int.reduceLE, if_true, if_false, Bool.false_eq_true, decide_true, decide_false, List.zipIdx_nil, bne_self_eq_false]
  | m + 1, a, hm => by
    rw [U_loop' f7l2.eq_1]
    have h0 : ((a : Int) < (now.length : Int)) := by omega
    have hx : now[a]? = some now[a] := List.getElem?_eq_getElem (by omega)
    have ih := loop7c now hl es h r i k0 hno (t := t) (k := k) m (a + 1) (by omega)
    have hin := fun t k => loop7d (call := pc E) now hl es h r i k0 a (t := t) (k := k) now.length 0 false (by omega)
    simp only [ints, List.drop_zero, Int.cast_ofNat_Int, othR_others a r.other now 0 (by omega), Nat.sub_zero, Bool.false_or] at ih hin
    have hb := hno a _ hx
    simp only [breaks, others] at hb
    simp only [ints, h0, hin, hx, ww0, ww1, ww2, ww3, ww4, ww5, ww6, ww7, ww8, ww9, ww10, I, Vi.start, exec, St.gone, St.cells, St.write, St.ints, St.optInt, St.deref, vals, Vi.gone, cut, paste, fill, rowsOf, leqv, leqs, leq1, binv, ibin, unv, ptrOp, resOf, resAll, res1, reduceIte, reduceCtorEq, ne_eq, not_false_eq_true, Root.bx.injEq, Root.tm.injEq, Nat.reduceAdd, Nat.reduceBEq, Nat.reduceBNe, Nat.reduceEqDiff, Nat.reduceLT, Nat.reduceLeDiff, Nat.reduceMul, Nat.reduceSub, Int.reduceToNat, Int.reduceEq, Int.reduceBEq, Int.reduceBNe, Int.reduceLT, Int.reduceLE, if_true, if_false, Bool.false_eq_true, decide_true, decide_false, List.zipIdx_nil, bne_self_eq_false]
    generalize now[a] = x at hb hx
    generalize hasI (now.take a ++ now.drop (a + 1)) r.other = th at hb
    rcases Bool.eq_false_or_eq_true (x == r.step) with h1 | h1
    · rw [h1] at hb
      simp only [Bool.true_and, Bool.or_eq_false_iff] at hb
      obtain ⟨hb1, hb2⟩ := hb
      simp only [h1, ww0, ww1, ww2, ww3, ww4, ww5, ww6, ww7, ww8, ww9, ww10, I, Vi.start, exec, St.gone, St.cells, St.write, St.ints, St.optInt, St.deref, vals, Vi.gone, cut, paste, fill, rowsOf, leqv, leqs, leq1, binv, ibin, unv, ptrOp, resOf, resAll, res1, reduceIte, reduceCtorEq, ne_eq, not_false_eq_true, Root.bx.injEq, Root.tm.injEq, Nat.reduceAdd, Nat.reduceBEq, Nat.reduceBNe, Nat.reduceEqDiff, Nat.reduceLT, Nat.reduceLeDiff, Nat.reduceMul, Nat.reduceSub, Int.reduceToNat, Int.reduceEq, Int.reduceBEq, Int.reduceBNe, Int.reduceLT, Int.reduceLE, if_true, if_false, Bool.false_eq_true, decide_true, decide_false, List.zipIdx_nil, bne_self_eq_false]
      rcases Bool.eq_false_or_eq_true (r.kind == 0) with h2 | h2
      · rw [h2, Bool.true_and] at hb1
        subst hb1
        rcases Bool.eq_false_or_eq_true (r.kind == 1) with h3 | h3
        · rw [h3] at hb2; cases hb2
        · simp only [h2, h3, wrap_succ (i := a) (by omega), ih, ww0, ww1, ww2, ww3, ww4, ww5, ww6, ww7, ww8, ww9, ww10, I, Vi.start, exec, St.gone, St.cells, St.write, St.ints, St.optInt, St.deref, vals, Vi.gone, cut, paste, fill, rowsOf, leqv, leqs, leq1, binv, ibin, unv, ptrOp, resOf, resAll, res1, reduceIte, reduceCtorEq, ne_eq, not_false_eq_true, Root.bx.injEq, Root.tm.injEq, Nat.reduceAdd, Nat.reduceBEq, Nat.reduceBNe, Nat.reduceEqDiff, Nat.reduceLT, Nat.reduceLeDiff, Nat.reduceMul, Nat.reduceSub, Int.reduceToNat, Int.reduceEq, Int.reduceBEq, Int.reduceBNe, Int.reduceLT, Int.reduceLE, if_true, if_false, Bool.false_eq_true, decide_true, decide_false, List.zipIdx_nil, bne_self_eq_false]
      · rcases Bool.eq_false_or_eq_true (r.kind == 1) with h3 | h3
        · rw [h3, Bool.true_and] at hb2
          simp only [Bool.not_eq_false'] at hb2
          subst hb2
          simp only [h2, h3, wrap_succ (i := a) (by omega), ih, ww0, ww1, ww2, ww3, ww4, ww5, ww6, ww7, ww8, ww9, ww10, I, Vi.start, exec, St.gone, St.cells, St.write, St.ints, St.optInt, St.deref, vals, Vi.gone, cut, paste, fill, rowsOf, leqv, leqs, leq1, binv, ibin, unv, ptrOp, resOf, resAll, res1, reduceIte, reduceCtorEq, ne_eq, not_false_eq_true, Root.bx.injEq, Root.tm.injEq, Nat.reduceAdd, Nat.reduceBEq, Nat.reduceBNe, Nat.reduceEqDiff, Nat.reduceLT, Nat.reduceLeDiff, Nat.reduceMul, Nat.reduceSub, Int.reduceToNat, Int.reduceEq, Int.reduceBEq, Int.reduceBNe, Int.reduceLT, Int.reduceLE, if_true, if_false, Bool.false_eq_true, decide_true, decide_false, List.zipIdx_nil, bne_self_eq_false]
        · simp only [h2, h3, wrap_succ (i := a) (by omega), ih, ww0, ww1, ww2, ww3, ww4, ww5, ww6, ww7, ww8, ww9, ww10, I, Vi.start, exec, St.gone, St.cells, St.write, St.ints, St.optInt, St.deref, vals, Vi.gone, cut, paste, fill, rowsOf, leqv, leqs, leq1, binv, ibin, unv, ptrOp, resOf, resAll, res1, reduceIte, reduceCtorEq, ne_eq, not_false_eq_true, Root.bx.injEq, Root.tm.injEq, Nat.reduceAdd, Nat.reduceBEq, Nat.reduceBNe, Nat.reduceEqDiff, Nat.reduceLT, Nat.reduceLeDiff, Nat.reduceMul, Nat.reduceSub, Int.reduceToNat, Int.reduceEq, Int.reduceBEq, Int.reduceBNe, Int.reduceLT, Int.reduceLE, if_true, if_false, Bool.false_eq_true, decide_true, decide_false, List.zipIdx_nil, bne_self_eq_false]
    · simp only [h1, wrap_succ (i := a) (by omega), ih, ww0, ww1, ww2, ww3, ww4, ww5, ww6, ww7, ww8, ww9, ww10, I, Vi.start, exec, St.gone, St.cells, St.write, St.ints, St.optInt, St.deref, vals, Vi.gone, cut, paste, fill, rowsOf, leqv, leqs, leq1, binv, ibin, unv, ptrOp, resOf, resAll, res1, reduceIte, reduceCtorEq, ne_eq, not_false_eq_true, Root.bx.injEq, Root.tm.injEq, Nat.reduceAdd, Nat.reduceBEq, Nat.reduceBNe, Nat.reduceEqDiff, Nat.reduceLT, Nat.reduceLeDiff, Nat.reduceMul, Nat.reduceSub, Int.reduceToNat, Int.reduceEq, Int.reduceBEq, Int.reduceBNe, Int.reduceLT, Int.reduceLE, if_true, if_false, Bool.false_eq_true, decide_true, decide_false, List.zipIdx_nil, bne_self_eq_false]

theorem loop7b (now : List Int) (hl : now.length < 1000000) (es : List Entry) (h : Hall) (hr : h.rules.length < 1000000) (i : Int) (hno : ∀ r ∈ h.rules, ∀ (a : Nat) (x : Int), now[a]? = some x → breaks r now a x = false) {t : List Todo} {k : Ex → St → Option V} :
    ∀ (m j : Nat), j + m = h.rules.length → U (pc E) (.c (.loop f7l1) :: t) .normal ⟨[(2, .sl .s 2 (es.map cEnt)), (3, .loc 3 0), (9, .sl .a 1 (ints now)), (10, I i), (13, I j)], [(3, false, cHall h)]⟩ k =
      U (pc E) t (.exit 2) ⟨[(2, .sl .s 2 (es.map cEnt)), (3, .loc 3 0), (9, .sl .a 1 (ints now)), (10, I i)], [(3, false, cHall h)]⟩ k
  | 0, j, hm => by
    rw [U_loop' f7l1.eq_1]
    have h0 : ¬ ((j : Int) < (h.rules.length : Int)) := by omega
    simp only [ints, h0, ww0, ww1, ww2, ww3, ww4, ww5, ww6, ww7, ww8, ww9, ww10, I, Vi.start, exec, St.gone, St.cells, St.write, St.ints, St.optInt, St.deref, vals, Vi.gone, cut, paste, fill, rowsOf, leqv, leqs, leq1, binv, ibin, unv, ptrOp, resOf, resAll, res1, reduceIte, reduceCtorEq, ne_eq, not_false_eq_true, Root.bx.injEq, Root.tm.injEq, Nat.reduceAdd, Nat.reduceBEq, Nat.reduceBNe, Nat.reduceEqDiff, Nat.reduceLT, Nat.reduceLeDiff, Nat.reduceMul, Nat.reduceSub, Int.reduceToNat, Int.reduceEq, Int.reduceBEq, Int.reduceBNe, Int.reduceLT, Int.reduceLE, if_true, if_false, Bool.false_eq_true, decide_true, decide_false, List.zipIdx_nil, bne_self_eq_false]
  | m + 1, j, hm => by
    rw [U_loop' f7l1.eq_1]
    have h0 : ((j : Int) < (h.rules.length : Int)) := by omega
    have hx : h.rules[j]? = some h.rules[j] := List.getElem?_eq_getElem (by omega)
    have ih := loop7b now hl es h hr i hno (t := t) (k := k) m (j + 1) (by omega)
    have hin := fun t k => loop7c now hl es h h.rules[j] i j (hno _ (List.getElem_mem _)) (t := t) (k := k) now.length 0 (by omega)
    simp only [ints, List.drop_zero, Int.cast_ofNat_Int] at ih hin
    simp only [ints, h0, hin, hx, wrap_succ (i := j) (by omega), ih, ww0, ww1, ww2, ww3, ww4, ww5, ww6, ww7, ww8, ww9, ww10, I, Vi.start, exec, St.gone, St.cells, St.write, St.ints, St.optInt, St.deref, vals, Vi.gone, cut, paste, fill, rowsOf, leqv, leqs, leq1, binv, ibin, unv, ptrOp, resOf, resAll, res1, reduceIte, reduceCtorEq, ne_eq, not_false_eq_true, Root.bx.injEq, Root.tm.injEq, Nat.reduceAdd, Nat.reduceBEq, Nat.reduceBNe, Nat.reduceEqDiff, Nat.reduceLT, Nat.reduceLeDiff, Nat.reduceMul, Nat.reduceSub, Int.reduceToNat, Int.reduceEq, Int.reduceBEq, Int.reduceBNe, Int.reduceLT, Int.reduceLE, if_true, if_false, Bool.false_eq_true, decide_true, decide_false, List.zipIdx_nil, bne_self_eq_false]

theorem badAt_none {steps : List Int} {m : Nat} {s : Int} : ∀ {l : List Rule} {i : Nat}, badAt steps m s l i = none → ∀ r ∈ l, bad r steps m s = false
  | [], _, _, r, hr => by cases hr
  | r0 :: l, i, h, r, hr => by
    simp only [badAt] at h
    split at h
    · cases h
    · rename_i hb
      rcases List.mem_cons.1 hr with rfl | hr
      · simpa using hb
      · exact badAt_none h r hr

theorem brk_none {rules : List Rule} {steps : List Int} : ∀ {l : List Int} {m : Nat}, brk rules steps l m = none → ∀ (j : Nat) (s : Int), l[j]? = some s → ∀ r ∈ rules, bad r steps (m + j) s = false
  | [], _, _, j, s, hj, _, _ => by simp at hj
  | s0 :: l, m, h, j, s, hj, r, hr => by
    simp only [brk] at h
    split at h
    · cases h
    · rename_i hb
      cases j with
      | zero => simp at hj; subst hj; exact badAt_none hb r hr
      | succ j => have := brk_none h j s (by simpa using hj) r hr; rwa [show m + 1 + j = m + (j + 1) by omega] at this

theorem rules_kind : ∀ {l : List Rule} {i : Nat}, (rulesErr l i).2 = 0 → ∀ r ∈ l, r.kind = 0 ∨ r.kind = 1
  | [], _, _, r, hr => by cases hr
  | r0 :: l, i, h, r, hr => by
    simp only [rulesErr] at h
    by_cases h1 : ruleErr r0 = 0
    · rw [if_pos h1] at h
      rcases List.mem_cons.1 hr with rfl | hr
      · unfold ruleErr at h1
        split at h1
        · split at h1
          · rename_i hk
            simp only [inR, Bool.and_eq_true, decide_eq_true_eq] at hk
            omega
          · cases h1
        · cases h1
      · exact rules_kind h r hr
    · rw [if_neg h1] at h; exact absurd h h1

theorem hall_kind {h : Hall} (h0 : (checkHall h).2 = 0) : ∀ r ∈ h.rules, r.kind = 0 ∨ r.kind = 1 := by
  unfold checkHall at h0
  split at h0
  · split at h0
    · exact rules_kind h0
    · cases h0
  · cases h0

theorem no_breaks {h : Hall} {now : List Int} (h0 : (checkHall h).2 = 0) (hb : broken h now = none) : ∀ r ∈ h.rules, ∀ (a : Nat) (x : Int), now[a]? = some x → breaks r now a x = false := by
  intro r hr a x hx
  refine breaks_not (hall_kind h0 r hr) ?_
  have := brk_none hb a x hx r hr
  rwa [Nat.zero_add] at this

theorem stepsErr_set {h : Hall} {now : List Int} {m : Nat} {v : Int} (h0 : stepsErr h now = 0) (hv : isStep v = true) : stepsErr h (now.set m v) = 0 := by
  have hlen := stepsErr_len h0
  unfold stepsErr at h0 ⊢
  rw [if_pos hlen] at h0
  rw [List.length_set, if_pos hlen]
  split at h0
  · cases h0
  · rename_i ha
    rw [if_neg]
    intro hc
    obtain ⟨x, hx, hx2⟩ := List.any_eq_true.1 hc
    rcases List.mem_or_eq_of_mem_set hx with h1 | h1
    · exact ha (List.any_eq_true.2 ⟨x, h1, hx2⟩)
    · subst h1; rw [hv] at hx2; cases hx2

theorem loop7 (es : List Entry) (he : es.length < 1000000) (h : Hall) (hr : h.rules.length < 1000000) (h0 : (checkHall h).2 = 0) {t : List Todo} {k : Ex → St → Option V} :
    ∀ (m i : Nat) (now : List Int), i + m = es.length → now.length < 1000000 → stepsErr h now = 0 → broken h now = none → U (pc E) (.c (.loop f7l0) :: t) .normal ⟨[(2, .sl .s 2 (es.map cEnt)), (3, .loc 3 0), (9, .sl .a 1 (ints now)), (10, I i)], [(3, false, cHall h)]⟩ k =
      U (pc E) t (.exit 0) ⟨[], []⟩ k
  | 0, i, now, hm, _, _, _ => by
    rw [U_loop' f7l0.eq_1]
    have h0 : ¬ ((i : Int) < (es.length : Int)) := by omega
    simp only [ints, h0, ww0, ww1, ww2, ww3, ww4, ww5, ww6, ww7, ww8, ww9, ww10, I, Vi.start, exec, St.gone, St.cells, St.write, St.ints, St.optInt, St.deref, vals, Vi.gone, cut, paste, fill, rowsOf, leqv, leqs, leq1, binv, ibin, unv, ptrOp, resOf, resAll, res1, reduceIte, reduceCtorEq, ne_eq, not_false_eq_true, Root.bx.injEq, Root.tm.injEq, Nat.reduceAdd, Nat.reduceBEq, Nat.reduceBNe, Nat.reduceEqDiff, Nat.reduceLT, Nat.reduceLeDiff, Nat.reduceMul, Nat.reduceSub, Int.reduceToNat, Int.reduceEq, Int.reduceBEq, Int.reduceBNe, Int.reduceLT, Int.reduceLE, if_true, if_false, Bool.false_eq_true, decide_true, decide_false, List.zipIdx_nil, bne_self_eq_false]
  | m + 1, i, now, hm, hl, hs, hb => by
    rw [U_loop' f7l0.eq_1]
    have hlt : ((i : Int) < (es.length : Int)) := by omega
    have hx : es[i]? = some es[i] := List.getElem?_eq_getElem (by omega)
    have hE : hallErr h now = 0 := by unfold hallErr; rw [if_pos h0]; exact hs
    have e1 := pc_copyHall h (by omega)
    have e2 := pc_copyInts now (by omega)
    generalize es[i] = x at hx
    have e4 := pc_mayEnter h now x (by omega) (by omega)
    simp only [ints, cHall] at e2 e4
    have hw : IntKind.i64.wrap ((now.length : Int) - 1) = (now.length : Int) - 1 := wrap_id (by omega) (by omega)
    by_cases h1 : (mayEnter h now x).2 = 0
    · have h2 : (inR x.machine 0 ((now.length : Int) - 1) && isStep x.step) = true ∧ broken h (now.set x.machine.toNat x.step) = none := by
        unfold mayEnter at h1
        rw [if_pos hE] at h1
        split at h1
        · rename_i hin
          refine ⟨hin, ?_⟩
          cases hbr : broken h (now.set x.machine.toNat x.step) with
          | none => rfl
          | some p => rw [hbr] at h1; cases h1
        · cases h1
      obtain ⟨hin, hbr⟩ := h2
      simp only [Bool.and_eq_true] at hin
      have h5 : 0 ≤ x.machine ∧ x.machine < now.length := by
        have := hin.1
        simp only [inR, Bool.and_eq_true, decide_eq_true_eq] at this; omega
      obtain ⟨mm, hmm⟩ := Int.eq_ofNat_of_zero_le h5.1
      rw [hmm, Int.toNat_natCast] at hbr
      have e9 := pc_entered now (by omega) mm (by omega) x.step
      simp only [ints] at e9
      have hin2 := hin.2
      simp only [isStep] at hin2
      have hin1 := hin.1
      have hnb := no_breaks h0 hbr
      have hin' := fun t k => loop7b (now.set mm x.step) (by simpa using hl) es h hr i hnb (t := t) (k := k) h.rules.length 0 (by omega)
      have ih := loop7 es he h hr h0 (t := t) (k := k) m (i + 1) (now.set mm x.step) (by omega) (by simpa using hl) (stepsErr_set hs hin.2) hbr
      simp only [ints, Int.cast_ofNat_Int] at hin' ih
      rw [hmm] at hin1 e4
      simp only [ints, hlt, hx, e1, e2, e4, h1, hw, cEnt, pc_Within, hmm, hin1, hin2, e9, ww0, ww1, ww2, ww3, ww4, ww5, ww6, ww7, ww8, ww9, ww10, I, Vi.start, exec, St.gone, St.cells, St.write, St.ints, St.optInt, St.deref, vals, Vi.gone, cut, paste, fill, rowsOf, leqv, leqs, leq1, binv, ibin, unv, ptrOp, resOf, resAll, res1, reduceIte, reduceCtorEq, ne_eq, not_false_eq_true, Root.bx.injEq, Root.tm.injEq, Nat.reduceAdd, Nat.reduceBEq, Nat.reduceBNe, Nat.reduceEqDiff, Nat.reduceLT, Nat.reduceLeDiff, Nat.reduceMul, Nat.reduceSub, Int.reduceToNat, Int.reduceEq, Int.reduceBEq, Int.reduceBNe, Int.reduceLT, Int.reduceLE, if_true, if_false, Bool.false_eq_true, decide_true, decide_false, List.zipIdx_nil, bne_self_eq_false]
      simp only [hin', wrap_succ (i := i) (by omega), ih, ww0, ww1, ww2, ww3, ww4, ww5, ww6, ww7, ww8, ww9, ww10, I, Vi.start, exec, St.gone, St.cells, St.write, St.ints, St.optInt, St.deref, vals, Vi.gone, cut, paste, fill, rowsOf, leqv, leqs, leq1, binv, ibin, unv, ptrOp, resOf, resAll, res1, reduceIte, reduceCtorEq, ne_eq, not_false_eq_true, Root.bx.injEq, Root.tm.injEq, Nat.reduceAdd, Nat.reduceBEq, Nat.reduceBNe, Nat.reduceEqDiff, Nat.reduceLT, Nat.reduceLeDiff, Nat.reduceMul, Nat.reduceSub, Int.reduceToNat, Int.reduceEq, Int.reduceBEq, Int.reduceBNe, Int.reduceLT, Int.reduceLE, if_true, if_false, Bool.false_eq_true, decide_true, decide_false, List.zipIdx_nil, bne_self_eq_false]
    · have h2 : (mayEnter h now x).2 = 24 ∨ (mayEnter h now x).2 = 6 := by
        unfold mayEnter at h1 ⊢
        rw [if_pos hE] at h1 ⊢
        split
        · rename_i hin
          rw [if_pos hin] at h1
          cases hbr : broken h (now.set x.machine.toNat x.step) with
          | none => rw [hbr] at h1; exact absurd rfl h1
          | some p => exact .inl rfl
        · exact .inr rfl
      have hnb := no_breaks h0 hb
      have hin' := fun t k => loop7b now hl es h hr i hnb (t := t) (k := k) h.rules.length 0 (by omega)
      have ih := loop7 es he h hr h0 (t := t) (k := k) m (i + 1) now (by omega) hl hs hb
      simp only [ints, Int.cast_ofNat_Int] at hin' ih
      rcases h2 with h2 | h2
      · simp only [ints, hlt, hx, e1, e2, e4, h2, cEnt, ww0, ww1, ww2, ww3, ww4, ww5, ww6, ww7, ww8, ww9, ww10, I, Vi.start, exec, St.gone, St.cells, St.write, St.ints, St.optInt, St.deref, vals, Vi.gone, cut, paste, fill, rowsOf, leqv, leqs, leq1, binv, ibin, unv, ptrOp, resOf, resAll, res1, reduceIte, reduceCtorEq, ne_eq, not_false_eq_true, Root.bx.injEq, Root.tm.injEq, Nat.reduceAdd, Nat.reduceBEq, Nat.reduceBNe, Nat.reduceEqDiff, Nat.reduceLT, Nat.reduceLeDiff, Nat.reduceMul, Nat.reduceSub, Int.reduceToNat, Int.reduceEq, Int.reduceBEq, Int.reduceBNe, Int.reduceLT, Int.reduceLE, if_true, if_false, Bool.false_eq_true, decide_true, decide_false, List.zipIdx_nil, bne_self_eq_false]
        simp only [hin', wrap_succ (i := i) (by omega), ih, ww0, ww1, ww2, ww3, ww4, ww5, ww6, ww7, ww8, ww9, ww10, I, Vi.start, exec, St.gone, St.cells, St.write, St.ints, St.optInt, St.deref, vals, Vi.gone, cut, paste, fill, rowsOf, leqv, leqs, leq1, binv, ibin, unv, ptrOp, resOf, resAll, res1, reduceIte, reduceCtorEq, ne_eq, not_false_eq_true, Root.bx.injEq, Root.tm.injEq, Nat.reduceAdd, Nat.reduceBEq, Nat.reduceBNe, Nat.reduceEqDiff, Nat.reduceLT, Nat.reduceLeDiff, Nat.reduceMul, Nat.reduceSub, Int.reduceToNat, Int.reduceEq, Int.reduceBEq, Int.reduceBNe, Int.reduceLT, Int.reduceLE, if_true, if_false, Bool.false_eq_true, decide_true, decide_false, List.zipIdx_nil, bne_self_eq_false]
      · simp only [ints, hlt, hx, e1, e2, e4, h2, cEnt, ww0, ww1, ww2, ww3, ww4, ww5, ww6, ww7, ww8, ww9, ww10, I, Vi.start, exec, St.gone, St.cells, St.write, St.ints, St.optInt, St.deref, vals, Vi.gone, cut, paste, fill, rowsOf, leqv, leqs, leq1, binv, ibin, unv, ptrOp, resOf, resAll, res1, reduceIte, reduceCtorEq, ne_eq, not_false_eq_true, Root.bx.injEq, Root.tm.injEq, Nat.reduceAdd, Nat.reduceBEq, Nat.reduceBNe, Nat.reduceEqDiff, Nat.reduceLT, Nat.reduceLeDiff, Nat.reduceMul, Nat.reduceSub, Int.reduceToNat, Int.reduceEq, Int.reduceBEq, Int.reduceBNe, Int.reduceLT, Int.reduceLE, if_true, if_false, Bool.false_eq_true, decide_true, decide_false, List.zipIdx_nil, bne_self_eq_false]
        simp only [hin', wrap_succ (i := i) (by omega), ih, ww0, ww1, ww2, ww3, ww4, ww5, ww6, ww7, ww8, ww9, ww10, I, Vi.start, exec, St.gone, St.cells, St.write, St.ints, St.optInt, St.deref, vals, Vi.gone, cut, paste, fill, rowsOf, leqv, leqs, leq1, binv, ibin, unv, ptrOp, resOf, resAll, res1, reduceIte, reduceCtorEq, ne_eq, not_false_eq_true, Root.bx.injEq, Root.tm.injEq, Nat.reduceAdd, Nat.reduceBEq, Nat.reduceBNe, Nat.reduceEqDiff, Nat.reduceLT, Nat.reduceLeDiff, Nat.reduceMul, Nat.reduceSub, Int.reduceToNat, Int.reduceEq, Int.reduceBEq, Int.reduceBNe, Int.reduceLT, Int.reduceLE, if_true, if_false, Bool.false_eq_true, decide_true, decide_false, List.zipIdx_nil, bne_self_eq_false]

theorem pc_locked (h : Hall) (steps : List Int) (es : List Entry) : pc E 7 [vHall h, .sl .s 1 (ints steps), .sl .s 2 (es.map cEnt)] = some (.bool true) := by
  refine pc_code (mf := f7) rfl ?_
  rw [runF_U rfl]
  have hf := pc_fewRules h steps
  simp only [ints] at hf
  cases h1 : decide (h.rules.length ≤ 14) && decide (steps.length ≤ 8)
  · rw [h1] at hf
    simp only [f7, ints, pc_awake, hf, ww0, ww1, ww2, ww3, ww4, ww5, ww6, ww7, ww8, ww9, ww10, I, Vi.start, exec, St.gone, St.cells, St.write, St.ints, St.optInt, St.deref, vals, Vi.gone, cut, paste, fill, rowsOf, leqv, leqs, leq1, binv, ibin, unv, ptrOp, resOf, resAll, res1, reduceIte, reduceCtorEq, ne_eq, not_false_eq_true, Root.bx.injEq, Root.tm.injEq, Nat.reduceAdd, Nat.reduceBEq, Nat.reduceBNe, Nat.reduceEqDiff, Nat.reduceLT, Nat.reduceLeDiff, Nat.reduceMul, Nat.reduceSub, Int.reduceToNat, Int.reduceEq, Int.reduceBEq, Int.reduceBNe, Int.reduceLT, Int.reduceLE, if_true, if_false, Bool.false_eq_true, decide_true, decide_false, List.zipIdx_nil, bne_self_eq_false]
  · rw [h1] at hf
    simp only [Bool.and_eq_true, decide_eq_true_eq] at h1
    have hs : steps.length ≤ 1000000 := by omega
    have e0 := pc_hallErr h (by omega)
    have e1 := pc_copyHall h (by omega)
    have e2 := pc_copyInts steps hs
    have e3 := pc_brokenIn h steps hs (by omega)
    have e7 := pc_stepsErr h steps (by omega)
    simp only [ints] at e2 e3 e7
    by_cases hA : (checkHall h).2 = 0
    · by_cases hB : stepsErr h steps = 0
      · have hE : hallErr h steps = 0 := by unfold hallErr; rw [if_pos hA]; exact hB
        by_cases hC : es.length ≤ 12
        · have hC' : ¬ ((es.length : Int) > 12) := by omega
          cases hbr : broken h steps with
          | none =>
            have eb : brokenIn h steps = (0, 0, 12) := by unfold brokenIn; rw [if_pos hE, hbr]
            have hlp := fun t k => loop7 es (by omega) h (by omega) hA (t := t) (k := k) es.length 0 steps (by omega) (by omega) hB hbr
            simp only [ints, Int.cast_ofNat_Int] at hlp
            simp only [f7, ints, pc_awake, hf, e0, e1, e2, e3, e7, eb, hA, hB, hC', hlp, ww0, ww1, ww2, ww3, ww4, ww5, ww6, ww7, ww8, ww9, ww10, I, Vi.start, exec, St.gone, St.cells, St.write, St.ints, St.optInt, St.deref, vals, Vi.gone, cut, paste, fill, rowsOf, leqv, leqs, leq1, binv, ibin, unv, ptrOp, resOf, resAll, res1, reduceIte, reduceCtorEq, ne_eq, not_false_eq_true, Root.bx.injEq, Root.tm.injEq, Nat.reduceAdd, Nat.reduceBEq, Nat.reduceBNe, Nat.reduceEqDiff, Nat.reduceLT, Nat.reduceLeDiff, Nat.reduceMul, Nat.reduceSub, Int.reduceToNat, Int.reduceEq, Int.reduceBEq, Int.reduceBNe, Int.reduceLT, Int.reduceLE, if_true, if_false, Bool.false_eq_true, decide_true, decide_false, List.zipIdx_nil, bne_self_eq_false]
          | some p =>
            obtain ⟨a, b⟩ := p
            have eb : brokenIn h steps = ((a : Int), (b : Int), (0 : Int)) := by unfold brokenIn; rw [if_pos hE, hbr]
            simp only [f7, ints, pc_awake, hf, e0, e1, e2, e3, e7, eb, hA, hB, hC', ww0, ww1, ww2, ww3, ww4, ww5, ww6, ww7, ww8, ww9, ww10, I, Vi.start, exec, St.gone, St.cells, St.write, St.ints, St.optInt, St.deref, vals, Vi.gone, cut, paste, fill, rowsOf, leqv, leqs, leq1, binv, ibin, unv, ptrOp, resOf, resAll, res1, reduceIte, reduceCtorEq, ne_eq, not_false_eq_true, Root.bx.injEq, Root.tm.injEq, Nat.reduceAdd, Nat.reduceBEq, Nat.reduceBNe, Nat.reduceEqDiff, Nat.reduceLT, Nat.reduceLeDiff, Nat.reduceMul, Nat.reduceSub, Int.reduceToNat, Int.reduceEq, Int.reduceBEq, Int.reduceBNe, Int.reduceLT, Int.reduceLE, if_true, if_false, Bool.false_eq_true, decide_true, decide_false, List.zipIdx_nil, bne_self_eq_false]
        · have hC' : ((es.length : Int) > 12) := by omega
          simp only [f7, ints, pc_awake, hf, e0, e7, hA, hB, hC', ww0, ww1, ww2, ww3, ww4, ww5, ww6, ww7, ww8, ww9, ww10, I, Vi.start, exec, St.gone, St.cells, St.write, St.ints, St.optInt, St.deref, vals, Vi.gone, cut, paste, fill, rowsOf, leqv, leqs, leq1, binv, ibin, unv, ptrOp, resOf, resAll, res1, reduceIte, reduceCtorEq, ne_eq, not_false_eq_true, Root.bx.injEq, Root.tm.injEq, Nat.reduceAdd, Nat.reduceBEq, Nat.reduceBNe, Nat.reduceEqDiff, Nat.reduceLT, Nat.reduceLeDiff, Nat.reduceMul, Nat.reduceSub, Int.reduceToNat, Int.reduceEq, Int.reduceBEq, Int.reduceBNe, Int.reduceLT, Int.reduceLE, if_true, if_false, Bool.false_eq_true, decide_true, decide_false, List.zipIdx_nil, bne_self_eq_false]
      · have hB' : (stepsErr h steps != 0) = true := by simp [hB]
        simp only [f7, ints, pc_awake, hf, e0, e7, hA, hB', ww0, ww1, ww2, ww3, ww4, ww5, ww6, ww7, ww8, ww9, ww10, I, Vi.start, exec, St.gone, St.cells, St.write, St.ints, St.optInt, St.deref, vals, Vi.gone, cut, paste, fill, rowsOf, leqv, leqs, leq1, binv, ibin, unv, ptrOp, resOf, resAll, res1, reduceIte, reduceCtorEq, ne_eq, not_false_eq_true, Root.bx.injEq, Root.tm.injEq, Nat.reduceAdd, Nat.reduceBEq, Nat.reduceBNe, Nat.reduceEqDiff, Nat.reduceLT, Nat.reduceLeDiff, Nat.reduceMul, Nat.reduceSub, Int.reduceToNat, Int.reduceEq, Int.reduceBEq, Int.reduceBNe, Int.reduceLT, Int.reduceLE, if_true, if_false, Bool.false_eq_true, decide_true, decide_false, List.zipIdx_nil, bne_self_eq_false]
    · have hA' : ((checkHall h).2 != 0) = true := by simp [hA]
      simp only [f7, ints, pc_awake, hf, e0, hA', ww0, ww1, ww2, ww3, ww4, ww5, ww6, ww7, ww8, ww9, ww10, I, Vi.start, exec, St.gone, St.cells, St.write, St.ints, St.optInt, St.deref, vals, Vi.gone, cut, paste, fill, rowsOf, leqv, leqs, leq1, binv, ibin, unv, ptrOp, resOf, resAll, res1, reduceIte, reduceCtorEq, ne_eq, not_false_eq_true, Root.bx.injEq, Root.tm.injEq, Nat.reduceAdd, Nat.reduceBEq, Nat.reduceBNe, Nat.reduceEqDiff, Nat.reduceLT, Nat.reduceLeDiff, Nat.reduceMul, Nat.reduceSub, Int.reduceToNat, Int.reduceEq, Int.reduceBEq, Int.reduceBNe, Int.reduceLT, Int.reduceLE, if_true, if_false, Bool.false_eq_true, decide_true, decide_false, List.zipIdx_nil, bne_self_eq_false]

end Go.ViD
