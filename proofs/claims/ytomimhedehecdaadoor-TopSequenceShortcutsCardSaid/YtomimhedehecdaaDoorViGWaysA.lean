import Derived.Test.YtomimhedehecdaaDoorViEqB
import Derived.Test.YtomimhedehecdaaDoorViSplit
import Derived.Test.YtomimhedehecdaaDoorViGRuns
section
/- The fastest way: comparisons. -/
set_option linter.unusedSimpArgs false
set_option linter.unusedVariables false
namespace Go.ViD
open Go.Vi

def cmpI (a b : Int) : Int := if a < b then -1 else if a > b then 1 else 0

theorem pc_isNaN (a : Int) : pc E 135 [I a] = some (.bool false) := by
  refine pc_code (mf := f135) rfl ?_
  rw [runF_U rfl]
  simp only [f135, wx, I, exec, resOf, reduceIte, reduceCtorEq, ne_eq, not_false_eq_true, Root.bx.injEq, Root.tm.injEq, Nat.reduceAdd, Nat.reduceBEq, Nat.reduceBNe, Nat.reduceEqDiff, Nat.reduceLT, Nat.reduceLeDiff, Nat.reduceMul, Nat.reduceSub, Int.reduceToNat, Int.reduceEq, Int.reduceBEq, Int.reduceBNe, Int.reduceLT, Int.reduceLE, if_true, if_false, Bool.false_eq_true, decide_true, decide_false, List.zipIdx_nil, bne_self_eq_false]

theorem pc_cmpI (a b : Int) : pc E 117 [I a, I b] = some (I (cmpI a b)) := by
  refine pc_code (mf := f117) rfl ?_
  rw [runF_U rfl]
  simp only [f117, pc_isNaN, cmpI, wx, I, exec, resOf, reduceIte, reduceCtorEq, ne_eq, not_false_eq_true, Root.bx.injEq, Root.tm.injEq, Nat.reduceAdd, Nat.reduceBEq, Nat.reduceBNe, Nat.reduceEqDiff, Nat.reduceLT, Nat.reduceLeDiff, Nat.reduceMul, Nat.reduceSub, Int.reduceToNat, Int.reduceEq, Int.reduceBEq, Int.reduceBNe, Int.reduceLT, Int.reduceLE, if_true, if_false, Bool.false_eq_true, decide_true, decide_false, List.zipIdx_nil, bne_self_eq_false]
  by_cases h1 : a < b
  · simp only [h1, wx, I, exec, resOf, reduceIte, reduceCtorEq, ne_eq, not_false_eq_true, Root.bx.injEq, Root.tm.injEq, Nat.reduceAdd, Nat.reduceBEq, Nat.reduceBNe, Nat.reduceEqDiff, Nat.reduceLT, Nat.reduceLeDiff, Nat.reduceMul, Nat.reduceSub, Int.reduceToNat, Int.reduceEq, Int.reduceBEq, Int.reduceBNe, Int.reduceLT, Int.reduceLE, if_true, if_false, Bool.false_eq_true, decide_true, decide_false, List.zipIdx_nil, bne_self_eq_false]
  · by_cases h2 : a > b <;> simp only [h1, h2, wx, I, exec, resOf, reduceIte, reduceCtorEq, ne_eq, not_false_eq_true, Root.bx.injEq, Root.tm.injEq, Nat.reduceAdd, Nat.reduceBEq, Nat.reduceBNe, Nat.reduceEqDiff, Nat.reduceLT, Nat.reduceLeDiff, Nat.reduceMul, Nat.reduceSub, Int.reduceToNat, Int.reduceEq, Int.reduceBEq, Int.reduceBNe, Int.reduceLT, Int.reduceLE, if_true, if_false, Bool.false_eq_true, decide_true, decide_false, List.zipIdx_nil, bne_self_eq_false]

def cmpL : List Int → List Int → Int
  | [], [] => 0
  | [], _ :: _ => -1
  | _ :: _, [] => 1
  | a :: l, b :: r => if cmpI a b = 0 then cmpL l r else cmpI a b

theorem cmpI_zero {a b : Int} : cmpI a b = 0 ↔ a = b := by
  unfold cmpI; split
  · constructor <;> intro h <;> omega
  · split <;> constructor <;> intro h <;> omega

theorem loop118 (xs ys : List Int) (hx : xs.length ≤ 1000) (hy : ys.length ≤ 1000) {t : List Todo} {k : Ex → St → Option V} :
    ∀ (m i : Nat), i + m = xs.length → i ≤ ys.length → U (pc E) (.c (.loop f118l0) :: t) .normal ⟨[(0, .sl .s 1 (ints xs)), (1, .sl .s 1 (ints ys)), (9, .sl .s 1 (ints xs)), (10, I xs.length), (11, I i)], []⟩ k =
      if ((xs.drop i).length ≤ (ys.drop i).length ∧ cmpL (xs.drop i) ((ys.drop i).take (xs.drop i).length) = 0) then U (pc E) t (.exit 0) ⟨[(0, .sl .s 1 (ints xs)), (1, .sl .s 1 (ints ys))], []⟩ k else k .ret ⟨[(4, I (cmpL (xs.drop i) (ys.drop i)))], []⟩
  | 0, i, hm, hi => by
    rw [U_loop' f118l0.eq_1]
    have h0 : ¬ ((i : Int) < (xs.length : Int)) := by omega
    have e : xs.drop i = [] := List.drop_eq_nil_of_le (by omega)
    rw [e, if_pos ⟨by simp, by simp [cmpL]⟩]
    simp only [ints, h0, wx, I, exec, resOf, reduceIte, reduceCtorEq, ne_eq, not_false_eq_true, Root.bx.injEq, Root.tm.injEq, Nat.reduceAdd, Nat.reduceBEq, Nat.reduceBNe, Nat.reduceEqDiff, Nat.reduceLT, Nat.reduceLeDiff, Nat.reduceMul, Nat.reduceSub, Int.reduceToNat, Int.reduceEq, Int.reduceBEq, Int.reduceBNe, Int.reduceLT, Int.reduceLE, if_true, if_false, Bool.false_eq_true, decide_true, decide_false, List.zipIdx_nil, bne_self_eq_false]
  | m + 1, i, hm, hi => by
    rw [U_loop' f118l0.eq_1]
    have h0 : ((i : Int) < (xs.length : Int)) := by omega
    have hxx : xs[i]? = some xs[i] := List.getElem?_eq_getElem (by omega)
    have hdx : xs.drop i = xs[i] :: xs.drop (i + 1) := List.drop_eq_getElem_cons (by omega)
    have hw := wrap_succ (i := i) (by omega)
    rw [hdx]
    generalize xs[i] = x at hxx ⊢
    by_cases hlt : i < ys.length
    · have h1 : decide ((i : Int) ≥ (ys.length : Int)) = false := by simp; omega
      have hyy : ys[i]? = some ys[i] := List.getElem?_eq_getElem (by omega)
      have hdy : ys.drop i = ys[i] :: ys.drop (i + 1) := List.drop_eq_getElem_cons (by omega)
      rw [hdy]
      generalize ys[i] = y at hyy ⊢
      have ih := loop118 xs ys hx hy (t := t) (k := k) m (i + 1) (by omega) (by omega)
      simp only [ints] at ih
      simp only [ints, h0, h1, hxx, hyy, pc_cmpI, cmpL, wx, I, exec, resOf, reduceIte, reduceCtorEq, ne_eq, not_false_eq_true, Root.bx.injEq, Root.tm.injEq, Nat.reduceAdd, Nat.reduceBEq, Nat.reduceBNe, Nat.reduceEqDiff, Nat.reduceLT, Nat.reduceLeDiff, Nat.reduceMul, Nat.reduceSub, Int.reduceToNat, Int.reduceEq, Int.reduceBEq, Int.reduceBNe, Int.reduceLT, Int.reduceLE, if_true, if_false, Bool.false_eq_true, decide_true, decide_false, List.zipIdx_nil, bne_self_eq_false]
      by_cases hc : cmpI x y = 0
      · simp only [hc, hw, ih, List.take_succ_cons, List.length_cons, Nat.add_le_add_iff_right, cmpL, wx, I, exec, resOf, reduceIte, reduceCtorEq, ne_eq, not_false_eq_true, Root.bx.injEq, Root.tm.injEq, Nat.reduceAdd, Nat.reduceBEq, Nat.reduceBNe, Nat.reduceEqDiff, Nat.reduceLT, Nat.reduceLeDiff, Nat.reduceMul, Nat.reduceSub, Int.reduceToNat, Int.reduceEq, Int.reduceBEq, Int.reduceBNe, Int.reduceLT, Int.reduceLE, if_true, if_false, Bool.false_eq_true, decide_true, decide_false, List.zipIdx_nil, bne_self_eq_false]
      · have hc2 : (cmpI x y != 0) = true := by simp [hc]
        simp only [hc, hc2, List.take_succ_cons, List.length_cons, cmpL, and_false, wx, I, exec, resOf, reduceIte, reduceCtorEq, ne_eq, not_false_eq_true, Root.bx.injEq, Root.tm.injEq, Nat.reduceAdd, Nat.reduceBEq, Nat.reduceBNe, Nat.reduceEqDiff, Nat.reduceLT, Nat.reduceLeDiff, Nat.reduceMul, Nat.reduceSub, Int.reduceToNat, Int.reduceEq, Int.reduceBEq, Int.reduceBNe, Int.reduceLT, Int.reduceLE, if_true, if_false, Bool.false_eq_true, decide_true, decide_false, List.zipIdx_nil, bne_self_eq_false]
    · have h1 : decide ((i : Int) ≥ (ys.length : Int)) = true := by simp; omega
      have e : ys.drop i = [] := List.drop_eq_nil_of_le (by omega)
      rw [e]
      simp only [ints, h0, h1, hxx, cmpL, List.length_cons, List.length_nil, Nat.not_succ_le_zero, wx, I, exec, resOf, reduceIte, reduceCtorEq, ne_eq, not_false_eq_true, Root.bx.injEq, Root.tm.injEq, Nat.reduceAdd, Nat.reduceBEq, Nat.reduceBNe, Nat.reduceEqDiff, Nat.reduceLT, Nat.reduceLeDiff, Nat.reduceMul, Nat.reduceSub, Int.reduceToNat, Int.reduceEq, Int.reduceBEq, Int.reduceBNe, Int.reduceLT, Int.reduceLE, if_true, if_false, Bool.false_eq_true, decide_true, decide_false, List.zipIdx_nil, bne_self_eq_false]

theorem cmpL_take : ∀ (xs ys : List Int), xs.length ≤ ys.length → cmpL xs (ys.take xs.length) = 0 → cmpL xs ys = if xs.length < ys.length then -1 else 0
  | [], [], _, _ => rfl
  | [], y :: ys, _, _ => by simp [cmpL]
  | x :: xs, [], h, _ => by simp at h
  | x :: xs, y :: ys, h, hc => by
    simp only [List.length_cons, List.take_succ_cons, cmpL] at hc ⊢
    by_cases h1 : cmpI x y = 0
    · rw [if_pos h1] at hc ⊢
      rw [cmpL_take xs ys (by simpa using h) hc]
      simp
    · rw [if_neg h1] at hc; exact absurd hc h1

theorem pc_cmpL (xs ys : List Int) (hx : xs.length ≤ 1000) (hy : ys.length ≤ 1000) : pc E 118 [.sl .s 1 (ints xs), .sl .s 1 (ints ys)] = some (I (cmpL xs ys)) := by
  refine pc_code (mf := f118) rfl ?_
  rw [runF_U rfl]
  have hl := fun t k => loop118 xs ys hx hy (t := t) (k := k) xs.length 0 (by simp) (by omega)
  simp only [ints, List.drop_zero, Int.cast_ofNat_Int] at hl
  simp only [f118, ints, hl, wx, I, exec, resOf, reduceIte, reduceCtorEq, ne_eq, not_false_eq_true, Root.bx.injEq, Root.tm.injEq, Nat.reduceAdd, Nat.reduceBEq, Nat.reduceBNe, Nat.reduceEqDiff, Nat.reduceLT, Nat.reduceLeDiff, Nat.reduceMul, Nat.reduceSub, Int.reduceToNat, Int.reduceEq, Int.reduceBEq, Int.reduceBNe, Int.reduceLT, Int.reduceLE, if_true, if_false, Bool.false_eq_true, decide_true, decide_false, List.zipIdx_nil, bne_self_eq_false]
  by_cases h : xs.length ≤ ys.length ∧ cmpL xs (ys.take xs.length) = 0
  · have h2 := cmpL_take xs ys h.1 h.2
    rw [if_pos h, h2]
    by_cases h3 : xs.length < ys.length
    · have h4 : ((xs.length : Int) < (ys.length : Int)) := by omega
      simp only [h3, h4, wx, I, exec, resOf, reduceIte, reduceCtorEq, ne_eq, not_false_eq_true, Root.bx.injEq, Root.tm.injEq, Nat.reduceAdd, Nat.reduceBEq, Nat.reduceBNe, Nat.reduceEqDiff, Nat.reduceLT, Nat.reduceLeDiff, Nat.reduceMul, Nat.reduceSub, Int.reduceToNat, Int.reduceEq, Int.reduceBEq, Int.reduceBNe, Int.reduceLT, Int.reduceLE, if_true, if_false, Bool.false_eq_true, decide_true, decide_false, List.zipIdx_nil, bne_self_eq_false]
    · have h4 : ¬ ((xs.length : Int) < (ys.length : Int)) := by omega
      simp only [h3, h4, wx, I, exec, resOf, reduceIte, reduceCtorEq, ne_eq, not_false_eq_true, Root.bx.injEq, Root.tm.injEq, Nat.reduceAdd, Nat.reduceBEq, Nat.reduceBNe, Nat.reduceEqDiff, Nat.reduceLT, Nat.reduceLeDiff, Nat.reduceMul, Nat.reduceSub, Int.reduceToNat, Int.reduceEq, Int.reduceBEq, Int.reduceBNe, Int.reduceLT, Int.reduceLE, if_true, if_false, Bool.false_eq_true, decide_true, decide_false, List.zipIdx_nil, bne_self_eq_false]
  · rw [if_neg h]

theorem loop76 (xs ys : List Int) (hx : xs.length ≤ 1000) (hy : ys.length ≤ 1000) {t : List Todo} {k : Ex → St → Option V} :
    ∀ (m i : Nat), i + m = xs.length → i ≤ ys.length → U (pc E) (.c (.loop f76l0) :: t) .normal ⟨[(0, .sl .s 1 (ints xs)), (1, .sl .s 1 (ints ys)), (5, I i)], []⟩ k =
      if cmpL ((xs.drop i).take (ys.drop i).length) ((ys.drop i).take (xs.drop i).length) = 0 then U (pc E) t (.exit 0) ⟨[(0, .sl .s 1 (ints xs)), (1, .sl .s 1 (ints ys))], []⟩ k else k .ret ⟨[(4, .bool (decide (cmpL (xs.drop i) (ys.drop i) < 0)))], []⟩
  | 0, i, hm, hi => by
    rw [U_loop' f76l0.eq_1]
    have h0 : ¬ ((i : Int) < (xs.length : Int)) := by omega
    have e : xs.drop i = [] := List.drop_eq_nil_of_le (by omega)
    rw [e, if_pos (by simp [cmpL])]
    simp only [ints, h0, wx, I, exec, resOf, reduceIte, reduceCtorEq, ne_eq, not_false_eq_true, Root.bx.injEq, Root.tm.injEq, Nat.reduceAdd, Nat.reduceBEq, Nat.reduceBNe, Nat.reduceEqDiff, Nat.reduceLT, Nat.reduceLeDiff, Nat.reduceMul, Nat.reduceSub, Int.reduceToNat, Int.reduceEq, Int.reduceBEq, Int.reduceBNe, Int.reduceLT, Int.reduceLE, if_true, if_false, Bool.false_eq_true, decide_true, decide_false, List.zipIdx_nil, bne_self_eq_false]
  | m + 1, i, hm, hi => by
    rw [U_loop' f76l0.eq_1]
    have h0 : ((i : Int) < (xs.length : Int)) := by omega
    have hxx : xs[i]? = some xs[i] := List.getElem?_eq_getElem (by omega)
    have hdx : xs.drop i = xs[i] :: xs.drop (i + 1) := List.drop_eq_getElem_cons (by omega)
    have hw := wrap_succ (i := i) (by omega)
    rw [hdx]
    generalize xs[i] = x at hxx ⊢
    by_cases hlt : i < ys.length
    · have h1 : ((i : Int) < (ys.length : Int)) := by omega
      have hyy : ys[i]? = some ys[i] := List.getElem?_eq_getElem (by omega)
      have hdy : ys.drop i = ys[i] :: ys.drop (i + 1) := List.drop_eq_getElem_cons (by omega)
      rw [hdy]
      generalize ys[i] = y at hyy ⊢
      have ih := loop76 xs ys hx hy (t := t) (k := k) m (i + 1) (by omega) (by omega)
      simp only [ints] at ih
      simp only [ints, h0, h1, hxx, hyy, cmpL, List.take_succ_cons, List.length_cons, wx, I, exec, resOf, reduceIte, reduceCtorEq, ne_eq, not_false_eq_true, Root.bx.injEq, Root.tm.injEq, Nat.reduceAdd, Nat.reduceBEq, Nat.reduceBNe, Nat.reduceEqDiff, Nat.reduceLT, Nat.reduceLeDiff, Nat.reduceMul, Nat.reduceSub, Int.reduceToNat, Int.reduceEq, Int.reduceBEq, Int.reduceBNe, Int.reduceLT, Int.reduceLE, if_true, if_false, Bool.false_eq_true, decide_true, decide_false, List.zipIdx_nil, bne_self_eq_false]
      by_cases hc : x = y
      · have hz : cmpI y y = 0 := cmpI_zero.2 rfl
        simp only [hc, hz, hw, ih, cmpL, List.take_succ_cons, List.length_cons, wx, I, exec, resOf, reduceIte, reduceCtorEq, ne_eq, not_false_eq_true, Root.bx.injEq, Root.tm.injEq, Nat.reduceAdd, Nat.reduceBEq, Nat.reduceBNe, Nat.reduceEqDiff, Nat.reduceLT, Nat.reduceLeDiff, Nat.reduceMul, Nat.reduceSub, Int.reduceToNat, Int.reduceEq, Int.reduceBEq, Int.reduceBNe, Int.reduceLT, Int.reduceLE, if_true, if_false, Bool.false_eq_true, decide_true, decide_false, List.zipIdx_nil, bne_self_eq_false]
      · have hc2 : (x != y) = true := by simp [hc]
        have hz : ¬ cmpI x y = 0 := fun h => hc (cmpI_zero.1 h)
        have hd : decide (cmpI x y < 0) = decide (x < y) := by
          unfold cmpI
          by_cases g : x < y
          · simp [g]
          · by_cases g2 : x > y <;> simp [g, g2]
        simp only [hc2, hz, hd, hxx, hyy, wx, I, exec, resOf, reduceIte, reduceCtorEq, ne_eq, not_false_eq_true, Root.bx.injEq, Root.tm.injEq, Nat.reduceAdd, Nat.reduceBEq, Nat.reduceBNe, Nat.reduceEqDiff, Nat.reduceLT, Nat.reduceLeDiff, Nat.reduceMul, Nat.reduceSub, Int.reduceToNat, Int.reduceEq, Int.reduceBEq, Int.reduceBNe, Int.reduceLT, Int.reduceLE, if_true, if_false, Bool.false_eq_true, decide_true, decide_false, List.zipIdx_nil, bne_self_eq_false]
    · have h1 : ¬ ((i : Int) < (ys.length : Int)) := by omega
      have e : ys.drop i = [] := List.drop_eq_nil_of_le (by omega)
      rw [e]
      simp only [ints, h0, h1, List.length_nil, List.take_zero, List.take_nil, cmpL, wx, I, exec, resOf, reduceIte, reduceCtorEq, ne_eq, not_false_eq_true, Root.bx.injEq, Root.tm.injEq, Nat.reduceAdd, Nat.reduceBEq, Nat.reduceBNe, Nat.reduceEqDiff, Nat.reduceLT, Nat.reduceLeDiff, Nat.reduceMul, Nat.reduceSub, Int.reduceToNat, Int.reduceEq, Int.reduceBEq, Int.reduceBNe, Int.reduceLT, Int.reduceLE, if_true, if_false, Bool.false_eq_true, decide_true, decide_false, List.zipIdx_nil, bne_self_eq_false]

theorem cmpL_both : ∀ (xs ys : List Int), cmpL (xs.take ys.length) (ys.take xs.length) = 0 → cmpL xs ys = if xs.length < ys.length then -1 else if xs.length > ys.length then 1 else 0
  | [], [], _ => rfl
  | [], y :: ys, _ => by simp [cmpL]
  | x :: xs, [], _ => by simp [cmpL]
  | x :: xs, y :: ys, hc => by
    simp only [List.length_cons, List.take_succ_cons, cmpL] at hc ⊢
    by_cases h1 : cmpI x y = 0
    · rw [if_pos h1] at hc ⊢
      rw [cmpL_both xs ys hc]
      simp
    · rw [if_neg h1] at hc; exact absurd hc h1

theorem pc_Before (xs ys : List Int) (hx : xs.length ≤ 1000) (hy : ys.length ≤ 1000) : pc E 76 [.sl .s 1 (ints xs), .sl .s 1 (ints ys)] = some (.bool (decide (cmpL xs ys < 0))) := by
  refine pc_code (mf := f76) rfl ?_
  rw [runF_U rfl]
  have hl := fun t k => loop76 xs ys hx hy (t := t) (k := k) xs.length 0 (by simp) (by omega)
  simp only [ints, List.drop_zero, Int.cast_ofNat_Int] at hl
  simp only [f76, ints, hl, wx, I, exec, resOf, reduceIte, reduceCtorEq, ne_eq, not_false_eq_true, Root.bx.injEq, Root.tm.injEq, Nat.reduceAdd, Nat.reduceBEq, Nat.reduceBNe, Nat.reduceEqDiff, Nat.reduceLT, Nat.reduceLeDiff, Nat.reduceMul, Nat.reduceSub, Int.reduceToNat, Int.reduceEq, Int.reduceBEq, Int.reduceBNe, Int.reduceLT, Int.reduceLE, if_true, if_false, Bool.false_eq_true, decide_true, decide_false, List.zipIdx_nil, bne_self_eq_false]
  by_cases h : cmpL (xs.take ys.length) (ys.take xs.length) = 0
  · have h2 := cmpL_both xs ys h
    rw [if_pos h, h2]
    have h3 : decide ((xs.length : Int) < (ys.length : Int)) = decide ((if xs.length < ys.length then (-1 : Int) else if xs.length > ys.length then 1 else 0) < 0) := by
      by_cases g : xs.length < ys.length
      · simp [g]
      · by_cases g2 : xs.length > ys.length <;> simp [g, g2]
    simp only [← h3, wx, I, exec, resOf, reduceIte, reduceCtorEq, ne_eq, not_false_eq_true, Root.bx.injEq, Root.tm.injEq, Nat.reduceAdd, Nat.reduceBEq, Nat.reduceBNe, Nat.reduceEqDiff, Nat.reduceLT, Nat.reduceLeDiff, Nat.reduceMul, Nat.reduceSub, Int.reduceToNat, Int.reduceEq, Int.reduceBEq, Int.reduceBNe, Int.reduceLT, Int.reduceLE, if_true, if_false, Bool.false_eq_true, decide_true, decide_false, List.zipIdx_nil, bne_self_eq_false]
  · rw [if_neg h]

/-- The first that is not zero. -/
theorem loop116 (a b : Int) {t : List Todo} {k : Ex → St → Option V} : U (pc E) (.c (.loop f116l0) :: t) .normal ⟨[(3, I 0), (6, .sl .s 1 [[I a], [I b]]), (7, I 2), (8, I 0)], []⟩ k =
      if fst1 [a, b] = 0 then U (pc E) t (.exit 0) ⟨[(3, I 0)], []⟩ k else k .ret ⟨[(2, I (fst1 [a, b]))], []⟩ := by
  have w1 : IntKind.i64.wrap (0 + 1) = 1 := wrap_id (by omega) (by omega)
  have w2 : IntKind.i64.wrap (1 + 1) = 2 := wrap_id (by omega) (by omega)
  rw [U_loop' f116l0.eq_1]
  simp only [Int.toNat_zero, Int.le_refl, fst1, wx, I, exec, resOf, reduceIte, reduceCtorEq, ne_eq, not_false_eq_true, Root.bx.injEq, Root.tm.injEq, Nat.reduceAdd, Nat.reduceBEq, Nat.reduceBNe, Nat.reduceEqDiff, Nat.reduceLT, Nat.reduceLeDiff, Nat.reduceMul, Nat.reduceSub, Int.reduceToNat, Int.reduceEq, Int.reduceBEq, Int.reduceBNe, Int.reduceLT, Int.reduceLE, if_true, if_false, Bool.false_eq_true, decide_true, decide_false, List.zipIdx_nil, bne_self_eq_false]
  by_cases ha : a = 0
  · have ha2 : (a != 0) = false := by simp [ha]
    simp only [ha, ha2, w1, wx, I, exec, resOf, reduceIte, reduceCtorEq, ne_eq, not_false_eq_true, Root.bx.injEq, Root.tm.injEq, Nat.reduceAdd, Nat.reduceBEq, Nat.reduceBNe, Nat.reduceEqDiff, Nat.reduceLT, Nat.reduceLeDiff, Nat.reduceMul, Nat.reduceSub, Int.reduceToNat, Int.reduceEq, Int.reduceBEq, Int.reduceBNe, Int.reduceLT, Int.reduceLE, if_true, if_false, Bool.false_eq_true, decide_true, decide_false, List.zipIdx_nil, bne_self_eq_false]
    rw [U_loop' f116l0.eq_1]
    simp only [wx, I, exec, resOf, reduceIte, reduceCtorEq, ne_eq, not_false_eq_true, Root.bx.injEq, Root.tm.injEq, Nat.reduceAdd, Nat.reduceBEq, Nat.reduceBNe, Nat.reduceEqDiff, Nat.reduceLT, Nat.reduceLeDiff, Nat.reduceMul, Nat.reduceSub, Int.reduceToNat, Int.reduceEq, Int.reduceBEq, Int.reduceBNe, Int.reduceLT, Int.reduceLE, if_true, if_false, Bool.false_eq_true, decide_true, decide_false, List.zipIdx_nil, bne_self_eq_false]
    by_cases hb : b = 0
    · have hb2 : (b != 0) = false := by simp [hb]
      simp only [hb, hb2, w2, wx, I, exec, resOf, reduceIte, reduceCtorEq, ne_eq, not_false_eq_true, Root.bx.injEq, Root.tm.injEq, Nat.reduceAdd, Nat.reduceBEq, Nat.reduceBNe, Nat.reduceEqDiff, Nat.reduceLT, Nat.reduceLeDiff, Nat.reduceMul, Nat.reduceSub, Int.reduceToNat, Int.reduceEq, Int.reduceBEq, Int.reduceBNe, Int.reduceLT, Int.reduceLE, if_true, if_false, Bool.false_eq_true, decide_true, decide_false, List.zipIdx_nil, bne_self_eq_false]
      rw [U_loop' f116l0.eq_1]
      simp only [wx, I, exec, resOf, reduceIte, reduceCtorEq, ne_eq, not_false_eq_true, Root.bx.injEq, Root.tm.injEq, Nat.reduceAdd, Nat.reduceBEq, Nat.reduceBNe, Nat.reduceEqDiff, Nat.reduceLT, Nat.reduceLeDiff, Nat.reduceMul, Nat.reduceSub, Int.reduceToNat, Int.reduceEq, Int.reduceBEq, Int.reduceBNe, Int.reduceLT, Int.reduceLE, if_true, if_false, Bool.false_eq_true, decide_true, decide_false, List.zipIdx_nil, bne_self_eq_false]
    · have hb2 : (b != 0) = true := by simp [hb]
      simp only [hb, hb2, wx, I, exec, resOf, reduceIte, reduceCtorEq, ne_eq, not_false_eq_true, Root.bx.injEq, Root.tm.injEq, Nat.reduceAdd, Nat.reduceBEq, Nat.reduceBNe, Nat.reduceEqDiff, Nat.reduceLT, Nat.reduceLeDiff, Nat.reduceMul, Nat.reduceSub, Int.reduceToNat, Int.reduceEq, Int.reduceBEq, Int.reduceBNe, Int.reduceLT, Int.reduceLE, if_true, if_false, Bool.false_eq_true, decide_true, decide_false, List.zipIdx_nil, bne_self_eq_false]
  · have ha2 : (a != 0) = true := by simp [ha]
    simp only [ha, ha2, wx, I, exec, resOf, reduceIte, reduceCtorEq, ne_eq, not_false_eq_true, Root.bx.injEq, Root.tm.injEq, Nat.reduceAdd, Nat.reduceBEq, Nat.reduceBNe, Nat.reduceEqDiff, Nat.reduceLT, Nat.reduceLeDiff, Nat.reduceMul, Nat.reduceSub, Int.reduceToNat, Int.reduceEq, Int.reduceBEq, Int.reduceBNe, Int.reduceLT, Int.reduceLE, if_true, if_false, Bool.false_eq_true, decide_true, decide_false, List.zipIdx_nil, bne_self_eq_false]

theorem pc_cmpOr (a b : Int) : pc E 116 [.sl .s 1 [[I a], [I b]]] = some (I (fst1 [a, b])) := by
  refine pc_code (mf := f116) rfl ?_
  rw [runF_U rfl]
  have hl := fun t k => loop116 a b (t := t) (k := k)
  simp only [f116, hl, wx, I, exec, resOf, reduceIte, reduceCtorEq, ne_eq, not_false_eq_true, Root.bx.injEq, Root.tm.injEq, Nat.reduceAdd, Nat.reduceBEq, Nat.reduceBNe, Nat.reduceEqDiff, Nat.reduceLT, Nat.reduceLeDiff, Nat.reduceMul, Nat.reduceSub, Int.reduceToNat, Int.reduceEq, Int.reduceBEq, Int.reduceBNe, Int.reduceLT, Int.reduceLE, if_true, if_false, Bool.false_eq_true, decide_true, decide_false, List.zipIdx_nil, bne_self_eq_false]
  split <;> simp_all only [wx, I, exec, resOf, reduceIte, reduceCtorEq, ne_eq, not_false_eq_true, Root.bx.injEq, Root.tm.injEq, Nat.reduceAdd, Nat.reduceBEq, Nat.reduceBNe, Nat.reduceEqDiff, Nat.reduceLT, Nat.reduceLeDiff, Nat.reduceMul, Nat.reduceSub, Int.reduceToNat, Int.reduceEq, Int.reduceBEq, Int.reduceBNe, Int.reduceLT, Int.reduceLE, if_true, if_false, Bool.false_eq_true, decide_true, decide_false, List.zipIdx_nil, bne_self_eq_false]

/-- Is a way better than another one with as many commands? -/
def beforeB (t : Int) (c : List Int) (t' : Int) (c' : List Int) : Bool := decide (fst1 [cmpI t t', cmpL c c'] < 0)

theorem pc_before (t : Int) (c : List Int) (t' : Int) (c' : List Int) (h : c.length ≤ 1000) (h' : c'.length ≤ 1000) : pc E 73 [.agg [.sl .s 1 (ints c), I t], .agg [.sl .s 1 (ints c'), I t']] = some (.bool (beforeB t c t' c')) := by
  refine pc_code (mf := f73) rfl ?_
  rw [runF_U rfl]
  have h1 := pc_cmpL c c' h h'
  simp only [ints] at h1
  simp only [f73, ints, h1, pc_cmpI, pc_cmpOr, beforeB, List.replicate, List.set, wx, I, exec, resOf, reduceIte, reduceCtorEq, ne_eq, not_false_eq_true, Root.bx.injEq, Root.tm.injEq, Nat.reduceAdd, Nat.reduceBEq, Nat.reduceBNe, Nat.reduceEqDiff, Nat.reduceLT, Nat.reduceLeDiff, Nat.reduceMul, Nat.reduceSub, Int.reduceToNat, Int.reduceEq, Int.reduceBEq, Int.reduceBNe, Int.reduceLT, Int.reduceLE, if_true, if_false, Bool.false_eq_true, decide_true, decide_false, List.zipIdx_nil, bne_self_eq_false]

end Go.ViD
end
section
/- The fastest way: ticks are bounded; light plans; equal lists. -/
set_option linter.unusedSimpArgs false
set_option linter.unusedVariables false
namespace Go.ViD
open Go.Vi

theorem turnI_ticks {p : Plan} (hp : OkP p) {x : Step} (hx : x ∈ p.steps) (s : State) (f : Fault) (c : Int) : 1 ≤ (turnI x s f c).2 ∧ (turnI x s f c).2 ≤ 10000 := by
  have ok := hp.st x hx
  have hw := ok.wait
  unfold turnI
  by_cases h1 : tripsB x s f = true
  · rw [if_pos h1]; simp
  · rw [if_neg h1]
    by_cases h2 : (x.wait == 0) = true
    · rw [if_pos h2]
      by_cases h3 : (c != -1) = true
      · rw [if_pos h3]; simp
      · rw [if_neg h3]; simp
    · rw [if_neg h2]
      have hne : x.wait ≠ 0 := by simpa using h2
      have ht := ok.time hne
      split
      · exact ⟨ht.1, by simp only; omega⟩
      · split
        · exact ⟨by simp only; omega, hw.2⟩
        · exact ⟨ht.1, by simp only; omega⟩

theorem acc_bound {p : Plan} (hp : OkP p) {f : Fault} (hf : f.signal < (p.signals.length : Int)) : ∀ (l : List State) (m : Nat) (s : State) (b : Int), refL (steadyH p) (nextT p f) m s = some l → okS p s → 0 ≤ b → b + 10000 * (l.length : Int) ≤ 1000000000000 →
    b ≤ accOf (nextT p f) s l b ∧ accOf (nextT p f) s l b ≤ b + 10000 * (l.length : Int)
  | [], _, _, b, _, _, _, _ => by simp [accOf]
  | s' :: l, m, s, b, h, hs, hb, hbl => by
    cases m with
    | zero => simp only [refL] at h; split at h <;> simp at h
    | succ m =>
      simp only [refL] at h
      by_cases h1 : steadyH p s = true
      · rw [if_pos h1] at h; simp at h
      · rw [if_neg h1] at h
        obtain ⟨x, hx⟩ := step_at hs.1
        have e3 : (nextT p f s).2.2 = true := by rw [nextT_at hx]
        rw [if_neg (by rw [e3]; simp)] at h
        obtain ⟨l2, hl2, he⟩ := Option.map_eq_some_iff.1 h
        simp only [List.cons.injEq] at he
        obtain ⟨he1, he2⟩ := he
        subst he1 he2
        have ht := turnI_ticks hp (List.mem_of_getElem? hx) s f (-1)
        have e2 : (nextT p f s).2.1 = (turnI x s f (-1)).2 := by rw [nextT_at hx]
        simp only [List.length_cons] at hbl
        have hw : IntKind.i64.wrap (b + (nextT p f s).2.1) = b + (nextT p f s).2.1 := wrap_id (by rw [e2]; omega) (by rw [e2]; omega)
        have ih := acc_bound hp hf l2 m (nextT p f s).1 (b + (nextT p f s).2.1) hl2 (nextT_ok hp hf s hs e3) (by rw [e2]; omega) (by rw [e2]; omega)
        simp only [accOf, hw, List.length_cons]
        rw [e2] at ih ⊢
        omega

def light (p : Plan) : Bool := decide ((p.signals.length : Int) ≤ 3) && decide ((p.steps.length : Int) ≤ 6)

theorem pc_light (p : Plan) : pc E 17 [.agg (cPlan p)] = some (.bool (light p)) := by
  refine pc_code (mf := f17) rfl ?_
  rw [runF_U rfl]
  simp only [f17, strs, light, wx, I, exec, resOf, reduceIte, reduceCtorEq, ne_eq, not_false_eq_true, Root.bx.injEq, Root.tm.injEq, Nat.reduceAdd, Nat.reduceBEq, Nat.reduceBNe, Nat.reduceEqDiff, Nat.reduceLT, Nat.reduceLeDiff, Nat.reduceMul, Nat.reduceSub, Int.reduceToNat, Int.reduceEq, Int.reduceBEq, Int.reduceBNe, Int.reduceLT, Int.reduceLE, if_true, if_false, Bool.false_eq_true, decide_true, decide_false, List.zipIdx_nil, bne_self_eq_false]
  repeat' (first | ((first | (with_reducible refine split_condE (fun _ _ _ => ?_) (fun _ _ _ => ?_)) | (with_reducible refine split_guardE (fun _ _ _ => ?_) (fun _ _ _ => ?_))) <;> (rename_i h h2 h3; simp only [h, h2, h3, cSteps, wx, I, exec, resOf, reduceIte, reduceCtorEq, ne_eq, not_false_eq_true, Root.bx.injEq, Root.tm.injEq, Nat.reduceAdd, Nat.reduceBEq, Nat.reduceBNe, Nat.reduceEqDiff, Nat.reduceLT, Nat.reduceLeDiff, Nat.reduceMul, Nat.reduceSub, Int.reduceToNat, Int.reduceEq, Int.reduceBEq, Int.reduceBNe, Int.reduceLT, Int.reduceLE, if_true, if_false, Bool.false_eq_true, decide_true, decide_false, List.zipIdx_nil, bne_self_eq_false])) | ((first | (with_reducible refine split_condN (fun _ => ?_) (fun _ => ?_)) | (with_reducible refine split_condA (fun _ => ?_) (fun _ => ?_)) | (with_reducible refine split_condO (fun _ => ?_) (fun _ => ?_)) | (with_reducible refine split_cond (fun _ => ?_) (fun _ => ?_)) | (with_reducible refine split_guardN (fun _ => ?_) (fun _ => ?_)) | (with_reducible refine split_guardA (fun _ => ?_) (fun _ => ?_)) | (with_reducible refine split_guardO (fun _ => ?_) (fun _ => ?_)) | (with_reducible refine split_guard (fun _ => ?_) (fun _ => ?_))) <;> (rename_i h; simp only [h, cSteps, wx, I, exec, resOf, reduceIte, reduceCtorEq, ne_eq, not_false_eq_true, Root.bx.injEq, Root.tm.injEq, Nat.reduceAdd, Nat.reduceBEq, Nat.reduceBNe, Nat.reduceEqDiff, Nat.reduceLT, Nat.reduceLeDiff, Nat.reduceMul, Nat.reduceSub, Int.reduceToNat, Int.reduceEq, Int.reduceBEq, Int.reduceBNe, Int.reduceLT, Int.reduceLE, if_true, if_false, Bool.false_eq_true, decide_true, decide_false, List.zipIdx_nil, bne_self_eq_false])))

theorem loop24 (l : List Int) (hn : l.length ≤ 1000000) {t : List Todo} {k : Ex → St → Option V} :
    ∀ (m i : Nat), i + m = l.length → U (pc E) (.c (.loop f24l0) :: t) .normal ⟨[(0, .sl .s 1 (ints l)), (1, .sl .s 1 (ints l)), (5, I i)], []⟩ k =
      U (pc E) t (.exit 0) ⟨[], []⟩ k
  | 0, i, hm => by
    rw [U_loop' f24l0.eq_1]
    have h0 : ¬ ((i : Int) < (l.length : Int)) := by omega
    simp only [h0, ints, wx, I, exec, resOf, reduceIte, reduceCtorEq, ne_eq, not_false_eq_true, Root.bx.injEq, Root.tm.injEq, Nat.reduceAdd, Nat.reduceBEq, Nat.reduceBNe, Nat.reduceEqDiff, Nat.reduceLT, Nat.reduceLeDiff, Nat.reduceMul, Nat.reduceSub, Int.reduceToNat, Int.reduceEq, Int.reduceBEq, Int.reduceBNe, Int.reduceLT, Int.reduceLE, if_true, if_false, Bool.false_eq_true, decide_true, decide_false, List.zipIdx_nil, bne_self_eq_false]
  | m + 1, i, hm => by
    rw [U_loop' f24l0.eq_1]
    have h0 : ((i : Int) < (l.length : Int)) := by omega
    have hx : l[i]? = some l[i] := List.getElem?_eq_getElem (by omega)
    have ih := loop24 l hn (t := t) (k := k) m (i + 1) (by omega)
    have hw := wrap_succ (i := i) (by omega)
    generalize l[i] = x at hx
    simp only [ints] at ih
    simp only [h0, hw, hx, ints, ih, bne_self_eq_false, wx, I, exec, resOf, reduceIte, reduceCtorEq, ne_eq, not_false_eq_true, Root.bx.injEq, Root.tm.injEq, Nat.reduceAdd, Nat.reduceBEq, Nat.reduceBNe, Nat.reduceEqDiff, Nat.reduceLT, Nat.reduceLeDiff, Nat.reduceMul, Nat.reduceSub, Int.reduceToNat, Int.reduceEq, Int.reduceBEq, Int.reduceBNe, Int.reduceLT, Int.reduceLE, if_true, if_false, Bool.false_eq_true, decide_true, decide_false, List.zipIdx_nil, bne_self_eq_false]

theorem pc_sameInts (l : List Int) (hn : l.length ≤ 1000000) : pc E 24 [.sl .s 1 (ints l), .sl .s 1 (ints l)] = some (.bool true) := by
  refine pc_code (mf := f24) rfl ?_
  rw [runF_U rfl]
  have hl := fun t k => loop24 l hn (t := t) (k := k) l.length 0 (by omega)
  simp only [ints, Int.cast_ofNat_Int] at hl
  simp only [f24, ints, hl, bne_self_eq_false, wx, I, exec, resOf, reduceIte, reduceCtorEq, ne_eq, not_false_eq_true, Root.bx.injEq, Root.tm.injEq, Nat.reduceAdd, Nat.reduceBEq, Nat.reduceBNe, Nat.reduceEqDiff, Nat.reduceLT, Nat.reduceLeDiff, Nat.reduceMul, Nat.reduceSub, Int.reduceToNat, Int.reduceEq, Int.reduceBEq, Int.reduceBNe, Int.reduceLT, Int.reduceLE, if_true, if_false, Bool.false_eq_true, decide_true, decide_false, List.zipIdx_nil, bne_self_eq_false]

end Go.ViD
end
section
/- The fastest way: the order of ways. -/
set_option linter.unusedSimpArgs false
set_option linter.unusedVariables false
namespace Go.ViD
open Go.Vi

theorem cmpI_swap (a b : Int) : cmpI b a = - cmpI a b := by
  unfold cmpI
  by_cases h1 : a < b
  · have h2 : ¬ b < a := by omega
    have h3 : b > a := h1
    simp [h1, h2]
  · by_cases h2 : b < a
    · simp [h1, h2]
    · simp [h1, h2]

theorem cmpI_lt {a b : Int} : cmpI a b < 0 ↔ a < b := by
  unfold cmpI
  by_cases h1 : a < b
  · simp [h1]
  · by_cases h2 : a > b <;> simp [h1, h2]

theorem cmpL_self : ∀ a : List Int, cmpL a a = 0
  | [] => rfl
  | x :: a => by simp only [cmpL, cmpI_zero.2 rfl, if_true]; exact cmpL_self a

theorem cmpL_zero : ∀ {a b : List Int}, cmpL a b = 0 → a = b
  | [], [], _ => rfl
  | [], _ :: _, h => by simp [cmpL] at h
  | _ :: _, [], h => by simp [cmpL] at h
  | x :: a, y :: b, h => by
    simp only [cmpL] at h
    by_cases h1 : cmpI x y = 0
    · rw [if_pos h1] at h
      rw [cmpI_zero.1 h1, cmpL_zero h]
    · rw [if_neg h1] at h; exact absurd h h1

theorem cmpL_swap : ∀ a b : List Int, cmpL b a = - cmpL a b
  | [], [] => rfl
  | [], _ :: _ => rfl
  | _ :: _, [] => rfl
  | x :: a, y :: b => by
    simp only [cmpL]
    have h := cmpI_swap x y
    by_cases h1 : cmpI x y = 0
    · rw [if_pos h1, if_pos (by omega), cmpL_swap a b]
    · rw [if_neg h1, if_neg (by omega), h]

theorem cmpL_trans : ∀ {a b c : List Int}, cmpL a b < 0 → cmpL b c < 0 → cmpL a c < 0
  | [], [], _, h, _ => by simp [cmpL] at h
  | [], _ :: _, [], _, h => by simp [cmpL] at h
  | [], _ :: _, _ :: _, _, _ => by simp [cmpL]
  | _ :: _, [], _, h, _ => by simp [cmpL] at h
  | _ :: _, _ :: _, [], _, h => by simp [cmpL] at h
  | x :: a, y :: b, z :: c, h1, h2 => by
    simp only [cmpL] at h1 h2 ⊢
    by_cases e1 : cmpI x y = 0
    · rw [if_pos e1] at h1
      have := cmpI_zero.1 e1
      subst this
      by_cases e2 : cmpI x z = 0
      · rw [if_pos e2] at h2 ⊢; exact cmpL_trans h1 h2
      · rw [if_neg e2] at h2 ⊢; exact h2
    · rw [if_neg e1] at h1
      have l1 := cmpI_lt.1 h1
      by_cases e2 : cmpI y z = 0
      · have := cmpI_zero.1 e2
        subst this
        rw [if_neg e1]; exact h1
      · rw [if_neg e2] at h2
        have l2 := cmpI_lt.1 h2
        have l3 : cmpI x z < 0 := cmpI_lt.2 (by omega)
        rw [if_neg (by omega)]; exact l3

/-- The same command at the end of two ways of one length changes nothing. -/
theorem cmpL_snoc (c : Int) : ∀ a b : List Int, a.length = b.length → cmpL (a ++ [c]) (b ++ [c]) = cmpL a b
  | [], [], _ => cmpL_self [c]
  | [], _ :: _, h => by simp at h
  | _ :: _, [], h => by simp at h
  | x :: a, y :: b, h => by
    simp only [List.cons_append, cmpL, cmpL_snoc c a b (by simpa using h)]

theorem beforeB_iff (t : Int) (a : List Int) (u : Int) (b : List Int) : beforeB t a u b = true ↔ t < u ∨ (t = u ∧ cmpL a b < 0) := by
  unfold beforeB
  rw [decide_eq_true_iff]
  simp only [fst1]
  by_cases h : cmpI t u = 0
  · have := cmpI_zero.1 h
    subst this
    rw [if_pos h]
    by_cases h2 : cmpL a b = 0
    · simp [h2]
    · rw [if_neg h2]; simp
  · rw [if_neg h, cmpI_lt]
    have : t ≠ u := fun e => h (cmpI_zero.2 e)
    simp [this]

end Go.ViD
end
