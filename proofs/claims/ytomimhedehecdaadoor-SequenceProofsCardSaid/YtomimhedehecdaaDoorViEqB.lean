/- What small functions answer, second part. -/
import Derived.Test.YtomimhedehecdaaDoorViEqA
set_option linter.unusedSimpArgs false
set_option linter.unusedVariables false
namespace Go.ViD
open Go.Vi

/-- Is a number within bounds? -/
def inR (n lo hi : Int) : Bool := decide (lo ≤ n) && decide (n ≤ hi)

theorem pc_inR (n lo hi : Int) : pc E 80 [I n, I lo, I hi] = some (.bool (inR n lo hi)) := pc_within n lo hi

theorem pc_Within (n lo hi : Int) : pc E 42 [I n, I lo, I hi] = some (.bool (inR n lo hi)) := by
  refine pc_code (mf := f42) rfl ?_
  rw [runF_U rfl]
  simp only [f42, inR, wx, I, exec, resOf, reduceIte, reduceCtorEq, ne_eq, not_false_eq_true, Root.bx.injEq, Root.tm.injEq, Nat.reduceAdd, Nat.reduceBEq, Nat.reduceBNe, Nat.reduceEqDiff, Nat.reduceLT, Nat.reduceLeDiff, Nat.reduceMul, Nat.reduceSub, Int.reduceToNat, Int.reduceEq, Int.reduceBEq, Int.reduceBNe, Int.reduceLT, Int.reduceLE, if_true, if_false, Bool.false_eq_true, decide_true, decide_false, List.zipIdx_nil, bne_self_eq_false]
  cases h1 : decide (lo ≤ n) <;> simp only [h1, wx, I, exec, resOf, reduceIte, reduceCtorEq, ne_eq, not_false_eq_true, Root.bx.injEq, Root.tm.injEq, Nat.reduceAdd, Nat.reduceBEq, Nat.reduceBNe, Nat.reduceEqDiff, Nat.reduceLT, Nat.reduceLeDiff, Nat.reduceMul, Nat.reduceSub, Int.reduceToNat, Int.reduceEq, Int.reduceBEq, Int.reduceBNe, Int.reduceLT, Int.reduceLE, if_true, if_false, Bool.false_eq_true, decide_true, decide_false, List.zipIdx_nil, bne_self_eq_false]

def unl (b : Bool) (e : Int) : Int := if b then 0 else e

theorem pc_unless (b : Bool) (e : Int) : pc E 71 [.bool b, I e] = some (I (unl b e)) := by
  refine pc_code (mf := f71) rfl ?_
  rw [runF_U rfl]
  cases b <;> simp only [f71, unl, wx, I, exec, resOf, reduceIte, reduceCtorEq, ne_eq, not_false_eq_true, Root.bx.injEq, Root.tm.injEq, Nat.reduceAdd, Nat.reduceBEq, Nat.reduceBNe, Nat.reduceEqDiff, Nat.reduceLT, Nat.reduceLeDiff, Nat.reduceMul, Nat.reduceSub, Int.reduceToNat, Int.reduceEq, Int.reduceBEq, Int.reduceBNe, Int.reduceLT, Int.reduceLE, if_true, if_false, Bool.false_eq_true, decide_true, decide_false, List.zipIdx_nil, bne_self_eq_false]

/-- The first error of some. -/
def fst1 : List Int → Int
  | [] => 0
  | e :: l => if e = 0 then fst1 l else e

theorem loop85 {call : FuncId → List V → Option V} (xs : List Int) (hl : xs.length < 9223372036854775807) {t : List Todo} {k : Ex → St → Option V} :
    ∀ (m i : Nat), i + m = xs.length → U call (.c (.loop f85l0) :: t) .normal ⟨[(5, .sl .s 1 (ints xs)), (6, I xs.length), (7, I i)], []⟩ k =
      if fst1 (xs.drop i) = 0 then U call t (.exit 0) ⟨[], []⟩ k else k .ret ⟨[(2, I (fst1 (xs.drop i)))], []⟩
  | 0, i, hm => by
    rw [U_loop' f85l0.eq_1]
    have h0 : ¬ ((i : Int) < (xs.length : Int)) := by omega
    simp only [ints, h0, wx, I, exec, resOf, reduceIte, reduceCtorEq, ne_eq, not_false_eq_true, Root.bx.injEq, Root.tm.injEq, Nat.reduceAdd, Nat.reduceBEq, Nat.reduceBNe, Nat.reduceEqDiff, Nat.reduceLT, Nat.reduceLeDiff, Nat.reduceMul, Nat.reduceSub, Int.reduceToNat, Int.reduceEq, Int.reduceBEq, Int.reduceBNe, Int.reduceLT, Int.reduceLE, if_true, if_false, Bool.false_eq_true, decide_true, decide_false, List.zipIdx_nil, bne_self_eq_false]
    rw [List.drop_eq_nil_of_le (by omega)]
    simp only [fst1, if_true]
  | m + 1, i, hm => by
    rw [U_loop' f85l0.eq_1]
    have h0 : ((i : Int) < (xs.length : Int)) := by omega
    have hx : xs[i]? = some xs[i] := List.getElem?_eq_getElem (by omega)
    have hd : xs.drop i = xs[i] :: xs.drop (i + 1) := List.drop_eq_getElem_cons (by omega)
    have ih := loop85 (call := call) xs hl (t := t) (k := k) m (i + 1) (by omega)
    rw [hd]
    simp only [ints, h0, hx, fst1, wx, I, exec, resOf, reduceIte, reduceCtorEq, ne_eq, not_false_eq_true, Root.bx.injEq, Root.tm.injEq, Nat.reduceAdd, Nat.reduceBEq, Nat.reduceBNe, Nat.reduceEqDiff, Nat.reduceLT, Nat.reduceLeDiff, Nat.reduceMul, Nat.reduceSub, Int.reduceToNat, Int.reduceEq, Int.reduceBEq, Int.reduceBNe, Int.reduceLT, Int.reduceLE, if_true, if_false, Bool.false_eq_true, decide_true, decide_false, List.zipIdx_nil, bne_self_eq_false]
    generalize xs[i] = x
    by_cases h1 : x = 0
    · have h2 : (x != 0) = false := by simp [h1]
      simp only [h1, h2, wrap_succ (i := i) (by omega), wx, I, exec, resOf, reduceIte, reduceCtorEq, ne_eq, not_false_eq_true, Root.bx.injEq, Root.tm.injEq, Nat.reduceAdd, Nat.reduceBEq, Nat.reduceBNe, Nat.reduceEqDiff, Nat.reduceLT, Nat.reduceLeDiff, Nat.reduceMul, Nat.reduceSub, Int.reduceToNat, Int.reduceEq, Int.reduceBEq, Int.reduceBNe, Int.reduceLT, Int.reduceLE, if_true, if_false, Bool.false_eq_true, decide_true, decide_false, List.zipIdx_nil, bne_self_eq_false]
      simp only [ints] at ih
      rw [ih]
    · have h2 : (x != 0) = true := by simp [h1]
      simp only [h1, h2, wx, I, exec, resOf, reduceIte, reduceCtorEq, ne_eq, not_false_eq_true, Root.bx.injEq, Root.tm.injEq, Nat.reduceAdd, Nat.reduceBEq, Nat.reduceBNe, Nat.reduceEqDiff, Nat.reduceLT, Nat.reduceLeDiff, Nat.reduceMul, Nat.reduceSub, Int.reduceToNat, Int.reduceEq, Int.reduceBEq, Int.reduceBNe, Int.reduceLT, Int.reduceLE, if_true, if_false, Bool.false_eq_true, decide_true, decide_false, List.zipIdx_nil, bne_self_eq_false]

theorem pc_first (xs : List Int) (hl : xs.length < 9223372036854775807) : pc E 85 [.sl .s 1 (ints xs)] = some (I (fst1 xs)) := by
  refine pc_code (mf := f85) rfl ?_
  rw [runF_U rfl]
  have h := fun t k => loop85 (call := pc E) xs hl (t := t) (k := k) xs.length 0 (by omega)
  simp only [ints, List.drop_zero, Int.cast_ofNat_Int] at h
  simp only [f85, ints, h, wx, I, exec, resOf, reduceIte, reduceCtorEq, ne_eq, not_false_eq_true, Root.bx.injEq, Root.tm.injEq, Nat.reduceAdd, Nat.reduceBEq, Nat.reduceBNe, Nat.reduceEqDiff, Nat.reduceLT, Nat.reduceLeDiff, Nat.reduceMul, Nat.reduceSub, Int.reduceToNat, Int.reduceEq, Int.reduceBEq, Int.reduceBNe, Int.reduceLT, Int.reduceLE, if_true, if_false, Bool.false_eq_true, decide_true, decide_false, List.zipIdx_nil, bne_self_eq_false]
  split <;> simp_all only [wx, I, exec, resOf, reduceIte, reduceCtorEq, ne_eq, not_false_eq_true, Root.bx.injEq, Root.tm.injEq, Nat.reduceAdd, Nat.reduceBEq, Nat.reduceBNe, Nat.reduceEqDiff, Nat.reduceLT, Nat.reduceLeDiff, Nat.reduceMul, Nat.reduceSub, Int.reduceToNat, Int.reduceEq, Int.reduceBEq, Int.reduceBNe, Int.reduceLT, Int.reduceLE, if_true, if_false, Bool.false_eq_true, decide_true, decide_false, List.zipIdx_nil, bne_self_eq_false]

theorem pc_first2 (a b : Int) : pc E 85 [.sl .s 1 [[I a], [I b]]] = some (I (fst1 [a, b])) := pc_first [a, b] (by simp)
theorem pc_first3 (a b c : Int) : pc E 85 [.sl .s 1 [[I a], [I b], [I c]]] = some (I (fst1 [a, b, c])) := pc_first [a, b, c] (by simp)

def isStep (n : Int) : Bool := inR n 0 9

theorem pc_isStep (n : Int) : pc E 86 [I n] = some (.bool (isStep n)) := by
  refine pc_code (mf := f86) rfl ?_
  rw [runF_U rfl]
  simp only [f86, pc_inR, isStep, wx, I, exec, resOf, reduceIte, reduceCtorEq, ne_eq, not_false_eq_true, Root.bx.injEq, Root.tm.injEq, Nat.reduceAdd, Nat.reduceBEq, Nat.reduceBNe, Nat.reduceEqDiff, Nat.reduceLT, Nat.reduceLeDiff, Nat.reduceMul, Nat.reduceSub, Int.reduceToNat, Int.reduceEq, Int.reduceBEq, Int.reduceBNe, Int.reduceLT, Int.reduceLE, if_true, if_false, Bool.false_eq_true, decide_true, decide_false, List.zipIdx_nil, bne_self_eq_false]

theorem pc_isStepR (n : Int) : pc E 90 [I n] = some (.bool (isStep n)) := by
  refine pc_code (mf := f90) rfl ?_
  rw [runF_U rfl]
  simp only [f90, pc_Within, isStep, wx, I, exec, resOf, reduceIte, reduceCtorEq, ne_eq, not_false_eq_true, Root.bx.injEq, Root.tm.injEq, Nat.reduceAdd, Nat.reduceBEq, Nat.reduceBNe, Nat.reduceEqDiff, Nat.reduceLT, Nat.reduceLeDiff, Nat.reduceMul, Nat.reduceSub, Int.reduceToNat, Int.reduceEq, Int.reduceBEq, Int.reduceBNe, Int.reduceLT, Int.reduceLE, if_true, if_false, Bool.false_eq_true, decide_true, decide_false, List.zipIdx_nil, bne_self_eq_false]

theorem pc_openHall1 (n : Int) : pc E 122 [I n] = some (.bool (!isStep n)) := by
  refine pc_code (mf := f122) rfl ?_
  rw [runF_U rfl]
  simp only [f122, pc_isStep, wx, I, exec, resOf, reduceIte, reduceCtorEq, ne_eq, not_false_eq_true, Root.bx.injEq, Root.tm.injEq, Nat.reduceAdd, Nat.reduceBEq, Nat.reduceBNe, Nat.reduceEqDiff, Nat.reduceLT, Nat.reduceLeDiff, Nat.reduceMul, Nat.reduceSub, Int.reduceToNat, Int.reduceEq, Int.reduceBEq, Int.reduceBNe, Int.reduceLT, Int.reduceLE, if_true, if_false, Bool.false_eq_true, decide_true, decide_false, List.zipIdx_nil, bne_self_eq_false]

theorem loop125 {call : FuncId → List V → Option V} {v : Int} (xs : List Int) (hl : xs.length < 9223372036854775807) {t : List Todo} {k : Ex → St → Option V} :
    ∀ (m i : Nat), i + m = xs.length → U call (.c (.loop f125l0) :: t) .normal ⟨[(0, .sl .s 1 (ints xs)), (1, I v), (7, I xs.length), (8, I i)], []⟩ k =
      if firstFrom (fun x => v == x) (xs.drop i) i = -1 then U call t (.exit 0) ⟨[], []⟩ k else k .ret ⟨[(4, I (firstFrom (fun x => v == x) (xs.drop i) i))], []⟩
  | 0, i, hm => by
    rw [U_loop' f125l0.eq_1]
    have h0 : ¬ ((i : Int) < (xs.length : Int)) := by omega
    simp only [ints, h0, wx, I, exec, resOf, reduceIte, reduceCtorEq, ne_eq, not_false_eq_true, Root.bx.injEq, Root.tm.injEq, Nat.reduceAdd, Nat.reduceBEq, Nat.reduceBNe, Nat.reduceEqDiff, Nat.reduceLT, Nat.reduceLeDiff, Nat.reduceMul, Nat.reduceSub, Int.reduceToNat, Int.reduceEq, Int.reduceBEq, Int.reduceBNe, Int.reduceLT, Int.reduceLE, if_true, if_false, Bool.false_eq_true, decide_true, decide_false, List.zipIdx_nil, bne_self_eq_false]
    rw [List.drop_eq_nil_of_le (by omega)]
    simp only [firstFrom, if_true]
  | m + 1, i, hm => by
    rw [U_loop' f125l0.eq_1]
    have h0 : ((i : Int) < (xs.length : Int)) := by omega
    have hx : xs[i]? = some xs[i] := List.getElem?_eq_getElem (by omega)
    have hd : xs.drop i = xs[i] :: xs.drop (i + 1) := List.drop_eq_getElem_cons (by omega)
    have ih := loop125 (call := call) (v := v) xs hl (t := t) (k := k) m (i + 1) (by omega)
    rw [hd]
    simp only [ints, h0, hx, firstFrom, wx, I, exec, resOf, reduceIte, reduceCtorEq, ne_eq, not_false_eq_true, Root.bx.injEq, Root.tm.injEq, Nat.reduceAdd, Nat.reduceBEq, Nat.reduceBNe, Nat.reduceEqDiff, Nat.reduceLT, Nat.reduceLeDiff, Nat.reduceMul, Nat.reduceSub, Int.reduceToNat, Int.reduceEq, Int.reduceBEq, Int.reduceBNe, Int.reduceLT, Int.reduceLE, if_true, if_false, Bool.false_eq_true, decide_true, decide_false, List.zipIdx_nil, bne_self_eq_false]
    generalize xs[i] = x
    rcases Bool.eq_false_or_eq_true (v == x) with h1 | h1
    · have h2 : ¬ ((i : Int) = -1) := by omega
      simp only [h1, h2, wx, I, exec, resOf, reduceIte, reduceCtorEq, ne_eq, not_false_eq_true, Root.bx.injEq, Root.tm.injEq, Nat.reduceAdd, Nat.reduceBEq, Nat.reduceBNe, Nat.reduceEqDiff, Nat.reduceLT, Nat.reduceLeDiff, Nat.reduceMul, Nat.reduceSub, Int.reduceToNat, Int.reduceEq, Int.reduceBEq, Int.reduceBNe, Int.reduceLT, Int.reduceLE, if_true, if_false, Bool.false_eq_true, decide_true, decide_false, List.zipIdx_nil, bne_self_eq_false]
    · simp only [h1, wrap_succ (i := i) (by omega), wx, I, exec, resOf, reduceIte, reduceCtorEq, ne_eq, not_false_eq_true, Root.bx.injEq, Root.tm.injEq, Nat.reduceAdd, Nat.reduceBEq, Nat.reduceBNe, Nat.reduceEqDiff, Nat.reduceLT, Nat.reduceLeDiff, Nat.reduceMul, Nat.reduceSub, Int.reduceToNat, Int.reduceEq, Int.reduceBEq, Int.reduceBNe, Int.reduceLT, Int.reduceLE, if_true, if_false, Bool.false_eq_true, decide_true, decide_false, List.zipIdx_nil, bne_self_eq_false]
      simp only [ints] at ih
      rw [ih]

theorem pc_index (xs : List Int) (hl : xs.length < 9223372036854775807) (v : Int) :
    pc E 125 [.sl .s 1 (ints xs), I v] = some (I (firstFrom (fun x => v == x) xs 0)) := by
  refine pc_code (mf := f125) rfl ?_
  rw [runF_U rfl]
  have h := fun t k => loop125 (call := pc E) (v := v) xs hl (t := t) (k := k) xs.length 0 (by omega)
  simp only [ints, List.drop_zero, Int.cast_ofNat_Int] at h
  simp only [f125, ints, h, wx, I, exec, resOf, reduceIte, reduceCtorEq, ne_eq, not_false_eq_true, Root.bx.injEq, Root.tm.injEq, Nat.reduceAdd, Nat.reduceBEq, Nat.reduceBNe, Nat.reduceEqDiff, Nat.reduceLT, Nat.reduceLeDiff, Nat.reduceMul, Nat.reduceSub, Int.reduceToNat, Int.reduceEq, Int.reduceBEq, Int.reduceBNe, Int.reduceLT, Int.reduceLE, if_true, if_false, Bool.false_eq_true, decide_true, decide_false, List.zipIdx_nil, bne_self_eq_false]
  split <;> simp_all only [wx, I, exec, resOf, reduceIte, reduceCtorEq, ne_eq, not_false_eq_true, Root.bx.injEq, Root.tm.injEq, Nat.reduceAdd, Nat.reduceBEq, Nat.reduceBNe, Nat.reduceEqDiff, Nat.reduceLT, Nat.reduceLeDiff, Nat.reduceMul, Nat.reduceSub, Int.reduceToNat, Int.reduceEq, Int.reduceBEq, Int.reduceBNe, Int.reduceLT, Int.reduceLE, if_true, if_false, Bool.false_eq_true, decide_true, decide_false, List.zipIdx_nil, bne_self_eq_false]

/-- Is a number among some? -/
def hasI (xs : List Int) (v : Int) : Bool := xs.any fun x => v == x

theorem pc_contains (xs : List Int) (hl : xs.length < 9223372036854775807) (v : Int) : pc E 96 [.sl .s 1 (ints xs), I v] = some (.bool (hasI xs v)) := by
  refine pc_code (mf := f96) rfl ?_
  rw [runF_U rfl]
  have h := pc_index xs hl v
  simp only [f96, h, wx, I, exec, resOf, reduceIte, reduceCtorEq, ne_eq, not_false_eq_true, Root.bx.injEq, Root.tm.injEq, Nat.reduceAdd, Nat.reduceBEq, Nat.reduceBNe, Nat.reduceEqDiff, Nat.reduceLT, Nat.reduceLeDiff, Nat.reduceMul, Nat.reduceSub, Int.reduceToNat, Int.reduceEq, Int.reduceBEq, Int.reduceBNe, Int.reduceLT, Int.reduceLE, if_true, if_false, Bool.false_eq_true, decide_true, decide_false, List.zipIdx_nil, bne_self_eq_false]
  have h2 := firstFrom_neg (fun x => v == x) xs 0
  unfold hasI
  cases h3 : xs.any (fun x => v == x)
  · have : ¬ firstFrom (fun x => v == x) xs 0 ≥ 0 := by have := h2.2.2 h3; omega
    simp [this]
  · have : firstFrom (fun x => v == x) xs 0 ≥ 0 := h2.1.2 h3
    simp [this]

theorem ints_leaf (xs : List Int) : ((ints xs).all fun y => y.all leaf) = true := by
  simp [ints, leaf]

theorem room_ok {n b : Nat} (hn : n ≤ 1000000) (hb : b ≤ 1000) : room n b = true := by
  have : n * b ≤ 1000000 * 1000 := Nat.mul_le_mul hn hb
  simp only [room, Bool.and_eq_true, decide_eq_true_eq]
  omega

theorem pc_copyInts (xs : List Int) (hl : xs.length ≤ 1000000) : pc E 37 [.sl .s 1 (ints xs)] = some (.sl .x 1 (ints xs)) := by
  refine pc_code (mf := f37) rfl ?_
  rw [runF_U rfl]
  have h1 := ints_leaf xs
  have h2 : room xs.length 8 = true := room_ok (by omega) (by omega)
  simp only [ints] at h1
  simp only [f37, ints, List.replicate, h1, h2, Nat.zero_le, wx, I, exec, resOf, reduceIte, reduceCtorEq, ne_eq, not_false_eq_true, Root.bx.injEq, Root.tm.injEq, Nat.reduceAdd, Nat.reduceBEq, Nat.reduceBNe, Nat.reduceEqDiff, Nat.reduceLT, Nat.reduceLeDiff, Nat.reduceMul, Nat.reduceSub, Int.reduceToNat, Int.reduceEq, Int.reduceBEq, Int.reduceBNe, Int.reduceLT, Int.reduceLE, if_true, if_false, Bool.false_eq_true, decide_true, decide_false, List.zipIdx_nil, bne_self_eq_false]

theorem pc_clone (xs : List Int) (hl : xs.length ≤ 1000000) : pc E 89 [.sl .s 1 (ints xs)] = some (.sl .x 1 (ints xs)) := by
  refine pc_code (mf := f89) rfl ?_
  rw [runF_U rfl]
  have h1 := ints_leaf xs
  have h2 : room xs.length 8 = true := room_ok (by omega) (by omega)
  simp only [ints] at h1
  cases xs with
  | nil =>
    simp only [List.map_nil] at h1
    simp only [f89, ints, List.replicate, h1, h2, Nat.zero_le, condU_abool, wx, I, exec, resOf, reduceIte, reduceCtorEq, ne_eq, not_false_eq_true, Root.bx.injEq, Root.tm.injEq, Nat.reduceAdd, Nat.reduceBEq, Nat.reduceBNe, Nat.reduceEqDiff, Nat.reduceLT, Nat.reduceLeDiff, Nat.reduceMul, Nat.reduceSub, Int.reduceToNat, Int.reduceEq, Int.reduceBEq, Int.reduceBNe, Int.reduceLT, Int.reduceLE, if_true, if_false, Bool.false_eq_true, decide_true, decide_false, List.zipIdx_nil, bne_self_eq_false]
    exact same_mk rfl rfl
  | cons x xs =>
    have h1 := ints_leaf xs
    simp only [ints] at h1
    simp only [List.length_cons] at h2
    simp only [f89, ints, List.replicate, h1, h2, Nat.zero_le, wx, I, exec, resOf, reduceIte, reduceCtorEq, ne_eq, not_false_eq_true, Root.bx.injEq, Root.tm.injEq, Nat.reduceAdd, Nat.reduceBEq, Nat.reduceBNe, Nat.reduceEqDiff, Nat.reduceLT, Nat.reduceLeDiff, Nat.reduceMul, Nat.reduceSub, Int.reduceToNat, Int.reduceEq, Int.reduceBEq, Int.reduceBNe, Int.reduceLT, Int.reduceLE, if_true, if_false, Bool.false_eq_true, decide_true, decide_false, List.zipIdx_nil, bne_self_eq_false]

end Go.ViD
