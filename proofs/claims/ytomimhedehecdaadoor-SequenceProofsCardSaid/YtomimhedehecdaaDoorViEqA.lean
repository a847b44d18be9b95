/- What small functions answer. -/
import Derived.Test.YtomimhedehecdaaDoorViEnvD
import Derived.Test.YtomimhedehecdaaDoorViWalkV
set_option linter.unusedSimpArgs false
set_option linter.unusedVariables false
namespace Go.ViD
open Go.Vi

abbrev ints (l : List Int) : List (List V) := l.map fun n => [I n]

theorem wrap_id {n : Int} (h1 : -9223372036854775808 ≤ n) (h2 : n ≤ 9223372036854775807) : IntKind.i64.wrap n = n := by
  simp only [IntKind.wrap, IntKind.signed, IntKind.bits, Bool.true_and, decide_eq_true_eq, Nat.reduceSub, Int.reducePow]
  split
  · rename_i h; have := of_decide_eq_true h; omega
  · rename_i h; have := of_decide_eq_false (Bool.not_eq_true _ ▸ h); omega

theorem wrap_succ {i : Nat} (h : i < 9223372036854775807) : IntKind.i64.wrap ((i : Int) + 1) = ((i + 1 : Nat) : Int) := by
  rw [wrap_id (by omega) (by omega)]; rfl

theorem pc_within (n lo hi : Int) : pc E 80 [I n, I lo, I hi] = some (.bool (decide (lo ≤ n) && decide (n ≤ hi))) := by
  refine pc_code (mf := f80) rfl ?_
  rw [runF_U rfl]
  simp only [f80, wx, I, exec, resOf, reduceIte, reduceCtorEq, ne_eq, not_false_eq_true, Root.bx.injEq, Root.tm.injEq, Nat.reduceAdd, Nat.reduceBEq, Nat.reduceBNe, Nat.reduceEqDiff, Nat.reduceLT, Nat.reduceLeDiff, Nat.reduceMul, Nat.reduceSub, Int.reduceToNat, Int.reduceEq, Int.reduceBEq, Int.reduceBNe, Int.reduceLT, Int.reduceLE, if_true, if_false, Bool.false_eq_true, decide_true, decide_false, List.zipIdx_nil, bne_self_eq_false]
  cases h1 : decide (lo ≤ n) <;> simp only [h1, wx, I, exec, resOf, reduceIte, reduceCtorEq, ne_eq, not_false_eq_true, Root.bx.injEq, Root.tm.injEq, Nat.reduceAdd, Nat.reduceBEq, Nat.reduceBNe, Nat.reduceEqDiff, Nat.reduceLT, Nat.reduceLeDiff, Nat.reduceMul, Nat.reduceSub, Int.reduceToNat, Int.reduceEq, Int.reduceBEq, Int.reduceBNe, Int.reduceLT, Int.reduceLE, if_true, if_false, Bool.false_eq_true, decide_true, decide_false, List.zipIdx_nil, bne_self_eq_false]

theorem pc_voted1 (n : Int) : pc E 79 [I n] = some (.bool (!(decide (0 ≤ n) && decide (n ≤ 31)))) := by
  refine pc_code (mf := f79) rfl ?_
  rw [runF_U rfl]
  simp only [f79, pc_within, wx, I, exec, resOf, reduceIte, reduceCtorEq, ne_eq, not_false_eq_true, Root.bx.injEq, Root.tm.injEq, Nat.reduceAdd, Nat.reduceBEq, Nat.reduceBNe, Nat.reduceEqDiff, Nat.reduceLT, Nat.reduceLeDiff, Nat.reduceMul, Nat.reduceSub, Int.reduceToNat, Int.reduceEq, Int.reduceBEq, Int.reduceBNe, Int.reduceLT, Int.reduceLE, if_true, if_false, Bool.false_eq_true, decide_true, decide_false, List.zipIdx_nil, bne_self_eq_false]

/-- The first place of a list at which something holds. -/
def firstFrom (p : Int → Bool) : List Int → Nat → Int
  | [], _ => -1
  | x :: l, i => if p x then i else firstFrom p l (i + 1)

theorem loop119 {call : FuncId → List V → Option V} {g : Nat} {cs : List V} {p : Int → Bool} (xs : List Int) (hl : xs.length < 9223372036854775807) (hp : ∀ x ∈ xs, call g (I x :: cs) = some (.bool (p x))) (hg : g < 1000000) {t : List Todo} {k : Ex → St → Option V} :
    ∀ (m i : Nat), i + m = xs.length → U call (.c (.loop f119l0) :: t) .normal ⟨[(0, .sl .s 1 (ints xs)), (1, .fn (.func g) [] cs), (7, I xs.length), (8, I i)], []⟩ k =
      if firstFrom p (xs.drop i) i = -1 then U call t (.exit 0) ⟨[], []⟩ k else k .ret ⟨[(4, I (firstFrom p (xs.drop i) i))], []⟩
  | 0, i, hm => by
    rw [U_loop' f119l0.eq_1]
    have h0 : ¬ ((i : Int) < (xs.length : Int)) := by omega
    simp only [ints, h0, wx, I, exec, resOf, reduceIte, reduceCtorEq, ne_eq, not_false_eq_true, Root.bx.injEq, Root.tm.injEq, Nat.reduceAdd, Nat.reduceBEq, Nat.reduceBNe, Nat.reduceEqDiff, Nat.reduceLT, Nat.reduceLeDiff, Nat.reduceMul, Nat.reduceSub, Int.reduceToNat, Int.reduceEq, Int.reduceBEq, Int.reduceBNe, Int.reduceLT, Int.reduceLE, if_true, if_false, Bool.false_eq_true, decide_true, decide_false, List.zipIdx_nil, bne_self_eq_false]
    rw [List.drop_eq_nil_of_le (by omega)]
    simp only [firstFrom, if_true]
  | m + 1, i, hm => by
    rw [U_loop' f119l0.eq_1]
    have h0 : ((i : Int) < (xs.length : Int)) := by omega
    have hx : xs[i]? = some xs[i] := List.getElem?_eq_getElem (by omega)
    have hd : xs.drop i = xs[i] :: xs.drop (i + 1) := List.drop_eq_getElem_cons (by omega)
    have hpx := hp xs[i] (List.getElem_mem _)
    have ih := loop119 xs hl hp hg (t := t) (k := k) m (i + 1) (by omega)
    simp only [ints, h0, hx, hpx, hg, wx, I, exec, resOf, reduceIte, reduceCtorEq, ne_eq, not_false_eq_true, Root.bx.injEq, Root.tm.injEq, Nat.reduceAdd, Nat.reduceBEq, Nat.reduceBNe, Nat.reduceEqDiff, Nat.reduceLT, Nat.reduceLeDiff, Nat.reduceMul, Nat.reduceSub, Int.reduceToNat, Int.reduceEq, Int.reduceBEq, Int.reduceBNe, Int.reduceLT, Int.reduceLE, if_true, if_false, Bool.false_eq_true, decide_true, decide_false, List.zipIdx_nil, bne_self_eq_false]
    rw [hd]
    simp only [firstFrom]
    rcases Bool.eq_false_or_eq_true (p xs[i]) with h1 | h1
    · have h2 : ¬ ((i : Int) = -1) := by omega
      simp only [h1, h2, wx, I, exec, resOf, reduceIte, reduceCtorEq, ne_eq, not_false_eq_true, Root.bx.injEq, Root.tm.injEq, Nat.reduceAdd, Nat.reduceBEq, Nat.reduceBNe, Nat.reduceEqDiff, Nat.reduceLT, Nat.reduceLeDiff, Nat.reduceMul, Nat.reduceSub, Int.reduceToNat, Int.reduceEq, Int.reduceBEq, Int.reduceBNe, Int.reduceLT, Int.reduceLE, if_true, if_false, Bool.false_eq_true, decide_true, decide_false, List.zipIdx_nil, bne_self_eq_false]
    · simp only [h1, wrap_succ (i := i) (by omega), wx, I, exec, resOf, reduceIte, reduceCtorEq, ne_eq, not_false_eq_true, Root.bx.injEq, Root.tm.injEq, Nat.reduceAdd, Nat.reduceBEq, Nat.reduceBNe, Nat.reduceEqDiff, Nat.reduceLT, Nat.reduceLeDiff, Nat.reduceMul, Nat.reduceSub, Int.reduceToNat, Int.reduceEq, Int.reduceBEq, Int.reduceBNe, Int.reduceLT, Int.reduceLE, if_true, if_false, Bool.false_eq_true, decide_true, decide_false, List.zipIdx_nil, bne_self_eq_false]
      simp only [ints] at ih
      rw [ih]

theorem pc_indexFunc (xs : List Int) (hl : xs.length < 9223372036854775807) {g : Nat} {cs : List V} {p : Int → Bool} (hp : ∀ x ∈ xs, pc E g (I x :: cs) = some (.bool (p x))) (hg : g < 1000000 := by decide) :
    pc E 119 [.sl .s 1 (ints xs), .fn (.func g) [] cs] = some (I (firstFrom p xs 0)) := by
  refine pc_code (mf := f119) rfl ?_
  rw [runF_U rfl]
  have h := fun t k => loop119 (call := pc E) xs hl hp hg (t := t) (k := k) xs.length 0 (by omega)
  simp only [ints, List.drop_zero, Int.cast_ofNat_Int] at h
  simp only [f119, ints, h, wx, I, exec, resOf, reduceIte, reduceCtorEq, ne_eq, not_false_eq_true, Root.bx.injEq, Root.tm.injEq, Nat.reduceAdd, Nat.reduceBEq, Nat.reduceBNe, Nat.reduceEqDiff, Nat.reduceLT, Nat.reduceLeDiff, Nat.reduceMul, Nat.reduceSub, Int.reduceToNat, Int.reduceEq, Int.reduceBEq, Int.reduceBNe, Int.reduceLT, Int.reduceLE, if_true, if_false, Bool.false_eq_true, decide_true, decide_false, List.zipIdx_nil, bne_self_eq_false]
  split <;> simp_all only [wx, I, exec, resOf, reduceIte, reduceCtorEq, ne_eq, not_false_eq_true, Root.bx.injEq, Root.tm.injEq, Nat.reduceAdd, Nat.reduceBEq, Nat.reduceBNe, Nat.reduceEqDiff, Nat.reduceLT, Nat.reduceLeDiff, Nat.reduceMul, Nat.reduceSub, Int.reduceToNat, Int.reduceEq, Int.reduceBEq, Int.reduceBNe, Int.reduceLT, Int.reduceLE, if_true, if_false, Bool.false_eq_true, decide_true, decide_false, List.zipIdx_nil, bne_self_eq_false]

theorem firstFrom_neg (p : Int → Bool) : ∀ (l : List Int) (i : Nat), (0 ≤ firstFrom p l i ↔ l.any p = true) ∧ (firstFrom p l i < 0 ↔ l.any p = false)
  | [], _ => by simp [firstFrom]
  | x :: l, i => by
    have ih := firstFrom_neg p l (i + 1)
    simp only [firstFrom, List.any_cons]
    cases hpx : p x
    · simp only [Bool.false_eq_true, if_false, Bool.false_or]; exact ih
    · simp only [if_true, Bool.true_or]; constructor <;> constructor <;> intro h <;> first | trivial | rfl | omega | cases h

theorem pc_containsFunc (xs : List Int) (hl : xs.length < 9223372036854775807) {g : Nat} {cs : List V} {p : Int → Bool} (hp : ∀ x ∈ xs, pc E g (I x :: cs) = some (.bool (p x))) (hg : g < 1000000 := by decide) :
    pc E 78 [.sl .s 1 (ints xs), .fn (.func g) [] cs] = some (.bool (xs.any p)) := by
  refine pc_code (mf := f78) rfl ?_
  rw [runF_U rfl]
  have h := pc_indexFunc xs hl hp hg
  simp only [f78, h, wx, I, exec, resOf, reduceIte, reduceCtorEq, ne_eq, not_false_eq_true, Root.bx.injEq, Root.tm.injEq, Nat.reduceAdd, Nat.reduceBEq, Nat.reduceBNe, Nat.reduceEqDiff, Nat.reduceLT, Nat.reduceLeDiff, Nat.reduceMul, Nat.reduceSub, Int.reduceToNat, Int.reduceEq, Int.reduceBEq, Int.reduceBNe, Int.reduceLT, Int.reduceLE, if_true, if_false, Bool.false_eq_true, decide_true, decide_false, List.zipIdx_nil, bne_self_eq_false]
  have h2 := firstFrom_neg p xs 0
  cases h3 : xs.any p
  · have : ¬ firstFrom p xs 0 ≥ 0 := by have := h2.2.2 h3; omega
    simp [this]
  · have : firstFrom p xs 0 ≥ 0 := h2.1.2 h3
    simp [this]

/-! ### sets as numbers -/
theorem band_nat {x y : Nat} (hx : x < 2 ^ 63) (hy : y < 2 ^ 63) : band .i64 (x : Int) (y : Int) = ((x &&& y : Nat) : Int) := by
  have h1 : x &&& y ≤ x := Nat.and_le_left
  have e : band .i64 (x : Int) (y : Int) = IntKind.i64.wrap (((BitVec.ofInt 64 (x : Int) &&& BitVec.ofInt 64 (y : Int)).toNat : Nat) : Int) := rfl
  rw [e, BitVec.toNat_and, BitVec.ofInt_natCast, BitVec.ofInt_natCast, BitVec.toNat_ofNat, BitVec.toNat_ofNat, Nat.mod_eq_of_lt (by omega), Nat.mod_eq_of_lt (by omega)]
  exact wrap_id (by omega) (by omega)

theorem bor_nat {x y : Nat} (hx : x < 2 ^ 63) (hy : y < 2 ^ 63) : bor .i64 (x : Int) (y : Int) = ((x ||| y : Nat) : Int) := by
  have h1 : x ||| y < 2 ^ 63 := Nat.or_lt_two_pow hx hy
  have e : bor .i64 (x : Int) (y : Int) = IntKind.i64.wrap (((BitVec.ofInt 64 (x : Int) ||| BitVec.ofInt 64 (y : Int)).toNat : Nat) : Int) := rfl
  rw [e, BitVec.toNat_or, BitVec.ofInt_natCast, BitVec.ofInt_natCast, BitVec.toNat_ofNat, BitVec.toNat_ofNat, Nat.mod_eq_of_lt (by omega), Nat.mod_eq_of_lt (by omega)]
  exact wrap_id (by omega) (by omega)

theorem fdiv_nat (x k : Nat) (hk : k ≤ 64) : (x : Int).fdiv (2 ^ (min k 64)) = ((x / 2 ^ k : Nat) : Int) := by
  rw [Nat.min_eq_left hk, show ((2 : Int) ^ k) = ((2 ^ k : Nat) : Int) by simp, Int.fdiv_eq_ediv_of_nonneg _ (Int.natCast_nonneg _)]
  rfl

theorem band_one {x : Nat} (hx : x < 2 ^ 63) : band .i64 (x : Int) 1 = ((x % 2 : Nat) : Int) := by
  have := band_nat (y := 1) hx (by omega)
  rw [Nat.and_one_is_mod] at this
  exact this

end Go.ViD
