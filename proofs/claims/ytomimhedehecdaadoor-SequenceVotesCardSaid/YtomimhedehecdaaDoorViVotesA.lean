/- The vote of three sets is as specified. -/
import Derived.Test.YtomimhedehecdaaDoorViEqA
set_option linter.unusedSimpArgs false
set_option linter.unusedVariables false
namespace Go.ViD
open Go.Vi

theorem pc_voted (a b c : Int) : pc E 25 [.agg [I a, I b, I c]] = some (if [a, b, c].any (fun n => !(decide (0 ≤ n) && decide (n ≤ 31))) then .tup [I 0, I 2] else .tup [I (bor .i64 (bor .i64 (band .i64 a b) (band .i64 b c)) (band .i64 c a)), I 0]) := by
  refine pc_code (mf := f25) rfl ?_
  rw [runF_U rfl]
  have h := pc_containsFunc [a, b, c] (by simp) (g := 79) (cs := []) (p := fun n => !(decide (0 ≤ n) && decide (n ≤ 31))) (fun x _ => pc_voted1 x)
  simp only [ints, List.map_cons, List.map_nil] at h
  have hr : ∀ x y z : V, rowsCut 3 1 [x, y, z] = [[x], [y], [z]] := fun _ _ _ => rfl
  simp only [f25, h, hr, ww0, ww1, ww2, ww3, ww4, ww5, ww6, ww7, ww8, ww9, ww10, I, Vi.start, exec, St.gone, St.cells, St.write, St.ints, St.optInt, St.deref, vals, Vi.gone, cut, paste, fill, rowsOf, leqv, leqs, leq1, binv, ibin, unv, ptrOp, resOf, resAll, res1, reduceIte, reduceCtorEq, not_false, Root.bx.injEq, Root.tm.injEq, Nat.reduceAdd, Nat.reduceBEq, Nat.reduceBNe, Nat.reduceEqDiff, Nat.reduceLT, Nat.reduceLeDiff, Nat.reduceMul, Nat.reduceSub, Int.reduceToNat, Int.reduceBEq, Int.reduceBNe, Int.reduceLT, Int.reduceLE, if_true, if_false, Bool.false_eq_true, decide_true, decide_false, List.zipIdx_nil, bne_self_eq_false]
  cases h1 : [a, b, c].any (fun n => !(decide (0 ≤ n) && decide (n ≤ 31))) <;> simp only [h1, ww0, ww1, ww2, ww3, ww4, ww5, ww6, ww7, ww8, ww9, ww10, I, Vi.start, exec, St.gone, St.cells, St.write, St.ints, St.optInt, St.deref, vals, Vi.gone, cut, paste, fill, rowsOf, leqv, leqs, leq1, binv, ibin, unv, ptrOp, resOf, resAll, res1, reduceIte, reduceCtorEq, not_false, Root.bx.injEq, Root.tm.injEq, Nat.reduceAdd, Nat.reduceBEq, Nat.reduceBNe, Nat.reduceEqDiff, Nat.reduceLT, Nat.reduceLeDiff, Nat.reduceMul, Nat.reduceSub, Int.reduceToNat, Int.reduceBEq, Int.reduceBNe, Int.reduceLT, Int.reduceLE, if_true, if_false, Bool.false_eq_true, decide_true, decide_false, List.zipIdx_nil, bne_self_eq_false]

theorem pc_Within (n lo hi : Int) : pc E 42 [I n, I lo, I hi] = some (.bool (decide (lo ≤ n) && decide (n ≤ hi))) := by
  refine pc_code (mf := f42) rfl ?_
  rw [runF_U rfl]
  simp only [f42, ww0, ww1, ww2, ww3, ww4, ww5, ww6, ww7, ww8, ww9, ww10, I, Vi.start, exec, St.gone, St.cells, St.write, St.ints, St.optInt, St.deref, vals, Vi.gone, cut, paste, fill, rowsOf, leqv, leqs, leq1, binv, ibin, unv, ptrOp, resOf, resAll, res1, reduceIte, reduceCtorEq, not_false, Root.bx.injEq, Root.tm.injEq, Nat.reduceAdd, Nat.reduceBEq, Nat.reduceBNe, Nat.reduceEqDiff, Nat.reduceLT, Nat.reduceLeDiff, Nat.reduceMul, Nat.reduceSub, Int.reduceToNat, Int.reduceBEq, Int.reduceBNe, Int.reduceLT, Int.reduceLE, if_true, if_false, Bool.false_eq_true, decide_true, decide_false, List.zipIdx_nil, bne_self_eq_false]
  cases h1 : decide (lo ≤ n) <;> simp only [h1, ww0, ww1, ww2, ww3, ww4, ww5, ww6, ww7, ww8, ww9, ww10, I, Vi.start, exec, St.gone, St.cells, St.write, St.ints, St.optInt, St.deref, vals, Vi.gone, cut, paste, fill, rowsOf, leqv, leqs, leq1, binv, ibin, unv, ptrOp, resOf, resAll, res1, reduceIte, reduceCtorEq, not_false, Root.bx.injEq, Root.tm.injEq, Nat.reduceAdd, Nat.reduceBEq, Nat.reduceBNe, Nat.reduceEqDiff, Nat.reduceLT, Nat.reduceLeDiff, Nat.reduceMul, Nat.reduceSub, Int.reduceToNat, Int.reduceBEq, Int.reduceBNe, Int.reduceLT, Int.reduceLE, if_true, if_false, Bool.false_eq_true, decide_true, decide_false, List.zipIdx_nil, bne_self_eq_false]

theorem wrap_lit1 : IntKind.i64.wrap (0 + 1) = 1 := by decide
theorem wrap_lit2 : IntKind.i64.wrap (1 + 1) = 2 := by decide
theorem wrap_lit3 : IntKind.i64.wrap (2 + 1) = 3 := by decide
theorem wrap_lit4 : IntKind.i64.wrap (3 + 1) = 4 := by decide
theorem wrap_lit5 : IntKind.i64.wrap (4 + 1) = 5 := by decide

theorem pc_voteErr (a b c : Int) : pc E 26 [.agg [I a, I b, I c]] = some (I (if [a, b, c].any (fun n => !(decide (0 ≤ n) && decide (n ≤ 31))) then 2 else 0)) := by
  refine pc_code (mf := f26) rfl ?_
  rw [runF_U rfl]
  simp only [f26, pc_Within, U_loop' f26l0.eq_1, wrap_lit1, wrap_lit2, wrap_lit3, ww0, ww1, ww2, ww3, ww4, ww5, ww6, ww7, ww8, ww9, ww10, I, Vi.start, exec, St.gone, St.cells, St.write, St.ints, St.optInt, St.deref, vals, Vi.gone, cut, paste, fill, rowsOf, leqv, leqs, leq1, binv, ibin, unv, ptrOp, resOf, resAll, res1, reduceIte, reduceCtorEq, not_false, Root.bx.injEq, Root.tm.injEq, Nat.reduceAdd, Nat.reduceBEq, Nat.reduceBNe, Nat.reduceEqDiff, Nat.reduceLT, Nat.reduceLeDiff, Nat.reduceMul, Nat.reduceSub, Int.reduceToNat, Int.reduceBEq, Int.reduceBNe, Int.reduceLT, Int.reduceLE, if_true, if_false, Bool.false_eq_true, decide_true, decide_false, List.zipIdx_nil, bne_self_eq_false]
  cases h1 : (decide (0 ≤ a) && decide (a ≤ 31)) <;> simp only [h1, U_loop' f26l0.eq_1, pc_Within, wrap_lit1, wrap_lit2, wrap_lit3, List.any_cons, List.any_nil, ww0, ww1, ww2, ww3, ww4, ww5, ww6, ww7, ww8, ww9, ww10, I, Vi.start, exec, St.gone, St.cells, St.write, St.ints, St.optInt, St.deref, vals, Vi.gone, cut, paste, fill, rowsOf, leqv, leqs, leq1, binv, ibin, unv, ptrOp, resOf, resAll, res1, reduceIte, reduceCtorEq, not_false, Root.bx.injEq, Root.tm.injEq, Nat.reduceAdd, Nat.reduceBEq, Nat.reduceBNe, Nat.reduceEqDiff, Nat.reduceLT, Nat.reduceLeDiff, Nat.reduceMul, Nat.reduceSub, Int.reduceToNat, Int.reduceBEq, Int.reduceBNe, Int.reduceLT, Int.reduceLE, if_true, if_false, Bool.false_eq_true, decide_true, decide_false, List.zipIdx_nil, bne_self_eq_false]
  cases h2 : (decide (0 ≤ b) && decide (b ≤ 31)) <;> simp only [h2, U_loop' f26l0.eq_1, pc_Within, wrap_lit1, wrap_lit2, wrap_lit3, List.any_cons, List.any_nil, ww0, ww1, ww2, ww3, ww4, ww5, ww6, ww7, ww8, ww9, ww10, I, Vi.start, exec, St.gone, St.cells, St.write, St.ints, St.optInt, St.deref, vals, Vi.gone, cut, paste, fill, rowsOf, leqv, leqs, leq1, binv, ibin, unv, ptrOp, resOf, resAll, res1, reduceIte, reduceCtorEq, not_false, Root.bx.injEq, Root.tm.injEq, Nat.reduceAdd, Nat.reduceBEq, Nat.reduceBNe, Nat.reduceEqDiff, Nat.reduceLT, Nat.reduceLeDiff, Nat.reduceMul, Nat.reduceSub, Int.reduceToNat, Int.reduceBEq, Int.reduceBNe, Int.reduceLT, Int.reduceLE, if_true, if_false, Bool.false_eq_true, decide_true, decide_false, List.zipIdx_nil, bne_self_eq_false]
  cases h3 : (decide (0 ≤ c) && decide (c ≤ 31)) <;> simp only [h3, U_loop' f26l0.eq_1, pc_Within, wrap_lit1, wrap_lit2, wrap_lit3, List.any_cons, List.any_nil, ww0, ww1, ww2, ww3, ww4, ww5, ww6, ww7, ww8, ww9, ww10, I, Vi.start, exec, St.gone, St.cells, St.write, St.ints, St.optInt, St.deref, vals, Vi.gone, cut, paste, fill, rowsOf, leqv, leqs, leq1, binv, ibin, unv, ptrOp, resOf, resAll, res1, reduceIte, reduceCtorEq, not_false, Root.bx.injEq, Root.tm.injEq, Nat.reduceAdd, Nat.reduceBEq, Nat.reduceBNe, Nat.reduceEqDiff, Nat.reduceLT, Nat.reduceLeDiff, Nat.reduceMul, Nat.reduceSub, Int.reduceToNat, Int.reduceBEq, Int.reduceBNe, Int.reduceLT, Int.reduceLE, if_true, if_false, Bool.false_eq_true, decide_true, decide_false, List.zipIdx_nil, bne_self_eq_false]

/-- How many of three sets have a signal. -/
def cnt (a b c : Int) (k : Nat) : Int := IntKind.i64.wrap (IntKind.i64.wrap (band .i64 (a.fdiv (2 ^ (min k 64))) 1 + band .i64 (b.fdiv (2 ^ (min k 64))) 1) + band .i64 (c.fdiv (2 ^ (min k 64))) 1)

def voteStep (a b c : Int) (out : Int) (k : Nat) : Int := if 2 ≤ cnt a b c k then IntKind.i64.wrap (out + IntKind.i64.wrap (1 * 2 ^ (min k 64))) else out

theorem loop27 {call : FuncId → List V → Option V} {a b c out : Int} {n : Nat} (hn : n < 5) {t : List Todo} {k : Ex → St → Option V} :
    U call (.c (.loop f27l0) :: t) .normal ⟨[(1, .loc 1 0), (3, I out), (4, I n)], [(1, false, [I a, I b, I c])]⟩ k =
    U call (.c (.loop f27l0) :: t) .normal ⟨[(1, .loc 1 0), (3, I (voteStep a b c out n)), (4, I (n + 1 : Nat))], [(1, false, [I a, I b, I c])]⟩ k := by
  conv => lhs; rw [U_loop' f27l0.eq_1]
  have h0 : (n : Int) < 5 := by omega
  have h4 : IntKind.i64.bits = 64 := rfl
  simp only [h0, h4, wrap_succ (i := n) (by omega), ww0, ww1, ww2, ww3, ww4, ww5, ww6, ww7, ww8, ww9, ww10, I, Vi.start, exec, St.gone, St.cells, St.write, St.ints, St.optInt, St.deref, vals, Vi.gone, cut, paste, fill, rowsOf, leqv, leqs, leq1, binv, ibin, unv, ptrOp, resOf, resAll, res1, reduceIte, reduceCtorEq, not_false, Root.bx.injEq, Root.tm.injEq, Nat.reduceAdd, Nat.reduceBEq, Nat.reduceBNe, Nat.reduceEqDiff, Nat.reduceLT, Nat.reduceLeDiff, Nat.reduceMul, Nat.reduceSub, Int.reduceToNat, Int.reduceBEq, Int.reduceBNe, Int.reduceLT, Int.reduceLE, if_true, if_false, Bool.false_eq_true, decide_true, decide_false, List.zipIdx_nil, bne_self_eq_false]
  cases h5 : decide (IntKind.i64.wrap (IntKind.i64.wrap (band .i64 (a.fdiv (2 ^ min n 64)) 1 + band .i64 (b.fdiv (2 ^ min n 64)) 1) + band .i64 (c.fdiv (2 ^ min n 64)) 1) ≥ 2)
  · have h6 : ¬ 2 ≤ cnt a b c n := of_decide_eq_false h5
    simp only [voteStep, h6, h4, h5, wrap_succ (i := n) (by omega), ww0, ww1, ww2, ww3, ww4, ww5, ww6, ww7, ww8, ww9, ww10, I, Vi.start, exec, St.gone, St.cells, St.write, St.ints, St.optInt, St.deref, vals, Vi.gone, cut, paste, fill, rowsOf, leqv, leqs, leq1, binv, ibin, unv, ptrOp, resOf, resAll, res1, reduceIte, reduceCtorEq, not_false, Root.bx.injEq, Root.tm.injEq, Nat.reduceAdd, Nat.reduceBEq, Nat.reduceBNe, Nat.reduceEqDiff, Nat.reduceLT, Nat.reduceLeDiff, Nat.reduceMul, Nat.reduceSub, Int.reduceToNat, Int.reduceBEq, Int.reduceBNe, Int.reduceLT, Int.reduceLE, if_true, if_false, Bool.false_eq_true, decide_true, decide_false, List.zipIdx_nil, bne_self_eq_false]
  · have h6 : 2 ≤ cnt a b c n := of_decide_eq_true h5
    simp only [voteStep, h6, h4, h5, wrap_succ (i := n) (by omega), ww0, ww1, ww2, ww3, ww4, ww5, ww6, ww7, ww8, ww9, ww10, I, Vi.start, exec, St.gone, St.cells, St.write, St.ints, St.optInt, St.deref, vals, Vi.gone, cut, paste, fill, rowsOf, leqv, leqs, leq1, binv, ibin, unv, ptrOp, resOf, resAll, res1, reduceIte, reduceCtorEq, not_false, Root.bx.injEq, Root.tm.injEq, Nat.reduceAdd, Nat.reduceBEq, Nat.reduceBNe, Nat.reduceEqDiff, Nat.reduceLT, Nat.reduceLeDiff, Nat.reduceMul, Nat.reduceSub, Int.reduceToNat, Int.reduceBEq, Int.reduceBNe, Int.reduceLT, Int.reduceLE, if_true, if_false, Bool.false_eq_true, decide_true, decide_false, List.zipIdx_nil, bne_self_eq_false]

theorem pc_refVoted (a b c : Int) : pc E 27 [.agg [I a, I b, I c]] = some (I (voteStep a b c (voteStep a b c (voteStep a b c (voteStep a b c (voteStep a b c 0 0) 1) 2) 3) 4)) := by
  refine pc_code (mf := f27) rfl ?_
  rw [runF_U rfl]
  simp only [f27, ww0, ww1, ww2, ww3, ww4, ww5, ww6, ww7, ww8, ww9, ww10, I, Vi.start, exec, St.gone, St.cells, St.write, St.ints, St.optInt, St.deref, vals, Vi.gone, cut, paste, fill, rowsOf, leqv, leqs, leq1, binv, ibin, unv, ptrOp, resOf, resAll, res1, reduceIte, reduceCtorEq, not_false, Root.bx.injEq, Root.tm.injEq, Nat.reduceAdd, Nat.reduceBEq, Nat.reduceBNe, Nat.reduceEqDiff, Nat.reduceLT, Nat.reduceLeDiff, Nat.reduceMul, Nat.reduceSub, Int.reduceToNat, Int.reduceBEq, Int.reduceBNe, Int.reduceLT, Int.reduceLE, if_true, if_false, Bool.false_eq_true, decide_true, decide_false, List.zipIdx_nil, bne_self_eq_false]
  have h0 := fun t k => loop27 (call := pc E) (a := a) (b := b) (c := c) (out := 0) (n := 0) (by omega) (t := t) (k := k)
  have h1 := fun out t k => loop27 (call := pc E) (a := a) (b := b) (c := c) (out := out) (n := 1) (by omega) (t := t) (k := k)
  have h2 := fun out t k => loop27 (call := pc E) (a := a) (b := b) (c := c) (out := out) (n := 2) (by omega) (t := t) (k := k)
  have h3 := fun out t k => loop27 (call := pc E) (a := a) (b := b) (c := c) (out := out) (n := 3) (by omega) (t := t) (k := k)
  have h4 := fun out t k => loop27 (call := pc E) (a := a) (b := b) (c := c) (out := out) (n := 4) (by omega) (t := t) (k := k)
  simp only [I, Int.cast_ofNat_Int, Nat.reduceAdd] at h0 h1 h2 h3 h4
  rw [h0, h1, h2, h3, h4]
  simp only [U_loop' f27l0.eq_1, ww0, ww1, ww2, ww3, ww4, ww5, ww6, ww7, ww8, ww9, ww10, I, Vi.start, exec, St.gone, St.cells, St.write, St.ints, St.optInt, St.deref, vals, Vi.gone, cut, paste, fill, rowsOf, leqv, leqs, leq1, binv, ibin, unv, ptrOp, resOf, resAll, res1, reduceIte, reduceCtorEq, not_false, Root.bx.injEq, Root.tm.injEq, Nat.reduceAdd, Nat.reduceBEq, Nat.reduceBNe, Nat.reduceEqDiff, Nat.reduceLT, Nat.reduceLeDiff, Nat.reduceMul, Nat.reduceSub, Int.reduceToNat, Int.reduceBEq, Int.reduceBNe, Int.reduceLT, Int.reduceLE, if_true, if_false, Bool.false_eq_true, decide_true, decide_false, List.zipIdx_nil, bne_self_eq_false]

def voteN (x y z k : Nat) : Nat := if 2 ≤ x / 2 ^ k % 2 + y / 2 ^ k % 2 + z / 2 ^ k % 2 then 2 ^ k else 0

theorem voteN_all : ∀ x < 32, ∀ y < 32, ∀ z < 32, voteN x y z 0 + voteN x y z 1 + voteN x y z 2 + voteN x y z 3 + voteN x y z 4 = ((x &&& y) ||| (y &&& z)) ||| (z &&& x) := by decide +kernel

theorem cnt_nat {x y z : Nat} (hx : x < 32) (hy : y < 32) (hz : z < 32) (k : Nat) (hk : k < 5) : cnt x y z k = ((x / 2 ^ k % 2 + y / 2 ^ k % 2 + z / 2 ^ k % 2 : Nat) : Int) := by
  have hd : ∀ n : Nat, n < 32 → n / 2 ^ k < 2 ^ 63 := fun n hn => Nat.lt_of_le_of_lt (Nat.div_le_self _ _) (by omega)
  unfold cnt
  rw [fdiv_nat _ _ (by omega), fdiv_nat _ _ (by omega), fdiv_nat _ _ (by omega), band_one (hd x hx), band_one (hd y hy), band_one (hd z hz), wrap_id (n := ((x / 2 ^ k % 2 : Nat) : Int) + ((y / 2 ^ k % 2 : Nat) : Int)) (by omega) (by omega), wrap_id (by omega) (by omega)]
  omega

theorem voteStep_nat {x y z : Nat} (hx : x < 32) (hy : y < 32) (hz : z < 32) (k : Nat) (hk : k < 5) {out : Nat} (ho : out < 1000) : voteStep x y z out k = ((out + voteN x y z k : Nat) : Int) ∧ voteN x y z k < 100 := by
  have hp : 2 ^ k ≤ 16 := by
    have : 2 ^ k ≤ 2 ^ 4 := Nat.pow_le_pow_right (by omega) (by omega)
    omega
  unfold voteStep voteN
  rw [cnt_nat hx hy hz k hk]
  by_cases h : 2 ≤ x / 2 ^ k % 2 + y / 2 ^ k % 2 + z / 2 ^ k % 2
  · rw [if_pos (by omega), if_pos h, Nat.min_eq_left (by omega)]
    have e : (2 : Int) ^ k = ((2 ^ k : Nat) : Int) := by simp
    rw [e]
    generalize 2 ^ k = m at hp
    rw [wrap_id (n := 1 * (m : Int)) (by omega) (by omega), wrap_id (by omega) (by omega)]
    omega
  · rw [if_neg (by omega), if_neg h]
    omega

theorem vote_same {a b c : Int} (ha : 0 ≤ a ∧ a ≤ 31) (hb : 0 ≤ b ∧ b ≤ 31) (hc : 0 ≤ c ∧ c ≤ 31) :
    voteStep a b c (voteStep a b c (voteStep a b c (voteStep a b c (voteStep a b c 0 0) 1) 2) 3) 4 = bor .i64 (bor .i64 (band .i64 a b) (band .i64 b c)) (band .i64 c a) := by
  obtain ⟨x, rfl⟩ := Int.eq_ofNat_of_zero_le ha.1
  obtain ⟨y, rfl⟩ := Int.eq_ofNat_of_zero_le hb.1
  obtain ⟨z, rfl⟩ := Int.eq_ofNat_of_zero_le hc.1
  have hx : x < 32 := by omega
  have hy : y < 32 := by omega
  have hz : z < 32 := by omega
  have s0 := voteStep_nat hx hy hz 0 (by omega) (out := 0) (by omega)
  have s1 := voteStep_nat hx hy hz 1 (by omega) (out := 0 + voteN x y z 0) (by omega)
  have s2 := voteStep_nat hx hy hz 2 (by omega) (out := 0 + voteN x y z 0 + voteN x y z 1) (by omega)
  have s3 := voteStep_nat hx hy hz 3 (by omega) (out := 0 + voteN x y z 0 + voteN x y z 1 + voteN x y z 2) (by omega)
  have s4 := voteStep_nat hx hy hz 4 (by omega) (out := 0 + voteN x y z 0 + voteN x y z 1 + voteN x y z 2 + voteN x y z 3) (by omega)
  have e0 : (0 : Int) = ((0 : Nat) : Int) := rfl
  have hl : ∀ m n : Nat, m < 32 → m &&& n < 2 ^ 63 := fun m n hm => Nat.lt_of_le_of_lt Nat.and_le_left (by omega)
  rw [e0, s0.1, s1.1, s2.1, s3.1, s4.1, band_nat (by omega) (by omega), band_nat (by omega) (by omega), band_nat (by omega) (by omega), bor_nat (hl _ _ hx) (hl _ _ hy), bor_nat (Nat.or_lt_two_pow (hl _ _ hx) (hl _ _ hy)) (hl _ _ hz), ← voteN_all x hx y hy z hz, Nat.zero_add]

/-- How many of three sets differ from a set. -/
def wrongs (a b c t : Int) : Int := (if a = t then 0 else 1) + (if b = t then 0 else 1) + (if c = t then 0 else 1)

theorem vote_two {a b c t : Int} (h : wrongs a b c t ≤ 1) (ha : 0 ≤ a ∧ a ≤ 31) (hb : 0 ≤ b ∧ b ≤ 31) (hc : 0 ≤ c ∧ c ≤ 31) : bor .i64 (bor .i64 (band .i64 a b) (band .i64 b c)) (band .i64 c a) = t := by
  obtain ⟨x, rfl⟩ := Int.eq_ofNat_of_zero_le ha.1
  obtain ⟨y, rfl⟩ := Int.eq_ofNat_of_zero_le hb.1
  obtain ⟨z, rfl⟩ := Int.eq_ofNat_of_zero_le hc.1
  have hl : ∀ m n : Nat, m < 32 → m &&& n < 2 ^ 63 := fun m n hm => Nat.lt_of_le_of_lt Nat.and_le_left (by omega)
  have hx : x < 32 := by omega
  have hy : y < 32 := by omega
  have hz : z < 32 := by omega
  rw [band_nat (by omega) (by omega), band_nat (by omega) (by omega), band_nat (by omega) (by omega), bor_nat (hl _ _ hx) (hl _ _ hy), bor_nat (Nat.or_lt_two_pow (hl _ _ hx) (hl _ _ hy)) (hl _ _ hz)]
  have key : ∀ p q : Nat, (p &&& p ||| p &&& q) ||| q &&& p = p ∧ (p &&& q ||| q &&& p) ||| p &&& p = p ∧ (q &&& p ||| p &&& p) ||| p &&& q = p := fun p q => by
    refine ⟨?_, ?_, ?_⟩ <;> apply Nat.eq_of_testBit_eq <;> intro i <;> simp only [Nat.testBit_or, Nat.testBit_and] <;> cases p.testBit i <;> cases q.testBit i <;> rfl
  unfold wrongs at h
  by_cases h1 : (x : Int) = t
  · by_cases h2 : (y : Int) = t
    · have : x = y := by omega
      subst this
      rw [(key x z).1]; exact h1
    · by_cases h3 : (z : Int) = t
      · have : x = z := by omega
        subst this
        rw [(key x y).2.1]; exact h1
      · rw [if_pos h1, if_neg h2, if_neg h3] at h; omega
  · by_cases h2 : (y : Int) = t
    · by_cases h3 : (z : Int) = t
      · have : y = z := by omega
        subst this
        rw [(key y x).2.2]; exact h2
      · rw [if_neg h1, if_pos h2, if_neg h3] at h; omega
    · rw [if_neg h1, if_neg h2] at h
      split at h <;> omega

end Go.ViD
