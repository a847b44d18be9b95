import Derived.Test.YtomimhedehecdaaDoorViEqB
import Derived.Test.YtomimhedehecdaaDoorViSplit
section
/- Plans: names, sets and indexes. -/
set_option linter.unusedSimpArgs false
set_option linter.unusedVariables false
namespace Go.ViD
open Go.Vi

/-! ### names -/
/-- May a byte stand at a place of a name? -/
def okAt (c : Int) (i : Nat) : Bool := !(!(inR c 97 122 || inR c 65 90) && (((i : Int) == 0) || ((c != 45) && !inR c 48 57)))

def nameOK : List UInt8 → Nat → Bool
  | [], _ => true
  | c :: l, i => okAt c.toNat i && nameOK l (i + 1)

def isName (s : ByteArray) : Bool := inR s.size 1 12 && nameOK s.data.toList 0

abbrev u8s (l : List UInt8) : List (List V) := l.map fun b => [V.int .u8 b.toNat]

theorem byte_lt (c : UInt8) : c.toNat < 256 := c.toNat_lt

theorem loop100 (s : ByteArray) (l : List UInt8) (hl : l.length < 9223372036854775807) {t : List Todo} {k : Ex → St → Option V} :
    ∀ (m i : Nat), i + m = l.length → U (pc E) (.c (.loop f100l0) :: t) .normal ⟨[(0, .str s), (7, .sl .s 1 (u8s l)), (8, I l.length), (9, I i)], []⟩ k =
      if nameOK (l.drop i) i then U (pc E) t (.exit 0) ⟨[(0, .str s)], []⟩ k else k .ret ⟨[(2, .bool false)], []⟩
  | 0, i, hm => by
    rw [U_loop' f100l0.eq_1]
    have h0 : ¬ ((i : Int) < (l.length : Int)) := by omega
    simp only [u8s, h0, wx, I, exec, resOf, reduceIte, reduceCtorEq, ne_eq, not_false_eq_true, Root.bx.injEq, Root.tm.injEq, Nat.reduceAdd, Nat.reduceBEq, Nat.reduceBNe, Nat.reduceEqDiff, Nat.reduceLT, Nat.reduceLeDiff, Nat.reduceMul, Nat.reduceSub, Int.reduceToNat, Int.reduceEq, Int.reduceBEq, Int.reduceBNe, Int.reduceLT, Int.reduceLE, if_true, if_false, Bool.false_eq_true, decide_true, decide_false, List.zipIdx_nil, bne_self_eq_false]
    rw [List.drop_eq_nil_of_le (by omega)]
    simp only [nameOK, if_true]
  | m + 1, i, hm => by
    rw [U_loop' f100l0.eq_1]
    have h0 : ((i : Int) < (l.length : Int)) := by omega
    have hx : l[i]? = some l[i] := List.getElem?_eq_getElem (by omega)
    have hd : l.drop i = l[i] :: l.drop (i + 1) := List.drop_eq_getElem_cons (by omega)
    have ih := loop100 s l hl (t := t) (k := k) m (i + 1) (by omega)
    simp only [u8s] at ih
    rw [hd]
    generalize l[i] = c at hx ⊢
    have hb := byte_lt c
    have hc : IntKind.i64.wrap (c.toNat : Int) = (c.toNat : Int) := wrap_id (by omega) (by omega)
    simp only [u8s, h0, hx, hc, nameOK, okAt, pc_inR, wx, I, exec, resOf, reduceIte, reduceCtorEq, ne_eq, not_false_eq_true, Root.bx.injEq, Root.tm.injEq, Nat.reduceAdd, Nat.reduceBEq, Nat.reduceBNe, Nat.reduceEqDiff, Nat.reduceLT, Nat.reduceLeDiff, Nat.reduceMul, Nat.reduceSub, Int.reduceToNat, Int.reduceEq, Int.reduceBEq, Int.reduceBNe, Int.reduceLT, Int.reduceLE, if_true, if_false, Bool.false_eq_true, decide_true, decide_false, List.zipIdx_nil, bne_self_eq_false]
    have hw := wrap_succ (i := i) (by omega)
    repeat' (first | ((first | (with_reducible refine split_condE (fun _ _ _ => ?_) (fun _ _ _ => ?_)) | (with_reducible refine split_guardE (fun _ _ _ => ?_) (fun _ _ _ => ?_))) <;> (rename_i h h2 h3; simp only [h, h2, h3, hc, pc_inR, hw, ih, wx, I, exec, resOf, reduceIte, reduceCtorEq, ne_eq, not_false_eq_true, Root.bx.injEq, Root.tm.injEq, Nat.reduceAdd, Nat.reduceBEq, Nat.reduceBNe, Nat.reduceEqDiff, Nat.reduceLT, Nat.reduceLeDiff, Nat.reduceMul, Nat.reduceSub, Int.reduceToNat, Int.reduceEq, Int.reduceBEq, Int.reduceBNe, Int.reduceLT, Int.reduceLE, if_true, if_false, Bool.false_eq_true, decide_true, decide_false, List.zipIdx_nil, bne_self_eq_false])) | ((first | (with_reducible refine split_condN (fun _ => ?_) (fun _ => ?_)) | (with_reducible refine split_condA (fun _ => ?_) (fun _ => ?_)) | (with_reducible refine split_condO (fun _ => ?_) (fun _ => ?_)) | (with_reducible refine split_cond (fun _ => ?_) (fun _ => ?_)) | (with_reducible refine split_guardN (fun _ => ?_) (fun _ => ?_)) | (with_reducible refine split_guardA (fun _ => ?_) (fun _ => ?_)) | (with_reducible refine split_guardO (fun _ => ?_) (fun _ => ?_)) | (with_reducible refine split_guard (fun _ => ?_) (fun _ => ?_))) <;> (rename_i h; simp only [h, hc, pc_inR, hw, ih, wx, I, exec, resOf, reduceIte, reduceCtorEq, ne_eq, not_false_eq_true, Root.bx.injEq, Root.tm.injEq, Nat.reduceAdd, Nat.reduceBEq, Nat.reduceBNe, Nat.reduceEqDiff, Nat.reduceLT, Nat.reduceLeDiff, Nat.reduceMul, Nat.reduceSub, Int.reduceToNat, Int.reduceEq, Int.reduceBEq, Int.reduceBNe, Int.reduceLT, Int.reduceLE, if_true, if_false, Bool.false_eq_true, decide_true, decide_false, List.zipIdx_nil, bne_self_eq_false])))

theorem pc_isName (s : ByteArray) (hs : s.size ≤ 1000) : pc E 100 [.str s] = some (.bool (isName s)) := by
  refine pc_code (mf := f100) rfl ?_
  rw [runF_U rfl]
  have hz : s.data.toList.length = s.size := rfl
  have hlp := fun t k => loop100 s s.data.toList (by omega) (t := t) (k := k) s.data.toList.length 0 (by omega)
  simp only [u8s, List.drop_zero, Int.cast_ofNat_Int] at hlp
  have h1 : s.size ≤ 1073741824 := by omega
  simp only [f100, h1, hlp, wx, I, exec, resOf, reduceIte, reduceCtorEq, ne_eq, not_false_eq_true, Root.bx.injEq, Root.tm.injEq, Nat.reduceAdd, Nat.reduceBEq, Nat.reduceBNe, Nat.reduceEqDiff, Nat.reduceLT, Nat.reduceLeDiff, Nat.reduceMul, Nat.reduceSub, Int.reduceToNat, Int.reduceEq, Int.reduceBEq, Int.reduceBNe, Int.reduceLT, Int.reduceLE, if_true, if_false, Bool.false_eq_true, decide_true, decide_false, List.zipIdx_nil, bne_self_eq_false]
  cases h2 : nameOK s.data.toList 0
  · simp only [h2, isName, pc_inR, wx, I, exec, resOf, reduceIte, reduceCtorEq, ne_eq, not_false_eq_true, Root.bx.injEq, Root.tm.injEq, Nat.reduceAdd, Nat.reduceBEq, Nat.reduceBNe, Nat.reduceEqDiff, Nat.reduceLT, Nat.reduceLeDiff, Nat.reduceMul, Nat.reduceSub, Int.reduceToNat, Int.reduceEq, Int.reduceBEq, Int.reduceBNe, Int.reduceLT, Int.reduceLE, if_true, if_false, Bool.false_eq_true, decide_true, decide_false, List.zipIdx_nil, bne_self_eq_false]
  · simp only [h2, isName, pc_inR, wx, I, exec, resOf, reduceIte, reduceCtorEq, ne_eq, not_false_eq_true, Root.bx.injEq, Root.tm.injEq, Nat.reduceAdd, Nat.reduceBEq, Nat.reduceBNe, Nat.reduceEqDiff, Nat.reduceLT, Nat.reduceLeDiff, Nat.reduceMul, Nat.reduceSub, Int.reduceToNat, Int.reduceEq, Int.reduceBEq, Int.reduceBNe, Int.reduceLT, Int.reduceLE, if_true, if_false, Bool.false_eq_true, decide_true, decide_false, List.zipIdx_nil, bne_self_eq_false]

theorem loop131 (s : ByteArray) (hl : s.size < 9223372036854775807) {t : List Todo} {k : Ex → St → Option V} :
    ∀ (m i : Nat), i + m = s.size → U (pc E) (.c (.loop f131l0) :: t) .normal ⟨[(0, .str s), (3, I i)], []⟩ k =
      if nameOK (s.data.toList.drop i) i then U (pc E) t (.exit 0) ⟨[], []⟩ k else k .ret ⟨[(2, .bool false)], []⟩
  | 0, i, hm => by
    rw [U_loop' f131l0.eq_1]
    have h0 : ¬ ((i : Int) < (s.size : Int)) := by omega
    simp only [h0, wx, I, exec, resOf, reduceIte, reduceCtorEq, ne_eq, not_false_eq_true, Root.bx.injEq, Root.tm.injEq, Nat.reduceAdd, Nat.reduceBEq, Nat.reduceBNe, Nat.reduceEqDiff, Nat.reduceLT, Nat.reduceLeDiff, Nat.reduceMul, Nat.reduceSub, Int.reduceToNat, Int.reduceEq, Int.reduceBEq, Int.reduceBNe, Int.reduceLT, Int.reduceLE, if_true, if_false, Bool.false_eq_true, decide_true, decide_false, List.zipIdx_nil, bne_self_eq_false]
    have hz : s.data.toList.length = s.size := rfl
    rw [List.drop_eq_nil_of_le (by omega)]
    simp only [nameOK, if_true]
  | m + 1, i, hm => by
    rw [U_loop' f131l0.eq_1]
    have h0 : ((i : Int) < (s.size : Int)) := by omega
    have hz : s.data.toList.length = s.size := rfl
    have hlt : i < s.data.toList.length := by omega
    have hd : s.data.toList.drop i = s.data.toList[i] :: s.data.toList.drop (i + 1) := List.drop_eq_getElem_cons hlt
    have ih := loop131 s hl (t := t) (k := k) m (i + 1) (by omega)
    rw [hd]
    have hi : (0 : Int) ≤ (i : Int) ∧ i < s.size := ⟨by omega, by omega⟩
    have hg : s[i]'hi.2 = s.data.toList[i] := rfl
    simp only [h0, hi, hg, nameOK, okAt, dif_pos, inR, and_self, wx, I, exec, resOf, reduceIte, reduceCtorEq, ne_eq, not_false_eq_true, Root.bx.injEq, Root.tm.injEq, Nat.reduceAdd, Nat.reduceBEq, Nat.reduceBNe, Nat.reduceEqDiff, Nat.reduceLT, Nat.reduceLeDiff, Nat.reduceMul, Nat.reduceSub, Int.reduceToNat, Int.reduceEq, Int.reduceBEq, Int.reduceBNe, Int.reduceLT, Int.reduceLE, if_true, if_false, Bool.false_eq_true, decide_true, decide_false, List.zipIdx_nil, bne_self_eq_false]
    generalize s.data.toList[i] = c
    have hw := wrap_succ (i := i) (by omega)
    have e1 : decide ((c.toNat : Int) ≥ 97) = decide (97 ≤ (c.toNat : Int)) := rfl
    have e2 : decide ((c.toNat : Int) ≥ 65) = decide (65 ≤ (c.toNat : Int)) := rfl
    have e3 : decide ((c.toNat : Int) < 48) = !decide (48 ≤ (c.toNat : Int)) := by by_cases h : (c.toNat : Int) < 48 <;> simp [h, Int.not_le.2, Int.not_lt.1] <;> omega
    have e4 : decide ((c.toNat : Int) > 57) = !decide ((c.toNat : Int) ≤ 57) := by by_cases h : (c.toNat : Int) > 57 <;> simp [h, Int.not_le.2, Int.not_lt.1] <;> omega
    simp only [e1, e2, e3, e4, wx, I, exec, resOf, reduceIte, reduceCtorEq, ne_eq, not_false_eq_true, Root.bx.injEq, Root.tm.injEq, Nat.reduceAdd, Nat.reduceBEq, Nat.reduceBNe, Nat.reduceEqDiff, Nat.reduceLT, Nat.reduceLeDiff, Nat.reduceMul, Nat.reduceSub, Int.reduceToNat, Int.reduceEq, Int.reduceBEq, Int.reduceBNe, Int.reduceLT, Int.reduceLE, if_true, if_false, Bool.false_eq_true, decide_true, decide_false, List.zipIdx_nil, bne_self_eq_false]
    repeat' (first | ((first | (with_reducible refine split_condE (fun _ _ _ => ?_) (fun _ _ _ => ?_)) | (with_reducible refine split_guardE (fun _ _ _ => ?_) (fun _ _ _ => ?_))) <;> (rename_i h h2 h3; simp only [h, h2, h3, hw, ih, e1, e2, e3, e4, wx, I, exec, resOf, reduceIte, reduceCtorEq, ne_eq, not_false_eq_true, Root.bx.injEq, Root.tm.injEq, Nat.reduceAdd, Nat.reduceBEq, Nat.reduceBNe, Nat.reduceEqDiff, Nat.reduceLT, Nat.reduceLeDiff, Nat.reduceMul, Nat.reduceSub, Int.reduceToNat, Int.reduceEq, Int.reduceBEq, Int.reduceBNe, Int.reduceLT, Int.reduceLE, if_true, if_false, Bool.false_eq_true, decide_true, decide_false, List.zipIdx_nil, bne_self_eq_false])) | ((first | (with_reducible refine split_condN (fun _ => ?_) (fun _ => ?_)) | (with_reducible refine split_condA (fun _ => ?_) (fun _ => ?_)) | (with_reducible refine split_condO (fun _ => ?_) (fun _ => ?_)) | (with_reducible refine split_cond (fun _ => ?_) (fun _ => ?_)) | (with_reducible refine split_guardN (fun _ => ?_) (fun _ => ?_)) | (with_reducible refine split_guardA (fun _ => ?_) (fun _ => ?_)) | (with_reducible refine split_guardO (fun _ => ?_) (fun _ => ?_)) | (with_reducible refine split_guard (fun _ => ?_) (fun _ => ?_))) <;> (rename_i h; simp only [h, hw, ih, e1, e2, e3, e4, wx, I, exec, resOf, reduceIte, reduceCtorEq, ne_eq, not_false_eq_true, Root.bx.injEq, Root.tm.injEq, Nat.reduceAdd, Nat.reduceBEq, Nat.reduceBNe, Nat.reduceEqDiff, Nat.reduceLT, Nat.reduceLeDiff, Nat.reduceMul, Nat.reduceSub, Int.reduceToNat, Int.reduceEq, Int.reduceBEq, Int.reduceBNe, Int.reduceLT, Int.reduceLE, if_true, if_false, Bool.false_eq_true, decide_true, decide_false, List.zipIdx_nil, bne_self_eq_false])))

theorem pc_IsName (s : ByteArray) (hs : s.size ≤ 1000) : pc E 131 [.str s] = some (.bool (isName s)) := by
  refine pc_code (mf := f131) rfl ?_
  rw [runF_U rfl]
  have hlp := fun t k => loop131 s (by omega) (t := t) (k := k) s.size 0 (by omega)
  simp only [List.drop_zero, Int.cast_ofNat_Int] at hlp
  have e1 : decide ((s.size : Int) < 1) = !decide (1 ≤ (s.size : Int)) := by by_cases h : (s.size : Int) < 1 <;> simp [h, Int.not_le.2, Int.not_lt.1] <;> omega
  have e2 : decide ((s.size : Int) > 12) = !decide ((s.size : Int) ≤ 12) := by by_cases h : (s.size : Int) > 12 <;> simp [h, Int.not_le.2, Int.not_lt.1] <;> omega
  simp only [f131, e1, e2, isName, inR, wx, I, exec, resOf, reduceIte, reduceCtorEq, ne_eq, not_false_eq_true, Root.bx.injEq, Root.tm.injEq, Nat.reduceAdd, Nat.reduceBEq, Nat.reduceBNe, Nat.reduceEqDiff, Nat.reduceLT, Nat.reduceLeDiff, Nat.reduceMul, Nat.reduceSub, Int.reduceToNat, Int.reduceEq, Int.reduceBEq, Int.reduceBNe, Int.reduceLT, Int.reduceLE, if_true, if_false, Bool.false_eq_true, decide_true, decide_false, List.zipIdx_nil, bne_self_eq_false]
  repeat' (first | ((first | (with_reducible refine split_condE (fun _ _ _ => ?_) (fun _ _ _ => ?_)) | (with_reducible refine split_guardE (fun _ _ _ => ?_) (fun _ _ _ => ?_))) <;> (rename_i h h2 h3; simp only [h, h2, h3, hlp, e2, wx, I, exec, resOf, reduceIte, reduceCtorEq, ne_eq, not_false_eq_true, Root.bx.injEq, Root.tm.injEq, Nat.reduceAdd, Nat.reduceBEq, Nat.reduceBNe, Nat.reduceEqDiff, Nat.reduceLT, Nat.reduceLeDiff, Nat.reduceMul, Nat.reduceSub, Int.reduceToNat, Int.reduceEq, Int.reduceBEq, Int.reduceBNe, Int.reduceLT, Int.reduceLE, if_true, if_false, Bool.false_eq_true, decide_true, decide_false, List.zipIdx_nil, bne_self_eq_false])) | ((first | (with_reducible refine split_condN (fun _ => ?_) (fun _ => ?_)) | (with_reducible refine split_condA (fun _ => ?_) (fun _ => ?_)) | (with_reducible refine split_condO (fun _ => ?_) (fun _ => ?_)) | (with_reducible refine split_cond (fun _ => ?_) (fun _ => ?_)) | (with_reducible refine split_guardN (fun _ => ?_) (fun _ => ?_)) | (with_reducible refine split_guardA (fun _ => ?_) (fun _ => ?_)) | (with_reducible refine split_guardO (fun _ => ?_) (fun _ => ?_)) | (with_reducible refine split_guard (fun _ => ?_) (fun _ => ?_))) <;> (rename_i h; simp only [h, hlp, e2, wx, I, exec, resOf, reduceIte, reduceCtorEq, ne_eq, not_false_eq_true, Root.bx.injEq, Root.tm.injEq, Nat.reduceAdd, Nat.reduceBEq, Nat.reduceBNe, Nat.reduceEqDiff, Nat.reduceLT, Nat.reduceLeDiff, Nat.reduceMul, Nat.reduceSub, Int.reduceToNat, Int.reduceEq, Int.reduceBEq, Int.reduceBNe, Int.reduceLT, Int.reduceLE, if_true, if_false, Bool.false_eq_true, decide_true, decide_false, List.zipIdx_nil, bne_self_eq_false])))
  all_goals cases h2 : nameOK s.data.toList 0 <;> simp only [wx, I, exec, resOf, reduceIte, reduceCtorEq, ne_eq, not_false_eq_true, Root.bx.injEq, Root.tm.injEq, Nat.reduceAdd, Nat.reduceBEq, Nat.reduceBNe, Nat.reduceEqDiff, Nat.reduceLT, Nat.reduceLeDiff, Nat.reduceMul, Nat.reduceSub, Int.reduceToNat, Int.reduceEq, Int.reduceBEq, Int.reduceBNe, Int.reduceLT, Int.reduceLE, if_true, if_false, Bool.false_eq_true, decide_true, decide_false, List.zipIdx_nil, bne_self_eq_false]

/-! ### strings among strings -/
abbrev strs (l : List ByteArray) : List (List V) := l.map fun s => [V.str s]

def firstB (p : ByteArray → Bool) : List ByteArray → Nat → Int
  | [], _ => -1
  | x :: l, i => if p x then i else firstB p l (i + 1)

theorem firstB_neg (p : ByteArray → Bool) : ∀ (l : List ByteArray) (i : Nat), (0 ≤ firstB p l i ↔ l.any p = true) ∧ (firstB p l i < 0 ↔ l.any p = false)
  | [], _ => by simp [firstB]
  | x :: l, i => by
    have ih := firstB_neg p l (i + 1)
    simp only [firstB, List.any_cons]
    cases hpx : p x
    · simp only [Bool.false_eq_true, if_false, Bool.false_or]; exact ih
    · simp only [if_true, Bool.true_or]; constructor <;> constructor <;> intro h <;> first | trivial | rfl | omega | cases h

theorem loop127 {v : ByteArray} (xs : List ByteArray) (hl : xs.length < 9223372036854775807) {t : List Todo} {k : Ex → St → Option V} :
    ∀ (m i : Nat), i + m = xs.length → U (pc E) (.c (.loop f127l0) :: t) .normal ⟨[(0, .sl .s 1 (strs xs)), (1, .str v), (7, I xs.length), (8, I i)], []⟩ k =
      if firstB (fun x => v.toList == x.toList) (xs.drop i) i = -1 then U (pc E) t (.exit 0) ⟨[], []⟩ k else k .ret ⟨[(4, I (firstB (fun x => v.toList == x.toList) (xs.drop i) i))], []⟩
  | 0, i, hm => by
    rw [U_loop' f127l0.eq_1]
    have h0 : ¬ ((i : Int) < (xs.length : Int)) := by omega
    simp only [strs, h0, wx, I, exec, resOf, reduceIte, reduceCtorEq, ne_eq, not_false_eq_true, Root.bx.injEq, Root.tm.injEq, Nat.reduceAdd, Nat.reduceBEq, Nat.reduceBNe, Nat.reduceEqDiff, Nat.reduceLT, Nat.reduceLeDiff, Nat.reduceMul, Nat.reduceSub, Int.reduceToNat, Int.reduceEq, Int.reduceBEq, Int.reduceBNe, Int.reduceLT, Int.reduceLE, if_true, if_false, Bool.false_eq_true, decide_true, decide_false, List.zipIdx_nil, bne_self_eq_false]
    rw [List.drop_eq_nil_of_le (by omega)]
    simp only [firstB, if_true]
  | m + 1, i, hm => by
    rw [U_loop' f127l0.eq_1]
    have h0 : ((i : Int) < (xs.length : Int)) := by omega
    have hx : xs[i]? = some xs[i] := List.getElem?_eq_getElem (by omega)
    have hd : xs.drop i = xs[i] :: xs.drop (i + 1) := List.drop_eq_getElem_cons (by omega)
    have ih := loop127 (v := v) xs hl (t := t) (k := k) m (i + 1) (by omega)
    simp only [strs] at ih
    rw [hd]
    have hi : ¬ ((i : Int) = -1) := by omega
    have hw := wrap_succ (i := i) (by omega)
    simp only [strs, h0, hx, sbin, firstB, wx, I, exec, resOf, reduceIte, reduceCtorEq, ne_eq, not_false_eq_true, Root.bx.injEq, Root.tm.injEq, Nat.reduceAdd, Nat.reduceBEq, Nat.reduceBNe, Nat.reduceEqDiff, Nat.reduceLT, Nat.reduceLeDiff, Nat.reduceMul, Nat.reduceSub, Int.reduceToNat, Int.reduceEq, Int.reduceBEq, Int.reduceBNe, Int.reduceLT, Int.reduceLE, if_true, if_false, Bool.false_eq_true, decide_true, decide_false, List.zipIdx_nil, bne_self_eq_false]
    repeat' (first | ((first | (with_reducible refine split_condE (fun _ _ _ => ?_) (fun _ _ _ => ?_)) | (with_reducible refine split_guardE (fun _ _ _ => ?_) (fun _ _ _ => ?_))) <;> (rename_i h h2 h3; simp only [h, h2, h3, hi, hw, ih, wx, I, exec, resOf, reduceIte, reduceCtorEq, ne_eq, not_false_eq_true, Root.bx.injEq, Root.tm.injEq, Nat.reduceAdd, Nat.reduceBEq, Nat.reduceBNe, Nat.reduceEqDiff, Nat.reduceLT, Nat.reduceLeDiff, Nat.reduceMul, Nat.reduceSub, Int.reduceToNat, Int.reduceEq, Int.reduceBEq, Int.reduceBNe, Int.reduceLT, Int.reduceLE, if_true, if_false, Bool.false_eq_true, decide_true, decide_false, List.zipIdx_nil, bne_self_eq_false])) | ((first | (with_reducible refine split_condN (fun _ => ?_) (fun _ => ?_)) | (with_reducible refine split_condA (fun _ => ?_) (fun _ => ?_)) | (with_reducible refine split_condO (fun _ => ?_) (fun _ => ?_)) | (with_reducible refine split_cond (fun _ => ?_) (fun _ => ?_)) | (with_reducible refine split_guardN (fun _ => ?_) (fun _ => ?_)) | (with_reducible refine split_guardA (fun _ => ?_) (fun _ => ?_)) | (with_reducible refine split_guardO (fun _ => ?_) (fun _ => ?_)) | (with_reducible refine split_guard (fun _ => ?_) (fun _ => ?_))) <;> (rename_i h; simp only [h, hi, hw, ih, wx, I, exec, resOf, reduceIte, reduceCtorEq, ne_eq, not_false_eq_true, Root.bx.injEq, Root.tm.injEq, Nat.reduceAdd, Nat.reduceBEq, Nat.reduceBNe, Nat.reduceEqDiff, Nat.reduceLT, Nat.reduceLeDiff, Nat.reduceMul, Nat.reduceSub, Int.reduceToNat, Int.reduceEq, Int.reduceBEq, Int.reduceBNe, Int.reduceLT, Int.reduceLE, if_true, if_false, Bool.false_eq_true, decide_true, decide_false, List.zipIdx_nil, bne_self_eq_false])))

theorem pc_indexS (xs : List ByteArray) (hl : xs.length < 9223372036854775807) (v : ByteArray) :
    pc E 127 [.sl .s 1 (strs xs), .str v] = some (I (firstB (fun x => v.toList == x.toList) xs 0)) := by
  refine pc_code (mf := f127) rfl ?_
  rw [runF_U rfl]
  have h := fun t k => loop127 (v := v) xs hl (t := t) (k := k) xs.length 0 (by omega)
  simp only [strs, List.drop_zero, Int.cast_ofNat_Int] at h
  simp only [f127, strs, h, wx, I, exec, resOf, reduceIte, reduceCtorEq, ne_eq, not_false_eq_true, Root.bx.injEq, Root.tm.injEq, Nat.reduceAdd, Nat.reduceBEq, Nat.reduceBNe, Nat.reduceEqDiff, Nat.reduceLT, Nat.reduceLeDiff, Nat.reduceMul, Nat.reduceSub, Int.reduceToNat, Int.reduceEq, Int.reduceBEq, Int.reduceBNe, Int.reduceLT, Int.reduceLE, if_true, if_false, Bool.false_eq_true, decide_true, decide_false, List.zipIdx_nil, bne_self_eq_false]
  split <;> simp_all only [wx, I, exec, resOf, reduceIte, reduceCtorEq, ne_eq, not_false_eq_true, Root.bx.injEq, Root.tm.injEq, Nat.reduceAdd, Nat.reduceBEq, Nat.reduceBNe, Nat.reduceEqDiff, Nat.reduceLT, Nat.reduceLeDiff, Nat.reduceMul, Nat.reduceSub, Int.reduceToNat, Int.reduceEq, Int.reduceBEq, Int.reduceBNe, Int.reduceLT, Int.reduceLE, if_true, if_false, Bool.false_eq_true, decide_true, decide_false, List.zipIdx_nil, bne_self_eq_false]

/-- Is a string among some? -/
def hasB (xs : List ByteArray) (v : ByteArray) : Bool := xs.any fun x => v.toList == x.toList

theorem pc_containsS (xs : List ByteArray) (hl : xs.length < 9223372036854775807) (v : ByteArray) : pc E 101 [.sl .s 1 (strs xs), .str v] = some (.bool (hasB xs v)) := by
  refine pc_code (mf := f101) rfl ?_
  rw [runF_U rfl]
  have h := pc_indexS xs hl v
  simp only [f101, h, wx, I, exec, resOf, reduceIte, reduceCtorEq, ne_eq, not_false_eq_true, Root.bx.injEq, Root.tm.injEq, Nat.reduceAdd, Nat.reduceBEq, Nat.reduceBNe, Nat.reduceEqDiff, Nat.reduceLT, Nat.reduceLeDiff, Nat.reduceMul, Nat.reduceSub, Int.reduceToNat, Int.reduceEq, Int.reduceBEq, Int.reduceBNe, Int.reduceLT, Int.reduceLE, if_true, if_false, Bool.false_eq_true, decide_true, decide_false, List.zipIdx_nil, bne_self_eq_false]
  have h2 := firstB_neg (fun x => v.toList == x.toList) xs 0
  unfold hasB
  cases h3 : xs.any (fun x => v.toList == x.toList)
  · have : ¬ firstB (fun x => v.toList == x.toList) xs 0 ≥ 0 := by have := h2.2.2 h3; omega
    simp [this]
  · have : firstB (fun x => v.toList == x.toList) xs 0 ≥ 0 := h2.1.2 h3
    simp [this]

theorem loop132 {v : ByteArray} (xs : List ByteArray) (hl : xs.length < 9223372036854775807) {t : List Todo} {k : Ex → St → Option V} :
    ∀ (m i : Nat), i + m = xs.length → U (pc E) (.c (.loop f132l0) :: t) .normal ⟨[(0, .sl .s 1 (strs xs)), (1, .str v), (5, I i)], []⟩ k =
      if hasB (xs.drop i) v then k .ret ⟨[(4, .bool true)], []⟩ else U (pc E) t (.exit 0) ⟨[], []⟩ k
  | 0, i, hm => by
    rw [U_loop' f132l0.eq_1]
    have h0 : ¬ ((i : Int) < (xs.length : Int)) := by omega
    simp only [strs, h0, wx, I, exec, resOf, reduceIte, reduceCtorEq, ne_eq, not_false_eq_true, Root.bx.injEq, Root.tm.injEq, Nat.reduceAdd, Nat.reduceBEq, Nat.reduceBNe, Nat.reduceEqDiff, Nat.reduceLT, Nat.reduceLeDiff, Nat.reduceMul, Nat.reduceSub, Int.reduceToNat, Int.reduceEq, Int.reduceBEq, Int.reduceBNe, Int.reduceLT, Int.reduceLE, if_true, if_false, Bool.false_eq_true, decide_true, decide_false, List.zipIdx_nil, bne_self_eq_false]
    rw [List.drop_eq_nil_of_le (by omega)]
    simp only [hasB, List.any_nil, Bool.false_eq_true, if_false]
  | m + 1, i, hm => by
    rw [U_loop' f132l0.eq_1]
    have h0 : ((i : Int) < (xs.length : Int)) := by omega
    have hx : xs[i]? = some xs[i] := List.getElem?_eq_getElem (by omega)
    have hd : xs.drop i = xs[i] :: xs.drop (i + 1) := List.drop_eq_getElem_cons (by omega)
    have ih := loop132 (v := v) xs hl (t := t) (k := k) m (i + 1) (by omega)
    simp only [strs, hasB] at ih
    rw [hd]
    have hb : ∀ a b : ByteArray, (a.toList == b.toList) = (b.toList == a.toList) := fun a b => by
      rw [Bool.eq_iff_iff]; simp only [beq_iff_eq]; exact eq_comm
    have hw := wrap_succ (i := i) (by omega)
    simp only [strs, h0, hx, sbin, hasB, hb v, List.any_cons, wx, I, exec, resOf, reduceIte, reduceCtorEq, ne_eq, not_false_eq_true, Root.bx.injEq, Root.tm.injEq, Nat.reduceAdd, Nat.reduceBEq, Nat.reduceBNe, Nat.reduceEqDiff, Nat.reduceLT, Nat.reduceLeDiff, Nat.reduceMul, Nat.reduceSub, Int.reduceToNat, Int.reduceEq, Int.reduceBEq, Int.reduceBNe, Int.reduceLT, Int.reduceLE, if_true, if_false, Bool.false_eq_true, decide_true, decide_false, List.zipIdx_nil, bne_self_eq_false]
    simp only [hb v] at ih
    repeat' (first | ((first | (with_reducible refine split_condE (fun _ _ _ => ?_) (fun _ _ _ => ?_)) | (with_reducible refine split_guardE (fun _ _ _ => ?_) (fun _ _ _ => ?_))) <;> (rename_i h h2 h3; simp only [h, h2, h3, hw, ih, wx, I, exec, resOf, reduceIte, reduceCtorEq, ne_eq, not_false_eq_true, Root.bx.injEq, Root.tm.injEq, Nat.reduceAdd, Nat.reduceBEq, Nat.reduceBNe, Nat.reduceEqDiff, Nat.reduceLT, Nat.reduceLeDiff, Nat.reduceMul, Nat.reduceSub, Int.reduceToNat, Int.reduceEq, Int.reduceBEq, Int.reduceBNe, Int.reduceLT, Int.reduceLE, if_true, if_false, Bool.false_eq_true, decide_true, decide_false, List.zipIdx_nil, bne_self_eq_false])) | ((first | (with_reducible refine split_condN (fun _ => ?_) (fun _ => ?_)) | (with_reducible refine split_condA (fun _ => ?_) (fun _ => ?_)) | (with_reducible refine split_condO (fun _ => ?_) (fun _ => ?_)) | (with_reducible refine split_cond (fun _ => ?_) (fun _ => ?_)) | (with_reducible refine split_guardN (fun _ => ?_) (fun _ => ?_)) | (with_reducible refine split_guardA (fun _ => ?_) (fun _ => ?_)) | (with_reducible refine split_guardO (fun _ => ?_) (fun _ => ?_)) | (with_reducible refine split_guard (fun _ => ?_) (fun _ => ?_))) <;> (rename_i h; simp only [h, hw, ih, wx, I, exec, resOf, reduceIte, reduceCtorEq, ne_eq, not_false_eq_true, Root.bx.injEq, Root.tm.injEq, Nat.reduceAdd, Nat.reduceBEq, Nat.reduceBNe, Nat.reduceEqDiff, Nat.reduceLT, Nat.reduceLeDiff, Nat.reduceMul, Nat.reduceSub, Int.reduceToNat, Int.reduceEq, Int.reduceBEq, Int.reduceBNe, Int.reduceLT, Int.reduceLE, if_true, if_false, Bool.false_eq_true, decide_true, decide_false, List.zipIdx_nil, bne_self_eq_false])))

theorem pc_HasText (xs : List ByteArray) (hl : xs.length < 9223372036854775807) (v : ByteArray) : pc E 132 [.sl .s 1 (strs xs), .str v] = some (.bool (hasB xs v)) := by
  refine pc_code (mf := f132) rfl ?_
  rw [runF_U rfl]
  have h := fun t k => loop132 (v := v) xs hl (t := t) (k := k) xs.length 0 (by omega)
  simp only [strs, List.drop_zero, Int.cast_ofNat_Int] at h
  simp only [f132, strs, h, wx, I, exec, resOf, reduceIte, reduceCtorEq, ne_eq, not_false_eq_true, Root.bx.injEq, Root.tm.injEq, Nat.reduceAdd, Nat.reduceBEq, Nat.reduceBNe, Nat.reduceEqDiff, Nat.reduceLT, Nat.reduceLeDiff, Nat.reduceMul, Nat.reduceSub, Int.reduceToNat, Int.reduceEq, Int.reduceBEq, Int.reduceBNe, Int.reduceLT, Int.reduceLE, if_true, if_false, Bool.false_eq_true, decide_true, decide_false, List.zipIdx_nil, bne_self_eq_false]
  cases hasB xs v <;> simp only [wx, I, exec, resOf, reduceIte, reduceCtorEq, ne_eq, not_false_eq_true, Root.bx.injEq, Root.tm.injEq, Nat.reduceAdd, Nat.reduceBEq, Nat.reduceBNe, Nat.reduceEqDiff, Nat.reduceLT, Nat.reduceLeDiff, Nat.reduceMul, Nat.reduceSub, Int.reduceToNat, Int.reduceEq, Int.reduceBEq, Int.reduceBNe, Int.reduceLT, Int.reduceLE, if_true, if_false, Bool.false_eq_true, decide_true, decide_false, List.zipIdx_nil, bne_self_eq_false]

theorem pc_nameErr (xs : List ByteArray) (hl : xs.length < 9223372036854775807) (v : ByteArray) (hs : v.size ≤ 1000) :
    pc E 108 [.str v, .sl .s 1 (strs xs)] = some (I (fst1 [unl (isName v) 4, unl (!hasB xs v) 5])) := by
  refine pc_code (mf := f108) rfl ?_
  rw [runF_U rfl]
  have hh := pc_HasText xs hl v
  simp only [strs] at hh
  simp only [f108, strs, pc_IsName v hs, hh, fst1, unl, wx, I, exec, resOf, reduceIte, reduceCtorEq, ne_eq, not_false_eq_true, Root.bx.injEq, Root.tm.injEq, Nat.reduceAdd, Nat.reduceBEq, Nat.reduceBNe, Nat.reduceEqDiff, Nat.reduceLT, Nat.reduceLeDiff, Nat.reduceMul, Nat.reduceSub, Int.reduceToNat, Int.reduceEq, Int.reduceBEq, Int.reduceBNe, Int.reduceLT, Int.reduceLE, if_true, if_false, Bool.false_eq_true, decide_true, decide_false, List.zipIdx_nil, bne_self_eq_false]
  repeat' (first | ((first | (with_reducible refine split_condE (fun _ _ _ => ?_) (fun _ _ _ => ?_)) | (with_reducible refine split_guardE (fun _ _ _ => ?_) (fun _ _ _ => ?_))) <;> (rename_i h h2 h3; simp only [h, h2, h3, hh, wx, I, exec, resOf, reduceIte, reduceCtorEq, ne_eq, not_false_eq_true, Root.bx.injEq, Root.tm.injEq, Nat.reduceAdd, Nat.reduceBEq, Nat.reduceBNe, Nat.reduceEqDiff, Nat.reduceLT, Nat.reduceLeDiff, Nat.reduceMul, Nat.reduceSub, Int.reduceToNat, Int.reduceEq, Int.reduceBEq, Int.reduceBNe, Int.reduceLT, Int.reduceLE, if_true, if_false, Bool.false_eq_true, decide_true, decide_false, List.zipIdx_nil, bne_self_eq_false])) | ((first | (with_reducible refine split_condN (fun _ => ?_) (fun _ => ?_)) | (with_reducible refine split_condA (fun _ => ?_) (fun _ => ?_)) | (with_reducible refine split_condO (fun _ => ?_) (fun _ => ?_)) | (with_reducible refine split_cond (fun _ => ?_) (fun _ => ?_)) | (with_reducible refine split_guardN (fun _ => ?_) (fun _ => ?_)) | (with_reducible refine split_guardA (fun _ => ?_) (fun _ => ?_)) | (with_reducible refine split_guardO (fun _ => ?_) (fun _ => ?_)) | (with_reducible refine split_guard (fun _ => ?_) (fun _ => ?_))) <;> (rename_i h; simp only [h, hh, wx, I, exec, resOf, reduceIte, reduceCtorEq, ne_eq, not_false_eq_true, Root.bx.injEq, Root.tm.injEq, Nat.reduceAdd, Nat.reduceBEq, Nat.reduceBNe, Nat.reduceEqDiff, Nat.reduceLT, Nat.reduceLeDiff, Nat.reduceMul, Nat.reduceSub, Int.reduceToNat, Int.reduceEq, Int.reduceBEq, Int.reduceBNe, Int.reduceLT, Int.reduceLE, if_true, if_false, Bool.false_eq_true, decide_true, decide_false, List.zipIdx_nil, bne_self_eq_false])))

end Go.ViD
end
section
/- Plans: what they are, their limits, the copy, sets and indexes. -/
set_option linter.unusedSimpArgs false
set_option linter.unusedVariables false
namespace Go.ViD
open Go.Vi

structure Step where
  name : ByteArray
  safe : Bool
  needs : Int
  trip : Int
  wait : Int
  home : Int
  exits : List Int
  on : Int
  off : Int
  makesOn : Int
  makesOff : Int
  time : Int
  next : Int
  back : Int

structure Plan where
  signals : List ByteArray
  start : Int
  steps : List Step

abbrev cStep (s : Step) : List V := [.str s.name, .bool s.safe, I s.needs, I s.trip, I s.wait, I s.home, .sl .s 1 (ints s.exits), I s.on, I s.off, I s.makesOn, I s.makesOff, I s.time, I s.next, I s.back]
abbrev cSteps (l : List Step) : List (List V) := l.map cStep
abbrev cPlan (p : Plan) : List V := [.sl .s 1 (strs p.signals), I p.start, .sl .s 14 (cSteps p.steps)]

def fewB (l : List ByteArray) : Bool := l.all fun s => decide (s.size ≤ 30)
def fewS (l : List Step) : Bool := l.all fun s => decide (s.name.size ≤ 30) && decide (s.exits.length ≤ 12)
theorem fewB_nil : fewB [] = true := by simp only [fewB, List.all_nil]
theorem fewB_cons (x : ByteArray) (l : List ByteArray) : fewB (x :: l) = (decide (x.size ≤ 30) && fewB l) := by simp only [fewB, List.all_cons]
theorem fewS_nil : fewS [] = true := by simp only [fewS, List.all_nil]
theorem fewS_cons (x : Step) (l : List Step) : fewS (x :: l) = (decide (x.name.size ≤ 30) && decide (x.exits.length ≤ 12) && fewS l) := by simp only [fewS, List.all_cons]
def few (p : Plan) : Bool := decide (p.signals.length ≤ 7) && decide (p.steps.length ≤ 12) && fewB p.signals && fewS p.steps

theorem loop15a (p : Plan) (hl : p.signals.length < 9223372036854775807) {t : List Todo} {k : Ex → St → Option V} :
    ∀ (m i : Nat), i + m = p.signals.length → U (pc E) (.c (.loop f15l0) :: t) .normal ⟨[(1, .loc 1 0), (3, I i)], [(1, false, cPlan p)]⟩ k =
      if fewB (p.signals.drop i) then U (pc E) t (.exit 0) ⟨[(1, .loc 1 0)], [(1, false, cPlan p)]⟩ k else k .ret ⟨[(2, .bool false)], []⟩
  | 0, i, hm => by
    rw [U_loop' f15l0.eq_1]
    have h0 : ¬ ((i : Int) < (p.signals.length : Int)) := by omega
    simp only [strs, h0, wx, I, exec, resOf, reduceIte, reduceCtorEq, ne_eq, not_false_eq_true, Root.bx.injEq, Root.tm.injEq, Nat.reduceAdd, Nat.reduceBEq, Nat.reduceBNe, Nat.reduceEqDiff, Nat.reduceLT, Nat.reduceLeDiff, Nat.reduceMul, Nat.reduceSub, Int.reduceToNat, Int.reduceEq, Int.reduceBEq, Int.reduceBNe, Int.reduceLT, Int.reduceLE, if_true, if_false, Bool.false_eq_true, decide_true, decide_false, List.zipIdx_nil, bne_self_eq_false]
    rw [List.drop_eq_nil_of_le (by omega)]
    simp only [fewB_nil, if_true]
  | m + 1, i, hm => by
    rw [U_loop' f15l0.eq_1]
    have h0 : ((i : Int) < (p.signals.length : Int)) := by omega
    have hx : p.signals[i]? = some p.signals[i] := List.getElem?_eq_getElem (by omega)
    have hd : p.signals.drop i = p.signals[i] :: p.signals.drop (i + 1) := List.drop_eq_getElem_cons (by omega)
    have ih := loop15a p hl (t := t) (k := k) m (i + 1) (by omega)
    rw [hd]
    have hw := wrap_succ (i := i) (by omega)
    generalize p.signals[i] = x at hx ⊢
    have e1 : decide ((x.size : Int) > 30) = !decide (x.size ≤ 30) := by by_cases h : (x.size : Int) > 30 <;> simp [h] <;> omega
    simp only [strs, h0, hx, e1, fewB_cons, wx, I, exec, resOf, reduceIte, reduceCtorEq, ne_eq, not_false_eq_true, Root.bx.injEq, Root.tm.injEq, Nat.reduceAdd, Nat.reduceBEq, Nat.reduceBNe, Nat.reduceEqDiff, Nat.reduceLT, Nat.reduceLeDiff, Nat.reduceMul, Nat.reduceSub, Int.reduceToNat, Int.reduceEq, Int.reduceBEq, Int.reduceBNe, Int.reduceLT, Int.reduceLE, if_true, if_false, Bool.false_eq_true, decide_true, decide_false, List.zipIdx_nil, bne_self_eq_false]
    repeat' (first | ((first | (with_reducible refine split_condE (fun _ _ _ => ?_) (fun _ _ _ => ?_)) | (with_reducible refine split_guardE (fun _ _ _ => ?_) (fun _ _ _ => ?_))) <;> (rename_i h h2 h3; simp only [h, h2, h3, hw, ih, wx, I, exec, resOf, reduceIte, reduceCtorEq, ne_eq, not_false_eq_true, Root.bx.injEq, Root.tm.injEq, Nat.reduceAdd, Nat.reduceBEq, Nat.reduceBNe, Nat.reduceEqDiff, Nat.reduceLT, Nat.reduceLeDiff, Nat.reduceMul, Nat.reduceSub, Int.reduceToNat, Int.reduceEq, Int.reduceBEq, Int.reduceBNe, Int.reduceLT, Int.reduceLE, if_true, if_false, Bool.false_eq_true, decide_true, decide_false, List.zipIdx_nil, bne_self_eq_false])) | ((first | (with_reducible refine split_condN (fun _ => ?_) (fun _ => ?_)) | (with_reducible refine split_condA (fun _ => ?_) (fun _ => ?_)) | (with_reducible refine split_condO (fun _ => ?_) (fun _ => ?_)) | (with_reducible refine split_cond (fun _ => ?_) (fun _ => ?_)) | (with_reducible refine split_guardN (fun _ => ?_) (fun _ => ?_)) | (with_reducible refine split_guardA (fun _ => ?_) (fun _ => ?_)) | (with_reducible refine split_guardO (fun _ => ?_) (fun _ => ?_)) | (with_reducible refine split_guard (fun _ => ?_) (fun _ => ?_))) <;> (rename_i h; simp only [h, hw, ih, wx, I, exec, resOf, reduceIte, reduceCtorEq, ne_eq, not_false_eq_true, Root.bx.injEq, Root.tm.injEq, Nat.reduceAdd, Nat.reduceBEq, Nat.reduceBNe, Nat.reduceEqDiff, Nat.reduceLT, Nat.reduceLeDiff, Nat.reduceMul, Nat.reduceSub, Int.reduceToNat, Int.reduceEq, Int.reduceBEq, Int.reduceBNe, Int.reduceLT, Int.reduceLE, if_true, if_false, Bool.false_eq_true, decide_true, decide_false, List.zipIdx_nil, bne_self_eq_false])))

theorem loop15b (p : Plan) (hl : p.steps.length < 9223372036854775807) {t : List Todo} {k : Ex → St → Option V} :
    ∀ (m i : Nat), i + m = p.steps.length → U (pc E) (.c (.loop f15l1) :: t) .normal ⟨[(1, .loc 1 0), (4, I i)], [(1, false, cPlan p)]⟩ k =
      if fewS (p.steps.drop i) then U (pc E) t (.exit 2) ⟨[], []⟩ k else k .ret ⟨[(2, .bool false)], []⟩
  | 0, i, hm => by
    rw [U_loop' f15l1.eq_1]
    have h0 : ¬ ((i : Int) < (p.steps.length : Int)) := by omega
    simp only [cSteps, h0, wx, I, exec, resOf, reduceIte, reduceCtorEq, ne_eq, not_false_eq_true, Root.bx.injEq, Root.tm.injEq, Nat.reduceAdd, Nat.reduceBEq, Nat.reduceBNe, Nat.reduceEqDiff, Nat.reduceLT, Nat.reduceLeDiff, Nat.reduceMul, Nat.reduceSub, Int.reduceToNat, Int.reduceEq, Int.reduceBEq, Int.reduceBNe, Int.reduceLT, Int.reduceLE, if_true, if_false, Bool.false_eq_true, decide_true, decide_false, List.zipIdx_nil, bne_self_eq_false]
    rw [List.drop_eq_nil_of_le (by omega)]
    simp only [fewS_nil, if_true]
  | m + 1, i, hm => by
    rw [U_loop' f15l1.eq_1]
    have h0 : ((i : Int) < (p.steps.length : Int)) := by omega
    have hx : p.steps[i]? = some p.steps[i] := List.getElem?_eq_getElem (by omega)
    have hd : p.steps.drop i = p.steps[i] :: p.steps.drop (i + 1) := List.drop_eq_getElem_cons (by omega)
    have ih := loop15b p hl (t := t) (k := k) m (i + 1) (by omega)
    rw [hd]
    have hw := wrap_succ (i := i) (by omega)
    generalize p.steps[i] = x at hx ⊢
    have e1 : decide ((x.name.size : Int) > 30) = !decide (x.name.size ≤ 30) := by by_cases h : (x.name.size : Int) > 30 <;> simp [h] <;> omega
    have e2 : decide ((x.exits.length : Int) > 12) = !decide (x.exits.length ≤ 12) := by by_cases h : (x.exits.length : Int) > 12 <;> simp [h] <;> omega
    simp only [cSteps, h0, hx, e1, fewS_cons, cStep, wx, I, exec, resOf, reduceIte, reduceCtorEq, ne_eq, not_false_eq_true, Root.bx.injEq, Root.tm.injEq, Nat.reduceAdd, Nat.reduceBEq, Nat.reduceBNe, Nat.reduceEqDiff, Nat.reduceLT, Nat.reduceLeDiff, Nat.reduceMul, Nat.reduceSub, Int.reduceToNat, Int.reduceEq, Int.reduceBEq, Int.reduceBNe, Int.reduceLT, Int.reduceLE, if_true, if_false, Bool.false_eq_true, decide_true, decide_false, List.zipIdx_nil, bne_self_eq_false]
    repeat' (first | ((first | (with_reducible refine split_condE (fun _ _ _ => ?_) (fun _ _ _ => ?_)) | (with_reducible refine split_guardE (fun _ _ _ => ?_) (fun _ _ _ => ?_))) <;> (rename_i h h2 h3; simp only [h, h2, h3, hw, ih, e1, e2, hx, cStep, wx, I, exec, resOf, reduceIte, reduceCtorEq, ne_eq, not_false_eq_true, Root.bx.injEq, Root.tm.injEq, Nat.reduceAdd, Nat.reduceBEq, Nat.reduceBNe, Nat.reduceEqDiff, Nat.reduceLT, Nat.reduceLeDiff, Nat.reduceMul, Nat.reduceSub, Int.reduceToNat, Int.reduceEq, Int.reduceBEq, Int.reduceBNe, Int.reduceLT, Int.reduceLE, if_true, if_false, Bool.false_eq_true, decide_true, decide_false, List.zipIdx_nil, bne_self_eq_false])) | ((first | (with_reducible refine split_condN (fun _ => ?_) (fun _ => ?_)) | (with_reducible refine split_condA (fun _ => ?_) (fun _ => ?_)) | (with_reducible refine split_condO (fun _ => ?_) (fun _ => ?_)) | (with_reducible refine split_cond (fun _ => ?_) (fun _ => ?_)) | (with_reducible refine split_guardN (fun _ => ?_) (fun _ => ?_)) | (with_reducible refine split_guardA (fun _ => ?_) (fun _ => ?_)) | (with_reducible refine split_guardO (fun _ => ?_) (fun _ => ?_)) | (with_reducible refine split_guard (fun _ => ?_) (fun _ => ?_))) <;> (rename_i h; simp only [h, hw, ih, e1, e2, hx, cStep, wx, I, exec, resOf, reduceIte, reduceCtorEq, ne_eq, not_false_eq_true, Root.bx.injEq, Root.tm.injEq, Nat.reduceAdd, Nat.reduceBEq, Nat.reduceBNe, Nat.reduceEqDiff, Nat.reduceLT, Nat.reduceLeDiff, Nat.reduceMul, Nat.reduceSub, Int.reduceToNat, Int.reduceEq, Int.reduceBEq, Int.reduceBNe, Int.reduceLT, Int.reduceLE, if_true, if_false, Bool.false_eq_true, decide_true, decide_false, List.zipIdx_nil, bne_self_eq_false])))

theorem pc_few (p : Plan) : pc E 15 [.agg (cPlan p)] = some (.bool (few p)) := by
  refine pc_code (mf := f15) rfl ?_
  rw [runF_U rfl]
  have e1 : decide ((p.signals.length : Int) > 7) = !decide (p.signals.length ≤ 7) := by by_cases h : (p.signals.length : Int) > 7 <;> simp [h] <;> omega
  have e2 : decide ((p.steps.length : Int) > 12) = !decide (p.steps.length ≤ 12) := by by_cases h : (p.steps.length : Int) > 12 <;> simp [h] <;> omega
  simp only [f15, strs, cSteps, e1, few, wx, I, exec, resOf, reduceIte, reduceCtorEq, ne_eq, not_false_eq_true, Root.bx.injEq, Root.tm.injEq, Nat.reduceAdd, Nat.reduceBEq, Nat.reduceBNe, Nat.reduceEqDiff, Nat.reduceLT, Nat.reduceLeDiff, Nat.reduceMul, Nat.reduceSub, Int.reduceToNat, Int.reduceEq, Int.reduceBEq, Int.reduceBNe, Int.reduceLT, Int.reduceLE, if_true, if_false, Bool.false_eq_true, decide_true, decide_false, List.zipIdx_nil, bne_self_eq_false]
  by_cases h1 : p.signals.length ≤ 7
  · by_cases h2 : p.steps.length ≤ 12
    · have hl1 := fun t k => loop15a p (by omega) (t := t) (k := k) p.signals.length 0 (by omega)
      have hl2 := fun t k => loop15b p (by omega) (t := t) (k := k) p.steps.length 0 (by omega)
      simp only [List.drop_zero, Int.cast_ofNat_Int, strs, cSteps] at hl1 hl2
      simp only [h1, h2, e2, hl1, wx, I, exec, resOf, reduceIte, reduceCtorEq, ne_eq, not_false_eq_true, Root.bx.injEq, Root.tm.injEq, Nat.reduceAdd, Nat.reduceBEq, Nat.reduceBNe, Nat.reduceEqDiff, Nat.reduceLT, Nat.reduceLeDiff, Nat.reduceMul, Nat.reduceSub, Int.reduceToNat, Int.reduceEq, Int.reduceBEq, Int.reduceBNe, Int.reduceLT, Int.reduceLE, if_true, if_false, Bool.false_eq_true, decide_true, decide_false, List.zipIdx_nil, bne_self_eq_false]
      cases h3 : fewB p.signals
      · simp only [wx, I, exec, resOf, reduceIte, reduceCtorEq, ne_eq, not_false_eq_true, Root.bx.injEq, Root.tm.injEq, Nat.reduceAdd, Nat.reduceBEq, Nat.reduceBNe, Nat.reduceEqDiff, Nat.reduceLT, Nat.reduceLeDiff, Nat.reduceMul, Nat.reduceSub, Int.reduceToNat, Int.reduceEq, Int.reduceBEq, Int.reduceBNe, Int.reduceLT, Int.reduceLE, if_true, if_false, Bool.false_eq_true, decide_true, decide_false, List.zipIdx_nil, bne_self_eq_false]
      · simp only [hl2, wx, I, exec, resOf, reduceIte, reduceCtorEq, ne_eq, not_false_eq_true, Root.bx.injEq, Root.tm.injEq, Nat.reduceAdd, Nat.reduceBEq, Nat.reduceBNe, Nat.reduceEqDiff, Nat.reduceLT, Nat.reduceLeDiff, Nat.reduceMul, Nat.reduceSub, Int.reduceToNat, Int.reduceEq, Int.reduceBEq, Int.reduceBNe, Int.reduceLT, Int.reduceLE, if_true, if_false, Bool.false_eq_true, decide_true, decide_false, List.zipIdx_nil, bne_self_eq_false]
        cases h4 : fewS p.steps <;> simp only [wx, I, exec, resOf, reduceIte, reduceCtorEq, ne_eq, not_false_eq_true, Root.bx.injEq, Root.tm.injEq, Nat.reduceAdd, Nat.reduceBEq, Nat.reduceBNe, Nat.reduceEqDiff, Nat.reduceLT, Nat.reduceLeDiff, Nat.reduceMul, Nat.reduceSub, Int.reduceToNat, Int.reduceEq, Int.reduceBEq, Int.reduceBNe, Int.reduceLT, Int.reduceLE, if_true, if_false, Bool.false_eq_true, decide_true, decide_false, List.zipIdx_nil, bne_self_eq_false]
    · simp only [h1, h2, e2, wx, I, exec, resOf, reduceIte, reduceCtorEq, ne_eq, not_false_eq_true, Root.bx.injEq, Root.tm.injEq, Nat.reduceAdd, Nat.reduceBEq, Nat.reduceBNe, Nat.reduceEqDiff, Nat.reduceLT, Nat.reduceLeDiff, Nat.reduceMul, Nat.reduceSub, Int.reduceToNat, Int.reduceEq, Int.reduceBEq, Int.reduceBNe, Int.reduceLT, Int.reduceLE, if_true, if_false, Bool.false_eq_true, decide_true, decide_false, List.zipIdx_nil, bne_self_eq_false]
  · simp only [h1, wx, I, exec, resOf, reduceIte, reduceCtorEq, ne_eq, not_false_eq_true, Root.bx.injEq, Root.tm.injEq, Nat.reduceAdd, Nat.reduceBEq, Nat.reduceBNe, Nat.reduceEqDiff, Nat.reduceLT, Nat.reduceLeDiff, Nat.reduceMul, Nat.reduceSub, Int.reduceToNat, Int.reduceEq, Int.reduceBEq, Int.reduceBNe, Int.reduceLT, Int.reduceLE, if_true, if_false, Bool.false_eq_true, decide_true, decide_false, List.zipIdx_nil, bne_self_eq_false]

end Go.ViD
end
section
/- Plans: the copy. -/
set_option linter.unusedSimpArgs false
set_option linter.unusedVariables false
namespace Go.ViD
open Go.Vi

theorem strs_leaf (xs : List ByteArray) : ((strs xs).all fun y => y.all leaf) = true := by
  simp [strs, leaf]

theorem pc_copyTexts (xs : List ByteArray) (hl : xs.length ≤ 1000000) : pc E 75 [.sl .s 1 (strs xs)] = some (.sl .x 1 (strs xs)) := by
  refine pc_code (mf := f75) rfl ?_
  rw [runF_U rfl]
  have h1 := strs_leaf xs
  have h2 : room xs.length 16 = true := room_ok (by omega) (by omega)
  simp only [strs] at h1
  simp only [f75, strs, List.replicate, h1, h2, Nat.zero_le, wx, I, exec, resOf, reduceIte, reduceCtorEq, ne_eq, not_false_eq_true, Root.bx.injEq, Root.tm.injEq, Nat.reduceAdd, Nat.reduceBEq, Nat.reduceBNe, Nat.reduceEqDiff, Nat.reduceLT, Nat.reduceLeDiff, Nat.reduceMul, Nat.reduceSub, Int.reduceToNat, Int.reduceEq, Int.reduceBEq, Int.reduceBNe, Int.reduceLT, Int.reduceLE, if_true, if_false, Bool.false_eq_true, decide_true, decide_false, List.zipIdx_nil, bne_self_eq_false]

theorem loop19 (p : Plan) (hl : p.steps.length ≤ 1000) (he : ∀ s ∈ p.steps, s.exits.length ≤ 1000) {t : List Todo} {k : Ex → St → Option V} :
    ∀ (m i : Nat), i + m = p.steps.length → U (pc E) (.c (.loop f19l0) :: t) .normal ⟨[(1, .loc 1 0), (2, .loc 2 0), (3, .loc 3 0), (4, I i)], [(1, false, cPlan p), (2, false, [.sl .a 1 [], I 0, .sl .a 14 []]), (3, false, [.sl .s 1 (strs p.signals), I p.start, .sl .a 14 (cSteps (p.steps.take i))])]⟩ k =
      U (pc E) t (.exit 0) ⟨[(2, .loc 2 0), (3, .loc 3 0)], [(2, false, [.sl .a 1 [], I 0, .sl .a 14 []]), (3, false, [.sl .s 1 (strs p.signals), I p.start, .sl .a 14 (cSteps p.steps)])]⟩ k
  | 0, i, hm => by
    rw [U_loop' f19l0.eq_1]
    have h0 : ¬ ((i : Int) < (p.steps.length : Int)) := by omega
    simp only [cSteps, h0, wx, I, exec, resOf, reduceIte, reduceCtorEq, ne_eq, not_false_eq_true, Root.bx.injEq, Root.tm.injEq, Nat.reduceAdd, Nat.reduceBEq, Nat.reduceBNe, Nat.reduceEqDiff, Nat.reduceLT, Nat.reduceLeDiff, Nat.reduceMul, Nat.reduceSub, Int.reduceToNat, Int.reduceEq, Int.reduceBEq, Int.reduceBNe, Int.reduceLT, Int.reduceLE, if_true, if_false, Bool.false_eq_true, decide_true, decide_false, List.zipIdx_nil, bne_self_eq_false]
    rw [List.take_of_length_le (by omega)]
  | m + 1, i, hm => by
    rw [U_loop' f19l0.eq_1]
    have h0 : ((i : Int) < (p.steps.length : Int)) := by omega
    have hx : p.steps[i]? = some p.steps[i] := List.getElem?_eq_getElem (by omega)
    have hd : p.steps.take (i + 1) = p.steps.take i ++ [p.steps[i]] := List.take_succ_eq_append_getElem (by omega)
    have ih := loop19 p hl he (t := t) (k := k) m (i + 1) (by omega)
    have hxe := he p.steps[i] (List.getElem_mem _)
    rw [hd] at ih
    simp only [cSteps, List.map_append, List.map_cons, List.map_nil] at ih
    have hw := wrap_succ (i := i) (by omega)
    generalize p.steps[i] = x at hx ih hxe
    have hc := pc_copyInts x.exits (by omega)
    simp only [ints] at hc
    have hr : room (i + 1) 136 = true := room_ok (by omega) (by omega)
    have hlt : min i p.steps.length = i := by omega
    simp only [cSteps, h0, hx, hc, hw, ih, hr, hlt, cStep, List.replicate, List.set, List.length_take, wx, I, exec, resOf, reduceIte, reduceCtorEq, ne_eq, not_false_eq_true, Root.bx.injEq, Root.tm.injEq, Nat.reduceAdd, Nat.reduceBEq, Nat.reduceBNe, Nat.reduceEqDiff, Nat.reduceLT, Nat.reduceLeDiff, Nat.reduceMul, Nat.reduceSub, Int.reduceToNat, Int.reduceEq, Int.reduceBEq, Int.reduceBNe, Int.reduceLT, Int.reduceLE, if_true, if_false, Bool.false_eq_true, decide_true, decide_false, List.zipIdx_nil, bne_self_eq_false]

theorem fewS_get {l : List Step} (h : fewS l = true) : ∀ s ∈ l, s.name.size ≤ 30 ∧ s.exits.length ≤ 12 := by
  intro s hs
  simpa using List.all_eq_true.1 h s hs

theorem fewB_get {l : List ByteArray} (h : fewB l = true) : ∀ s ∈ l, s.size ≤ 30 := by
  intro s hs
  simpa using List.all_eq_true.1 h s hs

theorem few_get {p : Plan} (h : few p = true) : p.signals.length ≤ 7 ∧ p.steps.length ≤ 12 ∧ (∀ s ∈ p.signals, s.size ≤ 30) ∧ ∀ s ∈ p.steps, s.name.size ≤ 30 ∧ s.exits.length ≤ 12 := by
  simp only [few, Bool.and_eq_true, decide_eq_true_eq] at h
  exact ⟨h.1.1.1, h.1.1.2, fewB_get h.1.2, fewS_get h.2⟩

theorem pc_copy (p : Plan) (hp : few p = true) : pc E 19 [.agg (cPlan p)] = some (.agg (cPlan p)) := by
  obtain ⟨h1, h2, -, h4⟩ := few_get hp
  refine pc_code (mf := f19) rfl ?_
  rw [runF_U rfl]
  have hl := fun t k => loop19 p (by omega) (fun s hs => by have := (h4 s hs).2; omega) (t := t) (k := k) p.steps.length 0 (by omega)
  simp only [List.take_zero, Int.cast_ofNat_Int, strs, cSteps, List.map_nil] at hl
  have hc := pc_copyTexts p.signals (by omega)
  simp only [strs] at hc
  simp only [f19, strs, cSteps, hc, hl, List.replicate, List.set, wx, I, exec, resOf, reduceIte, reduceCtorEq, ne_eq, not_false_eq_true, Root.bx.injEq, Root.tm.injEq, Nat.reduceAdd, Nat.reduceBEq, Nat.reduceBNe, Nat.reduceEqDiff, Nat.reduceLT, Nat.reduceLeDiff, Nat.reduceMul, Nat.reduceSub, Int.reduceToNat, Int.reduceEq, Int.reduceBEq, Int.reduceBNe, Int.reduceLT, Int.reduceLE, if_true, if_false, Bool.false_eq_true, decide_true, decide_false, List.zipIdx_nil, bne_self_eq_false]

theorem sh1 {n : Nat} (h : n ≤ 60) : IntKind.i64.wrap (1 * 2 ^ n) = ((2 ^ n : Nat) : Int) := by
  have hlt : 2 ^ n ≤ 2 ^ 60 := Nat.pow_le_pow_right (by omega) h
  have hp := Nat.two_pow_pos n
  rw [show (1 * 2 ^ n : Int) = ((2 ^ n : Nat) : Int) by simp]
  generalize 2 ^ n = x at hlt hp ⊢
  rw [wrap_id (by omega) (by omega)]
theorem sh2 {n : Nat} (h : n ≤ 60) : IntKind.i64.wrap (((2 ^ n : Nat) : Int) - 1) = ((2 ^ n : Nat) : Int) - 1 := by
  have hlt : 2 ^ n ≤ 2 ^ 60 := Nat.pow_le_pow_right (by omega) h
  have hp := Nat.two_pow_pos n
  generalize 2 ^ n = x at hlt hp ⊢
  rw [wrap_id (by omega) (by omega)]

theorem sets_eq (p : Plan) (h : p.signals.length ≤ 60) : pc E 82 [.agg (cPlan p)] = some (I (2 ^ p.signals.length : Nat)) := by
  refine pc_code (mf := f82) rfl ?_
  rw [runF_U rfl]
  have e1 : min p.signals.length 64 = p.signals.length := by omega
  have e2 := sh1 h
  simp only [f82, strs, e1, e2, IntKind.bits, wx, I, exec, resOf, reduceIte, reduceCtorEq, ne_eq, not_false_eq_true, Root.bx.injEq, Root.tm.injEq, Nat.reduceAdd, Nat.reduceBEq, Nat.reduceBNe, Nat.reduceEqDiff, Nat.reduceLT, Nat.reduceLeDiff, Nat.reduceMul, Nat.reduceSub, Int.reduceToNat, Int.reduceEq, Int.reduceBEq, Int.reduceBNe, Int.reduceLT, Int.reduceLE, if_true, if_false, Bool.false_eq_true, decide_true, decide_false, List.zipIdx_nil, bne_self_eq_false]

/-- The number of sets of a plan's signals, less one. -/
def top (p : Plan) : Int := ((2 ^ p.signals.length : Nat) : Int) - 1

theorem top_pos (p : Plan) : 0 ≤ top p := by
  have := Nat.two_pow_pos p.signals.length
  unfold top
  generalize 2 ^ p.signals.length = x at this ⊢
  omega

theorem top_lt (p : Plan) (h : p.signals.length ≤ 60) : top p < 2 ^ 60 := by
  have hlt : 2 ^ p.signals.length ≤ 2 ^ 60 := Nat.pow_le_pow_right (by omega) h
  unfold top
  generalize 2 ^ p.signals.length = x at hlt ⊢
  omega

theorem top_eq (p : Plan) : ((2 ^ p.signals.length : Nat) : Int) = top p + 1 := by unfold top; omega

theorem fst1_map {f : Int → Int} {q : Int → Bool} {e : Int} (hf : ∀ n, f n = unl (q n) e) : ∀ l : List Int, fst1 (l.map f) = unl (!l.any fun n => !q n) e
  | [] => by simp [fst1, unl]
  | n :: l => by
    have ih := fst1_map hf l
    simp only [List.map_cons, fst1, List.any_cons, hf, ih, unl]
    rcases Bool.eq_false_or_eq_true (q n) with h | h
    · simp only [h, if_true, Bool.not_true, Bool.false_or]
    · simp only [h, Bool.false_eq_true, if_false, Bool.not_false, Bool.true_or, Bool.not_true]
      by_cases he : e = 0 <;> simp [he]

def setE (p : Plan) (n : Int) : Int := unl (inR n 0 (top p)) 2
def idxE (p : Plan) (n : Int) : Int := unl (inR n 0 ((p.steps.length : Int) - 1)) 6

theorem pc_setErrR (p : Plan) (h : p.signals.length ≤ 60) (n : Int) : pc E 99 [.agg (cPlan p), I n] = some (I (setE p n)) := by
  refine pc_code (mf := f99) rfl ?_
  rw [runF_U rfl]
  have e2 : IntKind.i64.wrap (((2 ^ p.signals.length : Nat) : Int) - 1) = top p := sh2 h
  have hs := sets_eq p h
  simp only [f99, hs, e2, pc_Within, setE, unl, wx, I, exec, resOf, reduceIte, reduceCtorEq, ne_eq, not_false_eq_true, Root.bx.injEq, Root.tm.injEq, Nat.reduceAdd, Nat.reduceBEq, Nat.reduceBNe, Nat.reduceEqDiff, Nat.reduceLT, Nat.reduceLeDiff, Nat.reduceMul, Nat.reduceSub, Int.reduceToNat, Int.reduceEq, Int.reduceBEq, Int.reduceBNe, Int.reduceLT, Int.reduceLE, if_true, if_false, Bool.false_eq_true, decide_true, decide_false, List.zipIdx_nil, bne_self_eq_false]
  repeat' (first | ((first | (with_reducible refine split_condE (fun _ _ _ => ?_) (fun _ _ _ => ?_)) | (with_reducible refine split_guardE (fun _ _ _ => ?_) (fun _ _ _ => ?_))) <;> (rename_i h h2 h3; simp only [h, h2, h3, wx, I, exec, resOf, reduceIte, reduceCtorEq, ne_eq, not_false_eq_true, Root.bx.injEq, Root.tm.injEq, Nat.reduceAdd, Nat.reduceBEq, Nat.reduceBNe, Nat.reduceEqDiff, Nat.reduceLT, Nat.reduceLeDiff, Nat.reduceMul, Nat.reduceSub, Int.reduceToNat, Int.reduceEq, Int.reduceBEq, Int.reduceBNe, Int.reduceLT, Int.reduceLE, if_true, if_false, Bool.false_eq_true, decide_true, decide_false, List.zipIdx_nil, bne_self_eq_false])) | ((first | (with_reducible refine split_condN (fun _ => ?_) (fun _ => ?_)) | (with_reducible refine split_condA (fun _ => ?_) (fun _ => ?_)) | (with_reducible refine split_condO (fun _ => ?_) (fun _ => ?_)) | (with_reducible refine split_cond (fun _ => ?_) (fun _ => ?_)) | (with_reducible refine split_guardN (fun _ => ?_) (fun _ => ?_)) | (with_reducible refine split_guardA (fun _ => ?_) (fun _ => ?_)) | (with_reducible refine split_guardO (fun _ => ?_) (fun _ => ?_)) | (with_reducible refine split_guard (fun _ => ?_) (fun _ => ?_))) <;> (rename_i h; simp only [h, wx, I, exec, resOf, reduceIte, reduceCtorEq, ne_eq, not_false_eq_true, Root.bx.injEq, Root.tm.injEq, Nat.reduceAdd, Nat.reduceBEq, Nat.reduceBNe, Nat.reduceEqDiff, Nat.reduceLT, Nat.reduceLeDiff, Nat.reduceMul, Nat.reduceSub, Int.reduceToNat, Int.reduceEq, Int.reduceBEq, Int.reduceBNe, Int.reduceLT, Int.reduceLE, if_true, if_false, Bool.false_eq_true, decide_true, decide_false, List.zipIdx_nil, bne_self_eq_false])))

theorem pc_idxErrR (p : Plan) (h : p.steps.length ≤ 1000) (n : Int) : pc E 22 [.agg (cPlan p), I n] = some (I (idxE p n)) := by
  refine pc_code (mf := f22) rfl ?_
  rw [runF_U rfl]
  have e2 : IntKind.i64.wrap ((p.steps.length : Int) - 1) = (p.steps.length : Int) - 1 := by
    rw [wrap_id (by omega) (by omega)]
  simp only [f22, e2, cSteps, pc_Within, idxE, unl, wx, I, exec, resOf, reduceIte, reduceCtorEq, ne_eq, not_false_eq_true, Root.bx.injEq, Root.tm.injEq, Nat.reduceAdd, Nat.reduceBEq, Nat.reduceBNe, Nat.reduceEqDiff, Nat.reduceLT, Nat.reduceLeDiff, Nat.reduceMul, Nat.reduceSub, Int.reduceToNat, Int.reduceEq, Int.reduceBEq, Int.reduceBNe, Int.reduceLT, Int.reduceLE, if_true, if_false, Bool.false_eq_true, decide_true, decide_false, List.zipIdx_nil, bne_self_eq_false]
  repeat' (first | ((first | (with_reducible refine split_condE (fun _ _ _ => ?_) (fun _ _ _ => ?_)) | (with_reducible refine split_guardE (fun _ _ _ => ?_) (fun _ _ _ => ?_))) <;> (rename_i h h2 h3; simp only [h, h2, h3, wx, I, exec, resOf, reduceIte, reduceCtorEq, ne_eq, not_false_eq_true, Root.bx.injEq, Root.tm.injEq, Nat.reduceAdd, Nat.reduceBEq, Nat.reduceBNe, Nat.reduceEqDiff, Nat.reduceLT, Nat.reduceLeDiff, Nat.reduceMul, Nat.reduceSub, Int.reduceToNat, Int.reduceEq, Int.reduceBEq, Int.reduceBNe, Int.reduceLT, Int.reduceLE, if_true, if_false, Bool.false_eq_true, decide_true, decide_false, List.zipIdx_nil, bne_self_eq_false])) | ((first | (with_reducible refine split_condN (fun _ => ?_) (fun _ => ?_)) | (with_reducible refine split_condA (fun _ => ?_) (fun _ => ?_)) | (with_reducible refine split_condO (fun _ => ?_) (fun _ => ?_)) | (with_reducible refine split_cond (fun _ => ?_) (fun _ => ?_)) | (with_reducible refine split_guardN (fun _ => ?_) (fun _ => ?_)) | (with_reducible refine split_guardA (fun _ => ?_) (fun _ => ?_)) | (with_reducible refine split_guardO (fun _ => ?_) (fun _ => ?_)) | (with_reducible refine split_guard (fun _ => ?_) (fun _ => ?_))) <;> (rename_i h; simp only [h, wx, I, exec, resOf, reduceIte, reduceCtorEq, ne_eq, not_false_eq_true, Root.bx.injEq, Root.tm.injEq, Nat.reduceAdd, Nat.reduceBEq, Nat.reduceBNe, Nat.reduceEqDiff, Nat.reduceLT, Nat.reduceLeDiff, Nat.reduceMul, Nat.reduceSub, Int.reduceToNat, Int.reduceEq, Int.reduceBEq, Int.reduceBNe, Int.reduceLT, Int.reduceLE, if_true, if_false, Bool.false_eq_true, decide_true, decide_false, List.zipIdx_nil, bne_self_eq_false])))

theorem pc_set1 (p : Plan) (h : p.signals.length ≤ 60) (n : Int) : pc E 128 [I n, .ptr (cPlan p) 0] = some (.bool (!inR n 0 (top p))) := by
  refine pc_code (mf := f128) rfl ?_
  rw [runF_U rfl]
  have e1 : min p.signals.length 64 = p.signals.length := by omega
  have e2 := sh1 h
  have e3 : IntKind.i64.wrap (((2 ^ p.signals.length : Nat) : Int) - 1) = top p := sh2 h
  simp only [f128, strs, e1, e2, e3, IntKind.bits, pc_inR, wx, I, exec, resOf, reduceIte, reduceCtorEq, ne_eq, not_false_eq_true, Root.bx.injEq, Root.tm.injEq, Nat.reduceAdd, Nat.reduceBEq, Nat.reduceBNe, Nat.reduceEqDiff, Nat.reduceLT, Nat.reduceLeDiff, Nat.reduceMul, Nat.reduceSub, Int.reduceToNat, Int.reduceEq, Int.reduceBEq, Int.reduceBNe, Int.reduceLT, Int.reduceLE, if_true, if_false, Bool.false_eq_true, decide_true, decide_false, List.zipIdx_nil, bne_self_eq_false]

theorem pc_idx1 (p : Plan) (h : p.steps.length ≤ 1000) (n : Int) : pc E 115 [I n, .ptr (cPlan p) 0] = some (.bool (!inR n 0 ((p.steps.length : Int) - 1))) := by
  refine pc_code (mf := f115) rfl ?_
  rw [runF_U rfl]
  have e2 : IntKind.i64.wrap ((p.steps.length : Int) - 1) = (p.steps.length : Int) - 1 := by
    rw [wrap_id (by omega) (by omega)]
  simp only [f115, e2, cSteps, pc_inR, wx, I, exec, resOf, reduceIte, reduceCtorEq, ne_eq, not_false_eq_true, Root.bx.injEq, Root.tm.injEq, Nat.reduceAdd, Nat.reduceBEq, Nat.reduceBNe, Nat.reduceEqDiff, Nat.reduceLT, Nat.reduceLeDiff, Nat.reduceMul, Nat.reduceSub, Int.reduceToNat, Int.reduceEq, Int.reduceBEq, Int.reduceBNe, Int.reduceLT, Int.reduceLE, if_true, if_false, Bool.false_eq_true, decide_true, decide_false, List.zipIdx_nil, bne_self_eq_false]

theorem pc_setErr (p : Plan) (h : p.signals.length ≤ 60) (l : List Int) (hl : l.length < 9223372036854775807) : pc E 102 [.agg (cPlan p), .sl .s 1 (ints l)] = some (I (fst1 (l.map (setE p)))) := by
  refine pc_code (mf := f102) rfl ?_
  rw [runF_U rfl]
  have hc := pc_containsFunc l hl (g := 128) (cs := [.ptr (cPlan p) 0]) (p := fun n => !inR n 0 (top p)) (fun n _ => pc_set1 p h n)
  simp only [ints] at hc
  simp only [f102, ints, hc, pc_unless, fst1_map (fun n => rfl : ∀ n, setE p n = unl (inR n 0 (top p)) 2), wx, I, exec, resOf, reduceIte, reduceCtorEq, ne_eq, not_false_eq_true, Root.bx.injEq, Root.tm.injEq, Nat.reduceAdd, Nat.reduceBEq, Nat.reduceBNe, Nat.reduceEqDiff, Nat.reduceLT, Nat.reduceLeDiff, Nat.reduceMul, Nat.reduceSub, Int.reduceToNat, Int.reduceEq, Int.reduceBEq, Int.reduceBNe, Int.reduceLT, Int.reduceLE, if_true, if_false, Bool.false_eq_true, decide_true, decide_false, List.zipIdx_nil, bne_self_eq_false]

theorem pc_idxErr (p : Plan) (h : p.steps.length ≤ 1000) (l : List Int) (hl : l.length < 9223372036854775807) : pc E 70 [.agg (cPlan p), .sl .s 1 (ints l)] = some (I (fst1 (l.map (idxE p)))) := by
  refine pc_code (mf := f70) rfl ?_
  rw [runF_U rfl]
  have hc := pc_containsFunc l hl (g := 115) (cs := [.ptr (cPlan p) 0]) (p := fun n => !inR n 0 ((p.steps.length : Int) - 1)) (fun n _ => pc_idx1 p h n)
  simp only [ints] at hc
  simp only [f70, ints, hc, pc_unless, fst1_map (fun n => rfl : ∀ n, idxE p n = unl (inR n 0 ((p.steps.length : Int) - 1)) 6), wx, I, exec, resOf, reduceIte, reduceCtorEq, ne_eq, not_false_eq_true, Root.bx.injEq, Root.tm.injEq, Nat.reduceAdd, Nat.reduceBEq, Nat.reduceBNe, Nat.reduceEqDiff, Nat.reduceLT, Nat.reduceLeDiff, Nat.reduceMul, Nat.reduceSub, Int.reduceToNat, Int.reduceEq, Int.reduceBEq, Int.reduceBNe, Int.reduceLT, Int.reduceLE, if_true, if_false, Bool.false_eq_true, decide_true, decide_false, List.zipIdx_nil, bne_self_eq_false]

end Go.ViD
end
section
/- Plans: the errors of a step. -/
set_option linter.unusedSimpArgs false
set_option linter.unusedVariables false
namespace Go.ViD
open Go.Vi

theorem fst1_one (x : Int) : fst1 [x] = x := by
  by_cases h : x = 0 <;> simp [fst1, h]

theorem bneB (a b : Int) : (a != b) = !(a == b) := rfl

theorem loop98 (xs : List Int) (hl : xs.length < 9223372036854775807) {t : List Todo} {k : Ex → St → Option V} :
    ∀ (m i : Nat), i + m = xs.length → U (pc E) (.c (.loop f98l0) :: t) .normal ⟨[(0, .sl .s 1 (ints xs)), (3, I i)], []⟩ k =
      if fst1 (xs.drop i) = 0 then U (pc E) t (.exit 0) ⟨[], []⟩ k else k .ret ⟨[(2, I (fst1 (xs.drop i)))], []⟩
  | 0, i, hm => by
    rw [U_loop' f98l0.eq_1]
    have h0 : ¬ ((i : Int) < (xs.length : Int)) := by omega
    simp only [ints, h0, wx, I, exec, resOf, reduceIte, reduceCtorEq, ne_eq, not_false_eq_true, Root.bx.injEq, Root.tm.injEq, Nat.reduceAdd, Nat.reduceBEq, Nat.reduceBNe, Nat.reduceEqDiff, Nat.reduceLT, Nat.reduceLeDiff, Nat.reduceMul, Nat.reduceSub, Int.reduceToNat, Int.reduceEq, Int.reduceBEq, Int.reduceBNe, Int.reduceLT, Int.reduceLE, if_true, if_false, Bool.false_eq_true, decide_true, decide_false, List.zipIdx_nil, bne_self_eq_false]
    rw [List.drop_eq_nil_of_le (by omega)]
    simp only [fst1, if_true]
  | m + 1, i, hm => by
    rw [U_loop' f98l0.eq_1]
    have h0 : ((i : Int) < (xs.length : Int)) := by omega
    have hx : xs[i]? = some xs[i] := List.getElem?_eq_getElem (by omega)
    have hd : xs.drop i = xs[i] :: xs.drop (i + 1) := List.drop_eq_getElem_cons (by omega)
    have ih := loop98 xs hl (t := t) (k := k) m (i + 1) (by omega)
    rw [hd]
    simp only [ints] at ih
    generalize xs[i] = x at hx ⊢
    have hw := wrap_succ (i := i) (by omega)
    simp only [ints, h0, hx, fst1, wx, I, exec, resOf, reduceIte, reduceCtorEq, ne_eq, not_false_eq_true, Root.bx.injEq, Root.tm.injEq, Nat.reduceAdd, Nat.reduceBEq, Nat.reduceBNe, Nat.reduceEqDiff, Nat.reduceLT, Nat.reduceLeDiff, Nat.reduceMul, Nat.reduceSub, Int.reduceToNat, Int.reduceEq, Int.reduceBEq, Int.reduceBNe, Int.reduceLT, Int.reduceLE, if_true, if_false, Bool.false_eq_true, decide_true, decide_false, List.zipIdx_nil, bne_self_eq_false]
    repeat' (first | ((first | (with_reducible refine split_condE (fun _ _ _ => ?_) (fun _ _ _ => ?_)) | (with_reducible refine split_guardE (fun _ _ _ => ?_) (fun _ _ _ => ?_))) <;> (rename_i h h2 h3; simp only [h, h2, h3, hx, hw, ih, wx, I, exec, resOf, reduceIte, reduceCtorEq, ne_eq, not_false_eq_true, Root.bx.injEq, Root.tm.injEq, Nat.reduceAdd, Nat.reduceBEq, Nat.reduceBNe, Nat.reduceEqDiff, Nat.reduceLT, Nat.reduceLeDiff, Nat.reduceMul, Nat.reduceSub, Int.reduceToNat, Int.reduceEq, Int.reduceBEq, Int.reduceBNe, Int.reduceLT, Int.reduceLE, if_true, if_false, Bool.false_eq_true, decide_true, decide_false, List.zipIdx_nil, bne_self_eq_false])) | ((first | (with_reducible refine split_condN (fun _ => ?_) (fun _ => ?_)) | (with_reducible refine split_condA (fun _ => ?_) (fun _ => ?_)) | (with_reducible refine split_condO (fun _ => ?_) (fun _ => ?_)) | (with_reducible refine split_cond (fun _ => ?_) (fun _ => ?_)) | (with_reducible refine split_guardN (fun _ => ?_) (fun _ => ?_)) | (with_reducible refine split_guardA (fun _ => ?_) (fun _ => ?_)) | (with_reducible refine split_guardO (fun _ => ?_) (fun _ => ?_)) | (with_reducible refine split_guard (fun _ => ?_) (fun _ => ?_))) <;> (rename_i h; simp only [h, hx, hw, ih, wx, I, exec, resOf, reduceIte, reduceCtorEq, ne_eq, not_false_eq_true, Root.bx.injEq, Root.tm.injEq, Nat.reduceAdd, Nat.reduceBEq, Nat.reduceBNe, Nat.reduceEqDiff, Nat.reduceLT, Nat.reduceLeDiff, Nat.reduceMul, Nat.reduceSub, Int.reduceToNat, Int.reduceEq, Int.reduceBEq, Int.reduceBNe, Int.reduceLT, Int.reduceLE, if_true, if_false, Bool.false_eq_true, decide_true, decide_false, List.zipIdx_nil, bne_self_eq_false])))

theorem pc_one (xs : List Int) (hl : xs.length < 9223372036854775807) : pc E 98 [.sl .s 1 (ints xs)] = some (I (fst1 xs)) := by
  refine pc_code (mf := f98) rfl ?_
  rw [runF_U rfl]
  have h := fun t k => loop98 xs hl (t := t) (k := k) xs.length 0 (by omega)
  simp only [ints, List.drop_zero, Int.cast_ofNat_Int] at h
  simp only [f98, ints, h, wx, I, exec, resOf, reduceIte, reduceCtorEq, ne_eq, not_false_eq_true, Root.bx.injEq, Root.tm.injEq, Nat.reduceAdd, Nat.reduceBEq, Nat.reduceBNe, Nat.reduceEqDiff, Nat.reduceLT, Nat.reduceLeDiff, Nat.reduceMul, Nat.reduceSub, Int.reduceToNat, Int.reduceEq, Int.reduceBEq, Int.reduceBNe, Int.reduceLT, Int.reduceLE, if_true, if_false, Bool.false_eq_true, decide_true, decide_false, List.zipIdx_nil, bne_self_eq_false]
  split <;> simp_all only [wx, I, exec, resOf, reduceIte, reduceCtorEq, ne_eq, not_false_eq_true, Root.bx.injEq, Root.tm.injEq, Nat.reduceAdd, Nat.reduceBEq, Nat.reduceBNe, Nat.reduceEqDiff, Nat.reduceLT, Nat.reduceLeDiff, Nat.reduceMul, Nat.reduceSub, Int.reduceToNat, Int.reduceEq, Int.reduceBEq, Int.reduceBNe, Int.reduceLT, Int.reduceLE, if_true, if_false, Bool.false_eq_true, decide_true, decide_false, List.zipIdx_nil, bne_self_eq_false]

theorem loop95 {v : Int} (xs : List Int) (hl : xs.length < 9223372036854775807) {t : List Todo} {k : Ex → St → Option V} :
    ∀ (m i : Nat), i + m = xs.length → U (pc E) (.c (.loop f95l0) :: t) .normal ⟨[(0, .sl .s 1 (ints xs)), (1, I v), (5, I i)], []⟩ k =
      if hasI (xs.drop i) v then k .ret ⟨[(4, .bool true)], []⟩ else U (pc E) t (.exit 0) ⟨[], []⟩ k
  | 0, i, hm => by
    rw [U_loop' f95l0.eq_1]
    have h0 : ¬ ((i : Int) < (xs.length : Int)) := by omega
    simp only [ints, h0, wx, I, exec, resOf, reduceIte, reduceCtorEq, ne_eq, not_false_eq_true, Root.bx.injEq, Root.tm.injEq, Nat.reduceAdd, Nat.reduceBEq, Nat.reduceBNe, Nat.reduceEqDiff, Nat.reduceLT, Nat.reduceLeDiff, Nat.reduceMul, Nat.reduceSub, Int.reduceToNat, Int.reduceEq, Int.reduceBEq, Int.reduceBNe, Int.reduceLT, Int.reduceLE, if_true, if_false, Bool.false_eq_true, decide_true, decide_false, List.zipIdx_nil, bne_self_eq_false]
    rw [List.drop_eq_nil_of_le (by omega)]
    simp only [hasI, List.any_nil, Bool.false_eq_true, if_false]
  | m + 1, i, hm => by
    rw [U_loop' f95l0.eq_1]
    have h0 : ((i : Int) < (xs.length : Int)) := by omega
    have hx : xs[i]? = some xs[i] := List.getElem?_eq_getElem (by omega)
    have hd : xs.drop i = xs[i] :: xs.drop (i + 1) := List.drop_eq_getElem_cons (by omega)
    have ih := loop95 (v := v) xs hl (t := t) (k := k) m (i + 1) (by omega)
    simp only [ints, hasI] at ih
    rw [hd]
    have hb : ∀ a b : Int, (a == b) = (b == a) := fun a b => by
      rw [Bool.eq_iff_iff]; simp only [beq_iff_eq]; exact eq_comm
    have hw := wrap_succ (i := i) (by omega)
    simp only [ints, h0, hx, hasI, hb v, List.any_cons, wx, I, exec, resOf, reduceIte, reduceCtorEq, ne_eq, not_false_eq_true, Root.bx.injEq, Root.tm.injEq, Nat.reduceAdd, Nat.reduceBEq, Nat.reduceBNe, Nat.reduceEqDiff, Nat.reduceLT, Nat.reduceLeDiff, Nat.reduceMul, Nat.reduceSub, Int.reduceToNat, Int.reduceEq, Int.reduceBEq, Int.reduceBNe, Int.reduceLT, Int.reduceLE, if_true, if_false, Bool.false_eq_true, decide_true, decide_false, List.zipIdx_nil, bne_self_eq_false]
    simp only [hb v] at ih
    repeat' (first | ((first | (with_reducible refine split_condE (fun _ _ _ => ?_) (fun _ _ _ => ?_)) | (with_reducible refine split_guardE (fun _ _ _ => ?_) (fun _ _ _ => ?_))) <;> (rename_i h h2 h3; simp only [h, h2, h3, hw, ih, wx, I, exec, resOf, reduceIte, reduceCtorEq, ne_eq, not_false_eq_true, Root.bx.injEq, Root.tm.injEq, Nat.reduceAdd, Nat.reduceBEq, Nat.reduceBNe, Nat.reduceEqDiff, Nat.reduceLT, Nat.reduceLeDiff, Nat.reduceMul, Nat.reduceSub, Int.reduceToNat, Int.reduceEq, Int.reduceBEq, Int.reduceBNe, Int.reduceLT, Int.reduceLE, if_true, if_false, Bool.false_eq_true, decide_true, decide_false, List.zipIdx_nil, bne_self_eq_false])) | ((first | (with_reducible refine split_condN (fun _ => ?_) (fun _ => ?_)) | (with_reducible refine split_condA (fun _ => ?_) (fun _ => ?_)) | (with_reducible refine split_condO (fun _ => ?_) (fun _ => ?_)) | (with_reducible refine split_cond (fun _ => ?_) (fun _ => ?_)) | (with_reducible refine split_guardN (fun _ => ?_) (fun _ => ?_)) | (with_reducible refine split_guardA (fun _ => ?_) (fun _ => ?_)) | (with_reducible refine split_guardO (fun _ => ?_) (fun _ => ?_)) | (with_reducible refine split_guard (fun _ => ?_) (fun _ => ?_))) <;> (rename_i h; simp only [h, hw, ih, wx, I, exec, resOf, reduceIte, reduceCtorEq, ne_eq, not_false_eq_true, Root.bx.injEq, Root.tm.injEq, Nat.reduceAdd, Nat.reduceBEq, Nat.reduceBNe, Nat.reduceEqDiff, Nat.reduceLT, Nat.reduceLeDiff, Nat.reduceMul, Nat.reduceSub, Int.reduceToNat, Int.reduceEq, Int.reduceBEq, Int.reduceBNe, Int.reduceLT, Int.reduceLE, if_true, if_false, Bool.false_eq_true, decide_true, decide_false, List.zipIdx_nil, bne_self_eq_false])))

theorem pc_Has (xs : List Int) (hl : xs.length < 9223372036854775807) (v : Int) : pc E 95 [.sl .s 1 (ints xs), I v] = some (.bool (hasI xs v)) := by
  refine pc_code (mf := f95) rfl ?_
  rw [runF_U rfl]
  have h := fun t k => loop95 (v := v) xs hl (t := t) (k := k) xs.length 0 (by omega)
  simp only [ints, List.drop_zero, Int.cast_ofNat_Int] at h
  simp only [f95, ints, h, wx, I, exec, resOf, reduceIte, reduceCtorEq, ne_eq, not_false_eq_true, Root.bx.injEq, Root.tm.injEq, Nat.reduceAdd, Nat.reduceBEq, Nat.reduceBNe, Nat.reduceEqDiff, Nat.reduceLT, Nat.reduceLeDiff, Nat.reduceMul, Nat.reduceSub, Int.reduceToNat, Int.reduceEq, Int.reduceBEq, Int.reduceBNe, Int.reduceLT, Int.reduceLE, if_true, if_false, Bool.false_eq_true, decide_true, decide_false, List.zipIdx_nil, bne_self_eq_false]
  cases hasI xs v <;> simp only [wx, I, exec, resOf, reduceIte, reduceCtorEq, ne_eq, not_false_eq_true, Root.bx.injEq, Root.tm.injEq, Nat.reduceAdd, Nat.reduceBEq, Nat.reduceBNe, Nat.reduceEqDiff, Nat.reduceLT, Nat.reduceLeDiff, Nat.reduceMul, Nat.reduceSub, Int.reduceToNat, Int.reduceEq, Int.reduceBEq, Int.reduceBNe, Int.reduceLT, Int.reduceLE, if_true, if_false, Bool.false_eq_true, decide_true, decide_false, List.zipIdx_nil, bne_self_eq_false]

/-! ### steady steps -/
/-- The error of exits from a place on. -/
def exFrom (p : Plan) (l : List Int) : Nat → Nat → Int
  | 0, _ => 0
  | m + 1, i => if fst1 [idxE p (l[i]?.getD 0), unl (((i : Int) == 0) || decide ((l[i]?.getD 0) > (l[i - 1]?.getD 0))) 9] = 0 then exFrom p l m (i + 1) else fst1 [idxE p (l[i]?.getD 0), unl (((i : Int) == 0) || decide ((l[i]?.getD 0) > (l[i - 1]?.getD 0))) 9]

def zero7 (s : Step) : Bool := (s.on == 0) && ((s.off == 0) && ((s.makesOn == 0) && ((s.makesOff == 0) && ((s.time == 0) && ((s.next == 0) && (s.back == 0))))))

def homeOK (s : Step) : Bool := hasI s.exits s.home || (((s.exits.length : Int) == 0) && (s.home == 0))

def steadyE (p : Plan) (s : Step) : Int := if zero7 s then (if exFrom p s.exits s.exits.length 0 = 0 then unl (homeOK s) 21 else exFrom p s.exits s.exits.length 0) else 3

theorem ints2 (a b : Int) : asInts [.int .i64 a, .int .i64 b] = some (.i64, [a, b]) := by simp [asInts]

theorem loop129 (p : Plan) (h : p.steps.length ≤ 1000) (s : Step) (hl : s.exits.length ≤ 1000) {t : List Todo} {k : Ex → St → Option V} :
    ∀ (m i : Nat), i + m = s.exits.length → U (pc E) (.c (.loop f129l0) :: t) .normal ⟨[(2, .loc 2 0), (3, .loc 3 0), (29, .sl .s 1 (ints s.exits)), (30, I s.exits.length), (31, I i)], [(2, false, cPlan p), (3, false, cStep s)]⟩ k =
      if exFrom p s.exits m i = 0 then U (pc E) t (.exit 0) ⟨[(3, .loc 3 0)], [(3, false, cStep s)]⟩ k else k .ret ⟨[(4, I (exFrom p s.exits m i))], []⟩
  | 0, i, hm => by
    rw [U_loop' f129l0.eq_1]
    have h0 : ¬ ((i : Int) < (s.exits.length : Int)) := by omega
    simp only [ints, h0, exFrom, wx, I, exec, resOf, reduceIte, reduceCtorEq, ne_eq, not_false_eq_true, Root.bx.injEq, Root.tm.injEq, Nat.reduceAdd, Nat.reduceBEq, Nat.reduceBNe, Nat.reduceEqDiff, Nat.reduceLT, Nat.reduceLeDiff, Nat.reduceMul, Nat.reduceSub, Int.reduceToNat, Int.reduceEq, Int.reduceBEq, Int.reduceBNe, Int.reduceLT, Int.reduceLE, if_true, if_false, Bool.false_eq_true, decide_true, decide_false, List.zipIdx_nil, bne_self_eq_false]
  | m + 1, i, hm => by
    rw [U_loop' f129l0.eq_1]
    have h0 : ((i : Int) < (s.exits.length : Int)) := by omega
    have hx : s.exits[i]? = some s.exits[i] := List.getElem?_eq_getElem (by omega)
    have hx' : i ≠ 0 → s.exits[i - 1]? = some s.exits[i - 1] := fun _ => List.getElem?_eq_getElem (by omega)
    have ih := loop129 p h s hl (t := t) (k := k) m (i + 1) (by omega)
    simp only [ints] at ih
    have hw := wrap_succ (i := i) (by omega)
    have hc := pc_idxErr p h
    have hc1 := fun x => hc [x] (by simp)
    simp only [ints, List.map_cons, List.map_nil, fst1_one] at hc1
    simp only [exFrom]
    generalize s.exits[i] = x at hx ⊢
    simp only [ints, h0, hx, hc1, List.replicate, List.set, wx, I, exec, resOf, reduceIte, reduceCtorEq, ne_eq, not_false_eq_true, Root.bx.injEq, Root.tm.injEq, Nat.reduceAdd, Nat.reduceBEq, Nat.reduceBNe, Nat.reduceEqDiff, Nat.reduceLT, Nat.reduceLeDiff, Nat.reduceMul, Nat.reduceSub, Int.reduceToNat, Int.reduceEq, Int.reduceBEq, Int.reduceBNe, Int.reduceLT, Int.reduceLE, if_true, if_false, Bool.false_eq_true, decide_true, decide_false, List.zipIdx_nil, bne_self_eq_false]
    rcases Nat.eq_zero_or_pos i with hi | hi
    · subst hi
      have hw0 : IntKind.i64.wrap (0 + 1) = 1 := wrap_id (by omega) (by omega)
      simp only [Nat.zero_add, Int.cast_ofNat_Int] at ih
      simp only [pc_unless, pc_first2, List.replicate, List.set, wx, I, exec, resOf, reduceIte, reduceCtorEq, ne_eq, not_false_eq_true, Root.bx.injEq, Root.tm.injEq, Nat.reduceAdd, Nat.reduceBEq, Nat.reduceBNe, Nat.reduceEqDiff, Nat.reduceLT, Nat.reduceLeDiff, Nat.reduceMul, Nat.reduceSub, Int.reduceToNat, Int.reduceEq, Int.reduceBEq, Int.reduceBNe, Int.reduceLT, Int.reduceLE, if_true, if_false, Bool.false_eq_true, decide_true, decide_false, List.zipIdx_nil, bne_self_eq_false]
      repeat' (first | ((first | (with_reducible refine split_condE (fun _ _ _ => ?_) (fun _ _ _ => ?_)) | (with_reducible refine split_guardE (fun _ _ _ => ?_) (fun _ _ _ => ?_))) <;> (rename_i h h2 h3; simp only [h, h2, h3, hw0, ih, hc1, wx, I, exec, resOf, reduceIte, reduceCtorEq, ne_eq, not_false_eq_true, Root.bx.injEq, Root.tm.injEq, Nat.reduceAdd, Nat.reduceBEq, Nat.reduceBNe, Nat.reduceEqDiff, Nat.reduceLT, Nat.reduceLeDiff, Nat.reduceMul, Nat.reduceSub, Int.reduceToNat, Int.reduceEq, Int.reduceBEq, Int.reduceBNe, Int.reduceLT, Int.reduceLE, if_true, if_false, Bool.false_eq_true, decide_true, decide_false, List.zipIdx_nil, bne_self_eq_false])) | ((first | (with_reducible refine split_condN (fun _ => ?_) (fun _ => ?_)) | (with_reducible refine split_condA (fun _ => ?_) (fun _ => ?_)) | (with_reducible refine split_condO (fun _ => ?_) (fun _ => ?_)) | (with_reducible refine split_cond (fun _ => ?_) (fun _ => ?_)) | (with_reducible refine split_guardN (fun _ => ?_) (fun _ => ?_)) | (with_reducible refine split_guardA (fun _ => ?_) (fun _ => ?_)) | (with_reducible refine split_guardO (fun _ => ?_) (fun _ => ?_)) | (with_reducible refine split_guard (fun _ => ?_) (fun _ => ?_))) <;> (rename_i h; simp only [h, hw0, ih, hc1, wx, I, exec, resOf, reduceIte, reduceCtorEq, ne_eq, not_false_eq_true, Root.bx.injEq, Root.tm.injEq, Nat.reduceAdd, Nat.reduceBEq, Nat.reduceBNe, Nat.reduceEqDiff, Nat.reduceLT, Nat.reduceLeDiff, Nat.reduceMul, Nat.reduceSub, Int.reduceToNat, Int.reduceEq, Int.reduceBEq, Int.reduceBNe, Int.reduceLT, Int.reduceLE, if_true, if_false, Bool.false_eq_true, decide_true, decide_false, List.zipIdx_nil, bne_self_eq_false])))
    · have hx' := hx' (by omega)
      generalize s.exits[i - 1] = y at hx' ⊢
      have e0 : ((i : Int) == 0) = false := by simp; omega
      have e1 : IntKind.i64.wrap ((i : Int) - 1) = ((i - 1 : Nat) : Int) := by rw [wrap_id (by omega) (by omega)]; omega
      have e2 : (if (0 : Int) < ((i - 1 : Nat) : Int) then ((i - 1 : Nat) : Int) else 0) = ((i - 1 : Nat) : Int) := by split <;> omega
      simp only [e0, e1, e2, hx', ints2, List.foldl_cons, List.foldl_nil, pc_unless, pc_first2, List.replicate, List.set, wx, I, exec, resOf, reduceIte, reduceCtorEq, ne_eq, not_false_eq_true, Root.bx.injEq, Root.tm.injEq, Nat.reduceAdd, Nat.reduceBEq, Nat.reduceBNe, Nat.reduceEqDiff, Nat.reduceLT, Nat.reduceLeDiff, Nat.reduceMul, Nat.reduceSub, Int.reduceToNat, Int.reduceEq, Int.reduceBEq, Int.reduceBNe, Int.reduceLT, Int.reduceLE, if_true, if_false, Bool.false_eq_true, decide_true, decide_false, List.zipIdx_nil, bne_self_eq_false]
      repeat' (first | ((first | (with_reducible refine split_condE (fun _ _ _ => ?_) (fun _ _ _ => ?_)) | (with_reducible refine split_guardE (fun _ _ _ => ?_) (fun _ _ _ => ?_))) <;> (rename_i h h2 h3; simp only [h, h2, h3, hw, ih, hc1, wx, I, exec, resOf, reduceIte, reduceCtorEq, ne_eq, not_false_eq_true, Root.bx.injEq, Root.tm.injEq, Nat.reduceAdd, Nat.reduceBEq, Nat.reduceBNe, Nat.reduceEqDiff, Nat.reduceLT, Nat.reduceLeDiff, Nat.reduceMul, Nat.reduceSub, Int.reduceToNat, Int.reduceEq, Int.reduceBEq, Int.reduceBNe, Int.reduceLT, Int.reduceLE, if_true, if_false, Bool.false_eq_true, decide_true, decide_false, List.zipIdx_nil, bne_self_eq_false])) | ((first | (with_reducible refine split_condN (fun _ => ?_) (fun _ => ?_)) | (with_reducible refine split_condA (fun _ => ?_) (fun _ => ?_)) | (with_reducible refine split_condO (fun _ => ?_) (fun _ => ?_)) | (with_reducible refine split_cond (fun _ => ?_) (fun _ => ?_)) | (with_reducible refine split_guardN (fun _ => ?_) (fun _ => ?_)) | (with_reducible refine split_guardA (fun _ => ?_) (fun _ => ?_)) | (with_reducible refine split_guardO (fun _ => ?_) (fun _ => ?_)) | (with_reducible refine split_guard (fun _ => ?_) (fun _ => ?_))) <;> (rename_i h; simp only [h, hw, ih, hc1, wx, I, exec, resOf, reduceIte, reduceCtorEq, ne_eq, not_false_eq_true, Root.bx.injEq, Root.tm.injEq, Nat.reduceAdd, Nat.reduceBEq, Nat.reduceBNe, Nat.reduceEqDiff, Nat.reduceLT, Nat.reduceLeDiff, Nat.reduceMul, Nat.reduceSub, Int.reduceToNat, Int.reduceEq, Int.reduceBEq, Int.reduceBNe, Int.reduceLT, Int.reduceLE, if_true, if_false, Bool.false_eq_true, decide_true, decide_false, List.zipIdx_nil, bne_self_eq_false])))

end Go.ViD
end
