import Derived.Test.YtomimhedehecdaaDoorViGWaysB
import Derived.Test.YtomimhedehecdaaDoorViRuns
section
/- The fastest way: the reference. -/
set_option linter.unusedSimpArgs false
set_option linter.unusedVariables false
namespace Go.ViD
open Go.Vi

def encR (x : State × Way) : List V := [.sl (ownW x.2) 1 (ints x.2.cs), I x.1.step, I x.1.signals, I x.2.tm]
def encX (x : State × Way) : List V := [.sl .s 1 (ints x.2.cs), I x.1.step, I x.1.signals, I x.2.tm]
theorem encR_s {x : State × Way} (h : ownW x.2 = .s) : encR x = encX x := by unfold encR encX; rw [h]

def keepL : List (State × Way) → State × Way → List (State × Way)
  | [], x => [x]
  | y :: l, x => if y.1 = x.1 then (if lt3 x.2 y.2 then x :: l else y :: l) else y :: keepL l x

def hasS (l : List (State × Way)) (s : State) : Bool := l.any fun y => decide (y.1 = s)

theorem keepL_new : ∀ {l : List (State × Way)} {x : State × Way}, hasS l x.1 = false → keepL l x = l ++ [x]
  | [], _, _ => rfl
  | y :: l, x, h => by
    simp only [hasS, List.any_cons, Bool.or_eq_false_iff, decide_eq_false_iff_not] at h
    simp only [keepL, if_neg h.1, List.cons_append, keepL_new (l := l) h.2]

theorem state_eq2 (a b : State) : decide (a = b) = ((a.step == b.step) && (a.signals == b.signals)) := by
  obtain ⟨a1, a2⟩ := a
  obtain ⟨b1, b2⟩ := b
  rw [Bool.eq_iff_iff]
  simp

theorem loop77 (x : State × Way) (hx : ownW x.2 = .s) (hxl : x.2.cs.length ≤ 1000) (l : List (State × Way)) (hn : l.length ≤ 1000) (hl : ∀ y ∈ l, y.2.cs.length = x.2.cs.length) {t : List Todo} {k : Ex → St → Option V} :
    ∀ (m i : Nat), i + m = l.length →
    U (pc E) (.c (.loop f77l0) :: t) .normal ⟨[(0, .sl .x 4 (l.map encR)), (3, .loc 3 0), (5, I i)], [(3, false, encX x)]⟩ k =
      if hasS (l.drop i) x.1 then k .ret ⟨[(4, .sl .x 4 ((l.take i ++ keepL (l.drop i) x).map encR))], []⟩ else U (pc E) t (.exit 0) ⟨[(0, .sl .x 4 (l.map encR)), (3, .loc 3 0)], [(3, false, encX x)]⟩ k
  | 0, i, hm => by
    rw [U_loop' f77l0.eq_1]
    have h0 : ¬ ((i : Int) < (l.length : Int)) := by omega
    have e : l.drop i = [] := List.drop_eq_nil_of_le (by omega)
    have e2 : hasS [] x.1 = false := rfl
    rw [e, e2]
    simp only [h0, encX, wx, I, exec, resOf, reduceIte, reduceCtorEq, ne_eq, not_false_eq_true, Root.bx.injEq, Root.tm.injEq, Nat.reduceAdd, Nat.reduceBEq, Nat.reduceBNe, Nat.reduceEqDiff, Nat.reduceLT, Nat.reduceLeDiff, Nat.reduceMul, Nat.reduceSub, Int.reduceToNat, Int.reduceEq, Int.reduceBEq, Int.reduceBNe, Int.reduceLT, Int.reduceLE, if_true, if_false, Bool.false_eq_true, decide_true, decide_false, List.zipIdx_nil, bne_self_eq_false]
  | m + 1, i, hm => by
    rw [U_loop' f77l0.eq_1]
    have h0 : ((i : Int) < (l.length : Int)) := by omega
    have hyy : l[i]? = some l[i] := List.getElem?_eq_getElem (by omega)
    have hd : l.drop i = l[i] :: l.drop (i + 1) := List.drop_eq_getElem_cons (by omega)
    have hset : ∀ z, (l.map encR).set i (encR z) = (l.take i ++ z :: l.drop (i + 1)).map encR := fun z => by
      rw [← List.map_set, List.set_eq_take_append_cons_drop, if_pos (by omega)]
    have hsame : l.take i ++ l[i] :: l.drop (i + 1) = l := by rw [← hd, List.take_append_drop]
    have htk : l.take (i + 1) = l.take i ++ [l[i]] := by rw [List.take_add_one, hyy]; rfl
    have hyl := hl l[i] (List.getElem_mem _)
    have hwi := wrap_succ (i := i) (by omega)
    have ih := loop77 x hx hxl l hn hl (t := t) (k := k) m (i + 1) (by omega)
    rw [hd]
    rw [htk] at ih
    generalize l[i] = y at hyy hyl hsame ih ⊢
    have e1 : hasS (y :: l.drop (i + 1)) x.1 = (decide (y.1 = x.1) || hasS (l.drop (i + 1)) x.1) := rfl
    rw [e1, state_eq2]
    simp only [encX, ints] at ih
    simp only [encX, encR, hyy, h0, List.length_map, ints, wx, I, exec, resOf, reduceIte, reduceCtorEq, ne_eq, not_false_eq_true, Root.bx.injEq, Root.tm.injEq, Nat.reduceAdd, Nat.reduceBEq, Nat.reduceBNe, Nat.reduceEqDiff, Nat.reduceLT, Nat.reduceLeDiff, Nat.reduceMul, Nat.reduceSub, Int.reduceToNat, Int.reduceEq, Int.reduceBEq, Int.reduceBNe, Int.reduceLT, Int.reduceLE, if_true, if_false, Bool.false_eq_true, decide_true, decide_false, List.zipIdx_nil, bne_self_eq_false]
    by_cases g : y.1 = x.1
    · have g1 : (y.1.step == x.1.step) = true := by simp [g]
      have g2 : (y.1.signals == x.1.signals) = true := by simp [g]
      have hb := pc_Before x.2.cs y.2.cs hxl (by omega)
      simp only [ints] at hb
      have hs : (l.map encR).set i (encX x) = (l.take i ++ x :: l.drop (i + 1)).map encR := by rw [← hset x, encR_s hx]
      simp only [encX, ints] at hs
      simp only [keepL, if_pos g]
      by_cases c1 : x.2.tm < y.2.tm
      · have hlt : lt3 x.2 y.2 := Or.inl c1
        simp only [g1, g2, c1, hlt, hs, h0, encX, encR, hyy, ints, cp_ownW, wx, I, exec, resOf, reduceIte, reduceCtorEq, ne_eq, not_false_eq_true, Root.bx.injEq, Root.tm.injEq, Nat.reduceAdd, Nat.reduceBEq, Nat.reduceBNe, Nat.reduceEqDiff, Nat.reduceLT, Nat.reduceLeDiff, Nat.reduceMul, Nat.reduceSub, Int.reduceToNat, Int.reduceEq, Int.reduceBEq, Int.reduceBNe, Int.reduceLT, Int.reduceLE, if_true, if_false, Bool.false_eq_true, decide_true, decide_false, List.zipIdx_nil, bne_self_eq_false]
      · by_cases c2 : x.2.tm = y.2.tm
        · have c2b : (x.2.tm == y.2.tm) = true := by simp [c2]
          by_cases c3 : cmpL x.2.cs y.2.cs < 0
          · have hlt : lt3 x.2 y.2 := Or.inr ⟨c2, Or.inr ⟨hyl.symm, c3⟩⟩
            simp only [g1, g2, c1, c2b, c3, hb, hlt, hs, h0, encX, encR, hyy, ints, cp_ownW, wx, I, exec, resOf, reduceIte, reduceCtorEq, ne_eq, not_false_eq_true, Root.bx.injEq, Root.tm.injEq, Nat.reduceAdd, Nat.reduceBEq, Nat.reduceBNe, Nat.reduceEqDiff, Nat.reduceLT, Nat.reduceLeDiff, Nat.reduceMul, Nat.reduceSub, Int.reduceToNat, Int.reduceEq, Int.reduceBEq, Int.reduceBNe, Int.reduceLT, Int.reduceLE, if_true, if_false, Bool.false_eq_true, decide_true, decide_false, List.zipIdx_nil, bne_self_eq_false]
          · have hlt : ¬ lt3 x.2 y.2 := by unfold lt3; omega
            simp only [g1, g2, c1, c2b, c3, hb, hlt, hsame, h0, encX, encR, hyy, ints, cp_ownW, wx, I, exec, resOf, reduceIte, reduceCtorEq, ne_eq, not_false_eq_true, Root.bx.injEq, Root.tm.injEq, Nat.reduceAdd, Nat.reduceBEq, Nat.reduceBNe, Nat.reduceEqDiff, Nat.reduceLT, Nat.reduceLeDiff, Nat.reduceMul, Nat.reduceSub, Int.reduceToNat, Int.reduceEq, Int.reduceBEq, Int.reduceBNe, Int.reduceLT, Int.reduceLE, if_true, if_false, Bool.false_eq_true, decide_true, decide_false, List.zipIdx_nil, bne_self_eq_false]
        · have c2b : (x.2.tm == y.2.tm) = false := by simp [c2]
          have hlt : ¬ lt3 x.2 y.2 := by unfold lt3; omega
          simp only [g1, g2, c1, c2b, hlt, hsame, h0, encX, encR, hyy, ints, cp_ownW, wx, I, exec, resOf, reduceIte, reduceCtorEq, ne_eq, not_false_eq_true, Root.bx.injEq, Root.tm.injEq, Nat.reduceAdd, Nat.reduceBEq, Nat.reduceBNe, Nat.reduceEqDiff, Nat.reduceLT, Nat.reduceLeDiff, Nat.reduceMul, Nat.reduceSub, Int.reduceToNat, Int.reduceEq, Int.reduceBEq, Int.reduceBNe, Int.reduceLT, Int.reduceLE, if_true, if_false, Bool.false_eq_true, decide_true, decide_false, List.zipIdx_nil, bne_self_eq_false]
    · have g1 : ((y.1.step == x.1.step) && (y.1.signals == x.1.signals)) = false := by rw [← state_eq2]; simpa using g
      have hk : keepL (y :: l.drop (i + 1)) x = y :: keepL (l.drop (i + 1)) x := by simp only [keepL, if_neg g]
      rw [hk]
      simp only [g1, hwi, ih, List.append_assoc, List.cons_append, List.nil_append, wx, I, exec, resOf, reduceIte, reduceCtorEq, ne_eq, not_false_eq_true, Root.bx.injEq, Root.tm.injEq, Nat.reduceAdd, Nat.reduceBEq, Nat.reduceBNe, Nat.reduceEqDiff, Nat.reduceLT, Nat.reduceLeDiff, Nat.reduceMul, Nat.reduceSub, Int.reduceToNat, Int.reduceEq, Int.reduceBEq, Int.reduceBNe, Int.reduceLT, Int.reduceLE, if_true, if_false, Bool.false_eq_true, decide_true, decide_false, List.zipIdx_nil, bne_self_eq_false]

theorem pc_keep (x : State × Way) (hx : ownW x.2 = .s) (hxl : x.2.cs.length ≤ 1000) (l : List (State × Way)) (hn : l.length ≤ 1000) (hl : ∀ y ∈ l, y.2.cs.length = x.2.cs.length) : pc E 77 [.sl .x 4 (l.map encR), .agg (encX x)] = some (.sl .x 4 ((keepL l x).map encR)) := by
  refine pc_code (mf := f77) rfl ?_
  rw [runF_U rfl]
  have h := fun t k => loop77 x hx hxl l hn hl (t := t) (k := k) l.length 0 (by omega)
  simp only [encX, ints, List.drop_zero, List.take_zero, List.nil_append, Int.cast_ofNat_Int] at h
  have hr : room (l.length + 1) 48 = true := room_ok (by omega) (by omega)
  simp only [f77, encX, h, ints, wx, I, exec, resOf, reduceIte, reduceCtorEq, ne_eq, not_false_eq_true, Root.bx.injEq, Root.tm.injEq, Nat.reduceAdd, Nat.reduceBEq, Nat.reduceBNe, Nat.reduceEqDiff, Nat.reduceLT, Nat.reduceLeDiff, Nat.reduceMul, Nat.reduceSub, Int.reduceToNat, Int.reduceEq, Int.reduceBEq, Int.reduceBNe, Int.reduceLT, Int.reduceLE, if_true, if_false, Bool.false_eq_true, decide_true, decide_false, List.zipIdx_nil, bne_self_eq_false]
  rcases Bool.eq_false_or_eq_true (hasS l x.1) with c | c
  · simp only [c, wx, I, exec, resOf, reduceIte, reduceCtorEq, ne_eq, not_false_eq_true, Root.bx.injEq, Root.tm.injEq, Nat.reduceAdd, Nat.reduceBEq, Nat.reduceBNe, Nat.reduceEqDiff, Nat.reduceLT, Nat.reduceLeDiff, Nat.reduceMul, Nat.reduceSub, Int.reduceToNat, Int.reduceEq, Int.reduceBEq, Int.reduceBNe, Int.reduceLT, Int.reduceLE, if_true, if_false, Bool.false_eq_true, decide_true, decide_false, List.zipIdx_nil, bne_self_eq_false]
  · rw [keepL_new c]
    simp only [c, hr, List.map_append, List.map_cons, List.map_nil, encR, hx, List.length_map, List.replicate, List.set, ints, wx, I, exec, resOf, reduceIte, reduceCtorEq, ne_eq, not_false_eq_true, Root.bx.injEq, Root.tm.injEq, Nat.reduceAdd, Nat.reduceBEq, Nat.reduceBNe, Nat.reduceEqDiff, Nat.reduceLT, Nat.reduceLeDiff, Nat.reduceMul, Nat.reduceSub, Int.reduceToNat, Int.reduceEq, Int.reduceBEq, Int.reduceBNe, Int.reduceLT, Int.reduceLE, if_true, if_false, Bool.false_eq_true, decide_true, decide_false, List.zipIdx_nil, bne_self_eq_false]

end Go.ViD
end
section
/- The fastest way: the reference's answer. -/
set_option linter.unusedSimpArgs false
set_option linter.unusedVariables false
namespace Go.ViD
open Go.Vi

/-- The best way to the step, with the state in which it ends, as a box holds it. -/
def encBR : Option (State × Way) → List V
  | none => [.sl .a 1 [], I 0, I 0, I 0]
  | some x => encX x

theorem encBR_cases (o : Option (State × Way)) : ∃ ow cs st sg tm, encBR o = [.sl ow 1 (ints cs), I st, I sg, I tm] ∧ (ow = .s ∨ ow = .a) := by
  cases o with
  | none => exact ⟨.a, [], 0, 0, 0, rfl, Or.inr rfl⟩
  | some x => exact ⟨.s, x.2.cs, x.1.step, x.1.signals, x.2.tm, rfl, Or.inl rfl⟩

def updR (o : Option (State × Way)) (x : State × Way) : Option (State × Way) := match o with
  | none => some x
  | some b => if lt3 x.2 b.2 then some x else some b

def procR (to : Int) (a : List (State × Way) × Option (State × Way)) (x : State × Way) : List (State × Way) × Option (State × Way) :=
  if x.1.step = to then (a.1, updR a.2 x) else (keepL a.1 x, a.2)

/-- What is known of the lists of ways of one length. -/
structure NowOK (p : Plan) (n : Nat) (a : List (State × Way) × Option (State × Way)) : Prop where
  nd : (a.1.map (·.1)).Nodup
  ok : okM p (n + 1) a.1
  own : ∀ y ∈ a.1, ownW y.2 = .s
  best : ∀ b, a.2 = some b → b.2.cs.length ≤ n + 1 ∧ ownW b.2 = .s

theorem keepL_keys : ∀ (l : List (State × Way)) (x : State × Way), (keepL l x).map (·.1) = if hasS l x.1 then l.map (·.1) else l.map (·.1) ++ [x.1]
  | [], x => rfl
  | y :: l, x => by
    have e1 : hasS (y :: l) x.1 = (decide (y.1 = x.1) || hasS l x.1) := rfl
    rw [e1]
    unfold keepL
    by_cases h : y.1 = x.1
    · rw [if_pos h]
      simp only [h, decide_true, Bool.true_or, if_true]
      split <;> simp [h]
    · rw [if_neg h]
      simp only [h, decide_false, Bool.false_or, List.map_cons, keepL_keys l x]
      split <;> simp

theorem mem_keepL : ∀ (l : List (State × Way)) (x y : State × Way), y ∈ keepL l x → y ∈ l ∨ y = x
  | [], x, y, h => by simp only [keepL, List.mem_singleton] at h; exact Or.inr h
  | z :: l, x, y, h => by
    unfold keepL at h
    split at h
    · split at h
      · rcases List.mem_cons.1 h with h | h
        · exact Or.inr h
        · exact Or.inl (List.mem_cons_of_mem _ h)
      · exact Or.inl h
    · rcases List.mem_cons.1 h with h | h
      · exact Or.inl (by rw [h]; simp)
      · rcases mem_keepL l x y h with h | h
        · exact Or.inl (List.mem_cons_of_mem _ h)
        · exact Or.inr h

theorem hasS_mem {l : List (State × Way)} {s : State} : hasS l s = true ↔ s ∈ l.map (·.1) := by
  unfold hasS
  simp only [List.any_eq_true, decide_eq_true_eq, List.mem_map]

theorem NowOK.proc {p : Plan} {n : Nat} {a : List (State × Way) × Option (State × Way)} (h : NowOK p n a) (to : Int) {x : State × Way} (h1 : goodS p x.1) (h2 : x.2.cs.length = n + 1) (h3 : 0 ≤ x.2.tm) (h4 : x.2.tm ≤ ((n + 1 : Nat) : Int) * 4000000) (h5 : ownW x.2 = .s) : NowOK p n (procR to a x) := by
  unfold procR
  by_cases c : x.1.step = to
  · rw [if_pos c]
    refine ⟨h.nd, h.ok, h.own, fun b hb => ?_⟩
    simp only at hb
    unfold updR at hb
    split at hb
    · cases hb; exact ⟨by omega, h5⟩
    · rename_i b' hb'
      split at hb
      · cases hb; exact ⟨by omega, h5⟩
      · cases hb; exact h.best _ hb'
  · rw [if_neg c]
    refine ⟨?_, fun y hy => ?_, fun y hy => ?_, h.best⟩
    · show ((keepL a.1 x).map (·.1)).Nodup
      rw [keepL_keys]
      split
      · exact h.nd
      · rename_i hn
        rw [hasS_mem] at hn
        refine List.nodup_append.2 ⟨h.nd, by simp, fun u hu v hv => ?_⟩
        simp only [List.mem_singleton] at hv
        subst hv
        exact fun e => hn (e ▸ hu)
    · rcases mem_keepL _ _ _ hy with hy | rfl
      · exact h.ok y hy
      · exact ⟨h1, h2, h3, h4⟩
    · rcases mem_keepL _ _ _ hy with hy | rfl
      · exact h.own y hy
      · exact h5

theorem NowOK.len {p : Plan} (hp : OkP p) {n : Nat} {a : List (State × Way) × Option (State × Way)} (h : NowOK p n a) : a.1.length ≤ 320 := by
  have h1 := states_le (p := p) (a.1.map (·.1)) h.nd fun s hs => by
    obtain ⟨y, hy, rfl⟩ := List.mem_map.1 hs
    exact (h.ok y hy).1.1
  have h2 := nS_le hp
  unfold nS at h2
  rw [List.length_map] at h1
  omega

theorem runI_one {p : Plan} {e : State} {x : Step} (hst : x.wait = 0) (hx : p.steps[e.step.toNat]? = some x) {c : Int} (hc : c ∈ x.exits) (ht : IntKind.i64.wrap (0 + (turnI x e noF c).2) = (turnI x e noF c).2) :
    runI p noF x e [c] = match settleL p noF (turnI x e noF c).1 with
      | some l => ((turnI x e noF c).1 :: l, accOf (nextT p noF) (turnI x e noF c).1 l (turnI x e noF c).2, 0)
      | none => ([], 0, 12) := by
  have h1 : preE x [c] = 0 := by unfold preE unl fst1; simp [hst, fst1]
  have h2 : hasI x.exits c = true := by unfold hasI; rw [List.any_eq_true]; exact ⟨c, hc, by simp⟩
  unfold runI
  rw [if_pos h1]
  have h3 : wayI p noF [c] e [] 0 = match settleL p noF (turnI x e noF c).1 with
      | some l => ((turnI x e noF c).1 :: l, accOf (nextT p noF) (turnI x e noF c).1 l (turnI x e noF c).2, 0)
      | none => ([], 0, 12) := by
    simp only [wayI, hx, h2, if_true, List.nil_append, ht]
    cases settleL p noF (turnI x e noF c).1 <;> rfl
  rw [h3]
  cases settleL p noF (turnI x e noF c).1 with
  | none => rfl
  | some l => rfl

set_option maxHeartbeats 800000 in
theorem loop23c (p : Plan) (hp : OkP p) (hxl : ∀ x ∈ p.steps, x.exits.length ≤ 1000) (to : Int) (n : Nat) (hn : n ≤ 20) (nI : Int) (now : List (State × Way)) (i : Nat) (e : State) (w : Way) (hi : now[i]? = some (e, w)) (he : goodS p e) (x : Step) (hx : p.steps[e.step.toNat]? = some x)
    (hwl : w.cs.length = n) (hw1 : 0 ≤ w.tm) (hw2 : w.tm ≤ (n : Int) * 4000000) {t : List Todo} {k : Ex → St → Option V} :
    ∀ (m j : Nat) (a : List (State × Way) × Option (State × Way)), j + m = x.exits.length → NowOK p n a →
    U (pc E) (.c (.loop f23l2) :: t) .normal ⟨[(2, I to), (3, .loc 3 0), (9, .sl .a 4 (now.map encR)), (10, .loc 10 0), (11, .bool a.2.isSome), (12, I nI), (13, .sl .x 4 (a.1.map encR)), (14, I i), (15, .sl .s 1 (ints x.exits)), (16, I j)], [(3, false, cPlan p), (10, false, encBR a.2)]⟩ k =
      U (pc E) t (.exit 4) ⟨[(2, I to), (3, .loc 3 0), (9, .sl .a 4 (now.map encR)), (10, .loc 10 0), (11, .bool (((x.exits.drop j).filterMap fun c => (extX p x e c).map fun r => (r.1, (⟨w.cs ++ [c], w.tm + r.2⟩ : Way))).foldl (procR to) a).2.isSome), (12, I nI), (13, .sl .x 4 ((((x.exits.drop j).filterMap fun c => (extX p x e c).map fun r => (r.1, (⟨w.cs ++ [c], w.tm + r.2⟩ : Way))).foldl (procR to) a).1.map encR)), (14, I i)], [(3, false, cPlan p), (10, false, encBR (((x.exits.drop j).filterMap fun c => (extX p x e c).map fun r => (r.1, (⟨w.cs ++ [c], w.tm + r.2⟩ : Way))).foldl (procR to) a).2)]⟩ k
  | 0, j, a, hm, ha => by
    rw [U_loop' f23l2.eq_1]
    have h0 : ¬ ((j : Int) < (x.exits.length : Int)) := by omega
    rw [List.drop_eq_nil_of_le (by omega)]
    simp only [h0, List.filterMap_nil, List.foldl_nil, wx, I, exec, resOf, reduceIte, reduceCtorEq, ne_eq, not_false_eq_true, Root.bx.injEq, Root.tm.injEq, Nat.reduceAdd, Nat.reduceBEq, Nat.reduceBNe, Nat.reduceEqDiff, Nat.reduceLT, Nat.reduceLeDiff, Nat.reduceMul, Nat.reduceSub, Int.reduceToNat, Int.reduceEq, Int.reduceBEq, Int.reduceBNe, Int.reduceLT, Int.reduceLE, if_true, if_false, Bool.false_eq_true, decide_true, decide_false, List.zipIdx_nil, bne_self_eq_false]
  | m + 1, j, a, hm, ha => by
    rw [U_loop' f23l2.eq_1]
    have hxm := List.mem_of_getElem? hx
    have hxe := hxl x hxm
    have h0 : ((j : Int) < (x.exits.length : Int)) := by omega
    have hxx : x.exits[j]? = some x.exits[j] := List.getElem?_eq_getElem (by omega)
    have hd : x.exits.drop j = x.exits[j] :: x.exits.drop (j + 1) := List.drop_eq_getElem_cons (by omega)
    have hcm : x.exits[j] ∈ x.exits := List.getElem_mem _
    have hst := he.2
    rw [steadyH_at hx] at hst
    have hwt : x.wait = 0 := by simpa using hst
    rw [hd]
    generalize x.exits[j] = c at hxx hcm ⊢
    have hcx := (hp.st x hxm).exits hwt c hcm
    have hwj := wrap_succ (i := j) (by omega)
    have hk := turnI_ticks hp hxm e noF c
    have h1 := pc_runR p hp hxl noF (noF_lt p) e he.1 [c] x hx
    rw [runI_one hwt hx hcm (by rw [Int.zero_add]; exact wrap_id (by omega) (by omega))] at h1
    have ht := turnI_ok hp hxm he.1 (noF_lt p) (c := c) (Or.inr fun _ => hcx)
    simp only [cState, ints, List.map_cons, List.map_nil] at h1
    have ih := fun a h => loop23c p hp hxl to n hn nI now i e w hi he x hx hwl hw1 hw2 (t := t) (k := k) m (j + 1) a (by omega) h
    simp only [ints] at ih
    have hR : ∀ e' w', encR (e', w') = [.sl (ownW w') 1 (ints w'.cs), I e'.step, I e'.signals, I w'.tm] := fun _ _ => rfl
    have hm1 : (now.map encR)[i]? = some (encR (e, w)) := by rw [List.getElem?_map, hi]; rfl
    rw [hR] at hm1
    simp only [ints] at hm1
    obtain ⟨a1, a2⟩ := a
    cases hse : settleL p noF (turnI x e noF c).1 with
    | none =>
      have hex : extX p x e c = none := by unfold extX; rw [hse]; rfl
      simp only [hse] at h1
      have ih0 := ih (a1, a2) ha
      simp only at ih0
      simp only [List.filterMap_cons, hex, h0, hxx, hi, h1, hwj, ih0, x21, encR, ints, cState, List.replicate, List.set, wx, I, exec, resOf, reduceIte, reduceCtorEq, ne_eq, not_false_eq_true, Root.bx.injEq, Root.tm.injEq, Nat.reduceAdd, Nat.reduceBEq, Nat.reduceBNe, Nat.reduceEqDiff, Nat.reduceLT, Nat.reduceLeDiff, Nat.reduceMul, Nat.reduceSub, Int.reduceToNat, Int.reduceEq, Int.reduceBEq, Int.reduceBNe, Int.reduceLT, Int.reduceLE, if_true, if_false, Bool.false_eq_true, decide_true, decide_false, List.zipIdx_nil, bne_self_eq_false]
    | some l =>
      have hex : extX p x e c = some (endS (turnI x e noF c).1 l, accOf (nextT p noF) (turnI x e noF c).1 l (turnI x e noF c).2) := by unfold extX; rw [hse]; rfl
      have hek := ext_ok hp he (by rw [exP_at hx]; exact hcm) (by rw [extP_at hx]; exact hex)
      simp only [hse] at h1
      have hw0 : IntKind.i64.wrap (((l.length + 1 : Nat) : Int) - 1) = (l.length : Int) := by
        have h320 := nS_le hp
        have := (ref_all (steadyH p) (nextT p noF) (okS p) (fun s hs h => nextT_ok hp (noF_lt p) s hs h) _ _ l hse ht).2.1
        rw [wrap_id (by omega) (by omega)]; omega
      have hlast : (cSts ((turnI x e noF c).1 :: l))[l.length]? = some (cState (endS (turnI x e noF c).1 l)) := by
        rw [List.getElem?_map, endS_last]; rfl
      simp only [cSts, cState, List.map_cons] at hlast
      generalize endS (turnI x e noF c).1 l = e' at hex hek hlast
      generalize accOf (nextT p noF) (turnI x e noF c).1 l (turnI x e noF c).2 = d at hex hek h1
      simp only at hek
      have hwd : IntKind.i64.wrap (w.tm + d) = w.tm + d := wrap_id (by omega) (by omega)
      have hcp := pc_copyInts w.cs (by omega)
      have hr : room (w.cs.length + 1) 8 = true := room_ok (by omega) (by omega)
      have hmore : (⟨w.cs ++ [c], w.tm + d⟩ : Way).cs.length = n + 1 := by simp [hwl]
      have hown : ownW (⟨w.cs ++ [c], w.tm + d⟩ : Way) = .s := ownW_snoc _ _ _
      have hok' := ha.proc to (x := (e', ⟨w.cs ++ [c], w.tm + d⟩)) hek.1 hmore (by simp only; omega) (by simp only [Int.natCast_add]; omega) hown
      have ihp := ih _ hok'
      simp only [ints] at hcp
      simp only [List.filterMap_cons, List.foldl_cons, hex, h0, hxx, hi, h1, hwj, hw0, hlast, hwd, hcp, hr, x21, encR, cp_ownW, leaf_ownW, ints, cSts, cState, List.map_append, List.map_cons, List.map_nil, List.length_map, List.length_cons, List.replicate, List.set, wx, I, exec, resOf, reduceIte, reduceCtorEq, ne_eq, not_false_eq_true, Root.bx.injEq, Root.tm.injEq, Nat.reduceAdd, Nat.reduceBEq, Nat.reduceBNe, Nat.reduceEqDiff, Nat.reduceLT, Nat.reduceLeDiff, Nat.reduceMul, Nat.reduceSub, Int.reduceToNat, Int.reduceEq, Int.reduceBEq, Int.reduceBNe, Int.reduceLT, Int.reduceLE, if_true, if_false, Bool.false_eq_true, decide_true, decide_false, List.zipIdx_nil, bne_self_eq_false]
      by_cases hto : e'.step = to
      · have hb1 : (e'.step == to) = true := by simp [hto]
        have hpr : procR to (a1, a2) (e', ⟨w.cs ++ [c], w.tm + d⟩) = (a1, updR a2 (e', ⟨w.cs ++ [c], w.tm + d⟩)) := by unfold procR; rw [if_pos hto]
        rw [hpr] at ihp
        rw [hpr]
        cases a2 with
        | none =>
          simp only [updR, Option.isSome_some, Option.isSome_none, encBR, encX, ints, List.map_append, List.map_cons, List.map_nil] at ihp
          simp only [updR, hb1, hwj, ihp, Option.isSome_none, encR, encBR, encX, cp_ownW, leaf_ownW, ints, cSts, cState, List.map_append, List.map_cons, List.map_nil, List.length_append, List.length_map, List.length_cons, List.replicate, List.set, wx, I, exec, resOf, reduceIte, reduceCtorEq, ne_eq, not_false_eq_true, Root.bx.injEq, Root.tm.injEq, Nat.reduceAdd, Nat.reduceBEq, Nat.reduceBNe, Nat.reduceEqDiff, Nat.reduceLT, Nat.reduceLeDiff, Nat.reduceMul, Nat.reduceSub, Int.reduceToNat, Int.reduceEq, Int.reduceBEq, Int.reduceBNe, Int.reduceLT, Int.reduceLE, if_true, if_false, Bool.false_eq_true, decide_true, decide_false, List.zipIdx_nil, bne_self_eq_false]
        | some b =>
          obtain ⟨b1, b2⟩ := b
          have hbl := (ha.best _ rfl).1
          simp only at hbl
          have hB := pc_Before (w.cs ++ [c]) b2.cs (by simp; omega) (by omega)
          simp only [ints, List.map_append, List.map_cons, List.map_nil] at hB
          simp only [hb1, Option.isSome_some, encR, encBR, encX, cp_ownW, leaf_ownW, ints, cSts, cState, List.map_append, List.map_cons, List.map_nil, List.length_append, List.length_map, List.length_cons, List.replicate, List.set, wx, I, exec, resOf, reduceIte, reduceCtorEq, ne_eq, not_false_eq_true, Root.bx.injEq, Root.tm.injEq, Nat.reduceAdd, Nat.reduceBEq, Nat.reduceBNe, Nat.reduceEqDiff, Nat.reduceLT, Nat.reduceLeDiff, Nat.reduceMul, Nat.reduceSub, Int.reduceToNat, Int.reduceEq, Int.reduceBEq, Int.reduceBNe, Int.reduceLT, Int.reduceLE, if_true, if_false, Bool.false_eq_true, decide_true, decide_false, List.zipIdx_nil, bne_self_eq_false]
          by_cases c1 : w.tm + d < b2.tm
          · have hlt : lt3 (⟨w.cs ++ [c], w.tm + d⟩ : Way) b2 := Or.inl c1
            simp only [updR, hlt, if_true, Option.isSome_some, encBR, encX, ints, List.map_append, List.map_cons, List.map_nil] at ihp
            simp only [updR, hlt, c1, hwj, ihp, Option.isSome_some, encR, encBR, encX, cp_ownW, leaf_ownW, ints, cSts, cState, List.map_append, List.map_cons, List.map_nil, List.length_append, List.length_map, List.length_cons, List.replicate, List.set, wx, I, exec, resOf, reduceIte, reduceCtorEq, ne_eq, not_false_eq_true, Root.bx.injEq, Root.tm.injEq, Nat.reduceAdd, Nat.reduceBEq, Nat.reduceBNe, Nat.reduceEqDiff, Nat.reduceLT, Nat.reduceLeDiff, Nat.reduceMul, Nat.reduceSub, Int.reduceToNat, Int.reduceEq, Int.reduceBEq, Int.reduceBNe, Int.reduceLT, Int.reduceLE, if_true, if_false, Bool.false_eq_true, decide_true, decide_false, List.zipIdx_nil, bne_self_eq_false]
          · by_cases c2 : w.tm + d = b2.tm
            · have c2b : (w.tm + d == b2.tm) = true := by simp [c2]
              simp only [c1, c2b, encR, encBR, encX, cp_ownW, leaf_ownW, ints, cSts, cState, List.map_append, List.map_cons, List.map_nil, List.length_append, List.length_map, List.length_cons, List.replicate, List.set, wx, I, exec, resOf, reduceIte, reduceCtorEq, ne_eq, not_false_eq_true, Root.bx.injEq, Root.tm.injEq, Nat.reduceAdd, Nat.reduceBEq, Nat.reduceBNe, Nat.reduceEqDiff, Nat.reduceLT, Nat.reduceLeDiff, Nat.reduceMul, Nat.reduceSub, Int.reduceToNat, Int.reduceEq, Int.reduceBEq, Int.reduceBNe, Int.reduceLT, Int.reduceLE, if_true, if_false, Bool.false_eq_true, decide_true, decide_false, List.zipIdx_nil, bne_self_eq_false]
              by_cases c3 : w.cs.length + 1 = b2.cs.length
              · have c3b : (((w.cs.length + 1 : Nat) : Int) == (b2.cs.length : Int)) = true := by simp; omega
                by_cases c4 : cmpL (w.cs ++ [c]) b2.cs < 0
                · have hlt : lt3 (⟨w.cs ++ [c], w.tm + d⟩ : Way) b2 := Or.inr ⟨c2, Or.inr ⟨by simp [c3], c4⟩⟩
                  simp only [updR, hlt, if_true, Option.isSome_some, encBR, encX, ints, List.map_append, List.map_cons, List.map_nil] at ihp
                  simp only [updR, hlt, c3b, c4, hB, hwj, ihp, Option.isSome_some, encR, encBR, encX, cp_ownW, leaf_ownW, ints, cSts, cState, List.map_append, List.map_cons, List.map_nil, List.length_append, List.length_map, List.length_cons, List.replicate, List.set, wx, I, exec, resOf, reduceIte, reduceCtorEq, ne_eq, not_false_eq_true, Root.bx.injEq, Root.tm.injEq, Nat.reduceAdd, Nat.reduceBEq, Nat.reduceBNe, Nat.reduceEqDiff, Nat.reduceLT, Nat.reduceLeDiff, Nat.reduceMul, Nat.reduceSub, Int.reduceToNat, Int.reduceEq, Int.reduceBEq, Int.reduceBNe, Int.reduceLT, Int.reduceLE, if_true, if_false, Bool.false_eq_true, decide_true, decide_false, List.zipIdx_nil, bne_self_eq_false]
                · have hlt : ¬ lt3 (⟨w.cs ++ [c], w.tm + d⟩ : Way) b2 := by unfold lt3; simp only [List.length_append, List.length_cons, List.length_nil]; omega
                  simp only [updR, hlt, if_false, Option.isSome_some, encBR, encX, ints, List.map_append, List.map_cons, List.map_nil] at ihp
                  simp only [updR, hlt, c3b, c4, hB, hwj, ihp, Option.isSome_some, encR, encBR, encX, cp_ownW, leaf_ownW, ints, cSts, cState, List.map_append, List.map_cons, List.map_nil, List.length_append, List.length_map, List.length_cons, List.replicate, List.set, wx, I, exec, resOf, reduceIte, reduceCtorEq, ne_eq, not_false_eq_true, Root.bx.injEq, Root.tm.injEq, Nat.reduceAdd, Nat.reduceBEq, Nat.reduceBNe, Nat.reduceEqDiff, Nat.reduceLT, Nat.reduceLeDiff, Nat.reduceMul, Nat.reduceSub, Int.reduceToNat, Int.reduceEq, Int.reduceBEq, Int.reduceBNe, Int.reduceLT, Int.reduceLE, if_true, if_false, Bool.false_eq_true, decide_true, decide_false, List.zipIdx_nil, bne_self_eq_false]
              · have c3b : (((w.cs.length + 1 : Nat) : Int) == (b2.cs.length : Int)) = false := by simp; omega
                have hlt : ¬ lt3 (⟨w.cs ++ [c], w.tm + d⟩ : Way) b2 := by unfold lt3; simp only [List.length_append, List.length_cons, List.length_nil]; omega
                simp only [updR, hlt, if_false, Option.isSome_some, encBR, encX, ints, List.map_append, List.map_cons, List.map_nil] at ihp
                simp only [updR, hlt, c3b, hwj, ihp, Option.isSome_some, encR, encBR, encX, cp_ownW, leaf_ownW, ints, cSts, cState, List.map_append, List.map_cons, List.map_nil, List.length_append, List.length_map, List.length_cons, List.replicate, List.set, wx, I, exec, resOf, reduceIte, reduceCtorEq, ne_eq, not_false_eq_true, Root.bx.injEq, Root.tm.injEq, Nat.reduceAdd, Nat.reduceBEq, Nat.reduceBNe, Nat.reduceEqDiff, Nat.reduceLT, Nat.reduceLeDiff, Nat.reduceMul, Nat.reduceSub, Int.reduceToNat, Int.reduceEq, Int.reduceBEq, Int.reduceBNe, Int.reduceLT, Int.reduceLE, if_true, if_false, Bool.false_eq_true, decide_true, decide_false, List.zipIdx_nil, bne_self_eq_false]
            · have c2b : (w.tm + d == b2.tm) = false := by simp [c2]
              have hlt : ¬ lt3 (⟨w.cs ++ [c], w.tm + d⟩ : Way) b2 := by unfold lt3; simp only; omega
              simp only [updR, hlt, if_false, Option.isSome_some, encBR, encX, ints, List.map_append, List.map_cons, List.map_nil] at ihp
              simp only [updR, hlt, c1, c2b, hwj, ihp, Option.isSome_some, encR, encBR, encX, cp_ownW, leaf_ownW, ints, cSts, cState, List.map_append, List.map_cons, List.map_nil, List.length_append, List.length_map, List.length_cons, List.replicate, List.set, wx, I, exec, resOf, reduceIte, reduceCtorEq, ne_eq, not_false_eq_true, Root.bx.injEq, Root.tm.injEq, Nat.reduceAdd, Nat.reduceBEq, Nat.reduceBNe, Nat.reduceEqDiff, Nat.reduceLT, Nat.reduceLeDiff, Nat.reduceMul, Nat.reduceSub, Int.reduceToNat, Int.reduceEq, Int.reduceBEq, Int.reduceBNe, Int.reduceLT, Int.reduceLE, if_true, if_false, Bool.false_eq_true, decide_true, decide_false, List.zipIdx_nil, bne_self_eq_false]
      · have hb1 : (e'.step == to) = false := by simp [hto]
        have hpr : procR to (a1, a2) (e', ⟨w.cs ++ [c], w.tm + d⟩) = (keepL a1 (e', ⟨w.cs ++ [c], w.tm + d⟩), a2) := by unfold procR; rw [if_neg hto]
        rw [hpr] at ihp
        rw [hpr]
        have hkp := pc_keep (e', ⟨w.cs ++ [c], w.tm + d⟩) hown (by simp; omega) a1 (by have := ha.len hp; simp only at this; omega) (fun y hy => by rw [(ha.ok y hy).2.1]; simp [hwl])
        simp only [encX, ints, List.map_append, List.map_cons, List.map_nil] at hkp
        simp only at ihp
        simp only [hb1, hkp, hwj, ihp, encR, encX, cp_ownW, leaf_ownW, ints, cSts, cState, List.map_append, List.map_cons, List.map_nil, List.length_append, List.length_map, List.length_cons, List.replicate, List.set, wx, I, exec, resOf, reduceIte, reduceCtorEq, ne_eq, not_false_eq_true, Root.bx.injEq, Root.tm.injEq, Nat.reduceAdd, Nat.reduceBEq, Nat.reduceBNe, Nat.reduceEqDiff, Nat.reduceLT, Nat.reduceLeDiff, Nat.reduceMul, Nat.reduceSub, Int.reduceToNat, Int.reduceEq, Int.reduceBEq, Int.reduceBNe, Int.reduceLT, Int.reduceLE, if_true, if_false, Bool.false_eq_true, decide_true, decide_false, List.zipIdx_nil, bne_self_eq_false]

end Go.ViD
end
section
/- The fastest way: the reference and the program answer the same. -/
set_option linter.unusedSimpArgs false
set_option linter.unusedVariables false
namespace Go.ViD
open Go.Vi

def refN (p : Plan) (s : State) (to : Int) : Nat → List (State × Way) × Option (State × Way)
  | 0 => ([(s, ⟨[], 0⟩)], none)
  | n + 1 => ((refN p s to n).1.flatMap (cand1 (exP p) (extP p))).foldl (procR to) ([], (refN p s to n).2)

theorem cand_ok {p : Plan} (hp : OkP p) {n : Nat} {e : State} {w : Way} (he : goodS p e) (hwl : w.cs.length = n) (hw1 : 0 ≤ w.tm) (hw2 : w.tm ≤ (n : Int) * 4000000) {y : State × Way} (hy : y ∈ cand1 (exP p) (extP p) (e, w)) :
    goodS p y.1 ∧ y.2.cs.length = n + 1 ∧ 0 ≤ y.2.tm ∧ y.2.tm ≤ ((n + 1 : Nat) : Int) * 4000000 ∧ ownW y.2 = .s := by
  obtain ⟨c, r, hc, hr, rfl⟩ := (mem_cand1 _ _ _ _).1 hy
  obtain ⟨k1, k2, k3⟩ := ext_ok hp he hc hr
  exact ⟨k1, by simp [hwl], by simp only; omega, by simp only [Int.natCast_add]; omega, ownW_snoc _ _ _⟩

theorem NowOK.fold {p : Plan} {n : Nat} (to : Int) : ∀ (l : List (State × Way)) (a : List (State × Way) × Option (State × Way)), NowOK p n a → (∀ y ∈ l, goodS p y.1 ∧ y.2.cs.length = n + 1 ∧ 0 ≤ y.2.tm ∧ y.2.tm ≤ ((n + 1 : Nat) : Int) * 4000000 ∧ ownW y.2 = .s) → NowOK p n (l.foldl (procR to) a)
  | [], _, h, _ => h
  | y :: l, a, h, hl => by
    obtain ⟨h1, h2, h3, h4, h5⟩ := hl y (by simp)
    exact NowOK.fold to l _ (h.proc to h1 h2 h3 h4 h5) fun z hz => hl z (List.mem_cons_of_mem _ hz)

theorem loop23b (p : Plan) (hp : OkP p) (hxl : ∀ x ∈ p.steps, x.exits.length ≤ 1000) (to : Int) (n : Nat) (hn : n ≤ 20) (nI : Int) (now : List (State × Way)) (hnow : okM p n now) (hnl : now.length ≤ 1000) {t : List Todo} {k : Ex → St → Option V} :
    ∀ (m i : Nat) (a : List (State × Way) × Option (State × Way)), i + m = now.length → NowOK p n a →
    U (pc E) (.c (.loop f23l1) :: t) .normal ⟨[(2, I to), (3, .loc 3 0), (9, .sl .a 4 (now.map encR)), (10, .loc 10 0), (11, .bool a.2.isSome), (12, I nI), (13, .sl .x 4 (a.1.map encR)), (14, I i)], [(3, false, cPlan p), (10, false, encBR a.2)]⟩ k =
      U (pc E) t (.exit 2) ⟨[(2, I to), (3, .loc 3 0), (10, .loc 10 0), (11, .bool (((now.drop i).flatMap (cand1 (exP p) (extP p))).foldl (procR to) a).2.isSome), (12, I nI), (13, .sl .x 4 ((((now.drop i).flatMap (cand1 (exP p) (extP p))).foldl (procR to) a).1.map encR))], [(3, false, cPlan p), (10, false, encBR (((now.drop i).flatMap (cand1 (exP p) (extP p))).foldl (procR to) a).2)]⟩ k
  | 0, i, a, hm, ha => by
    rw [U_loop' f23l1.eq_1]
    have h0 : ¬ ((i : Int) < (now.length : Int)) := by omega
    rw [List.drop_eq_nil_of_le (by omega)]
    simp only [h0, List.flatMap_nil, List.foldl_nil, wx, I, exec, resOf, reduceIte, reduceCtorEq, ne_eq, not_false_eq_true, Root.bx.injEq, Root.tm.injEq, Nat.reduceAdd, Nat.reduceBEq, Nat.reduceBNe, Nat.reduceEqDiff, Nat.reduceLT, Nat.reduceLeDiff, Nat.reduceMul, Nat.reduceSub, Int.reduceToNat, Int.reduceEq, Int.reduceBEq, Int.reduceBNe, Int.reduceLT, Int.reduceLE, if_true, if_false, Bool.false_eq_true, decide_true, decide_false, List.zipIdx_nil, bne_self_eq_false]
  | m + 1, i, a, hm, ha => by
    rw [U_loop' f23l1.eq_1]
    have h0 : ((i : Int) < (now.length : Int)) := by omega
    have hi : now[i]? = some now[i] := List.getElem?_eq_getElem (by omega)
    have hd : now.drop i = now[i] :: now.drop (i + 1) := List.drop_eq_getElem_cons (by omega)
    have hmem : now[i] ∈ now := List.getElem_mem _
    have hwi := wrap_succ (i := i) (by omega)
    rw [hd]
    generalize now[i] = y at hi hmem ⊢
    obtain ⟨e, w⟩ := y
    obtain ⟨g1, g2, g3, g4⟩ := hnow _ hmem
    simp only at g1 g2 g3 g4
    obtain ⟨x, hx⟩ := step_at g1.1.1
    have hs0 := g1.1.1.1
    have hR : encR (e, w) = [.sl (ownW w) 1 (ints w.cs), I e.step, I e.signals, I w.tm] := rfl
    have hc : ((x.exits.drop 0).filterMap fun c => (extX p x e c).map fun r => (r.1, (⟨w.cs ++ [c], w.tm + r.2⟩ : Way))) = cand1 (exP p) (extP p) (e, w) := by
      unfold cand1
      simp only [List.drop_zero, exP_at hx, extP_at hx]
    have hl := fun t k => loop23c p hp hxl to n hn nI now i e w hi g1 x hx g2 g3 g4 (t := t) (k := k) x.exits.length 0 a (by omega) ha
    rw [hc] at hl
    have hok := NowOK.fold to (cand1 (exP p) (extP p) (e, w)) a ha fun y hy => cand_ok hp g1 g2 g3 g4 hy
    have ih := loop23b p hp hxl to n hn nI now hnow hnl (t := t) (k := k) m (i + 1) _ (by omega) hok
    simp only [ints, Int.cast_ofNat_Int] at hl
    simp only [List.flatMap_cons, List.foldl_append, h0, hi, hR, hx, hs0, hl, hwi, ih, cSteps, cStep, ints, List.replicate, List.set, wx, I, exec, resOf, reduceIte, reduceCtorEq, ne_eq, not_false_eq_true, Root.bx.injEq, Root.tm.injEq, Nat.reduceAdd, Nat.reduceBEq, Nat.reduceBNe, Nat.reduceEqDiff, Nat.reduceLT, Nat.reduceLeDiff, Nat.reduceMul, Nat.reduceSub, Int.reduceToNat, Int.reduceEq, Int.reduceBEq, Int.reduceBNe, Int.reduceLT, Int.reduceLE, if_true, if_false, Bool.false_eq_true, decide_true, decide_false, List.zipIdx_nil, bne_self_eq_false]

structure RefOK (p : Plan) (n : Nat) (a : List (State × Way) × Option (State × Way)) : Prop where
  ok : okM p n a.1
  len : a.1.length ≤ 1000
  best : ∀ b, a.2 = some b → b.2.cs.length ≤ n + 1 ∧ ownW b.2 = .s

theorem refN_ok {p : Plan} (hp : OkP p) {s : State} (hs : goodS p s) (to : Int) : ∀ n, RefOK p n (refN p s to n)
  | 0 => ⟨fun y hy => by simp only [refN, List.mem_singleton] at hy; subst hy; exact ⟨hs, rfl, by simp, by simp⟩, by simp [refN], fun b hb => by simp [refN] at hb⟩
  | n + 1 => by
    have ih := refN_ok hp hs to n
    have h := NowOK.fold (p := p) (n := n) to ((refN p s to n).1.flatMap (cand1 (exP p) (extP p))) ([], (refN p s to n).2) ⟨by simp, fun y hy => by simp at hy, fun y hy => by simp at hy, ih.best⟩ fun y hy => by
      obtain ⟨x, hx, hy⟩ := List.mem_flatMap.1 hy
      obtain ⟨g1, g2, g3, g4⟩ := ih.ok x hx
      exact cand_ok hp g1 g2 g3 g4 hy
    exact ⟨h.ok, by have := h.len hp; unfold refN; omega, fun b hb => by have := h.best b hb; exact ⟨by omega, this.2⟩⟩

theorem loop23a (p : Plan) (hp : OkP p) (hxl : ∀ x ∈ p.steps, x.exits.length ≤ 1000) (s : State) (hs : goodS p s) (to : Int) {t : List Todo} {k : Ex → St → Option V} :
    ∀ (m n : Nat), n + m = 10 →
    U (pc E) (.c (.loop f23l0) :: t) .normal ⟨[(2, I to), (3, .loc 3 0), (9, .sl .a 4 ((refN p s to n).1.map encR)), (10, .loc 10 0), (11, .bool (refN p s to n).2.isSome), (12, I n)], [(3, false, cPlan p), (10, false, encBR (refN p s to n).2)]⟩ k =
      U (pc E) t (.exit 0) ⟨[(10, .loc 10 0), (11, .bool (refN p s to 10).2.isSome)], [(10, false, encBR (refN p s to 10).2)]⟩ k
  | 0, n, hm => by
    rw [U_loop' f23l0.eq_1]
    have h0 : n = 10 := by omega
    subst h0
    have h1 : ¬ ((10 : Nat) : Int) < 10 := by omega
    simp only [h1, wx, I, exec, resOf, reduceIte, reduceCtorEq, ne_eq, not_false_eq_true, Root.bx.injEq, Root.tm.injEq, Nat.reduceAdd, Nat.reduceBEq, Nat.reduceBNe, Nat.reduceEqDiff, Nat.reduceLT, Nat.reduceLeDiff, Nat.reduceMul, Nat.reduceSub, Int.reduceToNat, Int.reduceEq, Int.reduceBEq, Int.reduceBNe, Int.reduceLT, Int.reduceLE, if_true, if_false, Bool.false_eq_true, decide_true, decide_false, List.zipIdx_nil, bne_self_eq_false]
  | m + 1, n, hm => by
    rw [U_loop' f23l0.eq_1]
    have h0 : ((n : Int) < 10) := by omega
    have hwn := wrap_succ (i := n) (by omega)
    have hok := refN_ok hp hs to n
    have hl := fun t k => loop23b p hp hxl to n (by omega) n (refN p s to n).1 hok.ok hok.len (t := t) (k := k) (refN p s to n).1.length 0 ([], (refN p s to n).2) (by omega) ⟨by simp, fun y hy => by simp at hy, fun y hy => by simp at hy, hok.best⟩
    have e : ((refN p s to n).1.flatMap (cand1 (exP p) (extP p))).foldl (procR to) ([], (refN p s to n).2) = refN p s to (n + 1) := rfl
    rw [List.drop_zero, e] at hl
    have ih := loop23a p hp hxl s hs to (t := t) (k := k) m (n + 1) (by omega)
    simp only [List.map_nil, Int.cast_ofNat_Int] at hl
    simp only [h0, hl, hwn, ih, wx, I, exec, resOf, reduceIte, reduceCtorEq, ne_eq, not_false_eq_true, Root.bx.injEq, Root.tm.injEq, Nat.reduceAdd, Nat.reduceBEq, Nat.reduceBNe, Nat.reduceEqDiff, Nat.reduceLT, Nat.reduceLeDiff, Nat.reduceMul, Nat.reduceSub, Int.reduceToNat, Int.reduceEq, Int.reduceBEq, Int.reduceBNe, Int.reduceLT, Int.reduceLE, if_true, if_false, Bool.false_eq_true, decide_true, decide_false, List.zipIdx_nil, bne_self_eq_false]

theorem encBR_map (o : Option (State × Way)) : ∃ ow st sg, encBR o = [.sl ow 1 (ints (wcs (o.map (·.2)))), I st, I sg, I (wtm (o.map (·.2)))] ∧ (ow = .s ∨ ow = .a) := by
  cases o with
  | none => exact ⟨.a, 0, 0, rfl, Or.inr rfl⟩
  | some x => exact ⟨.s, x.1.step, x.1.signals, rfl, Or.inl rfl⟩

theorem pc_Fastest0 (p : Plan) (hp : OkP p) (hxl : ∀ x ∈ p.steps, x.exits.length ≤ 1000) (s : State) (hs : goodS p s) (to : Int) : pc E 23 [.agg (cPlan p), .agg (cState s), I to] =
    some (if s.step = to then .tup [.sl .a 1 [], I 0, .bool true] else .tup [.sl .s 1 (ints (wcs ((refN p s to 10).2.map (·.2)))), I (wtm ((refN p s to 10).2.map (·.2))), .bool (refN p s to 10).2.isSome]) := by
  refine pc_code (mf := f23) rfl ?_
  rw [runF_U rfl]
  by_cases c : s.step = to
  · have cb : (s.step == to) = true := by simp [c]
    simp only [f23, c, cb, beq_self_eq_true, List.replicate, List.set, wx, I, exec, resOf, reduceIte, reduceCtorEq, ne_eq, not_false_eq_true, Root.bx.injEq, Root.tm.injEq, Nat.reduceAdd, Nat.reduceBEq, Nat.reduceBNe, Nat.reduceEqDiff, Nat.reduceLT, Nat.reduceLeDiff, Nat.reduceMul, Nat.reduceSub, Int.reduceToNat, Int.reduceEq, Int.reduceBEq, Int.reduceBNe, Int.reduceLT, Int.reduceLE, if_true, if_false, Bool.false_eq_true, decide_true, decide_false, List.zipIdx_nil, bne_self_eq_false]
  · have cb : (s.step == to) = false := by simp [c]
    have hl := fun t k => loop23a p hp hxl s hs to (t := t) (k := k) 10 0 (by omega)
    have e0 : (refN p s to 0).1.map encR = [[.sl .a 1 [], I s.step, I s.signals, I 0]] := rfl
    have e1 : (refN p s to 0).2 = none := rfl
    have e2 : encBR none = [.sl .a 1 [], I 0, I 0, I 0] := rfl
    simp only [e0, e1, e2, Option.isSome_none, Int.cast_ofNat_Int] at hl
    obtain ⟨ow, st, sg, hB, hO⟩ := encBR_map (refN p s to 10).2
    simp only [f23, c, cb, hl, hB, List.replicate, List.set, wx, I, exec, resOf, reduceIte, reduceCtorEq, ne_eq, not_false_eq_true, Root.bx.injEq, Root.tm.injEq, Nat.reduceAdd, Nat.reduceBEq, Nat.reduceBNe, Nat.reduceEqDiff, Nat.reduceLT, Nat.reduceLeDiff, Nat.reduceMul, Nat.reduceSub, Int.reduceToNat, Int.reduceEq, Int.reduceBEq, Int.reduceBNe, Int.reduceLT, Int.reduceLE, if_true, if_false, Bool.false_eq_true, decide_true, decide_false, List.zipIdx_nil, bne_self_eq_false]
    rcases hO with rfl | rfl <;> simp only [wx, I, exec, resOf, reduceIte, reduceCtorEq, ne_eq, not_false_eq_true, Root.bx.injEq, Root.tm.injEq, Nat.reduceAdd, Nat.reduceBEq, Nat.reduceBNe, Nat.reduceEqDiff, Nat.reduceLT, Nat.reduceLeDiff, Nat.reduceMul, Nat.reduceSub, Int.reduceToNat, Int.reduceEq, Int.reduceBEq, Int.reduceBNe, Int.reduceLT, Int.reduceLE, if_true, if_false, Bool.false_eq_true, decide_true, decide_false, List.zipIdx_nil, bne_self_eq_false]

/-! ### the plain law -/
theorem here_least {p : Plan} (hp : OkP p) {s : State} (hs : goodS p s) (to : Int) (n : Nat) : Least (fun w => ∃ e, e.step = to ∧ allQ (exP p) (extP p) s n e w) (hereN p s to n) := by
  have h1 := least_fold (atTo to (mapN p s n)) (P := fun _ => False) (o := none) (fun w h => h)
  refine h1.dom (fun w hw => ?_) fun w hw => ?_
  · simp only [false_or, atTo, List.mem_map, List.mem_filter, decide_eq_true_eq] at hw
    obtain ⟨y, ⟨hy, ht⟩, rfl⟩ := hw
    have h2 := mapN_least hp hs n y.1
    rw [(lookW_mem (mapN_sorted p s n) y.1 y.2).2 hy] at h2
    exact ⟨y.1, ht, h2.1⟩
  · obtain ⟨e, he, hq⟩ := hw
    have h2 := mapN_least hp hs n e
    cases hl : lookW (mapN p s n) e with
    | none => rw [hl] at h2; exact absurd hq (h2 w)
    | some u =>
      rw [hl] at h2
      refine ⟨u, ?_, h2.2 w hq⟩
      simp only [false_or, atTo, List.mem_map, List.mem_filter, decide_eq_true_eq]
      exact ⟨(e, u), ⟨(lookW_mem (mapN_sorted p s n) e u).1 hl, he⟩, rfl⟩

theorem best_least {p : Plan} (hp : OkP p) {s : State} (hs : goodS p s) (to : Int) : ∀ N : Nat, Least (fun w => ∃ n, n < N ∧ ∃ e, e.step = to ∧ allQ (exP p) (extP p) s n e w) (bestN p s to N)
  | 0 => fun w ⟨n, hn, _⟩ => by omega
  | N + 1 => by
    have ih := best_least hp hs to N
    have hh := here_least hp hs to N
    have hgood := all_good (exP p) (extP p) s (goodS p) hs 4000000 (by omega) (fun e c r he hc hr => ext_ok hp he hc hr)
    unfold bestN
    cases h1 : hereN p s to N with
    | none =>
      rw [h1] at hh
      refine ih.congr fun w => ⟨fun ⟨n, hn, h⟩ => ⟨n, by omega, h⟩, fun ⟨n, hn, h⟩ => ?_⟩
      by_cases e : n = N
      · subst e; exact absurd h (hh w)
      · exact ⟨n, by omega, h⟩
    | some h =>
      rw [h1] at hh
      have hu := least_upd h ih
      have fin : Least (fun w => ∃ n, n < N + 1 ∧ ∃ e, e.step = to ∧ allQ (exP p) (extP p) s n e w) (upd (bestN p s to N) h) := by
        refine hu.dom (fun w hw => ?_) fun w hw => ?_
        · rcases hw with ⟨n, hn, h⟩ | rfl
          · exact ⟨n, by omega, h⟩
          · exact ⟨N, by omega, hh.1⟩
        · obtain ⟨n, hn, hw⟩ := hw
          by_cases e : n = N
          · subst e; exact ⟨h, Or.inr rfl, hh.2 w hw⟩
          · exact ⟨w, Or.inl ⟨n, by omega, hw⟩, lt3_irrefl w⟩
      simp only
      split
      · rename_i hb
        rw [hb] at fin
        exact fin
      · rename_i b hb
        rw [hb] at fin ih
        obtain ⟨⟨m, hm, e, he, hq⟩, -⟩ := ih
        have l1 := (hgood m e b hq).2.1
        obtain ⟨⟨e2, he2, hq2⟩, -⟩ := hh
        have l2 := (hgood N e2 h hq2).2.1
        have hiff : lt3 h b ↔ h.tm < b.tm := by
          unfold lt3
          constructor
          · rintro (h | ⟨_, h | ⟨h, _⟩⟩) <;> omega
          · exact Or.inl
        simp only [upd, hiff] at fin
        exact fin

theorem lookW_keepL : ∀ (l : List (State × Way)) (x : State × Way), lookW (keepL l x) = updG (lookW l) x
  | [], x => by
    funext e
    unfold keepL updG upd
    rw [lookW_cons]
    rfl
  | y :: l, x => by
    funext e
    have ih := congrFun (lookW_keepL l x) e
    have e1 : keepL (y :: l) x = if y.1 = x.1 then (if lt3 x.2 y.2 then x :: l else y :: l) else y :: keepL l x := rfl
    rw [e1]
    unfold updG upd at ih ⊢
    by_cases h : y.1 = x.1
    · rw [if_pos h]
      by_cases h2 : lt3 x.2 y.2
      · rw [if_pos h2, lookW_cons, lookW_cons]
        by_cases h3 : e = x.1
        · rw [if_pos h3, if_pos h3, if_pos (h3.trans h.symm)]; simp only [if_pos h2]
        · rw [if_neg h3, if_neg h3, if_neg fun h4 => h3 (h4.trans h)]
      · rw [if_neg h2, lookW_cons]
        by_cases h3 : e = x.1
        · rw [if_pos h3, if_pos (h3.trans h.symm)]; simp only [if_neg h2]
        · rw [if_neg h3]
    · rw [if_neg h, lookW_cons, lookW_cons]
      by_cases h3 : e = x.1
      · have h4 : ¬ e = y.1 := fun h4 => h (h4.symm.trans h3)
        rw [if_neg h4, ih]; simp only [if_pos h3, if_neg h4]
      · rw [if_neg h3]
        by_cases h4 : e = y.1
        · rw [if_pos h4, if_pos h4]
        · rw [if_neg h4, if_neg h4, ih, if_neg h3]

theorem fold_procR (to : Int) : ∀ (l : List (State × Way)) (a : List (State × Way) × Option (State × Way)),
    lookW (l.foldl (procR to) a).1 = (l.filter fun x => !decide (x.1.step = to)).foldl updG (lookW a.1) ∧ (l.foldl (procR to) a).2.map (·.2) = (atTo to l).foldl upd (a.2.map (·.2))
  | [], a => ⟨rfl, rfl⟩
  | x :: l, a => by
    rw [List.foldl_cons]
    obtain ⟨i1, i2⟩ := fold_procR to l (procR to a x)
    rw [i1, i2]
    unfold procR atTo
    by_cases h : x.1.step = to
    · simp only [h, decide_true, if_true, List.filter_cons, Bool.not_true, Bool.false_eq_true, if_false, List.map_cons, List.foldl_cons, true_and]
      congr 1
      unfold updR upd
      cases a.2 with
      | none => rfl
      | some b =>
        simp only [Option.map_some]
        split <;> rfl
    · simp only [h, decide_false, if_false, List.filter_cons, Bool.not_false, if_true, Bool.false_eq_true, List.foldl_cons, and_true, lookW_keepL]

theorem lookW_nd : ∀ {l : List (State × Way)}, (l.map (·.1)).Nodup → ∀ e w, (e, w) ∈ l ↔ lookW l e = some w
  | [], _, e, w => by simp [lookW]
  | y :: l, h, e, w => by
    rw [List.map_cons, List.nodup_cons] at h
    rw [lookW_cons, List.mem_cons, lookW_nd h.2]
    by_cases c : e = y.1
    · rw [if_pos c]
      constructor
      · rintro (h1 | h1)
        · rw [← h1]
        · have := (lookW_nd h.2 e w).2 h1
          exact absurd (List.mem_map.2 ⟨(e, w), this, c⟩) h.1
      · intro h1; cases h1; left; rw [c]
    · rw [if_neg c]
      constructor
      · rintro (h1 | h1)
        · exact absurd (by rw [← h1]) c
        · exact h1
      · exact Or.inr

theorem refN_least {p : Plan} (hp : OkP p) {s : State} (hs : goodS p s) (to : Int) : ∀ n : Nat, ((refN p s to n).1.map (·.1)).Nodup ∧ (∀ e, Least (awayQ (exP p) (extP p) s to n e) (lookW (refN p s to n).1 e)) ∧ Least (fun w => ∃ m, m < n ∧ Hit (exP p) (extP p) s to m w) ((refN p s to n).2.map (·.2))
  | 0 => by
    refine ⟨by simp [refN], fun e => ?_, fun w ⟨m, hm, _⟩ => by omega⟩
    unfold refN awayQ
    rw [lookW_cons]
    by_cases h : e = s
    · rw [if_pos h]; exact ⟨⟨h, rfl⟩, fun u hu => by rw [hu.2]; exact lt3_irrefl _⟩
    · rw [if_neg h]; exact fun w hw => h hw.1
  | n + 1 => by
    obtain ⟨i1, i2, i3⟩ := refN_least hp hs to n
    have hok := refN_ok hp hs to n
    have hno := NowOK.fold (p := p) (n := n) to ((refN p s to n).1.flatMap (cand1 (exP p) (extP p))) ([], (refN p s to n).2) ⟨by simp, fun y hy => by simp at hy, fun y hy => by simp at hy, hok.best⟩ fun y hy => by
      obtain ⟨x, hx, hy⟩ := List.mem_flatMap.1 hy
      obtain ⟨g1, g2, g3, g4⟩ := hok.ok x hx
      exact cand_ok hp g1 g2 g3 g4 hy
    obtain ⟨f1, f2⟩ := fold_procR to ((refN p s to n).1.flatMap (cand1 (exP p) (extP p))) ([], (refN p s to n).2)
    have hgood := all_good (exP p) (extP p) s (goodS p) hs 4000000 (by omega) (fun e c r he hc hr => ext_ok hp he hc hr) n
    have hlen : ∀ e w, awayQ (exP p) (extP p) s to n e w → w.cs.length = n := fun e w h => (hgood e w (away_all _ _ _ _ n e w h)).2.1
    have e0 : (lookW ([] : List (State × Way))) = fun _ => none := funext fun _ => rfl
    refine ⟨hno.nd, fun e => ?_, ?_⟩
    · have h := least_next (exP p) (extP p) hlen (lookW_nd i1) i2 (fun e => !decide (e.step = to)) e
      show Least _ (lookW (((refN p s to n).1.flatMap (cand1 (exP p) (extP p))).foldl (procR to) ([], (refN p s to n).2)).1 e)
      rw [f1, e0]
      exact h
    · show Least _ ((((refN p s to n).1.flatMap (cand1 (exP p) (extP p))).foldl (procR to) ([], (refN p s to n).2)).2.map (·.2))
      rw [f2]
      have h := least_fold (atTo to ((refN p s to n).1.flatMap (cand1 (exP p) (extP p)))) i3
      have hst := least_step (exP p) (extP p) hlen (lookW_nd i1) i2 (fun e => e.step = to) (o := (atTo to ((refN p s to n).1.flatMap (cand1 (exP p) (extP p)))).foldl upd none) ((least_fold (atTo to ((refN p s to n).1.flatMap (cand1 (exP p) (extP p)))) (P := fun _ => False) (o := none) fun w h => h).congr fun w => by
        simp only [false_or, atTo, List.mem_map, List.mem_filter, decide_eq_true_eq]
        constructor
        · rintro ⟨y, ⟨h1, h2⟩, rfl⟩; exact ⟨y.1, h2, h1⟩
        · rintro ⟨e, h2, h1⟩; exact ⟨(e, w), ⟨h1, h2⟩, rfl⟩)
      refine h.dom (fun w hw => ?_) fun w hw => ?_
      · rcases hw with ⟨m, hm, hw⟩ | hw
        · exact ⟨m, by omega, hw⟩
        · simp only [atTo, List.mem_map, List.mem_filter, decide_eq_true_eq] at hw
          obtain ⟨y, ⟨h1, h2⟩, rfl⟩ := hw
          refine ⟨n, by omega, y.1, h2, ?_⟩
          obtain ⟨x, hx, hy⟩ := List.mem_flatMap.1 h1
          obtain ⟨c, r, hc, hr, e2⟩ := (mem_cand1 _ _ x y).1 hy
          have h3 := i2 x.1
          rw [(lookW_nd i1 x.1 x.2).1 hx] at h3
          exact ⟨x.1, x.2, c, r, h3.1, hc, hr, by rw [e2], by rw [e2]⟩
      · obtain ⟨m, hm, hw⟩ := hw
        by_cases e : m = n
        · subst e
          cases hf : (atTo to ((refN p s to m).1.flatMap (cand1 (exP p) (extP p)))).foldl upd none with
          | none => rw [hf] at hst; exact absurd hw (hst w)
          | some u =>
            rw [hf] at hst
            refine ⟨u, Or.inr ?_, hst.2 w hw⟩
            have h4 := least_fold (atTo to ((refN p s to m).1.flatMap (cand1 (exP p) (extP p)))) (P := fun _ => False) (o := none) fun w h => h
            rw [hf] at h4
            exact h4.1.resolve_left id
        · exact ⟨w, Or.inl ⟨m, by omega, hw⟩, lt3_irrefl w⟩

theorem ref_bestN {p : Plan} (hp : OkP p) {s : State} (hs : goodS p s) (to : Int) (h : s.step ≠ to) (N : Nat) : (refN p s to N).2.map (·.2) = bestN p s to (N + 1) :=
  (refN_least hp hs to N).2.2.unique (least_hit (exP p) (extP p) s to (goodS p) hs 4000000 (by omega) (fun e c r he hc hr => ext_ok hp he hc hr) h N (best_least hp hs to (N + 1)))

theorem ref_best {p : Plan} (hp : OkP p) {s : State} (hs : goodS p s) (to : Int) (h : s.step ≠ to) : (refN p s to 10).2.map (·.2) = bestN p s to 11 := by
  have := ref_bestN hp hs to h 10
  simpa only [Nat.reduceAdd] using this

theorem best_hereN {p : Plan} (hp : OkP p) {s : State} (hs : goodS p s) (to : Int) (h : s.step = to) (N : Nat) : bestN p s to (N + 1) = some ⟨[], 0⟩ := by
  refine (best_least hp hs to (N + 1)).unique ⟨⟨0, by omega, s, h, rfl, rfl⟩, fun u hu hlt => ?_⟩
  obtain ⟨n, hn, e, he, hq⟩ := hu
  have hg := all_good (exP p) (extP p) s (goodS p) hs 4000000 (by omega) (fun e c r he hc hr => ext_ok hp he hc hr) n e u hq
  unfold lt3 at hlt
  simp only [List.length_nil] at hlt
  rcases hlt with h1 | ⟨h1, h2 | ⟨h2, h3⟩⟩
  · omega
  · omega
  · have := List.eq_nil_of_length_eq_zero h2
    rw [this] at h3
    simp [cmpL] at h3

theorem best_here {p : Plan} (hp : OkP p) {s : State} (hs : goodS p s) (to : Int) (h : s.step = to) : bestN p s to 11 = some ⟨[], 0⟩ := by
  have := best_hereN hp hs to h 10
  simpa only [Nat.reduceAdd] using this

theorem pc_Fastest (p : Plan) (hp : OkP p) (hxl : ∀ x ∈ p.steps, x.exits.length ≤ 1000) (s : State) (hs : goodS p s) (to : Int) : ∃ o, pc E 23 [.agg (cPlan p), .agg (cState s), I to] =
    some (.tup [.sl o 1 (ints (wcs (bestN p s to 11))), I (wtm (bestN p s to 11)), .bool (bestN p s to 11).isSome]) ∧ (o = .s ∨ o = .a) := by
  have h := pc_Fastest0 p hp hxl s hs to
  by_cases c : s.step = to
  · rw [if_pos c] at h
    refine ⟨.a, ?_, Or.inr rfl⟩
    rw [h, best_here hp hs to c]; rfl
  · rw [if_neg c] at h
    refine ⟨.s, ?_, Or.inl rfl⟩
    have e := ref_best hp hs to c
    rw [h, e, ← e, Option.isSome_map]

end Go.ViD
end
