import Derived.Test.YtomimhedehecdaaDoorViGHomes
section
/- Ways: until a steady step is entered again. -/
set_option linter.unusedSimpArgs false
set_option linter.unusedVariables false
namespace Go.ViD
open Go.Vi

section
variable (home : State → Bool) (next : State → State × Int × Bool) (N : Nat) (ok : State → Prop)

theorem run_eq_ref' (hN : ∀ B : List State, B.Nodup → (∀ b ∈ B, ok b) → B.length ≤ N) (hn : ∀ s, ok s → (next s).2.2 = true → ok (next s).1) {s : State} (hs : ok s) {M : Nat} (hM : N ≤ M) :
    runL home next (N + 2) [] s = refL home next M s := by
  rw [run_eq_ref home next N ok hN hn hs]
  have key : ∀ m r, refL home next m s = some r → r.length ≤ N := fun m r h => by
    have h1 := ref_run home next m [] s r h fun b hb => by cases hb
    have h2 := run_len home next N ok hN hn _ _ _ _ h1 List.nodup_nil (fun b hb => by cases hb) hs
    simpa using h2
  cases h : refL home next M s with
  | some r => exact ref_less home next M s r h (N + 1) (by have := key M r h; omega)
  | none =>
    cases h2 : refL home next (N + 1) s with
    | none => rfl
    | some r =>
      have := ref_less home next _ s r h2 M (by have := key _ r h2; omega)
      rw [h] at this; cases this
end

theorem wrap_eq (n : Int) : IntKind.i64.wrap n = (n + 9223372036854775808) % 18446744073709551616 - 9223372036854775808 := by
  simp only [IntKind.wrap, IntKind.signed, IntKind.bits, Bool.true_and, decide_eq_true_eq, Nat.reduceSub, Int.reducePow]
  split
  · rename_i h; have := of_decide_eq_true h; omega
  · rename_i h; have := of_decide_eq_false (Bool.not_eq_true _ ▸ h); omega

theorem wrap_assoc (a b c : Int) : IntKind.i64.wrap (a + IntKind.i64.wrap (b + c)) = IntKind.i64.wrap (IntKind.i64.wrap (a + b) + c) := by
  simp only [wrap_eq]; omega

/-- Is a state's step steady? -/
def steadyH (p : Plan) (s : State) : Bool := match p.steps[s.step.toNat]? with
  | some x => (x.wait == 0)
  | none => false

/-- The state after a turn without a command. -/
def nextT (p : Plan) (f : Fault) (s : State) : State × Int × Bool := match p.steps[s.step.toNat]? with
  | some x => ((turnI x s f (-1)).1, (turnI x s f (-1)).2, true)
  | none => (s, 0, false)

theorem steadyH_at {p : Plan} {s : State} {x : Step} (hx : p.steps[s.step.toNat]? = some x) : steadyH p s = (x.wait == 0) := by
  unfold steadyH; rw [hx]
theorem nextT_at {p : Plan} {f : Fault} {s : State} {x : Step} (hx : p.steps[s.step.toNat]? = some x) : nextT p f s = ((turnI x s f (-1)).1, (turnI x s f (-1)).2, true) := by
  unfold nextT; rw [hx]

theorem nextT_ok {p : Plan} (hp : OkP p) {f : Fault} (hf : f.signal < (p.signals.length : Int)) (s : State) (hs : okS p s) (_ : (nextT p f s).2.2 = true) : okS p (nextT p f s).1 := by
  obtain ⟨x, hx⟩ := step_at hs.1
  rw [nextT_at hx]
  exact turnI_ok hp (List.mem_of_getElem? hx) hs hf (Or.inl rfl)

/-- The states until a steady step is entered. -/
def settleL (p : Plan) (f : Fault) (s : State) : Option (List State) := refL (steadyH p) (nextT p f) (nS p) s

theorem settle_run {p : Plan} (hp : OkP p) {f : Fault} (hf : f.signal < (p.signals.length : Int)) {s : State} (hs : okS p s) : runL (steadyH p) (nextT p f) (nS p + 2) [] s = settleL p f s :=
  run_eq_ref' (steadyH p) (nextT p f) (nS p) (okS p) (fun B hB hb => states_le B hB hb) (fun s hs h => nextT_ok hp hf s hs h) hs (Nat.le_refl _)

theorem loop126 (p : Plan) (hp : OkP p) (f : Fault) (hf : f.signal < (p.signals.length : Int)) {t : List Todo} {k : Ex → St → Option V} :
    ∀ (n : Nat) (B out : List State) (s : State) (a : Int) (es : List (V × V)), nS p < n + B.length → B.Nodup → (∀ b ∈ B, okS p b) → okS p s → out.length = B.length → StMap es B →
    U (pc E) (.c (.loop f126l0) :: t) .normal ⟨[(1, .sl .a 2 (cSts (out ++ [s]))), (3, I a), (4, .loc 4 0), (6, .loc 6 0), (11, .mp .x es)], [(4, false, cPlan p), (6, false, cFault f)]⟩ k =
      match runL (steadyH p) (nextT p f) n B s with
      | some l => k .ret ⟨[(8, .sl .s 2 (cSts (out ++ s :: l))), (9, I (accOf (nextT p f) s l a)), (10, .bool true)], []⟩
      | none => k .ret ⟨[(8, .sl .a 2 []), (9, I 0), (10, .bool false)], []⟩
  | 0, B, out, s, a, es, hN, hB, hb, hs, ho, hm => by
    have := states_le B hB hb
    unfold nS at hN
    omega
  | n + 1, B, out, s, a, es, hN, hB, hb, hs, ho, hm => by
    rw [U_loop' f126l0.eq_1]
    obtain ⟨x, hx⟩ := step_at hs.1
    have h1 := pc_isSteady x
    rw [← steadyH_at hx] at h1
    have h2 := pc_turn p s x hs.1.1 hx f (-1)
    have e1 : (nextT p f s).1 = (turnI x s f (-1)).1 := by rw [nextT_at hx]
    have e2 : (nextT p f s).2.1 = (turnI x s f (-1)).2 := by rw [nextT_at hx]
    have e3 : (nextT p f s).2.2 = true := by rw [nextT_at hx]
    rw [← e1, ← e2] at h2
    have hle := states_le B hB hb
    have h320 := nS_le hp
    unfold nS at h320
    have hr : room (out.length + 1 + 1) 16 = true := room_ok (by omega) (by omega)
    have hlk := stMap_look hm s
    have hfit : fits true ks2 (.agg (cState s)) = true := by simp [fits, leq_state]
    have hlast : (cSts (out ++ [s]))[out.length]? = some (cState s) := by simp
    have hw0 : IntKind.i64.wrap (((out.length + 1 : Nat) : Int) - 1) = (out.length : Int) := by rw [wrap_id (by omega) (by omega)]; omega
    have h0 := hs.1.1
    simp only [cFault, cState, cStep] at h1 h2 hlk hfit
    simp only [cSts, List.map_append, List.map_cons, List.map_nil, cState] at hlast
    have hk : ((if decide (s ∈ B) = true then some (V.bool true) else none : Option V).getD (.bool false)) = .bool (decide (s ∈ B)) := by
      cases decide (s ∈ B) <;> rfl
    simp only [runL]
    simp only [cSts, cState, cFault, cSteps, List.map_append, List.map_cons, List.map_nil, List.length_append, List.length_map, hlast, hw0, h0, hx, h1, cStep, List.replicate, List.set, wx, I, exec, resOf, reduceIte, reduceCtorEq, ne_eq, not_false_eq_true, Root.bx.injEq, Root.tm.injEq, Nat.reduceAdd, Nat.reduceBEq, Nat.reduceBNe, Nat.reduceEqDiff, Nat.reduceLT, Nat.reduceLeDiff, Nat.reduceMul, Nat.reduceSub, Int.reduceToNat, Int.reduceEq, Int.reduceBEq, Int.reduceBNe, Int.reduceLT, Int.reduceLE, if_true, if_false, Bool.false_eq_true, decide_true, decide_false, List.zipIdx_nil, bne_self_eq_false]
    rcases Bool.eq_false_or_eq_true (steadyH p s) with c1 | c1
    · simp only [c1, accOf, List.append_nil, wx, I, exec, resOf, reduceIte, reduceCtorEq, ne_eq, not_false_eq_true, Root.bx.injEq, Root.tm.injEq, Nat.reduceAdd, Nat.reduceBEq, Nat.reduceBNe, Nat.reduceEqDiff, Nat.reduceLT, Nat.reduceLeDiff, Nat.reduceMul, Nat.reduceSub, Int.reduceToNat, Int.reduceEq, Int.reduceBEq, Int.reduceBNe, Int.reduceLT, Int.reduceLE, if_true, if_false, Bool.false_eq_true, decide_true, decide_false, List.zipIdx_nil, bne_self_eq_false]
    · rcases Bool.eq_false_or_eq_true (decide (s ∈ B)) with c3 | c3
      · simp only [c1, c3, e3, hlk, hfit, hk, cState, cFault, cSts, List.replicate, List.set, wx, I, exec, resOf, reduceIte, reduceCtorEq, ne_eq, not_false_eq_true, Root.bx.injEq, Root.tm.injEq, Nat.reduceAdd, Nat.reduceBEq, Nat.reduceBNe, Nat.reduceEqDiff, Nat.reduceLT, Nat.reduceLeDiff, Nat.reduceMul, Nat.reduceSub, Int.reduceToNat, Int.reduceEq, Int.reduceBEq, Int.reduceBNe, Int.reduceLT, Int.reduceLE, if_true, if_false, Bool.false_eq_true, decide_true, decide_false, List.zipIdx_nil, bne_self_eq_false]
      · have hnb : s ∉ B := by simpa using c3
        obtain ⟨es', hset, hm'⟩ := stMap_set hm hnb
        simp only [cState] at hset
        have ih := loop126 p hp f hf (t := t) (k := k) n (s :: B) (out ++ [s]) (nextT p f s).1 (IntKind.i64.wrap (a + (nextT p f s).2.1)) es' (by simp only [List.length_cons]; omega) (List.nodup_cons.2 ⟨hnb, hB⟩) (fun b hb' => by
          rcases List.mem_cons.1 hb' with rfl | hb'
          · exact hs
          · exact hb b hb') (nextT_ok hp hf s hs e3) (by simp [ho]) hm'
        simp only [cSts, cState, cFault, List.map_append, List.map_cons, List.map_nil] at ih
        simp only [c1, c3, e3, h2, hlk, hfit, hk, hset, hr, ih, cState, cFault, cSts, List.length_append, List.length_map, List.replicate, List.set, wx, I, exec, resOf, reduceIte, reduceCtorEq, ne_eq, not_false_eq_true, Root.bx.injEq, Root.tm.injEq, Nat.reduceAdd, Nat.reduceBEq, Nat.reduceBNe, Nat.reduceEqDiff, Nat.reduceLT, Nat.reduceLeDiff, Nat.reduceMul, Nat.reduceSub, Int.reduceToNat, Int.reduceEq, Int.reduceBEq, Int.reduceBNe, Int.reduceLT, Int.reduceLE, if_true, if_false, Bool.false_eq_true, decide_true, decide_false, List.zipIdx_nil, bne_self_eq_false]
        cases hrun : runL (steadyH p) (nextT p f) n (s :: B) (nextT p f s).1 with
        | none => simp only [wx, I, exec, resOf, reduceIte, reduceCtorEq, ne_eq, not_false_eq_true, Root.bx.injEq, Root.tm.injEq, Nat.reduceAdd, Nat.reduceBEq, Nat.reduceBNe, Nat.reduceEqDiff, Nat.reduceLT, Nat.reduceLeDiff, Nat.reduceMul, Nat.reduceSub, Int.reduceToNat, Int.reduceEq, Int.reduceBEq, Int.reduceBNe, Int.reduceLT, Int.reduceLE, if_true, if_false, Bool.false_eq_true, decide_true, decide_false, List.zipIdx_nil, bne_self_eq_false]
        | some l => simp only [accOf, List.append_assoc, List.map_append, wx, I, exec, resOf, reduceIte, reduceCtorEq, ne_eq, not_false_eq_true, Root.bx.injEq, Root.tm.injEq, Nat.reduceAdd, Nat.reduceBEq, Nat.reduceBNe, Nat.reduceEqDiff, Nat.reduceLT, Nat.reduceLeDiff, Nat.reduceMul, Nat.reduceSub, Int.reduceToNat, Int.reduceEq, Int.reduceBEq, Int.reduceBNe, Int.reduceLT, Int.reduceLE, if_true, if_false, Bool.false_eq_true, decide_true, decide_false, List.zipIdx_nil, bne_self_eq_false]

/-- The states after a command in a steady step, and its ticks. -/
def cmdL (p : Plan) (x : Step) (f : Fault) (s : State) (c : Int) : Option (List State × Int) :=
  (settleL p f (turnI x s f c).1).map fun l => ((turnI x s f c).1 :: l, accOf (nextT p f) (turnI x s f c).1 l (turnI x s f c).2)

theorem pc_settled (p : Plan) (hp : OkP p) (f : Fault) (hf : f.signal < (p.signals.length : Int)) (s : State) (hs : okS p s) (a : Int) : pc E 126 [.agg (cPlan p), .sl .a 2 [cState s], .agg (cFault f), I a] =
    some (match settleL p f s with
      | some l => .tup [.sl .s 2 (cSts (s :: l)), I (accOf (nextT p f) s l a), .bool true]
      | none => .tup [.sl .a 2 [], I 0, .bool false]) := by
  refine pc_code (mf := f126) rfl ?_
  rw [runF_U rfl]
  have hl := fun t k => loop126 p hp f hf (t := t) (k := k) (nS p + 2) [] [] s a [] (by simp) List.nodup_nil (fun b hb => by cases hb) hs rfl stMap_nil
  rw [settle_run hp hf hs] at hl
  simp only [cSts, List.map_nil, List.nil_append, List.map_cons, cState, cFault] at hl
  simp only [f126, hl, cState, cFault, wx, I, exec, resOf, reduceIte, reduceCtorEq, ne_eq, not_false_eq_true, Root.bx.injEq, Root.tm.injEq, Nat.reduceAdd, Nat.reduceBEq, Nat.reduceBNe, Nat.reduceEqDiff, Nat.reduceLT, Nat.reduceLeDiff, Nat.reduceMul, Nat.reduceSub, Int.reduceToNat, Int.reduceEq, Int.reduceBEq, Int.reduceBNe, Int.reduceLT, Int.reduceLE, if_true, if_false, Bool.false_eq_true, decide_true, decide_false, List.zipIdx_nil, bne_self_eq_false]
  cases h : settleL p f s with
  | none => simp only [wx, I, exec, resOf, reduceIte, reduceCtorEq, ne_eq, not_false_eq_true, Root.bx.injEq, Root.tm.injEq, Nat.reduceAdd, Nat.reduceBEq, Nat.reduceBNe, Nat.reduceEqDiff, Nat.reduceLT, Nat.reduceLeDiff, Nat.reduceMul, Nat.reduceSub, Int.reduceToNat, Int.reduceEq, Int.reduceBEq, Int.reduceBNe, Int.reduceLT, Int.reduceLE, if_true, if_false, Bool.false_eq_true, decide_true, decide_false, List.zipIdx_nil, bne_self_eq_false]
  | some l => simp only [List.map_cons, cState, wx, I, exec, resOf, reduceIte, reduceCtorEq, ne_eq, not_false_eq_true, Root.bx.injEq, Root.tm.injEq, Nat.reduceAdd, Nat.reduceBEq, Nat.reduceBNe, Nat.reduceEqDiff, Nat.reduceLT, Nat.reduceLeDiff, Nat.reduceMul, Nat.reduceSub, Int.reduceToNat, Int.reduceEq, Int.reduceBEq, Int.reduceBNe, Int.reduceLT, Int.reduceLE, if_true, if_false, Bool.false_eq_true, decide_true, decide_false, List.zipIdx_nil, bne_self_eq_false]

theorem pc_commanded (p : Plan) (hp : OkP p) (f : Fault) (hf : f.signal < (p.signals.length : Int)) (s : State) (hs : okS p s) (x : Step) (hx : p.steps[s.step.toNat]? = some x) (c : Int) (hc : c = -1 ∨ (x.wait = 0 → inX p c)) : pc E 97 [.agg (cPlan p), .agg (cState s), .agg (cFault f), I c] =
    some (match cmdL p x f s c with
      | some r => .tup [.sl .s 2 (cSts r.1), I r.2, .bool true]
      | none => .tup [.sl .s 2 [], I 0, .bool false]) := by
  refine pc_code (mf := f97) rfl ?_
  rw [runF_U rfl]
  have h1 := pc_turn p s x hs.1.1 hx f c
  have h2 := pc_settled p hp f hf (turnI x s f c).1 (turnI_ok hp (List.mem_of_getElem? hx) hs hf hc) (turnI x s f c).2
  simp only [cFault, cState] at h1 h2
  unfold cmdL
  cases h : settleL p f (turnI x s f c).1 with
  | none =>
    simp only [h] at h2
    simp only [f97, h1, h2, List.replicate, List.set, wx, I, exec, resOf, reduceIte, reduceCtorEq, ne_eq, not_false_eq_true, Root.bx.injEq, Root.tm.injEq, Nat.reduceAdd, Nat.reduceBEq, Nat.reduceBNe, Nat.reduceEqDiff, Nat.reduceLT, Nat.reduceLeDiff, Nat.reduceMul, Nat.reduceSub, Int.reduceToNat, Int.reduceEq, Int.reduceBEq, Int.reduceBNe, Int.reduceLT, Int.reduceLE, if_true, if_false, Bool.false_eq_true, decide_true, decide_false, List.zipIdx_nil, bne_self_eq_false]
  | some l =>
    simp only [h] at h2
    simp only [f97, h1, h2, cState, List.replicate, List.set, wx, I, exec, resOf, reduceIte, reduceCtorEq, ne_eq, not_false_eq_true, Root.bx.injEq, Root.tm.injEq, Nat.reduceAdd, Nat.reduceBEq, Nat.reduceBNe, Nat.reduceEqDiff, Nat.reduceLT, Nat.reduceLeDiff, Nat.reduceMul, Nat.reduceSub, Int.reduceToNat, Int.reduceEq, Int.reduceBEq, Int.reduceBNe, Int.reduceLT, Int.reduceLE, if_true, if_false, Bool.false_eq_true, decide_true, decide_false, List.zipIdx_nil, bne_self_eq_false]

end Go.ViD
end
section
/- Ways: the program's and the reference's runs. -/
set_option linter.unusedSimpArgs false
set_option linter.unusedVariables false
namespace Go.ViD
open Go.Vi

section
variable (home : State → Bool) (next : State → State × Int × Bool) (ok : State → Prop)

theorem ref_all (hn : ∀ s, ok s → (next s).2.2 = true → ok (next s).1) : ∀ (m : Nat) (s : State) (l : List State), refL home next m s = some l → ok s → home (endS s l) = true ∧ l.length ≤ m ∧ ok (endS s l)
  | m, s, l, h, hs => by
    by_cases h1 : home s = true
    · have : l = [] := by
        cases m <;> simp only [refL, h1, if_true, Option.some.injEq] at h <;> exact h.symm
      subst this
      exact ⟨h1, by simp, hs⟩
    · cases m with
      | zero => simp only [refL] at h; rw [if_neg h1] at h; cases h
      | succ m =>
        simp only [refL] at h
        rw [if_neg h1] at h
        by_cases h2 : (!(next s).2.2) = true
        · rw [if_pos h2] at h; cases h
        · rw [if_neg h2] at h
          obtain ⟨l2, hl2, rfl⟩ := Option.map_eq_some_iff.1 h
          have := ref_all hn m _ l2 hl2 (hn s hs (by simpa using h2))
          exact ⟨this.1, by simp; omega, this.2.2⟩
  termination_by m => m

theorem acc_wrap (a : Int) : ∀ (l : List State) (s : State) (b : Int), IntKind.i64.wrap (a + b) = IntKind.i64.wrap (a + b) → (l = [] → IntKind.i64.wrap (a + b) = IntKind.i64.wrap (a + b)) → IntKind.i64.wrap (a + accOf next s l b) = accOf next s l (IntKind.i64.wrap (a + b))
  | [], s, b, _, _ => rfl
  | s' :: l, s, b, _, _ => by
    simp only [accOf]
    rw [acc_wrap a l s' _ rfl fun _ => rfl, wrap_assoc]
end

theorem endS_last : ∀ (l : List State) (s : State), (s :: l)[l.length]? = some (endS s l)
  | [], s => rfl
  | s' :: l, s => by simpa [endS] using endS_last l s'

/-- The states of a way, its time, and its error. -/
def wayI (p : Plan) (f : Fault) : List Int → State → List State → Int → List State × Int × Int
  | [], _, out, a => (out, a, 0)
  | c :: cs, s, out, a => match p.steps[s.step.toNat]? with
    | none => ([], 0, 0)
    | some x => if hasI x.exits c then (match settleL p f (turnI x s f c).1 with
        | some l => wayI p f cs (endS (turnI x s f c).1 l) (out ++ (turnI x s f c).1 :: l) (accOf (nextT p f) (turnI x s f c).1 l (IntKind.i64.wrap (a + (turnI x s f c).2)))
        | none => ([], 0, 12)) else ([], 0, 24)

/-- What a loop over the commands leaves. -/
noncomputable def doneR (t : List Todo) (k : Ex → St → Option V) (n1 n2 : Nat) (r : List State × Int × Int) : Option V :=
  if r.2.2 = 0 then U (pc E) t (.exit 0) ⟨[(n1, .sl .a 2 (cSts r.1)), (n2, I r.2.1)], []⟩ k else k .ret ⟨[(6, .sl .a 2 []), (7, I 0), (8, I r.2.2)], []⟩

theorem loop51 (p : Plan) (hp : OkP p) (he : ∀ x ∈ p.steps, x.exits.length ≤ 1000) (f : Fault) (hf : f.signal < (p.signals.length : Int)) (cs : List Int) (hl : cs.length ≤ 10) {t : List Todo} {k : Ex → St → Option V} :
    ∀ (m i : Nat) (s : State) (out : List State) (a : Int), i + m = cs.length → okS p s → steadyH p s = true → out.length ≤ 400 * i →
    U (pc E) (.c (.loop f51l0) :: t) .normal ⟨[(4, .loc 4 0), (5, .loc 5 0), (9, .loc 9 0), (11, .sl .a 2 (cSts out)), (12, I a), (48, .sl .s 1 (ints cs)), (49, I cs.length), (50, I i)], [(4, false, cState s), (5, false, [I f.signal, .bool f.on, .sl .s 1 (ints cs)]), (9, false, cPlan p)]⟩ k =
      doneR t k 11 12 (wayI p f (cs.drop i) s out a)
  | 0, i, s, out, a, hm, hs, hst, ho => by
    rw [U_loop' f51l0.eq_1]
    have h0 : ¬ ((i : Int) < (cs.length : Int)) := by omega
    rw [List.drop_eq_nil_of_le (by omega)]
    simp only [ints, h0, wayI, doneR, wx, I, exec, resOf, reduceIte, reduceCtorEq, ne_eq, not_false_eq_true, Root.bx.injEq, Root.tm.injEq, Nat.reduceAdd, Nat.reduceBEq, Nat.reduceBNe, Nat.reduceEqDiff, Nat.reduceLT, Nat.reduceLeDiff, Nat.reduceMul, Nat.reduceSub, Int.reduceToNat, Int.reduceEq, Int.reduceBEq, Int.reduceBNe, Int.reduceLT, Int.reduceLE, if_true, if_false, Bool.false_eq_true, decide_true, decide_false, List.zipIdx_nil, bne_self_eq_false]
  | m + 1, i, s, out, a, hm, hs, hst, ho => by
    rw [U_loop' f51l0.eq_1]
    have h0 : ((i : Int) < (cs.length : Int)) := by omega
    have hx : cs[i]? = some cs[i] := List.getElem?_eq_getElem (by omega)
    have hd : cs.drop i = cs[i] :: cs.drop (i + 1) := List.drop_eq_getElem_cons (by omega)
    have hw := wrap_succ (i := i) (by omega)
    rw [hd]
    generalize cs[i] = c at hx ⊢
    obtain ⟨x, hxx⟩ := step_at hs.1
    have hxm := List.mem_of_getElem? hxx
    have h1 := pc_contains x.exits (by have := he x hxm; omega) c
    have hs0 := hs.1.1
    rw [steadyH_at hxx] at hst
    have hwt : x.wait = 0 := by simpa using hst
    simp only [ints] at h1
    simp only [ints, cSteps, cState, h0, hx, hxx, hs0, h1, wayI, cStep, List.replicate, List.set, wx, I, exec, resOf, reduceIte, reduceCtorEq, ne_eq, not_false_eq_true, Root.bx.injEq, Root.tm.injEq, Nat.reduceAdd, Nat.reduceBEq, Nat.reduceBNe, Nat.reduceEqDiff, Nat.reduceLT, Nat.reduceLeDiff, Nat.reduceMul, Nat.reduceSub, Int.reduceToNat, Int.reduceEq, Int.reduceBEq, Int.reduceBNe, Int.reduceLT, Int.reduceLE, if_true, if_false, Bool.false_eq_true, decide_true, decide_false, List.zipIdx_nil, bne_self_eq_false]
    rcases Bool.eq_false_or_eq_true (hasI x.exits c) with c1 | c1
    · have hcx : x.wait = 0 → inX p c := fun hw => (hp.st x hxm).exits hw c (hasI_mem c1)
      have h2 := pc_commanded p hp f hf s hs x hxx c (Or.inr hcx)
      unfold cmdL at h2
      have ht := turnI_ok hp hxm hs hf (c := c) (Or.inr hcx)
      simp only [cState, cFault] at h2
      cases hse : settleL p f (turnI x s f c).1 with
      | none =>
        simp only [hse, Option.map_none] at h2
        simp only [c1, h2, doneR, List.replicate, List.set, wx, I, exec, resOf, reduceIte, reduceCtorEq, ne_eq, not_false_eq_true, Root.bx.injEq, Root.tm.injEq, Nat.reduceAdd, Nat.reduceBEq, Nat.reduceBNe, Nat.reduceEqDiff, Nat.reduceLT, Nat.reduceLeDiff, Nat.reduceMul, Nat.reduceSub, Int.reduceToNat, Int.reduceEq, Int.reduceBEq, Int.reduceBNe, Int.reduceLT, Int.reduceLE, if_true, if_false, Bool.false_eq_true, decide_true, decide_false, List.zipIdx_nil, bne_self_eq_false]
      | some l =>
        simp only [hse, Option.map_some] at h2
        obtain ⟨r1, r2, r3⟩ := ref_all (steadyH p) (nextT p f) (okS p) (fun s hs h => nextT_ok hp hf s hs h) _ _ l hse ht
        have h320 := nS_le hp
        have ih := loop51 p hp he f hf cs hl (t := t) (k := k) m (i + 1) (endS (turnI x s f c).1 l) (out ++ (turnI x s f c).1 :: l) (accOf (nextT p f) (turnI x s f c).1 l (IntKind.i64.wrap (a + (turnI x s f c).2))) (by omega) r3 r1 (by simp; omega)
        have hr : room (out.length + (l.length + 1)) 16 = true := room_ok (by omega) (by omega)
        have hlf : ((cSts ((turnI x s f c).1 :: l)).all fun y => y.all leaf) = true := by simp [leaf]
        have hw0 : IntKind.i64.wrap (((l.length + 1 : Nat) : Int) - 1) = (l.length : Int) := by rw [wrap_id (by omega) (by omega)]; omega
        have hlast : (cSts ((turnI x s f c).1 :: l))[l.length]? = some (cState (endS (turnI x s f c).1 l)) := by
          rw [List.getElem?_map, endS_last]; rfl
        have hacc := acc_wrap (nextT p f) a l (turnI x s f c).1 (turnI x s f c).2 rfl fun _ => rfl
        simp only [ints, cSts, cState, List.map_append, List.map_cons] at ih hlf hlast
        simp only [c1, h2, hr, hlf, hw0, hlast, hacc, hw, ih, ints, cSts, cState, List.map_cons, List.length_map, List.length_cons, List.replicate, List.set, wx, I, exec, resOf, reduceIte, reduceCtorEq, ne_eq, not_false_eq_true, Root.bx.injEq, Root.tm.injEq, Nat.reduceAdd, Nat.reduceBEq, Nat.reduceBNe, Nat.reduceEqDiff, Nat.reduceLT, Nat.reduceLeDiff, Nat.reduceMul, Nat.reduceSub, Int.reduceToNat, Int.reduceEq, Int.reduceBEq, Int.reduceBNe, Int.reduceLT, Int.reduceLE, if_true, if_false, Bool.false_eq_true, decide_true, decide_false, List.zipIdx_nil, bne_self_eq_false]
    · simp only [c1, doneR, wx, I, exec, resOf, reduceIte, reduceCtorEq, ne_eq, not_false_eq_true, Root.bx.injEq, Root.tm.injEq, Nat.reduceAdd, Nat.reduceBEq, Nat.reduceBNe, Nat.reduceEqDiff, Nat.reduceLT, Nat.reduceLeDiff, Nat.reduceMul, Nat.reduceSub, Int.reduceToNat, Int.reduceEq, Int.reduceBEq, Int.reduceBNe, Int.reduceLT, Int.reduceLE, if_true, if_false, Bool.false_eq_true, decide_true, decide_false, List.zipIdx_nil, bne_self_eq_false]

theorem pc_copyRun (f : Fault) (cs : List Int) (hl : cs.length ≤ 1000) : pc E 52 [.agg [I f.signal, .bool f.on, .sl .s 1 (ints cs)]] = some (.agg [I f.signal, .bool f.on, .sl .s 1 (ints cs)]) := by
  refine pc_code (mf := f52) rfl ?_
  rw [runF_U rfl]
  have h := pc_copyInts cs (by omega)
  simp only [ints] at h
  simp only [f52, ints, h, List.replicate, List.set, wx, I, exec, resOf, reduceIte, reduceCtorEq, ne_eq, not_false_eq_true, Root.bx.injEq, Root.tm.injEq, Nat.reduceAdd, Nat.reduceBEq, Nat.reduceBNe, Nat.reduceEqDiff, Nat.reduceLT, Nat.reduceLeDiff, Nat.reduceMul, Nat.reduceSub, Int.reduceToNat, Int.reduceEq, Int.reduceBEq, Int.reduceBNe, Int.reduceLT, Int.reduceLE, if_true, if_false, Bool.false_eq_true, decide_true, decide_false, List.zipIdx_nil, bne_self_eq_false]

/-- The error of a way before it begins. -/
def preE (x : Step) (cs : List Int) : Int := fst1 [unl (x.wait == 0) 20, unl (decide ((cs.length : Int) ≤ 10)) 8]

/-- The states and the time of a way, or its error. -/
def runI (p : Plan) (f : Fault) (x : Step) (s : State) (cs : List Int) : List State × Int × Int :=
  if preE x cs = 0 then (if (wayI p f cs s [] 0).2.2 = 0 then wayI p f cs s [] 0 else ([], 0, (wayI p f cs s [] 0).2.2)) else ([], 0, preE x cs)

theorem pre_zero {x : Step} {cs : List Int} (h : preE x cs = 0) : x.wait = 0 ∧ cs.length ≤ 10 := by
  have hs := (fst1_zero _).1 h
  have h1 := (unl_zero (by decide)).1 (hs (unl (x.wait == 0) 20) (by simp))
  have h2 := (unl_zero (by decide)).1 (hs (unl (decide ((cs.length : Int) ≤ 10)) 8) (by simp))
  simp only [decide_eq_true_eq] at h2
  exact ⟨by simpa using h1, by omega⟩

theorem pc_RunOf_bad (p : Plan) (hp : few p = true) (s : State) (f : Fault) (cs : List Int) (c : ¬ bothE p s f = 0) : pc E 51 [.agg (cPlan p), .agg (cState s), .agg [I f.signal, .bool f.on, .sl .s 1 (ints cs)]] = some (.tup [.sl .a 2 [], I 0, I (bothE p s f)]) := by
  refine pc_code (mf := f51) rfl ?_
  rw [runF_U rfl]
  have h1 := pc_openState p hp s f
  simp only [cFault, cState] at h1
  have c2 : (bothE p s f != 0) = true := by simp [c]
  have c3 : (bothE p s f == 0) = false := by simp [c]
  simp only [f51, h1, c, c2, c3, List.replicate, List.set, wx, I, exec, resOf, reduceIte, reduceCtorEq, ne_eq, not_false_eq_true, Root.bx.injEq, Root.tm.injEq, Nat.reduceAdd, Nat.reduceBEq, Nat.reduceBNe, Nat.reduceEqDiff, Nat.reduceLT, Nat.reduceLeDiff, Nat.reduceMul, Nat.reduceSub, Int.reduceToNat, Int.reduceEq, Int.reduceBEq, Int.reduceBNe, Int.reduceLT, Int.reduceLE, if_true, if_false, Bool.false_eq_true, decide_true, decide_false, List.zipIdx_nil, bne_self_eq_false]

theorem pc_RunOf (p : Plan) (hp : few p = true) (s : State) (f : Fault) (cs : List Int) (c : bothE p s f = 0) (x : Step) (hx : p.steps[s.step.toNat]? = some x) : pc E 51 [.agg (cPlan p), .agg (cState s), .agg [I f.signal, .bool f.on, .sl .s 1 (ints cs)]] =
    some (.tup [.sl (if (runI p f x s cs).2.2 = 0 then .s else .a) 2 (cSts (runI p f x s cs).1), I (runI p f x s cs).2.1, I (runI p f x s cs).2.2]) := by
  refine pc_code (mf := f51) rfl ?_
  rw [runF_U rfl]
  have h1 := pc_openState p hp s f
  obtain ⟨c1, c2, c3⟩ := both_of c
  have hs := okS_of c2
  have h2 := pc_isSteady x
  have hs0 := hs.1.1
  have e1 : fst1 [unl (x.wait == 0) 20, unl (decide ((cs.length : Int) ≤ 10)) 8] = preE x cs := rfl
  simp only [cFault, cState, cStep] at h1 h2
  simp only [f51, h1, c, hx, hs0, h2, e1, ints, cSteps, cStep, pc_unless, pc_first2, List.replicate, List.set, wx, I, exec, resOf, reduceIte, reduceCtorEq, ne_eq, not_false_eq_true, Root.bx.injEq, Root.tm.injEq, Nat.reduceAdd, Nat.reduceBEq, Nat.reduceBNe, Nat.reduceEqDiff, Nat.reduceLT, Nat.reduceLeDiff, Nat.reduceMul, Nat.reduceSub, Int.reduceToNat, Int.reduceEq, Int.reduceBEq, Int.reduceBNe, Int.reduceLT, Int.reduceLE, if_true, if_false, Bool.false_eq_true, decide_true, decide_false, List.zipIdx_nil, bne_self_eq_false]
  unfold runI
  by_cases g : preE x cs = 0
  · obtain ⟨g1, g2⟩ := pre_zero g
    have hl := fun t k => loop51 p (okP_of c1) (fun x hx => by have := ((few_get hp).2.2.2 x hx).2; omega) f (okF_of c3).2 cs g2 (t := t) (k := k) cs.length 0 s [] 0 (by simp) hs (by rw [steadyH_at hx]; simp [g1]) (by simp)
    simp only [ints, cSts, cState, List.map_nil, List.drop_zero, Int.cast_ofNat_Int] at hl
    simp only [g, hl, doneR, cState, wx, I, exec, resOf, reduceIte, reduceCtorEq, ne_eq, not_false_eq_true, Root.bx.injEq, Root.tm.injEq, Nat.reduceAdd, Nat.reduceBEq, Nat.reduceBNe, Nat.reduceEqDiff, Nat.reduceLT, Nat.reduceLeDiff, Nat.reduceMul, Nat.reduceSub, Int.reduceToNat, Int.reduceEq, Int.reduceBEq, Int.reduceBNe, Int.reduceLT, Int.reduceLE, if_true, if_false, Bool.false_eq_true, decide_true, decide_false, List.zipIdx_nil, bne_self_eq_false]
    by_cases r : (wayI p f cs s [] 0).2.2 = 0
    · simp only [r, wx, I, exec, resOf, reduceIte, reduceCtorEq, ne_eq, not_false_eq_true, Root.bx.injEq, Root.tm.injEq, Nat.reduceAdd, Nat.reduceBEq, Nat.reduceBNe, Nat.reduceEqDiff, Nat.reduceLT, Nat.reduceLeDiff, Nat.reduceMul, Nat.reduceSub, Int.reduceToNat, Int.reduceEq, Int.reduceBEq, Int.reduceBNe, Int.reduceLT, Int.reduceLE, if_true, if_false, Bool.false_eq_true, decide_true, decide_false, List.zipIdx_nil, bne_self_eq_false]
    · simp only [r, List.map_nil, wx, I, exec, resOf, reduceIte, reduceCtorEq, ne_eq, not_false_eq_true, Root.bx.injEq, Root.tm.injEq, Nat.reduceAdd, Nat.reduceBEq, Nat.reduceBNe, Nat.reduceEqDiff, Nat.reduceLT, Nat.reduceLeDiff, Nat.reduceMul, Nat.reduceSub, Int.reduceToNat, Int.reduceEq, Int.reduceBEq, Int.reduceBNe, Int.reduceLT, Int.reduceLE, if_true, if_false, Bool.false_eq_true, decide_true, decide_false, List.zipIdx_nil, bne_self_eq_false]
  · have g1 : (preE x cs != 0) = true := by simp [g]
    simp only [g, g1, List.map_nil, wx, I, exec, resOf, reduceIte, reduceCtorEq, ne_eq, not_false_eq_true, Root.bx.injEq, Root.tm.injEq, Nat.reduceAdd, Nat.reduceBEq, Nat.reduceBNe, Nat.reduceEqDiff, Nat.reduceLT, Nat.reduceLeDiff, Nat.reduceMul, Nat.reduceSub, Int.reduceToNat, Int.reduceEq, Int.reduceBEq, Int.reduceBNe, Int.reduceLT, Int.reduceLE, if_true, if_false, Bool.false_eq_true, decide_true, decide_false, List.zipIdx_nil, bne_self_eq_false]

end Go.ViD
end
section
/- Ways: the reference's run. -/
set_option linter.unusedSimpArgs false
set_option linter.unusedVariables false
namespace Go.ViD
open Go.Vi

theorem loop53b (p : Plan) (hp : OkP p) (f : Fault) (hf : f.signal < (p.signals.length : Int)) (cs : List Int) (ci : Int) {t : List Todo} {k : Ex → St → Option V} :
    ∀ (m : Nat) (s : State) (out : List State) (a : Int) (tn : Nat), m + tn = nS p → okS p s → out.length + m ≤ 900000 →
    U (pc E) (.c (.loop f53l1) :: t) .normal ⟨[(3, .loc 3 0), (4, .loc 4 0), (5, .loc 5 0), (9, .sl .a 2 (cSts out)), (10, I a), (11, I ci), (12, .loc 12 0), (14, I tn)], [(3, false, cPlan p), (4, false, cState s), (5, false, [I f.signal, .bool f.on, .sl .s 1 (ints cs)]), (12, false, cState s)]⟩ k =
      match refL (steadyH p) (nextT p f) m s with
      | some l => U (pc E) t (.exit 2) ⟨[(3, .loc 3 0), (4, .loc 4 0), (5, .loc 5 0), (9, .sl .a 2 (cSts (out ++ l))), (10, I (accOf (nextT p f) s l a)), (11, I ci)], [(3, false, cPlan p), (4, false, cState (endS s l)), (5, false, [I f.signal, .bool f.on, .sl .s 1 (ints cs)])]⟩ k
      | none => k .ret ⟨[(6, .sl .a 2 []), (7, I 0), (8, I 12)], []⟩
  | m, s, out, a, tn, hm, hs, ho => by
    rw [U_loop' f53l1.eq_1]
    obtain ⟨x, hx⟩ := step_at hs.1
    have h0 := hs.1.1
    have h2 := pc_turnR p s x hs.1.1 hx f hp hs.2 hf (-1) (by omega)
    have e1 : (nextT p f s).1 = (turnI x s f (-1)).1 := by rw [nextT_at hx]
    have e2 : (nextT p f s).2.1 = (turnI x s f (-1)).2 := by rw [nextT_at hx]
    have e3 : (nextT p f s).2.2 = true := by rw [nextT_at hx]
    rw [← e1, ← e2] at h2
    have hsH := steadyH_at hx
    have h320 := nS_le hp
    have hsets := sets_eq p (by have := hp.sg; omega)
    have hmul : IntKind.i64.wrap (((2 ^ p.signals.length : Nat) : Int) * (p.steps.length : Int)) = (nS p : Int) := by
      have e : ((2 ^ p.signals.length : Nat) : Int) * (p.steps.length : Int) = ((nS p : Nat) : Int) := by
        unfold nS; rw [Nat.mul_comm]; exact (Int.natCast_mul _ _).symm
      rw [e, wrap_id (by omega) (by omega)]
    have hw : IntKind.i64.wrap ((tn : Int) + 1) = ((tn + 1 : Nat) : Int) := wrap_succ (by omega)
    have hr : room (out.length + 1) 16 = true := room_ok (by omega) (by omega)
    simp only [cFault, cState] at h2
    rcases Bool.eq_false_or_eq_true (x.wait == 0) with c1 | c1
    · have hz : refL (steadyH p) (nextT p f) m s = some [] := by cases m <;> simp only [refL, hsH, c1, if_true]
      simp only [hz, h0, hx, bneB, c1, cSteps, cStep, accOf, endS, List.append_nil, wx, I, exec, resOf, reduceIte, reduceCtorEq, ne_eq, not_false_eq_true, Root.bx.injEq, Root.tm.injEq, Nat.reduceAdd, Nat.reduceBEq, Nat.reduceBNe, Nat.reduceEqDiff, Nat.reduceLT, Nat.reduceLeDiff, Nat.reduceMul, Nat.reduceSub, Int.reduceToNat, Int.reduceEq, Int.reduceBEq, Int.reduceBNe, Int.reduceLT, Int.reduceLE, if_true, if_false, Bool.false_eq_true, decide_true, decide_false, List.zipIdx_nil, bne_self_eq_false]
    · rw [c1] at hsH
      cases m with
      | zero =>
        have c3 : decide (((tn + 1 : Nat) : Int) > (nS p : Int)) = true := by simp; omega
        have hz : refL (steadyH p) (nextT p f) 0 s = none := by simp only [refL, hsH, Bool.false_eq_true, if_false]
        simp only [hz, h0, hx, bneB, c1, h2, hw, hsets, hmul, c3, hr, cSteps, cStep, cSts, cState, List.length_map, List.replicate, List.set, wx, I, exec, resOf, reduceIte, reduceCtorEq, ne_eq, not_false_eq_true, Root.bx.injEq, Root.tm.injEq, Nat.reduceAdd, Nat.reduceBEq, Nat.reduceBNe, Nat.reduceEqDiff, Nat.reduceLT, Nat.reduceLeDiff, Nat.reduceMul, Nat.reduceSub, Int.reduceToNat, Int.reduceEq, Int.reduceBEq, Int.reduceBNe, Int.reduceLT, Int.reduceLE, if_true, if_false, Bool.false_eq_true, decide_true, decide_false, List.zipIdx_nil, bne_self_eq_false]
      | succ m =>
        have c3 : decide (((tn + 1 : Nat) : Int) > (nS p : Int)) = false := by simp; omega
        have hz : refL (steadyH p) (nextT p f) (m + 1) s = (refL (steadyH p) (nextT p f) m (nextT p f s).1).map ((nextT p f s).1 :: ·) := by simp only [refL, hsH, e3, Bool.false_eq_true, if_false, Bool.not_true]
        have ih := loop53b p hp f hf cs ci (t := t) (k := k) m (nextT p f s).1 (out ++ [(nextT p f s).1]) (IntKind.i64.wrap (a + (nextT p f s).2.1)) (tn + 1) (by omega) (nextT_ok hp hf s hs e3) (by simp; omega)
        simp only [ints, cSts, cState, List.map_append, List.map_cons, List.map_nil] at ih
        simp only [hz, h0, hx, bneB, c1, h2, hw, hsets, hmul, c3, hr, ih, ints, cSteps, cStep, cSts, cState, List.length_map, List.replicate, List.set, wx, I, exec, resOf, reduceIte, reduceCtorEq, ne_eq, not_false_eq_true, Root.bx.injEq, Root.tm.injEq, Nat.reduceAdd, Nat.reduceBEq, Nat.reduceBNe, Nat.reduceEqDiff, Nat.reduceLT, Nat.reduceLeDiff, Nat.reduceMul, Nat.reduceSub, Int.reduceToNat, Int.reduceEq, Int.reduceBEq, Int.reduceBNe, Int.reduceLT, Int.reduceLE, if_true, if_false, Bool.false_eq_true, decide_true, decide_false, List.zipIdx_nil, bne_self_eq_false]
        cases hrun : refL (steadyH p) (nextT p f) m (nextT p f s).1 with
        | none => simp only [wx, I, exec, resOf, reduceIte, reduceCtorEq, ne_eq, not_false_eq_true, Root.bx.injEq, Root.tm.injEq, Nat.reduceAdd, Nat.reduceBEq, Nat.reduceBNe, Nat.reduceEqDiff, Nat.reduceLT, Nat.reduceLeDiff, Nat.reduceMul, Nat.reduceSub, Int.reduceToNat, Int.reduceEq, Int.reduceBEq, Int.reduceBNe, Int.reduceLT, Int.reduceLE, if_true, if_false, Bool.false_eq_true, decide_true, decide_false, List.zipIdx_nil, bne_self_eq_false]
        | some l => simp only [accOf, endS, List.append_assoc, List.map_append, cState, wx, I, exec, resOf, reduceIte, reduceCtorEq, ne_eq, not_false_eq_true, Root.bx.injEq, Root.tm.injEq, Nat.reduceAdd, Nat.reduceBEq, Nat.reduceBNe, Nat.reduceEqDiff, Nat.reduceLT, Nat.reduceLeDiff, Nat.reduceMul, Nat.reduceSub, Int.reduceToNat, Int.reduceEq, Int.reduceBEq, Int.reduceBNe, Int.reduceLT, Int.reduceLE, if_true, if_false, Bool.false_eq_true, decide_true, decide_false, List.zipIdx_nil, bne_self_eq_false]
  termination_by m => m

theorem loop53a (p : Plan) (hp : OkP p) (he : ∀ x ∈ p.steps, x.exits.length ≤ 1000) (f : Fault) (hf : f.signal < (p.signals.length : Int)) (cs : List Int) (hl : cs.length ≤ 10) {t : List Todo} {k : Ex → St → Option V} :
    ∀ (m i : Nat) (s : State) (out : List State) (a : Int), i + m = cs.length → okS p s → steadyH p s = true → out.length ≤ 400 * i →
    U (pc E) (.c (.loop f53l0) :: t) .normal ⟨[(3, .loc 3 0), (4, .loc 4 0), (5, .loc 5 0), (9, .sl .a 2 (cSts out)), (10, I a), (11, I i)], [(3, false, cPlan p), (4, false, cState s), (5, false, [I f.signal, .bool f.on, .sl .s 1 (ints cs)])]⟩ k =
      doneR t k 9 10 (wayI p f (cs.drop i) s out a)
  | 0, i, s, out, a, hm, hs, hst, ho => by
    rw [U_loop' f53l0.eq_1]
    have h0 : ¬ ((i : Int) < (cs.length : Int)) := by omega
    rw [List.drop_eq_nil_of_le (by omega)]
    simp only [ints, h0, wayI, doneR, wx, I, exec, resOf, reduceIte, reduceCtorEq, ne_eq, not_false_eq_true, Root.bx.injEq, Root.tm.injEq, Nat.reduceAdd, Nat.reduceBEq, Nat.reduceBNe, Nat.reduceEqDiff, Nat.reduceLT, Nat.reduceLeDiff, Nat.reduceMul, Nat.reduceSub, Int.reduceToNat, Int.reduceEq, Int.reduceBEq, Int.reduceBNe, Int.reduceLT, Int.reduceLE, if_true, if_false, Bool.false_eq_true, decide_true, decide_false, List.zipIdx_nil, bne_self_eq_false]
  | m + 1, i, s, out, a, hm, hs, hst, ho => by
    rw [U_loop' f53l0.eq_1]
    have h0 : ((i : Int) < (cs.length : Int)) := by omega
    have hx : cs[i]? = some cs[i] := List.getElem?_eq_getElem (by omega)
    have hd : cs.drop i = cs[i] :: cs.drop (i + 1) := List.drop_eq_getElem_cons (by omega)
    have hw := wrap_succ (i := i) (by omega)
    rw [hd]
    generalize cs[i] = c at hx ⊢
    obtain ⟨x, hxx⟩ := step_at hs.1
    have hxm := List.mem_of_getElem? hxx
    have h1 := pc_permitted p s x hs.1.1 hxx (he x hxm) c
    have hs0 := hs.1.1
    rw [steadyH_at hxx] at hst
    have hwt : x.wait = 0 := by simpa using hst
    have hneg : c < 0 → hasI x.exits c = false := fun hc => by
      cases h : hasI x.exits c
      · rfl
      · have := ((hp.st x hxm).exits hwt c (hasI_mem h)).1; omega
    simp only [cState] at h1
    simp only [ints, cState, h0, hx, hxx, wayI, List.replicate, List.set, wx, I, exec, resOf, reduceIte, reduceCtorEq, ne_eq, not_false_eq_true, Root.bx.injEq, Root.tm.injEq, Nat.reduceAdd, Nat.reduceBEq, Nat.reduceBNe, Nat.reduceEqDiff, Nat.reduceLT, Nat.reduceLeDiff, Nat.reduceMul, Nat.reduceSub, Int.reduceToNat, Int.reduceEq, Int.reduceBEq, Int.reduceBNe, Int.reduceLT, Int.reduceLE, if_true, if_false, Bool.false_eq_true, decide_true, decide_false, List.zipIdx_nil, bne_self_eq_false]
    by_cases c0 : c < 0
    · simp only [c0, hneg c0, doneR, wx, I, exec, resOf, reduceIte, reduceCtorEq, ne_eq, not_false_eq_true, Root.bx.injEq, Root.tm.injEq, Nat.reduceAdd, Nat.reduceBEq, Nat.reduceBNe, Nat.reduceEqDiff, Nat.reduceLT, Nat.reduceLeDiff, Nat.reduceMul, Nat.reduceSub, Int.reduceToNat, Int.reduceEq, Int.reduceBEq, Int.reduceBNe, Int.reduceLT, Int.reduceLE, if_true, if_false, Bool.false_eq_true, decide_true, decide_false, List.zipIdx_nil, bne_self_eq_false]
    · have hm1 : (c == -1) = false := by simp; omega
      rw [hm1, hst, Bool.false_or, Bool.true_and] at h1
      simp only [c0, h1, hx, wx, I, exec, resOf, reduceIte, reduceCtorEq, ne_eq, not_false_eq_true, Root.bx.injEq, Root.tm.injEq, Nat.reduceAdd, Nat.reduceBEq, Nat.reduceBNe, Nat.reduceEqDiff, Nat.reduceLT, Nat.reduceLeDiff, Nat.reduceMul, Nat.reduceSub, Int.reduceToNat, Int.reduceEq, Int.reduceBEq, Int.reduceBNe, Int.reduceLT, Int.reduceLE, if_true, if_false, Bool.false_eq_true, decide_true, decide_false, List.zipIdx_nil, bne_self_eq_false]
      rcases Bool.eq_false_or_eq_true (hasI x.exits c) with c1 | c1
      · have hcx : x.wait = 0 → inX p c := fun hw => (hp.st x hxm).exits hw c (hasI_mem c1)
        have h2 := pc_turnR p s x hs.1.1 hxx f hp hs.2 hf c (by omega)
        have ht := turnI_ok hp hxm hs hf (c := c) (Or.inr hcx)
        have h320 := nS_le hp
        have hr : room (out.length + 1) 16 = true := room_ok (by omega) (by omega)
        have hlb := fun t k => loop53b p hp f hf cs (i : Int) (t := t) (k := k) (nS p) (turnI x s f c).1 (out ++ [(turnI x s f c).1]) (IntKind.i64.wrap (a + (turnI x s f c).2)) 0 (by omega) ht (by simp; omega)
        have es : refL (steadyH p) (nextT p f) (nS p) (turnI x s f c).1 = settleL p f (turnI x s f c).1 := rfl
        rw [es] at hlb
        simp only [cState, cFault] at h2
        simp only [ints, cSts, cState, List.map_append, List.map_cons, List.map_nil, Int.cast_ofNat_Int] at hlb
        cases hse : settleL p f (turnI x s f c).1 with
        | none =>
          simp only [hse] at hlb
          simp only [c1, h2, hx, hr, hlb, ints, cSts, cState, doneR, List.length_map, List.replicate, List.set, wx, I, exec, resOf, reduceIte, reduceCtorEq, ne_eq, not_false_eq_true, Root.bx.injEq, Root.tm.injEq, Nat.reduceAdd, Nat.reduceBEq, Nat.reduceBNe, Nat.reduceEqDiff, Nat.reduceLT, Nat.reduceLeDiff, Nat.reduceMul, Nat.reduceSub, Int.reduceToNat, Int.reduceEq, Int.reduceBEq, Int.reduceBNe, Int.reduceLT, Int.reduceLE, if_true, if_false, Bool.false_eq_true, decide_true, decide_false, List.zipIdx_nil, bne_self_eq_false]
        | some l =>
          simp only [hse] at hlb
          obtain ⟨r1, r2, r3⟩ := ref_all (steadyH p) (nextT p f) (okS p) (fun s hs h => nextT_ok hp hf s hs h) _ _ l hse ht
          have ih := loop53a p hp he f hf cs hl (t := t) (k := k) m (i + 1) (endS (turnI x s f c).1 l) (out ++ (turnI x s f c).1 :: l) (accOf (nextT p f) (turnI x s f c).1 l (IntKind.i64.wrap (a + (turnI x s f c).2))) (by omega) r3 r1 (by simp; omega)
          simp only [ints, cSts, cState, List.map_append, List.map_cons] at ih
          simp only [c1, h2, hx, hr, hlb, hw, ih, ints, cSts, cState, List.append_assoc, List.cons_append, List.nil_append, List.map_append, List.map_cons, List.length_map, List.replicate, List.set, wx, I, exec, resOf, reduceIte, reduceCtorEq, ne_eq, not_false_eq_true, Root.bx.injEq, Root.tm.injEq, Nat.reduceAdd, Nat.reduceBEq, Nat.reduceBNe, Nat.reduceEqDiff, Nat.reduceLT, Nat.reduceLeDiff, Nat.reduceMul, Nat.reduceSub, Int.reduceToNat, Int.reduceEq, Int.reduceBEq, Int.reduceBNe, Int.reduceLT, Int.reduceLE, if_true, if_false, Bool.false_eq_true, decide_true, decide_false, List.zipIdx_nil, bne_self_eq_false]
      · simp only [c1, doneR, wx, I, exec, resOf, reduceIte, reduceCtorEq, ne_eq, not_false_eq_true, Root.bx.injEq, Root.tm.injEq, Nat.reduceAdd, Nat.reduceBEq, Nat.reduceBNe, Nat.reduceEqDiff, Nat.reduceLT, Nat.reduceLeDiff, Nat.reduceMul, Nat.reduceSub, Int.reduceToNat, Int.reduceEq, Int.reduceBEq, Int.reduceBNe, Int.reduceLT, Int.reduceLE, if_true, if_false, Bool.false_eq_true, decide_true, decide_false, List.zipIdx_nil, bne_self_eq_false]

end Go.ViD
end
