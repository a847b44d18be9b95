import Derived.Test.YtomimhedehecdaaDoorViGPlanB
section
/- Turns: what the program's functions answer. -/
set_option linter.unusedSimpArgs false
set_option linter.unusedVariables false
namespace Go.ViD
open Go.Vi

abbrev bd (a b : Int) : Int := band .i64 a b
abbrev bn (a b : Int) : Int := bandn .i64 a b

/-- The set of one signal. -/
def bit (n : Int) : Int := IntKind.i64.wrap (1 * 2 ^ (min n.toNat 64))

/-- What is seen of a set. -/
def seenI (set : Int) (f : Fault) : Int := if decide (f.signal < 0) then set else if f.on then bor .i64 set (bit f.signal) else bandn .i64 set (bit f.signal)

def lacks (set of : Int) : Bool := bandn .i64 of set != 0

theorem pc_seen (set : Int) (f : Fault) : pc E 92 [I set, .agg (cFault f)] = some (I (seenI set f)) := by
  refine pc_code (mf := f92) rfl ?_
  rw [runF_U rfl]
  simp only [f92, seenI, wx, I, exec, resOf, reduceIte, reduceCtorEq, ne_eq, not_false_eq_true, Root.bx.injEq, Root.tm.injEq, Nat.reduceAdd, Nat.reduceBEq, Nat.reduceBNe, Nat.reduceEqDiff, Nat.reduceLT, Nat.reduceLeDiff, Nat.reduceMul, Nat.reduceSub, Int.reduceToNat, Int.reduceEq, Int.reduceBEq, Int.reduceBNe, Int.reduceLT, Int.reduceLE, if_true, if_false, Bool.false_eq_true, decide_true, decide_false, List.zipIdx_nil, bne_self_eq_false]
  by_cases h : f.signal < 0
  · simp only [h, wx, I, exec, resOf, reduceIte, reduceCtorEq, ne_eq, not_false_eq_true, Root.bx.injEq, Root.tm.injEq, Nat.reduceAdd, Nat.reduceBEq, Nat.reduceBNe, Nat.reduceEqDiff, Nat.reduceLT, Nat.reduceLeDiff, Nat.reduceMul, Nat.reduceSub, Int.reduceToNat, Int.reduceEq, Int.reduceBEq, Int.reduceBNe, Int.reduceLT, Int.reduceLE, if_true, if_false, Bool.false_eq_true, decide_true, decide_false, List.zipIdx_nil, bne_self_eq_false]
  · have h2 : (0 : Int) ≤ f.signal := by omega
    simp only [h, wx, I, exec, resOf, reduceIte, reduceCtorEq, ne_eq, not_false_eq_true, Root.bx.injEq, Root.tm.injEq, Nat.reduceAdd, Nat.reduceBEq, Nat.reduceBNe, Nat.reduceEqDiff, Nat.reduceLT, Nat.reduceLeDiff, Nat.reduceMul, Nat.reduceSub, Int.reduceToNat, Int.reduceEq, Int.reduceBEq, Int.reduceBNe, Int.reduceLT, Int.reduceLE, if_true, if_false, Bool.false_eq_true, decide_true, decide_false, List.zipIdx_nil, bne_self_eq_false]
    cases h3 : f.on <;> simp only [h2, bit, IntKind.bits, wx, I, exec, resOf, reduceIte, reduceCtorEq, ne_eq, not_false_eq_true, Root.bx.injEq, Root.tm.injEq, Nat.reduceAdd, Nat.reduceBEq, Nat.reduceBNe, Nat.reduceEqDiff, Nat.reduceLT, Nat.reduceLeDiff, Nat.reduceMul, Nat.reduceSub, Int.reduceToNat, Int.reduceEq, Int.reduceBEq, Int.reduceBNe, Int.reduceLT, Int.reduceLE, if_true, if_false, Bool.false_eq_true, decide_true, decide_false, List.zipIdx_nil, bne_self_eq_false]

theorem pc_lacks (set of : Int) : pc E 124 [I set, I of] = some (.bool (lacks set of)) := by
  refine pc_code (mf := f124) rfl ?_
  rw [runF_U rfl]
  simp only [f124, lacks, wx, I, exec, resOf, reduceIte, reduceCtorEq, ne_eq, not_false_eq_true, Root.bx.injEq, Root.tm.injEq, Nat.reduceAdd, Nat.reduceBEq, Nat.reduceBNe, Nat.reduceEqDiff, Nat.reduceLT, Nat.reduceLeDiff, Nat.reduceMul, Nat.reduceSub, Int.reduceToNat, Int.reduceEq, Int.reduceBEq, Int.reduceBNe, Int.reduceLT, Int.reduceLE, if_true, if_false, Bool.false_eq_true, decide_true, decide_false, List.zipIdx_nil, bne_self_eq_false]

def tripsB (x : Step) (s : State) (f : Fault) : Bool := lacks (seenI s.signals f) x.needs

section
variable (p : Plan) (s : State) (x : Step) (h0 : 0 ≤ s.step) (hx : p.steps[s.step.toNat]? = some x) (f : Fault)
include h0 hx

theorem pc_trips : pc E 121 [.agg (cPlan p), .agg (cState s), .agg (cFault f)] = some (.bool (tripsB x s f)) := by
  refine pc_code (mf := f121) rfl ?_
  rw [runF_U rfl]
  have hs := fun n => pc_seen n f
  simp only [cFault] at hs
  simp only [f121, cSteps, h0, hx, hs, pc_lacks, tripsB, cStep, wx, I, exec, resOf, reduceIte, reduceCtorEq, ne_eq, not_false_eq_true, Root.bx.injEq, Root.tm.injEq, Nat.reduceAdd, Nat.reduceBEq, Nat.reduceBNe, Nat.reduceEqDiff, Nat.reduceLT, Nat.reduceLeDiff, Nat.reduceMul, Nat.reduceSub, Int.reduceToNat, Int.reduceEq, Int.reduceBEq, Int.reduceBNe, Int.reduceLT, Int.reduceLE, if_true, if_false, Bool.false_eq_true, decide_true, decide_false, List.zipIdx_nil, bne_self_eq_false]

/-- The state after a turn, and its ticks. -/
def turnI (x : Step) (s : State) (f : Fault) (c : Int) : State × Int :=
  if tripsB x s f then (⟨x.trip, s.signals⟩, 1)
  else if (x.wait == 0) then (if (c != -1) then (⟨c, s.signals⟩, 1) else (s, 1))
  else if lacks (seenI (bandn .i64 (bor .i64 s.signals x.makesOn) x.makesOff) f) x.needs then (⟨x.trip, bandn .i64 (bor .i64 s.signals x.makesOn) x.makesOff⟩, x.time)
  else if lacks (seenI (bandn .i64 (bor .i64 s.signals x.makesOn) x.makesOff) f) x.on || (band .i64 (seenI (bandn .i64 (bor .i64 s.signals x.makesOn) x.makesOff) f) x.off != 0) then (⟨x.back, bandn .i64 (bor .i64 s.signals x.makesOn) x.makesOff⟩, x.wait)
  else (⟨x.next, bandn .i64 (bor .i64 s.signals x.makesOn) x.makesOff⟩, x.time)

theorem pc_turn (c : Int) : pc E 94 [.agg (cPlan p), .agg (cState s), .agg (cFault f), I c] = some (.tup [.agg (cState (turnI x s f c).1), I (turnI x s f c).2]) := by
  refine pc_code (mf := f94) rfl ?_
  rw [runF_U rfl]
  have hs := fun n => pc_seen n f
  have ht := pc_trips p s x h0 hx f
  have hst := pc_isSteady x
  simp only [cFault, cState] at hs ht
  simp only [f94, cSteps, h0, hx, hs, ht, pc_lacks, cStep, List.replicate, List.set, turnI, wx, I, exec, resOf, reduceIte, reduceCtorEq, ne_eq, not_false_eq_true, Root.bx.injEq, Root.tm.injEq, Nat.reduceAdd, Nat.reduceBEq, Nat.reduceBNe, Nat.reduceEqDiff, Nat.reduceLT, Nat.reduceLeDiff, Nat.reduceMul, Nat.reduceSub, Int.reduceToNat, Int.reduceEq, Int.reduceBEq, Int.reduceBNe, Int.reduceLT, Int.reduceLE, if_true, if_false, Bool.false_eq_true, decide_true, decide_false, List.zipIdx_nil, bne_self_eq_false]
  repeat' (first | ((first | (with_reducible refine split_condE (fun _ _ _ => ?_) (fun _ _ _ => ?_)) | (with_reducible refine split_guardE (fun _ _ _ => ?_) (fun _ _ _ => ?_))) <;> (rename_i h h2 h3; simp only [h, h2, h3, hs, pc_lacks, hst, List.replicate, List.set, cState, wx, I, exec, resOf, reduceIte, reduceCtorEq, ne_eq, not_false_eq_true, Root.bx.injEq, Root.tm.injEq, Nat.reduceAdd, Nat.reduceBEq, Nat.reduceBNe, Nat.reduceEqDiff, Nat.reduceLT, Nat.reduceLeDiff, Nat.reduceMul, Nat.reduceSub, Int.reduceToNat, Int.reduceEq, Int.reduceBEq, Int.reduceBNe, Int.reduceLT, Int.reduceLE, if_true, if_false, Bool.false_eq_true, decide_true, decide_false, List.zipIdx_nil, bne_self_eq_false])) | ((first | (with_reducible refine split_condN (fun _ => ?_) (fun _ => ?_)) | (with_reducible refine split_condA (fun _ => ?_) (fun _ => ?_)) | (with_reducible refine split_condO (fun _ => ?_) (fun _ => ?_)) | (with_reducible refine split_cond (fun _ => ?_) (fun _ => ?_)) | (with_reducible refine split_guardN (fun _ => ?_) (fun _ => ?_)) | (with_reducible refine split_guardA (fun _ => ?_) (fun _ => ?_)) | (with_reducible refine split_guardO (fun _ => ?_) (fun _ => ?_)) | (with_reducible refine split_guard (fun _ => ?_) (fun _ => ?_))) <;> (rename_i h; simp only [h, hs, pc_lacks, hst, List.replicate, List.set, cState, wx, I, exec, resOf, reduceIte, reduceCtorEq, ne_eq, not_false_eq_true, Root.bx.injEq, Root.tm.injEq, Nat.reduceAdd, Nat.reduceBEq, Nat.reduceBNe, Nat.reduceEqDiff, Nat.reduceLT, Nat.reduceLeDiff, Nat.reduceMul, Nat.reduceSub, Int.reduceToNat, Int.reduceEq, Int.reduceBEq, Int.reduceBNe, Int.reduceLT, Int.reduceLE, if_true, if_false, Bool.false_eq_true, decide_true, decide_false, List.zipIdx_nil, bne_self_eq_false])))
  all_goals trace_state

end

end Go.ViD
end
section
/- Sets as numbers: what the bits give. -/
set_option linter.unusedSimpArgs false
set_option linter.unusedVariables false
namespace Go.ViD
open Go.Vi

/-- Small sets, one by one. -/
theorem small_has : ∀ a : Fin 32, ∀ b : Fin 32, (band .i64 (a.val : Int) (b.val : Int) == (b.val : Int)) = !(lacks (a.val : Int) (b.val : Int)) := by decide +kernel

theorem small_seen : ∀ a : Fin 32, ∀ n : Fin 5, IntKind.i64.wrap (bandn .i64 (a.val : Int) (bit (n.val : Int)) + bit (n.val : Int)) = bor .i64 (a.val : Int) (bit (n.val : Int)) := by decide +kernel

theorem small_or : ∀ k : Fin 6, ∀ a : Fin 32, ∀ b : Fin 32, a.val < 2 ^ k.val → b.val < 2 ^ k.val → 0 ≤ bor .i64 (a.val : Int) (b.val : Int) ∧ bor .i64 (a.val : Int) (b.val : Int) < ((2 ^ k.val : Nat) : Int) := by decide +kernel

theorem small_andn : ∀ a : Fin 32, ∀ b : Fin 32, 0 ≤ bandn .i64 (a.val : Int) (b.val : Int) ∧ bandn .i64 (a.val : Int) (b.val : Int) ≤ (a.val : Int) := by decide +kernel

theorem small_bit : ∀ k : Fin 6, ∀ n : Fin 5, n.val < k.val → 0 ≤ bit (n.val : Int) ∧ bit (n.val : Int) < ((2 ^ k.val : Nat) : Int) := by decide +kernel

theorem int_fin {a : Int} {m : Nat} (h0 : 0 ≤ a) (h1 : a < (m : Int)) : ∃ b : Fin m, ((b.val : Nat) : Int) = a :=
  ⟨⟨a.toNat, by omega⟩, by simp; omega⟩

/-! ### what a valid plan has -/
theorem fst1_zero : ∀ l : List Int, fst1 l = 0 ↔ ∀ e ∈ l, e = 0
  | [] => by simp [fst1]
  | e :: l => by
    have ih := fst1_zero l
    by_cases h : e = 0
    · simp [fst1, h, ih]
    · simp [fst1, h]

theorem unl_zero {b : Bool} {e : Int} (he : e ≠ 0) : unl b e = 0 ↔ b = true := by
  cases b <;> simp [unl, he]

def inS (p : Plan) (n : Int) : Prop := 0 ≤ n ∧ n ≤ top p
def inX (p : Plan) (n : Int) : Prop := 0 ≤ n ∧ n < (p.steps.length : Int)

theorem setE_zero {p : Plan} {n : Int} : setE p n = 0 ↔ inS p n := by
  unfold setE
  rw [unl_zero (by decide)]
  simp [inR, inS]

theorem idxE_zero {p : Plan} {n : Int} : idxE p n = 0 ↔ inX p n := by
  unfold idxE
  rw [unl_zero (by decide)]
  simp only [inR, Bool.and_eq_true, decide_eq_true_eq, inX]
  omega

structure OkX (p : Plan) (x : Step) : Prop where
  needs : inS p x.needs
  trip : inX p x.trip
  wait : 0 ≤ x.wait ∧ x.wait ≤ 10000
  exits : x.wait = 0 → ∀ c ∈ x.exits, inX p c
  home : x.wait = 0 → homeOK x = true
  rest : x.wait ≠ 0 → x.safe = false ∧ x.exits = []
  on : x.wait ≠ 0 → inS p x.on
  off : x.wait ≠ 0 → inS p x.off
  mon : x.wait ≠ 0 → inS p x.makesOn
  moff : x.wait ≠ 0 → inS p x.makesOff
  time : x.wait ≠ 0 → 1 ≤ x.time ∧ x.time ≤ x.wait
  next : x.wait ≠ 0 → inX p x.next
  back : x.wait ≠ 0 → inX p x.back

structure OkP (p : Plan) : Prop where
  sg : p.signals.length ≤ 5
  pos : 0 < p.steps.length
  len : p.steps.length ≤ 10
  st : ∀ x ∈ p.steps, OkX p x

theorem exFrom_zero (p : Plan) (l : List Int) : ∀ (m i : Nat), exFrom p l m i = 0 → ∀ j, i ≤ j → j < i + m → idxE p (l[j]?.getD 0) = 0
  | 0, i, _, j, h1, h2 => by omega
  | m + 1, i, h, j, h1, h2 => by
    simp only [exFrom] at h
    by_cases h3 : fst1 [idxE p (l[i]?.getD 0), unl (((i : Int) == 0) || decide ((l[i]?.getD 0) > (l[i - 1]?.getD 0))) 9] = 0
    · rw [if_pos h3] at h
      by_cases h4 : j = i
      · subst h4
        exact (fst1_zero _).1 h3 _ (by simp)
      · exact exFrom_zero p l m (i + 1) h j (by omega) (by omega)
    · rw [if_neg h3] at h
      exact absurd h h3

theorem stepsFrom_all (p : Plan) : ∀ (l : List Step) (i : Nat), (stepsFrom p l i).2 = 0 → ∀ x ∈ l, ∃ k, stepE p x k = 0
  | [], _, _, x, hx => by simp at hx
  | s :: l, i, h, x, hx => by
    simp only [stepsFrom] at h
    by_cases h1 : stepE p s (hasB ((names p).take i) s.name) = 0
    · rw [if_pos h1] at h
      rcases List.mem_cons.1 hx with rfl | hx
      · exact ⟨_, h1⟩
      · exact stepsFrom_all p l (i + 1) h x hx
    · rw [if_neg h1] at h; exact absurd h h1

theorem okX_of {p : Plan} {x : Step} {k : Bool} (h : stepE p x k = 0) : OkX p x := by
  unfold stepE at h
  by_cases h1 : headE p x k = 0
  · rw [if_pos h1] at h
    have hh := (fst1_zero _).1 h1
    have hn := setE_zero.1 (hh (setE p x.needs) (by simp))
    have ht := idxE_zero.1 (hh (idxE p x.trip) (by simp))
    by_cases h2 : inR x.wait 0 10000 = true
    · rw [if_pos h2] at h
      have hw : 0 ≤ x.wait ∧ x.wait ≤ 10000 := by simpa [inR] using h2
      by_cases h3 : x.wait = 0
      · rw [if_pos (by simp [h3])] at h
        have hz : zero7 x = true := by
          by_cases hz : zero7 x = true
          · exact hz
          · unfold steadyE at h; rw [if_neg hz] at h; simp at h
        unfold steadyE at h
        rw [if_pos hz] at h
        have he : exFrom p x.exits x.exits.length 0 = 0 := by
          by_cases he : exFrom p x.exits x.exits.length 0 = 0
          · exact he
          · rw [if_neg he] at h; exact absurd h he
        rw [if_pos he] at h
        have hho := (unl_zero (by decide)).1 h
        refine ⟨hn, ht, hw, fun _ c hc => ?_, fun _ => hho, fun hne => absurd h3 hne, fun hne => absurd h3 hne, fun hne => absurd h3 hne, fun hne => absurd h3 hne, fun hne => absurd h3 hne, fun hne => absurd h3 hne, fun hne => absurd h3 hne, fun hne => absurd h3 hne⟩
        obtain ⟨j, hj, rfl⟩ := List.getElem_of_mem hc
        have := exFrom_zero p x.exits _ 0 he j (by omega) (by omega)
        rw [List.getElem?_eq_getElem hj] at this
        exact idxE_zero.1 this
      · rw [if_neg (by simp [h3])] at h
        have hm := (fst1_zero _).1 h
        have a1 := (unl_zero (by decide)).1 (hm (unl (!x.safe && ((x.home == 0) && ((x.exits.length : Int) == 0))) 3) (by simp))
        have a2 := (fst1_zero _).1 (hm (fst1 [setE p x.on, setE p x.off, setE p x.makesOn, setE p x.makesOff]) (by simp))
        have a3 := (unl_zero (by decide)).1 (hm (unl (inR x.time 1 x.wait) 2) (by simp))
        have a4 := (fst1_zero _).1 (hm (fst1 [idxE p x.next, idxE p x.back]) (by simp))
        have a5 : x.safe = false ∧ x.exits = [] := by
          simp only [Bool.and_eq_true, Bool.not_eq_true', beq_iff_eq] at a1
          exact ⟨a1.1, List.eq_nil_of_length_eq_zero (by have := a1.2.2; omega)⟩
        have a6 : 1 ≤ x.time ∧ x.time ≤ x.wait := by simpa [inR] using a3
        exact ⟨hn, ht, hw, fun h0 => absurd h0 h3, fun h0 => absurd h0 h3, fun _ => a5, fun _ => setE_zero.1 (a2 _ (by simp)), fun _ => setE_zero.1 (a2 _ (by simp)), fun _ => setE_zero.1 (a2 _ (by simp)), fun _ => setE_zero.1 (a2 _ (by simp)), fun _ => a6, fun _ => idxE_zero.1 (a4 _ (by simp)), fun _ => idxE_zero.1 (a4 _ (by simp))⟩
    · rw [if_neg h2] at h; simp at h
  · rw [if_neg h1] at h; exact absurd h h1

theorem okP_of {p : Plan} (h : (planE p).2 = 0) : OkP p := by
  unfold planE at h
  by_cases h1 : p.signals.length ≤ 5
  · rw [if_pos h1] at h
    by_cases h2 : sigFrom p.signals p.signals.length 0 = 0
    · rw [if_pos h2] at h
      by_cases h3 : shapeE p = 0
      · rw [if_pos h3] at h
        have hs := (fst1_zero _).1 h3
        have b1 := (unl_zero (by decide)).1 (hs (unl (decide ((p.steps.length : Int) > 0)) 10) (by simp))
        have b2 := (unl_zero (by decide)).1 (hs (unl (decide ((p.steps.length : Int) ≤ 10)) 8) (by simp))
        simp only [decide_eq_true_eq] at b1 b2
        have h4 : (stepsFrom p p.steps 0).2 = 0 := by
          by_cases h4 : (stepsFrom p p.steps 0).2 = 0
          · exact h4
          · rw [if_neg h4] at h; exact h
        exact ⟨h1, by omega, by omega, fun x hx => by obtain ⟨k, hk⟩ := stepsFrom_all p p.steps 0 h4 x hx; exact okX_of hk⟩
      · rw [if_neg h3] at h; exact absurd h h3
    · rw [if_neg h2] at h; exact absurd h h2
  · rw [if_neg h1] at h; simp at h

theorem okS_of {p : Plan} {s : State} (h : stateE p s = 0) : inX p s.step ∧ inS p s.signals := by
  have hs := (fst1_zero _).1 h
  exact ⟨idxE_zero.1 (hs _ (by simp)), setE_zero.1 (hs _ (by simp))⟩

theorem okF_of {p : Plan} {f : Fault} (h : faultE p f = 0) : -1 ≤ f.signal ∧ f.signal < (p.signals.length : Int) := by
  have hs := (fst1_zero _).1 h
  have := (unl_zero (by decide)).1 (hs (unl (inR f.signal (-1) ((p.signals.length : Int) - 1)) 2) (by simp))
  simp only [inR, Bool.and_eq_true, decide_eq_true_eq] at this
  omega

theorem both_of {p : Plan} {s : State} {f : Fault} (h : bothE p s f = 0) : (planE p).2 = 0 ∧ stateE p s = 0 ∧ faultE p f = 0 := by
  unfold bothE at h
  by_cases h1 : (planE p).2 = 0
  · rw [if_pos h1] at h
    have hs := (fst1_zero _).1 h
    exact ⟨h1, hs _ (by simp), hs _ (by simp)⟩
  · rw [if_neg h1] at h; exact absurd h h1

/-! ### sets of a valid plan -/
theorem inS_lt {p : Plan} (hp : OkP p) {n : Int} (h : inS p n) : 0 ≤ n ∧ n < 32 ∧ n < ((2 ^ p.signals.length : Nat) : Int) := by
  have h1 := top_eq p
  have h2 : 2 ^ p.signals.length ≤ 2 ^ 5 := Nat.pow_le_pow_right (by omega) hp.sg
  obtain ⟨ha, hb⟩ := h
  generalize 2 ^ p.signals.length = m at h1 h2 ⊢
  omega

theorem inS_of {p : Plan} {n : Int} (h0 : 0 ≤ n) (h : n < ((2 ^ p.signals.length : Nat) : Int)) : inS p n := by
  have h1 := top_eq p
  exact ⟨h0, by omega⟩

theorem inS_bor {p : Plan} (hp : OkP p) {a b : Int} (ha : inS p a) (hb : inS p b) : inS p (bor .i64 a b) := by
  have ha := inS_lt hp ha
  have hb := inS_lt hp hb
  obtain ⟨a, rfl⟩ := int_fin (m := 32) ha.1 ha.2.1
  obtain ⟨b, rfl⟩ := int_fin (m := 32) hb.1 hb.2.1
  have := small_or ⟨p.signals.length, by have := hp.sg; omega⟩ a b (by exact_mod_cast ha.2.2) (by exact_mod_cast hb.2.2)
  exact inS_of this.1 this.2

theorem inS_bandn {p : Plan} (hp : OkP p) {a b : Int} (ha : inS p a) (hb : 0 ≤ b ∧ b < 32) : inS p (bandn .i64 a b) := by
  have ha := inS_lt hp ha
  obtain ⟨a, rfl⟩ := int_fin (m := 32) ha.1 ha.2.1
  obtain ⟨b, rfl⟩ := int_fin (m := 32) hb.1 hb.2
  have := small_andn a b
  exact inS_of this.1 (by omega)

theorem inS_bit {p : Plan} (hp : OkP p) {n : Int} (h0 : 0 ≤ n) (h1 : n < (p.signals.length : Int)) : inS p (bit n) := by
  obtain ⟨m, rfl⟩ := int_fin (m := 5) h0 (by have := hp.sg; omega)
  have := small_bit ⟨p.signals.length, by have := hp.sg; omega⟩ m (by exact_mod_cast h1)
  exact inS_of this.1 this.2

theorem inS_seen {p : Plan} (hp : OkP p) {a : Int} {f : Fault} (ha : inS p a) (hf : f.signal < (p.signals.length : Int)) : inS p (seenI a f) := by
  unfold seenI
  by_cases h : f.signal < 0
  · rw [if_pos (by simpa using h)]; exact ha
  · rw [if_neg (by simpa using h)]
    have hb := inS_bit hp (n := f.signal) (by omega) hf
    cases f.on
    · exact inS_bandn hp ha (by have := inS_lt hp hb; omega)
    · exact inS_bor hp ha hb

theorem has_lacks {p : Plan} (hp : OkP p) {a b : Int} (ha : inS p a) (hb : inS p b) : (band .i64 a b == b) = !lacks a b := by
  have ha := inS_lt hp ha
  have hb := inS_lt hp hb
  obtain ⟨a, rfl⟩ := int_fin (m := 32) ha.1 ha.2.1
  obtain ⟨b, rfl⟩ := int_fin (m := 32) hb.1 hb.2.1
  exact small_has a b

end Go.ViD
end
section
/- Turns: the reference's functions on valid values; turns home, commands. -/
set_option linter.unusedSimpArgs false
set_option linter.unusedVariables false
namespace Go.ViD
open Go.Vi

theorem pc_seenR {p : Plan} (hp : OkP p) {a : Int} {f : Fault} (ha : inS p a) (hf : f.signal < (p.signals.length : Int)) : pc E 48 [I a, .agg (cFault f)] = some (I (seenI a f)) := by
  refine pc_code (mf := f48) rfl ?_
  rw [runF_U rfl]
  simp only [f48, seenI, wx, I, exec, resOf, reduceIte, reduceCtorEq, ne_eq, not_false_eq_true, Root.bx.injEq, Root.tm.injEq, Nat.reduceAdd, Nat.reduceBEq, Nat.reduceBNe, Nat.reduceEqDiff, Nat.reduceLT, Nat.reduceLeDiff, Nat.reduceMul, Nat.reduceSub, Int.reduceToNat, Int.reduceEq, Int.reduceBEq, Int.reduceBNe, Int.reduceLT, Int.reduceLE, if_true, if_false, Bool.false_eq_true, decide_true, decide_false, List.zipIdx_nil, bne_self_eq_false]
  by_cases h : f.signal < 0
  · simp only [h, wx, I, exec, resOf, reduceIte, reduceCtorEq, ne_eq, not_false_eq_true, Root.bx.injEq, Root.tm.injEq, Nat.reduceAdd, Nat.reduceBEq, Nat.reduceBNe, Nat.reduceEqDiff, Nat.reduceLT, Nat.reduceLeDiff, Nat.reduceMul, Nat.reduceSub, Int.reduceToNat, Int.reduceEq, Int.reduceBEq, Int.reduceBNe, Int.reduceLT, Int.reduceLE, if_true, if_false, Bool.false_eq_true, decide_true, decide_false, List.zipIdx_nil, bne_self_eq_false]
  · have h2 : (0 : Int) ≤ f.signal := by omega
    have e : IntKind.i64.wrap (bandn .i64 a (bit f.signal) + bit f.signal) = bor .i64 a (bit f.signal) := by
      have ha := inS_lt hp ha
      obtain ⟨a, rfl⟩ := int_fin (m := 32) ha.1 ha.2.1
      obtain ⟨n, hn⟩ := int_fin (m := 5) h2 (by have := hp.sg; omega)
      rw [← hn]
      exact small_seen a n
    simp only [bit, IntKind.bits] at e
    simp only [h, wx, I, exec, resOf, reduceIte, reduceCtorEq, ne_eq, not_false_eq_true, Root.bx.injEq, Root.tm.injEq, Nat.reduceAdd, Nat.reduceBEq, Nat.reduceBNe, Nat.reduceEqDiff, Nat.reduceLT, Nat.reduceLeDiff, Nat.reduceMul, Nat.reduceSub, Int.reduceToNat, Int.reduceEq, Int.reduceBEq, Int.reduceBNe, Int.reduceLT, Int.reduceLE, if_true, if_false, Bool.false_eq_true, decide_true, decide_false, List.zipIdx_nil, bne_self_eq_false]
    cases h3 : f.on <;> simp only [h2, h3, bit, e, IntKind.bits, wx, I, exec, resOf, reduceIte, reduceCtorEq, ne_eq, not_false_eq_true, Root.bx.injEq, Root.tm.injEq, Nat.reduceAdd, Nat.reduceBEq, Nat.reduceBNe, Nat.reduceEqDiff, Nat.reduceLT, Nat.reduceLeDiff, Nat.reduceMul, Nat.reduceSub, Int.reduceToNat, Int.reduceEq, Int.reduceBEq, Int.reduceBNe, Int.reduceLT, Int.reduceLE, if_true, if_false, Bool.false_eq_true, decide_true, decide_false, List.zipIdx_nil, bne_self_eq_false]

theorem pc_has {p : Plan} (hp : OkP p) {a b : Int} (ha : inS p a) (hb : inS p b) : pc E 84 [I a, I b] = some (.bool (!lacks a b)) := by
  refine pc_code (mf := f84) rfl ?_
  rw [runF_U rfl]
  simp only [f84, has_lacks hp ha hb, wx, I, exec, resOf, reduceIte, reduceCtorEq, ne_eq, not_false_eq_true, Root.bx.injEq, Root.tm.injEq, Nat.reduceAdd, Nat.reduceBEq, Nat.reduceBNe, Nat.reduceEqDiff, Nat.reduceLT, Nat.reduceLeDiff, Nat.reduceMul, Nat.reduceSub, Int.reduceToNat, Int.reduceEq, Int.reduceBEq, Int.reduceBNe, Int.reduceLT, Int.reduceLE, if_true, if_false, Bool.false_eq_true, decide_true, decide_false, List.zipIdx_nil, bne_self_eq_false]

theorem pc_may (x : Step) (hl : x.exits.length ≤ 1000) (c : Int) : pc E 93 [.agg (cStep x), I c] = some (.bool ((c == -1) || ((x.wait == 0) && hasI x.exits c))) := by
  refine pc_code (mf := f93) rfl ?_
  rw [runF_U rfl]
  have hst := pc_isSteady x
  have hc := pc_contains x.exits (by omega) c
  simp only [ints] at hc
  simp only [f93, ints, cStep, wx, I, exec, resOf, reduceIte, reduceCtorEq, ne_eq, not_false_eq_true, Root.bx.injEq, Root.tm.injEq, Nat.reduceAdd, Nat.reduceBEq, Nat.reduceBNe, Nat.reduceEqDiff, Nat.reduceLT, Nat.reduceLeDiff, Nat.reduceMul, Nat.reduceSub, Int.reduceToNat, Int.reduceEq, Int.reduceBEq, Int.reduceBNe, Int.reduceLT, Int.reduceLE, if_true, if_false, Bool.false_eq_true, decide_true, decide_false, List.zipIdx_nil, bne_self_eq_false]
  repeat' (first | ((first | (with_reducible refine split_condE (fun _ _ _ => ?_) (fun _ _ _ => ?_)) | (with_reducible refine split_guardE (fun _ _ _ => ?_) (fun _ _ _ => ?_))) <;> (rename_i h h2 h3; simp only [h, h2, h3, hst, hc, cStep, ints, wx, I, exec, resOf, reduceIte, reduceCtorEq, ne_eq, not_false_eq_true, Root.bx.injEq, Root.tm.injEq, Nat.reduceAdd, Nat.reduceBEq, Nat.reduceBNe, Nat.reduceEqDiff, Nat.reduceLT, Nat.reduceLeDiff, Nat.reduceMul, Nat.reduceSub, Int.reduceToNat, Int.reduceEq, Int.reduceBEq, Int.reduceBNe, Int.reduceLT, Int.reduceLE, if_true, if_false, Bool.false_eq_true, decide_true, decide_false, List.zipIdx_nil, bne_self_eq_false])) | ((first | (with_reducible refine split_condN (fun _ => ?_) (fun _ => ?_)) | (with_reducible refine split_condA (fun _ => ?_) (fun _ => ?_)) | (with_reducible refine split_condO (fun _ => ?_) (fun _ => ?_)) | (with_reducible refine split_cond (fun _ => ?_) (fun _ => ?_)) | (with_reducible refine split_guardN (fun _ => ?_) (fun _ => ?_)) | (with_reducible refine split_guardA (fun _ => ?_) (fun _ => ?_)) | (with_reducible refine split_guardO (fun _ => ?_) (fun _ => ?_)) | (with_reducible refine split_guard (fun _ => ?_) (fun _ => ?_))) <;> (rename_i h; simp only [h, hst, hc, cStep, ints, wx, I, exec, resOf, reduceIte, reduceCtorEq, ne_eq, not_false_eq_true, Root.bx.injEq, Root.tm.injEq, Nat.reduceAdd, Nat.reduceBEq, Nat.reduceBNe, Nat.reduceEqDiff, Nat.reduceLT, Nat.reduceLeDiff, Nat.reduceMul, Nat.reduceSub, Int.reduceToNat, Int.reduceEq, Int.reduceBEq, Int.reduceBNe, Int.reduceLT, Int.reduceLE, if_true, if_false, Bool.false_eq_true, decide_true, decide_false, List.zipIdx_nil, bne_self_eq_false])))

section
variable (p : Plan) (s : State) (x : Step) (h0 : 0 ≤ s.step) (hx : p.steps[s.step.toNat]? = some x) (f : Fault)
include h0 hx

theorem pc_permitted (hl : x.exits.length ≤ 1000) (c : Int) : pc E 49 [.agg (cPlan p), .agg (cState s), I c] = some (.bool ((c == -1) || ((x.wait == 0) && hasI x.exits c))) := by
  refine pc_code (mf := f49) rfl ?_
  rw [runF_U rfl]
  have hc := pc_Has x.exits (by omega) c
  simp only [ints] at hc
  simp only [f49, cSteps, h0, hx, ints, cStep, List.replicate, List.set, wx, I, exec, resOf, reduceIte, reduceCtorEq, ne_eq, not_false_eq_true, Root.bx.injEq, Root.tm.injEq, Nat.reduceAdd, Nat.reduceBEq, Nat.reduceBNe, Nat.reduceEqDiff, Nat.reduceLT, Nat.reduceLeDiff, Nat.reduceMul, Nat.reduceSub, Int.reduceToNat, Int.reduceEq, Int.reduceBEq, Int.reduceBNe, Int.reduceLT, Int.reduceLE, if_true, if_false, Bool.false_eq_true, decide_true, decide_false, List.zipIdx_nil, bne_self_eq_false]
  repeat' (first | ((first | (with_reducible refine split_condE (fun _ _ _ => ?_) (fun _ _ _ => ?_)) | (with_reducible refine split_guardE (fun _ _ _ => ?_) (fun _ _ _ => ?_))) <;> (rename_i h h2 h3; simp only [h, h2, h3, hc, cStep, ints, wx, I, exec, resOf, reduceIte, reduceCtorEq, ne_eq, not_false_eq_true, Root.bx.injEq, Root.tm.injEq, Nat.reduceAdd, Nat.reduceBEq, Nat.reduceBNe, Nat.reduceEqDiff, Nat.reduceLT, Nat.reduceLeDiff, Nat.reduceMul, Nat.reduceSub, Int.reduceToNat, Int.reduceEq, Int.reduceBEq, Int.reduceBNe, Int.reduceLT, Int.reduceLE, if_true, if_false, Bool.false_eq_true, decide_true, decide_false, List.zipIdx_nil, bne_self_eq_false])) | ((first | (with_reducible refine split_condN (fun _ => ?_) (fun _ => ?_)) | (with_reducible refine split_condA (fun _ => ?_) (fun _ => ?_)) | (with_reducible refine split_condO (fun _ => ?_) (fun _ => ?_)) | (with_reducible refine split_cond (fun _ => ?_) (fun _ => ?_)) | (with_reducible refine split_guardN (fun _ => ?_) (fun _ => ?_)) | (with_reducible refine split_guardA (fun _ => ?_) (fun _ => ?_)) | (with_reducible refine split_guardO (fun _ => ?_) (fun _ => ?_)) | (with_reducible refine split_guard (fun _ => ?_) (fun _ => ?_))) <;> (rename_i h; simp only [h, hc, cStep, ints, wx, I, exec, resOf, reduceIte, reduceCtorEq, ne_eq, not_false_eq_true, Root.bx.injEq, Root.tm.injEq, Nat.reduceAdd, Nat.reduceBEq, Nat.reduceBNe, Nat.reduceEqDiff, Nat.reduceLT, Nat.reduceLeDiff, Nat.reduceMul, Nat.reduceSub, Int.reduceToNat, Int.reduceEq, Int.reduceBEq, Int.reduceBNe, Int.reduceLT, Int.reduceLE, if_true, if_false, Bool.false_eq_true, decide_true, decide_false, List.zipIdx_nil, bne_self_eq_false])))

theorem pc_turnR (hp : OkP p) (hs : inS p s.signals) (hf : f.signal < (p.signals.length : Int)) (c : Int) (hc : -1 ≤ c) : pc E 50 [.agg (cPlan p), .agg (cState s), .agg (cFault f), I c] = some (.tup [.agg (cState (turnI x s f c).1), I (turnI x s f c).2]) := by
  have hxm : x ∈ p.steps := List.mem_of_getElem? hx
  have ok := hp.st x hxm
  refine pc_code (mf := f50) rfl ?_
  rw [runF_U rfl]
  have h1 := pc_seenR hp hs hf
  have h2 := pc_has hp (inS_seen hp hs hf) ok.needs
  simp only [cFault] at h1
  simp only [f50, cSteps, h0, hx, h1, h2, cStep, List.replicate, List.set, turnI, tripsB, wx, I, exec, resOf, reduceIte, reduceCtorEq, ne_eq, not_false_eq_true, Root.bx.injEq, Root.tm.injEq, Nat.reduceAdd, Nat.reduceBEq, Nat.reduceBNe, Nat.reduceEqDiff, Nat.reduceLT, Nat.reduceLeDiff, Nat.reduceMul, Nat.reduceSub, Int.reduceToNat, Int.reduceEq, Int.reduceBEq, Int.reduceBNe, Int.reduceLT, Int.reduceLE, if_true, if_false, Bool.false_eq_true, decide_true, decide_false, List.zipIdx_nil, bne_self_eq_false]
  rcases Bool.eq_false_or_eq_true (lacks (seenI s.signals f) x.needs) with c1 | c1
  · simp only [c1, List.replicate, List.set, cState, wx, I, exec, resOf, reduceIte, reduceCtorEq, ne_eq, not_false_eq_true, Root.bx.injEq, Root.tm.injEq, Nat.reduceAdd, Nat.reduceBEq, Nat.reduceBNe, Nat.reduceEqDiff, Nat.reduceLT, Nat.reduceLeDiff, Nat.reduceMul, Nat.reduceSub, Int.reduceToNat, Int.reduceEq, Int.reduceBEq, Int.reduceBNe, Int.reduceLT, Int.reduceLE, if_true, if_false, Bool.false_eq_true, decide_true, decide_false, List.zipIdx_nil, bne_self_eq_false]
  · simp only [c1, wx, I, exec, resOf, reduceIte, reduceCtorEq, ne_eq, not_false_eq_true, Root.bx.injEq, Root.tm.injEq, Nat.reduceAdd, Nat.reduceBEq, Nat.reduceBNe, Nat.reduceEqDiff, Nat.reduceLT, Nat.reduceLeDiff, Nat.reduceMul, Nat.reduceSub, Int.reduceToNat, Int.reduceEq, Int.reduceBEq, Int.reduceBNe, Int.reduceLT, Int.reduceLE, if_true, if_false, Bool.false_eq_true, decide_true, decide_false, List.zipIdx_nil, bne_self_eq_false]
    by_cases c2 : x.wait = 0
    · have c2' : (x.wait == 0) = true := by simp [c2]
      simp only [c2', wx, I, exec, resOf, reduceIte, reduceCtorEq, ne_eq, not_false_eq_true, Root.bx.injEq, Root.tm.injEq, Nat.reduceAdd, Nat.reduceBEq, Nat.reduceBNe, Nat.reduceEqDiff, Nat.reduceLT, Nat.reduceLeDiff, Nat.reduceMul, Nat.reduceSub, Int.reduceToNat, Int.reduceEq, Int.reduceBEq, Int.reduceBNe, Int.reduceLT, Int.reduceLE, if_true, if_false, Bool.false_eq_true, decide_true, decide_false, List.zipIdx_nil, bne_self_eq_false]
      by_cases c3 : c = -1
      · have c3' : (c != -1) = false := by simp [c3]
        have c4 : c < 0 := by omega
        simp only [c3', c4, List.replicate, List.set, cState, wx, I, exec, resOf, reduceIte, reduceCtorEq, ne_eq, not_false_eq_true, Root.bx.injEq, Root.tm.injEq, Nat.reduceAdd, Nat.reduceBEq, Nat.reduceBNe, Nat.reduceEqDiff, Nat.reduceLT, Nat.reduceLeDiff, Nat.reduceMul, Nat.reduceSub, Int.reduceToNat, Int.reduceEq, Int.reduceBEq, Int.reduceBNe, Int.reduceLT, Int.reduceLE, if_true, if_false, Bool.false_eq_true, decide_true, decide_false, List.zipIdx_nil, bne_self_eq_false]
      · have c3' : (c != -1) = true := by simp [c3]
        have c4 : ¬ c < 0 := by omega
        simp only [c3', c4, List.replicate, List.set, cState, wx, I, exec, resOf, reduceIte, reduceCtorEq, ne_eq, not_false_eq_true, Root.bx.injEq, Root.tm.injEq, Nat.reduceAdd, Nat.reduceBEq, Nat.reduceBNe, Nat.reduceEqDiff, Nat.reduceLT, Nat.reduceLeDiff, Nat.reduceMul, Nat.reduceSub, Int.reduceToNat, Int.reduceEq, Int.reduceBEq, Int.reduceBNe, Int.reduceLT, Int.reduceLE, if_true, if_false, Bool.false_eq_true, decide_true, decide_false, List.zipIdx_nil, bne_self_eq_false]
    · have c2' : (x.wait == 0) = false := by simp [c2]
      have hsg : inS p (bandn .i64 (bor .i64 s.signals x.makesOn) x.makesOff) := inS_bandn hp (inS_bor hp hs (ok.mon c2)) (by have := inS_lt hp (ok.moff c2); omega)
      have h3 := pc_seenR hp hsg hf
      have h4 := pc_has hp (inS_seen hp hsg hf) ok.needs
      have h5 := pc_has hp (inS_seen hp hsg hf) (ok.on c2)
      simp only [cFault] at h3
      simp only [c2', h3, h4, h5, wx, I, exec, resOf, reduceIte, reduceCtorEq, ne_eq, not_false_eq_true, Root.bx.injEq, Root.tm.injEq, Nat.reduceAdd, Nat.reduceBEq, Nat.reduceBNe, Nat.reduceEqDiff, Nat.reduceLT, Nat.reduceLeDiff, Nat.reduceMul, Nat.reduceSub, Int.reduceToNat, Int.reduceEq, Int.reduceBEq, Int.reduceBNe, Int.reduceLT, Int.reduceLE, if_true, if_false, Bool.false_eq_true, decide_true, decide_false, List.zipIdx_nil, bne_self_eq_false]
      generalize bandn .i64 (bor .i64 s.signals x.makesOn) x.makesOff = sg at h3 h4 h5 ⊢
      rcases Bool.eq_false_or_eq_true (lacks (seenI sg f) x.needs) with c3 | c3
      · simp only [c3, List.replicate, List.set, cState, wx, I, exec, resOf, reduceIte, reduceCtorEq, ne_eq, not_false_eq_true, Root.bx.injEq, Root.tm.injEq, Nat.reduceAdd, Nat.reduceBEq, Nat.reduceBNe, Nat.reduceEqDiff, Nat.reduceLT, Nat.reduceLeDiff, Nat.reduceMul, Nat.reduceSub, Int.reduceToNat, Int.reduceEq, Int.reduceBEq, Int.reduceBNe, Int.reduceLT, Int.reduceLE, if_true, if_false, Bool.false_eq_true, decide_true, decide_false, List.zipIdx_nil, bne_self_eq_false]
      · simp only [c3, h5, wx, I, exec, resOf, reduceIte, reduceCtorEq, ne_eq, not_false_eq_true, Root.bx.injEq, Root.tm.injEq, Nat.reduceAdd, Nat.reduceBEq, Nat.reduceBNe, Nat.reduceEqDiff, Nat.reduceLT, Nat.reduceLeDiff, Nat.reduceMul, Nat.reduceSub, Int.reduceToNat, Int.reduceEq, Int.reduceBEq, Int.reduceBNe, Int.reduceLT, Int.reduceLE, if_true, if_false, Bool.false_eq_true, decide_true, decide_false, List.zipIdx_nil, bne_self_eq_false]
        rcases Bool.eq_false_or_eq_true (lacks (seenI sg f) x.on) with c4 | c4
        · simp only [c4, List.replicate, List.set, cState, wx, I, exec, resOf, reduceIte, reduceCtorEq, ne_eq, not_false_eq_true, Root.bx.injEq, Root.tm.injEq, Nat.reduceAdd, Nat.reduceBEq, Nat.reduceBNe, Nat.reduceEqDiff, Nat.reduceLT, Nat.reduceLeDiff, Nat.reduceMul, Nat.reduceSub, Int.reduceToNat, Int.reduceEq, Int.reduceBEq, Int.reduceBNe, Int.reduceLT, Int.reduceLE, if_true, if_false, Bool.false_eq_true, decide_true, decide_false, List.zipIdx_nil, bne_self_eq_false]
        · simp only [c4, wx, I, exec, resOf, reduceIte, reduceCtorEq, ne_eq, not_false_eq_true, Root.bx.injEq, Root.tm.injEq, Nat.reduceAdd, Nat.reduceBEq, Nat.reduceBNe, Nat.reduceEqDiff, Nat.reduceLT, Nat.reduceLeDiff, Nat.reduceMul, Nat.reduceSub, Int.reduceToNat, Int.reduceEq, Int.reduceBEq, Int.reduceBNe, Int.reduceLT, Int.reduceLE, if_true, if_false, Bool.false_eq_true, decide_true, decide_false, List.zipIdx_nil, bne_self_eq_false]
          by_cases c5 : band .i64 (seenI sg f) x.off = 0
          · have c5' : (band .i64 (seenI sg f) x.off == 0) = true := by simp [c5]
            simp only [c5', c5, List.replicate, List.set, cState, wx, I, exec, resOf, reduceIte, reduceCtorEq, ne_eq, not_false_eq_true, Root.bx.injEq, Root.tm.injEq, Nat.reduceAdd, Nat.reduceBEq, Nat.reduceBNe, Nat.reduceEqDiff, Nat.reduceLT, Nat.reduceLeDiff, Nat.reduceMul, Nat.reduceSub, Int.reduceToNat, Int.reduceEq, Int.reduceBEq, Int.reduceBNe, Int.reduceLT, Int.reduceLE, if_true, if_false, Bool.false_eq_true, decide_true, decide_false, List.zipIdx_nil, bne_self_eq_false]
          · have c5' : (band .i64 (seenI sg f) x.off == 0) = false := by simp [c5]
            have c5'' : (band .i64 (seenI sg f) x.off != 0) = true := by simp [c5]
            simp only [c5', c5'', List.replicate, List.set, cState, wx, I, exec, resOf, reduceIte, reduceCtorEq, ne_eq, not_false_eq_true, Root.bx.injEq, Root.tm.injEq, Nat.reduceAdd, Nat.reduceBEq, Nat.reduceBNe, Nat.reduceEqDiff, Nat.reduceLT, Nat.reduceLeDiff, Nat.reduceMul, Nat.reduceSub, Int.reduceToNat, Int.reduceEq, Int.reduceBEq, Int.reduceBNe, Int.reduceLT, Int.reduceLE, if_true, if_false, Bool.false_eq_true, decide_true, decide_false, List.zipIdx_nil, bne_self_eq_false]

end

end Go.ViD
end
section
/- Turns home, and the exported functions of turns. -/
set_option linter.unusedSimpArgs false
set_option linter.unusedVariables false
namespace Go.ViD
open Go.Vi

/-- The state after a turn home, its ticks, and whether there is one. -/
def homeTurnI (x : Step) (s : State) (f : Fault) : State × Int × Bool :=
  if (x.wait == 0) && (!x.safe && !tripsB x s f) then
    (if ((x.exits.length : Int) == 0) then (⟨0, 0⟩, 0, false) else ((turnI x s f x.home).1, (turnI x s f x.home).2, true))
  else ((turnI x s f (-1)).1, (turnI x s f (-1)).2, true)

theorem hasI_mem {l : List Int} {v : Int} (h : hasI l v = true) : v ∈ l := by
  rw [hasI, List.any_eq_true] at h
  obtain ⟨y, hy, he⟩ := h
  rw [eq_of_beq he]; exact hy

section
variable (p : Plan) (s : State) (x : Step) (h0 : 0 ≤ s.step) (hx : p.steps[s.step.toNat]? = some x) (f : Fault)
include h0 hx

theorem pc_homeTurn : pc E 83 [.agg (cPlan p), .agg (cState s), .agg (cFault f)] = some (.tup [.agg (cState (homeTurnI x s f).1), I (homeTurnI x s f).2.1, .bool (homeTurnI x s f).2.2]) := by
  refine pc_code (mf := f83) rfl ?_
  rw [runF_U rfl]
  have hst := pc_isSteady x
  have htr := pc_trips p s x h0 hx f
  have htu := fun c => pc_turn p s x h0 hx f c
  simp only [cFault, cState] at htr htu
  simp only [f83, cSteps, h0, hx, hst, cStep, List.replicate, List.set, homeTurnI, wx, I, exec, resOf, reduceIte, reduceCtorEq, ne_eq, not_false_eq_true, Root.bx.injEq, Root.tm.injEq, Nat.reduceAdd, Nat.reduceBEq, Nat.reduceBNe, Nat.reduceEqDiff, Nat.reduceLT, Nat.reduceLeDiff, Nat.reduceMul, Nat.reduceSub, Int.reduceToNat, Int.reduceEq, Int.reduceBEq, Int.reduceBNe, Int.reduceLT, Int.reduceLE, if_true, if_false, Bool.false_eq_true, decide_true, decide_false, List.zipIdx_nil, bne_self_eq_false]
  repeat' (first | ((first | (with_reducible refine split_condE (fun _ _ _ => ?_) (fun _ _ _ => ?_)) | (with_reducible refine split_guardE (fun _ _ _ => ?_) (fun _ _ _ => ?_))) <;> (rename_i h h2 h3; simp only [h, h2, h3, hst, htr, htu, cStep, List.replicate, List.set, cState, wx, I, exec, resOf, reduceIte, reduceCtorEq, ne_eq, not_false_eq_true, Root.bx.injEq, Root.tm.injEq, Nat.reduceAdd, Nat.reduceBEq, Nat.reduceBNe, Nat.reduceEqDiff, Nat.reduceLT, Nat.reduceLeDiff, Nat.reduceMul, Nat.reduceSub, Int.reduceToNat, Int.reduceEq, Int.reduceBEq, Int.reduceBNe, Int.reduceLT, Int.reduceLE, if_true, if_false, Bool.false_eq_true, decide_true, decide_false, List.zipIdx_nil, bne_self_eq_false])) | ((first | (with_reducible refine split_condN (fun _ => ?_) (fun _ => ?_)) | (with_reducible refine split_condA (fun _ => ?_) (fun _ => ?_)) | (with_reducible refine split_condO (fun _ => ?_) (fun _ => ?_)) | (with_reducible refine split_cond (fun _ => ?_) (fun _ => ?_)) | (with_reducible refine split_guardN (fun _ => ?_) (fun _ => ?_)) | (with_reducible refine split_guardA (fun _ => ?_) (fun _ => ?_)) | (with_reducible refine split_guardO (fun _ => ?_) (fun _ => ?_)) | (with_reducible refine split_guard (fun _ => ?_) (fun _ => ?_))) <;> (rename_i h; simp only [h, hst, htr, htu, cStep, List.replicate, List.set, cState, wx, I, exec, resOf, reduceIte, reduceCtorEq, ne_eq, not_false_eq_true, Root.bx.injEq, Root.tm.injEq, Nat.reduceAdd, Nat.reduceBEq, Nat.reduceBNe, Nat.reduceEqDiff, Nat.reduceLT, Nat.reduceLeDiff, Nat.reduceMul, Nat.reduceSub, Int.reduceToNat, Int.reduceEq, Int.reduceBEq, Int.reduceBNe, Int.reduceLT, Int.reduceLE, if_true, if_false, Bool.false_eq_true, decide_true, decide_false, List.zipIdx_nil, bne_self_eq_false])))

theorem pc_homeTurnR (hp : OkP p) (hs : inS p s.signals) (hf : f.signal < (p.signals.length : Int)) : pc E 47 [.agg (cPlan p), .agg (cState s), .agg (cFault f)] = some (.tup [.agg (cState (homeTurnI x s f).1), I (homeTurnI x s f).2.1, .bool (homeTurnI x s f).2.2]) := by
  have hxm : x ∈ p.steps := List.mem_of_getElem? hx
  have ok := hp.st x hxm
  refine pc_code (mf := f47) rfl ?_
  rw [runF_U rfl]
  have h1 := pc_seenR hp hs hf
  have h2 := pc_has hp (inS_seen hp hs hf) ok.needs
  have ht1 := pc_turnR p s x h0 hx f hp hs hf (-1) (by omega)
  simp only [cFault, cState] at h1 ht1
  simp only [f47, cSteps, h0, hx, cStep, List.replicate, List.set, homeTurnI, tripsB, wx, I, exec, resOf, reduceIte, reduceCtorEq, ne_eq, not_false_eq_true, Root.bx.injEq, Root.tm.injEq, Nat.reduceAdd, Nat.reduceBEq, Nat.reduceBNe, Nat.reduceEqDiff, Nat.reduceLT, Nat.reduceLeDiff, Nat.reduceMul, Nat.reduceSub, Int.reduceToNat, Int.reduceEq, Int.reduceBEq, Int.reduceBNe, Int.reduceLT, Int.reduceLE, if_true, if_false, Bool.false_eq_true, decide_true, decide_false, List.zipIdx_nil, bne_self_eq_false]
  by_cases c1 : x.wait = 0
  · have c1' : (x.wait == 0) = true := by simp [c1]
    simp only [c1', wx, I, exec, resOf, reduceIte, reduceCtorEq, ne_eq, not_false_eq_true, Root.bx.injEq, Root.tm.injEq, Nat.reduceAdd, Nat.reduceBEq, Nat.reduceBNe, Nat.reduceEqDiff, Nat.reduceLT, Nat.reduceLeDiff, Nat.reduceMul, Nat.reduceSub, Int.reduceToNat, Int.reduceEq, Int.reduceBEq, Int.reduceBNe, Int.reduceLT, Int.reduceLE, if_true, if_false, Bool.false_eq_true, decide_true, decide_false, List.zipIdx_nil, bne_self_eq_false]
    cases c2 : x.safe
    · simp only [c2, h1, h2, wx, I, exec, resOf, reduceIte, reduceCtorEq, ne_eq, not_false_eq_true, Root.bx.injEq, Root.tm.injEq, Nat.reduceAdd, Nat.reduceBEq, Nat.reduceBNe, Nat.reduceEqDiff, Nat.reduceLT, Nat.reduceLeDiff, Nat.reduceMul, Nat.reduceSub, Int.reduceToNat, Int.reduceEq, Int.reduceBEq, Int.reduceBNe, Int.reduceLT, Int.reduceLE, if_true, if_false, Bool.false_eq_true, decide_true, decide_false, List.zipIdx_nil, bne_self_eq_false]
      rcases Bool.eq_false_or_eq_true (lacks (seenI s.signals f) x.needs) with c3 | c3
      · simp only [c3, ht1, List.replicate, List.set, cState, wx, I, exec, resOf, reduceIte, reduceCtorEq, ne_eq, not_false_eq_true, Root.bx.injEq, Root.tm.injEq, Nat.reduceAdd, Nat.reduceBEq, Nat.reduceBNe, Nat.reduceEqDiff, Nat.reduceLT, Nat.reduceLeDiff, Nat.reduceMul, Nat.reduceSub, Int.reduceToNat, Int.reduceEq, Int.reduceBEq, Int.reduceBNe, Int.reduceLT, Int.reduceLE, if_true, if_false, Bool.false_eq_true, decide_true, decide_false, List.zipIdx_nil, bne_self_eq_false]
      · simp only [c3, wx, I, exec, resOf, reduceIte, reduceCtorEq, ne_eq, not_false_eq_true, Root.bx.injEq, Root.tm.injEq, Nat.reduceAdd, Nat.reduceBEq, Nat.reduceBNe, Nat.reduceEqDiff, Nat.reduceLT, Nat.reduceLeDiff, Nat.reduceMul, Nat.reduceSub, Int.reduceToNat, Int.reduceEq, Int.reduceBEq, Int.reduceBNe, Int.reduceLT, Int.reduceLE, if_true, if_false, Bool.false_eq_true, decide_true, decide_false, List.zipIdx_nil, bne_self_eq_false]
        by_cases c4 : (x.exits.length : Int) = 0
        · have c4' : ((x.exits.length : Int) == 0) = true := by simp [c4]
          simp only [c4', List.replicate, List.set, cState, wx, I, exec, resOf, reduceIte, reduceCtorEq, ne_eq, not_false_eq_true, Root.bx.injEq, Root.tm.injEq, Nat.reduceAdd, Nat.reduceBEq, Nat.reduceBNe, Nat.reduceEqDiff, Nat.reduceLT, Nat.reduceLeDiff, Nat.reduceMul, Nat.reduceSub, Int.reduceToNat, Int.reduceEq, Int.reduceBEq, Int.reduceBNe, Int.reduceLT, Int.reduceLE, if_true, if_false, Bool.false_eq_true, decide_true, decide_false, List.zipIdx_nil, bne_self_eq_false]
        · have c4' : ((x.exits.length : Int) == 0) = false := by simpa using c4
          have hh : -1 ≤ x.home := by
            have := ok.home c1
            simp only [homeOK, c4', Bool.false_and, Bool.or_false] at this
            have := ok.exits c1 _ (hasI_mem this)
            have := this.1; omega
          have ht2 := pc_turnR p s x h0 hx f hp hs hf x.home hh
          simp only [cFault, cState] at ht2
          simp only [c4', ht2, List.replicate, List.set, cState, wx, I, exec, resOf, reduceIte, reduceCtorEq, ne_eq, not_false_eq_true, Root.bx.injEq, Root.tm.injEq, Nat.reduceAdd, Nat.reduceBEq, Nat.reduceBNe, Nat.reduceEqDiff, Nat.reduceLT, Nat.reduceLeDiff, Nat.reduceMul, Nat.reduceSub, Int.reduceToNat, Int.reduceEq, Int.reduceBEq, Int.reduceBNe, Int.reduceLT, Int.reduceLE, if_true, if_false, Bool.false_eq_true, decide_true, decide_false, List.zipIdx_nil, bne_self_eq_false]
    · simp only [c2, ht1, List.replicate, List.set, cState, wx, I, exec, resOf, reduceIte, reduceCtorEq, ne_eq, not_false_eq_true, Root.bx.injEq, Root.tm.injEq, Nat.reduceAdd, Nat.reduceBEq, Nat.reduceBNe, Nat.reduceEqDiff, Nat.reduceLT, Nat.reduceLeDiff, Nat.reduceMul, Nat.reduceSub, Int.reduceToNat, Int.reduceEq, Int.reduceBEq, Int.reduceBNe, Int.reduceLT, Int.reduceLE, if_true, if_false, Bool.false_eq_true, decide_true, decide_false, List.zipIdx_nil, bne_self_eq_false]
  · have c1' : (x.wait == 0) = false := by simp [c1]
    simp only [c1', ht1, List.replicate, List.set, cState, wx, I, exec, resOf, reduceIte, reduceCtorEq, ne_eq, not_false_eq_true, Root.bx.injEq, Root.tm.injEq, Nat.reduceAdd, Nat.reduceBEq, Nat.reduceBNe, Nat.reduceEqDiff, Nat.reduceLT, Nat.reduceLeDiff, Nat.reduceMul, Nat.reduceSub, Int.reduceToNat, Int.reduceEq, Int.reduceBEq, Int.reduceBNe, Int.reduceLT, Int.reduceLE, if_true, if_false, Bool.false_eq_true, decide_true, decide_false, List.zipIdx_nil, bne_self_eq_false]

end

theorem step_at {p : Plan} {n : Int} (h : inX p n) : ∃ x, p.steps[n.toNat]? = some x := by
  obtain ⟨h0, h1⟩ := h
  exact ⟨_, List.getElem?_eq_getElem (by omega)⟩

theorem pc_seenIn (p : Plan) (hp : few p = true) (s : State) (f : Fault) : pc E 45 [.agg (cPlan p), .agg (cState s), .agg (cFault f)] = some (.tup [I (if bothE p s f = 0 then seenI s.signals f else 0), I (bothE p s f)]) := by
  refine pc_code (mf := f45) rfl ?_
  rw [runF_U rfl]
  have h1 := pc_openState p hp s f
  have h2 := pc_seen s.signals f
  simp only [cFault, cState] at h1 h2
  simp only [f45, h1, List.replicate, List.set, wx, I, exec, resOf, reduceIte, reduceCtorEq, ne_eq, not_false_eq_true, Root.bx.injEq, Root.tm.injEq, Nat.reduceAdd, Nat.reduceBEq, Nat.reduceBNe, Nat.reduceEqDiff, Nat.reduceLT, Nat.reduceLeDiff, Nat.reduceMul, Nat.reduceSub, Int.reduceToNat, Int.reduceEq, Int.reduceBEq, Int.reduceBNe, Int.reduceLT, Int.reduceLE, if_true, if_false, Bool.false_eq_true, decide_true, decide_false, List.zipIdx_nil, bne_self_eq_false]
  by_cases c : bothE p s f = 0
  · simp only [c, h2, wx, I, exec, resOf, reduceIte, reduceCtorEq, ne_eq, not_false_eq_true, Root.bx.injEq, Root.tm.injEq, Nat.reduceAdd, Nat.reduceBEq, Nat.reduceBNe, Nat.reduceEqDiff, Nat.reduceLT, Nat.reduceLeDiff, Nat.reduceMul, Nat.reduceSub, Int.reduceToNat, Int.reduceEq, Int.reduceBEq, Int.reduceBNe, Int.reduceLT, Int.reduceLE, if_true, if_false, Bool.false_eq_true, decide_true, decide_false, List.zipIdx_nil, bne_self_eq_false]
  · have c2 : (bothE p s f != 0) = true := by simp [c]
    simp only [c, c2, wx, I, exec, resOf, reduceIte, reduceCtorEq, ne_eq, not_false_eq_true, Root.bx.injEq, Root.tm.injEq, Nat.reduceAdd, Nat.reduceBEq, Nat.reduceBNe, Nat.reduceEqDiff, Nat.reduceLT, Nat.reduceLeDiff, Nat.reduceMul, Nat.reduceSub, Int.reduceToNat, Int.reduceEq, Int.reduceBEq, Int.reduceBNe, Int.reduceLT, Int.reduceLE, if_true, if_false, Bool.false_eq_true, decide_true, decide_false, List.zipIdx_nil, bne_self_eq_false]

theorem pc_HomeTurn_bad (p : Plan) (hp : few p = true) (s : State) (f : Fault) (c : ¬ bothE p s f = 0) : pc E 31 [.agg (cPlan p), .agg (cState s), .agg (cFault f)] = some (.tup [.agg [I 0, I 0], I 0, I (bothE p s f)]) := by
  refine pc_code (mf := f31) rfl ?_
  rw [runF_U rfl]
  have h1 := pc_openState p hp s f
  simp only [cFault, cState] at h1
  have c2 : (bothE p s f != 0) = true := by simp [c]
  simp only [f31, h1, c, c2, List.replicate, List.set, wx, I, exec, resOf, reduceIte, reduceCtorEq, ne_eq, not_false_eq_true, Root.bx.injEq, Root.tm.injEq, Nat.reduceAdd, Nat.reduceBEq, Nat.reduceBNe, Nat.reduceEqDiff, Nat.reduceLT, Nat.reduceLeDiff, Nat.reduceMul, Nat.reduceSub, Int.reduceToNat, Int.reduceEq, Int.reduceBEq, Int.reduceBNe, Int.reduceLT, Int.reduceLE, if_true, if_false, Bool.false_eq_true, decide_true, decide_false, List.zipIdx_nil, bne_self_eq_false]

theorem pc_HomeTurn (p : Plan) (hp : few p = true) (s : State) (f : Fault) (c : bothE p s f = 0) (x : Step) (hx : p.steps[s.step.toNat]? = some x) : pc E 31 [.agg (cPlan p), .agg (cState s), .agg (cFault f)] = some (.tup [.agg (cState (homeTurnI x s f).1), I (homeTurnI x s f).2.1, I (unl (homeTurnI x s f).2.2 21)]) := by
  refine pc_code (mf := f31) rfl ?_
  rw [runF_U rfl]
  have h1 := pc_openState p hp s f
  obtain ⟨c1, c2, c3⟩ := both_of c
  obtain ⟨d1, d2⟩ := okS_of c2
  have h2 := pc_homeTurn p s x d1.1 hx f
  simp only [cFault, cState] at h1 h2
  simp only [f31, h1, c, h2, pc_unless, List.replicate, List.set, wx, I, exec, resOf, reduceIte, reduceCtorEq, ne_eq, not_false_eq_true, Root.bx.injEq, Root.tm.injEq, Nat.reduceAdd, Nat.reduceBEq, Nat.reduceBNe, Nat.reduceEqDiff, Nat.reduceLT, Nat.reduceLeDiff, Nat.reduceMul, Nat.reduceSub, Int.reduceToNat, Int.reduceEq, Int.reduceBEq, Int.reduceBNe, Int.reduceLT, Int.reduceLE, if_true, if_false, Bool.false_eq_true, decide_true, decide_false, List.zipIdx_nil, bne_self_eq_false]

theorem pc_TurnOf_bad (p : Plan) (hp : few p = true) (s : State) (f : Fault) (cm : Int) (c : ¬ bothE p s f = 0) : pc E 46 [.agg (cPlan p), .agg (cState s), .agg [I f.signal, .bool f.on, I cm]] = some (.tup [.agg [I 0, I 0], I 0, I (bothE p s f)]) := by
  refine pc_code (mf := f46) rfl ?_
  rw [runF_U rfl]
  have h1 := pc_openState p hp s f
  simp only [cFault, cState] at h1
  have c2 : (bothE p s f != 0) = true := by simp [c]
  have c3 : (bothE p s f == 0) = false := by simp [c]
  simp only [f46, h1, c, c2, c3, List.replicate, List.set, wx, I, exec, resOf, reduceIte, reduceCtorEq, ne_eq, not_false_eq_true, Root.bx.injEq, Root.tm.injEq, Nat.reduceAdd, Nat.reduceBEq, Nat.reduceBNe, Nat.reduceEqDiff, Nat.reduceLT, Nat.reduceLeDiff, Nat.reduceMul, Nat.reduceSub, Int.reduceToNat, Int.reduceEq, Int.reduceBEq, Int.reduceBNe, Int.reduceLT, Int.reduceLE, if_true, if_false, Bool.false_eq_true, decide_true, decide_false, List.zipIdx_nil, bne_self_eq_false]

/-- May a command be given in a step? -/
def mayB (x : Step) (cm : Int) : Bool := (cm == -1) || ((x.wait == 0) && hasI x.exits cm)

theorem pc_TurnOf (p : Plan) (hp : few p = true) (s : State) (f : Fault) (cm : Int) (c : bothE p s f = 0) (x : Step) (hx : p.steps[s.step.toNat]? = some x) : pc E 46 [.agg (cPlan p), .agg (cState s), .agg [I f.signal, .bool f.on, I cm]] =
    some (if mayB x cm then .tup [.agg (cState (turnI x s f cm).1), I (turnI x s f cm).2, I 0] else .tup [.agg [I 0, I 0], I 0, I 24]) := by
  refine pc_code (mf := f46) rfl ?_
  rw [runF_U rfl]
  have h1 := pc_openState p hp s f
  obtain ⟨c1, c2, c3⟩ := both_of c
  obtain ⟨d1, d2⟩ := okS_of c2
  have hl : x.exits.length ≤ 1000 := by have := ((few_get hp).2.2.2 x (List.mem_of_getElem? hx)).2; omega
  have h2 : pc E 93 [.agg (cStep x), I cm] = some (.bool (mayB x cm)) := pc_may x hl cm
  have h3 := pc_turn p s x d1.1 hx f cm
  simp only [cFault, cState, cStep] at h1 h2 h3
  have d3 := d1.1
  simp only [f46, h1, c, hx, d3, h2, pc_unless, List.replicate, List.set, cSteps, cStep, wx, I, exec, resOf, reduceIte, reduceCtorEq, ne_eq, not_false_eq_true, Root.bx.injEq, Root.tm.injEq, Nat.reduceAdd, Nat.reduceBEq, Nat.reduceBNe, Nat.reduceEqDiff, Nat.reduceLT, Nat.reduceLeDiff, Nat.reduceMul, Nat.reduceSub, Int.reduceToNat, Int.reduceEq, Int.reduceBEq, Int.reduceBNe, Int.reduceLT, Int.reduceLE, if_true, if_false, Bool.false_eq_true, decide_true, decide_false, List.zipIdx_nil, bne_self_eq_false]
  rcases Bool.eq_false_or_eq_true (mayB x cm) with e | e
  · simp only [e, unl, h3, List.replicate, List.set, cState, wx, I, exec, resOf, reduceIte, reduceCtorEq, ne_eq, not_false_eq_true, Root.bx.injEq, Root.tm.injEq, Nat.reduceAdd, Nat.reduceBEq, Nat.reduceBNe, Nat.reduceEqDiff, Nat.reduceLT, Nat.reduceLeDiff, Nat.reduceMul, Nat.reduceSub, Int.reduceToNat, Int.reduceEq, Int.reduceBEq, Int.reduceBNe, Int.reduceLT, Int.reduceLE, if_true, if_false, Bool.false_eq_true, decide_true, decide_false, List.zipIdx_nil, bne_self_eq_false]
  · simp only [e, unl, h3, List.replicate, List.set, wx, I, exec, resOf, reduceIte, reduceCtorEq, ne_eq, not_false_eq_true, Root.bx.injEq, Root.tm.injEq, Nat.reduceAdd, Nat.reduceBEq, Nat.reduceBNe, Nat.reduceEqDiff, Nat.reduceLT, Nat.reduceLeDiff, Nat.reduceMul, Nat.reduceSub, Int.reduceToNat, Int.reduceEq, Int.reduceBEq, Int.reduceBNe, Int.reduceLT, Int.reduceLE, if_true, if_false, Bool.false_eq_true, decide_true, decide_false, List.zipIdx_nil, bne_self_eq_false]

end Go.ViD
end
