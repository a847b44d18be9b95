import Derived.Test.YtomimhedehecdaaDoorViGTurn
section
/- Ways home: a way that ends, and one that comes round. Plain lists. -/
set_option linter.unusedSimpArgs false
set_option linter.unusedVariables false
namespace Go.ViD
open Go.Vi

deriving instance DecidableEq for State

section
variable (home : State → Bool) (next : State → State × Int × Bool)

/-- The states on a way, with those that were there before (the program's). -/
def runL : Nat → List State → State → Option (List State)
  | 0, _, _ => none
  | n + 1, B, s => if home s then some [] else if !(next s).2.2 || decide (s ∈ B) then none else (runL n (s :: B) (next s).1).map ((next s).1 :: ·)

/-- The states on a way of so many turns at most (the reference's). -/
def refL : Nat → State → Option (List State)
  | 0, s => if home s then some [] else none
  | m + 1, s => if home s then some [] else if !(next s).2.2 then none else (refL m (next s).1).map ((next s).1 :: ·)

/-- The ticks along a way. -/
def accOf : State → List State → Int → Int
  | _, [], a => a
  | s, s' :: l, a => accOf s' l (IntKind.i64.wrap (a + (next s).2.1))

theorem run_ref : ∀ (n : Nat) (B : List State) (s : State) (r : List State), runL home next n B s = some r → refL home next n s = some r
  | 0, _, _, _, h => by simp [runL] at h
  | n + 1, B, s, r, h => by
    simp only [runL] at h
    simp only [refL]
    by_cases h1 : home s = true
    · rw [if_pos h1] at h ⊢; exact h
    · rw [if_neg h1] at h ⊢
      by_cases h2 : (!(next s).2.2 || decide (s ∈ B)) = true
      · rw [if_pos h2] at h; cases h
      · rw [if_neg h2] at h
        obtain ⟨l, hl, rfl⟩ := Option.map_eq_some_iff.1 h
        have h3 : ¬ (!(next s).2.2) = true := by intro h3; apply h2; rw [h3]; rfl
        rw [if_neg h3, run_ref n (s :: B) _ l hl]; rfl

theorem ref_less : ∀ (m : Nat) (s : State) (r : List State), refL home next m s = some r → ∀ m', r.length ≤ m' → refL home next m' s = some r
  | 0, s, r, h, m', hm => by
    simp only [refL] at h
    by_cases h1 : home s = true
    · rw [if_pos h1] at h; cases h
      cases m' <;> simp [refL, h1]
    · rw [if_neg h1] at h; cases h
  | m + 1, s, r, h, m', hm => by
    simp only [refL] at h
    by_cases h1 : home s = true
    · rw [if_pos h1] at h; cases h
      cases m' <;> simp [refL, h1]
    · rw [if_neg h1] at h
      by_cases h2 : (!(next s).2.2) = true
      · rw [if_pos h2] at h; cases h
      · rw [if_neg h2] at h
        obtain ⟨l, hl, rfl⟩ := Option.map_eq_some_iff.1 h
        cases m' with
        | zero => simp at hm
        | succ m' =>
          simp only [refL]
          rw [if_neg h1, if_neg h2, ref_less m _ l hl m' (by simpa using hm)]; rfl

theorem ref_one {m m' : Nat} {s : State} {r r' : List State} (h : refL home next m s = some r) (h' : refL home next m' s = some r') : r = r' := by
  have h1 := ref_less home next m s r h (max r.length r'.length) (by omega)
  have h2 := ref_less home next m' s r' h' (max r.length r'.length) (by omega)
  exact Option.some.inj (h1.symm.trans h2)

theorem ref_run : ∀ (m : Nat) (B : List State) (s : State) (r : List State), refL home next m s = some r →
    (∀ b ∈ B, ∃ m' l', refL home next m' b = some l' ∧ r.length < l'.length) → runL home next (m + 1) B s = some r
  | m, B, s, r, h, hB => by
    have hs : s ∉ B := fun hb => by
      obtain ⟨m', l', h1, h2⟩ := hB s hb
      have := ref_one home next h h1
      subst this
      omega
    simp only [runL]
    cases m with
    | zero =>
      simp only [refL] at h
      by_cases h1 : home s = true
      · rw [if_pos h1] at h ⊢; exact h
      · rw [if_neg h1] at h; cases h
    | succ m =>
      have h0 := h
      simp only [refL] at h
      by_cases h1 : home s = true
      · rw [if_pos h1] at h ⊢; exact h
      · rw [if_neg h1] at h ⊢
        by_cases h2 : (!(next s).2.2) = true
        · rw [if_pos h2] at h; cases h
        · rw [if_neg h2] at h
          obtain ⟨l, hl, rfl⟩ := Option.map_eq_some_iff.1 h
          rw [if_neg (by simp only [Bool.or_eq_true, decide_eq_true_eq, not_or]; exact ⟨h2, hs⟩)]
          rw [ref_run m (s :: B) _ l hl fun b hb => ?_]; rfl
          rcases List.mem_cons.1 hb with rfl | hb
          · exact ⟨m + 1, _, h0, by simp⟩
          · obtain ⟨m', l', a1, a2⟩ := hB b hb
            exact ⟨m', l', a1, by simp at a2; omega⟩

variable (N : Nat) (ok : State → Prop)

theorem run_len (hN : ∀ B : List State, B.Nodup → (∀ b ∈ B, ok b) → B.length ≤ N) (hn : ∀ s, ok s → (next s).2.2 = true → ok (next s).1) :
    ∀ (n : Nat) (B : List State) (s : State) (r : List State), runL home next n B s = some r → B.Nodup → (∀ b ∈ B, ok b) → ok s → r.length + B.length ≤ N
  | 0, _, _, _, h, _, _, _ => by simp [runL] at h
  | n + 1, B, s, r, h, hB, hb, hs => by
    simp only [runL] at h
    by_cases h1 : home s = true
    · rw [if_pos h1] at h; cases h
      simpa using hN B hB hb
    · rw [if_neg h1] at h
      by_cases h2 : (!(next s).2.2 || decide (s ∈ B)) = true
      · rw [if_pos h2] at h; cases h
      · rw [if_neg h2] at h
        obtain ⟨l, hl, rfl⟩ := Option.map_eq_some_iff.1 h
        simp only [Bool.or_eq_true, Bool.not_eq_true', decide_eq_true_eq, not_or, Bool.not_eq_false] at h2
        have := run_len hN hn n (s :: B) _ l hl (List.nodup_cons.2 ⟨h2.2, hB⟩) (fun b hb' => by
          rcases List.mem_cons.1 hb' with rfl | hb'
          · exact hs
          · exact hb b hb') (hn s hs h2.1)
        simp only [List.length_cons] at this ⊢
        omega

/-- Both ways of stopping give the same. -/
theorem run_eq_ref (hN : ∀ B : List State, B.Nodup → (∀ b ∈ B, ok b) → B.length ≤ N) (hn : ∀ s, ok s → (next s).2.2 = true → ok (next s).1) {s : State} (hs : ok s) :
    runL home next (N + 2) [] s = refL home next (N + 1) s := by
  cases h : refL home next (N + 1) s with
  | some r => exact ref_run home next (N + 1) [] s r h fun b hb => by cases hb
  | none =>
    cases h2 : runL home next (N + 2) [] s with
    | none => rfl
    | some r =>
      have h3 := run_ref home next _ _ _ _ h2
      have h4 := run_len home next N ok hN hn _ _ _ _ h2 List.nodup_nil (fun b hb => by cases hb) hs
      have h5 := ref_less home next _ _ _ h3 (N + 1) (by simp at h4; omega)
      rw [h] at h5; cases h5
end

/-! ### so many states -/
theorem nodup_lt : ∀ (N : Nat) (l : List Nat), l.Nodup → (∀ x ∈ l, x < N) → l.length ≤ N
  | 0, l, _, h => by
    cases l with
    | nil => simp
    | cons x l => exact absurd (h x (by simp)) (by omega)
  | N + 1, l, hd, h => by
    have h1 := nodup_lt N (l.erase N) (hd.erase N) fun x hx => by
      have h1 := (hd.mem_erase_iff).1 hx
      have h2 := h x h1.2
      have h3 := h1.1
      omega
    have h2 : l.length ≤ (l.erase N).length + 1 := by rw [List.length_erase]; split <;> omega
    omega

theorem states_le {p : Plan} (B : List State) (hd : B.Nodup) (h : ∀ b ∈ B, inX p b.step ∧ inS p b.signals) : B.length ≤ p.steps.length * 2 ^ p.signals.length := by
  have hp := Nat.two_pow_pos p.signals.length
  have e := top_eq p
  generalize hM : 2 ^ p.signals.length = M at *
  have hc : ∀ b ∈ B, ∃ i j : Nat, b.step = i ∧ b.signals = j ∧ i < p.steps.length ∧ j < M := fun b hb => by
    obtain ⟨⟨h1, h2⟩, h3, h4⟩ := h b hb
    exact ⟨b.step.toNat, b.signals.toNat, by omega, by omega, by omega, by omega⟩
  have h1 := nodup_lt (p.steps.length * M) (B.map fun b => b.step.toNat * M + b.signals.toNat) (by
    rw [List.nodup_iff_pairwise_ne] at hd ⊢
    rw [List.pairwise_map]
    refine hd.imp_of_mem ?_
    intro a b ha hb hne he
    obtain ⟨i, j, e1, e2, l1, l2⟩ := hc a ha
    obtain ⟨i', j', e3, e4, l3, l4⟩ := hc b hb
    rw [e1, e2, e3, e4] at he
    simp only [Int.toNat_natCast] at he
    have hj : j = j' := by
      have := congrArg (· % M) he
      simpa [Nat.mul_add_mod_self_right, Nat.mod_eq_of_lt l2, Nat.mod_eq_of_lt l4, Nat.add_mod] using this
    have hi : i = i' := by
      subst hj
      have : i * M = i' * M := by omega
      exact Nat.eq_of_mul_eq_mul_right hp this
    apply hne
    cases a; cases b
    simp only at e1 e2 e3 e4
    subst e1 e2 e3 e4
    rw [hi, hj]) fun x hx => by
      obtain ⟨b, hb, rfl⟩ := List.mem_map.1 hx
      obtain ⟨i, j, e1, e2, l1, l2⟩ := hc b hb
      rw [e1, e2]
      simp only [Int.toNat_natCast]
      calc i * M + j < i * M + M := by omega
        _ = (i + 1) * M := by rw [Nat.add_mul, Nat.one_mul]
        _ ≤ p.steps.length * M := Nat.mul_le_mul_right M (by omega)
  simpa using h1

end Go.ViD
end
section
/- Ways home: the loops of the program and of the reference. -/
set_option linter.unusedSimpArgs false
set_option linter.unusedVariables false
namespace Go.ViD
open Go.Vi

/-! ### the map of states -/
abbrev ks2 : List Lk := [.i .i64, .i .i64]
abbrev pairS (s : State) : V × V := (.agg (cState s), .bool true)

theorem leq_state (v s : State) : leqv true ks2 (.agg (cState v)) (.agg (cState s)) = some (decide (v = s)) := by
  obtain ⟨a, b⟩ := v
  obtain ⟨c, d⟩ := s
  simp only [leqv, cellsAg, leqs, leq1, and_self, if_true, Bool.and_true]
  congr 1
  by_cases h1 : a = c <;> by_cases h2 : b = d <;> simp [h1, h2]

theorem hit_state (v s : State) (x : V) : hit true ks2 (.agg (cState v)) (.agg (cState s), x) = decide (v = s) := by
  simp only [hit, leq_state]
  by_cases h : v = s <;> simp [h]

theorem fit_states (v : State) (l : List State) : allFit true ks2 (.agg (cState v)) (l.map pairS) = true := by
  simp only [allFit, List.all_eq_true]
  intro kv hkv
  obtain ⟨s, -, rfl⟩ := List.mem_map.1 hkv
  rw [leq_state]; rfl

theorem filt_states (v : State) : ∀ l : List State, l.Nodup → (l.map pairS).filter (hit true ks2 (.agg (cState v))) = if v ∈ l then [pairS v] else []
  | [], _ => by simp
  | a :: l, hd => by
    have hd' := List.nodup_cons.1 hd
    have ih := filt_states v l hd'.2
    rw [List.map_cons, List.filter_cons, ih]
    simp only [pairS, hit_state]
    by_cases h : v = a
    · subst h
      simp [hd'.1]
    · simp [h]

/-- A map whose keys are these states. -/
def StMap (es : List (V × V)) (B : List State) : Prop := ∃ l : List State, es = l.map pairS ∧ l.Nodup ∧ ∀ v, v ∈ l ↔ v ∈ B

theorem stMap_nil : StMap [] [] := ⟨[], rfl, List.nodup_nil, fun _ => Iff.rfl⟩

theorem stMap_look {es : List (V × V)} {B : List State} (h : StMap es B) (v : State) : lookM true ks2 (.agg (cState v)) es = some (if decide (v ∈ B) then some (.bool true) else none) := by
  obtain ⟨l, rfl, hd, hm⟩ := h
  unfold lookM
  rw [if_pos (fit_states v l), filt_states v l hd]
  by_cases hv : v ∈ l
  · simp [hv, (hm v).1 hv]
  · have : v ∉ B := fun h => hv ((hm v).2 h)
    simp [hv, this]

theorem insK_states (v : State) : ∀ l : List State, ∃ l' : List State, insK (pairS v) (l.map pairS) = l'.map pairS ∧ l'.Perm (v :: l)
  | [] => ⟨[v], rfl, List.Perm.refl _⟩
  | a :: l => by
    obtain ⟨l', h1, h2⟩ := insK_states v l
    rw [List.map_cons, insK]
    by_cases h : kless (pairS v).1 (pairS a).1 = true
    · rw [if_pos h]; exact ⟨v :: a :: l, rfl, List.Perm.refl _⟩
    · rw [if_neg h, h1]
      exact ⟨a :: l', rfl, (h2.cons a).trans (List.Perm.swap v a l)⟩

theorem stMap_set {es : List (V × V)} {B : List State} (h : StMap es B) {v : State} (hv : v ∉ B) : ∃ es', setM true ks2 (.agg (cState v)) (.bool true) es = some es' ∧ StMap es' (v :: B) := by
  obtain ⟨l, rfl, hd, hm⟩ := h
  have hv' : v ∉ l := fun h => hv ((hm v).1 h)
  obtain ⟨l', h1, h2⟩ := insK_states v l
  refine ⟨l'.map pairS, ?_, l', rfl, h2.symm.nodup (List.nodup_cons.2 ⟨hv', hd⟩), fun w => ?_⟩
  · unfold setM
    rw [if_pos (fit_states v l), filt_states v l hd, if_neg hv', ← h1]
  · rw [h2.mem_iff, List.mem_cons, List.mem_cons, hm w]

/-! ### valid states -/
def okS (p : Plan) (s : State) : Prop := inX p s.step ∧ inS p s.signals

theorem turnI_ok {p : Plan} (hp : OkP p) {x : Step} (hx : x ∈ p.steps) {s : State} (hs : okS p s) {f : Fault} (hf : f.signal < (p.signals.length : Int)) {c : Int} (hc : c = -1 ∨ (x.wait = 0 → inX p c)) : okS p (turnI x s f c).1 := by
  have ok := hp.st x hx
  unfold turnI
  by_cases h1 : tripsB x s f = true
  · rw [if_pos h1]; exact ⟨ok.trip, hs.2⟩
  · rw [if_neg h1]
    by_cases h2 : (x.wait == 0) = true
    · rw [if_pos h2]
      by_cases h3 : (c != -1) = true
      · rw [if_pos h3]
        rcases hc with hc | hc
        · subst hc; simp at h3
        · exact ⟨hc (by simpa using h2), hs.2⟩
      · rw [if_neg h3]; exact hs
    · rw [if_neg h2]
      have hw : x.wait ≠ 0 := by simpa using h2
      have hsg : inS p (bandn .i64 (bor .i64 s.signals x.makesOn) x.makesOff) := inS_bandn hp (inS_bor hp hs.2 (ok.mon hw)) (by have := inS_lt hp (ok.moff hw); omega)
      split
      · exact ⟨ok.trip, hsg⟩
      · split
        · exact ⟨ok.back hw, hsg⟩
        · exact ⟨ok.next hw, hsg⟩

def nextH (p : Plan) (f : Fault) (s : State) : State × Int × Bool := match p.steps[s.step.toNat]? with
  | some x => homeTurnI x s f
  | none => (s, 0, false)

def homeH (p : Plan) (f : Fault) (s : State) : Bool := match p.steps[s.step.toNat]? with
  | some x => x.safe && !tripsB x s f
  | none => false

theorem nextH_at {p : Plan} {f : Fault} {s : State} {x : Step} (hx : p.steps[s.step.toNat]? = some x) : nextH p f s = homeTurnI x s f := by
  unfold nextH; rw [hx]
theorem homeH_at {p : Plan} {f : Fault} {s : State} {x : Step} (hx : p.steps[s.step.toNat]? = some x) : homeH p f s = (x.safe && !tripsB x s f) := by
  unfold homeH; rw [hx]

theorem nextH_ok {p : Plan} (hp : OkP p) {f : Fault} (hf : f.signal < (p.signals.length : Int)) (s : State) (hs : okS p s) (h : (nextH p f s).2.2 = true) : okS p (nextH p f s).1 := by
  obtain ⟨x, hx⟩ := step_at hs.1
  rw [nextH_at hx] at h ⊢
  have hm := List.mem_of_getElem? hx
  unfold homeTurnI at h ⊢
  by_cases h1 : ((x.wait == 0) && (!x.safe && !tripsB x s f)) = true
  · rw [if_pos h1] at h ⊢
    by_cases h2 : ((x.exits.length : Int) == 0) = true
    · rw [if_pos h2] at h; cases h
    · rw [if_neg h2]
      refine turnI_ok hp hm hs hf (Or.inr fun hw => ?_)
      have ok := hp.st x hm
      have := ok.home hw
      simp only [homeOK, Bool.or_eq_true, Bool.and_eq_true] at this
      rcases this with h | h
      · exact ok.exits hw _ (hasI_mem h)
      · exact absurd h.1 h2
  · rw [if_neg h1]
    exact turnI_ok hp hm hs hf (Or.inl rfl)

section
variable (p : Plan) (s : State) (x : Step) (h0 : 0 ≤ s.step) (hx : p.steps[s.step.toNat]? = some x) (f : Fault)
include h0 hx

theorem pc_isHome (hp : OkP p) : pc E 120 [.agg (cPlan p), .agg (cState s), .agg (cFault f)] = some (.bool (homeH p f s)) := by
  have ok := hp.st x (List.mem_of_getElem? hx)
  refine pc_code (mf := f120) rfl ?_
  rw [runF_U rfl]
  have h1 := pc_isSafe x
  have h2 := pc_trips p s x h0 hx f
  simp only [cFault, cState, cStep] at h1 h2
  rw [homeH_at hx]
  have h3 : (x.safe && (x.wait == 0)) = x.safe := by
    cases hs : x.safe
    · rfl
    · by_cases hw : x.wait = 0
      · simp [hw]
      · exact absurd (ok.rest hw).1 (by simp [hs])
  rw [h3] at h1
  simp only [f120, cSteps, h0, hx, h1, cStep, wx, I, exec, resOf, reduceIte, reduceCtorEq, ne_eq, not_false_eq_true, Root.bx.injEq, Root.tm.injEq, Nat.reduceAdd, Nat.reduceBEq, Nat.reduceBNe, Nat.reduceEqDiff, Nat.reduceLT, Nat.reduceLeDiff, Nat.reduceMul, Nat.reduceSub, Int.reduceToNat, Int.reduceEq, Int.reduceBEq, Int.reduceBNe, Int.reduceLT, Int.reduceLE, if_true, if_false, Bool.false_eq_true, decide_true, decide_false, List.zipIdx_nil, bne_self_eq_false]
  repeat' (first | ((first | (with_reducible refine split_condE (fun _ _ _ => ?_) (fun _ _ _ => ?_)) | (with_reducible refine split_guardE (fun _ _ _ => ?_) (fun _ _ _ => ?_))) <;> (rename_i h h2 h3; simp only [h, h2, h3, h2, wx, I, exec, resOf, reduceIte, reduceCtorEq, ne_eq, not_false_eq_true, Root.bx.injEq, Root.tm.injEq, Nat.reduceAdd, Nat.reduceBEq, Nat.reduceBNe, Nat.reduceEqDiff, Nat.reduceLT, Nat.reduceLeDiff, Nat.reduceMul, Nat.reduceSub, Int.reduceToNat, Int.reduceEq, Int.reduceBEq, Int.reduceBNe, Int.reduceLT, Int.reduceLE, if_true, if_false, Bool.false_eq_true, decide_true, decide_false, List.zipIdx_nil, bne_self_eq_false])) | ((first | (with_reducible refine split_condN (fun _ => ?_) (fun _ => ?_)) | (with_reducible refine split_condA (fun _ => ?_) (fun _ => ?_)) | (with_reducible refine split_condO (fun _ => ?_) (fun _ => ?_)) | (with_reducible refine split_cond (fun _ => ?_) (fun _ => ?_)) | (with_reducible refine split_guardN (fun _ => ?_) (fun _ => ?_)) | (with_reducible refine split_guardA (fun _ => ?_) (fun _ => ?_)) | (with_reducible refine split_guardO (fun _ => ?_) (fun _ => ?_)) | (with_reducible refine split_guard (fun _ => ?_) (fun _ => ?_))) <;> (rename_i h; simp only [h, h2, wx, I, exec, resOf, reduceIte, reduceCtorEq, ne_eq, not_false_eq_true, Root.bx.injEq, Root.tm.injEq, Nat.reduceAdd, Nat.reduceBEq, Nat.reduceBNe, Nat.reduceEqDiff, Nat.reduceLT, Nat.reduceLeDiff, Nat.reduceMul, Nat.reduceSub, Int.reduceToNat, Int.reduceEq, Int.reduceBEq, Int.reduceBNe, Int.reduceLT, Int.reduceLE, if_true, if_false, Bool.false_eq_true, decide_true, decide_false, List.zipIdx_nil, bne_self_eq_false])))

theorem pc_IsHome (hp : OkP p) (hs : inS p s.signals) (hf : f.signal < (p.signals.length : Int)) : pc E 32 [.agg (cPlan p), .agg (cState s), .agg (cFault f)] = some (.bool (homeH p f s)) := by
  have ok := hp.st x (List.mem_of_getElem? hx)
  refine pc_code (mf := f32) rfl ?_
  rw [runF_U rfl]
  have h1 := pc_seenR hp hs hf
  have h2 := pc_has hp (inS_seen hp hs hf) ok.needs
  simp only [cFault] at h1
  rw [homeH_at hx]
  simp only [f32, cSteps, h0, hx, cStep, tripsB, wx, I, exec, resOf, reduceIte, reduceCtorEq, ne_eq, not_false_eq_true, Root.bx.injEq, Root.tm.injEq, Nat.reduceAdd, Nat.reduceBEq, Nat.reduceBNe, Nat.reduceEqDiff, Nat.reduceLT, Nat.reduceLeDiff, Nat.reduceMul, Nat.reduceSub, Int.reduceToNat, Int.reduceEq, Int.reduceBEq, Int.reduceBNe, Int.reduceLT, Int.reduceLE, if_true, if_false, Bool.false_eq_true, decide_true, decide_false, List.zipIdx_nil, bne_self_eq_false]
  rcases Bool.eq_false_or_eq_true x.safe with e | e <;> simp only [e, hx, h0, h1, h2, cStep, wx, I, exec, resOf, reduceIte, reduceCtorEq, ne_eq, not_false_eq_true, Root.bx.injEq, Root.tm.injEq, Nat.reduceAdd, Nat.reduceBEq, Nat.reduceBNe, Nat.reduceEqDiff, Nat.reduceLT, Nat.reduceLeDiff, Nat.reduceMul, Nat.reduceSub, Int.reduceToNat, Int.reduceEq, Int.reduceBEq, Int.reduceBNe, Int.reduceLT, Int.reduceLE, if_true, if_false, Bool.false_eq_true, decide_true, decide_false, List.zipIdx_nil, bne_self_eq_false]

end

end Go.ViD
end
