/- TopSequenceShortcuts: what it answers. -/
import Derived.Test.YtomimhedehecdaaDoorViGWaysD
import Derived.Test.YtomimhedehecdaaDoorViGHomes
set_option linter.unusedSimpArgs false
set_option linter.unusedVariables false
namespace Go.ViD
open Go.Vi

theorem pc_awakeS : pc E 54 [] = some (.bool true) := by
  refine pc_code (mf := f54) rfl ?_
  rw [runF_U rfl]
  simp only [f54, x67, x28, x18, x24, beq_self_eq_true, List.replicate, List.set, List.foldl, wx, I, exec, resOf, reduceIte, reduceCtorEq, ne_eq, not_false_eq_true, Root.bx.injEq, Root.tm.injEq, Nat.reduceAdd, Nat.reduceBEq, Nat.reduceBNe, Nat.reduceEqDiff, Nat.reduceLT, Nat.reduceLeDiff, Nat.reduceMul, Nat.reduceSub, Int.reduceToNat, Int.reduceEq, Int.reduceBEq, Int.reduceBNe, Int.reduceLT, Int.reduceLE, if_true, if_false, Bool.false_eq_true, decide_true, decide_false, List.zipIdx_nil, bne_self_eq_false]

theorem fault_noF (p : Plan) : faultE p noF = 0 := by
  unfold faultE inR unl
  have h : decide ((-1 : Int) ≤ (p.signals.length : Int) - 1) = true := by simp; omega
  simp only [noF, h, fst1]
  simp [fst1]

theorem both_noF {p : Plan} {s : State} (h1 : (planE p).2 = 0) (h2 : stateE p s = 0) : bothE p s noF = 0 := both_mk h1 (okS_of h2) (fault_noF p)

/-- Two ways, one after the other. -/
theorem all_append (ex : State → List Int) (ext : State → Int → Option (State × Int)) (s : State) {n : Nat} {e : State} {w : Way} (h : allQ ex ext s n e w) : ∀ (m : Nat) (e' : State) (w' : Way), allQ ex ext e m e' w' → allQ ex ext s (n + m) e' ⟨w.cs ++ w'.cs, w.tm + w'.tm⟩
  | 0, e', w', h' => by
    obtain ⟨rfl, rfl⟩ := h'
    simpa using h
  | m + 1, e', w', ⟨e0, w0, c, r, h0, hc, hr, h1, h2⟩ => by
    subst h1 h2
    refine ⟨e0, _, c, r, all_append ex ext s h m e0 w0 h0, hc, hr, rfl, ?_⟩
    simp [Int.add_assoc]

/-- No shortcut is left out. -/
theorem no_shortcut {p : Plan} (hp : OkP p) {s : State} (hs : goodS p s) {x : Step} (hx : p.steps[s.step.toNat]? = some x) {t1 t2 : Int} {b c : Way} (hb : bestN p s t1 11 = some b) (hc : bestN p (endOf s (runI p noF x s b.cs).1) t2 11 = some c) (hl : b.cs.length + c.cs.length ≤ 10) :
    ∃ d, bestN p s t2 11 = some d ∧ d.tm ≤ b.tm + c.tm := by
  obtain ⟨-, -, -, -, -, -, r7, -, r9⟩ := best_run hp hs hx hb
  obtain ⟨⟨n, hn, e, he, hq⟩, -⟩ := best_some hp r7 11 hc
  have g := (all_good (exP p) (extP p) _ (goodS p) r7 4000000 (by omega) (fun e c r he hc hr => ext_ok hp he hc hr) n e c hq).2.1
  have h := all_append (exP p) (extP p) s r9 n e c hq
  cases hd : bestN p s t2 11 with
  | none => exact absurd h (best_none hp hs 11 hd _ e _ (by omega) he)
  | some d =>
    refine ⟨d, rfl, ?_⟩
    have := (best_some hp hs 11 hd).2 _ e _ (by omega) he h
    unfold lt3 at this
    simp only at this
    omega

set_option maxRecDepth 8000 in
set_option maxHeartbeats 1600000 in
theorem pc_shortcuts_main (p : Plan) (s : State) (t1 t2 : Int) (hp : few p = true) (c0 : (planE p).2 = 0) (c1 : stateE p s = 0) (c2 : idxE p t1 = 0) (c4 : idxE p t2 = 0) (c3 : light p = true) : pc E 10 [.agg (cPlan p), .agg (cState s), .agg [I t1, I t2]] = some (.bool true) := by
  refine pc_code (mf := f10) rfl ?_
  rw [runF_U rfl]
  have hf := pc_few p
  have hfg := few_get hp
  have h1 := pc_planErr p hp
  have h2 := pc_light p
  have h3 := pc_copy p hp
  have h4 := pc_FastestWay p hp s t1
  have h5 := pc_stateErrR p hp s
  have h6 := pc_idxErrR p (by omega) t1
  have h7 := pc_idxErrR p (by omega) t2
  have hB := both_noF c0 c1
  have ok := okP_of c0
  have hs := okS_of c1
  obtain ⟨x, hx⟩ := step_at hs.1
  have key : ∀ (s' : State) (to : Int), okS p s' → idxE p to = 0 → (fastE p s' to = 20) ∨ (goodS p s' ∧ steadyH p ⟨to, 0⟩ = true ∧ fastE p s' to = 0) := by
    intro s' to hs' ht
    have hB' : bothE p s' noF = 0 := both_mk c0 hs' (fault_noF p)
    rcases fastE_cases p s' to with ⟨d1, d2⟩ | ⟨d1, d2, d3⟩ | ⟨d1, d2, d3, d4⟩ | ⟨d1, d2, d3, d4, d5⟩
    · exact absurd hB' d1
    · exact absurd ht d2
    · exact Or.inl d4
    · exact Or.inr ⟨⟨hs', d3⟩, d4, d5⟩
  simp only [cState] at h4 h5
  rcases key s t1 hs c2 with k | ⟨hg, k', k⟩
  · rw [k, if_neg (by decide)] at h4
    simp only [f10, pc_awakeS, hf, hp, h1, h2, h3, h4, h5, h6, h7, c0, c1, c2, c3, c4, beq_self_eq_true, bne_self_eq_false, Int.reduceGT, List.replicate, List.set, List.map_nil, ints, cState, wx, I, exec, resOf, reduceIte, reduceCtorEq, ne_eq, not_false_eq_true, Root.bx.injEq, Root.tm.injEq, Nat.reduceAdd, Nat.reduceBEq, Nat.reduceBNe, Nat.reduceEqDiff, Nat.reduceLT, Nat.reduceLeDiff, Nat.reduceMul, Nat.reduceSub, Int.reduceToNat, Int.reduceEq, Int.reduceBEq, Int.reduceBNe, Int.reduceLT, Int.reduceLE, if_true, if_false, Bool.false_eq_true, decide_true, decide_false, List.zipIdx_nil, bne_self_eq_false]
  · rw [k, if_pos rfl] at h4
    cases hb : bestN p s t1 11 with
    | none =>
      rw [hb] at h4
      simp only [wcs, wtm, Option.isSome_none, unl, List.map_nil] at h4
      simp only [f10, pc_awakeS, hf, hp, h1, h2, h3, h4, h5, h6, h7, c0, c1, c2, c3, c4, beq_self_eq_true, bne_self_eq_false, Int.reduceGT, List.replicate, List.set, List.map_nil, ints, cState, wx, I, exec, resOf, reduceIte, reduceCtorEq, ne_eq, not_false_eq_true, Root.bx.injEq, Root.tm.injEq, Nat.reduceAdd, Nat.reduceBEq, Nat.reduceBNe, Nat.reduceEqDiff, Nat.reduceLT, Nat.reduceLeDiff, Nat.reduceMul, Nat.reduceSub, Int.reduceToNat, Int.reduceEq, Int.reduceBEq, Int.reduceBNe, Int.reduceLT, Int.reduceLE, if_true, if_false, Bool.false_eq_true, decide_true, decide_false, List.zipIdx_nil, bne_self_eq_false]
    | some b =>
      rw [hb] at h4
      simp only [wcs, wtm, Option.isSome_some, unl] at h4
      obtain ⟨r1, r2, r3, r4, r5, r6, r7, r8, r9⟩ := best_run ok hg hx hb
      have hsc := fun c => no_shortcut ok hg hx (t2 := t2) (c := c) hb
      have h8 := pc_copyInts b.cs (by omega)
      have h10 := pc_RunOf p hp s noF b.cs hB x hx
      have hlen2 := runI_len ok noF x s b.cs
      rw [r4, r5, if_pos rfl] at h10
      generalize (runI p noF x s b.cs).1 = O2 at h10 hlen2 r6 r7 r8 r9 hsc
      have h11 := pc_FastestWay p hp (endOf s O2) t2
      have h12 := pc_FastestWay p hp s t2
      have h13 := pc_stateErrR p hp (endOf s O2)
      have c13 : stateE p (endOf s O2) = 0 := by
        refine (fst1_zero _).2 fun e he => ?_
        simp only [List.mem_cons, List.not_mem_nil, or_false] at he
        rcases he with rfl | rfl
        · exact idxE_zero.2 r7.1.1
        · exact setE_zero.2 r7.1.2
      have q6 : ((endOf s O2).step != t1) = false := by simp [r6]
      simp only [cState, cFault, ints] at h8 h10 h11 h12 h13
      have tail : (O2 = [] ∧ b.cs = []) ∨ (O2 ≠ [] ∧ b.cs ≠ [] ∧ ((O2.length : Int) == 0) = false ∧ ((b.cs.length : Int) == 0) = false ∧ ((O2.length : Int) > 0) ∧ IntKind.i64.wrap ((O2.length : Int) - 1) = ((O2.length - 1 : Nat) : Int)) := by
        by_cases g : O2 = []
        · left
          exact ⟨g, r8.1 g⟩
        · right
          have q : b.cs ≠ [] := fun h => g (r8.2 h)
          have l1 : 0 < O2.length := List.length_pos_iff.2 g
          refine ⟨g, q, by simp [g], by simp [q], by omega, by rw [wrap_id (by omega) (by omega)]; omega⟩
      have h12' : ∀ c, bestN p (endOf s O2) t2 11 = some c → goodS p (endOf s O2) → steadyH p ⟨t2, 0⟩ = true → b.cs.length + c.cs.length ≤ 10 → ∃ d : Way, pc E 18 [V.agg (cPlan p), V.agg [I s.step, I s.signals], I t2] = some (.tup [.sl .s 1 (d.cs.map fun n => [I n]), I d.tm, I 0]) ∧ d.tm ≤ b.tm + c.tm := by
        intro c hc _ hst hl
        obtain ⟨d, hd, hd2⟩ := hsc c hc hl
        refine ⟨d, ?_, hd2⟩
        have e : fastE p s t2 = 0 := by
          rcases key s t2 hs c4 with e | ⟨-, -, e⟩
          · rcases fastE_cases p s t2 with ⟨d1, d2⟩ | ⟨d1, d2, d3⟩ | ⟨d1, d2, d3, d4⟩ | ⟨d1, d2, d3, d4, d5⟩
            · exact absurd hB d1
            · exact absurd c4 d2
            · rw [hg.2, hst] at d3; cases d3
            · exact d5
          · exact e
        rw [e, if_pos rfl, hd] at h12
        exact h12
      have hbnd : ∀ c, bestN p (endOf s O2) t2 11 = some c → goodS p (endOf s O2) → c.cs.length ≤ 10 ∧ 0 ≤ c.tm ∧ c.tm ≤ 44000000 := by
        intro c hc hgo
        obtain ⟨y, hy⟩ := step_at hgo.1.1
        obtain ⟨u1, u2, u3, -⟩ := best_run ok hgo hy hc
        exact ⟨u1, u2, u3⟩
      have h12n : ∃ (o : Own) (l3 : List (List V)) (a3 b3 : Int), pc E 18 [V.agg (cPlan p), V.agg [I s.step, I s.signals], I t2] = some (.tup [.sl o 1 l3, I a3, I b3]) ∧ (o = .s ∨ o = .a) := by
        rw [h12]
        split
        · exact ⟨_, _, _, _, rfl, Or.inl rfl⟩
        · exact ⟨_, _, _, _, rfl, Or.inr rfl⟩
      obtain ⟨o3, l3, a3, b3, h12n, hO3⟩ := h12n
      rcases tail with ⟨t1', t2'⟩ | ⟨t1', t2', t3', t4', t5', t6'⟩
      · subst t1'
        have q7 : (s.step != t1) = false := q6
        have e0 : endOf s [] = s := rfl
        rw [e0] at h11 h13 c13 h12' hbnd r7
        rw [t2'] at h4 h8 h10
        simp only [cSts, List.map_nil] at h4 h8 h10
        rcases key s t2 r7.1 c4 with kk | ⟨hg2, kk', kk⟩
        · rw [kk, if_neg (by decide)] at h11
          rcases hO3 with rfl | rfl <;> simp only [f10, pc_awakeS, hf, hp, h1, h2, h3, h4, h5, h6, h7, c0, c1, c2, c3, c4, h8, h10, x21, h13, c13, q6, q7, h11, h12n, beq_self_eq_true, bne_self_eq_false, Int.reduceGT, List.replicate, List.set, List.map_nil, ints, cState, wx, I, exec, resOf, reduceIte, reduceCtorEq, ne_eq, not_false_eq_true, Root.bx.injEq, Root.tm.injEq, Nat.reduceAdd, Nat.reduceBEq, Nat.reduceBNe, Nat.reduceEqDiff, Nat.reduceLT, Nat.reduceLeDiff, Nat.reduceMul, Nat.reduceSub, Int.reduceToNat, Int.reduceEq, Int.reduceBEq, Int.reduceBNe, Int.reduceLT, Int.reduceLE, if_true, if_false, Bool.false_eq_true, decide_true, decide_false, List.zipIdx_nil, bne_self_eq_false]
        · rw [kk, if_pos rfl] at h11
          cases hc : bestN p s t2 11 with
          | none =>
            rw [hc] at h11
            simp only [wcs, wtm, Option.isSome_none, unl, List.map_nil] at h11
            rcases hO3 with rfl | rfl <;> simp only [f10, pc_awakeS, hf, hp, h1, h2, h3, h4, h5, h6, h7, c0, c1, c2, c3, c4, h8, h10, x21, h13, c13, q6, q7, h11, h12n, beq_self_eq_true, bne_self_eq_false, Int.reduceGT, List.replicate, List.set, List.map_nil, ints, cState, wx, I, exec, resOf, reduceIte, reduceCtorEq, ne_eq, not_false_eq_true, Root.bx.injEq, Root.tm.injEq, Nat.reduceAdd, Nat.reduceBEq, Nat.reduceBNe, Nat.reduceEqDiff, Nat.reduceLT, Nat.reduceLeDiff, Nat.reduceMul, Nat.reduceSub, Int.reduceToNat, Int.reduceEq, Int.reduceBEq, Int.reduceBNe, Int.reduceLT, Int.reduceLE, if_true, if_false, Bool.false_eq_true, decide_true, decide_false, List.zipIdx_nil, bne_self_eq_false]
          | some c =>
            rw [hc] at h11
            simp only [wcs, wtm, Option.isSome_some, unl] at h11
            obtain ⟨u1, u2, u3⟩ := hbnd c hc r7
            have hw : IntKind.i64.wrap ((b.cs.length : Int) + (c.cs.length : Int)) = (b.cs.length : Int) + (c.cs.length : Int) := wrap_id (by omega) (by omega)
            by_cases hl : b.cs.length + c.cs.length ≤ 10
            · have hl2 : ¬ (b.cs.length : Int) + (c.cs.length : Int) > 10 := by omega
              have hd2 : c.tm ≤ b.tm + c.tm := by omega
              have hw2 : IntKind.i64.wrap (b.tm + c.tm) = b.tm + c.tm := wrap_id (by omega) (by omega)
              have i1 : inR b.tm 0 1099511627776 = true := by simp [inR]; omega
              have i2 : inR c.tm 0 1099511627776 = true := by simp [inR]; omega
              rw [t2'] at hw hl2; simp only [List.length_nil, Int.cast_ofNat_Int] at hw hl2
              simp only [f10, pc_awakeS, hf, hp, h1, h2, h3, h4, h5, h6, h7, c0, c1, c2, c3, c4, h8, h10, x21, h13, c13, q6, q7, h11, hw, hl2, hw2, hd2, i1, i2, pc_Within, beq_self_eq_true, bne_self_eq_false, Int.reduceGT, List.replicate, List.set, List.map_nil, ints, cState, wx, I, exec, resOf, reduceIte, reduceCtorEq, ne_eq, not_false_eq_true, Root.bx.injEq, Root.tm.injEq, Nat.reduceAdd, Nat.reduceBEq, Nat.reduceBNe, Nat.reduceEqDiff, Nat.reduceLT, Nat.reduceLeDiff, Nat.reduceMul, Nat.reduceSub, Int.reduceToNat, Int.reduceEq, Int.reduceBEq, Int.reduceBNe, Int.reduceLT, Int.reduceLE, if_true, if_false, Bool.false_eq_true, decide_true, decide_false, List.zipIdx_nil, bne_self_eq_false]
            · have hl2 : (b.cs.length : Int) + (c.cs.length : Int) > 10 := by omega
              rw [t2'] at hw hl2; simp only [List.length_nil, Int.cast_ofNat_Int] at hw hl2
              rcases hO3 with rfl | rfl <;> simp only [f10, pc_awakeS, hf, hp, h1, h2, h3, h4, h5, h6, h7, c0, c1, c2, c3, c4, h8, h10, x21, h13, c13, q6, q7, h11, h12n, hw, hl2, beq_self_eq_true, bne_self_eq_false, Int.reduceGT, List.replicate, List.set, List.map_nil, ints, cState, wx, I, exec, resOf, reduceIte, reduceCtorEq, ne_eq, not_false_eq_true, Root.bx.injEq, Root.tm.injEq, Nat.reduceAdd, Nat.reduceBEq, Nat.reduceBNe, Nat.reduceEqDiff, Nat.reduceLT, Nat.reduceLeDiff, Nat.reduceMul, Nat.reduceSub, Int.reduceToNat, Int.reduceEq, Int.reduceBEq, Int.reduceBNe, Int.reduceLT, Int.reduceLE, if_true, if_false, Bool.false_eq_true, decide_true, decide_false, List.zipIdx_nil, bne_self_eq_false]
      · have hm : (cSts O2)[O2.length - 1]? = some (cState (endOf s O2)) := by rw [List.getElem?_map, endOf_last s O2 t1']; rfl
        simp only [cSts, cState] at hm h10
        rcases key (endOf s O2) t2 r7.1 c4 with kk | ⟨hg2, kk', kk⟩
        · rw [kk, if_neg (by decide)] at h11
          rcases hO3 with rfl | rfl <;> simp only [f10, pc_awakeS, hf, hp, h1, h2, h3, h4, h5, h6, h7, c0, c1, c2, c3, c4, h8, h10, x21, h13, c13, q6, hm, t3', t4', t5', t6', List.length_map, h11, h12n, beq_self_eq_true, bne_self_eq_false, Int.reduceGT, List.replicate, List.set, List.map_nil, ints, cState, wx, I, exec, resOf, reduceIte, reduceCtorEq, ne_eq, not_false_eq_true, Root.bx.injEq, Root.tm.injEq, Nat.reduceAdd, Nat.reduceBEq, Nat.reduceBNe, Nat.reduceEqDiff, Nat.reduceLT, Nat.reduceLeDiff, Nat.reduceMul, Nat.reduceSub, Int.reduceToNat, Int.reduceEq, Int.reduceBEq, Int.reduceBNe, Int.reduceLT, Int.reduceLE, if_true, if_false, Bool.false_eq_true, decide_true, decide_false, List.zipIdx_nil, bne_self_eq_false]
        · rw [kk, if_pos rfl] at h11
          cases hc : bestN p (endOf s O2) t2 11 with
          | none =>
            rw [hc] at h11
            simp only [wcs, wtm, Option.isSome_none, unl, List.map_nil] at h11
            rcases hO3 with rfl | rfl <;> simp only [f10, pc_awakeS, hf, hp, h1, h2, h3, h4, h5, h6, h7, c0, c1, c2, c3, c4, h8, h10, x21, h13, c13, q6, hm, t3', t4', t5', t6', List.length_map, h11, h12n, beq_self_eq_true, bne_self_eq_false, Int.reduceGT, List.replicate, List.set, List.map_nil, ints, cState, wx, I, exec, resOf, reduceIte, reduceCtorEq, ne_eq, not_false_eq_true, Root.bx.injEq, Root.tm.injEq, Nat.reduceAdd, Nat.reduceBEq, Nat.reduceBNe, Nat.reduceEqDiff, Nat.reduceLT, Nat.reduceLeDiff, Nat.reduceMul, Nat.reduceSub, Int.reduceToNat, Int.reduceEq, Int.reduceBEq, Int.reduceBNe, Int.reduceLT, Int.reduceLE, if_true, if_false, Bool.false_eq_true, decide_true, decide_false, List.zipIdx_nil, bne_self_eq_false]
          | some c =>
            rw [hc] at h11
            simp only [wcs, wtm, Option.isSome_some, unl] at h11
            obtain ⟨u1, u2, u3⟩ := hbnd c hc r7
            have hw : IntKind.i64.wrap ((b.cs.length : Int) + (c.cs.length : Int)) = (b.cs.length : Int) + (c.cs.length : Int) := wrap_id (by omega) (by omega)
            by_cases hl : b.cs.length + c.cs.length ≤ 10
            · have hl2 : ¬ (b.cs.length : Int) + (c.cs.length : Int) > 10 := by omega
              obtain ⟨d, hd, hd2⟩ := h12' c hc r7 kk' hl
              have hw2 : IntKind.i64.wrap (b.tm + c.tm) = b.tm + c.tm := wrap_id (by omega) (by omega)
              have i1 : inR b.tm 0 1099511627776 = true := by simp [inR]; omega
              have i2 : inR c.tm 0 1099511627776 = true := by simp [inR]; omega
              simp only [f10, pc_awakeS, hf, hp, h1, h2, h3, h4, h5, h6, h7, c0, c1, c2, c3, c4, h8, h10, x21, h13, c13, q6, hm, t3', t4', t5', t6', List.length_map, h11, hd, hw, hl2, hw2, hd2, i1, i2, pc_Within, beq_self_eq_true, bne_self_eq_false, Int.reduceGT, List.replicate, List.set, List.map_nil, ints, cState, wx, I, exec, resOf, reduceIte, reduceCtorEq, ne_eq, not_false_eq_true, Root.bx.injEq, Root.tm.injEq, Nat.reduceAdd, Nat.reduceBEq, Nat.reduceBNe, Nat.reduceEqDiff, Nat.reduceLT, Nat.reduceLeDiff, Nat.reduceMul, Nat.reduceSub, Int.reduceToNat, Int.reduceEq, Int.reduceBEq, Int.reduceBNe, Int.reduceLT, Int.reduceLE, if_true, if_false, Bool.false_eq_true, decide_true, decide_false, List.zipIdx_nil, bne_self_eq_false]
            · have hl2 : (b.cs.length : Int) + (c.cs.length : Int) > 10 := by omega
              rcases hO3 with rfl | rfl <;> simp only [f10, pc_awakeS, hf, hp, h1, h2, h3, h4, h5, h6, h7, c0, c1, c2, c3, c4, h8, h10, x21, h13, c13, q6, hm, t3', t4', t5', t6', List.length_map, h11, h12n, hw, hl2, beq_self_eq_true, bne_self_eq_false, Int.reduceGT, List.replicate, List.set, List.map_nil, ints, cState, wx, I, exec, resOf, reduceIte, reduceCtorEq, ne_eq, not_false_eq_true, Root.bx.injEq, Root.tm.injEq, Nat.reduceAdd, Nat.reduceBEq, Nat.reduceBNe, Nat.reduceEqDiff, Nat.reduceLT, Nat.reduceLeDiff, Nat.reduceMul, Nat.reduceSub, Int.reduceToNat, Int.reduceEq, Int.reduceBEq, Int.reduceBNe, Int.reduceLT, Int.reduceLE, if_true, if_false, Bool.false_eq_true, decide_true, decide_false, List.zipIdx_nil, bne_self_eq_false]

end Go.ViD
