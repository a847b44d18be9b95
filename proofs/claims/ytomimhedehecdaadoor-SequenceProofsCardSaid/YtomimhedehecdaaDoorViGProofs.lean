import Derived.Test.YtomimhedehecdaaDoorViGTurn
import Derived.Test.YtomimhedehecdaaDoorViGHomes
import Derived.Test.YtomimhedehecdaaDoorViPlans
import Derived.Test.YtomimhedehecdaaDoorViWalkY
import Derived.Test.YtomimhedehecdaaDoorViAwakeD
section
/- Ranks: how they are laid, and where a rank is found. -/
set_option linter.unusedSimpArgs false
set_option linter.unusedVariables false
namespace Go.ViD
open Go.Vi

deriving instance DecidableEq for Fault

structure Rank where
  st : State
  ft : Fault
  rk : Int

abbrev cRank (r : Rank) : List V := [I r.st.step, I r.st.signals, I r.ft.signal, .bool r.ft.on, I r.rk]
abbrev keyP (s : State) (f : Fault) : V := .agg [I s.step, I s.signals, I f.signal, .bool f.on]
abbrev pairP (r : Rank) : V × V := (keyP r.st r.ft, I r.rk)
abbrev ks4 : List Lk := [.i .i64, .i .i64, .i .i64, .b]

/-- Is this the rank of a place? -/
abbrev atP (s : State) (f : Fault) (r : Rank) : Bool := decide (s = r.st) && decide (f = r.ft)

theorem state_eq3 (a b : State) : ((a.step == b.step) && (a.signals == b.signals)) = decide (b = a) := by
  obtain ⟨a1, a2⟩ := a
  obtain ⟨b1, b2⟩ := b
  rw [Bool.eq_iff_iff]
  simp only [Bool.and_eq_true, beq_iff_eq, decide_eq_true_eq, State.mk.injEq]
  exact ⟨fun h => ⟨h.1.symm, h.2.symm⟩, fun h => ⟨h.1.symm, h.2.symm⟩⟩

theorem fault_eq3 (a b : Fault) : ((a.signal == b.signal) && (a.on == b.on)) = decide (b = a) := by
  obtain ⟨a1, a2⟩ := a
  obtain ⟨b1, b2⟩ := b
  rw [Bool.eq_iff_iff]
  simp only [Bool.and_eq_true, beq_iff_eq, decide_eq_true_eq, Fault.mk.injEq]
  exact ⟨fun h => ⟨h.1.symm, h.2.symm⟩, fun h => ⟨h.1.symm, h.2.symm⟩⟩

theorem leq_place (s : State) (f : Fault) (r : Rank) : leqv true ks4 (keyP s f) (keyP r.st r.ft) = some (atP s f r) := by
  have h : leqv true ks4 (keyP s f) (keyP r.st r.ft) = some ((s.step == r.st.step) && ((s.signals == r.st.signals) && ((f.signal == r.ft.signal) && ((f.on == r.ft.on) && true)))) := rfl
  rw [h, Bool.and_true, ← Bool.and_assoc, state_eq3, fault_eq3]
  congr 2 <;> rw [decide_eq_decide] <;> exact ⟨Eq.symm, Eq.symm⟩

theorem hit_place (s : State) (f : Fault) (r : Rank) : hit true ks4 (keyP s f) (pairP r) = atP s f r := by
  simp only [hit, leq_place]
  cases atP s f r <;> rfl

theorem fits_place (s : State) (f : Fault) : fits true ks4 (keyP s f) = true := by
  have := leq_place s f ⟨s, f, 0⟩
  simp only [fits]
  rw [this]
  rfl

/-- The first rank of a place. -/
def findR (l : List Rank) (s : State) (f : Fault) : Option Rank := match l with
  | [] => none
  | r :: l => if atP s f r then some r else findR l s f

theorem findR_cons (r : Rank) (l : List Rank) (s : State) (f : Fault) : findR (r :: l) s f = if atP s f r then some r else findR l s f := rfl

/-- Where the first rank of a place is. -/
def posR (l : List Rank) (s : State) (f : Fault) (i : Nat) : Int := match l with
  | [] => -1
  | r :: l => if atP s f r then i else posR l s f (i + 1)

theorem posR_neg : ∀ (l : List Rank) (s : State) (f : Fault) (i : Nat), decide (posR l s f i < 0) = !(findR l s f).isSome
  | [], _, _, _ => rfl
  | r :: l, s, f, i => by
    unfold posR findR
    cases h : atP s f r
    · simpa using posR_neg l s f (i + 1)
    · have : ¬ ((i : Int) < 0) := by omega
      simp [this]

theorem posR_get : ∀ (l : List Rank) (s : State) (f : Fault) (i : Nat) (r : Rank), findR l s f = some r → ∃ j : Nat, posR l s f i = ((i + j : Nat) : Int) ∧ l[j]? = some r
  | [], _, _, _, _, h => by cases h
  | r' :: l, s, f, i, r, h => by
    unfold findR at h
    unfold posR
    cases h1 : atP s f r'
    · rw [h1] at h
      obtain ⟨j, hj, hg⟩ := posR_get l s f (i + 1) r (by simpa using h)
      refine ⟨j + 1, ?_, by simpa using hg⟩
      simp only [Bool.false_eq_true, if_false, hj]
      omega
    · rw [h1] at h
      refine ⟨0, by simp, ?_⟩
      simpa using h

/-- The ranks have places of their own. -/
def Dist (l : List Rank) : Prop := l.Pairwise fun a b => atP b.st b.ft a = false

theorem findR_none {l : List Rank} {s : State} {f : Fault} (h : findR l s f = none) : ∀ r ∈ l, atP s f r = false := by
  induction l with
  | nil => intro r hr; cases hr
  | cons a l ih =>
    unfold findR at h
    cases h1 : atP s f a
    · rw [h1] at h
      intro r hr
      rcases List.mem_cons.1 hr with e | hr
      · rw [e]; exact h1
      · exact ih (by simpa using h) r hr
    · rw [h1] at h; cases h

theorem findR_snoc (l : List Rank) (r : Rank) (s : State) (f : Fault) : findR (l ++ [r]) s f = match findR l s f with | some x => some x | none => if atP s f r then some r else none := by
  induction l with
  | nil => rfl
  | cons a l ih =>
    simp only [List.cons_append, findR]
    cases atP s f a
    · simpa using ih
    · rfl

/-- The map of ranks. -/
def mapR (l : List Rank) : List (V × V) := l.foldl (fun es r => insK (pairP r) es) []

theorem mapR_snoc (l : List Rank) (r : Rank) : mapR (l ++ [r]) = insK (pairP r) (mapR l) := by
  unfold mapR; rw [List.foldl_append]; rfl

theorem insK_perm (x : V × V) : ∀ l : List (V × V), (insK x l).Perm (x :: l)
  | [] => List.Perm.refl _
  | y :: l => by
    unfold insK
    split
    · exact List.Perm.refl _
    · exact ((insK_perm x l).cons y).trans (List.Perm.swap x y l)

theorem foldR_perm : ∀ (l : List Rank) (es : List (V × V)), (l.foldl (fun es r => insK (pairP r) es) es).Perm (l.map pairP ++ es)
  | [], es => List.Perm.refl _
  | r :: l, es => by
    refine (foldR_perm l (insK (pairP r) es)).trans ?_
    refine ((insK_perm (pairP r) es).append_left (l.map pairP)).trans ?_
    exact List.perm_middle

theorem mapR_perm (l : List Rank) : (mapR l).Perm (l.map pairP) := by
  have := foldR_perm l []
  rw [List.append_nil] at this
  exact this

theorem fit_r (s : State) (f : Fault) (l : List Rank) : allFit true ks4 (keyP s f) (mapR l) = true := by
  simp only [allFit, List.all_eq_true]
  intro kv hkv
  obtain ⟨y, -, rfl⟩ := List.mem_map.1 ((mapR_perm l).mem_iff.1 hkv)
  rw [leq_place]; rfl

theorem filt_r (s : State) (f : Fault) : ∀ l : List Rank, Dist l → (l.map pairP).filter (hit true ks4 (keyP s f)) = match findR l s f with
    | some r => [pairP r]
    | none => []
  | [], _ => rfl
  | y :: l, h => by
    have a := List.pairwise_cons.1 h
    have ih := filt_r s f l a.2
    rw [List.map_cons, List.filter_cons, ih, hit_place]
    rw [findR_cons]
    cases hy : atP s f y
    · simp only [Bool.false_eq_true, if_false]
    · have hn : findR l s f = none := by
        cases hc : findR l s f with
        | none => rfl
        | some z =>
          exfalso
          obtain ⟨j, -, hj⟩ := posR_get l s f 0 z hc
          have hz : atP s f z = true := by
            clear ih h a
            induction l generalizing j with
            | nil => cases hc
            | cons b l ih2 =>
              rw [findR_cons] at hc
              cases hb : atP s f b
              · rw [hb] at hc
                obtain ⟨j2, -, hj2⟩ := posR_get l s f 0 z (by simpa using hc)
                exact ih2 (by simpa using hc) j2 hj2
              · rw [hb] at hc; cases hc; exact hb
          have hd := a.1 z (List.mem_of_getElem? hj)
          simp only [atP, Bool.and_eq_true, decide_eq_true_eq] at hz hy hd
          rw [← hz.1, ← hz.2, ← hy.1, ← hy.2] at hd
          simp at hd
      simp only [hn, if_true]

theorem filt_m (s : State) (f : Fault) (l : List Rank) (h : Dist l) : (mapR l).filter (hit true ks4 (keyP s f)) = match findR l s f with
    | some r => [pairP r]
    | none => [] := by
  have hp := (mapR_perm l).filter (hit true ks4 (keyP s f))
  rw [filt_r s f l h] at hp
  cases hc : findR l s f with
  | none => rw [hc] at hp; exact List.perm_nil.1 hp
  | some r => rw [hc] at hp; exact List.perm_singleton.1 hp

theorem look_r (s : State) (f : Fault) (l : List Rank) (h : Dist l) : lookM true ks4 (keyP s f) (mapR l) = some ((findR l s f).map fun r => I r.rk) := by
  unfold lookM
  rw [if_pos (fit_r s f l), filt_m s f l h]
  cases findR l s f <;> rfl

theorem set_r (r : Rank) (l : List Rank) (h : Dist l) (hn : findR l r.st r.ft = none) : setM true ks4 (keyP r.st r.ft) (I r.rk) (mapR l) = some (mapR (l ++ [r])) := by
  unfold setM
  rw [if_pos (fit_r r.st r.ft l), filt_m r.st r.ft l h, hn, mapR_snoc]

theorem dist_snoc {l : List Rank} {r : Rank} (h : Dist l) (hn : findR l r.st r.ft = none) : Dist (l ++ [r]) :=
  List.pairwise_append.2 ⟨h, List.pairwise_singleton _ _, fun a ha b hb => by
    rw [List.mem_singleton] at hb
    subst hb
    exact findR_none hn a ha⟩

end Go.ViD
end
section
/- Ranks: the reference finds one. -/
set_option linter.unusedSimpArgs false
set_option linter.unusedVariables false
namespace Go.ViD
open Go.Vi

abbrev cRanks (l : List Rank) : List (List V) := l.map cRank

theorem pc_copyRanks (l : List Rank) (hl : l.length ≤ 10000) : pc E 65 [.sl .s 5 (cRanks l)] = some (.sl .x 5 (cRanks l)) := by
  refine pc_code (mf := f65) rfl ?_
  rw [runF_U rfl]
  have hr : room (0 + l.length) 40 = true := room_ok (by omega) (by omega)
  have hr2 : room l.length 40 = true := room_ok (by omega) (by omega)
  have ha : ((l.map cRank).all fun y => y.all leaf) = true := by
    rw [List.all_eq_true]
    intro y hy
    obtain ⟨r, -, rfl⟩ := List.mem_map.1 hy
    rfl
  simp only [f65, cRanks, hr, hr2, ha, List.replicate, wx, I, exec, resOf, reduceIte, reduceCtorEq, ne_eq, not_false_eq_true, Root.bx.injEq, Root.tm.injEq, Nat.reduceAdd, Nat.reduceBEq, Nat.reduceBNe, Nat.reduceEqDiff, Nat.reduceLT, Nat.reduceLeDiff, Nat.reduceMul, Nat.reduceSub, Int.reduceToNat, Int.reduceEq, Int.reduceBEq, Int.reduceBNe, Int.reduceLT, Int.reduceLE, if_true, if_false, Bool.false_eq_true, decide_true, decide_false, List.zipIdx_nil, bne_self_eq_false]

theorem loop113 (l : List Rank) (hl : l.length ≤ 10000) (s : State) (f : Fault) {t : List Todo} {k : Ex → St → Option V} :
    ∀ (m i : Nat), i + m = l.length → U (pc E) (.c (.loop f113l0) :: t) .normal ⟨[(0, .sl .s 5 (l.map cRank)), (4, .loc 4 0), (5, .loc 5 0), (7, I i)], [(4, false, cState s), (5, false, cFault f)]⟩ k =
      if posR (l.drop i) s f i < 0 then U (pc E) t (.exit 0) ⟨[], []⟩ k else k .ret ⟨[(6, I (posR (l.drop i) s f i))], []⟩
  | 0, i, hm => by
    rw [U_loop' f113l0.eq_1]
    have h0 : ¬ ((i : Int) < (l.length : Int)) := by omega
    have e : l.drop i = [] := List.drop_eq_nil_of_le (by omega)
    rw [e]
    simp only [h0, posR, wx, I, exec, resOf, reduceIte, reduceCtorEq, ne_eq, not_false_eq_true, Root.bx.injEq, Root.tm.injEq, Nat.reduceAdd, Nat.reduceBEq, Nat.reduceBNe, Nat.reduceEqDiff, Nat.reduceLT, Nat.reduceLeDiff, Nat.reduceMul, Nat.reduceSub, Int.reduceToNat, Int.reduceEq, Int.reduceBEq, Int.reduceBNe, Int.reduceLT, Int.reduceLE, if_true, if_false, Bool.false_eq_true, decide_true, decide_false, List.zipIdx_nil, bne_self_eq_false]
  | m + 1, i, hm => by
    rw [U_loop' f113l0.eq_1]
    have h0 : ((i : Int) < (l.length : Int)) := by omega
    have hy : l[i]? = some l[i] := List.getElem?_eq_getElem (by omega)
    have hd : l.drop i = l[i] :: l.drop (i + 1) := List.drop_eq_getElem_cons (by omega)
    have hw := wrap_succ (i := i) (by omega)
    have ih := loop113 l hl s f (t := t) (k := k) m (i + 1) (by omega)
    have hn : ¬ ((i : Int) < 0) := by omega
    rw [hd]
    generalize l[i] = r at hy ⊢
    have hp : posR (r :: l.drop (i + 1)) s f i = if atP s f r then (i : Int) else posR (l.drop (i + 1)) s f (i + 1) := rfl
    rw [hp]
    have e1 := state_eq3 r.st s
    have e2 := fault_eq3 r.ft f
    simp only [cState, cFault] at ih
    by_cases g1 : s = r.st
    · have d1 : decide (s = r.st) = true := decide_eq_true g1
      by_cases g2 : f = r.ft
      · have d2 : decide (f = r.ft) = true := decide_eq_true g2
        simp only [atP, cRank, cState, cFault, h0, hy, hn, d1, d2, e1, e2, wx, I, exec, resOf, reduceIte, reduceCtorEq, ne_eq, not_false_eq_true, Root.bx.injEq, Root.tm.injEq, Nat.reduceAdd, Nat.reduceBEq, Nat.reduceBNe, Nat.reduceEqDiff, Nat.reduceLT, Nat.reduceLeDiff, Nat.reduceMul, Nat.reduceSub, Int.reduceToNat, Int.reduceEq, Int.reduceBEq, Int.reduceBNe, Int.reduceLT, Int.reduceLE, if_true, if_false, Bool.false_eq_true, decide_true, decide_false, List.zipIdx_nil, bne_self_eq_false]
      · have d2 : decide (f = r.ft) = false := decide_eq_false g2
        simp only [atP, cRank, cState, cFault, h0, hy, hw, ih, d1, d2, e1, e2, wx, I, exec, resOf, reduceIte, reduceCtorEq, ne_eq, not_false_eq_true, Root.bx.injEq, Root.tm.injEq, Nat.reduceAdd, Nat.reduceBEq, Nat.reduceBNe, Nat.reduceEqDiff, Nat.reduceLT, Nat.reduceLeDiff, Nat.reduceMul, Nat.reduceSub, Int.reduceToNat, Int.reduceEq, Int.reduceBEq, Int.reduceBNe, Int.reduceLT, Int.reduceLE, if_true, if_false, Bool.false_eq_true, decide_true, decide_false, List.zipIdx_nil, bne_self_eq_false]
    · have d1 : decide (s = r.st) = false := decide_eq_false g1
      simp only [atP, cRank, cState, cFault, h0, hy, hw, ih, d1, e1, e2, wx, I, exec, resOf, reduceIte, reduceCtorEq, ne_eq, not_false_eq_true, Root.bx.injEq, Root.tm.injEq, Nat.reduceAdd, Nat.reduceBEq, Nat.reduceBNe, Nat.reduceEqDiff, Nat.reduceLT, Nat.reduceLeDiff, Nat.reduceMul, Nat.reduceSub, Int.reduceToNat, Int.reduceEq, Int.reduceBEq, Int.reduceBNe, Int.reduceLT, Int.reduceLE, if_true, if_false, Bool.false_eq_true, decide_true, decide_false, List.zipIdx_nil, bne_self_eq_false]

theorem pc_find (l : List Rank) (hl : l.length ≤ 10000) (s : State) (f : Fault) : pc E 113 [.sl .s 5 (cRanks l), .agg (cState s), .agg (cFault f)] = some (I (posR l s f 0)) := by
  refine pc_code (mf := f113) rfl ?_
  rw [runF_U rfl]
  have h := fun t k => loop113 l hl s f (t := t) (k := k) l.length 0 (by omega)
  simp only [cState, cFault, List.drop_zero, Int.cast_ofNat_Int] at h
  simp only [f113, cRanks, cState, cFault, h, wx, I, exec, resOf, reduceIte, reduceCtorEq, ne_eq, not_false_eq_true, Root.bx.injEq, Root.tm.injEq, Nat.reduceAdd, Nat.reduceBEq, Nat.reduceBNe, Nat.reduceEqDiff, Nat.reduceLT, Nat.reduceLeDiff, Nat.reduceMul, Nat.reduceSub, Int.reduceToNat, Int.reduceEq, Int.reduceBEq, Int.reduceBNe, Int.reduceLT, Int.reduceLE, if_true, if_false, Bool.false_eq_true, decide_true, decide_false, List.zipIdx_nil, bne_self_eq_false]
  by_cases c : posR l s f 0 < 0
  · have e : posR l s f 0 = -1 := by
      have h1 := posR_neg l s f 0
      rw [decide_eq_true c] at h1
      have h2 : findR l s f = none := by simpa using h1.symm
      clear h h1 c
      have key : ∀ (l : List Rank) (i : Nat), findR l s f = none → posR l s f i = -1 := by
        intro l
        induction l with
        | nil => intro i _; rfl
        | cons a l ih =>
          intro i hn
          rw [findR_cons] at hn
          unfold posR
          cases h1 : atP s f a
          · rw [h1] at hn
            simpa using ih (i + 1) (by simpa using hn)
          · rw [h1] at hn; cases hn
      exact key l 0 h2
    simp only [c, wx, I, exec, resOf, reduceIte, reduceCtorEq, ne_eq, not_false_eq_true, Root.bx.injEq, Root.tm.injEq, Nat.reduceAdd, Nat.reduceBEq, Nat.reduceBNe, Nat.reduceEqDiff, Nat.reduceLT, Nat.reduceLeDiff, Nat.reduceMul, Nat.reduceSub, Int.reduceToNat, Int.reduceEq, Int.reduceBEq, Int.reduceBNe, Int.reduceLT, Int.reduceLE, if_true, if_false, Bool.false_eq_true, decide_true, decide_false, List.zipIdx_nil, bne_self_eq_false]
    rw [e]
  · simp only [c, wx, I, exec, resOf, reduceIte, reduceCtorEq, ne_eq, not_false_eq_true, Root.bx.injEq, Root.tm.injEq, Nat.reduceAdd, Nat.reduceBEq, Nat.reduceBNe, Nat.reduceEqDiff, Nat.reduceLT, Nat.reduceLeDiff, Nat.reduceMul, Nat.reduceSub, Int.reduceToNat, Int.reduceEq, Int.reduceBEq, Int.reduceBNe, Int.reduceLT, Int.reduceLE, if_true, if_false, Bool.false_eq_true, decide_true, decide_false, List.zipIdx_nil, bne_self_eq_false]

end Go.ViD
end
section
/- Ranks: the reference's successors. -/
set_option linter.unusedSimpArgs false
set_option linter.unusedVariables false
namespace Go.ViD
open Go.Vi

abbrev cStL (l : List State) : List (List V) := l.map cState

/-- The states after so many of the commands. -/
def sucI (x : Step) (s : State) (f : Fault) (i : Nat) : List State := (turnI x s f (-1)).1 :: (x.exits.take i).map fun c => (turnI x s f c).1
def succI (x : Step) (s : State) (f : Fault) : List State := (turnI x s f (-1)).1 :: x.exits.map fun c => (turnI x s f c).1

theorem sucI_all (x : Step) (s : State) (f : Fault) : sucI x s f x.exits.length = succI x s f := by
  unfold sucI succI; rw [List.take_length]

theorem sucI_succ {x : Step} {i : Nat} {c : Int} (h : x.exits[i]? = some c) (s : State) (f : Fault) : sucI x s f (i + 1) = sucI x s f i ++ [(turnI x s f c).1] := by
  unfold sucI
  rw [List.take_add_one, h]
  simp

theorem sucI_len (x : Step) (s : State) (f : Fault) (i : Nat) : (sucI x s f i).length ≤ i + 1 := by
  unfold sucI
  rw [List.length_cons, List.length_map, List.length_take]
  omega

section
variable (p : Plan) (s : State) (x : Step) (h0 : 0 ≤ s.step) (hx : p.steps[s.step.toNat]? = some x) (f : Fault) (hp : OkP p) (hs : inS p s.signals) (hf : f.signal < (p.signals.length : Int)) (hxl : x.exits.length ≤ 1000) (hc : ∀ c ∈ x.exits, -1 ≤ c)
include h0 hx hp hs hf hxl hc

theorem loop134 {t : List Todo} {k : Ex → St → Option V} :
    ∀ (m i : Nat) (now : State), i + m = x.exits.length → U (pc E) (.c (.loop f134l0) :: t) .normal ⟨[(3, .loc 3 0), (4, .loc 4 0), (5, .loc 5 0), (7, .loc 7 0), (9, .sl .a 2 ((sucI x s f i).map cState)), (10, .loc 10 0), (11, I i)], [(3, false, cPlan p), (4, false, cState s), (5, false, cFault f), (7, false, cState now), (10, false, cStep x)]⟩ k =
      U (pc E) t (.exit 0) ⟨[(9, .sl .a 2 ((succI x s f).map cState))], []⟩ k
  | 0, i, now, hm => by
    rw [U_loop' f134l0.eq_1]
    have g0 : ¬ ((i : Int) < (x.exits.length : Int)) := by omega
    simp only [g0, cStep, ints, wx, I, exec, resOf, reduceIte, reduceCtorEq, ne_eq, not_false_eq_true, Root.bx.injEq, Root.tm.injEq, Nat.reduceAdd, Nat.reduceBEq, Nat.reduceBNe, Nat.reduceEqDiff, Nat.reduceLT, Nat.reduceLeDiff, Nat.reduceMul, Nat.reduceSub, Int.reduceToNat, Int.reduceEq, Int.reduceBEq, Int.reduceBNe, Int.reduceLT, Int.reduceLE, if_true, if_false, Bool.false_eq_true, decide_true, decide_false, List.zipIdx_nil, bne_self_eq_false]
    rw [show i = x.exits.length by omega, sucI_all]
  | m + 1, i, now, hm => by
    rw [U_loop' f134l0.eq_1]
    have g0 : ((i : Int) < (x.exits.length : Int)) := by omega
    have hy : x.exits[i]? = some x.exits[i] := List.getElem?_eq_getElem (by omega)
    have hw := wrap_succ (i := i) (by omega)
    have hci := hc x.exits[i] (List.getElem_mem _)
    generalize x.exits[i] = c at hy hci
    have ht := pc_turnR p s x h0 hx f hp hs hf c hci
    have ih := loop134 (t := t) (k := k) m (i + 1) (turnI x s f c).1 (by omega)
    have hl := sucI_len x s f i
    have hr : room ((sucI x s f i).length + 1) 16 = true := room_ok (by omega) (by omega)
    rw [sucI_succ hy] at ih
    simp only [cState, cFault, cStep, List.map_append, List.map_cons, List.map_nil, ints] at ih ht
    simp only [g0, hw, hy, ht, hr, ih, cState, cFault, cStep, ints, List.length_map, List.replicate, List.set, wx, I, exec, resOf, reduceIte, reduceCtorEq, ne_eq, not_false_eq_true, Root.bx.injEq, Root.tm.injEq, Nat.reduceAdd, Nat.reduceBEq, Nat.reduceBNe, Nat.reduceEqDiff, Nat.reduceLT, Nat.reduceLeDiff, Nat.reduceMul, Nat.reduceSub, Int.reduceToNat, Int.reduceEq, Int.reduceBEq, Int.reduceBNe, Int.reduceLT, Int.reduceLE, if_true, if_false, Bool.false_eq_true, decide_true, decide_false, List.zipIdx_nil, bne_self_eq_false]

theorem pc_successors : pc E 134 [.agg (cPlan p), .agg (cState s), .agg (cFault f)] = some (.sl .s 2 ((succI x s f).map cState)) := by
  refine pc_code (mf := f134) rfl ?_
  rw [runF_U rfl]
  have ht := pc_turnR p s x h0 hx f hp hs hf (-1) (by omega)
  have h := fun t k => loop134 p s x h0 hx f hp hs hf hxl hc (t := t) (k := k) x.exits.length 0 (turnI x s f (-1)).1 (by omega)
  simp only [sucI, List.take_zero, List.map_nil, List.map_cons, cState, cFault, cStep, ints, Int.cast_ofNat_Int] at h ht
  simp only [f134, cSteps, h0, hx, ht, h, cState, cFault, cStep, ints, List.replicate, List.set, wx, I, exec, resOf, reduceIte, reduceCtorEq, ne_eq, not_false_eq_true, Root.bx.injEq, Root.tm.injEq, Nat.reduceAdd, Nat.reduceBEq, Nat.reduceBNe, Nat.reduceEqDiff, Nat.reduceLT, Nat.reduceLeDiff, Nat.reduceMul, Nat.reduceSub, Int.reduceToNat, Int.reduceEq, Int.reduceBEq, Int.reduceBNe, Int.reduceLT, Int.reduceLE, if_true, if_false, Bool.false_eq_true, decide_true, decide_false, List.zipIdx_nil, bne_self_eq_false]

end

end Go.ViD
end
section
/- Ranks: the reference's error of one. -/
set_option linter.unusedSimpArgs false
set_option linter.unusedVariables false
namespace Go.ViD
open Go.Vi

def missF (l : List Rank) (s : State) (fs : List Fault) : Bool := fs.any fun f => !(findR l s f).isSome
def missS (l : List Rank) (f : Fault) (ns : List State) : Bool := ns.any fun s => !(findR l s f).isSome
def rkOf (l : List Rank) (s : State) (f : Fault) : Int := match findR l s f with | some r => r.rk | none => 0

/-- The error of a rank among all. -/
def rankI (p : Plan) (x : Step) (l : List Rank) (r : Rank) : Int :=
  if ((r.ft.signal == -1) && (r.ft.on == false)) && missF l r.st (fl p.signals.length) then 14
  else if missS l r.ft (succI x r.st r.ft) then 14
  else if homeH p r.ft r.st != (r.rk == 0) then 3
  else if homeH p r.ft r.st || ((homeTurnI x r.st r.ft).2.2 && decide (rkOf l (homeTurnI x r.st r.ft).1 r.ft < r.rk)) then 0
  else 19

theorem loop114a (p : Plan) (l : List Rank) (hl : l.length ≤ 10000) (r : Rank) (fs : List Fault) (hfl : fs.length ≤ 1000) {t : List Todo} {k : Ex → St → Option V} :
    ∀ (m i : Nat), i + m = fs.length → U (pc E) (.c (.loop f114l0) :: t) .normal ⟨[(1, .sl .s 5 (cRanks l)), (3, .loc 3 0), (5, .loc 5 0), (7, .sl .s 2 (cFl fs)), (8, I i)], [(3, false, cPlan p), (5, false, cRank r)]⟩ k =
      if missF l r.st (fs.drop i) then k .ret ⟨[(6, I 14)], []⟩ else U (pc E) t (.exit 0) ⟨[(1, .sl .s 5 (cRanks l)), (3, .loc 3 0), (5, .loc 5 0)], [(3, false, cPlan p), (5, false, cRank r)]⟩ k
  | 0, i, hm => by
    rw [U_loop' f114l0.eq_1]
    have h0 : ¬ ((i : Int) < (fs.length : Int)) := by omega
    have e : fs.drop i = [] := List.drop_eq_nil_of_le (by omega)
    rw [e]
    simp only [h0, missF, List.any_nil, wx, I, exec, resOf, reduceIte, reduceCtorEq, ne_eq, not_false_eq_true, Root.bx.injEq, Root.tm.injEq, Nat.reduceAdd, Nat.reduceBEq, Nat.reduceBNe, Nat.reduceEqDiff, Nat.reduceLT, Nat.reduceLeDiff, Nat.reduceMul, Nat.reduceSub, Int.reduceToNat, Int.reduceEq, Int.reduceBEq, Int.reduceBNe, Int.reduceLT, Int.reduceLE, if_true, if_false, Bool.false_eq_true, decide_true, decide_false, List.zipIdx_nil, bne_self_eq_false]
  | m + 1, i, hm => by
    rw [U_loop' f114l0.eq_1]
    have h0 : ((i : Int) < (fs.length : Int)) := by omega
    have hy : fs[i]? = some fs[i] := List.getElem?_eq_getElem (by omega)
    have hd : fs.drop i = fs[i] :: fs.drop (i + 1) := List.drop_eq_getElem_cons (by omega)
    have hw := wrap_succ (i := i) (by omega)
    have ih := loop114a p l hl r fs hfl (t := t) (k := k) m (i + 1) (by omega)
    rw [hd]
    generalize fs[i] = f at hy ⊢
    have hfd := pc_find l hl r.st f
    have hn := posR_neg l r.st f 0
    simp only [missF, List.any_cons] at ih ⊢
    simp only [cFl, cRanks, cState, cFault, cRank] at ih hfd
    rcases Bool.eq_false_or_eq_true ((findR l r.st f).isSome) with hq | hq
    · rw [hq] at hn
      have hn' : ¬ posR l r.st f 0 < 0 := of_decide_eq_false hn
      simp only [h0, hy, hw, hfd, hn', ih, cFl, cRanks, cState, cFault, cRank, hq, wx, I, exec, resOf, reduceIte, reduceCtorEq, ne_eq, not_false_eq_true, Root.bx.injEq, Root.tm.injEq, Nat.reduceAdd, Nat.reduceBEq, Nat.reduceBNe, Nat.reduceEqDiff, Nat.reduceLT, Nat.reduceLeDiff, Nat.reduceMul, Nat.reduceSub, Int.reduceToNat, Int.reduceEq, Int.reduceBEq, Int.reduceBNe, Int.reduceLT, Int.reduceLE, if_true, if_false, Bool.false_eq_true, decide_true, decide_false, List.zipIdx_nil, bne_self_eq_false]
      rfl
    · rw [hq] at hn
      have hn' : posR l r.st f 0 < 0 := of_decide_eq_true hn
      simp only [h0, hy, hfd, hn', cFl, cRanks, cState, cFault, cRank, hq, wx, I, exec, resOf, reduceIte, reduceCtorEq, ne_eq, not_false_eq_true, Root.bx.injEq, Root.tm.injEq, Nat.reduceAdd, Nat.reduceBEq, Nat.reduceBNe, Nat.reduceEqDiff, Nat.reduceLT, Nat.reduceLeDiff, Nat.reduceMul, Nat.reduceSub, Int.reduceToNat, Int.reduceEq, Int.reduceBEq, Int.reduceBNe, Int.reduceLT, Int.reduceLE, if_true, if_false, Bool.false_eq_true, decide_true, decide_false, List.zipIdx_nil, bne_self_eq_false]

theorem loop114b (p : Plan) (l : List Rank) (hl : l.length ≤ 10000) (r : Rank) (ns : List State) (hfl : ns.length ≤ 10000) {t : List Todo} {k : Ex → St → Option V} :
    ∀ (m i : Nat), i + m = ns.length → U (pc E) (.c (.loop f114l1) :: t) .normal ⟨[(1, .sl .s 5 (cRanks l)), (3, .loc 3 0), (5, .loc 5 0), (9, .sl .s 2 (cStL ns)), (10, I i)], [(3, false, cPlan p), (5, false, cRank r)]⟩ k =
      if missS l r.ft (ns.drop i) then k .ret ⟨[(6, I 14)], []⟩ else U (pc E) t (.exit 2) ⟨[(1, .sl .s 5 (cRanks l)), (3, .loc 3 0), (5, .loc 5 0)], [(3, false, cPlan p), (5, false, cRank r)]⟩ k
  | 0, i, hm => by
    rw [U_loop' f114l1.eq_1]
    have h0 : ¬ ((i : Int) < (ns.length : Int)) := by omega
    have e : ns.drop i = [] := List.drop_eq_nil_of_le (by omega)
    rw [e]
    simp only [h0, missS, List.any_nil, wx, I, exec, resOf, reduceIte, reduceCtorEq, ne_eq, not_false_eq_true, Root.bx.injEq, Root.tm.injEq, Nat.reduceAdd, Nat.reduceBEq, Nat.reduceBNe, Nat.reduceEqDiff, Nat.reduceLT, Nat.reduceLeDiff, Nat.reduceMul, Nat.reduceSub, Int.reduceToNat, Int.reduceEq, Int.reduceBEq, Int.reduceBNe, Int.reduceLT, Int.reduceLE, if_true, if_false, Bool.false_eq_true, decide_true, decide_false, List.zipIdx_nil, bne_self_eq_false]
  | m + 1, i, hm => by
    rw [U_loop' f114l1.eq_1]
    have h0 : ((i : Int) < (ns.length : Int)) := by omega
    have hy : ns[i]? = some ns[i] := List.getElem?_eq_getElem (by omega)
    have hd : ns.drop i = ns[i] :: ns.drop (i + 1) := List.drop_eq_getElem_cons (by omega)
    have hw := wrap_succ (i := i) (by omega)
    have ih := loop114b p l hl r ns hfl (t := t) (k := k) m (i + 1) (by omega)
    rw [hd]
    generalize ns[i] = s at hy ⊢
    have hfd := pc_find l hl s r.ft
    have hn := posR_neg l s r.ft 0
    simp only [missS, List.any_cons] at ih ⊢
    simp only [cStL, cRanks, cState, cFault, cRank] at ih hfd
    rcases Bool.eq_false_or_eq_true ((findR l s r.ft).isSome) with hq | hq
    · rw [hq] at hn
      have hn' : ¬ posR l s r.ft 0 < 0 := of_decide_eq_false hn
      simp only [h0, hy, hw, hfd, hn', ih, cStL, cRanks, cState, cFault, cRank, hq, wx, I, exec, resOf, reduceIte, reduceCtorEq, ne_eq, not_false_eq_true, Root.bx.injEq, Root.tm.injEq, Nat.reduceAdd, Nat.reduceBEq, Nat.reduceBNe, Nat.reduceEqDiff, Nat.reduceLT, Nat.reduceLeDiff, Nat.reduceMul, Nat.reduceSub, Int.reduceToNat, Int.reduceEq, Int.reduceBEq, Int.reduceBNe, Int.reduceLT, Int.reduceLE, if_true, if_false, Bool.false_eq_true, decide_true, decide_false, List.zipIdx_nil, bne_self_eq_false]
      rfl
    · rw [hq] at hn
      have hn' : posR l s r.ft 0 < 0 := of_decide_eq_true hn
      simp only [h0, hy, hfd, hn', cStL, cRanks, cState, cFault, cRank, hq, wx, I, exec, resOf, reduceIte, reduceCtorEq, ne_eq, not_false_eq_true, Root.bx.injEq, Root.tm.injEq, Nat.reduceAdd, Nat.reduceBEq, Nat.reduceBNe, Nat.reduceEqDiff, Nat.reduceLT, Nat.reduceLeDiff, Nat.reduceMul, Nat.reduceSub, Int.reduceToNat, Int.reduceEq, Int.reduceBEq, Int.reduceBNe, Int.reduceLT, Int.reduceLE, if_true, if_false, Bool.false_eq_true, decide_true, decide_false, List.zipIdx_nil, bne_self_eq_false]

theorem home_succ {p : Plan} (hp : OkP p) {x : Step} (hx : x ∈ p.steps) (s : State) (f : Fault) (h : (homeTurnI x s f).2.2 = true) : (homeTurnI x s f).1 ∈ succI x s f := by
  unfold homeTurnI at h ⊢
  by_cases h1 : ((x.wait == 0) && (!x.safe && !tripsB x s f)) = true
  · rw [if_pos h1] at h ⊢
    by_cases h2 : ((x.exits.length : Int) == 0) = true
    · rw [if_pos h2] at h; cases h
    · rw [if_neg h2]
      have ok := hp.st x hx
      simp only [Bool.and_eq_true, beq_iff_eq] at h1
      have := ok.home h1.1
      simp only [homeOK, Bool.or_eq_true, Bool.and_eq_true] at this
      rcases this with h3 | h3
      · exact List.mem_cons_of_mem _ (List.mem_map.2 ⟨x.home, hasI_mem h3, rfl⟩)
      · exact absurd h3.1 h2
  · rw [if_neg h1]
    exact List.mem_cons_self

theorem missS_mem {l : List Rank} {f : Fault} {ns : List State} (h : missS l f ns = false) {s : State} (hs : s ∈ ns) : ∃ r, findR l s f = some r := by
  unfold missS at h
  rw [List.any_eq_false] at h
  have := h s hs
  simp only [Bool.not_eq_true', Bool.not_eq_false] at this
  exact Option.isSome_iff_exists.1 this

section
variable (p : Plan) (hfew : few p = true) (hp : OkP p) (l : List Rank) (hl : l.length ≤ 10000) (r : Rank) (h0 : 0 ≤ r.st.step) (x : Step) (hx : p.steps[r.st.step.toNat]? = some x) (hs : inS p r.st.signals) (hf : r.ft.signal < (p.signals.length : Int)) (hxl : x.exits.length ≤ 1000) (hc : ∀ c ∈ x.exits, -1 ≤ c)
include hfew hp hl h0 hx hs hf hxl hc

set_option maxHeartbeats 4000000 in
theorem pc_rankErrR : pc E 114 [.agg (cPlan p), .sl .s 5 (cRanks l), .agg (cRank r)] = some (I (rankI p x l r)) := by
  have hxm : x ∈ p.steps := List.mem_of_getElem? hx
  refine pc_code (mf := f114) rfl ?_
  rw [runF_U rfl]
  obtain ⟨f1, -, -, -⟩ := few_get hfew
  have hfs := pc_faultsR p hfew
  have hla := fun t k => loop114a p l hl r (fl p.signals.length) (by rw [fl_len]; omega) (t := t) (k := k) _ 0 (Nat.zero_add _)
  have hsl : (succI x r.st r.ft).length ≤ 10000 := by simp only [succI, List.length_cons, List.length_map]; omega
  have hlb := fun t k => loop114b p l hl r (succI x r.st r.ft) hsl (t := t) (k := k) _ 0 (Nat.zero_add _)
  have hsu := pc_successors p r.st x h0 hx r.ft hp hs hf hxl hc
  have hih := pc_IsHome p r.st x h0 hx r.ft hp hs hf
  have hht := pc_homeTurnR p r.st x h0 hx r.ft hp hs hf
  have hnx := fun s => pc_find l hl s r.ft
  have hno := pc_none
  simp only [cState, cFault, cRank, cRanks, cFl, cStL, List.drop_zero, Int.cast_ofNat_Int] at hfs hla hlb hsu hih hht hnx
  simp only [f114, cRank, cRanks, hno, wx, I, exec, resOf, reduceIte, reduceCtorEq, ne_eq, not_false_eq_true, Root.bx.injEq, Root.tm.injEq, Nat.reduceAdd, Nat.reduceBEq, Nat.reduceBNe, Nat.reduceEqDiff, Nat.reduceLT, Nat.reduceLeDiff, Nat.reduceMul, Nat.reduceSub, Int.reduceToNat, Int.reduceEq, Int.reduceBEq, Int.reduceBNe, Int.reduceLT, Int.reduceLE, if_true, if_false, Bool.false_eq_true, decide_true, decide_false, List.zipIdx_nil, bne_self_eq_false]
  have d1 : (true == true) = true := rfl
  have d2 : (true == false) = false := rfl
  have d3 : (false == true) = false := rfl
  have d4 : (false == false) = true := rfl
  have b1 : (true != true) = false := rfl
  have b2 : (true != false) = true := rfl
  have b3 : (false != true) = true := rfl
  have b4 : (false != false) = false := rfl
  rcases Bool.eq_false_or_eq_true ((r.ft.signal == -1) && (r.ft.on == false)) with g1 | g1
  · rcases Bool.eq_false_or_eq_true (missF l r.st (fl p.signals.length)) with g2 | g2
    · simp only [rankI, g1, g2, hfs, hla, cState, cFault, cRank, cRanks, cFl, cStL, b1, b2, b3, b4, d1, d2, d3, d4, List.replicate, List.set, wx, I, exec, resOf, reduceIte, reduceCtorEq, ne_eq, not_false_eq_true, Root.bx.injEq, Root.tm.injEq, Nat.reduceAdd, Nat.reduceBEq, Nat.reduceBNe, Nat.reduceEqDiff, Nat.reduceLT, Nat.reduceLeDiff, Nat.reduceMul, Nat.reduceSub, Int.reduceToNat, Int.reduceEq, Int.reduceBEq, Int.reduceBNe, Int.reduceLT, Int.reduceLE, if_true, if_false, Bool.false_eq_true, decide_true, decide_false, List.zipIdx_nil, bne_self_eq_false]
    · rcases Bool.eq_false_or_eq_true (missS l r.ft (succI x r.st r.ft)) with g3 | g3
      · simp only [rankI, g3, g1, g2, hfs, hla, hsu, hlb, cState, cFault, cRank, cRanks, cFl, cStL, b1, b2, b3, b4, d1, d2, d3, d4, List.replicate, List.set, wx, I, exec, resOf, reduceIte, reduceCtorEq, ne_eq, not_false_eq_true, Root.bx.injEq, Root.tm.injEq, Nat.reduceAdd, Nat.reduceBEq, Nat.reduceBNe, Nat.reduceEqDiff, Nat.reduceLT, Nat.reduceLeDiff, Nat.reduceMul, Nat.reduceSub, Int.reduceToNat, Int.reduceEq, Int.reduceBEq, Int.reduceBNe, Int.reduceLT, Int.reduceLE, if_true, if_false, Bool.false_eq_true, decide_true, decide_false, List.zipIdx_nil, bne_self_eq_false]
      · rcases Bool.eq_false_or_eq_true (homeH p r.ft r.st) with g4 | g4
        · rcases Bool.eq_false_or_eq_true (r.rk == 0) with g5 | g5
          · simp only [rankI, g3, g4, g5, g1, g2, hfs, hla, hsu, hlb, hih, cState, cFault, cRank, cRanks, cFl, cStL, b1, b2, b3, b4, d1, d2, d3, d4, List.replicate, List.set, wx, I, exec, resOf, reduceIte, reduceCtorEq, ne_eq, not_false_eq_true, Root.bx.injEq, Root.tm.injEq, Nat.reduceAdd, Nat.reduceBEq, Nat.reduceBNe, Nat.reduceEqDiff, Nat.reduceLT, Nat.reduceLeDiff, Nat.reduceMul, Nat.reduceSub, Int.reduceToNat, Int.reduceEq, Int.reduceBEq, Int.reduceBNe, Int.reduceLT, Int.reduceLE, if_true, if_false, Bool.false_eq_true, decide_true, decide_false, List.zipIdx_nil, bne_self_eq_false]
          · simp only [rankI, g3, g4, g5, g1, g2, hfs, hla, hsu, hlb, hih, cState, cFault, cRank, cRanks, cFl, cStL, b1, b2, b3, b4, d1, d2, d3, d4, List.replicate, List.set, wx, I, exec, resOf, reduceIte, reduceCtorEq, ne_eq, not_false_eq_true, Root.bx.injEq, Root.tm.injEq, Nat.reduceAdd, Nat.reduceBEq, Nat.reduceBNe, Nat.reduceEqDiff, Nat.reduceLT, Nat.reduceLeDiff, Nat.reduceMul, Nat.reduceSub, Int.reduceToNat, Int.reduceEq, Int.reduceBEq, Int.reduceBNe, Int.reduceLT, Int.reduceLE, if_true, if_false, Bool.false_eq_true, decide_true, decide_false, List.zipIdx_nil, bne_self_eq_false]
        · rcases Bool.eq_false_or_eq_true (r.rk == 0) with g5 | g5
          · simp only [rankI, g3, g4, g5, g1, g2, hfs, hla, hsu, hlb, hih, cState, cFault, cRank, cRanks, cFl, cStL, b1, b2, b3, b4, d1, d2, d3, d4, List.replicate, List.set, wx, I, exec, resOf, reduceIte, reduceCtorEq, ne_eq, not_false_eq_true, Root.bx.injEq, Root.tm.injEq, Nat.reduceAdd, Nat.reduceBEq, Nat.reduceBNe, Nat.reduceEqDiff, Nat.reduceLT, Nat.reduceLeDiff, Nat.reduceMul, Nat.reduceSub, Int.reduceToNat, Int.reduceEq, Int.reduceBEq, Int.reduceBNe, Int.reduceLT, Int.reduceLE, if_true, if_false, Bool.false_eq_true, decide_true, decide_false, List.zipIdx_nil, bne_self_eq_false]
          · rcases Bool.eq_false_or_eq_true (homeTurnI x r.st r.ft).2.2 with g6 | g6
            · obtain ⟨r', hr'⟩ := missS_mem g3 (home_succ hp hxm r.st r.ft g6)
              obtain ⟨j, hj, hg⟩ := posR_get l _ _ 0 r' hr'
              rw [Nat.zero_add] at hj
              have hrk : rkOf l (homeTurnI x r.st r.ft).1 r.ft = r'.rk := by unfold rkOf; rw [hr']
              have hfn := hnx (homeTurnI x r.st r.ft).1
              rw [hj] at hfn
              have hjn : (0 : Int) ≤ (j : Int) := by omega
              by_cases g7 : r'.rk < r.rk
              · have g8 : ¬ r.rk ≤ r'.rk := by omega
                simp only [rankI, g3, g4, g5, g6, g7, g8, hrk, g1, g2, hfs, hla, hsu, hlb, hih, hht, hfn, hg, hjn, cState, cFault, cRank, cRanks, cFl, cStL, b1, b2, b3, b4, d1, d2, d3, d4, List.replicate, List.set, wx, I, exec, resOf, reduceIte, reduceCtorEq, ne_eq, not_false_eq_true, Root.bx.injEq, Root.tm.injEq, Nat.reduceAdd, Nat.reduceBEq, Nat.reduceBNe, Nat.reduceEqDiff, Nat.reduceLT, Nat.reduceLeDiff, Nat.reduceMul, Nat.reduceSub, Int.reduceToNat, Int.reduceEq, Int.reduceBEq, Int.reduceBNe, Int.reduceLT, Int.reduceLE, if_true, if_false, Bool.false_eq_true, decide_true, decide_false, List.zipIdx_nil, bne_self_eq_false]
              · have g8 : r.rk ≤ r'.rk := by omega
                simp only [rankI, g3, g4, g5, g6, g7, g8, hrk, g1, g2, hfs, hla, hsu, hlb, hih, hht, hfn, hg, hjn, cState, cFault, cRank, cRanks, cFl, cStL, b1, b2, b3, b4, d1, d2, d3, d4, List.replicate, List.set, wx, I, exec, resOf, reduceIte, reduceCtorEq, ne_eq, not_false_eq_true, Root.bx.injEq, Root.tm.injEq, Nat.reduceAdd, Nat.reduceBEq, Nat.reduceBNe, Nat.reduceEqDiff, Nat.reduceLT, Nat.reduceLeDiff, Nat.reduceMul, Nat.reduceSub, Int.reduceToNat, Int.reduceEq, Int.reduceBEq, Int.reduceBNe, Int.reduceLT, Int.reduceLE, if_true, if_false, Bool.false_eq_true, decide_true, decide_false, List.zipIdx_nil, bne_self_eq_false]
            · simp only [rankI, g3, g4, g5, g6, g1, g2, hfs, hla, hsu, hlb, hih, hht, cState, cFault, cRank, cRanks, cFl, cStL, b1, b2, b3, b4, d1, d2, d3, d4, List.replicate, List.set, wx, I, exec, resOf, reduceIte, reduceCtorEq, ne_eq, not_false_eq_true, Root.bx.injEq, Root.tm.injEq, Nat.reduceAdd, Nat.reduceBEq, Nat.reduceBNe, Nat.reduceEqDiff, Nat.reduceLT, Nat.reduceLeDiff, Nat.reduceMul, Nat.reduceSub, Int.reduceToNat, Int.reduceEq, Int.reduceBEq, Int.reduceBNe, Int.reduceLT, Int.reduceLE, if_true, if_false, Bool.false_eq_true, decide_true, decide_false, List.zipIdx_nil, bne_self_eq_false]

  · rcases Bool.eq_false_or_eq_true (missS l r.ft (succI x r.st r.ft)) with g3 | g3
    · simp only [rankI, g3, g1, hsu, hlb, cState, cFault, cRank, cRanks, cFl, cStL, b1, b2, b3, b4, d1, d2, d3, d4, List.replicate, List.set, wx, I, exec, resOf, reduceIte, reduceCtorEq, ne_eq, not_false_eq_true, Root.bx.injEq, Root.tm.injEq, Nat.reduceAdd, Nat.reduceBEq, Nat.reduceBNe, Nat.reduceEqDiff, Nat.reduceLT, Nat.reduceLeDiff, Nat.reduceMul, Nat.reduceSub, Int.reduceToNat, Int.reduceEq, Int.reduceBEq, Int.reduceBNe, Int.reduceLT, Int.reduceLE, if_true, if_false, Bool.false_eq_true, decide_true, decide_false, List.zipIdx_nil, bne_self_eq_false]
    · rcases Bool.eq_false_or_eq_true (homeH p r.ft r.st) with g4 | g4
      · rcases Bool.eq_false_or_eq_true (r.rk == 0) with g5 | g5
        · simp only [rankI, g3, g4, g5, g1, hsu, hlb, hih, cState, cFault, cRank, cRanks, cFl, cStL, b1, b2, b3, b4, d1, d2, d3, d4, List.replicate, List.set, wx, I, exec, resOf, reduceIte, reduceCtorEq, ne_eq, not_false_eq_true, Root.bx.injEq, Root.tm.injEq, Nat.reduceAdd, Nat.reduceBEq, Nat.reduceBNe, Nat.reduceEqDiff, Nat.reduceLT, Nat.reduceLeDiff, Nat.reduceMul, Nat.reduceSub, Int.reduceToNat, Int.reduceEq, Int.reduceBEq, Int.reduceBNe, Int.reduceLT, Int.reduceLE, if_true, if_false, Bool.false_eq_true, decide_true, decide_false, List.zipIdx_nil, bne_self_eq_false]
        · simp only [rankI, g3, g4, g5, g1, hsu, hlb, hih, cState, cFault, cRank, cRanks, cFl, cStL, b1, b2, b3, b4, d1, d2, d3, d4, List.replicate, List.set, wx, I, exec, resOf, reduceIte, reduceCtorEq, ne_eq, not_false_eq_true, Root.bx.injEq, Root.tm.injEq, Nat.reduceAdd, Nat.reduceBEq, Nat.reduceBNe, Nat.reduceEqDiff, Nat.reduceLT, Nat.reduceLeDiff, Nat.reduceMul, Nat.reduceSub, Int.reduceToNat, Int.reduceEq, Int.reduceBEq, Int.reduceBNe, Int.reduceLT, Int.reduceLE, if_true, if_false, Bool.false_eq_true, decide_true, decide_false, List.zipIdx_nil, bne_self_eq_false]
      · rcases Bool.eq_false_or_eq_true (r.rk == 0) with g5 | g5
        · simp only [rankI, g3, g4, g5, g1, hsu, hlb, hih, cState, cFault, cRank, cRanks, cFl, cStL, b1, b2, b3, b4, d1, d2, d3, d4, List.replicate, List.set, wx, I, exec, resOf, reduceIte, reduceCtorEq, ne_eq, not_false_eq_true, Root.bx.injEq, Root.tm.injEq, Nat.reduceAdd, Nat.reduceBEq, Nat.reduceBNe, Nat.reduceEqDiff, Nat.reduceLT, Nat.reduceLeDiff, Nat.reduceMul, Nat.reduceSub, Int.reduceToNat, Int.reduceEq, Int.reduceBEq, Int.reduceBNe, Int.reduceLT, Int.reduceLE, if_true, if_false, Bool.false_eq_true, decide_true, decide_false, List.zipIdx_nil, bne_self_eq_false]
        · rcases Bool.eq_false_or_eq_true (homeTurnI x r.st r.ft).2.2 with g6 | g6
          · obtain ⟨r', hr'⟩ := missS_mem g3 (home_succ hp hxm r.st r.ft g6)
            obtain ⟨j, hj, hg⟩ := posR_get l _ _ 0 r' hr'
            rw [Nat.zero_add] at hj
            have hrk : rkOf l (homeTurnI x r.st r.ft).1 r.ft = r'.rk := by unfold rkOf; rw [hr']
            have hfn := hnx (homeTurnI x r.st r.ft).1
            rw [hj] at hfn
            have hjn : (0 : Int) ≤ (j : Int) := by omega
            by_cases g7 : r'.rk < r.rk
            · have g8 : ¬ r.rk ≤ r'.rk := by omega
              simp only [rankI, g3, g4, g5, g6, g7, g8, hrk, g1, hsu, hlb, hih, hht, hfn, hg, hjn, cState, cFault, cRank, cRanks, cFl, cStL, b1, b2, b3, b4, d1, d2, d3, d4, List.replicate, List.set, wx, I, exec, resOf, reduceIte, reduceCtorEq, ne_eq, not_false_eq_true, Root.bx.injEq, Root.tm.injEq, Nat.reduceAdd, Nat.reduceBEq, Nat.reduceBNe, Nat.reduceEqDiff, Nat.reduceLT, Nat.reduceLeDiff, Nat.reduceMul, Nat.reduceSub, Int.reduceToNat, Int.reduceEq, Int.reduceBEq, Int.reduceBNe, Int.reduceLT, Int.reduceLE, if_true, if_false, Bool.false_eq_true, decide_true, decide_false, List.zipIdx_nil, bne_self_eq_false]
            · have g8 : r.rk ≤ r'.rk := by omega
              simp only [rankI, g3, g4, g5, g6, g7, g8, hrk, g1, hsu, hlb, hih, hht, hfn, hg, hjn, cState, cFault, cRank, cRanks, cFl, cStL, b1, b2, b3, b4, d1, d2, d3, d4, List.replicate, List.set, wx, I, exec, resOf, reduceIte, reduceCtorEq, ne_eq, not_false_eq_true, Root.bx.injEq, Root.tm.injEq, Nat.reduceAdd, Nat.reduceBEq, Nat.reduceBNe, Nat.reduceEqDiff, Nat.reduceLT, Nat.reduceLeDiff, Nat.reduceMul, Nat.reduceSub, Int.reduceToNat, Int.reduceEq, Int.reduceBEq, Int.reduceBNe, Int.reduceLT, Int.reduceLE, if_true, if_false, Bool.false_eq_true, decide_true, decide_false, List.zipIdx_nil, bne_self_eq_false]
          · simp only [rankI, g3, g4, g5, g6, g1, hsu, hlb, hih, hht, cState, cFault, cRank, cRanks, cFl, cStL, b1, b2, b3, b4, d1, d2, d3, d4, List.replicate, List.set, wx, I, exec, resOf, reduceIte, reduceCtorEq, ne_eq, not_false_eq_true, Root.bx.injEq, Root.tm.injEq, Nat.reduceAdd, Nat.reduceBEq, Nat.reduceBNe, Nat.reduceEqDiff, Nat.reduceLT, Nat.reduceLeDiff, Nat.reduceMul, Nat.reduceSub, Int.reduceToNat, Int.reduceEq, Int.reduceBEq, Int.reduceBNe, Int.reduceLT, Int.reduceLE, if_true, if_false, Bool.false_eq_true, decide_true, decide_false, List.zipIdx_nil, bne_self_eq_false]


end

end Go.ViD
end
section
/- Ranks: the program's iterator over the states after a turn. -/
set_option linter.unusedSimpArgs false
set_option linter.unusedVariables false
namespace Go.ViD
open Go.Vi

/-- A state that is yielded. -/
abbrev yS (s : State) : V := .tup [.agg (cState s)]

section
variable (p : Plan) (s : State) (x : Step) (h0 : 0 ≤ s.step) (hx : p.steps[s.step.toNat]? = some x) (f : Fault)

theorem pc_after : pc E 133 [.agg (cPlan p), .agg (cState s), .agg (cFault f)] = some (.fn (.func 136) [] [.ptr (cPlan p) 0, .ptr (cState s) 0, .ptr (cFault f) 0]) := by
  refine pc_code (mf := f133) rfl ?_
  rw [runF_U rfl]
  simp only [f133, cState, cFault, out_nilf, wx, I, exec, resOf, reduceIte, reduceCtorEq, ne_eq, not_false_eq_true, Root.bx.injEq, Root.tm.injEq, Nat.reduceAdd, Nat.reduceBEq, Nat.reduceBNe, Nat.reduceEqDiff, Nat.reduceLT, Nat.reduceLeDiff, Nat.reduceMul, Nat.reduceSub, Int.reduceToNat, Int.reduceEq, Int.reduceBEq, Int.reduceBNe, Int.reduceLT, Int.reduceLE, if_true, if_false, Bool.false_eq_true, decide_true, decide_false, List.zipIdx_nil, bne_self_eq_false]

include h0 hx in
theorem loop136 (cs : List Int) (hcl : cs.length ≤ 10000) (fv : Value) :
    ∀ (m i : Nat), i + m = cs.length → U (pc E) [.c (.loop f136l0), .b 0] .normal ⟨[(0, .raw fv), (1, .ptr (cPlan p) 0), (2, .ptr (cState s) 0), (3, .ptr (cFault f) 0), (18, .sl .s 1 (ints cs)), (19, I cs.length), (20, I i)], []⟩ (finK []) =
      some (.tup ((cs.drop i).map fun c => yS (turnI x s f c).1))
  | 0, i, hm => by
    rw [U_loop' f136l0.eq_1]
    have g0 : ¬ ((i : Int) < (cs.length : Int)) := by omega
    have e : cs.drop i = [] := List.drop_eq_nil_of_le (by omega)
    rw [e]
    simp only [g0, ints, wx, I, exec, resOf, reduceIte, reduceCtorEq, ne_eq, not_false_eq_true, Root.bx.injEq, Root.tm.injEq, Nat.reduceAdd, Nat.reduceBEq, Nat.reduceBNe, Nat.reduceEqDiff, Nat.reduceLT, Nat.reduceLeDiff, Nat.reduceMul, Nat.reduceSub, Int.reduceToNat, Int.reduceEq, Int.reduceBEq, Int.reduceBNe, Int.reduceLT, Int.reduceLE, if_true, if_false, Bool.false_eq_true, decide_true, decide_false, List.zipIdx_nil, bne_self_eq_false]
  | m + 1, i, hm => by
    rw [U_loop' f136l0.eq_1]
    have g0 : ((i : Int) < (cs.length : Int)) := by omega
    have hy : cs[i]? = some cs[i] := List.getElem?_eq_getElem (by omega)
    have hd : cs.drop i = cs[i] :: cs.drop (i + 1) := List.drop_eq_getElem_cons (by omega)
    have hw := wrap_succ (i := i) (by omega)
    have ih := loop136 cs hcl fv m (i + 1) (by omega)
    rw [hd]
    generalize cs[i] = c at hy ⊢
    have ht := pc_turn p s x h0 hx f c
    simp only [cState, cFault, ints] at ht ih
    have hpure : [V.agg (cState (turnI x s f c).1)].all pureV = true := rfl
    simp only [cState] at hpure
    simp only [g0, hw, hy, ht, ih, cState, cFault, ints, List.replicate, List.set, U_yld, yldK_eq, out_raw, cpa_raw, cp_raw, data_raw, away_raw, noref_raw, wx, I, exec, resOf, reduceIte, reduceCtorEq, ne_eq, not_false_eq_true, Root.bx.injEq, Root.tm.injEq, Nat.reduceAdd, Nat.reduceBEq, Nat.reduceBNe, Nat.reduceEqDiff, Nat.reduceLT, Nat.reduceLeDiff, Nat.reduceMul, Nat.reduceSub, Int.reduceToNat, Int.reduceEq, Int.reduceBEq, Int.reduceBNe, Int.reduceLT, Int.reduceLE, if_true, if_false, Bool.false_eq_true, decide_true, decide_false, List.zipIdx_nil, bne_self_eq_false]
    exact yldU_mk hpure

include h0 hx in
theorem pc_gen136 (hxl : x.exits.length ≤ 1000) : pc E 1000136 [.ptr (cPlan p) 0, .ptr (cState s) 0, .ptr (cFault f) 0] = some (.tup ((succI x s f).map yS)) := by
  refine pc_gen (mf := f136) rfl fun fv => ?_
  rw [runF_U rfl]
  have h := loop136 p s x h0 hx f (-1 :: x.exits) (by simp only [List.length_cons]; omega) fv _ 0 (Nat.zero_add _)
  have hr : room (1 + x.exits.length) 8 = true := room_ok (by omega) (by omega)
  have ha : ((x.exits.map fun n => [V.int .i64 n]).all fun y => y.all leaf) = true := by
    rw [List.all_eq_true]
    intro y hy
    obtain ⟨r, -, rfl⟩ := List.mem_map.1 hy
    rfl
  have e : (((-1 :: x.exits).drop 0).map fun c => yS (turnI x s f c).1) = (succI x s f).map yS := by
    simp only [List.drop_zero, succI, List.map_cons, List.map_map]
    rfl
  rw [e] at h
  simp only [cState, cFault, ints, List.map_cons, List.length_cons, Int.cast_ofNat_Int] at h
  simp only [f136, cSteps, cStep, h0, hx, hr, ha, cState, cFault, ints, cpa_raw, cp_raw, data_raw, away_raw, noref_raw, List.replicate, List.set, h, wx, I, exec, resOf, reduceIte, reduceCtorEq, ne_eq, not_false_eq_true, Root.bx.injEq, Root.tm.injEq, Nat.reduceAdd, Nat.reduceBEq, Nat.reduceBNe, Nat.reduceEqDiff, Nat.reduceLT, Nat.reduceLeDiff, Nat.reduceMul, Nat.reduceSub, Int.reduceToNat, Int.reduceEq, Int.reduceBEq, Int.reduceBNe, Int.reduceLT, Int.reduceLE, if_true, if_false, Bool.false_eq_true, decide_true, decide_false, List.zipIdx_nil, bne_self_eq_false]
  trace_state

end

end Go.ViD
end
section
/- Ranks: the program's error of one. -/
set_option linter.unusedSimpArgs false
set_option linter.unusedVariables false
namespace Go.ViD
open Go.Vi

theorem findR_cases : ∀ (o : Option Rank), (∃ r, o = some r) ∨ o = none
  | some r => .inl ⟨r, rfl⟩
  | none => .inr rfl

theorem loop112 (p : Plan) (l : List Rank) (hd : Dist l) (r : Rank) (fs : List Fault) (hfl : fs.length ≤ 1000) {t : List Todo} {k : Ex → St → Option V} :
    ∀ (m i : Nat), i + m = fs.length → U (pc E) (.c (.loop f112l0) :: t) .normal ⟨[(3, .loc 3 0), (4, .loc 4 0), (5, .loc 5 0), (6, .loc 6 0), (23, .sl .s 2 (cFl fs)), (24, I fs.length), (25, I i)], [(3, false, cPlan p), (4, false, [.mp .s (mapR l)]), (5, false, cRank r), (6, false, [I 0])]⟩ k =
      if missF l r.st (fs.drop i) then k .ret ⟨[(6, .loc 6 0)], [(6, false, [I 14])]⟩ else U (pc E) t (.exit 0) ⟨[(3, .loc 3 0), (4, .loc 4 0), (5, .loc 5 0), (6, .loc 6 0)], [(3, false, cPlan p), (4, false, [.mp .s (mapR l)]), (5, false, cRank r), (6, false, [I 0])]⟩ k
  | 0, i, hm => by
    rw [U_loop' f112l0.eq_1]
    have h0 : ¬ ((i : Int) < (fs.length : Int)) := by omega
    have e : fs.drop i = [] := List.drop_eq_nil_of_le (by omega)
    rw [e]
    simp only [h0, missF, List.any_nil, wx, I, exec, resOf, reduceIte, reduceCtorEq, ne_eq, not_false_eq_true, Root.bx.injEq, Root.tm.injEq, Nat.reduceAdd, Nat.reduceBEq, Nat.reduceBNe, Nat.reduceEqDiff, Nat.reduceLT, Nat.reduceLeDiff, Nat.reduceMul, Nat.reduceSub, Int.reduceToNat, Int.reduceEq, Int.reduceBEq, Int.reduceBNe, Int.reduceLT, Int.reduceLE, if_true, if_false, Bool.false_eq_true, decide_true, decide_false, List.zipIdx_nil, bne_self_eq_false]
  | m + 1, i, hm => by
    rw [U_loop' f112l0.eq_1]
    have h0 : ((i : Int) < (fs.length : Int)) := by omega
    have hy : fs[i]? = some fs[i] := List.getElem?_eq_getElem (by omega)
    have hdr : fs.drop i = fs[i] :: fs.drop (i + 1) := List.drop_eq_getElem_cons (by omega)
    have hw := wrap_succ (i := i) (by omega)
    have ih := loop112 p l hd r fs hfl (t := t) (k := k) m (i + 1) (by omega)
    rw [hdr]
    generalize fs[i] = f at hy ⊢
    have hlk := look_r r.st f l hd
    have hft := fits_place r.st f
    simp only [missF, List.any_cons] at ih ⊢
    simp only [cFl, cState, cFault, cRank] at ih
    rcases findR_cases (findR l r.st f) with ⟨r', hq⟩ | hq
    · simp only [hq, Option.map_some, keyP] at hlk hft
      simp only [h0, hy, hw, hlk, hft, ih, hq, Option.isSome_some, cFl, cState, cFault, cRank, List.replicate, List.set, wx, I, exec, resOf, reduceIte, reduceCtorEq, ne_eq, not_false_eq_true, Root.bx.injEq, Root.tm.injEq, Nat.reduceAdd, Nat.reduceBEq, Nat.reduceBNe, Nat.reduceEqDiff, Nat.reduceLT, Nat.reduceLeDiff, Nat.reduceMul, Nat.reduceSub, Int.reduceToNat, Int.reduceEq, Int.reduceBEq, Int.reduceBNe, Int.reduceLT, Int.reduceLE, if_true, if_false, Bool.false_eq_true, decide_true, decide_false, List.zipIdx_nil, bne_self_eq_false]
      try rfl
    · simp only [hq, Option.map_none, keyP] at hlk hft
      simp only [h0, hy, hw, hlk, hft, hq, Option.isSome_none, cFl, cState, cFault, cRank, List.replicate, List.set, wx, I, exec, resOf, reduceIte, reduceCtorEq, ne_eq, not_false_eq_true, Root.bx.injEq, Root.tm.injEq, Nat.reduceAdd, Nat.reduceBEq, Nat.reduceBNe, Nat.reduceEqDiff, Nat.reduceLT, Nat.reduceLeDiff, Nat.reduceMul, Nat.reduceSub, Int.reduceToNat, Int.reduceEq, Int.reduceBEq, Int.reduceBNe, Int.reduceLT, Int.reduceLE, if_true, if_false, Bool.false_eq_true, decide_true, decide_false, List.zipIdx_nil, bne_self_eq_false]

/-- The state before the rounds. -/
abbrev stR (p : Plan) (l : List Rank) (r : Rank) : St := ⟨[(3, .loc 3 0), (4, .loc 4 0), (5, .loc 5 0), (6, .loc 6 0), (46, .fn (.func 136) [] [.ptr (cPlan p) 0, .ptr (cState r.st) 0, .ptr (cFault r.ft) 0])], [(3, false, cPlan p), (4, false, [.mp .s (mapR l)]), (5, false, cRank r), (6, false, [I 0])]⟩

theorem rounds112 (p : Plan) (l : List Rank) (hd : Dist l) (r : Rank) {t : List Todo} {k : Ex → St → Option V} :
    ∀ (ns : List State), rounds (pc E) [47] f112a1 f112b1 t k (stR p l r) (ns.map yS) (stR p l r) =
      if missS l r.ft ns then k .ret ⟨(stR p l r).tm, [(6, false, [I 14])]⟩ else U (pc E) t .normal (stR p l r) k
  | [] => rfl
  | s :: ns => by
    have ih := rounds112 p l hd r (t := t) (k := k) ns
    have hlk := look_r s r.ft l hd
    have hft := fits_place s r.ft
    rw [List.map_cons, yS, rounds_cons' rfl rfl f112a1.eq_1 f112b1.eq_1]
    simp only [missS, List.any_cons] at ih ⊢
    simp only [stR, cState, cFault, cRank] at ih
    rcases findR_cases (findR l s r.ft) with ⟨r', hq⟩ | hq
    · simp only [hq, Option.map_some, keyP] at hlk hft
      simp only [stR, putAll, hlk, hft, hq, Option.isSome_some, cState, cFault, cRank, List.replicate, List.set, rndK_normal, wx, I, exec, resOf, reduceIte, reduceCtorEq, ne_eq, not_false_eq_true, Root.bx.injEq, Root.tm.injEq, Nat.reduceAdd, Nat.reduceBEq, Nat.reduceBNe, Nat.reduceEqDiff, Nat.reduceLT, Nat.reduceLeDiff, Nat.reduceMul, Nat.reduceSub, Int.reduceToNat, Int.reduceEq, Int.reduceBEq, Int.reduceBNe, Int.reduceLT, Int.reduceLE, if_true, if_false, Bool.false_eq_true, decide_true, decide_false, List.zipIdx_nil, bne_self_eq_false]
      exact ih
    · simp only [hq, Option.map_none, keyP] at hlk hft
      simp only [stR, putAll, hlk, hft, hq, Option.isSome_none, cState, cFault, cRank, List.replicate, List.set, rndK_ret, wx, I, exec, resOf, reduceIte, reduceCtorEq, ne_eq, not_false_eq_true, Root.bx.injEq, Root.tm.injEq, Nat.reduceAdd, Nat.reduceBEq, Nat.reduceBNe, Nat.reduceEqDiff, Nat.reduceLT, Nat.reduceLeDiff, Nat.reduceMul, Nat.reduceSub, Int.reduceToNat, Int.reduceEq, Int.reduceBEq, Int.reduceBNe, Int.reduceLT, Int.reduceLE, if_true, if_false, Bool.false_eq_true, decide_true, decide_false, List.zipIdx_nil, bne_self_eq_false]
      rfl

section
variable (p : Plan) (hfew : few p = true) (hp : OkP p) (l : List Rank) (hd : Dist l) (r : Rank) (h0 : 0 ≤ r.st.step) (x : Step) (hx : p.steps[r.st.step.toNat]? = some x) (hxl : x.exits.length ≤ 1000)
include hfew hp hd h0 hx hxl

set_option maxHeartbeats 4000000 in
theorem pc_rankErr : pc E 112 [.agg (cPlan p), .mp .s (mapR l), .agg (cRank r)] = some (I (rankI p x l r)) := by
  have hxm : x ∈ p.steps := List.mem_of_getElem? hx
  refine pc_code (mf := f112) rfl ?_
  rw [runF_U rfl]
  obtain ⟨f1, -, -, -⟩ := few_get hfew
  have hfs := pc_faults p hfew
  have hla := fun t k => loop112 p l hd r (fl p.signals.length) (by rw [fl_len]; omega) (t := t) (k := k) _ 0 (Nat.zero_add _)
  have hgo := fun t k => rounds112 p l hd r (t := t) (k := k) (succI x r.st r.ft)
  have haf := pc_after p r.st r.ft
  have hge := pc_gen136 p r.st x h0 hx r.ft hxl
  have hih := pc_isHome p r.st x h0 hx r.ft hp
  have hht := pc_homeTurn p r.st x h0 hx r.ft
  simp only [stR, cState, cFault, cRank, cFl, List.drop_zero, Int.cast_ofNat_Int] at hfs hla hgo haf hge hih hht
  simp only [f112, cRank, glob0, wx, I, exec, resOf, reduceIte, reduceCtorEq, ne_eq, not_false_eq_true, Root.bx.injEq, Root.tm.injEq, Nat.reduceAdd, Nat.reduceBEq, Nat.reduceBNe, Nat.reduceEqDiff, Nat.reduceLT, Nat.reduceLeDiff, Nat.reduceMul, Nat.reduceSub, Int.reduceToNat, Int.reduceEq, Int.reduceBEq, Int.reduceBNe, Int.reduceLT, Int.reduceLE, if_true, if_false, Bool.false_eq_true, decide_true, decide_false, List.zipIdx_nil, bne_self_eq_false]
  have d1 : (true == true) = true := rfl
  have d2 : (true == false) = false := rfl
  have d3 : (false == true) = false := rfl
  have d4 : (false == false) = true := rfl
  have b1 : (true != true) = false := rfl
  have b2 : (true != false) = true := rfl
  have b3 : (false != true) = true := rfl
  have b4 : (false != false) = false := rfl
  rcases Bool.eq_false_or_eq_true ((r.ft.signal == -1) && (r.ft.on == false)) with g1 | g1
  · rcases Bool.eq_false_or_eq_true (missF l r.st (fl p.signals.length)) with g2 | g2
    · simp only [rankI, g1, g2, hfs, hla, cState, cFault, cRank, cFl, b1, b2, b3, b4, d1, d2, d3, d4, List.replicate, List.set, wx, I, exec, resOf, reduceIte, reduceCtorEq, ne_eq, not_false_eq_true, Root.bx.injEq, Root.tm.injEq, Nat.reduceAdd, Nat.reduceBEq, Nat.reduceBNe, Nat.reduceEqDiff, Nat.reduceLT, Nat.reduceLeDiff, Nat.reduceMul, Nat.reduceSub, Int.reduceToNat, Int.reduceEq, Int.reduceBEq, Int.reduceBNe, Int.reduceLT, Int.reduceLE, if_true, if_false, Bool.false_eq_true, decide_true, decide_false, List.zipIdx_nil, bne_self_eq_false]
    · simp only [g1, g2, hfs, hla, haf, cState, cFault, cRank, cFl, b1, b2, b3, b4, d1, d2, d3, d4, List.replicate, List.set, wx, I, exec, resOf, reduceIte, reduceCtorEq, ne_eq, not_false_eq_true, Root.bx.injEq, Root.tm.injEq, Nat.reduceAdd, Nat.reduceBEq, Nat.reduceBNe, Nat.reduceEqDiff, Nat.reduceLT, Nat.reduceLeDiff, Nat.reduceMul, Nat.reduceSub, Int.reduceToNat, Int.reduceEq, Int.reduceBEq, Int.reduceBNe, Int.reduceLT, Int.reduceLE, if_true, if_false, Bool.false_eq_true, decide_true, decide_false, List.zipIdx_nil, bne_self_eq_false]
      rw [U_rngf' (cs := [.ptr (cPlan p) 0, .ptr (cState r.st) 0, .ptr (cFault r.ft) 0]) (g := 136) rfl rfl hge]
      simp only [hgo, wx, I, exec, resOf, reduceIte, reduceCtorEq, ne_eq, not_false_eq_true, Root.bx.injEq, Root.tm.injEq, Nat.reduceAdd, Nat.reduceBEq, Nat.reduceBNe, Nat.reduceEqDiff, Nat.reduceLT, Nat.reduceLeDiff, Nat.reduceMul, Nat.reduceSub, Int.reduceToNat, Int.reduceEq, Int.reduceBEq, Int.reduceBNe, Int.reduceLT, Int.reduceLE, if_true, if_false, Bool.false_eq_true, decide_true, decide_false, List.zipIdx_nil, bne_self_eq_false]
      rcases Bool.eq_false_or_eq_true (missS l r.ft (succI x r.st r.ft)) with g3 | g3
      · simp only [rankI, g3, g1, g2, cState, cFault, cRank, cFl, b1, b2, b3, b4, d1, d2, d3, d4, List.replicate, List.set, wx, I, exec, resOf, reduceIte, reduceCtorEq, ne_eq, not_false_eq_true, Root.bx.injEq, Root.tm.injEq, Nat.reduceAdd, Nat.reduceBEq, Nat.reduceBNe, Nat.reduceEqDiff, Nat.reduceLT, Nat.reduceLeDiff, Nat.reduceMul, Nat.reduceSub, Int.reduceToNat, Int.reduceEq, Int.reduceBEq, Int.reduceBNe, Int.reduceLT, Int.reduceLE, if_true, if_false, Bool.false_eq_true, decide_true, decide_false, List.zipIdx_nil, bne_self_eq_false]
      · rcases Bool.eq_false_or_eq_true (homeH p r.ft r.st) with g4 | g4
        · rcases Bool.eq_false_or_eq_true (r.rk == 0) with g5 | g5
          · rcases Bool.eq_false_or_eq_true (homeTurnI x r.st r.ft).2.2 with g6 | g6
            · simp only [rankI, g3, g4, g5, g6, g1, g2, hih, hht, pc_unless, unl, cState, cFault, cRank, cFl, b1, b2, b3, b4, d1, d2, d3, d4, List.replicate, List.set, wx, I, exec, resOf, reduceIte, reduceCtorEq, ne_eq, not_false_eq_true, Root.bx.injEq, Root.tm.injEq, Nat.reduceAdd, Nat.reduceBEq, Nat.reduceBNe, Nat.reduceEqDiff, Nat.reduceLT, Nat.reduceLeDiff, Nat.reduceMul, Nat.reduceSub, Int.reduceToNat, Int.reduceEq, Int.reduceBEq, Int.reduceBNe, Int.reduceLT, Int.reduceLE, if_true, if_false, Bool.false_eq_true, decide_true, decide_false, List.zipIdx_nil, bne_self_eq_false]
            · simp only [rankI, g3, g4, g5, g6, g1, g2, hih, hht, pc_unless, unl, cState, cFault, cRank, cFl, b1, b2, b3, b4, d1, d2, d3, d4, List.replicate, List.set, wx, I, exec, resOf, reduceIte, reduceCtorEq, ne_eq, not_false_eq_true, Root.bx.injEq, Root.tm.injEq, Nat.reduceAdd, Nat.reduceBEq, Nat.reduceBNe, Nat.reduceEqDiff, Nat.reduceLT, Nat.reduceLeDiff, Nat.reduceMul, Nat.reduceSub, Int.reduceToNat, Int.reduceEq, Int.reduceBEq, Int.reduceBNe, Int.reduceLT, Int.reduceLE, if_true, if_false, Bool.false_eq_true, decide_true, decide_false, List.zipIdx_nil, bne_self_eq_false]
          · simp only [rankI, g3, g4, g5, g1, g2, hih, cState, cFault, cRank, cFl, b1, b2, b3, b4, d1, d2, d3, d4, List.replicate, List.set, wx, I, exec, resOf, reduceIte, reduceCtorEq, ne_eq, not_false_eq_true, Root.bx.injEq, Root.tm.injEq, Nat.reduceAdd, Nat.reduceBEq, Nat.reduceBNe, Nat.reduceEqDiff, Nat.reduceLT, Nat.reduceLeDiff, Nat.reduceMul, Nat.reduceSub, Int.reduceToNat, Int.reduceEq, Int.reduceBEq, Int.reduceBNe, Int.reduceLT, Int.reduceLE, if_true, if_false, Bool.false_eq_true, decide_true, decide_false, List.zipIdx_nil, bne_self_eq_false]
        · rcases Bool.eq_false_or_eq_true (r.rk == 0) with g5 | g5
          · simp only [rankI, g3, g4, g5, g1, g2, hih, cState, cFault, cRank, cFl, b1, b2, b3, b4, d1, d2, d3, d4, List.replicate, List.set, wx, I, exec, resOf, reduceIte, reduceCtorEq, ne_eq, not_false_eq_true, Root.bx.injEq, Root.tm.injEq, Nat.reduceAdd, Nat.reduceBEq, Nat.reduceBNe, Nat.reduceEqDiff, Nat.reduceLT, Nat.reduceLeDiff, Nat.reduceMul, Nat.reduceSub, Int.reduceToNat, Int.reduceEq, Int.reduceBEq, Int.reduceBNe, Int.reduceLT, Int.reduceLE, if_true, if_false, Bool.false_eq_true, decide_true, decide_false, List.zipIdx_nil, bne_self_eq_false]
          · rcases Bool.eq_false_or_eq_true (homeTurnI x r.st r.ft).2.2 with g6 | g6
            · obtain ⟨r', hr'⟩ := missS_mem g3 (home_succ hp hxm r.st r.ft g6)
              have hrk : rkOf l (homeTurnI x r.st r.ft).1 r.ft = r'.rk := by unfold rkOf; rw [hr']
              have hlk := look_r (homeTurnI x r.st r.ft).1 r.ft l hd
              have hft := fits_place (homeTurnI x r.st r.ft).1 r.ft
              simp only [hr', Option.map_some, keyP] at hlk hft
              by_cases g7 : r'.rk < r.rk
              · simp only [rankI, g3, g4, g5, g6, g7, hrk, g1, g2, hih, hht, hlk, hft, pc_unless, unl, cState, cFault, cRank, cFl, b1, b2, b3, b4, d1, d2, d3, d4, List.replicate, List.set, wx, I, exec, resOf, reduceIte, reduceCtorEq, ne_eq, not_false_eq_true, Root.bx.injEq, Root.tm.injEq, Nat.reduceAdd, Nat.reduceBEq, Nat.reduceBNe, Nat.reduceEqDiff, Nat.reduceLT, Nat.reduceLeDiff, Nat.reduceMul, Nat.reduceSub, Int.reduceToNat, Int.reduceEq, Int.reduceBEq, Int.reduceBNe, Int.reduceLT, Int.reduceLE, if_true, if_false, Bool.false_eq_true, decide_true, decide_false, List.zipIdx_nil, bne_self_eq_false]
              · simp only [rankI, g3, g4, g5, g6, g7, hrk, g1, g2, hih, hht, hlk, hft, pc_unless, unl, cState, cFault, cRank, cFl, b1, b2, b3, b4, d1, d2, d3, d4, List.replicate, List.set, wx, I, exec, resOf, reduceIte, reduceCtorEq, ne_eq, not_false_eq_true, Root.bx.injEq, Root.tm.injEq, Nat.reduceAdd, Nat.reduceBEq, Nat.reduceBNe, Nat.reduceEqDiff, Nat.reduceLT, Nat.reduceLeDiff, Nat.reduceMul, Nat.reduceSub, Int.reduceToNat, Int.reduceEq, Int.reduceBEq, Int.reduceBNe, Int.reduceLT, Int.reduceLE, if_true, if_false, Bool.false_eq_true, decide_true, decide_false, List.zipIdx_nil, bne_self_eq_false]
            · simp only [rankI, g3, g4, g5, g6, g1, g2, hih, hht, pc_unless, unl, cState, cFault, cRank, cFl, b1, b2, b3, b4, d1, d2, d3, d4, List.replicate, List.set, wx, I, exec, resOf, reduceIte, reduceCtorEq, ne_eq, not_false_eq_true, Root.bx.injEq, Root.tm.injEq, Nat.reduceAdd, Nat.reduceBEq, Nat.reduceBNe, Nat.reduceEqDiff, Nat.reduceLT, Nat.reduceLeDiff, Nat.reduceMul, Nat.reduceSub, Int.reduceToNat, Int.reduceEq, Int.reduceBEq, Int.reduceBNe, Int.reduceLT, Int.reduceLE, if_true, if_false, Bool.false_eq_true, decide_true, decide_false, List.zipIdx_nil, bne_self_eq_false]

  · simp only [g1, haf, cState, cFault, cRank, wx, I, exec, resOf, reduceIte, reduceCtorEq, ne_eq, not_false_eq_true, Root.bx.injEq, Root.tm.injEq, Nat.reduceAdd, Nat.reduceBEq, Nat.reduceBNe, Nat.reduceEqDiff, Nat.reduceLT, Nat.reduceLeDiff, Nat.reduceMul, Nat.reduceSub, Int.reduceToNat, Int.reduceEq, Int.reduceBEq, Int.reduceBNe, Int.reduceLT, Int.reduceLE, if_true, if_false, Bool.false_eq_true, decide_true, decide_false, List.zipIdx_nil, bne_self_eq_false]
    rw [U_rngf' (cs := [.ptr (cPlan p) 0, .ptr (cState r.st) 0, .ptr (cFault r.ft) 0]) (g := 136) rfl rfl hge]
    simp only [hgo, wx, I, exec, resOf, reduceIte, reduceCtorEq, ne_eq, not_false_eq_true, Root.bx.injEq, Root.tm.injEq, Nat.reduceAdd, Nat.reduceBEq, Nat.reduceBNe, Nat.reduceEqDiff, Nat.reduceLT, Nat.reduceLeDiff, Nat.reduceMul, Nat.reduceSub, Int.reduceToNat, Int.reduceEq, Int.reduceBEq, Int.reduceBNe, Int.reduceLT, Int.reduceLE, if_true, if_false, Bool.false_eq_true, decide_true, decide_false, List.zipIdx_nil, bne_self_eq_false]
    rcases Bool.eq_false_or_eq_true (missS l r.ft (succI x r.st r.ft)) with g3 | g3
    · simp only [rankI, g3, g1, cState, cFault, cRank, cFl, b1, b2, b3, b4, d1, d2, d3, d4, List.replicate, List.set, wx, I, exec, resOf, reduceIte, reduceCtorEq, ne_eq, not_false_eq_true, Root.bx.injEq, Root.tm.injEq, Nat.reduceAdd, Nat.reduceBEq, Nat.reduceBNe, Nat.reduceEqDiff, Nat.reduceLT, Nat.reduceLeDiff, Nat.reduceMul, Nat.reduceSub, Int.reduceToNat, Int.reduceEq, Int.reduceBEq, Int.reduceBNe, Int.reduceLT, Int.reduceLE, if_true, if_false, Bool.false_eq_true, decide_true, decide_false, List.zipIdx_nil, bne_self_eq_false]
    · rcases Bool.eq_false_or_eq_true (homeH p r.ft r.st) with g4 | g4
      · rcases Bool.eq_false_or_eq_true (r.rk == 0) with g5 | g5
        · rcases Bool.eq_false_or_eq_true (homeTurnI x r.st r.ft).2.2 with g6 | g6
          · simp only [rankI, g3, g4, g5, g6, g1, hih, hht, pc_unless, unl, cState, cFault, cRank, cFl, b1, b2, b3, b4, d1, d2, d3, d4, List.replicate, List.set, wx, I, exec, resOf, reduceIte, reduceCtorEq, ne_eq, not_false_eq_true, Root.bx.injEq, Root.tm.injEq, Nat.reduceAdd, Nat.reduceBEq, Nat.reduceBNe, Nat.reduceEqDiff, Nat.reduceLT, Nat.reduceLeDiff, Nat.reduceMul, Nat.reduceSub, Int.reduceToNat, Int.reduceEq, Int.reduceBEq, Int.reduceBNe, Int.reduceLT, Int.reduceLE, if_true, if_false, Bool.false_eq_true, decide_true, decide_false, List.zipIdx_nil, bne_self_eq_false]
          · simp only [rankI, g3, g4, g5, g6, g1, hih, hht, pc_unless, unl, cState, cFault, cRank, cFl, b1, b2, b3, b4, d1, d2, d3, d4, List.replicate, List.set, wx, I, exec, resOf, reduceIte, reduceCtorEq, ne_eq, not_false_eq_true, Root.bx.injEq, Root.tm.injEq, Nat.reduceAdd, Nat.reduceBEq, Nat.reduceBNe, Nat.reduceEqDiff, Nat.reduceLT, Nat.reduceLeDiff, Nat.reduceMul, Nat.reduceSub, Int.reduceToNat, Int.reduceEq, Int.reduceBEq, Int.reduceBNe, Int.reduceLT, Int.reduceLE, if_true, if_false, Bool.false_eq_true, decide_true, decide_false, List.zipIdx_nil, bne_self_eq_false]
        · simp only [rankI, g3, g4, g5, g1, hih, cState, cFault, cRank, cFl, b1, b2, b3, b4, d1, d2, d3, d4, List.replicate, List.set, wx, I, exec, resOf, reduceIte, reduceCtorEq, ne_eq, not_false_eq_true, Root.bx.injEq, Root.tm.injEq, Nat.reduceAdd, Nat.reduceBEq, Nat.reduceBNe, Nat.reduceEqDiff, Nat.reduceLT, Nat.reduceLeDiff, Nat.reduceMul, Nat.reduceSub, Int.reduceToNat, Int.reduceEq, Int.reduceBEq, Int.reduceBNe, Int.reduceLT, Int.reduceLE, if_true, if_false, Bool.false_eq_true, decide_true, decide_false, List.zipIdx_nil, bne_self_eq_false]
      · rcases Bool.eq_false_or_eq_true (r.rk == 0) with g5 | g5
        · simp only [rankI, g3, g4, g5, g1, hih, cState, cFault, cRank, cFl, b1, b2, b3, b4, d1, d2, d3, d4, List.replicate, List.set, wx, I, exec, resOf, reduceIte, reduceCtorEq, ne_eq, not_false_eq_true, Root.bx.injEq, Root.tm.injEq, Nat.reduceAdd, Nat.reduceBEq, Nat.reduceBNe, Nat.reduceEqDiff, Nat.reduceLT, Nat.reduceLeDiff, Nat.reduceMul, Nat.reduceSub, Int.reduceToNat, Int.reduceEq, Int.reduceBEq, Int.reduceBNe, Int.reduceLT, Int.reduceLE, if_true, if_false, Bool.false_eq_true, decide_true, decide_false, List.zipIdx_nil, bne_self_eq_false]
        · rcases Bool.eq_false_or_eq_true (homeTurnI x r.st r.ft).2.2 with g6 | g6
          · obtain ⟨r', hr'⟩ := missS_mem g3 (home_succ hp hxm r.st r.ft g6)
            have hrk : rkOf l (homeTurnI x r.st r.ft).1 r.ft = r'.rk := by unfold rkOf; rw [hr']
            have hlk := look_r (homeTurnI x r.st r.ft).1 r.ft l hd
            have hft := fits_place (homeTurnI x r.st r.ft).1 r.ft
            simp only [hr', Option.map_some, keyP] at hlk hft
            by_cases g7 : r'.rk < r.rk
            · simp only [rankI, g3, g4, g5, g6, g7, hrk, g1, hih, hht, hlk, hft, pc_unless, unl, cState, cFault, cRank, cFl, b1, b2, b3, b4, d1, d2, d3, d4, List.replicate, List.set, wx, I, exec, resOf, reduceIte, reduceCtorEq, ne_eq, not_false_eq_true, Root.bx.injEq, Root.tm.injEq, Nat.reduceAdd, Nat.reduceBEq, Nat.reduceBNe, Nat.reduceEqDiff, Nat.reduceLT, Nat.reduceLeDiff, Nat.reduceMul, Nat.reduceSub, Int.reduceToNat, Int.reduceEq, Int.reduceBEq, Int.reduceBNe, Int.reduceLT, Int.reduceLE, if_true, if_false, Bool.false_eq_true, decide_true, decide_false, List.zipIdx_nil, bne_self_eq_false]
            · simp only [rankI, g3, g4, g5, g6, g7, hrk, g1, hih, hht, hlk, hft, pc_unless, unl, cState, cFault, cRank, cFl, b1, b2, b3, b4, d1, d2, d3, d4, List.replicate, List.set, wx, I, exec, resOf, reduceIte, reduceCtorEq, ne_eq, not_false_eq_true, Root.bx.injEq, Root.tm.injEq, Nat.reduceAdd, Nat.reduceBEq, Nat.reduceBNe, Nat.reduceEqDiff, Nat.reduceLT, Nat.reduceLeDiff, Nat.reduceMul, Nat.reduceSub, Int.reduceToNat, Int.reduceEq, Int.reduceBEq, Int.reduceBNe, Int.reduceLT, Int.reduceLE, if_true, if_false, Bool.false_eq_true, decide_true, decide_false, List.zipIdx_nil, bne_self_eq_false]
          · simp only [rankI, g3, g4, g5, g6, g1, hih, hht, pc_unless, unl, cState, cFault, cRank, cFl, b1, b2, b3, b4, d1, d2, d3, d4, List.replicate, List.set, wx, I, exec, resOf, reduceIte, reduceCtorEq, ne_eq, not_false_eq_true, Root.bx.injEq, Root.tm.injEq, Nat.reduceAdd, Nat.reduceBEq, Nat.reduceBNe, Nat.reduceEqDiff, Nat.reduceLT, Nat.reduceLeDiff, Nat.reduceMul, Nat.reduceSub, Int.reduceToNat, Int.reduceEq, Int.reduceBEq, Int.reduceBNe, Int.reduceLT, Int.reduceLE, if_true, if_false, Bool.false_eq_true, decide_true, decide_false, List.zipIdx_nil, bne_self_eq_false]

end

end Go.ViD
end
section
/- Ranks: the first check. -/
set_option linter.unusedSimpArgs false
set_option linter.unusedVariables false
namespace Go.ViD
open Go.Vi

/-- The error of a rank behind some. -/
def ckE (p : Plan) (pre : List Rank) (r : Rank) : Int := fst1 [stateE p r.st, faultE p r.ft, unl (inR r.rk 0 4000) 2, unl (!(findR pre r.st r.ft).isSome) 23]

/-- The first rank with an error by itself. -/
def ck1 (p : Plan) : List Rank → List Rank → Option (Int × Int)
  | _, [] => none
  | pre, r :: l => if ckE p pre r = 0 then ck1 p (pre ++ [r]) l else some ((pre.length : Int), ckE p pre r)

theorem fst1_zero4 {a b c d : Int} : fst1 [a, b, c, d] = 0 ↔ a = 0 ∧ b = 0 ∧ c = 0 ∧ d = 0 := by
  simp only [fst1]
  by_cases h1 : a = 0 <;> by_cases h2 : b = 0 <;> by_cases h3 : c = 0 <;> by_cases h4 : d = 0 <;> simp [h1, h2, h3, h4]

theorem ck_zero {p : Plan} {pre : List Rank} {r : Rank} (h : ckE p pre r = 0) : stateE p r.st = 0 ∧ faultE p r.ft = 0 ∧ findR pre r.st r.ft = none := by
  obtain ⟨h1, h2, -, h4⟩ := fst1_zero4.1 h
  refine ⟨h1, h2, ?_⟩
  cases hf : findR pre r.st r.ft with
  | none => rfl
  | some x => rw [hf] at h4; simp [unl] at h4

theorem ck1_ok {p : Plan} : ∀ (l pre : List Rank), ck1 p pre l = none → Dist pre → (∀ r ∈ pre, stateE p r.st = 0 ∧ faultE p r.ft = 0) → Dist (pre ++ l) ∧ ∀ r ∈ pre ++ l, stateE p r.st = 0 ∧ faultE p r.ft = 0
  | [], pre, _, hd, ha => by simpa using ⟨hd, ha⟩
  | r :: l, pre, h, hd, ha => by
    unfold ck1 at h
    by_cases hc : ckE p pre r = 0
    · rw [if_pos hc] at h
      obtain ⟨h1, h2, h3⟩ := ck_zero hc
      have := ck1_ok l (pre ++ [r]) h (dist_snoc hd h3) fun y hy => by
        rcases List.mem_append.1 hy with hy | hy
        · exact ha y hy
        · rw [List.mem_singleton] at hy; subst hy; exact ⟨h1, h2⟩
      simpa using this
    · rw [if_neg hc] at h; cases h

abbrev endK (k : Ex → St → Option V) (e : Int × Int) : Option V := k .ret ⟨[(4, I e.1), (5, I e.2)], []⟩

theorem loop64a (p : Plan) (hp : few p = true) (l : List Rank) (hl : l.length ≤ 10000) {t : List Todo} {k : Ex → St → Option V} :
    ∀ (rest pre : List Rank), pre ++ rest = l → Dist pre → U (pc E) (.c (.loop f64l0) :: t) .normal ⟨[(1, .sl .s 5 (cRanks l)), (2, .loc 2 0), (6, .loc 6 0), (8, .mp .x (mapR pre)), (36, .sl .s 5 (cRanks l)), (37, I l.length), (38, I pre.length)], [(2, false, cPlan p), (6, false, cPlan p)]⟩ k =
      match ck1 p pre rest with
      | some e => endK k e
      | none => U (pc E) t (.exit 0) ⟨[(1, .sl .s 5 (cRanks l)), (2, .loc 2 0), (6, .loc 6 0), (8, .mp .x (mapR l))], [(2, false, cPlan p), (6, false, cPlan p)]⟩ k
  | [], pre, hpl, hd => by
    rw [List.append_nil] at hpl
    subst hpl
    rw [U_loop' f64l0.eq_1]
    simp only [ck1, Int.lt_irrefl, wx, I, exec, resOf, reduceIte, reduceCtorEq, ne_eq, not_false_eq_true, Root.bx.injEq, Root.tm.injEq, Nat.reduceAdd, Nat.reduceBEq, Nat.reduceBNe, Nat.reduceEqDiff, Nat.reduceLT, Nat.reduceLeDiff, Nat.reduceMul, Nat.reduceSub, Int.reduceToNat, Int.reduceEq, Int.reduceBEq, Int.reduceBNe, Int.reduceLT, Int.reduceLE, if_true, if_false, Bool.false_eq_true, decide_true, decide_false, List.zipIdx_nil, bne_self_eq_false]
  | r :: rest, pre, hpl, hd => by
    rw [U_loop' f64l0.eq_1]
    have hlen : pre.length + (rest.length + 1) = l.length := by rw [← hpl, List.length_append, List.length_cons]
    have h0 : ((pre.length : Int) < (l.length : Int)) := by omega
    have hn : (0 : Int) ≤ (pre.length : Int) := by omega
    have hy : l[pre.length]? = some r := by rw [← hpl]; simp
    have hw := wrap_succ (i := pre.length) (by omega)
    have hst := pc_stateErr p hp r.st
    have hfa := pc_faultErr p hp r.ft
    have hlk := look_r r.st r.ft pre hd
    have hft := fits_place r.st r.ft
    simp only [cState, cFault] at hst hfa
    by_cases hc : ckE p pre r = 0
    · have hnn := (ck_zero hc).2.2
      have ih := loop64a p hp l hl (t := t) (k := k) rest (pre ++ [r]) (by rw [List.append_assoc]; exact hpl) (dist_snoc hd hnn)
      have hset := set_r r pre hd hnn
      have he : fst1 [stateE p r.st, faultE p r.ft, unl (inR r.rk 0 4000) 2, unl true 23] = 0 := by
        have := hc
        unfold ckE at this
        rw [hnn] at this
        exact this
      have e1 : ck1 p pre (r :: rest) = ck1 p (pre ++ [r]) rest := by rw [ck1, if_pos hc]
      rw [e1]
      simp only [hnn, Option.map_none, keyP] at hlk hft hset
      simp only [List.length_append, List.length_cons, List.length_nil, Nat.zero_add, cRanks] at ih
      simp only [h0, hn, hy, hw, hst, hfa, hlk, hft, hset, he, ih, pc_inR, pc_unless, pc_first4, Option.isSome_none, cRanks, List.replicate, List.set, bne_self_eq_false, wx, I, exec, resOf, reduceIte, reduceCtorEq, ne_eq, not_false_eq_true, Root.bx.injEq, Root.tm.injEq, Nat.reduceAdd, Nat.reduceBEq, Nat.reduceBNe, Nat.reduceEqDiff, Nat.reduceLT, Nat.reduceLeDiff, Nat.reduceMul, Nat.reduceSub, Int.reduceToNat, Int.reduceEq, Int.reduceBEq, Int.reduceBNe, Int.reduceLT, Int.reduceLE, if_true, if_false, Bool.false_eq_true, decide_true, decide_false, List.zipIdx_nil, bne_self_eq_false]
    · have hcb : (ckE p pre r != 0) = true := by simpa using hc
      have e1 : ck1 p pre (r :: rest) = some ((pre.length : Int), ckE p pre r) := by rw [ck1, if_neg hc]
      rw [e1]
      have he : ∀ b, (!(findR pre r.st r.ft).isSome) = b → fst1 [stateE p r.st, faultE p r.ft, unl (inR r.rk 0 4000) 2, unl b 23] = ckE p pre r := fun b hb => by unfold ckE; rw [hb]
      rcases findR_cases (findR pre r.st r.ft) with ⟨r', hq⟩ | hq
      · have he := he false (by rw [hq]; rfl)
        simp only [hq, Option.map_some, keyP] at hlk hft
        simp only [h0, hn, hy, hst, hfa, hlk, hft, he, hcb, pc_inR, pc_unless, pc_first4, Option.isSome_some, cRanks, List.replicate, List.set, wx, I, exec, resOf, reduceIte, reduceCtorEq, ne_eq, not_false_eq_true, Root.bx.injEq, Root.tm.injEq, Nat.reduceAdd, Nat.reduceBEq, Nat.reduceBNe, Nat.reduceEqDiff, Nat.reduceLT, Nat.reduceLeDiff, Nat.reduceMul, Nat.reduceSub, Int.reduceToNat, Int.reduceEq, Int.reduceBEq, Int.reduceBNe, Int.reduceLT, Int.reduceLE, if_true, if_false, Bool.false_eq_true, decide_true, decide_false, List.zipIdx_nil, bne_self_eq_false]
      · have he := he true (by rw [hq]; rfl)
        simp only [hq, Option.map_none, keyP] at hlk hft
        simp only [h0, hn, hy, hst, hfa, hlk, hft, he, hcb, pc_inR, pc_unless, pc_first4, Option.isSome_none, cRanks, List.replicate, List.set, wx, I, exec, resOf, reduceIte, reduceCtorEq, ne_eq, not_false_eq_true, Root.bx.injEq, Root.tm.injEq, Nat.reduceAdd, Nat.reduceBEq, Nat.reduceBNe, Nat.reduceEqDiff, Nat.reduceLT, Nat.reduceLeDiff, Nat.reduceMul, Nat.reduceSub, Int.reduceToNat, Int.reduceEq, Int.reduceBEq, Int.reduceBNe, Int.reduceLT, Int.reduceLE, if_true, if_false, Bool.false_eq_true, decide_true, decide_false, List.zipIdx_nil, bne_self_eq_false]

theorem loop66a (p : Plan) (hp : few p = true) (l : List Rank) (hl : l.length ≤ 10000) {t : List Todo} {k : Ex → St → Option V} :
    ∀ (rest pre : List Rank), pre ++ rest = l → U (pc E) (.c (.loop f66l0) :: t) .normal ⟨[(1, .sl .s 5 (cRanks l)), (2, .loc 2 0), (6, I pre.length)], [(2, false, cPlan p)]⟩ k =
      match ck1 p pre rest with
      | some e => endK k e
      | none => U (pc E) t (.exit 0) ⟨[(1, .sl .s 5 (cRanks l)), (2, .loc 2 0)], [(2, false, cPlan p)]⟩ k
  | [], pre, hpl => by
    rw [List.append_nil] at hpl
    subst hpl
    rw [U_loop' f66l0.eq_1]
    simp only [ck1, Int.lt_irrefl, cRanks, wx, I, exec, resOf, reduceIte, reduceCtorEq, ne_eq, not_false_eq_true, Root.bx.injEq, Root.tm.injEq, Nat.reduceAdd, Nat.reduceBEq, Nat.reduceBNe, Nat.reduceEqDiff, Nat.reduceLT, Nat.reduceLeDiff, Nat.reduceMul, Nat.reduceSub, Int.reduceToNat, Int.reduceEq, Int.reduceBEq, Int.reduceBNe, Int.reduceLT, Int.reduceLE, if_true, if_false, Bool.false_eq_true, decide_true, decide_false, List.zipIdx_nil, bne_self_eq_false]
  | r :: rest, pre, hpl => by
    rw [U_loop' f66l0.eq_1]
    have hlen : pre.length + (rest.length + 1) = l.length := by rw [← hpl, List.length_append, List.length_cons]
    have h0 : ((pre.length : Int) < (l.length : Int)) := by omega
    have hn : (0 : Int) ≤ (pre.length : Int) := by omega
    have hn2 : ((pre.length : Int) ≤ (l.length : Int)) := by omega
    have hy : l[pre.length]? = some r := by rw [← hpl]; simp
    have hw := wrap_succ (i := pre.length) (by omega)
    have hst := pc_stateErrR p hp r.st
    have hfa := pc_faultErrR p hp r.ft
    have htk : (l.map cRank).take pre.length = pre.map cRank := by rw [← List.map_take, ← hpl]; simp
    have hfd := pc_find pre (by omega) r.st r.ft
    have hpn := posR_neg pre r.st r.ft 0
    have ih := loop66a p hp l hl (t := t) (k := k) rest (pre ++ [r]) (by rw [List.append_assoc]; exact hpl)
    simp only [List.length_append, List.length_cons, List.length_nil, Nat.zero_add, cRanks] at ih
    simp only [cState, cFault, cRanks] at hst hfa hfd
    have z2 : ((2 : Int) == 0) = false := rfl
    have z23 : ((23 : Int) != 0) = true := rfl
    have z22 : ((2 : Int) != 0) = true := rfl
    by_cases c1 : fst1 [stateE p r.st, faultE p r.ft] = 0
    · have c1b : (fst1 [stateE p r.st, faultE p r.ft] == 0) = true := by simpa using c1
      obtain ⟨s1, s2⟩ : stateE p r.st = 0 ∧ faultE p r.ft = 0 := by
        simp only [fst1] at c1
        by_cases h1 : stateE p r.st = 0 <;> by_cases h2 : faultE p r.ft = 0 <;> simp [h1, h2] at c1 ⊢
      rcases Bool.eq_false_or_eq_true (inR r.rk 0 4000) with c2 | c2
      · rcases findR_cases (findR pre r.st r.ft) with ⟨r', hq⟩ | hq
        · have hk : ckE p pre r = 23 := by simp [ckE, fst1, s1, s2, c2, hq, unl]
          have e1 : ck1 p pre (r :: rest) = some ((pre.length : Int), 23) := by rw [ck1, hk]; rfl
          have hp0 : (0 : Int) ≤ posR pre r.st r.ft 0 := by
            rw [hq] at hpn
            have := of_decide_eq_false hpn
            omega
          rw [e1]
          simp only [h0, hn, hn2, hy, hst, hfa, htk, hfd, hp0, c1, c1b, c2, z23, pc_one2, pc_Within, cRanks, beq_self_eq_true, List.replicate, List.set, wx, I, exec, resOf, reduceIte, reduceCtorEq, ne_eq, not_false_eq_true, Root.bx.injEq, Root.tm.injEq, Nat.reduceAdd, Nat.reduceBEq, Nat.reduceBNe, Nat.reduceEqDiff, Nat.reduceLT, Nat.reduceLeDiff, Nat.reduceMul, Nat.reduceSub, Int.reduceToNat, Int.reduceEq, Int.reduceBEq, Int.reduceBNe, Int.reduceLT, Int.reduceLE, if_true, if_false, Bool.false_eq_true, decide_true, decide_false, List.zipIdx_nil, bne_self_eq_false]
        · have hk : ckE p pre r = 0 := by simp [ckE, fst1, s1, s2, c2, hq, unl]
          have e1 : ck1 p pre (r :: rest) = ck1 p (pre ++ [r]) rest := by rw [ck1, if_pos hk]
          have hp0 : ¬ (0 : Int) ≤ posR pre r.st r.ft 0 := by
            rw [hq] at hpn
            have := of_decide_eq_true hpn
            omega
          rw [e1]
          simp only [h0, hn, hn2, hy, hw, hst, hfa, htk, hfd, hp0, c1, c1b, c2, ih, pc_one2, pc_Within, cRanks, beq_self_eq_true, bne_self_eq_false, List.replicate, List.set, wx, I, exec, resOf, reduceIte, reduceCtorEq, ne_eq, not_false_eq_true, Root.bx.injEq, Root.tm.injEq, Nat.reduceAdd, Nat.reduceBEq, Nat.reduceBNe, Nat.reduceEqDiff, Nat.reduceLT, Nat.reduceLeDiff, Nat.reduceMul, Nat.reduceSub, Int.reduceToNat, Int.reduceEq, Int.reduceBEq, Int.reduceBNe, Int.reduceLT, Int.reduceLE, if_true, if_false, Bool.false_eq_true, decide_true, decide_false, List.zipIdx_nil, bne_self_eq_false]
      · have hk : ckE p pre r = 2 := by simp [ckE, fst1, s1, s2, c2, unl]
        have e1 : ck1 p pre (r :: rest) = some ((pre.length : Int), 2) := by rw [ck1, hk]; rfl
        rw [e1]
        simp only [h0, hn, hn2, hy, hst, hfa, c1, c1b, c2, z2, z22, pc_one2, pc_Within, cRanks, beq_self_eq_true, List.replicate, List.set, wx, I, exec, resOf, reduceIte, reduceCtorEq, ne_eq, not_false_eq_true, Root.bx.injEq, Root.tm.injEq, Nat.reduceAdd, Nat.reduceBEq, Nat.reduceBNe, Nat.reduceEqDiff, Nat.reduceLT, Nat.reduceLeDiff, Nat.reduceMul, Nat.reduceSub, Int.reduceToNat, Int.reduceEq, Int.reduceBEq, Int.reduceBNe, Int.reduceLT, Int.reduceLE, if_true, if_false, Bool.false_eq_true, decide_true, decide_false, List.zipIdx_nil, bne_self_eq_false]
    · have c1b : (fst1 [stateE p r.st, faultE p r.ft] == 0) = false := by simpa using c1
      have c1c : (fst1 [stateE p r.st, faultE p r.ft] != 0) = true := by simpa using c1
      have hk : ckE p pre r = fst1 [stateE p r.st, faultE p r.ft] := by
        simp only [ckE, fst1] at c1 ⊢
        by_cases h1 : stateE p r.st = 0 <;> by_cases h2 : faultE p r.ft = 0 <;> simp [h1, h2] at c1 ⊢
      have e1 : ck1 p pre (r :: rest) = some ((pre.length : Int), fst1 [stateE p r.st, faultE p r.ft]) := by rw [ck1, hk, if_neg c1]
      rw [e1]
      simp only [h0, hn, hn2, hy, hst, hfa, c1b, c1c, pc_one2, cRanks, List.replicate, List.set, wx, I, exec, resOf, reduceIte, reduceCtorEq, ne_eq, not_false_eq_true, Root.bx.injEq, Root.tm.injEq, Nat.reduceAdd, Nat.reduceBEq, Nat.reduceBNe, Nat.reduceEqDiff, Nat.reduceLT, Nat.reduceLeDiff, Nat.reduceMul, Nat.reduceSub, Int.reduceToNat, Int.reduceEq, Int.reduceBEq, Int.reduceBNe, Int.reduceLT, Int.reduceLE, if_true, if_false, Bool.false_eq_true, decide_true, decide_false, List.zipIdx_nil, bne_self_eq_false]

end Go.ViD
end
section
/- Ranks: the second check, and all. -/
set_option linter.unusedSimpArgs false
set_option linter.unusedVariables false
namespace Go.ViD
open Go.Vi

def rkE (p : Plan) (l : List Rank) (r : Rank) : Int := match p.steps[r.st.step.toNat]? with
  | some x => rankI p x l r
  | none => 0

theorem rkE_at {p : Plan} {l : List Rank} {r : Rank} {x : Step} (hx : p.steps[r.st.step.toNat]? = some x) : rkE p l r = rankI p x l r := by unfold rkE; rw [hx]

/-- The first rank with an error among all. -/
def ck2 (p : Plan) (l : List Rank) : Nat → List Rank → Option (Int × Int)
  | _, [] => none
  | i, r :: rest => if rkE p l r = 0 then ck2 p l (i + 1) rest else some ((i : Int), rkE p l r)

abbrev okR (p : Plan) (r : Rank) : Prop := stateE p r.st = 0 ∧ faultE p r.ft = 0

theorem exits_ge {p : Plan} (hp : OkP p) {x : Step} (hx : x ∈ p.steps) (hm : x.wait ≠ 0 → x.exits = []) : ∀ c ∈ x.exits, -1 ≤ c := by
  intro c hc
  by_cases hw : x.wait = 0
  · have := (hp.st x hx).exits hw c hc
    have := this.1
    omega
  · rw [hm hw] at hc; cases hc

section
variable (p : Plan) (hfew : few p = true) (c0 : (planE p).2 = 0) (l : List Rank) (hl : l.length ≤ 10000) (hd : Dist l) (hok : ∀ r ∈ l, okR p r) (hm : ∀ x ∈ p.steps, x.wait ≠ 0 → x.exits = [])
include hfew c0 hl hd hok

theorem loop64b {t : List Todo} {k : Ex → St → Option V} :
    ∀ (rest : List Rank) (i : Nat) (ow : Own), i + rest.length = l.length → l.drop i = rest → U (pc E) (.c (.loop f64l1) :: t) .normal ⟨[(6, .loc 6 0), (8, .mp ow (mapR l)), (92, .sl .s 5 (cRanks l)), (93, I l.length), (94, I i)], [(6, false, cPlan p)]⟩ k =
      match ck2 p l i rest with
      | some e => endK k e
      | none => U (pc E) t (.exit 2) ⟨[], []⟩ k
  | [], i, ow, hi, hdr => by
    rw [U_loop' f64l1.eq_1]
    simp only [List.length_nil] at hi
    have h0 : ¬ ((i : Int) < (l.length : Int)) := by omega
    simp only [h0, ck2, wx, I, exec, resOf, reduceIte, reduceCtorEq, ne_eq, not_false_eq_true, Root.bx.injEq, Root.tm.injEq, Nat.reduceAdd, Nat.reduceBEq, Nat.reduceBNe, Nat.reduceEqDiff, Nat.reduceLT, Nat.reduceLeDiff, Nat.reduceMul, Nat.reduceSub, Int.reduceToNat, Int.reduceEq, Int.reduceBEq, Int.reduceBNe, Int.reduceLT, Int.reduceLE, if_true, if_false, Bool.false_eq_true, decide_true, decide_false, List.zipIdx_nil, bne_self_eq_false]
  | r :: rest, i, ow, hi, hdr => by
    rw [U_loop' f64l1.eq_1]
    simp only [List.length_cons] at hi
    have h0 : ((i : Int) < (l.length : Int)) := by omega
    have hn : (0 : Int) ≤ (i : Int) := by omega
    have hy : l[i]? = some r := by
      have := congrArg (·[0]?) hdr
      simpa using this
    have hdr' : l.drop (i + 1) = rest := by
      have := congrArg (List.drop 1) hdr
      simpa [List.drop_drop] using this
    have hw := wrap_succ (i := i) (by omega)
    obtain ⟨v1, v2⟩ := hok r (List.mem_of_getElem? hy)
    have ⟨w1, w2⟩ := okS_of v1
    obtain ⟨x, hx⟩ := step_at w1
    obtain ⟨-, -, -, f4⟩ := few_get hfew
    have hxl := (f4 x (List.mem_of_getElem? hx)).2
    have hrk := pc_rankErr p hfew (okP_of c0) l hd r w1.1 x hx (by omega)
    rw [← rkE_at hx] at hrk
    have ih := loop64b (t := t) (k := k) rest (i + 1) .s (by omega) hdr'
    simp only [cRank, cRanks] at ih hrk
    by_cases hc : rkE p l r = 0
    · have e1 : ck2 p l i (r :: rest) = ck2 p l (i + 1) rest := by rw [ck2, if_pos hc]
      rw [e1]
      rw [hc] at hrk
      simp only [h0, hn, hy, hw, hrk, ih, low_ms, cRanks, cRank, List.replicate, List.set, bne_self_eq_false, wx, I, exec, resOf, reduceIte, reduceCtorEq, ne_eq, not_false_eq_true, Root.bx.injEq, Root.tm.injEq, Nat.reduceAdd, Nat.reduceBEq, Nat.reduceBNe, Nat.reduceEqDiff, Nat.reduceLT, Nat.reduceLeDiff, Nat.reduceMul, Nat.reduceSub, Int.reduceToNat, Int.reduceEq, Int.reduceBEq, Int.reduceBNe, Int.reduceLT, Int.reduceLE, if_true, if_false, Bool.false_eq_true, decide_true, decide_false, List.zipIdx_nil, bne_self_eq_false]
    · have e1 : ck2 p l i (r :: rest) = some ((i : Int), rkE p l r) := by rw [ck2, if_neg hc]
      have hcb : (rkE p l r != 0) = true := by simpa using hc
      rw [e1]
      simp only [h0, hn, hy, hrk, hcb, low_ms, cRanks, cRank, List.replicate, List.set, wx, I, exec, resOf, reduceIte, reduceCtorEq, ne_eq, not_false_eq_true, Root.bx.injEq, Root.tm.injEq, Nat.reduceAdd, Nat.reduceBEq, Nat.reduceBNe, Nat.reduceEqDiff, Nat.reduceLT, Nat.reduceLeDiff, Nat.reduceMul, Nat.reduceSub, Int.reduceToNat, Int.reduceEq, Int.reduceBEq, Int.reduceBNe, Int.reduceLT, Int.reduceLE, if_true, if_false, Bool.false_eq_true, decide_true, decide_false, List.zipIdx_nil, bne_self_eq_false]

omit hd in
include hm in
theorem loop66b {t : List Todo} {k : Ex → St → Option V} :
    ∀ (rest : List Rank) (i : Nat), i + rest.length = l.length → l.drop i = rest → U (pc E) (.c (.loop f66l1) :: t) .normal ⟨[(1, .sl .s 5 (cRanks l)), (2, .loc 2 0), (8, I i)], [(2, false, cPlan p)]⟩ k =
      match ck2 p l i rest with
      | some e => endK k e
      | none => U (pc E) t (.exit 2) ⟨[], []⟩ k
  | [], i, hi, hdr => by
    rw [U_loop' f66l1.eq_1]
    simp only [List.length_nil] at hi
    have h0 : ¬ ((i : Int) < (l.length : Int)) := by omega
    simp only [h0, ck2, cRanks, wx, I, exec, resOf, reduceIte, reduceCtorEq, ne_eq, not_false_eq_true, Root.bx.injEq, Root.tm.injEq, Nat.reduceAdd, Nat.reduceBEq, Nat.reduceBNe, Nat.reduceEqDiff, Nat.reduceLT, Nat.reduceLeDiff, Nat.reduceMul, Nat.reduceSub, Int.reduceToNat, Int.reduceEq, Int.reduceBEq, Int.reduceBNe, Int.reduceLT, Int.reduceLE, if_true, if_false, Bool.false_eq_true, decide_true, decide_false, List.zipIdx_nil, bne_self_eq_false]
  | r :: rest, i, hi, hdr => by
    rw [U_loop' f66l1.eq_1]
    simp only [List.length_cons] at hi
    have h0 : ((i : Int) < (l.length : Int)) := by omega
    have hn : (0 : Int) ≤ (i : Int) := by omega
    have hy : l[i]? = some r := by
      have := congrArg (·[0]?) hdr
      simpa using this
    have hdr' : l.drop (i + 1) = rest := by
      have := congrArg (List.drop 1) hdr
      simpa [List.drop_drop] using this
    have hw := wrap_succ (i := i) (by omega)
    obtain ⟨v1, v2⟩ := hok r (List.mem_of_getElem? hy)
    have ⟨w1, w2⟩ := okS_of v1
    have w3 := (okF_of v2).2
    obtain ⟨x, hx⟩ := step_at w1
    have hxm := List.mem_of_getElem? hx
    obtain ⟨-, -, -, f4⟩ := few_get hfew
    have hxl := (f4 x hxm).2
    have hrk := pc_rankErrR p hfew (okP_of c0) l hl r w1.1 x hx w2 w3 (by omega) (exits_ge (okP_of c0) hxm (hm x hxm))
    rw [← rkE_at hx] at hrk
    have ih := loop66b (t := t) (k := k) rest (i + 1) (by omega) hdr'
    simp only [cRank, cRanks] at ih hrk
    by_cases hc : rkE p l r = 0
    · have e1 : ck2 p l i (r :: rest) = ck2 p l (i + 1) rest := by rw [ck2, if_pos hc]
      rw [e1]
      rw [hc] at hrk
      simp only [h0, hn, hy, hw, hrk, ih, cRanks, cRank, List.replicate, List.set, bne_self_eq_false, wx, I, exec, resOf, reduceIte, reduceCtorEq, ne_eq, not_false_eq_true, Root.bx.injEq, Root.tm.injEq, Nat.reduceAdd, Nat.reduceBEq, Nat.reduceBNe, Nat.reduceEqDiff, Nat.reduceLT, Nat.reduceLeDiff, Nat.reduceMul, Nat.reduceSub, Int.reduceToNat, Int.reduceEq, Int.reduceBEq, Int.reduceBNe, Int.reduceLT, Int.reduceLE, if_true, if_false, Bool.false_eq_true, decide_true, decide_false, List.zipIdx_nil, bne_self_eq_false]
    · have e1 : ck2 p l i (r :: rest) = some ((i : Int), rkE p l r) := by rw [ck2, if_neg hc]
      have hcb : (rkE p l r != 0) = true := by simpa using hc
      rw [e1]
      simp only [h0, hn, hy, hrk, hcb, cRanks, cRank, List.replicate, List.set, wx, I, exec, resOf, reduceIte, reduceCtorEq, ne_eq, not_false_eq_true, Root.bx.injEq, Root.tm.injEq, Nat.reduceAdd, Nat.reduceBEq, Nat.reduceBNe, Nat.reduceEqDiff, Nat.reduceLT, Nat.reduceLeDiff, Nat.reduceMul, Nat.reduceSub, Int.reduceToNat, Int.reduceEq, Int.reduceBEq, Int.reduceBNe, Int.reduceLT, Int.reduceLE, if_true, if_false, Bool.false_eq_true, decide_true, decide_false, List.zipIdx_nil, bne_self_eq_false]

end

/-- What becomes of ranks for a valid plan. -/
def ckAll (p : Plan) (l : List Rank) : Int × Int := match ck1 p [] l with
  | some e => e
  | none => if (findR l ⟨0, p.start⟩ ⟨-1, false⟩).isSome then (match ck2 p l 0 l with
    | some e => e
    | none => (0, 0)) else (0, 14)

def ranksI (p : Plan) (l : List Rank) : Int × Int := if (planE p).2 = 0 then (if (l.length : Int) ≤ 4000 then ckAll p l else (0, 8)) else (0, (planE p).2)

theorem mapR_nil : mapR [] = [] := rfl

set_option maxHeartbeats 4000000 in
theorem pc_checkRanks (p : Plan) (hfew : few p = true) (l : List Rank) (hl : l.length ≤ 10000) : pc E 64 [.agg (cPlan p), .sl .s 5 (cRanks l)] = some (.tup [I (ranksI p l).1, I (ranksI p l).2]) := by
  refine pc_code (mf := f64) rfl ?_
  rw [runF_U rfl]
  have ho := pc_open p hfew
  unfold ranksI
  by_cases c0 : (planE p).2 = 0
  · rw [c0] at ho
    by_cases c1 : (l.length : Int) ≤ 4000
    · have hf : fst1 [0, unl true 8] = 0 := rfl
      have h1 := fun t k => loop64a p hfew l hl (t := t) (k := k) l [] rfl List.Pairwise.nil
      simp only [mapR_nil, cRanks, List.length_nil, Int.cast_ofNat_Int] at h1
      simp only [f64, c0, c1, if_true, ho, hf, pc_unless, pc_first2, h1, cRanks, List.replicate, List.set, bne_self_eq_false, wx, I, exec, resOf, reduceIte, reduceCtorEq, ne_eq, not_false_eq_true, Root.bx.injEq, Root.tm.injEq, Nat.reduceAdd, Nat.reduceBEq, Nat.reduceBNe, Nat.reduceEqDiff, Nat.reduceLT, Nat.reduceLeDiff, Nat.reduceMul, Nat.reduceSub, Int.reduceToNat, Int.reduceEq, Int.reduceBEq, Int.reduceBNe, Int.reduceLT, Int.reduceLE, if_true, if_false, Bool.false_eq_true, decide_true, decide_false, List.zipIdx_nil, bne_self_eq_false]
      unfold ckAll
      cases hc : ck1 p [] l with
      | some e =>
        simp only [hc, endK, wx, I, exec, resOf, reduceIte, reduceCtorEq, ne_eq, not_false_eq_true, Root.bx.injEq, Root.tm.injEq, Nat.reduceAdd, Nat.reduceBEq, Nat.reduceBNe, Nat.reduceEqDiff, Nat.reduceLT, Nat.reduceLeDiff, Nat.reduceMul, Nat.reduceSub, Int.reduceToNat, Int.reduceEq, Int.reduceBEq, Int.reduceBNe, Int.reduceLT, Int.reduceLE, if_true, if_false, Bool.false_eq_true, decide_true, decide_false, List.zipIdx_nil, bne_self_eq_false]
      | none =>
        obtain ⟨hd, hok⟩ := ck1_ok l [] hc List.Pairwise.nil (by intro r hr; cases hr)
        rw [List.nil_append] at hd hok
        have hlk := look_r ⟨0, p.start⟩ ⟨-1, false⟩ l hd
        have hft := fits_place ⟨0, p.start⟩ ⟨-1, false⟩
        have h2 := fun t k ow => loop64b p hfew c0 l hl hd hok (t := t) (k := k) l 0 ow (by omega) rfl
        simp only [cRanks, Int.cast_ofNat_Int] at h2
        rcases findR_cases (findR l ⟨0, p.start⟩ ⟨-1, false⟩) with ⟨r', hq⟩ | hq
        · simp only [hq, Option.map_some, keyP] at hlk hft
          simp only [hlk, hft, hq, h2, glob0, Option.isSome_some, List.replicate, List.set, wx, I, exec, resOf, reduceIte, reduceCtorEq, ne_eq, not_false_eq_true, Root.bx.injEq, Root.tm.injEq, Nat.reduceAdd, Nat.reduceBEq, Nat.reduceBNe, Nat.reduceEqDiff, Nat.reduceLT, Nat.reduceLeDiff, Nat.reduceMul, Nat.reduceSub, Int.reduceToNat, Int.reduceEq, Int.reduceBEq, Int.reduceBNe, Int.reduceLT, Int.reduceLE, if_true, if_false, Bool.false_eq_true, decide_true, decide_false, List.zipIdx_nil, bne_self_eq_false]
          cases hc2 : ck2 p l 0 l with
          | some e => simp only [hc2, endK, wx, I, exec, resOf, reduceIte, reduceCtorEq, ne_eq, not_false_eq_true, Root.bx.injEq, Root.tm.injEq, Nat.reduceAdd, Nat.reduceBEq, Nat.reduceBNe, Nat.reduceEqDiff, Nat.reduceLT, Nat.reduceLeDiff, Nat.reduceMul, Nat.reduceSub, Int.reduceToNat, Int.reduceEq, Int.reduceBEq, Int.reduceBNe, Int.reduceLT, Int.reduceLE, if_true, if_false, Bool.false_eq_true, decide_true, decide_false, List.zipIdx_nil, bne_self_eq_false]
          | none => simp only [hc2, wx, I, exec, resOf, reduceIte, reduceCtorEq, ne_eq, not_false_eq_true, Root.bx.injEq, Root.tm.injEq, Nat.reduceAdd, Nat.reduceBEq, Nat.reduceBNe, Nat.reduceEqDiff, Nat.reduceLT, Nat.reduceLeDiff, Nat.reduceMul, Nat.reduceSub, Int.reduceToNat, Int.reduceEq, Int.reduceBEq, Int.reduceBNe, Int.reduceLT, Int.reduceLE, if_true, if_false, Bool.false_eq_true, decide_true, decide_false, List.zipIdx_nil, bne_self_eq_false]
        · simp only [hq, Option.map_none, keyP] at hlk hft
          simp only [hlk, hft, hq, glob0, Option.isSome_none, List.replicate, List.set, wx, I, exec, resOf, reduceIte, reduceCtorEq, ne_eq, not_false_eq_true, Root.bx.injEq, Root.tm.injEq, Nat.reduceAdd, Nat.reduceBEq, Nat.reduceBNe, Nat.reduceEqDiff, Nat.reduceLT, Nat.reduceLeDiff, Nat.reduceMul, Nat.reduceSub, Int.reduceToNat, Int.reduceEq, Int.reduceBEq, Int.reduceBNe, Int.reduceLT, Int.reduceLE, if_true, if_false, Bool.false_eq_true, decide_true, decide_false, List.zipIdx_nil, bne_self_eq_false]
    · have hf : fst1 [0, unl false 8] = 8 := rfl
      have hf2 : ((8 : Int) != 0) = true := rfl
      simp only [f64, c0, c1, if_true, if_false, ho, hf, hf2, pc_unless, pc_first2, cRanks, List.replicate, List.set, wx, I, exec, resOf, reduceIte, reduceCtorEq, ne_eq, not_false_eq_true, Root.bx.injEq, Root.tm.injEq, Nat.reduceAdd, Nat.reduceBEq, Nat.reduceBNe, Nat.reduceEqDiff, Nat.reduceLT, Nat.reduceLeDiff, Nat.reduceMul, Nat.reduceSub, Int.reduceToNat, Int.reduceEq, Int.reduceBEq, Int.reduceBNe, Int.reduceLT, Int.reduceLE, if_true, if_false, Bool.false_eq_true, decide_true, decide_false, List.zipIdx_nil, bne_self_eq_false]
  · have hf : ∀ b, fst1 [(planE p).2, unl b 8] = (planE p).2 := fun b => by simp only [fst1, if_neg c0]
    have hf2 : ((planE p).2 != 0) = true := by simpa using c0
    simp only [f64, c0, if_false, ho, hf, hf2, pc_unless, pc_first2, cRanks, List.replicate, List.set, wx, I, exec, resOf, reduceIte, reduceCtorEq, ne_eq, not_false_eq_true, Root.bx.injEq, Root.tm.injEq, Nat.reduceAdd, Nat.reduceBEq, Nat.reduceBNe, Nat.reduceEqDiff, Nat.reduceLT, Nat.reduceLeDiff, Nat.reduceMul, Nat.reduceSub, Int.reduceToNat, Int.reduceEq, Int.reduceBEq, Int.reduceBNe, Int.reduceLT, Int.reduceLE, if_true, if_false, Bool.false_eq_true, decide_true, decide_false, List.zipIdx_nil, bne_self_eq_false]

set_option maxHeartbeats 4000000 in
theorem pc_checkRanksR (p : Plan) (hfew : few p = true) (c0 : (planE p).2 = 0) (hm : ∀ x ∈ p.steps, x.wait ≠ 0 → x.exits = []) (l : List Rank) (hl : l.length ≤ 10000) : pc E 66 [.agg (cPlan p), .sl .s 5 (cRanks l)] = some (.tup [I (ranksI p l).1, I (ranksI p l).2]) := by
  refine pc_code (mf := f66) rfl ?_
  rw [runF_U rfl]
  unfold ranksI
  rw [if_pos c0]
  by_cases c1 : (l.length : Int) ≤ 4000
  · have c2 : ¬ (4000 : Int) < (l.length : Int) := by omega
    have h1 := fun t k => loop66a p hfew l hl (t := t) (k := k) l [] rfl
    simp only [cRanks, List.length_nil, Int.cast_ofNat_Int] at h1
    simp only [f66, c1, c2, if_true, h1, cRanks, List.replicate, List.set, wx, I, exec, resOf, reduceIte, reduceCtorEq, ne_eq, not_false_eq_true, Root.bx.injEq, Root.tm.injEq, Nat.reduceAdd, Nat.reduceBEq, Nat.reduceBNe, Nat.reduceEqDiff, Nat.reduceLT, Nat.reduceLeDiff, Nat.reduceMul, Nat.reduceSub, Int.reduceToNat, Int.reduceEq, Int.reduceBEq, Int.reduceBNe, Int.reduceLT, Int.reduceLE, if_true, if_false, Bool.false_eq_true, decide_true, decide_false, List.zipIdx_nil, bne_self_eq_false]
    unfold ckAll
    cases hc : ck1 p [] l with
    | some e =>
      simp only [hc, endK, wx, I, exec, resOf, reduceIte, reduceCtorEq, ne_eq, not_false_eq_true, Root.bx.injEq, Root.tm.injEq, Nat.reduceAdd, Nat.reduceBEq, Nat.reduceBNe, Nat.reduceEqDiff, Nat.reduceLT, Nat.reduceLeDiff, Nat.reduceMul, Nat.reduceSub, Int.reduceToNat, Int.reduceEq, Int.reduceBEq, Int.reduceBNe, Int.reduceLT, Int.reduceLE, if_true, if_false, Bool.false_eq_true, decide_true, decide_false, List.zipIdx_nil, bne_self_eq_false]
    | none =>
      obtain ⟨hd, hok⟩ := ck1_ok l [] hc List.Pairwise.nil (by intro r hr; cases hr)
      rw [List.nil_append] at hd hok
      have hfd := pc_find l hl ⟨0, p.start⟩ ⟨-1, false⟩
      have hpn := posR_neg l ⟨0, p.start⟩ ⟨-1, false⟩ 0
      have h2 := fun t k => loop66b p hfew c0 l hl hok hm (t := t) (k := k) l 0 (by omega) rfl
      simp only [cRanks, cState, cFault, Int.cast_ofNat_Int] at h2 hfd
      rcases findR_cases (findR l ⟨0, p.start⟩ ⟨-1, false⟩) with ⟨r', hq⟩ | hq
      · rw [hq] at hpn
        have hp0 := of_decide_eq_false hpn
        simp only [hfd, hp0, hq, h2, pc_none, Option.isSome_some, List.replicate, List.set, wx, I, exec, resOf, reduceIte, reduceCtorEq, ne_eq, not_false_eq_true, Root.bx.injEq, Root.tm.injEq, Nat.reduceAdd, Nat.reduceBEq, Nat.reduceBNe, Nat.reduceEqDiff, Nat.reduceLT, Nat.reduceLeDiff, Nat.reduceMul, Nat.reduceSub, Int.reduceToNat, Int.reduceEq, Int.reduceBEq, Int.reduceBNe, Int.reduceLT, Int.reduceLE, if_true, if_false, Bool.false_eq_true, decide_true, decide_false, List.zipIdx_nil, bne_self_eq_false]
        cases hc2 : ck2 p l 0 l with
        | some e => simp only [hc2, endK, wx, I, exec, resOf, reduceIte, reduceCtorEq, ne_eq, not_false_eq_true, Root.bx.injEq, Root.tm.injEq, Nat.reduceAdd, Nat.reduceBEq, Nat.reduceBNe, Nat.reduceEqDiff, Nat.reduceLT, Nat.reduceLeDiff, Nat.reduceMul, Nat.reduceSub, Int.reduceToNat, Int.reduceEq, Int.reduceBEq, Int.reduceBNe, Int.reduceLT, Int.reduceLE, if_true, if_false, Bool.false_eq_true, decide_true, decide_false, List.zipIdx_nil, bne_self_eq_false]
        | none => simp only [hc2, wx, I, exec, resOf, reduceIte, reduceCtorEq, ne_eq, not_false_eq_true, Root.bx.injEq, Root.tm.injEq, Nat.reduceAdd, Nat.reduceBEq, Nat.reduceBNe, Nat.reduceEqDiff, Nat.reduceLT, Nat.reduceLeDiff, Nat.reduceMul, Nat.reduceSub, Int.reduceToNat, Int.reduceEq, Int.reduceBEq, Int.reduceBNe, Int.reduceLT, Int.reduceLE, if_true, if_false, Bool.false_eq_true, decide_true, decide_false, List.zipIdx_nil, bne_self_eq_false]
      · rw [hq] at hpn
        have hp0 := of_decide_eq_true hpn
        simp only [hfd, hp0, hq, pc_none, Option.isSome_none, List.replicate, List.set, wx, I, exec, resOf, reduceIte, reduceCtorEq, ne_eq, not_false_eq_true, Root.bx.injEq, Root.tm.injEq, Nat.reduceAdd, Nat.reduceBEq, Nat.reduceBNe, Nat.reduceEqDiff, Nat.reduceLT, Nat.reduceLeDiff, Nat.reduceMul, Nat.reduceSub, Int.reduceToNat, Int.reduceEq, Int.reduceBEq, Int.reduceBNe, Int.reduceLT, Int.reduceLE, if_true, if_false, Bool.false_eq_true, decide_true, decide_false, List.zipIdx_nil, bne_self_eq_false]
  · have c2 : (4000 : Int) < (l.length : Int) := by omega
    simp only [f66, c1, c2, if_false, cRanks, List.replicate, List.set, wx, I, exec, resOf, reduceIte, reduceCtorEq, ne_eq, not_false_eq_true, Root.bx.injEq, Root.tm.injEq, Nat.reduceAdd, Nat.reduceBEq, Nat.reduceBNe, Nat.reduceEqDiff, Nat.reduceLT, Nat.reduceLeDiff, Nat.reduceMul, Nat.reduceSub, Int.reduceToNat, Int.reduceEq, Int.reduceBEq, Int.reduceBNe, Int.reduceLT, Int.reduceLE, if_true, if_false, Bool.false_eq_true, decide_true, decide_false, List.zipIdx_nil, bne_self_eq_false]

end Go.ViD
end
