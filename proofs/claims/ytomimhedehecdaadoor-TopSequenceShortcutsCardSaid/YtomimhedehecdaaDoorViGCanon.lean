import Derived.Test.YtomimhedehecdaaDoorViGHomes
section
/- Maps of states in order: one list for one map. -/
set_option linter.unusedSimpArgs false
set_option linter.unusedVariables false
namespace Go.ViD
open Go.Vi

def ltS (a b : State) : Prop := a.step < b.step ∨ (a.step = b.step ∧ a.signals < b.signals)

theorem kless_state (a b : State) : kless (.agg (cState a)) (.agg (cState b)) = true ↔ ltS a b := by
  simp only [kless, flat, kless1, ltS]
  by_cases h1 : a.step < b.step
  · simp [h1]
  · rw [if_neg h1]
    by_cases h2 : b.step < a.step
    · rw [if_pos h2]; simp; omega
    · rw [if_neg h2]
      by_cases h3 : a.signals < b.signals
      · rw [if_pos h3]; simp; omega
      · rw [if_neg h3]
        split <;> simp <;> omega

theorem ltS_irrefl (a : State) : ¬ ltS a a := by unfold ltS; omega
theorem ltS_trans {a b c : State} (h1 : ltS a b) (h2 : ltS b c) : ltS a c := by unfold ltS at *; omega
theorem ltS_total {a b : State} (h : a ≠ b) : ltS a b ∨ ltS b a := by
  obtain ⟨a1, a2⟩ := a
  obtain ⟨b1, b2⟩ := b
  unfold ltS
  have : ¬ (a1 = b1 ∧ a2 = b2) := fun h' => h (by rw [h'.1, h'.2])
  simp only
  omega

/-- Entries in strict order of their states. -/
def Sorted {α : Type} (l : List (State × α)) : Prop := l.Pairwise fun x y => ltS x.1 y.1

/-- Two lists in order with the same entries are the same. -/
theorem sorted_ext {α : Type} : ∀ (l l' : List (State × α)), Sorted l → Sorted l' → (∀ x, x ∈ l ↔ x ∈ l') → l = l'
  | [], [], _, _, _ => rfl
  | [], y :: l', _, _, h => by have := (h y).2 (by simp); simp at this
  | x :: l, [], _, _, h => by have := (h x).1 (by simp); simp at this
  | x :: l, y :: l', h1, h2, h => by
    have a := List.pairwise_cons.1 h1
    have b := List.pairwise_cons.1 h2
    have hxy : x = y := by
      have hx := (h x).1 (by simp)
      have hy := (h y).2 (by simp)
      rcases List.mem_cons.1 hx with e | hx
      · exact e
      · rcases List.mem_cons.1 hy with e | hy
        · exact e.symm
        · exact absurd (ltS_trans (a.1 y hy) (b.1 x hx)) (ltS_irrefl _)
    subst hxy
    rw [sorted_ext l l' a.2 b.2 fun z => ?_]
    constructor
    · intro hz
      rcases List.mem_cons.1 ((h z).1 (List.mem_cons_of_mem _ hz)) with e | hz'
      · subst e; exact absurd (a.1 z hz) (ltS_irrefl _)
      · exact hz'
    · intro hz
      rcases List.mem_cons.1 ((h z).2 (List.mem_cons_of_mem _ hz)) with e | hz'
      · subst e; exact absurd (b.1 z hz) (ltS_irrefl _)
      · exact hz'

/-- An entry put into its place. -/
def insS {α : Type} (x : State × α) : List (State × α) → List (State × α)
  | [] => [x]
  | y :: l => if kless (.agg (cState x.1)) (.agg (cState y.1)) then x :: y :: l else y :: insS x l

theorem mem_insS {α : Type} (x z : State × α) : ∀ l : List (State × α), z ∈ insS x l ↔ z = x ∨ z ∈ l
  | [] => by simp [insS]
  | y :: l => by
    unfold insS
    split
    · simp
    · simp only [List.mem_cons, mem_insS x z l]
      constructor
      · rintro (h | h | h) <;> simp [h]
      · rintro (h | h | h) <;> simp [h]

theorem sorted_insS {α : Type} (x : State × α) : ∀ l : List (State × α), Sorted l → (∀ y ∈ l, y.1 ≠ x.1) → Sorted (insS x l)
  | [], _, _ => by simp [insS, Sorted]
  | y :: l, h, hne => by
    have a := List.pairwise_cons.1 h
    unfold insS
    by_cases hk : kless (.agg (cState x.1)) (.agg (cState y.1)) = true
    · rw [if_pos hk]
      have hl := (kless_state x.1 y.1).1 hk
      refine List.pairwise_cons.2 ⟨fun z hz => ?_, h⟩
      rcases List.mem_cons.1 hz with rfl | hz
      · exact hl
      · exact ltS_trans hl (a.1 z hz)
    · rw [if_neg hk]
      refine List.pairwise_cons.2 ⟨fun z hz => ?_, sorted_insS x l a.2 fun z hz => hne z (List.mem_cons_of_mem _ hz)⟩
      rcases (mem_insS x z l).1 hz with rfl | hz
      · rcases ltS_total (hne y (by simp)) with h | h
        · exact h
        · exact absurd ((kless_state _ _).2 h) hk
      · exact a.1 z hz

end Go.ViD
end
section
/- Maps of states in order: look and set. -/
set_option linter.unusedSimpArgs false
set_option linter.unusedVariables false
namespace Go.ViD
open Go.Vi

section
variable {α : Type} (enc : α → V)

abbrev pairW (x : State × α) : V × V := (.agg (cState x.1), enc x.2)

theorem insK_map (x : State × α) : ∀ l : List (State × α), insK (pairW enc x) (l.map (pairW enc)) = (insS x l).map (pairW enc)
  | [] => rfl
  | y :: l => by
    rw [List.map_cons, insK, insS]
    split
    · rfl
    · rw [insK_map x l]; rfl

theorem fit_w (s : State) (l : List (State × α)) : allFit true ks2 (.agg (cState s)) (l.map (pairW enc)) = true := by
  simp only [allFit, List.all_eq_true]
  intro kv hkv
  obtain ⟨y, -, rfl⟩ := List.mem_map.1 hkv
  rw [leq_state]; rfl

/-- What a map has for a state. -/
def lookW (l : List (State × α)) (s : State) : Option α := match l with
  | [] => none
  | y :: l => if s = y.1 then some y.2 else lookW l s

theorem lookW_cons (y : State × α) (l : List (State × α)) (s : State) : lookW (y :: l) s = if s = y.1 then some y.2 else lookW l s := rfl

theorem lookW_none {s : State} : ∀ {l : List (State × α)}, (∀ y ∈ l, y.1 ≠ s) → lookW l s = none
  | [], _ => rfl
  | y :: l, h => by
    unfold lookW
    rw [if_neg fun e => h y (by simp) e.symm]
    exact lookW_none fun z hz => h z (List.mem_cons_of_mem _ hz)

theorem filt_w (s : State) : ∀ l : List (State × α), Sorted l → (l.map (pairW enc)).filter (hit true ks2 (.agg (cState s))) = match lookW l s with
    | some w => [pairW enc (s, w)]
    | none => []
  | [], _ => rfl
  | y :: l, h => by
    have a := List.pairwise_cons.1 h
    have ih := filt_w s l a.2
    rw [List.map_cons, List.filter_cons, ih]
    rw [lookW_cons]
    simp only [pairW, hit_state]
    by_cases hy : s = y.1
    · have hn : lookW l s = none := lookW_none fun z hz e => by
        have := a.1 z hz
        rw [e, hy] at this
        exact ltS_irrefl _ this
      rw [if_pos (by simpa using hy), if_pos hy, hn]; simp only [hy]
    · rw [if_neg (by simpa using hy), if_neg hy]

theorem look_w (s : State) (l : List (State × α)) (h : Sorted l) : lookM true ks2 (.agg (cState s)) (l.map (pairW enc)) = some ((lookW l s).map enc) := by
  unfold lookM
  rw [if_pos (fit_w enc s l), filt_w enc s l h]
  cases lookW l s <;> rfl

/-- A map with a state set. -/
def setW (l : List (State × α)) (s : State) (w : α) : List (State × α) := match lookW l s with
  | none => insS (s, w) l
  | some _ => l.map fun x => if s = x.1 then (s, w) else x

theorem set_w (s : State) (w : α) (l : List (State × α)) (h : Sorted l) : setM true ks2 (.agg (cState s)) (enc w) (l.map (pairW enc)) = some ((setW l s w).map (pairW enc)) := by
  unfold setM
  rw [if_pos (fit_w enc s l), filt_w enc s l h]
  unfold setW
  cases lookW l s with
  | none => exact congrArg some (insK_map enc (s, w) l)
  | some u =>
    simp only [List.map_map]
    congr 1
    refine List.map_congr_left fun x hx => ?_
    simp only [Function.comp, pairW, hit_state]
    by_cases hx : s = x.1
    · rw [if_pos (by simpa using hx), if_pos hx]
    · rw [if_neg (by simpa using hx), if_neg hx]
end

end Go.ViD
end
section
/- Maps of states in order: laws of look and set. -/
set_option linter.unusedSimpArgs false
set_option linter.unusedVariables false
namespace Go.ViD
open Go.Vi
section
variable {α : Type}

theorem lookW_mem {l : List (State × α)} (h : Sorted l) (s : State) (w : α) : lookW l s = some w ↔ (s, w) ∈ l := by
  induction l with
  | nil => simp [lookW]
  | cons y l ih =>
    have a := List.pairwise_cons.1 h
    rw [lookW_cons]
    by_cases hy : s = y.1
    · rw [if_pos hy]
      constructor
      · intro e; cases e; rw [hy]; simp
      · intro hm
        rcases List.mem_cons.1 hm with e | hm
        · rw [← e]
        · have := a.1 _ hm
          simp only [hy] at this
          exact absurd this (ltS_irrefl _)
    · rw [if_neg hy, ih a.2]
      constructor
      · exact fun hm => List.mem_cons_of_mem _ hm
      · intro hm
        rcases List.mem_cons.1 hm with e | hm
        · exact absurd (by rw [← e]) hy
        · exact hm

/-- Two maps in order with the same look-ups are one list. -/
theorem look_ext {l l' : List (State × α)} (h : Sorted l) (h' : Sorted l') (he : ∀ s, lookW l s = lookW l' s) : l = l' :=
  sorted_ext l l' h h' fun x => by
    rw [← lookW_mem h x.1 x.2, ← lookW_mem h' x.1 x.2, he]

theorem lookW_none_ne {l : List (State × α)} (s : State) (h : lookW l s = none) : ∀ y ∈ l, y.1 ≠ s := by
  induction l with
  | nil => simp
  | cons y l ih =>
    rw [lookW_cons] at h
    by_cases hy : s = y.1
    · rw [if_pos hy] at h; cases h
    · rw [if_neg hy] at h
      intro z hz
      rcases List.mem_cons.1 hz with rfl | hz
      · exact fun e => hy e.symm
      · exact ih h z hz

theorem sorted_setW {l : List (State × α)} (h : Sorted l) (s : State) (w : α) : Sorted (setW l s w) := by
  unfold setW
  cases hl : lookW l s with
  | none => exact sorted_insS (s, w) l h (lookW_none_ne s hl)
  | some u =>
    simp only
    unfold Sorted at h ⊢
    rw [List.pairwise_map]
    refine h.imp fun {x y} hxy => ?_
    have e : ∀ z : State × α, (if s = z.1 then (s, w) else z).1 = z.1 := fun z => by
      split
      · rename_i e; exact e
      · rfl
    rw [e, e]; exact hxy

theorem lookW_insS (s t : State) (w : α) : ∀ l : List (State × α), Sorted l → (∀ y ∈ l, y.1 ≠ s) → lookW (insS (s, w) l) t = if t = s then some w else lookW l t := by
  intro l h hne
  have h2 := sorted_insS (s, w) l h hne
  by_cases ht : t = s
  · subst ht
    rw [if_pos rfl, lookW_mem h2, mem_insS]
    exact Or.inl rfl
  · rw [if_neg ht]
    cases hl : lookW l t with
    | none =>
      refine lookW_none fun y hy => ?_
      rcases (mem_insS (s, w) y l).1 hy with rfl | hy
      · exact fun e => ht e.symm
      · exact lookW_none_ne t hl y hy
    | some u =>
      rw [lookW_mem h2, mem_insS]
      exact Or.inr ((lookW_mem h t u).1 hl)

theorem lookW_map (s t : State) (w : α) : ∀ l : List (State × α), lookW (l.map fun x => if s = x.1 then (s, w) else x) t = if t = s then (lookW l t).map (fun _ => w) else lookW l t
  | [] => by simp [lookW]
  | y :: l => by
    rw [List.map_cons, lookW_cons, lookW_cons, lookW_map s t w l]
    by_cases h1 : s = y.1
    · rw [if_pos h1]
      by_cases h2 : t = s
      · have h3 : t = y.1 := h2.trans h1
        simp [h2, ← h1]
      · have h3 : ¬ t = y.1 := fun e => h2 (e.trans h1.symm)
        simp [h2, h3]
    · rw [if_neg h1]
      by_cases h2 : t = s
      · have h3 : ¬ t = y.1 := fun e => h1 (h2.symm.trans e)
        simp [h2, h1]
      · have h4 : ¬ y.1 = s := fun e => h1 e.symm
        by_cases h3 : t = y.1 <;> simp [h2, h3, h4]

theorem lookW_setW {l : List (State × α)} (h : Sorted l) (s t : State) (w : α) : lookW (setW l s w) t = if t = s then some w else lookW l t := by
  unfold setW
  cases hl : lookW l s with
  | none => exact lookW_insS s t w l h (lookW_none_ne s hl)
  | some u =>
    simp only
    rw [lookW_map]
    by_cases ht : t = s
    · subst ht; simp [hl]
    · simp [ht]

end
end Go.ViD
end
