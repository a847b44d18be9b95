/- SequenceNoFaster: what it answers. -/
import Derived.Test.YtomimhedehecdaaDoorViWays
import Derived.Test.YtomimhedehecdaaDoorViWaysG
set_option linter.unusedSimpArgs false
set_option linter.unusedVariables false
namespace Go.ViD
open Go.Vi

theorem runI_bad {p : Plan} {f : Fault} {x : Step} {s : State} {cs : List Int} (h : (runI p f x s cs).2.2 ≠ 0) : (runI p f x s cs).1 = [] := by
  unfold runI at h ⊢
  split at h
  · rename_i h1
    rw [if_pos h1]
    split at h
    · rename_i h2; exact absurd h2 h
    · rename_i h2; rw [if_neg h2]
  · rename_i h1; rw [if_neg h1]

theorem all_unique {p : Plan} (hp : OkP p) {s : State} (hs : goodS p s) {n : Nat} (hn : n ≤ 100) {e e' : State} {cs : List Int} {t t' : Int} (h : allQ (exP p) (extP p) s n e ⟨cs, t⟩) (h' : allQ (exP p) (extP p) s n e' ⟨cs, t'⟩) : e = e' ∧ t = t' := by
  obtain ⟨o, h1, -⟩ := all_wayG hp hs n hn e _ h
  obtain ⟨o', h2, -⟩ := all_wayG hp hs n hn e' _ h'
  simp only at h1 h2
  rw [h1] at h2
  simp only [Option.some.injEq, Prod.mk.injEq] at h2
  exact ⟨h2.2.2, h2.2.1⟩

theorem best_some {p : Plan} (hp : OkP p) {s : State} (hs : goodS p s) {to : Int} (N : Nat) {b : Way} (hb : bestN p s to N = some b) :
    (∃ n, n < N ∧ ∃ e, e.step = to ∧ allQ (exP p) (extP p) s n e b) ∧ ∀ n e u, n < N → e.step = to → allQ (exP p) (extP p) s n e u → ¬ lt3 u b := by
  have hl := best_least hp hs to N
  rw [hb] at hl
  exact ⟨hl.1, fun n e u h1 h2 h3 => hl.2 u ⟨n, h1, e, h2, h3⟩⟩

theorem best_none {p : Plan} (hp : OkP p) {s : State} (hs : goodS p s) {to : Int} (N : Nat) (hb : bestN p s to N = none) : ∀ n e u, n < N → e.step = to → ¬ allQ (exP p) (extP p) s n e u := by
  have hl := best_least hp hs to N
  rw [hb] at hl
  exact fun n e u h1 h2 h3 => hl u ⟨n, h1, e, h2, h3⟩

/-- The run of the fastest way. -/
theorem best_run {p : Plan} (hp : OkP p) {s : State} (hs : goodS p s) {x : Step} (hx : p.steps[s.step.toNat]? = some x) {to : Int} {b : Way} (hb : bestN p s to 11 = some b) :
    b.cs.length ≤ 10 ∧ 0 ≤ b.tm ∧ b.tm ≤ 44000000 ∧ (runI p noF x s b.cs).2.2 = 0 ∧ (runI p noF x s b.cs).2.1 = b.tm ∧ (endOf s (runI p noF x s b.cs).1).step = to ∧ goodS p (endOf s (runI p noF x s b.cs).1) ∧ ((runI p noF x s b.cs).1 = [] ↔ b.cs = []) ∧
      allQ (exP p) (extP p) s b.cs.length (endOf s (runI p noF x s b.cs).1) b := by
  obtain ⟨⟨n, hn, e, he, hq⟩, -⟩ := best_some hp hs 11 hb
  obtain ⟨g1, g2, g3, g4⟩ := all_good (exP p) (extP p) s (goodS p) hs 4000000 (by omega) (fun e c r he hc hr => ext_ok hp he hc hr) n e b hq
  have hl10 : b.cs.length ≤ 10 := by omega
  rcases run_cases hp hs hx b.cs hl10 with ⟨e', k1, k2, k3, k4⟩ | ⟨k1, k2⟩
  · rw [g2] at k2
    obtain ⟨u1, u2⟩ := all_unique hp hs (by omega) (t := b.tm) hq k2
    subst u1
    have g5 : allQ (exP p) (extP p) s b.cs.length (endOf s (runI p noF x s b.cs).1) b := by rw [k3, g2]; exact hq
    exact ⟨hl10, g3, by omega, k1, u2.symm, by rw [k3]; exact he, by rw [k3]; exact g1, k4, g5⟩
  · rw [g2] at k2
    exact absurd hq (k2 e b.tm)

theorem endOf_last (s : State) (O : List State) (h : O ≠ []) : O[O.length - 1]? = some (endOf s O) := by
  unfold endOf
  rw [← List.getLast?_eq_getElem?]
  cases hg : O.getLast? with
  | none => rw [List.getLast?_eq_none_iff] at hg; exact absurd hg h
  | some e => rfl

end Go.ViD
