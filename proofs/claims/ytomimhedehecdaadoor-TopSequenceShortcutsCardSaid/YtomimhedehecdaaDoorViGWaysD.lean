import Derived.Test.YtomimhedehecdaaDoorViGWaysC
import Derived.Test.YtomimhedehecdaaDoorViWays
section
/- The fastest way: ways and runs. -/
set_option linter.unusedSimpArgs false
set_option linter.unusedVariables false
namespace Go.ViD
open Go.Vi

/-- A run with the state in which it ends. -/
def wayG (p : Plan) : List Int → State → List State → Int → Option (List State × Int × State)
  | [], s, out, a => some (out, a, s)
  | c :: cs, s, out, a => match p.steps[s.step.toNat]? with
    | none => none
    | some x => if hasI x.exits c then (match settleL p noF (turnI x s noF c).1 with
        | some l => wayG p cs (endS (turnI x s noF c).1 l) (out ++ (turnI x s noF c).1 :: l) (accOf (nextT p noF) (turnI x s noF c).1 l (IntKind.i64.wrap (a + (turnI x s noF c).2)))
        | none => none) else none

theorem wayG_append (p : Plan) (ds : List Int) : ∀ (cs : List Int) (s : State) (out : List State) (a : Int), wayG p (cs ++ ds) s out a = (wayG p cs s out a).bind fun r => wayG p ds r.2.2 r.1 r.2.1
  | [], _, _, _ => rfl
  | c :: cs, s, out, a => by
    simp only [List.cons_append, wayG]
    split
    · rfl
    · split
      · split
        · exact wayG_append p ds cs _ _ _
        · rfl
      · rfl

theorem hasI_of_mem {l : List Int} {c : Int} (h : c ∈ l) : hasI l c = true := by
  unfold hasI; rw [List.any_eq_true]; exact ⟨c, h, by simp⟩

/-- One command. -/
theorem wayG_one {p : Plan} (hp : OkP p) {e : State} (he : goodS p e) (c : Int) (out : List State) (a : Int) (ha : 0 ≤ a) (ha2 : a ≤ 1000000000) :
    (∃ r l, c ∈ exP p e ∧ extP p e c = some r ∧ wayG p [c] e out a = some (out ++ l, a + r.2, r.1) ∧ l ≠ [] ∧ l.getLast? = some r.1) ∨ (wayG p [c] e out a = none ∧ ¬ (c ∈ exP p e ∧ extP p e c ≠ none)) := by
  obtain ⟨x, hx⟩ := step_at he.1.1
  have hst := he.2
  rw [steadyH_at hx] at hst
  have hxm := List.mem_of_getElem? hx
  simp only [wayG, hx]
  by_cases hc : c ∈ x.exits
  · have hcx := (hp.st x hxm).exits (by simpa using hst) c hc
    have ht := turnI_ok hp hxm he.1 (noF_lt p) (c := c) (Or.inr fun _ => hcx)
    rw [if_pos (hasI_of_mem hc)]
    cases hl : settleL p noF (turnI x e noF c).1 with
    | none =>
      refine Or.inr ⟨rfl, fun h => h.2 ?_⟩
      rw [extP_at hx]; unfold extX; rw [hl]; rfl
    | some l =>
      have hext : extP p e c = some (endS (turnI x e noF c).1 l, accOf (nextT p noF) (turnI x e noF c).1 l (turnI x e noF c).2) := by rw [extP_at hx]; unfold extX; rw [hl]; rfl
      have hok := ext_ok hp he (by rw [exP_at hx]; exact hc) hext
      refine Or.inl ⟨_, (turnI x e noF c).1 :: l, by rw [exP_at hx]; exact hc, hext, ?_, by simp, ?_⟩
      · have h1 := acc_wrap (nextT p noF) a l (turnI x e noF c).1 (turnI x e noF c).2 rfl fun _ => rfl
        simp only
        rw [← h1, wrap_id (by simp only at hok; omega) (by simp only at hok; omega)]
      · have h2 := endS_last l (turnI x e noF c).1
        rw [List.getLast?_eq_getElem?]
        simpa using h2
  · refine Or.inr ⟨?_, fun h => hc (by rw [exP_at hx] at h; exact h.1)⟩
    rw [if_neg fun h => hc (hasI_mem h)]

def endOf (s : State) (out : List State) : State := (out.getLast?).getD s

theorem endOf_app (s : State) (out l : List State) (e : State) (h : l.getLast? = some e) : endOf s (out ++ l) = e := by
  unfold endOf; rw [List.getLast?_append, h]; rfl

/-- Ways are runs. -/
theorem all_wayG {p : Plan} (hp : OkP p) {s : State} (hs : goodS p s) : ∀ (n : Nat) (hn : n ≤ 100) (e : State) (w : Way), allQ (exP p) (extP p) s n e w → ∃ out, wayG p w.cs s [] 0 = some (out, w.tm, e) ∧ endOf s out = e ∧ (out = [] ↔ w.cs = [])
  | 0, _, e, w, h => by obtain ⟨rfl, rfl⟩ := h; exact ⟨[], rfl, rfl, by simp⟩
  | n + 1, hn, e, w, ⟨e0, w0, c, r, h, hc, hr, h1, h2⟩ => by
    obtain ⟨out, i1, i2, i3⟩ := all_wayG hp hs n (by omega) e0 w0 h
    obtain ⟨g1, g2, g3, g4⟩ := all_good (exP p) (extP p) s (goodS p) hs 4000000 (by omega) (fun e c r he hc hr => ext_ok hp he hc hr) n e0 w0 h
    subst h1 h2
    rcases wayG_one hp g1 c out w0.tm g3 (by omega) with ⟨r', l, k1, k2, k3, k4, k5⟩ | ⟨k1, k2⟩
    · rw [hr] at k2
      cases k2
      refine ⟨out ++ l, ?_, endOf_app s out l r.1 k5, ?_⟩
      · simp only
        rw [wayG_append, i1]; exact k3
      · simp [k4]
    · exact absurd ⟨hc, by rw [hr]; simp⟩ k2

/-- Runs are ways. -/
theorem wayG_all {p : Plan} (hp : OkP p) {s : State} (hs : goodS p s) : ∀ (n : Nat) (hn : n ≤ 100) (cs : List Int), cs.length = n → ∀ r, wayG p cs s [] 0 = some r → allQ (exP p) (extP p) s n r.2.2 ⟨cs, r.2.1⟩
  | 0, _, cs, h, r, hr => by
    have := List.eq_nil_of_length_eq_zero h
    subst this
    simp only [wayG, Option.some.injEq] at hr
    subst hr
    exact ⟨rfl, rfl⟩
  | n + 1, hn, cs, h, r, hr => by
    rcases List.eq_nil_or_concat cs with rfl | ⟨cs0, c, rfl⟩
    · simp at h
    · rw [List.concat_eq_append] at h hr ⊢
      have hl : cs0.length = n := by simpa using h
      rw [wayG_append] at hr
      cases h0 : wayG p cs0 s [] 0 with
      | none => rw [h0] at hr; cases hr
      | some r0 =>
        rw [h0] at hr
        simp only [Option.bind_some] at hr
        have ih := wayG_all hp hs n (by omega) cs0 hl r0 h0
        obtain ⟨g1, g2, g3, g4⟩ := all_good (exP p) (extP p) s (goodS p) hs 4000000 (by omega) (fun e c r he hc hr => ext_ok hp he hc hr) n _ _ ih
        simp only at g3 g4
        rcases wayG_one hp g1 c r0.1 r0.2.1 g3 (by omega) with ⟨r', l, k1, k2, k3, k4, k5⟩ | ⟨k1, k2⟩
        · rw [k3] at hr
          cases hr
          exact ⟨r0.2.2, ⟨cs0, r0.2.1⟩, c, r', ih, k1, k2, rfl, rfl⟩
        · rw [k1] at hr; cases hr

theorem wayI_G {p : Plan} (hp : OkP p) : ∀ (cs : List Int) (s : State) (out : List State) (a : Int), goodS p s → (∃ r, wayG p cs s out a = some r ∧ wayI p noF cs s out a = (r.1, r.2.1, 0)) ∨ (wayG p cs s out a = none ∧ (wayI p noF cs s out a).2.2 ≠ 0)
  | [], s, out, a, _ => Or.inl ⟨_, rfl, rfl⟩
  | c :: cs, s, out, a, hs => by
    obtain ⟨x, hx⟩ := step_at hs.1.1
    have hst := hs.2
    rw [steadyH_at hx] at hst
    have hxm := List.mem_of_getElem? hx
    simp only [wayG, wayI, hx]
    by_cases hc : hasI x.exits c = true
    · simp only [hc, if_true]
      have hcx := (hp.st x hxm).exits (by simpa using hst) c (hasI_mem hc)
      have ht := turnI_ok hp hxm hs.1 (noF_lt p) (c := c) (Or.inr fun _ => hcx)
      cases hl : settleL p noF (turnI x s noF c).1 with
      | none => exact Or.inr ⟨rfl, by simp⟩
      | some l =>
        obtain ⟨r1, r2, r3⟩ := ref_all (steadyH p) (nextT p noF) (okS p) (fun s hs h => nextT_ok hp (noF_lt p) s hs h) _ _ l hl ht
        exact wayI_G hp cs _ _ _ ⟨r3, r1⟩
    · simp only [hc, if_false]
      exact Or.inr ⟨rfl, by simp⟩

/-- What the run of given commands says. -/
theorem run_cases {p : Plan} (hp : OkP p) {s : State} (hs : goodS p s) {x : Step} (hx : p.steps[s.step.toNat]? = some x) (cs : List Int) (hl : cs.length ≤ 10) :
    (∃ e, (runI p noF x s cs).2.2 = 0 ∧ allQ (exP p) (extP p) s cs.length e ⟨cs, (runI p noF x s cs).2.1⟩ ∧ endOf s (runI p noF x s cs).1 = e ∧ ((runI p noF x s cs).1 = [] ↔ cs = [])) ∨
      ((runI p noF x s cs).2.2 ≠ 0 ∧ ∀ e t, ¬ allQ (exP p) (extP p) s cs.length e ⟨cs, t⟩) := by
  have hst := hs.2
  rw [steadyH_at hx] at hst
  have h1 : preE x cs = 0 := by
    unfold preE
    rw [hst]
    have : decide ((cs.length : Int) ≤ 10) = true := by simp; omega
    rw [this]; rfl
  unfold runI
  rw [if_pos h1]
  rcases wayI_G hp cs s [] 0 hs with ⟨r, h2, h3⟩ | ⟨h2, h3⟩
  · left
    rw [h3]
    have h4 := wayG_all hp hs cs.length (by omega) cs rfl r h2
    obtain ⟨out, k1, k2, k3⟩ := all_wayG hp hs cs.length (by omega) _ _ h4
    simp only at k1 k3
    rw [h2] at k1
    have e1 : r.1 = out := congrArg Prod.fst (Option.some.inj k1)
    rw [← e1] at k2 k3
    exact ⟨_, rfl, h4, k2, k3⟩
  · right
    rw [if_neg h3]
    refine ⟨h3, fun e t h => ?_⟩
    obtain ⟨out, k1, -⟩ := all_wayG hp hs cs.length (by omega) _ _ h
    simp only at k1
    rw [h2] at k1; cases k1

end Go.ViD
end
section
/- SequenceNoFaster: what it answers. -/
set_option linter.unusedSimpArgs false
set_option linter.unusedVariables false
namespace Go.ViD
open Go.Vi

theorem runI_bad {p : Plan} {f : Fault} {x : Step} {s : State} {cs : List Int} (h : (runI p f x s cs).2.2 ≠ 0) : (runI p f x s cs).1 = [] := by
  unfold runI at h ⊢
  split at h
  · rename_i h1
    rw [if_pos h1]
    split at h
    · rename_i h2; exact absurd h2 h
    · rename_i h2; rw [if_neg h2]
  · rename_i h1; rw [if_neg h1]

theorem all_unique {p : Plan} (hp : OkP p) {s : State} (hs : goodS p s) {n : Nat} (hn : n ≤ 100) {e e' : State} {cs : List Int} {t t' : Int} (h : allQ (exP p) (extP p) s n e ⟨cs, t⟩) (h' : allQ (exP p) (extP p) s n e' ⟨cs, t'⟩) : e = e' ∧ t = t' := by
  obtain ⟨o, h1, -⟩ := all_wayG hp hs n hn e _ h
  obtain ⟨o', h2, -⟩ := all_wayG hp hs n hn e' _ h'
  simp only at h1 h2
  rw [h1] at h2
  simp only [Option.some.injEq, Prod.mk.injEq] at h2
  exact ⟨h2.2.2, h2.2.1⟩

theorem best_some {p : Plan} (hp : OkP p) {s : State} (hs : goodS p s) {to : Int} (N : Nat) {b : Way} (hb : bestN p s to N = some b) :
    (∃ n, n < N ∧ ∃ e, e.step = to ∧ allQ (exP p) (extP p) s n e b) ∧ ∀ n e u, n < N → e.step = to → allQ (exP p) (extP p) s n e u → ¬ lt3 u b := by
  have hl := best_least hp hs to N
  rw [hb] at hl
  exact ⟨hl.1, fun n e u h1 h2 h3 => hl.2 u ⟨n, h1, e, h2, h3⟩⟩

theorem best_none {p : Plan} (hp : OkP p) {s : State} (hs : goodS p s) {to : Int} (N : Nat) (hb : bestN p s to N = none) : ∀ n e u, n < N → e.step = to → ¬ allQ (exP p) (extP p) s n e u := by
  have hl := best_least hp hs to N
  rw [hb] at hl
  exact fun n e u h1 h2 h3 => hl u ⟨n, h1, e, h2, h3⟩

/-- The run of the fastest way. -/
theorem best_run {p : Plan} (hp : OkP p) {s : State} (hs : goodS p s) {x : Step} (hx : p.steps[s.step.toNat]? = some x) {to : Int} {b : Way} (hb : bestN p s to 11 = some b) :
    b.cs.length ≤ 10 ∧ 0 ≤ b.tm ∧ b.tm ≤ 44000000 ∧ (runI p noF x s b.cs).2.2 = 0 ∧ (runI p noF x s b.cs).2.1 = b.tm ∧ (endOf s (runI p noF x s b.cs).1).step = to ∧ goodS p (endOf s (runI p noF x s b.cs).1) ∧ ((runI p noF x s b.cs).1 = [] ↔ b.cs = []) ∧
      allQ (exP p) (extP p) s b.cs.length (endOf s (runI p noF x s b.cs).1) b := by
  obtain ⟨⟨n, hn, e, he, hq⟩, -⟩ := best_some hp hs 11 hb
  obtain ⟨g1, g2, g3, g4⟩ := all_good (exP p) (extP p) s (goodS p) hs 4000000 (by omega) (fun e c r he hc hr => ext_ok hp he hc hr) n e b hq
  have hl10 : b.cs.length ≤ 10 := by omega
  rcases run_cases hp hs hx b.cs hl10 with ⟨e', k1, k2, k3, k4⟩ | ⟨k1, k2⟩
  · rw [g2] at k2
    obtain ⟨u1, u2⟩ := all_unique hp hs (by omega) (t := b.tm) hq k2
    subst u1
    have g5 : allQ (exP p) (extP p) s b.cs.length (endOf s (runI p noF x s b.cs).1) b := by rw [k3, g2]; exact hq
    exact ⟨hl10, g3, by omega, k1, u2.symm, by rw [k3]; exact he, by rw [k3]; exact g1, k4, g5⟩
  · rw [g2] at k2
    exact absurd hq (k2 e b.tm)

theorem endOf_last (s : State) (O : List State) (h : O ≠ []) : O[O.length - 1]? = some (endOf s O) := by
  unfold endOf
  rw [← List.getLast?_eq_getElem?]
  cases hg : O.getLast? with
  | none => rw [List.getLast?_eq_none_iff] at hg; exact absurd hg h
  | some e => rfl

end Go.ViD
end
