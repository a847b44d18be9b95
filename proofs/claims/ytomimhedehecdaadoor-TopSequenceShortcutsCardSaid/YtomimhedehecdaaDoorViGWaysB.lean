import Derived.Test.YtomimhedehecdaaDoorViGWaysA
import Derived.Test.YtomimhedehecdaaDoorViGCanon
import Derived.Test.YtomimhedehecdaaDoorViGRuns
section
/- The fastest way, in plain words: least ways of finite sets, and that a least way is at the step at its end alone. -/
set_option linter.unusedSimpArgs false
set_option linter.unusedVariables false
namespace Go.ViD
open Go.Vi

/-- Commands, and their time. -/
structure Way where
  cs : List Int
  tm : Int
  deriving DecidableEq

def lt3 (a b : Way) : Prop := a.tm < b.tm ∨ (a.tm = b.tm ∧ (a.cs.length < b.cs.length ∨ (a.cs.length = b.cs.length ∧ cmpL a.cs b.cs < 0)))
instance (a b : Way) : Decidable (lt3 a b) := by unfold lt3; infer_instance

theorem lt3_irrefl (a : Way) : ¬ lt3 a a := by
  unfold lt3; rw [cmpL_self]; omega
theorem lt3_trans {a b c : Way} (h1 : lt3 a b) (h2 : lt3 b c) : lt3 a c := by
  unfold lt3 at *
  rcases h1 with h1 | ⟨h1, h1' | ⟨h1', h1''⟩⟩ <;> rcases h2 with h2 | ⟨h2, h2' | ⟨h2', h2''⟩⟩
  all_goals first
    | (left; omega)
    | (right; refine ⟨by omega, ?_⟩; left; omega)
    | (right; refine ⟨by omega, ?_⟩; right; exact ⟨by omega, cmpL_trans h1'' h2''⟩)
theorem lt3_eq {a b : Way} (h1 : ¬ lt3 a b) (h2 : ¬ lt3 b a) : a = b := by
  unfold lt3 at h1 h2
  have h := cmpL_swap a.cs b.cs
  have ht : a.tm = b.tm := by omega
  have hl : a.cs.length = b.cs.length := by omega
  have hc : cmpL a.cs b.cs = 0 := by
    have x1 : ¬ cmpL a.cs b.cs < 0 := fun h => h1 (Or.inr ⟨ht, Or.inr ⟨hl, h⟩⟩)
    have x2 : ¬ cmpL b.cs a.cs < 0 := fun h => h2 (Or.inr ⟨ht.symm, Or.inr ⟨hl.symm, h⟩⟩)
    omega
  obtain ⟨a1, a2⟩ := a
  obtain ⟨b1, b2⟩ := b
  simp only at ht hc
  rw [cmpL_zero hc, ht]

def upd (o : Option Way) (w : Way) : Option Way := match o with
  | none => some w
  | some u => if lt3 w u then some w else some u

/-- The least of a set of ways. -/
def Least (P : Way → Prop) : Option Way → Prop
  | none => ∀ w, ¬ P w
  | some w => P w ∧ ∀ u, P u → ¬ lt3 u w

theorem Least.unique {P : Way → Prop} : ∀ {o o' : Option Way}, Least P o → Least P o' → o = o'
  | none, none, _, _ => rfl
  | none, some w, h, h' => absurd h'.1 (h w)
  | some w, none, h, h' => absurd h.1 (h' w)
  | some _, some _, h, h' => congrArg some (lt3_eq (h'.2 _ h.1) (h.2 _ h'.1))

theorem Least.congr {P Q : Way → Prop} (hpq : ∀ w, P w ↔ Q w) {o : Option Way} (h : Least P o) : Least Q o := by
  have : P = Q := funext fun w => propext (hpq w)
  rw [← this]; exact h

theorem Least.dom {P Q : Way → Prop} (hpq : ∀ w, P w → Q w) (hd : ∀ w, Q w → ∃ u, P u ∧ ¬ lt3 w u) : ∀ {o : Option Way}, Least P o → Least Q o
  | none, h => fun w hw => by obtain ⟨u, hu, _⟩ := hd w hw; exact h u hu
  | some v, h => by
    refine ⟨hpq v h.1, fun w hw hlt => ?_⟩
    obtain ⟨u, hu, hnu⟩ := hd w hw
    have h2 := h.2 u hu
    by_cases e : lt3 v u
    · exact hnu (lt3_trans hlt e)
    · have := lt3_eq h2 e
      subst this
      exact hnu hlt

theorem Least.back {P Q : Way → Prop} (hpq : ∀ w, P w → Q w) (hd : ∀ w, Q w → ∃ u, P u ∧ ¬ lt3 w u) : ∀ {o : Option Way}, Least Q o → Least P o
  | none, h => fun w hw => h w (hpq w hw)
  | some v, h => by
    obtain ⟨u, hu, hnu⟩ := hd v h.1
    have := lt3_eq (h.2 u (hpq u hu)) hnu
    subst this
    exact ⟨hu, fun w hw => h.2 w (hpq w hw)⟩

theorem least_upd {P : Way → Prop} (w : Way) : ∀ {o : Option Way}, Least P o → Least (fun u => P u ∨ u = w) (upd o w)
  | none, h => ⟨Or.inr rfl, fun u hu => by
    rcases hu with hu | rfl
    · exact absurd hu (h u)
    · exact lt3_irrefl u⟩
  | some v, h => by
    unfold upd
    by_cases hlt : lt3 w v
    · simp only [hlt, if_true]
      refine ⟨Or.inr rfl, fun u hu => ?_⟩
      rcases hu with hu | rfl
      · exact fun e => h.2 u hu (lt3_trans e hlt)
      · exact lt3_irrefl u
    · simp only [hlt, if_false]
      refine ⟨Or.inl h.1, fun u hu => ?_⟩
      rcases hu with hu | rfl
      · exact h.2 u hu
      · exact hlt

theorem least_fold : ∀ (l : List Way) {P : Way → Prop} {o : Option Way}, Least P o → Least (fun u => P u ∨ u ∈ l) (l.foldl upd o)
  | [], P, o, h => h.congr fun w => by simp
  | w :: l, P, o, h => by
    rw [List.foldl_cons]
    refine (least_fold l (least_upd w h)).congr fun u => ?_
    simp only [List.mem_cons]
    constructor
    · rintro ((h | h) | h) <;> simp [h]
    · rintro (h | h | h) <;> simp [h]

/-- An entry set, if it is better. -/
def updG (g : State → Option Way) (x : State × Way) : State → Option Way := fun e => if e = x.1 then upd (g e) x.2 else g e

theorem fold_updG : ∀ (l : List (State × Way)) (g : State → Option Way) (e : State), (l.foldl updG g) e = ((l.filter fun x => decide (e = x.1)).map (·.2)).foldl upd (g e)
  | [], _, _ => rfl
  | x :: l, g, e => by
    rw [List.foldl_cons, fold_updG l, List.filter_cons]
    unfold updG
    by_cases h : e = x.1
    · simp [h]
    · simp [h]

theorem least_updG (l : List (State × Way)) (e : State) : Least (fun w => (e, w) ∈ l) ((l.foldl updG fun _ => none) e) := by
  rw [fold_updG]
  refine (least_fold _ (P := fun _ => False) (o := none) fun w h => h).congr fun w => ?_
  simp only [false_or, List.mem_map, List.mem_filter, decide_eq_true_eq]
  constructor
  · rintro ⟨⟨e', w'⟩, ⟨h1, h2⟩, h3⟩
    simp only at h2 h3
    rw [h2, ← h3]; exact h1
  · exact fun h => ⟨(e, w), ⟨h, rfl⟩, rfl⟩

section
variable (ex : State → List Int) (ext : State → Int → Option (State × Int))

/-- The ways with one command more. -/
def cand1 (x : State × Way) : List (State × Way) := (ex x.1).filterMap fun c => (ext x.1 c).map fun r => (r.1, ⟨x.2.cs ++ [c], x.2.tm + r.2⟩)

def StepQ (Q : State → Way → Prop) (e' : State) (w' : Way) : Prop := ∃ e w c r, Q e w ∧ c ∈ ex e ∧ ext e c = some r ∧ e' = r.1 ∧ w' = ⟨w.cs ++ [c], w.tm + r.2⟩

theorem mem_cand1 (x y : State × Way) : y ∈ cand1 ex ext x ↔ ∃ c r, c ∈ ex x.1 ∧ ext x.1 c = some r ∧ y = (r.1, ⟨x.2.cs ++ [c], x.2.tm + r.2⟩) := by
  unfold cand1
  simp only [List.mem_filterMap, Option.map_eq_some_iff]
  constructor
  · rintro ⟨c, hc, r, hr, e⟩; exact ⟨c, r, hc, hr, e.symm⟩
  · rintro ⟨c, r, hc, hr, e⟩; exact ⟨c, hc, r, hr, e.symm⟩

theorem lt3_snoc {a b : Way} (h : a.cs.length = b.cs.length) (c : Int) (d : Int) : lt3 ⟨a.cs ++ [c], a.tm + d⟩ ⟨b.cs ++ [c], b.tm + d⟩ ↔ lt3 a b := by
  unfold lt3
  simp only [cmpL_snoc c a.cs b.cs h, List.length_append, h]
  constructor
  · rintro (h1 | ⟨h1, h2 | ⟨_, h2⟩⟩)
    · left; omega
    · omega
    · right; exact ⟨by omega, Or.inr ⟨trivial, h2⟩⟩
  · rintro (h1 | ⟨h1, h2 | ⟨_, h2⟩⟩)
    · left; omega
    · omega
    · right; exact ⟨by omega, Or.inr ⟨trivial, h2⟩⟩

/-- What the best ways alone give is the best of what all give. -/
theorem least_step {Q : State → Way → Prop} {n : Nat} (hlen : ∀ e w, Q e w → w.cs.length = n) {l : List (State × Way)} {g : State → Option Way} (hl : ∀ e w, (e, w) ∈ l ↔ g e = some w) (hg : ∀ e, Least (Q e) (g e)) (T : State → Prop) {o : Option Way}
    (h : Least (fun w => ∃ e, T e ∧ (e, w) ∈ l.flatMap (cand1 ex ext)) o) : Least (fun w => ∃ e, T e ∧ StepQ ex ext Q e w) o := by
  refine h.dom (fun w hw => ?_) fun w hw => ?_
  · obtain ⟨e, he, hm⟩ := hw
    obtain ⟨x, hx, hy⟩ := List.mem_flatMap.1 hm
    obtain ⟨c, r, hc, hr, e2⟩ := (mem_cand1 ex ext x (e, w)).1 hy
    have h1 := (hl x.1 x.2).1 hx
    have h2 := hg x.1
    rw [h1] at h2
    simp only [Prod.mk.injEq] at e2
    exact ⟨e, he, x.1, x.2, c, r, h2.1, hc, hr, e2.1, e2.2⟩
  · obtain ⟨e', he', e, v, c, r, hq, hc, hr, e2, e3⟩ := hw
    have h2 := hg e
    cases ho : g e with
    | none => rw [ho] at h2; exact absurd hq (h2 v)
    | some u =>
      rw [ho] at h2
      refine ⟨⟨u.cs ++ [c], u.tm + r.2⟩, ⟨e', he', List.mem_flatMap.2 ⟨(e, u), (hl e u).2 ho, (mem_cand1 ex ext _ _).2 ⟨c, r, hc, hr, by rw [e2]⟩⟩⟩, ?_⟩
      rw [e3, lt3_snoc (by rw [hlen e v hq, hlen e u h2.1])]
      exact h2.2 v hq

theorem least_next {Q : State → Way → Prop} {n : Nat} (hlen : ∀ e w, Q e w → w.cs.length = n) {l : List (State × Way)} {g : State → Option Way} (hl : ∀ e w, (e, w) ∈ l ↔ g e = some w) (hg : ∀ e, Least (Q e) (g e)) (B : State → Bool) (e : State) :
    Least (fun w => StepQ ex ext Q e w ∧ B e = true) ((((l.flatMap (cand1 ex ext)).filter fun x => B x.1).foldl updG fun _ => none) e) := by
  have h := least_updG ((l.flatMap (cand1 ex ext)).filter fun x => B x.1) e
  have h2 : Least (fun w => ∃ e', (e' = e ∧ B e = true) ∧ (e', w) ∈ l.flatMap (cand1 ex ext)) ((((l.flatMap (cand1 ex ext)).filter fun x => B x.1).foldl updG fun _ => none) e) := by
    refine h.congr fun w => ?_
    simp only [List.mem_filter]
    constructor
    · rintro ⟨h1, h2⟩; exact ⟨e, ⟨rfl, h2⟩, h1⟩
    · rintro ⟨e', ⟨rfl, h2⟩, h1⟩; exact ⟨h1, h2⟩
  refine (least_step ex ext hlen hl hg _ h2).congr fun w => ?_
  constructor
  · rintro ⟨e', ⟨rfl, h2⟩, h1⟩; exact ⟨h1, h2⟩
  · rintro ⟨h1, h2⟩; exact ⟨e, ⟨rfl, h2⟩, h1⟩

variable (s : State) (to : Int)

/-- All ways of so many commands; those that are not at the step before. -/
def allQ : Nat → State → Way → Prop
  | 0 => fun e w => e = s ∧ w = ⟨[], 0⟩
  | n + 1 => StepQ ex ext (allQ n)

def awayQ : Nat → State → Way → Prop
  | 0 => fun e w => e = s ∧ w = ⟨[], 0⟩
  | n + 1 => fun e w => StepQ ex ext (awayQ n) e w ∧ (!decide (e.step = to)) = true

def Hit (n : Nat) (w : Way) : Prop := ∃ e, e.step = to ∧ StepQ ex ext (awayQ ex ext s to n) e w

theorem away_all : ∀ (n : Nat) (e : State) (w : Way), awayQ ex ext s to n e w → allQ ex ext s n e w
  | 0, _, _, h => h
  | n + 1, e, w, ⟨⟨e0, w0, c, r, h, h2⟩, _⟩ => ⟨e0, w0, c, r, away_all n e0 w0 h, h2⟩

variable (good : State → Prop) (hgood : good s) (T : Int) (hT : 0 ≤ T) (hext : ∀ e c r, good e → c ∈ ex e → ext e c = some r → good r.1 ∧ 1 ≤ r.2 ∧ r.2 ≤ T)
include hgood hT hext

theorem all_good : ∀ (n : Nat) (e : State) (w : Way), allQ ex ext s n e w → good e ∧ w.cs.length = n ∧ 0 ≤ w.tm ∧ w.tm ≤ n * T
  | 0, e, w, h => by have _ := hT; obtain ⟨rfl, rfl⟩ := h; exact ⟨hgood, rfl, Int.le_refl _, by simp⟩
  | n + 1, e, w, ⟨e0, w0, c, r, h, hc, hr, e1, e2⟩ => by
    obtain ⟨g1, g2, g3, g4⟩ := all_good n e0 w0 h
    obtain ⟨k1, k2, k3⟩ := hext e0 c r g1 hc hr
    subst e1 e2
    refine ⟨k1, by simp [g2], by simp only; omega, ?_⟩
    simp only
    have : ((n + 1 : Nat) : Int) * T = n * T + T := by rw [Int.natCast_add, Int.add_mul]; simp
    omega

theorem all_hit : ∀ (n : Nat) (e : State) (w : Way), allQ ex ext s n e w → awayQ ex ext s to n e w ∨ ∃ m, m < n ∧ ∃ u, Hit ex ext s to m u ∧ (u = w ∨ u.tm < w.tm)
  | 0, e, w, h => Or.inl h
  | n + 1, e, w, ⟨e0, w0, c, r, h, hc, hr, e1, e2⟩ => by
    have g1 := (all_good ex ext s good hgood T hT hext n e0 w0 h).1
    obtain ⟨k1, k2, k3⟩ := hext e0 c r g1 hc hr
    rcases all_hit n e0 w0 h with h1 | ⟨m, hm, u, hu, h1⟩
    · have hs : StepQ ex ext (awayQ ex ext s to n) e w := ⟨e0, w0, c, r, h1, hc, hr, e1, e2⟩
      by_cases ht : e.step = to
      · exact Or.inr ⟨n, by omega, w, ⟨e, ht, hs⟩, Or.inl rfl⟩
      · exact Or.inl ⟨hs, by simpa using ht⟩
    · refine Or.inr ⟨m, by omega, u, hu, Or.inr ?_⟩
      subst e2
      simp only
      rcases h1 with rfl | h1 <;> omega

/-- Those that are at the step at their end alone have the least way of all. -/
theorem least_hit (hs : s.step ≠ to) (N : Nat) {o : Option Way} (h : Least (fun w => ∃ n, n < N + 1 ∧ ∃ e, e.step = to ∧ allQ ex ext s n e w) o) : Least (fun w => ∃ n, n < N ∧ Hit ex ext s to n w) o := by
  refine h.back (fun w hw => ?_) fun w hw => ?_
  · obtain ⟨n, hn, e, he, e0, w0, c, r, h1, h2⟩ := hw
    exact ⟨n + 1, by omega, e, he, e0, w0, c, r, away_all ex ext s to n e0 w0 h1, h2⟩
  · obtain ⟨n, hn, e, he, hq⟩ := hw
    rcases all_hit ex ext s to good hgood T hT hext n e w hq with h1 | ⟨m, hm, u, hu, h1⟩
    · exfalso
      cases n with
      | zero => obtain ⟨rfl, -⟩ := h1; exact hs he
      | succ n => have := h1.2; simp [he] at this
    · refine ⟨u, ⟨m, by omega, hu⟩, ?_⟩
      rcases h1 with rfl | h1
      · exact lt3_irrefl u
      · unfold lt3; omega
end

end Go.ViD
end
section
/- The fastest way: one command more. -/
set_option linter.unusedSimpArgs false
set_option linter.unusedVariables false
namespace Go.ViD
open Go.Vi

abbrev noF : Fault := ⟨-1, false⟩
theorem noF_lt (p : Plan) : noF.signal < (p.signals.length : Int) := by simp only [noF]; omega

/-- A way as a value. -/
def ownW (w : Way) : Own := match w.cs with
  | [] => .a
  | _ :: _ => .s
def encW (w : Way) : V := .agg [.sl (ownW w) 1 (ints w.cs), I w.tm]
theorem ownW_snoc (l : List Int) (c t : Int) : ownW ⟨l ++ [c], t⟩ = .s := by
  cases l <;> rfl
theorem cp_ownW (w : Way) (z : Nat) (xs : List (List V)) : cp (.sl (ownW w) z xs) = .sl .s z xs := by
  obtain ⟨cs, t⟩ := w
  cases cs <;> rfl
theorem leaf_ownW (w : Way) (z : Nat) (xs : List (List V)) : leaf (.sl (ownW w) z xs) = true := by
  obtain ⟨cs, t⟩ := w
  cases cs <;> rfl

def exP (p : Plan) (e : State) : List Int := match p.steps[e.step.toNat]? with
  | some x => x.exits
  | none => []
def extX (p : Plan) (x : Step) (e : State) (c : Int) : Option (State × Int) := (settleL p noF (turnI x e noF c).1).map fun l => (endS (turnI x e noF c).1 l, accOf (nextT p noF) (turnI x e noF c).1 l (turnI x e noF c).2)
def extP (p : Plan) (e : State) (c : Int) : Option (State × Int) := match p.steps[e.step.toNat]? with
  | some x => extX p x e c
  | none => none
theorem exP_at {p : Plan} {e : State} {x : Step} (hx : p.steps[e.step.toNat]? = some x) : exP p e = x.exits := by unfold exP; rw [hx]
theorem extP_at {p : Plan} {e : State} {x : Step} (hx : p.steps[e.step.toNat]? = some x) (c : Int) : extP p e c = extX p x e c := by unfold extP; rw [hx]

/-- States in which commands are given. -/
def goodS (p : Plan) (e : State) : Prop := okS p e ∧ steadyH p e = true

theorem ext_ok {p : Plan} (hp : OkP p) {e : State} (he : goodS p e) {c : Int} {r : State × Int} (hc : c ∈ exP p e) (hr : extP p e c = some r) : goodS p r.1 ∧ 1 ≤ r.2 ∧ r.2 ≤ 4000000 := by
  obtain ⟨x, hx⟩ := step_at he.1.1
  have hst := he.2
  rw [steadyH_at hx] at hst
  rw [exP_at hx] at hc
  rw [extP_at hx] at hr
  have hxm := List.mem_of_getElem? hx
  have hcx := (hp.st x hxm).exits (by simpa using hst) c hc
  have ht := turnI_ok hp hxm he.1 (noF_lt p) (c := c) (Or.inr fun _ => hcx)
  unfold extX at hr
  obtain ⟨l, hl, rfl⟩ := Option.map_eq_some_iff.1 hr
  obtain ⟨r1, r2, r3⟩ := ref_all (steadyH p) (nextT p noF) (okS p) (fun s hs h => nextT_ok hp (noF_lt p) s hs h) _ _ l hl ht
  have hk := turnI_ticks hp hxm e noF c
  have h320 := nS_le hp
  have hb := acc_bound hp (noF_lt p) l _ _ (turnI x e noF c).2 hl ht (by omega) (by omega)
  exact ⟨⟨r3, r1⟩, by simp only; omega, by simp only; omega⟩

def updM (out : List (State × Way)) (x : State × Way) : List (State × Way) := match lookW out x.1 with
  | none => setW out x.1 x.2
  | some u => if lt3 x.2 u then setW out x.1 x.2 else out

theorem updM_sorted {out : List (State × Way)} (h : Sorted out) (x : State × Way) : Sorted (updM out x) := by
  unfold updM
  split
  · exact sorted_setW h _ _
  · split
    · exact sorted_setW h _ _
    · exact h

theorem updM_look {out : List (State × Way)} (h : Sorted out) (x : State × Way) : lookW (updM out x) = updG (lookW out) x := by
  funext e
  unfold updM updG upd
  split
  · rename_i hl
    rw [lookW_setW h]
    by_cases he : e = x.1
    · rw [if_pos he, if_pos he, he, hl]
    · rw [if_neg he, if_neg he]
  · rename_i u hl
    split
    · rename_i hlt
      rw [lookW_setW h]
      by_cases he : e = x.1
      · rw [if_pos he, if_pos he, he, hl]; simp only [if_pos hlt]
      · rw [if_neg he, if_neg he]
    · rename_i hlt
      by_cases he : e = x.1
      · rw [if_pos he, he, hl]; simp only [if_neg hlt]
      · rw [if_neg he]

theorem foldM_sorted : ∀ (l : List (State × Way)) {out : List (State × Way)}, Sorted out → Sorted (l.foldl updM out)
  | [], _, h => h
  | x :: l, _, h => foldM_sorted l (updM_sorted h x)
theorem foldM_look : ∀ (l : List (State × Way)) {out : List (State × Way)}, Sorted out → lookW (l.foldl updM out) = l.foldl updG (lookW out)
  | [], _, _ => rfl
  | x :: l, out, h => by
    rw [List.foldl_cons, List.foldl_cons, foldM_look l (updM_sorted h x), updM_look h]

def lenM (n : Nat) (l : List (State × Way)) : Prop := ∀ y ∈ l, y.2.cs.length = n

theorem lenM_look {n : Nat} {out : List (State × Way)} (hs : Sorted out) (h : lenM n out) {e : State} {w : Way} (hl : lookW out e = some w) : w.cs.length = n := h (e, w) ((lookW_mem hs e w).1 hl)

theorem lenM_upd {n : Nat} {out : List (State × Way)} (hs : Sorted out) (h : lenM n out) {x : State × Way} (hx : x.2.cs.length = n) : lenM n (updM out x) := by
  intro y hy
  have h1 := (lookW_mem (updM_sorted hs x) y.1 y.2).2 hy
  rw [updM_look hs] at h1
  unfold updG upd at h1
  split at h1
  · split at h1
    · simp only [Option.some.injEq] at h1; rw [← h1]; exact hx
    · rename_i u hu
      split at h1
      · simp only [Option.some.injEq] at h1; rw [← h1]; exact hx
      · simp only [Option.some.injEq] at h1; rw [← h1]; exact lenM_look hs h hu
  · exact lenM_look hs h h1

theorem before_lt3 {a b : Way} (h : a.cs.length = b.cs.length) : beforeB a.tm a.cs b.tm b.cs = decide (lt3 a b) := by
  rw [Bool.eq_iff_iff, beforeB_iff, decide_eq_true_iff]
  unfold lt3
  rw [h]
  constructor
  · rintro (h1 | ⟨h1, h2⟩)
    · exact Or.inl h1
    · exact Or.inr ⟨h1, Or.inr ⟨rfl, h2⟩⟩
  · rintro (h1 | ⟨h1, h2 | ⟨_, h2⟩⟩)
    · exact Or.inl h1
    · omega
    · exact Or.inr ⟨h1, h2⟩

abbrev wM (l : List (State × Way)) : List (V × V) := l.map (pairW encW)

theorem loop74b (p : Plan) (hp : OkP p) (e : State) (he : goodS p e) (x : Step) (hx : p.steps[e.step.toNat]? = some x) (hxl : x.exits.length ≤ 1000) (w : Way) (n : Nat) (hwl : w.cs.length = n) (hn : n ≤ 100) (hw1 : 0 ≤ w.tm) (hw2 : w.tm ≤ 1000000000) (cur es : List (V × V)) {t : List Todo} {k : Ex → St → Option V} :
    ∀ (m i : Nat) (out : List (State × Way)), i + m = x.exits.length → Sorted out → lenM (n + 1) out →
    U (pc E) (.c (.loop f74l1) :: t) .normal ⟨[(2, .loc 2 0), (5, .mp .x (wM out)), (6, .loc 6 0), (7, .loc 7 0), (19, .it cur es), (32, .sl .s 1 (ints x.exits)), (33, I x.exits.length), (34, I i)], [(2, false, cPlan p), (6, false, cState e), (7, false, [.sl (ownW w) 1 (ints w.cs), I w.tm])]⟩ k =
      U (pc E) t (.exit 2) ⟨[(2, .loc 2 0), (5, .mp .x (wM (((x.exits.drop i).filterMap fun c => (extX p x e c).map fun r => (r.1, (⟨w.cs ++ [c], w.tm + r.2⟩ : Way))).foldl updM out))), (19, .it cur es)], [(2, false, cPlan p)]⟩ k
  | 0, i, out, hm, ho, hlo => by
    rw [U_loop' f74l1.eq_1]
    have h0 : ¬ ((i : Int) < (x.exits.length : Int)) := by omega
    rw [List.drop_eq_nil_of_le (by omega)]
    simp only [h0, cState, List.filterMap_nil, List.foldl_nil, wx, I, exec, resOf, reduceIte, reduceCtorEq, ne_eq, not_false_eq_true, Root.bx.injEq, Root.tm.injEq, Nat.reduceAdd, Nat.reduceBEq, Nat.reduceBNe, Nat.reduceEqDiff, Nat.reduceLT, Nat.reduceLeDiff, Nat.reduceMul, Nat.reduceSub, Int.reduceToNat, Int.reduceEq, Int.reduceBEq, Int.reduceBNe, Int.reduceLT, Int.reduceLE, if_true, if_false, Bool.false_eq_true, decide_true, decide_false, List.zipIdx_nil, bne_self_eq_false]
  | m + 1, i, out, hm, ho, hlo => by
    rw [U_loop' f74l1.eq_1]
    have h0 : ((i : Int) < (x.exits.length : Int)) := by omega
    have hxx : x.exits[i]? = some x.exits[i] := List.getElem?_eq_getElem (by omega)
    have hd : x.exits.drop i = x.exits[i] :: x.exits.drop (i + 1) := List.drop_eq_getElem_cons (by omega)
    have hcm : x.exits[i] ∈ x.exits := List.getElem_mem _
    have hxm := List.mem_of_getElem? hx
    have hst := he.2
    rw [steadyH_at hx] at hst
    have hwt : x.wait = 0 := by simpa using hst
    rw [hd]
    generalize x.exits[i] = c at hxx hcm ⊢
    have hcx := (hp.st x hxm).exits hwt c hcm
    have hwi := wrap_succ (i := i) (by omega)
    have h1 := pc_commanded p hp noF (noF_lt p) e he.1 x hx c (Or.inr fun _ => hcx)
    have ht := turnI_ok hp hxm he.1 (noF_lt p) (c := c) (Or.inr fun _ => hcx)
    unfold cmdL at h1
    simp only [cState, cFault] at h1
    have ih := fun out h1 h2 => loop74b p hp e he x hx hxl w n hwl hn hw1 hw2 cur es (t := t) (k := k) m (i + 1) out (by omega) h1 h2
    simp only [ints, cState] at ih
    cases hse : settleL p noF (turnI x e noF c).1 with
    | none =>
      have hex : extX p x e c = none := by unfold extX; rw [hse]; rfl
      simp only [hse, Option.map_none] at h1
      simp only [List.filterMap_cons, hex, h0, hxx, h1, hwi, ih out ho hlo, ints, cState, List.replicate, List.set, wx, I, exec, resOf, reduceIte, reduceCtorEq, ne_eq, not_false_eq_true, Root.bx.injEq, Root.tm.injEq, Nat.reduceAdd, Nat.reduceBEq, Nat.reduceBNe, Nat.reduceEqDiff, Nat.reduceLT, Nat.reduceLeDiff, Nat.reduceMul, Nat.reduceSub, Int.reduceToNat, Int.reduceEq, Int.reduceBEq, Int.reduceBNe, Int.reduceLT, Int.reduceLE, if_true, if_false, Bool.false_eq_true, decide_true, decide_false, List.zipIdx_nil, bne_self_eq_false]
    | some l =>
      have hex : extX p x e c = some (endS (turnI x e noF c).1 l, accOf (nextT p noF) (turnI x e noF c).1 l (turnI x e noF c).2) := by unfold extX; rw [hse]; rfl
      have hek := ext_ok hp he (by rw [exP_at hx]; exact hcm) (by rw [extP_at hx]; exact hex)
      simp only [hse, Option.map_some] at h1
      have hw0 : IntKind.i64.wrap (((l.length + 1 : Nat) : Int) - 1) = (l.length : Int) := by
        have h320 := nS_le hp
        have := (ref_all (steadyH p) (nextT p noF) (okS p) (fun s hs h => nextT_ok hp (noF_lt p) s hs h) _ _ l hse ht).2.1
        rw [wrap_id (by omega) (by omega)]; omega
      have hlast : (cSts ((turnI x e noF c).1 :: l))[l.length]? = some (cState (endS (turnI x e noF c).1 l)) := by
        rw [List.getElem?_map, endS_last]; rfl
      simp only [cSts, cState, List.map_cons] at hlast
      generalize endS (turnI x e noF c).1 l = e' at hex hek hlast
      generalize accOf (nextT p noF) (turnI x e noF c).1 l (turnI x e noF c).2 = d at hex hek h1
      simp only at hek
      have hwd : IntKind.i64.wrap (w.tm + d) = w.tm + d := wrap_id (by omega) (by omega)
      have hcl := pc_clone w.cs (by omega)
      have hr : room (w.cs.length + 1) 8 = true := room_ok (by omega) (by omega)
      have hlk := look_w encW e' out ho
      have hfit : fits true ks2 (.agg (cState e')) = true := by simp [fits, leq_state]
      have hmore : (⟨w.cs ++ [c], w.tm + d⟩ : Way).cs.length = n + 1 := by simp [hwl]
      have hset := set_w encW e' ⟨w.cs ++ [c], w.tm + d⟩ out ho
      simp only [encW, ownW_snoc] at hset
      have ihu := ih (updM out (e', ⟨w.cs ++ [c], w.tm + d⟩)) (updM_sorted ho _) (lenM_upd ho hlo hmore)
      simp only [ints, cState, List.map_append, List.map_cons, List.map_nil] at hcl hlk hfit hset ihu
      cases hlo' : lookW out e' with
      | none =>
        have hu : updM out (e', ⟨w.cs ++ [c], w.tm + d⟩) = setW out e' ⟨w.cs ++ [c], w.tm + d⟩ := by unfold updM; rw [hlo']
        rw [hu] at ihu
        rw [hlo', Option.map_none] at hlk
        simp only [List.filterMap_cons, List.foldl_cons, hu, hex, h0, hxx, Option.isSome_none, Option.isSome_some, h1, hwi, hw0, hlast, hcl, hr, hwd, hlk, hfit, hset, ihu, cp_ownW, leaf_ownW, ints, cSts, cState, List.map_cons, List.length_map, List.length_cons, List.replicate, List.set, wx, I, exec, resOf, reduceIte, reduceCtorEq, ne_eq, not_false_eq_true, Root.bx.injEq, Root.tm.injEq, Nat.reduceAdd, Nat.reduceBEq, Nat.reduceBNe, Nat.reduceEqDiff, Nat.reduceLT, Nat.reduceLeDiff, Nat.reduceMul, Nat.reduceSub, Int.reduceToNat, Int.reduceEq, Int.reduceBEq, Int.reduceBNe, Int.reduceLT, Int.reduceLE, if_true, if_false, Bool.false_eq_true, decide_true, decide_false, List.zipIdx_nil, bne_self_eq_false]
      | some u =>
        have hul := lenM_look ho hlo hlo'
        have hb := pc_before (w.tm + d) (w.cs ++ [c]) u.tm u.cs (by simp; omega) (by omega)
        have hlt : beforeB (w.tm + d) (w.cs ++ [c]) u.tm u.cs = decide (lt3 ⟨w.cs ++ [c], w.tm + d⟩ u) := before_lt3 (a := ⟨w.cs ++ [c], w.tm + d⟩) (b := u) (by rw [hmore, hul])
        rw [hlt] at hb
        rw [hlo', Option.map_some, encW] at hlk
        simp only [ints, List.map_append, List.map_cons, List.map_nil] at hb hlk
        by_cases hc : lt3 ⟨w.cs ++ [c], w.tm + d⟩ u
        · have hu : updM out (e', ⟨w.cs ++ [c], w.tm + d⟩) = setW out e' ⟨w.cs ++ [c], w.tm + d⟩ := by unfold updM; rw [hlo']; simp only [hc, if_true]
          rw [hu] at ihu
          simp only [List.filterMap_cons, List.foldl_cons, hu, hex, h0, hxx, Option.isSome_none, Option.isSome_some, h1, hwi, hw0, hlast, hcl, hr, hwd, hlk, hfit, hb, hc, hset, ihu, cp_ownW, leaf_ownW, ints, cSts, cState, List.map_cons, List.length_map, List.length_cons, List.replicate, List.set, wx, I, exec, resOf, reduceIte, reduceCtorEq, ne_eq, not_false_eq_true, Root.bx.injEq, Root.tm.injEq, Nat.reduceAdd, Nat.reduceBEq, Nat.reduceBNe, Nat.reduceEqDiff, Nat.reduceLT, Nat.reduceLeDiff, Nat.reduceMul, Nat.reduceSub, Int.reduceToNat, Int.reduceEq, Int.reduceBEq, Int.reduceBNe, Int.reduceLT, Int.reduceLE, if_true, if_false, Bool.false_eq_true, decide_true, decide_false, List.zipIdx_nil, bne_self_eq_false]
        · have hu : updM out (e', ⟨w.cs ++ [c], w.tm + d⟩) = out := by unfold updM; rw [hlo']; simp only [hc, if_false]
          rw [hu] at ihu
          simp only [List.filterMap_cons, List.foldl_cons, hu, hex, h0, hxx, Option.isSome_none, Option.isSome_some, h1, hwi, hw0, hlast, hcl, hr, hwd, hlk, hfit, hb, hc, hset, ihu, cp_ownW, leaf_ownW, ints, cSts, cState, List.map_cons, List.length_map, List.length_cons, List.replicate, List.set, wx, I, exec, resOf, reduceIte, reduceCtorEq, ne_eq, not_false_eq_true, Root.bx.injEq, Root.tm.injEq, Nat.reduceAdd, Nat.reduceBEq, Nat.reduceBNe, Nat.reduceEqDiff, Nat.reduceLT, Nat.reduceLeDiff, Nat.reduceMul, Nat.reduceSub, Int.reduceToNat, Int.reduceEq, Int.reduceBEq, Int.reduceBNe, Int.reduceLT, Int.reduceLE, if_true, if_false, Bool.false_eq_true, decide_true, decide_false, List.zipIdx_nil, bne_self_eq_false]

/-! ### the order in which the entries come is free -/
theorem upd_comm (o : Option Way) (a b : Way) : upd (upd o a) b = upd (upd o b) a := by
  have h : Least (fun u => some u = o) o := by
    cases o with
    | none => exact fun w h => by cases h
    | some v => exact ⟨rfl, fun u hu => by cases hu; exact lt3_irrefl _⟩
  refine (least_upd b (least_upd a h)).unique ((least_upd a (least_upd b h)).congr fun w => ?_)
  constructor
  · rintro ((h | h) | h) <;> simp [h]
  · rintro ((h | h) | h) <;> simp [h]

theorem updG_comm (g : State → Option Way) (a b : State × Way) : updG (updG g a) b = updG (updG g b) a := by
  funext e
  unfold updG
  by_cases h1 : e = a.1
  · by_cases h2 : e = b.1
    · simp only [if_pos h1, if_pos h2, upd_comm]
    · simp only [if_pos h1, if_neg h2]
  · by_cases h2 : e = b.1
    · simp only [if_neg h1, if_pos h2]
    · simp only [if_neg h1, if_neg h2]

theorem foldG_perm {l l' : List (State × Way)} (h : l.Perm l') (g : State → Option Way) : l.foldl updG g = l'.foldl updG g := h.foldl_eq' (fun x _ y _ z => updG_comm z x y) g

theorem map_erase {α β : Type} (f : α → β) : ∀ (l : List α) (i : Nat), (l.map f).eraseIdx i = (l.eraseIdx i).map f
  | [], _ => rfl
  | _ :: _, 0 => rfl
  | x :: l, i + 1 => by simp only [List.map_cons, List.eraseIdx_cons_succ, map_erase f l i]

theorem flatMap_erase {α β : Type} (F : α → List β) : ∀ (l : List α) (i : Nat) (x : α), l[i]? = some x → (l.flatMap F).Perm (F x ++ (l.eraseIdx i).flatMap F)
  | [], _, _, h => by simp at h
  | y :: l, 0, x, h => by
    simp only [List.getElem?_cons_zero, Option.some.injEq] at h
    subst h
    simp
  | y :: l, i + 1, x, h => by
    simp only [List.getElem?_cons_succ] at h
    simp only [List.flatMap_cons, List.eraseIdx_cons_succ]
    exact ((flatMap_erase F l i x h).append_left _).trans (List.perm_append_comm_assoc _ _ _)

/-- What is known of a map of ways of one length. -/
def okM (p : Plan) (n : Nat) (l : List (State × Way)) : Prop := ∀ y ∈ l, goodS p y.1 ∧ y.2.cs.length = n ∧ 0 ≤ y.2.tm ∧ y.2.tm ≤ (n : Int) * 4000000

theorem loop74a (p : Plan) (hp : OkP p) (hxl : ∀ x ∈ p.steps, x.exits.length ≤ 1000) (n : Nat) (hn : n ≤ 100) (fin : List (State × Way)) (hfs : Sorted fin) {t : List Todo} {k : Ex → St → Option V} {r : V}
    (hfin : U (pc E) t (.exit 0) ⟨[(5, .mp .x (wM fin))], []⟩ k = some r) :
    ∀ (m : Nat) (rem out : List (State × Way)) (cur : List (V × V)), rem.length = m → okM p n rem → Sorted out → lenM (n + 1) out → (rem.flatMap (cand1 (exP p) (extP p))).foldl updG (lookW out) = lookW fin →
    U (pc E) (.c (.loop f74l0) :: t) .normal ⟨[(2, .loc 2 0), (5, .mp .x (wM out)), (19, .it cur (wM rem))], [(2, false, cPlan p)]⟩ k = some r
  | 0, rem, out, cur, hm, hr, ho, hlo, hf => by
    have h0 : rem = [] := List.eq_nil_of_length_eq_zero hm
    subst h0
    have h1 : out = fin := look_ext ho hfs fun s => congrFun hf s
    subst h1
    rw [U_loop' f74l0.eq_1, U_seq, U_seq, U_nxt_nil (cur := cur) rfl]
    simp only [hfin, wx, I, exec, resOf, reduceIte, reduceCtorEq, ne_eq, not_false_eq_true, Root.bx.injEq, Root.tm.injEq, Nat.reduceAdd, Nat.reduceBEq, Nat.reduceBNe, Nat.reduceEqDiff, Nat.reduceLT, Nat.reduceLeDiff, Nat.reduceMul, Nat.reduceSub, Int.reduceToNat, Int.reduceEq, Int.reduceBEq, Int.reduceBNe, Int.reduceLT, Int.reduceLE, if_true, if_false, Bool.false_eq_true, decide_true, decide_false, List.zipIdx_nil, bne_self_eq_false]
  | m + 1, rem, out, cur, hm, hr, ho, hlo, hf => by
    rw [U_loop' f74l0.eq_1, U_seq, U_seq]
    refine U_nxt_cons rfl (by intro h; rw [List.map_eq_nil_iff] at h; rw [h] at hm; simp at hm) fun i kv hkv => ?_
    rw [List.getElem?_map, Option.map_eq_some_iff] at hkv
    obtain ⟨⟨e, w⟩, hi, rfl⟩ := hkv
    have hlt := (List.getElem?_eq_some_iff.1 hi).1
    obtain ⟨g1, g2, g3, g4⟩ := hr _ (List.mem_of_getElem? hi)
    simp only at g1 g2 g3 g4
    obtain ⟨x, hx⟩ := step_at g1.1.1
    have hxm := List.mem_of_getElem? hx
    have hs0 := g1.1.1.1
    have hb := fun t k => loop74b p hp e g1 x hx (hxl x hxm) w n g2 hn g3 (by omega) [pairW encW (e, w)] (wM (rem.eraseIdx i)) (t := t) (k := k) x.exits.length 0 out (by omega) ho hlo
    have hc : ((x.exits.drop 0).filterMap fun c => (extX p x e c).map fun r => (r.1, (⟨w.cs ++ [c], w.tm + r.2⟩ : Way))) = cand1 (exP p) (extP p) (e, w) := by
      unfold cand1
      simp only [List.drop_zero, exP_at hx, extP_at hx]
    rw [hc] at hb
    have hp1 := foldG_perm (flatMap_erase (cand1 (exP p) (extP p)) rem i (e, w) hi) (lookW out)
    rw [List.foldl_append] at hp1
    have ih := loop74a p hp hxl n hn fin hfs hfin m (rem.eraseIdx i) ((cand1 (exP p) (extP p) (e, w)).foldl updM out) [pairW encW (e, w)] (by rw [List.length_eraseIdx_of_lt hlt]; omega) (fun y hy => hr y (List.mem_of_mem_eraseIdx hy)) (foldM_sorted _ ho)
      (by
        have key : ∀ (l : List (State × Way)) (out : List (State × Way)), Sorted out → lenM (n + 1) out → (∀ y ∈ l, y.2.cs.length = n + 1) → lenM (n + 1) (l.foldl updM out) := by
          intro l
          induction l with
          | nil => exact fun out _ h _ => h
          | cons y l ih => exact fun out hs h hl => ih (updM out y) (updM_sorted hs y) (lenM_upd hs h (hl y (by simp))) fun z hz => hl z (List.mem_cons_of_mem _ hz)
        refine key _ out ho hlo fun y hy => ?_
        obtain ⟨c, r, -, -, rfl⟩ := (mem_cand1 _ _ _ _).1 hy
        simp [g2]) (by rw [foldM_look _ ho, ← hp1]; exact hf)
    have hmap : (wM rem).eraseIdx i = wM (rem.eraseIdx i) := map_erase _ _ _
    simp only [hmap, cState, pairW, encW, ints, Int.cast_ofNat_Int] at hb ih ⊢
    simp only [hs0, hx, hb, ih, cp_ownW, leaf_ownW, cStep, cSteps, ints, List.replicate, List.set, wx, I, exec, resOf, reduceIte, reduceCtorEq, ne_eq, not_false_eq_true, Root.bx.injEq, Root.tm.injEq, Nat.reduceAdd, Nat.reduceBEq, Nat.reduceBNe, Nat.reduceEqDiff, Nat.reduceLT, Nat.reduceLeDiff, Nat.reduceMul, Nat.reduceSub, Int.reduceToNat, Int.reduceEq, Int.reduceBEq, Int.reduceBNe, Int.reduceLT, Int.reduceLE, if_true, if_false, Bool.false_eq_true, decide_true, decide_false, List.zipIdx_nil, bne_self_eq_false]

/-- The best ways with one command more, in order. -/
def longerM (p : Plan) (l : List (State × Way)) : List (State × Way) := (l.flatMap (cand1 (exP p) (extP p))).foldl updM []

theorem pc_longer (p : Plan) (hp : OkP p) (hxl : ∀ x ∈ p.steps, x.exits.length ≤ 1000) (n : Nat) (hn : n ≤ 100) (l : List (State × Way)) (hl : okM p n l) : pc E 74 [.agg (cPlan p), .mp .s (wM l)] = some (.mp .x (wM (longerM p l))) := by
  refine pc_code (mf := f74) rfl ?_
  rw [runF_U rfl]
  have h := fun t k r hfin => loop74a p hp hxl n hn (longerM p l) (foldM_sorted _ List.Pairwise.nil) (t := t) (k := k) (r := r) hfin l.length l [] [] rfl hl List.Pairwise.nil (fun y hy => by cases hy) (by unfold longerM; rw [foldM_look _ List.Pairwise.nil])
  simp only [List.map_nil] at h
  simp only [f74, wx, I, exec, resOf, reduceIte, reduceCtorEq, ne_eq, not_false_eq_true, Root.bx.injEq, Root.tm.injEq, Nat.reduceAdd, Nat.reduceBEq, Nat.reduceBNe, Nat.reduceEqDiff, Nat.reduceLT, Nat.reduceLeDiff, Nat.reduceMul, Nat.reduceSub, Int.reduceToNat, Int.reduceEq, Int.reduceBEq, Int.reduceBNe, Int.reduceLT, Int.reduceLE, if_true, if_false, Bool.false_eq_true, decide_true, decide_false, List.zipIdx_nil, bne_self_eq_false]
  rw [h _ _ (.mp .x (wM (longerM p l)))]
  simp only [wx, I, exec, resOf, reduceIte, reduceCtorEq, ne_eq, not_false_eq_true, Root.bx.injEq, Root.tm.injEq, Nat.reduceAdd, Nat.reduceBEq, Nat.reduceBNe, Nat.reduceEqDiff, Nat.reduceLT, Nat.reduceLeDiff, Nat.reduceMul, Nat.reduceSub, Int.reduceToNat, Int.reduceEq, Int.reduceBEq, Int.reduceBNe, Int.reduceLT, Int.reduceLE, if_true, if_false, Bool.false_eq_true, decide_true, decide_false, List.zipIdx_nil, bne_self_eq_false]

end Go.ViD
end
section
/- The fastest way: what the program's function answers. -/
set_option linter.unusedSimpArgs false
set_option linter.unusedVariables false
namespace Go.ViD
open Go.Vi

/-- The best way, as a box holds it. -/
def encB : Option Way → List V
  | none => [.sl .a 1 [], I 0]
  | some w => [.sl .s 1 (ints w.cs), I w.tm]

def wcs : Option Way → List Int
  | none => []
  | some w => w.cs
def wtm : Option Way → Int
  | none => 0
  | some w => w.tm

theorem encB_cases (o : Option Way) : ∃ ow, encB o = [.sl ow 1 (ints (wcs o)), I (wtm o)] ∧ (ow = .s ∨ ow = .a) := by
  cases o with
  | none => exact ⟨.a, rfl, Or.inr rfl⟩
  | some w => exact ⟨.s, rfl, Or.inl rfl⟩

/-- The entries that are at the step. -/
def atTo (to : Int) (l : List (State × Way)) : List Way := (l.filter fun x => decide (x.1.step = to)).map (·.2)

theorem upd_perm {l l' : List Way} (h : l.Perm l') (o : Option Way) : l.foldl upd o = l'.foldl upd o := h.foldl_eq' (fun x _ y _ z => upd_comm z x y) o

theorem atTo_perm (to : Int) {l l' : List (State × Way)} (h : l.Perm l') : (atTo to l).Perm (atTo to l') := (h.filter _).map _

theorem perm_erase {α : Type} : ∀ (l : List α) (i : Nat) (x : α), l[i]? = some x → l.Perm (x :: l.eraseIdx i)
  | [], _, _, h => by simp at h
  | y :: l, 0, x, h => by
    simp only [List.getElem?_cons_zero, Option.some.injEq] at h
    subst h
    simp
  | y :: l, i + 1, x, h => by
    simp only [List.getElem?_cons_succ] at h
    simp only [List.eraseIdx_cons_succ]
    exact ((perm_erase l i x h).cons y).trans (List.Perm.swap ..)

theorem loop18b (p : Plan) (to : Int) (n : Nat) (hn : n ≤ 100) (found : Bool) (M : List (State × Way)) (best : List V) (i0 : Int) (fin : Option Way) {t : List Todo} {k : Ex → St → Option V} {r : V}
    (hfin : U (pc E) t (.exit 2) ⟨[(2, I to), (9, .loc 9 0), (11, .loc 11 0), (12, .bool found), (13, .mp .s (wM M)), (14, .loc 14 0), (15, .bool fin.isSome), (58, I i0)], [(9, false, cPlan p), (11, false, best), (14, false, encB fin)]⟩ k = some r) :
    ∀ (m : Nat) (rem : List (State × Way)) (here : Option Way) (cur : List (V × V)), rem.length = m → lenM n rem → (∀ w, here = some w → w.cs.length = n) → (atTo to rem).foldl upd here = fin →
    U (pc E) (.c (.loop f18l1) :: t) .normal ⟨[(2, I to), (9, .loc 9 0), (11, .loc 11 0), (12, .bool found), (13, .mp .s (wM M)), (14, .loc 14 0), (15, .bool here.isSome), (58, I i0), (61, .it cur (wM rem))], [(9, false, cPlan p), (11, false, best), (14, false, encB here)]⟩ k = some r
  | 0, rem, here, cur, hm, hr, hh, hf => by
    have h0 : rem = [] := List.eq_nil_of_length_eq_zero hm
    subst h0
    have h1 : here = fin := hf
    subst h1
    rw [U_loop' f18l1.eq_1, U_seq, U_seq, U_nxt_nil (cur := cur) rfl]
    simp only [hfin, wx, I, exec, resOf, reduceIte, reduceCtorEq, ne_eq, not_false_eq_true, Root.bx.injEq, Root.tm.injEq, Nat.reduceAdd, Nat.reduceBEq, Nat.reduceBNe, Nat.reduceEqDiff, Nat.reduceLT, Nat.reduceLeDiff, Nat.reduceMul, Nat.reduceSub, Int.reduceToNat, Int.reduceEq, Int.reduceBEq, Int.reduceBNe, Int.reduceLT, Int.reduceLE, if_true, if_false, Bool.false_eq_true, decide_true, decide_false, List.zipIdx_nil, bne_self_eq_false]
  | m + 1, rem, here, cur, hm, hr, hh, hf => by
    rw [U_loop' f18l1.eq_1, U_seq, U_seq]
    refine U_nxt_cons rfl (by intro h; rw [List.map_eq_nil_iff] at h; rw [h] at hm; simp at hm) fun i kv hkv => ?_
    rw [List.getElem?_map, Option.map_eq_some_iff] at hkv
    obtain ⟨⟨e, w⟩, hi, rfl⟩ := hkv
    have hlt := (List.getElem?_eq_some_iff.1 hi).1
    have hwl : w.cs.length = n := hr _ (List.mem_of_getElem? hi)
    have hp := upd_perm (atTo_perm to (perm_erase rem i (e, w) hi)) here
    have hmap : (wM rem).eraseIdx i = wM (rem.eraseIdx i) := map_erase _ _ _
    have hl2 : (rem.eraseIdx i).length = m := by rw [List.length_eraseIdx_of_lt hlt]; omega
    have hr2 : lenM n (rem.eraseIdx i) := fun y hy => hr y (List.mem_of_mem_eraseIdx hy)
    by_cases he : e.step = to
    · have ha : atTo to ((e, w) :: rem.eraseIdx i) = w :: atTo to (rem.eraseIdx i) := by simp [atTo, he]
      have heb : (e.step == to) = true := by simpa using he
      rw [ha, List.foldl_cons, hf] at hp
      cases here with
      | none =>
        have ih := loop18b p to n hn found M best i0 fin hfin m (rem.eraseIdx i) (some w) [pairW encW (e, w)] hl2 hr2 (fun u hu => by cases hu; exact hwl) hp.symm
        simp only [encB, Option.isSome_some, Option.isSome_none, pairW, encW, cState, ints] at ih ⊢
        simp only [hmap, heb, ih, pairW, encW, cp_ownW, leaf_ownW, ints, cState, List.replicate, List.set, wx, I, exec, resOf, reduceIte, reduceCtorEq, ne_eq, not_false_eq_true, Root.bx.injEq, Root.tm.injEq, Nat.reduceAdd, Nat.reduceBEq, Nat.reduceBNe, Nat.reduceEqDiff, Nat.reduceLT, Nat.reduceLeDiff, Nat.reduceMul, Nat.reduceSub, Int.reduceToNat, Int.reduceEq, Int.reduceBEq, Int.reduceBNe, Int.reduceLT, Int.reduceLE, if_true, if_false, Bool.false_eq_true, decide_true, decide_false, List.zipIdx_nil, bne_self_eq_false]
      | some v =>
        have hvl := hh v rfl
        have hb := pc_before w.tm w.cs v.tm v.cs (by omega) (by omega)
        rw [before_lt3 (by rw [hwl, hvl])] at hb
        simp only [ints] at hb
        by_cases hc : lt3 w v
        · have hu : upd (some v) w = some w := by simp [upd, hc]
          rw [hu] at hp
          have ih := loop18b p to n hn found M best i0 fin hfin m (rem.eraseIdx i) (some w) [pairW encW (e, w)] hl2 hr2 (fun u hu => by cases hu; exact hwl) hp.symm
          simp only [encB, Option.isSome_some, Option.isSome_none, pairW, encW, cState, ints] at ih ⊢
          simp only [hmap, heb, hb, hc, ih, pairW, encW, cp_ownW, leaf_ownW, ints, cState, List.replicate, List.set, wx, I, exec, resOf, reduceIte, reduceCtorEq, ne_eq, not_false_eq_true, Root.bx.injEq, Root.tm.injEq, Nat.reduceAdd, Nat.reduceBEq, Nat.reduceBNe, Nat.reduceEqDiff, Nat.reduceLT, Nat.reduceLeDiff, Nat.reduceMul, Nat.reduceSub, Int.reduceToNat, Int.reduceEq, Int.reduceBEq, Int.reduceBNe, Int.reduceLT, Int.reduceLE, if_true, if_false, Bool.false_eq_true, decide_true, decide_false, List.zipIdx_nil, bne_self_eq_false]
        · have hu : upd (some v) w = some v := by simp [upd, hc]
          rw [hu] at hp
          have ih := loop18b p to n hn found M best i0 fin hfin m (rem.eraseIdx i) (some v) [pairW encW (e, w)] hl2 hr2 (fun u hu => by cases hu; exact hvl) hp.symm
          simp only [encB, Option.isSome_some, Option.isSome_none, pairW, encW, cState, ints] at ih ⊢
          simp only [hmap, heb, hb, hc, ih, pairW, encW, cp_ownW, leaf_ownW, ints, cState, List.replicate, List.set, wx, I, exec, resOf, reduceIte, reduceCtorEq, ne_eq, not_false_eq_true, Root.bx.injEq, Root.tm.injEq, Nat.reduceAdd, Nat.reduceBEq, Nat.reduceBNe, Nat.reduceEqDiff, Nat.reduceLT, Nat.reduceLeDiff, Nat.reduceMul, Nat.reduceSub, Int.reduceToNat, Int.reduceEq, Int.reduceBEq, Int.reduceBNe, Int.reduceLT, Int.reduceLE, if_true, if_false, Bool.false_eq_true, decide_true, decide_false, List.zipIdx_nil, bne_self_eq_false]
    · have ha : atTo to ((e, w) :: rem.eraseIdx i) = atTo to (rem.eraseIdx i) := by simp [atTo, he]
      have heb : (e.step == to) = false := by simpa using he
      rw [ha, hf] at hp
      have ih := loop18b p to n hn found M best i0 fin hfin m (rem.eraseIdx i) here [pairW encW (e, w)] hl2 hr2 hh hp.symm
      obtain ⟨ow, hB, hO⟩ := encB_cases here
      simp only [hB, pairW, encW, cState, ints] at ih ⊢
      simp only [hmap, heb, ih, pairW, encW, cp_ownW, leaf_ownW, ints, cState, List.replicate, List.set, wx, I, exec, resOf, reduceIte, reduceCtorEq, ne_eq, not_false_eq_true, Root.bx.injEq, Root.tm.injEq, Nat.reduceAdd, Nat.reduceBEq, Nat.reduceBNe, Nat.reduceEqDiff, Nat.reduceLT, Nat.reduceLeDiff, Nat.reduceMul, Nat.reduceSub, Int.reduceToNat, Int.reduceEq, Int.reduceBEq, Int.reduceBNe, Int.reduceLT, Int.reduceLE, if_true, if_false, Bool.false_eq_true, decide_true, decide_false, List.zipIdx_nil, bne_self_eq_false]

/-- The best ways of so many commands, by their ends. -/
def mapN (p : Plan) (s : State) : Nat → List (State × Way)
  | 0 => [(s, ⟨[], 0⟩)]
  | n + 1 => longerM p (mapN p s n)
def hereN (p : Plan) (s : State) (to : Int) (n : Nat) : Option Way := (atTo to (mapN p s n)).foldl upd none
def bestN (p : Plan) (s : State) (to : Int) : Nat → Option Way
  | 0 => none
  | n + 1 => match hereN p s to n with
    | none => bestN p s to n
    | some h => match bestN p s to n with
      | none => some h
      | some b => if h.tm < b.tm then some h else some b

theorem mapN_sorted (p : Plan) (s : State) : ∀ n, Sorted (mapN p s n)
  | 0 => by simp [mapN, Sorted]
  | n + 1 => foldM_sorted _ List.Pairwise.nil

theorem mapN_least {p : Plan} (hp : OkP p) {s : State} (hs : goodS p s) : ∀ (n : Nat) (e : State), Least (allQ (exP p) (extP p) s n e) (lookW (mapN p s n) e)
  | 0, e => by
    unfold mapN allQ
    rw [lookW_cons]
    by_cases h : e = s
    · rw [if_pos h]; exact ⟨⟨h, rfl⟩, fun u hu => by rw [hu.2]; exact lt3_irrefl _⟩
    · rw [if_neg h]; exact fun w hw => h hw.1
  | n + 1, e => by
    have ih := mapN_least hp hs n
    have hg := all_good (exP p) (extP p) s (goodS p) hs 4000000 (by omega) (fun e c r he hc hr => ext_ok hp he hc hr) n
    have h := least_next (exP p) (extP p) (fun e w hq => (hg e w hq).2.1) (l := mapN p s n) (g := lookW (mapN p s n)) (fun e w => (lookW_mem (mapN_sorted p s n) e w).symm) ih (fun _ => true) e
    have hf : ((mapN p s n).flatMap (cand1 (exP p) (extP p))).filter (fun _ => true) = (mapN p s n).flatMap (cand1 (exP p) (extP p)) := List.filter_eq_self.2 fun _ _ => rfl
    rw [hf] at h
    have hl : lookW (mapN p s (n + 1)) = ((mapN p s n).flatMap (cand1 (exP p) (extP p))).foldl updG fun _ => none := by
      show lookW (longerM p (mapN p s n)) = _
      unfold longerM
      have e : (lookW ([] : List (State × Way))) = fun _ => none := funext fun _ => rfl
      rw [foldM_look _ List.Pairwise.nil, e]
    rw [hl]
    exact h.congr fun w => by simp [allQ]

theorem mapN_ok {p : Plan} (hp : OkP p) {s : State} (hs : goodS p s) (n : Nat) : okM p n (mapN p s n) := by
  intro y hy
  have h1 := (lookW_mem (mapN_sorted p s n) y.1 y.2).2 hy
  have h2 := mapN_least hp hs n y.1
  rw [h1] at h2
  exact all_good (exP p) (extP p) s (goodS p) hs 4000000 (by omega) (fun e c r he hc hr => ext_ok hp he hc hr) n y.1 y.2 h2.1

theorem hereN_len {p : Plan} (hp : OkP p) {s : State} (hs : goodS p s) (to : Int) (n : Nat) (w : Way) (h : hereN p s to n = some w) : w.cs.length = n := by
  have h1 := least_fold (atTo to (mapN p s n)) (P := fun _ => False) (o := none) (fun w h => h)
  unfold hereN at h
  rw [h] at h1
  have h2 := h1.1
  simp only [false_or, atTo, List.mem_map, List.mem_filter] at h2
  obtain ⟨y, ⟨hy, -⟩, rfl⟩ := h2
  exact (mapN_ok hp hs n y hy).2.1

theorem loop18a (p : Plan) (hp : OkP p) (hxl : ∀ x ∈ p.steps, x.exits.length ≤ 1000) (s : State) (hs : goodS p s) (to : Int) {t : List Todo} {k : Ex → St → Option V} {r : V}
    (hfin : U (pc E) t (.exit 0) ⟨[(11, .loc 11 0), (12, .bool (bestN p s to 11).isSome)], [(11, false, encB (bestN p s to 11))]⟩ k = some r) :
    ∀ (m i : Nat), i + m = 11 →
    U (pc E) (.c (.loop f18l0) :: t) .normal ⟨[(2, I to), (9, .loc 9 0), (11, .loc 11 0), (12, .bool (bestN p s to i).isSome), (13, .mp .s (wM (mapN p s i))), (58, I i)], [(9, false, cPlan p), (11, false, encB (bestN p s to i))]⟩ k = some r
  | 0, i, hm => by
    rw [U_loop' f18l0.eq_1]
    have h0 : i = 11 := by omega
    subst h0
    have h1 : ¬ ((11 : Nat) : Int) < 11 := by omega
    simp only [h1, hfin, wx, I, exec, resOf, reduceIte, reduceCtorEq, ne_eq, not_false_eq_true, Root.bx.injEq, Root.tm.injEq, Nat.reduceAdd, Nat.reduceBEq, Nat.reduceBNe, Nat.reduceEqDiff, Nat.reduceLT, Nat.reduceLeDiff, Nat.reduceMul, Nat.reduceSub, Int.reduceToNat, Int.reduceEq, Int.reduceBEq, Int.reduceBNe, Int.reduceLT, Int.reduceLE, if_true, if_false, Bool.false_eq_true, decide_true, decide_false, List.zipIdx_nil, bne_self_eq_false]
  | m + 1, i, hm => by
    rw [U_loop' f18l0.eq_1]
    have h0 : ((i : Int) < 11) := by omega
    have hwi := wrap_succ (i := i) (by omega)
    have ih := loop18a p hp hxl s hs to hfin m (i + 1) (by omega)
    have hok := mapN_ok hp hs i
    have hlg := pc_longer p hp hxl i (by omega) (mapN p s i) hok
    have e1 : longerM p (mapN p s i) = mapN p s (i + 1) := rfl
    rw [e1] at hlg
    obtain ⟨ob, hB, hO⟩ := encB_cases (bestN p s to i)
    simp only [hB, h0, wx, I, exec, resOf, reduceIte, reduceCtorEq, ne_eq, not_false_eq_true, Root.bx.injEq, Root.tm.injEq, Nat.reduceAdd, Nat.reduceBEq, Nat.reduceBNe, Nat.reduceEqDiff, Nat.reduceLT, Nat.reduceLeDiff, Nat.reduceMul, Nat.reduceSub, Int.reduceToNat, Int.reduceEq, Int.reduceBEq, Int.reduceBNe, Int.reduceLT, Int.reduceLE, if_true, if_false, Bool.false_eq_true, decide_true, decide_false, List.zipIdx_nil, bne_self_eq_false]
    refine loop18b p to i (by omega) _ _ _ _ (hereN p s to i) (r := r) ?_ _ (mapN p s i) none [] rfl (fun y hy => (hok y hy).2.1) (fun w h => by cases h) rfl
    unfold bestN at ih
    cases hh : hereN p s to i with
    | none =>
      simp only [hh, hB] at ih
      simp only [encB, hlg, hwi, ih, Option.isSome_none, ints, wx, I, exec, resOf, reduceIte, reduceCtorEq, ne_eq, not_false_eq_true, Root.bx.injEq, Root.tm.injEq, Nat.reduceAdd, Nat.reduceBEq, Nat.reduceBNe, Nat.reduceEqDiff, Nat.reduceLT, Nat.reduceLeDiff, Nat.reduceMul, Nat.reduceSub, Int.reduceToNat, Int.reduceEq, Int.reduceBEq, Int.reduceBNe, Int.reduceLT, Int.reduceLE, if_true, if_false, Bool.false_eq_true, decide_true, decide_false, List.zipIdx_nil, bne_self_eq_false]
    | some h =>
      simp only [hh] at ih
      cases hb : bestN p s to i with
      | none =>
        simp only [hb, encB, Option.isSome_some, ints] at ih hB
        simp only [List.cons.injEq, V.sl.injEq, true_and] at hB
        simp only [← hB.1, wcs, wtm, List.map_nil, encB, hlg, hwi, ih, Option.isSome_none, Option.isSome_some, ints, wx, I, exec, resOf, reduceIte, reduceCtorEq, ne_eq, not_false_eq_true, Root.bx.injEq, Root.tm.injEq, Nat.reduceAdd, Nat.reduceBEq, Nat.reduceBNe, Nat.reduceEqDiff, Nat.reduceLT, Nat.reduceLeDiff, Nat.reduceMul, Nat.reduceSub, Int.reduceToNat, Int.reduceEq, Int.reduceBEq, Int.reduceBNe, Int.reduceLT, Int.reduceLE, if_true, if_false, Bool.false_eq_true, decide_true, decide_false, List.zipIdx_nil, bne_self_eq_false]
      | some b =>
        simp only [hb, encB] at hB
        simp only [List.cons.injEq, V.sl.injEq, true_and] at hB
        by_cases hc : h.tm < b.tm
        · simp only [hb, hc, encB, Option.isSome_some, ints, if_true] at ih
          simp only [← hB.1, wcs, wtm, hc, encB, hlg, hwi, ih, Option.isSome_none, Option.isSome_some, ints, wx, I, exec, resOf, reduceIte, reduceCtorEq, ne_eq, not_false_eq_true, Root.bx.injEq, Root.tm.injEq, Nat.reduceAdd, Nat.reduceBEq, Nat.reduceBNe, Nat.reduceEqDiff, Nat.reduceLT, Nat.reduceLeDiff, Nat.reduceMul, Nat.reduceSub, Int.reduceToNat, Int.reduceEq, Int.reduceBEq, Int.reduceBNe, Int.reduceLT, Int.reduceLE, if_true, if_false, Bool.false_eq_true, decide_true, decide_false, List.zipIdx_nil, bne_self_eq_false]
        · simp only [hb, hc, encB, Option.isSome_some, ints, if_false] at ih
          simp only [← hB.1, wcs, wtm, hc, encB, hlg, hwi, ih, Option.isSome_none, Option.isSome_some, ints, wx, I, exec, resOf, reduceIte, reduceCtorEq, ne_eq, not_false_eq_true, Root.bx.injEq, Root.tm.injEq, Nat.reduceAdd, Nat.reduceBEq, Nat.reduceBNe, Nat.reduceEqDiff, Nat.reduceLT, Nat.reduceLeDiff, Nat.reduceMul, Nat.reduceSub, Int.reduceToNat, Int.reduceEq, Int.reduceBEq, Int.reduceBNe, Int.reduceLT, Int.reduceLE, if_true, if_false, Bool.false_eq_true, decide_true, decide_false, List.zipIdx_nil, bne_self_eq_false]

/-- The error before the fastest way is looked for. -/
def fastE (p : Plan) (s : State) (to : Int) : Int :=
  if bothE p s noF = 0 then (if idxE p to = 0 then unl (steadyH p s && steadyH p ⟨to, 0⟩) 20 else idxE p to) else bothE p s noF

theorem fastE_zero {p : Plan} {s : State} {to : Int} (h : fastE p s to = 0) : bothE p s noF = 0 ∧ idxE p to = 0 ∧ steadyH p s = true ∧ steadyH p ⟨to, 0⟩ = true := by
  unfold fastE at h
  split at h
  · split at h
    · have := (unl_zero (by decide)).1 h
      simp only [Bool.and_eq_true] at this
      exact ⟨‹_›, ‹_›, this.1, this.2⟩
    · exact absurd h ‹_›
  · exact absurd h ‹_›

theorem pc_FastestWay (p : Plan) (hf : few p = true) (s : State) (to : Int) : pc E 18 [.agg (cPlan p), .agg (cState s), I to] =
    some (if fastE p s to = 0 then .tup [.sl .s 1 (ints (wcs (bestN p s to 11))), I (wtm (bestN p s to 11)), I (unl (bestN p s to 11).isSome 12)] else .tup [.sl .a 1 [], I 0, I (fastE p s to)]) := by
  refine pc_code (mf := f18) rfl ?_
  rw [runF_U rfl]
  have h1 := pc_openState p hf s noF
  have hfg := few_get hf
  have h2 := pc_idx1l p (by omega) to
  simp only [cFault, cState] at h1
  unfold fastE
  by_cases c1 : bothE p s noF = 0
  · obtain ⟨b1, b2, b3⟩ := both_of c1
    have ok := okP_of b1
    have hs := okS_of b2
    obtain ⟨x, hx⟩ := step_at hs.1
    have hs0 := hs.1.1
    by_cases c2 : idxE p to = 0
    · obtain ⟨y, hy⟩ := step_at (idxE_zero.1 c2)
      have hy0 := (idxE_zero.1 c2).1
      have h3 := pc_isSteady x
      have h4 := pc_isSteady y
      rw [← steadyH_at hx] at h3
      rw [← steadyH_at (s := ⟨to, 0⟩) (p := p) (x := y) hy] at h4
      simp only [cStep] at h3 h4
      have hxl : ∀ x ∈ p.steps, x.exits.length ≤ 1000 := fun x hx => by have := (hfg.2.2.2 x hx).2; omega
      simp only [f18, h1, c1, c2, h2, h3, h4, hx, hs0, hy, hy0, pc_unless, cSteps, cStep, List.replicate, List.set, wx, I, exec, resOf, reduceIte, reduceCtorEq, ne_eq, not_false_eq_true, Root.bx.injEq, Root.tm.injEq, Nat.reduceAdd, Nat.reduceBEq, Nat.reduceBNe, Nat.reduceEqDiff, Nat.reduceLT, Nat.reduceLeDiff, Nat.reduceMul, Nat.reduceSub, Int.reduceToNat, Int.reduceEq, Int.reduceBEq, Int.reduceBNe, Int.reduceLT, Int.reduceLE, if_true, if_false, Bool.false_eq_true, decide_true, decide_false, List.zipIdx_nil, bne_self_eq_false]
      rcases Bool.eq_false_or_eq_true (steadyH p s) with d1 | d1
      · rcases Bool.eq_false_or_eq_true (steadyH p ⟨to, 0⟩) with d2 | d2
        · have hfit : fits true ks2 (.agg (cState s)) = true := by simp [fits, leq_state]
          have hset : setM true ks2 (.agg (cState s)) (.agg [.sl .a 1 [], I 0]) [] = some [(.agg (cState s), .agg [.sl .a 1 [], I 0])] := rfl
          simp only [cState] at hfit hset
          simp only [d1, d2, hy, hy0, h4, hfit, hset, unl, cSteps, cStep, pc_unless, List.replicate, List.set, wx, I, exec, resOf, reduceIte, reduceCtorEq, ne_eq, not_false_eq_true, Root.bx.injEq, Root.tm.injEq, Nat.reduceAdd, Nat.reduceBEq, Nat.reduceBNe, Nat.reduceEqDiff, Nat.reduceLT, Nat.reduceLeDiff, Nat.reduceMul, Nat.reduceSub, Int.reduceToNat, Int.reduceEq, Int.reduceBEq, Int.reduceBNe, Int.reduceLT, Int.reduceLE, if_true, if_false, Bool.false_eq_true, decide_true, decide_false, List.zipIdx_nil, bne_self_eq_false]
          have hl := fun t k r hfin => loop18a p ok hxl s ⟨hs, d1⟩ to (t := t) (k := k) (r := r) hfin 11 0 (by omega)
          have b0 : bestN p s to 0 = none := rfl
          have m0 : wM (mapN p s 0) = [(.agg (cState s), .agg [.sl .a 1 [], I 0])] := rfl
          have n0 : encB none = [.sl .a 1 [], I 0] := rfl
          simp only [b0, m0, n0, cState, Option.isSome_none, Int.cast_ofNat_Int] at hl
          refine hl _ _ _ ?_
          obtain ⟨ob, hB, hO⟩ := encB_cases (bestN p s to 11)
          simp only [hB, pc_unless, wx, I, exec, resOf, reduceIte, reduceCtorEq, ne_eq, not_false_eq_true, Root.bx.injEq, Root.tm.injEq, Nat.reduceAdd, Nat.reduceBEq, Nat.reduceBNe, Nat.reduceEqDiff, Nat.reduceLT, Nat.reduceLeDiff, Nat.reduceMul, Nat.reduceSub, Int.reduceToNat, Int.reduceEq, Int.reduceBEq, Int.reduceBNe, Int.reduceLT, Int.reduceLE, if_true, if_false, Bool.false_eq_true, decide_true, decide_false, List.zipIdx_nil, bne_self_eq_false]
          rcases hO with rfl | rfl <;> simp only [pc_unless, unl, wx, I, exec, resOf, reduceIte, reduceCtorEq, ne_eq, not_false_eq_true, Root.bx.injEq, Root.tm.injEq, Nat.reduceAdd, Nat.reduceBEq, Nat.reduceBNe, Nat.reduceEqDiff, Nat.reduceLT, Nat.reduceLeDiff, Nat.reduceMul, Nat.reduceSub, Int.reduceToNat, Int.reduceEq, Int.reduceBEq, Int.reduceBNe, Int.reduceLT, Int.reduceLE, if_true, if_false, Bool.false_eq_true, decide_true, decide_false, List.zipIdx_nil, bne_self_eq_false]
        · simp only [d1, d2, hy, hy0, h4, unl, cSteps, cStep, pc_unless, List.replicate, List.set, wx, I, exec, resOf, reduceIte, reduceCtorEq, ne_eq, not_false_eq_true, Root.bx.injEq, Root.tm.injEq, Nat.reduceAdd, Nat.reduceBEq, Nat.reduceBNe, Nat.reduceEqDiff, Nat.reduceLT, Nat.reduceLeDiff, Nat.reduceMul, Nat.reduceSub, Int.reduceToNat, Int.reduceEq, Int.reduceBEq, Int.reduceBNe, Int.reduceLT, Int.reduceLE, if_true, if_false, Bool.false_eq_true, decide_true, decide_false, List.zipIdx_nil, bne_self_eq_false]
      · simp only [d1, hy, hy0, h4, unl, cSteps, cStep, pc_unless, List.replicate, List.set, wx, I, exec, resOf, reduceIte, reduceCtorEq, ne_eq, not_false_eq_true, Root.bx.injEq, Root.tm.injEq, Nat.reduceAdd, Nat.reduceBEq, Nat.reduceBNe, Nat.reduceEqDiff, Nat.reduceLT, Nat.reduceLeDiff, Nat.reduceMul, Nat.reduceSub, Int.reduceToNat, Int.reduceEq, Int.reduceBEq, Int.reduceBNe, Int.reduceLT, Int.reduceLE, if_true, if_false, Bool.false_eq_true, decide_true, decide_false, List.zipIdx_nil, bne_self_eq_false]
    · have c3 : (idxE p to == 0) = false := by simp [c2]
      have c4 : (idxE p to != 0) = true := by simp [c2]
      simp only [f18, h1, c1, c2, c3, c4, h2, List.replicate, List.set, wx, I, exec, resOf, reduceIte, reduceCtorEq, ne_eq, not_false_eq_true, Root.bx.injEq, Root.tm.injEq, Nat.reduceAdd, Nat.reduceBEq, Nat.reduceBNe, Nat.reduceEqDiff, Nat.reduceLT, Nat.reduceLeDiff, Nat.reduceMul, Nat.reduceSub, Int.reduceToNat, Int.reduceEq, Int.reduceBEq, Int.reduceBNe, Int.reduceLT, Int.reduceLE, if_true, if_false, Bool.false_eq_true, decide_true, decide_false, List.zipIdx_nil, bne_self_eq_false]
  · have c3 : (bothE p s noF == 0) = false := by simp [c1]
    have c4 : (bothE p s noF != 0) = true := by simp [c1]
    simp only [f18, h1, c1, c3, c4, List.replicate, List.set, wx, I, exec, resOf, reduceIte, reduceCtorEq, ne_eq, not_false_eq_true, Root.bx.injEq, Root.tm.injEq, Nat.reduceAdd, Nat.reduceBEq, Nat.reduceBNe, Nat.reduceEqDiff, Nat.reduceLT, Nat.reduceLeDiff, Nat.reduceMul, Nat.reduceSub, Int.reduceToNat, Int.reduceEq, Int.reduceBEq, Int.reduceBNe, Int.reduceLT, Int.reduceLE, if_true, if_false, Bool.false_eq_true, decide_true, decide_false, List.zipIdx_nil, bne_self_eq_false]

end Go.ViD
end
