/- Operations that may be done in any order. -/
import Derived.Test.YtomimhedehecdaaDoorViSound2
namespace Go.Vi
variable {call : FuncId → List V → Option V} {st st' st1 : St}

theorem put_comm {α : Type} {a b : Nat} (hab : a ≠ b) (x y : α) : ∀ l : List (Nat × α), put (put l a x) b y = put (put l b y) a x
  | [] => by
    have hba : b ≠ a := fun e => hab e.symm
    rcases Nat.lt_or_gt_of_ne hab with h | h
    · simp [put, hab, hba, h, show ¬ b < a by omega]
    · simp [put, hab, hba, h, show ¬ a < b by omega]
  | (k, u) :: l => by
    have ih := put_comm hab x y l
    have hba : b ≠ a := fun e => hab e.symm
    by_cases h1 : k = a
    · subst h1
      by_cases h2 : k < b
      · simp [put, hab, h2]
      · simp [put, hab, h2, hba, show b < k by omega]
    · by_cases h3 : k = b
      · subst h3
        by_cases h2 : k < a
        · simp [put, h1, h2]
        · simp [put, h1, h2, hab, show a < k by omega]
      · by_cases h4 : k < a
        · by_cases h5 : k < b
          · simp [put, h1, h3, h4, h5, ih]
          · simp [put, h1, h3, h4, h5, hba, show b < a by omega]
        · by_cases h5 : k < b
          · simp [put, h1, h3, h4, h5, hab, show a < b by omega]
          · rcases Nat.lt_or_gt_of_ne hab with h | h
            · simp [put, h1, h3, h4, h5, hab, hba, h, show ¬ b < a by omega]
            · simp [put, h1, h3, h4, h5, hab, hba, h, show ¬ a < b by omega]

/-! ### what an operation changes -/
structure D where
  tm : List (Nat × V)
  bx : List (Nat × (Bool × List V))

def puts {α : Type} (δ : List (Nat × α)) (l : List (Nat × α)) : List (Nat × α) := δ.foldl (fun l p => put l p.1 p.2) l
def D.ap (δ : D) (st : St) : St := { tm := puts δ.tm st.tm, bx := puts δ.bx st.bx }

theorem puts_put {α : Type} {d : Nat} {v : α} : ∀ {δ : List (Nat × α)} (_ : ∀ p ∈ δ, p.1 ≠ d) (l : List (Nat × α)), puts δ (put l d v) = put (puts δ l) d v
  | [], _, _ => rfl
  | p :: δ, h, l => by
    simp only [puts, List.foldl_cons]
    rw [put_comm (fun e => h p (by simp) e.symm)]
    exact puts_put (fun q hq => h q (List.mem_cons_of_mem _ hq)) _

theorem puts_comm {α : Type} : ∀ {δ ε : List (Nat × α)} (_ : ∀ p ∈ δ, ∀ q ∈ ε, p.1 ≠ q.1) (l : List (Nat × α)), puts δ (puts ε l) = puts ε (puts δ l)
  | δ, [], _, _ => rfl
  | δ, q :: ε, h, l => by
    have e1 : puts (q :: ε) l = puts ε (put l q.1 q.2) := rfl
    have e2 : puts (q :: ε) (puts δ l) = puts ε (put (puts δ l) q.1 q.2) := rfl
    rw [e1, e2, puts_comm (fun p hp r hr => h p hp r (List.mem_cons_of_mem _ hr)), puts_put fun p hp => h p hp q (by simp)]

theorem get_puts_other {α : Type} {t : Nat} : ∀ {δ : List (Nat × α)} (_ : ∀ p ∈ δ, p.1 ≠ t) (l : List (Nat × α)), get (puts δ l) t = get l t
  | [], _, _ => rfl
  | p :: δ, h, l => by
    have e1 : puts (p :: δ) l = puts δ (put l p.1 p.2) := rfl
    rw [e1, get_puts_other (fun q hq => h q (List.mem_cons_of_mem _ hq)), get_put, if_neg fun e => h p (by simp) e.symm]

theorem get_puts_mem {α : Type} {t : Nat} : ∀ {δ : List (Nat × α)} (_ : ∃ p ∈ δ, p.1 = t) (l : List (Nat × α)), ∃ p ∈ δ, p.1 = t ∧ get (puts δ l) t = some p.2
  | [], h, _ => by obtain ⟨p, hp, _⟩ := h; cases hp
  | p :: δ, h, l => by
    have e1 : puts (p :: δ) l = puts δ (put l p.1 p.2) := rfl
    by_cases h1 : ∃ q ∈ δ, q.1 = t
    · obtain ⟨q, hq, h2, h3⟩ := get_puts_mem h1 (put l p.1 p.2)
      exact ⟨q, List.mem_cons_of_mem _ hq, h2, by rw [e1]; exact h3⟩
    · have hne : ∀ q ∈ δ, q.1 ≠ t := fun q hq e => h1 ⟨q, hq, e⟩
      obtain ⟨q, hq, h2⟩ := h
      rcases List.mem_cons.1 hq with h3 | h3
      · subst h3
        refine ⟨q, by simp, h2, ?_⟩
        rw [e1, get_puts_other hne, get_put, if_pos h2.symm]
      · exact absurd h2 (hne q h3)

/-! ### sorted slots -/
theorem incr_cons {k : Nat} {u : V} {l : List (Nat × V)} : incr ((k, u) :: l) = true ↔ incr l = true ∧ ∀ p ∈ l, k < p.1 := by
  induction l generalizing k u with
  | nil => simp [incr]
  | cons q l ih =>
    obtain ⟨k', v⟩ := q
    simp only [incr, Bool.and_eq_true, decide_eq_true_eq]
    constructor
    · rintro ⟨h1, h2⟩
      refine ⟨h2, fun p hp => ?_⟩
      rcases List.mem_cons.1 hp with rfl | hp
      · exact h1
      · have := (ih.1 h2).2 p hp; omega
    · rintro ⟨h1, h2⟩
      exact ⟨h2 (k', v) (by simp), h1⟩

theorem mem_put {α : Type} {d : Nat} {v : α} {p : Nat × α} : ∀ {l : List (Nat × α)}, p ∈ put l d v → p = (d, v) ∨ p ∈ l
  | [], h => by simp [put] at h; exact .inl h
  | (k, u) :: l, h => by
    unfold put at h
    split at h
    · rcases List.mem_cons.1 h with h | h
      · exact .inl h
      · exact .inr (List.mem_cons_of_mem _ h)
    · split at h
      · rcases List.mem_cons.1 h with h | h
        · exact .inr (h ▸ List.mem_cons_self)
        · exact (mem_put h).imp_right (List.mem_cons_of_mem _)
      · rcases List.mem_cons.1 h with h | h
        · exact .inl h
        · exact .inr h

theorem incr_put {d : Nat} {v : V} : ∀ {l : List (Nat × V)}, incr l = true → incr (put l d v) = true
  | [], _ => rfl
  | (k, u) :: l, h => by
    obtain ⟨h1, h2⟩ := incr_cons.1 h
    unfold put
    split
    · rename_i e; subst e; exact incr_cons.2 ⟨h1, h2⟩
    · split
      · rename_i hk
        refine incr_cons.2 ⟨incr_put h1, fun p hp => ?_⟩
        rcases mem_put hp with rfl | hp
        · exact hk
        · exact h2 p hp
      · refine incr_cons.2 ⟨h, fun p hp => ?_⟩
        rcases List.mem_cons.1 hp with rfl | hp
        · show d < k; omega
        · have := h2 p hp; omega

theorem incr_puts : ∀ {δ : List (Nat × V)} {l : List (Nat × V)}, incr l = true → incr (puts δ l) = true
  | [], _, h => h
  | _ :: δ, _, h => incr_puts (δ := δ) (incr_put h)

theorem incr_get {l : List (Nat × V)} (h : incr l = true) {t : Nat} {u : V} (hm : (t, u) ∈ l) : get l t = some u := by
  induction l with
  | nil => cases hm
  | cons q l ih =>
    obtain ⟨k, v⟩ := q
    obtain ⟨h1, h2⟩ := incr_cons.1 h
    rcases List.mem_cons.1 hm with e | hm
    · cases e; simp [get]
    · have := h2 _ hm
      have hne : ¬ k = t := by dsimp only at this; omega
      simp only [get, if_neg hne]
      exact ih h1 hm

/-! ### names -/
/-- Does a value point to a box (true) or to a slot's slice (false)? -/
def nm (k : Bool) (d : Nat) : V → Bool
  | .loc e _ => k && e == d
  | .el e _ _ | .rf e => !k && e == d
  | _ => false

theorem nm_data {k : Bool} {d : Nat} {v : V} (h : data v = true) : nm k d v = false := by
  cases v <;> simp_all [data, nm]

theorem noref_iff {l : List (Nat × V)} (h : incr l = true) {d : Nat} : noref d l = true ↔ ∀ t u, get l t = some u → nm false d u = false := by
  have key : ∀ (l : List (Nat × V)), noref d l = true ↔ ∀ p ∈ l, nm false d p.2 = false := by
    intro l
    induction l with
    | nil => simp [noref]
    | cons p l ih =>
      obtain ⟨t, u⟩ := p
      simp only [List.mem_cons, forall_eq_or_imp, ← ih]
      cases u <;> simp [noref, nm]
  rw [key]
  exact ⟨fun h1 t u hg => h1 (t, u) (get_mem hg), fun h1 p hp => h1 p.1 p.2 (incr_get h hp)⟩

theorem away_iff {l : List (Nat × V)} (h : incr l = true) {d : Nat} : away d l = true ↔ ∀ t u, get l t = some u → t = d ∨ nm true d u = false := by
  have key : ∀ (l : List (Nat × V)), away d l = true ↔ ∀ p ∈ l, p.1 = d ∨ nm true d p.2 = false := by
    intro l
    induction l with
    | nil => simp [away]
    | cons p l ih =>
      obtain ⟨t, u⟩ := p
      simp only [List.mem_cons, forall_eq_or_imp, ← ih]
      cases u <;> simp [away, nm]
  rw [key]
  exact ⟨fun h1 t u hg => h1 (t, u) (get_mem hg), fun h1 p hp => h1 p.1 p.2 (incr_get h hp)⟩

end Go.Vi
