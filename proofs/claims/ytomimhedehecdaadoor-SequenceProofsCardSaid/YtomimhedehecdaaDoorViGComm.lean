import Derived.Test.YtomimhedehecdaaDoorViSound2
import Derived.Orders
import Derived.Tactics
section
/- Operations that may be done in any order. -/
namespace Go.Vi
variable {call : FuncId → List V → Option V} {st st' st1 : St}

theorem put_comm {α : Type} {a b : Nat} (hab : a ≠ b) (x y : α) : ∀ l : List (Nat × α), put (put l a x) b y = put (put l b y) a x
  | [] => by
    have hba : b ≠ a := fun e => hab e.symm
    rcases Nat.lt_or_gt_of_ne hab with h | h
    · simp [put, hab, hba, h, show ¬ b < a by omega]
    · simp [put, hab, hba, h, show ¬ a < b by omega]
  | (k, u) :: l => by
    have ih := put_comm hab x y l
    have hba : b ≠ a := fun e => hab e.symm
    by_cases h1 : k = a
    · subst h1
      by_cases h2 : k < b
      · simp [put, hab, h2]
      · simp [put, hab, h2, hba, show b < k by omega]
    · by_cases h3 : k = b
      · subst h3
        by_cases h2 : k < a
        · simp [put, h1, h2]
        · simp [put, h1, h2, hab, show a < k by omega]
      · by_cases h4 : k < a
        · by_cases h5 : k < b
          · simp [put, h1, h3, h4, h5, ih]
          · simp [put, h1, h3, h4, h5, hba, show b < a by omega]
        · by_cases h5 : k < b
          · simp [put, h1, h3, h4, h5, hab, show a < b by omega]
          · rcases Nat.lt_or_gt_of_ne hab with h | h
            · simp [put, h1, h3, h4, h5, hab, hba, h, show ¬ b < a by omega]
            · simp [put, h1, h3, h4, h5, hab, hba, h, show ¬ a < b by omega]

/-! ### what an operation changes -/
structure D where
  tm : List (Nat × V)
  bx : List (Nat × (Bool × List V))

def puts {α : Type} (δ : List (Nat × α)) (l : List (Nat × α)) : List (Nat × α) := δ.foldl (fun l p => put l p.1 p.2) l
def D.ap (δ : D) (st : St) : St := { tm := puts δ.tm st.tm, bx := puts δ.bx st.bx }

theorem puts_put {α : Type} {d : Nat} {v : α} : ∀ {δ : List (Nat × α)} (_ : ∀ p ∈ δ, p.1 ≠ d) (l : List (Nat × α)), puts δ (put l d v) = put (puts δ l) d v
  | [], _, _ => rfl
  | p :: δ, h, l => by
    simp only [puts, List.foldl_cons]
    rw [put_comm (fun e => h p (by simp) e.symm)]
    exact puts_put (fun q hq => h q (List.mem_cons_of_mem _ hq)) _

theorem puts_comm {α : Type} : ∀ {δ ε : List (Nat × α)} (_ : ∀ p ∈ δ, ∀ q ∈ ε, p.1 ≠ q.1) (l : List (Nat × α)), puts δ (puts ε l) = puts ε (puts δ l)
  | δ, [], _, _ => rfl
  | δ, q :: ε, h, l => by
    have e1 : puts (q :: ε) l = puts ε (put l q.1 q.2) := rfl
    have e2 : puts (q :: ε) (puts δ l) = puts ε (put (puts δ l) q.1 q.2) := rfl
    rw [e1, e2, puts_comm (fun p hp r hr => h p hp r (List.mem_cons_of_mem _ hr)), puts_put fun p hp => h p hp q (by simp)]

theorem get_puts_other {α : Type} {t : Nat} : ∀ {δ : List (Nat × α)} (_ : ∀ p ∈ δ, p.1 ≠ t) (l : List (Nat × α)), get (puts δ l) t = get l t
  | [], _, _ => rfl
  | p :: δ, h, l => by
    have e1 : puts (p :: δ) l = puts δ (put l p.1 p.2) := rfl
    rw [e1, get_puts_other (fun q hq => h q (List.mem_cons_of_mem _ hq)), get_put, if_neg fun e => h p (by simp) e.symm]

theorem get_puts_mem {α : Type} {t : Nat} : ∀ {δ : List (Nat × α)} (_ : ∃ p ∈ δ, p.1 = t) (l : List (Nat × α)), ∃ p ∈ δ, p.1 = t ∧ get (puts δ l) t = some p.2
  | [], h, _ => by obtain ⟨p, hp, _⟩ := h; cases hp
  | p :: δ, h, l => by
    have e1 : puts (p :: δ) l = puts δ (put l p.1 p.2) := rfl
    by_cases h1 : ∃ q ∈ δ, q.1 = t
    · obtain ⟨q, hq, h2, h3⟩ := get_puts_mem h1 (put l p.1 p.2)
      exact ⟨q, List.mem_cons_of_mem _ hq, h2, by rw [e1]; exact h3⟩
    · have hne : ∀ q ∈ δ, q.1 ≠ t := fun q hq e => h1 ⟨q, hq, e⟩
      obtain ⟨q, hq, h2⟩ := h
      rcases List.mem_cons.1 hq with h3 | h3
      · subst h3
        refine ⟨q, by simp, h2, ?_⟩
        rw [e1, get_puts_other hne, get_put, if_pos h2.symm]
      · exact absurd h2 (hne q h3)

/-! ### sorted slots -/
theorem incr_cons {k : Nat} {u : V} {l : List (Nat × V)} : incr ((k, u) :: l) = true ↔ incr l = true ∧ ∀ p ∈ l, k < p.1 := by
  induction l generalizing k u with
  | nil => simp [incr]
  | cons q l ih =>
    obtain ⟨k', v⟩ := q
    simp only [incr, Bool.and_eq_true, decide_eq_true_eq]
    constructor
    · rintro ⟨h1, h2⟩
      refine ⟨h2, fun p hp => ?_⟩
      rcases List.mem_cons.1 hp with rfl | hp
      · exact h1
      · have := (ih.1 h2).2 p hp; omega
    · rintro ⟨h1, h2⟩
      exact ⟨h2 (k', v) (by simp), h1⟩

theorem mem_put {α : Type} {d : Nat} {v : α} {p : Nat × α} : ∀ {l : List (Nat × α)}, p ∈ put l d v → p = (d, v) ∨ p ∈ l
  | [], h => by simp [put] at h; exact .inl h
  | (k, u) :: l, h => by
    unfold put at h
    split at h
    · rcases List.mem_cons.1 h with h | h
      · exact .inl h
      · exact .inr (List.mem_cons_of_mem _ h)
    · split at h
      · rcases List.mem_cons.1 h with h | h
        · exact .inr (h ▸ List.mem_cons_self)
        · exact (mem_put h).imp_right (List.mem_cons_of_mem _)
      · rcases List.mem_cons.1 h with h | h
        · exact .inl h
        · exact .inr h

theorem incr_put {d : Nat} {v : V} : ∀ {l : List (Nat × V)}, incr l = true → incr (put l d v) = true
  | [], _ => rfl
  | (k, u) :: l, h => by
    obtain ⟨h1, h2⟩ := incr_cons.1 h
    unfold put
    split
    · rename_i e; subst e; exact incr_cons.2 ⟨h1, h2⟩
    · split
      · rename_i hk
        refine incr_cons.2 ⟨incr_put h1, fun p hp => ?_⟩
        rcases mem_put hp with rfl | hp
        · exact hk
        · exact h2 p hp
      · refine incr_cons.2 ⟨h, fun p hp => ?_⟩
        rcases List.mem_cons.1 hp with rfl | hp
        · show d < k; omega
        · have := h2 p hp; omega

theorem incr_puts : ∀ {δ : List (Nat × V)} {l : List (Nat × V)}, incr l = true → incr (puts δ l) = true
  | [], _, h => h
  | _ :: δ, _, h => incr_puts (δ := δ) (incr_put h)

theorem incr_get {l : List (Nat × V)} (h : incr l = true) {t : Nat} {u : V} (hm : (t, u) ∈ l) : get l t = some u := by
  induction l with
  | nil => cases hm
  | cons q l ih =>
    obtain ⟨k, v⟩ := q
    obtain ⟨h1, h2⟩ := incr_cons.1 h
    rcases List.mem_cons.1 hm with e | hm
    · cases e; simp [get]
    · have := h2 _ hm
      have hne : ¬ k = t := by dsimp only at this; omega
      simp only [get, if_neg hne]
      exact ih h1 hm

/-! ### names -/
/-- Does a value point to a box (true) or to a slot's slice (false)? -/
def nm (k : Bool) (d : Nat) : V → Bool
  | .loc e _ => k && e == d
  | .el e _ _ | .rf e => !k && e == d
  | _ => false

theorem nm_data {k : Bool} {d : Nat} {v : V} (h : data v = true) : nm k d v = false := by
  cases v <;> simp_all [data, nm]

theorem noref_iff {l : List (Nat × V)} (h : incr l = true) {d : Nat} : noref d l = true ↔ ∀ t u, get l t = some u → nm false d u = false := by
  have key : ∀ (l : List (Nat × V)), noref d l = true ↔ ∀ p ∈ l, nm false d p.2 = false := by
    intro l
    induction l with
    | nil => simp [noref]
    | cons p l ih =>
      obtain ⟨t, u⟩ := p
      simp only [List.mem_cons, forall_eq_or_imp, ← ih]
      cases u <;> simp [noref, nm]
  rw [key]
  exact ⟨fun h1 t u hg => h1 (t, u) (get_mem hg), fun h1 p hp => h1 p.1 p.2 (incr_get h hp)⟩

theorem away_iff {l : List (Nat × V)} (h : incr l = true) {d : Nat} : away d l = true ↔ ∀ t u, get l t = some u → t = d ∨ nm true d u = false := by
  have key : ∀ (l : List (Nat × V)), away d l = true ↔ ∀ p ∈ l, p.1 = d ∨ nm true d p.2 = false := by
    intro l
    induction l with
    | nil => simp [away]
    | cons p l ih =>
      obtain ⟨t, u⟩ := p
      simp only [List.mem_cons, forall_eq_or_imp, ← ih]
      cases u <;> simp [away, nm]
  rw [key]
  exact ⟨fun h1 t u hg => h1 (t, u) (get_mem hg), fun h1 p hp => h1 p.1 p.2 (incr_get h hp)⟩

end Go.Vi
end
section
/- What an operation looks at, and what it changes. -/
namespace Go.Vi
variable {call : FuncId → List V → Option V} {st st' st1 : St}

def A.slots : A → List Nat
  | .t n | .m _ n => [n]
  | .c _ => []
def A.hand : A → List Nat
  | .m _ n => [n]
  | _ => []
def A.fixed : A → Bool
  | .c v => data v
  | _ => true
def Root.t : Root → List Nat
  | .tm t => [t]
  | _ => []
def Root.b : Root → List Nat
  | .bx d => [d]
  | _ => []

structure Foot where
  rd : List Nat
  wr : List Nat
  rb : List Nat
  wb : List Nat

def slotsOf (xs : List A) : List Nat := xs.flatMap A.slots
def handOf (xs : List A) : List Nat := xs.flatMap A.hand

/-- What an operation looks at and changes besides its own slot; none: it stays where it is. -/
def footE : MOp → Option Foot
  | .mv x => some ⟨x.slots, x.hand, [], []⟩
  | .pick c x y => some ⟨slotsOf [c, x, y], [], [], []⟩
  | .build _ ps => some ⟨slotsOf (ps.map (·.2.2)), handOf (ps.map (·.2.2)), [], []⟩
  | .bsl _ _ _ ps => some ⟨slotsOf (ps.map (·.2)), handOf (ps.map (·.2)), [], []⟩
  | .load r _ _ p => some ⟨p.slots ++ r.t, [], r.b, []⟩
  | .store r _ p x => some ⟨p.slots ++ x.slots ++ r.t, x.hand ++ r.t, r.b, r.b⟩
  | .nilchk x => some ⟨x.slots, [], [], []⟩
  | .bin _ x y => some ⟨slotsOf [x, y], [], [], []⟩
  | .eqs _ _ _ x y => some ⟨slotsOf [x, y], [], [], []⟩
  | .un _ x => some ⟨x.slots, [], [], []⟩
  | .conv _ x => some ⟨x.slots, [], [], []⟩
  | .faddr r _ p => some ⟨p.slots ++ r.t, [], [], []⟩
  | .fld _ _ _ x => some ⟨x.slots, [], [], []⟩
  | .iarr _ _ p i => some ⟨slotsOf [p, i], [], [], []⟩
  | .iaddr r _ x i => some ⟨slotsOf [x, i] ++ r.t, [], [], []⟩
  | .idxs x i => some ⟨slotsOf [x, i], [], [], []⟩
  | .idxa _ _ _ x i => some ⟨slotsOf [x, i], [], [], []⟩
  | .look r _ _ _ _ m k => some ⟨slotsOf [m, k] ++ r.t, [], [], []⟩
  | .ext _ x => some ⟨x.slots, [], [], []⟩
  | .len _ r x => some ⟨x.slots ++ r.t, [], [], []⟩
  | .app _ _ x y => some ⟨slotsOf [x, y], handOf [x, y], [], []⟩
  | .mx _ xs => some ⟨slotsOf xs, [], [], []⟩
  | .slc _ x lo hi mx => some ⟨slotsOf (x :: (lo.toList ++ hi.toList ++ mx.toList)), handOf [x], [], []⟩
  | .slcs x lo hi => some ⟨slotsOf (x :: (lo.toList ++ hi.toList)), [], [], []⟩
  | .call _ xs => some ⟨slotsOf xs, handOf xs, [], []⟩
  | _ => none

def Agree (st st' : St) (F : Foot) : Prop := (∀ t ∈ F.rd, st'.at t = st.at t) ∧ ∀ d ∈ F.rb, get st'.bx d = get st.bx d

theorem val_agree {x : A} (h : ∀ t ∈ x.slots, st'.at t = st.at t) : st'.val x = st.val x := by
  cases x <;> simp_all [St.val, A.slots]
theorem raw_agree {x : A} (h : ∀ t ∈ x.slots, st'.at t = st.at t) : st'.raw x = st.raw x := by
  cases x <;> simp_all [St.raw, A.slots]
theorem vals_agree {xs : List A} (h : ∀ t ∈ slotsOf xs, st'.at t = st.at t) : vals st' xs = vals st xs := by
  unfold vals
  refine List.map_congr_left fun x hx => val_agree fun t ht => h t (List.mem_flatMap.2 ⟨x, hx, ht⟩)
theorem cells_agree {r : Root} {p : V} {sz : Nat} (h : ∀ t ∈ r.t, st'.at t = st.at t) (hb : ∀ d ∈ r.b, get st'.bx d = get st.bx d) : st'.cells r p sz = st.cells r p sz := by
  cases p <;> simp only [St.cells]
  · rename_i d off
    split
    · rename_i e; rw [hb d (by rw [e]; simp [Root.b])]
    · rfl
  · rename_i t i off
    split
    · rename_i e; rw [h t (by rw [e]; simp [Root.t])]
    · rfl
theorem deref_agree {r : Root} {v : V} (h : ∀ t ∈ r.t, st'.at t = st.at t) : st'.deref r v = st.deref r v := by
  cases v <;> simp only [St.deref]
  rename_i s
  split
  · rename_i e; rw [h s (by rw [e]; simp [Root.t])]
  · rfl

theorem optInt_agree {x : Option A} {n : Int} (h : ∀ t ∈ slotsOf x.toList, st'.at t = st.at t) : st'.optInt n x = st.optInt n x := by
  cases x with
  | none => rfl
  | some x =>
    have e : st'.val x = st.val x := val_agree fun t ht => h t (by simpa [slotsOf] using ht)
    simp only [St.optInt, St.ints, e]

theorem fill_agree {ps : List (Nat × Nat × A)} (h : ∀ t ∈ slotsOf (ps.map (·.2.2)), st'.at t = st.at t) : ∀ cs, fill st' cs ps = fill st cs ps := by
  induction ps with
  | nil => intro cs; rfl
  | cons p ps ih =>
    intro cs
    obtain ⟨off, sz, x⟩ := p
    simp only [List.map_cons, slotsOf, List.flatMap_cons, List.mem_append] at h
    simp only [fill, val_agree fun t ht => h t (.inl ht), ih fun t ht => h t (.inr ht)]

theorem rows_agree {sz : Nat} {ps : List (Nat × A)} (h : ∀ t ∈ slotsOf (ps.map (·.2)), st'.at t = st.at t) : ∀ xs, rowsOf st' sz xs ps = rowsOf st sz xs ps := by
  induction ps with
  | nil => intro cs; rfl
  | cons p ps ih =>
    intro cs
    obtain ⟨i, x⟩ := p
    simp only [List.map_cons, slotsOf, List.flatMap_cons, List.mem_append] at h
    simp only [rowsOf, val_agree fun t ht => h t (.inl ht), ih fun t ht => h t (.inr ht)]

/-- What is handed on, as a change. -/
def goneD : List A → List (Nat × V)
  | [] => []
  | .m _ n :: xs => (n, .undef) :: goneD xs
  | _ :: xs => goneD xs

theorem gone_puts : ∀ (xs : List A) (l : List (Nat × V)), gone xs l = puts (goneD xs) l
  | [], _ => rfl
  | .m _ n :: xs, l => gone_puts xs (put l n .undef)
  | .t _ :: xs, l => gone_puts xs l
  | .c _ :: xs, l => gone_puts xs l

theorem goneD_mem : ∀ {xs : List A} {p : Nat × V}, p ∈ goneD xs → p.1 ∈ handOf xs ∧ p.2 = .undef
  | [], _, h => by cases h
  | x :: xs, p, h => by
    have hs : ∀ {p}, p ∈ goneD xs → p.1 ∈ handOf (x :: xs) ∧ p.2 = .undef := fun hp => ⟨List.mem_append_right _ (goneD_mem hp).1, (goneD_mem hp).2⟩
    cases x with
    | m o n =>
      simp only [goneD, List.mem_cons] at h
      rcases h with rfl | h
      · exact ⟨by simp [handOf, A.hand], rfl⟩
      · exact hs h
    | t n => exact hs h
    | c v => exact hs h

/-- An operation that leaves the state alone but for what is handed on. -/
def Plainly (call : FuncId → List V → Option V) (o : MOp) (xs : List A) (st : St) (F : Foot) : Prop :=
  ∀ v st1, exec call o st = some (v, st1) → st1 = st.gone xs ∧ ∀ st', Agree st st' F → exec call o st' = some (v, st'.gone xs)

/-- What an operation comes to, wherever it is done. -/
structure Local (call : FuncId → List V → Option V) (o : MOp) (st : St) (F : Foot) (v : V) (st1 : St) (δ : D) : Prop where
  eq : st1 = δ.ap st
  tm : ∀ p ∈ δ.tm, p.1 ∈ F.wr ∧ data p.2 = true
  bx : ∀ p ∈ δ.bx, p.1 ∈ F.wb
  go : ∀ st', Agree st st' F → exec call o st' = some (v, δ.ap st')

theorem Plainly.local {o : MOp} {xs : List A} {F : Foot} {v : V} (h : Plainly call o xs st F) (hw : ∀ t ∈ handOf xs, t ∈ F.wr) (he : exec call o st = some (v, st1)) : ∃ δ, Local call o st F v st1 δ := by
  obtain ⟨h1, h2⟩ := h v st1 he
  have e : ∀ s : St, s.gone xs = (D.mk (goneD xs) []).ap s := fun s => by simp [St.gone, D.ap, gone_puts, puts]
  refine ⟨⟨goneD xs, []⟩, by rw [h1, e], fun p hp => ?_, by simp, fun s hs => by rw [h2 s hs, e]⟩
  obtain ⟨h3, h4⟩ := goneD_mem hp
  exact ⟨hw _ h3, by rw [h4]; rfl⟩

theorem exec_local {o : MOp} {F : Foot} {v : V} (hf : footE o = some F) (he : exec call o st = some (v, st1)) : ∃ δ, Local call o st F v st1 δ := by
  have g0 : ∀ s : St, s.gone [] = s := fun s => rfl
  cases o <;> simp only [footE, Option.some.injEq, reduceCtorEq] at hf
  case mv x =>
    subst hf
    refine Plainly.local (xs := [x]) (fun v st1 he => ?_) (by simp [handOf]) he
    simp only [exec, Option.some.injEq, Prod.mk.injEq] at he
    obtain ⟨rfl, rfl⟩ := he
    refine ⟨rfl, fun s hs => ?_⟩
    simp only [exec, val_agree hs.1]
  case pick x y z =>
    subst hf
    refine Plainly.local (xs := []) (fun v st1 he => ?_) (by simp [handOf]) he
    have k : ∀ s, Agree st s ⟨slotsOf [x, y, z], [], [], []⟩ → s.val x = st.val x ∧ s.val y = st.val y ∧ s.val z = st.val z := fun s hs =>
      ⟨val_agree fun t ht => hs.1 t (by simp [slotsOf, ht]), val_agree fun t ht => hs.1 t (by simp [slotsOf, ht]), val_agree fun t ht => hs.1 t (by simp [slotsOf, ht])⟩
    simp only [exec] at he
    split at he
    · rename_i b hb
      cases he
      refine ⟨rfl, fun s hs => ?_⟩
      obtain ⟨k1, k2, k3⟩ := k s hs
      simp only [exec, k1, k2, k3, hb, g0]
    · cases he
  case build z ps =>
    subst hf
    refine Plainly.local (xs := ps.map (·.2.2)) (fun v st1 he => ?_) (by simp) he
    simp only [exec, Option.map_eq_some_iff] at he
    obtain ⟨cs, hc, he⟩ := he
    cases he
    refine ⟨rfl, fun s hs => ?_⟩
    simp only [exec, fill_agree hs.1, hc, Option.map_some]
  case bsl sz n z ps =>
    subst hf
    refine Plainly.local (xs := ps.map (·.2)) (fun v st1 he => ?_) (by simp) he
    simp only [exec] at he
    split at he
    · rename_i hc
      simp only [Option.map_eq_some_iff] at he
      obtain ⟨cs, hcs, he⟩ := he
      cases he
      refine ⟨rfl, fun s hs => ?_⟩
      simp only [exec, if_pos hc, rows_agree hs.1, hcs, Option.map_some]
    · cases he
  case load r ag sz p =>
    subst hf
    refine Plainly.local (xs := []) (fun v st1 he => ?_) (by simp [handOf]) he
    simp only [exec, Option.bind_eq_some_iff, Option.map_eq_some_iff] at he
    obtain ⟨cs, hc, u, hu, he⟩ := he
    cases he
    refine ⟨rfl, fun s hs => ?_⟩
    simp only [exec, raw_agree (x := p) fun t ht => hs.1 t (by simp [ht]), cells_agree (fun t ht => hs.1 t (by simp [ht])) hs.2, hc, Option.bind_some, hu, Option.map_some, g0]
  case nilchk x =>
    subst hf
    refine Plainly.local (xs := []) (fun v st1 he => ?_) (by simp [handOf]) he
    simp only [exec] at he
    split at he
    all_goals
      rename_i e
      first
        | (cases he
           refine ⟨rfl, fun s hs => ?_⟩
           simp only [exec, raw_agree hs.1, e, g0])
        | cases he
  case bin op x y =>
    subst hf
    refine Plainly.local (xs := []) (fun v st1 he => ?_) (by simp [handOf]) he
    simp only [exec, Option.map_eq_some_iff] at he
    obtain ⟨u, hu, he⟩ := he
    cases he
    refine ⟨rfl, fun s hs => ?_⟩
    simp only [exec, val_agree (x := x) fun t ht => hs.1 t (by simp [slotsOf, ht]), val_agree (x := y) fun t ht => hs.1 t (by simp [slotsOf, ht]), hu, Option.map_some, g0]
  case eqs ag ks neg x y =>
    subst hf
    refine Plainly.local (xs := []) (fun v st1 he => ?_) (by simp [handOf]) he
    simp only [exec, Option.map_eq_some_iff] at he
    obtain ⟨u, hu, he⟩ := he
    cases he
    refine ⟨rfl, fun s hs => ?_⟩
    simp only [exec, val_agree (x := x) fun t ht => hs.1 t (by simp [slotsOf, ht]), val_agree (x := y) fun t ht => hs.1 t (by simp [slotsOf, ht]), hu, Option.map_some, g0]
  case un op x =>
    subst hf
    refine Plainly.local (xs := []) (fun v st1 he => ?_) (by simp [handOf]) he
    simp only [exec, Option.map_eq_some_iff] at he
    obtain ⟨u, hu, he⟩ := he
    cases he
    refine ⟨rfl, fun s hs => ?_⟩
    simp only [exec, val_agree hs.1, hu, Option.map_some, g0]
  case conv k x =>
    subst hf
    refine Plainly.local (xs := []) (fun v st1 he => ?_) (by simp [handOf]) he
    simp only [exec] at he
    split at he
    · rename_i e
      cases he
      refine ⟨rfl, fun s hs => ?_⟩
      simp only [exec, val_agree hs.1, e, g0]
    · cases he
  case faddr r off p =>
    subst hf
    refine Plainly.local (xs := []) (fun v st1 he => ?_) (by simp [handOf]) he
    have k : ∀ s, Agree st s ⟨p.slots ++ r.t, [], [], []⟩ → s.raw p = st.raw p ∧ ∀ t, r = .tm t → s.at t = st.at t := fun s hs =>
      ⟨raw_agree fun t ht => hs.1 t (by simp [ht]), fun t e => hs.1 t (by subst e; simp [Root.t])⟩
    simp only [exec] at he
    split at he
    · rename_i e
      cases he
      exact ⟨rfl, fun s hs => by simp only [exec, (k s hs).1, e, g0]⟩
    · rename_i e
      cases he
      exact ⟨rfl, fun s hs => by simp only [exec, (k s hs).1, e, g0]⟩
    · rename_i e
      split at he
      · rename_i e1
        split at he
        · rename_i e2
          cases he
          exact ⟨rfl, fun s hs => by simp only [exec, (k s hs).1, e, if_pos e1, (k s hs).2 _ e1, e2, g0]⟩
        · cases he
      · cases he
    · cases he
  case fld ag sz off x =>
    subst hf
    refine Plainly.local (xs := []) (fun v st1 he => ?_) (by simp [handOf]) he
    simp only [exec] at he
    split at he
    · rename_i e
      simp only [Option.bind_eq_some_iff, Option.map_eq_some_iff] at he
      obtain ⟨cs, hc, u, hu, he⟩ := he
      cases he
      refine ⟨rfl, fun s hs => ?_⟩
      simp only [exec, val_agree hs.1, e, hc, Option.bind_some, hu, Option.map_some, g0]
    · cases he
  case iarr n sz p i =>
    subst hf
    refine Plainly.local (xs := []) (fun v st1 he => ?_) (by simp [handOf]) he
    have k : ∀ s, Agree st s ⟨slotsOf [p, i], [], [], []⟩ → s.raw p = st.raw p ∧ s.val i = st.val i := fun s hs =>
      ⟨raw_agree fun t ht => hs.1 t (by simp [slotsOf, ht]), val_agree fun t ht => hs.1 t (by simp [slotsOf, ht])⟩
    simp only [exec] at he
    split at he
    · rename_i e1 e2
      split at he
      · rename_i e3
        cases he
        exact ⟨rfl, fun s hs => by simp only [exec, (k s hs).1, (k s hs).2, e1, e2, if_pos e3, g0]⟩
      · cases he
    · rename_i e1 e2
      split at he
      · rename_i e3
        cases he
        exact ⟨rfl, fun s hs => by simp only [exec, (k s hs).1, (k s hs).2, e1, e2, if_pos e3, g0]⟩
      · cases he
    · cases he
  case iaddr r sz x i =>
    subst hf
    refine Plainly.local (xs := []) (fun v st1 he => ?_) (by simp [handOf]) he
    have k : ∀ s, Agree st s ⟨slotsOf [x, i] ++ r.t, [], [], []⟩ → s.val x = st.val x ∧ s.val i = st.val i ∧ ∀ t, r = .tm t → s.at t = st.at t := fun s hs =>
      ⟨val_agree fun t ht => hs.1 t (by simp [slotsOf, ht]), val_agree fun t ht => hs.1 t (by simp [slotsOf, ht]), fun t e => hs.1 t (by subst e; simp [Root.t])⟩
    simp only [exec] at he
    split at he
    · rename_i e1 e2
      split at he
      · rename_i e3
        split at he
        · rename_i e4
          split at he
          · rename_i e5
            cases he
            exact ⟨rfl, fun s hs => by simp only [exec, (k s hs).1, (k s hs).2.1, e1, e2, if_pos e3, (k s hs).2.2 _ e3, e4, if_pos e5, g0]⟩
          · cases he
        · cases he
      · cases he
    · rename_i e1 e2
      split at he
      · rename_i e3
        simp only [Option.map_eq_some_iff] at he
        obtain ⟨c, hc, he⟩ := he
        cases he
        exact ⟨rfl, fun s hs => by simp only [exec, (k s hs).1, (k s hs).2.1, e1, e2, if_pos e3, hc, Option.map_some, g0]⟩
      · cases he
    · cases he
  case idxs x i =>
    subst hf
    refine Plainly.local (xs := []) (fun v st1 he => ?_) (by simp [handOf]) he
    simp only [exec] at he
    split at he
    · rename_i e1 e2
      split at he
      · rename_i e3
        cases he
        exact ⟨rfl, fun s hs => by simp only [exec, val_agree (x := x) fun t ht => hs.1 t (by simp [slotsOf, ht]), val_agree (x := i) fun t ht => hs.1 t (by simp [slotsOf, ht]), e1, e2, dif_pos e3, g0]⟩
      · cases he
    · cases he
  case idxa ag n sz x i =>
    subst hf
    refine Plainly.local (xs := []) (fun v st1 he => ?_) (by simp [handOf]) he
    simp only [exec] at he
    split at he
    · rename_i e1 e2
      split at he
      · rename_i e3
        simp only [Option.bind_eq_some_iff, Option.map_eq_some_iff] at he
        obtain ⟨cs, hc, u, hu, he⟩ := he
        cases he
        exact ⟨rfl, fun s hs => by simp only [exec, val_agree (x := x) fun t ht => hs.1 t (by simp [slotsOf, ht]), val_agree (x := i) fun t ht => hs.1 t (by simp [slotsOf, ht]), e1, e2, if_pos e3, hc, Option.bind_some, hu, Option.map_some, g0]⟩
      · cases he
    · cases he
  case look r ag ks z ok m k =>
    subst hf
    refine Plainly.local (xs := []) (fun v st1 he => ?_) (by simp [handOf]) he
    have kk : ∀ s, Agree st s ⟨slotsOf [m, k] ++ r.t, [], [], []⟩ → s.deref r (s.val m) = st.deref r (st.val m) ∧ s.val k = st.val k := fun s hs => by
      rw [val_agree (x := m) fun t ht => hs.1 t (by simp [slotsOf, ht]), deref_agree fun t ht => hs.1 t (by simp [ht])]
      exact ⟨rfl, val_agree fun t ht => hs.1 t (by simp [slotsOf, ht])⟩
    simp only [exec] at he
    split at he
    · rename_i e1
      split at he
      · rename_i e2
        simp only [Option.map_eq_some_iff] at he
        obtain ⟨u, hu, he⟩ := he
        cases he
        exact ⟨rfl, fun s hs => by simp only [exec, (kk s hs).1, (kk s hs).2, e1, if_pos e2, hu, Option.map_some, g0]⟩
      · cases he
    · cases he
  case ext i x =>
    subst hf
    refine Plainly.local (xs := []) (fun v st1 he => ?_) (by simp [handOf]) he
    simp only [exec] at he
    split at he
    · rename_i e1
      simp only [Option.map_eq_some_iff] at he
      obtain ⟨u, hu, he⟩ := he
      cases he
      exact ⟨rfl, fun s hs => by simp only [exec, raw_agree hs.1, e1, hu, Option.map_some, g0]⟩
    · cases he
  case len kd r x =>
    subst hf
    refine Plainly.local (xs := []) (fun v st1 he2 => ?_) (by simp [handOf]) he
    clear he
    have kk : ∀ s, Agree st s ⟨x.slots ++ r.t, [], [], []⟩ → s.deref r (s.val x) = st.deref r (st.val x) := fun s hs => by
      rw [val_agree (x := x) fun t ht => hs.1 t (by simp [ht]), deref_agree fun t ht => hs.1 t (by simp [ht])]
    simp only [exec] at he2
    split at he2
    all_goals
      first
        | (rename_i e1
           cases he2
           exact ⟨rfl, fun s hs => by simp only [exec, kk s hs, e1, g0]⟩)
        | cases he2
  case app sz bytes x y =>
    subst hf
    refine Plainly.local (xs := [x, y]) (fun v st1 he => ?_) (by simp) he
    simp only [exec] at he
    split at he
    · rename_i e1 e2
      split at he
      · rename_i e3
        cases he
        exact ⟨rfl, fun s hs => by simp only [exec, val_agree (x := x) fun t ht => hs.1 t (by simp [slotsOf, ht]), val_agree (x := y) fun t ht => hs.1 t (by simp [slotsOf, ht]), e1, e2, if_pos e3]⟩
      · cases he
    · cases he
  case mx big xs =>
    subst hf
    refine Plainly.local (xs := []) (fun v st1 he => ?_) (by simp [handOf]) he
    simp only [exec] at he
    split at he
    · rename_i e1
      cases he
      exact ⟨rfl, fun s hs => by simp only [exec, vals_agree hs.1, e1, g0]⟩
    · cases he
  case slc sz x lo hi mx =>
    subst hf
    refine Plainly.local (xs := [x]) (fun v st1 he2 => ?_) (by simp) he
    clear he
    have k : ∀ s, Agree st s ⟨slotsOf (x :: (lo.toList ++ hi.toList ++ mx.toList)), handOf [x], [], []⟩ → s.val x = st.val x ∧ (∀ n, s.optInt n lo = st.optInt n lo) ∧ (∀ n, s.optInt n hi = st.optInt n hi) ∧ ∀ m, mx = some m → s.ints m = st.ints m := fun s hs => by
      have h0 : ∀ y ∈ x :: (lo.toList ++ hi.toList ++ mx.toList), ∀ t ∈ y.slots, s.at t = st.at t := fun y hy t ht => hs.1 t (List.mem_flatMap.2 ⟨y, hy, ht⟩)
      refine ⟨val_agree (h0 x (by simp)), fun n => optInt_agree fun t ht => ?_, fun n => optInt_agree fun t ht => ?_, fun m hm => ?_⟩
      · obtain ⟨y, hy, hty⟩ := List.mem_flatMap.1 ht
        exact h0 y (by simp only [List.mem_cons, List.mem_append]; exact .inr (.inl (.inl hy))) t hty
      · obtain ⟨y, hy, hty⟩ := List.mem_flatMap.1 ht
        exact h0 y (by simp only [List.mem_cons, List.mem_append]; exact .inr (.inl (.inr hy))) t hty
      · simp only [St.ints, val_agree (h0 m (by simp [hm]))]
    simp only [exec] at he2
    split at he2
    · rename_i o sz' xs e1
      split at he2
      · split at he2
        · rename_i l h e2 e3
          split at he2
          · rename_i hc
            cases he2
            refine ⟨rfl, fun s hs => ?_⟩
            obtain ⟨k1, k2, k3, -⟩ := k s hs
            simp only [exec, k1, e1, k2, k3, e2, e3, if_pos hc]
          · cases he2
        · cases he2
      · rename_i m
        split at he2
        · rename_i e2 e3 e4
          split at he2
          · rename_i hc
            cases he2
            refine ⟨rfl, fun s hs => ?_⟩
            obtain ⟨k1, k2, k3, k4⟩ := k s hs
            simp only [exec, k1, e1, k2, k3, k4 m rfl, e2, e3, e4, if_pos hc]
          · cases he2
        · cases he2
    · cases he2
  case slcs x lo hi =>
    subst hf
    refine Plainly.local (xs := []) (fun v st1 he2 => ?_) (by simp [handOf]) he
    clear he
    have k : ∀ s, Agree st s ⟨slotsOf (x :: (lo.toList ++ hi.toList)), [], [], []⟩ → s.val x = st.val x ∧ (∀ n, s.optInt n lo = st.optInt n lo) ∧ ∀ n, s.optInt n hi = st.optInt n hi := fun s hs => by
      have h0 : ∀ y ∈ x :: (lo.toList ++ hi.toList), ∀ t ∈ y.slots, s.at t = st.at t := fun y hy t ht => hs.1 t (List.mem_flatMap.2 ⟨y, hy, ht⟩)
      refine ⟨val_agree (h0 x (by simp)), fun n => optInt_agree fun t ht => ?_, fun n => optInt_agree fun t ht => ?_⟩
      · obtain ⟨y, hy, hty⟩ := List.mem_flatMap.1 ht
        exact h0 y (by simp only [List.mem_cons, List.mem_append]; exact .inr (.inl hy)) t hty
      · obtain ⟨y, hy, hty⟩ := List.mem_flatMap.1 ht
        exact h0 y (by simp only [List.mem_cons, List.mem_append]; exact .inr (.inr hy)) t hty
    simp only [exec] at he2
    split at he2
    · rename_i s0 e1
      split at he2
      · rename_i l h e2 e3
        split at he2
        · rename_i hc
          cases he2
          refine ⟨rfl, fun s hs => ?_⟩
          obtain ⟨k1, k2, k3⟩ := k s hs
          simp only [exec, k1, e1, k2, k3, e2, e3, if_pos hc, g0]
        · cases he2
      · cases he2
    · cases he2
  case call f xs =>
    subst hf
    refine Plainly.local (xs := xs) (fun v st1 he => ?_) (by simp) he
    simp only [exec] at he
    split at he
    · rename_i e1
      simp only [Option.map_eq_some_iff] at he
      obtain ⟨u, hu, he⟩ := he
      cases he
      exact ⟨rfl, fun s hs => by simp only [exec, vals_agree hs.1, if_pos e1, hu, Option.map_some]⟩
    · cases he
  case store r sz p x =>
    subst hf
    have k : ∀ s, Agree st s ⟨p.slots ++ x.slots ++ r.t, x.hand ++ r.t, r.b, r.b⟩ → s.raw p = st.raw p ∧ s.val x = st.val x ∧ (∀ t, r = .tm t → s.at t = st.at t) ∧ ∀ d, r = .bx d → get s.bx d = get st.bx d := fun s hs =>
      ⟨raw_agree fun t ht => hs.1 t (by simp [ht]), val_agree fun t ht => hs.1 t (by simp [ht]), fun t e => hs.1 t (by subst e; simp [Root.t]), fun d e => hs.2 d (by subst e; simp [Root.b])⟩
    simp only [exec] at he
    split at he
    · rename_i hc
      simp only [Option.map_eq_some_iff] at he
      obtain ⟨s2, hw, he⟩ := he
      cases he
      have hgone : ∀ p ∈ goneD [x], p.1 ∈ x.hand ∧ p.2 = .undef := fun p hp => by
        obtain ⟨h1, h2⟩ := goneD_mem hp
        exact ⟨by simpa [handOf] using h1, h2⟩
      cases hp : st.raw p <;> rw [hp] at hw <;> simp only [St.write, reduceCtorEq] at hw
      · rename_i d off
        split at hw
        · rename_i hr
          split at hw
          · rename_i cs hb
            split at hw
            · rename_i hfit
              cases hw
              refine ⟨⟨goneD [x], [(d, (false, paste cs off (flat (st.val x))))]⟩, ?_, fun q hq => ?_, fun q hq => ?_, fun s hs => ?_⟩
              · simp [St.gone, D.ap, gone_puts, puts]
              · obtain ⟨h1, h2⟩ := hgone q hq
                exact ⟨by simp [h1], by rw [h2]; rfl⟩
              · simp only [List.mem_singleton] at hq
                subst hq; subst hr; simp [Root.b]
              · obtain ⟨k1, k2, k3, k4⟩ := k s hs
                simp only [exec, k1, k2, if_pos hc, hp, St.write, if_pos hr, k4 d hr, hb, if_pos hfit, Option.map_some]
                simp [St.gone, D.ap, gone_puts, puts]
            · cases hw
          · cases hw
        · cases hw
      · rename_i t i off
        split at hw
        · rename_i hr
          split at hw
          · rename_i sz' xs ht
            split at hw
            · rename_i row hrow
              split at hw
              · rename_i hfit
                cases hw
                refine ⟨⟨(t, .sl .x sz' (xs.set i (paste row off (flat (st.val x))))) :: goneD [x], []⟩, ?_, fun q hq => ?_, by simp, fun s hs => ?_⟩
                · simp [St.gone, D.ap, gone_puts, puts]
                · rcases List.mem_cons.1 hq with rfl | hq
                  · exact ⟨by subst hr; simp [Root.t], rfl⟩
                  · obtain ⟨h1, h2⟩ := hgone q hq
                    exact ⟨by simp [h1], by rw [h2]; rfl⟩
                · obtain ⟨k1, k2, k3, k4⟩ := k s hs
                  simp only [exec, k1, k2, if_pos hc, hp, St.write, if_pos hr, k3 t hr, ht, hrow, if_pos hfit, Option.map_some]
                  simp [St.gone, D.ap, gone_puts, puts]
              · cases hw
            · cases hw
          · cases hw
        · cases hw
    · cases he

end Go.Vi
end
section
/- Two steps that do not meet may change places. -/
namespace Go.Vi
variable {call : FuncId → List V → Option V} {st st' st1 : St}

def fixedOp : MOp → Bool
  | .mv x | .nilchk x | .faddr _ _ x | .iarr _ _ x _ | .iaddr _ _ x _ => x.fixed
  | .pick _ x y => x.fixed && y.fixed
  | _ => true

theorem val_nm {x : A} (hf : x.fixed = true) {k : Bool} {d : Nat} (h : nm k d (st.val x) = true) : (k = false ∧ d ∈ x.slots) ∨ ∃ n ∈ x.slots, nm k d (st.at n) = true := by
  cases x with
  | t n =>
    simp only [St.val] at h
    generalize hu : st.at n = u at h
    cases u with
    | sl o sz xs =>
      cases o <;> simp [cpa, cp, nm] at h
      exact .inl ⟨h.1, by simp [A.slots, h.2]⟩
    | mp o es =>
      cases o <;> simp [cpa, cp, nm] at h
      exact .inl ⟨h.1, by simp [A.slots, h.2]⟩
    | loc e off => exact .inr ⟨n, by simp [A.slots], by rw [hu]; exact h⟩
    | el e i off => exact .inr ⟨n, by simp [A.slots], by rw [hu]; exact h⟩
    | rf e => exact .inr ⟨n, by simp [A.slots], by rw [hu]; exact h⟩
    | _ => simp [cpa, cp, nm] at h
  | m o n =>
    simp only [St.val] at h
    generalize hu : st.at n = u at h
    cases u with
    | sl o' sz xs => cases o <;> cases o' <;> simp [low, nm] at h
    | mp o' es => cases o <;> simp [low, nm] at h
    | loc e off => exact .inr ⟨n, by simp [A.slots], by rw [hu]; cases o <;> exact h⟩
    | el e i off => exact .inr ⟨n, by simp [A.slots], by rw [hu]; cases o <;> exact h⟩
    | rf e => exact .inr ⟨n, by simp [A.slots], by rw [hu]; cases o <;> exact h⟩
    | _ => cases o <;> simp [low, nm] at h
  | c v => rw [nm_data (by exact hf)] at h; cases h

theorem raw_nm {x : A} (hf : x.fixed = true) {k : Bool} {d : Nat} (h : nm k d (st.raw x) = true) : ∃ n ∈ x.slots, nm k d (st.at n) = true := by
  cases x with
  | t n => exact ⟨n, by simp [A.slots], h⟩
  | m o n => exact ⟨n, by simp [A.slots], h⟩
  | c v => rw [nm_data (by exact hf)] at h; cases h

/-- Where a name comes from. -/
theorem exec_nm {o : MOp} {F : Foot} {v : V} (hf : footE o = some F) (hx : fixedOp o = true) (he : exec call o st = some (v, st1)) (hp : (ptrOp o || data v) = true) {k : Bool} {d : Nat} (hn : nm k d v = true) :
    (k = false ∧ d ∈ F.rd) ∨ ∃ n ∈ F.rd, nm k d (st.at n) = true := by
  cases hpo : ptrOp o with
  | false =>
    rw [hpo, Bool.false_or] at hp
    rw [nm_data hp] at hn; cases hn
  | true =>
    cases o <;> simp only [ptrOp, Bool.false_eq_true] at hpo <;> simp only [footE, Option.some.injEq] at hf <;> simp only [fixedOp, Bool.and_eq_true] at hx <;> subst hf
    case mv x =>
      simp only [exec, Option.some.injEq, Prod.mk.injEq] at he
      obtain ⟨rfl, -⟩ := he
      exact val_nm hx hn
    case pick x y z =>
      simp only [exec] at he
      split at he
      · rename_i b hb
        simp only [Option.some.injEq, Prod.mk.injEq] at he
        obtain ⟨rfl, -⟩ := he
        cases b
        · rcases val_nm hx.2 (by simpa using hn) with ⟨h1, h2⟩ | ⟨n, h1, h2⟩
          · exact .inl ⟨h1, by simp [slotsOf, h2]⟩
          · exact .inr ⟨n, by simp [slotsOf, h1], h2⟩
        · rcases val_nm hx.1 (by simpa using hn) with ⟨h1, h2⟩ | ⟨n, h1, h2⟩
          · exact .inl ⟨h1, by simp [slotsOf, h2]⟩
          · exact .inr ⟨n, by simp [slotsOf, h1], h2⟩
      · cases he
    case nilchk x =>
      simp only [exec] at he
      split at he
      · cases he; simp [nm] at hn
      · rename_i e
        cases he
        obtain ⟨n, h1, h2⟩ := raw_nm (st := st) hx (k := k) (d := d) (by rw [e]; exact hn)
        exact .inr ⟨n, h1, h2⟩
      · cases he
    case faddr r off p =>
      simp only [exec] at he
      split at he
      · cases he; simp [nm] at hn
      · rename_i e
        cases he
        obtain ⟨n, h1, h2⟩ := raw_nm (st := st) hx (k := k) (d := d) (by rw [e]; exact hn)
        exact .inr ⟨n, by simp [h1], h2⟩
      · rename_i e
        split at he
        · split at he
          · cases he
            obtain ⟨n, h1, h2⟩ := raw_nm (st := st) hx (k := k) (d := d) (by rw [e]; exact hn)
            exact .inr ⟨n, by simp [h1], h2⟩
          · cases he
        · cases he
      · cases he
    case iarr n sz p i =>
      simp only [exec] at he
      split at he
      · split at he
        · cases he; simp [nm] at hn
        · cases he
      · rename_i e _
        split at he
        · cases he
          obtain ⟨n, h1, h2⟩ := raw_nm (st := st) hx (k := k) (d := d) (by rw [e]; exact hn)
          exact .inr ⟨n, by simp [slotsOf, h1], h2⟩
        · cases he
      · cases he
    case iaddr r sz x i =>
      simp only [exec] at he
      split at he
      · rename_i e _
        split at he
        · split at he
          · split at he
            · cases he
              rcases val_nm (st := st) hx (k := k) (d := d) (by rw [e]; exact hn) with ⟨h1, h2⟩ | ⟨n, h1, h2⟩
              · exact .inl ⟨h1, by simp [slotsOf, h2]⟩
              · exact .inr ⟨n, by simp [slotsOf, h1], h2⟩
            · cases he
          · cases he
        · cases he
      · split at he
        · simp only [Option.map_eq_some_iff] at he
          obtain ⟨c, _, he⟩ := he
          cases he; simp [nm] at hn
        · cases he
      · cases he

theorem leaf_hand {o : Own} {u : V} (h : (flat (low o u)).all leaf = true) : data u = true := by
  cases u <;> simp_all [data, low, flat, leaf]
theorem leaf_hand' {o : Own} {u : V} (h : (flat (cp (low o u))).all leaf = true) : data u = true := by
  cases u <;> simp_all [data, low, cp, flat, leaf]
theorem data_hand {o : Own} {u : V} (h : data (low o u) = true) : data u = true := by
  cases u <;> simp_all [data, low]
theorem low_name {o : Own} {u : V} (h : data u = false) : low o u = u := by
  cases u <;> cases o <;> simp_all [data, low]

theorem mem_hand {xs : List A} {n : Nat} (h : n ∈ handOf xs) : ∃ o, A.m o n ∈ xs := by
  obtain ⟨x, hx, hn⟩ := List.mem_flatMap.1 h
  cases x <;> simp [A.hand] at hn
  subst hn
  exact ⟨_, hx⟩

theorem fill_hand {n : Nat} {o : Own} : ∀ {ps : List (Nat × Nat × A)} {cs cs' : List V}, fill st cs ps = some cs' → A.m o n ∈ ps.map (·.2.2) → data (st.at n) = true
  | [], _, _, _, h => by cases h
  | (off, sz, x) :: ps, cs, cs', hf, h => by
    simp only [fill] at hf
    split at hf
    · rename_i hc
      simp only [List.map_cons, List.mem_cons] at h
      rcases h with h | h
      · subst h; exact leaf_hand' hc.2.2
      · exact fill_hand hf h
    · cases hf

theorem rows_hand {sz n : Nat} {o : Own} : ∀ {ps : List (Nat × A)} {xs xs' : List (List V)}, rowsOf st sz xs ps = some xs' → A.m o n ∈ ps.map (·.2) → data (st.at n) = true
  | [], _, _, _, h => by cases h
  | (i, x) :: ps, cs, cs', hf, h => by
    simp only [rowsOf] at hf
    split at hf
    · rename_i hc
      simp only [List.map_cons, List.mem_cons] at h
      rcases h with h | h
      · subst h; exact leaf_hand' hc.2.2
      · exact rows_hand hf h
    · cases hf

/-- What is handed on or written is no name, or it is what is given. -/
theorem exec_hand {o : MOp} {F : Foot} {v : V} (hf : footE o = some F) (he : exec call o st = some (v, st1)) {n : Nat} (hn : n ∈ F.wr) : data (st.at n) = true ∨ ((∃ x, o = .mv x) ∧ v = st.at n) := by
  cases o <;> simp only [footE, Option.some.injEq, reduceCtorEq] at hf <;> subst hf <;> simp only [List.not_mem_nil] at hn
  case mv x =>
    cases x <;> simp [A.hand] at hn
    subst hn
    simp only [exec, Option.some.injEq, Prod.mk.injEq, St.val] at he
    cases hd : data (st.at n) with
    | true => exact .inl rfl
    | false => rw [low_name hd] at he; exact .inr ⟨⟨_, rfl⟩, he.1.symm⟩
  case build z ps =>
    obtain ⟨o, ho⟩ := mem_hand hn
    simp only [exec, Option.map_eq_some_iff] at he
    obtain ⟨cs, hc, -⟩ := he
    exact .inl (fill_hand hc ho)
  case bsl sz m z ps =>
    obtain ⟨o, ho⟩ := mem_hand hn
    simp only [exec] at he
    split at he
    · simp only [Option.map_eq_some_iff] at he
      obtain ⟨cs, hc, -⟩ := he
      exact .inl (rows_hand hc ho)
    · cases he
  case app sz bytes x y =>
    obtain ⟨o, ho⟩ := mem_hand hn
    simp only [exec] at he
    split at he
    · rename_i e1 e2
      simp only [List.mem_cons, List.not_mem_nil, or_false] at ho
      rcases ho with rfl | rfl
      · exact .inl (data_hand (o := o) (by simp only [St.val] at e1; rw [e1]; rfl))
      · exact .inl (data_hand (o := o) (by simp only [St.val] at e2; rw [e2]; rfl))
    · cases he
  case slc sz x lo hi mx =>
    obtain ⟨o, ho⟩ := mem_hand hn
    simp only [List.mem_cons, List.not_mem_nil, or_false] at ho
    subst ho
    simp only [exec] at he
    split at he
    · rename_i e1
      exact .inl (data_hand (o := o) (by simp only [St.val] at e1; rw [e1]; rfl))
    · cases he
  case call f xs =>
    obtain ⟨o, ho⟩ := mem_hand hn
    simp only [exec] at he
    split at he
    · rename_i hd
      have := List.all_eq_true.1 hd (st.val (.m o n)) (List.mem_map.2 ⟨_, ho, rfl⟩)
      exact .inl (data_hand this)
    · cases he
  case store r sz p x =>
    simp only [exec] at he
    split at he
    · rename_i hc
      simp only [Option.map_eq_some_iff] at he
      obtain ⟨s2, hw, -⟩ := he
      rcases List.mem_append.1 hn with h1 | h1
      · cases x <;> simp [A.hand] at h1
        subst h1
        exact .inl (leaf_hand hc.2)
      · cases r <;> simp [Root.t] at h1
        subst h1
        cases hp : st.raw p <;> rw [hp] at hw <;> simp only [St.write, reduceCtorEq, if_false] at hw
        rename_i t i off
        split at hw
        · rename_i ht
          cases ht
          split at hw
          · rename_i e; exact .inl (by rw [e]; rfl)
          · cases hw
        · cases hw
    · cases he

end Go.Vi
end
section
/- Steps, wherever they are done. -/
namespace Go.Vi
variable {call : FuncId → List V → Option V} {st st' st1 s1 s2 : St}

def isMv : MOp → Bool
  | .mv _ => true
  | _ => false

def gslot : Option (Nat × Bool) → List Nat
  | some (j, _) => [j]
  | none => []

def foot (m : MO) : Option Foot :=
  if fixedOp m.op && (!isMv m.op || m.dst.isSome) then match m.op with
    | .alloc _ => match m.dst, m.guard with
      | some d, none => some ⟨[], [d], [], [d]⟩
      | _, _ => none
    | .box _ x => match m.dst, m.guard with
      | some d, none => some ⟨x.slots, x.hand ++ [d], [], [d]⟩
      | _, _ => none
    | op => (footE op).map fun F => ⟨F.rd ++ gslot m.guard, F.wr ++ m.dst.toList, F.rb, F.wb⟩
  else none

def fin (last : Option (Nat × V)) (s : St) : St := match last with
  | none => s
  | some (d, v) => { s with tm := put s.tm d v }

/-- A slice's or a map's new place, a box's new place: nothing else leads there. -/
def Ck (ck : Option (Bool × Nat)) (δ : D) (st : St) : Prop :=
  ∀ k d, ck = some (k, d) → ∀ t u, get (puts δ.tm st.tm) t = some u → (k = true ∧ t = d) ∨ nm k d u = false

structure SL (call : FuncId → List V → Option V) (m : MO) (st : St) (F : Foot) (s1 : St) (δ : D) (last : Option (Nat × V)) (ck : Option (Bool × Nat)) : Prop where
  eq : s1 = fin last (δ.ap st)
  tm : ∀ p ∈ δ.tm, p.1 ∈ F.wr ∧ data p.2 = true
  bx : ∀ p ∈ δ.bx, p.1 ∈ F.wb
  lastw : ∀ d v, last = some (d, v) → m.dst = some d ∧ d ∈ F.wr ∧ ∀ k e, nm k e v = true → (k = false ∧ e ∈ F.rd) ∨ (∃ n ∈ F.rd, nm k e (st.at n) = true) ∨ (k = true ∧ e ∈ F.wb)
  ckw : ∀ k d, ck = some (k, d) → m.dst = some d ∧ d ∈ F.wr ∧ (k = true → d ∈ F.wb)
  ok : Ck ck δ st
  hand : ∀ p ∈ δ.tm, data (st.at p.1) = true ∨ ∃ d, last = some (d, st.at p.1)
  go : ∀ st', Agree st st' F → incr st'.tm = true → Ck ck δ st' → step call m st' = some (fin last (δ.ap st'))

theorem into_sl {p : Bool} {dst : Option Nat} {v : V} (h : into p dst (v, st) = some s1) (hinc : incr st.tm = true) :
    (p || data v) = true ∧ s1 = fin (dst.map fun d => (d, v)) st ∧ ∃ ck : Option (Bool × Nat), (∀ k d, ck = some (k, d) → dst = some d ∧ k = false) ∧ (∀ k d, ck = some (k, d) → ∀ t u, get st.tm t = some u → (k = true ∧ t = d) ∨ nm k d u = false) ∧
      ∀ st', incr st'.tm = true → (∀ k d, ck = some (k, d) → ∀ t u, get st'.tm t = some u → (k = true ∧ t = d) ∨ nm k d u = false) → into p dst (v, st') = some (fin (dst.map fun d => (d, v)) st') := by
  unfold into at h
  split at h
  · rename_i hp
    refine ⟨hp, ?_⟩
    cases dst with
    | none =>
      simp only [Option.some.injEq] at h
      refine ⟨h.symm, none, by simp, by simp, fun st' _ _ => ?_⟩
      unfold into; rw [if_pos hp]; rfl
    | some d =>
      have key : ∀ (hx : noref d st.tm = true) (hst : s1 = { st with tm := put st.tm d v }) (hgo : ∀ st', noref d st'.tm = true → into p (some d) (v, st') = some { st' with tm := put st'.tm d v }),
          s1 = fin ((some d).map fun d => (d, v)) st ∧ ∃ ck : Option (Bool × Nat), (∀ k d', ck = some (k, d') → some d = some d' ∧ k = false) ∧ (∀ k d, ck = some (k, d) → ∀ t u, get st.tm t = some u → (k = true ∧ t = d) ∨ nm k d u = false) ∧
            ∀ st', incr st'.tm = true → (∀ k d, ck = some (k, d) → ∀ t u, get st'.tm t = some u → (k = true ∧ t = d) ∨ nm k d u = false) → into p (some d) (v, st') = some (fin ((some d).map fun d => (d, v)) st') := by
        intro hx hst hgo
        refine ⟨hst, some (false, d), fun k d' e => by cases e; exact ⟨rfl, rfl⟩, fun k d' e t u hg => ?_, fun st' hi hc => hgo st' ((noref_iff hi).2 fun t u hg => ?_)⟩
        · cases e; exact .inr ((noref_iff hinc).1 hx t u hg)
        · rcases hc false d rfl t u hg with h1 | h1
          · cases h1.1
          · exact h1
      simp only at h
      split at h
      · split at h
        · rename_i hn
          cases h
          exact key hn rfl fun st' hn' => by unfold into; rw [if_pos hp]; simp only [if_pos hn']
        · cases h
      · split at h
        · rename_i hn
          cases h
          exact key hn rfl fun st' hn' => by unfold into; rw [if_pos hp]; simp only [if_pos hn']
        · cases h
      · cases h
        refine ⟨rfl, none, by simp, by simp, fun st' _ _ => ?_⟩
        unfold into
        rw [if_pos hp]
        simp only
        rfl
  · cases h

theorem exec_sl {m : MO} {F : Foot} {v : V} (hf : footE m.op = some F) (hx : fixedOp m.op = true) (hm : isMv m.op = true → m.dst.isSome = true) (he : exec call m.op st = some (v, st1)) (hi : into (ptrOp m.op) m.dst (v, st1) = some s1) (hinc : incr st.tm = true) (gs : List Nat)
    (hgo : ∀ st', Agree st st' ⟨F.rd ++ gs, F.wr ++ m.dst.toList, F.rb, F.wb⟩ → ∀ r, (exec call m.op st').bind (into (ptrOp m.op) m.dst) = some r → step call m st' = some r) :
    ∃ δ last ck, SL call m st ⟨F.rd ++ gs, F.wr ++ m.dst.toList, F.rb, F.wb⟩ s1 δ last ck := by
  obtain ⟨δ, L⟩ := exec_local hf he
  have hinc1 : incr st1.tm = true := by rw [L.eq]; exact incr_puts hinc
  obtain ⟨hp, e1, ck, c1, c2, c3⟩ := into_sl hi hinc1
  refine ⟨δ, m.dst.map fun d => (d, v), ck, ⟨by rw [e1, L.eq], fun p hp => ⟨List.mem_append_left _ (L.tm p hp).1, (L.tm p hp).2⟩, L.bx, fun d u hd => ?_, fun k d hc => ?_, ?_, fun p hp => ?_, fun st' ha hi' hc => ?_⟩⟩
  · rw [Option.map_eq_some_iff] at hd
    obtain ⟨d', hd', e⟩ := hd
    cases e
    refine ⟨hd', by simp [hd'], fun k e hn => ?_⟩
    rcases exec_nm hf hx he hp hn with ⟨h1, h2⟩ | ⟨n, h1, h2⟩
    · exact .inl ⟨h1, List.mem_append_left _ h2⟩
    · exact .inr (.inl ⟨n, List.mem_append_left _ h1, h2⟩)
  · obtain ⟨h1, h2⟩ := c1 k d hc
    exact ⟨h1, by simp [h1], fun h => by rw [h2] at h; cases h⟩
  · intro k d hc t u hg
    refine c2 k d hc t u ?_
    rw [L.eq]; exact hg
  · rcases exec_hand hf he (L.tm p hp).1 with h1 | ⟨⟨x, h1⟩, h2⟩
    · exact .inl h1
    · obtain ⟨d, hd⟩ := Option.isSome_iff_exists.1 (hm (by rw [h1]; rfl))
      exact .inr ⟨d, by rw [hd, h2]; rfl⟩
  · refine hgo st' ha _ ?_
    rw [L.go st' ⟨fun t ht => ha.1 t (List.mem_append_left _ ht), ha.2⟩]
    exact c3 _ (incr_puts hi') fun k d hk t u hg => hc k d hk t u hg

theorem step_sl {m : MO} {F : Foot} (hf : foot m = some F) (hs : step call m st = some s1) (hinc : incr st.tm = true) : ∃ δ last ck, SL call m st F s1 δ last ck := by
  obtain ⟨dst, op, guard⟩ := m
  unfold foot at hf
  split at hf
  case isFalse => cases hf
  rename_i hc
  simp only [Bool.and_eq_true, Bool.or_eq_true, Bool.not_eq_true'] at hc
  have hm : isMv op = true → dst.isSome = true := fun h => by
    rcases hc.2 with h1 | h1
    · rw [h] at h1; cases h1
    · exact h1
  have gen : ∀ {F0 : Foot}, footE op = some F0 → (∀ st, step call ⟨dst, op, guard⟩ st = stepG call ⟨dst, op, guard⟩ st) → F = ⟨F0.rd ++ gslot guard, F0.wr ++ dst.toList, F0.rb, F0.wb⟩ →
      ∃ δ last ck, SL call ⟨dst, op, guard⟩ st F s1 δ last ck := by
    intro F0 hF0 hst hF
    subst hF
    rw [hst] at hs
    cases guard with
    | none =>
      simp only [stepG, Option.bind_eq_some_iff] at hs
      obtain ⟨⟨v, st1⟩, he, hi⟩ := hs
      exact exec_sl (m := ⟨dst, op, none⟩) hF0 hc.1 hm he hi hinc [] fun st' _ r hr => by rw [hst]; exact hr
    | some jw =>
      obtain ⟨j, want⟩ := jw
      have skip : ∀ s1, into true dst (V.skp, st) = some s1 → (∀ st', st'.at j = st.at j → ∀ r, into true dst (V.skp, st') = some r → step call ⟨dst, op, some (j, want)⟩ st' = some r) →
          ∃ δ last ck, SL call ⟨dst, op, some (j, want)⟩ st ⟨F0.rd ++ [j], F0.wr ++ dst.toList, F0.rb, F0.wb⟩ s1 δ last ck := by
        intro s1 hi hgo
        obtain ⟨-, e1, ck, c1, c2, c3⟩ := into_sl hi hinc
        refine ⟨⟨[], []⟩, dst.map fun d => (d, .skp), ck, ⟨e1, by simp, by simp, fun d u hd => ?_, fun k d hc => ?_, c2, by simp, fun st' ha hi' hc => ?_⟩⟩
        · rw [Option.map_eq_some_iff] at hd
          obtain ⟨d', hd', e⟩ := hd
          cases e
          exact ⟨hd', by simp [hd'], fun k e hn => by simp [nm] at hn⟩
        · obtain ⟨h1, h2⟩ := c1 k d hc
          exact ⟨h1, by simp [show dst = some d from h1], fun h => by rw [h2] at h; cases h⟩
        · exact hgo st' (ha.1 j (by simp)) _ (c3 st' hi' hc)
      simp only [stepG] at hs
      split at hs
      · rename_i b hb
        split at hs
        · rename_i hbw
          simp only [Option.bind_eq_some_iff] at hs
          obtain ⟨⟨v, st1⟩, he, hi⟩ := hs
          refine exec_sl (m := ⟨dst, op, some (j, want)⟩) hF0 hc.1 hm he hi hinc [j] fun st' ha r hr => ?_
          have hj := ha.1 j (by simp)
          rw [hst]
          simp only [stepG, hj, hb, if_pos hbw]
          exact hr
        · rename_i hbw
          refine skip s1 hs fun st' hj r hr => ?_
          rw [hst]
          simp only [stepG, hj, hb, if_neg hbw]
          exact hr
      · rename_i hb
        refine skip s1 hs fun st' hj r hr => ?_
        rw [hst]
        simp only [stepG, hj, hb]
        exact hr
      · cases hs
  have gen' : ∀ op', op = op' → (∀ st, step call ⟨dst, op', guard⟩ st = stepG call ⟨dst, op', guard⟩ st) → (footE op').map (fun F => Foot.mk (F.rd ++ gslot guard) (F.wr ++ dst.toList) F.rb F.wb) = some F →
      ∃ δ last ck, SL call ⟨dst, op, guard⟩ st F s1 δ last ck := by
    intro op' e hst hF
    subst e
    obtain ⟨F0, h1, h2⟩ := Option.map_eq_some_iff.1 hF
    exact gen h1 hst h2.symm
  cases op
  case alloc z =>
    simp only at hf
    split at hf
    · rename_i d
      cases hf
      simp only [step, boxed] at hs
      split at hs
      · rename_i hcc
        cases hs
        refine ⟨⟨[], [(d, (false, z))]⟩, some (d, .loc d 0), some (true, d), ⟨rfl, by simp, by simp, fun d' u e => ?_, fun k d' e => ?_, fun k d' e t u hg => ?_, by simp, fun st' ha hi' hck => ?_⟩⟩
        · cases e
          refine ⟨rfl, by simp, fun k e hn => .inr (.inr ?_)⟩
          simp only [nm, Bool.and_eq_true, beq_iff_eq] at hn
          exact ⟨hn.1, by simp [hn.2]⟩
        · cases e; exact ⟨rfl, by simp, fun _ => by simp⟩
        · cases e
          rcases (away_iff hinc).1 hcc.1 t u hg with h1 | h1
          · exact .inl ⟨rfl, h1⟩
          · exact .inr h1
        · have haw : away d st'.tm = true := (away_iff hi').2 fun t u hg => by
            rcases hck true d rfl t u hg with h1 | h1
            · exact .inl h1.2
            · exact .inr h1
          simp only [step, boxed, haw, hcc.2, and_self, if_true]
          rfl
      · cases hs
    · cases hf
  case box sz x =>
    simp only at hf
    split at hf
    · rename_i d
      cases hf
      simp only [step] at hs
      split at hs
      · rename_i hsz
        simp only [boxed] at hs
        split at hs
        · rename_i hcc
          cases hs
          have hgi : incr (gone [x] st.tm) = true := by rw [gone_puts]; exact incr_puts hinc
          refine ⟨⟨goneD [x], [(d, (false, flat (st.val x)))]⟩, some (d, .loc d 0), some (true, d), ⟨?_, fun p hp => ?_, by simp, fun d' u e => ?_, fun k d' e => ?_, fun k d' e t u hg => ?_, fun p hp => ?_, fun st' ha hi' hck => ?_⟩⟩
          · simp only [fin, D.ap, gone_puts]; rfl
          · obtain ⟨h1, h2⟩ := goneD_mem hp
            simp only [handOf, List.flatMap_cons, List.flatMap_nil, List.append_nil] at h1
            exact ⟨List.mem_append_left _ h1, by rw [h2]; rfl⟩
          · cases e
            refine ⟨rfl, by simp, fun k e hn => .inr (.inr ?_)⟩
            simp only [nm, Bool.and_eq_true, beq_iff_eq] at hn
            exact ⟨hn.1, by simp [hn.2]⟩
          · cases e; exact ⟨rfl, by simp, fun _ => by simp⟩
          · cases e
            rw [← gone_puts] at hg
            rcases (away_iff hgi).1 hcc.1 t u hg with h1 | h1
            · exact .inl ⟨rfl, h1⟩
            · exact .inr h1
          · obtain ⟨h1, h2⟩ := goneD_mem hp
            obtain ⟨o, ho⟩ := mem_hand h1
            simp only [List.mem_singleton] at ho
            subst ho
            exact .inl (leaf_hand hcc.2)
          · have hv : st'.val x = st.val x := val_agree ha.1
            have hgi' : incr (gone [x] st'.tm) = true := by rw [gone_puts]; exact incr_puts hi'
            have haw : away d (gone [x] st'.tm) = true := (away_iff hgi').2 fun t u hg => by
              rw [gone_puts] at hg
              rcases hck true d rfl t u hg with h1 | h1
              · exact .inl h1.2
              · exact .inr h1
            simp only [step, boxed, hv, if_pos hsz, haw, hcc.2, and_self, if_true]
            simp only [fin, D.ap, gone_puts]
            rfl
        · cases hs
      · cases hs
    · cases hf
  all_goals exact gen' _ rfl (fun st => rfl) hf

end Go.Vi
end
section
/- Any order that the program allows gives what the text's order gives. -/
namespace Go.Vi
variable {call : FuncId → List V → Option V} {st st' st1 s1 s2 : St}

def disj (a b : List Nat) : Bool := a.all fun x => !b.contains x
theorem disj_iff {a b : List Nat} (h : disj a b = true) {x : Nat} (h1 : x ∈ a) : x ∉ b := by
  have := List.all_eq_true.1 h x h1
  simpa using this

def indep (f g : Foot) : Bool := disj f.wr (g.rd ++ g.wr) && disj g.wr f.rd && disj f.wb (g.rb ++ g.wb) && disj g.wb f.rb

theorem at_get {k : Bool} {d n : Nat} (h : nm k d (st.at n) = true) : get st.tm n = some (st.at n) := by
  unfold St.at at h ⊢
  cases hg : get st.tm n with
  | none => rw [hg] at h; simp [nm] at h
  | some u => rfl

/-- All that a step changes. -/
def full (δ : D) (last : Option (Nat × V)) : D := ⟨δ.tm ++ last.toList, δ.bx⟩
theorem fin_full (δ : D) (last : Option (Nat × V)) (s : St) : fin last (δ.ap s) = (full δ last).ap s := by
  cases last with
  | none => simp [fin, full, D.ap]
  | some p => simp [fin, full, D.ap, puts, List.foldl_append]

theorem full_keys {m : MO} {F : Foot} {δ : D} {last : Option (Nat × V)} {ck : Option (Bool × Nat)} (L : SL call m st F s1 δ last ck) : ∀ p ∈ (full δ last).tm, p.1 ∈ F.wr := by
  intro p hp
  rcases List.mem_append.1 hp with h | h
  · exact (L.tm p h).1
  · cases hl : last with
    | none => rw [hl] at h; simp at h
    | some q =>
      rw [hl] at h
      simp only [Option.toList_some, List.mem_singleton] at h
      subst h
      exact (L.lastw p.1 p.2 hl).2.1

theorem at_other {δ : D} {t : Nat} (h : ∀ p ∈ δ.tm, p.1 ≠ t) (s : St) : (δ.ap s).at t = s.at t := by
  simp only [St.at, D.ap, get_puts_other h]

theorem swap {i j : MO} {Fi Fj : Foot} (hfi : foot i = some Fi) (hfj : foot j = some Fj) (hind : indep Fi Fj = true) (hN : ∀ d, i.dst = some d → data (st.at d) = true) (hinc : incr st.tm = true)
    (h1 : step call i st = some s1) (h2 : step call j s1 = some s2) : ∃ sj, step call j st = some sj ∧ step call i sj = some s2 := by
  simp only [indep, Bool.and_eq_true] at hind
  obtain ⟨⟨⟨d1, d2⟩, d3⟩, d4⟩ := hind
  obtain ⟨δi, li, ci, Li⟩ := step_sl hfi h1 hinc
  have e1 : s1 = (full δi li).ap st := by rw [Li.eq, fin_full]
  have hinc1 : incr s1.tm = true := by rw [e1]; exact incr_puts hinc
  obtain ⟨δj, lj, cj, Lj⟩ := step_sl hfj h2 hinc1
  have e2 : s2 = (full δj lj).ap s1 := by rw [Lj.eq, fin_full]
  have ki := full_keys Li
  have kj := full_keys Lj
  have hiw : ∀ t, t ∈ Fi.wr → t ∉ Fj.rd ∧ t ∉ Fj.wr := fun t ht => by
    have := disj_iff d1 ht
    simp only [List.mem_append, not_or] at this
    exact this
  have hib : ∀ t, t ∈ Fi.wb → t ∉ Fj.rb ∧ t ∉ Fj.wb := fun t ht => by
    have := disj_iff d3 ht
    simp only [List.mem_append, not_or] at this
    exact this
  have hat1 : ∀ t, t ∉ Fi.wr → s1.at t = st.at t := fun t ht => by
    rw [e1]; exact at_other (t := t) (fun p hp e => ht (e ▸ ki p hp)) st
  have hget1 : ∀ t, t ∉ Fi.wr → get s1.tm t = get st.tm t := fun t ht => by
    rw [e1]; exact get_puts_other (t := t) (fun p hp e => ht (e ▸ ki p hp)) _
  have hgetj : ∀ (s : St) t, t ∉ Fj.wr → get (puts δj.tm s.tm) t = get s.tm t := fun s t ht => get_puts_other (t := t) (fun p hp e => ht (e ▸ (Lj.tm p hp).1)) _
  have agj : Agree s1 st Fj := ⟨fun t ht => (hat1 t fun hw => (hiw t hw).1 ht).symm, fun d hd => by
    rw [e1]
    exact (get_puts_other (t := d) (fun p hp e => (hib d (e ▸ Li.bx p hp)).1 hd) _).symm⟩
  have okj : Ck cj δj st := by
    intro k d hk t u hg
    by_cases hkey : ∃ p ∈ δj.tm, p.1 = t
    · obtain ⟨p, hp, -, h4⟩ := get_puts_mem hkey st.tm
      rw [hg] at h4
      cases h4
      exact .inr (nm_data (Lj.tm p hp).2)
    · have hne : ∀ p ∈ δj.tm, p.1 ≠ t := fun p hp e => hkey ⟨p, hp, e⟩
      rw [get_puts_other hne] at hg
      have hu : st.at t = u := by simp [St.at, hg]
      by_cases hi : ∃ p ∈ (full δi li).tm, p.1 = t
      · obtain ⟨p, hp, rfl⟩ := hi
        rcases List.mem_append.1 hp with h5 | h5
        · rcases Li.hand p h5 with h6 | ⟨d', h6⟩
          · rw [hu] at h6; exact .inr (nm_data h6)
          · rw [hu] at h6
            obtain ⟨-, h7, -⟩ := Li.lastw d' u h6
            have h8 : get s1.tm d' = some u := by rw [Li.eq, h6]; simp [fin, get_put]
            have h9 := Lj.ok k d hk d' u (by rw [hgetj s1 d' (hiw d' h7).2]; exact h8)
            rcases h9 with h9 | h9
            · exact absurd (Lj.ckw k d hk).2.1 (h9.2 ▸ (hiw d' h7).2)
            · exact .inr h9
        · cases hl : li with
          | none => rw [hl] at h5; simp at h5
          | some q =>
            rw [hl] at h5
            simp only [Option.toList_some, List.mem_singleton] at h5
            subst h5
            have := hN p.1 (Li.lastw p.1 p.2 hl).1
            rw [hu] at this
            exact .inr (nm_data this)
      · have hne2 : ∀ p ∈ (full δi li).tm, p.1 ≠ t := fun p hp e => hi ⟨p, hp, e⟩
        refine Lj.ok k d hk t u ?_
        rw [get_puts_other hne, e1]
        exact (get_puts_other hne2 _).trans hg
  have gj := Lj.go st agj hinc okj
  rw [fin_full] at gj
  refine ⟨_, gj, ?_⟩
  have hincj : incr ((full δj lj).ap st).tm = true := incr_puts hinc
  have agi : Agree st ((full δj lj).ap st) Fi := ⟨fun t ht => at_other (t := t) (fun p hp e => disj_iff d2 (kj p hp) (e ▸ ht)) st, fun d hd => get_puts_other (t := d) (fun p hp e => disj_iff d4 (Lj.bx p hp) (e ▸ hd)) _⟩
  have oki : Ck ci δi ((full δj lj).ap st) := by
    intro k d hk t u hg
    obtain ⟨-, cw, cb⟩ := Li.ckw k d hk
    by_cases hkey : ∃ p ∈ δi.tm, p.1 = t
    · obtain ⟨p, hp, -, h4⟩ := get_puts_mem hkey ((full δj lj).ap st).tm
      rw [hg] at h4
      cases h4
      exact .inr (nm_data (Li.tm p hp).2)
    · have hne : ∀ p ∈ δi.tm, p.1 ≠ t := fun p hp e => hkey ⟨p, hp, e⟩
      rw [get_puts_other hne] at hg
      by_cases hj : ∃ p ∈ (full δj lj).tm, p.1 = t
      · obtain ⟨p, hp, -, h4⟩ := get_puts_mem hj st.tm
        have h5 : some u = some p.2 := hg.symm.trans h4
        cases h5
        rcases List.mem_append.1 hp with h5 | h5
        · exact .inr (nm_data (Lj.tm p h5).2)
        · cases hl : lj with
          | none => rw [hl] at h5; simp at h5
          | some q =>
            rw [hl] at h5
            simp only [Option.toList_some, List.mem_singleton] at h5
            subst h5
            by_cases hn : nm k d p.2 = true
            · exfalso
              rcases (Lj.lastw p.1 p.2 hl).2.2 k d hn with ⟨-, h6⟩ | ⟨n, h6, h7⟩ | ⟨h6, h7⟩
              · exact (hiw d cw).1 h6
              · have hnw : n ∉ Fi.wr := fun hw => (hiw n hw).1 h6
                rw [hat1 n hnw] at h7
                have h8 := Li.ok k d hk n _ (by rw [get_puts_other (t := n) (fun p hp e => hnw (e ▸ (Li.tm p hp).1))]; exact at_get h7)
                rcases h8 with h8 | h8
                · exact hnw (h8.2 ▸ cw)
                · rw [h7] at h8; cases h8
              · exact (hib d (cb h6)).2 h7
            · exact .inr (by simpa using hn)
      · have hne2 : ∀ p ∈ (full δj lj).tm, p.1 ≠ t := fun p hp e => hj ⟨p, hp, e⟩
        refine Li.ok k d hk t u ?_
        rw [get_puts_other hne]
        exact (get_puts_other hne2 _).symm.trans hg
  have gi := Li.go _ agi hincj oki
  rw [gi, fin_full, e2, e1]
  congr 1
  have c1 : puts (full δi li).tm (puts (full δj lj).tm st.tm) = puts (full δj lj).tm (puts (full δi li).tm st.tm) :=
    puts_comm (fun p hp q hq e => (hiw _ (ki p hp)).2 (e ▸ kj q hq)) _
  have c2 : puts (full δi li).bx (puts (full δj lj).bx st.bx) = puts (full δj lj).bx (puts (full δi li).bx st.bx) :=
    puts_comm (fun p hp q hq e => (hib _ (Li.bx p hp)).2 (e ▸ Lj.bx q hq)) _
  simp only [D.ap, c1, c2]

/-- Slots that are still to be filled hold no names. -/
theorem step_clean {m : MO} {F : Foot} (hf : foot m = some F) (hs : step call m st = some s1) (hinc : incr st.tm = true) {d : Nat} (hd : m.dst ≠ some d) (hc : data (st.at d) = true) : data (s1.at d) = true := by
  obtain ⟨δ, last, ck, L⟩ := step_sl hf hs hinc
  rw [L.eq, fin_full]
  by_cases hk : ∃ p ∈ (full δ last).tm, p.1 = d
  · obtain ⟨p, hp, h1, h2⟩ := get_puts_mem hk st.tm
    have : ((full δ last).ap st).at d = p.2 := by simp only [St.at, D.ap, h2]; rfl
    rw [this]
    rcases List.mem_append.1 hp with h5 | h5
    · exact (L.tm p h5).2
    · cases hl : last with
      | none => rw [hl] at h5; simp at h5
      | some q =>
        rw [hl] at h5
        simp only [Option.toList_some, List.mem_singleton] at h5
        subst h5
        exact absurd (h1 ▸ (L.lastw p.1 p.2 hl).1) hd
  · rw [at_other (t := d) fun p hp e => hk ⟨p, hp, e⟩]
    exact hc

theorem step_incr {m : MO} {F : Foot} (hf : foot m = some F) (hs : step call m st = some s1) (hinc : incr st.tm = true) : incr s1.tm = true := by
  obtain ⟨δ, last, ck, L⟩ := step_sl hf hs hinc
  rw [L.eq, fin_full]
  exact incr_puts hinc

/-- What does not meet those before it may come first. -/
theorem to_front {i : MO} {Fi : Foot} (hfi : foot i = some Fi) : ∀ (pre post : List MO) (st : St), (∀ p ∈ pre, ∃ Fp, foot p = some Fp ∧ indep Fp Fi = true) → (∀ p ∈ pre, ∀ d, p.dst = some d → data (st.at d) = true) → (pre.filterMap (·.dst)).Nodup → incr st.tm = true →
    steps call (pre ++ i :: post) st = some st1 → ∃ s, step call i st = some s ∧ steps call (pre ++ post) s = some st1
  | [], post, st, _, _, _, _, h => by
    simp only [List.nil_append, steps, Option.bind_eq_some_iff] at h
    exact h
  | p :: pre, post, st, hp, hN, hnd, hinc, h => by
    simp only [List.cons_append, steps, Option.bind_eq_some_iff] at h
    obtain ⟨sp, h1, h2⟩ := h
    obtain ⟨Fp, f1, f2⟩ := hp p (by simp)
    have hnd' : (pre.filterMap (·.dst)).Nodup ∧ ∀ d, p.dst = some d → d ∉ pre.filterMap (·.dst) := by
      cases hpd : p.dst with
      | none => rw [List.filterMap_cons_none hpd] at hnd; exact ⟨hnd, by simp⟩
      | some d => rw [List.filterMap_cons_some hpd] at hnd; exact ⟨(List.nodup_cons.1 hnd).2, fun d' e => by cases e; exact (List.nodup_cons.1 hnd).1⟩
    obtain ⟨s', g1, g2⟩ := to_front hfi pre post sp (fun q hq => hp q (List.mem_cons_of_mem _ hq)) (fun q hq d hd => step_clean f1 h1 hinc (fun e => hnd'.2 d e (List.mem_filterMap.2 ⟨q, hq, hd⟩)) (hN q (List.mem_cons_of_mem _ hq) d hd)) hnd'.1 (step_incr f1 h1 hinc) h2
    obtain ⟨s, k1, k2⟩ := swap f1 hfi f2 (hN p (by simp)) hinc h1 g1
    refine ⟨s, k1, ?_⟩
    simp only [List.cons_append, steps, k2, Option.bind_some]
    exact g2

end Go.Vi
end
section
/- Drawn regions. -/
namespace Go.Vi
variable {c : Ctx} {g : G} {st st' st1 : St} {a : Act} {w : World} {hs : List Hv}

def opsOK (P : Program) (gl : List (Nat × List V)) (nt : Nat) (ops : Array Oper) : List Oper → List MO → Bool
  | [], [] => true
  | o :: os, m :: ms => moOK P gl nt ops o m && opsOK P gl nt ops os ms
  | _, _ => false

theorem ops_wp {ops : Array Oper} {call : FuncId → List V → Option V} {Q : Exit → Act → World → Prop} (hcall : ∀ f args r, call f args = some r → Good c.P c.gl f args r ∧ Entry c.P f) :
    ∀ (os : List Oper) (ms : List MO) (g : G) (st : St) (a : Act) (w : World), opsOK c.P c.gl c.nt ops os ms = true → FInv c g st a w → steps call ms st = some st1 → (∀ g a w, FInv c g st1 a w → Q .normal a w) → wpList c.P ops Q os a w
  | [], [], g, st, a, w, _, h, hv, hQ => by
    simp only [steps, Option.some.injEq] at hv
    subst hv
    exact hQ g a w h
  | [], _ :: _, _, _, _, _, hok, _, _, _ => by cases hok
  | _ :: _, [], _, _, _, _, hok, _, _, _ => by cases hok
  | o :: os, m :: ms, g, st, a, w, hok, h, hv, hQ => by
    simp only [opsOK, Bool.and_eq_true] at hok
    simp only [steps, Option.bind_eq_some_iff] at hv
    obtain ⟨s, hs, hv⟩ := hv
    have := step_goes (K := wpList c.P ops Q os) (Q := Q) hok.1 hcall h hs fun g a w h' => ops_wp hcall os ms g s a w hok.2 h' hv hQ
    unfold Oper.goes at this
    unfold wpList
    split
    · rename_i hw; rw [if_pos hw] at this; exact .inl this
    · rename_i hw; rw [if_neg hw] at this; exact this


/-! ### what must come before -/
def edgesOf (o : Oper) : List Nat := (o.after.toList.filter (Region.binds .any)).map (·.on)

def uniq : List Nat → List Nat
  | [] => []
  | x :: xs => if (uniq xs).contains x then uniq xs else x :: uniq xs

theorem mem_uniq {x : Nat} : ∀ {l : List Nat}, x ∈ uniq l → x ∈ l
  | [], h => h
  | y :: l, h => by
    unfold uniq at h
    split at h
    · exact List.mem_cons_of_mem _ (mem_uniq h)
    · rcases List.mem_cons.1 h with h | h
      · exact h ▸ List.mem_cons_self
      · exact List.mem_cons_of_mem _ (mem_uniq h)

def closGo : List (List Nat) → List Oper → List (List Nat)
  | acc, [] => acc
  | acc, o :: os => closGo (acc ++ [uniq ((edgesOf o).flatMap fun e => e :: acc.getD e [])]) os

/-- All that is there must be there in full. -/
def Closed (ops : List Oper) (L : Nat → Prop) : Prop := ∀ i o, ops[i]? = some o → L i → ∀ e ∈ edgesOf o, L e

theorem clos_ok {ops : List Oper} {L : Nat → Prop} (hL : Closed ops L) : ∀ (os : List Oper) (acc : List (List Nat)), (∀ k, os[k]? = ops[acc.length + k]?) →
    (∀ i o, i < acc.length → ops[i]? = some o → (∀ e ∈ edgesOf o, L e) → ∀ p ∈ acc.getD i [], L p) → ∀ i o, ops[i]? = some o → (∀ e ∈ edgesOf o, L e) → ∀ p ∈ (closGo acc os).getD i [], L p
  | [], acc, hk, hacc, i, o, hi, he, p, hp => by
    by_cases hlt : i < acc.length
    · exact hacc i o hlt hi he p hp
    · exfalso
      have := hk (i - acc.length)
      rw [show acc.length + (i - acc.length) = i by omega, hi] at this
      simp at this
  | o' :: os, acc, hk, hacc, i, o, hi, he, p, hp => by
    refine clos_ok hL os (acc ++ [uniq ((edgesOf o').flatMap fun e => e :: acc.getD e [])]) (fun k => ?_) (fun j oj hj hoj hej q hq => ?_) i o hi he p hp
    · have := hk (k + 1)
      simp only [List.getElem?_cons_succ] at this
      rw [this, List.length_append]
      congr 1
      simp; omega
    · rw [List.getD_eq_getElem?_getD] at hq
      by_cases hlt : j < acc.length
      · rw [List.getElem?_append_left hlt, ← List.getD_eq_getElem?_getD] at hq
        exact hacc j oj hlt hoj hej q hq
      · have hj' : j = acc.length := by simp at hj; omega
        subst hj'
        have ho' : ops[acc.length]? = some o' := by have := hk 0; simpa using this.symm
        rw [hoj] at ho'
        cases ho'
        simp only [List.getElem?_append_right (Nat.le_refl _), Nat.sub_self, List.getElem?_cons_zero, Option.getD_some] at hq
        obtain ⟨e, h1, h2⟩ := List.mem_flatMap.1 (mem_uniq hq)
        have hLe := hej e h1
        rcases List.mem_cons.1 h2 with h3 | h3
        · exact h3 ▸ hLe
        · by_cases hea : e < acc.length
          · cases hoe : ops[e]? with
            | none =>
              exfalso
              have h4 := List.getElem?_eq_none_iff.1 hoe
              have h5 := (List.getElem?_eq_some_iff.1 hoj).1
              omega
            | some oe => exact hacc e oe hea hoe (hL e oe hoe hLe) q h3
          · rw [List.getD_eq_getElem?_getD, List.getElem?_eq_none (by omega)] at h3
            cases h3

def nodupB : List Nat → Bool
  | [] => true
  | x :: xs => !xs.contains x && nodupB xs
theorem nodupB_iff : ∀ {l : List Nat}, nodupB l = true → l.Nodup
  | [], _ => List.nodup_nil
  | x :: xs, h => by
    simp only [nodupB, Bool.and_eq_true, Bool.not_eq_true'] at h
    exact List.nodup_cons.2 ⟨by simpa using h.1, nodupB_iff h.2⟩

/-- May the order be left free? -/
def drawOK (ops : Array Oper) (ms : List MO) : Bool :=
  let cl := closGo [] ops.toList
  nodupB (ms.filterMap (·.dst)) && ms.length == ops.size && (List.range ops.size).all fun i => match ops[i]?, ms[i]? with
    | some o, some m => (edgesOf o).all (fun e => decide (e < i)) && match foot m with
      | some F => (List.range i).all fun p => (cl.getD i []).contains p || match (ms[p]?).bind foot with
        | some F' => indep F' F
        | none => false
      | none => false
    | _, _ => false

theorem opsOK_at {P : Program} {gl : List (Nat × List V)} {nt : Nat} {ops : Array Oper} : ∀ {os : List Oper} {ms : List MO}, opsOK P gl nt ops os ms = true → ∀ (i : Nat) (o : Oper) (m : MO), os[i]? = some o → ms[i]? = some m → moOK P gl nt ops o m = true
  | [], [], _, i, o, m, h, _ => by simp at h
  | [], _ :: _, hok, _, _, _, _, _ => by cases hok
  | _ :: _, [], hok, _, _, _, _, _ => by cases hok
  | o' :: os, m' :: ms, hok, i, o, m, h1, h2 => by
    simp only [opsOK, Bool.and_eq_true] at hok
    cases i with
    | zero => simp at h1 h2; subst h1 h2; exact hok.1
    | succ i => exact opsOK_at hok.2 i o m (by simpa using h1) (by simpa using h2)

def left (n : Nat) (listed : Array Bool) : List Nat := (List.range n).filter fun i => !listed.getD i true

theorem getD_set (listed : Array Bool) (i j : Nat) (d : Bool) (hi : i < listed.size) : (listed.setIfInBounds i true).getD j d = if j = i then true else listed.getD j d := by
  simp only [Array.getD_eq_getD_getElem?]
  by_cases h : j = i
  · subst h; simp [hi]
  · rw [Array.getElem?_setIfInBounds_ne (fun e => h e.symm), if_neg h]

theorem left_split {n i : Nat} {listed : Array Bool} (hi : i < n) (hs : listed.size = n) (hl : listed.getD i true = false) : ∃ pre post, left n listed = pre ++ i :: post ∧ left n (listed.setIfInBounds i true) = pre ++ post ∧ ∀ p ∈ pre, p < i ∧ listed.getD p true = false := by
  have hr : List.range n = List.range i ++ i :: List.range' (i + 1) (n - i - 1) := by
    rw [List.range_eq_range', List.range_eq_range', show n = i + (1 + (n - i - 1)) by omega, ← List.range'_append_1, ← List.range'_append_1]
    simp
  refine ⟨(List.range i).filter fun i => !listed.getD i true, (List.range' (i + 1) (n - i - 1)).filter fun i => !listed.getD i true, ?_, ?_, fun p hp => ?_⟩
  · unfold left
    rw [hr, List.filter_append, List.filter_cons, if_pos (by rw [hl]; rfl)]
  · unfold left
    rw [hr, List.filter_append, List.filter_cons, if_neg (by rw [getD_set _ _ _ _ (by omega), if_pos rfl]; simp)]
    congr 1
    · refine List.filter_congr fun x hx => ?_
      rw [getD_set _ _ _ _ (by omega), if_neg]
      have := List.mem_range.1 hx; omega
    · refine List.filter_congr fun x hx => ?_
      rw [getD_set _ _ _ _ (by omega), if_neg]
      have := (List.mem_range'_1.1 hx).1; omega
  · simp only [List.mem_filter, List.mem_range, Bool.not_eq_true'] at hp
    exact hp

def rem (ms : List MO) (n : Nat) (listed : Array Bool) : List MO := (left n listed).filterMap (ms[·]?)

theorem rem_nil {ms : List MO} {n : Nat} {listed : Array Bool} (h : ∀ i, i < n → listed.getD i true = true) : rem ms n listed = [] := by
  have : left n listed = [] := by
    unfold left
    refine List.filter_eq_nil_iff.2 fun i hi => ?_
    rw [h i (List.mem_range.1 hi)]; simp
  unfold rem
  rw [this]; rfl

theorem any_wp {ops : Array Oper} {ms : List MO} {call : FuncId → List V → Option V} {Q : Exit → Act → World → Prop} (hcall : ∀ f args r, call f args = some r → Good c.P c.gl f args r ∧ Entry c.P f)
    (hops : opsOK c.P c.gl c.nt ops ops.toList ms = true) (hdraw : drawOK ops ms = true) (hQ : ∀ g a w, FInv c g st1 a w → Q .normal a w) :
    ∀ (fuel : Nat) (listed : Array Bool) (g : G) (st : St) (a : Act) (w : World), listed.size = ops.size → (left ops.size listed).length ≤ fuel → Closed ops.toList (fun i => listed.getD i false = true) →
      steps call (rem ms ops.size listed) st = some st1 → FInv c g st a w → incr st.tm = true → (∀ p ∈ rem ms ops.size listed, ∀ d, p.dst = some d → data (st.at d) = true) → ((rem ms ops.size listed).filterMap (·.dst)).Nodup → wpAny c.P .any ops Q fuel listed a w := by
  simp only [drawOK, Bool.and_eq_true, beq_iff_eq, List.all_eq_true, List.mem_range] at hdraw
  obtain ⟨⟨-, hlen⟩, hall⟩ := hdraw
  -- each operation by itself
  have hat : ∀ i, i < ops.size → ∃ o m F, ops[i]? = some o ∧ ms[i]? = some m ∧ foot m = some F ∧ (∀ e ∈ edgesOf o, e < i) ∧ ∀ p, p < i → p ∈ (closGo [] ops.toList).getD i [] ∨ ∃ F', (ms[p]?).bind foot = some F' ∧ indep F' F = true := by
    intro i hi
    have h := hall i hi
    split at h
    · rename_i o m ho hm
      simp only [Bool.and_eq_true, List.all_eq_true, decide_eq_true_eq] at h
      obtain ⟨h1, h2⟩ := h
      split at h2
      · rename_i F hF
        refine ⟨o, m, F, ho, hm, hF, h1, fun p hp => ?_⟩
        have h3 := List.all_eq_true.1 h2 p (List.mem_range.2 hp)
        simp only [Bool.or_eq_true, List.contains_iff_mem] at h3
        rcases h3 with h3 | h3
        · exact .inl h3
        · split at h3
          · rename_i F' hF'; exact .inr ⟨F', hF', h3⟩
          · cases h3
      · cases h2
    · cases h
  have hready : ∀ (listed : Array Bool) i, listed.size = ops.size → (i ∈ Region.ready .any ops listed ↔ i < ops.size ∧ listed.getD i true = false ∧ ∀ o, ops[i]? = some o → ∀ e ∈ edgesOf o, listed.getD e false = true) := by
    intro listed i hsz
    unfold Region.ready
    simp only [List.mem_filter, List.mem_range, Bool.and_eq_true, Bool.not_eq_true']
    constructor
    · rintro ⟨h1, h2, h3⟩
      refine ⟨h1, h2, fun o ho e he => ?_⟩
      rw [ho] at h3
      simp only [Option.map_some, Option.getD_some] at h3
      simp only [edgesOf, List.mem_map, List.mem_filter] at he
      obtain ⟨ed, ⟨h4, h5⟩, rfl⟩ := he
      have := Array.all_eq_true_iff_forall_mem.1 h3 ed (by simpa using h4)
      rw [h5] at this
      simpa using this
    · rintro ⟨h1, h2, h3⟩
      refine ⟨h1, h2, ?_⟩
      rw [Array.getElem?_eq_getElem h1]
      simp only [Option.map_some, Option.getD_some]
      refine Array.all_eq_true_iff_forall_mem.2 fun ed hed => ?_
      cases hb : Region.binds .any ed with
      | false => simp
      | true =>
        have := h3 _ (Array.getElem?_eq_getElem h1) ed.on (by
          simp only [edgesOf, List.mem_map, List.mem_filter]
          exact ⟨ed, ⟨by simpa using hed, hb⟩, rfl⟩)
        simpa using this
  have hnone : ∀ (listed : Array Bool), listed.size = ops.size → Region.ready .any ops listed = [] → ∀ i, i < ops.size → listed.getD i true = true := by
    intro listed hsz hr i
    induction i using Nat.strongRecOn with
    | _ i ih =>
      intro hi
      by_cases hl : listed.getD i true = true
      · exact hl
      · exfalso
        have hl' : listed.getD i true = false := by simpa using hl
        obtain ⟨o, m, F, ho, -, -, hedge, -⟩ := hat i hi
        have hm : i ∈ Region.ready .any ops listed := (hready listed i hsz).2 ⟨hi, hl', fun o' ho' e he => by
          rw [ho] at ho'; cases ho'
          have h1 := hedge e he
          have h2 := ih e h1 (by omega)
          have h3 : e < listed.size := by omega
          simpa [Array.getD, h3] using h2⟩
        rw [hr] at hm; cases hm
  intro fuel
  induction fuel with
  | zero =>
    intro listed g st a w hsz hf hcl hs h _ _ _
    have hnil : left ops.size listed = [] := List.eq_nil_of_length_eq_zero (by omega)
    have hr : Region.ready .any ops listed = [] := by
      cases he : Region.ready .any ops listed with
      | nil => rfl
      | cons i rest =>
        exfalso
        obtain ⟨h1, h2, -⟩ := (hready listed i hsz).1 (by rw [he]; simp)
        have : i ∈ left ops.size listed := List.mem_filter.2 ⟨List.mem_range.2 h1, by rw [h2]; rfl⟩
        rw [hnil] at this; cases this
    refine ⟨hr, ?_⟩
    have : rem ms ops.size listed = [] := by unfold rem; rw [hnil]; rfl
    rw [this] at hs
    simp only [steps, Option.some.injEq] at hs
    subst hs
    exact hQ g a w h
  | succ fuel ih =>
    intro listed g st a w hsz hf hcl hs h hinc hN hnd
    refine ⟨fun hr => ?_, fun i hi => ?_⟩
    · rw [rem_nil (hnone listed hsz hr)] at hs
      simp only [steps, Option.some.injEq] at hs
      subst hs
      exact hQ g a w h
    · obtain ⟨h1, h2, h3⟩ := (hready listed i hsz).1 hi
      obtain ⟨o, m, F, ho, hm, hF, hedge, hind⟩ := hat i h1
      have hiedge := h3 o ho
      obtain ⟨pre, post, e1, e2, e3⟩ := left_split h1 hsz h2
      have er : rem ms ops.size listed = pre.filterMap (ms[·]?) ++ m :: post.filterMap (ms[·]?) := by
        unfold rem; rw [e1, List.filterMap_append, List.filterMap_cons_some hm]
      have er' : rem ms ops.size (listed.setIfInBounds i true) = pre.filterMap (ms[·]?) ++ post.filterMap (ms[·]?) := by
        unfold rem; rw [e2, List.filterMap_append]
      rw [er] at hs hN hnd
      have hndp : (pre.filterMap (ms[·]?)).filterMap (·.dst) ++ (m :: post.filterMap (ms[·]?)).filterMap (·.dst) = (pre.filterMap (ms[·]?) ++ m :: post.filterMap (ms[·]?)).filterMap (·.dst) := List.filterMap_append.symm
      have hnd2 := hnd
      rw [← hndp, List.nodup_append] at hnd2
      obtain ⟨n1, n2, n3⟩ := hnd2
      obtain ⟨s, g1, g2⟩ := to_front hF (pre.filterMap (ms[·]?)) (post.filterMap (ms[·]?)) st (fun p hp => by
          obtain ⟨q, hq, hqp⟩ := List.mem_filterMap.1 hp
          obtain ⟨hlt, hnl⟩ := e3 q hq
          rcases hind q hlt with h5 | ⟨F', h5, h6⟩
          · exfalso
            have := clos_ok hcl ops.toList [] (fun k => by simp) (fun i o hi => by simp at hi) i o (by simpa using ho) hiedge q h5
            have h7 : q < listed.size := by omega
            simp only [Array.getD, h7, dif_pos] at this hnl
            rw [this] at hnl; cases hnl
          · rw [hqp] at h5
            exact ⟨F', h5, h6⟩) (fun p hp => hN p (List.mem_append_left _ hp)) n1 hinc hs
      have hmo := opsOK_at hops i o m (by simpa using ho) hm
      have hgoes := step_goes (K := wpAny c.P .any ops Q fuel (listed.setIfInBounds i true)) (Q := Q) hmo hcall h g1 fun g' a' w' h' => by
        have hsz' : (listed.setIfInBounds i true).size = ops.size := by simpa using hsz
        have hsub : ((pre.filterMap (ms[·]?) ++ post.filterMap (ms[·]?)).filterMap (·.dst)).Nodup := by
          rw [List.filterMap_append, List.nodup_append]
          have n2' : ((post.filterMap (ms[·]?)).filterMap (·.dst)).Nodup := by
            cases hmd : m.dst with
            | none => rwa [List.filterMap_cons_none hmd] at n2
            | some d => rw [List.filterMap_cons_some hmd] at n2; exact (List.nodup_cons.1 n2).2
          refine ⟨n1, n2', fun x hx y hy => n3 x hx y ?_⟩
          cases hmd : m.dst with
          | none => rwa [List.filterMap_cons_none hmd]
          | some d => rw [List.filterMap_cons_some hmd]; exact List.mem_cons_of_mem _ hy
        refine ih (listed.setIfInBounds i true) g' s a' w' hsz' (by
            have := congrArg List.length e1
            rw [e2]; simp at this ⊢; omega) (fun j oj hoj hLj e he => ?_) (by rw [er']; exact g2) h' (step_incr hF g1 hinc) (fun p hp d hd => ?_) (by rw [er']; exact hsub)
        · have hi' : i < listed.size := by omega
          have hLj : (listed.setIfInBounds i true).getD j false = true := hLj
          show (listed.setIfInBounds i true).getD e false = true
          rw [getD_set _ _ _ _ hi'] at hLj ⊢
          by_cases hej : e = i
          · rw [if_pos hej]
          · rw [if_neg hej]
            by_cases hji : j = i
            · subst hji
              have : ops.toList[j]? = some o := by simpa using ho
              rw [hoj] at this; cases this
              exact hiedge e he
            · rw [if_neg hji] at hLj
              exact hcl j oj hoj hLj e he
        · rw [er'] at hp
          have hp' : p ∈ pre.filterMap (ms[·]?) ++ m :: post.filterMap (ms[·]?) := by
            rcases List.mem_append.1 hp with h5 | h5
            · exact List.mem_append_left _ h5
            · exact List.mem_append_right _ (List.mem_cons_of_mem _ h5)
          refine step_clean hF g1 hinc (fun hmd => ?_) (hN p hp' d hd)
          rw [List.filterMap_cons_some hmd] at n2 n3
          rcases List.mem_append.1 hp with h5 | h5
          · exact n3 d (List.mem_filterMap.2 ⟨p, h5, hd⟩) d List.mem_cons_self rfl
          · exact (List.nodup_cons.1 n2).1 (List.mem_filterMap.2 ⟨p, h5, hd⟩)
      unfold Oper.goes at hgoes
      unfold wpOp
      rw [ho]
      simp only
      split
      · rename_i hw; rw [if_pos hw] at hgoes; exact .inl hgoes
      · rename_i hw; rw [if_neg hw] at hgoes; exact hgoes

theorem range_get (ms : List MO) : (List.range ms.length).filterMap (ms[·]?) = ms := by
  have key : ∀ (m k : Nat), k + m = ms.length → (List.range' k m).filterMap (ms[·]?) = ms.drop k := by
    intro m
    induction m with
    | zero => intro k hk; simp [List.drop_eq_nil_of_le (show ms.length ≤ k by omega)]
    | succ m ih =>
      intro k hk
      have hlt : k < ms.length := by omega
      rw [List.range'_succ, List.filterMap_cons_some (List.getElem?_eq_getElem hlt), ih (k + 1) (by omega), List.drop_eq_getElem_cons hlt]
  rw [List.range_eq_range', key ms.length 0 (by omega), List.drop_zero]

theorem draw_wp {ops : Array Oper} {ms : List MO} {call : FuncId → List V → Option V} {Q : Exit → Act → World → Prop} (hcall : ∀ f args r, call f args = some r → Good c.P c.gl f args r ∧ Entry c.P f)
    (hops : opsOK c.P c.gl c.nt ops ops.toList ms = true) (hdraw : drawOK ops ms = true) (h : FInv c g st a w) (ht : tidy ms st = true) (hv : steps call ms st = some st1) (hQ : ∀ g a w, FInv c g st1 a w → Q .normal a w) :
    wpAny c.P .any ops Q ops.size (Array.replicate ops.size false) a w := by
  have hd := hdraw
  simp only [drawOK, Bool.and_eq_true, beq_iff_eq] at hd
  have hlen := hd.1.2
  simp only [tidy, Bool.and_eq_true, List.all_eq_true] at ht
  have hleft : left ops.size (Array.replicate ops.size false) = List.range ops.size := by
    unfold left
    refine List.filter_eq_self.2 fun i hi => ?_
    have := List.mem_range.1 hi
    simp [Array.getD, this]
  have hrem : rem ms ops.size (Array.replicate ops.size false) = ms := by
    unfold rem
    rw [hleft, ← hlen]
    exact range_get ms
  refine any_wp hcall hops hdraw hQ ops.size _ g st a w (by simp) (by rw [hleft]; simp) (fun i o _ hl => ?_) (by rw [hrem]; exact hv) h ht.1 (by
      rw [hrem]
      intro p hp d hd'
      have := ht.2 p hp
      rw [hd'] at this
      exact this) (by rw [hrem]; exact nodupB_iff hd.1.1)
  exfalso
  simp [Array.getD] at hl

end Go.Vi
end
