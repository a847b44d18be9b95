/- What an operation looks at, and what it changes. -/
import Derived.Test.YtomimhedehecdaaDoorViComm
namespace Go.Vi
variable {call : FuncId → List V → Option V} {st st' st1 : St}

def A.slots : A → List Nat
  | .t n | .m _ n => [n]
  | .c _ => []
def A.hand : A → List Nat
  | .m _ n => [n]
  | _ => []
def A.fixed : A → Bool
  | .c v => data v
  | _ => true
def Root.t : Root → List Nat
  | .tm t => [t]
  | _ => []
def Root.b : Root → List Nat
  | .bx d => [d]
  | _ => []

structure Foot where
  rd : List Nat
  wr : List Nat
  rb : List Nat
  wb : List Nat

def slotsOf (xs : List A) : List Nat := xs.flatMap A.slots
def handOf (xs : List A) : List Nat := xs.flatMap A.hand

/-- What an operation looks at and changes besides its own slot; none: it stays where it is. -/
def footE : MOp → Option Foot
  | .mv x => some ⟨x.slots, x.hand, [], []⟩
  | .pick c x y => some ⟨slotsOf [c, x, y], [], [], []⟩
  | .build _ ps => some ⟨slotsOf (ps.map (·.2.2)), handOf (ps.map (·.2.2)), [], []⟩
  | .bsl _ _ _ ps => some ⟨slotsOf (ps.map (·.2)), handOf (ps.map (·.2)), [], []⟩
  | .load r _ _ p => some ⟨p.slots ++ r.t, [], r.b, []⟩
  | .store r _ p x => some ⟨p.slots ++ x.slots ++ r.t, x.hand ++ r.t, r.b, r.b⟩
  | .nilchk x => some ⟨x.slots, [], [], []⟩
  | .bin _ x y => some ⟨slotsOf [x, y], [], [], []⟩
  | .eqs _ _ _ x y => some ⟨slotsOf [x, y], [], [], []⟩
  | .un _ x => some ⟨x.slots, [], [], []⟩
  | .conv _ x => some ⟨x.slots, [], [], []⟩
  | .faddr r _ p => some ⟨p.slots ++ r.t, [], [], []⟩
  | .fld _ _ _ x => some ⟨x.slots, [], [], []⟩
  | .iarr _ _ p i => some ⟨slotsOf [p, i], [], [], []⟩
  | .iaddr r _ x i => some ⟨slotsOf [x, i] ++ r.t, [], [], []⟩
  | .idxs x i => some ⟨slotsOf [x, i], [], [], []⟩
  | .idxa _ _ _ x i => some ⟨slotsOf [x, i], [], [], []⟩
  | .look r _ _ _ _ m k => some ⟨slotsOf [m, k] ++ r.t, [], [], []⟩
  | .ext _ x => some ⟨x.slots, [], [], []⟩
  | .len _ r x => some ⟨x.slots ++ r.t, [], [], []⟩
  | .app _ _ x y => some ⟨slotsOf [x, y], handOf [x, y], [], []⟩
  | .mx _ xs => some ⟨slotsOf xs, [], [], []⟩
  | .slc _ x lo hi mx => some ⟨slotsOf (x :: (lo.toList ++ hi.toList ++ mx.toList)), handOf [x], [], []⟩
  | .slcs x lo hi => some ⟨slotsOf (x :: (lo.toList ++ hi.toList)), [], [], []⟩
  | .call _ xs => some ⟨slotsOf xs, handOf xs, [], []⟩
  | _ => none

def Agree (st st' : St) (F : Foot) : Prop := (∀ t ∈ F.rd, st'.at t = st.at t) ∧ ∀ d ∈ F.rb, get st'.bx d = get st.bx d

theorem val_agree {x : A} (h : ∀ t ∈ x.slots, st'.at t = st.at t) : st'.val x = st.val x := by
  cases x <;> simp_all [St.val, A.slots]
theorem raw_agree {x : A} (h : ∀ t ∈ x.slots, st'.at t = st.at t) : st'.raw x = st.raw x := by
  cases x <;> simp_all [St.raw, A.slots]
theorem vals_agree {xs : List A} (h : ∀ t ∈ slotsOf xs, st'.at t = st.at t) : vals st' xs = vals st xs := by
  unfold vals
  refine List.map_congr_left fun x hx => val_agree fun t ht => h t (List.mem_flatMap.2 ⟨x, hx, ht⟩)
theorem cells_agree {r : Root} {p : V} {sz : Nat} (h : ∀ t ∈ r.t, st'.at t = st.at t) (hb : ∀ d ∈ r.b, get st'.bx d = get st.bx d) : st'.cells r p sz = st.cells r p sz := by
  cases p <;> simp only [St.cells]
  · rename_i d off
    split
    · rename_i e; rw [hb d (by rw [e]; simp [Root.b])]
    · rfl
  · rename_i t i off
    split
    · rename_i e; rw [h t (by rw [e]; simp [Root.t])]
    · rfl
theorem deref_agree {r : Root} {v : V} (h : ∀ t ∈ r.t, st'.at t = st.at t) : st'.deref r v = st.deref r v := by
  cases v <;> simp only [St.deref]
  rename_i s
  split
  · rename_i e; rw [h s (by rw [e]; simp [Root.t])]
  · rfl

theorem optInt_agree {x : Option A} {n : Int} (h : ∀ t ∈ slotsOf x.toList, st'.at t = st.at t) : st'.optInt n x = st.optInt n x := by
  cases x with
  | none => rfl
  | some x =>
    have e : st'.val x = st.val x := val_agree fun t ht => h t (by simpa [slotsOf] using ht)
    simp only [St.optInt, St.ints, e]

theorem fill_agree {ps : List (Nat × Nat × A)} (h : ∀ t ∈ slotsOf (ps.map (·.2.2)), st'.at t = st.at t) : ∀ cs, fill st' cs ps = fill st cs ps := by
  induction ps with
  | nil => intro cs; rfl
  | cons p ps ih =>
    intro cs
    obtain ⟨off, sz, x⟩ := p
    simp only [List.map_cons, slotsOf, List.flatMap_cons, List.mem_append] at h
    simp only [fill, val_agree fun t ht => h t (.inl ht), ih fun t ht => h t (.inr ht)]

theorem rows_agree {sz : Nat} {ps : List (Nat × A)} (h : ∀ t ∈ slotsOf (ps.map (·.2)), st'.at t = st.at t) : ∀ xs, rowsOf st' sz xs ps = rowsOf st sz xs ps := by
  induction ps with
  | nil => intro cs; rfl
  | cons p ps ih =>
    intro cs
    obtain ⟨i, x⟩ := p
    simp only [List.map_cons, slotsOf, List.flatMap_cons, List.mem_append] at h
    simp only [rowsOf, val_agree fun t ht => h t (.inl ht), ih fun t ht => h t (.inr ht)]

/-- What is handed on, as a change. -/
def goneD : List A → List (Nat × V)
  | [] => []
  | .m _ n :: xs => (n, .undef) :: goneD xs
  | _ :: xs => goneD xs

theorem gone_puts : ∀ (xs : List A) (l : List (Nat × V)), gone xs l = puts (goneD xs) l
  | [], _ => rfl
  | .m _ n :: xs, l => gone_puts xs (put l n .undef)
  | .t _ :: xs, l => gone_puts xs l
  | .c _ :: xs, l => gone_puts xs l

theorem goneD_mem : ∀ {xs : List A} {p : Nat × V}, p ∈ goneD xs → p.1 ∈ handOf xs ∧ p.2 = .undef
  | [], _, h => by cases h
  | x :: xs, p, h => by
    have hs : ∀ {p}, p ∈ goneD xs → p.1 ∈ handOf (x :: xs) ∧ p.2 = .undef := fun hp => ⟨List.mem_append_right _ (goneD_mem hp).1, (goneD_mem hp).2⟩
    cases x with
    | m o n =>
      simp only [goneD, List.mem_cons] at h
      rcases h with rfl | h
      · exact ⟨by simp [handOf, A.hand], rfl⟩
      · exact hs h
    | t n => exact hs h
    | c v => exact hs h

/-- An operation that leaves the state alone but for what is handed on. -/
def Plainly (call : FuncId → List V → Option V) (o : MOp) (xs : List A) (st : St) (F : Foot) : Prop :=
  ∀ v st1, exec call o st = some (v, st1) → st1 = st.gone xs ∧ ∀ st', Agree st st' F → exec call o st' = some (v, st'.gone xs)

/-- What an operation comes to, wherever it is done. -/
structure Local (call : FuncId → List V → Option V) (o : MOp) (st : St) (F : Foot) (v : V) (st1 : St) (δ : D) : Prop where
  eq : st1 = δ.ap st
  tm : ∀ p ∈ δ.tm, p.1 ∈ F.wr ∧ data p.2 = true
  bx : ∀ p ∈ δ.bx, p.1 ∈ F.wb
  go : ∀ st', Agree st st' F → exec call o st' = some (v, δ.ap st')

theorem Plainly.local {o : MOp} {xs : List A} {F : Foot} {v : V} (h : Plainly call o xs st F) (hw : ∀ t ∈ handOf xs, t ∈ F.wr) (he : exec call o st = some (v, st1)) : ∃ δ, Local call o st F v st1 δ := by
  obtain ⟨h1, h2⟩ := h v st1 he
  have e : ∀ s : St, s.gone xs = (D.mk (goneD xs) []).ap s := fun s => by simp [St.gone, D.ap, gone_puts, puts]
  refine ⟨⟨goneD xs, []⟩, by rw [h1, e], fun p hp => ?_, by simp, fun s hs => by rw [h2 s hs, e]⟩
  obtain ⟨h3, h4⟩ := goneD_mem hp
  exact ⟨hw _ h3, by rw [h4]; rfl⟩

theorem exec_local {o : MOp} {F : Foot} {v : V} (hf : footE o = some F) (he : exec call o st = some (v, st1)) : ∃ δ, Local call o st F v st1 δ := by
  have g0 : ∀ s : St, s.gone [] = s := fun s => rfl
  cases o <;> simp only [footE, Option.some.injEq, reduceCtorEq] at hf
  case mv x =>
    subst hf
    refine Plainly.local (xs := [x]) (fun v st1 he => ?_) (by simp [handOf]) he
    simp only [exec, Option.some.injEq, Prod.mk.injEq] at he
    obtain ⟨rfl, rfl⟩ := he
    refine ⟨rfl, fun s hs => ?_⟩
    simp only [exec, val_agree hs.1]
  case pick x y z =>
    subst hf
    refine Plainly.local (xs := []) (fun v st1 he => ?_) (by simp [handOf]) he
    have k : ∀ s, Agree st s ⟨slotsOf [x, y, z], [], [], []⟩ → s.val x = st.val x ∧ s.val y = st.val y ∧ s.val z = st.val z := fun s hs =>
      ⟨val_agree fun t ht => hs.1 t (by simp [slotsOf, ht]), val_agree fun t ht => hs.1 t (by simp [slotsOf, ht]), val_agree fun t ht => hs.1 t (by simp [slotsOf, ht])⟩
    simp only [exec] at he
    split at he
    · rename_i b hb
      cases he
      refine ⟨rfl, fun s hs => ?_⟩
      obtain ⟨k1, k2, k3⟩ := k s hs
      simp only [exec, k1, k2, k3, hb, g0]
    · cases he
  case build z ps =>
    subst hf
    refine Plainly.local (xs := ps.map (·.2.2)) (fun v st1 he => ?_) (by simp) he
    simp only [exec, Option.map_eq_some_iff] at he
    obtain ⟨cs, hc, he⟩ := he
    cases he
    refine ⟨rfl, fun s hs => ?_⟩
    simp only [exec, fill_agree hs.1, hc, Option.map_some]
  case bsl sz n z ps =>
    subst hf
    refine Plainly.local (xs := ps.map (·.2)) (fun v st1 he => ?_) (by simp) he
    simp only [exec] at he
    split at he
    · rename_i hc
      simp only [Option.map_eq_some_iff] at he
      obtain ⟨cs, hcs, he⟩ := he
      cases he
      refine ⟨rfl, fun s hs => ?_⟩
      simp only [exec, if_pos hc, rows_agree hs.1, hcs, Option.map_some]
    · cases he
  case load r ag sz p =>
    subst hf
    refine Plainly.local (xs := []) (fun v st1 he => ?_) (by simp [handOf]) he
    simp only [exec, Option.bind_eq_some_iff, Option.map_eq_some_iff] at he
    obtain ⟨cs, hc, u, hu, he⟩ := he
    cases he
    refine ⟨rfl, fun s hs => ?_⟩
    simp only [exec, raw_agree (x := p) fun t ht => hs.1 t (by simp [ht]), cells_agree (fun t ht => hs.1 t (by simp [ht])) hs.2, hc, Option.bind_some, hu, Option.map_some, g0]
  case nilchk x =>
    subst hf
    refine Plainly.local (xs := []) (fun v st1 he => ?_) (by simp [handOf]) he
    simp only [exec] at he
    split at he
    all_goals
      rename_i e
      first
        | (cases he
           refine ⟨rfl, fun s hs => ?_⟩
           simp only [exec, raw_agree hs.1, e, g0])
        | cases he
  case bin op x y =>
    subst hf
    refine Plainly.local (xs := []) (fun v st1 he => ?_) (by simp [handOf]) he
    simp only [exec, Option.map_eq_some_iff] at he
    obtain ⟨u, hu, he⟩ := he
    cases he
    refine ⟨rfl, fun s hs => ?_⟩
    simp only [exec, val_agree (x := x) fun t ht => hs.1 t (by simp [slotsOf, ht]), val_agree (x := y) fun t ht => hs.1 t (by simp [slotsOf, ht]), hu, Option.map_some, g0]
  case eqs ag ks neg x y =>
    subst hf
    refine Plainly.local (xs := []) (fun v st1 he => ?_) (by simp [handOf]) he
    simp only [exec, Option.map_eq_some_iff] at he
    obtain ⟨u, hu, he⟩ := he
    cases he
    refine ⟨rfl, fun s hs => ?_⟩
    simp only [exec, val_agree (x := x) fun t ht => hs.1 t (by simp [slotsOf, ht]), val_agree (x := y) fun t ht => hs.1 t (by simp [slotsOf, ht]), hu, Option.map_some, g0]
  case un op x =>
    subst hf
    refine Plainly.local (xs := []) (fun v st1 he => ?_) (by simp [handOf]) he
    simp only [exec, Option.map_eq_some_iff] at he
    obtain ⟨u, hu, he⟩ := he
    cases he
    refine ⟨rfl, fun s hs => ?_⟩
    simp only [exec, val_agree hs.1, hu, Option.map_some, g0]
  case conv k x =>
    subst hf
    refine Plainly.local (xs := []) (fun v st1 he => ?_) (by simp [handOf]) he
    simp only [exec] at he
    split at he
    · rename_i e
      cases he
      refine ⟨rfl, fun s hs => ?_⟩
      simp only [exec, val_agree hs.1, e, g0]
    · cases he
  case faddr r off p =>
    subst hf
    refine Plainly.local (xs := []) (fun v st1 he => ?_) (by simp [handOf]) he
    have k : ∀ s, Agree st s ⟨p.slots ++ r.t, [], [], []⟩ → s.raw p = st.raw p ∧ ∀ t, r = .tm t → s.at t = st.at t := fun s hs =>
      ⟨raw_agree fun t ht => hs.1 t (by simp [ht]), fun t e => hs.1 t (by subst e; simp [Root.t])⟩
    simp only [exec] at he
    split at he
    · rename_i e
      cases he
      exact ⟨rfl, fun s hs => by simp only [exec, (k s hs).1, e, g0]⟩
    · rename_i e
      cases he
      exact ⟨rfl, fun s hs => by simp only [exec, (k s hs).1, e, g0]⟩
    · rename_i e
      split at he
      · rename_i e1
        split at he
        · rename_i e2
          cases he
          exact ⟨rfl, fun s hs => by simp only [exec, (k s hs).1, e, if_pos e1, (k s hs).2 _ e1, e2, g0]⟩
        · cases he
      · cases he
    · cases he
  case fld ag sz off x =>
    subst hf
    refine Plainly.local (xs := []) (fun v st1 he => ?_) (by simp [handOf]) he
    simp only [exec] at he
    split at he
    · rename_i e
      simp only [Option.bind_eq_some_iff, Option.map_eq_some_iff] at he
      obtain ⟨cs, hc, u, hu, he⟩ := he
      cases he
      refine ⟨rfl, fun s hs => ?_⟩
      simp only [exec, val_agree hs.1, e, hc, Option.bind_some, hu, Option.map_some, g0]
    · cases he
  case iarr n sz p i =>
    subst hf
    refine Plainly.local (xs := []) (fun v st1 he => ?_) (by simp [handOf]) he
    have k : ∀ s, Agree st s ⟨slotsOf [p, i], [], [], []⟩ → s.raw p = st.raw p ∧ s.val i = st.val i := fun s hs =>
      ⟨raw_agree fun t ht => hs.1 t (by simp [slotsOf, ht]), val_agree fun t ht => hs.1 t (by simp [slotsOf, ht])⟩
    simp only [exec] at he
    split at he
    · rename_i e1 e2
      split at he
      · rename_i e3
        cases he
        exact ⟨rfl, fun s hs => by simp only [exec, (k s hs).1, (k s hs).2, e1, e2, if_pos e3, g0]⟩
      · cases he
    · rename_i e1 e2
      split at he
      · rename_i e3
        cases he
        exact ⟨rfl, fun s hs => by simp only [exec, (k s hs).1, (k s hs).2, e1, e2, if_pos e3, g0]⟩
      · cases he
    · cases he
  case iaddr r sz x i =>
    subst hf
    refine Plainly.local (xs := []) (fun v st1 he => ?_) (by simp [handOf]) he
    have k : ∀ s, Agree st s ⟨slotsOf [x, i] ++ r.t, [], [], []⟩ → s.val x = st.val x ∧ s.val i = st.val i ∧ ∀ t, r = .tm t → s.at t = st.at t := fun s hs =>
      ⟨val_agree fun t ht => hs.1 t (by simp [slotsOf, ht]), val_agree fun t ht => hs.1 t (by simp [slotsOf, ht]), fun t e => hs.1 t (by subst e; simp [Root.t])⟩
    simp only [exec] at he
    split at he
    · rename_i e1 e2
      split at he
      · rename_i e3
        split at he
        · rename_i e4
          split at he
          · rename_i e5
            cases he
            exact ⟨rfl, fun s hs => by simp only [exec, (k s hs).1, (k s hs).2.1, e1, e2, if_pos e3, (k s hs).2.2 _ e3, e4, if_pos e5, g0]⟩
          · cases he
        · cases he
      · cases he
    · rename_i e1 e2
      split at he
      · rename_i e3
        simp only [Option.map_eq_some_iff] at he
        obtain ⟨c, hc, he⟩ := he
        cases he
        exact ⟨rfl, fun s hs => by simp only [exec, (k s hs).1, (k s hs).2.1, e1, e2, if_pos e3, hc, Option.map_some, g0]⟩
      · cases he
    · cases he
  case idxs x i =>
    subst hf
    refine Plainly.local (xs := []) (fun v st1 he => ?_) (by simp [handOf]) he
    simp only [exec] at he
    split at he
    · rename_i e1 e2
      split at he
      · rename_i e3
        cases he
        exact ⟨rfl, fun s hs => by simp only [exec, val_agree (x := x) fun t ht => hs.1 t (by simp [slotsOf, ht]), val_agree (x := i) fun t ht => hs.1 t (by simp [slotsOf, ht]), e1, e2, dif_pos e3, g0]⟩
      · cases he
    · cases he
  case idxa ag n sz x i =>
    subst hf
    refine Plainly.local (xs := []) (fun v st1 he => ?_) (by simp [handOf]) he
    simp only [exec] at he
    split at he
    · rename_i e1 e2
      split at he
      · rename_i e3
        simp only [Option.bind_eq_some_iff, Option.map_eq_some_iff] at he
        obtain ⟨cs, hc, u, hu, he⟩ := he
        cases he
        exact ⟨rfl, fun s hs => by simp only [exec, val_agree (x := x) fun t ht => hs.1 t (by simp [slotsOf, ht]), val_agree (x := i) fun t ht => hs.1 t (by simp [slotsOf, ht]), e1, e2, if_pos e3, hc, Option.bind_some, hu, Option.map_some, g0]⟩
      · cases he
    · cases he
  case look r ag ks z ok m k =>
    subst hf
    refine Plainly.local (xs := []) (fun v st1 he => ?_) (by simp [handOf]) he
    have kk : ∀ s, Agree st s ⟨slotsOf [m, k] ++ r.t, [], [], []⟩ → s.deref r (s.val m) = st.deref r (st.val m) ∧ s.val k = st.val k := fun s hs => by
      rw [val_agree (x := m) fun t ht => hs.1 t (by simp [slotsOf, ht]), deref_agree fun t ht => hs.1 t (by simp [ht])]
      exact ⟨rfl, val_agree fun t ht => hs.1 t (by simp [slotsOf, ht])⟩
    simp only [exec] at he
    split at he
    · rename_i e1
      split at he
      · rename_i e2
        simp only [Option.map_eq_some_iff] at he
        obtain ⟨u, hu, he⟩ := he
        cases he
        exact ⟨rfl, fun s hs => by simp only [exec, (kk s hs).1, (kk s hs).2, e1, if_pos e2, hu, Option.map_some, g0]⟩
      · cases he
    · cases he
  case ext i x =>
    subst hf
    refine Plainly.local (xs := []) (fun v st1 he => ?_) (by simp [handOf]) he
    simp only [exec] at he
    split at he
    · rename_i e1
      simp only [Option.map_eq_some_iff] at he
      obtain ⟨u, hu, he⟩ := he
      cases he
      exact ⟨rfl, fun s hs => by simp only [exec, raw_agree hs.1, e1, hu, Option.map_some, g0]⟩
    · cases he
  case len kd r x =>
    subst hf
    refine Plainly.local (xs := []) (fun v st1 he2 => ?_) (by simp [handOf]) he
    clear he
    have kk : ∀ s, Agree st s ⟨x.slots ++ r.t, [], [], []⟩ → s.deref r (s.val x) = st.deref r (st.val x) := fun s hs => by
      rw [val_agree (x := x) fun t ht => hs.1 t (by simp [ht]), deref_agree fun t ht => hs.1 t (by simp [ht])]
    simp only [exec] at he2
    split at he2
    all_goals
      first
        | (rename_i e1
           cases he2
           exact ⟨rfl, fun s hs => by simp only [exec, kk s hs, e1, g0]⟩)
        | cases he2
  case app sz bytes x y =>
    subst hf
    refine Plainly.local (xs := [x, y]) (fun v st1 he => ?_) (by simp) he
    simp only [exec] at he
    split at he
    · rename_i e1 e2
      split at he
      · rename_i e3
        cases he
        exact ⟨rfl, fun s hs => by simp only [exec, val_agree (x := x) fun t ht => hs.1 t (by simp [slotsOf, ht]), val_agree (x := y) fun t ht => hs.1 t (by simp [slotsOf, ht]), e1, e2, if_pos e3]⟩
      · cases he
    · cases he
  case mx big xs =>
    subst hf
    refine Plainly.local (xs := []) (fun v st1 he => ?_) (by simp [handOf]) he
    simp only [exec] at he
    split at he
    · rename_i e1
      cases he
      exact ⟨rfl, fun s hs => by simp only [exec, vals_agree hs.1, e1, g0]⟩
    · cases he
  case slc sz x lo hi mx =>
    subst hf
    refine Plainly.local (xs := [x]) (fun v st1 he2 => ?_) (by simp) he
    clear he
    have k : ∀ s, Agree st s ⟨slotsOf (x :: (lo.toList ++ hi.toList ++ mx.toList)), handOf [x], [], []⟩ → s.val x = st.val x ∧ (∀ n, s.optInt n lo = st.optInt n lo) ∧ (∀ n, s.optInt n hi = st.optInt n hi) ∧ ∀ m, mx = some m → s.ints m = st.ints m := fun s hs => by
      have h0 : ∀ y ∈ x :: (lo.toList ++ hi.toList ++ mx.toList), ∀ t ∈ y.slots, s.at t = st.at t := fun y hy t ht => hs.1 t (List.mem_flatMap.2 ⟨y, hy, ht⟩)
      refine ⟨val_agree (h0 x (by simp)), fun n => optInt_agree fun t ht => ?_, fun n => optInt_agree fun t ht => ?_, fun m hm => ?_⟩
      · obtain ⟨y, hy, hty⟩ := List.mem_flatMap.1 ht
        exact h0 y (by simp only [List.mem_cons, List.mem_append]; exact .inr (.inl (.inl hy))) t hty
      · obtain ⟨y, hy, hty⟩ := List.mem_flatMap.1 ht
        exact h0 y (by simp only [List.mem_cons, List.mem_append]; exact .inr (.inl (.inr hy))) t hty
      · simp only [St.ints, val_agree (h0 m (by simp [hm]))]
    simp only [exec] at he2
    split at he2
    · rename_i o sz' xs e1
      split at he2
      · split at he2
        · rename_i l h e2 e3
          split at he2
          · rename_i hc
            cases he2
            refine ⟨rfl, fun s hs => ?_⟩
            obtain ⟨k1, k2, k3, -⟩ := k s hs
            simp only [exec, k1, e1, k2, k3, e2, e3, if_pos hc]
          · cases he2
        · cases he2
      · rename_i m
        split at he2
        · rename_i e2 e3 e4
          split at he2
          · rename_i hc
            cases he2
            refine ⟨rfl, fun s hs => ?_⟩
            obtain ⟨k1, k2, k3, k4⟩ := k s hs
            simp only [exec, k1, e1, k2, k3, k4 m rfl, e2, e3, e4, if_pos hc]
          · cases he2
        · cases he2
    · cases he2
  case slcs x lo hi =>
    subst hf
    refine Plainly.local (xs := []) (fun v st1 he2 => ?_) (by simp [handOf]) he
    clear he
    have k : ∀ s, Agree st s ⟨slotsOf (x :: (lo.toList ++ hi.toList)), [], [], []⟩ → s.val x = st.val x ∧ (∀ n, s.optInt n lo = st.optInt n lo) ∧ ∀ n, s.optInt n hi = st.optInt n hi := fun s hs => by
      have h0 : ∀ y ∈ x :: (lo.toList ++ hi.toList), ∀ t ∈ y.slots, s.at t = st.at t := fun y hy t ht => hs.1 t (List.mem_flatMap.2 ⟨y, hy, ht⟩)
      refine ⟨val_agree (h0 x (by simp)), fun n => optInt_agree fun t ht => ?_, fun n => optInt_agree fun t ht => ?_⟩
      · obtain ⟨y, hy, hty⟩ := List.mem_flatMap.1 ht
        exact h0 y (by simp only [List.mem_cons, List.mem_append]; exact .inr (.inl hy)) t hty
      · obtain ⟨y, hy, hty⟩ := List.mem_flatMap.1 ht
        exact h0 y (by simp only [List.mem_cons, List.mem_append]; exact .inr (.inr hy)) t hty
    simp only [exec] at he2
    split at he2
    · rename_i s0 e1
      split at he2
      · rename_i l h e2 e3
        split at he2
        · rename_i hc
          cases he2
          refine ⟨rfl, fun s hs => ?_⟩
          obtain ⟨k1, k2, k3⟩ := k s hs
          simp only [exec, k1, e1, k2, k3, e2, e3, if_pos hc, g0]
        · cases he2
      · cases he2
    · cases he2
  case call f xs =>
    subst hf
    refine Plainly.local (xs := xs) (fun v st1 he => ?_) (by simp) he
    simp only [exec] at he
    split at he
    · rename_i e1
      simp only [Option.map_eq_some_iff] at he
      obtain ⟨u, hu, he⟩ := he
      cases he
      exact ⟨rfl, fun s hs => by simp only [exec, vals_agree hs.1, if_pos e1, hu, Option.map_some]⟩
    · cases he
  case store r sz p x =>
    subst hf
    have k : ∀ s, Agree st s ⟨p.slots ++ x.slots ++ r.t, x.hand ++ r.t, r.b, r.b⟩ → s.raw p = st.raw p ∧ s.val x = st.val x ∧ (∀ t, r = .tm t → s.at t = st.at t) ∧ ∀ d, r = .bx d → get s.bx d = get st.bx d := fun s hs =>
      ⟨raw_agree fun t ht => hs.1 t (by simp [ht]), val_agree fun t ht => hs.1 t (by simp [ht]), fun t e => hs.1 t (by subst e; simp [Root.t]), fun d e => hs.2 d (by subst e; simp [Root.b])⟩
    simp only [exec] at he
    split at he
    · rename_i hc
      simp only [Option.map_eq_some_iff] at he
      obtain ⟨s2, hw, he⟩ := he
      cases he
      have hgone : ∀ p ∈ goneD [x], p.1 ∈ x.hand ∧ p.2 = .undef := fun p hp => by
        obtain ⟨h1, h2⟩ := goneD_mem hp
        exact ⟨by simpa [handOf] using h1, h2⟩
      cases hp : st.raw p <;> rw [hp] at hw <;> simp only [St.write, reduceCtorEq] at hw
      · rename_i d off
        split at hw
        · rename_i hr
          split at hw
          · rename_i cs hb
            split at hw
            · rename_i hfit
              cases hw
              refine ⟨⟨goneD [x], [(d, (false, paste cs off (flat (st.val x))))]⟩, ?_, fun q hq => ?_, fun q hq => ?_, fun s hs => ?_⟩
              · simp [St.gone, D.ap, gone_puts, puts]
              · obtain ⟨h1, h2⟩ := hgone q hq
                exact ⟨by simp [h1], by rw [h2]; rfl⟩
              · simp only [List.mem_singleton] at hq
                subst hq; subst hr; simp [Root.b]
              · obtain ⟨k1, k2, k3, k4⟩ := k s hs
                simp only [exec, k1, k2, if_pos hc, hp, St.write, if_pos hr, k4 d hr, hb, if_pos hfit, Option.map_some]
                simp [St.gone, D.ap, gone_puts, puts]
            · cases hw
          · cases hw
        · cases hw
      · rename_i t i off
        split at hw
        · rename_i hr
          split at hw
          · rename_i sz' xs ht
            split at hw
            · rename_i row hrow
              split at hw
              · rename_i hfit
                cases hw
                refine ⟨⟨(t, .sl .x sz' (xs.set i (paste row off (flat (st.val x))))) :: goneD [x], []⟩, ?_, fun q hq => ?_, by simp, fun s hs => ?_⟩
                · simp [St.gone, D.ap, gone_puts, puts]
                · rcases List.mem_cons.1 hq with rfl | hq
                  · exact ⟨by subst hr; simp [Root.t], rfl⟩
                  · obtain ⟨h1, h2⟩ := hgone q hq
                    exact ⟨by simp [h1], by rw [h2]; rfl⟩
                · obtain ⟨k1, k2, k3, k4⟩ := k s hs
                  simp only [exec, k1, k2, if_pos hc, hp, St.write, if_pos hr, k3 t hr, ht, hrow, if_pos hfit, Option.map_some]
                  simp [St.gone, D.ap, gone_puts, puts]
              · cases hw
            · cases hw
          · cases hw
        · cases hw
    · cases he

end Go.Vi
