import Derived.Test.YtomimhedehecdaaDoorViRel
section
/- What is known of a function's slots and boxes while it runs. -/
namespace Go.Vi

theorem get_put {α : Type} (d t : Nat) (v : α) : ∀ l : List (Nat × α), get (put l d v) t = if t = d then some v else get l t
  | [] => by
    by_cases h : t = d
    · subst h; simp [put, get]
    · have h' : ¬ d = t := fun e => h e.symm
      simp [put, get, h, h']
  | (k, u) :: l => by
    unfold put
    by_cases h1 : k = d
    · subst h1
      by_cases h : t = k
      · subst h; simp [get]
      · have h' : ¬ k = t := fun e => h e.symm
        simp [get, h, h']
    · by_cases h2 : k < d
      · have ih := get_put d t v l
        rw [if_neg h1, if_pos h2]
        by_cases h : t = d
        · subst h; simp [get, h1, ih]
        · by_cases h3 : k = t <;> simp [get, h3, h, ih]
      · rw [if_neg h1, if_neg h2]
        by_cases h : t = d
        · subst h; simp [get]
        · have h' : ¬ d = t := fun e => h e.symm
          simp [get, h, h']

theorem get_del {α : Type} (d t : Nat) : ∀ l : List (Nat × α), get (del l d) t = if t = d then none else get l t
  | [] => by simp [del, get]
  | (k, u) :: l => by
    have ih := get_del d t l
    by_cases h1 : k = d
    · subst h1
      by_cases h : t = k
      · subst h; simp [del, ih]
      · have h' : ¬ k = t := fun e => h e.symm
        simp [del, get, ih, h, h']
    · by_cases h : t = d
      · subst h; simp [del, get, ih, h1]
      · by_cases h3 : k = t <;> simp [del, get, ih, h, h1, h3]

theorem get_mem {α : Type} {t : Nat} {v : α} : ∀ {l : List (Nat × α)}, get l t = some v → (t, v) ∈ l
  | [], h => by cases h
  | (k, u) :: l, h => by
    unfold get at h
    split at h
    · rename_i hk; subst hk; cases h; simp
    · exact List.mem_cons_of_mem _ (get_mem h)

structure G where
  S : Stab
  β : Nat → Nat
  O : Nat → List Nat
  OB : Nat → List Nat

def isX : V → Bool
  | .sl .x _ _ | .mp .x _ => true
  | _ => false

/-- Of a slot: what its value says. -/
def RelT (w : World) (g : G) (st : St) (a : Act) : V → Value → List Nat → Prop
  | .loc d off, r, o => o = [] ∧ r = .pointer (some ⟨g.β d, off, none⟩)
  | .el t i off, r, o => o = [] ∧ ∀ sz xs, st.at t = .sl .x sz xs → ∃ b q n c, a.tmps.getD t Go.undef = .slice (some ⟨b, q, none⟩) n c ∧ r = .pointer (some ⟨b, q + (i * sz + off), none⟩)
  | .rf t, r, o => o = [] ∧ (isX (st.at t) = true → r = a.tmps.getD t Go.undef)
  | v, r, o => Rel w g.S v r o

structure Ctx where
  P : Program
  nt : Nat
  B : Nat
  Mv : List Nat
  w0 : World
  S0 : Stab
  gl : List (Nat × List V)

/-- From one world to another one only what is free is new or written. -/
structure Upd (B : Nat) (Mv : List Nat) (w w' : World) : Prop where
  os : w'.os = w.os
  tape : w'.tape = w.tape
  output : w'.output = w.output
  size : w.heap.size ≤ w'.heap.size
  block : ∀ b, b < B → b ∉ Mv → w'.heap[b]? = w.heap[b]?

structure FInv (c : Ctx) (g : G) (st : St) (a : Act) (w : World) : Prop where
  size : a.tmps.size = c.nt
  defers : a.defers = []
  tm : ∀ t v, get st.tm t = some v → RelT w g st a v (a.tmps.getD t Go.undef) (g.O t)
  tmn : ∀ t, get st.tm t = none → g.O t = []
  bxf : ∀ d cs, get st.bx d = some (false, cs) → ∃ (C : Array Value) (e : TypeId) (os : List (List Nat)), w.heap[g.β d]? = some (.cells C e (0, 0)) ∧ C.size = cs.length ∧ os.length = cs.length ∧
    (∀ (j : Nat) (y : V) (v : Value) (o : List Nat), cs[j]? = some y → C[j]? = some v → os[j]? = some o → Rel w g.S y v o) ∧ g.OB d = g.β d :: os.flatten ∧ (∀ k, ¬ g.S (g.β d) k)
  bxt : ∀ d cs, get st.bx d = some (true, cs) → g.OB d = [] ∧ Rel w g.S (.ptr cs 0) (.pointer (some ⟨g.β d, 0, none⟩)) []
  bxn : ∀ d, get st.bx d = none → g.OB d = []
  dOO : ∀ t u, t ≠ u → ∀ b ∈ g.O t, b ∉ g.O u
  dBB : ∀ d e, d ≠ e → ∀ b ∈ g.OB d, b ∉ g.OB e
  dOB : ∀ t d, ∀ b ∈ g.O t, b ∉ g.OB d
  nO : ∀ t, (g.O t).Nodup
  nB : ∀ d, (g.OB d).Nodup
  fO : ∀ t, ∀ b ∈ g.O t, (c.B ≤ b ∨ b ∈ c.Mv) ∧ b < w.heap.size
  fB : ∀ d, ∀ b ∈ g.OB d, (c.B ≤ b ∨ b ∈ c.Mv) ∧ b < w.heap.size
  hB : c.B ≤ w.heap.size
  upd : Upd c.B c.Mv c.w0 w
  keep : Keep c.S0 c.w0 w
  sub : ∀ b k, c.S0 b k → g.S b k
  new : ∀ b k, g.S b k → c.S0 b k ∨ c.B ≤ b ∨ b ∈ c.Mv
  lt : ∀ b k, g.S b k → b < w.heap.size
  gl : ∀ x cs, (x, cs) ∈ c.gl → Rel c.w0 c.S0 (.ptr cs 0) (.pointer (some ⟨x, 0, none⟩)) []

theorem RelT.of_rel {w : World} {g : G} {st : St} {a : Act} {v : V} {r : Value} {o : List Nat} (h : Rel w g.S v r o) : RelT w g st a v r o := by
  cases h <;> first | exact .undef _ | exact .skp | skip
  all_goals (unfold RelT; constructor <;> assumption)

end Go.Vi
end
section
/- How what is known of slots goes on: the world turns, a slot is written, what a slot holds is handed on. -/
namespace Go.Vi

theorem Keep.refl (S : Stab) (w : World) : Keep S w w := fun _ _ _ => ⟨rfl, fun _ _ h => h⟩
theorem Keep.trans {S : Stab} {w w' w'' : World} (h : Keep S w w') (h' : Keep S w' w'') : Keep S w w'' :=
  fun b k hs => ⟨((h' b k hs).1).trans (h b k hs).1, fun es c he => (h' b k hs).2 es c ((h b k hs).2 es c he)⟩
theorem Keep.less {S S' : Stab} {w w' : World} (h : Keep S w w') (hs : ∀ b k, S' b k → S b k) : Keep S' w w' := fun b k hk => h b k (hs b k hk)
theorem Keep.of_heap {S : Stab} {w w' : World} (h : ∀ b k, S b k → w'.heap[b]? = w.heap[b]?) : Keep S w w' :=
  fun b k hs => ⟨cell_of_heap (h b k hs) k, fun _ _ he => (h b k hs).trans he⟩

theorem Upd.refl (B : Nat) (Mv : List Nat) (w : World) : Upd B Mv w w := ⟨rfl, rfl, rfl, Nat.le_refl _, fun _ _ _ => rfl⟩
theorem Upd.trans {B : Nat} {Mv : List Nat} {w w' w'' : World} (h : Upd B Mv w w') (h' : Upd B Mv w' w'') : Upd B Mv w w'' :=
  ⟨h'.os.trans h.os, h'.tape.trans h.tape, h'.output.trans h.output, Nat.le_trans h.size h'.size, fun b h1 h2 => (h'.block b h1 h2).trans (h.block b h1 h2)⟩

def Xsame (u v : V) : Prop := (∃ sz xs ys, u = .sl .x sz xs ∧ v = .sl .x sz ys) ∨ ∃ es es', u = .mp .x es ∧ v = .mp .x es'

theorem isX_cases {v : V} (h : isX v = true) : (∃ sz xs, v = .sl .x sz xs) ∨ ∃ es, v = .mp .x es := by
  cases v with
  | sl o sz xs => cases o <;> simp_all [isX]
  | mp o es => cases o <;> simp_all [isX]
  | _ => cases h
theorem Xsame.self {v : V} (h : isX v = true) : Xsame v v := by
  rcases isX_cases h with ⟨sz, xs, rfl⟩ | ⟨es, rfl⟩
  · exact .inl ⟨sz, xs, xs, rfl, rfl⟩
  · exact .inr ⟨es, es, rfl, rfl⟩
theorem Xsame.isX {u v : V} (h : Xsame u v) : Vi.isX u = true := by
  rcases h with ⟨sz, xs, ys, rfl, rfl⟩ | ⟨es, es', rfl, rfl⟩ <;> rfl
theorem Xsame.sl {u : V} {sz : Nat} {xs : List (List V)} (h : Xsame u (.sl .x sz xs)) : ∃ ys, u = .sl .x sz ys := by
  rcases h with ⟨sz', xs', ys, rfl, h⟩ | ⟨es, es', rfl, h⟩
  · simp only [V.sl.injEq, true_and] at h
    obtain ⟨rfl, _⟩ := h
    exact ⟨xs', rfl⟩
  · cases h

/-- Does a value name a slot's slice or map? -/
def names (s : Nat) : V → Bool
  | .el t _ _ => t == s
  | .rf t => t == s
  | _ => false

theorem RelT.frame {w w' : World} {g g' : G} {st st' : St} {a a' : Act} {v : V} {r : Value} {o : List Nat} (h : RelT w g st a v r o)
    (hβ : ∀ d off, v = .loc d off → g'.β d = g.β d)
    (hX : ∀ s, names s v = true → isX (st'.at s) = true → Xsame (st.at s) (st'.at s) ∧ a'.tmps.getD s Go.undef = a.tmps.getD s Go.undef)
    (hr : Rel w g.S v r o → Rel w' g'.S v r o) : RelT w' g' st' a' v r o := by
  cases v
  case loc d off => exact ⟨h.1, by rw [hβ d off rfl]; exact h.2⟩
  case el t i off =>
    refine ⟨h.1, fun sz xs hat => ?_⟩
    have hx := hX t (by simp [names]) (by rw [hat]; rfl)
    rw [hat] at hx
    obtain ⟨ys, hy⟩ := hx.1.sl
    rw [hx.2]
    exact h.2 _ _ hy
  case rf t =>
    refine ⟨h.1, fun hat => ?_⟩
    have hx := hX t (by simp [names]) hat
    rw [hx.2]
    exact h.2 hx.1.isX
  all_goals exact hr h

theorem noref_names {d : Nat} : ∀ {l : List (Nat × V)}, noref d l = true → ∀ t v, (t, v) ∈ l → names d v = false
  | [], _, _, _, hm => by cases hm
  | (t', v') :: l, h, t, v, hm => by
    have hl : noref d l = true ∧ names d v' = false := by
      cases v' <;> simp_all [noref, names]
    rcases List.mem_cons.1 hm with he | he
    · cases he; exact hl.2
    · exact noref_names hl.1 t v he

variable {c : Ctx} {g : G} {st : St} {a : Act} {w : World}

/-- The world turns where nothing is owned; more cells stay. -/
theorem FInv.world (h : FInv c g st a w) (w' : World) (S' : Stab) (hk : Keep g.S w w') (hS : ∀ b k, g.S b k → S' b k)
    (hO : ∀ t, ∀ b ∈ g.O t, w'.heap[b]? = w.heap[b]? ∧ ∀ k, S' b k → g.S b k) (hB : ∀ d, ∀ b ∈ g.OB d, w'.heap[b]? = w.heap[b]? ∧ ∀ k, S' b k → g.S b k)
    (hu : Upd c.B c.Mv w w') (hn : ∀ b k, S' b k → g.S b k ∨ c.B ≤ b ∨ b ∈ c.Mv) (hl : ∀ b k, S' b k → b < w'.heap.size) : FInv c { g with S := S' } st a w' where
  size := h.size
  defers := h.defers
  tm t v hv := (h.tm t v hv).frame (fun _ _ _ => rfl) (fun s _ hx => ⟨.self hx, rfl⟩)
    fun hr => hr.keep hk hS (fun b hb => (hO t b hb).1) (fun b hb => (hO t b hb).2)
  tmn := h.tmn
  bxf d cs hd := by
    obtain ⟨C, e, os, h1, h2, h3, h4, h5, h6⟩ := h.bxf d cs hd
    have hm : g.β d ∈ g.OB d := by rw [h5]; simp
    refine ⟨C, e, os, ((hB d _ hm).1).trans h1, h2, h3, fun j y v o hy hv ho => (h4 j y v o hy hv ho).keep hk hS ?_ ?_, h5, fun k hs => h6 k ((hB d _ hm).2 k hs)⟩
    all_goals
      intro b hb
      have : b ∈ g.OB d := by rw [h5]; exact List.mem_cons_of_mem _ (List.mem_flatten.2 ⟨o, List.mem_of_getElem? ho, hb⟩)
      first | exact (hB d b this).1 | exact (hB d b this).2
  bxt d cs hd := ⟨(h.bxt d cs hd).1, (h.bxt d cs hd).2.keep0 hk hS⟩
  bxn := h.bxn
  dOO := h.dOO
  dBB := h.dBB
  dOB := h.dOB
  nO := h.nO
  nB := h.nB
  fO t b hb := ⟨(h.fO t b hb).1, Nat.lt_of_lt_of_le (h.fO t b hb).2 hu.size⟩
  fB d b hb := ⟨(h.fB d b hb).1, Nat.lt_of_lt_of_le (h.fB d b hb).2 hu.size⟩
  hB := Nat.le_trans h.hB hu.size
  upd := h.upd.trans hu
  keep := h.keep.trans (hk.less h.sub)
  sub b k hs := hS b k (h.sub b k hs)
  new b k hs := by
    rcases hn b k hs with h1 | h1
    · exact h.new b k h1
    · exact .inr h1
  lt := hl
  gl := h.gl

/-- A slot is written. -/
theorem FInv.slot' (h : FInv c g st a w) (d : Nat) (tm' : List (Nat × V)) (r : Value) (ov : List Nat) (hgd : (a.put (some d) r).tmps.getD d Go.undef = r)
    (hother : ∀ t, t ≠ d → get tm' t = get st.tm t)
    (hnew : ∀ v, get tm' d = some v → RelT w { g with O := fun t => if t = d then ov else g.O t } { st with tm := tm' } (a.put (some d) r) v r ov)
    (hnone : get tm' d = none → ov = [])
    (hX : ∀ t v, t ≠ d → get st.tm t = some v → names d v = true → isX ((get tm' d).getD .undef) = true → Xsame (st.at d) ((get tm' d).getD .undef) ∧ r = a.tmps.getD d Go.undef)
    (hnd : ov.Nodup) (hfr : ∀ b ∈ ov, (c.B ≤ b ∨ b ∈ c.Mv) ∧ b < w.heap.size) (hO : ∀ b ∈ ov, ∀ t, t ≠ d → b ∉ g.O t) (hOB : ∀ b ∈ ov, ∀ d', b ∉ g.OB d') :
    FInv c { g with O := fun t => if t = d then ov else g.O t } { st with tm := tm' } (a.put (some d) r) w := by
  have hgo : ∀ t, t ≠ d → (a.put (some d) r).tmps.getD t Go.undef = a.tmps.getD t Go.undef := by
    intro t ht
    simp only [Act.put, Array.getD_eq_getD_getElem?]
    rw [Array.getElem?_setIfInBounds_ne (fun e => ht e.symm)]
  refine { size := ?_, defers := ?_, tm := ?_, tmn := ?_, bxf := h.bxf, bxt := h.bxt, bxn := h.bxn, dOO := ?_, dBB := h.dBB, dOB := ?_, nO := ?_, nB := h.nB, fO := ?_, fB := h.fB, hB := h.hB, upd := h.upd, keep := h.keep, sub := h.sub, new := h.new, lt := h.lt, gl := h.gl }
  · simp [Act.put, h.size]
  · exact h.defers
  · intro t v hv
    by_cases ht : t = d
    · subst ht
      simp only [hgd, if_true]
      exact hnew v hv
    · rw [hgo t ht]
      simp only [if_neg ht]
      rw [hother t ht] at hv
      refine (h.tm t v hv).frame (fun _ _ _ => rfl) (fun s hs hx => ?_) (fun hr => hr)
      by_cases hsd : s = d
      · subst hsd
        rw [hgd]
        exact hX t v ht hv hs hx
      · rw [hgo s hsd]
        refine ⟨?_, rfl⟩
        have he : ({ st with tm := tm' } : St).at s = st.at s := by simp [St.at, hother s hsd]
        rw [he] at hx ⊢
        exact .self hx
  · intro t ht
    by_cases htd : t = d
    · subst htd; simp [hnone ht]
    · simp only [if_neg htd]
      rw [hother t htd] at ht
      exact h.tmn t ht
  · intro t u htu b hb
    simp only at hb ⊢
    by_cases h1 : t = d
    · rw [if_pos h1] at hb
      have h2 : u ≠ d := fun e => htu (h1.trans e.symm)
      rw [if_neg h2]
      exact hO b hb u h2
    · rw [if_neg h1] at hb
      by_cases h2 : u = d
      · rw [if_pos h2]
        exact fun hb' => hO b hb' t h1 hb
      · rw [if_neg h2]
        exact h.dOO t u htu b hb
  · intro t d' b hb
    simp only at hb
    by_cases h1 : t = d
    · rw [if_pos h1] at hb; exact hOB b hb d'
    · rw [if_neg h1] at hb; exact h.dOB t d' b hb
  · intro t
    simp only
    by_cases h1 : t = d
    · rw [if_pos h1]; exact hnd
    · rw [if_neg h1]; exact h.nO t
  · intro t b hb
    simp only at hb
    by_cases h1 : t = d
    · rw [if_pos h1] at hb; exact hfr b hb
    · rw [if_neg h1] at hb; exact h.fO t b hb

end Go.Vi
end
section
/- What a slot holds is handed on; operands. -/
namespace Go.Vi
variable {c : Ctx} {g : G} {st : St} {a : Act} {w : World}

theorem put_self (a : Act) (d : Nat) : a.put (some d) (a.tmps.getD d Go.undef) = a := by
  unfold Act.put
  simp only
  congr 1
  by_cases h : d < a.tmps.size
  · apply Array.ext_getElem?
    intro i
    by_cases e : i = d
    · subst e; simp [Array.getD, h]
    · rw [Array.getElem?_setIfInBounds_ne (fun x => e x.symm)]
  · simp [Array.setIfInBounds, h]

theorem FInv.slot (h : FInv c g st a w) (d : Nat) (hd : d < c.nt) (v : V) (r : Value) (ov : List Nat)
    (hnew : RelT w { g with O := fun t => if t = d then ov else g.O t } { st with tm := put st.tm d v } (a.put (some d) r) v r ov)
    (hX : isX v = true → noref d st.tm = true)
    (hnd : ov.Nodup) (hfr : ∀ b ∈ ov, (c.B ≤ b ∨ b ∈ c.Mv) ∧ b < w.heap.size) (hO : ∀ b ∈ ov, ∀ t, t ≠ d → b ∉ g.O t) (hOB : ∀ b ∈ ov, ∀ d', b ∉ g.OB d') :
    FInv c { g with O := fun t => if t = d then ov else g.O t } { st with tm := put st.tm d v } (a.put (some d) r) w := by
  have hsz : d < a.tmps.size := by rw [h.size]; exact hd
  refine h.slot' d _ r ov (by simp [Act.put, Array.getD, hsz]) (fun t ht => by rw [get_put, if_neg ht]) (fun u hu => ?_) (fun hu => ?_) (fun t u ht hu hn hx => ?_) hnd hfr hO hOB
  · rw [get_put, if_pos rfl] at hu; cases hu; exact hnew
  · rw [get_put, if_pos rfl] at hu; cases hu
  · rw [get_put, if_pos rfl] at hx
    have := noref_names (hX hx) t u (get_mem hu)
    rw [this] at hn; cases hn

/-- Of a slot less is told, or it is held otherwise: the frame stays. -/
theorem FInv.relabel (h : FInv c g st a w) (d : Nat) (tm' : List (Nat × V)) (ov : List Nat)
    (hother : ∀ t, t ≠ d → get tm' t = get st.tm t)
    (hnew : ∀ v, get tm' d = some v → RelT w { g with O := fun t => if t = d then ov else g.O t } { st with tm := tm' } a v (a.tmps.getD d Go.undef) ov)
    (hnone : get tm' d = none → ov = [])
    (hX : isX ((get tm' d).getD .undef) = true → Xsame (st.at d) ((get tm' d).getD .undef))
    (hsub : ∀ b ∈ ov, b ∈ g.O d) (hnd : ov.Nodup) : FInv c { g with O := fun t => if t = d then ov else g.O t } { st with tm := tm' } a w := by
  have hp := put_self a d
  have := h.slot' d tm' (a.tmps.getD d Go.undef) ov (by rw [hp]) hother (by rw [hp]; exact hnew) hnone (fun _ _ _ _ _ hx => ⟨hX hx, rfl⟩) hnd
    (fun b hb => h.fO d b (hsub b hb)) (fun b hb t ht => h.dOO d t (fun e => ht e.symm) b (hsub b hb)) (fun b hb d' => h.dOB d d' b (hsub b hb))
  rwa [hp] at this

/-- A slot is emptied. -/
theorem FInv.empty (h : FInv c g st a w) (d : Nat) : FInv c { g with O := fun t => if t = d then [] else g.O t } { st with tm := put st.tm d .undef } a w :=
  h.relabel d _ [] (fun t ht => by rw [get_put, if_neg ht]) (fun v hv => by rw [get_put, if_pos rfl] at hv; cases hv; exact .undef _) (fun _ => rfl)
    (fun hx => by rw [get_put, if_pos rfl] at hx; cases hx) (by simp) (by simp)

theorem FInv.del (h : FInv c g st a w) (d : Nat) : FInv c { g with O := fun t => if t = d then [] else g.O t } { st with tm := del st.tm d } a w :=
  h.relabel d _ [] (fun t ht => by rw [get_del, if_neg ht]) (fun v hv => by rw [get_del, if_pos rfl] at hv; cases hv) (fun _ => rfl)
    (fun hx => by rw [get_del, if_pos rfl] at hx; cases hx) (by simp) (by simp)

theorem RelT.rel {v : V} {r : Value} {o : List Nat} (h : RelT w g st a v r o) (hv : (∀ d f, v ≠ .loc d f) ∧ (∀ t i f, v ≠ .el t i f) ∧ ∀ t, v ≠ .rf t) : Rel w g.S v r o := by
  cases v <;> first | exact h | skip
  · exact absurd rfl (hv.1 _ _)
  · exact absurd rfl (hv.2.1 _ _ _)
  · exact absurd rfl (hv.2.2 _)

/-- What a slot holds, of whatever form. -/
theorem FInv.at (h : FInv c g st a w) (t : Nat) : RelT w g st a (st.at t) (a.tmps.getD t Go.undef) (g.O t) := by
  unfold St.at
  cases hg : get st.tm t with
  | none => simp only [Option.getD_none, h.tmn t hg]; exact .undef _
  | some v => exact h.tm t v hg

/-- A copy of a slot. -/
theorem FInv.copy (h : FInv c g st a w) (t : Nat) : RelT w g st a (st.val (.t t)) (a.tmps.getD t Go.undef) [] := by
  have hv := h.at t
  simp only [St.val]
  by_cases hx : isX (st.at t) = true
  · have : cpa t (st.at t) = .rf t := by
      rcases isX_cases hx with ⟨sz, xs, e⟩ | ⟨es, e⟩ <;> rw [e] <;> rfl
    rw [this]
    exact ⟨rfl, fun _ => rfl⟩
  · have hc : cpa t (st.at t) = cp (st.at t) := by
      generalize st.at t = v at hx
      cases v with
      | sl o _ _ => cases o <;> first | rfl | exact absurd rfl hx
      | mp o _ => cases o <;> first | rfl | exact absurd rfl hx
      | _ => rfl
    rw [hc]
    generalize st.at t = v at hv
    cases v
    case loc d f => exact ⟨rfl, hv.2⟩
    case el s i f => exact ⟨rfl, hv.2⟩
    case rf s => exact ⟨rfl, hv.2⟩
    all_goals exact RelT.of_rel (Rel.copy hv)

/-- How much stays when a slot's slice or map is held otherwise. -/
theorem Rel.low {S : Stab} {x : V} {v : Value} {o : List Nat} (h : Rel w S x v o) (own : Own) :
    ∃ S' o', (∀ b k, S b k → S' b k) ∧ (∀ b k, S' b k → S b k ∨ (b ∈ o ∧ b < w.heap.size)) ∧ (∀ b ∈ o', b ∈ o) ∧ (o.Nodup → o'.Nodup) ∧ Rel w S' (Vi.low own x) v o' := by
  have triv : Vi.low own x = x → ∃ S' o', (∀ b k, S b k → S' b k) ∧ (∀ b k, S' b k → S b k ∨ (b ∈ o ∧ b < w.heap.size)) ∧ (∀ b ∈ o', b ∈ o) ∧ (o.Nodup → o'.Nodup) ∧ Rel w S' (Vi.low own x) v o' :=
    fun e => ⟨S, o, fun _ _ h => h, fun _ _ h => .inl h, fun _ h => h, id, by rw [e]; exact h⟩
  have hself := h
  cases h with
  | sl0 ow sz r =>
    refine ⟨S, [], fun _ _ h => h, fun _ _ h => .inl h, by simp, by simp, ?_⟩
    cases own <;> cases ow <;> exact .sl0 _ _ _
  | slo ow sz xs b off n cc f C e ho hn hx hb hsz hc hm hf hSS hN hr =>
    have hlt : b < w.heap.size := (Array.getElem?_eq_some_iff.1 hb).1
    have keepS : ∀ S' : Stab, (∀ b k, S b k → S' b k) → ∀ (i : Nat) (x : List V) (j : Nat) (y : V), xs[i]? = some x → x[j]? = some y → Rel w S' y (f i j) [] :=
      fun S' h1 i x j y h2 h3 => (hr i x j y h2 h3).keep0 (Keep.refl _ _) h1
    have hcell : ∀ i j, i < xs.length → j < sz → w.cell? ⟨b, off + (i * sz + j), none⟩ = some (f i j) := fun i j hi hj => by simp [World.cell?, hb, hf i j hi hj]
    cases own with
    | x => exact triv (by cases ow <;> rfl)
    | s =>
      refine ⟨fun b' k => S b' k ∨ (b' = b ∧ ∃ i j, i < xs.length ∧ j < sz ∧ k = off + (i * sz + j)), [], fun _ _ h => .inl h, ?_, by simp, by simp, ?_⟩
      · rintro b' k (h1 | ⟨rfl, _⟩)
        · exact .inl h1
        · exact .inr ⟨by simp, hlt⟩
      · have e : Vi.low .s (.sl ow sz xs) = .sl .s sz xs := by cases ow <;> rfl
        rw [e]
        exact .sls sz xs _ n cc f hn hc hx (fun _ => ⟨b, off, rfl, fun i j hi hj => ⟨.inr ⟨rfl, i, j, hi, hj, rfl⟩, hcell i j hi hj⟩⟩) (keepS _ fun _ _ h => .inl h)
    | a =>
      cases ow with
      | s => exact absurd rfl ho
      | a => exact triv rfl
      | x =>
        refine ⟨fun b' k => S b' k ∨ (b' = b ∧ ∃ i j, i < xs.length ∧ j < sz ∧ k = off + (i * sz + j)), [b], fun _ _ h => .inl h, ?_, fun _ h => h, fun h => h, ?_⟩
        · rintro b' k (h1 | ⟨rfl, _⟩)
          · exact .inl h1
          · exact .inr ⟨by simp, hlt⟩
        · refine .slo .a sz xs b off n cc f C e (by simp) hn hx hb hsz hc hm hf (fun _ i j hi hj => .inr ⟨rfl, i, j, hi, hj, rfl⟩) ?_ (keepS _ fun _ _ h => .inl h)
          rintro k (h | h)
          · cases h
          · rintro (h1 | ⟨_, i, j, hi, hj, rfl⟩)
            · exact hN k (.inl rfl) h1
            · have h3 : i * sz + j < xs.length * sz := by
                have : (i + 1) * sz ≤ xs.length * sz := Nat.mul_le_mul_right _ hi
                rw [Nat.add_mul] at this; omega
              omega
  | mpx es es0 hp r ents clock hb hl hbn hN hk hv =>
    have hlt : r < w.heap.size := (Array.getElem?_eq_some_iff.1 hb).1
    cases own with
    | x => exact triv rfl
    | a => exact triv rfl
    | s =>
      refine ⟨fun b' k => S b' k ∨ (b' = r ∧ k = 0), [], fun _ _ h => .inl h, ?_, by simp, by simp, ?_⟩
      · rintro b' k (h1 | ⟨rfl, _⟩)
        · exact .inl h1
        · exact .inr ⟨by simp, hlt⟩
      · exact .mps es es0 hp r ents clock hb hl hbn (.inr ⟨rfl, rfl⟩) (fun i kv e h1 h2 => (hk i kv e h1 h2).keep0 (Keep.refl _ _) fun _ _ h => .inl h)
          fun i kv e h1 h2 => (hv i kv e h1 h2).keep0 (Keep.refl _ _) fun _ _ h => .inl h
  | sls sz xs r n cc f hn hnc hx ha hr => exact triv (by cases own <;> rfl)
  | mps es es0 hp r ents clock hb hl hbn hS hk hv => exact triv (by cases own <;> rfl)
  | undef _ => exact triv (by cases own <;> rfl)
  | skp => exact triv (by cases own <;> rfl)
  | bool _ => exact triv (by cases own <;> rfl)
  | int _ _ => exact triv (by cases own <;> rfl)
  | str _ => exact triv (by cases own <;> rfl)
  | nili => exact triv (by cases own <;> rfl)
  | nilp => exact triv (by cases own <;> rfl)
  | nilf => exact triv (by cases own <;> rfl)
  | raw _ => exact triv (by cases own <;> rfl)
  | it => exact triv (by cases own <;> rfl)
  | abool => exact triv (by cases own <;> rfl)
  | agg _ _ _ _ => exact triv (by cases own <;> rfl)
  | tup _ _ _ _ _ _ => exact triv (by cases own <;> rfl)
  | ptr _ _ _ _ _ _ _ => exact triv (by cases own <;> rfl)
  | fn _ _ _ _ _ _ _ _ _ => exact triv (by cases own <;> rfl)

end Go.Vi
end
section
/- Values that have been taken out of the slots, while an operation runs. -/
namespace Go.Vi

abbrev Hv := V × Value × List Nat

structure Held (c : Ctx) (g : G) (st : St) (a : Act) (w : World) (hs : List Hv) : Prop where
  inv : FInv c g st a w
  rel : ∀ e ∈ hs, RelT w g st a e.1 e.2.1 e.2.2
  nd : (hs.flatMap (·.2.2)).Nodup
  fr : ∀ b ∈ hs.flatMap (·.2.2), ((c.B ≤ b ∨ b ∈ c.Mv) ∧ b < w.heap.size) ∧ (∀ t, b ∉ g.O t) ∧ ∀ d, b ∉ g.OB d

variable {c : Ctx} {g : G} {st : St} {a : Act} {w : World} {hs : List Hv}

theorem Held.nil (h : FInv c g st a w) : Held c g st a w [] := ⟨h, by simp, by simp, by simp⟩

/-- Something that owns nothing. -/
theorem Held.push0 (h : Held c g st a w hs) {v : V} {r : Value} (hr : RelT w g st a v r []) : Held c g st a w (hs ++ [(v, r, [])]) :=
  ⟨h.inv, fun e he => by
    rcases List.mem_append.1 he with h1 | h1
    · exact h.rel e h1
    · simp at h1; subst h1; exact hr, by simpa using h.nd, by simpa using h.fr⟩

/-- What a slot holds is handed on. -/
theorem Held.take (h : Held c g st a w hs) (n : Nat) (own : Own) :
    ∃ g' o', Held c g' { st with tm := put st.tm n .undef } a w (hs ++ [(low own (st.at n), a.tmps.getD n Go.undef, o')]) ∧ (∀ b k, g.S b k → g'.S b k) ∧ g'.β = g.β ∧ g'.OB = g.OB := by
  have hat := h.inv.at n
  have hemp := h.inv.empty n
  by_cases hv : (∀ d f, st.at n ≠ .loc d f) ∧ (∀ t i f, st.at n ≠ .el t i f) ∧ ∀ t, st.at n ≠ .rf t
  · obtain ⟨S', o', h1, h2, h3, h4, h5⟩ := (hat.rel hv).low own
    have hm : ∀ b k, S' b k → g.S b k ∨ (b ∈ g.O n ∧ b < w.heap.size) := h2
    have hW := hemp.world w S' (Keep.refl _ _) h1
      (fun t b hb => ⟨rfl, fun k hs => by
        rcases hm b k hs with h6 | h6
        · exact h6
        · simp only at hb
          by_cases ht : t = n
          · rw [if_pos ht] at hb; cases hb
          · rw [if_neg ht] at hb; exact absurd hb (h.inv.dOO n t (fun e => ht e.symm) b h6.1)⟩)
      (fun d b hb => ⟨rfl, fun k hs => by
        rcases hm b k hs with h6 | h6
        · exact h6
        · exact absurd hb (h.inv.dOB n d b h6.1)⟩)
      (Upd.refl _ _ _)
      (fun b k hs => by
        rcases hm b k hs with h6 | h6
        · exact .inl h6
        · exact .inr (h.inv.fO n b h6.1).1)
      (fun b k hs => by
        rcases hm b k hs with h6 | h6
        · exact h.inv.lt b k h6
        · exact h6.2)
    refine ⟨_, o', ⟨hW, ?_, ?_, ?_⟩, h1, rfl, rfl⟩
    · intro e he
      rcases List.mem_append.1 he with h6 | h6
      · refine (h.rel e h6).frame (fun _ _ _ => rfl) (fun s hs hx => ?_) fun hr => hr.keep (Keep.refl _ _) h1 (fun _ _ => rfl) ?_
        · have hsn : s ≠ n := by
            rintro rfl
            simp [St.at, get_put, isX] at hx
          have he : ({ st with tm := put st.tm n .undef } : St).at s = st.at s := by simp [St.at, get_put, hsn]
          rw [he] at hx ⊢
          exact ⟨.self hx, rfl⟩
        · intro b hb k hs
          rcases hm b k hs with h7 | h7
          · exact h7
          · exact absurd h7.1 ((h.fr b (List.mem_flatMap.2 ⟨e, h6, hb⟩)).2.1 n)
      · simp only [List.mem_singleton] at h6
        subst h6
        exact RelT.of_rel h5
    · simp only [List.flatMap_append, List.flatMap_cons, List.flatMap_nil, List.append_nil]
      refine List.nodup_append.2 ⟨h.nd, h4 (h.inv.nO n), ?_⟩
      intro b hb b' hb' e
      subst e
      exact (h.fr b hb).2.1 n (h3 b hb')
    · intro b hb
      simp only [List.flatMap_append, List.flatMap_cons, List.flatMap_nil, List.append_nil] at hb
      rcases List.mem_append.1 hb with h6 | h6
      · refine ⟨(h.fr b h6).1, fun t => ?_, (h.fr b h6).2.2⟩
        simp only
        by_cases ht : t = n
        · rw [if_pos ht]; simp
        · rw [if_neg ht]; exact (h.fr b h6).2.1 t
      · refine ⟨h.inv.fO n b (h3 b h6), fun t => ?_, fun d => h.inv.dOB n d b (h3 b h6)⟩
        simp only
        by_cases ht : t = n
        · rw [if_pos ht]; simp
        · rw [if_neg ht]; exact h.inv.dOO n t (fun e => ht e.symm) b (h3 b h6)
  · -- a pointer into a box or a slice, a name
    have hlow : low own (st.at n) = st.at n := by
      generalize st.at n = v at hv
      cases v <;> first | (cases own <;> rfl) | (exfalso; apply hv; simp)
    have ho : g.O n = [] := by
      generalize st.at n = v at hv hat
      cases v <;> first | exact hat.1 | (exfalso; apply hv; simp)
    refine ⟨_, [], ⟨hemp, ?_, by simpa using h.nd, ?_⟩, fun _ _ h => h, rfl, rfl⟩
    · intro e he
      have fr : ∀ (v : V) (r : Value) (o : List Nat), RelT w g st a v r o → RelT w { g with O := fun t => if t = n then [] else g.O t } { st with tm := put st.tm n .undef } a v r o := by
        intro v r o hr
        refine hr.frame (fun _ _ _ => rfl) (fun s hs hx => ?_) fun hr => hr
        have hsn : s ≠ n := by
          rintro rfl
          simp [St.at, get_put, isX] at hx
        have he : ({ st with tm := put st.tm n .undef } : St).at s = st.at s := by simp [St.at, get_put, hsn]
        rw [he] at hx ⊢
        exact ⟨.self hx, rfl⟩
      rcases List.mem_append.1 he with h6 | h6
      · exact fr _ _ _ (h.rel e h6)
      · simp only [List.mem_singleton] at h6
        subst h6
        rw [hlow]
        rw [ho] at hat
        exact fr _ _ _ hat
    · intro b hb
      have hb' : b ∈ hs.flatMap (·.2.2) := by simpa using hb
      refine ⟨(h.fr b hb').1, fun t => ?_, (h.fr b hb').2.2⟩
      simp only
      by_cases ht : t = n
      · rw [if_pos ht]; simp
      · rw [if_neg ht]; exact (h.fr b hb').2.1 t

/-! ### operands -/
def peq : List V → List V → Bool
  | [], [] => true
  | .int k n :: l, .int k' n' :: r => k == k' && n == n' && peq l r
  | .bool b :: l, .bool b' :: r => b == b' && peq l r
  | _, _ => false

theorem peq_eq : ∀ {l r : List V}, peq l r = true → l = r
  | [], [], _ => rfl
  | [], _ :: _, h => by cases h
  | x :: l, [], h => by cases x <;> cases h
  | x :: l, y :: r, h => by
    cases x <;> cases y <;> simp only [peq, Bool.and_eq_true, beq_iff_eq, Bool.false_eq_true] at h
    · obtain ⟨rfl, h⟩ := h; rw [peq_eq h]
    · obtain ⟨⟨rfl, rfl⟩, h⟩ := h; rw [peq_eq h]

def constOK (gl : List (Nat × List V)) : V → Operand → Bool
  | .int k n, .const (.int k' n') => k == k' && n == n'
  | .bool b, .const (.bool b') => b == b'
  | .str s, .const (.string s') => decide (s = s')
  | .nili, .const .nilIface => true
  | .nilp, .const (.pointer none) => true
  | .nilf, .const .nilFunc => true
  | .sl _ _ [], .const (.slice _ 0 0) => true
  | .fn (.func f) [] [], .func f' => f == f'
  | .ptr cs 0, .global x => gl.any fun y => y.1 == x && peq cs y.2
  | .undef, _ => true
  | _, _ => false

theorem const_rel (h : FInv c g st a w) {v : V} {X : Operand} (hc : constOK c.gl v X = true) : Rel w g.S v (a.eval X) [] := by
  unfold constOK at hc
  split at hc
  · simp only [Bool.and_eq_true, beq_iff_eq] at hc; obtain ⟨rfl, rfl⟩ := hc; exact .int _ _
  · simp only [beq_iff_eq] at hc; subst hc; exact .bool _
  · simp only [decide_eq_true_eq] at hc; subst hc; exact .str _
  · exact .nili
  · exact .nilp
  · exact .nilf
  · exact .sl0 _ _ _
  · simp only [beq_iff_eq] at hc; subst hc; exact .fn _ [] [] #[] #[] rfl rfl (by simp) (by simp)
  · rename_i cs x
    simp only [List.any_eq_true, Bool.and_eq_true, beq_iff_eq] at hc
    obtain ⟨y, hy, rfl, hp⟩ := hc
    have e := peq_eq hp
    subst e
    exact (h.gl _ _ hy).keep0 h.keep h.sub
  · exact .undef _
  · cases hc

def opndOK (gl : List (Nat × List V)) : A → Operand → Bool
  | .t n, .tmp m => n == m
  | .m _ n, .tmp m => n == m
  | .c v, X => constOK gl v X
  | _, _ => false

def opndsOK (gl : List (Nat × List V)) : List A → List Operand → Bool
  | [], [] => true
  | x :: xs, X :: Xs => opndOK gl x X && opndsOK gl xs Xs
  | _, _ => false

/-- Does an operand read this slot? -/
def A.reads (n : Nat) : A → Bool
  | .t k | .m _ k => k == n
  | .c _ => false

/-- What is handed on is read once. -/
def once : List A → Bool
  | [] => true
  | .m _ n :: xs => xs.all (fun x => !x.reads n) && once xs
  | .t n :: xs => xs.all (fun | .m _ k => k != n | _ => true) && once xs
  | _ :: xs => once xs

theorem val_put (st : St) (n : Nat) (u : V) (x : A) (h : x.reads n = false) : ({ st with tm := put st.tm n u } : St).val x = st.val x := by
  cases x <;> simp_all [St.val, St.at, get_put, A.reads]

theorem Held.opnds : ∀ (xs : List A) (Xs : List Operand) (st : St) (g : G) (hs : List Hv), Held c g st a w hs → opndsOK c.gl xs Xs = true → once xs = true →
    ∃ g' os, Held c g' (st.gone xs) a w (hs ++ (xs.map st.val).zip ((Xs.map a.eval).zip os)) ∧ os.length = xs.length ∧ (∀ b k, g.S b k → g'.S b k) ∧ g'.β = g.β ∧ g'.OB = g.OB
  | [], [], st, g, hs, h, _, _ => ⟨g, [], by simpa [St.gone, gone] using h, rfl, fun _ _ h => h, rfl, rfl⟩
  | [], _ :: _, _, _, _, _, hok, _ => by cases hok
  | _ :: _, [], _, _, _, _, hok, _ => by cases hok
  | x :: xs, X :: Xs, st, g, hs, h, hok, ho => by
    simp only [opndsOK, Bool.and_eq_true] at hok
    cases x with
    | m own n =>
      cases X <;> simp only [opndOK, beq_iff_eq, Bool.false_eq_true, false_and] at hok
      obtain ⟨rfl, hok⟩ := hok
      simp only [once, Bool.and_eq_true, List.all_eq_true, Bool.not_eq_true'] at ho
      obtain ⟨g1, o1, h1, hS1, hβ1, hB1⟩ := h.take n own
      obtain ⟨g2, os, h2, hl, hS2, hβ2, hB2⟩ := Held.opnds xs Xs _ g1 _ h1 hok ho.2
      refine ⟨g2, o1 :: os, ?_, by simp [hl], fun b k hs => hS2 b k (hS1 b k hs), hβ2.trans hβ1, hB2.trans hB1⟩
      have e : xs.map ({ st with tm := put st.tm n .undef } : St).val = xs.map st.val := List.map_congr_left fun y hy => val_put st n _ y (ho.1 y hy)
      rw [e] at h2
      simpa [St.gone, gone, St.val, Act.eval] using h2
    | t n =>
      cases X <;> simp only [opndOK, beq_iff_eq, Bool.false_eq_true, false_and] at hok
      obtain ⟨rfl, hok⟩ := hok
      simp only [once, Bool.and_eq_true] at ho
      obtain ⟨g2, os, h2, hl, hS2, hβ2, hB2⟩ := Held.opnds xs Xs _ g _ (h.push0 (h.inv.copy n)) hok ho.2
      exact ⟨g2, [] :: os, by simpa [St.gone, gone, St.val, Act.eval] using h2, by simp [hl], hS2, hβ2, hB2⟩
    | c v =>
      obtain ⟨hc, hok⟩ := hok
      simp only [once] at ho
      obtain ⟨g2, os, h2, hl, hS2, hβ2, hB2⟩ := Held.opnds xs Xs _ g _ (h.push0 (.of_rel (const_rel h.inv hc))) hok ho
      exact ⟨g2, [] :: os, by simpa [St.gone, gone, St.val] using h2, by simp [hl], hS2, hβ2, hB2⟩

end Go.Vi
end
section
/- A box is laid, written, let go; the world turns while values are held. -/
namespace Go.Vi
variable {c : Ctx} {g : G} {st st' : St} {a : Act} {w : World} {hs : List Hv}

/-- What is known of a box of its own: the block, its cells. -/
def BoxOK (w : World) (S : Stab) (B0 : Nat) (cs : List V) (ob : List Nat) : Prop :=
  ∃ (C : Array Value) (e : TypeId) (os : List (List Nat)), w.heap[B0]? = some (.cells C e (0, 0)) ∧ C.size = cs.length ∧ os.length = cs.length ∧
    (∀ (j : Nat) (y : V) (v : Value) (o : List Nat), cs[j]? = some y → C[j]? = some v → os[j]? = some o → Rel w S y v o) ∧ ob = B0 :: os.flatten ∧ ∀ k, ¬ S B0 k

theorem FInv.rebx (h : FInv c g st a w) (d : Nat) (bx' : List (Nat × Bool × List V)) (B0 : Nat) (ob : List Nat)
    (hother : ∀ d', d' ≠ d → get bx' d' = get st.bx d')
    (hf : ∀ cs, get bx' d = some (false, cs) → BoxOK w g.S B0 cs ob)
    (ht : ∀ cs, get bx' d = some (true, cs) → ob = [] ∧ Rel w g.S (.ptr cs 0) (.pointer (some ⟨B0, 0, none⟩)) [])
    (hn : get bx' d = none → ob = [])
    (hloc : B0 = g.β d ∨ ∀ t off, get st.tm t ≠ some (.loc d off))
    (hnd : ob.Nodup) (hfr : ∀ b ∈ ob, (c.B ≤ b ∨ b ∈ c.Mv) ∧ b < w.heap.size) (hO : ∀ b ∈ ob, ∀ t, b ∉ g.O t) (hOB : ∀ b ∈ ob, ∀ d', d' ≠ d → b ∉ g.OB d') :
    FInv c { g with β := fun d' => if d' = d then B0 else g.β d', OB := fun d' => if d' = d then ob else g.OB d' } { st with bx := bx' } a w := by
  refine { size := h.size, defers := h.defers, tm := ?_, tmn := h.tmn, bxf := ?_, bxt := ?_, bxn := ?_, dOO := h.dOO, dBB := ?_, dOB := ?_, nO := h.nO, nB := ?_, fO := h.fO, fB := ?_, hB := h.hB, upd := h.upd, keep := h.keep, sub := h.sub, new := h.new, lt := h.lt, gl := h.gl }
  · intro t v hv
    refine (h.tm t v hv).frame (fun d' off e => ?_) (fun s _ hx => ⟨.self hx, rfl⟩) fun hr => hr
    by_cases hd : d' = d
    · subst hd
      rcases hloc with h1 | h1
      · simp [h1]
      · subst e; exact absurd hv (h1 t off)
    · simp [hd]
  · intro d' cs hd'
    by_cases hd : d' = d
    · subst hd
      simp only [if_true]
      exact hf cs hd'
    · simp only [if_neg hd]
      exact h.bxf d' cs ((hother d' hd).symm.trans hd')
  · intro d' cs hd'
    by_cases hd : d' = d
    · subst hd
      simp only [if_true]
      exact ht cs hd'
    · simp only [if_neg hd]
      exact h.bxt d' cs ((hother d' hd).symm.trans hd')
  · intro d' hd'
    by_cases hd : d' = d
    · subst hd
      simp only [if_true]
      exact hn hd'
    · simp only [if_neg hd]
      exact h.bxn d' ((hother d' hd).symm.trans hd')
  · intro d1 d2 h12 b hb
    simp only at hb ⊢
    by_cases h1 : d1 = d
    · rw [if_pos h1] at hb
      have h2 : d2 ≠ d := fun e => h12 (h1.trans e.symm)
      rw [if_neg h2]
      exact hOB b hb d2 h2
    · rw [if_neg h1] at hb
      by_cases h2 : d2 = d
      · rw [if_pos h2]
        exact fun hb' => hOB b hb' d1 h1 hb
      · rw [if_neg h2]
        exact h.dBB d1 d2 h12 b hb
  · intro t d' b hb
    simp only
    by_cases h1 : d' = d
    · rw [if_pos h1]
      exact fun hb' => hO b hb' t hb
    · rw [if_neg h1]
      exact h.dOB t d' b hb
  · intro d'
    simp only
    by_cases h1 : d' = d
    · rw [if_pos h1]; exact hnd
    · rw [if_neg h1]; exact h.nB d'
  · intro d' b hb
    simp only at hb
    by_cases h1 : d' = d
    · rw [if_pos h1] at hb; exact hfr b hb
    · rw [if_neg h1] at hb; exact h.fB d' b hb

/-- A box is let go. -/
theorem FInv.nobox (h : FInv c g st a w) (d : Nat) : FInv c { g with β := fun d' => if d' = d then g.β d else g.β d', OB := fun d' => if d' = d then [] else g.OB d' } { st with bx := Vi.del st.bx d } a w :=
  h.rebx d _ (g.β d) [] (fun d' hd => by rw [get_del, if_neg hd]) (fun cs hd => by rw [get_del, if_pos rfl] at hd; cases hd) (fun cs hd => by rw [get_del, if_pos rfl] at hd; cases hd) (fun _ => rfl)
    (.inl rfl) (by simp) (by simp) (by simp) (by simp)

/-- The world turns in blocks that nobody owns, or in new ones; what stays stays. -/
theorem Held.world (h : Held c g st a w hs) (w' : World) (hk : Keep g.S w w')
    (hO : ∀ t, ∀ b ∈ g.O t, w'.heap[b]? = w.heap[b]?) (hB : ∀ d, ∀ b ∈ g.OB d, w'.heap[b]? = w.heap[b]?) (hH : ∀ b ∈ hs.flatMap (·.2.2), w'.heap[b]? = w.heap[b]?)
    (hu : Upd c.B c.Mv w w') : Held c g st a w' hs := by
  have hi := h.inv.world w' g.S hk (fun _ _ h => h) (fun t b hb => ⟨hO t b hb, fun _ h => h⟩) (fun d b hb => ⟨hB d b hb, fun _ h => h⟩) hu (fun _ _ h => .inl h)
    (fun b k hs => Nat.lt_of_lt_of_le (h.inv.lt b k hs) hu.size)
  refine ⟨hi, fun e he => ?_, h.nd, fun b hb => ⟨⟨(h.fr b hb).1.1, Nat.lt_of_lt_of_le (h.fr b hb).1.2 hu.size⟩, (h.fr b hb).2⟩⟩
  refine (h.rel e he).frame (fun _ _ _ => rfl) (fun s _ hx => ⟨.self hx, rfl⟩) fun hr => hr.keep hk (fun _ _ h => h) (fun b hb => hH b ?_) (fun _ _ _ h => h)
  exact List.mem_flatMap.2 ⟨e, he, hb⟩

/-- One block is written (or is new), nobody owns it, nothing in it stays. -/
theorem Held.write (h : Held c g st a w hs) (w' : World) (B0 : Nat) (hother : ∀ b, b ≠ B0 → w'.heap[b]? = w.heap[b]?) (hS : ∀ k, ¬ g.S B0 k) (hO : ∀ t, B0 ∉ g.O t) (hOB : ∀ d, B0 ∉ g.OB d) (hH : B0 ∉ hs.flatMap (·.2.2))
    (hfr : c.B ≤ B0 ∨ B0 ∈ c.Mv) (ho : w'.os = w.os) (ht : w'.tape = w.tape) (hout : w'.output = w.output) (hsz : w.heap.size ≤ w'.heap.size) : Held c g st a w' hs :=
  h.world w' (Keep.of_heap fun b k hs => hother b (fun e => hS k (e ▸ hs))) (fun t b hb => hother b (fun e => hO t (e ▸ hb))) (fun d b hb => hother b (fun e => hOB d (e ▸ hb)))
    (fun b hb => hother b (fun e => hH (e ▸ hb)))
    ⟨ho, ht, hout, hsz, fun b h1 h2 => hother b (fun e => by
      subst e
      rcases hfr with h3 | h3
      · omega
      · exact h2 h3)⟩

/-- The order of evaluation, a new array's size: something has been drawn. -/
theorem Held.drew (h : Held c g st a w hs) : Held c g st a w.drew hs :=
  h.world w.drew (Keep.of_heap fun _ _ _ => rfl) (fun _ _ _ => rfl) (fun _ _ _ => rfl) (fun _ _ => rfl) ⟨rfl, rfl, rfl, Nat.le_refl _, fun _ _ _ => rfl⟩

theorem FInv.drew (h : FInv c g st a w) : FInv c g st a w.drew := (Held.nil h).drew.inv

theorem Held.perm_state {st' : St} (h : Held c g st a w hs) (e : st' = st) : Held c g st' a w hs := e ▸ h

/-- What is held is forgotten. -/
theorem Held.forget (h : Held c g st a w hs) : FInv c g st a w := h.inv

/-- The row or the map of a slot is written in place. -/
theorem FInv.slotW (h : FInv c g st a w) (t : Nat) (v' : V) (w' : World) (B0 : Nat) (hB0 : B0 ∈ g.O t) (hother : ∀ b, b ≠ B0 → w'.heap[b]? = w.heap[b]?) (hS : ∀ k, ¬ g.S B0 k)
    (ho : w'.os = w.os) (htp : w'.tape = w.tape) (hout : w'.output = w.output) (hsz : w.heap.size ≤ w'.heap.size)
    (hnew : Rel w' g.S v' (a.tmps.getD t Go.undef) (g.O t)) (hX : isX v' = true → Xsame (st.at t) v') : FInv c g { st with tm := put st.tm t v' } a w' := by
  have hkeep : Keep g.S w w' := Keep.of_heap fun b k hs => hother b (fun e => hS k (e ▸ hs))
  have hfr := h.fO t B0 hB0
  have hu : Upd c.B c.Mv w w' := ⟨ho, htp, hout, hsz, fun b h1 h2 => hother b (fun e => by
      subst e
      rcases hfr.1 with h3 | h3
      · omega
      · exact h2 h3)⟩
  have hO : ∀ u, u ≠ t → ∀ b ∈ g.O u, w'.heap[b]? = w.heap[b]? := fun u hu b hb => hother b (fun e => h.dOO t u (fun e => hu e.symm) B0 hB0 (e ▸ hb))
  have hB : ∀ d, ∀ b ∈ g.OB d, w'.heap[b]? = w.heap[b]? := fun d b hb => hother b (fun e => h.dOB t d B0 hB0 (e ▸ hb))
  refine { size := h.size, defers := h.defers, tm := ?_, tmn := ?_, bxf := ?_, bxt := ?_, bxn := h.bxn, dOO := h.dOO, dBB := h.dBB, dOB := h.dOB, nO := h.nO, nB := h.nB, fO := ?_, fB := ?_, hB := Nat.le_trans h.hB hsz, upd := h.upd.trans hu, keep := h.keep.trans (hkeep.less h.sub), sub := h.sub, new := h.new, lt := ?_, gl := h.gl }
  · intro u v hv
    rw [get_put] at hv
    by_cases hut : u = t
    · subst hut
      rw [if_pos rfl] at hv
      cases hv
      exact .of_rel hnew
    · rw [if_neg hut] at hv
      refine (h.tm u v hv).frame (fun _ _ _ => rfl) (fun s _ hx => ?_) fun hr => hr.keep hkeep (fun _ _ h => h) (hO u hut) (fun _ _ _ h => h)
      by_cases hs : s = t
      · subst hs
        have e : ({ st with tm := put st.tm s v' } : St).at s = v' := by simp [St.at, get_put]
        rw [e] at hx ⊢
        exact ⟨hX hx, rfl⟩
      · have e : ({ st with tm := put st.tm t v' } : St).at s = st.at s := by simp [St.at, get_put, hs]
        rw [e] at hx ⊢
        exact ⟨.self hx, rfl⟩
  · intro u hu
    rw [get_put] at hu
    split at hu
    · cases hu
    · exact h.tmn u hu
  · intro d cs hd
    obtain ⟨C, e, os, h1, h2, h3, h4, h5, h6⟩ := h.bxf d cs hd
    have hm : g.β d ∈ g.OB d := by rw [h5]; simp
    refine ⟨C, e, os, (hB d _ hm).trans h1, h2, h3, fun j y v o hy hv ho => (h4 j y v o hy hv ho).keep hkeep (fun _ _ h => h) (fun b hb => hB d b ?_) (fun _ _ _ h => h), h5, h6⟩
    rw [h5]
    exact List.mem_cons_of_mem _ (List.mem_flatten.2 ⟨o, List.mem_of_getElem? ho, hb⟩)
  · intro d cs hd
    exact ⟨(h.bxt d cs hd).1, (h.bxt d cs hd).2.keep0 hkeep (fun _ _ h => h)⟩
  · exact fun t b hb => ⟨(h.fO t b hb).1, Nat.lt_of_lt_of_le (h.fO t b hb).2 hsz⟩
  · exact fun d b hb => ⟨(h.fB d b hb).1, Nat.lt_of_lt_of_le (h.fB d b hb).2 hsz⟩
  · exact fun b k hs => Nat.lt_of_lt_of_le (h.lt b k hs) hsz

theorem mem_paste {α : Type} {l new : List α} {off : Nat} (h : off + new.length ≤ l.length) {j : Nat} :
    (l.take off ++ new ++ l.drop (off + new.length))[j]? = if j < off then l[j]? else if j < off + new.length then new[j - off]? else l[j]? := by
  have h0 : (l.take off).length = off := by simp; omega
  by_cases h1 : j < off
  · rw [if_pos h1, List.append_assoc, List.getElem?_append_left (by omega), List.getElem?_take, if_pos h1]
  · rw [if_neg h1, List.append_assoc, List.getElem?_append_right (by omega), h0]
    by_cases h2 : j < off + new.length
    · rw [if_pos h2, List.getElem?_append_left (by omega)]
    · rw [if_neg h2, List.getElem?_append_right (by omega), List.getElem?_drop]
      congr 1
      omega

theorem flatten_sub {l l' : List (List Nat)} (h : l.Sublist l') : l.flatten.Sublist l'.flatten := by
  induction h with
  | slnil => simp
  | cons a _ ih => simp only [List.flatten_cons]; exact ih.trans (List.sublist_append_right _ _)
  | cons_cons a _ ih => simp only [List.flatten_cons]; exact List.Sublist.append (List.Sublist.refl _) ih

theorem nodup_paste {os nos : List (List Nat)} {off : Nat} (h1 : os.flatten.Nodup) (h2 : nos.flatten.Nodup) (h3 : ∀ b ∈ nos.flatten, b ∉ os.flatten) :
    (os.take off ++ nos ++ os.drop (off + nos.length)).flatten.Nodup ∧ ∀ b ∈ (os.take off ++ nos ++ os.drop (off + nos.length)).flatten, b ∈ os.flatten ∨ b ∈ nos.flatten := by
  have hsub : ∀ b ∈ (os.take off).flatten, b ∈ os.flatten := fun b hb => by
    rw [List.mem_flatten] at hb ⊢
    obtain ⟨l, hl, hb⟩ := hb
    exact ⟨l, List.mem_of_mem_take hl, hb⟩
  have hsub' : ∀ b ∈ (os.drop (off + nos.length)).flatten, b ∈ os.flatten := fun b hb => by
    rw [List.mem_flatten] at hb ⊢
    obtain ⟨l, hl, hb⟩ := hb
    exact ⟨l, List.mem_of_mem_drop hl, hb⟩
  have hsl : (os.take off ++ os.drop (off + nos.length)).Sublist os := by
    have e : os.take off ++ os.drop off = os := List.take_append_drop off os
    have : (os.drop (off + nos.length)).Sublist (os.drop off) := by rw [← List.drop_drop]; exact List.drop_sublist _ _
    have := List.Sublist.append (List.Sublist.refl (os.take off)) this
    rwa [e] at this
  have hn : ((os.take off).flatten ++ (os.drop (off + nos.length)).flatten).Nodup := by
    rw [← List.flatten_append]
    exact List.Nodup.sublist (flatten_sub hsl) h1
  refine ⟨?_, fun b hb => ?_⟩
  · simp only [List.flatten_append, List.append_assoc]
    rw [List.nodup_append] at hn ⊢
    refine ⟨hn.1, ?_, fun x hx y hy => ?_⟩
    · rw [List.nodup_append]
      exact ⟨h2, hn.2.1, fun x hx y hy e => h3 x hx (e ▸ hsub' y hy)⟩
    · rcases List.mem_append.1 hy with h4 | h4
      · exact fun e => h3 y h4 (e ▸ hsub x hx)
      · exact hn.2.2 x hx y h4
  · simp only [List.flatten_append, List.mem_append] at hb
    rcases hb with (hb | hb) | hb
    · exact .inl (hsub b hb)
    · exact .inr hb
    · exact .inl (hsub' b hb)

end Go.Vi
end
