/- How what is known of slots goes on: the world turns, a slot is written, what a slot holds is handed on. -/
import Derived.Test.YtomimhedehecdaaDoorViFrame
namespace Go.Vi

theorem Keep.refl (S : Stab) (w : World) : Keep S w w := fun _ _ _ => ⟨rfl, fun _ _ h => h⟩
theorem Keep.trans {S : Stab} {w w' w'' : World} (h : Keep S w w') (h' : Keep S w' w'') : Keep S w w'' :=
  fun b k hs => ⟨((h' b k hs).1).trans (h b k hs).1, fun es c he => (h' b k hs).2 es c ((h b k hs).2 es c he)⟩
theorem Keep.less {S S' : Stab} {w w' : World} (h : Keep S w w') (hs : ∀ b k, S' b k → S b k) : Keep S' w w' := fun b k hk => h b k (hs b k hk)
theorem Keep.of_heap {S : Stab} {w w' : World} (h : ∀ b k, S b k → w'.heap[b]? = w.heap[b]?) : Keep S w w' :=
  fun b k hs => ⟨cell_of_heap (h b k hs) k, fun _ _ he => (h b k hs).trans he⟩

theorem Upd.refl (B : Nat) (Mv : List Nat) (w : World) : Upd B Mv w w := ⟨rfl, rfl, rfl, Nat.le_refl _, fun _ _ _ => rfl⟩
theorem Upd.trans {B : Nat} {Mv : List Nat} {w w' w'' : World} (h : Upd B Mv w w') (h' : Upd B Mv w' w'') : Upd B Mv w w'' :=
  ⟨h'.os.trans h.os, h'.tape.trans h.tape, h'.output.trans h.output, Nat.le_trans h.size h'.size, fun b h1 h2 => (h'.block b h1 h2).trans (h.block b h1 h2)⟩

def Xsame (u v : V) : Prop := (∃ sz xs ys, u = .sl .x sz xs ∧ v = .sl .x sz ys) ∨ ∃ es es', u = .mp .x es ∧ v = .mp .x es'

theorem isX_cases {v : V} (h : isX v = true) : (∃ sz xs, v = .sl .x sz xs) ∨ ∃ es, v = .mp .x es := by
  cases v with
  | sl o sz xs => cases o <;> simp_all [isX]
  | mp o es => cases o <;> simp_all [isX]
  | _ => cases h
theorem Xsame.self {v : V} (h : isX v = true) : Xsame v v := by
  rcases isX_cases h with ⟨sz, xs, rfl⟩ | ⟨es, rfl⟩
  · exact .inl ⟨sz, xs, xs, rfl, rfl⟩
  · exact .inr ⟨es, es, rfl, rfl⟩
theorem Xsame.isX {u v : V} (h : Xsame u v) : Vi.isX u = true := by
  rcases h with ⟨sz, xs, ys, rfl, rfl⟩ | ⟨es, es', rfl, rfl⟩ <;> rfl
theorem Xsame.sl {u : V} {sz : Nat} {xs : List (List V)} (h : Xsame u (.sl .x sz xs)) : ∃ ys, u = .sl .x sz ys := by
  rcases h with ⟨sz', xs', ys, rfl, h⟩ | ⟨es, es', rfl, h⟩
  · simp only [V.sl.injEq, true_and] at h
    obtain ⟨rfl, _⟩ := h
    exact ⟨xs', rfl⟩
  · cases h

/-- Does a value name a slot's slice or map? -/
def names (s : Nat) : V → Bool
  | .el t _ _ => t == s
  | .rf t => t == s
  | _ => false

theorem RelT.frame {w w' : World} {g g' : G} {st st' : St} {a a' : Act} {v : V} {r : Value} {o : List Nat} (h : RelT w g st a v r o)
    (hβ : ∀ d off, v = .loc d off → g'.β d = g.β d)
    (hX : ∀ s, names s v = true → isX (st'.at s) = true → Xsame (st.at s) (st'.at s) ∧ a'.tmps.getD s Go.undef = a.tmps.getD s Go.undef)
    (hr : Rel w g.S v r o → Rel w' g'.S v r o) : RelT w' g' st' a' v r o := by
  cases v
  case loc d off => exact ⟨h.1, by rw [hβ d off rfl]; exact h.2⟩
  case el t i off =>
    refine ⟨h.1, fun sz xs hat => ?_⟩
    have hx := hX t (by simp [names]) (by rw [hat]; rfl)
    rw [hat] at hx
    obtain ⟨ys, hy⟩ := hx.1.sl
    rw [hx.2]
    exact h.2 _ _ hy
  case rf t =>
    refine ⟨h.1, fun hat => ?_⟩
    have hx := hX t (by simp [names]) hat
    rw [hx.2]
    exact h.2 hx.1.isX
  all_goals exact hr h

theorem noref_names {d : Nat} : ∀ {l : List (Nat × V)}, noref d l = true → ∀ t v, (t, v) ∈ l → names d v = false
  | [], _, _, _, hm => by cases hm
  | (t', v') :: l, h, t, v, hm => by
    have hl : noref d l = true ∧ names d v' = false := by
      cases v' <;> simp_all [noref, names]
    rcases List.mem_cons.1 hm with he | he
    · cases he; exact hl.2
    · exact noref_names hl.1 t v he

variable {c : Ctx} {g : G} {st : St} {a : Act} {w : World}

/-- The world turns where nothing is owned; more cells stay. -/
theorem FInv.world (h : FInv c g st a w) (w' : World) (S' : Stab) (hk : Keep g.S w w') (hS : ∀ b k, g.S b k → S' b k)
    (hO : ∀ t, ∀ b ∈ g.O t, w'.heap[b]? = w.heap[b]? ∧ ∀ k, S' b k → g.S b k) (hB : ∀ d, ∀ b ∈ g.OB d, w'.heap[b]? = w.heap[b]? ∧ ∀ k, S' b k → g.S b k)
    (hu : Upd c.B c.Mv w w') (hn : ∀ b k, S' b k → g.S b k ∨ c.B ≤ b ∨ b ∈ c.Mv) (hl : ∀ b k, S' b k → b < w'.heap.size) : FInv c { g with S := S' } st a w' where
  size := h.size
  defers := h.defers
  tm t v hv := (h.tm t v hv).frame (fun _ _ _ => rfl) (fun s _ hx => ⟨.self hx, rfl⟩)
    fun hr => hr.keep hk hS (fun b hb => (hO t b hb).1) (fun b hb => (hO t b hb).2)
  tmn := h.tmn
  bxf d cs hd := by
    obtain ⟨C, e, os, h1, h2, h3, h4, h5, h6⟩ := h.bxf d cs hd
    have hm : g.β d ∈ g.OB d := by rw [h5]; simp
    refine ⟨C, e, os, ((hB d _ hm).1).trans h1, h2, h3, fun j y v o hy hv ho => (h4 j y v o hy hv ho).keep hk hS ?_ ?_, h5, fun k hs => h6 k ((hB d _ hm).2 k hs)⟩
    all_goals
      intro b hb
      have : b ∈ g.OB d := by rw [h5]; exact List.mem_cons_of_mem _ (List.mem_flatten.2 ⟨o, List.mem_of_getElem? ho, hb⟩)
      first | exact (hB d b this).1 | exact (hB d b this).2
  bxt d cs hd := ⟨(h.bxt d cs hd).1, (h.bxt d cs hd).2.keep0 hk hS⟩
  bxn := h.bxn
  dOO := h.dOO
  dBB := h.dBB
  dOB := h.dOB
  nO := h.nO
  nB := h.nB
  fO t b hb := ⟨(h.fO t b hb).1, Nat.lt_of_lt_of_le (h.fO t b hb).2 hu.size⟩
  fB d b hb := ⟨(h.fB d b hb).1, Nat.lt_of_lt_of_le (h.fB d b hb).2 hu.size⟩
  hB := Nat.le_trans h.hB hu.size
  upd := h.upd.trans hu
  keep := h.keep.trans (hk.less h.sub)
  sub b k hs := hS b k (h.sub b k hs)
  new b k hs := by
    rcases hn b k hs with h1 | h1
    · exact h.new b k h1
    · exact .inr h1
  lt := hl
  gl := h.gl

/-- A slot is written. -/
theorem FInv.slot' (h : FInv c g st a w) (d : Nat) (tm' : List (Nat × V)) (r : Value) (ov : List Nat) (hgd : (a.put (some d) r).tmps.getD d Go.undef = r)
    (hother : ∀ t, t ≠ d → get tm' t = get st.tm t)
    (hnew : ∀ v, get tm' d = some v → RelT w { g with O := fun t => if t = d then ov else g.O t } { st with tm := tm' } (a.put (some d) r) v r ov)
    (hnone : get tm' d = none → ov = [])
    (hX : ∀ t v, t ≠ d → get st.tm t = some v → names d v = true → isX ((get tm' d).getD .undef) = true → Xsame (st.at d) ((get tm' d).getD .undef) ∧ r = a.tmps.getD d Go.undef)
    (hnd : ov.Nodup) (hfr : ∀ b ∈ ov, (c.B ≤ b ∨ b ∈ c.Mv) ∧ b < w.heap.size) (hO : ∀ b ∈ ov, ∀ t, t ≠ d → b ∉ g.O t) (hOB : ∀ b ∈ ov, ∀ d', b ∉ g.OB d') :
    FInv c { g with O := fun t => if t = d then ov else g.O t } { st with tm := tm' } (a.put (some d) r) w := by
  have hgo : ∀ t, t ≠ d → (a.put (some d) r).tmps.getD t Go.undef = a.tmps.getD t Go.undef := by
    intro t ht
    simp only [Act.put, Array.getD_eq_getD_getElem?]
    rw [Array.getElem?_setIfInBounds_ne (fun e => ht e.symm)]
  refine { size := ?_, defers := ?_, tm := ?_, tmn := ?_, bxf := h.bxf, bxt := h.bxt, bxn := h.bxn, dOO := ?_, dBB := h.dBB, dOB := ?_, nO := ?_, nB := h.nB, fO := ?_, fB := h.fB, hB := h.hB, upd := h.upd, keep := h.keep, sub := h.sub, new := h.new, lt := h.lt, gl := h.gl }
  · simp [Act.put, h.size]
  · exact h.defers
  · intro t v hv
    by_cases ht : t = d
    · subst ht
      simp only [hgd, if_true]
      exact hnew v hv
    · rw [hgo t ht]
      simp only [if_neg ht]
      rw [hother t ht] at hv
      refine (h.tm t v hv).frame (fun _ _ _ => rfl) (fun s hs hx => ?_) (fun hr => hr)
      by_cases hsd : s = d
      · subst hsd
        rw [hgd]
        exact hX t v ht hv hs hx
      · rw [hgo s hsd]
        refine ⟨?_, rfl⟩
        have he : ({ st with tm := tm' } : St).at s = st.at s := by simp [St.at, hother s hsd]
        rw [he] at hx ⊢
        exact .self hx
  · intro t ht
    by_cases htd : t = d
    · subst htd; simp [hnone ht]
    · simp only [if_neg htd]
      rw [hother t htd] at ht
      exact h.tmn t ht
  · intro t u htu b hb
    simp only at hb ⊢
    by_cases h1 : t = d
    · rw [if_pos h1] at hb
      have h2 : u ≠ d := fun e => htu (h1.trans e.symm)
      rw [if_neg h2]
      exact hO b hb u h2
    · rw [if_neg h1] at hb
      by_cases h2 : u = d
      · rw [if_pos h2]
        exact fun hb' => hO b hb' t h1 hb
      · rw [if_neg h2]
        exact h.dOO t u htu b hb
  · intro t d' b hb
    simp only at hb
    by_cases h1 : t = d
    · rw [if_pos h1] at hb; exact hOB b hb d'
    · rw [if_neg h1] at hb; exact h.dOB t d' b hb
  · intro t
    simp only
    by_cases h1 : t = d
    · rw [if_pos h1]; exact hnd
    · rw [if_neg h1]; exact h.nO t
  · intro t b hb
    simp only at hb
    by_cases h1 : t = d
    · rw [if_pos h1] at hb; exact hfr b hb
    · rw [if_neg h1] at hb; exact h.fO t b hb

end Go.Vi
