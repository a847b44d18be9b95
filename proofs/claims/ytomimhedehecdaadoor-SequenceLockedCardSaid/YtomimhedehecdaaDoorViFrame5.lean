/- A box is laid, written, let go; the world turns while values are held. -/
import Derived.Test.YtomimhedehecdaaDoorViFrame4
namespace Go.Vi
variable {c : Ctx} {g : G} {st st' : St} {a : Act} {w : World} {hs : List Hv}

/-- What is known of a box of its own: the block, its cells. -/
def BoxOK (w : World) (S : Stab) (B0 : Nat) (cs : List V) (ob : List Nat) : Prop :=
  ∃ (C : Array Value) (e : TypeId) (os : List (List Nat)), w.heap[B0]? = some (.cells C e (0, 0)) ∧ C.size = cs.length ∧ os.length = cs.length ∧
    (∀ (j : Nat) (y : V) (v : Value) (o : List Nat), cs[j]? = some y → C[j]? = some v → os[j]? = some o → Rel w S y v o) ∧ ob = B0 :: os.flatten ∧ ∀ k, ¬ S B0 k

theorem FInv.rebx (h : FInv c g st a w) (d : Nat) (bx' : List (Nat × Bool × List V)) (B0 : Nat) (ob : List Nat)
    (hother : ∀ d', d' ≠ d → get bx' d' = get st.bx d')
    (hf : ∀ cs, get bx' d = some (false, cs) → BoxOK w g.S B0 cs ob)
    (ht : ∀ cs, get bx' d = some (true, cs) → ob = [] ∧ Rel w g.S (.ptr cs 0) (.pointer (some ⟨B0, 0, none⟩)) [])
    (hn : get bx' d = none → ob = [])
    (hloc : B0 = g.β d ∨ ∀ t off, get st.tm t ≠ some (.loc d off))
    (hnd : ob.Nodup) (hfr : ∀ b ∈ ob, (c.B ≤ b ∨ b ∈ c.Mv) ∧ b < w.heap.size) (hO : ∀ b ∈ ob, ∀ t, b ∉ g.O t) (hOB : ∀ b ∈ ob, ∀ d', d' ≠ d → b ∉ g.OB d') :
    FInv c { g with β := fun d' => if d' = d then B0 else g.β d', OB := fun d' => if d' = d then ob else g.OB d' } { st with bx := bx' } a w := by
  refine { size := h.size, defers := h.defers, tm := ?_, tmn := h.tmn, bxf := ?_, bxt := ?_, bxn := ?_, dOO := h.dOO, dBB := ?_, dOB := ?_, nO := h.nO, nB := ?_, fO := h.fO, fB := ?_, hB := h.hB, upd := h.upd, keep := h.keep, sub := h.sub, new := h.new, lt := h.lt, gl := h.gl }
  · intro t v hv
    refine (h.tm t v hv).frame (fun d' off e => ?_) (fun s _ hx => ⟨.self hx, rfl⟩) fun hr => hr
    by_cases hd : d' = d
    · subst hd
      rcases hloc with h1 | h1
      · simp [h1]
      · subst e; exact absurd hv (h1 t off)
    · simp [hd]
  · intro d' cs hd'
    by_cases hd : d' = d
    · subst hd
      simp only [if_true]
      exact hf cs hd'
    · simp only [if_neg hd]
      exact h.bxf d' cs ((hother d' hd).symm.trans hd')
  · intro d' cs hd'
    by_cases hd : d' = d
    · subst hd
      simp only [if_true]
      exact ht cs hd'
    · simp only [if_neg hd]
      exact h.bxt d' cs ((hother d' hd).symm.trans hd')
  · intro d' hd'
    by_cases hd : d' = d
    · subst hd
      simp only [if_true]
      exact hn hd'
    · simp only [if_neg hd]
      exact h.bxn d' ((hother d' hd).symm.trans hd')
  · intro d1 d2 h12 b hb
    simp only at hb ⊢
    by_cases h1 : d1 = d
    · rw [if_pos h1] at hb
      have h2 : d2 ≠ d := fun e => h12 (h1.trans e.symm)
      rw [if_neg h2]
      exact hOB b hb d2 h2
    · rw [if_neg h1] at hb
      by_cases h2 : d2 = d
      · rw [if_pos h2]
        exact fun hb' => hOB b hb' d1 h1 hb
      · rw [if_neg h2]
        exact h.dBB d1 d2 h12 b hb
  · intro t d' b hb
    simp only
    by_cases h1 : d' = d
    · rw [if_pos h1]
      exact fun hb' => hO b hb' t hb
    · rw [if_neg h1]
      exact h.dOB t d' b hb
  · intro d'
    simp only
    by_cases h1 : d' = d
    · rw [if_pos h1]; exact hnd
    · rw [if_neg h1]; exact h.nB d'
  · intro d' b hb
    simp only at hb
    by_cases h1 : d' = d
    · rw [if_pos h1] at hb; exact hfr b hb
    · rw [if_neg h1] at hb; exact h.fB d' b hb

/-- A box is let go. -/
theorem FInv.nobox (h : FInv c g st a w) (d : Nat) : FInv c { g with β := fun d' => if d' = d then g.β d else g.β d', OB := fun d' => if d' = d then [] else g.OB d' } { st with bx := Vi.del st.bx d } a w :=
  h.rebx d _ (g.β d) [] (fun d' hd => by rw [get_del, if_neg hd]) (fun cs hd => by rw [get_del, if_pos rfl] at hd; cases hd) (fun cs hd => by rw [get_del, if_pos rfl] at hd; cases hd) (fun _ => rfl)
    (.inl rfl) (by simp) (by simp) (by simp) (by simp)

/-- The world turns in blocks that nobody owns, or in new ones; what stays stays. -/
theorem Held.world (h : Held c g st a w hs) (w' : World) (hk : Keep g.S w w')
    (hO : ∀ t, ∀ b ∈ g.O t, w'.heap[b]? = w.heap[b]?) (hB : ∀ d, ∀ b ∈ g.OB d, w'.heap[b]? = w.heap[b]?) (hH : ∀ b ∈ hs.flatMap (·.2.2), w'.heap[b]? = w.heap[b]?)
    (hu : Upd c.B c.Mv w w') : Held c g st a w' hs := by
  have hi := h.inv.world w' g.S hk (fun _ _ h => h) (fun t b hb => ⟨hO t b hb, fun _ h => h⟩) (fun d b hb => ⟨hB d b hb, fun _ h => h⟩) hu (fun _ _ h => .inl h)
    (fun b k hs => Nat.lt_of_lt_of_le (h.inv.lt b k hs) hu.size)
  refine ⟨hi, fun e he => ?_, h.nd, fun b hb => ⟨⟨(h.fr b hb).1.1, Nat.lt_of_lt_of_le (h.fr b hb).1.2 hu.size⟩, (h.fr b hb).2⟩⟩
  refine (h.rel e he).frame (fun _ _ _ => rfl) (fun s _ hx => ⟨.self hx, rfl⟩) fun hr => hr.keep hk (fun _ _ h => h) (fun b hb => hH b ?_) (fun _ _ _ h => h)
  exact List.mem_flatMap.2 ⟨e, he, hb⟩

/-- One block is written (or is new), nobody owns it, nothing in it stays. -/
theorem Held.write (h : Held c g st a w hs) (w' : World) (B0 : Nat) (hother : ∀ b, b ≠ B0 → w'.heap[b]? = w.heap[b]?) (hS : ∀ k, ¬ g.S B0 k) (hO : ∀ t, B0 ∉ g.O t) (hOB : ∀ d, B0 ∉ g.OB d) (hH : B0 ∉ hs.flatMap (·.2.2))
    (hfr : c.B ≤ B0 ∨ B0 ∈ c.Mv) (ho : w'.os = w.os) (ht : w'.tape = w.tape) (hout : w'.output = w.output) (hsz : w.heap.size ≤ w'.heap.size) : Held c g st a w' hs :=
  h.world w' (Keep.of_heap fun b k hs => hother b (fun e => hS k (e ▸ hs))) (fun t b hb => hother b (fun e => hO t (e ▸ hb))) (fun d b hb => hother b (fun e => hOB d (e ▸ hb)))
    (fun b hb => hother b (fun e => hH (e ▸ hb)))
    ⟨ho, ht, hout, hsz, fun b h1 h2 => hother b (fun e => by
      subst e
      rcases hfr with h3 | h3
      · omega
      · exact h2 h3)⟩

/-- The order of evaluation, a new array's size: something has been drawn. -/
theorem Held.drew (h : Held c g st a w hs) : Held c g st a w.drew hs :=
  h.world w.drew (Keep.of_heap fun _ _ _ => rfl) (fun _ _ _ => rfl) (fun _ _ _ => rfl) (fun _ _ => rfl) ⟨rfl, rfl, rfl, Nat.le_refl _, fun _ _ _ => rfl⟩

theorem FInv.drew (h : FInv c g st a w) : FInv c g st a w.drew := (Held.nil h).drew.inv

theorem Held.perm_state {st' : St} (h : Held c g st a w hs) (e : st' = st) : Held c g st' a w hs := e ▸ h

/-- What is held is forgotten. -/
theorem Held.forget (h : Held c g st a w hs) : FInv c g st a w := h.inv

/-- The row or the map of a slot is written in place. -/
theorem FInv.slotW (h : FInv c g st a w) (t : Nat) (v' : V) (w' : World) (B0 : Nat) (hB0 : B0 ∈ g.O t) (hother : ∀ b, b ≠ B0 → w'.heap[b]? = w.heap[b]?) (hS : ∀ k, ¬ g.S B0 k)
    (ho : w'.os = w.os) (htp : w'.tape = w.tape) (hout : w'.output = w.output) (hsz : w.heap.size ≤ w'.heap.size)
    (hnew : Rel w' g.S v' (a.tmps.getD t Go.undef) (g.O t)) (hX : isX v' = true → Xsame (st.at t) v') : FInv c g { st with tm := put st.tm t v' } a w' := by
  have hkeep : Keep g.S w w' := Keep.of_heap fun b k hs => hother b (fun e => hS k (e ▸ hs))
  have hfr := h.fO t B0 hB0
  have hu : Upd c.B c.Mv w w' := ⟨ho, htp, hout, hsz, fun b h1 h2 => hother b (fun e => by
      subst e
      rcases hfr.1 with h3 | h3
      · omega
      · exact h2 h3)⟩
  have hO : ∀ u, u ≠ t → ∀ b ∈ g.O u, w'.heap[b]? = w.heap[b]? := fun u hu b hb => hother b (fun e => h.dOO t u (fun e => hu e.symm) B0 hB0 (e ▸ hb))
  have hB : ∀ d, ∀ b ∈ g.OB d, w'.heap[b]? = w.heap[b]? := fun d b hb => hother b (fun e => h.dOB t d B0 hB0 (e ▸ hb))
  refine { size := h.size, defers := h.defers, tm := ?_, tmn := ?_, bxf := ?_, bxt := ?_, bxn := h.bxn, dOO := h.dOO, dBB := h.dBB, dOB := h.dOB, nO := h.nO, nB := h.nB, fO := ?_, fB := ?_, hB := Nat.le_trans h.hB hsz, upd := h.upd.trans hu, keep := h.keep.trans (hkeep.less h.sub), sub := h.sub, new := h.new, lt := ?_, gl := h.gl }
  · intro u v hv
    rw [get_put] at hv
    by_cases hut : u = t
    · subst hut
      rw [if_pos rfl] at hv
      cases hv
      exact .of_rel hnew
    · rw [if_neg hut] at hv
      refine (h.tm u v hv).frame (fun _ _ _ => rfl) (fun s _ hx => ?_) fun hr => hr.keep hkeep (fun _ _ h => h) (hO u hut) (fun _ _ _ h => h)
      by_cases hs : s = t
      · subst hs
        have e : ({ st with tm := put st.tm s v' } : St).at s = v' := by simp [St.at, get_put]
        rw [e] at hx ⊢
        exact ⟨hX hx, rfl⟩
      · have e : ({ st with tm := put st.tm t v' } : St).at s = st.at s := by simp [St.at, get_put, hs]
        rw [e] at hx ⊢
        exact ⟨.self hx, rfl⟩
  · intro u hu
    rw [get_put] at hu
    split at hu
    · cases hu
    · exact h.tmn u hu
  · intro d cs hd
    obtain ⟨C, e, os, h1, h2, h3, h4, h5, h6⟩ := h.bxf d cs hd
    have hm : g.β d ∈ g.OB d := by rw [h5]; simp
    refine ⟨C, e, os, (hB d _ hm).trans h1, h2, h3, fun j y v o hy hv ho => (h4 j y v o hy hv ho).keep hkeep (fun _ _ h => h) (fun b hb => hB d b ?_) (fun _ _ _ h => h), h5, h6⟩
    rw [h5]
    exact List.mem_cons_of_mem _ (List.mem_flatten.2 ⟨o, List.mem_of_getElem? ho, hb⟩)
  · intro d cs hd
    exact ⟨(h.bxt d cs hd).1, (h.bxt d cs hd).2.keep0 hkeep (fun _ _ h => h)⟩
  · exact fun t b hb => ⟨(h.fO t b hb).1, Nat.lt_of_lt_of_le (h.fO t b hb).2 hsz⟩
  · exact fun d b hb => ⟨(h.fB d b hb).1, Nat.lt_of_lt_of_le (h.fB d b hb).2 hsz⟩
  · exact fun b k hs => Nat.lt_of_lt_of_le (h.lt b k hs) hsz

theorem mem_paste {α : Type} {l new : List α} {off : Nat} (h : off + new.length ≤ l.length) {j : Nat} :
    (l.take off ++ new ++ l.drop (off + new.length))[j]? = if j < off then l[j]? else if j < off + new.length then new[j - off]? else l[j]? := by
  have h0 : (l.take off).length = off := by simp; omega
  by_cases h1 : j < off
  · rw [if_pos h1, List.append_assoc, List.getElem?_append_left (by omega), List.getElem?_take, if_pos h1]
  · rw [if_neg h1, List.append_assoc, List.getElem?_append_right (by omega), h0]
    by_cases h2 : j < off + new.length
    · rw [if_pos h2, List.getElem?_append_left (by omega)]
    · rw [if_neg h2, List.getElem?_append_right (by omega), List.getElem?_drop]
      congr 1
      omega

theorem flatten_sub {l l' : List (List Nat)} (h : l.Sublist l') : l.flatten.Sublist l'.flatten := by
  induction h with
  | slnil => simp
  | cons a _ ih => simp only [List.flatten_cons]; exact ih.trans (List.sublist_append_right _ _)
  | cons_cons a _ ih => simp only [List.flatten_cons]; exact List.Sublist.append (List.Sublist.refl _) ih

theorem nodup_paste {os nos : List (List Nat)} {off : Nat} (h1 : os.flatten.Nodup) (h2 : nos.flatten.Nodup) (h3 : ∀ b ∈ nos.flatten, b ∉ os.flatten) :
    (os.take off ++ nos ++ os.drop (off + nos.length)).flatten.Nodup ∧ ∀ b ∈ (os.take off ++ nos ++ os.drop (off + nos.length)).flatten, b ∈ os.flatten ∨ b ∈ nos.flatten := by
  have hsub : ∀ b ∈ (os.take off).flatten, b ∈ os.flatten := fun b hb => by
    rw [List.mem_flatten] at hb ⊢
    obtain ⟨l, hl, hb⟩ := hb
    exact ⟨l, List.mem_of_mem_take hl, hb⟩
  have hsub' : ∀ b ∈ (os.drop (off + nos.length)).flatten, b ∈ os.flatten := fun b hb => by
    rw [List.mem_flatten] at hb ⊢
    obtain ⟨l, hl, hb⟩ := hb
    exact ⟨l, List.mem_of_mem_drop hl, hb⟩
  have hsl : (os.take off ++ os.drop (off + nos.length)).Sublist os := by
    have e : os.take off ++ os.drop off = os := List.take_append_drop off os
    have : (os.drop (off + nos.length)).Sublist (os.drop off) := by rw [← List.drop_drop]; exact List.drop_sublist _ _
    have := List.Sublist.append (List.Sublist.refl (os.take off)) this
    rwa [e] at this
  have hn : ((os.take off).flatten ++ (os.drop (off + nos.length)).flatten).Nodup := by
    rw [← List.flatten_append]
    exact List.Nodup.sublist (flatten_sub hsl) h1
  refine ⟨?_, fun b hb => ?_⟩
  · simp only [List.flatten_append, List.append_assoc]
    rw [List.nodup_append] at hn ⊢
    refine ⟨hn.1, ?_, fun x hx y hy => ?_⟩
    · rw [List.nodup_append]
      exact ⟨h2, hn.2.1, fun x hx y hy e => h3 x hx (e ▸ hsub' y hy)⟩
    · rcases List.mem_append.1 hy with h4 | h4
      · exact fun e => h3 y h4 (e ▸ hsub x hx)
      · exact hn.2.2 x hx y h4
  · simp only [List.flatten_append, List.mem_append] at hb
    rcases hb with (hb | hb) | hb
    · exact .inl (hsub b hb)
    · exact .inr hb
    · exact .inl (hsub' b hb)

end Go.Vi
