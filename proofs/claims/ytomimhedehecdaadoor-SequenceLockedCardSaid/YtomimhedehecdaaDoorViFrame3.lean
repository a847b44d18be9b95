/- What a slot holds is handed on; operands. -/
import Derived.Test.YtomimhedehecdaaDoorViFrame2
namespace Go.Vi
variable {c : Ctx} {g : G} {st : St} {a : Act} {w : World}

theorem put_self (a : Act) (d : Nat) : a.put (some d) (a.tmps.getD d Go.undef) = a := by
  unfold Act.put
  simp only
  congr 1
  by_cases h : d < a.tmps.size
  · apply Array.ext_getElem?
    intro i
    by_cases e : i = d
    · subst e; simp [Array.getD, h]
    · rw [Array.getElem?_setIfInBounds_ne (fun x => e x.symm)]
  · simp [Array.setIfInBounds, h]

theorem FInv.slot (h : FInv c g st a w) (d : Nat) (hd : d < c.nt) (v : V) (r : Value) (ov : List Nat)
    (hnew : RelT w { g with O := fun t => if t = d then ov else g.O t } { st with tm := put st.tm d v } (a.put (some d) r) v r ov)
    (hX : isX v = true → noref d st.tm = true)
    (hnd : ov.Nodup) (hfr : ∀ b ∈ ov, (c.B ≤ b ∨ b ∈ c.Mv) ∧ b < w.heap.size) (hO : ∀ b ∈ ov, ∀ t, t ≠ d → b ∉ g.O t) (hOB : ∀ b ∈ ov, ∀ d', b ∉ g.OB d') :
    FInv c { g with O := fun t => if t = d then ov else g.O t } { st with tm := put st.tm d v } (a.put (some d) r) w := by
  have hsz : d < a.tmps.size := by rw [h.size]; exact hd
  refine h.slot' d _ r ov (by simp [Act.put, Array.getD, hsz]) (fun t ht => by rw [get_put, if_neg ht]) (fun u hu => ?_) (fun hu => ?_) (fun t u ht hu hn hx => ?_) hnd hfr hO hOB
  · rw [get_put, if_pos rfl] at hu; cases hu; exact hnew
  · rw [get_put, if_pos rfl] at hu; cases hu
  · rw [get_put, if_pos rfl] at hx
    have := noref_names (hX hx) t u (get_mem hu)
    rw [this] at hn; cases hn

/-- Of a slot less is told, or it is held otherwise: the frame stays. -/
theorem FInv.relabel (h : FInv c g st a w) (d : Nat) (tm' : List (Nat × V)) (ov : List Nat)
    (hother : ∀ t, t ≠ d → get tm' t = get st.tm t)
    (hnew : ∀ v, get tm' d = some v → RelT w { g with O := fun t => if t = d then ov else g.O t } { st with tm := tm' } a v (a.tmps.getD d Go.undef) ov)
    (hnone : get tm' d = none → ov = [])
    (hX : isX ((get tm' d).getD .undef) = true → Xsame (st.at d) ((get tm' d).getD .undef))
    (hsub : ∀ b ∈ ov, b ∈ g.O d) (hnd : ov.Nodup) : FInv c { g with O := fun t => if t = d then ov else g.O t } { st with tm := tm' } a w := by
  have hp := put_self a d
  have := h.slot' d tm' (a.tmps.getD d Go.undef) ov (by rw [hp]) hother (by rw [hp]; exact hnew) hnone (fun _ _ _ _ _ hx => ⟨hX hx, rfl⟩) hnd
    (fun b hb => h.fO d b (hsub b hb)) (fun b hb t ht => h.dOO d t (fun e => ht e.symm) b (hsub b hb)) (fun b hb d' => h.dOB d d' b (hsub b hb))
  rwa [hp] at this

/-- A slot is emptied. -/
theorem FInv.empty (h : FInv c g st a w) (d : Nat) : FInv c { g with O := fun t => if t = d then [] else g.O t } { st with tm := put st.tm d .undef } a w :=
  h.relabel d _ [] (fun t ht => by rw [get_put, if_neg ht]) (fun v hv => by rw [get_put, if_pos rfl] at hv; cases hv; exact .undef _) (fun _ => rfl)
    (fun hx => by rw [get_put, if_pos rfl] at hx; cases hx) (by simp) (by simp)

theorem FInv.del (h : FInv c g st a w) (d : Nat) : FInv c { g with O := fun t => if t = d then [] else g.O t } { st with tm := del st.tm d } a w :=
  h.relabel d _ [] (fun t ht => by rw [get_del, if_neg ht]) (fun v hv => by rw [get_del, if_pos rfl] at hv; cases hv) (fun _ => rfl)
    (fun hx => by rw [get_del, if_pos rfl] at hx; cases hx) (by simp) (by simp)

theorem RelT.rel {v : V} {r : Value} {o : List Nat} (h : RelT w g st a v r o) (hv : (∀ d f, v ≠ .loc d f) ∧ (∀ t i f, v ≠ .el t i f) ∧ ∀ t, v ≠ .rf t) : Rel w g.S v r o := by
  cases v <;> first | exact h | skip
  · exact absurd rfl (hv.1 _ _)
  · exact absurd rfl (hv.2.1 _ _ _)
  · exact absurd rfl (hv.2.2 _)

/-- What a slot holds, of whatever form. -/
theorem FInv.at (h : FInv c g st a w) (t : Nat) : RelT w g st a (st.at t) (a.tmps.getD t Go.undef) (g.O t) := by
  unfold St.at
  cases hg : get st.tm t with
  | none => simp only [Option.getD_none, h.tmn t hg]; exact .undef _
  | some v => exact h.tm t v hg

/-- A copy of a slot. -/
theorem FInv.copy (h : FInv c g st a w) (t : Nat) : RelT w g st a (st.val (.t t)) (a.tmps.getD t Go.undef) [] := by
  have hv := h.at t
  simp only [St.val]
  by_cases hx : isX (st.at t) = true
  · have : cpa t (st.at t) = .rf t := by
      rcases isX_cases hx with ⟨sz, xs, e⟩ | ⟨es, e⟩ <;> rw [e] <;> rfl
    rw [this]
    exact ⟨rfl, fun _ => rfl⟩
  · have hc : cpa t (st.at t) = cp (st.at t) := by
      generalize st.at t = v at hx
      cases v with
      | sl o _ _ => cases o <;> first | rfl | exact absurd rfl hx
      | mp o _ => cases o <;> first | rfl | exact absurd rfl hx
      | _ => rfl
    rw [hc]
    generalize st.at t = v at hv
    cases v
    case loc d f => exact ⟨rfl, hv.2⟩
    case el s i f => exact ⟨rfl, hv.2⟩
    case rf s => exact ⟨rfl, hv.2⟩
    all_goals exact RelT.of_rel (Rel.copy hv)

/-- How much stays when a slot's slice or map is held otherwise. -/
theorem Rel.low {S : Stab} {x : V} {v : Value} {o : List Nat} (h : Rel w S x v o) (own : Own) :
    ∃ S' o', (∀ b k, S b k → S' b k) ∧ (∀ b k, S' b k → S b k ∨ (b ∈ o ∧ b < w.heap.size)) ∧ (∀ b ∈ o', b ∈ o) ∧ (o.Nodup → o'.Nodup) ∧ Rel w S' (Vi.low own x) v o' := by
  have triv : Vi.low own x = x → ∃ S' o', (∀ b k, S b k → S' b k) ∧ (∀ b k, S' b k → S b k ∨ (b ∈ o ∧ b < w.heap.size)) ∧ (∀ b ∈ o', b ∈ o) ∧ (o.Nodup → o'.Nodup) ∧ Rel w S' (Vi.low own x) v o' :=
    fun e => ⟨S, o, fun _ _ h => h, fun _ _ h => .inl h, fun _ h => h, id, by rw [e]; exact h⟩
  have hself := h
  cases h with
  | sl0 ow sz r =>
    refine ⟨S, [], fun _ _ h => h, fun _ _ h => .inl h, by simp, by simp, ?_⟩
    cases own <;> cases ow <;> exact .sl0 _ _ _
  | slo ow sz xs b off n cc f C e ho hn hx hb hsz hc hm hf hSS hN hr =>
    have hlt : b < w.heap.size := (Array.getElem?_eq_some_iff.1 hb).1
    have keepS : ∀ S' : Stab, (∀ b k, S b k → S' b k) → ∀ (i : Nat) (x : List V) (j : Nat) (y : V), xs[i]? = some x → x[j]? = some y → Rel w S' y (f i j) [] :=
      fun S' h1 i x j y h2 h3 => (hr i x j y h2 h3).keep0 (Keep.refl _ _) h1
    have hcell : ∀ i j, i < xs.length → j < sz → w.cell? ⟨b, off + (i * sz + j), none⟩ = some (f i j) := fun i j hi hj => by simp [World.cell?, hb, hf i j hi hj]
    cases own with
    | x => exact triv (by cases ow <;> rfl)
    | s =>
      refine ⟨fun b' k => S b' k ∨ (b' = b ∧ ∃ i j, i < xs.length ∧ j < sz ∧ k = off + (i * sz + j)), [], fun _ _ h => .inl h, ?_, by simp, by simp, ?_⟩
      · rintro b' k (h1 | ⟨rfl, _⟩)
        · exact .inl h1
        · exact .inr ⟨by simp, hlt⟩
      · have e : Vi.low .s (.sl ow sz xs) = .sl .s sz xs := by cases ow <;> rfl
        rw [e]
        exact .sls sz xs _ n cc f hn hc hx (fun _ => ⟨b, off, rfl, fun i j hi hj => ⟨.inr ⟨rfl, i, j, hi, hj, rfl⟩, hcell i j hi hj⟩⟩) (keepS _ fun _ _ h => .inl h)
    | a =>
      cases ow with
      | s => exact absurd rfl ho
      | a => exact triv rfl
      | x =>
        refine ⟨fun b' k => S b' k ∨ (b' = b ∧ ∃ i j, i < xs.length ∧ j < sz ∧ k = off + (i * sz + j)), [b], fun _ _ h => .inl h, ?_, fun _ h => h, fun h => h, ?_⟩
        · rintro b' k (h1 | ⟨rfl, _⟩)
          · exact .inl h1
          · exact .inr ⟨by simp, hlt⟩
        · refine .slo .a sz xs b off n cc f C e (by simp) hn hx hb hsz hc hm hf (fun _ i j hi hj => .inr ⟨rfl, i, j, hi, hj, rfl⟩) ?_ (keepS _ fun _ _ h => .inl h)
          rintro k (h | h)
          · cases h
          · rintro (h1 | ⟨_, i, j, hi, hj, rfl⟩)
            · exact hN k (.inl rfl) h1
            · have h3 : i * sz + j < xs.length * sz := by
                have : (i + 1) * sz ≤ xs.length * sz := Nat.mul_le_mul_right _ hi
                rw [Nat.add_mul] at this; omega
              omega
  | mpx es es0 hp r ents clock hb hl hbn hN hk hv =>
    have hlt : r < w.heap.size := (Array.getElem?_eq_some_iff.1 hb).1
    cases own with
    | x => exact triv rfl
    | a => exact triv rfl
    | s =>
      refine ⟨fun b' k => S b' k ∨ (b' = r ∧ k = 0), [], fun _ _ h => .inl h, ?_, by simp, by simp, ?_⟩
      · rintro b' k (h1 | ⟨rfl, _⟩)
        · exact .inl h1
        · exact .inr ⟨by simp, hlt⟩
      · exact .mps es es0 hp r ents clock hb hl hbn (.inr ⟨rfl, rfl⟩) (fun i kv e h1 h2 => (hk i kv e h1 h2).keep0 (Keep.refl _ _) fun _ _ h => .inl h)
          fun i kv e h1 h2 => (hv i kv e h1 h2).keep0 (Keep.refl _ _) fun _ _ h => .inl h
  | sls sz xs r n cc f hn hnc hx ha hr => exact triv (by cases own <;> rfl)
  | mps es es0 hp r ents clock hb hl hbn hS hk hv => exact triv (by cases own <;> rfl)
  | undef _ => exact triv (by cases own <;> rfl)
  | skp => exact triv (by cases own <;> rfl)
  | bool _ => exact triv (by cases own <;> rfl)
  | int _ _ => exact triv (by cases own <;> rfl)
  | str _ => exact triv (by cases own <;> rfl)
  | nili => exact triv (by cases own <;> rfl)
  | nilp => exact triv (by cases own <;> rfl)
  | nilf => exact triv (by cases own <;> rfl)
  | it => exact triv (by cases own <;> rfl)
  | abool => exact triv (by cases own <;> rfl)
  | agg _ _ _ _ => exact triv (by cases own <;> rfl)
  | tup _ _ _ _ _ _ => exact triv (by cases own <;> rfl)
  | ptr _ _ _ _ _ _ _ => exact triv (by cases own <;> rfl)
  | fn _ _ _ _ _ _ _ _ _ => exact triv (by cases own <;> rfl)

end Go.Vi
