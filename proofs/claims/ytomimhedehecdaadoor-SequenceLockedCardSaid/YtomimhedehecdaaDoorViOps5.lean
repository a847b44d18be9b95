/- Operations that make memory, and calls. -/
import Derived.Test.YtomimhedehecdaaDoorViOps4
namespace Go.Vi
variable {c : Ctx} {g : G} {st st' : St} {a : Act} {w : World} {hs : List Hv}

theorem nodup_set {os : List (List Nat)} {off : Nat} {o : List Nat} (h : os.flatten.Nodup) (ho : os[off]? = some o) :
    (os.set off []).flatten.Nodup ∧ (∀ b ∈ (os.set off []).flatten, b ∈ os.flatten) ∧ (∀ b ∈ o, b ∉ (os.set off []).flatten) ∧ o.Nodup ∧ ∀ b ∈ o, b ∈ os.flatten := by
  have hlt := (List.getElem?_eq_some_iff.1 ho).1
  have e : os = os.take off ++ o :: os.drop (off + 1) := by
    have h1 : os.take off ++ os.drop off = os := List.take_append_drop off os
    rw [List.drop_eq_getElem_cons hlt, (List.getElem?_eq_some_iff.1 ho).2] at h1
    exact h1.symm
  have e2 : os.set off [] = os.take off ++ [] :: os.drop (off + 1) := by
    rw [List.set_eq_take_append_cons_drop, if_pos hlt]
  have e3 : (os.set off []).flatten = (os.take off).flatten ++ (os.drop (off + 1)).flatten := by rw [e2]; simp
  have e4 : os.flatten = (os.take off).flatten ++ (o ++ (os.drop (off + 1)).flatten) := by
    conv => lhs; rw [e]
    simp
  rw [e4] at h
  rw [e3, e4]
  rw [List.nodup_append] at h
  obtain ⟨h1, h2, h3⟩ := h
  rw [List.nodup_append] at h2
  obtain ⟨h4, h5, h6⟩ := h2
  refine ⟨List.nodup_append.2 ⟨h1, h5, fun x hx y hy => h3 x hx y (List.mem_append_right _ hy)⟩, fun b hb => ?_, fun b hb hb' => ?_, h4, fun b hb => ?_⟩
  · rcases List.mem_append.1 hb with h7 | h7
    · exact List.mem_append_left _ h7
    · exact List.mem_append_right _ (List.mem_append_right _ h7)
  · rcases List.mem_append.1 hb' with h7 | h7
    · exact h3 b h7 b (List.mem_append_left _ hb) rfl
    · exact h6 b hb b h7 rfl
  · exact List.mem_append_right _ (List.mem_append_left _ hb)

theorem snd_take {o : Oper} {root : Root} {t : TypeId} {p : A} {X : Operand} {v : V} {call : FuncId → List V → Option V} (h : FInv c g st a w) (ho : o.op = .load t X) (hx : opndOK c.gl p X = true) (pp : plainA p = true)
    (hu : (c.P.underlying t).isSome = true) (hz : (c.P.info? t).map (·.size) = some 1) (ha : aggT c.P t = false)
    (hv : exec call (.take root p) st = some (v, st')) : Out c o a w st' v := by
  simp only [exec] at hv
  obtain ⟨o', hr⟩ := opndRaw h hx pp
  split at hv
  · rename_i d d' off e
    split at hv
    · rename_i hd
      subst hd
      split at hv
      · rename_i cs hb
        simp only [Option.map_eq_some_iff] at hv
        obtain ⟨x, hx', hv⟩ := hv
        cases hv
        rw [e] at hr
        have hX := hr.2
        obtain ⟨C, e0, os, e1, e2, e3, e4, e5, e6⟩ := h.bxf d cs hb
        have hlt := (List.getElem?_eq_some_iff.1 hx').1
        have hoo : os[off]? = some (os[off]'(by omega)) := List.getElem?_eq_getElem (by omega)
        generalize os[off]'(by omega) = ox at hoo
        have hCC : C[off]? = some (C[off]'(by omega)) := Array.getElem?_eq_getElem (by omega)
        have hBnd : (g.β d :: os.flatten).Nodup := e5 ▸ h.nB d
        obtain ⟨n1, n2, n3, n4, n5⟩ := nodup_set (List.nodup_cons.1 hBnd).2 hoo
        have hsub : ∀ b ∈ g.β d :: (os.set off []).flatten, b ∈ g.OB d := fun b hb => by
          rw [e5]
          rcases List.mem_cons.1 hb with h1 | h1
          · exact h1 ▸ List.mem_cons_self
          · exact List.mem_cons_of_mem _ (n2 b h1)
        have hnew := h.rebx d (put st.bx d (false, cs.set off .undef)) (g.β d) (g.β d :: (os.set off []).flatten) (fun d' hd' => by rw [get_put, if_neg hd'])
          (fun cs' hcs => by
            rw [get_put, if_pos rfl] at hcs
            cases hcs
            refine ⟨C, e0, os.set off [], e1, by simpa using e2, by simpa using e3, fun j y u ob hy hu ho => ?_, rfl, e6⟩
            rw [List.getElem?_set] at hy ho
            by_cases hj : off = j
            · rw [if_pos hj, if_pos (by omega)] at hy
              rw [if_pos hj, if_pos (by omega)] at ho
              cases hy; cases ho
              exact .undef _
            · rw [if_neg hj] at hy ho
              exact e4 j y u ob hy hu ho)
          (fun cs' hcs => by rw [get_put, if_pos rfl] at hcs; cases hcs) (fun hcs => by rw [get_put, if_pos rfl] at hcs; cases hcs) (.inl rfl)
          (List.nodup_cons.2 ⟨fun hm => (List.nodup_cons.1 hBnd).1 (n2 _ hm), n1⟩) (fun b hb => h.fB d b (hsub b hb)) (fun b hb t hm => h.dOB t d b hm (hsub b hb))
          (fun b hb d' hd' hm => h.dBB d d' (fun e => hd' e.symm) b (hsub b hb) hm)
        have hxo : ∀ b ∈ ox, b ∈ g.OB d := fun b hb => by rw [e5]; exact List.mem_cons_of_mem _ (n5 b hb)
        have hrun := run_loadVar (w := w) (P := c.P) (b := g.β d) (q := off) (sz := 1) (f := fun j => C.getD (off + j) Go.undef) hu hz (fun _ => rfl) (fun j hj => by
          have : j = 0 := by omega
          subst this
          simp [World.cell?, e1, Array.getD, show off < C.size by omega])
        rw [ha] at hrun
        refine .inl ⟨C.getD off Go.undef, w, by simp [execOp, ho, Instr.loadAt, Instr.sureAddr, hX, hrun], _, ox, ⟨hnew, fun e' he => ?_, by simpa using n4, fun b hb => ?_⟩⟩
        · simp only [List.mem_singleton] at he
          subst he
          refine .of_rel ?_
          have := e4 off v _ ox hx' hCC hoo
          simpa [Array.getD, show off < C.size by omega] using this
        · simp only [List.flatMap_cons, List.flatMap_nil, List.append_nil] at hb
          refine ⟨h.fB d b (hxo b hb), fun t hm => h.dOB t d b hm (hxo b hb), fun d' => ?_⟩
          simp only
          by_cases hd' : d' = d
          · rw [if_pos hd']
            intro hm
            rcases List.mem_cons.1 hm with h1 | h1
            · subst h1; exact (List.nodup_cons.1 hBnd).1 (n5 _ hb)
            · exact n3 b hb h1
          · rw [if_neg hd']
            exact fun hm => h.dBB d d' (fun e => hd' e.symm) b (hxo b hb) hm
      · cases hv
    · cases hv
  · cases hv

theorem foldl_cells (off : Nat) : ∀ (vs : List Value) (k : Nat) (C : Array Value),
    ((vs.zipIdx k).foldl (fun cs x => cs.setIfInBounds (off + x.2) x.1) C).size = C.size ∧ (off + k + vs.length ≤ C.size → ∀ i, ((vs.zipIdx k).foldl (fun cs x => cs.setIfInBounds (off + x.2) x.1) C)[i]? = if off + k ≤ i ∧ i < off + k + vs.length then vs[i - (off + k)]? else C[i]?)
  | [], k, C => ⟨rfl, fun _ i => by rw [if_neg (by simp only [List.length_nil]; omega)]; rfl⟩
  | v :: vs, k, C => by
    obtain ⟨h1, h2⟩ := foldl_cells off vs (k + 1) (C.setIfInBounds (off + k) v)
    simp only [List.zipIdx_cons, List.foldl_cons]
    refine ⟨by simpa using h1, fun hle i => ?_⟩
    simp only [List.length_cons] at hle
    rw [h2 (by simp; omega) i]
    by_cases h3 : i = off + k
    · subst h3
      rw [if_neg (by omega), if_pos (by simp)]
      simp [show off + k < C.size by omega]
    · rw [Array.getElem?_setIfInBounds_ne (fun e => h3 e.symm)]
      by_cases h4 : off + (k + 1) ≤ i ∧ i < off + (k + 1) + vs.length
      · rw [if_pos h4, if_pos (by simp; omega), show i - (off + k) = (i - (off + (k + 1))) + 1 by omega, List.getElem?_cons_succ]
      · rw [if_neg h4, if_neg (by simp; omega)]

/-- Cells that say no more than themselves. -/
def CR (w : World) (S : Stab) (cs : List V) (C : Array Value) : Prop := cs.length = C.size ∧ ∀ (i : Nat) (y : V) (u : Value), cs[i]? = some y → C[i]? = some u → Rel w S y u []

theorem cr_paste {S : Stab} {cs : List V} {C : Array Value} (h : CR w S cs C) {x : V} {r : Value} (hr : Rel w S x r []) (hl : (flat x).all leaf = true) {off : Nat} (hfit : off + (flat x).length ≤ cs.length) :
    r.cells.size = (flat x).length ∧ off + r.cells.size ≤ C.size ∧ CR w S (paste cs off (flat x)) (r.cells.zipIdx.foldl (fun cs x => cs.setIfInBounds (off + x.2) x.1) C) := by
  obtain ⟨f1, f2, nos, f3, f4, f5⟩ := hr.flat hl
  have hnos : ∀ o ∈ nos, o = [] := List.flatten_eq_nil_iff.1 f3
  have hC := h.1
  have e : r.cells.zipIdx.foldl (fun cs x => cs.setIfInBounds (off + x.2) x.1) C = (r.cells.toList.zipIdx 0).foldl (fun cs x => cs.setIfInBounds (off + x.2) x.1) C := by
    rw [← Array.foldl_toList, Array.toList_zipIdx]
  obtain ⟨g1, g2⟩ := foldl_cells off r.cells.toList 0 C
  rw [e]
  refine ⟨f1.symm, by omega, by simp [g1, paste]; omega, fun i y u hy hu => ?_⟩
  have hle : off + 0 + r.cells.toList.length ≤ C.size := by simp; omega
  rw [g2 hle i] at hu
  unfold paste at hy
  rw [mem_paste hfit] at hy
  by_cases h1 : i < off
  · rw [if_pos h1] at hy
    rw [if_neg (by omega)] at hu
    exact h.2 i y u hy hu
  · rw [if_neg h1] at hy
    by_cases h2 : i < off + (flat x).length
    · rw [if_pos h2] at hy
      rw [if_pos (by simp; omega)] at hu
      simp only [Nat.add_zero] at hu
      have hoo : nos[i - off]? = some (nos[i - off]'(by omega)) := List.getElem?_eq_getElem (by omega)
      have := f5 (i - off) y u _ hy (by simpa using hu) hoo
      rwa [hnos _ (List.getElem_mem _)] at this
    · rw [if_neg h2] at hy
      rw [if_neg (by simp; omega)] at hu
      exact h.2 i y u hy hu

/-- What a part of a struct says, its ownership forgotten. -/
theorem part_copy {g' : G} {st1 : St} {v : V} {r : Value} {o : List Nat} (h : RelT w g' st1 a v r o) (hl : (flat (cp v)).all leaf = true) : Rel w g'.S (cp v) r [] := by
  have : Rel w g'.S v r o := by
    refine h.rel ⟨fun d f e => ?_, fun t i f e => ?_, fun t e => ?_⟩ <;> (subst e; simp [cp, Vi.flat, leaf] at hl)
  exact this.copy

theorem fill_ok {g' : G} {st1 : St} {place : Nat → Option (Nat × Nat)} : ∀ (ps : List (Nat × Nat × A)) (parts : List (Nat × Value)) (cs : List V) (C : Array Value) (cs' : List V), ps.length = parts.length →
    (∀ (k : Nat) (p : Nat × Nat × A) (q : Nat × Value), ps[k]? = some p → parts[k]? = some q → place q.1 = some (p.1, p.2.1) ∧ ∃ o, RelT w g' st1 a (st.val p.2.2) q.2 o) →
    CR w g'.S cs C → fill st cs ps = some cs' → ∃ C', Instr.fill place C parts = some C' ∧ CR w g'.S cs' C'
  | [], [], cs, C, cs', _, _, hcr, hf => by simp only [fill, Option.some.injEq] at hf; subst hf; exact ⟨C, rfl, hcr⟩
  | [], _ :: _, _, _, _, hl, _, _, _ => by simp at hl
  | _ :: _, [], _, _, _, hl, _, _, _ => by simp at hl
  | (off, sz, x) :: ps, (i, r) :: parts, cs, C, cs', hl, hrel, hcr, hf => by
    simp only [fill] at hf
    split at hf
    · rename_i hc
      obtain ⟨hlen, hfit, hleaf⟩ := hc
      obtain ⟨hp, o, hr⟩ := hrel 0 _ _ rfl rfl
      obtain ⟨e1, e2, e3⟩ := cr_paste hcr (part_copy hr hleaf) hleaf (off := off) (by rw [hlen]; exact hfit)
      obtain ⟨C', h1, h2⟩ := fill_ok ps parts _ _ cs' (by simpa using hl) (fun k p q hp hq => hrel (k + 1) p q (by simpa using hp) (by simpa using hq)) e3 hf
      refine ⟨C', ?_, h2⟩
      simp only [Instr.fill]
      have hpl : place i = some (off, sz) := hp
      rw [hpl]
      simp only
      dsimp only at e1 e2 hlen
      rw [if_neg (by simp only [Bool.or_eq_true, decide_eq_true_eq]; omega)]
      exact h1
    · cases hf

/-- The parts of a build against the real ones. -/
def partsOK (gl : List (Nat × List V)) (place : Nat → Option (Nat × Nat)) : List (Nat × Nat × A) → List (Nat × Operand) → Bool
  | [], [] => true
  | (off, sz, x) :: ps, (i, X) :: qs => place i == some (off, sz) && opndOK gl x X && partsOK gl place ps qs
  | _, _ => false

theorem partsOK_spec {gl : List (Nat × List V)} {place : Nat → Option (Nat × Nat)} : ∀ {ps : List (Nat × Nat × A)} {qs : List (Nat × Operand)}, partsOK gl place ps qs = true → ps.length = qs.length ∧ opndsOK gl (ps.map (·.2.2)) (qs.map (·.2)) = true ∧
    ∀ (k : Nat) (p : Nat × Nat × A) (q : Nat × Operand), ps[k]? = some p → qs[k]? = some q → place q.1 = some (p.1, p.2.1)
  | [], [], _ => by simp [opndsOK]
  | [], _ :: _, h => by cases h
  | _ :: _, [], h => by cases h
  | (off, sz, x) :: ps, (i, X) :: qs, h => by
    simp only [partsOK, Bool.and_eq_true, beq_iff_eq] at h
    obtain ⟨h1, h2, h3⟩ := partsOK_spec h.2
    refine ⟨by simp [h1], by simp [opndsOK, h.1.2, h2], fun k p q hp hq => ?_⟩
    cases k with
    | zero => simp at hp hq; subst hp hq; exact h.1.1
    | succ k => exact h3 k p q (by simpa using hp) (by simpa using hq)

theorem held_parts {g' : G} {st1 : St} {xs : List A} {Xs : List Operand} {os : List (List Nat)} (h : Held c g' st1 a w ((xs.map st.val).zip ((Xs.map a.eval).zip os))) (h1 : xs.length = Xs.length) (h2 : os.length = xs.length) :
    ∀ (k : Nat) (x : A) (X : Operand), xs[k]? = some x → Xs[k]? = some X → ∃ o, RelT w g' st1 a (st.val x) (a.eval X) o := by
  intro k x X hx hX
  have hk := (List.getElem?_eq_some_iff.1 hx).1
  have ho : os[k]? = some (os[k]'(by omega)) := List.getElem?_eq_getElem (by omega)
  refine ⟨_, h.rel (st.val x, a.eval X, os[k]'(by omega)) (List.mem_of_getElem? (i := k) ?_)⟩
  simp [List.getElem?_zip_eq_some, hx, hX, ho]

theorem snd_build {o : Oper} {t : TypeId} {z : List V} {ps : List (Nat × Nat × A)} {Ps : Array (Nat × Operand)} {v : V} {call : FuncId → List V → Option V} {zv : Value} {place : Nat → Option (Nat × Nat)} (h : FInv c g st a w) (ho : o.op = .build t Ps)
    (hz : zsOK z zv.cells.toList = true)
    (hpl : ∀ parts, c.P.built t parts = Instr.fill place zv.cells parts) (hps : partsOK c.gl place ps Ps.toList = true) (hon : once (ps.map (·.2.2)) = true)
    (hv : exec call (.build z ps) st = some (v, st')) : Out c o a w st' v := by
  simp only [exec, Option.map_eq_some_iff] at hv
  obtain ⟨cs', hf, hv⟩ := hv
  cases hv
  obtain ⟨p1, p2, p3⟩ := partsOK_spec hps
  obtain ⟨g', os, hh, hl, -, -, -⟩ := Held.opnds _ _ st g [] (.nil h) p2 hon
  simp only [List.nil_append] at hh
  have hparts := held_parts hh (by simpa using p1) (by simpa using hl)
  have hz' := zsOK_rel w g'.S hz
  have hcr : CR w g'.S z zv.cells := ⟨by simpa using hz'.1, fun i y u hy hu => hz'.2.2.2 i y u hy (by simpa using hu)⟩
  obtain ⟨C', hfill, hcr'⟩ := fill_ok (place := place) ps (Ps.map fun (i, x) => (i, a.eval x)).toList z zv.cells cs' (by simpa using p1) (fun k p q hp hq => by
    simp only [Array.toList_map, List.getElem?_map, Option.map_eq_some_iff] at hq
    obtain ⟨q', hq', rfl⟩ := hq
    exact ⟨p3 k p q' hp hq', hparts k p.2.2 q'.2 (by simp [hp]) (by rw [List.getElem?_map, hq']; rfl)⟩) hcr hf
  have hrun := run_build (P := c.P) w t (Ps.map fun (i, x) => (i, a.eval x)) C' (by rw [hpl]; exact hfill)
  refine .inl ⟨_, w, by simp only [execOp, ho, Sem.run_bind, hrun]; rfl, g', [], ⟨hh.inv, fun e he => ?_, by simp, by simp⟩⟩
  simp only [List.mem_singleton] at he
  subst he
  exact .of_rel (.agg _ _ hcr'.1 hcr'.2)

end Go.Vi
