/- Rows: made, written out, appended to. -/
import Derived.Test.YtomimhedehecdaaDoorViGOpsA
import Derived.Great.BuildSlice
import Derived.Laws.MakeOwn
namespace Go.Vi
variable {c : Ctx} {g : G} {st st' : St} {a : Act} {w : World} {hs : List Hv}

/-- A row that is new, or whose free end is written. -/
theorem FInv.row (h : FInv c g st a w) (o : Own) (ho : o ≠ .s) (sz : Nat) (xs : List (List V)) (b off cap : Nat) (w' : World) (C : Array Value) (e : TypeId)
    (hb : w'.heap[b]? = some (.cells C e (0, 0))) (hother : ∀ b', b' ≠ b → w'.heap[b']? = w.heap[b']?) (hos : w'.os = w.os) (htape : w'.tape = w.tape) (hout : w'.output = w.output) (hsize : w.heap.size ≤ w'.heap.size)
    (hfr : c.B ≤ b ∨ b ∈ c.Mv) (hO : ∀ t, b ∉ g.O t) (hOB : ∀ d, b ∉ g.OB d)
    (hst : ∀ k, g.S b k → (o = .a ∧ k < off + xs.length * sz ∧ w'.cell? ⟨b, k, none⟩ = w.cell? ⟨b, k, none⟩ ∧ ∀ es c, w.heap[b]? ≠ some (.map es c)))
    (hx : ∀ (i : Nat) (x : List V), xs[i]? = some x → x.length = sz) (hsz : off + cap * sz ≤ C.size) (hc : xs.length ≤ cap) (hm : cap ≤ 9223372036854775807)
    (hr : ∀ (i : Nat) (x : List V) (j : Nat) (y : V), xs[i]? = some x → x[j]? = some y → Rel w g.S y (C.getD (off + (i * sz + j)) Go.undef) []) :
    ∃ g', Held c g' st a w' [(.sl o sz xs, .slice (some ⟨b, off, none⟩) xs.length cap, [b])] := by
  have hkeep : Keep g.S w w' := fun b' k hs => by
    by_cases hbb : b' = b
    · subst hbb
      obtain ⟨-, -, h3, h4⟩ := hst k hs
      exact ⟨h3, fun es c he => absurd he (h4 es c)⟩
    · exact ⟨cell_of_heap (hother b' hbb) k, fun _ _ he => (hother b' hbb).trans he⟩
  have hlt : b < w'.heap.size := (Array.getElem?_eq_some_iff.1 hb).1
  have hu : Upd c.B c.Mv w w' := ⟨hos, htape, hout, hsize, fun b' h1 h2 => hother b' (fun e => by
    subst e
    rcases hfr with h3 | h3
    · omega
    · exact h2 h3)⟩
  let S' : Stab := fun b' k => g.S b' k ∨ (o = .a ∧ b' = b ∧ off ≤ k ∧ k < off + xs.length * sz)
  have hinv := h.world w' S' hkeep (fun _ _ h => .inl h) (fun t b' hb' => ⟨hother b' (fun e => hO t (e ▸ hb')), fun k hs => hs.resolve_right fun h2 => hO t (h2.2.1 ▸ hb')⟩)
    (fun d b' hb' => ⟨hother b' (fun e => hOB d (e ▸ hb')), fun k hs => hs.resolve_right fun h2 => hOB d (h2.2.1 ▸ hb')⟩) hu
    (fun b' k hs => by
      rcases hs with h1 | h1
      · exact .inl h1
      · exact .inr (h1.2.1 ▸ hfr)) (fun b' k hs => by
      rcases hs with h1 | h1
      · exact Nat.lt_of_lt_of_le (h.lt b' k h1) hsize
      · exact h1.2.1 ▸ hlt)
  refine ⟨_, hinv, fun e' he => ?_, by simp, fun b' hb' => ?_⟩
  · simp only [List.mem_singleton] at he
    subst he
    refine .of_rel ?_
    have hin : ∀ i j, i < xs.length → j < sz → i * sz + j < xs.length * sz := fun i j hi hj => by
      have : (i + 1) * sz ≤ xs.length * sz := Nat.mul_le_mul_right _ hi
      rw [Nat.add_mul, Nat.one_mul] at this
      omega
    have hcapsz : xs.length * sz ≤ cap * sz := Nat.mul_le_mul_right _ hc
    refine .slo o sz xs b off _ cap (fun i j => C.getD (off + (i * sz + j)) Go.undef) C e ho rfl hx hb hsz hc hm (fun i j hi hj => ?_) (fun h i j hi hj => .inr ⟨h, rfl, Nat.le_add_right _ _, by have := hin i j hi hj; omega⟩)
      (fun k hk hs => ?_) (fun i x j y h1 h2 => (hr i x j y h1 h2).keep0 hkeep (fun _ _ h => .inl h))
    · have := hin i j hi hj
      simp [Array.getD, show off + (i * sz + j) < C.size by omega]
    · rcases hs with h1 | ⟨h1, h2, h3, h4⟩
      · obtain ⟨h5, h6, -⟩ := hst k h1
        rcases hk with h7 | h7
        · rw [h5] at h7; cases h7
        · omega
      · rcases hk with h7 | h7
        · rw [h1] at h7; cases h7
        · omega
  · simp only [List.flatMap_cons, List.flatMap_nil, List.append_nil, List.mem_singleton] at hb'
    subst hb'
    exact ⟨⟨hfr, hlt⟩, hO, hOB⟩

/-- A new row. -/
theorem FInv.newRow (h : FInv c g st a w) (o : Own) (ho : o ≠ .s) (sz : Nat) (xs : List (List V)) (cap : Nat) (C : Array Value) (e : TypeId)
    (hx : ∀ (i : Nat) (x : List V), xs[i]? = some x → x.length = sz) (hsz : cap * sz ≤ C.size) (hc : xs.length ≤ cap) (hm : cap ≤ 9223372036854775807)
    (hr : ∀ (i : Nat) (x : List V) (j : Nat) (y : V), xs[i]? = some x → x[j]? = some y → Rel w g.S y (C.getD (i * sz + j) Go.undef) []) :
    ∃ g', Held c g' st a (w.alloc (.cells C e)) [(.sl o sz xs, .slice (some ⟨w.heap.size, 0, none⟩) xs.length cap, [w.heap.size])] := by
  refine h.row o ho sz xs w.heap.size 0 cap (w.alloc (.cells C e)) C e (heap_alloc_new w _) (fun b hb => ?_) rfl rfl rfl (by simp) (.inl h.hB) (fun t hm => Nat.lt_irrefl _ (h.fO t _ hm).2) (fun d hm => Nat.lt_irrefl _ (h.fB d _ hm).2)
    (fun k hs => absurd (h.lt _ _ hs) (Nat.lt_irrefl _)) hx (by simpa using hsz) hc hm (by simpa using hr)
  by_cases hb' : b < w.heap.size
  · exact heap_alloc_old w _ b hb'
  · have h3 : (w.alloc (.cells C e)).heap.size ≤ b := by simp; omega
    rw [Array.getElem?_eq_none h3, Array.getElem?_eq_none (by omega)]

theorem made_get (z : Array Value) (n k : Nat) (hk : k < n) : (madeCells z n).getD k Go.undef = z[k % z.size]! := by
  simp [madeCells, Array.getD, hk]

/-- The rows of zeros. -/
theorem made_rel {S : Stab} {z : List V} {zv : Value} {sz n cap : Nat} (hz : zsOK z zv.cells.toList = true) (hl : z.length = sz) (hn : n ≤ cap) :
    (∀ (i : Nat) (x : List V), (List.replicate n z)[i]? = some x → x.length = sz) ∧
    ∀ (i : Nat) (x : List V) (j : Nat) (y : V), (List.replicate n z)[i]? = some x → x[j]? = some y → Rel w S y ((madeCells zv.cells (cap * sz)).getD (i * sz + j) Go.undef) [] := by
  have hz' := zsOK_rel w S hz
  have hsz : zv.cells.size = sz := by simpa [hl] using hz'.1.symm
  refine ⟨fun i x hx => ?_, fun i x j y hx hy => ?_⟩
  · rw [List.getElem?_replicate] at hx
    split at hx
    · cases hx; exact hl
    · cases hx
  · rw [List.getElem?_replicate] at hx
    split at hx
    · rename_i hi
      cases hx
      have hj : j < sz := by rw [← hl]; exact (List.getElem?_eq_some_iff.1 hy).1
      have h1 : (i + 1) * sz ≤ cap * sz := Nat.mul_le_mul_right _ (by omega)
      rw [Nat.add_mul, Nat.one_mul] at h1
      rw [made_get _ _ _ (by omega), hsz, Nat.mul_comm, Nat.mul_add_mod, Nat.mod_eq_of_lt hj]
      have hjs : j < zv.cells.size := by omega
      refine hz'.2.2.2 j y _ hy ?_
      simp [hjs]
    · cases hx

theorem snd_mksl {o : Oper} {sz bytes : Nat} {z : List V} {n : A} {t e : TypeId} {N N' : Operand} {v : V} {call : FuncId → List V → Option V} {it : TypeInfo} {zv : Value} (h : FInv c g st a w) (ho : o.op = .makeSlice t N N') (hN : opndOK c.gl n N = true) (hN' : opndOK c.gl n N' = true) (pn : plainA n = true)
    (hu : c.P.underlying t = some (.slice e)) (hit : c.P.info? e = some it) (hsz : it.size = sz) (hby : it.bytes = bytes) (hzv : it.zero = some zv) (hz : zsOK z zv.cells.toList = true)
    (hv : exec call (.mksl sz bytes z n) st = some (v, st')) : Out c o a w st' v := by
  simp only [exec] at hv
  split at hv
  · rename_i k m e1
    split at hv
    · rename_i hc
      obtain ⟨h0, h63, hlen, hroom⟩ := hc
      cases hv
      simp only [room, Bool.and_eq_true, decide_eq_true_eq] at hroom
      have hby' : (it.bytes : Int) * m ≤ 281474976710656 := by
        have h1 : ((m.toNat * bytes : Nat) : Int) ≤ 140737488355328 := by omega
        rw [Int.natCast_mul, Int.toNat_of_nonneg h0] at h1
        rw [hby, Int.mul_comm]; omega
      have hrun := run_make (P := c.P) w t e it zv hu hit hzv k k m m h0 (Int.le_refl _) hby' h63
      have e2 := opnd_int h hN pn e1
      have e3 := opnd_int h hN' pn e1
      obtain ⟨m1, m2⟩ := made_rel (w := w) (S := g.S) (n := m.toNat) (cap := m.toNat) hz hlen (Nat.le_refl _)
      obtain ⟨g', hh⟩ := h.newRow .x (by simp) sz (List.replicate m.toNat z) m.toNat (madeCells zv.cells (m.toNat * it.size)) e m1 (by simp [size_madeCells, hsz]) (by simp) (by omega) (by rw [hsz]; exact m2)
      rw [List.length_replicate] at hh
      exact .inl ⟨_, _, by simp [execOp, ho, e2, e3, hrun], g', _, hh⟩
    · cases hv
  · cases hv

/-- Rows laid end to end. -/
theorem flatten_get {α : Type} {sz : Nat} : ∀ {xs : List (List α)} (_ : ∀ (i : Nat) (x : List α), xs[i]? = some x → x.length = sz) (i j : Nat), j < sz → xs.flatten[i * sz + j]? = (xs[i]?).bind fun x => x[j]?
  | [], _, i, j, _ => by simp
  | x :: xs, h, 0, j, hj => by
    have hx := h 0 x rfl
    simp only [List.flatten_cons, Nat.zero_mul, Nat.zero_add, List.getElem?_cons_zero, Option.bind_some]
    rw [List.getElem?_append_left (by omega)]
  | x :: xs, h, i + 1, j, hj => by
    have hx := h 0 x rfl
    simp only [List.flatten_cons, List.getElem?_cons_succ]
    rw [List.getElem?_append_right (by rw [hx, Nat.add_mul]; omega), hx, show (i + 1) * sz + j - sz = i * sz + j by rw [Nat.add_mul]; omega]
    exact flatten_get (fun k y hy => h (k + 1) y (by simpa using hy)) i j hj

theorem flatten_len {α : Type} {sz : Nat} : ∀ {xs : List (List α)} (_ : ∀ (i : Nat) (x : List α), xs[i]? = some x → x.length = sz), xs.flatten.length = xs.length * sz
  | [], _ => by simp
  | x :: xs, h => by
    have hx := h 0 x rfl
    simp [flatten_len (xs := xs) (sz := sz) (fun k y hy => h (k + 1) y (by simpa using hy)), hx, Nat.add_mul]
    omega

theorem flatten_set {α : Type} {sz : Nat} : ∀ {xs : List (List α)} (_ : ∀ (i : Nat) (x : List α), xs[i]? = some x → x.length = sz) (i : Nat) (new : List α), i < xs.length → new.length = sz → (xs.set i new).flatten = xs.flatten.take (i * sz) ++ new ++ xs.flatten.drop (i * sz + new.length)
  | [], _, _, _, hi, _ => by simp at hi
  | x :: xs, h, 0, new, _, hn => by
    have hx := h 0 x rfl
    simp [hn, ← hx]
  | x :: xs, h, i + 1, new, hi, hn => by
    have hx := h 0 x rfl
    have ih := flatten_set (xs := xs) (sz := sz) (fun k y hy => h (k + 1) y (by simpa using hy)) i new (by simpa using hi) hn
    simp only [List.set_cons_succ, List.flatten_cons, ih]
    rw [show (i + 1) * sz = x.length + i * sz by rw [hx, Nat.add_mul]; omega]
    simp [List.take_append, List.drop_append, Nat.add_assoc]
    rw [List.take_of_length_le (l := x) (by omega), List.drop_eq_nil_of_le (as := x) (by omega)]
    rfl

def rowsOK (gl : List (Nat × List V)) : List (Nat × A) → List (Nat × Operand) → Bool
  | [], [] => true
  | (i, x) :: ps, (j, X) :: qs => i == j && opndOK gl x X && rowsOK gl ps qs
  | _, _ => false

theorem rowsOK_spec {gl : List (Nat × List V)} : ∀ {ps : List (Nat × A)} {qs : List (Nat × Operand)}, rowsOK gl ps qs = true → ps.length = qs.length ∧ opndsOK gl (ps.map (·.2)) (qs.map (·.2)) = true ∧
    ∀ (k : Nat) (p : Nat × A) (q : Nat × Operand), ps[k]? = some p → qs[k]? = some q → q.1 = p.1
  | [], [], _ => by simp [opndsOK]
  | [], _ :: _, h => by cases h
  | _ :: _, [], h => by cases h
  | (i, x) :: ps, (j, X) :: qs, h => by
    simp only [rowsOK, Bool.and_eq_true, beq_iff_eq] at h
    obtain ⟨h1, h2, h3⟩ := rowsOK_spec h.2
    refine ⟨by simp [h1], by simp [opndsOK, h.1.2, h2], fun k p q hp hq => ?_⟩
    cases k with
    | zero => simp at hp hq; subst hp hq; exact h.1.1.symm
    | succ k => exact h3 k p q (by simpa using hp) (by simpa using hq)

theorem rows_ok {g' : G} {st1 : St} {sz : Nat} : ∀ (ps : List (Nat × A)) (parts : List (Nat × Value)) (xs : List (List V)) (C : Array Value) (xs' : List (List V)), ps.length = parts.length →
    (∀ (k : Nat) (p : Nat × A) (q : Nat × Value), ps[k]? = some p → parts[k]? = some q → q.1 = p.1 ∧ ∃ o, RelT w g' st1 a (st.val p.2) q.2 o) →
    (∀ (i : Nat) (x : List V), xs[i]? = some x → x.length = sz) → CR w g'.S xs.flatten C → rowsOf st sz xs ps = some xs' →
    ∃ C', Instr.fill (fun i => some (i * sz, sz)) C parts = some C' ∧ CR w g'.S xs'.flatten C' ∧ xs'.length = xs.length ∧ ∀ (i : Nat) (x : List V), xs'[i]? = some x → x.length = sz
  | [], [], xs, C, xs', _, _, hx, hcr, hf => by simp only [rowsOf, Option.some.injEq] at hf; subst hf; exact ⟨C, rfl, hcr, rfl, hx⟩
  | [], _ :: _, _, _, _, hl, _, _, _, _ => by simp at hl
  | _ :: _, [], _, _, _, hl, _, _, _, _ => by simp at hl
  | (i, x) :: ps, (j, r) :: parts, xs, C, xs', hl, hrel, hx, hcr, hf => by
    simp only [rowsOf] at hf
    split at hf
    · rename_i hc
      obtain ⟨hlen, hi, hleaf⟩ := hc
      obtain ⟨hp, o, hr⟩ := hrel 0 _ _ rfl rfl
      dsimp only at hp hr
      subst hp
      have hfl := flatten_len hx
      have h1 : (j + 1) * sz ≤ xs.length * sz := Nat.mul_le_mul_right _ hi
      rw [Nat.add_mul, Nat.one_mul] at h1
      obtain ⟨e1, e2, e3⟩ := cr_paste hcr (part_copy hr hleaf) hleaf (off := j * sz) (by rw [hfl, hlen]; exact h1)
      have e4 : paste xs.flatten (j * sz) (Vi.flat (cp (st.val x))) = (xs.set j (Vi.flat (cp (st.val x)))).flatten := (flatten_set hx j _ hi hlen).symm
      rw [e4] at e3
      obtain ⟨C', h2, h3, h4, h5⟩ := rows_ok ps parts _ _ xs' (by simpa using hl) (fun k p q hp hq => hrel (k + 1) p q (by simpa using hp) (by simpa using hq)) (fun k y hy => by
        rw [List.getElem?_set] at hy
        by_cases hjk : j = k
        · rw [if_pos hjk, if_pos hi] at hy
          cases hy; exact hlen
        · rw [if_neg hjk] at hy; exact hx k y hy) e3 hf
      refine ⟨C', ?_, h3, by simpa using h4, h5⟩
      simp only [Instr.fill]
      rw [if_neg (by simp only [Bool.or_eq_true, decide_eq_true_eq]; omega)]
      exact h2
    · cases hf

theorem run_lit {P : Program} (w : World) (t e : TypeId) (len : Nat) (parts : Array (Nat × Value)) (cells : Array Value) (ie : TypeInfo) (z : Value)
    (hu : P.underlying t = some (.slice e)) (hie : P.info? e = some ie) (hz : ie.zero = some z) (hsmall : ¬ len * ie.size > 2 ^ 24)
    (h : Instr.fill (fun i => some (i * ie.size, ie.size)) (madeCells z.cells (len * ie.size)) parts.toList = some cells) :
    (Instr.buildSlice t len parts).run P w = .ok (.slice (some ⟨w.heap.size, 0, none⟩) len len) (w.alloc (.cells cells e)) := by
  by_cases h0 : len * ie.size = 0
  · have e0 : madeCells z.cells (len * ie.size) = madeCells #[] 0 := by rw [h0]; simp [madeCells]
    rw [e0] at h
    simp only [madeCells] at h
    simp [Instr.buildSlice, run_underlying hu, sizeOf, typeInfo, hie, h0]
    simp at h
    simp [h, newRow]
  · exact run_buildSlice w t e len parts cells ie z hu hie hz hsmall h0 h

theorem snd_bsl {o : Oper} {sz n : Nat} {z : List V} {ps : List (Nat × A)} {t e : TypeId} {Ps : Array (Nat × Operand)} {v : V} {call : FuncId → List V → Option V} {it : TypeInfo} {zv : Value} (h : FInv c g st a w) (ho : o.op = .buildSlice t n Ps)
    (hu : c.P.underlying t = some (.slice e)) (hit : c.P.info? e = some it) (hsz : it.size = sz) (hzv : it.zero = some zv) (hz : zsOK z zv.cells.toList = true)
    (hps : rowsOK c.gl ps Ps.toList = true) (hon : once (ps.map (·.2)) = true)
    (hv : exec call (.bsl sz n z ps) st = some (v, st')) : Out c o a w st' v := by
  simp only [exec] at hv
  split at hv
  · rename_i hc
    obtain ⟨hzl, hsmall, hsmall2⟩ := hc
    simp only [Option.map_eq_some_iff] at hv
    obtain ⟨xs, hf, hv⟩ := hv
    cases hv
    obtain ⟨p1, p2, p3⟩ := rowsOK_spec hps
    obtain ⟨g', os, hh, hl, -, -, -⟩ := Held.opnds _ _ st g [] (.nil h) p2 hon
    simp only [List.nil_append] at hh
    have hparts := held_parts hh (by simpa using p1) (by simpa using hl)
    obtain ⟨m1, m2⟩ := made_rel (w := w) (S := g'.S) (n := n) (cap := n) hz hzl (Nat.le_refl _)
    have hcr : CR w g'.S (List.replicate n z).flatten (madeCells zv.cells (n * it.size)) := by
      rw [hsz]
      refine ⟨by rw [flatten_len m1, size_madeCells, List.length_replicate], fun k y u hy hu => ?_⟩
      have hk : k < n * sz := by
        have := (List.getElem?_eq_some_iff.1 hy).1
        rwa [flatten_len m1, List.length_replicate] at this
      have hs0 : 0 < sz := by
        rcases Nat.eq_zero_or_pos sz with h0 | h0
        · rw [h0] at hk; omega
        · exact h0
      have ek : k / sz * sz + k % sz = k := by rw [Nat.mul_comm]; exact Nat.div_add_mod k sz
      rw [← ek, flatten_get m1 _ _ (Nat.mod_lt _ hs0)] at hy
      obtain ⟨x, hx, hy⟩ := Option.bind_eq_some_iff.1 hy
      have := m2 _ _ _ _ hx hy
      rw [ek, Array.getD_eq_getD_getElem?, hu] at this
      exact this
    obtain ⟨C', hfill, hcr', hlen', hrow'⟩ := rows_ok (sz := sz) ps (Ps.map fun (i, x) => (i, a.eval x)).toList (List.replicate n z) _ xs (by simpa using p1) (fun k p q hp hq => by
      simp only [Array.toList_map, List.getElem?_map, Option.map_eq_some_iff] at hq
      obtain ⟨q', hq', rfl⟩ := hq
      exact ⟨p3 k p q' hp hq', hparts k p.2 q'.2 (by simp [hp]) (by rw [List.getElem?_map, hq']; rfl)⟩) m1 hcr hf
    rw [List.length_replicate] at hlen'
    have hrun := run_lit (P := c.P) w t e n (Ps.map fun (i, x) => (i, a.eval x)) C' it zv hu hit hzv (by rw [hsz]; omega) (by rw [hsz]; rw [hsz] at hfill; exact hfill)
    have hCs : C'.size = n * sz := by rw [← hcr'.1, flatten_len hrow', hlen']
    obtain ⟨g2, hh2⟩ := hh.inv.newRow .x (by simp) sz xs n C' e hrow' (by omega) (by omega) (by omega) (fun i x j y hx hy => by
      have hj : j < sz := by rw [← hrow' i x hx]; exact (List.getElem?_eq_some_iff.1 hy).1
      have hf2 := flatten_get hrow' i j hj
      rw [hx, Option.bind_some, hy] at hf2
      have hlt := (List.getElem?_eq_some_iff.1 hf2).1
      rw [hcr'.1] at hlt
      refine hcr'.2 _ _ _ hf2 ?_
      simp [hlt])
    rw [hlen'] at hh2
    exact .inl ⟨_, _, by simp only [execOp, ho, Sem.run_bind, hrun]; rfl, g2, _, hh2⟩
  · cases hv

/-- What a slice's first cells are. -/
theorem Rel.row {S : Stab} {o : Own} {sz : Nat} {xs : List (List V)} {r : Value} {ob : List Nat} (h : Rel w S (.sl o sz xs) r ob) : ∃ (ad : Option Addr) (cap : Nat) (news : List Value), r = .slice ad xs.length cap ∧ xs.length ≤ cap ∧ news.length = xs.length * sz ∧
    (∀ (i : Nat) (x : List V), xs[i]? = some x → x.length = sz) ∧ (∀ (i : Nat) (x : List V) (j : Nat) (y : V), xs[i]? = some x → x[j]? = some y → Rel w S y (news.getD (i * sz + j) Go.undef) []) ∧
    ∀ (P : Program) (w' : World), (∀ A, w'.cell? A = w.cell? A) → (Builtin.firstCells sz xs.length r).run P w' = .ok news.toArray w' := by
  have build : ∀ (f : Nat → Nat → Value), (∀ (i : Nat) (x : List V) (j : Nat) (y : V), xs[i]? = some x → x[j]? = some y → Rel w S y (f i j) []) → (∀ (i : Nat) (x : List V), xs[i]? = some x → x.length = sz) →
      ∃ news : List Value, news.length = xs.length * sz ∧ (∀ (i : Nat) (x : List V) (j : Nat) (y : V), xs[i]? = some x → x[j]? = some y → Rel w S y (news.getD (i * sz + j) Go.undef) []) ∧ ∀ k u, news[k]? = some u → k / sz < xs.length ∧ k % sz < sz ∧ k / sz * sz + k % sz = k ∧ u = f (k / sz) (k % sz) := by
    intro f hf hx
    refine ⟨(List.range (xs.length * sz)).map fun k => f (k / sz) (k % sz), by simp, fun i x j y h1 h2 => ?_, fun k u hu => ?_⟩
    · have hi := (List.getElem?_eq_some_iff.1 h1).1
      have hj : j < sz := by rw [← hx i x h1]; exact (List.getElem?_eq_some_iff.1 h2).1
      have h3 : (i + 1) * sz ≤ xs.length * sz := Nat.mul_le_mul_right _ hi
      rw [Nat.add_mul, Nat.one_mul] at h3
      have e1 : (i * sz + j) / sz = i := by rw [Nat.mul_comm, Nat.mul_add_div (by omega), Nat.div_eq_of_lt hj, Nat.add_zero]
      have e2 : (i * sz + j) % sz = j := by rw [Nat.mul_comm, Nat.mul_add_mod, Nat.mod_eq_of_lt hj]
      rw [List.getD_eq_getElem?_getD, List.getElem?_map, List.getElem?_range (by omega)]
      simp only [Option.map_some, Option.getD_some, e1, e2]
      exact hf i x j y h1 h2
    · rw [List.getElem?_map, Option.map_eq_some_iff] at hu
      obtain ⟨k', hk', rfl⟩ := hu
      obtain ⟨hlt, rfl⟩ := List.getElem?_eq_some_iff.1 hk'
      simp only [List.length_range] at hlt
      simp only [List.getElem_range]
      have h0 : 0 < sz := by
        rcases Nat.eq_zero_or_pos sz with h0 | h0
        · rw [h0] at hlt; omega
        · exact h0
      exact ⟨Nat.div_lt_of_lt_mul (by rwa [Nat.mul_comm]), Nat.mod_lt _ h0, by rw [Nat.mul_comm]; exact Nat.div_add_mod _ _, trivial⟩
  have none' : ∀ (P : Program) (w' : World) (n cap : Nat), (Builtin.firstCells sz n (.slice none 0 cap)).run P w' = .ok ([] : List Value).toArray w' := by
    intro P w' n cap; simp [Builtin.firstCells]
  have some' : ∀ (P : Program) (w' : World) (A : Addr) (cap : Nat), (Builtin.firstCells sz 0 (.slice (some A) 0 cap)).run P w' = .ok ([] : List Value).toArray w' := fun P w' A cap =>
    run_firstCells_some w' sz 0 A 0 cap [] (by simp) (by simp)
  generalize hv : V.sl o sz xs = v at h
  cases h with
  | sl0 o' sz' A =>
    cases hv
    refine ⟨A, 0, [], rfl, Nat.le_refl _, by simp, by simp, by simp, fun P w' _ => ?_⟩
    cases A with
    | none => exact none' P w' _ _
    | some A => exact some' P w' A _
  | sls sz' xs' ad n cap f hn hnc hx ha hr =>
    cases hv
    obtain ⟨news, n1, n2, n3⟩ := build f hr hx
    subst hn
    refine ⟨ad, cap, news, rfl, hnc, n1, hx, n2, fun P w' hw' => ?_⟩
    rcases Nat.eq_zero_or_pos xs.length with h0 | h0
    · have : news = [] := List.eq_nil_of_length_eq_zero (by rw [n1, h0, Nat.zero_mul])
      subst this
      rw [h0]
      cases ad with
      | none => exact none' P w' _ _
      | some A => exact some' P w' A _
    · obtain ⟨b, off, rfl, hc⟩ := ha h0
      refine run_firstCells_some w' sz _ _ _ _ news n1 fun j u hu => ?_
      obtain ⟨h1, h2, h3, h4⟩ := n3 j u hu
      have := (hc _ _ h1 h2).2
      rw [h3] at this
      rw [Addr.add_lit, hw', this, h4]
  | slo o' sz' xs' b off n cap f C e ho hn hx hb hsz hc hm hf hS hN hr =>
    cases hv
    obtain ⟨news, n1, n2, n3⟩ := build f hr hx
    subst hn
    refine ⟨_, cap, news, rfl, hc, n1, hx, n2, fun P w' hw' => run_firstCells_some w' sz _ _ _ _ news n1 fun j u hu => ?_⟩
    obtain ⟨h1, h2, h3, h4⟩ := n3 j u hu
    have := hf _ _ h1 h2
    rw [h3] at this
    rw [Addr.add_lit, hw']
    simp [World.cell?, hb, this, h4]
  | _ => cases hv

theorem run_app_room {P : Program} {t ty e : TypeId} {i : TypeInfo} (ht : P.underlying t = some (.slice e)) (hi : P.info? e = some i) {ad b : Option Addr} {n m cap cy : Nat} {news : List Value}
    (hf : (Builtin.firstCells i.size m (.slice b m cy)).run P w = .ok news.toArray w) (hroom : n + m ≤ cap) :
    (Builtin.append_ #[t, t] ty #[.slice ad n cap, .slice b m cy]).run P w = match ad with
      | none => .ok (.slice ad (n + m) cap) w
      | some A => ((storeCells (A.add (n * i.size)) news).run P w).andThen fun _ w => .ok (.slice ad (n + m) cap) w := by
  cases ad <;> simp [Builtin.append_, run_underlying ht, sizeOf, typeInfo, hi, Builtin.lenOf, hroom, hf]

theorem run_app_grow {P : Program} {t ty e : TypeId} {i : TypeInfo} {z : Value} (ht : P.underlying t = some (.slice e)) (hi : P.info? e = some i) (hz : i.zero = some z) {ad b : Option Addr} {n m cap cy : Nat} {olds news : Array Value}
    (hfo : (Builtin.firstCells i.size n (.slice ad n cap)).run P w.drew = .ok olds w.drew) (hf : (Builtin.firstCells i.size m (.slice b m cy)).run P w.drew = .ok news w.drew)
    (hg : cap < n + m) (h63 : ((n + m : Nat) : Int) ≤ 9223372036854775807) (hfit : Builtin.nextslicecap (n + m) cap * i.bytes ≤ 281474976710656) :
    (Builtin.append_ #[t, t] ty #[.slice ad n cap, .slice b m cy]).run P w =
      .ok (.slice (some ⟨w.heap.size, 0, none⟩) (n + m) (grownCap w (n + m) cap e))
        (w.drew.alloc (.cells (olds ++ news ++ Builtin.zeroCells z.cells (grownCap w (n + m) cap e - (n + m))) e)) := by
  have hn : ¬ (n + m ≤ cap) := by omega
  have h63' : ¬ (9223372036854775807 < ((n : Int) + (m : Int))) := by omega
  have h48' : ¬ (281474976710656 < Builtin.nextslicecap (n + m) cap * i.bytes) := by omega
  simp [Builtin.append_, run_underlying ht, sizeOf, typeInfo, zeroValue, hi, hz, Builtin.lenOf, hn, h63', h48', Question.forced, hf, hfo, newRow, grownCap]

/-- Rows one after another. -/
theorem rel_append {S : Stab} {sz : Nat} {xs ys : List (List V)} {olds news more : List Value} (ho : olds.length = xs.length * sz) (hx : ∀ (i : Nat) (x : List V), xs[i]? = some x → x.length = sz) (hy : ∀ (i : Nat) (x : List V), ys[i]? = some x → x.length = sz)
    (hxr : ∀ (i : Nat) (x : List V) (j : Nat) (y : V), xs[i]? = some x → x[j]? = some y → Rel w S y (olds.getD (i * sz + j) Go.undef) [])
    (hn : news.length = ys.length * sz) (hyr : ∀ (i : Nat) (x : List V) (j : Nat) (y : V), ys[i]? = some x → x[j]? = some y → Rel w S y (news.getD (i * sz + j) Go.undef) []) :
    (∀ (i : Nat) (x : List V), (xs ++ ys)[i]? = some x → x.length = sz) ∧ ∀ (i : Nat) (x : List V) (j : Nat) (y : V), (xs ++ ys)[i]? = some x → x[j]? = some y → Rel w S y ((olds ++ news ++ more).getD (i * sz + j) Go.undef) [] := by
  refine ⟨fun i x h => ?_, fun i x j y h1 h2 => ?_⟩
  · rw [List.getElem?_append] at h
    split at h
    · exact hx i x h
    · exact hy _ x h
  · rw [List.getElem?_append] at h1
    split at h1
    · rename_i hi
      have hj : j < sz := by rw [← hx i x h1]; exact (List.getElem?_eq_some_iff.1 h2).1
      have h3 : (i + 1) * sz ≤ xs.length * sz := Nat.mul_le_mul_right _ hi
      rw [Nat.add_mul, Nat.one_mul] at h3
      have := hxr i x j y h1 h2
      rw [List.append_assoc, List.getD_eq_getElem?_getD, List.getElem?_append_left (by omega), ← List.getD_eq_getElem?_getD]
      exact this
    · rename_i hi
      have hj : j < sz := by rw [← hy _ x h1]; exact (List.getElem?_eq_some_iff.1 h2).1
      have hil := (List.getElem?_eq_some_iff.1 h1).1
      have h3 : (i - xs.length + 1) * sz ≤ ys.length * sz := Nat.mul_le_mul_right _ hil
      rw [Nat.add_mul, Nat.one_mul] at h3
      have h4 : i * sz = xs.length * sz + (i - xs.length) * sz := by rw [← Nat.add_mul]; congr 1; omega
      have := hyr _ x j y h1 h2
      rw [List.append_assoc, List.getD_eq_getElem?_getD, List.getElem?_append_right (by omega), List.getElem?_append_left (by omega), ← List.getD_eq_getElem?_getD,
        show i * sz + j - olds.length = (i - xs.length) * sz + j by omega]
      exact this

theorem Rel.slo_inv {S : Stab} {o : Own} {sz : Nat} {xs : List (List V)} {r : Value} {ob : List Nat} (h : Rel w S (.sl o sz xs) r ob) (how : o ≠ .s) : (xs = [] ∧ ∃ ad, r = .slice ad 0 0) ∨
    ∃ (b off c : Nat) (f : Nat → Nat → Value) (C : Array Value) (e : TypeId), r = .slice (some ⟨b, off, none⟩) xs.length c ∧ ob = [b] ∧ (∀ (i : Nat) (x : List V), xs[i]? = some x → x.length = sz) ∧
      w.heap[b]? = some (.cells C e (0, 0)) ∧ off + c * sz ≤ C.size ∧ xs.length ≤ c ∧ (∀ i j, i < xs.length → j < sz → C[off + (i * sz + j)]? = some (f i j)) ∧ (∀ k, (o = .x ∨ off + xs.length * sz ≤ k) → ¬ S b k) ∧
      ∀ (i : Nat) (x : List V) (j : Nat) (y : V), xs[i]? = some x → x[j]? = some y → Rel w S y (f i j) [] := by
  generalize hv : V.sl o sz xs = v at h
  cases h with
  | sl0 o' sz' a => cases hv; exact .inl ⟨rfl, a, rfl⟩
  | slo o' sz' xs' b off n c f C e ho hn hx hb hsz hc hm hf hS hN hr => cases hv; subst hn; exact .inr ⟨b, off, c, f, C, e, rfl, rfl, hx, hb, hsz, hc, hf, hN, hr⟩
  | sls => cases hv; exact absurd rfl how
  | _ => cases hv

theorem news_one {S : Stab} {sz : Nat} {ys : List (List V)} {news : List Value} (hn : news.length = ys.length * sz) (hy : ∀ (i : Nat) (x : List V), ys[i]? = some x → x.length = sz) (hleaf : (ys.all fun y => y.all leaf) = true)
    (hyr : ∀ (i : Nat) (x : List V) (j : Nat) (y : V), ys[i]? = some x → x[j]? = some y → Rel w S y (news.getD (i * sz + j) Go.undef) []) : ∀ u ∈ news, u.oneCell' = true := by
  intro u hu
  obtain ⟨k, hk⟩ := List.mem_iff_getElem?.1 hu
  have hlt := (List.getElem?_eq_some_iff.1 hk).1
  have h0 : 0 < sz := by
    rcases Nat.eq_zero_or_pos sz with h0 | h0
    · rw [hn, h0] at hlt; omega
    · exact h0
  have h1 : k / sz < ys.length := Nat.div_lt_of_lt_mul (by rw [Nat.mul_comm, ← hn]; exact hlt)
  have h2 : k % sz < sz := Nat.mod_lt _ h0
  have h3 : k / sz * sz + k % sz = k := by rw [Nat.mul_comm]; exact Nat.div_add_mod _ _
  have h4 : ys[k / sz]? = some ys[k / sz] := List.getElem?_eq_getElem h1
  have h5 := hy _ _ h4
  have h6 : ys[k / sz][k % sz]? = some (ys[k / sz][k % sz]'(by omega)) := List.getElem?_eq_getElem (by omega)
  have h7 := hyr _ _ _ _ h4 h6
  rw [h3, List.getD_eq_getElem?_getD, hk] at h7
  simp only [List.all_eq_true] at hleaf
  exact (h7.one (hleaf _ (List.getElem_mem h1) _ (List.getElem_mem _))).1

theorem getD_toArray (l : List Value) (k : Nat) : l.toArray.getD k Go.undef = l.getD k Go.undef := by simp

/-- There is room behind a row: it is written there. -/
theorem Held.roomed {y : V} {ow : Own} {sz : Nat} {xs ys : List (List V)} {X Y : Value} {o1 o2 : List Nat} (h : Held c g st a w [(.sl ow sz xs, X, o1), (y, Y, o2)]) (how : ow ≠ .s) {ad1 : Option Addr} {cap1 : Nat} (hX : X = .slice ad1 xs.length cap1)
    {news : List Value} (hn : news.length = ys.length * sz) (hy : ∀ (i : Nat) (x : List V), ys[i]? = some x → x.length = sz) (hleaf : (ys.all fun y => y.all leaf) = true)
    (hyr : ∀ (i : Nat) (x : List V) (j : Nat) (y : V), ys[i]? = some x → x[j]? = some y → Rel w g.S y (news.getD (i * sz + j) Go.undef) []) (hroom : xs.length + ys.length ≤ cap1) :
    ∃ w', (match ad1 with
      | none => Result.ok (Value.slice ad1 (xs.length + ys.length) cap1) w
      | some A => ((storeCells (A.add (xs.length * sz)) news).run c.P w).andThen fun _ w => Result.ok (Value.slice ad1 (xs.length + ys.length) cap1) w) = .ok (.slice ad1 (xs.length + ys.length) cap1) w' ∧
      ∃ g' ov, Held c g' st a w' [(.sl ow sz (xs ++ ys), .slice ad1 (xs.length + ys.length) cap1, ov)] := by
  have r1 : Rel w g.S (.sl ow sz xs) X o1 := h.rel (_, _, _) List.mem_cons_self
  rw [hX] at r1
  have hcm : cap1 ≤ 9223372036854775807 := r1.slx_cap how
  rcases r1.slo_inv how with ⟨rfl, ad, he⟩ | ⟨b, off, cap, f, C, e, he, hob, hx, hb, hsz, hc, hf, hN, hr⟩
  · simp only [Value.slice.injEq] at he
    obtain ⟨rfl, -, rfl⟩ := he
    have h0 : ys = [] := List.eq_nil_of_length_eq_zero (by simpa using hroom)
    subst h0
    have h1 : news = [] := List.eq_nil_of_length_eq_zero (by simpa using hn)
    subst h1
    refine ⟨w, by cases ad1 <;> simp [storeCells, Result.andThen], g, [], ⟨h.inv, fun e he => ?_, by simp, by simp⟩⟩
    simp only [List.mem_singleton] at he
    subst he
    exact .of_rel (.sl0 _ _ _)
  · simp only [Value.slice.injEq] at he
    obtain ⟨rfl, -, rfl⟩ := he
    have hone := news_one hn hy hleaf hyr
    have hbm : b ∈ [(V.sl ow sz xs, X, o1), (y, Y, o2)].flatMap (·.2.2) := by rw [hob]; simp
    have hfrb := h.fr b hbm
    have h3 : (xs.length + ys.length) * sz ≤ cap1 * sz := Nat.mul_le_mul_right _ hroom
    rw [Nat.add_mul] at h3
    have hst := run_storeCells_at c.P b (off + xs.length * sz) e news 0 C w hb (by omega) hone
    simp only [Nat.add_zero] at hst
    refine ⟨_, by simp only [Addr.add_lit, hst, Result.andThen]; rfl, ?_⟩
    generalize hC' : (C.toList.take (off + xs.length * sz) ++ news ++ C.toList.drop (off + xs.length * sz + news.length)).toArray = C'
    have hget : ∀ k, k < C.size → C'.getD k Go.undef = (if k < off + xs.length * sz then C.getD k Go.undef else if k < off + xs.length * sz + news.length then news.getD (k - (off + xs.length * sz)) Go.undef else C.getD k Go.undef) := by
      intro k hk
      have hm := mem_paste (l := C.toList) (new := news) (off := off + xs.length * sz) (by simp; omega) (j := k)
      rw [← hC', Array.getD_eq_getD_getElem?, List.getElem?_toArray, hm]
      simp only [Array.getD_eq_getD_getElem?, List.getD_eq_getElem?_getD, Array.getElem?_toList]
      split
      · rfl
      · split <;> rfl
    have hCs : C'.size = C.size := by rw [← hC']; simp; omega
    have hg1 : ∀ (i j : Nat), i < xs.length → j < sz → Nat.lt (i * sz + j) (xs.length * sz) := fun i j hi hj => by
      have : (i + 1) * sz ≤ xs.length * sz := Nat.mul_le_mul_right _ hi
      rw [Nat.add_mul, Nat.one_mul] at this
      show i * sz + j < _
      omega
    obtain ⟨g2, hh2⟩ := h.inv.row ow how sz (xs ++ ys) b off cap1 (w.setRow b C') C' e (setRow_heap w b C _ e _ hb) (fun b' hb' => setRow_other w _ b' _ hb') rfl rfl rfl (by simp) hfrb.1.1 hfrb.2.1 hfrb.2.2
      (fun k hs => by
        have how : ow = .a := by
          cases ow with
          | s => exact absurd rfl how
          | a => rfl
          | x => exact absurd hs (hN k (.inl rfl))
        have hk : k < off + xs.length * sz := by
          rcases Nat.lt_or_ge k (off + xs.length * sz) with h5 | h5
          · exact h5
          · exact absurd hs (hN k (.inr h5))
        refine ⟨how, by rw [List.length_append, Nat.add_mul]; omega, ?_, fun es c he => by rw [hb] at he; cases he⟩
        have h7 := hget k (by omega)
        rw [if_pos hk] at h7
        have h8 : k < C'.size := by omega
        have h9 : k < C.size := by omega
        simp only [Array.getD, h8, h9, dif_pos] at h7
        simp only [World.cell?, setRow_heap w b C C' e _ hb, hb, Array.getElem?_eq_getElem h8, Array.getElem?_eq_getElem h9]
        simpa using h7)
      (fun i x hi => by
        rw [List.getElem?_append] at hi
        split at hi
        · exact hx i x hi
        · exact hy _ x hi)
      (by rw [hCs]; exact hsz) (by simpa using hroom) hcm (fun i x j u hi hj => by
        rw [List.getElem?_append] at hi
        split at hi
        · rename_i hlt
          have hjs : j < sz := by rw [← hx i x hi]; exact (List.getElem?_eq_some_iff.1 hj).1
          have h5 : i * sz + j < xs.length * sz := hg1 i j hlt hjs
          rw [hget _ (by omega), if_pos (by omega), Array.getD_eq_getD_getElem?, hf i j hlt hjs]
          exact hr i x j u hi hj
        · rename_i hlt
          have hjs : j < sz := by rw [← hy _ x hi]; exact (List.getElem?_eq_some_iff.1 hj).1
          have hil := (List.getElem?_eq_some_iff.1 hi).1
          have h5 : (i - xs.length + 1) * sz ≤ ys.length * sz := Nat.mul_le_mul_right _ hil
          rw [Nat.add_mul, Nat.one_mul] at h5
          have h6 : i * sz = xs.length * sz + (i - xs.length) * sz := by rw [← Nat.add_mul]; congr 1; omega
          rw [hget _ (by omega), if_neg (by omega), if_pos (by omega), show off + (i * sz + j) - (off + xs.length * sz) = (i - xs.length) * sz + j by omega]
          exact hyr _ x j u hi hj)
    rw [List.length_append] at hh2
    exact ⟨g2, _, hh2⟩

theorem snd_app {o : Oper} {sz bytes : Nat} {x y : A} {t e : TypeId} {X Y : Operand} {v : V} {call : FuncId → List V → Option V} {it : TypeInfo} {zv : Value} (h : FInv c g st a w) (ho : o.op = .call { callee := .builtin .append, args := #[X, Y], argTypes := #[t, t] })
    (hx : opndOK c.gl x X = true) (hy : opndOK c.gl y Y = true) (hon : once [x, y] = true)
    (hu : c.P.underlying t = some (.slice e)) (hit : c.P.info? e = some it) (hsz : it.size = sz) (hby : it.bytes = bytes) (hzv : it.zero = some zv) (hzs : zv.cells.size = sz)
    (hv : exec call (.app sz bytes x y) st = some (v, st')) : Out c o a w st' v := by
  simp only [exec] at hv
  split at hv
  · rename_i ow sz' xs ow' sz'' ys e1 e2
    split at hv
    · rename_i hc
      obtain ⟨hs1, hs2, how, hroom, hleaf⟩ := hc
      cases hv
      rw [hs1] at e1
      rw [hs2] at e2
      simp only [room, Bool.and_eq_true, decide_eq_true_eq] at hroom
      obtain ⟨g', os, hh, hl, -, -, -⟩ := Held.opnds [x, y] [X, Y] st g [] (.nil h) (by simp [opndsOK, hx, hy]) hon
      obtain ⟨o1, o2, rfl⟩ : ∃ o1 o2, os = [o1, o2] := by
        match os, hl with
        | [o1, o2], _ => exact ⟨o1, o2, rfl⟩
      simp only [List.nil_append, List.map_cons, List.map_nil, List.zip_cons_cons, List.zip_nil_right, e1, e2] at hh
      have r1 : Rel w g'.S (.sl ow sz xs) (a.eval X) o1 := hh.rel (_, _, _) List.mem_cons_self
      have r2 : Rel w g'.S (.sl ow' sz ys) (a.eval Y) o2 := hh.rel (_, _, _) (List.mem_cons_of_mem _ List.mem_cons_self)
      obtain ⟨ad2, cap2, news, k1, k2, k3, k4, k5, k6⟩ := r2.row
      obtain ⟨ad1, cap1, olds, j1, j2, j3, j4, j5, j6⟩ := r1.row
      have hrun : ∀ (rv : Value) (w' : World), (Builtin.append_ #[t, t] o.type #[a.eval X, a.eval Y]).run c.P w = .ok rv w' → (execOp a.eval o).run c.P w = .ok (.value rv) w' := by
        intro rv w' hr
        simp [execOp, ho, resolve, invoke, builtin, hr, Result.andThen]
      rw [j1, k1] at hrun
      rw [j1] at j6
      rw [k1] at k6
      by_cases hroom' : xs.length + ys.length ≤ cap1
      · have hr := run_app_room (P := c.P) (w := w) (ty := o.type) hu hit (ad := ad1) (b := ad2) (n := xs.length) (cy := cap2) (news := news) (by rw [hsz]; exact k6 c.P w fun _ => rfl) hroom'
        obtain ⟨w', hr', hh2⟩ := hh.roomed how j1 k3 k4 hleaf k5 hroom'
        rw [← hsz] at hr'
        exact .inl ⟨_, w', hrun _ _ (hr.trans hr'), hh2⟩
      · have hr := run_app_grow (P := c.P) (w := w) (ty := o.type) hu hit hzv (ad := ad1) (b := ad2) (n := xs.length) (cy := cap2) (news := news.toArray) (olds := olds.toArray) (by rw [hsz]; exact j6 c.P w.drew fun _ => rfl) (by rw [hsz]; exact k6 c.P w.drew fun _ => rfl) (by omega) (by omega)
          (growslice_fits (by omega) (by rw [hby]; exact hroom.1))
        have hge := grownCap_ge w (xs.length + ys.length) cap1 e
        have hle := grownCap_le_maxLen w (xs.length + ys.length) cap1 e (by have := hroom.2; unfold maxLen; omega)
        generalize grownCap w (xs.length + ys.length) cap1 e = cp at hr hge hle
        generalize hZ : Builtin.zeroCells zv.cells (cp - (xs.length + ys.length)) = Z at hr
        have hZs : Z.size = (cp - (xs.length + ys.length)) * sz := by rw [← hZ, size_zeroCells, hzs]
        have hrel := rel_append (more := Z.toList) j3 j4 k4 j5 k3 k5
        have e3 : ∀ k, (olds.toArray ++ news.toArray ++ Z).getD k Go.undef = (olds ++ news ++ Z.toList).getD k Go.undef := fun k => by
          rw [← getD_toArray]
          congr 1
          simp [-List.append_assoc]
        obtain ⟨g2, hh2⟩ := hh.inv.drew.newRow ow how sz (xs ++ ys) cp (olds.toArray ++ news.toArray ++ Z) e hrel.1
          (by simp only [Array.size_append, List.size_toArray, hZs, j3, k3, ← Nat.add_mul]; exact Nat.mul_le_mul_right _ (by omega)) (by simpa using hge) (by unfold maxLen at hle; omega) (fun i x j y h1 h2 => by
            rw [e3]
            exact (hrel.2 i x j y h1 h2).keep0 (Keep.of_heap fun _ _ _ => rfl) fun _ _ h => h)
        rw [List.length_append] at hh2
        exact .inl ⟨_, _, hrun _ _ hr, g2, _, hh2⟩
    · cases hv
  · cases hv

end Go.Vi
