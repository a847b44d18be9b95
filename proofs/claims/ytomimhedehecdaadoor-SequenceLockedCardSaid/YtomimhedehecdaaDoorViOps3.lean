/- Indexes, parts of strings and slices, function values. -/
import Derived.Test.YtomimhedehecdaaDoorViOps2
namespace Go.Vi
variable {c : Ctx} {g : G} {st st' : St} {a : Act} {w : World}

theorem snd_iarr {o : Oper} {n sz : Nat} {t e : TypeId} {p i : A} {X I : Operand} {v : V} {call : FuncId → List V → Option V} (h : FInv c g st a w) (ho : o.op = .indexAddr t X I) (hx : opndOK c.gl p X = true) (pp : plainA p = true) (hi : opndOK c.gl i I = true) (pi : plainA i = true)
    (hu : c.P.underlying t = some (.array n e)) (hz : (c.P.info? e).map (·.size) = some sz)
    (hv : exec call (.iarr n sz p i) st = some (v, st')) : Out c o a w st' v := by
  simp only [exec] at hv
  obtain ⟨o', hr⟩ := opndRaw h hx pp
  have hI : ∀ kk k, st.val i = .int kk k → a.eval I = .int kk k := fun kk k e => opnd_int h hi pi e
  have run : ∀ b q kk k, a.eval X = .pointer (some ⟨b, q, none⟩) → a.eval I = .int kk k → 0 ≤ k → k < n → (execOp a.eval o).run c.P w = .ok (.value (.pointer (some ⟨b, q + k.toNat * sz, none⟩))) w := by
    intro b q kk k e1 e2 e3 e4
    simp [execOp, ho, Instr.indexAt, run_underlying hu, Instr.sureAddr, e1, e2, asIntOf, e3, e4, run_sizeOf' w hz, Addr.add_lit]
  generalize st.raw p = pv at hr hv
  generalize hX : a.eval X = r at hr
  cases pv
  case ptr ps k =>
    split at hv
    · rename_i kk k' e1 e2
      split at hv
      · rename_i hk
        cases e1
        cases hv
        obtain ⟨-, b, o0, f', rfl, hcell, hrel⟩ := Rel.ptr_inv (show Rel w g.S (.ptr ps k) r o' from hr)
        refine Out.pureR h ?_ (run _ _ _ _ hX (hI _ _ e2) hk.1 hk.2)
        have := Rel.ptr (w := w) (S := g.S) ps (k + k'.toNat * sz) b o0 f' hcell hrel
        rwa [← Nat.add_assoc] at this
      · cases hv
    · rename_i e1 _; cases e1
    · cases hv
  case loc d k =>
    split at hv
    · rename_i e1 _; cases e1
    · rename_i kk k' e1 e2
      split at hv
      · rename_i hk
        cases e1
        cases hv
        exact Out.pure h ⟨rfl, rfl⟩ (run _ _ _ _ (hX.trans hr.2) (hI _ _ e2) hk.1 hk.2)
      · cases hv
    · cases hv
  all_goals
    split at hv
    · rename_i e1 _; cases e1
    · rename_i e1 _; cases e1
    · cases hv

theorem snd_iaddr {o : Oper} {root : Root} {sz : Nat} {t e : TypeId} {x i : A} {X I : Operand} {v : V} {call : FuncId → List V → Option V} (h : FInv c g st a w) (ho : o.op = .indexAddr t X I) (hx : opndOK c.gl x X = true) (px : plainA x = true) (hi : opndOK c.gl i I = true) (pi : plainA i = true)
    (hu : c.P.underlying t = some (.slice e)) (hz : (c.P.info? e).map (·.size) = some sz)
    (hv : exec call (.iaddr root sz x i) st = some (v, st')) : Out c o a w st' v := by
  simp only [exec] at hv
  have hr := opnd h hx px
  have hI : ∀ kk k, st.val i = .int kk k → a.eval I = .int kk k := fun kk k e => opnd_int h hi pi e
  have run : ∀ b q n cc kk k, a.eval X = .slice (some ⟨b, q, none⟩) n cc → a.eval I = .int kk k → 0 ≤ k → k < (n : Nat) → (execOp a.eval o).run c.P w = .ok (.value (.pointer (some ⟨b, q + k.toNat * sz, none⟩))) w := by
    intro b q n cc kk k e1 e2 e3 e4
    simp [execOp, ho, Instr.indexAt, run_underlying hu, e1, e2, asIntOf, e3, e4, run_sizeOf' w hz, Addr.add_lit]
  generalize st.val x = xv at hr hv
  cases xv
  case rf s =>
    split at hv
    · rename_i s' kk k e1 e2
      cases e1
      split at hv
      · split at hv
        · rename_i sz' xs hs
          split at hv
          · rename_i hk
            obtain ⟨rfl, hk0, hk1⟩ := hk
            cases hv
            have hX := hr.2 (by rw [hs]; rfl)
            have hat := h.at s
            rw [hs] at hat
            rcases Rel.slx_inv (show Rel w g.S (.sl .x sz' xs) (a.tmps.getD s Go.undef) (g.O s) from hat) with ⟨h0, _⟩ | ⟨b, q, n, cc, f, C, e', hsl, -, hn, -⟩
            · subst h0; simp at hk1; omega
            · refine Out.pure h ⟨rfl, fun sz2 xs2 hs2 => ?_⟩ (run b q n cc kk k (hX.trans hsl) (hI _ _ e2) hk0 (by omega))
              rw [hs] at hs2
              cases hs2
              exact ⟨b, q, n, cc, hsl, rfl⟩
          · cases hv
        · cases hv
      · cases hv
    · rename_i e1 _; cases e1
    · cases hv
  case sl ow sz' xs =>
    split at hv
    · rename_i e1 _; cases e1
    · rename_i sz2 xs2 kk k e1 e2
      cases e1
      split at hv
      · rename_i hk
        obtain ⟨rfl, hk0⟩ := hk
        simp only [Option.map_eq_some_iff] at hv
        obtain ⟨row, hrow, hv⟩ := hv
        cases hv
        have hlt : k.toNat < xs.length := (List.getElem?_eq_some_iff.1 hrow).1
        obtain ⟨-, ad, n, cc, f, hX, hn, hnc, hxl, hal, hrel⟩ := Rel.sls_inv (show Rel w g.S (.sl .s sz' xs) (a.eval X) [] from hr)
        obtain ⟨b, q, rfl, hcell⟩ := hal (by omega)
        have hrl := hxl _ _ hrow
        refine Out.pureR h ?_ (run b q n cc kk k hX (hI _ _ e2) hk0 (by omega))
        have := Rel.ptr (w := w) (S := g.S) row 0 b (q + k.toNat * sz') (f k.toNat) (fun j hj => by
          have := hcell k.toNat j hlt (by omega)
          rwa [← Nat.add_assoc] at this) (fun j y hy => hrel _ _ _ _ hrow hy)
        exact this
      · cases hv
    · cases hv
  all_goals
    split at hv
    · rename_i e1 _; cases e1
    · rename_i e1 _; cases e1
    · cases hv

theorem asInts_vals : ∀ {vs : List V} {k : IntKind} {ns : List Int}, asInts vs = some (k, ns) → vs = ns.map (.int k)
  | [], k, ns, h => by simp [asInts] at h
  | [v], k, ns, h => by
    cases v <;> simp [asInts] at h
    obtain ⟨rfl, rfl⟩ := h
    rfl
  | v :: u :: l, k, ns, h => by
    cases v <;> simp only [asInts, reduceCtorEq] at h
    rename_i k1 n1
    split at h
    · rename_i k' r e
      split at h
      · rename_i hk
        subst hk
        cases h
        rw [List.map_cons, ← asInts_vals e]
      · cases h
    · cases h

theorem opnds_plain (h : FInv c g st a w) : ∀ {xs : List A} {Xs : List Operand}, opndsOK c.gl xs Xs = true → xs.all plainA = true → xs.length = Xs.length ∧ ∀ (i : Nat) (x : A) (X : Operand), xs[i]? = some x → Xs[i]? = some X → RelT w g st a (st.val x) (a.eval X) []
  | [], [], _, _ => ⟨rfl, by simp⟩
  | [], _ :: _, h1, _ => by cases h1
  | _ :: _, [], h1, _ => by cases h1
  | x :: xs, X :: Xs, h1, h2 => by
    simp only [opndsOK, Bool.and_eq_true] at h1
    simp only [List.all_cons, Bool.and_eq_true] at h2
    obtain ⟨hl, ih⟩ := opnds_plain h h1.2 h2.2
    refine ⟨by simp [hl], fun i y Y hy hY => ?_⟩
    cases i with
    | zero => simp at hy hY; subst hy hY; exact opnd h h1.1 h2.1
    | succ i => exact ih i y Y (by simpa using hy) (by simpa using hY)

theorem opnds_ints (h : FInv c g st a w) {xs : List A} {Xs : List Operand} (hok : opndsOK c.gl xs Xs = true) (hp : xs.all plainA = true) {k : IntKind} {ns : List Int} (hv : vals st xs = ns.map (.int k)) : Xs.map a.eval = ns.map (.int k) := by
  obtain ⟨hl, hr⟩ := opnds_plain h hok hp
  have hlen : xs.length = ns.length := by have := congrArg List.length hv; simpa [vals] using this
  apply List.ext_getElem?
  intro i
  by_cases hi : i < xs.length
  · have hx : xs[i]? = some xs[i] := List.getElem?_eq_getElem hi
    have hX : Xs[i]? = some (Xs[i]'(by omega)) := List.getElem?_eq_getElem (by omega)
    have hn : ns[i]? = some (ns[i]'(by omega)) := List.getElem?_eq_getElem (by omega)
    have hval : st.val xs[i] = .int k (ns[i]'(by omega)) := by
      have := congrArg (fun l => l[i]?) hv
      simp only [vals, List.getElem?_map, hx, hn, Option.map_some] at this
      exact Option.some.inj this
    have := hr i _ _ hx hX
    rw [hval] at this
    have : a.eval (Xs[i]'(by omega)) = .int k (ns[i]'(by omega)) := by
      generalize a.eval (Xs[i]'(by omega)) = r at this ⊢
      cases this; rfl
    simp [hX, hn, this]
  · simp [List.getElem?_eq_none (by simpa using (by omega : ns.length ≤ i)), List.getElem?_eq_none (show Xs.length ≤ i by omega)]

theorem run_max (P : Program) (k : IntKind) : ∀ (r : List Int) (n : Int), (List.foldlM Builtin.max2 (.int k n) (r.map (Value.int k))).run P w = .ok (.int k (r.foldl (fun a b => if a < b then b else a) n)) w
  | [], n => by simp
  | m :: r, n => by
    have : (Builtin.max2 (.int k n) (.int k m)).run P w = .ok (.int k (if n < m then m else n)) w := by
      simp only [Builtin.max2, Sem.run_pure]
    simp only [List.map_cons, List.foldlM_cons, Sem.run_bind, this, Result.andThen_ok, List.foldl_cons]
    exact run_max P k r _

theorem run_min (P : Program) (k : IntKind) : ∀ (r : List Int) (n : Int), (List.foldlM Builtin.min2 (.int k n) (r.map (Value.int k))).run P w = .ok (.int k (r.foldl (fun a b => if b < a then b else a) n)) w
  | [], n => by simp
  | m :: r, n => by
    have : (Builtin.min2 (.int k n) (.int k m)).run P w = .ok (.int k (if m < n then m else n)) w := by
      simp only [Builtin.min2, Sem.run_pure]
    simp only [List.map_cons, List.foldlM_cons, Sem.run_bind, this, Result.andThen_ok, List.foldl_cons]
    exact run_min P k r _

theorem snd_mx {o : Oper} {big : Bool} {xs : List A} {Xs : Array Operand} {ts : Array TypeId} {v : V} {call : FuncId → List V → Option V} (h : FInv c g st a w)
    (ho : o.op = .call { callee := .builtin (if big then .max else .min), args := Xs, argTypes := ts }) (hx : opndsOK c.gl xs Xs.toList = true) (px : xs.all plainA = true)
    (hv : exec call (.mx big xs) st = some (v, st')) : Out c o a w st' v := by
  simp only [exec] at hv
  split at hv
  · rename_i k n r e
    cases hv
    have hX := opnds_ints h hx px (asInts_vals e)
    simp only [List.map_cons] at hX
    refine Out.pureR h (.int _ _) ?_
    cases big with
    | true => simp [execOp, ho, resolve, invoke, builtin, Builtin.max_, hX, run_max]
    | false => simp [execOp, ho, resolve, invoke, builtin, Builtin.min_, hX, run_min]
  · cases hv

def optOK (gl : List (Nat × List V)) : Option A → Option Operand → Bool
  | none, none => true
  | some x, some X => opndOK gl x X && plainA x
  | _, _ => false

theorem opt_ok (h : FInv c g st a w) {x : Option A} {X : Option Operand} (hx : optOK c.gl x X = true) {dflt n : Int} (hv : st.optInt dflt x = some n) :
    (x = none ∧ X = none ∧ n = dflt) ∨ ∃ X' k, X = some X' ∧ a.eval X' = .int k n := by
  cases x with
  | none => cases X with
    | none => simp only [St.optInt, Option.some.injEq] at hv; exact .inl ⟨rfl, rfl, hv.symm⟩
    | some X => cases hx
  | some x => cases X with
    | none => cases hx
    | some X =>
      simp only [optOK, Bool.and_eq_true] at hx
      simp only [St.optInt, St.ints] at hv
      split at hv
      · rename_i k m e
        cases hv
        exact .inr ⟨X, k, rfl, opnd_int h hx.1 hx.2 e⟩
      · cases hv

theorem run_bound (P : Program) {k : IntKind} {i : Int} {y : Nat} {code : BoundsCode} (h0 : 0 ≤ i) (h1 : i ≤ y) : (Instr.sliceBound (.int k i) y code).run P w = .ok i.toNat w := by
  simp [Instr.sliceBound, asIntOf, h0, h1]

/-- The bounds of a slice expression with two indexes. -/
theorem run_bounds (h : FInv c g st a w) (isSlice : Bool) {len cap : Nat} {lo hi : Option A} {Lo Hi : Option Operand} (hlo : optOK c.gl lo Lo = true) (hhi : optOK c.gl hi Hi = true) {l r : Int}
    (el : st.optInt 0 lo = some l) (er : st.optInt len hi = some r) (h0 : 0 ≤ l) (h1 : l ≤ r) (h2 : r ≤ len) (h3 : len ≤ cap) :
    (Instr.sliceBounds isSlice len cap (Lo.map a.eval) (Hi.map a.eval) none).run c.P w = .ok (l.toNat, r.toNat, cap) w := by
  rcases opt_ok h hlo el with ⟨rfl, rfl, rfl⟩ | ⟨X, k, rfl, eX⟩ <;> rcases opt_ok h hhi er with ⟨rfl, rfl, rfl⟩ | ⟨Y, k', rfl, eY⟩
  · simp [Instr.sliceBounds]
  · simp [Instr.sliceBounds, eY, run_bound c.P (w := w) (k := k') (i := r) (y := cap) (by omega) (by omega)]
  · simp [Instr.sliceBounds, eX, run_bound c.P (w := w) (k := k) (i := l) (y := len) h0 (by omega)]
  · simp [Instr.sliceBounds, eX, eY, run_bound c.P (w := w) (k := k') (i := r) (y := cap) (by omega) (by omega), run_bound c.P (w := w) (k := k) (i := l) (y := r.toNat) h0 (by omega)]

theorem snd_slcs {o : Oper} {t : TypeId} {x : A} {lo hi : Option A} {X : Operand} {Lo Hi : Option Operand} {v : V} {call : FuncId → List V → Option V} (h : FInv c g st a w) (ho : o.op = .slice t X Lo Hi none) (hx : opndOK c.gl x X = true) (px : plainA x = true)
    (hlo : optOK c.gl lo Lo = true) (hhi : optOK c.gl hi Hi = true) (hu : c.P.underlying t = some .string)
    (hv : exec call (.slcs x lo hi) st = some (v, st')) : Out c o a w st' v := by
  simp only [exec] at hv
  split at hv
  · rename_i s e
    split at hv
    · rename_i l r el er
      split at hv
      · rename_i hb
        cases hv
        have hX := opnd_str h hx px e
        have hbd := run_bounds h false hlo hhi el er hb.1 hb.2.1 hb.2.2 (Nat.le_refl _)
        exact Out.pureR h (.str _) (by simp [execOp, ho, Instr.sliceAt, run_underlying hu, Instr.slice, hX, hbd])
      · cases hv
    · cases hv
  · cases hv

theorem part_row {α : Type} {xs : List α} {l r i : Nat} {x : α} (h : ((xs.take r).drop l)[i]? = some x) : xs[l + i]? = some x := by
  rw [List.getElem?_drop, List.getElem?_take] at h
  split at h
  · exact h
  · cases h

/-- A part of a slice. -/
theorem Rel.part {S : Stab} {o : Own} {sz : Nat} {xs : List (List V)} {r : Value} {ob : List Nat} (h : Rel w S (.sl o sz xs) r ob) {l r' : Nat} (hl : l ≤ r') (hr : r' ≤ xs.length) (hw : o = .s ∨ r' = xs.length) :
    ∃ (ad : Option Addr) (n cc : Nat), r = .slice ad n cc ∧ n = xs.length ∧ n ≤ cc ∧ ∃ ob', (∀ b ∈ ob', b ∈ ob) ∧ (ob.Nodup → ob'.Nodup) ∧ Rel w S (.sl o sz ((xs.take r').drop l)) (.slice (if cc = l then ad else ad.map (·.add (l * sz))) (r' - l) (cc - l)) ob' := by
  have hlen : ((xs.take r').drop l).length = r' - l := by simp; omega
  have hz : r' - l = 0 → (xs.take r').drop l = [] := fun e => List.eq_nil_of_length_eq_zero (by omega)
  generalize hv : V.sl o sz xs = v at h
  cases h with
  | sl0 o' sz' a =>
    cases hv
    simp only [List.length_nil, Nat.le_zero] at hr
    subst hr
    have : l = 0 := by omega
    subst this
    exact ⟨a, 0, 0, rfl, rfl, Nat.le_refl _, [], by simp, by simp, by simpa using Rel.sl0 _ _ _⟩
  | sls sz' xs' a n cc f hn hnc hx ha hrel =>
    cases hv
    refine ⟨a, n, cc, rfl, hn, hnc, [], by simp, by simp, .sls sz _ _ _ _ (fun i j => f (l + i) j) hlen.symm (by omega) (fun i x hx' => hx _ x (part_row hx')) (fun h0 => ?_) (fun i x j y h1 h2 => hrel _ x j y (part_row h1) h2)⟩
    rw [hlen] at h0
    obtain ⟨b, off, rfl, hc⟩ := ha (by omega)
    refine ⟨b, off + l * sz, ?_, fun i j hi hj => ?_⟩
    · rw [if_neg (by omega), Option.map_some, Addr.add_lit]
    · rw [hlen] at hi
      have := hc (l + i) j (by omega) hj
      rwa [show off + ((l + i) * sz + j) = off + l * sz + (i * sz + j) by rw [Nat.add_mul]; omega] at this
  | slo o' sz' xs' b off n cc f C e ho hn hx hb hsz hc hm hf hS hN hrel =>
    cases hv
    have hr2 : r' = xs.length := by
      rcases hw with h1 | h1
      · exact absurd h1 ho
      · exact h1
    subst hr2
    by_cases hcl : cc = l
    · refine ⟨_, n, cc, rfl, hn, hc, [], by simp, by simp, ?_⟩
      have e0 : xs.length - l = 0 := by omega
      rw [hz e0, e0, show cc - l = 0 by omega]
      exact .sl0 _ _ _
    · refine ⟨_, n, cc, rfl, hn, hc, [b], fun _ h => h, fun h => h, ?_⟩
      rw [if_neg hcl, Option.map_some, Addr.add_lit]
      refine .slo o sz _ b (off + l * sz) _ _ (fun i j => f (l + i) j) C e ho hlen.symm (fun i x hx' => hx _ x (part_row hx')) hb ?_ (by omega) (by omega) (fun i j hi hj => ?_) (fun h1 i j hi hj => ?_) (fun k hk => hN k ?_) (fun i x j y h1 h2 => hrel _ x j y (part_row h1) h2)
      · have : off + l * sz + (cc - l) * sz = off + cc * sz := by rw [Nat.add_assoc, ← Nat.add_mul]; congr 2; omega
        omega
      · rw [hlen] at hi
        have := hf (l + i) j (by omega) hj
        rwa [show off + ((l + i) * sz + j) = off + l * sz + (i * sz + j) by rw [Nat.add_mul]; omega] at this
      · rw [hlen] at hi
        have := hS h1 (l + i) j (by omega) hj
        rwa [show off + ((l + i) * sz + j) = off + l * sz + (i * sz + j) by rw [Nat.add_mul]; omega] at this
      · rcases hk with h1 | h1
        · exact .inl h1
        · refine .inr ?_
          rw [hlen] at h1
          have : off + l * sz + (xs.length - l) * sz = off + xs.length * sz := by rw [Nat.add_assoc, ← Nat.add_mul]; congr 2; omega
          omega
  | _ => cases hv

theorem Held.one {v : V} {r : Value} {o o' : List Nat} {v' : V} {r' : Value} (h : Held c g st a w [(v, r, o)]) (hr : Rel w g.S v' r' o') (hs : ∀ b ∈ o', b ∈ o) (hn : o.Nodup → o'.Nodup) : Held c g st a w [(v', r', o')] :=
  ⟨h.inv, fun e he => by simp at he; subst he; exact .of_rel hr, by simpa using hn (by simpa using h.nd), fun b hb => h.fr b (by simp at hb ⊢; exact hs b hb)⟩

theorem snd_slc {o : Oper} {sz : Nat} {t e : TypeId} {x : A} {lo hi mx : Option A} {X : Operand} {Lo Hi Mx : Option Operand} {v : V} {call : FuncId → List V → Option V} (h : FInv c g st a w) (ho : o.op = .slice t X Lo Hi Mx) (hx : opndOK c.gl x X = true)
    (hlo : optOK c.gl lo Lo = true) (hhi : optOK c.gl hi Hi = true) (hmx : optOK c.gl mx Mx = true) (hu : c.P.underlying t = some (.slice e)) (hz : (c.P.info? e).map (·.size) = some sz)
    (hv : exec call (.slc sz x lo hi mx) st = some (v, st')) : Out c o a w st' v := by
  simp only [exec] at hv
  split at hv
  · rename_i ow sz' xs ex
    obtain ⟨g', ov, hh, -⟩ := opnd1 h hx
    rw [ex] at hh
    have hr : Rel w g'.S (.sl ow sz' xs) (a.eval X) ov := (hh.rel _ (List.mem_singleton.2 rfl)).rel (by simp)
    split at hv
    · -- no third index
      cases Mx with
      | some _ => cases hmx
      | none =>
        split at hv
        · rename_i l r el er
          split at hv
          · rename_i hb
            obtain ⟨rfl, h0, h1, h2, h3⟩ := hb
            cases hv
            obtain ⟨ad, n, cc, hX, hn, hnc, ob', hs, hnd, hrel⟩ := hr.part (l := l.toNat) (r' := r.toNat) (by omega) (by omega) (by rcases h3 with h3 | h3; exact .inl h3; exact .inr (by omega))
            have hbd := run_bounds h true (len := n) (cap := cc) hlo hhi el (by rw [hn]; exact er) h0 h1 (by omega) hnc
            refine .inl ⟨_, w, ?_, g', ob', hh.one hrel hs hnd⟩
            simp [execOp, ho, Instr.sliceAt, run_underlying hu, Instr.slice, hX, hbd, run_sizeOf' w hz]
          · cases hv
        · cases hv
    · -- s[:0:0]
      rename_i m
      cases Mx with
      | none => cases hmx
      | some M =>
        split at hv
        · rename_i el er em
          split at hv
          · rename_i hb
            obtain ⟨rfl, rfl, hsome⟩ := hb
            cases hv
            obtain ⟨ad, n, cc, hX, hn⟩ := Rel.sl_inv hr
            have hm := opt_ok h (dflt := 0) hmx (by simpa [St.optInt] using em)
            rcases hm with ⟨h1, _, _⟩ | ⟨M', km, hM, eM⟩
            · cases h1
            · cases hM
              rcases opt_ok h hhi er with ⟨h1, h2, h3⟩ | ⟨Y, k', h1, h2⟩
              · subst h1; cases hsome
              · subst h1
                refine .inl ⟨_, w, ?_, g', [], hh.one (Rel.sl0 .x sz' ad) (by simp) (by simp)⟩
                have b0 : ∀ (k : IntKind) (y : Nat) (code : BoundsCode), (Instr.sliceBound (.int k 0) y code).run c.P w = .ok 0 w := fun k y code => run_bound c.P (Int.le_refl 0) (by omega)
                rcases opt_ok h hlo el with ⟨g1, g2, g3⟩ | ⟨Z, kz, g1, g2⟩
                · subst g1 g2
                  simp [execOp, ho, Instr.sliceAt, run_underlying hu, Instr.slice, hX, Instr.sliceBounds, eM, h2, b0, run_sizeOf' w hz]
                · subst g1
                  simp [execOp, ho, Instr.sliceAt, run_underlying hu, Instr.slice, hX, Instr.sliceBounds, eM, h2, g2, b0, run_sizeOf' w hz]
          · cases hv
        · cases hv
  · cases hv

theorem snd_mkfn {o : Oper} {f : Fn} {roots : List Nat} {cs : List A} {Cs : Array Operand} {v : V} {call : FuncId → List V → Option V} (h : FInv c g st a w) (ho : o.op = .makeFunc f #[] Cs) (hx : opndsOK c.gl cs Cs.toList = true) (px : cs.all plainA = true)
    (hv : exec call (.mkfn f roots [] cs) st = some (v, st')) : Out c o a w st' v := by
  simp only [exec, vals, List.map_nil, Option.some.injEq, Prod.mk.injEq] at hv
  obtain ⟨rfl, rfl⟩ := hv
  obtain ⟨hl, -⟩ := opnds_plain h hx px
  refine Out.pureR h (.fn f [] _ #[] (Cs.map a.eval) rfl (by simpa using hl) (by simp) fun i y u hy hu => ?_) (by simp [execOp, ho, Instr.makeFunc])
  simp only [List.getElem?_map, Option.map_eq_some_iff] at hy
  obtain ⟨x, hx', rfl⟩ := hy
  have hX : ∃ X, Cs.toList[i]? = some X ∧ a.eval X = u := by
    simp only [Array.getElem?_map, Option.map_eq_some_iff] at hu
    obtain ⟨X, h1, h2⟩ := hu
    exact ⟨X, by simpa using h1, h2⟩
  obtain ⟨X, hX, rfl⟩ := hX
  have hok : opndOK c.gl x X = true ∧ plainA x = true := by
    have : ∀ {xs : List A} {Xs : List Operand}, opndsOK c.gl xs Xs = true → xs.all plainA = true → ∀ (i : Nat) (x : A) (X : Operand), xs[i]? = some x → Xs[i]? = some X → opndOK c.gl x X = true ∧ plainA x = true := by
      intro xs
      induction xs with
      | nil => intro Xs _ _ i x X h; simp at h
      | cons y ys ih =>
        intro Xs h1 h2 i x X hx hX
        cases Xs with
        | nil => cases h1
        | cons Y Ys =>
          simp only [opndsOK, Bool.and_eq_true] at h1
          simp only [List.all_cons, Bool.and_eq_true] at h2
          cases i with
          | zero => simp at hx hX; subst hx hX; exact ⟨h1.1, h2.1⟩
          | succ i => exact ih h1.2 h2.2 i x X (by simpa using hx) (by simpa using hX)
    exact this hx px i x X hx' hX
  obtain ⟨ob, hr⟩ := opndRaw h hok.1 hok.2
  split
  · rename_i d e
    rw [e] at hr
    split
    · split
      · rename_i cs' hb
        rw [hr.2]
        exact (h.bxt d cs' hb).2
      · exact .undef _
    · exact .undef _
  · rename_i cs' off e
    rw [e] at hr
    obtain ⟨-, b, o0, f', e', hcell, hrel⟩ := Rel.ptr_inv (show Rel w g.S (.ptr cs' off) (a.eval X) ob from hr)
    rw [e']
    exact .ptr _ _ _ _ _ hcell hrel
  · exact .undef _

end Go.Vi
