/- Operations that read memory, and pointers. -/
import Derived.Test.YtomimhedehecdaaDoorViOps1
namespace Go.Vi
variable {c : Ctx} {g : G} {st st' : St} {a : Act} {w : World}

theorem opndRaw (h : FInv c g st a w) {x : A} {X : Operand} (hok : opndOK c.gl x X = true) (hp : plainA x = true) : ∃ o, RelT w g st a (st.raw x) (a.eval X) o := by
  cases x with
  | t n => cases X <;> simp only [opndOK, beq_iff_eq, Bool.false_eq_true] at hok; subst hok; exact ⟨_, h.at n⟩
  | m o n => cases hp
  | c v => exact ⟨_, .of_rel (const_rel h hok)⟩

theorem cut_some {cs r : List V} {off sz : Nat} (h : cut cs off sz = some r) : off + sz ≤ cs.length ∧ r.length = sz ∧ ∀ j y, r[j]? = some y → j < sz ∧ cs[off + j]? = some y := by
  unfold cut at h
  split at h
  · rename_i hle
    cases h
    refine ⟨hle, by simp; omega, fun j y hy => ?_⟩
    rw [List.getElem?_take] at hy
    split at hy
    · exact ⟨by assumption, by simpa [List.getElem?_drop] using hy⟩
    · cases hy
  · cases h

/-- What lies behind a pointer. -/
theorem cells_ok (h : FInv c g st a w) {p : V} {r : Value} {o : List Nat} (hr : RelT w g st a p r o) {root : Root} {sz : Nat} {cs : List V} (hc : st.cells root p sz = some cs) :
    ∃ (b q : Nat) (f : Nat → Value), r = .pointer (some ⟨b, q, none⟩) ∧ cs.length = sz ∧ ∀ j, j < sz → w.cell? ⟨b, q + j, none⟩ = some (f j) ∧ ∀ y, cs[j]? = some y → ∃ o, Rel w g.S y (f j) o := by
  cases p <;> simp only [St.cells, reduceCtorEq] at hc
  case ptr ps off =>
    obtain ⟨h1, h2, h3⟩ := cut_some hc
    obtain ⟨-, b, o0, f, rfl, hcell, hrel⟩ := Rel.ptr_inv (show Rel w g.S (.ptr ps off) r o from hr)
    refine ⟨b, o0 + off, fun j => f (off + j), rfl, h2, fun j hj => ⟨?_, fun y hy => ?_⟩⟩
    · have := (hcell (off + j) (by omega)).2
      rwa [← Nat.add_assoc] at this
    · exact ⟨[], hrel _ _ (h3 j y hy).2⟩
  case loc d off =>
    split at hc
    · simp only [Option.bind_eq_some_iff] at hc
      obtain ⟨⟨fr, bs⟩, hb, hcut⟩ := hc
      obtain ⟨h1, h2, h3⟩ := cut_some hcut
      dsimp only at h1 h3
      have hr' := hr.2
      cases fr with
      | false =>
        obtain ⟨C, e, os, e1, e2, e3, e4, _, _⟩ := h.bxf d bs hb
        refine ⟨g.β d, off, fun j => C.getD (off + j) Go.undef, hr', h2, fun j hj => ?_⟩
        have hlt : off + j < C.size := by omega
        refine ⟨by simp [World.cell?, e1, Array.getD, hlt], fun y hy => ?_⟩
        have hos : ∃ ob, os[off + j]? = some ob := ⟨_, List.getElem?_eq_getElem (by omega)⟩
        obtain ⟨ob, hob⟩ := hos
        exact ⟨ob, e4 _ _ _ _ (h3 j y hy).2 (by simp [Array.getD, hlt]) hob⟩
      | true =>
        obtain ⟨-, b, o0, f, ha, hcell, hrel⟩ := ((h.bxt d bs hb).2).ptr_inv
        simp only [Nat.add_zero, Value.pointer.injEq, Option.some.injEq, Addr.mk.injEq, and_true] at ha
        obtain ⟨rfl, rfl⟩ := ha
        refine ⟨g.β d, off, fun j => f (off + j), hr', h2, fun j hj => ⟨?_, fun y hy => ⟨[], hrel _ _ (h3 j y hy).2⟩⟩⟩
        have := (hcell (off + j) (by omega)).2
        rwa [Nat.zero_add] at this
    · cases hc
  case el t i off =>
    split at hc
    · have hat := h.at t
      split at hc
      · rename_i sz' xs hx
        rw [hx] at hat
        obtain ⟨b, q, n, cc, ht, hr'⟩ := hr.2 sz' xs hx
        rw [ht] at hat
        simp only [Option.bind_eq_some_iff] at hc
        obtain ⟨row, hrow, hcut⟩ := hc
        obtain ⟨h1, h2, h3⟩ := cut_some hcut
        have hi : i < xs.length := (List.getElem?_eq_some_iff.1 hrow).1
        rcases Rel.slx_inv (show Rel w g.S (.sl .x sz' xs) (.slice (some ⟨b, q, none⟩) n cc) (g.O t) from hat) with ⟨h0, _⟩ | ⟨b', q', n', c', f, C, e, ha, ho, hn, hx2, hb, hsz, hc2, hf, hN, hrel⟩
        · subst h0; simp at hi
        · cases ha
          have hlen := hx2 i row hrow
          refine ⟨b, q + (i * sz' + off), fun j => f i (off + j), hr', h2, fun j hj => ⟨?_, fun y hy => ⟨[], hrel i row (off + j) y hrow (h3 j y hy).2⟩⟩⟩
          have := hf i (off + j) hi (by omega)
          simp only [World.cell?, hb]
          rw [show q + (i * sz' + off) + j = q + (i * sz' + (off + j)) by omega]
          simpa using this
      · cases hc
    · cases hc

theorem mkv_some {ag : Bool} {cs : List V} {v : V} (h : mkv ag cs = some v) : (ag = true ∧ v = .agg cs) ∨ (ag = false ∧ cs = [v]) := by
  unfold mkv at h
  cases ag with
  | true => simp at h; exact .inl ⟨rfl, h.symm⟩
  | false =>
    simp only [Bool.false_eq_true, if_false] at h
    split at h
    · cases h; exact .inr ⟨rfl, rfl⟩
    · cases h

/-- A variable is read. -/
theorem run_loadVar {P : Program} {t : TypeId} {b q sz : Nat} {f : Nat → Value} (hu : (P.underlying t).isSome = true) (hz : (P.info? t).map (·.size) = some sz) (h1 : aggT P t = false → sz = 1)
    (hc : ∀ j, j < sz → w.cell? ⟨b, q + j, none⟩ = some (f j)) :
    (loadVar t ⟨b, q, none⟩).run P w = .ok (if aggT P t then .agg ((List.range sz).map f).toArray else f 0) w := by
  cases hg : aggT P t with
  | true =>
    have := run_loadCells (P := P) w ⟨b, q, none⟩ sz f (fun j hj => by
      rw [Addr.add_lit]; exact hc j hj)
    simp [loadVar, run_isAgg' w hu, hg, run_sizeOf' w hz, this]
  | false =>
    have hsz := h1 hg
    subst hsz
    have h0 := hc 0 (by omega)
    simp only [Nat.add_zero] at h0
    simp [loadVar, run_isAgg' w hu, hg, h0]

theorem snd_load {o : Oper} {root : Root} {ag : Bool} {sz : Nat} {t : TypeId} {p : A} {X : Operand} {cs : List V} {v : V} (h : FInv c g st a w) (ho : o.op = .load t X) (hx : opndOK c.gl p X = true) (pp : plainA p = true)
    (hu : (c.P.underlying t).isSome = true) (hz : (c.P.info? t).map (·.size) = some sz) (ha : aggT c.P t = ag) (h1 : ag = false → sz = 1)
    (hc : st.cells root (st.raw p) sz = some cs) (hv : mkv ag (cps cs) = some v) : Out c o a w st v := by
  obtain ⟨o', hr⟩ := opndRaw h hx pp
  obtain ⟨b, q, f, e1, e2, e3⟩ := cells_ok h hr hc
  have hrun := run_loadVar (w := w) (P := c.P) (f := f) (b := b) (q := q) hu hz (by rw [ha]; exact h1) (fun j hj => (e3 j hj).1)
  have hcp : ∀ j, j < sz → ∀ y, (cps cs)[j]? = some y → Rel w g.S y (f j) [] := by
    intro j hj y hy
    simp only [cps, List.getElem?_map, Option.map_eq_some_iff] at hy
    obtain ⟨y', hy', rfl⟩ := hy
    obtain ⟨ob, hrel⟩ := (e3 j hj).2 y' hy'
    exact hrel.copy
  refine Out.pureR h (rv := if ag then .agg ((List.range sz).map f).toArray else f 0) ?_ (by simp [execOp, ho, Instr.loadAt, Instr.sureAddr, e1, hrun, ha])
  rcases mkv_some hv with ⟨rfl, rfl⟩ | ⟨rfl, e⟩
  · refine .agg _ _ (by simp [cps, e2]) fun i y u hy hu' => ?_
    have hi : i < sz := by
      have := (List.getElem?_eq_some_iff.1 hy).1
      simpa [cps, e2] using this
    have : u = f i := by
      simp [hi] at hu'
      exact hu'.symm
    subst this
    exact hcp i hi y hy
  · have hs := h1 rfl
    subst hs
    exact hcp 0 (by omega) v (by rw [e]; rfl)

/-- A field of a pointer's struct. -/
theorem snd_faddr {o : Oper} {root : Root} {call : FuncId → List V → Option V} {off : Nat} {t : TypeId} {i : Nat} {p : A} {X : Operand} {v : V} {fs : Array Field} {f : Field} (h : FInv c g st a w) (ho : o.op = .fieldAddr t X i) (hx : opndOK c.gl p X = true) (pp : plainA p = true)
    (hu : c.P.underlying t = some (.struct fs)) (hf : fs[i]? = some f) (hoff : f.offset = off) (hz : ∃ z, (c.P.info? f.type).map (·.size) = some (z + 1))
    (hv : exec call (.faddr root off p) st = some (v, st')) : Out c o a w st' v := by
  simp only [exec] at hv
  obtain ⟨o', hr⟩ := opndRaw h hx pp
  obtain ⟨z, hz⟩ := hz
  have run : ∀ b q, a.eval X = .pointer (some ⟨b, q, none⟩) → (execOp a.eval o).run c.P w = .ok (.value (.pointer (some ⟨b, q + off, none⟩))) w := by
    intro b q e
    simp [execOp, ho, Instr.fieldAt, run_underlying hu, hf, Instr.sureAddr, e, fieldPlace, run_sizeOf' w hz, Addr.add_lit, hoff]
  generalize st.raw p = pv at hr hv
  generalize hX : a.eval X = r at hr
  cases pv <;> simp only [Option.some.injEq, Prod.mk.injEq, reduceCtorEq] at hv
  case ptr ps k =>
    obtain ⟨rfl, rfl⟩ := hv
    obtain ⟨-, b, o0, f', rfl, hcell, hrel⟩ := Rel.ptr_inv (show Rel w g.S (.ptr ps k) r o' from hr)
    refine Out.pureR h ?_ (run _ _ hX)
    have := Rel.ptr (w := w) (S := g.S) ps (k + off) b o0 f' hcell hrel
    rwa [← Nat.add_assoc] at this
  case loc d k =>
    obtain ⟨rfl, rfl⟩ := hv
    exact Out.pure h ⟨rfl, rfl⟩ (run _ _ (hX.trans hr.2))
  case el s j k =>
    split at hv
    · split at hv
      · rename_i sz xs hsx
        cases hv
        obtain ⟨b, q, n, cc, e1, e2⟩ := hr.2 sz xs hsx
        refine Out.pure h ⟨rfl, fun sz' xs' hsx' => ?_⟩ (run _ _ (hX.trans e2))
        rw [hsx] at hsx'
        cases hsx'
        exact ⟨b, q, n, cc, e1, by rw [show q + (j * sz + (k + off)) = q + (j * sz + k) + off by omega]⟩
      · cases hv
    · cases hv

theorem bool_eq {α : Type} {p : Prop} [Decidable p] {x y : α} (h : p) : (if p then x else y) = x := if_pos h

theorem snd_nilchk {o : Oper} {x : A} {X : Operand} {v : V} (h : FInv c g st a w) (ho : o.op = .nilCheck X) (hx : opndOK c.gl x X = true) (px : plainA x = true)
    (hv : (match st.raw x with | .ptr cs off => some (V.ptr cs off) | .loc d off => some (.loc d off) | _ => none) = some v) : Out c o a w st v := by
  obtain ⟨o', hr⟩ := opndRaw h hx px
  have run : ∀ p, a.eval X = .pointer (some p) → (execOp a.eval o).run c.P w = .ok (.value (.pointer (some p))) w := by
    intro p e
    simp [execOp, ho, e]
  generalize st.raw x = pv at hr hv
  generalize hX : a.eval X = r at hr
  cases pv <;> simp only [Option.some.injEq, reduceCtorEq] at hv
  case ptr ps k =>
    subst hv
    obtain ⟨-, b, o0, f', rfl, hcell, hrel⟩ := Rel.ptr_inv (show Rel w g.S (.ptr ps k) r o' from hr)
    exact Out.pureR h (.ptr _ _ _ _ _ hcell hrel) (run _ hX)
  case loc d k =>
    subst hv
    exact Out.pure h ⟨rfl, rfl⟩ (run _ (hX.trans hr.2))

theorem snd_conv {o : Oper} {k k' : IntKind} {s d : TypeId} {x : A} {X : Operand} {n : Int} (h : FInv c g st a w) (ho : o.op = .convert s d X) (hx : opndOK c.gl x X = true) (px : plainA x = true)
    (hs : (c.P.underlying s).isSome = true) (hd : c.P.underlying d = some (.int k)) (hv : st.val x = .int k' n) : Out c o a w st (.int k (k.wrap n)) := by
  have e := opnd_int h hx px hv
  obtain ⟨sd, hsd⟩ := Option.isSome_iff_exists.1 hs
  refine Out.pureR h (.int _ _) ?_
  simp [execOp, ho, e, convert, run_underlying hsd, run_underlying hd, Conv.intToInt]

/-- What a name stands for. -/
theorem deref_ok (h : FInv c g st a w) {v : V} {r : Value} {o : List Nat} (hr : RelT w g st a v r o) (root : Root) : ∃ ob, RelT w g st a (st.deref root v) r ob := by
  by_cases hrf : ∃ s, v = .rf s
  · obtain ⟨s, rfl⟩ := hrf
    simp only [St.deref]
    split
    · have hat := h.at s
      split
      · rename_i sz xs e
        have := hr.2 (by rw [e]; rfl)
        rw [← this, e] at hat
        exact ⟨_, hat⟩
      · rename_i es e
        have := hr.2 (by rw [e]; rfl)
        rw [← this, e] at hat
        exact ⟨_, hat⟩
      · exact ⟨[], .undef _⟩
    · exact ⟨[], .undef _⟩
  · have : st.deref root v = v := by
      cases v <;> first | rfl | exact absurd ⟨_, rfl⟩ hrf
    rw [this]
    exact ⟨o, hr⟩

theorem Rel.sl_inv {S : Stab} {o : Own} {sz : Nat} {xs : List (List V)} {r : Value} {ob : List Nat} (h : Rel w S (.sl o sz xs) r ob) : ∃ a n cc, r = .slice a n cc ∧ n = xs.length := by
  generalize hv : V.sl o sz xs = v at h
  cases h with
  | sl0 o' sz' a => cases hv; exact ⟨a, 0, 0, rfl, rfl⟩
  | sls sz' xs' a n cc f hn => cases hv; exact ⟨a, n, cc, rfl, hn⟩
  | slo o' sz' xs' b off n cc f C e ho hn => cases hv; exact ⟨_, n, cc, rfl, hn⟩
  | _ => cases hv

theorem Rel.str_inv {S : Stab} {s : ByteArray} {r : Value} {ob : List Nat} (h : Rel w S (.str s) r ob) : r = .string s := by
  generalize hv : V.str s = v at h
  cases h with
  | str s' => cases hv; rfl
  | _ => cases hv

theorem snd_len {o : Oper} {kd : Nat} {root : Root} {t : TypeId} {x : A} {X : Operand} {v : V} {d : TypeDesc} (h : FInv c g st a w) (ho : o.op = .call { callee := .builtin .len, args := #[X], argTypes := #[t] }) (hx : opndOK c.gl x X = true) (px : plainA x = true)
    (hu : c.P.underlying t = some d) {call : FuncId → List V → Option V} (hv : exec call (.len kd root x) st = some (v, st'))
    (h0 : kd = 0 → ∃ e, d = .slice e) (h1 : kd = 1 → d = .string) (h2 : kd = 2 → ∃ k e, d = .map k e) : Out c o a w st' v := by
  simp only [exec] at hv
  obtain ⟨ob, hr⟩ := deref_ok h (opnd h hx px) root
  generalize st.deref root (st.val x) = u at hr hv
  rcases kd with _ | _ | _ | kd
  · cases u <;> simp only [Option.some.injEq, Prod.mk.injEq, reduceCtorEq] at hv
    rename_i ow sz xs
    obtain ⟨rfl, rfl⟩ := hv
    obtain ⟨e', rfl⟩ := h0 rfl
    obtain ⟨ad, n, cc, hX, rfl⟩ := Rel.sl_inv (show Rel w g.S (.sl ow sz xs) (a.eval X) ob from hr)
    exact Out.pureR h (.int _ _) (by simp [execOp, ho, resolve, invoke, builtin, Builtin.len_, run_underlying hu, hX, goInt])
  · cases u <;> simp only [Option.some.injEq, Prod.mk.injEq, reduceCtorEq] at hv
    rename_i s
    obtain ⟨rfl, rfl⟩ := hv
    have := h1 rfl
    subst this
    have hX := Rel.str_inv (show Rel w g.S (.str s) (a.eval X) ob from hr)
    exact Out.pureR h (.int _ _) (by simp [execOp, ho, resolve, invoke, builtin, Builtin.len_, run_underlying hu, hX, goInt])
  · cases u <;> simp only [Option.some.injEq, Prod.mk.injEq, reduceCtorEq] at hv
    rename_i ow es
    obtain ⟨rfl, rfl⟩ := hv
    obtain ⟨k', e', rfl⟩ := h2 rfl
    obtain ⟨es0, r', ents, clock, hp, hX, hb, hl, _⟩ := Rel.mp_inv (show Rel w g.S (.mp ow es) (a.eval X) ob from hr)
    have hobj : (getObj r').run c.P w = .ok (.map ents clock) w := by simp [getObj, Sem.run, hb]
    exact Out.pureR h (.int _ _) (by simp [execOp, ho, resolve, invoke, builtin, Builtin.len_, run_underlying hu, hX, goInt, hobj, hp.length_eq, hl])
  · cases u <;> simp at hv

theorem snd_ext {o : Oper} {i : Nat} {x : A} {X : Operand} {vs : List V} {v : V} (h : FInv c g st a w) (ho : o.op = .extract X i) (hx : opndOK c.gl x X = true) (px : plainA x = true)
    (hr : st.raw x = .tup vs) (hi : vs[i]? = some v) : Out c o a w st (cp v) := by
  obtain ⟨o', hrel⟩ := opndRaw h hx px
  rw [hr] at hrel
  obtain ⟨us, os, hX, -, hl, hl', hel⟩ := Rel.tup_inv (show Rel w g.S (.tup vs) (a.eval X) o' from hrel)
  have hlt := (List.getElem?_eq_some_iff.1 hi).1
  have hu : us[i]? = some us[i] := Array.getElem?_eq_getElem (by omega)
  have ho' : os[i]? = some os[i] := List.getElem?_eq_getElem (by omega)
  exact Out.pureR h (hel i v _ _ hi hu ho').copy (by simp [execOp, ho, Instr.extract, hX, hu])

theorem part_rel {S : Stab} {cs : List V} {us : Array Value} (hl : cs.length = us.size) (hel : ∀ (i : Nat) (c : V) (v : Value), cs[i]? = some c → us[i]? = some v → Rel w S c v []) {ag : Bool} {off sz : Nat} {r : List V} {v : V}
    (hc : cut cs off sz = some r) (hv : mkv ag r = some v) (h1 : ag = false → sz = 1) : Rel w S v (if ag then .agg (us.extract off (off + sz)) else us.getD off Go.undef) [] := by
  obtain ⟨a1, a2, a3⟩ := cut_some hc
  rcases mkv_some hv with ⟨rfl, rfl⟩ | ⟨rfl, e⟩
  · refine .agg _ _ (by simp; omega) fun i y u hy hu => ?_
    obtain ⟨hi, hy'⟩ := a3 i y hy
    refine hel (off + i) y u hy' ?_
    rw [Array.getElem?_extract] at hu
    split at hu
    · exact hu
    · cases hu
  · have := h1 rfl
    subst this
    have hlt : off < us.size := by omega
    simp only [Bool.false_eq_true, if_false, Array.getD, hlt, dif_pos]
    exact hel off v us[off] (by have := (a3 0 v (by rw [e]; rfl)).2; simpa using this) (by simp [hlt])

theorem snd_fld {o : Oper} {ag : Bool} {sz off : Nat} {t : TypeId} {i : Nat} {x : A} {X : Operand} {cs r : List V} {v : V} {fs : Array Field} {f : Field} (h : FInv c g st a w) (ho : o.op = .field t X i) (hx : opndOK c.gl x X = true) (px : plainA x = true)
    (hu : c.P.underlying t = some (.struct fs)) (hf : fs[i]? = some f) (hoff : f.offset = off) (hfu : (c.P.underlying f.type).isSome = true) (hz : (c.P.info? f.type).map (·.size) = some sz) (ha : aggT c.P f.type = ag) (h1 : ag = false → sz = 1)
    (hx' : st.val x = .agg cs) (hc : cut cs off sz = some r) (hv : mkv ag r = some v) : Out c o a w st v := by
  have hr := opnd h hx px
  rw [hx'] at hr
  obtain ⟨-, us, hX, hl, hel⟩ := Rel.agg_inv (show Rel w g.S (.agg cs) (a.eval X) [] from hr)
  obtain ⟨a1, a2, a3⟩ := cut_some hc
  have hp := run_part w hfu hz us (off := off) (by omega) (by rw [ha]; exact h1)
  refine Out.pureR h (part_rel hl hel hc hv h1) ?_
  rw [ha] at hp
  simp [execOp, ho, Instr.field, run_underlying hu, hf, hX, asAgg, hoff, hp]

theorem snd_idxa {o : Oper} {ag : Bool} {sz n : Nat} {t e : TypeId} {x i : A} {X I : Operand} {cs r : List V} {v : V} {kk : IntKind} {k : Int} (h : FInv c g st a w) (ho : o.op = .index t X I) (hx : opndOK c.gl x X = true) (px : plainA x = true) (hi : opndOK c.gl i I = true) (pi : plainA i = true)
    (hu : c.P.underlying t = some (.array n e)) (hfu : (c.P.underlying e).isSome = true) (hz : (c.P.info? e).map (·.size) = some sz) (ha : aggT c.P e = ag) (h1 : ag = false → sz = 1)
    (hx' : st.val x = .agg cs) (hi' : st.val i = .int kk k) (hk : 0 ≤ k ∧ k < n) (hc : cut cs (k.toNat * sz) sz = some r) (hv : mkv ag r = some v) : Out c o a w st v := by
  have hr := opnd h hx px
  rw [hx'] at hr
  obtain ⟨-, us, hX, hl, hel⟩ := Rel.agg_inv (show Rel w g.S (.agg cs) (a.eval X) [] from hr)
  obtain ⟨a1, a2, a3⟩ := cut_some hc
  have hp := run_part w hfu hz us (off := k.toNat * sz) (by omega) (by rw [ha]; exact h1)
  have hI := opnd_int h hi pi hi'
  refine Out.pureR h (part_rel hl hel hc hv h1) ?_
  rw [ha] at hp
  simp [execOp, ho, Instr.index, run_underlying hu, hX, hI, asIntOf, hk.1, hk.2, run_sizeOf' w hz, hp]

theorem snd_idxs {o : Oper} {t : TypeId} {x i : A} {X I : Operand} {s : ByteArray} {kk : IntKind} {k : Int} (h : FInv c g st a w) (ho : o.op = .index t X I) (hx : opndOK c.gl x X = true) (px : plainA x = true) (hi : opndOK c.gl i I = true) (pi : plainA i = true)
    (hu : c.P.underlying t = some .string) (hx' : st.val x = .str s) (hi' : st.val i = .int kk k) (h0 : 0 ≤ k) (hk : k.toNat < s.size) : Out c o a w st (.int .u8 (s[k.toNat]'hk).toNat) := by
  have hX := opnd_str h hx px hx'
  have hI := opnd_int h hi pi hi'
  have hs : s[k.toNat]? = some s[k.toNat] := getElem?_pos s k.toNat hk
  exact Out.pureR h (.int _ _) (by simp [execOp, ho, Instr.index, run_underlying hu, hX, hI, asIntOf, h0, hs])

end Go.Vi
