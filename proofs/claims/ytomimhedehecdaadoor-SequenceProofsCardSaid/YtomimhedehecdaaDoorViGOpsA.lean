import Derived.Test.YtomimhedehecdaaDoorViGFrame
import Derived.Laws.Tables
import Derived.Laws.Cells
import Derived.Laws.Entries
import Derived.Test.YtomimhedehecdaaDoorViEq
section
/- Each operation of the small code against the real one: operations that leave memory alone. -/
namespace Go.Vi

variable {c : Ctx} {g : G} {st st' : St} {a : Act} {w : World}

/-- What an operation comes to. -/
def Out (c : Ctx) (o : Oper) (a : Act) (w : World) (st' : St) (v : V) : Prop :=
  (∃ rv w', (execOp a.eval o).run c.P w = .ok (.value rv) w' ∧ ∃ g ov, Held c g st' a w' [(v, rv, ov)]) ∨
  (o.dst = none ∧ ∃ w', (execOp a.eval o).run c.P w = .ok .skip w' ∧ ∃ g, FInv c g st' a w') ∨
  (∃ f args, (execOp a.eval o).run c.P w = .ok (.enter f args) w ∧ Calls c.P f args w fun e w' => ∃ rv, e = .returned rv ∧ ∃ g ov, Held c g st' a w' [(v, rv, ov)])

theorem Out.pure {o : Oper} {v : V} {rv : Value} (h : FInv c g st a w) (hr : RelT w g st a v rv []) (hrun : (execOp a.eval o).run c.P w = .ok (.value rv) w) : Out c o a w st v :=
  .inl ⟨rv, w, hrun, g, [], by simpa using (Held.nil h).push0 hr⟩

theorem Out.pureR {o : Oper} {v : V} {rv : Value} (h : FInv c g st a w) (hr : Rel w g.S v rv []) (hrun : (execOp a.eval o).run c.P w = .ok (.value rv) w) : Out c o a w st v :=
  Out.pure h (.of_rel hr) hrun

def plainA : A → Bool
  | .m .. => false
  | _ => true

/-- A plain operand. -/
theorem opnd (h : FInv c g st a w) {x : A} {X : Operand} (hok : opndOK c.gl x X = true) (hp : plainA x = true) : RelT w g st a (st.val x) (a.eval X) [] := by
  cases x with
  | t n => cases X <;> simp only [opndOK, beq_iff_eq, Bool.false_eq_true] at hok; subst hok; exact h.copy n
  | m o n => cases hp
  | c v => exact .of_rel (const_rel h hok)

/-- What the forms of an operand tell of the real value. -/
theorem opnd_int (h : FInv c g st a w) {x : A} {X : Operand} (hok : opndOK c.gl x X = true) (hp : plainA x = true) {k : IntKind} {n : Int} (hv : st.val x = .int k n) : a.eval X = .int k n := by
  have hr := opnd h hok hp
  rw [hv] at hr
  generalize a.eval X = r at hr ⊢
  cases hr; rfl
theorem opnd_bool (h : FInv c g st a w) {x : A} {X : Operand} (hok : opndOK c.gl x X = true) (hp : plainA x = true) {b : Bool} (hv : st.val x = .bool b) : a.eval X = .bool b := by
  have hr := opnd h hok hp
  rw [hv] at hr
  generalize a.eval X = r at hr ⊢
  cases hr; rfl
theorem opnd_str (h : FInv c g st a w) {x : A} {X : Operand} (hok : opndOK c.gl x X = true) (hp : plainA x = true) {s : ByteArray} (hv : st.val x = .str s) : a.eval X = .string s := by
  have hr := opnd h hok hp
  rw [hv] at hr
  generalize a.eval X = r at hr ⊢
  cases hr; rfl

/-- One operand, handed on or not, whose value goes into a slot. -/
theorem opnd1 (h : FInv c g st a w) {x : A} {X : Operand} (hok : opndOK c.gl x X = true) : ∃ g' ov, Held c g' (st.gone [x]) a w [(st.val x, a.eval X, ov)] ∧ (∀ b k, g.S b k → g'.S b k) ∧ g'.β = g.β ∧ g'.OB = g.OB := by
  obtain ⟨g', os, h1, h2, h3, h4, h5⟩ := Held.opnds [x] [X] st g [] (.nil h) (by simp [opndsOK, hok]) (by cases x <;> simp [once])
  match os, h2 with
  | [ov], _ => exact ⟨g', ov, by simpa using h1, h3, h4, h5⟩

theorem snd_mv {o : Oper} {x : A} {X : Operand} (h : FInv c g st a w) (ho : o.op = .move X ∨ o.op = .assign X) (hok : opndOK c.gl x X = true) : Out c o a w (st.gone [x]) (st.val x) := by
  obtain ⟨g', ov, h1, _⟩ := opnd1 h hok
  exact .inl ⟨_, w, by rcases ho with ho | ho <;> simp [execOp, ho], g', ov, h1⟩

theorem snd_pick {o : Oper} {x y z : A} {X Y Z : Operand} (h : FInv c g st a w) (ho : o.op = .pick X Y Z) (hx : opndOK c.gl x X = true) (hy : opndOK c.gl y Y = true) (hz : opndOK c.gl z Z = true)
    (px : plainA x = true) (py : plainA y = true) (pz : plainA z = true) {b : Bool} (hb : st.val x = .bool b) : Out c o a w st (if b then st.val y else st.val z) := by
  have e := opnd_bool h hx px hb
  refine Out.pure (rv := if b then a.eval Y else a.eval Z) h ?_ (by simp [execOp, ho, e, asBool])
  cases b
  · exact opnd h hz pz
  · exact opnd h hy py

theorem snd_un {o : Oper} {op : UnOp} {t : TypeId} {x : A} {X : Operand} (h : FInv c g st a w) (ho : o.op = .unOp op t X) (hx : opndOK c.gl x X = true) (px : plainA x = true) {v : V} (hv : unv op (st.val x) = some v) : Out c o a w st v := by
  cases hx' : st.val x <;> rw [hx'] at hv <;> simp only [unv, reduceCtorEq] at hv
  · rename_i b
    have e := opnd_bool h hx px hx'
    cases op <;> simp only [Option.some.injEq, reduceCtorEq] at hv
    subst hv
    exact Out.pureR h (.bool _) (by simp [execOp, ho, e, Op.unary])
  · rename_i k n
    have e := opnd_int h hx px hx'
    cases op <;> simp only [Option.some.injEq, reduceCtorEq] at hv
    subst hv
    exact Out.pureR h (.int _ _) (by simp [execOp, ho, e, Op.unary, Op.intArith])

theorem intArith_run (P : Program) (w : World) (t : TypeId) {op : BinOp} {k : IntKind} {x y : Int} {v : V} (h : ibin op k x y = some v) : ∃ rv, (binOp op t (.int k x) (.int k y)).run P w = .ok rv w ∧ ∀ S : Stab, Rel w S v rv [] := by
  cases op <;> simp only [ibin, reduceCtorEq] at h
  case quo =>
    split at h
    · cases h
    · rename_i hy; cases h; exact ⟨_, by simp [binOp, Op.intDiv, hy], fun _ => .int _ _⟩
  case rem =>
    split at h
    · cases h
    · rename_i hy; cases h; exact ⟨_, by simp [binOp, Op.intDiv, hy], fun _ => .int _ _⟩
  all_goals
    cases h
    first
      | exact ⟨_, by simp only [binOp, ne_eq, not_true_eq_false, if_false]; rfl, fun _ => .int _ _⟩
      | exact ⟨_, by simp only [binOp, ne_eq, not_true_eq_false, if_false]; rfl, fun _ => .bool _⟩

theorem str_run (P : Program) (w : World) (t : TypeId) {op : BinOp} {x y : ByteArray} {v : V} (h : sbin op x y = some v) : ∃ rv, (binOp op t (.string x) (.string y)).run P w = .ok rv w ∧ ∀ S : Stab, Rel w S v rv [] := by
  cases op <;> simp only [sbin, reduceCtorEq] at h
  case add =>
    split at h
    · rename_i hle
      cases h
      refine ⟨.string (x ++ y), ?_, fun _ => .str _⟩
      simp [binOp, Op.stringOp]
      omega
    · cases h
  all_goals
    cases h
    first
      | exact ⟨_, by simp only [binOp, Op.stringOp]; rfl, fun _ => .bool _⟩

theorem rel_vk {S : Stab} {k : Lk} {x y : V} {u v : Value} {o o' : List Nat} {b : Bool} (hx : Rel w S x u o) (hy : Rel w S y v o') (h : leq1 k x y = some b) : vk k u v = some b := by
  cases k <;> cases x <;> simp only [leq1, reduceCtorEq] at h <;> cases y <;> simp only [reduceCtorEq] at h <;> cases hx <;> cases hy <;> simpa [vk] using h

theorem rel_vks {S : Stab} : ∀ {ks : List Lk} {xs ys : List V} {us vs : List Value} {b : Bool}, leqs ks xs ys = some b → xs.length = us.length → ys.length = vs.length →
    (∀ (i : Nat) (x : V) (u : Value), xs[i]? = some x → us[i]? = some u → Rel w S x u []) → (∀ (i : Nat) (y : V) (v : Value), ys[i]? = some y → vs[i]? = some v → Rel w S y v []) → vks ks us vs = some b
  | [], [], [], [], [], b, h, _, _, _, _ => by simpa [leqs, vks] using h
  | k :: ks, x :: xs, y :: ys, u :: us, v :: vs, b, h, h1, h2, hx, hy => by
    simp only [leqs] at h
    split at h
    · rename_i p q e1 e2
      cases h
      have r1 := rel_vk (hx 0 x u (by simp) (by simp)) (hy 0 y v (by simp) (by simp)) e1
      have r2 := rel_vks e2 (by simpa using h1) (by simpa using h2) (fun i x u a b => hx (i + 1) x u (by simpa using a) (by simpa using b)) (fun i x u a b => hy (i + 1) x u (by simpa using a) (by simpa using b))
      simp [vks, r1, r2]
    · cases h
  | [], _ :: _, _, _, _, _, h, _, _, _, _ => by simp [leqs] at h
  | [], [], _ :: _, _, _, _, h, _, _, _, _ => by simp [leqs] at h
  | _ :: _, [], _, _, _, _, h, _, _, _, _ => by simp [leqs] at h
  | _ :: _, _ :: _, [], _, _, _, h, _, _, _, _ => by simp [leqs] at h
  | [], [], [], _ :: _, _, _, _, h1, _, _, _ => by simp at h1
  | [], [], [], [], _ :: _, _, _, _, h2, _, _ => by simp at h2
  | _ :: _, _ :: _, _ :: _, [], _, _, _, h1, _, _, _ => by simp at h1
  | _ :: _, _ :: _, _ :: _, _ :: _, [], _, _, _, h2, _, _ => by simp at h2

def plain1 : V → Bool
  | .int .. | .bool _ | .str _ => true
  | _ => false

theorem Rel.plain {S : Stab} {x : V} {u : Value} {o : List Nat} (h : Rel w S x u o) (hp : plain1 x = true) : o = [] ∧ u.cells = #[u] := by
  cases h <;> simp_all [plain1, Value.cells]

theorem leqs_leaf : ∀ {ks : List Lk} {xs ys : List V} {b : Bool}, leqs ks xs ys = some b → (∀ x ∈ xs, plain1 x = true) ∧ ∀ y ∈ ys, plain1 y = true
  | [], [], [], _, _ => by simp
  | k :: ks, x :: xs, y :: ys, b, h => by
    simp only [leqs] at h
    split at h
    · rename_i p q e1 e2
      have ih := leqs_leaf e2
      have : plain1 x = true ∧ plain1 y = true := by
        cases k <;> cases x <;> simp only [leq1, reduceCtorEq] at e1 <;> cases y <;> simp_all [plain1]
      simp only [List.mem_cons, forall_eq_or_imp]
      exact ⟨⟨this.1, ih.1⟩, this.2, ih.2⟩
    · cases h
  | [], _ :: _, _, _, h => by simp [leqs] at h
  | [], [], _ :: _, _, h => by simp [leqs] at h
  | _ :: _, [], _, _, h => by simp [leqs] at h
  | _ :: _, _ :: _, [], _, h => by simp [leqs] at h

/-- Values of a type whose cells are of some kinds. -/
theorem rel_cellsAg {S : Stab} {ag : Bool} {x : V} {u : Value} {o : List Nat} {xs : List V} (h : Rel w S x u o) (hc : cellsAg ag x = some xs) (hl : ∀ y ∈ xs, plain1 y = true) :
    (ag = true → ∃ us, u = .agg us) ∧ (ag = false → u.cells = #[u]) ∧ xs.length = u.cells.toList.length ∧ ∀ (i : Nat) (x : V) (v : Value), xs[i]? = some x → u.cells.toList[i]? = some v → Rel w S x v [] := by
  cases ag with
  | true =>
    cases x <;> simp only [cellsAg, reduceCtorEq, Option.some.injEq] at hc
    subst hc
    cases h with
    | agg cs vs hlen hr => exact ⟨fun _ => ⟨vs, rfl⟩, fun h => (by cases h), by simpa [Value.cells] using hlen, fun i x v h1 h2 => hr i x v h1 (by simpa [Value.cells] using h2)⟩
  | false =>
    have hxs : xs = [x] := by cases x <;> simp_all [cellsAg]
    subst hxs
    obtain ⟨rfl, h1⟩ := h.plain (hl x (by simp))
    refine ⟨fun h => (by cases h), fun _ => h1, by simp [h1], ?_⟩
    intro i y v h2 h3
    rw [h1] at h3
    cases i with
    | zero => simp at h2 h3; subst h2 h3; exact h
    | succ i => simp at h2

/-- '==' as the model has it, of values of plain kinds. -/
theorem leqv_ok {P : Program} {S : Stab} {ag : Bool} {ks : List Lk} {x y : V} {u v : Value} {o o' : List Nat} {b : Bool} (hx : Rel w S x u o) (hy : Rel w S y v o') (h : leqv ag ks x y = some b)
    {d : Nat} {t : TypeId} (hk : kindsOf P d t = some ks) (ha : aggT P t = ag) : (Op.equalIn d t u v).run P w = .ok b w := by
  unfold leqv at h
  split at h
  · rename_i xs ys e1 e2
    have hl := leqs_leaf h
    obtain ⟨a1, a2, a3, a4⟩ := rel_cellsAg hx e1 hl.1
    obtain ⟨b1, b2, b3, b4⟩ := rel_cellsAg hy e2 hl.2
    refine equalIn_ok d t ks hk u v b (fun hg => ?_) (fun hg => ?_) (rel_vks h a3 b3 a4 b4) w
    · obtain ⟨us, rfl⟩ := a1 (ha.symm.trans hg)
      obtain ⟨vs, rfl⟩ := b1 (ha.symm.trans hg)
      exact ⟨us, vs, rfl, rfl⟩
    · exact ⟨a2 (ha.symm.trans hg), b2 (ha.symm.trans hg)⟩
  · cases h

theorem RelT.rel' {v : V} {r : Value} {o : List Nat} (h : RelT w g st a v r o) {ag : Bool} {xs : List V} (hc : cellsAg ag v = some xs) (hp : ∀ y ∈ xs, plain1 y = true) : Rel w g.S v r o := by
  refine h.rel ⟨fun d f e => ?_, fun t i f e => ?_, fun t e => ?_⟩
  all_goals
    subst e
    cases ag <;> simp only [cellsAg, reduceCtorEq, Option.some.injEq] at hc
    subst hc
    have := hp _ (List.mem_singleton.2 rfl)
    cases this

theorem leqv_parts {ag : Bool} {ks : List Lk} {x y : V} {b : Bool} (h : leqv ag ks x y = some b) : ∃ xs ys, cellsAg ag x = some xs ∧ cellsAg ag y = some ys ∧ leqs ks xs ys = some b := by
  unfold leqv at h
  split at h
  · rename_i xs ys e1 e2; exact ⟨xs, ys, e1, e2, h⟩
  · cases h

theorem snd_eqs {o : Oper} {ag neg : Bool} {ks : List Lk} {t t' : TypeId} {x y : A} {X Y : Operand} {b : Bool} (h : FInv c g st a w) (ho : o.op = .binOp (if neg then .neq else .eql) t X Y t') (hx : opndOK c.gl x X = true) (hy : opndOK c.gl y Y = true)
    (px : plainA x = true) (py : plainA y = true) (hk : kindsOf c.P Op.maxDepth t = some ks) (ha : aggT c.P t = ag) (hg : ag = true → c.P.eqGuardType c.P.depth t = false) (hi : ag = false → ks = [.b])
    (hv : leqv ag ks (st.val x) (st.val y) = some b) : Out c o a w st (.bool (if neg then !b else b)) := by
  obtain ⟨xs, ys, e1, e2, e3⟩ := leqv_parts hv
  have hl := leqs_leaf e3
  have rx := (opnd h hx px).rel' e1 hl.1
  have ry := (opnd h hy py).rel' e2 hl.2
  have hrun := leqv_ok rx ry hv hk ha
  refine Out.pureR h (.bool _) ?_
  have hgd : (eqGuard (if neg then .neq else .eql) t X Y (a.eval X) (a.eval Y)).run c.P w = .ok () w := by
    cases ag with
    | true =>
      obtain ⟨us, hu⟩ := (rel_cellsAg rx e1 hl.1).1 rfl
      obtain ⟨vs, hv'⟩ := (rel_cellsAg ry e2 hl.2).1 rfl
      rw [hu, hv']
      exact run_eqGuard_agg w _ t X Y us vs (hg rfl)
    | false =>
      have hks := hi rfl
      subst hks
      have : ∃ p, st.val x = .bool p := by
        cases hvx : st.val x <;> rw [hvx] at e1 <;> simp only [cellsAg, reduceCtorEq, Option.some.injEq] at e1 <;> subst e1 <;> (cases ys <;> simp only [leqs, leq1, reduceCtorEq] at e3)
        · exact ⟨_, rfl⟩
      obtain ⟨p, hp⟩ := this
      rw [opnd_bool h hx px hp]
      rw [eqGuard_at_bool]
      rfl
  have hbin : (binOp (if neg then .neq else .eql) t (a.eval X) (a.eval Y)).run c.P w = .ok (.bool (if neg then !b else b)) w := by
    cases ag with
    | true =>
      obtain ⟨us, hu⟩ := (rel_cellsAg rx e1 hl.1).1 rfl
      obtain ⟨vs, hv'⟩ := (rel_cellsAg ry e2 hl.2).1 rfl
      rw [hu, hv'] at hrun ⊢
      cases neg <;> simp [binOp, Op.equal, hrun]
    | false =>
      have hks := hi rfl
      subst hks
      have : ∃ p q, st.val x = .bool p ∧ st.val y = .bool q := by
        cases hvx : st.val x <;> rw [hvx] at e1 <;> simp only [cellsAg, reduceCtorEq, Option.some.injEq] at e1 <;> subst e1 <;>
          cases hvy : st.val y <;> rw [hvy] at e2 <;> simp only [cellsAg, reduceCtorEq, Option.some.injEq] at e2 <;> subst e2 <;> simp only [leqs, leq1, reduceCtorEq] at e3
        · exact ⟨_, _, rfl, rfl⟩
      obtain ⟨p, q, hp, hq⟩ := this
      rw [opnd_bool h hx px hp, opnd_bool h hy py hq] at hrun ⊢
      cases neg <;> simp [binOp, Op.equal, hrun]
  simp [execOp, ho, hgd, hbin]

theorem snd_bin {o : Oper} {op : BinOp} {t t' : TypeId} {x y : A} {X Y : Operand} {v : V} (h : FInv c g st a w) (ho : o.op = .binOp op t X Y t') (hx : opndOK c.gl x X = true) (hy : opndOK c.gl y Y = true)
    (px : plainA x = true) (py : plainA y = true) (hv : binv op (st.val x) (st.val y) = some v) : Out c o a w st v := by
  unfold binv at hv
  split at hv
  · rename_i k p k' q e1 e2
    have ex := opnd_int h hx px e1
    have ey := opnd_int h hy py e2
    have hgd : eqGuard op t X Y (.int k p) (.int k' q) = pure () := eqGuard_at_int _ _ _ _ _ _ _
    split at hv
    · split at hv
      · rename_i hq; cases hv
        refine Out.pureR h (.int _ _) (by simp [execOp, ho, ex, ey, hgd, binOp, Op.shift, show ¬ q < 0 by omega])
      · cases hv
    · split at hv
      · rename_i hq; cases hv
        refine Out.pureR h (.int _ _) (by simp [execOp, ho, ex, ey, hgd, binOp, Op.shift, show ¬ q < 0 by omega])
      · cases hv
    · rename_i n1 n2
      split at hv
      · rename_i hk
        subst hk
        obtain ⟨rv, hrun, hrel⟩ := intArith_run c.P w t hv
        exact Out.pureR h (hrel _) (by simp [execOp, ho, ex, ey, hgd, hrun])
      · cases hv
  · rename_i p q e1 e2
    have ex := opnd_str h hx px e1
    have ey := opnd_str h hy py e2
    have hgd : eqGuard op t X Y (.string p) (.string q) = pure () := eqGuard_at_string _ _ _ _ _ _
    obtain ⟨rv, hrun, hrel⟩ := str_run c.P w t hv
    exact Out.pureR h (hrel _) (by simp [execOp, ho, ex, ey, hgd, hrun])
  · cases hv

end Go.Vi
end
section
/- Operations that read memory, and pointers. -/
namespace Go.Vi
variable {c : Ctx} {g : G} {st st' : St} {a : Act} {w : World}

theorem opndRaw (h : FInv c g st a w) {x : A} {X : Operand} (hok : opndOK c.gl x X = true) (hp : plainA x = true) : ∃ o, RelT w g st a (st.raw x) (a.eval X) o := by
  cases x with
  | t n => cases X <;> simp only [opndOK, beq_iff_eq, Bool.false_eq_true] at hok; subst hok; exact ⟨_, h.at n⟩
  | m o n => cases hp
  | c v => exact ⟨_, .of_rel (const_rel h hok)⟩

theorem cut_some {cs r : List V} {off sz : Nat} (h : cut cs off sz = some r) : off + sz ≤ cs.length ∧ r.length = sz ∧ ∀ j y, r[j]? = some y → j < sz ∧ cs[off + j]? = some y := by
  unfold cut at h
  split at h
  · rename_i hle
    cases h
    refine ⟨hle, by simp; omega, fun j y hy => ?_⟩
    rw [List.getElem?_take] at hy
    split at hy
    · exact ⟨by assumption, by simpa [List.getElem?_drop] using hy⟩
    · cases hy
  · cases h

/-- What lies behind a pointer. -/
theorem cells_ok (h : FInv c g st a w) {p : V} {r : Value} {o : List Nat} (hr : RelT w g st a p r o) {root : Root} {sz : Nat} {cs : List V} (hc : st.cells root p sz = some cs) :
    ∃ (b q : Nat) (f : Nat → Value), r = .pointer (some ⟨b, q, none⟩) ∧ cs.length = sz ∧ ∀ j, j < sz → w.cell? ⟨b, q + j, none⟩ = some (f j) ∧ ∀ y, cs[j]? = some y → ∃ o, Rel w g.S y (f j) o := by
  cases p <;> simp only [St.cells, reduceCtorEq] at hc
  case ptr ps off =>
    obtain ⟨h1, h2, h3⟩ := cut_some hc
    obtain ⟨-, b, o0, f, rfl, hcell, hrel⟩ := Rel.ptr_inv (show Rel w g.S (.ptr ps off) r o from hr)
    refine ⟨b, o0 + off, fun j => f (off + j), rfl, h2, fun j hj => ⟨?_, fun y hy => ?_⟩⟩
    · have := (hcell (off + j) (by omega)).2
      rwa [← Nat.add_assoc] at this
    · exact ⟨[], hrel _ _ (h3 j y hy).2⟩
  case loc d off =>
    split at hc
    · simp only [Option.bind_eq_some_iff] at hc
      obtain ⟨⟨fr, bs⟩, hb, hcut⟩ := hc
      obtain ⟨h1, h2, h3⟩ := cut_some hcut
      dsimp only at h1 h3
      have hr' := hr.2
      cases fr with
      | false =>
        obtain ⟨C, e, os, e1, e2, e3, e4, _, _⟩ := h.bxf d bs hb
        refine ⟨g.β d, off, fun j => C.getD (off + j) Go.undef, hr', h2, fun j hj => ?_⟩
        have hlt : off + j < C.size := by omega
        refine ⟨by simp [World.cell?, e1, Array.getD, hlt], fun y hy => ?_⟩
        have hos : ∃ ob, os[off + j]? = some ob := ⟨_, List.getElem?_eq_getElem (by omega)⟩
        obtain ⟨ob, hob⟩ := hos
        exact ⟨ob, e4 _ _ _ _ (h3 j y hy).2 (by simp [Array.getD, hlt]) hob⟩
      | true =>
        obtain ⟨-, b, o0, f, ha, hcell, hrel⟩ := ((h.bxt d bs hb).2).ptr_inv
        simp only [Nat.add_zero, Value.pointer.injEq, Option.some.injEq, Addr.mk.injEq, and_true] at ha
        obtain ⟨rfl, rfl⟩ := ha
        refine ⟨g.β d, off, fun j => f (off + j), hr', h2, fun j hj => ⟨?_, fun y hy => ⟨[], hrel _ _ (h3 j y hy).2⟩⟩⟩
        have := (hcell (off + j) (by omega)).2
        rwa [Nat.zero_add] at this
    · cases hc
  case el t i off =>
    split at hc
    · have hat := h.at t
      split at hc
      · rename_i sz' xs hx
        rw [hx] at hat
        obtain ⟨b, q, n, cc, ht, hr'⟩ := hr.2 sz' xs hx
        rw [ht] at hat
        simp only [Option.bind_eq_some_iff] at hc
        obtain ⟨row, hrow, hcut⟩ := hc
        obtain ⟨h1, h2, h3⟩ := cut_some hcut
        have hi : i < xs.length := (List.getElem?_eq_some_iff.1 hrow).1
        rcases Rel.slx_inv (show Rel w g.S (.sl .x sz' xs) (.slice (some ⟨b, q, none⟩) n cc) (g.O t) from hat) with ⟨h0, _⟩ | ⟨b', q', n', c', f, C, e, ha, ho, hn, hx2, hb, hsz, hc2, hf, hN, hrel⟩
        · subst h0; simp at hi
        · cases ha
          have hlen := hx2 i row hrow
          refine ⟨b, q + (i * sz' + off), fun j => f i (off + j), hr', h2, fun j hj => ⟨?_, fun y hy => ⟨[], hrel i row (off + j) y hrow (h3 j y hy).2⟩⟩⟩
          have := hf i (off + j) hi (by omega)
          simp only [World.cell?, hb]
          rw [show q + (i * sz' + off) + j = q + (i * sz' + (off + j)) by omega]
          simpa using this
      · cases hc
    · cases hc

theorem mkv_some {ag : Bool} {cs : List V} {v : V} (h : mkv ag cs = some v) : (ag = true ∧ v = .agg cs) ∨ (ag = false ∧ cs = [v]) := by
  unfold mkv at h
  cases ag with
  | true => simp at h; exact .inl ⟨rfl, h.symm⟩
  | false =>
    simp only [Bool.false_eq_true, if_false] at h
    split at h
    · cases h; exact .inr ⟨rfl, rfl⟩
    · cases h

/-- A variable is read. -/
theorem run_loadVar {P : Program} {t : TypeId} {b q sz : Nat} {f : Nat → Value} (hu : (P.underlying t).isSome = true) (hz : (P.info? t).map (·.size) = some sz) (h1 : aggT P t = false → sz = 1)
    (hc : ∀ j, j < sz → w.cell? ⟨b, q + j, none⟩ = some (f j)) :
    (loadVar t ⟨b, q, none⟩).run P w = .ok (if aggT P t then .agg ((List.range sz).map f).toArray else f 0) w := by
  cases hg : aggT P t with
  | true =>
    have := run_loadCells (P := P) w ⟨b, q, none⟩ sz f (fun j hj => by
      rw [Addr.add_lit]; exact hc j hj)
    simp [loadVar, run_isAgg' w hu, hg, run_sizeOf' w hz, this]
  | false =>
    have hsz := h1 hg
    subst hsz
    have h0 := hc 0 (by omega)
    simp only [Nat.add_zero] at h0
    simp [loadVar, run_isAgg' w hu, hg, h0]

theorem snd_load {o : Oper} {root : Root} {ag : Bool} {sz : Nat} {t : TypeId} {p : A} {X : Operand} {cs : List V} {v : V} (h : FInv c g st a w) (ho : o.op = .load t X) (hx : opndOK c.gl p X = true) (pp : plainA p = true)
    (hu : (c.P.underlying t).isSome = true) (hz : (c.P.info? t).map (·.size) = some sz) (ha : aggT c.P t = ag) (h1 : ag = false → sz = 1)
    (hc : st.cells root (st.raw p) sz = some cs) (hv : mkv ag (cps cs) = some v) : Out c o a w st v := by
  obtain ⟨o', hr⟩ := opndRaw h hx pp
  obtain ⟨b, q, f, e1, e2, e3⟩ := cells_ok h hr hc
  have hrun := run_loadVar (w := w) (P := c.P) (f := f) (b := b) (q := q) hu hz (by rw [ha]; exact h1) (fun j hj => (e3 j hj).1)
  have hcp : ∀ j, j < sz → ∀ y, (cps cs)[j]? = some y → Rel w g.S y (f j) [] := by
    intro j hj y hy
    simp only [cps, List.getElem?_map, Option.map_eq_some_iff] at hy
    obtain ⟨y', hy', rfl⟩ := hy
    obtain ⟨ob, hrel⟩ := (e3 j hj).2 y' hy'
    exact hrel.copy
  refine Out.pureR h (rv := if ag then .agg ((List.range sz).map f).toArray else f 0) ?_ (by simp [execOp, ho, Instr.loadAt, Instr.sureAddr, e1, hrun, ha])
  rcases mkv_some hv with ⟨rfl, rfl⟩ | ⟨rfl, e⟩
  · refine .agg _ _ (by simp [cps, e2]) fun i y u hy hu' => ?_
    have hi : i < sz := by
      have := (List.getElem?_eq_some_iff.1 hy).1
      simpa [cps, e2] using this
    have : u = f i := by
      simp [hi] at hu'
      exact hu'.symm
    subst this
    exact hcp i hi y hy
  · have hs := h1 rfl
    subst hs
    exact hcp 0 (by omega) v (by rw [e]; rfl)

/-- A field of a pointer's struct. -/
theorem snd_faddr {o : Oper} {root : Root} {call : FuncId → List V → Option V} {off : Nat} {t : TypeId} {i : Nat} {p : A} {X : Operand} {v : V} {fs : Array Field} {f : Field} (h : FInv c g st a w) (ho : o.op = .fieldAddr t X i) (hx : opndOK c.gl p X = true) (pp : plainA p = true)
    (hu : c.P.underlying t = some (.struct fs)) (hf : fs[i]? = some f) (hoff : f.offset = off) (hz : ∃ z, (c.P.info? f.type).map (·.size) = some (z + 1))
    (hv : exec call (.faddr root off p) st = some (v, st')) : Out c o a w st' v := by
  simp only [exec] at hv
  obtain ⟨o', hr⟩ := opndRaw h hx pp
  obtain ⟨z, hz⟩ := hz
  have run : ∀ b q, a.eval X = .pointer (some ⟨b, q, none⟩) → (execOp a.eval o).run c.P w = .ok (.value (.pointer (some ⟨b, q + off, none⟩))) w := by
    intro b q e
    simp [execOp, ho, Instr.fieldAt, run_underlying hu, hf, Instr.sureAddr, e, fieldPlace, run_sizeOf' w hz, Addr.add_lit, hoff]
  generalize st.raw p = pv at hr hv
  generalize hX : a.eval X = r at hr
  cases pv <;> simp only [Option.some.injEq, Prod.mk.injEq, reduceCtorEq] at hv
  case ptr ps k =>
    obtain ⟨rfl, rfl⟩ := hv
    obtain ⟨-, b, o0, f', rfl, hcell, hrel⟩ := Rel.ptr_inv (show Rel w g.S (.ptr ps k) r o' from hr)
    refine Out.pureR h ?_ (run _ _ hX)
    have := Rel.ptr (w := w) (S := g.S) ps (k + off) b o0 f' hcell hrel
    rwa [← Nat.add_assoc] at this
  case loc d k =>
    obtain ⟨rfl, rfl⟩ := hv
    exact Out.pure h ⟨rfl, rfl⟩ (run _ _ (hX.trans hr.2))
  case el s j k =>
    split at hv
    · split at hv
      · rename_i sz xs hsx
        cases hv
        obtain ⟨b, q, n, cc, e1, e2⟩ := hr.2 sz xs hsx
        refine Out.pure h ⟨rfl, fun sz' xs' hsx' => ?_⟩ (run _ _ (hX.trans e2))
        rw [hsx] at hsx'
        cases hsx'
        exact ⟨b, q, n, cc, e1, by rw [show q + (j * sz + (k + off)) = q + (j * sz + k) + off by omega]⟩
      · cases hv
    · cases hv

theorem bool_eq {α : Type} {p : Prop} [Decidable p] {x y : α} (h : p) : (if p then x else y) = x := if_pos h

theorem snd_nilchk {o : Oper} {x : A} {X : Operand} {v : V} (h : FInv c g st a w) (ho : o.op = .nilCheck X) (hx : opndOK c.gl x X = true) (px : plainA x = true)
    (hv : (match st.raw x with | .ptr cs off => some (V.ptr cs off) | .loc d off => some (.loc d off) | _ => none) = some v) : Out c o a w st v := by
  obtain ⟨o', hr⟩ := opndRaw h hx px
  have run : ∀ p, a.eval X = .pointer (some p) → (execOp a.eval o).run c.P w = .ok (.value (.pointer (some p))) w := by
    intro p e
    simp [execOp, ho, e]
  generalize st.raw x = pv at hr hv
  generalize hX : a.eval X = r at hr
  cases pv <;> simp only [Option.some.injEq, reduceCtorEq] at hv
  case ptr ps k =>
    subst hv
    obtain ⟨-, b, o0, f', rfl, hcell, hrel⟩ := Rel.ptr_inv (show Rel w g.S (.ptr ps k) r o' from hr)
    exact Out.pureR h (.ptr _ _ _ _ _ hcell hrel) (run _ hX)
  case loc d k =>
    subst hv
    exact Out.pure h ⟨rfl, rfl⟩ (run _ (hX.trans hr.2))

theorem snd_conv {o : Oper} {k k' : IntKind} {s d : TypeId} {x : A} {X : Operand} {n : Int} (h : FInv c g st a w) (ho : o.op = .convert s d X) (hx : opndOK c.gl x X = true) (px : plainA x = true)
    (hs : (c.P.underlying s).isSome = true) (hd : c.P.underlying d = some (.int k)) (hv : st.val x = .int k' n) : Out c o a w st (.int k (k.wrap n)) := by
  have e := opnd_int h hx px hv
  obtain ⟨sd, hsd⟩ := Option.isSome_iff_exists.1 hs
  refine Out.pureR h (.int _ _) ?_
  simp [execOp, ho, e, convert, run_underlying hsd, run_underlying hd, Conv.intToInt]

/-- What a name stands for. -/
theorem deref_ok (h : FInv c g st a w) {v : V} {r : Value} {o : List Nat} (hr : RelT w g st a v r o) (root : Root) : ∃ ob, RelT w g st a (st.deref root v) r ob := by
  by_cases hrf : ∃ s, v = .rf s
  · obtain ⟨s, rfl⟩ := hrf
    simp only [St.deref]
    split
    · have hat := h.at s
      split
      · rename_i sz xs e
        have := hr.2 (by rw [e]; rfl)
        rw [← this, e] at hat
        exact ⟨_, hat⟩
      · rename_i es e
        have := hr.2 (by rw [e]; rfl)
        rw [← this, e] at hat
        exact ⟨_, hat⟩
      · exact ⟨[], .undef _⟩
    · exact ⟨[], .undef _⟩
  · have : st.deref root v = v := by
      cases v <;> first | rfl | exact absurd ⟨_, rfl⟩ hrf
    rw [this]
    exact ⟨o, hr⟩

theorem Rel.sl_inv {S : Stab} {o : Own} {sz : Nat} {xs : List (List V)} {r : Value} {ob : List Nat} (h : Rel w S (.sl o sz xs) r ob) : ∃ a n cc, r = .slice a n cc ∧ n = xs.length := by
  generalize hv : V.sl o sz xs = v at h
  cases h with
  | sl0 o' sz' a => cases hv; exact ⟨a, 0, 0, rfl, rfl⟩
  | sls sz' xs' a n cc f hn => cases hv; exact ⟨a, n, cc, rfl, hn⟩
  | slo o' sz' xs' b off n cc f C e ho hn => cases hv; exact ⟨_, n, cc, rfl, hn⟩
  | _ => cases hv

theorem Rel.str_inv {S : Stab} {s : ByteArray} {r : Value} {ob : List Nat} (h : Rel w S (.str s) r ob) : r = .string s := by
  generalize hv : V.str s = v at h
  cases h with
  | str s' => cases hv; rfl
  | _ => cases hv

theorem snd_len {o : Oper} {kd : Nat} {root : Root} {t : TypeId} {x : A} {X : Operand} {v : V} {d : TypeDesc} (h : FInv c g st a w) (ho : o.op = .call { callee := .builtin .len, args := #[X], argTypes := #[t] }) (hx : opndOK c.gl x X = true) (px : plainA x = true)
    (hu : c.P.underlying t = some d) {call : FuncId → List V → Option V} (hv : exec call (.len kd root x) st = some (v, st'))
    (h0 : kd = 0 → ∃ e, d = .slice e) (h1 : kd = 1 → d = .string) (h2 : kd = 2 → ∃ k e, d = .map k e) : Out c o a w st' v := by
  simp only [exec] at hv
  obtain ⟨ob, hr⟩ := deref_ok h (opnd h hx px) root
  generalize st.deref root (st.val x) = u at hr hv
  rcases kd with _ | _ | _ | kd
  · cases u <;> simp only [Option.some.injEq, Prod.mk.injEq, reduceCtorEq] at hv
    rename_i ow sz xs
    obtain ⟨rfl, rfl⟩ := hv
    obtain ⟨e', rfl⟩ := h0 rfl
    obtain ⟨ad, n, cc, hX, rfl⟩ := Rel.sl_inv (show Rel w g.S (.sl ow sz xs) (a.eval X) ob from hr)
    exact Out.pureR h (.int _ _) (by simp [execOp, ho, resolve, invoke, builtin, Builtin.len_, run_underlying hu, hX, goInt])
  · cases u <;> simp only [Option.some.injEq, Prod.mk.injEq, reduceCtorEq] at hv
    rename_i s
    obtain ⟨rfl, rfl⟩ := hv
    have := h1 rfl
    subst this
    have hX := Rel.str_inv (show Rel w g.S (.str s) (a.eval X) ob from hr)
    exact Out.pureR h (.int _ _) (by simp [execOp, ho, resolve, invoke, builtin, Builtin.len_, run_underlying hu, hX, goInt])
  · cases u <;> simp only [Option.some.injEq, Prod.mk.injEq, reduceCtorEq] at hv
    rename_i ow es
    obtain ⟨rfl, rfl⟩ := hv
    obtain ⟨k', e', rfl⟩ := h2 rfl
    obtain ⟨es0, r', ents, clock, hp, hX, hb, hl, _⟩ := Rel.mp_inv (show Rel w g.S (.mp ow es) (a.eval X) ob from hr)
    have hobj : (getObj r').run c.P w = .ok (.map ents clock) w := by simp [getObj, Sem.run, hb]
    exact Out.pureR h (.int _ _) (by simp [execOp, ho, resolve, invoke, builtin, Builtin.len_, run_underlying hu, hX, goInt, hobj, hp.length_eq, hl])
  · cases u <;> simp at hv

theorem snd_ext {o : Oper} {i : Nat} {x : A} {X : Operand} {vs : List V} {v : V} (h : FInv c g st a w) (ho : o.op = .extract X i) (hx : opndOK c.gl x X = true) (px : plainA x = true)
    (hr : st.raw x = .tup vs) (hi : vs[i]? = some v) : Out c o a w st (cp v) := by
  obtain ⟨o', hrel⟩ := opndRaw h hx px
  rw [hr] at hrel
  obtain ⟨us, os, hX, -, hl, hl', hel⟩ := Rel.tup_inv (show Rel w g.S (.tup vs) (a.eval X) o' from hrel)
  have hlt := (List.getElem?_eq_some_iff.1 hi).1
  have hu : us[i]? = some us[i] := Array.getElem?_eq_getElem (by omega)
  have ho' : os[i]? = some os[i] := List.getElem?_eq_getElem (by omega)
  exact Out.pureR h (hel i v _ _ hi hu ho').copy (by simp [execOp, ho, Instr.extract, hX, hu])

theorem part_rel {S : Stab} {cs : List V} {us : Array Value} (hl : cs.length = us.size) (hel : ∀ (i : Nat) (c : V) (v : Value), cs[i]? = some c → us[i]? = some v → Rel w S c v []) {ag : Bool} {off sz : Nat} {r : List V} {v : V}
    (hc : cut cs off sz = some r) (hv : mkv ag r = some v) (h1 : ag = false → sz = 1) : Rel w S v (if ag then .agg (us.extract off (off + sz)) else us.getD off Go.undef) [] := by
  obtain ⟨a1, a2, a3⟩ := cut_some hc
  rcases mkv_some hv with ⟨rfl, rfl⟩ | ⟨rfl, e⟩
  · refine .agg _ _ (by simp; omega) fun i y u hy hu => ?_
    obtain ⟨hi, hy'⟩ := a3 i y hy
    refine hel (off + i) y u hy' ?_
    rw [Array.getElem?_extract] at hu
    split at hu
    · exact hu
    · cases hu
  · have := h1 rfl
    subst this
    have hlt : off < us.size := by omega
    simp only [Bool.false_eq_true, if_false, Array.getD, hlt, dif_pos]
    exact hel off v us[off] (by have := (a3 0 v (by rw [e]; rfl)).2; simpa using this) (by simp [hlt])

theorem snd_fld {o : Oper} {ag : Bool} {sz off : Nat} {t : TypeId} {i : Nat} {x : A} {X : Operand} {cs r : List V} {v : V} {fs : Array Field} {f : Field} (h : FInv c g st a w) (ho : o.op = .field t X i) (hx : opndOK c.gl x X = true) (px : plainA x = true)
    (hu : c.P.underlying t = some (.struct fs)) (hf : fs[i]? = some f) (hoff : f.offset = off) (hfu : (c.P.underlying f.type).isSome = true) (hz : (c.P.info? f.type).map (·.size) = some sz) (ha : aggT c.P f.type = ag) (h1 : ag = false → sz = 1)
    (hx' : st.val x = .agg cs) (hc : cut cs off sz = some r) (hv : mkv ag r = some v) : Out c o a w st v := by
  have hr := opnd h hx px
  rw [hx'] at hr
  obtain ⟨-, us, hX, hl, hel⟩ := Rel.agg_inv (show Rel w g.S (.agg cs) (a.eval X) [] from hr)
  obtain ⟨a1, a2, a3⟩ := cut_some hc
  have hp := run_part w hfu hz us (off := off) (by omega) (by rw [ha]; exact h1)
  refine Out.pureR h (part_rel hl hel hc hv h1) ?_
  rw [ha] at hp
  simp [execOp, ho, Instr.field, run_underlying hu, hf, hX, asAgg, hoff, hp]

theorem snd_idxa {o : Oper} {ag : Bool} {sz n : Nat} {t e : TypeId} {x i : A} {X I : Operand} {cs r : List V} {v : V} {kk : IntKind} {k : Int} (h : FInv c g st a w) (ho : o.op = .index t X I) (hx : opndOK c.gl x X = true) (px : plainA x = true) (hi : opndOK c.gl i I = true) (pi : plainA i = true)
    (hu : c.P.underlying t = some (.array n e)) (hfu : (c.P.underlying e).isSome = true) (hz : (c.P.info? e).map (·.size) = some sz) (ha : aggT c.P e = ag) (h1 : ag = false → sz = 1)
    (hx' : st.val x = .agg cs) (hi' : st.val i = .int kk k) (hk : 0 ≤ k ∧ k < n) (hc : cut cs (k.toNat * sz) sz = some r) (hv : mkv ag r = some v) : Out c o a w st v := by
  have hr := opnd h hx px
  rw [hx'] at hr
  obtain ⟨-, us, hX, hl, hel⟩ := Rel.agg_inv (show Rel w g.S (.agg cs) (a.eval X) [] from hr)
  obtain ⟨a1, a2, a3⟩ := cut_some hc
  have hp := run_part w hfu hz us (off := k.toNat * sz) (by omega) (by rw [ha]; exact h1)
  have hI := opnd_int h hi pi hi'
  refine Out.pureR h (part_rel hl hel hc hv h1) ?_
  rw [ha] at hp
  simp [execOp, ho, Instr.index, run_underlying hu, hX, hI, asIntOf, hk.1, hk.2, run_sizeOf' w hz, hp]

theorem snd_idxs {o : Oper} {t : TypeId} {x i : A} {X I : Operand} {s : ByteArray} {kk : IntKind} {k : Int} (h : FInv c g st a w) (ho : o.op = .index t X I) (hx : opndOK c.gl x X = true) (px : plainA x = true) (hi : opndOK c.gl i I = true) (pi : plainA i = true)
    (hu : c.P.underlying t = some .string) (hx' : st.val x = .str s) (hi' : st.val i = .int kk k) (h0 : 0 ≤ k) (hk : k.toNat < s.size) : Out c o a w st (.int .u8 (s[k.toNat]'hk).toNat) := by
  have hX := opnd_str h hx px hx'
  have hI := opnd_int h hi pi hi'
  have hs : s[k.toNat]? = some s[k.toNat] := getElem?_pos s k.toNat hk
  exact Out.pureR h (.int _ _) (by simp [execOp, ho, Instr.index, run_underlying hu, hX, hI, asIntOf, h0, hs])

end Go.Vi
end
section
/- Indexes, parts of strings and slices, function values. -/
namespace Go.Vi
variable {c : Ctx} {g : G} {st st' : St} {a : Act} {w : World}

theorem snd_iarr {o : Oper} {n sz : Nat} {t e : TypeId} {p i : A} {X I : Operand} {v : V} {call : FuncId → List V → Option V} (h : FInv c g st a w) (ho : o.op = .indexAddr t X I) (hx : opndOK c.gl p X = true) (pp : plainA p = true) (hi : opndOK c.gl i I = true) (pi : plainA i = true)
    (hu : c.P.underlying t = some (.array n e)) (hz : (c.P.info? e).map (·.size) = some sz)
    (hv : exec call (.iarr n sz p i) st = some (v, st')) : Out c o a w st' v := by
  simp only [exec] at hv
  obtain ⟨o', hr⟩ := opndRaw h hx pp
  have hI : ∀ kk k, st.val i = .int kk k → a.eval I = .int kk k := fun kk k e => opnd_int h hi pi e
  have run : ∀ b q kk k, a.eval X = .pointer (some ⟨b, q, none⟩) → a.eval I = .int kk k → 0 ≤ k → k < n → (execOp a.eval o).run c.P w = .ok (.value (.pointer (some ⟨b, q + k.toNat * sz, none⟩))) w := by
    intro b q kk k e1 e2 e3 e4
    simp [execOp, ho, Instr.indexAt, run_underlying hu, Instr.sureAddr, e1, e2, asIntOf, e3, e4, run_sizeOf' w hz, Addr.add_lit]
  generalize st.raw p = pv at hr hv
  generalize hX : a.eval X = r at hr
  cases pv
  case ptr ps k =>
    split at hv
    · rename_i kk k' e1 e2
      split at hv
      · rename_i hk
        cases e1
        cases hv
        obtain ⟨-, b, o0, f', rfl, hcell, hrel⟩ := Rel.ptr_inv (show Rel w g.S (.ptr ps k) r o' from hr)
        refine Out.pureR h ?_ (run _ _ _ _ hX (hI _ _ e2) hk.1 hk.2)
        have := Rel.ptr (w := w) (S := g.S) ps (k + k'.toNat * sz) b o0 f' hcell hrel
        rwa [← Nat.add_assoc] at this
      · cases hv
    · rename_i e1 _; cases e1
    · cases hv
  case loc d k =>
    split at hv
    · rename_i e1 _; cases e1
    · rename_i kk k' e1 e2
      split at hv
      · rename_i hk
        cases e1
        cases hv
        exact Out.pure h ⟨rfl, rfl⟩ (run _ _ _ _ (hX.trans hr.2) (hI _ _ e2) hk.1 hk.2)
      · cases hv
    · cases hv
  all_goals
    split at hv
    · rename_i e1 _; cases e1
    · rename_i e1 _; cases e1
    · cases hv

theorem snd_iaddr {o : Oper} {root : Root} {sz : Nat} {t e : TypeId} {x i : A} {X I : Operand} {v : V} {call : FuncId → List V → Option V} (h : FInv c g st a w) (ho : o.op = .indexAddr t X I) (hx : opndOK c.gl x X = true) (px : plainA x = true) (hi : opndOK c.gl i I = true) (pi : plainA i = true)
    (hu : c.P.underlying t = some (.slice e)) (hz : (c.P.info? e).map (·.size) = some sz)
    (hv : exec call (.iaddr root sz x i) st = some (v, st')) : Out c o a w st' v := by
  simp only [exec] at hv
  have hr := opnd h hx px
  have hI : ∀ kk k, st.val i = .int kk k → a.eval I = .int kk k := fun kk k e => opnd_int h hi pi e
  have run : ∀ b q n cc kk k, a.eval X = .slice (some ⟨b, q, none⟩) n cc → a.eval I = .int kk k → 0 ≤ k → k < (n : Nat) → (execOp a.eval o).run c.P w = .ok (.value (.pointer (some ⟨b, q + k.toNat * sz, none⟩))) w := by
    intro b q n cc kk k e1 e2 e3 e4
    simp [execOp, ho, Instr.indexAt, run_underlying hu, e1, e2, asIntOf, e3, e4, run_sizeOf' w hz, Addr.add_lit]
  generalize st.val x = xv at hr hv
  cases xv
  case rf s =>
    split at hv
    · rename_i s' kk k e1 e2
      cases e1
      split at hv
      · split at hv
        · rename_i sz' xs hs
          split at hv
          · rename_i hk
            obtain ⟨rfl, hk0, hk1⟩ := hk
            cases hv
            have hX := hr.2 (by rw [hs]; rfl)
            have hat := h.at s
            rw [hs] at hat
            rcases Rel.slx_inv (show Rel w g.S (.sl .x sz' xs) (a.tmps.getD s Go.undef) (g.O s) from hat) with ⟨h0, _⟩ | ⟨b, q, n, cc, f, C, e', hsl, -, hn, -⟩
            · subst h0; simp at hk1; omega
            · refine Out.pure h ⟨rfl, fun sz2 xs2 hs2 => ?_⟩ (run b q n cc kk k (hX.trans hsl) (hI _ _ e2) hk0 (by omega))
              rw [hs] at hs2
              cases hs2
              exact ⟨b, q, n, cc, hsl, rfl⟩
          · cases hv
        · cases hv
      · cases hv
    · rename_i e1 _; cases e1
    · cases hv
  case sl ow sz' xs =>
    split at hv
    · rename_i e1 _; cases e1
    · rename_i sz2 xs2 kk k e1 e2
      cases e1
      split at hv
      · rename_i hk
        obtain ⟨rfl, hk0⟩ := hk
        simp only [Option.map_eq_some_iff] at hv
        obtain ⟨row, hrow, hv⟩ := hv
        cases hv
        have hlt : k.toNat < xs.length := (List.getElem?_eq_some_iff.1 hrow).1
        obtain ⟨-, ad, n, cc, f, hX, hn, hnc, hxl, hal, hrel⟩ := Rel.sls_inv (show Rel w g.S (.sl .s sz' xs) (a.eval X) [] from hr)
        obtain ⟨b, q, rfl, hcell⟩ := hal (by omega)
        have hrl := hxl _ _ hrow
        refine Out.pureR h ?_ (run b q n cc kk k hX (hI _ _ e2) hk0 (by omega))
        have := Rel.ptr (w := w) (S := g.S) row 0 b (q + k.toNat * sz') (f k.toNat) (fun j hj => by
          have := hcell k.toNat j hlt (by omega)
          rwa [← Nat.add_assoc] at this) (fun j y hy => hrel _ _ _ _ hrow hy)
        exact this
      · cases hv
    · cases hv
  all_goals
    split at hv
    · rename_i e1 _; cases e1
    · rename_i e1 _; cases e1
    · cases hv

theorem asInts_vals : ∀ {vs : List V} {k : IntKind} {ns : List Int}, asInts vs = some (k, ns) → vs = ns.map (.int k)
  | [], k, ns, h => by simp [asInts] at h
  | [v], k, ns, h => by
    cases v <;> simp [asInts] at h
    obtain ⟨rfl, rfl⟩ := h
    rfl
  | v :: u :: l, k, ns, h => by
    cases v <;> simp only [asInts, reduceCtorEq] at h
    rename_i k1 n1
    split at h
    · rename_i k' r e
      split at h
      · rename_i hk
        subst hk
        cases h
        rw [List.map_cons, ← asInts_vals e]
      · cases h
    · cases h

theorem opnds_plain (h : FInv c g st a w) : ∀ {xs : List A} {Xs : List Operand}, opndsOK c.gl xs Xs = true → xs.all plainA = true → xs.length = Xs.length ∧ ∀ (i : Nat) (x : A) (X : Operand), xs[i]? = some x → Xs[i]? = some X → RelT w g st a (st.val x) (a.eval X) []
  | [], [], _, _ => ⟨rfl, by simp⟩
  | [], _ :: _, h1, _ => by cases h1
  | _ :: _, [], h1, _ => by cases h1
  | x :: xs, X :: Xs, h1, h2 => by
    simp only [opndsOK, Bool.and_eq_true] at h1
    simp only [List.all_cons, Bool.and_eq_true] at h2
    obtain ⟨hl, ih⟩ := opnds_plain h h1.2 h2.2
    refine ⟨by simp [hl], fun i y Y hy hY => ?_⟩
    cases i with
    | zero => simp at hy hY; subst hy hY; exact opnd h h1.1 h2.1
    | succ i => exact ih i y Y (by simpa using hy) (by simpa using hY)

theorem opnds_ints (h : FInv c g st a w) {xs : List A} {Xs : List Operand} (hok : opndsOK c.gl xs Xs = true) (hp : xs.all plainA = true) {k : IntKind} {ns : List Int} (hv : vals st xs = ns.map (.int k)) : Xs.map a.eval = ns.map (.int k) := by
  obtain ⟨hl, hr⟩ := opnds_plain h hok hp
  have hlen : xs.length = ns.length := by have := congrArg List.length hv; simpa [vals] using this
  apply List.ext_getElem?
  intro i
  by_cases hi : i < xs.length
  · have hx : xs[i]? = some xs[i] := List.getElem?_eq_getElem hi
    have hX : Xs[i]? = some (Xs[i]'(by omega)) := List.getElem?_eq_getElem (by omega)
    have hn : ns[i]? = some (ns[i]'(by omega)) := List.getElem?_eq_getElem (by omega)
    have hval : st.val xs[i] = .int k (ns[i]'(by omega)) := by
      have := congrArg (fun l => l[i]?) hv
      simp only [vals, List.getElem?_map, hx, hn, Option.map_some] at this
      exact Option.some.inj this
    have := hr i _ _ hx hX
    rw [hval] at this
    have : a.eval (Xs[i]'(by omega)) = .int k (ns[i]'(by omega)) := by
      generalize a.eval (Xs[i]'(by omega)) = r at this ⊢
      cases this; rfl
    simp [hX, hn, this]
  · simp [List.getElem?_eq_none (by simpa using (by omega : ns.length ≤ i)), List.getElem?_eq_none (show Xs.length ≤ i by omega)]

theorem run_max (P : Program) (k : IntKind) : ∀ (r : List Int) (n : Int), (List.foldlM Builtin.max2 (.int k n) (r.map (Value.int k))).run P w = .ok (.int k (r.foldl (fun a b => if a < b then b else a) n)) w
  | [], n => by simp
  | m :: r, n => by
    have : (Builtin.max2 (.int k n) (.int k m)).run P w = .ok (.int k (if n < m then m else n)) w := by
      simp only [Builtin.max2, Sem.run_pure]
    simp only [List.map_cons, List.foldlM_cons, Sem.run_bind, this, Result.andThen_ok, List.foldl_cons]
    exact run_max P k r _

theorem run_min (P : Program) (k : IntKind) : ∀ (r : List Int) (n : Int), (List.foldlM Builtin.min2 (.int k n) (r.map (Value.int k))).run P w = .ok (.int k (r.foldl (fun a b => if b < a then b else a) n)) w
  | [], n => by simp
  | m :: r, n => by
    have : (Builtin.min2 (.int k n) (.int k m)).run P w = .ok (.int k (if m < n then m else n)) w := by
      simp only [Builtin.min2, Sem.run_pure]
    simp only [List.map_cons, List.foldlM_cons, Sem.run_bind, this, Result.andThen_ok, List.foldl_cons]
    exact run_min P k r _

theorem snd_mx {o : Oper} {big : Bool} {xs : List A} {Xs : Array Operand} {ts : Array TypeId} {v : V} {call : FuncId → List V → Option V} (h : FInv c g st a w)
    (ho : o.op = .call { callee := .builtin (if big then .max else .min), args := Xs, argTypes := ts }) (hx : opndsOK c.gl xs Xs.toList = true) (px : xs.all plainA = true)
    (hv : exec call (.mx big xs) st = some (v, st')) : Out c o a w st' v := by
  simp only [exec] at hv
  split at hv
  · rename_i k n r e
    cases hv
    have hX := opnds_ints h hx px (asInts_vals e)
    simp only [List.map_cons] at hX
    refine Out.pureR h (.int _ _) ?_
    cases big with
    | true => simp [execOp, ho, resolve, invoke, builtin, Builtin.max_, hX, run_max]
    | false => simp [execOp, ho, resolve, invoke, builtin, Builtin.min_, hX, run_min]
  · cases hv

def optOK (gl : List (Nat × List V)) : Option A → Option Operand → Bool
  | none, none => true
  | some x, some X => opndOK gl x X && plainA x
  | _, _ => false

theorem opt_ok (h : FInv c g st a w) {x : Option A} {X : Option Operand} (hx : optOK c.gl x X = true) {dflt n : Int} (hv : st.optInt dflt x = some n) :
    (x = none ∧ X = none ∧ n = dflt) ∨ ∃ X' k, X = some X' ∧ a.eval X' = .int k n := by
  cases x with
  | none => cases X with
    | none => simp only [St.optInt, Option.some.injEq] at hv; exact .inl ⟨rfl, rfl, hv.symm⟩
    | some X => cases hx
  | some x => cases X with
    | none => cases hx
    | some X =>
      simp only [optOK, Bool.and_eq_true] at hx
      simp only [St.optInt, St.ints] at hv
      split at hv
      · rename_i k m e
        cases hv
        exact .inr ⟨X, k, rfl, opnd_int h hx.1 hx.2 e⟩
      · cases hv

theorem run_bound (P : Program) {k : IntKind} {i : Int} {y : Nat} {code : BoundsCode} (h0 : 0 ≤ i) (h1 : i ≤ y) : (Instr.sliceBound (.int k i) y code).run P w = .ok i.toNat w := by
  simp [Instr.sliceBound, asIntOf, h0, h1]

/-- The bounds of a slice expression with two indexes. -/
theorem run_bounds (h : FInv c g st a w) (isSlice : Bool) {len cap : Nat} {lo hi : Option A} {Lo Hi : Option Operand} (hlo : optOK c.gl lo Lo = true) (hhi : optOK c.gl hi Hi = true) {l r : Int}
    (el : st.optInt 0 lo = some l) (er : st.optInt len hi = some r) (h0 : 0 ≤ l) (h1 : l ≤ r) (h2 : r ≤ len) (h3 : len ≤ cap) :
    (Instr.sliceBounds isSlice len cap (Lo.map a.eval) (Hi.map a.eval) none).run c.P w = .ok (l.toNat, r.toNat, cap) w := by
  rcases opt_ok h hlo el with ⟨rfl, rfl, rfl⟩ | ⟨X, k, rfl, eX⟩ <;> rcases opt_ok h hhi er with ⟨rfl, rfl, rfl⟩ | ⟨Y, k', rfl, eY⟩
  · simp [Instr.sliceBounds]
  · simp [Instr.sliceBounds, eY, run_bound c.P (w := w) (k := k') (i := r) (y := cap) (by omega) (by omega)]
  · simp [Instr.sliceBounds, eX, run_bound c.P (w := w) (k := k) (i := l) (y := len) h0 (by omega)]
  · simp [Instr.sliceBounds, eX, eY, run_bound c.P (w := w) (k := k') (i := r) (y := cap) (by omega) (by omega), run_bound c.P (w := w) (k := k) (i := l) (y := r.toNat) h0 (by omega)]

theorem snd_slcs {o : Oper} {t : TypeId} {x : A} {lo hi : Option A} {X : Operand} {Lo Hi : Option Operand} {v : V} {call : FuncId → List V → Option V} (h : FInv c g st a w) (ho : o.op = .slice t X Lo Hi none) (hx : opndOK c.gl x X = true) (px : plainA x = true)
    (hlo : optOK c.gl lo Lo = true) (hhi : optOK c.gl hi Hi = true) (hu : c.P.underlying t = some .string)
    (hv : exec call (.slcs x lo hi) st = some (v, st')) : Out c o a w st' v := by
  simp only [exec] at hv
  split at hv
  · rename_i s e
    split at hv
    · rename_i l r el er
      split at hv
      · rename_i hb
        cases hv
        have hX := opnd_str h hx px e
        have hbd := run_bounds h false hlo hhi el er hb.1 hb.2.1 hb.2.2 (Nat.le_refl _)
        exact Out.pureR h (.str _) (by simp [execOp, ho, Instr.sliceAt, run_underlying hu, Instr.slice, hX, hbd])
      · cases hv
    · cases hv
  · cases hv

theorem part_row {α : Type} {xs : List α} {l r i : Nat} {x : α} (h : ((xs.take r).drop l)[i]? = some x) : xs[l + i]? = some x := by
  rw [List.getElem?_drop, List.getElem?_take] at h
  split at h
  · exact h
  · cases h

/-- A part of a slice. -/
theorem Rel.part {S : Stab} {o : Own} {sz : Nat} {xs : List (List V)} {r : Value} {ob : List Nat} (h : Rel w S (.sl o sz xs) r ob) {l r' : Nat} (hl : l ≤ r') (hr : r' ≤ xs.length) (hw : o = .s ∨ r' = xs.length) :
    ∃ (ad : Option Addr) (n cc : Nat), r = .slice ad n cc ∧ n = xs.length ∧ n ≤ cc ∧ ∃ ob', (∀ b ∈ ob', b ∈ ob) ∧ (ob.Nodup → ob'.Nodup) ∧ Rel w S (.sl o sz ((xs.take r').drop l)) (.slice (if cc = l then ad else ad.map (·.add (l * sz))) (r' - l) (cc - l)) ob' := by
  have hlen : ((xs.take r').drop l).length = r' - l := by simp; omega
  have hz : r' - l = 0 → (xs.take r').drop l = [] := fun e => List.eq_nil_of_length_eq_zero (by omega)
  generalize hv : V.sl o sz xs = v at h
  cases h with
  | sl0 o' sz' a =>
    cases hv
    simp only [List.length_nil, Nat.le_zero] at hr
    subst hr
    have : l = 0 := by omega
    subst this
    exact ⟨a, 0, 0, rfl, rfl, Nat.le_refl _, [], by simp, by simp, by simpa using Rel.sl0 _ _ _⟩
  | sls sz' xs' a n cc f hn hnc hx ha hrel =>
    cases hv
    refine ⟨a, n, cc, rfl, hn, hnc, [], by simp, by simp, .sls sz _ _ _ _ (fun i j => f (l + i) j) hlen.symm (by omega) (fun i x hx' => hx _ x (part_row hx')) (fun h0 => ?_) (fun i x j y h1 h2 => hrel _ x j y (part_row h1) h2)⟩
    rw [hlen] at h0
    obtain ⟨b, off, rfl, hc⟩ := ha (by omega)
    refine ⟨b, off + l * sz, ?_, fun i j hi hj => ?_⟩
    · rw [if_neg (by omega), Option.map_some, Addr.add_lit]
    · rw [hlen] at hi
      have := hc (l + i) j (by omega) hj
      rwa [show off + ((l + i) * sz + j) = off + l * sz + (i * sz + j) by rw [Nat.add_mul]; omega] at this
  | slo o' sz' xs' b off n cc f C e ho hn hx hb hsz hc hm hf hS hN hrel =>
    cases hv
    have hr2 : r' = xs.length := by
      rcases hw with h1 | h1
      · exact absurd h1 ho
      · exact h1
    subst hr2
    by_cases hcl : cc = l
    · refine ⟨_, n, cc, rfl, hn, hc, [], by simp, by simp, ?_⟩
      have e0 : xs.length - l = 0 := by omega
      rw [hz e0, e0, show cc - l = 0 by omega]
      exact .sl0 _ _ _
    · refine ⟨_, n, cc, rfl, hn, hc, [b], fun _ h => h, fun h => h, ?_⟩
      rw [if_neg hcl, Option.map_some, Addr.add_lit]
      refine .slo o sz _ b (off + l * sz) _ _ (fun i j => f (l + i) j) C e ho hlen.symm (fun i x hx' => hx _ x (part_row hx')) hb ?_ (by omega) (by omega) (fun i j hi hj => ?_) (fun h1 i j hi hj => ?_) (fun k hk => hN k ?_) (fun i x j y h1 h2 => hrel _ x j y (part_row h1) h2)
      · have : off + l * sz + (cc - l) * sz = off + cc * sz := by rw [Nat.add_assoc, ← Nat.add_mul]; congr 2; omega
        omega
      · rw [hlen] at hi
        have := hf (l + i) j (by omega) hj
        rwa [show off + ((l + i) * sz + j) = off + l * sz + (i * sz + j) by rw [Nat.add_mul]; omega] at this
      · rw [hlen] at hi
        have := hS h1 (l + i) j (by omega) hj
        rwa [show off + ((l + i) * sz + j) = off + l * sz + (i * sz + j) by rw [Nat.add_mul]; omega] at this
      · rcases hk with h1 | h1
        · exact .inl h1
        · refine .inr ?_
          rw [hlen] at h1
          have : off + l * sz + (xs.length - l) * sz = off + xs.length * sz := by rw [Nat.add_assoc, ← Nat.add_mul]; congr 2; omega
          omega
  | _ => cases hv

theorem Held.one {v : V} {r : Value} {o o' : List Nat} {v' : V} {r' : Value} (h : Held c g st a w [(v, r, o)]) (hr : Rel w g.S v' r' o') (hs : ∀ b ∈ o', b ∈ o) (hn : o.Nodup → o'.Nodup) : Held c g st a w [(v', r', o')] :=
  ⟨h.inv, fun e he => by simp at he; subst he; exact .of_rel hr, by simpa using hn (by simpa using h.nd), fun b hb => h.fr b (by simp at hb ⊢; exact hs b hb)⟩

theorem snd_slc {o : Oper} {sz : Nat} {t e : TypeId} {x : A} {lo hi mx : Option A} {X : Operand} {Lo Hi Mx : Option Operand} {v : V} {call : FuncId → List V → Option V} (h : FInv c g st a w) (ho : o.op = .slice t X Lo Hi Mx) (hx : opndOK c.gl x X = true)
    (hlo : optOK c.gl lo Lo = true) (hhi : optOK c.gl hi Hi = true) (hmx : optOK c.gl mx Mx = true) (hu : c.P.underlying t = some (.slice e)) (hz : (c.P.info? e).map (·.size) = some sz)
    (hv : exec call (.slc sz x lo hi mx) st = some (v, st')) : Out c o a w st' v := by
  simp only [exec] at hv
  split at hv
  · rename_i ow sz' xs ex
    obtain ⟨g', ov, hh, -⟩ := opnd1 h hx
    rw [ex] at hh
    have hr : Rel w g'.S (.sl ow sz' xs) (a.eval X) ov := (hh.rel _ (List.mem_singleton.2 rfl)).rel (by simp)
    split at hv
    · -- no third index
      cases Mx with
      | some _ => cases hmx
      | none =>
        split at hv
        · rename_i l r el er
          split at hv
          · rename_i hb
            obtain ⟨rfl, h0, h1, h2, h3⟩ := hb
            cases hv
            obtain ⟨ad, n, cc, hX, hn, hnc, ob', hs, hnd, hrel⟩ := hr.part (l := l.toNat) (r' := r.toNat) (by omega) (by omega) (by rcases h3 with h3 | h3; exact .inl h3; exact .inr (by omega))
            have hbd := run_bounds h true (len := n) (cap := cc) hlo hhi el (by rw [hn]; exact er) h0 h1 (by omega) hnc
            refine .inl ⟨_, w, ?_, g', ob', hh.one hrel hs hnd⟩
            simp [execOp, ho, Instr.sliceAt, run_underlying hu, Instr.slice, hX, hbd, run_sizeOf' w hz]
          · cases hv
        · cases hv
    · -- s[:0:0]
      rename_i m
      cases Mx with
      | none => cases hmx
      | some M =>
        split at hv
        · rename_i el er em
          split at hv
          · rename_i hb
            obtain ⟨rfl, rfl, hsome⟩ := hb
            cases hv
            obtain ⟨ad, n, cc, hX, hn⟩ := Rel.sl_inv hr
            have hm := opt_ok h (dflt := 0) hmx (by simpa [St.optInt] using em)
            rcases hm with ⟨h1, _, _⟩ | ⟨M', km, hM, eM⟩
            · cases h1
            · cases hM
              rcases opt_ok h hhi er with ⟨h1, h2, h3⟩ | ⟨Y, k', h1, h2⟩
              · subst h1; cases hsome
              · subst h1
                refine .inl ⟨_, w, ?_, g', [], hh.one (Rel.sl0 .x sz' ad) (by simp) (by simp)⟩
                have b0 : ∀ (k : IntKind) (y : Nat) (code : BoundsCode), (Instr.sliceBound (.int k 0) y code).run c.P w = .ok 0 w := fun k y code => run_bound c.P (Int.le_refl 0) (by omega)
                rcases opt_ok h hlo el with ⟨g1, g2, g3⟩ | ⟨Z, kz, g1, g2⟩
                · subst g1 g2
                  simp [execOp, ho, Instr.sliceAt, run_underlying hu, Instr.slice, hX, Instr.sliceBounds, eM, h2, b0, run_sizeOf' w hz]
                · subst g1
                  simp [execOp, ho, Instr.sliceAt, run_underlying hu, Instr.slice, hX, Instr.sliceBounds, eM, h2, g2, b0, run_sizeOf' w hz]
          · cases hv
        · cases hv
  · cases hv

theorem snd_mkfn {o : Oper} {f : Fn} {roots : List Nat} {cs : List A} {Cs : Array Operand} {v : V} {call : FuncId → List V → Option V} (h : FInv c g st a w) (ho : o.op = .makeFunc f #[] Cs) (hx : opndsOK c.gl cs Cs.toList = true) (px : cs.all plainA = true)
    (hv : exec call (.mkfn f roots [] cs) st = some (v, st')) : Out c o a w st' v := by
  simp only [exec, vals, List.map_nil, Option.some.injEq, Prod.mk.injEq] at hv
  obtain ⟨rfl, rfl⟩ := hv
  obtain ⟨hl, -⟩ := opnds_plain h hx px
  refine Out.pureR h (.fn f [] _ #[] (Cs.map a.eval) rfl (by simpa using hl) (by simp) fun i y u hy hu => ?_) (by simp [execOp, ho, Instr.makeFunc])
  simp only [List.getElem?_map, Option.map_eq_some_iff] at hy
  obtain ⟨x, hx', rfl⟩ := hy
  have hX : ∃ X, Cs.toList[i]? = some X ∧ a.eval X = u := by
    simp only [Array.getElem?_map, Option.map_eq_some_iff] at hu
    obtain ⟨X, h1, h2⟩ := hu
    exact ⟨X, by simpa using h1, h2⟩
  obtain ⟨X, hX, rfl⟩ := hX
  have hok : opndOK c.gl x X = true ∧ plainA x = true := by
    have : ∀ {xs : List A} {Xs : List Operand}, opndsOK c.gl xs Xs = true → xs.all plainA = true → ∀ (i : Nat) (x : A) (X : Operand), xs[i]? = some x → Xs[i]? = some X → opndOK c.gl x X = true ∧ plainA x = true := by
      intro xs
      induction xs with
      | nil => intro Xs _ _ i x X h; simp at h
      | cons y ys ih =>
        intro Xs h1 h2 i x X hx hX
        cases Xs with
        | nil => cases h1
        | cons Y Ys =>
          simp only [opndsOK, Bool.and_eq_true] at h1
          simp only [List.all_cons, Bool.and_eq_true] at h2
          cases i with
          | zero => simp at hx hX; subst hx hX; exact ⟨h1.1, h2.1⟩
          | succ i => exact ih h1.2 h2.2 i x X (by simpa using hx) (by simpa using hX)
    exact this hx px i x X hx' hX
  obtain ⟨ob, hr⟩ := opndRaw h hok.1 hok.2
  split
  · rename_i d e
    rw [e] at hr
    split
    · split
      · rename_i cs' hb
        rw [hr.2]
        exact (h.bxt d cs' hb).2
      · exact .undef _
    · exact .undef _
  · rename_i cs' off e
    rw [e] at hr
    obtain ⟨-, b, o0, f', e', hcell, hrel⟩ := Rel.ptr_inv (show Rel w g.S (.ptr cs' off) (a.eval X) ob from hr)
    rw [e']
    exact .ptr _ _ _ _ _ hcell hrel
  · exact .undef _

end Go.Vi
end
section
/- Operations that write boxes. -/
namespace Go.Vi
variable {c : Ctx} {g : G} {st st' : St} {a : Act} {w : World} {hs : List Hv}

theorem Held.nobox (h : Held c g st a w hs) (d : Nat) : Held c { g with β := fun d' => if d' = d then g.β d else g.β d', OB := fun d' => if d' = d then [] else g.OB d' } { st with bx := Vi.del st.bx d } a w hs := by
  refine ⟨h.inv.nobox d, fun e he => (h.rel e he).frame (fun d' off _ => ?_) (fun s _ hx => ⟨.self hx, rfl⟩) (fun hr => hr), h.nd, fun b hb => ⟨(h.fr b hb).1, (h.fr b hb).2.1, fun d' => ?_⟩⟩
  · by_cases hd : d' = d
    · subst hd; simp
    · simp [hd]
  · simp only
    by_cases hd : d' = d
    · rw [if_pos hd]; simp
    · rw [if_neg hd]; exact (h.fr b hb).2.2 d'

/-- A value's cells are written into a box. -/
theorem Held.store {d off : Nat} {cs : List V} {x : V} {r : Value} {ob : List Nat} (h : Held c g st a w [(x, r, ob)]) (hb : get st.bx d = some (false, cs)) (hl : (flat x).all leaf = true) (hfit : off + (flat x).length ≤ cs.length) :
    ∃ C e, w.heap[g.β d]? = some (.cells C e (0, 0)) ∧ off + r.cells.toList.length ≤ C.size ∧ (∀ u ∈ r.cells.toList, u.oneCell' = true) ∧
      ∃ g', FInv c g' { st with bx := put st.bx d (false, paste cs off (flat x)) } a (w.setRow (g.β d) (C.toList.take off ++ r.cells.toList ++ C.toList.drop (off + r.cells.toList.length)).toArray) := by
  obtain ⟨C, e, os, e1, e2, e3, e4, e5, e6⟩ := h.inv.bxf d cs hb
  have hx : Rel w g.S x r ob := by
    refine (h.rel _ (List.mem_singleton.2 rfl)).rel ⟨fun d f e => ?_, fun t i f e => ?_, fun t e => ?_⟩ <;> (dsimp only at e; subst e; simp [Vi.flat, leaf] at hl)
  obtain ⟨f1, f2, nos, f3, f4, f5⟩ := hx.flat hl
  have hB : g.β d ∈ g.OB d := by rw [e5]; simp
  have hrl : r.cells.toList.length = (Vi.flat x).length := by simp [f1]
  refine ⟨C, e, e1, by omega, f2, ?_⟩
  generalize hC' : (C.toList.take off ++ r.cells.toList ++ C.toList.drop (off + r.cells.toList.length)).toArray = C'
  have hdO : ∀ t, g.β d ∉ g.O t := fun t hm => h.inv.dOB t d _ hm hB
  have hdB : ∀ d', d' ≠ d → g.β d ∉ g.OB d' := fun d' hd => h.inv.dBB d d' (fun e => hd e.symm) _ hB
  have hH : g.β d ∉ [(x, r, ob)].flatMap (·.2.2) := fun hm => (h.fr _ hm).2.2 d hB
  have hfrB := h.inv.fB d _ hB
  have h2 := (h.nobox d).write (w.setRow (g.β d) C') (g.β d) (fun b hb => setRow_other w _ b _ hb) e6 hdO (fun d' => by
      simp only
      by_cases hd : d' = d
      · rw [if_pos hd]; simp
      · rw [if_neg hd]; exact hdB d' hd) hH hfrB.1 rfl rfl rfl (by simp)
  have hkeep : Keep g.S w (w.setRow (g.β d) C') := Keep.of_heap fun b k hs => setRow_other w _ b _ (fun e => e6 k (e ▸ hs))
  have hob : ob.Nodup := by simpa using h.nd
  have hfree : ∀ b ∈ ob, (∀ t, b ∉ g.O t) ∧ ∀ d, b ∉ g.OB d := fun b hb => ⟨(h.fr b (by simpa using hb)).2.1, (h.fr b (by simpa using hb)).2.2⟩
  have hBnd : (g.β d :: os.flatten).Nodup := e5 ▸ h.inv.nB d
  have hnp := nodup_paste (off := off) (List.nodup_cons.1 hBnd).2 (f3 ▸ hob) (fun b hb hb' => (hfree b (f3 ▸ hb)).2 d (by rw [e5]; exact List.mem_cons_of_mem _ hb'))
  have hnew := h2.inv.rebx d (put st.bx d (false, paste cs off (Vi.flat x))) (g.β d) (g.β d :: (os.take off ++ nos ++ os.drop (off + nos.length)).flatten)
    (fun d' hd => by simp only [get_put, get_del, if_neg hd]) (fun cs' hcs => by
      rw [get_put, if_pos rfl] at hcs
      cases hcs
      refine ⟨C', e, _, setRow_heap w _ C _ e _ e1, ?_, ?_, ?_, rfl, e6⟩
      · rw [← hC']; simp [paste]; omega
      · simp [paste]; omega
      · intro j y v o hy hv ho
        rw [← hC'] at hv
        have hv' : (C.toList.take off ++ r.cells.toList ++ C.toList.drop (off + r.cells.toList.length))[j]? = some v := by simpa using hv
        rw [mem_paste (by simp; omega)] at hv'
        unfold paste at hy
        rw [mem_paste hfit] at hy
        rw [mem_paste (by omega)] at ho
        rw [hrl] at hv'
        rw [f4] at ho
        by_cases h1 : j < off
        · rw [if_pos h1] at hy hv' ho
          refine (e4 j y v o hy (by simpa using hv') ho).keep hkeep (fun _ _ h => h) (fun b hb => setRow_other w _ b _ ?_) (fun _ _ _ h => h)
          rintro rfl
          exact (List.nodup_cons.1 hBnd).1 (List.mem_flatten.2 ⟨o, List.mem_of_getElem? ho, hb⟩)
        · rw [if_neg h1] at hy hv' ho
          by_cases h2 : j < off + (Vi.flat x).length
          · rw [if_pos h2] at hy hv' ho
            refine (f5 _ y v o hy (by simpa using hv') ho).keep hkeep (fun _ _ h => h) (fun b hb => setRow_other w _ b _ ?_) (fun _ _ _ h => h)
            rintro rfl
            exact (hfree _ (f3 ▸ List.mem_flatten.2 ⟨o, List.mem_of_getElem? ho, hb⟩)).2 d hB
          · rw [if_neg h2] at hy hv' ho
            refine (e4 j y v o hy (by simpa using hv') ho).keep hkeep (fun _ _ h => h) (fun b hb => setRow_other w _ b _ ?_) (fun _ _ _ h => h)
            rintro rfl
            exact (List.nodup_cons.1 hBnd).1 (List.mem_flatten.2 ⟨o, List.mem_of_getElem? ho, hb⟩))
    (fun cs' hcs => by rw [get_put, if_pos rfl] at hcs; cases hcs) (fun hcs => by rw [get_put, if_pos rfl] at hcs; cases hcs) (.inl (by simp))
    (by
      refine List.nodup_cons.2 ⟨fun hm => ?_, hnp.1⟩
      rcases hnp.2 _ hm with h1 | h1
      · exact (List.nodup_cons.1 hBnd).1 h1
      · exact (hfree _ (f3 ▸ h1)).2 d hB)
    (fun b hb => by
      have : b ∈ g.OB d ∨ b ∈ ob := by
        rcases List.mem_cons.1 hb with h1 | h1
        · exact .inl (h1 ▸ hB)
        · rcases hnp.2 b h1 with h2 | h2
          · exact .inl (by rw [e5]; exact List.mem_cons_of_mem _ h2)
          · exact .inr (f3 ▸ h2)
      simp only [size_setRow]
      rcases this with h1 | h1
      · exact h.inv.fB d b h1
      · exact (h.fr b (by simpa using h1)).1)
    (fun b hb t => by
      rcases List.mem_cons.1 hb with h1 | h1
      · exact h1 ▸ hdO t
      · rcases hnp.2 b h1 with h2 | h2
        · exact fun hm => h.inv.dOB t d b hm (by rw [e5]; exact List.mem_cons_of_mem _ h2)
        · exact (hfree b (f3 ▸ h2)).1 t)
    (fun b hb d' hd => by
      simp only [if_neg hd]
      rcases List.mem_cons.1 hb with h1 | h1
      · exact h1 ▸ hdB d' hd
      · rcases hnp.2 b h1 with h2 | h2
        · exact h.inv.dBB d d' (fun e => hd e.symm) b (by rw [e5]; exact List.mem_cons_of_mem _ h2)
        · exact (hfree b (f3 ▸ h2)).2 d')
  exact ⟨_, hnew⟩

/-- An element of a slice that a slot holds alone is written. -/
theorem Held.storeEl {t i off sz : Nat} {xs : List (List V)} {row : List V} {x : V} {r : Value} {ob : List Nat} (h : Held c g st a w [(x, r, ob)]) (hob : ob = []) (ht : st.at t = .sl .x sz xs) (hrow : xs[i]? = some row) (hl : (flat x).all leaf = true) (hfit : off + (flat x).length ≤ row.length) :
    ∃ b q n cc C e, a.tmps.getD t Go.undef = .slice (some ⟨b, q, none⟩) n cc ∧ w.heap[b]? = some (.cells C e (0, 0)) ∧ q + (i * sz + off) + r.cells.toList.length ≤ C.size ∧ (∀ u ∈ r.cells.toList, u.oneCell' = true) ∧
      ∃ g', FInv c g' { st with tm := put st.tm t (.sl .x sz (xs.set i (paste row off (flat x)))) } a (w.setRow b (C.toList.take (q + (i * sz + off)) ++ r.cells.toList ++ C.toList.drop (q + (i * sz + off) + r.cells.toList.length)).toArray) := by
  subst hob
  have hat := h.inv.at t
  rw [ht] at hat
  have hi : i < xs.length := (List.getElem?_eq_some_iff.1 hrow).1
  have hx : Rel w g.S x r [] := by
    refine (h.rel _ (List.mem_singleton.2 rfl)).rel ⟨fun d f e => ?_, fun t i f e => ?_, fun t e => ?_⟩ <;> (dsimp only at e; subst e; simp [Vi.flat, leaf] at hl)
  obtain ⟨f1, f2, nos, f3, f4, f5⟩ := hx.flat hl
  have hnos : ∀ o ∈ nos, o = [] := List.flatten_eq_nil_iff.1 f3
  have hrl : r.cells.toList.length = (Vi.flat x).length := by simp [f1]
  rcases Rel.slx_inv (show Rel w g.S (.sl .x sz xs) (a.tmps.getD t Go.undef) (g.O t) from hat) with ⟨h0, _⟩ | ⟨b, q, n, cc, f, C, e, hv, hO, hn, hxl, hb, hsz, hnc, hf, hN, hrel⟩
  · subst h0; simp at hi
  have hlen := hxl i row hrow
  have hbnd : i * sz + sz ≤ xs.length * sz := by
    have : (i + 1) * sz ≤ xs.length * sz := Nat.mul_le_mul_right _ hi
    rwa [Nat.add_mul, Nat.one_mul] at this
  have hcap : xs.length * sz ≤ cc * sz := Nat.mul_le_mul_right _ (by omega)
  have hfitC : q + (i * sz + off) + r.cells.toList.length ≤ C.size := by omega
  refine ⟨b, q, n, cc, C, e, hv, hb, hfitC, f2, ?_⟩
  generalize hC' : (C.toList.take (q + (i * sz + off)) ++ r.cells.toList ++ C.toList.drop (q + (i * sz + off) + r.cells.toList.length)).toArray = C'
  have hbt : b ∈ g.O t := by rw [hO]; simp
  have hkeep : Keep g.S w (w.setRow b C') := Keep.of_heap fun b' k hs => setRow_other w _ b' _ (fun e => hN k (e ▸ hs))
  have hnewrel : Rel (w.setRow b C') g.S (.sl .x sz (xs.set i (paste row off (Vi.flat x)))) (a.tmps.getD t Go.undef) [b] := by
    have hmx : cc ≤ 9223372036854775807 := Rel.slx_cap (show Rel w g.S (.sl .x sz xs) (.slice (some ⟨b, q, none⟩) n cc) (g.O t) from hv ▸ hat) (by simp)
    rw [hv]
    refine .slo .x sz _ b q n cc (fun i' j => C'.getD (q + (i' * sz + j)) Go.undef) C' e (by simp) (by simpa using hn) ?_ (setRow_heap w b C _ e _ hb) ?_ hnc hmx ?_ (fun h => by cases h) (fun k _ => hN k) ?_
    · intro i' y hy
      rw [List.getElem?_set] at hy
      by_cases hii : i = i'
      · rw [if_pos hii, if_pos hi] at hy
        cases hy; simp [paste]; omega
      · rw [if_neg hii] at hy
        exact hxl i' y hy
    · rw [← hC']; simp; omega
    · intro i' j hi' hj
      simp only [List.length_set] at hi'
      have h1 : i' * sz + sz ≤ xs.length * sz := by
        have : (i' + 1) * sz ≤ xs.length * sz := Nat.mul_le_mul_right _ hi'
        rwa [Nat.add_mul, Nat.one_mul] at this
      have : q + (i' * sz + j) < C'.size := by rw [← hC']; simp; omega
      simp [Array.getD, this]
    · intro i' y j u hy hu
      have hjs : j < sz ∧ i' < xs.length := by
        have hi2 := (List.getElem?_eq_some_iff.1 hy).1
        simp only [List.length_set] at hi2
        refine ⟨?_, hi2⟩
        have hj := (List.getElem?_eq_some_iff.1 hu).1
        rw [List.getElem?_set] at hy
        by_cases hii : i = i'
        · rw [if_pos hii, if_pos hi] at hy
          cases hy; simp [paste] at hj; omega
        · rw [if_neg hii] at hy
          have := hxl i' y hy; omega
      have hgetC : ∀ k, k < C.size → C'.getD k Go.undef = (if k < q + (i * sz + off) then C.getD k Go.undef else if k < q + (i * sz + off) + r.cells.toList.length then r.cells.getD (k - (q + (i * sz + off))) Go.undef else C.getD k Go.undef) := by
        intro k hk
        have hm := mem_paste (l := C.toList) (new := r.cells.toList) (off := q + (i * sz + off)) (by simpa using hfitC) (j := k)
        rw [← hC', Array.getD_eq_getD_getElem?, List.getElem?_toArray, hm]
        simp only [Array.getD_eq_getD_getElem?, Array.getElem?_toList]
        split
        · rfl
        · split <;> rfl
      have h1 : i' * sz + sz ≤ xs.length * sz := by
        have : (i' + 1) * sz ≤ xs.length * sz := Nat.mul_le_mul_right _ hjs.2
        rwa [Nat.add_mul, Nat.one_mul] at this
      have hold : ∀ (row' : List V), xs[i']? = some row' → row'[j]? = some u → Rel (w.setRow b C') g.S u (C.getD (q + (i' * sz + j)) Go.undef) [] := by
        intro row' h2 h3
        have h4 := hf i' j hjs.2 hjs.1
        rw [Array.getD_eq_getD_getElem?, h4]
        exact (hrel i' row' j u h2 h3).keep0 hkeep (fun _ _ h => h)
      rw [List.getElem?_set] at hy
      show Rel _ _ u (C'.getD (q + (i' * sz + j)) Go.undef) []
      rw [hgetC _ (by omega)]
      by_cases hii : i = i'
      · subst hii
        rw [if_pos rfl, if_pos hi] at hy
        · cases hy
          unfold paste at hu
          rw [mem_paste hfit] at hu
          by_cases k1 : j < off
          · rw [if_pos k1] at hu
            rw [if_pos (by omega)]
            exact hold row hrow hu
          · rw [if_neg k1] at hu
            rw [if_neg (by omega)]
            by_cases k2 : j < off + (Vi.flat x).length
            · rw [if_pos k2] at hu
              rw [if_pos (by omega)]
              have hidx : q + (i * sz + j) - (q + (i * sz + off)) = j - off := by omega
              rw [hidx]
              have hlt : j - off < r.cells.size := by omega
              have hoo : nos[j - off]? = some (nos[j - off]'(by omega)) := List.getElem?_eq_getElem (by omega)
              have := f5 (j - off) u (r.cells[j - off]) _ hu (by simp [hlt]) hoo
              rw [hnos _ (List.getElem_mem _)] at this
              simp only [Array.getD, hlt, dif_pos]
              exact this.keep0 hkeep (fun _ _ h => h)
            · rw [if_neg k2] at hu
              rw [if_neg (by omega)]
              exact hold row hrow hu
      · rw [if_neg hii] at hy
        have hne : i' * sz + sz ≤ i * sz ∨ i * sz + sz ≤ i' * sz := by
          rcases Nat.lt_or_gt_of_ne (fun e => hii e.symm) with h5 | h5
          · left
            have : (i' + 1) * sz ≤ i * sz := Nat.mul_le_mul_right _ h5
            rwa [Nat.add_mul, Nat.one_mul] at this
          · right
            have : (i + 1) * sz ≤ i' * sz := Nat.mul_le_mul_right _ h5
            rwa [Nat.add_mul, Nat.one_mul] at this
        rcases hne with h5 | h5
        · rw [if_pos (by omega)]; exact hold y hy hu
        · rw [if_neg (by omega), if_neg (by omega)]; exact hold y hy hu
  exact ⟨g, h.inv.slotW t _ _ b hbt (fun k hk => setRow_other w _ k _ hk) hN rfl rfl rfl (by simp) (by rw [hO]; exact hnewrel) (fun _ => by rw [ht]; exact .inl ⟨sz, _, _, rfl, rfl⟩)⟩

theorem snd_store {o : Oper} {root : Root} {sz : Nat} {t : TypeId} {p x : A} {X Y : Operand} {v : V} {call : FuncId → List V → Option V} (h : FInv c g st a w) (ho : o.op = .store t X Y) (hd : o.dst = none) (hx : opndOK c.gl p X = true) (pp : plainA p = true) (hy : opndOK c.gl x Y = true)
    (hz : (c.P.info? t).map (·.size) = some sz) (hpl : ∀ s, root = .tm s → plainA x = true) (hv : exec call (.store root sz p x) st = some (v, st')) : Out c o a w st' v := by
  simp only [exec] at hv
  split at hv
  · rename_i hc
    obtain ⟨hlen, hleaf⟩ := hc
    simp only [Option.map_eq_some_iff] at hv
    obtain ⟨st1, hw, hv⟩ := hv
    cases hv
    obtain ⟨o', hr⟩ := opndRaw h hx pp
    obtain ⟨g1, ov, hh, -, hβ, -⟩ := opnd1 h hy
    have hval : leaf (st.val x) = true ∨ ∃ cs, st.val x = .agg cs := by
      cases hvx : st.val x <;> rw [hvx] at hleaf <;> simp_all [flat, leaf]
    have hsz : (a.eval Y).cells.size = sz := by
      have hrel : Rel w g1.S (st.val x) (a.eval Y) ov := by
        refine (hh.rel _ (List.mem_singleton.2 rfl)).rel ⟨fun d f e => ?_, fun t i f e => ?_, fun t e => ?_⟩ <;> (dsimp only at e; rw [e] at hleaf; simp [Vi.flat, leaf] at hleaf)
      rw [← (hrel.flat hleaf).1, hlen]
    refine .inr (.inl ⟨hd, ?_⟩)
    generalize st.raw p = pv at hr hw
    cases pv <;> simp only [St.write, reduceCtorEq] at hw
    case loc d off =>
      split at hw
      · split at hw
        · rename_i cs hb
          split at hw
          · rename_i hfit
            cases hw
            obtain ⟨C, e, e1, e2, e3, g', hnew⟩ := hh.store (d := d) (off := off) hb hleaf hfit
            rw [hβ] at e1 hnew
            have hst := run_storeCells_at c.P (g.β d) off e (a.eval Y).cells.toList 0 C w e1 (by simpa using e2) e3
            refine ⟨_, ?_, g', hnew⟩
            simp only [Nat.add_zero] at hst
            simp [execOp, ho, Instr.storeAt, Instr.sureAddr, hr.2, storeVar, run_sizeOf' w hz, hsz, hst]
          · cases hw
        · cases hw
      · cases hw
    case el s i off =>
      split at hw
      · rename_i hroot
        split at hw
        · rename_i sz' xs hs
          split at hw
          · rename_i row hrow
            split at hw
            · rename_i hfit
              cases hw
              have hp := hpl s hroot
              have hg : ∀ s : St, s.gone [x] = s := by intro s; cases x <;> first | rfl | cases hp
              have hpl := opnd h hy hp
              have hh0 : Held c g st a w [(st.val x, a.eval Y, [])] := by simpa using (Held.nil h).push0 hpl
              obtain ⟨b, q, n, cc, C, e, e0, e1, e2, e3, g', hnew⟩ := hh0.storeEl rfl hs hrow hleaf hfit
              obtain ⟨b', q', n', cc', e5, e6⟩ := hr.2 sz' xs hs
              rw [e0] at e5
              cases e5
              have hst := run_storeCells_at c.P b (q + (i * sz' + off)) e (a.eval Y).cells.toList 0 C w e1 (by simpa using e2) e3
              refine ⟨_, ?_, g', by rw [hg]; exact hnew⟩
              simp only [Nat.add_zero] at hst
              simp [execOp, ho, Instr.storeAt, Instr.sureAddr, e6, storeVar, run_sizeOf' w hz, hsz, hst]
            · cases hw
          · cases hw
        · cases hw
      · cases hw
  · cases hv

def zOK : V → Value → Bool
  | .int k n, .int k' n' => k == k' && n == n'
  | .bool b, .bool b' => b == b'
  | .str s, .string s' => decide (s = s')
  | .nili, .nilIface => true
  | .nilp, .pointer none => true
  | .nilf, .nilFunc => true
  | .sl _ _ [], .slice _ 0 0 => true
  | _, _ => false

theorem zOK_rel (w : World) (S : Stab) {z : V} {v : Value} (h : zOK z v = true) : Rel w S z v [] ∧ leaf z = true ∧ v.oneCell' = true ∧ v.cells = #[v] := by
  unfold zOK at h
  split at h
  · simp only [Bool.and_eq_true, beq_iff_eq] at h; obtain ⟨rfl, rfl⟩ := h; exact ⟨.int _ _, rfl, rfl, rfl⟩
  · simp only [beq_iff_eq] at h; subst h; exact ⟨.bool _, rfl, rfl, rfl⟩
  · simp only [decide_eq_true_eq] at h; subst h; exact ⟨.str _, rfl, rfl, rfl⟩
  · exact ⟨.nili, rfl, rfl, rfl⟩
  · exact ⟨.nilp, rfl, rfl, rfl⟩
  · exact ⟨.nilf, rfl, rfl, rfl⟩
  · exact ⟨.sl0 _ _ _, rfl, rfl, rfl⟩
  · cases h

def zsOK : List V → List Value → Bool
  | [], [] => true
  | z :: zs, v :: vs => zOK z v && zsOK zs vs
  | _, _ => false

theorem zsOK_rel (w : World) (S : Stab) : ∀ {zs : List V} {vs : List Value}, zsOK zs vs = true → zs.length = vs.length ∧ (∀ u ∈ vs, u.oneCell' = true) ∧ zs.all leaf = true ∧ ∀ (i : Nat) (z : V) (v : Value), zs[i]? = some z → vs[i]? = some v → Rel w S z v []
  | [], [], _ => by simp
  | [], _ :: _, h => by cases h
  | _ :: _, [], h => by cases h
  | z :: zs, v :: vs, h => by
    simp only [zsOK, Bool.and_eq_true] at h
    obtain ⟨h1, h2, h3, h4⟩ := zsOK_rel w S h.2
    have h0 := zOK_rel w S h.1
    refine ⟨by simp [h1], ?_, by simp [h0.2.1, h3], fun i y u hy hu => ?_⟩
    · intro u hu
      rcases List.mem_cons.1 hu with rfl | hu
      · exact h0.2.2.1
      · exact h2 u hu
    · cases i with
      | zero => simp at hy hu; subst hy hu; exact h0.1
      | succ i => exact h4 i y u (by simpa using hy) (by simpa using hu)

theorem put_put {α : Type} (d : Nat) (u v : α) : ∀ l : List (Nat × α), put (put l d u) d v = put l d v
  | [] => by simp [put]
  | (k, x) :: l => by
    by_cases h1 : k = d
    · subst h1; simp [put]
    · by_cases h2 : k < d
      · have ih := put_put d u v l
        simp only [put, if_neg h1, if_pos h2, ih]
      · simp [put, h1, h2]

theorem away_get {d : Nat} : ∀ {l : List (Nat × V)}, away d l = true → ∀ t off, (t, V.loc d off) ∈ l → t = d
  | [], _, _, _, h => by cases h
  | (t', v') :: l, h, t, off, hm => by
    rcases List.mem_cons.1 hm with e | e
    · cases e
      simp only [away, Bool.and_eq_true, Bool.or_eq_true, beq_iff_eq, bne_self_eq_false, Bool.false_eq_true, or_false] at h
      exact h.1
    · refine away_get (l := l) ?_ t off e
      cases v' <;> simp_all [away]

/-- A new box in a slot. -/
theorem Held.laid {d : Nat} {z : List V} {vs : Array Value} {e : TypeId} {os : List (List Nat)} (h : Held c g st a w hs) (hd : d < c.nt) (haw : away d st.tm = true) (hl : z.length = vs.size) (hlo : os.length = z.length)
    (hrel : ∀ (i : Nat) (y : V) (v : Value) (o : List Nat), z[i]? = some y → vs[i]? = some v → os[i]? = some o → Rel w g.S y v o)
    (hos : ∀ b ∈ os.flatten, b ∈ hs.flatMap (·.2.2)) (hnd : os.flatten.Nodup) :
    ∃ g', FInv c g' { tm := put st.tm d (.loc d 0), bx := put st.bx d (false, z) } (a.put (some d) (.pointer (some ⟨w.heap.size, 0, none⟩))) (w.alloc (.cells vs e)) := by
  have hlt : ∀ b, ((∃ t, b ∈ g.O t) ∨ (∃ d, b ∈ g.OB d) ∨ b ∈ hs.flatMap (·.2.2)) → b < w.heap.size := by
    rintro b (⟨t, hb⟩ | ⟨d', hb⟩ | hb)
    · exact (h.inv.fO t b hb).2
    · exact (h.inv.fB d' b hb).2
    · exact (h.fr b hb).1.2
  have hSn : ∀ k, ¬ g.S w.heap.size k := fun k hs => Nat.lt_irrefl _ (h.inv.lt _ _ hs)
  have h1 := h.write (w.alloc (.cells vs e)) w.heap.size (fun b hb => by
      by_cases hb' : b < w.heap.size
      · exact heap_alloc_old w _ b hb'
      · have h2 : w.heap.size ≤ b := by omega
        have h3 : (w.alloc (.cells vs e)).heap.size ≤ b := by simp; omega
        rw [Array.getElem?_eq_none h2, Array.getElem?_eq_none h3]) hSn
    (fun t hm => Nat.lt_irrefl _ (hlt _ (.inl ⟨t, hm⟩))) (fun d' hm => Nat.lt_irrefl _ (hlt _ (.inr (.inl ⟨d', hm⟩)))) (fun hm => Nat.lt_irrefl _ (hlt _ (.inr (.inr hm)))) (.inl h.inv.hB) rfl rfl rfl (by simp)
  have h2 := h1.inv.empty d
  have h3 := h2.rebx d (put st.bx d (false, z)) w.heap.size (w.heap.size :: os.flatten) (fun d' hd' => by rw [get_put, if_neg hd'])
    (fun cs hcs => by
      rw [get_put, if_pos rfl] at hcs
      cases hcs
      exact ⟨vs, e, os, heap_alloc_new w _, hl.symm, hlo, fun j y v o hy hv ho => (hrel j y v o hy hv ho).keep (Keep.of_heap fun b k hs => heap_alloc_old w _ b (h.inv.lt b k hs)) (fun _ _ h => h)
        (fun b hb => heap_alloc_old w _ b (hlt b (.inr (.inr (hos b (List.mem_flatten.2 ⟨o, List.mem_of_getElem? ho, hb⟩)))))) (fun _ _ _ h => h), rfl, hSn⟩)
    (fun cs hcs => by rw [get_put, if_pos rfl] at hcs; cases hcs) (fun hcs => by rw [get_put, if_pos rfl] at hcs; cases hcs)
    (.inr fun t off hg => by
      rw [get_put] at hg
      split at hg
      · cases hg
      · rename_i ht; exact ht (away_get haw t off (get_mem hg)))
    (List.nodup_cons.2 ⟨fun hm => Nat.lt_irrefl _ (hlt _ (.inr (.inr (hos _ hm)))), hnd⟩)
    (fun b hb => by
      rcases List.mem_cons.1 hb with rfl | hb
      · exact ⟨.inl h.inv.hB, by simp⟩
      · have := (h.fr b (hos b hb)).1
        exact ⟨this.1, by simp; omega⟩)
    (fun b hb t => by
      simp only
      by_cases ht : t = d
      · rw [if_pos ht]; simp
      · rw [if_neg ht]
        rcases List.mem_cons.1 hb with rfl | hb
        · exact fun hm => Nat.lt_irrefl _ (hlt _ (.inl ⟨t, hm⟩))
        · exact (h.fr b (hos b hb)).2.1 t)
    (fun b hb d' hd' => by
      rcases List.mem_cons.1 hb with rfl | hb
      · exact fun hm => Nat.lt_irrefl _ (hlt _ (.inr (.inl ⟨d', hm⟩)))
      · exact (h.fr b (hos b hb)).2.2 d')
  have h4 := h3.slot d hd (.loc d 0) (.pointer (some ⟨w.heap.size, 0, none⟩)) [] ⟨rfl, by simp⟩ (by simp [isX]) (by simp) (by simp) (by simp) (by simp)
  rw [put_put] at h4
  exact ⟨_, h4⟩

end Go.Vi
end
section
/- Operations that make memory, and calls. -/
namespace Go.Vi
variable {c : Ctx} {g : G} {st st' : St} {a : Act} {w : World} {hs : List Hv}

theorem nodup_set {os : List (List Nat)} {off : Nat} {o : List Nat} (h : os.flatten.Nodup) (ho : os[off]? = some o) :
    (os.set off []).flatten.Nodup ∧ (∀ b ∈ (os.set off []).flatten, b ∈ os.flatten) ∧ (∀ b ∈ o, b ∉ (os.set off []).flatten) ∧ o.Nodup ∧ ∀ b ∈ o, b ∈ os.flatten := by
  have hlt := (List.getElem?_eq_some_iff.1 ho).1
  have e : os = os.take off ++ o :: os.drop (off + 1) := by
    have h1 : os.take off ++ os.drop off = os := List.take_append_drop off os
    rw [List.drop_eq_getElem_cons hlt, (List.getElem?_eq_some_iff.1 ho).2] at h1
    exact h1.symm
  have e2 : os.set off [] = os.take off ++ [] :: os.drop (off + 1) := by
    rw [List.set_eq_take_append_cons_drop, if_pos hlt]
  have e3 : (os.set off []).flatten = (os.take off).flatten ++ (os.drop (off + 1)).flatten := by rw [e2]; simp
  have e4 : os.flatten = (os.take off).flatten ++ (o ++ (os.drop (off + 1)).flatten) := by
    conv => lhs; rw [e]
    simp
  rw [e4] at h
  rw [e3, e4]
  rw [List.nodup_append] at h
  obtain ⟨h1, h2, h3⟩ := h
  rw [List.nodup_append] at h2
  obtain ⟨h4, h5, h6⟩ := h2
  refine ⟨List.nodup_append.2 ⟨h1, h5, fun x hx y hy => h3 x hx y (List.mem_append_right _ hy)⟩, fun b hb => ?_, fun b hb hb' => ?_, h4, fun b hb => ?_⟩
  · rcases List.mem_append.1 hb with h7 | h7
    · exact List.mem_append_left _ h7
    · exact List.mem_append_right _ (List.mem_append_right _ h7)
  · rcases List.mem_append.1 hb' with h7 | h7
    · exact h3 b h7 b (List.mem_append_left _ hb) rfl
    · exact h6 b hb b h7 rfl
  · exact List.mem_append_right _ (List.mem_append_left _ hb)

theorem snd_take {o : Oper} {root : Root} {t : TypeId} {p : A} {X : Operand} {v : V} {call : FuncId → List V → Option V} (h : FInv c g st a w) (ho : o.op = .load t X) (hx : opndOK c.gl p X = true) (pp : plainA p = true)
    (hu : (c.P.underlying t).isSome = true) (hz : (c.P.info? t).map (·.size) = some 1) (ha : aggT c.P t = false)
    (hv : exec call (.take root p) st = some (v, st')) : Out c o a w st' v := by
  simp only [exec] at hv
  obtain ⟨o', hr⟩ := opndRaw h hx pp
  split at hv
  · rename_i d d' off e
    split at hv
    · rename_i hd
      subst hd
      split at hv
      · rename_i cs hb
        simp only [Option.map_eq_some_iff] at hv
        obtain ⟨x, hx', hv⟩ := hv
        cases hv
        rw [e] at hr
        have hX := hr.2
        obtain ⟨C, e0, os, e1, e2, e3, e4, e5, e6⟩ := h.bxf d cs hb
        have hlt := (List.getElem?_eq_some_iff.1 hx').1
        have hoo : os[off]? = some (os[off]'(by omega)) := List.getElem?_eq_getElem (by omega)
        generalize os[off]'(by omega) = ox at hoo
        have hCC : C[off]? = some (C[off]'(by omega)) := Array.getElem?_eq_getElem (by omega)
        have hBnd : (g.β d :: os.flatten).Nodup := e5 ▸ h.nB d
        obtain ⟨n1, n2, n3, n4, n5⟩ := nodup_set (List.nodup_cons.1 hBnd).2 hoo
        have hsub : ∀ b ∈ g.β d :: (os.set off []).flatten, b ∈ g.OB d := fun b hb => by
          rw [e5]
          rcases List.mem_cons.1 hb with h1 | h1
          · exact h1 ▸ List.mem_cons_self
          · exact List.mem_cons_of_mem _ (n2 b h1)
        have hnew := h.rebx d (put st.bx d (false, cs.set off .undef)) (g.β d) (g.β d :: (os.set off []).flatten) (fun d' hd' => by rw [get_put, if_neg hd'])
          (fun cs' hcs => by
            rw [get_put, if_pos rfl] at hcs
            cases hcs
            refine ⟨C, e0, os.set off [], e1, by simpa using e2, by simpa using e3, fun j y u ob hy hu ho => ?_, rfl, e6⟩
            rw [List.getElem?_set] at hy ho
            by_cases hj : off = j
            · rw [if_pos hj, if_pos (by omega)] at hy
              rw [if_pos hj, if_pos (by omega)] at ho
              cases hy; cases ho
              exact .undef _
            · rw [if_neg hj] at hy ho
              exact e4 j y u ob hy hu ho)
          (fun cs' hcs => by rw [get_put, if_pos rfl] at hcs; cases hcs) (fun hcs => by rw [get_put, if_pos rfl] at hcs; cases hcs) (.inl rfl)
          (List.nodup_cons.2 ⟨fun hm => (List.nodup_cons.1 hBnd).1 (n2 _ hm), n1⟩) (fun b hb => h.fB d b (hsub b hb)) (fun b hb t hm => h.dOB t d b hm (hsub b hb))
          (fun b hb d' hd' hm => h.dBB d d' (fun e => hd' e.symm) b (hsub b hb) hm)
        have hxo : ∀ b ∈ ox, b ∈ g.OB d := fun b hb => by rw [e5]; exact List.mem_cons_of_mem _ (n5 b hb)
        have hrun := run_loadVar (w := w) (P := c.P) (b := g.β d) (q := off) (sz := 1) (f := fun j => C.getD (off + j) Go.undef) hu hz (fun _ => rfl) (fun j hj => by
          have : j = 0 := by omega
          subst this
          simp [World.cell?, e1, Array.getD, show off < C.size by omega])
        rw [ha] at hrun
        refine .inl ⟨C.getD off Go.undef, w, by simp [execOp, ho, Instr.loadAt, Instr.sureAddr, hX, hrun], _, ox, ⟨hnew, fun e' he => ?_, by simpa using n4, fun b hb => ?_⟩⟩
        · simp only [List.mem_singleton] at he
          subst he
          refine .of_rel ?_
          have := e4 off v _ ox hx' hCC hoo
          simpa [Array.getD, show off < C.size by omega] using this
        · simp only [List.flatMap_cons, List.flatMap_nil, List.append_nil] at hb
          refine ⟨h.fB d b (hxo b hb), fun t hm => h.dOB t d b hm (hxo b hb), fun d' => ?_⟩
          simp only
          by_cases hd' : d' = d
          · rw [if_pos hd']
            intro hm
            rcases List.mem_cons.1 hm with h1 | h1
            · subst h1; exact (List.nodup_cons.1 hBnd).1 (n5 _ hb)
            · exact n3 b hb h1
          · rw [if_neg hd']
            exact fun hm => h.dBB d d' (fun e => hd' e.symm) b (hxo b hb) hm
      · cases hv
    · cases hv
  · cases hv

theorem foldl_cells (off : Nat) : ∀ (vs : List Value) (k : Nat) (C : Array Value),
    ((vs.zipIdx k).foldl (fun cs x => cs.setIfInBounds (off + x.2) x.1) C).size = C.size ∧ (off + k + vs.length ≤ C.size → ∀ i, ((vs.zipIdx k).foldl (fun cs x => cs.setIfInBounds (off + x.2) x.1) C)[i]? = if off + k ≤ i ∧ i < off + k + vs.length then vs[i - (off + k)]? else C[i]?)
  | [], k, C => ⟨rfl, fun _ i => by rw [if_neg (by simp only [List.length_nil]; omega)]; rfl⟩
  | v :: vs, k, C => by
    obtain ⟨h1, h2⟩ := foldl_cells off vs (k + 1) (C.setIfInBounds (off + k) v)
    simp only [List.zipIdx_cons, List.foldl_cons]
    refine ⟨by simpa using h1, fun hle i => ?_⟩
    simp only [List.length_cons] at hle
    rw [h2 (by simp; omega) i]
    by_cases h3 : i = off + k
    · subst h3
      rw [if_neg (by omega), if_pos (by simp)]
      simp [show off + k < C.size by omega]
    · rw [Array.getElem?_setIfInBounds_ne (fun e => h3 e.symm)]
      by_cases h4 : off + (k + 1) ≤ i ∧ i < off + (k + 1) + vs.length
      · rw [if_pos h4, if_pos (by simp; omega), show i - (off + k) = (i - (off + (k + 1))) + 1 by omega, List.getElem?_cons_succ]
      · rw [if_neg h4, if_neg (by simp; omega)]

/-- Cells that say no more than themselves. -/
def CR (w : World) (S : Stab) (cs : List V) (C : Array Value) : Prop := cs.length = C.size ∧ ∀ (i : Nat) (y : V) (u : Value), cs[i]? = some y → C[i]? = some u → Rel w S y u []

theorem cr_paste {S : Stab} {cs : List V} {C : Array Value} (h : CR w S cs C) {x : V} {r : Value} (hr : Rel w S x r []) (hl : (flat x).all leaf = true) {off : Nat} (hfit : off + (flat x).length ≤ cs.length) :
    r.cells.size = (flat x).length ∧ off + r.cells.size ≤ C.size ∧ CR w S (paste cs off (flat x)) (r.cells.zipIdx.foldl (fun cs x => cs.setIfInBounds (off + x.2) x.1) C) := by
  obtain ⟨f1, f2, nos, f3, f4, f5⟩ := hr.flat hl
  have hnos : ∀ o ∈ nos, o = [] := List.flatten_eq_nil_iff.1 f3
  have hC := h.1
  have e : r.cells.zipIdx.foldl (fun cs x => cs.setIfInBounds (off + x.2) x.1) C = (r.cells.toList.zipIdx 0).foldl (fun cs x => cs.setIfInBounds (off + x.2) x.1) C := by
    rw [← Array.foldl_toList, Array.toList_zipIdx]
  obtain ⟨g1, g2⟩ := foldl_cells off r.cells.toList 0 C
  rw [e]
  refine ⟨f1.symm, by omega, by simp [g1, paste]; omega, fun i y u hy hu => ?_⟩
  have hle : off + 0 + r.cells.toList.length ≤ C.size := by simp; omega
  rw [g2 hle i] at hu
  unfold paste at hy
  rw [mem_paste hfit] at hy
  by_cases h1 : i < off
  · rw [if_pos h1] at hy
    rw [if_neg (by omega)] at hu
    exact h.2 i y u hy hu
  · rw [if_neg h1] at hy
    by_cases h2 : i < off + (flat x).length
    · rw [if_pos h2] at hy
      rw [if_pos (by simp; omega)] at hu
      simp only [Nat.add_zero] at hu
      have hoo : nos[i - off]? = some (nos[i - off]'(by omega)) := List.getElem?_eq_getElem (by omega)
      have := f5 (i - off) y u _ hy (by simpa using hu) hoo
      rwa [hnos _ (List.getElem_mem _)] at this
    · rw [if_neg h2] at hy
      rw [if_neg (by simp; omega)] at hu
      exact h.2 i y u hy hu

/-- What a part of a struct says, its ownership forgotten. -/
theorem part_copy {g' : G} {st1 : St} {v : V} {r : Value} {o : List Nat} (h : RelT w g' st1 a v r o) (hl : (flat (cp v)).all leaf = true) : Rel w g'.S (cp v) r [] := by
  have : Rel w g'.S v r o := by
    refine h.rel ⟨fun d f e => ?_, fun t i f e => ?_, fun t e => ?_⟩ <;> (subst e; simp [cp, Vi.flat, leaf] at hl)
  exact this.copy

theorem fill_ok {g' : G} {st1 : St} {place : Nat → Option (Nat × Nat)} : ∀ (ps : List (Nat × Nat × A)) (parts : List (Nat × Value)) (cs : List V) (C : Array Value) (cs' : List V), ps.length = parts.length →
    (∀ (k : Nat) (p : Nat × Nat × A) (q : Nat × Value), ps[k]? = some p → parts[k]? = some q → place q.1 = some (p.1, p.2.1) ∧ ∃ o, RelT w g' st1 a (st.val p.2.2) q.2 o) →
    CR w g'.S cs C → fill st cs ps = some cs' → ∃ C', Instr.fill place C parts = some C' ∧ CR w g'.S cs' C'
  | [], [], cs, C, cs', _, _, hcr, hf => by simp only [fill, Option.some.injEq] at hf; subst hf; exact ⟨C, rfl, hcr⟩
  | [], _ :: _, _, _, _, hl, _, _, _ => by simp at hl
  | _ :: _, [], _, _, _, hl, _, _, _ => by simp at hl
  | (off, sz, x) :: ps, (i, r) :: parts, cs, C, cs', hl, hrel, hcr, hf => by
    simp only [fill] at hf
    split at hf
    · rename_i hc
      obtain ⟨hlen, hfit, hleaf⟩ := hc
      obtain ⟨hp, o, hr⟩ := hrel 0 _ _ rfl rfl
      obtain ⟨e1, e2, e3⟩ := cr_paste hcr (part_copy hr hleaf) hleaf (off := off) (by rw [hlen]; exact hfit)
      obtain ⟨C', h1, h2⟩ := fill_ok ps parts _ _ cs' (by simpa using hl) (fun k p q hp hq => hrel (k + 1) p q (by simpa using hp) (by simpa using hq)) e3 hf
      refine ⟨C', ?_, h2⟩
      simp only [Instr.fill]
      have hpl : place i = some (off, sz) := hp
      rw [hpl]
      simp only
      dsimp only at e1 e2 hlen
      rw [if_neg (by simp only [Bool.or_eq_true, decide_eq_true_eq]; omega)]
      exact h1
    · cases hf

/-- The parts of a build against the real ones. -/
def partsOK (gl : List (Nat × List V)) (place : Nat → Option (Nat × Nat)) : List (Nat × Nat × A) → List (Nat × Operand) → Bool
  | [], [] => true
  | (off, sz, x) :: ps, (i, X) :: qs => place i == some (off, sz) && opndOK gl x X && partsOK gl place ps qs
  | _, _ => false

theorem partsOK_spec {gl : List (Nat × List V)} {place : Nat → Option (Nat × Nat)} : ∀ {ps : List (Nat × Nat × A)} {qs : List (Nat × Operand)}, partsOK gl place ps qs = true → ps.length = qs.length ∧ opndsOK gl (ps.map (·.2.2)) (qs.map (·.2)) = true ∧
    ∀ (k : Nat) (p : Nat × Nat × A) (q : Nat × Operand), ps[k]? = some p → qs[k]? = some q → place q.1 = some (p.1, p.2.1)
  | [], [], _ => by simp [opndsOK]
  | [], _ :: _, h => by cases h
  | _ :: _, [], h => by cases h
  | (off, sz, x) :: ps, (i, X) :: qs, h => by
    simp only [partsOK, Bool.and_eq_true, beq_iff_eq] at h
    obtain ⟨h1, h2, h3⟩ := partsOK_spec h.2
    refine ⟨by simp [h1], by simp [opndsOK, h.1.2, h2], fun k p q hp hq => ?_⟩
    cases k with
    | zero => simp at hp hq; subst hp hq; exact h.1.1
    | succ k => exact h3 k p q (by simpa using hp) (by simpa using hq)

theorem held_parts {g' : G} {st1 : St} {xs : List A} {Xs : List Operand} {os : List (List Nat)} (h : Held c g' st1 a w ((xs.map st.val).zip ((Xs.map a.eval).zip os))) (h1 : xs.length = Xs.length) (h2 : os.length = xs.length) :
    ∀ (k : Nat) (x : A) (X : Operand), xs[k]? = some x → Xs[k]? = some X → ∃ o, RelT w g' st1 a (st.val x) (a.eval X) o := by
  intro k x X hx hX
  have hk := (List.getElem?_eq_some_iff.1 hx).1
  have ho : os[k]? = some (os[k]'(by omega)) := List.getElem?_eq_getElem (by omega)
  refine ⟨_, h.rel (st.val x, a.eval X, os[k]'(by omega)) (List.mem_of_getElem? (i := k) ?_)⟩
  simp [List.getElem?_zip_eq_some, hx, hX, ho]

theorem snd_build {o : Oper} {t : TypeId} {z : List V} {ps : List (Nat × Nat × A)} {Ps : Array (Nat × Operand)} {v : V} {call : FuncId → List V → Option V} {zv : Value} {place : Nat → Option (Nat × Nat)} (h : FInv c g st a w) (ho : o.op = .build t Ps)
    (hz : zsOK z zv.cells.toList = true)
    (hpl : ∀ parts, c.P.built t parts = Instr.fill place zv.cells parts) (hps : partsOK c.gl place ps Ps.toList = true) (hon : once (ps.map (·.2.2)) = true)
    (hv : exec call (.build z ps) st = some (v, st')) : Out c o a w st' v := by
  simp only [exec, Option.map_eq_some_iff] at hv
  obtain ⟨cs', hf, hv⟩ := hv
  cases hv
  obtain ⟨p1, p2, p3⟩ := partsOK_spec hps
  obtain ⟨g', os, hh, hl, -, -, -⟩ := Held.opnds _ _ st g [] (.nil h) p2 hon
  simp only [List.nil_append] at hh
  have hparts := held_parts hh (by simpa using p1) (by simpa using hl)
  have hz' := zsOK_rel w g'.S hz
  have hcr : CR w g'.S z zv.cells := ⟨by simpa using hz'.1, fun i y u hy hu => hz'.2.2.2 i y u hy (by simpa using hu)⟩
  obtain ⟨C', hfill, hcr'⟩ := fill_ok (place := place) ps (Ps.map fun (i, x) => (i, a.eval x)).toList z zv.cells cs' (by simpa using p1) (fun k p q hp hq => by
    simp only [Array.toList_map, List.getElem?_map, Option.map_eq_some_iff] at hq
    obtain ⟨q', hq', rfl⟩ := hq
    exact ⟨p3 k p q' hp hq', hparts k p.2.2 q'.2 (by simp [hp]) (by rw [List.getElem?_map, hq']; rfl)⟩) hcr hf
  have hrun := run_build (P := c.P) w t (Ps.map fun (i, x) => (i, a.eval x)) C' (by rw [hpl]; exact hfill)
  refine .inl ⟨_, w, by simp only [execOp, ho, Sem.run_bind, hrun]; rfl, g', [], ⟨hh.inv, fun e he => ?_, by simp, by simp⟩⟩
  simp only [List.mem_singleton] at he
  subst he
  exact .of_rel (.agg _ _ hcr'.1 hcr'.2)

end Go.Vi
end
