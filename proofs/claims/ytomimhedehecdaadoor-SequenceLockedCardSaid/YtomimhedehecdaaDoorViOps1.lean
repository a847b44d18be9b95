/- Each operation of the small code against the real one: operations that leave memory alone. -/
import Derived.Test.YtomimhedehecdaaDoorViFrame4
import Derived.Laws.Tables
import Derived.Laws.Cells
import Derived.Laws.Entries
import Derived.Test.YtomimhedehecdaaDoorViEq
namespace Go.Vi

variable {c : Ctx} {g : G} {st st' : St} {a : Act} {w : World}

/-- What an operation comes to. -/
def Out (c : Ctx) (o : Oper) (a : Act) (w : World) (st' : St) (v : V) : Prop :=
  (∃ rv w', (execOp a.eval o).run c.P w = .ok (.value rv) w' ∧ ∃ g ov, Held c g st' a w' [(v, rv, ov)]) ∨
  (o.dst = none ∧ ∃ w', (execOp a.eval o).run c.P w = .ok .skip w' ∧ ∃ g, FInv c g st' a w') ∨
  (∃ f args, (execOp a.eval o).run c.P w = .ok (.enter f args) w ∧ Calls c.P f args w fun e w' => ∃ rv, e = .returned rv ∧ ∃ g ov, Held c g st' a w' [(v, rv, ov)])

theorem Out.pure {o : Oper} {v : V} {rv : Value} (h : FInv c g st a w) (hr : RelT w g st a v rv []) (hrun : (execOp a.eval o).run c.P w = .ok (.value rv) w) : Out c o a w st v :=
  .inl ⟨rv, w, hrun, g, [], by simpa using (Held.nil h).push0 hr⟩

theorem Out.pureR {o : Oper} {v : V} {rv : Value} (h : FInv c g st a w) (hr : Rel w g.S v rv []) (hrun : (execOp a.eval o).run c.P w = .ok (.value rv) w) : Out c o a w st v :=
  Out.pure h (.of_rel hr) hrun

def plainA : A → Bool
  | .m .. => false
  | _ => true

/-- A plain operand. -/
theorem opnd (h : FInv c g st a w) {x : A} {X : Operand} (hok : opndOK c.gl x X = true) (hp : plainA x = true) : RelT w g st a (st.val x) (a.eval X) [] := by
  cases x with
  | t n => cases X <;> simp only [opndOK, beq_iff_eq, Bool.false_eq_true] at hok; subst hok; exact h.copy n
  | m o n => cases hp
  | c v => exact .of_rel (const_rel h hok)

/-- What the forms of an operand tell of the real value. -/
theorem opnd_int (h : FInv c g st a w) {x : A} {X : Operand} (hok : opndOK c.gl x X = true) (hp : plainA x = true) {k : IntKind} {n : Int} (hv : st.val x = .int k n) : a.eval X = .int k n := by
  have hr := opnd h hok hp
  rw [hv] at hr
  generalize a.eval X = r at hr ⊢
  cases hr; rfl
theorem opnd_bool (h : FInv c g st a w) {x : A} {X : Operand} (hok : opndOK c.gl x X = true) (hp : plainA x = true) {b : Bool} (hv : st.val x = .bool b) : a.eval X = .bool b := by
  have hr := opnd h hok hp
  rw [hv] at hr
  generalize a.eval X = r at hr ⊢
  cases hr; rfl
theorem opnd_str (h : FInv c g st a w) {x : A} {X : Operand} (hok : opndOK c.gl x X = true) (hp : plainA x = true) {s : ByteArray} (hv : st.val x = .str s) : a.eval X = .string s := by
  have hr := opnd h hok hp
  rw [hv] at hr
  generalize a.eval X = r at hr ⊢
  cases hr; rfl

/-- One operand, handed on or not, whose value goes into a slot. -/
theorem opnd1 (h : FInv c g st a w) {x : A} {X : Operand} (hok : opndOK c.gl x X = true) : ∃ g' ov, Held c g' (st.gone [x]) a w [(st.val x, a.eval X, ov)] ∧ (∀ b k, g.S b k → g'.S b k) ∧ g'.β = g.β ∧ g'.OB = g.OB := by
  obtain ⟨g', os, h1, h2, h3, h4, h5⟩ := Held.opnds [x] [X] st g [] (.nil h) (by simp [opndsOK, hok]) (by cases x <;> simp [once])
  match os, h2 with
  | [ov], _ => exact ⟨g', ov, by simpa using h1, h3, h4, h5⟩

theorem snd_mv {o : Oper} {x : A} {X : Operand} (h : FInv c g st a w) (ho : o.op = .move X ∨ o.op = .assign X) (hok : opndOK c.gl x X = true) : Out c o a w (st.gone [x]) (st.val x) := by
  obtain ⟨g', ov, h1, _⟩ := opnd1 h hok
  exact .inl ⟨_, w, by rcases ho with ho | ho <;> simp [execOp, ho], g', ov, h1⟩

theorem snd_pick {o : Oper} {x y z : A} {X Y Z : Operand} (h : FInv c g st a w) (ho : o.op = .pick X Y Z) (hx : opndOK c.gl x X = true) (hy : opndOK c.gl y Y = true) (hz : opndOK c.gl z Z = true)
    (px : plainA x = true) (py : plainA y = true) (pz : plainA z = true) {b : Bool} (hb : st.val x = .bool b) : Out c o a w st (if b then st.val y else st.val z) := by
  have e := opnd_bool h hx px hb
  refine Out.pure (rv := if b then a.eval Y else a.eval Z) h ?_ (by simp [execOp, ho, e, asBool])
  cases b
  · exact opnd h hz pz
  · exact opnd h hy py

theorem snd_un {o : Oper} {op : UnOp} {t : TypeId} {x : A} {X : Operand} (h : FInv c g st a w) (ho : o.op = .unOp op t X) (hx : opndOK c.gl x X = true) (px : plainA x = true) {v : V} (hv : unv op (st.val x) = some v) : Out c o a w st v := by
  cases hx' : st.val x <;> rw [hx'] at hv <;> simp only [unv, reduceCtorEq] at hv
  · rename_i b
    have e := opnd_bool h hx px hx'
    cases op <;> simp only [Option.some.injEq, reduceCtorEq] at hv
    subst hv
    exact Out.pureR h (.bool _) (by simp [execOp, ho, e, Op.unary])
  · rename_i k n
    have e := opnd_int h hx px hx'
    cases op <;> simp only [Option.some.injEq, reduceCtorEq] at hv
    subst hv
    exact Out.pureR h (.int _ _) (by simp [execOp, ho, e, Op.unary, Op.intArith])

theorem intArith_run (P : Program) (w : World) (t : TypeId) {op : BinOp} {k : IntKind} {x y : Int} {v : V} (h : ibin op k x y = some v) : ∃ rv, (binOp op t (.int k x) (.int k y)).run P w = .ok rv w ∧ ∀ S : Stab, Rel w S v rv [] := by
  cases op <;> simp only [ibin, reduceCtorEq] at h
  case quo =>
    split at h
    · cases h
    · rename_i hy; cases h; exact ⟨_, by simp [binOp, Op.intDiv, hy], fun _ => .int _ _⟩
  case rem =>
    split at h
    · cases h
    · rename_i hy; cases h; exact ⟨_, by simp [binOp, Op.intDiv, hy], fun _ => .int _ _⟩
  all_goals
    cases h
    first
      | exact ⟨_, by simp only [binOp, ne_eq, not_true_eq_false, if_false]; rfl, fun _ => .int _ _⟩
      | exact ⟨_, by simp only [binOp, ne_eq, not_true_eq_false, if_false]; rfl, fun _ => .bool _⟩

theorem str_run (P : Program) (w : World) (t : TypeId) {op : BinOp} {x y : ByteArray} {v : V} (h : sbin op x y = some v) : ∃ rv, (binOp op t (.string x) (.string y)).run P w = .ok rv w ∧ ∀ S : Stab, Rel w S v rv [] := by
  cases op <;> simp only [sbin, reduceCtorEq] at h
  case add =>
    split at h
    · rename_i hle
      cases h
      refine ⟨.string (x ++ y), ?_, fun _ => .str _⟩
      simp [binOp, Op.stringOp]
      omega
    · cases h
  all_goals
    cases h
    first
      | exact ⟨_, by simp only [binOp, Op.stringOp]; rfl, fun _ => .bool _⟩

theorem rel_vk {S : Stab} {k : Lk} {x y : V} {u v : Value} {o o' : List Nat} {b : Bool} (hx : Rel w S x u o) (hy : Rel w S y v o') (h : leq1 k x y = some b) : vk k u v = some b := by
  cases k <;> cases x <;> simp only [leq1, reduceCtorEq] at h <;> cases y <;> simp only [reduceCtorEq] at h <;> cases hx <;> cases hy <;> simpa [vk] using h

theorem rel_vks {S : Stab} : ∀ {ks : List Lk} {xs ys : List V} {us vs : List Value} {b : Bool}, leqs ks xs ys = some b → xs.length = us.length → ys.length = vs.length →
    (∀ (i : Nat) (x : V) (u : Value), xs[i]? = some x → us[i]? = some u → Rel w S x u []) → (∀ (i : Nat) (y : V) (v : Value), ys[i]? = some y → vs[i]? = some v → Rel w S y v []) → vks ks us vs = some b
  | [], [], [], [], [], b, h, _, _, _, _ => by simpa [leqs, vks] using h
  | k :: ks, x :: xs, y :: ys, u :: us, v :: vs, b, h, h1, h2, hx, hy => by
    simp only [leqs] at h
    split at h
    · rename_i p q e1 e2
      cases h
      have r1 := rel_vk (hx 0 x u (by simp) (by simp)) (hy 0 y v (by simp) (by simp)) e1
      have r2 := rel_vks e2 (by simpa using h1) (by simpa using h2) (fun i x u a b => hx (i + 1) x u (by simpa using a) (by simpa using b)) (fun i x u a b => hy (i + 1) x u (by simpa using a) (by simpa using b))
      simp [vks, r1, r2]
    · cases h
  | [], _ :: _, _, _, _, _, h, _, _, _, _ => by simp [leqs] at h
  | [], [], _ :: _, _, _, _, h, _, _, _, _ => by simp [leqs] at h
  | _ :: _, [], _, _, _, _, h, _, _, _, _ => by simp [leqs] at h
  | _ :: _, _ :: _, [], _, _, _, h, _, _, _, _ => by simp [leqs] at h
  | [], [], [], _ :: _, _, _, _, h1, _, _, _ => by simp at h1
  | [], [], [], [], _ :: _, _, _, _, h2, _, _ => by simp at h2
  | _ :: _, _ :: _, _ :: _, [], _, _, _, h1, _, _, _ => by simp at h1
  | _ :: _, _ :: _, _ :: _, _ :: _, [], _, _, _, h2, _, _ => by simp at h2

def plain1 : V → Bool
  | .int .. | .bool _ | .str _ => true
  | _ => false

theorem Rel.plain {S : Stab} {x : V} {u : Value} {o : List Nat} (h : Rel w S x u o) (hp : plain1 x = true) : o = [] ∧ u.cells = #[u] := by
  cases h <;> simp_all [plain1, Value.cells]

theorem leqs_leaf : ∀ {ks : List Lk} {xs ys : List V} {b : Bool}, leqs ks xs ys = some b → (∀ x ∈ xs, plain1 x = true) ∧ ∀ y ∈ ys, plain1 y = true
  | [], [], [], _, _ => by simp
  | k :: ks, x :: xs, y :: ys, b, h => by
    simp only [leqs] at h
    split at h
    · rename_i p q e1 e2
      have ih := leqs_leaf e2
      have : plain1 x = true ∧ plain1 y = true := by
        cases k <;> cases x <;> simp only [leq1, reduceCtorEq] at e1 <;> cases y <;> simp_all [plain1]
      simp only [List.mem_cons, forall_eq_or_imp]
      exact ⟨⟨this.1, ih.1⟩, this.2, ih.2⟩
    · cases h
  | [], _ :: _, _, _, h => by simp [leqs] at h
  | [], [], _ :: _, _, h => by simp [leqs] at h
  | _ :: _, [], _, _, h => by simp [leqs] at h
  | _ :: _, _ :: _, [], _, h => by simp [leqs] at h

/-- Values of a type whose cells are of some kinds. -/
theorem rel_cellsAg {S : Stab} {ag : Bool} {x : V} {u : Value} {o : List Nat} {xs : List V} (h : Rel w S x u o) (hc : cellsAg ag x = some xs) (hl : ∀ y ∈ xs, plain1 y = true) :
    (ag = true → ∃ us, u = .agg us) ∧ (ag = false → u.cells = #[u]) ∧ xs.length = u.cells.toList.length ∧ ∀ (i : Nat) (x : V) (v : Value), xs[i]? = some x → u.cells.toList[i]? = some v → Rel w S x v [] := by
  cases ag with
  | true =>
    cases x <;> simp only [cellsAg, reduceCtorEq, Option.some.injEq] at hc
    subst hc
    cases h with
    | agg cs vs hlen hr => exact ⟨fun _ => ⟨vs, rfl⟩, fun h => (by cases h), by simpa [Value.cells] using hlen, fun i x v h1 h2 => hr i x v h1 (by simpa [Value.cells] using h2)⟩
  | false =>
    have hxs : xs = [x] := by cases x <;> simp_all [cellsAg]
    subst hxs
    obtain ⟨rfl, h1⟩ := h.plain (hl x (by simp))
    refine ⟨fun h => (by cases h), fun _ => h1, by simp [h1], ?_⟩
    intro i y v h2 h3
    rw [h1] at h3
    cases i with
    | zero => simp at h2 h3; subst h2 h3; exact h
    | succ i => simp at h2

/-- '==' as the model has it, of values of plain kinds. -/
theorem leqv_ok {P : Program} {S : Stab} {ag : Bool} {ks : List Lk} {x y : V} {u v : Value} {o o' : List Nat} {b : Bool} (hx : Rel w S x u o) (hy : Rel w S y v o') (h : leqv ag ks x y = some b)
    {d : Nat} {t : TypeId} (hk : kindsOf P d t = some ks) (ha : aggT P t = ag) : (Op.equalIn d t u v).run P w = .ok b w := by
  unfold leqv at h
  split at h
  · rename_i xs ys e1 e2
    have hl := leqs_leaf h
    obtain ⟨a1, a2, a3, a4⟩ := rel_cellsAg hx e1 hl.1
    obtain ⟨b1, b2, b3, b4⟩ := rel_cellsAg hy e2 hl.2
    refine equalIn_ok d t ks hk u v b (fun hg => ?_) (fun hg => ?_) (rel_vks h a3 b3 a4 b4) w
    · obtain ⟨us, rfl⟩ := a1 (ha.symm.trans hg)
      obtain ⟨vs, rfl⟩ := b1 (ha.symm.trans hg)
      exact ⟨us, vs, rfl, rfl⟩
    · exact ⟨a2 (ha.symm.trans hg), b2 (ha.symm.trans hg)⟩
  · cases h

theorem RelT.rel' {v : V} {r : Value} {o : List Nat} (h : RelT w g st a v r o) {ag : Bool} {xs : List V} (hc : cellsAg ag v = some xs) (hp : ∀ y ∈ xs, plain1 y = true) : Rel w g.S v r o := by
  refine h.rel ⟨fun d f e => ?_, fun t i f e => ?_, fun t e => ?_⟩
  all_goals
    subst e
    cases ag <;> simp only [cellsAg, reduceCtorEq, Option.some.injEq] at hc
    subst hc
    have := hp _ (List.mem_singleton.2 rfl)
    cases this

theorem leqv_parts {ag : Bool} {ks : List Lk} {x y : V} {b : Bool} (h : leqv ag ks x y = some b) : ∃ xs ys, cellsAg ag x = some xs ∧ cellsAg ag y = some ys ∧ leqs ks xs ys = some b := by
  unfold leqv at h
  split at h
  · rename_i xs ys e1 e2; exact ⟨xs, ys, e1, e2, h⟩
  · cases h

theorem snd_eqs {o : Oper} {ag neg : Bool} {ks : List Lk} {t t' : TypeId} {x y : A} {X Y : Operand} {b : Bool} (h : FInv c g st a w) (ho : o.op = .binOp (if neg then .neq else .eql) t X Y t') (hx : opndOK c.gl x X = true) (hy : opndOK c.gl y Y = true)
    (px : plainA x = true) (py : plainA y = true) (hk : kindsOf c.P Op.maxDepth t = some ks) (ha : aggT c.P t = ag) (hg : ag = true → c.P.eqGuardType c.P.depth t = false) (hi : ag = false → ks = [.b])
    (hv : leqv ag ks (st.val x) (st.val y) = some b) : Out c o a w st (.bool (if neg then !b else b)) := by
  obtain ⟨xs, ys, e1, e2, e3⟩ := leqv_parts hv
  have hl := leqs_leaf e3
  have rx := (opnd h hx px).rel' e1 hl.1
  have ry := (opnd h hy py).rel' e2 hl.2
  have hrun := leqv_ok rx ry hv hk ha
  refine Out.pureR h (.bool _) ?_
  have hgd : (eqGuard (if neg then .neq else .eql) t X Y (a.eval X) (a.eval Y)).run c.P w = .ok () w := by
    cases ag with
    | true =>
      obtain ⟨us, hu⟩ := (rel_cellsAg rx e1 hl.1).1 rfl
      obtain ⟨vs, hv'⟩ := (rel_cellsAg ry e2 hl.2).1 rfl
      rw [hu, hv']
      exact run_eqGuard_agg w _ t X Y us vs (hg rfl)
    | false =>
      have hks := hi rfl
      subst hks
      have : ∃ p, st.val x = .bool p := by
        cases hvx : st.val x <;> rw [hvx] at e1 <;> simp only [cellsAg, reduceCtorEq, Option.some.injEq] at e1 <;> subst e1 <;> (cases ys <;> simp only [leqs, leq1, reduceCtorEq] at e3)
        · exact ⟨_, rfl⟩
      obtain ⟨p, hp⟩ := this
      rw [opnd_bool h hx px hp]
      rw [eqGuard_at_bool]
      rfl
  have hbin : (binOp (if neg then .neq else .eql) t (a.eval X) (a.eval Y)).run c.P w = .ok (.bool (if neg then !b else b)) w := by
    cases ag with
    | true =>
      obtain ⟨us, hu⟩ := (rel_cellsAg rx e1 hl.1).1 rfl
      obtain ⟨vs, hv'⟩ := (rel_cellsAg ry e2 hl.2).1 rfl
      rw [hu, hv'] at hrun ⊢
      cases neg <;> simp [binOp, Op.equal, hrun]
    | false =>
      have hks := hi rfl
      subst hks
      have : ∃ p q, st.val x = .bool p ∧ st.val y = .bool q := by
        cases hvx : st.val x <;> rw [hvx] at e1 <;> simp only [cellsAg, reduceCtorEq, Option.some.injEq] at e1 <;> subst e1 <;>
          cases hvy : st.val y <;> rw [hvy] at e2 <;> simp only [cellsAg, reduceCtorEq, Option.some.injEq] at e2 <;> subst e2 <;> simp only [leqs, leq1, reduceCtorEq] at e3
        · exact ⟨_, _, rfl, rfl⟩
      obtain ⟨p, q, hp, hq⟩ := this
      rw [opnd_bool h hx px hp, opnd_bool h hy py hq] at hrun ⊢
      cases neg <;> simp [binOp, Op.equal, hrun]
  simp [execOp, ho, hgd, hbin]

theorem snd_bin {o : Oper} {op : BinOp} {t t' : TypeId} {x y : A} {X Y : Operand} {v : V} (h : FInv c g st a w) (ho : o.op = .binOp op t X Y t') (hx : opndOK c.gl x X = true) (hy : opndOK c.gl y Y = true)
    (px : plainA x = true) (py : plainA y = true) (hv : binv op (st.val x) (st.val y) = some v) : Out c o a w st v := by
  unfold binv at hv
  split at hv
  · rename_i k p k' q e1 e2
    have ex := opnd_int h hx px e1
    have ey := opnd_int h hy py e2
    have hgd : eqGuard op t X Y (.int k p) (.int k' q) = pure () := eqGuard_at_int _ _ _ _ _ _ _
    split at hv
    · split at hv
      · rename_i hq; cases hv
        refine Out.pureR h (.int _ _) (by simp [execOp, ho, ex, ey, hgd, binOp, Op.shift, show ¬ q < 0 by omega])
      · cases hv
    · split at hv
      · rename_i hq; cases hv
        refine Out.pureR h (.int _ _) (by simp [execOp, ho, ex, ey, hgd, binOp, Op.shift, show ¬ q < 0 by omega])
      · cases hv
    · rename_i n1 n2
      split at hv
      · rename_i hk
        subst hk
        obtain ⟨rv, hrun, hrel⟩ := intArith_run c.P w t hv
        exact Out.pureR h (hrel _) (by simp [execOp, ho, ex, ey, hgd, hrun])
      · cases hv
  · rename_i p q e1 e2
    have ex := opnd_str h hx px e1
    have ey := opnd_str h hy py e2
    have hgd : eqGuard op t X Y (.string p) (.string q) = pure () := eqGuard_at_string _ _ _ _ _ _
    obtain ⟨rv, hrun, hrel⟩ := str_run c.P w t hv
    exact Out.pureR h (hrel _) (by simp [execOp, ho, ex, ey, hgd, hrun])
  · cases hv

end Go.Vi
