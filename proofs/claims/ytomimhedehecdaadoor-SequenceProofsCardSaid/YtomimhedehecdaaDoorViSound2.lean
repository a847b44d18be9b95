/- A step of a region. -/
import Derived.Test.YtomimhedehecdaaDoorViSound1
import Derived.Tactics
namespace Go.Vi
variable {c : Ctx} {g : G} {st st' st1 : St} {a : Act} {w : World} {hs : List Hv}

theorem Held.goes {v : V} {rv : Value} {ov : List Nat} {dst : Option Nat} (h : Held c g st a w [(v, rv, ov)]) (hd : ∀ d, dst = some d → d < c.nt) {p : Bool} (hi : into p dst (v, st) = some st1) : ∃ g', FInv c g' st1 (a.put dst rv) w := by
  unfold into at hi
  split at hi
  case isFalse => cases hi
  cases dst with
  | none =>
    simp only [Option.some.injEq] at hi
    subst hi
    exact ⟨g, h.inv⟩
  | some d =>
    have hrel := h.rel _ (List.mem_singleton.2 rfl)
    have key : (isX v = true → noref d st.tm = true) ∧ st1 = { st with tm := put st.tm d v } := by
      simp only at hi
      split at hi
      · split at hi
        · rename_i hn; cases hi; exact ⟨fun _ => hn, rfl⟩
        · cases hi
      · split at hi
        · rename_i hn; cases hi; exact ⟨fun _ => hn, rfl⟩
        · cases hi
      · rename_i h1 h2
        cases hi
        refine ⟨fun hx => ?_, rfl⟩
        rcases isX_cases hx with ⟨sz, xs, rfl⟩ | ⟨es, rfl⟩
        · exact absurd rfl (h1 _ _)
        · exact absurd rfl (h2 _)
    obtain ⟨k1, rfl⟩ := key
    have hdt := hd d rfl
    refine ⟨_, h.inv.slot d hdt v rv ov ?_ k1 (by simpa using h.nd) (fun b hb => (h.fr b (by simpa using hb)).1) (fun b hb t _ => (h.fr b (by simpa using hb)).2.1 t) (fun b hb => (h.fr b (by simpa using hb)).2.2)⟩
    refine hrel.frame (fun _ _ _ => rfl) (fun s hs hx => ?_) fun hr => hr
    by_cases hsd : s = d
    · subst hsd
      simp only [St.at, get_put, if_pos, Option.getD_some] at hx
      exfalso
      cases v <;> simp [names, isX] at hs hx
    · have he : ({ st with tm := put st.tm d v } : St).at s = st.at s := by simp [St.at, get_put, hsd]
      rw [he] at hx ⊢
      exact ⟨.self hx, by simp [Act.put, Array.getD_eq_getD_getElem?, Array.getElem?_setIfInBounds_ne (fun e => hsd e.symm)]⟩

/-- An operation with its slot and its guard. -/
def moOK (P : Program) (gl : List (Nat × List V)) (nt : Nat) (ops : Array Oper) (o : Oper) (m : MO) : Bool :=
  m.dst == o.dst && (match m.dst with | some d => decide (d < nt) | none => true) &&
  (match m.guard, o.guard with
    | none, none => true
    | some (j, want), some (i, want') => want == want' && (ops[i]?).bind (·.dst) == some j && decide (j < nt)
    | _, _ => false) &&
  match m.op with
  | .alloc z => match o.op with
    | .alloc e => match P.info? e with
      | some it => match it.zero with
        | some zv => zsOK z zv.cells.toList && m.guard.isNone
        | none => false
      | none => false
    | _ => false
  | .box _ x => match o.op with
    | .box _ X => opndOK gl x X && m.guard.isNone
    | _ => false
  | op => opOK P gl o op

def Oper.goes (P : Program) (ops : Array Oper) (o : Oper) (a : Act) (w : World) (K : Act → World → Prop) (Q : Exit → Act → World → Prop) : Prop :=
  if Region.wanted o (yielded ops a.tmps) then o.wp P a w K Q else K (a.put o.dst Go.undef) w

theorem Out.wp {o : Oper} {v : V} {K : Act → World → Prop} {Q : Exit → Act → World → Prop} (h : Out c o a w st' v) (hd : ∀ d, o.dst = some d → d < c.nt) {p : Bool} (hi : into p o.dst (v, st') = some st1)
    (hK : ∀ g a w, FInv c g st1 a w → K a w) : o.wp c.P a w K Q := by
  unfold Oper.wp
  rcases h with ⟨rv, w', hrun, g, ov, hh⟩ | ⟨hdn, w', hrun, g, hinv⟩ | ⟨f, args, hrun, hcalls⟩
  · rw [hrun]
    obtain ⟨g', h'⟩ := hh.goes hd hi
    exact hK g' _ _ h'
  · rw [hrun]
    rw [hdn] at hi
    unfold into at hi
    split at hi
    case isFalse => cases hi
    simp only [Option.some.injEq] at hi
    subst hi
    show K (a.put o.dst Go.undef) w'
    rw [hdn]
    exact hK g _ _ hinv
  · rw [hrun]
    refine Calls.mono hcalls ?_
    rintro e w' ⟨rv, rfl, g, ov, hh⟩
    obtain ⟨g', h'⟩ := hh.goes hd hi
    exact hK g' _ _ h'

theorem skp_goes (h : FInv c g st a w) {dst : Option Nat} (hd : ∀ d, dst = some d → d < c.nt) {p : Bool} (hi : into p dst (.skp, st) = some st1) : ∃ g', FInv c g' st1 (a.put dst Go.undef) w := by
  have hh : Held c g st a w [(.skp, Go.undef, [])] := by simpa using (Held.nil h).push0 (.of_rel .skp)
  exact hh.goes hd hi

theorem step_goes {ops : Array Oper} {o : Oper} {m : MO} {call : FuncId → List V → Option V} {K : Act → World → Prop} {Q : Exit → Act → World → Prop} (hok : moOK c.P c.gl c.nt ops o m = true)
    (hcall : ∀ f args r, call f args = some r → Good c.P c.gl f args r ∧ Entry c.P f) (h : FInv c g st a w) (hv : step call m st = some st1) (hK : ∀ g a w, FInv c g st1 a w → K a w) : Oper.goes c.P ops o a w K Q := by
  obtain ⟨dst, op, guard⟩ := m
  simp only [moOK, Bool.and_eq_true, beq_iff_eq] at hok
  obtain ⟨⟨⟨rfl, hd⟩, hgd⟩, hop⟩ := hok
  have hd' : ∀ d, o.dst = some d → d < c.nt := fun d e => by rw [e] at hd; simpa using hd
  unfold Oper.goes
  have key : ∀ {op : MOp}, opOK c.P c.gl o op = true → stepG call ⟨o.dst, op, guard⟩ st = some st1 → if Region.wanted o (yielded ops a.tmps) then o.wp c.P a w K Q else K (a.put o.dst Go.undef) w := by
    intro op hop hv
    unfold stepG at hv
    simp only at hv
    have hexec : (exec call op st).bind (into (ptrOp op) o.dst) = some st1 → o.wp c.P a w K Q := by
      intro he
      obtain ⟨⟨v, st'⟩, h1, h2⟩ := Option.bind_eq_some_iff.1 he
      exact (opOK_snd hop hcall h h1).wp hd' h2 hK
    cases guard with
    | none =>
      cases hog : o.guard with
      | some y => rw [hog] at hgd; cases hgd
      | none =>
        have : Region.wanted o (yielded ops a.tmps) = true := by simp [Region.wanted, hog]
        rw [if_pos this]
        exact hexec hv
    | some jw =>
      obtain ⟨j, want⟩ := jw
      cases hog : o.guard with
      | none => rw [hog] at hgd; cases hgd
      | some iw =>
        obtain ⟨i, want2⟩ := iw
        rw [hog] at hgd
        simp only [Bool.and_eq_true, beq_iff_eq, decide_eq_true_eq] at hgd
        obtain ⟨⟨rfl, hj⟩, hlt⟩ := hgd
        have hy : yielded ops a.tmps i = match a.tmps[j]? with | some (.bool b) => some b | _ => none := by
          unfold yielded
          rw [hj]
          rfl
        have hsz : j < a.tmps.size := by rw [h.size]; exact hlt
        have hat := h.at j
        have hget : a.tmps[j]? = some (a.tmps.getD j Go.undef) := by simp [Array.getD, hsz]
        rw [hget] at hy
        simp only at hv
        split at hv
        · rename_i b hb
          rw [hb] at hat
          have hb' : a.tmps.getD j Go.undef = .bool b := by
            have h1 : Rel w g.S (.bool b) (a.tmps.getD j Go.undef) (g.O j) := hat
            generalize a.tmps.getD j Go.undef = r at h1
            generalize g.O j = ob at h1
            cases h1
            rfl
          rw [hb'] at hy
          by_cases hbw : b = want
          · rw [if_pos hbw] at hv
            have : Region.wanted o (yielded ops a.tmps) = true := by simp [Region.wanted, hog, hy, hbw]
            rw [if_pos this]
            exact hexec hv
          · rw [if_neg hbw] at hv
            have : ¬ Region.wanted o (yielded ops a.tmps) = true := by simp [Region.wanted, hog, hy, hbw]
            rw [if_neg this]
            obtain ⟨g', h'⟩ := skp_goes h hd' hv
            exact hK g' _ _ h'
        · rename_i hb
          rw [hb] at hat
          have hb' : a.tmps.getD j Go.undef = Go.undef := by
            have h1 : Rel w g.S .skp (a.tmps.getD j Go.undef) (g.O j) := hat
            generalize a.tmps.getD j Go.undef = r at h1
            generalize g.O j = ob at h1
            cases h1
            rfl
          rw [hb'] at hy
          have : ¬ Region.wanted o (yielded ops a.tmps) = true := by simp [Region.wanted, hog, hy, Go.undef]
          rw [if_neg this]
          obtain ⟨g', h'⟩ := skp_goes h hd' hv
          exact hK g' _ _ h'
        · cases hv
  have hfree : guard.isNone = true → Region.wanted o (yielded ops a.tmps) = true := by
    intro hgn
    rw [Option.isNone_iff_eq_none] at hgn
    subst hgn
    cases hog : o.guard with
    | none => simp [Region.wanted, hog]
    | some y => rw [hog] at hgd; cases hgd
  cases op
  case alloc z =>
    simp only at hop
    split at hop
    · rename_i e ho
      split at hop
      · rename_i it hit
        split at hop
        · rename_i zv hzv
          simp only [Bool.and_eq_true] at hop
          rw [if_pos (hfree hop.2)]
          simp only [step] at hv
          split at hv
          · rename_i d hdd
            simp only [boxed] at hv
            split at hv
            · rename_i hc
              cases hv
              have hz := zsOK_rel w g.S hop.1
              obtain ⟨g', h'⟩ := (Held.nil h).laid (os := List.replicate z.length []) (vs := zv.cells) (e := e) (hd' d hdd) hc.1 (by simpa using hz.1) (by simp) (fun i y v o hy hv ho' => by
                have : o = [] := by
                  rw [List.getElem?_replicate] at ho'
                  split at ho' <;> simp_all
                subst this
                exact hz.2.2.2 i y v hy (by simpa using hv)) (by simp) (by simp)
              unfold Oper.wp
              have hrun : (execOp a.eval o).run c.P w = .ok (.value (.pointer (some ⟨w.heap.size, 0, none⟩))) (w.alloc (.cells zv.cells e)) := by
                simp [execOp, ho, Instr.alloc, zeroValue, typeInfo, hit, hzv, newVar, newRow]
              rw [hrun]
              show K (a.put o.dst _) _
              rw [hdd]
              exact hK g' _ _ h'
            · cases hv
          · cases hv
        · cases hop
      · cases hop
    · cases hop
  case box sz x =>
    simp only at hop
    split at hop
    · rename_i e X ho
      simp only [Bool.and_eq_true] at hop
      rw [if_pos (hfree hop.2)]
      simp only [step] at hv
      split at hv
      · rename_i d hdd
        split at hv
        · rename_i hsz
          simp only [boxed] at hv
          split at hv
          · rename_i hc
            cases hv
            obtain ⟨g1, ov, hh, -, -, -⟩ := opnd1 h hop.1
            have hrel : Rel w g1.S (st.val x) (a.eval X) ov := by
              refine (hh.rel _ (List.mem_singleton.2 rfl)).rel ⟨fun d f e => ?_, fun t i f e => ?_, fun t e => ?_⟩ <;> (dsimp only at e; have := hc.2; rw [e] at this; simp [Vi.flat, leaf] at this)
            obtain ⟨f1, f2, nos, f3, f4, f5⟩ := hrel.flat hc.2
            obtain ⟨g', h'⟩ := hh.laid (os := nos) (vs := (a.eval X).cells) (e := e) (hd' d hdd) hc.1 f1 f4 f5 (fun b hb => by simp [← f3, hb]) (by rw [f3]; simpa using hh.nd)
            unfold Oper.wp
            have hrun : (execOp a.eval o).run c.P w = .ok (.value (.pointer (some ⟨w.heap.size, 0, none⟩))) (w.alloc (.cells (a.eval X).cells e)) := by
              simp [execOp, ho, Instr.box, newVar, newRow]
            rw [hrun]
            show K (a.put o.dst _) _
            rw [hdd]
            exact hK g' _ _ h'
          · cases hv
        · cases hv
      · cases hv
    · cases hop
  all_goals exact key hop hv

end Go.Vi
