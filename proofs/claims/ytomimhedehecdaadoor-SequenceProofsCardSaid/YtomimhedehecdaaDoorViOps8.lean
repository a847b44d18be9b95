/- Calls. -/
import Derived.Test.YtomimhedehecdaaDoorViOps7
namespace Go.Vi
variable {c : Ctx} {g : G} {st st' : St} {a : Act} {w : World} {hs : List Hv}

/-- Real arguments for abstract ones. -/
def ArgsRel (w : World) (S : Stab) (vs : List V) (rs : List Value) (os : List (List Nat)) : Prop :=
  rs.length = vs.length ∧ os.length = vs.length ∧ ∀ (i : Nat) (v : V) (r : Value) (o : List Nat), vs[i]? = some v → rs[i]? = some r → os[i]? = some o → Rel w S v r o

/-- What a function gives back. -/
def Post (w : World) (S : Stab) (Mv : List Nat) (r : V) (e : Ending) (w' : World) : Prop :=
  ∃ rv, e = .returned rv ∧ ∃ (S' : Stab) (ov : List Nat), Upd w.heap.size Mv w w' ∧ Keep S w w' ∧ (∀ b k, S b k → S' b k) ∧ (∀ b k, S' b k → S b k ∨ w.heap.size ≤ b ∨ b ∈ Mv) ∧ (∀ b k, S' b k → b < w'.heap.size) ∧
    Rel w' S' r rv ov ∧ ov.Nodup ∧ ∀ b ∈ ov, (w.heap.size ≤ b ∨ b ∈ Mv) ∧ b < w'.heap.size

/-- A function answers so. -/
def Good (P : Program) (gl : List (Nat × List V)) (f : FuncId) (args : List V) (r : V) : Prop :=
  ∀ (w : World) (S : Stab) (rs : List Value) (os : List (List Nat)), ArgsRel w S args rs os → os.flatten.Nodup → (∀ b ∈ os.flatten, b < w.heap.size) → (∀ b k, S b k → b < w.heap.size) →
    (∀ x cs, (x, cs) ∈ gl → Rel w S (.ptr cs 0) (.pointer (some ⟨x, 0, none⟩)) []) → Calls P f rs.toArray w (Post w S os.flatten r)

def Entry (P : Program) (f : FuncId) : Prop := ∃ fn cd, P.funcs[f]? = some fn ∧ (fn.name == "runtime.NumGoroutine") = false ∧ fn.body = some cd

theorem run_enter {P : Program} {f : FuncId} (h : Entry P f) (args : Array Value) (w : World) : (callFunc f args).run P w = .ok (.enter f args) w := by
  obtain ⟨fn, cd, hf, hn, hb⟩ := h
  have h1 : fn.name ≠ "runtime.NumGoroutine" := by simpa using hn
  simp [callFunc, hf, h1, hb]

theorem zip_os {α : Type} : ∀ {vs : List V} {rs : List α} {os : List (List Nat)}, rs.length = vs.length → os.length = vs.length → (vs.zip (rs.zip os)).flatMap (·.2.2) = os.flatten
  | [], [], [], _, _ => rfl
  | [], _ :: _, _, h, _ => by simp at h
  | [], [], _ :: _, _, h => by simp at h
  | _ :: _, [], _, h, _ => by simp at h
  | _ :: _, _ :: _, [], _, h => by simp at h
  | v :: vs, r :: rs, o :: os, h1, h2 => by
    simp only [List.zip_cons_cons, List.flatMap_cons, List.flatten_cons]
    rw [zip_os (by simpa using h1) (by simpa using h2)]

theorem flatten_nils {α : Type} (l : List α) : (l.map fun _ => ([] : List Nat)).flatten = [] := by
  induction l <;> simp_all

theorem opnds_len {gl : List (Nat × List V)} : ∀ {xs : List A} {Xs : List Operand}, opndsOK gl xs Xs = true → Xs.length = xs.length
  | [], [], _ => rfl
  | [], _ :: _, h => by cases h
  | _ :: _, [], h => by cases h
  | x :: xs, X :: Xs, h => by
    simp only [opndsOK, Bool.and_eq_true] at h
    simp [opnds_len h.2]

/-- What is held goes into a function, and what it gives is held. -/
theorem Held.called {vs us : List V} {rs ru : List Value} {os : List (List Nat)} {f : FuncId} {r : V} (h : Held c g st a w (vs.zip (rs.zip os))) (h1 : rs.length = vs.length) (h2 : os.length = vs.length) (hd : vs.all data = true) (hgood : Good c.P c.gl f (vs ++ us) r)
    (hul : ru.length = us.length) (hu : ∀ (i : Nat) (v : V) (r : Value), us[i]? = some v → ru[i]? = some r → Rel w g.S v r []) :
    Calls c.P f (rs ++ ru).toArray w fun e w' => ∃ rv, e = .returned rv ∧ ∃ g ov, Held c g st a w' [(r, rv, ov)] := by
  have hz := zip_os h1 h2
  have hos : (os ++ us.map fun _ => []).flatten = os.flatten := by rw [List.flatten_append, flatten_nils, List.append_nil]
  have hargs : ArgsRel w g.S (vs ++ us) (rs ++ ru) (os ++ us.map fun _ => []) := by
    refine ⟨by simp [h1, hul], by simp [h2], fun i v r o hv hr ho => ?_⟩
    rw [List.getElem?_append] at hv hr ho
    by_cases hi : i < vs.length
    · rw [if_pos hi] at hv
      rw [if_pos (by omega)] at hr ho
      have hm : (v, r, o) ∈ vs.zip (rs.zip os) := List.mem_of_getElem? (i := i) (by simp [List.getElem?_zip_eq_some, hv, hr, ho])
      refine (h.rel _ hm).rel ?_
      have := List.all_eq_true.1 hd v (List.mem_of_getElem? hv)
      refine ⟨fun d f e => ?_, fun t i f e => ?_, fun t e => ?_⟩ <;> (dsimp only at e; subst e; cases this)
    · rw [if_neg hi] at hv
      rw [if_neg (by omega)] at hr ho
      rw [h1] at hr
      have : o = [] := by
        rw [h2, List.getElem?_map, hv] at ho
        simpa using ho.symm
      subst this
      exact hu _ v r hv hr
  have hnd : os.flatten.Nodup := hz ▸ h.nd
  have hfr : ∀ b ∈ os.flatten, ((c.B ≤ b ∨ b ∈ c.Mv) ∧ b < w.heap.size) ∧ (∀ t, b ∉ g.O t) ∧ ∀ d, b ∉ g.OB d := fun b hb => h.fr b (hz.symm ▸ hb)
  refine (hgood w g.S _ _ hargs (hos.symm ▸ hnd) (fun b hb => (hfr b (hos ▸ hb)).1.2) h.inv.lt (fun x cs hx => (h.inv.gl x cs hx).keep0 h.inv.keep h.inv.sub)).mono ?_
  rintro e w' ⟨rv, rfl, S', ov, hupd, hkeep, hsub, hnew, hlt, hrel, hond, hofr⟩
  rw [hos] at hupd hnew hofr
  refine ⟨rv, rfl, { g with S := S' }, ov, ?_⟩
  have hO : ∀ t, ∀ b ∈ g.O t, b < w.heap.size ∧ b ∉ os.flatten := fun t b hb => ⟨(h.inv.fO t b hb).2, fun hm => (hfr b hm).2.1 t hb⟩
  have hB : ∀ d, ∀ b ∈ g.OB d, b < w.heap.size ∧ b ∉ os.flatten := fun d b hb => ⟨(h.inv.fB d b hb).2, fun hm => (hfr b hm).2.2 d hb⟩
  have hfree : ∀ b, w.heap.size ≤ b ∨ b ∈ os.flatten → c.B ≤ b ∨ b ∈ c.Mv := fun b hb => by
    rcases hb with h3 | h3
    · exact .inl (Nat.le_trans h.inv.hB h3)
    · exact (hfr b h3).1.1
  refine ⟨h.inv.world w' S' hkeep hsub (fun t b hb => ⟨hupd.block b (hO t b hb).1 (hO t b hb).2, fun k hs => ?_⟩) (fun d b hb => ⟨hupd.block b (hB d b hb).1 (hB d b hb).2, fun k hs => ?_⟩)
    ⟨hupd.os, hupd.tape, hupd.output, hupd.size, fun b h3 h4 => hupd.block b (Nat.lt_of_lt_of_le h3 h.inv.hB) fun hm => ?_⟩ (fun b k hs => (hnew b k hs).imp_right (hfree b)) hlt, ?_, ?_, ?_⟩
  · rcases hnew b k hs with h3 | h3 | h3
    · exact h3
    · have := (hO t b hb).1; omega
    · exact absurd h3 (hO t b hb).2
  · rcases hnew b k hs with h3 | h3 | h3
    · exact h3
    · have := (hB d b hb).1; omega
    · exact absurd h3 (hB d b hb).2
  · rcases (hfr b hm).1.1 with h5 | h5
    · omega
    · exact h4 h5
  · intro e he
    simp only [List.mem_singleton] at he
    subst he
    exact .of_rel hrel
  · simpa using hond
  · intro b hb
    simp only [List.flatMap_cons, List.flatMap_nil, List.append_nil] at hb
    obtain ⟨h3, h4⟩ := hofr b hb
    refine ⟨⟨hfree b h3, h4⟩, fun t hm => ?_, fun d hm => ?_⟩
    · rcases h3 with h5 | h5
      · have := (hO t b hm).1; omega
      · exact (hO t b hm).2 h5
    · rcases h3 with h5 | h5
      · have := (hB d b hm).1; omega
      · exact (hB d b hm).2 h5

theorem snd_call {o : Oper} {f : FuncId} {xs : List A} {Xs : Array Operand} {ts : Array TypeId} {v : V} {call : FuncId → List V → Option V} (h : FInv c g st a w) (ho : o.op = .call { callee := .value (.func f), args := Xs, argTypes := ts })
    (hxs : opndsOK c.gl xs Xs.toList = true) (hon : once xs = true) (hent : Entry c.P f) (hcall : ∀ f args r, call f args = some r → Good c.P c.gl f args r)
    (hv : exec call (.call f xs) st = some (v, st')) : Out c o a w st' v := by
  simp only [exec] at hv
  split at hv
  · rename_i hd
    simp only [Option.map_eq_some_iff] at hv
    obtain ⟨r, hr, hv⟩ := hv
    cases hv
    obtain ⟨g', os, hh, hl, -, -, -⟩ := Held.opnds _ _ st g [] (.nil h) hxs hon
    simp only [List.nil_append] at hh
    have hlen : (Xs.toList.map a.eval).length = (xs.map st.val).length := by
      have := opnds_len hxs
      simp [this]
    have hc := hh.called (us := []) (ru := []) (f := f) (r := v) (by simpa using hlen) (by simpa using hl) hd (by rw [List.append_nil]; exact hcall _ _ _ hr) rfl (by simp)
    refine .inr (.inr ⟨f, Xs.map a.eval, ?_, ?_⟩)
    · simp [execOp, ho, resolve, Act.eval, Deferred.ofValue, invoke, run_enter hent]
    · have e : (Xs.toList.map a.eval ++ ([] : List Value)).toArray = Xs.map a.eval := by
        apply Array.toList_inj.1; simp
      rwa [e] at hc
  · cases hv

theorem snd_callv {o : Oper} {f : A} {F : Operand} {xs : List A} {Xs : Array Operand} {ts : Array TypeId} {v : V} {call : FuncId → List V → Option V} (h : FInv c g st a w) (ho : o.op = .call { callee := .value F, args := Xs, argTypes := ts }) (hf : opndOK c.gl f F = true) (pf : plainA f = true)
    (hxs : opndsOK c.gl xs Xs.toList = true) (hon : once xs = true) (hent : ∀ f args r, call f args = some r → Entry c.P f) (hcall : ∀ f args r, call f args = some r → Good c.P c.gl f args r)
    (hv : exec call (.callv f xs) st = some (v, st')) : Out c o a w st' v := by
  simp only [exec] at hv
  obtain ⟨of', hr⟩ := opndRaw h hf pf
  generalize st.raw f = u at hr hv
  split at hv
  · rename_i fid cs
    split at hv
    · rename_i hd
      simp only [Option.map_eq_some_iff] at hv
      obtain ⟨r, hcr, hv⟩ := hv
      cases hv
      obtain ⟨g', os, hh, hl, hS, -, -⟩ := Held.opnds _ _ st g [] (.nil h) hxs hon
      simp only [List.nil_append] at hh
      have hlen : (Xs.toList.map a.eval).length = (xs.map st.val).length := by
        have := opnds_len hxs
        simp [this]
      obtain ⟨-, fs', cs', hF, hfl, hcl, -, hcs⟩ := Rel.fn_inv (show Rel w g.S (.fn (.func fid) [] cs) (a.eval F) of' from hr)
      have hfs : fs' = #[] := by
        apply Array.eq_empty_of_size_eq_zero
        simpa using hfl.symm
      subst hfs
      have hc := hh.called (us := cs) (ru := cs'.toList) (f := fid) (r := v) (by simpa using hlen) (by simpa using hl) hd.2 (hcall _ _ _ hcr) (by simp [hcl]) (fun i v r h1 h2 => (hcs i v r h1 (by simpa using h2)).keep0 (Keep.refl _ _) hS)
      refine .inr (.inr ⟨fid, Xs.map a.eval ++ cs', ?_, ?_⟩)
      · simp [execOp, ho, resolve, hF, Deferred.ofValue, invoke, run_enter (hent _ _ _ hcr)]
      · have e : (Xs.toList.map a.eval ++ cs'.toList).toArray = Xs.map a.eval ++ cs' := by
          apply Array.toList_inj.1; simp
        rwa [e] at hc
    · cases hv
  · cases hv

end Go.Vi
