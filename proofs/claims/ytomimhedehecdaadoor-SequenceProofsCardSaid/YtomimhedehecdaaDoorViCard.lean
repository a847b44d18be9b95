/- From a function's answer 'true' to what a law's row asks. -/
import Derived.Test.YtomimhedehecdaaDoorViRead
import Derived.Below
import Derived.Carry
import Derived.ChangeSame
import Derived.Handed
namespace Go.Vi
open Go.ChangeShapes Go.WideShapes Go.RowKit
variable {H : Type} {enc : TypeId × Value → H} {P : Program}

theorem below_trodAll (hl : laidOutB P = true) {W W' : World} (hb : Below W.heap.size W W') : ∀ {ts : List TypeId} {vs : List Value} {ds : List (DataW H)} {ps : List MemPlace},
    (ts.all fun t => P.readableRec t && decide (t < P.types.size)) = true → DataW.TrodAll enc P W 0 (fun _ => true) true ts vs ds ps → (∀ p ∈ ps, p.block < W.heap.size) →
    DataW.TrodAll enc P W' 0 (fun b => decide (b < W.heap.size)) true ts vs ds ps
  | [], [], [], _, _, h, _ => h
  | [], [], _ :: _, _, _, h, _ => h.elim
  | [], _ :: _, [], _, _, h, _ => h.elim
  | [], _ :: _, _ :: _, _, _, h, _ => h.elim
  | _ :: _, [], [], _, _, h, _ => h.elim
  | _ :: _, [], _ :: _, _, _, h, _ => h.elim
  | _ :: _, _ :: _, [], _, _, h, _ => h.elim
  | t :: ts, v :: vs, d :: ds, ps, ht, h, hlt => by
    simp only [List.all_cons, Bool.and_eq_true, decide_eq_true_eq] at ht
    obtain ⟨p, q, h1, h2, rfl⟩ := h
    exact ⟨p, q, Below.trod hl ht.1.1 ht.1.2 h1 hb fun x hx => hlt x (List.mem_append_left _ hx), below_trodAll hl hb ht.2 h2 fun x hx => hlt x (List.mem_append_right _ hx), rfl⟩

/-- A law that only makes memory, and answers true. -/
theorem law_post {fn : Func} {s : ChangeSpec} {W W' : World} {args : Array Value} {ds gs : List (DataW H)} {before : List MemPlace} {tb : TypeId} (hl : laidOutB P = true)
    (hts : (fn.params.toList.all fun t => P.readableRec t && decide (t < P.types.size)) = true) (hvars : s.vars = []) (hW : DataW.Whole enc P fn.params.toList s.vars false W args.toList ds gs before)
    (hfn : (s.fn H (ds ++ gs)).results = [.lit (.bool true)] ∧ (s.fn H (ds ++ gs)).args = ds ∧ (s.fn H (ds ++ gs)).vars = []) (hres : fn.resultTypes = #[tb]) (hbool : P.underlying tb = some .bool)
    (hb : Below W.heap.size W W') : s.post enc P fn false true false false W args (.bool true) W' := by
  have hlt := hW.lt
  have hW0 := hW
  obtain ⟨p, q, hA, hV, rfl, -, -⟩ := hW
  rw [hvars] at hV
  match gs, hV with
  | [], hV =>
    cases hV
    refine ⟨ds, [], _, [], p, [], hW0, ?_, ?_, ?_, hb.frame _, fun h => by cases h⟩
    · rw [hfn.1, hres]
      refine trodAll_mk1 ⟨1, ?_⟩
      simp [Value.cells, DataW.trod, hbool]
    · rw [hfn.2.1]
      exact below_trodAll hl hb hts hA fun x hx => hlt x (List.mem_append_left _ hx)
    · rw [hvars, hfn.2.2]
      exact rfl
  | _ :: _, hV => exact hV.elim

/-- An argument, of a type. -/
def argV (P : Program) (t : TypeId) (vs : List V) : V := if aggT P t then .agg vs else vs.headD .undef

theorem read_args {W : World} {r : Reach} {base n : Nat} : ∀ (ts : List TypeId) (vs : List Value) (ds : List (DataW H)) (ps : List MemPlace), (ts.all fun t => flatT P n t) = true → DataW.TrodAll enc P W 0 (fun _ => true) true ts vs ds ps →
    (∀ (j : Nat) (t : TypeId) (v : Value), ts[j]? = some t → vs[j]? = some v → Value.okWide P W r base t v) →
    ∃ vss : List (List V), vss.length = ts.length ∧ (∀ (j : Nat) (t : TypeId) (x : List V), ts[j]? = some t → vss[j]? = some x → WT P t x) ∧ ArgsRel W (Old W) ((ts.zip vss).map fun (t, x) => argV P t x) vs (ts.map fun _ => [])
  | [], [], [], _, _, _, _ => ⟨[], rfl, by simp, rfl, rfl, by simp⟩
  | [], [], _ :: _, _, _, h, _ => h.elim
  | [], _ :: _, [], _, _, h, _ => h.elim
  | [], _ :: _, _ :: _, _, _, h, _ => h.elim
  | _ :: _, [], [], _, _, h, _ => h.elim
  | _ :: _, [], _ :: _, _, _, h, _ => h.elim
  | _ :: _, _ :: _, [], _, _, h, _ => h.elim
  | t :: ts, v :: vs, d :: ds, ps, ht, h, ho => by
    simp only [List.all_cons, Bool.and_eq_true] at ht
    obtain ⟨p, q, h1, h2, rfl⟩ := h
    obtain ⟨x, g1, y, g2, g3⟩ := read_arg ht.1 h1 (ho 0 t v rfl rfl)
    obtain ⟨vss, e1, e2, e3⟩ := read_args ts vs ds q ht.2 h2 fun j t v h5 h6 => ho (j + 1) t v (by simpa using h5) (by simpa using h6)
    have hy : argV P t x = y := by
      unfold argV
      by_cases ha : aggT P t = true
      · rw [if_pos ha] at g3 ⊢; exact g3.symm
      · rw [if_neg ha] at g3 ⊢; rw [g3]; rfl
    refine ⟨x :: vss, by simp [e1], fun j t' x' h5 h6 => ?_, ?_, ?_, fun j v' r' o h5 h6 h7 => ?_⟩
    · cases j with
      | zero => simp at h5 h6; subst h5 h6; exact g1
      | succ j => exact e2 j t' x' (by simpa using h5) (by simpa using h6)
    · simp only [List.zip_cons_cons, List.map_cons, List.length_cons]; rw [e3.1]
    · simp only [List.zip_cons_cons, List.map_cons, List.length_cons]; rw [e3.2.1]
    · cases j with
      | zero => simp at h5 h6 h7; subst h5 h6 h7; rw [hy]; exact g2
      | succ j => exact e3.2.2 j v' r' o (by simpa using h5) (by simpa using h6) (by simpa using h7)

/-- The call of a law whose abstract answer is true. -/
theorem law_calls {gl : List (Nat × List V)} {f n : Nat} {fn : Func} {s : ChangeSpec} {W : World} {args : Array Value} {ds gs : List (DataW H)} {before : List MemPlace} {tb : TypeId} {base : Nat} {r : Reach} (hl : laidOutB P = true)
    (hts : (fn.params.toList.all fun t => P.readableRec t && decide (t < P.types.size)) = true) (hft : (fn.params.toList.all fun t => flatT P n t) = true) (hvars : s.vars = [])
    (hval : ∀ (j : Nat) t v, fn.params[j]? = some t → args[j]? = some v → Value.okWide P W r base t v)
    (hW : DataW.Whole enc P fn.params.toList s.vars false W args.toList ds gs before)
    (hfn : ∀ ds : List (DataW H), ds.length = fn.params.size → (s.fn H ds).results = [.lit (.bool true)] ∧ (s.fn H ds).args = ds ∧ (s.fn H ds).vars = []) (hres : fn.resultTypes = #[tb]) (hbool : P.underlying tb = some .bool)
    (hgl : ∀ x cs, (x, cs) ∈ gl → Rel W (Old W) (.ptr cs 0) (.pointer (some ⟨x, 0, none⟩)) [])
    (hgood : ∀ vss : List (List V), vss.length = fn.params.size → (∀ (j : Nat) (t : TypeId) (x : List V), fn.params[j]? = some t → vss[j]? = some x → WT P t x) → Good P gl f ((fn.params.toList.zip vss).map fun (t, x) => argV P t x) (.bool true)) :
    Calls P f args W fun e W' => ∃ v, e = .returned v ∧ s.post enc P fn false true false false W args v W' := by
  have hW0 := hW
  obtain ⟨p, q, hA, hV, rfl, -, -⟩ := hW
  have hgs : gs = [] := by
    rw [hvars] at hV
    match gs, hV with
    | [], _ => rfl
    | _ :: _, hV => exact hV.elim
  subst hgs
  obtain ⟨vss, e1, e2, e3⟩ := read_args (r := r) (base := base) (n := n) _ _ _ _ hft hA fun j t v h5 h6 => hval j t v (by simpa using h5) (by simpa using h6)
  have hdl : ds.length = fn.params.size := by
    have : ∀ {ts : List TypeId} {vs : List Value} {ds : List (DataW H)} {ps : List MemPlace}, DataW.TrodAll enc P W 0 (fun _ => true) true ts vs ds ps → ds.length = ts.length := by
      intro ts
      induction ts with
      | nil => intro vs ds ps h; cases vs <;> cases ds <;> first | rfl | exact h.elim
      | cons t ts ih =>
        intro vs ds ps h
        cases vs with
        | nil => cases ds <;> exact h.elim
        | cons v vs =>
          cases ds with
          | nil => exact h.elim
          | cons d ds => obtain ⟨_, _, _, h2, _⟩ := h; simp [ih h2]
    simpa using this hA
  have hg := hgood vss (by simpa using e1) fun j t x h5 h6 => e2 j t x (by simpa using h5) h6
  refine (hg W (Old W) args.toList _ e3 (by rw [flatten_nils]; exact List.nodup_nil) (fun b hb => ?_) (fun b k hs => hs) hgl).mono ?_
  · rw [flatten_nils] at hb; cases hb
  · rintro e W' ⟨rv, rfl, S', ov, hu, -, -, -, -, hrel, -⟩
    refine ⟨rv, rfl, ?_⟩
    have : rv = .bool true := by
      generalize hq : V.bool true = v at hrel
      cases hrel <;> cases hq
      rfl
    subst this
    refine law_post hl hts hvars hW0 ?_ hres hbool ⟨hu.os, hu.tape, hu.output, hu.size, fun k hk => hu.block k hk (by rw [flatten_nils]; simp)⟩
    rw [List.append_nil]
    exact hfn ds hdl

end Go.Vi
