/- What functions give back. -/
import Derived.Test.YtomimhedehecdaaDoorViSound3
namespace Go.Vi
variable {c : Ctx} {g : G} {st st' st1 : St} {a : Act} {w : World} {hs : List Hv}

def res1OK (P : Program) : RV → ResultVar → Bool
  | .tmp t, .tmp t' => t == t'
  | .cell d ag sz, .cell d' t => d == d' && agOK P t ag sz
  | _, _ => false

def resOK (P : Program) : List RV → List ResultVar → Bool
  | [], [] => true
  | r :: rs, x :: xs => res1OK P r x && resOK P rs xs && (match r with | .tmp t => rs.all (fun | .tmp u => u != t | _ => true) | _ => true)
  | _, _ => false

def readRes (tmps : Array Value) : ResultVar → Sem Value
  | .tmp t => pure (tmps.getD t Go.undef)
  | .cell a t => do loadVar t (← asAddr (tmps.getD a Go.undef))

def ownRes (g : G) : RV → List Nat
  | .tmp t => g.O t
  | .cell .. => []

theorem res1_ok (h : FInv c g st a w) {r : RV} {x : ResultVar} {v : V} (hok : res1OK c.P r x = true) (hv : res1 st r = some v) : ∃ rv, (readRes a.tmps x).run c.P w = .ok rv w ∧ Rel w g.S v rv (ownRes g r) := by
  cases r with
  | tmp t =>
    cases x with
    | cell => cases hok
    | tmp t' =>
      simp only [res1OK, beq_iff_eq] at hok
      subst hok
      simp only [res1] at hv
      split at hv
      · rename_i hd
        cases hv
        refine ⟨_, rfl, (h.at t).rel ⟨fun d f e => ?_, fun t i f e => ?_, fun t e => ?_⟩⟩ <;> (rw [e] at hd; cases hd)
      · cases hv
  | cell d ag sz =>
    cases x with
    | tmp => cases hok
    | cell d' t =>
      simp only [res1OK, Bool.and_eq_true, beq_iff_eq] at hok
      obtain ⟨rfl, hok⟩ := hok
      obtain ⟨hu, hz, ha, h1⟩ := agOK_iff hok
      simp only [res1, Option.bind_eq_some_iff] at hv
      obtain ⟨cs, hc, hm⟩ := hv
      obtain ⟨b, q, f, e1, e2, e3⟩ := cells_ok h (h.at d) hc
      have hrun := run_loadVar (w := w) (P := c.P) (f := f) (b := b) (q := q) hu hz (by rw [ha]; exact h1) (fun j hj => (e3 j hj).1)
      have hcp : ∀ j, j < sz → ∀ y, (cps cs)[j]? = some y → Rel w g.S y (f j) [] := by
        intro j hj y hy
        simp only [cps, List.getElem?_map, Option.map_eq_some_iff] at hy
        obtain ⟨y', hy', rfl⟩ := hy
        obtain ⟨ob, hrel⟩ := (e3 j hj).2 y' hy'
        exact hrel.copy
      refine ⟨if ag then .agg ((List.range sz).map f).toArray else f 0, by simp [readRes, e1, asAddr, hrun, ha], ?_⟩
      rcases mkv_some hm with ⟨rfl, rfl⟩ | ⟨rfl, e⟩
      · refine .agg _ _ (by simp [cps, e2]) fun i y u hy hu' => ?_
        have hi : i < sz := by
          have := (List.getElem?_eq_some_iff.1 hy).1
          simpa [cps, e2] using this
        have : u = f i := by
          simp [hi] at hu'
          exact hu'.symm
        subst this
        exact hcp i hi y hy
      · have hs := h1 rfl
        subst hs
        exact hcp 0 (by omega) v (by rw [e]; rfl)

theorem resAll_ok (h : FInv c g st a w) : ∀ {rs : List RV} {xs : List ResultVar} {vs : List V}, resOK c.P rs xs = true → resAll st rs = some vs →
    ∃ rvs, (xs.mapM (readRes a.tmps)).run c.P w = .ok rvs w ∧ vs.length = rvs.length ∧ (rs.map (ownRes g)).length = vs.length ∧ (∀ (i : Nat) (v : V) (rv : Value) (o : List Nat), vs[i]? = some v → rvs[i]? = some rv → (rs.map (ownRes g))[i]? = some o → Rel w g.S v rv o) ∧ (rs.map (ownRes g)).flatten.Nodup
  | [], [], vs, _, hv => by
    simp only [resAll, Option.some.injEq] at hv
    subst hv
    exact ⟨[], by simp, rfl, rfl, by simp, by simp⟩
  | [], _ :: _, _, hok, _ => by cases hok
  | _ :: _, [], _, hok, _ => by cases hok
  | r :: rs, x :: xs, vs, hok, hv => by
    simp only [resOK, Bool.and_eq_true] at hok
    simp only [resAll] at hv
    split at hv
    · rename_i v vs' h1 h2
      cases hv
      obtain ⟨rv, e1, e2⟩ := res1_ok h hok.1.1 h1
      obtain ⟨rvs, f1, f2, f3, f4, f5⟩ := resAll_ok h hok.1.2 h2
      refine ⟨rv :: rvs, by simp [e1, f1], by simp [f2], by simpa using f3, fun i v' rv' o hv hr ho => ?_, ?_⟩
      · cases i with
        | zero => simp at hv hr ho; subst hv hr ho; exact e2
        | succ i => exact f4 i v' rv' o (by simpa using hv) (by simpa using hr) (by simpa using ho)
      · simp only [List.map_cons, List.flatten_cons]
        refine List.nodup_append.2 ⟨?_, f5, fun b hb b' hb' => ?_⟩
        · cases r with
          | tmp t => exact h.nO t
          | cell => simp [ownRes]
        · rintro rfl
          cases r with
          | cell => simp [ownRes] at hb
          | tmp t =>
            have hall := hok.2
            simp only [List.all_eq_true] at hall
            obtain ⟨l, hl, hbl⟩ := List.mem_flatten.1 hb'
            obtain ⟨r', hr', rfl⟩ := List.mem_map.1 hl
            cases r' with
            | cell => simp [ownRes] at hbl
            | tmp u =>
              have := hall _ hr'
              simp only [bne_iff_ne, ne_eq] at this
              exact h.dOO t u (fun e => this e.symm) b hb hbl
    · cases hv

theorem ownRes_fr (h : FInv c g st a w) (rs : List RV) : ∀ b ∈ (rs.map (ownRes g)).flatten, (c.B ≤ b ∨ b ∈ c.Mv) ∧ b < w.heap.size := by
  intro b hb
  obtain ⟨l, hl, hbl⟩ := List.mem_flatten.1 hb
  obtain ⟨r, -, rfl⟩ := List.mem_map.1 hl
  cases r with
  | tmp t => exact h.fO t b hbl
  | cell => simp [ownRes] at hbl

theorem results_ok (h : FInv c g st a w) {fn : Func} {rs : List RV} {v : V} (hok : resOK c.P rs fn.results.toList = true) (hv : resOf st rs = some v) :
    ∃ rv ov, (results fn a.tmps).run c.P w = .ok rv w ∧ Rel w g.S v rv ov ∧ ov.Nodup ∧ ∀ b ∈ ov, (c.B ≤ b ∨ b ∈ c.Mv) ∧ b < w.heap.size := by
  have hvs : ∃ vs, resAll st rs = some vs ∧ ((∃ r, rs = [r] ∧ vs = [v]) ∨ (rs.length ≠ 1 ∧ v = .tup vs)) := by
    match rs, hv with
    | [], hv => simp only [resOf, resAll, Option.some.injEq] at hv; exact ⟨[], rfl, .inr ⟨by simp, hv.symm⟩⟩
    | [r], hv =>
      simp only [resOf, resAll] at hv
      cases h1 : res1 st r with
      | none => rw [h1] at hv; cases hv
      | some u => rw [h1] at hv; cases hv; exact ⟨[_], by simp [resAll, h1], .inl ⟨r, rfl, rfl⟩⟩
    | r :: r' :: rs, hv =>
      simp only [resOf] at hv
      cases h1 : resAll st (r :: r' :: rs) with
      | none => rw [h1] at hv; cases hv
      | some vs => rw [h1] at hv; cases hv; exact ⟨vs, rfl, .inr ⟨by simp, rfl⟩⟩
  obtain ⟨vs, hall, hcase⟩ := hvs
  obtain ⟨rvs, f1, f2, f3, f4, f5⟩ := resAll_ok h hok hall
  have hrun : (results fn a.tmps).run c.P w = .ok (if h : rvs.toArray.size = 1 then rvs.toArray[0] else .tuple rvs.toArray) w := by
    have e : results fn a.tmps = (do
        let vs ← fn.results.mapM (readRes a.tmps)
        pure (if h : vs.size = 1 then vs[0] else .tuple vs)) := by
      unfold results
      congr 1
    rw [e, Array.mapM_eq_mapM_toList]
    simp [f1]
  have hfr := ownRes_fr h rs
  rcases hcase with ⟨r, rfl, rfl⟩ | ⟨hne, rfl⟩
  · obtain ⟨rv, rfl⟩ : ∃ rv, rvs = [rv] := by
      match rvs, f2 with
      | [rv], _ => exact ⟨rv, rfl⟩
    · refine ⟨rv, ownRes g r, by simpa using hrun, by simpa using f4 0 v rv (ownRes g r) rfl rfl rfl, by simpa using f5, by simpa using hfr⟩
  · have hl : rvs.length ≠ 1 := by
      simp only [List.length_map] at f3
      omega
    refine ⟨.tuple rvs.toArray, (rs.map (ownRes g)).flatten, by simpa [hl] using hrun, .tup vs _ _ (by simpa using f2) f3 (fun i x v o h1 h2 h3 => f4 i x v o h1 (by simpa using h2) h3), f5, hfr⟩

theorem get_start (args : List V) (t : Nat) : get (start args).tm t = args[t]? := by
  have key : ∀ (args : List V) (k t : Nat), get ((args.zipIdx k).map fun (v, i) => (i, v)) (k + t) = args[t]? := by
    intro args
    induction args with
    | nil => intro k t; rfl
    | cons v vs ih =>
      intro k t
      simp only [List.zipIdx_cons, List.map_cons, get]
      cases t with
      | zero => simp
      | succ t => rw [if_neg (by omega)]; have := ih (k + 1) t; rw [show k + 1 + t = k + (t + 1) by omega] at this; simpa using this
  have := key args 0 t
  simpa [start] using this

theorem flatten_disj {os : List (List Nat)} (h : os.flatten.Nodup) : (∀ t, (os.getD t []).Nodup) ∧ ∀ t u, t ≠ u → ∀ b ∈ os.getD t [], b ∉ os.getD u [] := by
  induction os with
  | nil => exact ⟨fun t => by simp, fun t u _ b hb => by simp at hb⟩
  | cons o os ih =>
    rw [List.flatten_cons, List.nodup_append] at h
    obtain ⟨h1, h2, h3⟩ := h
    obtain ⟨i1, i2⟩ := ih h2
    have hm : ∀ t, ∀ b ∈ os.getD t [], b ∈ os.flatten := fun t b hb => by
      rw [List.getD_eq_getElem?_getD] at hb
      cases ho : os[t]? with
      | none => rw [ho] at hb; simp at hb
      | some o' => rw [ho] at hb; exact List.mem_flatten.2 ⟨o', List.mem_of_getElem? ho, hb⟩
    refine ⟨fun t => ?_, fun t u htu b hb => ?_⟩
    · cases t with
      | zero => simpa using h1
      | succ t => simpa using i1 t
    · cases t with
      | zero =>
        cases u with
        | zero => exact absurd rfl htu
        | succ u => intro hb'; exact h3 b (by simpa using hb) b (hm u b (by simpa using hb')) rfl
      | succ t =>
        cases u with
        | zero => intro hb'; exact h3 b (by simpa using hb') b (hm t b (by simpa using hb)) rfl
        | succ u => intro hb'; exact i2 t u (fun e => htu (by rw [e])) b (by simpa using hb) (by simpa using hb')

end Go.Vi
