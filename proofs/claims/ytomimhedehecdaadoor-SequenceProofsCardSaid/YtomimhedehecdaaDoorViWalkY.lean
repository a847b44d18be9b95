/- Iterators in the walk: yields, and ranges over functions. -/
import Derived.Test.YtomimhedehecdaaDoorViWalkV
namespace Go.Vi

open Classical in
/-- What a yield gives, of what follows each of its answers. -/
noncomputable def yldU (u v : V) (xs : List V) (a b : Option V) : Option V := match u, v with
  | .raw u, .raw v => if u = v ∧ xs.all pureV = true then
      match a, b with
      | some (.tup l), some (.tup []) => some (.tup (.tup xs :: l))
      | _, _ => none
    else none
  | _, _ => none

theorem yldU_mk {u : Value} {xs l : List V} (h : xs.all pureV = true) : yldU (.raw u) (.raw u) xs (some (.tup l)) (some (.tup [])) = some (.tup (.tup xs :: l)) := by
  simp [yldU, h]

section
variable {call : FuncId → List V → Option V}

/-- What follows a yield's own operations. -/
noncomputable def yldK (call : FuncId → List V → Option V) (f : A) (args : List A) (d : Nat) (post : List MO) (t : List Todo) (k : Ex → St → Option V) (_ : Ex) (st : St) : Option V :=
  yldU (st.raw f) (st.at 0) (vals st args) (U call (.o post :: t) .normal ⟨put st.tm d (.bool true), st.bx⟩ k) (U call (.o post :: t) .normal ⟨put st.tm d (.bool false), st.bx⟩ k)

theorem U_yld {pre post : List MO} {f : A} {args : List A} {d : Nat} {t : List Todo} {st : St} {k : Ex → St → Option V} :
    U call (.c (.yld pre f args d post) :: t) .normal st k = U call [.o pre] .normal st (yldK call f args d post t k) := by
  simp only [U, run]
  congr 1

theorem yldK_eq {f : A} {args : List A} {d : Nat} {post : List MO} {t : List Todo} {st : St} {k : Ex → St → Option V} {e : Ex} :
    yldK call f args d post t k e st = yldU (st.raw f) (st.at 0) (vals st args) (U call (.o post :: t) .normal ⟨put st.tm d (.bool true), st.bx⟩ k) (U call (.o post :: t) .normal ⟨put st.tm d (.bool false), st.bx⟩ k) := rfl

/-- Code without ways out. -/
def straight : M → Bool
  | .reg _ _ | .kill _ => true
  | .seq a b => straight a && straight b
  | _ => false

theorem straight_run : ∀ {m : M}, straight m = true → ∀ {st : St} {k k' : Ex → St → Option V}, (∀ s, k .normal s = k' .normal s) → run call m st k = run call m st k'
  | .reg _ _, _, st, k, k', h => by simp only [run, h]
  | .kill _, _, st, k, k', h => by simp only [run, h]
  | .seq a b, hm, st, k, k', h => by
    simp only [straight, Bool.and_eq_true] at hm
    simp only [run]
    exact straight_run hm.1 fun s => straight_run hm.2 h

/-- The rounds that are left, after an ending. -/
noncomputable def rndK (call : FuncId → List V → Option V) (ps : List Nat) (as body : M) (t : List Todo) (k : Ex → St → Option V) (st0 : St) (xs : List V) (e : Ex) (s : St) : Option V :=
  match e with
  | .normal => rnds (fun x s k => if x.length = ps.length then run call as { s with tm := putAll ps x st0.tm } fun e s => match e with
      | .normal => run call body s k
      | _ => none
    else none) st0 xs (st0.back s) fun e s => U call t e s k
  | e => U call t e (st0.back s) k

variable {ps : List Nat} {as body : M} {t : List Todo} {k : Ex → St → Option V} {st0 st : St} {xs : List V}

/-- A range over a function: its first round starts. -/
theorem U_rngf {f : A} {wr : List Nat} {g : Nat} {cs : List V} (hf : st.raw f = .fn (.func g) [] cs) (hs : (st.tm.all fun p => still p.2 && !wr.contains p.1 && !ps.contains p.1) = true) (hc : call (g + 1000000) cs = some (.tup xs)) :
    U call (.c (.rngf f ps wr as body) :: t) .normal st k = rnds (fun x s k => if x.length = ps.length then run call as { s with tm := putAll ps x st.tm } fun e s => match e with
      | .normal => run call body s k
      | _ => none
    else none) st xs st fun e s => U call t e s k := by
  simp only [U, run, hf, hc]
  rw [if_pos hs]
  rfl

/-- The rounds, as a word of their own. -/
noncomputable def rounds (call : FuncId → List V → Option V) (ps : List Nat) (as body : M) (t : List Todo) (k : Ex → St → Option V) (st0 : St) (xs : List V) (st : St) : Option V :=
  rnds (fun x s k => if x.length = ps.length then run call as { s with tm := putAll ps x st0.tm } fun e s => match e with
      | .normal => run call body s k
      | _ => none
    else none) st0 xs st fun e s => U call t e s k

theorem U_rngf' {f : A} {wr : List Nat} {g : Nat} {cs : List V} (hf : st.raw f = .fn (.func g) [] cs) (hs : (st.tm.all fun p => still p.2 && !wr.contains p.1 && !ps.contains p.1) = true) (hc : call (g + 1000000) cs = some (.tup xs)) :
    U call (.c (.rngf f ps wr as body) :: t) .normal st k = rounds call ps as body t k st xs st := U_rngf hf hs hc

theorem rounds_nil : rounds call ps as body t k st0 [] st = U call t .normal st k := rfl

theorem rndK_normal : rndK call ps as body t k st0 xs .normal st = rounds call ps as body t k st0 xs (st0.back st) := rfl
theorem rndK_ret : rndK call ps as body t k st0 xs .ret st = U call t .ret (st0.back st) k := rfl
theorem rndK_exit {i : Nat} : rndK call ps as body t k st0 xs (.exit i) st = U call t (.exit i) (st0.back st) k := rfl

theorem rounds_cons {x : List V} (hx : x.length = ps.length) (ha : straight as = true) :
    rounds call ps as body t k st0 (.tup x :: xs) st = U call [.c as, .c body] .normal ⟨putAll ps x st0.tm, st.bx⟩ (rndK call ps as body t k st0 xs) := by
  unfold rounds
  simp only [rnds, U]
  rw [if_pos hx]
  refine straight_run ha fun s => ?_
  simp only [U]
  congr 1

theorem rounds_cons' {x : List V} {as' body' : M} (hx : x.length = ps.length) (ha : straight as = true) (h1 : as = as') (h2 : body = body') :
    rounds call ps as body t k st0 (.tup x :: xs) st = U call [.c as', .c body'] .normal ⟨putAll ps x st0.tm, st.bx⟩ (rndK call ps as body t k st0 xs) := by
  rw [rounds_cons hx ha, ← h1, ← h2]

theorem cpa_raw {n : Nat} {v : Value} : cpa n (.raw v) = .raw v := rfl
theorem cp_raw {v : Value} : cp (.raw v) = .raw v := rfl
theorem data_raw {v : Value} : data (.raw v) = true := by simp only [data]
theorem data_nilf : data .nilf = true := by simp only [data]
theorem away_raw {d q : Nat} {v : Value} {tl : List (Nat × V)} : away d ((q, .raw v) :: tl) = away d tl := by simp only [away]
theorem away_nilf {d q : Nat} {tl : List (Nat × V)} : away d ((q, .nilf) :: tl) = away d tl := by simp only [away]
theorem noref_raw {d q : Nat} {v : Value} {tl : List (Nat × V)} : noref d ((q, .raw v) :: tl) = noref d tl := by simp only [noref]
theorem noref_nilf {d q : Nat} {tl : List (Nat × V)} : noref d ((q, .nilf) :: tl) = noref d tl := by simp only [noref]
theorem out_nilf {p : Bool} {d : Nat} : outU call p (some d) (some (.nilf, st)) t k = U call t .normal ⟨put st.tm d .nilf, st.bx⟩ k := by simp [outU, into, data, bindU]
theorem out_raw {p : Bool} {d : Nat} {v : Value} : outU call p (some d) (some (.raw v, st)) t k = U call t .normal ⟨put st.tm d (.raw v), st.bx⟩ k := by simp [outU, into, data, bindU]

end

end Go.Vi
