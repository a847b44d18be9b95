/- What is known of a function's slots and boxes while it runs. -/
import Derived.Test.YtomimhedehecdaaDoorViRel
namespace Go.Vi

theorem get_put {α : Type} (d t : Nat) (v : α) : ∀ l : List (Nat × α), get (put l d v) t = if t = d then some v else get l t
  | [] => by
    by_cases h : t = d
    · subst h; simp [put, get]
    · have h' : ¬ d = t := fun e => h e.symm
      simp [put, get, h, h']
  | (k, u) :: l => by
    unfold put
    by_cases h1 : k = d
    · subst h1
      by_cases h : t = k
      · subst h; simp [get]
      · have h' : ¬ k = t := fun e => h e.symm
        simp [get, h, h']
    · by_cases h2 : k < d
      · have ih := get_put d t v l
        rw [if_neg h1, if_pos h2]
        by_cases h : t = d
        · subst h; simp [get, h1, ih]
        · by_cases h3 : k = t <;> simp [get, h3, h, ih]
      · rw [if_neg h1, if_neg h2]
        by_cases h : t = d
        · subst h; simp [get]
        · have h' : ¬ d = t := fun e => h e.symm
          simp [get, h, h']

theorem get_del {α : Type} (d t : Nat) : ∀ l : List (Nat × α), get (del l d) t = if t = d then none else get l t
  | [] => by simp [del, get]
  | (k, u) :: l => by
    have ih := get_del d t l
    by_cases h1 : k = d
    · subst h1
      by_cases h : t = k
      · subst h; simp [del, ih]
      · have h' : ¬ k = t := fun e => h e.symm
        simp [del, get, ih, h, h']
    · by_cases h : t = d
      · subst h; simp [del, get, ih, h1]
      · by_cases h3 : k = t <;> simp [del, get, ih, h, h1, h3]

theorem get_mem {α : Type} {t : Nat} {v : α} : ∀ {l : List (Nat × α)}, get l t = some v → (t, v) ∈ l
  | [], h => by cases h
  | (k, u) :: l, h => by
    unfold get at h
    split at h
    · rename_i hk; subst hk; cases h; simp
    · exact List.mem_cons_of_mem _ (get_mem h)

structure G where
  S : Stab
  β : Nat → Nat
  O : Nat → List Nat
  OB : Nat → List Nat

def isX : V → Bool
  | .sl .x _ _ | .mp .x _ => true
  | _ => false

/-- Of a slot: what its value says. -/
def RelT (w : World) (g : G) (st : St) (a : Act) : V → Value → List Nat → Prop
  | .loc d off, r, o => o = [] ∧ r = .pointer (some ⟨g.β d, off, none⟩)
  | .el t i off, r, o => o = [] ∧ ∀ sz xs, st.at t = .sl .x sz xs → ∃ b q n c, a.tmps.getD t Go.undef = .slice (some ⟨b, q, none⟩) n c ∧ r = .pointer (some ⟨b, q + (i * sz + off), none⟩)
  | .rf t, r, o => o = [] ∧ (isX (st.at t) = true → r = a.tmps.getD t Go.undef)
  | v, r, o => Rel w g.S v r o

structure Ctx where
  P : Program
  nt : Nat
  B : Nat
  Mv : List Nat
  w0 : World
  S0 : Stab
  gl : List (Nat × List V)

/-- From one world to another one only what is free is new or written. -/
structure Upd (B : Nat) (Mv : List Nat) (w w' : World) : Prop where
  os : w'.os = w.os
  tape : w'.tape = w.tape
  output : w'.output = w.output
  size : w.heap.size ≤ w'.heap.size
  block : ∀ b, b < B → b ∉ Mv → w'.heap[b]? = w.heap[b]?

structure FInv (c : Ctx) (g : G) (st : St) (a : Act) (w : World) : Prop where
  size : a.tmps.size = c.nt
  defers : a.defers = []
  tm : ∀ t v, get st.tm t = some v → RelT w g st a v (a.tmps.getD t Go.undef) (g.O t)
  tmn : ∀ t, get st.tm t = none → g.O t = []
  bxf : ∀ d cs, get st.bx d = some (false, cs) → ∃ (C : Array Value) (e : TypeId) (os : List (List Nat)), w.heap[g.β d]? = some (.cells C e (0, 0)) ∧ C.size = cs.length ∧ os.length = cs.length ∧
    (∀ (j : Nat) (y : V) (v : Value) (o : List Nat), cs[j]? = some y → C[j]? = some v → os[j]? = some o → Rel w g.S y v o) ∧ g.OB d = g.β d :: os.flatten ∧ (∀ k, ¬ g.S (g.β d) k)
  bxt : ∀ d cs, get st.bx d = some (true, cs) → g.OB d = [] ∧ Rel w g.S (.ptr cs 0) (.pointer (some ⟨g.β d, 0, none⟩)) []
  bxn : ∀ d, get st.bx d = none → g.OB d = []
  dOO : ∀ t u, t ≠ u → ∀ b ∈ g.O t, b ∉ g.O u
  dBB : ∀ d e, d ≠ e → ∀ b ∈ g.OB d, b ∉ g.OB e
  dOB : ∀ t d, ∀ b ∈ g.O t, b ∉ g.OB d
  nO : ∀ t, (g.O t).Nodup
  nB : ∀ d, (g.OB d).Nodup
  fO : ∀ t, ∀ b ∈ g.O t, (c.B ≤ b ∨ b ∈ c.Mv) ∧ b < w.heap.size
  fB : ∀ d, ∀ b ∈ g.OB d, (c.B ≤ b ∨ b ∈ c.Mv) ∧ b < w.heap.size
  hB : c.B ≤ w.heap.size
  upd : Upd c.B c.Mv c.w0 w
  keep : Keep c.S0 c.w0 w
  sub : ∀ b k, c.S0 b k → g.S b k
  new : ∀ b k, g.S b k → c.S0 b k ∨ c.B ≤ b ∨ b ∈ c.Mv
  lt : ∀ b k, g.S b k → b < w.heap.size
  gl : ∀ x cs, (x, cs) ∈ c.gl → Rel c.w0 c.S0 (.ptr cs 0) (.pointer (some ⟨x, 0, none⟩)) []

theorem RelT.of_rel {w : World} {g : G} {st : St} {a : Act} {v : V} {r : Value} {o : List Nat} (h : Rel w g.S v r o) : RelT w g st a v r o := by
  cases h <;> first | exact .undef _ | exact .skp | skip
  all_goals (unfold RelT; constructor <;> assumption)

end Go.Vi
