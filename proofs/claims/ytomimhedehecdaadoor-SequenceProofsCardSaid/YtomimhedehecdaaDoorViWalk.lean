/- Code as a list of things to do, for rewriting. -/
import Derived.Test.YtomimhedehecdaaDoorViUnfold
namespace Go.Vi

inductive Todo where
  | c (m : M)
  | o (os : List MO)
  | b (id : Nat)
  | l (m : M)

section
variable (call : FuncId → List V → Option V)

/-- What a list of things to do gives, after an ending. -/
noncomputable def U : List Todo → Ex → St → (Ex → St → Option V) → Option V
  | [], e, st, k => k e st
  | .c m :: t, .normal, st, k => run call m st fun e s => U t e s k
  | .o os :: t, .normal, st, k => (steps call os st).bind fun s => U t .normal s k
  | .b _ :: t, .normal, st, k => U t .normal st k
  | .b id :: t, .exit i, st, k => if i = id then U t .normal st k else U t (.exit i) st k
  | .l m :: t, .normal, st, k => run call (.loop m) st fun e s => U t e s k
  | _ :: t, e, st, k => U t e st k

noncomputable def bindU (x : Option St) (t : List Todo) (k : Ex → St → Option V) : Option V := x.bind fun s => U call t .normal s k

noncomputable def condU (c : V) (a b : M) (t : List Todo) (st : St) (k : Ex → St → Option V) : Option V := match c with
  | .bool x => if x then U call (.c a :: t) .normal st k else U call (.c b :: t) .normal st k
  | .abool => same (U call (.c a :: t) .normal st k) (U call (.c b :: t) .normal st k)
  | _ => none

variable {call} {t : List Todo} {st : St} {k : Ex → St → Option V}

theorem U_ret : ∀ (t : List Todo) (st : St), U call t .ret st k = k .ret st
  | [], _ => by simp [U]
  | .c _ :: t, st => by simp [U, U_ret t st]
  | .o _ :: t, st => by simp [U, U_ret t st]
  | .b _ :: t, st => by simp [U, U_ret t st]
  | .l _ :: t, st => by simp [U, U_ret t st]

theorem U_nil {e : Ex} : U call [] e st k = k e st := by simp [U]

theorem U_run {m : M} : U call (.c m :: t) .normal st k = run call m st fun e s => U call t e s k := by simp [U]

theorem U_exit_c {m : M} {i : Nat} : U call (.c m :: t) (.exit i) st k = U call t (.exit i) st k := by simp [U]
theorem U_exit_o {os : List MO} {i : Nat} : U call (.o os :: t) (.exit i) st k = U call t (.exit i) st k := by simp [U]
theorem U_exit_l {m : M} {i : Nat} : U call (.l m :: t) (.exit i) st k = U call t (.exit i) st k := by simp [U]
theorem U_exit_b {id i : Nat} : U call (.b id :: t) (.exit i) st k = if i = id then U call t .normal st k else U call t (.exit i) st k := by simp [U]
theorem U_b {id : Nat} : U call (.b id :: t) .normal st k = U call t .normal st k := by simp [U]
theorem U_l {m : M} : U call (.l m :: t) .normal st k = U call (.c (.loop m) :: t) .normal st k := by simp [U]

theorem U_skip : U call (.c .skip :: t) .normal st k = U call t .normal st k := by simp [U, run]

theorem U_seq {a b : M} : U call (.c (.seq a b) :: t) .normal st k = U call (.c a :: .c b :: t) .normal st k := by
  simp only [U, run]
  congr 1
  funext e s
  cases e <;> simp [U]

theorem U_reg {ops : List MO} : U call (.c (.reg false ops) :: t) .normal st k = U call (.o ops :: t) .normal st k := by simp [U, run]

theorem U_regT {ops : List MO} (h : tidy ops st = true) : U call (.c (.reg true ops) :: t) .normal st k = U call (.o ops :: t) .normal st k := by simp [U, run, h]

theorem U_o_nil : U call (.o [] :: t) .normal st k = U call t .normal st k := by simp [U, steps]

theorem U_o_cons {o : MO} {os : List MO} : U call (.o (o :: os) :: t) .normal st k = bindU call (step call o st) (.o os :: t) k := by
  simp only [U, steps, bindU, Option.bind_assoc]

theorem bindU_some {s : St} : bindU call (some s) t k = U call t .normal s k := rfl
theorem bindU_none : bindU call none t k = none := rfl
theorem bindU_ite {c : Prop} [Decidable c] {x y : Option St} : bindU call (if c then x else y) t k = if c then bindU call x t k else bindU call y t k := by split <;> rfl

theorem U_cond {c : A} {a b : M} : U call (.c (.cond c a b) :: t) .normal st k = condU call (st.val c) a b t st k := by
  simp only [U, run, condU]
  cases st.val c <;> rfl

theorem condU_bool {b : Bool} {x y : M} : condU call (.bool b) x y t st k = if b then U call (.c x :: t) .normal st k else U call (.c y :: t) .normal st k := rfl
theorem condU_abool {x y : M} : condU call .abool x y t st k = same (U call (.c x :: t) .normal st k) (U call (.c y :: t) .normal st k) := rfl

theorem U_block {id : Nat} {b : M} : U call (.c (.block id b) :: t) .normal st k = U call (.c b :: .b id :: t) .normal st k := by
  simp only [U, run]
  congr 1
  funext e s
  cases e <;> simp [U]

theorem U_loop {b : M} : U call (.c (.loop b) :: t) .normal st k = U call (.c b :: .l b :: t) .normal st k := by
  simp only [U]
  rw [run_loop_eq]
  congr 1
  funext e s
  cases e <;> simp [U]

theorem U_loop' {b b' : M} (h : b = b') : U call (.c (.loop b) :: t) .normal st k = U call (.c b' :: .l b :: t) .normal st k := by rw [U_loop, ← h]

theorem U_exit {i : Nat} : U call (.c (.exit i) :: t) .normal st k = U call t (.exit i) st k := by simp [U, run]
theorem U_scope {b : M} : U call (.c (.scope b) :: t) .normal st k = U call (.c b :: t) .normal st k := by simp [U, run]
theorem U_cret : U call (.c .ret :: t) .normal st k = k .ret st := by simp [U, run, U_ret]

theorem U_freeze {d : Nat} {fr : Bool} {c : List V} (h : get st.bx d = some (fr, c)) : U call (.c (.freeze d) :: t) .normal st k = U call t .normal ⟨st.tm, put st.bx d (true, cps c)⟩ k := by
  simp [U, run, h]

/-- A box that is written no more. -/
noncomputable def frzU (call : FuncId → List V → Option V) (b : Option (Bool × List V)) (d : Nat) (t : List Todo) (st : St) (k : Ex → St → Option V) : Option V := match b with
  | some (_, c) => U call t .normal ⟨st.tm, put st.bx d (true, cps c)⟩ k
  | none => none
theorem U_frz {d : Nat} : U call (.c (.freeze d) :: t) .normal st k = frzU call (get st.bx d) d t st k := by
  simp only [U, run, frzU]
  cases get st.bx d <;> rfl
theorem frzU_some {d : Nat} {fr : Bool} {c : List V} : frzU call (some (fr, c)) d t st k = U call t .normal ⟨st.tm, put st.bx d (true, cps c)⟩ k := rfl

theorem del_filter {α : Type} : ∀ (l : List (Nat × α)) (d : Nat), del l d = l.filter fun p => !(p.1 == d)
  | [], _ => rfl
  | (k, u) :: l, d => by
    simp only [del, List.filter_cons]
    by_cases h : k = d <;> simp [h, del_filter l d]

/-- The slots that stay. -/
def keep {α : Type} (ks : List Nat) : List (Nat × α) → List (Nat × α)
  | [] => []
  | p :: l => if p.1 ∈ ks then keep ks l else p :: keep ks l

theorem keep_dels {α : Type} : ∀ (ks : List Nat) (l : List (Nat × α)), ks.foldl del l = keep ks l
  | [], l => by
    induction l with
    | nil => rfl
    | cons p l ih => simpa [keep] using ih
  | d :: ks, l => by
    rw [List.foldl_cons, keep_dels ks, del_filter]
    induction l with
    | nil => rfl
    | cons p l ih =>
      simp only [List.filter_cons, keep, List.mem_cons]
      by_cases h : p.1 = d
      · simp [h, ih]
      · simp [h, keep, ih]

theorem U_kill {ks : List Nat} : U call (.c (.kill ks) :: t) .normal st k = U call t .normal ⟨keep ks st.tm, keep ks st.bx⟩ k := by
  simp [U, run, dels, keep_dels]

theorem U_own {o : Own} {n : Nat} : U call (.c (.own o n) :: t) .normal st k = U call t .normal ⟨put st.tm n (low o (st.at n)), st.bx⟩ k := by simp [U, run]

theorem U_nxt_nil {d n : Nat} {ops : List MO} {cur : List (V × V)} (h : st.at n = .it cur []) : U call (.c (.nxt d n ops) :: t) .normal st k = U call (.o ops :: t) .normal ⟨put st.tm d (.tup [.bool false]), st.bx⟩ k := by
  simp [U, run, h]

/-- A range goes on: whatever entry comes. -/
theorem U_nxt_cons {d n : Nat} {ops : List MO} {cur es : List (V × V)} {r : V} (h : st.at n = .it cur es) (hne : es ≠ [])
    (hall : ∀ (i : Nat) (kv : V × V), es[i]? = some kv → U call (.o ops :: t) .normal ⟨put (put st.tm n (.it [kv] (es.eraseIdx i))) d (.tup [.bool true, kv.1, kv.2]), st.bx⟩ k = some r) :
    U call (.c (.nxt d n ops) :: t) .normal st k = some r := by
  cases es with
  | nil => exact absurd rfl hne
  | cons e es =>
    simp only [U, run, h]
    refine allSame_mk (by simp) fun x hx => ?_
    obtain ⟨i, hi, rfl⟩ := List.mem_map.1 hx
    have hlt : i < (e :: es).length := List.mem_range.1 hi
    have hg : (e :: es)[i]? = some (e :: es)[i] := List.getElem?_eq_getElem hlt
    have := hall i _ hg
    simp only [U] at this
    simp only [stepTo, hg]
    exact this

end

/-- What becomes of a function's end. -/
def finK (res : List RV) : Ex → St → Option V
  | .exit _, _ => none
  | _, st => resOf st res

theorem finK_ret {res : List RV} {st : St} : finK res .ret st = resOf st res := rfl
theorem finK_normal {res : List RV} {st : St} : finK res .normal st = resOf st res := rfl

theorem runF_U {call : FuncId → List V → Option V} {f : MFunc} {args : List V} (h : args.length = f.np) : runF call f args = U call [.c f.body] .normal (start args) (finK f.res) := by
  unfold runF
  rw [if_pos h]
  simp only [U]
  congr 1
  funext e st
  cases e <;> rfl

/-! ### operations -/
section
variable (call : FuncId → List V → Option V)

/-- An operation's value goes to its slot, and the rest is done. -/
noncomputable def outU (p : Bool) (dst : Option Nat) (x : Option (V × St)) (t : List Todo) (k : Ex → St → Option V) : Option V := bindU call (x.bind (into p dst)) t k

/-- A guarded operation, and the rest. -/
noncomputable def guardU (c : V) (w : Bool) (dst : Option Nat) (op : MOp) (st : St) (os : List MO) (t : List Todo) (k : Ex → St → Option V) : Option V := match c with
  | .bool b => if b = w then U call (.o (⟨dst, op, none⟩ :: os) :: t) .normal st k else outU call true dst (some (.skp, st)) (.o os :: t) k
  | .skp => outU call true dst (some (.skp, st)) (.o os :: t) k
  | _ => none

variable {call} {t : List Todo} {st : St} {k : Ex → St → Option V} {d : Nat} {p : Bool} {dst : Option Nat} {os : List MO} {op : MOp} {j : Nat} {w : Bool}

theorem U_op (h1 : ∀ z, op ≠ .alloc z) (h2 : ∀ s x, op ≠ .box s x) : U call (.o (⟨dst, op, none⟩ :: os) :: t) .normal st k = outU call (ptrOp op) dst (exec call op st) (.o os :: t) k := by
  rw [U_o_cons, outU]
  cases op <;> first | rfl | (exact absurd rfl (h1 _)) | (exact absurd rfl (h2 _ _))

theorem U_guard (h1 : ∀ z, op ≠ .alloc z) (h2 : ∀ s x, op ≠ .box s x) : U call (.o (⟨dst, op, some (j, w)⟩ :: os) :: t) .normal st k = guardU call (st.at j) w dst op st os t k := by
  have e : step call ⟨dst, op, some (j, w)⟩ st = match st.at j with
      | .bool b => if b = w then (exec call op st).bind (into (ptrOp op) dst) else into true dst (.skp, st)
      | .skp => into true dst (.skp, st)
      | _ => none := by
    cases op <;> first | rfl | (exact absurd rfl (h1 _)) | (exact absurd rfl (h2 _ _))
  rw [U_o_cons, e]
  generalize st.at j = c
  cases c with
  | bool b =>
    simp only [guardU]
    by_cases hb : b = w
    · rw [if_pos hb, if_pos hb, U_op h1 h2]; rfl
    · rw [if_neg hb, if_neg hb]; rfl
  | skp => rfl
  | _ => rfl

theorem guardU_tt : guardU call (.bool true) true dst op st os t k = U call (.o (⟨dst, op, none⟩ :: os) :: t) .normal st k := rfl
theorem guardU_ff : guardU call (.bool false) false dst op st os t k = U call (.o (⟨dst, op, none⟩ :: os) :: t) .normal st k := rfl
theorem guardU_tf : guardU call (.bool true) false dst op st os t k = outU call true dst (some (.skp, st)) (.o os :: t) k := rfl
theorem guardU_ft : guardU call (.bool false) true dst op st os t k = outU call true dst (some (.skp, st)) (.o os :: t) k := rfl
theorem guardU_skp : guardU call .skp w dst op st os t k = outU call true dst (some (.skp, st)) (.o os :: t) k := rfl

theorem outU_none : outU call p dst none t k = none := rfl
theorem U_mv (x : A) : U call (.o (⟨dst, .mv x, none⟩ :: os) :: t) .normal st k = outU call true dst (exec call (.mv x) st) (.o os :: t) k := by rw [U_op] <;> first | rfl | (intros; exact MOp.noConfusion)
theorem G_mv (x : A) : U call (.o (⟨dst, .mv x, some (j, w)⟩ :: os) :: t) .normal st k = guardU call (st.at j) w dst (.mv x) st os t k := U_guard (by intros; exact MOp.noConfusion) (by intros; exact MOp.noConfusion)
theorem U_pick (x y z : A) : U call (.o (⟨dst, .pick x y z, none⟩ :: os) :: t) .normal st k = outU call true dst (exec call (.pick x y z) st) (.o os :: t) k := by rw [U_op] <;> first | rfl | (intros; exact MOp.noConfusion)
theorem G_pick (x y z : A) : U call (.o (⟨dst, .pick x y z, some (j, w)⟩ :: os) :: t) .normal st k = guardU call (st.at j) w dst (.pick x y z) st os t k := U_guard (by intros; exact MOp.noConfusion) (by intros; exact MOp.noConfusion)
theorem U_build (c : List V) (ps : List (Nat × Nat × A)) : U call (.o (⟨dst, .build c ps, none⟩ :: os) :: t) .normal st k = outU call false dst (exec call (.build c ps) st) (.o os :: t) k := by rw [U_op] <;> first | rfl | (intros; exact MOp.noConfusion)
theorem G_build (c : List V) (ps : List (Nat × Nat × A)) : U call (.o (⟨dst, .build c ps, some (j, w)⟩ :: os) :: t) .normal st k = guardU call (st.at j) w dst (.build c ps) st os t k := U_guard (by intros; exact MOp.noConfusion) (by intros; exact MOp.noConfusion)
theorem U_bsl (n m : Nat) (c : List V) (ps : List (Nat × A)) : U call (.o (⟨dst, .bsl n m c ps, none⟩ :: os) :: t) .normal st k = outU call false dst (exec call (.bsl n m c ps) st) (.o os :: t) k := by rw [U_op] <;> first | rfl | (intros; exact MOp.noConfusion)
theorem G_bsl (n m : Nat) (c : List V) (ps : List (Nat × A)) : U call (.o (⟨dst, .bsl n m c ps, some (j, w)⟩ :: os) :: t) .normal st k = guardU call (st.at j) w dst (.bsl n m c ps) st os t k := U_guard (by intros; exact MOp.noConfusion) (by intros; exact MOp.noConfusion)
theorem U_load (r : Root) (b : Bool) (n : Nat) (x : A) : U call (.o (⟨dst, .load r b n x, none⟩ :: os) :: t) .normal st k = outU call false dst (exec call (.load r b n x) st) (.o os :: t) k := by rw [U_op] <;> first | rfl | (intros; exact MOp.noConfusion)
theorem G_load (r : Root) (b : Bool) (n : Nat) (x : A) : U call (.o (⟨dst, .load r b n x, some (j, w)⟩ :: os) :: t) .normal st k = guardU call (st.at j) w dst (.load r b n x) st os t k := U_guard (by intros; exact MOp.noConfusion) (by intros; exact MOp.noConfusion)
theorem U_take (r : Root) (x : A) : U call (.o (⟨dst, .take r x, none⟩ :: os) :: t) .normal st k = outU call false dst (exec call (.take r x) st) (.o os :: t) k := by rw [U_op] <;> first | rfl | (intros; exact MOp.noConfusion)
theorem G_take (r : Root) (x : A) : U call (.o (⟨dst, .take r x, some (j, w)⟩ :: os) :: t) .normal st k = guardU call (st.at j) w dst (.take r x) st os t k := U_guard (by intros; exact MOp.noConfusion) (by intros; exact MOp.noConfusion)
theorem U_store (r : Root) (n : Nat) (x y : A) : U call (.o (⟨dst, .store r n x y, none⟩ :: os) :: t) .normal st k = outU call false dst (exec call (.store r n x y) st) (.o os :: t) k := by rw [U_op] <;> first | rfl | (intros; exact MOp.noConfusion)
theorem G_store (r : Root) (n : Nat) (x y : A) : U call (.o (⟨dst, .store r n x y, some (j, w)⟩ :: os) :: t) .normal st k = guardU call (st.at j) w dst (.store r n x y) st os t k := U_guard (by intros; exact MOp.noConfusion) (by intros; exact MOp.noConfusion)
theorem U_nilchk (x : A) : U call (.o (⟨dst, .nilchk x, none⟩ :: os) :: t) .normal st k = outU call true dst (exec call (.nilchk x) st) (.o os :: t) k := by rw [U_op] <;> first | rfl | (intros; exact MOp.noConfusion)
theorem G_nilchk (x : A) : U call (.o (⟨dst, .nilchk x, some (j, w)⟩ :: os) :: t) .normal st k = guardU call (st.at j) w dst (.nilchk x) st os t k := U_guard (by intros; exact MOp.noConfusion) (by intros; exact MOp.noConfusion)
theorem U_bin (o : BinOp) (x y : A) : U call (.o (⟨dst, .bin o x y, none⟩ :: os) :: t) .normal st k = outU call false dst (exec call (.bin o x y) st) (.o os :: t) k := by rw [U_op] <;> first | rfl | (intros; exact MOp.noConfusion)
theorem G_bin (o : BinOp) (x y : A) : U call (.o (⟨dst, .bin o x y, some (j, w)⟩ :: os) :: t) .normal st k = guardU call (st.at j) w dst (.bin o x y) st os t k := U_guard (by intros; exact MOp.noConfusion) (by intros; exact MOp.noConfusion)
theorem U_eqs (b : Bool) (ks : List Lk) (neg : Bool) (x y : A) : U call (.o (⟨dst, .eqs b ks neg x y, none⟩ :: os) :: t) .normal st k = outU call false dst (exec call (.eqs b ks neg x y) st) (.o os :: t) k := by rw [U_op] <;> first | rfl | (intros; exact MOp.noConfusion)
theorem G_eqs (b : Bool) (ks : List Lk) (neg : Bool) (x y : A) : U call (.o (⟨dst, .eqs b ks neg x y, some (j, w)⟩ :: os) :: t) .normal st k = guardU call (st.at j) w dst (.eqs b ks neg x y) st os t k := U_guard (by intros; exact MOp.noConfusion) (by intros; exact MOp.noConfusion)
theorem U_un (o : UnOp) (x : A) : U call (.o (⟨dst, .un o x, none⟩ :: os) :: t) .normal st k = outU call false dst (exec call (.un o x) st) (.o os :: t) k := by rw [U_op] <;> first | rfl | (intros; exact MOp.noConfusion)
theorem G_un (o : UnOp) (x : A) : U call (.o (⟨dst, .un o x, some (j, w)⟩ :: os) :: t) .normal st k = guardU call (st.at j) w dst (.un o x) st os t k := U_guard (by intros; exact MOp.noConfusion) (by intros; exact MOp.noConfusion)
theorem U_isnil (b : Bool) (x : A) : U call (.o (⟨dst, .isnil b x, none⟩ :: os) :: t) .normal st k = outU call false dst (exec call (.isnil b x) st) (.o os :: t) k := by rw [U_op] <;> first | rfl | (intros; exact MOp.noConfusion)
theorem G_isnil (b : Bool) (x : A) : U call (.o (⟨dst, .isnil b x, some (j, w)⟩ :: os) :: t) .normal st k = guardU call (st.at j) w dst (.isnil b x) st os t k := U_guard (by intros; exact MOp.noConfusion) (by intros; exact MOp.noConfusion)
theorem U_bytes (x : A) : U call (.o (⟨dst, .bytes x, none⟩ :: os) :: t) .normal st k = outU call false dst (exec call (.bytes x) st) (.o os :: t) k := by rw [U_op] <;> first | rfl | (intros; exact MOp.noConfusion)
theorem G_bytes (x : A) : U call (.o (⟨dst, .bytes x, some (j, w)⟩ :: os) :: t) .normal st k = guardU call (st.at j) w dst (.bytes x) st os t k := U_guard (by intros; exact MOp.noConfusion) (by intros; exact MOp.noConfusion)
theorem U_rng (x : A) : U call (.o (⟨dst, .rng x, none⟩ :: os) :: t) .normal st k = outU call false dst (exec call (.rng x) st) (.o os :: t) k := by rw [U_op] <;> first | rfl | (intros; exact MOp.noConfusion)
theorem G_rng (x : A) : U call (.o (⟨dst, .rng x, some (j, w)⟩ :: os) :: t) .normal st k = guardU call (st.at j) w dst (.rng x) st os t k := U_guard (by intros; exact MOp.noConfusion) (by intros; exact MOp.noConfusion)
theorem U_ent (n : Nat) : U call (.o (⟨dst, .ent n, none⟩ :: os) :: t) .normal st k = outU call false dst (exec call (.ent n) st) (.o os :: t) k := by rw [U_op] <;> first | rfl | (intros; exact MOp.noConfusion)
theorem G_ent (n : Nat) : U call (.o (⟨dst, .ent n, some (j, w)⟩ :: os) :: t) .normal st k = guardU call (st.at j) w dst (.ent n) st os t k := U_guard (by intros; exact MOp.noConfusion) (by intros; exact MOp.noConfusion)
theorem U_slarr (r : Root) (n m : Nat) (x : A) : U call (.o (⟨dst, .slarr r n m x, none⟩ :: os) :: t) .normal st k = outU call false dst (exec call (.slarr r n m x) st) (.o os :: t) k := by rw [U_op] <;> first | rfl | (intros; exact MOp.noConfusion)
theorem G_slarr (r : Root) (n m : Nat) (x : A) : U call (.o (⟨dst, .slarr r n m x, some (j, w)⟩ :: os) :: t) .normal st k = guardU call (st.at j) w dst (.slarr r n m x) st os t k := U_guard (by intros; exact MOp.noConfusion) (by intros; exact MOp.noConfusion)
theorem U_conv (kk : IntKind) (x : A) : U call (.o (⟨dst, .conv kk x, none⟩ :: os) :: t) .normal st k = outU call false dst (exec call (.conv kk x) st) (.o os :: t) k := by rw [U_op] <;> first | rfl | (intros; exact MOp.noConfusion)
theorem G_conv (kk : IntKind) (x : A) : U call (.o (⟨dst, .conv kk x, some (j, w)⟩ :: os) :: t) .normal st k = guardU call (st.at j) w dst (.conv kk x) st os t k := U_guard (by intros; exact MOp.noConfusion) (by intros; exact MOp.noConfusion)
theorem U_mkfn (f : Fn) (rs : List Nat) (fs cs : List A) : U call (.o (⟨dst, .mkfn f rs fs cs, none⟩ :: os) :: t) .normal st k = outU call false dst (exec call (.mkfn f rs fs cs) st) (.o os :: t) k := by rw [U_op] <;> first | rfl | (intros; exact MOp.noConfusion)
theorem G_mkfn (f : Fn) (rs : List Nat) (fs cs : List A) : U call (.o (⟨dst, .mkfn f rs fs cs, some (j, w)⟩ :: os) :: t) .normal st k = guardU call (st.at j) w dst (.mkfn f rs fs cs) st os t k := U_guard (by intros; exact MOp.noConfusion) (by intros; exact MOp.noConfusion)
theorem U_mkmap  : U call (.o (⟨dst, .mkmap, none⟩ :: os) :: t) .normal st k = outU call false dst (exec call (.mkmap) st) (.o os :: t) k := by rw [U_op] <;> first | rfl | (intros; exact MOp.noConfusion)
theorem G_mkmap  : U call (.o (⟨dst, .mkmap, some (j, w)⟩ :: os) :: t) .normal st k = guardU call (st.at j) w dst (.mkmap) st os t k := U_guard (by intros; exact MOp.noConfusion) (by intros; exact MOp.noConfusion)
theorem U_mksl (n m : Nat) (c : List V) (x : A) : U call (.o (⟨dst, .mksl n m c x, none⟩ :: os) :: t) .normal st k = outU call false dst (exec call (.mksl n m c x) st) (.o os :: t) k := by rw [U_op] <;> first | rfl | (intros; exact MOp.noConfusion)
theorem G_mksl (n m : Nat) (c : List V) (x : A) : U call (.o (⟨dst, .mksl n m c x, some (j, w)⟩ :: os) :: t) .normal st k = guardU call (st.at j) w dst (.mksl n m c x) st os t k := U_guard (by intros; exact MOp.noConfusion) (by intros; exact MOp.noConfusion)
theorem U_slcs (x : A) (lo hi : Option A) : U call (.o (⟨dst, .slcs x lo hi, none⟩ :: os) :: t) .normal st k = outU call false dst (exec call (.slcs x lo hi) st) (.o os :: t) k := by rw [U_op] <;> first | rfl | (intros; exact MOp.noConfusion)
theorem G_slcs (x : A) (lo hi : Option A) : U call (.o (⟨dst, .slcs x lo hi, some (j, w)⟩ :: os) :: t) .normal st k = guardU call (st.at j) w dst (.slcs x lo hi) st os t k := U_guard (by intros; exact MOp.noConfusion) (by intros; exact MOp.noConfusion)
theorem U_slc (n : Nat) (x : A) (lo hi mx : Option A) : U call (.o (⟨dst, .slc n x lo hi mx, none⟩ :: os) :: t) .normal st k = outU call false dst (exec call (.slc n x lo hi mx) st) (.o os :: t) k := by rw [U_op] <;> first | rfl | (intros; exact MOp.noConfusion)
theorem G_slc (n : Nat) (x : A) (lo hi mx : Option A) : U call (.o (⟨dst, .slc n x lo hi mx, some (j, w)⟩ :: os) :: t) .normal st k = guardU call (st.at j) w dst (.slc n x lo hi mx) st os t k := U_guard (by intros; exact MOp.noConfusion) (by intros; exact MOp.noConfusion)
theorem U_faddr (r : Root) (n : Nat) (x : A) : U call (.o (⟨dst, .faddr r n x, none⟩ :: os) :: t) .normal st k = outU call true dst (exec call (.faddr r n x) st) (.o os :: t) k := by rw [U_op] <;> first | rfl | (intros; exact MOp.noConfusion)
theorem G_faddr (r : Root) (n : Nat) (x : A) : U call (.o (⟨dst, .faddr r n x, some (j, w)⟩ :: os) :: t) .normal st k = guardU call (st.at j) w dst (.faddr r n x) st os t k := U_guard (by intros; exact MOp.noConfusion) (by intros; exact MOp.noConfusion)
theorem U_fld (b : Bool) (n m : Nat) (x : A) : U call (.o (⟨dst, .fld b n m x, none⟩ :: os) :: t) .normal st k = outU call false dst (exec call (.fld b n m x) st) (.o os :: t) k := by rw [U_op] <;> first | rfl | (intros; exact MOp.noConfusion)
theorem G_fld (b : Bool) (n m : Nat) (x : A) : U call (.o (⟨dst, .fld b n m x, some (j, w)⟩ :: os) :: t) .normal st k = guardU call (st.at j) w dst (.fld b n m x) st os t k := U_guard (by intros; exact MOp.noConfusion) (by intros; exact MOp.noConfusion)
theorem U_iarr (n m : Nat) (x y : A) : U call (.o (⟨dst, .iarr n m x y, none⟩ :: os) :: t) .normal st k = outU call true dst (exec call (.iarr n m x y) st) (.o os :: t) k := by rw [U_op] <;> first | rfl | (intros; exact MOp.noConfusion)
theorem G_iarr (n m : Nat) (x y : A) : U call (.o (⟨dst, .iarr n m x y, some (j, w)⟩ :: os) :: t) .normal st k = guardU call (st.at j) w dst (.iarr n m x y) st os t k := U_guard (by intros; exact MOp.noConfusion) (by intros; exact MOp.noConfusion)
theorem U_iaddr (r : Root) (n : Nat) (x y : A) : U call (.o (⟨dst, .iaddr r n x y, none⟩ :: os) :: t) .normal st k = outU call true dst (exec call (.iaddr r n x y) st) (.o os :: t) k := by rw [U_op] <;> first | rfl | (intros; exact MOp.noConfusion)
theorem G_iaddr (r : Root) (n : Nat) (x y : A) : U call (.o (⟨dst, .iaddr r n x y, some (j, w)⟩ :: os) :: t) .normal st k = guardU call (st.at j) w dst (.iaddr r n x y) st os t k := U_guard (by intros; exact MOp.noConfusion) (by intros; exact MOp.noConfusion)
theorem U_idxs (x y : A) : U call (.o (⟨dst, .idxs x y, none⟩ :: os) :: t) .normal st k = outU call false dst (exec call (.idxs x y) st) (.o os :: t) k := by rw [U_op] <;> first | rfl | (intros; exact MOp.noConfusion)
theorem G_idxs (x y : A) : U call (.o (⟨dst, .idxs x y, some (j, w)⟩ :: os) :: t) .normal st k = guardU call (st.at j) w dst (.idxs x y) st os t k := U_guard (by intros; exact MOp.noConfusion) (by intros; exact MOp.noConfusion)
theorem U_idxa (b : Bool) (n m : Nat) (x y : A) : U call (.o (⟨dst, .idxa b n m x y, none⟩ :: os) :: t) .normal st k = outU call false dst (exec call (.idxa b n m x y) st) (.o os :: t) k := by rw [U_op] <;> first | rfl | (intros; exact MOp.noConfusion)
theorem G_idxa (b : Bool) (n m : Nat) (x y : A) : U call (.o (⟨dst, .idxa b n m x y, some (j, w)⟩ :: os) :: t) .normal st k = guardU call (st.at j) w dst (.idxa b n m x y) st os t k := U_guard (by intros; exact MOp.noConfusion) (by intros; exact MOp.noConfusion)
theorem U_look (r : Root) (b : Bool) (ks : List Lk) (v : V) (ok : Bool) (x y : A) : U call (.o (⟨dst, .look r b ks v ok x y, none⟩ :: os) :: t) .normal st k = outU call false dst (exec call (.look r b ks v ok x y) st) (.o os :: t) k := by rw [U_op] <;> first | rfl | (intros; exact MOp.noConfusion)
theorem G_look (r : Root) (b : Bool) (ks : List Lk) (v : V) (ok : Bool) (x y : A) : U call (.o (⟨dst, .look r b ks v ok x y, some (j, w)⟩ :: os) :: t) .normal st k = guardU call (st.at j) w dst (.look r b ks v ok x y) st os t k := U_guard (by intros; exact MOp.noConfusion) (by intros; exact MOp.noConfusion)
theorem U_mset (r : Root) (b : Bool) (ks : List Lk) (x y z : A) : U call (.o (⟨dst, .mset r b ks x y z, none⟩ :: os) :: t) .normal st k = outU call false dst (exec call (.mset r b ks x y z) st) (.o os :: t) k := by rw [U_op] <;> first | rfl | (intros; exact MOp.noConfusion)
theorem G_mset (r : Root) (b : Bool) (ks : List Lk) (x y z : A) : U call (.o (⟨dst, .mset r b ks x y z, some (j, w)⟩ :: os) :: t) .normal st k = guardU call (st.at j) w dst (.mset r b ks x y z) st os t k := U_guard (by intros; exact MOp.noConfusion) (by intros; exact MOp.noConfusion)
theorem U_ext (n : Nat) (x : A) : U call (.o (⟨dst, .ext n x, none⟩ :: os) :: t) .normal st k = outU call false dst (exec call (.ext n x) st) (.o os :: t) k := by rw [U_op] <;> first | rfl | (intros; exact MOp.noConfusion)
theorem G_ext (n : Nat) (x : A) : U call (.o (⟨dst, .ext n x, some (j, w)⟩ :: os) :: t) .normal st k = guardU call (st.at j) w dst (.ext n x) st os t k := U_guard (by intros; exact MOp.noConfusion) (by intros; exact MOp.noConfusion)
theorem U_len (n : Nat) (r : Root) (x : A) : U call (.o (⟨dst, .len n r x, none⟩ :: os) :: t) .normal st k = outU call false dst (exec call (.len n r x) st) (.o os :: t) k := by rw [U_op] <;> first | rfl | (intros; exact MOp.noConfusion)
theorem G_len (n : Nat) (r : Root) (x : A) : U call (.o (⟨dst, .len n r x, some (j, w)⟩ :: os) :: t) .normal st k = guardU call (st.at j) w dst (.len n r x) st os t k := U_guard (by intros; exact MOp.noConfusion) (by intros; exact MOp.noConfusion)
theorem U_app (n m : Nat) (x y : A) : U call (.o (⟨dst, .app n m x y, none⟩ :: os) :: t) .normal st k = outU call false dst (exec call (.app n m x y) st) (.o os :: t) k := by rw [U_op] <;> first | rfl | (intros; exact MOp.noConfusion)
theorem G_app (n m : Nat) (x y : A) : U call (.o (⟨dst, .app n m x y, some (j, w)⟩ :: os) :: t) .normal st k = guardU call (st.at j) w dst (.app n m x y) st os t k := U_guard (by intros; exact MOp.noConfusion) (by intros; exact MOp.noConfusion)
theorem U_mx (b : Bool) (xs : List A) : U call (.o (⟨dst, .mx b xs, none⟩ :: os) :: t) .normal st k = outU call false dst (exec call (.mx b xs) st) (.o os :: t) k := by rw [U_op] <;> first | rfl | (intros; exact MOp.noConfusion)
theorem G_mx (b : Bool) (xs : List A) : U call (.o (⟨dst, .mx b xs, some (j, w)⟩ :: os) :: t) .normal st k = guardU call (st.at j) w dst (.mx b xs) st os t k := U_guard (by intros; exact MOp.noConfusion) (by intros; exact MOp.noConfusion)
theorem U_call (f : FuncId) (xs : List A) : U call (.o (⟨dst, .call f xs, none⟩ :: os) :: t) .normal st k = outU call false dst (exec call (.call f xs) st) (.o os :: t) k := by rw [U_op] <;> first | rfl | (intros; exact MOp.noConfusion)
theorem G_call (f : FuncId) (xs : List A) : U call (.o (⟨dst, .call f xs, some (j, w)⟩ :: os) :: t) .normal st k = guardU call (st.at j) w dst (.call f xs) st os t k := U_guard (by intros; exact MOp.noConfusion) (by intros; exact MOp.noConfusion)
theorem U_callv (x : A) (xs : List A) : U call (.o (⟨dst, .callv x xs, none⟩ :: os) :: t) .normal st k = outU call false dst (exec call (.callv x xs) st) (.o os :: t) k := by rw [U_op] <;> first | rfl | (intros; exact MOp.noConfusion)
theorem G_callv (x : A) (xs : List A) : U call (.o (⟨dst, .callv x xs, some (j, w)⟩ :: os) :: t) .normal st k = guardU call (st.at j) w dst (.callv x xs) st os t k := U_guard (by intros; exact MOp.noConfusion) (by intros; exact MOp.noConfusion)
theorem out_bool {b : Bool} : outU call p (some d) (some (.bool b, st)) t k = U call t .normal ⟨put st.tm d (.bool b), st.bx⟩ k := by simp [outU, into, data, bindU]
theorem out_abool  : outU call p (some d) (some (.abool, st)) t k = U call t .normal ⟨put st.tm d (.abool), st.bx⟩ k := by simp [outU, into, data, bindU]
theorem out_skp  : outU call p (some d) (some (.skp, st)) t k = U call t .normal ⟨put st.tm d (.skp), st.bx⟩ k := by simp [outU, into, data, bindU]
theorem out_undef  : outU call p (some d) (some (.undef, st)) t k = U call t .normal ⟨put st.tm d (.undef), st.bx⟩ k := by simp [outU, into, data, bindU]
theorem out_int {n : Int} {kk : IntKind} : outU call p (some d) (some (.int kk n, st)) t k = U call t .normal ⟨put st.tm d (.int kk n), st.bx⟩ k := by simp [outU, into, data, bindU]
theorem out_str {b : ByteArray} : outU call p (some d) (some (.str b, st)) t k = U call t .normal ⟨put st.tm d (.str b), st.bx⟩ k := by simp [outU, into, data, bindU]
theorem out_agg {cs : List V} : outU call p (some d) (some (.agg cs, st)) t k = U call t .normal ⟨put st.tm d (.agg cs), st.bx⟩ k := by simp [outU, into, data, bindU]
theorem out_tup {cs : List V} : outU call p (some d) (some (.tup cs, st)) t k = U call t .normal ⟨put st.tm d (.tup cs), st.bx⟩ k := by simp [outU, into, data, bindU]
theorem out_ptr {cs : List V} {o : Nat} : outU call p (some d) (some (.ptr cs o, st)) t k = U call t .normal ⟨put st.tm d (.ptr cs o), st.bx⟩ k := by simp [outU, into, data, bindU]
theorem out_fn {f : Fn} {fs cs : List V} : outU call p (some d) (some (.fn f fs cs, st)) t k = U call t .normal ⟨put st.tm d (.fn f fs cs), st.bx⟩ k := by simp [outU, into, data, bindU]
theorem out_it {es cs : List (V × V)} : outU call p (some d) (some (.it es cs, st)) t k = U call t .normal ⟨put st.tm d (.it es cs), st.bx⟩ k := by simp [outU, into, data, bindU]
theorem out_sls {z : Nat} {xs : List (List V)} : outU call p (some d) (some (.sl .s z xs, st)) t k = U call t .normal ⟨put st.tm d (.sl .s z xs), st.bx⟩ k := by simp [outU, into, data, bindU]
theorem out_sla {z : Nat} {xs : List (List V)} : outU call p (some d) (some (.sl .a z xs, st)) t k = U call t .normal ⟨put st.tm d (.sl .a z xs), st.bx⟩ k := by simp [outU, into, data, bindU]
theorem out_mps {es : List (V × V)} : outU call p (some d) (some (.mp .s es, st)) t k = U call t .normal ⟨put st.tm d (.mp .s es), st.bx⟩ k := by simp [outU, into, data, bindU]
theorem out_mpa {es : List (V × V)} : outU call p (some d) (some (.mp .a es, st)) t k = U call t .normal ⟨put st.tm d (.mp .a es), st.bx⟩ k := by simp [outU, into, data, bindU]
theorem out_loc {b o : Nat} : outU call true (some d) (some (.loc b o, st)) t k = U call t .normal ⟨put st.tm d (.loc b o), st.bx⟩ k := by simp [outU, into, bindU]
theorem out_el {b i o : Nat} : outU call true (some d) (some (.el b i o, st)) t k = U call t .normal ⟨put st.tm d (.el b i o), st.bx⟩ k := by simp [outU, into, bindU]
theorem out_rf {b : Nat} : outU call true (some d) (some (.rf b, st)) t k = U call t .normal ⟨put st.tm d (.rf b), st.bx⟩ k := by simp [outU, into, bindU]
theorem out_slx {z : Nat} {xs : List (List V)} (h : noref d st.tm = true) : outU call p (some d) (some (.sl .x z xs, st)) t k = U call t .normal ⟨put st.tm d (.sl .x z xs), st.bx⟩ k := by simp [outU, into, data, bindU, h]
theorem out_mpx {es : List (V × V)} (h : noref d st.tm = true) : outU call p (some d) (some (.mp .x es, st)) t k = U call t .normal ⟨put st.tm d (.mp .x es), st.bx⟩ k := by simp [outU, into, data, bindU, h]
theorem out_no : outU call p none (some (.undef, st)) t k = U call t .normal st k := by simp [outU, into, data, bindU]
theorem out_ite {c : Prop} [Decidable c] {x y : V} : outU call p dst (some (if c then x else y, st)) t k = if c then outU call p dst (some (x, st)) t k else outU call p dst (some (y, st)) t k := by split <;> rfl

theorem U_alloc {z : List V} : U call (.o (⟨some d, .alloc z, none⟩ :: os) :: t) .normal st k = bindU call (boxed d st st.tm z) (.o os :: t) k := by rw [U_o_cons]; rfl
theorem U_box {z : Nat} {x : A} (h : (flat (st.val x)).length = z) : U call (.o (⟨some d, .box z x, none⟩ :: os) :: t) .normal st k = bindU call (boxed d st (gone [x] st.tm) (flat (st.val x))) (.o os :: t) k := by rw [U_o_cons]; simp [step, h]
theorem bindU_boxed {tm : List (Nat × V)} {c : List V} (h : away d tm = true ∧ c.all leaf = true) : bindU call (boxed d st tm c) t k = U call t .normal ⟨put tm d (.loc d 0), put st.bx d (false, c)⟩ k := by unfold boxed; rw [if_pos h]; rfl

theorem condU_tt {x y : M} : condU call (.bool true) x y t st k = U call (.c x :: t) .normal st k := rfl
theorem condU_ff {x y : M} : condU call (.bool false) x y t st k = U call (.c y :: t) .normal st k := rfl
end

section
variable {tm l : List (Nat × V)} {bx : List (Nat × Bool × List V)} {st : St} {d n e : Nat} {v u : V}
theorem at_hit : St.at ⟨(d, v) :: l, bx⟩ d = v := by simp [St.at, get]
theorem at_miss (h : (e == d) = false) : St.at ⟨(e, v) :: l, bx⟩ d = St.at ⟨l, bx⟩ d := by
  have : e ≠ d := by simpa using h
  simp [St.at, get, this]
theorem at_nil : St.at ⟨[], bx⟩ d = .undef := rfl
theorem val_t : St.val st (.t n) = cpa n (st.at n) := rfl
theorem val_m {o : Own} : St.val st (.m o n) = low o (st.at n) := rfl
theorem val_c : St.val st (.c v) = v := rfl
theorem raw_t : St.raw st (.t n) = st.at n := rfl
theorem raw_m {o : Own} : St.raw st (.m o n) = st.at n := rfl
theorem raw_c : St.raw st (.c v) = v := rfl
variable {α : Type} {x y : α} {m : List (Nat × α)}
theorem get_hit : get ((d, x) :: m) d = some x := by simp [get]
theorem get_miss (h : (e == d) = false) : get ((e, x) :: m) d = get m d := by
  have : e ≠ d := by simpa using h
  simp [get, this]
theorem put_nil : put [] d x = [(d, x)] := rfl
theorem put_hit : put ((d, y) :: m) d x = (d, x) :: m := by simp [put]
theorem put_lt (h' : e < d) : put ((e, y) :: m) d x = (e, y) :: put m d x := by
  have : e ≠ d := by omega
  simp [put, this, h']
theorem put_gt (h' : d < e) : put ((e, y) :: m) d x = (d, x) :: (e, y) :: m := by
  have h1 : e ≠ d := by omega
  have h2 : ¬ e < d := by omega
  simp [put, h1, h2]

theorem keep_nil : keep [] m = m := by
  induction m with
  | nil => rfl
  | cons p l ih => simp [keep, ih]
theorem keep_nil2 {ks : List Nat} : keep ks ([] : List (Nat × α)) = [] := rfl
theorem keep_in {ks : List Nat} (h : ks.contains e = true) : keep ks ((e, x) :: m) = keep ks m := by
  have : e ∈ ks := by simpa using h
  simp [keep, this]
theorem keep_out {ks : List Nat} (h : ks.contains e = false) : keep ks ((e, x) :: m) = (e, x) :: keep ks m := by
  have : e ∉ ks := by simpa using h
  simp [keep, this]
theorem contains_hit {ks : List Nat} : (e :: ks).contains e = true := by simp
theorem contains_miss {ks : List Nat} (h : (d == e) = false) : (e :: ks).contains d = ks.contains d := by
  rw [List.contains_cons, h]; rfl
theorem contains_nil : ([] : List Nat).contains e = false := rfl
end

section
variable {n : Nat} {kk : IntKind} {i : Int} {b : Bool} {s : ByteArray} {cs fs : List V} {o z : Nat} {xs : List (List V)} {es cu : List (V × V)} {f : Fn} {ow : Own}
theorem cpa_int : cpa n (.int kk i) = .int kk i := rfl
theorem cpa_bool : cpa n (.bool b) = .bool b := rfl
theorem cpa_str : cpa n (.str s) = .str s := rfl
theorem cpa_agg : cpa n (.agg cs) = .agg cs := rfl
theorem cpa_tup : cpa n (.tup cs) = .undef := rfl
theorem cpa_ptr : cpa n (.ptr cs o) = .ptr cs o := rfl
theorem cpa_loc : cpa n (.loc z o) = .loc z o := rfl
theorem cpa_el : cpa n (.el z z o) = .el z z o := rfl
theorem cpa_fn : cpa n (.fn f fs cs) = .fn f fs cs := rfl
theorem cpa_sls : cpa n (.sl .s z xs) = .sl .s z xs := rfl
theorem cpa_sla : cpa n (.sl .a z xs) = .sl .s z xs := rfl
theorem cpa_slx : cpa n (.sl .x z xs) = .rf n := rfl
theorem cpa_mps : cpa n (.mp .s es) = .mp .s es := rfl
theorem cpa_mpa : cpa n (.mp .a es) = .mp .s es := rfl
theorem cpa_mpx : cpa n (.mp .x es) = .rf n := rfl
theorem cpa_skp : cpa n .skp = .skp := rfl
theorem cpa_abool : cpa n .abool = .abool := rfl
theorem cpa_rf : cpa n (.rf z) = .rf z := rfl
theorem cp_int : cp (.int kk i) = .int kk i := rfl
theorem cp_bool : cp (.bool b) = .bool b := rfl
theorem cp_str : cp (.str s) = .str s := rfl
theorem cp_agg : cp (.agg cs) = .agg cs := rfl
theorem cp_ptr : cp (.ptr cs o) = .ptr cs o := rfl
theorem cp_fn : cp (.fn f fs cs) = .fn f fs cs := rfl
theorem cp_sls : cp (.sl .s z xs) = .sl .s z xs := rfl
theorem cp_sla : cp (.sl .a z xs) = .sl .s z xs := rfl
theorem cp_mps : cp (.mp .s es) = .mp .s es := rfl
theorem cp_mpa : cp (.mp .a es) = .mp .s es := rfl
theorem cp_abool : cp .abool = .abool := rfl
theorem low_int : low ow (.int kk i) = .int kk i := by cases ow <;> rfl
theorem low_bool : low ow (.bool b) = .bool b := by cases ow <;> rfl
theorem low_str : low ow (.str s) = .str s := by cases ow <;> rfl
theorem low_agg : low ow (.agg cs) = .agg cs := by cases ow <;> rfl
theorem low_tup : low ow (.tup cs) = .tup cs := by cases ow <;> rfl
theorem low_s : low .s (.sl ow z xs) = .sl .s z xs := rfl
theorem low_ax : low .a (.sl .x z xs) = .sl .a z xs := rfl
theorem low_aa : low .a (.sl .a z xs) = .sl .a z xs := rfl
theorem low_as : low .a (.sl .s z xs) = .sl .s z xs := rfl
theorem low_x : low .x (.sl ow z xs) = .sl ow z xs := rfl
theorem low_ms : low .s (.mp ow es) = .mp .s es := rfl
theorem low_mx : low .x (.mp ow es) = .mp ow es := rfl
theorem low_ma : low .a (.mp ow es) = .mp ow es := rfl
theorem flat_agg : flat (.agg cs) = cs := rfl
theorem flat_int : flat (.int kk i) = [.int kk i] := rfl
theorem flat_bool : flat (.bool b) = [.bool b] := rfl
theorem flat_str : flat (.str s) = [.str s] := rfl
theorem flat_ptr : flat (.ptr cs o) = [.ptr cs o] := rfl
theorem flat_sl : flat (.sl ow z xs) = [.sl ow z xs] := rfl
theorem flat_mp : flat (.mp ow es) = [.mp ow es] := rfl
theorem flat_fn : flat (.fn f fs cs) = [.fn f fs cs] := rfl
theorem flat_skp : flat .skp = [.skp] := rfl
theorem flat_abool : flat .abool = [.abool] := rfl
theorem leaf_int : leaf (.int kk i) = true := by simp only [leaf]
theorem leaf_bool : leaf (.bool b) = true := by simp only [leaf]
theorem leaf_str : leaf (.str s) = true := by simp only [leaf]
theorem leaf_ptr : leaf (.ptr cs o) = true := by simp only [leaf]
theorem leaf_sl : leaf (.sl ow z xs) = true := by simp only [leaf]
theorem leaf_fn : leaf (.fn f fs cs) = true := by simp only [leaf]
theorem leaf_abool : leaf .abool = true := by simp only [leaf]
theorem leaf_mps : leaf (.mp .s es) = true := by simp only [leaf]
theorem data_int : data (.int kk i) = true := by simp only [data]
theorem data_bool : data (.bool b) = true := by simp only [data]
theorem data_str : data (.str s) = true := by simp only [data]
theorem data_ptr : data (.ptr cs o) = true := by simp only [data]
theorem data_sl : data (.sl ow z xs) = true := by simp only [data]
theorem data_mp : data (.mp ow es) = true := by simp only [data]
theorem data_fn : data (.fn f fs cs) = true := by simp only [data]
theorem data_skp : data .skp = true := by simp only [data]
theorem data_abool : data .abool = true := by simp only [data]
theorem data_agg : data (.agg cs) = true := by simp only [data]
theorem data_tup : data (.tup cs) = true := by simp only [data]
theorem data_it : data (.it es cu) = true := by simp only [data]
theorem data_undef : data .undef = true := by simp only [data]
variable {m d q : Nat} {tl : List (Nat × V)}
theorem away_nil : away d [] = true := by simp only [away]
theorem noref_nil : noref d [] = true := by simp only [noref]
theorem away_int : away d ((q, .int kk i) :: tl) = away d tl := by simp only [away]
theorem away_bool : away d ((q, .bool b) :: tl) = away d tl := by simp only [away]
theorem away_str : away d ((q, .str s) :: tl) = away d tl := by simp only [away]
theorem away_ptr : away d ((q, .ptr cs o) :: tl) = away d tl := by simp only [away]
theorem away_sl : away d ((q, .sl ow z xs) :: tl) = away d tl := by simp only [away]
theorem away_mp : away d ((q, .mp ow es) :: tl) = away d tl := by simp only [away]
theorem away_fn : away d ((q, .fn f fs cs) :: tl) = away d tl := by simp only [away]
theorem away_skp : away d ((q, .skp) :: tl) = away d tl := by simp only [away]
theorem away_abool : away d ((q, .abool) :: tl) = away d tl := by simp only [away]
theorem away_agg : away d ((q, .agg cs) :: tl) = away d tl := by simp only [away]
theorem away_tup : away d ((q, .tup cs) :: tl) = away d tl := by simp only [away]
theorem away_it : away d ((q, .it es cu) :: tl) = away d tl := by simp only [away]
theorem away_undef : away d ((q, .undef) :: tl) = away d tl := by simp only [away]
theorem away_el : away d ((q, .el z m o) :: tl) = away d tl := by simp only [away]
theorem away_rf : away d ((q, .rf z) :: tl) = away d tl := by simp only [away]
theorem away_loc : away d ((q, .loc z o) :: tl) = ((q == d || z != d) && away d tl) := by simp only [away]
theorem noref_int : noref d ((q, .int kk i) :: tl) = noref d tl := by simp only [noref]
theorem noref_bool : noref d ((q, .bool b) :: tl) = noref d tl := by simp only [noref]
theorem noref_str : noref d ((q, .str s) :: tl) = noref d tl := by simp only [noref]
theorem noref_ptr : noref d ((q, .ptr cs o) :: tl) = noref d tl := by simp only [noref]
theorem noref_sl : noref d ((q, .sl ow z xs) :: tl) = noref d tl := by simp only [noref]
theorem noref_mp : noref d ((q, .mp ow es) :: tl) = noref d tl := by simp only [noref]
theorem noref_fn : noref d ((q, .fn f fs cs) :: tl) = noref d tl := by simp only [noref]
theorem noref_skp : noref d ((q, .skp) :: tl) = noref d tl := by simp only [noref]
theorem noref_abool : noref d ((q, .abool) :: tl) = noref d tl := by simp only [noref]
theorem noref_agg : noref d ((q, .agg cs) :: tl) = noref d tl := by simp only [noref]
theorem noref_tup : noref d ((q, .tup cs) :: tl) = noref d tl := by simp only [noref]
theorem noref_it : noref d ((q, .it es cu) :: tl) = noref d tl := by simp only [noref]
theorem noref_undef : noref d ((q, .undef) :: tl) = noref d tl := by simp only [noref]
theorem noref_loc : noref d ((q, .loc z o) :: tl) = noref d tl := by simp only [noref]
theorem noref_el : noref d ((q, .el z m o) :: tl) = (z != d && noref d tl) := by simp only [noref]
theorem noref_rf : noref d ((q, .rf z) :: tl) = (z != d && noref d tl) := by simp only [noref]
theorem cag_t : cellsAg true (.agg cs) = some cs := rfl
theorem cag_int : cellsAg false (.int kk i) = some [.int kk i] := rfl
theorem cag_bool : cellsAg false (.bool b) = some [.bool b] := rfl
theorem cag_str : cellsAg false (.str s) = some [.str s] := rfl
theorem cag_ptr : cellsAg false (.ptr cs o) = some [.ptr cs o] := rfl
theorem cag_sl : cellsAg false (.sl ow z xs) = some [.sl ow z xs] := rfl
theorem cag_mp : cellsAg false (.mp ow es) = some [.mp ow es] := rfl
theorem cag_fn : cellsAg false (.fn f fs cs) = some [.fn f fs cs] := rfl
theorem cag_skp : cellsAg false .skp = some [.skp] := rfl
theorem cag_abool : cellsAg false .abool = some [.abool] := rfl
theorem mkv_t : mkv true cs = some (.agg cs) := rfl
theorem mkv_f {v : V} : mkv false [v] = some v := rfl
theorem cps_nil : cps [] = [] := rfl
theorem cps_cons {v : V} : cps (v :: cs) = cp v :: cps cs := rfl
end

/-- No slot that is to be filled holds a name. -/
def tidyO : List MO → St → Bool
  | [], _ => true
  | o :: os, st => (match o.dst with
    | some d => data (st.at d)
    | none => true) && tidyO os st

section
variable {ops os : List MO} {st : St} {d : Nat} {op : MOp} {g : Option (Nat × Bool)} {k k' : Nat} {u v : V} {l : List (Nat × V)}
theorem tidy_eq : tidy ops st = (incr st.tm && tidyO ops st) := by
  unfold tidy
  congr 1
  induction ops with
  | nil => rfl
  | cons o os ih => simp only [List.all_cons, tidyO, ih]; cases o.dst <;> rfl
theorem tidyO_nil : tidyO [] st = true := by simp only [tidyO]
theorem tidyO_some : tidyO (⟨some d, op, g⟩ :: os) st = (data (st.at d) && tidyO os st) := by simp only [tidyO]
theorem tidyO_none : tidyO (⟨none, op, g⟩ :: os) st = tidyO os st := by simp only [tidyO, Bool.true_and]
theorem incr_nil : incr ([] : List (Nat × V)) = true := by simp only [incr]
theorem incr_one : incr [(k, u)] = true := by simp only [incr]
theorem incr_two : incr ((k, u) :: (k', v) :: l) = (decide (k < k') && incr ((k', v) :: l)) := by simp only [incr]
end
end Go.Vi
