import Derived.Test.YtomimhedehecdaaDoorViSound3
import Derived.RangeFuncCalls
import Derived.OrdersIn
import Derived.TacticsIn
import Derived.LoopNIn
import Derived.Test.YtomimhedehecdaaDoorViSound4
import Derived.RangeFuncLeaves
section
/- Regions in a round of a range over a function or not, with marks among the deferred calls. -/
namespace Go.Vi
variable {c : Ctx} {g : G} {st st1 : St} {a : Act} {w : World} {P : Program} {n : Nat} {ro : Option Nat} {ds : List Deferred} {ops : Array Oper} {Q Q' : Exit → Act → World → Prop}

/-- The wide fence, in a round or not. -/
def FW (ro : Option Nat) : Fence := { fn := fun _ => True, depth := none, alive := false, round := ro }

theorem calls_in {f : FuncId} {args : Array Value} {R : Ending → World → Prop} (h : Calls P f args w R) : CallsIn (FW ro) n P f args w R := by
  cases ro with
  | none => exact callsIn_wide.2 h
  | some l => exact (callsIn_wide.2 h).inRound l

theorem rows_in {row : String} {args : Array Value} {R : Value → World → Prop} (h : Rows P row args w R) : RowsIn (FW ro) n P row args w R :=
  fun f cs _ => let ⟨v, w', r, s⟩ := h f cs; ⟨v, w', r, stepsIn_wide.2 s⟩

/-- More deferred calls. -/
def dd (a : Act) (ds : List Deferred) : Act := { a with defers := a.defers ++ ds }

theorem dd_put (a : Act) (d : Option Nat) (v : Value) : (dd a ds).put d v = dd (a.put d v) ds := by cases d <;> rfl
theorem dd_tmps (a : Act) : (dd a ds).tmps = a.tmps := rfl
theorem dd_eval (a : Act) : (dd a ds).eval = a.eval := rfl

/-- Nothing is asked of a panic. -/
structure NoBad (Q : Exit → Act → World → Prop) : Prop where
  p : ∀ ch a w, ¬ Q (.panic ch) a w
  o : ∀ a w, ¬ Q .outgrown a w

theorem oper_in {o : Oper} {K K' : Act → World → Prop} (hnd : ∀ c, o.op ≠ .defer c) (hb : NoBad Q)
    (hK : ∀ v dl w, K (({ a with defers := dl } : Act).put o.dst v) w → K' (dd (({ a with defers := dl } : Act).put o.dst v) ds) w) (h : o.wp P a w K Q) : o.wpIn (FW ro) n P (dd a ds) w K' Q' := by
  refine ⟨fun _ _ => trivial, ?_⟩
  rw [dd_eval, Oper.semAt_eq _ _ _ hnd]
  unfold Oper.wp at h
  generalize (execOp a.eval o).run P w = r at h ⊢
  cases r with
  | ok x w' =>
    cases x <;> simp only [Oper.upon, Oper.uponIn] at h ⊢
    case value v => rw [dd_put]; exact hK v a.defers _ h
    case skip => rw [dd_put]; exact hK undef a.defers _ h
    case defer d =>
      have := hK undef (d :: a.defers) _ h
      rw [← dd_put] at this
      exact this
    case enter f args =>
      refine ⟨(fun h => by simp [FW] at h), (calls_in h).mono ?_⟩
      rintro e w'' he
      cases e with
      | returned v => simp only at he ⊢; rw [dd_put]; exact hK v a.defers _ he
      | panicked ch => exact absurd he (hb.p _ _ _)
      | outgrown => obtain ⟨a1, w1, h1⟩ := he; exact absurd h1 (hb.o _ _)
    case row r args =>
      refine ⟨(fun h => by simp [FW] at h), (rows_in h).mono ?_⟩
      intro v w'' he
      rw [dd_put]; exact hK v a.defers _ he
  | halt x w' =>
    cases x <;> simp only [Oper.upon, Oper.uponIn] at h ⊢
    case panic v => exact absurd h (hb.p _ _ _)

/-- The slots that may be written. -/
def agree (wr : Nat → Bool) (a0 a : Act) : Prop := ∀ t, wr t = false → a.tmps.getD t Go.undef = a0.tmps.getD t Go.undef

theorem agree_put {wr : Nat → Bool} {a0 : Act} (h : agree wr a0 a) {d : Option Nat} (hd : ∀ t, d = some t → wr t = true) (v : Value) (dl : List Deferred) : agree wr a0 (({ a with defers := dl } : Act).put d v) := by
  intro t ht
  cases d with
  | none => exact h t ht
  | some d =>
    have hne : d ≠ t := fun e => by rw [← e, hd d rfl] at ht; cases ht
    rw [← h t ht]
    simp [Act.put, Array.getD_eq_getD_getElem?, Array.getElem?_setIfInBounds_ne hne]

/-- Operations that may stand in a round, and write only where they may. -/
def opRd (wr : Nat → Bool) (o : Oper) : Bool := (match o.op with | .defer _ => false | _ => true) && (match o.dst with | some d => wr d | none => true)

theorem opRd_nd {wr : Nat → Bool} {o : Oper} (h : opRd wr o = true) : ∀ c, o.op ≠ .defer c := by
  intro c e
  unfold opRd at h
  rw [e] at h
  simp at h

theorem opRd_dst {wr : Nat → Bool} {o : Oper} (h : opRd wr o = true) : ∀ t, o.dst = some t → wr t = true := by
  intro t e
  unfold opRd at h
  rw [e] at h
  simp only [Bool.and_eq_true] at h
  exact h.2

theorem list_in {wr : Nat → Bool} {a0 : Act} {rest : List Oper} (hb : NoBad Q) (hQ : ∀ a w, Q .normal a w → agree wr a0 a → wpListIn (FW ro) n P ops Q' rest (dd a ds) w) :
    ∀ (os : List Oper) (a : Act) (w : World), (∀ o ∈ os, opRd wr o = true) → agree wr a0 a → wpList P ops Q os a w → wpListIn (FW ro) n P ops Q' (os ++ rest) (dd a ds) w
  | [], a, w, _, ha, h => hQ a w h ha
  | o :: os, a, w, ho, ha, h => by
    have h1 := ho o (by simp)
    unfold wpList at h
    rw [List.cons_append]
    unfold wpListIn
    rw [dd_tmps]
    split at h
    · rename_i hw
      rw [if_pos hw]
      rcases h with h | ⟨_, a1, w1, hl⟩
      · exact oper_in (opRd_nd h1) hb (fun v dl w hk => list_in hb hQ os _ w (fun o' ho' => ho o' (List.mem_cons_of_mem _ ho')) (agree_put ha (opRd_dst h1) v dl) hk) h
      · exact absurd hl (hb.o _ _)
    · rename_i hw
      rw [if_neg hw]
      refine ⟨fun _ _ => trivial, ?_⟩
      rw [dd_put]
      exact list_in hb hQ os _ w (fun o' ho' => ho o' (List.mem_cons_of_mem _ ho')) (agree_put (dl := a.defers) ha (opRd_dst h1) undef) h

theorem any_in {wr : Nat → Bool} {a0 : Act} {md : Region.Mode} (hops : ∀ o ∈ ops.toList, opRd wr o = true) (hb : NoBad Q) (hQ : ∀ a w, Q .normal a w → agree wr a0 a → Q' .normal (dd a ds) w) :
    ∀ (fuel : Nat) (listed : Array Bool) (a : Act) (w : World), agree wr a0 a → wpAny P md ops Q fuel listed a w → wpAnyIn (FW ro) n P md ops Q' fuel listed (dd a ds) w
  | 0, listed, a, w, ha, h => ⟨h.1, hQ a w h.2 ha⟩
  | fuel + 1, listed, a, w, ha, h => by
    refine ⟨fun h0 => hQ a w (h.1 h0) ha, fun i hi => ?_⟩
    have h1 := h.2 i hi
    unfold wpOp at h1
    unfold wpOpIn
    split at h1
    · rename_i ho
      simp only [ho]
      exact any_in hops hb hQ fuel _ a w ha h1
    · rename_i o ho
      have hm := hops o (by simpa using List.mem_of_getElem? (l := ops.toList) (i := i) (by simpa using ho))
      simp only [ho]
      rw [dd_tmps]
      split at h1
      · rename_i hw
        rw [if_pos hw]
        rcases h1 with h1 | ⟨_, a1, w1, hl⟩
        · exact oper_in (opRd_nd hm) hb (fun v dl w hk => any_in hops hb hQ fuel _ _ w (agree_put ha (opRd_dst hm) v dl) hk) h1
        · exact absurd hl (hb.o _ _)
      · rename_i hw
        rw [if_neg hw]
        refine ⟨fun _ _ => trivial, ?_⟩
        rw [dd_put]
        exact any_in hops hb hQ fuel _ _ w (agree_put (dl := a.defers) ha (opRd_dst hm) undef) h1

/-- What a region leaves. -/
def QF (c : Ctx) (st1 : St) : Exit → Act → World → Prop := fun e a w => e = .normal ∧ ∃ g, FInv c g st1 a w

theorem QF_ok (c : Ctx) (st1 : St) : NoBad (QF c st1) := ⟨(fun _ _ _ h => by cases h.1), (fun _ _ h => by cases h.1)⟩

theorem reg_in {wr : Nat → Bool} {a0 : Act} {id : Nat} {draw : Bool} {ms : List MO} {call : FuncId → List V → Option V} (hcall : ∀ f args r, call f args = some r → Good c.P c.gl f args r ∧ Entry c.P f)
    (hok : regOK c.P c.gl c.nt draw ops ms = true) (hops : ∀ o ∈ ops.toList, opRd wr o = true) (ha : agree wr a0 a) (h : FInv c g st a w) (ht : (!draw || tidy ms st) = true) (hv : steps call ms st = some st1)
    (hQ : ∀ g a w, FInv c g st1 a w → agree wr a0 a → Q' .normal (dd a ds) w) : (Code.region id ops draw).wpIn (FW ro) n c.P Q' (dd a ds) w := by
  simp only [regOK, Bool.and_eq_true] at hok
  have hk : ∀ a w, QF c st1 .normal a w → agree wr a0 a → Q' .normal (dd a ds) w := fun a w hq ha => by
    obtain ⟨-, g, hi⟩ := hq
    exact hQ g a w hi ha
  cases draw with
  | false =>
    refine wpIn_region_list ?_
    have := list_in (Q := QF c st1) (Q' := Q') (ro := ro) (n := n) (ds := ds) (rest := []) (QF_ok c st1) (fun a w hq ha => hk a w hq ha) ops.toList a w hops ha (ops_wp hcall _ _ g st a w hok.1 h hv fun g a w hi => ⟨rfl, g, hi⟩)
    rwa [List.append_nil] at this
  | true =>
    simp only [Bool.not_true, Bool.false_or, Bool.and_eq_true] at hok ht
    refine wpIn_region_any hok.2.1 ?_
    exact any_in hops (QF_ok c st1) hk _ _ a _ ha (draw_wp hcall hok.1 hok.2.2 h.drew ht hv fun g a w hi => ⟨rfl, g, hi⟩)

/-! ### calls through a gate: numbers beyond it stand for iterators -/
def gated (call : FuncId → List V → Option V) : FuncId → List V → Option V := fun f args => if f < 1000000 then call f args else none

def gateOK (ms : List MO) : Bool := ms.all fun m => match m.op with
  | .call f _ => decide (f < 1000000)
  | _ => true

theorem exec_gate {call : FuncId → List V → Option V} {op : MOp} (h : (match op with | .call f _ => decide (f < 1000000) | _ => true) = true) (st : St) : exec (gated call) op st = exec call op st := by
  cases op
  case call f args =>
    have hf : f < 1000000 := by simpa using h
    simp only [exec, gated, if_pos hf]
  case callv f args =>
    simp only [exec]
    split
    · split
      · rename_i hc
        simp only [gated, if_pos hc.1]
      · rfl
    · rfl
  all_goals rfl

theorem steps_gate {call : FuncId → List V → Option V} : ∀ (ms : List MO) (st : St), gateOK ms = true → steps (gated call) ms st = steps call ms st
  | [], _, _ => rfl
  | m :: ms, st, h => by
    simp only [gateOK, List.all_cons, Bool.and_eq_true] at h
    have h1 : step (gated call) m st = step call m st := by
      have he := fun st => exec_gate (call := call) h.1 st
      unfold step
      split
      · rfl
      · rfl
      · unfold stepG
        simp only [he]
    simp only [steps, h1]
    congr 1
    funext s
    exact steps_gate ms s h.2

end Go.Vi
end
section
/- What a stretch of a run leaves as it was; a context taken anew. -/
namespace Go.Vi
variable {c : Ctx} {g : G} {st st1 : St} {a : Act} {w : World}

def own (g : G) (b : Nat) : Prop := (∃ t, b ∈ g.O t) ∨ ∃ d, b ∈ g.OB d

/-- All that a function owns now. -/
def owned (g : G) (st : St) : List Nat := (st.tm.map (·.1)).flatMap g.O ++ (st.bx.map (·.1)).flatMap g.OB

theorem mem_owned (h : FInv c g st a w) {b : Nat} : b ∈ owned g st ↔ own g b := by
  unfold owned own
  simp only [List.mem_append, List.mem_flatMap, List.mem_map]
  constructor
  · rintro (⟨t, -, hb⟩ | ⟨d, -, hb⟩)
    · exact .inl ⟨t, hb⟩
    · exact .inr ⟨d, hb⟩
  · rintro (⟨t, hb⟩ | ⟨d, hb⟩)
    · left
      refine ⟨t, ?_, hb⟩
      cases hg : get st.tm t with
      | none => rw [h.tmn t hg] at hb; cases hb
      | some v => exact ⟨(t, v), get_mem hg, rfl⟩
    · right
      refine ⟨d, ?_, hb⟩
      cases hg : get st.bx d with
      | none => rw [h.bxn d hg] at hb; cases hb
      | some v => exact ⟨(d, v), get_mem hg, rfl⟩

theorem own_fr (h : FInv c g st a w) {b : Nat} (hb : own g b) : (c.B ≤ b ∨ b ∈ c.Mv) ∧ b < w.heap.size := by
  rcases hb with ⟨t, hb⟩ | ⟨d, hb⟩
  · exact h.fO t b hb
  · exact h.fB d b hb

/-- The same context with other bounds. -/
def cx (c : Ctx) (B : Nat) (Mv : List Nat) (w0 : World) (S0 : Stab) : Ctx := { c with B := B, Mv := Mv, w0 := w0, S0 := S0 }

/-- The context as of now. -/
def reb (c : Ctx) (g : G) (st : St) (w : World) : Ctx := cx c w.heap.size (owned g st) w g.S

theorem reb_inv (h : FInv c g st a w) : FInv (reb c g st w) g st a w where
  size := h.size
  defers := h.defers
  tm := h.tm
  tmn := h.tmn
  bxf := h.bxf
  bxt := h.bxt
  bxn := h.bxn
  dOO := h.dOO
  dBB := h.dBB
  dOB := h.dOB
  nO := h.nO
  nB := h.nB
  fO t b hb := ⟨.inr ((mem_owned h).2 (.inl ⟨t, hb⟩)), (h.fO t b hb).2⟩
  fB d b hb := ⟨.inr ((mem_owned h).2 (.inr ⟨d, hb⟩)), (h.fB d b hb).2⟩
  hB := Nat.le_refl _
  upd := Upd.refl _ _ _
  keep := Keep.refl _ _
  sub := fun _ _ h => h
  new := fun _ _ h => .inl h
  lt := h.lt
  gl := fun x cs hx => (h.gl x cs hx).keep0 h.keep h.sub

theorem reb_back (h : FInv c g st a w) {g' : G} {st' : St} {a' : Act} {w' : World} (h' : FInv (reb c g st w) g' st' a' w') : FInv c g' st' a' w' where
  size := h'.size
  defers := h'.defers
  tm := h'.tm
  tmn := h'.tmn
  bxf := h'.bxf
  bxt := h'.bxt
  bxn := h'.bxn
  dOO := h'.dOO
  dBB := h'.dBB
  dOB := h'.dOB
  nO := h'.nO
  nB := h'.nB
  fO t b hb := by
    obtain ⟨h1, h2⟩ := h'.fO t b hb
    refine ⟨?_, h2⟩
    rcases h1 with h1 | h1
    · exact .inl (Nat.le_trans h.hB h1)
    · exact (own_fr h ((mem_owned h).1 h1)).1
  fB d b hb := by
    obtain ⟨h1, h2⟩ := h'.fB d b hb
    refine ⟨?_, h2⟩
    rcases h1 with h1 | h1
    · exact .inl (Nat.le_trans h.hB h1)
    · exact (own_fr h ((mem_owned h).1 h1)).1
  hB := Nat.le_trans h.hB h'.hB
  upd := ⟨h'.upd.os.trans h.upd.os, h'.upd.tape.trans h.upd.tape, h'.upd.output.trans h.upd.output, Nat.le_trans h.upd.size h'.upd.size, fun b hb hm =>
    (h'.upd.block b (Nat.lt_of_lt_of_le hb h.hB) fun h1 => by
      rcases (own_fr h ((mem_owned h).1 h1)).1 with h2 | h2
      · omega
      · exact hm h2).trans (h.upd.block b hb hm)⟩
  keep := h.keep.trans (h'.keep.less h.sub)
  sub := fun b k hs => h'.sub b k (h.sub b k hs)
  new := fun b k hs => by
    rcases h'.new b k hs with h1 | h1 | h1
    · exact h.new b k h1
    · exact .inr (.inl (Nat.le_trans h.hB h1))
    · exact .inr (own_fr h ((mem_owned h).1 h1)).1
  lt := h'.lt
  gl := h.gl

/-- From one moment to another: only what was owned then is written (and block l); what is owned or stays is from then, or new. -/
structure Since (l : Nat) (g0 : G) (w0 : World) (g : G) (w : World) : Prop where
  os : w.os = w0.os
  tape : w.tape = w0.tape
  output : w.output = w0.output
  size : w0.heap.size ≤ w.heap.size
  blk : ∀ b, b < w0.heap.size → ¬ own g0 b → b ≠ l → w.heap[b]? = w0.heap[b]?
  keep : Keep g0.S w0 w
  sub : ∀ b k, g0.S b k → g.S b k
  ownB : ∀ b, own g b → own g0 b ∨ w0.heap.size ≤ b
  newS : ∀ b k, g.S b k → g0.S b k ∨ w0.heap.size ≤ b ∨ own g0 b

theorem Since.refl (l : Nat) (g : G) (w : World) : Since l g w g w := ⟨rfl, rfl, rfl, Nat.le_refl _, fun _ _ _ _ => rfl, Keep.refl _ _, fun _ _ h => h, fun _ h => .inl h, fun _ _ h => .inl h⟩

theorem Since.trans {l : Nat} {g0 g1 g2 : G} {w0 w1 w2 : World} (h : Since l g0 w0 g1 w1) (h' : Since l g1 w1 g2 w2) : Since l g0 w0 g2 w2 where
  os := h'.os.trans h.os
  tape := h'.tape.trans h.tape
  output := h'.output.trans h.output
  size := Nat.le_trans h.size h'.size
  blk b hb ho hl := (h'.blk b (Nat.lt_of_lt_of_le hb h.size) (fun h1 => by
    rcases h.ownB b h1 with h2 | h2
    · exact ho h2
    · omega) hl).trans (h.blk b hb ho hl)
  keep := h.keep.trans (h'.keep.less h.sub)
  sub b k hs := h'.sub b k (h.sub b k hs)
  ownB b hb := by
    rcases h'.ownB b hb with h1 | h1
    · exact h.ownB b h1
    · exact .inr (Nat.le_trans h.size h1)
  newS b k hs := by
    rcases h'.newS b k hs with h1 | h1 | h1
    · exact h.newS b k h1
    · exact .inr (.inl (Nat.le_trans h.size h1))
    · rcases h.ownB b h1 with h2 | h2
      · exact .inr (.inr h2)
      · exact .inr (.inl h2)

theorem since_reb (l : Nat) (h : FInv c g st a w) {g' : G} {st' : St} {a' : Act} {w' : World} (h' : FInv (reb c g st w) g' st' a' w') : Since l g w g' w' where
  os := h'.upd.os
  tape := h'.upd.tape
  output := h'.upd.output
  size := h'.upd.size
  blk b hb ho _ := h'.upd.block b hb fun h1 => ho ((mem_owned h).1 h1)
  keep := h'.keep
  sub := h'.sub
  ownB b hb := by
    rcases (own_fr h' hb).1 with h1 | h1
    · exact .inr h1
    · exact .inl ((mem_owned h).1 h1)
  newS b k hs := by
    rcases h'.new b k hs with h1 | h1 | h1
    · exact .inl h1
    · exact .inr (.inl h1)
    · exact .inr (.inr ((mem_owned h).1 h1))

/-- Another one's steps. -/
structure Fgn (T : Nat → Prop) (w w' : World) : Prop where
  os : w'.os = w.os
  tape : w'.tape = w.tape
  output : w'.output = w.output
  size : w.heap.size ≤ w'.heap.size
  block : ∀ b, b < w.heap.size → ¬ T b → w'.heap[b]? = w.heap[b]?

def grow (T : Nat → Prop) (w w' : World) (b : Nat) : Prop := T b ∨ (w.heap.size ≤ b ∧ b < w'.heap.size)

/-- What bears another one's steps. -/
def KS (K : (Nat → Prop) → V → World → Prop) : Prop := ∀ T r w w', K T r w → Fgn T w w' → K (grow T w w') r w'

/-- A territory: all that a function owns or that stays by it lies there. -/
structure Terr (c : Ctx) (T : Nat → Prop) (g : G) (w : World) : Prop where
  o : ∀ b, own g b → T b
  s : ∀ b k, g.S b k → c.S0 b k ∨ T b
  lt : ∀ b, T b → b < w.heap.size

theorem Since.terr {T : Nat → Prop} {l : Nat} {g' : G} {w' : World} (ht : Terr c T g w) (hs : Since l g w g' w') (hlt : ∀ b k, g'.S b k → b < w'.heap.size) (hlo : ∀ b, own g' b → b < w'.heap.size) : Terr c (grow T w w') g' w' where
  o b hb := by
    rcases hs.ownB b hb with h1 | h1
    · exact .inl (ht.o b h1)
    · exact .inr ⟨h1, hlo b hb⟩
  s b k hb := by
    rcases hs.newS b k hb with h1 | h1 | h1
    · exact (ht.s b k h1).imp_right .inl
    · exact .inr (.inr ⟨h1, hlt b k hb⟩)
    · exact .inr (.inl (ht.o b h1))
  lt b hb := by
    rcases hb with h1 | h1
    · exact Nat.lt_of_lt_of_le (ht.lt b h1) hs.size
    · exact h1.2

theorem Since.fgn {T : Nat → Prop} {g' : G} {w' : World} (ht : Terr c T g w) (hs : Since w.heap.size g w g' w') : Fgn T w w' :=
  ⟨hs.os, hs.tape, hs.output, hs.size, fun b hb h1 => hs.blk b hb (fun h2 => h1 (ht.o b h2)) (by omega)⟩

def mark (D : Nat) : Deferred := { target := .collected D, args := #[] }
def marks (Ds : List Nat) : List Deferred := Ds.map mark

/-- What is known while a function runs: with the marks of the ranges over functions that are behind it. -/
structure Inv2 (c : Ctx) (nm : Bool) (T : Nat → Prop) (g : G) (st : St) (a : Act) (Ds : List Nat) (w : World) : Prop where
  ex : ∃ B Mv w0 S0, (nm = true → cx c B Mv w0 S0 = c) ∧ (∀ g s a w, FInv (cx c B Mv w0 S0) g s a w → FInv c g s a w) ∧ FInv (cx c B Mv w0 S0) g st a w ∧
    ∀ D ∈ Ds, c.B ≤ D ∧ D < B ∧ D ∉ Mv ∧ (∀ k, ¬ S0 D k) ∧ w.heap[D]? = some (.deferred (some []))
  nd : Ds.Nodup
  yd : nm = true → Ds = []
  terr : Terr c T g w

theorem Inv2.inv {nm : Bool} {T : Nat → Prop} {Ds : List Nat} (h : Inv2 c nm T g st a Ds w) : FInv c g st a w := by
  obtain ⟨B, Mv, w0, S0, -, h1, h2, -⟩ := h.ex
  exact h1 _ _ _ _ h2

/-- A stretch in a context taken anew. -/
theorem Inv2.go {nm : Bool} {T : Nat → Prop} {Ds : List Nat} (h : Inv2 c nm T g st a Ds w) : ∃ B Mv w0 S0, FInv (cx c B Mv w0 S0) g st a w ∧ FInv (reb (cx c B Mv w0 S0) g st w) g st a w ∧
    ∀ (K : (Nat → Prop) → V → World → Prop), KS K → ∀ (g' : G) (st' : St) (a' : Act) (w' : World), FInv (reb (cx c B Mv w0 S0) g st w) g' st' a' w' → ∃ T', Inv2 c nm T' g' st' a' Ds w' ∧ ∀ r, K T r w → K T' r w' := by
  obtain ⟨B, Mv, w0, S0, h0, h1, h2, h3⟩ := h.ex
  refine ⟨B, Mv, w0, S0, h2, reb_inv h2, fun K hK g' st' a' w' h' => ?_⟩
  have hs := since_reb w.heap.size h2 h'
  refine ⟨grow T w w', ⟨⟨B, Mv, w0, S0, h0, h1, reb_back h2 h', fun D hD => ?_⟩, h.nd, h.yd, hs.terr h.terr h'.lt fun b hb => (own_fr h' hb).2⟩, fun r hr => hK T r w w' hr (hs.fgn h.terr)⟩
  obtain ⟨d1, d2, d3, d4, d5⟩ := h3 D hD
  have hlt : D < w.heap.size := (Array.getElem?_eq_some_iff.1 d5).1
  refine ⟨d1, d2, d3, d4, (hs.blk D hlt (fun ho => ?_) (by omega)).trans d5⟩
  rcases (own_fr h2 ho).1 with h4 | h4
  · exact absurd d2 (Nat.not_lt.2 h4)
  · exact d3 h4

end Go.Vi
end
section
/- Code, with an iterator's yields. -/
namespace Go.Vi
variable {c : Ctx} {g : G} {st st1 : St} {a : Act} {w : World}

/-- What a function is trusted for: an ordinary one, or (beyond the gate) an iterator. -/
def pureR : V → Value
  | .bool b => .bool b
  | .int k n => .int k n
  | .str s => .string s
  | _ => Go.undef
def realV : V → Value
  | .agg cs => .agg (cs.map pureR).toArray
  | v => pureR v

theorem pure1_real {S : Stab} {v : V} {r : Value} {o : List Nat} (h : Rel w S v r o) (hp : pure1 v = true) : r = pureR v := by
  cases h <;> first | rfl | cases hp

theorem pure_real {S : Stab} {v : V} {r : Value} {o : List Nat} (h : Rel w S v r o) (hp : pureV v = true) : r = realV v := by
  cases v with
  | agg cs =>
    cases h with
    | agg _ vs hl hc =>
      simp only [realV]
      congr 1
      apply Array.toList_inj.1
      simp only
      refine List.ext_getElem? fun i => ?_
      by_cases hi : i < cs.length
      · have h1 : cs[i]? = some cs[i] := List.getElem?_eq_getElem hi
        have h2 : vs[i]? = some (vs[i]'(by omega)) := Array.getElem?_eq_getElem (by omega)
        have h3 := hc i _ _ h1 h2
        have h4 : pure1 cs[i] = true := by
          simp only [pureV, List.all_eq_true] at hp
          exact hp _ (List.getElem_mem hi)
        rw [List.getElem?_map, h1, Array.getElem?_toList, h2, pure1_real h3 h4]; rfl
      · rw [List.getElem?_eq_none (by simp; omega), List.getElem?_eq_none (by simp; omega)]
  | _ => exact pure1_real h hp

theorem real_pure1 (S : Stab) {v : V} (hp : pure1 v = true) : Rel w S v (pureR v) [] := by
  cases v <;> first | exact .bool _ | exact .int _ _ | exact .str _ | cases hp

theorem real_pure (S : Stab) {v : V} (hp : pureV v = true) : Rel w S v (realV v) [] := by
  cases v with
  | agg cs =>
    refine .agg cs _ (by simp) fun i c v h1 h2 => ?_
    simp only [List.getElem?_toArray, List.getElem?_map, h1, Option.map_some, Option.some.injEq] at h2
    subst h2
    simp only [pureV, List.all_eq_true] at hp
    exact real_pure1 S (hp _ (List.mem_of_getElem? h1))
  | _ => exact real_pure1 S hp

/-- A call of a yield function with these values: what it leaves, by what it says. -/
def YieldsOK (P : Program) (fv : Value) (ra : Array Value) (w : World) (R : Bool → World → Prop) : Prop :=
  ∀ (o : Oper) (a : Act) (F : Operand) (Xs : Array Operand) (ts : Array TypeId) (next : Act → World → Prop) (Q : Exit → Act → World → Prop), o.op = .call { callee := .value F, args := Xs, argTypes := ts } → a.eval F = fv → Xs.map a.eval = ra →
    (∀ b w', R b w' → next (a.put o.dst (.bool b)) w') → o.wpIn (FW none) 0 P a w next Q

/-- What a round leaves as it was, for the iterator. -/
structure FrB (B : Nat) (Mv : List Nat) (S0 : Stab) (T : Nat → Prop) (w w' : World) : Prop where
  os : w'.os = w.os
  tape : w'.tape = w.tape
  output : w'.output = w.output
  size : w.heap.size ≤ w'.heap.size
  blk : ∀ b, b < B → b ∉ Mv → w'.heap[b]? = w.heap[b]?
  tb : ∀ b, T b → w'.heap[b]? = w.heap[b]?
  keep : Keep S0 w w'

/-- What an iterator gives: it hands on these values, one after another, as long as it is told to go on. -/
def GoodG (P : Program) (gl : List (Nat × List V)) (f : FuncId) (caps : List V) (r : V) : Prop :=
  ∀ (fv : Value) (w : World) (S : Stab) (rs : List Value) (Mv : List Nat) (K : (Nat → Prop) → V → World → Prop), ArgsRel w S caps rs (caps.map fun _ => []) → (∀ b k, S b k → b < w.heap.size) →
    (∀ x cs, (x, cs) ∈ gl → Rel w S (.ptr cs 0) (.pointer (some ⟨x, 0, none⟩)) []) → KS K →
    (∀ T x l w1, (∀ v ∈ x, pureV v = true) → K T (.tup (.tup x :: l)) w1 → YieldsOK P fv (x.map realV).toArray w1 fun b w' => FrB w.heap.size Mv S T w1 w' ∧ (if b then K T (.tup l) w' else K T (.tup []) w')) →
    K (fun _ => False) r w → Calls P f (fv :: rs).toArray w fun e w' => (∃ v, e = .returned v) ∧ ∃ T, K T (.tup []) w'

def Good2 (P : Program) (gl : List (Nat × List V)) (f : FuncId) (args : List V) (r : V) : Prop :=
  (f < 1000000 → Good P gl f args r ∧ Entry P f) ∧ (1000000 ≤ f → GoodG P gl (f - 1000000) args r ∧ Entry P (f - 1000000))

theorem good2_gated {P : Program} {gl : List (Nat × List V)} {call : FuncId → List V → Option V} (h : ∀ f args r, call f args = some r → Good2 P gl f args r) : ∀ f args r, gated call f args = some r → Good P gl f args r ∧ Entry P f := by
  intro f args r hr
  unfold gated at hr
  split at hr
  · rename_i hf; exact (h _ _ _ hr).1 hf
  · cases hr

/-! ### checks -/
def regOK2 (P : Program) (gl : List (Nat × List V)) (nt : Nat) (wr : Nat → Bool) (draw : Bool) (ops : Array Oper) (ms : List MO) : Bool := regOK P gl nt draw ops ms && gateOK ms && ops.toList.all (opRd wr)

def yldOK (P : Program) (gl : List (Nat × List V)) (nt : Nat) (wr : Nat → Bool) (ops : Array Oper) (pre : List MO) (f : A) (xs : List A) (d : Nat) (post : List MO) : Bool :=
  match ops.toList.drop pre.length with
  | o :: os => opsOK P gl nt ops (ops.toList.take pre.length) pre && opsOK P gl nt ops os post && gateOK pre && gateOK post && ops.toList.all (opRd wr) &&
      (match o.op with | .call { callee := .value F, args := Xs, .. } => opndOK gl f F && plainA f && opndsOK gl xs Xs.toList && xs.all plainA | _ => false) && o.dst == some d && decide (d < nt) && o.guard.isNone && !wr 0
  | [] => false

/-- The small code against the real one, with yields and ranges over functions. -/
def codeOK2 (P : Program) (gl : List (Nat × List V)) (nt : Nat) : Bool → Bool → (Nat → Bool) → Nat → M → Code → Bool
  | _, _, _, 0, _, _ => false
  | yl, rg, wr, n + 1, m, x => match m with
    | .seq p q =>
      if pseudo nt p then codeOK2 P gl nt yl rg wr n q x else if pseudo nt q then codeOK2 P gl nt yl rg wr n p x else match x with
        | .seq .skip y => codeOK2 P gl nt yl rg wr n m y
        | .seq y .skip => codeOK2 P gl nt yl rg wr n m y
        | .seq y z => codeOK2 P gl nt yl rg wr n p y && codeOK2 P gl nt yl rg wr n q z
        | _ => false
    | _ => match x with
      | .seq .skip y => codeOK2 P gl nt yl rg wr n m y
      | .seq y .skip => codeOK2 P gl nt yl rg wr n m y
      | .skip => (match m with | .skip => true | _ => pseudo nt m)
      | .region _ ops draw => (match m with
        | .reg draw' ms => draw == draw' && regOK2 P gl nt wr draw ops ms
        | .nxt d t ms => !draw && nxtOK P gl nt d t ops ms && gateOK ms && ops.toList.all (opRd wr)
        | .yld pre f xs d post => yl && !draw && yldOK P gl nt wr ops pre f xs d post
        | _ => false)
      | .cond C y z => (match m with | .cond b p q => opndOK gl b C && plainA b && codeOK2 P gl nt yl rg wr n p y && codeOK2 P gl nt yl rg wr n q z | _ => false)
      | .block id y => (match m with | .block id' p => id == id' && codeOK2 P gl nt yl rg wr n p y | _ => false)
      | .loop y => (match m with | .loop p => codeOK2 P gl nt yl rg wr n p y | _ => false)
      | .exit id => (match m with | .exit id' => id == id' | _ => false)
      | .ret => (match m with | .ret => true | _ => false)
      | .rangeFunc F ps as body => (match m with
        | .rngf f qs wl as' body' => rg && opndOK gl f F && plainA f && decide (ps.toList = qs) && qs.all (fun p => decide (p < nt)) &&
            codeOK2 P gl nt false false (fun t => wl.contains t || qs.contains t) n as' as && codeOK2 P gl nt false false (fun t => wl.contains t || qs.contains t) n body' body
        | _ => false)
      | _ => false

/-- What is asked of the places that control goes to. -/
def Goes2 (c : Ctx) (nm : Bool) (K : (Nat → Prop) → V → World → Prop) (wr : Nat → Bool) (a0 : Act) (k : Ex → St → Option V) (Q : Exit → Act → World → Prop) : Prop :=
  ∀ r e s, k e s = some r → ∀ T g a Ds w, Inv2 c nm T g s a Ds w → K T r w → agree wr a0 a → Q e.real (dd a (marks Ds)) w

theorem yld_in {call : FuncId → List V → Option V} {K : (Nat → Prop) → V → World → Prop} {wr : Nat → Bool} {a0 : Act} {fv : Value} (hcall : ∀ f args r, call f args = some r → Good2 c.P c.gl f args r) (hK : KS K) (hfv : a0.tmps.getD 0 Go.undef = fv)
    (hY : ∀ T x l w1, (∀ v ∈ x, pureV v = true) → K T (.tup (.tup x :: l)) w1 → YieldsOK c.P fv (x.map realV).toArray w1 fun b w' => FrB c.B c.Mv c.S0 T w1 w' ∧ (if b then K T (.tup l) w' else K T (.tup []) w'))
    {ops : Array Oper} {pre : List MO} {f : A} {xs : List A} {d : Nat} {post : List MO} {id : Nat} {k : Ex → St → Option V} {Q : Exit → Act → World → Prop} {T : Nat → Prop} {Ds : List Nat} {r : V}
    (hok : yldOK c.P c.gl c.nt wr ops pre f xs d post = true) (hr : run call (.yld pre f xs d post) st k = some r) (h : Inv2 c true T g st a Ds w) (hk : K T r w) (ha : agree wr a0 a) (hQ : Goes2 c true K wr a0 k Q) :
    (Code.region id ops false).wpIn (FW none) 0 c.P Q (dd a (marks Ds)) w := by
  have hg := good2_gated hcall
  unfold yldOK at hok
  split at hok
  · rename_i o os hdrop
    simp only [Bool.and_eq_true, beq_iff_eq, decide_eq_true_eq, Option.isNone_iff_eq_none, Bool.not_eq_true'] at hok
    obtain ⟨⟨⟨⟨⟨⟨⟨⟨⟨o1, o2⟩, o3⟩, o4⟩, o5⟩, o6⟩, o7⟩, o8⟩, o9⟩, o10⟩ := hok
    have hall : ∀ o ∈ ops.toList, opRd wr o = true := List.all_eq_true.1 o5
    have hsplit : ops.toList = ops.toList.take pre.length ++ (o :: os) := by rw [← hdrop, List.take_append_drop]
    simp only [run, Option.bind_eq_some_iff] at hr
    obtain ⟨s1, hs1, hr⟩ := hr
    split at hr
    · rename_i u v hu hv
      split at hr
      · rename_i hc
        obtain ⟨rfl, hpure⟩ := hc
        split at hr
        · rename_i l h1 h2
          cases hr
          refine wpIn_region_list ?_
          rw [hsplit]
          obtain ⟨B, Mv, w0, S0, -, g3, hgo⟩ := h.go
          have hpre := ops_wp (c := reb (cx c B Mv w0 S0) g st w) (ops := ops) (Q := QF (reb (cx c B Mv w0 S0) g st w) s1) hg _ _ g st a w o1 g3 (by rw [steps_gate _ _ o3]; exact hs1) fun g a w hi => ⟨rfl, g, hi⟩
          refine list_in (Q := QF (reb (cx c B Mv w0 S0) g st w) s1) (QF_ok _ _) (fun a1 w1 hq ha1 => ?_) _ a w (fun o ho => hall o (List.mem_of_mem_take ho)) ha hpre
          obtain ⟨-, g1, hi1⟩ := hq
          obtain ⟨T1, i1, hk1⟩ := hgo K hK g1 s1 a1 w1 hi1
          have hkT := hk1 _ hk
          have inv1 := i1.inv
          unfold wpListIn
          have hw : Region.wanted o (yielded ops (dd a1 (marks Ds)).tmps) = true := by simp [Region.wanted, o9]
          rw [if_pos hw]
          split at o6
          · rename_i F Xs ts hop
            simp only [Bool.and_eq_true, List.all_eq_true] at o6
            obtain ⟨⟨⟨f1, f2⟩, f3⟩, f4⟩ := o6
            -- the function, and the values
            have hF : (dd a1 (marks Ds)).eval F = fv := by
              rw [dd_eval]
              obtain ⟨ob, hr1⟩ := opndRaw inv1 f1 f2
              rw [hu] at hr1
              have e1 : a1.eval F = u := by
                generalize a1.eval F = z at hr1
                cases (show Rel w1 g1.S (.raw u) z ob from hr1); rfl
              have hr2 := inv1.at 0
              rw [hv] at hr2
              have e2 : a1.tmps.getD 0 Go.undef = u := by
                generalize a1.tmps.getD 0 Go.undef = z at hr2
                generalize g1.O 0 = oz at hr2
                cases (show Rel w1 g1.S (.raw u) z oz from hr2); rfl
              rw [e1, ← e2, ha1 0 o10, hfv]
            have hX : Xs.map (dd a1 (marks Ds)).eval = ((vals s1 xs).map realV).toArray := by
              rw [dd_eval]
              apply Array.toList_inj.1
              have key : ∀ (xs : List A) (Ys : List Operand), opndsOK c.gl xs Ys = true → (∀ x ∈ xs, plainA x = true) → (∀ y ∈ xs.map s1.val, pureV y = true) → Ys.map a1.eval = (xs.map s1.val).map realV := by
                intro xs
                induction xs with
                | nil => intro Ys hy _ _; cases Ys with
                  | nil => rfl
                  | cons => cases hy
                | cons x xs ih =>
                  intro Ys hy hp hpu
                  cases Ys with
                  | nil => cases hy
                  | cons Y Ys =>
                    simp only [opndsOK, Bool.and_eq_true] at hy
                    have hrel := opnd inv1 hy.1 (hp x (by simp))
                    have hpx := hpu (s1.val x) (by simp)
                    have hrl : Rel w1 g1.S (s1.val x) (a1.eval Y) [] := hrel.rel ⟨(fun d f e => by rw [e] at hpx; cases hpx), (fun t i f e => by rw [e] at hpx; cases hpx), (fun t e => by rw [e] at hpx; cases hpx)⟩
                    simp only [List.map_cons]
                    rw [pure_real hrl hpx, ih Ys hy.2 (fun x hx => hp x (List.mem_cons_of_mem _ hx)) fun y hy => hpu y (by simp only [List.map_cons, List.mem_cons]; exact .inr hy)]
              have := key xs Xs.toList f3 f4 (List.all_eq_true.1 hpure)
              simpa [vals] using this
            refine hY T1 _ l w1 (List.all_eq_true.1 hpure) hkT o (dd a1 (marks Ds)) F Xs ts _ _ hop hF hX fun b w2 hb => ?_
            obtain ⟨fr, hkb⟩ := hb
            rw [dd_put, o7]
            -- the slot says so
            have hi2 : FInv c g1 s1 a1 w2 := by
              have ht := i1.terr
              refine inv1.world w2 g1.S (fun b k hs => ?_) (fun _ _ h => h) (fun t b hb => ⟨fr.tb b (ht.o b (.inl ⟨t, hb⟩)), fun _ h => h⟩) (fun d b hb => ⟨fr.tb b (ht.o b (.inr ⟨d, hb⟩)), fun _ h => h⟩)
                ⟨fr.os, fr.tape, fr.output, fr.size, fr.blk⟩ (fun _ _ h => .inl h) fun b k hs => Nat.lt_of_lt_of_le (inv1.lt b k hs) fr.size
              rcases ht.s b k hs with h3 | h3
              · exact fr.keep b k h3
              · have e := fr.tb b h3
                exact ⟨cell_of_heap e k, fun es cl he => e.trans he⟩
            have i2 : Inv2 c true T1 g1 s1 a1 Ds w2 := by
              obtain ⟨B', Mv', w0', S0', e1, e2, e3, e4⟩ := i1.ex
              refine ⟨⟨B', Mv', w0', S0', e1, e2, by rw [e1 rfl]; exact hi2, fun D hD => ?_⟩, i1.nd, i1.yd, ⟨i1.terr.o, i1.terr.s, fun b hb => Nat.lt_of_lt_of_le (i1.terr.lt b hb) fr.size⟩⟩
              rw [i1.yd rfl] at hD; cases hD
            obtain ⟨B2, Mv2, w02, S02, -, q3, qgo⟩ := i2.go
            have hh : Held (reb (cx c B2 Mv2 w02 S02) g1 s1 w2) g1 s1 a1 w2 [(.bool b, .bool b, [])] := by simpa using (Held.nil q3).push0 (.of_rel (.bool b))
            obtain ⟨g2, hi3⟩ := hh.goes (dst := some d) (p := true) (st1 := { s1 with tm := put s1.tm d (.bool b) }) (fun d' e => by cases e; exact o8) rfl
            obtain ⟨T3, i3, hk3⟩ := qgo K hK g2 _ _ w2 hi3
            have ha3 : agree wr a0 (a1.put (some d) (.bool b)) := agree_put (dl := a1.defers) ha1 (fun t e => by
              cases e
              exact opRd_dst (hall o (by rw [hsplit]; simp)) d o7) _
            -- the rest of the region
            have tail : ∀ r', K T3 r' w2 → ((steps call post { s1 with tm := put s1.tm d (.bool b) }).bind fun st => k .normal st) = some r' → wpListIn (FW none) 0 c.P ops Q os (dd (a1.put (some d) (.bool b)) (marks Ds)) w2 := by
              intro r' hkr hb'
              simp only [Option.bind_eq_some_iff] at hb'
              obtain ⟨s4, hs4, hk4⟩ := hb'
              obtain ⟨B4, Mv4, w04, S04, -, p3, pgo⟩ := i3.go
              have hpost := ops_wp (c := reb (cx c B4 Mv4 w04 S04) g2 { s1 with tm := put s1.tm d (.bool b) } w2) (ops := ops) (Q := QF (reb (cx c B4 Mv4 w04 S04) g2 { s1 with tm := put s1.tm d (.bool b) } w2) s4) hg _ _ g2 _ _ w2 o2 p3 (by rw [steps_gate _ _ o4]; exact hs4) fun g a w hi => ⟨rfl, g, hi⟩
              have := list_in (rest := []) (Q' := Q) (n := 0) (ro := none) (ds := marks Ds) (QF_ok _ _) (fun a5 w5 hq ha5 => by
                obtain ⟨-, g5, hi5⟩ := hq
                obtain ⟨T5, i5, hk5⟩ := pgo K hK g5 s4 a5 w5 hi5
                exact hQ r' .normal s4 hk4 T5 g5 a5 Ds w5 i5 (hk5 _ hkr) ha5) os _ w2 (fun o ho => hall o (by rw [hsplit]; exact List.mem_append_right _ (List.mem_cons_of_mem _ ho))) ha3 hpost
              rwa [List.append_nil] at this
            cases b with
            | true => exact tail _ (hk3 _ hkb) h1
            | false => exact tail _ (hk3 _ hkb) h2
          · cases o6
        · cases hr
      · cases hr
    · cases hr
  · cases hok

end Go.Vi
end
section
/- Ranges over a function: what lies between two rounds. -/
namespace Go.Vi
variable {c : Ctx} {g : G} {st st1 : St} {a : Act} {w : World}

theorem get_filter {α : Type} (q : Nat → Bool) (d : Nat) : ∀ l : List (Nat × α), get (l.filter fun p => q p.1) d = if q d then get l d else none
  | [] => by simp [get]
  | (k, u) :: l => by
    have ih := get_filter q d l
    rw [List.filter_cons]
    by_cases h : k = d
    · subst h
      by_cases hq : q k = true
      · simp [hq, get]
      · simp only [hq, if_false, Bool.false_eq_true] at ih ⊢
        exact ih
    · by_cases hq : q k = true
      · rw [if_pos hq]
        simp only [get, if_neg h, ih]
      · rw [if_neg hq, ih]
        simp only [get, if_neg h]

/-- What is held by nothing owns nothing. -/
theorem still_nil {v : V} {r : Value} {o : List Nat} (h : RelT w g st a v r o) (hs : still v = true) : o = [] := by
  cases v with
  | loc d off => exact h.1
  | el => cases hs
  | rf => cases hs
  | tup => cases hs
  | it => cases hs
  | sl ow sz xs =>
    cases ow with
    | s =>
      generalize hv : V.sl .s sz xs = v at h
      have h' : Rel w g.S v r o := by subst hv; exact h
      cases h' with
      | sl0 => rfl
      | sls => rfl
      | slo o' sz' xs' b off n cc f C e ho => cases hv; exact absurd rfl ho
      | _ => cases hv
    | a => cases hs
    | x => cases hs
  | mp ow es =>
    cases ow with
    | s =>
      generalize hv : V.mp .s es = v at h
      have h' : Rel w g.S v r o := by subst hv; exact h
      cases h' with
      | mps => rfl
      | _ => cases hv
    | a => cases hs
    | x => cases hs
  | _ =>
    have h' : Rel w g.S _ r o := h
    cases h' <;> rfl

/-- A slot that is a box's is kept by a round, if it is the same box in the end. -/
def kept (stm : List (Nat × V)) (s : St) (d : Nat) : Bool := (match get s.tm d with | some (.loc d' 0) => d' == d | _ => false) && (match get stm d with | some (.loc d' 0) => d' == d | _ => false)

theorem back_eq (stm : List (Nat × V)) (bx : List (Nat × Bool × List V)) (s : St) : St.back { tm := stm, bx := bx } s = { tm := stm, bx := s.bx.filter fun p => kept stm s p.1 } := rfl

theorem kept_loc {stm : List (Nat × V)} {s : St} {d : Nat} (h : kept stm s d = true) : get s.tm d = some (.loc d 0) ∧ get stm d = some (.loc d 0) := by
  unfold kept at h
  simp only [Bool.and_eq_true] at h
  obtain ⟨h1, h2⟩ := h
  constructor
  · split at h1
    · rename_i e; rw [e]; simp only [beq_iff_eq] at h1; rw [h1]
    · cases h1
  · split at h2
    · rename_i e; rw [e]; simp only [beq_iff_eq] at h2; rw [h2]
    · cases h2

/-- Behind a round the function's own slots are as they were; of the boxes those that are kept. -/
theorem FInv.back {stm : List (Nat × V)} {bx : List (Nat × Bool × List V)} {s : St} {g' : G} {a' : Act} {w' : World} {l : Nat} {wl : Nat → Bool} (h : FInv c g { tm := stm, bx := bx } a w) (h' : FInv c g' s a' w') (hs : Since l g w g' w')
    (hst : ∀ p ∈ stm, still p.2 = true ∧ wl p.1 = false) (ha : ∀ t, wl t = false → a'.tmps.getD t Go.undef = a.tmps.getD t Go.undef) :
    ∃ gB, FInv c gB { tm := stm, bx := s.bx.filter fun p => kept stm s p.1 } a w' ∧ gB.S = g'.S ∧ ∀ b, Vi.own gB b → Vi.own g' b := by
  have hO : ∀ t v, get stm t = some v → g.O t = [] := fun t v hg => still_nil (h.tm t v hg) (hst _ (get_mem hg)).1
  have hβ : ∀ d, kept stm s d = true → g'.β d = g.β d := by
    intro d hd
    obtain ⟨k1, k2⟩ := kept_loc hd
    have r1 := h'.tm d _ k1
    have r2 := h.tm d _ k2
    have e := ha d (hst _ (get_mem k2)).2
    have e1 : a'.tmps.getD d Go.undef = .pointer (some ⟨g'.β d, 0, none⟩) := r1.2
    have e2 : a.tmps.getD d Go.undef = .pointer (some ⟨g.β d, 0, none⟩) := r2.2
    rw [e1, e2] at e
    simp only [Value.pointer.injEq, Option.some.injEq, Addr.mk.injEq] at e
    exact e.1
  have hbx : ∀ d, get (s.bx.filter fun p => kept stm s p.1) d = if kept stm s d then get s.bx d else none := fun d => get_filter (kept stm s) d s.bx
  refine ⟨{ S := g'.S, β := g.β, O := fun _ => [], OB := fun d => if kept stm s d then g'.OB d else [] }, ?_, rfl, ?_⟩
  · exact {
      size := h.size
      defers := h.defers
      tm := fun t v hv => by
        have r := h.tm t v hv
        rw [hO t v hv] at r
        have hsv := (hst _ (get_mem hv)).1
        cases v with
        | loc d off => exact ⟨rfl, r.2⟩
        | el => cases hsv
        | rf => cases hsv
        | _ => exact .of_rel ((show Rel w g.S _ _ [] from r).keep0 hs.keep hs.sub)
      tmn := fun _ _ => rfl
      bxf := fun d cs hd => by
        rw [hbx] at hd
        split at hd
        · rename_i hk
          obtain ⟨C, e, os, e1, e2, e3, e4, e5, e6⟩ := h'.bxf d cs hd
          have eb := hβ d hk
          simp only [hk, if_true]
          rw [eb] at e1 e5 e6
          exact ⟨C, e, os, e1, e2, e3, e4, e5, e6⟩
        · cases hd
      bxt := fun d cs hd => by
        rw [hbx] at hd
        split at hd
        · rename_i hk
          obtain ⟨e1, e2⟩ := h'.bxt d cs hd
          have eb := hβ d hk
          simp only [hk, if_true]
          rw [eb] at e2
          exact ⟨e1, e2⟩
        · cases hd
      bxn := fun d hd => by
        rw [hbx] at hd
        simp only
        split
        · rename_i hk
          rw [if_pos hk] at hd
          exact h'.bxn d hd
        · rfl
      dOO := fun _ _ _ b hb => by cases hb
      dBB := fun d e hne b hb => by
        simp only at hb ⊢
        split at hb
        · split
          · exact h'.dBB d e hne b hb
          · simp
        · cases hb
      dOB := fun _ _ b hb => by cases hb
      nO := fun _ => List.nodup_nil
      nB := fun d => by
        simp only
        split
        · exact h'.nB d
        · exact List.nodup_nil
      fO := fun _ b hb => by cases hb
      fB := fun d b hb => by
        simp only at hb
        split at hb
        · exact h'.fB d b hb
        · cases hb
      hB := h'.hB
      upd := h'.upd
      keep := h'.keep
      sub := h'.sub
      new := h'.new
      lt := h'.lt
      gl := h.gl }
  · rintro b (⟨t, hb⟩ | ⟨d, hb⟩)
    · cases hb
    · simp only at hb
      split at hb
      · exact .inr ⟨d, hb⟩
      · cases hb

/-- Values without memory go into slots. -/
theorem putAll_inv : ∀ (qs : List Nat) (xs : List V) (tm : List (Nat × V)) (bx : List (Nat × Bool × List V)) (g : G) (a : Act), xs.length = qs.length → (∀ v ∈ xs, pureV v = true) → (∀ p ∈ qs, p < c.nt) → FInv c g { tm := tm, bx := bx } a w →
    ∃ g', FInv c g' { tm := putAll qs xs tm, bx := bx } { a with tmps := (qs.zip (xs.map realV)).foldl (fun t (p : Nat × Value) => t.setIfInBounds p.1 p.2) a.tmps } w
  | [], [], tm, bx, g, a, _, _, _, h => ⟨g, h⟩
  | [], _ :: _, _, _, _, _, hl, _, _, _ => by simp at hl
  | _ :: _, [], _, _, _, _, hl, _, _, _ => by simp at hl
  | p :: qs, x :: xs, tm, bx, g, a, hl, hp, hq, h => by
    have hx := hp x (by simp)
    have hh : Held c g { tm := tm, bx := bx } a w [(x, realV x, [])] := by simpa using (Held.nil h).push0 (.of_rel (real_pure g.S hx))
    have hi : into true (some p) (x, { tm := tm, bx := bx }) = some { tm := put tm p x, bx := bx } := by
      cases x <;> first | rfl | cases hx
    obtain ⟨g', h'⟩ := hh.goes (dst := some p) (fun d e => by cases e; exact hq p (by simp)) hi
    exact putAll_inv qs xs (put tm p x) bx g' (a.put (some p) (realV x)) (by simpa using hl) (fun v hv => hp v (List.mem_cons_of_mem _ hv)) (fun q hq' => hq q (List.mem_cons_of_mem _ hq')) h'

theorem foldl_get : ∀ (qs : List Nat) (vs : List Value) (tm : Array Value) (t : Nat), t ∉ qs → ((qs.zip vs).foldl (fun t (p : Nat × Value) => t.setIfInBounds p.1 p.2) tm).getD t Go.undef = tm.getD t Go.undef
  | [], _, _, _, _ => rfl
  | _ :: _, [], _, _, _ => rfl
  | q :: qs, v :: vs, tm, t, h => by
    simp only [List.mem_cons, not_or] at h
    rw [List.zip_cons_cons, List.foldl_cons, foldl_get qs vs _ t h.2]
    simp [Array.getD_eq_getD_getElem?, Array.getElem?_setIfInBounds_ne (fun e => h.1 e.symm)]

/-- Between two rounds. -/
structure Mid (c : Ctx) (g : G) (stm : List (Nat × V)) (a : Act) (W : World) (l D : Nat) (T : Nat → Prop) (gJ : G) (bx : List (Nat × Bool × List V)) (w : World) : Prop where
  inv : FInv c gJ { tm := stm, bx := bx } a w
  size : W.heap.size ≤ w.heap.size
  ownB : ∀ b, own gJ b → (own g b ∧ b < D) ∨ W.heap.size ≤ b
  sub : ∀ b k, g.S b k → gJ.S b k
  dok : w.heap[D]? = some (.deferred (some []))
  nD : ∀ k, ¬ gJ.S D k
  nl : ∀ k, ¬ gJ.S l k
  T : ∀ b, T b → W.heap.size ≤ b ∧ b < w.heap.size ∧ ¬ own gJ b ∧ ∀ k, ¬ gJ.S b k

theorem Mid.fgn {stm : List (Nat × V)} {W : World} {l D : Nat} {T : Nat → Prop} {gJ : G} {bx : List (Nat × Bool × List V)} {w' : World} (h : Mid c g stm a W l D T gJ bx w) (hB : c.B ≤ W.heap.size) (hD : D < W.heap.size) (hf : Fgn T w w') : Mid c g stm a W l D (grow T w w') gJ bx w' where
  inv := by
    have ho : ∀ b, own gJ b → w'.heap[b]? = w.heap[b]? := fun b hb => hf.block b (own_fr h.inv hb).2 fun ht => (h.T b ht).2.2.1 hb
    exact h.inv.world w' gJ.S (Keep.of_heap fun b k hs => hf.block b (h.inv.lt b k hs) fun ht => (h.T b ht).2.2.2 k hs) (fun _ _ h => h) (fun t b hb => ⟨ho b (.inl ⟨t, hb⟩), fun _ h => h⟩) (fun d b hb => ⟨ho b (.inr ⟨d, hb⟩), fun _ h => h⟩)
      ⟨hf.os, hf.tape, hf.output, hf.size, fun b hb _ => hf.block b (by have := h.size; omega) fun ht => by have := (h.T b ht).1; omega⟩ (fun _ _ h => .inl h) fun b k hs => Nat.lt_of_lt_of_le (h.inv.lt b k hs) hf.size
  size := Nat.le_trans h.size hf.size
  ownB := h.ownB
  sub := h.sub
  dok := (hf.block D (by have := h.size; omega) fun ht => by have := (h.T D ht).1; omega).trans h.dok
  nD := h.nD
  nl := h.nl
  T b hb := by
    rcases hb with hb | ⟨h1, h2⟩
    · obtain ⟨t1, t2, t3, t4⟩ := h.T b hb
      exact ⟨t1, Nat.lt_of_lt_of_le t2 hf.size, t3, t4⟩
    · exact ⟨Nat.le_trans h.size h1, h2, fun ho => by have := (own_fr h.inv ho).2; omega, fun k hs => by have := h.inv.lt b k hs; omega⟩

/-- A round has been run. -/
theorem Mid.since {stm : List (Nat × V)} {W : World} {l D : Nat} {T : Nat → Prop} {gJ gB : G} {bx bx' : List (Nat × Bool × List V)} {w' : World} (h : Mid c g stm a W l D T gJ bx w) (hl : l < W.heap.size) (hDl : D < l) (hB : FInv c gB { tm := stm, bx := bx' } a w') (hs : Since l gJ w gB w') : Mid c g stm a W l D T gB bx' w' where
  inv := hB
  size := Nat.le_trans h.size hs.size
  ownB b hb := by
    rcases hs.ownB b hb with h1 | h1
    · exact h.ownB b h1
    · exact .inr (Nat.le_trans h.size h1)
  sub b k hb := hs.sub b k (h.sub b k hb)
  dok := (hs.blk D (by have := h.size; omega) (fun ho => by rcases h.ownB D ho with h1 | h1 <;> omega) (by omega)).trans h.dok
  nD k hb := by
    rcases hs.newS D k hb with h1 | h1 | h1
    · exact h.nD k h1
    · have := h.size; omega
    · rcases h.ownB D h1 with h2 | h2 <;> omega
  nl k hb := by
    rcases hs.newS l k hb with h1 | h1 | h1
    · exact h.nl k h1
    · have := h.size; omega
    · rcases h.ownB l h1 with h2 | h2 <;> omega
  T b hb := by
    obtain ⟨t1, t2, t3, t4⟩ := h.T b hb
    refine ⟨t1, Nat.lt_of_lt_of_le t2 hs.size, fun ho => ?_, fun k hk => ?_⟩
    · rcases hs.ownB b ho with h1 | h1
      · exact t3 h1
      · omega
    · rcases hs.newS b k hk with h1 | h1 | h1
      · exact t4 k h1
      · omega
      · exact t3 h1

/-- The loop's record turns: nothing else does. -/
theorem since_rec {l : Nat} {r r' : Loop} (h : w.heap[l]? = some (.loop r)) : Since l g w g (w.putObj l (.loop r')) := by
  have hlt := (Array.getElem?_eq_some_iff.1 h).1
  refine ⟨rfl, rfl, rfl, by simp, fun b _ _ hb => World.putObj_heap_other hb, fun b k hs => ?_, fun _ _ h => h, fun _ h => .inl h, fun _ _ h => .inl h⟩
  by_cases hb : b = l
  · subst hb
    refine ⟨?_, fun es cl he => by rw [h] at he; cases he⟩
    simp [World.cell?, h, World.putObj_heap_same hlt]
  · exact ⟨cell_of_heap (World.putObj_heap_other hb) k, fun es cl he => (World.putObj_heap_other hb).trans he⟩

theorem FInv.record {l : Nat} {r r' : Loop} (h : FInv c g st a w) (hr : w.heap[l]? = some (.loop r)) (hl : c.B ≤ l) (hn : ¬ Vi.own g l) : FInv c g st a (w.putObj l (.loop r')) := by
  have hs := since_rec (g := g) (r' := r') hr
  have ho : ∀ b, Vi.own g b → (w.putObj l (.loop r')).heap[b]? = w.heap[b]? := fun b hb => World.putObj_heap_other fun e => hn (e ▸ hb)
  exact h.world _ g.S hs.keep (fun _ _ h => h) (fun t b hb => ⟨ho b (.inl ⟨t, hb⟩), fun _ h => h⟩) (fun d b hb => ⟨ho b (.inr ⟨d, hb⟩), fun _ h => h⟩)
    ⟨rfl, rfl, rfl, by simp, fun b hb _ => World.putObj_heap_other (by omega)⟩ (fun _ _ h => .inl h) fun b k hs => by simpa using h.lt b k hs

/-- New blocks. -/
theorem FInv.more {w' : World} (h : FInv c g st a w) (h1 : w'.os = w.os) (h2 : w'.tape = w.tape) (h3 : w'.output = w.output) (h4 : w.heap.size ≤ w'.heap.size) (h5 : ∀ b, b < w.heap.size → w'.heap[b]? = w.heap[b]?) : FInv c g st a w' :=
  h.world w' g.S (Keep.of_heap fun b k hs => h5 b (h.lt b k hs)) (fun _ _ h => h) (fun t b hb => ⟨h5 b (h.fO t b hb).2, fun _ h => h⟩) (fun d b hb => ⟨h5 b (h.fB d b hb).2, fun _ h => h⟩)
    ⟨h1, h2, h3, h4, fun b hb _ => h5 b (Nat.lt_of_lt_of_le hb h.hB)⟩ (fun _ _ h => .inl h) fun b k hs => Nat.lt_of_lt_of_le (h.lt b k hs) h4

end Go.Vi
end
section
/- Ranges over a function; code. -/
namespace Go.Vi
variable {c : Ctx} {g : G} {st st1 : St} {a : Act} {w : World}

def ecode : Ex → Code
  | .normal => .skip
  | .exit id => .exit id
  | .ret => .ret

/-- Code of so great a depth goes. -/
def CodeIn (n : Nat) : Prop := ∀ (c : Ctx) (call : FuncId → List V → Option V) (nm yl rg : Bool) (K : (Nat → Prop) → V → World → Prop) (wr : Nat → Bool) (a0 : Act) (ro : Option Nat) (fv : Value) (m : M) (x : Code) (st : St) (k : Ex → St → Option V)
    (Q : Exit → Act → World → Prop) (g : G) (a : Act) (Ds : List Nat) (T : Nat → Prop) (w : World) (r : V),
  (∀ f args r, call f args = some r → Good2 c.P c.gl f args r) → KS K →
  (yl = true → nm = true ∧ ro = none ∧ a0.tmps.getD 0 Go.undef = fv ∧ ∀ T x l w1, (∀ v ∈ x, pureV v = true) → K T (.tup (.tup x :: l)) w1 → YieldsOK c.P fv (x.map realV).toArray w1 fun b w' => FrB c.B c.Mv c.S0 T w1 w' ∧ (if b then K T (.tup l) w' else K T (.tup []) w')) →
  (rg = true → nm = false ∧ ro = none ∧ ∃ r0, ∀ T r' w, K T r' w ↔ r' = r0) →
  codeOK2 c.P c.gl c.nt yl rg wr n m x = true → run call m st k = some r → Inv2 c nm T g st a Ds w → K T r w → agree wr a0 a → Goes2 c nm K wr a0 k Q → x.wpIn (FW ro) 0 c.P Q (dd a (marks Ds)) w

/-- A plain function's answer is one. -/
def KP (r0 : V) : (Nat → Prop) → V → World → Prop := fun _ r _ => r = r0
theorem KP_ks (r0 : V) : KS (KP r0) := fun _ _ _ _ h _ => h

theorem Since.part {l : Nat} {g0 g1 g2 : G} {w0 w1 : World} (h : Since l g0 w0 g1 w1) (hS : g2.S = g1.S) (ho : ∀ b, Vi.own g2 b → Vi.own g1 b) : Since l g0 w0 g2 w1 :=
  ⟨h.os, h.tape, h.output, h.size, h.blk, h.keep, fun b k hb => by rw [hS]; exact h.sub b k hb, fun b hb => h.ownB b (ho b hb), fun b k hb => h.newS b k (by rw [← hS]; exact hb)⟩

theorem inv2_start {nm : Bool} (h : FInv c g st a w) : Inv2 c nm (fun b => b < w.heap.size) g st a [] w :=
  ⟨⟨c.B, c.Mv, c.w0, c.S0, fun _ => rfl, fun _ _ _ _ h => h, h, fun _ hd => by cases hd⟩, List.nodup_nil, fun _ => rfl, ⟨fun b hb => (own_fr h hb).2, fun b k hb => .inr (h.lt b k hb), fun _ hb => hb⟩⟩

/-- Behind the assignment of a round. -/
noncomputable def rdK (call : FuncId → List V → Option V) (b : M) (k : Ex → St → Option V) : Ex → St → Option V := fun e s => match e with
  | .normal => run call b s k
  | _ => none

theorem rng_in {n : Nat} (ih : CodeIn n) {call : FuncId → List V → Option V} {K : (Nat → Prop) → V → World → Prop} {wr : Nat → Bool} {a0 : Act} {r0 : V} (hcall : ∀ f args r, call f args = some r → Good2 c.P c.gl f args r)
    (hpl : ∀ T r' w, K T r' w ↔ r' = r0) {f : A} {qs wl : List Nat} {as' body' : M} {F : Operand} {ps : Array Tmp} {as body : Code} {k : Ex → St → Option V} {Q : Exit → Act → World → Prop} {Ds : List Nat} {T : Nat → Prop}
    (o1 : opndOK c.gl f F = true) (o2 : plainA f = true) (o3 : ps.toList = qs) (o4 : ∀ p ∈ qs, p < c.nt)
    (o5 : codeOK2 c.P c.gl c.nt false false (fun t => wl.contains t || qs.contains t) n as' as = true) (o6 : codeOK2 c.P c.gl c.nt false false (fun t => wl.contains t || qs.contains t) n body' body = true)
    (hr : run call (.rngf f qs wl as' body') st k = some r0) (h : Inv2 c false T g st a Ds w) (ha : agree wr a0 a) (hQ : Goes2 c false K wr a0 k Q) : (Code.rangeFunc F ps as body).wpIn (FW none) 0 c.P Q (dd a (marks Ds)) w := by
  simp only [run] at hr
  split at hr
  case h_2 => cases hr
  rename_i gf cs hz
  split at hr
  case isFalse => cases hr
  rename_i hcond
  split at hr
  case h_2 => cases hr
  rename_i xs hcl
  obtain ⟨B, Mv, w0, S0, -, hback, hinv, hmk⟩ := h.ex
  have hst : ∀ p ∈ st.tm, still p.2 = true ∧ (wl.contains p.1 || qs.contains p.1) = false := by
    intro p hp
    have := List.all_eq_true.1 hcond p hp
    simp only [Bool.and_eq_true, Bool.not_eq_true'] at this
    exact ⟨this.1.1, by rw [this.1.2, this.2]; rfl⟩
  have hG := (hcall _ _ _ hcl).2 (Nat.le_add_left ..)
  rw [Nat.add_sub_cancel] at hG
  -- the iterator's value
  obtain ⟨oF, hrelF⟩ := opndRaw hinv o1 o2
  rw [hz] at hrelF
  obtain ⟨-, fs', cs', hF, hfl, hcsl, -, hcsr⟩ := Rel.fn_inv (show Rel w g.S (.fn (.func gf) [] cs) (a.eval F) oF from hrelF)
  have hfs : fs' = #[] := Array.eq_empty_of_size_eq_zero (by simpa using hfl.symm)
  subst hfs
  refine wpIn_rangeFunc ?_
  intro fn hfn
  obtain ⟨rec, hrec⟩ : ∃ rec : LoopState → Option Code → Loop, rec = fun s pe => { state := s, pending := pe, fn, tmps := a.tmps, params := ps, assign := as, body, defers := w.heap.size } := ⟨_, rfl⟩
  obtain ⟨W, hW⟩ : ∃ W, (w.alloc (.deferred (some []))).alloc (.loop (rec .ready none)) = W := ⟨_, rfl⟩
  have hWs : W.heap.size = w.heap.size + 2 := by rw [← hW]; simp
  have hWl : W.heap[w.heap.size + 1]? = some (.loop (rec .ready none)) := by
    rw [← hW]; have := World.alloc_heap_new (w.alloc (.deferred (some []))) (.loop (rec .ready none)); rwa [World.size_alloc] at this
  have hWo : ∀ b, b < w.heap.size + 1 → W.heap[b]? = (w.alloc (.deferred (some []))).heap[b]? := fun b hb => by rw [← hW]; exact RowKit.Below.heap_alloc _ _ _ (by simpa using hb)
  have hWD : W.heap[w.heap.size]? = some (.deferred (some [])) := (hWo _ (by omega)).trans (World.alloc_heap_new w _)
  have hWb : ∀ b, b < w.heap.size → W.heap[b]? = w.heap[b]? := fun b hb => (hWo b (by omega)).trans (RowKit.Below.heap_alloc _ _ _ hb)
  have hW1 : W.os = w.os ∧ W.tape = w.tape ∧ W.output = w.output := by rw [← hW]; exact ⟨rfl, rfl, rfl⟩
  have hBs : B ≤ w.heap.size := hinv.hB
  obtain ⟨l, hl⟩ : ∃ l, l = w.heap.size + 1 := ⟨_, rfl⟩
  obtain ⟨D, hD⟩ : ∃ D, D = w.heap.size := ⟨_, rfl⟩
  have hDl : D < l := by omega
  have hlW : l < W.heap.size := by omega
  rw [← hl] at hWl
  rw [← hD] at hWD
  -- what lies between two rounds
  obtain ⟨rd, hr, hrd⟩ : ∃ rd : List V → St → (Ex → St → Option V) → Option V, rnds rd st xs st k = some r0 ∧ ∀ x s k, rd x s k = if x.length = qs.length then run call as' { s with tm := putAll qs x st.tm } (rdK call body' k) else none :=
    ⟨_, hr, fun x s k => rfl⟩
  obtain ⟨Kit, hKit⟩ : ∃ Kit : (Nat → Prop) → V → World → Prop, Kit = fun T r w' =>
      (∃ l' gJ bx, r = .tup l' ∧ Mid (cx c B Mv w0 S0) g st.tm a W l D T gJ bx w' ∧ rnds rd st l' { tm := st.tm, bx := bx } k = some r0 ∧ w'.heap[l]? = some (.loop (rec .ready none))) ∨
      (r = .tup [] ∧ ∃ e gJ bx, e ≠ .normal ∧ Mid (cx c B Mv w0 S0) g st.tm a W l D T gJ bx w' ∧ k e { tm := st.tm, bx := bx } = some r0 ∧ w'.heap[l]? = some (.loop (rec .done (some (ecode e))))) := ⟨_, rfl⟩
  have hKS : KS Kit := by
    intro T r w1 w' hk hf
    rw [hKit] at hk ⊢
    have rest : ∀ {gJ bx} {x : Obj}, Mid (cx c B Mv w0 S0) g st.tm a W l D T gJ bx w1 → w1.heap[l]? = some x → Mid (cx c B Mv w0 S0) g st.tm a W l D (grow T w1 w') gJ bx w' ∧ w'.heap[l]? = some x := fun hm hx =>
      ⟨hm.fgn (Nat.le_trans hBs (by omega)) (by omega) hf, (hf.block l (by have := hm.size; omega) fun ht => by have := (hm.T l ht).1; omega).trans hx⟩
    rcases hk with ⟨l', gJ, bx, e1, e2, e3, e4⟩ | ⟨e0, e, gJ, bx, e1, e2, e3, e4⟩
    · exact .inl ⟨l', gJ, bx, e1, (rest e2 e4).1, e3, (rest e2 e4).2⟩
    · exact .inr ⟨e0, e, gJ, bx, e1, (rest e2 e4).1, e3, (rest e2 e4).2⟩
  have hlt0 : ∀ b k, g.S b k → b < w.heap.size := hinv.lt
  have hmid0 : Mid (cx c B Mv w0 S0) g st.tm a W l D (fun _ => False) g st.bx W := by
    refine ⟨?_, Nat.le_refl _, fun b hb => .inl ⟨hb, by have := (own_fr hinv hb).2; omega⟩, fun _ _ h => h, hWD, fun k hk => by have := hlt0 _ _ hk; omega, fun k hk => by have := hlt0 _ _ hk; omega, fun b hb => hb.elim⟩
    exact hinv.more hW1.1 hW1.2.1 hW1.2.2 (by omega) hWb
  have hK0 : Kit (fun _ => False) (.tup xs) W := by
    rw [hKit]; exact .inl ⟨xs, g, st.bx, rfl, hmid0, hr, hWl⟩
  -- behind the loop
  have fin : ∀ (e : Ex) (gJ : G) (bx : List (Nat × Bool × List V)) (T3 : Nat → Prop) (w3 : World) (r' r'' : Loop), Mid (cx c B Mv w0 S0) g st.tm a W l D T3 gJ bx w3 → k e { tm := st.tm, bx := bx } = some r0 → w3.heap[l]? = some (.loop r') →
      Q e.real { dd a (marks Ds) with defers := [mark D] ++ (dd a (marks Ds)).defers } (w3.putObj l (.loop r'')) := by
    intro e gJ bx T3 w3 r' r'' hm hk hrc
    have hno : ¬ own gJ l := fun ho => by rcases hm.ownB l ho with h1 | h1 <;> omega
    have hnD : ¬ own gJ D := fun ho => by rcases hm.ownB D ho with h1 | h1 <;> omega
    have hi := hm.inv.record (r' := r'') hrc (show B ≤ l by omega) hno
    have hsz : (w3.putObj l (.loop r'')).heap.size = w3.heap.size := by simp
    have e0 : { dd a (marks Ds) with defers := [mark D] ++ (dd a (marks Ds)).defers } = dd a (marks (D :: Ds)) := by
      unfold dd marks
      rw [hinv.defers]; rfl
    rw [e0]
    have hDs : ∀ D' ∈ D :: Ds, c.B ≤ D' ∧ D' < w3.heap.size ∧ ¬ own gJ D' ∧ (∀ k, ¬ gJ.S D' k) ∧ (w3.putObj l (.loop r'')).heap[D']? = some (.deferred (some [])) := by
      intro D' hD'
      rcases List.mem_cons.1 hD' with rfl | hD'
      · refine ⟨?_, by have := hm.size; omega, hnD, hm.nD, (World.putObj_heap_other (by omega)).trans hm.dok⟩
        have := (hback _ _ _ _ hinv).hB
        omega
      · obtain ⟨d1, d2, d3, d4, d5⟩ := hmk D' hD'
        have hno' : ¬ own gJ D' := fun ho => by
          rcases (own_fr hm.inv ho).1 with h4 | h4
          · exact absurd d2 (Nat.not_lt.2 h4)
          · exact d3 h4
        refine ⟨d1, by have := hm.size; omega, hno', fun k hk => ?_, (World.putObj_heap_other (by omega)).trans ?_⟩
        · rcases hm.inv.new D' k hk with h4 | h4 | h4
          · exact d4 k h4
          · exact absurd d2 (Nat.not_lt.2 h4)
          · exact d3 h4
        · have u1 := hm.inv.upd.block D' d2 d3
          have u2 := hinv.upd.block D' d2 d3
          rw [u1, ← u2]; exact d5
    refine hQ r0 e _ hk (fun b => b < w3.heap.size) gJ a (D :: Ds) _ ⟨⟨(w3.putObj l (.loop r'')).heap.size, owned gJ { tm := st.tm, bx := bx }, w3.putObj l (.loop r''), gJ.S, fun h => (by cases h), fun g s a w h' => hback _ _ _ _ (reb_back (c := cx c B Mv w0 S0) hi h'), reb_inv (c := cx c B Mv w0 S0) hi, fun D' hD' => ?_⟩, ?_, fun h => (by cases h), ?_⟩ ((hpl _ _ _).2 rfl) ha
    · obtain ⟨d1, d2, d3, d4, d5⟩ := hDs D' hD'
      exact ⟨d1, by rw [hsz]; exact d2, fun hm' => d3 ((mem_owned hi).1 hm'), d4, d5⟩
    · refine List.nodup_cons.2 ⟨fun hm' => ?_, h.nd⟩
      have := (hmk D hm').2.1
      omega
    · exact ⟨fun b hb => (own_fr hm.inv hb).2, fun b k hb => .inr (hm.inv.lt b k hb), fun b hb => by rw [hsz]; exact hb⟩
  refine ⟨l, [mark D], W, { target := .fn (.func gf) cs', args := #[.func (.yield l) #[] #[]] }, W, gf, #[.func (.yield l) #[] #[]] ++ cs', W, ?_, ?_, fun _ _ => trivial, ?_, fun h => (by simp [FW] at h), ?_⟩
  · rw [← hW, hrec, hl, hD]; exact run_enterLoop_outer _ _ _ _ _
  · have hF' : (dd a (marks Ds)).eval F = .func (.func gf) #[] cs' := by rw [dd_eval]; exact hF
    simp only [resolve, hF']
    simp [go_sem]
  · simp [invoke, go_sem, run_enter hG.2]
  · have hcalls := hG.1 (.func (.yield l) #[] #[]) W g.S cs'.toList (owned g st ++ [l]) Kit ?_ (fun b k hk => by have := hlt0 _ _ hk; omega) (fun x cs hx => (hinv.gl x cs hx).keep0 (hinv.keep.trans (Keep.of_heap fun b k hs => hWb b (hlt0 b k (hinv.sub b k hs)))) hinv.sub) hKS ?_ hK0
    · have e : (Value.func (.yield l) #[] #[] :: cs'.toList).toArray = #[.func (.yield l) #[] #[]] ++ cs' := by apply Array.toList_inj.1; simp
      rw [e] at hcalls
      refine (calls_in hcalls).mono ?_
      rintro e w3 ⟨⟨v, rfl⟩, T3, hk3⟩
      rw [hKit] at hk3
      rcases hk3 with ⟨l', gJ, bx, e1, e2, e3, e4⟩ | ⟨-, e, gJ, bx, e1, e2, e3, e4⟩
      · cases e1
        refine ⟨none, _, by have := run_endLoop (P := c.P) e4 (by rw [hrec]; simp); rw [hrec] at this; exact this, ?_⟩
        exact fin .normal gJ bx T3 w3 _ _ e2 e3 e4
      · refine ⟨some (ecode e), _, by have := run_endLoop (P := c.P) e4 (by rw [hrec]; simp); rw [hrec] at this; exact this, ?_⟩
        have := fin e gJ bx T3 w3 _ { rec .done (some (ecode e)) with state := .exhausted } e2 e3 e4
        rw [hrec] at this
        cases e with
        | normal => exact absurd rfl e1
        | exit id => exact wpIn_exit this
        | ret => exact wpIn_ret this
    · refine ⟨by simpa using hcsl.symm, by simp, fun i v r o hv hr ho => ?_⟩
      have ho' : o = [] := by
        rw [List.getElem?_map, hv] at ho; simpa using ho.symm
      subst ho'
      exact (hcsr i v r hv (by simpa using hr)).keep0 (Keep.of_heap fun b k hs => hWb b (hlt0 b k hs)) fun _ _ h => h
    · -- a round
      intro T x l' w1 hpu hk
      rw [hKit] at hk
      rcases hk with ⟨l'', gJ, bx, e1, hm, hrn, hrc⟩ | ⟨e1, -⟩
      case inr => cases e1
      cases e1
      simp only [rnds, hrd] at hrn
      split at hrn
      case isFalse => cases hrn
      rename_i hxl
      intro o a1 F1 Xs ts next Q1 hop hF1 hX hnext
      refine ⟨fun _ _ => trivial, ?_⟩
      have hps : (x.map realV).toArray.size = (rec .ready none).params.size := by
        rw [hrec]
        have : ps.size = qs.length := by rw [← o3]; simp
        simp [hxl, this]
      have hy := run_yield (P := c.P) hrc hps
      have hsem : (o.semAt (FW none).round a1.eval).run c.P w1 = .ok (.round l fn ((ps.zip (x.map realV).toArray).foldl (fun tmps (t, a) => tmps.setIfInBounds t a) a.tmps) as body) w1 := by
        have h1 : o.semAt (FW none).round a1.eval = execOp a1.eval o := rfl
        rw [h1]
        have h2 : (Instr.yield l (x.map realV).toArray).run c.P w1 = .ok (.round l fn ((ps.zip (x.map realV).toArray).foldl (fun tmps (t, a) => tmps.setIfInBounds t a) a.tmps) as body) w1 := by
          rw [hy, hrec]
        simp [execOp, hop, resolve, hF1, Deferred.ofValue, invoke, hX, h2]
      rw [hsem, Oper.uponIn_round]
      refine ⟨fun h => (by simp [FW] at h), roundIn_of_wpIn trivial ?_⟩
      -- the values go into the slots
      have hres := reb_inv hm.inv
      obtain ⟨gR, hR⟩ := putAll_inv (c := reb (cx c B Mv w0 S0) gJ { tm := st.tm, bx := bx } w1) qs x st.tm bx gJ a hxl hpu o4 hres
      have hfold : (ps.zip (x.map realV).toArray).foldl (fun tmps (t, a) => tmps.setIfInBounds t a) a.tmps = (qs.zip (x.map realV)).foldl (fun t (p : Nat × Value) => t.setIfInBounds p.1 p.2) a.tmps := by
        rw [← Array.foldl_toList, Array.toList_zip, o3]
      obtain ⟨aR, haR⟩ : ∃ aR : Act, aR = { a with tmps := (qs.zip (x.map realV)).foldl (fun t (p : Nat × Value) => t.setIfInBounds p.1 p.2) a.tmps } := ⟨_, rfl⟩
      have haR0 : ({ tmps := (ps.zip (x.map realV).toArray).foldl (fun tmps (t, a) => tmps.setIfInBounds t a) a.tmps, defers := [] } : Act) = dd aR (marks []) := by
        rw [hfold, haR]; unfold dd marks
        rw [hinv.defers]; rfl
      rw [← haR] at hR
      rw [haR0]
      have hagR : ∀ t, (wl.contains t || qs.contains t) = false → aR.tmps.getD t Go.undef = a.tmps.getD t Go.undef := by
        intro t ht
        rw [haR]
        refine foldl_get qs _ a.tmps t fun hm => ?_
        rw [Bool.or_eq_false_iff] at ht
        have := ht.2
        simp [hm] at this
      refine ih (reb (cx c B Mv w0 S0) gJ { tm := st.tm, bx := bx } w1) call true false false (KP r0) (fun t => wl.contains t || qs.contains t) aR (some l) Go.undef as' as { tm := putAll qs x st.tm, bx := bx } (rdK call body' _) _ gR aR [] (fun b => b < w1.heap.size) w1 r0 hcall (KP_ks r0) (fun h => (by cases h)) (fun h => (by cases h)) o5 hrn
        (inv2_start (c := reb (cx c B Mv w0 S0) gJ { tm := st.tm, bx := bx } w1) hR) rfl (fun _ _ => rfl) ?_
      intro r' e s hke T1 g1 a1' Ds1 w1' i1 hk1 ha1
      have hr' : r' = r0 := hk1
      subst hr'
      cases e
      case exit => cases hke
      case ret => cases hke
      have hDs1 := i1.yd rfl
      subst hDs1
      have hi1 := i1.inv
      have hs1 := since_reb l hm.inv hi1
      have hno1 : ¬ own gJ l := fun ho => by rcases hm.ownB l ho with h1 | h1 <;> omega
      have hrc1 : w1'.heap[l]? = some (.loop (rec .ready none)) := (hi1.upd.block l (by have := hm.size; exact Nat.lt_of_lt_of_le hlW this) fun h1 => hno1 ((mem_owned hm.inv).1 h1)).trans hrc
      have hf1 := reb_back hm.inv hi1
      have hno2 : ¬ own g1 l := fun ho => by
        rcases hs1.ownB l ho with h1 | h1
        · exact hno1 h1
        · have := hm.size; omega
      refine ⟨_, run_beginRound hrc1 (by rw [hrec]), ?_⟩
      have hf2 := hf1.record (r' := { rec .ready none with state := .busy }) hrc1 (show B ≤ l by omega) hno2
      have hs2 : Since l gJ w1 g1 (w1'.putObj l (.loop { rec .ready none with state := .busy })) := hs1.trans (since_rec hrc1)
      have hrc2 : (w1'.putObj l (.loop { rec .ready none with state := .busy })).heap[l]? = some (.loop { rec .ready none with state := .busy }) := World.putObj_heap_same (Array.getElem?_eq_some_iff.1 hrc1).1
      obtain ⟨w2, hw2⟩ : ∃ w2, w1'.putObj l (.loop { rec .ready none with state := .busy }) = w2 := ⟨_, rfl⟩
      rw [hw2] at hf2 hs2 hrc2 ⊢
      refine ih (reb (cx c B Mv w0 S0) g1 s w2) call true false false (KP r') (fun t => wl.contains t || qs.contains t) aR (some l) Go.undef body' body s _ _ g1 a1' [] (fun b => b < w2.heap.size) w2 r' hcall (KP_ks r') (fun h => (by cases h)) (fun h => (by cases h)) o6 hke
        (inv2_start (c := reb (cx c B Mv w0 S0) g1 s w2) (reb_inv hf2)) rfl ha1 ?_
      intro r2 e s2 hke2 T2 g2 a2 Ds2 w3 i2 hk2 ha2
      have hr2 : r2 = r' := hk2
      subst hr2
      have hi2 := i2.inv
      have hs3 := hs2.trans (since_reb l hf2 hi2)
      have hf3 := reb_back hf2 hi2
      have hrc3 : w3.heap[l]? = some (.loop { rec .ready none with state := .busy }) := (hi2.upd.block l (Array.getElem?_eq_some_iff.1 hrc2).1 fun h1 => hno2 ((mem_owned hf2).1 h1)).trans hrc2
      have hno3 : ¬ own g2 l := fun ho => by
        rcases hs3.ownB l ho with h1 | h1
        · exact hno1 h1
        · have := hm.size; omega
      obtain ⟨gB, hfB, hSB, hoB⟩ := hm.inv.back (wl := fun t => wl.contains t || qs.contains t) hf3 hs3 hst fun t ht => (ha2 t ht).trans (hagR t ht)
      have hnoB : ¬ own gB l := fun ho => hno3 (hoB l ho)
      -- the record turns once more, and the round is over
      have over : ∀ (jump : Option Code) (rr : Loop), rr = rec (if jump.isNone then .ready else .done) jump → (Instr.endRound l jump).run c.P w3 = .ok (.bool jump.isNone) (w3.putObj l (.loop rr)) ∧
          (w3.putObj l (.loop rr)).heap[l]? = some (.loop rr) ∧ FrB W.heap.size (owned g st ++ [l]) g.S T w1 (w3.putObj l (.loop rr)) ∧ Mid (cx c B Mv w0 S0) g st.tm a W l D T gB (s2.bx.filter fun p => kept st.tm s2 p.1) (w3.putObj l (.loop rr)) := by
        intro jump rr hrr
        have hend := run_endRound (P := c.P) jump hrc3
        have hs4 : Since l gJ w1 gB (w3.putObj l (.loop rr)) := (hs3.part hSB hoB).trans (since_rec hrc3)
        refine ⟨by rw [hend, hrr, hrec], World.putObj_heap_same (Array.getElem?_eq_some_iff.1 hrc3).1, ⟨hs4.os, hs4.tape, hs4.output, hs4.size, fun b hb hnb => ?_, fun b hb => ?_, hs4.keep.less hm.sub⟩, hm.since hlW hDl (hfB.record hrc3 (show B ≤ l by omega) hnoB) hs4⟩
        · simp only [List.mem_append, List.mem_singleton, not_or] at hnb
          refine hs4.blk b (by have := hm.size; omega) (fun ho => ?_) hnb.2
          rcases hm.ownB b ho with h1 | h1
          · exact hnb.1 ((mem_owned hinv).2 h1.1)
          · omega
        · obtain ⟨t1, t2, t3, t4⟩ := hm.T b hb
          exact hs4.blk b t2 t3 (by omega)
      cases e with
      | normal =>
        obtain ⟨q1, q2, q3, q4⟩ := over none _ rfl
        refine ⟨_, _, q1, hnext true _ ⟨q3, ?_⟩⟩
        rw [hKit]
        exact .inl ⟨l', gB, _, rfl, q4, hke2, q2⟩
      | exit id =>
        obtain ⟨q1, q2, q3, q4⟩ := over (some (.exit id)) _ rfl
        refine ⟨_, _, q1, hnext false _ ⟨q3, ?_⟩⟩
        rw [hKit]
        exact .inr ⟨rfl, .exit id, gB, _, by simp, q4, hke2, q2⟩
      | ret =>
        obtain ⟨q1, q2, q3, q4⟩ := over (some .ret) _ rfl
        refine ⟨_, _, q1, hnext false _ ⟨q3, ?_⟩⟩
        rw [hKit]
        exact .inr ⟨rfl, .ret, gB, _, by simp, q4, hke2, q2⟩

end Go.Vi
end
section
/- Code, whole. -/
namespace Go.Vi

/-- What goes to the next entry leaves. -/
def QN (c : Ctx) (k : Ex → St → Option V) (r : V) : Exit → Act → World → Prop := fun e a w => e = .normal ∧ ∃ s, k .normal s = some r ∧ ∃ g, FInv c g s a w

theorem code_in : ∀ n, CodeIn n := by
  intro n
  induction n with
  | zero =>
    intro c call nm yl rg K wr a0 ro fv m x st k Q g a Ds T w r _ _ _ _ hok
    cases hok
  | succ n ih =>
    intro c call nm yl rg K wr a0 ro fv m x st k Q g a Ds T w r hcall hK hyl hrg hok hr h hk ha hQ
    have hgd := good2_gated hcall
    have sub : ∀ (m : M) (x : Code) (st : St) (k : Ex → St → Option V) (Q : Exit → Act → World → Prop) (g : G) (a : Act) (Ds : List Nat) (T : Nat → Prop) (w : World) (r : V), codeOK2 c.P c.gl c.nt yl rg wr n m x = true → run call m st k = some r → Inv2 c nm T g st a Ds w → K T r w → agree wr a0 a → Goes2 c nm K wr a0 k Q → x.wpIn (FW ro) 0 c.P Q (dd a (marks Ds)) w :=
      fun m x st k Q g a Ds T w r => ih c call nm yl rg K wr a0 ro fv m x st k Q g a Ds T w r hcall hK hyl hrg
    have pse : ∀ (m : M) (st : St) (k : Ex → St → Option V) (g : G) (a : Act) (Ds : List Nat) (T : Nat → Prop) (w : World) (r : V), pseudo c.nt m = true → run call m st k = some r → Inv2 c nm T g st a Ds w → K T r w → ∃ st' g' T', k .normal st' = some r ∧ Inv2 c nm T' g' st' a Ds w ∧ K T' r w := by
      intro m st k g a Ds T w r hp hr h hk
      obtain ⟨B, Mv, w0, S0, -, g3, hgo⟩ := h.go
      obtain ⟨st', g', hk', h'⟩ := pseudo_run (c := reb (cx c B Mv w0 S0) g st w) hp hr g3
      obtain ⟨T', i', hk2⟩ := hgo K hK g' st' a w h'
      exact ⟨st', g', T', hk', i', hk2 r hk⟩
    have hseq1 : ∀ (y : Code), codeOK2 c.P c.gl c.nt yl rg wr n m y = true → (Code.seq .skip y).wpIn (FW ro) 0 c.P Q (dd a (marks Ds)) w := fun y hy =>
      wpIn_seq (wpIn_skip (sub m y st k Q g a Ds T w r hy hr h hk ha hQ))
    have hseq2 : ∀ (y : Code), codeOK2 c.P c.gl c.nt yl rg wr n m y = true → (Code.seq y .skip).wpIn (FW ro) 0 c.P Q (dd a (marks Ds)) w := fun y hy => by
      refine wpIn_seq (sub m y st k _ g a Ds T w r hy hr h hk ha fun r e s he T g a Ds w hi hk ha => ?_)
      cases e with
      | normal => exact wpIn_skip (hQ r _ s he T g a Ds w hi hk ha)
      | exit id => exact hQ r _ s he T g a Ds w hi hk ha
      | ret => exact hQ r _ s he T g a Ds w hi hk ha
    unfold codeOK2 at hok
    split at hok
    · rename_i p q
      split at hok
      · rename_i hp
        simp only [run] at hr
        obtain ⟨st', g', T', hr', h', hk'⟩ := pse _ _ _ _ _ _ _ _ _ hp hr h hk
        exact sub q x st' k Q g' a Ds T' w r hok hr' h' hk' ha hQ
      · split at hok
        · rename_i hq
          simp only [run] at hr
          refine sub p x st _ Q g a Ds T w r hok hr h hk ha fun r e s he T g a Ds w hi hk ha => ?_
          cases e with
          | normal =>
            obtain ⟨s', g', T', he', hi', hk'⟩ := pse _ _ _ _ _ _ _ _ _ hq he hi hk
            exact hQ r _ s' he' T' g' a Ds w hi' hk' ha
          | exit id => exact hQ r _ s he T g a Ds w hi hk ha
          | ret => exact hQ r _ s he T g a Ds w hi hk ha
        · split at hok
          · exact hseq1 _ hok
          · exact hseq2 _ hok
          · simp only [Bool.and_eq_true] at hok
            simp only [run] at hr
            refine wpIn_seq (sub p _ st _ _ g a Ds T w r hok.1 hr h hk ha fun r e s he T g a Ds w hi hk ha => ?_)
            cases e with
            | normal => exact sub q _ s k Q g a Ds T w r hok.2 he hi hk ha hQ
            | exit id => exact hQ r _ s he T g a Ds w hi hk ha
            | ret => exact hQ r _ s he T g a Ds w hi hk ha
          · cases hok
    · split at hok
      · exact hseq1 _ hok
      · exact hseq2 _ hok
      · split at hok
        · simp only [run] at hr
          exact wpIn_skip (hQ r _ st hr T g a Ds w h hk ha)
        · obtain ⟨st', g', T', hr', h', hk'⟩ := pse _ _ _ _ _ _ _ _ _ hok hr h hk
          exact wpIn_skip (hQ r _ st' hr' T' g' a Ds w h' hk' ha)
      · split at hok
        · rename_i draw' ms
          simp only [Bool.and_eq_true, beq_iff_eq, regOK2, List.all_eq_true] at hok
          obtain ⟨rfl, ⟨o1, o2⟩, o3⟩ := hok
          simp only [run] at hr
          split at hr
          case isFalse => cases hr
          rename_i ht
          simp only [Option.bind_eq_some_iff] at hr
          obtain ⟨s, hs, hk'⟩ := hr
          obtain ⟨B, Mv, w0, S0, -, g3, hgo⟩ := h.go
          refine reg_in (c := reb (cx c B Mv w0 S0) g st w) (call := gated call) hgd o1 o3 ha g3 ht (by rw [steps_gate _ _ o2]; exact hs) fun g1 a1 w1 hi ha1 => ?_
          obtain ⟨T1, i1, hk1⟩ := hgo K hK g1 s a1 w1 hi
          exact hQ r .normal s hk' T1 g1 a1 Ds w1 i1 (hk1 r hk) ha1
        · rename_i d t ms _
          simp only [Bool.and_eq_true, Bool.not_eq_true', List.all_eq_true] at hok
          obtain ⟨⟨⟨rfl, o1⟩, o2⟩, o3⟩ := hok
          obtain ⟨B, Mv, w0, S0, -, g3, hgo⟩ := h.go
          have hr' : run (gated call) (.nxt d t ms) st k = some r := by
            rw [← hr]
            simp only [run, steps_gate ms _ o2]
          refine wpIn_region_list ?_
          have hl := nxt_list (c := reb (cx c B Mv w0 S0) g st w) (Q := QN (reb (cx c B Mv w0 S0) g st w) k r) hgd o1 g3 hr' fun s hs g a w hi => ⟨rfl, s, hs, g, hi⟩
          have := list_in (Q := QN (reb (cx c B Mv w0 S0) g st w) k r) (rest := []) (Q' := Q) (n := 0) (ro := ro) (ds := marks Ds) ⟨(fun _ _ _ h => by cases h.1), (fun _ _ h => by cases h.1)⟩ (fun a1 w1 hq ha1 => by
            obtain ⟨-, s, hs, g1, hi⟩ := hq
            obtain ⟨T1, i1, hk1⟩ := hgo K hK g1 s a1 w1 hi
            exact hQ r .normal s hs T1 g1 a1 Ds w1 i1 (hk1 r hk) ha1) _ a w o3 ha hl
          rwa [List.append_nil] at this
        · rename_i pre f xs d post
          simp only [Bool.and_eq_true, Bool.not_eq_true'] at hok
          obtain ⟨⟨rfl, rfl⟩, o1⟩ := hok
          obtain ⟨rfl, rfl, hfv, hY⟩ := hyl rfl
          exact yld_in hcall hK hfv hY o1 hr h hk ha hQ
        · cases hok
      · split at hok
        · simp only [Bool.and_eq_true] at hok
          obtain ⟨⟨⟨h1, h2⟩, h3⟩, h4⟩ := hok
          have hinv := h.inv
          simp only [run] at hr
          split at hr
          · rename_i b hb
            have he := opnd_bool hinv h1 h2 hb
            rw [← dd_eval (ds := marks Ds)] at he
            cases b with
            | true => exact wpIn_cond_true he (sub _ _ st k Q g a Ds T w r h3 (by simpa using hr) h hk ha hQ)
            | false => exact wpIn_cond_false he (sub _ _ st k Q g a Ds T w r h4 (by simpa using hr) h hk ha hQ)
          · rename_i hb
            obtain ⟨r1, r2⟩ := same_some hr
            have hrel := opnd hinv h1 h2
            rw [hb] at hrel
            obtain ⟨b, he⟩ := Rel.abool_inv (show Rel w g.S .abool _ [] from hrel)
            rw [← dd_eval (ds := marks Ds)] at he
            cases b with
            | true => exact wpIn_cond_true he (sub _ _ st k Q g a Ds T w r h3 r1 h hk ha hQ)
            | false => exact wpIn_cond_false he (sub _ _ st k Q g a Ds T w r h4 r2 h hk ha hQ)
          · cases hr
        · cases hok
      · split at hok
        · simp only [Bool.and_eq_true, beq_iff_eq] at hok
          obtain ⟨rfl, h1⟩ := hok
          simp only [run] at hr
          refine wpIn_block (sub _ _ st _ _ g a Ds T w r h1 hr h hk ha fun r e s he T g a Ds w hi hk ha => ?_)
          cases e with
          | normal => exact hQ r _ s he T g a Ds w hi hk ha
          | exit i =>
            simp only at he
            split at he
            · rename_i hid
              subst hid
              show Exit.inBlock _ Q (.exit _) _ w
              simp only [Exit.inBlock, if_true]
              exact hQ r _ s he T g a Ds w hi hk ha
            · rename_i hid
              show Exit.inBlock _ Q (.exit _) _ w
              simp only [Exit.inBlock, if_neg hid]
              exact hQ r _ s he T g a Ds w hi hk ha
          | ret => exact hQ r _ s he T g a Ds w hi hk ha
        · cases hok
      · split at hok
        · rename_i y _ p _
          simp only [run] at hr
          have hex : ∃ N, loopN (run call p) N st k = some r := by
            unfold lim at hr
            split at hr
            · exact ⟨_, hr⟩
            · cases hr
          obtain ⟨N, hN⟩ := hex
          clear hr hseq1 hseq2
          have hs : ∀ N st g a Ds T w r, loopN (run call p) N st k = some r → Inv2 c nm T g st a Ds w → K T r w → agree wr a0 a → Code.roundsIn (FW ro) 0 c.P y Q N (dd a (marks Ds)) w := by
            intro N
            induction N with
            | zero => intro st g a Ds T w r hN; cases hN
            | succ N ih2 =>
              intro st g a Ds T w r hN h hk ha
              rw [roundsIn_succ]
              simp only [loopN] at hN
              refine sub p y st _ _ g a Ds T w r hok hN h hk ha fun r e s he T g a Ds w hi hk ha => ?_
              cases e with
              | normal => exact ih2 s g a Ds T w r he hi hk ha
              | exit i => exact hQ r _ s he T g a Ds w hi hk ha
              | ret => exact hQ r _ s he T g a Ds w hi hk ha
          exact wpIn_loop_rounds N (hs N st g a Ds T w r hN h hk ha)
        · cases hok
      · split at hok
        · simp only [beq_iff_eq] at hok
          subst hok
          simp only [run] at hr
          exact wpIn_exit (hQ r _ st hr T g a Ds w h hk ha)
        · cases hok
      · split at hok
        · simp only [run] at hr
          exact wpIn_ret (hQ r _ st hr T g a Ds w h hk ha)
        · cases hok
      · split at hok
        · rename_i f qs wl as' body'
          simp only [Bool.and_eq_true, decide_eq_true_eq, List.all_eq_true] at hok
          obtain ⟨⟨⟨⟨⟨⟨rfl, o1⟩, o2⟩, o3⟩, o4⟩, o5⟩, o6⟩ := hok
          obtain ⟨rfl, rfl, r0, hpl⟩ := hrg rfl
          have hr0 : r = r0 := (hpl _ _ _).1 hk
          subst hr0
          exact rng_in ih hcall hpl o1 o2 o3 o4 o5 o6 hr h ha hQ
        · cases hok
      · cases hok

end Go.Vi
end
section
/- Functions, iterators, environments. -/
namespace Go.Vi

/-- A function of the small code against the real one. -/
def funcOK (P : Program) (gl : List (Nat × List V)) (f : FuncId) (mf : MFunc) : Bool := match P.funcs[f]? with
  | some fn => match fn.body with
    | some x => !(fn.name == "runtime.NumGoroutine") && decide (mf.np ≤ fn.ntmps) && codeOK2 P gl fn.ntmps false true (fun _ => true) 1000 mf.body x && resOK P mf.res fn.results.toList
    | none => false
  | none => false

/-- An iterator of the small code against the real one. -/
def genOK (P : Program) (gl : List (Nat × List V)) (f : FuncId) (mf : MFunc) : Bool := match P.funcs[f]? with
  | some fn => match fn.body with
    | some x => !(fn.name == "runtime.NumGoroutine") && decide (mf.np ≤ fn.ntmps) && codeOK2 P gl fn.ntmps true false (fun t => t != 0) 1000 mf.body x && mf.res.isEmpty && fn.results.toList.isEmpty
    | none => false
  | none => false

theorem func_entry {P : Program} {gl : List (Nat × List V)} {f : FuncId} {mf : MFunc} (hok : funcOK P gl f mf = true) : Entry P f := by
  unfold funcOK at hok
  split at hok
  · split at hok
    · simp only [Bool.and_eq_true, Bool.not_eq_true'] at hok
      exact ⟨_, _, ‹_›, hok.1.1.1, ‹_›⟩
    · cases hok
  · cases hok

theorem gen_entry {P : Program} {gl : List (Nat × List V)} {f : FuncId} {mf : MFunc} (hok : genOK P gl f mf = true) : Entry P f := by
  unfold genOK at hok
  split at hok
  · split at hok
    · simp only [Bool.and_eq_true, Bool.not_eq_true'] at hok
      exact ⟨_, _, ‹_›, hok.1.1.1.1, ‹_›⟩
    · cases hok
  · cases hok

section
variable {c : Ctx} {g : G} {st : St} {a : Act} {w : World}

/-- A block that nothing of the function's is turns. -/
theorem FInv.turn {D : Nat} {o : Obj} (h : FInv c g st a w) (h1 : c.B ≤ D) (h2 : ¬ Vi.own g D) (h3 : ∀ k, ¬ g.S D k) : FInv c g st a (w.putObj D o) := by
  have ho : ∀ b, Vi.own g b → (w.putObj D o).heap[b]? = w.heap[b]? := fun b hb => World.putObj_heap_other fun e => h2 (e ▸ hb)
  exact h.world _ g.S (Keep.of_heap fun b k hs => World.putObj_heap_other fun e => h3 k (e ▸ hs)) (fun _ _ h => h) (fun t b hb => ⟨ho b (.inl ⟨t, hb⟩), fun _ h => h⟩) (fun d b hb => ⟨ho b (.inr ⟨d, hb⟩), fun _ h => h⟩)
    ⟨rfl, rfl, rfl, by simp, fun b hb _ => World.putObj_heap_other (by omega)⟩ (fun _ _ h => .inl h) fun b k hs => by simpa using h.lt b k hs

/-- The marks are taken, one after the other. -/
theorem leaves {fn : Func} {R : Ending → World → Prop} : ∀ (Ds : List Nat) (w : World), FInv c g st a w → Ds.Nodup → (∀ D ∈ Ds, c.B ≤ D ∧ ¬ own g D ∧ (∀ k, ¬ g.S D k) ∧ w.heap[D]? = some (.deferred (some []))) →
    (∀ w', FInv c g st a w' → ∃ v, (results fn a.tmps).run c.P w' = .ok v w' ∧ R (.returned v) w') → LeavesInM (FW none) 0 c.P fn a.tmps R (marks Ds) .returning w
  | [], w, h, _, _, hR => hR w h
  | D :: Ds, w, h, hn, hD, hR => by
    obtain ⟨d1, d2, d3, d4⟩ := hD D (by simp)
    rw [List.nodup_cons] at hn
    refine ⟨by simp, .inl ⟨D, _, rfl, run_takeDeferred d4, ?_⟩⟩
    refine leaves Ds _ (h.turn d1 d2 d3) hn.2 (fun D' hD' => ?_) hR
    obtain ⟨e1, e2, e3, e4⟩ := hD D' (List.mem_cons_of_mem _ hD')
    exact ⟨e1, e2, e3, (World.putObj_heap_other fun e => hn.1 (by rw [← e]; exact hD')).trans e4⟩

theorem Inv2.leaves {nm : Bool} {T : Nat → Prop} {Ds : List Nat} {fn : Func} {R : Ending → World → Prop} (h : Inv2 c nm T g st a Ds w) (hR : ∀ w', FInv c g st a w' → ∃ v, (results fn a.tmps).run c.P w' = .ok v w' ∧ R (.returned v) w') :
    LeavesInM (FW none) 0 c.P fn (dd a (marks Ds)).tmps R (dd a (marks Ds)).defers .returning w := by
  have hi := h.inv
  have e : (dd a (marks Ds)).defers = marks Ds := by unfold dd; rw [hi.defers]; rfl
  rw [e, dd_tmps]
  obtain ⟨B, Mv, w0, S0, -, -, h2, h3⟩ := h.ex
  refine Vi.leaves Ds w hi h.nd (fun D hD => ?_) hR
  obtain ⟨d1, d2, d3, d4, d5⟩ := h3 D hD
  refine ⟨d1, fun ho => ?_, fun k hk => ?_, d5⟩
  · rcases (own_fr h2 ho).1 with h4 | h4
    · exact absurd d2 (Nat.not_lt.2 h4)
    · exact d3 h4
  · rcases h2.new D k hk with h4 | h4 | h4
    · exact d4 k h4
    · exact absurd d2 (Nat.not_lt.2 h4)
    · exact d3 h4
end

theorem func_good {P : Program} {gl : List (Nat × List V)} {f : FuncId} {mf : MFunc} {args : List V} {r : V} {call : FuncId → List V → Option V} (hok : funcOK P gl f mf = true) (hcall : ∀ f args r, call f args = some r → Good2 P gl f args r)
    (hr : runF call mf args = some r) : Good P gl f args r := by
  intro w S rs os hargs hnd hlt hS hgl
  unfold funcOK at hok
  split at hok
  · rename_i fn hfn
    split at hok
    · rename_i x hx
      simp only [Bool.and_eq_true, Bool.not_eq_true', decide_eq_true_eq] at hok
      obtain ⟨⟨⟨-, hnp⟩, hcode⟩, hres⟩ := hok
      unfold runF at hr
      split at hr
      · rename_i hlen
        obtain ⟨a1, a2, a3⟩ := hargs
        let c : Ctx := { P, nt := fn.ntmps, B := w.heap.size, Mv := os.flatten, w0 := w, S0 := S, gl }
        let g : G := { S, β := fun _ => 0, O := fun t => os.getD t [], OB := fun _ => [] }
        let a : Act := { tmps := rs.toArray ++ Array.replicate (fn.ntmps - rs.toArray.size) Go.undef, defers := [] }
        obtain ⟨d1, d2⟩ := flatten_disj hnd
        have hm : ∀ t, ∀ b ∈ os.getD t [], b ∈ os.flatten := fun t b hb => by
          rw [List.getD_eq_getElem?_getD] at hb
          cases ho : os[t]? with
          | none => rw [ho] at hb; simp at hb
          | some o' => rw [ho] at hb; exact List.mem_flatten.2 ⟨o', List.mem_of_getElem? ho, hb⟩
        have hinv : FInv c g (start args) a w := by
          refine { size := ?_, defers := rfl, tm := fun t v hv => ?_, tmn := fun t ht => ?_, bxf := ?_, bxt := ?_, bxn := fun _ _ => rfl, dOO := d2, dBB := ?_, dOB := ?_, nO := d1, nB := ?_, fO := fun t b hb => ⟨.inr (hm t b hb), hlt b (hm t b hb)⟩, fB := ?_, hB := Nat.le_refl _, upd := Upd.refl _ _ _, keep := Keep.refl _ _, sub := fun _ _ h => h, new := fun _ _ h => .inl h, lt := hS, gl := hgl }
          · show (rs.toArray ++ Array.replicate (fn.ntmps - rs.toArray.size) Go.undef).size = fn.ntmps
            simp; omega
          · rw [get_start] at hv
            have ht := (List.getElem?_eq_some_iff.1 hv).1
            have hrt : rs[t]? = some (rs[t]'(by omega)) := List.getElem?_eq_getElem (by omega)
            have hot : os[t]? = some (os[t]'(by omega)) := List.getElem?_eq_getElem (by omega)
            have h1 := a3 t v _ _ hv hrt hot
            have e1 : a.tmps.getD t Go.undef = rs[t]'(by omega) := by
              show (rs.toArray ++ Array.replicate (fn.ntmps - rs.toArray.size) Go.undef).getD t Go.undef = _
              rw [Array.getD_eq_getD_getElem?, Array.getElem?_append_left (by simp; omega)]
              simp [show t < rs.length by omega]
            have e2 : g.O t = os[t]'(by omega) := by
              show os.getD t [] = _
              simp [hot]
            rw [e1, e2]
            exact .of_rel h1
          · rw [get_start] at ht
            show os.getD t [] = []
            have : args.length ≤ t := List.getElem?_eq_none_iff.1 ht
            rw [List.getD_eq_getElem?_getD, List.getElem?_eq_none (by omega)]
            rfl
          · intro d cs hd; cases hd
          · intro d cs hd; cases hd
          · intro d e _ b hb; cases hb
          · intro t d b _ hb; cases hb
          · intro d; exact List.nodup_nil
          · intro d b hb; cases hb
        refine (callsIn_wide (n := 0)).1 (callsIn_of_wp_marks (F := FW none) hfn hx trivial ?_)
        have hcin := code_in 1000 c call false false true (KP r) (fun _ => true) a none Go.undef mf.body x (start args) _ (bodyPostM (FW none) 0 P fn (Post w S os.flatten r)) g a [] (fun b => b < w.heap.size) w r hcall (KP_ks r) (fun h => (by cases h)) (fun _ => ⟨rfl, rfl, r, fun _ _ _ => Iff.rfl⟩) hcode hr (inv2_start hinv) rfl (fun _ _ => rfl) fun r' e s he T g' a' Ds w' hi hk _ => ?_
        · have e0 : dd a (marks []) = a := by rfl
          rw [e0] at hcin
          exact hcin
        · have hr' : r' = r := hk
          subst hr'
          have fin : resOf s mf.res = some r' → LeavesInM (FW none) 0 P fn (dd a' (marks Ds)).tmps (Post w S os.flatten r') (dd a' (marks Ds)).defers .returning w' := by
            intro hv
            refine hi.leaves fun w'' hi'' => ?_
            obtain ⟨rv, ov, k1, k2, k3, k4⟩ := results_ok hi'' hres hv
            exact ⟨rv, k1, rv, rfl, g'.S, ov, hi''.upd, hi''.keep, hi''.sub, hi''.new, hi''.lt, k2, k3, k4⟩
          cases e with
          | normal => exact fin he
          | ret => exact fin he
          | exit id => cases he
      · cases hr
    · cases hok
  · cases hok

theorem gen_good {P : Program} {gl : List (Nat × List V)} {f : FuncId} {mf : MFunc} {caps : List V} {r : V} {call : FuncId → List V → Option V} (hok : genOK P gl f mf = true) (hcall : ∀ f args r, call f args = some r → Good2 P gl f args r)
    (hr : ∀ fv, runF call mf (.raw fv :: caps) = some r) : GoodG P gl f caps r := by
  intro fv w S rs Mv K hargs hS hgl hK hY hK0
  have hr := hr fv
  unfold genOK at hok
  split at hok
  · rename_i fn hfn
    split at hok
    · rename_i x hx
      simp only [Bool.and_eq_true, Bool.not_eq_true', decide_eq_true_eq, List.isEmpty_iff] at hok
      obtain ⟨⟨⟨⟨-, hnp⟩, hcode⟩, hres⟩, hres2⟩ := hok
      unfold runF at hr
      split at hr
      · rename_i hlen
        obtain ⟨a1, a2, a3⟩ := hargs
        simp only [List.length_cons] at hlen
        let c : Ctx := { P, nt := fn.ntmps, B := w.heap.size, Mv := Mv, w0 := w, S0 := S, gl }
        let g : G := { S, β := fun _ => 0, O := fun _ => [], OB := fun _ => [] }
        let a : Act := { tmps := (fv :: rs).toArray ++ Array.replicate (fn.ntmps - (fv :: rs).toArray.size) Go.undef, defers := [] }
        have htm : ∀ t v, (fv :: rs)[t]? = some v → a.tmps.getD t Go.undef = v := by
          intro t v hv
          have ht := (List.getElem?_eq_some_iff.1 hv).1
          show ((fv :: rs).toArray ++ Array.replicate (fn.ntmps - (fv :: rs).toArray.size) Go.undef).getD t Go.undef = _
          rw [Array.getD_eq_getD_getElem?, Array.getElem?_append_left (by simpa using ht), List.getElem?_toArray, hv]
          rfl
        have hinv : FInv c g (start (.raw fv :: caps)) a w := by
          refine { size := ?_, defers := rfl, tm := fun t v hv => ?_, tmn := fun _ _ => rfl, bxf := ?_, bxt := ?_, bxn := fun _ _ => rfl, dOO := ?_, dBB := ?_, dOB := ?_, nO := ?_, nB := ?_, fO := ?_, fB := ?_, hB := Nat.le_refl _, upd := Upd.refl _ _ _, keep := Keep.refl _ _, sub := fun _ _ h => h, new := fun _ _ h => .inl h, lt := hS, gl := hgl }
          · show ((fv :: rs).toArray ++ Array.replicate (fn.ntmps - (fv :: rs).toArray.size) Go.undef).size = fn.ntmps
            simp; omega
          · rw [get_start] at hv
            cases t with
            | zero =>
              simp only [List.getElem?_cons_zero, Option.some.injEq] at hv
              subst hv
              rw [htm 0 fv rfl]
              exact .of_rel (.raw fv)
            | succ t =>
              simp only [List.getElem?_cons_succ] at hv
              have ht := (List.getElem?_eq_some_iff.1 hv).1
              have hrt : rs[t]? = some (rs[t]'(by omega)) := List.getElem?_eq_getElem (by omega)
              have hot : (caps.map fun _ => ([] : List Nat))[t]? = some [] := by simp [ht]
              rw [htm (t + 1) _ (by rw [List.getElem?_cons_succ]; exact hrt)]
              exact .of_rel (a3 t v _ _ hv hrt hot)
          · intro d cs hd; cases hd
          · intro d cs hd; cases hd
          · intro d e _ b hb; cases hb
          · intro d e _ b hb; cases hb
          · intro t d b _ hb; cases hb
          · intro d; exact List.nodup_nil
          · intro d; exact List.nodup_nil
          · intro d b hb; cases hb
          · intro d b hb; cases hb
        refine (callsIn_wide (n := 0)).1 (callsIn_of_wp_marks (F := FW none) hfn hx trivial ?_)
        have hcin := code_in 1000 c call true true false K (fun t => t != 0) a none fv mf.body x (start (.raw fv :: caps)) _ (bodyPostM (FW none) 0 P fn fun e w' => (∃ v, e = .returned v) ∧ ∃ T, K T (.tup []) w') g a [] (fun _ => False) w r hcall hK (fun _ => ⟨rfl, rfl, htm 0 fv rfl, hY⟩) (fun h => (by cases h)) hcode hr
          ⟨⟨c.B, c.Mv, c.w0, c.S0, fun _ => rfl, fun _ _ _ _ h => h, hinv, fun _ hd => by cases hd⟩, List.nodup_nil, fun _ => rfl, ⟨(fun b hb => by rcases hb with ⟨t, hb⟩ | ⟨d, hb⟩ <;> cases hb), (fun b k hb => .inl hb), (fun _ hb => hb.elim)⟩⟩ hK0 (fun _ _ => rfl) fun r' e s he T g' a' Ds w' hi hk _ => ?_
        · have e0 : dd a (marks []) = a := by rfl
          rw [e0] at hcin
          exact hcin
        · have fin : resOf s mf.res = some r' → LeavesInM (FW none) 0 P fn (dd a' (marks Ds)).tmps (fun e w' => (∃ v, e = .returned v) ∧ ∃ T, K T (.tup []) w') (dd a' (marks Ds)).defers .returning w' := by
            intro hv
            rw [hres] at hv
            have hr0 : r' = .tup [] := by
              simp only [resOf, resAll, Option.some.injEq] at hv
              exact hv.symm
            have hD := hi.yd rfl
            subst hD hr0
            have hi1 := hi.inv
            have e : (dd a' (marks [])).defers = [] := by unfold dd; rw [hi1.defers]; rfl
            rw [e, dd_tmps]
            obtain ⟨rv, ov, k1, -⟩ := results_ok (fn := fn) (rs := []) hi1 (by rw [hres2]; rfl) hv
            exact ⟨rv, k1, ⟨rv, rfl⟩, T, hk⟩
          cases e with
          | normal => exact fin he
          | ret => exact fin he
          | exit id => cases he
      · cases hr
    · cases hok
  · cases hok

/-- What a primitive is trusted for has been proved. -/
def PrimOK (P : Program) (gl : List (Nat × List V)) (E : Env) : Prop := ∀ f p args r, E f = .prim p → p args = some r → Good2 P gl f args r

def EnvOK (P : Program) (gl : List (Nat × List V)) (E : Env) : Prop := PrimOK P gl E ∧ (∀ f mf, E f = .code mf → f < 1000000 ∧ funcOK P gl f mf = true) ∧ ∀ f mf, E f = .gen mf → 1000000 ≤ f ∧ genOK P gl (f - 1000000) mf = true

theorem env_good2 {P : Program} {gl : List (Nat × List V)} {E : Env} (hE : EnvOK P gl E) {f : FuncId} {args : List V} {r : V} (h : pc E f args = some r) : Good2 P gl f args r := by
  have h0 := pc_spec h
  clear h
  induction h0 with
  | prim h hr => exact hE.1 _ _ _ _ h hr
  | code call h hc hr ih =>
    obtain ⟨h1, h2⟩ := hE.2.1 _ _ h
    exact ⟨fun _ => ⟨func_good h2 ih hr, func_entry h2⟩, fun h3 => absurd h1 (Nat.not_lt.2 h3)⟩
  | gen call h hc hr ih =>
    obtain ⟨h1, h2⟩ := hE.2.2 _ _ h
    exact ⟨fun h3 => absurd h3 (Nat.not_lt.2 h1), fun _ => ⟨gen_good h2 ih hr, gen_entry h2⟩⟩

theorem env_good {P : Program} {gl : List (Nat × List V)} {E : Env} (hE : EnvOK P gl E) {f : FuncId} {args : List V} {r : V} (h : pc E f args = some r) (hf : f < 1000000 := by decide) : Good P gl f args r ∧ Entry P f := (env_good2 hE h).1 hf

end Go.Vi
end
