/- Code. -/
import Derived.Test.YtomimhedehecdaaDoorViGComm
import Derived.Scope
namespace Go.Vi
variable {c : Ctx} {g : G} {st st' st1 : St} {a : Act} {w : World} {hs : List Hv}

/-! ### what is not in the real code -/
theorem FInv.dels (h : FInv c g st a w) (ks : List Nat) : ∃ g', FInv c g' (Vi.dels ks st) a w := by
  have h1 : ∀ (ks : List Nat) (g : G) (st : St), FInv c g st a w → ∃ g', FInv c g' { st with tm := ks.foldl Vi.del st.tm } a w := by
    intro ks
    induction ks with
    | nil => intro g st h; exact ⟨g, h⟩
    | cons k ks ih => intro g st h; exact ih _ _ (h.del k)
  have h2 : ∀ (ks : List Nat) (g : G) (st : St), FInv c g st a w → ∃ g', FInv c g' { st with bx := ks.foldl Vi.del st.bx } a w := by
    intro ks
    induction ks with
    | nil => intro g st h; exact ⟨g, h⟩
    | cons k ks ih => intro g st h; exact ih _ _ (h.nobox k)
  obtain ⟨g1, h3⟩ := h1 ks g st h
  exact h2 ks g1 _ h3

theorem FInv.freeze (h : FInv c g st a w) (d : Nat) {b : Bool} {cs : List V} (hb : get st.bx d = some (b, cs)) : ∃ g', FInv c g' { st with bx := put st.bx d (true, cps cs) } a w := by
  have hcp : ∀ (j : Nat) (y : V), (cps cs)[j]? = some y → ∃ y0, cs[j]? = some y0 ∧ y = cp y0 := fun j y hy => by
    simp only [cps, List.getElem?_map, Option.map_eq_some_iff] at hy
    obtain ⟨y0, h1, h2⟩ := hy
    exact ⟨y0, h1, h2.symm⟩
  have hlen : (cps cs).length = cs.length := by simp [cps]
  cases b with
  | true =>
    obtain ⟨h1, h2⟩ := h.bxt d cs hb
    refine ⟨_, h.rebx d (put st.bx d (true, cps cs)) (g.β d) [] (fun d' hd => by rw [get_put, if_neg hd]) (fun cs' hcs => by rw [get_put, if_pos rfl] at hcs; cases hcs)
      (fun cs' hcs => ⟨rfl, ?_⟩) (fun _ => rfl) (.inl rfl) (by simp) (by simp) (by simp) (by simp)⟩
    rw [get_put, if_pos rfl] at hcs
    cases hcs
    obtain ⟨-, b', o0, f, e, hc, hr⟩ := h2.ptr_inv
    rw [e]
    refine .ptr _ _ _ _ f (fun j hj => hc j (by omega)) fun j y hy => ?_
    obtain ⟨y0, h3, rfl⟩ := hcp j y hy
    exact (hr j y0 h3).copy
  | false =>
    obtain ⟨C, e, os, e1, e2, e3, e4, e5, e6⟩ := h.bxf d cs hb
    have hB : g.β d ∈ g.OB d := by rw [e5]; simp
    have hlt : g.β d < w.heap.size := (Array.getElem?_eq_some_iff.1 e1).1
    let S' : Stab := fun b k => g.S b k ∨ (b = g.β d ∧ k < cs.length)
    have h1 := (h.nobox d).world w S' (Keep.refl _ _) (fun _ _ h => .inl h) (fun t b hb => ⟨rfl, fun k hs => hs.resolve_right fun h2 => h.dOB t d b hb (h2.1 ▸ hB)⟩)
      (fun d' b hb => ⟨rfl, fun k hs => hs.resolve_right fun h2 => by
        simp only at hb
        split at hb
        · cases hb
        · rename_i hd; exact h.dBB d' d hd b hb (h2.1 ▸ hB)⟩) (Upd.refl _ _ _)
      (fun b k hs => hs.imp_right fun h2 => by
        have := (h.fB d _ hB).1
        rw [h2.1]; exact this) (fun b k hs => by
        rcases hs with h2 | h2
        · exact h.lt b k h2
        · exact h2.1 ▸ hlt)
    have h3 := h1.rebx d (put st.bx d (true, cps cs)) (g.β d) [] (fun d' hd => by rw [get_put, get_del, if_neg hd, if_neg hd]) (fun cs' hcs => by rw [get_put, if_pos rfl] at hcs; cases hcs)
      (fun cs' hcs => ⟨rfl, by
        rw [get_put, if_pos rfl] at hcs
        cases hcs
        have := Rel.ptr (w := w) (S := S') (cps cs) 0 (g.β d) 0 (fun j => C.getD j Go.undef) (fun j hj => by
          have hjC : j < C.size := by omega
          refine ⟨.inr ⟨rfl, by omega⟩, ?_⟩
          simp [World.cell?, e1, Array.getD, hjC]) (fun j y hy => by
          obtain ⟨y0, h4, rfl⟩ := hcp j y hy
          have hj := (List.getElem?_eq_some_iff.1 h4).1
          have hjC : j < C.size := by omega
          have ho : os[j]? = some (os[j]'(by omega)) := List.getElem?_eq_getElem (by omega)
          have h5 := (e4 j y0 C[j] _ h4 (by simp [hjC]) ho).copy
          simp only [Array.getD, hjC, dif_pos]
          exact h5.keep0 (Keep.refl _ _) fun _ _ h => .inl h)
        simpa using this⟩) (fun _ => rfl) (.inl (by simp)) (by simp) (by simp) (by simp) (by simp)
    exact ⟨_, h3⟩

theorem FInv.own (h : FInv c g st a w) (t : Nat) (ht : t < c.nt) : ∃ g', FInv c g' { st with tm := put st.tm t (low .s (st.at t)) } a w := by
  obtain ⟨g1, o1, h1, -, -, -⟩ := (Held.nil h).take t .s
  simp only [List.nil_append] at h1
  have hx : isX (low .s (st.at t)) = false := by
    generalize st.at t = v
    cases v with
    | sl o sz xs => cases o <;> rfl
    | mp o es => cases o <;> rfl
    | _ => rfl
  have hi : into true (some t) (low .s (st.at t), { st with tm := put st.tm t .undef }) = some { st with tm := put st.tm t (low .s (st.at t)) } := by
    have e : into true (some t) (low .s (st.at t), { st with tm := put st.tm t .undef }) = some { st with tm := put (put st.tm t .undef) t (low .s (st.at t)) } := by
      generalize low .s (st.at t) = v at hx
      cases v with
      | sl o sz xs => cases o <;> first | rfl | cases hx
      | mp o es => cases o <;> first | rfl | cases hx
      | _ => rfl
    rw [e, put_put]
  obtain ⟨g2, h2⟩ := h1.goes (fun d e => by cases e; exact ht) hi
  have e := put_self a t
  rw [show a.put (some t) (a.tmps.getD t Go.undef) = a from e] at h2
  exact ⟨g2, h2⟩

/-! ### code -/
def pseudo (nt : Nat) : M → Bool
  | .kill _ | .freeze _ => true
  | .own o t => decide (o = .s) && decide (t < nt)
  | _ => false

theorem pseudo_run {call : FuncId → List V → Option V} {m : M} {k : Ex → St → Option V} {r : V} (hp : pseudo c.nt m = true) (hr : run call m st k = some r) (h : FInv c g st a w) : ∃ st' g', k .normal st' = some r ∧ FInv c g' st' a w := by
  cases m <;> simp only [pseudo, Bool.false_eq_true] at hp
  case kill ks =>
    simp only [run] at hr
    obtain ⟨g', h'⟩ := h.dels ks
    exact ⟨_, g', hr, h'⟩
  case freeze d =>
    simp only [run] at hr
    split at hr
    · rename_i b cs hb
      obtain ⟨g', h'⟩ := h.freeze d hb
      exact ⟨_, g', hr, h'⟩
    · cases hr
  case own o t =>
    simp only [Bool.and_eq_true, decide_eq_true_eq] at hp
    obtain ⟨rfl, ht⟩ := hp
    simp only [run] at hr
    obtain ⟨g', h'⟩ := h.own t ht
    exact ⟨_, g', hr, h'⟩

def regOK (P : Program) (gl : List (Nat × List V)) (nt : Nat) (draw : Bool) (ops : Array Oper) (ms : List MO) : Bool := opsOK P gl nt ops ops.toList ms && (!draw || (P.follows .mixedOrders && drawOK ops ms))

theorem reg_wp {id : Nat} {draw : Bool} {ops : Array Oper} {ms : List MO} {call : FuncId → List V → Option V} {Q : Exit → Act → World → Prop} (hcall : ∀ f args r, call f args = some r → Good c.P c.gl f args r ∧ Entry c.P f)
    (hok : regOK c.P c.gl c.nt draw ops ms = true) (h : FInv c g st a w) (ht : (!draw || tidy ms st) = true) (hv : steps call ms st = some st1) (hQ : ∀ g a w, FInv c g st1 a w → Q .normal a w) : (Code.region id ops draw).wp c.P Q a w := by
  simp only [regOK, Bool.and_eq_true] at hok
  cases draw with
  | false => exact wp_region_list (ops_wp hcall _ _ g st a w hok.1 h hv hQ)
  | true =>
    simp only [Bool.not_true, Bool.false_or, Bool.and_eq_true] at hok ht
    exact wp_region_any hok.2.1 (draw_wp hcall hok.1 hok.2.2 h.drew ht hv hQ)

def nxtOK (P : Program) (gl : List (Nat × List V)) (nt d t : Nat) (ops : Array Oper) (ms : List MO) : Bool := match ops.toList with
  | o :: os => (match o.op with | .next (.tmp t') false => t == t' | _ => false) && o.dst == some d && o.guard.isNone && decide (d < nt) && opsOK P gl nt ops os ms
  | [] => false

theorem nxt_list {d t : Nat} {ops : Array Oper} {ms : List MO} {call : FuncId → List V → Option V} {k : Ex → St → Option V} {r : V} {Q : Exit → Act → World → Prop} (hcall : ∀ f args r, call f args = some r → Good c.P c.gl f args r ∧ Entry c.P f)
    (hok : nxtOK c.P c.gl c.nt d t ops ms = true) (h : FInv c g st a w) (hr : run call (.nxt d t ms) st k = some r) (hQ : ∀ s, k .normal s = some r → ∀ g a w, FInv c g s a w → Q .normal a w) : wpList c.P ops Q ops.toList a w := by
  unfold nxtOK at hok
  split at hok
  · rename_i o os hops
    simp only [Bool.and_eq_true, beq_iff_eq, decide_eq_true_eq, Option.isNone_iff_eq_none] at hok
    obtain ⟨⟨⟨⟨h1, h2⟩, h3⟩, h4⟩, h5⟩ := hok
    split at h1
    · rename_i t' ho
      simp only [beq_iff_eq] at h1
      subst h1
      rw [hops]
      unfold wpList
      have hw : Region.wanted o (yielded ops a.tmps) = true := by simp [Region.wanted, h3]
      rw [if_pos hw]
      left
      have rest : ∀ s g a w, FInv c g s a w → ((steps call ms s).bind fun st => k .normal st) = some r → wpList c.P ops Q os a w := by
        intro s g a w hi hs
        simp only [Option.bind_eq_some_iff] at hs
        obtain ⟨s2, hs2, hk⟩ := hs
        exact ops_wp hcall os ms g s a w h5 hi hs2 fun g a w hi => hQ s2 hk g a w hi
      have hdd : ∀ d', o.dst = some d' → d' < c.nt := fun d' e => by rw [h2] at e; cases e; exact h4
      simp only [run] at hr
      split at hr
      · rename_i cur hat
        rcases nxt_step h ho hat with ⟨-, hrun, g', hh⟩ | ⟨i, kv, hi, -⟩
        · unfold Oper.wp
          rw [hrun]
          obtain ⟨g2, h'⟩ := hh.goes (dst := o.dst) (p := true) hdd (by rw [h2]; rfl)
          exact rest _ _ _ _ h' hr
        · simp at hi
      · rename_i cur es hne hat
        obtain ⟨-, hall⟩ := allSame_some hr
        rcases nxt_step h ho hat with ⟨he, -⟩ | ⟨i, kv, hi, rv, w', hrun, g', hh⟩
        · exact absurd he (by simpa using hne)
        · have hlt := (List.getElem?_eq_some_iff.1 hi).1
          have hs := hall _ (List.mem_map.2 ⟨i, List.mem_range.2 hlt, rfl⟩)
          unfold Oper.wp
          rw [hrun]
          obtain ⟨g2, h'⟩ := hh.goes (dst := o.dst) (p := true) (st1 := stepTo d t es st i) hdd (by rw [h2]; simp [into, stepTo, hi])
          exact rest _ _ _ _ h' hs
      · cases hr
    · cases h1
  · cases hok

theorem nxt_wp {id d t : Nat} {ops : Array Oper} {ms : List MO} {call : FuncId → List V → Option V} {k : Ex → St → Option V} {r : V} {Q : Exit → Act → World → Prop} (hcall : ∀ f args r, call f args = some r → Good c.P c.gl f args r ∧ Entry c.P f)
    (hok : nxtOK c.P c.gl c.nt d t ops ms = true) (h : FInv c g st a w) (hr : run call (.nxt d t ms) st k = some r) (hQ : ∀ s, k .normal s = some r → ∀ g a w, FInv c g s a w → Q .normal a w) : (Code.region id ops false).wp c.P Q a w :=
  wp_region_list (nxt_list hcall hok h hr hQ)

/-- The small code against the real one. -/
def codeOK (P : Program) (gl : List (Nat × List V)) (nt : Nat) : Nat → M → Code → Bool
  | 0, _, _ => false
  | n + 1, m, x => match m with
    | .seq p q =>
      if pseudo nt p then codeOK P gl nt n q x else if pseudo nt q then codeOK P gl nt n p x else match x with
        | .seq .skip y => codeOK P gl nt n m y
        | .seq y .skip => codeOK P gl nt n m y
        | .seq y z => codeOK P gl nt n p y && codeOK P gl nt n q z
        | _ => false
    | _ => match x with
      | .seq .skip y => codeOK P gl nt n m y
      | .seq y .skip => codeOK P gl nt n m y
      | .skip => (match m with | .skip => true | _ => pseudo nt m)
      | .region _ ops draw => (match m with
        | .reg draw' ms => draw == draw' && regOK P gl nt draw ops ms
        | .nxt d t ms => !draw && nxtOK P gl nt d t ops ms
        | _ => false)
      | .cond C y z => (match m with | .cond b p q => opndOK gl b C && plainA b && codeOK P gl nt n p y && codeOK P gl nt n q z | _ => false)
      | .block id y => (match m with | .block id' p => id == id' && codeOK P gl nt n p y | _ => false)
      | .loop y => (match m with | .loop p => codeOK P gl nt n p y | _ => false)
      | .exit id => (match m with | .exit id' => id == id' | _ => false)
      | .scope y => (match m with | .scope p => codeOK P gl nt n p y | _ => false)
      | .ret => (match m with | .ret => true | _ => false)
      | _ => false

def Ex.real : Ex → Exit
  | .normal => .normal
  | .exit id => .exit id
  | .ret => .ret

/-- What is asked of the places that control goes to. -/
def Goes (c : Ctx) (k : Ex → St → Option V) (r : V) (Q : Exit → Act → World → Prop) : Prop := ∀ e s, k e s = some r → ∀ g a w, FInv c g s a w → Q e.real a w

theorem code_wp {call : FuncId → List V → Option V} {r : V} (hcall : ∀ f args r, call f args = some r → Good c.P c.gl f args r ∧ Entry c.P f) :
    ∀ (n : Nat) (m : M) (x : Code) (st : St) (k : Ex → St → Option V) (Q : Exit → Act → World → Prop) (g : G) (a : Act) (w : World), codeOK c.P c.gl c.nt n m x = true → run call m st k = some r → FInv c g st a w → Goes c k r Q → x.wp c.P Q a w := by
  intro n
  induction n with
  | zero => intro m x st k Q g a w hok; cases hok
  | succ n ih =>
    intro m x st k Q g a w hok hr h hQ
    have hseq1 : ∀ (y : Code), codeOK c.P c.gl c.nt n m y = true → (Code.seq .skip y).wp c.P Q a w := fun y hy =>
      wp_seq (wp_skip (ih m y st k Q g a w hy hr h hQ))
    have hseq2 : ∀ (y : Code), codeOK c.P c.gl c.nt n m y = true → (Code.seq y .skip).wp c.P Q a w := fun y hy => by
      refine wp_seq (ih m y st k _ g a w hy hr h fun e s he g a w hi => ?_)
      cases e with
      | normal => exact wp_skip (hQ _ s he g a w hi)
      | exit id => exact hQ _ s he g a w hi
      | ret => exact hQ _ s he g a w hi
    unfold codeOK at hok
    split at hok
    · rename_i p q
      split at hok
      · rename_i hp
        simp only [run] at hr
        obtain ⟨st', g', hr', h'⟩ := pseudo_run hp hr h
        exact ih q x st' k Q g' a w hok hr' h' hQ
      · split at hok
        · rename_i hq
          simp only [run] at hr
          refine ih p x st _ Q g a w hok hr h fun e s he g a w hi => ?_
          cases e with
          | normal =>
            obtain ⟨s', g', he', hi'⟩ := pseudo_run hq he hi
            exact hQ _ s' he' g' a w hi'
          | exit id => exact hQ _ s he g a w hi
          | ret => exact hQ _ s he g a w hi
        · split at hok
          · exact hseq1 _ hok
          · exact hseq2 _ hok
          · simp only [Bool.and_eq_true] at hok
            simp only [run] at hr
            refine wp_seq (ih p _ st _ _ g a w hok.1 hr h fun e s he g a w hi => ?_)
            cases e with
            | normal => exact ih q _ s k Q g a w hok.2 he hi hQ
            | exit id => exact hQ _ s he g a w hi
            | ret => exact hQ _ s he g a w hi
          · cases hok
    · split at hok
      · exact hseq1 _ hok
      · exact hseq2 _ hok
      · split at hok
        · simp only [run] at hr
          exact wp_skip (hQ _ st hr g a w h)
        · obtain ⟨st', g', hr', h'⟩ := pseudo_run hok hr h
          exact wp_skip (hQ _ st' hr' g' a w h')
      · split at hok
        · simp only [Bool.and_eq_true, beq_iff_eq] at hok
          simp only [run] at hr
          split at hr
          case isFalse => cases hr
          rename_i ht
          simp only [Option.bind_eq_some_iff] at hr
          obtain ⟨s, hs, hk⟩ := hr
          rw [← hok.1] at ht
          exact reg_wp hcall hok.2 h ht hs fun g a w hi => hQ _ s hk g a w hi
        · simp only [Bool.and_eq_true, Bool.not_eq_true'] at hok
          obtain ⟨rfl, hok⟩ := hok
          exact nxt_wp hcall hok h hr fun s hk g a w hi => hQ _ s hk g a w hi
        · cases hok
      · split at hok
        · simp only [Bool.and_eq_true] at hok
          obtain ⟨⟨⟨h1, h2⟩, h3⟩, h4⟩ := hok
          simp only [run] at hr
          split at hr
          · rename_i b hb
            have he := opnd_bool h h1 h2 hb
            cases b with
            | true => exact wp_cond_true he (ih _ _ st k Q g a w h3 (by simpa using hr) h hQ)
            | false => exact wp_cond_false he (ih _ _ st k Q g a w h4 (by simpa using hr) h hQ)
          · rename_i hb
            obtain ⟨r1, r2⟩ := same_some hr
            have hrel := opnd h h1 h2
            rw [hb] at hrel
            obtain ⟨b, he⟩ := Rel.abool_inv (show Rel w g.S .abool _ [] from hrel)
            cases b with
            | true => exact wp_cond_true he (ih _ _ st k Q g a w h3 r1 h hQ)
            | false => exact wp_cond_false he (ih _ _ st k Q g a w h4 r2 h hQ)
          · cases hr
        · cases hok
      · split at hok
        · simp only [Bool.and_eq_true, beq_iff_eq] at hok
          obtain ⟨rfl, h1⟩ := hok
          simp only [run] at hr
          refine wp_block (ih _ _ st _ _ g a w h1 hr h fun e s he g a w hi => ?_)
          cases e with
          | normal => exact hQ _ s he g a w hi
          | exit i =>
            simp only at he
            split at he
            · rename_i hid
              subst hid
              show Exit.inBlock _ Q (.exit _) a w
              simp only [Exit.inBlock, if_true]
              exact hQ _ s he g a w hi
            · rename_i hid
              show Exit.inBlock _ Q (.exit _) a w
              simp only [Exit.inBlock, if_neg hid]
              exact hQ _ s he g a w hi
          | ret => exact hQ _ s he g a w hi
        · cases hok
      · split at hok
        · rename_i y _ p _
          simp only [run] at hr
          have hex : ∃ N, loopN (run call p) N st k = some r := by
            unfold lim at hr
            split at hr
            · exact ⟨_, hr⟩
            · cases hr
          obtain ⟨N, hN⟩ := hex
          refine wp_loop_rounds N ?_
          clear hr hseq1 hseq2
          induction N generalizing st g a w with
          | zero => cases hN
          | succ N ih2 =>
            rw [rounds_succ]
            simp only [loopN] at hN
            refine ih p y st _ _ g a w hok hN h fun e s he g a w hi => ?_
            cases e with
            | normal => exact ih2 s g a w hi he
            | exit i => exact hQ _ s he g a w hi
            | ret => exact hQ _ s he g a w hi
        · cases hok
      · split at hok
        · simp only [beq_iff_eq] at hok
          subst hok
          simp only [run] at hr
          exact wp_exit (hQ _ st hr g a w h)
        · cases hok
      · split at hok
        · simp only [run] at hr
          refine wp_scope_straight (ih _ _ st _ _ g a w hok hr h fun e s he g a w hi => ?_)
          cases e <;> exact hQ _ s he g a w hi
        · cases hok
      · split at hok
        · simp only [run] at hr
          exact wp_ret (hQ _ st hr g a w h)
        · cases hok
      · cases hok

end Go.Vi
