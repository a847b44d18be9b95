/- Loops by rewriting, and a run that the kernel can follow. -/
import Derived.Test.YtomimhedehecdaaDoorViCore
namespace Go.Vi

abbrev Kn := Ex → St → Option V

/-- One continuation gives all that another one gives. -/
def KLe (k k' : Kn) : Prop := ∀ e s r, k e s = some r → k' e s = some r

theorem KLe.seq {k k' : Kn} (h : KLe k k') {f f' : St → Option V} (hf : ∀ s r, f s = some r → f' s = some r) :
    KLe (fun e s => match e with | .normal => f s | e => k e s) (fun e s => match e with | .normal => f' s | e => k' e s) := by
  intro e s r hr
  cases e with
  | normal => exact hf s r hr
  | exit i => exact h _ s r hr
  | ret => exact h _ s r hr

theorem same_mk {x y : Option V} {r : V} (h1 : x = some r) (h2 : y = some r) : same x y = some r := by
  unfold same; rw [h1, h2]; simp

theorem allSame_mk {r : V} : ∀ {l : List (Option V)}, l ≠ [] → (∀ x ∈ l, x = some r) → allSame l = some r
  | [], h, _ => absurd rfl h
  | [x], _, h => by simpa [allSame] using h x (by simp)
  | x :: y :: l, _, h => same_mk (h x (by simp)) (allSame_mk (by simp) fun z hz => h z (List.mem_cons_of_mem _ hz))

theorem lim_some {g : Nat → Option V} {r : V} (h : lim g = some r) : ∃ n, g n = some r := by
  unfold lim at h
  split at h
  · exact ⟨_, h⟩
  · cases h

theorem loopN_mono {b : St → Kn → Option V} (hb : ∀ st k k', KLe k k' → ∀ r, b st k = some r → b st k' = some r) :
    ∀ (n : Nat) (st : St) (k k' : Kn), KLe k k' → ∀ r, loopN b n st k = some r → loopN b n st k' = some r
  | 0, _, _, _, _, _, h => by cases h
  | n + 1, st, k, k', hk, r, h => by
    simp only [loopN] at h ⊢
    exact hb st _ _ (hk.seq fun s r hr => loopN_mono hb n s k k' hk r hr) r h

theorem rnds_mono {b b' : List V → St → Kn → Option V} (hb : ∀ x st k k', KLe k k' → ∀ r, b x st k = some r → b' x st k' = some r) (st0 : St) :
    ∀ (xs : List V) (st : St) (k k' : Kn), KLe k k' → ∀ r, rnds b st0 xs st k = some r → rnds b' st0 xs st k' = some r
  | [], _, _, _, hk, r, h => hk _ _ _ h
  | x :: xs, st, k, k', hk, r, h => by
    cases x with
    | tup x =>
      simp only [rnds] at h ⊢
      refine hb x st _ _ (fun e s r hr => ?_) r h
      cases e with
      | normal => exact rnds_mono hb st0 xs _ k k' hk r hr
      | exit i => exact hk _ _ _ hr
      | ret => exact hk _ _ _ hr
    | _ => simp only [rnds] at h; cases h

theorem run_mono {call : FuncId → List V → Option V} : ∀ (c : M) (st : St) (k k' : Kn), KLe k k' → ∀ r, run call c st k = some r → run call c st k' = some r
  | .skip, st, k, k', hk, r, h => hk _ _ _ h
  | .reg d ops, st, k, k', hk, r, h => by
    simp only [run] at h ⊢
    split at h
    · rename_i ht
      rw [if_pos ht]
      simp only [Option.bind_eq_some_iff] at h ⊢
      obtain ⟨u, hu, h⟩ := h
      exact ⟨u, hu, hk _ _ _ h⟩
    · cases h
  | .seq a b, st, k, k', hk, r, h => by
    simp only [run] at h ⊢
    exact run_mono a st _ _ (hk.seq fun s r hr => run_mono b s k k' hk r hr) r h
  | .cond c t e, st, k, k', hk, r, h => by
    simp only [run] at h ⊢
    revert h
    cases st.val c with
    | bool b => cases b <;> simp <;> exact run_mono _ st k k' hk r
    | abool => exact fun h => same_mk (run_mono t st k k' hk r (same_some h).1) (run_mono e st k k' hk r (same_some h).2)
    | _ => intro h; cases h
  | .block id b, st, k, k', hk, r, h => by
    simp only [run] at h ⊢
    refine run_mono b st _ _ (fun e s r hr => ?_) r h
    cases e with
    | normal => exact hk _ _ _ hr
    | exit i =>
      dsimp only at hr ⊢
      split at hr
      · rename_i hi; rw [if_pos hi]; exact hk _ _ _ hr
      · rename_i hi; rw [if_neg hi]; exact hk _ _ _ hr
    | ret => exact hk _ _ _ hr
  | .loop b, st, k, k', hk, r, h => by
    simp only [run] at h
    obtain ⟨n, hn⟩ := lim_some h
    exact run_loop n (loopN_mono (fun st k k' hk r h => run_mono b st k k' hk r h) n st k k' hk r hn)
  | .exit id, st, k, k', hk, r, h => hk _ _ _ h
  | .scope b, st, k, k', hk, r, h => by simp only [run] at h ⊢; exact run_mono b st k k' hk r h
  | .ret, st, k, k', hk, r, h => hk _ _ _ h
  | .freeze d, st, k, k', hk, r, h => by
    simp only [run] at h ⊢
    revert h
    cases get st.bx d with
    | none => intro h; cases h
    | some bc => exact fun h => hk _ _ _ h
  | .kill ks, st, k, k', hk, r, h => hk _ _ _ h
  | .own o t, st, k, k', hk, r, h => hk _ _ _ h
  | .nxt d t ops, st, k, k', hk, r, h => by
    have one : ∀ s r, ((steps call ops s).bind fun st => k .normal st) = some r → ((steps call ops s).bind fun st => k' .normal st) = some r := by
      intro s r h
      simp only [Option.bind_eq_some_iff] at h ⊢
      obtain ⟨u, hu, h⟩ := h
      exact ⟨u, hu, hk _ _ _ h⟩
    simp only [run] at h ⊢
    revert h
    generalize st.at t = u
    cases u with
    | it cur es =>
      cases es with
      | nil => exact fun h => one _ r h
      | cons e es =>
        intro h
        obtain ⟨h1, h2⟩ := allSame_some h
        refine allSame_mk (by simp) fun x hx => ?_
        obtain ⟨i, hi, rfl⟩ := List.mem_map.1 hx
        exact one _ r (h2 _ (List.mem_map.2 ⟨i, hi, rfl⟩))
    | _ => intro h; cases h
  | .yld pre f args d post, st, k, k', hk, r, h => by
    have one : ∀ s r, ((steps call post s).bind fun st => k .normal st) = some r → ((steps call post s).bind fun st => k' .normal st) = some r := by
      intro s r h
      simp only [Option.bind_eq_some_iff] at h ⊢
      obtain ⟨u, hu, h⟩ := h
      exact ⟨u, hu, hk _ _ _ h⟩
    simp only [run, Option.bind_eq_some_iff] at h ⊢
    obtain ⟨u, hu, h⟩ := h
    refine ⟨u, hu, ?_⟩
    split at h
    · rename_i u0 v0 e1 e2
      split at h
      · rename_i hcnd
        rw [if_pos hcnd]
        split at h
        · rename_i l h1 h2
          rw [one _ _ h1, one _ _ h2]
          exact h
        · cases h
      · cases h
    · cases h
  | .rngf f ps wr as body, st, k, k', hk, r, h => by
    simp only [run] at h ⊢
    revert h
    generalize st.raw f = z
    cases z with
    | fn fn fs cs =>
      cases fn with
      | func g =>
        cases fs with
        | nil =>
          simp only
          split
          · intro h
            split at h
            · rename_i l h1
              refine rnds_mono (fun x s k k' hk r h => ?_) st l st k k' hk r h
              split at h
              · rename_i hl
                rw [if_pos hl]
                refine run_mono as _ _ _ (fun e s r hr => ?_) r h
                cases e with
                | normal => exact run_mono body s k k' hk r hr
                | exit i => exact hr
                | ret => exact hr
              · cases h
            · cases h
          · exact id
        | cons => exact id
      | _ => cases fs <;> exact id
    | _ => exact id

/-- What a continuation gives is what some stage of it gives. -/
structure Stages (k : Kn) (s : Nat → Kn) : Prop where
  up : ∀ n m, n ≤ m → KLe (s n) (s m)
  all : ∀ e st r, k e st = some r → ∃ n, s n e st = some r

theorem Stages.seq {k : Kn} {s : Nat → Kn} (h : Stages k s) {f : St → Option V} {fs : Nat → St → Option V} (hup : ∀ n m, n ≤ m → ∀ st r, fs n st = some r → fs m st = some r) (hall : ∀ st r, f st = some r → ∃ n, fs n st = some r) :
    Stages (fun e st => match e with | .normal => f st | e => k e st) (fun n e st => match e with | .normal => fs n st | e => s n e st) := by
  refine ⟨fun n m hn => (h.up n m hn).seq (hup n m hn), fun e st r hr => ?_⟩
  cases e with
  | normal => exact hall st r hr
  | exit i => exact h.all _ _ _ hr
  | ret => exact h.all _ _ _ hr

theorem loopN_stage {b : St → Kn → Option V} (hm : ∀ st k k', KLe k k' → ∀ r, b st k = some r → b st k' = some r) (hb : ∀ st k s, Stages k s → ∀ r, b st k = some r → ∃ n, b st (s n) = some r) :
    ∀ (n : Nat) (st : St) (k : Kn) (s : Nat → Kn), Stages k s → ∀ r, loopN b n st k = some r → ∃ m, loopN b n st (s m) = some r
  | 0, _, _, _, _, _, h => by cases h
  | n + 1, st, k, s, hk, r, h => by
    simp only [loopN] at h ⊢
    exact hb st _ _ (hk.seq (fun i j hij st r hr => loopN_mono hm n st _ _ (hk.up i j hij) r hr) (fun st r hr => loopN_stage hm hb n st k s hk r hr)) r h

theorem rnds_stage {b : List V → St → Kn → Option V} (hm : ∀ x st k k', KLe k k' → ∀ r, b x st k = some r → b x st k' = some r) (hb : ∀ x st k s, Stages k s → ∀ r, b x st k = some r → ∃ n, b x st (s n) = some r) (st0 : St) :
    ∀ (xs : List V) (st : St) (k : Kn) (s : Nat → Kn), Stages k s → ∀ r, rnds b st0 xs st k = some r → ∃ n, rnds b st0 xs st (s n) = some r
  | [], _, _, _, hk, r, h => hk.all _ _ _ h
  | x :: xs, st, k, s, hk, r, h => by
    cases x with
    | tup x =>
      simp only [rnds] at h ⊢
      refine hb x st _ _ ⟨fun n m hn e st r hr => ?_, fun e st r hr => ?_⟩ r h
      · cases e with
        | normal => exact rnds_mono hm st0 xs _ _ _ (hk.up n m hn) r hr
        | exit i => exact hk.up n m hn _ _ _ hr
        | ret => exact hk.up n m hn _ _ _ hr
      · cases e with
        | normal => exact rnds_stage hm hb st0 xs _ k s hk r hr
        | exit i => exact hk.all _ _ _ hr
        | ret => exact hk.all _ _ _ hr
    | _ => simp only [rnds] at h; cases h

theorem run_stage {call : FuncId → List V → Option V} : ∀ (c : M) (st : St) (k : Kn) (s : Nat → Kn), Stages k s → ∀ r, run call c st k = some r → ∃ n, run call c st (s n) = some r
  | .skip, st, k, s, hk, r, h => hk.all _ _ _ h
  | .reg d ops, st, k, s, hk, r, h => by
    simp only [run] at h ⊢
    split at h
    · rename_i ht
      simp only [Option.bind_eq_some_iff] at h
      obtain ⟨u, hu, h⟩ := h
      obtain ⟨n, hn⟩ := hk.all _ _ _ h
      exact ⟨n, by simp [ht, hu, hn]⟩
    · cases h
  | .seq a b, st, k, s, hk, r, h => by
    simp only [run] at h ⊢
    exact run_stage a st _ _ (hk.seq (fun i j hij st r hr => run_mono b st _ _ (hk.up i j hij) r hr) (fun st r hr => run_stage b st k s hk r hr)) r h
  | .cond c t e, st, k, s, hk, r, h => by
    simp only [run] at h ⊢
    revert h
    cases st.val c with
    | bool b => cases b <;> simp <;> exact run_stage _ st k s hk r
    | abool =>
      intro h
      obtain ⟨n, hn⟩ := run_stage t st k s hk r (same_some h).1
      obtain ⟨m, hm⟩ := run_stage e st k s hk r (same_some h).2
      exact ⟨max n m, same_mk (run_mono t st _ _ (hk.up n _ (Nat.le_max_left ..)) r hn) (run_mono e st _ _ (hk.up m _ (Nat.le_max_right ..)) r hm)⟩
    | _ => intro h; cases h
  | .block id b, st, k, s, hk, r, h => by
    simp only [run] at h ⊢
    refine run_stage b st _ _ ⟨fun n m hn e st r hr => ?_, fun e st r hr => ?_⟩ r h
    · cases e with
      | normal => exact hk.up n m hn _ _ _ hr
      | exit i =>
        dsimp only at hr ⊢
        split at hr
        · rename_i hi; rw [if_pos hi]; exact hk.up n m hn _ _ _ hr
        · rename_i hi; rw [if_neg hi]; exact hk.up n m hn _ _ _ hr
      | ret => exact hk.up n m hn _ _ _ hr
    · cases e with
      | normal => exact hk.all _ _ _ hr
      | exit i =>
        dsimp only at hr ⊢
        split at hr
        · rename_i hi; simp only [if_pos hi]; exact hk.all _ _ _ hr
        · rename_i hi; simp only [if_neg hi]; exact hk.all _ _ _ hr
      | ret => exact hk.all _ _ _ hr
  | .loop b, st, k, s, hk, r, h => by
    simp only [run] at h
    obtain ⟨n, hn⟩ := lim_some h
    obtain ⟨m, hm⟩ := loopN_stage (fun st k k' hk r h => run_mono b st k k' hk r h) (fun st k s hk r h => run_stage b st k s hk r h) n st k s hk r hn
    exact ⟨m, run_loop n hm⟩
  | .exit id, st, k, s, hk, r, h => hk.all _ _ _ h
  | .scope b, st, k, s, hk, r, h => by simp only [run] at h ⊢; exact run_stage b st k s hk r h
  | .ret, st, k, s, hk, r, h => hk.all _ _ _ h
  | .freeze d, st, k, s, hk, r, h => by
    simp only [run] at h ⊢
    revert h
    cases get st.bx d with
    | none => intro h; cases h
    | some bc => exact fun h => hk.all _ _ _ h
  | .kill ks, st, k, s, hk, r, h => hk.all _ _ _ h
  | .own o t, st, k, s, hk, r, h => hk.all _ _ _ h
  | .nxt d t ops, st, k, s, hk, r, h => by
    have one : ∀ q r, ((steps call ops q).bind fun st => k .normal st) = some r → ∃ n, ((steps call ops q).bind fun st => s n .normal st) = some r := by
      intro q r h
      simp only [Option.bind_eq_some_iff] at h ⊢
      obtain ⟨u, hu, h⟩ := h
      obtain ⟨n, hn⟩ := hk.all _ _ _ h
      exact ⟨n, u, hu, hn⟩
    have up : ∀ q r n m, n ≤ m → ((steps call ops q).bind fun st => s n .normal st) = some r → ((steps call ops q).bind fun st => s m .normal st) = some r := by
      intro q r n m hn h
      simp only [Option.bind_eq_some_iff] at h ⊢
      obtain ⟨u, hu, h⟩ := h
      exact ⟨u, hu, hk.up n m hn _ _ _ h⟩
    simp only [run] at h ⊢
    revert h
    generalize st.at t = u
    cases u with
    | it cur es =>
      cases es with
      | nil => exact fun h => one _ r h
      | cons e es =>
        intro h
        obtain ⟨h1, h2⟩ := allSame_some h
        have key : ∀ (l : List Nat), (∀ i ∈ l, i ∈ List.range (e :: es).length) → ∃ n, ∀ i ∈ l, ((steps call ops (stepTo d t (e :: es) st i)).bind fun st => s n .normal st) = some r := by
          intro l
          induction l with
          | nil => exact fun _ => ⟨0, fun i hi => by cases hi⟩
          | cons i l ih =>
            intro hl
            obtain ⟨n, hn⟩ := ih fun j hj => hl j (List.mem_cons_of_mem _ hj)
            obtain ⟨m, hm⟩ := one _ r (h2 _ (List.mem_map.2 ⟨i, hl i (List.mem_cons_self ..), rfl⟩))
            refine ⟨max n m, fun j hj => ?_⟩
            rcases List.mem_cons.1 hj with rfl | hj
            · exact up _ _ _ _ (Nat.le_max_right ..) hm
            · exact up _ _ _ _ (Nat.le_max_left ..) (hn j hj)
        obtain ⟨n, hn⟩ := key _ fun i hi => hi
        refine ⟨n, allSame_mk (by simp) fun x hx => ?_⟩
        obtain ⟨i, hi, rfl⟩ := List.mem_map.1 hx
        exact hn i hi
    | _ => intro h; cases h
  | .yld pre f args d post, st, k, s, hk, r, h => by
    have one : ∀ q r, ((steps call post q).bind fun st => k .normal st) = some r → ∃ n, ((steps call post q).bind fun st => s n .normal st) = some r := by
      intro q r h
      simp only [Option.bind_eq_some_iff] at h ⊢
      obtain ⟨u, hu, h⟩ := h
      obtain ⟨n, hn⟩ := hk.all _ _ _ h
      exact ⟨n, u, hu, hn⟩
    have up : ∀ q r n m, n ≤ m → ((steps call post q).bind fun st => s n .normal st) = some r → ((steps call post q).bind fun st => s m .normal st) = some r := by
      intro q r n m hn h
      simp only [Option.bind_eq_some_iff] at h ⊢
      obtain ⟨u, hu, h⟩ := h
      exact ⟨u, hu, hk.up n m hn _ _ _ h⟩
    simp only [run, Option.bind_eq_some_iff] at h ⊢
    obtain ⟨u, hu, h⟩ := h
    split at h
    · rename_i u0 v0 e1 e2
      split at h
      · rename_i hcnd
        split at h
        · rename_i l h1 h2
          obtain ⟨n, hn⟩ := one _ _ h1
          obtain ⟨m, hm⟩ := one _ _ h2
          refine ⟨max n m, u, hu, ?_⟩
          rw [e1, e2]
          simp only
          rw [if_pos hcnd, up _ _ _ _ (Nat.le_max_left n m) hn, up _ _ _ _ (Nat.le_max_right n m) hm]
          exact h
        · cases h
      · cases h
    · cases h
  | .rngf f ps wr as body, st, k, s, hk, r, h => by
    simp only [run] at h ⊢
    revert h
    generalize st.raw f = z
    cases z with
    | fn fn fs cs =>
      cases fn with
      | func g =>
        cases fs with
        | nil =>
          simp only
          split
          · intro h
            split at h
            · rename_i l h1
              refine rnds_stage (fun x s k k' hk r h => ?_) (fun x st' k s hk r h => ?_) st l st k s hk r h
              · split at h
                · rename_i hl
                  rw [if_pos hl]
                  refine run_mono as _ _ _ (fun e s r hr => ?_) r h
                  cases e with
                  | normal => exact run_mono body s k k' hk r hr
                  | exit i => exact hr
                  | ret => exact hr
                · cases h
              · split at h
                · rename_i hl
                  simp only [if_pos hl]
                  refine run_stage as _ _ (fun n e st => match e with | .normal => run call body st (s n) | _ => none) ⟨fun n m hn e st r hr => ?_, fun e st r hr => ?_⟩ r h
                  · cases e with
                    | normal => exact run_mono body _ _ _ (hk.up n m hn) r hr
                    | exit i => exact hr
                    | ret => exact hr
                  · cases e with
                    | normal => exact run_stage body _ _ s hk r hr
                    | exit i => cases hr
                    | ret => cases hr
                · cases h
            · cases h
          · intro h; cases h
        | cons => intro h; cases h
      | _ => cases fs <;> (intro h; cases h)
    | _ => intro h; cases h

/-- A loop is its body, and then the loop. -/
theorem run_loop_eq (call : FuncId → List V → Option V) (b : M) (st : St) (k : Kn) :
    run call (.loop b) st k = run call b st fun e s => match e with | .normal => run call (.loop b) s k | e => k e s := by
  have hm : ∀ st k k', KLe k k' → ∀ r, run call b st k = some r → run call b st k' = some r := fun st k k' hk r h => run_mono b st k k' hk r h
  apply Option.ext
  intro r
  constructor
  · intro h
    simp only [run] at h
    obtain ⟨n, hn⟩ := lim_some h
    cases n with
    | zero => cases hn
    | succ n =>
      simp only [loopN] at hn
      exact run_mono b st _ _ (KLe.seq (fun _ _ _ h => h) fun s r hr => run_loop n hr) r hn
  · intro h
    have hst : Stages (fun e s => match e with | .normal => run call (.loop b) s k | e => k e s) (fun n e s => match e with | .normal => loopN (run call b) n s k | e => k e s) := by
      refine Stages.seq (s := fun _ => k) ⟨fun _ _ _ _ _ _ h => h, fun _ _ _ h => ⟨0, h⟩⟩ (fun n m hnm st r hr => ?_) fun st r hr => ?_
      · clear h
        induction n generalizing m st r with
        | zero => cases hr
        | succ n ih =>
          cases m with
          | zero => omega
          | succ m =>
            simp only [loopN] at hr ⊢
            exact hm st _ _ (KLe.seq (fun _ _ _ h => h) fun s r hr => ih m (by omega) s r hr) r hr
      · simp only [run] at hr
        exact lim_some hr
    obtain ⟨n, hn⟩ := run_stage b st _ _ hst r h
    exact run_loop (n + 1) hn

/-! ### a run that can be computed -/
mutual
def beqT : V → V → Bool
  | .bool a, .bool b => a == b
  | .int k a, .int k' b => k == k' && a == b
  | .str a, .str b => decide (a = b)
  | .agg a, .agg b => beqL a b
  | .tup a, .tup b => beqL a b
  | .sl o z a, .sl o' z' b => o == o' && z == z' && beqLL a b
  | _, _ => false
def beqL : List V → List V → Bool
  | [], [] => true
  | a :: l, b :: r => beqT a b && beqL l r
  | _, _ => false
def beqLL : List (List V) → List (List V) → Bool
  | [], [] => true
  | a :: l, b :: r => beqL a b && beqLL l r
  | _, _ => false
end

mutual
theorem beqT_eq : ∀ {a b : V}, beqT a b = true → a = b
  | .bool a, b, h => by cases b <;> simp_all [beqT]
  | .int k a, b, h => by cases b <;> simp_all [beqT]
  | .str a, b, h => by cases b <;> simp_all [beqT]
  | .agg a, b, h => by
    cases b <;> simp only [beqT, Bool.false_eq_true] at h
    rw [beqL_eq h]
  | .tup a, b, h => by
    cases b <;> simp only [beqT, Bool.false_eq_true] at h
    rw [beqL_eq h]
  | .sl o z a, b, h => by
    cases b <;> simp only [beqT, Bool.false_eq_true, Bool.and_eq_true, beq_iff_eq] at h
    rw [h.1.1, h.1.2, beqLL_eq h.2]
  | .undef, b, h => by simp [beqT] at h
  | .skp, b, h => by simp [beqT] at h
  | .abool, b, h => by simp [beqT] at h
  | .ptr .., b, h => by simp [beqT] at h
  | .loc .., b, h => by simp [beqT] at h
  | .el .., b, h => by simp [beqT] at h
  | .rf .., b, h => by simp [beqT] at h
  | .mp .., b, h => by simp [beqT] at h
  | .it .., b, h => by simp [beqT] at h
  | .fn .., b, h => by simp [beqT] at h
  | .nili, b, h => by simp [beqT] at h
  | .nilp, b, h => by simp [beqT] at h
  | .nilf, b, h => by simp [beqT] at h
  | .raw .., b, h => by simp [beqT] at h
theorem beqL_eq : ∀ {a b : List V}, beqL a b = true → a = b
  | [], b, h => by cases b <;> simp_all [beqL]
  | a :: l, b, h => by
    cases b with
    | nil => simp [beqL] at h
    | cons b r =>
      simp only [beqL, Bool.and_eq_true] at h
      rw [beqT_eq h.1, beqL_eq h.2]
theorem beqLL_eq : ∀ {a b : List (List V)}, beqLL a b = true → a = b
  | [], b, h => by cases b <;> simp_all [beqLL]
  | a :: l, b, h => by
    cases b with
    | nil => simp [beqLL] at h
    | cons b r =>
      simp only [beqLL, Bool.and_eq_true] at h
      rw [beqL_eq h.1, beqLL_eq h.2]
end

section
variable (call : FuncId → List V → Option V) (N : Nat) (beq : V → V → Bool)

def sameC (x y : Option V) : Option V := match x, y with
  | some a, some b => if beq a b then some a else none
  | _, _ => none

def allSameC : List (Option V) → Option V
  | [] => none
  | [x] => x
  | x :: l => sameC beq x (allSameC l)

def runC : M → St → (Ex → St → Option V) → Option V
  | .skip, st, k => k .normal st
  | .reg draw ops, st, k => if !draw || tidy ops st then (steps call ops st).bind fun st => k .normal st else none
  | .seq a b, st, k => runC a st fun e st => match e with
    | .normal => runC b st k
    | e => k e st
  | .cond c t e, st, k => match st.val c with
    | .bool b => if b then runC t st k else runC e st k
    | .abool => sameC beq (runC t st k) (runC e st k)
    | _ => none
  | .block id b, st, k => runC b st fun e st => match e with
    | .exit i => if i = id then k .normal st else k (.exit i) st
    | e => k e st
  | .loop b, st, k => loopN (runC b) N st k
  | .exit id, st, k => k (.exit id) st
  | .scope b, st, k => runC b st k
  | .ret, st, k => k .ret st
  | .freeze d, st, k => match get st.bx d with
    | some (_, c) => k .normal { st with bx := put st.bx d (true, cps c) }
    | none => none
  | .kill ks, st, k => k .normal (dels ks st)
  | .own o t, st, k => k .normal { st with tm := put st.tm t (low o (st.at t)) }
  | .nxt d t ops, st, k => match st.at t with
    | .it _ [] => (steps call ops { st with tm := put st.tm d (.tup [.bool false]) }).bind fun st => k .normal st
    | .it _ es => allSameC beq ((List.range es.length).map fun i => (steps call ops (stepTo d t es st i)).bind fun st => k .normal st)
    | _ => none
  | .yld .., _, _ => none
  | .rngf f ps wr as body, st, k => match st.raw f with
    | .fn (.func g) [] cs => if (st.tm.all fun p => still p.2 && !wr.contains p.1 && !ps.contains p.1) = true then match call (g + 1000000) cs with
      | some (.tup xs) => rnds (fun x s k => if x.length = ps.length then runC as { s with tm := putAll ps x st.tm } fun e s => match e with
          | .normal => runC body s k
          | _ => none
        else none) st xs st k
      | _ => none
      else none
    | _ => none

def runFC (f : MFunc) (args : List V) : Option V :=
  if args.length = f.np then runC call N beq f.body (start args) fun e st => match e with
    | .exit _ => none
    | _ => resOf st f.res
  else none

end

theorem sameC_some {beq : V → V → Bool} (hb : ∀ a b, beq a b = true → a = b) {x y : Option V} {r : V} (h : sameC beq x y = some r) : x = some r ∧ y = some r := by
  unfold sameC at h
  split at h
  · rename_i a b
    split at h
    · rename_i e; cases h; exact ⟨rfl, by rw [hb _ _ e]⟩
    · cases h
  · cases h

theorem allSameC_some {beq : V → V → Bool} (hb : ∀ a b, beq a b = true → a = b) {r : V} : ∀ {l : List (Option V)}, allSameC beq l = some r → l ≠ [] ∧ ∀ x ∈ l, x = some r
  | [], h => by cases h
  | [x], h => ⟨by simp, fun y hy => by simp at hy; subst hy; exact h⟩
  | x :: y :: l, h => by
    obtain ⟨h1, h2⟩ := sameC_some hb h
    refine ⟨by simp, fun z hz => ?_⟩
    rcases List.mem_cons.1 hz with h3 | h3
    · exact h3 ▸ h1
    · exact (allSameC_some hb h2).2 z h3

theorem loopN_le {b b' : St → Kn → Option V} (hb : ∀ st k k', KLe k k' → ∀ r, b st k = some r → b' st k' = some r) :
    ∀ (n : Nat) (st : St) (k k' : Kn), KLe k k' → ∀ r, loopN b n st k = some r → loopN b' n st k' = some r
  | 0, _, _, _, _, _, h => by cases h
  | n + 1, st, k, k', hk, r, h => by
    simp only [loopN] at h ⊢
    exact hb st _ _ (hk.seq fun s r hr => loopN_le hb n s k k' hk r hr) r h

theorem runC_run {call : FuncId → List V → Option V} {N : Nat} {beq : V → V → Bool} (hb : ∀ a b, beq a b = true → a = b) : ∀ (c : M) (st : St) (k k' : Kn), KLe k k' → ∀ r, runC call N beq c st k = some r → run call c st k' = some r
  | .skip, st, k, k', hk, r, h => hk _ _ _ h
  | .reg d ops, st, k, k', hk, r, h => by
    simp only [runC] at h
    simp only [run]
    split at h
    · rename_i ht
      rw [if_pos ht]
      simp only [Option.bind_eq_some_iff] at h ⊢
      obtain ⟨u, hu, h⟩ := h
      exact ⟨u, hu, hk _ _ _ h⟩
    · cases h
  | .seq a b, st, k, k', hk, r, h => by
    simp only [runC] at h
    simp only [run]
    exact runC_run hb a st _ _ (hk.seq fun s r hr => runC_run hb b s k k' hk r hr) r h
  | .cond c t e, st, k, k', hk, r, h => by
    simp only [runC] at h
    simp only [run]
    revert h
    cases st.val c with
    | bool b => cases b <;> simp <;> exact runC_run hb _ st k k' hk r
    | abool => exact fun h => same_mk (runC_run hb t st k k' hk r (sameC_some hb h).1) (runC_run hb e st k k' hk r (sameC_some hb h).2)
    | _ => intro h; cases h
  | .block id b, st, k, k', hk, r, h => by
    simp only [runC] at h
    simp only [run]
    refine runC_run hb b st _ _ (fun e s r hr => ?_) r h
    cases e with
    | normal => exact hk _ _ _ hr
    | exit i =>
      dsimp only at hr ⊢
      split at hr
      · rename_i hi; rw [if_pos hi]; exact hk _ _ _ hr
      · rename_i hi; rw [if_neg hi]; exact hk _ _ _ hr
    | ret => exact hk _ _ _ hr
  | .loop b, st, k, k', hk, r, h => by
    simp only [runC] at h
    exact run_loop N (loopN_le (fun st k k' hk r h => runC_run hb b st k k' hk r h) N st k k' hk r h)
  | .exit id, st, k, k', hk, r, h => hk _ _ _ h
  | .scope b, st, k, k', hk, r, h => by
    simp only [runC] at h
    simp only [run]
    exact runC_run hb b st k k' hk r h
  | .ret, st, k, k', hk, r, h => hk _ _ _ h
  | .freeze d, st, k, k', hk, r, h => by
    simp only [runC] at h
    simp only [run]
    revert h
    cases get st.bx d with
    | none => intro h; cases h
    | some bc => exact fun h => hk _ _ _ h
  | .kill ks, st, k, k', hk, r, h => hk _ _ _ h
  | .own o t, st, k, k', hk, r, h => hk _ _ _ h
  | .nxt d t ops, st, k, k', hk, r, h => by
    have one : ∀ s r, ((steps call ops s).bind fun st => k .normal st) = some r → ((steps call ops s).bind fun st => k' .normal st) = some r := by
      intro s r h
      simp only [Option.bind_eq_some_iff] at h ⊢
      obtain ⟨u, hu, h⟩ := h
      exact ⟨u, hu, hk _ _ _ h⟩
    simp only [runC] at h
    simp only [run]
    revert h
    generalize st.at t = u
    cases u with
    | it cur es =>
      cases es with
      | nil => exact fun h => one _ r h
      | cons e es =>
        intro h
        obtain ⟨h1, h2⟩ := allSameC_some hb h
        refine allSame_mk (by simp) fun x hx => ?_
        obtain ⟨i, hi, rfl⟩ := List.mem_map.1 hx
        exact one _ r (h2 _ (List.mem_map.2 ⟨i, hi, rfl⟩))
    | _ => intro h; cases h
  | .yld .., st, k, k', hk, r, h => by simp only [runC] at h; cases h
  | .rngf f ps wr as body, st, k, k', hk, r, h => by
    simp only [runC] at h
    simp only [run]
    revert h
    generalize st.raw f = z
    cases z with
    | fn fn fs cs =>
      cases fn with
      | func g =>
        cases fs with
        | nil =>
          simp only
          split
          · intro h
            split at h
            · rename_i l h1
              simp only [h1]
              refine rnds_mono (fun x s k k' hk r h => ?_) st l st k k' hk r h
              split at h
              · rename_i hl
                rw [if_pos hl]
                refine runC_run hb as _ _ _ (fun e s r hr => ?_) r h
                cases e with
                | normal => exact runC_run hb body s k k' hk r hr
                | exit i => exact hr
                | ret => exact hr
              · cases h
            · cases h
          · exact id
        | cons => intro h; cases h
      | _ => cases fs <;> (intro h; cases h)
    | _ => intro h; cases h

/-- A function by so many calls within calls, each loop by at most N rounds. -/
def pcC (E : Env) (N : Nat) (beq : V → V → Bool) : Nat → FuncId → List V → Option V
  | 0, _, _ => none
  | n + 1, f, args => match E f with
    | .code mf => runFC (pcC E N beq n) N beq mf args
    | .prim p => p args
    | .gen _ => none
    | .none => none

theorem pcC_pc {E : Env} {N : Nat} {beq : V → V → Bool} (hb : ∀ a b, beq a b = true → a = b) : ∀ {n : Nat} {f : FuncId} {args : List V} {r : V}, pcC E N beq n f args = some r → Pc E f args r
  | 0, _, _, _, h => by cases h
  | n + 1, f, args, r, h => by
    simp only [pcC] at h
    split at h
    · rename_i mf he
      refine .code (pcC E N beq n) he (fun g a r h => pcC_pc hb h) ?_
      unfold runFC at h
      unfold runF
      split at h
      · rename_i hl
        rw [if_pos hl]
        exact runC_run hb _ _ _ _ (fun _ _ _ h => h) r h
      · cases h
    · rename_i p he
      exact .prim he h
    · cases h
    · cases h

/-- An environment in which iterators are primitives that have been proved. -/
theorem Pc.sub {E E' : Env} (hE : ∀ f, E' f = E f ∨ ∃ p, E' f = .prim p ∧ ∀ a r, p a = some r → Pc E f a r) {f : FuncId} {args : List V} {r : V} (h : Pc E' f args r) : Pc E f args r := by
  induction h with
  | prim h hr =>
    rcases hE _ with h1 | ⟨q, h1, h2⟩
    · exact .prim (h1 ▸ h) hr
    · rw [h1] at h; cases h; exact h2 _ _ hr
  | code call h hc hr ih =>
    rcases hE _ with h1 | ⟨q, h1, h2⟩
    · exact .code call (h1 ▸ h) ih hr
    · rw [h1] at h; cases h
  | gen call h hc hr ih =>
    rcases hE _ with h1 | ⟨q, h1, h2⟩
    · exact .gen call (h1 ▸ h) ih hr
    · rw [h1] at h; cases h

def isT : Option V → Bool
  | some (.bool true) => true
  | _ => false

theorem isT_eq {x : Option V} (h : isT x = true) : x = some (.bool true) := by
  unfold isT at h
  split at h
  · rfl
  · cases h

/-- What the computed run says holds. -/
theorem pc_of_run {E : Env} {N n : Nat} {f : FuncId} {args : List V} (h : isT (pcC E N beqT n f args) = true) : pc E f args = some (.bool true) :=
  (pcC_pc (fun _ _ => beqT_eq) (isT_eq h)).pc

end Go.Vi
