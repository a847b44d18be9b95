/- Steps, wherever they are done. -/
import Derived.Test.YtomimhedehecdaaDoorViComm3
namespace Go.Vi
variable {call : FuncId → List V → Option V} {st st' st1 s1 s2 : St}

def isMv : MOp → Bool
  | .mv _ => true
  | _ => false

def gslot : Option (Nat × Bool) → List Nat
  | some (j, _) => [j]
  | none => []

def foot (m : MO) : Option Foot :=
  if fixedOp m.op && (!isMv m.op || m.dst.isSome) then match m.op with
    | .alloc _ => match m.dst, m.guard with
      | some d, none => some ⟨[], [d], [], [d]⟩
      | _, _ => none
    | .box _ x => match m.dst, m.guard with
      | some d, none => some ⟨x.slots, x.hand ++ [d], [], [d]⟩
      | _, _ => none
    | op => (footE op).map fun F => ⟨F.rd ++ gslot m.guard, F.wr ++ m.dst.toList, F.rb, F.wb⟩
  else none

def fin (last : Option (Nat × V)) (s : St) : St := match last with
  | none => s
  | some (d, v) => { s with tm := put s.tm d v }

/-- A slice's or a map's new place, a box's new place: nothing else leads there. -/
def Ck (ck : Option (Bool × Nat)) (δ : D) (st : St) : Prop :=
  ∀ k d, ck = some (k, d) → ∀ t u, get (puts δ.tm st.tm) t = some u → (k = true ∧ t = d) ∨ nm k d u = false

structure SL (call : FuncId → List V → Option V) (m : MO) (st : St) (F : Foot) (s1 : St) (δ : D) (last : Option (Nat × V)) (ck : Option (Bool × Nat)) : Prop where
  eq : s1 = fin last (δ.ap st)
  tm : ∀ p ∈ δ.tm, p.1 ∈ F.wr ∧ data p.2 = true
  bx : ∀ p ∈ δ.bx, p.1 ∈ F.wb
  lastw : ∀ d v, last = some (d, v) → m.dst = some d ∧ d ∈ F.wr ∧ ∀ k e, nm k e v = true → (k = false ∧ e ∈ F.rd) ∨ (∃ n ∈ F.rd, nm k e (st.at n) = true) ∨ (k = true ∧ e ∈ F.wb)
  ckw : ∀ k d, ck = some (k, d) → m.dst = some d ∧ d ∈ F.wr ∧ (k = true → d ∈ F.wb)
  ok : Ck ck δ st
  hand : ∀ p ∈ δ.tm, data (st.at p.1) = true ∨ ∃ d, last = some (d, st.at p.1)
  go : ∀ st', Agree st st' F → incr st'.tm = true → Ck ck δ st' → step call m st' = some (fin last (δ.ap st'))

theorem into_sl {p : Bool} {dst : Option Nat} {v : V} (h : into p dst (v, st) = some s1) (hinc : incr st.tm = true) :
    (p || data v) = true ∧ s1 = fin (dst.map fun d => (d, v)) st ∧ ∃ ck : Option (Bool × Nat), (∀ k d, ck = some (k, d) → dst = some d ∧ k = false) ∧ (∀ k d, ck = some (k, d) → ∀ t u, get st.tm t = some u → (k = true ∧ t = d) ∨ nm k d u = false) ∧
      ∀ st', incr st'.tm = true → (∀ k d, ck = some (k, d) → ∀ t u, get st'.tm t = some u → (k = true ∧ t = d) ∨ nm k d u = false) → into p dst (v, st') = some (fin (dst.map fun d => (d, v)) st') := by
  unfold into at h
  split at h
  · rename_i hp
    refine ⟨hp, ?_⟩
    cases dst with
    | none =>
      simp only [Option.some.injEq] at h
      refine ⟨h.symm, none, by simp, by simp, fun st' _ _ => ?_⟩
      unfold into; rw [if_pos hp]; rfl
    | some d =>
      have key : ∀ (hx : noref d st.tm = true) (hst : s1 = { st with tm := put st.tm d v }) (hgo : ∀ st', noref d st'.tm = true → into p (some d) (v, st') = some { st' with tm := put st'.tm d v }),
          s1 = fin ((some d).map fun d => (d, v)) st ∧ ∃ ck : Option (Bool × Nat), (∀ k d', ck = some (k, d') → some d = some d' ∧ k = false) ∧ (∀ k d, ck = some (k, d) → ∀ t u, get st.tm t = some u → (k = true ∧ t = d) ∨ nm k d u = false) ∧
            ∀ st', incr st'.tm = true → (∀ k d, ck = some (k, d) → ∀ t u, get st'.tm t = some u → (k = true ∧ t = d) ∨ nm k d u = false) → into p (some d) (v, st') = some (fin ((some d).map fun d => (d, v)) st') := by
        intro hx hst hgo
        refine ⟨hst, some (false, d), fun k d' e => by cases e; exact ⟨rfl, rfl⟩, fun k d' e t u hg => ?_, fun st' hi hc => hgo st' ((noref_iff hi).2 fun t u hg => ?_)⟩
        · cases e; exact .inr ((noref_iff hinc).1 hx t u hg)
        · rcases hc false d rfl t u hg with h1 | h1
          · cases h1.1
          · exact h1
      simp only at h
      split at h
      · split at h
        · rename_i hn
          cases h
          exact key hn rfl fun st' hn' => by unfold into; rw [if_pos hp]; simp only [if_pos hn']
        · cases h
      · split at h
        · rename_i hn
          cases h
          exact key hn rfl fun st' hn' => by unfold into; rw [if_pos hp]; simp only [if_pos hn']
        · cases h
      · cases h
        refine ⟨rfl, none, by simp, by simp, fun st' _ _ => ?_⟩
        unfold into
        rw [if_pos hp]
        simp only
        rfl
  · cases h

theorem exec_sl {m : MO} {F : Foot} {v : V} (hf : footE m.op = some F) (hx : fixedOp m.op = true) (hm : isMv m.op = true → m.dst.isSome = true) (he : exec call m.op st = some (v, st1)) (hi : into (ptrOp m.op) m.dst (v, st1) = some s1) (hinc : incr st.tm = true) (gs : List Nat)
    (hgo : ∀ st', Agree st st' ⟨F.rd ++ gs, F.wr ++ m.dst.toList, F.rb, F.wb⟩ → ∀ r, (exec call m.op st').bind (into (ptrOp m.op) m.dst) = some r → step call m st' = some r) :
    ∃ δ last ck, SL call m st ⟨F.rd ++ gs, F.wr ++ m.dst.toList, F.rb, F.wb⟩ s1 δ last ck := by
  obtain ⟨δ, L⟩ := exec_local hf he
  have hinc1 : incr st1.tm = true := by rw [L.eq]; exact incr_puts hinc
  obtain ⟨hp, e1, ck, c1, c2, c3⟩ := into_sl hi hinc1
  refine ⟨δ, m.dst.map fun d => (d, v), ck, ⟨by rw [e1, L.eq], fun p hp => ⟨List.mem_append_left _ (L.tm p hp).1, (L.tm p hp).2⟩, L.bx, fun d u hd => ?_, fun k d hc => ?_, ?_, fun p hp => ?_, fun st' ha hi' hc => ?_⟩⟩
  · rw [Option.map_eq_some_iff] at hd
    obtain ⟨d', hd', e⟩ := hd
    cases e
    refine ⟨hd', by simp [hd'], fun k e hn => ?_⟩
    rcases exec_nm hf hx he hp hn with ⟨h1, h2⟩ | ⟨n, h1, h2⟩
    · exact .inl ⟨h1, List.mem_append_left _ h2⟩
    · exact .inr (.inl ⟨n, List.mem_append_left _ h1, h2⟩)
  · obtain ⟨h1, h2⟩ := c1 k d hc
    exact ⟨h1, by simp [h1], fun h => by rw [h2] at h; cases h⟩
  · intro k d hc t u hg
    refine c2 k d hc t u ?_
    rw [L.eq]; exact hg
  · rcases exec_hand hf he (L.tm p hp).1 with h1 | ⟨⟨x, h1⟩, h2⟩
    · exact .inl h1
    · obtain ⟨d, hd⟩ := Option.isSome_iff_exists.1 (hm (by rw [h1]; rfl))
      exact .inr ⟨d, by rw [hd, h2]; rfl⟩
  · refine hgo st' ha _ ?_
    rw [L.go st' ⟨fun t ht => ha.1 t (List.mem_append_left _ ht), ha.2⟩]
    exact c3 _ (incr_puts hi') fun k d hk t u hg => hc k d hk t u hg

theorem step_sl {m : MO} {F : Foot} (hf : foot m = some F) (hs : step call m st = some s1) (hinc : incr st.tm = true) : ∃ δ last ck, SL call m st F s1 δ last ck := by
  obtain ⟨dst, op, guard⟩ := m
  unfold foot at hf
  split at hf
  case isFalse => cases hf
  rename_i hc
  simp only [Bool.and_eq_true, Bool.or_eq_true, Bool.not_eq_true'] at hc
  have hm : isMv op = true → dst.isSome = true := fun h => by
    rcases hc.2 with h1 | h1
    · rw [h] at h1; cases h1
    · exact h1
  have gen : ∀ {F0 : Foot}, footE op = some F0 → (∀ st, step call ⟨dst, op, guard⟩ st = stepG call ⟨dst, op, guard⟩ st) → F = ⟨F0.rd ++ gslot guard, F0.wr ++ dst.toList, F0.rb, F0.wb⟩ →
      ∃ δ last ck, SL call ⟨dst, op, guard⟩ st F s1 δ last ck := by
    intro F0 hF0 hst hF
    subst hF
    rw [hst] at hs
    cases guard with
    | none =>
      simp only [stepG, Option.bind_eq_some_iff] at hs
      obtain ⟨⟨v, st1⟩, he, hi⟩ := hs
      exact exec_sl (m := ⟨dst, op, none⟩) hF0 hc.1 hm he hi hinc [] fun st' _ r hr => by rw [hst]; exact hr
    | some jw =>
      obtain ⟨j, want⟩ := jw
      have skip : ∀ s1, into true dst (V.skp, st) = some s1 → (∀ st', st'.at j = st.at j → ∀ r, into true dst (V.skp, st') = some r → step call ⟨dst, op, some (j, want)⟩ st' = some r) →
          ∃ δ last ck, SL call ⟨dst, op, some (j, want)⟩ st ⟨F0.rd ++ [j], F0.wr ++ dst.toList, F0.rb, F0.wb⟩ s1 δ last ck := by
        intro s1 hi hgo
        obtain ⟨-, e1, ck, c1, c2, c3⟩ := into_sl hi hinc
        refine ⟨⟨[], []⟩, dst.map fun d => (d, .skp), ck, ⟨e1, by simp, by simp, fun d u hd => ?_, fun k d hc => ?_, c2, by simp, fun st' ha hi' hc => ?_⟩⟩
        · rw [Option.map_eq_some_iff] at hd
          obtain ⟨d', hd', e⟩ := hd
          cases e
          exact ⟨hd', by simp [hd'], fun k e hn => by simp [nm] at hn⟩
        · obtain ⟨h1, h2⟩ := c1 k d hc
          exact ⟨h1, by simp [show dst = some d from h1], fun h => by rw [h2] at h; cases h⟩
        · exact hgo st' (ha.1 j (by simp)) _ (c3 st' hi' hc)
      simp only [stepG] at hs
      split at hs
      · rename_i b hb
        split at hs
        · rename_i hbw
          simp only [Option.bind_eq_some_iff] at hs
          obtain ⟨⟨v, st1⟩, he, hi⟩ := hs
          refine exec_sl (m := ⟨dst, op, some (j, want)⟩) hF0 hc.1 hm he hi hinc [j] fun st' ha r hr => ?_
          have hj := ha.1 j (by simp)
          rw [hst]
          simp only [stepG, hj, hb, if_pos hbw]
          exact hr
        · rename_i hbw
          refine skip s1 hs fun st' hj r hr => ?_
          rw [hst]
          simp only [stepG, hj, hb, if_neg hbw]
          exact hr
      · rename_i hb
        refine skip s1 hs fun st' hj r hr => ?_
        rw [hst]
        simp only [stepG, hj, hb]
        exact hr
      · cases hs
  have gen' : ∀ op', op = op' → (∀ st, step call ⟨dst, op', guard⟩ st = stepG call ⟨dst, op', guard⟩ st) → (footE op').map (fun F => Foot.mk (F.rd ++ gslot guard) (F.wr ++ dst.toList) F.rb F.wb) = some F →
      ∃ δ last ck, SL call ⟨dst, op, guard⟩ st F s1 δ last ck := by
    intro op' e hst hF
    subst e
    obtain ⟨F0, h1, h2⟩ := Option.map_eq_some_iff.1 hF
    exact gen h1 hst h2.symm
  cases op
  case alloc z =>
    simp only at hf
    split at hf
    · rename_i d
      cases hf
      simp only [step, boxed] at hs
      split at hs
      · rename_i hcc
        cases hs
        refine ⟨⟨[], [(d, (false, z))]⟩, some (d, .loc d 0), some (true, d), ⟨rfl, by simp, by simp, fun d' u e => ?_, fun k d' e => ?_, fun k d' e t u hg => ?_, by simp, fun st' ha hi' hck => ?_⟩⟩
        · cases e
          refine ⟨rfl, by simp, fun k e hn => .inr (.inr ?_)⟩
          simp only [nm, Bool.and_eq_true, beq_iff_eq] at hn
          exact ⟨hn.1, by simp [hn.2]⟩
        · cases e; exact ⟨rfl, by simp, fun _ => by simp⟩
        · cases e
          rcases (away_iff hinc).1 hcc.1 t u hg with h1 | h1
          · exact .inl ⟨rfl, h1⟩
          · exact .inr h1
        · have haw : away d st'.tm = true := (away_iff hi').2 fun t u hg => by
            rcases hck true d rfl t u hg with h1 | h1
            · exact .inl h1.2
            · exact .inr h1
          simp only [step, boxed, haw, hcc.2, and_self, if_true]
          rfl
      · cases hs
    · cases hf
  case box sz x =>
    simp only at hf
    split at hf
    · rename_i d
      cases hf
      simp only [step] at hs
      split at hs
      · rename_i hsz
        simp only [boxed] at hs
        split at hs
        · rename_i hcc
          cases hs
          have hgi : incr (gone [x] st.tm) = true := by rw [gone_puts]; exact incr_puts hinc
          refine ⟨⟨goneD [x], [(d, (false, flat (st.val x)))]⟩, some (d, .loc d 0), some (true, d), ⟨?_, fun p hp => ?_, by simp, fun d' u e => ?_, fun k d' e => ?_, fun k d' e t u hg => ?_, fun p hp => ?_, fun st' ha hi' hck => ?_⟩⟩
          · simp only [fin, D.ap, gone_puts]; rfl
          · obtain ⟨h1, h2⟩ := goneD_mem hp
            simp only [handOf, List.flatMap_cons, List.flatMap_nil, List.append_nil] at h1
            exact ⟨List.mem_append_left _ h1, by rw [h2]; rfl⟩
          · cases e
            refine ⟨rfl, by simp, fun k e hn => .inr (.inr ?_)⟩
            simp only [nm, Bool.and_eq_true, beq_iff_eq] at hn
            exact ⟨hn.1, by simp [hn.2]⟩
          · cases e; exact ⟨rfl, by simp, fun _ => by simp⟩
          · cases e
            rw [← gone_puts] at hg
            rcases (away_iff hgi).1 hcc.1 t u hg with h1 | h1
            · exact .inl ⟨rfl, h1⟩
            · exact .inr h1
          · obtain ⟨h1, h2⟩ := goneD_mem hp
            obtain ⟨o, ho⟩ := mem_hand h1
            simp only [List.mem_singleton] at ho
            subst ho
            exact .inl (leaf_hand hcc.2)
          · have hv : st'.val x = st.val x := val_agree ha.1
            have hgi' : incr (gone [x] st'.tm) = true := by rw [gone_puts]; exact incr_puts hi'
            have haw : away d (gone [x] st'.tm) = true := (away_iff hgi').2 fun t u hg => by
              rw [gone_puts] at hg
              rcases hck true d rfl t u hg with h1 | h1
              · exact .inl h1.2
              · exact .inr h1
            simp only [step, boxed, hv, if_pos hsz, haw, hcc.2, and_self, if_true]
            simp only [fin, D.ap, gone_puts]
            rfl
        · cases hs
      · cases hs
    · cases hf
  all_goals exact gen' _ rfl (fun st => rfl) hf

end Go.Vi
