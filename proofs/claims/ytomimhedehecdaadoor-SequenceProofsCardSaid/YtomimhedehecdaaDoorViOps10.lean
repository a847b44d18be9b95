/- Range over a map. -/
import Derived.Test.YtomimhedehecdaaDoorViOps9
import Derived.Maps.RangeRun
namespace Go.Vi
variable {c : Ctx} {g : G} {st st' : St} {a : Act} {w : World} {hs : List Hv}

theorem Rel.mps_inv {S : Stab} {es : List (V × V)} {r : Value} {o : List Nat} (h : Rel w S (.mp .s es) r o) : ∃ (es0 : List (V × V)) (m : Nat) (ents : Array MapEntry) (clock : Nat), es.Perm es0 ∧ r = .map (some m) ∧ w.heap[m]? = some (.map ents clock) ∧ es0.length = ents.size ∧ Born ents clock ∧ S m 0 ∧
    (∀ (i : Nat) (kv : V × V) (e : MapEntry), es0[i]? = some kv → ents[i]? = some e → Rel w S kv.1 e.key []) ∧ ∀ (i : Nat) (kv : V × V) (e : MapEntry), es0[i]? = some kv → ents[i]? = some e → Rel w S kv.2 e.val [] := by
  generalize hv : V.mp .s es = v at h
  cases h with
  | mps es' es0 hp r' ents clock hb hl hbn hS hk hv' => cases hv; exact ⟨es0, r', ents, clock, hp, rfl, hb, hl, hbn, hS, hk, hv'⟩
  | mpx => cases hv
  | _ => cases hv

theorem Rel.it_inv {S : Stab} {cur es : List (V × V)} {rv : Value} {o : List Nat} (h : Rel w S (.it cur es) rv o) : ∃ (es0 : List (V × V)) (r m : Nat) (ents : Array MapEntry) (clock : Nat) (seen : Array Nat) (ec : MapEntry), es.Perm es0 ∧ rv = .pointer (some ⟨r, 0, none⟩) ∧ o = [r] ∧ w.heap[r]? = some (.mapIter (some m) clock seen clock) ∧
    w.heap[m]? = some (.map ents clock) ∧ Born ents clock ∧ S m 0 ∧ (∀ k, ¬ S r k) ∧ es0.length = (ents.toList.filter fun e => !seen.contains e.born).length ∧
    (∀ (i : Nat) (kv : V × V) (e : MapEntry), es0[i]? = some kv → (ents.toList.filter fun e => !seen.contains e.born)[i]? = some e → Rel w S kv.1 e.key []) ∧
    (∀ (i : Nat) (kv : V × V) (e : MapEntry), es0[i]? = some kv → (ents.toList.filter fun e => !seen.contains e.born)[i]? = some e → Rel w S kv.2 e.val []) ∧
    (cur ≠ [] → (∃ s0 : Array Nat, seen = s0.push ec.born) ∧ ec ∈ ents.toList) ∧ (∀ kv ∈ cur, Rel w S kv.1 ec.key []) ∧ ∀ kv ∈ cur, Rel w S kv.2 ec.val [] := by
  generalize hv : V.it cur es = v at h
  cases h with
  | it cur' es' es0 hp r m ents clock seen ec hb hm hbn hS hN hl hk hv' hc hck hcv => cases hv; exact ⟨es0, r, m, ents, clock, seen, ec, hp, rfl, rfl, hb, hm, hbn, hS, hN, hl, hk, hv', hc, hck, hcv⟩
  | _ => cases hv

theorem snd_rng {o : Oper} {t kt et : TypeId} {x : A} {X : Operand} {v : V} {call : FuncId → List V → Option V} (h : FInv c g st a w) (ho : o.op = .range t X) (hx : opndOK c.gl x X = true) (px : plainA x = true)
    (hu : c.P.underlying t = some (.map kt et)) (hv : exec call (.rng x) st = some (v, st')) : Out c o a w st' v := by
  simp only [exec] at hv
  have hr := opnd h hx px
  generalize st.val x = xv at hr hv
  split at hv
  · rename_i es
    cases hv
    obtain ⟨es0, m, ents, clock, hp, hX, hm, hl, hbn, hS, hk, hvv⟩ := Rel.mps_inv (show Rel w g.S (.mp .s es) (a.eval X) [] from hr)
    have hSn : ∀ k, ¬ g.S w.heap.size k := fun k hs => Nat.lt_irrefl _ (h.lt _ _ hs)
    have hO : ∀ t, w.heap.size ∉ g.O t := fun t hm => Nat.lt_irrefl _ (h.fO t _ hm).2
    have hB : ∀ d, w.heap.size ∉ g.OB d := fun d hm => Nat.lt_irrefl _ (h.fB d _ hm).2
    have hold : ∀ b, b < w.heap.size → (w.alloc (.mapIter (some m) clock #[] clock)).heap[b]? = w.heap[b]? := fun b hb => heap_alloc_old w _ hb
    have h1 := (Held.nil h).write (w.alloc (.mapIter (some m) clock #[] clock)) w.heap.size (fun b hb => by
        by_cases hb' : b < w.heap.size
        · exact hold b hb'
        · have h3 : (w.alloc (.mapIter (some m) clock #[] clock)).heap.size ≤ b := by simp; omega
          rw [Array.getElem?_eq_none h3, Array.getElem?_eq_none (by omega)]) hSn hO hB (by simp) (.inl h.hB) rfl rfl rfl (by simp)
    have hkeep : Keep g.S w (w.alloc (.mapIter (some m) clock #[] clock)) := Keep.of_heap fun b k hs => hold b (h.lt b k hs)
    have hfil : (ents.toList.filter fun e => !(#[] : Array Nat).contains e.born) = ents.toList := List.filter_eq_self.2 fun _ _ => by simp
    refine .inl ⟨.pointer (some ⟨w.heap.size, 0, none⟩), w.alloc (.mapIter (some m) clock #[] clock), by simp [execOp, ho, Instr.range, run_underlying hu, hX, MapKept.run_getObj_map hm], g, [w.heap.size], ⟨h1.inv, fun e he => ?_, by simp, fun b hb => ?_⟩⟩
    · simp only [List.mem_singleton] at he
      subst he
      refine .of_rel (.it [] es es0 hp w.heap.size m ents clock #[] ⟨.bool false, .bool false, 0⟩ (heap_alloc_new w _) ((hold m (h.lt m 0 hS)).trans hm) hbn hS hSn (by rw [hfil]; simpa using hl) (fun i kv e a1 a2 => ?_) (fun i kv e a1 a2 => ?_) (fun h => absurd rfl h) (by simp) (by simp))
      · rw [hfil] at a2
        exact (hk i kv e a1 (by simpa using a2)).keep0 hkeep fun _ _ h => h
      · rw [hfil] at a2
        exact (hvv i kv e a1 (by simpa using a2)).keep0 hkeep fun _ _ h => h
    · simp only [List.flatMap_cons, List.flatMap_nil, List.append_nil, List.mem_singleton] at hb
      subst hb
      exact ⟨⟨.inl h.hB, by simp⟩, hO, hB⟩
  · cases hv

theorem snd_ent {o : Oper} {t : Nat} {v : V} {call : FuncId → List V → Option V} (h : FInv c g st a w) (ho : o.op = .entry (.tmp t)) (hv : exec call (.ent t) st = some (v, st')) : Out c o a w st' v := by
  simp only [exec] at hv
  have hr := h.at t
  generalize hat : st.at t = xv at hr hv
  split at hv
  · rename_i kv es
    cases hv
    obtain ⟨es0, r, m, ents, clock, seen, ec, hp, hX, -, hb, hm, hbn, -, -, -, -, -, hc, hck, hcv⟩ := Rel.it_inv (show Rel w g.S (.it [kv] es) (a.tmps.getD t Go.undef) (g.O t) from hr)
    obtain ⟨⟨s0, rfl⟩, hmem⟩ := hc (by simp)
    have hrun := run_entry_at (P := c.P) w r m clock s0 ents clock ec hb hm hmem hbn.2
    have he : a.eval (.tmp t) = .pointer (some ⟨r, 0, none⟩) := hX
    refine Out.pureR h ?_ (by simp [execOp, ho, he, hrun] : (execOp a.eval o).run c.P w = .ok (.value (.tuple #[ec.key, ec.val])) w)
    have := Rel.tup (w := w) (S := g.S) [kv.1, kv.2] #[ec.key, ec.val] [[], []] rfl rfl (fun i x v o hx hv ho => by
      match i with
      | 0 => simp at hx hv ho; subst hx hv ho; exact hck kv (by simp)
      | 1 => simp at hx hv ho; subst hx hv ho; exact hcv kv (by simp)
      | i + 2 => simp at hx)
    simpa using this
  · cases hv

theorem erase_born : ∀ {L : List MapEntry} {i : Nat} {e : MapEntry}, (L.map (·.born)).Nodup → L[i]? = some e → L.filter (fun x => x.born != e.born) = L.eraseIdx i
  | [], _, _, _, h => by simp at h
  | x :: L, 0, e, hn, h => by
    simp only [List.getElem?_cons_zero, Option.some.injEq] at h
    subst h
    simp only [List.map_cons, List.nodup_cons] at hn
    rw [List.filter_cons, if_neg (by simp), List.eraseIdx_cons_zero]
    refine List.filter_eq_self.2 fun y hy => ?_
    simp only [bne_iff_ne, ne_eq]
    exact fun e => hn.1 (e ▸ List.mem_map.2 ⟨y, hy, rfl⟩)
  | x :: L, i + 1, e, hn, h => by
    simp only [List.getElem?_cons_succ] at h
    simp only [List.map_cons, List.nodup_cons] at hn
    have hne : x.born ≠ e.born := fun e' => hn.1 (e' ▸ List.mem_map.2 ⟨e, List.mem_of_getElem? h, rfl⟩)
    rw [List.filter_cons, if_pos (by simpa using hne), List.eraseIdx_cons_succ, erase_born hn.2 h]

theorem perm_erase {es es0 : List (V × V)} {i : Nat} {kv : V × V} (hp : es.Perm es0) (h : es0[i]? = some kv) : ∃ i', es[i']? = some kv ∧ (es.eraseIdx i').Perm (es0.eraseIdx i) := by
  have take : ∀ {l : List (V × V)} {j : Nat}, l[j]? = some kv → l.Perm (kv :: l.eraseIdx j) := by
    intro l
    induction l with
    | nil => intro j h; simp at h
    | cons x l ih =>
      intro j h
      cases j with
      | zero => simp at h; subst h; exact .refl _
      | succ j => rw [List.eraseIdx_cons_succ]; exact ((ih (by simpa using h)).cons x).trans (.swap ..)
  obtain ⟨i', hi'⟩ := List.mem_iff_getElem?.1 (hp.mem_iff.2 (List.mem_of_getElem? h))
  exact ⟨i', hi', ((take hi').symm.trans (hp.trans (take h))).cons_inv⟩

theorem nxt_step {o : Oper} {t : Nat} {cur es : List (V × V)} (h : FInv c g st a w) (ho : o.op = .next (.tmp t) false) (hat : st.at t = .it cur es) :
    (es = [] ∧ (execOp a.eval o).run c.P w = .ok (.value (.tuple #[.bool false])) w ∧ ∃ g', Held c g' st a w [(.tup [.bool false], .tuple #[.bool false], [])]) ∨
    ∃ i kv, es[i]? = some kv ∧ ∃ rv w', (execOp a.eval o).run c.P w = .ok (.value rv) w' ∧ ∃ g', Held c g' { st with tm := put st.tm t (.it [kv] (es.eraseIdx i)) } a w' [(.tup [.bool true, kv.1, kv.2], rv, [])] := by
  have hr := h.at t
  rw [hat] at hr
  obtain ⟨es0, r, m, ents, clock, seen, ec, hp, hX, hO, hb, hm, hbn, hS, hN, hl, hk, hv, -, -, -⟩ := Rel.it_inv (show Rel w g.S (.it cur es) (a.tmps.getD t Go.undef) (g.O t) from hr)
  have he : a.eval (.tmp t) = .pointer (some ⟨r, 0, none⟩) := hX
  have hleft : (leftOf ents seen).toList = ents.toList.filter fun e => !seen.contains e.born := by simp [leftOf]
  generalize hL : (ents.toList.filter fun e => !seen.contains e.born) = L at *
  rcases run_next_at (P := c.P) w o.type r m clock clock seen ents clock hb hm hbn.1 (Nat.le_refl _) with ⟨h0, hrun⟩ | ⟨e, hmem, w1, hw1, hrun⟩
  · left
    have : L = [] := List.eq_nil_of_length_eq_zero (by rw [← hleft]; simpa using h0)
    subst this
    have hes : es = [] := List.eq_nil_of_length_eq_zero (by rw [hp.length_eq]; simpa using hl)
    refine ⟨hes, by simp [execOp, ho, he, hrun], g, (Held.nil h).push0 (.of_rel ?_)⟩
    have := Rel.tup (w := w) (S := g.S) [.bool false] #[.bool false] [[]] rfl rfl (fun i x v o hx hv ho => by
      match i with
      | 0 => simp at hx hv ho; subst hx hv ho; exact .bool _
      | i + 1 => simp at hx)
    simpa using this
  · right
    rw [hleft] at hmem
    obtain ⟨i, hi⟩ := List.mem_iff_getElem?.1 hmem
    have hil := (List.getElem?_eq_some_iff.1 hi).1
    have hkv : es0[i]? = some (es0[i]'(by omega)) := List.getElem?_eq_getElem (by omega)
    generalize es0[i]'(by omega) = kv at hkv
    obtain ⟨i', hkv', hpe⟩ := perm_erase hp hkv
    have hnL : (L.map (·.born)).Nodup := by
      rw [← hL]
      exact hbn.2.sublist (List.Sublist.map _ List.filter_sublist)
    have hL' : (ents.toList.filter fun x => !(seen.push e.born).contains x.born) = L.eraseIdx i := by
      rw [← erase_born hnL hi, ← hL, List.filter_filter]
      refine List.filter_congr fun x _ => ?_
      have e1 : decide (x.born = e.born) = (x.born == e.born) := by
        by_cases h2 : x.born = e.born <;> simp [h2]
      cases h1 : seen.contains x.born <;> simp_all [bne]
    generalize hw' : ChangeMaps.setBlock w1 r (.mapIter (some m) clock (seen.push e.born) clock) = w' at hrun
    have hrl : r < w.heap.size := (Array.getElem?_eq_some_iff.1 hb).1
    have hheap1 : w1.heap = w.heap := by rcases hw1 with rfl | rfl <;> rfl
    have hother : ∀ b, b ≠ r → w'.heap[b]? = w.heap[b]? := fun b hb' => by
      rw [← hw']
      have : r ≠ b := fun e => hb' e.symm
      simp [ChangeMaps.setBlock, hheap1, this]
    have hself : w'.heap[r]? = some (.mapIter (some m) clock (seen.push e.born) clock) := by
      rw [← hw']
      simp [ChangeMaps.setBlock, hheap1, hrl]
    have hmr : m ≠ r := fun e' => by rw [e', hb] at hm; cases hm
    have hkeep : Keep g.S w w' := Keep.of_heap fun b k hs => hother b (fun e' => hN k (e' ▸ hs))
    have hwo : w'.os = w.os ∧ w'.tape = w.tape ∧ w'.output = w.output ∧ w.heap.size ≤ w'.heap.size := by
      rw [← hw']
      refine ⟨?_, ?_, ?_, ?_⟩
      · rcases hw1 with rfl | rfl <;> rfl
      · rcases hw1 with rfl | rfl <;> rfl
      · rcases hw1 with rfl | rfl <;> rfl
      · simp [ChangeMaps.setBlock, hheap1]
    have hget : ∀ (j : Nat) (kv' : V × V) (e' : MapEntry), (es0.eraseIdx i)[j]? = some kv' → (L.eraseIdx i)[j]? = some e' → ∃ j', es0[j']? = some kv' ∧ L[j']? = some e' := fun j kv' e' h1 h2 => by
      rw [List.getElem?_eraseIdx] at h1 h2
      by_cases hji : j < i
      · rw [if_pos hji] at h1 h2; exact ⟨j, h1, h2⟩
      · rw [if_neg hji] at h1 h2; exact ⟨j + 1, h1, h2⟩
    have hnew : Rel w' g.S (.it [kv] (es.eraseIdx i')) (a.tmps.getD t Go.undef) (g.O t) := by
      rw [hX, hO]
      refine .it [kv] _ _ hpe r m ents clock (seen.push e.born) e hself ((hother m hmr).trans hm) hbn hS hN ?_ (fun j kv' e' h1 h2 => ?_) (fun j kv' e' h1 h2 => ?_) (fun _ => ⟨⟨seen, rfl⟩, ?_⟩) (fun kv' h1 => ?_) (fun kv' h1 => ?_)
      · rw [hL', List.length_eraseIdx, List.length_eraseIdx, hl]
      · rw [hL'] at h2
        obtain ⟨j', h3, h4⟩ := hget j kv' e' h1 h2
        exact (hk j' kv' e' h3 h4).keep0 hkeep fun _ _ h => h
      · rw [hL'] at h2
        obtain ⟨j', h3, h4⟩ := hget j kv' e' h1 h2
        exact (hv j' kv' e' h3 h4).keep0 hkeep fun _ _ h => h
      · rw [← hL] at hmem; exact (List.mem_filter.1 hmem).1
      · simp only [List.mem_singleton] at h1
        subst h1
        exact (hk i kv' e hkv hi).keep0 hkeep fun _ _ h => h
      · simp only [List.mem_singleton] at h1
        subst h1
        exact (hv i kv' e hkv hi).keep0 hkeep fun _ _ h => h
    have hinv := h.slotW t (.it [kv] (es.eraseIdx i')) w' r (by rw [hO]; simp) hother hN hwo.1 hwo.2.1 hwo.2.2.1 hwo.2.2.2 hnew (fun hx => by cases hx)
    refine ⟨i', kv, hkv', .tuple #[.bool true, e.key, e.val], w', by simp [execOp, ho, he, hrun], g, (Held.nil hinv).push0 (.of_rel ?_)⟩
    have := Rel.tup (w := w') (S := g.S) [.bool true, kv.1, kv.2] #[.bool true, e.key, e.val] [[], [], []] rfl rfl (fun j x v o hx hv' ho => by
      match j with
      | 0 => simp at hx hv' ho; subst hx hv' ho; exact .bool _
      | 1 => simp at hx hv' ho; subst hx hv' ho; exact (hk i kv e hkv hi).keep0 hkeep fun _ _ h => h
      | 2 => simp at hx hv' ho; subst hx hv' ho; exact (hv i kv e hkv hi).keep0 hkeep fun _ _ h => h
      | j + 3 => simp at hx)
    simpa using this

end Go.Vi
