/- Operations that write boxes. -/
import Derived.Test.YtomimhedehecdaaDoorViOps3
import Derived.Test.YtomimhedehecdaaDoorViFrame5
namespace Go.Vi
variable {c : Ctx} {g : G} {st st' : St} {a : Act} {w : World} {hs : List Hv}

theorem Held.nobox (h : Held c g st a w hs) (d : Nat) : Held c { g with β := fun d' => if d' = d then g.β d else g.β d', OB := fun d' => if d' = d then [] else g.OB d' } { st with bx := Vi.del st.bx d } a w hs := by
  refine ⟨h.inv.nobox d, fun e he => (h.rel e he).frame (fun d' off _ => ?_) (fun s _ hx => ⟨.self hx, rfl⟩) (fun hr => hr), h.nd, fun b hb => ⟨(h.fr b hb).1, (h.fr b hb).2.1, fun d' => ?_⟩⟩
  · by_cases hd : d' = d
    · subst hd; simp
    · simp [hd]
  · simp only
    by_cases hd : d' = d
    · rw [if_pos hd]; simp
    · rw [if_neg hd]; exact (h.fr b hb).2.2 d'

/-- A value's cells are written into a box. -/
theorem Held.store {d off : Nat} {cs : List V} {x : V} {r : Value} {ob : List Nat} (h : Held c g st a w [(x, r, ob)]) (hb : get st.bx d = some (false, cs)) (hl : (flat x).all leaf = true) (hfit : off + (flat x).length ≤ cs.length) :
    ∃ C e, w.heap[g.β d]? = some (.cells C e (0, 0)) ∧ off + r.cells.toList.length ≤ C.size ∧ (∀ u ∈ r.cells.toList, u.oneCell' = true) ∧
      ∃ g', FInv c g' { st with bx := put st.bx d (false, paste cs off (flat x)) } a (w.setRow (g.β d) (C.toList.take off ++ r.cells.toList ++ C.toList.drop (off + r.cells.toList.length)).toArray) := by
  obtain ⟨C, e, os, e1, e2, e3, e4, e5, e6⟩ := h.inv.bxf d cs hb
  have hx : Rel w g.S x r ob := by
    refine (h.rel _ (List.mem_singleton.2 rfl)).rel ⟨fun d f e => ?_, fun t i f e => ?_, fun t e => ?_⟩ <;> (dsimp only at e; subst e; simp [Vi.flat, leaf] at hl)
  obtain ⟨f1, f2, nos, f3, f4, f5⟩ := hx.flat hl
  have hB : g.β d ∈ g.OB d := by rw [e5]; simp
  have hrl : r.cells.toList.length = (Vi.flat x).length := by simp [f1]
  refine ⟨C, e, e1, by omega, f2, ?_⟩
  generalize hC' : (C.toList.take off ++ r.cells.toList ++ C.toList.drop (off + r.cells.toList.length)).toArray = C'
  have hdO : ∀ t, g.β d ∉ g.O t := fun t hm => h.inv.dOB t d _ hm hB
  have hdB : ∀ d', d' ≠ d → g.β d ∉ g.OB d' := fun d' hd => h.inv.dBB d d' (fun e => hd e.symm) _ hB
  have hH : g.β d ∉ [(x, r, ob)].flatMap (·.2.2) := fun hm => (h.fr _ hm).2.2 d hB
  have hfrB := h.inv.fB d _ hB
  have h2 := (h.nobox d).write (w.setRow (g.β d) C') (g.β d) (fun b hb => setRow_other w _ b _ hb) e6 hdO (fun d' => by
      simp only
      by_cases hd : d' = d
      · rw [if_pos hd]; simp
      · rw [if_neg hd]; exact hdB d' hd) hH hfrB.1 rfl rfl rfl (by simp)
  have hkeep : Keep g.S w (w.setRow (g.β d) C') := Keep.of_heap fun b k hs => setRow_other w _ b _ (fun e => e6 k (e ▸ hs))
  have hob : ob.Nodup := by simpa using h.nd
  have hfree : ∀ b ∈ ob, (∀ t, b ∉ g.O t) ∧ ∀ d, b ∉ g.OB d := fun b hb => ⟨(h.fr b (by simpa using hb)).2.1, (h.fr b (by simpa using hb)).2.2⟩
  have hBnd : (g.β d :: os.flatten).Nodup := e5 ▸ h.inv.nB d
  have hnp := nodup_paste (off := off) (List.nodup_cons.1 hBnd).2 (f3 ▸ hob) (fun b hb hb' => (hfree b (f3 ▸ hb)).2 d (by rw [e5]; exact List.mem_cons_of_mem _ hb'))
  have hnew := h2.inv.rebx d (put st.bx d (false, paste cs off (Vi.flat x))) (g.β d) (g.β d :: (os.take off ++ nos ++ os.drop (off + nos.length)).flatten)
    (fun d' hd => by simp only [get_put, get_del, if_neg hd]) (fun cs' hcs => by
      rw [get_put, if_pos rfl] at hcs
      cases hcs
      refine ⟨C', e, _, setRow_heap w _ C _ e _ e1, ?_, ?_, ?_, rfl, e6⟩
      · rw [← hC']; simp [paste]; omega
      · simp [paste]; omega
      · intro j y v o hy hv ho
        rw [← hC'] at hv
        have hv' : (C.toList.take off ++ r.cells.toList ++ C.toList.drop (off + r.cells.toList.length))[j]? = some v := by simpa using hv
        rw [mem_paste (by simp; omega)] at hv'
        unfold paste at hy
        rw [mem_paste hfit] at hy
        rw [mem_paste (by omega)] at ho
        rw [hrl] at hv'
        rw [f4] at ho
        by_cases h1 : j < off
        · rw [if_pos h1] at hy hv' ho
          refine (e4 j y v o hy (by simpa using hv') ho).keep hkeep (fun _ _ h => h) (fun b hb => setRow_other w _ b _ ?_) (fun _ _ _ h => h)
          rintro rfl
          exact (List.nodup_cons.1 hBnd).1 (List.mem_flatten.2 ⟨o, List.mem_of_getElem? ho, hb⟩)
        · rw [if_neg h1] at hy hv' ho
          by_cases h2 : j < off + (Vi.flat x).length
          · rw [if_pos h2] at hy hv' ho
            refine (f5 _ y v o hy (by simpa using hv') ho).keep hkeep (fun _ _ h => h) (fun b hb => setRow_other w _ b _ ?_) (fun _ _ _ h => h)
            rintro rfl
            exact (hfree _ (f3 ▸ List.mem_flatten.2 ⟨o, List.mem_of_getElem? ho, hb⟩)).2 d hB
          · rw [if_neg h2] at hy hv' ho
            refine (e4 j y v o hy (by simpa using hv') ho).keep hkeep (fun _ _ h => h) (fun b hb => setRow_other w _ b _ ?_) (fun _ _ _ h => h)
            rintro rfl
            exact (List.nodup_cons.1 hBnd).1 (List.mem_flatten.2 ⟨o, List.mem_of_getElem? ho, hb⟩))
    (fun cs' hcs => by rw [get_put, if_pos rfl] at hcs; cases hcs) (fun hcs => by rw [get_put, if_pos rfl] at hcs; cases hcs) (.inl (by simp))
    (by
      refine List.nodup_cons.2 ⟨fun hm => ?_, hnp.1⟩
      rcases hnp.2 _ hm with h1 | h1
      · exact (List.nodup_cons.1 hBnd).1 h1
      · exact (hfree _ (f3 ▸ h1)).2 d hB)
    (fun b hb => by
      have : b ∈ g.OB d ∨ b ∈ ob := by
        rcases List.mem_cons.1 hb with h1 | h1
        · exact .inl (h1 ▸ hB)
        · rcases hnp.2 b h1 with h2 | h2
          · exact .inl (by rw [e5]; exact List.mem_cons_of_mem _ h2)
          · exact .inr (f3 ▸ h2)
      simp only [size_setRow]
      rcases this with h1 | h1
      · exact h.inv.fB d b h1
      · exact (h.fr b (by simpa using h1)).1)
    (fun b hb t => by
      rcases List.mem_cons.1 hb with h1 | h1
      · exact h1 ▸ hdO t
      · rcases hnp.2 b h1 with h2 | h2
        · exact fun hm => h.inv.dOB t d b hm (by rw [e5]; exact List.mem_cons_of_mem _ h2)
        · exact (hfree b (f3 ▸ h2)).1 t)
    (fun b hb d' hd => by
      simp only [if_neg hd]
      rcases List.mem_cons.1 hb with h1 | h1
      · exact h1 ▸ hdB d' hd
      · rcases hnp.2 b h1 with h2 | h2
        · exact h.inv.dBB d d' (fun e => hd e.symm) b (by rw [e5]; exact List.mem_cons_of_mem _ h2)
        · exact (hfree b (f3 ▸ h2)).2 d')
  exact ⟨_, hnew⟩

/-- An element of a slice that a slot holds alone is written. -/
theorem Held.storeEl {t i off sz : Nat} {xs : List (List V)} {row : List V} {x : V} {r : Value} {ob : List Nat} (h : Held c g st a w [(x, r, ob)]) (hob : ob = []) (ht : st.at t = .sl .x sz xs) (hrow : xs[i]? = some row) (hl : (flat x).all leaf = true) (hfit : off + (flat x).length ≤ row.length) :
    ∃ b q n cc C e, a.tmps.getD t Go.undef = .slice (some ⟨b, q, none⟩) n cc ∧ w.heap[b]? = some (.cells C e (0, 0)) ∧ q + (i * sz + off) + r.cells.toList.length ≤ C.size ∧ (∀ u ∈ r.cells.toList, u.oneCell' = true) ∧
      ∃ g', FInv c g' { st with tm := put st.tm t (.sl .x sz (xs.set i (paste row off (flat x)))) } a (w.setRow b (C.toList.take (q + (i * sz + off)) ++ r.cells.toList ++ C.toList.drop (q + (i * sz + off) + r.cells.toList.length)).toArray) := by
  subst hob
  have hat := h.inv.at t
  rw [ht] at hat
  have hi : i < xs.length := (List.getElem?_eq_some_iff.1 hrow).1
  have hx : Rel w g.S x r [] := by
    refine (h.rel _ (List.mem_singleton.2 rfl)).rel ⟨fun d f e => ?_, fun t i f e => ?_, fun t e => ?_⟩ <;> (dsimp only at e; subst e; simp [Vi.flat, leaf] at hl)
  obtain ⟨f1, f2, nos, f3, f4, f5⟩ := hx.flat hl
  have hnos : ∀ o ∈ nos, o = [] := List.flatten_eq_nil_iff.1 f3
  have hrl : r.cells.toList.length = (Vi.flat x).length := by simp [f1]
  rcases Rel.slx_inv (show Rel w g.S (.sl .x sz xs) (a.tmps.getD t Go.undef) (g.O t) from hat) with ⟨h0, _⟩ | ⟨b, q, n, cc, f, C, e, hv, hO, hn, hxl, hb, hsz, hnc, hf, hN, hrel⟩
  · subst h0; simp at hi
  have hlen := hxl i row hrow
  have hbnd : i * sz + sz ≤ xs.length * sz := by
    have : (i + 1) * sz ≤ xs.length * sz := Nat.mul_le_mul_right _ hi
    rwa [Nat.add_mul, Nat.one_mul] at this
  have hcap : xs.length * sz ≤ cc * sz := Nat.mul_le_mul_right _ (by omega)
  have hfitC : q + (i * sz + off) + r.cells.toList.length ≤ C.size := by omega
  refine ⟨b, q, n, cc, C, e, hv, hb, hfitC, f2, ?_⟩
  generalize hC' : (C.toList.take (q + (i * sz + off)) ++ r.cells.toList ++ C.toList.drop (q + (i * sz + off) + r.cells.toList.length)).toArray = C'
  have hbt : b ∈ g.O t := by rw [hO]; simp
  have hkeep : Keep g.S w (w.setRow b C') := Keep.of_heap fun b' k hs => setRow_other w _ b' _ (fun e => hN k (e ▸ hs))
  have hnewrel : Rel (w.setRow b C') g.S (.sl .x sz (xs.set i (paste row off (Vi.flat x)))) (a.tmps.getD t Go.undef) [b] := by
    have hmx : cc ≤ 9223372036854775807 := Rel.slx_cap (show Rel w g.S (.sl .x sz xs) (.slice (some ⟨b, q, none⟩) n cc) (g.O t) from hv ▸ hat) (by simp)
    rw [hv]
    refine .slo .x sz _ b q n cc (fun i' j => C'.getD (q + (i' * sz + j)) Go.undef) C' e (by simp) (by simpa using hn) ?_ (setRow_heap w b C _ e _ hb) ?_ hnc hmx ?_ (fun h => by cases h) (fun k _ => hN k) ?_
    · intro i' y hy
      rw [List.getElem?_set] at hy
      by_cases hii : i = i'
      · rw [if_pos hii, if_pos hi] at hy
        cases hy; simp [paste]; omega
      · rw [if_neg hii] at hy
        exact hxl i' y hy
    · rw [← hC']; simp; omega
    · intro i' j hi' hj
      simp only [List.length_set] at hi'
      have h1 : i' * sz + sz ≤ xs.length * sz := by
        have : (i' + 1) * sz ≤ xs.length * sz := Nat.mul_le_mul_right _ hi'
        rwa [Nat.add_mul, Nat.one_mul] at this
      have : q + (i' * sz + j) < C'.size := by rw [← hC']; simp; omega
      simp [Array.getD, this]
    · intro i' y j u hy hu
      have hjs : j < sz ∧ i' < xs.length := by
        have hi2 := (List.getElem?_eq_some_iff.1 hy).1
        simp only [List.length_set] at hi2
        refine ⟨?_, hi2⟩
        have hj := (List.getElem?_eq_some_iff.1 hu).1
        rw [List.getElem?_set] at hy
        by_cases hii : i = i'
        · rw [if_pos hii, if_pos hi] at hy
          cases hy; simp [paste] at hj; omega
        · rw [if_neg hii] at hy
          have := hxl i' y hy; omega
      have hgetC : ∀ k, k < C.size → C'.getD k Go.undef = (if k < q + (i * sz + off) then C.getD k Go.undef else if k < q + (i * sz + off) + r.cells.toList.length then r.cells.getD (k - (q + (i * sz + off))) Go.undef else C.getD k Go.undef) := by
        intro k hk
        have hm := mem_paste (l := C.toList) (new := r.cells.toList) (off := q + (i * sz + off)) (by simpa using hfitC) (j := k)
        rw [← hC', Array.getD_eq_getD_getElem?, List.getElem?_toArray, hm]
        simp only [Array.getD_eq_getD_getElem?, Array.getElem?_toList]
        split
        · rfl
        · split <;> rfl
      have h1 : i' * sz + sz ≤ xs.length * sz := by
        have : (i' + 1) * sz ≤ xs.length * sz := Nat.mul_le_mul_right _ hjs.2
        rwa [Nat.add_mul, Nat.one_mul] at this
      have hold : ∀ (row' : List V), xs[i']? = some row' → row'[j]? = some u → Rel (w.setRow b C') g.S u (C.getD (q + (i' * sz + j)) Go.undef) [] := by
        intro row' h2 h3
        have h4 := hf i' j hjs.2 hjs.1
        rw [Array.getD_eq_getD_getElem?, h4]
        exact (hrel i' row' j u h2 h3).keep0 hkeep (fun _ _ h => h)
      rw [List.getElem?_set] at hy
      show Rel _ _ u (C'.getD (q + (i' * sz + j)) Go.undef) []
      rw [hgetC _ (by omega)]
      by_cases hii : i = i'
      · subst hii
        rw [if_pos rfl, if_pos hi] at hy
        · cases hy
          unfold paste at hu
          rw [mem_paste hfit] at hu
          by_cases k1 : j < off
          · rw [if_pos k1] at hu
            rw [if_pos (by omega)]
            exact hold row hrow hu
          · rw [if_neg k1] at hu
            rw [if_neg (by omega)]
            by_cases k2 : j < off + (Vi.flat x).length
            · rw [if_pos k2] at hu
              rw [if_pos (by omega)]
              have hidx : q + (i * sz + j) - (q + (i * sz + off)) = j - off := by omega
              rw [hidx]
              have hlt : j - off < r.cells.size := by omega
              have hoo : nos[j - off]? = some (nos[j - off]'(by omega)) := List.getElem?_eq_getElem (by omega)
              have := f5 (j - off) u (r.cells[j - off]) _ hu (by simp [hlt]) hoo
              rw [hnos _ (List.getElem_mem _)] at this
              simp only [Array.getD, hlt, dif_pos]
              exact this.keep0 hkeep (fun _ _ h => h)
            · rw [if_neg k2] at hu
              rw [if_neg (by omega)]
              exact hold row hrow hu
      · rw [if_neg hii] at hy
        have hne : i' * sz + sz ≤ i * sz ∨ i * sz + sz ≤ i' * sz := by
          rcases Nat.lt_or_gt_of_ne (fun e => hii e.symm) with h5 | h5
          · left
            have : (i' + 1) * sz ≤ i * sz := Nat.mul_le_mul_right _ h5
            rwa [Nat.add_mul, Nat.one_mul] at this
          · right
            have : (i + 1) * sz ≤ i' * sz := Nat.mul_le_mul_right _ h5
            rwa [Nat.add_mul, Nat.one_mul] at this
        rcases hne with h5 | h5
        · rw [if_pos (by omega)]; exact hold y hy hu
        · rw [if_neg (by omega), if_neg (by omega)]; exact hold y hy hu
  exact ⟨g, h.inv.slotW t _ _ b hbt (fun k hk => setRow_other w _ k _ hk) hN rfl rfl rfl (by simp) (by rw [hO]; exact hnewrel) (fun _ => by rw [ht]; exact .inl ⟨sz, _, _, rfl, rfl⟩)⟩

theorem snd_store {o : Oper} {root : Root} {sz : Nat} {t : TypeId} {p x : A} {X Y : Operand} {v : V} {call : FuncId → List V → Option V} (h : FInv c g st a w) (ho : o.op = .store t X Y) (hd : o.dst = none) (hx : opndOK c.gl p X = true) (pp : plainA p = true) (hy : opndOK c.gl x Y = true)
    (hz : (c.P.info? t).map (·.size) = some sz) (hpl : ∀ s, root = .tm s → plainA x = true) (hv : exec call (.store root sz p x) st = some (v, st')) : Out c o a w st' v := by
  simp only [exec] at hv
  split at hv
  · rename_i hc
    obtain ⟨hlen, hleaf⟩ := hc
    simp only [Option.map_eq_some_iff] at hv
    obtain ⟨st1, hw, hv⟩ := hv
    cases hv
    obtain ⟨o', hr⟩ := opndRaw h hx pp
    obtain ⟨g1, ov, hh, -, hβ, -⟩ := opnd1 h hy
    have hval : leaf (st.val x) = true ∨ ∃ cs, st.val x = .agg cs := by
      cases hvx : st.val x <;> rw [hvx] at hleaf <;> simp_all [flat, leaf]
    have hsz : (a.eval Y).cells.size = sz := by
      have hrel : Rel w g1.S (st.val x) (a.eval Y) ov := by
        refine (hh.rel _ (List.mem_singleton.2 rfl)).rel ⟨fun d f e => ?_, fun t i f e => ?_, fun t e => ?_⟩ <;> (dsimp only at e; rw [e] at hleaf; simp [Vi.flat, leaf] at hleaf)
      rw [← (hrel.flat hleaf).1, hlen]
    refine .inr (.inl ⟨hd, ?_⟩)
    generalize st.raw p = pv at hr hw
    cases pv <;> simp only [St.write, reduceCtorEq] at hw
    case loc d off =>
      split at hw
      · split at hw
        · rename_i cs hb
          split at hw
          · rename_i hfit
            cases hw
            obtain ⟨C, e, e1, e2, e3, g', hnew⟩ := hh.store (d := d) (off := off) hb hleaf hfit
            rw [hβ] at e1 hnew
            have hst := run_storeCells_at c.P (g.β d) off e (a.eval Y).cells.toList 0 C w e1 (by simpa using e2) e3
            refine ⟨_, ?_, g', hnew⟩
            simp only [Nat.add_zero] at hst
            simp [execOp, ho, Instr.storeAt, Instr.sureAddr, hr.2, storeVar, run_sizeOf' w hz, hsz, hst]
          · cases hw
        · cases hw
      · cases hw
    case el s i off =>
      split at hw
      · rename_i hroot
        split at hw
        · rename_i sz' xs hs
          split at hw
          · rename_i row hrow
            split at hw
            · rename_i hfit
              cases hw
              have hp := hpl s hroot
              have hg : ∀ s : St, s.gone [x] = s := by intro s; cases x <;> first | rfl | cases hp
              have hpl := opnd h hy hp
              have hh0 : Held c g st a w [(st.val x, a.eval Y, [])] := by simpa using (Held.nil h).push0 hpl
              obtain ⟨b, q, n, cc, C, e, e0, e1, e2, e3, g', hnew⟩ := hh0.storeEl rfl hs hrow hleaf hfit
              obtain ⟨b', q', n', cc', e5, e6⟩ := hr.2 sz' xs hs
              rw [e0] at e5
              cases e5
              have hst := run_storeCells_at c.P b (q + (i * sz' + off)) e (a.eval Y).cells.toList 0 C w e1 (by simpa using e2) e3
              refine ⟨_, ?_, g', by rw [hg]; exact hnew⟩
              simp only [Nat.add_zero] at hst
              simp [execOp, ho, Instr.storeAt, Instr.sureAddr, e6, storeVar, run_sizeOf' w hz, hsz, hst]
            · cases hw
          · cases hw
        · cases hw
      · cases hw
  · cases hv

def zOK : V → Value → Bool
  | .int k n, .int k' n' => k == k' && n == n'
  | .bool b, .bool b' => b == b'
  | .str s, .string s' => decide (s = s')
  | .nili, .nilIface => true
  | .nilp, .pointer none => true
  | .nilf, .nilFunc => true
  | .sl _ _ [], .slice _ 0 0 => true
  | _, _ => false

theorem zOK_rel (w : World) (S : Stab) {z : V} {v : Value} (h : zOK z v = true) : Rel w S z v [] ∧ leaf z = true ∧ v.oneCell' = true ∧ v.cells = #[v] := by
  unfold zOK at h
  split at h
  · simp only [Bool.and_eq_true, beq_iff_eq] at h; obtain ⟨rfl, rfl⟩ := h; exact ⟨.int _ _, rfl, rfl, rfl⟩
  · simp only [beq_iff_eq] at h; subst h; exact ⟨.bool _, rfl, rfl, rfl⟩
  · simp only [decide_eq_true_eq] at h; subst h; exact ⟨.str _, rfl, rfl, rfl⟩
  · exact ⟨.nili, rfl, rfl, rfl⟩
  · exact ⟨.nilp, rfl, rfl, rfl⟩
  · exact ⟨.nilf, rfl, rfl, rfl⟩
  · exact ⟨.sl0 _ _ _, rfl, rfl, rfl⟩
  · cases h

def zsOK : List V → List Value → Bool
  | [], [] => true
  | z :: zs, v :: vs => zOK z v && zsOK zs vs
  | _, _ => false

theorem zsOK_rel (w : World) (S : Stab) : ∀ {zs : List V} {vs : List Value}, zsOK zs vs = true → zs.length = vs.length ∧ (∀ u ∈ vs, u.oneCell' = true) ∧ zs.all leaf = true ∧ ∀ (i : Nat) (z : V) (v : Value), zs[i]? = some z → vs[i]? = some v → Rel w S z v []
  | [], [], _ => by simp
  | [], _ :: _, h => by cases h
  | _ :: _, [], h => by cases h
  | z :: zs, v :: vs, h => by
    simp only [zsOK, Bool.and_eq_true] at h
    obtain ⟨h1, h2, h3, h4⟩ := zsOK_rel w S h.2
    have h0 := zOK_rel w S h.1
    refine ⟨by simp [h1], ?_, by simp [h0.2.1, h3], fun i y u hy hu => ?_⟩
    · intro u hu
      rcases List.mem_cons.1 hu with rfl | hu
      · exact h0.2.2.1
      · exact h2 u hu
    · cases i with
      | zero => simp at hy hu; subst hy hu; exact h0.1
      | succ i => exact h4 i y u (by simpa using hy) (by simpa using hu)

theorem put_put {α : Type} (d : Nat) (u v : α) : ∀ l : List (Nat × α), put (put l d u) d v = put l d v
  | [] => by simp [put]
  | (k, x) :: l => by
    by_cases h1 : k = d
    · subst h1; simp [put]
    · by_cases h2 : k < d
      · have ih := put_put d u v l
        simp only [put, if_neg h1, if_pos h2, ih]
      · simp [put, h1, h2]

theorem away_get {d : Nat} : ∀ {l : List (Nat × V)}, away d l = true → ∀ t off, (t, V.loc d off) ∈ l → t = d
  | [], _, _, _, h => by cases h
  | (t', v') :: l, h, t, off, hm => by
    rcases List.mem_cons.1 hm with e | e
    · cases e
      simp only [away, Bool.and_eq_true, Bool.or_eq_true, beq_iff_eq, bne_self_eq_false, Bool.false_eq_true, or_false] at h
      exact h.1
    · refine away_get (l := l) ?_ t off e
      cases v' <;> simp_all [away]

/-- A new box in a slot. -/
theorem Held.laid {d : Nat} {z : List V} {vs : Array Value} {e : TypeId} {os : List (List Nat)} (h : Held c g st a w hs) (hd : d < c.nt) (haw : away d st.tm = true) (hl : z.length = vs.size) (hlo : os.length = z.length)
    (hrel : ∀ (i : Nat) (y : V) (v : Value) (o : List Nat), z[i]? = some y → vs[i]? = some v → os[i]? = some o → Rel w g.S y v o)
    (hos : ∀ b ∈ os.flatten, b ∈ hs.flatMap (·.2.2)) (hnd : os.flatten.Nodup) :
    ∃ g', FInv c g' { tm := put st.tm d (.loc d 0), bx := put st.bx d (false, z) } (a.put (some d) (.pointer (some ⟨w.heap.size, 0, none⟩))) (w.alloc (.cells vs e)) := by
  have hlt : ∀ b, ((∃ t, b ∈ g.O t) ∨ (∃ d, b ∈ g.OB d) ∨ b ∈ hs.flatMap (·.2.2)) → b < w.heap.size := by
    rintro b (⟨t, hb⟩ | ⟨d', hb⟩ | hb)
    · exact (h.inv.fO t b hb).2
    · exact (h.inv.fB d' b hb).2
    · exact (h.fr b hb).1.2
  have hSn : ∀ k, ¬ g.S w.heap.size k := fun k hs => Nat.lt_irrefl _ (h.inv.lt _ _ hs)
  have h1 := h.write (w.alloc (.cells vs e)) w.heap.size (fun b hb => by
      by_cases hb' : b < w.heap.size
      · exact heap_alloc_old w _ b hb'
      · have h2 : w.heap.size ≤ b := by omega
        have h3 : (w.alloc (.cells vs e)).heap.size ≤ b := by simp; omega
        rw [Array.getElem?_eq_none h2, Array.getElem?_eq_none h3]) hSn
    (fun t hm => Nat.lt_irrefl _ (hlt _ (.inl ⟨t, hm⟩))) (fun d' hm => Nat.lt_irrefl _ (hlt _ (.inr (.inl ⟨d', hm⟩)))) (fun hm => Nat.lt_irrefl _ (hlt _ (.inr (.inr hm)))) (.inl h.inv.hB) rfl rfl rfl (by simp)
  have h2 := h1.inv.empty d
  have h3 := h2.rebx d (put st.bx d (false, z)) w.heap.size (w.heap.size :: os.flatten) (fun d' hd' => by rw [get_put, if_neg hd'])
    (fun cs hcs => by
      rw [get_put, if_pos rfl] at hcs
      cases hcs
      exact ⟨vs, e, os, heap_alloc_new w _, hl.symm, hlo, fun j y v o hy hv ho => (hrel j y v o hy hv ho).keep (Keep.of_heap fun b k hs => heap_alloc_old w _ b (h.inv.lt b k hs)) (fun _ _ h => h)
        (fun b hb => heap_alloc_old w _ b (hlt b (.inr (.inr (hos b (List.mem_flatten.2 ⟨o, List.mem_of_getElem? ho, hb⟩)))))) (fun _ _ _ h => h), rfl, hSn⟩)
    (fun cs hcs => by rw [get_put, if_pos rfl] at hcs; cases hcs) (fun hcs => by rw [get_put, if_pos rfl] at hcs; cases hcs)
    (.inr fun t off hg => by
      rw [get_put] at hg
      split at hg
      · cases hg
      · rename_i ht; exact ht (away_get haw t off (get_mem hg)))
    (List.nodup_cons.2 ⟨fun hm => Nat.lt_irrefl _ (hlt _ (.inr (.inr (hos _ hm)))), hnd⟩)
    (fun b hb => by
      rcases List.mem_cons.1 hb with rfl | hb
      · exact ⟨.inl h.inv.hB, by simp⟩
      · have := (h.fr b (hos b hb)).1
        exact ⟨this.1, by simp; omega⟩)
    (fun b hb t => by
      simp only
      by_cases ht : t = d
      · rw [if_pos ht]; simp
      · rw [if_neg ht]
        rcases List.mem_cons.1 hb with rfl | hb
        · exact fun hm => Nat.lt_irrefl _ (hlt _ (.inl ⟨t, hm⟩))
        · exact (h.fr b (hos b hb)).2.1 t)
    (fun b hb d' hd' => by
      rcases List.mem_cons.1 hb with rfl | hb
      · exact fun hm => Nat.lt_irrefl _ (hlt _ (.inr (.inl ⟨d', hm⟩)))
      · exact (h.fr b (hos b hb)).2.2 d')
  have h4 := h3.slot d hd (.loc d 0) (.pointer (some ⟨w.heap.size, 0, none⟩)) [] ⟨rfl, by simp⟩ (by simp [isX]) (by simp) (by simp) (by simp) (by simp)
  rw [put_put] at h4
  exact ⟨_, h4⟩

end Go.Vi
