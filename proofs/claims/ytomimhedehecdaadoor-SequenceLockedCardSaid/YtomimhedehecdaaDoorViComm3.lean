/- Two steps that do not meet may change places. -/
import Derived.Test.YtomimhedehecdaaDoorViComm2
namespace Go.Vi
variable {call : FuncId → List V → Option V} {st st' st1 : St}

def fixedOp : MOp → Bool
  | .mv x | .nilchk x | .faddr _ _ x | .iarr _ _ x _ | .iaddr _ _ x _ => x.fixed
  | .pick _ x y => x.fixed && y.fixed
  | _ => true

theorem val_nm {x : A} (hf : x.fixed = true) {k : Bool} {d : Nat} (h : nm k d (st.val x) = true) : (k = false ∧ d ∈ x.slots) ∨ ∃ n ∈ x.slots, nm k d (st.at n) = true := by
  cases x with
  | t n =>
    simp only [St.val] at h
    generalize hu : st.at n = u at h
    cases u with
    | sl o sz xs =>
      cases o <;> simp [cpa, cp, nm] at h
      exact .inl ⟨h.1, by simp [A.slots, h.2]⟩
    | mp o es =>
      cases o <;> simp [cpa, cp, nm] at h
      exact .inl ⟨h.1, by simp [A.slots, h.2]⟩
    | loc e off => exact .inr ⟨n, by simp [A.slots], by rw [hu]; exact h⟩
    | el e i off => exact .inr ⟨n, by simp [A.slots], by rw [hu]; exact h⟩
    | rf e => exact .inr ⟨n, by simp [A.slots], by rw [hu]; exact h⟩
    | _ => simp [cpa, cp, nm] at h
  | m o n =>
    simp only [St.val] at h
    generalize hu : st.at n = u at h
    cases u with
    | sl o' sz xs => cases o <;> cases o' <;> simp [low, nm] at h
    | mp o' es => cases o <;> simp [low, nm] at h
    | loc e off => exact .inr ⟨n, by simp [A.slots], by rw [hu]; cases o <;> exact h⟩
    | el e i off => exact .inr ⟨n, by simp [A.slots], by rw [hu]; cases o <;> exact h⟩
    | rf e => exact .inr ⟨n, by simp [A.slots], by rw [hu]; cases o <;> exact h⟩
    | _ => cases o <;> simp [low, nm] at h
  | c v => rw [nm_data (by exact hf)] at h; cases h

theorem raw_nm {x : A} (hf : x.fixed = true) {k : Bool} {d : Nat} (h : nm k d (st.raw x) = true) : ∃ n ∈ x.slots, nm k d (st.at n) = true := by
  cases x with
  | t n => exact ⟨n, by simp [A.slots], h⟩
  | m o n => exact ⟨n, by simp [A.slots], h⟩
  | c v => rw [nm_data (by exact hf)] at h; cases h

/-- Where a name comes from. -/
theorem exec_nm {o : MOp} {F : Foot} {v : V} (hf : footE o = some F) (hx : fixedOp o = true) (he : exec call o st = some (v, st1)) (hp : (ptrOp o || data v) = true) {k : Bool} {d : Nat} (hn : nm k d v = true) :
    (k = false ∧ d ∈ F.rd) ∨ ∃ n ∈ F.rd, nm k d (st.at n) = true := by
  cases hpo : ptrOp o with
  | false =>
    rw [hpo, Bool.false_or] at hp
    rw [nm_data hp] at hn; cases hn
  | true =>
    cases o <;> simp only [ptrOp, Bool.false_eq_true] at hpo <;> simp only [footE, Option.some.injEq] at hf <;> simp only [fixedOp, Bool.and_eq_true] at hx <;> subst hf
    case mv x =>
      simp only [exec, Option.some.injEq, Prod.mk.injEq] at he
      obtain ⟨rfl, -⟩ := he
      exact val_nm hx hn
    case pick x y z =>
      simp only [exec] at he
      split at he
      · rename_i b hb
        simp only [Option.some.injEq, Prod.mk.injEq] at he
        obtain ⟨rfl, -⟩ := he
        cases b
        · rcases val_nm hx.2 (by simpa using hn) with ⟨h1, h2⟩ | ⟨n, h1, h2⟩
          · exact .inl ⟨h1, by simp [slotsOf, h2]⟩
          · exact .inr ⟨n, by simp [slotsOf, h1], h2⟩
        · rcases val_nm hx.1 (by simpa using hn) with ⟨h1, h2⟩ | ⟨n, h1, h2⟩
          · exact .inl ⟨h1, by simp [slotsOf, h2]⟩
          · exact .inr ⟨n, by simp [slotsOf, h1], h2⟩
      · cases he
    case nilchk x =>
      simp only [exec] at he
      split at he
      · cases he; simp [nm] at hn
      · rename_i e
        cases he
        obtain ⟨n, h1, h2⟩ := raw_nm (st := st) hx (k := k) (d := d) (by rw [e]; exact hn)
        exact .inr ⟨n, h1, h2⟩
      · cases he
    case faddr r off p =>
      simp only [exec] at he
      split at he
      · cases he; simp [nm] at hn
      · rename_i e
        cases he
        obtain ⟨n, h1, h2⟩ := raw_nm (st := st) hx (k := k) (d := d) (by rw [e]; exact hn)
        exact .inr ⟨n, by simp [h1], h2⟩
      · rename_i e
        split at he
        · split at he
          · cases he
            obtain ⟨n, h1, h2⟩ := raw_nm (st := st) hx (k := k) (d := d) (by rw [e]; exact hn)
            exact .inr ⟨n, by simp [h1], h2⟩
          · cases he
        · cases he
      · cases he
    case iarr n sz p i =>
      simp only [exec] at he
      split at he
      · split at he
        · cases he; simp [nm] at hn
        · cases he
      · rename_i e _
        split at he
        · cases he
          obtain ⟨n, h1, h2⟩ := raw_nm (st := st) hx (k := k) (d := d) (by rw [e]; exact hn)
          exact .inr ⟨n, by simp [slotsOf, h1], h2⟩
        · cases he
      · cases he
    case iaddr r sz x i =>
      simp only [exec] at he
      split at he
      · rename_i e _
        split at he
        · split at he
          · split at he
            · cases he
              rcases val_nm (st := st) hx (k := k) (d := d) (by rw [e]; exact hn) with ⟨h1, h2⟩ | ⟨n, h1, h2⟩
              · exact .inl ⟨h1, by simp [slotsOf, h2]⟩
              · exact .inr ⟨n, by simp [slotsOf, h1], h2⟩
            · cases he
          · cases he
        · cases he
      · split at he
        · simp only [Option.map_eq_some_iff] at he
          obtain ⟨c, _, he⟩ := he
          cases he; simp [nm] at hn
        · cases he
      · cases he

theorem leaf_hand {o : Own} {u : V} (h : (flat (low o u)).all leaf = true) : data u = true := by
  cases u <;> simp_all [data, low, flat, leaf]
theorem leaf_hand' {o : Own} {u : V} (h : (flat (cp (low o u))).all leaf = true) : data u = true := by
  cases u <;> simp_all [data, low, cp, flat, leaf]
theorem data_hand {o : Own} {u : V} (h : data (low o u) = true) : data u = true := by
  cases u <;> simp_all [data, low]
theorem low_name {o : Own} {u : V} (h : data u = false) : low o u = u := by
  cases u <;> cases o <;> simp_all [data, low]

theorem mem_hand {xs : List A} {n : Nat} (h : n ∈ handOf xs) : ∃ o, A.m o n ∈ xs := by
  obtain ⟨x, hx, hn⟩ := List.mem_flatMap.1 h
  cases x <;> simp [A.hand] at hn
  subst hn
  exact ⟨_, hx⟩

theorem fill_hand {n : Nat} {o : Own} : ∀ {ps : List (Nat × Nat × A)} {cs cs' : List V}, fill st cs ps = some cs' → A.m o n ∈ ps.map (·.2.2) → data (st.at n) = true
  | [], _, _, _, h => by cases h
  | (off, sz, x) :: ps, cs, cs', hf, h => by
    simp only [fill] at hf
    split at hf
    · rename_i hc
      simp only [List.map_cons, List.mem_cons] at h
      rcases h with h | h
      · subst h; exact leaf_hand' hc.2.2
      · exact fill_hand hf h
    · cases hf

theorem rows_hand {sz n : Nat} {o : Own} : ∀ {ps : List (Nat × A)} {xs xs' : List (List V)}, rowsOf st sz xs ps = some xs' → A.m o n ∈ ps.map (·.2) → data (st.at n) = true
  | [], _, _, _, h => by cases h
  | (i, x) :: ps, cs, cs', hf, h => by
    simp only [rowsOf] at hf
    split at hf
    · rename_i hc
      simp only [List.map_cons, List.mem_cons] at h
      rcases h with h | h
      · subst h; exact leaf_hand' hc.2.2
      · exact rows_hand hf h
    · cases hf

/-- What is handed on or written is no name, or it is what is given. -/
theorem exec_hand {o : MOp} {F : Foot} {v : V} (hf : footE o = some F) (he : exec call o st = some (v, st1)) {n : Nat} (hn : n ∈ F.wr) : data (st.at n) = true ∨ ((∃ x, o = .mv x) ∧ v = st.at n) := by
  cases o <;> simp only [footE, Option.some.injEq, reduceCtorEq] at hf <;> subst hf <;> simp only [List.not_mem_nil] at hn
  case mv x =>
    cases x <;> simp [A.hand] at hn
    subst hn
    simp only [exec, Option.some.injEq, Prod.mk.injEq, St.val] at he
    cases hd : data (st.at n) with
    | true => exact .inl rfl
    | false => rw [low_name hd] at he; exact .inr ⟨⟨_, rfl⟩, he.1.symm⟩
  case build z ps =>
    obtain ⟨o, ho⟩ := mem_hand hn
    simp only [exec, Option.map_eq_some_iff] at he
    obtain ⟨cs, hc, -⟩ := he
    exact .inl (fill_hand hc ho)
  case bsl sz m z ps =>
    obtain ⟨o, ho⟩ := mem_hand hn
    simp only [exec] at he
    split at he
    · simp only [Option.map_eq_some_iff] at he
      obtain ⟨cs, hc, -⟩ := he
      exact .inl (rows_hand hc ho)
    · cases he
  case app sz bytes x y =>
    obtain ⟨o, ho⟩ := mem_hand hn
    simp only [exec] at he
    split at he
    · rename_i e1 e2
      simp only [List.mem_cons, List.not_mem_nil, or_false] at ho
      rcases ho with rfl | rfl
      · exact .inl (data_hand (o := o) (by simp only [St.val] at e1; rw [e1]; rfl))
      · exact .inl (data_hand (o := o) (by simp only [St.val] at e2; rw [e2]; rfl))
    · cases he
  case slc sz x lo hi mx =>
    obtain ⟨o, ho⟩ := mem_hand hn
    simp only [List.mem_cons, List.not_mem_nil, or_false] at ho
    subst ho
    simp only [exec] at he
    split at he
    · rename_i e1
      exact .inl (data_hand (o := o) (by simp only [St.val] at e1; rw [e1]; rfl))
    · cases he
  case call f xs =>
    obtain ⟨o, ho⟩ := mem_hand hn
    simp only [exec] at he
    split at he
    · rename_i hd
      have := List.all_eq_true.1 hd (st.val (.m o n)) (List.mem_map.2 ⟨_, ho, rfl⟩)
      exact .inl (data_hand this)
    · cases he
  case store r sz p x =>
    simp only [exec] at he
    split at he
    · rename_i hc
      simp only [Option.map_eq_some_iff] at he
      obtain ⟨s2, hw, -⟩ := he
      rcases List.mem_append.1 hn with h1 | h1
      · cases x <;> simp [A.hand] at h1
        subst h1
        exact .inl (leaf_hand hc.2)
      · cases r <;> simp [Root.t] at h1
        subst h1
        cases hp : st.raw p <;> rw [hp] at hw <;> simp only [St.write, reduceCtorEq, if_false] at hw
        rename_i t i off
        split at hw
        · rename_i ht
          cases ht
          split at hw
          · rename_i e; exact .inl (by rw [e]; rfl)
          · cases hw
        · cases hw
    · cases he

end Go.Vi
