/- '==' of structs and arrays of plain parts: cell by cell. -/
import Derived.Test.YtomimhedehecdaaDoorViRel
import Derived.Laws.StructEq
import Derived.Laws.Rows
namespace Go.Vi

def vk : Lk → Value → Value → Option Bool
  | .i k, .int a x, .int b y => if a = k ∧ b = k then some (x == y) else none
  | .b, .bool x, .bool y => some (x == y)
  | .s, .string x, .string y => some (x.toList == y.toList)
  | _, _, _ => none

def vks : List Lk → List Value → List Value → Option Bool
  | [], [], [] => some true
  | k :: ks, x :: xs, y :: ys => match vk k x y, vks ks xs ys with
    | some p, some q => some (p && q)
    | _, _ => none
  | _, _, _ => none

def kindsGo (P : Program) (K : TypeId → Option (List Lk)) : List Field → Nat → Option (List Lk)
  | [], _ => some []
  | f :: r, off => match K f.type, (P.info? f.type).map (·.size) with
    | some ks, some z => if f.name ≠ "_" ∧ f.offset = off ∧ z = ks.length then (kindsGo P K r (off + z)).map (ks ++ ·) else none
    | _, _ => none

def kindsOf (P : Program) : Nat → TypeId → Option (List Lk)
  | 0, _ => none
  | d + 1, t => match P.underlying t with
    | some .bool => some [.b]
    | some (.int k) => some [.i k]
    | some .string => some [.s]
    | some (.struct fs) => if P.stoodInHeld t then none else kindsGo P (kindsOf P d) fs.toList 0
    | some (.array n e) => match kindsOf P d e, (P.info? e).map (·.size) with
      | some ks, some z => if z = ks.length then some (List.replicate n ks).flatten else none
      | _, _ => none
    | _ => none

def aggT (P : Program) (t : TypeId) : Bool := match P.underlying t with
  | some (.struct _) | some (.array ..) => true
  | _ => false

theorem vks_len : ∀ {ks xs ys b}, vks ks xs ys = some b → xs.length = ks.length ∧ ys.length = ks.length
  | [], [], [], _, _ => ⟨rfl, rfl⟩
  | k :: ks, x :: xs, y :: ys, b, h => by
    unfold vks at h
    split at h
    · rename_i p q h1 h2
      have := vks_len h2
      simp [this.1, this.2]
    · cases h
  | [], _ :: _, _, _, h => by simp [vks] at h
  | [], [], _ :: _, _, h => by simp [vks] at h
  | _ :: _, [], _, _, h => by simp [vks] at h
  | _ :: _, _ :: _, [], _, h => by simp [vks] at h

theorem vks_append : ∀ {ks ks' xs ys b}, vks (ks ++ ks') xs ys = some b → ∃ p q, vks ks (xs.take ks.length) (ys.take ks.length) = some p ∧ vks ks' (xs.drop ks.length) (ys.drop ks.length) = some q ∧ b = (p && q)
  | [], ks', xs, ys, b, h => ⟨true, b, by simp [vks], by simpa using h, by simp⟩
  | k :: ks, ks', [], ys, b, h => by simp [vks] at h
  | k :: ks, ks', _ :: _, [], b, h => by simp [vks] at h
  | k :: ks, ks', x :: xs, y :: ys, b, h => by
    simp only [List.cons_append, vks] at h
    split at h
    · rename_i p q h1 h2
      cases h
      obtain ⟨p', q', h3, h4, h5⟩ := vks_append h2
      subst h5
      exact ⟨p && p', q', by simp [vks, h1, h3], by simpa using h4, by rw [Bool.and_assoc]⟩
    · cases h

section
variable {P : Program}

theorem run_isAgg' (w : World) {t : TypeId} (h : (P.underlying t).isSome = true) : (isAgg t).run P w = .ok (aggT P t) w := by
  obtain ⟨d, hd⟩ := Option.isSome_iff_exists.1 h
  cases d <;> simp [isAgg, run_underlying hd, aggT, hd]

theorem run_sizeOf' (w : World) {t : TypeId} {z : Nat} (h : (P.info? t).map (·.size) = some z) : (sizeOf t).run P w = .ok z w := by
  obtain ⟨i, hi, rfl⟩ := Option.map_eq_some_iff.1 h
  simp [sizeOf, typeInfo, hi]

theorem kindsOf_some {d : Nat} {t : TypeId} {ks : List Lk} (h : kindsOf P d t = some ks) : (P.underlying t).isSome = true ∧ (aggT P t = false → ks.length = 1) := by
  cases d with
  | zero => simp [kindsOf] at h
  | succ d =>
    unfold kindsOf at h
    split at h <;> simp_all [aggT] <;> subst h <;> rfl

/-- A part of a struct or an array. -/
theorem run_part (w : World) {t : TypeId} {z off : Nat} (hu : (P.underlying t).isSome = true) (hz : (P.info? t).map (·.size) = some z) (cs : Array Value) (h : off + z ≤ cs.size) (h1 : aggT P t = false → z = 1) :
    (part t cs off).run P w = .ok (if aggT P t then .agg (cs.extract off (off + z)) else cs.getD off Go.undef) w := by
  cases hg : aggT P t with
  | true => simp [part, run_isAgg' w hu, hg, run_sizeOf' w hz]
  | false =>
    have hz1 := h1 hg
    subst hz1
    have hlt : off < cs.size := by omega
    simp [part, run_isAgg' w hu, hg, hlt, Array.getD]

theorem take_one (A : Array Value) (m : Nat) (h : m < A.size) : (A.toList.drop m).take 1 = [A[m]] := by
  rw [List.drop_eq_getElem_cons (by simpa using h)]; simp

theorem equalIn_ok : ∀ (d : Nat) (t : TypeId) (ks : List Lk), kindsOf P d t = some ks → ∀ (x y : Value) (b : Bool), (aggT P t = true → ∃ xs ys, x = .agg xs ∧ y = .agg ys) → (aggT P t = false → x.cells = #[x] ∧ y.cells = #[y]) →
    vks ks x.cells.toList y.cells.toList = some b → ∀ w, (Op.equalIn d t x y).run P w = .ok b w
  | 0, t, ks, h => by simp [kindsOf] at h
  | d + 1, t, ks, h => by
    intro x y b hg hs hv w
    unfold kindsOf at h
    split at h
    · rename_i hu
      cases h
      obtain ⟨h1, h2⟩ := hs (by simp [aggT, hu])
      rw [h1, h2] at hv
      cases x <;> cases y <;> simp [vks, vk] at hv
      subst hv
      exact run_equalIn_bool w d t _ _ hu
    · rename_i k hu
      cases h
      obtain ⟨h1, h2⟩ := hs (by simp [aggT, hu])
      rw [h1, h2] at hv
      cases x <;> cases y <;> simp [vks, vk] at hv
      split at hv
      · rename_i p q h3 h4
        simp only [Option.ite_none_right_eq_some] at h3
        obtain ⟨⟨rfl, rfl⟩, h3⟩ := h3
        cases h3; cases h4; cases hv
        rw [Bool.and_true]
        exact run_equalIn_int w d t _ _ _ _ hu
      · cases hv
    · rename_i hu
      cases h
      obtain ⟨h1, h2⟩ := hs (by simp [aggT, hu])
      rw [h1, h2] at hv
      cases x <;> cases y <;> simp [vks, vk] at hv
      subst hv
      simp [run_equalIn_string w d t _ _ hu]
    · rename_i fs hu
      split at h
      · cases h
      rename_i hst
      obtain ⟨xs, ys, rfl, rfl⟩ := hg (by simp [aggT, hu])
      have hfs : P.fieldsOf t = fs := by simp [Program.fieldsOf, hu]
      rw [run_equalIn_struct w d t xs ys (by rw [hfs]; exact hu) (by simpa using hst), hfs]
      simp only [Value.cells] at hv
      clear hu hfs hst hg hs
      have key : ∀ (fl : List Field) (off : Nat) (ks : List Lk) (b : Bool), kindsGo P (kindsOf P d) fl off = some ks → off ≤ xs.size → off ≤ ys.size → vks ks (xs.toList.drop off) (ys.toList.drop off) = some b → (Op.eqFields d xs ys fl).run P w = .ok b w := by
        intro fl
        induction fl with
        | nil =>
          intro off ks b hk _ _ hv
          simp only [kindsGo, Option.some.injEq] at hk
          subst hk
          have hl := vks_len hv
          cases hx : xs.toList.drop off with
          | nil =>
            cases hy : ys.toList.drop off with
            | nil => rw [hx, hy] at hv; simp [vks] at hv; subst hv; simp [Op.eqFields]
            | cons => rw [hy] at hl; simp at hl
          | cons => rw [hx] at hl; simp at hl
        | cons f fl ih =>
          intro off ks b hk h1 h2 hv
          simp only [kindsGo] at hk
          split at hk
          · rename_i ks1 z hk1 hz
            split at hk
            · rename_i hc
              obtain ⟨hn, ho, hzl⟩ := hc
              obtain ⟨rest, hrest, rfl⟩ := Option.map_eq_some_iff.1 hk
              obtain ⟨p, q, hp, hq, rfl⟩ := vks_append hv
              have hlen := vks_len hv
              simp only [List.length_drop, Array.length_toList, List.length_append] at hlen
              have hso := kindsOf_some hk1
              have hx := run_part w hso.1 hz xs (off := off) (by omega) (fun h => hzl.trans (hso.2 h))
              have hy := run_part w hso.1 hz ys (off := off) (by omega) (fun h => hzl.trans (hso.2 h))
              have heq : (Op.equalIn d f.type (if aggT P f.type then .agg (xs.extract off (off + z)) else xs.getD off Go.undef) (if aggT P f.type then .agg (ys.extract off (off + z)) else ys.getD off Go.undef)).run P w = .ok p w := by
                cases hg : aggT P f.type with
                | true =>
                  refine equalIn_ok d f.type ks1 hk1 _ _ p (fun _ => ⟨_, _, rfl, rfl⟩) (fun h => by rw [hg] at h; cases h) ?_ w
                  have ez : ∀ A : Array Value, (A.extract off (off + z)).toList = (A.toList.drop off).take ks1.length := by
                    intro A; simp [Array.toList_extract, List.extract_eq_take_drop, hzl]
                  simp only [Value.cells, ez]
                  exact hp
                | false =>
                  have h1' := hso.2 hg
                  have hxl : off < xs.size := by omega
                  have hyl : off < ys.size := by omega
                  have ex : (xs.toList.drop off).take ks1.length = [xs[off]] := by
                    rw [h1', List.drop_eq_getElem_cons (by simpa using hxl)]; simp
                  have ey : (ys.toList.drop off).take ks1.length = [ys[off]] := by
                    rw [h1', List.drop_eq_getElem_cons (by simpa using hyl)]; simp
                  rw [ex, ey] at hp
                  obtain ⟨k1, rfl⟩ : ∃ k1, ks1 = [k1] := by
                    match ks1, h1' with
                    | [k1], _ => exact ⟨k1, rfl⟩
                  simp only [Bool.false_eq_true, if_false, Array.getD, hxl, hyl, dif_pos]
                  have hcell : (xs[off]).cells = #[xs[off]] ∧ (ys[off]).cells = #[ys[off]] := by
                    revert hp
                    generalize xs[off] = u
                    generalize ys[off] = v
                    cases u <;> cases v <;> simp [vks, vk, Value.cells]
                  refine equalIn_ok d f.type [k1] hk1 _ _ p (fun h => by rw [hg] at h; cases h) (fun _ => hcell) ?_ w
                  rw [hcell.1, hcell.2]
                  exact hp
              have ih' := ih (off + z) rest q hrest (by omega) (by omega) (by rw [hzl]; simpa [List.drop_drop] using hq)
              simp only [Op.eqFields, hn, ne_eq, not_false_eq_true, if_true, ho, Sem.run_bind, hx, hy, Result.andThen_ok, heq, Sem.run_ite, ih', Sem.run_pure]
              cases p <;> simp
            · cases hk
          · cases hk
      exact key fs.toList 0 ks b h (Nat.zero_le _) (Nat.zero_le _) (by simpa using hv)
    · rename_i n e hu
      split at h
      · rename_i ks1 z hk1 hz
        split at h
        · rename_i hzl
          cases h
          obtain ⟨xs, ys, rfl, rfl⟩ := hg (by simp [aggT, hu])
          simp only [Value.cells] at hv
          have hso := kindsOf_some hk1
          simp only [Op.equalIn, Sem.run_bind, run_underlying hu, Result.andThen_ok, run_sizeOf' w hz]
          have one : ∀ i p, i < n → vks ks1 ((xs.toList.drop (i * z)).take z) ((ys.toList.drop (i * z)).take z) = some p → i * z + z ≤ xs.size → i * z + z ≤ ys.size →
              ∃ u v, (part e xs (i * z)).run P w = .ok u w ∧ (part e ys (i * z)).run P w = .ok v w ∧ (Op.equalIn d e u v).run P w = .ok p w := by
            intro i p _ hp hx hy
            refine ⟨_, _, run_part w hso.1 hz xs hx (fun h => hzl.trans (hso.2 h)), run_part w hso.1 hz ys hy (fun h => hzl.trans (hso.2 h)), ?_⟩
            cases hg' : aggT P e with
            | true =>
              refine equalIn_ok d e ks1 hk1 _ _ p (fun _ => ⟨_, _, rfl, rfl⟩) (fun h => by rw [hg'] at h; cases h) ?_ w
              have ez : ∀ A : Array Value, (A.extract (i * z) (i * z + z)).toList = (A.toList.drop (i * z)).take z := by
                intro A; simp [Array.toList_extract, List.extract_eq_take_drop]
              simp only [Value.cells, ez]
              exact hp
            | false =>
              have h1' := hso.2 hg'
              have hz1 : z = 1 := hzl.trans h1'
              have hxl : i * z < xs.size := by omega
              have hyl : i * z < ys.size := by omega
              have ex : (xs.toList.drop (i * z)).take z = [xs[i * z]] := (congrArg (fun q => (xs.toList.drop (i * z)).take q) hz1).trans (take_one xs _ hxl)
              have ey : (ys.toList.drop (i * z)).take z = [ys[i * z]] := (congrArg (fun q => (ys.toList.drop (i * z)).take q) hz1).trans (take_one ys _ hyl)
              rw [ex, ey] at hp
              obtain ⟨k1, rfl⟩ : ∃ k1, ks1 = [k1] := by
                match ks1, h1' with
                | [k1], _ => exact ⟨k1, rfl⟩
              simp only [Bool.false_eq_true, if_false, Array.getD, hxl, hyl, dif_pos]
              have hcell : (xs[i * z]).cells = #[xs[i * z]] ∧ (ys[i * z]).cells = #[ys[i * z]] := by
                revert hp
                generalize xs[i * z] = u
                generalize ys[i * z] = v
                cases u <;> cases v <;> simp [vks, vk, Value.cells]
              refine equalIn_ok d e [k1] hk1 _ _ p (fun h => by rw [hg'] at h; cases h) (fun _ => hcell) ?_ w
              rw [hcell.1, hcell.2]
              exact hp
          have key : ∀ (F : Nat → Option Bool × Unit → Sem (ForInStep (Option Bool × Unit))), (∀ i p u v, (part e xs (i * z)).run P w = .ok u w → (part e ys (i * z)).run P w = .ok v w → (Op.equalIn d e u v).run P w = .ok p w →
                (F i (none, ())).run P w = .ok (if p then .yield (none, ()) else .done (some false, ())) w) → ∀ (m s : Nat) (b : Bool), s + m = n → vks (List.replicate m ks1).flatten (xs.toList.drop (s * z)) (ys.toList.drop (s * z)) = some b → s * z ≤ xs.size → s * z ≤ ys.size →
              (forIn (List.range' s m) ((none : Option Bool), ()) F).run P w = .ok (if b then (none, ()) else (some false, ())) w := by
            intro F hF m
            induction m with
            | zero =>
              intro s b _ hv _ _
              have hl := vks_len hv
              simp only [List.replicate_zero, List.flatten_nil, List.length_nil] at hl
              rw [List.eq_nil_of_length_eq_zero hl.1, List.eq_nil_of_length_eq_zero hl.2] at hv
              simp [vks] at hv
              subst hv
              simp
            | succ m ih =>
              intro s b hs' hv h1 h2
              rw [List.replicate_succ, List.flatten_cons] at hv
              have hlen := vks_len hv
              obtain ⟨p, q, hp, hq, rfl⟩ := vks_append hv
              simp only [List.length_append, List.length_drop, Array.length_toList] at hlen
              rw [← hzl] at hp hq
              obtain ⟨u, v, e1, e2, e3⟩ := one s p (by omega) hp (by omega) (by omega)
              have ih' := ih (s + 1) q (by omega) (by rw [Nat.add_mul, Nat.one_mul]; simpa [List.drop_drop] using hq) (by rw [Nat.add_mul]; omega) (by rw [Nat.add_mul]; omega)
              rw [List.range'_succ, List.forIn_cons, Sem.run_bind, hF s p u v e1 e2 e3]
              cases p with
              | true => simpa using ih'
              | false => simp
          rw [Std.Legacy.Range.forIn_eq_forIn_range']
          have en : ([:n] : Std.Legacy.Range).size = n := by simp [Std.Legacy.Range.size]
          rw [en, key _ (fun i p u v e1 e2 e3 => by
            simp only [Sem.run_bind, e1, e2, e3, Result.andThen_ok]
            cases p <;> simp) n 0 b (by omega) (by simpa using hv) (by simp) (by simp)]
          cases b <;> simp
        · cases h
      · cases h
    · cases h

end
end Go.Vi
