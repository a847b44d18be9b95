/- Maps. -/
import Derived.Test.YtomimhedehecdaaDoorViOps6
import Derived.MapKept
namespace Go.Vi
variable {c : Ctx} {g : G} {st st' : St} {a : Act} {w : World} {hs : List Hv}

/-- Keys of plain kinds, no arrays. -/
def keyOK (P : Program) : Nat → TypeId → Bool
  | 0, _ => false
  | d + 1, t => match P.underlying t with
    | some .bool | some (.int _) | some .string => true
    | some (.struct fs) => fs.toList.all fun f => keyOK P d f.type
    | _ => false

theorem checkKey_ok {P : Program} (em : Bool) : ∀ (d : Nat) (t : TypeId) (ks : List Lk), kindsOf P d t = some ks → keyOK P d t = true → ∀ (n : Nat), d ≤ n → ∀ (v : Value), (aggT P t = true → ∃ xs : Array Value, v = .agg xs ∧ xs.size = ks.length) → ∀ w, (Instr.checkKey em n t v).run P w = .ok () w
  | 0, t, ks, h, _ => by simp [kindsOf] at h
  | d + 1, t, ks, h, hko => by
    intro n hn v hg w
    obtain ⟨n, rfl⟩ : ∃ m, n = m + 1 := ⟨n - 1, by omega⟩
    unfold keyOK at hko
    unfold kindsOf at h
    split at hko
    · rename_i hu; simp [Instr.checkKey, run_underlying hu]
    · rename_i hu; simp [Instr.checkKey, run_underlying hu]
    · rename_i hu; simp [Instr.checkKey, run_underlying hu]
    · rename_i fs hu
      rw [hu] at h
      simp only at h
      split at h
      · cases h
      obtain ⟨xs, rfl, hxl⟩ := hg (by simp [aggT, hu])
      simp only [Instr.checkKey, Sem.run_bind, run_underlying hu, Result.andThen_ok]
      rw [← Array.forIn_toList]
      have hko' : ∀ f ∈ fs.toList, keyOK P d f.type = true := List.all_eq_true.1 hko
      clear hu hko hg
      have key : ∀ (fl : List Field) (off : Nat) (ks : List Lk), kindsGo P (kindsOf P d) fl off = some ks → (∀ f ∈ fl, keyOK P d f.type = true) → off + ks.length ≤ xs.size → ∀ (F : Field → PUnit → Sem (ForInStep PUnit)),
          (∀ f ∈ fl, ∀ v, f.name ≠ "_" → (part f.type xs f.offset).run P w = .ok v w → (Instr.checkKey em n f.type v).run P w = .ok () w → (F f ⟨⟩).run P w = .ok (.yield ⟨⟩) w) → (forIn fl PUnit.unit F).run P w = .ok ⟨⟩ w := by
        intro fl
        induction fl with
        | nil => intro off ks _ _ _ F _; simp
        | cons f fl ih =>
          intro off ks hk hall hle F hF
          simp only [kindsGo] at hk
          split at hk
          · rename_i ks1 z hk1 hz
            split at hk
            · rename_i hc
              obtain ⟨hnm, ho, hzl⟩ := hc
              obtain ⟨rest, hrest, rfl⟩ := Option.map_eq_some_iff.1 hk
              simp only [List.length_append] at hle
              have hso := kindsOf_some hk1
              have hx := run_part w hso.1 hz xs (off := off) (by omega) (fun h => hzl.trans (hso.2 h))
              have hck := checkKey_ok em d f.type ks1 hk1 (hall f (by simp)) n (by omega) (if aggT P f.type then .agg (xs.extract off (off + z)) else xs.getD off Go.undef)
                (fun hg => ⟨_, by rw [if_pos hg], by simp; omega⟩) w
              have h1 := hF f (by simp) _ hnm (by rw [ho]; exact hx) hck
              rw [List.forIn_cons]
              simp only [Sem.run_bind, h1, Result.andThen_ok]
              exact ih (off + z) rest hrest (fun f hf => hall f (List.mem_cons_of_mem _ hf)) (by omega) F fun f hf => hF f (List.mem_cons_of_mem _ hf)
            · cases hk
          · cases hk
      have hF := key fs.toList 0 ks h hko' (by omega)
      rw [hF]
      · rfl
      · intro f _ v hnm h1 h2
        simp only [hnm, ne_eq, not_false_eq_true, if_true, Sem.run_bind, h1, Result.andThen_ok, h2, Sem.run_pure]
    · cases hko

theorem vk_eq {k : Lk} {u v : Value} (h : vk k u v = some true) : u = v ∧ u.cells = #[u] ∧ ∀ n, Instr.sameBits n u u = true := by
  unfold vk at h
  split at h
  · split at h
    · rename_i hk
      obtain ⟨rfl, rfl⟩ := hk
      simp only [Option.some.injEq, beq_iff_eq] at h
      subst h
      exact ⟨rfl, rfl, fun n => by cases n <;> simp [Instr.sameBits]⟩
    · cases h
  · simp only [Option.some.injEq, beq_iff_eq] at h
    subst h
    exact ⟨rfl, rfl, fun n => by cases n <;> simp [Instr.sameBits]⟩
  · rename_i x y
    simp only [Option.some.injEq] at h
    rw [← beq_toListBytes] at h
    have hd : x.data = y.data := by
      have h' : (x.data == y.data) = true := h
      exact eq_of_beq h'
    have : x = y := by
      cases x; cases y; cases hd; rfl
    subst this
    have hb : (x == x) = true := by
      show (x.data == x.data) = true
      exact beq_self_eq_true _
    exact ⟨rfl, rfl, fun n => by cases n <;> simp [Instr.sameBits, hb]⟩
  · cases h

theorem vks_eq : ∀ {ks : List Lk} {us vs : List Value}, vks ks us vs = some true → us = vs ∧ ∀ u ∈ us, ∀ n, Instr.sameBits n u u = true
  | [], [], [], _ => by simp
  | k :: ks, u :: us, v :: vs, h => by
    simp only [vks] at h
    split at h
    · rename_i p q h1 h2
      simp only [Option.some.injEq, Bool.and_eq_true] at h
      obtain ⟨rfl, rfl⟩ := h
      obtain ⟨e1, e2, e3⟩ := vk_eq h1
      obtain ⟨f1, f2⟩ := vks_eq h2
      subst e1
      subst f1
      refine ⟨rfl, fun x hx => ?_⟩
      rcases List.mem_cons.1 hx with h5 | h5
      · exact h5 ▸ e3
      · exact f2 x h5
    · cases h
  | [], _ :: _, _, h => by simp [vks] at h
  | [], [], _ :: _, h => by simp [vks] at h
  | _ :: _, [], _, h => by simp [vks] at h
  | _ :: _, _ :: _, [], h => by simp [vks] at h

/-- Keys that are equal are the same. -/
theorem leqv_same {S : Stab} {ag : Bool} {ks : List Lk} {x y : V} {u v : Value} {o o' : List Nat} (hx : Rel w S x u o) (hy : Rel w S y v o') (h : leqv ag ks x y = some true) : u = v ∧ ∀ n, Instr.sameBits (n + 1) u u = true := by
  obtain ⟨xs, ys, e1, e2, e3⟩ := leqv_parts h
  have hl := leqs_leaf e3
  obtain ⟨a1, a2, a3, a4⟩ := rel_cellsAg hx e1 hl.1
  obtain ⟨b1, b2, b3, b4⟩ := rel_cellsAg hy e2 hl.2
  obtain ⟨f1, f2⟩ := vks_eq (rel_vks e3 a3 b3 a4 b4)
  cases ag with
  | true =>
    obtain ⟨us, rfl⟩ := a1 rfl
    obtain ⟨vs, rfl⟩ := b1 rfl
    simp only [Value.cells] at f1 f2
    have : us = vs := Array.toList_inj.1 f1
    subst this
    refine ⟨rfl, fun n => ?_⟩
    simp only [Instr.sameBits, beq_self_eq_true, Bool.true_and, List.all_eq_true]
    intro p hp
    have h1 : p.1 = p.2 ∧ p.1 ∈ us.toList := by
      obtain ⟨i, hi⟩ := List.mem_iff_getElem?.1 hp
      rw [List.getElem?_zip_eq_some] at hi
      refine ⟨?_, List.mem_of_getElem? hi.1⟩
      have := hi.1.symm.trans hi.2
      exact Option.some.inj this
    rw [← h1.1]
    exact f2 _ h1.2 n
  | false =>
    have h1 := a2 rfl
    have h2 := b2 rfl
    rw [h1, h2] at f1
    rw [h1] at f2
    simp only [List.cons.injEq, and_true] at f1
    exact ⟨f1, fun n => f2 u (by simp) _⟩

theorem same_now {S : Stab} {ag : Bool} {ks : List Lk} {x y : V} {u v : Value} {o o' : List Nat} {b b' : Bool} {kind : TypeDesc} (hx : Rel w S x u o) (hy : Rel w S y v o') (h : leqv ag ks x y = some b) (hs : Instr.sameNow kind u v = some b') : b' = b := by
  obtain ⟨xs, ys, e1, e2, e3⟩ := leqv_parts h
  have hl := leqs_leaf e3
  obtain ⟨a1, a2, a3, a4⟩ := rel_cellsAg hx e1 hl.1
  obtain ⟨b1, b2, b3, b4⟩ := rel_cellsAg hy e2 hl.2
  have hv := rel_vks e3 a3 b3 a4 b4
  cases ag with
  | true =>
    obtain ⟨us, rfl⟩ := a1 rfl
    cases kind <;> simp [Instr.sameNow] at hs
  | false =>
    rw [a2 rfl, b2 rfl] at hv
    match ks, hv with
    | [k], hv =>
      simp only [vks] at hv
      split at hv
      · rename_i p q h1 h2
        cases h2
        rw [Bool.and_true] at hv
        cases hv
        unfold vk at h1
        split at h1
        · split at h1
          · rename_i hk
            cases h1
            cases kind <;> simp only [Instr.sameNow, reduceCtorEq] at hs
            rw [if_pos (hk.1.trans hk.2.symm)] at hs
            exact (Option.some.inj hs).symm
          · cases h1
        · cases h1
          cases kind <;> simp only [Instr.sameNow, reduceCtorEq] at hs
          exact (Option.some.inj hs).symm
        · cases h1
          cases kind <;> simp only [Instr.sameNow, reduceCtorEq] at hs
          rw [← Option.some.inj hs, beq_toListBytes]
        · cases h1
      · cases hv
    | [], hv => simp [vks] at hv
    | _ :: _ :: _, hv => simp [vks] at hv

/-- A key is looked for. -/
theorem find_rel {P : Program} {S : Stab} {ag : Bool} {ks : List Lk} {t : TypeId} (hk : kindsOf P Op.maxDepth t = some ks) (ha : aggT P t = ag) {kv : V} {key : Value} {ok : List Nat} (hkey : Rel w S kv key ok) (kind : TypeDesc) :
    ∀ (es : List (V × V)) (ents : List MapEntry) (i0 : Nat) (r : Option V), es.length = ents.length → (∀ (i : Nat) (kv : V × V) (e : MapEntry), es[i]? = some kv → ents[i]? = some e → Rel w S kv.1 e.key []) → assoc ag ks kv es = some r →
      ∃ q, (Instr.findAsking t key ents i0).run P w = .ok q w ∧ (∀ q', Instr.findNow kind key ents i0 = some q' → q' = q) ∧
        ((r = none ∧ q = none ∧ ∀ v, assocSet ag ks kv v es = some (es ++ [(kv, v)])) ∨
          ∃ i k' u e, r = some u ∧ es[i]? = some (k', u) ∧ ents[i]? = some e ∧ leqv ag ks kv k' = some true ∧ q = some (i0 + i, e.val) ∧ ∀ v, assocSet ag ks kv v es = some (es.set i (kv, v)))
  | [], [], i0, r, _, _, h => by
    simp only [assoc, Option.some.injEq] at h
    subst h
    exact ⟨none, rfl, fun q' hq => by simpa [Instr.findNow] using hq.symm, .inl ⟨rfl, rfl, fun v => rfl⟩⟩
  | [], _ :: _, _, _, hl, _, _ => by simp at hl
  | _ :: _, [], _, _, hl, _, _ => by simp at hl
  | (k', u) :: es, e :: ents, i0, r, hl, hr, h => by
    have he : Rel w S k' e.key [] := hr 0 (k', u) e rfl rfl
    simp only [assoc] at h
    split at h
    · rename_i hq
      cases h
      have hrun := leqv_ok hkey he hq hk ha
      refine ⟨some (i0, e.val), ?_, fun q' hq' => ?_, .inr ⟨0, k', u, e, rfl, rfl, rfl, hq, rfl, fun v => ?_⟩⟩
      · simp only [Instr.findAsking, Op.equal, Sem.run_bind, hrun, Result.andThen_ok]
        rfl
      · simp only [Instr.findNow] at hq'
        split at hq'
        · exact (Option.some.inj hq').symm
        · rename_i hs; cases same_now hkey he hq hs
        · cases hq'
      · simp only [assocSet, hq, List.set_cons_zero]
    · rename_i hq
      obtain ⟨q, h1, h2, h3⟩ := find_rel hk ha hkey kind es ents (i0 + 1) r (by simpa using hl) (fun i kv e a b => hr (i + 1) kv e (by simpa using a) (by simpa using b)) h
      have hrun := leqv_ok hkey he hq hk ha
      refine ⟨q, ?_, fun q' hq' => ?_, ?_⟩
      · simp only [Instr.findAsking, Op.equal, Sem.run_bind, hrun, Result.andThen_ok]
        exact h1
      · simp only [Instr.findNow] at hq'
        split at hq'
        · rename_i hs; cases same_now hkey he hq hs
        · exact h2 q' hq'
        · cases hq'
      · rcases h3 with ⟨e1, e2, e3⟩ | ⟨i, k2, u2, e2, f1, f2, f3, f4, f5, f6⟩
        · exact .inl ⟨e1, e2, fun v => by simp only [assocSet, hq, e3, Option.map_some, List.cons_append]⟩
        · exact .inr ⟨i + 1, k2, u2, e2, f1, by simpa using f2, by simpa using f3, f4, by rw [f5]; congr 2; omega, fun v => by simp only [assocSet, hq, f6, Option.map_some, List.set_cons_succ]⟩
    · cases h

theorem run_find {P : Program} {t : TypeId} {key : Value} {ents : List MapEntry} {q : Option (Nat × Value)} {kind : TypeDesc} (hu : P.underlying t = some kind) (h1 : (Instr.findAsking t key ents 0).run P w = .ok q w) (h2 : ∀ q', Instr.findNow kind key ents 0 = some q' → q' = q) :
    (Instr.findKey t key ents).run P w = .ok q w := by
  simp only [Instr.findKey, Sem.run_bind, run_underlying hu, Result.andThen_ok]
  split
  · rename_i r hr
    rw [h2 r hr]
    rfl
  · exact h1

theorem assocSet_assoc {ag : Bool} {ks : List Lk} {k v : V} : ∀ {es es' : List (V × V)}, assocSet ag ks k v es = some es' → ∃ r, assoc ag ks k es = some r
  | [], _, _ => ⟨none, rfl⟩
  | (k', u) :: es, es', h => by
    simp only [assocSet] at h
    simp only [assoc]
    split at h
    · exact ⟨_, rfl⟩
    · obtain ⟨x, hx, _⟩ := Option.map_eq_some_iff.1 h
      exact assocSet_assoc hx
    · cases h

theorem insK_perm (kv : V × V) : ∀ es : List (V × V), (insK kv es).Perm (kv :: es)
  | [] => .refl _
  | x :: es => by
    unfold insK
    split
    · exact .refl _
    · exact ((insK_perm kv es).cons x).trans (.swap ..)

theorem allFit_perm {ag : Bool} {ks : List Lk} {k : V} {es es0 : List (V × V)} (hp : es.Perm es0) (h : allFit ag ks k es = true) : allFit ag ks k es0 = true := by
  unfold allFit at h ⊢
  rw [List.all_eq_true] at h ⊢
  exact fun x hx => h x (hp.mem_iff.2 hx)

theorem assoc_hits {ag : Bool} {ks : List Lk} {k : V} : ∀ {es : List (V × V)}, allFit ag ks k es = true → assoc ag ks k es = some ((es.filter (hit ag ks k)).head?.map (·.2))
  | [], _ => rfl
  | (k', u) :: es, h => by
    simp only [allFit, List.all_cons, Bool.and_eq_true] at h
    obtain ⟨b, hb⟩ := Option.isSome_iff_exists.1 h.1
    simp only [assoc, hb]
    cases b with
    | true => simp [hit, hb]
    | false =>
      simp only
      rw [assoc_hits (es := es) h.2, List.filter_cons, if_neg (by simp [hit, hb])]

theorem assocSet_nohit {ag : Bool} {ks : List Lk} {k v : V} : ∀ {es : List (V × V)}, allFit ag ks k es = true → es.filter (hit ag ks k) = [] → assocSet ag ks k v es = some (es ++ [(k, v)])
  | [], _, _ => rfl
  | (k', u) :: es, h, hn => by
    simp only [allFit, List.all_cons, Bool.and_eq_true] at h
    obtain ⟨b, hb⟩ := Option.isSome_iff_exists.1 h.1
    cases b with
    | true => rw [List.filter_cons, if_pos (by simp [hit, hb])] at hn; cases hn
    | false =>
      rw [List.filter_cons, if_neg (by simp [hit, hb])] at hn
      simp only [assocSet, hb, assocSet_nohit (es := es) h.2 hn, Option.map_some, List.cons_append]

theorem map_nohit {ag : Bool} {ks : List Lk} {k v : V} {es : List (V × V)} (hn : es.filter (hit ag ks k) = []) : (es.map fun kv => if hit ag ks k kv then (k, v) else kv) = es := by
  rw [List.filter_eq_nil_iff] at hn
  conv => rhs; rw [← List.map_id es]
  refine List.map_congr_left fun x hx => ?_
  rw [if_neg (hn x hx)]
  rfl

theorem assocSet_hit {ag : Bool} {ks : List Lk} {k v : V} {x : V × V} : ∀ {es : List (V × V)}, allFit ag ks k es = true → es.filter (hit ag ks k) = [x] → assocSet ag ks k v es = some (es.map fun kv => if hit ag ks k kv then (k, v) else kv)
  | [], _, hn => by cases hn
  | (k', u) :: es, h, hn => by
    simp only [allFit, List.all_cons, Bool.and_eq_true] at h
    obtain ⟨b, hb⟩ := Option.isSome_iff_exists.1 h.1
    cases b with
    | true =>
      rw [List.filter_cons, if_pos (by simp [hit, hb])] at hn
      have hn' : es.filter (hit ag ks k) = [] := (List.cons.inj hn).2
      rw [List.map_cons, map_nohit hn', if_pos (by simp [hit, hb])]
      simp only [assocSet, hb]
    | false =>
      rw [List.filter_cons, if_neg (by simp [hit, hb])] at hn
      rw [List.map_cons, if_neg (by simp [hit, hb])]
      simp only [assocSet, hb, assocSet_hit (es := es) h.2 hn, Option.map_some]

theorem perm_nil_inv {es : List (V × V)} (h : ([] : List (V × V)).Perm es) : es = [] := h.symm.eq_nil

/-- What a map has for a key does not hang on the order. -/
theorem lookM_assoc {ag : Bool} {ks : List Lk} {k : V} {es es0 : List (V × V)} {r : Option V} (hp : es.Perm es0) (h : lookM ag ks k es = some r) : assoc ag ks k es0 = some r := by
  unfold lookM at h
  split at h
  · rename_i hf
    rw [assoc_hits (allFit_perm hp hf)]
    have hq := hp.filter (hit ag ks k)
    split at h
    · rename_i hn
      rw [hn] at hq
      rw [hq.symm.eq_nil, ← Option.some.inj h]
      rfl
    · rename_i kv hn
      rw [hn] at hq
      rw [List.perm_singleton.1 hq.symm, ← Option.some.inj h]
      rfl
    · cases h
  · cases h

theorem setM_assoc {ag : Bool} {ks : List Lk} {k v : V} {es es0 es' : List (V × V)} (hp : es.Perm es0) (h : setM ag ks k v es = some es') : ∃ es0', assocSet ag ks k v es0 = some es0' ∧ es'.Perm es0' := by
  unfold setM at h
  split at h
  · rename_i hf
    have hq := hp.filter (hit ag ks k)
    split at h
    · rename_i hn
      rw [hn] at hq
      cases h
      refine ⟨_, assocSet_nohit (allFit_perm hp hf) hq.symm.eq_nil, ?_⟩
      exact ((insK_perm _ es).trans (hp.cons _)).trans (List.perm_append_comm (l₁ := [(k, v)]) (l₂ := es0))
    · rename_i kv hn
      rw [hn] at hq
      cases h
      exact ⟨_, assocSet_hit (allFit_perm hp hf) (List.perm_singleton.1 hq.symm), hp.map _⟩
    · cases h
  · cases h

/-- A key whose kinds fit may be a key. -/
theorem fits_check {P : Program} {S : Stab} {ag : Bool} {ks : List Lk} {t : TypeId} (hk : kindsOf P Op.maxDepth t = some ks) (ha : aggT P t = ag) (hko : keyOK P Op.maxDepth t = true) (hd : Op.maxDepth ≤ 10000) {kv : V} {key : Value} {ok : List Nat} (hkey : Rel w S kv key ok)
    (hf : fits ag ks kv = true) (em : Bool) : (Instr.checkKey em 10000 t key).run P w = .ok () w := by
  obtain ⟨b, hb⟩ := Option.isSome_iff_exists.1 hf
  obtain ⟨xs, ys, e1, e2, e3⟩ := leqv_parts hb
  have hl := leqs_leaf e3
  obtain ⟨a1, a2, a3, a4⟩ := rel_cellsAg hkey e1 hl.1
  obtain ⟨b1, b2, b3, b4⟩ := rel_cellsAg hkey e2 hl.2
  have hv := vks_len (rel_vks e3 a3 b3 a4 b4)
  refine checkKey_ok em Op.maxDepth t ks hk hko 10000 hd key (fun hg => ?_) w
  obtain ⟨us, rfl⟩ := a1 (ha.symm.trans hg)
  exact ⟨us, rfl, by simpa [Value.cells] using hv.1⟩

/-- A zero value. -/
def zvOK : V → Value → Bool
  | .agg zs, .agg vs => zsOK zs vs.toList
  | .agg _, _ => false
  | z, v => zOK z v

theorem zvOK_rel (w : World) (S : Stab) {z : V} {v : Value} (h : zvOK z v = true) : Rel w S z v [] := by
  unfold zvOK at h
  split at h
  · obtain ⟨h1, -, -, h4⟩ := zsOK_rel w S h
    exact .agg _ _ (by simpa using h1) fun i c v h5 h6 => h4 i c v h5 (by simpa using h6)
  · cases h
  · exact (zOK_rel w S h).1

theorem snd_look {o : Oper} {root : Root} {ag ok : Bool} {ks : List Lk} {z : V} {m k : A} {t kt et : TypeId} {X K : Operand} {v : V} {call : FuncId → List V → Option V} {it : TypeInfo} {zv : Value} {kd : TypeDesc} (h : FInv c g st a w) (ho : o.op = .lookup t X K ok)
    (hx : opndOK c.gl m X = true) (px : plainA m = true) (hk : opndOK c.gl k K = true) (pk : plainA k = true)
    (hu : c.P.underlying t = some (.map kt et)) (hku : c.P.underlying kt = some kd) (hki : kindsOf c.P Op.maxDepth kt = some ks) (ha : aggT c.P kt = ag) (hko : keyOK c.P Op.maxDepth kt = true) (hit : c.P.info? et = some it) (hzv : it.zero = some zv) (hz : zvOK z zv = true)
    (hv : exec call (.look root ag ks z ok m k) st = some (v, st')) : Out c o a w st' v := by
  simp only [exec] at hv
  obtain ⟨ob, hr⟩ := deref_ok h (opnd h hx px) root
  generalize st.deref root (st.val m) = u at hr hv
  cases u <;> simp only [reduceCtorEq] at hv
  rename_i ow es
  split at hv
  · rename_i hf
    simp only [Option.map_eq_some_iff] at hv
    obtain ⟨r, hr', hv⟩ := hv
    cases hv
    obtain ⟨es0, r', ents, clock, hp, hX, hb, hl, -, hkr, hvr⟩ := Rel.mp_inv (show Rel w g.S (.mp ow es) (a.eval X) ob from hr)
    obtain ⟨b, hb'⟩ := Option.isSome_iff_exists.1 hf
    obtain ⟨xs, ys, e1, e2, e3⟩ := leqv_parts hb'
    have hkey := (opnd h hk pk).rel' e1 (leqs_leaf e3).1
    obtain ⟨q, f1, f2, f3⟩ := find_rel hki ha hkey kd es0 ents.toList 0 r (by simpa using hl) (fun i kv e a b => hkr i kv e a (by simpa using b)) (lookM_assoc hp hr')
    have hfind := run_find hku f1 f2
    have hck := fits_check hki ha hko (Nat.le_refl _) hkey hf ents.isEmpty
    have hzr := zvOK_rel w g.S hz
    have hval : ∃ rv, Rel w g.S (r.getD z) rv [] ∧ (execOp a.eval o).run c.P w = .ok (.value (if ok then .tuple #[rv, .bool r.isSome] else rv)) w := by
      rcases f3 with ⟨rfl, rfl, -⟩ | ⟨i, k', u, e, rfl, h2, h3, -, rfl, -⟩
      · refine ⟨zv, hzr, ?_⟩
        simp [execOp, ho, Instr.lookup, run_underlying hu, hX, MapKept.run_getObj_map hb, hck, hfind, zeroValue, typeInfo, hit, hzv, Result.andThen]
      · refine ⟨e.val, hvr i _ e h2 (by simpa using h3), ?_⟩
        simp [execOp, ho, Instr.lookup, run_underlying hu, hX, MapKept.run_getObj_map hb, hck, hfind, Result.andThen]
    obtain ⟨rv, h1, h2⟩ := hval
    cases ok with
    | false => exact Out.pureR h h1 h2
    | true =>
      refine Out.pureR h ?_ h2
      have := Rel.tup (w := w) (S := g.S) [r.getD z, .bool r.isSome] #[rv, .bool r.isSome] [[], []] rfl rfl (fun i x v o hx hv ho => by
        match i with
        | 0 => simp at hx hv ho; subst hx hv ho; exact h1
        | 1 => simp at hx hv ho; subst hx hv ho; exact .bool _
        | i + 2 => simp at hx)
      simpa using this
  · cases hv

theorem snd_mkmap {o : Oper} {t : TypeId} {v : V} {call : FuncId → List V → Option V} (h : FInv c g st a w) (ho : o.op = .makeMap t none) (hv : exec call .mkmap st = some (v, st')) : Out c o a w st' v := by
  simp only [exec, Option.some.injEq, Prod.mk.injEq] at hv
  obtain ⟨rfl, rfl⟩ := hv
  have hSn : ∀ k, ¬ g.S w.heap.size k := fun k hs => Nat.lt_irrefl _ (h.lt _ _ hs)
  have hO : ∀ t, w.heap.size ∉ g.O t := fun t hm => Nat.lt_irrefl _ (h.fO t _ hm).2
  have hB : ∀ d, w.heap.size ∉ g.OB d := fun d hm => Nat.lt_irrefl _ (h.fB d _ hm).2
  have h1 := (Held.nil h).write (w.alloc (.map #[] 0)) w.heap.size (fun b hb => by
      by_cases hb' : b < w.heap.size
      · exact heap_alloc_old w _ b hb'
      · have h3 : (w.alloc (.map #[] 0)).heap.size ≤ b := by simp; omega
        rw [Array.getElem?_eq_none h3, Array.getElem?_eq_none (by omega)]) hSn hO hB (by simp) (.inl h.hB) rfl rfl rfl (by simp)
  refine .inl ⟨.map (some w.heap.size), w.alloc (.map #[] 0), by simp [execOp, ho, Instr.makeMap], g, [w.heap.size], ⟨h1.inv, fun e he => ?_, by simp, fun b hb => ?_⟩⟩
  · simp only [List.mem_singleton] at he
    subst he
    exact .of_rel (.mpx [] [] (.refl _) w.heap.size #[] 0 (heap_alloc_new w _) rfl ⟨by simp, by simp⟩ hSn (by simp) (by simp))
  · simp only [List.flatMap_cons, List.flatMap_nil, List.append_nil, List.mem_singleton] at hb
    subst hb
    exact ⟨⟨.inl h.hB, by simp⟩, hO, hB⟩

theorem snd_mset {o : Oper} {root : Root} {ag : Bool} {ks : List Lk} {m k x : A} {t kt et : TypeId} {X K Y : Operand} {v : V} {call : FuncId → List V → Option V} {kd : TypeDesc} (h : FInv c g st a w) (ho : o.op = .mapUpdate t X K Y ∨ o.op = .insert t X K Y) (hd : o.dst = none)
    (hx : opndOK c.gl m X = true) (px : plainA m = true) (hk : opndOK c.gl k K = true) (pk : plainA k = true) (hy : opndOK c.gl x Y = true) (py : plainA x = true)
    (hu : c.P.underlying t = some (.map kt et)) (hku : c.P.underlying kt = some kd) (hki : kindsOf c.P Op.maxDepth kt = some ks) (ha : aggT c.P kt = ag) (hko : keyOK c.P Op.maxDepth kt = true)
    (hv : exec call (.mset root ag ks m k x) st = some (v, st')) : Out c o a w st' v := by
  simp only [exec] at hv
  have hr := opnd h hx px
  split at hv
  · rename_i s es e1 e2
    split at hv
    · rename_i hf
      obtain ⟨hf, hleaf⟩ := hf
      simp only [Option.map_eq_some_iff] at hv
      obtain ⟨esn, hesn, hv⟩ := hv
      cases hv
      rw [e1] at e2 hr
      have hst : st.at s = .mp .x es := by
        simp only [St.deref] at e2
        split at e2
        · split at e2
          · cases e2
          · rename_i es2 e3; cases e2; exact e3
          · cases e2
        · cases e2
      have hX := hr.2 (by rw [hst]; rfl)
      have hat := h.at s
      rw [hst] at hat
      obtain ⟨es0, r', ents, clock, hp, hsl, hO, hb, hl, hbn, hN, hkr, hvr⟩ := Rel.mpx_inv (show Rel w g.S (.mp .x es) (a.tmps.getD s Go.undef) (g.O s) from hat)
      rw [hsl] at hX
      obtain ⟨es', hes, hpn⟩ := setM_assoc hp hesn
      obtain ⟨b, hb'⟩ := Option.isSome_iff_exists.1 hf
      obtain ⟨xs, ys, f1, f2, f3⟩ := leqv_parts hb'
      have hkey := (opnd h hk pk).rel' f1 (leqs_leaf f3).1
      have hkey0 : Rel w g.S (st.val k) (a.eval K) [] := hkey
      obtain ⟨r, hr'⟩ := assocSet_assoc hes
      obtain ⟨q, g1, g2, g3⟩ := find_rel hki ha hkey kd es0 ents.toList 0 r (by simpa using hl) (fun i kv e a b => hkr i kv e a (by simpa using b)) hr'
      have hfind := run_find hku g1 g2
      have hck := fits_check hki ha hko (Nat.le_refl _) hkey hf false
      have hval : Rel w g.S (cp (st.val x)) (a.eval Y) [] := part_copy (opnd h hy py) hleaf
      have hm : ∃ es2 clock', (execOp a.eval o).run c.P w = .ok .skip { w with heap := w.heap.setIfInBounds r' (.map es2 clock') } ∧ es'.length = es2.size ∧ Born es2 clock' ∧
          (∀ (i : Nat) (kv : V × V) (e : MapEntry), es'[i]? = some kv → es2[i]? = some e → Rel w g.S kv.1 e.key []) ∧ ∀ (i : Nat) (kv : V × V) (e : MapEntry), es'[i]? = some kv → es2[i]? = some e → Rel w g.S kv.2 e.val [] := by
        rcases g3 with ⟨rfl, rfl, h1⟩ | ⟨i, k', u, e, rfl, h2, h3, h4, rfl, h5⟩
        · rw [h1] at hes
          cases hes
          refine ⟨ents.push { key := a.eval K, val := a.eval Y, born := clock }, clock + 1, ?_, by simp [hl], ?_, fun i kv e h2 h3 => ?_, fun i kv e h2 h3 => ?_⟩
          · rcases ho with ho | ho <;> simp [execOp, ho, Instr.mapUpdate, run_underlying hu, hX, MapKept.run_getObj_map hb, hck, hfind, MapKept.run_setObj_map _ hb, Result.andThen]
          · refine ⟨fun e he => ?_, ?_⟩
            · simp only [Array.toList_push, List.mem_append, List.mem_singleton] at he
              rcases he with h4 | h4
              · have := hbn.1 e h4; omega
              · subst h4; exact Nat.lt_succ_self _
            · simp only [Array.toList_push, List.map_append, List.map_cons, List.map_nil]
              refine List.nodup_append.2 ⟨hbn.2, by simp, fun x hx y hy => ?_⟩
              obtain ⟨e, he, rfl⟩ := List.mem_map.1 hx
              simp only [List.mem_singleton] at hy
              subst hy
              have := hbn.1 e he; omega
          · rw [List.getElem?_append] at h2
            rw [Array.getElem?_push] at h3
            split at h2
            · rename_i hi; rw [if_neg (by omega)] at h3; exact hkr i kv e h2 h3
            · rename_i hi
              have h4 : i - es0.length = 0 := by
                have := (List.getElem?_eq_some_iff.1 h2).1
                simp at this; omega
              rw [h4] at h2
              rw [if_pos (by omega)] at h3
              cases h2; cases h3; exact hkey0
          · rw [List.getElem?_append] at h2
            rw [Array.getElem?_push] at h3
            split at h2
            · rename_i hi; rw [if_neg (by omega)] at h3; exact hvr i kv e h2 h3
            · rename_i hi
              have h4 : i - es0.length = 0 := by
                have := (List.getElem?_eq_some_iff.1 h2).1
                simp at this; omega
              rw [h4] at h2
              rw [if_pos (by omega)] at h3
              cases h2; cases h3; exact hval
        · rw [h5] at hes
          cases hes
          have h3' : ents[i]? = some e := by simpa using h3
          have hi := (Array.getElem?_eq_some_iff.1 h3').1
          have hsame := leqv_same hkey (hkr i _ e h2 h3') h4
          have hstay : (Instr.keyThatStays e.key (a.eval K)).run c.P w = .ok (a.eval K) w := by
            have := hsame.2 9999
            rw [← hsame.1]
            simp [Instr.keyThatStays, this]
          refine ⟨ents.modify i fun e => { e with key := a.eval K, val := a.eval Y }, clock, ?_, by simp [hl], ?_, fun j kv e2 h6 h7 => ?_, fun j kv e2 h6 h7 => ?_⟩
          · rcases ho with ho | ho <;> simp [execOp, ho, Instr.mapUpdate, run_underlying hu, hX, MapKept.run_getObj_map hb, hck, hfind, h3', hstay, MapKept.run_setObj_map _ hb, Result.andThen]
          · have hmap : (ents.modify i fun e => { e with key := a.eval K, val := a.eval Y }).toList.map (·.born) = ents.toList.map (·.born) := by
              apply List.ext_getElem?
              intro j
              simp only [List.getElem?_map, Array.getElem?_toList, Array.getElem?_modify]
              split
              · cases ents[j]? <;> rfl
              · rfl
            refine ⟨fun e he => ?_, by rw [hmap]; exact hbn.2⟩
            have : e.born ∈ (ents.modify i fun e => { e with key := a.eval K, val := a.eval Y }).toList.map (·.born) := List.mem_map.2 ⟨e, he, rfl⟩
            rw [hmap] at this
            obtain ⟨e', he', h8⟩ := List.mem_map.1 this
            rw [← h8]; exact hbn.1 e' he'
          · rw [List.getElem?_set] at h6
            rw [Array.getElem?_modify] at h7
            by_cases hij : i = j
            · subst hij
              rw [if_pos rfl, if_pos (by omega)] at h6
              rw [if_pos rfl, h3'] at h7
              cases h6; cases h7; exact hkey0
            · rw [if_neg hij] at h6 h7
              exact hkr j kv e2 h6 h7
          · rw [List.getElem?_set] at h6
            rw [Array.getElem?_modify] at h7
            by_cases hij : i = j
            · subst hij
              rw [if_pos rfl, if_pos (by omega)] at h6
              rw [if_pos rfl, h3'] at h7
              cases h6; cases h7; exact hval
            · rw [if_neg hij] at h6 h7
              exact hvr j kv e2 h6 h7
      obtain ⟨es2, clock', hrun, h1, hbn2, h2, h3⟩ := hm
      have hlt : r' < w.heap.size := (Array.getElem?_eq_some_iff.1 hb).1
      have hkeep : Keep g.S w { w with heap := w.heap.setIfInBounds r' (.map es2 clock') } := Keep.of_heap fun b k hs => by
        have : r' ≠ b := fun e => hN k (e ▸ hs)
        simp [this]
      have hoth : ∀ b, b ≠ r' → (w.heap.setIfInBounds r' (.map es2 clock'))[b]? = w.heap[b]? := fun b hb' => by
        have : r' ≠ b := fun e => hb' e.symm
        simp [this]
      refine .inr (.inl ⟨hd, _, hrun, g, h.slotW s (.mp .x esn) { w with heap := w.heap.setIfInBounds r' (.map es2 clock') } r' (by rw [hO]; simp) hoth hN rfl rfl rfl (by simp) ?_ fun _ => by rw [hst]; exact .inr ⟨es, esn, rfl, rfl⟩⟩)
      rw [hsl, hO]
      refine .mpx esn es' hpn r' es2 clock' (by simp [hlt]) h1 hbn2 hN (fun i kv e a b => (h2 i kv e a b).keep0 hkeep fun _ _ h => h) fun i kv e a b => (h3 i kv e a b).keep0 hkeep fun _ _ h => h
    · cases hv
  · cases hv

end Go.Vi
