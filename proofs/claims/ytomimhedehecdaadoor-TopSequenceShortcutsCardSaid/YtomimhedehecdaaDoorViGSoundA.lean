import Derived.Test.YtomimhedehecdaaDoorViOps10
import Derived.Tactics
section
/- The small code against the real one: each operation. -/
namespace Go.Vi

/-- How deep kinds go. -/
def kdeep : Nat := 8

theorem kindsOf_mono {P : Program} : ∀ (d d' : Nat) (t : TypeId) (ks : List Lk), d ≤ d' → kindsOf P d t = some ks → kindsOf P d' t = some ks
  | 0, _, _, _, _, h => by simp [kindsOf] at h
  | d + 1, 0, _, _, hd, _ => by omega
  | d + 1, d' + 1, t, ks, hd, h => by
    have ih := kindsOf_mono (P := P) d d'
    unfold kindsOf at h ⊢
    split at h
    · exact h
    · exact h
    · exact h
    · rename_i fs hu
      split at h
      · cases h
      · rename_i hs
        rw [if_neg hs]
        have key : ∀ (fl : List Field) (off : Nat) (ks : List Lk), kindsGo P (kindsOf P d) fl off = some ks → kindsGo P (kindsOf P d') fl off = some ks := by
          intro fl
          induction fl with
          | nil => intro off ks h; simpa [kindsGo] using h
          | cons f fl ih2 =>
            intro off ks h
            simp only [kindsGo] at h ⊢
            split at h
            · rename_i ks1 z h1 h2
              rw [ih _ _ (by omega) h1, h2]
              simp only
              split at h
              · rename_i hc
                rw [if_pos hc]
                obtain ⟨rest, hr, rfl⟩ := Option.map_eq_some_iff.1 h
                rw [ih2 _ _ hr]; rfl
              · cases h
            · cases h
        exact key _ _ _ h
    · rename_i n e hu
      split at h
      · rename_i ks1 z h1 h2
        rw [ih _ _ (by omega) h1, h2]
        exact h
      · cases h
    · cases h

theorem keyOK_mono {P : Program} : ∀ (d d' : Nat) (t : TypeId), d ≤ d' → keyOK P d t = true → keyOK P d' t = true
  | 0, _, _, _, h => by simp [keyOK] at h
  | d + 1, 0, _, hd, _ => by omega
  | d + 1, d' + 1, t, hd, h => by
    unfold keyOK at h ⊢
    split at h
    · rfl
    · rfl
    · rfl
    · rename_i fs hu
      simp only [List.all_eq_true] at h ⊢
      exact fun f hf => keyOK_mono d d' f.type (by omega) (h f hf)
    · cases h

def szOK (P : Program) (t : TypeId) (sz : Nat) : Bool := (P.info? t).map (·.size) == some sz
def agOK (P : Program) (t : TypeId) (ag : Bool) (sz : Nat) : Bool := (P.underlying t).isSome && szOK P t sz && aggT P t == ag && (ag || sz == 1)
def keysOK (P : Program) (t : TypeId) (ag : Bool) (ks : List Lk) : Bool := decide (kindsOf P kdeep t = some ks) && aggT P t == ag
def mapKeyOK (P : Program) (t : TypeId) (ag : Bool) (ks : List Lk) : Bool := keysOK P t ag ks && keyOK P kdeep t && (P.underlying t).isSome

theorem szOK_iff {P : Program} {t : TypeId} {sz : Nat} (h : szOK P t sz = true) : (P.info? t).map (·.size) = some sz := eq_of_beq h
theorem agOK_iff {P : Program} {t : TypeId} {ag : Bool} {sz : Nat} (h : agOK P t ag sz = true) : (P.underlying t).isSome = true ∧ (P.info? t).map (·.size) = some sz ∧ aggT P t = ag ∧ (ag = false → sz = 1) := by
  simp only [agOK, Bool.and_eq_true, beq_iff_eq, Bool.or_eq_true] at h
  exact ⟨h.1.1.1, eq_of_beq h.1.1.2, h.1.2, fun hf => h.2.resolve_left (by rw [hf]; simp)⟩
theorem keysOK_iff {P : Program} {t : TypeId} {ag : Bool} {ks : List Lk} (h : keysOK P t ag ks = true) : kindsOf P Op.maxDepth t = some ks ∧ aggT P t = ag := by
  simp only [keysOK, Bool.and_eq_true, decide_eq_true_eq, beq_iff_eq] at h
  exact ⟨kindsOf_mono _ _ _ _ (by decide) h.1, h.2⟩
theorem mapKeyOK_iff {P : Program} {t : TypeId} {ag : Bool} {ks : List Lk} (h : mapKeyOK P t ag ks = true) : kindsOf P Op.maxDepth t = some ks ∧ aggT P t = ag ∧ keyOK P Op.maxDepth t = true ∧ ∃ kd, P.underlying t = some kd := by
  simp only [mapKeyOK, Bool.and_eq_true] at h
  obtain ⟨h1, h2⟩ := keysOK_iff h.1.1
  exact ⟨h1, h2, keyOK_mono _ _ _ (by decide) h.1.2, Option.isSome_iff_exists.1 h.2⟩

def placeOf (P : Program) (t : TypeId) : Option ((Nat → Option (Nat × Nat)) × List Value) :=
  match P.info? t, P.underlying t with
  | some it, some (.array _ e) =>
    match it.zero, P.info? e with
    | some z, some ie => some (fun i => some (i * ie.size, ie.size), z.cells.toList)
    | _, _ => none
  | some it, some (.struct fields) =>
    match it.zero, fields.toList.mapM (fun f => (P.info? f.type).map fun i => (f.offset, i.size)) with
    | some z, some places => some ((places.toArray[·]?), z.cells.toList)
    | _, _ => none
  | _, _ => none

theorem placeOf_built {P : Program} {t : TypeId} {place : Nat → Option (Nat × Nat)} {zs : List Value} (h : placeOf P t = some (place, zs)) : ∃ zv : Value, zv.cells.toList = zs ∧ ∀ parts, P.built t parts = Instr.fill place zv.cells parts := by
  unfold placeOf at h
  split at h
  · rename_i it n e h1 h2
    split at h
    · rename_i z ie h3 h4
      cases h
      exact ⟨z, rfl, fun parts => by simp [Program.built, h1, h2, h3, h4]⟩
    · cases h
  · rename_i it fs h1 h2
    split at h
    · rename_i z pl h3 h4
      cases h
      exact ⟨z, rfl, fun parts => by simp only [Program.built, h1, h2, h3, h4]⟩
    · cases h
  · cases h

def plainRoot : Root → A → Bool
  | .tm _, x => plainA x
  | _, _ => true

/-- An operation of the small code against the real one. -/
def opOK (P : Program) (gl : List (Nat × List V)) (o : Oper) (m : MOp) : Bool :=
  match m with
  | .mv x => match o.op with
    | .move X => opndOK gl x X
    | .assign X => opndOK gl x X
    | _ => false
  | .pick x y z => match o.op with
    | .pick X Y Z => opndOK gl x X && opndOK gl y Y && opndOK gl z Z && plainA x && plainA y && plainA z
    | _ => false
  | .alloc _ | .box .. => false
  | .build z ps => match o.op with
    | .build t Ps => match placeOf P t with
      | some (place, zs) => zsOK z zs && partsOK gl place ps Ps.toList && once (ps.map (·.2.2))
      | none => false
    | _ => false
  | .bsl sz n z ps => match o.op with
    | .buildSlice t n' Ps => match P.underlying t with
      | some (.slice e) => match P.info? e with
        | some it => match it.zero with
          | some zv => n == n' && it.size == sz && zsOK z zv.cells.toList && rowsOK gl ps Ps.toList && once (ps.map (·.2))
          | none => false
        | none => false
      | _ => false
    | _ => false
  | .load _ ag sz p => match o.op with
    | .load t X => opndOK gl p X && plainA p && agOK P t ag sz
    | _ => false
  | .take _ p => match o.op with
    | .load t X => opndOK gl p X && plainA p && agOK P t false 1
    | _ => false
  | .store r sz p x => match o.op with
    | .store t X Y => o.dst.isNone && opndOK gl p X && plainA p && opndOK gl x Y && szOK P t sz && plainRoot r x
    | _ => false
  | .nilchk x => match o.op with
    | .nilCheck X => opndOK gl x X && plainA x
    | _ => false
  | .bin op x y => match o.op with
    | .binOp op' _ X Y _ => decide (op = op') && opndOK gl x X && opndOK gl y Y && plainA x && plainA y
    | _ => false
  | .eqs ag ks neg x y => match o.op with
    | .binOp op' t X Y _ => decide (op' = if neg then .neq else .eql) && opndOK gl x X && opndOK gl y Y && plainA x && plainA y && keysOK P t ag ks && (if ag then !P.eqGuardType P.depth t else decide (ks = [.b]))
    | _ => false
  | .un op x => match o.op with
    | .unOp op' _ X => decide (op = op') && opndOK gl x X && plainA x
    | _ => false
  | .isnil neg x => match o.op with
    | .binOp op' t X Y _ => decide (op' = if neg then .neq else .eql) && opndOK gl x X && plainA x && (match P.underlying t with | some (.slice _) => true | _ => false) && (match Y with | .const (.slice none 0 0) => true | _ => false)
    | _ => false
  | .bytes x => match o.op with
    | .convert s d X => opndOK gl x X && plainA x && (match P.underlying s with | some .string => true | _ => false) && (match P.underlying d with | some (.slice e) => (match P.underlying e with | some (.int .u8) => true | _ => false) | _ => false)
    | _ => false
  | .rng x => match o.op with
    | .range t X => opndOK gl x X && plainA x && (match P.underlying t with | some (.map _ _) => true | _ => false)
    | _ => false
  | .ent t => match o.op with
    | .entry (.tmp t') => t == t'
    | _ => false
  | .slarr _ n sz p => match o.op with
    | .slice t X none none none => match P.underlying t with
      | some (.array n' e) => opndOK gl p X && plainA p && n == n' && szOK P e sz
      | _ => false
    | _ => false
  | .conv k x => match o.op with
    | .convert s d X => opndOK gl x X && plainA x && (P.underlying s).isSome && (match P.underlying d with | some (.int k') => decide (k' = k) | _ => false)
    | _ => false
  | .mkfn f _ fs cs => match o.op with
    | .makeFunc f' Fs Cs => decide (f = f') && fs.isEmpty && Fs.isEmpty && opndsOK gl cs Cs.toList && cs.all plainA
    | _ => false
  | .mkmap => match o.op with
    | .makeMap _ none => true
    | _ => false
  | .mksl sz bytes z n => match o.op with
    | .makeSlice t N N' => match P.underlying t with
      | some (.slice e) => match P.info? e with
        | some it => match it.zero with
          | some zv => opndOK gl n N && opndOK gl n N' && plainA n && it.size == sz && it.bytes == bytes && zsOK z zv.cells.toList
          | none => false
        | none => false
      | _ => false
    | _ => false
  | .slcs x lo hi => match o.op with
    | .slice t X Lo Hi none => opndOK gl x X && plainA x && optOK gl lo Lo && optOK gl hi Hi && (match P.underlying t with | some .string => true | _ => false)
    | _ => false
  | .slc sz x lo hi mx => match o.op with
    | .slice t X Lo Hi Mx => opndOK gl x X && optOK gl lo Lo && optOK gl hi Hi && optOK gl mx Mx && (match P.underlying t with | some (.slice e) => szOK P e sz | _ => false)
    | _ => false
  | .faddr _ off p => match o.op with
    | .fieldAddr t X i => match P.underlying t with
      | some (.struct fs) => match fs[i]? with
        | some f => opndOK gl p X && plainA p && f.offset == off && (match (P.info? f.type).map (·.size) with | some (_ + 1) => true | _ => false)
        | none => false
      | _ => false
    | _ => false
  | .fld ag sz off x => match o.op with
    | .field t X i => match P.underlying t with
      | some (.struct fs) => match fs[i]? with
        | some f => opndOK gl x X && plainA x && f.offset == off && agOK P f.type ag sz
        | none => false
      | _ => false
    | _ => false
  | .iarr n sz p i => match o.op with
    | .indexAddr t X I => match P.underlying t with
      | some (.array n' e) => opndOK gl p X && plainA p && opndOK gl i I && plainA i && n == n' && szOK P e sz
      | _ => false
    | _ => false
  | .iaddr _ sz x i => match o.op with
    | .indexAddr t X I => match P.underlying t with
      | some (.slice e) => opndOK gl x X && plainA x && opndOK gl i I && plainA i && szOK P e sz
      | _ => false
    | _ => false
  | .idxs x i => match o.op with
    | .index t X I => opndOK gl x X && plainA x && opndOK gl i I && plainA i && (match P.underlying t with | some .string => true | _ => false)
    | _ => false
  | .idxa ag n sz x i => match o.op with
    | .index t X I => match P.underlying t with
      | some (.array n' e) => opndOK gl x X && plainA x && opndOK gl i I && plainA i && n == n' && agOK P e ag sz
      | _ => false
    | _ => false
  | .look _ ag ks z ok m k => match o.op with
    | .lookup t X K ok' => match P.underlying t with
      | some (.map kt et) => match P.info? et with
        | some it => match it.zero with
          | some zv => decide (ok = ok') && opndOK gl m X && plainA m && opndOK gl k K && plainA k && mapKeyOK P kt ag ks && zvOK z zv
          | none => false
        | none => false
      | _ => false
    | _ => false
  | .mset _ ag ks m k x => match o.op with
    | .mapUpdate t X K Y => match P.underlying t with
      | some (.map kt _) => o.dst.isNone && opndOK gl m X && plainA m && opndOK gl k K && plainA k && opndOK gl x Y && plainA x && mapKeyOK P kt ag ks
      | _ => false
    | .insert t X K Y => match P.underlying t with
      | some (.map kt _) => o.dst.isNone && opndOK gl m X && plainA m && opndOK gl k K && plainA k && opndOK gl x Y && plainA x && mapKeyOK P kt ag ks
      | _ => false
    | _ => false
  | .ext i x => match o.op with
    | .extract X i' => i == i' && opndOK gl x X && plainA x
    | _ => false
  | .len kd _ x => match o.op with
    | .call { callee := .builtin .len, args, argTypes } => match args.toList, argTypes.toList with
      | [X], [t] => opndOK gl x X && plainA x && (match kd, P.underlying t with | 0, some (.slice _) => true | 1, some .string => true | 2, some (.map _ _) => true | _, _ => false)
      | _, _ => false
    | _ => false
  | .app sz bytes x y => match o.op with
    | .call { callee := .builtin .append, args, argTypes } => match args.toList, argTypes.toList with
      | [X, Y], [t, t'] => match P.underlying t with
        | some (.slice e) => match P.info? e with
          | some it => match it.zero with
            | some zv => t == t' && opndOK gl x X && opndOK gl y Y && once [x, y] && it.size == sz && it.bytes == bytes && zv.cells.size == sz
            | none => false
          | none => false
        | _ => false
      | _, _ => false
    | _ => false
  | .mx big xs => match o.op with
    | .call { callee := .builtin b, args, .. } => decide (b = if big then .max else .min) && opndsOK gl xs args.toList && xs.all plainA
    | _ => false
  | .call f xs => match o.op with
    | .call { callee := .value (.func f'), args, .. } => f == f' && opndsOK gl xs args.toList && once xs
    | _ => false
  | .callv f xs => match o.op with
    | .call { callee := .value F, args, .. } => opndOK gl f F && plainA f && opndsOK gl xs args.toList && once xs
    | _ => false

end Go.Vi
end
section
/- What the check of an operation says. -/
namespace Go.Vi
variable {c : Ctx} {g : G} {st st' : St} {a : Act} {w : World} {hs : List Hv}

theorem opOK_snd {o : Oper} {m : MOp} {v : V} {call : FuncId → List V → Option V} (hok : opOK c.P c.gl o m = true) (hcall : ∀ f args r, call f args = some r → Good c.P c.gl f args r ∧ Entry c.P f) (h : FInv c g st a w)
    (hv : exec call m st = some (v, st')) : Out c o a w st' v := by
  have hg := fun f args r e => (hcall f args r e).1
  have he := fun f args r e => (hcall f args r e).2
  cases m <;> simp only [opOK, Bool.false_eq_true] at hok
  case mv x =>
    simp only [exec, Option.some.injEq, Prod.mk.injEq] at hv
    obtain ⟨rfl, rfl⟩ := hv
    split at hok
    · exact snd_mv h (.inl ‹_›) hok
    · exact snd_mv h (.inr ‹_›) hok
    · cases hok
  case pick x y z =>
    split at hok
    · simp only [Bool.and_eq_true] at hok
      simp only [exec] at hv
      split at hv
      · cases hv
        exact snd_pick h ‹_› hok.1.1.1.1.1 hok.1.1.1.1.2 hok.1.1.1.2 hok.1.1.2 hok.1.2 hok.2 ‹_›
      · cases hv
    · cases hok
  case build z ps =>
    split at hok
    · split at hok
      · rename_i place zs hp
        simp only [Bool.and_eq_true] at hok
        obtain ⟨zv, rfl, hb⟩ := placeOf_built hp
        exact snd_build h ‹_› hok.1.1 hb hok.1.2 hok.2 hv
      · cases hok
    · cases hok
  case bsl sz n z ps =>
    split at hok
    · split at hok
      · split at hok
        · split at hok
          · simp only [Bool.and_eq_true, beq_iff_eq] at hok
            have hn := hok.1.1.1.1
            subst hn
            exact snd_bsl h ‹_› ‹_› ‹_› hok.1.1.1.2 ‹_› hok.1.1.2 hok.1.2 hok.2 hv
          · cases hok
        · cases hok
      · cases hok
    · cases hok
  case load r ag sz p =>
    split at hok
    · simp only [Bool.and_eq_true] at hok
      obtain ⟨h1, h2, h3, h4⟩ := agOK_iff hok.2
      simp only [exec, Option.bind_eq_some_iff, Option.map_eq_some_iff] at hv
      obtain ⟨cs, hc, u, hu, hv⟩ := hv
      cases hv
      exact snd_load h ‹_› hok.1.1 hok.1.2 h1 h2 h3 h4 hc hu
    · cases hok
  case take r p =>
    split at hok
    · simp only [Bool.and_eq_true] at hok
      obtain ⟨h1, h2, h3, h4⟩ := agOK_iff hok.2
      exact snd_take h ‹_› hok.1.1 hok.1.2 h1 h2 h3 hv
    · cases hok
  case store r sz p x =>
    split at hok
    · simp only [Bool.and_eq_true, Option.isNone_iff_eq_none] at hok
      exact snd_store h ‹_› hok.1.1.1.1.1 hok.1.1.1.1.2 hok.1.1.1.2 hok.1.1.2 (szOK_iff hok.1.2) (fun s hs => by have := hok.2; rw [hs] at this; exact this) hv
    · cases hok
  case nilchk x =>
    split at hok
    · simp only [Bool.and_eq_true] at hok
      simp only [exec] at hv
      have hst : st' = st := by split at hv <;> simp_all
      subst hst
      refine snd_nilchk h ‹_› hok.1 hok.2 ?_
      split at hv
      · rename_i e; rw [e]; simp_all
      · rename_i e; rw [e]; simp_all
      · cases hv
    · cases hok
  case bin op x y =>
    split at hok
    · simp only [Bool.and_eq_true, decide_eq_true_eq] at hok
      obtain ⟨⟨⟨⟨rfl, h1⟩, h2⟩, h3⟩, h4⟩ := hok
      simp only [exec, Option.map_eq_some_iff] at hv
      obtain ⟨u, hu, hv⟩ := hv
      cases hv
      exact snd_bin h ‹_› h1 h2 h3 h4 hu
    · cases hok
  case eqs ag ks neg x y =>
    split at hok
    · simp only [Bool.and_eq_true, decide_eq_true_eq] at hok
      obtain ⟨⟨⟨⟨⟨⟨h0, h1⟩, h2⟩, h3⟩, h4⟩, h5⟩, h6⟩ := hok
      simp only [exec, Option.map_eq_some_iff] at hv
      obtain ⟨u, hu, hv⟩ := hv
      cases hv
      obtain ⟨h7, h8⟩ := keysOK_iff h5
      subst h0
      exact snd_eqs h ‹_› h1 h2 h3 h4 h7 h8 (fun e => by rw [if_pos e] at h6; simpa using h6) (fun e => by rw [e] at h6; simpa using h6) hu
    · cases hok
  case un op x =>
    split at hok
    · simp only [Bool.and_eq_true, decide_eq_true_eq] at hok
      obtain ⟨⟨rfl, h1⟩, h2⟩ := hok
      simp only [exec, Option.map_eq_some_iff] at hv
      obtain ⟨u, hu, hv⟩ := hv
      cases hv
      exact snd_un h ‹_› h1 h2 hu
    · cases hok
  case isnil neg x =>
    split at hok
    · rename_i op' t X Y t' ho
      simp only [Bool.and_eq_true, decide_eq_true_eq] at hok
      obtain ⟨⟨⟨⟨h0, h1⟩, h2⟩, h3⟩, h4⟩ := hok
      split at h3
      · split at h4
        · exact snd_isnil h (by rw [ho, h0]) h1 h2 ‹_› hv
        · cases h4
      · cases h3
    · cases hok
  case bytes x =>
    split at hok
    · simp only [Bool.and_eq_true] at hok
      obtain ⟨⟨⟨h1, h2⟩, h3⟩, h4⟩ := hok
      split at h3
      · split at h4
        · split at h4
          · exact snd_bytes h ‹_› h1 h2 ‹_› ‹_› ‹_› hv
          · cases h4
        · cases h4
      · cases h3
    · cases hok
  case rng x =>
    split at hok
    · simp only [Bool.and_eq_true] at hok
      obtain ⟨⟨h1, h2⟩, h3⟩ := hok
      split at h3
      · exact snd_rng h ‹_› h1 h2 ‹_› hv
      · cases h3
    · cases hok
  case ent t =>
    split at hok
    · simp only [beq_iff_eq] at hok
      subst hok
      exact snd_ent h ‹_› hv
    · cases hok
  case slarr r n sz p =>
    split at hok
    · split at hok
      · simp only [Bool.and_eq_true, beq_iff_eq] at hok
        obtain ⟨⟨⟨h1, h2⟩, rfl⟩, h4⟩ := hok
        exact snd_slarr h ‹_› h1 h2 ‹_› (szOK_iff h4) hv
      · cases hok
    · cases hok
  case conv k x =>
    split at hok
    · simp only [Bool.and_eq_true] at hok
      obtain ⟨⟨⟨h1, h2⟩, h3⟩, h4⟩ := hok
      split at h4
      · simp only [decide_eq_true_eq] at h4
        subst h4
        simp only [exec] at hv
        split at hv
        · cases hv
          exact snd_conv h ‹_› h1 h2 h3 ‹_› ‹_›
        · cases hv
      · cases h4
    · cases hok
  case mkfn f roots fs cs =>
    split at hok
    · simp only [Bool.and_eq_true, decide_eq_true_eq, List.isEmpty_iff, Array.isEmpty_iff] at hok
      obtain ⟨⟨⟨⟨rfl, rfl⟩, rfl⟩, h1⟩, h2⟩ := hok
      exact snd_mkfn h ‹_› h1 h2 hv
    · cases hok
  case mkmap =>
    split at hok
    · exact snd_mkmap h ‹_› hv
    · cases hok
  case mksl sz bytes z n =>
    split at hok
    · split at hok
      · split at hok
        · split at hok
          · simp only [Bool.and_eq_true, beq_iff_eq] at hok
            obtain ⟨⟨⟨⟨⟨h1, h2⟩, h3⟩, h4⟩, h5⟩, h6⟩ := hok
            exact snd_mksl h ‹_› h1 h2 h3 ‹_› ‹_› h4 h5 ‹_› h6 hv
          · cases hok
        · cases hok
      · cases hok
    · cases hok
  case slcs x lo hi =>
    split at hok
    · simp only [Bool.and_eq_true] at hok
      obtain ⟨⟨⟨⟨h1, h2⟩, h3⟩, h4⟩, h5⟩ := hok
      split at h5
      · exact snd_slcs h ‹_› h1 h2 h3 h4 ‹_› hv
      · cases h5
    · cases hok
  case slc sz x lo hi mx =>
    split at hok
    · simp only [Bool.and_eq_true] at hok
      obtain ⟨⟨⟨⟨h1, h2⟩, h3⟩, h4⟩, h5⟩ := hok
      split at h5
      · exact snd_slc h ‹_› h1 h2 h3 h4 ‹_› (szOK_iff h5) hv
      · cases h5
    · cases hok
  case faddr r off p =>
    split at hok
    · split at hok
      · split at hok
        · simp only [Bool.and_eq_true, beq_iff_eq] at hok
          obtain ⟨⟨⟨h1, h2⟩, h3⟩, h4⟩ := hok
          refine snd_faddr h ‹_› h1 h2 ‹_› ‹_› h3 ?_ hv
          split at h4
          · exact ⟨_, ‹_›⟩
          · cases h4
        · cases hok
      · cases hok
    · cases hok
  case fld ag sz off x =>
    split at hok
    · split at hok
      · split at hok
        · simp only [Bool.and_eq_true, beq_iff_eq] at hok
          obtain ⟨⟨⟨h1, h2⟩, h3⟩, h4⟩ := hok
          obtain ⟨k1, k2, k3, k4⟩ := agOK_iff h4
          simp only [exec] at hv
          split at hv
          · simp only [Option.bind_eq_some_iff, Option.map_eq_some_iff] at hv
            obtain ⟨cs, hc, u, hu, hv⟩ := hv
            cases hv
            exact snd_fld h ‹_› h1 h2 ‹_› ‹_› h3 k1 k2 k3 k4 ‹_› hc hu
          · cases hv
        · cases hok
      · cases hok
    · cases hok
  case iarr n sz p i =>
    split at hok
    · split at hok
      · simp only [Bool.and_eq_true, beq_iff_eq] at hok
        obtain ⟨⟨⟨⟨⟨h1, h2⟩, h3⟩, h4⟩, rfl⟩, h6⟩ := hok
        exact snd_iarr h ‹_› h1 h2 h3 h4 ‹_› (szOK_iff h6) hv
      · cases hok
    · cases hok
  case iaddr r sz x i =>
    split at hok
    · split at hok
      · simp only [Bool.and_eq_true] at hok
        obtain ⟨⟨⟨⟨h1, h2⟩, h3⟩, h4⟩, h6⟩ := hok
        exact snd_iaddr h ‹_› h1 h2 h3 h4 ‹_› (szOK_iff h6) hv
      · cases hok
    · cases hok
  case idxs x i =>
    split at hok
    · simp only [Bool.and_eq_true] at hok
      obtain ⟨⟨⟨⟨h1, h2⟩, h3⟩, h4⟩, h5⟩ := hok
      split at h5
      · simp only [exec] at hv
        split at hv
        · split at hv
          · rename_i hk
            cases hv
            exact snd_idxs h ‹_› h1 h2 h3 h4 ‹_› ‹_› ‹_› hk.1 hk.2
          · cases hv
        · cases hv
      · cases h5
    · cases hok
  case idxa ag n sz x i =>
    split at hok
    · split at hok
      · simp only [Bool.and_eq_true, beq_iff_eq] at hok
        obtain ⟨⟨⟨⟨⟨h1, h2⟩, h3⟩, h4⟩, rfl⟩, h6⟩ := hok
        obtain ⟨k1, k2, k3, k4⟩ := agOK_iff h6
        simp only [exec] at hv
        split at hv
        · split at hv
          · rename_i hk
            simp only [Option.bind_eq_some_iff, Option.map_eq_some_iff] at hv
            obtain ⟨cs, hc, u, hu, hv⟩ := hv
            cases hv
            exact snd_idxa h ‹_› h1 h2 h3 h4 ‹_› k1 k2 k3 k4 ‹_› ‹_› hk hc hu
          · cases hv
        · cases hv
      · cases hok
    · cases hok
  case look r ag ks z ok m k =>
    split at hok
    · split at hok
      · split at hok
        · split at hok
          · simp only [Bool.and_eq_true, decide_eq_true_eq] at hok
            obtain ⟨⟨⟨⟨⟨⟨rfl, h1⟩, h2⟩, h3⟩, h4⟩, h5⟩, h6⟩ := hok
            obtain ⟨k1, k2, k3, kd, k4⟩ := mapKeyOK_iff h5
            exact snd_look h ‹_› h1 h2 h3 h4 ‹_› k4 k1 k2 k3 ‹_› ‹_› h6 hv
          · cases hok
        · cases hok
      · cases hok
    · cases hok
  case mset r ag ks m k x =>
    split at hok
    · split at hok
      · simp only [Bool.and_eq_true, Option.isNone_iff_eq_none] at hok
        obtain ⟨⟨⟨⟨⟨⟨⟨h0, h1⟩, h2⟩, h3⟩, h4⟩, h5⟩, h6⟩, h7⟩ := hok
        obtain ⟨k1, k2, k3, kd, k4⟩ := mapKeyOK_iff h7
        exact snd_mset h (.inl ‹_›) h0 h1 h2 h3 h4 h5 h6 ‹_› k4 k1 k2 k3 hv
      · cases hok
    · split at hok
      · simp only [Bool.and_eq_true, Option.isNone_iff_eq_none] at hok
        obtain ⟨⟨⟨⟨⟨⟨⟨h0, h1⟩, h2⟩, h3⟩, h4⟩, h5⟩, h6⟩, h7⟩ := hok
        obtain ⟨k1, k2, k3, kd, k4⟩ := mapKeyOK_iff h7
        exact snd_mset h (.inr ‹_›) h0 h1 h2 h3 h4 h5 h6 ‹_› k4 k1 k2 k3 hv
      · cases hok
    · cases hok
  case ext i x =>
    split at hok
    · simp only [Bool.and_eq_true, beq_iff_eq] at hok
      obtain ⟨⟨rfl, h1⟩, h2⟩ := hok
      simp only [exec] at hv
      split at hv
      · simp only [Option.map_eq_some_iff] at hv
        obtain ⟨u, hu, hv⟩ := hv
        cases hv
        exact snd_ext h ‹_› h1 h2 ‹_› hu
      · cases hv
    · cases hok
  case len kd r x =>
    split at hok
    · rename_i args ts ho
      split at hok
      · rename_i X t e1 e2
        simp only [Bool.and_eq_true] at hok
        obtain ⟨⟨h1, h2⟩, h3⟩ := hok
        have ha : args = #[X] := Array.toList_inj.1 e1
        have ht : ts = #[t] := Array.toList_inj.1 e2
        subst ha ht
        split at h3
        · exact snd_len h ho h1 h2 ‹_› hv (fun _ => ⟨_, rfl⟩) (fun h => by cases h) (fun h => by cases h)
        · exact snd_len h ho h1 h2 ‹_› hv (fun h => by cases h) (fun _ => rfl) (fun h => by cases h)
        · exact snd_len h ho h1 h2 ‹_› hv (fun h => by cases h) (fun h => by cases h) (fun _ => ⟨_, _, rfl⟩)
        · cases h3
      · cases hok
    · cases hok
  case app sz bytes x y =>
    split at hok
    · rename_i args ts ho
      split at hok
      · rename_i X Y t t' e1 e2
        split at hok
        · split at hok
          · split at hok
            · simp only [Bool.and_eq_true, beq_iff_eq] at hok
              obtain ⟨⟨⟨⟨⟨⟨rfl, h1⟩, h2⟩, h3⟩, h4⟩, h5⟩, h6⟩ := hok
              have ha : args = #[X, Y] := Array.toList_inj.1 e1
              have ht : ts = #[t, t] := Array.toList_inj.1 e2
              subst ha ht
              exact snd_app h ho h1 h2 h3 ‹_› ‹_› h4 h5 ‹_› h6 hv
            · cases hok
          · cases hok
        · cases hok
      · cases hok
    · cases hok
  case mx big xs =>
    split at hok
    · rename_i b args ts ho
      simp only [Bool.and_eq_true, decide_eq_true_eq] at hok
      obtain ⟨⟨rfl, h1⟩, h2⟩ := hok
      exact snd_mx h ho h1 h2 hv
    · cases hok
  case call f xs =>
    split at hok
    · simp only [Bool.and_eq_true, beq_iff_eq] at hok
      obtain ⟨⟨rfl, h1⟩, h2⟩ := hok
      have hent : Entry c.P f := by
        simp only [exec] at hv
        split at hv
        · simp only [Option.map_eq_some_iff] at hv
          obtain ⟨r, hr, _⟩ := hv
          exact he _ _ _ hr
        · cases hv
      exact snd_call h ‹_› h1 h2 hent hg hv
    · cases hok
  case callv f xs =>
    split at hok
    · simp only [Bool.and_eq_true] at hok
      obtain ⟨⟨⟨h1, h2⟩, h3⟩, h4⟩ := hok
      exact snd_callv h ‹_› h1 h2 h3 h4 he hg hv
    · cases hok

end Go.Vi
end
section
/- A step of a region. -/
namespace Go.Vi
variable {c : Ctx} {g : G} {st st' st1 : St} {a : Act} {w : World} {hs : List Hv}

theorem Held.goes {v : V} {rv : Value} {ov : List Nat} {dst : Option Nat} (h : Held c g st a w [(v, rv, ov)]) (hd : ∀ d, dst = some d → d < c.nt) {p : Bool} (hi : into p dst (v, st) = some st1) : ∃ g', FInv c g' st1 (a.put dst rv) w := by
  unfold into at hi
  split at hi
  case isFalse => cases hi
  cases dst with
  | none =>
    simp only [Option.some.injEq] at hi
    subst hi
    exact ⟨g, h.inv⟩
  | some d =>
    have hrel := h.rel _ (List.mem_singleton.2 rfl)
    have key : (isX v = true → noref d st.tm = true) ∧ st1 = { st with tm := put st.tm d v } := by
      simp only at hi
      split at hi
      · split at hi
        · rename_i hn; cases hi; exact ⟨fun _ => hn, rfl⟩
        · cases hi
      · split at hi
        · rename_i hn; cases hi; exact ⟨fun _ => hn, rfl⟩
        · cases hi
      · rename_i h1 h2
        cases hi
        refine ⟨fun hx => ?_, rfl⟩
        rcases isX_cases hx with ⟨sz, xs, rfl⟩ | ⟨es, rfl⟩
        · exact absurd rfl (h1 _ _)
        · exact absurd rfl (h2 _)
    obtain ⟨k1, rfl⟩ := key
    have hdt := hd d rfl
    refine ⟨_, h.inv.slot d hdt v rv ov ?_ k1 (by simpa using h.nd) (fun b hb => (h.fr b (by simpa using hb)).1) (fun b hb t _ => (h.fr b (by simpa using hb)).2.1 t) (fun b hb => (h.fr b (by simpa using hb)).2.2)⟩
    refine hrel.frame (fun _ _ _ => rfl) (fun s hs hx => ?_) fun hr => hr
    by_cases hsd : s = d
    · subst hsd
      simp only [St.at, get_put, if_pos, Option.getD_some] at hx
      exfalso
      cases v <;> simp [names, isX] at hs hx
    · have he : ({ st with tm := put st.tm d v } : St).at s = st.at s := by simp [St.at, get_put, hsd]
      rw [he] at hx ⊢
      exact ⟨.self hx, by simp [Act.put, Array.getD_eq_getD_getElem?, Array.getElem?_setIfInBounds_ne (fun e => hsd e.symm)]⟩

/-- An operation with its slot and its guard. -/
def moOK (P : Program) (gl : List (Nat × List V)) (nt : Nat) (ops : Array Oper) (o : Oper) (m : MO) : Bool :=
  m.dst == o.dst && (match m.dst with | some d => decide (d < nt) | none => true) &&
  (match m.guard, o.guard with
    | none, none => true
    | some (j, want), some (i, want') => want == want' && (ops[i]?).bind (·.dst) == some j && decide (j < nt)
    | _, _ => false) &&
  match m.op with
  | .alloc z => match o.op with
    | .alloc e => match P.info? e with
      | some it => match it.zero with
        | some zv => zsOK z zv.cells.toList && m.guard.isNone
        | none => false
      | none => false
    | _ => false
  | .box _ x => match o.op with
    | .box _ X => opndOK gl x X && m.guard.isNone
    | _ => false
  | op => opOK P gl o op

def Oper.goes (P : Program) (ops : Array Oper) (o : Oper) (a : Act) (w : World) (K : Act → World → Prop) (Q : Exit → Act → World → Prop) : Prop :=
  if Region.wanted o (yielded ops a.tmps) then o.wp P a w K Q else K (a.put o.dst Go.undef) w

theorem Out.wp {o : Oper} {v : V} {K : Act → World → Prop} {Q : Exit → Act → World → Prop} (h : Out c o a w st' v) (hd : ∀ d, o.dst = some d → d < c.nt) {p : Bool} (hi : into p o.dst (v, st') = some st1)
    (hK : ∀ g a w, FInv c g st1 a w → K a w) : o.wp c.P a w K Q := by
  unfold Oper.wp
  rcases h with ⟨rv, w', hrun, g, ov, hh⟩ | ⟨hdn, w', hrun, g, hinv⟩ | ⟨f, args, hrun, hcalls⟩
  · rw [hrun]
    obtain ⟨g', h'⟩ := hh.goes hd hi
    exact hK g' _ _ h'
  · rw [hrun]
    rw [hdn] at hi
    unfold into at hi
    split at hi
    case isFalse => cases hi
    simp only [Option.some.injEq] at hi
    subst hi
    show K (a.put o.dst Go.undef) w'
    rw [hdn]
    exact hK g _ _ hinv
  · rw [hrun]
    refine Calls.mono hcalls ?_
    rintro e w' ⟨rv, rfl, g, ov, hh⟩
    obtain ⟨g', h'⟩ := hh.goes hd hi
    exact hK g' _ _ h'

theorem skp_goes (h : FInv c g st a w) {dst : Option Nat} (hd : ∀ d, dst = some d → d < c.nt) {p : Bool} (hi : into p dst (.skp, st) = some st1) : ∃ g', FInv c g' st1 (a.put dst Go.undef) w := by
  have hh : Held c g st a w [(.skp, Go.undef, [])] := by simpa using (Held.nil h).push0 (.of_rel .skp)
  exact hh.goes hd hi

theorem step_goes {ops : Array Oper} {o : Oper} {m : MO} {call : FuncId → List V → Option V} {K : Act → World → Prop} {Q : Exit → Act → World → Prop} (hok : moOK c.P c.gl c.nt ops o m = true)
    (hcall : ∀ f args r, call f args = some r → Good c.P c.gl f args r ∧ Entry c.P f) (h : FInv c g st a w) (hv : step call m st = some st1) (hK : ∀ g a w, FInv c g st1 a w → K a w) : Oper.goes c.P ops o a w K Q := by
  obtain ⟨dst, op, guard⟩ := m
  simp only [moOK, Bool.and_eq_true, beq_iff_eq] at hok
  obtain ⟨⟨⟨rfl, hd⟩, hgd⟩, hop⟩ := hok
  have hd' : ∀ d, o.dst = some d → d < c.nt := fun d e => by rw [e] at hd; simpa using hd
  unfold Oper.goes
  have key : ∀ {op : MOp}, opOK c.P c.gl o op = true → stepG call ⟨o.dst, op, guard⟩ st = some st1 → if Region.wanted o (yielded ops a.tmps) then o.wp c.P a w K Q else K (a.put o.dst Go.undef) w := by
    intro op hop hv
    unfold stepG at hv
    simp only at hv
    have hexec : (exec call op st).bind (into (ptrOp op) o.dst) = some st1 → o.wp c.P a w K Q := by
      intro he
      obtain ⟨⟨v, st'⟩, h1, h2⟩ := Option.bind_eq_some_iff.1 he
      exact (opOK_snd hop hcall h h1).wp hd' h2 hK
    cases guard with
    | none =>
      cases hog : o.guard with
      | some y => rw [hog] at hgd; cases hgd
      | none =>
        have : Region.wanted o (yielded ops a.tmps) = true := by simp [Region.wanted, hog]
        rw [if_pos this]
        exact hexec hv
    | some jw =>
      obtain ⟨j, want⟩ := jw
      cases hog : o.guard with
      | none => rw [hog] at hgd; cases hgd
      | some iw =>
        obtain ⟨i, want2⟩ := iw
        rw [hog] at hgd
        simp only [Bool.and_eq_true, beq_iff_eq, decide_eq_true_eq] at hgd
        obtain ⟨⟨rfl, hj⟩, hlt⟩ := hgd
        have hy : yielded ops a.tmps i = match a.tmps[j]? with | some (.bool b) => some b | _ => none := by
          unfold yielded
          rw [hj]
          rfl
        have hsz : j < a.tmps.size := by rw [h.size]; exact hlt
        have hat := h.at j
        have hget : a.tmps[j]? = some (a.tmps.getD j Go.undef) := by simp [Array.getD, hsz]
        rw [hget] at hy
        simp only at hv
        split at hv
        · rename_i b hb
          rw [hb] at hat
          have hb' : a.tmps.getD j Go.undef = .bool b := by
            have h1 : Rel w g.S (.bool b) (a.tmps.getD j Go.undef) (g.O j) := hat
            generalize a.tmps.getD j Go.undef = r at h1
            generalize g.O j = ob at h1
            cases h1
            rfl
          rw [hb'] at hy
          by_cases hbw : b = want
          · rw [if_pos hbw] at hv
            have : Region.wanted o (yielded ops a.tmps) = true := by simp [Region.wanted, hog, hy, hbw]
            rw [if_pos this]
            exact hexec hv
          · rw [if_neg hbw] at hv
            have : ¬ Region.wanted o (yielded ops a.tmps) = true := by simp [Region.wanted, hog, hy, hbw]
            rw [if_neg this]
            obtain ⟨g', h'⟩ := skp_goes h hd' hv
            exact hK g' _ _ h'
        · rename_i hb
          rw [hb] at hat
          have hb' : a.tmps.getD j Go.undef = Go.undef := by
            have h1 : Rel w g.S .skp (a.tmps.getD j Go.undef) (g.O j) := hat
            generalize a.tmps.getD j Go.undef = r at h1
            generalize g.O j = ob at h1
            cases h1
            rfl
          rw [hb'] at hy
          have : ¬ Region.wanted o (yielded ops a.tmps) = true := by simp [Region.wanted, hog, hy, Go.undef]
          rw [if_neg this]
          obtain ⟨g', h'⟩ := skp_goes h hd' hv
          exact hK g' _ _ h'
        · cases hv
  have hfree : guard.isNone = true → Region.wanted o (yielded ops a.tmps) = true := by
    intro hgn
    rw [Option.isNone_iff_eq_none] at hgn
    subst hgn
    cases hog : o.guard with
    | none => simp [Region.wanted, hog]
    | some y => rw [hog] at hgd; cases hgd
  cases op
  case alloc z =>
    simp only at hop
    split at hop
    · rename_i e ho
      split at hop
      · rename_i it hit
        split at hop
        · rename_i zv hzv
          simp only [Bool.and_eq_true] at hop
          rw [if_pos (hfree hop.2)]
          simp only [step] at hv
          split at hv
          · rename_i d hdd
            simp only [boxed] at hv
            split at hv
            · rename_i hc
              cases hv
              have hz := zsOK_rel w g.S hop.1
              obtain ⟨g', h'⟩ := (Held.nil h).laid (os := List.replicate z.length []) (vs := zv.cells) (e := e) (hd' d hdd) hc.1 (by simpa using hz.1) (by simp) (fun i y v o hy hv ho' => by
                have : o = [] := by
                  rw [List.getElem?_replicate] at ho'
                  split at ho' <;> simp_all
                subst this
                exact hz.2.2.2 i y v hy (by simpa using hv)) (by simp) (by simp)
              unfold Oper.wp
              have hrun : (execOp a.eval o).run c.P w = .ok (.value (.pointer (some ⟨w.heap.size, 0, none⟩))) (w.alloc (.cells zv.cells e)) := by
                simp [execOp, ho, Instr.alloc, zeroValue, typeInfo, hit, hzv, newVar, newRow]
              rw [hrun]
              show K (a.put o.dst _) _
              rw [hdd]
              exact hK g' _ _ h'
            · cases hv
          · cases hv
        · cases hop
      · cases hop
    · cases hop
  case box sz x =>
    simp only at hop
    split at hop
    · rename_i e X ho
      simp only [Bool.and_eq_true] at hop
      rw [if_pos (hfree hop.2)]
      simp only [step] at hv
      split at hv
      · rename_i d hdd
        split at hv
        · rename_i hsz
          simp only [boxed] at hv
          split at hv
          · rename_i hc
            cases hv
            obtain ⟨g1, ov, hh, -, -, -⟩ := opnd1 h hop.1
            have hrel : Rel w g1.S (st.val x) (a.eval X) ov := by
              refine (hh.rel _ (List.mem_singleton.2 rfl)).rel ⟨fun d f e => ?_, fun t i f e => ?_, fun t e => ?_⟩ <;> (dsimp only at e; have := hc.2; rw [e] at this; simp [Vi.flat, leaf] at this)
            obtain ⟨f1, f2, nos, f3, f4, f5⟩ := hrel.flat hc.2
            obtain ⟨g', h'⟩ := hh.laid (os := nos) (vs := (a.eval X).cells) (e := e) (hd' d hdd) hc.1 f1 f4 f5 (fun b hb => by simp [← f3, hb]) (by rw [f3]; simpa using hh.nd)
            unfold Oper.wp
            have hrun : (execOp a.eval o).run c.P w = .ok (.value (.pointer (some ⟨w.heap.size, 0, none⟩))) (w.alloc (.cells (a.eval X).cells e)) := by
              simp [execOp, ho, Instr.box, newVar, newRow]
            rw [hrun]
            show K (a.put o.dst _) _
            rw [hdd]
            exact hK g' _ _ h'
          · cases hv
        · cases hv
      · cases hv
    · cases hop
  all_goals exact key hop hv

end Go.Vi
end
