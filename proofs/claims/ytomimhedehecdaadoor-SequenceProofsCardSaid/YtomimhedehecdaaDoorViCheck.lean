/- The small code against the real one: each operation. -/
import Derived.Test.YtomimhedehecdaaDoorViOps10
namespace Go.Vi

/-- How deep kinds go. -/
def kdeep : Nat := 8

theorem kindsOf_mono {P : Program} : ∀ (d d' : Nat) (t : TypeId) (ks : List Lk), d ≤ d' → kindsOf P d t = some ks → kindsOf P d' t = some ks
  | 0, _, _, _, _, h => by simp [kindsOf] at h
  | d + 1, 0, _, _, hd, _ => by omega
  | d + 1, d' + 1, t, ks, hd, h => by
    have ih := kindsOf_mono (P := P) d d'
    unfold kindsOf at h ⊢
    split at h
    · exact h
    · exact h
    · exact h
    · rename_i fs hu
      split at h
      · cases h
      · rename_i hs
        rw [if_neg hs]
        have key : ∀ (fl : List Field) (off : Nat) (ks : List Lk), kindsGo P (kindsOf P d) fl off = some ks → kindsGo P (kindsOf P d') fl off = some ks := by
          intro fl
          induction fl with
          | nil => intro off ks h; simpa [kindsGo] using h
          | cons f fl ih2 =>
            intro off ks h
            simp only [kindsGo] at h ⊢
            split at h
            · rename_i ks1 z h1 h2
              rw [ih _ _ (by omega) h1, h2]
              simp only
              split at h
              · rename_i hc
                rw [if_pos hc]
                obtain ⟨rest, hr, rfl⟩ := Option.map_eq_some_iff.1 h
                rw [ih2 _ _ hr]; rfl
              · cases h
            · cases h
        exact key _ _ _ h
    · rename_i n e hu
      split at h
      · rename_i ks1 z h1 h2
        rw [ih _ _ (by omega) h1, h2]
        exact h
      · cases h
    · cases h

theorem keyOK_mono {P : Program} : ∀ (d d' : Nat) (t : TypeId), d ≤ d' → keyOK P d t = true → keyOK P d' t = true
  | 0, _, _, _, h => by simp [keyOK] at h
  | d + 1, 0, _, hd, _ => by omega
  | d + 1, d' + 1, t, hd, h => by
    unfold keyOK at h ⊢
    split at h
    · rfl
    · rfl
    · rfl
    · rename_i fs hu
      simp only [List.all_eq_true] at h ⊢
      exact fun f hf => keyOK_mono d d' f.type (by omega) (h f hf)
    · cases h

def szOK (P : Program) (t : TypeId) (sz : Nat) : Bool := (P.info? t).map (·.size) == some sz
def agOK (P : Program) (t : TypeId) (ag : Bool) (sz : Nat) : Bool := (P.underlying t).isSome && szOK P t sz && aggT P t == ag && (ag || sz == 1)
def keysOK (P : Program) (t : TypeId) (ag : Bool) (ks : List Lk) : Bool := decide (kindsOf P kdeep t = some ks) && aggT P t == ag
def mapKeyOK (P : Program) (t : TypeId) (ag : Bool) (ks : List Lk) : Bool := keysOK P t ag ks && keyOK P kdeep t && (P.underlying t).isSome

theorem szOK_iff {P : Program} {t : TypeId} {sz : Nat} (h : szOK P t sz = true) : (P.info? t).map (·.size) = some sz := eq_of_beq h
theorem agOK_iff {P : Program} {t : TypeId} {ag : Bool} {sz : Nat} (h : agOK P t ag sz = true) : (P.underlying t).isSome = true ∧ (P.info? t).map (·.size) = some sz ∧ aggT P t = ag ∧ (ag = false → sz = 1) := by
  simp only [agOK, Bool.and_eq_true, beq_iff_eq, Bool.or_eq_true] at h
  exact ⟨h.1.1.1, eq_of_beq h.1.1.2, h.1.2, fun hf => h.2.resolve_left (by rw [hf]; simp)⟩
theorem keysOK_iff {P : Program} {t : TypeId} {ag : Bool} {ks : List Lk} (h : keysOK P t ag ks = true) : kindsOf P Op.maxDepth t = some ks ∧ aggT P t = ag := by
  simp only [keysOK, Bool.and_eq_true, decide_eq_true_eq, beq_iff_eq] at h
  exact ⟨kindsOf_mono _ _ _ _ (by decide) h.1, h.2⟩
theorem mapKeyOK_iff {P : Program} {t : TypeId} {ag : Bool} {ks : List Lk} (h : mapKeyOK P t ag ks = true) : kindsOf P Op.maxDepth t = some ks ∧ aggT P t = ag ∧ keyOK P Op.maxDepth t = true ∧ ∃ kd, P.underlying t = some kd := by
  simp only [mapKeyOK, Bool.and_eq_true] at h
  obtain ⟨h1, h2⟩ := keysOK_iff h.1.1
  exact ⟨h1, h2, keyOK_mono _ _ _ (by decide) h.1.2, Option.isSome_iff_exists.1 h.2⟩

def placeOf (P : Program) (t : TypeId) : Option ((Nat → Option (Nat × Nat)) × List Value) :=
  match P.info? t, P.underlying t with
  | some it, some (.array _ e) =>
    match it.zero, P.info? e with
    | some z, some ie => some (fun i => some (i * ie.size, ie.size), z.cells.toList)
    | _, _ => none
  | some it, some (.struct fields) =>
    match it.zero, fields.toList.mapM (fun f => (P.info? f.type).map fun i => (f.offset, i.size)) with
    | some z, some places => some ((places.toArray[·]?), z.cells.toList)
    | _, _ => none
  | _, _ => none

theorem placeOf_built {P : Program} {t : TypeId} {place : Nat → Option (Nat × Nat)} {zs : List Value} (h : placeOf P t = some (place, zs)) : ∃ zv : Value, zv.cells.toList = zs ∧ ∀ parts, P.built t parts = Instr.fill place zv.cells parts := by
  unfold placeOf at h
  split at h
  · rename_i it n e h1 h2
    split at h
    · rename_i z ie h3 h4
      cases h
      exact ⟨z, rfl, fun parts => by simp [Program.built, h1, h2, h3, h4]⟩
    · cases h
  · rename_i it fs h1 h2
    split at h
    · rename_i z pl h3 h4
      cases h
      exact ⟨z, rfl, fun parts => by simp only [Program.built, h1, h2, h3, h4]⟩
    · cases h
  · cases h

def plainRoot : Root → A → Bool
  | .tm _, x => plainA x
  | _, _ => true

/-- An operation of the small code against the real one. -/
def opOK (P : Program) (gl : List (Nat × List V)) (o : Oper) (m : MOp) : Bool :=
  match m with
  | .mv x => match o.op with
    | .move X => opndOK gl x X
    | .assign X => opndOK gl x X
    | _ => false
  | .pick x y z => match o.op with
    | .pick X Y Z => opndOK gl x X && opndOK gl y Y && opndOK gl z Z && plainA x && plainA y && plainA z
    | _ => false
  | .alloc _ | .box .. => false
  | .build z ps => match o.op with
    | .build t Ps => match placeOf P t with
      | some (place, zs) => zsOK z zs && partsOK gl place ps Ps.toList && once (ps.map (·.2.2))
      | none => false
    | _ => false
  | .bsl sz n z ps => match o.op with
    | .buildSlice t n' Ps => match P.underlying t with
      | some (.slice e) => match P.info? e with
        | some it => match it.zero with
          | some zv => n == n' && it.size == sz && zsOK z zv.cells.toList && rowsOK gl ps Ps.toList && once (ps.map (·.2))
          | none => false
        | none => false
      | _ => false
    | _ => false
  | .load _ ag sz p => match o.op with
    | .load t X => opndOK gl p X && plainA p && agOK P t ag sz
    | _ => false
  | .take _ p => match o.op with
    | .load t X => opndOK gl p X && plainA p && agOK P t false 1
    | _ => false
  | .store r sz p x => match o.op with
    | .store t X Y => o.dst.isNone && opndOK gl p X && plainA p && opndOK gl x Y && szOK P t sz && plainRoot r x
    | _ => false
  | .nilchk x => match o.op with
    | .nilCheck X => opndOK gl x X && plainA x
    | _ => false
  | .bin op x y => match o.op with
    | .binOp op' _ X Y _ => decide (op = op') && opndOK gl x X && opndOK gl y Y && plainA x && plainA y
    | _ => false
  | .eqs ag ks neg x y => match o.op with
    | .binOp op' t X Y _ => decide (op' = if neg then .neq else .eql) && opndOK gl x X && opndOK gl y Y && plainA x && plainA y && keysOK P t ag ks && (if ag then !P.eqGuardType P.depth t else decide (ks = [.b]))
    | _ => false
  | .un op x => match o.op with
    | .unOp op' _ X => decide (op = op') && opndOK gl x X && plainA x
    | _ => false
  | .isnil neg x => match o.op with
    | .binOp op' t X Y _ => decide (op' = if neg then .neq else .eql) && opndOK gl x X && plainA x && (match P.underlying t with | some (.slice _) => true | _ => false) && (match Y with | .const (.slice none 0 0) => true | _ => false)
    | _ => false
  | .bytes x => match o.op with
    | .convert s d X => opndOK gl x X && plainA x && (match P.underlying s with | some .string => true | _ => false) && (match P.underlying d with | some (.slice e) => (match P.underlying e with | some (.int .u8) => true | _ => false) | _ => false)
    | _ => false
  | .rng x => match o.op with
    | .range t X => opndOK gl x X && plainA x && (match P.underlying t with | some (.map _ _) => true | _ => false)
    | _ => false
  | .ent t => match o.op with
    | .entry (.tmp t') => t == t'
    | _ => false
  | .slarr _ n sz p => match o.op with
    | .slice t X none none none => match P.underlying t with
      | some (.array n' e) => opndOK gl p X && plainA p && n == n' && szOK P e sz
      | _ => false
    | _ => false
  | .conv k x => match o.op with
    | .convert s d X => opndOK gl x X && plainA x && (P.underlying s).isSome && (match P.underlying d with | some (.int k') => decide (k' = k) | _ => false)
    | _ => false
  | .mkfn f _ fs cs => match o.op with
    | .makeFunc f' Fs Cs => decide (f = f') && fs.isEmpty && Fs.isEmpty && opndsOK gl cs Cs.toList && cs.all plainA
    | _ => false
  | .mkmap => match o.op with
    | .makeMap _ none => true
    | _ => false
  | .mksl sz bytes z n => match o.op with
    | .makeSlice t N N' => match P.underlying t with
      | some (.slice e) => match P.info? e with
        | some it => match it.zero with
          | some zv => opndOK gl n N && opndOK gl n N' && plainA n && it.size == sz && it.bytes == bytes && zsOK z zv.cells.toList
          | none => false
        | none => false
      | _ => false
    | _ => false
  | .slcs x lo hi => match o.op with
    | .slice t X Lo Hi none => opndOK gl x X && plainA x && optOK gl lo Lo && optOK gl hi Hi && (match P.underlying t with | some .string => true | _ => false)
    | _ => false
  | .slc sz x lo hi mx => match o.op with
    | .slice t X Lo Hi Mx => opndOK gl x X && optOK gl lo Lo && optOK gl hi Hi && optOK gl mx Mx && (match P.underlying t with | some (.slice e) => szOK P e sz | _ => false)
    | _ => false
  | .faddr _ off p => match o.op with
    | .fieldAddr t X i => match P.underlying t with
      | some (.struct fs) => match fs[i]? with
        | some f => opndOK gl p X && plainA p && f.offset == off && (match (P.info? f.type).map (·.size) with | some (_ + 1) => true | _ => false)
        | none => false
      | _ => false
    | _ => false
  | .fld ag sz off x => match o.op with
    | .field t X i => match P.underlying t with
      | some (.struct fs) => match fs[i]? with
        | some f => opndOK gl x X && plainA x && f.offset == off && agOK P f.type ag sz
        | none => false
      | _ => false
    | _ => false
  | .iarr n sz p i => match o.op with
    | .indexAddr t X I => match P.underlying t with
      | some (.array n' e) => opndOK gl p X && plainA p && opndOK gl i I && plainA i && n == n' && szOK P e sz
      | _ => false
    | _ => false
  | .iaddr _ sz x i => match o.op with
    | .indexAddr t X I => match P.underlying t with
      | some (.slice e) => opndOK gl x X && plainA x && opndOK gl i I && plainA i && szOK P e sz
      | _ => false
    | _ => false
  | .idxs x i => match o.op with
    | .index t X I => opndOK gl x X && plainA x && opndOK gl i I && plainA i && (match P.underlying t with | some .string => true | _ => false)
    | _ => false
  | .idxa ag n sz x i => match o.op with
    | .index t X I => match P.underlying t with
      | some (.array n' e) => opndOK gl x X && plainA x && opndOK gl i I && plainA i && n == n' && agOK P e ag sz
      | _ => false
    | _ => false
  | .look _ ag ks z ok m k => match o.op with
    | .lookup t X K ok' => match P.underlying t with
      | some (.map kt et) => match P.info? et with
        | some it => match it.zero with
          | some zv => decide (ok = ok') && opndOK gl m X && plainA m && opndOK gl k K && plainA k && mapKeyOK P kt ag ks && zvOK z zv
          | none => false
        | none => false
      | _ => false
    | _ => false
  | .mset _ ag ks m k x => match o.op with
    | .mapUpdate t X K Y => match P.underlying t with
      | some (.map kt _) => o.dst.isNone && opndOK gl m X && plainA m && opndOK gl k K && plainA k && opndOK gl x Y && plainA x && mapKeyOK P kt ag ks
      | _ => false
    | .insert t X K Y => match P.underlying t with
      | some (.map kt _) => o.dst.isNone && opndOK gl m X && plainA m && opndOK gl k K && plainA k && opndOK gl x Y && plainA x && mapKeyOK P kt ag ks
      | _ => false
    | _ => false
  | .ext i x => match o.op with
    | .extract X i' => i == i' && opndOK gl x X && plainA x
    | _ => false
  | .len kd _ x => match o.op with
    | .call { callee := .builtin .len, args, argTypes } => match args.toList, argTypes.toList with
      | [X], [t] => opndOK gl x X && plainA x && (match kd, P.underlying t with | 0, some (.slice _) => true | 1, some .string => true | 2, some (.map _ _) => true | _, _ => false)
      | _, _ => false
    | _ => false
  | .app sz bytes x y => match o.op with
    | .call { callee := .builtin .append, args, argTypes } => match args.toList, argTypes.toList with
      | [X, Y], [t, t'] => match P.underlying t with
        | some (.slice e) => match P.info? e with
          | some it => match it.zero with
            | some zv => t == t' && opndOK gl x X && opndOK gl y Y && once [x, y] && it.size == sz && it.bytes == bytes && zv.cells.size == sz
            | none => false
          | none => false
        | _ => false
      | _, _ => false
    | _ => false
  | .mx big xs => match o.op with
    | .call { callee := .builtin b, args, .. } => decide (b = if big then .max else .min) && opndsOK gl xs args.toList && xs.all plainA
    | _ => false
  | .call f xs => match o.op with
    | .call { callee := .value (.func f'), args, .. } => f == f' && opndsOK gl xs args.toList && once xs
    | _ => false
  | .callv f xs => match o.op with
    | .call { callee := .value F, args, .. } => opndOK gl f F && plainA f && opndsOK gl xs args.toList && once xs
    | _ => false

end Go.Vi
