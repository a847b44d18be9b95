/- A nil test, a string's bytes, an array's slice. -/
import Derived.Test.YtomimhedehecdaaDoorViOps8
import Derived.Laws.IdiomStrings
namespace Go.Vi
variable {c : Ctx} {g : G} {st st' : St} {a : Act} {w : World} {hs : List Hv}

theorem Rel.abool_inv {S : Stab} {r : Value} {o : List Nat} (h : Rel w S .abool r o) : ∃ b, r = .bool b := by
  generalize hv : V.abool = v at h
  cases h with
  | abool b => exact ⟨b, rfl⟩
  | _ => cases hv

theorem snd_isnil {o : Oper} {neg : Bool} {t t' e : TypeId} {x : A} {X : Operand} {v : V} {call : FuncId → List V → Option V} (h : FInv c g st a w) (ho : o.op = .binOp (if neg then .neq else .eql) t X (.const (.slice none 0 0)) t') (hx : opndOK c.gl x X = true) (px : plainA x = true)
    (hu : c.P.underlying t = some (.slice e)) (hv : exec call (.isnil neg x) st = some (v, st')) : Out c o a w st' v := by
  simp only [exec] at hv
  have hr := opnd h hx px
  generalize st.val x = xv at hr hv
  have hrun : ∀ (ad : Option Addr) (n cc : Nat), a.eval X = .slice ad n cc → (execOp a.eval o).run c.P w = .ok (.value (.bool (if neg then !ad.isNone else ad.isNone))) w := by
    intro ad n cc hX
    have he : (Op.equal t (.slice ad n cc) (.slice none 0 0)).run c.P w = .ok ad.isNone w := by
      have hd : Op.maxDepth = 9999 + 1 := rfl
      unfold Op.equal
      rw [hd]
      generalize 9999 = dd
      cases ad <;> simp [Op.equalIn, run_underlying hu]
    have hY : a.eval (.const (.slice none 0 0)) = .slice none 0 0 := rfl
    cases neg with
    | false => simp [execOp, ho, hX, hY, eqGuard_at_slice, binOp, he]
    | true => simp [execOp, ho, hX, hY, eqGuard_at_slice, binOp, he]
  split at hv
  · rename_i ow sz
    cases hv
    obtain ⟨ad, n, cc, hX, -⟩ := Rel.sl_inv (show Rel w g.S (.sl ow sz []) (a.eval X) [] from hr)
    exact Out.pureR h (.abool _) (hrun ad n cc hX)
  · rename_i ow sz xs hne
    cases hv
    have hpos : 0 < xs.length := by
      cases xs with
      | nil => exact absurd rfl hne
      | cons => simp
    have hsome : ∃ A n cc, a.eval X = .slice (some A) n cc := by
      have h1 : Rel w g.S (.sl ow sz xs) (a.eval X) [] := hr
      cases ow with
      | s =>
        obtain ⟨-, ad, n, cc, f, hX, -, -, -, ha, -⟩ := Rel.sls_inv h1
        obtain ⟨b, off, rfl, -⟩ := ha hpos
        exact ⟨_, _, _, hX⟩
      | a =>
        rcases h1.slo_inv (by simp) with ⟨rfl, -⟩ | ⟨b, off, cc, f, C, e', hX, -⟩
        · simp at hpos
        · exact ⟨_, _, _, hX⟩
      | x =>
        rcases h1.slo_inv (by simp) with ⟨rfl, -⟩ | ⟨b, off, cc, f, C, e', hX, -⟩
        · simp at hpos
        · exact ⟨_, _, _, hX⟩
    obtain ⟨A, n, cc, hX⟩ := hsome
    have := hrun (some A) n cc hX
    cases neg
    · exact Out.pureR h (.bool _) (by simpa using this)
    · exact Out.pureR h (.bool _) (by simpa using this)
  · cases hv

theorem snd_bytes {o : Oper} {s d e : TypeId} {x : A} {X : Operand} {v : V} {call : FuncId → List V → Option V} (h : FInv c g st a w) (ho : o.op = .convert s d X) (hx : opndOK c.gl x X = true) (px : plainA x = true)
    (hs : c.P.underlying s = some .string) (hd : c.P.underlying d = some (.slice e)) (he : c.P.underlying e = some (.int .u8)) (hv : exec call (.bytes x) st = some (v, st')) : Out c o a w st' v := by
  simp only [exec] at hv
  split at hv
  · rename_i bs e1
    split at hv
    · rename_i hsz
      cases hv
      have hX := opnd_str h hx px e1
      have hrun := run_bytes_of_string (P := c.P) w s d e bs hs hd he
      have hge := grownCap_ge w bs.size 0 e
      generalize grownCap w bs.size 0 e = cap at hrun hge
      generalize hob : Obj.cells (bytesRow bs cap) e ((bytesRow bs cap).size, (bytesRow bs cap).size + 1) = ob at hrun
      have hcell : ∀ j, j < bs.size → (w.drew.alloc ob).cell? ⟨w.heap.size, 0 + (j * 1 + 0), none⟩ = some (.int .u8 (bs.data.toList.getD j 0).toNat) := by
        intro j hj
        have hh : (w.drew.alloc ob).heap[w.heap.size]? = some ob := heap_alloc_new w.drew ob
        have hj' : j < bs.data.size := hj
        simp only [World.cell?, hh]
        rw [← hob]
        simp only [bytesRow, Array.getElem?_append, Array.size_map, Nat.zero_add, Nat.mul_one, Nat.add_zero]
        rw [if_pos hj', Array.getElem?_map, Array.getElem?_eq_getElem hj']
        simp [List.getD_eq_getElem?_getD, Array.getElem?_eq_getElem hj']
      let S' : Stab := fun b k => g.S b k ∨ (b = w.heap.size ∧ k < bs.size)
      have hkeep : Keep g.S w (w.drew.alloc ob) := Keep.of_heap fun b k hs' => heap_alloc_old w.drew ob b (h.lt b k hs')
      have hinv := h.world (w.drew.alloc ob) S' hkeep (fun _ _ h => .inl h) (fun t b hb => ⟨heap_alloc_old w.drew ob b (h.fO t b hb).2, fun k hs' => hs'.resolve_right fun h2 => Nat.lt_irrefl _ (h2.1 ▸ (h.fO t b hb).2)⟩)
        (fun t b hb => ⟨heap_alloc_old w.drew ob b (h.fB t b hb).2, fun k hs' => hs'.resolve_right fun h2 => Nat.lt_irrefl _ (h2.1 ▸ (h.fB t b hb).2)⟩)
        ⟨rfl, rfl, rfl, by simp, fun b h1 _ => heap_alloc_old w.drew ob b (Nat.lt_of_lt_of_le h1 h.hB)⟩
        (fun b k hs' => hs'.imp_right fun h2 => .inl (by rw [h2.1]; exact h.hB)) (fun b k hs' => by
          rcases hs' with h1 | h1
          · have := h.lt b k h1
            show b < (w.heap.push ob).size
            simp; omega
          · show b < (w.heap.push ob).size
            rw [h1.1]; simp)
      refine .inl ⟨.slice (some ⟨w.heap.size, 0, none⟩) bs.size cap, w.drew.alloc ob, by simp [execOp, ho, hX, hrun], _, [], (Held.nil hinv).push0 (.of_rel ?_)⟩
      refine .sls 1 _ _ bs.size cap (fun i _ => .int .u8 (bs.data.toList.getD i 0).toNat) (by simp only [List.length_map, Array.length_toList]; rfl) hge (fun i y hy => ?_) (fun _ => ⟨w.heap.size, 0, rfl, fun i j hi hj => ?_⟩) (fun i y j u hy hu => ?_)
      · simp only [List.getElem?_map, Option.map_eq_some_iff] at hy
        obtain ⟨b, -, rfl⟩ := hy
        rfl
      · have hi' : i < bs.size := by simp only [List.length_map, Array.length_toList] at hi; exact hi
        have : j = 0 := by omega
        subst this
        exact ⟨.inr ⟨rfl, by omega⟩, hcell i hi'⟩
      · simp only [List.getElem?_map, Option.map_eq_some_iff] at hy
        obtain ⟨b, hb, rfl⟩ := hy
        cases j with
        | zero =>
          simp at hu
          subst hu
          have : bs.data.toList.getD i 0 = b := by simp [List.getD_eq_getElem?_getD, hb]
          rw [this]
          exact .int _ _
        | succ j => simp at hu
    · cases hv
  · cases hv

theorem rowsCut_get {n sz i : Nat} {cs x : List V} (hl : cs.length = n * sz) (h : (rowsCut n sz cs)[i]? = some x) : i < n ∧ x.length = sz ∧ ∀ j, x[j]? = if j < sz then cs[i * sz + j]? else none := by
  simp only [rowsCut, List.getElem?_map, Option.map_eq_some_iff] at h
  obtain ⟨k, hk, rfl⟩ := h
  obtain ⟨hlt, rfl⟩ := List.getElem?_eq_some_iff.1 hk
  simp only [List.length_range] at hlt
  simp only [List.getElem_range]
  have h1 : (i + 1) * sz ≤ n * sz := Nat.mul_le_mul_right _ hlt
  rw [Nat.add_mul, Nat.one_mul] at h1
  refine ⟨hlt, by simp; omega, fun j => ?_⟩
  rw [List.getElem?_take]
  split
  · rw [List.getElem?_drop]
  · rfl

theorem snd_slarr {o : Oper} {root : Root} {n sz : Nat} {t e : TypeId} {p : A} {X : Operand} {v : V} {call : FuncId → List V → Option V} (h : FInv c g st a w) (ho : o.op = .slice t X none none none) (hx : opndOK c.gl p X = true) (pp : plainA p = true)
    (hu : c.P.underlying t = some (.array n e)) (hz : (c.P.info? e).map (·.size) = some sz) (hv : exec call (.slarr root n sz p) st = some (v, st')) : Out c o a w st' v := by
  simp only [exec] at hv
  obtain ⟨ob, hr⟩ := opndRaw h hx pp
  have fin : ∀ cs, cs.length = n * sz → (∃ o', Rel w g.S (.ptr cs 0) (a.eval X) o') → Out c o a w st (.sl .s sz (rowsCut n sz cs)) := by
    rintro cs hl ⟨o', hp⟩
    obtain ⟨-, b, o0, f, hX, hc, hrel⟩ := hp.ptr_inv
    have hb0 : ∀ (m : Nat), m - 0 = m := fun m => Nat.sub_zero m
    refine Out.pureR h (rv := .slice (some ⟨b, o0, none⟩) n n) ?_ ?_
    · refine .sls sz _ _ n n (fun i j => f (i * sz + j)) (by simp [rowsCut]) (Nat.le_refl _) (fun i x hi => (rowsCut_get hl hi).2.1) (fun h0 => ⟨b, o0, rfl, fun i j hi hj => ?_⟩) fun i x j y hi hj => ?_
      · have hi' : i < n := by simpa [rowsCut] using hi
        have h1 : (i + 1) * sz ≤ n * sz := Nat.mul_le_mul_right _ hi'
        rw [Nat.add_mul, Nat.one_mul] at h1
        exact hc _ (by omega)
      · obtain ⟨-, -, h2⟩ := rowsCut_get hl hi
        rw [h2] at hj
        split at hj
        · exact hrel _ y hj
        · cases hj
    · simp [execOp, ho, Instr.sliceAt, run_underlying hu, Instr.sureAddr, hX, Instr.sliceBounds, run_sizeOf' w hz, Addr.add_lit]
  generalize hraw : st.raw p = pv at hr hv
  split at hv
  · rename_i cs
    split at hv
    · rename_i hl
      cases hv
      exact fin cs hl ⟨ob, hr⟩
    · cases hv
  · rename_i d
    split at hv
    · split at hv
      · rename_i cs hb
        split at hv
        · rename_i hl
          cases hv
          obtain ⟨-, h2⟩ := h.bxt d cs hb
          exact fin cs hl ⟨[], by rw [hr.2]; exact h2⟩
        · cases hv
      · cases hv
    · cases hv
  · cases hv

end Go.Vi
