/- From a row's reading of its arguments to abstract values. -/
import Derived.Test.YtomimhedehecdaaDoorViSound4
import Derived.OpenShut
import Derived.ChangeArms
import Derived.WideShapes
import Derived.RowKit
namespace Go.Vi
open Go.ChangeShapes Go.WideShapes Go.RowKit

/-- All memory that is there. -/
def Old (w : World) : Stab := fun b _ => b < w.heap.size

/-- Cells of a type. -/
inductive WT (P : Program) : TypeId → List V → Prop
  | bool {t} (b : Bool) (h : P.underlying t = some .bool) : WT P t [.bool b]
  | int {t k} (n : Int) (h : P.underlying t = some (.int k)) (hw : (Lit.int k n).wf = true) : WT P t [.int k n]
  | str {t} (s : ByteArray) (h : P.underlying t = some .string) (hs : s.size ≤ maxLen) : WT P t [.str s]
  | sl {t e} (xs : List (List V)) (h : P.underlying t = some (.slice e)) (hl : xs.length ≤ maxLen) (hx : ∀ x ∈ xs, WT P e x) : WT P t [.sl .s (P.cellsOf e) xs]
  | struct {t fs} (parts : List (List V)) (h : P.underlying t = some (.struct fs)) (hl : parts.length = fs.size) (hx : ∀ (i : Nat) (f : Field) (x : List V), fs[i]? = some f → parts[i]? = some x → WT P f.type x) : WT P t parts.flatten
  | array {t n e} (parts : List (List V)) (h : P.underlying t = some (.array n e)) (hl : parts.length = n) (hx : ∀ x ∈ parts, WT P e x) : WT P t parts.flatten

/-- Fields one behind the other. -/
def placed (P : Program) : List Field → Nat → Nat → Bool
  | [], off, z => off == z
  | f :: fs, off, z => f.offset == off && placed P fs (off + P.cellsOf f.type) z

/-- Types of plain parts. -/
def flatT (P : Program) : Nat → TypeId → Bool
  | 0, _ => false
  | n + 1, t => match P.underlying t with
    | some .bool | some (.int _) | some .string => P.cellsOf t == 1
    | some (.slice e) => P.cellsOf t == 1 && decide (0 < P.cellsOf e) && flatT P n e
    | some (.struct fs) => placed P fs.toList 0 (P.cellsOf t) && fs.toList.all fun f => flatT P n f.type
    | some (.array k e) => P.cellsOf t == k * P.cellsOf e && flatT P n e
    | _ => false

variable {H : Type} {enc : TypeId × Value → H} {P : Program} {w : World} {spare : Nat → Bool} {held : Bool}

def Reads (w : World) (vs : List V) (cs : List Value) : Prop := vs.length = cs.length ∧ ∀ (i : Nat) (v : V) (c : Value), vs[i]? = some v → cs[i]? = some c → Rel w (Old w) v c []

theorem Reads.one {v : V} {c : Value} (h : Rel w (Old w) v c []) : Reads w [v] [c] :=
  ⟨rfl, fun i v' c' h1 h2 => by
    cases i with
    | zero => simp at h1 h2; subst h1 h2; exact h
    | succ i => simp at h1⟩

theorem Reads.append {vs us : List V} {cs ds : List Value} (h : Reads w vs cs) (h' : Reads w us ds) : Reads w (vs ++ us) (cs ++ ds) := by
  refine ⟨by simp [h.1, h'.1], fun i v c h1 h2 => ?_⟩
  rw [List.getElem?_append] at h1 h2
  rw [h.1] at h1
  split at h1
  · rename_i hi; rw [if_pos hi] at h2; exact h.2 i v c h1 h2
  · rename_i hi; rw [if_neg hi] at h2; exact h'.2 _ v c h1 h2

theorem some_list {α : Type} {Q : Nat → α → Prop} : ∀ n : Nat, (∀ i, i < n → ∃ x, Q i x) → ∃ xs : List α, xs.length = n ∧ ∀ (i : Nat) (x : α), xs[i]? = some x → Q i x
  | 0, _ => ⟨[], rfl, by simp⟩
  | n + 1, h => by
    obtain ⟨xs, hl, hx⟩ := some_list n fun i hi => h i (by omega)
    obtain ⟨y, hy⟩ := h n (by omega)
    refine ⟨xs ++ [y], by simp [hl], fun i x hi => ?_⟩
    rw [List.getElem?_append] at hi
    split at hi
    · exact hx i x hi
    · rename_i hge
      have h1 : i - xs.length = 0 := by
        have := (List.getElem?_eq_some_iff.1 hi).1
        simp at this; omega
      rw [h1] at hi
      simp at hi
      subst hi
      have : i = n := by omega
      subst this
      exact hy

theorem read_fields {z : Nat} : ∀ (fl : List Field) (off : Nat) (cs : List Value), placed P fl off z = true → cs.length = z →
    (∀ f ∈ fl, ∃ vs, WT P f.type vs ∧ Reads w vs ((cs.drop f.offset).take (P.cellsOf f.type)) ∧ ((cs.drop f.offset).take (P.cellsOf f.type)).length = P.cellsOf f.type) →
    ∃ parts : List (List V), parts.length = fl.length ∧ (∀ (i : Nat) (f : Field) (x : List V), fl[i]? = some f → parts[i]? = some x → WT P f.type x) ∧ Reads w parts.flatten (cs.drop off)
  | [], off, cs, hp, hl, _ => by
    simp only [placed, beq_iff_eq] at hp
    refine ⟨[], rfl, by simp, ?_⟩
    rw [List.drop_eq_nil_of_le (by omega)]
    exact ⟨rfl, by simp⟩
  | f :: fl, off, cs, hp, hl, h => by
    simp only [placed, Bool.and_eq_true, beq_iff_eq] at hp
    obtain ⟨ho, hp⟩ := hp
    obtain ⟨vs, h1, h2, h3⟩ := h f (by simp)
    obtain ⟨parts, g1, g2, g3⟩ := read_fields fl _ cs hp hl fun f' hf => h f' (List.mem_cons_of_mem _ hf)
    refine ⟨vs :: parts, by simp [g1], fun i f' x hf hx => ?_, ?_⟩
    · cases i with
      | zero => simp at hf hx; subst hf hx; exact h1
      | succ i => exact g2 i f' x (by simpa using hf) (by simpa using hx)
    · rw [ho] at h2
      have : cs.drop off = (cs.drop off).take (P.cellsOf f.type) ++ cs.drop (off + P.cellsOf f.type) := by
        rw [← List.drop_drop, List.take_append_drop]
      rw [List.flatten_cons, this]
      exact h2.append g3

theorem read_parts {e : TypeId} {n : Nat} {cs : List Value} (hl : cs.length = n * P.cellsOf e)
    (h : ∀ i, i < n → ∃ vs, WT P e vs ∧ Reads w vs ((cs.drop (i * P.cellsOf e)).take (P.cellsOf e))) :
    ∀ j, j ≤ n → ∃ parts : List (List V), parts.length = j ∧ (∀ x ∈ parts, WT P e x) ∧ Reads w parts.flatten (cs.drop ((n - j) * P.cellsOf e))
  | 0, _ => by
    refine ⟨[], rfl, by simp, ?_⟩
    rw [List.drop_eq_nil_of_le (by simp [hl])]
    exact ⟨rfl, by simp⟩
  | j + 1, hj => by
    obtain ⟨parts, g1, g2, g3⟩ := read_parts hl h j (by omega)
    obtain ⟨vs, h1, h2⟩ := h (n - (j + 1)) (by omega)
    refine ⟨vs :: parts, by simp [g1], fun x hx => ?_, ?_⟩
    · rcases List.mem_cons.1 hx with rfl | hx
      · exact h1
      · exact g2 x hx
    · have e1 : (n - j) * P.cellsOf e = (n - (j + 1)) * P.cellsOf e + P.cellsOf e := by
        have : n - j = (n - (j + 1)) + 1 := by omega
        rw [this, Nat.add_mul, Nat.one_mul]
      have : cs.drop ((n - (j + 1)) * P.cellsOf e) = (cs.drop ((n - (j + 1)) * P.cellsOf e)).take (P.cellsOf e) ++ cs.drop ((n - j) * P.cellsOf e) := by
        rw [e1, ← List.drop_drop, List.take_append_drop]
      rw [List.flatten_cons, this]
      exact h2.append g3

theorem cell_lt {a : Addr} {v : Value} (h : w.cell? a = some v) : a.block < w.heap.size ∧ a.spot = none := by
  unfold World.cell? at h
  split at h
  · rename_i hb
    refine ⟨(Array.getElem?_eq_some_iff.1 hb).1, ?_⟩
    split at h
    · cases h
    · rename_i hs
      cases hsp : a.spot with
      | none => rfl
      | some s => simp [hsp] at hs
  · cases h

/-- What is read has the type's form. -/
theorem read_wt : ∀ (n : Nat) (t : TypeId), flatT P n t = true → ∀ (m : Nat) (cs : List Value) (x : DataW H × List MemPlace), DataW.trod enc P w 0 spare held m t cs = some x → ∃ vs, WT P t vs ∧ Reads w vs cs ∧ cs.length = P.cellsOf t
  | 0, t, hf, _, _, _, _ => by cases hf
  | n + 1, t, hf, m, cs, x, h => by
    unfold flatT at hf
    split at hf
    · rename_i hu
      simp only [beq_iff_eq] at hf
      obtain ⟨b, rfl, -⟩ := DataW.trod_bool hu h
      exact ⟨_, .bool _ hu, .one (.bool _), hf.symm⟩
    · rename_i k hu
      simp only [beq_iff_eq] at hf
      obtain ⟨i, rfl, -, hw⟩ := DataW.trod_int hu h
      exact ⟨_, .int _ hu hw, .one (.int _ _), hf.symm⟩
    · rename_i hu
      simp only [beq_iff_eq] at hf
      obtain ⟨s, rfl, -, hs⟩ := DataW.trod_string hu h
      exact ⟨_, .str _ hu hs, .one (.str _), hf.symm⟩
    · rename_i e hu
      simp only [Bool.and_eq_true, beq_iff_eq, decide_eq_true_eq] at hf
      obtain ⟨⟨h1, hpos⟩, hfe⟩ := hf
      rcases DataW.trod_slice hu h with ⟨rfl, -⟩ | ⟨a, len, cap, elems, rest, m', -, rfl, -, -, hlc, hcm, hlen, hel, -, -⟩
      · exact ⟨_, .sl [] hu (by simp) (by simp), .one (.sl0 _ _ _), h1.symm⟩
      · have hone : ∀ i, i < len → ∃ vs, WT P e vs ∧ ∃ ci, w.cells? 0 (a.add (i * P.cellsOf e)) (P.cellsOf e) = some ci ∧ Reads w vs ci := fun i hi => by
          have h2 := hel i hi
          rw [List.getElem?_eq_getElem (by omega)] at h2
          obtain ⟨ci, h3, h4⟩ := Option.bind_eq_some_iff.1 h2
          obtain ⟨vs, g1, g2, -⟩ := read_wt n e hfe _ _ _ h4
          exact ⟨vs, g1, ci, h3, g2⟩
        obtain ⟨xs, hxl, hxs⟩ := some_list len hone
        have hget : ∀ i, i < len → ∃ x, xs[i]? = some x := fun i hi => ⟨_, List.getElem?_eq_getElem (by omega)⟩
        have hz : ∀ (i : Nat) (x : List V), xs[i]? = some x → x.length = P.cellsOf e := fun i x hx => by
          obtain ⟨-, ci, h3, h4⟩ := hxs i x hx
          rw [h4.1, (World.cells?_some h3).2.1]
        have hsp : 0 < len → a.spot = none := fun h0 => by
          obtain ⟨x, hx⟩ := hget 0 h0
          obtain ⟨-, ci, h3, h4⟩ := hxs 0 x hx
          obtain ⟨-, h5, h6⟩ := World.cells?_some h3
          have h7 := h6 0 hpos
          rw [List.getElem?_eq_getElem (by omega)] at h7
          simp only [Nat.zero_mul, Addr.add, if_true] at h7
          exact (cell_lt h7).2
        have hcell : ∀ (i : Nat) (x : List V) (j : Nat) (y : V), xs[i]? = some x → x[j]? = some y → ∃ u, w.cell? ⟨a.block, a.off + (i * P.cellsOf e + j), none⟩ = some u ∧ Rel w (Old w) y u [] := fun i x j y hx hy => by
          obtain ⟨-, ci, h3, h4⟩ := hxs i x hx
          obtain ⟨-, h5, h6⟩ := World.cells?_some h3
          have hj : j < P.cellsOf e := by rw [← hz i x hx]; exact (List.getElem?_eq_some_iff.1 hy).1
          have hi : i < len := by rw [← hxl]; exact (List.getElem?_eq_some_iff.1 hx).1
          have h7 := h6 j hj
          have hci : ci[j]? = some (ci[j]'(by omega)) := List.getElem?_eq_getElem (by omega)
          refine ⟨ci[j]'(by omega), ?_, h4.2 j y _ hy hci⟩
          rw [← hci, ← h7]
          have hs := hsp (by omega)
          congr 1
          unfold Addr.add
          by_cases hiz : i * P.cellsOf e = 0
          · by_cases hj0 : j = 0
            · simp [hiz, hj0, ← hs]
            · simp [hiz, hj0]
          · by_cases hj0 : j = 0
            · simp [hiz, hj0]
            · simp [hiz, hj0, Nat.add_assoc]
        refine ⟨_, .sl xs hu (by omega) (fun x hx => ?_), .one ?_, h1.symm⟩
        · obtain ⟨i, hi⟩ := List.mem_iff_getElem?.1 hx
          exact (hxs i x hi).1
        · refine .sls _ xs (some a) len cap (fun i j => (w.cell? ⟨a.block, a.off + (i * P.cellsOf e + j), none⟩).getD Go.undef) hxl.symm hlc hz (fun h0 => ?_) fun i x j y hx hy => ?_
          · refine ⟨a.block, a.off, ?_, fun i j hi hj => ?_⟩
            · have := hsp (by omega)
              cases a; simp_all
            · obtain ⟨x, hx⟩ := hget i (by omega)
              have hxz := hz i x hx
              obtain ⟨u, h3, -⟩ := hcell i x j (x[j]'(by omega)) hx (List.getElem?_eq_getElem (by omega))
              exact ⟨(cell_lt h3).1, by rw [h3]; rfl⟩
          · obtain ⟨u, h3, h4⟩ := hcell i x j y hx hy
            rw [h3]; exact h4
    · rename_i fs hu
      simp only [Bool.and_eq_true, List.all_eq_true] at hf
      obtain ⟨hp, hfe⟩ := hf
      obtain ⟨xs, m', -, -, hcl, hxl, hxs⟩ := DataW.trod_struct hu h
      obtain ⟨parts, g1, g2, g3⟩ := read_fields fs.toList 0 cs hp hcl fun f hf => by
        obtain ⟨i, hi⟩ := List.mem_iff_getElem?.1 hf
        have h2 := hxs i f (by simpa using hi)
        have hlt : i < fs.size := by
          have := (List.getElem?_eq_some_iff.1 hi).1
          simpa using this
        rw [List.getElem?_eq_getElem (by omega)] at h2
        exact read_wt n f.type (hfe f hf) _ _ _ h2
      exact ⟨parts.flatten, .struct parts hu (by simpa using g1) (fun i f x hf hx => g2 i f x (by simpa using hf) hx), by simpa using g3, hcl⟩
    · rename_i k e hu
      simp only [Bool.and_eq_true, beq_iff_eq] at hf
      obtain ⟨hz, hfe⟩ := hf
      obtain ⟨xs, m', -, -, hcl, hxl, hxs⟩ := DataW.trod_array hu h
      obtain ⟨parts, g1, g2, g3⟩ := read_parts (w := w) (P := P) (e := e) (n := k) (cs := cs) (by rw [hcl, hz]) (fun i hi => by
        have h2 := hxs i hi
        rw [List.getElem?_eq_getElem (by omega)] at h2
        obtain ⟨vs, a1, a2, -⟩ := read_wt n e hfe _ _ _ h2
        exact ⟨vs, a1, a2⟩) k (Nat.le_refl _)
      exact ⟨parts.flatten, .array parts hu g1 g2, by simpa using g3, hcl⟩
    · cases hf

/-- A struct or an array that is read. -/
theorem Reads.agg {vs : List V} {cs : Array Value} (h : Reads w vs cs.toList) : Rel w (Old w) (.agg vs) (.agg cs) [] :=
  .agg vs cs (by simpa using h.1) fun i c v h1 h2 => h.2 i c v h1 (by simpa using h2)

theorem Reads.cell {v : V} {c : Value} (h : Reads w [v] [c]) : Rel w (Old w) v c [] := h.2 0 v c rfl rfl

/-- An argument: its parts, and what it says of the real one. -/
theorem read_arg {n : Nat} {t : TypeId} {v : Value} {d : DataW H} {ps : List MemPlace} {r : Reach} {base : Nat} (hf : flatT P n t = true) (h : DataW.Trod enc P w 0 spare held t v d ps) (ho : Value.okWide P w r base t v) :
    ∃ vs, WT P t vs ∧ ∃ x, Rel w (Old w) x v [] ∧ (if aggT P t then x = .agg vs else vs = [x]) := by
  obtain ⟨m, hm⟩ := h
  obtain ⟨vs, h1, h2, h3⟩ := read_wt n t hf m _ _ hm
  refine ⟨vs, h1, ?_⟩
  by_cases ha : aggT P t = true
  · simp only [if_pos ha]
    have : ∃ cs, v = .agg cs := by
      unfold Value.okWide at ho
      unfold aggT at ha
      split at ha
      · rename_i hu; rw [hu] at ho; obtain ⟨cs, e, -⟩ := ho; exact ⟨cs, e⟩
      · rename_i hu; rw [hu] at ho; obtain ⟨cs, e, -⟩ := ho; exact ⟨cs, e⟩
      · cases ha
    obtain ⟨cs, rfl⟩ := this
    exact ⟨.agg vs, h2.agg, rfl⟩
  · simp only [if_neg ha]
    have one : ∃ x, vs = [x] := by
      cases h1 with
      | bool b hu => exact ⟨_, rfl⟩
      | int n hu => exact ⟨_, rfl⟩
      | str s hu => exact ⟨_, rfl⟩
      | sl xs hu => exact ⟨_, rfl⟩
      | struct parts hu => simp [aggT, hu] at ha
      | array parts hu => simp [aggT, hu] at ha
    obtain ⟨x, rfl⟩ := one
    refine ⟨x, ?_, rfl⟩
    have hl : v.cells.toList.length = 1 := by rw [← h2.1]; rfl
    have hv : v.cells.toList = [v] := by
      generalize hq : [x] = q at h1
      cases h1 with
      | struct parts hu => simp [aggT, hu] at ha
      | array parts hu => simp [aggT, hu] at ha
      | bool b hu => obtain ⟨b, rfl⟩ := okWide_bool hu ho; rfl
      | int n hu => obtain ⟨b, rfl⟩ := okWide_int hu ho; rfl
      | str s hu => obtain ⟨b, rfl⟩ := okWide_string hu ho; rfl
      | sl xs hu => obtain ⟨_, _, _, rfl⟩ := okWide_slice hu ho; rfl
    rw [hv] at h2
    exact h2.cell

end Go.Vi
