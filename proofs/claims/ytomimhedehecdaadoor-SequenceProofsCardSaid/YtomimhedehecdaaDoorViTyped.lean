/- What has a type's form, taken apart. -/
import Derived.Test.YtomimhedehecdaaDoorViRead
namespace Go.Vi
variable {P : Program} {t e : TypeId} {x : List V} {k : IntKind} {fs : Array Field} {n : Nat}

theorem wt_int (h : P.underlying t = some (.int k)) (hx : WT P t x) : ∃ n, x = [.int k n] ∧ (Lit.int k n).wf = true := by
  cases hx with
  | int n h' hw => rw [h] at h'; cases h'; exact ⟨n, rfl, hw⟩
  | bool b h' => rw [h] at h'; cases h'
  | str s h' => rw [h] at h'; cases h'
  | sl xs h' => rw [h] at h'; cases h'
  | struct ps h' => rw [h] at h'; cases h'
  | array ps h' => rw [h] at h'; cases h'

theorem wt_bool (h : P.underlying t = some .bool) (hx : WT P t x) : ∃ b, x = [.bool b] := by
  cases hx with
  | bool b h' => exact ⟨b, rfl⟩
  | int n h' hw => rw [h] at h'; cases h'
  | str s h' => rw [h] at h'; cases h'
  | sl xs h' => rw [h] at h'; cases h'
  | struct ps h' => rw [h] at h'; cases h'
  | array ps h' => rw [h] at h'; cases h'

theorem wt_str (h : P.underlying t = some .string) (hx : WT P t x) : ∃ s, x = [.str s] ∧ s.size ≤ maxLen := by
  cases hx with
  | str s h' hs => exact ⟨s, rfl, hs⟩
  | bool b h' => rw [h] at h'; cases h'
  | int n h' hw => rw [h] at h'; cases h'
  | sl xs h' => rw [h] at h'; cases h'
  | struct ps h' => rw [h] at h'; cases h'
  | array ps h' => rw [h] at h'; cases h'

theorem wt_sl (h : P.underlying t = some (.slice e)) (hx : WT P t x) : ∃ xs, x = [.sl .s (P.cellsOf e) xs] ∧ xs.length ≤ maxLen ∧ ∀ y ∈ xs, WT P e y := by
  cases hx with
  | sl xs h' hl hy => rw [h] at h'; cases h'; exact ⟨xs, rfl, hl, hy⟩
  | bool b h' => rw [h] at h'; cases h'
  | int n h' hw => rw [h] at h'; cases h'
  | str s h' => rw [h] at h'; cases h'
  | struct ps h' => rw [h] at h'; cases h'
  | array ps h' => rw [h] at h'; cases h'

theorem wt_struct (h : P.underlying t = some (.struct fs)) (hx : WT P t x) : ∃ ps : List (List V), x = ps.flatten ∧ ps.length = fs.size ∧ ∀ (i : Nat) (f : Field) (y : List V), fs[i]? = some f → ps[i]? = some y → WT P f.type y := by
  cases hx with
  | struct ps h' hl hy => rw [h] at h'; cases h'; exact ⟨ps, rfl, hl, hy⟩
  | bool b h' => rw [h] at h'; cases h'
  | int n h' hw => rw [h] at h'; cases h'
  | str s h' => rw [h] at h'; cases h'
  | sl xs h' => rw [h] at h'; cases h'
  | array ps h' => rw [h] at h'; cases h'

theorem wt_array (h : P.underlying t = some (.array n e)) (hx : WT P t x) : ∃ ps : List (List V), x = ps.flatten ∧ ps.length = n ∧ ∀ y ∈ ps, WT P e y := by
  cases hx with
  | array ps h' hl hy => rw [h] at h'; cases h'; exact ⟨ps, rfl, hl, hy⟩
  | bool b h' => rw [h] at h'; cases h'
  | int n h' hw => rw [h] at h'; cases h'
  | str s h' => rw [h] at h'; cases h'
  | sl xs h' => rw [h] at h'; cases h'
  | struct ps h' => rw [h] at h'; cases h'

/-- A list's elements, each of a form. -/
theorem forms {α : Type} {f : α → List V} {Q : α → Prop} : ∀ {ys : List (List V)}, (∀ y ∈ ys, ∃ a, y = f a ∧ Q a) → ∃ l : List α, ys = l.map f ∧ ∀ a ∈ l, Q a
  | [], _ => ⟨[], rfl, by simp⟩
  | y :: ys, h => by
    obtain ⟨l, rfl, hl⟩ := forms fun y' hy => h y' (List.mem_cons_of_mem _ hy)
    obtain ⟨a, rfl, ha⟩ := h y List.mem_cons_self
    exact ⟨a :: l, rfl, fun b hb => by
      rcases List.mem_cons.1 hb with rfl | hb
      · exact ha
      · exact hl b hb⟩

end Go.Vi
