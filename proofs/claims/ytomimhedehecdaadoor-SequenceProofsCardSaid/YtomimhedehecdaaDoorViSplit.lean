/- Splitting at a condition that is not known. -/
import Derived.Test.YtomimhedehecdaaDoorViWalkV
set_option linter.unusedSimpArgs false
set_option linter.unusedVariables false
namespace Go.Vi
section
variable {call : FuncId → List V → Option V} {a b w : Bool} {dst : Option Nat} {op : MOp} {st : St} {os : List MO} {t : List Todo} {k : Ex → St → Option V} {r : Option V} {x y : M}

theorem split_guard (h1 : b = true → guardU call (.bool b) w dst op st os t k = r) (h2 : b = false → guardU call (.bool b) w dst op st os t k = r) : guardU call (.bool b) w dst op st os t k = r := by
  cases b
  · exact h2 rfl
  · exact h1 rfl
theorem split_guardN (h1 : b = true → guardU call (.bool !b) w dst op st os t k = r) (h2 : b = false → guardU call (.bool !b) w dst op st os t k = r) : guardU call (.bool !b) w dst op st os t k = r := by
  cases b
  · exact h2 rfl
  · exact h1 rfl
theorem split_guardA (h1 : a = true → guardU call (.bool (a && b)) w dst op st os t k = r) (h2 : a = false → guardU call (.bool (a && b)) w dst op st os t k = r) : guardU call (.bool (a && b)) w dst op st os t k = r := by
  cases a
  · exact h2 rfl
  · exact h1 rfl
theorem split_guardO (h1 : a = true → guardU call (.bool (a || b)) w dst op st os t k = r) (h2 : a = false → guardU call (.bool (a || b)) w dst op st os t k = r) : guardU call (.bool (a || b)) w dst op st os t k = r := by
  cases a
  · exact h2 rfl
  · exact h1 rfl
theorem split_cond (h1 : b = true → condU call (.bool b) x y t st k = r) (h2 : b = false → condU call (.bool b) x y t st k = r) : condU call (.bool b) x y t st k = r := by
  cases b
  · exact h2 rfl
  · exact h1 rfl
theorem split_condN (h1 : b = true → condU call (.bool !b) x y t st k = r) (h2 : b = false → condU call (.bool !b) x y t st k = r) : condU call (.bool !b) x y t st k = r := by
  cases b
  · exact h2 rfl
  · exact h1 rfl
theorem split_condA (h1 : a = true → condU call (.bool (a && b)) x y t st k = r) (h2 : a = false → condU call (.bool (a && b)) x y t st k = r) : condU call (.bool (a && b)) x y t st k = r := by
  cases a
  · exact h2 rfl
  · exact h1 rfl
theorem split_condO (h1 : a = true → condU call (.bool (a || b)) x y t st k = r) (h2 : a = false → condU call (.bool (a || b)) x y t st k = r) : condU call (.bool (a || b)) x y t st k = r := by
  cases a
  · exact h2 rfl
  · exact h1 rfl
theorem zero_cases {c : Prop} (v : Int) (h1 : v = 0 → (v != 0) = false → (v == 0) = true → c) (h2 : ¬ v = 0 → (v != 0) = true → (v == 0) = false → c) : c := by
  by_cases h : v = 0
  · exact h1 h (by simp [h]) (by simp [h])
  · exact h2 h (by simp [h]) (by simp [h])
theorem split_guardE {v : Int} (h1 : v = 0 → (v != 0) = false → (v == 0) = true → guardU call (.bool (v != 0)) w dst op st os t k = r) (h2 : ¬ v = 0 → (v != 0) = true → (v == 0) = false → guardU call (.bool (v != 0)) w dst op st os t k = r) : guardU call (.bool (v != 0)) w dst op st os t k = r := zero_cases v h1 h2
theorem split_condE {v : Int} (h1 : v = 0 → (v != 0) = false → (v == 0) = true → condU call (.bool (v != 0)) x y t st k = r) (h2 : ¬ v = 0 → (v != 0) = true → (v == 0) = false → condU call (.bool (v != 0)) x y t st k = r) : condU call (.bool (v != 0)) x y t st k = r := zero_cases v h1 h2
end

end Go.Vi
