/- The seat's plain types: what has their form. -/
import Derived.Test.YtomimhedehecdaaDoorViTyped
import Derived.Test.YtomimhedehecdaaDoorViCard
import Derived.Test.YtomimhedehecdaaDoorViEqA
import Derived.Test.YtomimhedehecdaaDoorProg
import Derived.KernelRfl
namespace Go.ViD
open Go.Vi Go.Proofs

theorem c65 : Tryd.prog.cellsOf 65 = 2 := by kernel_rfl
theorem c3 : Tryd.prog.cellsOf 3 = 1 := by kernel_rfl

theorem t_int {x : List V} (h : WT Tryd.prog 3 x) : ∃ n, x = [I n] := by
  obtain ⟨n, rfl, -⟩ := wt_int Tryd.underlying3 h
  exact ⟨n, rfl⟩

theorem t_ints {x : List V} (h : WT Tryd.prog 31 x) : ∃ l : List Int, x = [.sl .s 1 (ints l)] := by
  obtain ⟨xs, rfl, -, hx⟩ := wt_sl Tryd.underlying31 h
  obtain ⟨l, rfl, -⟩ := forms (f := fun n => [I n]) (Q := fun _ => True) fun y hy => by
    obtain ⟨n, rfl⟩ := t_int (hx y hy)
    exact ⟨n, rfl, trivial⟩
  exact ⟨l, by rw [c3]⟩

/-- A struct's fields. -/
theorem t_struct2 {t a b : TypeId} {fs : Array Field} {x : List V} (hu : Tryd.prog.underlying t = some (.struct fs)) (hf : fs.toList.map (·.type) = [a, b]) (h : WT Tryd.prog t x) :
    ∃ p q, x = p ++ q ∧ WT Tryd.prog a p ∧ WT Tryd.prog b q := by
  obtain ⟨ps, rfl, hl, hp⟩ := wt_struct hu h
  obtain ⟨fl⟩ := fs
  match fl, hf, ps, hl with
  | [f0, f1], hf, [p, q], _ =>
    simp only [List.map_cons, List.map_nil, List.cons.injEq, and_true] at hf
    exact ⟨p, q, by simp, hf.1 ▸ hp 0 f0 p rfl rfl, hf.2 ▸ hp 1 f1 q rfl rfl⟩

theorem t_struct3 {t a b c : TypeId} {fs : Array Field} {x : List V} (hu : Tryd.prog.underlying t = some (.struct fs)) (hf : fs.toList.map (·.type) = [a, b, c]) (h : WT Tryd.prog t x) :
    ∃ p q r, x = p ++ (q ++ r) ∧ WT Tryd.prog a p ∧ WT Tryd.prog b q ∧ WT Tryd.prog c r := by
  obtain ⟨ps, rfl, hl, hp⟩ := wt_struct hu h
  obtain ⟨fl⟩ := fs
  match fl, hf, ps, hl with
  | [f0, f1, f2], hf, [p, q, r], _ =>
    simp only [List.map_cons, List.map_nil, List.cons.injEq, and_true] at hf
    exact ⟨p, q, r, by simp, hf.1 ▸ hp 0 f0 p rfl rfl, hf.2.1 ▸ hp 1 f1 q rfl rfl, hf.2.2 ▸ hp 2 f2 r rfl rfl⟩

theorem t_pair {t : TypeId} {fs : Array Field} {x : List V} (hu : Tryd.prog.underlying t = some (.struct fs)) (hf : fs.toList.map (·.type) = [3, 3]) (h : WT Tryd.prog t x) : ∃ a b, x = [I a, I b] := by
  obtain ⟨p, q, rfl, h1, h2⟩ := t_struct2 hu hf h
  obtain ⟨a, rfl⟩ := t_int h1
  obtain ⟨b, rfl⟩ := t_int h2
  exact ⟨a, b, rfl⟩

theorem arg_agg {t : TypeId} {x : List V} (h : aggT Tryd.prog t = true) : argV Tryd.prog t x = .agg x := by
  unfold argV; rw [if_pos h]

theorem arg_one {t : TypeId} {v : V} (h : aggT Tryd.prog t = false) : argV Tryd.prog t [v] = v := by
  unfold argV; rw [if_neg (by rw [h]; simp)]; rfl

end Go.ViD
