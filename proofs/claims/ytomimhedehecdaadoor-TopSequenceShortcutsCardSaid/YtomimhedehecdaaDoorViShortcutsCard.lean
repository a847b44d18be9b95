/- CLAIM: TopSequenceShortcuts answers true for every input (its tied card). No condition. -/
import Derived.Test.YtomimhedehecdaaDoorViShortcutsB
import Derived.Test.YtomimhedehecdaaDoorViOkD
import Derived.Test.YtomimhedehecdaaDoorViTypP
import Derived.Test.YtomimhedehecdaaDoorViCardShortcuts
set_option linter.unusedSimpArgs false
set_option linter.unusedVariables false
namespace Go.Proofs.YtomimhedehecdaaDoor
open Go.Vi Go.ViD

theorem t_two {x : List V} (h : WT Tryd.prog 105 x) : ∃ a b : Int, x = [I a, I b] := by
  obtain ⟨ps, rfl, hp, hy⟩ := wt_array (P := Tryd.prog) Tryd.underlying105 h
  obtain ⟨l, rfl, -⟩ := forms (f := fun n => [V.int .i64 n]) (Q := fun _ => True) fun y hm => by
    obtain ⟨n, e, -⟩ := wt_int (P := Tryd.prog) Tryd.underlying3 (hy y hm)
    exact ⟨n, e, trivial⟩
  match l, hp with
  | [a, b], _ => exact ⟨a, b, rfl⟩

theorem topSequenceShortcuts_claim : Rows.TopSequenceShortcutsCardSaid := by
  refine topSequenceShortcuts_card fun vss hl hw => ?_
  match vss, hl with
  | [x, y, z], _ =>
    obtain ⟨p, rfl⟩ := t_plan (hw 0 25 x rfl rfl)
    obtain ⟨s, rfl⟩ := t_state (hw 1 27 y rfl rfl)
    obtain ⟨a, b, rfl⟩ := t_two (hw 2 105 z rfl rfl)
    simp only [List.zip_cons_cons, List.zip_nil_left, List.map_cons, List.map_nil]
    rw [arg_agg (t := 25) (by kernel_rfl), arg_agg (t := 27) (by kernel_rfl), arg_agg (t := 105) (by kernel_rfl)]
    exact (env_good ViD.env_ok (ViD.pc_shortcuts p s a b)).1

end Go.Proofs.YtomimhedehecdaaDoor
