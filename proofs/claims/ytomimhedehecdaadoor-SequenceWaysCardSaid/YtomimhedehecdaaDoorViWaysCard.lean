/- CLAIM: SequenceWays answers true for every input (its tied card). No condition. -/
import Derived.Test.YtomimhedehecdaaDoorViWays
import Derived.Test.YtomimhedehecdaaDoorViOkD
import Derived.Test.YtomimhedehecdaaDoorViTypP
import Derived.Test.YtomimhedehecdaaDoorViCardWays
set_option linter.unusedSimpArgs false
set_option linter.unusedVariables false
namespace Go.Proofs.YtomimhedehecdaaDoor
open Go.Vi Go.ViD

theorem sequenceWays_claim : Rows.SequenceWaysCardSaid := by
  refine sequenceWays_card fun vss hl hw => ?_
  match vss, hl with
  | [x, y, z], _ =>
    obtain ⟨p, rfl⟩ := t_plan (hw 0 25 x rfl rfl)
    obtain ⟨s, rfl⟩ := t_state (hw 1 27 y rfl rfl)
    obtain ⟨n, rfl⟩ := t_int (hw 2 3 z rfl rfl)
    simp only [List.zip_cons_cons, List.zip_nil_left, List.map_cons, List.map_nil]
    rw [arg_agg (t := 25) (by kernel_rfl), arg_agg (t := 27) (by kernel_rfl), arg_one (t := 3) (by kernel_rfl)]
    exact (env_good ViD.env_ok (ViD.pc_ways p s n)).1

end Go.Proofs.YtomimhedehecdaaDoor
