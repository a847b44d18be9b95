/- CLAIM: SequenceHalls answers true for every input (its tied card). No condition. -/
import Derived.Test.YtomimhedehecdaaDoorViHallsL
import Derived.Test.YtomimhedehecdaaDoorViOkD
import Derived.Test.YtomimhedehecdaaDoorViTypD
import Derived.Test.YtomimhedehecdaaDoorViCardHalls
set_option linter.unusedSimpArgs false
set_option linter.unusedVariables false
namespace Go.Proofs.YtomimhedehecdaaDoor
open Go.Vi Go.ViD

theorem sequenceHalls_claim : Rows.SequenceHallsCardSaid := by
  refine sequenceHalls_card fun vss hl hw => ?_
  match vss, hl with
  | [x, y, z], _ =>
    obtain ⟨hh, rfl⟩ := t_hall (hw 0 63 x rfl rfl)
    obtain ⟨l, rfl⟩ := t_ints (hw 1 31 y rfl rfl)
    obtain ⟨a, b, rfl⟩ := t_pair Tryd.underlying65 rfl (hw 2 65 z rfl rfl)
    simp only [List.zip_cons_cons, List.zip_nil_left, List.map_cons, List.map_nil]
    rw [arg_agg (t := 63) (by kernel_rfl), arg_one (t := 31) (by kernel_rfl), arg_agg (t := 65) (by kernel_rfl)]
    exact (env_good ViD.env_ok (ViD.pc_halls hh l ⟨a, b⟩)).1

end Go.Proofs.YtomimhedehecdaaDoor
