/- CLAIM: SequenceRuns answers true for every input (its tied card). No condition. -/
import Derived.Test.YtomimhedehecdaaDoorViRuns
import Derived.Test.YtomimhedehecdaaDoorViOkD
import Derived.Test.YtomimhedehecdaaDoorViTypP
import Derived.Test.YtomimhedehecdaaDoorViCardRuns
set_option linter.unusedSimpArgs false
set_option linter.unusedVariables false
namespace Go.Proofs.YtomimhedehecdaaDoor
open Go.Vi Go.ViD

theorem t_run {x : List V} (h : WT Tryd.prog 99 x) : ∃ (f : Fault) (cs : List Int), x = [I f.signal, .bool f.on, .sl .s 1 (ints cs)] := by
  obtain ⟨p, q, rfl, h1, h2⟩ := t_struct2 Tryd.underlying99 rfl h
  obtain ⟨f, rfl⟩ := t_fault h1
  obtain ⟨c, rfl⟩ := t_ints h2
  exact ⟨f, c, rfl⟩

theorem sequenceRuns_claim : Rows.SequenceRunsCardSaid := by
  refine sequenceRuns_card fun vss hl hw => ?_
  match vss, hl with
  | [x, y, z], _ =>
    obtain ⟨p, rfl⟩ := t_plan (hw 0 25 x rfl rfl)
    obtain ⟨s, rfl⟩ := t_state (hw 1 27 y rfl rfl)
    obtain ⟨f, cs, rfl⟩ := t_run (hw 2 99 z rfl rfl)
    simp only [List.zip_cons_cons, List.zip_nil_left, List.map_cons, List.map_nil]
    rw [arg_agg (t := 25) (by kernel_rfl), arg_agg (t := 27) (by kernel_rfl), arg_agg (t := 99) (by kernel_rfl)]
    exact (env_good ViD.env_ok (ViD.pc_runs p s f cs)).1

end Go.Proofs.YtomimhedehecdaaDoor
