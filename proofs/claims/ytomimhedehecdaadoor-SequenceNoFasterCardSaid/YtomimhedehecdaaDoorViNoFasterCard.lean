/- CLAIM: SequenceNoFaster answers true for every input (its tied card). No condition. -/
import Derived.Test.YtomimhedehecdaaDoorViNoFasterB
import Derived.Test.YtomimhedehecdaaDoorViOkD
import Derived.Test.YtomimhedehecdaaDoorViTypP
import Derived.Test.YtomimhedehecdaaDoorViCardNoFaster
set_option linter.unusedSimpArgs false
set_option linter.unusedVariables false
namespace Go.Proofs.YtomimhedehecdaaDoor
open Go.Vi Go.ViD

theorem t_offer {x : List V} (h : WT Tryd.prog 109 x) : ∃ (cs : List Int) (n : Int), x = [.sl .s 1 (ints cs), I n] := by
  obtain ⟨p, q, rfl, h1, h2⟩ := t_struct2 Tryd.underlying109 rfl h
  obtain ⟨c, rfl⟩ := t_ints h1
  obtain ⟨n, rfl⟩ := t_int h2
  exact ⟨c, n, rfl⟩

theorem sequenceNoFaster_claim : Rows.SequenceNoFasterCardSaid := by
  refine sequenceNoFaster_card fun vss hl hw => ?_
  match vss, hl with
  | [x, y, z], _ =>
    obtain ⟨p, rfl⟩ := t_plan (hw 0 25 x rfl rfl)
    obtain ⟨s, rfl⟩ := t_state (hw 1 27 y rfl rfl)
    obtain ⟨cs, n, rfl⟩ := t_offer (hw 2 109 z rfl rfl)
    simp only [List.zip_cons_cons, List.zip_nil_left, List.map_cons, List.map_nil]
    rw [arg_agg (t := 25) (by kernel_rfl), arg_agg (t := 27) (by kernel_rfl), arg_agg (t := 109) (by kernel_rfl)]
    exact (env_good ViD.env_ok (ViD.pc_noFaster p s cs n)).1

end Go.Proofs.YtomimhedehecdaaDoor
