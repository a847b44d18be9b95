/- CLAIM: SequenceLocked answers true for every input (its tied card). No condition. -/
import Derived.Test.YtomimhedehecdaaDoorViLocked
import Derived.Test.YtomimhedehecdaaDoorViOkD
import Derived.Test.YtomimhedehecdaaDoorViTypD
import Derived.Test.YtomimhedehecdaaDoorViCardLocked
set_option linter.unusedSimpArgs false
set_option linter.unusedVariables false
namespace Go.Proofs.YtomimhedehecdaaDoor
open Go.Vi Go.ViD

theorem sequenceLocked_claim : Rows.SequenceLockedCardSaid := by
  refine sequenceLocked_card fun vss hl hw => ?_
  match vss, hl with
  | [x, y, z], _ =>
    obtain ⟨hh, rfl⟩ := t_hall (hw 0 63 x rfl rfl)
    obtain ⟨l, rfl⟩ := t_ints (hw 1 31 y rfl rfl)
    obtain ⟨xs, rfl, -, hx⟩ := wt_sl Tryd.underlying83 (hw 2 83 z rfl rfl)
    obtain ⟨es, rfl, -⟩ := forms (f := cEnt) (Q := fun _ => True) fun y hy => by
      obtain ⟨a, b, rfl⟩ := t_pair Tryd.underlying65 rfl (hx y hy)
      exact ⟨⟨a, b⟩, rfl, trivial⟩
    simp only [List.zip_cons_cons, List.zip_nil_left, List.map_cons, List.map_nil]
    rw [arg_agg (t := 63) (by kernel_rfl), arg_one (t := 31) (by kernel_rfl), arg_one (t := 83) (by kernel_rfl), c65]
    exact (env_good ViD.env_ok (ViD.pc_locked hh l es)).1

end Go.Proofs.YtomimhedehecdaaDoor
