/- CLAIM: SequenceProofs answers true for every input (its tied card). No condition. -/
import Derived.Test.YtomimhedehecdaaDoorViProofs
import Derived.Test.YtomimhedehecdaaDoorViOkD
import Derived.Test.YtomimhedehecdaaDoorViTypP
import Derived.Test.YtomimhedehecdaaDoorViCardProofs
set_option linter.unusedSimpArgs false
set_option linter.unusedVariables false
namespace Go.Proofs.YtomimhedehecdaaDoor
open Go.Vi Go.ViD

theorem c169 : Tryd.prog.cellsOf 169 = 5 := by kernel_rfl

theorem t_rank {x : List V} (h : WT Tryd.prog 169 x) : ∃ r : Rank, x = cRank r := by
  obtain ⟨p, q, r, rfl, h1, h2, h3⟩ := t_struct3 Tryd.underlying169 rfl h
  obtain ⟨s, rfl⟩ := t_state h1
  obtain ⟨f, rfl⟩ := t_fault h2
  obtain ⟨n, rfl⟩ := t_int h3
  exact ⟨⟨s, f, n⟩, rfl⟩

theorem sequenceProofs_claim : Rows.SequenceProofsCardSaid := by
  refine sequenceProofs_card fun vss hl hw => ?_
  match vss, hl with
  | [x, y], _ =>
    obtain ⟨p, rfl⟩ := t_plan (hw 0 25 x rfl rfl)
    obtain ⟨xs, rfl, -, hx⟩ := wt_sl Tryd.underlying121 (hw 1 121 y rfl rfl)
    obtain ⟨l, rfl, -⟩ := forms (f := cRank) (Q := fun _ => True) fun y hy => by
      obtain ⟨r, rfl⟩ := t_rank (hx y hy)
      exact ⟨r, rfl, trivial⟩
    simp only [List.zip_cons_cons, List.zip_nil_left, List.map_cons, List.map_nil]
    rw [arg_agg (t := 25) (by kernel_rfl), arg_one (t := 121) (by kernel_rfl), c169]
    exact (env_good ViD.env_ok (ViD.pc_proofs p l)).1

end Go.Proofs.YtomimhedehecdaaDoor
