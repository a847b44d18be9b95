/- CLAIM: SequenceVotes answers true for every input (its tied card). No condition. -/
import Derived.Test.YtomimhedehecdaaDoorViVotes
import Derived.Test.YtomimhedehecdaaDoorViOkD
import Derived.Test.YtomimhedehecdaaDoorViTyped
import Derived.Test.YtomimhedehecdaaDoorViCardD
set_option linter.unusedSimpArgs false
set_option linter.unusedVariables false
namespace Go.Proofs.YtomimhedehecdaaDoor
open Go.Vi

theorem sequenceVotes_card : Rows.SequenceVotesCardSaid := by
  refine votes_card fun vss hl hw => ?_
  match vss, hl with
  | [x, y], _ =>
    obtain ⟨ps, rfl, hp, hy⟩ := wt_array (P := Tryd.prog) Tryd.underlying47 (hw 0 47 x rfl rfl)
    obtain ⟨t, rfl, -⟩ := wt_int (P := Tryd.prog) Tryd.underlying3 (hw 1 3 y rfl rfl)
    obtain ⟨l, rfl, -⟩ := forms (f := fun n => [V.int .i64 n]) (Q := fun _ => True) fun y hm => by
      obtain ⟨n, e, -⟩ := wt_int (P := Tryd.prog) Tryd.underlying3 (hy y hm)
      exact ⟨n, e, trivial⟩
    match l, hp with
    | [a, b, c], _ =>
      have e1 : argV Tryd.prog 47 ([a, b, c].map fun n => [V.int .i64 n]).flatten = .agg [.int .i64 a, .int .i64 b, .int .i64 c] := by
        unfold argV
        rw [if_pos (by kernel_rfl)]; rfl
      have e2 : argV Tryd.prog 3 [V.int .i64 t] = .int .i64 t := by
        unfold argV
        rw [if_neg (by rw [show aggT Tryd.prog 3 = false by kernel_rfl]; simp)]; rfl
      simp only [List.zip_cons_cons, List.zip_nil_left, List.map_cons, List.map_nil] at e1 ⊢
      rw [e1, e2]
      exact (env_good ViD.env_ok (ViD.pc_votes a b c t)).1

end Go.Proofs.YtomimhedehecdaaDoor
