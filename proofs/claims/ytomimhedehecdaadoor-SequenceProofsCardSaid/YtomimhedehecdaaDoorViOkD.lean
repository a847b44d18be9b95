/- The small code agrees with the loaded program. -/
import Derived.Test.YtomimhedehecdaaDoorViGSound
import Derived.Test.YtomimhedehecdaaDoorViEnvD
import Derived.Test.YtomimhedehecdaaDoorViDelD
import Derived.Test.YtomimhedehecdaaDoorChecked
namespace Go.ViD
open Go.Vi

abbrev gl : List (Nat × List V) := [(0, [.int .i64 (-1), .bool false])]

noncomputable def chk (p : Nat × FDef) : Bool := match p.2 with
  | .code mf => decide (p.1 < 1000000) && funcOK Go.Proofs.Tryd.prog gl p.1 mf
  | .gen mf => decide (1000000 ≤ p.1) && genOK Go.Proofs.Tryd.prog gl (p.1 - 1000000) mf
  | .prim _ => p.1 == 123
  | .none => true

set_option maxRecDepth 100000 in
theorem all_ok : tbl.all chk = true := by decide +kernel

theorem mem_get {α : Type} : ∀ {l : List (Nat × α)} {d : Nat} {v : α}, Vi.get l d = some v → (d, v) ∈ l
  | [], _, _, h => by cases h
  | (k, u) :: l, d, v, h => by
    simp only [Vi.get] at h
    split at h
    · rename_i e; cases h; subst e; exact List.mem_cons_self
    · exact List.mem_cons_of_mem _ (mem_get h)

theorem env_ok : EnvOK Go.Proofs.Tryd.prog gl E := by
  have key : ∀ f d, E f = d → d = .none ∨ (f, d) ∈ tbl := by
    intro f d h
    unfold E at h
    cases hg : Vi.get tbl f with
    | none => rw [hg] at h; exact .inl h.symm
    | some v => rw [hg] at h; exact .inr (by simp only [Option.getD_some] at h; subst h; exact mem_get hg)
  have hall := List.all_eq_true.1 all_ok
  refine ⟨fun f p args r h hr => ?_, fun f mf h => ?_, fun f mf h => ?_⟩
  · rcases key f _ h with h1 | h1
    · cases h1
    · have h2 := hall _ h1
      simp only [chk, beq_iff_eq] at h2
      subst h2
      have h3 : E 123 = .prim delP := rfl
      rw [h3] at h
      cases h
      exact ⟨fun _ => ⟨del_good hr, del_entry⟩, fun h => absurd h (by decide)⟩
  · rcases key f _ h with h1 | h1
    · cases h1
    · have h2 := hall _ h1
      simp only [chk, Bool.and_eq_true, decide_eq_true_eq] at h2
      exact h2
  · rcases key f _ h with h1 | h1
    · cases h1
    · have h2 := hall _ h1
      simp only [chk, Bool.and_eq_true, decide_eq_true_eq] at h2
      exact h2

end Go.ViD
