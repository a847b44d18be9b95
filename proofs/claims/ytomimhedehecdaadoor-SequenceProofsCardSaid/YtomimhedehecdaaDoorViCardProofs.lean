/- The card of SequenceProofs, from the function's answer. -/
import Derived.Test.YtomimhedehecdaaDoorViCardC
namespace Go.Proofs.YtomimhedehecdaaDoor
open Go.ChangeShapes Go.WideShapes Go.WideMaps Go.WideElems Go.RowKit Go.Vi

section
set_option maxRecDepth 100000
theorem sequenceProofs_lifted (hgood : ∀ vss : List (List V), vss.length = 2 → (∀ (j : Nat) (t : TypeId) (x : List V), (#[25, 121] : Array TypeId)[j]? = some t → vss[j]? = some x → WT Tryd.prog t x) → Vi.Good Tryd.prog gl 13 (([25, 121].zip vss).map fun (t, x) => argV Tryd.prog t x) (.bool true))
    (os : Os) (started : os.Started) (H : Type) (enc : TypeId × Value → H) :
    ReturnsInHanded {} Tryd.checked os 13 .any (fun w args => (Rows.sequenceProofsSpec.pre enc Tryd.prog Tryd.f13 [] false w args ∧ laidMetH Tryd.prog laidL w) ∧ sizedMet enc Tryd.prog Tryd.f13 (OpenSpec.ofChange Rows.sequenceProofsSpec) false w args)
      (Rows.sequenceProofsSpec.post enc Tryd.prog Tryd.f13 false true false false) := by
  refine returnsInHanded_of_change_and (C := Tryd.checked) (X := fun w _ => laidMetH Tryd.prog laidL w) (fun _ _ _ hh h => h.of_heap hh) own started (by kernel_rfl) Tryd.func13
    (ChangeSpec.witness_shaped (enc := enc) (C := Tryd.checked) (os := os) (X := fun w _ => laidMetH Tryd.prog laidL w) false (World.doorLaid Tryd.prog 400 os) #[.agg #[.slice none 0 0, .int .i64 0, .slice none 0 0], .slice none 0 0] 8 rfl (World.shaped_of_RefB (by kernel_rfl) (by kernel_rfl)) (by kernel_rfl) (by kernel_rfl) (by kernel_rfl) (door_met os _)) ?_
  intro W base args ds gs before hval hW _ _ hL _
  refine law_calls (gl := gl) (n := 8) laidOut (by kernel_rfl) (by kernel_rfl) rfl hval hW (fun ds hl => ?_) (by kernel_rfl) bool4 (gl_of_laid hL) hgood
  match ds, hl with
  | [d1, d2], _ => exact ⟨rfl, rfl, rfl⟩

theorem sequenceProofs_holds (hgood : ∀ vss : List (List V), vss.length = 2 → (∀ (j : Nat) (t : TypeId) (x : List V), (#[25, 121] : Array TypeId)[j]? = some t → vss[j]? = some x → WT Tryd.prog t x) → Vi.Good Tryd.prog gl 13 (([25, 121].zip vss).map fun (t, x) => argV Tryd.prog t x) (.bool true)) : Rows.SequenceProofsSaid :=
  OpenClaim.holds_of_wide 13 Tryd.f13 rfl rfl rfl rfl rfl rfl rfl ⟨rfl, rfl, rfl, rfl, rfl⟩ rfl rfl rfl rfl rfl (by kernel_rfl) Tryd.func13 (by kernel_rfl)
    (of_decide_eq_true (by kernel_rfl)) (by unfold Func.isWrapper; first | (rw [if_pos (by decide +kernel)]; kernel_rfl) | (rw [if_neg (by decide +kernel)]; exact ⟨rfl, rfl⟩))
    (fun os started H enc _ => sequenceProofs_lifted hgood os started H enc)

theorem sequenceProofs_card (hgood : ∀ vss : List (List V), vss.length = 2 → (∀ (j : Nat) (t : TypeId) (x : List V), (#[25, 121] : Array TypeId)[j]? = some t → vss[j]? = some x → WT Tryd.prog t x) → Vi.Good Tryd.prog gl 13 (([25, 121].zip vss).map fun (t, x) => argV Tryd.prog t x) (.bool true)) : Rows.SequenceProofsCardSaid :=
  Claim7.holds_tied_plain_at .later [] [.data] true (true, "f4d4b5f2dc1fbf129a79444237ad6ad1f61cfab3b6623ff383b3a76db0f3a6f2") false
    (sequenceProofs_holds hgood) (fun _ h => by cases h) (by kernel_rfl) (fun _ h => by cases h) sequenceProofs_row_tie rfl ⟨rfl, rfl⟩ (by kernel_rfl) rfl
    (fun f fn hf hfn => by
      obtain rfl : f = 13 := Option.some.inj ((show Tryd.prog.funcNamed "guidevane/guidevanelaw07.SequenceProofs" = some 13 by kernel_rfl).symm.trans hf) |>.symm
      obtain rfl : fn = Tryd.f13 := (Option.some.inj (Tryd.func13.symm.trans hfn)).symm
      exact ⟨by kernel_rfl, fun j t ht => by
        have hm : t ∈ [25, 121] := by simpa using Array.mem_of_getElem? (show (#[25, 121] : Array TypeId)[j]? = some t from ht)
        have hall : ([25, 121].all fun u => !Tryd.prog.wantsStandIn u) = true := by kernel_rfl
        exact (show Tryd.prog.wantsStandIn t = false by simpa using List.all_eq_true.1 hall t hm)⟩)
    (by kernel_rfl)
end
end Go.Proofs.YtomimhedehecdaaDoor

