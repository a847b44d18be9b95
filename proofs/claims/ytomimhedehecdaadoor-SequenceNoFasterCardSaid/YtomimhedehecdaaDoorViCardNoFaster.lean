/- The card of SequenceNoFaster, from the function's answer. -/
import Derived.Test.YtomimhedehecdaaDoorViCardC
namespace Go.Proofs.YtomimhedehecdaaDoor
open Go.ChangeShapes Go.WideShapes Go.WideMaps Go.WideElems Go.RowKit Go.Vi

section
set_option maxRecDepth 100000
theorem sequenceNoFaster_lifted (hgood : ∀ vss : List (List V), vss.length = 3 → (∀ (j : Nat) (t : TypeId) (x : List V), (#[25, 27, 109] : Array TypeId)[j]? = some t → vss[j]? = some x → WT Tryd.prog t x) → Vi.Good Tryd.prog gl 11 (([25, 27, 109].zip vss).map fun (t, x) => argV Tryd.prog t x) (.bool true))
    (os : Os) (started : os.Started) (H : Type) (enc : TypeId × Value → H) :
    ReturnsInHanded {} Tryd.checked os 11 .any (fun w args => (Rows.sequenceNoFasterSpec.pre enc Tryd.prog Tryd.f11 [] false w args ∧ laidMetH Tryd.prog laidL w) ∧ sizedMet enc Tryd.prog Tryd.f11 (OpenSpec.ofChange Rows.sequenceNoFasterSpec) false w args)
      (Rows.sequenceNoFasterSpec.post enc Tryd.prog Tryd.f11 false true false false) := by
  refine returnsInHanded_of_change_and (C := Tryd.checked) (X := fun w _ => laidMetH Tryd.prog laidL w) (fun _ _ _ hh h => h.of_heap hh) own started (by kernel_rfl) Tryd.func11
    (ChangeSpec.witness_shaped (enc := enc) (C := Tryd.checked) (os := os) (X := fun w _ => laidMetH Tryd.prog laidL w) false (World.doorLaid Tryd.prog 400 os) #[.agg #[.slice none 0 0, .int .i64 0, .slice none 0 0], .agg #[.int .i64 0, .int .i64 0], .agg #[.slice none 0 0, .int .i64 0]] 8 rfl (World.shaped_of_RefB (by kernel_rfl) (by kernel_rfl)) (by kernel_rfl) (by kernel_rfl) (by kernel_rfl) (door_met os _)) ?_
  intro W base args ds gs before hval hW _ _ hL _
  refine law_calls (gl := gl) (n := 8) laidOut (by kernel_rfl) (by kernel_rfl) rfl hval hW (fun ds hl => ?_) (by kernel_rfl) bool4 (gl_of_laid hL) hgood
  match ds, hl with
  | [d1, d2, d3], _ => exact ⟨rfl, rfl, rfl⟩

theorem sequenceNoFaster_holds (hgood : ∀ vss : List (List V), vss.length = 3 → (∀ (j : Nat) (t : TypeId) (x : List V), (#[25, 27, 109] : Array TypeId)[j]? = some t → vss[j]? = some x → WT Tryd.prog t x) → Vi.Good Tryd.prog gl 11 (([25, 27, 109].zip vss).map fun (t, x) => argV Tryd.prog t x) (.bool true)) : Rows.SequenceNoFasterSaid :=
  OpenClaim.holds_of_wide 11 Tryd.f11 rfl rfl rfl rfl rfl rfl rfl ⟨rfl, rfl, rfl, rfl, rfl⟩ rfl rfl rfl rfl rfl (by kernel_rfl) Tryd.func11 (by kernel_rfl)
    (of_decide_eq_true (by kernel_rfl)) (by unfold Func.isWrapper; first | (rw [if_pos (by decide +kernel)]; kernel_rfl) | (rw [if_neg (by decide +kernel)]; exact ⟨rfl, rfl⟩))
    (fun os started H enc _ => sequenceNoFaster_lifted hgood os started H enc)

theorem sequenceNoFaster_card (hgood : ∀ vss : List (List V), vss.length = 3 → (∀ (j : Nat) (t : TypeId) (x : List V), (#[25, 27, 109] : Array TypeId)[j]? = some t → vss[j]? = some x → WT Tryd.prog t x) → Vi.Good Tryd.prog gl 11 (([25, 27, 109].zip vss).map fun (t, x) => argV Tryd.prog t x) (.bool true)) : Rows.SequenceNoFasterCardSaid :=
  Claim7.holds_tied_plain_at .later [] [.data] true (true, "f4d4b5f2dc1fbf129a79444237ad6ad1f61cfab3b6623ff383b3a76db0f3a6f2") false
    (sequenceNoFaster_holds hgood) (fun _ h => by cases h) (by kernel_rfl) (fun _ h => by cases h) sequenceNoFaster_row_tie rfl ⟨rfl, rfl⟩ (by kernel_rfl) rfl
    (fun f fn hf hfn => by
      obtain rfl : f = 11 := Option.some.inj ((show Tryd.prog.funcNamed "guidevane/guidevanelaw07.SequenceNoFaster" = some 11 by kernel_rfl).symm.trans hf) |>.symm
      obtain rfl : fn = Tryd.f11 := (Option.some.inj (Tryd.func11.symm.trans hfn)).symm
      exact ⟨by kernel_rfl, fun j t ht => by
        have hm : t ∈ [25, 27, 109] := by simpa using Array.mem_of_getElem? (show (#[25, 27, 109] : Array TypeId)[j]? = some t from ht)
        have hall : ([25, 27, 109].all fun u => !Tryd.prog.wantsStandIn u) = true := by kernel_rfl
        exact (show Tryd.prog.wantsStandIn t = false by simpa using List.all_eq_true.1 hall t hm)⟩)
    (by kernel_rfl)
end
end Go.Proofs.YtomimhedehecdaaDoor

