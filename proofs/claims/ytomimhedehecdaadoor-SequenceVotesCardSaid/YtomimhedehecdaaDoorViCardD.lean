/- The seat's cards, from the functions' answers. -/
import Derived.Test.YtomimhedehecdaaDoorViCard
import Derived.Test.YtomimhedehecdaaDoorViEnvD
import Derived.Test.YtomimhedehecdaaDoorRows
import Derived.Test.YtomimhedehecdaaDoorCards
import Derived.Test.YtomimhedehecdaaDoorTie
import Derived.ProofKit
import Derived.LaidMore
import Derived.OpenShut
import Derived.Stop.Joined
namespace Go.Proofs.YtomimhedehecdaaDoor
open Go.ChangeShapes Go.WideShapes Go.WideMaps Go.WideElems Go.RowKit Go.Vi

theorem own : ownKnob Tryd.prog.godebug = none := by kernel_rfl
theorem gNo : Tryd.prog.globalNamed "guidevane/sequence.noFault" = some 0 := by kernel_rfl
theorem tNo : (Tryd.prog.globals[0]?).map (·.type) = some 38 := by kernel_rfl
theorem laidOut : laidOutB Tryd.prog = true := by kernel_rfl
theorem bool4 : Tryd.prog.underlying 4 = some .bool := by kernel_rfl

def laidL : List (String × DataW Unit) := [("guidevane/sequence.noFault", Rows.laid_guidevane_sequence_noFault)]
abbrev gl : List (Nat × List V) := [(0, [.int .i64 (-1), .bool false])]

theorem door_met (os : Os) (args : Array Value) : laidMetH Tryd.prog laidL ((World.doorLaid Tryd.prog 400 os).forCall (fun _ _ => 0) ⟨#[], args, []⟩).memory :=
  laidMetH_of_parts3 (fuel := 8) (laidMet_of_run' 8 (by kernel_rfl) (by kernel_rfl)) (by kernel_rfl) (by kernel_rfl)

theorem under3 : Tryd.prog.underlying 3 = some (.int .i64) := by kernel_rfl
theorem cells3 : Tryd.prog.cellsOf 3 = 1 := by kernel_rfl
theorem cells4 : Tryd.prog.cellsOf 4 = 1 := by kernel_rfl

/-- What the listed variable holds. -/
theorem gl_of_laid {W : World} (h : laidMetH Tryd.prog laidL W) : ∀ x cs, (x, cs) ∈ gl → Rel W (Old W) (.ptr cs 0) (.pointer (some ⟨x, 0, none⟩)) [] := by
  intro x cs hx
  simp only [gl, List.mem_singleton, Prod.mk.injEq] at hx
  obtain ⟨rfl, rfl⟩ := hx
  rw [MakeChecks.laidMetH_plain _ _ _ (by kernel_rfl)] at h
  obtain ⟨ps, ⟨g0, t0, cs0, f0, p0, q0, hg0, ht0, hv0, hd0, -, -⟩, -, -⟩ := h
  obtain rfl := Option.some.inj (gNo.symm.trans hg0)
  obtain rfl := Option.some.inj (tNo.symm.trans ht0)
  obtain ⟨xs, n, -, he, -, hxl, hx⟩ := DataW.trod_struct Tryd.underlying38 hd0
  have e0 : DataW.trod _ Tryd.prog W 0 _ _ n 3 ((cs0.toList.drop 0).take (Tryd.prog.cellsOf 3)) = xs[0]? := hx 0 _ rfl
  have e1 : DataW.trod _ Tryd.prog W 0 _ _ n 4 ((cs0.toList.drop 1).take (Tryd.prog.cellsOf 4)) = xs[1]? := hx 1 _ rfl
  rw [cells3] at e0
  rw [cells4] at e1
  have hxl2 : xs.length = 2 := hxl
  clear hx hxl
  match xs, hxl2 with
  | [x0, x1], _ =>
    simp only [Prod.mk.injEq, Rows.laid_guidevane_sequence_noFault, List.map_cons, List.map_nil, DataW.agg.injEq, List.cons.injEq, and_true] at he
    obtain ⟨k, c0, c1, -⟩ := DataW.trod_int under3 e0
    obtain ⟨b, d0, d1⟩ := DataW.trod_bool bool4 e1
    have hk : k = -1 := by
      rw [c1] at he
      simpa using he.1.1.symm
    have hb : b = false := by
      rw [d1] at he
      simpa using he.1.2.symm
    subst hk
    subst hb
    have v0 := World.var?_cell hg0 hv0 0
    have v1 := World.var?_cell hg0 hv0 1
    obtain ⟨l⟩ := cs0
    match l, c0, d0 with
    | [], c0, _ => simp at c0
    | [_], _, d0 => simp at d0
    | a0 :: a1 :: l, c0, d0 =>
      simp at c0 d0
      subst c0
      subst d0
      refine .ptr _ 0 0 0 (fun j => if j = 0 then .int .i64 (-1) else .bool false) (fun j hj => ?_) fun j y hj => ?_
      · have hlt := cell_lt (show W.cell? ⟨0, 0, none⟩ = some (.int .i64 (-1)) by simpa using v0)
        refine ⟨hlt.1, ?_⟩
        match j, hj with
        | 0, _ => simpa using v0
        | 1, _ => simpa using v1
      · match j, hj with
        | 0, hj => simp at hj; subst hj; exact .int _ _
        | 1, hj => simp at hj; subst hj; exact .bool _
        | j + 2, hj => simp at hj

section
set_option maxRecDepth 100000
theorem votes_lifted (hgood : ∀ vss : List (List V), vss.length = 2 → (∀ (j : Nat) (t : TypeId) (x : List V), (#[47, 3] : Array TypeId)[j]? = some t → vss[j]? = some x → WT Tryd.prog t x) → Vi.Good Tryd.prog gl 4 (([47, 3].zip vss).map fun (t, x) => argV Tryd.prog t x) (.bool true))
    (os : Os) (started : os.Started) (H : Type) (enc : TypeId × Value → H) :
    ReturnsInHanded {} Tryd.checked os 4 .any (fun w args => (Rows.sequenceVotesSpec.pre enc Tryd.prog Tryd.f4 [] false w args ∧ laidMetH Tryd.prog laidL w) ∧ sizedMet enc Tryd.prog Tryd.f4 (OpenSpec.ofChange Rows.sequenceVotesSpec) false w args)
      (Rows.sequenceVotesSpec.post enc Tryd.prog Tryd.f4 false true false false) := by
  refine returnsInHanded_of_change_and (C := Tryd.checked) (X := fun w _ => laidMetH Tryd.prog laidL w) (fun _ _ _ hh h => h.of_heap hh) own started (by kernel_rfl) Tryd.func4
    (ChangeSpec.witness_shaped (enc := enc) (C := Tryd.checked) (os := os) (X := fun w _ => laidMetH Tryd.prog laidL w) false (World.doorLaid Tryd.prog 400 os) #[.agg #[.int .i64 0, .int .i64 0, .int .i64 0], .int .i64 0] 8 rfl (World.shaped_of_RefB (by kernel_rfl) (by kernel_rfl)) (by kernel_rfl) (by kernel_rfl) (by kernel_rfl) (door_met os _)) ?_
  intro W base args ds gs before hval hW _ _ hL _
  refine law_calls (gl := gl) (n := 8) laidOut (by kernel_rfl) (by kernel_rfl) rfl hval hW (fun ds hl => ?_) (by kernel_rfl) bool4 (gl_of_laid hL) hgood
  match ds, hl with
  | [d1, d2], _ => exact ⟨rfl, rfl, rfl⟩

theorem votes_holds (hgood : ∀ vss : List (List V), vss.length = 2 → (∀ (j : Nat) (t : TypeId) (x : List V), (#[47, 3] : Array TypeId)[j]? = some t → vss[j]? = some x → WT Tryd.prog t x) → Vi.Good Tryd.prog gl 4 (([47, 3].zip vss).map fun (t, x) => argV Tryd.prog t x) (.bool true)) : Rows.SequenceVotesSaid :=
  OpenClaim.holds_of_wide 4 Tryd.f4 rfl rfl rfl rfl rfl rfl rfl ⟨rfl, rfl, rfl, rfl, rfl⟩ rfl rfl rfl rfl rfl (by kernel_rfl) Tryd.func4 (by kernel_rfl)
    (of_decide_eq_true (by kernel_rfl)) (by unfold Func.isWrapper; first | (rw [if_pos (by decide +kernel)]; kernel_rfl) | (rw [if_neg (by decide +kernel)]; exact ⟨rfl, rfl⟩))
    (fun os started H enc _ => votes_lifted hgood os started H enc)

theorem votes_card (hgood : ∀ vss : List (List V), vss.length = 2 → (∀ (j : Nat) (t : TypeId) (x : List V), (#[47, 3] : Array TypeId)[j]? = some t → vss[j]? = some x → WT Tryd.prog t x) → Vi.Good Tryd.prog gl 4 (([47, 3].zip vss).map fun (t, x) => argV Tryd.prog t x) (.bool true)) : Rows.SequenceVotesCardSaid :=
  Claim7.holds_tied_plain_at .later [] [.data] true (true, "f4d4b5f2dc1fbf129a79444237ad6ad1f61cfab3b6623ff383b3a76db0f3a6f2") false
    (votes_holds hgood) (fun _ h => by cases h) (by kernel_rfl) (fun _ h => by cases h) sequenceVotes_row_tie rfl ⟨rfl, rfl⟩ (by kernel_rfl) rfl
    (fun f fn hf hfn => by
      obtain rfl : f = 4 := Option.some.inj ((show Tryd.prog.funcNamed "guidevane/guidevanelaw07.SequenceVotes" = some 4 by kernel_rfl).symm.trans hf) |>.symm
      obtain rfl : fn = Tryd.f4 := (Option.some.inj (Tryd.func4.symm.trans hfn)).symm
      exact ⟨by kernel_rfl, fun j t ht => by
        have hm : t ∈ [47, 3] := by simpa using Array.mem_of_getElem? (show (#[47, 3] : Array TypeId)[j]? = some t from ht)
        have hall : ([47, 3].all fun u => !Tryd.prog.wantsStandIn u) = true := by kernel_rfl
        exact (show Tryd.prog.wantsStandIn t = false by simpa using List.all_eq_true.1 hall t hm)⟩)
    (by kernel_rfl)
end
end Go.Proofs.YtomimhedehecdaaDoor
