/- What the seat's cards have in common. -/
import Derived.Test.YtomimhedehecdaaDoorViCard
import Derived.Test.YtomimhedehecdaaDoorViEnvD
import Derived.Test.YtomimhedehecdaaDoorRows
import Derived.Test.YtomimhedehecdaaDoorCards
import Derived.Test.YtomimhedehecdaaDoorTie
import Derived.ProofKit
import Derived.LaidMore
import Derived.OpenShut
import Derived.Stop.Joined
namespace Go.Proofs.YtomimhedehecdaaDoor
open Go.ChangeShapes Go.WideShapes Go.WideMaps Go.WideElems Go.RowKit Go.Vi

theorem own : ownKnob Tryd.prog.godebug = none := by kernel_rfl
theorem gNo : Tryd.prog.globalNamed "guidevane/sequence.noFault" = some 0 := by kernel_rfl
theorem tNo : (Tryd.prog.globals[0]?).map (·.type) = some 38 := by kernel_rfl
theorem laidOut : laidOutB Tryd.prog = true := by kernel_rfl
theorem bool4 : Tryd.prog.underlying 4 = some .bool := by kernel_rfl

def laidL : List (String × DataW Unit) := [("guidevane/sequence.noFault", Rows.laid_guidevane_sequence_noFault)]
abbrev gl : List (Nat × List V) := [(0, [.int .i64 (-1), .bool false])]

theorem door_met (os : Os) (args : Array Value) : laidMetH Tryd.prog laidL ((World.doorLaid Tryd.prog 400 os).forCall (fun _ _ => 0) ⟨#[], args, []⟩).memory :=
  laidMetH_of_parts3 (fuel := 8) (laidMet_of_run' 8 (by kernel_rfl) (by kernel_rfl)) (by kernel_rfl) (by kernel_rfl)

theorem under3 : Tryd.prog.underlying 3 = some (.int .i64) := by kernel_rfl
theorem cells3 : Tryd.prog.cellsOf 3 = 1 := by kernel_rfl
theorem cells4 : Tryd.prog.cellsOf 4 = 1 := by kernel_rfl

/-- What the listed variable holds. -/
theorem gl_of_laid {W : World} (h : laidMetH Tryd.prog laidL W) : ∀ x cs, (x, cs) ∈ gl → Rel W (Old W) (.ptr cs 0) (.pointer (some ⟨x, 0, none⟩)) [] := by
  intro x cs hx
  simp only [gl, List.mem_singleton, Prod.mk.injEq] at hx
  obtain ⟨rfl, rfl⟩ := hx
  rw [MakeChecks.laidMetH_plain _ _ _ (by kernel_rfl)] at h
  obtain ⟨ps, ⟨g0, t0, cs0, f0, p0, q0, hg0, ht0, hv0, hd0, -, -⟩, -, -⟩ := h
  obtain rfl := Option.some.inj (gNo.symm.trans hg0)
  obtain rfl := Option.some.inj (tNo.symm.trans ht0)
  obtain ⟨xs, n, -, he, -, hxl, hx⟩ := DataW.trod_struct Tryd.underlying38 hd0
  have e0 : DataW.trod _ Tryd.prog W 0 _ _ n 3 ((cs0.toList.drop 0).take (Tryd.prog.cellsOf 3)) = xs[0]? := hx 0 _ rfl
  have e1 : DataW.trod _ Tryd.prog W 0 _ _ n 4 ((cs0.toList.drop 1).take (Tryd.prog.cellsOf 4)) = xs[1]? := hx 1 _ rfl
  rw [cells3] at e0
  rw [cells4] at e1
  have hxl2 : xs.length = 2 := hxl
  clear hx hxl
  match xs, hxl2 with
  | [x0, x1], _ =>
    simp only [Prod.mk.injEq, Rows.laid_guidevane_sequence_noFault, List.map_cons, List.map_nil, DataW.agg.injEq, List.cons.injEq, and_true] at he
    obtain ⟨k, c0, c1, -⟩ := DataW.trod_int under3 e0
    obtain ⟨b, d0, d1⟩ := DataW.trod_bool bool4 e1
    have hk : k = -1 := by
      rw [c1] at he
      simpa using he.1.1.symm
    have hb : b = false := by
      rw [d1] at he
      simpa using he.1.2.symm
    subst hk
    subst hb
    have v0 := World.var?_cell hg0 hv0 0
    have v1 := World.var?_cell hg0 hv0 1
    obtain ⟨l⟩ := cs0
    match l, c0, d0 with
    | [], c0, _ => simp at c0
    | [_], _, d0 => simp at d0
    | a0 :: a1 :: l, c0, d0 =>
      simp at c0 d0
      subst c0
      subst d0
      refine .ptr _ 0 0 0 (fun j => if j = 0 then .int .i64 (-1) else .bool false) (fun j hj => ?_) fun j y hj => ?_
      · have hlt := cell_lt (show W.cell? ⟨0, 0, none⟩ = some (.int .i64 (-1)) by simpa using v0)
        refine ⟨hlt.1, ?_⟩
        match j, hj with
        | 0, _ => simpa using v0
        | 1, _ => simpa using v1
      · match j, hj with
        | 0, hj => simp at hj; subst hj; exact .int _ _
        | 1, hj => simp at hj; subst hj; exact .bool _
        | j + 2, hj => simp at hj

end Go.Proofs.YtomimhedehecdaaDoor
