/- The examples hold: each call by the kernel's own run of the small code. -/
import Derived.Test.YtomimhedehecdaaDoorViEnvD
namespace Go.ViD
open Go.Vi
def ofB : Option V → V → Bool
  | some v, r => beqT v r
  | none, _ => false
theorem pc_of_runB {E : Env} {N n : Nat} {f : FuncId} {args : List V} {r : V} (h : ofB (pcC E N beqT n f args) r = true) : pc E f args = some r := by
  unfold ofB at h
  split at h
  · rename_i v hv
    exact ((pcC_pc (fun _ _ => beqT_eq) hv).pc).trans (congrArg some (beqT_eq h))
  · cases h
/-- The examples' plan and hall. -/
def planC : List V := [.sl .s 1 [[.str ⟨#[111, 112, 101, 110]⟩], [.str ⟨#[115, 112, 101, 101, 100]⟩]], I 0, .sl .s 14 [
  [.str ⟨#[114, 101, 115, 116]⟩, .bool true, I 0, I 0, I 0, I 1, .sl .s 1 [[I 1]], I 0, I 0, I 0, I 0, I 0, I 0, I 0],
  [.str ⟨#[115, 116, 97, 114, 116]⟩, .bool false, I 0, I 3, I 60, I 0, .sl .a 1 [], I 3, I 0, I 3, I 0, I 30, I 2, I 3],
  [.str ⟨#[116, 117, 114, 98, 105, 110, 101]⟩, .bool false, I 2, I 3, I 0, I 3, .sl .s 1 [[I 3]], I 0, I 0, I 0, I 0, I 0, I 0, I 0],
  [.str ⟨#[115, 116, 111, 112]⟩, .bool false, I 0, I 3, I 40, I 0, .sl .a 1 [], I 0, I 2, I 0, I 3, I 20, I 0, I 4],
  [.str ⟨#[98, 114, 97, 107, 101]⟩, .bool false, I 0, I 4, I 90, I 0, .sl .a 1 [], I 0, I 1, I 0, I 3, I 50, I 0, I 0]]]
def hallC : List V := [I 2, .sl .s 3 [[I 2, I 1, I 0], [I 3, I 0, I 1]]]
set_option maxRecDepth 100000
theorem x67 : pc E 67 [] = some (.agg planC) := pc_of_runB (N := 100) (n := 20) (by decide +kernel)
theorem x68 : pc E 68 [] = some (.agg hallC) := pc_of_runB (N := 100) (n := 20) (by decide +kernel)
theorem x21 : pc E 21 [] = some (.agg [I (-1), .bool false]) := pc_of_runB (N := 100) (n := 20) (by decide +kernel)
theorem x36a : pc E 36 [.agg hallC, .sl .s 1 [[I 2], [I 1]]] = some (.tup [.agg [I 0, I 0], I 0]) := pc_of_runB (N := 100) (n := 20) (by decide +kernel)
theorem x36b : pc E 36 [.agg hallC, .sl .s 1 [[I 0], [I 0]]] = some (.tup [.agg [I 0, I 0], I 12]) := pc_of_runB (N := 100) (n := 20) (by decide +kernel)
theorem x24 : pc E 24 [.sl .s 1 [[I 1]], .sl .s 1 [[I 1]]] = some (.bool true) := pc_of_runB (N := 100) (n := 20) (by decide +kernel)
theorem x46 : pc E 46 [.agg planC, .agg [I 1, I 0], .agg [I (-1), .bool false, I (-1)]] = some (.tup [.agg [I 2, I 3], I 30, I 0]) := pc_of_runB (N := 100) (n := 20) (by decide +kernel)
theorem x28 : pc E 28 [.agg planC, .agg [I 2, I 3], .agg [I 1, .bool true]] = some (.tup [.sl .s 2 [[I 3, I 3], [I 4, I 0], [I 0, I 0]], I 91, I 0]) := pc_of_runB (N := 100) (n := 20) (by decide +kernel)
theorem x18 : pc E 18 [.agg planC, .agg [I 0, I 0], I 2] = some (.tup [.sl .s 1 [[I 1]], I 31, I 0]) := pc_of_runB (N := 100) (n := 20) (by decide +kernel)
end Go.ViD
