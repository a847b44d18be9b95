/- The table of the seat's functions, and what the examples give. -/
import Derived.Test.YtomimhedehecdaaDoorViCodeD
import Derived.Test.YtomimhedehecdaaDoorViUnfold
namespace Go.ViD
open Go.Vi

abbrev I (n : Int) : V := .int .i64 n

/-- Rows that are one int each. -/
def intRows : List (List V) → Option (List Int)
  | [] => some []
  | [.int .i64 n] :: xs => (intRows xs).map (n :: ·)
  | _ => none

theorem intRows_eq : ∀ {xs : List (List V)} {zs : List Int}, intRows xs = some zs → xs = zs.map fun n => [V.int .i64 n]
  | [], zs, h => by cases h; rfl
  | x :: xs, zs, h => by
    unfold intRows at h
    split at h
    · rename_i e; cases e
    · rename_i n xs' e
      cases e
      obtain ⟨zs', h1, rfl⟩ := Option.map_eq_some_iff.1 h
      rw [intRows_eq h1]; rfl
    · cases h

theorem intRows_mk : ∀ zs : List Int, intRows (zs.map fun n => [V.int .i64 n]) = some zs
  | [] => rfl
  | n :: zs => by simp [intRows, intRows_mk zs]

/-- slices.Delete, of ints. -/
def delP : List V → Option V
  | [.sl .x 1 xs, .int .i64 i, .int .i64 j] => match intRows xs with
    | some zs => if 0 ≤ i ∧ i ≤ j ∧ j ≤ zs.length ∧ zs ≠ [] then some (.sl .x 1 ((zs.take i.toNat ++ zs.drop j.toNat).map fun n => [V.int .i64 n])) else none
    | none => none
  | _ => none

def tbl : List (Nat × FDef) := [(3, .code f3), (4, .code f4), (5, .code f5), (6, .code f6), (12, .code f12), (13, .code f13), (14, .code f14), (15, .code f15), (16, .code f16), (17, .code f17), (18, .code f18), (19, .code f19), (20, .code f20), (21, .code f21), (22, .code f22), (23, .code f23), (24, .code f24), (25, .code f25), (26, .code f26), (27, .code f27), (28, .code f28), (29, .code f29), (30, .code f30), (31, .code f31), (32, .code f32), (33, .code f33), (34, .code f34), (35, .code f35), (36, .code f36), (37, .code f37), (38, .code f38), (39, .code f39), (40, .code f40), (41, .code f41), (42, .code f42), (43, .code f43), (45, .code f45), (46, .code f46), (47, .code f47), (48, .code f48), (49, .code f49), (50, .code f50), (53, .code f53), (55, .code f55), (56, .code f56), (57, .code f57), (58, .code f58), (59, .code f59), (60, .code f60), (61, .code f61), (62, .code f62), (63, .code f63), (64, .code f64), (65, .code f65), (66, .code f66), (67, .code f67), (68, .code f68), (69, .code f69), (70, .code f70), (71, .code f71), (72, .code f72), (73, .code f73), (74, .code f74), (75, .code f75), (76, .code f76), (77, .code f77), (78, .code f78), (79, .code f79), (80, .code f80), (81, .code f81), (82, .code f82), (83, .code f83), (84, .code f84), (85, .code f85), (86, .code f86), (87, .code f87), (88, .code f88), (89, .code f89), (90, .code f90), (91, .code f91), (92, .code f92), (93, .code f93), (94, .code f94), (95, .code f95), (96, .code f96), (97, .code f97), (98, .code f98), (99, .code f99), (100, .code f100), (101, .code f101), (102, .code f102), (103, .code f103), (104, .code f104), (105, .code f105), (106, .code f106), (107, .code f107), (108, .code f108), (109, .code f109), (110, .code f110), (111, .code f111), (112, .code f112), (113, .code f113), (114, .code f114), (115, .code f115), (116, .code f116), (117, .code f117), (118, .code f118), (119, .code f119), (120, .code f120), (121, .code f121), (122, .code f122), (123, .prim delP), (124, .code f124), (125, .code f125), (126, .code f126), (127, .code f127), (128, .code f128), (129, .code f129), (130, .code f130), (131, .code f131), (132, .code f132), (133, .code f133), (134, .code f134), (135, .code f135), (1000136, .gen f136)]

def E : Env := fun f => (Vi.get tbl f).getD .none

end Go.ViD
