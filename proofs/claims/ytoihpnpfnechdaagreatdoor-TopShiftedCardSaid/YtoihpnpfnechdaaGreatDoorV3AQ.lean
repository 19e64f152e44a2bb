/- Lemmas for the statement of the last text of this claim. -/
import Derived.Test.YtoihpnpfnechdaaGreatDoorV3AP
import Derived.Test.YtoihpnpfnechdaaGreatDoorChecked
import Derived.ProofKit
set_option linter.unusedSimpArgs false
set_option linter.unusedVariables false
namespace Go.Proofs.YtoihpnpfnechdaaGreatDoor
open Go Go.Abs
noncomputable section
abbrev Z2 : Abs.Ty := (.cons (.int .i64) (.cons (.int .i64) .unit))
abbrev Y7 : Type := (List (Int × Int × Unit))
abbrev Y6 : Type := (ByteArray × Int × (Int × Int × Unit) × Int × Int × (List Int) × Y7 × Int × Int × Unit)
abbrev Z8 : Abs.Ty := (.cons .str (.cons (.int .i64) (.cons (.row Z2) (.cons (.int .i64) (.cons (.int .i64) (.cons .bool .unit))))))
abbrev Z10 : Abs.Ty := (.cons .str (.cons (.int .i64) (.cons Z2 (.cons (.int .i64) (.cons (.int .i64) (.cons (.row (.int .i64)) (.cons (.row Z2) Z2)))))))
abbrev Y12 : Type := (Int × Int × Int × Unit)
abbrev Z13 : Abs.Ty := (.cons .str (.cons (.int .i64) (.cons (.row (.int .i64)) .unit)))
abbrev Z14 : Abs.Ty := (.cons (.row (.int .i64)) (.cons (.int .i64) .unit))
abbrev Z15 : Abs.Ty := (.cons (.int .i64) (.cons (.int .i64) (.cons (.int .i64) Z2)))
abbrev Z4 : Abs.Ty := (.cons .str (.cons (.row Z10) (.cons (.row Z15) .unit)))
abbrev Z5 : Abs.Ty := (.cons .str (.cons (.int .i64) (.cons (.row (.cons (.int .i64) (.cons (.int .i64) Z15))) .unit)))
abbrev Z1 : Abs.Ty := (.cons (.row Z5) (.cons (.row Z8) (.cons (.row Z13) (.cons (.row Z4) .unit))))
abbrev Z16 : Abs.Ty := (.cons (.int .i64) (.cons (.row Z2) .unit))
abbrev Y17 : Type := (((List Int) × Int × Unit) × Unit)
abbrev Y18 : Type := (ByteArray × Int × Y7 × Int × Int × Bool × Unit)
abbrev Y19 : Type := (ByteArray × Int × (List Int) × Unit)
abbrev Y20 : Type := ((ByteArray × Int × Int × Int × Int × Int × Int × Int × Unit) × Unit)
abbrev Y21 : Type := (Int × Int × Int × Int × Int × Unit)
abbrev Y11 : Type := (ByteArray × (List Y6) × (List Y21) × Unit)
abbrev Y22 : Type := ((Bool × Unit) × (Unit))
abbrev Y23 : Type := (Int × Int × Int × Int × Int × Int × Int × Unit)
abbrev Y9 : Type := (ByteArray × Int × (List Y23) × Unit)
abbrev Y3 : Type := ((List Y9) × (List Y18) × (List Y19) × (List Y11) × Unit)
abbrev Y24 : Type := (((Unit) × Unit) × ((Unit) × Unit) × Y17 × Y20 × (List Y9) × (List Y18) × (List Y19) × (List Y11) × (List Y9) × (List Y18) × (List Y19) × (List Y11) × (List Int) × Unit)
abbrev Y25 : Type := ((Int × Int × Unit) × Unit)
abbrev Qs1 : Abs.Sh := (.dat (.int .i64) .nil)
abbrev Qb2 : Abs.Bks := (.arr (.cons (.int .i64) Z2) false .nil)
abbrev Qs4 : Abs.Sh := (.dat (.int .i64) Qs1)
abbrev Qb5 : Abs.Bks := (.arr Z2 false .nil)
abbrev Qs6 : Abs.Sh := (.agg (.dat .str (.dat (.int .i64) (.dat (.int .i64) (.dat (.int .i64) (.dat (.int .i64) (.dat (.int .i64) (.st .nil (.st .nil Qs4)))))))) .nil)
abbrev Qx7 : Abs.Stt := (.own (.cons (.int .i64) Z2) (0, 0))
abbrev Qs8 : Abs.Sh := (.dat .bool .nil)
abbrev Qx9 : Abs.Stt := (.own Z2 (0, 0))
abbrev Qs10 : Abs.Sh := (.agg (.st .nil (.st .nil (.st .nil (.st .nil .nil)))) .nil)
abbrev Qs11 : Abs.Sh := (.dat (.cons (.int .i64) Z2) .nil)
abbrev Qx12 : Abs.Stt := (.ptr (0, 0) 2 0 0)
abbrev Qs13 : Abs.Sh := (.dat Z14 .nil)
abbrev Qb3 : Abs.Bks := (.box 4 (.agg (.st (.own Z5 (4, 0)) (.st (.own Z8 (5, 0)) (.st (.own Z13 (6, 0)) (.st (.own Z4 (7, 0)) .nil)))) .nil) (.box 4 (.agg (.st (.own Z5 (8, 0)) (.st (.own Z8 (9, 0)) (.st (.own Z13 (10, 0)) (.st (.own Z4 (11, 0)) .nil)))) .nil) (.box 2 Qs13 (.box 10 (.agg (.dat .str (.dat (.int .i64) (.dat (.int .i64) (.dat (.int .i64) (.dat (.int .i64) (.dat (.int .i64) (.st (.own (.int .i64) (12, 0)) (.st .nil Qs4)))))))) .nil) (.arr Z5 false (.arr Z8 false (.arr Z13 false (.arr Z4 false (.arr Z5 true (.arr Z8 true (.arr Z13 true (.arr Z4 true (.arr (.int .i64) true .nil)))))))))))))
abbrev Qx14 : Abs.Stt := (.own (.cons (.int .i64) Z2) (1, 0))
abbrev Qs15 : Abs.Sh := (.dat (.int .i64) (.dat (.int .i64) (.st (.ptr (0, 0) 10 0 0) (.st (.ptr (1, 0) 2 0 0) .nil))))
abbrev Qb17 : Abs.Bks := (.arr (.int .i64) false .nil)
abbrev Qb18 : Abs.Bks := (.arr (.int .i64) false (.box 1 Qs1 (.box 1 Qs1 .nil)))
abbrev Qb19 : Abs.Bks := (.box 5 (.agg (.dat (.row Z5) (.dat (.row Z8) (.dat (.row Z13) (.dat (.row Z4) (.st (.own Z16 (1, 0)) .nil))))) .nil) (.arr Z16 false .nil))
abbrev Qx20 : Abs.Stt := (.ptr (0, 0) 3 0 0)
abbrev Qb21 : Abs.Bks := (.box 5 (.dat Z15 .nil) .nil)
abbrev Qx22 : Abs.Stt := (.ptr (0, 0) 4 0 0)
abbrev Qb23 : Abs.Bks := (.box 10 (.dat Z10 .nil) (.box 2 (.dat Z16 .nil) .nil))
abbrev Qx24 : Abs.Stt := (.own (.cons (.int .i64) Z2) (2, 0))
abbrev Qb25 : Abs.Bks := (.arr (.cons (.int .i64) Z2) false (.mp false (.row Z2) (.box 3 (.dat Z4 .nil) .nil)))
abbrev Qb26 : Abs.Bks := (.arr Z5 false (.arr Z8 false (.arr Z13 false .nil)))
abbrev Qs27 : Abs.Sh := (.dat (.row (.int .i64)) .nil)
abbrev Qs28 : Abs.Sh := (.agg (.dat .str (.dat (.int .i64) (.st .nil .nil))) .nil)
abbrev Qs29 : Abs.Sh := (.dat (.cons Z1 (.cons (.row Z16) .unit)) .nil)
abbrev Qb30 : Abs.Bks := (.box 2 Qs13 .nil)
abbrev Qb31 : Abs.Bks := (.box 2 (.dat Z2 .nil) .nil)
abbrev Qs32 : Abs.Sh := (.dat Z1 .nil)
abbrev Qb16 : Abs.Bks := (.box 4 Qs32 .nil)
abbrev Qx33 : Abs.Stt := (.ptr (1, 0) 3 0 0)
abbrev Qx34 : Abs.Stt := (.ptr (1, 0) 4 0 0)
abbrev Qs35 : Abs.Sh := (.st Qx9 .nil)
abbrev Qs36 : Abs.Sh := (.dat (.int .i64) (.dat (.int .i64) (.st (.ptr (1, 0) 2 0 0) .nil)))
abbrev Qs37 : Abs.Sh := (.dat (.int .i64) Qs4)
abbrev Qs38 : Abs.Sh := (.agg (.st (.own Z5 (2, 0)) (.st (.own Z8 (3, 0)) (.st (.own Z13 (4, 0)) (.st .nil .nil)))) .nil)
abbrev Qs39 : Abs.Sh := (.st (.ptr (1, 0) 10 0 0) (.st (.ptr (2, 0) 10 0 0) (.st Qx12 (.st (.ptr (3, 0) 4 0 0) .nil))))
abbrev Qx40 : Abs.Stt := (.ptr (1, 0) 0 0 0)
abbrev Qb41 : Abs.Bks := (.box 3 (.dat Z4 .nil) (.arr (.cons (.int .i64) Z2) false (.arr (.int .i64) false Qb2)))
abbrev Qx42 : Abs.Stt := (.own (.int .i64) (0, 0))
abbrev Qx43 : Abs.Stt := (.own Z2 (1, 0))
abbrev Qx44 : Abs.Stt := (.ptr (2, 0) 4 0 0)
def noteTab : List (FuncId × Abs.Note) := [
  (3, ⟨true, [0, 1, 4, 5, 6, 7, 8, 9, 10, 11, 12, 13, 14, 15, 16, 17, 18, 25, 33, 34, 35, 70, 71, 72, 92, 141, 143, 144, 145, 155], false, fun | 8 => [(4, 8)] | 12 => [(1, 3), (0, 4), (1, 4), (0, 5), (1, 5)] | _ => [], false, false⟩),
  (5, ⟨true, [0, 1, 3, 4, 5, 6, 7, 9, 10, 11, 12], false, fun _ => [], false, false⟩),
  (6, ⟨true, [0, 2], false, fun _ => [], false, false⟩),
  (7, ⟨true, [0, 2], false, fun _ => [], false, false⟩),
  (8, ⟨true, [0, 2, 3, 4, 5, 6, 7, 8, 9, 10, 15, 35, 53, 76, 88], false, fun | 5 => [(1, 3), (3, 5), (1, 9), (1, 10)] | 9 => [(0, 2), (0, 8), (2, 10), (5, 10), (2, 12), (5, 12), (0, 14), (2, 14), (5, 14), (8, 14), (10, 14), (12, 14)] | _ => [], false, false⟩),
  (9, ⟨true, [0, 1, 2, 4, 6, 7, 8, 31, 40, 54, 65], false, fun | 7 => [(1, 6), (1, 7)] | _ => [], false, false⟩),
  (10, ⟨true, [0, 1, 3, 4, 5, 6, 27, 29, 49], false, fun | 3 => [(1, 3), (1, 4)] | 8 => [(1, 6)] | _ => [], false, false⟩),
  (11, ⟨true, [0, 1, 2, 3, 4, 5, 20], false, fun | 1 => [(2, 4), (2, 7), (5, 7), (1, 10), (2, 10), (4, 10), (5, 10), (7, 10), (8, 10)] | 6 => [(2, 4)] | _ => [], false, false⟩),
  (12, ⟨true, [0, 2, 3, 9], false, fun _ => [], false, false⟩),
  (13, ⟨true, [0, 1, 2, 3, 4, 8, 9, 10, 11, 12, 22, 35], false, fun _ => [], false, false⟩),
  (24, ⟨true, [0, 1, 4, 5, 19, 40], false, fun _ => [], false, false⟩),
  (25, ⟨true, [0, 1, 4, 5, 6, 7, 24, 25, 38, 74, 87], false, fun | 7 => [(2, 10), (5, 10), (7, 10), (10, 12), (10, 19), (2, 22), (5, 22), (7, 22), (10, 22), (12, 22), (19, 22), (10, 23), (10, 25), (10, 27), (2, 30), (5, 30), (7, 30), (12, 30), (19, 30), (22, 30), (23, 30), (25, 30), (27, 30)] | 9 => [(1, 3), (1, 4)] | _ => [], false, false⟩),
  (26, ⟨true, [0], false, fun _ => [], false, false⟩),
  (27, ⟨true, [0, 1, 4], false, fun _ => [], false, false⟩),
  (28, ⟨true, [0, 2, 3, 4, 5, 6, 7, 11, 29], false, fun _ => [], false, false⟩),
  (29, ⟨true, [0, 1, 4], false, fun _ => [], false, false⟩),
  (30, ⟨true, [0, 1, 2, 3, 4, 8, 9, 10, 11, 17, 21, 27], false, fun _ => [], false, false⟩),
  (31, ⟨true, [0, 1, 2, 3, 4, 5, 8, 9, 11, 12, 13, 15, 16, 18, 19, 21, 22, 23, 24, 43, 44, 45, 46, 62], false, fun _ => [], false, false⟩),
  (33, ⟨true, [0, 1, 2, 3, 4, 6, 7, 8, 30, 35, 39, 40, 41, 42, 51, 53, 58, 66], false, fun _ => [], false, false⟩),
  (36, ⟨true, [0, 2, 3, 4, 17, 19, 20, 21, 41], false, fun _ => [], false, false⟩),
  (48, ⟨true, [0, 1, 2, 3, 6], false, fun _ => [], false, false⟩),
  (49, ⟨true, [0, 1, 2, 4], false, fun _ => [], false, false⟩),
  (53, ⟨true, [0, 1, 2, 3, 4, 5], false, fun _ => [], false, false⟩),
  (54, ⟨true, [0, 1, 2, 3, 4, 8, 9, 11, 12, 13, 15, 19, 20, 21, 22, 42, 45, 46, 47, 48], false, fun _ => [], false, false⟩),
  (56, ⟨true, [0, 1, 4, 5, 6, 7, 8, 18, 46, 61], false, fun | 4 => [(4, 23), (9, 23), (15, 23), (20, 23)] | _ => [], false, false⟩),
  (60, ⟨true, [0, 1, 4], false, fun _ => [], false, false⟩),
  (61, ⟨true, [0, 1, 2, 4, 5, 6, 7], false, fun | 3 => [(1, 2), (1, 3)] | _ => [], false, false⟩),
  (62, ⟨true, [0, 1, 2, 3, 4, 5, 6, 7, 8, 9, 10, 12, 13, 15, 18, 25, 27, 44, 45, 46, 47], false, fun | 7 => [(0, 5), (5, 7), (6, 7)] | 9 => [(0, 2)] | _ => [], false, false⟩),
  (63, ⟨true, [0, 1, 4, 5, 6, 7, 8, 9, 15, 27], false, fun _ => [], false, false⟩),
  (64, ⟨true, [0, 1, 2, 6, 8, 9, 10, 11, 12, 15, 25, 31, 35, 42], false, fun _ => [], false, false⟩),
  (65, ⟨true, [0, 2, 3, 5, 6, 7, 8, 9, 10, 17, 43], false, fun _ => [], false, false⟩),
  (67, ⟨true, [0, 1, 2, 6, 7, 9, 10, 11, 13, 14, 15, 16, 25, 31], false, fun _ => [], false, false⟩),
  (68, ⟨true, [0, 1, 2], true, fun _ => [], false, false⟩),
  (69, ⟨true, [0, 1, 2, 16], false, fun _ => [], false, false⟩),
  (70, ⟨true, [0, 1, 4, 7, 10], false, fun _ => [], false, false⟩),
  (71, ⟨true, [0, 1, 2, 3, 4, 5, 13, 18], false, fun _ => [], false, false⟩),
  (72, ⟨true, [0, 1, 2, 6, 7, 9, 10, 11, 13, 14, 15, 16, 25, 31], false, fun _ => [], false, false⟩),
  (73, ⟨true, [0, 1, 2], false, fun _ => [], false, false⟩),
  (74, ⟨true, [0, 1, 2, 3], false, fun _ => [], false, false⟩),
  (75, ⟨true, [0, 1, 2, 3, 4, 5, 6, 14, 19, 25, 26, 27, 44], false, fun _ => [], false, false⟩),
  (76, ⟨true, [0, 1, 2, 6, 7, 9, 10, 11, 13, 14, 15, 16, 25, 31], false, fun _ => [], false, false⟩),
  (77, ⟨true, [0, 1, 2], false, fun _ => [], false, false⟩),
  (78, ⟨true, [0, 1, 2, 3], false, fun _ => [], false, false⟩),
  (79, ⟨true, [0, 1, 2, 3, 4, 5, 7, 8, 18, 24, 27, 28, 29, 30, 37], false, fun _ => [], false, false⟩),
  (91, ⟨true, [0, 2], false, fun _ => [], false, false⟩),
  (92, ⟨true, [0, 2], false, fun _ => [], false, false⟩),
  (106, ⟨true, [0, 1, 2], false, fun | 1 => [(0, 3)] | _ => [], false, false⟩),
  (111, ⟨true, [0, 1, 2, 3, 4, 6, 7, 8, 9, 10, 12, 17], false, fun | 5 => [(1, 4)] | _ => [], false, false⟩),
  (112, ⟨true, [0, 1, 2, 3, 4, 5, 7, 8, 10, 11, 12, 13, 27], false, fun | 4 => [(1, 3), (3, 5)] | _ => [], false, false⟩),
  (113, ⟨true, [0, 2, 3, 4, 7, 8, 9, 10, 11, 15, 31], false, fun _ => [], false, false⟩),
  (117, ⟨true, [0, 1, 2, 3, 4, 5, 6, 7, 9, 10, 11, 18, 22, 23, 24, 25, 31, 67], false, fun _ => [], false, false⟩),
  (118, ⟨true, [0, 1, 2, 3, 6, 7, 8, 9, 12, 21], false, fun _ => [], false, false⟩),
  (119, ⟨true, [0, 2, 3, 4, 6, 7, 13, 14, 15, 16, 33], false, fun _ => [], false, false⟩),
  (123, ⟨true, [0, 1, 4, 5, 6, 7, 12, 19, 29], true, fun _ => [], false, false⟩),
  (124, ⟨true, [0, 2, 4], false, fun _ => [], false, false⟩),
  (125, ⟨true, [0, 1, 2, 4], true, fun _ => [], false, false⟩),
  (126, ⟨true, [0, 2], true, fun _ => [], false, false⟩),
  (127, ⟨true, [0, 2, 3, 4, 5, 8, 13, 25, 32, 44], true, fun _ => [], false, false⟩),
  (128, ⟨true, [0, 1, 2], false, fun _ => [], false, false⟩),
  (129, ⟨true, [0, 1, 4, 5, 6, 7, 8, 18, 51, 66], false, fun | 4 => [(4, 28), (9, 28), (15, 28), (20, 28), (26, 28)] | _ => [], false, false⟩),
  (130, ⟨true, [0, 1, 2, 4, 5, 6, 8, 10, 12, 14, 15, 16, 17, 22, 31, 49, 50, 51, 52], false, fun | 9 => [(2, 6)] | _ => [], false, false⟩),
  (131, ⟨true, [0, 1, 2, 3, 4, 5, 8, 9, 10, 11, 12, 13, 15, 16, 17, 18, 30, 31, 32, 33, 48, 51, 66], false, fun _ => [], false, false⟩),
  (132, ⟨true, [0, 1, 4, 5, 6, 8, 9, 10, 11, 12, 13, 14, 30, 49, 58, 79], false, fun _ => [], false, false⟩),
  (133, ⟨true, [0, 2, 3, 5, 6, 7, 8, 9], false, fun _ => [], false, false⟩),
  (134, ⟨true, [0, 1, 4], true, fun _ => [], false, false⟩),
  (135, ⟨true, [0, 1, 2, 3, 4], true, fun _ => [], false, false⟩),
  (136, ⟨true, [0, 1, 4], false, fun _ => [], false, false⟩),
  (137, ⟨true, [0, 2], false, fun _ => [], false, false⟩),
  (138, ⟨true, [0, 1, 2, 4], false, fun _ => [], false, false⟩),
  (147, ⟨true, [0, 1, 2, 4], false, fun _ => [], false, false⟩),
  (148, ⟨true, [0, 1, 4], false, fun _ => [], false, false⟩),
  (149, ⟨true, [0, 1, 2], true, fun _ => [], false, false⟩),
  (150, ⟨true, [0, 1, 4], false, fun _ => [], false, false⟩),
  (151, ⟨true, [0, 2], false, fun _ => [], false, false⟩),
  (152, ⟨true, [0, 1, 4], false, fun _ => [], false, false⟩),
  (153, ⟨true, [0, 2], true, fun _ => [], false, false⟩),
  (154, ⟨true, [0, 2, 4], false, fun _ => [], false, false⟩),
  (155, ⟨true, [0, 1, 2, 6, 7, 9, 10, 11, 13, 14, 15, 16, 25, 31], false, fun _ => [], false, false⟩),
  (156, ⟨true, [0, 1, 2], true, fun _ => [], false, false⟩),
  (157, ⟨true, [0, 1, 2, 3], false, fun _ => [], false, false⟩),
  (158, ⟨true, [0, 1, 2, 3, 4, 5, 13, 44, 49, 54, 59, 64, 69, 82], false, fun _ => [], false, false⟩),
  (159, ⟨true, [0, 1, 2, 3, 4, 5, 9, 14, 41, 50, 61, 77], false, fun _ => [], false, false⟩),
  (175, ⟨true, [0, 2, 3, 4, 5, 13, 29], false, fun _ => [], false, false⟩),
  (194, ⟨true, [0, 2, 3, 5, 6, 8, 9, 10, 11], false, fun _ => [], false, false⟩),
  (195, ⟨true, [0, 1, 2, 5], false, fun _ => [], false, false⟩),
  (196, ⟨true, [0, 1, 2], false, fun _ => [], false, false⟩),
  (198, ⟨true, [0, 1, 2, 3, 4, 6, 7, 8, 10, 11, 12, 17, 21, 23, 24, 25, 26, 32, 44, 46, 47, 48, 49, 57], false, fun _ => [], false, false⟩),
  (199, ⟨true, [0, 1, 2, 6], false, fun _ => [], false, false⟩),
  (200, ⟨true, [0, 1, 2, 3, 4], false, fun _ => [], false, false⟩),
  (201, ⟨true, [0, 1, 2, 4, 6], false, fun _ => [], false, false⟩),
  (202, ⟨true, [0, 1, 4, 5, 6, 7, 12, 19, 29], true, fun _ => [], false, false⟩),
  (203, ⟨true, [0, 2, 4], false, fun _ => [], false, false⟩),
  (204, ⟨true, [0, 1, 2], true, fun _ => [], false, false⟩),
  (205, ⟨true, [0, 1, 4], true, fun _ => [], false, false⟩),
  (206, ⟨true, [0, 1, 2, 3, 4], false, fun _ => [], false, false⟩),
  (210, ⟨true, [0, 1, 4, 5, 7, 8, 9, 16], true, fun _ => [], false, false⟩),
  (213, ⟨true, [0, 1, 3, 8, 18], true, fun _ => [], false, false⟩),
  (214, ⟨true, [0, 1, 2, 4, 5, 7, 9, 10, 11, 12, 23], false, fun _ => [], false, false⟩),
  (215, ⟨true, [0, 1, 2, 3, 4, 5, 8, 9, 10, 11, 34, 45, 58, 59, 74], false, fun _ => [], false, false⟩),
  (216, ⟨true, [0, 1, 2, 3, 4, 6, 7, 8, 9, 10, 11, 12, 13, 26, 29, 50, 63, 80], false, fun | 6 => [(2, 6), (2, 8), (6, 9)] | _ => [], false, false⟩),
  (218, ⟨true, [0, 2], false, fun _ => [], false, false⟩),
  (219, ⟨true, [0, 1, 4, 5, 7, 8, 9, 16], false, fun _ => [], false, false⟩),
  (220, ⟨true, [0, 1, 2, 6], false, fun _ => [], false, false⟩),
  (221, ⟨true, [0, 1, 3], true, fun _ => [], false, false⟩),
  (227, ⟨true, [0, 2, 3], false, fun _ => [], false, false⟩),
  (228, ⟨true, [0, 2, 3, 11], false, fun _ => [], false, false⟩),
  (229, ⟨true, [0, 1, 4, 5, 11, 13], false, fun _ => [], false, false⟩),
  (259, ⟨true, [0, 1, 2, 44], false, fun _ => [], false, false⟩),
  (260, ⟨true, [0, 1, 2, 3, 8, 9, 10, 11, 12, 34, 55], false, fun _ => [], false, false⟩),
  (261, ⟨true, [0, 1], true, fun _ => [], false, false⟩),
  (262, ⟨true, [0, 1, 2, 3, 4], true, fun _ => [], false, false⟩),
  (263, ⟨true, [0, 1, 4, 5, 6, 7, 11, 21], false, fun _ => [], false, false⟩),
  (264, ⟨true, [0, 1, 2, 4], true, fun _ => [], false, false⟩),
  (265, ⟨true, [0, 1, 4, 5, 7, 8, 9, 16], false, fun _ => [], false, false⟩),
  (280, ⟨true, [0, 1, 2, 3, 4, 5, 8, 9, 11, 13, 14, 23, 24, 25, 26, 30, 31, 32, 33], false, fun _ => [], false, false⟩),
  (281, ⟨true, [0, 1, 2, 4], false, fun _ => [], false, false⟩),
  (297, ⟨true, [0, 1, 4, 5, 12], false, fun _ => [], false, false⟩),
  (318, ⟨true, [0, 1, 2], false, fun | 1 => [(15, 20)] | _ => [], false, false⟩),
  (319, ⟨true, [0, 1, 2, 3, 4, 15], false, fun | 1 => [(2, 4)] | _ => [], false, false⟩),
  (320, ⟨true, [0, 2], false, fun _ => [], false, false⟩),
  (338, ⟨true, [0, 2, 3, 8], false, fun _ => [], false, false⟩),
  (339, ⟨true, [0, 1, 2, 4], false, fun | 1 => [(0, 3)] | _ => [], false, false⟩)]
def note : FuncId → Abs.Note := fun f => (noteTab.lookup f).getD ⟨false, [], false, fun _ => [], false, false⟩

theorem good : Abs.Good Tryz.prog note := Abs.good_of (by kernel_rfl)
theorem foll : (Tryz.prog).follows .mixedOrders = true := by kernel_rfl

def mvtab : FuncId → Option Nat := Abs.mvOf []

def ctab : FuncId → Option Abs.SCall := Abs.ctabOf [(5, Abs.pureC hfTrue), (229, Abs.pureC hfDays), (261, place261 Z2), (126, place126), (205, place205), (134, place134)]
theorem ctab_ok : ∀ f q, ctab f = some q → Abs.CallOK Tryz.prog f q := Abs.ctabOf_ok _ (by
  intro p hp
  simp only [List.mem_cons, List.not_mem_nil, or_false] at hp
  rcases hp with rfl | rfl | rfl | rfl | rfl | rfl
  · exact hand5
  · exact hand229
  · exact hand261 Z2 rfl
  · exact hand126
  · exact hand205
  · exact hand134
)

theorem okW {l : List (FuncId × Abs.Spec)} {an : Nat → Abs.FAn} {f : FuncId} {sp : Abs.Spec} (hl : ∀ p ∈ l, Abs.SpecOK Tryz.prog p.1 p.2) (hon : (note f).on = true) (h : ∀ v, (Abs.bodyC Tryz.prog note (fun _ => none) ctab mvtab (Abs.tabOf l) an 12 f sp.keep sp.σi sp.σo v).mean = sp.m v) : Abs.SpecOK Tryz.prog f sp :=
  Abs.specOC_of (C := ctab) (mv := mvtab) ctab_ok (n := 12) good foll (Abs.tabOf_ok l hl) hon h
theorem al0 : ∀ p ∈ ([] : List (FuncId × Abs.Spec)), Abs.SpecOK Tryz.prog p.1 p.2 := fun _ h => by cases h
theorem alc {f : FuncId} {sp : Abs.Spec} {l : List (FuncId × Abs.Spec)} (h : Abs.SpecOK Tryz.prog f sp) (t : ∀ p ∈ l, Abs.SpecOK Tryz.prog p.1 p.2) : ∀ p ∈ (f, sp) :: l, Abs.SpecOK Tryz.prog p.1 p.2 := List.forall_mem_cons.2 ⟨h, t⟩

/- 5 pagewatch/pagewatchtop.alive: not told by a law: run where it is called -/

/- pagewatch/pagewatchmade.Light -/
def i6 : Abs.Sg := ⟨[0], Qs27, .nil⟩
def o6 : Abs.Sg := ⟨[2], Qs8, .nil⟩
def m6 (v : (((List Int) × Unit) × (Unit))) : Option Y22 :=
some (((decide (((v.1.1.length : Int) : Int) ≤ 500)), ()), ())
def sp6 : Abs.Spec := ⟨0, i6, o6, m6⟩
def an6 : Nat → Abs.FAn
  | _ => {}
theorem ok6 : Abs.SpecOK Tryz.prog 6 sp6 :=
  okW (an := an6) al0 rfl (by intro v; kernel_rfl)

/- pagewatch/pagewatchmade.Roll -/
def i7 : Abs.Sg := ⟨[0], Qs27, .nil⟩
def o7 : Abs.Sg := ⟨[2], (.st Qx12 .nil), Qb30⟩
def m7 (v : (((List Int) × Unit) × (Unit))) : Option ((Unit) × (Y17 × Unit)) :=
some ((), ((v.1.1, 0, ()), ()), ())
def sp7 : Abs.Spec := ⟨0, i7, o7, m7⟩
def an7 : Nat → Abs.FAn
  | _ => {}
theorem ok7 : Abs.SpecOK Tryz.prog 7 sp7 :=
  okW (an := an7) al0 rfl (by intro v; kernel_rfl)

/- (*pagewatch/pagewatchmade.Dice).Next -/
def i24 : Abs.Sg := ⟨[0, 1], (.st Qx12 Qs1), Qb30⟩
def o24 : Abs.Sg := ⟨[4], Qs1, Qb30⟩
def m24 (v : ((Int × Unit) × (Y17 × Unit))) : Option ((Int × Unit) × (Y17 × Unit)) :=
((let c := (decide ((v.2.1.1.2.1 : Int) ≥ (v.2.1.1.1.length : Int)))
bif c then (some ((true, v.1), v.2))
else (some (((decide ((v.1.1 : Int) < 1)), v.1), v.2))) : Option ((Bool × Int × Unit) × (Y17 × Unit))).bind fun a =>
bif a.1.1 then (some ((0, ()), a.2))
else (Abs.rowAt a.2.1.1.1 a.2.1.1.2.1 fun b _ =>
bif (decide (a.1.2.1 ≠ (0 : Int))) then
((let d := (decide ((((b : Int).tmod a.1.2.1) : Int) < 0))
bif d then (some (((w64 (((b : Int).tmod a.1.2.1) + a.1.2.1)), ()), ((a.2.1.1.1, (w64 (a.2.1.1.2.1 + 1)), ()), ()), ()))
else (some ((((b : Int).tmod a.1.2.1), ()), ((a.2.1.1.1, (w64 (a.2.1.1.2.1 + 1)), ()), ()), ()))) : Option ((Int × Unit) × (Y17 × Unit))).bind fun e =>
some e
else none)
def sp24 : Abs.Spec := ⟨1, i24, o24, m24⟩
def an24 : Nat → Abs.FAn
  | 0 => Abs.FAn.mk (fun
    | 1 => some ⟨[19, 1, 0], (.dat .bool (.dat (.int .i64) (.st Qx12 .nil))), Qb30⟩
    | _ => none) (fun
    | 7 => some (⟨[5], Qs1, Qb30⟩, none)
    | _ => none) (fun _ => none) (fun _ _ => 0)
  | _ => {}
theorem ok24 : Abs.SpecOK Tryz.prog 24 sp24 :=
  okW (an := an24) al0 rfl (by intro v; kernel_rfl)

/- (*pagewatch/pagewatchmade.Dice).Pick -/
def i29 : Abs.Sg := ⟨[0, 1], (.st Qx12 Qs27), Qb30⟩
def o29 : Abs.Sg := ⟨[4], Qs1, Qb30⟩
def m29 (v : (((List Int) × Unit) × (Y17 × Unit))) : Option ((Int × Unit) × (Y17 × Unit)) :=
(m24 (((v.1.1.length : Int), ()), v.2)).bind fun a =>
Abs.rowAt v.1.1 a.1.1 fun b _ =>
some ((b, ()), a.2)
def sp29 : Abs.Spec := ⟨1, i29, o29, m29⟩
def an29 : Nat → Abs.FAn
  | _ => {}
theorem ok29 : Abs.SpecOK Tryz.prog 29 sp29 :=
  okW (an := an29) (alc ok24 al0) rfl (by intro v; kernel_rfl)

/- (*pagewatch/pagewatchmade.Dice).Zone -/
def i25 : Abs.Sg := ⟨[0, 1], (.st Qx12 (.dat .str .nil)), Qb30⟩
def o25 : Abs.Sg := ⟨[4], (.st Qx33 .nil), (.box 2 Qs13 (.box 3 (.agg (.dat .str (.dat (.int .i64) (.st (.own (.cons (.int .i64) (.cons (.int .i64) Z15)) (2, 0)) .nil))) .nil) (.arr (.cons (.int .i64) (.cons (.int .i64) Z15)) false .nil)))⟩
def m25 (v : ((ByteArray × Unit) × (Y17 × Unit))) : Option ((Unit) × (Y17 × ((ByteArray × Int × Unit) × Unit) × (List Y23) × Unit)) :=
(m29 (([0, 4, (-20), 22, 48, (-47)], ()), v.2)).bind fun g =>
(m24 ((2, ()), g.2)).bind fun h =>
(m24 ((3, ()), h.2)).bind fun j =>
let a := (w64 (900 * (w64 (g.1.1 + (w64 (h.1.1 * j.1.1))))))
(m24 ((2, ()), j.2)).bind fun d =>
(((m24 ((4, ()), d.2)).bind fun b =>
bif ((b.1.1 : Int) == 1) then (some ((), b.2.1, ((ByteArray.empty, 0, ()), ()), ((v.1.1, a, ()), ()), ([(2025, (w64 (2025 + d.1.1)), 3, 5, 6, 7200, (w64 (a + 3600)), ()), (2025, (w64 (2025 + d.1.1)), 10, 5, 6, 10800, a, ())] : List Y23), ()))
else (bif ((b.1.1 : Int) == 2) then ((m24 ((4, ()), b.2)).bind fun k =>
(m24 ((7, ()), k.2)).bind fun l =>
(m24 ((24, ()), l.2)).bind fun m =>
(m24 ((8, ()), m.2)).bind fun n =>
(m24 ((2, ()), n.2)).bind fun o =>
(m29 (([2, 3, 5], ()), o.2)).bind fun p =>
(m24 ((7, ()), p.2)).bind fun q =>
(m24 ((24, ()), q.2)).bind fun r =>
some ((), r.2.1, ((ByteArray.empty, 0, ()), ()), ((v.1.1, a, ()), ()), ([(2025, (w64 (2025 + d.1.1)), 1, (w64 (1 + k.1.1)), l.1.1, (w64 (3600 * m.1.1)), (w64 (a + (w64 (1800 * (w64 (1 + n.1.1)))))), ()), (2025, (w64 (2025 + d.1.1)), (w64 (2 + o.1.1)), p.1.1, q.1.1, (w64 (3600 * r.1.1)), a, ())] : List Y23), ()))
else (bif ((b.1.1 : Int) == 3) then ((m29 (([3600, (-3600), 82800, (-82800), 43200], ()), b.2)).bind fun c =>
((((bif (decide (((w64 (a + c.1.1)) : Int) > 64800)) then (some ((true, (w64 (a + c.1.1)), ()), c.2.1, ((ByteArray.empty, 0, ()), ()), ((v.1.1, a, ()), ()), ()))
else (let w := (decide (((w64 (a + c.1.1)) : Int) < (-64800)))
some ((w, (w64 (a + c.1.1)), ()), c.2.1, ((ByteArray.empty, 0, ()), ()), ((v.1.1, a, ()), ()), ()))) : Option ((Bool × Int × Unit) × (Y17 × ((ByteArray × Int × Unit) × Unit) × ((ByteArray × Int × Unit) × Unit) × Unit))).bind fun e =>
bif e.1.1 then (some ((0, ()), e.2))
else (some (e.1.2, e.2))) : Option ((Int × Unit) × (Y17 × ((ByteArray × Int × Unit) × Unit) × ((ByteArray × Int × Unit) × Unit) × Unit))).bind fun f =>
(m24 ((7, ()), f.2.1, ())).bind fun s =>
(m24 ((48, ()), s.2)).bind fun t =>
some ((), t.2.1, f.2.2.1, f.2.2.2.1, ([(2026, 2026, 1, 2, s.1.1, (w64 (1800 * t.1.1)), f.1)] : List Y23), ()))
else (some ((), b.2.1, ((ByteArray.empty, 0, ()), ()), ((v.1.1, a, ()), ()), [], ()))))) : Option ((Unit) × (Y17 × ((ByteArray × Int × Unit) × Unit) × ((ByteArray × Int × Unit) × Unit) × (List Y23) × Unit))).bind fun u =>
some ((), u.2.1, u.2.2.2)
def sp25 : Abs.Spec := ⟨1, i25, o25, m25⟩
def an25 : Nat → Abs.FAn
  | 0 => Abs.FAn.mk (fun
    | 10 => some ⟨[87, 4, 5, 0, 7], (.dat .bool (.st Qx33 (.st (.ptr (2, 0) 3 0 0) (.st Qx12 Qs1)))), (.box 2 Qs13 (.box 3 Qs28 (.box 3 Qs28 .nil)))⟩
    | _ => none) (fun
    | 13 => some (⟨[4, 5], (.st Qx33 (.st (.ptr (2, 0) 3 0 0) .nil)), (.box 2 Qs13 (.box 3 Qs28 (.box 3 (.agg (.dat .str (.dat (.int .i64) (.st (.own (.cons (.int .i64) (.cons (.int .i64) Z15)) (3, 0)) .nil))) .nil) (.arr (.cons (.int .i64) (.cons (.int .i64) Z15)) false .nil))))⟩, none)
    | 12 => some (⟨[4, 5, 7, 0], (.st Qx33 (.st (.ptr (2, 0) 3 0 0) (.dat (.int .i64) (.st Qx12 .nil)))), (.box 2 Qs13 (.box 3 Qs28 (.box 3 Qs28 .nil)))⟩, none)
    | _ => none) (fun _ => none) (fun _ _ => 0)
  | _ => {}
theorem ok25 : Abs.SpecOK Tryz.prog 25 sp25 :=
  okW (an := an25) (alc ok29 (alc ok24 al0)) rfl (by intro v; kernel_rfl)

/- pagewatch/pagewatchmade.names -/
def i26 : Abs.Sg := ⟨[], .nil, .nil⟩
def o26 : Abs.Sg := ⟨[0], (.st (.own .str (0, 0)) .nil), (.arr .str false .nil)⟩
def m26 (v : ((Unit) × (Unit))) : Option ((Unit) × ((List ByteArray) × Unit)) :=
some ((), [(bs [97, 100, 97]), (bs [98, 111, 98]), (bs [99, 108, 101, 111]), (bs [100, 97, 110]), (bs [101, 118, 101]), (bs [102, 97, 121]), (bs [103, 117, 115]), (bs [104, 97, 108])], ())
def sp26 : Abs.Spec := ⟨0, i26, o26, m26⟩
def an26 : Nat → Abs.FAn
  | _ => {}
theorem ok26 : Abs.SpecOK Tryz.prog 26 sp26 :=
  okW (an := an26) al0 rfl (by intro v; kernel_rfl)

/- (*pagewatch/pagewatchmade.Dice).Bool -/
def i27 : Abs.Sg := ⟨[0, 1], (.st Qx12 Qs1), Qb30⟩
def o27 : Abs.Sg := ⟨[4], Qs8, Qb30⟩
def m27 (v : ((Int × Unit) × (Y17 × Unit))) : Option ((Bool × Unit) × (Y17 × Unit)) :=
(m24 v).bind fun a =>
some ((((a.1.1 : Int) == (w64 (v.1.1 - 1))), ()), a.2)
def sp27 : Abs.Spec := ⟨1, i27, o27, m27⟩
def an27 : Nat → Abs.FAn
  | _ => {}
theorem ok27 : Abs.SpecOK Tryz.prog 27 sp27 :=
  okW (an := an27) (alc ok24 al0) rfl (by intro v; kernel_rfl)

def l28_0_4 (v : ((Int × Int × Unit) × (Y17 × Y7 × Unit))) : Option (((Int × Int × Unit) × (Y17 × Y7 × Unit)) ⊕ ((Unit) × (Y17 × Y7 × Unit))) :=
bif (decide ((v.1.1 : Int) > 0)) then ((m24 ((30, ()), v.2.1, ())).bind fun c =>
(m24 ((2, ()), c.2)).bind fun d =>
let a := (w64 ((w64 (v.1.2.1 + (w64 (3600 * c.1.1)))) + (w64 (60 * d.1.1))))
(m29 (([3600, 28800, 43200, 86400, 61, 1], ()), d.2)).bind fun b =>
let e := (decide (((w64 (a + b.1.1)) : Int) > 604800))
bif e then (some (.inr ((), b.2.1, v.2.2)))
else (bif (decide (v.2.2.1.length + ([(a, (w64 (a + b.1.1)), ())] : List (Int × Int × Unit)).length ≤ 4294967296)) then
let f := (v.2.2.1 ++ ([(a, (w64 (a + b.1.1)), ())] : List (Int × Int × Unit)))
some (.inl (((w64 (v.1.1 - 1)), (w64 (a + b.1.1)), ()), b.2.1, f, ()))
else none))
else (some (.inr ((), v.2)))

/- (*pagewatch/pagewatchmade.Dice).Windows -/
def i28 : Abs.Sg := ⟨[0], (.st Qx12 .nil), Qb30⟩
def o28 : Abs.Sg := ⟨[2], (.st Qx43 .nil), (.box 2 Qs13 Qb5)⟩
def m28 (v : ((Unit) × (Y17 × Unit))) : Option ((Unit) × (Y17 × Y7 × Unit)) :=
(m24 ((4, ()), v.2)).bind fun a =>
(loopT l28_0_4 ((a.1.1, 0, ()), a.2.1, [], ())).bind fun b =>
some ((), b.2)
def sp28 : Abs.Spec := ⟨1, i28, o28, m28⟩
def an28 : Nat → Abs.FAn
  | 0 => Abs.FAn.mk (fun _ => none) (fun _ => none) (fun
    | 4 => some ⟨⟨[3, 5, 0, 4], (.st Qx43 (.dat (.int .i64) (.st Qx12 Qs1))), (.box 2 Qs13 Qb5)⟩, (.one (.exit 0) ⟨[3], (.st Qx43 .nil), (.box 2 Qs13 Qb5)⟩)⟩
    | _ => none) (fun _ _ => 0)
  | _ => {}
theorem ok28 : Abs.SpecOK Tryz.prog 28 sp28 :=
  okW (an := an28) (alc ok24 (alc ok29 al0)) rfl (by intro v; kernel_rfl)

def l8_0_3 (v : ((Int × Unit) × (Y17 × ((Unit) × Unit) × ((Unit) × Unit) × (List Y9) × Unit))) : Option (((Int × Unit) × (Y17 × ((Unit) × Unit) × ((Unit) × Unit) × (List Y9) × Unit)) ⊕ ((Unit) × (Y17 × ((Unit) × Unit) × ((Unit) × Unit) × (List Y9) × Unit))) :=
bif (decide ((v.1.1 : Int) > 0)) then (bif (decide ((0 : Int) ≤ ((v.2.2.2.2.1.length : Nat) : Int) ∧ (((v.2.2.2.2.1.length : Nat) : Int) : Int) < [(bs [104, 101, 114, 101]), (bs [116, 104, 101, 114, 101])].length)) then
([(bs [104, 101, 114, 101]), (bs [116, 104, 101, 114, 101])][((v.2.2.2.2.1.length : Nat) : Int).toNat]?).bind fun b =>
(m25 ((b, ()), v.2.1, ())).bind fun a =>
bif (decide (v.2.2.2.2.1.length + ([(a.2.2.1.1.1, a.2.2.1.1.2.1, a.2.2.2)] : List Y9).length ≤ 4294967296)) then
let c := (v.2.2.2.2.1 ++ ([(a.2.2.1.1.1, a.2.2.1.1.2.1, a.2.2.2)] : List Y9))
some (.inl (((w64 (v.1.1 - 1)), ()), a.2.1, ((), ()), ((), ()), c, ()))
else none
else none)
else (some (.inr ((), v.2.1, ((), ()), ((), ()), v.2.2.2.2)))

def l8_0_7 (v : ((Int × Unit) × (Y17 × ((Unit) × Unit) × ((Unit) × Unit) × (List Y9) × (List Y18) × Unit))) : Option (((Int × Unit) × (Y17 × ((Unit) × Unit) × ((Unit) × Unit) × (List Y9) × (List Y18) × Unit)) ⊕ ((Unit) × (Y17 × ((Unit) × Unit) × ((Unit) × Unit) × (List Y9) × (List Y18) × Unit))) :=
bif (decide ((v.1.1 : Int) > 0)) then ((m26 ((), ())).bind fun g =>
bif (decide ((0 : Int) ≤ ((v.2.2.2.2.2.1.length : Nat) : Int) ∧ (((v.2.2.2.2.2.1.length : Nat) : Int) : Int) < g.2.1.length)) then
(g.2.1[((v.2.2.2.2.2.1.length : Nat) : Int).toNat]?).bind fun h =>
(m24 ((((v.2.2.2.2.1.length : Nat) : Int), ()), v.2.1, ())).bind fun b =>
(m27 ((3, ()), b.2)).bind fun c =>
(((m27 ((2, ()), c.2)).bind fun d =>
bif d.1.1 then ((m28 ((), d.2)).bind fun j =>
some (v.1, j.2.1, ((), ()), ((), ()), ((h, b.1.1, 0, 0, c.1), ()), v.2.2.2.2.1, v.2.2.2.2.2.1, j.2.2))
else (some (v.1, d.2.1, ((), ()), ((), ()), ((h, b.1.1, 0, 0, c.1), ()), v.2.2.2.2.1, v.2.2.2.2.2.1, [], ()))) : Option ((Int × Unit) × (Y17 × ((Unit) × Unit) × ((Unit) × Unit) × ((ByteArray × Int × Int × Int × Bool × Unit) × Unit) × (List Y9) × (List Y18) × Y7 × Unit))).bind fun a =>
(m29 (([0, 40, 100, 12], ()), a.2.1, ())).bind fun e =>
(m29 (([0, 11, 24, 1], ()), e.2)).bind fun f =>
bif (decide (a.2.2.2.2.2.2.1.length + ([(a.2.2.2.2.1.1.1, a.2.2.2.2.1.1.2.1, a.2.2.2.2.2.2.2.1, (w64 (3600 * e.1.1)), (w64 (3600 * f.1.1)), a.2.2.2.2.1.1.2.2.2.2)] : List Y18).length ≤ 4294967296)) then
let k := (a.2.2.2.2.2.2.1 ++ ([(a.2.2.2.2.1.1.1, a.2.2.2.2.1.1.2.1, a.2.2.2.2.2.2.2.1, (w64 (3600 * e.1.1)), (w64 (3600 * f.1.1)), a.2.2.2.2.1.1.2.2.2.2)] : List Y18))
some (.inl (((w64 (a.1.1 - 1)), ()), f.2.1, ((), ()), ((), ()), a.2.2.2.2.2.1, k, ()))
else none
else none)
else (some (.inr ((), v.2.1, ((), ()), ((), ()), v.2.2.2.2)))

def l8_0_19 (v : (Y12 × (Y17 × ((ByteArray × Int × Unit) × Unit) × ((Unit) × Unit) × ((Unit) × Unit) × (List Int) × (List Y9) × (List Y18) × (List Y19) × Unit))) : Option ((Y12 × (Y17 × ((ByteArray × Int × Unit) × Unit) × ((Unit) × Unit) × ((Unit) × Unit) × (List Int) × (List Y9) × (List Y18) × (List Y19) × Unit)) ⊕ ((Int × Unit) × (Y17 × ((Unit) × Unit) × ((Unit) × Unit) × ((ByteArray × Int × Unit) × Unit) × (List Y9) × (List Y18) × (List Y19) × (List Int) × Unit))) :=
bif (decide ((v.1.1 : Int) > 0)) then ((m24 ((6, ()), v.2.1, ())).bind fun a =>
bif (decide (v.2.2.2.2.2.1.length + [(w64 (v.1.2.1 + (w64 (1 + a.1.1))))].length ≤ 4294967296)) then
let b := (v.2.2.2.2.2.1 ++ [(w64 (v.1.2.1 + (w64 (1 + a.1.1))))])
some (.inl (((w64 (v.1.1 - 1)), (w64 (v.1.2.1 + (w64 (1 + a.1.1)))), v.1.2.2), a.2.1, v.2.2.1, ((), ()), ((), ()), b, v.2.2.2.2.2.2))
else none)
else (some (.inr (v.1.2.2, v.2.1, ((), ()), ((), ()), v.2.2.1, v.2.2.2.2.2.2.1, v.2.2.2.2.2.2.2.1, v.2.2.2.2.2.2.2.2.1, v.2.2.2.2.2.1, ())))

def l8_0_15 (v : ((Int × Unit) × (Y17 × ((Unit) × Unit) × ((Unit) × Unit) × (List Y9) × (List Y18) × (List Y19) × Unit))) : Option (((Int × Unit) × (Y17 × ((Unit) × Unit) × ((Unit) × Unit) × (List Y9) × (List Y18) × (List Y19) × Unit)) ⊕ ((Unit) × (Y17 × ((Unit) × Unit) × ((Unit) × Unit) × (List Y9) × (List Y18) × (List Y19) × Unit))) :=
bif (decide ((v.1.1 : Int) > 0)) then ((m24 ((((v.2.2.2.2.1.length : Nat) : Int), ()), v.2.1, ())).bind fun b =>
(m24 ((4, ()), b.2)).bind fun c =>
(loopT l8_0_19 ((c.1.1, 20454, v.1), c.2.1, (((bs [100, 97, 121, 115]), b.1), ()), ((), ()), ((), ()), [], v.2.2.2.2)).bind fun a =>
bif (decide (a.2.2.2.2.2.2.2.1.length + ([(a.2.2.2.2.1.1.1, a.2.2.2.2.1.1.2.1, a.2.2.2.2.2.2.2.2)] : List Y19).length ≤ 4294967296)) then
let d := (a.2.2.2.2.2.2.2.1 ++ ([(a.2.2.2.2.1.1.1, a.2.2.2.2.1.1.2.1, a.2.2.2.2.2.2.2.2)] : List Y19))
some (.inl (((w64 (a.1.1 - 1)), ()), a.2.1, ((), ()), ((), ()), a.2.2.2.2.2.1, a.2.2.2.2.2.2.1, d, ()))
else none)
else (some (.inr ((), v.2.1, ((), ()), ((), ()), v.2.2.2.2)))

/- (*pagewatch/pagewatchmade.Dice).Staff -/
def i8 : Abs.Sg := ⟨[0], (.st Qx12 .nil), Qb30⟩
def o8 : Abs.Sg := ⟨[2], (.st Qx34 .nil), (.box 2 Qs13 (.box 4 Qs38 Qb26))⟩
def m8 (v : ((Unit) × (Y17 × Unit))) : Option ((Unit) × (Y17 × ((Unit) × Unit) × (List Y9) × (List Y18) × (List Y19) × Unit)) :=
(m24 ((2, ()), v.2)).bind fun b =>
(loopT l8_0_3 (((w64 (1 + b.1.1)), ()), b.2.1, ((), ()), ((), ()), [], ())).bind fun c =>
(m24 ((4, ()), c.2.1, ())).bind fun d =>
(loopT l8_0_7 (((w64 (1 + d.1.1)), ()), d.2.1, ((), ()), ((), ()), c.2.2.2.2.1, [], ())).bind fun a =>
(m24 ((2, ()), a.2.1, ())).bind fun e =>
(loopT l8_0_15 (e.1, e.2.1, ((), ()), ((), ()), a.2.2.2.2.1, a.2.2.2.2.2.1, [], ())).bind fun f =>
some ((), f.2.1, ((), ()), f.2.2.2.2)
def sp8 : Abs.Spec := ⟨1, i8, o8, m8⟩
def an8 : Nat → Abs.FAn
  | 0 => Abs.FAn.mk (fun _ => none) (fun
    | 12 => some (⟨[3, 0, 2, 5, 6], (.st Qx34 (.st Qx12 (.st Qx44 (.dat (.int .i64) (.st (.ptr (3, 0) 6 0 0) .nil))))), (.box 2 Qs13 (.box 4 (.agg (.st (.own Z5 (4, 0)) (.st (.own Z8 (5, 0)) (.st .nil (.st .nil .nil)))) .nil) (.box 4 Qs10 (.box 6 (.agg (.dat .str (.dat (.int .i64) (.st (.own Z2 (6, 0)) (.dat (.int .i64) (.dat (.int .i64) Qs8))))) .nil) (.arr Z5 false (.arr Z8 false Qb5))))))⟩, none)
    | _ => none) (fun
    | 15 => some ⟨⟨[0, 7, 3, 2], (.st Qx12 (.dat (.int .i64) (.st Qx34 (.st Qx44 .nil)))), (.box 2 Qs13 (.box 4 (.agg (.st (.own Z5 (3, 0)) (.st (.own Z8 (4, 0)) (.st (.own Z13 (5, 0)) (.st .nil .nil)))) .nil) (.box 4 Qs10 Qb26)))⟩, (.one (.exit 4) ⟨[2, 3], (.st Qx34 (.st Qx44 .nil)), (.box 2 Qs13 (.box 4 Qs10 (.box 4 (.agg (.st (.own Z5 (3, 0)) (.st (.own Z8 (4, 0)) (.st (.own Z13 (5, 0)) (.st .nil .nil)))) .nil) Qb26)))⟩)⟩
    | 19 => some ⟨⟨[9, 8, 0, 10, 3, 2, 7], (.dat (.int .i64) (.st Qx33 (.st Qx12 (.dat (.int .i64) (.st Qx44 (.st (.ptr (3, 0) 4 0 0) Qs1)))))), (.box 2 Qs13 (.box 3 (.agg (.dat .str (.dat (.int .i64) (.st (.own (.int .i64) (4, 0)) .nil))) .nil) (.box 4 (.agg (.st (.own Z5 (5, 0)) (.st (.own Z8 (6, 0)) (.st (.own Z13 (7, 0)) (.st .nil .nil)))) .nil) (.box 4 Qs10 (.arr (.int .i64) false Qb26)))))⟩, (.one (.exit 6) ⟨[0, 3, 2, 7, 8], (.st Qx12 (.st Qx34 (.st Qx44 (.dat (.int .i64) (.st (.ptr (3, 0) 3 0 0) .nil))))), (.box 2 Qs13 (.box 4 (.agg (.st (.own Z5 (4, 0)) (.st (.own Z8 (5, 0)) (.st (.own Z13 (6, 0)) (.st .nil .nil)))) .nil) (.box 4 Qs10 (.box 3 (.agg (.dat .str (.dat (.int .i64) (.st (.own (.int .i64) (7, 0)) .nil))) .nil) (.arr Z5 false (.arr Z8 false (.arr Z13 false Qb17)))))))⟩)⟩
    | 7 => some ⟨⟨[5, 3, 0, 2], (.dat (.int .i64) (.st Qx34 (.st Qx12 (.st Qx44 .nil)))), (.box 2 Qs13 (.box 4 (.agg (.st (.own Z5 (3, 0)) (.st (.own Z8 (4, 0)) (.st .nil (.st .nil .nil)))) .nil) (.box 4 Qs10 (.arr Z5 false (.arr Z8 false .nil)))))⟩, (.one (.exit 2) ⟨[0, 3, 2], (.st Qx12 (.st Qx34 (.st Qx44 .nil))), (.box 2 Qs13 (.box 4 (.agg (.st (.own Z5 (3, 0)) (.st (.own Z8 (4, 0)) (.st .nil (.st .nil .nil)))) .nil) (.box 4 Qs10 (.arr Z5 false (.arr Z8 false .nil)))))⟩)⟩
    | 3 => some ⟨⟨[4, 3, 0, 2], (.dat (.int .i64) (.st Qx34 (.st Qx12 (.st Qx44 .nil)))), (.box 2 Qs13 (.box 4 (.agg (.st (.own Z5 (3, 0)) (.st .nil (.st .nil (.st .nil .nil)))) .nil) (.box 4 Qs10 (.arr Z5 false .nil))))⟩, (.one (.exit 0) ⟨[3, 0, 2], (.st Qx34 (.st Qx12 (.st Qx44 .nil))), (.box 2 Qs13 (.box 4 (.agg (.st (.own Z5 (3, 0)) (.st .nil (.st .nil (.st .nil .nil)))) .nil) (.box 4 Qs10 (.arr Z5 false .nil))))⟩)⟩
    | _ => none) (fun _ _ => 0)
  | _ => {}
theorem ok8 : Abs.SpecOK Tryz.prog 8 sp8 :=
  okW (an := an8) (alc ok24 (alc ok25 (alc ok26 (alc ok27 (alc ok28 (alc ok29 al0)))))) rfl (by intro v; kernel_rfl)

def l9_0_5 (v : ((Int × Unit) × (Y17 × Y20 × (Y3 × Unit) × Y20 × (List Int) × Unit))) : Option (((Int × Unit) × (Y17 × Y20 × (Y3 × Unit) × Y20 × (List Int) × Unit)) ⊕ ((Unit) × (Y17 × Y20 × Y20 × (Y3 × Unit) × (List Int) × Unit))) :=
bif (decide ((v.1.1 : Int) > 0)) then ((m24 (((v.2.2.2.1.1.2.1.length : Int), ()), v.2.1, ())).bind fun a =>
bif (decide (v.2.2.2.2.2.1.length + [a.1.1].length ≤ 4294967296)) then
some (.inl (((w64 (v.1.1 - 1)), ()), a.2.1, v.2.2.1, v.2.2.2.1, v.2.2.2.2.1, (v.2.2.2.2.2.1 ++ [a.1.1]), ()))
else none)
else (some (.inr ((), v.2.1, v.2.2.2.2.1, v.2.2.1, v.2.2.2.1, v.2.2.2.2.2)))

/- (*pagewatch/pagewatchmade.Dice).Layer -/
def i9 : Abs.Sg := ⟨[0, 1, 2], (.st Qx12 (.dat Z1 (.dat .str .nil))), Qb30⟩
def o9 : Abs.Sg := ⟨[6], (.st (.ptr (1, 0) 10 0 0) .nil), (.box 2 Qs13 (.box 10 (.agg (.dat .str (.dat (.int .i64) (.dat (.int .i64) (.dat (.int .i64) (.dat (.int .i64) (.dat (.int .i64) (.st (.own (.int .i64) (2, 0)) (.st (.own Z2 (3, 0)) Qs4)))))))) .nil) (.arr (.int .i64) false Qb5)))⟩
def m9 (v : ((Y3 × ByteArray × Unit) × (Y17 × Unit))) : Option ((Unit) × (Y17 × Y20 × (List Int) × Y7 × Unit)) :=
(m24 (((v.1.1.1.length : Int), ()), v.2)).bind fun f =>
(m24 ((6, ()), f.2)).bind fun g =>
(m29 (([0, 32400, 7200, 9000, 79200, 1], ()), g.2)).bind fun h =>
(m24 ((3, ()), h.2)).bind fun c =>
(m24 ((2, ()), c.2)).bind fun j =>
((bif ((c.1.1 : Int) == 0) then ((m29 (([6, 8, 12, 24, 23, 49], ()), j.2)).bind fun m =>
some ((), m.2.1, ((v.1.2.1, f.1.1, (w64 ((w64 (20454 + g.1.1)) - 2)), h.1.1, c.1.1, m.1.1, 0, 0, ()), ()), (v.1.1, ()), ((ByteArray.empty, 0, 0, 0, 0, 0, 0, 0, ()), ()), ()))
else (some ((), j.2.1, ((v.1.2.1, f.1.1, (w64 ((w64 (20454 + g.1.1)) - 2)), h.1.1, c.1.1, (w64 (1 + j.1.1)), 0, 0, ()), ()), (v.1.1, ()), ((ByteArray.empty, 0, 0, 0, 0, 0, 0, 0, ()), ()), ()))) : Option ((Unit) × (Y17 × Y20 × (Y3 × Unit) × Y20 × Unit))).bind fun d =>
(m24 ((3, ()), d.2.1, ())).bind fun n =>
(loopT l9_0_5 (((w64 (1 + n.1.1)), ()), n.2.1, d.2.2.1, d.2.2.2.1, d.2.2.2.2.1, [], ())).bind fun b =>
(((m27 ((2, ()), b.2.1, ())).bind fun k =>
bif k.1.1 then ((m28 ((), k.2)).bind fun o =>
some ((), o.2.1, b.2.2.1, b.2.2.2.1, b.2.2.2.2.1, b.2.2.2.2.2.1, o.2.2))
else (some ((), k.2.1, b.2.2.1, b.2.2.2.1, b.2.2.2.2.1, b.2.2.2.2.2.1, [], ()))) : Option ((Unit) × (Y17 × Y20 × Y20 × (Y3 × Unit) × (List Int) × Y7 × Unit))).bind fun e =>
(((((m27 ((4, ()), e.2.1, ())).bind fun l =>
bif l.1.1 then (let s := (decide (((e.2.2.2.2.1.1.2.2.1.length : Int) : Int) > 0))
some ((s, ()), l.2.1, e.2.2))
else (some ((false, ()), l.2.1, e.2.2))) : Option ((Bool × Unit) × (Y17 × Y20 × Y20 × (Y3 × Unit) × (List Int) × Y7 × Unit))).bind fun a =>
bif a.1.1 then ((m24 (((a.2.2.2.2.1.1.2.2.1.length : Int), ()), a.2.1, ())).bind fun p =>
(m24 ((2, ()), p.2)).bind fun q =>
some ((), q.2.1, a.2.2.1, ((a.2.2.2.1.1.1, a.2.2.2.1.1.2.1, a.2.2.2.1.1.2.2.1, a.2.2.2.1.1.2.2.2.1, a.2.2.2.1.1.2.2.2.2.1, a.2.2.2.1.1.2.2.2.2.2.1, p.1.1, (w64 (1 + q.1.1)), ()), ()), a.2.2.2.2.2))
else (some ((), a.2.1, a.2.2.1, a.2.2.2.1, a.2.2.2.2.2))) : Option ((Unit) × (Y17 × Y20 × Y20 × (List Int) × Y7 × Unit))).bind fun r =>
some ((), r.2.1, r.2.2.2)
def sp9 : Abs.Spec := ⟨1, i9, o9, m9⟩
def an9 : Nat → Abs.FAn
  | 0 => Abs.FAn.mk (fun
    | 10 => some ⟨[65, 6, 7, 0, 4], (.dat .bool Qs39), (.box 2 Qs13 (.box 10 Qs6 (.box 10 (.agg (.dat .str (.dat (.int .i64) (.dat (.int .i64) (.dat (.int .i64) (.dat (.int .i64) (.dat (.int .i64) (.st (.own (.int .i64) (4, 0)) (.st (.own Z2 (5, 0)) Qs4)))))))) .nil) (.box 4 Qs32 (.arr (.int .i64) false Qb5)))))⟩
    | _ => none) (fun
    | 12 => some (⟨[6, 7], (.st (.ptr (1, 0) 10 0 0) (.st (.ptr (2, 0) 10 0 0) .nil)), (.box 2 Qs13 (.box 10 Qs6 (.box 10 (.agg (.dat .str (.dat (.int .i64) (.dat (.int .i64) (.dat (.int .i64) (.dat (.int .i64) (.dat (.int .i64) (.st (.own (.int .i64) (3, 0)) (.st (.own Z2 (4, 0)) Qs4)))))))) .nil) (.arr (.int .i64) false Qb5))))⟩, none)
    | 10 => some (⟨[6, 7, 0, 4], Qs39, (.box 2 Qs13 (.box 10 Qs6 (.box 10 (.agg (.dat .str (.dat (.int .i64) (.dat (.int .i64) (.dat (.int .i64) (.dat (.int .i64) (.dat (.int .i64) (.st (.own (.int .i64) (4, 0)) (.st (.own Z2 (5, 0)) Qs4)))))))) .nil) (.box 4 Qs32 (.arr (.int .i64) false Qb5)))))⟩, none)
    | 4 => some (⟨[7, 4, 0, 6], (.st (.ptr (1, 0) 10 0 0) (.st Qx44 (.st Qx12 (.st (.ptr (3, 0) 10 0 0) .nil)))), (.box 2 Qs13 (.box 10 Qs6 (.box 4 Qs32 (.box 10 Qs6 .nil))))⟩, none)
    | _ => none) (fun
    | 5 => some ⟨⟨[8, 7, 4, 0, 6], (.dat (.int .i64) (.st (.ptr (1, 0) 10 0 0) (.st Qx44 (.st Qx12 (.st (.ptr (3, 0) 10 0 0) .nil))))), (.box 2 Qs13 (.box 10 (.agg (.dat .str (.dat (.int .i64) (.dat (.int .i64) (.dat (.int .i64) (.dat (.int .i64) (.dat (.int .i64) (.st (.own (.int .i64) (4, 0)) (.st .nil Qs4)))))))) .nil) (.box 4 Qs32 (.box 10 Qs6 Qb17))))⟩, (.one (.exit 0) ⟨[6, 7, 0, 4], Qs39, (.box 2 Qs13 (.box 10 Qs6 (.box 10 (.agg (.dat .str (.dat (.int .i64) (.dat (.int .i64) (.dat (.int .i64) (.dat (.int .i64) (.dat (.int .i64) (.st (.own (.int .i64) (4, 0)) (.st .nil Qs4)))))))) .nil) (.box 4 Qs32 Qb17))))⟩)⟩
    | _ => none) (fun _ _ => 0)
  | _ => {}
theorem ok9 : Abs.SpecOK Tryz.prog 9 sp9 :=
  okW (an := an9) (alc ok24 (alc ok29 (alc ok27 (alc ok28 al0)))) rfl (by intro v; kernel_rfl)

/- (*pagewatch/pagewatchmade.Dice).Instant -/
def i12 : Abs.Sg := ⟨[0], (.st Qx12 .nil), Qb30⟩
def o12 : Abs.Sg := ⟨[2], Qs1, Qb30⟩
def m12 (v : ((Unit) × (Y17 × Unit))) : Option ((Int × Unit) × (Y17 × Unit)) :=
(m24 ((576, ()), v.2)).bind fun a =>
(((m27 ((3, ()), a.2)).bind fun b =>
bif b.1.1 then ((m29 (([(-1), 1, 1800, 3599], ()), b.2)).bind fun c =>
let d := (w64 ((w64 (1767139200 + (w64 (3600 * a.1.1)))) + c.1.1))
some ((d, ()), c.2))
else (some (((w64 (1767139200 + (w64 (3600 * a.1.1)))), ()), b.2))) : Option ((Int × Unit) × (Y17 × Unit))).bind fun e =>
some e
def sp12 : Abs.Spec := ⟨1, i12, o12, m12⟩
def an12 : Nat → Abs.FAn
  | 0 => Abs.FAn.mk (fun _ => none) (fun
    | 4 => some (⟨[3], Qs1, Qb30⟩, none)
    | _ => none) (fun _ => none) (fun _ _ => 0)
  | _ => {}
theorem ok12 : Abs.SpecOK Tryz.prog 12 sp12 :=
  okW (an := an12) (alc ok24 (alc ok27 (alc ok29 al0))) rfl (by intro v; kernel_rfl)

/- (*pagewatch/pagewatchmade.Dice).Edit -/
def i10 : Abs.Sg := ⟨[0, 1], (.st Qx12 Qs32), Qb30⟩
def o10 : Abs.Sg := ⟨[4], (.st (.ptr (1, 0) 5 0 0) .nil), (.box 2 Qs13 Qb21)⟩
def m10 (v : ((Y3 × Unit) × (Y17 × Unit))) : Option ((Unit) × (Y17 × (Y21 × Unit) × Unit)) :=
(m24 ((3, ()), v.2)).bind fun e =>
(m24 (((v.1.1.2.1.length : Int), ()), e.2)).bind fun d =>
(m12 ((), d.2)).bind fun a =>
(m29 (([3600, 86400, 7, 259200, 40000], ()), a.2)).bind fun b =>
((bif ((e.1.1 : Int) == 2) then (bif (decide (((v.1.1.2.1.length : Int) : Int) < 2)) then (some (.inr ((), b.2.1, ((0, d.1.1, 0, a.1.1, (w64 (a.1.1 + b.1.1)), ()), ()), ())))
else ((m24 (((w64 ((v.1.1.2.1.length : Int) - 1)), ()), b.2)).bind fun g =>
bif (decide ((v.1.1.2.1.length : Int) ≠ (0 : Int))) then
let k := (((w64 ((w64 (d.1.1 + 1)) + g.1.1)) : Int).tmod (v.1.1.2.1.length : Int))
some (.inl ((), g.2.1, ((0, 0, 0, 0, 0, ()), ()), ((e.1.1, d.1.1, k, a.1.1, (w64 (a.1.1 + b.1.1)), ()), ()), ()))
else none))
else (some (.inl ((), b.2.1, ((0, 0, 0, 0, 0, ()), ()), ((e.1.1, d.1.1, 0, a.1.1, (w64 (a.1.1 + b.1.1)), ()), ()), ())))) : Option (((Unit) × (Y17 × (Y21 × Unit) × (Y21 × Unit) × Unit)) ⊕ ((Unit) × (Y17 × (Y21 × Unit) × Unit)))).bind fun l =>
sumE l (fun f => (((((bif ((f.2.2.2.1.1.1 : Int) == 1) then ((m27 ((4, ()), f.2.1, ())).bind fun h =>
some (h.1, h.2.1, f.2.2))
else (some ((false, ()), f.2))) : Option ((Bool × Unit) × (Y17 × (Y21 × Unit) × (Y21 × Unit) × Unit))).bind fun c =>
bif c.1.1 then (some ((), c.2.1, c.2.2.1, ((c.2.2.2.1.1.1, (-1), c.2.2.2.1.1.2.2), ()), ()))
else (some ((), c.2))) : Option ((Unit) × (Y17 × (Y21 × Unit) × (Y21 × Unit) × Unit))).bind fun j =>
some ((), j.2.1, j.2.2.2))) (fun m => (some ((), m.2)))
def sp10 : Abs.Spec := ⟨1, i10, o10, m10⟩
def an10 : Nat → Abs.FAn
  | 0 => Abs.FAn.mk (fun
    | 9 => some ⟨[49, 4, 6], (.dat .bool (.st (.ptr (1, 0) 5 0 0) (.st (.ptr (2, 0) 5 0 0) .nil))), (.box 2 Qs13 (.box 5 (.dat Z15 .nil) Qb21))⟩
    | _ => none) (fun
    | 11 => some (⟨[4, 6], (.st (.ptr (1, 0) 5 0 0) (.st (.ptr (2, 0) 5 0 0) .nil)), (.box 2 Qs13 (.box 5 (.dat Z15 .nil) Qb21))⟩, none)
    | 9 => some (⟨[4, 6, 0], (.st (.ptr (1, 0) 5 0 0) (.st (.ptr (2, 0) 5 0 0) (.st Qx12 .nil))), (.box 2 Qs13 (.box 5 (.dat Z15 .nil) Qb21))⟩, some (.one .ret ⟨[4], (.st (.ptr (1, 0) 5 0 0) .nil), (.box 2 Qs13 Qb21)⟩))
    | _ => none) (fun _ => none) (fun _ _ => 0)
  | _ => {}
theorem ok10 : Abs.SpecOK Tryz.prog 10 sp10 :=
  okW (an := an10) (alc ok24 (alc ok12 (alc ok29 (alc ok27 al0)))) rfl (by intro v; kernel_rfl)

def l11_0_3 (v : ((Int × Unit) × (((Unit) × Unit) × (Y3 × Unit) × ((Unit) × Unit) × (List Y9) × (List Y18) × (List Y19) × (List Y11) × Unit))) : Option (((Int × Unit) × (((Unit) × Unit) × (Y3 × Unit) × ((Unit) × Unit) × (List Y9) × (List Y18) × (List Y19) × (List Y11) × Unit)) ⊕ ((Unit) × (((Unit) × Unit) × ((Unit) × Unit) × (List Y9) × (List Y18) × (List Y19) × (List Y11) × Unit))) :=
let b := (decide ((v.1.1 : Int) < (v.2.2.1.1.2.2.2.1.length : Int)))
bif b then (Abs.rowAt v.2.2.1.1.2.2.2.1 v.1.1 fun a _ =>
bif (decide (0 + a.2.1.length ≤ 4294967296)) then
bif (decide (0 + a.2.2.1.length ≤ 4294967296)) then
bif (decide (v.2.2.2.2.2.2.2.1.length + ([a] : List Y11).length ≤ 4294967296)) then
let c := (v.2.2.2.2.2.2.2.1 ++ ([a] : List Y11))
some (.inl (((w64 (v.1.1 + 1)), ()), ((), ()), v.2.2.1, ((), ()), v.2.2.2.2.1, v.2.2.2.2.2.1, v.2.2.2.2.2.2.1, c, ()))
else none
else none
else none)
else (some (.inr ((), ((), ()), ((), ()), v.2.2.2.2)))

/- pagewatch/pagewatchmade.Copy -/
def i11 : Abs.Sg := ⟨[0], Qs32, .nil⟩
def o11 : Abs.Sg := ⟨[2], (.st Qx22 .nil), (.box 4 (.agg (.st (.own Z5 (1, 0)) (.st (.own Z8 (2, 0)) (.st (.own Z13 (3, 0)) (.st (.own Z4 (4, 0)) .nil)))) .nil) (.arr Z5 false (.arr Z8 false (.arr Z13 false (.arr Z4 false .nil)))))⟩
def m11 (v : ((Y3 × Unit) × (Unit))) : Option ((Unit) × (((Unit) × Unit) × (List Y9) × (List Y18) × (List Y19) × (List Y11) × Unit)) :=
bif (decide (0 + v.1.1.1.length ≤ 4294967296)) then
bif (decide (0 + v.1.1.2.1.length ≤ 4294967296)) then
bif (decide (0 + v.1.1.2.2.1.length ≤ 4294967296)) then
(loopT l11_0_3 ((0, ()), ((), ()), v.1, ((), ()), v.1.1.1, v.1.1.2.1, v.1.1.2.2.1, [], ())).bind fun a =>
some ((), ((), ()), a.2.2.2)
else none
else none
else none
def sp11 : Abs.Spec := ⟨0, i11, o11, m11⟩
def an11 : Nat → Abs.FAn
  | 0 => Abs.FAn.mk (fun _ => none) (fun _ => none) (fun
    | 3 => some ⟨⟨[4, 3, 1, 2], (.dat (.int .i64) (.st Qx22 (.st Qx34 (.st Qx44 .nil)))), (.box 4 (.agg (.st (.own Z5 (3, 0)) (.st (.own Z8 (4, 0)) (.st (.own Z13 (5, 0)) (.st (.own Z4 (6, 0)) .nil)))) .nil) (.box 4 Qs32 (.box 4 Qs10 (.arr Z5 false (.arr Z8 false (.arr Z13 false (.arr Z4 false .nil)))))))⟩, (.one (.exit 0) ⟨[2, 3], (.st Qx22 (.st Qx34 .nil)), (.box 4 Qs10 (.box 4 (.agg (.st (.own Z5 (2, 0)) (.st (.own Z8 (3, 0)) (.st (.own Z13 (4, 0)) (.st (.own Z4 (5, 0)) .nil)))) .nil) (.arr Z5 false (.arr Z8 false (.arr Z13 false (.arr Z4 false .nil))))))⟩)⟩
    | _ => none) (fun _ _ => 0)
  | _ => {}
theorem ok11 : Abs.SpecOK Tryz.prog 11 sp11 :=
  okW (an := an11) al0 rfl (by intro v; kernel_rfl)

/- pagewatch/lexer.small -/
def i91 : Abs.Sg := ⟨[0], (.dat (.int .u8) .nil), .nil⟩
def o91 : Abs.Sg := ⟨[2], Qs8, .nil⟩
def m91 (v : ((Int × Unit) × (Unit))) : Option Y22 :=
((bif (decide ((v.1.1 : Int) ≥ 97)) then (some (((decide ((v.1.1 : Int) ≤ 122)), ()), ()))
else (some ((false, ()), ()))) : Option Y22).bind fun a =>
some a
def sp91 : Abs.Spec := ⟨0, i91, o91, m91⟩
def an91 : Nat → Abs.FAn
  | 0 => Abs.FAn.mk (fun
    | 1 => some ⟨[2], Qs8, .nil⟩
    | _ => none) (fun _ => none) (fun _ => none) (fun _ _ => 0)
  | _ => {}
theorem ok91 : Abs.SpecOK Tryz.prog 91 sp91 :=
  okW (an := an91) al0 rfl (by intro v; kernel_rfl)

/- pagewatch/lexer.digit -/
def i92 : Abs.Sg := ⟨[0], (.dat (.int .u8) .nil), .nil⟩
def o92 : Abs.Sg := ⟨[2], Qs8, .nil⟩
def m92 (v : ((Int × Unit) × (Unit))) : Option Y22 :=
((bif (decide ((v.1.1 : Int) ≥ 48)) then (some (((decide ((v.1.1 : Int) ≤ 57)), ()), ()))
else (some ((false, ()), ()))) : Option Y22).bind fun a =>
some a
def sp92 : Abs.Spec := ⟨0, i92, o92, m92⟩
def an92 : Nat → Abs.FAn
  | 0 => Abs.FAn.mk (fun
    | 1 => some ⟨[2], Qs8, .nil⟩
    | _ => none) (fun _ => none) (fun _ => none) (fun _ _ => 0)
  | _ => {}
theorem ok92 : Abs.SpecOK Tryz.prog 92 sp92 :=
  okW (an := an92) al0 rfl (by intro v; kernel_rfl)

def l36_0_4 (v : ((Int × ByteArray × Int × Unit) × (Unit))) : Option (((Int × ByteArray × Int × Unit) × (Unit)) ⊕ (Y22 ⊕ ((Unit) × (Unit)))) :=
bif (decide ((v.1.1 : Int) < v.1.2.2.1)) then (bif (decide ((0 : Int) ≤ v.1.1 ∧ (v.1.1 : Int) < v.1.2.1.size)) then
(((m91 (((((v.1.2.1[v.1.1.toNat]?.getD 0).toNat : Nat) : Int), ()), ())).bind fun b =>
bif (!b.1.1) then ((m92 (((((v.1.2.1[v.1.1.toNat]?.getD 0).toNat : Nat) : Int), ()), ())).bind fun c =>
bif (!c.1.1) then (let d := (((((v.1.2.1[v.1.1.toNat]?.getD 0).toNat : Nat) : Int) : Int) != 95)
bif d then (let e := (((((v.1.2.1[v.1.1.toNat]?.getD 0).toNat : Nat) : Int) : Int) != 45)
some ((e, v.1.2.1, v.1.2.2.1, v.1.1, ()), ()))
else (some ((false, v.1.2.1, v.1.2.2.1, v.1.1, ()), ())))
else (some ((false, v.1.2.1, v.1.2.2.1, v.1.1, ()), ())))
else (some ((false, v.1.2.1, v.1.2.2.1, v.1.1, ()), ()))) : Option ((Bool × ByteArray × Int × Int × Unit) × (Unit))).bind fun a =>
bif a.1.1 then (some (.inr (.inl ((false, ()), ()))))
else (some (.inl (((w64 (a.1.2.2.2.1 + 1)), a.1.2.1, a.1.2.2.1, ()), ())))
else none)
else (some (.inr (.inr ((), ()))))

/- pagewatch/lexer.Name -/
def i36 : Abs.Sg := ⟨[0], (.dat .str .nil), .nil⟩
def o36 : Abs.Sg := ⟨[2], Qs8, .nil⟩
def m36 (v : ((ByteArray × Unit) × (Unit))) : Option Y22 :=
((bif (v.1.1.toList == ByteArray.empty.toList) then (some ((true, v.1), ()))
else (bif (decide (((v.1.1.size : Int) : Int) > 24)) then (some ((true, v.1), ()))
else (bif (decide ((0 : Int) ≤ 0 ∧ (0 : Int) < v.1.1.size)) then
(m91 (((((v.1.1[0]?.getD 0).toNat : Nat) : Int), ()), ())).bind fun b =>
some (((!b.1.1), v.1), ())
else none))) : Option ((Bool × ByteArray × Unit) × (Unit))).bind fun a =>
bif a.1.1 then (some ((false, ()), ()))
else ((loopT l36_0_4 ((0, a.1.2.1, (a.1.2.1.size : Int), ()), ())).bind fun c =>
sumE c (fun d => (some d)) (fun e => (some ((true, ()), ()))))
def sp36 : Abs.Spec := ⟨0, i36, o36, m36⟩
def an36 : Nat → Abs.FAn
  | 0 => Abs.FAn.mk (fun
    | 7 => some ⟨[41, 0, 19, 20], (.dat .bool (.dat .str Qs4)), .nil⟩
    | 1 => some ⟨[17, 0], (.dat .bool (.dat .str .nil)), .nil⟩
    | _ => none) (fun _ => none) (fun
    | 4 => some ⟨⟨[20, 0, 19], (.dat (.int .i64) (.dat .str Qs1)), .nil⟩, (.more .ret ⟨[2], Qs8, .nil⟩ (.one (.exit 0) ⟨[], .nil, .nil⟩))⟩
    | _ => none) (fun _ _ => 0)
  | _ => {}
theorem ok36 : Abs.SpecOK Tryz.prog 36 sp36 :=
  okW (an := an36) (alc ok91 (alc ok92 al0)) rfl (by intro v; kernel_rfl)

/- 70 pagewatch/resolve.name: not told by a law: a parameter -/

/- 67 pagewatch/resolve.named[pagewatch/api.Zone]: not told by a law: a parameter -/

/- pagewatch/resolve.Check$1 -/
def i68 : Abs.Sg := ⟨[0], (.dat Z5 .nil), .nil⟩
def o68 : Abs.Sg := ⟨[2], (.dat .str .nil), .nil⟩
def m68 (v : ((Y9 × Unit) × (Unit))) : Option ((ByteArray × Unit) × (Unit)) :=
some ((v.1.1.1, ()), ())
def sp68 : Abs.Spec := ⟨0, i68, o68, m68⟩
def an68 : Nat → Abs.FAn
  | _ => {}
theorem ok68 : Abs.SpecOK Tryz.prog 68 sp68 :=
  okW (an := an68) al0 rfl (by intro v; kernel_rfl)

/- pagewatch/zone.in -/
def i199 : Abs.Sg := ⟨[0, 1, 2], Qs37, .nil⟩
def o199 : Abs.Sg := ⟨[6], Qs8, .nil⟩
def m199 (v : (Y12 × (Unit))) : Option Y22 :=
((bif (decide ((v.1.1 : Int) ≥ v.1.2.1)) then (some (((decide ((v.1.1 : Int) ≤ v.1.2.2.1)), ()), ()))
else (some ((false, ()), ()))) : Option Y22).bind fun a =>
some a
def sp199 : Abs.Spec := ⟨0, i199, o199, m199⟩
def an199 : Nat → Abs.FAn
  | 0 => Abs.FAn.mk (fun
    | 1 => some ⟨[6], Qs8, .nil⟩
    | _ => none) (fun _ => none) (fun _ => none) (fun _ _ => 0)
  | _ => {}
theorem ok199 : Abs.SpecOK Tryz.prog 199 sp199 :=
  okW (an := an199) al0 rfl (by intro v; kernel_rfl)

/- pagewatch/zone.rule -/
def i259 : Abs.Sg := ⟨[0], (.dat (.cons (.int .i64) (.cons (.int .i64) Z15)) .nil), .nil⟩
def o259 : Abs.Sg := ⟨[2], Qs1, .nil⟩
def m259 (v : ((Y23 × Unit) × (Unit))) : Option ((Int × Unit) × (Unit)) :=
(((m199 ((v.1.1.1, 1970, 2240, ()), ())).bind fun a =>
bif (!a.1.1) then (some ((true, ()), ()))
else ((m199 ((v.1.1.2.1, v.1.1.1, 2240, ()), ())).bind fun b =>
bif (!b.1.1) then (some ((true, ()), ()))
else ((m199 ((v.1.1.2.2.1, 1, 12, ()), ())).bind fun c =>
bif (!c.1.1) then (some ((true, ()), ()))
else ((m199 ((v.1.1.2.2.2.1, 1, 5, ()), ())).bind fun d =>
bif (!d.1.1) then (some ((true, ()), ()))
else ((m199 ((v.1.1.2.2.2.2.1, 0, 6, ()), ())).bind fun e =>
bif (!e.1.1) then (some ((true, ()), ()))
else ((m199 ((v.1.1.2.2.2.2.2.1, 0, 86399, ()), ())).bind fun f =>
bif (!f.1.1) then (some ((true, ()), ()))
else ((m199 ((v.1.1.2.2.2.2.2.2.1, (-64800), 64800, ()), ())).bind fun g =>
some (((!g.1.1), ()), ())))))))) : Option Y22).bind fun h =>
bif h.1.1 then (some ((1, ()), ()))
else (some ((0, ()), ()))
def sp259 : Abs.Spec := ⟨0, i259, o259, m259⟩
def an259 : Nat → Abs.FAn
  | 0 => Abs.FAn.mk (fun
    | 1 => some ⟨[44], Qs8, .nil⟩
    | _ => none) (fun _ => none) (fun _ => none) (fun _ _ => 0)
  | _ => {}
theorem ok259 : Abs.SpecOK Tryz.prog 259 sp259 :=
  okW (an := an259) (alc ok199 al0) rfl (by intro v; kernel_rfl)

/- 229 pagewatch/civil.Days: not told by a law: run where it is called -/

/- pagewatch/civil.Valid -/
def i318 : Abs.Sg := ⟨[0], Qs11, .nil⟩
def o318 : Abs.Sg := ⟨[2], Qs8, .nil⟩
def m318 (v : ((Y12 × Unit) × (Unit))) : Option Y22 :=
((bif (decide ((v.1.1.1 : Int) ≥ 1970)) then (bif (decide ((v.1.1.1 : Int) ≤ 2240)) then (bif (decide ((v.1.1.2.2.1 : Int) ≥ 1)) then (let a := (decide ((v.1.1.2.2.1 : Int) ≤ (daysIn v.1.1.1 v.1.1.2.1)))
some ((a, ()), ()))
else (some ((false, ()), ())))
else (some ((false, ()), ())))
else (some ((false, ()), ()))) : Option Y22).bind fun b =>
some b
def sp318 : Abs.Spec := ⟨0, i318, o318, m318⟩
def an318 : Nat → Abs.FAn
  | 0 => Abs.FAn.mk (fun
    | 1 => some ⟨[2], Qs8, .nil⟩
    | _ => none) (fun _ => none) (fun _ => none) (fun _ _ => 0)
  | _ => {}
theorem ok318 : Abs.SpecOK Tryz.prog 318 sp318 :=
  okW (an := an318) al0 rfl (by intro v; kernel_rfl)

/- pagewatch/civil.floor -/
def i297 : Abs.Sg := ⟨[0, 1], Qs4, .nil⟩
def o297 : Abs.Sg := ⟨[4], Qs1, .nil⟩
def m297 (v : ((Int × Int × Unit) × (Unit))) : Option ((Int × Unit) × (Unit)) :=
bif (decide (v.1.2.1 ≠ (0 : Int))) then
((bif (decide (v.1.2.1 ≠ (0 : Int))) then
let a := (decide ((((v.1.1 : Int).tmod v.1.2.1) : Int) < 0))
bif a then (some (((w64 ((w64 ((v.1.1 : Int).tdiv v.1.2.1)) - 1)), ()), ()))
else (some (((w64 ((v.1.1 : Int).tdiv v.1.2.1)), ()), ()))
else none) : Option ((Int × Unit) × (Unit))).bind fun b =>
some b
else none
def sp297 : Abs.Spec := ⟨0, i297, o297, m297⟩
def an297 : Nat → Abs.FAn
  | 0 => Abs.FAn.mk (fun _ => none) (fun
    | 4 => some (⟨[5], Qs1, .nil⟩, none)
    | _ => none) (fun _ => none) (fun _ _ => 0)
  | _ => {}
theorem ok297 : Abs.SpecOK Tryz.prog 297 sp297 :=
  okW (an := an297) al0 rfl (by intro v; kernel_rfl)

/- pagewatch/civil.count -/
def i227 : Abs.Sg := ⟨[0], Qs1, .nil⟩
def o227 : Abs.Sg := ⟨[2], Qs1, .nil⟩
def m227 (v : ((Int × Unit) × (Unit))) : Option ((Int × Unit) × (Unit)) :=
(m297 (((w64 (v.1.1 - 1)), 4, ()), ())).bind fun a =>
let b := (w64 ((w64 (365 * (w64 (v.1.1 - 1970)))) + a.1.1))
(m297 (((w64 (v.1.1 - 1)), 100, ()), ())).bind fun c =>
(m297 (((w64 (v.1.1 - 1)), 400, ()), ())).bind fun d =>
let e := (w64 ((w64 ((w64 (b - c.1.1)) + d.1.1)) - 477))
some ((e, ()), ())
def sp227 : Abs.Spec := ⟨0, i227, o227, m227⟩
def an227 : Nat → Abs.FAn
  | _ => {}
theorem ok227 : Abs.SpecOK Tryz.prog 227 sp227 :=
  okW (an := an227) (alc ok297 al0) rfl (by intro v; kernel_rfl)

def l319_0_3 (v : ((Int × Int × Unit) × ((Y12 × Unit) × Unit))) : Option (((Int × Int × Unit) × ((Y12 × Unit) × Unit)) ⊕ ((Int × Unit) × (Unit))) :=
bif (decide ((v.1.1 : Int) < v.2.1.1.2.1)) then (some (.inl (((w64 (v.1.1 + 1)), (w64 (v.1.2.1 + (daysIn v.2.1.1.1 v.1.1))), ()), v.2)))
else (some (.inr (v.1.2, ())))

/- pagewatch/civil.number -/
def i319 : Abs.Sg := ⟨[0], Qs11, .nil⟩
def o319 : Abs.Sg := ⟨[2], Qs1, .nil⟩
def m319 (v : ((Y12 × Unit) × (Unit))) : Option ((Int × Unit) × (Unit)) :=
(m227 ((v.1.1.1, ()), ())).bind fun a =>
(loopT l319_0_3 ((1, (w64 ((w64 (a.1.1 + v.1.1.2.2.1)) - 1)), ()), v)).bind fun b =>
some b
def sp319 : Abs.Spec := ⟨0, i319, o319, m319⟩
def an319 : Nat → Abs.FAn
  | 0 => Abs.FAn.mk (fun _ => none) (fun _ => none) (fun
    | 3 => some ⟨⟨[4, 1, 3], (.dat (.int .i64) (.st Qx20 Qs1)), (.box 3 Qs11 .nil)⟩, (.one (.exit 0) ⟨[3], Qs1, .nil⟩)⟩
    | _ => none) (fun _ _ => 0)
  | _ => {}
theorem ok319 : Abs.SpecOK Tryz.prog 319 sp319 :=
  okW (an := an319) (alc ok227 al0) rfl (by intro v; kernel_rfl)

/- pagewatch/civil.Weekday -/
def i320 : Abs.Sg := ⟨[0], Qs1, .nil⟩
def o320 : Abs.Sg := ⟨[2], Qs1, .nil⟩
def m320 (v : ((Int × Unit) × (Unit))) : Option ((Int × Unit) × (Unit)) :=
let a := (((w64 (((v.1.1 : Int).tmod 7) + 10)) : Int).tmod 7)
some ((a, ()), ())
def sp320 : Abs.Spec := ⟨0, i320, o320, m320⟩
def an320 : Nat → Abs.FAn
  | _ => {}
theorem ok320 : Abs.SpecOK Tryz.prog 320 sp320 :=
  okW (an := an320) al0 rfl (by intro v; kernel_rfl)

/- pagewatch/civil.Nth -/
def i260 : Abs.Sg := ⟨[0, 1, 2, 3], (.dat (.int .i64) Qs37), .nil⟩
def o260 : Abs.Sg := ⟨[8, 9], Qs4, .nil⟩
def m260 (v : ((Int × Int × Int × Int × Unit) × (Unit))) : Option ((Int × Int × Unit) × (Unit)) :=
(((m318 (((v.1.1, v.1.2.1, 1, ()), ()), ())).bind fun d =>
bif (!d.1.1) then (some ((true, v.1.2.1, v.1.1, v.1.2.2), ((v.1.1, v.1.2.1, 1, ()), ()), ()))
else (bif (decide ((v.1.2.2.1 : Int) < 1)) then (some ((true, v.1.2.1, v.1.1, v.1.2.2), ((v.1.1, v.1.2.1, 1, ()), ()), ()))
else (bif (decide ((v.1.2.2.1 : Int) > 5)) then (some ((true, v.1.2.1, v.1.1, v.1.2.2), ((v.1.1, v.1.2.1, 1, ()), ()), ()))
else (bif (decide ((v.1.2.2.2.1 : Int) < 0)) then (some ((true, v.1.2.1, v.1.1, v.1.2.2), ((v.1.1, v.1.2.1, 1, ()), ()), ()))
else (some (((decide ((v.1.2.2.2.1 : Int) > 6)), v.1.2.1, v.1.1, v.1.2.2), ((v.1.1, v.1.2.1, 1, ()), ()), ())))))) : Option ((Bool × Int × Int × Int × Int × Unit) × ((Y12 × Unit) × Unit))).bind fun a =>
bif a.1.1 then (some ((0, 1, ()), ()))
else ((m319 a.2).bind fun b =>
(m320 b).bind fun e =>
let f := (((w64 ((w64 (a.1.2.2.2.2.1 - e.1.1)) + 7)) : Int).tmod 7)
let c := (w64 ((w64 (b.1.1 + f)) + (w64 (7 * (w64 (a.1.2.2.2.1 - 1))))))
((let g := (decide ((c : Int) ≥ (w64 (b.1.1 + (daysIn a.1.2.2.1 a.1.2.1)))))
bif g then (some (((w64 (c - 7)), ()), ()))
else (some ((c, ()), ()))) : Option ((Int × Unit) × (Unit))).bind fun h =>
some ((h.1.1, 0, ()), ()))
def sp260 : Abs.Spec := ⟨0, i260, o260, m260⟩
def an260 : Nat → Abs.FAn
  | 0 => Abs.FAn.mk (fun
    | 2 => some ⟨[34, 1, 0, 2, 3, 10], (.dat .bool (.dat (.int .i64) (.dat (.int .i64) (.dat (.int .i64) (.dat (.int .i64) (.st Qx20 .nil)))))), (.box 3 Qs11 .nil)⟩
    | _ => none) (fun
    | 8 => some (⟨[12], Qs1, .nil⟩, none)
    | _ => none) (fun _ => none) (fun _ _ => 0)
  | _ => {}
theorem ok260 : Abs.SpecOK Tryz.prog 260 sp260 :=
  okW (an := an260) (alc ok318 (alc ok319 (alc ok320 al0))) rfl (by intro v; kernel_rfl)

/- 261 slices.SortStableFunc[[]pagewatch/zone.occurrence,pagewatch/zone.occurrence]: not told by a law: run where it is called -/

def l198_0_7 (v : ((Int × Int × (List Y23) × Int × Unit) × ((Y9 × Unit) × Unit))) : Option (((Int × Int × (List Y23) × Int × Unit) × ((Y9 × Unit) × Unit)) ⊕ (((Int × Unit) × (Y7 × Unit)) ⊕ ((Int × Unit) × ((Y9 × Unit) × Unit)))) :=
bif (decide ((v.1.1 : Int) < v.1.2.2.2.1)) then (Abs.rowAt v.1.2.2.1 v.1.1 fun a _ =>
(m259 ((a, ()), ())).bind fun b =>
bif ((b.1.1 : Int) != 0) then (some (.inr (.inl (b.1, [], ()))))
else (let c := (w64 (v.1.2.1 + (w64 ((w64 (a.2.1 - a.1)) + 1))))
some (.inl (((w64 (v.1.1 + 1)), c, v.1.2.2), v.2))))
else (some (.inr (.inr ((v.1.2.1, ()), v.2))))

def l198_0_21 (v : ((Int × (List Y23) × Int × Int × Unit) × ((Y23 × Unit) × Y7 × Unit))) : Option (((Int × (List Y23) × Int × Int × Unit) × ((Y23 × Unit) × Y7 × Unit)) ⊕ (((List Y23) × Int × Int × Unit) × (Y7 × Unit))) :=
bif (decide ((v.1.1 : Int) ≤ v.2.1.1.2.1)) then ((m260 ((v.1.1, v.2.1.1.2.2.1, v.2.1.1.2.2.2.1, v.2.1.1.2.2.2.2.1, ()), ())).bind fun b =>
let a := (w64 ((w64 (b.1.1 * 86400)) + v.2.1.1.2.2.2.2.2.1))
bif (decide (v.2.2.1.length + ([(a, v.2.1.1.2.2.2.2.2.2)] : List (Int × Int × Unit)).length ≤ 4294967296)) then
let c := (v.2.2.1 ++ ([(a, v.2.1.1.2.2.2.2.2.2)] : List (Int × Int × Unit)))
some (.inl (((w64 (v.1.1 + 1)), v.1.2), v.2.1, c, ()))
else none)
else (some (.inr (v.1.2, v.2.2)))

def l198_0_18 (v : ((Int × (List Y23) × Int × Unit) × (Y7 × Unit))) : Option (((Int × (List Y23) × Int × Unit) × (Y7 × Unit)) ⊕ ((Unit) × (Y7 × Unit))) :=
bif (decide ((v.1.1 : Int) < v.1.2.2.1)) then (Abs.rowAt v.1.2.1 v.1.1 fun b _ =>
(loopT l198_0_21 ((b.1, v.1.2.1, v.1.2.2.1, v.1.1, ()), (b, ()), v.2)).bind fun a =>
some (.inl (((w64 (a.1.2.2.1 + 1)), a.1.1, a.1.2.1, ()), a.2)))
else (some (.inr ((), v.2)))

/- pagewatch/zone.occurrences -/
def i198 : Abs.Sg := ⟨[0], (.dat Z5 .nil), .nil⟩
def o198 : Abs.Sg := ⟨[2, 3], (.st Qx9 Qs1), Qb5⟩
def m198 (v : ((Y9 × Unit) × (Unit))) : Option ((Int × Unit) × (Y7 × Unit)) :=
(m199 ((v.1.1.2.1, (-64800), 64800, ()), ())).bind fun c =>
bif (!c.1.1) then (some ((1, ()), [], ()))
else (let d := (decide (((v.1.1.2.2.1.length : Int) : Int) > 16))
bif d then (some ((5, ()), [], ()))
else ((loopT l198_0_7 ((0, 0, v.1.1.2.2.1, (v.1.1.2.2.1.length : Int), ()), v)).bind fun e =>
sumE e (fun f => (some f)) (fun b => (bif (decide ((b.1.1 : Int) > 640)) then (some ((5, ()), [], ()))
else ((loopT l198_0_18 ((0, b.2.1.1.2.2.1, (b.2.1.1.2.2.1.length : Int), ()), [], ())).bind fun a =>
bif (List.isEmpty a.2.1 && decide (0 = 0 ∧ a.2.1.length = 0)) then
bif (decide (a.2.1.length = a.2.1.length) && true) then
some ((0, ()), a.2)
else none
else none)))))
def sp198 : Abs.Spec := ⟨0, i198, o198, m198⟩
def an198 : Nat → Abs.FAn
  | 0 => Abs.FAn.mk (fun _ => none) (fun _ => none) (fun
    | 18 => some ⟨⟨[8, 48, 46, 47], (.st Qx9 (.dat (.int .i64) (.dat (.row (.cons (.int .i64) (.cons (.int .i64) Z15))) Qs1))), Qb5⟩, (.one (.exit 2) ⟨[8], Qs35, Qb5⟩)⟩
    | 21 => some ⟨⟨[11, 10, 8, 46, 47, 48], (.dat (.int .i64) (.st (.ptr (0, 0) 7 0 0) (.st Qx43 (.dat (.row (.cons (.int .i64) (.cons (.int .i64) Z15))) Qs4)))), (.box 7 (.dat (.cons (.int .i64) (.cons (.int .i64) Z15)) .nil) Qb5)⟩, (.one (.exit 4) ⟨[8, 46, 47, 48], (.st Qx9 (.dat (.row (.cons (.int .i64) (.cons (.int .i64) Z15))) Qs4)), Qb5⟩)⟩
    | 7 => some ⟨⟨[25, 4, 23, 1, 24], (.dat (.int .i64) (.dat (.int .i64) (.dat (.row (.cons (.int .i64) (.cons (.int .i64) Z15))) (.st Qx20 Qs1)))), (.box 3 (.dat Z5 .nil) .nil)⟩, (.more .ret ⟨[2, 3], (.st Qx9 Qs1), Qb5⟩ (.one (.exit 0) ⟨[1, 4], (.st Qx20 Qs1), (.box 3 (.dat Z5 .nil) .nil)⟩))⟩
    | _ => none) (fun _ _ => 0)
  | _ => {}
theorem ok198 : Abs.SpecOK Tryz.prog 198 sp198 :=
  okW (an := an198) (alc ok199 (alc ok259 (alc ok260 al0))) rfl (by intro v; kernel_rfl)

def l117_0_7 (v : (Y12 × (Y7 × Y7 × Unit))) : Option ((Y12 × (Y7 × Y7 × Unit)) ⊕ (((Int × Unit) × (Y7 × Unit)) ⊕ ((Unit) × (Y7 × Unit)))) :=
bif (decide ((v.1.1 : Int) < v.1.2.2.1)) then (((bif (decide ((0 : Int) ≤ v.1.1 ∧ (v.1.1 : Int) < v.2.2.1.length)) then
(v.2.2.1[v.1.1.toNat]?).bind fun a =>
bif ((a.2.1 : Int) == v.1.2.1) then (some (.inl ((v.1.2.1, v.1.2.2.1, v.1.1, ()), v.2)))
else (((let d := (decide (((w64 (a.2.1 - v.1.2.1)) : Int) ≥ 86400))
bif d then (some ((true, v.1.2.2.1, v.1.1, (w64 (a.1 - v.1.2.1)), ()), v.2.2.1, (a, ()), v.2.1, ()))
else (let e := (decide (((w64 (a.2.1 - v.1.2.1)) : Int) ≤ (-86400)))
bif e then (some ((true, v.1.2.2.1, v.1.1, (w64 (a.1 - v.1.2.1)), ()), v.2.2.1, (a, ()), v.2.1, ()))
else ((m199 (((w64 (a.1 - v.1.2.1)), 0, 8589934592, ()), ())).bind fun f =>
bif (!f.1.1) then (some ((true, v.1.2.2.1, v.1.1, (w64 (a.1 - v.1.2.1)), ()), v.2.2.1, (a, ()), v.2.1, ()))
else (let g := (decide ((((v.2.1.length : Nat) : Int) : Int) > 0))
bif g then (bif (decide ((0 : Int) ≤ (w64 (((v.2.1.length : Nat) : Int) - 1)) ∧ ((w64 (((v.2.1.length : Nat) : Int) - 1)) : Int) < v.2.1.length)) then
(v.2.1[(w64 (((v.2.1.length : Nat) : Int) - 1)).toNat]?).bind fun h =>
let j := (decide (((w64 (a.1 - v.1.2.1)) : Int) < (w64 (h.1 + 604800))))
some ((j, v.1.2.2.1, v.1.1, (w64 (a.1 - v.1.2.1)), ()), v.2.2.1, (a, ()), v.2.1, ())
else none)
else (some ((false, v.1.2.2.1, v.1.1, (w64 (a.1 - v.1.2.1)), ()), v.2.2.1, (a, ()), v.2.1, ())))))) : Option ((Bool × Int × Int × Int × Unit) × (Y7 × Y25 × Y7 × Unit))).bind fun b =>
bif b.1.1 then (some (.inr ((6, ()), [], ())))
else (bif (decide (b.2.2.2.1.length + ([(b.1.2.2.2.1, b.2.2.1.1.2)] : List (Int × Int × Unit)).length ≤ 4294967296)) then
let k := (b.2.2.2.1 ++ ([(b.1.2.2.2.1, b.2.2.1.1.2)] : List (Int × Int × Unit)))
some (.inl ((b.2.2.1.1.2.1, b.1.2.1, b.1.2.2.1, ()), k, b.2.1, ()))
else none))
else none) : Option ((Y12 × (Y7 × Y7 × Unit)) ⊕ ((Int × Unit) × (Y7 × Unit)))).bind fun l =>
sumE l (fun c => (some (.inl (((w64 (c.1.2.2.1 + 1)), c.1.1, c.1.2.1, ()), c.2)))) (fun m => (some (.inr (.inl m)))))
else (some (.inr (.inr ((), v.2.1, ()))))

/- pagewatch/zone.Transitions -/
def i117 : Abs.Sg := ⟨[0], (.dat Z5 .nil), .nil⟩
def o117 : Abs.Sg := ⟨[2, 3], (.st Qx9 Qs1), Qb5⟩
def m117 (v : ((Y9 × Unit) × (Unit))) : Option ((Int × Unit) × (Y7 × Unit)) :=
(m198 v).bind fun a =>
bif ((a.1.1 : Int) != 0) then (some (a.1, [], ()))
else ((loopT l117_0_7 ((0, v.1.1.2.1, ((a.2.1.length : Nat) : Int), ()), [], a.2)).bind fun b =>
sumE b (fun c => (some c)) (fun d => (some ((0, ()), d.2))))
def sp117 : Abs.Spec := ⟨0, i117, o117, m117⟩
def an117 : Nat → Abs.FAn
  | 0 => Abs.FAn.mk (fun
    | 11 => some ⟨[67, 22, 23, 24, 9, 10, 6], (.dat .bool (.st Qx9 (.dat (.int .i64) (.dat (.int .i64) (.st (.ptr (1, 0) 2 0 0) (.dat (.int .i64) (.st (.own Z2 (2, 0)) .nil))))))), (.arr Z2 false (.box 2 (.dat Z2 .nil) Qb5))⟩
    | _ => none) (fun
    | 15 => some (⟨[6, 7, 22, 23, 24], (.st Qx9 (.dat (.int .i64) (.st Qx43 Qs4))), (.arr Z2 false Qb5)⟩, some (.one .ret ⟨[2, 3], (.st Qx9 Qs1), Qb5⟩))
    | _ => none) (fun
    | 7 => some ⟨⟨[24, 6, 7, 22, 23], (.dat (.int .i64) (.st Qx9 (.dat (.int .i64) (.st Qx43 Qs1)))), (.arr Z2 false Qb5)⟩, (.more .ret ⟨[2, 3], (.st Qx9 Qs1), Qb5⟩ (.one (.exit 0) ⟨[6], Qs35, Qb5⟩))⟩
    | _ => none) (fun _ _ => 0)
  | _ => {}
theorem ok117 : Abs.SpecOK Tryz.prog 117 sp117 :=
  okW (an := an117) (alc ok198 (alc ok199 al0)) rfl (by intro v; kernel_rfl)

/- pagewatch/zone.Check -/
def i147 : Abs.Sg := ⟨[0], (.dat Z5 .nil), .nil⟩
def o147 : Abs.Sg := ⟨[2], Qs1, .nil⟩
def m147 (v : ((Y9 × Unit) × (Unit))) : Option ((Int × Unit) × (Unit)) :=
(m117 v).bind fun a =>
some (a.1, ())
def sp147 : Abs.Spec := ⟨0, i147, o147, m147⟩
def an147 : Nat → Abs.FAn
  | _ => {}
theorem ok147 : Abs.SpecOK Tryz.prog 147 sp147 :=
  okW (an := an147) (alc ok117 al0) rfl (by intro v; kernel_rfl)

/- 219 slices.IndexFunc[[]pagewatch/api.YearRule,pagewatch/api.YearRule]: not told by a law: a parameter -/

/- 148 slices.ContainsFunc[[]pagewatch/api.YearRule,pagewatch/api.YearRule]: not told by a law: a parameter -/

/- pagewatch/resolve.checkZone$1 -/
def i149 : Abs.Sg := ⟨[0], (.dat (.cons (.int .i64) (.cons (.int .i64) Z15)) .nil), .nil⟩
def o149 : Abs.Sg := ⟨[2], Qs8, .nil⟩
def m149 (v : ((Y23 × Unit) × (Unit))) : Option Y22 :=
let a := ((((v.1.1.2.2.2.2.2.2.1 : Int).tmod 60) : Int) != 0)
some ((a, ()), ())
def sp149 : Abs.Spec := ⟨0, i149, o149, m149⟩
def an149 : Nat → Abs.FAn
  | _ => {}
theorem ok149 : Abs.SpecOK Tryz.prog 149 sp149 :=
  okW (an := an149) al0 rfl (by intro v; kernel_rfl)

def l69_2_2 (v : ((Int × (List Y23) × Int × Unit) × (Unit))) : Option (((Int × (List Y23) × Int × Unit) × (Unit)) ⊕ (((Int × Unit) × (Unit)) ⊕ ((Unit) × (Unit)))) :=
bif (decide ((v.1.1 : Int) < v.1.2.2.1)) then (Abs.rowAt v.1.2.1 v.1.1 fun a _ =>
(m149 ((a, ()), ())).bind fun b =>
bif b.1.1 then (some (.inr (.inl ((v.1.1, ()), ()))))
else (some (.inl (((w64 (v.1.1 + 1)), v.1.2), ()))))
else (some (.inr (.inr ((), ()))))

/- pagewatch/resolve.checkZone -/
def i69 : Abs.Sg := ⟨[0], (.dat Z5 .nil), .nil⟩
def o69 : Abs.Sg := ⟨[2], Qs1, .nil⟩
def m69 (v : ((Y9 × Unit) × (Unit))) : Option ((Int × Unit) × (Unit)) :=
(((m147 v).bind fun a =>
bif ((a.1.1 : Int) != 0) then (some ((true, ()), ()))
else (bif ((((v.1.1.2.1 : Int).tmod 60) : Int) != 0) then (some ((true, ()), ()))
else ((((loopT l69_2_2 ((0, v.1.1.2.2.1, (v.1.1.2.2.1.length : Int), ()), ())).bind fun b =>
sumE b (fun c => (some (((decide ((c.1.1 : Int) ≥ 0)), ()), ()))) (fun f => (some ((false, ()), ())))) : Option Y22).bind fun d =>
some d))) : Option Y22).bind fun e =>
bif e.1.1 then (some ((8, ()), ()))
else (some ((0, ()), ()))
def sp69 : Abs.Spec := ⟨0, i69, o69, m69⟩
def an69 : Nat → Abs.FAn
  | 0 => Abs.FAn.mk (fun
    | 1 => some ⟨[16], Qs8, .nil⟩
    | _ => none) (fun _ => none) (fun _ => none) (fun
    | 1, 12 => 1
    | _, _ => 0)
  | 1 => Abs.FAn.mk (fun
    | 1 => some ⟨[4], Qs8, .nil⟩
    | _ => none) (fun _ => none) (fun _ => none) (fun
    | 1, 2 => 2
    | _, _ => 0)
  | 2 => Abs.FAn.mk (fun _ => none) (fun _ => none) (fun
    | 2 => some ⟨⟨[8, 0, 1, 7], (.dat (.int .i64) (.dat (.row (.cons (.int .i64) (.cons (.int .i64) Z15))) (.st (.clo 149 []) Qs1))), .nil⟩, (.more .ret ⟨[4], Qs1, .nil⟩ (.one (.exit 0) ⟨[], .nil, .nil⟩))⟩
    | _ => none) (fun _ _ => 0)
  | _ => {}
theorem ok69 : Abs.SpecOK Tryz.prog 69 sp69 :=
  okW (an := an69) (alc ok147 (alc ok149 al0)) rfl (by intro v; kernel_rfl)

/- pagewatch/resolve.index -/
def i150 : Abs.Sg := ⟨[0, 1], Qs4, .nil⟩
def o150 : Abs.Sg := ⟨[4], Qs8, .nil⟩
def m150 (v : ((Int × Int × Unit) × (Unit))) : Option Y22 :=
((bif (decide ((v.1.1 : Int) ≥ 0)) then (some (((decide ((v.1.1 : Int) < v.1.2.1)), ()), ()))
else (some ((false, ()), ()))) : Option Y22).bind fun a =>
some a
def sp150 : Abs.Spec := ⟨0, i150, o150, m150⟩
def an150 : Nat → Abs.FAn
  | 0 => Abs.FAn.mk (fun
    | 1 => some ⟨[4], Qs8, .nil⟩
    | _ => none) (fun _ => none) (fun _ => none) (fun _ _ => 0)
  | _ => {}
theorem ok150 : Abs.SpecOK Tryz.prog 150 sp150 :=
  okW (an := an150) al0 rfl (by intro v; kernel_rfl)

def l113_0_4 (v : ((Int × Y7 × Y7 × Int × Unit) × (Unit))) : Option (((Int × Y7 × Y7 × Int × Unit) × (Unit)) ⊕ (((Int × Unit) × (Unit)) ⊕ ((Unit) × (Unit)))) :=
bif (decide ((v.1.1 : Int) < v.1.2.2.2.1)) then (Abs.rowAt v.1.2.2.1 v.1.1 fun b _ =>
((bif (decide ((b.1 : Int) < 0)) then (some ((true, v.1.2.1, v.1.2.2.1, v.1.2.2.2.1, v.1.1, v.1.1, ()), (b, ()), ()))
else (bif (decide ((b.1 : Int) ≥ b.2.1)) then (some ((true, v.1.2.1, v.1.2.2.1, v.1.2.2.2.1, v.1.1, v.1.1, ()), (b, ()), ()))
else (some (((decide ((b.2.1 : Int) > 604800)), v.1.2.1, v.1.2.2.1, v.1.2.2.2.1, v.1.1, v.1.1, ()), (b, ()), ())))) : Option ((Bool × Y7 × Y7 × Int × Int × Int × Unit) × (Y25 × Unit))).bind fun a =>
bif a.1.1 then (some (.inr (.inl ((1, ()), ()))))
else (((bif (decide ((a.1.2.2.2.2.2.1 : Int) > 0)) then (Abs.rowAt a.1.2.1 (w64 (a.1.2.2.2.2.2.1 - 1)) fun d _ =>
some (((decide ((a.2.1.1.1 : Int) < d.2.1)), a.1.2.1, a.1.2.2.1, a.1.2.2.2.1, a.1.2.2.2.2.1, ()), ()))
else (some ((false, a.1.2.1, a.1.2.2.1, a.1.2.2.2.1, a.1.2.2.2.2.1, ()), ()))) : Option ((Bool × Y7 × Y7 × Int × Int × Unit) × (Unit))).bind fun c =>
bif c.1.1 then (some (.inr (.inl ((6, ()), ()))))
else (some (.inl (((w64 (c.1.2.2.2.2.1 + 1)), c.1.2.1, c.1.2.2.1, c.1.2.2.2.1, ()), ())))))
else (some (.inr (.inr ((), ()))))

/- pagewatch/week.Check -/
def i113 : Abs.Sg := ⟨[0], (.dat (.row Z2) .nil), .nil⟩
def o113 : Abs.Sg := ⟨[2], Qs1, .nil⟩
def m113 (v : ((Y7 × Unit) × (Unit))) : Option ((Int × Unit) × (Unit)) :=
bif (decide (((v.1.1.length : Int) : Int) > 14)) then (some ((5, ()), ()))
else ((loopT l113_0_4 ((0, v.1.1, v.1.1, (v.1.1.length : Int), ()), ())).bind fun a =>
sumE a (fun b => (some b)) (fun c => (some ((0, ()), ()))))
def sp113 : Abs.Spec := ⟨0, i113, o113, m113⟩
def an113 : Nat → Abs.FAn
  | 0 => Abs.FAn.mk (fun
    | 8 => some ⟨[31, 0, 8, 9, 10], (.dat .bool (.dat (.row Z2) (.dat (.row Z2) Qs4))), .nil⟩
    | 6 => some ⟨[15, 0, 8, 9, 10, 3, 4], (.dat .bool (.dat (.row Z2) (.dat (.row Z2) (.dat (.int .i64) (.dat (.int .i64) (.dat (.int .i64) (.st Qx12 .nil))))))), Qb31⟩
    | _ => none) (fun _ => none) (fun
    | 4 => some ⟨⟨[10, 0, 8, 9], (.dat (.int .i64) (.dat (.row Z2) (.dat (.row Z2) Qs1))), .nil⟩, (.more .ret ⟨[2], Qs1, .nil⟩ (.one (.exit 0) ⟨[], .nil, .nil⟩))⟩
    | _ => none) (fun _ _ => 0)
  | _ => {}
theorem ok113 : Abs.SpecOK Tryz.prog 113 sp113 :=
  okW (an := an113) al0 rfl (by intro v; kernel_rfl)

/- pagewatch/resolve.in -/
def i220 : Abs.Sg := ⟨[0, 1, 2], Qs37, .nil⟩
def o220 : Abs.Sg := ⟨[6], Qs8, .nil⟩
def m220 (v : (Y12 × (Unit))) : Option Y22 :=
((bif (decide ((v.1.1 : Int) ≥ v.1.2.1)) then (some (((decide ((v.1.1 : Int) ≤ v.1.2.2.1)), ()), ()))
else (some ((false, ()), ()))) : Option Y22).bind fun a =>
some a
def sp220 : Abs.Spec := ⟨0, i220, o220, m220⟩
def an220 : Nat → Abs.FAn
  | 0 => Abs.FAn.mk (fun
    | 1 => some ⟨[6], Qs8, .nil⟩
    | _ => none) (fun _ => none) (fun _ => none) (fun _ _ => 0)
  | _ => {}
theorem ok220 : Abs.SpecOK Tryz.prog 220 sp220 :=
  okW (an := an220) al0 rfl (by intro v; kernel_rfl)

/- pagewatch/resolve.hours -/
def i151 : Abs.Sg := ⟨[0], Qs1, .nil⟩
def o151 : Abs.Sg := ⟨[2], Qs8, .nil⟩
def m151 (v : ((Int × Unit) × (Unit))) : Option Y22 :=
(((m220 ((v.1.1, 0, 604800, ()), ())).bind fun a =>
bif a.1.1 then (some ((((((v.1.1 : Int).tmod 3600) : Int) == 0), ()), ()))
else (some ((false, ()), ()))) : Option Y22).bind fun b =>
some b
def sp151 : Abs.Spec := ⟨0, i151, o151, m151⟩
def an151 : Nat → Abs.FAn
  | 0 => Abs.FAn.mk (fun
    | 1 => some ⟨[2], Qs8, .nil⟩
    | _ => none) (fun _ => none) (fun _ => none) (fun _ _ => 0)
  | _ => {}
theorem ok151 : Abs.SpecOK Tryz.prog 151 sp151 :=
  okW (an := an151) (alc ok220 al0) rfl (by intro v; kernel_rfl)

/- pagewatch/resolve.checkPerson -/
def i71 : Abs.Sg := ⟨[0, 1], (.dat Z1 (.dat Z8 .nil)), .nil⟩
def o71 : Abs.Sg := ⟨[4], Qs1, .nil⟩
def m71 (v : ((Y3 × Y18 × Unit) × (Unit))) : Option ((Int × Unit) × (Unit)) :=
(m150 ((v.1.2.1.2.1, (v.1.1.1.length : Int), ()), ())).bind fun a =>
bif (!a.1.1) then (some ((3, ()), ()))
else ((m113 ((v.1.2.1.2.2.1, ()), ())).bind fun b =>
bif ((b.1.1 : Int) != 0) then (some ((8, ()), ()))
else ((((m151 ((v.1.2.1.2.2.2.1, ()), ())).bind fun c =>
bif (!c.1.1) then (some ((true, ()), ()))
else ((m151 ((v.1.2.1.2.2.2.2.1, ()), ())).bind fun d =>
some (((!d.1.1), ()), ()))) : Option Y22).bind fun e =>
bif e.1.1 then (some ((1, ()), ()))
else (some ((0, ()), ()))))
def sp71 : Abs.Spec := ⟨0, i71, o71, m71⟩
def an71 : Nat → Abs.FAn
  | 0 => Abs.FAn.mk (fun
    | 5 => some ⟨[18], Qs8, .nil⟩
    | _ => none) (fun _ => none) (fun _ => none) (fun _ _ => 0)
  | _ => {}
theorem ok71 : Abs.SpecOK Tryz.prog 71 sp71 :=
  okW (an := an71) (alc ok150 (alc ok113 (alc ok151 al0))) rfl (by intro v; kernel_rfl)

/- 210 slices.IndexFunc[[]int,int]: not told by a law: a parameter -/

/- 152 slices.ContainsFunc[[]int,int]: not told by a law: a parameter -/

def l228_0_2 (v : ((Int × Int × Unit) × (Unit))) : Option (((Int × Int × Unit) × (Unit)) ⊕ ((Int × Unit) × (Unit))) :=
(m227 (((w64 (v.1.1 + 1)), ()), ())).bind fun a =>
bif (decide ((a.1.1 : Int) ≤ v.1.2.1)) then (some (.inl (((w64 (v.1.1 + 1)), v.1.2), ())))
else (some (.inr ((v.1.1, ()), ())))

/- pagewatch/civil.year -/
def i228 : Abs.Sg := ⟨[0], Qs1, .nil⟩
def o228 : Abs.Sg := ⟨[2], Qs1, .nil⟩
def m228 (v : ((Int × Unit) × (Unit))) : Option ((Int × Unit) × (Unit)) :=
(m297 ((v.1.1, 366, ()), ())).bind fun a =>
(loopT l228_0_2 (((w64 (1970 + a.1.1)), v.1), ())).bind fun b =>
some b
def sp228 : Abs.Spec := ⟨0, i228, o228, m228⟩
def an228 : Nat → Abs.FAn
  | 0 => Abs.FAn.mk (fun _ => none) (fun _ => none) (fun
    | 2 => some ⟨⟨[3, 0], Qs4, .nil⟩, (.one (.exit 0) ⟨[3], Qs1, .nil⟩)⟩
    | _ => none) (fun _ _ => 0)
  | _ => {}
theorem ok228 : Abs.SpecOK Tryz.prog 228 sp228 :=
  okW (an := an228) (alc ok297 (alc ok227 al0)) rfl (by intro v; kernel_rfl)

def l175_0_5 (v : ((Int × Unit) × ((Y12 × Unit) × (Y12 × Unit) × Unit))) : Option (((Int × Unit) × ((Y12 × Unit) × (Y12 × Unit) × Unit)) ⊕ ((Int × Unit) × ((Y12 × Unit) × (Y12 × Unit) × Unit))) :=
let a := (decide ((v.1.1 : Int) ≥ (daysIn v.2.1.1.1 v.2.1.1.2.1)))
bif a then (some (.inl (((w64 (v.1.1 - (daysIn v.2.1.1.1 v.2.1.1.2.1))), ()), ((v.2.1.1.1, (w64 (v.2.1.1.2.1 + 1)), v.2.1.1.2.2), ()), v.2.2)))
else (some (.inr (v.1, v.2.2.1, v.2.1, ())))

/- pagewatch/civil.DateOf -/
def i175 : Abs.Sg := ⟨[0], Qs1, .nil⟩
def o175 : Abs.Sg := ⟨[2, 3], (.st Qx20 Qs1), (.box 3 Qs11 .nil)⟩
def m175 (v : ((Int × Unit) × (Unit))) : Option ((Int × Unit) × ((Y12 × Unit) × Unit)) :=
(((m227 ((1970, ()), ())).bind fun d =>
bif (decide ((v.1.1 : Int) < d.1.1)) then (some ((true, v.1), ((0, 0, 0, ()), ()), ()))
else ((m227 ((2241, ()), ())).bind fun e =>
some (((decide ((v.1.1 : Int) ≥ e.1.1)), v.1), ((0, 0, 0, ()), ()), ()))) : Option ((Bool × Int × Unit) × ((Y12 × Unit) × Unit))).bind fun a =>
bif a.1.1 then (some ((1, ()), ((0, 0, 0, ()), ()), ()))
else ((m228 (a.1.2, ())).bind fun c =>
(m227 c).bind fun f =>
(loopT l175_0_5 (((w64 (a.1.2.1 - f.1.1)), ()), ((c.1.1, 1, 0, ()), ()), a.2)).bind fun b =>
some ((0, ()), ((b.2.2.1.1.1, b.2.2.1.1.2.1, (w64 (b.1.1 + 1)), ()), ()), ()))
def sp175 : Abs.Spec := ⟨0, i175, o175, m175⟩
def an175 : Nat → Abs.FAn
  | 0 => Abs.FAn.mk (fun
    | 1 => some ⟨[13, 2, 0], (.dat .bool (.st Qx20 Qs1)), (.box 3 Qs11 .nil)⟩
    | _ => none) (fun _ => none) (fun
    | 5 => some ⟨⟨[4, 5, 2], (.st Qx20 (.dat (.int .i64) (.st Qx33 .nil))), (.box 3 Qs11 (.box 3 Qs11 .nil))⟩, (.one (.exit 0) ⟨[2, 4, 5], (.st Qx20 (.st Qx33 Qs1)), (.box 3 Qs11 (.box 3 Qs11 .nil))⟩)⟩
    | _ => none) (fun _ _ => 0)
  | _ => {}
theorem ok175 : Abs.SpecOK Tryz.prog 175 sp175 :=
  okW (an := an175) (alc ok227 (alc ok228 al0)) rfl (by intro v; kernel_rfl)

/- pagewatch/resolve.day -/
def i154 : Abs.Sg := ⟨[0], Qs1, .nil⟩
def o154 : Abs.Sg := ⟨[2], Qs8, .nil⟩
def m154 (v : ((Int × Unit) × (Unit))) : Option Y22 :=
(m175 v).bind fun a =>
some ((((a.1.1 : Int) == 0), ()), ())
def sp154 : Abs.Spec := ⟨0, i154, o154, m154⟩
def an154 : Nat → Abs.FAn
  | _ => {}
theorem ok154 : Abs.SpecOK Tryz.prog 154 sp154 :=
  okW (an := an154) (alc ok175 al0) rfl (by intro v; kernel_rfl)

/- pagewatch/resolve.checkCalendar$1 -/
def i153 : Abs.Sg := ⟨[0], Qs1, .nil⟩
def o153 : Abs.Sg := ⟨[2], Qs8, .nil⟩
def m153 (v : ((Int × Unit) × (Unit))) : Option Y22 :=
(m154 v).bind fun a =>
some (((!a.1.1), ()), ())
def sp153 : Abs.Spec := ⟨0, i153, o153, m153⟩
def an153 : Nat → Abs.FAn
  | _ => {}
theorem ok153 : Abs.SpecOK Tryz.prog 153 sp153 :=
  okW (an := an153) (alc ok154 al0) rfl (by intro v; kernel_rfl)

def l75_2_2 (v : ((Int × (List Int) × Int × Unit) × (Unit))) : Option (((Int × (List Int) × Int × Unit) × (Unit)) ⊕ (((Int × Unit) × (Unit)) ⊕ ((Unit) × (Unit)))) :=
bif (decide ((v.1.1 : Int) < v.1.2.2.1)) then (Abs.rowAt v.1.2.1 v.1.1 fun a _ =>
(m153 ((a, ()), ())).bind fun b =>
bif b.1.1 then (some (.inr (.inl ((v.1.1, ()), ()))))
else (some (.inl (((w64 (v.1.1 + 1)), v.1.2), ()))))
else (some (.inr (.inr ((), ()))))

def l75_0_8 (v : ((Int × Int × Unit) × ((Y19 × Unit) × Unit))) : Option (((Int × Int × Unit) × ((Y19 × Unit) × Unit)) ⊕ (((Int × Unit) × (Unit)) ⊕ ((Unit) × (Unit)))) :=
bif (decide ((v.1.1 : Int) < v.1.2.1)) then (((bif (decide ((v.1.1 : Int) > 0)) then (Abs.rowAt v.2.1.1.2.2.1 v.1.1 fun b _ =>
Abs.rowAt v.2.1.1.2.2.1 (w64 (v.1.1 - 1)) fun c _ =>
some (((decide ((b : Int) ≤ c)), v.1.2.1, v.1.1, ()), v.2))
else (some ((false, v.1.2.1, v.1.1, ()), v.2))) : Option ((Bool × Int × Int × Unit) × ((Y19 × Unit) × Unit))).bind fun a =>
bif a.1.1 then (some (.inr (.inl ((6, ()), ()))))
else (some (.inl (((w64 (a.1.2.2.1 + 1)), a.1.2.1, ()), a.2))))
else (some (.inr (.inr ((), ()))))

/- pagewatch/resolve.checkCalendar -/
def i75 : Abs.Sg := ⟨[0, 1], (.dat Z1 (.dat Z13 .nil)), .nil⟩
def o75 : Abs.Sg := ⟨[4], Qs1, .nil⟩
def m75 (v : ((Y3 × Y19 × Unit) × (Unit))) : Option ((Int × Unit) × (Unit)) :=
(m150 ((v.1.2.1.2.1, (v.1.1.1.length : Int), ()), ())).bind fun a =>
bif (!a.1.1) then (some ((3, ()), ()))
else (let b := (decide (((v.1.2.1.2.2.1.length : Int) : Int) > 64))
bif b then (some ((5, ()), ()))
else ((((loopT l75_2_2 ((0, v.1.2.1.2.2.1, (v.1.2.1.2.2.1.length : Int), ()), ())).bind fun c =>
sumE c (fun d => (some (((decide ((d.1.1 : Int) ≥ 0)), ()), ()))) (fun h => (some ((false, ()), ())))) : Option Y22).bind fun e =>
bif e.1.1 then (some ((1, ()), ()))
else ((loopT l75_0_8 ((0, (v.1.2.1.2.2.1.length : Int), ()), v.1.2, ())).bind fun f =>
sumE f (fun g => (some g)) (fun j => (some ((0, ()), ()))))))
def sp75 : Abs.Spec := ⟨0, i75, o75, m75⟩
def an75 : Nat → Abs.FAn
  | 0 => Abs.FAn.mk (fun
    | 10 => some ⟨[44, 3, 25, 26], (.dat .bool (.st Qx20 Qs4)), (.box 3 (.dat Z13 .nil) .nil)⟩
    | _ => none) (fun _ => none) (fun
    | 8 => some ⟨⟨[26, 3, 25], (.dat (.int .i64) (.st Qx20 Qs1)), (.box 3 (.dat Z13 .nil) .nil)⟩, (.more .ret ⟨[4], Qs1, .nil⟩ (.one (.exit 1) ⟨[], .nil, .nil⟩))⟩
    | _ => none) (fun
    | 5, 2 => 1
    | _, _ => 0)
  | 1 => Abs.FAn.mk (fun
    | 1 => some ⟨[4], Qs8, .nil⟩
    | _ => none) (fun _ => none) (fun _ => none) (fun
    | 1, 2 => 2
    | _, _ => 0)
  | 2 => Abs.FAn.mk (fun _ => none) (fun _ => none) (fun
    | 2 => some ⟨⟨[8, 0, 1, 7], (.dat (.int .i64) (.dat (.row (.int .i64)) (.st (.clo 153 []) Qs1))), .nil⟩, (.more .ret ⟨[4], Qs1, .nil⟩ (.one (.exit 0) ⟨[], .nil, .nil⟩))⟩
    | _ => none) (fun _ _ => 0)
  | _ => {}
theorem ok75 : Abs.SpecOK Tryz.prog 75 sp75 :=
  okW (an := an75) (alc ok150 (alc ok153 al0)) rfl (by intro v; kernel_rfl)

/- 74 pagewatch/resolve.Check$3: not told by a law: a closure -/

/- 72 pagewatch/resolve.named[pagewatch/api.Calendar]: not told by a law: a parameter -/

/- pagewatch/resolve.Check$2 -/
def i73 : Abs.Sg := ⟨[0], (.dat Z13 .nil), .nil⟩
def o73 : Abs.Sg := ⟨[2], (.dat .str .nil), .nil⟩
def m73 (v : ((Y19 × Unit) × (Unit))) : Option ((ByteArray × Unit) × (Unit)) :=
some ((v.1.1.1, ()), ())
def sp73 : Abs.Spec := ⟨0, i73, o73, m73⟩
def an73 : Nat → Abs.FAn
  | _ => {}
theorem ok73 : Abs.SpecOK Tryz.prog 73 sp73 :=
  okW (an := an73) al0 rfl (by intro v; kernel_rfl)

/- 221 pagewatch/resolve.checkLayer$1: not told by a law: a closure -/

def l158_2_2 (v : ((Int × (List Int) × Int × Unit) × ((Y3 × Unit) × Unit))) : Option (((Int × (List Int) × Int × Unit) × ((Y3 × Unit) × Unit)) ⊕ (((Int × Unit) × ((Y3 × Unit) × Unit)) ⊕ ((Unit) × ((Y3 × Unit) × Unit)))) :=
bif (decide ((v.1.1 : Int) < v.1.2.2.1)) then (Abs.rowAt v.1.2.1 v.1.1 fun a _ =>
(m150 ((a, (v.2.1.1.2.1.length : Int), ()), ())).bind fun b =>
bif (!b.1.1) then (some (.inr (.inl ((v.1.1, ()), v.2))))
else (some (.inl (((w64 (v.1.1 + 1)), v.1.2), v.2))))
else (some (.inr (.inr ((), v.2))))

/- pagewatch/resolve.checkLayer -/
def i158 : Abs.Sg := ⟨[0, 1], (.dat Z1 (.dat Z10 .nil)), .nil⟩
def o158 : Abs.Sg := ⟨[4], Qs1, .nil⟩
def m158 (v : ((Y3 × Y6 × Unit) × (Unit))) : Option ((Int × Unit) × (Unit)) :=
(m150 ((v.1.2.1.2.1, (v.1.1.1.length : Int), ()), ())).bind fun e =>
bif (!e.1.1) then (some ((3, ()), ()))
else (((bif (decide ((v.1.2.1.2.2.1.1 : Int) < 1)) then (some ((true, ()), v.1.2, (v.1.1, ()), ()))
else ((m154 ((v.1.2.1.2.2.1.1, ()), ())).bind fun f =>
bif (!f.1.1) then (some ((true, ()), v.1.2, (v.1.1, ()), ()))
else ((m220 ((v.1.2.1.2.2.1.2.1, 0, 86399, ()), ())).bind fun g =>
bif (!g.1.1) then (some ((true, ()), v.1.2, (v.1.1, ()), ()))
else ((m220 ((v.1.2.1.2.2.2.1, 0, 2, ()), ())).bind fun h =>
bif (!h.1.1) then (some ((true, ()), v.1.2, (v.1.1, ()), ()))
else ((m220 ((v.1.2.1.2.2.2.2.1, 1, 400, ()), ())).bind fun j =>
some (((!j.1.1), ()), v.1.2, (v.1.1, ()), ())))))) : Option ((Bool × Unit) × ((Y6 × Unit) × (Y3 × Unit) × Unit))).bind fun a =>
bif a.1.1 then (some ((1, ()), ()))
else (let k := (((a.2.1.1.2.2.2.2.2.1.length : Int) : Int) == 0)
bif k then (some ((7, ()), ()))
else (let l := (decide (((a.2.1.1.2.2.2.2.2.1.length : Int) : Int) > 12))
bif l then (some ((5, ()), ()))
else ((((loopT l158_2_2 ((0, a.2.1.1.2.2.2.2.2.1, (a.2.1.1.2.2.2.2.2.1.length : Int), ()), a.2.2)).bind fun m =>
sumE m (fun c => (some (((decide ((c.1.1 : Int) ≥ 0)), ()), c.2))) (fun n => (some ((false, ()), n.2)))) : Option ((Bool × Unit) × ((Y3 × Unit) × Unit))).bind fun d =>
bif d.1.1 then (some ((3, ()), ()))
else ((m113 ((a.2.1.1.2.2.2.2.2.2.1, ()), ())).bind fun o =>
bif ((o.1.1 : Int) != 0) then (some ((8, ()), ()))
else ((m220 ((a.2.1.1.2.2.2.2.2.2.2.2.1, 0, 2, ()), ())).bind fun p =>
bif (!p.1.1) then (some ((1, ()), ()))
else (((bif ((a.2.1.1.2.2.2.2.2.2.2.2.1 : Int) != 0) then ((m150 ((a.2.1.1.2.2.2.2.2.2.2.1, (d.2.1.1.2.2.1.length : Int), ()), ())).bind fun q =>
some (((!q.1.1), ()), a.2.1, ()))
else (some ((false, ()), a.2.1, ()))) : Option ((Bool × Unit) × ((Y6 × Unit) × Unit))).bind fun b =>
bif b.1.1 then (some ((3, ()), ()))
else (((bif ((b.2.1.1.2.2.2.2.2.2.2.2.1 : Int) == 0) then (some ((((b.2.1.1.2.2.2.2.2.2.2.1 : Int) != 0), ()), ()))
else (some ((false, ()), ()))) : Option Y22).bind fun r =>
bif r.1.1 then (some ((1, ()), ()))
else (some ((0, ()), ()))))))))))
def sp158 : Abs.Spec := ⟨0, i158, o158, m158⟩
def an158 : Nat → Abs.FAn
  | 0 => Abs.FAn.mk (fun
    | 17 => some ⟨[82], Qs8, .nil⟩
    | 15 => some ⟨[69, 3], (.dat .bool (.st (.ptr (0, 0) 10 0 0) .nil)), (.box 10 (.dat Z10 .nil) .nil)⟩
    | 3 => some ⟨[13, 3, 2], (.dat .bool (.st (.ptr (0, 0) 10 0 0) (.st Qx34 .nil))), (.box 10 (.dat Z10 .nil) Qb16)⟩
    | _ => none) (fun _ => none) (fun _ => none) (fun
    | 9, 3 => 1
    | _, _ => 0)
  | 1 => Abs.FAn.mk (fun
    | 1 => some ⟨[4], Qs8, Qb16⟩
    | _ => none) (fun _ => none) (fun _ => none) (fun
    | 1, 2 => 2
    | _, _ => 0)
  | 2 => Abs.FAn.mk (fun _ => none) (fun _ => none) (fun
    | 2 => some ⟨⟨[8, 0, 1, 7], (.dat (.int .i64) (.dat (.row (.int .i64)) (.st (.clo 221 [((0, 0), 4, 0, 0)]) Qs1))), Qb16⟩, (.more .ret ⟨[4], Qs1, Qb16⟩ (.one (.exit 0) ⟨[], .nil, Qb16⟩))⟩
    | _ => none) (fun
    | 4, 5 => 3
    | _, _ => 0)
  | _ => {}
theorem ok158 : Abs.SpecOK Tryz.prog 158 sp158 :=
  okW (an := an158) (alc ok150 (alc ok154 (alc ok220 (alc ok113 al0)))) rfl (by intro v; kernel_rfl)

/- 157 pagewatch/resolve.checkSchedule$2: not told by a law: a closure -/

/- 155 pagewatch/resolve.named[pagewatch/api.Layer]: not told by a law: a parameter -/

/- pagewatch/resolve.checkSchedule$1 -/
def i156 : Abs.Sg := ⟨[0], (.dat Z10 .nil), .nil⟩
def o156 : Abs.Sg := ⟨[2], (.dat .str .nil), .nil⟩
def m156 (v : ((Y6 × Unit) × (Unit))) : Option ((ByteArray × Unit) × (Unit)) :=
some ((v.1.1.1, ()), ())
def sp156 : Abs.Spec := ⟨0, i156, o156, m156⟩
def an156 : Nat → Abs.FAn
  | _ => {}
theorem ok156 : Abs.SpecOK Tryz.prog 156 sp156 :=
  okW (an := an156) al0 rfl (by intro v; kernel_rfl)

/- pagewatch/resolve.checkEdit -/
def i159 : Abs.Sg := ⟨[0, 1], (.dat Z1 (.dat Z15 .nil)), .nil⟩
def o159 : Abs.Sg := ⟨[4], Qs1, .nil⟩
def m159 (v : ((Y3 × Y21 × Unit) × (Unit))) : Option ((Int × Unit) × (Unit)) :=
(m220 ((v.1.2.1.1, 0, 2, ()), ())).bind fun f =>
bif (!f.1.1) then (some ((1, ()), ()))
else ((((((m150 ((v.1.2.1.2.1, (v.1.1.2.1.length : Int), ()), ())).bind fun g =>
bif (!g.1.1) then (bif ((v.1.2.1.1 : Int) == 1) then (some (((!((v.1.2.1.2.1 : Int) == (-1))), (v.1.1.2.1.length : Int), ()), v.1.2, ()))
else (some ((true, (v.1.1.2.1.length : Int), ()), v.1.2, ())))
else (some ((false, (v.1.1.2.1.length : Int), ()), v.1.2, ()))) : Option ((Bool × Int × Unit) × ((Y21 × Unit) × Unit))).bind fun a =>
bif a.1.1 then (some ((a.1.1, ()), a.2))
else (((bif ((a.2.1.1.1 : Int) == 2) then ((m150 ((a.2.1.1.2.2.1, a.1.2), ())).bind fun h =>
some (((!h.1.1), ()), a.2))
else (some ((false, ()), a.2))) : Option ((Bool × Unit) × ((Y21 × Unit) × Unit))).bind fun j =>
some j)) : Option ((Bool × Unit) × ((Y21 × Unit) × Unit))).bind fun d =>
bif d.1.1 then (some ((3, ()), ()))
else (((bif ((d.2.1.1.1 : Int) != 2) then (some ((((d.2.1.1.2.2.1 : Int) != 0), ()), d.2))
else (some ((false, ()), d.2))) : Option ((Bool × Unit) × ((Y21 × Unit) × Unit))).bind fun c =>
bif c.1.1 then (some ((1, ()), ()))
else (((bif ((c.2.1.1.1 : Int) == 2) then (some ((((c.2.1.1.2.1 : Int) == c.2.1.1.2.2.1), ()), c.2))
else (some ((false, ()), c.2))) : Option ((Bool × Unit) × ((Y21 × Unit) × Unit))).bind fun b =>
bif b.1.1 then (some ((4, ()), ()))
else (((bif (decide ((b.2.1.1.2.2.2.1 : Int) < 0)) then (some ((true, ()), b.2))
else (bif (decide ((b.2.1.1.2.2.2.2.1 : Int) < 0)) then (some ((true, ()), b.2))
else ((m154 (((w64 ((b.2.1.1.2.2.2.2.1 : Int).tdiv 86400)), ()), ())).bind fun k =>
some (((!k.1.1), ()), b.2)))) : Option ((Bool × Unit) × ((Y21 × Unit) × Unit))).bind fun e =>
bif e.1.1 then (some ((1, ()), ()))
else (let l := (decide ((e.2.1.1.2.2.2.1 : Int) ≥ e.2.1.1.2.2.2.2.1))
bif l then (some ((6, ()), ()))
else (some ((0, ()), ())))))))
def sp159 : Abs.Spec := ⟨0, i159, o159, m159⟩
def an159 : Nat → Abs.FAn
  | 0 => Abs.FAn.mk (fun
    | 11 => some ⟨[61, 3], (.dat .bool (.st (.ptr (0, 0) 5 0 0) .nil)), Qb21⟩
    | 9 => some ⟨[50, 3], (.dat .bool (.st (.ptr (0, 0) 5 0 0) .nil)), Qb21⟩
    | 7 => some ⟨[41, 3], (.dat .bool (.st (.ptr (0, 0) 5 0 0) .nil)), Qb21⟩
    | 5 => some ⟨[14, 3], (.dat .bool (.st (.ptr (0, 0) 5 0 0) .nil)), Qb21⟩
    | 4 => some ⟨[14, 3, 5], (.dat .bool (.st (.ptr (0, 0) 5 0 0) Qs1)), Qb21⟩
    | _ => none) (fun
    | 6 => some (⟨[14, 3], (.dat .bool (.st (.ptr (0, 0) 5 0 0) .nil)), Qb21⟩, none)
    | _ => none) (fun _ => none) (fun _ _ => 0)
  | _ => {}
theorem ok159 : Abs.SpecOK Tryz.prog 159 sp159 :=
  okW (an := an159) (alc ok220 (alc ok150 (alc ok154 al0))) rfl (by intro v; kernel_rfl)

def l79_1_3 (v : ((Int × (List Y6) × Int × Unit) × ((Y3 × Unit) × (List (Abs.KeyT true × Bool)) × Unit))) : Option (((Int × (List Y6) × Int × Unit) × ((Y3 × Unit) × (List (Abs.KeyT true × Bool)) × Unit)) ⊕ (((Int × Unit) × ((Y3 × Unit) × Unit)) ⊕ ((Unit) × ((Y3 × Unit) × Unit)))) :=
bif (decide ((v.1.1 : Int) < v.1.2.2.1)) then (Abs.rowAt v.1.2.1 v.1.1 fun b _ =>
(((m156 ((b, ()), ())).bind fun c =>
(m36 c).bind fun e =>
bif (!e.1.1) then (bif (decide (0 = 0) && true) then
some ((2, v.1.2.1, v.1.2.2.1, v.1.1, ()), (v.2.1.1, ()), v.2.2.1, (b, ()), ())
else none)
else (bif ((mpGet (κ := KeyT true) c.1.1 v.2.2.1).getD false) then (bif (decide (0 = 0) && true) then
some ((4, v.1.2.1, v.1.2.2.1, v.1.1, ()), (v.2.1.1, ()), v.2.2.1, (b, ()), ())
else none)
else (bif (decide (0 = 0) && true) then
some ((0, v.1.2.1, v.1.2.2.1, v.1.1, ()), (v.2.1.1, ()), (mpSet (κ := KeyT true) c.1.1 true v.2.2.1), (b, ()), ())
else none))) : Option ((Int × (List Y6) × Int × Int × Unit) × ((Y3 × Unit) × (List (Abs.KeyT true × Bool)) × (Y6 × Unit) × Unit))).bind fun a =>
bif ((a.1.1 : Int) != 0) then (some (.inr (.inl ((a.1.1, ()), (a.2.1.1, ()), ()))))
else ((m158 ((a.2.1.1, a.2.2.2.1.1, ()), ())).bind fun d =>
bif ((d.1.1 : Int) != 0) then (some (.inr (.inl (d.1, (a.2.1.1, ()), ()))))
else (some (.inl (((w64 (a.1.2.2.2.1 + 1)), a.1.2.1, a.1.2.2.1, ()), (a.2.1.1, ()), a.2.2.1, ())))))
else (some (.inr (.inr ((), (v.2.1.1, ()), ()))))

def l79_0_7 (v : ((Int × (List Y21) × Int × Unit) × ((Y3 × Unit) × Unit))) : Option (((Int × (List Y21) × Int × Unit) × ((Y3 × Unit) × Unit)) ⊕ (((Int × Unit) × (Unit)) ⊕ ((Unit) × (Unit)))) :=
bif (decide ((v.1.1 : Int) < v.1.2.2.1)) then (Abs.rowAt v.1.2.1 v.1.1 fun b _ =>
(m159 ((v.2.1.1, b, ()), ())).bind fun a =>
bif ((a.1.1 : Int) != 0) then (some (.inr (.inl a)))
else (some (.inl (((w64 (v.1.1 + 1)), v.1.2), v.2))))
else (some (.inr (.inr ((), ()))))

/- pagewatch/resolve.checkSchedule -/
def i79 : Abs.Sg := ⟨[0, 1], (.dat Z1 (.dat Z4 .nil)), .nil⟩
def o79 : Abs.Sg := ⟨[4], Qs1, .nil⟩
def m79 (v : ((Y3 × Y11 × Unit) × (Unit))) : Option ((Int × Unit) × (Unit)) :=
((let d := (decide (((v.1.2.1.2.1.length : Int) : Int) > 6))
bif d then (some ((true, ()), (v.1.1, ()), v.1.2, ()))
else (let e := (decide (((v.1.2.1.2.2.1.length : Int) : Int) > 48))
some ((e, ()), (v.1.1, ()), v.1.2, ()))) : Option ((Bool × Unit) × ((Y3 × Unit) × (Y11 × Unit) × Unit))).bind fun a =>
bif a.1.1 then (some ((5, ()), ()))
else ((((loopT l79_1_3 ((0, a.2.2.1.1.2.1, (a.2.2.1.1.2.1.length : Int), ()), a.2.1, [], ())).bind fun f =>
sumE f (fun c => (some ((c.1.1, ()), (c.2.1.1, ()), a.2.2))) (fun g => (some ((0, ()), (g.2.1.1, ()), a.2.2)))) : Option ((Int × Unit) × ((Y3 × Unit) × (Y11 × Unit) × Unit))).bind fun b =>
bif ((b.1.1 : Int) != 0) then (some (b.1, ()))
else ((loopT l79_0_7 ((0, b.2.2.1.1.2.2.1, (b.2.2.1.1.2.2.1.length : Int), ()), b.2.1, ())).bind fun h =>
sumE h (fun j => (some j)) (fun k => (some ((0, ()), ())))))
def sp79 : Abs.Spec := ⟨0, i79, o79, m79⟩
def an79 : Nat → Abs.FAn
  | 0 => Abs.FAn.mk (fun
    | 3 => some ⟨[5, 2, 3], (.dat (.int .i64) (.st Qx22 (.st Qx33 .nil))), (.box 4 Qs32 (.box 3 (.dat Z4 .nil) .nil))⟩
    | 1 => some ⟨[18, 2, 3], (.dat .bool (.st Qx22 (.st Qx33 .nil))), (.box 4 Qs32 (.box 3 (.dat Z4 .nil) .nil))⟩
    | _ => none) (fun _ => none) (fun
    | 7 => some ⟨⟨[29, 2, 27, 28], (.dat (.int .i64) (.st Qx22 (.dat (.row Z15) Qs1))), Qb16⟩, (.more .ret ⟨[4], Qs1, .nil⟩ (.one (.exit 0) ⟨[], .nil, .nil⟩))⟩
    | _ => none) (fun
    | 3, 3 => 1
    | _, _ => 0)
  | 1 => Abs.FAn.mk (fun
    | 5 => some ⟨[10, 2, 7, 1, 13, 14, 15, 9], (.dat (.int .i64) (.st (.clo 157 [((0, 0), 4, 0, 0)]) (.st Qx40 (.st (.clo 156 []) (.dat (.row Z10) (.dat (.int .i64) (.dat (.int .i64) (.st (.ptr (2, 0) 10 0 0) .nil)))))))), (.box 4 Qs32 (.mp true .bool (.box 10 (.dat Z10 .nil) .nil)))⟩
    | _ => none) (fun _ => none) (fun
    | 3 => some ⟨⟨[15, 2, 7, 1, 13, 14], (.dat (.int .i64) (.st (.clo 157 [((0, 0), 4, 0, 0)]) (.st Qx40 (.st (.clo 156 []) (.dat (.row Z10) Qs1))))), (.box 4 Qs32 (.mp true .bool .nil))⟩, (.more .ret ⟨[6], Qs1, Qb16⟩ (.one (.exit 0) ⟨[], .nil, Qb16⟩))⟩
    | _ => none) (fun
    | 8, 2 => 3
    | 5, 4 => 2
    | _, _ => 0)
  | _ => {}
theorem ok79 : Abs.SpecOK Tryz.prog 79 sp79 :=
  okW (an := an79) (alc ok156 (alc ok36 (alc ok158 (alc ok159 al0)))) rfl (by intro v; kernel_rfl)

/- 78 pagewatch/resolve.Check$5: not told by a law: a closure -/

/- 76 pagewatch/resolve.named[pagewatch/api.Schedule]: not told by a law: a parameter -/

/- pagewatch/resolve.Check$4 -/
def i77 : Abs.Sg := ⟨[0], (.dat Z4 .nil), .nil⟩
def o77 : Abs.Sg := ⟨[2], (.dat .str .nil), .nil⟩
def m77 (v : ((Y11 × Unit) × (Unit))) : Option ((ByteArray × Unit) × (Unit)) :=
some ((v.1.1.1, ()), ())
def sp77 : Abs.Spec := ⟨0, i77, o77, m77⟩
def an77 : Nat → Abs.FAn
  | _ => {}
theorem ok77 : Abs.SpecOK Tryz.prog 77 sp77 :=
  okW (an := an77) al0 rfl (by intro v; kernel_rfl)

def l33_1_3 (v : ((Int × (List Y9) × Int × Unit) × ((List (Abs.KeyT true × Bool)) × Unit))) : Option (((Int × (List Y9) × Int × Unit) × ((List (Abs.KeyT true × Bool)) × Unit)) ⊕ (((Int × Unit) × (Unit)) ⊕ ((Unit) × (Unit)))) :=
bif (decide ((v.1.1 : Int) < v.1.2.2.1)) then (Abs.rowAt v.1.2.1 v.1.1 fun b _ =>
(((m68 ((b, ()), ())).bind fun c =>
(m36 c).bind fun e =>
bif (!e.1.1) then (bif (decide (0 = 0) && true) then
some ((2, v.1.2.1, v.1.2.2.1, v.1.1, ()), v.2.1, (b, ()), ())
else none)
else (bif ((mpGet (κ := KeyT true) c.1.1 v.2.1).getD false) then (bif (decide (0 = 0) && true) then
some ((4, v.1.2.1, v.1.2.2.1, v.1.1, ()), v.2.1, (b, ()), ())
else none)
else (bif (decide (0 = 0) && true) then
some ((0, v.1.2.1, v.1.2.2.1, v.1.1, ()), (mpSet (κ := KeyT true) c.1.1 true v.2.1), (b, ()), ())
else none))) : Option ((Int × (List Y9) × Int × Int × Unit) × ((List (Abs.KeyT true × Bool)) × (Y9 × Unit) × Unit))).bind fun a =>
bif ((a.1.1 : Int) != 0) then (some (.inr (.inl ((a.1.1, ()), ()))))
else ((m69 ((a.2.2.1.1, ()), ())).bind fun d =>
bif ((d.1.1 : Int) != 0) then (some (.inr (.inl d)))
else (some (.inl (((w64 (a.1.2.2.2.1 + 1)), a.1.2.1, a.1.2.2.1, ()), a.2.1, ())))))
else (some (.inr (.inr ((), ()))))

def l33_0_8 (v : ((Int × (List Y18) × Int × Unit) × ((Y3 × Unit) × (List (Abs.KeyT true × Bool)) × Unit))) : Option (((Int × (List Y18) × Int × Unit) × ((Y3 × Unit) × (List (Abs.KeyT true × Bool)) × Unit)) ⊕ (((Int × Unit) × (Unit)) ⊕ ((Unit) × ((Y3 × Unit) × Unit)))) :=
bif (decide ((v.1.1 : Int) < v.1.2.2.1)) then (Abs.rowAt v.1.2.1 v.1.1 fun d _ =>
(((m36 ((d.1, ()), ())).bind fun e =>
bif (!e.1.1) then (bif (decide (0 = 0) && true) then
some ((v.1.2.1, v.1.2.2.1, v.1.1, 2, ()), (v.2.1.1, ()), v.2.2.1, (d, ()), ())
else none)
else (bif ((mpGet (κ := KeyT true) d.1 v.2.2.1).getD false) then (bif (decide (0 = 0) && true) then
some ((v.1.2.1, v.1.2.2.1, v.1.1, 4, ()), (v.2.1.1, ()), v.2.2.1, (d, ()), ())
else none)
else (bif (decide (0 = 0) && true) then
some ((v.1.2.1, v.1.2.2.1, v.1.1, 0, ()), (v.2.1.1, ()), (mpSet (κ := KeyT true) d.1 true v.2.2.1), (d, ()), ())
else none))) : Option (((List Y18) × Int × Int × Int × Unit) × ((Y3 × Unit) × (List (Abs.KeyT true × Bool)) × (Y18 × Unit) × Unit))).bind fun a =>
((bif (a.2.2.2.1.1.1.toList == (bs [110, 111, 98, 111, 100, 121]).toList) then (some ((a.1.1, a.1.2.1, a.1.2.2.1, 2, ()), (a.2.1.1, ()), a.2.2.1, (a.2.2.2.1.1, ()), ()))
else (some ((a.1.1, a.1.2.1, a.1.2.2.1, a.1.2.2.2.1, ()), (a.2.1.1, ()), a.2.2.1, (a.2.2.2.1.1, ()), ()))) : Option (((List Y18) × Int × Int × Int × Unit) × ((Y3 × Unit) × (List (Abs.KeyT true × Bool)) × (Y18 × Unit) × Unit))).bind fun b =>
((bif ((b.1.2.2.2.1 : Int) == 0) then ((m71 ((b.2.1.1, b.2.2.2.1.1, ()), ())).bind fun f =>
some ((f.1.1, b.1.1, b.1.2.1, b.1.2.2.1, ()), (b.2.1.1, ()), b.2.2.1, ()))
else (some ((b.1.2.2.2.1, b.1.1, b.1.2.1, b.1.2.2.1, ()), (b.2.1.1, ()), b.2.2.1, ()))) : Option ((Int × (List Y18) × Int × Int × Unit) × ((Y3 × Unit) × (List (Abs.KeyT true × Bool)) × Unit))).bind fun c =>
bif ((c.1.1 : Int) != 0) then (some (.inr (.inl ((c.1.1, ()), ()))))
else (some (.inl (((w64 (c.1.2.2.2.1 + 1)), c.1.2.1, c.1.2.2.1, ()), (c.2.1.1, ()), c.2.2.1, ()))))
else (some (.inr (.inr ((), (v.2.1.1, ()), ()))))

def l33_4_3 (v : ((Int × (List Y19) × Int × Unit) × ((Y3 × Unit) × (List (Abs.KeyT true × Bool)) × Unit))) : Option (((Int × (List Y19) × Int × Unit) × ((Y3 × Unit) × (List (Abs.KeyT true × Bool)) × Unit)) ⊕ (((Int × Unit) × ((Y3 × Unit) × Unit)) ⊕ ((Unit) × ((Y3 × Unit) × Unit)))) :=
bif (decide ((v.1.1 : Int) < v.1.2.2.1)) then (Abs.rowAt v.1.2.1 v.1.1 fun b _ =>
(((m73 ((b, ()), ())).bind fun c =>
(m36 c).bind fun e =>
bif (!e.1.1) then (bif (decide (0 = 0) && true) then
some ((2, v.1.2.1, v.1.2.2.1, v.1.1, ()), (v.2.1.1, ()), v.2.2.1, (b, ()), ())
else none)
else (bif ((mpGet (κ := KeyT true) c.1.1 v.2.2.1).getD false) then (bif (decide (0 = 0) && true) then
some ((4, v.1.2.1, v.1.2.2.1, v.1.1, ()), (v.2.1.1, ()), v.2.2.1, (b, ()), ())
else none)
else (bif (decide (0 = 0) && true) then
some ((0, v.1.2.1, v.1.2.2.1, v.1.1, ()), (v.2.1.1, ()), (mpSet (κ := KeyT true) c.1.1 true v.2.2.1), (b, ()), ())
else none))) : Option ((Int × (List Y19) × Int × Int × Unit) × ((Y3 × Unit) × (List (Abs.KeyT true × Bool)) × (Y19 × Unit) × Unit))).bind fun a =>
bif ((a.1.1 : Int) != 0) then (some (.inr (.inl ((a.1.1, ()), (a.2.1.1, ()), ()))))
else ((m75 ((a.2.1.1, a.2.2.2.1.1, ()), ())).bind fun d =>
bif ((d.1.1 : Int) != 0) then (some (.inr (.inl (d.1, (a.2.1.1, ()), ()))))
else (some (.inl (((w64 (a.1.2.2.2.1 + 1)), a.1.2.1, a.1.2.2.1, ()), (a.2.1.1, ()), a.2.2.1, ())))))
else (some (.inr (.inr ((), (v.2.1.1, ()), ()))))

def l33_7_3 (v : ((Int × (List Y11) × Int × Unit) × ((Y3 × Unit) × (List (Abs.KeyT true × Bool)) × Unit))) : Option (((Int × (List Y11) × Int × Unit) × ((Y3 × Unit) × (List (Abs.KeyT true × Bool)) × Unit)) ⊕ (((Int × Unit) × ((Y3 × Unit) × Unit)) ⊕ ((Unit) × ((Y3 × Unit) × Unit)))) :=
bif (decide ((v.1.1 : Int) < v.1.2.2.1)) then (Abs.rowAt v.1.2.1 v.1.1 fun b _ =>
(((m77 ((b, ()), ())).bind fun c =>
(m36 c).bind fun e =>
bif (!e.1.1) then (bif (decide (0 = 0) && true) then
some ((2, v.1.2.1, v.1.2.2.1, v.1.1, ()), (v.2.1.1, ()), v.2.2.1, (b, ()), ())
else none)
else (bif ((mpGet (κ := KeyT true) c.1.1 v.2.2.1).getD false) then (bif (decide (0 = 0) && true) then
some ((4, v.1.2.1, v.1.2.2.1, v.1.1, ()), (v.2.1.1, ()), v.2.2.1, (b, ()), ())
else none)
else (bif (decide (0 = 0) && true) then
some ((0, v.1.2.1, v.1.2.2.1, v.1.1, ()), (v.2.1.1, ()), (mpSet (κ := KeyT true) c.1.1 true v.2.2.1), (b, ()), ())
else none))) : Option ((Int × (List Y11) × Int × Int × Unit) × ((Y3 × Unit) × (List (Abs.KeyT true × Bool)) × (Y11 × Unit) × Unit))).bind fun a =>
bif ((a.1.1 : Int) != 0) then (some (.inr (.inl ((a.1.1, ()), (a.2.1.1, ()), ()))))
else ((m79 ((a.2.1.1, a.2.2.2.1.1, ()), ())).bind fun d =>
bif ((d.1.1 : Int) != 0) then (some (.inr (.inl (d.1, (a.2.1.1, ()), ()))))
else (some (.inl (((w64 (a.1.2.2.2.1 + 1)), a.1.2.1, a.1.2.2.1, ()), (a.2.1.1, ()), a.2.2.1, ())))))
else (some (.inr (.inr ((), (v.2.1.1, ()), ()))))

/- pagewatch/resolve.Check -/
def i33 : Abs.Sg := ⟨[0], Qs32, .nil⟩
def o33 : Abs.Sg := ⟨[2], Qs1, .nil⟩
def m33 (v : ((Y3 × Unit) × (Unit))) : Option ((Int × Unit) × (Unit)) :=
((bif (decide (((v.1.1.1.length : Int) : Int) > 16)) then (some ((true, ()), v))
else (bif (decide (((v.1.1.2.1.length : Int) : Int) > 32)) then (some ((true, ()), v))
else (let f := (decide (((v.1.1.2.2.1.length : Int) : Int) > 8))
bif f then (some ((true, ()), v))
else (let g := (decide (((v.1.1.2.2.2.1.length : Int) : Int) > 12))
some ((g, ()), v))))) : Option ((Bool × Unit) × ((Y3 × Unit) × Unit))).bind fun a =>
bif a.1.1 then (some ((5, ()), ()))
else ((((loopT l33_1_3 ((0, a.2.1.1.1, (a.2.1.1.1.length : Int), ()), [], ())).bind fun h =>
sumE h (fun j => (some ((j.1.1, ()), a.2))) (fun r => (some ((0, ()), a.2)))) : Option ((Int × Unit) × ((Y3 × Unit) × Unit))).bind fun b =>
bif ((b.1.1 : Int) != 0) then (some (b.1, ()))
else ((loopT l33_0_8 ((0, b.2.1.1.2.1, (b.2.1.1.2.1.length : Int), ()), b.2.1, [], ())).bind fun k =>
sumE k (fun l => (some ((l.1.1, ()), ()))) (fun d => ((((loopT l33_4_3 ((0, d.2.1.1.2.2.1, (d.2.1.1.2.2.1.length : Int), ()), (d.2.1.1, ()), [], ())).bind fun m =>
sumE m (fun e => (some ((e.1.1, ()), (e.2.1.1, ()), ()))) (fun n => (some ((0, ()), (n.2.1.1, ()), ())))) : Option ((Int × Unit) × ((Y3 × Unit) × Unit))).bind fun c =>
bif ((c.1.1 : Int) != 0) then (some (c.1, ()))
else ((((loopT l33_7_3 ((0, c.2.1.1.2.2.2.1, (c.2.1.1.2.2.2.1.length : Int), ()), c.2.1, [], ())).bind fun o =>
sumE o (fun p => (some ((p.1.1, ()), ()))) (fun s => (some ((0, ()), ())))) : Option ((Int × Unit) × (Unit))).bind fun q =>
some q)))))
def sp33 : Abs.Spec := ⟨0, i33, o33, m33⟩
def an33 : Nat → Abs.FAn
  | 0 => Abs.FAn.mk (fun
    | 21 => some ⟨[2], Qs1, .nil⟩
    | 18 => some ⟨[8, 1], (.dat (.int .i64) (.st Qx22 .nil)), Qb16⟩
    | 10 => some ⟨[1, 4, 39, 40, 41, 6, 7], (.st Qx22 (.st Qx40 (.dat (.row Z8) (.dat (.int .i64) (.dat (.int .i64) (.st (.ptr (2, 0) 6 0 0) Qs1)))))), (.box 4 Qs32 (.mp true .bool (.box 6 (.dat Z8 .nil) .nil)))⟩
    | 3 => some ⟨[3, 1], (.dat (.int .i64) (.st Qx22 .nil)), Qb16⟩
    | 1 => some ⟨[30, 1], (.dat .bool (.st Qx22 .nil)), Qb16⟩
    | _ => none) (fun
    | 15 => some (⟨[7, 1, 4, 39, 40, 41], (.dat (.int .i64) (.st Qx22 (.st Qx40 (.dat (.row Z8) Qs4)))), (.box 4 Qs32 (.mp true .bool .nil))⟩, none)
    | 13 => some (⟨[1, 4, 39, 40, 41, 6, 7], (.st Qx22 (.st Qx40 (.dat (.row Z8) (.dat (.int .i64) (.dat (.int .i64) (.st (.ptr (2, 0) 6 0 0) Qs1)))))), (.box 4 Qs32 (.mp true .bool (.box 6 (.dat Z8 .nil) .nil)))⟩, none)
    | _ => none) (fun
    | 8 => some ⟨⟨[41, 1, 4, 39, 40], (.dat (.int .i64) (.st Qx22 (.st Qx40 (.dat (.row Z8) Qs1)))), (.box 4 Qs32 (.mp true .bool .nil))⟩, (.more .ret ⟨[2], Qs1, .nil⟩ (.one (.exit 0) ⟨[1], (.st Qx22 .nil), Qb16⟩))⟩
    | _ => none) (fun
    | 21, 3 => 7
    | 18, 3 => 4
    | 10, 3 => 3
    | 3, 2 => 1
    | _, _ => 0)
  | 1 => Abs.FAn.mk (fun
    | 5 => some ⟨[10, 2, 7, 1, 13, 14, 15, 9], (.dat (.int .i64) (.st (.clo 69 []) (.st (.ptr (0, 0) 0 0 0) (.st (.clo 68 []) (.dat (.row Z5) (.dat (.int .i64) (.dat (.int .i64) (.st Qx33 .nil)))))))), (.mp true .bool (.box 3 (.dat Z5 .nil) .nil))⟩
    | _ => none) (fun _ => none) (fun
    | 3 => some ⟨⟨[15, 2, 7, 1, 13, 14], (.dat (.int .i64) (.st (.clo 69 []) (.st (.ptr (0, 0) 0 0 0) (.st (.clo 68 []) (.dat (.row Z5) Qs1))))), (.mp true .bool .nil)⟩, (.more .ret ⟨[6], Qs1, .nil⟩ (.one (.exit 0) ⟨[], .nil, .nil⟩))⟩
    | _ => none) (fun
    | 5, 4 => 2
    | _, _ => 0)
  | 4 => Abs.FAn.mk (fun
    | 5 => some ⟨[10, 2, 7, 1, 13, 14, 15, 9], (.dat (.int .i64) (.st (.clo 74 [((0, 0), 4, 0, 0)]) (.st Qx40 (.st (.clo 73 []) (.dat (.row Z13) (.dat (.int .i64) (.dat (.int .i64) (.st (.ptr (2, 0) 3 0 0) .nil)))))))), (.box 4 Qs32 (.mp true .bool (.box 3 (.dat Z13 .nil) .nil)))⟩
    | _ => none) (fun _ => none) (fun
    | 3 => some ⟨⟨[15, 2, 7, 1, 13, 14], (.dat (.int .i64) (.st (.clo 74 [((0, 0), 4, 0, 0)]) (.st Qx40 (.st (.clo 73 []) (.dat (.row Z13) Qs1))))), (.box 4 Qs32 (.mp true .bool .nil))⟩, (.more .ret ⟨[6], Qs1, Qb16⟩ (.one (.exit 0) ⟨[], .nil, Qb16⟩))⟩
    | _ => none) (fun
    | 8, 2 => 6
    | 5, 4 => 5
    | _, _ => 0)
  | 7 => Abs.FAn.mk (fun
    | 5 => some ⟨[10, 2, 7, 1, 13, 14, 15, 9], (.dat (.int .i64) (.st (.clo 78 [((0, 0), 4, 0, 0)]) (.st Qx40 (.st (.clo 77 []) (.dat (.row Z4) (.dat (.int .i64) (.dat (.int .i64) (.st (.ptr (2, 0) 3 0 0) .nil)))))))), (.box 4 Qs32 (.mp true .bool (.box 3 (.dat Z4 .nil) .nil)))⟩
    | _ => none) (fun _ => none) (fun
    | 3 => some ⟨⟨[15, 2, 7, 1, 13, 14], (.dat (.int .i64) (.st (.clo 78 [((0, 0), 4, 0, 0)]) (.st Qx40 (.st (.clo 77 []) (.dat (.row Z4) Qs1))))), (.box 4 Qs32 (.mp true .bool .nil))⟩, (.more .ret ⟨[6], Qs1, Qb16⟩ (.one (.exit 0) ⟨[], .nil, Qb16⟩))⟩
    | _ => none) (fun
    | 8, 2 => 9
    | 5, 4 => 8
    | _, _ => 0)
  | _ => {}
theorem ok33 : Abs.SpecOK Tryz.prog 33 sp33 :=
  okW (an := an33) (alc ok68 (alc ok36 (alc ok69 (alc ok71 (alc ok73 (alc ok75 (alc ok77 (alc ok79 al0)))))))) rfl (by intro v; kernel_rfl)

/- pagewatch/zone.Of -/
def i53 : Abs.Sg := ⟨[0], (.dat Z5 .nil), .nil⟩
def o53 : Abs.Sg := ⟨[2, 3], (.st Qx12 Qs1), (.box 2 (.agg (.dat (.int .i64) (.st Qx43 .nil)) .nil) Qb5)⟩
def m53 (v : ((Y9 × Unit) × (Unit))) : Option ((Int × Unit) × (((Int × Unit) × Unit) × Y7 × Unit)) :=
(m117 v).bind fun a =>
some (a.1, ((v.1.1.2.1, ()), ()), a.2)
def sp53 : Abs.Spec := ⟨0, i53, o53, m53⟩
def an53 : Nat → Abs.FAn
  | _ => {}
theorem ok53 : Abs.SpecOK Tryz.prog 53 sp53 :=
  okW (an := an53) (alc ok117 al0) rfl (by intro v; kernel_rfl)

def l194_0_3 (v : ((Int × (List Y9) × Int × Unit) × ((List (Int × Y7 × Unit)) × Unit))) : Option (((Int × (List Y9) × Int × Unit) × ((List (Int × Y7 × Unit)) × Unit)) ⊕ ((Unit) × ((List (Int × Y7 × Unit)) × Unit))) :=
bif (decide ((v.1.1 : Int) < v.1.2.2.1)) then (Abs.rowAt v.1.2.1 v.1.1 fun b _ =>
(m53 ((b, ()), ())).bind fun a =>
bif (decide (v.2.1.length + ([(a.2.1.1.1, a.2.2)] : List (Int × Y7 × Unit)).length ≤ 4294967296)) then
let c := (v.2.1 ++ ([(a.2.1.1.1, a.2.2)] : List (Int × Y7 × Unit)))
some (.inl (((w64 (v.1.1 + 1)), v.1.2), c, ()))
else none)
else (some (.inr ((), v.2)))

/- pagewatch/zone.Tables -/
def i194 : Abs.Sg := ⟨[0], (.dat (.row Z5) .nil), .nil⟩
def o194 : Abs.Sg := ⟨[2], (.st (.own Z16 (0, 0)) .nil), (.arr Z16 false .nil)⟩
def m194 (v : (((List Y9) × Unit) × (Unit))) : Option ((Unit) × ((List (Int × Y7 × Unit)) × Unit)) :=
(loopT l194_0_3 ((0, v.1.1, (v.1.1.length : Int), ()), [], ())).bind fun a =>
some ((), a.2)
def sp194 : Abs.Spec := ⟨0, i194, o194, m194⟩
def an194 : Nat → Abs.FAn
  | 0 => Abs.FAn.mk (fun _ => none) (fun _ => none) (fun
    | 3 => some ⟨⟨[10, 3, 8, 9], (.dat (.int .i64) (.st (.own Z16 (0, 0)) (.dat (.row Z5) Qs1))), (.arr Z16 false .nil)⟩, (.one (.exit 0) ⟨[3], (.st (.own Z16 (0, 0)) .nil), (.arr Z16 false .nil)⟩)⟩
    | _ => none) (fun _ _ => 0)
  | _ => {}
theorem ok194 : Abs.SpecOK Tryz.prog 194 sp194 :=
  okW (an := an194) (alc ok53 al0) rfl (by intro v; kernel_rfl)

/- pagewatch/duty.view -/
def i106 : Abs.Sg := ⟨[0], Qs32, .nil⟩
def o106 : Abs.Sg := ⟨[2], (.st (.ptr (0, 0) 5 0 0) .nil), Qb19⟩
def m106 (v : ((Y3 × Unit) × (Unit))) : Option ((Unit) × ((Y3 × Unit) × (List (Int × Y7 × Unit)) × Unit)) :=
(m194 ((v.1.1.1, ()), ())).bind fun a =>
some ((), v.1, a.2)
def sp106 : Abs.Spec := ⟨0, i106, o106, m106⟩
def an106 : Nat → Abs.FAn
  | _ => {}
theorem ok106 : Abs.SpecOK Tryz.prog 106 sp106 :=
  okW (an := an106) (alc ok194 al0) rfl (by intro v; kernel_rfl)

/- pagewatch/duty.Of -/
def i48 : Abs.Sg := ⟨[0], Qs32, .nil⟩
def o48 : Abs.Sg := ⟨[2, 3], (.st (.ptr (0, 0) 5 0 0) Qs8), Qb19⟩
def m48 (v : ((Y3 × Unit) × (Unit))) : Option ((Bool × Unit) × ((Y3 × Unit) × (List (Int × Y7 × Unit)) × Unit)) :=
(m33 v).bind fun a =>
bif ((a.1.1 : Int) != 0) then (some ((false, ()), (([], [], [], [], ()), ()), [], ()))
else ((m106 v).bind fun b =>
some ((true, ()), b.2))
def sp48 : Abs.Spec := ⟨0, i48, o48, m48⟩
def an48 : Nat → Abs.FAn
  | _ => {}
theorem ok48 : Abs.SpecOK Tryz.prog 48 sp48 :=
  okW (an := an48) (alc ok33 (alc ok106 al0)) rfl (by intro v; kernel_rfl)

/- pagewatch/stack.Index -/
def i49 : Abs.Sg := ⟨[0, 1], (.dat Z1 Qs1), .nil⟩
def o49 : Abs.Sg := ⟨[4], Qs8, .nil⟩
def m49 (v : ((Y3 × Int × Unit) × (Unit))) : Option Y22 :=
((bif (decide ((v.1.2.1 : Int) ≥ 0)) then (let a := (decide ((v.1.2.1 : Int) < (v.1.1.2.2.2.1.length : Int)))
some ((a, ()), ()))
else (some ((false, ()), ()))) : Option Y22).bind fun b =>
some b
def sp49 : Abs.Spec := ⟨0, i49, o49, m49⟩
def an49 : Nat → Abs.FAn
  | 0 => Abs.FAn.mk (fun
    | 1 => some ⟨[4], Qs8, .nil⟩
    | _ => none) (fun _ => none) (fun _ => none) (fun _ _ => 0)
  | _ => {}
theorem ok49 : Abs.SpecOK Tryz.prog 49 sp49 :=
  okW (an := an49) al0 rfl (by intro v; kernel_rfl)

/- pagewatch/duty.Range -/
def i60 : Abs.Sg := ⟨[0, 1], Qs4, .nil⟩
def o60 : Abs.Sg := ⟨[4], Qs8, .nil⟩
def m60 (v : ((Int × Int × Unit) × (Unit))) : Option Y22 :=
((bif (decide ((v.1.1 : Int) ≥ 0)) then (bif (decide ((v.1.1 : Int) ≤ 8589934592)) then (bif (decide ((v.1.2.1 : Int) ≥ v.1.1)) then (bif (decide ((v.1.2.1 : Int) ≤ 8589934592)) then (let a := (decide (((w64 (v.1.2.1 - v.1.1)) : Int) ≤ 34560000))
some ((a, ()), ()))
else (some ((false, ()), ())))
else (some ((false, ()), ())))
else (some ((false, ()), ())))
else (some ((false, ()), ()))) : Option Y22).bind fun b =>
some b
def sp60 : Abs.Spec := ⟨0, i60, o60, m60⟩
def an60 : Nat → Abs.FAn
  | 0 => Abs.FAn.mk (fun
    | 1 => some ⟨[4], Qs8, .nil⟩
    | _ => none) (fun _ => none) (fun _ => none) (fun _ _ => 0)
  | _ => {}
theorem ok60 : Abs.SpecOK Tryz.prog 60 sp60 :=
  okW (an := an60) al0 rfl (by intro v; kernel_rfl)

/- pagewatch/stack.Check -/
def i30 : Abs.Sg := ⟨[0, 1, 2, 3], (.dat Z1 Qs37), .nil⟩
def o30 : Abs.Sg := ⟨[8, 9], (.st (.ptr (0, 0) 5 0 0) Qs1), Qb19⟩
def m30 (v : ((Y3 × Int × Int × Int × Unit) × (Unit))) : Option ((Int × Unit) × ((Y3 × Unit) × (List (Int × Y7 × Unit)) × Unit)) :=
(m48 ((v.1.1, ()), ())).bind fun a =>
bif (!a.1.1) then (some ((8, ()), a.2))
else ((m49 ((v.1.1, v.1.2.1, ()), ())).bind fun b =>
bif (!b.1.1) then (some ((3, ()), a.2))
else ((m60 (v.1.2.2, ())).bind fun c =>
bif (!c.1.1) then (some ((1, ()), a.2))
else (some ((0, ()), a.2))))
def sp30 : Abs.Spec := ⟨0, i30, o30, m30⟩
def an30 : Nat → Abs.FAn
  | _ => {}
theorem ok30 : Abs.SpecOK Tryz.prog 30 sp30 :=
  okW (an := an30) (alc ok48 (alc ok49 (alc ok60 al0))) rfl (by intro v; kernel_rfl)

/- slices.Clone[[]int,int]: the copy of a row -/
def i124 : Abs.Sg := ⟨[0], Qs27, .nil⟩
def o124 : Abs.Sg := ⟨[2], (.st Qx42 .nil), Qb17⟩
def m124 (v : (((List Int) × Unit) × (Unit))) : Option ((Unit) × ((List Int) × Unit)) :=
bif (decide (v.1.1.length ≤ 4294967296)) then some ((), v.1) else none
def sp124 : Abs.Spec := ⟨0, i124, o124, m124⟩
theorem ok124 : Abs.SpecOK Tryz.prog 124 sp124 :=
  Abs.clone_ok (N := note) (t := (.int .i64)) foll (Abs.specOK_of (n := 12) (an := fun _ => {}) (T := Abs.tabOf []) good foll (Abs.tabOf_ok _ (fun _ h => by cases h)) rfl (by intro v; kernel_rfl)) (by kernel_rfl) (by kernel_rfl)

/- 125 pagewatch/duty.Cuts$1: not told by a law: a closure -/

/- 123 slices.DeleteFunc[[]int,int]: not told by a law: a parameter -/

/- 126 slices.Sort[[]int,int]: not told by a law: run where it is called -/

/- warnings: clear: row x92; store: pointer &e90.0 -/

def l61_2_2 (v : ((Int × Int × Unit) × ((List Int) × (Int × Unit) × (Int × Unit) × Unit))) : Option (((Int × Int × Unit) × ((List Int) × (Int × Unit) × (Int × Unit) × Unit)) ⊕ (((Int × Unit) × ((List Int) × (Int × Unit) × (Int × Unit) × Unit)) ⊕ ((Unit) × ((List Int) × (Int × Unit) × (Int × Unit) × Unit)))) :=
bif (decide ((v.1.1 : Int) < v.1.2.1)) then (bif (decide ((0 : Int) ≤ v.1.1 ∧ (v.1.1 : Int) < v.2.1.length)) then
(v.2.1[v.1.1.toNat]?).bind fun b =>
((bif (decide ((b : Int) ≤ v.2.2.1.1)) then (some ((true, ()), v.2.2))
else (some (((decide ((b : Int) ≥ v.2.2.2.1.1)), ()), v.2.2))) : Option ((Bool × Unit) × ((Int × Unit) × (Int × Unit) × Unit))).bind fun a =>
bif a.1.1 then (some (.inr (.inl ((v.1.1, ()), v.2.1, a.2))))
else (some (.inl (((w64 (v.1.1 + 1)), v.1.2), v.2.1, a.2)))
else none)
else (some (.inr (.inr ((), v.2))))

def l61_1_5 (v : ((Int × Int × Unit) × ((List Int) × (Int × Unit) × (Int × Unit) × Unit))) : Option (((Int × Int × Unit) × ((List Int) × (Int × Unit) × (Int × Unit) × Unit)) ⊕ ((Int × Unit) × ((List Int) × (Int × Unit) × (Int × Unit) × Unit))) :=
let d := (decide ((v.1.1 : Int) < ((v.2.1.length : Nat) : Int)))
bif d then (((bif (decide ((0 : Int) ≤ v.1.1 ∧ (v.1.1 : Int) < v.2.1.length)) then
(v.2.1[v.1.1.toNat]?).bind fun a =>
((bif (decide ((a : Int) ≤ v.2.2.1.1)) then (some ((true, ()), v.2.2))
else (some (((decide ((a : Int) ≥ v.2.2.2.1.1)), ()), v.2.2))) : Option ((Bool × Unit) × ((Int × Unit) × (Int × Unit) × Unit))).bind fun b =>
bif (!b.1.1) then (bif (decide ((0 : Int) ≤ v.1.2.1 ∧ (v.1.2.1 : Int) < v.2.1.length)) then
bif (decide (v.1.2.1.toNat < v.2.1.length)) then
some (((w64 (v.1.2.1 + 1)), v.1.1, ()), (v.2.1.set v.1.2.1.toNat a), b.2)
else none
else none)
else (some ((v.1.2.1, v.1.1, ()), v.2.1, b.2))
else none) : Option ((Int × Int × Unit) × ((List Int) × (Int × Unit) × (Int × Unit) × Unit))).bind fun c =>
some (.inl (((w64 (c.1.2.1 + 1)), c.1.1, ()), c.2)))
else (some (.inr (v.1.2, v.2)))

def l61_5_9 (v : ((Int × Int × (Nat × Nat) × (Nat × Nat) × Unit) × ((List Int) × Unit))) : Option (((Int × Int × (Nat × Nat) × (Nat × Nat) × Unit) × ((List Int) × Unit)) ⊕ ((Int × (Nat × Nat) × Unit) × ((List Int) × Unit))) :=
let b := (decide ((v.1.1 : Int) < ((v.1.2.2.1.2 : Nat) : Int)))
bif b then (((bif (decide ((0 : Int) ≤ v.1.1 ∧ (v.1.1 : Int) < v.1.2.2.1.2)) then
(v.2.1[(v.1.2.2.1.1 + v.1.1.toNat)]?).bind fun c =>
bif (decide ((0 : Int) ≤ (w64 (v.1.1 - 1)) ∧ ((w64 (v.1.1 - 1)) : Int) < v.1.2.2.1.2)) then
(v.2.1[(v.1.2.2.1.1 + (w64 (v.1.1 - 1)).toNat)]?).bind fun d =>
bif ((c : Int) != d) then (bif (decide ((0 : Int) ≤ v.1.1 ∧ (v.1.1 : Int) < v.1.2.2.1.2)) then
(v.2.1[(v.1.2.2.1.1 + v.1.1.toNat)]?).bind fun e =>
bif (decide ((0 : Int) ≤ v.1.2.1 ∧ (v.1.2.1 : Int) < v.1.2.2.2.1.2)) then
bif (decide ((v.1.2.2.2.1.1 + v.1.2.1.toNat) < v.2.1.length)) then
some (((w64 (v.1.2.1 + 1)), v.1.2.2.1, v.1.2.2.2.1, v.1.1, ()), (v.2.1.set (v.1.2.2.2.1.1 + v.1.2.1.toNat) e), ())
else none
else none
else none)
else (some ((v.1.2.1, v.1.2.2.1, v.1.2.2.2.1, v.1.1, ()), v.2))
else none
else none) : Option ((Int × (Nat × Nat) × (Nat × Nat) × Int × Unit) × ((List Int) × Unit))).bind fun a =>
some (.inl (((w64 (a.1.2.2.2.1 + 1)), a.1.1, a.1.2.1, a.1.2.2.1, ()), a.2)))
else (some (.inr ((v.1.2.1, v.1.2.2.2), v.2)))

def l61_5_4 (v : ((Int × (Nat × Nat) × Unit) × ((List Int) × Unit))) : Option (((Int × (Nat × Nat) × Unit) × ((List Int) × Unit)) ⊕ ((((Nat × Nat) × Unit) × ((List Int) × Unit)) ⊕ (((Nat × Nat) × Unit) × ((List Int) × Unit)))) :=
let b := (decide ((v.1.1 : Int) < ((v.1.2.1.2 : Nat) : Int)))
bif b then (bif (decide ((0 : Int) ≤ v.1.1 ∧ (v.1.1 : Int) < v.1.2.1.2)) then
(v.2.1[(v.1.2.1.1 + v.1.1.toNat)]?).bind fun c =>
bif (decide ((0 : Int) ≤ (w64 (v.1.1 - 1)) ∧ ((w64 (v.1.1 - 1)) : Int) < v.1.2.1.2)) then
(v.2.1[(v.1.2.1.1 + (w64 (v.1.1 - 1)).toNat)]?).bind fun d =>
bif ((c : Int) == d) then (bif (decide ((0 : Int) ≤ v.1.1)) then
bif (decide (v.1.1.toNat ≤ v.1.2.1.2 ∧ v.1.2.1.2 ≤ v.1.2.1.2)) then
(loopT l61_5_9 ((1, v.1.1, ((v.1.2.1.1 + v.1.1.toNat), (v.1.2.1.2 - v.1.1.toNat)), v.1.2), v.2)).bind fun a =>
bif (decide ((0 : Int) ≤ a.1.1)) then
bif (decide (a.1.1.toNat ≤ a.1.2.1.2 ∧ a.1.2.1.2 ≤ a.1.2.1.2)) then
bif (decide ((a.1.2.1.1 + a.1.1.toNat) + (a.1.2.1.2 - a.1.1.toNat) ≤ a.2.1.length)) then
let e := (spliceL a.2.1 (a.1.2.1.1 + a.1.1.toNat) (List.replicate (a.1.2.1.2 - a.1.1.toNat) (0 : Int)))
bif (decide ((0 : Int) ≤ a.1.1)) then
bif (decide (0 ≤ a.1.1.toNat ∧ a.1.1.toNat ≤ a.1.2.1.2)) then
some (.inr (.inl (((a.1.2.1.1, a.1.1.toNat), ()), e, ())))
else none
else none
else none
else none
else none
else none
else none)
else (some (.inl (((w64 (v.1.1 + 1)), v.1.2), v.2)))
else none
else none)
else (some (.inr (.inr (v.1.2, v.2))))

/- pagewatch/duty.Cuts -/
def i61 : Abs.Sg := ⟨[0, 1, 2], (.dat (.row (.int .i64)) Qs4), .nil⟩
def o61 : Abs.Sg := ⟨[6], (.st Qx42 .nil), Qb17⟩
def m61 (v : (((List Int) × Int × Int × Unit) × (Unit))) : Option ((Unit) × ((List Int) × Unit)) :=
(((m124 ((v.1.1, ()), ())).bind fun f =>
(((loopT l61_2_2 ((0, ((f.2.1.length : Nat) : Int), ()), f.2.1, (v.1.2.1, ()), v.1.2.2, ())).bind fun k =>
sumE k (fun h => (bif (decide (h.2.1.length = f.2.1.length) && true) then
some h
else none)) (fun j => (bif (decide (j.2.1.length = f.2.1.length) && true) then
some (((-1), ()), j.2)
else none))) : Option ((Int × Unit) × ((List Int) × (Int × Unit) × (Int × Unit) × Unit))).bind fun c =>
bif ((c.1.1 : Int) == (-1)) then (bif (decide (c.2.1.length = f.2.1.length) && true) then
some (((0, c.2.1.length), ()), c.2.2.2.1, c.2.1, ())
else none)
else ((loopT l61_1_5 (((w64 (c.1.1 + 1)), c.1), c.2)).bind fun b =>
bif (decide ((0 : Int) ≤ b.1.1)) then
bif (decide (b.1.1.toNat ≤ b.2.1.length ∧ b.2.1.length ≤ b.2.1.length)) then
bif (decide (b.1.1.toNat + (b.2.1.length - b.1.1.toNat) ≤ b.2.1.length)) then
let g := (spliceL b.2.1 b.1.1.toNat (List.replicate (b.2.1.length - b.1.1.toNat) (0 : Int)))
bif (decide ((0 : Int) ≤ b.1.1)) then
bif (decide (0 ≤ b.1.1.toNat ∧ b.1.1.toNat ≤ g.length)) then
bif (decide (g.length = f.2.1.length) && true) then
some (((0, b.1.1.toNat), ()), b.2.2.2.1, g, ())
else none
else none
else none
else none
else none
else none)) : Option (((Nat × Nat) × Unit) × ((Int × Unit) × (List Int) × Unit))).bind fun a =>
bif (decide (a.1.1.1 + a.1.1.2 ≤ List.length a.2.2.1 ∧ List.length a.2.2.1 ≤ 4294967296)) then
bif (decide ((sortAt a.2.2.1 a.1.1.1 a.1.1.2).length = a.2.2.1.length) && true) then
((let l := (decide ((((a.1.1.2 : Nat) : Int) : Int) < 2))
bif l then (bif (decide ((sortAt a.2.2.1 a.1.1.1 a.1.1.2).length = (sortAt a.2.2.1 a.1.1.1 a.1.1.2).length) && true) then
bif (decide (a.1.1.1 = 0 ∧ a.1.1.2 ≤ (sortAt a.2.2.1 a.1.1.1 a.1.1.2).length ∧ a.1.1.2 + [a.2.1.1].length ≤ 4294967296)) then
let m := ((sortAt a.2.2.1 a.1.1.1 a.1.1.2).take a.1.1.2 ++ [a.2.1.1])
some ((), m, ())
else none
else none)
else ((loopT l61_5_4 ((1, a.1), (sortAt a.2.2.1 a.1.1.1 a.1.1.2), ())).bind fun n =>
sumE n (fun d => (bif (decide (d.2.1.length = (sortAt a.2.2.1 a.1.1.1 a.1.1.2).length) && true) then
bif (decide (d.1.1.1 = 0 ∧ d.1.1.2 ≤ d.2.1.length ∧ d.1.1.2 + [a.2.1.1].length ≤ 4294967296)) then
some ((), (d.2.1.take d.1.1.2 ++ [a.2.1.1]), ())
else none
else none)) (fun e => (bif (decide (e.2.1.length = (sortAt a.2.2.1 a.1.1.1 a.1.1.2).length) && true) then
bif (decide (e.1.1.1 = 0 ∧ e.1.1.2 ≤ e.2.1.length ∧ e.1.1.2 + [a.2.1.1].length ≤ 4294967296)) then
some ((), (e.2.1.take e.1.1.2 ++ [a.2.1.1]), ())
else none
else none)))) : Option ((Unit) × ((List Int) × Unit))).bind fun o =>
some ((), o.2)
else none
else none
def sp61 : Abs.Spec := ⟨0, i61, o61, m61⟩
def an61 : Nat → Abs.FAn
  | 0 => Abs.FAn.mk (fun
    | 3 => some ⟨[6], (.st Qx42 .nil), Qb17⟩
    | 1 => some ⟨[5, 7], (.st (.ptr (0, 0) 1 0 0) (.part (.int .i64) (1, 0) .nil)), (.box 1 Qs1 Qb17)⟩
    | _ => none) (fun _ => none) (fun _ => none) (fun
    | 3, 1 => 5
    | 1, 3 => 1
    | _, _ => 0)
  | 1 => Abs.FAn.mk (fun
    | 1 => some ⟨[0, 5, 1], (.st Qx42 (.dat (.int .i64) (.st (.clo 125 [((1, 0), 1, 0, 0), ((2, 0), 1, 0, 0)]) .nil))), Qb18⟩
    | _ => none) (fun
    | 6 => some (⟨[5, 0, 1, 6], (.dat (.int .i64) (.st Qx42 (.st (.clo 125 [((1, 0), 1, 0, 0), ((2, 0), 1, 0, 0)]) Qs1))), Qb18⟩, none)
    | _ => none) (fun
    | 5 => some ⟨⟨[6, 5, 0, 1], (.dat (.int .i64) (.dat (.int .i64) (.st Qx42 (.st (.clo 125 [((1, 0), 1, 0, 0), ((2, 0), 1, 0, 0)]) .nil)))), Qb18⟩, (.one (.exit 0) ⟨[5, 0], (.dat (.int .i64) (.st Qx42 .nil)), Qb18⟩)⟩
    | _ => none) (fun
    | 8, 2 => 4
    | 1, 2 => 2
    | _, _ => 0)
  | 2 => Abs.FAn.mk (fun _ => none) (fun _ => none) (fun
    | 2 => some ⟨⟨[8, 0, 1, 7], (.dat (.int .i64) (.st Qx42 (.st (.clo 125 [((1, 0), 1, 0, 0), ((2, 0), 1, 0, 0)]) Qs1))), Qb18⟩, (.more .ret ⟨[4], Qs1, Qb18⟩ (.one (.exit 0) ⟨[], .nil, Qb18⟩))⟩
    | _ => none) (fun
    | 4, 5 => 3
    | _, _ => 0)
  | 3 => Abs.FAn.mk (fun
    | 1 => some ⟨[4], Qs8, (.box 1 Qs1 (.box 1 Qs1 .nil))⟩
    | _ => none) (fun _ => none) (fun _ => none) (fun _ _ => 0)
  | 4 => Abs.FAn.mk (fun
    | 1 => some ⟨[4], Qs8, (.box 1 Qs1 (.box 1 Qs1 .nil))⟩
    | _ => none) (fun _ => none) (fun _ => none) (fun _ _ => 0)
  | 5 => Abs.FAn.mk (fun _ => none) (fun
    | 10 => some (⟨[3, 4, 0, 5], (.dat (.int .i64) (.part (.int .i64) (0, 0) (.part (.int .i64) (0, 0) Qs1))), Qb17⟩, none)
    | _ => none) (fun
    | 4 => some ⟨⟨[3, 0], (.dat (.int .i64) (.part (.int .i64) (0, 0) .nil)), Qb17⟩, (.more .ret ⟨[2], (.part (.int .i64) (0, 0) .nil), Qb17⟩ (.one (.exit 0) ⟨[0], (.part (.int .i64) (0, 0) .nil), Qb17⟩))⟩
    | 9 => some ⟨⟨[5, 3, 4, 0], (.dat (.int .i64) (.dat (.int .i64) (.part (.int .i64) (0, 0) (.part (.int .i64) (0, 0) .nil)))), Qb17⟩, (.one (.exit 2) ⟨[3, 0], (.dat (.int .i64) (.part (.int .i64) (0, 0) .nil)), Qb17⟩)⟩
    | _ => none) (fun _ _ => 0)
  | _ => {}
theorem ok61 : Abs.SpecOK Tryz.prog 61 sp61 :=
  okW (an := an61) (alc ok124 al0) rfl (by intro v; kernel_rfl)

/- 213 slices.Backward[[]pagewatch/api.Layer,pagewatch/api.Layer]$1: not told by a law: a closure -/

/- slices.Backward[[]pagewatch/api.Layer,pagewatch/api.Layer] -/
def i128 : Abs.Sg := ⟨[0], (.dat (.row Z10) .nil), .nil⟩
def o128 : Abs.Sg := ⟨[2], (.st (.clo 213 [((0, 0), 1, 0, 0)]) .nil), (.box 1 (.dat (.row Z10) .nil) .nil)⟩
def m128 (v : (((List Y6) × Unit) × (Unit))) : Option ((Unit) × (((List Y6) × Unit) × Unit)) :=
some ((), v)
def sp128 : Abs.Spec := ⟨0, i128, o128, m128⟩
def an128 : Nat → Abs.FAn
  | _ => {}
theorem ok128 : Abs.SpecOK Tryz.prog 128 sp128 :=
  okW (an := an128) al0 rfl (by intro v; kernel_rfl)

/- pagewatch/recur.step -/
def i195 : Abs.Sg := ⟨[0], (.dat Z10 .nil), .nil⟩
def o195 : Abs.Sg := ⟨[2], Qs1, .nil⟩
def m195 (v : ((Y6 × Unit) × (Unit))) : Option ((Int × Unit) × (Unit)) :=
bif ((v.1.1.2.2.2.1 : Int) == 2) then (some (((w64 (7 * v.1.1.2.2.2.2.1)), ()), ()))
else (some ((v.1.1.2.2.2.2.1, ()), ()))
def sp195 : Abs.Spec := ⟨0, i195, o195, m195⟩
def an195 : Nat → Abs.FAn
  | _ => {}
theorem ok195 : Abs.SpecOK Tryz.prog 195 sp195 :=
  okW (an := an195) al0 rfl (by intro v; kernel_rfl)

/- 264 (pagewatch/zone.Table).after$1: not told by a law: a closure -/

/- 263 sort.Search: not told by a law: a parameter -/

def l200_1_2 (v : ((Int × Int × Unit) × (((Int × Y7 × Unit) × Unit) × (Int × Unit) × Unit))) : Option (((Int × Int × Unit) × (((Int × Y7 × Unit) × Unit) × (Int × Unit) × Unit)) ⊕ ((Int × Unit) × (((Int × Y7 × Unit) × Unit) × (Int × Unit) × Unit))) :=
bif (decide ((v.1.2.1 : Int) < v.1.1)) then (bif (decide ((0 : Int) ≤ 1)) then
let a := (shrI .u64 ((IntKind.wrap .u64 ((w64 (v.1.2.1 + v.1.1))))) (1))
Abs.rowAt v.2.1.1.2.1 (w64 (a)) fun b _ =>
bif (!(decide ((b.1 : Int) > v.2.2.1.1))) then (some (.inl ((v.1.1, (w64 ((w64 (a)) + 1)), ()), v.2)))
else (some (.inl (((w64 (a)), v.1.2), v.2)))
else none)
else (some (.inr (v.1.2, v.2)))

/- (pagewatch/zone.Table).after -/
def i200 : Abs.Sg := ⟨[0, 1], (.dat Z16 Qs1), .nil⟩
def o200 : Abs.Sg := ⟨[4], Qs1, .nil⟩
def m200 (v : (((Int × Y7 × Unit) × Int × Unit) × (Unit))) : Option ((Int × Unit) × (Unit)) :=
(loopT l200_1_2 (((v.1.1.2.1.length : Int), 0, ()), (v.1.1, ()), v.1.2, ())).bind fun a =>
some (a.1, ())
def sp200 : Abs.Spec := ⟨0, i200, o200, m200⟩
def an200 : Nat → Abs.FAn
  | 0 => Abs.FAn.mk (fun _ => none) (fun _ => none) (fun _ => none) (fun
    | 1, 4 => 1
    | _, _ => 0)
  | 1 => Abs.FAn.mk (fun _ => none) (fun _ => none) (fun
    | 2 => some ⟨⟨[1, 6, 5], (.st (.clo 264 [((0, 0), 2, 0, 0), ((1, 0), 1, 0, 0)]) Qs4), (.box 2 (.dat Z16 .nil) (.box 1 Qs1 .nil))⟩, (.one (.exit 0) ⟨[5], Qs1, (.box 2 (.dat Z16 .nil) (.box 1 Qs1 .nil))⟩)⟩
    | _ => none) (fun
    | 4, 2 => 2
    | _, _ => 0)
  | _ => {}
theorem ok200 : Abs.SpecOK Tryz.prog 200 sp200 :=
  okW (an := an200) al0 rfl (by intro v; kernel_rfl)

/- (pagewatch/zone.Table).before -/
def i201 : Abs.Sg := ⟨[0, 1], (.dat Z16 Qs1), .nil⟩
def o201 : Abs.Sg := ⟨[4], Qs1, .nil⟩
def m201 (v : (((Int × Y7 × Unit) × Int × Unit) × (Unit))) : Option ((Int × Unit) × (Unit)) :=
bif ((v.1.2.1 : Int) == 0) then (some ((v.1.1.1, ()), ()))
else (Abs.rowAt v.1.1.2.1 (w64 (v.1.2.1 - 1)) fun a _ =>
some (a.2, ()))
def sp201 : Abs.Spec := ⟨0, i201, o201, m201⟩
def an201 : Nat → Abs.FAn
  | _ => {}
theorem ok201 : Abs.SpecOK Tryz.prog 201 sp201 :=
  okW (an := an201) al0 rfl (by intro v; kernel_rfl)

def l118_0_2 (v : ((Int × Int × Unit) × (((Int × Y7 × Unit) × Unit) × (List Y12) × Unit))) : Option (((Int × Int × Unit) × (((Int × Y7 × Unit) × Unit) × (List Y12) × Unit)) ⊕ ((Unit) × ((List Y12) × Unit))) :=
bif (decide ((v.1.1 : Int) < v.1.2.1)) then ((m200 ((v.2.1.1, v.1.1, ()), ())).bind fun b =>
((let e := (decide ((b.1.1 : Int) < (v.2.1.1.2.1.length : Int)))
bif e then (Abs.rowAt v.2.1.1.2.1 b.1.1 fun c _ =>
let f := (if (c.1 : Int) < v.1.2.1 then c.1 else v.1.2.1)
some ((v.1.2.1, f, b.1.1, v.1.1, ()), v.2))
else (some ((v.1.2.1, v.1.2.1, b.1.1, v.1.1, ()), v.2))) : Option ((Int × Int × Int × Int × Unit) × (((Int × Y7 × Unit) × Unit) × (List Y12) × Unit))).bind fun a =>
(m201 ((a.2.1.1, a.1.2.2.1, ()), ())).bind fun d =>
bif (decide (a.2.2.1.length + ([(a.1.2.2.2.1, a.1.2.1, d.1)] : List Y12).length ≤ 4294967296)) then
let g := (a.2.2.1 ++ ([(a.1.2.2.2.1, a.1.2.1, d.1)] : List Y12))
some (.inl ((a.1.2.1, a.1.1, ()), a.2.1, g, ()))
else none)
else (some (.inr ((), v.2.2)))

/- (pagewatch/zone.Table).Pieces -/
def i118 : Abs.Sg := ⟨[0, 1, 2], (.dat Z16 Qs4), .nil⟩
def o118 : Abs.Sg := ⟨[6], (.st Qx7 .nil), Qb2⟩
def m118 (v : (((Int × Y7 × Unit) × Int × Int × Unit) × (Unit))) : Option ((Unit) × ((List Y12) × Unit)) :=
(loopT l118_0_2 (v.1.2, (v.1.1, ()), [], ())).bind fun a =>
some ((), a.2)
def sp118 : Abs.Spec := ⟨0, i118, o118, m118⟩
def an118 : Nat → Abs.FAn
  | 0 => Abs.FAn.mk (fun _ => none) (fun
    | 7 => some (⟨[3, 2, 9, 8, 1, 7], (.st Qx12 (.dat (.int .i64) (.dat (.int .i64) (.dat (.int .i64) (.dat (.int .i64) (.st Qx14 .nil)))))), (.box 2 (.dat Z16 .nil) Qb2)⟩, none)
    | _ => none) (fun
    | 2 => some ⟨⟨[3, 1, 7, 2], (.st Qx12 (.dat (.int .i64) (.st Qx14 Qs1))), (.box 2 (.dat Z16 .nil) Qb2)⟩, (.one (.exit 0) ⟨[7], (.st Qx7 .nil), Qb2⟩)⟩
    | _ => none) (fun _ _ => 0)
  | _ => {}
theorem ok118 : Abs.SpecOK Tryz.prog 118 sp118 :=
  okW (an := an118) (alc ok200 (alc ok201 al0)) rfl (by intro v; kernel_rfl)

/- pagewatch/zone.seconds -/
def i196 : Abs.Sg := ⟨[0], (.dat Z2 .nil), .nil⟩
def o196 : Abs.Sg := ⟨[2], Qs1, .nil⟩
def m196 (v : (Y25 × (Unit))) : Option ((Int × Unit) × (Unit)) :=
let a := (if ((-1048576) : Int) > v.1.1.1 then (-1048576) else v.1.1.1)
let b := (w64 ((if (1048576 : Int) < a then 1048576 else a) * 86400))
some (((w64 (b + v.1.1.2.1)), ()), ())
def sp196 : Abs.Spec := ⟨0, i196, o196, m196⟩
def an196 : Nat → Abs.FAn
  | _ => {}
theorem ok196 : Abs.SpecOK Tryz.prog 196 sp196 :=
  okW (an := an196) al0 rfl (by intro v; kernel_rfl)

def l112_0_2 (v : ((Int × Int × Unit) × (Y25 × (List Y12) × Unit))) : Option (((Int × Int × Unit) × (Y25 × (List Y12) × Unit)) ⊕ (((Int × Bool × Unit) × (Unit)) ⊕ ((Unit) × (Unit)))) :=
bif (decide ((v.1.1 : Int) < v.1.2.1)) then (bif (decide ((0 : Int) ≤ v.1.1 ∧ (v.1.1 : Int) < v.2.2.1.length)) then
(v.2.2.1[v.1.1.toNat]?).bind fun a =>
(m196 (v.2.1, ())).bind fun b =>
let c := (if ((w64 (b.1.1 - a.2.2.1)) : Int) > a.1 then (w64 (b.1.1 - a.2.2.1)) else a.1)
bif (decide ((c : Int) < a.2.1)) then (some (.inr (.inl ((c, true, ()), ()))))
else (some (.inl (((w64 (v.1.1 + 1)), v.1.2), v.2)))
else none)
else (some (.inr (.inr ((), ()))))

/- (pagewatch/zone.Table).First -/
def i112 : Abs.Sg := ⟨[0, 1], (.dat Z16 (.dat Z2 .nil)), .nil⟩
def o112 : Abs.Sg := ⟨[4, 5], (.dat (.int .i64) Qs8), .nil⟩
def m112 (v : (((Int × Y7 × Unit) × (Int × Int × Unit) × Unit) × (Unit))) : Option ((Int × Bool × Unit) × (Unit)) :=
(m118 ((v.1.1, 0, 8589934593, ()), ())).bind fun a =>
(loopT l112_0_2 ((0, ((a.2.1.length : Nat) : Int), ()), v.1.2, a.2)).bind fun b =>
sumE b (fun c => (some c)) (fun d => (some ((0, false, ()), ())))
def sp112 : Abs.Spec := ⟨0, i112, o112, m112⟩
def an112 : Nat → Abs.FAn
  | 0 => Abs.FAn.mk (fun _ => none) (fun _ => none) (fun
    | 2 => some ⟨⟨[12, 3, 10, 11], (.dat (.int .i64) (.st Qx12 (.st Qx14 Qs1))), (.box 2 (.dat Z2 .nil) Qb2)⟩, (.more .ret ⟨[4, 5], (.dat (.int .i64) Qs8), .nil⟩ (.one (.exit 0) ⟨[], .nil, .nil⟩))⟩
    | _ => none) (fun _ _ => 0)
  | _ => {}
theorem ok112 : Abs.SpecOK Tryz.prog 112 sp112 :=
  okW (an := an112) (alc ok118 (alc ok196 al0)) rfl (by intro v; kernel_rfl)

/- pagewatch/recur.HandoverOf -/
def i111 : Abs.Sg := ⟨[0, 1, 2], (.dat Z16 (.dat Z10 Qs1)), .nil⟩
def o111 : Abs.Sg := ⟨[6, 7], (.dat (.int .i64) Qs8), .nil⟩
def m111 (v : (((Int × Y7 × Unit) × Y6 × Int × Unit) × (Unit))) : Option ((Int × Bool × Unit) × (Unit)) :=
bif (decide ((v.1.2.2.1 : Int) > 8589934592)) then (some ((0, false, ()), ()))
else (bif ((v.1.2.1.2.2.2.1 : Int) != 0) then ((m195 ((v.1.2.1, ()), ())).bind fun c =>
let d := (w64 (v.1.2.1.2.2.1.1 + (w64 (v.1.2.2.1 * c.1.1))))
(m112 ((v.1.1, (d, v.1.2.1.2.2.1.2), ()), ())).bind fun e =>
some e)
else ((m112 ((v.1.1, v.1.2.1.2.2.1, ()), ())).bind fun a =>
let b := (w64 ((w64 (3600 * v.1.2.1.2.2.2.2.1)) * v.1.2.2.1))
((bif a.1.2.1 then (let f := (decide (((w64 (a.1.1 + b)) : Int) ≤ 8589934592))
some (((w64 (a.1.1 + b)), f, ()), ()))
else (some (((w64 (a.1.1 + b)), false, ()), ()))) : Option ((Int × Bool × Unit) × (Unit))).bind fun g =>
some g))
def sp111 : Abs.Spec := ⟨0, i111, o111, m111⟩
def an111 : Nat → Abs.FAn
  | 0 => Abs.FAn.mk (fun
    | 9 => some ⟨[6, 7], (.dat (.int .i64) Qs8), .nil⟩
    | _ => none) (fun _ => none) (fun _ => none) (fun _ _ => 0)
  | _ => {}
theorem ok111 : Abs.SpecOK Tryz.prog 111 sp111 :=
  okW (an := an111) (alc ok195 (alc ok112 al0)) rfl (by intro v; kernel_rfl)

/- slices.Clone[[]pagewatch/api.Span,pagewatch/api.Span]: the copy of a row -/
def i203 : Abs.Sg := ⟨[0], (.dat (.row Z2) .nil), .nil⟩
def o203 : Abs.Sg := ⟨[2], Qs35, Qb5⟩
def m203 (v : ((Y7 × Unit) × (Unit))) : Option ((Unit) × (Y7 × Unit)) :=
bif (decide (v.1.1.length ≤ 4294967296)) then some ((), v.1) else none
def sp203 : Abs.Spec := ⟨0, i203, o203, m203⟩
theorem ok203 : Abs.SpecOK Tryz.prog 203 sp203 :=
  Abs.clone_ok (N := note) (t := Z2) foll (Abs.specOK_of (n := 12) (an := fun _ => {}) (T := Abs.tabOf []) good foll (Abs.tabOf_ok _ (fun _ h => by cases h)) rfl (by intro v; kernel_rfl)) (by kernel_rfl) (by kernel_rfl)

/- 265 slices.IndexFunc[[]pagewatch/api.Span,pagewatch/api.Span]: not told by a law: a parameter -/

/- 202 slices.DeleteFunc[[]pagewatch/api.Span,pagewatch/api.Span]: not told by a law: a parameter -/

/- pagewatch/span.Merge$1 -/
def i204 : Abs.Sg := ⟨[0], (.dat Z2 .nil), .nil⟩
def o204 : Abs.Sg := ⟨[2], Qs8, .nil⟩
def m204 (v : (Y25 × (Unit))) : Option Y22 :=
some (((decide ((v.1.1.2.1 : Int) ≤ v.1.1.1)), ()), ())
def sp204 : Abs.Spec := ⟨0, i204, o204, m204⟩
def an204 : Nat → Abs.FAn
  | _ => {}
theorem ok204 : Abs.SpecOK Tryz.prog 204 sp204 :=
  okW (an := an204) al0 rfl (by intro v; kernel_rfl)

/- 205 slices.SortFunc[[]pagewatch/api.Span,pagewatch/api.Span]: not told by a law: run where it is called -/

def l119_2_2 (v : ((Int × Y7 × Int × Unit) × (Unit))) : Option (((Int × Y7 × Int × Unit) × (Unit)) ⊕ (((Int × Unit) × (Unit)) ⊕ ((Unit) × (Unit)))) :=
bif (decide ((v.1.1 : Int) < v.1.2.2.1)) then (Abs.rowAt v.1.2.1 v.1.1 fun a _ =>
(m204 ((a, ()), ())).bind fun b =>
bif b.1.1 then (some (.inr (.inl ((v.1.1, ()), ()))))
else (some (.inl (((w64 (v.1.1 + 1)), v.1.2), ()))))
else (some (.inr (.inr ((), ()))))

def l119_1_5 (v : ((Int × Int × Unit) × (Y7 × Unit))) : Option (((Int × Int × Unit) × (Y7 × Unit)) ⊕ ((Int × Unit) × (Y7 × Unit))) :=
let c := (decide ((v.1.1 : Int) < ((v.2.1.length : Nat) : Int)))
bif c then (((bif (decide ((0 : Int) ≤ v.1.1 ∧ (v.1.1 : Int) < v.2.1.length)) then
(v.2.1[v.1.1.toNat]?).bind fun b =>
(m204 ((b, ()), ())).bind fun d =>
bif (!d.1.1) then (bif (decide ((0 : Int) ≤ v.1.2.1 ∧ (v.1.2.1 : Int) < v.2.1.length)) then
bif (decide (v.1.2.1.toNat < v.2.1.length)) then
some (((w64 (v.1.2.1 + 1)), v.1.1, ()), (v.2.1.set v.1.2.1.toNat b), ())
else none
else none)
else (some ((v.1.2.1, v.1.1, ()), v.2))
else none) : Option ((Int × Int × Unit) × (Y7 × Unit))).bind fun a =>
some (.inl (((w64 (a.1.2.1 + 1)), a.1.1, ()), a.2)))
else (some (.inr (v.1.2, v.2)))

def l119_0_5 (v : ((Int × (Nat × Nat) × Int × Unit) × (Y7 × Y7 × Unit))) : Option (((Int × (Nat × Nat) × Int × Unit) × (Y7 × Y7 × Unit)) ⊕ ((Unit) × (Y7 × Unit))) :=
bif (decide ((v.1.1 : Int) < v.1.2.2.1)) then (((bif (decide ((0 : Int) ≤ v.1.1 ∧ (v.1.1 : Int) < v.1.2.1.2)) then
(v.2.2.1[(v.1.2.1.1 + v.1.1.toNat)]?).bind fun c =>
((let e := (decide ((((v.2.1.length : Nat) : Int) : Int) > 0))
bif e then (bif (decide ((0 : Int) ≤ (w64 (((v.2.1.length : Nat) : Int) - 1)) ∧ ((w64 (((v.2.1.length : Nat) : Int) - 1)) : Int) < v.2.1.length)) then
(v.2.1[(w64 (((v.2.1.length : Nat) : Int) - 1)).toNat]?).bind fun f =>
some (((decide ((c.1 : Int) ≤ f.2.1)), v.1.2.1, v.1.2.2.1, v.1.1, ((v.2.1.length : Nat) : Int), ()), v.2.1, v.2.2.1, (c, ()), ())
else none)
else (some ((false, v.1.2.1, v.1.2.2.1, v.1.1, ((v.2.1.length : Nat) : Int), ()), v.2.1, v.2.2.1, (c, ()), ()))) : Option ((Bool × (Nat × Nat) × Int × Int × Int × Unit) × (Y7 × Y7 × Y25 × Unit))).bind fun a =>
bif a.1.1 then (bif (decide ((0 : Int) ≤ (w64 (a.1.2.2.2.2.1 - 1)) ∧ ((w64 (a.1.2.2.2.2.1 - 1)) : Int) < a.2.1.length)) then
(a.2.1[(w64 (a.1.2.2.2.2.1 - 1)).toNat]?).bind fun d =>
let g := (if (a.2.2.2.1.1.2.1 : Int) > d.2.1 then a.2.2.2.1.1.2.1 else d.2.1)
bif (decide ((0 : Int) ≤ (w64 (a.1.2.2.2.2.1 - 1)) ∧ ((w64 (a.1.2.2.2.2.1 - 1)) : Int) < a.2.1.length)) then
(a.2.1[(w64 (a.1.2.2.2.2.1 - 1)).toNat]?).bind fun h =>
some ((a.1.2.1, a.1.2.2.1, a.1.2.2.2.1, ()), (a.2.1.set (w64 (a.1.2.2.2.2.1 - 1)).toNat (h.1, g, ())), a.2.2.1, ())
else none
else none)
else (bif (decide (a.2.1.length + ([a.2.2.2.1.1] : List (Int × Int × Unit)).length ≤ 4294967296)) then
let j := (a.2.1 ++ ([a.2.2.2.1.1] : List (Int × Int × Unit)))
some ((a.1.2.1, a.1.2.2.1, a.1.2.2.2.1, ()), j, a.2.2.1, ())
else none)
else none) : Option (((Nat × Nat) × Int × Int × Unit) × (Y7 × Y7 × Unit))).bind fun b =>
some (.inl (((w64 (b.1.2.2.1 + 1)), b.1.1, b.1.2.1, ()), b.2)))
else (some (.inr ((), v.2.1, ())))

/- pagewatch/span.Merge -/
def i119 : Abs.Sg := ⟨[0], (.dat (.row Z2) .nil), .nil⟩
def o119 : Abs.Sg := ⟨[2], Qs35, Qb5⟩
def m119 (v : ((Y7 × Unit) × (Unit))) : Option ((Unit) × (Y7 × Unit)) :=
(((m203 v).bind fun d =>
(((loopT l119_2_2 ((0, d.2.1, (d.2.1.length : Int), ()), ())).bind fun f =>
sumE f (fun g => (some (g.1, d.2))) (fun j => (some (((-1), ()), d.2)))) : Option ((Int × Unit) × (Y7 × Unit))).bind fun c =>
bif ((c.1.1 : Int) == (-1)) then (bif (decide (c.2.1.length = d.2.1.length) && true) then
some (((0, c.2.1.length), ()), c.2)
else none)
else ((loopT l119_1_5 (((w64 (c.1.1 + 1)), c.1), c.2)).bind fun a =>
bif (decide ((0 : Int) ≤ a.1.1)) then
bif (decide (a.1.1.toNat ≤ a.2.1.length ∧ a.2.1.length ≤ a.2.1.length)) then
bif (decide (a.1.1.toNat + (a.2.1.length - a.1.1.toNat) ≤ a.2.1.length)) then
let e := (spliceL a.2.1 a.1.1.toNat (List.replicate (a.2.1.length - a.1.1.toNat) ((0, 0, ()) : (Int × Int × Unit))))
bif (decide ((0 : Int) ≤ a.1.1)) then
bif (decide (0 ≤ a.1.1.toNat ∧ a.1.1.toNat ≤ e.length)) then
bif (decide (e.length = d.2.1.length) && true) then
some (((0, a.1.1.toNat), ()), e, ())
else none
else none
else none
else none
else none
else none)) : Option (((Nat × Nat) × Unit) × (Y7 × Unit))).bind fun b =>
bif (Abs.tupSpan.cond b.2.1 b.1.1.1 b.1.1.2) then
bif (decide ((Abs.tupSpan.sortAt b.2.1 b.1.1.1 b.1.1.2).length = b.2.1.length) && true) then
(loopT l119_0_5 ((0, b.1.1, ((b.1.1.2 : Nat) : Int), ()), [], (Abs.tupSpan.sortAt b.2.1 b.1.1.1 b.1.1.2), ())).bind fun h =>
some ((), h.2)
else none
else none
def sp119 : Abs.Spec := ⟨0, i119, o119, m119⟩
def an119 : Nat → Abs.FAn
  | 0 => Abs.FAn.mk (fun
    | 8 => some ⟨[33, 4, 13, 14, 15, 6, 7], (.dat .bool (.st Qx9 (.part Z2 (1, 0) (.dat (.int .i64) (.dat (.int .i64) (.st (.ptr (2, 0) 2 0 0) Qs1)))))), (.arr Z2 false (.arr Z2 false Qb31))⟩
    | 1 => some ⟨[3], (.part Z2 (0, 0) .nil), Qb5⟩
    | _ => none) (fun
    | 11 => some (⟨[4, 13, 14, 15], (.st Qx9 (.part Z2 (1, 0) Qs4)), (.arr Z2 false Qb5)⟩, none)
    | _ => none) (fun
    | 5 => some ⟨⟨[15, 4, 13, 14], (.dat (.int .i64) (.st Qx9 (.part Z2 (1, 0) Qs1))), (.arr Z2 false Qb5)⟩, (.one (.exit 0) ⟨[4], Qs35, Qb5⟩)⟩
    | _ => none) (fun
    | 1, 2 => 1
    | _, _ => 0)
  | 1 => Abs.FAn.mk (fun
    | 1 => some ⟨[0, 5, 1], (.st Qx9 (.dat (.int .i64) (.st (.clo 204 []) .nil))), Qb5⟩
    | _ => none) (fun
    | 6 => some (⟨[5, 0, 1, 6], (.dat (.int .i64) (.st Qx9 (.st (.clo 204 []) Qs1))), Qb5⟩, none)
    | _ => none) (fun
    | 5 => some ⟨⟨[6, 5, 0, 1], (.dat (.int .i64) (.dat (.int .i64) (.st Qx9 (.st (.clo 204 []) .nil)))), Qb5⟩, (.one (.exit 0) ⟨[5, 0], (.dat (.int .i64) Qs35), Qb5⟩)⟩
    | _ => none) (fun
    | 1, 2 => 2
    | _, _ => 0)
  | 2 => Abs.FAn.mk (fun _ => none) (fun _ => none) (fun
    | 2 => some ⟨⟨[8, 0, 1, 7], (.dat (.int .i64) (.dat (.row Z2) (.st (.clo 204 []) Qs1))), .nil⟩, (.more .ret ⟨[4], Qs1, .nil⟩ (.one (.exit 0) ⟨[], .nil, .nil⟩))⟩
    | _ => none) (fun _ _ => 0)
  | _ => {}
theorem ok119 : Abs.SpecOK Tryz.prog 119 sp119 :=
  okW (an := an119) (alc ok203 (alc ok204 al0)) rfl (by intro v; kernel_rfl)

def l54_0_10 (v : ((Int × Int × Y7 × Y7 × Int × Int × Int × Unit) × ((Y12 × Unit) × Y7 × (List Y12) × Unit))) : Option (((Int × Int × Y7 × Y7 × Int × Int × Int × Unit) × ((Y12 × Unit) × Y7 × (List Y12) × Unit)) ⊕ ((Y7 × Int × Int × Int × Unit) × ((Y12 × Unit) × Y7 × (List Y12) × Unit))) :=
bif (decide ((v.1.1 : Int) < v.1.2.2.2.2.2.2.1)) then (Abs.rowAt v.1.2.2.1 v.1.1 fun a _ =>
let b := (if ((w64 (v.1.2.1 + a.1)) : Int) > v.2.1.1.1 then (w64 (v.1.2.1 + a.1)) else v.2.1.1.1)
let c := (if ((w64 (v.1.2.1 + a.2.1)) : Int) < v.2.1.1.2.1 then (w64 (v.1.2.1 + a.2.1)) else v.2.1.1.2.1)
bif (decide (v.2.2.1.length + ([(b, c, ())] : List (Int × Int × Unit)).length ≤ 4294967296)) then
let d := (v.2.2.1 ++ ([(b, c, ())] : List (Int × Int × Unit)))
some (.inl (((w64 (v.1.1 + 1)), v.1.2), v.2.1, d, v.2.2.2))
else none)
else (some (.inr ((v.1.2.2.2.1, v.1.2.2.2.2.1, v.1.2.2.2.2.2.1, v.1.2.1, ()), v.2)))

def l54_0_7 (v : ((Int × Y7 × Int × Int × Unit) × ((Y12 × Unit) × Y7 × (List Y12) × Unit))) : Option (((Int × Y7 × Int × Int × Unit) × ((Y12 × Unit) × Y7 × (List Y12) × Unit)) ⊕ ((Y7 × Int × Int × Unit) × (Y7 × (List Y12) × Unit))) :=
bif (decide ((v.1.1 : Int) < v.2.1.1.2.1)) then ((loopT l54_0_10 ((0, v.1.1, v.1.2.1, v.1.2.1, v.1.2.2.1, v.1.2.2.2.1, (v.1.2.1.length : Int), ()), v.2)).bind fun a =>
some (.inl (((w64 (a.1.2.2.2.1 + 604800)), a.1.1, a.1.2.1, a.1.2.2.1, ()), a.2)))
else (some (.inr (v.1.2, v.2.2)))

def l54_0_3 (v : ((Y7 × Int × Int × Unit) × (Y7 × (List Y12) × Unit))) : Option (((Y7 × Int × Int × Unit) × (Y7 × (List Y12) × Unit)) ⊕ ((Unit) × (Y7 × Unit))) :=
bif (decide ((v.1.2.1 : Int) < v.1.2.2.1)) then (bif (decide ((0 : Int) ≤ v.1.2.1 ∧ (v.1.2.1 : Int) < v.2.2.1.length)) then
(v.2.2.1[v.1.2.1.toNat]?).bind fun a =>
let c := (((w64 ((w64 (a.1 + a.2.2.1)) - (-259200))) : Int).tmod 604800)
let d := (w64 ((w64 ((w64 (a.1 + a.2.2.1)) - (-259200))) - c))
(loopT l54_0_7 (((w64 ((w64 (d + (-259200))) - a.2.2.1)), v.1.1, v.1.2.2.1, v.1.2.1, ()), (a, ()), v.2)).bind fun b =>
some (.inl ((b.1.1, (w64 (b.1.2.2.1 + 1)), b.1.2.1, ()), b.2))
else none)
else (some (.inr ((), v.2.1, ())))

/- pagewatch/week.TimesOf -/
def i54 : Abs.Sg := ⟨[0, 1, 2, 3], (.dat Z16 (.dat (.row Z2) Qs4)), .nil⟩
def o54 : Abs.Sg := ⟨[8], Qs35, Qb5⟩
def m54 (v : (((Int × Y7 × Unit) × Y7 × Int × Int × Unit) × (Unit))) : Option ((Unit) × (Y7 × Unit)) :=
(m118 ((v.1.1, v.1.2.2), ())).bind fun a =>
(loopT l54_0_3 ((v.1.2.1, 0, ((a.2.1.length : Nat) : Int), ()), [], a.2)).bind fun b =>
(m119 (b.2, ())).bind fun c =>
some ((), c.2)
def sp54 : Abs.Spec := ⟨0, i54, o54, m54⟩
def an54 : Nat → Abs.FAn
  | 0 => Abs.FAn.mk (fun _ => none) (fun _ => none) (fun
    | 3 => some ⟨⟨[9, 1, 21, 19, 20], (.st Qx9 (.dat (.row Z2) (.dat (.int .i64) (.st Qx14 Qs1)))), (.arr Z2 false Qb2)⟩, (.one (.exit 0) ⟨[9], Qs35, Qb5⟩)⟩
    | 7 => some ⟨⟨[13, 11, 9, 1, 19, 20, 21], (.dat (.int .i64) (.st Qx20 (.st Qx43 (.dat (.row Z2) (.st Qx24 Qs4))))), (.box 3 Qs11 (.arr Z2 false Qb2))⟩, (.one (.exit 2) ⟨[9, 1, 19, 20, 21], (.st Qx9 (.dat (.row Z2) (.st Qx14 Qs4))), (.arr Z2 false Qb2)⟩)⟩
    | 10 => some ⟨⟨[47, 13, 11, 9, 45, 1, 19, 20, 21, 46], (.dat (.int .i64) (.dat (.int .i64) (.st Qx20 (.st Qx43 (.dat (.row Z2) (.dat (.row Z2) (.st Qx24 Qs37))))))), (.box 3 Qs11 (.arr Z2 false Qb2))⟩, (.one (.exit 4) ⟨[11, 9, 1, 19, 20, 21, 13], (.st Qx20 (.st Qx43 (.dat (.row Z2) (.st Qx24 Qs37)))), (.box 3 Qs11 (.arr Z2 false Qb2))⟩)⟩
    | _ => none) (fun _ _ => 0)
  | _ => {}
theorem ok54 : Abs.SpecOK Tryz.prog 54 sp54 :=
  okW (an := an54) (alc ok118 (alc ok119 al0)) rfl (by intro v; kernel_rfl)

def l280_0_6 (v : ((Int × (List Int) × Int × Int × Int × Unit) × ((Y12 × Unit) × Y7 × (Y19 × Unit) × (List Y12) × Unit))) : Option (((Int × (List Int) × Int × Int × Int × Unit) × ((Y12 × Unit) × Y7 × (Y19 × Unit) × (List Y12) × Unit)) ⊕ ((Int × Int × Unit) × (Y7 × (Y19 × Unit) × (List Y12) × Unit))) :=
bif (decide ((v.1.1 : Int) < v.1.2.2.2.2.1)) then (Abs.rowAt v.1.2.1 v.1.1 fun a _ =>
let b := (if ((w64 ((w64 (a * 86400)) - v.2.1.1.2.2.1)) : Int) > v.2.1.1.1 then (w64 ((w64 (a * 86400)) - v.2.1.1.2.2.1)) else v.2.1.1.1)
let c := (w64 ((w64 ((w64 (a * 86400)) - v.2.1.1.2.2.1)) + 86400))
let d := (if (c : Int) < v.2.1.1.2.1 then c else v.2.1.1.2.1)
bif (decide (v.2.2.1.length + ([(b, d, ())] : List (Int × Int × Unit)).length ≤ 4294967296)) then
let e := (v.2.2.1 ++ ([(b, d, ())] : List (Int × Int × Unit)))
some (.inl (((w64 (v.1.1 + 1)), v.1.2), v.2.1, e, v.2.2.2))
else none)
else (some (.inr ((v.1.2.2.1, v.1.2.2.2.1, ()), v.2.2)))

def l280_0_3 (v : ((Int × Int × Unit) × (Y7 × (Y19 × Unit) × (List Y12) × Unit))) : Option (((Int × Int × Unit) × (Y7 × (Y19 × Unit) × (List Y12) × Unit)) ⊕ ((Unit) × (Y7 × Unit))) :=
bif (decide ((v.1.1 : Int) < v.1.2.1)) then (bif (decide ((0 : Int) ≤ v.1.1 ∧ (v.1.1 : Int) < v.2.2.2.1.length)) then
(v.2.2.2.1[v.1.1.toNat]?).bind fun b =>
(loopT l280_0_6 ((0, v.2.2.1.1.2.2.1, v.1.2.1, v.1.1, (v.2.2.1.1.2.2.1.length : Int), ()), (b, ()), v.2)).bind fun a =>
some (.inl (((w64 (a.1.2.1 + 1)), a.1.1, ()), a.2))
else none)
else (some (.inr ((), v.2.1, ())))

/- (pagewatch/duty.View).days -/
def i280 : Abs.Sg := ⟨[0, 1, 2, 3], (.dat (.cons Z1 (.cons (.row Z16) .unit)) (.dat Z13 Qs4)), .nil⟩
def o280 : Abs.Sg := ⟨[8], Qs35, Qb5⟩
def m280 (v : (((Y3 × (List (Int × Y7 × Unit)) × Unit) × Y19 × Int × Int × Unit) × (Unit))) : Option ((Unit) × (Y7 × Unit)) :=
Abs.rowAt v.1.1.2.1 v.1.2.1.2.1 fun b _ =>
(m118 ((b, v.1.2.2), ())).bind fun a =>
(loopT l280_0_3 ((0, ((a.2.1.length : Nat) : Int), ()), [], (v.1.2.1, ()), a.2)).bind fun c =>
(m119 (c.2, ())).bind fun d =>
some ((), d.2)
def sp280 : Abs.Spec := ⟨0, i280, o280, m280⟩
def an280 : Nat → Abs.FAn
  | 0 => Abs.FAn.mk (fun _ => none) (fun _ => none) (fun
    | 3 => some ⟨⟨[9, 25, 5, 23, 24], (.st Qx9 (.dat (.int .i64) (.st Qx33 (.st Qx24 Qs1)))), (.arr Z2 false (.box 3 (.dat Z13 .nil) Qb2))⟩, (.one (.exit 0) ⟨[9], Qs35, Qb5⟩)⟩
    | 6 => some ⟨⟨[32, 11, 9, 30, 5, 23, 24, 25, 31], (.dat (.int .i64) (.st Qx20 (.st Qx43 (.dat (.row (.int .i64)) (.st (.ptr (2, 0) 3 0 0) (.st (.own (.cons (.int .i64) Z2) (3, 0)) Qs37)))))), (.box 3 Qs11 (.arr Z2 false (.box 3 (.dat Z13 .nil) Qb2)))⟩, (.one (.exit 2) ⟨[9, 5, 23, 24, 25], (.st Qx9 (.st Qx33 (.st Qx24 Qs4))), (.arr Z2 false (.box 3 (.dat Z13 .nil) Qb2))⟩)⟩
    | _ => none) (fun _ _ => 0)
  | _ => {}
theorem ok280 : Abs.SpecOK Tryz.prog 280 sp280 :=
  okW (an := an280) (alc ok118 (alc ok119 al0)) rfl (by intro v; kernel_rfl)

def l132_0_6 (v : ((Int × Y7 × Y7 × Int × Int × Unit) × (Y7 × Y25 × Unit))) : Option (((Int × Y7 × Y7 × Int × Int × Unit) × (Y7 × Y25 × Unit)) ⊕ ((Y7 × Int × Y7 × Int × Int × Unit) × (Y7 × Y25 × Unit))) :=
((let b := (decide ((v.1.1 : Int) < (v.1.2.1.length : Int)))
bif b then (Abs.rowAt v.1.2.1 v.1.1 fun c _ =>
some (((decide ((c.2.1 : Int) ≤ v.2.2.1.1.1)), v.1.2.1, v.1.2.2.1, v.1.2.2.2.1, v.1.2.2.2.2.1, v.1.1, ()), v.2))
else (some ((false, v.1.2.1, v.1.2.2.1, v.1.2.2.2.1, v.1.2.2.2.2.1, v.1.1, ()), v.2))) : Option ((Bool × Y7 × Y7 × Int × Int × Int × Unit) × (Y7 × Y25 × Unit))).bind fun a =>
bif a.1.1 then (some (.inl (((w64 (a.1.2.2.2.2.2.1 + 1)), a.1.2.1, a.1.2.2.1, a.1.2.2.2.1, a.1.2.2.2.2.1, ()), a.2)))
else (some (.inr ((a.1.2.1, a.1.2.2.2.2.2.1, a.1.2.2.1, a.1.2.2.2.1, a.1.2.2.2.2.1, ()), a.2)))

def l132_0_10 (v : ((Int × Y7 × Int × Int × Y7 × Int × Int × Unit) × (Y7 × Y25 × Unit))) : Option (((Int × Y7 × Int × Int × Y7 × Int × Int × Unit) × (Y7 × Y25 × Unit)) ⊕ ((Int × Y7 × Y7 × Int × Int × Int × Unit) × (Y25 × Y7 × Unit))) :=
((let e := (decide ((v.1.1 : Int) < (v.1.2.1.length : Int)))
bif e then (Abs.rowAt v.1.2.1 v.1.1 fun f _ =>
some (((decide ((f.1 : Int) < v.2.2.1.1.2.1)), v.1.2.1, v.1.2.2.2.1, v.1.2.2.2.2.1, v.1.2.2.2.2.2.1, v.1.2.2.2.2.2.2.1, v.1.1, v.1.2.2.1, ()), v.2.2.1, v.2.1, ()))
else (some ((false, v.1.2.1, v.1.2.2.2.1, v.1.2.2.2.2.1, v.1.2.2.2.2.2.1, v.1.2.2.2.2.2.2.1, v.1.1, v.1.2.2.1, ()), v.2.2.1, v.2.1, ()))) : Option ((Bool × Y7 × Int × Y7 × Int × Int × Int × Int × Unit) × (Y25 × Y7 × Unit))).bind fun a =>
bif a.1.1 then (((Abs.rowAt a.1.2.1 a.1.2.2.2.2.2.2.1 fun g _ =>
let h := (decide ((a.1.2.2.2.2.2.2.2.1 : Int) < g.1))
bif h then (Abs.rowAt a.1.2.1 a.1.2.2.2.2.2.2.1 fun c _ =>
bif (decide (a.2.2.1.length + ([(a.1.2.2.2.2.2.2.2.1, c.1, ())] : List (Int × Int × Unit)).length ≤ 4294967296)) then
let j := (a.2.2.1 ++ ([(a.1.2.2.2.2.2.2.2.1, c.1, ())] : List (Int × Int × Unit)))
some (a.1.2, j, a.2.1, ())
else none)
else (some (a.1.2, a.2.2.1, a.2.1, ()))) : Option ((Y7 × Int × Y7 × Int × Int × Int × Int × Unit) × (Y7 × Y25 × Unit))).bind fun b =>
Abs.rowAt b.1.1 b.1.2.2.2.2.2.1 fun d _ =>
let k := (if (d.2.1 : Int) > b.1.2.2.2.2.2.2.1 then d.2.1 else b.1.2.2.2.2.2.2.1)
some (.inl (((w64 (b.1.2.2.2.2.2.1 + 1)), b.1.1, k, b.1.2.1, b.1.2.2.1, b.1.2.2.2.1, b.1.2.2.2.2.1, ()), b.2)))
else (some (.inr ((a.1.2.2.1, a.1.2.1, a.1.2.2.2.1, a.1.2.2.2.2.1, a.1.2.2.2.2.2.1, a.1.2.2.2.2.2.2.2), a.2)))

def l132_0_4 (v : ((Int × Y7 × Int × Y7 × Int × Unit) × (Y7 × Unit))) : Option (((Int × Y7 × Int × Y7 × Int × Unit) × (Y7 × Unit)) ⊕ ((Unit) × (Y7 × Unit))) :=
bif (decide ((v.1.2.2.1 : Int) < v.1.2.2.2.2.1)) then (((Abs.rowAt v.1.2.2.2.1 v.1.2.2.1 fun d _ =>
(loopT l132_0_6 ((v.1.1, v.1.2.1, v.1.2.2.2.1, v.1.2.2.2.2.1, v.1.2.2.1, ()), v.2.1, (d, ()), ())).bind fun c =>
(loopT l132_0_10 ((c.1.2.1, c.1.1, c.2.2.1.1.1, c.1.2), c.2)).bind fun a =>
let e := (decide ((a.1.2.2.2.2.2.1 : Int) < a.2.1.1.2.1))
bif e then (bif (decide (a.2.2.1.length + ([(a.1.2.2.2.2.2.1, a.2.1.1.2)] : List (Int × Int × Unit)).length ≤ 4294967296)) then
let f := (a.2.2.1 ++ ([(a.1.2.2.2.2.2.1, a.2.1.1.2)] : List (Int × Int × Unit)))
some ((a.1.1, a.1.2.1, a.1.2.2.1, a.1.2.2.2.1, a.1.2.2.2.2.1, ()), f, ())
else none)
else (some ((a.1.1, a.1.2.1, a.1.2.2.1, a.1.2.2.2.1, a.1.2.2.2.2.1, ()), a.2.2))) : Option ((Int × Y7 × Y7 × Int × Int × Unit) × (Y7 × Unit))).bind fun b =>
some (.inl ((b.1.1, b.1.2.1, (w64 (b.1.2.2.2.2.1 + 1)), b.1.2.2.1, b.1.2.2.2.1, ()), b.2)))
else (some (.inr ((), v.2)))

/- pagewatch/span.Without -/
def i132 : Abs.Sg := ⟨[0, 1], (.dat (.row Z2) (.dat (.row Z2) .nil)), .nil⟩
def o132 : Abs.Sg := ⟨[4], Qs35, Qb5⟩
def m132 (v : ((Y7 × Y7 × Unit) × (Unit))) : Option ((Unit) × (Y7 × Unit)) :=
(loopT l132_0_4 ((0, v.1.2.1, 0, v.1.1, (v.1.1.length : Int), ()), [], ())).bind fun a =>
some ((), a.2)
def sp132 : Abs.Spec := ⟨0, i132, o132, m132⟩
def an132 : Nat → Abs.FAn
  | 0 => Abs.FAn.mk (fun
    | 10 => some ⟨[49, 1, 6, 11, 12, 13, 8, 10, 9, 5], (.dat .bool (.dat (.row Z2) (.dat (.int .i64) (.dat (.row Z2) (.dat (.int .i64) (.dat (.int .i64) (.st Qx12 (.dat (.int .i64) (.dat (.int .i64) (.st Qx43 .nil)))))))))), (.box 2 (.dat Z2 .nil) Qb5)⟩
    | 6 => some ⟨[30, 1, 5, 11, 12, 13, 8, 6], (.dat .bool (.dat (.row Z2) (.st Qx9 (.dat (.row Z2) (.dat (.int .i64) (.dat (.int .i64) (.st (.ptr (1, 0) 2 0 0) Qs1))))))), (.arr Z2 false Qb31)⟩
    | _ => none) (fun
    | 17 => some (⟨[6, 1, 5, 11, 12, 13], (.dat (.int .i64) (.dat (.row Z2) (.st Qx9 (.dat (.row Z2) Qs4)))), Qb5⟩, none)
    | 14 => some (⟨[1, 5, 6, 11, 12, 13, 8, 10, 9], (.dat (.row Z2) (.st Qx9 (.dat (.int .i64) (.dat (.row Z2) (.dat (.int .i64) (.dat (.int .i64) (.st (.ptr (1, 0) 2 0 0) Qs4))))))), (.arr Z2 false Qb31)⟩, none)
    | _ => none) (fun
    | 4 => some ⟨⟨[6, 1, 5, 13, 11, 12], (.dat (.int .i64) (.dat (.row Z2) (.st Qx9 (.dat (.int .i64) (.dat (.row Z2) Qs1))))), Qb5⟩, (.one (.exit 0) ⟨[5], Qs35, Qb5⟩)⟩
    | 10 => some ⟨⟨[10, 1, 9, 5, 6, 11, 12, 13, 8], (.dat (.int .i64) (.dat (.row Z2) (.dat (.int .i64) (.st Qx9 (.dat (.int .i64) (.dat (.row Z2) Qs36)))))), (.arr Z2 false Qb31)⟩, (.one (.exit 4) ⟨[6, 1, 11, 12, 13, 8, 9, 5], (.dat (.int .i64) (.dat (.row Z2) (.dat (.row Z2) (.dat (.int .i64) (.dat (.int .i64) (.st Qx12 (.dat (.int .i64) (.st Qx43 .nil)))))))), (.box 2 (.dat Z2 .nil) Qb5)⟩)⟩
    | 6 => some ⟨⟨[6, 1, 5, 11, 12, 13, 8], (.dat (.int .i64) (.dat (.row Z2) (.st Qx9 (.dat (.row Z2) Qs36)))), (.arr Z2 false Qb31)⟩, (.one (.exit 2) ⟨[1, 5, 6, 11, 12, 13, 8], (.dat (.row Z2) (.st Qx9 (.dat (.int .i64) (.dat (.row Z2) Qs36)))), (.arr Z2 false Qb31)⟩)⟩
    | _ => none) (fun _ _ => 0)
  | _ => {}
theorem ok132 : Abs.SpecOK Tryz.prog 132 sp132 :=
  okW (an := an132) al0 rfl (by intro v; kernel_rfl)

def l56_0_3 (v : ((Int × Int × Y7 × Y7 × Unit) × (Y7 × Unit))) : Option (((Int × Int × Y7 × Y7 × Unit) × (Y7 × Unit)) ⊕ ((Unit) × (Y7 × Unit))) :=
((let h := (decide ((v.1.1 : Int) < (v.1.2.2.2.1.length : Int)))
bif h then (let j := (decide ((v.1.2.1 : Int) < (v.1.2.2.1.length : Int)))
some ((j, v.1.2.1, v.1.2.2.1, v.1.2.2.2.1, v.1.1, ()), v.2))
else (some ((false, v.1.2.1, v.1.2.2.1, v.1.2.2.2.1, v.1.1, ()), v.2))) : Option ((Bool × Int × Y7 × Y7 × Int × Unit) × (Y7 × Unit))).bind fun a =>
bif a.1.1 then (((Abs.rowAt a.1.2.2.2.1 a.1.2.2.2.2.1 fun c _ =>
Abs.rowAt a.1.2.2.1 a.1.2.1 fun d _ =>
Abs.rowAt a.1.2.2.2.1 a.1.2.2.2.2.1 fun f _ =>
Abs.rowAt a.1.2.2.1 a.1.2.1 fun g _ =>
let e := (if (g.2.1 : Int) < f.2.1 then g.2.1 else f.2.1)
let k := (decide (((if (d.1 : Int) > c.1 then d.1 else c.1) : Int) < e))
bif k then (bif (decide (a.2.1.length + ([((if (d.1 : Int) > c.1 then d.1 else c.1), e, ())] : List (Int × Int × Unit)).length ≤ 4294967296)) then
let l := (a.2.1 ++ ([((if (d.1 : Int) > c.1 then d.1 else c.1), e, ())] : List (Int × Int × Unit)))
some (a.1.2, l, ())
else none)
else (some (a.1.2, a.2))) : Option ((Int × Y7 × Y7 × Int × Unit) × (Y7 × Unit))).bind fun b =>
Abs.rowAt b.1.2.2.1 b.1.2.2.2.1 fun m _ =>
Abs.rowAt b.1.2.1 b.1.1 fun n _ =>
bif (decide ((m.2.1 : Int) < n.2.1)) then (some (.inl (((w64 (b.1.2.2.2.1 + 1)), b.1.1, b.1.2.1, b.1.2.2.1, ()), b.2)))
else (some (.inl ((b.1.2.2.2.1, (w64 (b.1.1 + 1)), b.1.2.1, b.1.2.2.1, ()), b.2))))
else (some (.inr ((), a.2)))

/- pagewatch/span.Common -/
def i56 : Abs.Sg := ⟨[0, 1], (.dat (.row Z2) (.dat (.row Z2) .nil)), .nil⟩
def o56 : Abs.Sg := ⟨[4], Qs35, Qb5⟩
def m56 (v : ((Y7 × Y7 × Unit) × (Unit))) : Option ((Unit) × (Y7 × Unit)) :=
(loopT l56_0_3 ((0, 0, v.1.2.1, v.1.1, ()), [], ())).bind fun a =>
some ((), a.2)
def sp56 : Abs.Spec := ⟨0, i56, o56, m56⟩
def an56 : Nat → Abs.FAn
  | 0 => Abs.FAn.mk (fun
    | 3 => some ⟨[18, 7, 1, 0, 6, 5], (.dat .bool (.dat (.int .i64) (.dat (.row Z2) (.dat (.row Z2) (.dat (.int .i64) Qs35))))), Qb5⟩
    | _ => none) (fun
    | 7 => some (⟨[7, 1, 0, 5, 6], (.dat (.int .i64) (.dat (.row Z2) (.dat (.row Z2) (.st Qx9 Qs1)))), Qb5⟩, none)
    | _ => none) (fun
    | 3 => some ⟨⟨[6, 7, 1, 0, 5], (.dat (.int .i64) (.dat (.int .i64) (.dat (.row Z2) (.dat (.row Z2) Qs35)))), Qb5⟩, (.one (.exit 0) ⟨[5], Qs35, Qb5⟩)⟩
    | _ => none) (fun _ _ => 0)
  | _ => {}
theorem ok56 : Abs.SpecOK Tryz.prog 56 sp56 :=
  okW (an := an56) al0 rfl (by intro v; kernel_rfl)

/- (pagewatch/duty.View).Times -/
def i215 : Abs.Sg := ⟨[0, 1, 2, 3], (.dat (.cons Z1 (.cons (.row Z16) .unit)) (.dat Z10 Qs4)), .nil⟩
def o215 : Abs.Sg := ⟨[8], Qs35, Qb5⟩
def m215 (v : (((Y3 × (List (Int × Y7 × Unit)) × Unit) × Y6 × Int × Int × Unit) × (Unit))) : Option ((Unit) × (Y7 × Unit)) :=
Abs.rowAt v.1.1.2.1 v.1.2.1.2.1 fun e _ =>
(m111 ((e, v.1.2.1, 0, ()), ())).bind fun c =>
((bif (!c.1.2.1) then (some ((true, v.1.2.2.2.1, c.1.1, v.1.2.2.1, ()), (v.1.2.1, ()), (v.1.1, ()), ()))
else (bif (decide ((c.1.1 : Int) ≥ v.1.2.2.2.1)) then (some ((true, v.1.2.2.2.1, c.1.1, v.1.2.2.1, ()), (v.1.2.1, ()), (v.1.1, ()), ()))
else (some (((decide ((v.1.2.2.1 : Int) ≥ v.1.2.2.2.1)), v.1.2.2.2.1, c.1.1, v.1.2.2.1, ()), (v.1.2.1, ()), (v.1.1, ()), ())))) : Option ((Bool × Int × Int × Int × Unit) × ((Y6 × Unit) × ((Y3 × (List (Int × Y7 × Unit)) × Unit) × Unit) × Unit))).bind fun a =>
bif a.1.1 then (some ((), [], ()))
else (let d := (if (a.1.2.2.1 : Int) > a.1.2.2.2.1 then a.1.2.2.1 else a.1.2.2.2.1)
((let f := (decide (((a.2.1.1.2.2.2.2.2.2.1.length : Int) : Int) > 0))
bif f then (Abs.rowAt a.2.2.1.1.2.1 a.2.1.1.2.1 fun g _ =>
(m54 ((g, a.2.1.1.2.2.2.2.2.2.1, d, a.1.2.1, ()), ())).bind fun h =>
some ((a.1.2.1, d, ()), a.2.1, a.2.2.1, h.2))
else (some ((a.1.2.1, d, ()), a.2.1, a.2.2.1, ([(d, a.1.2.1, ())] : List (Int × Int × Unit)), ()))) : Option ((Int × Int × Unit) × ((Y6 × Unit) × ((Y3 × (List (Int × Y7 × Unit)) × Unit) × Unit) × Y7 × Unit))).bind fun b =>
((bif ((b.2.1.1.2.2.2.2.2.2.2.2.1 : Int) == 1) then (Abs.rowAt b.2.2.1.1.1.2.2.1 b.2.1.1.2.2.2.2.2.2.2.1 fun j _ =>
(m280 ((b.2.2.1.1, j, b.1.2.1, b.1.1, ()), ())).bind fun k =>
(m132 ((b.2.2.2.1, k.2), ())).bind fun l =>
some ((), l.2))
else (bif ((b.2.1.1.2.2.2.2.2.2.2.2.1 : Int) == 2) then (Abs.rowAt b.2.2.1.1.1.2.2.1 b.2.1.1.2.2.2.2.2.2.2.1 fun m _ =>
(m280 ((b.2.2.1.1, m, b.1.2.1, b.1.1, ()), ())).bind fun n =>
(m56 ((b.2.2.2.1, n.2), ())).bind fun o =>
some ((), o.2))
else (some ((), b.2.2.2)))) : Option ((Unit) × (Y7 × Unit))).bind fun p =>
some ((), p.2))
def sp215 : Abs.Spec := ⟨0, i215, o215, m215⟩
def an215 : Nat → Abs.FAn
  | 0 => Abs.FAn.mk (fun
    | 2 => some ⟨[34, 3, 5, 4, 9, 2], (.dat .bool (.dat (.int .i64) (.st (.ptr (0, 0) 10 0 0) (.st (.ptr (1, 0) 5 0 0) Qs4)))), (.box 10 (.dat Z10 .nil) (.box 5 Qs29 .nil))⟩
    | _ => none) (fun
    | 13 => some (⟨[11], Qs35, Qb5⟩, none)
    | 8 => some (⟨[3, 2, 5, 4, 11], (.dat (.int .i64) (.dat (.int .i64) (.st (.ptr (0, 0) 10 0 0) (.st (.ptr (1, 0) 5 0 0) (.st (.own Z2 (2, 0)) .nil))))), (.box 10 (.dat Z10 .nil) (.box 5 Qs29 Qb5))⟩, none)
    | _ => none) (fun _ => none) (fun _ _ => 0)
  | _ => {}
theorem ok215 : Abs.SpecOK Tryz.prog 215 sp215 :=
  okW (an := an215) (alc ok111 (alc ok54 (alc ok280 (alc ok132 (alc ok56 al0))))) rfl (by intro v; kernel_rfl)

/- (pagewatch/zone.Table).Offset -/
def i339 : Abs.Sg := ⟨[0, 1], (.dat Z16 Qs1), .nil⟩
def o339 : Abs.Sg := ⟨[4], Qs1, .nil⟩
def m339 (v : (((Int × Y7 × Unit) × Int × Unit) × (Unit))) : Option ((Int × Unit) × (Unit)) :=
(m200 v).bind fun a =>
(m201 ((v.1.1, a.1), ())).bind fun b =>
some b
def sp339 : Abs.Spec := ⟨0, i339, o339, m339⟩
def an339 : Nat → Abs.FAn
  | _ => {}
theorem ok339 : Abs.SpecOK Tryz.prog 339 sp339 :=
  okW (an := an339) (alc ok200 (alc ok201 al0)) rfl (by intro v; kernel_rfl)

/- pagewatch/zone.local -/
def i338 : Abs.Sg := ⟨[0], Qs1, .nil⟩
def o338 : Abs.Sg := ⟨[2], (.st Qx12 .nil), Qb31⟩
def m338 (v : ((Int × Unit) × (Unit))) : Option ((Unit) × (Y25 × Unit)) :=
((let b := (decide ((((v.1.1 : Int).tmod 86400) : Int) < 0))
bif b then (some (((w64 ((w64 ((v.1.1 : Int).tdiv 86400)) - 1)), v.1), ((0, 0, ()), ()), ()))
else (some (((w64 ((v.1.1 : Int).tdiv 86400)), v.1), ((0, 0, ()), ()), ()))) : Option ((Int × Int × Unit) × (Y25 × Unit))).bind fun a =>
some ((), ((a.1.1, (w64 (a.1.2.1 - (w64 (a.1.1 * 86400)))), ()), ()), ())
def sp338 : Abs.Spec := ⟨0, i338, o338, m338⟩
def an338 : Nat → Abs.FAn
  | 0 => Abs.FAn.mk (fun _ => none) (fun
    | 4 => some (⟨[2, 3, 0], (.st Qx12 Qs4), Qb31⟩, none)
    | _ => none) (fun _ => none) (fun _ _ => 0)
  | _ => {}
theorem ok338 : Abs.SpecOK Tryz.prog 338 sp338 :=
  okW (an := an338) al0 rfl (by intro v; kernel_rfl)

/- (pagewatch/zone.Table).Local -/
def i281 : Abs.Sg := ⟨[0, 1], (.dat Z16 Qs1), .nil⟩
def o281 : Abs.Sg := ⟨[4], (.st Qx12 .nil), Qb31⟩
def m281 (v : (((Int × Y7 × Unit) × Int × Unit) × (Unit))) : Option ((Unit) × (Y25 × Unit)) :=
(m339 v).bind fun a =>
(m338 (((w64 (v.1.2.1 + a.1.1)), ()), ())).bind fun b =>
some ((), b.2)
def sp281 : Abs.Spec := ⟨0, i281, o281, m281⟩
def an281 : Nat → Abs.FAn
  | _ => {}
theorem ok281 : Abs.SpecOK Tryz.prog 281 sp281 :=
  okW (an := an281) (alc ok339 (alc ok338 al0)) rfl (by intro v; kernel_rfl)

def l216_0_7 (v : ((Int × Int × Unit) × ((Y6 × Unit) × ((Int × Y7 × Unit) × Unit) × Unit))) : Option (((Int × Int × Unit) × ((Y6 × Unit) × ((Int × Y7 × Unit) × Unit) × Unit)) ⊕ ((Int × Int × Unit) × ((Y6 × Unit) × ((Int × Y7 × Unit) × Unit) × Unit))) :=
bif (decide ((v.1.1 : Int) > 0)) then ((m111 ((v.2.2.1.1, v.2.1.1, v.1.1, ()), ())).bind fun b =>
((bif b.1.2.1 then (some (((decide ((b.1.1 : Int) ≤ v.1.2.1)), v.1), v.2))
else (some ((false, v.1), v.2))) : Option ((Bool × Int × Int × Unit) × ((Y6 × Unit) × ((Int × Y7 × Unit) × Unit) × Unit))).bind fun a =>
bif a.1.1 then (some (.inr (a.1.2, a.2)))
else (some (.inl (((w64 (a.1.2.1 - 1)), a.1.2.2), a.2))))
else (some (.inr v))

def l216_0_11 (v : ((Int × Int × Unit) × ((Y6 × Unit) × ((Int × Y7 × Unit) × Unit) × Unit))) : Option (((Int × Int × Unit) × ((Y6 × Unit) × ((Int × Y7 × Unit) × Unit) × Unit)) ⊕ ((Int × Unit) × (Unit))) :=
(m111 ((v.2.2.1.1, v.2.1.1, (w64 (v.1.1 + 1)), ()), ())).bind fun b =>
((bif (!b.1.2.1) then (some ((true, v.1), v.2))
else (some (((decide ((b.1.1 : Int) > v.1.2.1)), v.1), v.2))) : Option ((Bool × Int × Int × Unit) × ((Y6 × Unit) × ((Int × Y7 × Unit) × Unit) × Unit))).bind fun a =>
bif a.1.1 then (some (.inr ((a.1.2.1, ()), ())))
else (some (.inl (((w64 (a.1.2.1 + 1)), a.1.2.2), a.2)))

/- pagewatch/recur.ShiftOf -/
def i216 : Abs.Sg := ⟨[0, 1, 2], (.dat Z16 (.dat Z10 Qs1)), .nil⟩
def o216 : Abs.Sg := ⟨[6], Qs1, .nil⟩
def m216 (v : (((Int × Y7 × Unit) × Y6 × Int × Unit) × (Unit))) : Option ((Int × Unit) × (Unit)) :=
(m111 ((v.1.1, v.1.2.1, 0, ()), ())).bind fun b =>
((bif (!b.1.2.1) then (some ((true, b.1.1, v.1.2.2), (v.1.2.1, ()), (v.1.1, ()), ()))
else (some (((decide ((b.1.1 : Int) > v.1.2.2.1)), b.1.1, v.1.2.2), (v.1.2.1, ()), (v.1.1, ()), ()))) : Option ((Bool × Int × Int × Unit) × ((Y6 × Unit) × ((Int × Y7 × Unit) × Unit) × Unit))).bind fun a =>
bif a.1.1 then (some (((-1), ()), ()))
else (bif ((a.2.1.1.2.2.2.1 : Int) == 0) then (bif (decide ((w64 (3600 * a.2.1.1.2.2.2.2.1)) ≠ (0 : Int))) then
let e := (w64 (((w64 (a.1.2.2.1 - a.1.2.1)) : Int).tdiv (w64 (3600 * a.2.1.1.2.2.2.2.1))))
some ((e, ()), ())
else none)
else ((m281 ((a.2.2.1.1, a.1.2.2), ())).bind fun f =>
(m195 (a.2.1, ())).bind fun c =>
bif (decide (c.1.1 ≠ (0 : Int))) then
let d := (w64 (((w64 (f.2.1.1.1 - a.2.1.1.2.2.1.1)) : Int).tdiv c.1.1))
(loopT l216_0_7 (((if (d : Int) > 0 then d else 0), a.1.2.2), a.2)).bind fun g =>
(loopT l216_0_11 g).bind fun h =>
some h
else none))
def sp216 : Abs.Spec := ⟨0, i216, o216, m216⟩
def an216 : Nat → Abs.FAn
  | 0 => Abs.FAn.mk (fun
    | 12 => some ⟨[80, 9, 2, 4, 3], (.dat .bool Qs15), Qb23⟩
    | 9 => some ⟨[63, 9, 2, 4, 3], (.dat .bool Qs15), Qb23⟩
    | 2 => some ⟨[26, 4, 7, 2, 3], (.dat .bool (.st (.ptr (0, 0) 10 0 0) Qs36)), Qb23⟩
    | _ => none) (fun _ => none) (fun
    | 11 => some ⟨⟨[9, 2, 4, 3], Qs15, Qb23⟩, (.one .ret ⟨[6], Qs1, .nil⟩)⟩
    | 7 => some ⟨⟨[9, 2, 4, 3], Qs15, Qb23⟩, (.one (.exit 0) ⟨[9, 2, 4, 3], Qs15, Qb23⟩)⟩
    | _ => none) (fun _ _ => 0)
  | _ => {}
theorem ok216 : Abs.SpecOK Tryz.prog 216 sp216 :=
  okW (an := an216) (alc ok111 (alc ok281 (alc ok195 al0))) rfl (by intro v; kernel_rfl)

def l65_0_3 (v : ((Int × (List Y12) × Int × Unit) × ((List Y12) × Unit))) : Option (((Int × (List Y12) × Int × Unit) × ((List Y12) × Unit)) ⊕ ((Unit) × ((List Y12) × Unit))) :=
bif (decide ((v.1.1 : Int) < v.1.2.2.1)) then (((Abs.rowAt v.1.2.1 v.1.1 fun b _ =>
bif (decide ((b.2.1 : Int) ≤ b.1)) then (some ((v.1.2.1, v.1.2.2.1, v.1.1, ()), v.2))
else (((let e := (decide ((((v.2.1.length : Nat) : Int) : Int) > 0))
bif e then (bif (decide ((0 : Int) ≤ (w64 (((v.2.1.length : Nat) : Int) - 1)) ∧ ((w64 (((v.2.1.length : Nat) : Int) - 1)) : Int) < v.2.1.length)) then
(v.2.1[(w64 (((v.2.1.length : Nat) : Int) - 1)).toNat]?).bind fun f =>
bif ((f.2.1 : Int) == b.1) then (bif (decide ((0 : Int) ≤ (w64 (((v.2.1.length : Nat) : Int) - 1)) ∧ ((w64 (((v.2.1.length : Nat) : Int) - 1)) : Int) < v.2.1.length)) then
(v.2.1[(w64 (((v.2.1.length : Nat) : Int) - 1)).toNat]?).bind fun g =>
some ((((g.2.2.1 : Int) == b.2.2.1), v.1.2.1, v.1.2.2.1, v.1.1, ((v.2.1.length : Nat) : Int), ()), v.2.1, (b, ()), ())
else none)
else (some ((false, v.1.2.1, v.1.2.2.1, v.1.1, ((v.2.1.length : Nat) : Int), ()), v.2.1, (b, ()), ()))
else none)
else (some ((false, v.1.2.1, v.1.2.2.1, v.1.1, ((v.2.1.length : Nat) : Int), ()), v.2.1, (b, ()), ()))) : Option ((Bool × (List Y12) × Int × Int × Int × Unit) × ((List Y12) × (Y12 × Unit) × Unit))).bind fun a =>
bif a.1.1 then (bif (decide ((0 : Int) ≤ (w64 (a.1.2.2.2.2.1 - 1)) ∧ ((w64 (a.1.2.2.2.2.1 - 1)) : Int) < a.2.1.length)) then
(a.2.1[(w64 (a.1.2.2.2.2.1 - 1)).toNat]?).bind fun d =>
some ((a.1.2.1, a.1.2.2.1, a.1.2.2.2.1, ()), (a.2.1.set (w64 (a.1.2.2.2.2.1 - 1)).toNat (d.1, a.2.2.1.1.2.1, d.2.2)), ())
else none)
else (bif (decide (a.2.1.length + ([a.2.2.1.1] : List Y12).length ≤ 4294967296)) then
let h := (a.2.1 ++ ([a.2.2.1.1] : List Y12))
some ((a.1.2.1, a.1.2.2.1, a.1.2.2.2.1, ()), h, ())
else none))) : Option (((List Y12) × Int × Int × Unit) × ((List Y12) × Unit))).bind fun c =>
some (.inl (((w64 (c.1.2.2.1 + 1)), c.1.1, c.1.2.1, ()), c.2)))
else (some (.inr ((), v.2)))

/- pagewatch/duty.Merge -/
def i65 : Abs.Sg := ⟨[0], (.dat (.row (.cons (.int .i64) Z2)) .nil), .nil⟩
def o65 : Abs.Sg := ⟨[2], (.st Qx7 .nil), Qb2⟩
def m65 (v : (((List Y12) × Unit) × (Unit))) : Option ((Unit) × ((List Y12) × Unit)) :=
(loopT l65_0_3 ((0, v.1.1, (v.1.1.length : Int), ()), [], ())).bind fun a =>
some ((), a.2)
def sp65 : Abs.Spec := ⟨0, i65, o65, m65⟩
def an65 : Nat → Abs.FAn
  | 0 => Abs.FAn.mk (fun
    | 7 => some ⟨[43, 3, 7, 8, 9, 5, 6], (.dat .bool (.st Qx7 (.dat (.row (.cons (.int .i64) Z2)) (.dat (.int .i64) (.dat (.int .i64) (.st Qx33 Qs1)))))), (.arr (.cons (.int .i64) Z2) false (.box 3 Qs11 .nil))⟩
    | _ => none) (fun
    | 10 => some (⟨[3, 7, 8, 9], (.st Qx7 (.dat (.row (.cons (.int .i64) Z2)) Qs4)), Qb2⟩, none)
    | _ => none) (fun
    | 3 => some ⟨⟨[9, 3, 7, 8], (.dat (.int .i64) (.st Qx7 (.dat (.row (.cons (.int .i64) Z2)) Qs1))), Qb2⟩, (.one (.exit 0) ⟨[3], (.st Qx7 .nil), Qb2⟩)⟩
    | _ => none) (fun _ _ => 0)
  | _ => {}
theorem ok65 : Abs.SpecOK Tryz.prog 65 sp65 :=
  okW (an := an65) al0 rfl (by intro v; kernel_rfl)

def l131_0_9 (v : ((Int × Int × Int × Int × Int × Int × Unit) × ((Y6 × Unit) × (List Y12) × Y25 × ((Int × Y7 × Unit) × Unit) × Y7 × Unit))) : Option (((Int × Int × Int × Int × Int × Int × Unit) × ((Y6 × Unit) × (List Y12) × Y25 × ((Int × Y7 × Unit) × Unit) × Y7 × Unit)) ⊕ ((Int × Int × Int × Int × Int × Int × Unit) × ((Y6 × Unit) × ((Int × Y7 × Unit) × Unit) × (List Y12) × Y7 × Unit))) :=
bif (decide ((v.1.1 : Int) < v.2.2.2.1.1.2.1)) then (((bif (decide ((v.1.1 : Int) ≥ v.1.2.2.1)) then ((m216 ((v.2.2.2.2.1.1, v.2.1.1, v.1.1, ()), ())).bind fun b =>
(m111 ((v.2.2.2.2.1.1, v.2.1.1, (w64 (b.1.1 + 1)), ()), ())).bind fun d =>
bif (!d.1.2.1) then (some ((b.1.1, 8589934593, v.1.2.2.2.1, v.1.2.2.2.2.1, v.1.2.2.2.2.2.1, v.1.1, ()), v.2.1, v.2.2.2.1, v.2.2.2.2.1, v.2.2.2.2.2.1, v.2.2.1, ()))
else (some ((b.1.1, d.1.1, v.1.2.2.2.1, v.1.2.2.2.2.1, v.1.2.2.2.2.2.1, v.1.1, ()), v.2.1, v.2.2.2.1, v.2.2.2.2.1, v.2.2.2.2.2.1, v.2.2.1, ())))
else (some ((v.1.2.1, v.1.2.2.1, v.1.2.2.2.1, v.1.2.2.2.2.1, v.1.2.2.2.2.2.1, v.1.1, ()), v.2.1, v.2.2.2.1, v.2.2.2.2.1, v.2.2.2.2.2.1, v.2.2.1, ()))) : Option ((Int × Int × Int × Int × Int × Int × Unit) × ((Y6 × Unit) × Y25 × ((Int × Y7 × Unit) × Unit) × Y7 × (List Y12) × Unit))).bind fun a =>
let c := (if (a.1.2.1 : Int) < a.2.2.1.1.2.1 then a.1.2.1 else a.2.2.1.1.2.1)
bif (decide ((a.2.1.1.2.2.2.2.2.1.length : Int) ≠ (0 : Int))) then
let f := ((a.1.1 : Int).tmod (a.2.1.1.2.2.2.2.2.1.length : Int))
Abs.rowAt a.2.1.1.2.2.2.2.2.1 f fun e _ =>
bif (decide (a.2.2.2.2.2.1.length + ([(a.1.2.2.2.2.2.1, c, e, ())] : List Y12).length ≤ 4294967296)) then
let g := (a.2.2.2.2.2.1 ++ ([(a.1.2.2.2.2.2.1, c, e, ())] : List Y12))
some (.inl ((c, a.1.1, a.1.2.1, a.1.2.2.1, a.1.2.2.2.1, a.1.2.2.2.2.1, ()), a.2.1, g, a.2.2.1, a.2.2.2.1, a.2.2.2.2.1, ()))
else none
else none)
else (some (.inr ((v.1.2.1, v.1.2.2.1, v.1.1, v.1.2.2.2), v.2.1, v.2.2.2.2.1, v.2.2.1, v.2.2.2.2.2)))

def l131_0_5 (v : ((Int × Int × Int × Int × Int × Int × Unit) × ((Y6 × Unit) × ((Int × Y7 × Unit) × Unit) × (List Y12) × Y7 × Unit))) : Option (((Int × Int × Int × Int × Int × Int × Unit) × ((Y6 × Unit) × ((Int × Y7 × Unit) × Unit) × (List Y12) × Y7 × Unit)) ⊕ ((Int × Int × Unit) × ((List Y12) × Unit))) :=
bif (decide ((v.1.2.2.1 : Int) < v.1.2.2.2.2.2.1)) then (bif (decide ((0 : Int) ≤ v.1.2.2.1 ∧ (v.1.2.2.1 : Int) < v.2.2.2.2.1.length)) then
(v.2.2.2.2.1[v.1.2.2.1.toNat]?).bind fun b =>
bif (decide (v.2.2.2.1.length + ([(v.1.2.2.2.1, b.1, (-1), ())] : List Y12).length ≤ 4294967296)) then
let c := (v.2.2.2.1 ++ ([(v.1.2.2.2.1, b.1, (-1), ())] : List Y12))
(loopT l131_0_9 ((b.1, v.1.1, v.1.2.1, v.1.2.2.2.2.1, v.1.2.2.2.2.2.1, v.1.2.2.1, ()), v.2.1, c, (b, ()), v.2.2.1, v.2.2.2.2)).bind fun a =>
some (.inl ((a.1.1, a.1.2.1, (w64 (a.1.2.2.2.2.2.1 + 1)), a.1.2.2.1, a.1.2.2.2.1, a.1.2.2.2.2.1, ()), a.2))
else none
else none)
else (some (.inr ((v.1.2.2.2.2.1, v.1.2.2.2.1, ()), v.2.2.2.1, ())))

/- (pagewatch/duty.View).Segments -/
def i131 : Abs.Sg := ⟨[0, 1, 2, 3], (.dat (.cons Z1 (.cons (.row Z16) .unit)) (.dat Z10 Qs4)), .nil⟩
def o131 : Abs.Sg := ⟨[8], (.st Qx7 .nil), Qb2⟩
def m131 (v : (((Y3 × (List (Int × Y7 × Unit)) × Unit) × Y6 × Int × Int × Unit) × (Unit))) : Option ((Unit) × ((List Y12) × Unit)) :=
Abs.rowAt v.1.1.2.1 v.1.2.1.2.1 fun c _ =>
(m215 v).bind fun b =>
(loopT l131_0_5 (((-1), (-1), 0, v.1.2.2.1, v.1.2.2.2.1, ((b.2.1.length : Nat) : Int), ()), (v.1.2.1, ()), (c, ()), [], b.2)).bind fun a =>
bif (decide (a.2.1.length + ([(a.1.2.1, a.1.1, (-1), ())] : List Y12).length ≤ 4294967296)) then
let d := (a.2.1 ++ ([(a.1.2.1, a.1.1, (-1), ())] : List Y12))
(m65 ((d, ()), ())).bind fun e =>
some ((), e.2)
else none
def sp131 : Abs.Spec := ⟨0, i131, o131, m131⟩
def an131 : Nat → Abs.FAn
  | 0 => Abs.FAn.mk (fun _ => none) (fun
    | 16 => some (⟨[5, 15, 10, 12, 13, 30, 3, 31, 32, 11, 9], (.st (.ptr (0, 0) 10 0 0) (.st (.ptr (1, 0) 2 0 0) (.st (.ptr (2, 0) 2 0 0) (.dat (.int .i64) (.dat (.int .i64) (.st (.own Z2 (3, 0)) (.dat (.int .i64) (.dat (.int .i64) (.dat (.int .i64) (.dat (.int .i64) (.st (.own (.cons (.int .i64) Z2) (4, 0)) .nil))))))))))), (.box 10 (.dat Z10 .nil) (.box 2 (.dat Z2 .nil) (.box 2 (.dat Z16 .nil) (.arr Z2 false Qb2))))⟩, none)
    | _ => none) (fun
    | 5 => some ⟨⟨[5, 10, 12, 13, 32, 11, 9, 30, 3, 31], (.st (.ptr (0, 0) 10 0 0) (.st (.ptr (1, 0) 2 0 0) (.dat (.int .i64) (.dat (.int .i64) (.dat (.int .i64) (.dat (.int .i64) (.st Qx24 (.st (.own Z2 (3, 0)) Qs4)))))))), (.box 10 (.dat Z10 .nil) (.box 2 (.dat Z16 .nil) (.arr (.cons (.int .i64) Z2) false Qb5)))⟩, (.one (.exit 0) ⟨[3, 11, 9], (.dat (.int .i64) (.dat (.int .i64) (.st Qx7 .nil))), Qb2⟩)⟩
    | 9 => some ⟨⟨[5, 11, 9, 15, 10, 12, 13, 30, 3, 31, 32], (.st (.ptr (0, 0) 10 0 0) (.dat (.int .i64) (.st Qx14 (.st (.ptr (2, 0) 2 0 0) (.st (.ptr (3, 0) 2 0 0) (.dat (.int .i64) (.dat (.int .i64) (.st (.own Z2 (4, 0)) Qs37)))))))), (.box 10 (.dat Z10 .nil) (.arr (.cons (.int .i64) Z2) false (.box 2 (.dat Z2 .nil) (.box 2 (.dat Z16 .nil) Qb5))))⟩, (.one (.exit 2) ⟨[5, 10, 12, 13, 11, 9, 30, 3, 31, 32], (.st (.ptr (0, 0) 10 0 0) (.st (.ptr (1, 0) 2 0 0) (.dat (.int .i64) (.dat (.int .i64) (.dat (.int .i64) (.st Qx24 (.st (.own Z2 (3, 0)) Qs37))))))), (.box 10 (.dat Z10 .nil) (.box 2 (.dat Z16 .nil) (.arr (.cons (.int .i64) Z2) false Qb5)))⟩)⟩
    | _ => none) (fun _ _ => 0)
  | _ => {}
theorem ok131 : Abs.SpecOK Tryz.prog 131 sp131 :=
  okW (an := an131) (alc ok215 (alc ok216 (alc ok111 (alc ok65 al0)))) rfl (by intro v; kernel_rfl)

def l214_0_3 (v : ((Int × Int × (List Y21) × Int × Unit) × (Y7 × Unit))) : Option (((Int × Int × (List Y21) × Int × Unit) × (Y7 × Unit)) ⊕ ((Unit) × (Y7 × Unit))) :=
bif (decide ((v.1.1 : Int) < v.1.2.2.2.1)) then (((Abs.rowAt v.1.2.2.1 v.1.1 fun c _ =>
((bif ((c.1 : Int) == 0) then (some ((((c.2.1 : Int) == v.1.2.1), v.1.2.1, v.1.2.2.1, v.1.2.2.2.1, v.1.1, ()), (c, ()), v.2))
else (some ((false, v.1.2.1, v.1.2.2.1, v.1.2.2.2.1, v.1.1, ()), (c, ()), v.2))) : Option ((Bool × Int × (List Y21) × Int × Int × Unit) × ((Y21 × Unit) × Y7 × Unit))).bind fun a =>
bif a.1.1 then (bif (decide (a.2.2.1.length + ([a.2.1.1.2.2.2] : List (Int × Int × Unit)).length ≤ 4294967296)) then
let d := (a.2.2.1 ++ ([a.2.1.1.2.2.2] : List (Int × Int × Unit)))
some (a.1.2, d, ())
else none)
else (some (a.1.2, a.2.2))) : Option ((Int × (List Y21) × Int × Int × Unit) × (Y7 × Unit))).bind fun b =>
some (.inl (((w64 (b.1.2.2.2.1 + 1)), b.1.1, b.1.2.1, b.1.2.2.1, ()), b.2)))
else (some (.inr ((), v.2)))

/- pagewatch/stack.leaves -/
def i214 : Abs.Sg := ⟨[0, 1], (.dat Z4 Qs1), .nil⟩
def o214 : Abs.Sg := ⟨[4], Qs35, Qb5⟩
def m214 (v : ((Y11 × Int × Unit) × (Unit))) : Option ((Unit) × (Y7 × Unit)) :=
(loopT l214_0_3 ((0, v.1.2.1, v.1.1.2.2.1, (v.1.1.2.2.1.length : Int), ()), [], ())).bind fun a =>
(m119 (a.2, ())).bind fun b =>
some ((), b.2)
def sp214 : Abs.Spec := ⟨0, i214, o214, m214⟩
def an214 : Nat → Abs.FAn
  | 0 => Abs.FAn.mk (fun
    | 5 => some ⟨[23, 1, 9, 10, 11, 7, 5], (.dat .bool (.dat (.int .i64) (.dat (.row Z15) (.dat (.int .i64) (.dat (.int .i64) (.st (.ptr (0, 0) 5 0 0) (.st Qx43 .nil))))))), (.box 5 (.dat Z15 .nil) Qb5)⟩
    | _ => none) (fun
    | 7 => some (⟨[5, 1, 9, 10, 11], (.st Qx9 (.dat (.int .i64) (.dat (.row Z15) Qs4))), Qb5⟩, none)
    | _ => none) (fun
    | 3 => some ⟨⟨[11, 5, 1, 9, 10], (.dat (.int .i64) (.st Qx9 (.dat (.int .i64) (.dat (.row Z15) Qs1)))), Qb5⟩, (.one (.exit 0) ⟨[5], Qs35, Qb5⟩)⟩
    | _ => none) (fun _ _ => 0)
  | _ => {}
theorem ok214 : Abs.SpecOK Tryz.prog 214 sp214 :=
  okW (an := an214) (alc ok119 al0) rfl (by intro v; kernel_rfl)

def l130_0_11 (v : ((Int × (List Y12) × Int × Int × Int × Unit) × ((Y12 × Unit) × (List Y12) × Y7 × (List (Abs.KeyT false × Y7)) × (Y11 × Unit) × Unit))) : Option (((Int × (List Y12) × Int × Int × Int × Unit) × ((Y12 × Unit) × (List Y12) × Y7 × (List (Abs.KeyT false × Y7)) × (Y11 × Unit) × Unit)) ⊕ (((List Y12) × Int × Int × Unit) × ((List Y12) × (List (Abs.KeyT false × Y7)) × (Y11 × Unit) × Unit))) :=
bif (decide ((v.1.1 : Int) < v.1.2.2.2.2.1)) then (bif (decide ((0 : Int) ≤ v.1.1 ∧ (v.1.1 : Int) < v.2.2.2.1.length)) then
(v.2.2.2.1[v.1.1.toNat]?).bind fun a =>
bif (decide (v.2.2.1.length + ([(a.1, a.2.1, v.2.1.1.2.2)] : List Y12).length ≤ 4294967296)) then
let b := (v.2.2.1 ++ ([(a.1, a.2.1, v.2.1.1.2.2)] : List Y12))
some (.inl (((w64 (v.1.1 + 1)), v.1.2.1, v.1.2.2.1, v.1.2.2.2.1, v.1.2.2.2.2.1, ()), (v.2.1.1, ()), b, v.2.2.2.1, v.2.2.2.2.1, (v.2.2.2.2.2.1.1, ()), ()))
else none
else none)
else (some (.inr ((v.1.2.1, v.1.2.2.1, v.1.2.2.2.1, ()), v.2.2.1, v.2.2.2.2.1, (v.2.2.2.2.2.1.1, ()), ())))

def l130_0_4 (v : ((Int × (List Y12) × Int × Unit) × ((List Y12) × (List (Abs.KeyT false × Y7)) × (Y11 × Unit) × Unit))) : Option (((Int × (List Y12) × Int × Unit) × ((List Y12) × (List (Abs.KeyT false × Y7)) × (Y11 × Unit) × Unit)) ⊕ ((Unit) × ((List Y12) × Unit))) :=
bif (decide ((v.1.1 : Int) < v.1.2.2.1)) then (((Abs.rowAt v.1.2.1 v.1.1 fun b _ =>
bif (decide ((b.2.2.1 : Int) < 0)) then (some ((v.1.2.1, v.1.2.2.1, v.1.1, ()), v.2.1, v.2.2.1, (v.2.2.2.1.1, ()), ()))
else (((bif (!(mpGet (κ := KeyT false) b.2.2.1 v.2.2.1).isSome) then ((m214 ((v.2.2.2.1.1, b.2.2.1, ()), ())).bind fun f =>
some ((v.1.2.1, v.1.2.2.1, v.1.1, ()), (b, ()), v.2.1, (mpSet (κ := KeyT false) b.2.2.1 f.2.1 v.2.2.1), (v.2.2.2.1.1, ()), ()))
else (some ((v.1.2.1, v.1.2.2.1, v.1.1, ()), (b, ()), v.2.1, v.2.2.1, (v.2.2.2.1.1, ()), ()))) : Option (((List Y12) × Int × Int × Unit) × ((Y12 × Unit) × (List Y12) × (List (Abs.KeyT false × Y7)) × (Y11 × Unit) × Unit))).bind fun a =>
(m132 ((([(a.2.1.1.1, a.2.1.1.2.1, ())] : List (Int × Int × Unit)), ((mpGet (κ := KeyT false) a.2.1.1.2.2.1 a.2.2.2.1).getD []), ()), ())).bind fun e =>
(loopT l130_0_11 ((0, a.1.1, a.1.2.1, a.1.2.2.1, ((e.2.1.length : Nat) : Int), ()), (a.2.1.1, ()), a.2.2.1, e.2.1, a.2.2.2.1, (a.2.2.2.2.1.1, ()), ())).bind fun c =>
some ((c.1.1, c.1.2.1, c.1.2.2.1, ()), c.2.1, c.2.2.1, (c.2.2.2.1.1, ()), ()))) : Option (((List Y12) × Int × Int × Unit) × ((List Y12) × (List (Abs.KeyT false × Y7)) × (Y11 × Unit) × Unit))).bind fun d =>
some (.inl (((w64 (d.1.2.2.1 + 1)), d.1.1, d.1.2.1, ()), d.2.1, d.2.2.1, (d.2.2.2.1.1, ()), ())))
else (some (.inr ((), v.2.1, ())))

/- pagewatch/stack.present -/
def i130 : Abs.Sg := ⟨[0, 1], (.dat Z4 (.dat (.row (.cons (.int .i64) Z2)) .nil)), .nil⟩
def o130 : Abs.Sg := ⟨[4], (.st Qx7 .nil), Qb2⟩
def m130 (v : ((Y11 × (List Y12) × Unit) × (Unit))) : Option ((Unit) × ((List Y12) × Unit)) :=
(loopT l130_0_4 ((0, v.1.2.1, (v.1.2.1.length : Int), ()), [], [], (v.1.1, ()), ())).bind fun a =>
some ((), a.2.1, ())
def sp130 : Abs.Spec := ⟨0, i130, o130, m130⟩
def an130 : Nat → Abs.FAn
  | 0 => Abs.FAn.mk (fun _ => none) (fun
    | 15 => some (⟨[6, 5, 2, 14, 15, 16], (.st Qx7 (.st Qx40 (.st (.ptr (2, 0) 3 0 0) (.dat (.row (.cons (.int .i64) Z2)) Qs4)))), Qb25⟩, none)
    | 10 => some (⟨[8, 6, 5, 2, 14, 15, 16], (.st Qx20 (.st Qx14 (.st (.ptr (2, 0) 0 0 0) (.st (.ptr (3, 0) 3 0 0) (.dat (.row (.cons (.int .i64) Z2)) Qs4))))), (.box 3 Qs11 Qb25)⟩, none)
    | _ => none) (fun
    | 4 => some ⟨⟨[16, 6, 5, 2, 14, 15], (.dat (.int .i64) (.st Qx7 (.st Qx40 (.st (.ptr (2, 0) 3 0 0) (.dat (.row (.cons (.int .i64) Z2)) Qs1))))), Qb25⟩, (.one (.exit 0) ⟨[6], (.st Qx7 .nil), Qb2⟩)⟩
    | 11 => some ⟨⟨[51, 8, 6, 49, 5, 2, 14, 15, 16, 50], (.dat (.int .i64) (.st Qx20 (.st Qx14 (.st (.own Z2 (2, 0)) (.st (.ptr (3, 0) 0 0 0) (.st (.ptr (4, 0) 3 0 0) (.dat (.row (.cons (.int .i64) Z2)) Qs37))))))), (.box 3 Qs11 (.arr (.cons (.int .i64) Z2) false (.arr Z2 false (.mp false (.row Z2) (.box 3 (.dat Z4 .nil) .nil)))))⟩, (.one (.exit 2) ⟨[6, 5, 2, 14, 15, 16], (.st Qx7 (.st Qx40 (.st (.ptr (2, 0) 3 0 0) (.dat (.row (.cons (.int .i64) Z2)) Qs4)))), Qb25⟩)⟩
    | _ => none) (fun _ _ => 0)
  | _ => {}
theorem ok130 : Abs.SpecOK Tryz.prog 130 sp130 :=
  okW (an := an130) (alc ok214 (alc ok132 al0)) rfl (by intro v; kernel_rfl)

def l129_0_3 (v : ((Int × Int × Y7 × (List Y12) × Unit) × ((List Y12) × Unit))) : Option (((Int × Int × Y7 × (List Y12) × Unit) × ((List Y12) × Unit)) ⊕ ((Unit) × ((List Y12) × Unit))) :=
((let j := (decide ((v.1.1 : Int) < (v.1.2.2.2.1.length : Int)))
bif j then (let k := (decide ((v.1.2.1 : Int) < (v.1.2.2.1.length : Int)))
some ((k, v.1.2.1, v.1.2.2.1, v.1.2.2.2.1, v.1.1, ()), v.2))
else (some ((false, v.1.2.1, v.1.2.2.1, v.1.2.2.2.1, v.1.1, ()), v.2))) : Option ((Bool × Int × Y7 × (List Y12) × Int × Unit) × ((List Y12) × Unit))).bind fun a =>
bif a.1.1 then (((Abs.rowAt a.1.2.2.2.1 a.1.2.2.2.2.1 fun c _ =>
Abs.rowAt a.1.2.2.1 a.1.2.1 fun d _ =>
Abs.rowAt a.1.2.2.2.1 a.1.2.2.2.2.1 fun f _ =>
Abs.rowAt a.1.2.2.1 a.1.2.1 fun g _ =>
let e := (if (g.2.1 : Int) < f.2.1 then g.2.1 else f.2.1)
Abs.rowAt a.1.2.2.2.1 a.1.2.2.2.2.1 fun h _ =>
let l := (decide (((if (d.1 : Int) > c.1 then d.1 else c.1) : Int) < e))
bif l then (bif (decide (a.2.1.length + ([((if (d.1 : Int) > c.1 then d.1 else c.1), e, h.2.2)] : List Y12).length ≤ 4294967296)) then
let m := (a.2.1 ++ ([((if (d.1 : Int) > c.1 then d.1 else c.1), e, h.2.2)] : List Y12))
some (a.1.2, m, ())
else none)
else (some (a.1.2, a.2))) : Option ((Int × Y7 × (List Y12) × Int × Unit) × ((List Y12) × Unit))).bind fun b =>
Abs.rowAt b.1.2.2.1 b.1.2.2.2.1 fun n _ =>
Abs.rowAt b.1.2.1 b.1.1 fun o _ =>
bif (decide ((n.2.1 : Int) < o.2.1)) then (some (.inl (((w64 (b.1.2.2.2.1 + 1)), b.1.1, b.1.2.1, b.1.2.2.1, ()), b.2)))
else (some (.inl ((b.1.2.2.2.1, (w64 (b.1.1 + 1)), b.1.2.1, b.1.2.2.1, ()), b.2))))
else (some (.inr ((), a.2)))

/- pagewatch/stack.within -/
def i129 : Abs.Sg := ⟨[0, 1], (.dat (.row (.cons (.int .i64) Z2)) (.dat (.row Z2) .nil)), .nil⟩
def o129 : Abs.Sg := ⟨[4], (.st Qx7 .nil), Qb2⟩
def m129 (v : (((List Y12) × Y7 × Unit) × (Unit))) : Option ((Unit) × ((List Y12) × Unit)) :=
(loopT l129_0_3 ((0, 0, v.1.2.1, v.1.1, ()), [], ())).bind fun a =>
some ((), a.2)
def sp129 : Abs.Spec := ⟨0, i129, o129, m129⟩
def an129 : Nat → Abs.FAn
  | 0 => Abs.FAn.mk (fun
    | 3 => some ⟨[18, 7, 1, 0, 6, 5], (.dat .bool (.dat (.int .i64) (.dat (.row Z2) (.dat (.row (.cons (.int .i64) Z2)) (.dat (.int .i64) (.st Qx7 .nil)))))), Qb2⟩
    | _ => none) (fun
    | 7 => some (⟨[7, 1, 0, 5, 6], (.dat (.int .i64) (.dat (.row Z2) (.dat (.row (.cons (.int .i64) Z2)) (.st Qx7 Qs1)))), Qb2⟩, none)
    | _ => none) (fun
    | 3 => some ⟨⟨[6, 7, 1, 0, 5], (.dat (.int .i64) (.dat (.int .i64) (.dat (.row Z2) (.dat (.row (.cons (.int .i64) Z2)) (.st Qx7 .nil))))), Qb2⟩, (.one (.exit 0) ⟨[5], (.st Qx7 .nil), Qb2⟩)⟩
    | _ => none) (fun _ _ => 0)
  | _ => {}
theorem ok129 : Abs.SpecOK Tryz.prog 129 sp129 :=
  okW (an := an129) al0 rfl (by intro v; kernel_rfl)

def l133_0_3 (v : ((Int × (List Y12) × Int × Unit) × (Y7 × Unit))) : Option (((Int × (List Y12) × Int × Unit) × (Y7 × Unit)) ⊕ ((Unit) × (Y7 × Unit))) :=
bif (decide ((v.1.1 : Int) < v.1.2.2.1)) then (Abs.rowAt v.1.2.1 v.1.1 fun a _ =>
bif (decide (v.2.1.length + ([(a.1, a.2.1, ())] : List (Int × Int × Unit)).length ≤ 4294967296)) then
let b := (v.2.1 ++ ([(a.1, a.2.1, ())] : List (Int × Int × Unit)))
some (.inl (((w64 (v.1.1 + 1)), v.1.2), b, ()))
else none)
else (some (.inr ((), v.2)))

/- pagewatch/stack.spans -/
def i133 : Abs.Sg := ⟨[0], (.dat (.row (.cons (.int .i64) Z2)) .nil), .nil⟩
def o133 : Abs.Sg := ⟨[2], Qs35, Qb5⟩
def m133 (v : (((List Y12) × Unit) × (Unit))) : Option ((Unit) × (Y7 × Unit)) :=
(loopT l133_0_3 ((0, v.1.1, (v.1.1.length : Int), ()), [], ())).bind fun a =>
(m119 (a.2, ())).bind fun b =>
some ((), b.2)
def sp133 : Abs.Spec := ⟨0, i133, o133, m133⟩
def an133 : Nat → Abs.FAn
  | 0 => Abs.FAn.mk (fun _ => none) (fun _ => none) (fun
    | 3 => some ⟨⟨[8, 3, 6, 7], (.dat (.int .i64) (.st Qx9 (.dat (.row (.cons (.int .i64) Z2)) Qs1))), Qb5⟩, (.one (.exit 0) ⟨[3], Qs35, Qb5⟩)⟩
    | _ => none) (fun _ _ => 0)
  | _ => {}
theorem ok133 : Abs.SpecOK Tryz.prog 133 sp133 :=
  okW (an := an133) (alc ok119 al0) rfl (by intro v; kernel_rfl)

/- 134 slices.SortFunc[[]pagewatch/api.Segment,pagewatch/api.Segment]: not told by a law: run where it is called -/

def l62_0_11 (v : ((Int × Int × Unit) × ((Unit) × Y7 × (List Y12) × Unit))) : Option (((Int × Int × Unit) × ((Unit) × Y7 × (List Y12) × Unit)) ⊕ ((Unit) × ((Unit) × (List Y12) × Unit))) :=
bif (decide ((v.1.1 : Int) < v.1.2.1)) then (bif (decide ((0 : Int) ≤ v.1.1 ∧ (v.1.1 : Int) < v.2.2.1.length)) then
(v.2.2.1[v.1.1.toNat]?).bind fun a =>
bif (decide (v.2.2.2.1.length + ([(a.1, a.2.1, (-1), ())] : List Y12).length ≤ 4294967296)) then
let b := (v.2.2.2.1 ++ ([(a.1, a.2.1, (-1), ())] : List Y12))
some (.inl (((w64 (v.1.1 + 1)), v.1.2), (), v.2.2.1, b, ()))
else none
else none)
else (some (.inr ((), (), v.2.2.2)))

/- pagewatch/stack.SegmentsOf -/
def i62 : Abs.Sg := ⟨[0, 1, 2, 3], (.dat (.cons Z1 (.cons (.row Z16) .unit)) (.dat Z4 Qs4)), .nil⟩
def o62 : Abs.Sg := ⟨[8], (.st Qx7 .nil), Qb2⟩
def m62 (v : (((Y3 × (List (Int × Y7 × Unit)) × Unit) × Y11 × Int × Int × Unit) × (Unit))) : Option ((Unit) × ((List Y12) × Unit)) :=
bif (decide ((v.1.2.2.1 : Int) ≥ v.1.2.2.2.1)) then (some ((), [], ()))
else ((m128 ((v.1.2.1.2.1, ()), ())).bind fun a =>
bif (decide (List.length ((), a.2.1, (), (), v.1.2.2.2, (v.1.2.2.1, ()), (v.1.1, ()), (v.1.2.1, ()), ([v.1.2.2] : List (Int × Int × Unit)), ()).2.1.1 = 1)) then
Abs.rowAt ((), a.2.1, (), (), v.1.2.2.2, (v.1.2.2.1, ()), (v.1.1, ()), (v.1.2.1, ()), ([v.1.2.2] : List (Int × Int × Unit)), ()).2.1.1 0 fun e _ =>
(m131 ((((), a.2.1, (), (), v.1.2.2.2, (v.1.2.2.1, ()), (v.1.1, ()), (v.1.2.1, ()), ([v.1.2.2] : List (Int × Int × Unit)), ()).2.2.2.2.2.2.1.1, e, ((), a.2.1, (), (), v.1.2.2.2, (v.1.2.2.1, ()), (v.1.1, ()), (v.1.2.1, ()), ([v.1.2.2] : List (Int × Int × Unit)), ()).2.2.2.2.2.1.1, ((), a.2.1, (), (), v.1.2.2.2, (v.1.2.2.1, ()), (v.1.1, ()), (v.1.2.1, ()), ([v.1.2.2] : List (Int × Int × Unit)), ()).2.2.2.2.1.1, ()), ())).bind fun f =>
(m130 ((((), a.2.1, (), (), v.1.2.2.2, (v.1.2.2.1, ()), (v.1.1, ()), (v.1.2.1, ()), ([v.1.2.2] : List (Int × Int × Unit)), ()).2.2.2.2.2.2.2.1.1, f.2), ())).bind fun g =>
(m129 ((g.2.1, ((), a.2.1, (), (), v.1.2.2.2, (v.1.2.2.1, ()), (v.1.1, ()), (v.1.2.1, ()), ([v.1.2.2] : List (Int × Int × Unit)), ()).2.2.2.2.2.2.2.2.1, ()), ())).bind fun c =>
bif (decide (0 + c.2.1.length ≤ 4294967296)) then
(m133 (c.2, ())).bind fun h =>
(m132 ((((), a.2.1, (), (), v.1.2.2.2, (v.1.2.2.1, ()), (v.1.1, ()), (v.1.2.1, ()), ([v.1.2.2] : List (Int × Int × Unit)), ()).2.2.2.2.2.2.2.2.1, h.2), ())).bind fun d =>
(loopT l62_0_11 ((0, ((d.2.1.length : Nat) : Int), ()), (), d.2.1, c.2)).bind fun b =>
bif (Abs.tupSeg.cond b.2.2.1 0 b.2.2.1.length) then
bif (decide ((Abs.tupSeg.sortAt b.2.2.1 0 b.2.2.1.length).length = b.2.2.1.length) && true) then
(m65 (((Abs.tupSeg.sortAt b.2.2.1 0 b.2.2.1.length), ()), ())).bind fun j =>
some ((), j.2)
else none
else none
else none
else none)
def sp62 : Abs.Spec := ⟨0, i62, o62, m62⟩
def an62 : Nat → Abs.FAn
  | 0 => Abs.FAn.mk (fun _ => none) (fun _ => none) (fun
    | 11 => some ⟨⟨[46, 10, 44, 45], (.dat (.int .i64) (.st (.ptr (0, 0) 1 0 0) (.st Qx43 Qs1))), (.box 1 (.st Qx24 .nil) (.arr Z2 false Qb2))⟩, (.one (.exit 2) ⟨[10], (.st (.ptr (0, 0) 1 0 0) .nil), (.box 1 (.st Qx14 .nil) Qb2)⟩)⟩
    | 7 => some ⟨⟨[25, 10, 9, 7, 6, 4, 5], (.st (.clo 213 [((0, 0), 1, 0, 0)]) (.st (.ptr (1, 0) 1 0 0) (.st (.ptr (2, 0) 1 0 0) (.st (.ptr (3, 0) 1 0 0) (.st (.ptr (4, 0) 1 0 0) (.st (.ptr (5, 0) 5 0 0) (.st (.ptr (6, 0) 3 0 0) .nil))))))), (.box 1 (.dat (.row Z10) .nil) (.box 1 (.st .nil .nil) (.box 1 (.st (.own Z2 (7, 0)) .nil) (.box 1 Qs1 (.box 1 Qs1 (.box 5 Qs29 (.box 3 (.dat Z4 .nil) Qb5)))))))⟩, (.one .normal ⟨[25, 10, 9, 7, 6, 4, 5], (.st (.clo 213 [((0, 0), 1, 0, 0)]) (.st (.ptr (1, 0) 1 0 0) (.st (.ptr (2, 0) 1 0 0) (.st (.ptr (3, 0) 1 0 0) (.st (.ptr (4, 0) 1 0 0) (.st (.ptr (5, 0) 5 0 0) (.st (.ptr (6, 0) 3 0 0) .nil))))))), (.box 1 (.dat (.row Z10) .nil) (.box 1 (.st .nil .nil) (.box 1 (.st (.own Z2 (7, 0)) .nil) (.box 1 Qs1 (.box 1 Qs1 (.box 5 Qs29 (.box 3 (.dat Z4 .nil) Qb5)))))))⟩)⟩
    | _ => none) (fun _ _ => 0)
  | _ => {}
theorem ok62 : Abs.SpecOK Tryz.prog 62 sp62 :=
  Abs.specOG_of (gv := gvT) gvT_ok (C := ctab) (mv := mvtab) ctab_ok (n := 12) (an := an62) (T := Abs.tabOf [(128, sp128), (131, sp131), (130, sp130), (129, sp129), (133, sp133), (132, sp132), (65, sp65)]) good foll (Abs.tabOf_ok _ (by simp only [List.forall_mem_cons]; exact ⟨ok128, ok131, ok130, ok129, ok133, ok132, ok65, fun _ h => by cases h⟩)) rfl (by intro v; kernel_rfl)

/- cmp.isNaN[int] -/
def i218 : Abs.Sg := ⟨[0], Qs1, .nil⟩
def o218 : Abs.Sg := ⟨[2], Qs8, .nil⟩
def m218 (v : ((Int × Unit) × (Unit))) : Option Y22 :=
some ((((v.1.1 : Int) != v.1.1), ()), ())
def sp218 : Abs.Spec := ⟨0, i218, o218, m218⟩
def an218 : Nat → Abs.FAn
  | _ => {}
theorem ok218 : Abs.SpecOK Tryz.prog 218 sp218 :=
  okW (an := an218) al0 rfl (by intro v; kernel_rfl)

/- cmp.Less[int] -/
def i136 : Abs.Sg := ⟨[0, 1], Qs4, .nil⟩
def o136 : Abs.Sg := ⟨[4], Qs8, .nil⟩
def m136 (v : ((Int × Int × Unit) × (Unit))) : Option Y22 :=
(((m218 ((v.1.1, ()), ())).bind fun a =>
bif a.1.1 then ((m218 (v.1.2, ())).bind fun b =>
bif (!b.1.1) then (some ((true, ()), ()))
else (some (((decide ((v.1.1 : Int) < v.1.2.1)), ()), ())))
else (some (((decide ((v.1.1 : Int) < v.1.2.1)), ()), ()))) : Option Y22).bind fun c =>
some c
def sp136 : Abs.Spec := ⟨0, i136, o136, m136⟩
def an136 : Nat → Abs.FAn
  | 0 => Abs.FAn.mk (fun
    | 1 => some ⟨[4], Qs8, .nil⟩
    | _ => none) (fun _ => none) (fun _ => none) (fun _ _ => 0)
  | _ => {}
theorem ok136 : Abs.SpecOK Tryz.prog 136 sp136 :=
  okW (an := an136) (alc ok218 al0) rfl (by intro v; kernel_rfl)

/- slices.isNaN[int] -/
def i137 : Abs.Sg := ⟨[0], Qs1, .nil⟩
def o137 : Abs.Sg := ⟨[2], Qs8, .nil⟩
def m137 (v : ((Int × Unit) × (Unit))) : Option Y22 :=
some ((((v.1.1 : Int) != v.1.1), ()), ())
def sp137 : Abs.Spec := ⟨0, i137, o137, m137⟩
def an137 : Nat → Abs.FAn
  | _ => {}
theorem ok137 : Abs.SpecOK Tryz.prog 137 sp137 :=
  okW (an := an137) al0 rfl (by intro v; kernel_rfl)

def l63_0_3 (v : ((Int × (List Int) × Int × Int × Int × Unit) × (Unit))) : Option (((Int × (List Int) × Int × Int × Int × Unit) × (Unit)) ⊕ ((Int × Int × (List Int) × Int × Unit) × (Unit))) :=
bif (decide ((v.1.2.2.2.1 : Int) < v.1.2.2.1)) then (let a := (IntKind.wrap .u64 ((w64 (v.1.2.2.2.1 + v.1.2.2.1))))
bif (decide ((0 : Int) ≤ 1)) then
Abs.rowAt v.1.2.1 (w64 ((shrI .u64 (a) (1)))) fun b _ =>
(m136 ((b, v.1.1, ()), ())).bind fun c =>
bif c.1.1 then (some (.inl ((v.1.1, v.1.2.1, v.1.2.2.1, (w64 ((w64 ((shrI .u64 (a) (1)))) + 1)), v.1.2.2.2.2), ())))
else (some (.inl ((v.1.1, v.1.2.1, (w64 ((shrI .u64 (a) (1)))), v.1.2.2.2), ())))
else none)
else (some (.inr ((v.1.1, v.1.2.2.2.1, v.1.2.1, v.1.2.2.2.2), ())))

/- slices.BinarySearch[[]int,int] -/
def i63 : Abs.Sg := ⟨[0, 1], (.dat (.row (.int .i64)) Qs1), .nil⟩
def o63 : Abs.Sg := ⟨[4, 5], (.dat (.int .i64) Qs8), .nil⟩
def m63 (v : (((List Int) × Int × Unit) × (Unit))) : Option ((Int × Bool × Unit) × (Unit)) :=
(loopT l63_0_3 ((v.1.2.1, v.1.1, (v.1.1.length : Int), 0, (v.1.1.length : Int), ()), ())).bind fun a =>
((bif (decide ((a.1.2.1 : Int) < a.1.2.2.2.1)) then (Abs.rowAt a.1.2.2.1 a.1.2.1 fun b _ =>
bif ((b : Int) == a.1.1) then (some ((a.1.2.1, true, ()), ()))
else (Abs.rowAt a.1.2.2.1 a.1.2.1 fun c _ =>
(m137 ((c, ()), ())).bind fun d =>
bif d.1.1 then ((m137 ((a.1.1, ()), ())).bind fun e =>
some ((a.1.2.1, e.1), ()))
else (some ((a.1.2.1, false, ()), ()))))
else (some ((a.1.2.1, false, ()), ()))) : Option ((Int × Bool × Unit) × (Unit))).bind fun f =>
some f
def sp63 : Abs.Spec := ⟨0, i63, o63, m63⟩
def an63 : Nat → Abs.FAn
  | 0 => Abs.FAn.mk (fun
    | 8 => some ⟨[4, 5], (.dat (.int .i64) Qs8), .nil⟩
    | _ => none) (fun _ => none) (fun
    | 3 => some ⟨⟨[1, 0, 8, 7, 6], (.dat (.int .i64) (.dat (.row (.int .i64)) Qs37)), .nil⟩, (.one (.exit 0) ⟨[1, 7, 0, 6], (.dat (.int .i64) (.dat (.int .i64) (.dat (.row (.int .i64)) Qs1))), .nil⟩)⟩
    | _ => none) (fun _ _ => 0)
  | _ => {}
theorem ok63 : Abs.SpecOK Tryz.prog 63 sp63 :=
  okW (an := an63) (alc ok136 (alc ok137 al0)) rfl (by intro v; kernel_rfl)

/- pagewatch/edit.active -/
def i138 : Abs.Sg := ⟨[0, 1], (.dat Z15 Qs1), .nil⟩
def o138 : Abs.Sg := ⟨[4], Qs8, .nil⟩
def m138 (v : ((Y21 × Int × Unit) × (Unit))) : Option Y22 :=
((bif (decide ((v.1.1.2.2.2.1 : Int) ≤ v.1.2.1)) then (some (((decide ((v.1.2.1 : Int) < v.1.1.2.2.2.2.1)), ()), ()))
else (some ((false, ()), ()))) : Option Y22).bind fun a =>
some a
def sp138 : Abs.Spec := ⟨0, i138, o138, m138⟩
def an138 : Nat → Abs.FAn
  | 0 => Abs.FAn.mk (fun
    | 1 => some ⟨[4], Qs8, .nil⟩
    | _ => none) (fun _ => none) (fun _ => none) (fun _ _ => 0)
  | _ => {}
theorem ok138 : Abs.SpecOK Tryz.prog 138 sp138 :=
  okW (an := an138) al0 rfl (by intro v; kernel_rfl)

def l64_0_2 (v : ((Int × Int × Int × (List Y21) × Int × Unit) × (Unit))) : Option (((Int × Int × Int × (List Y21) × Int × Unit) × (Unit)) ⊕ ((Int × Unit) × (Unit))) :=
bif (decide ((v.1.1 : Int) < v.1.2.2.2.2.1)) then (((Abs.rowAt v.1.2.2.2.1 v.1.1 fun c _ =>
(((m138 ((c, v.1.2.2.1, ()), ())).bind fun d =>
bif (!d.1.1) then (some ((true, v.1.2.1, v.1.2.2.1, v.1.2.2.2.1, v.1.2.2.2.2.1, v.1.1, ()), (c, ()), ()))
else (some ((((c.1 : Int) == 0), v.1.2.1, v.1.2.2.1, v.1.2.2.2.1, v.1.2.2.2.2.1, v.1.1, ()), (c, ()), ()))) : Option ((Bool × Int × Int × (List Y21) × Int × Int × Unit) × ((Y21 × Unit) × Unit))).bind fun a =>
bif a.1.1 then (some (a.1.2, ()))
else (bif ((a.2.1.1.1 : Int) == 1) then (some ((a.2.1.1.2.1, a.1.2.2), ()))
else (bif ((a.2.1.1.1 : Int) != 2) then (some (a.1.2, ()))
else (bif ((a.1.2.1 : Int) == a.2.1.1.2.1) then (some ((a.2.1.1.2.2.1, a.1.2.2), ()))
else (bif ((a.1.2.1 : Int) == a.2.1.1.2.2.1) then (some ((a.2.1.1.2.1, a.1.2.2), ()))
else (some (a.1.2, ()))))))) : Option ((Int × Int × (List Y21) × Int × Int × Unit) × (Unit))).bind fun b =>
some (.inl (((w64 (b.1.2.2.2.2.1 + 1)), b.1.1, b.1.2.1, b.1.2.2.1, b.1.2.2.2.1, ()), ())))
else (some (.inr ((v.1.2.1, ()), ())))

/- pagewatch/edit.Fold -/
def i64 : Abs.Sg := ⟨[0, 1, 2], (.dat (.row Z15) Qs4), .nil⟩
def o64 : Abs.Sg := ⟨[6], Qs1, .nil⟩
def m64 (v : (((List Y21) × Int × Int × Unit) × (Unit))) : Option ((Int × Unit) × (Unit)) :=
(loopT l64_0_2 ((0, v.1.2.1, v.1.2.2.1, v.1.1, (v.1.1.length : Int), ()), ())).bind fun a =>
some a
def sp64 : Abs.Spec := ⟨0, i64, o64, m64⟩
def an64 : Nat → Abs.FAn
  | 0 => Abs.FAn.mk (fun
    | 4 => some ⟨[15, 1, 2, 9, 10, 11, 8], (.dat .bool (.dat (.int .i64) (.dat (.int .i64) (.dat (.row Z15) (.dat (.int .i64) (.dat (.int .i64) (.st (.ptr (0, 0) 5 0 0) .nil))))))), Qb21⟩
    | _ => none) (fun
    | 12 => some (⟨[1, 2, 9, 10, 11], (.dat (.int .i64) (.dat (.int .i64) (.dat (.row Z15) Qs4))), .nil⟩, none)
    | _ => none) (fun
    | 2 => some ⟨⟨[11, 1, 2, 9, 10], (.dat (.int .i64) (.dat (.int .i64) (.dat (.int .i64) (.dat (.row Z15) Qs1)))), .nil⟩, (.one (.exit 0) ⟨[1], Qs1, .nil⟩)⟩
    | _ => none) (fun _ _ => 0)
  | _ => {}
theorem ok64 : Abs.SpecOK Tryz.prog 64 sp64 :=
  okW (an := an64) (alc ok138 al0) rfl (by intro v; kernel_rfl)

def l31_0_3 (v : ((Int × (List Y21) × Int × Int × Int × Unit) × ((List Int) × (Y11 × Unit) × ((Y3 × (List (Int × Y7 × Unit)) × Unit) × Unit) × Unit))) : Option (((Int × (List Y21) × Int × Int × Int × Unit) × ((List Int) × (Y11 × Unit) × ((Y3 × (List (Int × Y7 × Unit)) × Unit) × Unit) × Unit)) ⊕ ((Int × Int × Unit) × ((Y11 × Unit) × ((Y3 × (List (Int × Y7 × Unit)) × Unit) × Unit) × (List Int) × Unit))) :=
bif (decide ((v.1.1 : Int) < v.1.2.2.2.2.1)) then (Abs.rowAt v.1.2.1 v.1.1 fun a _ =>
bif (decide (v.2.1.length + [a.2.2.2.1, a.2.2.2.2.1].length ≤ 4294967296)) then
some (.inl (((w64 (v.1.1 + 1)), v.1.2), (v.2.1 ++ [a.2.2.2.1, a.2.2.2.2.1]), v.2.2))
else none)
else (some (.inr ((v.1.2.2.1, v.1.2.2.2.1, ()), v.2.2.1, v.2.2.2.1, v.2.1, ())))

def l31_0_14 (v : ((Int × Int × Int × Int × Unit) × ((Y12 × Unit) × (Y11 × Unit) × (List Y12) × (List Int) × (List Y12) × Unit))) : Option (((Int × Int × Int × Int × Unit) × ((Y12 × Unit) × (Y11 × Unit) × (List Y12) × (List Int) × (List Y12) × Unit)) ⊕ ((Int × Int × Unit) × ((Y11 × Unit) × (List Y12) × (List Int) × (List Y12) × Unit))) :=
bif (decide ((v.1.2.1 : Int) < v.2.1.1.2.1)) then (bif (decide ((0 : Int) ≤ v.1.1 ∧ (v.1.1 : Int) < v.2.2.2.2.1.length)) then
(v.2.2.2.2.1[v.1.1.toNat]?).bind fun b =>
let a := (if (b : Int) < v.2.1.1.2.1 then b else v.2.1.1.2.1)
(m64 ((v.2.2.1.1.2.2.1, v.2.1.1.2.2.1, v.1.2.1, ()), ())).bind fun c =>
bif (decide (v.2.2.2.1.length + ([(v.1.2.1, a, c.1)] : List Y12).length ≤ 4294967296)) then
let d := (v.2.2.2.1 ++ ([(v.1.2.1, a, c.1)] : List Y12))
some (.inl (((w64 (v.1.1 + 1)), a, v.1.2.2), v.2.1, v.2.2.1, d, v.2.2.2.2))
else none
else none)
else (some (.inr (v.1.2.2, v.2.2)))

def l31_0_10 (v : ((Int × Int × Unit) × ((Y11 × Unit) × (List Y12) × (List Int) × (List Y12) × Unit))) : Option (((Int × Int × Unit) × ((Y11 × Unit) × (List Y12) × (List Int) × (List Y12) × Unit)) ⊕ ((Unit) × ((List Y12) × Unit))) :=
bif (decide ((v.1.1 : Int) < v.1.2.1)) then (bif (decide ((0 : Int) ≤ v.1.1 ∧ (v.1.1 : Int) < v.2.2.2.2.1.length)) then
(v.2.2.2.2.1[v.1.1.toNat]?).bind fun a =>
(m63 ((v.2.2.2.1, (w64 (a.1 + 1)), ()), ())).bind fun c =>
(loopT l31_0_14 ((c.1.1, a.1, v.1.2.1, v.1.1, ()), (a, ()), v.2)).bind fun b =>
some (.inl (((w64 (b.1.2.1 + 1)), b.1.1, ()), b.2))
else none)
else (some (.inr ((), v.2.2.1, ())))

/- pagewatch/edit.SegmentsOf -/
def i31 : Abs.Sg := ⟨[0, 1, 2, 3], (.dat (.cons Z1 (.cons (.row Z16) .unit)) (.dat Z4 Qs4)), .nil⟩
def o31 : Abs.Sg := ⟨[8], (.st Qx7 .nil), Qb2⟩
def m31 (v : (((Y3 × (List (Int × Y7 × Unit)) × Unit) × Y11 × Int × Int × Unit) × (Unit))) : Option ((Unit) × ((List Y12) × Unit)) :=
(loopT l31_0_3 ((0, v.1.2.1.2.2.1, v.1.2.2.2.1, v.1.2.2.1, (v.1.2.1.2.2.1.length : Int), ()), [], (v.1.2.1, ()), (v.1.1, ()), ())).bind fun a =>
(m61 ((a.2.2.2.1, a.1.2.1, a.1.1, ()), ())).bind fun c =>
(m62 ((a.2.2.1.1, a.2.1.1, a.1.2.1, a.1.1, ()), ())).bind fun b =>
(loopT l31_0_10 ((0, ((b.2.1.length : Nat) : Int), ()), a.2.1, [], c.2.1, b.2)).bind fun d =>
(m65 (d.2, ())).bind fun e =>
some ((), e.2)
def sp31 : Abs.Spec := ⟨0, i31, o31, m31⟩
def an31 : Nat → Abs.FAn
  | 0 => Abs.FAn.mk (fun _ => none) (fun _ => none) (fun
    | 10 => some ⟨⟨[5, 13, 12, 45, 43, 44], (.st Qx20 (.st Qx14 (.st (.own (.int .i64) (2, 0)) (.dat (.int .i64) (.st (.own (.cons (.int .i64) Z2) (3, 0)) Qs1))))), Qb41⟩, (.one (.exit 2) ⟨[13], (.st Qx7 .nil), Qb2⟩)⟩
    | 14 => some ⟨⟨[16, 18, 15, 5, 13, 12, 43, 44, 45], (.dat (.int .i64) (.dat (.int .i64) (.st Qx20 (.st Qx33 (.st Qx24 (.st (.own (.int .i64) (3, 0)) (.st (.own (.cons (.int .i64) Z2) (4, 0)) Qs4))))))), (.box 3 Qs11 Qb41)⟩, (.one (.exit 4) ⟨[5, 13, 12, 43, 44, 45], (.st Qx20 (.st Qx14 (.st (.own (.int .i64) (2, 0)) (.st (.own (.cons (.int .i64) Z2) (3, 0)) Qs4)))), Qb41⟩)⟩
    | 3 => some ⟨⟨[23, 9, 21, 5, 3, 2, 4, 22], (.dat (.int .i64) (.st Qx42 (.dat (.row Z15) (.st Qx33 (.dat (.int .i64) (.dat (.int .i64) (.st (.ptr (2, 0) 5 0 0) Qs1))))))), (.arr (.int .i64) false (.box 3 (.dat Z4 .nil) (.box 5 Qs29 .nil)))⟩, (.one (.exit 0) ⟨[5, 3, 2, 4, 9], (.st Qx20 (.dat (.int .i64) (.dat (.int .i64) (.st (.ptr (1, 0) 5 0 0) (.st (.own (.int .i64) (2, 0)) .nil))))), (.box 3 (.dat Z4 .nil) (.box 5 Qs29 Qb17))⟩)⟩
    | _ => none) (fun _ _ => 0)
  | _ => {}
theorem ok31 : Abs.SpecOK Tryz.prog 31 sp31 :=
  okW (an := an31) (alc ok61 (alc ok62 (alc ok63 (alc ok64 (alc ok65 al0))))) rfl (by intro v; kernel_rfl)

/- pagewatch/roster.Segments -/
def i13 : Abs.Sg := ⟨[0, 1, 2, 3], (.dat Z1 Qs37), .nil⟩
def o13 : Abs.Sg := ⟨[8, 9], (.st Qx7 Qs1), Qb2⟩
def m13 (v : ((Y3 × Int × Int × Int × Unit) × (Unit))) : Option ((Int × Unit) × ((List Y12) × Unit)) :=
(m30 v).bind fun a =>
bif ((a.1.1 : Int) != 0) then (some (a.1, [], ()))
else (Abs.rowAt v.1.1.2.2.2.1 v.1.2.1 fun c _ =>
(m31 (((a.2.1.1, a.2.2), c, v.1.2.2), ())).bind fun b =>
let d := (decide ((((b.2.1.length : Nat) : Int) : Int) > 16384))
bif d then (some ((5, ()), [], ()))
else (some ((0, ()), b.2)))
def sp13 : Abs.Spec := ⟨0, i13, o13, m13⟩
def an13 : Nat → Abs.FAn
  | _ => {}
theorem ok13 : Abs.SpecOK Tryz.prog 13 sp13 :=
  okW (an := an13) (alc ok30 (alc ok31 al0)) rfl (by intro v; kernel_rfl)

def l3_0_6 (v : (Y12 × (((Unit) × Unit) × Y17 × (List Y9) × (List Y18) × (List Y19) × Unit))) : Option ((Y12 × (((Unit) × Unit) × Y17 × (List Y9) × (List Y18) × (List Y19) × Unit)) ⊕ ((Int × Unit) × (((Unit) × Unit) × Y17 × (List Y9) × (List Y18) × (List Y19) × Unit))) :=
bif (decide ((v.1.1 : Int) < v.1.2.2.1)) then (bif (decide ((0 : Int) ≤ v.1.1 ∧ (v.1.1 : Int) < v.2.2.2.1.length)) then
(v.2.2.2.1[v.1.1.toNat]?).bind fun a =>
bif (decide ((0 : Int) ≤ v.1.1 ∧ (v.1.1 : Int) < (v.2.2.2.1.set v.1.1.toNat (a.1, a.2.1, [], ())).length)) then
((v.2.2.2.1.set v.1.1.toNat (a.1, a.2.1, [], ()))[v.1.1.toNat]?).bind fun b =>
some (.inl (((w64 (v.1.1 + 1)), v.1.2), ((), ()), v.2.2.1, ((v.2.2.2.1.set v.1.1.toNat (a.1, a.2.1, [], ())).set v.1.1.toNat (b.1, 0, b.2.2)), v.2.2.2.2))
else none
else none)
else (some (.inr ((v.1.2.1, ()), ((), ()), v.2.2)))

def l3_0_16 (v : (Y12 × Y24)) : Option ((Y12 × Y24) ⊕ ((Int × Unit) × Y24)) :=
bif (decide ((v.1.1 : Int) < v.1.2.2.1)) then (bif (decide ((0 : Int) ≤ v.1.1 ∧ (v.1.1 : Int) < v.2.2.2.2.2.1.length)) then
(v.2.2.2.2.2.1[v.1.1.toNat]?).bind fun a =>
some (.inl (((w64 (v.1.1 + 1)), v.1.2), ((), ()), ((), ()), v.2.2.2.1, v.2.2.2.2.1, (v.2.2.2.2.2.1.set v.1.1.toNat (a.1, v.1.2.1, a.2.2)), v.2.2.2.2.2.2))
else none)
else (some (.inr ((v.1.2.1, ()), ((), ()), ((), ()), v.2.2.2)))

def l3_0_31 (v : ((Int × Int × Unit) × ((List Y12) × (List Y12) × Unit))) : Option (((Int × Int × Unit) × ((List Y12) × (List Y12) × Unit)) ⊕ (Y22 ⊕ ((Unit) × (Unit)))) :=
bif (decide ((v.1.1 : Int) < v.1.2.1)) then (bif (decide ((0 : Int) ≤ v.1.1 ∧ (v.1.1 : Int) < v.2.2.1.length)) then
(v.2.2.1[v.1.1.toNat]?).bind fun a =>
bif (decide ((0 : Int) ≤ v.1.1 ∧ (v.1.1 : Int) < v.2.1.length)) then
(v.2.1[v.1.1.toNat]?).bind fun b =>
let c := (!(((a.1 : Int) == b.1) && (((a.2.1 : Int) == b.2.1) && (((a.2.2.1 : Int) == b.2.2.1) && true))))
bif c then (some (.inr (.inl ((false, ()), ()))))
else (some (.inl (((w64 (v.1.1 + 1)), v.1.2), v.2)))
else none
else none)
else (some (.inr (.inr ((), ()))))

/- pagewatch/pagewatchtop.TopShifted -/
def i3 : Abs.Sg := ⟨[0, 1], (.dat (.row (.int .i64)) (.dat (.int .u8) .nil)), .nil⟩
def o3 : Abs.Sg := ⟨[4], Qs8, .nil⟩
def m3 (v : (((List Int) × Int × Unit) × (Unit))) : Option Y22 :=
(m6 ((v.1.1, ()), ())).bind fun n =>
bif (!n.1.1) then (some ((true, ()), ()))
else ((m7 ((v.1.1, ()), ())).bind fun o =>
(m8 ((), o.2)).bind fun j =>
(loopT l3_0_6 ((0, v.1.2.1, ((j.2.2.2.1.length : Nat) : Int), ()), ((), ()), j.2.1, j.2.2.2)).bind fun d =>
(m9 (((d.2.2.2.1, d.2.2.2.2.1, d.2.2.2.2.2.1, [], ()), (bs [111, 110, 108, 121]), ()), d.2.2.1, ())).bind fun a =>
(m10 (((d.2.2.2.1, d.2.2.2.2.1, d.2.2.2.2.2.1, [], ()), ()), a.2.1, ())).bind fun k =>
(m11 (((d.2.2.2.1, d.2.2.2.2.1, d.2.2.2.2.2.1, ([((bs [115]), ([(a.2.2.1.1.1, a.2.2.1.1.2.1, (a.2.2.1.1.2.2.1, a.2.2.1.1.2.2.2.1, ()), a.2.2.1.1.2.2.2.2.1, a.2.2.1.1.2.2.2.2.2.1, a.2.2.2.1, [], 0, 0, ())] : List Y6), ([k.2.2.1.1] : List Y21), ())] : List Y11), ()), ()), ())).bind fun e =>
(loopT l3_0_16 ((0, (w64 (60 * (w64 (d.1.1)))), ((e.2.2.1.length : Nat) : Int), ()), ((), ()), ((), ()), k.2.1, ((a.2.2.1.1.1, a.2.2.1.1.2.1, a.2.2.1.1.2.2.1, a.2.2.1.1.2.2.2.1, a.2.2.1.1.2.2.2.2.1, a.2.2.1.1.2.2.2.2.2.1, 0, 0, ()), ()), e.2.2.1, e.2.2.2.1, e.2.2.2.2.1, e.2.2.2.2.2.1, d.2.2.2.1, d.2.2.2.2.1, d.2.2.2.2.2.1, ([((bs [115]), ([(a.2.2.1.1.1, a.2.2.1.1.2.1, (a.2.2.1.1.2.2.1, a.2.2.1.1.2.2.2.1, ()), a.2.2.1.1.2.2.2.2.1, a.2.2.1.1.2.2.2.2.2.1, a.2.2.2.1, [], 0, 0, ())] : List Y6), ([k.2.2.1.1] : List Y21), ())] : List Y11), a.2.2.2.1, ())).bind fun c =>
((let p := (decide (((w64 (c.2.2.2.2.1.1.2.2.2.1 + c.1.1)) : Int) ≥ 86400))
bif p then (let q := (w64 ((w64 (c.2.2.2.2.1.1.2.2.2.1 + c.1.1)) - 86400))
some ((), ((), ()), ((), ()), c.2.2.2.1, ((c.2.2.2.2.1.1.1, c.2.2.2.2.1.1.2.1, (w64 (c.2.2.2.2.1.1.2.2.1 + 1)), q, c.2.2.2.2.1.1.2.2.2.2), ()), c.2.2.2.2.2))
else (some ((), ((), ()), ((), ()), c.2.2.2.1, ((c.2.2.2.2.1.1.1, c.2.2.2.2.1.1.2.1, c.2.2.2.2.1.1.2.2.1, (w64 (c.2.2.2.2.1.1.2.2.2.1 + c.1.1)), c.2.2.2.2.1.1.2.2.2.2), ()), c.2.2.2.2.2))) : Option ((Unit) × Y24)).bind fun b =>
bif (decide ((0 : Int) ≤ 0 ∧ (0 : Int) < b.2.2.2.2.2.2.2.2.1.length)) then
(b.2.2.2.2.2.2.2.2.1[0]?).bind fun m =>
(m12 ((), b.2.2.2.1, ())).bind fun h =>
(m13 (((b.2.2.2.2.2.2.2.2.2.1, b.2.2.2.2.2.2.2.2.2.2.1, b.2.2.2.2.2.2.2.2.2.2.2.1, b.2.2.2.2.2.2.2.2.2.2.2.2.1, ()), 0, h.1.1, (w64 (h.1.1 + 777600)), ()), ())).bind fun f =>
(m13 (((b.2.2.2.2.2.1, b.2.2.2.2.2.2.1, b.2.2.2.2.2.2.2.1, (b.2.2.2.2.2.2.2.2.1.set 0 (m.1, ([(b.2.2.2.2.1.1.1, b.2.2.2.2.1.1.2.1, (b.2.2.2.2.1.1.2.2.1, b.2.2.2.2.1.1.2.2.2.1, ()), b.2.2.2.2.1.1.2.2.2.2.1, b.2.2.2.2.1.1.2.2.2.2.2.1, b.2.2.2.2.2.2.2.2.2.2.2.2.2.1, [], b.2.2.2.2.1.1.2.2.2.2.2.2)] : List Y6), m.2.2)), ()), 0, h.1.1, (w64 (h.1.1 + 777600)), ()), ())).bind fun g =>
((bif ((f.1.1 : Int) != 0) then (some ((true, ()), g.2.1, f.2))
else (bif ((g.1.1 : Int) != 0) then (some ((true, ()), g.2.1, f.2))
else (let r := ((((f.2.1.length : Nat) : Int) : Int) != ((g.2.1.length : Nat) : Int))
some ((r, ()), g.2.1, f.2)))) : Option ((Bool × Unit) × ((List Y12) × (List Y12) × Unit))).bind fun l =>
bif l.1.1 then (some ((false, ()), ()))
else ((loopT l3_0_31 ((0, ((l.2.2.1.length : Nat) : Int), ()), l.2)).bind fun s =>
sumE s (fun t => (some t)) (fun u => (some ((true, ()), ()))))
else none)
def sp3 : Abs.Spec := ⟨0, i3, o3, m3⟩
def an3 : Nat → Abs.FAn
  | 0 => Abs.FAn.mk (fun
    | 28 => some ⟨[141, 16, 14], (.dat .bool (.st Qx7 (.st Qx14 .nil))), (.arr (.cons (.int .i64) Z2) false Qb2)⟩
    | _ => none) (fun
    | 24 => some (⟨[10, 6, 5, 12], (.st Qx22 (.st Qx34 (.st (.ptr (2, 0) 2 0 0) (.st (.ptr (3, 0) 10 0 0) .nil)))), Qb3⟩, none)
    | _ => none) (fun
    | 31 => some ⟨⟨[144, 16, 14, 143], (.dat (.int .i64) (.st Qx7 (.st Qx14 Qs1))), (.arr (.cons (.int .i64) Z2) false Qb2)⟩, (.more .ret ⟨[4], Qs8, .nil⟩ (.one (.exit 4) ⟨[], .nil, .nil⟩))⟩
    | 16 => some ⟨⟨[71, 9, 10, 6, 5, 8, 70], (.dat (.int .i64) (.dat (.int .i64) (.st Qx22 (.st Qx34 (.st (.ptr (2, 0) 2 0 0) (.st (.ptr (3, 0) 10 0 0) Qs1)))))), Qb3⟩, (.one (.exit 2) ⟨[10, 6, 5, 9, 8], (.st Qx22 (.st Qx34 (.st (.ptr (2, 0) 2 0 0) (.dat (.int .i64) (.st (.ptr (3, 0) 10 0 0) .nil))))), Qb3⟩)⟩
    | 6 => some ⟨⟨[34, 6, 5, 1, 33], (.dat (.int .i64) (.st Qx22 (.st (.ptr (1, 0) 2 0 0) (.dat (.int .u8) Qs1)))), (.box 4 Qs38 (.box 2 Qs13 Qb26))⟩, (.one (.exit 0) ⟨[6, 5, 1], (.st Qx22 (.st (.ptr (1, 0) 2 0 0) (.dat (.int .u8) .nil))), (.box 4 Qs38 (.box 2 Qs13 Qb26))⟩)⟩
    | _ => none) (fun _ _ => 0)
  | _ => {}
theorem ok3 : Abs.SpecOK Tryz.prog 3 sp3 :=
  okW (an := an3) (alc ok6 (alc ok7 (alc ok8 (alc ok9 (alc ok10 (alc ok11 (alc ok12 (alc ok13 al0)))))))) rfl (by intro v; kernel_rfl)

end
end Go.Proofs.YtoihpnpfnechdaaGreatDoor
