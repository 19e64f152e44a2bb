/- Lemmas for the statement of the last text of this claim. -/
import Derived.Test.YtfbikpbejkgegaaChecked
import Derived.Test.YtfbikpbejkgegaaPxL
import Derived.ProofKit
import Derived.Test.YtfbikpbejkgegaaPxK
import Derived.Test.YtfbikpbejkgegaaV4A
set_option linter.unusedSimpArgs false
set_option linter.unusedVariables false
namespace Go.Proofs.Ytfbikpbejkgegaa
open Go Go.Abs
noncomputable section
abbrev Y9 : Type := (Int × Int × Int × Int × Int × Int × Int × Int × Int × (Int × Int × Int × Int × Int × Int × Unit) × (Int × Int × Int × Int × Int × Unit) × Unit)

abbrev Y2 : Type := (List (Int × Y9 × Unit))

abbrev Y5 : Type := (Int × Int × Int × Int × Y2 × Int × (List Bool) × (List Int) × Unit)

abbrev Y7 : Type := (Int × Int × Int × Int × Int × Int × Int × Y2 × Bool × Unit)

abbrev Y10 : Type := (((List Y5) × (List Y7) × (List Bool) × (List (Int × Int × Unit)) × Unit) × Unit)

abbrev Y11 : Type := ((Int × Int × Int × Int × Int × Unit) × Unit)

abbrev Z12 : Abs.Ty := (.cons (.row (.int .i64)) (.cons (.int .i64) .unit))

abbrev Y13 : Type := (((List Int) × Int × Unit) × Unit)

abbrev Y14 : Type := ((Bool × Unit) × (Unit))

abbrev Y15 : Type := ((Int × Int × Int × Int × Int × Int × Int × Bool × Unit) × Unit)

abbrev Z16 : Abs.Ty := (.cons (.int .i64) (.cons (.int .i64) .unit))

abbrev Z6 : Abs.Ty := (.cons (.int .i64) (.cons (.int .i64) (.cons (.int .i64) (.cons (.int .i64) (.cons (.int .i64) (.cons (.int .i64) (.cons (.int .i64) (.cons (.int .i64) (.cons (.int .i64) (.cons (.cons (.int .i64) (.cons (.int .i64) (.cons (.int .i64) (.cons (.int .i64) Z16)))) (.cons (.cons (.int .i64) (.cons (.int .i64) (.cons (.int .i64) Z16))) .unit)))))))))))

abbrev Z1 : Abs.Ty := (.cons (.int .i64) (.cons Z6 .unit))

abbrev Z3 : Abs.Ty := (.cons (.int .i64) (.cons (.int .i64) (.cons (.int .i64) (.cons (.int .i64) (.cons (.row Z1) (.cons (.int .i64) (.cons (.row .bool) (.cons (.row (.int .i64)) .unit))))))))

abbrev Z4 : Abs.Ty := (.cons (.int .i64) (.cons (.int .i64) (.cons (.int .i64) (.cons (.int .i64) (.cons (.int .i64) (.cons (.int .i64) (.cons (.int .i64) (.cons (.row Z1) (.cons .bool .unit)))))))))

abbrev Z8 : Abs.Ty := (.cons (.row Z3) (.cons (.row Z4) (.cons (.row .bool) (.cons (.row Z16) .unit))))

abbrev Y17 : Type := (Y11 × Y11 × Y2 × (List Bool) × (List Int) × Unit)

abbrev Y18 : Type := ((((List Y5) × (List Y7) × (List Bool) × (List (Int × Int × Unit)) × Unit) × Int × Unit) × (Unit))

abbrev Y19 : Type := ((Int × Unit) × (((Unit) × Unit) × (List Y5) × (List Y7) × (List Bool) × (List (Int × Int × Unit)) × Unit))

abbrev Y20 : Type := (Int × Int × Int × Unit)

def note : FuncId → Abs.Note
  | 2 => ⟨true, [], false, fun _ => []⟩
  | 3 => ⟨true, [0, 2, 3, 4, 5, 6, 7, 8, 9, 10, 11, 13, 14, 16, 17, 18, 19, 22, 32, 103, 104, 105, 106, 107, 113, 157], false, fun | 10 => [(1, 10), (4, 10), (6, 10), (9, 10), (1, 11), (4, 11), (6, 11), (9, 11), (10, 11), (6, 12), (9, 12)] | 11 => [(0, 5), (2, 5), (5, 7), (6, 7), (5, 9), (6, 9), (5, 11), (6, 11), (7, 12), (9, 12)] | 13 => [(3, 8), (5, 8)] | _ => []⟩
  | 4 => ⟨true, [0, 1, 2, 3, 5, 8, 9, 10, 11, 12, 14, 16, 17, 18, 19, 20, 21, 22, 24, 25, 26, 27, 28, 29, 30, 31, 32, 33, 34, 43, 63, 64, 65, 66, 73, 74, 75, 76, 92, 121, 131, 132, 133, 134, 194, 216], false, fun | 6 => [(1, 4), (1, 7), (4, 7), (6, 7)] | 7 => [(0, 3)] | 13 => [(2, 4)] | 19 => [(3, 5), (3, 8), (7, 8)] | 24 => [(19, 21), (19, 22), (33, 34), (33, 36), (33, 38)] | _ => []⟩
  | 5 => ⟨true, [0, 2, 3, 4, 5, 6, 7, 8, 9, 11, 13, 14, 15, 16, 17, 18, 19, 20, 23, 32, 35, 40, 41, 50, 59, 63, 82, 103, 109, 128], false, fun _ => []⟩
  | 6 => ⟨true, [0, 2, 3, 4, 5, 6, 7, 8, 9, 10, 11, 12, 13, 14, 15, 16, 17, 18, 19, 20, 21, 22, 23, 26, 35, 45, 52, 65, 77, 95, 113, 116, 132, 153, 166], false, fun | 23 => [(2, 5)] | 32 => [(4, 11), (5, 11), (6, 11), (4, 12), (5, 12), (6, 12), (11, 12)] | _ => []⟩
  | 7 => ⟨true, [0, 2, 3, 4, 5, 6, 7, 8, 9, 10, 11, 12, 13, 16, 35, 43, 102, 107, 110, 120, 139], false, fun | 13 => [(5, 11), (5, 14), (11, 17), (11, 19), (5, 22), (11, 22), (14, 22), (17, 22), (19, 22)] | _ => []⟩
  | 8 => ⟨true, [0, 2, 3, 4, 5, 6, 7, 8, 9, 11, 12, 13, 14, 15, 16, 20, 39, 53, 54, 55, 56, 57, 91, 111, 147], false, fun | 18 => [(2, 13), (4, 13), (6, 13), (7, 13), (8, 13), (2, 14), (4, 14), (6, 14), (7, 14), (8, 14), (13, 14)] | 21 => [(4, 6)] | _ => []⟩
  | 9 => ⟨true, [0, 2, 3, 4, 5, 6, 7, 8, 9, 10, 13, 14, 17, 34, 69, 100, 137], false, fun | 6 => [(1, 4), (1, 7), (4, 7), (6, 7)] | 10 => [(1, 11), (6, 11), (8, 11), (11, 15), (1, 18), (6, 18), (8, 18), (11, 20), (18, 20), (1, 21), (6, 21), (8, 21), (11, 23), (18, 23), (21, 23), (1, 24), (6, 24), (8, 24), (1, 25), (6, 25), (8, 25), (1, 27), (6, 27), (8, 27), (1, 29), (6, 29), (8, 29), (11, 29), (15, 29), (18, 29), (20, 29), (21, 29), (23, 29), (24, 29), (25, 29), (27, 29)] | 14 => [(1, 8), (1, 9), (1, 11), (1, 15)] | 18 => [(1, 2)] | _ => []⟩
  | 10 => ⟨true, [0, 2, 3, 4, 5, 6, 7, 8, 10, 11, 12, 13, 16, 23, 24, 25, 26, 38, 56, 59, 60, 61, 62, 81], false, fun | 22 => [(1, 12), (4, 12), (7, 12), (8, 12)] | 23 => [(11, 13), (11, 16)] | _ => []⟩
  | 11 => ⟨true, [0, 1, 2, 3, 5, 6, 8, 9, 10, 11, 12, 13, 14, 15, 16, 18, 20, 22, 23, 24, 25, 26, 27, 28, 30, 32, 33, 34, 35, 36, 37, 38, 39, 40, 41, 50, 67, 114, 142, 143, 144, 145, 152, 161, 162, 163, 164, 169, 170, 171, 172, 217, 222, 223, 224, 225, 233, 234, 235, 236, 261, 293], false, fun | 6 => [(1, 4), (1, 7), (4, 7), (6, 7)] | 11 => [(1, 7), (2, 7), (5, 7), (1, 10), (2, 10), (5, 10), (1, 12), (2, 12), (5, 12), (1, 15), (2, 15), (5, 15), (1, 17), (2, 17), (5, 17), (7, 17), (7, 18), (1, 21), (2, 21), (5, 21), (17, 21), (18, 21), (1, 24), (2, 24), (5, 24), (17, 24), (18, 24), (1, 27), (2, 27), (5, 27), (7, 27), (10, 27), (12, 27), (15, 27), (17, 27), (18, 27), (7, 28), (1, 30), (2, 30), (5, 30), (17, 30), (18, 30), (27, 30), (28, 30), (7, 31), (7, 32), (7, 33), (7, 35), (7, 38), (1, 41), (2, 41), (5, 41), (7, 41), (10, 41), (12, 41), (15, 41), (17, 41), (18, 41), (21, 41), (24, 41), (27, 41), (28, 41), (30, 41), (31, 41), (32, 41), (33, 41), (35, 41), (38, 41)] | 15 => [(1, 10), (1, 11), (1, 13), (1, 17)] | 31 => [(19, 21), (19, 22)] | 38 => [(0, 2)] | 48 => [(12, 14)] | 51 => [(1, 4), (1, 7), (4, 7), (6, 7)] | 52 => [(4, 6), (4, 8), (13, 14)] | _ => []⟩
  | 12 => ⟨true, [0, 2, 3, 4, 5, 6, 7, 8, 9, 10, 11, 12, 13, 14, 15, 16, 17, 20, 38, 42, 95, 102, 128, 147], false, fun _ => []⟩
  | 13 => ⟨true, [0, 2, 3, 4, 5, 6, 7, 8, 9, 11, 12, 15, 38, 40, 48, 64, 67, 68, 69, 70, 88], false, fun | 5 => [(0, 2)] | _ => []⟩
  | 14 => ⟨true, [0, 2, 3, 4, 5, 6, 7, 8, 9, 10, 11, 12, 15, 27, 29, 37, 40, 41, 42, 46, 47, 48, 79, 91, 106, 115], false, fun | 19 => [(1, 10), (4, 10), (6, 10), (9, 10), (1, 11), (4, 11), (6, 11), (9, 11), (10, 11), (6, 12), (9, 12)] | _ => []⟩
  | 15 => ⟨true, [0, 2, 3, 4, 5, 6, 7, 8, 9, 11, 12, 13, 16, 37, 39, 47, 51, 52, 53, 54, 69, 83], false, fun _ => []⟩
  | 16 => ⟨true, [0, 2], false, fun _ => []⟩
  | 17 => ⟨true, [0, 1, 2, 3, 4, 5, 6, 7, 8, 37], false, fun | 6 => [(0, 9), (3, 9), (4, 9)] | _ => []⟩
  | 18 => ⟨true, [0, 2], false, fun _ => []⟩
  | 19 => ⟨true, [0, 1, 4, 5, 7, 17, 33], false, fun | 3 => [(0, 5)] | _ => []⟩
  | 20 => ⟨true, [0, 1, 4, 5, 19, 40], false, fun _ => []⟩
  | 21 => ⟨true, [0, 1, 2, 3, 6], false, fun _ => []⟩
  | 22 => ⟨true, [0, 1, 2, 6], false, fun _ => []⟩
  | 23 => ⟨true, [0, 1, 3, 4, 5, 6, 7, 8, 12, 16, 37, 38, 39, 44], false, fun | 7 => [(1, 3), (3, 5), (3, 7)] | 14 => [(2, 10), (5, 10), (7, 10)] | _ => []⟩
  | 24 => ⟨true, [0, 1, 2, 4, 5, 6, 7, 8, 9, 16, 53], false, fun | 8 => [(2, 9), (4, 9), (6, 9)] | _ => []⟩
  | 25 => ⟨true, [0, 1, 3, 4, 5, 9, 10, 16, 22, 28, 34, 50, 63, 70, 77, 82], false, fun | 12 => [(1, 8), (1, 9), (1, 11)] | 21 => [(1, 6), (1, 8)] | _ => []⟩
  | 26 => ⟨true, [0, 1, 3, 4, 34, 36, 37, 49, 60], false, fun _ => []⟩
  | 27 => ⟨true, [0, 1, 3, 4, 5, 47, 49, 50, 62, 83, 117, 120, 132], false, fun _ => []⟩
  | 28 => ⟨true, [0, 2, 5], false, fun _ => []⟩
  | 29 => ⟨true, [0, 2, 5], false, fun _ => []⟩
  | 30 => ⟨true, [0, 1, 3, 4, 5, 6, 7, 8, 9, 13, 17, 40, 46, 52], false, fun | 6 => [(4, 6), (4, 8)] | 16 => [(2, 10), (5, 10), (7, 10)] | _ => []⟩
  | 31 => ⟨true, [0, 1, 2, 3, 4, 5, 12, 17, 30], false, fun _ => []⟩
  | 32 => ⟨true, [0, 1, 4, 5, 10, 14, 26], false, fun _ => []⟩
  | 33 => ⟨true, [0, 1, 2, 4, 6], false, fun | 1 => [(2, 14), (3, 14), (4, 14), (8, 14), (10, 14), (2, 16), (3, 16), (4, 16), (8, 16), (10, 16), (2, 17), (3, 17), (4, 17), (8, 17), (10, 17), (2, 21), (3, 21), (4, 21), (8, 21), (10, 21), (17, 21), (18, 21), (2, 23), (3, 23), (4, 23), (8, 23), (10, 23), (17, 23), (18, 23), (2, 25), (3, 25), (4, 25), (8, 25), (10, 25), (17, 25), (18, 25), (2, 28), (3, 28), (4, 28), (8, 28), (10, 28), (17, 28), (18, 28), (2, 30), (3, 30), (4, 30), (8, 30), (10, 30), (14, 30), (16, 30), (17, 30), (18, 30), (2, 34), (3, 34), (4, 34), (8, 34), (10, 34), (17, 34), (18, 34), (30, 34), (31, 34), (2, 37), (3, 37), (4, 37), (8, 37), (10, 37), (17, 37), (18, 37), (30, 37), (31, 37), (2, 40), (3, 40), (4, 40), (8, 40), (10, 40), (14, 40), (16, 40), (17, 40), (18, 40), (21, 40), (23, 40), (25, 40), (28, 40), (30, 40), (31, 40), (2, 43), (3, 43), (4, 43), (8, 43), (10, 43), (17, 43), (18, 43), (30, 43), (31, 43), (40, 43), (41, 43), (2, 46), (3, 46), (4, 46), (8, 46), (10, 46), (17, 46), (18, 46), (30, 46), (31, 46), (40, 46), (41, 46), (44, 46)] | _ => []⟩
  | 34 => ⟨true, [0, 1, 2, 4, 5, 6, 7, 8, 9, 10, 15, 54], false, fun | 3 => [(1, 3), (0, 5), (1, 5), (3, 5), (4, 5)] | 7 => [(2, 9), (4, 9), (6, 9)] | _ => []⟩
  | 35 => ⟨true, [0, 1, 2, 3, 4], false, fun _ => []⟩
  | 36 => ⟨true, [0, 1, 2, 4, 5, 6, 13, 19, 38], false, fun _ => []⟩
  | 37 => ⟨true, [0, 1, 2, 4, 5, 6, 7, 8, 9, 16, 22, 41, 50, 57, 63], false, fun _ => []⟩
  | 38 => ⟨true, [0, 1, 2, 3, 6], false, fun _ => []⟩
  | 39 => ⟨true, [0, 1, 4, 5, 15], false, fun _ => []⟩
  | 40 => ⟨true, [0, 1, 4, 5, 15], false, fun _ => []⟩
  | 41 => ⟨true, [0, 1, 4], false, fun _ => []⟩
  | 42 => ⟨true, [0, 1, 3, 4, 5, 6, 7, 8, 31], false, fun | 6 => [(1, 12), (3, 12), (6, 12), (7, 12), (1, 13), (3, 13), (6, 13), (7, 13), (12, 13)] | _ => []⟩
  | 43 => ⟨true, [0, 1, 2, 3, 4, 5, 6, 7, 16, 49], false, fun _ => []⟩
  | 44 => ⟨true, [0, 1, 2, 4, 5, 6, 7, 8, 10, 17, 23, 55, 77, 81, 82, 83, 84, 89, 108], false, fun _ => []⟩
  | 45 => ⟨true, [0, 1, 2, 6], false, fun _ => []⟩
  | 46 => ⟨true, [0, 1, 3, 4, 5, 6, 7, 8, 17, 19, 20, 21, 22, 29, 45], false, fun | 8 => [(1, 12), (4, 12), (7, 12), (1, 14), (4, 14), (7, 14), (9, 14), (12, 14)] | _ => []⟩
  | 47 => ⟨true, [0, 1, 2, 4, 5, 6, 7, 8, 9, 10, 11, 12, 34, 51, 64, 74], false, fun | 4 => [(1, 3)] | 9 => [(1, 2)] | 14 => [(4, 10), (6, 10)] | 15 => [(1, 2)] | _ => []⟩
  | 48 => ⟨true, [0, 1, 4, 5, 26], false, fun _ => []⟩
  | 49 => ⟨true, [0, 1, 3, 4, 5, 9], false, fun _ => []⟩
  | 50 => ⟨true, [0, 1, 2, 3, 5, 15, 16, 17, 18], false, fun _ => []⟩
  | 51 => ⟨true, [0, 1, 4, 5, 10, 14, 25], false, fun _ => []⟩
  | 52 => ⟨true, [0, 1, 2, 4, 5, 6, 7, 8, 9, 10, 11, 12, 13, 14, 34, 52, 99, 122], false, fun | 3 => [(1, 3), (0, 5), (1, 5), (3, 5), (4, 5)] | 9 => [(1, 2)] | 17 => [(1, 2)] | _ => []⟩
  | 53 => ⟨true, [0, 1, 2, 4, 5, 6, 7, 8, 9, 10, 17, 23, 51, 73, 78, 87, 105], false, fun _ => []⟩
  | 54 => ⟨true, [0, 1, 2, 4, 5, 6, 7, 8, 14, 19, 25, 52], false, fun _ => []⟩
  | 55 => ⟨true, [0, 1, 2, 4, 5, 6, 7, 8, 9, 13, 17, 23, 35, 40, 63], false, fun _ => []⟩
  | 56 => ⟨true, [0, 1, 3, 4, 5, 6, 10], false, fun _ => []⟩
  | 57 => ⟨true, [0, 1, 3, 4, 5, 6, 7, 8, 17, 20, 26, 47], false, fun | 9 => [(1, 12), (4, 12), (7, 12), (1, 14), (4, 14), (7, 14), (9, 14), (12, 14)] | _ => []⟩
  | 58 => ⟨true, [0, 1, 4, 5, 26], false, fun _ => []⟩
  | 59 => ⟨true, [0, 1, 2, 3, 4, 15], false, fun _ => []⟩
  | 60 => ⟨true, [0, 1, 2, 3, 4, 5, 6, 7, 8, 36], false, fun _ => []⟩
  | 61 => ⟨true, [0, 2, 3, 4, 5, 6, 10, 15, 16, 17], false, fun _ => []⟩
  | 62 => ⟨true, [0, 1, 2, 4, 5, 6, 7, 12, 25, 30, 31, 38], false, fun _ => []⟩
  | 63 => ⟨true, [0, 1, 2, 3, 5, 6, 7, 8, 9, 10, 15, 34], false, fun | 5 => [(1, 13), (4, 13), (7, 13), (8, 13), (9, 13)] | _ => []⟩
  | 64 => ⟨true, [0, 1, 2, 4, 5, 6, 11, 20], false, fun | 7 => [(0, 9)] | _ => []⟩
  | 65 => ⟨true, [0, 1, 2, 3, 4, 8, 15], false, fun _ => []⟩
  | 66 => ⟨true, [0, 1, 2, 3, 5, 6, 9, 11, 12, 13, 14, 23], false, fun _ => []⟩
  | 67 => ⟨true, [0, 1, 2, 3, 6, 7, 8, 9, 19, 29, 37, 42], false, fun _ => []⟩
  | 68 => ⟨true, [0, 1, 2, 5], false, fun _ => []⟩
  | 69 => ⟨true, [0, 1, 4, 5, 10, 14, 25], false, fun _ => []⟩
  | 70 => ⟨true, [0, 1, 3, 4, 5, 6, 7, 8, 9, 10, 26, 35, 36, 45, 58, 67, 80, 88, 96, 105, 112, 126, 130], false, fun | 13 => [(0, 3)] | 33 => [(0, 6)] | _ => []⟩
  | 71 => ⟨true, [0, 1, 2, 3, 4, 5, 6, 7, 8, 27, 30, 50, 55, 83, 88, 122], false, fun _ => []⟩
  | 72 => ⟨true, [0, 2, 3, 4, 5, 6, 10, 17], false, fun _ => []⟩
  | 73 => ⟨true, [0, 1, 2, 4, 5, 6, 7, 8, 13, 26, 41], false, fun _ => []⟩
  | 74 => ⟨true, [0, 1, 3, 4, 5, 6, 7, 8, 9, 10, 26, 35, 38, 39, 47, 60, 69, 82, 90, 98, 106, 118, 124, 137], false, fun | 14 => [(0, 3)] | 32 => [(0, 5)] | 36 => [(0, 6)] | _ => []⟩
  | 75 => ⟨true, [0, 1, 2, 6], false, fun _ => []⟩
  | 76 => ⟨true, [0, 1, 2], false, fun | 1 => [(2, 4), (2, 7), (5, 7)] | _ => []⟩
  | 77 => ⟨true, [0, 1, 3, 4, 5, 7, 9, 10, 11, 12, 15, 22], false, fun | 9 => [(1, 3)] | _ => []⟩
  | 78 => ⟨true, [0, 1, 2, 3, 5, 6, 8], false, fun _ => []⟩
  | 79 => ⟨true, [0, 1, 2, 4, 9], false, fun _ => []⟩
  | 80 => ⟨true, [0, 1, 2], false, fun | 1 => [(2, 4), (2, 7), (5, 7)] | _ => []⟩
  | 81 => ⟨true, [0, 1, 2, 6], false, fun _ => []⟩
  | 82 => ⟨true, [0, 1, 2, 3, 5, 7, 8, 9, 10, 19], false, fun _ => []⟩
  | 83 => ⟨true, [0, 1, 3, 4], false, fun _ => []⟩
  | 84 => ⟨true, [0, 1, 3, 4], false, fun _ => []⟩
  | 85 => ⟨true, [0, 1, 4, 5, 6, 10, 28], false, fun _ => []⟩
  | 86 => ⟨true, [0, 1, 3, 4], false, fun | 1 => [(1, 3)] | _ => []⟩
  | 87 => ⟨true, [0, 1, 4, 5, 10, 14, 25], false, fun _ => []⟩
  | 88 => ⟨true, [0, 1, 2, 3, 5, 6, 8], false, fun _ => []⟩
  | 89 => ⟨true, [0, 1, 2, 4, 8], false, fun _ => []⟩
  | 90 => ⟨true, [0, 2, 3], false, fun _ => []⟩
  | 91 => ⟨true, [0, 2, 4], false, fun _ => []⟩
  | 92 => ⟨true, [0, 1, 2, 3, 4], false, fun _ => []⟩
  | 93 => ⟨true, [0, 1, 2, 3, 4, 5, 6, 7, 8, 9, 11, 44, 51, 68, 69, 70, 71, 84], false, fun | 7 => [(4, 6)] | _ => []⟩
  | 94 => ⟨true, [0, 1, 2, 6, 7, 8, 9, 13, 35], false, fun _ => []⟩
  | 95 => ⟨true, [0, 1, 4], false, fun _ => []⟩
  | 96 => ⟨true, [0, 1, 2, 3], true, fun _ => []⟩
  | 97 => ⟨true, [0, 1, 2, 4, 5, 6, 14], false, fun _ => []⟩
  | 98 => ⟨true, [0, 1, 2, 3, 4, 5, 6, 7, 10, 12, 13, 14, 15, 44], false, fun _ => []⟩
  | 99 => ⟨true, [0, 1, 2, 6], false, fun _ => []⟩
  | 100 => ⟨true, [0, 1, 2, 4, 5, 13, 19], false, fun _ => []⟩
  | 101 => ⟨true, [0, 1, 2, 3, 4, 23, 24, 25, 40, 41, 42], false, fun | 1 => [(2, 4), (2, 7), (5, 7), (2, 10), (5, 10), (8, 10)] | 5 => [(1, 8)] | 10 => [(1, 9)] | _ => []⟩
  | 102 => ⟨true, [0, 1, 2, 4, 5, 6, 7, 8, 9, 14, 33], false, fun | 5 => [(1, 13), (4, 13), (7, 13), (8, 13)] | _ => []⟩
  | 103 => ⟨true, [0, 1, 2, 6], false, fun _ => []⟩
  | 104 => ⟨true, [0, 1, 2, 4, 5, 12], false, fun _ => []⟩
  | 105 => ⟨true, [0, 1, 2, 4, 5, 6, 7, 8, 9, 10, 11, 12, 20, 43, 55, 56, 66, 72, 82, 94], false, fun | 7 => [(1, 9), (4, 9), (6, 9), (8, 9)] | _ => []⟩
  | 106 => ⟨true, [0, 1, 2, 3, 4, 5, 7, 8, 9, 28, 30, 31, 32, 33, 46, 49, 50, 51, 52, 75, 78, 79, 80, 81, 109], false, fun _ => []⟩
  | 107 => ⟨true, [0, 1, 2, 3, 6, 9, 14], false, fun _ => []⟩
  | 108 => ⟨true, [0, 1, 3, 4], false, fun _ => []⟩
  | 109 => ⟨true, [0, 1, 2, 4, 5, 6, 14], false, fun _ => []⟩
  | 110 => ⟨true, [0, 1, 2, 4, 5, 6, 7, 15], false, fun _ => []⟩
  | 111 => ⟨true, [0, 1, 2, 4, 5, 6, 14, 21], false, fun _ => []⟩
  | 112 => ⟨true, [0, 1, 2, 4, 5, 6, 14, 22], false, fun | 8 => [(1, 11)] | _ => []⟩
  | 113 => ⟨true, [0, 1, 2, 6, 7, 11, 25], false, fun _ => []⟩
  | 114 => ⟨true, [0, 1, 2, 4, 5, 9], false, fun _ => []⟩
  | 115 => ⟨true, [0, 1, 2, 3, 4, 5, 6, 11, 29], false, fun | 5 => [(1, 7), (1, 8)] | 12 => [(2, 4)] | _ => []⟩
  | 116 => ⟨true, [0, 1, 2, 4, 5, 6, 7, 8, 9, 10, 15, 22, 40, 49], false, fun | 7 => [(1, 13), (4, 13), (7, 13), (8, 13)] | 12 => [(1, 7), (3, 7)] | _ => []⟩
  | 117 => ⟨true, [0, 1, 2, 4, 5, 6, 7, 8, 13, 20, 28, 47], false, fun _ => []⟩
  | 118 => ⟨true, [0, 1, 2, 3, 5, 6, 7, 8, 9, 10, 11, 16, 23, 41], false, fun | 7 => [(1, 13), (4, 13), (7, 13), (8, 13), (9, 13)] | _ => []⟩
  | 119 => ⟨true, [0, 1, 2, 4, 5, 6, 7, 12], false, fun | 5 => [(4, 6)] | _ => []⟩
  | 120 => ⟨true, [0, 1, 2, 4, 5, 6, 7, 12, 18], false, fun | 7 => [(1, 3), (1, 8)] | _ => []⟩
  | 121 => ⟨true, [0, 1, 2, 4, 5, 6, 7, 12, 19], false, fun _ => []⟩
  | 122 => ⟨true, [0, 1, 2, 4, 5, 6, 7, 12, 20], false, fun | 8 => [(1, 11)] | _ => []⟩
  | 123 => ⟨true, [0, 1, 2, 3, 6], false, fun _ => []⟩
  | 124 => ⟨true, [0, 1, 2, 3, 6, 7, 8, 9, 14, 17, 26, 31], false, fun _ => []⟩
  | 125 => ⟨true, [0, 2, 4], false, fun _ => []⟩
  | 126 => ⟨true, [0, 2, 4], false, fun _ => []⟩
  | 127 => ⟨true, [0, 1, 4], false, fun _ => []⟩
  | 128 => ⟨true, [0, 1, 3], true, fun _ => []⟩
  | 129 => ⟨true, [0, 1, 4, 5, 7, 8, 9, 16], false, fun _ => []⟩
  | 130 => ⟨true, [0, 1, 2, 4, 5, 6, 7, 8, 9, 10, 55, 79], false, fun | 3 => [(0, 2)] | 6 => [(2, 16), (5, 16), (7, 16), (9, 16), (10, 16), (11, 16), (2, 17), (5, 17), (7, 17), (9, 17), (10, 17), (11, 17), (16, 17)] | _ => []⟩
  | 131 => ⟨true, [0, 2, 4], false, fun _ => []⟩
  | 132 => ⟨true, [0, 2, 4], false, fun _ => []⟩
  | 133 => ⟨true, [0, 2, 4], false, fun _ => []⟩
  | 134 => ⟨true, [0, 1, 3, 4, 5, 7, 8, 9, 16], false, fun _ => []⟩
  | 135 => ⟨true, [0, 1, 2, 6, 7, 16], false, fun _ => []⟩
  | 136 => ⟨true, [0, 1, 2, 4, 5, 9], false, fun _ => []⟩
  | 137 => ⟨true, [0, 1, 4, 5, 7, 8, 9, 16], false, fun _ => []⟩
  | 138 => ⟨true, [0, 1], false, fun _ => []⟩
  | 139 => ⟨true, [0, 1, 2], true, fun _ => []⟩
  | 140 => ⟨true, [0, 1, 2, 3, 5, 6, 7, 8, 9], true, fun _ => []⟩
  | _ => ⟨false, [], false, fun _ => []⟩

theorem good : Abs.Good Try.prog note := Abs.good_of (by kernel_rfl)

theorem foll : (Try.prog).follows .mixedOrders = true := by kernel_rfl

/- pagewatch/pagewatchmade.Light -/
def i16 : Abs.Sg := ⟨[0], (.dat (.row (.int .i64)) .nil), .nil⟩

def o16 : Abs.Sg := ⟨[2], (.dat .bool .nil), .nil⟩

def m16 (v : (((List Int) × Unit) × (Unit))) : Option Y14 :=
some (((decide (((v.1.1.length : Int) : Int) ≤ 500)), ()), ())

def sp16 : Abs.Spec := ⟨0, i16, o16, m16⟩

def an16 : Nat → Abs.FAn
  | _ => {}

theorem ok16 : Abs.SpecOK Try.prog 16 sp16 :=
  Abs.specOK_of (n := 12) (an := an16) (T := Abs.tabOf []) good foll (Abs.tabOf_ok _ (fun _ h => by cases h)) rfl (by intro v; kernel_rfl)

/- pagewatch/vote.in -/
def i81 : Abs.Sg := ⟨[0, 1, 2], (.dat (.int .i64) (.dat (.int .i64) (.dat (.int .i64) .nil))), .nil⟩

def o81 : Abs.Sg := ⟨[6], (.dat .bool .nil), .nil⟩

def m81 (v : (Y20 × (Unit))) : Option Y14 :=
((bif (decide ((v.1.1 : Int) ≥ v.1.2.1)) then (some (((decide ((v.1.1 : Int) ≤ v.1.2.2.1)), ()), ()))
else (some ((false, ()), ()))) : Option Y14).bind fun v1 =>
some ((v1.1.1, ()), ())

def sp81 : Abs.Spec := ⟨0, i81, o81, m81⟩

def an81 : Nat → Abs.FAn
  | 0 => Abs.FAn.mk (fun
    | 1 => some ⟨[6], (.dat .bool .nil), .nil⟩
    | _ => none) (fun _ => none) (fun _ => none) (fun _ _ => 0)
  | _ => {}

theorem ok81 : Abs.SpecOK Try.prog 81 sp81 :=
  Abs.specOK_of (n := 12) (an := an81) (T := Abs.tabOf []) good foll (Abs.tabOf_ok _ (fun _ h => by cases h)) rfl (by intro v; kernel_rfl)

/- pagewatch/vote.New -/
def i39 : Abs.Sg := ⟨[0, 1], (.dat (.int .i64) (.dat (.int .i64) .nil)), .nil⟩

def o39 : Abs.Sg := ⟨[4, 5], (.st (.ptr (0, 0) 8 0 0) (.dat (.int .i64) .nil)), (.box 8 (.agg (.dat (.int .i64) (.dat (.int .i64) (.dat (.int .i64) (.dat (.int .i64) (.st .nil (.dat (.int .i64) (.st .nil (.st .nil .nil)))))))) .nil) .nil)⟩

def m39 (v : ((Int × Int × Unit) × (Unit))) : Option ((Int × Unit) × (Y11 × Unit)) :=
(((m81 ((v.1.2.1, (1, (5, ()))), ())).bind fun u11 =>
bif (!u11.1.1) then (some ((true, (v.1.1, ())), (((0, (0, (0, (0, (0, ()))))), ()), ())))
else ((m81 ((v.1.1, (0, ((w64 (v.1.2.1 - 1)), ()))), ())).bind fun u12 =>
some (((!u12.1.1), (v.1.1, ())), (((0, (0, (0, (0, (0, ()))))), ()), ())))) : Option ((Bool × Int × Unit) × (Y11 × Unit))).bind fun v13 =>
bif v13.1.1 then (some ((1, ()), (((0, (0, (0, (0, (0, ()))))), ()), ())))
else (some ((0, ()), (((v13.1.2.1, (0, ((-1), (0, (0, ()))))), ()), ())))

def sp39 : Abs.Spec := ⟨0, i39, o39, m39⟩

def an39 : Nat → Abs.FAn
  | 0 => Abs.FAn.mk (fun
    | 1 => some ⟨[15, 4, 0], (.dat .bool (.st (.ptr (0, 0) 8 0 0) (.dat (.int .i64) .nil))), (.box 8 (.agg (.dat (.int .i64) (.dat (.int .i64) (.dat (.int .i64) (.dat (.int .i64) (.st .nil (.dat (.int .i64) (.st .nil (.st .nil .nil)))))))) .nil) .nil)⟩
    | _ => none) (fun _ => none) (fun _ => none) (fun _ _ => 0)
  | _ => {}

theorem ok39 : Abs.SpecOK Try.prog 39 sp39 :=
  Abs.specOK_of (n := 12) (an := an39) (T := Abs.tabOf [(81, sp81)]) good foll (Abs.tabOf_ok _ (by simp only [List.forall_mem_cons]; exact ⟨ok81, fun _ h => by cases h⟩)) rfl (by intro v; kernel_rfl)

def l82_0_3 (v : ((Int × Int × Y2 × Int × Unit) × ((Y5 × Unit) × Unit))) : Option (((Int × Int × Y2 × Int × Unit) × ((Y5 × Unit) × Unit)) ⊕ (Y14 ⊕ ((Unit) × ((Y5 × Unit) × Unit)))) :=
bif (decide ((v.1.1 : Int) < v.1.2.2.2.1)) then (Abs.rowAt v.1.2.2.1 v.1.1 fun e25 _ =>
(m81 ((e25.1, (v.1.2.1, (v.2.1.1.2.1, ()))), ())).bind fun u26 =>
bif (!u26.1.1) then (some (.inr (.inl ((false, ()), ()))))
else (some (.inl (((w64 (v.1.1 + 1)), (e25.1, (v.1.2.2.1, (v.1.2.2.2.1, ())))), ((v.2.1.1, ()), ())))))
else (some (.inr (.inr ((), ((v.2.1.1, ()), ())))))

/- pagewatch/vote.logged -/
def i82 : Abs.Sg := ⟨[0], (.dat Z3 .nil), .nil⟩

def o82 : Abs.Sg := ⟨[2], (.dat .bool .nil), .nil⟩

def m82 (v : ((Y5 × Unit) × (Unit))) : Option Y14 :=
(loopT l82_0_3 ((0, (1, (v.1.1.2.2.2.2.1, ((v.1.1.2.2.2.2.1.length : Int), ())))), ((v.1.1, ()), ()))).bind fun d27 =>
sumE d27 (fun d28 => (some ((d28.1.1, ()), ()))) (fun d29 => (((let x30 := (decide (((d29.2.1.1.2.2.2.2.1.length : Int) : Int) ≤ 256))
bif x30 then ((m81 ((d29.2.1.1.2.2.2.2.2.1, (0, ((d29.2.1.1.2.2.2.2.1.length : Int), ()))), ())).bind fun u31 =>
some ((u31.1.1, ()), ()))
else (some ((false, ()), ()))) : Option Y14).bind fun v32 =>
some ((v32.1.1, ()), ())))

def sp82 : Abs.Spec := ⟨0, i82, o82, m82⟩

def an82 : Nat → Abs.FAn
  | 0 => Abs.FAn.mk (fun
    | 9 => some ⟨[2], (.dat .bool .nil), .nil⟩
    | _ => none) (fun _ => none) (fun
    | 3 => some ⟨⟨[9, 1, 3, 7, 8], (.dat (.int .i64) (.st (.ptr (0, 0) 8 0 0) (.dat (.int .i64) (.dat (.row Z1) (.dat (.int .i64) .nil))))), (.box 8 (.dat Z3 .nil) .nil)⟩, (.more .ret ⟨[2], (.dat .bool .nil), .nil⟩ (.one (.exit 0) ⟨[1], (.st (.ptr (0, 0) 8 0 0) .nil), (.box 8 (.dat Z3 .nil) .nil)⟩))⟩
    | _ => none) (fun _ _ => 0)
  | _ => {}

theorem ok82 : Abs.SpecOK Try.prog 82 sp82 :=
  Abs.specOK_of (n := 12) (an := an82) (T := Abs.tabOf [(81, sp81)]) good foll (Abs.tabOf_ok _ (by simp only [List.forall_mem_cons]; exact ⟨ok81, fun _ h => by cases h⟩)) rfl (by intro v; kernel_rfl)

/- pagewatch/vote.votes -/
def i83 : Abs.Sg := ⟨[0, 1], (.dat (.int .i64) (.dat Z3 .nil)), .nil⟩

def o83 : Abs.Sg := ⟨[4], (.dat .bool .nil), .nil⟩

def m83 (v : ((Int × Y5 × Unit) × (Unit))) : Option Y14 :=
((let x5 := (((v.1.2.1.2.2.2.2.2.2.1.length : Int) : Int) == v.1.1)
bif x5 then (Abs.rowAt v.1.2.1.2.2.2.2.2.2.1 v.1.2.1.1 fun e6 _ =>
some ((e6, ()), ()))
else (some ((false, ()), ()))) : Option Y14).bind fun v7 =>
some ((v7.1.1, ()), ())

def sp83 : Abs.Spec := ⟨0, i83, o83, m83⟩

def an83 : Nat → Abs.FAn
  | 0 => Abs.FAn.mk (fun
    | 1 => some ⟨[4], (.dat .bool .nil), .nil⟩
    | _ => none) (fun _ => none) (fun _ => none) (fun _ _ => 0)
  | _ => {}

theorem ok83 : Abs.SpecOK Try.prog 83 sp83 :=
  Abs.specOK_of (n := 12) (an := an83) (T := Abs.tabOf []) good foll (Abs.tabOf_ok _ (fun _ h => by cases h)) rfl (by intro v; kernel_rfl)

/- 128 pagewatch/vote.matches$1: not told by a law: a closure -/

/- 137 slices.IndexFunc[[]int,int]: not told by a law: a parameter -/

/- 127 slices.ContainsFunc[[]int,int]: not told by a law: a parameter -/

def l84_2_2 (v : ((Int × (List Int) × Int × Unit) × ((Y5 × Unit) × Unit))) : Option (((Int × (List Int) × Int × Unit) × ((Y5 × Unit) × Unit)) ⊕ (((Int × Unit) × ((Y5 × Unit) × Unit)) ⊕ ((Unit) × ((Y5 × Unit) × Unit)))) :=
bif (decide ((v.1.1 : Int) < v.1.2.2.1)) then (Abs.rowAt v.1.2.1 v.1.1 fun e41 _ =>
(m81 ((e41, (0, ((v.2.1.1.2.2.2.2.1.length : Int), ()))), ())).bind fun u42 =>
bif (!u42.1.1) then (some (.inr (.inl ((v.1.1, ()), ((v.2.1.1, ()), ())))))
else (some (.inl (((w64 (v.1.1 + 1)), (v.1.2.1, (v.1.2.2.1, ()))), ((v.2.1.1, ()), ())))))
else (some (.inr (.inr ((), ((v.2.1.1, ()), ())))))

/- pagewatch/vote.matches -/
def i84 : Abs.Sg := ⟨[0, 1], (.dat (.int .i64) (.dat Z3 .nil)), .nil⟩

def o84 : Abs.Sg := ⟨[4], (.dat .bool .nil), .nil⟩

def m84 (v : ((Int × Y5 × Unit) × (Unit))) : Option Y14 :=
((let x38 := (((v.1.2.1.2.2.2.2.2.2.2.1.length : Int) : Int) == v.1.1)
bif x38 then (Abs.rowAt v.1.2.1.2.2.2.2.2.2.2.1 v.1.2.1.1 fun e39 _ =>
let x40 := ((e39 : Int) == (v.1.2.1.2.2.2.2.1.length : Int))
bif x40 then ((((loopT l84_2_2 ((0, (v.1.2.1.2.2.2.2.2.2.2.1, ((v.1.2.1.2.2.2.2.2.2.2.1.length : Int), ()))), ((v.1.2.1, ()), ()))).bind fun d43 =>
sumE d43 (fun d44 => (some (((decide ((d44.1.1 : Int) ≥ 0)), ()), ((d44.2.1.1, ()), ())))) (fun d45 => (some ((false, ()), ((d45.2.1.1, ()), ()))))) : Option ((Bool × Unit) × ((Y5 × Unit) × Unit))).bind fun v46 =>
some (((!v46.1.1), ()), ()))
else (some ((false, ()), ())))
else (some ((false, ()), ()))) : Option Y14).bind fun v47 =>
some ((v47.1.1, ()), ())

def sp84 : Abs.Spec := ⟨0, i84, o84, m84⟩

def an84 : Nat → Abs.FAn
  | 0 => Abs.FAn.mk (fun
    | 1 => some ⟨[4], (.dat .bool .nil), .nil⟩
    | _ => none) (fun _ => none) (fun _ => none) (fun
    | 1, 21 => 1
    | _, _ => 0)
  | 1 => Abs.FAn.mk (fun
    | 1 => some ⟨[4], (.dat .bool .nil), (.box 8 (.dat Z3 .nil) .nil)⟩
    | _ => none) (fun _ => none) (fun _ => none) (fun
    | 1, 2 => 2
    | _, _ => 0)
  | 2 => Abs.FAn.mk (fun _ => none) (fun _ => none) (fun
    | 2 => some ⟨⟨[8, 0, 1, 7], (.dat (.int .i64) (.dat (.row (.int .i64)) (.st (.clo 128 [((0, 0), 8, 0, 0)]) (.dat (.int .i64) .nil)))), (.box 8 (.dat Z3 .nil) .nil)⟩, (.more .ret ⟨[4], (.dat (.int .i64) .nil), (.box 8 (.dat Z3 .nil) .nil)⟩ (.one (.exit 0) ⟨[], .nil, (.box 8 (.dat Z3 .nil) .nil)⟩))⟩
    | _ => none) (fun
    | 4, 5 => 3
    | _, _ => 0)
  | _ => {}

theorem ok84 : Abs.SpecOK Try.prog 84 sp84 :=
  Abs.specOK_of (n := 12) (an := an84) (T := Abs.tabOf [(81, sp81)]) good foll (Abs.tabOf_ok _ (by simp only [List.forall_mem_cons]; exact ⟨ok81, fun _ h => by cases h⟩)) rfl (by intro v; kernel_rfl)

/- pagewatch/vote.Check -/
def i26 : Abs.Sg := ⟨[0, 1], (.dat (.int .i64) (.dat Z3 .nil)), .nil⟩

def o26 : Abs.Sg := ⟨[4], (.dat .bool .nil), .nil⟩

def m26 (v : ((Int × Y5 × Unit) × (Unit))) : Option Y14 :=
(((m81 ((v.1.1, (1, (5, ()))), ())).bind fun u47 =>
bif (!u47.1.1) then (some ((true, (v.1.1, ())), ((v.1.2.1, ()), ())))
else ((m81 ((v.1.2.1.1, (0, ((w64 (v.1.1 - 1)), ()))), ())).bind fun u48 =>
bif (!u48.1.1) then (some ((true, (v.1.1, ())), ((v.1.2.1, ()), ())))
else ((m81 ((v.1.2.1.2.1, (0, (1048576, ()))), ())).bind fun u49 =>
bif (!u49.1.1) then (some ((true, (v.1.1, ())), ((v.1.2.1, ()), ())))
else ((m81 ((v.1.2.1.2.2.1, ((-1), ((w64 (v.1.1 - 1)), ()))), ())).bind fun u50 =>
bif (!u50.1.1) then (some ((true, (v.1.1, ())), ((v.1.2.1, ()), ())))
else ((m82 ((v.1.2.1, ()), ())).bind fun u51 =>
some (((!u51.1.1), (v.1.1, ())), ((v.1.2.1, ()), ()))))))) : Option ((Bool × Int × Unit) × ((Y5 × Unit) × Unit))).bind fun v52 =>
bif v52.1.1 then (some ((false, ()), ()))
else (bif ((v52.2.1.1.2.2.2.1 : Int) == 0) then (((let x53 := (((v52.2.1.1.2.2.2.2.2.2.1.length : Int) : Int) == 0)
bif x53 then (let x54 := (((v52.2.1.1.2.2.2.2.2.2.2.1.length : Int) : Int) == 0)
some ((x54, ()), ()))
else (some ((false, ()), ()))) : Option Y14).bind fun v55 =>
some ((v55.1.1, ()), ()))
else (bif ((v52.2.1.1.2.2.2.1 : Int) == 1) then ((((m83 ((v52.1.2.1, (v52.2.1.1, ())), ())).bind fun u56 =>
bif u56.1.1 then (let x57 := (((v52.2.1.1.2.2.2.2.2.2.2.1.length : Int) : Int) == 0)
some ((x57, ()), ()))
else (some ((false, ()), ()))) : Option Y14).bind fun v58 =>
some ((v58.1.1, ()), ()))
else (bif ((v52.2.1.1.2.2.2.1 : Int) == 2) then ((((m83 ((v52.1.2.1, (v52.2.1.1, ())), ())).bind fun u59 =>
bif u59.1.1 then ((m84 ((v52.1.2.1, (v52.2.1.1, ())), ())).bind fun u60 =>
some ((u60.1.1, ()), ()))
else (some ((false, ()), ()))) : Option Y14).bind fun v61 =>
some ((v61.1.1, ()), ()))
else (some ((false, ()), ())))))

def sp26 : Abs.Spec := ⟨0, i26, o26, m26⟩

def an26 : Nat → Abs.FAn
  | 0 => Abs.FAn.mk (fun
    | 9 => some ⟨[4], (.dat .bool .nil), .nil⟩
    | 7 => some ⟨[4], (.dat .bool .nil), .nil⟩
    | 5 => some ⟨[4], (.dat .bool .nil), .nil⟩
    | 1 => some ⟨[34, 3, 0], (.dat .bool (.st (.ptr (0, 0) 8 0 0) (.dat (.int .i64) .nil))), (.box 8 (.dat Z3 .nil) .nil)⟩
    | _ => none) (fun _ => none) (fun _ => none) (fun _ _ => 0)
  | _ => {}

theorem ok26 : Abs.SpecOK Try.prog 26 sp26 :=
  Abs.specOK_of (n := 12) (an := an26) (T := Abs.tabOf [(81, sp81), (82, sp82), (83, sp83), (84, sp84)]) good foll (Abs.tabOf_ok _ (by simp only [List.forall_mem_cons]; exact ⟨ok81, ok82, ok83, ok84, fun _ h => by cases h⟩)) rfl (by intro v; kernel_rfl)

/- slices.Clone[[]pagewatch/api.Entry,pagewatch/api.Entry]: the copy of a row -/
def i91 : Abs.Sg := ⟨[0], (.dat (.row Z1) .nil), .nil⟩

def o91 : Abs.Sg := ⟨[2], (.st (.own Z1 (0, 0)) .nil), (.arr Z1 false .nil)⟩

def m91 (v : ((Y2 × Unit) × (Unit))) : Option ((Unit) × (Y2 × Unit)) :=
bif (decide (v.1.1.length ≤ 4294967296)) then some ((), (v.1.1, ())) else none

def sp91 : Abs.Spec := ⟨0, i91, o91, m91⟩

theorem ok91 : Abs.SpecOK Try.prog 91 sp91 :=
  Abs.clone_ok (N := note) (t := Z1) foll (Abs.specOK_of (n := 12) (an := fun _ => {}) (T := Abs.tabOf []) good foll (Abs.tabOf_ok _ (fun _ h => by cases h)) rfl (by intro v; kernel_rfl)) (by kernel_rfl) (by kernel_rfl)

/- slices.Clone[[]bool,bool]: the copy of a row -/
def i125 : Abs.Sg := ⟨[0], (.dat (.row .bool) .nil), .nil⟩

def o125 : Abs.Sg := ⟨[2], (.st (.own .bool (0, 0)) .nil), (.arr .bool false .nil)⟩

def m125 (v : (((List Bool) × Unit) × (Unit))) : Option ((Unit) × ((List Bool) × Unit)) :=
bif (decide (v.1.1.length ≤ 4294967296)) then some ((), (v.1.1, ())) else none

def sp125 : Abs.Spec := ⟨0, i125, o125, m125⟩

theorem ok125 : Abs.SpecOK Try.prog 125 sp125 :=
  Abs.clone_ok (N := note) (t := .bool) foll (Abs.specOK_of (n := 12) (an := fun _ => {}) (T := Abs.tabOf []) good foll (Abs.tabOf_ok _ (fun _ h => by cases h)) rfl (by intro v; kernel_rfl)) (by kernel_rfl) (by kernel_rfl)

/- slices.Clone[[]int,int]: the copy of a row -/
def i126 : Abs.Sg := ⟨[0], (.dat (.row (.int .i64)) .nil), .nil⟩

def o126 : Abs.Sg := ⟨[2], (.st (.own (.int .i64) (0, 0)) .nil), (.arr (.int .i64) false .nil)⟩

def m126 (v : (((List Int) × Unit) × (Unit))) : Option ((Unit) × ((List Int) × Unit)) :=
bif (decide (v.1.1.length ≤ 4294967296)) then some ((), (v.1.1, ())) else none

def sp126 : Abs.Spec := ⟨0, i126, o126, m126⟩

theorem ok126 : Abs.SpecOK Try.prog 126 sp126 :=
  Abs.clone_ok (N := note) (t := (.int .i64)) foll (Abs.specOK_of (n := 12) (an := fun _ => {}) (T := Abs.tabOf []) good foll (Abs.tabOf_ok _ (fun _ h => by cases h)) rfl (by intro v; kernel_rfl)) (by kernel_rfl) (by kernel_rfl)

/- pagewatch/vote.Copied -/
def i76 : Abs.Sg := ⟨[0], (.dat Z3 .nil), .nil⟩

def o76 : Abs.Sg := ⟨[2], (.st (.ptr (0, 0) 8 0 0) .nil), (.box 8 (.agg (.dat (.int .i64) (.dat (.int .i64) (.dat (.int .i64) (.dat (.int .i64) (.st (.own Z1 (1, 0)) (.dat (.int .i64) (.st (.own .bool (2, 0)) (.st (.own (.int .i64) (3, 0)) .nil)))))))) .nil) (.arr Z1 false (.arr .bool false (.arr (.int .i64) false .nil))))⟩

def m76 (v : ((Y5 × Unit) × (Unit))) : Option ((Unit) × (Y11 × Y2 × (List Bool) × (List Int) × Unit)) :=
(m91 ((v.1.1.2.2.2.2.1, ()), ())).bind fun u9 =>
(m125 ((v.1.1.2.2.2.2.2.2.1, ()), ())).bind fun u10 =>
(m126 ((v.1.1.2.2.2.2.2.2.2.1, ()), ())).bind fun u11 =>
some ((), (((v.1.1.1, (v.1.1.2.1, (v.1.1.2.2.1, (v.1.1.2.2.2.1, (v.1.1.2.2.2.2.2.1, ()))))), ()), (u9.2.1, (u10.2.1, (u11.2.1, ())))))

def sp76 : Abs.Spec := ⟨0, i76, o76, m76⟩

def an76 : Nat → Abs.FAn
  | _ => {}

theorem ok76 : Abs.SpecOK Try.prog 76 sp76 :=
  Abs.specOK_of (n := 12) (an := an76) (T := Abs.tabOf [(91, sp91), (125, sp125), (126, sp126)]) good foll (Abs.tabOf_ok _ (by simp only [List.forall_mem_cons]; exact ⟨ok91, ok125, ok126, fun _ h => by cases h⟩)) rfl (by intro v; kernel_rfl)

/- pagewatch/vote.last -/
def i75 : Abs.Sg := ⟨[0], (.dat Z3 .nil), .nil⟩

def o75 : Abs.Sg := ⟨[2], (.dat (.int .i64) .nil), .nil⟩

def m75 (v : ((Y5 × Unit) × (Unit))) : Option ((Int × Unit) × (Unit)) :=
bif (((v.1.1.2.2.2.2.1.length : Int) : Int) == 0) then (some ((0, ()), ()))
else (Abs.rowAt v.1.1.2.2.2.2.1 (w64 ((v.1.1.2.2.2.2.1.length : Int) - 1)) fun e2 _ =>
some ((e2.1, ()), ()))

def sp75 : Abs.Spec := ⟨0, i75, o75, m75⟩

def an75 : Nat → Abs.FAn
  | _ => {}

theorem ok75 : Abs.SpecOK Try.prog 75 sp75 :=
  Abs.specOK_of (n := 12) (an := an75) (T := Abs.tabOf []) good foll (Abs.tabOf_ok _ (fun _ h => by cases h)) rfl (by intro v; kernel_rfl)

/- pagewatch/vote.Quorum -/
def i28 : Abs.Sg := ⟨[0], (.dat (.int .i64) .nil), .nil⟩

def o28 : Abs.Sg := ⟨[2], (.dat (.int .i64) .nil), .nil⟩

def m28 (v : ((Int × Unit) × (Unit))) : Option ((Int × Unit) × (Unit)) :=
(m81 ((v.1.1, (1, (5, ()))), ())).bind fun u4 =>
bif (!u4.1.1) then (some ((0, ()), ()))
else (some (((w64 ((w64 ((v.1.1 : Int).tdiv 2)) + 1)), ()), ()))

def sp28 : Abs.Spec := ⟨0, i28, o28, m28⟩

def an28 : Nat → Abs.FAn
  | _ => {}

theorem ok28 : Abs.SpecOK Try.prog 28 sp28 :=
  Abs.specOK_of (n := 12) (an := an28) (T := Abs.tabOf [(81, sp81)]) good foll (Abs.tabOf_ok _ (by simp only [List.forall_mem_cons]; exact ⟨ok81, fun _ h => by cases h⟩)) rfl (by intro v; kernel_rfl)

def l77_0_3 (v : ((Int × Int × (List Bool) × Int × Int × Unit) × (Y11 × (Y5 × Unit) × Unit))) : Option (((Int × Int × (List Bool) × Int × Int × Unit) × (Y11 × (Y5 × Unit) × Unit)) ⊕ ((Int × Int × Unit) × (Y11 × (Y5 × Unit) × Unit))) :=
bif (decide ((v.1.1 : Int) < v.1.2.2.2.2.1)) then (((Abs.rowAt v.1.2.2.1 v.1.1 fun e17 _ =>
bif e17 then (some (((w64 (v.1.2.1 + 1)), (v.1.2.2.1, (v.1.2.2.2.1, (v.1.2.2.2.2.1, (v.1.1, ()))))), (((v.2.1.1.1, (v.2.1.1.2.1, (v.2.1.1.2.2.1, (v.2.1.1.2.2.2.1, (v.2.1.1.2.2.2.2.1, ()))))), ()), ((v.2.2.1.1, ()), ()))))
else (some ((v.1.2.1, (v.1.2.2.1, (v.1.2.2.2.1, (v.1.2.2.2.2.1, (v.1.1, ()))))), (((v.2.1.1.1, (v.2.1.1.2.1, (v.2.1.1.2.2.1, (v.2.1.1.2.2.2.1, (v.2.1.1.2.2.2.2.1, ()))))), ()), ((v.2.2.1.1, ()), ()))))) : Option ((Int × (List Bool) × Int × Int × Int × Unit) × (Y11 × (Y5 × Unit) × Unit))).bind fun v18 =>
some (.inl (((w64 (v18.1.2.2.2.2.1 + 1)), (v18.1.1, (v18.1.2.1, (v18.1.2.2.1, (v18.1.2.2.2.1, ()))))), (((v18.2.1.1.1, (v18.2.1.1.2.1, (v18.2.1.1.2.2.1, (v18.2.1.1.2.2.2.1, (v18.2.1.1.2.2.2.2.1, ()))))), ()), ((v18.2.2.1.1, ()), ())))))
else (some (.inr ((v.1.2.2.2.1, (v.1.2.1, ())), (((v.2.1.1.1, (v.2.1.1.2.1, (v.2.1.1.2.2.1, (v.2.1.1.2.2.2.1, (v.2.1.1.2.2.2.2.1, ()))))), ()), ((v.2.2.1.1, ()), ())))))

/- pagewatch/vote.lead -/
def i77 : Abs.Sg := ⟨[0, 1], (.dat (.int .i64) (.dat Z3 .nil)), .nil⟩

def o77 : Abs.Sg := ⟨[4], (.st (.ptr (0, 0) 8 0 0) .nil), (.box 8 (.dat Z3 .nil) .nil)⟩

def m77 (v : ((Int × Y5 × Unit) × (Unit))) : Option ((Unit) × ((Y5 × Unit) × Unit)) :=
(loopT l77_0_3 ((0, (0, (v.1.2.1.2.2.2.2.2.2.1, (v.1.1, ((v.1.2.1.2.2.2.2.2.2.1.length : Int), ()))))), (((0, (0, (0, (0, (0, ()))))), ()), ((v.1.2.1, ()), ())))).bind fun d19 =>
(((m28 ((d19.1.1, ()), ())).bind fun u20 =>
bif (decide ((d19.1.2.1 : Int) ≥ u20.1.1)) then (bif (decide ((0 : Int) ≤ d19.1.1 ∧ (d19.1.1 : Int) ≤ d19.1.1 ∧ (d19.1.1 : Int) ≤ 4294967296)) then
bif (decide ((0 : Int) ≤ d19.2.2.1.1.1 ∧ (d19.2.2.1.1.1 : Int) < (List.replicate d19.1.1.toNat (0 : Int)).length)) then
bif (decide (d19.2.2.1.1.1.toNat < (List.replicate d19.1.1.toNat (0 : Int)).length)) then
some ((), (((d19.2.1.1.1, (d19.2.1.1.2.1, (d19.2.1.1.2.2.1, (d19.2.1.1.2.2.2.1, (d19.2.1.1.2.2.2.2.1, ()))))), ()), (((d19.2.2.1.1.1, (d19.2.2.1.1.2.1, (d19.2.2.1.1.2.2.1, (2, (d19.2.2.1.1.2.2.2.2.1, (d19.2.2.1.1.2.2.2.2.2.1, (d19.2.2.1.1.2.2.2.2.2.2.1, (((List.replicate d19.1.1.toNat (0 : Int)).set d19.2.2.1.1.1.toNat (d19.2.2.1.1.2.2.2.2.1.length : Int)), ())))))))), ()), ())))
else none
else none
else none)
else (some ((), (((d19.2.1.1.1, (d19.2.1.1.2.1, (d19.2.1.1.2.2.1, (d19.2.1.1.2.2.2.1, (d19.2.1.1.2.2.2.2.1, ()))))), ()), ((d19.2.2.1.1, ()), ()))))) : Option ((Unit) × (Y11 × (Y5 × Unit) × Unit))).bind fun v21 =>
some ((), ((v21.2.2.1.1, ()), ()))

def sp77 : Abs.Spec := ⟨0, i77, o77, m77⟩

def an77 : Nat → Abs.FAn
  | 0 => Abs.FAn.mk (fun _ => none) (fun
    | 11 => some (⟨[4, 3], (.st (.ptr (0, 0) 8 0 0) (.st (.ptr (1, 0) 8 0 0) .nil)), (.box 8 (.agg (.dat (.int .i64) (.dat (.int .i64) (.dat (.int .i64) (.dat (.int .i64) (.st .nil (.dat (.int .i64) (.st .nil (.st .nil .nil)))))))) .nil) (.box 8 (.dat Z3 .nil) .nil))⟩, none)
    | 7 => some (⟨[5, 9, 4, 3, 0, 10, 11], (.dat (.int .i64) (.dat (.row .bool) (.st (.ptr (0, 0) 8 0 0) (.st (.ptr (1, 0) 8 0 0) (.dat (.int .i64) (.dat (.int .i64) (.dat (.int .i64) .nil))))))), (.box 8 (.agg (.dat (.int .i64) (.dat (.int .i64) (.dat (.int .i64) (.dat (.int .i64) (.st .nil (.dat (.int .i64) (.st .nil (.st .nil .nil)))))))) .nil) (.box 8 (.dat Z3 .nil) .nil))⟩, none)
    | _ => none) (fun
    | 3 => some ⟨⟨[11, 5, 9, 4, 3, 0, 10], (.dat (.int .i64) (.dat (.int .i64) (.dat (.row .bool) (.st (.ptr (0, 0) 8 0 0) (.st (.ptr (1, 0) 8 0 0) (.dat (.int .i64) (.dat (.int .i64) .nil))))))), (.box 8 (.agg (.dat (.int .i64) (.dat (.int .i64) (.dat (.int .i64) (.dat (.int .i64) (.st .nil (.dat (.int .i64) (.st .nil (.st .nil .nil)))))))) .nil) (.box 8 (.dat Z3 .nil) .nil))⟩, (.one (.exit 0) ⟨[4, 3, 0, 5], (.st (.ptr (0, 0) 8 0 0) (.st (.ptr (1, 0) 8 0 0) (.dat (.int .i64) (.dat (.int .i64) .nil)))), (.box 8 (.agg (.dat (.int .i64) (.dat (.int .i64) (.dat (.int .i64) (.dat (.int .i64) (.st .nil (.dat (.int .i64) (.st .nil (.st .nil .nil)))))))) .nil) (.box 8 (.dat Z3 .nil) .nil))⟩)⟩
    | _ => none) (fun _ _ => 0)
  | _ => {}

theorem ok77 : Abs.SpecOK Try.prog 77 sp77 :=
  Abs.specOK_of (n := 12) (an := an77) (T := Abs.tabOf [(28, sp28)]) good foll (Abs.tabOf_ok _ (by simp only [List.forall_mem_cons]; exact ⟨ok28, fun _ h => by cases h⟩)) rfl (by intro v; kernel_rfl)

def l23_0_11 (v : (Y20 × (Y11 × (List Y7) × Y11 × Y2 × (List Bool) × Unit))) : Option ((Y20 × (Y11 × (List Y7) × Y11 × Y2 × (List Bool) × Unit)) ⊕ ((Int × Unit) × (Y11 × (List Y7) × Y11 × Y2 × (List Bool) × Unit))) :=
bif (decide ((v.1.1 : Int) < v.1.2.2.1)) then (((bif ((v.1.1 : Int) != v.2.1.1.1) then ((m75 (((v.2.1.1.1, (v.2.1.1.2.1, (v.2.1.1.2.2.1, (v.2.1.1.2.2.2.1, (v.2.2.2.2.1, (v.2.1.1.2.2.2.2.1, (v.2.2.2.2.2.1, ([], ())))))))), ()), ())).bind fun u27 =>
bif (decide (v.2.2.1.length + ([(1, (v.2.1.1.1, (v.1.1, (v.2.1.1.2.1, (((v.2.2.2.2.1.length : Nat) : Int), (u27.1.1, (0, ([], (false, ())))))))))] : List Y7).length ≤ 4294967296)) then
let x28 := (v.2.2.1 ++ ([(1, (v.2.1.1.1, (v.1.1, (v.2.1.1.2.1, (((v.2.2.2.2.1.length : Nat) : Int), (u27.1.1, (0, ([], (false, ())))))))))] : List Y7))
some ((v.1.2.1, (v.1.2.2.1, (v.1.1, ()))), (((v.2.1.1.1, (v.2.1.1.2.1, (v.2.1.1.2.2.1, (v.2.1.1.2.2.2.1, (v.2.1.1.2.2.2.2.1, ()))))), ()), (x28, (((v.2.2.2.1.1.1, (v.2.2.2.1.1.2.1, (v.2.2.2.1.1.2.2.1, (v.2.2.2.1.1.2.2.2.1, (v.2.2.2.1.1.2.2.2.2.1, ()))))), ()), (v.2.2.2.2.1, (v.2.2.2.2.2.1, ()))))))
else none)
else (some ((v.1.2.1, (v.1.2.2.1, (v.1.1, ()))), (((v.2.1.1.1, (v.2.1.1.2.1, (v.2.1.1.2.2.1, (v.2.1.1.2.2.2.1, (v.2.1.1.2.2.2.2.1, ()))))), ()), (v.2.2.1, (((v.2.2.2.1.1.1, (v.2.2.2.1.1.2.1, (v.2.2.2.1.1.2.2.1, (v.2.2.2.1.1.2.2.2.1, (v.2.2.2.1.1.2.2.2.2.1, ()))))), ()), (v.2.2.2.2.1, (v.2.2.2.2.2.1, ())))))))) : Option (Y20 × (Y11 × (List Y7) × Y11 × Y2 × (List Bool) × Unit))).bind fun v29 =>
some (.inl (((w64 (v29.1.2.2.1 + 1)), (v29.1.1, (v29.1.2.1, ()))), (((v29.2.1.1.1, (v29.2.1.1.2.1, (v29.2.1.1.2.2.1, (v29.2.1.1.2.2.2.1, (v29.2.1.1.2.2.2.2.1, ()))))), ()), (v29.2.2.1, (((v29.2.2.2.1.1.1, (v29.2.2.2.1.1.2.1, (v29.2.2.2.1.1.2.2.1, (v29.2.2.2.1.1.2.2.2.1, (v29.2.2.2.1.1.2.2.2.2.1, ()))))), ()), (v29.2.2.2.2.1, (v29.2.2.2.2.2.1, ()))))))))
else (some (.inr ((v.1.2.1, ()), (((v.2.2.2.1.1.1, (v.2.2.2.1.1.2.1, (v.2.2.2.1.1.2.2.1, (v.2.2.2.1.1.2.2.2.1, (v.2.2.2.1.1.2.2.2.2.1, ()))))), ()), (v.2.2.1, (((v.2.1.1.1, (v.2.1.1.2.1, (v.2.1.1.2.2.1, (v.2.1.1.2.2.2.1, (v.2.1.1.2.2.2.2.1, ()))))), ()), (v.2.2.2.2.1, (v.2.2.2.2.2.1, ()))))))))

/- pagewatch/vote.Stand -/
def i23 : Abs.Sg := ⟨[0, 1], (.dat (.int .i64) (.dat Z3 .nil)), .nil⟩

def o23 : Abs.Sg := ⟨[4, 5, 6], (.st (.ptr (0, 0) 8 0 0) (.st (.own Z4 (1, 0)) (.dat (.int .i64) .nil))), (.box 8 (.dat Z3 .nil) (.arr Z4 false .nil))⟩

def m23 (v : ((Int × Y5 × Unit) × (Unit))) : Option ((Int × Unit) × ((Y5 × Unit) × (List Y7) × Unit)) :=
(m26 ((v.1.1, (v.1.2.1, ())), ())).bind fun u25 =>
bif (!u25.1.1) then (some ((8, ()), (((0, (0, (0, (0, ([], (0, ([], ([], ())))))))), ()), ([], ()))))
else (bif ((v.1.2.1.2.1 : Int) == 1048576) then (some ((5, ()), (((0, (0, (0, (0, ([], (0, ([], ([], ())))))))), ()), ([], ()))))
else ((m76 ((v.1.2.1, ()), ())).bind fun u26 =>
bif (decide ((0 : Int) ≤ v.1.1 ∧ (v.1.1 : Int) ≤ v.1.1 ∧ (v.1.1 : Int) ≤ 4294967296)) then
bif (decide ((0 : Int) ≤ u26.2.1.1.1 ∧ (u26.2.1.1.1 : Int) < (List.replicate v.1.1.toNat (false : Bool)).length)) then
bif (decide (u26.2.1.1.1.toNat < (List.replicate v.1.1.toNat (false : Bool)).length)) then
(loopT l23_0_11 ((0, (v.1.1, (v.1.1, ()))), (((u26.2.1.1.1, ((w64 (u26.2.1.1.2.1 + 1)), (u26.2.1.1.1, (1, (u26.2.1.1.2.2.2.2.1, ()))))), ()), ([], (((0, (0, (0, (0, (0, ()))))), ()), (u26.2.2.1, (((List.replicate v.1.1.toNat (false : Bool)).set u26.2.1.1.1.toNat true), ()))))))).bind fun d30 =>
(m77 ((d30.1.1, ((d30.2.2.2.1.1.1, (d30.2.2.2.1.1.2.1, (d30.2.2.2.1.1.2.2.1, (d30.2.2.2.1.1.2.2.2.1, (d30.2.2.2.2.1, (d30.2.2.2.1.1.2.2.2.2.1, (d30.2.2.2.2.2.1, ([], ())))))))), ())), ())).bind fun u31 =>
some ((0, ()), ((u31.2.1.1, ()), (d30.2.2.1, ())))
else none
else none
else none))

def sp23 : Abs.Spec := ⟨0, i23, o23, m23⟩

def an23 : Nat → Abs.FAn
  | 0 => Abs.FAn.mk (fun _ => none) (fun
    | 15 => some (⟨[3, 7, 4, 0, 37, 38], (.st (.ptr (0, 0) 8 0 0) (.st (.own Z4 (1, 0)) (.st (.ptr (2, 0) 8 0 0) (.dat (.int .i64) (.dat (.int .i64) (.dat (.int .i64) .nil)))))), (.box 8 (.agg (.dat (.int .i64) (.dat (.int .i64) (.dat (.int .i64) (.dat (.int .i64) (.st (.own Z1 (3, 0)) (.dat (.int .i64) (.st (.own .bool (4, 0)) (.st .nil .nil)))))))) .nil) (.arr Z4 false (.box 8 (.agg (.dat (.int .i64) (.dat (.int .i64) (.dat (.int .i64) (.dat (.int .i64) (.st .nil (.dat (.int .i64) (.st .nil (.st .nil .nil)))))))) .nil) (.arr Z1 false (.arr .bool false .nil)))))⟩, none)
    | _ => none) (fun
    | 11 => some ⟨⟨[38, 3, 7, 4, 0, 37], (.dat (.int .i64) (.st (.ptr (0, 0) 8 0 0) (.st (.own Z4 (1, 0)) (.st (.ptr (2, 0) 8 0 0) (.dat (.int .i64) (.dat (.int .i64) .nil)))))), (.box 8 (.agg (.dat (.int .i64) (.dat (.int .i64) (.dat (.int .i64) (.dat (.int .i64) (.st (.own Z1 (3, 0)) (.dat (.int .i64) (.st (.own .bool (4, 0)) (.st .nil .nil)))))))) .nil) (.arr Z4 false (.box 8 (.agg (.dat (.int .i64) (.dat (.int .i64) (.dat (.int .i64) (.dat (.int .i64) (.st .nil (.dat (.int .i64) (.st .nil (.st .nil .nil)))))))) .nil) (.arr Z1 false (.arr .bool false .nil)))))⟩, (.one (.exit 0) ⟨[4, 7, 3, 0], (.st (.ptr (0, 0) 8 0 0) (.st (.own Z4 (1, 0)) (.st (.ptr (2, 0) 8 0 0) (.dat (.int .i64) .nil)))), (.box 8 (.agg (.dat (.int .i64) (.dat (.int .i64) (.dat (.int .i64) (.dat (.int .i64) (.st .nil (.dat (.int .i64) (.st .nil (.st .nil .nil)))))))) .nil) (.arr Z4 false (.box 8 (.agg (.dat (.int .i64) (.dat (.int .i64) (.dat (.int .i64) (.dat (.int .i64) (.st (.own Z1 (3, 0)) (.dat (.int .i64) (.st (.own .bool (4, 0)) (.st .nil .nil)))))))) .nil) (.arr Z1 false (.arr .bool false .nil)))))⟩)⟩
    | _ => none) (fun _ _ => 0)
  | _ => {}

theorem ok23 : Abs.SpecOK Try.prog 23 sp23 :=
  Abs.specOK_of (n := 12) (an := an23) (T := Abs.tabOf [(26, sp26), (76, sp76), (75, sp75), (77, sp77)]) good foll (Abs.tabOf_ok _ (by simp only [List.forall_mem_cons]; exact ⟨ok26, ok76, ok75, ok77, fun _ h => by cases h⟩)) rfl (by intro v; kernel_rfl)

/- pagewatch/vote.Heard -/
def i78 : Abs.Sg := ⟨[0, 1, 2, 3], (.dat (.int .i64) (.dat Z3 (.dat Z4 (.dat (.int .i64) .nil)))), .nil⟩

def o78 : Abs.Sg := ⟨[8], (.dat .bool .nil), .nil⟩

def m78 (v : ((Int × Y5 × Y7 × Int × Unit) × (Unit))) : Option Y14 :=
(((m26 ((v.1.1, (v.1.2.1, ())), ())).bind fun u7 =>
bif u7.1.1 then (bif ((v.1.2.2.1.1 : Int) == v.1.2.2.2.1) then (bif ((v.1.2.2.1.2.2.1 : Int) == v.1.2.1.1) then ((m81 ((v.1.2.2.1.2.1, (0, ((w64 (v.1.1 - 1)), ()))), ())).bind fun u8 =>
bif u8.1.1 then (bif ((v.1.2.2.1.2.1 : Int) != v.1.2.1.1) then ((m81 ((v.1.2.2.1.2.2.2.1, (1, (1048576, ()))), ())).bind fun u9 =>
some ((u9.1.1, ()), ()))
else (some ((false, ()), ())))
else (some ((false, ()), ())))
else (some ((false, ()), ())))
else (some ((false, ()), ())))
else (some ((false, ()), ()))) : Option Y14).bind fun v10 =>
some ((v10.1.1, ()), ())

def sp78 : Abs.Spec := ⟨0, i78, o78, m78⟩

def an78 : Nat → Abs.FAn
  | 0 => Abs.FAn.mk (fun
    | 1 => some ⟨[8], (.dat .bool .nil), .nil⟩
    | _ => none) (fun _ => none) (fun _ => none) (fun _ _ => 0)
  | _ => {}

theorem ok78 : Abs.SpecOK Try.prog 78 sp78 :=
  Abs.specOK_of (n := 12) (an := an78) (T := Abs.tabOf [(26, sp26), (81, sp81)]) good foll (Abs.tabOf_ok _ (by simp only [List.forall_mem_cons]; exact ⟨ok26, ok81, fun _ h => by cases h⟩)) rfl (by intro v; kernel_rfl)

/- pagewatch/vote.Follow -/
def i79 : Abs.Sg := ⟨[0, 1], (.dat Z3 (.dat (.int .i64) .nil)), .nil⟩

def o79 : Abs.Sg := ⟨[4], (.st (.ptr (0, 0) 8 0 0) .nil), (.box 8 (.dat Z3 .nil) .nil)⟩

def m79 (v : ((Y5 × Int × Unit) × (Unit))) : Option ((Unit) × ((Y5 × Unit) × Unit)) :=
(((m81 ((v.1.2.1, ((w64 (v.1.1.2.1 + 1)), (1048576, ()))), ())).bind fun u5 =>
bif u5.1.1 then (some ((), (((0, (0, (0, (0, (0, ()))))), ()), (((v.1.1.1, (v.1.2.1, ((-1), (0, (v.1.1.2.2.2.2.1, (v.1.1.2.2.2.2.2.1, ([], ([], ())))))))), ()), ()))))
else (some ((), (((0, (0, (0, (0, (0, ()))))), ()), ((v.1.1, ()), ()))))) : Option ((Unit) × (Y11 × (Y5 × Unit) × Unit))).bind fun v6 =>
some ((), ((v6.2.2.1.1, ()), ()))

def sp79 : Abs.Spec := ⟨0, i79, o79, m79⟩

def an79 : Nat → Abs.FAn
  | 0 => Abs.FAn.mk (fun _ => none) (fun
    | 3 => some (⟨[4, 2], (.st (.ptr (0, 0) 8 0 0) (.st (.ptr (1, 0) 8 0 0) .nil)), (.box 8 (.agg (.dat (.int .i64) (.dat (.int .i64) (.dat (.int .i64) (.dat (.int .i64) (.st .nil (.dat (.int .i64) (.st .nil (.st .nil .nil)))))))) .nil) (.box 8 (.dat Z3 .nil) .nil))⟩, none)
    | _ => none) (fun _ => none) (fun _ _ => 0)
  | _ => {}

theorem ok79 : Abs.SpecOK Try.prog 79 sp79 :=
  Abs.specOK_of (n := 12) (an := an79) (T := Abs.tabOf [(81, sp81)]) good foll (Abs.tabOf_ok _ (by simp only [List.forall_mem_cons]; exact ⟨ok81, fun _ h => by cases h⟩)) rfl (by intro v; kernel_rfl)

/- pagewatch/vote.Fresh -/
def i21 : Abs.Sg := ⟨[0, 1, 2], (.dat Z3 (.dat (.int .i64) (.dat (.int .i64) .nil))), .nil⟩

def o21 : Abs.Sg := ⟨[6], (.dat .bool .nil), .nil⟩

def m21 (v : ((Y5 × Int × Int × Unit) × (Unit))) : Option Y14 :=
(((m75 ((v.1.1, ()), ())).bind fun u7 =>
bif (decide ((v.1.2.2.1 : Int) > u7.1.1)) then (some ((true, ()), ()))
else ((m75 ((v.1.1, ()), ())).bind fun u8 =>
bif ((v.1.2.2.1 : Int) == u8.1.1) then (let x9 := (decide ((v.1.2.1 : Int) ≥ (v.1.1.2.2.2.2.1.length : Int)))
some ((x9, ()), ()))
else (some ((false, ()), ())))) : Option Y14).bind fun v10 =>
some ((v10.1.1, ()), ())

def sp21 : Abs.Spec := ⟨0, i21, o21, m21⟩

def an21 : Nat → Abs.FAn
  | 0 => Abs.FAn.mk (fun
    | 1 => some ⟨[6], (.dat .bool .nil), .nil⟩
    | _ => none) (fun _ => none) (fun _ => none) (fun _ _ => 0)
  | _ => {}

theorem ok21 : Abs.SpecOK Try.prog 21 sp21 :=
  Abs.specOK_of (n := 12) (an := an21) (T := Abs.tabOf [(75, sp75)]) good foll (Abs.tabOf_ok _ (by simp only [List.forall_mem_cons]; exact ⟨ok75, fun _ h => by cases h⟩)) rfl (by intro v; kernel_rfl)

/- pagewatch/vote.Hear -/
def i24 : Abs.Sg := ⟨[0, 1, 2], (.dat (.int .i64) (.dat Z3 (.dat Z4 .nil))), .nil⟩

def o24 : Abs.Sg := ⟨[6, 7, 8], (.st (.ptr (0, 0) 8 0 0) (.st (.ptr (1, 0) 9 0 0) (.dat .bool .nil))), (.box 8 (.dat Z3 .nil) (.box 9 (.agg (.dat (.int .i64) (.dat (.int .i64) (.dat (.int .i64) (.dat (.int .i64) (.dat (.int .i64) (.dat (.int .i64) (.dat (.int .i64) (.st .nil (.dat .bool .nil))))))))) .nil) .nil))⟩

def m24 (v : ((Int × Y5 × Y7 × Unit) × (Unit))) : Option ((Bool × Unit) × ((Y5 × Unit) × Y15 × Unit)) :=
(m76 ((v.1.2.1, ()), ())).bind fun u19 =>
(m78 ((v.1.1, ((u19.2.1.1.1, (u19.2.1.1.2.1, (u19.2.1.1.2.2.1, (u19.2.1.1.2.2.2.1, (u19.2.2.1, (u19.2.1.1.2.2.2.2.1, (u19.2.2.2.1, (u19.2.2.2.2.1, ())))))))), (v.1.2.2.1, (1, ())))), ())).bind fun u20 =>
bif (!u20.1.1) then (some ((false, ()), (((u19.2.1.1.1, (u19.2.1.1.2.1, (u19.2.1.1.2.2.1, (u19.2.1.1.2.2.2.1, (u19.2.2.1, (u19.2.1.1.2.2.2.2.1, (u19.2.2.2.1, (u19.2.2.2.2.1, ())))))))), ()), (((0, (0, (0, (0, (0, (0, (0, (false, ())))))))), ()), ()))))
else ((m79 (((u19.2.1.1.1, (u19.2.1.1.2.1, (u19.2.1.1.2.2.1, (u19.2.1.1.2.2.2.1, (u19.2.2.1, (u19.2.1.1.2.2.2.2.1, (u19.2.2.2.1, (u19.2.2.2.2.1, ())))))))), (v.1.2.2.1.2.2.2.1, ())), ())).bind fun u21 =>
((bif ((u21.2.1.1.2.1 : Int) == v.1.2.2.1.2.2.2.1) then (bif ((u21.2.1.1.2.2.1 : Int) == (-1)) then (bif ((u21.2.1.1.2.2.2.1 : Int) == 0) then ((m21 ((u21.2.1.1, (v.1.2.2.1.2.2.2.2.1, (v.1.2.2.1.2.2.2.2.2.1, ()))), ())).bind fun u22 =>
some ((u22.1.1, ()), (((0, (0, (0, (0, (0, ()))))), ()), (((0, (0, (0, (0, (0, (0, (0, (false, ())))))))), ()), ((u21.2.1.1, ()), ((v.1.2.2.1, ()), ()))))))
else (some ((false, ()), (((0, (0, (0, (0, (0, ()))))), ()), (((0, (0, (0, (0, (0, (0, (0, (false, ())))))))), ()), ((u21.2.1.1, ()), ((v.1.2.2.1, ()), ())))))))
else (bif ((u21.2.1.1.2.2.1 : Int) == v.1.2.2.1.2.1) then (bif ((u21.2.1.1.2.2.2.1 : Int) == 0) then ((m21 ((u21.2.1.1, (v.1.2.2.1.2.2.2.2.1, (v.1.2.2.1.2.2.2.2.2.1, ()))), ())).bind fun u23 =>
some ((u23.1.1, ()), (((0, (0, (0, (0, (0, ()))))), ()), (((0, (0, (0, (0, (0, (0, (0, (false, ())))))))), ()), ((u21.2.1.1, ()), ((v.1.2.2.1, ()), ()))))))
else (some ((false, ()), (((0, (0, (0, (0, (0, ()))))), ()), (((0, (0, (0, (0, (0, (0, (0, (false, ())))))))), ()), ((u21.2.1.1, ()), ((v.1.2.2.1, ()), ())))))))
else (some ((false, ()), (((0, (0, (0, (0, (0, ()))))), ()), (((0, (0, (0, (0, (0, (0, (0, (false, ())))))))), ()), ((u21.2.1.1, ()), ((v.1.2.2.1, ()), ()))))))))
else (some ((false, ()), (((0, (0, (0, (0, (0, ()))))), ()), (((0, (0, (0, (0, (0, (0, (0, (false, ())))))))), ()), ((u21.2.1.1, ()), ((v.1.2.2.1, ()), ()))))))) : Option ((Bool × Unit) × (Y11 × Y15 × (Y5 × Unit) × (Y7 × Unit) × Unit))).bind fun v24 =>
((bif v24.1.1 then (some ((v24.1.1, ()), (((v24.2.1.1.1, (v24.2.1.1.2.1, (v24.2.1.1.2.2.1, (v24.2.1.1.2.2.2.1, (v24.2.1.1.2.2.2.2.1, ()))))), ()), (((v24.2.2.1.1.1, (v24.2.2.1.1.2.1, (v24.2.2.1.1.2.2.1, (v24.2.2.1.1.2.2.2.1, (v24.2.2.1.1.2.2.2.2.1, (v24.2.2.1.1.2.2.2.2.2.1, (v24.2.2.1.1.2.2.2.2.2.2.1, (v24.2.2.1.1.2.2.2.2.2.2.2.1, ())))))))), ()), (((v24.2.2.2.1.1.1, (v24.2.2.2.1.1.2.1, (v24.2.2.2.2.1.1.2.1, v24.2.2.2.1.1.2.2.2))), ()), ((v24.2.2.2.2.1.1, ()), ()))))))
else (some ((v24.1.1, ()), (((v24.2.1.1.1, (v24.2.1.1.2.1, (v24.2.1.1.2.2.1, (v24.2.1.1.2.2.2.1, (v24.2.1.1.2.2.2.2.1, ()))))), ()), (((v24.2.2.1.1.1, (v24.2.2.1.1.2.1, (v24.2.2.1.1.2.2.1, (v24.2.2.1.1.2.2.2.1, (v24.2.2.1.1.2.2.2.2.1, (v24.2.2.1.1.2.2.2.2.2.1, (v24.2.2.1.1.2.2.2.2.2.2.1, (v24.2.2.1.1.2.2.2.2.2.2.2.1, ())))))))), ()), ((v24.2.2.2.1.1, ()), ((v24.2.2.2.2.1.1, ()), ()))))))) : Option ((Bool × Unit) × (Y11 × Y15 × (Y5 × Unit) × (Y7 × Unit) × Unit))).bind fun v25 =>
some ((true, ()), ((v25.2.2.2.1.1, ()), (((2, (v25.2.2.2.1.1.1, (v25.2.2.2.2.1.1.2.1, (v25.2.2.2.1.1.2.1, (0, (0, (0, (v25.1.1, ())))))))), ()), ()))))

def sp24 : Abs.Spec := ⟨0, i24, o24, m24⟩

def an24 : Nat → Abs.FAn
  | 0 => Abs.FAn.mk (fun
    | 5 => some ⟨[6, 7, 9, 4, 5], (.st (.ptr (0, 0) 8 0 0) (.st (.ptr (1, 0) 9 0 0) (.dat .bool (.st (.ptr (2, 0) 8 0 0) (.st (.ptr (3, 0) 9 0 0) .nil))))), (.box 8 (.agg (.dat (.int .i64) (.dat (.int .i64) (.dat (.int .i64) (.dat (.int .i64) (.st .nil (.dat (.int .i64) (.st .nil (.st .nil .nil)))))))) .nil) (.box 9 (.agg (.dat (.int .i64) (.dat (.int .i64) (.dat (.int .i64) (.dat (.int .i64) (.dat (.int .i64) (.dat (.int .i64) (.dat (.int .i64) (.st .nil (.dat .bool .nil))))))))) .nil) (.box 8 (.dat Z3 .nil) (.box 9 (.dat Z4 .nil) .nil))))⟩
    | _ => none) (fun
    | 8 => some (⟨[6, 7, 9, 4, 5], (.st (.ptr (0, 0) 8 0 0) (.st (.ptr (1, 0) 9 0 0) (.dat .bool (.st (.ptr (2, 0) 8 0 0) (.st (.ptr (3, 0) 9 0 0) .nil))))), (.box 8 (.agg (.dat (.int .i64) (.dat (.int .i64) (.dat (.int .i64) (.dat (.int .i64) (.st .nil (.dat (.int .i64) (.st .nil (.st .nil .nil)))))))) .nil) (.box 9 (.agg (.dat (.int .i64) (.dat (.int .i64) (.dat (.int .i64) (.dat (.int .i64) (.dat (.int .i64) (.dat (.int .i64) (.dat (.int .i64) (.st .nil (.dat .bool .nil))))))))) .nil) (.box 8 (.dat Z3 .nil) (.box 9 (.dat Z4 .nil) .nil))))⟩, none)
    | _ => none) (fun _ => none) (fun _ _ => 0)
  | _ => {}

theorem ok24 : Abs.SpecOK Try.prog 24 sp24 :=
  Abs.specOK_of (n := 12) (an := an24) (T := Abs.tabOf [(76, sp76), (78, sp78), (79, sp79), (21, sp21)]) good foll (Abs.tabOf_ok _ (by simp only [List.forall_mem_cons]; exact ⟨ok76, ok78, ok79, ok21, fun _ h => by cases h⟩)) rfl (by intro v; kernel_rfl)

/- pagewatch/vote.Voted -/
def i36 : Abs.Sg := ⟨[0, 1, 2], (.dat (.int .i64) (.dat Z3 (.dat Z4 .nil))), .nil⟩

def o36 : Abs.Sg := ⟨[6], (.st (.ptr (0, 0) 8 0 0) .nil), (.box 8 (.dat Z3 .nil) .nil)⟩

def m36 (v : ((Int × Y5 × Y7 × Unit) × (Unit))) : Option ((Unit) × ((Y5 × Unit) × Unit)) :=
(m76 ((v.1.2.1, ()), ())).bind fun u19 =>
(m78 ((v.1.1, ((u19.2.1.1.1, (u19.2.1.1.2.1, (u19.2.1.1.2.2.1, (u19.2.1.1.2.2.2.1, (u19.2.2.1, (u19.2.1.1.2.2.2.2.1, (u19.2.2.2.1, (u19.2.2.2.2.1, ())))))))), (v.1.2.2.1, (2, ())))), ())).bind fun u20 =>
bif (!u20.1.1) then (some ((), (((u19.2.1.1.1, (u19.2.1.1.2.1, (u19.2.1.1.2.2.1, (u19.2.1.1.2.2.2.1, (u19.2.2.1, (u19.2.1.1.2.2.2.2.1, (u19.2.2.2.1, (u19.2.2.2.2.1, ())))))))), ()), ())))
else (let x21 := (decide ((v.1.2.2.1.2.2.2.1 : Int) > u19.2.1.1.2.1))
bif x21 then ((m79 (((u19.2.1.1.1, (u19.2.1.1.2.1, (u19.2.1.1.2.2.1, (u19.2.1.1.2.2.2.1, (u19.2.2.1, (u19.2.1.1.2.2.2.2.1, (u19.2.2.2.1, (u19.2.2.2.2.1, ())))))))), (v.1.2.2.1.2.2.2.1, ())), ())).bind fun u22 =>
some ((), ((u22.2.1.1, ()), ())))
else (((bif ((u19.2.1.1.2.2.2.1 : Int) != 1) then (some ((true, (v.1.1, ())), (((0, (0, (0, (0, (0, ()))))), ()), (((u19.2.1.1.1, (u19.2.1.1.2.1, (u19.2.1.1.2.2.1, (u19.2.1.1.2.2.2.1, (u19.2.1.1.2.2.2.2.1, ()))))), ()), ((v.1.2.2.1, ()), (u19.2.2.1, (u19.2.2.2.1, (u19.2.2.2.2.1, ()))))))))
else (bif ((v.1.2.2.1.2.2.2.1 : Int) != u19.2.1.1.2.1) then (some ((true, (v.1.1, ())), (((0, (0, (0, (0, (0, ()))))), ()), (((u19.2.1.1.1, (u19.2.1.1.2.1, (u19.2.1.1.2.2.1, (u19.2.1.1.2.2.2.1, (u19.2.1.1.2.2.2.2.1, ()))))), ()), ((v.1.2.2.1, ()), (u19.2.2.1, (u19.2.2.2.1, (u19.2.2.2.2.1, ()))))))))
else (some (((!v.1.2.2.1.2.2.2.2.2.2.2.2.1), (v.1.1, ())), (((0, (0, (0, (0, (0, ()))))), ()), (((u19.2.1.1.1, (u19.2.1.1.2.1, (u19.2.1.1.2.2.1, (u19.2.1.1.2.2.2.1, (u19.2.1.1.2.2.2.2.1, ()))))), ()), ((v.1.2.2.1, ()), (u19.2.2.1, (u19.2.2.2.1, (u19.2.2.2.2.1, ())))))))))) : Option ((Bool × Int × Unit) × (Y11 × Y11 × (Y7 × Unit) × Y2 × (List Bool) × (List Int) × Unit))).bind fun v23 =>
bif v23.1.1 then (some ((), (((v23.2.2.1.1.1, (v23.2.2.1.1.2.1, (v23.2.2.1.1.2.2.1, (v23.2.2.1.1.2.2.2.1, (v23.2.2.2.2.1, (v23.2.2.1.1.2.2.2.2.1, (v23.2.2.2.2.2.1, (v23.2.2.2.2.2.2.1, ())))))))), ()), ())))
else (bif (decide ((0 : Int) ≤ v23.2.2.2.1.1.2.1 ∧ (v23.2.2.2.1.1.2.1 : Int) < v23.2.2.2.2.2.1.length)) then
bif (decide (v23.2.2.2.1.1.2.1.toNat < v23.2.2.2.2.2.1.length)) then
(m77 ((v23.1.2.1, ((v23.2.2.1.1.1, (v23.2.2.1.1.2.1, (v23.2.2.1.1.2.2.1, (v23.2.2.1.1.2.2.2.1, (v23.2.2.2.2.1, (v23.2.2.1.1.2.2.2.2.1, ((v23.2.2.2.2.2.1.set v23.2.2.2.1.1.2.1.toNat true), (v23.2.2.2.2.2.2.1, ())))))))), ())), ())).bind fun u24 =>
some ((), ((u24.2.1.1, ()), ()))
else none
else none)))

def sp36 : Abs.Spec := ⟨0, i36, o36, m36⟩

def an36 : Nat → Abs.FAn
  | 0 => Abs.FAn.mk (fun
    | 6 => some ⟨[38, 6, 4, 0, 5], (.dat .bool (.st (.ptr (0, 0) 8 0 0) (.st (.ptr (1, 0) 8 0 0) (.dat (.int .i64) (.st (.ptr (2, 0) 9 0 0) .nil))))), (.box 8 (.agg (.dat (.int .i64) (.dat (.int .i64) (.dat (.int .i64) (.dat (.int .i64) (.st .nil (.dat (.int .i64) (.st .nil (.st .nil .nil)))))))) .nil) (.box 8 (.agg (.dat (.int .i64) (.dat (.int .i64) (.dat (.int .i64) (.dat (.int .i64) (.st (.own Z1 (3, 0)) (.dat (.int .i64) (.st (.own .bool (4, 0)) (.st (.own (.int .i64) (5, 0)) .nil)))))))) .nil) (.box 9 (.dat Z4 .nil) (.arr Z1 false (.arr .bool false (.arr (.int .i64) false .nil))))))⟩
    | _ => none) (fun _ => none) (fun _ => none) (fun _ _ => 0)
  | _ => {}

theorem ok36 : Abs.SpecOK Try.prog 36 sp36 :=
  Abs.specOK_of (n := 12) (an := an36) (T := Abs.tabOf [(76, sp76), (78, sp78), (79, sp79), (77, sp77)]) good foll (Abs.tabOf_ok _ (by simp only [List.forall_mem_cons]; exact ⟨ok76, ok78, ok79, ok77, fun _ h => by cases h⟩)) rfl (by intro v; kernel_rfl)

/- pagewatch/pagewatchlaw32.sane -/
def i17 : Abs.Sg := ⟨[], .nil, .nil⟩

def o17 : Abs.Sg := ⟨[0], (.dat .bool .nil), .nil⟩

def m17 (v : ((Unit) × (Unit))) : Option Y14 :=
(m39 ((0, (3, ())), ())).bind fun u24 =>
(m39 ((1, (3, ())), ())).bind fun u25 =>
(m23 ((3, ((u24.2.1.1.1, (u24.2.1.1.2.1, (u24.2.1.1.2.2.1, (u24.2.1.1.2.2.2.1, ([], (u24.2.1.1.2.2.2.2.1, ([], ([], ())))))))), ())), ())).bind fun u26 =>
((bif ((u24.1.1 : Int) != 0) then (some ((true, ()), ((u26.2.1.1, ()), (((u25.2.1.1.1, (u25.2.1.1.2.1, (u25.2.1.1.2.2.1, (u25.2.1.1.2.2.2.1, (u25.2.1.1.2.2.2.2.1, ()))))), ()), (u26.2.2.1, ())))))
else (bif ((u25.1.1 : Int) != 0) then (some ((true, ()), ((u26.2.1.1, ()), (((u25.2.1.1.1, (u25.2.1.1.2.1, (u25.2.1.1.2.2.1, (u25.2.1.1.2.2.2.1, (u25.2.1.1.2.2.2.2.1, ()))))), ()), (u26.2.2.1, ())))))
else (bif ((u26.1.1 : Int) != 0) then (some ((true, ()), ((u26.2.1.1, ()), (((u25.2.1.1.1, (u25.2.1.1.2.1, (u25.2.1.1.2.2.1, (u25.2.1.1.2.2.2.1, (u25.2.1.1.2.2.2.2.1, ()))))), ()), (u26.2.2.1, ())))))
else (some ((((((u26.2.2.1.length : Nat) : Int) : Int) != 2), ()), ((u26.2.1.1, ()), (((u25.2.1.1.1, (u25.2.1.1.2.1, (u25.2.1.1.2.2.1, (u25.2.1.1.2.2.2.1, (u25.2.1.1.2.2.2.2.1, ()))))), ()), (u26.2.2.1, ())))))))) : Option ((Bool × Unit) × ((Y5 × Unit) × Y11 × (List Y7) × Unit))).bind fun v27 =>
bif v27.1.1 then (some ((false, ()), ()))
else (bif (decide ((0 : Int) ≤ 0 ∧ (0 : Int) < v27.2.2.2.1.length)) then
(v27.2.2.2.1[0]?).bind fun e28 =>
(m24 ((3, ((v27.2.2.1.1.1, (v27.2.2.1.1.2.1, (v27.2.2.1.1.2.2.1, (v27.2.2.1.1.2.2.2.1, ([], (v27.2.2.1.1.2.2.2.2.1, ([], ([], ())))))))), (e28, ()))), ())).bind fun u29 =>
(m36 ((3, (v27.2.1.1, ((u29.2.2.1.1.1, (u29.2.2.1.1.2.1, (u29.2.2.1.1.2.2.1, (u29.2.2.1.1.2.2.2.1, (u29.2.2.1.1.2.2.2.2.1, (u29.2.2.1.1.2.2.2.2.2.1, (u29.2.2.1.1.2.2.2.2.2.2.1, ([], (u29.2.2.1.1.2.2.2.2.2.2.2.1, ()))))))))), ()))), ())).bind fun u30 =>
((bif u29.1.1 then (bif u29.2.2.1.1.2.2.2.2.2.2.2.1 then (bif ((u29.2.1.1.2.2.1 : Int) == 0) then (bif ((u30.2.1.1.2.2.2.1 : Int) == 2) then ((m28 ((5, ()), ())).bind fun u31 =>
some ((((u31.1.1 : Int) == 3), ()), ()))
else (some ((false, ()), ())))
else (some ((false, ()), ())))
else (some ((false, ()), ())))
else (some ((false, ()), ()))) : Option Y14).bind fun v32 =>
some ((v32.1.1, ()), ())
else none)

def sp17 : Abs.Spec := ⟨0, i17, o17, m17⟩

def an17 : Nat → Abs.FAn
  | 0 => Abs.FAn.mk (fun
    | 8 => some ⟨[0], (.dat .bool .nil), .nil⟩
    | 4 => some ⟨[37, 1, 3, 5], (.dat .bool (.st (.ptr (0, 0) 8 0 0) (.st (.ptr (1, 0) 8 0 0) (.st (.own Z4 (2, 0)) .nil)))), (.box 8 (.dat Z3 .nil) (.box 8 (.agg (.dat (.int .i64) (.dat (.int .i64) (.dat (.int .i64) (.dat (.int .i64) (.st .nil (.dat (.int .i64) (.st .nil (.st .nil .nil)))))))) .nil) (.arr Z4 false .nil)))⟩
    | _ => none) (fun _ => none) (fun _ => none) (fun _ _ => 0)
  | _ => {}

theorem ok17 : Abs.SpecOK Try.prog 17 sp17 :=
  Abs.specOK_of (n := 12) (an := an17) (T := Abs.tabOf [(39, sp39), (23, sp23), (24, sp24), (36, sp36), (28, sp28)]) good foll (Abs.tabOf_ok _ (by simp only [List.forall_mem_cons]; exact ⟨ok39, ok23, ok24, ok36, ok28, fun _ h => by cases h⟩)) rfl (by intro v; kernel_rfl)

/- pagewatch/pagewatchmade.Roll -/
def i18 : Abs.Sg := ⟨[0], (.dat (.row (.int .i64)) .nil), .nil⟩

def o18 : Abs.Sg := ⟨[2], (.st (.ptr (0, 0) 2 0 0) .nil), (.box 2 (.dat Z12 .nil) .nil)⟩

def m18 (v : (((List Int) × Unit) × (Unit))) : Option ((Unit) × (Y13 × Unit)) :=
some ((), (((v.1.1, (0, ())), ()), ()))

def sp18 : Abs.Spec := ⟨0, i18, o18, m18⟩

def an18 : Nat → Abs.FAn
  | _ => {}

theorem ok18 : Abs.SpecOK Try.prog 18 sp18 :=
  Abs.specOK_of (n := 12) (an := an18) (T := Abs.tabOf []) good foll (Abs.tabOf_ok _ (fun _ h => by cases h)) rfl (by intro v; kernel_rfl)

/- (*pagewatch/pagewatchmade.Dice).Next -/
def i20 : Abs.Sg := ⟨[0, 1], (.st (.ptr (0, 0) 2 0 0) (.dat (.int .i64) .nil)), (.box 2 (.dat Z12 .nil) .nil)⟩

def o20 : Abs.Sg := ⟨[4], (.dat (.int .i64) .nil), (.box 2 (.dat Z12 .nil) .nil)⟩

def m20 (v : ((Int × Unit) × (Y13 × Unit))) : Option ((Int × Unit) × (Y13 × Unit)) :=
((let x15 := (decide ((v.2.1.1.2.1 : Int) ≥ (v.2.1.1.1.length : Int)))
bif x15 then (some ((true, (v.1.1, ())), ((v.2.1.1, ()), ())))
else (some (((decide ((v.1.1 : Int) < 1)), (v.1.1, ())), ((v.2.1.1, ()), ())))) : Option ((Bool × Int × Unit) × (Y13 × Unit))).bind fun v16 =>
bif v16.1.1 then (some ((0, ()), ((v16.2.1.1, ()), ())))
else (Abs.rowAt v16.2.1.1.1 v16.2.1.1.2.1 fun e17 _ =>
bif (decide (v16.1.2.1 ≠ (0 : Int))) then
((let x18 := (decide ((((e17 : Int).tmod v16.1.2.1) : Int) < 0))
bif x18 then (some (((w64 (((e17 : Int).tmod v16.1.2.1) + v16.1.2.1)), ()), (((v16.2.1.1.1, ((w64 (v16.2.1.1.2.1 + 1)), ())), ()), ())))
else (some ((((e17 : Int).tmod v16.1.2.1), ()), (((v16.2.1.1.1, ((w64 (v16.2.1.1.2.1 + 1)), ())), ()), ())))) : Option ((Int × Unit) × (Y13 × Unit))).bind fun v19 =>
some ((v19.1.1, ()), ((v19.2.1.1, ()), ()))
else none)

def sp20 : Abs.Spec := ⟨1, i20, o20, m20⟩

def an20 : Nat → Abs.FAn
  | 0 => Abs.FAn.mk (fun
    | 1 => some ⟨[19, 1, 0], (.dat .bool (.dat (.int .i64) (.st (.ptr (0, 0) 2 0 0) .nil))), (.box 2 (.dat Z12 .nil) .nil)⟩
    | _ => none) (fun
    | 7 => some (⟨[5], (.dat (.int .i64) .nil), (.box 2 (.dat Z12 .nil) .nil)⟩, none)
    | _ => none) (fun _ => none) (fun _ _ => 0)
  | _ => {}

theorem ok20 : Abs.SpecOK Try.prog 20 sp20 :=
  Abs.specOK_of (n := 12) (an := an20) (T := Abs.tabOf []) good foll (Abs.tabOf_ok _ (fun _ h => by cases h)) rfl (by intro v; kernel_rfl)

/- (*pagewatch/pagewatchmade.Dice).One -/
def i41 : Abs.Sg := ⟨[0, 1], (.st (.ptr (0, 0) 2 0 0) (.dat (.row (.int .i64)) .nil)), (.box 2 (.dat Z12 .nil) .nil)⟩

def o41 : Abs.Sg := ⟨[4], (.dat (.int .i64) .nil), (.box 2 (.dat Z12 .nil) .nil)⟩

def m41 (v : (((List Int) × Unit) × (Y13 × Unit))) : Option ((Int × Unit) × (Y13 × Unit)) :=
(m20 (((v.1.1.length : Int), ()), ((v.2.1.1, ()), ()))).bind fun u4 =>
Abs.rowAt v.1.1 u4.1.1 fun e5 _ =>
some ((e5, ()), ((u4.2.1.1, ()), ()))

def sp41 : Abs.Spec := ⟨1, i41, o41, m41⟩

def an41 : Nat → Abs.FAn
  | _ => {}

theorem ok41 : Abs.SpecOK Try.prog 41 sp41 :=
  Abs.specOK_of (n := 12) (an := an41) (T := Abs.tabOf [(20, sp20)]) good foll (Abs.tabOf_ok _ (by simp only [List.forall_mem_cons]; exact ⟨ok20, fun _ h => by cases h⟩)) rfl (by intro v; kernel_rfl)

/- pagewatch/pagewatchref25.In -/
def i45 : Abs.Sg := ⟨[0, 1, 2], (.dat (.int .i64) (.dat (.int .i64) (.dat (.int .i64) .nil))), .nil⟩

def o45 : Abs.Sg := ⟨[6], (.dat .bool .nil), .nil⟩

def m45 (v : (Y20 × (Unit))) : Option Y14 :=
((bif (decide ((v.1.1 : Int) ≥ v.1.2.1)) then (some (((decide ((v.1.1 : Int) ≤ v.1.2.2.1)), ()), ()))
else (some ((false, ()), ()))) : Option Y14).bind fun v1 =>
some ((v1.1.1, ()), ())

def sp45 : Abs.Spec := ⟨0, i45, o45, m45⟩

def an45 : Nat → Abs.FAn
  | 0 => Abs.FAn.mk (fun
    | 1 => some ⟨[6], (.dat .bool .nil), .nil⟩
    | _ => none) (fun _ => none) (fun _ => none) (fun _ _ => 0)
  | _ => {}

theorem ok45 : Abs.SpecOK Try.prog 45 sp45 :=
  Abs.specOK_of (n := 12) (an := an45) (T := Abs.tabOf []) good foll (Abs.tabOf_ok _ (fun _ h => by cases h)) rfl (by intro v; kernel_rfl)

/- pagewatch/pagewatchref32.Quorum -/
def i29 : Abs.Sg := ⟨[0], (.dat (.int .i64) .nil), .nil⟩

def o29 : Abs.Sg := ⟨[2], (.dat (.int .i64) .nil), .nil⟩

def m29 (v : ((Int × Unit) × (Unit))) : Option ((Int × Unit) × (Unit)) :=
(m45 ((v.1.1, (1, (5, ()))), ())).bind fun u4 =>
bif (!u4.1.1) then (some ((0, ()), ()))
else (some (((w64 ((w64 ((v.1.1 : Int).tdiv 2)) + 1)), ()), ()))

def sp29 : Abs.Spec := ⟨0, i29, o29, m29⟩

def an29 : Nat → Abs.FAn
  | _ => {}

theorem ok29 : Abs.SpecOK Try.prog 29 sp29 :=
  Abs.specOK_of (n := 12) (an := an29) (T := Abs.tabOf [(45, sp45)]) good foll (Abs.tabOf_ok _ (by simp only [List.forall_mem_cons]; exact ⟨ok45, fun _ h => by cases h⟩)) rfl (by intro v; kernel_rfl)

/- pagewatch/pagewatchref32.New -/
def i40 : Abs.Sg := ⟨[0, 1], (.dat (.int .i64) (.dat (.int .i64) .nil)), .nil⟩

def o40 : Abs.Sg := ⟨[4, 5], (.st (.ptr (0, 0) 8 0 0) (.dat (.int .i64) .nil)), (.box 8 (.agg (.dat (.int .i64) (.dat (.int .i64) (.dat (.int .i64) (.dat (.int .i64) (.st .nil (.dat (.int .i64) (.st .nil (.st .nil .nil)))))))) .nil) .nil)⟩

def m40 (v : ((Int × Int × Unit) × (Unit))) : Option ((Int × Unit) × (Y11 × Unit)) :=
(((m29 ((v.1.2.1, ()), ())).bind fun u11 =>
bif ((u11.1.1 : Int) == 0) then (some ((true, (v.1.1, ())), (((0, (0, (0, (0, (0, ()))))), ()), ())))
else ((m45 ((v.1.1, (0, ((w64 (v.1.2.1 - 1)), ()))), ())).bind fun u12 =>
some (((!u12.1.1), (v.1.1, ())), (((0, (0, (0, (0, (0, ()))))), ()), ())))) : Option ((Bool × Int × Unit) × (Y11 × Unit))).bind fun v13 =>
bif v13.1.1 then (some ((1, ()), (((0, (0, (0, (0, (0, ()))))), ()), ())))
else (some ((0, ()), (((v13.1.2.1, (0, ((-1), (0, (0, ()))))), ()), ())))

def sp40 : Abs.Spec := ⟨0, i40, o40, m40⟩

def an40 : Nat → Abs.FAn
  | 0 => Abs.FAn.mk (fun
    | 1 => some ⟨[15, 4, 0], (.dat .bool (.st (.ptr (0, 0) 8 0 0) (.dat (.int .i64) .nil))), (.box 8 (.agg (.dat (.int .i64) (.dat (.int .i64) (.dat (.int .i64) (.dat (.int .i64) (.st .nil (.dat (.int .i64) (.st .nil (.st .nil .nil)))))))) .nil) .nil)⟩
    | _ => none) (fun _ => none) (fun _ => none) (fun _ _ => 0)
  | _ => {}

theorem ok40 : Abs.SpecOK Try.prog 40 sp40 :=
  Abs.specOK_of (n := 12) (an := an40) (T := Abs.tabOf [(29, sp29), (45, sp45)]) good foll (Abs.tabOf_ok _ (by simp only [List.forall_mem_cons]; exact ⟨ok29, ok45, fun _ h => by cases h⟩)) rfl (by intro v; kernel_rfl)

def l72_0_5 (v : ((Int × Int × Unit) × (((Unit) × Unit) × ((Unit) × Unit) × (List Y5) × (List Bool) × Unit))) : Option (((Int × Int × Unit) × (((Unit) × Unit) × ((Unit) × Unit) × (List Y5) × (List Bool) × Unit)) ⊕ ((Unit) × (((Unit) × Unit) × ((Unit) × Unit) × (List Y5) × (List Bool) × Unit))) :=
bif (decide ((v.1.1 : Int) < v.1.2.1)) then ((m40 ((v.1.1, (v.1.2.1, ())), ())).bind fun u27 =>
bif (decide (v.2.2.2.1.length + ([(u27.2.1.1.1, (u27.2.1.1.2.1, (u27.2.1.1.2.2.1, (u27.2.1.1.2.2.2.1, ([], (u27.2.1.1.2.2.2.2.1, ([], ([], ()))))))))] : List Y5).length ≤ 4294967296)) then
let x28 := (v.2.2.2.1 ++ ([(u27.2.1.1.1, (u27.2.1.1.2.1, (u27.2.1.1.2.2.1, (u27.2.1.1.2.2.2.1, ([], (u27.2.1.1.2.2.2.2.1, ([], ([], ()))))))))] : List Y5))
some (.inl (((w64 (v.1.1 + 1)), (v.1.2.1, ())), (((), ()), (((), ()), (x28, (v.2.2.2.2.1, ()))))))
else none)
else (some (.inr ((), (((), ()), (((), ()), (v.2.2.2.1, (v.2.2.2.2.1, ())))))))

/- pagewatch/pagewatchref34.New -/
def i72 : Abs.Sg := ⟨[0], (.dat (.int .i64) .nil), .nil⟩

def o72 : Abs.Sg := ⟨[2, 3], (.st (.ptr (0, 0) 4 0 0) (.dat (.int .i64) .nil)), (.box 4 (.agg (.st (.own Z3 (1, 0)) (.st .nil (.st (.own .bool (2, 0)) (.st .nil .nil)))) .nil) (.arr Z3 false (.arr .bool false .nil)))⟩

def m72 (v : ((Int × Unit) × (Unit))) : Option ((Int × Unit) × (((Unit) × Unit) × (List Y5) × (List Bool) × Unit)) :=
(m29 ((v.1.1, ()), ())).bind fun u26 =>
bif ((u26.1.1 : Int) == 0) then (some ((1, ()), (((), ()), ([], ([], ())))))
else (bif (decide ((0 : Int) ≤ v.1.1 ∧ (v.1.1 : Int) ≤ v.1.1 ∧ (v.1.1 : Int) ≤ 4294967296)) then
(loopT l72_0_5 ((0, (v.1.1, ())), (((), ()), (((), ()), ([], ((List.replicate v.1.1.toNat (false : Bool)), ())))))).bind fun d29 =>
some ((0, ()), (((), ()), (d29.2.2.2.1, (d29.2.2.2.2.1, ()))))
else none)

def sp72 : Abs.Spec := ⟨0, i72, o72, m72⟩

def an72 : Nat → Abs.FAn
  | 0 => Abs.FAn.mk (fun _ => none) (fun _ => none) (fun
    | 5 => some ⟨⟨[5, 4, 0, 2], (.dat (.int .i64) (.st (.ptr (0, 0) 4 0 0) (.dat (.int .i64) (.st (.ptr (1, 0) 4 0 0) .nil)))), (.box 4 (.agg (.st (.own Z3 (2, 0)) (.st .nil (.st (.own .bool (3, 0)) (.st .nil .nil)))) .nil) (.box 4 (.agg (.st .nil (.st .nil (.st .nil (.st .nil .nil)))) .nil) (.arr Z3 false (.arr .bool false .nil))))⟩, (.one (.exit 0) ⟨[2, 4], (.st (.ptr (0, 0) 4 0 0) (.st (.ptr (1, 0) 4 0 0) .nil)), (.box 4 (.agg (.st .nil (.st .nil (.st .nil (.st .nil .nil)))) .nil) (.box 4 (.agg (.st (.own Z3 (2, 0)) (.st .nil (.st (.own .bool (3, 0)) (.st .nil .nil)))) .nil) (.arr Z3 false (.arr .bool false .nil))))⟩)⟩
    | _ => none) (fun _ _ => 0)
  | _ => {}

theorem ok72 : Abs.SpecOK Try.prog 72 sp72 :=
  Abs.specOK_of (n := 12) (an := an72) (T := Abs.tabOf [(29, sp29), (40, sp40)]) good foll (Abs.tabOf_ok _ (by simp only [List.forall_mem_cons]; exact ⟨ok29, ok40, fun _ h => by cases h⟩)) rfl (by intro v; kernel_rfl)

def l85_0_3 (v : ((Int × Y2 × Int × Int × Unit) × (Unit))) : Option (((Int × Y2 × Int × Int × Unit) × (Unit)) ⊕ (Y14 ⊕ ((Y2 × Unit) × (Unit)))) :=
let x37 := (decide ((v.1.1 : Int) < (v.1.2.1.length : Int)))
bif x37 then (((Abs.rowAt v.1.2.1 v.1.1 fun e38 _ =>
bif (decide ((e38.1 : Int) < v.1.2.2.2.1)) then (some ((true, (v.1.2.1, (v.1.2.2.1, (v.1.1, ())))), ()))
else (Abs.rowAt v.1.2.1 v.1.1 fun e39 _ =>
some (((decide ((e39.1 : Int) > v.1.2.2.1)), (v.1.2.1, (v.1.2.2.1, (v.1.1, ())))), ()))) : Option ((Bool × Y2 × Int × Int × Unit) × (Unit))).bind fun v40 =>
bif v40.1.1 then (some (.inr (.inl ((false, ()), ()))))
else (Abs.rowAt v40.1.2.1 v40.1.2.2.2.1 fun e41 _ =>
some (.inl (((w64 (v40.1.2.2.2.1 + 1)), (v40.1.2.1, (v40.1.2.2.1, (e41.1, ())))), ()))))
else (some (.inr (.inr ((v.1.2.1, ()), ()))))

/- pagewatch/pagewatchref32.LogFits -/
def i85 : Abs.Sg := ⟨[0, 1], (.dat (.row Z1) (.dat (.int .i64) .nil)), .nil⟩

def o85 : Abs.Sg := ⟨[4], (.dat .bool .nil), .nil⟩

def m85 (v : ((Y2 × Int × Unit) × (Unit))) : Option Y14 :=
(loopT l85_0_3 ((0, (v.1.1, (v.1.2.1, (1, ())))), ())).bind fun d42 =>
sumE d42 (fun d43 => (some ((d43.1.1, ()), ()))) (fun d44 => (some (((decide (((d44.1.1.length : Int) : Int) ≤ 256)), ()), ())))

def sp85 : Abs.Spec := ⟨0, i85, o85, m85⟩

def an85 : Nat → Abs.FAn
  | 0 => Abs.FAn.mk (fun
    | 5 => some ⟨[28, 0, 1, 6], (.dat .bool (.dat (.row Z1) (.dat (.int .i64) (.dat (.int .i64) .nil)))), .nil⟩
    | _ => none) (fun _ => none) (fun
    | 3 => some ⟨⟨[6, 0, 1, 5], (.dat (.int .i64) (.dat (.row Z1) (.dat (.int .i64) (.dat (.int .i64) .nil)))), .nil⟩, (.more .ret ⟨[4], (.dat .bool .nil), .nil⟩ (.one (.exit 0) ⟨[0], (.dat (.row Z1) .nil), .nil⟩))⟩
    | _ => none) (fun _ _ => 0)
  | _ => {}

theorem ok85 : Abs.SpecOK Try.prog 85 sp85 :=
  Abs.specOK_of (n := 12) (an := an85) (T := Abs.tabOf []) good foll (Abs.tabOf_ok _ (fun _ h => by cases h)) rfl (by intro v; kernel_rfl)

def l27_0_12 (v : ((Int × Int × Unit) × ((Y5 × Unit) × Unit))) : Option (((Int × Int × Unit) × ((Y5 × Unit) × Unit)) ⊕ (Y14 ⊕ ((Unit) × (Unit)))) :=
bif (decide ((v.1.1 : Int) < v.1.2.1)) then (Abs.rowAt v.2.1.1.2.2.2.2.2.2.2.1 v.1.1 fun e119 _ =>
(m45 ((e119, (0, ((v.2.1.1.2.2.2.2.1.length : Int), ()))), ())).bind fun u120 =>
bif (!u120.1.1) then (some (.inr (.inl ((false, ()), ()))))
else (some (.inl (((w64 (v.1.1 + 1)), (v.1.2.1, ())), ((v.2.1.1, ()), ())))))
else (some (.inr (.inr ((), ()))))

/- pagewatch/pagewatchref32.Check -/
def i27 : Abs.Sg := ⟨[0, 1], (.dat (.int .i64) (.dat Z3 .nil)), .nil⟩

def o27 : Abs.Sg := ⟨[4], (.dat .bool .nil), .nil⟩

def m27 (v : ((Int × Y5 × Unit) × (Unit))) : Option Y14 :=
(((m29 ((v.1.1, ()), ())).bind fun u99 =>
bif ((u99.1.1 : Int) == 0) then (some ((true, (v.1.1, ())), ((v.1.2.1, ()), ())))
else ((m45 ((v.1.2.1.1, (0, ((w64 (v.1.1 - 1)), ()))), ())).bind fun u100 =>
bif (!u100.1.1) then (some ((true, (v.1.1, ())), ((v.1.2.1, ()), ())))
else ((m45 ((v.1.2.1.2.1, (0, (1048576, ()))), ())).bind fun u101 =>
bif (!u101.1.1) then (some ((true, (v.1.1, ())), ((v.1.2.1, ()), ())))
else ((m45 ((v.1.2.1.2.2.1, ((-1), ((w64 (v.1.1 - 1)), ()))), ())).bind fun u102 =>
bif (!u102.1.1) then (some ((true, (v.1.1, ())), ((v.1.2.1, ()), ())))
else ((m85 ((v.1.2.1.2.2.2.2.1, (v.1.2.1.2.1, ())), ())).bind fun u103 =>
bif (!u103.1.1) then (some ((true, (v.1.1, ())), ((v.1.2.1, ()), ())))
else ((m45 ((v.1.2.1.2.2.2.2.2.1, (0, ((v.1.2.1.2.2.2.2.1.length : Int), ()))), ())).bind fun u104 =>
some (((!u104.1.1), (v.1.1, ())), ((v.1.2.1, ()), ())))))))) : Option ((Bool × Int × Unit) × ((Y5 × Unit) × Unit))).bind fun v105 =>
bif v105.1.1 then (some ((false, ()), ()))
else (bif ((v105.2.1.1.2.2.2.1 : Int) == 0) then (((let x106 := (((v105.2.1.1.2.2.2.2.2.2.1.length : Int) : Int) == 0)
bif x106 then (let x107 := (((v105.2.1.1.2.2.2.2.2.2.2.1.length : Int) : Int) == 0)
some ((x107, ()), ()))
else (some ((false, ()), ()))) : Option Y14).bind fun v108 =>
some ((v108.1.1, ()), ()))
else (bif ((v105.2.1.1.2.2.2.1 : Int) == 1) then (((let x109 := (((v105.2.1.1.2.2.2.2.2.2.1.length : Int) : Int) == v105.1.2.1)
bif x109 then (Abs.rowAt v105.2.1.1.2.2.2.2.2.2.1 v105.2.1.1.1 fun e110 _ =>
bif e110 then (let x111 := (((v105.2.1.1.2.2.2.2.2.2.2.1.length : Int) : Int) == 0)
some ((x111, ()), ()))
else (some ((false, ()), ())))
else (some ((false, ()), ()))) : Option Y14).bind fun v112 =>
some ((v112.1.1, ()), ()))
else (bif ((v105.2.1.1.2.2.2.1 : Int) == 2) then (((let x113 := (((v105.2.1.1.2.2.2.2.2.2.1.length : Int) : Int) != v105.1.2.1)
bif x113 then (some ((true, (v105.1.2.1, ())), ((v105.2.1.1, ()), ())))
else (Abs.rowAt v105.2.1.1.2.2.2.2.2.2.1 v105.2.1.1.1 fun e114 _ =>
bif (!e114) then (some ((true, (v105.1.2.1, ())), ((v105.2.1.1, ()), ())))
else (let x115 := (((v105.2.1.1.2.2.2.2.2.2.2.1.length : Int) : Int) != v105.1.2.1)
bif x115 then (some ((true, (v105.1.2.1, ())), ((v105.2.1.1, ()), ())))
else (Abs.rowAt v105.2.1.1.2.2.2.2.2.2.2.1 v105.2.1.1.1 fun e116 _ =>
let x117 := ((e116 : Int) != (v105.2.1.1.2.2.2.2.1.length : Int))
some ((x117, (v105.1.2.1, ())), ((v105.2.1.1, ()), ())))))) : Option ((Bool × Int × Unit) × ((Y5 × Unit) × Unit))).bind fun v118 =>
bif v118.1.1 then (some ((false, ()), ()))
else ((loopT l27_0_12 ((0, (v118.1.2.1, ())), ((v118.2.1.1, ()), ()))).bind fun d121 =>
sumE d121 (fun d122 => (some ((d122.1.1, ()), ()))) (fun d123 => (some ((true, ()), ())))))
else (some ((false, ()), ())))))

def sp27 : Abs.Spec := ⟨0, i27, o27, m27⟩

def an27 : Nat → Abs.FAn
  | 0 => Abs.FAn.mk (fun
    | 9 => some ⟨[117, 3, 0], (.dat .bool (.st (.ptr (0, 0) 8 0 0) (.dat (.int .i64) .nil))), (.box 8 (.dat Z3 .nil) .nil)⟩
    | 7 => some ⟨[4], (.dat .bool .nil), .nil⟩
    | 5 => some ⟨[4], (.dat .bool .nil), .nil⟩
    | 1 => some ⟨[47, 3, 0], (.dat .bool (.st (.ptr (0, 0) 8 0 0) (.dat (.int .i64) .nil))), (.box 8 (.dat Z3 .nil) .nil)⟩
    | _ => none) (fun _ => none) (fun
    | 12 => some ⟨⟨[5, 3, 0], (.dat (.int .i64) (.st (.ptr (0, 0) 8 0 0) (.dat (.int .i64) .nil))), (.box 8 (.dat Z3 .nil) .nil)⟩, (.more .ret ⟨[4], (.dat .bool .nil), .nil⟩ (.one (.exit 1) ⟨[], .nil, .nil⟩))⟩
    | _ => none) (fun _ _ => 0)
  | _ => {}

theorem ok27 : Abs.SpecOK Try.prog 27 sp27 :=
  Abs.specOK_of (n := 12) (an := an27) (T := Abs.tabOf [(29, sp29), (45, sp45), (85, sp85)]) good foll (Abs.tabOf_ok _ (by simp only [List.forall_mem_cons]; exact ⟨ok29, ok45, ok85, fun _ h => by cases h⟩)) rfl (by intro v; kernel_rfl)

def l113_0_2 (v : ((Int × Int × Int × (List (Int × Int × Unit)) × Unit) × (Unit))) : Option (((Int × Int × Int × (List (Int × Int × Unit)) × Unit) × (Unit)) ⊕ (Y14 ⊕ ((Unit) × (Unit)))) :=
let x36 := (decide ((v.1.1 : Int) < (v.1.2.2.2.1.length : Int)))
bif x36 then (Abs.rowAt v.1.2.2.2.1 v.1.1 fun e37 _ =>
let x38 := (if (v.1.2.1 : Int) < v.1.2.2.1 then v.1.2.1 else v.1.2.2.1)
let x39 := (if (v.1.2.1 : Int) > v.1.2.2.1 then v.1.2.1 else v.1.2.2.1)
let x40 := (((e37.1 : Int) == x38) && (((e37.2.1 : Int) == x39) && true))
bif x40 then (some (.inr (.inl ((true, ()), ()))))
else (some (.inl (((w64 (v.1.1 + 1)), (v.1.2.1, (v.1.2.2.1, (v.1.2.2.2.1, ())))), ()))))
else (some (.inr (.inr ((), ()))))

/- pagewatch/pagewatchref34.isCut -/
def i113 : Abs.Sg := ⟨[0, 1, 2], (.dat (.row Z16) (.dat (.int .i64) (.dat (.int .i64) .nil))), .nil⟩

def o113 : Abs.Sg := ⟨[6], (.dat .bool .nil), .nil⟩

def m113 (v : (((List (Int × Int × Unit)) × Int × Int × Unit) × (Unit))) : Option Y14 :=
(loopT l113_0_2 ((0, (v.1.2.2.1, (v.1.2.1, (v.1.1, ())))), ())).bind fun d41 =>
sumE d41 (fun d42 => (some ((d42.1.1, ()), ()))) (fun d43 => (some ((false, ()), ())))

def sp113 : Abs.Spec := ⟨0, i113, o113, m113⟩

def an113 : Nat → Abs.FAn
  | 0 => Abs.FAn.mk (fun _ => none) (fun _ => none) (fun
    | 2 => some ⟨⟨[7, 2, 1, 0], (.dat (.int .i64) (.dat (.int .i64) (.dat (.int .i64) (.dat (.row Z16) .nil)))), .nil⟩, (.more .ret ⟨[6], (.dat .bool .nil), .nil⟩ (.one (.exit 0) ⟨[], .nil, .nil⟩))⟩
    | _ => none) (fun _ _ => 0)
  | _ => {}

theorem ok113 : Abs.SpecOK Try.prog 113 sp113 :=
  Abs.specOK_of (n := 12) (an := an113) (T := Abs.tabOf []) good foll (Abs.tabOf_ok _ (fun _ h => by cases h)) rfl (by intro v; kernel_rfl)

def l71_0_5 (v : ((Int × Int × Unit) × (Y10 × Unit))) : Option (((Int × Int × Unit) × (Y10 × Unit)) ⊕ (Y14 ⊕ ((Int × Unit) × (Y10 × Unit)))) :=
bif (decide ((v.1.1 : Int) < v.1.2.1)) then (((Abs.rowAt v.2.1.1.1 v.1.1 fun e113 _ =>
bif ((e113.1 : Int) != v.1.1) then (some ((true, (v.1.2.1, (v.1.1, ()))), ((v.2.1.1, ()), ())))
else (Abs.rowAt v.2.1.1.1 v.1.1 fun e114 _ =>
(m27 ((v.1.2.1, (e114, ())), ())).bind fun u115 =>
some (((!u115.1.1), (v.1.2.1, (v.1.1, ()))), ((v.2.1.1, ()), ())))) : Option ((Bool × Int × Int × Unit) × (Y10 × Unit))).bind fun v116 =>
bif v116.1.1 then (some (.inr (.inl ((false, ()), ()))))
else (some (.inl (((w64 (v116.1.2.2.1 + 1)), (v116.1.2.1, ())), ((v116.2.1.1, ()), ())))))
else (some (.inr (.inr ((v.1.2.1, ()), ((v.2.1.1, ()), ())))))

def l71_0_10 (v : ((Int × Int × Unit) × (Y10 × Unit))) : Option (((Int × Int × Unit) × (Y10 × Unit)) ⊕ (Y14 ⊕ ((Int × Unit) × (Y10 × Unit)))) :=
let x120 := (decide ((v.1.1 : Int) < (v.2.1.1.2.1.length : Int)))
bif x120 then (Abs.rowAt v.2.1.1.2.1 v.1.1 fun e121 _ =>
(((m45 ((e121.2.1, (0, ((w64 (v.1.2.1 - 1)), ()))), ())).bind fun u122 =>
bif (!u122.1.1) then (some ((true, (v.1.2.1, (v.1.1, ()))), ((v.2.1.1, ()), ())))
else ((m45 ((e121.2.2.1, (0, ((w64 (v.1.2.1 - 1)), ()))), ())).bind fun u123 =>
bif (!u123.1.1) then (some ((true, (v.1.2.1, (v.1.1, ()))), ((v.2.1.1, ()), ())))
else (some ((((e121.2.1 : Int) == e121.2.2.1), (v.1.2.1, (v.1.1, ()))), ((v.2.1.1, ()), ()))))) : Option ((Bool × Int × Int × Unit) × (Y10 × Unit))).bind fun v124 =>
bif v124.1.1 then (some (.inr (.inl ((false, ()), ()))))
else (some (.inl (((w64 (v124.1.2.2.1 + 1)), (v124.1.2.1, ())), ((v124.2.1.1, ()), ())))))
else (some (.inr (.inr ((v.1.2.1, ()), ((v.2.1.1, ()), ())))))

def l71_0_16 (v : ((Int × Int × Unit) × (Y10 × Unit))) : Option (((Int × Int × Unit) × (Y10 × Unit)) ⊕ (Y14 ⊕ ((Unit) × (Unit)))) :=
let x128 := (decide ((v.1.1 : Int) < (v.2.1.1.2.2.2.1.length : Int)))
bif x128 then (Abs.rowAt v.2.1.1.2.2.2.1 v.1.1 fun e129 _ =>
((bif (decide ((e129.1 : Int) < 0)) then (some ((true, (v.1.2.1, (v.1.1, ()))), ((v.2.1.1, ()), ())))
else (bif (decide ((e129.1 : Int) ≥ e129.2.1)) then (some ((true, (v.1.2.1, (v.1.1, ()))), ((v.2.1.1, ()), ())))
else (bif (decide ((e129.2.1 : Int) ≥ v.1.2.1)) then (some ((true, (v.1.2.1, (v.1.1, ()))), ((v.2.1.1, ()), ())))
else (bif (decide ((0 : Int) ≤ v.1.1)) then
bif (decide (0 ≤ v.1.1.toNat ∧ v.1.1.toNat ≤ v.2.1.1.2.2.2.1.length)) then
(m113 (((v.2.1.1.2.2.2.1.take v.1.1.toNat), (e129.1, (e129.2.1, ()))), ())).bind fun u130 =>
some ((u130.1.1, (v.1.2.1, (v.1.1, ()))), ((v.2.1.1, ()), ()))
else none
else none)))) : Option ((Bool × Int × Int × Unit) × (Y10 × Unit))).bind fun v131 =>
bif v131.1.1 then (some (.inr (.inl ((false, ()), ()))))
else (some (.inl (((w64 (v131.1.2.2.1 + 1)), (v131.1.2.1, ())), ((v131.2.1.1, ()), ())))))
else (some (.inr (.inr ((), ()))))

/- pagewatch/pagewatchref34.Check -/
def i71 : Abs.Sg := ⟨[0], (.dat Z8 .nil), .nil⟩

def o71 : Abs.Sg := ⟨[2], (.dat .bool .nil), .nil⟩

def m71 (v : (Y10 × (Unit))) : Option Y14 :=
(((m29 (((v.1.1.1.length : Int), ()), ())).bind fun u109 =>
bif ((u109.1.1 : Int) == 0) then (some ((true, ((v.1.1.1.length : Int), ())), ((v.1.1, ()), ())))
else (let x110 := (((v.1.1.2.2.1.length : Int) : Int) != (v.1.1.1.length : Int))
bif x110 then (some ((true, ((v.1.1.1.length : Int), ())), ((v.1.1, ()), ())))
else (let x111 := (decide (((v.1.1.2.1.length : Int) : Int) > 256))
some ((x111, ((v.1.1.1.length : Int), ())), ((v.1.1, ()), ()))))) : Option ((Bool × Int × Unit) × (Y10 × Unit))).bind fun v112 =>
bif v112.1.1 then (some ((false, ()), ()))
else ((loopT l71_0_5 ((0, (v112.1.2.1, ())), ((v112.2.1.1, ()), ()))).bind fun d117 =>
sumE d117 (fun d118 => (some ((d118.1.1, ()), ()))) (fun d119 => ((loopT l71_0_10 ((0, (d119.1.1, ())), ((d119.2.1.1, ()), ()))).bind fun d125 =>
sumE d125 (fun d126 => (some ((d126.1.1, ()), ()))) (fun d127 => ((loopT l71_0_16 ((0, (d127.1.1, ())), ((d127.2.1.1, ()), ()))).bind fun d132 =>
sumE d132 (fun d133 => (some ((d133.1.1, ()), ()))) (fun d134 => (some ((true, ()), ()))))))))

def sp71 : Abs.Spec := ⟨0, i71, o71, m71⟩

def an71 : Nat → Abs.FAn
  | 0 => Abs.FAn.mk (fun
    | 19 => some ⟨[122, 1, 3, 7], (.dat .bool (.st (.ptr (0, 0) 4 0 0) (.dat (.int .i64) (.dat (.int .i64) .nil)))), (.box 4 (.dat Z8 .nil) .nil)⟩
    | 13 => some ⟨[83, 3, 1, 5], (.dat .bool (.dat (.int .i64) (.st (.ptr (0, 0) 4 0 0) (.dat (.int .i64) .nil)))), (.box 4 (.dat Z8 .nil) .nil)⟩
    | 7 => some ⟨[50, 1, 3, 4], (.dat .bool (.st (.ptr (0, 0) 4 0 0) (.dat (.int .i64) (.dat (.int .i64) .nil)))), (.box 4 (.dat Z8 .nil) .nil)⟩
    | 2 => some ⟨[27, 1, 3], (.dat .bool (.st (.ptr (0, 0) 4 0 0) (.dat (.int .i64) .nil))), (.box 4 (.dat Z8 .nil) .nil)⟩
    | _ => none) (fun _ => none) (fun
    | 16 => some ⟨⟨[7, 1, 3], (.dat (.int .i64) (.st (.ptr (0, 0) 4 0 0) (.dat (.int .i64) .nil))), (.box 4 (.dat Z8 .nil) .nil)⟩, (.more .ret ⟨[2], (.dat .bool .nil), .nil⟩ (.one (.exit 4) ⟨[], .nil, .nil⟩))⟩
    | 10 => some ⟨⟨[5, 3, 1], (.dat (.int .i64) (.dat (.int .i64) (.st (.ptr (0, 0) 4 0 0) .nil))), (.box 4 (.dat Z8 .nil) .nil)⟩, (.more .ret ⟨[2], (.dat .bool .nil), .nil⟩ (.one (.exit 2) ⟨[1, 3], (.st (.ptr (0, 0) 4 0 0) (.dat (.int .i64) .nil)), (.box 4 (.dat Z8 .nil) .nil)⟩))⟩
    | 5 => some ⟨⟨[4, 1, 3], (.dat (.int .i64) (.st (.ptr (0, 0) 4 0 0) (.dat (.int .i64) .nil))), (.box 4 (.dat Z8 .nil) .nil)⟩, (.more .ret ⟨[2], (.dat .bool .nil), .nil⟩ (.one (.exit 0) ⟨[3, 1], (.dat (.int .i64) (.st (.ptr (0, 0) 4 0 0) .nil)), (.box 4 (.dat Z8 .nil) .nil)⟩))⟩
    | _ => none) (fun _ _ => 0)
  | _ => {}

theorem ok71 : Abs.SpecOK Try.prog 71 sp71 :=
  Abs.specOK_of (n := 12) (an := an71) (T := Abs.tabOf [(29, sp29), (27, sp27), (45, sp45), (113, sp113)]) good foll (Abs.tabOf_ok _ (by simp only [List.forall_mem_cons]; exact ⟨ok29, ok27, ok45, ok113, fun _ h => by cases h⟩)) rfl (by intro v; kernel_rfl)

/- pagewatch/pagewatchref34.ready -/
def i114 : Abs.Sg := ⟨[0, 1], (.dat Z8 (.dat (.int .i64) .nil)), .nil⟩

def o114 : Abs.Sg := ⟨[4], (.dat (.int .i64) .nil), .nil⟩

def m114 (v : Y18) : Option ((Int × Unit) × (Unit)) :=
(m71 ((v.1.1, ()), ())).bind fun u8 =>
bif (!u8.1.1) then (some ((8, ()), ()))
else ((m45 ((v.1.2.1, (0, ((w64 ((v.1.1.1.length : Int) - 1)), ()))), ())).bind fun u9 =>
bif (!u9.1.1) then (some ((3, ()), ()))
else (some ((0, ()), ())))

def sp114 : Abs.Spec := ⟨0, i114, o114, m114⟩

def an114 : Nat → Abs.FAn
  | _ => {}

theorem ok114 : Abs.SpecOK Try.prog 114 sp114 :=
  Abs.specOK_of (n := 12) (an := an114) (T := Abs.tabOf [(71, sp71), (45, sp45)]) good foll (Abs.tabOf_ok _ (by simp only [List.forall_mem_cons]; exact ⟨ok71, ok45, fun _ h => by cases h⟩)) rfl (by intro v; kernel_rfl)

/- pagewatch/pagewatchref32.Copy -/
def i80 : Abs.Sg := ⟨[0], (.dat Z3 .nil), .nil⟩

def o80 : Abs.Sg := ⟨[2], (.st (.ptr (0, 0) 8 0 0) .nil), (.box 8 (.agg (.dat (.int .i64) (.dat (.int .i64) (.dat (.int .i64) (.dat (.int .i64) (.st (.own Z1 (1, 0)) (.dat (.int .i64) (.st (.own .bool (2, 0)) (.st (.own (.int .i64) (3, 0)) .nil)))))))) .nil) (.arr Z1 false (.arr .bool false (.arr (.int .i64) false .nil))))⟩

def m80 (v : ((Y5 × Unit) × (Unit))) : Option ((Unit) × (Y11 × Y2 × (List Bool) × (List Int) × Unit)) :=
bif (decide (0 + v.1.1.2.2.2.2.1.length ≤ 4294967296)) then
bif (decide (0 + v.1.1.2.2.2.2.2.2.1.length ≤ 4294967296)) then
bif (decide (0 + v.1.1.2.2.2.2.2.2.2.1.length ≤ 4294967296)) then
some ((), (((v.1.1.1, (v.1.1.2.1, (v.1.1.2.2.1, (v.1.1.2.2.2.1, (v.1.1.2.2.2.2.2.1, ()))))), ()), (v.1.1.2.2.2.2.1, (v.1.1.2.2.2.2.2.2.1, (v.1.1.2.2.2.2.2.2.2.1, ())))))
else none
else none
else none

def sp80 : Abs.Spec := ⟨0, i80, o80, m80⟩

def an80 : Nat → Abs.FAn
  | _ => {}

theorem ok80 : Abs.SpecOK Try.prog 80 sp80 :=
  Abs.specOK_of (n := 12) (an := an80) (T := Abs.tabOf []) good foll (Abs.tabOf_ok _ (fun _ h => by cases h)) rfl (by intro v; kernel_rfl)

def l115_0_3 (v : ((Int × Unit) × (((Unit) × Unit) × Y10 × ((Unit) × Unit) × (List Y5) × Unit))) : Option (((Int × Unit) × (((Unit) × Unit) × Y10 × ((Unit) × Unit) × (List Y5) × Unit)) ⊕ ((Unit) × (((Unit) × Unit) × Y10 × ((Unit) × Unit) × (List Y5) × Unit))) :=
let x66 := (decide ((v.1.1 : Int) < (v.2.2.1.1.1.length : Int)))
bif x66 then (Abs.rowAt v.2.2.1.1.1 v.1.1 fun e67 _ =>
(m80 ((e67, ()), ())).bind fun u68 =>
bif (decide (v.2.2.2.2.1.length + ([(u68.2.1.1.1, (u68.2.1.1.2.1, (u68.2.1.1.2.2.1, (u68.2.1.1.2.2.2.1, (u68.2.2.1, (u68.2.1.1.2.2.2.2.1, (u68.2.2.2.1, (u68.2.2.2.2.1, ()))))))))] : List Y5).length ≤ 4294967296)) then
let x69 := (v.2.2.2.2.1 ++ ([(u68.2.1.1.1, (u68.2.1.1.2.1, (u68.2.1.1.2.2.1, (u68.2.1.1.2.2.2.1, (u68.2.2.1, (u68.2.1.1.2.2.2.2.1, (u68.2.2.2.1, (u68.2.2.2.2.1, ()))))))))] : List Y5))
some (.inl (((w64 (v.1.1 + 1)), ()), (((), ()), ((v.2.2.1.1, ()), (((), ()), (x69, ()))))))
else none)
else (some (.inr ((), (((), ()), ((v.2.2.1.1, ()), (((), ()), (v.2.2.2.2.1, ())))))))

def l115_0_7 (v : ((Int × Unit) × (((Unit) × Unit) × Y10 × ((Unit) × Unit) × (List Y5) × (List Y7) × Unit))) : Option (((Int × Unit) × (((Unit) × Unit) × Y10 × ((Unit) × Unit) × (List Y5) × (List Y7) × Unit)) ⊕ ((Unit) × (((Unit) × Unit) × ((Unit) × Unit) × Y10 × (List Y5) × (List Y7) × Unit))) :=
let x71 := (decide ((v.1.1 : Int) < (v.2.2.1.1.2.1.length : Int)))
bif x71 then (Abs.rowAt v.2.2.1.1.2.1 v.1.1 fun e72 _ =>
bif (decide (0 + e72.2.2.2.2.2.2.2.1.length ≤ 4294967296)) then
bif (decide (v.2.2.2.2.2.1.length + ([e72] : List Y7).length ≤ 4294967296)) then
let x73 := (v.2.2.2.2.2.1 ++ ([e72] : List Y7))
some (.inl (((w64 (v.1.1 + 1)), ()), (((), ()), ((v.2.2.1.1, ()), (((), ()), (v.2.2.2.2.1, (x73, ())))))))
else none
else none)
else (some (.inr ((), (((), ()), (((), ()), ((v.2.2.1.1, ()), (v.2.2.2.2.1, (v.2.2.2.2.2.1, ()))))))))

/- pagewatch/pagewatchref34.Copy -/
def i115 : Abs.Sg := ⟨[0], (.dat Z8 .nil), .nil⟩

def o115 : Abs.Sg := ⟨[2], (.st (.ptr (0, 0) 4 0 0) .nil), (.box 4 (.agg (.st (.own Z3 (1, 0)) (.st (.own Z4 (2, 0)) (.st (.own .bool (3, 0)) (.st (.own Z16 (4, 0)) .nil)))) .nil) (.arr Z3 false (.arr Z4 false (.arr .bool false (.arr Z16 false .nil)))))⟩

def m115 (v : (Y10 × (Unit))) : Option ((Unit) × (((Unit) × Unit) × (List Y5) × (List Y7) × (List Bool) × (List (Int × Int × Unit)) × Unit)) :=
(loopT l115_0_3 ((0, ()), (((), ()), ((v.1.1, ()), (((), ()), ([], ())))))).bind fun d70 =>
(loopT l115_0_7 ((0, ()), (((), ()), ((d70.2.2.1.1, ()), (((), ()), (d70.2.2.2.2.1, ([], ()))))))).bind fun d74 =>
bif (decide (0 + d74.2.2.2.1.1.2.2.1.length ≤ 4294967296)) then
bif (decide (0 + d74.2.2.2.1.1.2.2.2.1.length ≤ 4294967296)) then
some ((), (((), ()), (d74.2.2.2.2.1, (d74.2.2.2.2.2.1, (d74.2.2.2.1.1.2.2.1, (d74.2.2.2.1.1.2.2.2.1, ()))))))
else none
else none

def sp115 : Abs.Spec := ⟨0, i115, o115, m115⟩

def an115 : Nat → Abs.FAn
  | 0 => Abs.FAn.mk (fun _ => none) (fun _ => none) (fun
    | 7 => some ⟨⟨[5, 3, 1, 2], (.dat (.int .i64) (.st (.ptr (0, 0) 4 0 0) (.st (.ptr (1, 0) 4 0 0) (.st (.ptr (2, 0) 4 0 0) .nil)))), (.box 4 (.agg (.st (.own Z3 (3, 0)) (.st (.own Z4 (4, 0)) (.st .nil (.st .nil .nil)))) .nil) (.box 4 (.dat Z8 .nil) (.box 4 (.agg (.st .nil (.st .nil (.st .nil (.st .nil .nil)))) .nil) (.arr Z3 false (.arr Z4 false .nil)))))⟩, (.one (.exit 2) ⟨[2, 3, 1], (.st (.ptr (0, 0) 4 0 0) (.st (.ptr (1, 0) 4 0 0) (.st (.ptr (2, 0) 4 0 0) .nil))), (.box 4 (.agg (.st .nil (.st .nil (.st .nil (.st .nil .nil)))) .nil) (.box 4 (.agg (.st (.own Z3 (3, 0)) (.st (.own Z4 (4, 0)) (.st .nil (.st .nil .nil)))) .nil) (.box 4 (.dat Z8 .nil) (.arr Z3 false (.arr Z4 false .nil)))))⟩)⟩
    | 3 => some ⟨⟨[4, 3, 1, 2], (.dat (.int .i64) (.st (.ptr (0, 0) 4 0 0) (.st (.ptr (1, 0) 4 0 0) (.st (.ptr (2, 0) 4 0 0) .nil)))), (.box 4 (.agg (.st (.own Z3 (3, 0)) (.st .nil (.st .nil (.st .nil .nil)))) .nil) (.box 4 (.dat Z8 .nil) (.box 4 (.agg (.st .nil (.st .nil (.st .nil (.st .nil .nil)))) .nil) (.arr Z3 false .nil))))⟩, (.one (.exit 0) ⟨[3, 1, 2], (.st (.ptr (0, 0) 4 0 0) (.st (.ptr (1, 0) 4 0 0) (.st (.ptr (2, 0) 4 0 0) .nil))), (.box 4 (.agg (.st (.own Z3 (3, 0)) (.st .nil (.st .nil (.st .nil .nil)))) .nil) (.box 4 (.dat Z8 .nil) (.box 4 (.agg (.st .nil (.st .nil (.st .nil (.st .nil .nil)))) .nil) (.arr Z3 false .nil))))⟩)⟩
    | _ => none) (fun _ _ => 0)
  | _ => {}

theorem ok115 : Abs.SpecOK Try.prog 115 sp115 :=
  Abs.specOK_of (n := 12) (an := an115) (T := Abs.tabOf [(80, sp80)]) good foll (Abs.tabOf_ok _ (by simp only [List.forall_mem_cons]; exact ⟨ok80, fun _ h => by cases h⟩)) rfl (by intro v; kernel_rfl)

/- pagewatch/pagewatchref32.lead -/
def i86 : Abs.Sg := ⟨[0, 1], (.dat (.int .i64) (.dat Z3 .nil)), .nil⟩

def o86 : Abs.Sg := ⟨[4], (.st (.ptr (0, 0) 8 0 0) .nil), (.box 8 (.agg (.dat (.int .i64) (.dat (.int .i64) (.dat (.int .i64) (.dat (.int .i64) (.dat (.row Z1) (.dat (.int .i64) (.dat (.row .bool) (.st (.own (.int .i64) (1, 0)) .nil)))))))) .nil) (.arr (.int .i64) false .nil))⟩

def m86 (v : ((Int × Y5 × Unit) × (Unit))) : Option ((Unit) × (((Int × Int × Int × Int × Y2 × Int × (List Bool) × Unit) × Unit) × (List Int) × Unit)) :=
bif (decide ((0 : Int) ≤ v.1.1 ∧ (v.1.1 : Int) ≤ v.1.1 ∧ (v.1.1 : Int) ≤ 4294967296)) then
bif (decide ((0 : Int) ≤ v.1.2.1.1 ∧ (v.1.2.1.1 : Int) < (List.replicate v.1.1.toNat (0 : Int)).length)) then
bif (decide (v.1.2.1.1.toNat < (List.replicate v.1.1.toNat (0 : Int)).length)) then
some ((), (((v.1.2.1.1, (v.1.2.1.2.1, (v.1.2.1.2.2.1, (2, (v.1.2.1.2.2.2.2.1, (v.1.2.1.2.2.2.2.2.1, (v.1.2.1.2.2.2.2.2.2.1, ()))))))), ()), (((List.replicate v.1.1.toNat (0 : Int)).set v.1.2.1.1.toNat (v.1.2.1.2.2.2.2.1.length : Int)), ())))
else none
else none
else none

def sp86 : Abs.Spec := ⟨0, i86, o86, m86⟩

def an86 : Nat → Abs.FAn
  | _ => {}

theorem ok86 : Abs.SpecOK Try.prog 86 sp86 :=
  Abs.specOK_of (n := 12) (an := an86) (T := Abs.tabOf []) good foll (Abs.tabOf_ok _ (fun _ h => by cases h)) rfl (by intro v; kernel_rfl)

/- pagewatch/pagewatchref32.Last -/
def i22 : Abs.Sg := ⟨[0], (.dat Z3 .nil), .nil⟩

def o22 : Abs.Sg := ⟨[2], (.dat (.int .i64) .nil), .nil⟩

def m22 (v : ((Y5 × Unit) × (Unit))) : Option ((Int × Unit) × (Unit)) :=
bif (((v.1.1.2.2.2.2.1.length : Int) : Int) == 0) then (some ((0, ()), ()))
else (Abs.rowAt v.1.1.2.2.2.2.1 (w64 ((v.1.1.2.2.2.2.1.length : Int) - 1)) fun e2 _ =>
some ((e2.1, ()), ()))

def sp22 : Abs.Spec := ⟨0, i22, o22, m22⟩

def an22 : Nat → Abs.FAn
  | _ => {}

theorem ok22 : Abs.SpecOK Try.prog 22 sp22 :=
  Abs.specOK_of (n := 12) (an := an22) (T := Abs.tabOf []) good foll (Abs.tabOf_ok _ (fun _ h => by cases h)) rfl (by intro v; kernel_rfl)

def l30_0_13 (v : ((Int × Int × Unit) × ((Y5 × Unit) × ((Int × Int × Int × Int × Y2 × Int × (List Bool) × Unit) × Unit) × (List Y7) × Y11 × (List Int) × Unit))) : Option (((Int × Int × Unit) × ((Y5 × Unit) × ((Int × Int × Int × Int × Y2 × Int × (List Bool) × Unit) × Unit) × (List Y7) × Y11 × (List Int) × Unit)) ⊕ ((Unit) × (Y11 × (List Y7) × ((Int × Int × Int × Int × Y2 × Int × (List Bool) × Unit) × Unit) × (List Int) × Unit))) :=
bif (decide ((v.1.1 : Int) < v.1.2.1)) then (((bif ((v.1.1 : Int) != v.2.1.1.1) then ((m22 ((v.2.1.1, ()), ())).bind fun u36 =>
bif (decide (v.2.2.2.1.length + ([(1, (v.2.1.1.1, (v.1.1, (v.2.2.1.1.2.1, ((v.2.1.1.2.2.2.2.1.length : Int), (u36.1.1, (0, ([], (false, ())))))))))] : List Y7).length ≤ 4294967296)) then
let x37 := (v.2.2.2.1 ++ ([(1, (v.2.1.1.1, (v.1.1, (v.2.2.1.1.2.1, ((v.2.1.1.2.2.2.2.1.length : Int), (u36.1.1, (0, ([], (false, ())))))))))] : List Y7))
some ((v.1.2.1, (v.1.1, ())), ((v.2.1.1, ()), (((v.2.2.1.1.1, (v.2.2.1.1.2.1, (v.2.2.1.1.2.2.1, (v.2.2.1.1.2.2.2.1, (v.2.2.1.1.2.2.2.2.1, (v.2.2.1.1.2.2.2.2.2.1, (v.2.2.1.1.2.2.2.2.2.2.1, ()))))))), ()), (x37, (((v.2.2.2.2.1.1.1, (v.2.2.2.2.1.1.2.1, (v.2.2.2.2.1.1.2.2.1, (v.2.2.2.2.1.1.2.2.2.1, (v.2.2.2.2.1.1.2.2.2.2.1, ()))))), ()), (v.2.2.2.2.2.1, ()))))))
else none)
else (some ((v.1.2.1, (v.1.1, ())), ((v.2.1.1, ()), (((v.2.2.1.1.1, (v.2.2.1.1.2.1, (v.2.2.1.1.2.2.1, (v.2.2.1.1.2.2.2.1, (v.2.2.1.1.2.2.2.2.1, (v.2.2.1.1.2.2.2.2.2.1, (v.2.2.1.1.2.2.2.2.2.2.1, ()))))))), ()), (v.2.2.2.1, (((v.2.2.2.2.1.1.1, (v.2.2.2.2.1.1.2.1, (v.2.2.2.2.1.1.2.2.1, (v.2.2.2.2.1.1.2.2.2.1, (v.2.2.2.2.1.1.2.2.2.2.1, ()))))), ()), (v.2.2.2.2.2.1, ())))))))) : Option ((Int × Int × Unit) × ((Y5 × Unit) × ((Int × Int × Int × Int × Y2 × Int × (List Bool) × Unit) × Unit) × (List Y7) × Y11 × (List Int) × Unit))).bind fun v38 =>
some (.inl (((w64 (v38.1.2.1 + 1)), (v38.1.1, ())), ((v38.2.1.1, ()), (((v38.2.2.1.1.1, (v38.2.2.1.1.2.1, (v38.2.2.1.1.2.2.1, (v38.2.2.1.1.2.2.2.1, (v38.2.2.1.1.2.2.2.2.1, (v38.2.2.1.1.2.2.2.2.2.1, (v38.2.2.1.1.2.2.2.2.2.2.1, ()))))))), ()), (v38.2.2.2.1, (((v38.2.2.2.2.1.1.1, (v38.2.2.2.2.1.1.2.1, (v38.2.2.2.2.1.1.2.2.1, (v38.2.2.2.2.1.1.2.2.2.1, (v38.2.2.2.2.1.1.2.2.2.2.1, ()))))), ()), (v38.2.2.2.2.2.1, ()))))))))
else (some (.inr ((), (((v.2.2.2.2.1.1.1, (v.2.2.2.2.1.1.2.1, (v.2.2.2.2.1.1.2.2.1, (v.2.2.2.2.1.1.2.2.2.1, (v.2.2.2.2.1.1.2.2.2.2.1, ()))))), ()), (v.2.2.2.1, (((v.2.2.1.1.1, (v.2.2.1.1.2.1, (v.2.2.1.1.2.2.1, (v.2.2.1.1.2.2.2.1, (v.2.2.1.1.2.2.2.2.1, (v.2.2.1.1.2.2.2.2.2.1, (v.2.2.1.1.2.2.2.2.2.2.1, ()))))))), ()), (v.2.2.2.2.2.1, ())))))))

/- pagewatch/pagewatchref32.Stand -/
def i30 : Abs.Sg := ⟨[0, 1], (.dat (.int .i64) (.dat Z3 .nil)), .nil⟩

def o30 : Abs.Sg := ⟨[4, 5, 6], (.st (.ptr (0, 0) 8 0 0) (.st (.own Z4 (1, 0)) (.dat (.int .i64) .nil))), (.box 8 (.agg (.dat (.int .i64) (.dat (.int .i64) (.dat (.int .i64) (.dat (.int .i64) (.dat (.row Z1) (.dat (.int .i64) (.dat (.row .bool) (.st (.own (.int .i64) (2, 0)) .nil)))))))) .nil) (.arr Z4 false (.arr (.int .i64) false .nil)))⟩

def m30 (v : ((Int × Y5 × Unit) × (Unit))) : Option ((Int × Unit) × (((Int × Int × Int × Int × Y2 × Int × (List Bool) × Unit) × Unit) × (List Y7) × (List Int) × Unit)) :=
(m27 ((v.1.1, (v.1.2.1, ())), ())).bind fun u31 =>
bif (!u31.1.1) then (some ((8, ()), (((0, (0, (0, (0, ([], (0, ([], ()))))))), ()), ([], ([], ())))))
else (bif ((v.1.2.1.2.1 : Int) == 1048576) then (some ((5, ()), (((0, (0, (0, (0, ([], (0, ([], ()))))))), ()), ([], ([], ())))))
else ((m80 ((v.1.2.1, ()), ())).bind fun u32 =>
bif (decide ((0 : Int) ≤ v.1.1 ∧ (v.1.1 : Int) ≤ v.1.1 ∧ (v.1.1 : Int) ≤ 4294967296)) then
bif (decide ((0 : Int) ≤ v.1.2.1.1 ∧ (v.1.2.1.1 : Int) < (List.replicate v.1.1.toNat (false : Bool)).length)) then
bif (decide (v.1.2.1.1.toNat < (List.replicate v.1.1.toNat (false : Bool)).length)) then
(((m29 ((v.1.1, ()), ())).bind fun u33 =>
bif ((u33.1.1 : Int) == 1) then ((m86 ((v.1.1, ((u32.2.1.1.1, ((w64 (v.1.2.1.2.1 + 1)), (v.1.2.1.1, (1, (u32.2.2.1, (u32.2.1.1.2.2.2.2.1, (((List.replicate v.1.1.toNat (false : Bool)).set v.1.2.1.1.toNat true), ([], ())))))))), ())), ())).bind fun u34 =>
some ((v.1.1, ()), ((v.1.2.1, ()), (((u34.2.1.1.1, (u34.2.1.1.2.1, (u34.2.1.1.2.2.1, (u34.2.1.1.2.2.2.1, (u34.2.1.1.2.2.2.2.1, (u34.2.1.1.2.2.2.2.2.1, (u34.2.1.1.2.2.2.2.2.2.1, ()))))))), ()), (((0, (0, (0, (0, (0, ()))))), ()), (u34.2.2.1, ()))))))
else (some ((v.1.1, ()), ((v.1.2.1, ()), (((u32.2.1.1.1, ((w64 (v.1.2.1.2.1 + 1)), (v.1.2.1.1, (1, (u32.2.2.1, (u32.2.1.1.2.2.2.2.1, (((List.replicate v.1.1.toNat (false : Bool)).set v.1.2.1.1.toNat true), ()))))))), ()), (((0, (0, (0, (0, (0, ()))))), ()), ([], ()))))))) : Option ((Int × Unit) × ((Y5 × Unit) × ((Int × Int × Int × Int × Y2 × Int × (List Bool) × Unit) × Unit) × Y11 × (List Int) × Unit))).bind fun v35 =>
(loopT l30_0_13 ((0, (v35.1.1, ())), ((v35.2.1.1, ()), (((v35.2.2.1.1.1, (v35.2.2.1.1.2.1, (v35.2.2.1.1.2.2.1, (v35.2.2.1.1.2.2.2.1, (v35.2.2.1.1.2.2.2.2.1, (v35.2.2.1.1.2.2.2.2.2.1, (v35.2.2.1.1.2.2.2.2.2.2.1, ()))))))), ()), ([], (((v35.2.2.2.1.1.1, (v35.2.2.2.1.1.2.1, (v35.2.2.2.1.1.2.2.1, (v35.2.2.2.1.1.2.2.2.1, (v35.2.2.2.1.1.2.2.2.2.1, ()))))), ()), (v35.2.2.2.2.1, ()))))))).bind fun d39 =>
some ((0, ()), (((d39.2.2.2.1.1.1, (d39.2.2.2.1.1.2.1, (d39.2.2.2.1.1.2.2.1, (d39.2.2.2.1.1.2.2.2.1, (d39.2.2.2.1.1.2.2.2.2.1, (d39.2.2.2.1.1.2.2.2.2.2.1, (d39.2.2.2.1.1.2.2.2.2.2.2.1, ()))))))), ()), (d39.2.2.1, (d39.2.2.2.2.1, ()))))
else none
else none
else none))

def sp30 : Abs.Spec := ⟨0, i30, o30, m30⟩

def an30 : Nat → Abs.FAn
  | 0 => Abs.FAn.mk (fun _ => none) (fun
    | 14 => some (⟨[3, 7, 8, 4, 0, 9], (.st (.ptr (0, 0) 8 0 0) (.st (.ptr (1, 0) 8 0 0) (.st (.own Z4 (2, 0)) (.st (.ptr (3, 0) 8 0 0) (.dat (.int .i64) (.dat (.int .i64) .nil)))))), (.box 8 (.dat Z3 .nil) (.box 8 (.agg (.dat (.int .i64) (.dat (.int .i64) (.dat (.int .i64) (.dat (.int .i64) (.dat (.row Z1) (.dat (.int .i64) (.dat (.row .bool) (.st (.own (.int .i64) (4, 0)) .nil)))))))) .nil) (.arr Z4 false (.box 8 (.agg (.dat (.int .i64) (.dat (.int .i64) (.dat (.int .i64) (.dat (.int .i64) (.st .nil (.dat (.int .i64) (.st .nil (.st .nil .nil)))))))) .nil) (.arr (.int .i64) false .nil)))))⟩, none)
    | 11 => some (⟨[3, 7, 4, 0], (.st (.ptr (0, 0) 8 0 0) (.st (.ptr (1, 0) 8 0 0) (.st (.ptr (2, 0) 8 0 0) (.dat (.int .i64) .nil)))), (.box 8 (.dat Z3 .nil) (.box 8 (.agg (.dat (.int .i64) (.dat (.int .i64) (.dat (.int .i64) (.dat (.int .i64) (.dat (.row Z1) (.dat (.int .i64) (.dat (.row .bool) (.st (.own (.int .i64) (3, 0)) .nil)))))))) .nil) (.box 8 (.agg (.dat (.int .i64) (.dat (.int .i64) (.dat (.int .i64) (.dat (.int .i64) (.st .nil (.dat (.int .i64) (.st .nil (.st .nil .nil)))))))) .nil) (.arr (.int .i64) false .nil))))⟩, none)
    | _ => none) (fun
    | 13 => some ⟨⟨[9, 3, 7, 8, 4, 0], (.dat (.int .i64) (.st (.ptr (0, 0) 8 0 0) (.st (.ptr (1, 0) 8 0 0) (.st (.own Z4 (2, 0)) (.st (.ptr (3, 0) 8 0 0) (.dat (.int .i64) .nil)))))), (.box 8 (.dat Z3 .nil) (.box 8 (.agg (.dat (.int .i64) (.dat (.int .i64) (.dat (.int .i64) (.dat (.int .i64) (.dat (.row Z1) (.dat (.int .i64) (.dat (.row .bool) (.st (.own (.int .i64) (4, 0)) .nil)))))))) .nil) (.arr Z4 false (.box 8 (.agg (.dat (.int .i64) (.dat (.int .i64) (.dat (.int .i64) (.dat (.int .i64) (.st .nil (.dat (.int .i64) (.st .nil (.st .nil .nil)))))))) .nil) (.arr (.int .i64) false .nil)))))⟩, (.one (.exit 0) ⟨[4, 8, 7], (.st (.ptr (0, 0) 8 0 0) (.st (.own Z4 (1, 0)) (.st (.ptr (2, 0) 8 0 0) .nil))), (.box 8 (.agg (.dat (.int .i64) (.dat (.int .i64) (.dat (.int .i64) (.dat (.int .i64) (.st .nil (.dat (.int .i64) (.st .nil (.st .nil .nil)))))))) .nil) (.arr Z4 false (.box 8 (.agg (.dat (.int .i64) (.dat (.int .i64) (.dat (.int .i64) (.dat (.int .i64) (.dat (.row Z1) (.dat (.int .i64) (.dat (.row .bool) (.st (.own (.int .i64) (3, 0)) .nil)))))))) .nil) (.arr (.int .i64) false .nil))))⟩)⟩
    | _ => none) (fun _ _ => 0)
  | _ => {}

theorem ok30 : Abs.SpecOK Try.prog 30 sp30 :=
  Abs.specOK_of (n := 12) (an := an30) (T := Abs.tabOf [(27, sp27), (80, sp80), (29, sp29), (86, sp86), (22, sp22)]) good foll (Abs.tabOf_ok _ (by simp only [List.forall_mem_cons]; exact ⟨ok27, ok80, ok29, ok86, ok22, fun _ h => by cases h⟩)) rfl (by intro v; kernel_rfl)

/- pagewatch/pagewatchref34.Stand -/
def i116 : Abs.Sg := ⟨[0, 1], (.dat Z8 (.dat (.int .i64) .nil)), .nil⟩

def o116 : Abs.Sg := ⟨[4, 5], (.st (.ptr (0, 0) 4 0 0) (.dat (.int .i64) .nil)), (.box 4 (.agg (.st (.own Z3 (1, 0)) (.st (.own Z4 (2, 0)) (.st (.own .bool (3, 0)) (.st (.own Z16 (4, 0)) .nil)))) .nil) (.arr Z3 false (.arr Z4 false (.arr .bool false (.arr Z16 false .nil)))))⟩

def m116 (v : Y18) : Option Y19 :=
(m114 ((v.1.1, (v.1.2.1, ())), ())).bind fun u21 =>
bif ((u21.1.1 : Int) != 0) then (some ((u21.1.1, ()), (((), ()), ([], ([], ([], ([], ())))))))
else (Abs.rowAt v.1.1.2.2.1 v.1.2.1 fun e22 _ =>
bif e22 then (some ((21, ()), (((), ()), ([], ([], ([], ([], ())))))))
else ((m115 ((v.1.1, ()), ())).bind fun u23 =>
bif (decide ((0 : Int) ≤ v.1.2.1 ∧ (v.1.2.1 : Int) < u23.2.2.1.length)) then
(u23.2.2.1[v.1.2.1.toNat]?).bind fun e24 =>
(m30 (((v.1.1.1.length : Int), (e24, ())), ())).bind fun u25 =>
bif ((u25.1.1 : Int) != 0) then (some ((u25.1.1, ()), (((), ()), ([], ([], ([], ([], ())))))))
else (let x26 := (w64 (((u23.2.2.2.1.length : Nat) : Int) + ((u25.2.2.1.length : Nat) : Int)))
bif (decide ((x26 : Int) > 256)) then (some ((5, ()), (((), ()), ([], ([], ([], ([], ())))))))
else (bif (decide (u23.2.2.2.1.length + u25.2.2.1.length ≤ 4294967296)) then
bif (decide ((0 : Int) ≤ v.1.2.1 ∧ (v.1.2.1 : Int) < u23.2.2.1.length)) then
bif (decide (v.1.2.1.toNat < u23.2.2.1.length)) then
some ((0, ()), (((), ()), ((u23.2.2.1.set v.1.2.1.toNat (u25.2.1.1.1, (u25.2.1.1.2.1, (u25.2.1.1.2.2.1, (u25.2.1.1.2.2.2.1, (u25.2.1.1.2.2.2.2.1, (u25.2.1.1.2.2.2.2.2.1, (u25.2.1.1.2.2.2.2.2.2.1, (u25.2.2.2.1, ()))))))))), ((u23.2.2.2.1 ++ u25.2.2.1), (u23.2.2.2.2.1, (u23.2.2.2.2.2.1, ()))))))
else none
else none
else none))
else none))

def sp116 : Abs.Spec := ⟨0, i116, o116, m116⟩

def an116 : Nat → Abs.FAn
  | _ => {}

theorem ok116 : Abs.SpecOK Try.prog 116 sp116 :=
  Abs.specOK_of (n := 12) (an := an116) (T := Abs.tabOf [(114, sp114), (115, sp115), (30, sp30)]) good foll (Abs.tabOf_ok _ (by simp only [List.forall_mem_cons]; exact ⟨ok114, ok115, ok30, fun _ h => by cases h⟩)) rfl (by intro v; kernel_rfl)

/- pagewatch/pagewatchref34.wire -/
def i136 : Abs.Sg := ⟨[0, 1], (.dat Z8 (.dat (.int .i64) .nil)), .nil⟩

def o136 : Abs.Sg := ⟨[4], (.dat (.int .i64) .nil), .nil⟩

def m136 (v : Y18) : Option ((Int × Unit) × (Unit)) :=
(m71 ((v.1.1, ()), ())).bind fun u8 =>
bif (!u8.1.1) then (some ((8, ()), ()))
else ((m45 ((v.1.2.1, (0, ((w64 ((v.1.1.2.1.length : Int) - 1)), ()))), ())).bind fun u9 =>
bif (!u9.1.1) then (some ((3, ()), ()))
else (some ((0, ()), ())))

def sp136 : Abs.Spec := ⟨0, i136, o136, m136⟩

def an136 : Nat → Abs.FAn
  | _ => {}

theorem ok136 : Abs.SpecOK Try.prog 136 sp136 :=
  Abs.specOK_of (n := 12) (an := an136) (T := Abs.tabOf [(71, sp71), (45, sp45)]) good foll (Abs.tabOf_ok _ (by simp only [List.forall_mem_cons]; exact ⟨ok71, ok45, fun _ h => by cases h⟩)) rfl (by intro v; kernel_rfl)

/- pagewatch/pagewatchref34.Drop -/
def i119 : Abs.Sg := ⟨[0, 1], (.dat Z8 (.dat (.int .i64) .nil)), .nil⟩

def o119 : Abs.Sg := ⟨[4, 5], (.st (.ptr (0, 0) 4 0 0) (.dat (.int .i64) .nil)), (.box 4 (.agg (.st (.own Z3 (1, 0)) (.dat (.row Z4) (.st (.own .bool (2, 0)) (.st (.own Z16 (3, 0)) .nil)))) .nil) (.arr Z3 false (.arr .bool false (.arr Z16 false .nil))))⟩

def m119 (v : Y18) : Option ((Int × Unit) × ((((List Y7) × Unit) × Unit) × (List Y5) × (List Bool) × (List (Int × Int × Unit)) × Unit)) :=
(m136 ((v.1.1, (v.1.2.1, ())), ())).bind fun u15 =>
bif ((u15.1.1 : Int) != 0) then (some ((u15.1.1, ()), ((([], ()), ()), ([], ([], ([], ()))))))
else ((m115 ((v.1.1, ()), ())).bind fun u16 =>
((bif (decide ((0 : Int) ≤ v.1.2.1)) then
bif (decide ((0 : Int) ≤ v.1.2.1)) then
bif (decide (0 ≤ v.1.2.1.toNat ∧ v.1.2.1.toNat = v.1.2.1.toNat ∧ v.1.2.1.toNat ≤ u16.2.2.2.1.length)) then
bif (decide ((0 : Int) ≤ (w64 (v.1.2.1 + 1)))) then
bif (decide ((w64 (v.1.2.1 + 1)).toNat ≤ u16.2.2.2.1.length ∧ u16.2.2.2.1.length ≤ u16.2.2.2.1.length)) then
bif (decide ((w64 (v.1.2.1 + 1)).toNat + (u16.2.2.2.1.length - (w64 (v.1.2.1 + 1)).toNat) ≤ u16.2.2.2.1.length)) then
bif (u16.2.2.2.1.take v.1.2.1.toNat).isEmpty then (bif (decide ((u16.2.2.2.1.take v.1.2.1.toNat).length + ((u16.2.2.2.1.drop (w64 (v.1.2.1 + 1)).toNat).take (u16.2.2.2.1.length - (w64 (v.1.2.1 + 1)).toNat)).length ≤ 4294967296)) then
let x17 := ((u16.2.2.2.1.take v.1.2.1.toNat) ++ ((u16.2.2.2.1.drop (w64 (v.1.2.1 + 1)).toNat).take (u16.2.2.2.1.length - (w64 (v.1.2.1 + 1)).toNat)))
some ((), (((), ()), (((x17, ()), ()), (u16.2.2.1, (u16.2.2.2.2.1, (u16.2.2.2.2.2.1, ()))))))
else none)
else (bif ((u16.2.2.2.1.drop (w64 (v.1.2.1 + 1)).toNat).take (u16.2.2.2.1.length - (w64 (v.1.2.1 + 1)).toNat)).isEmpty then (some ((), (((), ()), ((((u16.2.2.2.1.take v.1.2.1.toNat), ()), ()), (u16.2.2.1, (u16.2.2.2.2.1, (u16.2.2.2.2.2.1, ())))))))
else (bif (decide ((u16.2.2.2.1.take v.1.2.1.toNat).length + ((u16.2.2.2.1.drop (w64 (v.1.2.1 + 1)).toNat).take (u16.2.2.2.1.length - (w64 (v.1.2.1 + 1)).toNat)).length ≤ 4294967296)) then
let x18 := ((u16.2.2.2.1.take v.1.2.1.toNat) ++ ((u16.2.2.2.1.drop (w64 (v.1.2.1 + 1)).toNat).take (u16.2.2.2.1.length - (w64 (v.1.2.1 + 1)).toNat)))
some ((), (((), ()), (((x18, ()), ()), (u16.2.2.1, (u16.2.2.2.2.1, (u16.2.2.2.2.2.1, ()))))))
else none))
else none
else none
else none
else none
else none
else none) : Option ((Unit) × (((Unit) × Unit) × (((List Y7) × Unit) × Unit) × (List Y5) × (List Bool) × (List (Int × Int × Unit)) × Unit))).bind fun v19 =>
some ((0, ()), (((v19.2.2.1.1.1, ()), ()), (v19.2.2.2.1, (v19.2.2.2.2.1, (v19.2.2.2.2.2.1, ()))))))

def sp119 : Abs.Spec := ⟨0, i119, o119, m119⟩

def an119 : Nat → Abs.FAn
  | 0 => Abs.FAn.mk (fun
    | 5 => some ⟨[4, 7], (.st (.ptr (0, 0) 4 0 0) (.st (.ptr (1, 0) 4 0 0) .nil)), (.box 4 (.agg (.st .nil (.st .nil (.st .nil (.st .nil .nil)))) .nil) (.box 4 (.agg (.st (.own Z3 (2, 0)) (.dat (.row Z4) (.st (.own .bool (3, 0)) (.st (.own Z16 (4, 0)) .nil)))) .nil) (.arr Z3 false (.arr .bool false (.arr Z16 false .nil)))))⟩
    | _ => none) (fun _ => none) (fun _ => none) (fun _ _ => 0)
  | _ => {}

theorem ok119 : Abs.SpecOK Try.prog 119 sp119 :=
  Abs.specOK_of (n := 12) (an := an119) (T := Abs.tabOf [(136, sp136), (115, sp115)]) good foll (Abs.tabOf_ok _ (by simp only [List.forall_mem_cons]; exact ⟨ok136, ok115, fun _ h => by cases h⟩)) rfl (by intro v; kernel_rfl)

/- pagewatch/pagewatchref32.To -/
def i88 : Abs.Sg := ⟨[0, 1, 2, 3], (.dat (.int .i64) (.dat Z3 (.dat Z4 (.dat (.int .i64) .nil)))), .nil⟩

def o88 : Abs.Sg := ⟨[8], (.dat .bool .nil), .nil⟩

def m88 (v : ((Int × Y5 × Y7 × Int × Unit) × (Unit))) : Option Y14 :=
(((m27 ((v.1.1, (v.1.2.1, ())), ())).bind fun u7 =>
bif u7.1.1 then (bif ((v.1.2.2.1.1 : Int) == v.1.2.2.2.1) then (bif ((v.1.2.2.1.2.2.1 : Int) == v.1.2.1.1) then ((m45 ((v.1.2.2.1.2.1, (0, ((w64 (v.1.1 - 1)), ()))), ())).bind fun u8 =>
bif u8.1.1 then (bif ((v.1.2.2.1.2.1 : Int) != v.1.2.1.1) then ((m45 ((v.1.2.2.1.2.2.2.1, (1, (1048576, ()))), ())).bind fun u9 =>
some ((u9.1.1, ()), ()))
else (some ((false, ()), ())))
else (some ((false, ()), ())))
else (some ((false, ()), ())))
else (some ((false, ()), ())))
else (some ((false, ()), ()))) : Option Y14).bind fun v10 =>
some ((v10.1.1, ()), ())

def sp88 : Abs.Spec := ⟨0, i88, o88, m88⟩

def an88 : Nat → Abs.FAn
  | 0 => Abs.FAn.mk (fun
    | 1 => some ⟨[8], (.dat .bool .nil), .nil⟩
    | _ => none) (fun _ => none) (fun _ => none) (fun _ _ => 0)
  | _ => {}

theorem ok88 : Abs.SpecOK Try.prog 88 sp88 :=
  Abs.specOK_of (n := 12) (an := an88) (T := Abs.tabOf [(27, sp27), (45, sp45)]) good foll (Abs.tabOf_ok _ (by simp only [List.forall_mem_cons]; exact ⟨ok27, ok45, fun _ h => by cases h⟩)) rfl (by intro v; kernel_rfl)

/- pagewatch/pagewatchref32.Follow -/
def i89 : Abs.Sg := ⟨[0, 1], (.dat Z3 (.dat (.int .i64) .nil)), .nil⟩

def o89 : Abs.Sg := ⟨[4], (.st (.ptr (0, 0) 8 0 0) .nil), (.box 8 (.dat Z3 .nil) .nil)⟩

def m89 (v : ((Y5 × Int × Unit) × (Unit))) : Option ((Unit) × ((Y5 × Unit) × Unit)) :=
((bif (decide ((v.1.2.1 : Int) > v.1.1.2.1)) then (some ((), (((0, (0, (0, (0, (0, ()))))), ()), (((v.1.1.1, (v.1.2.1, ((-1), (0, (v.1.1.2.2.2.2.1, (v.1.1.2.2.2.2.2.1, ([], ([], ())))))))), ()), ()))))
else (some ((), (((0, (0, (0, (0, (0, ()))))), ()), ((v.1.1, ()), ()))))) : Option ((Unit) × (Y11 × (Y5 × Unit) × Unit))).bind fun v1 =>
some ((), ((v1.2.2.1.1, ()), ()))

def sp89 : Abs.Spec := ⟨0, i89, o89, m89⟩

def an89 : Nat → Abs.FAn
  | 0 => Abs.FAn.mk (fun _ => none) (fun
    | 3 => some (⟨[4, 2], (.st (.ptr (0, 0) 8 0 0) (.st (.ptr (1, 0) 8 0 0) .nil)), (.box 8 (.agg (.dat (.int .i64) (.dat (.int .i64) (.dat (.int .i64) (.dat (.int .i64) (.st .nil (.dat (.int .i64) (.st .nil (.st .nil .nil)))))))) .nil) (.box 8 (.dat Z3 .nil) .nil))⟩, none)
    | _ => none) (fun _ => none) (fun _ _ => 0)
  | _ => {}

theorem ok89 : Abs.SpecOK Try.prog 89 sp89 :=
  Abs.specOK_of (n := 12) (an := an89) (T := Abs.tabOf []) good foll (Abs.tabOf_ok _ (fun _ h => by cases h)) rfl (by intro v; kernel_rfl)

/- pagewatch/pagewatchref32.Fresh -/
def i38 : Abs.Sg := ⟨[0, 1, 2], (.dat Z3 (.dat (.int .i64) (.dat (.int .i64) .nil))), .nil⟩

def o38 : Abs.Sg := ⟨[6], (.dat .bool .nil), .nil⟩

def m38 (v : ((Y5 × Int × Int × Unit) × (Unit))) : Option Y14 :=
(((m22 ((v.1.1, ()), ())).bind fun u7 =>
bif (decide ((v.1.2.2.1 : Int) > u7.1.1)) then (some ((true, ()), ()))
else ((m22 ((v.1.1, ()), ())).bind fun u8 =>
bif ((v.1.2.2.1 : Int) == u8.1.1) then (let x9 := (decide ((v.1.2.1 : Int) ≥ (v.1.1.2.2.2.2.1.length : Int)))
some ((x9, ()), ()))
else (some ((false, ()), ())))) : Option Y14).bind fun v10 =>
some ((v10.1.1, ()), ())

def sp38 : Abs.Spec := ⟨0, i38, o38, m38⟩

def an38 : Nat → Abs.FAn
  | 0 => Abs.FAn.mk (fun
    | 1 => some ⟨[6], (.dat .bool .nil), .nil⟩
    | _ => none) (fun _ => none) (fun _ => none) (fun _ _ => 0)
  | _ => {}

theorem ok38 : Abs.SpecOK Try.prog 38 sp38 :=
  Abs.specOK_of (n := 12) (an := an38) (T := Abs.tabOf [(22, sp22)]) good foll (Abs.tabOf_ok _ (by simp only [List.forall_mem_cons]; exact ⟨ok22, fun _ h => by cases h⟩)) rfl (by intro v; kernel_rfl)

/- pagewatch/pagewatchref32.Hear -/
def i34 : Abs.Sg := ⟨[0, 1, 2], (.dat (.int .i64) (.dat Z3 (.dat Z4 .nil))), .nil⟩

def o34 : Abs.Sg := ⟨[6, 7, 8], (.st (.ptr (0, 0) 8 0 0) (.st (.ptr (1, 0) 9 0 0) (.dat .bool .nil))), (.box 8 (.dat Z3 .nil) (.box 9 (.agg (.dat (.int .i64) (.dat (.int .i64) (.dat (.int .i64) (.dat (.int .i64) (.dat (.int .i64) (.dat (.int .i64) (.dat (.int .i64) (.st .nil (.dat .bool .nil))))))))) .nil) .nil))⟩

def m34 (v : ((Int × Y5 × Y7 × Unit) × (Unit))) : Option ((Bool × Unit) × ((Y5 × Unit) × Y15 × Unit)) :=
(m88 ((v.1.1, (v.1.2.1, (v.1.2.2.1, (1, ())))), ())).bind fun u22 =>
bif (!u22.1.1) then ((m80 ((v.1.2.1, ()), ())).bind fun u23 =>
some ((false, ()), (((u23.2.1.1.1, (u23.2.1.1.2.1, (u23.2.1.1.2.2.1, (u23.2.1.1.2.2.2.1, (u23.2.2.1, (u23.2.1.1.2.2.2.2.1, (u23.2.2.2.1, (u23.2.2.2.2.1, ())))))))), ()), (((0, (0, (0, (0, (0, (0, (0, (false, ())))))))), ()), ()))))
else ((m80 ((v.1.2.1, ()), ())).bind fun u24 =>
(m89 (((u24.2.1.1.1, (u24.2.1.1.2.1, (u24.2.1.1.2.2.1, (u24.2.1.1.2.2.2.1, (u24.2.2.1, (u24.2.1.1.2.2.2.2.1, (u24.2.2.2.1, (u24.2.2.2.2.1, ())))))))), (v.1.2.2.1.2.2.2.1, ())), ())).bind fun u25 =>
((bif ((u25.2.1.1.2.1 : Int) == v.1.2.2.1.2.2.2.1) then (bif ((u25.2.1.1.2.2.1 : Int) == (-1)) then (bif ((u25.2.1.1.2.2.2.1 : Int) == 0) then ((m38 ((u25.2.1.1, (v.1.2.2.1.2.2.2.2.1, (v.1.2.2.1.2.2.2.2.2.1, ()))), ())).bind fun u26 =>
some ((u26.1.1, ()), (((0, (0, (0, (0, (0, ()))))), ()), (((0, (0, (0, (0, (0, (0, (0, (false, ())))))))), ()), ((u25.2.1.1, ()), ((v.1.2.2.1, ()), ((v.1.2.1, ()), ())))))))
else (some ((false, ()), (((0, (0, (0, (0, (0, ()))))), ()), (((0, (0, (0, (0, (0, (0, (0, (false, ())))))))), ()), ((u25.2.1.1, ()), ((v.1.2.2.1, ()), ((v.1.2.1, ()), ()))))))))
else (bif ((u25.2.1.1.2.2.1 : Int) == v.1.2.2.1.2.1) then (bif ((u25.2.1.1.2.2.2.1 : Int) == 0) then ((m38 ((u25.2.1.1, (v.1.2.2.1.2.2.2.2.1, (v.1.2.2.1.2.2.2.2.2.1, ()))), ())).bind fun u27 =>
some ((u27.1.1, ()), (((0, (0, (0, (0, (0, ()))))), ()), (((0, (0, (0, (0, (0, (0, (0, (false, ())))))))), ()), ((u25.2.1.1, ()), ((v.1.2.2.1, ()), ((v.1.2.1, ()), ())))))))
else (some ((false, ()), (((0, (0, (0, (0, (0, ()))))), ()), (((0, (0, (0, (0, (0, (0, (0, (false, ())))))))), ()), ((u25.2.1.1, ()), ((v.1.2.2.1, ()), ((v.1.2.1, ()), ()))))))))
else (some ((false, ()), (((0, (0, (0, (0, (0, ()))))), ()), (((0, (0, (0, (0, (0, (0, (0, (false, ())))))))), ()), ((u25.2.1.1, ()), ((v.1.2.2.1, ()), ((v.1.2.1, ()), ())))))))))
else (some ((false, ()), (((0, (0, (0, (0, (0, ()))))), ()), (((0, (0, (0, (0, (0, (0, (0, (false, ())))))))), ()), ((u25.2.1.1, ()), ((v.1.2.2.1, ()), ((v.1.2.1, ()), ())))))))) : Option ((Bool × Unit) × (Y11 × Y15 × (Y5 × Unit) × (Y7 × Unit) × (Y5 × Unit) × Unit))).bind fun v28 =>
((bif v28.1.1 then (some ((v28.1.1, ()), (((v28.2.1.1.1, (v28.2.1.1.2.1, (v28.2.1.1.2.2.1, (v28.2.1.1.2.2.2.1, (v28.2.1.1.2.2.2.2.1, ()))))), ()), (((v28.2.2.1.1.1, (v28.2.2.1.1.2.1, (v28.2.2.1.1.2.2.1, (v28.2.2.1.1.2.2.2.1, (v28.2.2.1.1.2.2.2.2.1, (v28.2.2.1.1.2.2.2.2.2.1, (v28.2.2.1.1.2.2.2.2.2.2.1, (v28.2.2.1.1.2.2.2.2.2.2.2.1, ())))))))), ()), (((v28.2.2.2.1.1.1, (v28.2.2.2.1.1.2.1, (v28.2.2.2.2.1.1.2.1, v28.2.2.2.1.1.2.2.2))), ()), ((v28.2.2.2.2.1.1, ()), ((v28.2.2.2.2.2.1.1, ()), ())))))))
else (some ((v28.1.1, ()), (((v28.2.1.1.1, (v28.2.1.1.2.1, (v28.2.1.1.2.2.1, (v28.2.1.1.2.2.2.1, (v28.2.1.1.2.2.2.2.1, ()))))), ()), (((v28.2.2.1.1.1, (v28.2.2.1.1.2.1, (v28.2.2.1.1.2.2.1, (v28.2.2.1.1.2.2.2.1, (v28.2.2.1.1.2.2.2.2.1, (v28.2.2.1.1.2.2.2.2.2.1, (v28.2.2.1.1.2.2.2.2.2.2.1, (v28.2.2.1.1.2.2.2.2.2.2.2.1, ())))))))), ()), ((v28.2.2.2.1.1, ()), ((v28.2.2.2.2.1.1, ()), ((v28.2.2.2.2.2.1.1, ()), ())))))))) : Option ((Bool × Unit) × (Y11 × Y15 × (Y5 × Unit) × (Y7 × Unit) × (Y5 × Unit) × Unit))).bind fun v29 =>
some ((true, ()), ((v29.2.2.2.1.1, ()), (((2, (v29.2.2.2.2.2.1.1.1, (v29.2.2.2.2.1.1.2.1, (v29.2.2.2.1.1.2.1, (0, (0, (0, (v29.1.1, ())))))))), ()), ()))))

def sp34 : Abs.Spec := ⟨0, i34, o34, m34⟩

def an34 : Nat → Abs.FAn
  | 0 => Abs.FAn.mk (fun
    | 4 => some ⟨[6, 7, 10, 9, 5, 4], (.st (.ptr (0, 0) 8 0 0) (.st (.ptr (1, 0) 9 0 0) (.dat .bool (.st (.ptr (2, 0) 8 0 0) (.st (.ptr (3, 0) 9 0 0) (.st (.ptr (4, 0) 8 0 0) .nil)))))), (.box 8 (.agg (.dat (.int .i64) (.dat (.int .i64) (.dat (.int .i64) (.dat (.int .i64) (.st .nil (.dat (.int .i64) (.st .nil (.st .nil .nil)))))))) .nil) (.box 9 (.agg (.dat (.int .i64) (.dat (.int .i64) (.dat (.int .i64) (.dat (.int .i64) (.dat (.int .i64) (.dat (.int .i64) (.dat (.int .i64) (.st .nil (.dat .bool .nil))))))))) .nil) (.box 8 (.dat Z3 .nil) (.box 9 (.dat Z4 .nil) (.box 8 (.dat Z3 .nil) .nil)))))⟩
    | _ => none) (fun
    | 7 => some (⟨[6, 7, 10, 9, 5, 4], (.st (.ptr (0, 0) 8 0 0) (.st (.ptr (1, 0) 9 0 0) (.dat .bool (.st (.ptr (2, 0) 8 0 0) (.st (.ptr (3, 0) 9 0 0) (.st (.ptr (4, 0) 8 0 0) .nil)))))), (.box 8 (.agg (.dat (.int .i64) (.dat (.int .i64) (.dat (.int .i64) (.dat (.int .i64) (.st .nil (.dat (.int .i64) (.st .nil (.st .nil .nil)))))))) .nil) (.box 9 (.agg (.dat (.int .i64) (.dat (.int .i64) (.dat (.int .i64) (.dat (.int .i64) (.dat (.int .i64) (.dat (.int .i64) (.dat (.int .i64) (.st .nil (.dat .bool .nil))))))))) .nil) (.box 8 (.dat Z3 .nil) (.box 9 (.dat Z4 .nil) (.box 8 (.dat Z3 .nil) .nil)))))⟩, none)
    | _ => none) (fun _ => none) (fun _ _ => 0)
  | _ => {}

theorem ok34 : Abs.SpecOK Try.prog 34 sp34 :=
  Abs.specOK_of (n := 12) (an := an34) (T := Abs.tabOf [(88, sp88), (80, sp80), (89, sp89), (38, sp38)]) good foll (Abs.tabOf_ok _ (by simp only [List.forall_mem_cons]; exact ⟨ok88, ok80, ok89, ok38, fun _ h => by cases h⟩)) rfl (by intro v; kernel_rfl)

def l37_0_11 (v : (Y20 × Y17)) : Option ((Y20 × Y17) ⊕ ((Int × Int × Unit) × Y17)) :=
bif (decide ((v.1.1 : Int) < v.1.2.2.1)) then (((bif (decide ((0 : Int) ≤ v.1.1 ∧ (v.1.1 : Int) < v.2.2.2.2.1.length)) then
(v.2.2.2.2.1[v.1.1.toNat]?).bind fun e42 =>
bif e42 then (some (((w64 (v.1.2.1 + 1)), (v.1.2.2.1, (v.1.1, ()))), (((v.2.1.1.1, (v.2.1.1.2.1, (v.2.1.1.2.2.1, (v.2.1.1.2.2.2.1, (v.2.1.1.2.2.2.2.1, ()))))), ()), (((v.2.2.1.1.1, (v.2.2.1.1.2.1, (v.2.2.1.1.2.2.1, (v.2.2.1.1.2.2.2.1, (v.2.2.1.1.2.2.2.2.1, ()))))), ()), (v.2.2.2.1, (v.2.2.2.2.1, (v.2.2.2.2.2.1, ())))))))
else (some ((v.1.2.1, (v.1.2.2.1, (v.1.1, ()))), (((v.2.1.1.1, (v.2.1.1.2.1, (v.2.1.1.2.2.1, (v.2.1.1.2.2.2.1, (v.2.1.1.2.2.2.2.1, ()))))), ()), (((v.2.2.1.1.1, (v.2.2.1.1.2.1, (v.2.2.1.1.2.2.1, (v.2.2.1.1.2.2.2.1, (v.2.2.1.1.2.2.2.2.1, ()))))), ()), (v.2.2.2.1, (v.2.2.2.2.1, (v.2.2.2.2.2.1, ())))))))
else none) : Option (Y20 × Y17)).bind fun v43 =>
some (.inl (((w64 (v43.1.2.2.1 + 1)), (v43.1.1, (v43.1.2.1, ()))), (((v43.2.1.1.1, (v43.2.1.1.2.1, (v43.2.1.1.2.2.1, (v43.2.1.1.2.2.2.1, (v43.2.1.1.2.2.2.2.1, ()))))), ()), (((v43.2.2.1.1.1, (v43.2.2.1.1.2.1, (v43.2.2.1.1.2.2.1, (v43.2.2.1.1.2.2.2.1, (v43.2.2.1.1.2.2.2.2.1, ()))))), ()), (v43.2.2.2.1, (v43.2.2.2.2.1, (v43.2.2.2.2.2.1, ()))))))))
else (some (.inr ((v.1.2.2.1, (v.1.2.1, ())), (((v.2.2.1.1.1, (v.2.2.1.1.2.1, (v.2.2.1.1.2.2.1, (v.2.2.1.1.2.2.2.1, (v.2.2.1.1.2.2.2.2.1, ()))))), ()), (((v.2.1.1.1, (v.2.1.1.2.1, (v.2.1.1.2.2.1, (v.2.1.1.2.2.2.1, (v.2.1.1.2.2.2.2.1, ()))))), ()), (v.2.2.2.1, (v.2.2.2.2.1, (v.2.2.2.2.2.1, ()))))))))

/- pagewatch/pagewatchref32.Voted -/
def i37 : Abs.Sg := ⟨[0, 1, 2], (.dat (.int .i64) (.dat Z3 (.dat Z4 .nil))), .nil⟩

def o37 : Abs.Sg := ⟨[6], (.st (.ptr (0, 0) 8 0 0) .nil), (.box 8 (.dat Z3 .nil) .nil)⟩

def m37 (v : ((Int × Y5 × Y7 × Unit) × (Unit))) : Option ((Unit) × ((Y5 × Unit) × Unit)) :=
(m80 ((v.1.2.1, ()), ())).bind fun u37 =>
(m88 ((v.1.1, (v.1.2.1, (v.1.2.2.1, (2, ())))), ())).bind fun u38 =>
bif (!u38.1.1) then (some ((), (((u37.2.1.1.1, (u37.2.1.1.2.1, (u37.2.1.1.2.2.1, (u37.2.1.1.2.2.2.1, (u37.2.2.1, (u37.2.1.1.2.2.2.2.1, (u37.2.2.2.1, (u37.2.2.2.2.1, ())))))))), ()), ())))
else (let x39 := (decide ((v.1.2.2.1.2.2.2.1 : Int) > v.1.2.1.2.1))
bif x39 then ((m89 (((u37.2.1.1.1, (u37.2.1.1.2.1, (u37.2.1.1.2.2.1, (u37.2.1.1.2.2.2.1, (u37.2.2.1, (u37.2.1.1.2.2.2.2.1, (u37.2.2.2.1, (u37.2.2.2.2.1, ())))))))), (v.1.2.2.1.2.2.2.1, ())), ())).bind fun u40 =>
some ((), ((u40.2.1.1, ()), ())))
else (((bif ((v.1.2.1.2.2.2.1 : Int) != 1) then (some ((true, (v.1.1, ())), (((0, (0, (0, (0, (0, ()))))), ()), (((u37.2.1.1.1, (u37.2.1.1.2.1, (u37.2.1.1.2.2.1, (u37.2.1.1.2.2.2.1, (u37.2.1.1.2.2.2.2.1, ()))))), ()), ((v.1.2.2.1, ()), (u37.2.2.1, (u37.2.2.2.1, (u37.2.2.2.2.1, ()))))))))
else (bif ((v.1.2.2.1.2.2.2.1 : Int) != v.1.2.1.2.1) then (some ((true, (v.1.1, ())), (((0, (0, (0, (0, (0, ()))))), ()), (((u37.2.1.1.1, (u37.2.1.1.2.1, (u37.2.1.1.2.2.1, (u37.2.1.1.2.2.2.1, (u37.2.1.1.2.2.2.2.1, ()))))), ()), ((v.1.2.2.1, ()), (u37.2.2.1, (u37.2.2.2.1, (u37.2.2.2.2.1, ()))))))))
else (some (((!v.1.2.2.1.2.2.2.2.2.2.2.2.1), (v.1.1, ())), (((0, (0, (0, (0, (0, ()))))), ()), (((u37.2.1.1.1, (u37.2.1.1.2.1, (u37.2.1.1.2.2.1, (u37.2.1.1.2.2.2.1, (u37.2.1.1.2.2.2.2.1, ()))))), ()), ((v.1.2.2.1, ()), (u37.2.2.1, (u37.2.2.2.1, (u37.2.2.2.2.1, ())))))))))) : Option ((Bool × Int × Unit) × (Y11 × Y11 × (Y7 × Unit) × Y2 × (List Bool) × (List Int) × Unit))).bind fun v41 =>
bif v41.1.1 then (some ((), (((v41.2.2.1.1.1, (v41.2.2.1.1.2.1, (v41.2.2.1.1.2.2.1, (v41.2.2.1.1.2.2.2.1, (v41.2.2.2.2.1, (v41.2.2.1.1.2.2.2.2.1, (v41.2.2.2.2.2.1, (v41.2.2.2.2.2.2.1, ())))))))), ()), ())))
else (bif (decide ((0 : Int) ≤ v41.2.2.2.1.1.2.1 ∧ (v41.2.2.2.1.1.2.1 : Int) < v41.2.2.2.2.2.1.length)) then
bif (decide (v41.2.2.2.1.1.2.1.toNat < v41.2.2.2.2.2.1.length)) then
(loopT l37_0_11 ((0, (0, (v41.1.2.1, ()))), (((v41.2.2.1.1.1, (v41.2.2.1.1.2.1, (v41.2.2.1.1.2.2.1, (v41.2.2.1.1.2.2.2.1, (v41.2.2.1.1.2.2.2.2.1, ()))))), ()), (((v41.2.1.1.1, (v41.2.1.1.2.1, (v41.2.1.1.2.2.1, (v41.2.1.1.2.2.2.1, (v41.2.1.1.2.2.2.2.1, ()))))), ()), (v41.2.2.2.2.1, ((v41.2.2.2.2.2.1.set v41.2.2.2.1.1.2.1.toNat true), (v41.2.2.2.2.2.2.1, ()))))))).bind fun d44 =>
(((m29 ((d44.1.1, ()), ())).bind fun u45 =>
bif (decide ((d44.1.2.1 : Int) ≥ u45.1.1)) then ((m86 ((d44.1.1, ((d44.2.2.1.1.1, (d44.2.2.1.1.2.1, (d44.2.2.1.1.2.2.1, (d44.2.2.1.1.2.2.2.1, (d44.2.2.2.1, (d44.2.2.1.1.2.2.2.2.1, (d44.2.2.2.2.1, (d44.2.2.2.2.2.1, ())))))))), ())), ())).bind fun u46 =>
some ((), (((d44.2.1.1.1, (d44.2.1.1.2.1, (d44.2.1.1.2.2.1, (d44.2.1.1.2.2.2.1, (d44.2.1.1.2.2.2.2.1, ()))))), ()), (((u46.2.1.1.1, (u46.2.1.1.2.1, (u46.2.1.1.2.2.1, (u46.2.1.1.2.2.2.1, (u46.2.1.1.2.2.2.2.1, (u46.2.1.1.2.2.2.2.2.1, (u46.2.1.1.2.2.2.2.2.2.1, ()))))))), ()), (u46.2.2.1, ())))))
else (some ((), (((d44.2.1.1.1, (d44.2.1.1.2.1, (d44.2.1.1.2.2.1, (d44.2.1.1.2.2.2.1, (d44.2.1.1.2.2.2.2.1, ()))))), ()), (((d44.2.2.1.1.1, (d44.2.2.1.1.2.1, (d44.2.2.1.1.2.2.1, (d44.2.2.1.1.2.2.2.1, (d44.2.2.2.1, (d44.2.2.1.1.2.2.2.2.1, (d44.2.2.2.2.1, ()))))))), ()), (d44.2.2.2.2.2.1, ())))))) : Option ((Unit) × (Y11 × ((Int × Int × Int × Int × Y2 × Int × (List Bool) × Unit) × Unit) × (List Int) × Unit))).bind fun v47 =>
some ((), (((v47.2.2.1.1.1, (v47.2.2.1.1.2.1, (v47.2.2.1.1.2.2.1, (v47.2.2.1.1.2.2.2.1, (v47.2.2.1.1.2.2.2.2.1, (v47.2.2.1.1.2.2.2.2.2.1, (v47.2.2.1.1.2.2.2.2.2.2.1, (v47.2.2.2.1, ())))))))), ()), ()))
else none
else none)))

def sp37 : Abs.Spec := ⟨0, i37, o37, m37⟩

def an37 : Nat → Abs.FAn
  | 0 => Abs.FAn.mk (fun
    | 6 => some ⟨[41, 6, 7, 0, 5], (.dat .bool (.st (.ptr (0, 0) 8 0 0) (.st (.ptr (1, 0) 8 0 0) (.dat (.int .i64) (.st (.ptr (2, 0) 9 0 0) .nil))))), (.box 8 (.agg (.dat (.int .i64) (.dat (.int .i64) (.dat (.int .i64) (.dat (.int .i64) (.st .nil (.dat (.int .i64) (.st .nil (.st .nil .nil)))))))) .nil) (.box 8 (.agg (.dat (.int .i64) (.dat (.int .i64) (.dat (.int .i64) (.dat (.int .i64) (.st (.own Z1 (3, 0)) (.dat (.int .i64) (.st (.own .bool (4, 0)) (.st (.own (.int .i64) (5, 0)) .nil)))))))) .nil) (.box 9 (.dat Z4 .nil) (.arr Z1 false (.arr .bool false (.arr (.int .i64) false .nil))))))⟩
    | _ => none) (fun
    | 17 => some (⟨[6, 7], (.st (.ptr (0, 0) 8 0 0) (.st (.ptr (1, 0) 8 0 0) .nil)), (.box 8 (.agg (.dat (.int .i64) (.dat (.int .i64) (.dat (.int .i64) (.dat (.int .i64) (.st .nil (.dat (.int .i64) (.st .nil (.st .nil .nil)))))))) .nil) (.box 8 (.agg (.dat (.int .i64) (.dat (.int .i64) (.dat (.int .i64) (.dat (.int .i64) (.dat (.row Z1) (.dat (.int .i64) (.dat (.row .bool) (.st (.own (.int .i64) (2, 0)) .nil)))))))) .nil) (.arr (.int .i64) false .nil)))⟩, none)
    | 12 => some (⟨[8, 7, 6, 0, 9], (.dat (.int .i64) (.st (.ptr (0, 0) 8 0 0) (.st (.ptr (1, 0) 8 0 0) (.dat (.int .i64) (.dat (.int .i64) .nil))))), (.box 8 (.agg (.dat (.int .i64) (.dat (.int .i64) (.dat (.int .i64) (.dat (.int .i64) (.st (.own Z1 (2, 0)) (.dat (.int .i64) (.st (.own .bool (3, 0)) (.st (.own (.int .i64) (4, 0)) .nil)))))))) .nil) (.box 8 (.agg (.dat (.int .i64) (.dat (.int .i64) (.dat (.int .i64) (.dat (.int .i64) (.st .nil (.dat (.int .i64) (.st .nil (.st .nil .nil)))))))) .nil) (.arr Z1 false (.arr .bool false (.arr (.int .i64) false .nil)))))⟩, none)
    | _ => none) (fun
    | 11 => some ⟨⟨[9, 8, 7, 6, 0], (.dat (.int .i64) (.dat (.int .i64) (.st (.ptr (0, 0) 8 0 0) (.st (.ptr (1, 0) 8 0 0) (.dat (.int .i64) .nil))))), (.box 8 (.agg (.dat (.int .i64) (.dat (.int .i64) (.dat (.int .i64) (.dat (.int .i64) (.st (.own Z1 (2, 0)) (.dat (.int .i64) (.st (.own .bool (3, 0)) (.st (.own (.int .i64) (4, 0)) .nil)))))))) .nil) (.box 8 (.agg (.dat (.int .i64) (.dat (.int .i64) (.dat (.int .i64) (.dat (.int .i64) (.st .nil (.dat (.int .i64) (.st .nil (.st .nil .nil)))))))) .nil) (.arr Z1 false (.arr .bool false (.arr (.int .i64) false .nil)))))⟩, (.one (.exit 0) ⟨[6, 7, 0, 8], (.st (.ptr (0, 0) 8 0 0) (.st (.ptr (1, 0) 8 0 0) (.dat (.int .i64) (.dat (.int .i64) .nil)))), (.box 8 (.agg (.dat (.int .i64) (.dat (.int .i64) (.dat (.int .i64) (.dat (.int .i64) (.st .nil (.dat (.int .i64) (.st .nil (.st .nil .nil)))))))) .nil) (.box 8 (.agg (.dat (.int .i64) (.dat (.int .i64) (.dat (.int .i64) (.dat (.int .i64) (.st (.own Z1 (2, 0)) (.dat (.int .i64) (.st (.own .bool (3, 0)) (.st (.own (.int .i64) (4, 0)) .nil)))))))) .nil) (.arr Z1 false (.arr .bool false (.arr (.int .i64) false .nil)))))⟩)⟩
    | _ => none) (fun _ _ => 0)
  | _ => {}

theorem ok37 : Abs.SpecOK Try.prog 37 sp37 :=
  Abs.specOK_of (n := 12) (an := an37) (T := Abs.tabOf [(80, sp80), (88, sp88), (89, sp89), (29, sp29), (86, sp86)]) good foll (Abs.tabOf_ok _ (by simp only [List.forall_mem_cons]; exact ⟨ok80, ok88, ok89, ok29, ok86, fun _ h => by cases h⟩)) rfl (by intro v; kernel_rfl)

def l94_0_2 (v : ((Int × Y2 × Y2 × Int × Unit) × (Unit))) : Option (((Int × Y2 × Y2 × Int × Unit) × (Unit)) ⊕ (((Int × Unit) × (Y2 × Unit)) ⊕ ((Y2 × Unit) × (Unit)))) :=
let x46 := (decide ((v.1.1 : Int) < (v.1.2.1.length : Int)))
bif x46 then (((let x47 := (decide (((w64 (v.1.2.2.2.1 + v.1.1)) : Int) ≥ (v.1.2.2.1.length : Int)))
bif x47 then (some ((true, (v.1.1, (v.1.2.1, (v.1.2.2.1, ((w64 (v.1.2.2.2.1 + v.1.1)), (v.1.2.2.2.1, ())))))), ()))
else (Abs.rowAt v.1.2.2.1 (w64 (v.1.2.2.2.1 + v.1.1)) fun e48 _ =>
Abs.rowAt v.1.2.1 v.1.1 fun e49 _ =>
some ((((e48.1 : Int) != e49.1), (v.1.1, (v.1.2.1, (v.1.2.2.1, ((w64 (v.1.2.2.2.1 + v.1.1)), (v.1.2.2.2.1, ())))))), ()))) : Option ((Bool × Int × Y2 × Y2 × Int × Int × Unit) × (Unit))).bind fun v50 =>
bif v50.1.1 then (let x51 := (if ((v50.1.2.2.2.1.length : Int) : Int) < v50.1.2.2.2.2.1 then (v50.1.2.2.2.1.length : Int) else v50.1.2.2.2.2.1)
bif (decide ((0 : Int) ≤ x51)) then
bif (decide (0 ≤ x51.toNat ∧ x51.toNat ≤ v50.1.2.2.2.1.length)) then
bif (decide (0 + (v50.1.2.2.2.1.take x51.toNat).length ≤ 4294967296)) then
bif (decide ((0 : Int) ≤ v50.1.2.1)) then
bif (decide (v50.1.2.1.toNat ≤ v50.1.2.2.1.length ∧ v50.1.2.2.1.length ≤ v50.1.2.2.1.length)) then
let x52 := ((v50.1.2.2.1.drop v50.1.2.1.toNat).take (v50.1.2.2.1.length - v50.1.2.1.toNat))
bif (decide ((v50.1.2.2.2.1.take x51.toNat).length + x52.length ≤ 4294967296)) then
some (.inr (.inl ((x51, ()), (((v50.1.2.2.2.1.take x51.toNat) ++ x52), ()))))
else none
else none
else none
else none
else none
else none)
else (some (.inl (((w64 (v50.1.2.1 + 1)), (v50.1.2.2.1, (v50.1.2.2.2.1, (v50.1.2.2.2.2.2.1, ())))), ()))))
else (some (.inr (.inr ((v.1.2.2.1, ()), ()))))

/- pagewatch/pagewatchref33.joined -/
def i94 : Abs.Sg := ⟨[0, 1, 2], (.dat (.row Z1) (.dat (.int .i64) (.dat (.row Z1) .nil))), .nil⟩

def o94 : Abs.Sg := ⟨[6, 7], (.st (.own Z1 (0, 0)) (.dat (.int .i64) .nil)), (.arr Z1 false .nil)⟩

def m94 (v : ((Y2 × Int × Y2 × Unit) × (Unit))) : Option ((Int × Unit) × (Y2 × Unit)) :=
(loopT l94_0_2 ((0, (v.1.2.2.1, (v.1.1, (v.1.2.1, ())))), ())).bind fun d53 =>
sumE d53 (fun d54 => (some ((d54.1.1, ()), (d54.2.1, ())))) (fun d55 => (bif (decide (0 + d55.1.1.length ≤ 4294967296)) then
some (((d55.1.1.length : Int), ()), (d55.1.1, ()))
else none))

def sp94 : Abs.Spec := ⟨0, i94, o94, m94⟩

def an94 : Nat → Abs.FAn
  | 0 => Abs.FAn.mk (fun
    | 5 => some ⟨[35, 8, 2, 0, 9, 1], (.dat .bool (.dat (.int .i64) (.dat (.row Z1) (.dat (.row Z1) (.dat (.int .i64) (.dat (.int .i64) .nil)))))), .nil⟩
    | _ => none) (fun _ => none) (fun
    | 2 => some ⟨⟨[8, 2, 0, 1], (.dat (.int .i64) (.dat (.row Z1) (.dat (.row Z1) (.dat (.int .i64) .nil)))), .nil⟩, (.more .ret ⟨[6, 7], (.st (.own Z1 (0, 0)) (.dat (.int .i64) .nil)), (.arr Z1 false .nil)⟩ (.one (.exit 0) ⟨[0], (.dat (.row Z1) .nil), .nil⟩))⟩
    | _ => none) (fun _ _ => 0)
  | _ => {}

theorem ok94 : Abs.SpecOK Try.prog 94 sp94 :=
  Abs.specOK_of (n := 12) (an := an94) (T := Abs.tabOf []) good foll (Abs.tabOf_ok _ (fun _ h => by cases h)) rfl (by intro v; kernel_rfl)

/- pagewatch/pagewatchref33.Accept -/
def i52 : Abs.Sg := ⟨[0, 1, 2], (.dat (.int .i64) (.dat Z3 (.dat Z4 .nil))), .nil⟩

def o52 : Abs.Sg := ⟨[6, 7, 8], (.st (.ptr (0, 0) 8 0 0) (.st (.ptr (1, 0) 9 0 0) (.dat .bool .nil))), (.box 8 (.dat Z3 .nil) (.box 9 (.agg (.dat (.int .i64) (.dat (.int .i64) (.dat (.int .i64) (.dat (.int .i64) (.dat (.int .i64) (.dat (.int .i64) (.dat (.int .i64) (.st .nil (.dat .bool .nil))))))))) .nil) .nil))⟩

def m52 (v : ((Int × Y5 × Y7 × Unit) × (Unit))) : Option ((Bool × Unit) × ((Y5 × Unit) × Y15 × Unit)) :=
(((m88 ((v.1.1, (v.1.2.1, (v.1.2.2.1, (3, ())))), ())).bind fun u61 =>
bif (!u61.1.1) then (some ((true, ()), (((0, (0, (0, (0, (0, ()))))), ()), (((0, (0, (0, (0, (0, (0, (0, (false, ())))))))), ()), ((v.1.2.1, ()), ((v.1.2.2.1, ()), ()))))))
else (bif (decide ((v.1.2.2.1.2.2.2.2.1 : Int) < 0)) then (some ((true, ()), (((0, (0, (0, (0, (0, ()))))), ()), (((0, (0, (0, (0, (0, (0, (0, (false, ())))))))), ()), ((v.1.2.1, ()), ((v.1.2.2.1, ()), ()))))))
else (bif (decide ((v.1.2.2.1.2.2.2.2.2.1 : Int) < 0)) then (some ((true, ()), (((0, (0, (0, (0, (0, ()))))), ()), (((0, (0, (0, (0, (0, (0, (0, (false, ())))))))), ()), ((v.1.2.1, ()), ((v.1.2.2.1, ()), ()))))))
else (some (((decide ((v.1.2.2.1.2.2.2.2.2.2.1 : Int) < 0)), ()), (((0, (0, (0, (0, (0, ()))))), ()), (((0, (0, (0, (0, (0, (0, (0, (false, ())))))))), ()), ((v.1.2.1, ()), ((v.1.2.2.1, ()), ()))))))))) : Option ((Bool × Unit) × (Y11 × Y15 × (Y5 × Unit) × (Y7 × Unit) × Unit))).bind fun v62 =>
bif v62.1.1 then ((m80 ((v62.2.2.2.1.1, ()), ())).bind fun u63 =>
some ((false, ()), (((u63.2.1.1.1, (u63.2.1.1.2.1, (u63.2.1.1.2.2.1, (u63.2.1.1.2.2.2.1, (u63.2.2.1, (u63.2.1.1.2.2.2.2.1, (u63.2.2.2.1, (u63.2.2.2.2.1, ())))))))), ()), (((0, (0, (0, (0, (0, (0, (0, (false, ())))))))), ()), ()))))
else ((m80 ((v62.2.2.2.1.1, ()), ())).bind fun u64 =>
(m89 (((u64.2.1.1.1, (u64.2.1.1.2.1, (u64.2.1.1.2.2.1, (u64.2.1.1.2.2.2.1, (u64.2.2.1, (u64.2.1.1.2.2.2.2.1, (u64.2.2.2.1, (u64.2.2.2.2.1, ())))))))), (v62.2.2.2.2.1.1.2.2.2.1, ())), ())).bind fun u65 =>
((((bif ((u65.2.1.1.2.2.2.1 : Int) == 1) then (let x66 := ((u65.2.1.1.2.1 : Int) == v62.2.2.2.2.1.1.2.2.2.1)
some ((x66, ()), (((v62.2.1.1.1, (v62.2.1.1.2.1, (v62.2.1.1.2.2.1, (v62.2.1.1.2.2.2.1, (v62.2.1.1.2.2.2.2.1, ()))))), ()), (((v62.2.2.1.1.1, (v62.2.2.1.1.2.1, (v62.2.2.1.1.2.2.1, (v62.2.2.1.1.2.2.2.1, (v62.2.2.1.1.2.2.2.2.1, (v62.2.2.1.1.2.2.2.2.2.1, (v62.2.2.1.1.2.2.2.2.2.2.1, (v62.2.2.1.1.2.2.2.2.2.2.2.1, ())))))))), ()), ((u65.2.1.1, ()), ((v62.2.2.2.1.1, ()), ((v62.2.2.2.2.1.1, ()), ())))))))
else (some ((false, ()), (((v62.2.1.1.1, (v62.2.1.1.2.1, (v62.2.1.1.2.2.1, (v62.2.1.1.2.2.2.1, (v62.2.1.1.2.2.2.2.1, ()))))), ()), (((v62.2.2.1.1.1, (v62.2.2.1.1.2.1, (v62.2.2.1.1.2.2.1, (v62.2.2.1.1.2.2.2.1, (v62.2.2.1.1.2.2.2.2.1, (v62.2.2.1.1.2.2.2.2.2.1, (v62.2.2.1.1.2.2.2.2.2.2.1, (v62.2.2.1.1.2.2.2.2.2.2.2.1, ())))))))), ()), ((u65.2.1.1, ()), ((v62.2.2.2.1.1, ()), ((v62.2.2.2.2.1.1, ()), ())))))))) : Option ((Bool × Unit) × (Y11 × Y15 × (Y5 × Unit) × (Y5 × Unit) × (Y7 × Unit) × Unit))).bind fun v67 =>
bif v67.1.1 then (some ((), (((v67.2.1.1.1, (v67.2.1.1.2.1, (v67.2.1.1.2.2.1, (v67.2.1.1.2.2.2.1, (v67.2.1.1.2.2.2.2.1, ()))))), ()), (((v67.2.2.1.1.1, (v67.2.2.1.1.2.1, (v67.2.2.1.1.2.2.1, (v67.2.2.1.1.2.2.2.1, (v67.2.2.1.1.2.2.2.2.1, (v67.2.2.1.1.2.2.2.2.2.1, (v67.2.2.1.1.2.2.2.2.2.2.1, (v67.2.2.1.1.2.2.2.2.2.2.2.1, ())))))))), ()), (((v67.2.2.2.1.1.1, (v67.2.2.2.1.1.2.1, (v67.2.2.2.1.1.2.2.1, (0, (v67.2.2.2.1.1.2.2.2.2.1, (v67.2.2.2.1.1.2.2.2.2.2.1, ([], v67.2.2.2.1.1.2.2.2.2.2.2.2))))))), ()), ((v67.2.2.2.2.1.1, ()), ((v67.2.2.2.2.2.1.1, ()), ())))))))
else (some ((), (((v67.2.1.1.1, (v67.2.1.1.2.1, (v67.2.1.1.2.2.1, (v67.2.1.1.2.2.2.1, (v67.2.1.1.2.2.2.2.1, ()))))), ()), (((v67.2.2.1.1.1, (v67.2.2.1.1.2.1, (v67.2.2.1.1.2.2.1, (v67.2.2.1.1.2.2.2.1, (v67.2.2.1.1.2.2.2.2.1, (v67.2.2.1.1.2.2.2.2.2.1, (v67.2.2.1.1.2.2.2.2.2.2.1, (v67.2.2.1.1.2.2.2.2.2.2.2.1, ())))))))), ()), ((v67.2.2.2.1.1, ()), ((v67.2.2.2.2.1.1, ()), ((v67.2.2.2.2.2.1.1, ()), ())))))))) : Option ((Unit) × (Y11 × Y15 × (Y5 × Unit) × (Y5 × Unit) × (Y7 × Unit) × Unit))).bind fun v68 =>
((let x69 := ((v68.2.2.2.2.2.1.1.2.2.2.1 : Int) == v68.2.2.2.1.1.2.1)
bif x69 then (bif ((v68.2.2.2.1.1.2.2.2.1 : Int) != 2) then (let x70 := (decide ((v68.2.2.2.2.2.1.1.2.2.2.2.1 : Int) ≤ (v68.2.2.2.1.1.2.2.2.2.1.length : Int)))
bif x70 then (bif ((v68.2.2.2.2.2.1.1.2.2.2.2.1 : Int) == 0) then (some ((true, ()), (((v68.2.1.1.1, (v68.2.1.1.2.1, (v68.2.1.1.2.2.1, (v68.2.1.1.2.2.2.1, (v68.2.1.1.2.2.2.2.1, ()))))), ()), (((v68.2.2.1.1.1, (v68.2.2.1.1.2.1, (v68.2.2.1.1.2.2.1, (v68.2.2.1.1.2.2.2.1, (v68.2.2.1.1.2.2.2.2.1, (v68.2.2.1.1.2.2.2.2.2.1, (v68.2.2.1.1.2.2.2.2.2.2.1, (v68.2.2.1.1.2.2.2.2.2.2.2.1, ())))))))), ()), ((v68.2.2.2.1.1, ()), ((v68.2.2.2.2.1.1, ()), ((v68.2.2.2.2.2.1.1, ()), ())))))))
else (Abs.rowAt v68.2.2.2.1.1.2.2.2.2.1 (w64 (v68.2.2.2.2.2.1.1.2.2.2.2.1 - 1)) fun e71 _ =>
some ((((e71.1 : Int) == v68.2.2.2.2.2.1.1.2.2.2.2.2.1), ()), (((v68.2.1.1.1, (v68.2.1.1.2.1, (v68.2.1.1.2.2.1, (v68.2.1.1.2.2.2.1, (v68.2.1.1.2.2.2.2.1, ()))))), ()), (((v68.2.2.1.1.1, (v68.2.2.1.1.2.1, (v68.2.2.1.1.2.2.1, (v68.2.2.1.1.2.2.2.1, (v68.2.2.1.1.2.2.2.2.1, (v68.2.2.1.1.2.2.2.2.2.1, (v68.2.2.1.1.2.2.2.2.2.2.1, (v68.2.2.1.1.2.2.2.2.2.2.2.1, ())))))))), ()), ((v68.2.2.2.1.1, ()), ((v68.2.2.2.2.1.1, ()), ((v68.2.2.2.2.2.1.1, ()), ()))))))))
else (some ((false, ()), (((v68.2.1.1.1, (v68.2.1.1.2.1, (v68.2.1.1.2.2.1, (v68.2.1.1.2.2.2.1, (v68.2.1.1.2.2.2.2.1, ()))))), ()), (((v68.2.2.1.1.1, (v68.2.2.1.1.2.1, (v68.2.2.1.1.2.2.1, (v68.2.2.1.1.2.2.2.1, (v68.2.2.1.1.2.2.2.2.1, (v68.2.2.1.1.2.2.2.2.2.1, (v68.2.2.1.1.2.2.2.2.2.2.1, (v68.2.2.1.1.2.2.2.2.2.2.2.1, ())))))))), ()), ((v68.2.2.2.1.1, ()), ((v68.2.2.2.2.1.1, ()), ((v68.2.2.2.2.2.1.1, ()), ()))))))))
else (some ((false, ()), (((v68.2.1.1.1, (v68.2.1.1.2.1, (v68.2.1.1.2.2.1, (v68.2.1.1.2.2.2.1, (v68.2.1.1.2.2.2.2.1, ()))))), ()), (((v68.2.2.1.1.1, (v68.2.2.1.1.2.1, (v68.2.2.1.1.2.2.1, (v68.2.2.1.1.2.2.2.1, (v68.2.2.1.1.2.2.2.2.1, (v68.2.2.1.1.2.2.2.2.2.1, (v68.2.2.1.1.2.2.2.2.2.2.1, (v68.2.2.1.1.2.2.2.2.2.2.2.1, ())))))))), ()), ((v68.2.2.2.1.1, ()), ((v68.2.2.2.2.1.1, ()), ((v68.2.2.2.2.2.1.1, ()), ()))))))))
else (some ((false, ()), (((v68.2.1.1.1, (v68.2.1.1.2.1, (v68.2.1.1.2.2.1, (v68.2.1.1.2.2.2.1, (v68.2.1.1.2.2.2.2.1, ()))))), ()), (((v68.2.2.1.1.1, (v68.2.2.1.1.2.1, (v68.2.2.1.1.2.2.1, (v68.2.2.1.1.2.2.2.1, (v68.2.2.1.1.2.2.2.2.1, (v68.2.2.1.1.2.2.2.2.2.1, (v68.2.2.1.1.2.2.2.2.2.2.1, (v68.2.2.1.1.2.2.2.2.2.2.2.1, ())))))))), ()), ((v68.2.2.2.1.1, ()), ((v68.2.2.2.2.1.1, ()), ((v68.2.2.2.2.2.1.1, ()), ())))))))) : Option ((Bool × Unit) × (Y11 × Y15 × (Y5 × Unit) × (Y5 × Unit) × (Y7 × Unit) × Unit))).bind fun v72 =>
bif (!v72.1.1) then (some ((true, ()), ((v72.2.2.2.1.1, ()), (((4, (v72.2.2.2.2.1.1.1, (v72.2.2.2.2.2.1.1.2.1, (v72.2.2.2.1.1.2.1, (0, (0, (0, (false, ())))))))), ()), ()))))
else ((m94 ((v72.2.2.2.1.1.2.2.2.2.1, (v72.2.2.2.2.2.1.1.2.2.2.2.1, (v72.2.2.2.2.2.1.1.2.2.2.2.2.2.2.1, ()))), ())).bind fun u73 =>
(((m85 ((u73.2.1, (v72.2.2.2.2.2.1.1.2.2.2.1, ())), ())).bind fun u74 =>
bif (!u74.1.1) then (some ((true, ()), (((v72.2.1.1.1, (v72.2.1.1.2.1, (v72.2.1.1.2.2.1, (v72.2.1.1.2.2.2.1, (v72.2.1.1.2.2.2.2.1, ()))))), ()), (((v72.2.2.1.1.1, (v72.2.2.1.1.2.1, (v72.2.2.1.1.2.2.1, (v72.2.2.1.1.2.2.2.1, (v72.2.2.1.1.2.2.2.2.1, (v72.2.2.1.1.2.2.2.2.2.1, (v72.2.2.1.1.2.2.2.2.2.2.1, (v72.2.2.1.1.2.2.2.2.2.2.2.1, ())))))))), ()), ((v72.2.2.2.2.1.1, ()), (((4, (v72.2.2.2.2.1.1.1, (v72.2.2.2.2.2.1.1.2.1, (v72.2.2.2.1.1.2.1, (0, (0, (0, (false, ())))))))), ()), ((v72.2.2.2.1.1, ()), ((v72.2.2.2.2.2.1.1, ()), (u73.2.1, ())))))))))
else (let x75 := (decide ((u73.1.1 : Int) < v72.2.2.2.1.1.2.2.2.2.2.1))
some ((x75, ()), (((v72.2.1.1.1, (v72.2.1.1.2.1, (v72.2.1.1.2.2.1, (v72.2.1.1.2.2.2.1, (v72.2.1.1.2.2.2.2.1, ()))))), ()), (((v72.2.2.1.1.1, (v72.2.2.1.1.2.1, (v72.2.2.1.1.2.2.1, (v72.2.2.1.1.2.2.2.1, (v72.2.2.1.1.2.2.2.2.1, (v72.2.2.1.1.2.2.2.2.2.1, (v72.2.2.1.1.2.2.2.2.2.2.1, (v72.2.2.1.1.2.2.2.2.2.2.2.1, ())))))))), ()), ((v72.2.2.2.2.1.1, ()), (((4, (v72.2.2.2.2.1.1.1, (v72.2.2.2.2.2.1.1.2.1, (v72.2.2.2.1.1.2.1, (0, (0, (0, (false, ())))))))), ()), ((v72.2.2.2.1.1, ()), ((v72.2.2.2.2.2.1.1, ()), (u73.2.1, ())))))))))) : Option ((Bool × Unit) × (Y11 × Y15 × (Y5 × Unit) × Y15 × (Y5 × Unit) × (Y7 × Unit) × Y2 × Unit))).bind fun v76 =>
bif v76.1.1 then ((m80 ((v76.2.2.2.1.1, ()), ())).bind fun u77 =>
some ((false, ()), (((u77.2.1.1.1, (u77.2.1.1.2.1, (u77.2.1.1.2.2.1, (u77.2.1.1.2.2.2.1, (u77.2.2.1, (u77.2.1.1.2.2.2.2.1, (u77.2.2.2.1, (u77.2.2.2.2.1, ())))))))), ()), (((0, (0, (0, (0, (0, (0, (0, (false, ())))))))), ()), ()))))
else (let x78 := (w64 (v76.2.2.2.2.2.2.1.1.2.2.2.2.1 + (v76.2.2.2.2.2.2.1.1.2.2.2.2.2.2.2.1.length : Int)))
let x79 := (if (x78 : Int) < v76.2.2.2.2.2.2.1.1.2.2.2.2.2.2.1 then x78 else v76.2.2.2.2.2.2.1.1.2.2.2.2.2.2.1)
let x80 := (if (x79 : Int) > v76.2.2.2.2.2.1.1.2.2.2.2.2.1 then x79 else v76.2.2.2.2.2.1.1.2.2.2.2.2.1)
some ((true, ()), (((v76.2.2.2.2.2.1.1.1, (v76.2.2.2.2.2.1.1.2.1, (v76.2.2.2.2.2.1.1.2.2.1, (v76.2.2.2.2.2.1.1.2.2.2.1, (v76.2.2.2.2.2.2.2.1, (x80, v76.2.2.2.2.2.1.1.2.2.2.2.2.2)))))), ()), (((v76.2.2.2.2.1.1.1, (v76.2.2.2.2.1.1.2.1, (v76.2.2.2.2.1.1.2.2.1, (v76.2.2.2.2.1.1.2.2.2.1, (x78, (v76.2.2.2.2.1.1.2.2.2.2.2.1, (v76.2.2.2.2.1.1.2.2.2.2.2.2.1, (true, ())))))))), ()), ()))))))

def sp52 : Abs.Spec := ⟨0, i52, o52, m52⟩

def an52 : Nat → Abs.FAn
  | 0 => Abs.FAn.mk (fun
    | 11 => some ⟨[122, 6, 7, 4, 11, 9, 5, 12], (.dat .bool (.st (.ptr (0, 0) 8 0 0) (.st (.ptr (1, 0) 9 0 0) (.st (.ptr (2, 0) 8 0 0) (.st (.ptr (3, 0) 9 0 0) (.st (.ptr (4, 0) 8 0 0) (.st (.ptr (5, 0) 9 0 0) (.st (.own Z1 (6, 0)) .nil)))))))), (.box 8 (.agg (.dat (.int .i64) (.dat (.int .i64) (.dat (.int .i64) (.dat (.int .i64) (.st .nil (.dat (.int .i64) (.st .nil (.st .nil .nil)))))))) .nil) (.box 9 (.agg (.dat (.int .i64) (.dat (.int .i64) (.dat (.int .i64) (.dat (.int .i64) (.dat (.int .i64) (.dat (.int .i64) (.dat (.int .i64) (.st .nil (.dat .bool .nil))))))))) .nil) (.box 8 (.dat Z3 .nil) (.box 9 (.agg (.dat (.int .i64) (.dat (.int .i64) (.dat (.int .i64) (.dat (.int .i64) (.dat (.int .i64) (.dat (.int .i64) (.dat (.int .i64) (.st .nil (.dat .bool .nil))))))))) .nil) (.box 8 (.dat Z3 .nil) (.box 9 (.dat Z4 .nil) (.arr Z1 false .nil)))))))⟩
    | 6 => some ⟨[6, 7, 9, 4, 5, 10], (.st (.ptr (0, 0) 8 0 0) (.st (.ptr (1, 0) 9 0 0) (.st (.ptr (2, 0) 8 0 0) (.st (.ptr (3, 0) 8 0 0) (.st (.ptr (4, 0) 9 0 0) (.dat .bool .nil)))))), (.box 8 (.agg (.dat (.int .i64) (.dat (.int .i64) (.dat (.int .i64) (.dat (.int .i64) (.st .nil (.dat (.int .i64) (.st .nil (.st .nil .nil)))))))) .nil) (.box 9 (.agg (.dat (.int .i64) (.dat (.int .i64) (.dat (.int .i64) (.dat (.int .i64) (.dat (.int .i64) (.dat (.int .i64) (.dat (.int .i64) (.st .nil (.dat .bool .nil))))))))) .nil) (.box 8 (.dat Z3 .nil) (.box 8 (.dat Z3 .nil) (.box 9 (.dat Z4 .nil) .nil)))))⟩
    | 4 => some ⟨[52, 6, 7, 9, 4, 5], (.dat .bool (.st (.ptr (0, 0) 8 0 0) (.st (.ptr (1, 0) 9 0 0) (.st (.ptr (2, 0) 8 0 0) (.st (.ptr (3, 0) 8 0 0) (.st (.ptr (4, 0) 9 0 0) .nil)))))), (.box 8 (.agg (.dat (.int .i64) (.dat (.int .i64) (.dat (.int .i64) (.dat (.int .i64) (.st .nil (.dat (.int .i64) (.st .nil (.st .nil .nil)))))))) .nil) (.box 9 (.agg (.dat (.int .i64) (.dat (.int .i64) (.dat (.int .i64) (.dat (.int .i64) (.dat (.int .i64) (.dat (.int .i64) (.dat (.int .i64) (.st .nil (.dat .bool .nil))))))))) .nil) (.box 8 (.dat Z3 .nil) (.box 8 (.dat Z3 .nil) (.box 9 (.dat Z4 .nil) .nil)))))⟩
    | 1 => some ⟨[34, 6, 7, 4, 5], (.dat .bool (.st (.ptr (0, 0) 8 0 0) (.st (.ptr (1, 0) 9 0 0) (.st (.ptr (2, 0) 8 0 0) (.st (.ptr (3, 0) 9 0 0) .nil))))), (.box 8 (.agg (.dat (.int .i64) (.dat (.int .i64) (.dat (.int .i64) (.dat (.int .i64) (.st .nil (.dat (.int .i64) (.st .nil (.st .nil .nil)))))))) .nil) (.box 9 (.agg (.dat (.int .i64) (.dat (.int .i64) (.dat (.int .i64) (.dat (.int .i64) (.dat (.int .i64) (.dat (.int .i64) (.dat (.int .i64) (.st .nil (.dat .bool .nil))))))))) .nil) (.box 8 (.dat Z3 .nil) (.box 9 (.dat Z4 .nil) .nil))))⟩
    | _ => none) (fun
    | 6 => some (⟨[6, 7, 9, 4, 5], (.st (.ptr (0, 0) 8 0 0) (.st (.ptr (1, 0) 9 0 0) (.st (.ptr (2, 0) 8 0 0) (.st (.ptr (3, 0) 8 0 0) (.st (.ptr (4, 0) 9 0 0) .nil))))), (.box 8 (.agg (.dat (.int .i64) (.dat (.int .i64) (.dat (.int .i64) (.dat (.int .i64) (.st .nil (.dat (.int .i64) (.st .nil (.st .nil .nil)))))))) .nil) (.box 9 (.agg (.dat (.int .i64) (.dat (.int .i64) (.dat (.int .i64) (.dat (.int .i64) (.dat (.int .i64) (.dat (.int .i64) (.dat (.int .i64) (.st .nil (.dat .bool .nil))))))))) .nil) (.box 8 (.dat Z3 .nil) (.box 8 (.dat Z3 .nil) (.box 9 (.dat Z4 .nil) .nil)))))⟩, none)
    | _ => none) (fun _ => none) (fun _ _ => 0)
  | _ => {}

theorem ok52 : Abs.SpecOK Try.prog 52 sp52 :=
  Abs.specOK_of (n := 12) (an := an52) (T := Abs.tabOf [(88, sp88), (80, sp80), (89, sp89), (94, sp94), (85, sp85)]) good foll (Abs.tabOf_ok _ (by simp only [List.forall_mem_cons]; exact ⟨ok88, ok80, ok89, ok94, ok85, fun _ h => by cases h⟩)) rfl (by intro v; kernel_rfl)

def l53_0_14 (v : ((Int × Int × Int × Int × Unit) × Y17)) : Option (((Int × Int × Int × Int × Unit) × Y17) ⊕ (Y20 × Y17)) :=
bif (decide ((v.1.1 : Int) < v.1.2.2.2.1)) then (((bif (decide ((0 : Int) ≤ v.1.1 ∧ (v.1.1 : Int) < v.2.2.2.2.2.1.length)) then
(v.2.2.2.2.2.1[v.1.1.toNat]?).bind fun e76 =>
bif (decide ((e76 : Int) ≥ v.1.2.2.1)) then (some (((w64 (v.1.2.1 + 1)), (v.1.2.2.1, (v.1.2.2.2.1, (v.1.1, ())))), (((v.2.1.1.1, (v.2.1.1.2.1, (v.2.1.1.2.2.1, (v.2.1.1.2.2.2.1, (v.2.1.1.2.2.2.2.1, ()))))), ()), (((v.2.2.1.1.1, (v.2.2.1.1.2.1, (v.2.2.1.1.2.2.1, (v.2.2.1.1.2.2.2.1, (v.2.2.1.1.2.2.2.2.1, ()))))), ()), (v.2.2.2.1, (v.2.2.2.2.1, (v.2.2.2.2.2.1, ())))))))
else (some ((v.1.2.1, (v.1.2.2.1, (v.1.2.2.2.1, (v.1.1, ())))), (((v.2.1.1.1, (v.2.1.1.2.1, (v.2.1.1.2.2.1, (v.2.1.1.2.2.2.1, (v.2.1.1.2.2.2.2.1, ()))))), ()), (((v.2.2.1.1.1, (v.2.2.1.1.2.1, (v.2.2.1.1.2.2.1, (v.2.2.1.1.2.2.2.1, (v.2.2.1.1.2.2.2.2.1, ()))))), ()), (v.2.2.2.1, (v.2.2.2.2.1, (v.2.2.2.2.2.1, ())))))))
else none) : Option ((Int × Int × Int × Int × Unit) × Y17)).bind fun v77 =>
some (.inl (((w64 (v77.1.2.2.2.1 + 1)), (v77.1.1, (v77.1.2.1, (v77.1.2.2.1, ())))), (((v77.2.1.1.1, (v77.2.1.1.2.1, (v77.2.1.1.2.2.1, (v77.2.1.1.2.2.2.1, (v77.2.1.1.2.2.2.2.1, ()))))), ()), (((v77.2.2.1.1.1, (v77.2.2.1.1.2.1, (v77.2.2.1.1.2.2.1, (v77.2.2.1.1.2.2.2.1, (v77.2.2.1.1.2.2.2.2.1, ()))))), ()), (v77.2.2.2.1, (v77.2.2.2.2.1, (v77.2.2.2.2.2.1, ()))))))))
else (some (.inr ((v.1.2.2.1, (v.1.2.2.2.1, (v.1.2.1, ()))), (((v.2.2.1.1.1, (v.2.2.1.1.2.1, (v.2.2.1.1.2.2.1, (v.2.2.1.1.2.2.2.1, (v.2.2.1.1.2.2.2.2.1, ()))))), ()), (((v.2.1.1.1, (v.2.1.1.2.1, (v.2.1.1.2.2.1, (v.2.1.1.2.2.2.1, (v.2.1.1.2.2.2.2.1, ()))))), ()), (v.2.2.2.1, (v.2.2.2.2.1, (v.2.2.2.2.2.1, ()))))))))

def l53_0_10 (v : ((Int × Int × Unit) × Y17)) : Option (((Int × Int × Unit) × Y17) ⊕ ((Unit) × Y17)) :=
bif (decide ((v.1.1 : Int) > v.2.1.1.2.2.2.2.1)) then ((loopT l53_0_14 ((0, (0, (v.1.1, (v.1.2.1, ())))), (((v.2.1.1.1, (v.2.1.1.2.1, (v.2.1.1.2.2.1, (v.2.1.1.2.2.2.1, (v.2.1.1.2.2.2.2.1, ()))))), ()), (((v.2.2.1.1.1, (v.2.2.1.1.2.1, (v.2.2.1.1.2.2.1, (v.2.2.1.1.2.2.2.1, (v.2.2.1.1.2.2.2.2.1, ()))))), ()), (v.2.2.2.1, (v.2.2.2.2.1, (v.2.2.2.2.2.1, ()))))))).bind fun d78 =>
(((m29 ((d78.1.2.1, ()), ())).bind fun u79 =>
bif (decide ((d78.1.2.2.1 : Int) ≥ u79.1.1)) then (bif (decide ((0 : Int) ≤ (w64 (d78.1.1 - 1)) ∧ ((w64 (d78.1.1 - 1)) : Int) < d78.2.2.2.1.length)) then
(d78.2.2.2.1[(w64 (d78.1.1 - 1)).toNat]?).bind fun e80 =>
some ((((e80.1 : Int) == d78.2.2.1.1.2.1), (d78.1.1, (d78.1.2.1, ()))), (((d78.2.1.1.1, (d78.2.1.1.2.1, (d78.2.1.1.2.2.1, (d78.2.1.1.2.2.2.1, (d78.2.1.1.2.2.2.2.1, ()))))), ()), (((d78.2.2.1.1.1, (d78.2.2.1.1.2.1, (d78.2.2.1.1.2.2.1, (d78.2.2.1.1.2.2.2.1, (d78.2.2.1.1.2.2.2.2.1, ()))))), ()), (d78.2.2.2.1, (d78.2.2.2.2.1, (d78.2.2.2.2.2.1, ()))))))
else none)
else (some ((false, (d78.1.1, (d78.1.2.1, ()))), (((d78.2.1.1.1, (d78.2.1.1.2.1, (d78.2.1.1.2.2.1, (d78.2.1.1.2.2.2.1, (d78.2.1.1.2.2.2.2.1, ()))))), ()), (((d78.2.2.1.1.1, (d78.2.2.1.1.2.1, (d78.2.2.1.1.2.2.1, (d78.2.2.1.1.2.2.2.1, (d78.2.2.1.1.2.2.2.2.1, ()))))), ()), (d78.2.2.2.1, (d78.2.2.2.2.1, (d78.2.2.2.2.2.1, ())))))))) : Option ((Bool × Int × Int × Unit) × Y17)).bind fun v81 =>
bif v81.1.1 then (some (.inr ((), (((v81.2.1.1.1, (v81.2.1.1.2.1, (v81.2.1.1.2.2.1, (v81.2.1.1.2.2.2.1, (v81.2.1.1.2.2.2.2.1, ()))))), ()), (((v81.2.2.1.1.1, (v81.2.2.1.1.2.1, (v81.2.2.1.1.2.2.1, (v81.2.2.1.1.2.2.2.1, (v81.1.2.1, ()))))), ()), (v81.2.2.2.1, (v81.2.2.2.2.1, (v81.2.2.2.2.2.1, ()))))))))
else (some (.inl (((w64 (v81.1.2.1 - 1)), (v81.1.2.2.1, ())), (((v81.2.2.1.1.1, (v81.2.2.1.1.2.1, (v81.2.2.1.1.2.2.1, (v81.2.2.1.1.2.2.2.1, (v81.2.2.1.1.2.2.2.2.1, ()))))), ()), (((v81.2.1.1.1, (v81.2.1.1.2.1, (v81.2.1.1.2.2.1, (v81.2.1.1.2.2.2.1, (v81.2.1.1.2.2.2.2.1, ()))))), ()), (v81.2.2.2.1, (v81.2.2.2.2.1, (v81.2.2.2.2.2.1, ())))))))))
else (some (.inr ((), (((v.2.2.1.1.1, (v.2.2.1.1.2.1, (v.2.2.1.1.2.2.1, (v.2.2.1.1.2.2.2.1, (v.2.2.1.1.2.2.2.2.1, ()))))), ()), (((v.2.1.1.1, (v.2.1.1.2.1, (v.2.1.1.2.2.1, (v.2.1.1.2.2.2.1, (v.2.1.1.2.2.2.2.1, ()))))), ()), (v.2.2.2.1, (v.2.2.2.2.1, (v.2.2.2.2.2.1, ()))))))))

/- pagewatch/pagewatchref33.Appended -/
def i53 : Abs.Sg := ⟨[0, 1, 2], (.dat (.int .i64) (.dat Z3 (.dat Z4 .nil))), .nil⟩

def o53 : Abs.Sg := ⟨[6], (.st (.ptr (0, 0) 8 0 0) .nil), (.box 8 (.dat Z3 .nil) .nil)⟩

def m53 (v : ((Int × Y5 × Y7 × Unit) × (Unit))) : Option ((Unit) × ((Y5 × Unit) × Unit)) :=
(m80 ((v.1.2.1, ()), ())).bind fun u68 =>
(m88 ((v.1.1, (v.1.2.1, (v.1.2.2.1, (4, ())))), ())).bind fun u69 =>
bif (!u69.1.1) then (some ((), (((u68.2.1.1.1, (u68.2.1.1.2.1, (u68.2.1.1.2.2.1, (u68.2.1.1.2.2.2.1, (u68.2.2.1, (u68.2.1.1.2.2.2.2.1, (u68.2.2.2.1, (u68.2.2.2.2.1, ())))))))), ()), ())))
else (let x70 := (decide ((v.1.2.2.1.2.2.2.1 : Int) > v.1.2.1.2.1))
bif x70 then ((m89 (((u68.2.1.1.1, (u68.2.1.1.2.1, (u68.2.1.1.2.2.1, (u68.2.1.1.2.2.2.1, (u68.2.2.1, (u68.2.1.1.2.2.2.2.1, (u68.2.2.2.1, (u68.2.2.2.2.1, ())))))))), (v.1.2.2.1.2.2.2.1, ())), ())).bind fun u71 =>
some ((), ((u71.2.1.1, ()), ())))
else (((bif ((v.1.2.1.2.2.2.1 : Int) != 2) then (some ((true, (v.1.1, ())), (((0, (0, (0, (0, (0, ()))))), ()), (((u68.2.1.1.1, (u68.2.1.1.2.1, (u68.2.1.1.2.2.1, (u68.2.1.1.2.2.2.1, (u68.2.1.1.2.2.2.2.1, ()))))), ()), ((v.1.2.2.1, ()), (u68.2.2.1, (u68.2.2.2.1, (u68.2.2.2.2.1, ()))))))))
else (bif ((v.1.2.2.1.2.2.2.1 : Int) != v.1.2.1.2.1) then (some ((true, (v.1.1, ())), (((0, (0, (0, (0, (0, ()))))), ()), (((u68.2.1.1.1, (u68.2.1.1.2.1, (u68.2.1.1.2.2.1, (u68.2.1.1.2.2.2.1, (u68.2.1.1.2.2.2.2.1, ()))))), ()), ((v.1.2.2.1, ()), (u68.2.2.1, (u68.2.2.2.1, (u68.2.2.2.2.1, ()))))))))
else (bif (!v.1.2.2.1.2.2.2.2.2.2.2.2.1) then (some ((true, (v.1.1, ())), (((0, (0, (0, (0, (0, ()))))), ()), (((u68.2.1.1.1, (u68.2.1.1.2.1, (u68.2.1.1.2.2.1, (u68.2.1.1.2.2.2.1, (u68.2.1.1.2.2.2.2.1, ()))))), ()), ((v.1.2.2.1, ()), (u68.2.2.1, (u68.2.2.2.1, (u68.2.2.2.2.1, ()))))))))
else ((m45 ((v.1.2.2.1.2.2.2.2.1, (0, ((v.1.2.1.2.2.2.2.1.length : Int), ()))), ())).bind fun u72 =>
some (((!u72.1.1), (v.1.1, ())), (((0, (0, (0, (0, (0, ()))))), ()), (((u68.2.1.1.1, (u68.2.1.1.2.1, (u68.2.1.1.2.2.1, (u68.2.1.1.2.2.2.1, (u68.2.1.1.2.2.2.2.1, ()))))), ()), ((v.1.2.2.1, ()), (u68.2.2.1, (u68.2.2.2.1, (u68.2.2.2.2.1, ()))))))))))) : Option ((Bool × Int × Unit) × (Y11 × Y11 × (Y7 × Unit) × Y2 × (List Bool) × (List Int) × Unit))).bind fun v73 =>
bif v73.1.1 then (some ((), (((v73.2.2.1.1.1, (v73.2.2.1.1.2.1, (v73.2.2.1.1.2.2.1, (v73.2.2.1.1.2.2.2.1, (v73.2.2.2.2.1, (v73.2.2.1.1.2.2.2.2.1, (v73.2.2.2.2.2.1, (v73.2.2.2.2.2.2.1, ())))))))), ()), ())))
else (bif (decide ((0 : Int) ≤ v73.2.2.2.1.1.2.1 ∧ (v73.2.2.2.1.1.2.1 : Int) < v73.2.2.2.2.2.2.1.length)) then
(v73.2.2.2.2.2.2.1[v73.2.2.2.1.1.2.1.toNat]?).bind fun e74 =>
let x75 := (if (v73.2.2.2.1.1.2.2.2.2.1 : Int) > e74 then v73.2.2.2.1.1.2.2.2.2.1 else e74)
bif (decide ((0 : Int) ≤ v73.2.2.2.1.1.2.1 ∧ (v73.2.2.2.1.1.2.1 : Int) < v73.2.2.2.2.2.2.1.length)) then
bif (decide (v73.2.2.2.1.1.2.1.toNat < v73.2.2.2.2.2.2.1.length)) then
(loopT l53_0_10 ((((v73.2.2.2.2.1.length : Nat) : Int), (v73.1.2.1, ())), (((v73.2.2.1.1.1, (v73.2.2.1.1.2.1, (v73.2.2.1.1.2.2.1, (v73.2.2.1.1.2.2.2.1, (v73.2.2.1.1.2.2.2.2.1, ()))))), ()), (((v73.2.1.1.1, (v73.2.1.1.2.1, (v73.2.1.1.2.2.1, (v73.2.1.1.2.2.2.1, (v73.2.1.1.2.2.2.2.1, ()))))), ()), (v73.2.2.2.2.1, (v73.2.2.2.2.2.1, ((v73.2.2.2.2.2.2.1.set v73.2.2.2.1.1.2.1.toNat x75), ()))))))).bind fun d82 =>
some ((), (((d82.2.2.1.1.1, (d82.2.2.1.1.2.1, (d82.2.2.1.1.2.2.1, (d82.2.2.1.1.2.2.2.1, (d82.2.2.2.1, (d82.2.2.1.1.2.2.2.2.1, (d82.2.2.2.2.1, (d82.2.2.2.2.2.1, ())))))))), ()), ()))
else none
else none
else none)))

def sp53 : Abs.Spec := ⟨0, i53, o53, m53⟩

def an53 : Nat → Abs.FAn
  | 0 => Abs.FAn.mk (fun
    | 18 => some ⟨[105, 6, 7, 8, 0], (.dat .bool (.st (.ptr (0, 0) 8 0 0) (.st (.ptr (1, 0) 8 0 0) (.dat (.int .i64) (.dat (.int .i64) .nil))))), (.box 8 (.agg (.dat (.int .i64) (.dat (.int .i64) (.dat (.int .i64) (.dat (.int .i64) (.st .nil (.dat (.int .i64) (.st .nil (.st .nil .nil)))))))) .nil) (.box 8 (.agg (.dat (.int .i64) (.dat (.int .i64) (.dat (.int .i64) (.dat (.int .i64) (.st (.own Z1 (2, 0)) (.dat (.int .i64) (.st (.own .bool (3, 0)) (.st (.own (.int .i64) (4, 0)) .nil)))))))) .nil) (.arr Z1 false (.arr .bool false (.arr (.int .i64) false .nil)))))⟩
    | 6 => some ⟨[51, 6, 7, 0, 5], (.dat .bool (.st (.ptr (0, 0) 8 0 0) (.st (.ptr (1, 0) 8 0 0) (.dat (.int .i64) (.st (.ptr (2, 0) 9 0 0) .nil))))), (.box 8 (.agg (.dat (.int .i64) (.dat (.int .i64) (.dat (.int .i64) (.dat (.int .i64) (.st .nil (.dat (.int .i64) (.st .nil (.st .nil .nil)))))))) .nil) (.box 8 (.agg (.dat (.int .i64) (.dat (.int .i64) (.dat (.int .i64) (.dat (.int .i64) (.st (.own Z1 (3, 0)) (.dat (.int .i64) (.st (.own .bool (4, 0)) (.st (.own (.int .i64) (5, 0)) .nil)))))))) .nil) (.box 9 (.dat Z4 .nil) (.arr Z1 false (.arr .bool false (.arr (.int .i64) false .nil))))))⟩
    | _ => none) (fun
    | 15 => some (⟨[9, 8, 7, 6, 0, 10], (.dat (.int .i64) (.dat (.int .i64) (.st (.ptr (0, 0) 8 0 0) (.st (.ptr (1, 0) 8 0 0) (.dat (.int .i64) (.dat (.int .i64) .nil)))))), (.box 8 (.agg (.dat (.int .i64) (.dat (.int .i64) (.dat (.int .i64) (.dat (.int .i64) (.st (.own Z1 (2, 0)) (.dat (.int .i64) (.st (.own .bool (3, 0)) (.st (.own (.int .i64) (4, 0)) .nil)))))))) .nil) (.box 8 (.agg (.dat (.int .i64) (.dat (.int .i64) (.dat (.int .i64) (.dat (.int .i64) (.st .nil (.dat (.int .i64) (.st .nil (.st .nil .nil)))))))) .nil) (.arr Z1 false (.arr .bool false (.arr (.int .i64) false .nil)))))⟩, none)
    | _ => none) (fun
    | 10 => some ⟨⟨[8, 7, 6, 0], (.dat (.int .i64) (.st (.ptr (0, 0) 8 0 0) (.st (.ptr (1, 0) 8 0 0) (.dat (.int .i64) .nil)))), (.box 8 (.agg (.dat (.int .i64) (.dat (.int .i64) (.dat (.int .i64) (.dat (.int .i64) (.st (.own Z1 (2, 0)) (.dat (.int .i64) (.st (.own .bool (3, 0)) (.st (.own (.int .i64) (4, 0)) .nil)))))))) .nil) (.box 8 (.agg (.dat (.int .i64) (.dat (.int .i64) (.dat (.int .i64) (.dat (.int .i64) (.st .nil (.dat (.int .i64) (.st .nil (.st .nil .nil)))))))) .nil) (.arr Z1 false (.arr .bool false (.arr (.int .i64) false .nil)))))⟩, (.one (.exit 0) ⟨[6, 7], (.st (.ptr (0, 0) 8 0 0) (.st (.ptr (1, 0) 8 0 0) .nil)), (.box 8 (.agg (.dat (.int .i64) (.dat (.int .i64) (.dat (.int .i64) (.dat (.int .i64) (.st .nil (.dat (.int .i64) (.st .nil (.st .nil .nil)))))))) .nil) (.box 8 (.agg (.dat (.int .i64) (.dat (.int .i64) (.dat (.int .i64) (.dat (.int .i64) (.st (.own Z1 (2, 0)) (.dat (.int .i64) (.st (.own .bool (3, 0)) (.st (.own (.int .i64) (4, 0)) .nil)))))))) .nil) (.arr Z1 false (.arr .bool false (.arr (.int .i64) false .nil)))))⟩)⟩
    | 14 => some ⟨⟨[10, 9, 8, 7, 6, 0], (.dat (.int .i64) (.dat (.int .i64) (.dat (.int .i64) (.st (.ptr (0, 0) 8 0 0) (.st (.ptr (1, 0) 8 0 0) (.dat (.int .i64) .nil)))))), (.box 8 (.agg (.dat (.int .i64) (.dat (.int .i64) (.dat (.int .i64) (.dat (.int .i64) (.st (.own Z1 (2, 0)) (.dat (.int .i64) (.st (.own .bool (3, 0)) (.st (.own (.int .i64) (4, 0)) .nil)))))))) .nil) (.box 8 (.agg (.dat (.int .i64) (.dat (.int .i64) (.dat (.int .i64) (.dat (.int .i64) (.st .nil (.dat (.int .i64) (.st .nil (.st .nil .nil)))))))) .nil) (.arr Z1 false (.arr .bool false (.arr (.int .i64) false .nil)))))⟩, (.one (.exit 2) ⟨[6, 7, 8, 0, 9], (.st (.ptr (0, 0) 8 0 0) (.st (.ptr (1, 0) 8 0 0) (.dat (.int .i64) (.dat (.int .i64) (.dat (.int .i64) .nil))))), (.box 8 (.agg (.dat (.int .i64) (.dat (.int .i64) (.dat (.int .i64) (.dat (.int .i64) (.st .nil (.dat (.int .i64) (.st .nil (.st .nil .nil)))))))) .nil) (.box 8 (.agg (.dat (.int .i64) (.dat (.int .i64) (.dat (.int .i64) (.dat (.int .i64) (.st (.own Z1 (2, 0)) (.dat (.int .i64) (.st (.own .bool (3, 0)) (.st (.own (.int .i64) (4, 0)) .nil)))))))) .nil) (.arr Z1 false (.arr .bool false (.arr (.int .i64) false .nil)))))⟩)⟩
    | _ => none) (fun _ _ => 0)
  | _ => {}

theorem ok53 : Abs.SpecOK Try.prog 53 sp53 :=
  Abs.specOK_of (n := 12) (an := an53) (T := Abs.tabOf [(80, sp80), (88, sp88), (89, sp89), (45, sp45), (29, sp29)]) good foll (Abs.tabOf_ok _ (by simp only [List.forall_mem_cons]; exact ⟨ok80, ok88, ok89, ok45, ok29, fun _ h => by cases h⟩)) rfl (by intro v; kernel_rfl)

/- pagewatch/pagewatchref34.Deliver -/
def i105 : Abs.Sg := ⟨[0, 1], (.dat Z8 (.dat (.int .i64) .nil)), .nil⟩

def o105 : Abs.Sg := ⟨[4, 5], (.st (.ptr (0, 0) 4 0 0) (.dat (.int .i64) .nil)), (.box 4 (.agg (.st (.own Z3 (1, 0)) (.dat (.row Z4) (.st (.own .bool (2, 0)) (.st (.own Z16 (3, 0)) .nil)))) .nil) (.arr Z3 false (.arr .bool false (.arr Z16 false .nil))))⟩

def m105 (v : Y18) : Option ((Int × Unit) × ((((List Y7) × Unit) × Unit) × (List Y5) × (List Bool) × (List (Int × Int × Unit)) × Unit)) :=
(m136 ((v.1.1, (v.1.2.1, ())), ())).bind fun u43 =>
bif ((u43.1.1 : Int) != 0) then (bif ((u43.1.1 : Int) != 0) then (some ((u43.1.1, ()), ((([], ()), ()), ([], ([], ([], ()))))))
else ((m115 ((v.1.1, ()), ())).bind fun u44 =>
bif (decide ((0 : Int) ≤ v.1.2.1 ∧ (v.1.2.1 : Int) < u44.2.2.2.1.length)) then
(u44.2.2.2.1[v.1.2.1.toNat]?).bind fun e45 =>
Abs.rowAt v.1.1.2.2.1 e45.2.2.1 fun e46 _ =>
bif e46 then (some ((0, ()), ((([], ()), ()), ([], ([], ([], ()))))))
else ((m113 ((v.1.1.2.2.2.1, (e45.2.1, (e45.2.2.1, ()))), ())).bind fun u47 =>
bif u47.1.1 then (some ((0, ()), ((([], ()), ()), ([], ([], ([], ()))))))
else (none))
else none))
else ((m115 ((v.1.1, ()), ())).bind fun u48 =>
bif (decide ((0 : Int) ≤ v.1.2.1)) then
bif (decide ((0 : Int) ≤ v.1.2.1)) then
bif (decide (0 ≤ v.1.2.1.toNat ∧ v.1.2.1.toNat = v.1.2.1.toNat ∧ v.1.2.1.toNat ≤ u48.2.2.2.1.length)) then
bif (decide ((0 : Int) ≤ (w64 (v.1.2.1 + 1)))) then
bif (decide ((w64 (v.1.2.1 + 1)).toNat ≤ u48.2.2.2.1.length ∧ u48.2.2.2.1.length ≤ u48.2.2.2.1.length)) then
bif (decide ((w64 (v.1.2.1 + 1)).toNat + (u48.2.2.2.1.length - (w64 (v.1.2.1 + 1)).toNat) ≤ u48.2.2.2.1.length)) then
bif (u48.2.2.2.1.take v.1.2.1.toNat).isEmpty then (bif (decide ((u48.2.2.2.1.take v.1.2.1.toNat).length + ((u48.2.2.2.1.drop (w64 (v.1.2.1 + 1)).toNat).take (u48.2.2.2.1.length - (w64 (v.1.2.1 + 1)).toNat)).length ≤ 4294967296)) then
let x49 := ((u48.2.2.2.1.take v.1.2.1.toNat) ++ ((u48.2.2.2.1.drop (w64 (v.1.2.1 + 1)).toNat).take (u48.2.2.2.1.length - (w64 (v.1.2.1 + 1)).toNat)))
(m115 ((v.1.1, ()), ())).bind fun u50 =>
bif (decide ((0 : Int) ≤ v.1.2.1 ∧ (v.1.2.1 : Int) < u50.2.2.2.1.length)) then
(u50.2.2.2.1[v.1.2.1.toNat]?).bind fun e51 =>
Abs.rowAt v.1.1.2.2.1 e51.2.2.1 fun e52 _ =>
bif e52 then (some ((0, ()), (((x49, ()), ()), (u48.2.2.1, (u48.2.2.2.2.1, (u48.2.2.2.2.2.1, ()))))))
else ((m113 ((v.1.1.2.2.2.1, (e51.2.1, (e51.2.2.1, ()))), ())).bind fun u53 =>
bif u53.1.1 then (some ((0, ()), (((x49, ()), ()), (u48.2.2.1, (u48.2.2.2.2.1, (u48.2.2.2.2.2.1, ()))))))
else (bif (decide ((0 : Int) ≤ e51.2.2.1 ∧ (e51.2.2.1 : Int) < u48.2.2.1.length)) then
(u48.2.2.1[e51.2.2.1.toNat]?).bind fun e54 =>
bif ((e51.1 : Int) == 1) then ((m34 (((v.1.1.1.length : Int), (e54, (e51, ()))), ())).bind fun u55 =>
bif (decide ((0 : Int) ≤ e51.2.2.1 ∧ (e51.2.2.1 : Int) < u48.2.2.1.length)) then
bif (decide (e51.2.2.1.toNat < u48.2.2.1.length)) then
bif u55.1.1 then (bif (decide (x49.length + ([(u55.2.2.1.1.1, (u55.2.2.1.1.2.1, (u55.2.2.1.1.2.2.1, (u55.2.2.1.1.2.2.2.1, (u55.2.2.1.1.2.2.2.2.1, (u55.2.2.1.1.2.2.2.2.2.1, (u55.2.2.1.1.2.2.2.2.2.2.1, ([], (u55.2.2.1.1.2.2.2.2.2.2.2.1, ())))))))))] : List Y7).length ≤ 4294967296)) then
let x56 := (x49 ++ ([(u55.2.2.1.1.1, (u55.2.2.1.1.2.1, (u55.2.2.1.1.2.2.1, (u55.2.2.1.1.2.2.2.1, (u55.2.2.1.1.2.2.2.2.1, (u55.2.2.1.1.2.2.2.2.2.1, (u55.2.2.1.1.2.2.2.2.2.2.1, ([], (u55.2.2.1.1.2.2.2.2.2.2.2.1, ())))))))))] : List Y7))
some ((0, ()), (((x56, ()), ()), ((u48.2.2.1.set e51.2.2.1.toNat u55.2.1.1), (u48.2.2.2.2.1, (u48.2.2.2.2.2.1, ())))))
else none)
else (some ((0, ()), (((x49, ()), ()), ((u48.2.2.1.set e51.2.2.1.toNat u55.2.1.1), (u48.2.2.2.2.1, (u48.2.2.2.2.2.1, ()))))))
else none
else none)
else (bif ((e51.1 : Int) == 2) then ((m37 (((v.1.1.1.length : Int), (e54, (e51, ()))), ())).bind fun u57 =>
bif (decide ((0 : Int) ≤ e51.2.2.1 ∧ (e51.2.2.1 : Int) < u48.2.2.1.length)) then
bif (decide (e51.2.2.1.toNat < u48.2.2.1.length)) then
some ((0, ()), (((x49, ()), ()), ((u48.2.2.1.set e51.2.2.1.toNat u57.2.1.1), (u48.2.2.2.2.1, (u48.2.2.2.2.2.1, ())))))
else none
else none)
else (bif ((e51.1 : Int) == 3) then ((m52 (((v.1.1.1.length : Int), (e54, (e51, ()))), ())).bind fun u58 =>
bif (decide ((0 : Int) ≤ e51.2.2.1 ∧ (e51.2.2.1 : Int) < u48.2.2.1.length)) then
bif (decide (e51.2.2.1.toNat < u48.2.2.1.length)) then
bif u58.1.1 then (bif (decide (x49.length + ([(u58.2.2.1.1.1, (u58.2.2.1.1.2.1, (u58.2.2.1.1.2.2.1, (u58.2.2.1.1.2.2.2.1, (u58.2.2.1.1.2.2.2.2.1, (u58.2.2.1.1.2.2.2.2.2.1, (u58.2.2.1.1.2.2.2.2.2.2.1, ([], (u58.2.2.1.1.2.2.2.2.2.2.2.1, ())))))))))] : List Y7).length ≤ 4294967296)) then
let x59 := (x49 ++ ([(u58.2.2.1.1.1, (u58.2.2.1.1.2.1, (u58.2.2.1.1.2.2.1, (u58.2.2.1.1.2.2.2.1, (u58.2.2.1.1.2.2.2.2.1, (u58.2.2.1.1.2.2.2.2.2.1, (u58.2.2.1.1.2.2.2.2.2.2.1, ([], (u58.2.2.1.1.2.2.2.2.2.2.2.1, ())))))))))] : List Y7))
some ((0, ()), (((x59, ()), ()), ((u48.2.2.1.set e51.2.2.1.toNat u58.2.1.1), (u48.2.2.2.2.1, (u48.2.2.2.2.2.1, ())))))
else none)
else (some ((0, ()), (((x49, ()), ()), ((u48.2.2.1.set e51.2.2.1.toNat u58.2.1.1), (u48.2.2.2.2.1, (u48.2.2.2.2.2.1, ()))))))
else none
else none)
else (bif ((e51.1 : Int) == 4) then ((m53 (((v.1.1.1.length : Int), (e54, (e51, ()))), ())).bind fun u60 =>
bif (decide ((0 : Int) ≤ e51.2.2.1 ∧ (e51.2.2.1 : Int) < u48.2.2.1.length)) then
bif (decide (e51.2.2.1.toNat < u48.2.2.1.length)) then
some ((0, ()), (((x49, ()), ()), ((u48.2.2.1.set e51.2.2.1.toNat u60.2.1.1), (u48.2.2.2.2.1, (u48.2.2.2.2.2.1, ())))))
else none
else none)
else (bif (decide ((0 : Int) ≤ e51.2.2.1 ∧ (e51.2.2.1 : Int) < u48.2.2.1.length)) then
bif (decide (e51.2.2.1.toNat < u48.2.2.1.length)) then
some ((0, ()), (((x49, ()), ()), ((u48.2.2.1.set e51.2.2.1.toNat e54), (u48.2.2.2.2.1, (u48.2.2.2.2.2.1, ())))))
else none
else none))))
else none))
else none
else none)
else (bif ((u48.2.2.2.1.drop (w64 (v.1.2.1 + 1)).toNat).take (u48.2.2.2.1.length - (w64 (v.1.2.1 + 1)).toNat)).isEmpty then ((m115 ((v.1.1, ()), ())).bind fun u61 =>
bif (decide ((0 : Int) ≤ v.1.2.1 ∧ (v.1.2.1 : Int) < u61.2.2.2.1.length)) then
(u61.2.2.2.1[v.1.2.1.toNat]?).bind fun e62 =>
Abs.rowAt v.1.1.2.2.1 e62.2.2.1 fun e63 _ =>
bif e63 then (some ((0, ()), ((((u48.2.2.2.1.take v.1.2.1.toNat), ()), ()), (u48.2.2.1, (u48.2.2.2.2.1, (u48.2.2.2.2.2.1, ()))))))
else ((m113 ((v.1.1.2.2.2.1, (e62.2.1, (e62.2.2.1, ()))), ())).bind fun u64 =>
bif u64.1.1 then (some ((0, ()), ((((u48.2.2.2.1.take v.1.2.1.toNat), ()), ()), (u48.2.2.1, (u48.2.2.2.2.1, (u48.2.2.2.2.2.1, ()))))))
else (bif (decide ((0 : Int) ≤ e62.2.2.1 ∧ (e62.2.2.1 : Int) < u48.2.2.1.length)) then
(u48.2.2.1[e62.2.2.1.toNat]?).bind fun e65 =>
bif ((e62.1 : Int) == 1) then ((m34 (((v.1.1.1.length : Int), (e65, (e62, ()))), ())).bind fun u66 =>
bif (decide ((0 : Int) ≤ e62.2.2.1 ∧ (e62.2.2.1 : Int) < u48.2.2.1.length)) then
bif (decide (e62.2.2.1.toNat < u48.2.2.1.length)) then
bif u66.1.1 then (bif (u48.2.2.2.1.take v.1.2.1.toNat).isEmpty then (bif (decide ((u48.2.2.2.1.take v.1.2.1.toNat).length + ([(u66.2.2.1.1.1, (u66.2.2.1.1.2.1, (u66.2.2.1.1.2.2.1, (u66.2.2.1.1.2.2.2.1, (u66.2.2.1.1.2.2.2.2.1, (u66.2.2.1.1.2.2.2.2.2.1, (u66.2.2.1.1.2.2.2.2.2.2.1, ([], (u66.2.2.1.1.2.2.2.2.2.2.2.1, ())))))))))] : List Y7).length ≤ 4294967296)) then
let x67 := ((u48.2.2.2.1.take v.1.2.1.toNat) ++ ([(u66.2.2.1.1.1, (u66.2.2.1.1.2.1, (u66.2.2.1.1.2.2.1, (u66.2.2.1.1.2.2.2.1, (u66.2.2.1.1.2.2.2.2.1, (u66.2.2.1.1.2.2.2.2.2.1, (u66.2.2.1.1.2.2.2.2.2.2.1, ([], (u66.2.2.1.1.2.2.2.2.2.2.2.1, ())))))))))] : List Y7))
some ((0, ()), (((x67, ()), ()), ((u48.2.2.1.set e62.2.2.1.toNat u66.2.1.1), (u48.2.2.2.2.1, (u48.2.2.2.2.2.1, ())))))
else none)
else (bif (decide ((u48.2.2.2.1.take v.1.2.1.toNat).length + ([(u66.2.2.1.1.1, (u66.2.2.1.1.2.1, (u66.2.2.1.1.2.2.1, (u66.2.2.1.1.2.2.2.1, (u66.2.2.1.1.2.2.2.2.1, (u66.2.2.1.1.2.2.2.2.2.1, (u66.2.2.1.1.2.2.2.2.2.2.1, ([], (u66.2.2.1.1.2.2.2.2.2.2.2.1, ())))))))))] : List Y7).length ≤ 4294967296)) then
let x68 := ((u48.2.2.2.1.take v.1.2.1.toNat) ++ ([(u66.2.2.1.1.1, (u66.2.2.1.1.2.1, (u66.2.2.1.1.2.2.1, (u66.2.2.1.1.2.2.2.1, (u66.2.2.1.1.2.2.2.2.1, (u66.2.2.1.1.2.2.2.2.2.1, (u66.2.2.1.1.2.2.2.2.2.2.1, ([], (u66.2.2.1.1.2.2.2.2.2.2.2.1, ())))))))))] : List Y7))
some ((0, ()), (((x68, ()), ()), ((u48.2.2.1.set e62.2.2.1.toNat u66.2.1.1), (u48.2.2.2.2.1, (u48.2.2.2.2.2.1, ())))))
else none))
else (some ((0, ()), ((((u48.2.2.2.1.take v.1.2.1.toNat), ()), ()), ((u48.2.2.1.set e62.2.2.1.toNat u66.2.1.1), (u48.2.2.2.2.1, (u48.2.2.2.2.2.1, ()))))))
else none
else none)
else (bif ((e62.1 : Int) == 2) then ((m37 (((v.1.1.1.length : Int), (e65, (e62, ()))), ())).bind fun u69 =>
bif (decide ((0 : Int) ≤ e62.2.2.1 ∧ (e62.2.2.1 : Int) < u48.2.2.1.length)) then
bif (decide (e62.2.2.1.toNat < u48.2.2.1.length)) then
some ((0, ()), ((((u48.2.2.2.1.take v.1.2.1.toNat), ()), ()), ((u48.2.2.1.set e62.2.2.1.toNat u69.2.1.1), (u48.2.2.2.2.1, (u48.2.2.2.2.2.1, ())))))
else none
else none)
else (bif ((e62.1 : Int) == 3) then ((m52 (((v.1.1.1.length : Int), (e65, (e62, ()))), ())).bind fun u70 =>
bif (decide ((0 : Int) ≤ e62.2.2.1 ∧ (e62.2.2.1 : Int) < u48.2.2.1.length)) then
bif (decide (e62.2.2.1.toNat < u48.2.2.1.length)) then
bif u70.1.1 then (bif (u48.2.2.2.1.take v.1.2.1.toNat).isEmpty then (bif (decide ((u48.2.2.2.1.take v.1.2.1.toNat).length + ([(u70.2.2.1.1.1, (u70.2.2.1.1.2.1, (u70.2.2.1.1.2.2.1, (u70.2.2.1.1.2.2.2.1, (u70.2.2.1.1.2.2.2.2.1, (u70.2.2.1.1.2.2.2.2.2.1, (u70.2.2.1.1.2.2.2.2.2.2.1, ([], (u70.2.2.1.1.2.2.2.2.2.2.2.1, ())))))))))] : List Y7).length ≤ 4294967296)) then
let x71 := ((u48.2.2.2.1.take v.1.2.1.toNat) ++ ([(u70.2.2.1.1.1, (u70.2.2.1.1.2.1, (u70.2.2.1.1.2.2.1, (u70.2.2.1.1.2.2.2.1, (u70.2.2.1.1.2.2.2.2.1, (u70.2.2.1.1.2.2.2.2.2.1, (u70.2.2.1.1.2.2.2.2.2.2.1, ([], (u70.2.2.1.1.2.2.2.2.2.2.2.1, ())))))))))] : List Y7))
some ((0, ()), (((x71, ()), ()), ((u48.2.2.1.set e62.2.2.1.toNat u70.2.1.1), (u48.2.2.2.2.1, (u48.2.2.2.2.2.1, ())))))
else none)
else (bif (decide ((u48.2.2.2.1.take v.1.2.1.toNat).length + ([(u70.2.2.1.1.1, (u70.2.2.1.1.2.1, (u70.2.2.1.1.2.2.1, (u70.2.2.1.1.2.2.2.1, (u70.2.2.1.1.2.2.2.2.1, (u70.2.2.1.1.2.2.2.2.2.1, (u70.2.2.1.1.2.2.2.2.2.2.1, ([], (u70.2.2.1.1.2.2.2.2.2.2.2.1, ())))))))))] : List Y7).length ≤ 4294967296)) then
let x72 := ((u48.2.2.2.1.take v.1.2.1.toNat) ++ ([(u70.2.2.1.1.1, (u70.2.2.1.1.2.1, (u70.2.2.1.1.2.2.1, (u70.2.2.1.1.2.2.2.1, (u70.2.2.1.1.2.2.2.2.1, (u70.2.2.1.1.2.2.2.2.2.1, (u70.2.2.1.1.2.2.2.2.2.2.1, ([], (u70.2.2.1.1.2.2.2.2.2.2.2.1, ())))))))))] : List Y7))
some ((0, ()), (((x72, ()), ()), ((u48.2.2.1.set e62.2.2.1.toNat u70.2.1.1), (u48.2.2.2.2.1, (u48.2.2.2.2.2.1, ())))))
else none))
else (some ((0, ()), ((((u48.2.2.2.1.take v.1.2.1.toNat), ()), ()), ((u48.2.2.1.set e62.2.2.1.toNat u70.2.1.1), (u48.2.2.2.2.1, (u48.2.2.2.2.2.1, ()))))))
else none
else none)
else (bif ((e62.1 : Int) == 4) then ((m53 (((v.1.1.1.length : Int), (e65, (e62, ()))), ())).bind fun u73 =>
bif (decide ((0 : Int) ≤ e62.2.2.1 ∧ (e62.2.2.1 : Int) < u48.2.2.1.length)) then
bif (decide (e62.2.2.1.toNat < u48.2.2.1.length)) then
some ((0, ()), ((((u48.2.2.2.1.take v.1.2.1.toNat), ()), ()), ((u48.2.2.1.set e62.2.2.1.toNat u73.2.1.1), (u48.2.2.2.2.1, (u48.2.2.2.2.2.1, ())))))
else none
else none)
else (bif (decide ((0 : Int) ≤ e62.2.2.1 ∧ (e62.2.2.1 : Int) < u48.2.2.1.length)) then
bif (decide (e62.2.2.1.toNat < u48.2.2.1.length)) then
some ((0, ()), ((((u48.2.2.2.1.take v.1.2.1.toNat), ()), ()), ((u48.2.2.1.set e62.2.2.1.toNat e65), (u48.2.2.2.2.1, (u48.2.2.2.2.2.1, ())))))
else none
else none))))
else none))
else none)
else (bif (decide ((u48.2.2.2.1.take v.1.2.1.toNat).length + ((u48.2.2.2.1.drop (w64 (v.1.2.1 + 1)).toNat).take (u48.2.2.2.1.length - (w64 (v.1.2.1 + 1)).toNat)).length ≤ 4294967296)) then
let x74 := ((u48.2.2.2.1.take v.1.2.1.toNat) ++ ((u48.2.2.2.1.drop (w64 (v.1.2.1 + 1)).toNat).take (u48.2.2.2.1.length - (w64 (v.1.2.1 + 1)).toNat)))
(m115 ((v.1.1, ()), ())).bind fun u75 =>
bif (decide ((0 : Int) ≤ v.1.2.1 ∧ (v.1.2.1 : Int) < u75.2.2.2.1.length)) then
(u75.2.2.2.1[v.1.2.1.toNat]?).bind fun e76 =>
Abs.rowAt v.1.1.2.2.1 e76.2.2.1 fun e77 _ =>
bif e77 then (some ((0, ()), (((x74, ()), ()), (u48.2.2.1, (u48.2.2.2.2.1, (u48.2.2.2.2.2.1, ()))))))
else ((m113 ((v.1.1.2.2.2.1, (e76.2.1, (e76.2.2.1, ()))), ())).bind fun u78 =>
bif u78.1.1 then (some ((0, ()), (((x74, ()), ()), (u48.2.2.1, (u48.2.2.2.2.1, (u48.2.2.2.2.2.1, ()))))))
else (bif (decide ((0 : Int) ≤ e76.2.2.1 ∧ (e76.2.2.1 : Int) < u48.2.2.1.length)) then
(u48.2.2.1[e76.2.2.1.toNat]?).bind fun e79 =>
bif ((e76.1 : Int) == 1) then ((m34 (((v.1.1.1.length : Int), (e79, (e76, ()))), ())).bind fun u80 =>
bif (decide ((0 : Int) ≤ e76.2.2.1 ∧ (e76.2.2.1 : Int) < u48.2.2.1.length)) then
bif (decide (e76.2.2.1.toNat < u48.2.2.1.length)) then
bif u80.1.1 then (bif (decide (x74.length + ([(u80.2.2.1.1.1, (u80.2.2.1.1.2.1, (u80.2.2.1.1.2.2.1, (u80.2.2.1.1.2.2.2.1, (u80.2.2.1.1.2.2.2.2.1, (u80.2.2.1.1.2.2.2.2.2.1, (u80.2.2.1.1.2.2.2.2.2.2.1, ([], (u80.2.2.1.1.2.2.2.2.2.2.2.1, ())))))))))] : List Y7).length ≤ 4294967296)) then
let x81 := (x74 ++ ([(u80.2.2.1.1.1, (u80.2.2.1.1.2.1, (u80.2.2.1.1.2.2.1, (u80.2.2.1.1.2.2.2.1, (u80.2.2.1.1.2.2.2.2.1, (u80.2.2.1.1.2.2.2.2.2.1, (u80.2.2.1.1.2.2.2.2.2.2.1, ([], (u80.2.2.1.1.2.2.2.2.2.2.2.1, ())))))))))] : List Y7))
some ((0, ()), (((x81, ()), ()), ((u48.2.2.1.set e76.2.2.1.toNat u80.2.1.1), (u48.2.2.2.2.1, (u48.2.2.2.2.2.1, ())))))
else none)
else (some ((0, ()), (((x74, ()), ()), ((u48.2.2.1.set e76.2.2.1.toNat u80.2.1.1), (u48.2.2.2.2.1, (u48.2.2.2.2.2.1, ()))))))
else none
else none)
else (bif ((e76.1 : Int) == 2) then ((m37 (((v.1.1.1.length : Int), (e79, (e76, ()))), ())).bind fun u82 =>
bif (decide ((0 : Int) ≤ e76.2.2.1 ∧ (e76.2.2.1 : Int) < u48.2.2.1.length)) then
bif (decide (e76.2.2.1.toNat < u48.2.2.1.length)) then
some ((0, ()), (((x74, ()), ()), ((u48.2.2.1.set e76.2.2.1.toNat u82.2.1.1), (u48.2.2.2.2.1, (u48.2.2.2.2.2.1, ())))))
else none
else none)
else (bif ((e76.1 : Int) == 3) then ((m52 (((v.1.1.1.length : Int), (e79, (e76, ()))), ())).bind fun u83 =>
bif (decide ((0 : Int) ≤ e76.2.2.1 ∧ (e76.2.2.1 : Int) < u48.2.2.1.length)) then
bif (decide (e76.2.2.1.toNat < u48.2.2.1.length)) then
bif u83.1.1 then (bif (decide (x74.length + ([(u83.2.2.1.1.1, (u83.2.2.1.1.2.1, (u83.2.2.1.1.2.2.1, (u83.2.2.1.1.2.2.2.1, (u83.2.2.1.1.2.2.2.2.1, (u83.2.2.1.1.2.2.2.2.2.1, (u83.2.2.1.1.2.2.2.2.2.2.1, ([], (u83.2.2.1.1.2.2.2.2.2.2.2.1, ())))))))))] : List Y7).length ≤ 4294967296)) then
let x84 := (x74 ++ ([(u83.2.2.1.1.1, (u83.2.2.1.1.2.1, (u83.2.2.1.1.2.2.1, (u83.2.2.1.1.2.2.2.1, (u83.2.2.1.1.2.2.2.2.1, (u83.2.2.1.1.2.2.2.2.2.1, (u83.2.2.1.1.2.2.2.2.2.2.1, ([], (u83.2.2.1.1.2.2.2.2.2.2.2.1, ())))))))))] : List Y7))
some ((0, ()), (((x84, ()), ()), ((u48.2.2.1.set e76.2.2.1.toNat u83.2.1.1), (u48.2.2.2.2.1, (u48.2.2.2.2.2.1, ())))))
else none)
else (some ((0, ()), (((x74, ()), ()), ((u48.2.2.1.set e76.2.2.1.toNat u83.2.1.1), (u48.2.2.2.2.1, (u48.2.2.2.2.2.1, ()))))))
else none
else none)
else (bif ((e76.1 : Int) == 4) then ((m53 (((v.1.1.1.length : Int), (e79, (e76, ()))), ())).bind fun u85 =>
bif (decide ((0 : Int) ≤ e76.2.2.1 ∧ (e76.2.2.1 : Int) < u48.2.2.1.length)) then
bif (decide (e76.2.2.1.toNat < u48.2.2.1.length)) then
some ((0, ()), (((x74, ()), ()), ((u48.2.2.1.set e76.2.2.1.toNat u85.2.1.1), (u48.2.2.2.2.1, (u48.2.2.2.2.2.1, ())))))
else none
else none)
else (bif (decide ((0 : Int) ≤ e76.2.2.1 ∧ (e76.2.2.1 : Int) < u48.2.2.1.length)) then
bif (decide (e76.2.2.1.toNat < u48.2.2.1.length)) then
some ((0, ()), (((x74, ()), ()), ((u48.2.2.1.set e76.2.2.1.toNat e79), (u48.2.2.2.2.1, (u48.2.2.2.2.2.1, ())))))
else none
else none))))
else none))
else none
else none))
else none
else none
else none
else none
else none
else none)

def sp105 : Abs.Spec := ⟨0, i105, o105, m105⟩

def an105 : Nat → Abs.FAn
  | 0 => Abs.FAn.mk (fun _ => none) (fun _ => none) (fun _ => none) (fun
    | 1, 2 => 1
    | _, _ => 0)
  | _ => {}

theorem ok105 : Abs.SpecOK Try.prog 105 sp105 :=
  Abs.specOK_of (n := 12) (an := an105) (T := Abs.tabOf [(136, sp136), (115, sp115), (113, sp113), (34, sp34), (37, sp37), (52, sp52), (53, sp53)]) good foll (Abs.tabOf_ok _ (by simp only [List.forall_mem_cons]; exact ⟨ok136, ok115, ok113, ok34, ok37, ok52, ok53, fun _ h => by cases h⟩)) rfl (by intro v; kernel_rfl)

/- warnings: indexAddr: size -/

def l65_0_1 (v : ((Unit) × (((Unit) × Unit) × Y10 × Unit))) : Option (((Unit) × (((Unit) × Unit) × Y10 × Unit)) ⊕ ((Unit) × (((Unit) × Unit) × Y10 × Unit))) :=
let x13 := (decide (((v.2.2.1.1.2.1.length : Int) : Int) > 0))
bif x13 then ((m105 ((v.2.2.1.1, (0, ())), ())).bind fun u14 =>
bif ((u14.1.1 : Int) != 0) then (some (.inr ((), (((), ()), ((v.2.2.1.1, ()), ())))))
else (some (.inl ((), (((), ()), (((u14.2.2.1, (u14.2.1.1.1, (u14.2.2.2.1, (u14.2.2.2.2.1, ())))), ()), ()))))))
else (some (.inr ((), (((), ()), ((v.2.2.1.1, ()), ())))))

/- pagewatch/pagewatchref34.Flush -/
def i65 : Abs.Sg := ⟨[0], (.dat Z8 .nil), .nil⟩

def o65 : Abs.Sg := ⟨[2], (.st (.ptr (0, 0) 4 0 0) .nil), (.box 4 (.dat Z8 .nil) .nil)⟩

def m65 (v : (Y10 × (Unit))) : Option ((Unit) × (Y10 × Unit)) :=
(loopT l65_0_1 ((), (((), ()), ((v.1.1, ()), ())))).bind fun d15 =>
some ((), ((d15.2.2.1.1, ()), ()))

def sp65 : Abs.Spec := ⟨0, i65, o65, m65⟩

def an65 : Nat → Abs.FAn
  | 0 => Abs.FAn.mk (fun _ => none) (fun _ => none) (fun
    | 1 => some ⟨⟨[2, 1], (.st (.ptr (0, 0) 4 0 0) (.st (.ptr (1, 0) 4 0 0) .nil)), (.box 4 (.agg (.st .nil (.st .nil (.st .nil (.st .nil .nil)))) .nil) (.box 4 (.dat Z8 .nil) .nil))⟩, (.one (.exit 0) ⟨[2, 1], (.st (.ptr (0, 0) 4 0 0) (.st (.ptr (1, 0) 4 0 0) .nil)), (.box 4 (.agg (.st .nil (.st .nil (.st .nil (.st .nil .nil)))) .nil) (.box 4 (.dat Z8 .nil) .nil))⟩)⟩
    | _ => none) (fun _ _ => 0)
  | _ => {}

theorem ok65 : Abs.SpecOK Try.prog 65 sp65 :=
  Abs.specOK_of (n := 12) (an := an65) (T := Abs.tabOf [(105, sp105)]) good foll (Abs.tabOf_ok _ (by simp only [List.forall_mem_cons]; exact ⟨ok105, fun _ h => by cases h⟩)) rfl (by intro v; kernel_rfl)

def l57_0_5 (v : ((Int × Int × Unit) × ((List Y7) × (Y5 × Unit) × Unit))) : Option (((Int × Int × Unit) × ((List Y7) × (Y5 × Unit) × Unit)) ⊕ ((Unit) × ((List Y7) × Unit))) :=
bif (decide ((v.1.1 : Int) < v.1.2.1)) then (((bif ((v.1.1 : Int) == v.2.2.1.1.1) then (some ((v.1.2.1, (v.1.1, ())), (v.2.1, ((v.2.2.1.1, ()), ()))))
else (Abs.rowAt v.2.2.1.1.2.2.2.2.2.2.2.1 v.1.1 fun e42 _ =>
bif (decide ((0 : Int) ≤ e42)) then
bif (decide (e42.toNat ≤ v.2.2.1.1.2.2.2.2.1.length ∧ v.2.2.1.1.2.2.2.2.1.length ≤ v.2.2.1.1.2.2.2.2.1.length)) then
let x43 := ((v.2.2.1.1.2.2.2.2.1.drop e42.toNat).take (v.2.2.1.1.2.2.2.2.1.length - e42.toNat))
bif (decide (0 + x43.length ≤ 4294967296)) then
((bif (decide ((e42 : Int) > 0)) then (Abs.rowAt v.2.2.1.1.2.2.2.2.1 (w64 (e42 - 1)) fun e44 _ =>
some ((v.1.2.1, (v.1.1, ())), ((v.2.2.1.1, ()), (((3, (v.2.2.1.1.1, (v.1.1, (v.2.2.1.1.2.1, (e42, (e44.1, (v.2.2.1.1.2.2.2.2.2.1, (false, ())))))))), ()), (v.2.1, (x43, ()))))))
else (some ((v.1.2.1, (v.1.1, ())), ((v.2.2.1.1, ()), (((3, (v.2.2.1.1.1, (v.1.1, (v.2.2.1.1.2.1, (e42, (0, (v.2.2.1.1.2.2.2.2.2.1, (false, ())))))))), ()), (v.2.1, (x43, ()))))))) : Option ((Int × Int × Unit) × ((Y5 × Unit) × Y15 × (List Y7) × Y2 × Unit))).bind fun v45 =>
bif (decide (v45.2.2.2.1.length + ([(v45.2.2.1.1.1, (v45.2.2.1.1.2.1, (v45.2.2.1.1.2.2.1, (v45.2.2.1.1.2.2.2.1, (v45.2.2.1.1.2.2.2.2.1, (v45.2.2.1.1.2.2.2.2.2.1, (v45.2.2.1.1.2.2.2.2.2.2.1, (v45.2.2.2.2.1, (v45.2.2.1.1.2.2.2.2.2.2.2.1, ())))))))))] : List Y7).length ≤ 4294967296)) then
let x46 := (v45.2.2.2.1 ++ ([(v45.2.2.1.1.1, (v45.2.2.1.1.2.1, (v45.2.2.1.1.2.2.1, (v45.2.2.1.1.2.2.2.1, (v45.2.2.1.1.2.2.2.2.1, (v45.2.2.1.1.2.2.2.2.2.1, (v45.2.2.1.1.2.2.2.2.2.2.1, (v45.2.2.2.2.1, (v45.2.2.1.1.2.2.2.2.2.2.2.1, ())))))))))] : List Y7))
some ((v45.1.1, (v45.1.2.1, ())), (x46, ((v45.2.1.1, ()), ())))
else none
else none
else none
else none)) : Option ((Int × Int × Unit) × ((List Y7) × (Y5 × Unit) × Unit))).bind fun v47 =>
some (.inl (((w64 (v47.1.2.1 + 1)), (v47.1.1, ())), (v47.2.1, ((v47.2.2.1.1, ()), ())))))
else (some (.inr ((), (v.2.1, ()))))

/- pagewatch/pagewatchref33.Appends -/
def i57 : Abs.Sg := ⟨[0, 1], (.dat (.int .i64) (.dat Z3 .nil)), .nil⟩

def o57 : Abs.Sg := ⟨[4], (.st (.own Z4 (0, 0)) .nil), (.arr Z4 false .nil)⟩

def m57 (v : ((Int × Y5 × Unit) × (Unit))) : Option ((Unit) × ((List Y7) × Unit)) :=
(((m27 ((v.1.1, (v.1.2.1, ())), ())).bind fun u40 =>
bif (!u40.1.1) then (some ((true, (v.1.1, ())), ((v.1.2.1, ()), ())))
else (some ((((v.1.2.1.2.2.2.1 : Int) != 2), (v.1.1, ())), ((v.1.2.1, ()), ())))) : Option ((Bool × Int × Unit) × ((Y5 × Unit) × Unit))).bind fun v41 =>
bif v41.1.1 then (some ((), ([], ())))
else ((loopT l57_0_5 ((0, (v41.1.2.1, ())), ([], ((v41.2.1.1, ()), ())))).bind fun d48 =>
some ((), (d48.2.1, ())))

def sp57 : Abs.Spec := ⟨0, i57, o57, m57⟩

def an57 : Nat → Abs.FAn
  | 0 => Abs.FAn.mk (fun
    | 1 => some ⟨[17, 3, 0], (.dat .bool (.st (.ptr (0, 0) 8 0 0) (.dat (.int .i64) .nil))), (.box 8 (.dat Z3 .nil) .nil)⟩
    | _ => none) (fun
    | 6 => some (⟨[5, 3, 0, 6], (.st (.own Z4 (0, 0)) (.st (.ptr (1, 0) 8 0 0) (.dat (.int .i64) (.dat (.int .i64) .nil)))), (.arr Z4 false (.box 8 (.dat Z3 .nil) .nil))⟩, none)
    | 12 => some (⟨[3, 0, 6, 8, 5], (.st (.ptr (0, 0) 8 0 0) (.dat (.int .i64) (.dat (.int .i64) (.st (.ptr (1, 0) 9 0 0) (.st (.own Z4 (2, 0)) .nil))))), (.box 8 (.dat Z3 .nil) (.box 9 (.agg (.dat (.int .i64) (.dat (.int .i64) (.dat (.int .i64) (.dat (.int .i64) (.dat (.int .i64) (.dat (.int .i64) (.dat (.int .i64) (.st (.own Z1 (3, 0)) (.dat .bool .nil))))))))) .nil) (.arr Z4 false (.arr Z1 false .nil))))⟩, none)
    | _ => none) (fun
    | 5 => some ⟨⟨[6, 5, 3, 0], (.dat (.int .i64) (.st (.own Z4 (0, 0)) (.st (.ptr (1, 0) 8 0 0) (.dat (.int .i64) .nil)))), (.arr Z4 false (.box 8 (.dat Z3 .nil) .nil))⟩, (.one (.exit 0) ⟨[5], (.st (.own Z4 (0, 0)) .nil), (.arr Z4 false .nil)⟩)⟩
    | _ => none) (fun _ _ => 0)
  | _ => {}

theorem ok57 : Abs.SpecOK Try.prog 57 sp57 :=
  Abs.specOK_of (n := 12) (an := an57) (T := Abs.tabOf [(27, sp27)]) good foll (Abs.tabOf_ok _ (by simp only [List.forall_mem_cons]; exact ⟨ok27, fun _ h => by cases h⟩)) rfl (by intro v; kernel_rfl)

/- pagewatch/pagewatchref34.Beat -/
def i117 : Abs.Sg := ⟨[0, 1], (.dat Z8 (.dat (.int .i64) .nil)), .nil⟩

def o117 : Abs.Sg := ⟨[4, 5], (.st (.ptr (0, 0) 4 0 0) (.dat (.int .i64) .nil)), (.box 4 (.agg (.st (.own Z3 (1, 0)) (.st (.own Z4 (2, 0)) (.st (.own .bool (3, 0)) (.st (.own Z16 (4, 0)) .nil)))) .nil) (.arr Z3 false (.arr Z4 false (.arr .bool false (.arr Z16 false .nil)))))⟩

def m117 (v : Y18) : Option Y19 :=
(m114 ((v.1.1, (v.1.2.1, ())), ())).bind fun u25 =>
bif ((u25.1.1 : Int) != 0) then (some ((u25.1.1, ()), (((), ()), ([], ([], ([], ([], ())))))))
else (Abs.rowAt v.1.1.2.2.1 v.1.2.1 fun e26 _ =>
bif e26 then (some ((21, ()), (((), ()), ([], ([], ([], ([], ())))))))
else (Abs.rowAt v.1.1.1 v.1.2.1 fun e27 _ =>
bif ((e27.2.2.2.1 : Int) != 2) then (some ((22, ()), (((), ()), ([], ([], ([], ([], ())))))))
else ((m115 ((v.1.1, ()), ())).bind fun u28 =>
bif (decide ((0 : Int) ≤ v.1.2.1 ∧ (v.1.2.1 : Int) < u28.2.2.1.length)) then
(u28.2.2.1[v.1.2.1.toNat]?).bind fun e29 =>
(m57 (((v.1.1.1.length : Int), (e29, ())), ())).bind fun u30 =>
let x31 := (w64 (((u28.2.2.2.1.length : Nat) : Int) + ((u30.2.1.length : Nat) : Int)))
bif (decide ((x31 : Int) > 256)) then (some ((5, ()), (((), ()), ([], ([], ([], ([], ())))))))
else (bif (decide (u28.2.2.2.1.length + u30.2.1.length ≤ 4294967296)) then
some ((0, ()), (((), ()), (u28.2.2.1, ((u28.2.2.2.1 ++ u30.2.1), (u28.2.2.2.2.1, (u28.2.2.2.2.2.1, ()))))))
else none)
else none)))

def sp117 : Abs.Spec := ⟨0, i117, o117, m117⟩

def an117 : Nat → Abs.FAn
  | _ => {}

theorem ok117 : Abs.SpecOK Try.prog 117 sp117 :=
  Abs.specOK_of (n := 12) (an := an117) (T := Abs.tabOf [(114, sp114), (115, sp115), (57, sp57)]) good foll (Abs.tabOf_ok _ (by simp only [List.forall_mem_cons]; exact ⟨ok114, ok115, ok57, fun _ h => by cases h⟩)) rfl (by intro v; kernel_rfl)

def l73_0_11 (v : ((Int × Int × Unit) × (Y10 × ((Unit) × Unit) × Unit))) : Option (((Int × Int × Unit) × (Y10 × ((Unit) × Unit) × Unit)) ⊕ ((Unit) × (((Unit) × Unit) × Y10 × Unit))) :=
((bif (decide ((v.1.1 : Int) < 2)) then (Abs.rowAt v.2.1.1.1 v.1.2.1 fun e40 _ =>
some ((((e40.2.2.2.1 : Int) == 2), (v.1.2.1, (v.1.1, ()))), ((v.2.1.1, ()), (((), ()), ()))))
else (some ((false, (v.1.2.1, (v.1.1, ()))), ((v.2.1.1, ()), (((), ()), ()))))) : Option ((Bool × Int × Int × Unit) × (Y10 × ((Unit) × Unit) × Unit))).bind fun v41 =>
bif v41.1.1 then ((m117 ((v41.2.1.1, (v41.1.2.1, ())), ())).bind fun u42 =>
(m65 (((u42.2.2.1, (u42.2.2.2.1, (u42.2.2.2.2.1, (u42.2.2.2.2.2.1, ())))), ()), ())).bind fun u43 =>
some (.inl (((w64 (v41.1.2.2.1 + 1)), (v41.1.2.1, ())), ((u43.2.1.1, ()), (((), ()), ())))))
else (some (.inr ((), (((), ()), ((v41.2.1.1, ()), ())))))

/- pagewatch/pagewatchref34.Settle -/
def i73 : Abs.Sg := ⟨[0, 1], (.dat Z8 (.dat (.int .i64) .nil)), .nil⟩

def o73 : Abs.Sg := ⟨[4, 5], (.st (.ptr (0, 0) 4 0 0) (.dat (.int .i64) .nil)), (.box 4 (.dat Z8 .nil) .nil)⟩

def m73 (v : Y18) : Option ((Int × Unit) × (Y10 × Unit)) :=
(m114 ((v.1.1, (v.1.2.1, ())), ())).bind fun u36 =>
bif ((u36.1.1 : Int) != 0) then (some ((u36.1.1, ()), ((([], ([], ([], ([], ())))), ()), ())))
else ((m115 ((v.1.1, ()), ())).bind fun u37 =>
(m116 (((u37.2.2.1, ([], (u37.2.2.2.2.1, (u37.2.2.2.2.2.1, ())))), (v.1.2.1, ())), ())).bind fun u38 =>
bif ((u38.1.1 : Int) != 0) then (some ((u38.1.1, ()), ((([], ([], ([], ([], ())))), ()), ())))
else ((m65 (((u38.2.2.1, (u38.2.2.2.1, (u38.2.2.2.2.1, (u38.2.2.2.2.2.1, ())))), ()), ())).bind fun u39 =>
(loopT l73_0_11 ((0, (v.1.2.1, ())), ((u39.2.1.1, ()), (((), ()), ())))).bind fun d44 =>
some ((0, ()), ((d44.2.2.1.1, ()), ()))))

def sp73 : Abs.Spec := ⟨0, i73, o73, m73⟩

def an73 : Nat → Abs.FAn
  | 0 => Abs.FAn.mk (fun
    | 11 => some ⟨[41, 2, 1, 4, 8], (.dat .bool (.st (.ptr (0, 0) 4 0 0) (.dat (.int .i64) (.st (.ptr (1, 0) 4 0 0) (.dat (.int .i64) .nil))))), (.box 4 (.dat Z8 .nil) (.box 4 (.agg (.st .nil (.st .nil (.st .nil (.st .nil .nil)))) .nil) .nil))⟩
    | _ => none) (fun _ => none) (fun
    | 11 => some ⟨⟨[8, 2, 1, 4], (.dat (.int .i64) (.st (.ptr (0, 0) 4 0 0) (.dat (.int .i64) (.st (.ptr (1, 0) 4 0 0) .nil)))), (.box 4 (.dat Z8 .nil) (.box 4 (.agg (.st .nil (.st .nil (.st .nil (.st .nil .nil)))) .nil) .nil))⟩, (.one (.exit 0) ⟨[4, 2], (.st (.ptr (0, 0) 4 0 0) (.st (.ptr (1, 0) 4 0 0) .nil)), (.box 4 (.agg (.st .nil (.st .nil (.st .nil (.st .nil .nil)))) .nil) (.box 4 (.dat Z8 .nil) .nil))⟩)⟩
    | _ => none) (fun _ _ => 0)
  | _ => {}

theorem ok73 : Abs.SpecOK Try.prog 73 sp73 :=
  Abs.specOK_of (n := 12) (an := an73) (T := Abs.tabOf [(114, sp114), (115, sp115), (116, sp116), (65, sp65), (117, sp117)]) good foll (Abs.tabOf_ok _ (by simp only [List.forall_mem_cons]; exact ⟨ok114, ok115, ok116, ok65, ok117, fun _ h => by cases h⟩)) rfl (by intro v; kernel_rfl)

def l43_0_3 (v : ((Int × Int × Bool × Unit) × (Y10 × Unit))) : Option (((Int × Int × Bool × Unit) × (Y10 × Unit)) ⊕ ((Bool × Int × Unit) × (Unit))) :=
((let x43 := (decide ((v.1.1 : Int) < (v.2.1.1.1.length : Int)))
bif x43 then ((m71 ((v.2.1.1, ()), ())).bind fun u44 =>
some ((u44.1.1, (v.1.1, (v.1.2.1, (v.1.2.2.1, ())))), ((v.2.1.1, ()), ())))
else (some ((false, (v.1.1, (v.1.2.1, (v.1.2.2.1, ())))), ((v.2.1.1, ()), ())))) : Option ((Bool × Int × Int × Bool × Unit) × (Y10 × Unit))).bind fun v45 =>
bif v45.1.1 then (((Abs.rowAt v45.2.1.1.1 v45.1.2.1 fun e46 _ =>
((bif ((e46.2.2.2.1 : Int) == 2) then (Abs.rowAt v45.2.1.1.2.2.1 v45.1.2.1 fun e47 _ =>
bif (!e47) then (bif (!v45.1.2.2.2.1) then (some ((true, (v45.1.2.1, (v45.1.2.2.1, (v45.1.2.2.2.1, ())))), ((v45.2.1.1, ()), ())))
else (Abs.rowAt v45.2.1.1.1 v45.1.2.2.1 fun e48 _ =>
some (((decide ((e46.2.1 : Int) > e48.2.1)), (v45.1.2.1, (v45.1.2.2.1, (v45.1.2.2.2.1, ())))), ((v45.2.1.1, ()), ()))))
else (some ((false, (v45.1.2.1, (v45.1.2.2.1, (v45.1.2.2.2.1, ())))), ((v45.2.1.1, ()), ()))))
else (some ((false, (v45.1.2.1, (v45.1.2.2.1, (v45.1.2.2.2.1, ())))), ((v45.2.1.1, ()), ())))) : Option ((Bool × Int × Int × Bool × Unit) × (Y10 × Unit))).bind fun v49 =>
bif v49.1.1 then (some ((v49.1.2.1, (true, (v49.1.2.1, ()))), ((v49.2.1.1, ()), ())))
else (some ((v49.1.2.2.1, (v49.1.2.2.2.1, (v49.1.2.1, ()))), ((v49.2.1.1, ()), ())))) : Option ((Int × Bool × Int × Unit) × (Y10 × Unit))).bind fun v50 =>
some (.inl (((w64 (v50.1.2.2.1 + 1)), (v50.1.1, (v50.1.2.1, ()))), ((v50.2.1.1, ()), ()))))
else (some (.inr ((v45.1.2.2.2.1, (v45.1.2.2.1, ())), ())))

/- pagewatch/pagewatchref34.Leader -/
def i43 : Abs.Sg := ⟨[0], (.dat Z8 .nil), .nil⟩

def o43 : Abs.Sg := ⟨[2, 3], (.dat (.int .i64) (.dat .bool .nil)), .nil⟩

def m43 (v : (Y10 × (Unit))) : Option ((Int × Bool × Unit) × (Unit)) :=
(loopT l43_0_3 ((0, (0, (false, ()))), ((v.1.1, ()), ()))).bind fun d51 =>
some ((d51.1.2.1, (d51.1.1, ())), ())

def sp43 : Abs.Spec := ⟨0, i43, o43, m43⟩

def an43 : Nat → Abs.FAn
  | 0 => Abs.FAn.mk (fun
    | 6 => some ⟨[49, 1, 6, 4, 5], (.dat .bool (.st (.ptr (0, 0) 4 0 0) (.dat (.int .i64) (.dat (.int .i64) (.dat .bool .nil))))), (.box 4 (.dat Z8 .nil) .nil)⟩
    | 3 => some ⟨[16, 1, 6, 4, 5], (.dat .bool (.st (.ptr (0, 0) 4 0 0) (.dat (.int .i64) (.dat (.int .i64) (.dat .bool .nil))))), (.box 4 (.dat Z8 .nil) .nil)⟩
    | _ => none) (fun
    | 4 => some (⟨[4, 1, 5, 6], (.dat (.int .i64) (.st (.ptr (0, 0) 4 0 0) (.dat .bool (.dat (.int .i64) .nil)))), (.box 4 (.dat Z8 .nil) .nil)⟩, none)
    | _ => none) (fun
    | 3 => some ⟨⟨[6, 4, 1, 5], (.dat (.int .i64) (.dat (.int .i64) (.st (.ptr (0, 0) 4 0 0) (.dat .bool .nil)))), (.box 4 (.dat Z8 .nil) .nil)⟩, (.one (.exit 0) ⟨[5, 4], (.dat .bool (.dat (.int .i64) .nil)), .nil⟩)⟩
    | _ => none) (fun _ _ => 0)
  | _ => {}

theorem ok43 : Abs.SpecOK Try.prog 43 sp43 :=
  Abs.specOK_of (n := 12) (an := an43) (T := Abs.tabOf [(71, sp71)]) good foll (Abs.tabOf_ok _ (by simp only [List.forall_mem_cons]; exact ⟨ok71, fun _ h => by cases h⟩)) rfl (by intro v; kernel_rfl)

def l55_0_6 (v : ((Int × Int × Unit) × (Y11 × (Y9 × Unit) × (Y5 × Unit) × Unit))) : Option (((Int × Int × Unit) × (Y11 × (Y9 × Unit) × (Y5 × Unit) × Unit)) ⊕ (((Int × Unit) × (Y11 × Unit)) ⊕ ((Int × Unit) × (Y11 × (Y5 × Unit) × (Y9 × Unit) × Unit)))) :=
let x38 := (decide ((v.1.1 : Int) < (v.2.2.2.1.1.2.2.2.2.1.length : Int)))
bif x38 then (Abs.rowAt v.2.2.2.1.1.2.2.2.2.1 v.1.1 fun e39 _ =>
bif ((e39.2.1.1 : Int) == v.2.2.1.1.1) then (some (.inr (.inl ((4, ()), (((0, (0, (0, (0, (0, ()))))), ()), ())))))
else (some (.inl (((w64 (v.1.1 + 1)), (v.1.2.1, ())), (((v.2.1.1.1, (v.2.1.1.2.1, (v.2.1.1.2.2.1, (v.2.1.1.2.2.2.1, (v.2.1.1.2.2.2.2.1, ()))))), ()), ((v.2.2.1.1, ()), ((v.2.2.2.1.1, ()), ())))))))
else (some (.inr (.inr ((v.1.2.1, ()), (((v.2.1.1.1, (v.2.1.1.2.1, (v.2.1.1.2.2.1, (v.2.1.1.2.2.2.1, (v.2.1.1.2.2.2.2.1, ()))))), ()), ((v.2.2.2.1.1, ()), ((v.2.2.1.1, ()), ())))))))

/- pagewatch/pagewatchref33.Propose -/
def i55 : Abs.Sg := ⟨[0, 1, 2], (.dat (.int .i64) (.dat Z3 (.dat Z6 .nil))), .nil⟩

def o55 : Abs.Sg := ⟨[6, 7], (.st (.ptr (0, 0) 8 0 0) (.dat (.int .i64) .nil)), (.box 8 (.agg (.dat (.int .i64) (.dat (.int .i64) (.dat (.int .i64) (.dat (.int .i64) (.st (.own Z1 (1, 0)) (.dat (.int .i64) (.st (.own .bool (2, 0)) (.st (.own (.int .i64) (3, 0)) .nil)))))))) .nil) (.arr Z1 false (.arr .bool false (.arr (.int .i64) false .nil))))⟩

def m55 (v : ((Int × Y5 × Y9 × Unit) × (Unit))) : Option ((Int × Unit) × (Y11 × Y2 × (List Bool) × (List Int) × Unit)) :=
(m27 ((v.1.1, (v.1.2.1, ())), ())).bind fun u37 =>
bif (!u37.1.1) then (some ((8, ()), (((0, (0, (0, (0, (0, ()))))), ()), ([], ([], ([], ()))))))
else (bif ((v.1.2.1.2.2.2.1 : Int) != 2) then (some ((22, ()), (((0, (0, (0, (0, (0, ()))))), ()), ([], ([], ([], ()))))))
else ((loopT l55_0_6 ((0, (v.1.1, ())), (((0, (0, (0, (0, (0, ()))))), ()), ((v.1.2.2.1, ()), ((v.1.2.1, ()), ()))))).bind fun d40 =>
sumE d40 (fun d41 => (some ((d41.1.1, ()), (((d41.2.1.1.1, (d41.2.1.1.2.1, (d41.2.1.1.2.2.1, (d41.2.1.1.2.2.2.1, (d41.2.1.1.2.2.2.2.1, ()))))), ()), ([], ([], ([], ()))))))) (fun d42 => (let x43 := (decide (((d42.2.2.1.1.2.2.2.2.1.length : Int) : Int) ≥ 256))
bif x43 then (some ((5, ()), (((0, (0, (0, (0, (0, ()))))), ()), ([], ([], ([], ()))))))
else ((m80 ((d42.2.2.1.1, ()), ())).bind fun u44 =>
bif (decide (u44.2.2.1.length + ([(d42.2.2.1.1.2.1, (d42.2.2.2.1.1, ()))] : List (Int × Y9 × Unit)).length ≤ 4294967296)) then
let x45 := (u44.2.2.1 ++ ([(d42.2.2.1.1.2.1, (d42.2.2.2.1.1, ()))] : List (Int × Y9 × Unit)))
bif (decide ((0 : Int) ≤ d42.2.2.1.1.1 ∧ (d42.2.2.1.1.1 : Int) < u44.2.2.2.2.1.length)) then
bif (decide (d42.2.2.1.1.1.toNat < u44.2.2.2.2.1.length)) then
(((m29 ((d42.1.1, ()), ())).bind fun u46 =>
bif ((u46.1.1 : Int) == 1) then (some ((), (((d42.2.1.1.1, (d42.2.1.1.2.1, (d42.2.1.1.2.2.1, (d42.2.1.1.2.2.2.1, (d42.2.1.1.2.2.2.2.1, ()))))), ()), (((u44.2.1.1.1, (u44.2.1.1.2.1, (u44.2.1.1.2.2.1, (u44.2.1.1.2.2.2.1, (((x45.length : Nat) : Int), ()))))), ()), (x45, (u44.2.2.2.1, ((u44.2.2.2.2.1.set d42.2.2.1.1.1.toNat ((x45.length : Nat) : Int)), ())))))))
else (some ((), (((d42.2.1.1.1, (d42.2.1.1.2.1, (d42.2.1.1.2.2.1, (d42.2.1.1.2.2.2.1, (d42.2.1.1.2.2.2.2.1, ()))))), ()), (((u44.2.1.1.1, (u44.2.1.1.2.1, (u44.2.1.1.2.2.1, (u44.2.1.1.2.2.2.1, (u44.2.1.1.2.2.2.2.1, ()))))), ()), (x45, (u44.2.2.2.1, ((u44.2.2.2.2.1.set d42.2.2.1.1.1.toNat ((x45.length : Nat) : Int)), ())))))))) : Option ((Unit) × Y17)).bind fun v47 =>
some ((0, ()), (((v47.2.2.1.1.1, (v47.2.2.1.1.2.1, (v47.2.2.1.1.2.2.1, (v47.2.2.1.1.2.2.2.1, (v47.2.2.1.1.2.2.2.2.1, ()))))), ()), (v47.2.2.2.1, (v47.2.2.2.2.1, (v47.2.2.2.2.2.1, ())))))
else none
else none
else none)))))

def sp55 : Abs.Spec := ⟨0, i55, o55, m55⟩

def an55 : Nat → Abs.FAn
  | 0 => Abs.FAn.mk (fun _ => none) (fun
    | 17 => some (⟨[6, 9], (.st (.ptr (0, 0) 8 0 0) (.st (.ptr (1, 0) 8 0 0) .nil)), (.box 8 (.agg (.dat (.int .i64) (.dat (.int .i64) (.dat (.int .i64) (.dat (.int .i64) (.st .nil (.dat (.int .i64) (.st .nil (.st .nil .nil)))))))) .nil) (.box 8 (.agg (.dat (.int .i64) (.dat (.int .i64) (.dat (.int .i64) (.dat (.int .i64) (.st (.own Z1 (2, 0)) (.dat (.int .i64) (.st (.own .bool (3, 0)) (.st (.own (.int .i64) (4, 0)) .nil)))))))) .nil) (.arr Z1 false (.arr .bool false (.arr (.int .i64) false .nil)))))⟩, none)
    | _ => none) (fun
    | 6 => some ⟨⟨[6, 8, 5, 4, 0], (.st (.ptr (0, 0) 8 0 0) (.dat (.int .i64) (.st (.ptr (1, 0) 20 0 0) (.st (.ptr (2, 0) 8 0 0) (.dat (.int .i64) .nil))))), (.box 8 (.agg (.dat (.int .i64) (.dat (.int .i64) (.dat (.int .i64) (.dat (.int .i64) (.st .nil (.dat (.int .i64) (.st .nil (.st .nil .nil)))))))) .nil) (.box 20 (.dat Z6 .nil) (.box 8 (.dat Z3 .nil) .nil)))⟩, (.more .ret ⟨[6, 7], (.st (.ptr (0, 0) 8 0 0) (.dat (.int .i64) .nil)), (.box 8 (.agg (.dat (.int .i64) (.dat (.int .i64) (.dat (.int .i64) (.dat (.int .i64) (.st .nil (.dat (.int .i64) (.st .nil (.st .nil .nil)))))))) .nil) .nil)⟩ (.one (.exit 0) ⟨[6, 0, 4, 5], (.st (.ptr (0, 0) 8 0 0) (.dat (.int .i64) (.st (.ptr (1, 0) 8 0 0) (.st (.ptr (2, 0) 20 0 0) .nil)))), (.box 8 (.agg (.dat (.int .i64) (.dat (.int .i64) (.dat (.int .i64) (.dat (.int .i64) (.st .nil (.dat (.int .i64) (.st .nil (.st .nil .nil)))))))) .nil) (.box 8 (.dat Z3 .nil) (.box 20 (.dat Z6 .nil) .nil)))⟩))⟩
    | _ => none) (fun _ _ => 0)
  | _ => {}

theorem ok55 : Abs.SpecOK Try.prog 55 sp55 :=
  Abs.specOK_of (n := 12) (an := an55) (T := Abs.tabOf [(27, sp27), (80, sp80), (29, sp29)]) good foll (Abs.tabOf_ok _ (by simp only [List.forall_mem_cons]; exact ⟨ok27, ok80, ok29, fun _ h => by cases h⟩)) rfl (by intro v; kernel_rfl)

/- pagewatch/pagewatchref34.Propose -/
def i118 : Abs.Sg := ⟨[0, 1, 2], (.dat Z8 (.dat (.int .i64) (.dat Z6 .nil))), .nil⟩

def o118 : Abs.Sg := ⟨[6, 7], (.st (.ptr (0, 0) 4 0 0) (.dat (.int .i64) .nil)), (.box 4 (.agg (.st (.own Z3 (1, 0)) (.st (.own Z4 (2, 0)) (.st (.own .bool (3, 0)) (.st (.own Z16 (4, 0)) .nil)))) .nil) (.arr Z3 false (.arr Z4 false (.arr .bool false (.arr Z16 false .nil)))))⟩

def m118 (v : ((((List Y5) × (List Y7) × (List Bool) × (List (Int × Int × Unit)) × Unit) × Int × Y9 × Unit) × (Unit))) : Option Y19 :=
(m114 ((v.1.1, (v.1.2.1, ())), ())).bind fun u17 =>
bif ((u17.1.1 : Int) != 0) then (some ((u17.1.1, ()), (((), ()), ([], ([], ([], ([], ())))))))
else (Abs.rowAt v.1.1.2.2.1 v.1.2.1 fun e18 _ =>
bif e18 then (some ((21, ()), (((), ()), ([], ([], ([], ([], ())))))))
else ((m115 ((v.1.1, ()), ())).bind fun u19 =>
bif (decide ((0 : Int) ≤ v.1.2.1 ∧ (v.1.2.1 : Int) < u19.2.2.1.length)) then
(u19.2.2.1[v.1.2.1.toNat]?).bind fun e20 =>
(m55 (((v.1.1.1.length : Int), (e20, (v.1.2.2.1, ()))), ())).bind fun u21 =>
bif ((u21.1.1 : Int) != 0) then (some ((u21.1.1, ()), (((), ()), ([], ([], ([], ([], ())))))))
else (bif (decide ((0 : Int) ≤ v.1.2.1 ∧ (v.1.2.1 : Int) < u19.2.2.1.length)) then
bif (decide (v.1.2.1.toNat < u19.2.2.1.length)) then
some ((0, ()), (((), ()), ((u19.2.2.1.set v.1.2.1.toNat (u21.2.1.1.1, (u21.2.1.1.2.1, (u21.2.1.1.2.2.1, (u21.2.1.1.2.2.2.1, (u21.2.2.1, (u21.2.1.1.2.2.2.2.1, (u21.2.2.2.1, (u21.2.2.2.2.1, ()))))))))), (u19.2.2.2.1, (u19.2.2.2.2.1, (u19.2.2.2.2.2.1, ()))))))
else none
else none)
else none))

def sp118 : Abs.Spec := ⟨0, i118, o118, m118⟩

def an118 : Nat → Abs.FAn
  | _ => {}

theorem ok118 : Abs.SpecOK Try.prog 118 sp118 :=
  Abs.specOK_of (n := 12) (an := an118) (T := Abs.tabOf [(114, sp114), (115, sp115), (55, sp55)]) good foll (Abs.tabOf_ok _ (by simp only [List.forall_mem_cons]; exact ⟨ok114, ok115, ok55, fun _ h => by cases h⟩)) rfl (by intro v; kernel_rfl)

/- pagewatch/pagewatchref34.Double -/
def i120 : Abs.Sg := ⟨[0, 1], (.dat Z8 (.dat (.int .i64) .nil)), .nil⟩

def o120 : Abs.Sg := ⟨[4, 5], (.st (.ptr (0, 0) 4 0 0) (.dat (.int .i64) .nil)), (.box 4 (.agg (.st (.own Z3 (1, 0)) (.st (.own Z4 (2, 0)) (.st (.own .bool (3, 0)) (.st (.own Z16 (4, 0)) .nil)))) .nil) (.arr Z3 false (.arr Z4 false (.arr .bool false (.arr Z16 false .nil)))))⟩

def m120 (v : Y18) : Option Y19 :=
(m136 ((v.1.1, (v.1.2.1, ())), ())).bind fun u20 =>
bif ((u20.1.1 : Int) != 0) then (some ((u20.1.1, ()), (((), ()), ([], ([], ([], ([], ())))))))
else (let x21 := (decide (((v.1.1.2.1.length : Int) : Int) ≥ 256))
bif x21 then (some ((5, ()), (((), ()), ([], ([], ([], ([], ())))))))
else ((m115 ((v.1.1, ()), ())).bind fun u22 =>
(m115 ((v.1.1, ()), ())).bind fun u23 =>
bif (decide ((0 : Int) ≤ v.1.2.1 ∧ (v.1.2.1 : Int) < u23.2.2.2.1.length)) then
(u23.2.2.2.1[v.1.2.1.toNat]?).bind fun e24 =>
bif (decide (u22.2.2.2.1.length + ([e24] : List Y7).length ≤ 4294967296)) then
let x25 := (u22.2.2.2.1 ++ ([e24] : List Y7))
some ((0, ()), (((), ()), (u22.2.2.1, (x25, (u22.2.2.2.2.1, (u22.2.2.2.2.2.1, ()))))))
else none
else none))

def sp120 : Abs.Spec := ⟨0, i120, o120, m120⟩

def an120 : Nat → Abs.FAn
  | _ => {}

theorem ok120 : Abs.SpecOK Try.prog 120 sp120 :=
  Abs.specOK_of (n := 12) (an := an120) (T := Abs.tabOf [(136, sp136), (115, sp115)]) good foll (Abs.tabOf_ok _ (by simp only [List.forall_mem_cons]; exact ⟨ok136, ok115, fun _ h => by cases h⟩)) rfl (by intro v; kernel_rfl)

/- pagewatch/pagewatchref34.Crash -/
def i121 : Abs.Sg := ⟨[0, 1], (.dat Z8 (.dat (.int .i64) .nil)), .nil⟩

def o121 : Abs.Sg := ⟨[4, 5], (.st (.ptr (0, 0) 4 0 0) (.dat (.int .i64) .nil)), (.box 4 (.agg (.st (.own Z3 (1, 0)) (.st (.own Z4 (2, 0)) (.st (.own .bool (3, 0)) (.st (.own Z16 (4, 0)) .nil)))) .nil) (.arr Z3 false (.arr Z4 false (.arr .bool false (.arr Z16 false .nil)))))⟩

def m121 (v : Y18) : Option Y19 :=
(m114 ((v.1.1, (v.1.2.1, ())), ())).bind fun u11 =>
bif ((u11.1.1 : Int) != 0) then (some ((u11.1.1, ()), (((), ()), ([], ([], ([], ([], ())))))))
else (Abs.rowAt v.1.1.2.2.1 v.1.2.1 fun e12 _ =>
bif e12 then (some ((9, ()), (((), ()), ([], ([], ([], ([], ())))))))
else ((m115 ((v.1.1, ()), ())).bind fun u13 =>
bif (decide ((0 : Int) ≤ v.1.2.1 ∧ (v.1.2.1 : Int) < u13.2.2.2.2.1.length)) then
bif (decide (v.1.2.1.toNat < u13.2.2.2.2.1.length)) then
some ((0, ()), (((), ()), (u13.2.2.1, (u13.2.2.2.1, ((u13.2.2.2.2.1.set v.1.2.1.toNat true), (u13.2.2.2.2.2.1, ()))))))
else none
else none))

def sp121 : Abs.Spec := ⟨0, i121, o121, m121⟩

def an121 : Nat → Abs.FAn
  | _ => {}

theorem ok121 : Abs.SpecOK Try.prog 121 sp121 :=
  Abs.specOK_of (n := 12) (an := an121) (T := Abs.tabOf [(114, sp114), (115, sp115)]) good foll (Abs.tabOf_ok _ (by simp only [List.forall_mem_cons]; exact ⟨ok114, ok115, fun _ h => by cases h⟩)) rfl (by intro v; kernel_rfl)

/- pagewatch/pagewatchref33.Restart -/
def i56 : Abs.Sg := ⟨[0, 1], (.dat (.int .i64) (.dat Z3 .nil)), .nil⟩

def o56 : Abs.Sg := ⟨[4, 5], (.st (.ptr (0, 0) 8 0 0) (.dat (.int .i64) .nil)), (.box 8 (.agg (.dat (.int .i64) (.dat (.int .i64) (.dat (.int .i64) (.dat (.int .i64) (.st (.own Z1 (1, 0)) (.dat (.int .i64) (.st .nil (.st .nil .nil)))))))) .nil) (.arr Z1 false .nil))⟩

def m56 (v : ((Int × Y5 × Unit) × (Unit))) : Option ((Int × Unit) × (Y11 × Y2 × Unit)) :=
(m27 ((v.1.1, (v.1.2.1, ())), ())).bind fun u7 =>
bif (!u7.1.1) then (some ((8, ()), (((0, (0, (0, (0, (0, ()))))), ()), ([], ()))))
else ((m80 ((v.1.2.1, ()), ())).bind fun u8 =>
some ((0, ()), (((u8.2.1.1.1, (u8.2.1.1.2.1, (u8.2.1.1.2.2.1, (0, (u8.2.1.1.2.2.2.2.1, ()))))), ()), (u8.2.2.1, ()))))

def sp56 : Abs.Spec := ⟨0, i56, o56, m56⟩

def an56 : Nat → Abs.FAn
  | _ => {}

theorem ok56 : Abs.SpecOK Try.prog 56 sp56 :=
  Abs.specOK_of (n := 12) (an := an56) (T := Abs.tabOf [(27, sp27), (80, sp80)]) good foll (Abs.tabOf_ok _ (by simp only [List.forall_mem_cons]; exact ⟨ok27, ok80, fun _ h => by cases h⟩)) rfl (by intro v; kernel_rfl)

/- pagewatch/pagewatchref34.Restart -/
def i122 : Abs.Sg := ⟨[0, 1], (.dat Z8 (.dat (.int .i64) .nil)), .nil⟩

def o122 : Abs.Sg := ⟨[4, 5], (.st (.ptr (0, 0) 4 0 0) (.dat (.int .i64) .nil)), (.box 4 (.agg (.st (.own Z3 (1, 0)) (.st (.own Z4 (2, 0)) (.st (.own .bool (3, 0)) (.st (.own Z16 (4, 0)) .nil)))) .nil) (.arr Z3 false (.arr Z4 false (.arr .bool false (.arr Z16 false .nil)))))⟩

def m122 (v : Y18) : Option Y19 :=
(m114 ((v.1.1, (v.1.2.1, ())), ())).bind fun u17 =>
bif ((u17.1.1 : Int) != 0) then (some ((u17.1.1, ()), (((), ()), ([], ([], ([], ([], ())))))))
else (Abs.rowAt v.1.1.2.2.1 v.1.2.1 fun e18 _ =>
bif (!e18) then (some ((9, ()), (((), ()), ([], ([], ([], ([], ())))))))
else ((m115 ((v.1.1, ()), ())).bind fun u19 =>
bif (decide ((0 : Int) ≤ v.1.2.1 ∧ (v.1.2.1 : Int) < u19.2.2.2.2.1.length)) then
bif (decide (v.1.2.1.toNat < u19.2.2.2.2.1.length)) then
bif (decide ((0 : Int) ≤ v.1.2.1 ∧ (v.1.2.1 : Int) < u19.2.2.1.length)) then
(u19.2.2.1[v.1.2.1.toNat]?).bind fun e20 =>
(m56 (((v.1.1.1.length : Int), (e20, ())), ())).bind fun u21 =>
bif (decide ((0 : Int) ≤ v.1.2.1 ∧ (v.1.2.1 : Int) < u19.2.2.1.length)) then
bif (decide (v.1.2.1.toNat < u19.2.2.1.length)) then
some ((0, ()), (((), ()), ((u19.2.2.1.set v.1.2.1.toNat (u21.2.1.1.1, (u21.2.1.1.2.1, (u21.2.1.1.2.2.1, (u21.2.1.1.2.2.2.1, (u21.2.2.1, (u21.2.1.1.2.2.2.2.1, ([], ([], ()))))))))), (u19.2.2.2.1, ((u19.2.2.2.2.1.set v.1.2.1.toNat false), (u19.2.2.2.2.2.1, ()))))))
else none
else none
else none
else none
else none))

def sp122 : Abs.Spec := ⟨0, i122, o122, m122⟩

def an122 : Nat → Abs.FAn
  | _ => {}

theorem ok122 : Abs.SpecOK Try.prog 122 sp122 :=
  Abs.specOK_of (n := 12) (an := an122) (T := Abs.tabOf [(114, sp114), (115, sp115), (56, sp56)]) good foll (Abs.tabOf_ok _ (by simp only [List.forall_mem_cons]; exact ⟨ok114, ok115, ok56, fun _ h => by cases h⟩)) rfl (by intro v; kernel_rfl)

/- pagewatch/pagewatchref34.Heal -/
def i123 : Abs.Sg := ⟨[0], (.dat Z8 .nil), .nil⟩

def o123 : Abs.Sg := ⟨[2], (.st (.ptr (0, 0) 4 0 0) .nil), (.box 4 (.agg (.st (.own Z3 (1, 0)) (.st (.own Z4 (2, 0)) (.st (.own .bool (3, 0)) (.st .nil .nil)))) .nil) (.arr Z3 false (.arr Z4 false (.arr .bool false .nil))))⟩

def m123 (v : (Y10 × (Unit))) : Option ((Unit) × (((Unit) × Unit) × (List Y5) × (List Y7) × (List Bool) × Unit)) :=
(m71 ((v.1.1, ()), ())).bind fun u7 =>
bif (!u7.1.1) then (some ((), (((), ()), ([], ([], ([], ()))))))
else ((m115 ((v.1.1, ()), ())).bind fun u8 =>
some ((), (((), ()), (u8.2.2.1, (u8.2.2.2.1, (u8.2.2.2.2.1, ()))))))

def sp123 : Abs.Spec := ⟨0, i123, o123, m123⟩

def an123 : Nat → Abs.FAn
  | _ => {}

theorem ok123 : Abs.SpecOK Try.prog 123 sp123 :=
  Abs.specOK_of (n := 12) (an := an123) (T := Abs.tabOf [(71, sp71), (115, sp115)]) good foll (Abs.tabOf_ok _ (by simp only [List.forall_mem_cons]; exact ⟨ok71, ok115, fun _ h => by cases h⟩)) rfl (by intro v; kernel_rfl)

/- pagewatch/pagewatchref34.Cut -/
def i124 : Abs.Sg := ⟨[0, 1, 2], (.dat Z8 (.dat (.int .i64) (.dat (.int .i64) .nil))), .nil⟩

def o124 : Abs.Sg := ⟨[6, 7], (.st (.ptr (0, 0) 4 0 0) (.dat (.int .i64) .nil)), (.box 4 (.agg (.st (.own Z3 (1, 0)) (.st (.own Z4 (2, 0)) (.st (.own .bool (3, 0)) (.st (.own Z16 (4, 0)) .nil)))) .nil) (.arr Z3 false (.arr Z4 false (.arr .bool false (.arr Z16 false .nil)))))⟩

def m124 (v : ((((List Y5) × (List Y7) × (List Bool) × (List (Int × Int × Unit)) × Unit) × Int × Int × Unit) × (Unit))) : Option Y19 :=
(m114 ((v.1.1, (v.1.2.1, ())), ())).bind fun u24 =>
bif ((u24.1.1 : Int) != 0) then (some ((u24.1.1, ()), (((), ()), ([], ([], ([], ([], ())))))))
else ((m45 ((v.1.2.2.1, (0, ((w64 ((v.1.1.1.length : Int) - 1)), ()))), ())).bind fun u25 =>
bif (!u25.1.1) then (some ((3, ()), (((), ()), ([], ([], ([], ([], ())))))))
else (bif ((v.1.2.1 : Int) == v.1.2.2.1) then (some ((1, ()), (((), ()), ([], ([], ([], ([], ())))))))
else ((m113 ((v.1.1.2.2.2.1, (v.1.2.1, (v.1.2.2.1, ()))), ())).bind fun u26 =>
bif u26.1.1 then (some ((9, ()), (((), ()), ([], ([], ([], ([], ())))))))
else ((m115 ((v.1.1, ()), ())).bind fun u27 =>
let x28 := (if (v.1.2.2.1 : Int) < v.1.2.1 then v.1.2.2.1 else v.1.2.1)
let x29 := (if (v.1.2.2.1 : Int) > v.1.2.1 then v.1.2.2.1 else v.1.2.1)
bif (decide (u27.2.2.2.2.2.1.length + ([(x28, (x29, ()))] : List (Int × Int × Unit)).length ≤ 4294967296)) then
let x30 := (u27.2.2.2.2.2.1 ++ ([(x28, (x29, ()))] : List (Int × Int × Unit)))
some ((0, ()), (((), ()), (u27.2.2.1, (u27.2.2.2.1, (u27.2.2.2.2.1, (x30, ()))))))
else none))))

def sp124 : Abs.Spec := ⟨0, i124, o124, m124⟩

def an124 : Nat → Abs.FAn
  | _ => {}

theorem ok124 : Abs.SpecOK Try.prog 124 sp124 :=
  Abs.specOK_of (n := 12) (an := an124) (T := Abs.tabOf [(114, sp114), (45, sp45), (113, sp113), (115, sp115)]) good foll (Abs.tabOf_ok _ (by simp only [List.forall_mem_cons]; exact ⟨ok114, ok45, ok113, ok115, fun _ h => by cases h⟩)) rfl (by intro v; kernel_rfl)

/- (*pagewatch/pagewatchmade.Dice).Act -/
def i74 : Abs.Sg := ⟨[0, 1], (.st (.ptr (0, 0) 2 0 0) (.dat Z8 .nil)), (.box 2 (.dat Z12 .nil) .nil)⟩

def o74 : Abs.Sg := ⟨[4], (.st (.ptr (1, 0) 4 0 0) .nil), (.box 2 (.dat Z12 .nil) (.box 4 (.dat Z8 .nil) .nil))⟩

def m74 (v : (Y10 × (Y13 × Unit))) : Option ((Unit) × (Y13 × Y10 × Unit)) :=
(m20 (((v.1.1.1.length : Int), ()), ((v.2.1.1, ()), ()))).bind fun u78 =>
(((m43 ((v.1.1, ()), ())).bind fun u79 =>
((bif u79.1.2.1 then ((m20 ((3, ()), ((u78.2.1.1, ()), ()))).bind fun u80 =>
some (((decide ((u80.1.1 : Int) > 0)), (u79.1.1, (u78.1.1, ()))), ((u80.2.1.1, ()), (((), ()), ((v.1.1, ()), ())))))
else (some ((false, (u79.1.1, (u78.1.1, ()))), ((u78.2.1.1, ()), (((), ()), ((v.1.1, ()), ())))))) : Option ((Bool × Int × Int × Unit) × (Y13 × ((Unit) × Unit) × Y10 × Unit))).bind fun v81 =>
bif v81.1.1 then (some ((v81.1.2.1, ()), ((v81.2.1.1, ()), (((), ()), ((v81.2.2.2.1.1, ()), ())))))
else (some ((v81.1.2.2.1, ()), ((v81.2.1.1, ()), (((), ()), ((v81.2.2.2.1.1, ()), ())))))) : Option ((Int × Unit) × (Y13 × ((Unit) × Unit) × Y10 × Unit))).bind fun v82 =>
(m20 (((v82.2.2.2.1.1.2.1.length : Int), ()), ((v82.2.1.1, ()), ()))).bind fun u83 =>
(((m20 ((2, ()), ((u83.2.1.1, ()), ()))).bind fun u84 =>
bif ((u84.1.1 : Int) == 0) then (some ((v82.1.1, (0, ())), ((u84.2.1.1, ()), (((), ()), ((v82.2.2.2.1.1, ()), ())))))
else (some ((v82.1.1, (u83.1.1, ())), ((u84.2.1.1, ()), (((), ()), ((v82.2.2.2.1.1, ()), ())))))) : Option ((Int × Int × Unit) × (Y13 × ((Unit) × Unit) × Y10 × Unit))).bind fun v85 =>
(((m20 ((16, ()), ((v85.2.1.1, ()), ()))).bind fun u86 =>
bif ((u86.1.1 : Int) == 0) then ((m116 ((v85.2.2.2.1.1, (v85.1.1, ())), ())).bind fun u87 =>
some ((u87.1.1, ()), ((u86.2.1.1, ()), (((), ()), ((v85.2.2.2.1.1, ()), (((u87.2.2.1, (u87.2.2.2.1, (u87.2.2.2.2.1, (u87.2.2.2.2.2.1, ())))), ()), ()))))))
else (((bif ((u86.1.1 : Int) == 1) then (some ((((u86.1.1 : Int) == 1), (v85.1.1, (v85.1.2.1, (0, (u86.1.1, ()))))), ((u86.2.1.1, ()), (((), ()), ((v85.2.2.2.1.1, ()), ((v85.2.2.2.1.1, ()), ()))))))
else (some ((((u86.1.1 : Int) == 2), (v85.1.1, (v85.1.2.1, (0, (u86.1.1, ()))))), ((u86.2.1.1, ()), (((), ()), ((v85.2.2.2.1.1, ()), ((v85.2.2.2.1.1, ()), ()))))))) : Option ((Bool × Int × Int × Int × Int × Unit) × (Y13 × ((Unit) × Unit) × Y10 × Y10 × Unit))).bind fun v88 =>
bif v88.1.1 then ((m20 ((60, ()), ((v88.2.1.1, ()), ()))).bind fun u89 =>
(m118 ((v88.2.2.2.1.1, (v88.1.2.1, (((w64 (1 + u89.1.1)), (2, (0, (0, (0, (0, (0, (0, (0, ((0, (0, (0, (0, (0, (0, ())))))), ((0, (0, (0, (0, (0, ()))))), ()))))))))))), ()))), ())).bind fun u90 =>
some ((u90.1.1, ()), ((u89.2.1.1, ()), (((), ()), ((v88.2.2.2.1.1, ()), (((u90.2.2.1, (u90.2.2.2.1, (u90.2.2.2.2.1, (u90.2.2.2.2.2.1, ())))), ()), ()))))))
else (((bif ((v88.1.2.2.2.2.1 : Int) == 3) then (some ((((v88.1.2.2.2.2.1 : Int) == 3), (v88.1.2.1, (v88.1.2.2.1, (v88.1.2.2.2.1, (v88.1.2.2.2.2.1, ()))))), ((v88.2.1.1, ()), (((), ()), ((v88.2.2.2.1.1, ()), ((v88.2.2.2.2.1.1, ()), ()))))))
else (some ((((v88.1.2.2.2.2.1 : Int) == 4), (v88.1.2.1, (v88.1.2.2.1, (v88.1.2.2.2.1, (v88.1.2.2.2.2.1, ()))))), ((v88.2.1.1, ()), (((), ()), ((v88.2.2.2.1.1, ()), ((v88.2.2.2.2.1.1, ()), ()))))))) : Option ((Bool × Int × Int × Int × Int × Unit) × (Y13 × ((Unit) × Unit) × Y10 × Y10 × Unit))).bind fun v91 =>
bif v91.1.1 then ((m117 ((v91.2.2.2.1.1, (v91.1.2.1, ())), ())).bind fun u92 =>
some ((u92.1.1, ()), ((v91.2.1.1, ()), (((), ()), ((v91.2.2.2.1.1, ()), (((u92.2.2.1, (u92.2.2.2.1, (u92.2.2.2.2.1, (u92.2.2.2.2.2.1, ())))), ()), ()))))))
else (((bif ((v91.1.2.2.2.2.1 : Int) == 5) then (some ((((v91.1.2.2.2.2.1 : Int) == 5), (v91.1.2.2.1, (v91.1.2.1, (v91.1.2.2.2.1, (v91.1.2.2.2.2.1, ()))))), ((v91.2.1.1, ()), (((), ()), ((v91.2.2.2.1.1, ()), ((v91.2.2.2.2.1.1, ()), ()))))))
else (bif ((v91.1.2.2.2.2.1 : Int) == 6) then (some ((((v91.1.2.2.2.2.1 : Int) == 6), (v91.1.2.2.1, (v91.1.2.1, (v91.1.2.2.2.1, (v91.1.2.2.2.2.1, ()))))), ((v91.2.1.1, ()), (((), ()), ((v91.2.2.2.1.1, ()), ((v91.2.2.2.2.1.1, ()), ()))))))
else (bif ((v91.1.2.2.2.2.1 : Int) == 7) then (some ((((v91.1.2.2.2.2.1 : Int) == 7), (v91.1.2.2.1, (v91.1.2.1, (v91.1.2.2.2.1, (v91.1.2.2.2.2.1, ()))))), ((v91.2.1.1, ()), (((), ()), ((v91.2.2.2.1.1, ()), ((v91.2.2.2.2.1.1, ()), ()))))))
else (bif ((v91.1.2.2.2.2.1 : Int) == 8) then (some ((((v91.1.2.2.2.2.1 : Int) == 8), (v91.1.2.2.1, (v91.1.2.1, (v91.1.2.2.2.1, (v91.1.2.2.2.2.1, ()))))), ((v91.2.1.1, ()), (((), ()), ((v91.2.2.2.1.1, ()), ((v91.2.2.2.2.1.1, ()), ()))))))
else (bif ((v91.1.2.2.2.2.1 : Int) == 9) then (some ((((v91.1.2.2.2.2.1 : Int) == 9), (v91.1.2.2.1, (v91.1.2.1, (v91.1.2.2.2.1, (v91.1.2.2.2.2.1, ()))))), ((v91.2.1.1, ()), (((), ()), ((v91.2.2.2.1.1, ()), ((v91.2.2.2.2.1.1, ()), ()))))))
else (some ((((v91.1.2.2.2.2.1 : Int) == 10), (v91.1.2.2.1, (v91.1.2.1, (v91.1.2.2.2.1, (v91.1.2.2.2.2.1, ()))))), ((v91.2.1.1, ()), (((), ()), ((v91.2.2.2.1.1, ()), ((v91.2.2.2.2.1.1, ()), ()))))))))))) : Option ((Bool × Int × Int × Int × Int × Unit) × (Y13 × ((Unit) × Unit) × Y10 × Y10 × Unit))).bind fun v93 =>
bif v93.1.1 then ((m105 ((v93.2.2.2.1.1, (v93.1.2.1, ())), ())).bind fun u94 =>
some ((u94.1.1, ()), ((v93.2.1.1, ()), (((), ()), ((v93.2.2.2.1.1, ()), (((u94.2.2.1, (u94.2.1.1.1, (u94.2.2.2.1, (u94.2.2.2.2.1, ())))), ()), ()))))))
else (bif ((v93.1.2.2.2.2.1 : Int) == 11) then ((m119 ((v93.2.2.2.1.1, (v93.1.2.1, ())), ())).bind fun u95 =>
some ((u95.1.1, ()), ((v93.2.1.1, ()), (((), ()), ((v93.2.2.2.1.1, ()), (((u95.2.2.1, (u95.2.1.1.1, (u95.2.2.2.1, (u95.2.2.2.2.1, ())))), ()), ()))))))
else (bif ((v93.1.2.2.2.2.1 : Int) == 12) then ((m120 ((v93.2.2.2.1.1, (v93.1.2.1, ())), ())).bind fun u96 =>
some ((u96.1.1, ()), ((v93.2.1.1, ()), (((), ()), ((v93.2.2.2.1.1, ()), (((u96.2.2.1, (u96.2.2.2.1, (u96.2.2.2.2.1, (u96.2.2.2.2.2.1, ())))), ()), ()))))))
else (bif ((v93.1.2.2.2.2.1 : Int) == 13) then ((m121 ((v93.2.2.2.1.1, (v93.1.2.2.1, ())), ())).bind fun u97 =>
some ((u97.1.1, ()), ((v93.2.1.1, ()), (((), ()), ((v93.2.2.2.1.1, ()), (((u97.2.2.1, (u97.2.2.2.1, (u97.2.2.2.2.1, (u97.2.2.2.2.2.1, ())))), ()), ()))))))
else (bif ((v93.1.2.2.2.2.1 : Int) == 14) then ((m20 (((v93.2.2.2.1.1.1.length : Int), ()), ((v93.2.1.1, ()), ()))).bind fun u98 =>
(m122 ((v93.2.2.2.1.1, (u98.1.1, ())), ())).bind fun u99 =>
some ((u99.1.1, ()), ((u98.2.1.1, ()), (((), ()), ((v93.2.2.2.1.1, ()), (((u99.2.2.1, (u99.2.2.2.1, (u99.2.2.2.2.1, (u99.2.2.2.2.2.1, ())))), ()), ()))))))
else (bif ((v93.1.2.2.2.2.1 : Int) == 15) then ((m123 ((v93.2.2.2.1.1, ()), ())).bind fun u100 =>
(m20 ((2, ()), ((v93.2.1.1, ()), ()))).bind fun u101 =>
bif ((u101.1.1 : Int) == 0) then ((m20 (((v93.2.2.2.1.1.1.length : Int), ()), ((u101.2.1.1, ()), ()))).bind fun u102 =>
(m124 ((v93.2.2.2.1.1, (v93.1.2.2.1, (u102.1.1, ()))), ())).bind fun u103 =>
some ((u103.1.1, ()), ((u102.2.1.1, ()), (((), ()), ((v93.2.2.2.1.1, ()), (((u103.2.2.1, (u103.2.2.2.1, (u103.2.2.2.2.1, (u103.2.2.2.2.2.1, ())))), ()), ()))))))
else (some ((v93.1.2.2.2.1, ()), ((u101.2.1.1, ()), (((), ()), ((v93.2.2.2.1.1, ()), (((u100.2.2.1, (u100.2.2.2.1, (u100.2.2.2.2.1, ([], ())))), ()), ())))))))
else (some ((v93.1.2.2.2.1, ()), ((v93.2.1.1, ()), (((), ()), ((v93.2.2.2.1.1, ()), ((v93.2.2.2.2.1.1, ()), ()))))))))))))))) : Option ((Int × Unit) × (Y13 × ((Unit) × Unit) × Y10 × Y10 × Unit))).bind fun v104 =>
bif ((v104.1.1 : Int) != 0) then (some ((), ((v104.2.1.1, ()), ((v104.2.2.2.1.1, ()), ()))))
else (some ((), ((v104.2.1.1, ()), ((v104.2.2.2.2.1.1, ()), ()))))

def sp74 : Abs.Spec := ⟨1, i74, o74, m74⟩

def an74 : Nat → Abs.FAn
  | 0 => Abs.FAn.mk (fun
    | 3 => some ⟨[26, 4, 3, 0, 6, 5], (.dat .bool (.st (.ptr (1, 0) 4 0 0) (.st (.ptr (2, 0) 4 0 0) (.st (.ptr (0, 0) 2 0 0) (.dat (.int .i64) (.dat (.int .i64) .nil)))))), (.box 2 (.dat Z12 .nil) (.box 4 (.agg (.st .nil (.st .nil (.st .nil (.st .nil .nil)))) .nil) (.box 4 (.dat Z8 .nil) .nil)))⟩
    | _ => none) (fun
    | 37 => some (⟨[4, 3, 9, 10], (.st (.ptr (1, 0) 4 0 0) (.st (.ptr (2, 0) 4 0 0) (.st (.ptr (3, 0) 4 0 0) (.dat (.int .i64) .nil)))), (.box 2 (.dat Z12 .nil) (.box 4 (.agg (.st .nil (.st .nil (.st .nil (.st .nil .nil)))) .nil) (.box 4 (.dat Z8 .nil) (.box 4 (.dat Z8 .nil) .nil))))⟩, none)
    | 24 => some (⟨[69, 4, 3, 9, 8, 5, 0, 10, 38], (.dat .bool (.st (.ptr (1, 0) 4 0 0) (.st (.ptr (2, 0) 4 0 0) (.st (.ptr (3, 0) 4 0 0) (.dat (.int .i64) (.dat (.int .i64) (.st (.ptr (0, 0) 2 0 0) (.dat (.int .i64) (.dat (.int .i64) .nil))))))))), (.box 2 (.dat Z12 .nil) (.box 4 (.agg (.st .nil (.st .nil (.st .nil (.st .nil .nil)))) .nil) (.box 4 (.dat Z8 .nil) (.box 4 (.dat Z8 .nil) .nil))))⟩, none)
    | 17 => some (⟨[60, 4, 3, 9, 5, 8, 0, 10, 38], (.dat .bool (.st (.ptr (1, 0) 4 0 0) (.st (.ptr (2, 0) 4 0 0) (.st (.ptr (3, 0) 4 0 0) (.dat (.int .i64) (.dat (.int .i64) (.st (.ptr (0, 0) 2 0 0) (.dat (.int .i64) (.dat (.int .i64) .nil))))))))), (.box 2 (.dat Z12 .nil) (.box 4 (.agg (.st .nil (.st .nil (.st .nil (.st .nil .nil)))) .nil) (.box 4 (.dat Z8 .nil) (.box 4 (.dat Z8 .nil) .nil))))⟩, none)
    | 14 => some (⟨[47, 4, 3, 9, 0, 5, 8, 10, 38], (.dat .bool (.st (.ptr (1, 0) 4 0 0) (.st (.ptr (2, 0) 4 0 0) (.st (.ptr (3, 0) 4 0 0) (.st (.ptr (0, 0) 2 0 0) (.dat (.int .i64) (.dat (.int .i64) (.dat (.int .i64) (.dat (.int .i64) .nil))))))))), (.box 2 (.dat Z12 .nil) (.box 4 (.agg (.st .nil (.st .nil (.st .nil (.st .nil .nil)))) .nil) (.box 4 (.dat Z8 .nil) (.box 4 (.dat Z8 .nil) .nil))))⟩, none)
    | 8 => some (⟨[4, 3, 5, 0, 8], (.st (.ptr (1, 0) 4 0 0) (.st (.ptr (2, 0) 4 0 0) (.dat (.int .i64) (.st (.ptr (0, 0) 2 0 0) (.dat (.int .i64) .nil))))), (.box 2 (.dat Z12 .nil) (.box 4 (.agg (.st .nil (.st .nil (.st .nil (.st .nil .nil)))) .nil) (.box 4 (.dat Z8 .nil) .nil)))⟩, none)
    | 5 => some (⟨[4, 3, 5, 0], (.st (.ptr (1, 0) 4 0 0) (.st (.ptr (2, 0) 4 0 0) (.dat (.int .i64) (.st (.ptr (0, 0) 2 0 0) .nil)))), (.box 2 (.dat Z12 .nil) (.box 4 (.agg (.st .nil (.st .nil (.st .nil (.st .nil .nil)))) .nil) (.box 4 (.dat Z8 .nil) .nil)))⟩, none)
    | _ => none) (fun _ => none) (fun _ _ => 0)
  | _ => {}

theorem ok74 : Abs.SpecOK Try.prog 74 sp74 :=
  Abs.specOK_of (n := 12) (an := an74) (T := Abs.tabOf [(20, sp20), (43, sp43), (116, sp116), (118, sp118), (117, sp117), (105, sp105), (119, sp119), (120, sp120), (121, sp121), (122, sp122), (123, sp123), (124, sp124)]) good foll (Abs.tabOf_ok _ (by simp only [List.forall_mem_cons]; exact ⟨ok20, ok43, ok116, ok118, ok117, ok105, ok119, ok120, ok121, ok122, ok123, ok124, fun _ h => by cases h⟩)) rfl (by intro v; kernel_rfl)

def l19_0_5 (v : ((Int × Unit) × (Y13 × Y10 × ((Unit) × Unit) × Unit))) : Option (((Int × Unit) × (Y13 × Y10 × ((Unit) × Unit) × Unit)) ⊕ ((Unit) × (Y13 × ((Unit) × Unit) × Y10 × Unit))) :=
bif (decide ((v.1.1 : Int) > 0)) then ((m74 ((v.2.2.1.1, ()), ((v.2.1.1, ()), ()))).bind fun u37 =>
some (.inl (((w64 (v.1.1 - 1)), ()), ((u37.2.1.1, ()), ((u37.2.2.1.1, ()), (((), ()), ()))))))
else (some (.inr ((), ((v.2.1.1, ()), (((), ()), ((v.2.2.1.1, ()), ()))))))

/- (*pagewatch/pagewatchmade.Dice).Cluster -/
def i19 : Abs.Sg := ⟨[0, 1], (.st (.ptr (0, 0) 2 0 0) (.dat (.int .i64) .nil)), (.box 2 (.dat Z12 .nil) .nil)⟩

def o19 : Abs.Sg := ⟨[4], (.st (.ptr (1, 0) 4 0 0) .nil), (.box 2 (.dat Z12 .nil) (.box 4 (.dat Z8 .nil) .nil))⟩

def m19 (v : ((Int × Unit) × (Y13 × Unit))) : Option ((Unit) × (Y13 × Y10 × Unit)) :=
(m41 (([3, 3, 2, 5, 1], ()), ((v.2.1.1, ()), ()))).bind fun u30 =>
(m72 ((u30.1.1, ()), ())).bind fun u31 =>
(((m20 ((2, ()), ((u30.2.1.1, ()), ()))).bind fun u32 =>
bif ((u32.1.1 : Int) == 0) then ((m20 ((((u31.2.2.1.length : Nat) : Int), ()), ((u32.2.1.1, ()), ()))).bind fun u33 =>
(m73 (((u31.2.2.1, ([], (u31.2.2.2.1, ([], ())))), (u33.1.1, ())), ())).bind fun u34 =>
some ((v.1.1, ()), ((u33.2.1.1, ()), ((u34.2.1.1, ()), (((), ()), ())))))
else (some ((v.1.1, ()), ((u32.2.1.1, ()), (((u31.2.2.1, ([], (u31.2.2.2.1, ([], ())))), ()), (((), ()), ())))))) : Option ((Int × Unit) × (Y13 × Y10 × ((Unit) × Unit) × Unit))).bind fun v35 =>
(m20 (((w64 (v35.1.1 + 1)), ()), ((v35.2.1.1, ()), ()))).bind fun u36 =>
(loopT l19_0_5 ((u36.1.1, ()), ((u36.2.1.1, ()), ((v35.2.2.1.1, ()), (((), ()), ()))))).bind fun d38 =>
some ((), ((d38.2.1.1, ()), ((d38.2.2.2.1.1, ()), ())))

def sp19 : Abs.Spec := ⟨1, i19, o19, m19⟩

def an19 : Nat → Abs.FAn
  | 0 => Abs.FAn.mk (fun _ => none) (fun
    | 4 => some (⟨[5, 0, 4, 1], (.st (.ptr (1, 0) 4 0 0) (.st (.ptr (0, 0) 2 0 0) (.st (.ptr (2, 0) 4 0 0) (.dat (.int .i64) .nil)))), (.box 2 (.dat Z12 .nil) (.box 4 (.dat Z8 .nil) (.box 4 (.agg (.st .nil (.st .nil (.st .nil (.st .nil .nil)))) .nil) .nil)))⟩, none)
    | _ => none) (fun
    | 5 => some ⟨⟨[7, 5, 0, 4], (.dat (.int .i64) (.st (.ptr (1, 0) 4 0 0) (.st (.ptr (0, 0) 2 0 0) (.st (.ptr (2, 0) 4 0 0) .nil)))), (.box 2 (.dat Z12 .nil) (.box 4 (.dat Z8 .nil) (.box 4 (.agg (.st .nil (.st .nil (.st .nil (.st .nil .nil)))) .nil) .nil)))⟩, (.one (.exit 0) ⟨[4, 5], (.st (.ptr (1, 0) 4 0 0) (.st (.ptr (2, 0) 4 0 0) .nil)), (.box 2 (.dat Z12 .nil) (.box 4 (.agg (.st .nil (.st .nil (.st .nil (.st .nil .nil)))) .nil) (.box 4 (.dat Z8 .nil) .nil)))⟩)⟩
    | _ => none) (fun _ _ => 0)
  | _ => {}

theorem ok19 : Abs.SpecOK Try.prog 19 sp19 :=
  Abs.specOK_of (n := 12) (an := an19) (T := Abs.tabOf [(41, sp41), (72, sp72), (20, sp20), (73, sp73), (74, sp74)]) good foll (Abs.tabOf_ok _ (by simp only [List.forall_mem_cons]; exact ⟨ok41, ok72, ok20, ok73, ok74, fun _ h => by cases h⟩)) rfl (by intro v; kernel_rfl)

/- pagewatch/pagewatchlaw32.odd -/
def i25 : Abs.Sg := ⟨[0, 1], (.st (.ptr (0, 0) 2 0 0) (.dat Z3 .nil)), (.box 2 (.dat Z12 .nil) .nil)⟩

def o25 : Abs.Sg := ⟨[4], (.st (.ptr (1, 0) 8 0 0) .nil), (.box 2 (.dat Z12 .nil) (.box 8 (.agg (.dat (.int .i64) (.dat (.int .i64) (.dat (.int .i64) (.dat (.int .i64) (.st (.own Z1 (2, 0)) (.dat (.int .i64) (.st (.own .bool (3, 0)) (.st (.own (.int .i64) (4, 0)) .nil)))))))) .nil) (.arr Z1 false (.arr .bool false (.arr (.int .i64) false .nil)))))⟩

def m25 (v : ((Y5 × Unit) × (Y13 × Unit))) : Option ((Unit) × (Y13 × Y11 × Y2 × (List Bool) × (List Int) × Unit)) :=
(m80 ((v.1.1, ()), ())).bind fun u39 =>
(((m20 ((9, ()), ((v.2.1.1, ()), ()))).bind fun u40 =>
bif ((u40.1.1 : Int) == 0) then ((m41 (([(-1), 0, 7], ()), ((u40.2.1.1, ()), ()))).bind fun u41 =>
some ((), ((u41.2.1.1, ()), (((0, (0, (0, (0, (0, ()))))), ()), (((u41.1.1, (u39.2.1.1.2.1, (u39.2.1.1.2.2.1, (u39.2.1.1.2.2.2.1, (u39.2.1.1.2.2.2.2.1, ()))))), ()), (u39.2.2.1, (u39.2.2.2.1, (u39.2.2.2.2.1, ()))))))))
else (bif ((u40.1.1 : Int) == 1) then ((m41 (([(-1), 0, 1048576, 1048577], ()), ((u40.2.1.1, ()), ()))).bind fun u42 =>
some ((), ((u42.2.1.1, ()), (((0, (0, (0, (0, (0, ()))))), ()), (((u39.2.1.1.1, (u42.1.1, (u39.2.1.1.2.2.1, (u39.2.1.1.2.2.2.1, (u39.2.1.1.2.2.2.2.1, ()))))), ()), (u39.2.2.1, (u39.2.2.2.1, (u39.2.2.2.2.1, ()))))))))
else (bif ((u40.1.1 : Int) == 2) then ((m41 (([(-2), (-1), 0, 9], ()), ((u40.2.1.1, ()), ()))).bind fun u43 =>
some ((), ((u43.2.1.1, ()), (((0, (0, (0, (0, (0, ()))))), ()), (((u39.2.1.1.1, (u39.2.1.1.2.1, (u43.1.1, (u39.2.1.1.2.2.2.1, (u39.2.1.1.2.2.2.2.1, ()))))), ()), (u39.2.2.1, (u39.2.2.2.1, (u39.2.2.2.2.1, ()))))))))
else (bif ((u40.1.1 : Int) == 3) then ((m20 ((5, ()), ((u40.2.1.1, ()), ()))).bind fun u44 =>
some ((), ((u44.2.1.1, ()), (((0, (0, (0, (0, (0, ()))))), ()), (((u39.2.1.1.1, (u39.2.1.1.2.1, (u39.2.1.1.2.2.1, ((w64 (u44.1.1 - 1)), (u39.2.1.1.2.2.2.2.1, ()))))), ()), (u39.2.2.1, (u39.2.2.2.1, (u39.2.2.2.2.1, ()))))))))
else (bif ((u40.1.1 : Int) == 4) then ((m41 (([0, 1, u39.2.1.1.2.1, (w64 (u39.2.1.1.2.1 + 1))], ()), ((u40.2.1.1, ()), ()))).bind fun u45 =>
bif (decide (u39.2.2.1.length + ([(u45.1.1, ((0, (0, (0, (0, (0, (0, (0, (0, (0, ((0, (0, (0, (0, (0, (0, ())))))), ((0, (0, (0, (0, (0, ()))))), ()))))))))))), ()))] : List (Int × Y9 × Unit)).length ≤ 4294967296)) then
let x46 := (u39.2.2.1 ++ ([(u45.1.1, ((0, (0, (0, (0, (0, (0, (0, (0, (0, ((0, (0, (0, (0, (0, (0, ())))))), ((0, (0, (0, (0, (0, ()))))), ()))))))))))), ()))] : List (Int × Y9 × Unit)))
some ((), ((u45.2.1.1, ()), (((0, (0, (0, (0, (0, ()))))), ()), (((u39.2.1.1.1, (u39.2.1.1.2.1, (u39.2.1.1.2.2.1, (u39.2.1.1.2.2.2.1, (u39.2.1.1.2.2.2.2.1, ()))))), ()), (x46, (u39.2.2.2.1, (u39.2.2.2.2.1, ())))))))
else none)
else (bif ((u40.1.1 : Int) == 5) then ((m41 (([(-1), ((u39.2.2.1.length : Nat) : Int), (w64 (((u39.2.2.1.length : Nat) : Int) + 1))], ()), ((u40.2.1.1, ()), ()))).bind fun u47 =>
some ((), ((u47.2.1.1, ()), (((0, (0, (0, (0, (0, ()))))), ()), (((u39.2.1.1.1, (u39.2.1.1.2.1, (u39.2.1.1.2.2.1, (u39.2.1.1.2.2.2.1, (u47.1.1, ()))))), ()), (u39.2.2.1, (u39.2.2.2.1, (u39.2.2.2.2.1, ()))))))))
else (bif ((u40.1.1 : Int) == 6) then (bif (decide (u39.2.2.2.1.length + [true].length ≤ 4294967296)) then
some ((), ((u40.2.1.1, ()), (((0, (0, (0, (0, (0, ()))))), ()), (((u39.2.1.1.1, (u39.2.1.1.2.1, (u39.2.1.1.2.2.1, (u39.2.1.1.2.2.2.1, (u39.2.1.1.2.2.2.2.1, ()))))), ()), (u39.2.2.1, ((u39.2.2.2.1 ++ [true]), (u39.2.2.2.2.1, ())))))))
else none)
else (bif ((u40.1.1 : Int) == 7) then (bif (decide (u39.2.2.2.2.1.length + [0].length ≤ 4294967296)) then
some ((), ((u40.2.1.1, ()), (((0, (0, (0, (0, (0, ()))))), ()), (((u39.2.1.1.1, (u39.2.1.1.2.1, (u39.2.1.1.2.2.1, (u39.2.1.1.2.2.2.1, (u39.2.1.1.2.2.2.2.1, ()))))), ()), (u39.2.2.1, (u39.2.2.2.1, ((u39.2.2.2.2.1 ++ [0]), ())))))))
else none)
else (bif ((u40.1.1 : Int) == 8) then (let x48 := (decide ((((u39.2.2.2.1.length : Nat) : Int) : Int) > 0))
bif x48 then ((m20 ((((u39.2.2.2.1.length : Nat) : Int), ()), ((u40.2.1.1, ()), ()))).bind fun u49 =>
(m20 ((2, ()), ((u49.2.1.1, ()), ()))).bind fun u50 =>
bif (decide ((0 : Int) ≤ u49.1.1 ∧ (u49.1.1 : Int) < u39.2.2.2.1.length)) then
bif (decide (u49.1.1.toNat < u39.2.2.2.1.length)) then
some ((), ((u50.2.1.1, ()), (((0, (0, (0, (0, (0, ()))))), ()), (((u39.2.1.1.1, (u39.2.1.1.2.1, (u39.2.1.1.2.2.1, (u39.2.1.1.2.2.2.1, (u39.2.1.1.2.2.2.2.1, ()))))), ()), (u39.2.2.1, ((u39.2.2.2.1.set u49.1.1.toNat ((u50.1.1 : Int) == 0)), (u39.2.2.2.2.1, ())))))))
else none
else none)
else (some ((), ((u40.2.1.1, ()), (((0, (0, (0, (0, (0, ()))))), ()), (((u39.2.1.1.1, (u39.2.1.1.2.1, (u39.2.1.1.2.2.1, (u39.2.1.1.2.2.2.1, (u39.2.1.1.2.2.2.2.1, ()))))), ()), (u39.2.2.1, (u39.2.2.2.1, (u39.2.2.2.2.1, ())))))))))
else (some ((), ((u40.2.1.1, ()), (((0, (0, (0, (0, (0, ()))))), ()), (((u39.2.1.1.1, (u39.2.1.1.2.1, (u39.2.1.1.2.2.1, (u39.2.1.1.2.2.2.1, (u39.2.1.1.2.2.2.2.1, ()))))), ()), (u39.2.2.1, (u39.2.2.2.1, (u39.2.2.2.2.1, ()))))))))))))))))) : Option ((Unit) × (Y13 × Y11 × Y11 × Y2 × (List Bool) × (List Int) × Unit))).bind fun v51 =>
some ((), ((v51.2.1.1, ()), (((v51.2.2.2.1.1.1, (v51.2.2.2.1.1.2.1, (v51.2.2.2.1.1.2.2.1, (v51.2.2.2.1.1.2.2.2.1, (v51.2.2.2.1.1.2.2.2.2.1, ()))))), ()), (v51.2.2.2.2.1, (v51.2.2.2.2.2.1, (v51.2.2.2.2.2.2.1, ()))))))

def sp25 : Abs.Spec := ⟨1, i25, o25, m25⟩

def an25 : Nat → Abs.FAn
  | 0 => Abs.FAn.mk (fun _ => none) (fun
    | 22 => some (⟨[4, 5], (.st (.ptr (1, 0) 8 0 0) (.st (.ptr (2, 0) 8 0 0) .nil)), (.box 2 (.dat Z12 .nil) (.box 8 (.agg (.dat (.int .i64) (.dat (.int .i64) (.dat (.int .i64) (.dat (.int .i64) (.st .nil (.dat (.int .i64) (.st .nil (.st .nil .nil)))))))) .nil) (.box 8 (.agg (.dat (.int .i64) (.dat (.int .i64) (.dat (.int .i64) (.dat (.int .i64) (.st (.own Z1 (3, 0)) (.dat (.int .i64) (.st (.own .bool (4, 0)) (.st (.own (.int .i64) (5, 0)) .nil)))))))) .nil) (.arr Z1 false (.arr .bool false (.arr (.int .i64) false .nil))))))⟩, none)
    | _ => none) (fun _ => none) (fun _ _ => 0)
  | _ => {}

theorem ok25 : Abs.SpecOK Try.prog 25 sp25 :=
  Abs.specOK_of (n := 12) (an := an25) (T := Abs.tabOf [(80, sp80), (20, sp20), (41, sp41)]) good foll (Abs.tabOf_ok _ (by simp only [List.forall_mem_cons]; exact ⟨ok80, ok20, ok41, fun _ h => by cases h⟩)) rfl (by intro v; kernel_rfl)

def l69_0_4 (v : ((Int × Y2 × Y2 × Unit) × (Unit))) : Option (((Int × Y2 × Y2 × Unit) × (Unit)) ⊕ (Y14 ⊕ ((Unit) × (Unit)))) :=
let x35 := (decide ((v.1.1 : Int) < (v.1.2.2.1.length : Int)))
bif x35 then (Abs.rowAt v.1.2.2.1 v.1.1 fun e36 _ =>
Abs.rowAt v.1.2.1 v.1.1 fun e37 _ =>
let x38 := (!(((e36.1 : Int) == e37.1) && ((((e36.2.1.1 : Int) == e37.2.1.1) && (((e36.2.1.2.1 : Int) == e37.2.1.2.1) && (((e36.2.1.2.2.1 : Int) == e37.2.1.2.2.1) && (((e36.2.1.2.2.2.1 : Int) == e37.2.1.2.2.2.1) && (((e36.2.1.2.2.2.2.1 : Int) == e37.2.1.2.2.2.2.1) && (((e36.2.1.2.2.2.2.2.1 : Int) == e37.2.1.2.2.2.2.2.1) && (((e36.2.1.2.2.2.2.2.2.1 : Int) == e37.2.1.2.2.2.2.2.2.1) && (((e36.2.1.2.2.2.2.2.2.2.1 : Int) == e37.2.1.2.2.2.2.2.2.2.1) && (((e36.2.1.2.2.2.2.2.2.2.2.1 : Int) == e37.2.1.2.2.2.2.2.2.2.2.1) && ((((e36.2.1.2.2.2.2.2.2.2.2.2.1.1 : Int) == e37.2.1.2.2.2.2.2.2.2.2.2.1.1) && (((e36.2.1.2.2.2.2.2.2.2.2.2.1.2.1 : Int) == e37.2.1.2.2.2.2.2.2.2.2.2.1.2.1) && (((e36.2.1.2.2.2.2.2.2.2.2.2.1.2.2.1 : Int) == e37.2.1.2.2.2.2.2.2.2.2.2.1.2.2.1) && (((e36.2.1.2.2.2.2.2.2.2.2.2.1.2.2.2.1 : Int) == e37.2.1.2.2.2.2.2.2.2.2.2.1.2.2.2.1) && (((e36.2.1.2.2.2.2.2.2.2.2.2.1.2.2.2.2.1 : Int) == e37.2.1.2.2.2.2.2.2.2.2.2.1.2.2.2.2.1) && (((e36.2.1.2.2.2.2.2.2.2.2.2.1.2.2.2.2.2.1 : Int) == e37.2.1.2.2.2.2.2.2.2.2.2.1.2.2.2.2.2.1) && true)))))) && ((((e36.2.1.2.2.2.2.2.2.2.2.2.2.1.1 : Int) == e37.2.1.2.2.2.2.2.2.2.2.2.2.1.1) && (((e36.2.1.2.2.2.2.2.2.2.2.2.2.1.2.1 : Int) == e37.2.1.2.2.2.2.2.2.2.2.2.2.1.2.1) && (((e36.2.1.2.2.2.2.2.2.2.2.2.2.1.2.2.1 : Int) == e37.2.1.2.2.2.2.2.2.2.2.2.2.1.2.2.1) && (((e36.2.1.2.2.2.2.2.2.2.2.2.2.1.2.2.2.1 : Int) == e37.2.1.2.2.2.2.2.2.2.2.2.2.1.2.2.2.1) && (((e36.2.1.2.2.2.2.2.2.2.2.2.2.1.2.2.2.2.1 : Int) == e37.2.1.2.2.2.2.2.2.2.2.2.2.1.2.2.2.2.1) && true))))) && true))))))))))) && true)))
bif x38 then (some (.inr (.inl ((false, ()), ()))))
else (some (.inl (((w64 (v.1.1 + 1)), (v.1.2.1, (v.1.2.2.1, ()))), ()))))
else (some (.inr (.inr ((), ()))))

/- pagewatch/pagewatchref32.SameLog -/
def i69 : Abs.Sg := ⟨[0, 1], (.dat (.row Z1) (.dat (.row Z1) .nil)), .nil⟩

def o69 : Abs.Sg := ⟨[4], (.dat .bool .nil), .nil⟩

def m69 (v : ((Y2 × Y2 × Unit) × (Unit))) : Option Y14 :=
let x34 := (((v.1.1.length : Int) : Int) != (v.1.2.1.length : Int))
bif x34 then (some ((false, ()), ()))
else ((loopT l69_0_4 ((0, (v.1.2.1, (v.1.1, ()))), ())).bind fun d39 =>
sumE d39 (fun d40 => (some ((d40.1.1, ()), ()))) (fun d41 => (some ((true, ()), ()))))

def sp69 : Abs.Spec := ⟨0, i69, o69, m69⟩

def an69 : Nat → Abs.FAn
  | 0 => Abs.FAn.mk (fun _ => none) (fun _ => none) (fun
    | 4 => some ⟨⟨[5, 1, 0], (.dat (.int .i64) (.dat (.row Z1) (.dat (.row Z1) .nil))), .nil⟩, (.more .ret ⟨[4], (.dat .bool .nil), .nil⟩ (.one (.exit 0) ⟨[], .nil, .nil⟩))⟩
    | _ => none) (fun _ _ => 0)
  | _ => {}

theorem ok69 : Abs.SpecOK Try.prog 69 sp69 :=
  Abs.specOK_of (n := 12) (an := an69) (T := Abs.tabOf []) good foll (Abs.tabOf_ok _ (fun _ h => by cases h)) rfl (by intro v; kernel_rfl)

def l87_0_4 (v : ((Int × (List Int) × (List Int) × Unit) × (Unit))) : Option (((Int × (List Int) × (List Int) × Unit) × (Unit)) ⊕ (Y14 ⊕ ((Unit) × (Unit)))) :=
let x29 := (decide ((v.1.1 : Int) < (v.1.2.2.1.length : Int)))
bif x29 then (Abs.rowAt v.1.2.2.1 v.1.1 fun e30 _ =>
Abs.rowAt v.1.2.1 v.1.1 fun e31 _ =>
bif ((e30 : Int) != e31) then (some (.inr (.inl ((false, ()), ()))))
else (some (.inl (((w64 (v.1.1 + 1)), (v.1.2.1, (v.1.2.2.1, ()))), ()))))
else (some (.inr (.inr ((), ()))))

/- pagewatch/pagewatchref25.Same -/
def i87 : Abs.Sg := ⟨[0, 1], (.dat (.row (.int .i64)) (.dat (.row (.int .i64)) .nil)), .nil⟩

def o87 : Abs.Sg := ⟨[4], (.dat .bool .nil), .nil⟩

def m87 (v : (((List Int) × (List Int) × Unit) × (Unit))) : Option Y14 :=
let x28 := (((v.1.1.length : Int) : Int) != (v.1.2.1.length : Int))
bif x28 then (some ((false, ()), ()))
else ((loopT l87_0_4 ((0, (v.1.2.1, (v.1.1, ()))), ())).bind fun d32 =>
sumE d32 (fun d33 => (some ((d33.1.1, ()), ()))) (fun d34 => (some ((true, ()), ()))))

def sp87 : Abs.Spec := ⟨0, i87, o87, m87⟩

def an87 : Nat → Abs.FAn
  | 0 => Abs.FAn.mk (fun _ => none) (fun _ => none) (fun
    | 4 => some ⟨⟨[5, 1, 0], (.dat (.int .i64) (.dat (.row (.int .i64)) (.dat (.row (.int .i64)) .nil))), .nil⟩, (.more .ret ⟨[4], (.dat .bool .nil), .nil⟩ (.one (.exit 0) ⟨[], .nil, .nil⟩))⟩
    | _ => none) (fun _ _ => 0)
  | _ => {}

theorem ok87 : Abs.SpecOK Try.prog 87 sp87 :=
  Abs.specOK_of (n := 12) (an := an87) (T := Abs.tabOf []) good foll (Abs.tabOf_ok _ (fun _ h => by cases h)) rfl (by intro v; kernel_rfl)

def l31_0_4 (v : ((Int × Unit) × ((Y5 × Unit) × (Y5 × Unit) × Unit))) : Option (((Int × Unit) × ((Y5 × Unit) × (Y5 × Unit) × Unit)) ⊕ (Y14 ⊕ ((Unit) × ((Y5 × Unit) × (Y5 × Unit) × Unit)))) :=
let x38 := (decide ((v.1.1 : Int) < (v.2.2.1.1.2.2.2.2.2.2.1.length : Int)))
bif x38 then (Abs.rowAt v.2.2.1.1.2.2.2.2.2.2.1 v.1.1 fun e39 _ =>
Abs.rowAt v.2.1.1.2.2.2.2.2.2.1 v.1.1 fun e40 _ =>
bif (!(e39 == e40)) then (some (.inr (.inl ((false, ()), ()))))
else (some (.inl (((w64 (v.1.1 + 1)), ()), ((v.2.1.1, ()), ((v.2.2.1.1, ()), ()))))))
else (some (.inr (.inr ((), ((v.2.1.1, ()), ((v.2.2.1.1, ()), ()))))))

/- pagewatch/pagewatchref32.Same -/
def i31 : Abs.Sg := ⟨[0, 1], (.dat Z3 (.dat Z3 .nil)), .nil⟩

def o31 : Abs.Sg := ⟨[4], (.dat .bool .nil), .nil⟩

def m31 (v : ((Y5 × Y5 × Unit) × (Unit))) : Option Y14 :=
let x37 := (((v.1.1.2.2.2.2.2.2.1.length : Int) : Int) != (v.1.2.1.2.2.2.2.2.2.1.length : Int))
bif x37 then (some ((false, ()), ()))
else ((loopT l31_0_4 ((0, ()), ((v.1.2.1, ()), ((v.1.1, ()), ())))).bind fun d41 =>
sumE d41 (fun d42 => (some ((d42.1.1, ()), ()))) (fun d43 => (((bif ((d43.2.2.1.1.1 : Int) == d43.2.1.1.1) then (bif ((d43.2.2.1.1.2.1 : Int) == d43.2.1.1.2.1) then (bif ((d43.2.2.1.1.2.2.1 : Int) == d43.2.1.1.2.2.1) then (let x44 := ((d43.2.2.1.1.2.2.2.1 : Int) == d43.2.1.1.2.2.2.1)
bif x44 then (let x45 := ((d43.2.2.1.1.2.2.2.2.2.1 : Int) == d43.2.1.1.2.2.2.2.2.1)
bif x45 then ((m69 ((d43.2.2.1.1.2.2.2.2.1, (d43.2.1.1.2.2.2.2.1, ())), ())).bind fun u46 =>
bif u46.1.1 then ((m87 ((d43.2.2.1.1.2.2.2.2.2.2.2.1, (d43.2.1.1.2.2.2.2.2.2.2.1, ())), ())).bind fun u47 =>
some ((u47.1.1, ()), ()))
else (some ((false, ()), ())))
else (some ((false, ()), ())))
else (some ((false, ()), ())))
else (some ((false, ()), ())))
else (some ((false, ()), ())))
else (some ((false, ()), ()))) : Option Y14).bind fun v48 =>
some ((v48.1.1, ()), ()))))

def sp31 : Abs.Spec := ⟨0, i31, o31, m31⟩

def an31 : Nat → Abs.FAn
  | 0 => Abs.FAn.mk (fun
    | 8 => some ⟨[4], (.dat .bool .nil), .nil⟩
    | _ => none) (fun _ => none) (fun
    | 4 => some ⟨⟨[5, 3, 2], (.dat (.int .i64) (.st (.ptr (0, 0) 8 0 0) (.st (.ptr (1, 0) 8 0 0) .nil))), (.box 8 (.dat Z3 .nil) (.box 8 (.dat Z3 .nil) .nil))⟩, (.more .ret ⟨[4], (.dat .bool .nil), .nil⟩ (.one (.exit 0) ⟨[3, 2], (.st (.ptr (0, 0) 8 0 0) (.st (.ptr (1, 0) 8 0 0) .nil)), (.box 8 (.dat Z3 .nil) (.box 8 (.dat Z3 .nil) .nil))⟩))⟩
    | _ => none) (fun _ _ => 0)
  | _ => {}

theorem ok31 : Abs.SpecOK Try.prog 31 sp31 :=
  Abs.specOK_of (n := 12) (an := an31) (T := Abs.tabOf [(69, sp69), (87, sp87)]) good foll (Abs.tabOf_ok _ (by simp only [List.forall_mem_cons]; exact ⟨ok69, ok87, fun _ h => by cases h⟩)) rfl (by intro v; kernel_rfl)

/- pagewatch/pagewatchref32.SameMessage -/
def i35 : Abs.Sg := ⟨[0, 1], (.dat Z4 (.dat Z4 .nil)), .nil⟩

def o35 : Abs.Sg := ⟨[4], (.dat .bool .nil), .nil⟩

def m35 (v : ((Y7 × Y7 × Unit) × (Unit))) : Option Y14 :=
((bif ((v.1.1.1 : Int) == v.1.2.1.1) then (bif ((v.1.1.2.1 : Int) == v.1.2.1.2.1) then (bif ((v.1.1.2.2.1 : Int) == v.1.2.1.2.2.1) then (bif ((v.1.1.2.2.2.1 : Int) == v.1.2.1.2.2.2.1) then (bif ((v.1.1.2.2.2.2.1 : Int) == v.1.2.1.2.2.2.2.1) then (let x9 := ((v.1.1.2.2.2.2.2.1 : Int) == v.1.2.1.2.2.2.2.2.1)
bif x9 then (let x10 := ((v.1.1.2.2.2.2.2.2.1 : Int) == v.1.2.1.2.2.2.2.2.2.1)
bif x10 then (let x11 := (v.1.1.2.2.2.2.2.2.2.2.1 == v.1.2.1.2.2.2.2.2.2.2.2.1)
bif x11 then ((m69 ((v.1.1.2.2.2.2.2.2.2.1, (v.1.2.1.2.2.2.2.2.2.2.1, ())), ())).bind fun u12 =>
some ((u12.1.1, ()), ()))
else (some ((false, ()), ())))
else (some ((false, ()), ())))
else (some ((false, ()), ())))
else (some ((false, ()), ())))
else (some ((false, ()), ())))
else (some ((false, ()), ())))
else (some ((false, ()), ())))
else (some ((false, ()), ()))) : Option Y14).bind fun v13 =>
some ((v13.1.1, ()), ())

def sp35 : Abs.Spec := ⟨0, i35, o35, m35⟩

def an35 : Nat → Abs.FAn
  | 0 => Abs.FAn.mk (fun
    | 1 => some ⟨[4], (.dat .bool .nil), .nil⟩
    | _ => none) (fun _ => none) (fun _ => none) (fun _ _ => 0)
  | _ => {}

theorem ok35 : Abs.SpecOK Try.prog 35 sp35 :=
  Abs.specOK_of (n := 12) (an := an35) (T := Abs.tabOf [(69, sp69)]) good foll (Abs.tabOf_ok _ (by simp only [List.forall_mem_cons]; exact ⟨ok69, fun _ h => by cases h⟩)) rfl (by intro v; kernel_rfl)

def l32_0_4 (v : ((Int × (List Y7) × (List Y7) × Unit) × (Unit))) : Option (((Int × (List Y7) × (List Y7) × Unit) × (Unit)) ⊕ (Y14 ⊕ ((Unit) × (Unit)))) :=
let x35 := (decide ((v.1.1 : Int) < (v.1.2.2.1.length : Int)))
bif x35 then (Abs.rowAt v.1.2.2.1 v.1.1 fun e36 _ =>
Abs.rowAt v.1.2.1 v.1.1 fun e37 _ =>
(m35 ((e36, (e37, ())), ())).bind fun u38 =>
bif (!u38.1.1) then (some (.inr (.inl ((false, ()), ()))))
else (some (.inl (((w64 (v.1.1 + 1)), (v.1.2.1, (v.1.2.2.1, ()))), ()))))
else (some (.inr (.inr ((), ()))))

/- pagewatch/pagewatchref32.SameMessages -/
def i32 : Abs.Sg := ⟨[0, 1], (.dat (.row Z4) (.dat (.row Z4) .nil)), .nil⟩

def o32 : Abs.Sg := ⟨[4], (.dat .bool .nil), .nil⟩

def m32 (v : (((List Y7) × (List Y7) × Unit) × (Unit))) : Option Y14 :=
let x34 := (((v.1.1.length : Int) : Int) != (v.1.2.1.length : Int))
bif x34 then (some ((false, ()), ()))
else ((loopT l32_0_4 ((0, (v.1.2.1, (v.1.1, ()))), ())).bind fun d39 =>
sumE d39 (fun d40 => (some ((d40.1.1, ()), ()))) (fun d41 => (some ((true, ()), ()))))

def sp32 : Abs.Spec := ⟨0, i32, o32, m32⟩

def an32 : Nat → Abs.FAn
  | 0 => Abs.FAn.mk (fun _ => none) (fun _ => none) (fun
    | 4 => some ⟨⟨[5, 1, 0], (.dat (.int .i64) (.dat (.row Z4) (.dat (.row Z4) .nil))), .nil⟩, (.more .ret ⟨[4], (.dat .bool .nil), .nil⟩ (.one (.exit 0) ⟨[], .nil, .nil⟩))⟩
    | _ => none) (fun _ _ => 0)
  | _ => {}

theorem ok32 : Abs.SpecOK Try.prog 32 sp32 :=
  Abs.specOK_of (n := 12) (an := an32) (T := Abs.tabOf [(35, sp35)]) good foll (Abs.tabOf_ok _ (by simp only [List.forall_mem_cons]; exact ⟨ok35, fun _ h => by cases h⟩)) rfl (by intro v; kernel_rfl)

/- pagewatch/pagewatchlaw32.message -/
def i33 : Abs.Sg := ⟨[0, 1, 2], (.st (.ptr (0, 0) 2 0 0) (.dat Z3 (.dat (.int .i64) .nil))), (.box 2 (.dat Z12 .nil) .nil)⟩

def o33 : Abs.Sg := ⟨[6], (.st (.ptr (1, 0) 9 0 0) .nil), (.box 2 (.dat Z12 .nil) (.box 9 (.agg (.dat (.int .i64) (.dat (.int .i64) (.dat (.int .i64) (.dat (.int .i64) (.dat (.int .i64) (.dat (.int .i64) (.dat (.int .i64) (.st .nil (.dat .bool .nil))))))))) .nil) .nil))⟩

def m33 (v : ((Y5 × Int × Unit) × (Y13 × Unit))) : Option ((Unit) × (Y13 × Y15 × Unit)) :=
(m20 ((6, ()), ((v.2.1.1, ()), ()))).bind fun u20 =>
(m41 (([1, 2, u20.1.1], ()), ((u20.2.1.1, ()), ()))).bind fun u21 =>
(m20 (((w64 (v.1.2.1 + 1)), ()), ((u21.2.1.1, ()), ()))).bind fun u22 =>
(m20 ((2, ()), ((u22.2.1.1, ()), ()))).bind fun u23 =>
(m41 (([v.1.1.1, v.1.1.1, 0], ()), ((u23.2.1.1, ()), ()))).bind fun u24 =>
(m41 (([v.1.1.2.1, v.1.1.2.1, (w64 (v.1.1.2.1 + 1)), (w64 (v.1.1.2.1 - 1)), 1, 0, 1048576, 1048577], ()), ((u24.2.1.1, ()), ()))).bind fun u25 =>
(m41 (([(v.1.1.2.2.2.2.1.length : Int), 0, (w64 ((v.1.1.2.2.2.2.1.length : Int) + 1))], ()), ((u25.2.1.1, ()), ()))).bind fun u26 =>
(m22 ((v.1.1, ()), ())).bind fun u27 =>
(m41 (([u27.1.1, 0, v.1.1.2.1], ()), ((u26.2.1.1, ()), ()))).bind fun u28 =>
(m20 ((3, ()), ((u28.2.1.1, ()), ()))).bind fun u29 =>
some ((), ((u29.2.1.1, ()), (((u21.1.1, ((w64 (u22.1.1 - u23.1.1)), (u24.1.1, (u25.1.1, (u26.1.1, (u28.1.1, (0, ((decide ((u29.1.1 : Int) > 0)), ())))))))), ()), ())))

def sp33 : Abs.Spec := ⟨1, i33, o33, m33⟩

def an33 : Nat → Abs.FAn
  | _ => {}

theorem ok33 : Abs.SpecOK Try.prog 33 sp33 :=
  Abs.specOK_of (n := 12) (an := an33) (T := Abs.tabOf [(20, sp20), (41, sp41), (22, sp22)]) good foll (Abs.tabOf_ok _ (by simp only [List.forall_mem_cons]; exact ⟨ok20, ok41, ok22, fun _ h => by cases h⟩)) rfl (by intro v; kernel_rfl)

def l4_0_20 (v : ((Int × Int × Int × Int × Int × Int × Int × Int × Int × Int × Unit) × ((Y5 × Unit) × (List Y7) × (Y7 × Unit) × Y13 × (List Int) × (List Y5) × Unit))) : Option (((Int × Int × Int × Int × Int × Int × Int × Int × Int × Int × Unit) × ((Y5 × Unit) × (List Y7) × (Y7 × Unit) × Y13 × (List Int) × (List Y5) × Unit)) ⊕ (Y14 ⊕ ((Int × Int × Int × Int × Int × Int × Int × Int × Unit) × ((Y5 × Unit) × (Y7 × Unit) × Y13 × (List Int) × (List Y5) × Unit)))) :=
let x386 := (decide ((v.1.1 : Int) < v.1.2.2.2.2.2.2.2.2.2.1))
bif x386 then (bif (decide ((0 : Int) ≤ v.1.1 ∧ (v.1.1 : Int) < v.2.2.1.length)) then
(v.2.2.1[v.1.1.toNat]?).bind fun e387 =>
(m24 ((v.1.2.1, (v.2.1.1, (e387, ()))), ())).bind fun u388 =>
(m34 ((v.1.2.1, (v.2.1.1, (e387, ()))), ())).bind fun u389 =>
((bif (!(u388.1.1 == u389.1.1)) then (some ((true, (v.1.2.1, (v.1.2.2.1, (v.1.2.2.2.1, (v.1.2.2.2.2.1, (v.1.2.2.2.2.2.1, (v.1.2.2.2.2.2.2.1, (v.1.2.2.2.2.2.2.2.1, (v.1.2.2.2.2.2.2.2.2.1, (v.1.2.2.2.2.2.2.2.2.2.1, (v.1.1, ()))))))))))), ((v.2.1.1, ()), (v.2.2.1, ((v.2.2.2.1.1, ()), ((v.2.2.2.2.1.1, ()), (v.2.2.2.2.2.1, (v.2.2.2.2.2.2.1, ()))))))))
else ((m31 ((u388.2.1.1, (u389.2.1.1, ())), ())).bind fun u390 =>
bif (!u390.1.1) then (some ((true, (v.1.2.1, (v.1.2.2.1, (v.1.2.2.2.1, (v.1.2.2.2.2.1, (v.1.2.2.2.2.2.1, (v.1.2.2.2.2.2.2.1, (v.1.2.2.2.2.2.2.2.1, (v.1.2.2.2.2.2.2.2.2.1, (v.1.2.2.2.2.2.2.2.2.2.1, (v.1.1, ()))))))))))), ((v.2.1.1, ()), (v.2.2.1, ((v.2.2.2.1.1, ()), ((v.2.2.2.2.1.1, ()), (v.2.2.2.2.2.1, (v.2.2.2.2.2.2.1, ()))))))))
else ((m35 (((u388.2.2.1.1.1, (u388.2.2.1.1.2.1, (u388.2.2.1.1.2.2.1, (u388.2.2.1.1.2.2.2.1, (u388.2.2.1.1.2.2.2.2.1, (u388.2.2.1.1.2.2.2.2.2.1, (u388.2.2.1.1.2.2.2.2.2.2.1, ([], (u388.2.2.1.1.2.2.2.2.2.2.2.1, ()))))))))), ((u389.2.2.1.1.1, (u389.2.2.1.1.2.1, (u389.2.2.1.1.2.2.1, (u389.2.2.1.1.2.2.2.1, (u389.2.2.1.1.2.2.2.2.1, (u389.2.2.1.1.2.2.2.2.2.1, (u389.2.2.1.1.2.2.2.2.2.2.1, ([], (u389.2.2.1.1.2.2.2.2.2.2.2.1, ()))))))))), ())), ())).bind fun u391 =>
bif (!u391.1.1) then (some ((true, (v.1.2.1, (v.1.2.2.1, (v.1.2.2.2.1, (v.1.2.2.2.2.1, (v.1.2.2.2.2.2.1, (v.1.2.2.2.2.2.2.1, (v.1.2.2.2.2.2.2.2.1, (v.1.2.2.2.2.2.2.2.2.1, (v.1.2.2.2.2.2.2.2.2.2.1, (v.1.1, ()))))))))))), ((v.2.1.1, ()), (v.2.2.1, ((v.2.2.2.1.1, ()), ((v.2.2.2.2.1.1, ()), (v.2.2.2.2.2.1, (v.2.2.2.2.2.2.1, ()))))))))
else ((m36 ((v.1.2.1, (v.2.1.1, (e387, ()))), ())).bind fun u392 =>
(m37 ((v.1.2.1, (v.2.1.1, (e387, ()))), ())).bind fun u393 =>
(m31 ((u392.2.1.1, (u393.2.1.1, ())), ())).bind fun u394 =>
bif (!u394.1.1) then (some ((true, (v.1.2.1, (v.1.2.2.1, (v.1.2.2.2.1, (v.1.2.2.2.2.1, (v.1.2.2.2.2.2.1, (v.1.2.2.2.2.2.2.1, (v.1.2.2.2.2.2.2.2.1, (v.1.2.2.2.2.2.2.2.2.1, (v.1.2.2.2.2.2.2.2.2.2.1, (v.1.1, ()))))))))))), ((v.2.1.1, ()), (v.2.2.1, ((v.2.2.2.1.1, ()), ((v.2.2.2.2.1.1, ()), (v.2.2.2.2.2.1, (v.2.2.2.2.2.2.1, ()))))))))
else ((m21 ((v.2.1.1, (e387.2.2.2.2.1, (e387.2.2.2.2.2.1, ()))), ())).bind fun u395 =>
(m38 ((v.2.1.1, (e387.2.2.2.2.1, (e387.2.2.2.2.2.1, ()))), ())).bind fun u396 =>
some (((!(u395.1.1 == u396.1.1)), (v.1.2.1, (v.1.2.2.1, (v.1.2.2.2.1, (v.1.2.2.2.2.1, (v.1.2.2.2.2.2.1, (v.1.2.2.2.2.2.2.1, (v.1.2.2.2.2.2.2.2.1, (v.1.2.2.2.2.2.2.2.2.1, (v.1.2.2.2.2.2.2.2.2.2.1, (v.1.1, ()))))))))))), ((v.2.1.1, ()), (v.2.2.1, ((v.2.2.2.1.1, ()), ((v.2.2.2.2.1.1, ()), (v.2.2.2.2.2.1, (v.2.2.2.2.2.2.1, ())))))))))))) : Option ((Bool × Int × Int × Int × Int × Int × Int × Int × Int × Int × Int × Unit) × ((Y5 × Unit) × (List Y7) × (Y7 × Unit) × Y13 × (List Int) × (List Y5) × Unit))).bind fun v397 =>
bif v397.1.1 then (some (.inr (.inl ((false, ()), ()))))
else (some (.inl (((w64 (v397.1.2.2.2.2.2.2.2.2.2.2.1 + 1)), (v397.1.2.1, (v397.1.2.2.1, (v397.1.2.2.2.1, (v397.1.2.2.2.2.1, (v397.1.2.2.2.2.2.1, (v397.1.2.2.2.2.2.2.1, (v397.1.2.2.2.2.2.2.2.1, (v397.1.2.2.2.2.2.2.2.2.1, (v397.1.2.2.2.2.2.2.2.2.2.1, ())))))))))), ((v397.2.1.1, ()), (v397.2.2.1, ((v397.2.2.2.1.1, ()), ((v397.2.2.2.2.1.1, ()), (v397.2.2.2.2.2.1, (v397.2.2.2.2.2.2.1, ())))))))))
else none)
else (some (.inr (.inr ((v.1.2.2.1, (v.1.2.2.2.1, (v.1.2.2.2.2.1, (v.1.2.2.2.2.2.1, (v.1.2.2.2.2.2.2.1, (v.1.2.2.2.2.2.2.2.1, (v.1.2.2.2.2.2.2.2.2.1, (v.1.2.1, ())))))))), ((v.2.1.1, ()), ((v.2.2.2.1.1, ()), ((v.2.2.2.2.1.1, ()), (v.2.2.2.2.2.1, (v.2.2.2.2.2.2.1, ())))))))))

end
end Go.Proofs.Ytfbikpbejkgegaa
