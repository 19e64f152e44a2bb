/- Lemmas for the statement of the last text of this claim. -/
import Derived.Test.YtfbikpbejkgegaaGreatChecked
import Derived.Test.YtfbikpbejkgegaaGreatPxM
import Derived.WalkKit
import Derived.ProofKit
import Derived.Deep.RegionLaw
import Derived.Deep.LoopGhost
import Derived.Lib.Walk
import Derived.Maps.Own
import Derived.Shelf.RegionOpenPlain
import Derived.Lib.LazyBuf
import Derived.Test.YtfbikpbejkgegaaGreatPxK
import Derived.Test.YtfbikpbejkgegaaGreatV3A
set_option linter.unusedSimpArgs false
set_option linter.unusedVariables false
namespace Go.Proofs.YtfbikpbejkgegaaGreat
open Go Go.Abs
noncomputable section
abbrev Y10 : Type := (Int × Int × Int × Int × Int × Int × Int × Int × Int × (Int × Int × Int × Int × Int × Int × Unit) × (Int × Int × Int × Int × Int × Unit) × Unit)

abbrev Y2 : Type := (List (Int × Y10 × Unit))

abbrev Y8 : Type := (Int × Int × Int × Int × Y2 × Int × (List Bool) × (List Int) × Unit)

abbrev Y9 : Type := (Int × Int × Int × Int × Int × Int × Int × Y2 × Bool × Unit)

abbrev Y5 : Type := ((List Y8) × (List Y9) × (List Bool) × (List (Int × Int × Unit)) × Unit)

abbrev Z11 : Abs.Ty := (.cons (.int .i64) (.cons (.int .i64) .unit))

abbrev Z6 : Abs.Ty := (.cons (.int .i64) (.cons (.int .i64) (.cons (.int .i64) (.cons (.int .i64) (.cons (.int .i64) (.cons (.int .i64) (.cons (.int .i64) (.cons (.int .i64) (.cons (.int .i64) (.cons (.cons (.int .i64) (.cons (.int .i64) (.cons (.int .i64) (.cons (.int .i64) Z11)))) (.cons (.cons (.int .i64) (.cons (.int .i64) (.cons (.int .i64) Z11))) .unit)))))))))))

abbrev Z1 : Abs.Ty := (.cons (.int .i64) (.cons Z6 .unit))

abbrev Z3 : Abs.Ty := (.cons (.int .i64) (.cons (.int .i64) (.cons (.int .i64) (.cons (.int .i64) (.cons (.row Z1) (.cons (.int .i64) (.cons (.row .bool) (.cons (.row (.int .i64)) .unit))))))))

abbrev Z4 : Abs.Ty := (.cons (.int .i64) (.cons (.int .i64) (.cons (.int .i64) (.cons (.int .i64) (.cons (.int .i64) (.cons (.int .i64) (.cons (.int .i64) (.cons (.row Z1) (.cons .bool .unit)))))))))

abbrev Z7 : Abs.Ty := (.cons (.row Z3) (.cons (.row Z4) (.cons (.row .bool) (.cons (.row Z11) .unit))))

abbrev Y12 : Type := ((Int × Int × Int × Int × Int × Unit) × Unit)

abbrev Y13 : Type := (((Unit) × Unit) × (List Y8) × (List Y9) × (List Bool) × (List (Int × Int × Unit)) × Unit)

abbrev Y14 : Type := (((Unit) × Unit) × ((Unit) × Unit) × (List Y8) × (List Y9) × (List Bool) × (List (Int × Int × Unit)) × Unit)

abbrev Y15 : Type := ((Bool × Unit) × (Unit))

abbrev Z16 : Abs.Ty := (.cons (.row (.int .i64)) (.cons (.int .i64) .unit))

abbrev Y17 : Type := ((Int × Int × Int × Int × Int × Int × Int × Bool × Unit) × Unit)

abbrev Y18 : Type := (((List Int) × Int × Unit) × Unit)

abbrev Y19 : Type := (Y12 × Y12 × Y2 × (List Bool) × (List Int) × Unit)

abbrev Y20 : Type := ((Y5 × Int × Unit) × (Unit))

abbrev Qs1 : Abs.Sh := (.agg (.dat (.int .i64) (.dat (.int .i64) (.dat (.int .i64) (.dat (.int .i64) (.st .nil (.dat (.int .i64) (.st .nil (.st .nil .nil)))))))) .nil)

abbrev Qb2 : Abs.Bks := (.box 4 (.agg (.st (.own Z3 (1, 0)) (.st (.own Z4 (2, 0)) (.st (.own .bool (3, 0)) (.st (.own Z11 (4, 0)) .nil)))) .nil) (.arr Z3 false (.arr Z4 false (.arr .bool false (.arr Z11 false .nil)))))

abbrev Qs3 : Abs.Sh := (.dat (.int .i64) .nil)

abbrev Qs4 : Abs.Sh := (.agg (.dat (.int .i64) (.dat (.int .i64) (.dat (.int .i64) (.dat (.int .i64) (.st (.own Z1 (2, 0)) (.dat (.int .i64) (.st (.own .bool (3, 0)) (.st (.own (.int .i64) (4, 0)) .nil)))))))) .nil)

abbrev Qs7 : Abs.Sh := (.agg (.st .nil (.st .nil (.st .nil (.st .nil .nil)))) .nil)

abbrev Qb6 : Abs.Bks := (.box 4 (.agg (.st (.own Z3 (2, 0)) (.st (.own Z4 (3, 0)) (.st (.own .bool (4, 0)) (.st (.own Z11 (5, 0)) .nil)))) .nil) (.box 4 Qs7 (.arr Z3 false (.arr Z4 false (.arr .bool false (.arr Z11 false .nil))))))

abbrev Qx9 : Abs.Stt := (.ptr (0, 0) 4 0 0)

abbrev Qx10 : Abs.Stt := (.ptr (0, 0) 8 0 0)

abbrev Qs12 : Abs.Sh := (.dat .bool .nil)

abbrev Qs5 : Abs.Sh := (.agg (.dat (.int .i64) (.dat (.int .i64) (.dat (.int .i64) (.dat (.int .i64) (.dat (.int .i64) (.dat (.int .i64) (.dat (.int .i64) (.st .nil Qs12)))))))) .nil)

abbrev Qs13 : Abs.Sh := (.dat (.int .i64) Qs3)

abbrev Qb18 : Abs.Bks := (.box 4 Qs7 (.box 4 (.agg (.st (.own Z3 (2, 0)) (.st (.own Z4 (3, 0)) (.st (.own .bool (4, 0)) (.st (.own Z11 (5, 0)) .nil)))) .nil) (.arr Z3 false (.arr Z4 false (.arr .bool false (.arr Z11 false .nil))))))

abbrev Qx20 : Abs.Stt := (.ptr (1, 0) 8 0 0)

abbrev Qs21 : Abs.Sh := (.dat Z3 .nil)

abbrev Qb14 : Abs.Bks := (.box 8 Qs21 .nil)

abbrev Qx23 : Abs.Stt := (.ptr (1, 0) 4 0 0)

abbrev Qs17 : Abs.Sh := (.st Qx9 (.st Qx23 .nil))

abbrev Qs24 : Abs.Sh := (.agg (.dat (.int .i64) (.dat (.int .i64) (.dat (.int .i64) (.dat (.int .i64) (.st (.own Z1 (5, 0)) (.dat (.int .i64) (.st (.own .bool (6, 0)) (.st (.own (.int .i64) (7, 0)) .nil)))))))) .nil)

abbrev Qs25 : Abs.Sh := (.agg (.dat (.int .i64) (.dat (.int .i64) (.dat (.int .i64) (.dat (.int .i64) (.st (.own Z1 (3, 0)) (.dat (.int .i64) (.st (.own .bool (4, 0)) (.st .nil .nil)))))))) .nil)

abbrev Qs26 : Abs.Sh := (.dat Z7 .nil)

abbrev Qb11 : Abs.Bks := (.box 4 Qs26 .nil)

abbrev Qs27 : Abs.Sh := (.dat Z16 .nil)

abbrev Qb28 : Abs.Bks := (.box 8 Qs21 (.box 9 (.dat Z4 .nil) .nil))

abbrev Qs29 : Abs.Sh := (.dat (.int .i64) (.dat (.int .i64) Qs13))

abbrev Qs30 : Abs.Sh := (.dat (.int .i64) (.dat Z3 (.dat Z4 .nil)))

abbrev Qs31 : Abs.Sh := (.agg (.st (.own Z3 (2, 0)) (.st .nil (.st (.own .bool (3, 0)) (.st .nil .nil)))) .nil)

abbrev Qs32 : Abs.Sh := (.dat .bool (.st Qx10 (.st Qx20 (.dat (.int .i64) (.st (.ptr (2, 0) 9 0 0) .nil)))))

abbrev Qx33 : Abs.Stt := (.ptr (2, 0) 4 0 0)

abbrev Qx34 : Abs.Stt := (.ptr (0, 0) 2 0 0)

abbrev Qx35 : Abs.Stt := (.ptr (1, 0) 9 0 0)

abbrev Qb36 : Abs.Bks := (.arr .bool false .nil)

abbrev Qb15 : Abs.Bks := (.box 4 (.agg (.st (.own Z3 (1, 0)) (.st (.own Z4 (2, 0)) (.st (.own .bool (3, 0)) (.st .nil .nil)))) .nil) (.arr Z3 false (.arr Z4 false Qb36)))

abbrev Qs37 : Abs.Sh := (.dat (.int .i64) Qs21)

abbrev Qx38 : Abs.Stt := (.ptr (2, 0) 8 0 0)

abbrev Qs22 : Abs.Sh := (.st Qx10 (.st Qx35 (.st Qx38 (.st (.ptr (3, 0) 8 0 0) (.st (.ptr (4, 0) 9 0 0) .nil)))))

abbrev Qb39 : Abs.Bks := (.arr Z6 false .nil)

abbrev Qs41 : Abs.Sh := (.st Qx10 (.st Qx20 .nil))

abbrev Qs42 : Abs.Sh := (.dat (.row (.int .i64)) .nil)

abbrev Qb43 : Abs.Bks := (.arr (.int .i64) false .nil)

abbrev Qb8 : Abs.Bks := (.arr Z1 false (.arr .bool false Qb43))

abbrev Qb16 : Abs.Bks := (.box 8 Qs1 (.box 8 (.agg (.dat (.int .i64) (.dat (.int .i64) (.dat (.int .i64) (.dat (.int .i64) (.st (.own Z1 (3, 0)) (.dat (.int .i64) (.st (.own .bool (4, 0)) (.st (.own (.int .i64) (5, 0)) .nil)))))))) .nil) (.box 9 (.dat Z4 .nil) Qb8)))

abbrev Qb19 : Abs.Bks := (.box 8 (.agg (.dat (.int .i64) (.dat (.int .i64) (.dat (.int .i64) (.dat (.int .i64) (.st (.own Z1 (1, 0)) (.dat (.int .i64) (.st (.own .bool (2, 0)) (.st (.own (.int .i64) (3, 0)) .nil)))))))) .nil) Qb8)

abbrev Qb40 : Abs.Bks := (.box 8 Qs4 (.box 8 Qs1 Qb8))

abbrev Qs44 : Abs.Sh := (.st (.own Z6 (0, 0)) .nil)

def note : FuncId → Abs.Note
  | 2 => ⟨true, [], false, fun _ => []⟩
  | 3 => ⟨true, [0, 2, 3, 4, 5, 6, 7, 8, 9, 10, 11, 12, 13, 14, 17, 29, 36, 58, 63, 96, 99, 123], false, fun | 13 => [(4, 12), (7, 12), (9, 12)] | _ => []⟩
  | 4 => ⟨true, [0, 2, 3, 4, 5, 6, 7, 8, 9, 10, 11, 12, 13, 14, 15, 16, 19, 28, 42, 51, 63], false, fun _ => []⟩
  | 5 => ⟨true, [0, 1, 2, 3, 4, 9, 10, 11, 12, 14, 16, 17, 18, 19, 20, 21, 22, 23, 24, 25, 26, 27, 28, 29, 30, 31, 32, 35, 45, 46, 47, 48, 55, 56, 57, 58, 229, 230, 231, 257, 300], false, fun | 5 => [(0, 3)] | 46 => [(10, 11), (17, 18), (25, 26)] | _ => []⟩
  | 6 => ⟨true, [0, 2], false, fun _ => []⟩
  | 7 => ⟨true, [0, 1, 2, 3, 4, 5, 6, 7, 8, 36], false, fun _ => []⟩
  | 8 => ⟨true, [0, 2], false, fun _ => []⟩
  | 9 => ⟨true, [0, 1, 2, 3, 6], false, fun _ => []⟩
  | 10 => ⟨true, [0, 1, 4, 5, 7, 17, 33], false, fun | 3 => [(0, 5)] | _ => []⟩
  | 11 => ⟨true, [0, 1, 2, 3, 6], false, fun _ => []⟩
  | 12 => ⟨true, [0, 1, 2, 6], false, fun _ => []⟩
  | 13 => ⟨true, [0, 2, 5], false, fun _ => []⟩
  | 14 => ⟨true, [0, 1, 2, 4, 5, 6, 7, 12, 25, 30, 31, 38], false, fun _ => []⟩
  | 15 => ⟨true, [0, 1, 2, 3, 4, 5, 6, 7, 8, 27, 30, 50, 55, 83, 88, 122], false, fun _ => []⟩
  | 16 => ⟨true, [0, 1, 4, 5, 10, 14, 25], false, fun _ => []⟩
  | 17 => ⟨true, [0, 1, 4, 5, 19, 40], false, fun _ => []⟩
  | 18 => ⟨true, [0, 1, 2, 4, 5, 6, 7, 12, 19], false, fun _ => []⟩
  | 19 => ⟨true, [0, 1, 2, 3, 6, 7, 8, 9, 14, 17, 26, 31], false, fun _ => []⟩
  | 20 => ⟨true, [0, 1, 2, 4, 5, 6, 14], false, fun _ => []⟩
  | 21 => ⟨true, [0, 1, 2, 4, 5, 6, 14], false, fun _ => []⟩
  | 22 => ⟨true, [0, 1, 2, 4, 5, 6, 7, 15], false, fun _ => []⟩
  | 23 => ⟨true, [0, 1, 2, 3, 4, 5, 6, 7, 40, 45, 59, 64, 77, 82, 95], false, fun _ => []⟩
  | 24 => ⟨true, [0, 1, 2, 3, 4], false, fun _ => []⟩
  | 25 => ⟨true, [0, 1, 3, 4, 5, 9, 10, 17, 30, 42, 55, 61], false, fun | 6 => [(1, 3), (1, 5), (1, 8)] | 8 => [(1, 3), (1, 5), (1, 7)] | 10 => [(1, 6), (1, 8)] | 14 => [(1, 3)] | _ => []⟩
  | 26 => ⟨true, [0, 1, 2], true, fun _ => []⟩
  | 27 => ⟨true, [0, 1, 2, 3], true, fun | 1 => [(0, 7), (1, 7), (3, 7), (0, 8)] | _ => []⟩
  | 28 => ⟨true, [0, 1, 2, 4, 5, 6, 7, 8, 9, 14, 33], false, fun | 5 => [(1, 13), (4, 13), (7, 13), (8, 13)] | _ => []⟩
  | 29 => ⟨true, [0, 1, 2, 4, 5, 6, 7, 8, 9, 10, 15, 22, 40, 49], false, fun | 7 => [(1, 13), (4, 13), (7, 13), (8, 13)] | 12 => [(1, 7), (3, 7)] | _ => []⟩
  | 30 => ⟨true, [0, 1, 2, 3, 5, 6, 7, 8, 9, 10, 15, 34], false, fun | 5 => [(1, 13), (4, 13), (7, 13), (8, 13), (9, 13)] | _ => []⟩
  | 31 => ⟨true, [0, 1, 2, 3, 5, 6, 7, 8, 9, 10, 11, 16, 23, 41], false, fun | 7 => [(1, 13), (4, 13), (7, 13), (8, 13), (9, 13)] | _ => []⟩
  | 32 => ⟨true, [0, 1, 2, 4, 5, 6, 11, 20], false, fun | 7 => [(0, 9)] | _ => []⟩
  | 33 => ⟨true, [0, 1, 2, 4, 5, 6, 7, 8, 13, 20, 28, 47], false, fun _ => []⟩
  | 34 => ⟨true, [0, 1, 2, 4, 5, 6, 7, 8, 9, 10, 11, 12, 20, 43, 55, 56, 66, 72, 82, 94], false, fun | 7 => [(1, 9), (4, 9), (6, 9), (8, 9)] | _ => []⟩
  | 35 => ⟨true, [0, 1, 2, 4, 5, 6, 7, 12], false, fun | 5 => [(4, 6)] | _ => []⟩
  | 36 => ⟨true, [0, 1, 2, 4, 5, 6, 7, 12, 18], false, fun | 7 => [(1, 3), (1, 8)] | _ => []⟩
  | 37 => ⟨true, [0, 1, 2, 4, 5, 6, 14, 21], false, fun _ => []⟩
  | 38 => ⟨true, [0, 1, 2, 4, 5, 6, 14, 22], false, fun | 8 => [(1, 11)] | _ => []⟩
  | 39 => ⟨true, [0, 1, 2, 4, 5, 6, 7, 12, 20], false, fun | 8 => [(1, 11)] | _ => []⟩
  | 40 => ⟨true, [0, 1, 2, 3, 6, 7, 8, 9, 19, 29, 37, 42], false, fun _ => []⟩
  | 41 => ⟨true, [0, 1, 2, 4, 5, 6, 7, 8, 13, 26, 41], false, fun _ => []⟩
  | 42 => ⟨true, [0, 1, 2, 3, 4, 5, 6, 7, 10, 12, 13, 14, 15, 44], false, fun _ => []⟩
  | 43 => ⟨true, [0, 1, 2, 3, 4, 5, 6, 7, 16, 49], false, fun _ => []⟩
  | 44 => ⟨true, [0, 1, 2, 3, 4, 5, 7, 8, 9, 28, 30, 31, 32, 33, 46, 49, 50, 51, 52, 75, 78, 79, 80, 81, 109], false, fun _ => []⟩
  | 45 => ⟨true, [0, 1, 2, 5], false, fun _ => []⟩
  | 46 => ⟨true, [0, 1, 4, 5, 10, 14, 25], false, fun _ => []⟩
  | 47 => ⟨true, [0, 1, 2, 3, 5, 6, 9, 11, 12, 13, 14, 23], false, fun _ => []⟩
  | 48 => ⟨true, [0, 1, 2, 3, 4, 5, 14, 27], false, fun _ => []⟩
  | 49 => ⟨true, [0, 2, 3, 4, 5, 6, 10, 15, 16, 17], false, fun _ => []⟩
  | 50 => ⟨true, [0, 2, 3, 4, 5, 6, 10, 17], false, fun _ => []⟩
  | 51 => ⟨true, [0, 1, 2, 3, 4, 5, 6, 11, 29], false, fun | 5 => [(1, 7), (1, 8)] | 12 => [(2, 4)] | _ => []⟩
  | 52 => ⟨true, [0, 1, 4], false, fun _ => []⟩
  | 53 => ⟨true, [0, 1, 3, 4, 5, 6, 7, 8, 9, 10, 26, 35, 38, 39, 47, 60, 69, 82, 90, 98, 106, 118, 124, 137], false, fun | 14 => [(0, 3)] | 32 => [(0, 5)] | 36 => [(0, 6)] | _ => []⟩
  | 54 => ⟨true, [0, 1, 2, 6], false, fun _ => []⟩
  | 55 => ⟨true, [0, 1, 2, 4, 5, 13, 19], false, fun _ => []⟩
  | 56 => ⟨true, [0, 1, 2, 3, 4, 23, 24, 25, 40, 41, 42], false, fun | 1 => [(2, 4), (2, 7), (5, 7), (2, 10), (5, 10), (8, 10)] | 5 => [(1, 8)] | 10 => [(1, 9)] | _ => []⟩
  | 57 => ⟨true, [0, 1, 2, 6], true, fun _ => []⟩
  | 58 => ⟨true, [0, 1, 3, 4, 5, 6, 7, 8, 17, 19, 20, 21, 22, 29, 45], false, fun | 8 => [(1, 12), (4, 12), (7, 12), (1, 14), (4, 14), (7, 14), (9, 14), (12, 14)] | _ => []⟩
  | 59 => ⟨true, [0, 1, 3, 4, 5, 47, 49, 50, 62, 83, 117, 120, 132], false, fun _ => []⟩
  | 60 => ⟨true, [0, 1, 2, 6, 7, 11, 25], false, fun _ => []⟩
  | 61 => ⟨true, [0, 1, 2, 4, 5, 9], false, fun _ => []⟩
  | 62 => ⟨true, [0, 1, 2, 3, 6, 9, 14], false, fun _ => []⟩
  | 63 => ⟨true, [0, 1, 2, 4, 5, 6, 7, 8, 9, 10, 55, 79], true, fun | 3 => [(0, 2)] | 6 => [(2, 16), (5, 16), (7, 16), (9, 16), (10, 16), (11, 16), (2, 17), (5, 17), (7, 17), (9, 17), (10, 17), (11, 17), (16, 17)] | _ => []⟩
  | 64 => ⟨true, [0, 1, 2, 6, 7, 16], true, fun _ => []⟩
  | 65 => ⟨true, [0, 2, 4], false, fun _ => []⟩
  | 66 => ⟨true, [0, 1, 2, 4, 5, 12], true, fun _ => []⟩
  | 67 => ⟨true, [0, 1, 4, 5, 10, 14, 26], false, fun _ => []⟩
  | 68 => ⟨true, [0, 1, 2, 3, 4, 5, 12, 17, 30], false, fun _ => []⟩
  | 69 => ⟨true, [0, 1, 3, 4, 5, 6, 7, 8, 12, 16, 37, 38, 39, 44], false, fun | 7 => [(1, 3), (3, 5), (3, 7)] | 14 => [(2, 10), (5, 10), (7, 10)] | _ => []⟩
  | 70 => ⟨true, [0, 1, 3, 4, 5, 6, 7, 8, 9, 13, 17, 40, 46, 52], false, fun | 6 => [(4, 6), (4, 8)] | 16 => [(2, 10), (5, 10), (7, 10)] | _ => []⟩
  | 71 => ⟨true, [0, 1, 2, 4, 5, 6, 7, 8, 14, 19, 25, 52], false, fun _ => []⟩
  | 72 => ⟨true, [0, 1, 2, 4, 5, 6, 7, 8, 9, 13, 17, 23, 35, 40, 63], false, fun _ => []⟩
  | 73 => ⟨true, [0, 1, 3, 4, 5, 6, 7, 8, 17, 20, 26, 47], false, fun | 9 => [(1, 12), (4, 12), (7, 12), (1, 14), (4, 14), (7, 14), (9, 14), (12, 14)] | _ => []⟩
  | 74 => ⟨true, [0, 1, 2, 4, 5, 6, 7, 8, 9, 10, 15, 54], false, fun | 3 => [(1, 3), (0, 5), (1, 5), (3, 5), (4, 5)] | 7 => [(2, 9), (4, 9), (6, 9)] | _ => []⟩
  | 75 => ⟨true, [0, 1, 2, 4, 5, 6, 7, 8, 9, 16, 22, 41, 50, 57, 63], false, fun _ => []⟩
  | 76 => ⟨true, [0, 1, 2, 4, 5, 6, 7, 8, 9, 10, 11, 12, 13, 14, 34, 52, 99, 122], false, fun | 3 => [(1, 3), (0, 5), (1, 5), (3, 5), (4, 5)] | 9 => [(1, 2)] | 17 => [(1, 2)] | _ => []⟩
  | 77 => ⟨true, [0, 1, 2, 4, 5, 6, 7, 8, 9, 10, 17, 23, 51, 73, 78, 87, 105], false, fun _ => []⟩
  | 78 => ⟨true, [0, 1, 2, 4, 5, 9], false, fun _ => []⟩
  | 79 => ⟨true, [0, 1, 3, 4, 5, 9], false, fun _ => []⟩
  | 80 => ⟨true, [0, 1, 3, 4, 5, 6, 10], false, fun _ => []⟩
  | 81 => ⟨true, [0, 1, 3, 4], false, fun _ => []⟩
  | 82 => ⟨true, [0, 1, 2, 3, 4, 8, 15], false, fun _ => []⟩
  | 83 => ⟨true, [0, 1, 2, 6], false, fun _ => []⟩
  | 84 => ⟨true, [0, 1, 3, 4, 34, 36, 37, 49, 60], false, fun _ => []⟩
  | 85 => ⟨true, [0, 1, 2, 3, 5, 15, 16, 17, 18], false, fun _ => []⟩
  | 86 => ⟨true, [0, 1, 2, 3, 4, 15], false, fun _ => []⟩
  | 87 => ⟨true, [0, 1, 4, 5, 15], false, fun _ => []⟩
  | 88 => ⟨true, [0, 1, 4, 5, 15], false, fun _ => []⟩
  | 89 => ⟨true, [0, 1, 2], false, fun | 1 => [(2, 4), (2, 7), (5, 7)] | _ => []⟩
  | 90 => ⟨true, [0, 2, 4], false, fun _ => []⟩
  | 91 => ⟨true, [0, 2, 4], false, fun _ => []⟩
  | 92 => ⟨true, [0, 2, 4], false, fun _ => []⟩
  | 93 => ⟨true, [0, 2, 4], false, fun _ => []⟩
  | 94 => ⟨true, [0, 1, 2], false, fun | 1 => [(2, 4), (2, 7), (5, 7)] | _ => []⟩
  | 95 => ⟨true, [0, 1, 4, 5, 6, 10, 28], false, fun _ => []⟩
  | 96 => ⟨true, [0, 1], false, fun _ => []⟩
  | 97 => ⟨true, [0, 1, 4, 5, 10, 14, 25], false, fun _ => []⟩
  | 98 => ⟨true, [0, 1, 2, 6], false, fun _ => []⟩
  | 99 => ⟨true, [0, 1, 3, 4, 5, 7, 9, 10, 11, 12, 15, 22], false, fun | 9 => [(1, 3)] | _ => []⟩
  | 100 => ⟨true, [0, 1, 3, 4], false, fun | 1 => [(1, 3)] | _ => []⟩
  | 101 => ⟨true, [0, 1, 4], false, fun _ => []⟩
  | 102 => ⟨true, [0, 1, 2, 3], true, fun _ => []⟩
  | 103 => ⟨true, [0, 2, 5], false, fun _ => []⟩
  | 104 => ⟨true, [0, 1, 2, 3, 5, 6, 8], false, fun _ => []⟩
  | 105 => ⟨true, [0, 1, 2, 4, 8], false, fun _ => []⟩
  | 106 => ⟨true, [0, 1, 2, 6, 7, 8, 9, 13, 35], false, fun _ => []⟩
  | 107 => ⟨true, [0, 1, 3, 4, 5, 7, 8, 9, 16], false, fun _ => []⟩
  | 108 => ⟨true, [0, 1, 2, 6], false, fun _ => []⟩
  | 109 => ⟨true, [0, 1, 2, 3, 5, 7, 8, 9, 10, 19], false, fun _ => []⟩
  | 110 => ⟨true, [0, 1, 3, 4], false, fun _ => []⟩
  | 111 => ⟨true, [0, 1, 3, 4], false, fun _ => []⟩
  | 112 => ⟨true, [0, 2, 4], false, fun _ => []⟩
  | 113 => ⟨true, [0, 1, 2], true, fun _ => []⟩
  | 114 => ⟨true, [0, 1, 2, 3, 5, 6, 7, 8, 9], true, fun _ => []⟩
  | 115 => ⟨true, [0, 1, 2, 4, 5, 6, 7, 8, 9, 16, 53], false, fun | 8 => [(2, 9), (4, 9), (6, 9)] | _ => []⟩
  | 116 => ⟨true, [0, 1, 2, 4, 5, 6, 13, 19, 38], false, fun _ => []⟩
  | 117 => ⟨true, [0, 1, 2, 4, 5, 6, 7, 8, 9, 10, 11, 12, 34, 51, 64, 74], false, fun | 4 => [(1, 3)] | 9 => [(1, 2)] | 14 => [(4, 10), (6, 10)] | 15 => [(1, 2)] | _ => []⟩
  | 118 => ⟨true, [0, 1, 2, 4, 5, 6, 7, 8, 10, 17, 23, 55, 77, 81, 82, 83, 84, 89, 108], false, fun _ => []⟩
  | 119 => ⟨true, [0, 1, 4, 5, 7, 8, 9, 16], false, fun _ => []⟩
  | 120 => ⟨true, [0, 1, 4], false, fun _ => []⟩
  | 121 => ⟨true, [0, 1, 3], true, fun _ => []⟩
  | 122 => ⟨true, [0, 1, 2, 3, 5, 6, 8], false, fun _ => []⟩
  | 123 => ⟨true, [0, 1, 2, 4, 9], false, fun _ => []⟩
  | 124 => ⟨true, [0, 1, 2, 3, 6], false, fun _ => []⟩
  | 125 => ⟨true, [0, 1, 2, 3, 4], false, fun _ => []⟩
  | 126 => ⟨true, [0, 1, 2, 3, 4, 5, 6, 7, 8, 9, 11, 44, 51, 68, 69, 70, 71, 84], false, fun | 7 => [(4, 6)] | _ => []⟩
  | 127 => ⟨true, [0, 1, 4, 5, 7, 8, 9, 16], false, fun _ => []⟩
  | _ => ⟨false, [], false, fun _ => []⟩

theorem good : Abs.Good Tryz.prog note := Abs.good_of (by kernel_rfl)

theorem foll : (Tryz.prog).follows .mixedOrders = true := by kernel_rfl

def mvtab (f : FuncId) : Bool := [57].contains f

def ctab : FuncId → Option Abs.SCall := Abs.ctabOf [(64, Abs.delS Z4), (96, Abs.fmS [(1, 115, []), (2, 114, [116]), (3, 117, []), (4, 114, [118])])]

theorem ctab_ok : ∀ f q, ctab f = some q → Abs.CallOK Tryz.prog f q := Abs.ctabOf_ok _ (by
  intro p hp
  simp only [List.mem_cons, List.not_mem_nil, or_false] at hp
  rcases hp with rfl | rfl
  · exact hand64 Z4 rfl
  · exact hand96
)

theorem okW {l : List (FuncId × Abs.Spec)} {an : Nat → Abs.FAn} {f : FuncId} {sp : Abs.Spec} (hl : ∀ p ∈ l, Abs.SpecOK Tryz.prog p.1 p.2) (hon : (note f).on = true) (h : ∀ v, (Abs.bodyC Tryz.prog note ctab mvtab (Abs.tabOf l) an 12 f sp.keep sp.σi sp.σo v).mean = sp.m v) : Abs.SpecOK Tryz.prog f sp :=
  Abs.specOC_of (C := ctab) (mv := mvtab) ctab_ok (n := 12) good foll (Abs.tabOf_ok l hl) hon h

theorem al0 : ∀ p ∈ ([] : List (FuncId × Abs.Spec)), Abs.SpecOK Tryz.prog p.1 p.2 := fun _ h => by cases h

theorem alc {f : FuncId} {sp : Abs.Spec} {l : List (FuncId × Abs.Spec)} (h : Abs.SpecOK Tryz.prog f sp) (t : ∀ p ∈ l, Abs.SpecOK Tryz.prog p.1 p.2) : ∀ p ∈ (f, sp) :: l, Abs.SpecOK Tryz.prog p.1 p.2 := List.forall_mem_cons.2 ⟨h, t⟩

/- pagewatch/pagewatchmade.Light -/
def i6 : Abs.Sg := ⟨[0], Qs42, .nil⟩

def o6 : Abs.Sg := ⟨[2], Qs12, .nil⟩

def m6 (v : (((List Int) × Unit) × (Unit))) : Option Y15 :=
some (((decide (((v.1.1.length : Int) : Int) ≤ 500)), ()), ())

def sp6 : Abs.Spec := ⟨0, i6, o6, m6⟩

def an6 : Nat → Abs.FAn
  | _ => {}

theorem ok6 : Abs.SpecOK Tryz.prog 6 sp6 :=
  okW (an := an6) al0 rfl (by intro v; kernel_rfl)

/- pagewatch/region.in -/
def i83 : Abs.Sg := ⟨[0, 1, 2], (.dat (.int .i64) Qs13), .nil⟩

def o83 : Abs.Sg := ⟨[6], Qs12, .nil⟩

def m83 (v : ((Int × Int × Int × Unit) × (Unit))) : Option Y15 :=
((bif (decide ((v.1.1 : Int) ≥ v.1.2.1)) then (some (((decide ((v.1.1 : Int) ≤ v.1.2.2.1)), ()), ()))
else (some ((false, ()), ()))) : Option Y15).bind fun v1 =>
some ((v1.1.1, ()), ())

def sp83 : Abs.Spec := ⟨0, i83, o83, m83⟩

def an83 : Nat → Abs.FAn
  | 0 => Abs.FAn.mk (fun
    | 1 => some ⟨[6], Qs12, .nil⟩
    | _ => none) (fun _ => none) (fun _ => none) (fun _ _ => 0)
  | _ => {}

theorem ok83 : Abs.SpecOK Tryz.prog 83 sp83 :=
  okW (an := an83) al0 rfl (by intro v; kernel_rfl)

/- pagewatch/vote.in -/
def i108 : Abs.Sg := ⟨[0, 1, 2], (.dat (.int .i64) Qs13), .nil⟩

def o108 : Abs.Sg := ⟨[6], Qs12, .nil⟩

def m108 (v : ((Int × Int × Int × Unit) × (Unit))) : Option Y15 :=
((bif (decide ((v.1.1 : Int) ≥ v.1.2.1)) then (some (((decide ((v.1.1 : Int) ≤ v.1.2.2.1)), ()), ()))
else (some ((false, ()), ()))) : Option Y15).bind fun v1 =>
some ((v1.1.1, ()), ())

def sp108 : Abs.Spec := ⟨0, i108, o108, m108⟩

def an108 : Nat → Abs.FAn
  | 0 => Abs.FAn.mk (fun
    | 1 => some ⟨[6], Qs12, .nil⟩
    | _ => none) (fun _ => none) (fun _ => none) (fun _ _ => 0)
  | _ => {}

theorem ok108 : Abs.SpecOK Tryz.prog 108 sp108 :=
  okW (an := an108) al0 rfl (by intro v; kernel_rfl)

/- pagewatch/vote.New -/
def i87 : Abs.Sg := ⟨[0, 1], Qs13, .nil⟩

def o87 : Abs.Sg := ⟨[4, 5], (.st Qx10 Qs3), (.box 8 Qs1 .nil)⟩

def m87 (v : ((Int × Int × Unit) × (Unit))) : Option ((Int × Unit) × (Y12 × Unit)) :=
(((m108 ((v.1.2.1, (1, (5, ()))), ())).bind fun u11 =>
bif (!u11.1.1) then (some ((true, (v.1.1, ())), (((0, (0, (0, (0, (0, ()))))), ()), ())))
else ((m108 ((v.1.1, (0, ((w64 (v.1.2.1 - 1)), ()))), ())).bind fun u12 =>
some (((!u12.1.1), (v.1.1, ())), (((0, (0, (0, (0, (0, ()))))), ()), ())))) : Option ((Bool × Int × Unit) × (Y12 × Unit))).bind fun v13 =>
bif v13.1.1 then (some ((1, ()), (((0, (0, (0, (0, (0, ()))))), ()), ())))
else (some ((0, ()), (((v13.1.2.1, (0, ((-1), (0, (0, ()))))), ()), ())))

def sp87 : Abs.Spec := ⟨0, i87, o87, m87⟩

def an87 : Nat → Abs.FAn
  | 0 => Abs.FAn.mk (fun
    | 1 => some ⟨[15, 4, 0], (.dat .bool (.st Qx10 Qs3)), (.box 8 Qs1 .nil)⟩
    | _ => none) (fun _ => none) (fun _ => none) (fun _ _ => 0)
  | _ => {}

theorem ok87 : Abs.SpecOK Tryz.prog 87 sp87 :=
  okW (an := an87) (alc ok108 al0) rfl (by intro v; kernel_rfl)

def l49_0_5 (v : ((Int × Int × Int × Unit) × (((Unit) × Unit) × ((Unit) × Unit) × (List Y8) × (List Bool) × Unit))) : Option (((Int × Int × Int × Unit) × (((Unit) × Unit) × ((Unit) × Unit) × (List Y8) × (List Bool) × Unit)) ⊕ ((Unit) × (((Unit) × Unit) × ((Unit) × Unit) × (List Y8) × (List Bool) × Unit))) :=
bif (decide ((v.1.1 : Int) < v.1.2.2.1)) then ((m87 ((v.1.1, (v.1.2.1, ())), ())).bind fun u27 =>
bif (decide (v.2.2.2.1.length + ([(u27.2.1.1.1, (u27.2.1.1.2.1, (u27.2.1.1.2.2.1, (u27.2.1.1.2.2.2.1, ([], (u27.2.1.1.2.2.2.2.1, ([], ([], ()))))))))] : List Y8).length ≤ 4294967296)) then
let x28 := (v.2.2.2.1 ++ ([(u27.2.1.1.1, (u27.2.1.1.2.1, (u27.2.1.1.2.2.1, (u27.2.1.1.2.2.2.1, ([], (u27.2.1.1.2.2.2.2.1, ([], ([], ()))))))))] : List Y8))
some (.inl (((w64 (v.1.1 + 1)), (v.1.2.1, (v.1.2.2.1, ()))), (((), ()), (((), ()), (x28, (v.2.2.2.2.1, ()))))))
else none)
else (some (.inr ((), (((), ()), (((), ()), (v.2.2.2.1, (v.2.2.2.2.1, ())))))))

/- pagewatch/region.New -/
def i49 : Abs.Sg := ⟨[0], Qs3, .nil⟩

def o49 : Abs.Sg := ⟨[2, 3], (.st Qx9 Qs3), (.box 4 (.agg (.st (.own Z3 (1, 0)) (.st .nil (.st (.own .bool (2, 0)) (.st .nil .nil)))) .nil) (.arr Z3 false Qb36))⟩

def m49 (v : ((Int × Unit) × (Unit))) : Option ((Int × Unit) × (((Unit) × Unit) × (List Y8) × (List Bool) × Unit)) :=
(m83 ((v.1.1, (1, (5, ()))), ())).bind fun u26 =>
bif (!u26.1.1) then (some ((1, ()), (((), ()), ([], ([], ())))))
else (bif (decide ((0 : Int) ≤ v.1.1 ∧ (v.1.1 : Int) ≤ v.1.1 ∧ (v.1.1 : Int) ≤ 4294967296)) then
(loopT l49_0_5 ((0, (v.1.1, (v.1.1, ()))), (((), ()), (((), ()), ([], ((List.replicate v.1.1.toNat (false : Bool)), ())))))).bind fun d29 =>
some ((0, ()), (((), ()), (d29.2.2.2.1, (d29.2.2.2.2.1, ()))))
else none)

def sp49 : Abs.Spec := ⟨0, i49, o49, m49⟩

def an49 : Nat → Abs.FAn
  | 0 => Abs.FAn.mk (fun _ => none) (fun _ => none) (fun
    | 5 => some ⟨⟨[16, 4, 0, 2, 15], (.dat (.int .i64) (.st Qx9 (.dat (.int .i64) (.st Qx23 Qs3)))), (.box 4 Qs31 (.box 4 Qs7 (.arr Z3 false Qb36)))⟩, (.one (.exit 0) ⟨[2, 4], Qs17, (.box 4 Qs7 (.box 4 Qs31 (.arr Z3 false Qb36)))⟩)⟩
    | _ => none) (fun _ _ => 0)
  | _ => {}

theorem ok49 : Abs.SpecOK Tryz.prog 49 sp49 :=
  okW (an := an49) (alc ok83 (alc ok87 al0)) rfl (by intro v; kernel_rfl)

def l109_0_3 (v : ((Int × Int × Y2 × Int × Unit) × ((Y8 × Unit) × Unit))) : Option (((Int × Int × Y2 × Int × Unit) × ((Y8 × Unit) × Unit)) ⊕ (Y15 ⊕ ((Unit) × ((Y8 × Unit) × Unit)))) :=
bif (decide ((v.1.1 : Int) < v.1.2.2.2.1)) then (Abs.rowAt v.1.2.2.1 v.1.1 fun e25 _ =>
(m108 ((e25.1, (v.1.2.1, (v.2.1.1.2.1, ()))), ())).bind fun u26 =>
bif (!u26.1.1) then (some (.inr (.inl ((false, ()), ()))))
else (some (.inl (((w64 (v.1.1 + 1)), (e25.1, (v.1.2.2.1, (v.1.2.2.2.1, ())))), ((v.2.1.1, ()), ())))))
else (some (.inr (.inr ((), ((v.2.1.1, ()), ())))))

/- pagewatch/vote.logged -/
def i109 : Abs.Sg := ⟨[0], Qs21, .nil⟩

def o109 : Abs.Sg := ⟨[2], Qs12, .nil⟩

def m109 (v : ((Y8 × Unit) × (Unit))) : Option Y15 :=
(loopT l109_0_3 ((0, (1, (v.1.1.2.2.2.2.1, ((v.1.1.2.2.2.2.1.length : Int), ())))), ((v.1.1, ()), ()))).bind fun d27 =>
sumE d27 (fun d28 => (some ((d28.1.1, ()), ()))) (fun d29 => (((let x30 := (decide (((d29.2.1.1.2.2.2.2.1.length : Int) : Int) ≤ 256))
bif x30 then ((m108 ((d29.2.1.1.2.2.2.2.2.1, (0, ((d29.2.1.1.2.2.2.2.1.length : Int), ()))), ())).bind fun u31 =>
some ((u31.1.1, ()), ()))
else (some ((false, ()), ()))) : Option Y15).bind fun v32 =>
some ((v32.1.1, ()), ())))

def sp109 : Abs.Spec := ⟨0, i109, o109, m109⟩

def an109 : Nat → Abs.FAn
  | 0 => Abs.FAn.mk (fun
    | 9 => some ⟨[2], Qs12, .nil⟩
    | _ => none) (fun _ => none) (fun
    | 3 => some ⟨⟨[9, 1, 3, 7, 8], (.dat (.int .i64) (.st Qx10 (.dat (.int .i64) (.dat (.row Z1) Qs3)))), Qb14⟩, (.more .ret ⟨[2], Qs12, .nil⟩ (.one (.exit 0) ⟨[1], (.st Qx10 .nil), Qb14⟩))⟩
    | _ => none) (fun _ _ => 0)
  | _ => {}

theorem ok109 : Abs.SpecOK Tryz.prog 109 sp109 :=
  okW (an := an109) (alc ok108 al0) rfl (by intro v; kernel_rfl)

/- pagewatch/vote.votes -/
def i110 : Abs.Sg := ⟨[0, 1], Qs37, .nil⟩

def o110 : Abs.Sg := ⟨[4], Qs12, .nil⟩

def m110 (v : ((Int × Y8 × Unit) × (Unit))) : Option Y15 :=
((let x5 := (((v.1.2.1.2.2.2.2.2.2.1.length : Int) : Int) == v.1.1)
bif x5 then (Abs.rowAt v.1.2.1.2.2.2.2.2.2.1 v.1.2.1.1 fun e6 _ =>
some ((e6, ()), ()))
else (some ((false, ()), ()))) : Option Y15).bind fun v7 =>
some ((v7.1.1, ()), ())

def sp110 : Abs.Spec := ⟨0, i110, o110, m110⟩

def an110 : Nat → Abs.FAn
  | 0 => Abs.FAn.mk (fun
    | 1 => some ⟨[4], Qs12, .nil⟩
    | _ => none) (fun _ => none) (fun _ => none) (fun _ _ => 0)
  | _ => {}

theorem ok110 : Abs.SpecOK Tryz.prog 110 sp110 :=
  okW (an := an110) al0 rfl (by intro v; kernel_rfl)

/- 121 pagewatch/vote.matches$1: not told by a law: a closure -/

/- 127 slices.IndexFunc[[]int,int]: not told by a law: a parameter -/

/- 120 slices.ContainsFunc[[]int,int]: not told by a law: a parameter -/

def l111_2_2 (v : ((Int × (List Int) × Int × Unit) × ((Y8 × Unit) × Unit))) : Option (((Int × (List Int) × Int × Unit) × ((Y8 × Unit) × Unit)) ⊕ (((Int × Unit) × ((Y8 × Unit) × Unit)) ⊕ ((Unit) × ((Y8 × Unit) × Unit)))) :=
bif (decide ((v.1.1 : Int) < v.1.2.2.1)) then (Abs.rowAt v.1.2.1 v.1.1 fun e41 _ =>
(m108 ((e41, (0, ((v.2.1.1.2.2.2.2.1.length : Int), ()))), ())).bind fun u42 =>
bif (!u42.1.1) then (some (.inr (.inl ((v.1.1, ()), ((v.2.1.1, ()), ())))))
else (some (.inl (((w64 (v.1.1 + 1)), (v.1.2.1, (v.1.2.2.1, ()))), ((v.2.1.1, ()), ())))))
else (some (.inr (.inr ((), ((v.2.1.1, ()), ())))))

/- pagewatch/vote.matches -/
def i111 : Abs.Sg := ⟨[0, 1], Qs37, .nil⟩

def o111 : Abs.Sg := ⟨[4], Qs12, .nil⟩

def m111 (v : ((Int × Y8 × Unit) × (Unit))) : Option Y15 :=
((let x38 := (((v.1.2.1.2.2.2.2.2.2.2.1.length : Int) : Int) == v.1.1)
bif x38 then (Abs.rowAt v.1.2.1.2.2.2.2.2.2.2.1 v.1.2.1.1 fun e39 _ =>
let x40 := ((e39 : Int) == (v.1.2.1.2.2.2.2.1.length : Int))
bif x40 then ((((loopT l111_2_2 ((0, (v.1.2.1.2.2.2.2.2.2.2.1, ((v.1.2.1.2.2.2.2.2.2.2.1.length : Int), ()))), ((v.1.2.1, ()), ()))).bind fun d43 =>
sumE d43 (fun d44 => (some (((decide ((d44.1.1 : Int) ≥ 0)), ()), ((d44.2.1.1, ()), ())))) (fun d45 => (some ((false, ()), ((d45.2.1.1, ()), ()))))) : Option ((Bool × Unit) × ((Y8 × Unit) × Unit))).bind fun v46 =>
some (((!v46.1.1), ()), ()))
else (some ((false, ()), ())))
else (some ((false, ()), ()))) : Option Y15).bind fun v47 =>
some ((v47.1.1, ()), ())

def sp111 : Abs.Spec := ⟨0, i111, o111, m111⟩

def an111 : Nat → Abs.FAn
  | 0 => Abs.FAn.mk (fun
    | 1 => some ⟨[4], Qs12, .nil⟩
    | _ => none) (fun _ => none) (fun _ => none) (fun
    | 1, 21 => 1
    | _, _ => 0)
  | 1 => Abs.FAn.mk (fun
    | 1 => some ⟨[4], Qs12, Qb14⟩
    | _ => none) (fun _ => none) (fun _ => none) (fun
    | 1, 2 => 2
    | _, _ => 0)
  | 2 => Abs.FAn.mk (fun _ => none) (fun _ => none) (fun
    | 2 => some ⟨⟨[8, 0, 1, 7], (.dat (.int .i64) (.dat (.row (.int .i64)) (.st (.clo 121 [((0, 0), 8, 0, 0)]) Qs3))), Qb14⟩, (.more .ret ⟨[4], Qs3, Qb14⟩ (.one (.exit 0) ⟨[], .nil, Qb14⟩))⟩
    | _ => none) (fun
    | 4, 5 => 3
    | _, _ => 0)
  | _ => {}

theorem ok111 : Abs.SpecOK Tryz.prog 111 sp111 :=
  okW (an := an111) (alc ok108 al0) rfl (by intro v; kernel_rfl)

/- pagewatch/vote.Check -/
def i84 : Abs.Sg := ⟨[0, 1], Qs37, .nil⟩

def o84 : Abs.Sg := ⟨[4], Qs12, .nil⟩

def m84 (v : ((Int × Y8 × Unit) × (Unit))) : Option Y15 :=
(((m108 ((v.1.1, (1, (5, ()))), ())).bind fun u47 =>
bif (!u47.1.1) then (some ((true, (v.1.1, ())), ((v.1.2.1, ()), ())))
else ((m108 ((v.1.2.1.1, (0, ((w64 (v.1.1 - 1)), ()))), ())).bind fun u48 =>
bif (!u48.1.1) then (some ((true, (v.1.1, ())), ((v.1.2.1, ()), ())))
else ((m108 ((v.1.2.1.2.1, (0, (1048576, ()))), ())).bind fun u49 =>
bif (!u49.1.1) then (some ((true, (v.1.1, ())), ((v.1.2.1, ()), ())))
else ((m108 ((v.1.2.1.2.2.1, ((-1), ((w64 (v.1.1 - 1)), ()))), ())).bind fun u50 =>
bif (!u50.1.1) then (some ((true, (v.1.1, ())), ((v.1.2.1, ()), ())))
else ((m109 ((v.1.2.1, ()), ())).bind fun u51 =>
some (((!u51.1.1), (v.1.1, ())), ((v.1.2.1, ()), ()))))))) : Option ((Bool × Int × Unit) × ((Y8 × Unit) × Unit))).bind fun v52 =>
bif v52.1.1 then (some ((false, ()), ()))
else (bif ((v52.2.1.1.2.2.2.1 : Int) == 0) then (((let x53 := (((v52.2.1.1.2.2.2.2.2.2.1.length : Int) : Int) == 0)
bif x53 then (let x54 := (((v52.2.1.1.2.2.2.2.2.2.2.1.length : Int) : Int) == 0)
some ((x54, ()), ()))
else (some ((false, ()), ()))) : Option Y15).bind fun v55 =>
some ((v55.1.1, ()), ()))
else (bif ((v52.2.1.1.2.2.2.1 : Int) == 1) then ((((m110 ((v52.1.2.1, (v52.2.1.1, ())), ())).bind fun u56 =>
bif u56.1.1 then (let x57 := (((v52.2.1.1.2.2.2.2.2.2.2.1.length : Int) : Int) == 0)
some ((x57, ()), ()))
else (some ((false, ()), ()))) : Option Y15).bind fun v58 =>
some ((v58.1.1, ()), ()))
else (bif ((v52.2.1.1.2.2.2.1 : Int) == 2) then ((((m110 ((v52.1.2.1, (v52.2.1.1, ())), ())).bind fun u59 =>
bif u59.1.1 then ((m111 ((v52.1.2.1, (v52.2.1.1, ())), ())).bind fun u60 =>
some ((u60.1.1, ()), ()))
else (some ((false, ()), ()))) : Option Y15).bind fun v61 =>
some ((v61.1.1, ()), ()))
else (some ((false, ()), ())))))

def sp84 : Abs.Spec := ⟨0, i84, o84, m84⟩

def an84 : Nat → Abs.FAn
  | 0 => Abs.FAn.mk (fun
    | 9 => some ⟨[4], Qs12, .nil⟩
    | 7 => some ⟨[4], Qs12, .nil⟩
    | 5 => some ⟨[4], Qs12, .nil⟩
    | 1 => some ⟨[34, 3, 0], (.dat .bool (.st Qx10 Qs3)), Qb14⟩
    | _ => none) (fun _ => none) (fun _ => none) (fun _ _ => 0)
  | _ => {}

theorem ok84 : Abs.SpecOK Tryz.prog 84 sp84 :=
  okW (an := an84) (alc ok108 (alc ok109 (alc ok110 (alc ok111 al0)))) rfl (by intro v; kernel_rfl)

def l107_0_2 (v : ((Int × (List (Int × Int × Unit)) × Int × Unit) × (((Int × Int × Unit) × Unit) × Unit))) : Option (((Int × (List (Int × Int × Unit)) × Int × Unit) × (((Int × Int × Unit) × Unit) × Unit)) ⊕ (((Int × Unit) × (Unit)) ⊕ ((Unit) × (Unit)))) :=
bif (decide ((v.1.1 : Int) < v.1.2.2.1)) then (Abs.rowAt v.1.2.1 v.1.1 fun e19 _ =>
let x20 := (((v.2.1.1.1 : Int) == e19.1) && (((v.2.1.1.2.1 : Int) == e19.2.1) && true))
bif x20 then (some (.inr (.inl ((v.1.1, ()), ()))))
else (some (.inl (((w64 (v.1.1 + 1)), (v.1.2.1, (v.1.2.2.1, ()))), ((v.2.1.1, ()), ())))))
else (some (.inr (.inr ((), ()))))

/- slices.Index[[][2]int,[2]int] -/
def i107 : Abs.Sg := ⟨[0, 1], (.dat (.row Z11) (.dat Z11 .nil)), .nil⟩

def o107 : Abs.Sg := ⟨[4], Qs3, .nil⟩

def m107 (v : (((List (Int × Int × Unit)) × (Int × Int × Unit) × Unit) × (Unit))) : Option ((Int × Unit) × (Unit)) :=
(loopT l107_0_2 ((0, (v.1.1, ((v.1.1.length : Int), ()))), ((v.1.2.1, ()), ()))).bind fun d21 =>
sumE d21 (fun d22 => (some ((d22.1.1, ()), ()))) (fun d23 => (some (((-1), ()), ())))

def sp107 : Abs.Spec := ⟨0, i107, o107, m107⟩

def an107 : Nat → Abs.FAn
  | 0 => Abs.FAn.mk (fun _ => none) (fun _ => none) (fun
    | 2 => some ⟨⟨[8, 0, 3, 7], (.dat (.int .i64) (.dat (.row Z11) (.st Qx34 Qs3))), (.box 2 (.dat Z11 .nil) .nil)⟩, (.more .ret ⟨[4], Qs3, .nil⟩ (.one (.exit 0) ⟨[], .nil, .nil⟩))⟩
    | _ => none) (fun _ _ => 0)
  | _ => {}

theorem ok107 : Abs.SpecOK Tryz.prog 107 sp107 :=
  okW (an := an107) al0 rfl (by intro v; kernel_rfl)

/- slices.Contains[[][2]int,[2]int] -/
def i81 : Abs.Sg := ⟨[0, 1], (.dat (.row Z11) (.dat Z11 .nil)), .nil⟩

def o81 : Abs.Sg := ⟨[4], Qs12, .nil⟩

def m81 (v : (((List (Int × Int × Unit)) × (Int × Int × Unit) × Unit) × (Unit))) : Option Y15 :=
(m107 ((v.1.1, (v.1.2.1, ())), ())).bind fun u2 =>
some (((decide ((u2.1.1 : Int) ≥ 0)), ()), ())

def sp81 : Abs.Spec := ⟨0, i81, o81, m81⟩

def an81 : Nat → Abs.FAn
  | _ => {}

theorem ok81 : Abs.SpecOK Tryz.prog 81 sp81 :=
  okW (an := an81) (alc ok107 al0) rfl (by intro v; kernel_rfl)

def l44_0_5 (v : ((Int × Int × (List Y8) × Int × Unit) × ((Y5 × Unit) × Unit))) : Option (((Int × Int × (List Y8) × Int × Unit) × ((Y5 × Unit) × Unit)) ⊕ (Y15 ⊕ ((Int × Unit) × ((Y5 × Unit) × Unit)))) :=
bif (decide ((v.1.1 : Int) < v.1.2.2.2.1)) then (Abs.rowAt v.1.2.2.1 v.1.1 fun e109 _ =>
((bif ((e109.1 : Int) != v.1.1) then (some ((true, (v.1.2.1, (v.1.2.2.1, (v.1.2.2.2.1, (v.1.1, ()))))), ((v.2.1.1, ()), ())))
else ((m84 ((v.1.2.1, (e109, ())), ())).bind fun u110 =>
some (((!u110.1.1), (v.1.2.1, (v.1.2.2.1, (v.1.2.2.2.1, (v.1.1, ()))))), ((v.2.1.1, ()), ())))) : Option ((Bool × Int × (List Y8) × Int × Int × Unit) × ((Y5 × Unit) × Unit))).bind fun v111 =>
bif v111.1.1 then (some (.inr (.inl ((false, ()), ()))))
else (some (.inl (((w64 (v111.1.2.2.2.2.1 + 1)), (v111.1.2.1, (v111.1.2.2.1, (v111.1.2.2.2.1, ())))), ((v111.2.1.1, ()), ())))))
else (some (.inr (.inr ((v.1.2.1, ()), ((v.2.1.1, ()), ())))))

def l44_0_11 (v : ((Int × Int × (List Y9) × Int × Unit) × ((Y5 × Unit) × Unit))) : Option (((Int × Int × (List Y9) × Int × Unit) × ((Y5 × Unit) × Unit)) ⊕ (Y15 ⊕ ((Int × Unit) × ((Y5 × Unit) × Unit)))) :=
bif (decide ((v.1.1 : Int) < v.1.2.2.2.1)) then (Abs.rowAt v.1.2.2.1 v.1.1 fun e115 _ =>
(((m83 ((e115.2.1, (0, ((w64 (v.1.2.1 - 1)), ()))), ())).bind fun u116 =>
bif (!u116.1.1) then (some ((true, (v.1.2.1, (v.1.2.2.1, (v.1.2.2.2.1, (v.1.1, ()))))), ((v.2.1.1, ()), ())))
else ((m83 ((e115.2.2.1, (0, ((w64 (v.1.2.1 - 1)), ()))), ())).bind fun u117 =>
bif (!u117.1.1) then (some ((true, (v.1.2.1, (v.1.2.2.1, (v.1.2.2.2.1, (v.1.1, ()))))), ((v.2.1.1, ()), ())))
else (some ((((e115.2.1 : Int) == e115.2.2.1), (v.1.2.1, (v.1.2.2.1, (v.1.2.2.2.1, (v.1.1, ()))))), ((v.2.1.1, ()), ()))))) : Option ((Bool × Int × (List Y9) × Int × Int × Unit) × ((Y5 × Unit) × Unit))).bind fun v118 =>
bif v118.1.1 then (some (.inr (.inl ((false, ()), ()))))
else (some (.inl (((w64 (v118.1.2.2.2.2.1 + 1)), (v118.1.2.1, (v118.1.2.2.1, (v118.1.2.2.2.1, ())))), ((v118.2.1.1, ()), ())))))
else (some (.inr (.inr ((v.1.2.1, ()), ((v.2.1.1, ()), ())))))

def l44_0_17 (v : ((Int × Int × (List (Int × Int × Unit)) × Int × Unit) × ((Y5 × Unit) × Unit))) : Option (((Int × Int × (List (Int × Int × Unit)) × Int × Unit) × ((Y5 × Unit) × Unit)) ⊕ (Y15 ⊕ ((Unit) × (Unit)))) :=
bif (decide ((v.1.1 : Int) < v.1.2.2.2.1)) then (Abs.rowAt v.1.2.2.1 v.1.1 fun e122 _ =>
(((m83 ((e122.1, (0, ((w64 (v.1.2.1 - 1)), ()))), ())).bind fun u123 =>
bif (!u123.1.1) then (some ((true, (v.1.2.1, (v.1.2.2.1, (v.1.2.2.2.1, (v.1.1, ()))))), ((v.2.1.1, ()), ())))
else ((m83 ((e122.2.1, ((w64 (e122.1 + 1)), ((w64 (v.1.2.1 - 1)), ()))), ())).bind fun u124 =>
bif (!u124.1.1) then (some ((true, (v.1.2.1, (v.1.2.2.1, (v.1.2.2.2.1, (v.1.1, ()))))), ((v.2.1.1, ()), ())))
else (bif (decide ((0 : Int) ≤ v.1.1)) then
bif (decide (0 ≤ v.1.1.toNat ∧ v.1.1.toNat ≤ v.2.1.1.2.2.2.1.length)) then
(m81 (((v.2.1.1.2.2.2.1.take v.1.1.toNat), (e122, ())), ())).bind fun u125 =>
some ((u125.1.1, (v.1.2.1, (v.1.2.2.1, (v.1.2.2.2.1, (v.1.1, ()))))), ((v.2.1.1, ()), ()))
else none
else none))) : Option ((Bool × Int × (List (Int × Int × Unit)) × Int × Int × Unit) × ((Y5 × Unit) × Unit))).bind fun v126 =>
bif v126.1.1 then (some (.inr (.inl ((false, ()), ()))))
else (some (.inl (((w64 (v126.1.2.2.2.2.1 + 1)), (v126.1.2.1, (v126.1.2.2.1, (v126.1.2.2.2.1, ())))), ((v126.2.1.1, ()), ())))))
else (some (.inr (.inr ((), ()))))

/- pagewatch/region.Check -/
def i44 : Abs.Sg := ⟨[0], Qs26, .nil⟩

def o44 : Abs.Sg := ⟨[2], Qs12, .nil⟩

def m44 (v : ((Y5 × Unit) × (Unit))) : Option Y15 :=
(((m83 (((v.1.1.1.length : Int), (1, (5, ()))), ())).bind fun u105 =>
bif (!u105.1.1) then (some ((true, ((v.1.1.1.length : Int), ())), ((v.1.1, ()), ())))
else (let x106 := (((v.1.1.2.2.1.length : Int) : Int) != (v.1.1.1.length : Int))
bif x106 then (some ((true, ((v.1.1.1.length : Int), ())), ((v.1.1, ()), ())))
else (let x107 := (decide (((v.1.1.2.1.length : Int) : Int) > 256))
some ((x107, ((v.1.1.1.length : Int), ())), ((v.1.1, ()), ()))))) : Option ((Bool × Int × Unit) × ((Y5 × Unit) × Unit))).bind fun v108 =>
bif v108.1.1 then (some ((false, ()), ()))
else ((loopT l44_0_5 ((0, (v108.1.2.1, (v108.2.1.1.1, ((v108.2.1.1.1.length : Int), ())))), ((v108.2.1.1, ()), ()))).bind fun d112 =>
sumE d112 (fun d113 => (some ((d113.1.1, ()), ()))) (fun d114 => ((loopT l44_0_11 ((0, (d114.1.1, (d114.2.1.1.2.1, ((d114.2.1.1.2.1.length : Int), ())))), ((d114.2.1.1, ()), ()))).bind fun d119 =>
sumE d119 (fun d120 => (some ((d120.1.1, ()), ()))) (fun d121 => ((loopT l44_0_17 ((0, (d121.1.1, (d121.2.1.1.2.2.2.1, ((d121.2.1.1.2.2.2.1.length : Int), ())))), ((d121.2.1.1, ()), ()))).bind fun d127 =>
sumE d127 (fun d128 => (some ((d128.1.1, ()), ()))) (fun d129 => (some ((true, ()), ()))))))))

def sp44 : Abs.Spec := ⟨0, i44, o44, m44⟩

def an44 : Nat → Abs.FAn
  | 0 => Abs.FAn.mk (fun
    | 19 => some ⟨[109, 1, 3, 78, 79, 80], (.dat .bool (.st Qx9 (.dat (.int .i64) (.dat (.row Z11) Qs13)))), Qb11⟩
    | 13 => some ⟨[75, 3, 49, 1, 50, 51], (.dat .bool (.dat (.int .i64) (.dat (.row Z4) (.st Qx9 Qs13)))), Qb11⟩
    | 7 => some ⟨[46, 3, 30, 1, 31, 32], (.dat .bool (.dat (.int .i64) (.dat (.row Z3) (.st Qx9 Qs13)))), Qb11⟩
    | 2 => some ⟨[28, 3, 1], (.dat .bool (.dat (.int .i64) (.st Qx9 .nil))), Qb11⟩
    | _ => none) (fun _ => none) (fun
    | 17 => some ⟨⟨[80, 1, 3, 78, 79], (.dat (.int .i64) (.st Qx9 (.dat (.int .i64) (.dat (.row Z11) Qs3)))), Qb11⟩, (.more .ret ⟨[2], Qs12, .nil⟩ (.one (.exit 4) ⟨[], .nil, .nil⟩))⟩
    | 11 => some ⟨⟨[51, 3, 49, 1, 50], (.dat (.int .i64) (.dat (.int .i64) (.dat (.row Z4) (.st Qx9 Qs3)))), Qb11⟩, (.more .ret ⟨[2], Qs12, .nil⟩ (.one (.exit 2) ⟨[1, 3], (.st Qx9 Qs3), Qb11⟩))⟩
    | 5 => some ⟨⟨[32, 3, 30, 1, 31], (.dat (.int .i64) (.dat (.int .i64) (.dat (.row Z3) (.st Qx9 Qs3)))), Qb11⟩, (.more .ret ⟨[2], Qs12, .nil⟩ (.one (.exit 0) ⟨[3, 1], (.dat (.int .i64) (.st Qx9 .nil)), Qb11⟩))⟩
    | _ => none) (fun _ _ => 0)
  | _ => {}

theorem ok44 : Abs.SpecOK Tryz.prog 44 sp44 :=
  okW (an := an44) (alc ok83 (alc ok84 (alc ok81 al0))) rfl (by intro v; kernel_rfl)

/- pagewatch/region.check -/
def i62 : Abs.Sg := ⟨[0, 1, 2], (.dat Z7 Qs13), .nil⟩

def o62 : Abs.Sg := ⟨[6], Qs3, .nil⟩

def m62 (v : ((Y5 × Int × Int × Unit) × (Unit))) : Option ((Int × Unit) × (Unit)) :=
(m44 ((v.1.1, ()), ())).bind fun u8 =>
bif (!u8.1.1) then (some ((8, ()), ()))
else ((m83 ((v.1.2.1, (0, ((w64 (v.1.2.2.1 - 1)), ()))), ())).bind fun u9 =>
bif (!u9.1.1) then (some ((3, ()), ()))
else (some ((0, ()), ())))

def sp62 : Abs.Spec := ⟨0, i62, o62, m62⟩

def an62 : Nat → Abs.FAn
  | _ => {}

theorem ok62 : Abs.SpecOK Tryz.prog 62 sp62 :=
  okW (an := an62) (alc ok44 (alc ok83 al0)) rfl (by intro v; kernel_rfl)

/- pagewatch/region.up -/
def i55 : Abs.Sg := ⟨[0, 1], (.dat Z7 Qs3), .nil⟩

def o55 : Abs.Sg := ⟨[4], Qs3, .nil⟩

def m55 (v : Y20) : Option ((Int × Unit) × (Unit)) :=
(m62 ((v.1.1, (v.1.2.1, ((v.1.1.1.length : Int), ()))), ())).bind fun u8 =>
bif ((u8.1.1 : Int) != 0) then (some ((u8.1.1, ()), ()))
else (Abs.rowAt v.1.1.2.2.1 v.1.2.1 fun e9 _ =>
bif e9 then (some ((21, ()), ()))
else (some ((0, ()), ())))

def sp55 : Abs.Spec := ⟨0, i55, o55, m55⟩

def an55 : Nat → Abs.FAn
  | _ => {}

theorem ok55 : Abs.SpecOK Tryz.prog 55 sp55 :=
  okW (an := an55) (alc ok62 al0) rfl (by intro v; kernel_rfl)

/- slices.Clone[[]pagewatch/api.Replica,pagewatch/api.Replica]: the copy of a row -/
def i90 : Abs.Sg := ⟨[0], (.dat (.row Z3) .nil), .nil⟩

def o90 : Abs.Sg := ⟨[2], (.st (.own Z3 (0, 0)) .nil), (.arr Z3 false .nil)⟩

def m90 (v : (((List Y8) × Unit) × (Unit))) : Option ((Unit) × ((List Y8) × Unit)) :=
bif (decide (v.1.1.length ≤ 4294967296)) then some ((), (v.1.1, ())) else none

def sp90 : Abs.Spec := ⟨0, i90, o90, m90⟩

theorem ok90 : Abs.SpecOK Tryz.prog 90 sp90 :=
  Abs.clone_ok (N := note) (t := Z3) foll (Abs.specOK_of (n := 12) (an := fun _ => {}) (T := Abs.tabOf []) good foll (Abs.tabOf_ok _ (fun _ h => by cases h)) rfl (by intro v; kernel_rfl)) (by kernel_rfl) (by kernel_rfl)

/- slices.Clone[[]pagewatch/api.Message,pagewatch/api.Message]: the copy of a row -/
def i91 : Abs.Sg := ⟨[0], (.dat (.row Z4) .nil), .nil⟩

def o91 : Abs.Sg := ⟨[2], (.st (.own Z4 (0, 0)) .nil), (.arr Z4 false .nil)⟩

def m91 (v : (((List Y9) × Unit) × (Unit))) : Option ((Unit) × ((List Y9) × Unit)) :=
bif (decide (v.1.1.length ≤ 4294967296)) then some ((), (v.1.1, ())) else none

def sp91 : Abs.Spec := ⟨0, i91, o91, m91⟩

theorem ok91 : Abs.SpecOK Tryz.prog 91 sp91 :=
  Abs.clone_ok (N := note) (t := Z4) foll (Abs.specOK_of (n := 12) (an := fun _ => {}) (T := Abs.tabOf []) good foll (Abs.tabOf_ok _ (fun _ h => by cases h)) rfl (by intro v; kernel_rfl)) (by kernel_rfl) (by kernel_rfl)

/- slices.Clone[[]bool,bool]: the copy of a row -/
def i92 : Abs.Sg := ⟨[0], (.dat (.row .bool) .nil), .nil⟩

def o92 : Abs.Sg := ⟨[2], (.st (.own .bool (0, 0)) .nil), Qb36⟩

def m92 (v : (((List Bool) × Unit) × (Unit))) : Option ((Unit) × ((List Bool) × Unit)) :=
bif (decide (v.1.1.length ≤ 4294967296)) then some ((), (v.1.1, ())) else none

def sp92 : Abs.Spec := ⟨0, i92, o92, m92⟩

theorem ok92 : Abs.SpecOK Tryz.prog 92 sp92 :=
  Abs.clone_ok (N := note) (t := .bool) foll (Abs.specOK_of (n := 12) (an := fun _ => {}) (T := Abs.tabOf []) good foll (Abs.tabOf_ok _ (fun _ h => by cases h)) rfl (by intro v; kernel_rfl)) (by kernel_rfl) (by kernel_rfl)

/- slices.Clone[[][2]int,[2]int]: the copy of a row -/
def i93 : Abs.Sg := ⟨[0], (.dat (.row Z11) .nil), .nil⟩

def o93 : Abs.Sg := ⟨[2], (.st (.own Z11 (0, 0)) .nil), (.arr Z11 false .nil)⟩

def m93 (v : (((List (Int × Int × Unit)) × Unit) × (Unit))) : Option ((Unit) × ((List (Int × Int × Unit)) × Unit)) :=
bif (decide (v.1.1.length ≤ 4294967296)) then some ((), (v.1.1, ())) else none

def sp93 : Abs.Spec := ⟨0, i93, o93, m93⟩

theorem ok93 : Abs.SpecOK Tryz.prog 93 sp93 :=
  Abs.clone_ok (N := note) (t := Z11) foll (Abs.specOK_of (n := 12) (an := fun _ => {}) (T := Abs.tabOf []) good foll (Abs.tabOf_ok _ (fun _ h => by cases h)) rfl (by intro v; kernel_rfl)) (by kernel_rfl) (by kernel_rfl)

/- slices.Clone[[]pagewatch/api.Entry,pagewatch/api.Entry]: the copy of a row -/
def i65 : Abs.Sg := ⟨[0], (.dat (.row Z1) .nil), .nil⟩

def o65 : Abs.Sg := ⟨[2], (.st (.own Z1 (0, 0)) .nil), (.arr Z1 false .nil)⟩

def m65 (v : ((Y2 × Unit) × (Unit))) : Option ((Unit) × (Y2 × Unit)) :=
bif (decide (v.1.1.length ≤ 4294967296)) then some ((), (v.1.1, ())) else none

def sp65 : Abs.Spec := ⟨0, i65, o65, m65⟩

theorem ok65 : Abs.SpecOK Tryz.prog 65 sp65 :=
  Abs.clone_ok (N := note) (t := Z1) foll (Abs.specOK_of (n := 12) (an := fun _ => {}) (T := Abs.tabOf []) good foll (Abs.tabOf_ok _ (fun _ h => by cases h)) rfl (by intro v; kernel_rfl)) (by kernel_rfl) (by kernel_rfl)

/- slices.Clone[[]int,int]: the copy of a row -/
def i112 : Abs.Sg := ⟨[0], Qs42, .nil⟩

def o112 : Abs.Sg := ⟨[2], (.st (.own (.int .i64) (0, 0)) .nil), Qb43⟩

def m112 (v : (((List Int) × Unit) × (Unit))) : Option ((Unit) × ((List Int) × Unit)) :=
bif (decide (v.1.1.length ≤ 4294967296)) then some ((), (v.1.1, ())) else none

def sp112 : Abs.Spec := ⟨0, i112, o112, m112⟩

theorem ok112 : Abs.SpecOK Tryz.prog 112 sp112 :=
  Abs.clone_ok (N := note) (t := (.int .i64)) foll (Abs.specOK_of (n := 12) (an := fun _ => {}) (T := Abs.tabOf []) good foll (Abs.tabOf_ok _ (fun _ h => by cases h)) rfl (by intro v; kernel_rfl)) (by kernel_rfl) (by kernel_rfl)

/- pagewatch/vote.Copied -/
def i94 : Abs.Sg := ⟨[0], Qs21, .nil⟩

def o94 : Abs.Sg := ⟨[2], (.st Qx10 .nil), Qb19⟩

def m94 (v : ((Y8 × Unit) × (Unit))) : Option ((Unit) × (Y12 × Y2 × (List Bool) × (List Int) × Unit)) :=
(m65 ((v.1.1.2.2.2.2.1, ()), ())).bind fun u9 =>
(m92 ((v.1.1.2.2.2.2.2.2.1, ()), ())).bind fun u10 =>
(m112 ((v.1.1.2.2.2.2.2.2.2.1, ()), ())).bind fun u11 =>
some ((), (((v.1.1.1, (v.1.1.2.1, (v.1.1.2.2.1, (v.1.1.2.2.2.1, (v.1.1.2.2.2.2.2.1, ()))))), ()), (u9.2.1, (u10.2.1, (u11.2.1, ())))))

def sp94 : Abs.Spec := ⟨0, i94, o94, m94⟩

def an94 : Nat → Abs.FAn
  | _ => {}

theorem ok94 : Abs.SpecOK Tryz.prog 94 sp94 :=
  okW (an := an94) (alc ok65 (alc ok92 (alc ok112 al0))) rfl (by intro v; kernel_rfl)

def l56_0_3 (v : ((Int × Int × Unit) × Y14)) : Option (((Int × Int × Unit) × Y14) ⊕ ((Unit) × Y14)) :=
bif (decide ((v.1.1 : Int) < v.1.2.1)) then (bif (decide ((0 : Int) ≤ v.1.1 ∧ (v.1.1 : Int) < v.2.2.2.1.length)) then
(v.2.2.2.1[v.1.1.toNat]?).bind fun e47 =>
(m94 ((e47, ()), ())).bind fun u48 =>
bif (decide ((0 : Int) ≤ v.1.1 ∧ (v.1.1 : Int) < v.2.2.2.1.length)) then
bif (decide (v.1.1.toNat < v.2.2.2.1.length)) then
some (.inl (((w64 (v.1.1 + 1)), (v.1.2.1, ())), (((), ()), (((), ()), ((v.2.2.2.1.set v.1.1.toNat (u48.2.1.1.1, (u48.2.1.1.2.1, (u48.2.1.1.2.2.1, (u48.2.1.1.2.2.2.1, (u48.2.2.1, (u48.2.1.1.2.2.2.2.1, (u48.2.2.2.1, (u48.2.2.2.2.1, ()))))))))), (v.2.2.2.2.1, (v.2.2.2.2.2.1, (v.2.2.2.2.2.2.1, ()))))))))
else none
else none
else none)
else (some (.inr ((), (((), ()), (((), ()), (v.2.2.2.1, (v.2.2.2.2.1, (v.2.2.2.2.2.1, (v.2.2.2.2.2.2.1, ())))))))))

def l56_0_8 (v : ((Int × Int × Unit) × Y14)) : Option (((Int × Int × Unit) × Y14) ⊕ ((Unit) × Y14)) :=
bif (decide ((v.1.1 : Int) < v.1.2.1)) then (bif (decide ((0 : Int) ≤ v.1.1 ∧ (v.1.1 : Int) < v.2.2.2.2.1.length)) then
(v.2.2.2.2.1[v.1.1.toNat]?).bind fun e50 =>
(m65 ((e50.2.2.2.2.2.2.2.1, ()), ())).bind fun u51 =>
bif (decide ((0 : Int) ≤ v.1.1 ∧ (v.1.1 : Int) < v.2.2.2.2.1.length)) then
(v.2.2.2.2.1[v.1.1.toNat]?).bind fun e52 =>
some (.inl (((w64 (v.1.1 + 1)), (v.1.2.1, ())), (((), ()), (((), ()), (v.2.2.2.1, ((v.2.2.2.2.1.set v.1.1.toNat (e52.1, (e52.2.1, (e52.2.2.1, (e52.2.2.2.1, (e52.2.2.2.2.1, (e52.2.2.2.2.2.1, (e52.2.2.2.2.2.2.1, (u51.2.1, e52.2.2.2.2.2.2.2.2))))))))), (v.2.2.2.2.2.1, (v.2.2.2.2.2.2.1, ()))))))))
else none
else none)
else (some (.inr ((), (((), ()), (((), ()), (v.2.2.2.1, (v.2.2.2.2.1, (v.2.2.2.2.2.1, (v.2.2.2.2.2.2.1, ())))))))))

/- pagewatch/region.copied -/
def i56 : Abs.Sg := ⟨[0], Qs26, .nil⟩

def o56 : Abs.Sg := ⟨[2], (.st Qx9 .nil), Qb2⟩

def m56 (v : ((Y5 × Unit) × (Unit))) : Option ((Unit) × Y13) :=
(m90 ((v.1.1.1, ()), ())).bind fun u43 =>
(m91 ((v.1.1.2.1, ()), ())).bind fun u44 =>
(m92 ((v.1.1.2.2.1, ()), ())).bind fun u45 =>
(m93 ((v.1.1.2.2.2.1, ()), ())).bind fun u46 =>
(loopT l56_0_3 ((0, (((u43.2.1.length : Nat) : Int), ())), (((), ()), (((), ()), (u43.2.1, (u44.2.1, (u45.2.1, (u46.2.1, ())))))))).bind fun d49 =>
(loopT l56_0_8 ((0, (((d49.2.2.2.2.1.length : Nat) : Int), ())), (((), ()), (((), ()), (d49.2.2.2.1, (d49.2.2.2.2.1, (d49.2.2.2.2.2.1, (d49.2.2.2.2.2.2.1, ())))))))).bind fun d53 =>
some ((), (((), ()), (d53.2.2.2.1, (d53.2.2.2.2.1, (d53.2.2.2.2.2.1, (d53.2.2.2.2.2.2.1, ()))))))

def sp56 : Abs.Spec := ⟨0, i56, o56, m56⟩

def an56 : Nat → Abs.FAn
  | 0 => Abs.FAn.mk (fun _ => none) (fun _ => none) (fun
    | 8 => some ⟨⟨[41, 1, 2, 40], (.dat (.int .i64) (.st Qx9 (.st Qx23 Qs3))), Qb6⟩, (.one (.exit 2) ⟨[2, 1], Qs17, Qb18⟩)⟩
    | 3 => some ⟨⟨[24, 1, 2, 23], (.dat (.int .i64) (.st Qx9 (.st Qx23 Qs3))), Qb6⟩, (.one (.exit 0) ⟨[1, 2], Qs17, Qb6⟩)⟩
    | _ => none) (fun _ _ => 0)
  | _ => {}

theorem ok56 : Abs.SpecOK Tryz.prog 56 sp56 :=
  okW (an := an56) (alc ok90 (alc ok91 (alc ok92 (alc ok93 (alc ok94 (alc ok65 al0)))))) rfl (by intro v; kernel_rfl)

/- pagewatch/vote.last -/
def i98 : Abs.Sg := ⟨[0], Qs21, .nil⟩

def o98 : Abs.Sg := ⟨[2], Qs3, .nil⟩

def m98 (v : ((Y8 × Unit) × (Unit))) : Option ((Int × Unit) × (Unit)) :=
bif (((v.1.1.2.2.2.2.1.length : Int) : Int) == 0) then (some ((0, ()), ()))
else (Abs.rowAt v.1.1.2.2.2.2.1 (w64 ((v.1.1.2.2.2.2.1.length : Int) - 1)) fun e2 _ =>
some ((e2.1, ()), ()))

def sp98 : Abs.Spec := ⟨0, i98, o98, m98⟩

def an98 : Nat → Abs.FAn
  | _ => {}

theorem ok98 : Abs.SpecOK Tryz.prog 98 sp98 :=
  okW (an := an98) al0 rfl (by intro v; kernel_rfl)

/- pagewatch/vote.Quorum -/
def i103 : Abs.Sg := ⟨[0], Qs3, .nil⟩

def o103 : Abs.Sg := ⟨[2], Qs3, .nil⟩

def m103 (v : ((Int × Unit) × (Unit))) : Option ((Int × Unit) × (Unit)) :=
(m108 ((v.1.1, (1, (5, ()))), ())).bind fun u4 =>
bif (!u4.1.1) then (some ((0, ()), ()))
else (some (((w64 ((w64 ((v.1.1 : Int).tdiv 2)) + 1)), ()), ()))

def sp103 : Abs.Spec := ⟨0, i103, o103, m103⟩

def an103 : Nat → Abs.FAn
  | _ => {}

theorem ok103 : Abs.SpecOK Tryz.prog 103 sp103 :=
  okW (an := an103) (alc ok108 al0) rfl (by intro v; kernel_rfl)

def l99_0_3 (v : ((Int × Int × (List Bool) × Int × Int × Unit) × (Y12 × (Y8 × Unit) × Unit))) : Option (((Int × Int × (List Bool) × Int × Int × Unit) × (Y12 × (Y8 × Unit) × Unit)) ⊕ ((Int × Int × Unit) × (Y12 × (Y8 × Unit) × Unit))) :=
bif (decide ((v.1.1 : Int) < v.1.2.2.2.2.1)) then (((Abs.rowAt v.1.2.2.1 v.1.1 fun e17 _ =>
bif e17 then (some (((w64 (v.1.2.1 + 1)), (v.1.2.2.1, (v.1.2.2.2.1, (v.1.2.2.2.2.1, (v.1.1, ()))))), (((v.2.1.1.1, (v.2.1.1.2.1, (v.2.1.1.2.2.1, (v.2.1.1.2.2.2.1, (v.2.1.1.2.2.2.2.1, ()))))), ()), ((v.2.2.1.1, ()), ()))))
else (some ((v.1.2.1, (v.1.2.2.1, (v.1.2.2.2.1, (v.1.2.2.2.2.1, (v.1.1, ()))))), (((v.2.1.1.1, (v.2.1.1.2.1, (v.2.1.1.2.2.1, (v.2.1.1.2.2.2.1, (v.2.1.1.2.2.2.2.1, ()))))), ()), ((v.2.2.1.1, ()), ()))))) : Option ((Int × (List Bool) × Int × Int × Int × Unit) × (Y12 × (Y8 × Unit) × Unit))).bind fun v18 =>
some (.inl (((w64 (v18.1.2.2.2.2.1 + 1)), (v18.1.1, (v18.1.2.1, (v18.1.2.2.1, (v18.1.2.2.2.1, ()))))), (((v18.2.1.1.1, (v18.2.1.1.2.1, (v18.2.1.1.2.2.1, (v18.2.1.1.2.2.2.1, (v18.2.1.1.2.2.2.2.1, ()))))), ()), ((v18.2.2.1.1, ()), ())))))
else (some (.inr ((v.1.2.2.2.1, (v.1.2.1, ())), (((v.2.1.1.1, (v.2.1.1.2.1, (v.2.1.1.2.2.1, (v.2.1.1.2.2.2.1, (v.2.1.1.2.2.2.2.1, ()))))), ()), ((v.2.2.1.1, ()), ())))))

/- pagewatch/vote.lead -/
def i99 : Abs.Sg := ⟨[0, 1], Qs37, .nil⟩

def o99 : Abs.Sg := ⟨[4], (.st Qx10 .nil), Qb14⟩

def m99 (v : ((Int × Y8 × Unit) × (Unit))) : Option ((Unit) × ((Y8 × Unit) × Unit)) :=
(loopT l99_0_3 ((0, (0, (v.1.2.1.2.2.2.2.2.2.1, (v.1.1, ((v.1.2.1.2.2.2.2.2.2.1.length : Int), ()))))), (((0, (0, (0, (0, (0, ()))))), ()), ((v.1.2.1, ()), ())))).bind fun d19 =>
(((m103 ((d19.1.1, ()), ())).bind fun u20 =>
bif (decide ((d19.1.2.1 : Int) ≥ u20.1.1)) then (bif (decide ((0 : Int) ≤ d19.1.1 ∧ (d19.1.1 : Int) ≤ d19.1.1 ∧ (d19.1.1 : Int) ≤ 4294967296)) then
bif (decide ((0 : Int) ≤ d19.2.2.1.1.1 ∧ (d19.2.2.1.1.1 : Int) < (List.replicate d19.1.1.toNat (0 : Int)).length)) then
bif (decide (d19.2.2.1.1.1.toNat < (List.replicate d19.1.1.toNat (0 : Int)).length)) then
some ((), (((d19.2.1.1.1, (d19.2.1.1.2.1, (d19.2.1.1.2.2.1, (d19.2.1.1.2.2.2.1, (d19.2.1.1.2.2.2.2.1, ()))))), ()), (((d19.2.2.1.1.1, (d19.2.2.1.1.2.1, (d19.2.2.1.1.2.2.1, (2, (d19.2.2.1.1.2.2.2.2.1, (d19.2.2.1.1.2.2.2.2.2.1, (d19.2.2.1.1.2.2.2.2.2.2.1, (((List.replicate d19.1.1.toNat (0 : Int)).set d19.2.2.1.1.1.toNat (d19.2.2.1.1.2.2.2.2.1.length : Int)), ())))))))), ()), ())))
else none
else none
else none)
else (some ((), (((d19.2.1.1.1, (d19.2.1.1.2.1, (d19.2.1.1.2.2.1, (d19.2.1.1.2.2.2.1, (d19.2.1.1.2.2.2.2.1, ()))))), ()), ((d19.2.2.1.1, ()), ()))))) : Option ((Unit) × (Y12 × (Y8 × Unit) × Unit))).bind fun v21 =>
some ((), ((v21.2.2.1.1, ()), ()))

def sp99 : Abs.Spec := ⟨0, i99, o99, m99⟩

def an99 : Nat → Abs.FAn
  | 0 => Abs.FAn.mk (fun _ => none) (fun
    | 11 => some (⟨[4, 3], Qs41, (.box 8 Qs1 Qb14)⟩, none)
    | 7 => some (⟨[5, 9, 4, 3, 0, 10, 11], (.dat (.int .i64) (.dat (.row .bool) (.st Qx10 (.st Qx20 (.dat (.int .i64) Qs13))))), (.box 8 Qs1 Qb14)⟩, none)
    | _ => none) (fun
    | 3 => some ⟨⟨[11, 5, 9, 4, 3, 0, 10], (.dat (.int .i64) (.dat (.int .i64) (.dat (.row .bool) (.st Qx10 (.st Qx20 Qs13))))), (.box 8 Qs1 Qb14)⟩, (.one (.exit 0) ⟨[4, 3, 0, 5], (.st Qx10 (.st Qx20 Qs13)), (.box 8 Qs1 Qb14)⟩)⟩
    | _ => none) (fun _ _ => 0)
  | _ => {}

theorem ok99 : Abs.SpecOK Tryz.prog 99 sp99 :=
  okW (an := an99) (alc ok103 al0) rfl (by intro v; kernel_rfl)

def l69_0_11 (v : ((Int × Int × Int × Unit) × (Y12 × (List Y9) × Y12 × Y2 × (List Bool) × Unit))) : Option (((Int × Int × Int × Unit) × (Y12 × (List Y9) × Y12 × Y2 × (List Bool) × Unit)) ⊕ ((Int × Unit) × (Y12 × (List Y9) × Y12 × Y2 × (List Bool) × Unit))) :=
bif (decide ((v.1.1 : Int) < v.1.2.2.1)) then (((bif ((v.1.1 : Int) != v.2.1.1.1) then ((m98 (((v.2.1.1.1, (v.2.1.1.2.1, (v.2.1.1.2.2.1, (v.2.1.1.2.2.2.1, (v.2.2.2.2.1, (v.2.1.1.2.2.2.2.1, (v.2.2.2.2.2.1, ([], ())))))))), ()), ())).bind fun u27 =>
bif (decide (v.2.2.1.length + ([(1, (v.2.1.1.1, (v.1.1, (v.2.1.1.2.1, (((v.2.2.2.2.1.length : Nat) : Int), (u27.1.1, (0, ([], (false, ())))))))))] : List Y9).length ≤ 4294967296)) then
let x28 := (v.2.2.1 ++ ([(1, (v.2.1.1.1, (v.1.1, (v.2.1.1.2.1, (((v.2.2.2.2.1.length : Nat) : Int), (u27.1.1, (0, ([], (false, ())))))))))] : List Y9))
some ((v.1.2.1, (v.1.2.2.1, (v.1.1, ()))), (((v.2.1.1.1, (v.2.1.1.2.1, (v.2.1.1.2.2.1, (v.2.1.1.2.2.2.1, (v.2.1.1.2.2.2.2.1, ()))))), ()), (x28, (((v.2.2.2.1.1.1, (v.2.2.2.1.1.2.1, (v.2.2.2.1.1.2.2.1, (v.2.2.2.1.1.2.2.2.1, (v.2.2.2.1.1.2.2.2.2.1, ()))))), ()), (v.2.2.2.2.1, (v.2.2.2.2.2.1, ()))))))
else none)
else (some ((v.1.2.1, (v.1.2.2.1, (v.1.1, ()))), (((v.2.1.1.1, (v.2.1.1.2.1, (v.2.1.1.2.2.1, (v.2.1.1.2.2.2.1, (v.2.1.1.2.2.2.2.1, ()))))), ()), (v.2.2.1, (((v.2.2.2.1.1.1, (v.2.2.2.1.1.2.1, (v.2.2.2.1.1.2.2.1, (v.2.2.2.1.1.2.2.2.1, (v.2.2.2.1.1.2.2.2.2.1, ()))))), ()), (v.2.2.2.2.1, (v.2.2.2.2.2.1, ())))))))) : Option ((Int × Int × Int × Unit) × (Y12 × (List Y9) × Y12 × Y2 × (List Bool) × Unit))).bind fun v29 =>
some (.inl (((w64 (v29.1.2.2.1 + 1)), (v29.1.1, (v29.1.2.1, ()))), (((v29.2.1.1.1, (v29.2.1.1.2.1, (v29.2.1.1.2.2.1, (v29.2.1.1.2.2.2.1, (v29.2.1.1.2.2.2.2.1, ()))))), ()), (v29.2.2.1, (((v29.2.2.2.1.1.1, (v29.2.2.2.1.1.2.1, (v29.2.2.2.1.1.2.2.1, (v29.2.2.2.1.1.2.2.2.1, (v29.2.2.2.1.1.2.2.2.2.1, ()))))), ()), (v29.2.2.2.2.1, (v29.2.2.2.2.2.1, ()))))))))
else (some (.inr ((v.1.2.1, ()), (((v.2.2.2.1.1.1, (v.2.2.2.1.1.2.1, (v.2.2.2.1.1.2.2.1, (v.2.2.2.1.1.2.2.2.1, (v.2.2.2.1.1.2.2.2.2.1, ()))))), ()), (v.2.2.1, (((v.2.1.1.1, (v.2.1.1.2.1, (v.2.1.1.2.2.1, (v.2.1.1.2.2.2.1, (v.2.1.1.2.2.2.2.1, ()))))), ()), (v.2.2.2.2.1, (v.2.2.2.2.2.1, ()))))))))

/- pagewatch/vote.Stand -/
def i69 : Abs.Sg := ⟨[0, 1], Qs37, .nil⟩

def o69 : Abs.Sg := ⟨[4, 5, 6], (.st Qx10 (.st (.own Z4 (1, 0)) Qs3)), (.box 8 Qs21 (.arr Z4 false .nil))⟩

def m69 (v : ((Int × Y8 × Unit) × (Unit))) : Option ((Int × Unit) × ((Y8 × Unit) × (List Y9) × Unit)) :=
(m84 ((v.1.1, (v.1.2.1, ())), ())).bind fun u25 =>
bif (!u25.1.1) then (some ((8, ()), (((0, (0, (0, (0, ([], (0, ([], ([], ())))))))), ()), ([], ()))))
else (bif ((v.1.2.1.2.1 : Int) == 1048576) then (some ((5, ()), (((0, (0, (0, (0, ([], (0, ([], ([], ())))))))), ()), ([], ()))))
else ((m94 ((v.1.2.1, ()), ())).bind fun u26 =>
bif (decide ((0 : Int) ≤ v.1.1 ∧ (v.1.1 : Int) ≤ v.1.1 ∧ (v.1.1 : Int) ≤ 4294967296)) then
bif (decide ((0 : Int) ≤ u26.2.1.1.1 ∧ (u26.2.1.1.1 : Int) < (List.replicate v.1.1.toNat (false : Bool)).length)) then
bif (decide (u26.2.1.1.1.toNat < (List.replicate v.1.1.toNat (false : Bool)).length)) then
(loopT l69_0_11 ((0, (v.1.1, (v.1.1, ()))), (((u26.2.1.1.1, ((w64 (u26.2.1.1.2.1 + 1)), (u26.2.1.1.1, (1, (u26.2.1.1.2.2.2.2.1, ()))))), ()), ([], (((0, (0, (0, (0, (0, ()))))), ()), (u26.2.2.1, (((List.replicate v.1.1.toNat (false : Bool)).set u26.2.1.1.1.toNat true), ()))))))).bind fun d30 =>
(m99 ((d30.1.1, ((d30.2.2.2.1.1.1, (d30.2.2.2.1.1.2.1, (d30.2.2.2.1.1.2.2.1, (d30.2.2.2.1.1.2.2.2.1, (d30.2.2.2.2.1, (d30.2.2.2.1.1.2.2.2.2.1, (d30.2.2.2.2.2.1, ([], ())))))))), ())), ())).bind fun u31 =>
some ((0, ()), ((u31.2.1.1, ()), (d30.2.2.1, ())))
else none
else none
else none))

def sp69 : Abs.Spec := ⟨0, i69, o69, m69⟩

def an69 : Nat → Abs.FAn
  | 0 => Abs.FAn.mk (fun _ => none) (fun
    | 15 => some (⟨[3, 7, 4, 0, 37, 38], (.st Qx10 (.st (.own Z4 (1, 0)) (.st Qx38 (.dat (.int .i64) Qs13)))), (.box 8 Qs25 (.arr Z4 false (.box 8 Qs1 (.arr Z1 false Qb36))))⟩, none)
    | _ => none) (fun
    | 11 => some ⟨⟨[38, 3, 7, 4, 0, 37], (.dat (.int .i64) (.st Qx10 (.st (.own Z4 (1, 0)) (.st Qx38 Qs13)))), (.box 8 Qs25 (.arr Z4 false (.box 8 Qs1 (.arr Z1 false Qb36))))⟩, (.one (.exit 0) ⟨[4, 7, 3, 0], (.st Qx10 (.st (.own Z4 (1, 0)) (.st Qx38 Qs3))), (.box 8 Qs1 (.arr Z4 false (.box 8 Qs25 (.arr Z1 false Qb36))))⟩)⟩
    | _ => none) (fun _ _ => 0)
  | _ => {}

theorem ok69 : Abs.SpecOK Tryz.prog 69 sp69 :=
  okW (an := an69) (alc ok84 (alc ok94 (alc ok98 (alc ok99 al0)))) rfl (by intro v; kernel_rfl)

/- 66 pagewatch/region.send: not told by a law: run where it is called -/

/- pagewatch/region.Stand -/
def i28 : Abs.Sg := ⟨[0, 1], (.dat Z7 Qs3), .nil⟩

def o28 : Abs.Sg := ⟨[4, 5], (.st Qx9 Qs3), Qb2⟩

def m28 (v : Y20) : Option ((Int × Unit) × Y13) :=
(m55 ((v.1.1, (v.1.2.1, ())), ())).bind fun u19 =>
bif ((u19.1.1 : Int) != 0) then (some ((u19.1.1, ()), (((), ()), ([], ([], ([], ([], ())))))))
else ((m56 ((v.1.1, ()), ())).bind fun u20 =>
bif (decide ((0 : Int) ≤ v.1.2.1 ∧ (v.1.2.1 : Int) < u20.2.2.1.length)) then
(u20.2.2.1[v.1.2.1.toNat]?).bind fun e21 =>
(m69 ((((u20.2.2.1.length : Nat) : Int), (e21, ())), ())).bind fun u22 =>
bif ((u22.1.1 : Int) != 0) then (some ((u22.1.1, ()), (((), ()), ([], ([], ([], ([], ())))))))
else (bif (decide ((0 : Int) ≤ v.1.2.1 ∧ (v.1.2.1 : Int) < u20.2.2.1.length)) then
bif (decide (v.1.2.1.toNat < u20.2.2.1.length)) then
((let x23 := (w64 (((u20.2.2.2.1.length : Nat) : Int) + ((u22.2.2.1.length : Nat) : Int)))
bif (decide ((x23 : Int) > 256)) then (bif (decide ((u20.2.2.1.set v.1.2.1.toNat u22.2.1.1).length = (u20.2.2.1.set v.1.2.1.toNat u22.2.1.1).length) && (decide (u20.2.2.2.1.length = u20.2.2.2.1.length) && (decide (u20.2.2.2.2.1.length = u20.2.2.2.2.1.length) && (decide (u20.2.2.2.2.2.1.length = u20.2.2.2.2.2.1.length) && (decide (u22.2.2.1.length = u22.2.2.1.length) && true))))) then
some ((5, ()), (((), ()), ([], ([], ([], ([], ()))))))
else none)
else (bif (decide (u20.2.2.2.1.length + u22.2.2.1.length ≤ 4294967296)) then
bif (decide ((u20.2.2.1.set v.1.2.1.toNat u22.2.1.1).length = (u20.2.2.1.set v.1.2.1.toNat u22.2.1.1).length) && (decide (u20.2.2.2.1.length = u20.2.2.2.1.length) && (decide (u20.2.2.2.2.1.length = u20.2.2.2.2.1.length) && (decide (u20.2.2.2.2.2.1.length = u20.2.2.2.2.2.1.length) && (decide (u22.2.2.1.length = u22.2.2.1.length) && true))))) then
some ((0, ()), (((), ()), ((u20.2.2.1.set v.1.2.1.toNat u22.2.1.1), ((u20.2.2.2.1 ++ u22.2.2.1), (u20.2.2.2.2.1, (u20.2.2.2.2.2.1, ()))))))
else none
else none)) : Option ((Int × Unit) × Y13)).bind fun v24 =>
some ((v24.1.1, ()), (((), ()), (v24.2.2.1, (v24.2.2.2.1, (v24.2.2.2.2.1, (v24.2.2.2.2.2.1, ()))))))
else none
else none)
else none)

def sp28 : Abs.Spec := ⟨0, i28, o28, m28⟩

def an28 : Nat → Abs.FAn
  | 0 => Abs.FAn.mk (fun
    | 9 => some ⟨[4, 5], (.st Qx9 Qs3), Qb2⟩
    | _ => none) (fun _ => none) (fun _ => none) (fun
    | 9, 2 => 1
    | _, _ => 0)
  | _ => {}

theorem ok28 : Abs.SpecOK Tryz.prog 28 sp28 :=
  okW (an := an28) (alc ok55 (alc ok56 (alc ok69 al0))) rfl (by intro v; kernel_rfl)

/- 64 slices.Delete[[]pagewatch/api.Message,pagewatch/api.Message]: not told by a law: run where it is called -/

/- 114 pagewatch/region.hearers$1$1: not told by a law: a closure -/

/- 113 pagewatch/region.hearers$1: not told by a law: a parameter -/

/- pagewatch/vote.Heard -/
def i122 : Abs.Sg := ⟨[0, 1, 2, 3], (.dat (.int .i64) (.dat Z3 (.dat Z4 Qs3))), .nil⟩

def o122 : Abs.Sg := ⟨[8], Qs12, .nil⟩

def m122 (v : ((Int × Y8 × Y9 × Int × Unit) × (Unit))) : Option Y15 :=
(((m84 ((v.1.1, (v.1.2.1, ())), ())).bind fun u7 =>
bif u7.1.1 then (bif ((v.1.2.2.1.1 : Int) == v.1.2.2.2.1) then (bif ((v.1.2.2.1.2.2.1 : Int) == v.1.2.1.1) then ((m108 ((v.1.2.2.1.2.1, (0, ((w64 (v.1.1 - 1)), ()))), ())).bind fun u8 =>
bif u8.1.1 then (bif ((v.1.2.2.1.2.1 : Int) != v.1.2.1.1) then ((m108 ((v.1.2.2.1.2.2.2.1, (1, (1048576, ()))), ())).bind fun u9 =>
some ((u9.1.1, ()), ()))
else (some ((false, ()), ())))
else (some ((false, ()), ())))
else (some ((false, ()), ())))
else (some ((false, ()), ())))
else (some ((false, ()), ()))) : Option Y15).bind fun v10 =>
some ((v10.1.1, ()), ())

def sp122 : Abs.Spec := ⟨0, i122, o122, m122⟩

def an122 : Nat → Abs.FAn
  | 0 => Abs.FAn.mk (fun
    | 1 => some ⟨[8], Qs12, .nil⟩
    | _ => none) (fun _ => none) (fun _ => none) (fun _ _ => 0)
  | _ => {}

theorem ok122 : Abs.SpecOK Tryz.prog 122 sp122 :=
  okW (an := an122) (alc ok84 (alc ok108 al0)) rfl (by intro v; kernel_rfl)

/- pagewatch/vote.Follow -/
def i123 : Abs.Sg := ⟨[0, 1], (.dat Z3 Qs3), .nil⟩

def o123 : Abs.Sg := ⟨[4], (.st Qx10 .nil), Qb14⟩

def m123 (v : ((Y8 × Int × Unit) × (Unit))) : Option ((Unit) × ((Y8 × Unit) × Unit)) :=
(((m108 ((v.1.2.1, ((w64 (v.1.1.2.1 + 1)), (1048576, ()))), ())).bind fun u5 =>
bif u5.1.1 then (some ((), (((0, (0, (0, (0, (0, ()))))), ()), (((v.1.1.1, (v.1.2.1, ((-1), (0, (v.1.1.2.2.2.2.1, (v.1.1.2.2.2.2.2.1, ([], ([], ())))))))), ()), ()))))
else (some ((), (((0, (0, (0, (0, (0, ()))))), ()), ((v.1.1, ()), ()))))) : Option ((Unit) × (Y12 × (Y8 × Unit) × Unit))).bind fun v6 =>
some ((), ((v6.2.2.1.1, ()), ()))

def sp123 : Abs.Spec := ⟨0, i123, o123, m123⟩

def an123 : Nat → Abs.FAn
  | 0 => Abs.FAn.mk (fun _ => none) (fun
    | 3 => some (⟨[4, 2], Qs41, (.box 8 Qs1 Qb14)⟩, none)
    | _ => none) (fun _ => none) (fun _ _ => 0)
  | _ => {}

theorem ok123 : Abs.SpecOK Tryz.prog 123 sp123 :=
  okW (an := an123) (alc ok108 al0) rfl (by intro v; kernel_rfl)

/- pagewatch/vote.Fresh -/
def i124 : Abs.Sg := ⟨[0, 1, 2], (.dat Z3 Qs13), .nil⟩

def o124 : Abs.Sg := ⟨[6], Qs12, .nil⟩

def m124 (v : ((Y8 × Int × Int × Unit) × (Unit))) : Option Y15 :=
(((m98 ((v.1.1, ()), ())).bind fun u7 =>
bif (decide ((v.1.2.2.1 : Int) > u7.1.1)) then (some ((true, ()), ()))
else ((m98 ((v.1.1, ()), ())).bind fun u8 =>
bif ((v.1.2.2.1 : Int) == u8.1.1) then (let x9 := (decide ((v.1.2.1 : Int) ≥ (v.1.1.2.2.2.2.1.length : Int)))
some ((x9, ()), ()))
else (some ((false, ()), ())))) : Option Y15).bind fun v10 =>
some ((v10.1.1, ()), ())

def sp124 : Abs.Spec := ⟨0, i124, o124, m124⟩

def an124 : Nat → Abs.FAn
  | 0 => Abs.FAn.mk (fun
    | 1 => some ⟨[6], Qs12, .nil⟩
    | _ => none) (fun _ => none) (fun _ => none) (fun _ _ => 0)
  | _ => {}

theorem ok124 : Abs.SpecOK Tryz.prog 124 sp124 :=
  okW (an := an124) (alc ok98 al0) rfl (by intro v; kernel_rfl)

/- pagewatch/vote.Hear -/
def i115 : Abs.Sg := ⟨[0, 1, 2], Qs30, .nil⟩

def o115 : Abs.Sg := ⟨[6, 7, 8], (.st Qx10 (.st Qx35 Qs12)), (.box 8 Qs21 (.box 9 Qs5 .nil))⟩

def m115 (v : ((Int × Y8 × Y9 × Unit) × (Unit))) : Option ((Bool × Unit) × ((Y8 × Unit) × Y17 × Unit)) :=
(m94 ((v.1.2.1, ()), ())).bind fun u19 =>
(m122 ((v.1.1, ((u19.2.1.1.1, (u19.2.1.1.2.1, (u19.2.1.1.2.2.1, (u19.2.1.1.2.2.2.1, (u19.2.2.1, (u19.2.1.1.2.2.2.2.1, (u19.2.2.2.1, (u19.2.2.2.2.1, ())))))))), (v.1.2.2.1, (1, ())))), ())).bind fun u20 =>
bif (!u20.1.1) then (some ((false, ()), (((u19.2.1.1.1, (u19.2.1.1.2.1, (u19.2.1.1.2.2.1, (u19.2.1.1.2.2.2.1, (u19.2.2.1, (u19.2.1.1.2.2.2.2.1, (u19.2.2.2.1, (u19.2.2.2.2.1, ())))))))), ()), (((0, (0, (0, (0, (0, (0, (0, (false, ())))))))), ()), ()))))
else ((m123 (((u19.2.1.1.1, (u19.2.1.1.2.1, (u19.2.1.1.2.2.1, (u19.2.1.1.2.2.2.1, (u19.2.2.1, (u19.2.1.1.2.2.2.2.1, (u19.2.2.2.1, (u19.2.2.2.2.1, ())))))))), (v.1.2.2.1.2.2.2.1, ())), ())).bind fun u21 =>
((bif ((u21.2.1.1.2.1 : Int) == v.1.2.2.1.2.2.2.1) then (bif ((u21.2.1.1.2.2.1 : Int) == (-1)) then (bif ((u21.2.1.1.2.2.2.1 : Int) == 0) then ((m124 ((u21.2.1.1, (v.1.2.2.1.2.2.2.2.1, (v.1.2.2.1.2.2.2.2.2.1, ()))), ())).bind fun u22 =>
some ((u22.1.1, ()), (((0, (0, (0, (0, (0, ()))))), ()), (((0, (0, (0, (0, (0, (0, (0, (false, ())))))))), ()), ((u21.2.1.1, ()), ((v.1.2.2.1, ()), ()))))))
else (some ((false, ()), (((0, (0, (0, (0, (0, ()))))), ()), (((0, (0, (0, (0, (0, (0, (0, (false, ())))))))), ()), ((u21.2.1.1, ()), ((v.1.2.2.1, ()), ())))))))
else (bif ((u21.2.1.1.2.2.1 : Int) == v.1.2.2.1.2.1) then (bif ((u21.2.1.1.2.2.2.1 : Int) == 0) then ((m124 ((u21.2.1.1, (v.1.2.2.1.2.2.2.2.1, (v.1.2.2.1.2.2.2.2.2.1, ()))), ())).bind fun u23 =>
some ((u23.1.1, ()), (((0, (0, (0, (0, (0, ()))))), ()), (((0, (0, (0, (0, (0, (0, (0, (false, ())))))))), ()), ((u21.2.1.1, ()), ((v.1.2.2.1, ()), ()))))))
else (some ((false, ()), (((0, (0, (0, (0, (0, ()))))), ()), (((0, (0, (0, (0, (0, (0, (0, (false, ())))))))), ()), ((u21.2.1.1, ()), ((v.1.2.2.1, ()), ())))))))
else (some ((false, ()), (((0, (0, (0, (0, (0, ()))))), ()), (((0, (0, (0, (0, (0, (0, (0, (false, ())))))))), ()), ((u21.2.1.1, ()), ((v.1.2.2.1, ()), ()))))))))
else (some ((false, ()), (((0, (0, (0, (0, (0, ()))))), ()), (((0, (0, (0, (0, (0, (0, (0, (false, ())))))))), ()), ((u21.2.1.1, ()), ((v.1.2.2.1, ()), ()))))))) : Option ((Bool × Unit) × (Y12 × Y17 × (Y8 × Unit) × (Y9 × Unit) × Unit))).bind fun v24 =>
((bif v24.1.1 then (some ((v24.1.1, ()), (((v24.2.1.1.1, (v24.2.1.1.2.1, (v24.2.1.1.2.2.1, (v24.2.1.1.2.2.2.1, (v24.2.1.1.2.2.2.2.1, ()))))), ()), (((v24.2.2.1.1.1, (v24.2.2.1.1.2.1, (v24.2.2.1.1.2.2.1, (v24.2.2.1.1.2.2.2.1, (v24.2.2.1.1.2.2.2.2.1, (v24.2.2.1.1.2.2.2.2.2.1, (v24.2.2.1.1.2.2.2.2.2.2.1, (v24.2.2.1.1.2.2.2.2.2.2.2.1, ())))))))), ()), (((v24.2.2.2.1.1.1, (v24.2.2.2.1.1.2.1, (v24.2.2.2.2.1.1.2.1, v24.2.2.2.1.1.2.2.2))), ()), ((v24.2.2.2.2.1.1, ()), ()))))))
else (some ((v24.1.1, ()), (((v24.2.1.1.1, (v24.2.1.1.2.1, (v24.2.1.1.2.2.1, (v24.2.1.1.2.2.2.1, (v24.2.1.1.2.2.2.2.1, ()))))), ()), (((v24.2.2.1.1.1, (v24.2.2.1.1.2.1, (v24.2.2.1.1.2.2.1, (v24.2.2.1.1.2.2.2.1, (v24.2.2.1.1.2.2.2.2.1, (v24.2.2.1.1.2.2.2.2.2.1, (v24.2.2.1.1.2.2.2.2.2.2.1, (v24.2.2.1.1.2.2.2.2.2.2.2.1, ())))))))), ()), ((v24.2.2.2.1.1, ()), ((v24.2.2.2.2.1.1, ()), ()))))))) : Option ((Bool × Unit) × (Y12 × Y17 × (Y8 × Unit) × (Y9 × Unit) × Unit))).bind fun v25 =>
some ((true, ()), ((v25.2.2.2.1.1, ()), (((2, (v25.2.2.2.1.1.1, (v25.2.2.2.2.1.1.2.1, (v25.2.2.2.1.1.2.1, (0, (0, (0, (v25.1.1, ())))))))), ()), ()))))

def sp115 : Abs.Spec := ⟨0, i115, o115, m115⟩

def an115 : Nat → Abs.FAn
  | 0 => Abs.FAn.mk (fun
    | 5 => some ⟨[6, 7, 9, 4, 5], (.st Qx10 (.st Qx35 (.dat .bool (.st Qx38 (.st (.ptr (3, 0) 9 0 0) .nil))))), (.box 8 Qs1 (.box 9 Qs5 Qb28))⟩
    | _ => none) (fun
    | 8 => some (⟨[6, 7, 9, 4, 5], (.st Qx10 (.st Qx35 (.dat .bool (.st Qx38 (.st (.ptr (3, 0) 9 0 0) .nil))))), (.box 8 Qs1 (.box 9 Qs5 Qb28))⟩, none)
    | _ => none) (fun _ => none) (fun _ _ => 0)
  | _ => {}

theorem ok115 : Abs.SpecOK Tryz.prog 115 sp115 :=
  okW (an := an115) (alc ok94 (alc ok122 (alc ok123 (alc ok124 al0)))) rfl (by intro v; kernel_rfl)

/- pagewatch/vote.Voted -/
def i116 : Abs.Sg := ⟨[0, 1, 2], Qs30, .nil⟩

def o116 : Abs.Sg := ⟨[6], (.st Qx10 .nil), Qb14⟩

def m116 (v : ((Int × Y8 × Y9 × Unit) × (Unit))) : Option ((Unit) × ((Y8 × Unit) × Unit)) :=
(m94 ((v.1.2.1, ()), ())).bind fun u19 =>
(m122 ((v.1.1, ((u19.2.1.1.1, (u19.2.1.1.2.1, (u19.2.1.1.2.2.1, (u19.2.1.1.2.2.2.1, (u19.2.2.1, (u19.2.1.1.2.2.2.2.1, (u19.2.2.2.1, (u19.2.2.2.2.1, ())))))))), (v.1.2.2.1, (2, ())))), ())).bind fun u20 =>
bif (!u20.1.1) then (some ((), (((u19.2.1.1.1, (u19.2.1.1.2.1, (u19.2.1.1.2.2.1, (u19.2.1.1.2.2.2.1, (u19.2.2.1, (u19.2.1.1.2.2.2.2.1, (u19.2.2.2.1, (u19.2.2.2.2.1, ())))))))), ()), ())))
else (let x21 := (decide ((v.1.2.2.1.2.2.2.1 : Int) > u19.2.1.1.2.1))
bif x21 then ((m123 (((u19.2.1.1.1, (u19.2.1.1.2.1, (u19.2.1.1.2.2.1, (u19.2.1.1.2.2.2.1, (u19.2.2.1, (u19.2.1.1.2.2.2.2.1, (u19.2.2.2.1, (u19.2.2.2.2.1, ())))))))), (v.1.2.2.1.2.2.2.1, ())), ())).bind fun u22 =>
some ((), ((u22.2.1.1, ()), ())))
else (((bif ((u19.2.1.1.2.2.2.1 : Int) != 1) then (some ((true, (v.1.1, ())), (((0, (0, (0, (0, (0, ()))))), ()), (((u19.2.1.1.1, (u19.2.1.1.2.1, (u19.2.1.1.2.2.1, (u19.2.1.1.2.2.2.1, (u19.2.1.1.2.2.2.2.1, ()))))), ()), ((v.1.2.2.1, ()), (u19.2.2.1, (u19.2.2.2.1, (u19.2.2.2.2.1, ()))))))))
else (bif ((v.1.2.2.1.2.2.2.1 : Int) != u19.2.1.1.2.1) then (some ((true, (v.1.1, ())), (((0, (0, (0, (0, (0, ()))))), ()), (((u19.2.1.1.1, (u19.2.1.1.2.1, (u19.2.1.1.2.2.1, (u19.2.1.1.2.2.2.1, (u19.2.1.1.2.2.2.2.1, ()))))), ()), ((v.1.2.2.1, ()), (u19.2.2.1, (u19.2.2.2.1, (u19.2.2.2.2.1, ()))))))))
else (some (((!v.1.2.2.1.2.2.2.2.2.2.2.2.1), (v.1.1, ())), (((0, (0, (0, (0, (0, ()))))), ()), (((u19.2.1.1.1, (u19.2.1.1.2.1, (u19.2.1.1.2.2.1, (u19.2.1.1.2.2.2.1, (u19.2.1.1.2.2.2.2.1, ()))))), ()), ((v.1.2.2.1, ()), (u19.2.2.1, (u19.2.2.2.1, (u19.2.2.2.2.1, ())))))))))) : Option ((Bool × Int × Unit) × (Y12 × Y12 × (Y9 × Unit) × Y2 × (List Bool) × (List Int) × Unit))).bind fun v23 =>
bif v23.1.1 then (some ((), (((v23.2.2.1.1.1, (v23.2.2.1.1.2.1, (v23.2.2.1.1.2.2.1, (v23.2.2.1.1.2.2.2.1, (v23.2.2.2.2.1, (v23.2.2.1.1.2.2.2.2.1, (v23.2.2.2.2.2.1, (v23.2.2.2.2.2.2.1, ())))))))), ()), ())))
else (bif (decide ((0 : Int) ≤ v23.2.2.2.1.1.2.1 ∧ (v23.2.2.2.1.1.2.1 : Int) < v23.2.2.2.2.2.1.length)) then
bif (decide (v23.2.2.2.1.1.2.1.toNat < v23.2.2.2.2.2.1.length)) then
(m99 ((v23.1.2.1, ((v23.2.2.1.1.1, (v23.2.2.1.1.2.1, (v23.2.2.1.1.2.2.1, (v23.2.2.1.1.2.2.2.1, (v23.2.2.2.2.1, (v23.2.2.1.1.2.2.2.2.1, ((v23.2.2.2.2.2.1.set v23.2.2.2.1.1.2.1.toNat true), (v23.2.2.2.2.2.2.1, ())))))))), ())), ())).bind fun u24 =>
some ((), ((u24.2.1.1, ()), ()))
else none
else none)))

def sp116 : Abs.Spec := ⟨0, i116, o116, m116⟩

def an116 : Nat → Abs.FAn
  | 0 => Abs.FAn.mk (fun
    | 6 => some ⟨[38, 6, 4, 0, 5], Qs32, Qb16⟩
    | _ => none) (fun _ => none) (fun _ => none) (fun _ _ => 0)
  | _ => {}

theorem ok116 : Abs.SpecOK Tryz.prog 116 sp116 :=
  okW (an := an116) (alc ok94 (alc ok122 (alc ok123 (alc ok99 al0)))) rfl (by intro v; kernel_rfl)

/- pagewatch/replica.fits -/
def i125 : Abs.Sg := ⟨[0, 1], (.dat Z3 (.dat Z4 .nil)), .nil⟩

def o125 : Abs.Sg := ⟨[4], Qs12, .nil⟩

def m125 (v : ((Y8 × Y9 × Unit) × (Unit))) : Option Y15 :=
((bif ((v.1.2.1.2.2.2.1 : Int) == v.1.1.2.1) then (bif ((v.1.1.2.2.2.1 : Int) != 2) then (let x5 := (decide ((v.1.2.1.2.2.2.2.1 : Int) ≤ (v.1.1.2.2.2.2.1.length : Int)))
bif x5 then (bif ((v.1.2.1.2.2.2.2.1 : Int) == 0) then (some ((true, ()), ()))
else (Abs.rowAt v.1.1.2.2.2.2.1 (w64 (v.1.2.1.2.2.2.2.1 - 1)) fun e6 _ =>
some ((((e6.1 : Int) == v.1.2.1.2.2.2.2.2.1), ()), ())))
else (some ((false, ()), ())))
else (some ((false, ()), ())))
else (some ((false, ()), ()))) : Option Y15).bind fun v7 =>
some ((v7.1.1, ()), ())

def sp125 : Abs.Spec := ⟨0, i125, o125, m125⟩

def an125 : Nat → Abs.FAn
  | 0 => Abs.FAn.mk (fun
    | 1 => some ⟨[4], Qs12, .nil⟩
    | _ => none) (fun _ => none) (fun _ => none) (fun _ _ => 0)
  | _ => {}

theorem ok125 : Abs.SpecOK Tryz.prog 125 sp125 :=
  okW (an := an125) al0 rfl (by intro v; kernel_rfl)

def l126_0_2 (v : ((Int × Unit) × ((Y8 × Unit) × (Y9 × Unit) × Unit))) : Option (((Int × Unit) × ((Y8 × Unit) × (Y9 × Unit) × Unit)) ⊕ ((Int × Unit) × ((Y8 × Unit) × (Y9 × Unit) × Unit))) :=
((let x61 := (decide ((v.1.1 : Int) < (v.2.2.1.1.2.2.2.2.2.2.2.1.length : Int)))
bif x61 then (let x62 := (decide (((w64 (v.2.2.1.1.2.2.2.2.1 + v.1.1)) : Int) < (v.2.1.1.2.2.2.2.1.length : Int)))
bif x62 then (Abs.rowAt v.2.1.1.2.2.2.2.1 (w64 (v.2.2.1.1.2.2.2.2.1 + v.1.1)) fun e63 _ =>
Abs.rowAt v.2.2.1.1.2.2.2.2.2.2.2.1 v.1.1 fun e64 _ =>
some ((((e63.1 : Int) == e64.1), (v.1.1, ())), ((v.2.1.1, ()), ((v.2.2.1.1, ()), ()))))
else (some ((false, (v.1.1, ())), ((v.2.1.1, ()), ((v.2.2.1.1, ()), ())))))
else (some ((false, (v.1.1, ())), ((v.2.1.1, ()), ((v.2.2.1.1, ()), ()))))) : Option ((Bool × Int × Unit) × ((Y8 × Unit) × (Y9 × Unit) × Unit))).bind fun v65 =>
bif v65.1.1 then (some (.inl (((w64 (v65.1.2.1 + 1)), ()), ((v65.2.1.1, ()), ((v65.2.2.1.1, ()), ())))))
else (some (.inr ((v65.1.2.1, ()), ((v65.2.1.1, ()), ((v65.2.2.1.1, ()), ())))))

def l126_0_10 (v : ((Int × Int × Y2 × Y2 × Int × Int × Unit) × ((Y9 × Unit) × (Y8 × Unit) × Unit))) : Option (((Int × Int × Y2 × Y2 × Int × Int × Unit) × ((Y9 × Unit) × (Y8 × Unit) × Unit)) ⊕ (((Bool × Unit) × (Y2 × Unit)) ⊕ ((Y2 × Int × Unit) × ((Y8 × Unit) × Unit)))) :=
bif (decide ((v.1.1 : Int) < v.1.2.2.2.2.2.1)) then (Abs.rowAt v.1.2.2.1 v.1.1 fun e71 _ =>
((bif (decide ((e71.1 : Int) < v.1.2.1)) then (some ((true, (v.1.2.2.1, (v.1.2.2.2.1, (v.1.2.2.2.2.1, (v.1.2.2.2.2.2.1, (v.1.1, ())))))), ((v.2.1.1, ()), ((v.2.2.1.1, ()), ((e71, ()), ())))))
else (some (((decide ((e71.1 : Int) > v.2.1.1.2.2.2.1)), (v.1.2.2.1, (v.1.2.2.2.1, (v.1.2.2.2.2.1, (v.1.2.2.2.2.2.1, (v.1.1, ())))))), ((v.2.1.1, ()), ((v.2.2.1.1, ()), ((e71, ()), ())))))) : Option ((Bool × Y2 × Y2 × Int × Int × Int × Unit) × ((Y9 × Unit) × (Y8 × Unit) × ((Int × Y10 × Unit) × Unit) × Unit))).bind fun v72 =>
bif v72.1.1 then (some (.inr (.inl ((false, ()), ([], ())))))
else (some (.inl (((w64 (v72.1.2.2.2.2.2.1 + 1)), (v72.2.2.2.1.1.1, (v72.1.2.1, (v72.1.2.2.1, (v72.1.2.2.2.1, (v72.1.2.2.2.2.1, ())))))), ((v72.2.1.1, ()), ((v72.2.2.1.1, ()), ()))))))
else (some (.inr (.inr ((v.1.2.2.2.1, (v.1.2.2.2.2.1, ())), ((v.2.2.1.1, ()), ())))))

/- pagewatch/replica.joined -/
def i126 : Abs.Sg := ⟨[0, 1], (.dat Z3 (.dat Z4 .nil)), .nil⟩

def o126 : Abs.Sg := ⟨[4, 5], (.dat (.row Z1) Qs12), .nil⟩

def m126 (v : ((Y8 × Y9 × Unit) × (Unit))) : Option ((Y2 × Bool × Unit) × (Unit)) :=
(loopT l126_0_2 ((0, ()), ((v.1.1, ()), ((v.1.2.1, ()), ())))).bind fun d66 =>
let x67 := ((d66.1.1 : Int) == (d66.2.2.1.1.2.2.2.2.2.2.2.1.length : Int))
bif x67 then (some ((d66.2.1.1.2.2.2.2.1, (true, ())), ()))
else (((bif (decide ((0 : Int) ≤ (w64 (d66.2.2.1.1.2.2.2.2.1 + d66.1.1)))) then
bif (decide ((0 : Int) ≤ (w64 (d66.2.2.1.1.2.2.2.2.1 + d66.1.1)))) then
bif (decide (0 ≤ (w64 (d66.2.2.1.1.2.2.2.2.1 + d66.1.1)).toNat ∧ (w64 (d66.2.2.1.1.2.2.2.2.1 + d66.1.1)).toNat = (w64 (d66.2.2.1.1.2.2.2.2.1 + d66.1.1)).toNat ∧ (w64 (d66.2.2.1.1.2.2.2.2.1 + d66.1.1)).toNat ≤ d66.2.1.1.2.2.2.2.1.length)) then
let x68 := (d66.2.1.1.2.2.2.2.1.take (w64 (d66.2.2.1.1.2.2.2.2.1 + d66.1.1)).toNat)
bif (decide ((0 : Int) ≤ d66.1.1)) then
bif (decide (d66.1.1.toNat ≤ d66.2.2.1.1.2.2.2.2.2.2.2.1.length ∧ d66.2.2.1.1.2.2.2.2.2.2.2.1.length ≤ d66.2.2.1.1.2.2.2.2.2.2.2.1.length)) then
let x69 := ((d66.2.2.1.1.2.2.2.2.2.2.2.1.drop d66.1.1.toNat).take (d66.2.2.1.1.2.2.2.2.2.2.2.1.length - d66.1.1.toNat))
bif x68.isEmpty then (bif (decide (x68.length + x69.length ≤ 4294967296)) then
some (((x68 ++ x69), ((w64 (d66.2.2.1.1.2.2.2.2.1 + d66.1.1)), ())), ((d66.2.2.1.1, ()), ((d66.2.1.1, ()), ())))
else none)
else (bif x69.isEmpty then (some ((x68, ((w64 (d66.2.2.1.1.2.2.2.2.1 + d66.1.1)), ())), ((d66.2.2.1.1, ()), ((d66.2.1.1, ()), ()))))
else (bif (decide (x68.length + x69.length ≤ 4294967296)) then
some (((x68 ++ x69), ((w64 (d66.2.2.1.1.2.2.2.2.1 + d66.1.1)), ())), ((d66.2.2.1.1, ()), ((d66.2.1.1, ()), ())))
else none))
else none
else none
else none
else none
else none) : Option ((Y2 × Int × Unit) × ((Y9 × Unit) × (Y8 × Unit) × Unit))).bind fun v70 =>
(loopT l126_0_10 ((0, (1, (v70.1.1, (v70.1.1, (v70.1.2.1, ((v70.1.1.length : Int), ())))))), ((v70.2.1.1, ()), ((v70.2.2.1.1, ()), ())))).bind fun d73 =>
sumE d73 (fun d74 => (some ((d74.2.1, (d74.1.1, ())), ()))) (fun d75 => (((let x76 := (decide ((d75.1.2.1 : Int) ≥ d75.2.1.1.2.2.2.2.2.1))
bif x76 then (some ((d75.1.1, ((decide (((d75.1.1.length : Int) : Int) ≤ 256)), ())), ()))
else (some ((d75.1.1, (false, ())), ()))) : Option ((Y2 × Bool × Unit) × (Unit))).bind fun v77 =>
some ((v77.1.1, (v77.1.2.1, ())), ()))))

def sp126 : Abs.Spec := ⟨0, i126, o126, m126⟩

def an126 : Nat → Abs.FAn
  | 0 => Abs.FAn.mk (fun
    | 16 => some ⟨[4, 5], (.dat (.row Z1) Qs12), .nil⟩
    | 12 => some ⟨[84, 3, 68, 8, 2, 7, 69, 70, 11], (.dat .bool (.st (.ptr (0, 0) 9 0 0) (.dat (.row Z1) (.dat (.row Z1) (.st Qx20 (.dat (.int .i64) (.dat (.int .i64) (.dat (.int .i64) (.st (.ptr (2, 0) 21 0 0) .nil))))))))), (.box 9 (.dat Z4 .nil) (.box 8 Qs21 (.box 21 (.dat Z1 .nil) .nil)))⟩
    | 7 => some ⟨[3, 8, 2, 7], (.st (.ptr (0, 0) 9 0 0) (.dat (.row Z1) (.st Qx20 Qs3))), (.box 9 (.dat Z4 .nil) Qb14)⟩
    | 2 => some ⟨[44, 2, 3, 6], (.dat .bool (.st Qx10 (.st Qx35 Qs3))), Qb28⟩
    | _ => none) (fun _ => none) (fun
    | 10 => some ⟨⟨[70, 3, 9, 68, 8, 2, 7, 69], (.dat (.int .i64) (.st (.ptr (0, 0) 9 0 0) (.dat (.int .i64) (.dat (.row Z1) (.dat (.row Z1) (.st Qx20 Qs13)))))), (.box 9 (.dat Z4 .nil) Qb14)⟩, (.more .ret ⟨[4, 5], (.st (.own Z1 (0, 0)) Qs12), (.arr Z1 false .nil)⟩ (.one (.exit 2) ⟨[8, 2, 7], (.dat (.row Z1) (.st Qx10 Qs3)), Qb14⟩))⟩
    | 2 => some ⟨⟨[6, 2, 3], (.dat (.int .i64) (.st Qx10 (.st Qx35 .nil))), Qb28⟩, (.one (.exit 0) ⟨[2, 3, 6], (.st Qx10 (.st Qx35 Qs3)), Qb28⟩)⟩
    | _ => none) (fun _ _ => 0)
  | _ => {}

theorem ok126 : Abs.SpecOK Tryz.prog 126 sp126 :=
  okW (an := an126) al0 rfl (by intro v; kernel_rfl)

/- pagewatch/replica.Accept -/
def i117 : Abs.Sg := ⟨[0, 1, 2], Qs30, .nil⟩

def o117 : Abs.Sg := ⟨[6, 7, 8], (.st Qx10 (.st Qx35 Qs12)), (.box 8 Qs21 (.box 9 Qs5 .nil))⟩

def m117 (v : ((Int × Y8 × Y9 × Unit) × (Unit))) : Option ((Bool × Unit) × ((Y8 × Unit) × Y17 × Unit)) :=
(m94 ((v.1.2.1, ()), ())).bind fun u40 =>
(((m122 ((v.1.1, (v.1.2.1, (v.1.2.2.1, (3, ())))), ())).bind fun u41 =>
bif (!u41.1.1) then (some ((true, ()), (((0, (0, (0, (0, (0, ()))))), ()), (((0, (0, (0, (0, (0, (0, (0, (false, ())))))))), ()), (((u40.2.1.1.1, (u40.2.1.1.2.1, (u40.2.1.1.2.2.1, (u40.2.1.1.2.2.2.1, (u40.2.1.1.2.2.2.2.1, ()))))), ()), ((v.1.2.1, ()), ((v.1.2.2.1, ()), (u40.2.2.1, (u40.2.2.2.1, (u40.2.2.2.2.1, ()))))))))))
else (bif (decide ((v.1.2.2.1.2.2.2.2.1 : Int) < 0)) then (some ((true, ()), (((0, (0, (0, (0, (0, ()))))), ()), (((0, (0, (0, (0, (0, (0, (0, (false, ())))))))), ()), (((u40.2.1.1.1, (u40.2.1.1.2.1, (u40.2.1.1.2.2.1, (u40.2.1.1.2.2.2.1, (u40.2.1.1.2.2.2.2.1, ()))))), ()), ((v.1.2.1, ()), ((v.1.2.2.1, ()), (u40.2.2.1, (u40.2.2.2.1, (u40.2.2.2.2.1, ()))))))))))
else (bif (decide ((v.1.2.2.1.2.2.2.2.2.1 : Int) < 0)) then (some ((true, ()), (((0, (0, (0, (0, (0, ()))))), ()), (((0, (0, (0, (0, (0, (0, (0, (false, ())))))))), ()), (((u40.2.1.1.1, (u40.2.1.1.2.1, (u40.2.1.1.2.2.1, (u40.2.1.1.2.2.2.1, (u40.2.1.1.2.2.2.2.1, ()))))), ()), ((v.1.2.1, ()), ((v.1.2.2.1, ()), (u40.2.2.1, (u40.2.2.2.1, (u40.2.2.2.2.1, ()))))))))))
else (some (((decide ((v.1.2.2.1.2.2.2.2.2.2.1 : Int) < 0)), ()), (((0, (0, (0, (0, (0, ()))))), ()), (((0, (0, (0, (0, (0, (0, (0, (false, ())))))))), ()), (((u40.2.1.1.1, (u40.2.1.1.2.1, (u40.2.1.1.2.2.1, (u40.2.1.1.2.2.2.1, (u40.2.1.1.2.2.2.2.1, ()))))), ()), ((v.1.2.1, ()), ((v.1.2.2.1, ()), (u40.2.2.1, (u40.2.2.2.1, (u40.2.2.2.2.1, ()))))))))))))) : Option ((Bool × Unit) × (Y12 × Y17 × Y12 × (Y8 × Unit) × (Y9 × Unit) × Y2 × (List Bool) × (List Int) × Unit))).bind fun v42 =>
bif v42.1.1 then (some ((false, ()), (((v42.2.2.2.1.1.1, (v42.2.2.2.1.1.2.1, (v42.2.2.2.1.1.2.2.1, (v42.2.2.2.1.1.2.2.2.1, (v42.2.2.2.2.2.2.1, (v42.2.2.2.1.1.2.2.2.2.1, (v42.2.2.2.2.2.2.2.1, (v42.2.2.2.2.2.2.2.2.1, ())))))))), ()), (((0, (0, (0, (0, (0, (0, (0, (false, ())))))))), ()), ()))))
else ((m94 ((v42.2.2.2.2.1.1, ()), ())).bind fun u43 =>
(m123 (((u43.2.1.1.1, (u43.2.1.1.2.1, (u43.2.1.1.2.2.1, (u43.2.1.1.2.2.2.1, (u43.2.2.1, (u43.2.1.1.2.2.2.2.1, (u43.2.2.2.1, (u43.2.2.2.2.1, ())))))))), (v42.2.2.2.2.2.1.1.2.2.2.1, ())), ())).bind fun u44 =>
((((bif ((u44.2.1.1.2.2.2.1 : Int) == 1) then (let x45 := ((u44.2.1.1.2.1 : Int) == v42.2.2.2.2.2.1.1.2.2.2.1)
some ((x45, ()), (((v42.2.1.1.1, (v42.2.1.1.2.1, (v42.2.1.1.2.2.1, (v42.2.1.1.2.2.2.1, (v42.2.1.1.2.2.2.2.1, ()))))), ()), (((v42.2.2.1.1.1, (v42.2.2.1.1.2.1, (v42.2.2.1.1.2.2.1, (v42.2.2.1.1.2.2.2.1, (v42.2.2.1.1.2.2.2.2.1, (v42.2.2.1.1.2.2.2.2.2.1, (v42.2.2.1.1.2.2.2.2.2.2.1, (v42.2.2.1.1.2.2.2.2.2.2.2.1, ())))))))), ()), ((u44.2.1.1, ()), (((v42.2.2.2.1.1.1, (v42.2.2.2.1.1.2.1, (v42.2.2.2.1.1.2.2.1, (v42.2.2.2.1.1.2.2.2.1, (v42.2.2.2.1.1.2.2.2.2.1, ()))))), ()), ((v42.2.2.2.2.2.1.1, ()), (v42.2.2.2.2.2.2.1, (v42.2.2.2.2.2.2.2.1, (v42.2.2.2.2.2.2.2.2.1, ()))))))))))
else (some ((false, ()), (((v42.2.1.1.1, (v42.2.1.1.2.1, (v42.2.1.1.2.2.1, (v42.2.1.1.2.2.2.1, (v42.2.1.1.2.2.2.2.1, ()))))), ()), (((v42.2.2.1.1.1, (v42.2.2.1.1.2.1, (v42.2.2.1.1.2.2.1, (v42.2.2.1.1.2.2.2.1, (v42.2.2.1.1.2.2.2.2.1, (v42.2.2.1.1.2.2.2.2.2.1, (v42.2.2.1.1.2.2.2.2.2.2.1, (v42.2.2.1.1.2.2.2.2.2.2.2.1, ())))))))), ()), ((u44.2.1.1, ()), (((v42.2.2.2.1.1.1, (v42.2.2.2.1.1.2.1, (v42.2.2.2.1.1.2.2.1, (v42.2.2.2.1.1.2.2.2.1, (v42.2.2.2.1.1.2.2.2.2.1, ()))))), ()), ((v42.2.2.2.2.2.1.1, ()), (v42.2.2.2.2.2.2.1, (v42.2.2.2.2.2.2.2.1, (v42.2.2.2.2.2.2.2.2.1, ()))))))))))) : Option ((Bool × Unit) × (Y12 × Y17 × (Y8 × Unit) × Y12 × (Y9 × Unit) × Y2 × (List Bool) × (List Int) × Unit))).bind fun v46 =>
bif v46.1.1 then (some ((), (((v46.2.1.1.1, (v46.2.1.1.2.1, (v46.2.1.1.2.2.1, (v46.2.1.1.2.2.2.1, (v46.2.1.1.2.2.2.2.1, ()))))), ()), (((v46.2.2.1.1.1, (v46.2.2.1.1.2.1, (v46.2.2.1.1.2.2.1, (v46.2.2.1.1.2.2.2.1, (v46.2.2.1.1.2.2.2.2.1, (v46.2.2.1.1.2.2.2.2.2.1, (v46.2.2.1.1.2.2.2.2.2.2.1, (v46.2.2.1.1.2.2.2.2.2.2.2.1, ())))))))), ()), (((v46.2.2.2.1.1.1, (v46.2.2.2.1.1.2.1, (v46.2.2.2.1.1.2.2.1, (0, (v46.2.2.2.1.1.2.2.2.2.1, (v46.2.2.2.1.1.2.2.2.2.2.1, ([], v46.2.2.2.1.1.2.2.2.2.2.2.2))))))), ()), (((v46.2.2.2.2.1.1.1, (v46.2.2.2.2.1.1.2.1, (v46.2.2.2.2.1.1.2.2.1, (v46.2.2.2.2.1.1.2.2.2.1, (v46.2.2.2.2.1.1.2.2.2.2.1, ()))))), ()), ((v46.2.2.2.2.2.1.1, ()), (v46.2.2.2.2.2.2.1, (v46.2.2.2.2.2.2.2.1, (v46.2.2.2.2.2.2.2.2.1, ()))))))))))
else (some ((), (((v46.2.1.1.1, (v46.2.1.1.2.1, (v46.2.1.1.2.2.1, (v46.2.1.1.2.2.2.1, (v46.2.1.1.2.2.2.2.1, ()))))), ()), (((v46.2.2.1.1.1, (v46.2.2.1.1.2.1, (v46.2.2.1.1.2.2.1, (v46.2.2.1.1.2.2.2.1, (v46.2.2.1.1.2.2.2.2.1, (v46.2.2.1.1.2.2.2.2.2.1, (v46.2.2.1.1.2.2.2.2.2.2.1, (v46.2.2.1.1.2.2.2.2.2.2.2.1, ())))))))), ()), ((v46.2.2.2.1.1, ()), (((v46.2.2.2.2.1.1.1, (v46.2.2.2.2.1.1.2.1, (v46.2.2.2.2.1.1.2.2.1, (v46.2.2.2.2.1.1.2.2.2.1, (v46.2.2.2.2.1.1.2.2.2.2.1, ()))))), ()), ((v46.2.2.2.2.2.1.1, ()), (v46.2.2.2.2.2.2.1, (v46.2.2.2.2.2.2.2.1, (v46.2.2.2.2.2.2.2.2.1, ()))))))))))) : Option ((Unit) × (Y12 × Y17 × (Y8 × Unit) × Y12 × (Y9 × Unit) × Y2 × (List Bool) × (List Int) × Unit))).bind fun v47 =>
(m125 ((v47.2.2.2.1.1, (v47.2.2.2.2.2.1.1, ())), ())).bind fun u48 =>
bif (!u48.1.1) then (some ((true, ()), ((v47.2.2.2.1.1, ()), (((4, (v47.2.2.2.1.1.1, (v47.2.2.2.2.2.1.1.2.1, (v47.2.2.2.1.1.2.1, (0, (0, (0, (false, ())))))))), ()), ()))))
else ((m126 ((v47.2.2.2.1.1, (v47.2.2.2.2.2.1.1, ())), ())).bind fun u49 =>
bif (!u49.1.2.1) then (some ((false, ()), (((v47.2.2.2.2.1.1.1, (v47.2.2.2.2.1.1.2.1, (v47.2.2.2.2.1.1.2.2.1, (v47.2.2.2.2.1.1.2.2.2.1, (v47.2.2.2.2.2.2.1, (v47.2.2.2.2.1.1.2.2.2.2.1, (v47.2.2.2.2.2.2.2.1, (v47.2.2.2.2.2.2.2.2.1, ())))))))), ()), (((0, (0, (0, (0, (0, (0, (0, (false, ())))))))), ()), ()))))
else (let x50 := (w64 (v47.2.2.2.2.2.1.1.2.2.2.2.1 + (v47.2.2.2.2.2.1.1.2.2.2.2.2.2.2.1.length : Int)))
let x51 := (if (x50 : Int) < v47.2.2.2.2.2.1.1.2.2.2.2.2.2.1 then x50 else v47.2.2.2.2.2.1.1.2.2.2.2.2.2.1)
let x52 := (if (x51 : Int) > v47.2.2.2.1.1.2.2.2.2.2.1 then x51 else v47.2.2.2.1.1.2.2.2.2.2.1)
some ((true, ()), (((v47.2.2.2.1.1.1, (v47.2.2.2.1.1.2.1, (v47.2.2.2.1.1.2.2.1, (v47.2.2.2.1.1.2.2.2.1, (u49.1.1, (x52, v47.2.2.2.1.1.2.2.2.2.2.2)))))), ()), (((4, (v47.2.2.2.1.1.1, (v47.2.2.2.2.2.1.1.2.1, (v47.2.2.2.1.1.2.1, (x50, (0, (0, (true, ())))))))), ()), ()))))))

def sp117 : Abs.Spec := ⟨0, i117, o117, m117⟩

def an117 : Nat → Abs.FAn
  | 0 => Abs.FAn.mk (fun
    | 5 => some ⟨[51, 6, 7, 4, 9, 5], (.dat .bool Qs22), (.box 8 Qs1 (.box 9 Qs5 (.box 8 Qs21 (.box 8 Qs24 (.box 9 (.dat Z4 .nil) Qb8)))))⟩
    | 2 => some ⟨[34, 6, 7, 9, 4, 5], (.dat .bool Qs22), (.box 8 Qs1 (.box 9 Qs5 (.box 8 Qs24 (.box 8 Qs21 (.box 9 (.dat Z4 .nil) Qb8)))))⟩
    | _ => none) (fun
    | 7 => some (⟨[6, 7, 4, 9, 5], Qs22, (.box 8 Qs1 (.box 9 Qs5 (.box 8 Qs21 (.box 8 Qs24 (.box 9 (.dat Z4 .nil) Qb8)))))⟩, none)
    | _ => none) (fun _ => none) (fun _ _ => 0)
  | _ => {}

theorem ok117 : Abs.SpecOK Tryz.prog 117 sp117 :=
  okW (an := an117) (alc ok94 (alc ok122 (alc ok123 (alc ok125 (alc ok126 al0))))) rfl (by intro v; kernel_rfl)

def l118_0_14 (v : ((Int × Int × Int × Int × Int × Unit) × ((List Int) × Y12 × Y12 × Y2 × (List Bool) × Unit))) : Option (((Int × Int × Int × Int × Int × Unit) × ((List Int) × Y12 × Y12 × Y2 × (List Bool) × Unit)) ⊕ ((Int × Int × Int × Unit) × Y19)) :=
bif (decide ((v.1.1 : Int) < v.1.2.2.2.2.1)) then (((bif (decide ((0 : Int) ≤ v.1.1 ∧ (v.1.1 : Int) < v.2.1.length)) then
(v.2.1[v.1.1.toNat]?).bind fun e79 =>
bif (decide ((e79 : Int) ≥ v.1.2.2.1)) then (some (((w64 (v.1.2.1 + 1)), (v.1.2.2.1, (v.1.2.2.2.1, (v.1.2.2.2.2.1, (v.1.1, ()))))), (v.2.1, (((v.2.2.1.1.1, (v.2.2.1.1.2.1, (v.2.2.1.1.2.2.1, (v.2.2.1.1.2.2.2.1, (v.2.2.1.1.2.2.2.2.1, ()))))), ()), (((v.2.2.2.1.1.1, (v.2.2.2.1.1.2.1, (v.2.2.2.1.1.2.2.1, (v.2.2.2.1.1.2.2.2.1, (v.2.2.2.1.1.2.2.2.2.1, ()))))), ()), (v.2.2.2.2.1, (v.2.2.2.2.2.1, ())))))))
else (some ((v.1.2.1, (v.1.2.2.1, (v.1.2.2.2.1, (v.1.2.2.2.2.1, (v.1.1, ()))))), (v.2.1, (((v.2.2.1.1.1, (v.2.2.1.1.2.1, (v.2.2.1.1.2.2.1, (v.2.2.1.1.2.2.2.1, (v.2.2.1.1.2.2.2.2.1, ()))))), ()), (((v.2.2.2.1.1.1, (v.2.2.2.1.1.2.1, (v.2.2.2.1.1.2.2.1, (v.2.2.2.1.1.2.2.2.1, (v.2.2.2.1.1.2.2.2.2.1, ()))))), ()), (v.2.2.2.2.1, (v.2.2.2.2.2.1, ())))))))
else none) : Option ((Int × Int × Int × Int × Int × Unit) × ((List Int) × Y12 × Y12 × Y2 × (List Bool) × Unit))).bind fun v80 =>
some (.inl (((w64 (v80.1.2.2.2.2.1 + 1)), (v80.1.1, (v80.1.2.1, (v80.1.2.2.1, (v80.1.2.2.2.1, ()))))), (v80.2.1, (((v80.2.2.1.1.1, (v80.2.2.1.1.2.1, (v80.2.2.1.1.2.2.1, (v80.2.2.1.1.2.2.2.1, (v80.2.2.1.1.2.2.2.2.1, ()))))), ()), (((v80.2.2.2.1.1.1, (v80.2.2.2.1.1.2.1, (v80.2.2.2.1.1.2.2.1, (v80.2.2.2.1.1.2.2.2.1, (v80.2.2.2.1.1.2.2.2.2.1, ()))))), ()), (v80.2.2.2.2.1, (v80.2.2.2.2.2.1, ()))))))))
else (some (.inr ((v.1.2.2.2.1, (v.1.2.2.1, (v.1.2.1, ()))), (((v.2.2.1.1.1, (v.2.2.1.1.2.1, (v.2.2.1.1.2.2.1, (v.2.2.1.1.2.2.2.1, (v.2.2.1.1.2.2.2.2.1, ()))))), ()), (((v.2.2.2.1.1.1, (v.2.2.2.1.1.2.1, (v.2.2.2.1.1.2.2.1, (v.2.2.2.1.1.2.2.2.1, (v.2.2.2.1.1.2.2.2.2.1, ()))))), ()), (v.2.2.2.2.1, (v.2.2.2.2.2.1, (v.2.1, ()))))))))

def l118_0_10 (v : ((Int × Int × Unit) × Y19)) : Option (((Int × Int × Unit) × Y19) ⊕ ((Unit) × Y19)) :=
bif (decide ((v.1.1 : Int) > v.2.1.1.2.2.2.2.1)) then ((((loopT l118_0_14 ((0, (0, (v.1.1, (v.1.2.1, (((v.2.2.2.2.2.1.length : Nat) : Int), ()))))), (v.2.2.2.2.2.1, (((v.2.1.1.1, (v.2.1.1.2.1, (v.2.1.1.2.2.1, (v.2.1.1.2.2.2.1, (v.2.1.1.2.2.2.2.1, ()))))), ()), (((v.2.2.1.1.1, (v.2.2.1.1.2.1, (v.2.2.1.1.2.2.1, (v.2.2.1.1.2.2.2.1, (v.2.2.1.1.2.2.2.2.1, ()))))), ()), (v.2.2.2.1, (v.2.2.2.2.1, ()))))))).bind fun d81 =>
(((m103 ((d81.1.1, ()), ())).bind fun u82 =>
bif (decide ((d81.1.2.2.1 : Int) ≥ u82.1.1)) then (bif (decide ((0 : Int) ≤ (w64 (d81.1.2.1 - 1)) ∧ ((w64 (d81.1.2.1 - 1)) : Int) < d81.2.2.2.1.length)) then
(d81.2.2.2.1[(w64 (d81.1.2.1 - 1)).toNat]?).bind fun e83 =>
some ((((e83.1 : Int) == d81.2.1.1.2.1), (d81.1.1, (d81.1.2.1, ()))), (((d81.2.1.1.1, (d81.2.1.1.2.1, (d81.2.1.1.2.2.1, (d81.2.1.1.2.2.2.1, (d81.2.1.1.2.2.2.2.1, ()))))), ()), (((d81.2.2.1.1.1, (d81.2.2.1.1.2.1, (d81.2.2.1.1.2.2.1, (d81.2.2.1.1.2.2.2.1, (d81.2.2.1.1.2.2.2.2.1, ()))))), ()), (d81.2.2.2.1, (d81.2.2.2.2.1, (d81.2.2.2.2.2.1, ()))))))
else none)
else (some ((false, (d81.1.1, (d81.1.2.1, ()))), (((d81.2.1.1.1, (d81.2.1.1.2.1, (d81.2.1.1.2.2.1, (d81.2.1.1.2.2.2.1, (d81.2.1.1.2.2.2.2.1, ()))))), ()), (((d81.2.2.1.1.1, (d81.2.2.1.1.2.1, (d81.2.2.1.1.2.2.1, (d81.2.2.1.1.2.2.2.1, (d81.2.2.1.1.2.2.2.2.1, ()))))), ()), (d81.2.2.2.1, (d81.2.2.2.2.1, (d81.2.2.2.2.2.1, ())))))))) : Option ((Bool × Int × Int × Unit) × Y19)).bind fun v84 =>
bif v84.1.1 then (some ((v84.1.2.1, (v84.1.2.2.1, ())), (((v84.2.1.1.1, (v84.2.1.1.2.1, (v84.2.1.1.2.2.1, (v84.2.1.1.2.2.2.1, (v84.1.2.2.1, ()))))), ()), (((v84.2.2.1.1.1, (v84.2.2.1.1.2.1, (v84.2.2.1.1.2.2.1, (v84.2.2.1.1.2.2.2.1, (v84.2.2.1.1.2.2.2.2.1, ()))))), ()), (v84.2.2.2.1, (v84.2.2.2.2.1, (v84.2.2.2.2.2.1, ())))))))
else (some ((v84.1.2.1, (v84.1.2.2.1, ())), (((v84.2.1.1.1, (v84.2.1.1.2.1, (v84.2.1.1.2.2.1, (v84.2.1.1.2.2.2.1, (v84.2.1.1.2.2.2.2.1, ()))))), ()), (((v84.2.2.1.1.1, (v84.2.2.1.1.2.1, (v84.2.2.1.1.2.2.1, (v84.2.2.1.1.2.2.2.1, (v84.2.2.1.1.2.2.2.2.1, ()))))), ()), (v84.2.2.2.1, (v84.2.2.2.2.1, (v84.2.2.2.2.2.1, ())))))))) : Option ((Int × Int × Unit) × Y19)).bind fun v85 =>
some (.inl (((w64 (v85.1.2.1 - 1)), (v85.1.1, ())), (((v85.2.1.1.1, (v85.2.1.1.2.1, (v85.2.1.1.2.2.1, (v85.2.1.1.2.2.2.1, (v85.2.1.1.2.2.2.2.1, ()))))), ()), (((v85.2.2.1.1.1, (v85.2.2.1.1.2.1, (v85.2.2.1.1.2.2.1, (v85.2.2.1.1.2.2.2.1, (v85.2.2.1.1.2.2.2.2.1, ()))))), ()), (v85.2.2.2.1, (v85.2.2.2.2.1, (v85.2.2.2.2.2.1, ()))))))))
else (some (.inr ((), (((v.2.2.1.1.1, (v.2.2.1.1.2.1, (v.2.2.1.1.2.2.1, (v.2.2.1.1.2.2.2.1, (v.2.2.1.1.2.2.2.2.1, ()))))), ()), (((v.2.1.1.1, (v.2.1.1.2.1, (v.2.1.1.2.2.1, (v.2.1.1.2.2.2.1, (v.2.1.1.2.2.2.2.1, ()))))), ()), (v.2.2.2.1, (v.2.2.2.2.1, (v.2.2.2.2.2.1, ()))))))))

/- pagewatch/replica.Appended -/
def i118 : Abs.Sg := ⟨[0, 1, 2], Qs30, .nil⟩

def o118 : Abs.Sg := ⟨[6], (.st Qx10 .nil), Qb14⟩

def m118 (v : ((Int × Y8 × Y9 × Unit) × (Unit))) : Option ((Unit) × ((Y8 × Unit) × Unit)) :=
(m94 ((v.1.2.1, ()), ())).bind fun u71 =>
(m122 ((v.1.1, ((u71.2.1.1.1, (u71.2.1.1.2.1, (u71.2.1.1.2.2.1, (u71.2.1.1.2.2.2.1, (u71.2.2.1, (u71.2.1.1.2.2.2.2.1, (u71.2.2.2.1, (u71.2.2.2.2.1, ())))))))), (v.1.2.2.1, (4, ())))), ())).bind fun u72 =>
bif (!u72.1.1) then (some ((), (((u71.2.1.1.1, (u71.2.1.1.2.1, (u71.2.1.1.2.2.1, (u71.2.1.1.2.2.2.1, (u71.2.2.1, (u71.2.1.1.2.2.2.2.1, (u71.2.2.2.1, (u71.2.2.2.2.1, ())))))))), ()), ())))
else (let x73 := (decide ((v.1.2.2.1.2.2.2.1 : Int) > u71.2.1.1.2.1))
bif x73 then ((m123 (((u71.2.1.1.1, (u71.2.1.1.2.1, (u71.2.1.1.2.2.1, (u71.2.1.1.2.2.2.1, (u71.2.2.1, (u71.2.1.1.2.2.2.2.1, (u71.2.2.2.1, (u71.2.2.2.2.1, ())))))))), (v.1.2.2.1.2.2.2.1, ())), ())).bind fun u74 =>
some ((), ((u74.2.1.1, ()), ())))
else (((bif ((u71.2.1.1.2.2.2.1 : Int) != 2) then (some ((true, (v.1.1, ())), (((0, (0, (0, (0, (0, ()))))), ()), (((u71.2.1.1.1, (u71.2.1.1.2.1, (u71.2.1.1.2.2.1, (u71.2.1.1.2.2.2.1, (u71.2.1.1.2.2.2.2.1, ()))))), ()), ((v.1.2.2.1, ()), (u71.2.2.1, (u71.2.2.2.1, (u71.2.2.2.2.1, ()))))))))
else (bif ((v.1.2.2.1.2.2.2.1 : Int) != u71.2.1.1.2.1) then (some ((true, (v.1.1, ())), (((0, (0, (0, (0, (0, ()))))), ()), (((u71.2.1.1.1, (u71.2.1.1.2.1, (u71.2.1.1.2.2.1, (u71.2.1.1.2.2.2.1, (u71.2.1.1.2.2.2.2.1, ()))))), ()), ((v.1.2.2.1, ()), (u71.2.2.1, (u71.2.2.2.1, (u71.2.2.2.2.1, ()))))))))
else (bif (!v.1.2.2.1.2.2.2.2.2.2.2.2.1) then (some ((true, (v.1.1, ())), (((0, (0, (0, (0, (0, ()))))), ()), (((u71.2.1.1.1, (u71.2.1.1.2.1, (u71.2.1.1.2.2.1, (u71.2.1.1.2.2.2.1, (u71.2.1.1.2.2.2.2.1, ()))))), ()), ((v.1.2.2.1, ()), (u71.2.2.1, (u71.2.2.2.1, (u71.2.2.2.2.1, ()))))))))
else (bif (decide ((v.1.2.2.1.2.2.2.2.1 : Int) < 0)) then (some ((true, (v.1.1, ())), (((0, (0, (0, (0, (0, ()))))), ()), (((u71.2.1.1.1, (u71.2.1.1.2.1, (u71.2.1.1.2.2.1, (u71.2.1.1.2.2.2.1, (u71.2.1.1.2.2.2.2.1, ()))))), ()), ((v.1.2.2.1, ()), (u71.2.2.1, (u71.2.2.2.1, (u71.2.2.2.2.1, ()))))))))
else (let x75 := (decide ((v.1.2.2.1.2.2.2.2.1 : Int) > ((u71.2.2.1.length : Nat) : Int)))
some ((x75, (v.1.1, ())), (((0, (0, (0, (0, (0, ()))))), ()), (((u71.2.1.1.1, (u71.2.1.1.2.1, (u71.2.1.1.2.2.1, (u71.2.1.1.2.2.2.1, (u71.2.1.1.2.2.2.2.1, ()))))), ()), ((v.1.2.2.1, ()), (u71.2.2.1, (u71.2.2.2.1, (u71.2.2.2.2.1, ())))))))))))) : Option ((Bool × Int × Unit) × (Y12 × Y12 × (Y9 × Unit) × Y2 × (List Bool) × (List Int) × Unit))).bind fun v76 =>
bif v76.1.1 then (some ((), (((v76.2.2.1.1.1, (v76.2.2.1.1.2.1, (v76.2.2.1.1.2.2.1, (v76.2.2.1.1.2.2.2.1, (v76.2.2.2.2.1, (v76.2.2.1.1.2.2.2.2.1, (v76.2.2.2.2.2.1, (v76.2.2.2.2.2.2.1, ())))))))), ()), ())))
else (bif (decide ((0 : Int) ≤ v76.2.2.2.1.1.2.1 ∧ (v76.2.2.2.1.1.2.1 : Int) < v76.2.2.2.2.2.2.1.length)) then
(v76.2.2.2.2.2.2.1[v76.2.2.2.1.1.2.1.toNat]?).bind fun e77 =>
let x78 := (if (v76.2.2.2.1.1.2.2.2.2.1 : Int) > e77 then v76.2.2.2.1.1.2.2.2.2.1 else e77)
bif (decide ((0 : Int) ≤ v76.2.2.2.1.1.2.1 ∧ (v76.2.2.2.1.1.2.1 : Int) < v76.2.2.2.2.2.2.1.length)) then
bif (decide (v76.2.2.2.1.1.2.1.toNat < v76.2.2.2.2.2.2.1.length)) then
(loopT l118_0_10 ((((v76.2.2.2.2.1.length : Nat) : Int), (v76.1.2.1, ())), (((v76.2.2.1.1.1, (v76.2.2.1.1.2.1, (v76.2.2.1.1.2.2.1, (v76.2.2.1.1.2.2.2.1, (v76.2.2.1.1.2.2.2.2.1, ()))))), ()), (((v76.2.1.1.1, (v76.2.1.1.2.1, (v76.2.1.1.2.2.1, (v76.2.1.1.2.2.2.1, (v76.2.1.1.2.2.2.2.1, ()))))), ()), (v76.2.2.2.2.1, (v76.2.2.2.2.2.1, ((v76.2.2.2.2.2.2.1.set v76.2.2.2.1.1.2.1.toNat x78), ()))))))).bind fun d86 =>
some ((), (((d86.2.2.1.1.1, (d86.2.2.1.1.2.1, (d86.2.2.1.1.2.2.1, (d86.2.2.1.1.2.2.2.1, (d86.2.2.2.1, (d86.2.2.1.1.2.2.2.2.1, (d86.2.2.2.2.1, (d86.2.2.2.2.2.1, ())))))))), ()), ()))
else none
else none
else none)))

def sp118 : Abs.Spec := ⟨0, i118, o118, m118⟩

def an118 : Nat → Abs.FAn
  | 0 => Abs.FAn.mk (fun
    | 19 => some ⟨[108, 4, 0, 6, 7], (.dat .bool (.st Qx10 (.dat (.int .i64) (.st Qx20 Qs3)))), Qb40⟩
    | 6 => some ⟨[55, 6, 4, 0, 5], Qs32, Qb16⟩
    | _ => none) (fun
    | 11 => some (⟨[4, 0, 6, 7], (.st Qx10 (.dat (.int .i64) (.st Qx20 Qs3))), Qb40⟩, none)
    | 18 => some (⟨[8, 7, 81, 4, 0, 6, 82, 83], (.dat (.int .i64) (.dat (.int .i64) (.st (.own (.int .i64) (0, 0)) (.st Qx20 (.dat (.int .i64) (.st Qx38 Qs13)))))), (.arr (.int .i64) false (.box 8 (.agg (.dat (.int .i64) (.dat (.int .i64) (.dat (.int .i64) (.dat (.int .i64) (.st (.own Z1 (3, 0)) (.dat (.int .i64) (.st (.own .bool (4, 0)) (.st (.own (.int .i64) (0, 0)) .nil)))))))) .nil) (.box 8 Qs1 (.arr Z1 false Qb36))))⟩, none)
    | _ => none) (fun
    | 10 => some ⟨⟨[7, 4, 0, 6], (.dat (.int .i64) (.st Qx10 (.dat (.int .i64) (.st Qx20 .nil)))), Qb40⟩, (.one (.exit 0) ⟨[6, 4], Qs41, (.box 8 Qs1 (.box 8 Qs4 Qb8))⟩)⟩
    | 14 => some ⟨⟨[83, 8, 7, 81, 4, 0, 6, 82], (.dat (.int .i64) (.dat (.int .i64) (.dat (.int .i64) (.st (.own (.int .i64) (0, 0)) (.st Qx20 (.dat (.int .i64) (.st Qx38 Qs3))))))), (.arr (.int .i64) false (.box 8 (.agg (.dat (.int .i64) (.dat (.int .i64) (.dat (.int .i64) (.dat (.int .i64) (.st (.own Z1 (3, 0)) (.dat (.int .i64) (.st (.own .bool (4, 0)) (.st (.own (.int .i64) (0, 0)) .nil)))))))) .nil) (.box 8 Qs1 (.arr Z1 false Qb36))))⟩, (.one (.exit 2) ⟨[4, 0, 6, 7, 8], (.st Qx10 (.dat (.int .i64) (.st Qx20 Qs13))), Qb40⟩)⟩
    | _ => none) (fun _ _ => 0)
  | _ => {}

theorem ok118 : Abs.SpecOK Tryz.prog 118 sp118 :=
  okW (an := an118) (alc ok94 (alc ok122 (alc ok123 (alc ok103 al0)))) rfl (by intro v; kernel_rfl)

/- 96 pagewatch/region.hearers: not told by a law: run where it is called -/

/- 63 pagewatch/region.deliver: not told by a law: run where it is called -/

/- 57 pagewatch/region.drain: not told by a law: run where it is called -/

def l58_0_5 (v : ((Int × (List Int) × Int × Unit) × ((List Y9) × (Y8 × Unit) × Unit))) : Option (((Int × (List Int) × Int × Unit) × ((List Y9) × (Y8 × Unit) × Unit)) ⊕ ((Unit) × ((List Y9) × Unit))) :=
bif (decide ((v.1.1 : Int) < v.1.2.2.1)) then (((Abs.rowAt v.1.2.1 v.1.1 fun e48 _ =>
bif ((v.1.1 : Int) == v.2.2.1.1.1) then (some ((v.1.2.1, (v.1.2.2.1, (v.1.1, ()))), (v.2.1, ((v.2.2.1.1, ()), ()))))
else (bif (decide ((0 : Int) ≤ e48)) then
bif (decide (e48.toNat ≤ v.2.2.1.1.2.2.2.2.1.length ∧ v.2.2.1.1.2.2.2.2.1.length ≤ v.2.2.1.1.2.2.2.2.1.length)) then
let x49 := ((v.2.2.1.1.2.2.2.2.1.drop e48.toNat).take (v.2.2.1.1.2.2.2.2.1.length - e48.toNat))
(m65 ((x49, ()), ())).bind fun u50 =>
((bif (decide ((e48 : Int) > 0)) then (Abs.rowAt v.2.2.1.1.2.2.2.2.1 (w64 (e48 - 1)) fun e51 _ =>
some ((v.1.2.1, (v.1.2.2.1, (v.1.1, ()))), ((v.2.2.1.1, ()), (((3, (v.2.2.1.1.1, (v.1.1, (v.2.2.1.1.2.1, (e48, (e51.1, (v.2.2.1.1.2.2.2.2.2.1, (false, ())))))))), ()), (v.2.1, (u50.2.1, ()))))))
else (some ((v.1.2.1, (v.1.2.2.1, (v.1.1, ()))), ((v.2.2.1.1, ()), (((3, (v.2.2.1.1.1, (v.1.1, (v.2.2.1.1.2.1, (e48, (0, (v.2.2.1.1.2.2.2.2.2.1, (false, ())))))))), ()), (v.2.1, (u50.2.1, ()))))))) : Option (((List Int) × Int × Int × Unit) × ((Y8 × Unit) × Y17 × (List Y9) × Y2 × Unit))).bind fun v52 =>
bif (decide (v52.2.2.2.1.length + ([(v52.2.2.1.1.1, (v52.2.2.1.1.2.1, (v52.2.2.1.1.2.2.1, (v52.2.2.1.1.2.2.2.1, (v52.2.2.1.1.2.2.2.2.1, (v52.2.2.1.1.2.2.2.2.2.1, (v52.2.2.1.1.2.2.2.2.2.2.1, (v52.2.2.2.2.1, (v52.2.2.1.1.2.2.2.2.2.2.2.1, ())))))))))] : List Y9).length ≤ 4294967296)) then
let x53 := (v52.2.2.2.1 ++ ([(v52.2.2.1.1.1, (v52.2.2.1.1.2.1, (v52.2.2.1.1.2.2.1, (v52.2.2.1.1.2.2.2.1, (v52.2.2.1.1.2.2.2.2.1, (v52.2.2.1.1.2.2.2.2.2.1, (v52.2.2.1.1.2.2.2.2.2.2.1, (v52.2.2.2.2.1, (v52.2.2.1.1.2.2.2.2.2.2.2.1, ())))))))))] : List Y9))
some ((v52.1.1, (v52.1.2.1, (v52.1.2.2.1, ()))), (x53, ((v52.2.1.1, ()), ())))
else none
else none
else none)) : Option (((List Int) × Int × Int × Unit) × ((List Y9) × (Y8 × Unit) × Unit))).bind fun v54 =>
some (.inl (((w64 (v54.1.2.2.1 + 1)), (v54.1.1, (v54.1.2.1, ()))), (v54.2.1, ((v54.2.2.1.1, ()), ())))))
else (some (.inr ((), (v.2.1, ()))))

/- pagewatch/replica.Appends -/
def i58 : Abs.Sg := ⟨[0, 1], Qs37, .nil⟩

def o58 : Abs.Sg := ⟨[4], (.st (.own Z4 (0, 0)) .nil), (.arr Z4 false .nil)⟩

def m58 (v : ((Int × Y8 × Unit) × (Unit))) : Option ((Unit) × ((List Y9) × Unit)) :=
(((m84 ((v.1.1, (v.1.2.1, ())), ())).bind fun u46 =>
bif (!u46.1.1) then (some ((true, ()), ((v.1.2.1, ()), ())))
else (some ((((v.1.2.1.2.2.2.1 : Int) != 2), ()), ((v.1.2.1, ()), ())))) : Option ((Bool × Unit) × ((Y8 × Unit) × Unit))).bind fun v47 =>
bif v47.1.1 then (some ((), ([], ())))
else ((loopT l58_0_5 ((0, (v47.2.1.1.2.2.2.2.2.2.2.1, ((v47.2.1.1.2.2.2.2.2.2.2.1.length : Int), ()))), ([], ((v47.2.1.1, ()), ())))).bind fun d55 =>
some ((), (d55.2.1, ())))

def sp58 : Abs.Spec := ⟨0, i58, o58, m58⟩

def an58 : Nat → Abs.FAn
  | 0 => Abs.FAn.mk (fun
    | 1 => some ⟨[17, 3], (.dat .bool (.st Qx10 .nil)), Qb14⟩
    | _ => none) (fun
    | 12 => some (⟨[5, 3, 19, 20, 21], (.st (.own Z4 (0, 0)) (.st Qx20 (.dat (.row (.int .i64)) Qs13))), (.arr Z4 false Qb14)⟩, none)
    | 11 => some (⟨[3, 19, 20, 21, 8, 5], (.st Qx10 (.dat (.row (.int .i64)) (.dat (.int .i64) (.dat (.int .i64) (.st Qx35 (.st (.own Z4 (2, 0)) .nil)))))), (.box 8 Qs21 (.box 9 (.agg (.dat (.int .i64) (.dat (.int .i64) (.dat (.int .i64) (.dat (.int .i64) (.dat (.int .i64) (.dat (.int .i64) (.dat (.int .i64) (.st (.own Z1 (3, 0)) Qs12)))))))) .nil) (.arr Z4 false (.arr Z1 false .nil))))⟩, none)
    | _ => none) (fun
    | 5 => some ⟨⟨[21, 5, 3, 19, 20], (.dat (.int .i64) (.st (.own Z4 (0, 0)) (.st Qx20 (.dat (.row (.int .i64)) Qs3)))), (.arr Z4 false Qb14)⟩, (.one (.exit 0) ⟨[5], (.st (.own Z4 (0, 0)) .nil), (.arr Z4 false .nil)⟩)⟩
    | _ => none) (fun _ _ => 0)
  | _ => {}

theorem ok58 : Abs.SpecOK Tryz.prog 58 sp58 :=
  okW (an := an58) (alc ok84 (alc ok65 al0)) rfl (by intro v; kernel_rfl)

def l14_1_1 (v : ((Unit) × Y14)) : Option (((Unit) × Y14) ⊕ ((Unit) × Y14)) :=
let x457 := (decide ((((v.2.2.2.2.1.length : Nat) : Int) : Int) > 0))
bif x457 then (((bif (decide ((0 : Int) ≤ 0 ∧ (0 : Int) < v.2.2.2.2.1.length)) then
(v.2.2.2.2.1[0]?).bind fun e458 =>
bif (decide ((0 : Int) ≤ 0 ∧ (0 : Int) < 1 ∧ (1 : Int) ≤ v.2.2.2.2.1.length ∧ v.2.2.2.2.1.length ≤ 4294967296)) then
bif (decide (v.2.2.2.2.1.length = v.2.2.2.2.1.length) && true) then
bif ((e458.1 : Int) == 1) then (bif (decide ((0 : Int) ≤ e458.2.2.1 ∧ (e458.2.2.1 : Int) < v.2.2.2.2.2.1.length)) then
(v.2.2.2.2.2.1[e458.2.2.1.toNat]?).bind fun e459 =>
bif e459 then (bif (decide (v.2.2.2.1.length = v.2.2.2.1.length) && (decide (v.2.2.2.2.1.length = v.2.2.2.2.1.length) && (decide (v.2.2.2.2.2.1.length = v.2.2.2.2.2.1.length) && (decide (v.2.2.2.2.2.2.1.length = v.2.2.2.2.2.2.1.length) && true)))) then
some ((), (((), ()), (((), ()), (v.2.2.2.1, ((v.2.2.2.2.1.take 0 ++ v.2.2.2.2.1.drop 1), (v.2.2.2.2.2.1, (v.2.2.2.2.2.2.1, ())))))))
else none)
else (let x460 := (if (e458.2.2.1 : Int) < e458.2.1 then e458.2.2.1 else e458.2.1)
let x461 := (if (e458.2.2.1 : Int) > e458.2.1 then e458.2.2.1 else e458.2.1)
(m81 ((v.2.2.2.2.2.2.1, ((x460, (x461, ())), ())), ())).bind fun u462 =>
bif u462.1.1 then (bif (decide (v.2.2.2.1.length = v.2.2.2.1.length) && (decide (v.2.2.2.2.1.length = v.2.2.2.2.1.length) && (decide (v.2.2.2.2.2.1.length = v.2.2.2.2.2.1.length) && (decide (v.2.2.2.2.2.2.1.length = v.2.2.2.2.2.2.1.length) && true)))) then
some ((), (((), ()), (((), ()), (v.2.2.2.1, ((v.2.2.2.2.1.take 0 ++ v.2.2.2.2.1.drop 1), (v.2.2.2.2.2.1, (v.2.2.2.2.2.2.1, ())))))))
else none)
else (bif (decide ((0 : Int) ≤ e458.2.2.1 ∧ (e458.2.2.1 : Int) < v.2.2.2.1.length)) then
(v.2.2.2.1[e458.2.2.1.toNat]?).bind fun e463 =>
(m115 ((((v.2.2.2.1.length : Nat) : Int), (e463, (e458, ()))), ())).bind fun u464 =>
bif (decide ((0 : Int) ≤ e458.2.2.1 ∧ (e458.2.2.1 : Int) < v.2.2.2.1.length)) then
bif (decide (e458.2.2.1.toNat < v.2.2.2.1.length)) then
bif u464.1.1 then (bif (decide ((v.2.2.2.2.1.take 0 ++ v.2.2.2.2.1.drop 1).length + ([(u464.2.2.1.1.1, (u464.2.2.1.1.2.1, (u464.2.2.1.1.2.2.1, (u464.2.2.1.1.2.2.2.1, (u464.2.2.1.1.2.2.2.2.1, (u464.2.2.1.1.2.2.2.2.2.1, (u464.2.2.1.1.2.2.2.2.2.2.1, ([], (u464.2.2.1.1.2.2.2.2.2.2.2.1, ())))))))))] : List Y9).length ≤ 4294967296)) then
let x465 := ((v.2.2.2.2.1.take 0 ++ v.2.2.2.2.1.drop 1) ++ ([(u464.2.2.1.1.1, (u464.2.2.1.1.2.1, (u464.2.2.1.1.2.2.1, (u464.2.2.1.1.2.2.2.1, (u464.2.2.1.1.2.2.2.2.1, (u464.2.2.1.1.2.2.2.2.2.1, (u464.2.2.1.1.2.2.2.2.2.2.1, ([], (u464.2.2.1.1.2.2.2.2.2.2.2.1, ())))))))))] : List Y9))
bif (decide ((v.2.2.2.1.set e458.2.2.1.toNat u464.2.1.1).length = v.2.2.2.1.length) && (decide (v.2.2.2.2.1.length = v.2.2.2.2.1.length) && (decide (v.2.2.2.2.2.1.length = v.2.2.2.2.2.1.length) && (decide (v.2.2.2.2.2.2.1.length = v.2.2.2.2.2.2.1.length) && true)))) then
some ((), (((), ()), (((), ()), ((v.2.2.2.1.set e458.2.2.1.toNat u464.2.1.1), (x465, (v.2.2.2.2.2.1, (v.2.2.2.2.2.2.1, ())))))))
else none
else none)
else (bif (decide ((v.2.2.2.1.set e458.2.2.1.toNat u464.2.1.1).length = v.2.2.2.1.length) && (decide (v.2.2.2.2.1.length = v.2.2.2.2.1.length) && (decide (v.2.2.2.2.2.1.length = v.2.2.2.2.2.1.length) && (decide (v.2.2.2.2.2.2.1.length = v.2.2.2.2.2.2.1.length) && true)))) then
some ((), (((), ()), (((), ()), ((v.2.2.2.1.set e458.2.2.1.toNat u464.2.1.1), ((v.2.2.2.2.1.take 0 ++ v.2.2.2.2.1.drop 1), (v.2.2.2.2.2.1, (v.2.2.2.2.2.2.1, ())))))))
else none)
else none
else none
else none))
else none)
else (bif ((e458.1 : Int) == 2) then (bif (decide ((0 : Int) ≤ e458.2.2.1 ∧ (e458.2.2.1 : Int) < v.2.2.2.2.2.1.length)) then
(v.2.2.2.2.2.1[e458.2.2.1.toNat]?).bind fun e466 =>
bif e466 then (bif (decide (v.2.2.2.1.length = v.2.2.2.1.length) && (decide (v.2.2.2.2.1.length = v.2.2.2.2.1.length) && (decide (v.2.2.2.2.2.1.length = v.2.2.2.2.2.1.length) && (decide (v.2.2.2.2.2.2.1.length = v.2.2.2.2.2.2.1.length) && true)))) then
some ((), (((), ()), (((), ()), (v.2.2.2.1, ((v.2.2.2.2.1.take 0 ++ v.2.2.2.2.1.drop 1), (v.2.2.2.2.2.1, (v.2.2.2.2.2.2.1, ())))))))
else none)
else (let x467 := (if (e458.2.2.1 : Int) < e458.2.1 then e458.2.2.1 else e458.2.1)
let x468 := (if (e458.2.2.1 : Int) > e458.2.1 then e458.2.2.1 else e458.2.1)
(m81 ((v.2.2.2.2.2.2.1, ((x467, (x468, ())), ())), ())).bind fun u469 =>
bif u469.1.1 then (bif (decide (v.2.2.2.1.length = v.2.2.2.1.length) && (decide (v.2.2.2.2.1.length = v.2.2.2.2.1.length) && (decide (v.2.2.2.2.2.1.length = v.2.2.2.2.2.1.length) && (decide (v.2.2.2.2.2.2.1.length = v.2.2.2.2.2.2.1.length) && true)))) then
some ((), (((), ()), (((), ()), (v.2.2.2.1, ((v.2.2.2.2.1.take 0 ++ v.2.2.2.2.1.drop 1), (v.2.2.2.2.2.1, (v.2.2.2.2.2.2.1, ())))))))
else none)
else (bif (decide ((0 : Int) ≤ e458.2.2.1 ∧ (e458.2.2.1 : Int) < v.2.2.2.1.length)) then
(v.2.2.2.1[e458.2.2.1.toNat]?).bind fun e470 =>
(m116 ((((v.2.2.2.1.length : Nat) : Int), (e470, (e458, ()))), ())).bind fun u471 =>
bif (decide ((0 : Int) ≤ e458.2.2.1 ∧ (e458.2.2.1 : Int) < v.2.2.2.1.length)) then
bif (decide (e458.2.2.1.toNat < v.2.2.2.1.length)) then
bif (decide ((v.2.2.2.1.set e458.2.2.1.toNat u471.2.1.1).length = v.2.2.2.1.length) && (decide (v.2.2.2.2.1.length = v.2.2.2.2.1.length) && (decide (v.2.2.2.2.2.1.length = v.2.2.2.2.2.1.length) && (decide (v.2.2.2.2.2.2.1.length = v.2.2.2.2.2.2.1.length) && true)))) then
some ((), (((), ()), (((), ()), ((v.2.2.2.1.set e458.2.2.1.toNat u471.2.1.1), ((v.2.2.2.2.1.take 0 ++ v.2.2.2.2.1.drop 1), (v.2.2.2.2.2.1, (v.2.2.2.2.2.2.1, ())))))))
else none
else none
else none
else none))
else none)
else (bif ((e458.1 : Int) == 3) then (bif (decide ((0 : Int) ≤ e458.2.2.1 ∧ (e458.2.2.1 : Int) < v.2.2.2.2.2.1.length)) then
(v.2.2.2.2.2.1[e458.2.2.1.toNat]?).bind fun e472 =>
bif e472 then (bif (decide (v.2.2.2.1.length = v.2.2.2.1.length) && (decide (v.2.2.2.2.1.length = v.2.2.2.2.1.length) && (decide (v.2.2.2.2.2.1.length = v.2.2.2.2.2.1.length) && (decide (v.2.2.2.2.2.2.1.length = v.2.2.2.2.2.2.1.length) && true)))) then
some ((), (((), ()), (((), ()), (v.2.2.2.1, ((v.2.2.2.2.1.take 0 ++ v.2.2.2.2.1.drop 1), (v.2.2.2.2.2.1, (v.2.2.2.2.2.2.1, ())))))))
else none)
else (let x473 := (if (e458.2.2.1 : Int) < e458.2.1 then e458.2.2.1 else e458.2.1)
let x474 := (if (e458.2.2.1 : Int) > e458.2.1 then e458.2.2.1 else e458.2.1)
(m81 ((v.2.2.2.2.2.2.1, ((x473, (x474, ())), ())), ())).bind fun u475 =>
bif u475.1.1 then (bif (decide (v.2.2.2.1.length = v.2.2.2.1.length) && (decide (v.2.2.2.2.1.length = v.2.2.2.2.1.length) && (decide (v.2.2.2.2.2.1.length = v.2.2.2.2.2.1.length) && (decide (v.2.2.2.2.2.2.1.length = v.2.2.2.2.2.2.1.length) && true)))) then
some ((), (((), ()), (((), ()), (v.2.2.2.1, ((v.2.2.2.2.1.take 0 ++ v.2.2.2.2.1.drop 1), (v.2.2.2.2.2.1, (v.2.2.2.2.2.2.1, ())))))))
else none)
else (bif (decide ((0 : Int) ≤ e458.2.2.1 ∧ (e458.2.2.1 : Int) < v.2.2.2.1.length)) then
(v.2.2.2.1[e458.2.2.1.toNat]?).bind fun e476 =>
(m117 ((((v.2.2.2.1.length : Nat) : Int), (e476, (e458, ()))), ())).bind fun u477 =>
bif (decide ((0 : Int) ≤ e458.2.2.1 ∧ (e458.2.2.1 : Int) < v.2.2.2.1.length)) then
bif (decide (e458.2.2.1.toNat < v.2.2.2.1.length)) then
bif u477.1.1 then (bif (decide ((v.2.2.2.2.1.take 0 ++ v.2.2.2.2.1.drop 1).length + ([(u477.2.2.1.1.1, (u477.2.2.1.1.2.1, (u477.2.2.1.1.2.2.1, (u477.2.2.1.1.2.2.2.1, (u477.2.2.1.1.2.2.2.2.1, (u477.2.2.1.1.2.2.2.2.2.1, (u477.2.2.1.1.2.2.2.2.2.2.1, ([], (u477.2.2.1.1.2.2.2.2.2.2.2.1, ())))))))))] : List Y9).length ≤ 4294967296)) then
let x478 := ((v.2.2.2.2.1.take 0 ++ v.2.2.2.2.1.drop 1) ++ ([(u477.2.2.1.1.1, (u477.2.2.1.1.2.1, (u477.2.2.1.1.2.2.1, (u477.2.2.1.1.2.2.2.1, (u477.2.2.1.1.2.2.2.2.1, (u477.2.2.1.1.2.2.2.2.2.1, (u477.2.2.1.1.2.2.2.2.2.2.1, ([], (u477.2.2.1.1.2.2.2.2.2.2.2.1, ())))))))))] : List Y9))
bif (decide ((v.2.2.2.1.set e458.2.2.1.toNat u477.2.1.1).length = v.2.2.2.1.length) && (decide (v.2.2.2.2.1.length = v.2.2.2.2.1.length) && (decide (v.2.2.2.2.2.1.length = v.2.2.2.2.2.1.length) && (decide (v.2.2.2.2.2.2.1.length = v.2.2.2.2.2.2.1.length) && true)))) then
some ((), (((), ()), (((), ()), ((v.2.2.2.1.set e458.2.2.1.toNat u477.2.1.1), (x478, (v.2.2.2.2.2.1, (v.2.2.2.2.2.2.1, ())))))))
else none
else none)
else (bif (decide ((v.2.2.2.1.set e458.2.2.1.toNat u477.2.1.1).length = v.2.2.2.1.length) && (decide (v.2.2.2.2.1.length = v.2.2.2.2.1.length) && (decide (v.2.2.2.2.2.1.length = v.2.2.2.2.2.1.length) && (decide (v.2.2.2.2.2.2.1.length = v.2.2.2.2.2.2.1.length) && true)))) then
some ((), (((), ()), (((), ()), ((v.2.2.2.1.set e458.2.2.1.toNat u477.2.1.1), ((v.2.2.2.2.1.take 0 ++ v.2.2.2.2.1.drop 1), (v.2.2.2.2.2.1, (v.2.2.2.2.2.2.1, ())))))))
else none)
else none
else none
else none))
else none)
else (bif ((e458.1 : Int) == 4) then (bif (decide ((0 : Int) ≤ e458.2.2.1 ∧ (e458.2.2.1 : Int) < v.2.2.2.2.2.1.length)) then
(v.2.2.2.2.2.1[e458.2.2.1.toNat]?).bind fun e479 =>
bif e479 then (bif (decide (v.2.2.2.1.length = v.2.2.2.1.length) && (decide (v.2.2.2.2.1.length = v.2.2.2.2.1.length) && (decide (v.2.2.2.2.2.1.length = v.2.2.2.2.2.1.length) && (decide (v.2.2.2.2.2.2.1.length = v.2.2.2.2.2.2.1.length) && true)))) then
some ((), (((), ()), (((), ()), (v.2.2.2.1, ((v.2.2.2.2.1.take 0 ++ v.2.2.2.2.1.drop 1), (v.2.2.2.2.2.1, (v.2.2.2.2.2.2.1, ())))))))
else none)
else (let x480 := (if (e458.2.2.1 : Int) < e458.2.1 then e458.2.2.1 else e458.2.1)
let x481 := (if (e458.2.2.1 : Int) > e458.2.1 then e458.2.2.1 else e458.2.1)
(m81 ((v.2.2.2.2.2.2.1, ((x480, (x481, ())), ())), ())).bind fun u482 =>
bif u482.1.1 then (bif (decide (v.2.2.2.1.length = v.2.2.2.1.length) && (decide (v.2.2.2.2.1.length = v.2.2.2.2.1.length) && (decide (v.2.2.2.2.2.1.length = v.2.2.2.2.2.1.length) && (decide (v.2.2.2.2.2.2.1.length = v.2.2.2.2.2.2.1.length) && true)))) then
some ((), (((), ()), (((), ()), (v.2.2.2.1, ((v.2.2.2.2.1.take 0 ++ v.2.2.2.2.1.drop 1), (v.2.2.2.2.2.1, (v.2.2.2.2.2.2.1, ())))))))
else none)
else (bif (decide ((0 : Int) ≤ e458.2.2.1 ∧ (e458.2.2.1 : Int) < v.2.2.2.1.length)) then
(v.2.2.2.1[e458.2.2.1.toNat]?).bind fun e483 =>
(m118 ((((v.2.2.2.1.length : Nat) : Int), (e483, (e458, ()))), ())).bind fun u484 =>
bif (decide ((0 : Int) ≤ e458.2.2.1 ∧ (e458.2.2.1 : Int) < v.2.2.2.1.length)) then
bif (decide (e458.2.2.1.toNat < v.2.2.2.1.length)) then
bif (decide ((v.2.2.2.1.set e458.2.2.1.toNat u484.2.1.1).length = v.2.2.2.1.length) && (decide (v.2.2.2.2.1.length = v.2.2.2.2.1.length) && (decide (v.2.2.2.2.2.1.length = v.2.2.2.2.2.1.length) && (decide (v.2.2.2.2.2.2.1.length = v.2.2.2.2.2.2.1.length) && true)))) then
some ((), (((), ()), (((), ()), ((v.2.2.2.1.set e458.2.2.1.toNat u484.2.1.1), ((v.2.2.2.2.1.take 0 ++ v.2.2.2.2.1.drop 1), (v.2.2.2.2.2.1, (v.2.2.2.2.2.2.1, ())))))))
else none
else none
else none
else none))
else none)
else (bif (decide (v.2.2.2.1.length = v.2.2.2.1.length) && (decide (v.2.2.2.2.1.length = v.2.2.2.2.1.length) && (decide (v.2.2.2.2.2.1.length = v.2.2.2.2.2.1.length) && (decide (v.2.2.2.2.2.2.1.length = v.2.2.2.2.2.2.1.length) && true)))) then
some ((), (((), ()), (((), ()), (v.2.2.2.1, ((v.2.2.2.2.1.take 0 ++ v.2.2.2.2.1.drop 1), (v.2.2.2.2.2.1, (v.2.2.2.2.2.2.1, ())))))))
else none))))
else none
else none
else none) : Option ((Unit) × Y14)).bind fun v485 =>
some (.inl ((), (((), ()), (((), ()), (v485.2.2.2.1, (v485.2.2.2.2.1, (v485.2.2.2.2.2.1, (v485.2.2.2.2.2.2.1, ())))))))))
else (some (.inr ((), (((), ()), (((), ()), (v.2.2.2.1, (v.2.2.2.2.1, (v.2.2.2.2.2.1, (v.2.2.2.2.2.2.1, ())))))))))

def l14_4_1 (v : ((Unit) × Y14)) : Option (((Unit) × Y14) ⊕ ((Unit) × Y14)) :=
let x490 := (decide ((((v.2.2.2.2.1.length : Nat) : Int) : Int) > 0))
bif x490 then (((bif (decide ((0 : Int) ≤ 0 ∧ (0 : Int) < v.2.2.2.2.1.length)) then
(v.2.2.2.2.1[0]?).bind fun e491 =>
bif (decide ((0 : Int) ≤ 0 ∧ (0 : Int) < 1 ∧ (1 : Int) ≤ v.2.2.2.2.1.length ∧ v.2.2.2.2.1.length ≤ 4294967296)) then
bif (decide (v.2.2.2.2.1.length = v.2.2.2.2.1.length) && true) then
bif ((e491.1 : Int) == 1) then (bif (decide ((0 : Int) ≤ e491.2.2.1 ∧ (e491.2.2.1 : Int) < v.2.2.2.2.2.1.length)) then
(v.2.2.2.2.2.1[e491.2.2.1.toNat]?).bind fun e492 =>
bif e492 then (bif (decide (v.2.2.2.1.length = v.2.2.2.1.length) && (decide (v.2.2.2.2.1.length = v.2.2.2.2.1.length) && (decide (v.2.2.2.2.2.1.length = v.2.2.2.2.2.1.length) && (decide (v.2.2.2.2.2.2.1.length = v.2.2.2.2.2.2.1.length) && true)))) then
some ((), (((), ()), (((), ()), (v.2.2.2.1, ((v.2.2.2.2.1.take 0 ++ v.2.2.2.2.1.drop 1), (v.2.2.2.2.2.1, (v.2.2.2.2.2.2.1, ())))))))
else none)
else (let x493 := (if (e491.2.2.1 : Int) < e491.2.1 then e491.2.2.1 else e491.2.1)
let x494 := (if (e491.2.2.1 : Int) > e491.2.1 then e491.2.2.1 else e491.2.1)
(m81 ((v.2.2.2.2.2.2.1, ((x493, (x494, ())), ())), ())).bind fun u495 =>
bif u495.1.1 then (bif (decide (v.2.2.2.1.length = v.2.2.2.1.length) && (decide (v.2.2.2.2.1.length = v.2.2.2.2.1.length) && (decide (v.2.2.2.2.2.1.length = v.2.2.2.2.2.1.length) && (decide (v.2.2.2.2.2.2.1.length = v.2.2.2.2.2.2.1.length) && true)))) then
some ((), (((), ()), (((), ()), (v.2.2.2.1, ((v.2.2.2.2.1.take 0 ++ v.2.2.2.2.1.drop 1), (v.2.2.2.2.2.1, (v.2.2.2.2.2.2.1, ())))))))
else none)
else (bif (decide ((0 : Int) ≤ e491.2.2.1 ∧ (e491.2.2.1 : Int) < v.2.2.2.1.length)) then
(v.2.2.2.1[e491.2.2.1.toNat]?).bind fun e496 =>
(m115 ((((v.2.2.2.1.length : Nat) : Int), (e496, (e491, ()))), ())).bind fun u497 =>
bif (decide ((0 : Int) ≤ e491.2.2.1 ∧ (e491.2.2.1 : Int) < v.2.2.2.1.length)) then
bif (decide (e491.2.2.1.toNat < v.2.2.2.1.length)) then
bif u497.1.1 then (bif (decide ((v.2.2.2.2.1.take 0 ++ v.2.2.2.2.1.drop 1).length + ([(u497.2.2.1.1.1, (u497.2.2.1.1.2.1, (u497.2.2.1.1.2.2.1, (u497.2.2.1.1.2.2.2.1, (u497.2.2.1.1.2.2.2.2.1, (u497.2.2.1.1.2.2.2.2.2.1, (u497.2.2.1.1.2.2.2.2.2.2.1, ([], (u497.2.2.1.1.2.2.2.2.2.2.2.1, ())))))))))] : List Y9).length ≤ 4294967296)) then
let x498 := ((v.2.2.2.2.1.take 0 ++ v.2.2.2.2.1.drop 1) ++ ([(u497.2.2.1.1.1, (u497.2.2.1.1.2.1, (u497.2.2.1.1.2.2.1, (u497.2.2.1.1.2.2.2.1, (u497.2.2.1.1.2.2.2.2.1, (u497.2.2.1.1.2.2.2.2.2.1, (u497.2.2.1.1.2.2.2.2.2.2.1, ([], (u497.2.2.1.1.2.2.2.2.2.2.2.1, ())))))))))] : List Y9))
bif (decide ((v.2.2.2.1.set e491.2.2.1.toNat u497.2.1.1).length = v.2.2.2.1.length) && (decide (v.2.2.2.2.1.length = v.2.2.2.2.1.length) && (decide (v.2.2.2.2.2.1.length = v.2.2.2.2.2.1.length) && (decide (v.2.2.2.2.2.2.1.length = v.2.2.2.2.2.2.1.length) && true)))) then
some ((), (((), ()), (((), ()), ((v.2.2.2.1.set e491.2.2.1.toNat u497.2.1.1), (x498, (v.2.2.2.2.2.1, (v.2.2.2.2.2.2.1, ())))))))
else none
else none)
else (bif (decide ((v.2.2.2.1.set e491.2.2.1.toNat u497.2.1.1).length = v.2.2.2.1.length) && (decide (v.2.2.2.2.1.length = v.2.2.2.2.1.length) && (decide (v.2.2.2.2.2.1.length = v.2.2.2.2.2.1.length) && (decide (v.2.2.2.2.2.2.1.length = v.2.2.2.2.2.2.1.length) && true)))) then
some ((), (((), ()), (((), ()), ((v.2.2.2.1.set e491.2.2.1.toNat u497.2.1.1), ((v.2.2.2.2.1.take 0 ++ v.2.2.2.2.1.drop 1), (v.2.2.2.2.2.1, (v.2.2.2.2.2.2.1, ())))))))
else none)
else none
else none
else none))
else none)
else (bif ((e491.1 : Int) == 2) then (bif (decide ((0 : Int) ≤ e491.2.2.1 ∧ (e491.2.2.1 : Int) < v.2.2.2.2.2.1.length)) then
(v.2.2.2.2.2.1[e491.2.2.1.toNat]?).bind fun e499 =>
bif e499 then (bif (decide (v.2.2.2.1.length = v.2.2.2.1.length) && (decide (v.2.2.2.2.1.length = v.2.2.2.2.1.length) && (decide (v.2.2.2.2.2.1.length = v.2.2.2.2.2.1.length) && (decide (v.2.2.2.2.2.2.1.length = v.2.2.2.2.2.2.1.length) && true)))) then
some ((), (((), ()), (((), ()), (v.2.2.2.1, ((v.2.2.2.2.1.take 0 ++ v.2.2.2.2.1.drop 1), (v.2.2.2.2.2.1, (v.2.2.2.2.2.2.1, ())))))))
else none)
else (let x500 := (if (e491.2.2.1 : Int) < e491.2.1 then e491.2.2.1 else e491.2.1)
let x501 := (if (e491.2.2.1 : Int) > e491.2.1 then e491.2.2.1 else e491.2.1)
(m81 ((v.2.2.2.2.2.2.1, ((x500, (x501, ())), ())), ())).bind fun u502 =>
bif u502.1.1 then (bif (decide (v.2.2.2.1.length = v.2.2.2.1.length) && (decide (v.2.2.2.2.1.length = v.2.2.2.2.1.length) && (decide (v.2.2.2.2.2.1.length = v.2.2.2.2.2.1.length) && (decide (v.2.2.2.2.2.2.1.length = v.2.2.2.2.2.2.1.length) && true)))) then
some ((), (((), ()), (((), ()), (v.2.2.2.1, ((v.2.2.2.2.1.take 0 ++ v.2.2.2.2.1.drop 1), (v.2.2.2.2.2.1, (v.2.2.2.2.2.2.1, ())))))))
else none)
else (bif (decide ((0 : Int) ≤ e491.2.2.1 ∧ (e491.2.2.1 : Int) < v.2.2.2.1.length)) then
(v.2.2.2.1[e491.2.2.1.toNat]?).bind fun e503 =>
(m116 ((((v.2.2.2.1.length : Nat) : Int), (e503, (e491, ()))), ())).bind fun u504 =>
bif (decide ((0 : Int) ≤ e491.2.2.1 ∧ (e491.2.2.1 : Int) < v.2.2.2.1.length)) then
bif (decide (e491.2.2.1.toNat < v.2.2.2.1.length)) then
bif (decide ((v.2.2.2.1.set e491.2.2.1.toNat u504.2.1.1).length = v.2.2.2.1.length) && (decide (v.2.2.2.2.1.length = v.2.2.2.2.1.length) && (decide (v.2.2.2.2.2.1.length = v.2.2.2.2.2.1.length) && (decide (v.2.2.2.2.2.2.1.length = v.2.2.2.2.2.2.1.length) && true)))) then
some ((), (((), ()), (((), ()), ((v.2.2.2.1.set e491.2.2.1.toNat u504.2.1.1), ((v.2.2.2.2.1.take 0 ++ v.2.2.2.2.1.drop 1), (v.2.2.2.2.2.1, (v.2.2.2.2.2.2.1, ())))))))
else none
else none
else none
else none))
else none)
else (bif ((e491.1 : Int) == 3) then (bif (decide ((0 : Int) ≤ e491.2.2.1 ∧ (e491.2.2.1 : Int) < v.2.2.2.2.2.1.length)) then
(v.2.2.2.2.2.1[e491.2.2.1.toNat]?).bind fun e505 =>
bif e505 then (bif (decide (v.2.2.2.1.length = v.2.2.2.1.length) && (decide (v.2.2.2.2.1.length = v.2.2.2.2.1.length) && (decide (v.2.2.2.2.2.1.length = v.2.2.2.2.2.1.length) && (decide (v.2.2.2.2.2.2.1.length = v.2.2.2.2.2.2.1.length) && true)))) then
some ((), (((), ()), (((), ()), (v.2.2.2.1, ((v.2.2.2.2.1.take 0 ++ v.2.2.2.2.1.drop 1), (v.2.2.2.2.2.1, (v.2.2.2.2.2.2.1, ())))))))
else none)
else (let x506 := (if (e491.2.2.1 : Int) < e491.2.1 then e491.2.2.1 else e491.2.1)
let x507 := (if (e491.2.2.1 : Int) > e491.2.1 then e491.2.2.1 else e491.2.1)
(m81 ((v.2.2.2.2.2.2.1, ((x506, (x507, ())), ())), ())).bind fun u508 =>
bif u508.1.1 then (bif (decide (v.2.2.2.1.length = v.2.2.2.1.length) && (decide (v.2.2.2.2.1.length = v.2.2.2.2.1.length) && (decide (v.2.2.2.2.2.1.length = v.2.2.2.2.2.1.length) && (decide (v.2.2.2.2.2.2.1.length = v.2.2.2.2.2.2.1.length) && true)))) then
some ((), (((), ()), (((), ()), (v.2.2.2.1, ((v.2.2.2.2.1.take 0 ++ v.2.2.2.2.1.drop 1), (v.2.2.2.2.2.1, (v.2.2.2.2.2.2.1, ())))))))
else none)
else (bif (decide ((0 : Int) ≤ e491.2.2.1 ∧ (e491.2.2.1 : Int) < v.2.2.2.1.length)) then
(v.2.2.2.1[e491.2.2.1.toNat]?).bind fun e509 =>
(m117 ((((v.2.2.2.1.length : Nat) : Int), (e509, (e491, ()))), ())).bind fun u510 =>
bif (decide ((0 : Int) ≤ e491.2.2.1 ∧ (e491.2.2.1 : Int) < v.2.2.2.1.length)) then
bif (decide (e491.2.2.1.toNat < v.2.2.2.1.length)) then
bif u510.1.1 then (bif (decide ((v.2.2.2.2.1.take 0 ++ v.2.2.2.2.1.drop 1).length + ([(u510.2.2.1.1.1, (u510.2.2.1.1.2.1, (u510.2.2.1.1.2.2.1, (u510.2.2.1.1.2.2.2.1, (u510.2.2.1.1.2.2.2.2.1, (u510.2.2.1.1.2.2.2.2.2.1, (u510.2.2.1.1.2.2.2.2.2.2.1, ([], (u510.2.2.1.1.2.2.2.2.2.2.2.1, ())))))))))] : List Y9).length ≤ 4294967296)) then
let x511 := ((v.2.2.2.2.1.take 0 ++ v.2.2.2.2.1.drop 1) ++ ([(u510.2.2.1.1.1, (u510.2.2.1.1.2.1, (u510.2.2.1.1.2.2.1, (u510.2.2.1.1.2.2.2.1, (u510.2.2.1.1.2.2.2.2.1, (u510.2.2.1.1.2.2.2.2.2.1, (u510.2.2.1.1.2.2.2.2.2.2.1, ([], (u510.2.2.1.1.2.2.2.2.2.2.2.1, ())))))))))] : List Y9))
bif (decide ((v.2.2.2.1.set e491.2.2.1.toNat u510.2.1.1).length = v.2.2.2.1.length) && (decide (v.2.2.2.2.1.length = v.2.2.2.2.1.length) && (decide (v.2.2.2.2.2.1.length = v.2.2.2.2.2.1.length) && (decide (v.2.2.2.2.2.2.1.length = v.2.2.2.2.2.2.1.length) && true)))) then
some ((), (((), ()), (((), ()), ((v.2.2.2.1.set e491.2.2.1.toNat u510.2.1.1), (x511, (v.2.2.2.2.2.1, (v.2.2.2.2.2.2.1, ())))))))
else none
else none)
else (bif (decide ((v.2.2.2.1.set e491.2.2.1.toNat u510.2.1.1).length = v.2.2.2.1.length) && (decide (v.2.2.2.2.1.length = v.2.2.2.2.1.length) && (decide (v.2.2.2.2.2.1.length = v.2.2.2.2.2.1.length) && (decide (v.2.2.2.2.2.2.1.length = v.2.2.2.2.2.2.1.length) && true)))) then
some ((), (((), ()), (((), ()), ((v.2.2.2.1.set e491.2.2.1.toNat u510.2.1.1), ((v.2.2.2.2.1.take 0 ++ v.2.2.2.2.1.drop 1), (v.2.2.2.2.2.1, (v.2.2.2.2.2.2.1, ())))))))
else none)
else none
else none
else none))
else none)
else (bif ((e491.1 : Int) == 4) then (bif (decide ((0 : Int) ≤ e491.2.2.1 ∧ (e491.2.2.1 : Int) < v.2.2.2.2.2.1.length)) then
(v.2.2.2.2.2.1[e491.2.2.1.toNat]?).bind fun e512 =>
bif e512 then (bif (decide (v.2.2.2.1.length = v.2.2.2.1.length) && (decide (v.2.2.2.2.1.length = v.2.2.2.2.1.length) && (decide (v.2.2.2.2.2.1.length = v.2.2.2.2.2.1.length) && (decide (v.2.2.2.2.2.2.1.length = v.2.2.2.2.2.2.1.length) && true)))) then
some ((), (((), ()), (((), ()), (v.2.2.2.1, ((v.2.2.2.2.1.take 0 ++ v.2.2.2.2.1.drop 1), (v.2.2.2.2.2.1, (v.2.2.2.2.2.2.1, ())))))))
else none)
else (let x513 := (if (e491.2.2.1 : Int) < e491.2.1 then e491.2.2.1 else e491.2.1)
let x514 := (if (e491.2.2.1 : Int) > e491.2.1 then e491.2.2.1 else e491.2.1)
(m81 ((v.2.2.2.2.2.2.1, ((x513, (x514, ())), ())), ())).bind fun u515 =>
bif u515.1.1 then (bif (decide (v.2.2.2.1.length = v.2.2.2.1.length) && (decide (v.2.2.2.2.1.length = v.2.2.2.2.1.length) && (decide (v.2.2.2.2.2.1.length = v.2.2.2.2.2.1.length) && (decide (v.2.2.2.2.2.2.1.length = v.2.2.2.2.2.2.1.length) && true)))) then
some ((), (((), ()), (((), ()), (v.2.2.2.1, ((v.2.2.2.2.1.take 0 ++ v.2.2.2.2.1.drop 1), (v.2.2.2.2.2.1, (v.2.2.2.2.2.2.1, ())))))))
else none)
else (bif (decide ((0 : Int) ≤ e491.2.2.1 ∧ (e491.2.2.1 : Int) < v.2.2.2.1.length)) then
(v.2.2.2.1[e491.2.2.1.toNat]?).bind fun e516 =>
(m118 ((((v.2.2.2.1.length : Nat) : Int), (e516, (e491, ()))), ())).bind fun u517 =>
bif (decide ((0 : Int) ≤ e491.2.2.1 ∧ (e491.2.2.1 : Int) < v.2.2.2.1.length)) then
bif (decide (e491.2.2.1.toNat < v.2.2.2.1.length)) then
bif (decide ((v.2.2.2.1.set e491.2.2.1.toNat u517.2.1.1).length = v.2.2.2.1.length) && (decide (v.2.2.2.2.1.length = v.2.2.2.2.1.length) && (decide (v.2.2.2.2.2.1.length = v.2.2.2.2.2.1.length) && (decide (v.2.2.2.2.2.2.1.length = v.2.2.2.2.2.2.1.length) && true)))) then
some ((), (((), ()), (((), ()), ((v.2.2.2.1.set e491.2.2.1.toNat u517.2.1.1), ((v.2.2.2.2.1.take 0 ++ v.2.2.2.2.1.drop 1), (v.2.2.2.2.2.1, (v.2.2.2.2.2.2.1, ())))))))
else none
else none
else none
else none))
else none)
else (bif (decide (v.2.2.2.1.length = v.2.2.2.1.length) && (decide (v.2.2.2.2.1.length = v.2.2.2.2.1.length) && (decide (v.2.2.2.2.2.1.length = v.2.2.2.2.2.1.length) && (decide (v.2.2.2.2.2.2.1.length = v.2.2.2.2.2.2.1.length) && true)))) then
some ((), (((), ()), (((), ()), (v.2.2.2.1, ((v.2.2.2.2.1.take 0 ++ v.2.2.2.2.1.drop 1), (v.2.2.2.2.2.1, (v.2.2.2.2.2.2.1, ())))))))
else none))))
else none
else none
else none) : Option ((Unit) × Y14)).bind fun v518 =>
some (.inl ((), (((), ()), (((), ()), (v518.2.2.2.1, (v518.2.2.2.2.1, (v518.2.2.2.2.2.1, (v518.2.2.2.2.2.2.1, ())))))))))
else (some (.inr ((), (((), ()), (((), ()), (v.2.2.2.1, (v.2.2.2.2.1, (v.2.2.2.2.2.1, (v.2.2.2.2.2.2.1, ())))))))))

def l14_0_11 (v : ((Int × Int × Unit) × Y14)) : Option (((Int × Int × Unit) × Y14) ⊕ ((Unit) × Y14)) :=
bif (decide ((v.1.1 : Int) < 2)) then (((bif (decide ((0 : Int) ≤ v.1.2.1 ∧ (v.1.2.1 : Int) < v.2.2.2.1.length)) then
(v.2.2.2.1[v.1.2.1.toNat]?).bind fun e487 =>
bif ((e487.2.2.2.1 : Int) == 2) then (bif (decide ((0 : Int) ≤ v.1.2.1 ∧ (v.1.2.1 : Int) < v.2.2.2.1.length)) then
(v.2.2.2.1[v.1.2.1.toNat]?).bind fun e488 =>
(m58 ((((v.2.2.2.1.length : Nat) : Int), (e488, ())), ())).bind fun u489 =>
(loopT l14_4_1 ((), (((), ()), (((), ()), (v.2.2.2.1, (u489.2.1, (v.2.2.2.2.2.1, (v.2.2.2.2.2.2.1, ())))))))).bind fun d519 =>
bif (decide (v.2.2.2.1.length = v.2.2.2.1.length) && (decide (u489.2.1.length = u489.2.1.length) && (decide (v.2.2.2.2.2.1.length = v.2.2.2.2.2.1.length) && (decide (v.2.2.2.2.2.2.1.length = v.2.2.2.2.2.2.1.length) && true)))) then
some ((v.1.2.1, (v.1.1, ())), (((), ()), (((), ()), (d519.2.2.2.1, (d519.2.2.2.2.1, (d519.2.2.2.2.2.1, (d519.2.2.2.2.2.2.1, ())))))))
else none
else none)
else (some ((v.1.2.1, (v.1.1, ())), (((), ()), (((), ()), (v.2.2.2.1, (v.2.2.2.2.1, (v.2.2.2.2.2.1, (v.2.2.2.2.2.2.1, ()))))))))
else none) : Option ((Int × Int × Unit) × Y14)).bind fun v520 =>
some (.inl (((w64 (v520.1.2.1 + 1)), (v520.1.1, ())), (((), ()), (((), ()), (v520.2.2.2.1, (v520.2.2.2.2.1, (v520.2.2.2.2.2.1, (v520.2.2.2.2.2.2.1, ())))))))))
else (some (.inr ((), (((), ()), (((), ()), (v.2.2.2.1, (v.2.2.2.2.1, (v.2.2.2.2.2.1, (v.2.2.2.2.2.2.1, ())))))))))

/- pagewatch/region.Settle -/
def i14 : Abs.Sg := ⟨[0, 1], (.dat Z7 Qs3), .nil⟩

def o14 : Abs.Sg := ⟨[4, 5], (.st Qx9 Qs3), Qb2⟩

def m14 (v : Y20) : Option ((Int × Unit) × Y13) :=
(m55 ((v.1.1, (v.1.2.1, ())), ())).bind fun u454 =>
bif ((u454.1.1 : Int) != 0) then (some ((u454.1.1, ()), (((), ()), ([], ([], ([], ([], ())))))))
else ((m56 ((v.1.1, ()), ())).bind fun u455 =>
(m28 (((u455.2.2.1, ([], (u455.2.2.2.2.1, (u455.2.2.2.2.2.1, ())))), (v.1.2.1, ())), ())).bind fun u456 =>
bif ((u456.1.1 : Int) != 0) then (some ((u456.1.1, ()), (((), ()), ([], ([], ([], ([], ())))))))
else ((loopT l14_1_1 ((), (((), ()), (((), ()), (u456.2.2.1, (u456.2.2.2.1, (u456.2.2.2.2.1, (u456.2.2.2.2.2.1, ())))))))).bind fun d486 =>
bif (decide (u456.2.2.1.length = u456.2.2.1.length) && (decide (u456.2.2.2.1.length = u456.2.2.2.1.length) && (decide (u456.2.2.2.2.1.length = u456.2.2.2.2.1.length) && (decide (u456.2.2.2.2.2.1.length = u456.2.2.2.2.2.1.length) && true)))) then
(loopT l14_0_11 ((0, (v.1.2.1, ())), (((), ()), (((), ()), (d486.2.2.2.1, (d486.2.2.2.2.1, (d486.2.2.2.2.2.1, (d486.2.2.2.2.2.2.1, ())))))))).bind fun d521 =>
some ((0, ()), (((), ()), (d521.2.2.2.1, (d521.2.2.2.2.1, (d521.2.2.2.2.2.1, (d521.2.2.2.2.2.2.1, ()))))))
else none))

def sp14 : Abs.Spec := ⟨0, i14, o14, m14⟩

def an14 : Nat → Abs.FAn
  | 0 => Abs.FAn.mk (fun _ => none) (fun
    | 15 => some (⟨[2, 1, 4, 30], (.st Qx9 (.dat (.int .i64) (.st Qx23 Qs3))), Qb6⟩, none)
    | _ => none) (fun
    | 11 => some ⟨⟨[30, 2, 1, 4], (.dat (.int .i64) (.st Qx9 (.dat (.int .i64) (.st Qx23 .nil)))), Qb6⟩, (.one (.exit 0) ⟨[4, 2], Qs17, Qb18⟩)⟩
    | _ => none) (fun
    | 14, 1 => 4
    | 9, 1 => 1
    | _, _ => 0)
  | 1 => Abs.FAn.mk (fun
    | 2 => some ⟨[1, 2], Qs17, Qb6⟩
    | _ => none) (fun _ => none) (fun
    | 1 => some ⟨⟨[1, 2], Qs17, Qb6⟩, (.one (.exit 0) ⟨[2, 1], Qs17, Qb18⟩)⟩
    | _ => none) (fun
    | 2, 1 => 2
    | _, _ => 0)
  | 2 => Abs.FAn.mk (fun _ => none) (fun _ => none) (fun _ => none) (fun
    | 6, 11 => 3
    | _, _ => 0)
  | 4 => Abs.FAn.mk (fun
    | 2 => some ⟨[1, 2], Qs17, Qb6⟩
    | _ => none) (fun _ => none) (fun
    | 1 => some ⟨⟨[1, 2], Qs17, Qb6⟩, (.one (.exit 0) ⟨[2, 1], Qs17, Qb18⟩)⟩
    | _ => none) (fun
    | 2, 1 => 5
    | _, _ => 0)
  | 5 => Abs.FAn.mk (fun _ => none) (fun _ => none) (fun _ => none) (fun
    | 6, 11 => 6
    | _, _ => 0)
  | _ => {}

theorem ok14 : Abs.SpecOK Tryz.prog 14 sp14 :=
  okW (an := an14) (alc ok55 (alc ok56 (alc ok28 (alc ok81 (alc ok115 (alc ok116 (alc ok117 (alc ok118 (alc ok58 al0))))))))) rfl (by intro v; kernel_rfl)

/- 102 pagewatch/replica.Propose$1: not told by a law: a closure -/

/- 119 slices.IndexFunc[[]pagewatch/api.Entry,pagewatch/api.Entry]: not told by a law: a parameter -/

/- 101 slices.ContainsFunc[[]pagewatch/api.Entry,pagewatch/api.Entry]: not told by a law: a parameter -/

def l71_2_2 (v : ((Int × Y2 × Int × Unit) × ((Y10 × Unit) × Unit))) : Option (((Int × Y2 × Int × Unit) × ((Y10 × Unit) × Unit)) ⊕ (((Int × Unit) × ((Y10 × Unit) × Unit)) ⊕ ((Unit) × ((Y10 × Unit) × Unit)))) :=
bif (decide ((v.1.1 : Int) < v.1.2.2.1)) then (Abs.rowAt v.1.2.1 v.1.1 fun e53 _ =>
bif ((e53.2.1.1 : Int) == v.2.1.1.1) then (some (.inr (.inl ((v.1.1, ()), ((v.2.1.1, ()), ())))))
else (some (.inl (((w64 (v.1.1 + 1)), (v.1.2.1, (v.1.2.2.1, ()))), ((v.2.1.1, ()), ())))))
else (some (.inr (.inr ((), ((v.2.1.1, ()), ())))))

/- pagewatch/replica.Propose -/
def i71 : Abs.Sg := ⟨[0, 1, 2], (.dat (.int .i64) (.dat Z3 (.dat Z6 .nil))), .nil⟩

def o71 : Abs.Sg := ⟨[6, 7], (.st Qx10 Qs3), Qb19⟩

def m71 (v : ((Int × Y8 × Y10 × Unit) × (Unit))) : Option ((Int × Unit) × (Y12 × Y2 × (List Bool) × (List Int) × Unit)) :=
(m84 ((v.1.1, (v.1.2.1, ())), ())).bind fun u52 =>
bif (!u52.1.1) then (some ((8, ()), (((0, (0, (0, (0, (0, ()))))), ()), ([], ([], ([], ()))))))
else (bif ((v.1.2.1.2.2.2.1 : Int) != 2) then (some ((22, ()), (((0, (0, (0, (0, (0, ()))))), ()), ([], ([], ([], ()))))))
else ((((loopT l71_2_2 ((0, (v.1.2.1.2.2.2.2.1, ((v.1.2.1.2.2.2.2.1.length : Int), ()))), ((v.1.2.2.1, ()), ()))).bind fun d54 =>
sumE d54 (fun d55 => (some (((decide ((d55.1.1 : Int) ≥ 0)), ()), ((d55.2.1.1, ()), ())))) (fun d56 => (some ((false, ()), ((d56.2.1.1, ()), ()))))) : Option ((Bool × Unit) × ((Y10 × Unit) × Unit))).bind fun v57 =>
bif v57.1.1 then (some ((4, ()), (((0, (0, (0, (0, (0, ()))))), ()), ([], ([], ([], ()))))))
else (let x58 := (((v.1.2.1.2.2.2.2.1.length : Int) : Int) == 256)
bif x58 then (some ((5, ()), (((0, (0, (0, (0, (0, ()))))), ()), ([], ([], ([], ()))))))
else ((m94 ((v.1.2.1, ()), ())).bind fun u59 =>
bif (decide (u59.2.2.1.length + ([(u59.2.1.1.2.1, (v57.2.1.1, ()))] : List (Int × Y10 × Unit)).length ≤ 4294967296)) then
let x60 := (u59.2.2.1 ++ ([(u59.2.1.1.2.1, (v57.2.1.1, ()))] : List (Int × Y10 × Unit)))
bif (decide ((0 : Int) ≤ u59.2.1.1.1 ∧ (u59.2.1.1.1 : Int) < u59.2.2.2.2.1.length)) then
bif (decide (u59.2.1.1.1.toNat < u59.2.2.2.2.1.length)) then
(((m103 ((v.1.1, ()), ())).bind fun u61 =>
bif ((u61.1.1 : Int) == 1) then (some ((), (((0, (0, (0, (0, (0, ()))))), ()), (((u59.2.1.1.1, (u59.2.1.1.2.1, (u59.2.1.1.2.2.1, (u59.2.1.1.2.2.2.1, (((x60.length : Nat) : Int), ()))))), ()), (x60, (u59.2.2.2.1, ((u59.2.2.2.2.1.set u59.2.1.1.1.toNat ((x60.length : Nat) : Int)), ())))))))
else (some ((), (((0, (0, (0, (0, (0, ()))))), ()), (((u59.2.1.1.1, (u59.2.1.1.2.1, (u59.2.1.1.2.2.1, (u59.2.1.1.2.2.2.1, (u59.2.1.1.2.2.2.2.1, ()))))), ()), (x60, (u59.2.2.2.1, ((u59.2.2.2.2.1.set u59.2.1.1.1.toNat ((x60.length : Nat) : Int)), ())))))))) : Option ((Unit) × Y19)).bind fun v62 =>
some ((0, ()), (((v62.2.2.1.1.1, (v62.2.2.1.1.2.1, (v62.2.2.1.1.2.2.1, (v62.2.2.1.1.2.2.2.1, (v62.2.2.1.1.2.2.2.2.1, ()))))), ()), (v62.2.2.2.1, (v62.2.2.2.2.1, (v62.2.2.2.2.2.1, ())))))
else none
else none
else none))))

def sp71 : Abs.Spec := ⟨0, i71, o71, m71⟩

def an71 : Nat → Abs.FAn
  | 0 => Abs.FAn.mk (fun _ => none) (fun
    | 14 => some (⟨[6, 4], Qs41, (.box 8 Qs1 (.box 8 Qs4 Qb8))⟩, none)
    | _ => none) (fun _ => none) (fun
    | 5, 3 => 1
    | _, _ => 0)
  | 1 => Abs.FAn.mk (fun
    | 1 => some ⟨[4], Qs12, (.box 20 (.dat Z6 .nil) .nil)⟩
    | _ => none) (fun _ => none) (fun _ => none) (fun
    | 1, 2 => 2
    | _, _ => 0)
  | 2 => Abs.FAn.mk (fun _ => none) (fun _ => none) (fun
    | 2 => some ⟨⟨[8, 0, 1, 7], (.dat (.int .i64) (.dat (.row Z1) (.st (.clo 102 [((0, 0), 20, 0, 0)]) Qs3))), (.box 20 (.dat Z6 .nil) .nil)⟩, (.more .ret ⟨[4], Qs3, (.box 20 (.dat Z6 .nil) .nil)⟩ (.one (.exit 0) ⟨[], .nil, (.box 20 (.dat Z6 .nil) .nil)⟩))⟩
    | _ => none) (fun
    | 4, 5 => 3
    | _, _ => 0)
  | _ => {}

theorem ok71 : Abs.SpecOK Tryz.prog 71 sp71 :=
  okW (an := an71) (alc ok84 (alc ok94 (alc ok103 al0))) rfl (by intro v; kernel_rfl)

/- pagewatch/region.Propose -/
def i30 : Abs.Sg := ⟨[0, 1, 2], (.dat Z7 (.dat (.int .i64) (.dat Z6 .nil))), .nil⟩

def o30 : Abs.Sg := ⟨[6, 7], (.st Qx9 Qs3), Qb2⟩

def m30 (v : ((Y5 × Int × Y10 × Unit) × (Unit))) : Option ((Int × Unit) × Y13) :=
(m55 ((v.1.1, (v.1.2.1, ())), ())).bind fun u13 =>
bif ((u13.1.1 : Int) != 0) then (some ((u13.1.1, ()), (((), ()), ([], ([], ([], ([], ())))))))
else ((m56 ((v.1.1, ()), ())).bind fun u14 =>
bif (decide ((0 : Int) ≤ v.1.2.1 ∧ (v.1.2.1 : Int) < u14.2.2.1.length)) then
(u14.2.2.1[v.1.2.1.toNat]?).bind fun e15 =>
(m71 ((((u14.2.2.1.length : Nat) : Int), (e15, (v.1.2.2.1, ()))), ())).bind fun u16 =>
bif ((u16.1.1 : Int) != 0) then (some ((u16.1.1, ()), (((), ()), ([], ([], ([], ([], ())))))))
else (bif (decide ((0 : Int) ≤ v.1.2.1 ∧ (v.1.2.1 : Int) < u14.2.2.1.length)) then
bif (decide (v.1.2.1.toNat < u14.2.2.1.length)) then
some ((0, ()), (((), ()), ((u14.2.2.1.set v.1.2.1.toNat (u16.2.1.1.1, (u16.2.1.1.2.1, (u16.2.1.1.2.2.1, (u16.2.1.1.2.2.2.1, (u16.2.2.1, (u16.2.1.1.2.2.2.2.1, (u16.2.2.2.1, (u16.2.2.2.2.1, ()))))))))), (u14.2.2.2.1, (u14.2.2.2.2.1, (u14.2.2.2.2.2.1, ()))))))
else none
else none)
else none)

def sp30 : Abs.Spec := ⟨0, i30, o30, m30⟩

def an30 : Nat → Abs.FAn
  | _ => {}

theorem ok30 : Abs.SpecOK Tryz.prog 30 sp30 :=
  okW (an := an30) (alc ok55 (alc ok56 (alc ok71 al0))) rfl (by intro v; kernel_rfl)

/- pagewatch/region.Beat -/
def i32 : Abs.Sg := ⟨[0, 1], (.dat Z7 Qs3), .nil⟩

def o32 : Abs.Sg := ⟨[4, 5], (.st Qx9 Qs3), Qb2⟩

def m32 (v : Y20) : Option ((Int × Unit) × Y13) :=
(m55 ((v.1.1, (v.1.2.1, ())), ())).bind fun u21 =>
bif ((u21.1.1 : Int) != 0) then (some ((u21.1.1, ()), (((), ()), ([], ([], ([], ([], ())))))))
else (Abs.rowAt v.1.1.1 v.1.2.1 fun e22 _ =>
bif ((e22.2.2.2.1 : Int) != 2) then (some ((22, ()), (((), ()), ([], ([], ([], ([], ())))))))
else ((m56 ((v.1.1, ()), ())).bind fun u23 =>
((bif (decide ((0 : Int) ≤ v.1.2.1 ∧ (v.1.2.1 : Int) < u23.2.2.1.length)) then
(u23.2.2.1[v.1.2.1.toNat]?).bind fun e24 =>
(m58 ((((u23.2.2.1.length : Nat) : Int), (e24, ())), ())).bind fun u25 =>
let x26 := (w64 (((u23.2.2.2.1.length : Nat) : Int) + ((u25.2.1.length : Nat) : Int)))
bif (decide ((x26 : Int) > 256)) then (bif (decide (u23.2.2.1.length = u23.2.2.1.length) && (decide (u23.2.2.2.1.length = u23.2.2.2.1.length) && (decide (u23.2.2.2.2.1.length = u23.2.2.2.2.1.length) && (decide (u23.2.2.2.2.2.1.length = u23.2.2.2.2.2.1.length) && (decide (u25.2.1.length = u25.2.1.length) && true))))) then
some ((5, ()), (((), ()), ([], ([], ([], ([], ()))))))
else none)
else (bif (decide (u23.2.2.2.1.length + u25.2.1.length ≤ 4294967296)) then
bif (decide (u23.2.2.1.length = u23.2.2.1.length) && (decide (u23.2.2.2.1.length = u23.2.2.2.1.length) && (decide (u23.2.2.2.2.1.length = u23.2.2.2.2.1.length) && (decide (u23.2.2.2.2.2.1.length = u23.2.2.2.2.2.1.length) && (decide (u25.2.1.length = u25.2.1.length) && true))))) then
some ((0, ()), (((), ()), (u23.2.2.1, ((u23.2.2.2.1 ++ u25.2.1), (u23.2.2.2.2.1, (u23.2.2.2.2.2.1, ()))))))
else none
else none)
else none) : Option ((Int × Unit) × Y13)).bind fun v27 =>
some ((v27.1.1, ()), (((), ()), (v27.2.2.1, (v27.2.2.2.1, (v27.2.2.2.2.1, (v27.2.2.2.2.2.1, ()))))))))

def sp32 : Abs.Spec := ⟨0, i32, o32, m32⟩

def an32 : Nat → Abs.FAn
  | 0 => Abs.FAn.mk (fun
    | 7 => some ⟨[4, 5], (.st Qx9 Qs3), Qb2⟩
    | _ => none) (fun _ => none) (fun _ => none) (fun
    | 7, 10 => 1
    | _, _ => 0)
  | _ => {}

theorem ok32 : Abs.SpecOK Tryz.prog 32 sp32 :=
  okW (an := an32) (alc ok55 (alc ok56 (alc ok58 al0))) rfl (by intro v; kernel_rfl)

/- pagewatch/region.Deliver -/
def i20 : Abs.Sg := ⟨[0, 1], (.dat Z7 Qs3), .nil⟩

def o20 : Abs.Sg := ⟨[4, 5], (.st Qx9 Qs3), Qb2⟩

def m20 (v : Y20) : Option ((Int × Unit) × Y13) :=
(m62 ((v.1.1, (v.1.2.1, ((v.1.1.2.1.length : Int), ()))), ())).bind fun u62 =>
bif ((u62.1.1 : Int) != 0) then (some ((u62.1.1, ()), (((), ()), ([], ([], ([], ([], ())))))))
else ((((m56 ((v.1.1, ()), ())).bind fun u63 =>
bif (decide ((0 : Int) ≤ v.1.2.1 ∧ (v.1.2.1 : Int) < u63.2.2.2.1.length)) then
(u63.2.2.2.1[v.1.2.1.toNat]?).bind fun e64 =>
bif (decide ((0 : Int) ≤ v.1.2.1 ∧ (v.1.2.1 : Int) < (w64 (v.1.2.1 + 1)) ∧ ((w64 (v.1.2.1 + 1)) : Int) ≤ u63.2.2.2.1.length ∧ u63.2.2.2.1.length ≤ 4294967296)) then
bif (decide (u63.2.2.2.1.length = u63.2.2.2.1.length) && true) then
bif ((e64.1 : Int) == 1) then (bif (decide ((0 : Int) ≤ e64.2.2.1 ∧ (e64.2.2.1 : Int) < u63.2.2.2.2.1.length)) then
(u63.2.2.2.2.1[e64.2.2.1.toNat]?).bind fun e65 =>
bif e65 then (bif (decide (u63.2.2.1.length = u63.2.2.1.length) && (decide (u63.2.2.2.1.length = u63.2.2.2.1.length) && (decide (u63.2.2.2.2.1.length = u63.2.2.2.2.1.length) && (decide (u63.2.2.2.2.2.1.length = u63.2.2.2.2.2.1.length) && true)))) then
some ((0, ()), (((), ()), (u63.2.2.1, ((u63.2.2.2.1.take v.1.2.1.toNat ++ u63.2.2.2.1.drop (w64 (v.1.2.1 + 1)).toNat), (u63.2.2.2.2.1, (u63.2.2.2.2.2.1, ()))))))
else none)
else (let x66 := (if (e64.2.2.1 : Int) < e64.2.1 then e64.2.2.1 else e64.2.1)
let x67 := (if (e64.2.2.1 : Int) > e64.2.1 then e64.2.2.1 else e64.2.1)
(m81 ((u63.2.2.2.2.2.1, ((x66, (x67, ())), ())), ())).bind fun u68 =>
bif u68.1.1 then (bif (decide (u63.2.2.1.length = u63.2.2.1.length) && (decide (u63.2.2.2.1.length = u63.2.2.2.1.length) && (decide (u63.2.2.2.2.1.length = u63.2.2.2.2.1.length) && (decide (u63.2.2.2.2.2.1.length = u63.2.2.2.2.2.1.length) && true)))) then
some ((0, ()), (((), ()), (u63.2.2.1, ((u63.2.2.2.1.take v.1.2.1.toNat ++ u63.2.2.2.1.drop (w64 (v.1.2.1 + 1)).toNat), (u63.2.2.2.2.1, (u63.2.2.2.2.2.1, ()))))))
else none)
else (bif (decide ((0 : Int) ≤ e64.2.2.1 ∧ (e64.2.2.1 : Int) < u63.2.2.1.length)) then
(u63.2.2.1[e64.2.2.1.toNat]?).bind fun e69 =>
(m115 ((((u63.2.2.1.length : Nat) : Int), (e69, (e64, ()))), ())).bind fun u70 =>
bif (decide ((0 : Int) ≤ e64.2.2.1 ∧ (e64.2.2.1 : Int) < u63.2.2.1.length)) then
bif (decide (e64.2.2.1.toNat < u63.2.2.1.length)) then
bif u70.1.1 then (bif (decide ((u63.2.2.2.1.take v.1.2.1.toNat ++ u63.2.2.2.1.drop (w64 (v.1.2.1 + 1)).toNat).length + ([(u70.2.2.1.1.1, (u70.2.2.1.1.2.1, (u70.2.2.1.1.2.2.1, (u70.2.2.1.1.2.2.2.1, (u70.2.2.1.1.2.2.2.2.1, (u70.2.2.1.1.2.2.2.2.2.1, (u70.2.2.1.1.2.2.2.2.2.2.1, ([], (u70.2.2.1.1.2.2.2.2.2.2.2.1, ())))))))))] : List Y9).length ≤ 4294967296)) then
let x71 := ((u63.2.2.2.1.take v.1.2.1.toNat ++ u63.2.2.2.1.drop (w64 (v.1.2.1 + 1)).toNat) ++ ([(u70.2.2.1.1.1, (u70.2.2.1.1.2.1, (u70.2.2.1.1.2.2.1, (u70.2.2.1.1.2.2.2.1, (u70.2.2.1.1.2.2.2.2.1, (u70.2.2.1.1.2.2.2.2.2.1, (u70.2.2.1.1.2.2.2.2.2.2.1, ([], (u70.2.2.1.1.2.2.2.2.2.2.2.1, ())))))))))] : List Y9))
bif (decide ((u63.2.2.1.set e64.2.2.1.toNat u70.2.1.1).length = u63.2.2.1.length) && (decide (u63.2.2.2.1.length = u63.2.2.2.1.length) && (decide (u63.2.2.2.2.1.length = u63.2.2.2.2.1.length) && (decide (u63.2.2.2.2.2.1.length = u63.2.2.2.2.2.1.length) && true)))) then
some ((0, ()), (((), ()), ((u63.2.2.1.set e64.2.2.1.toNat u70.2.1.1), (x71, (u63.2.2.2.2.1, (u63.2.2.2.2.2.1, ()))))))
else none
else none)
else (bif (decide ((u63.2.2.1.set e64.2.2.1.toNat u70.2.1.1).length = u63.2.2.1.length) && (decide (u63.2.2.2.1.length = u63.2.2.2.1.length) && (decide (u63.2.2.2.2.1.length = u63.2.2.2.2.1.length) && (decide (u63.2.2.2.2.2.1.length = u63.2.2.2.2.2.1.length) && true)))) then
some ((0, ()), (((), ()), ((u63.2.2.1.set e64.2.2.1.toNat u70.2.1.1), ((u63.2.2.2.1.take v.1.2.1.toNat ++ u63.2.2.2.1.drop (w64 (v.1.2.1 + 1)).toNat), (u63.2.2.2.2.1, (u63.2.2.2.2.2.1, ()))))))
else none)
else none
else none
else none))
else none)
else (bif ((e64.1 : Int) == 2) then (bif (decide ((0 : Int) ≤ e64.2.2.1 ∧ (e64.2.2.1 : Int) < u63.2.2.2.2.1.length)) then
(u63.2.2.2.2.1[e64.2.2.1.toNat]?).bind fun e72 =>
bif e72 then (bif (decide (u63.2.2.1.length = u63.2.2.1.length) && (decide (u63.2.2.2.1.length = u63.2.2.2.1.length) && (decide (u63.2.2.2.2.1.length = u63.2.2.2.2.1.length) && (decide (u63.2.2.2.2.2.1.length = u63.2.2.2.2.2.1.length) && true)))) then
some ((0, ()), (((), ()), (u63.2.2.1, ((u63.2.2.2.1.take v.1.2.1.toNat ++ u63.2.2.2.1.drop (w64 (v.1.2.1 + 1)).toNat), (u63.2.2.2.2.1, (u63.2.2.2.2.2.1, ()))))))
else none)
else (let x73 := (if (e64.2.2.1 : Int) < e64.2.1 then e64.2.2.1 else e64.2.1)
let x74 := (if (e64.2.2.1 : Int) > e64.2.1 then e64.2.2.1 else e64.2.1)
(m81 ((u63.2.2.2.2.2.1, ((x73, (x74, ())), ())), ())).bind fun u75 =>
bif u75.1.1 then (bif (decide (u63.2.2.1.length = u63.2.2.1.length) && (decide (u63.2.2.2.1.length = u63.2.2.2.1.length) && (decide (u63.2.2.2.2.1.length = u63.2.2.2.2.1.length) && (decide (u63.2.2.2.2.2.1.length = u63.2.2.2.2.2.1.length) && true)))) then
some ((0, ()), (((), ()), (u63.2.2.1, ((u63.2.2.2.1.take v.1.2.1.toNat ++ u63.2.2.2.1.drop (w64 (v.1.2.1 + 1)).toNat), (u63.2.2.2.2.1, (u63.2.2.2.2.2.1, ()))))))
else none)
else (bif (decide ((0 : Int) ≤ e64.2.2.1 ∧ (e64.2.2.1 : Int) < u63.2.2.1.length)) then
(u63.2.2.1[e64.2.2.1.toNat]?).bind fun e76 =>
(m116 ((((u63.2.2.1.length : Nat) : Int), (e76, (e64, ()))), ())).bind fun u77 =>
bif (decide ((0 : Int) ≤ e64.2.2.1 ∧ (e64.2.2.1 : Int) < u63.2.2.1.length)) then
bif (decide (e64.2.2.1.toNat < u63.2.2.1.length)) then
bif (decide ((u63.2.2.1.set e64.2.2.1.toNat u77.2.1.1).length = u63.2.2.1.length) && (decide (u63.2.2.2.1.length = u63.2.2.2.1.length) && (decide (u63.2.2.2.2.1.length = u63.2.2.2.2.1.length) && (decide (u63.2.2.2.2.2.1.length = u63.2.2.2.2.2.1.length) && true)))) then
some ((0, ()), (((), ()), ((u63.2.2.1.set e64.2.2.1.toNat u77.2.1.1), ((u63.2.2.2.1.take v.1.2.1.toNat ++ u63.2.2.2.1.drop (w64 (v.1.2.1 + 1)).toNat), (u63.2.2.2.2.1, (u63.2.2.2.2.2.1, ()))))))
else none
else none
else none
else none))
else none)
else (bif ((e64.1 : Int) == 3) then (bif (decide ((0 : Int) ≤ e64.2.2.1 ∧ (e64.2.2.1 : Int) < u63.2.2.2.2.1.length)) then
(u63.2.2.2.2.1[e64.2.2.1.toNat]?).bind fun e78 =>
bif e78 then (bif (decide (u63.2.2.1.length = u63.2.2.1.length) && (decide (u63.2.2.2.1.length = u63.2.2.2.1.length) && (decide (u63.2.2.2.2.1.length = u63.2.2.2.2.1.length) && (decide (u63.2.2.2.2.2.1.length = u63.2.2.2.2.2.1.length) && true)))) then
some ((0, ()), (((), ()), (u63.2.2.1, ((u63.2.2.2.1.take v.1.2.1.toNat ++ u63.2.2.2.1.drop (w64 (v.1.2.1 + 1)).toNat), (u63.2.2.2.2.1, (u63.2.2.2.2.2.1, ()))))))
else none)
else (let x79 := (if (e64.2.2.1 : Int) < e64.2.1 then e64.2.2.1 else e64.2.1)
let x80 := (if (e64.2.2.1 : Int) > e64.2.1 then e64.2.2.1 else e64.2.1)
(m81 ((u63.2.2.2.2.2.1, ((x79, (x80, ())), ())), ())).bind fun u81 =>
bif u81.1.1 then (bif (decide (u63.2.2.1.length = u63.2.2.1.length) && (decide (u63.2.2.2.1.length = u63.2.2.2.1.length) && (decide (u63.2.2.2.2.1.length = u63.2.2.2.2.1.length) && (decide (u63.2.2.2.2.2.1.length = u63.2.2.2.2.2.1.length) && true)))) then
some ((0, ()), (((), ()), (u63.2.2.1, ((u63.2.2.2.1.take v.1.2.1.toNat ++ u63.2.2.2.1.drop (w64 (v.1.2.1 + 1)).toNat), (u63.2.2.2.2.1, (u63.2.2.2.2.2.1, ()))))))
else none)
else (bif (decide ((0 : Int) ≤ e64.2.2.1 ∧ (e64.2.2.1 : Int) < u63.2.2.1.length)) then
(u63.2.2.1[e64.2.2.1.toNat]?).bind fun e82 =>
(m117 ((((u63.2.2.1.length : Nat) : Int), (e82, (e64, ()))), ())).bind fun u83 =>
bif (decide ((0 : Int) ≤ e64.2.2.1 ∧ (e64.2.2.1 : Int) < u63.2.2.1.length)) then
bif (decide (e64.2.2.1.toNat < u63.2.2.1.length)) then
bif u83.1.1 then (bif (decide ((u63.2.2.2.1.take v.1.2.1.toNat ++ u63.2.2.2.1.drop (w64 (v.1.2.1 + 1)).toNat).length + ([(u83.2.2.1.1.1, (u83.2.2.1.1.2.1, (u83.2.2.1.1.2.2.1, (u83.2.2.1.1.2.2.2.1, (u83.2.2.1.1.2.2.2.2.1, (u83.2.2.1.1.2.2.2.2.2.1, (u83.2.2.1.1.2.2.2.2.2.2.1, ([], (u83.2.2.1.1.2.2.2.2.2.2.2.1, ())))))))))] : List Y9).length ≤ 4294967296)) then
let x84 := ((u63.2.2.2.1.take v.1.2.1.toNat ++ u63.2.2.2.1.drop (w64 (v.1.2.1 + 1)).toNat) ++ ([(u83.2.2.1.1.1, (u83.2.2.1.1.2.1, (u83.2.2.1.1.2.2.1, (u83.2.2.1.1.2.2.2.1, (u83.2.2.1.1.2.2.2.2.1, (u83.2.2.1.1.2.2.2.2.2.1, (u83.2.2.1.1.2.2.2.2.2.2.1, ([], (u83.2.2.1.1.2.2.2.2.2.2.2.1, ())))))))))] : List Y9))
bif (decide ((u63.2.2.1.set e64.2.2.1.toNat u83.2.1.1).length = u63.2.2.1.length) && (decide (u63.2.2.2.1.length = u63.2.2.2.1.length) && (decide (u63.2.2.2.2.1.length = u63.2.2.2.2.1.length) && (decide (u63.2.2.2.2.2.1.length = u63.2.2.2.2.2.1.length) && true)))) then
some ((0, ()), (((), ()), ((u63.2.2.1.set e64.2.2.1.toNat u83.2.1.1), (x84, (u63.2.2.2.2.1, (u63.2.2.2.2.2.1, ()))))))
else none
else none)
else (bif (decide ((u63.2.2.1.set e64.2.2.1.toNat u83.2.1.1).length = u63.2.2.1.length) && (decide (u63.2.2.2.1.length = u63.2.2.2.1.length) && (decide (u63.2.2.2.2.1.length = u63.2.2.2.2.1.length) && (decide (u63.2.2.2.2.2.1.length = u63.2.2.2.2.2.1.length) && true)))) then
some ((0, ()), (((), ()), ((u63.2.2.1.set e64.2.2.1.toNat u83.2.1.1), ((u63.2.2.2.1.take v.1.2.1.toNat ++ u63.2.2.2.1.drop (w64 (v.1.2.1 + 1)).toNat), (u63.2.2.2.2.1, (u63.2.2.2.2.2.1, ()))))))
else none)
else none
else none
else none))
else none)
else (bif ((e64.1 : Int) == 4) then (bif (decide ((0 : Int) ≤ e64.2.2.1 ∧ (e64.2.2.1 : Int) < u63.2.2.2.2.1.length)) then
(u63.2.2.2.2.1[e64.2.2.1.toNat]?).bind fun e85 =>
bif e85 then (bif (decide (u63.2.2.1.length = u63.2.2.1.length) && (decide (u63.2.2.2.1.length = u63.2.2.2.1.length) && (decide (u63.2.2.2.2.1.length = u63.2.2.2.2.1.length) && (decide (u63.2.2.2.2.2.1.length = u63.2.2.2.2.2.1.length) && true)))) then
some ((0, ()), (((), ()), (u63.2.2.1, ((u63.2.2.2.1.take v.1.2.1.toNat ++ u63.2.2.2.1.drop (w64 (v.1.2.1 + 1)).toNat), (u63.2.2.2.2.1, (u63.2.2.2.2.2.1, ()))))))
else none)
else (let x86 := (if (e64.2.2.1 : Int) < e64.2.1 then e64.2.2.1 else e64.2.1)
let x87 := (if (e64.2.2.1 : Int) > e64.2.1 then e64.2.2.1 else e64.2.1)
(m81 ((u63.2.2.2.2.2.1, ((x86, (x87, ())), ())), ())).bind fun u88 =>
bif u88.1.1 then (bif (decide (u63.2.2.1.length = u63.2.2.1.length) && (decide (u63.2.2.2.1.length = u63.2.2.2.1.length) && (decide (u63.2.2.2.2.1.length = u63.2.2.2.2.1.length) && (decide (u63.2.2.2.2.2.1.length = u63.2.2.2.2.2.1.length) && true)))) then
some ((0, ()), (((), ()), (u63.2.2.1, ((u63.2.2.2.1.take v.1.2.1.toNat ++ u63.2.2.2.1.drop (w64 (v.1.2.1 + 1)).toNat), (u63.2.2.2.2.1, (u63.2.2.2.2.2.1, ()))))))
else none)
else (bif (decide ((0 : Int) ≤ e64.2.2.1 ∧ (e64.2.2.1 : Int) < u63.2.2.1.length)) then
(u63.2.2.1[e64.2.2.1.toNat]?).bind fun e89 =>
(m118 ((((u63.2.2.1.length : Nat) : Int), (e89, (e64, ()))), ())).bind fun u90 =>
bif (decide ((0 : Int) ≤ e64.2.2.1 ∧ (e64.2.2.1 : Int) < u63.2.2.1.length)) then
bif (decide (e64.2.2.1.toNat < u63.2.2.1.length)) then
bif (decide ((u63.2.2.1.set e64.2.2.1.toNat u90.2.1.1).length = u63.2.2.1.length) && (decide (u63.2.2.2.1.length = u63.2.2.2.1.length) && (decide (u63.2.2.2.2.1.length = u63.2.2.2.2.1.length) && (decide (u63.2.2.2.2.2.1.length = u63.2.2.2.2.2.1.length) && true)))) then
some ((0, ()), (((), ()), ((u63.2.2.1.set e64.2.2.1.toNat u90.2.1.1), ((u63.2.2.2.1.take v.1.2.1.toNat ++ u63.2.2.2.1.drop (w64 (v.1.2.1 + 1)).toNat), (u63.2.2.2.2.1, (u63.2.2.2.2.2.1, ()))))))
else none
else none
else none
else none))
else none)
else (bif (decide (u63.2.2.1.length = u63.2.2.1.length) && (decide (u63.2.2.2.1.length = u63.2.2.2.1.length) && (decide (u63.2.2.2.2.1.length = u63.2.2.2.2.1.length) && (decide (u63.2.2.2.2.2.1.length = u63.2.2.2.2.2.1.length) && true)))) then
some ((0, ()), (((), ()), (u63.2.2.1, ((u63.2.2.2.1.take v.1.2.1.toNat ++ u63.2.2.2.1.drop (w64 (v.1.2.1 + 1)).toNat), (u63.2.2.2.2.1, (u63.2.2.2.2.2.1, ()))))))
else none))))
else none
else none
else none) : Option ((Int × Unit) × Y13)).bind fun v91 =>
some ((v91.1.1, ()), (((), ()), (v91.2.2.1, (v91.2.2.2.1, (v91.2.2.2.2.1, (v91.2.2.2.2.2.1, ())))))))

def sp20 : Abs.Spec := ⟨0, i20, o20, m20⟩

def an20 : Nat → Abs.FAn
  | 0 => Abs.FAn.mk (fun
    | 4 => some ⟨[4, 5], (.st Qx9 Qs3), Qb2⟩
    | _ => none) (fun _ => none) (fun _ => none) (fun
    | 4, 3 => 1
    | _, _ => 0)
  | 1 => Abs.FAn.mk (fun _ => none) (fun _ => none) (fun _ => none) (fun
    | 6, 11 => 2
    | _, _ => 0)
  | _ => {}

theorem ok20 : Abs.SpecOK Tryz.prog 20 sp20 :=
  okW (an := an20) (alc ok62 (alc ok56 (alc ok81 (alc ok115 (alc ok116 (alc ok117 (alc ok118 al0))))))) rfl (by intro v; kernel_rfl)

def l42_0_5 (v : ((Int × Int × Bool × (List Y8) × Int × Unit) × ((Y5 × Unit) × Unit))) : Option (((Int × Int × Bool × (List Y8) × Int × Unit) × ((Y5 × Unit) × Unit)) ⊕ ((Bool × Int × Unit) × (Unit))) :=
bif (decide ((v.1.1 : Int) < v.1.2.2.2.2.1)) then (((Abs.rowAt v.1.2.2.2.1 v.1.1 fun e34 _ =>
((Abs.rowAt v.2.1.1.2.2.1 v.1.1 fun e35 _ =>
bif (!e35) then (bif ((e34.2.2.2.1 : Int) == 2) then (bif (!v.1.2.2.1) then (some ((true, (v.1.2.2.2.1, (v.1.2.2.2.2.1, (v.1.1, (v.1.1, (v.1.2.1, (v.1.2.2.1, ()))))))), ((v.2.1.1, ()), ())))
else (Abs.rowAt v.2.1.1.1 v.1.2.1 fun e36 _ =>
some (((decide ((e34.2.1 : Int) > e36.2.1)), (v.1.2.2.2.1, (v.1.2.2.2.2.1, (v.1.1, (v.1.1, (v.1.2.1, (v.1.2.2.1, ()))))))), ((v.2.1.1, ()), ()))))
else (some ((false, (v.1.2.2.2.1, (v.1.2.2.2.2.1, (v.1.1, (v.1.1, (v.1.2.1, (v.1.2.2.1, ()))))))), ((v.2.1.1, ()), ()))))
else (some ((false, (v.1.2.2.2.1, (v.1.2.2.2.2.1, (v.1.1, (v.1.1, (v.1.2.1, (v.1.2.2.1, ()))))))), ((v.2.1.1, ()), ())))) : Option ((Bool × (List Y8) × Int × Int × Int × Int × Bool × Unit) × ((Y5 × Unit) × Unit))).bind fun v37 =>
bif v37.1.1 then (some ((v37.1.2.2.2.2.1, (true, (v37.1.2.1, (v37.1.2.2.1, (v37.1.2.2.2.1, ()))))), ((v37.2.1.1, ()), ())))
else (some ((v37.1.2.2.2.2.2.1, (v37.1.2.2.2.2.2.2.1, (v37.1.2.1, (v37.1.2.2.1, (v37.1.2.2.2.1, ()))))), ((v37.2.1.1, ()), ())))) : Option ((Int × Bool × (List Y8) × Int × Int × Unit) × ((Y5 × Unit) × Unit))).bind fun v38 =>
some (.inl (((w64 (v38.1.2.2.2.2.1 + 1)), (v38.1.1, (v38.1.2.1, (v38.1.2.2.1, (v38.1.2.2.2.1, ()))))), ((v38.2.1.1, ()), ()))))
else (some (.inr ((v.1.2.2.1, (v.1.2.1, ())), ())))

/- pagewatch/region.Leader -/
def i42 : Abs.Sg := ⟨[0], Qs26, .nil⟩

def o42 : Abs.Sg := ⟨[2, 3], (.dat (.int .i64) Qs12), .nil⟩

def m42 (v : ((Y5 × Unit) × (Unit))) : Option ((Int × Bool × Unit) × (Unit)) :=
(m44 ((v.1.1, ()), ())).bind fun u33 =>
bif (!u33.1.1) then (some ((0, (false, ())), ()))
else ((loopT l42_0_5 ((0, (0, (false, (v.1.1.1, ((v.1.1.1.length : Int), ()))))), ((v.1.1, ()), ()))).bind fun d39 =>
some ((d39.1.2.1, (d39.1.1, ())), ()))

def sp42 : Abs.Spec := ⟨0, i42, o42, m42⟩

def an42 : Nat → Abs.FAn
  | 0 => Abs.FAn.mk (fun
    | 7 => some ⟨[44, 1, 12, 13, 14, 6, 4, 5], (.dat .bool (.st Qx9 (.dat (.row Z3) (.dat (.int .i64) (.dat (.int .i64) (.dat (.int .i64) (.dat (.int .i64) Qs12))))))), Qb11⟩
    | _ => none) (fun
    | 9 => some (⟨[4, 1, 5, 12, 13, 14], (.dat (.int .i64) (.st Qx9 (.dat .bool (.dat (.row Z3) Qs13)))), Qb11⟩, none)
    | _ => none) (fun
    | 5 => some ⟨⟨[14, 4, 1, 5, 12, 13], (.dat (.int .i64) (.dat (.int .i64) (.st Qx9 (.dat .bool (.dat (.row Z3) Qs3))))), Qb11⟩, (.one (.exit 0) ⟨[5, 4], (.dat .bool Qs3), .nil⟩)⟩
    | _ => none) (fun _ _ => 0)
  | _ => {}

theorem ok42 : Abs.SpecOK Tryz.prog 42 sp42 :=
  okW (an := an42) (alc ok44 al0) rfl (by intro v; kernel_rfl)

def l85_0_3 (v : ((Int × Y2 × Int × Unit) × ((List Y10) × Unit))) : Option (((Int × Y2 × Int × Unit) × ((List Y10) × Unit)) ⊕ ((Unit) × ((List Y10) × Unit))) :=
bif (decide ((v.1.1 : Int) < v.1.2.2.1)) then (Abs.rowAt v.1.2.1 v.1.1 fun e26 _ =>
bif (decide (v.2.1.length + ([e26.2.1] : List Y10).length ≤ 4294967296)) then
let x27 := (v.2.1 ++ ([e26.2.1] : List Y10))
some (.inl (((w64 (v.1.1 + 1)), (v.1.2.1, (v.1.2.2.1, ()))), (x27, ())))
else none)
else (some (.inr ((), (v.2.1, ()))))

/- pagewatch/replica.Committed -/
def i85 : Abs.Sg := ⟨[0], Qs21, .nil⟩

def o85 : Abs.Sg := ⟨[2], Qs44, Qb39⟩

def m85 (v : ((Y8 × Unit) × (Unit))) : Option ((Unit) × ((List Y10) × Unit)) :=
let x24 := (if ((v.1.1.2.2.2.2.1.length : Int) : Int) < v.1.1.2.2.2.2.2.1 then (v.1.1.2.2.2.2.1.length : Int) else v.1.1.2.2.2.2.2.1)
bif (decide ((0 : Int) ≤ (if (x24 : Int) > 0 then x24 else 0))) then
bif (decide (0 ≤ (if (x24 : Int) > 0 then x24 else 0).toNat ∧ (if (x24 : Int) > 0 then x24 else 0).toNat ≤ v.1.1.2.2.2.2.1.length)) then
let x25 := (v.1.1.2.2.2.2.1.take (if (x24 : Int) > 0 then x24 else 0).toNat)
(loopT l85_0_3 ((0, (x25, ((x25.length : Int), ()))), ([], ()))).bind fun d28 =>
some ((), (d28.2.1, ()))
else none
else none

def sp85 : Abs.Spec := ⟨0, i85, o85, m85⟩

def an85 : Nat → Abs.FAn
  | 0 => Abs.FAn.mk (fun _ => none) (fun _ => none) (fun
    | 3 => some ⟨⟨[17, 3, 15, 16], (.dat (.int .i64) (.st (.own Z6 (0, 0)) (.dat (.row Z1) Qs3))), Qb39⟩, (.one (.exit 0) ⟨[3], Qs44, Qb39⟩)⟩
    | _ => none) (fun _ _ => 0)
  | _ => {}

theorem ok85 : Abs.SpecOK Tryz.prog 85 sp85 :=
  okW (an := an85) al0 rfl (by intro v; kernel_rfl)

def l47_0_5 (v : ((Int × (List Y8) × Int × Unit) × ((List Y10) × Unit))) : Option (((Int × (List Y8) × Int × Unit) × ((List Y10) × Unit)) ⊕ ((Unit) × ((List Y10) × Unit))) :=
bif (decide ((v.1.1 : Int) < v.1.2.2.1)) then (((Abs.rowAt v.1.2.1 v.1.1 fun e29 _ =>
(m85 ((e29, ()), ())).bind fun u30 =>
let x31 := (decide ((((u30.2.1.length : Nat) : Int) : Int) > ((v.2.1.length : Nat) : Int)))
bif x31 then (some ((v.1.2.1, (v.1.2.2.1, (v.1.1, ()))), (u30.2.1, ())))
else (some ((v.1.2.1, (v.1.2.2.1, (v.1.1, ()))), (v.2.1, ())))) : Option (((List Y8) × Int × Int × Unit) × ((List Y10) × Unit))).bind fun v32 =>
some (.inl (((w64 (v32.1.2.2.1 + 1)), (v32.1.1, (v32.1.2.1, ()))), (v32.2.1, ()))))
else (some (.inr ((), (v.2.1, ()))))

/- pagewatch/region.Agreed -/
def i47 : Abs.Sg := ⟨[0], Qs26, .nil⟩

def o47 : Abs.Sg := ⟨[2], Qs44, Qb39⟩

def m47 (v : ((Y5 × Unit) × (Unit))) : Option ((Unit) × ((List Y10) × Unit)) :=
(m44 ((v.1.1, ()), ())).bind fun u28 =>
bif (!u28.1.1) then (some ((), ([], ())))
else ((loopT l47_0_5 ((0, (v.1.1.1, ((v.1.1.1.length : Int), ()))), ([], ()))).bind fun d33 =>
some ((), (d33.2.1, ())))

def sp47 : Abs.Spec := ⟨0, i47, o47, m47⟩

def an47 : Nat → Abs.FAn
  | 0 => Abs.FAn.mk (fun _ => none) (fun
    | 10 => some (⟨[3, 11, 12, 13], (.st (.own Z6 (0, 0)) (.dat (.row Z3) Qs13)), Qb39⟩, none)
    | _ => none) (fun
    | 5 => some ⟨⟨[13, 3, 11, 12], (.dat (.int .i64) (.st (.own Z6 (0, 0)) (.dat (.row Z3) Qs3))), Qb39⟩, (.one (.exit 0) ⟨[3], Qs44, Qb39⟩)⟩
    | _ => none) (fun _ _ => 0)
  | _ => {}

theorem ok47 : Abs.SpecOK Tryz.prog 47 sp47 :=
  okW (an := an47) (alc ok44 (alc ok85 al0)) rfl (by intro v; kernel_rfl)

def l7_0_6 (v : ((Int × Int × Int × Int × Int × Unit) × Y13)) : Option (((Int × Int × Int × Int × Int × Unit) × Y13) ⊕ ((Int × Int × Int × Int × Unit) × Y13)) :=
((bif (decide ((v.1.1 : Int) < 9)) then (let x39 := (decide ((((v.2.2.2.1.length : Nat) : Int) : Int) > 0))
some ((x39, (v.1.2.1, (v.1.2.2.1, (v.1.2.2.2.1, (v.1.2.2.2.2.1, (v.1.1, ())))))), (((), ()), (v.2.2.1, (v.2.2.2.1, (v.2.2.2.2.1, (v.2.2.2.2.2.1, ())))))))
else (some ((false, (v.1.2.1, (v.1.2.2.1, (v.1.2.2.2.1, (v.1.2.2.2.2.1, (v.1.1, ())))))), (((), ()), (v.2.2.1, (v.2.2.2.1, (v.2.2.2.2.1, (v.2.2.2.2.2.1, ())))))))) : Option ((Bool × Int × Int × Int × Int × Int × Unit) × Y13)).bind fun v40 =>
bif v40.1.1 then ((m20 (((v40.2.2.1, (v40.2.2.2.1, (v40.2.2.2.2.1, (v40.2.2.2.2.2.1, ())))), (0, ())), ())).bind fun u41 =>
some (.inl (((w64 (v40.1.2.2.2.2.2.1 + 1)), (v40.1.2.1, (v40.1.2.2.1, (v40.1.2.2.2.1, (v40.1.2.2.2.2.1, ()))))), (((), ()), (u41.2.2.1, (u41.2.2.2.1, (u41.2.2.2.2.1, (u41.2.2.2.2.2.1, ()))))))))
else (some (.inr ((v40.1.2.1, (v40.1.2.2.1, (v40.1.2.2.2.1, (v40.1.2.2.2.2.1, ())))), (((), ()), (v40.2.2.1, (v40.2.2.2.1, (v40.2.2.2.2.1, (v40.2.2.2.2.2.1, ()))))))))

/- pagewatch/pagewatchlaw34.sane -/
def i7 : Abs.Sg := ⟨[], .nil, .nil⟩

def o7 : Abs.Sg := ⟨[0], Qs12, .nil⟩

def m7 (v : ((Unit) × (Unit))) : Option Y15 :=
(m49 ((3, ()), ())).bind fun u35 =>
(m14 (((u35.2.2.1, ([], (u35.2.2.2.1, ([], ())))), (0, ())), ())).bind fun u36 =>
(m30 (((u36.2.2.1, (u36.2.2.2.1, (u36.2.2.2.2.1, (u36.2.2.2.2.2.1, ())))), (0, ((1, (2, (0, (0, (0, (0, (0, (0, (0, ((0, (0, (0, (0, (0, (0, ())))))), ((0, (0, (0, (0, (0, ()))))), ()))))))))))), ()))), ())).bind fun u37 =>
(m32 (((u37.2.2.1, (u37.2.2.2.1, (u37.2.2.2.2.1, (u37.2.2.2.2.2.1, ())))), (0, ())), ())).bind fun u38 =>
(loopT l7_0_6 ((0, (u38.1.1, (u37.1.1, (u36.1.1, (u35.1.1, ()))))), (((), ()), (u38.2.2.1, (u38.2.2.2.1, (u38.2.2.2.2.1, (u38.2.2.2.2.2.1, ()))))))).bind fun d42 =>
(m42 (((d42.2.2.1, (d42.2.2.2.1, (d42.2.2.2.2.1, (d42.2.2.2.2.2.1, ())))), ()), ())).bind fun u43 =>
((bif ((d42.1.2.2.2.1 : Int) == 0) then (bif ((d42.1.2.2.1 : Int) == 0) then (bif ((d42.1.2.1 : Int) == 0) then (bif ((d42.1.1 : Int) == 0) then (bif u43.1.2.1 then (bif ((u43.1.1 : Int) == 0) then ((m47 (((d42.2.2.1, (d42.2.2.2.1, (d42.2.2.2.2.1, (d42.2.2.2.2.2.1, ())))), ()), ())).bind fun u44 =>
some ((((((u44.2.1.length : Nat) : Int) : Int) == 1), ()), ()))
else (some ((false, ()), ())))
else (some ((false, ()), ())))
else (some ((false, ()), ())))
else (some ((false, ()), ())))
else (some ((false, ()), ())))
else (some ((false, ()), ()))) : Option Y15).bind fun v45 =>
some ((v45.1.1, ()), ())

def sp7 : Abs.Spec := ⟨0, i7, o7, m7⟩

def an7 : Nat → Abs.FAn
  | 0 => Abs.FAn.mk (fun
    | 10 => some ⟨[0], Qs12, .nil⟩
    | 6 => some ⟨[36, 1, 5, 4, 3, 2, 6], (.dat .bool (.st Qx9 (.dat (.int .i64) Qs29))), Qb2⟩
    | _ => none) (fun _ => none) (fun
    | 6 => some ⟨⟨[6, 1, 5, 4, 3, 2], (.dat (.int .i64) (.st Qx9 Qs29)), Qb2⟩, (.one (.exit 0) ⟨[1, 5, 4, 3, 2], (.st Qx9 Qs29), Qb2⟩)⟩
    | _ => none) (fun _ _ => 0)
  | _ => {}

theorem ok7 : Abs.SpecOK Tryz.prog 7 sp7 :=
  okW (an := an7) (alc ok49 (alc ok14 (alc ok30 (alc ok32 (alc ok20 (alc ok42 (alc ok47 al0))))))) rfl (by intro v; kernel_rfl)

/- pagewatch/pagewatchmade.Roll -/
def i8 : Abs.Sg := ⟨[0], Qs42, .nil⟩

def o8 : Abs.Sg := ⟨[2], (.st Qx34 .nil), (.box 2 Qs27 .nil)⟩

def m8 (v : (((List Int) × Unit) × (Unit))) : Option ((Unit) × (Y18 × Unit)) :=
some ((), (((v.1.1, (0, ())), ()), ()))

def sp8 : Abs.Spec := ⟨0, i8, o8, m8⟩

def an8 : Nat → Abs.FAn
  | _ => {}

theorem ok8 : Abs.SpecOK Tryz.prog 8 sp8 :=
  okW (an := an8) al0 rfl (by intro v; kernel_rfl)

/- (*pagewatch/pagewatchmade.Dice).Next -/
def i17 : Abs.Sg := ⟨[0, 1], (.st Qx34 Qs3), (.box 2 Qs27 .nil)⟩

def o17 : Abs.Sg := ⟨[4], Qs3, (.box 2 Qs27 .nil)⟩

def m17 (v : ((Int × Unit) × (Y18 × Unit))) : Option ((Int × Unit) × (Y18 × Unit)) :=
((let x15 := (decide ((v.2.1.1.2.1 : Int) ≥ (v.2.1.1.1.length : Int)))
bif x15 then (some ((true, (v.1.1, ())), ((v.2.1.1, ()), ())))
else (some (((decide ((v.1.1 : Int) < 1)), (v.1.1, ())), ((v.2.1.1, ()), ())))) : Option ((Bool × Int × Unit) × (Y18 × Unit))).bind fun v16 =>
bif v16.1.1 then (some ((0, ()), ((v16.2.1.1, ()), ())))
else (Abs.rowAt v16.2.1.1.1 v16.2.1.1.2.1 fun e17 _ =>
bif (decide (v16.1.2.1 ≠ (0 : Int))) then
((let x18 := (decide ((((e17 : Int).tmod v16.1.2.1) : Int) < 0))
bif x18 then (some (((w64 (((e17 : Int).tmod v16.1.2.1) + v16.1.2.1)), ()), (((v16.2.1.1.1, ((w64 (v16.2.1.1.2.1 + 1)), ())), ()), ())))
else (some ((((e17 : Int).tmod v16.1.2.1), ()), (((v16.2.1.1.1, ((w64 (v16.2.1.1.2.1 + 1)), ())), ()), ())))) : Option ((Int × Unit) × (Y18 × Unit))).bind fun v19 =>
some ((v19.1.1, ()), ((v19.2.1.1, ()), ()))
else none)

def sp17 : Abs.Spec := ⟨1, i17, o17, m17⟩

def an17 : Nat → Abs.FAn
  | 0 => Abs.FAn.mk (fun
    | 1 => some ⟨[19, 1, 0], (.dat .bool (.dat (.int .i64) (.st Qx34 .nil))), (.box 2 Qs27 .nil)⟩
    | _ => none) (fun
    | 7 => some (⟨[5], Qs3, (.box 2 Qs27 .nil)⟩, none)
    | _ => none) (fun _ => none) (fun _ _ => 0)
  | _ => {}

theorem ok17 : Abs.SpecOK Tryz.prog 17 sp17 :=
  okW (an := an17) al0 rfl (by intro v; kernel_rfl)

/- (*pagewatch/pagewatchmade.Dice).One -/
def i52 : Abs.Sg := ⟨[0, 1], (.st Qx34 Qs42), (.box 2 Qs27 .nil)⟩

def o52 : Abs.Sg := ⟨[4], Qs3, (.box 2 Qs27 .nil)⟩

def m52 (v : (((List Int) × Unit) × (Y18 × Unit))) : Option ((Int × Unit) × (Y18 × Unit)) :=
(m17 (((v.1.1.length : Int), ()), ((v.2.1.1, ()), ()))).bind fun u4 =>
Abs.rowAt v.1.1 u4.1.1 fun e5 _ =>
some ((e5, ()), ((u4.2.1.1, ()), ()))

def sp52 : Abs.Spec := ⟨1, i52, o52, m52⟩

def an52 : Nat → Abs.FAn
  | _ => {}

theorem ok52 : Abs.SpecOK Tryz.prog 52 sp52 :=
  okW (an := an52) (alc ok17 al0) rfl (by intro v; kernel_rfl)

/- pagewatch/pagewatchref25.In -/
def i54 : Abs.Sg := ⟨[0, 1, 2], (.dat (.int .i64) Qs13), .nil⟩

def o54 : Abs.Sg := ⟨[6], Qs12, .nil⟩

def m54 (v : ((Int × Int × Int × Unit) × (Unit))) : Option Y15 :=
((bif (decide ((v.1.1 : Int) ≥ v.1.2.1)) then (some (((decide ((v.1.1 : Int) ≤ v.1.2.2.1)), ()), ()))
else (some ((false, ()), ()))) : Option Y15).bind fun v1 =>
some ((v1.1.1, ()), ())

def sp54 : Abs.Spec := ⟨0, i54, o54, m54⟩

def an54 : Nat → Abs.FAn
  | 0 => Abs.FAn.mk (fun
    | 1 => some ⟨[6], Qs12, .nil⟩
    | _ => none) (fun _ => none) (fun _ => none) (fun _ _ => 0)
  | _ => {}

theorem ok54 : Abs.SpecOK Tryz.prog 54 sp54 :=
  okW (an := an54) al0 rfl (by intro v; kernel_rfl)

/- pagewatch/pagewatchref32.Quorum -/
def i13 : Abs.Sg := ⟨[0], Qs3, .nil⟩

def o13 : Abs.Sg := ⟨[2], Qs3, .nil⟩

def m13 (v : ((Int × Unit) × (Unit))) : Option ((Int × Unit) × (Unit)) :=
(m54 ((v.1.1, (1, (5, ()))), ())).bind fun u4 =>
bif (!u4.1.1) then (some ((0, ()), ()))
else (some (((w64 ((w64 ((v.1.1 : Int).tdiv 2)) + 1)), ()), ()))

def sp13 : Abs.Spec := ⟨0, i13, o13, m13⟩

def an13 : Nat → Abs.FAn
  | _ => {}

theorem ok13 : Abs.SpecOK Tryz.prog 13 sp13 :=
  okW (an := an13) (alc ok54 al0) rfl (by intro v; kernel_rfl)

/- pagewatch/pagewatchref32.New -/
def i88 : Abs.Sg := ⟨[0, 1], Qs13, .nil⟩

def o88 : Abs.Sg := ⟨[4, 5], (.st Qx10 Qs3), (.box 8 Qs1 .nil)⟩

def m88 (v : ((Int × Int × Unit) × (Unit))) : Option ((Int × Unit) × (Y12 × Unit)) :=
(((m13 ((v.1.2.1, ()), ())).bind fun u11 =>
bif ((u11.1.1 : Int) == 0) then (some ((true, (v.1.1, ())), (((0, (0, (0, (0, (0, ()))))), ()), ())))
else ((m54 ((v.1.1, (0, ((w64 (v.1.2.1 - 1)), ()))), ())).bind fun u12 =>
some (((!u12.1.1), (v.1.1, ())), (((0, (0, (0, (0, (0, ()))))), ()), ())))) : Option ((Bool × Int × Unit) × (Y12 × Unit))).bind fun v13 =>
bif v13.1.1 then (some ((1, ()), (((0, (0, (0, (0, (0, ()))))), ()), ())))
else (some ((0, ()), (((v13.1.2.1, (0, ((-1), (0, (0, ()))))), ()), ())))

def sp88 : Abs.Spec := ⟨0, i88, o88, m88⟩

def an88 : Nat → Abs.FAn
  | 0 => Abs.FAn.mk (fun
    | 1 => some ⟨[15, 4, 0], (.dat .bool (.st Qx10 Qs3)), (.box 8 Qs1 .nil)⟩
    | _ => none) (fun _ => none) (fun _ => none) (fun _ _ => 0)
  | _ => {}

theorem ok88 : Abs.SpecOK Tryz.prog 88 sp88 :=
  okW (an := an88) (alc ok13 (alc ok54 al0)) rfl (by intro v; kernel_rfl)

def l50_0_5 (v : ((Int × Int × Unit) × (((Unit) × Unit) × ((Unit) × Unit) × (List Y8) × (List Bool) × Unit))) : Option (((Int × Int × Unit) × (((Unit) × Unit) × ((Unit) × Unit) × (List Y8) × (List Bool) × Unit)) ⊕ ((Unit) × (((Unit) × Unit) × ((Unit) × Unit) × (List Y8) × (List Bool) × Unit))) :=
bif (decide ((v.1.1 : Int) < v.1.2.1)) then ((m88 ((v.1.1, (v.1.2.1, ())), ())).bind fun u27 =>
bif (decide (v.2.2.2.1.length + ([(u27.2.1.1.1, (u27.2.1.1.2.1, (u27.2.1.1.2.2.1, (u27.2.1.1.2.2.2.1, ([], (u27.2.1.1.2.2.2.2.1, ([], ([], ()))))))))] : List Y8).length ≤ 4294967296)) then
let x28 := (v.2.2.2.1 ++ ([(u27.2.1.1.1, (u27.2.1.1.2.1, (u27.2.1.1.2.2.1, (u27.2.1.1.2.2.2.1, ([], (u27.2.1.1.2.2.2.2.1, ([], ([], ()))))))))] : List Y8))
some (.inl (((w64 (v.1.1 + 1)), (v.1.2.1, ())), (((), ()), (((), ()), (x28, (v.2.2.2.2.1, ()))))))
else none)
else (some (.inr ((), (((), ()), (((), ()), (v.2.2.2.1, (v.2.2.2.2.1, ())))))))

/- pagewatch/pagewatchref34.New -/
def i50 : Abs.Sg := ⟨[0], Qs3, .nil⟩

def o50 : Abs.Sg := ⟨[2, 3], (.st Qx9 Qs3), (.box 4 (.agg (.st (.own Z3 (1, 0)) (.st .nil (.st (.own .bool (2, 0)) (.st .nil .nil)))) .nil) (.arr Z3 false Qb36))⟩

def m50 (v : ((Int × Unit) × (Unit))) : Option ((Int × Unit) × (((Unit) × Unit) × (List Y8) × (List Bool) × Unit)) :=
(m13 ((v.1.1, ()), ())).bind fun u26 =>
bif ((u26.1.1 : Int) == 0) then (some ((1, ()), (((), ()), ([], ([], ())))))
else (bif (decide ((0 : Int) ≤ v.1.1 ∧ (v.1.1 : Int) ≤ v.1.1 ∧ (v.1.1 : Int) ≤ 4294967296)) then
(loopT l50_0_5 ((0, (v.1.1, ())), (((), ()), (((), ()), ([], ((List.replicate v.1.1.toNat (false : Bool)), ())))))).bind fun d29 =>
some ((0, ()), (((), ()), (d29.2.2.2.1, (d29.2.2.2.2.1, ()))))
else none)

def sp50 : Abs.Spec := ⟨0, i50, o50, m50⟩

def an50 : Nat → Abs.FAn
  | 0 => Abs.FAn.mk (fun _ => none) (fun _ => none) (fun
    | 5 => some ⟨⟨[5, 4, 0, 2], (.dat (.int .i64) (.st Qx9 (.dat (.int .i64) (.st Qx23 .nil)))), (.box 4 Qs31 (.box 4 Qs7 (.arr Z3 false Qb36)))⟩, (.one (.exit 0) ⟨[2, 4], Qs17, (.box 4 Qs7 (.box 4 Qs31 (.arr Z3 false Qb36)))⟩)⟩
    | _ => none) (fun _ _ => 0)
  | _ => {}

theorem ok50 : Abs.SpecOK Tryz.prog 50 sp50 :=
  okW (an := an50) (alc ok13 (alc ok88 al0)) rfl (by intro v; kernel_rfl)

def l95_0_3 (v : ((Int × Y2 × Int × Int × Unit) × (Unit))) : Option (((Int × Y2 × Int × Int × Unit) × (Unit)) ⊕ (Y15 ⊕ ((Y2 × Unit) × (Unit)))) :=
let x37 := (decide ((v.1.1 : Int) < (v.1.2.1.length : Int)))
bif x37 then (((Abs.rowAt v.1.2.1 v.1.1 fun e38 _ =>
bif (decide ((e38.1 : Int) < v.1.2.2.2.1)) then (some ((true, (v.1.2.1, (v.1.2.2.1, (v.1.1, ())))), ()))
else (Abs.rowAt v.1.2.1 v.1.1 fun e39 _ =>
some (((decide ((e39.1 : Int) > v.1.2.2.1)), (v.1.2.1, (v.1.2.2.1, (v.1.1, ())))), ()))) : Option ((Bool × Y2 × Int × Int × Unit) × (Unit))).bind fun v40 =>
bif v40.1.1 then (some (.inr (.inl ((false, ()), ()))))
else (Abs.rowAt v40.1.2.1 v40.1.2.2.2.1 fun e41 _ =>
some (.inl (((w64 (v40.1.2.2.2.1 + 1)), (v40.1.2.1, (v40.1.2.2.1, (e41.1, ())))), ()))))
else (some (.inr (.inr ((v.1.2.1, ()), ()))))

/- pagewatch/pagewatchref32.LogFits -/
def i95 : Abs.Sg := ⟨[0, 1], (.dat (.row Z1) Qs3), .nil⟩

def o95 : Abs.Sg := ⟨[4], Qs12, .nil⟩

def m95 (v : ((Y2 × Int × Unit) × (Unit))) : Option Y15 :=
(loopT l95_0_3 ((0, (v.1.1, (v.1.2.1, (1, ())))), ())).bind fun d42 =>
sumE d42 (fun d43 => (some ((d43.1.1, ()), ()))) (fun d44 => (some (((decide (((d44.1.1.length : Int) : Int) ≤ 256)), ()), ())))

def sp95 : Abs.Spec := ⟨0, i95, o95, m95⟩

def an95 : Nat → Abs.FAn
  | 0 => Abs.FAn.mk (fun
    | 5 => some ⟨[28, 0, 1, 6], (.dat .bool (.dat (.row Z1) Qs13)), .nil⟩
    | _ => none) (fun _ => none) (fun
    | 3 => some ⟨⟨[6, 0, 1, 5], (.dat (.int .i64) (.dat (.row Z1) Qs13)), .nil⟩, (.more .ret ⟨[4], Qs12, .nil⟩ (.one (.exit 0) ⟨[0], (.dat (.row Z1) .nil), .nil⟩))⟩
    | _ => none) (fun _ _ => 0)
  | _ => {}

theorem ok95 : Abs.SpecOK Tryz.prog 95 sp95 :=
  okW (an := an95) al0 rfl (by intro v; kernel_rfl)

def l59_0_12 (v : ((Int × Int × Unit) × ((Y8 × Unit) × Unit))) : Option (((Int × Int × Unit) × ((Y8 × Unit) × Unit)) ⊕ (Y15 ⊕ ((Unit) × (Unit)))) :=
bif (decide ((v.1.1 : Int) < v.1.2.1)) then (Abs.rowAt v.2.1.1.2.2.2.2.2.2.2.1 v.1.1 fun e119 _ =>
(m54 ((e119, (0, ((v.2.1.1.2.2.2.2.1.length : Int), ()))), ())).bind fun u120 =>
bif (!u120.1.1) then (some (.inr (.inl ((false, ()), ()))))
else (some (.inl (((w64 (v.1.1 + 1)), (v.1.2.1, ())), ((v.2.1.1, ()), ())))))
else (some (.inr (.inr ((), ()))))

/- pagewatch/pagewatchref32.Check -/
def i59 : Abs.Sg := ⟨[0, 1], Qs37, .nil⟩

def o59 : Abs.Sg := ⟨[4], Qs12, .nil⟩

def m59 (v : ((Int × Y8 × Unit) × (Unit))) : Option Y15 :=
(((m13 ((v.1.1, ()), ())).bind fun u99 =>
bif ((u99.1.1 : Int) == 0) then (some ((true, (v.1.1, ())), ((v.1.2.1, ()), ())))
else ((m54 ((v.1.2.1.1, (0, ((w64 (v.1.1 - 1)), ()))), ())).bind fun u100 =>
bif (!u100.1.1) then (some ((true, (v.1.1, ())), ((v.1.2.1, ()), ())))
else ((m54 ((v.1.2.1.2.1, (0, (1048576, ()))), ())).bind fun u101 =>
bif (!u101.1.1) then (some ((true, (v.1.1, ())), ((v.1.2.1, ()), ())))
else ((m54 ((v.1.2.1.2.2.1, ((-1), ((w64 (v.1.1 - 1)), ()))), ())).bind fun u102 =>
bif (!u102.1.1) then (some ((true, (v.1.1, ())), ((v.1.2.1, ()), ())))
else ((m95 ((v.1.2.1.2.2.2.2.1, (v.1.2.1.2.1, ())), ())).bind fun u103 =>
bif (!u103.1.1) then (some ((true, (v.1.1, ())), ((v.1.2.1, ()), ())))
else ((m54 ((v.1.2.1.2.2.2.2.2.1, (0, ((v.1.2.1.2.2.2.2.1.length : Int), ()))), ())).bind fun u104 =>
some (((!u104.1.1), (v.1.1, ())), ((v.1.2.1, ()), ())))))))) : Option ((Bool × Int × Unit) × ((Y8 × Unit) × Unit))).bind fun v105 =>
bif v105.1.1 then (some ((false, ()), ()))
else (bif ((v105.2.1.1.2.2.2.1 : Int) == 0) then (((let x106 := (((v105.2.1.1.2.2.2.2.2.2.1.length : Int) : Int) == 0)
bif x106 then (let x107 := (((v105.2.1.1.2.2.2.2.2.2.2.1.length : Int) : Int) == 0)
some ((x107, ()), ()))
else (some ((false, ()), ()))) : Option Y15).bind fun v108 =>
some ((v108.1.1, ()), ()))
else (bif ((v105.2.1.1.2.2.2.1 : Int) == 1) then (((let x109 := (((v105.2.1.1.2.2.2.2.2.2.1.length : Int) : Int) == v105.1.2.1)
bif x109 then (Abs.rowAt v105.2.1.1.2.2.2.2.2.2.1 v105.2.1.1.1 fun e110 _ =>
bif e110 then (let x111 := (((v105.2.1.1.2.2.2.2.2.2.2.1.length : Int) : Int) == 0)
some ((x111, ()), ()))
else (some ((false, ()), ())))
else (some ((false, ()), ()))) : Option Y15).bind fun v112 =>
some ((v112.1.1, ()), ()))
else (bif ((v105.2.1.1.2.2.2.1 : Int) == 2) then (((let x113 := (((v105.2.1.1.2.2.2.2.2.2.1.length : Int) : Int) != v105.1.2.1)
bif x113 then (some ((true, (v105.1.2.1, ())), ((v105.2.1.1, ()), ())))
else (Abs.rowAt v105.2.1.1.2.2.2.2.2.2.1 v105.2.1.1.1 fun e114 _ =>
bif (!e114) then (some ((true, (v105.1.2.1, ())), ((v105.2.1.1, ()), ())))
else (let x115 := (((v105.2.1.1.2.2.2.2.2.2.2.1.length : Int) : Int) != v105.1.2.1)
bif x115 then (some ((true, (v105.1.2.1, ())), ((v105.2.1.1, ()), ())))
else (Abs.rowAt v105.2.1.1.2.2.2.2.2.2.2.1 v105.2.1.1.1 fun e116 _ =>
let x117 := ((e116 : Int) != (v105.2.1.1.2.2.2.2.1.length : Int))
some ((x117, (v105.1.2.1, ())), ((v105.2.1.1, ()), ())))))) : Option ((Bool × Int × Unit) × ((Y8 × Unit) × Unit))).bind fun v118 =>
bif v118.1.1 then (some ((false, ()), ()))
else ((loopT l59_0_12 ((0, (v118.1.2.1, ())), ((v118.2.1.1, ()), ()))).bind fun d121 =>
sumE d121 (fun d122 => (some ((d122.1.1, ()), ()))) (fun d123 => (some ((true, ()), ())))))
else (some ((false, ()), ())))))

def sp59 : Abs.Spec := ⟨0, i59, o59, m59⟩

def an59 : Nat → Abs.FAn
  | 0 => Abs.FAn.mk (fun
    | 9 => some ⟨[117, 3, 0], (.dat .bool (.st Qx10 Qs3)), Qb14⟩
    | 7 => some ⟨[4], Qs12, .nil⟩
    | 5 => some ⟨[4], Qs12, .nil⟩
    | 1 => some ⟨[47, 3, 0], (.dat .bool (.st Qx10 Qs3)), Qb14⟩
    | _ => none) (fun _ => none) (fun
    | 12 => some ⟨⟨[5, 3, 0], (.dat (.int .i64) (.st Qx10 Qs3)), Qb14⟩, (.more .ret ⟨[4], Qs12, .nil⟩ (.one (.exit 1) ⟨[], .nil, .nil⟩))⟩
    | _ => none) (fun _ _ => 0)
  | _ => {}

theorem ok59 : Abs.SpecOK Tryz.prog 59 sp59 :=
  okW (an := an59) (alc ok13 (alc ok54 (alc ok95 al0))) rfl (by intro v; kernel_rfl)

def l60_0_2 (v : ((Int × Int × Int × (List (Int × Int × Unit)) × Unit) × (Unit))) : Option (((Int × Int × Int × (List (Int × Int × Unit)) × Unit) × (Unit)) ⊕ (Y15 ⊕ ((Unit) × (Unit)))) :=
let x36 := (decide ((v.1.1 : Int) < (v.1.2.2.2.1.length : Int)))
bif x36 then (Abs.rowAt v.1.2.2.2.1 v.1.1 fun e37 _ =>
let x38 := (if (v.1.2.1 : Int) < v.1.2.2.1 then v.1.2.1 else v.1.2.2.1)
let x39 := (if (v.1.2.1 : Int) > v.1.2.2.1 then v.1.2.1 else v.1.2.2.1)
let x40 := (((e37.1 : Int) == x38) && (((e37.2.1 : Int) == x39) && true))
bif x40 then (some (.inr (.inl ((true, ()), ()))))
else (some (.inl (((w64 (v.1.1 + 1)), (v.1.2.1, (v.1.2.2.1, (v.1.2.2.2.1, ())))), ()))))
else (some (.inr (.inr ((), ()))))

/- pagewatch/pagewatchref34.isCut -/
def i60 : Abs.Sg := ⟨[0, 1, 2], (.dat (.row Z11) Qs13), .nil⟩

def o60 : Abs.Sg := ⟨[6], Qs12, .nil⟩

def m60 (v : (((List (Int × Int × Unit)) × Int × Int × Unit) × (Unit))) : Option Y15 :=
(loopT l60_0_2 ((0, (v.1.2.2.1, (v.1.2.1, (v.1.1, ())))), ())).bind fun d41 =>
sumE d41 (fun d42 => (some ((d42.1.1, ()), ()))) (fun d43 => (some ((false, ()), ())))

def sp60 : Abs.Spec := ⟨0, i60, o60, m60⟩

def an60 : Nat → Abs.FAn
  | 0 => Abs.FAn.mk (fun _ => none) (fun _ => none) (fun
    | 2 => some ⟨⟨[7, 2, 1, 0], (.dat (.int .i64) (.dat (.int .i64) (.dat (.int .i64) (.dat (.row Z11) .nil)))), .nil⟩, (.more .ret ⟨[6], Qs12, .nil⟩ (.one (.exit 0) ⟨[], .nil, .nil⟩))⟩
    | _ => none) (fun _ _ => 0)
  | _ => {}

theorem ok60 : Abs.SpecOK Tryz.prog 60 sp60 :=
  okW (an := an60) al0 rfl (by intro v; kernel_rfl)

def l15_0_5 (v : ((Int × Int × Unit) × ((Y5 × Unit) × Unit))) : Option (((Int × Int × Unit) × ((Y5 × Unit) × Unit)) ⊕ (Y15 ⊕ ((Int × Unit) × ((Y5 × Unit) × Unit)))) :=
bif (decide ((v.1.1 : Int) < v.1.2.1)) then (((Abs.rowAt v.2.1.1.1 v.1.1 fun e113 _ =>
bif ((e113.1 : Int) != v.1.1) then (some ((true, (v.1.2.1, (v.1.1, ()))), ((v.2.1.1, ()), ())))
else (Abs.rowAt v.2.1.1.1 v.1.1 fun e114 _ =>
(m59 ((v.1.2.1, (e114, ())), ())).bind fun u115 =>
some (((!u115.1.1), (v.1.2.1, (v.1.1, ()))), ((v.2.1.1, ()), ())))) : Option ((Bool × Int × Int × Unit) × ((Y5 × Unit) × Unit))).bind fun v116 =>
bif v116.1.1 then (some (.inr (.inl ((false, ()), ()))))
else (some (.inl (((w64 (v116.1.2.2.1 + 1)), (v116.1.2.1, ())), ((v116.2.1.1, ()), ())))))
else (some (.inr (.inr ((v.1.2.1, ()), ((v.2.1.1, ()), ())))))

def l15_0_10 (v : ((Int × Int × Unit) × ((Y5 × Unit) × Unit))) : Option (((Int × Int × Unit) × ((Y5 × Unit) × Unit)) ⊕ (Y15 ⊕ ((Int × Unit) × ((Y5 × Unit) × Unit)))) :=
let x120 := (decide ((v.1.1 : Int) < (v.2.1.1.2.1.length : Int)))
bif x120 then (Abs.rowAt v.2.1.1.2.1 v.1.1 fun e121 _ =>
(((m54 ((e121.2.1, (0, ((w64 (v.1.2.1 - 1)), ()))), ())).bind fun u122 =>
bif (!u122.1.1) then (some ((true, (v.1.2.1, (v.1.1, ()))), ((v.2.1.1, ()), ())))
else ((m54 ((e121.2.2.1, (0, ((w64 (v.1.2.1 - 1)), ()))), ())).bind fun u123 =>
bif (!u123.1.1) then (some ((true, (v.1.2.1, (v.1.1, ()))), ((v.2.1.1, ()), ())))
else (some ((((e121.2.1 : Int) == e121.2.2.1), (v.1.2.1, (v.1.1, ()))), ((v.2.1.1, ()), ()))))) : Option ((Bool × Int × Int × Unit) × ((Y5 × Unit) × Unit))).bind fun v124 =>
bif v124.1.1 then (some (.inr (.inl ((false, ()), ()))))
else (some (.inl (((w64 (v124.1.2.2.1 + 1)), (v124.1.2.1, ())), ((v124.2.1.1, ()), ())))))
else (some (.inr (.inr ((v.1.2.1, ()), ((v.2.1.1, ()), ())))))

def l15_0_16 (v : ((Int × Int × Unit) × ((Y5 × Unit) × Unit))) : Option (((Int × Int × Unit) × ((Y5 × Unit) × Unit)) ⊕ (Y15 ⊕ ((Unit) × (Unit)))) :=
let x128 := (decide ((v.1.1 : Int) < (v.2.1.1.2.2.2.1.length : Int)))
bif x128 then (Abs.rowAt v.2.1.1.2.2.2.1 v.1.1 fun e129 _ =>
((bif (decide ((e129.1 : Int) < 0)) then (some ((true, (v.1.2.1, (v.1.1, ()))), ((v.2.1.1, ()), ())))
else (bif (decide ((e129.1 : Int) ≥ e129.2.1)) then (some ((true, (v.1.2.1, (v.1.1, ()))), ((v.2.1.1, ()), ())))
else (bif (decide ((e129.2.1 : Int) ≥ v.1.2.1)) then (some ((true, (v.1.2.1, (v.1.1, ()))), ((v.2.1.1, ()), ())))
else (bif (decide ((0 : Int) ≤ v.1.1)) then
bif (decide (0 ≤ v.1.1.toNat ∧ v.1.1.toNat ≤ v.2.1.1.2.2.2.1.length)) then
(m60 (((v.2.1.1.2.2.2.1.take v.1.1.toNat), (e129.1, (e129.2.1, ()))), ())).bind fun u130 =>
some ((u130.1.1, (v.1.2.1, (v.1.1, ()))), ((v.2.1.1, ()), ()))
else none
else none)))) : Option ((Bool × Int × Int × Unit) × ((Y5 × Unit) × Unit))).bind fun v131 =>
bif v131.1.1 then (some (.inr (.inl ((false, ()), ()))))
else (some (.inl (((w64 (v131.1.2.2.1 + 1)), (v131.1.2.1, ())), ((v131.2.1.1, ()), ())))))
else (some (.inr (.inr ((), ()))))

/- pagewatch/pagewatchref34.Check -/
def i15 : Abs.Sg := ⟨[0], Qs26, .nil⟩

def o15 : Abs.Sg := ⟨[2], Qs12, .nil⟩

def m15 (v : ((Y5 × Unit) × (Unit))) : Option Y15 :=
(((m13 (((v.1.1.1.length : Int), ()), ())).bind fun u109 =>
bif ((u109.1.1 : Int) == 0) then (some ((true, ((v.1.1.1.length : Int), ())), ((v.1.1, ()), ())))
else (let x110 := (((v.1.1.2.2.1.length : Int) : Int) != (v.1.1.1.length : Int))
bif x110 then (some ((true, ((v.1.1.1.length : Int), ())), ((v.1.1, ()), ())))
else (let x111 := (decide (((v.1.1.2.1.length : Int) : Int) > 256))
some ((x111, ((v.1.1.1.length : Int), ())), ((v.1.1, ()), ()))))) : Option ((Bool × Int × Unit) × ((Y5 × Unit) × Unit))).bind fun v112 =>
bif v112.1.1 then (some ((false, ()), ()))
else ((loopT l15_0_5 ((0, (v112.1.2.1, ())), ((v112.2.1.1, ()), ()))).bind fun d117 =>
sumE d117 (fun d118 => (some ((d118.1.1, ()), ()))) (fun d119 => ((loopT l15_0_10 ((0, (d119.1.1, ())), ((d119.2.1.1, ()), ()))).bind fun d125 =>
sumE d125 (fun d126 => (some ((d126.1.1, ()), ()))) (fun d127 => ((loopT l15_0_16 ((0, (d127.1.1, ())), ((d127.2.1.1, ()), ()))).bind fun d132 =>
sumE d132 (fun d133 => (some ((d133.1.1, ()), ()))) (fun d134 => (some ((true, ()), ()))))))))

def sp15 : Abs.Spec := ⟨0, i15, o15, m15⟩

def an15 : Nat → Abs.FAn
  | 0 => Abs.FAn.mk (fun
    | 19 => some ⟨[122, 1, 3, 7], (.dat .bool (.st Qx9 Qs13)), Qb11⟩
    | 13 => some ⟨[83, 3, 1, 5], (.dat .bool (.dat (.int .i64) (.st Qx9 Qs3))), Qb11⟩
    | 7 => some ⟨[50, 1, 3, 4], (.dat .bool (.st Qx9 Qs13)), Qb11⟩
    | 2 => some ⟨[27, 1, 3], (.dat .bool (.st Qx9 Qs3)), Qb11⟩
    | _ => none) (fun _ => none) (fun
    | 16 => some ⟨⟨[7, 1, 3], (.dat (.int .i64) (.st Qx9 Qs3)), Qb11⟩, (.more .ret ⟨[2], Qs12, .nil⟩ (.one (.exit 4) ⟨[], .nil, .nil⟩))⟩
    | 10 => some ⟨⟨[5, 3, 1], (.dat (.int .i64) (.dat (.int .i64) (.st Qx9 .nil))), Qb11⟩, (.more .ret ⟨[2], Qs12, .nil⟩ (.one (.exit 2) ⟨[1, 3], (.st Qx9 Qs3), Qb11⟩))⟩
    | 5 => some ⟨⟨[4, 1, 3], (.dat (.int .i64) (.st Qx9 Qs3)), Qb11⟩, (.more .ret ⟨[2], Qs12, .nil⟩ (.one (.exit 0) ⟨[3, 1], (.dat (.int .i64) (.st Qx9 .nil)), Qb11⟩))⟩
    | _ => none) (fun _ _ => 0)
  | _ => {}

theorem ok15 : Abs.SpecOK Tryz.prog 15 sp15 :=
  okW (an := an15) (alc ok13 (alc ok59 (alc ok54 (alc ok60 al0)))) rfl (by intro v; kernel_rfl)

/- pagewatch/pagewatchref34.ready -/
def i61 : Abs.Sg := ⟨[0, 1], (.dat Z7 Qs3), .nil⟩

def o61 : Abs.Sg := ⟨[4], Qs3, .nil⟩

def m61 (v : Y20) : Option ((Int × Unit) × (Unit)) :=
(m15 ((v.1.1, ()), ())).bind fun u8 =>
bif (!u8.1.1) then (some ((8, ()), ()))
else ((m54 ((v.1.2.1, (0, ((w64 ((v.1.1.1.length : Int) - 1)), ()))), ())).bind fun u9 =>
bif (!u9.1.1) then (some ((3, ()), ()))
else (some ((0, ()), ())))

def sp61 : Abs.Spec := ⟨0, i61, o61, m61⟩

def an61 : Nat → Abs.FAn
  | _ => {}

theorem ok61 : Abs.SpecOK Tryz.prog 61 sp61 :=
  okW (an := an61) (alc ok15 (alc ok54 al0)) rfl (by intro v; kernel_rfl)

/- pagewatch/pagewatchref32.Copy -/
def i89 : Abs.Sg := ⟨[0], Qs21, .nil⟩

def o89 : Abs.Sg := ⟨[2], (.st Qx10 .nil), Qb19⟩

def m89 (v : ((Y8 × Unit) × (Unit))) : Option ((Unit) × (Y12 × Y2 × (List Bool) × (List Int) × Unit)) :=
bif (decide (0 + v.1.1.2.2.2.2.1.length ≤ 4294967296)) then
bif (decide (0 + v.1.1.2.2.2.2.2.2.1.length ≤ 4294967296)) then
bif (decide (0 + v.1.1.2.2.2.2.2.2.2.1.length ≤ 4294967296)) then
some ((), (((v.1.1.1, (v.1.1.2.1, (v.1.1.2.2.1, (v.1.1.2.2.2.1, (v.1.1.2.2.2.2.2.1, ()))))), ()), (v.1.1.2.2.2.2.1, (v.1.1.2.2.2.2.2.2.1, (v.1.1.2.2.2.2.2.2.2.1, ())))))
else none
else none
else none

def sp89 : Abs.Spec := ⟨0, i89, o89, m89⟩

def an89 : Nat → Abs.FAn
  | _ => {}

theorem ok89 : Abs.SpecOK Tryz.prog 89 sp89 :=
  okW (an := an89) al0 rfl (by intro v; kernel_rfl)

def l51_0_3 (v : ((Int × Unit) × (((Unit) × Unit) × (Y5 × Unit) × ((Unit) × Unit) × (List Y8) × Unit))) : Option (((Int × Unit) × (((Unit) × Unit) × (Y5 × Unit) × ((Unit) × Unit) × (List Y8) × Unit)) ⊕ ((Unit) × (((Unit) × Unit) × (Y5 × Unit) × ((Unit) × Unit) × (List Y8) × Unit))) :=
let x66 := (decide ((v.1.1 : Int) < (v.2.2.1.1.1.length : Int)))
bif x66 then (Abs.rowAt v.2.2.1.1.1 v.1.1 fun e67 _ =>
(m89 ((e67, ()), ())).bind fun u68 =>
bif (decide (v.2.2.2.2.1.length + ([(u68.2.1.1.1, (u68.2.1.1.2.1, (u68.2.1.1.2.2.1, (u68.2.1.1.2.2.2.1, (u68.2.2.1, (u68.2.1.1.2.2.2.2.1, (u68.2.2.2.1, (u68.2.2.2.2.1, ()))))))))] : List Y8).length ≤ 4294967296)) then
let x69 := (v.2.2.2.2.1 ++ ([(u68.2.1.1.1, (u68.2.1.1.2.1, (u68.2.1.1.2.2.1, (u68.2.1.1.2.2.2.1, (u68.2.2.1, (u68.2.1.1.2.2.2.2.1, (u68.2.2.2.1, (u68.2.2.2.2.1, ()))))))))] : List Y8))
some (.inl (((w64 (v.1.1 + 1)), ()), (((), ()), ((v.2.2.1.1, ()), (((), ()), (x69, ()))))))
else none)
else (some (.inr ((), (((), ()), ((v.2.2.1.1, ()), (((), ()), (v.2.2.2.2.1, ())))))))

def l51_0_7 (v : ((Int × Unit) × (((Unit) × Unit) × (Y5 × Unit) × ((Unit) × Unit) × (List Y8) × (List Y9) × Unit))) : Option (((Int × Unit) × (((Unit) × Unit) × (Y5 × Unit) × ((Unit) × Unit) × (List Y8) × (List Y9) × Unit)) ⊕ ((Unit) × (((Unit) × Unit) × ((Unit) × Unit) × (Y5 × Unit) × (List Y8) × (List Y9) × Unit))) :=
let x71 := (decide ((v.1.1 : Int) < (v.2.2.1.1.2.1.length : Int)))
bif x71 then (Abs.rowAt v.2.2.1.1.2.1 v.1.1 fun e72 _ =>
bif (decide (0 + e72.2.2.2.2.2.2.2.1.length ≤ 4294967296)) then
bif (decide (v.2.2.2.2.2.1.length + ([e72] : List Y9).length ≤ 4294967296)) then
let x73 := (v.2.2.2.2.2.1 ++ ([e72] : List Y9))
some (.inl (((w64 (v.1.1 + 1)), ()), (((), ()), ((v.2.2.1.1, ()), (((), ()), (v.2.2.2.2.1, (x73, ())))))))
else none
else none)
else (some (.inr ((), (((), ()), (((), ()), ((v.2.2.1.1, ()), (v.2.2.2.2.1, (v.2.2.2.2.2.1, ()))))))))

/- pagewatch/pagewatchref34.Copy -/
def i51 : Abs.Sg := ⟨[0], Qs26, .nil⟩

def o51 : Abs.Sg := ⟨[2], (.st Qx9 .nil), Qb2⟩

def m51 (v : ((Y5 × Unit) × (Unit))) : Option ((Unit) × Y13) :=
(loopT l51_0_3 ((0, ()), (((), ()), ((v.1.1, ()), (((), ()), ([], ())))))).bind fun d70 =>
(loopT l51_0_7 ((0, ()), (((), ()), ((d70.2.2.1.1, ()), (((), ()), (d70.2.2.2.2.1, ([], ()))))))).bind fun d74 =>
bif (decide (0 + d74.2.2.2.1.1.2.2.1.length ≤ 4294967296)) then
bif (decide (0 + d74.2.2.2.1.1.2.2.2.1.length ≤ 4294967296)) then
some ((), (((), ()), (d74.2.2.2.2.1, (d74.2.2.2.2.2.1, (d74.2.2.2.1.1.2.2.1, (d74.2.2.2.1.1.2.2.2.1, ()))))))
else none
else none

def sp51 : Abs.Spec := ⟨0, i51, o51, m51⟩

def an51 : Nat → Abs.FAn
  | 0 => Abs.FAn.mk (fun _ => none) (fun _ => none) (fun
    | 7 => some ⟨⟨[5, 3, 1, 2], (.dat (.int .i64) (.st Qx9 (.st Qx23 (.st Qx33 .nil)))), (.box 4 (.agg (.st (.own Z3 (3, 0)) (.st (.own Z4 (4, 0)) (.st .nil (.st .nil .nil)))) .nil) (.box 4 Qs26 (.box 4 Qs7 (.arr Z3 false (.arr Z4 false .nil)))))⟩, (.one (.exit 2) ⟨[2, 3, 1], (.st Qx9 (.st Qx23 (.st Qx33 .nil))), (.box 4 Qs7 (.box 4 (.agg (.st (.own Z3 (3, 0)) (.st (.own Z4 (4, 0)) (.st .nil (.st .nil .nil)))) .nil) (.box 4 Qs26 (.arr Z3 false (.arr Z4 false .nil)))))⟩)⟩
    | 3 => some ⟨⟨[4, 3, 1, 2], (.dat (.int .i64) (.st Qx9 (.st Qx23 (.st Qx33 .nil)))), (.box 4 (.agg (.st (.own Z3 (3, 0)) (.st .nil (.st .nil (.st .nil .nil)))) .nil) (.box 4 Qs26 (.box 4 Qs7 (.arr Z3 false .nil))))⟩, (.one (.exit 0) ⟨[3, 1, 2], (.st Qx9 (.st Qx23 (.st Qx33 .nil))), (.box 4 (.agg (.st (.own Z3 (3, 0)) (.st .nil (.st .nil (.st .nil .nil)))) .nil) (.box 4 Qs26 (.box 4 Qs7 (.arr Z3 false .nil))))⟩)⟩
    | _ => none) (fun _ _ => 0)
  | _ => {}

theorem ok51 : Abs.SpecOK Tryz.prog 51 sp51 :=
  okW (an := an51) (alc ok89 al0) rfl (by intro v; kernel_rfl)

/- pagewatch/pagewatchref32.lead -/
def i100 : Abs.Sg := ⟨[0, 1], Qs37, .nil⟩

def o100 : Abs.Sg := ⟨[4], (.st Qx10 .nil), (.box 8 (.agg (.dat (.int .i64) (.dat (.int .i64) (.dat (.int .i64) (.dat (.int .i64) (.dat (.row Z1) (.dat (.int .i64) (.dat (.row .bool) (.st (.own (.int .i64) (1, 0)) .nil)))))))) .nil) Qb43)⟩

def m100 (v : ((Int × Y8 × Unit) × (Unit))) : Option ((Unit) × (((Int × Int × Int × Int × Y2 × Int × (List Bool) × Unit) × Unit) × (List Int) × Unit)) :=
bif (decide ((0 : Int) ≤ v.1.1 ∧ (v.1.1 : Int) ≤ v.1.1 ∧ (v.1.1 : Int) ≤ 4294967296)) then
bif (decide ((0 : Int) ≤ v.1.2.1.1 ∧ (v.1.2.1.1 : Int) < (List.replicate v.1.1.toNat (0 : Int)).length)) then
bif (decide (v.1.2.1.1.toNat < (List.replicate v.1.1.toNat (0 : Int)).length)) then
some ((), (((v.1.2.1.1, (v.1.2.1.2.1, (v.1.2.1.2.2.1, (2, (v.1.2.1.2.2.2.2.1, (v.1.2.1.2.2.2.2.2.1, (v.1.2.1.2.2.2.2.2.2.1, ()))))))), ()), (((List.replicate v.1.1.toNat (0 : Int)).set v.1.2.1.1.toNat (v.1.2.1.2.2.2.2.1.length : Int)), ())))
else none
else none
else none

def sp100 : Abs.Spec := ⟨0, i100, o100, m100⟩

def an100 : Nat → Abs.FAn
  | _ => {}

theorem ok100 : Abs.SpecOK Tryz.prog 100 sp100 :=
  okW (an := an100) al0 rfl (by intro v; kernel_rfl)

/- pagewatch/pagewatchref32.Last -/
def i12 : Abs.Sg := ⟨[0], Qs21, .nil⟩

def o12 : Abs.Sg := ⟨[2], Qs3, .nil⟩

def m12 (v : ((Y8 × Unit) × (Unit))) : Option ((Int × Unit) × (Unit)) :=
bif (((v.1.1.2.2.2.2.1.length : Int) : Int) == 0) then (some ((0, ()), ()))
else (Abs.rowAt v.1.1.2.2.2.2.1 (w64 ((v.1.1.2.2.2.2.1.length : Int) - 1)) fun e2 _ =>
some ((e2.1, ()), ()))

def sp12 : Abs.Spec := ⟨0, i12, o12, m12⟩

def an12 : Nat → Abs.FAn
  | _ => {}

theorem ok12 : Abs.SpecOK Tryz.prog 12 sp12 :=
  okW (an := an12) al0 rfl (by intro v; kernel_rfl)

def l70_0_13 (v : ((Int × Int × Unit) × ((Y8 × Unit) × ((Int × Int × Int × Int × Y2 × Int × (List Bool) × Unit) × Unit) × (List Y9) × Y12 × (List Int) × Unit))) : Option (((Int × Int × Unit) × ((Y8 × Unit) × ((Int × Int × Int × Int × Y2 × Int × (List Bool) × Unit) × Unit) × (List Y9) × Y12 × (List Int) × Unit)) ⊕ ((Unit) × (Y12 × (List Y9) × ((Int × Int × Int × Int × Y2 × Int × (List Bool) × Unit) × Unit) × (List Int) × Unit))) :=
bif (decide ((v.1.1 : Int) < v.1.2.1)) then (((bif ((v.1.1 : Int) != v.2.1.1.1) then ((m12 ((v.2.1.1, ()), ())).bind fun u36 =>
bif (decide (v.2.2.2.1.length + ([(1, (v.2.1.1.1, (v.1.1, (v.2.2.1.1.2.1, ((v.2.1.1.2.2.2.2.1.length : Int), (u36.1.1, (0, ([], (false, ())))))))))] : List Y9).length ≤ 4294967296)) then
let x37 := (v.2.2.2.1 ++ ([(1, (v.2.1.1.1, (v.1.1, (v.2.2.1.1.2.1, ((v.2.1.1.2.2.2.2.1.length : Int), (u36.1.1, (0, ([], (false, ())))))))))] : List Y9))
some ((v.1.2.1, (v.1.1, ())), ((v.2.1.1, ()), (((v.2.2.1.1.1, (v.2.2.1.1.2.1, (v.2.2.1.1.2.2.1, (v.2.2.1.1.2.2.2.1, (v.2.2.1.1.2.2.2.2.1, (v.2.2.1.1.2.2.2.2.2.1, (v.2.2.1.1.2.2.2.2.2.2.1, ()))))))), ()), (x37, (((v.2.2.2.2.1.1.1, (v.2.2.2.2.1.1.2.1, (v.2.2.2.2.1.1.2.2.1, (v.2.2.2.2.1.1.2.2.2.1, (v.2.2.2.2.1.1.2.2.2.2.1, ()))))), ()), (v.2.2.2.2.2.1, ()))))))
else none)
else (some ((v.1.2.1, (v.1.1, ())), ((v.2.1.1, ()), (((v.2.2.1.1.1, (v.2.2.1.1.2.1, (v.2.2.1.1.2.2.1, (v.2.2.1.1.2.2.2.1, (v.2.2.1.1.2.2.2.2.1, (v.2.2.1.1.2.2.2.2.2.1, (v.2.2.1.1.2.2.2.2.2.2.1, ()))))))), ()), (v.2.2.2.1, (((v.2.2.2.2.1.1.1, (v.2.2.2.2.1.1.2.1, (v.2.2.2.2.1.1.2.2.1, (v.2.2.2.2.1.1.2.2.2.1, (v.2.2.2.2.1.1.2.2.2.2.1, ()))))), ()), (v.2.2.2.2.2.1, ())))))))) : Option ((Int × Int × Unit) × ((Y8 × Unit) × ((Int × Int × Int × Int × Y2 × Int × (List Bool) × Unit) × Unit) × (List Y9) × Y12 × (List Int) × Unit))).bind fun v38 =>
some (.inl (((w64 (v38.1.2.1 + 1)), (v38.1.1, ())), ((v38.2.1.1, ()), (((v38.2.2.1.1.1, (v38.2.2.1.1.2.1, (v38.2.2.1.1.2.2.1, (v38.2.2.1.1.2.2.2.1, (v38.2.2.1.1.2.2.2.2.1, (v38.2.2.1.1.2.2.2.2.2.1, (v38.2.2.1.1.2.2.2.2.2.2.1, ()))))))), ()), (v38.2.2.2.1, (((v38.2.2.2.2.1.1.1, (v38.2.2.2.2.1.1.2.1, (v38.2.2.2.2.1.1.2.2.1, (v38.2.2.2.2.1.1.2.2.2.1, (v38.2.2.2.2.1.1.2.2.2.2.1, ()))))), ()), (v38.2.2.2.2.2.1, ()))))))))
else (some (.inr ((), (((v.2.2.2.2.1.1.1, (v.2.2.2.2.1.1.2.1, (v.2.2.2.2.1.1.2.2.1, (v.2.2.2.2.1.1.2.2.2.1, (v.2.2.2.2.1.1.2.2.2.2.1, ()))))), ()), (v.2.2.2.1, (((v.2.2.1.1.1, (v.2.2.1.1.2.1, (v.2.2.1.1.2.2.1, (v.2.2.1.1.2.2.2.1, (v.2.2.1.1.2.2.2.2.1, (v.2.2.1.1.2.2.2.2.2.1, (v.2.2.1.1.2.2.2.2.2.2.1, ()))))))), ()), (v.2.2.2.2.2.1, ())))))))

/- pagewatch/pagewatchref32.Stand -/
def i70 : Abs.Sg := ⟨[0, 1], Qs37, .nil⟩

def o70 : Abs.Sg := ⟨[4, 5, 6], (.st Qx10 (.st (.own Z4 (1, 0)) Qs3)), (.box 8 (.agg (.dat (.int .i64) (.dat (.int .i64) (.dat (.int .i64) (.dat (.int .i64) (.dat (.row Z1) (.dat (.int .i64) (.dat (.row .bool) (.st (.own (.int .i64) (2, 0)) .nil)))))))) .nil) (.arr Z4 false Qb43))⟩

def m70 (v : ((Int × Y8 × Unit) × (Unit))) : Option ((Int × Unit) × (((Int × Int × Int × Int × Y2 × Int × (List Bool) × Unit) × Unit) × (List Y9) × (List Int) × Unit)) :=
(m59 ((v.1.1, (v.1.2.1, ())), ())).bind fun u31 =>
bif (!u31.1.1) then (some ((8, ()), (((0, (0, (0, (0, ([], (0, ([], ()))))))), ()), ([], ([], ())))))
else (bif ((v.1.2.1.2.1 : Int) == 1048576) then (some ((5, ()), (((0, (0, (0, (0, ([], (0, ([], ()))))))), ()), ([], ([], ())))))
else ((m89 ((v.1.2.1, ()), ())).bind fun u32 =>
bif (decide ((0 : Int) ≤ v.1.1 ∧ (v.1.1 : Int) ≤ v.1.1 ∧ (v.1.1 : Int) ≤ 4294967296)) then
bif (decide ((0 : Int) ≤ v.1.2.1.1 ∧ (v.1.2.1.1 : Int) < (List.replicate v.1.1.toNat (false : Bool)).length)) then
bif (decide (v.1.2.1.1.toNat < (List.replicate v.1.1.toNat (false : Bool)).length)) then
(((m13 ((v.1.1, ()), ())).bind fun u33 =>
bif ((u33.1.1 : Int) == 1) then ((m100 ((v.1.1, ((u32.2.1.1.1, ((w64 (v.1.2.1.2.1 + 1)), (v.1.2.1.1, (1, (u32.2.2.1, (u32.2.1.1.2.2.2.2.1, (((List.replicate v.1.1.toNat (false : Bool)).set v.1.2.1.1.toNat true), ([], ())))))))), ())), ())).bind fun u34 =>
some ((v.1.1, ()), ((v.1.2.1, ()), (((u34.2.1.1.1, (u34.2.1.1.2.1, (u34.2.1.1.2.2.1, (u34.2.1.1.2.2.2.1, (u34.2.1.1.2.2.2.2.1, (u34.2.1.1.2.2.2.2.2.1, (u34.2.1.1.2.2.2.2.2.2.1, ()))))))), ()), (((0, (0, (0, (0, (0, ()))))), ()), (u34.2.2.1, ()))))))
else (some ((v.1.1, ()), ((v.1.2.1, ()), (((u32.2.1.1.1, ((w64 (v.1.2.1.2.1 + 1)), (v.1.2.1.1, (1, (u32.2.2.1, (u32.2.1.1.2.2.2.2.1, (((List.replicate v.1.1.toNat (false : Bool)).set v.1.2.1.1.toNat true), ()))))))), ()), (((0, (0, (0, (0, (0, ()))))), ()), ([], ()))))))) : Option ((Int × Unit) × ((Y8 × Unit) × ((Int × Int × Int × Int × Y2 × Int × (List Bool) × Unit) × Unit) × Y12 × (List Int) × Unit))).bind fun v35 =>
(loopT l70_0_13 ((0, (v35.1.1, ())), ((v35.2.1.1, ()), (((v35.2.2.1.1.1, (v35.2.2.1.1.2.1, (v35.2.2.1.1.2.2.1, (v35.2.2.1.1.2.2.2.1, (v35.2.2.1.1.2.2.2.2.1, (v35.2.2.1.1.2.2.2.2.2.1, (v35.2.2.1.1.2.2.2.2.2.2.1, ()))))))), ()), ([], (((v35.2.2.2.1.1.1, (v35.2.2.2.1.1.2.1, (v35.2.2.2.1.1.2.2.1, (v35.2.2.2.1.1.2.2.2.1, (v35.2.2.2.1.1.2.2.2.2.1, ()))))), ()), (v35.2.2.2.2.1, ()))))))).bind fun d39 =>
some ((0, ()), (((d39.2.2.2.1.1.1, (d39.2.2.2.1.1.2.1, (d39.2.2.2.1.1.2.2.1, (d39.2.2.2.1.1.2.2.2.1, (d39.2.2.2.1.1.2.2.2.2.1, (d39.2.2.2.1.1.2.2.2.2.2.1, (d39.2.2.2.1.1.2.2.2.2.2.2.1, ()))))))), ()), (d39.2.2.1, (d39.2.2.2.2.1, ()))))
else none
else none
else none))

def sp70 : Abs.Spec := ⟨0, i70, o70, m70⟩

def an70 : Nat → Abs.FAn
  | 0 => Abs.FAn.mk (fun _ => none) (fun
    | 14 => some (⟨[3, 7, 8, 4, 0, 9], (.st Qx10 (.st Qx20 (.st (.own Z4 (2, 0)) (.st (.ptr (3, 0) 8 0 0) Qs13)))), (.box 8 Qs21 (.box 8 (.agg (.dat (.int .i64) (.dat (.int .i64) (.dat (.int .i64) (.dat (.int .i64) (.dat (.row Z1) (.dat (.int .i64) (.dat (.row .bool) (.st (.own (.int .i64) (4, 0)) .nil)))))))) .nil) (.arr Z4 false (.box 8 Qs1 Qb43))))⟩, none)
    | 11 => some (⟨[3, 7, 4, 0], (.st Qx10 (.st Qx20 (.st Qx38 Qs3))), (.box 8 Qs21 (.box 8 (.agg (.dat (.int .i64) (.dat (.int .i64) (.dat (.int .i64) (.dat (.int .i64) (.dat (.row Z1) (.dat (.int .i64) (.dat (.row .bool) (.st (.own (.int .i64) (3, 0)) .nil)))))))) .nil) (.box 8 Qs1 Qb43)))⟩, none)
    | _ => none) (fun
    | 13 => some ⟨⟨[9, 3, 7, 8, 4, 0], (.dat (.int .i64) (.st Qx10 (.st Qx20 (.st (.own Z4 (2, 0)) (.st (.ptr (3, 0) 8 0 0) Qs3))))), (.box 8 Qs21 (.box 8 (.agg (.dat (.int .i64) (.dat (.int .i64) (.dat (.int .i64) (.dat (.int .i64) (.dat (.row Z1) (.dat (.int .i64) (.dat (.row .bool) (.st (.own (.int .i64) (4, 0)) .nil)))))))) .nil) (.arr Z4 false (.box 8 Qs1 Qb43))))⟩, (.one (.exit 0) ⟨[4, 8, 7], (.st Qx10 (.st (.own Z4 (1, 0)) (.st Qx38 .nil))), (.box 8 Qs1 (.arr Z4 false (.box 8 (.agg (.dat (.int .i64) (.dat (.int .i64) (.dat (.int .i64) (.dat (.int .i64) (.dat (.row Z1) (.dat (.int .i64) (.dat (.row .bool) (.st (.own (.int .i64) (3, 0)) .nil)))))))) .nil) Qb43)))⟩)⟩
    | _ => none) (fun _ _ => 0)
  | _ => {}

theorem ok70 : Abs.SpecOK Tryz.prog 70 sp70 :=
  okW (an := an70) (alc ok59 (alc ok89 (alc ok13 (alc ok100 (alc ok12 al0))))) rfl (by intro v; kernel_rfl)

/- pagewatch/pagewatchref34.Stand -/
def i29 : Abs.Sg := ⟨[0, 1], (.dat Z7 Qs3), .nil⟩

def o29 : Abs.Sg := ⟨[4, 5], (.st Qx9 Qs3), Qb2⟩

def m29 (v : Y20) : Option ((Int × Unit) × Y13) :=
(m61 ((v.1.1, (v.1.2.1, ())), ())).bind fun u21 =>
bif ((u21.1.1 : Int) != 0) then (some ((u21.1.1, ()), (((), ()), ([], ([], ([], ([], ())))))))
else (Abs.rowAt v.1.1.2.2.1 v.1.2.1 fun e22 _ =>
bif e22 then (some ((21, ()), (((), ()), ([], ([], ([], ([], ())))))))
else ((m51 ((v.1.1, ()), ())).bind fun u23 =>
bif (decide ((0 : Int) ≤ v.1.2.1 ∧ (v.1.2.1 : Int) < u23.2.2.1.length)) then
(u23.2.2.1[v.1.2.1.toNat]?).bind fun e24 =>
(m70 (((v.1.1.1.length : Int), (e24, ())), ())).bind fun u25 =>
bif ((u25.1.1 : Int) != 0) then (some ((u25.1.1, ()), (((), ()), ([], ([], ([], ([], ())))))))
else (let x26 := (w64 (((u23.2.2.2.1.length : Nat) : Int) + ((u25.2.2.1.length : Nat) : Int)))
bif (decide ((x26 : Int) > 256)) then (some ((5, ()), (((), ()), ([], ([], ([], ([], ())))))))
else (bif (decide (u23.2.2.2.1.length + u25.2.2.1.length ≤ 4294967296)) then
bif (decide ((0 : Int) ≤ v.1.2.1 ∧ (v.1.2.1 : Int) < u23.2.2.1.length)) then
bif (decide (v.1.2.1.toNat < u23.2.2.1.length)) then
some ((0, ()), (((), ()), ((u23.2.2.1.set v.1.2.1.toNat (u25.2.1.1.1, (u25.2.1.1.2.1, (u25.2.1.1.2.2.1, (u25.2.1.1.2.2.2.1, (u25.2.1.1.2.2.2.2.1, (u25.2.1.1.2.2.2.2.2.1, (u25.2.1.1.2.2.2.2.2.2.1, (u25.2.2.2.1, ()))))))))), ((u23.2.2.2.1 ++ u25.2.2.1), (u23.2.2.2.2.1, (u23.2.2.2.2.2.1, ()))))))
else none
else none
else none))
else none))

def sp29 : Abs.Spec := ⟨0, i29, o29, m29⟩

def an29 : Nat → Abs.FAn
  | _ => {}

theorem ok29 : Abs.SpecOK Tryz.prog 29 sp29 :=
  okW (an := an29) (alc ok61 (alc ok51 (alc ok70 al0))) rfl (by intro v; kernel_rfl)

/- pagewatch/pagewatchref34.wire -/
def i78 : Abs.Sg := ⟨[0, 1], (.dat Z7 Qs3), .nil⟩

def o78 : Abs.Sg := ⟨[4], Qs3, .nil⟩

def m78 (v : Y20) : Option ((Int × Unit) × (Unit)) :=
(m15 ((v.1.1, ()), ())).bind fun u8 =>
bif (!u8.1.1) then (some ((8, ()), ()))
else ((m54 ((v.1.2.1, (0, ((w64 ((v.1.1.2.1.length : Int) - 1)), ()))), ())).bind fun u9 =>
bif (!u9.1.1) then (some ((3, ()), ()))
else (some ((0, ()), ())))

def sp78 : Abs.Spec := ⟨0, i78, o78, m78⟩

def an78 : Nat → Abs.FAn
  | _ => {}

theorem ok78 : Abs.SpecOK Tryz.prog 78 sp78 :=
  okW (an := an78) (alc ok15 (alc ok54 al0)) rfl (by intro v; kernel_rfl)

/- pagewatch/pagewatchref34.Drop -/
def i35 : Abs.Sg := ⟨[0, 1], (.dat Z7 Qs3), .nil⟩

def o35 : Abs.Sg := ⟨[4, 5], (.st Qx9 Qs3), (.box 4 (.agg (.st (.own Z3 (1, 0)) (.dat (.row Z4) (.st (.own .bool (2, 0)) (.st (.own Z11 (3, 0)) .nil)))) .nil) (.arr Z3 false (.arr .bool false (.arr Z11 false .nil))))⟩

def m35 (v : Y20) : Option ((Int × Unit) × ((((List Y9) × Unit) × Unit) × (List Y8) × (List Bool) × (List (Int × Int × Unit)) × Unit)) :=
(m78 ((v.1.1, (v.1.2.1, ())), ())).bind fun u15 =>
bif ((u15.1.1 : Int) != 0) then (some ((u15.1.1, ()), ((([], ()), ()), ([], ([], ([], ()))))))
else ((m51 ((v.1.1, ()), ())).bind fun u16 =>
((bif (decide ((0 : Int) ≤ v.1.2.1)) then
bif (decide ((0 : Int) ≤ v.1.2.1)) then
bif (decide (0 ≤ v.1.2.1.toNat ∧ v.1.2.1.toNat = v.1.2.1.toNat ∧ v.1.2.1.toNat ≤ u16.2.2.2.1.length)) then
bif (decide ((0 : Int) ≤ (w64 (v.1.2.1 + 1)))) then
bif (decide ((w64 (v.1.2.1 + 1)).toNat ≤ u16.2.2.2.1.length ∧ u16.2.2.2.1.length ≤ u16.2.2.2.1.length)) then
bif (decide ((w64 (v.1.2.1 + 1)).toNat + (u16.2.2.2.1.length - (w64 (v.1.2.1 + 1)).toNat) ≤ u16.2.2.2.1.length)) then
bif (u16.2.2.2.1.take v.1.2.1.toNat).isEmpty then (bif (decide ((u16.2.2.2.1.take v.1.2.1.toNat).length + ((u16.2.2.2.1.drop (w64 (v.1.2.1 + 1)).toNat).take (u16.2.2.2.1.length - (w64 (v.1.2.1 + 1)).toNat)).length ≤ 4294967296)) then
let x17 := ((u16.2.2.2.1.take v.1.2.1.toNat) ++ ((u16.2.2.2.1.drop (w64 (v.1.2.1 + 1)).toNat).take (u16.2.2.2.1.length - (w64 (v.1.2.1 + 1)).toNat)))
some ((), (((), ()), (((x17, ()), ()), (u16.2.2.1, (u16.2.2.2.2.1, (u16.2.2.2.2.2.1, ()))))))
else none)
else (bif ((u16.2.2.2.1.drop (w64 (v.1.2.1 + 1)).toNat).take (u16.2.2.2.1.length - (w64 (v.1.2.1 + 1)).toNat)).isEmpty then (some ((), (((), ()), ((((u16.2.2.2.1.take v.1.2.1.toNat), ()), ()), (u16.2.2.1, (u16.2.2.2.2.1, (u16.2.2.2.2.2.1, ())))))))
else (bif (decide ((u16.2.2.2.1.take v.1.2.1.toNat).length + ((u16.2.2.2.1.drop (w64 (v.1.2.1 + 1)).toNat).take (u16.2.2.2.1.length - (w64 (v.1.2.1 + 1)).toNat)).length ≤ 4294967296)) then
let x18 := ((u16.2.2.2.1.take v.1.2.1.toNat) ++ ((u16.2.2.2.1.drop (w64 (v.1.2.1 + 1)).toNat).take (u16.2.2.2.1.length - (w64 (v.1.2.1 + 1)).toNat)))
some ((), (((), ()), (((x18, ()), ()), (u16.2.2.1, (u16.2.2.2.2.1, (u16.2.2.2.2.2.1, ()))))))
else none))
else none
else none
else none
else none
else none
else none) : Option ((Unit) × (((Unit) × Unit) × (((List Y9) × Unit) × Unit) × (List Y8) × (List Bool) × (List (Int × Int × Unit)) × Unit))).bind fun v19 =>
some ((0, ()), (((v19.2.2.1.1.1, ()), ()), (v19.2.2.2.1, (v19.2.2.2.2.1, (v19.2.2.2.2.2.1, ()))))))

def sp35 : Abs.Spec := ⟨0, i35, o35, m35⟩

def an35 : Nat → Abs.FAn
  | 0 => Abs.FAn.mk (fun
    | 5 => some ⟨[4, 7], Qs17, (.box 4 Qs7 (.box 4 (.agg (.st (.own Z3 (2, 0)) (.dat (.row Z4) (.st (.own .bool (3, 0)) (.st (.own Z11 (4, 0)) .nil)))) .nil) (.arr Z3 false (.arr .bool false (.arr Z11 false .nil)))))⟩
    | _ => none) (fun _ => none) (fun _ => none) (fun _ _ => 0)
  | _ => {}

theorem ok35 : Abs.SpecOK Tryz.prog 35 sp35 :=
  okW (an := an35) (alc ok78 (alc ok51 al0)) rfl (by intro v; kernel_rfl)

/- pagewatch/pagewatchref32.To -/
def i104 : Abs.Sg := ⟨[0, 1, 2, 3], (.dat (.int .i64) (.dat Z3 (.dat Z4 Qs3))), .nil⟩

def o104 : Abs.Sg := ⟨[8], Qs12, .nil⟩

def m104 (v : ((Int × Y8 × Y9 × Int × Unit) × (Unit))) : Option Y15 :=
(((m59 ((v.1.1, (v.1.2.1, ())), ())).bind fun u7 =>
bif u7.1.1 then (bif ((v.1.2.2.1.1 : Int) == v.1.2.2.2.1) then (bif ((v.1.2.2.1.2.2.1 : Int) == v.1.2.1.1) then ((m54 ((v.1.2.2.1.2.1, (0, ((w64 (v.1.1 - 1)), ()))), ())).bind fun u8 =>
bif u8.1.1 then (bif ((v.1.2.2.1.2.1 : Int) != v.1.2.1.1) then ((m54 ((v.1.2.2.1.2.2.2.1, (1, (1048576, ()))), ())).bind fun u9 =>
some ((u9.1.1, ()), ()))
else (some ((false, ()), ())))
else (some ((false, ()), ())))
else (some ((false, ()), ())))
else (some ((false, ()), ())))
else (some ((false, ()), ()))) : Option Y15).bind fun v10 =>
some ((v10.1.1, ()), ())

def sp104 : Abs.Spec := ⟨0, i104, o104, m104⟩

def an104 : Nat → Abs.FAn
  | 0 => Abs.FAn.mk (fun
    | 1 => some ⟨[8], Qs12, .nil⟩
    | _ => none) (fun _ => none) (fun _ => none) (fun _ _ => 0)
  | _ => {}

theorem ok104 : Abs.SpecOK Tryz.prog 104 sp104 :=
  okW (an := an104) (alc ok59 (alc ok54 al0)) rfl (by intro v; kernel_rfl)

/- pagewatch/pagewatchref32.Follow -/
def i105 : Abs.Sg := ⟨[0, 1], (.dat Z3 Qs3), .nil⟩

def o105 : Abs.Sg := ⟨[4], (.st Qx10 .nil), Qb14⟩

def m105 (v : ((Y8 × Int × Unit) × (Unit))) : Option ((Unit) × ((Y8 × Unit) × Unit)) :=
((bif (decide ((v.1.2.1 : Int) > v.1.1.2.1)) then (some ((), (((0, (0, (0, (0, (0, ()))))), ()), (((v.1.1.1, (v.1.2.1, ((-1), (0, (v.1.1.2.2.2.2.1, (v.1.1.2.2.2.2.2.1, ([], ([], ())))))))), ()), ()))))
else (some ((), (((0, (0, (0, (0, (0, ()))))), ()), ((v.1.1, ()), ()))))) : Option ((Unit) × (Y12 × (Y8 × Unit) × Unit))).bind fun v1 =>
some ((), ((v1.2.2.1.1, ()), ()))

def sp105 : Abs.Spec := ⟨0, i105, o105, m105⟩

def an105 : Nat → Abs.FAn
  | 0 => Abs.FAn.mk (fun _ => none) (fun
    | 3 => some (⟨[4, 2], Qs41, (.box 8 Qs1 Qb14)⟩, none)
    | _ => none) (fun _ => none) (fun _ _ => 0)
  | _ => {}

theorem ok105 : Abs.SpecOK Tryz.prog 105 sp105 :=
  okW (an := an105) al0 rfl (by intro v; kernel_rfl)

/- pagewatch/pagewatchref32.Fresh -/
def i11 : Abs.Sg := ⟨[0, 1, 2], (.dat Z3 Qs13), .nil⟩

def o11 : Abs.Sg := ⟨[6], Qs12, .nil⟩

def m11 (v : ((Y8 × Int × Int × Unit) × (Unit))) : Option Y15 :=
(((m12 ((v.1.1, ()), ())).bind fun u7 =>
bif (decide ((v.1.2.2.1 : Int) > u7.1.1)) then (some ((true, ()), ()))
else ((m12 ((v.1.1, ()), ())).bind fun u8 =>
bif ((v.1.2.2.1 : Int) == u8.1.1) then (let x9 := (decide ((v.1.2.1 : Int) ≥ (v.1.1.2.2.2.2.1.length : Int)))
some ((x9, ()), ()))
else (some ((false, ()), ())))) : Option Y15).bind fun v10 =>
some ((v10.1.1, ()), ())

def sp11 : Abs.Spec := ⟨0, i11, o11, m11⟩

def an11 : Nat → Abs.FAn
  | 0 => Abs.FAn.mk (fun
    | 1 => some ⟨[6], Qs12, .nil⟩
    | _ => none) (fun _ => none) (fun _ => none) (fun _ _ => 0)
  | _ => {}

theorem ok11 : Abs.SpecOK Tryz.prog 11 sp11 :=
  okW (an := an11) (alc ok12 al0) rfl (by intro v; kernel_rfl)

/- pagewatch/pagewatchref32.Hear -/
def i74 : Abs.Sg := ⟨[0, 1, 2], Qs30, .nil⟩

def o74 : Abs.Sg := ⟨[6, 7, 8], (.st Qx10 (.st Qx35 Qs12)), (.box 8 Qs21 (.box 9 Qs5 .nil))⟩

def m74 (v : ((Int × Y8 × Y9 × Unit) × (Unit))) : Option ((Bool × Unit) × ((Y8 × Unit) × Y17 × Unit)) :=
(m104 ((v.1.1, (v.1.2.1, (v.1.2.2.1, (1, ())))), ())).bind fun u22 =>
bif (!u22.1.1) then ((m89 ((v.1.2.1, ()), ())).bind fun u23 =>
some ((false, ()), (((u23.2.1.1.1, (u23.2.1.1.2.1, (u23.2.1.1.2.2.1, (u23.2.1.1.2.2.2.1, (u23.2.2.1, (u23.2.1.1.2.2.2.2.1, (u23.2.2.2.1, (u23.2.2.2.2.1, ())))))))), ()), (((0, (0, (0, (0, (0, (0, (0, (false, ())))))))), ()), ()))))
else ((m89 ((v.1.2.1, ()), ())).bind fun u24 =>
(m105 (((u24.2.1.1.1, (u24.2.1.1.2.1, (u24.2.1.1.2.2.1, (u24.2.1.1.2.2.2.1, (u24.2.2.1, (u24.2.1.1.2.2.2.2.1, (u24.2.2.2.1, (u24.2.2.2.2.1, ())))))))), (v.1.2.2.1.2.2.2.1, ())), ())).bind fun u25 =>
((bif ((u25.2.1.1.2.1 : Int) == v.1.2.2.1.2.2.2.1) then (bif ((u25.2.1.1.2.2.1 : Int) == (-1)) then (bif ((u25.2.1.1.2.2.2.1 : Int) == 0) then ((m11 ((u25.2.1.1, (v.1.2.2.1.2.2.2.2.1, (v.1.2.2.1.2.2.2.2.2.1, ()))), ())).bind fun u26 =>
some ((u26.1.1, ()), (((0, (0, (0, (0, (0, ()))))), ()), (((0, (0, (0, (0, (0, (0, (0, (false, ())))))))), ()), ((u25.2.1.1, ()), ((v.1.2.2.1, ()), ((v.1.2.1, ()), ())))))))
else (some ((false, ()), (((0, (0, (0, (0, (0, ()))))), ()), (((0, (0, (0, (0, (0, (0, (0, (false, ())))))))), ()), ((u25.2.1.1, ()), ((v.1.2.2.1, ()), ((v.1.2.1, ()), ()))))))))
else (bif ((u25.2.1.1.2.2.1 : Int) == v.1.2.2.1.2.1) then (bif ((u25.2.1.1.2.2.2.1 : Int) == 0) then ((m11 ((u25.2.1.1, (v.1.2.2.1.2.2.2.2.1, (v.1.2.2.1.2.2.2.2.2.1, ()))), ())).bind fun u27 =>
some ((u27.1.1, ()), (((0, (0, (0, (0, (0, ()))))), ()), (((0, (0, (0, (0, (0, (0, (0, (false, ())))))))), ()), ((u25.2.1.1, ()), ((v.1.2.2.1, ()), ((v.1.2.1, ()), ())))))))
else (some ((false, ()), (((0, (0, (0, (0, (0, ()))))), ()), (((0, (0, (0, (0, (0, (0, (0, (false, ())))))))), ()), ((u25.2.1.1, ()), ((v.1.2.2.1, ()), ((v.1.2.1, ()), ()))))))))
else (some ((false, ()), (((0, (0, (0, (0, (0, ()))))), ()), (((0, (0, (0, (0, (0, (0, (0, (false, ())))))))), ()), ((u25.2.1.1, ()), ((v.1.2.2.1, ()), ((v.1.2.1, ()), ())))))))))
else (some ((false, ()), (((0, (0, (0, (0, (0, ()))))), ()), (((0, (0, (0, (0, (0, (0, (0, (false, ())))))))), ()), ((u25.2.1.1, ()), ((v.1.2.2.1, ()), ((v.1.2.1, ()), ())))))))) : Option ((Bool × Unit) × (Y12 × Y17 × (Y8 × Unit) × (Y9 × Unit) × (Y8 × Unit) × Unit))).bind fun v28 =>
((bif v28.1.1 then (some ((v28.1.1, ()), (((v28.2.1.1.1, (v28.2.1.1.2.1, (v28.2.1.1.2.2.1, (v28.2.1.1.2.2.2.1, (v28.2.1.1.2.2.2.2.1, ()))))), ()), (((v28.2.2.1.1.1, (v28.2.2.1.1.2.1, (v28.2.2.1.1.2.2.1, (v28.2.2.1.1.2.2.2.1, (v28.2.2.1.1.2.2.2.2.1, (v28.2.2.1.1.2.2.2.2.2.1, (v28.2.2.1.1.2.2.2.2.2.2.1, (v28.2.2.1.1.2.2.2.2.2.2.2.1, ())))))))), ()), (((v28.2.2.2.1.1.1, (v28.2.2.2.1.1.2.1, (v28.2.2.2.2.1.1.2.1, v28.2.2.2.1.1.2.2.2))), ()), ((v28.2.2.2.2.1.1, ()), ((v28.2.2.2.2.2.1.1, ()), ())))))))
else (some ((v28.1.1, ()), (((v28.2.1.1.1, (v28.2.1.1.2.1, (v28.2.1.1.2.2.1, (v28.2.1.1.2.2.2.1, (v28.2.1.1.2.2.2.2.1, ()))))), ()), (((v28.2.2.1.1.1, (v28.2.2.1.1.2.1, (v28.2.2.1.1.2.2.1, (v28.2.2.1.1.2.2.2.1, (v28.2.2.1.1.2.2.2.2.1, (v28.2.2.1.1.2.2.2.2.2.1, (v28.2.2.1.1.2.2.2.2.2.2.1, (v28.2.2.1.1.2.2.2.2.2.2.2.1, ())))))))), ()), ((v28.2.2.2.1.1, ()), ((v28.2.2.2.2.1.1, ()), ((v28.2.2.2.2.2.1.1, ()), ())))))))) : Option ((Bool × Unit) × (Y12 × Y17 × (Y8 × Unit) × (Y9 × Unit) × (Y8 × Unit) × Unit))).bind fun v29 =>
some ((true, ()), ((v29.2.2.2.1.1, ()), (((2, (v29.2.2.2.2.2.1.1.1, (v29.2.2.2.2.1.1.2.1, (v29.2.2.2.1.1.2.1, (0, (0, (0, (v29.1.1, ())))))))), ()), ()))))

def sp74 : Abs.Spec := ⟨0, i74, o74, m74⟩

def an74 : Nat → Abs.FAn
  | 0 => Abs.FAn.mk (fun
    | 4 => some ⟨[6, 7, 10, 9, 5, 4], (.st Qx10 (.st Qx35 (.dat .bool (.st Qx38 (.st (.ptr (3, 0) 9 0 0) (.st (.ptr (4, 0) 8 0 0) .nil)))))), (.box 8 Qs1 (.box 9 Qs5 (.box 8 Qs21 (.box 9 (.dat Z4 .nil) Qb14))))⟩
    | _ => none) (fun
    | 7 => some (⟨[6, 7, 10, 9, 5, 4], (.st Qx10 (.st Qx35 (.dat .bool (.st Qx38 (.st (.ptr (3, 0) 9 0 0) (.st (.ptr (4, 0) 8 0 0) .nil)))))), (.box 8 Qs1 (.box 9 Qs5 (.box 8 Qs21 (.box 9 (.dat Z4 .nil) Qb14))))⟩, none)
    | _ => none) (fun _ => none) (fun _ _ => 0)
  | _ => {}

theorem ok74 : Abs.SpecOK Tryz.prog 74 sp74 :=
  okW (an := an74) (alc ok104 (alc ok89 (alc ok105 (alc ok11 al0)))) rfl (by intro v; kernel_rfl)

def l75_0_11 (v : ((Int × Int × Int × Unit) × Y19)) : Option (((Int × Int × Int × Unit) × Y19) ⊕ ((Int × Int × Unit) × Y19)) :=
bif (decide ((v.1.1 : Int) < v.1.2.2.1)) then (((bif (decide ((0 : Int) ≤ v.1.1 ∧ (v.1.1 : Int) < v.2.2.2.2.1.length)) then
(v.2.2.2.2.1[v.1.1.toNat]?).bind fun e42 =>
bif e42 then (some (((w64 (v.1.2.1 + 1)), (v.1.2.2.1, (v.1.1, ()))), (((v.2.1.1.1, (v.2.1.1.2.1, (v.2.1.1.2.2.1, (v.2.1.1.2.2.2.1, (v.2.1.1.2.2.2.2.1, ()))))), ()), (((v.2.2.1.1.1, (v.2.2.1.1.2.1, (v.2.2.1.1.2.2.1, (v.2.2.1.1.2.2.2.1, (v.2.2.1.1.2.2.2.2.1, ()))))), ()), (v.2.2.2.1, (v.2.2.2.2.1, (v.2.2.2.2.2.1, ())))))))
else (some ((v.1.2.1, (v.1.2.2.1, (v.1.1, ()))), (((v.2.1.1.1, (v.2.1.1.2.1, (v.2.1.1.2.2.1, (v.2.1.1.2.2.2.1, (v.2.1.1.2.2.2.2.1, ()))))), ()), (((v.2.2.1.1.1, (v.2.2.1.1.2.1, (v.2.2.1.1.2.2.1, (v.2.2.1.1.2.2.2.1, (v.2.2.1.1.2.2.2.2.1, ()))))), ()), (v.2.2.2.1, (v.2.2.2.2.1, (v.2.2.2.2.2.1, ())))))))
else none) : Option ((Int × Int × Int × Unit) × Y19)).bind fun v43 =>
some (.inl (((w64 (v43.1.2.2.1 + 1)), (v43.1.1, (v43.1.2.1, ()))), (((v43.2.1.1.1, (v43.2.1.1.2.1, (v43.2.1.1.2.2.1, (v43.2.1.1.2.2.2.1, (v43.2.1.1.2.2.2.2.1, ()))))), ()), (((v43.2.2.1.1.1, (v43.2.2.1.1.2.1, (v43.2.2.1.1.2.2.1, (v43.2.2.1.1.2.2.2.1, (v43.2.2.1.1.2.2.2.2.1, ()))))), ()), (v43.2.2.2.1, (v43.2.2.2.2.1, (v43.2.2.2.2.2.1, ()))))))))
else (some (.inr ((v.1.2.2.1, (v.1.2.1, ())), (((v.2.2.1.1.1, (v.2.2.1.1.2.1, (v.2.2.1.1.2.2.1, (v.2.2.1.1.2.2.2.1, (v.2.2.1.1.2.2.2.2.1, ()))))), ()), (((v.2.1.1.1, (v.2.1.1.2.1, (v.2.1.1.2.2.1, (v.2.1.1.2.2.2.1, (v.2.1.1.2.2.2.2.1, ()))))), ()), (v.2.2.2.1, (v.2.2.2.2.1, (v.2.2.2.2.2.1, ()))))))))

/- pagewatch/pagewatchref32.Voted -/
def i75 : Abs.Sg := ⟨[0, 1, 2], Qs30, .nil⟩

def o75 : Abs.Sg := ⟨[6], (.st Qx10 .nil), Qb14⟩

def m75 (v : ((Int × Y8 × Y9 × Unit) × (Unit))) : Option ((Unit) × ((Y8 × Unit) × Unit)) :=
(m89 ((v.1.2.1, ()), ())).bind fun u37 =>
(m104 ((v.1.1, (v.1.2.1, (v.1.2.2.1, (2, ())))), ())).bind fun u38 =>
bif (!u38.1.1) then (some ((), (((u37.2.1.1.1, (u37.2.1.1.2.1, (u37.2.1.1.2.2.1, (u37.2.1.1.2.2.2.1, (u37.2.2.1, (u37.2.1.1.2.2.2.2.1, (u37.2.2.2.1, (u37.2.2.2.2.1, ())))))))), ()), ())))
else (let x39 := (decide ((v.1.2.2.1.2.2.2.1 : Int) > v.1.2.1.2.1))
bif x39 then ((m105 (((u37.2.1.1.1, (u37.2.1.1.2.1, (u37.2.1.1.2.2.1, (u37.2.1.1.2.2.2.1, (u37.2.2.1, (u37.2.1.1.2.2.2.2.1, (u37.2.2.2.1, (u37.2.2.2.2.1, ())))))))), (v.1.2.2.1.2.2.2.1, ())), ())).bind fun u40 =>
some ((), ((u40.2.1.1, ()), ())))
else (((bif ((v.1.2.1.2.2.2.1 : Int) != 1) then (some ((true, (v.1.1, ())), (((0, (0, (0, (0, (0, ()))))), ()), (((u37.2.1.1.1, (u37.2.1.1.2.1, (u37.2.1.1.2.2.1, (u37.2.1.1.2.2.2.1, (u37.2.1.1.2.2.2.2.1, ()))))), ()), ((v.1.2.2.1, ()), (u37.2.2.1, (u37.2.2.2.1, (u37.2.2.2.2.1, ()))))))))
else (bif ((v.1.2.2.1.2.2.2.1 : Int) != v.1.2.1.2.1) then (some ((true, (v.1.1, ())), (((0, (0, (0, (0, (0, ()))))), ()), (((u37.2.1.1.1, (u37.2.1.1.2.1, (u37.2.1.1.2.2.1, (u37.2.1.1.2.2.2.1, (u37.2.1.1.2.2.2.2.1, ()))))), ()), ((v.1.2.2.1, ()), (u37.2.2.1, (u37.2.2.2.1, (u37.2.2.2.2.1, ()))))))))
else (some (((!v.1.2.2.1.2.2.2.2.2.2.2.2.1), (v.1.1, ())), (((0, (0, (0, (0, (0, ()))))), ()), (((u37.2.1.1.1, (u37.2.1.1.2.1, (u37.2.1.1.2.2.1, (u37.2.1.1.2.2.2.1, (u37.2.1.1.2.2.2.2.1, ()))))), ()), ((v.1.2.2.1, ()), (u37.2.2.1, (u37.2.2.2.1, (u37.2.2.2.2.1, ())))))))))) : Option ((Bool × Int × Unit) × (Y12 × Y12 × (Y9 × Unit) × Y2 × (List Bool) × (List Int) × Unit))).bind fun v41 =>
bif v41.1.1 then (some ((), (((v41.2.2.1.1.1, (v41.2.2.1.1.2.1, (v41.2.2.1.1.2.2.1, (v41.2.2.1.1.2.2.2.1, (v41.2.2.2.2.1, (v41.2.2.1.1.2.2.2.2.1, (v41.2.2.2.2.2.1, (v41.2.2.2.2.2.2.1, ())))))))), ()), ())))
else (bif (decide ((0 : Int) ≤ v41.2.2.2.1.1.2.1 ∧ (v41.2.2.2.1.1.2.1 : Int) < v41.2.2.2.2.2.1.length)) then
bif (decide (v41.2.2.2.1.1.2.1.toNat < v41.2.2.2.2.2.1.length)) then
(loopT l75_0_11 ((0, (0, (v41.1.2.1, ()))), (((v41.2.2.1.1.1, (v41.2.2.1.1.2.1, (v41.2.2.1.1.2.2.1, (v41.2.2.1.1.2.2.2.1, (v41.2.2.1.1.2.2.2.2.1, ()))))), ()), (((v41.2.1.1.1, (v41.2.1.1.2.1, (v41.2.1.1.2.2.1, (v41.2.1.1.2.2.2.1, (v41.2.1.1.2.2.2.2.1, ()))))), ()), (v41.2.2.2.2.1, ((v41.2.2.2.2.2.1.set v41.2.2.2.1.1.2.1.toNat true), (v41.2.2.2.2.2.2.1, ()))))))).bind fun d44 =>
(((m13 ((d44.1.1, ()), ())).bind fun u45 =>
bif (decide ((d44.1.2.1 : Int) ≥ u45.1.1)) then ((m100 ((d44.1.1, ((d44.2.2.1.1.1, (d44.2.2.1.1.2.1, (d44.2.2.1.1.2.2.1, (d44.2.2.1.1.2.2.2.1, (d44.2.2.2.1, (d44.2.2.1.1.2.2.2.2.1, (d44.2.2.2.2.1, (d44.2.2.2.2.2.1, ())))))))), ())), ())).bind fun u46 =>
some ((), (((d44.2.1.1.1, (d44.2.1.1.2.1, (d44.2.1.1.2.2.1, (d44.2.1.1.2.2.2.1, (d44.2.1.1.2.2.2.2.1, ()))))), ()), (((u46.2.1.1.1, (u46.2.1.1.2.1, (u46.2.1.1.2.2.1, (u46.2.1.1.2.2.2.1, (u46.2.1.1.2.2.2.2.1, (u46.2.1.1.2.2.2.2.2.1, (u46.2.1.1.2.2.2.2.2.2.1, ()))))))), ()), (u46.2.2.1, ())))))
else (some ((), (((d44.2.1.1.1, (d44.2.1.1.2.1, (d44.2.1.1.2.2.1, (d44.2.1.1.2.2.2.1, (d44.2.1.1.2.2.2.2.1, ()))))), ()), (((d44.2.2.1.1.1, (d44.2.2.1.1.2.1, (d44.2.2.1.1.2.2.1, (d44.2.2.1.1.2.2.2.1, (d44.2.2.2.1, (d44.2.2.1.1.2.2.2.2.1, (d44.2.2.2.2.1, ()))))))), ()), (d44.2.2.2.2.2.1, ())))))) : Option ((Unit) × (Y12 × ((Int × Int × Int × Int × Y2 × Int × (List Bool) × Unit) × Unit) × (List Int) × Unit))).bind fun v47 =>
some ((), (((v47.2.2.1.1.1, (v47.2.2.1.1.2.1, (v47.2.2.1.1.2.2.1, (v47.2.2.1.1.2.2.2.1, (v47.2.2.1.1.2.2.2.2.1, (v47.2.2.1.1.2.2.2.2.2.1, (v47.2.2.1.1.2.2.2.2.2.2.1, (v47.2.2.2.1, ())))))))), ()), ()))
else none
else none)))

def sp75 : Abs.Spec := ⟨0, i75, o75, m75⟩

def an75 : Nat → Abs.FAn
  | 0 => Abs.FAn.mk (fun
    | 6 => some ⟨[41, 6, 7, 0, 5], Qs32, Qb16⟩
    | _ => none) (fun
    | 17 => some (⟨[6, 7], Qs41, (.box 8 Qs1 (.box 8 (.agg (.dat (.int .i64) (.dat (.int .i64) (.dat (.int .i64) (.dat (.int .i64) (.dat (.row Z1) (.dat (.int .i64) (.dat (.row .bool) (.st (.own (.int .i64) (2, 0)) .nil)))))))) .nil) Qb43))⟩, none)
    | 12 => some (⟨[8, 7, 6, 0, 9], (.dat (.int .i64) (.st Qx10 (.st Qx20 Qs13))), Qb40⟩, none)
    | _ => none) (fun
    | 11 => some ⟨⟨[9, 8, 7, 6, 0], (.dat (.int .i64) (.dat (.int .i64) (.st Qx10 (.st Qx20 Qs3)))), Qb40⟩, (.one (.exit 0) ⟨[6, 7, 0, 8], (.st Qx10 (.st Qx20 Qs13)), (.box 8 Qs1 (.box 8 Qs4 Qb8))⟩)⟩
    | _ => none) (fun _ _ => 0)
  | _ => {}

theorem ok75 : Abs.SpecOK Tryz.prog 75 sp75 :=
  okW (an := an75) (alc ok89 (alc ok104 (alc ok105 (alc ok13 (alc ok100 al0))))) rfl (by intro v; kernel_rfl)

def l106_0_2 (v : ((Int × Y2 × Y2 × Int × Unit) × (Unit))) : Option (((Int × Y2 × Y2 × Int × Unit) × (Unit)) ⊕ (((Int × Unit) × (Y2 × Unit)) ⊕ ((Y2 × Unit) × (Unit)))) :=
let x46 := (decide ((v.1.1 : Int) < (v.1.2.1.length : Int)))
bif x46 then (((let x47 := (decide (((w64 (v.1.2.2.2.1 + v.1.1)) : Int) ≥ (v.1.2.2.1.length : Int)))
bif x47 then (some ((true, (v.1.1, (v.1.2.1, (v.1.2.2.1, ((w64 (v.1.2.2.2.1 + v.1.1)), (v.1.2.2.2.1, ())))))), ()))
else (Abs.rowAt v.1.2.2.1 (w64 (v.1.2.2.2.1 + v.1.1)) fun e48 _ =>
Abs.rowAt v.1.2.1 v.1.1 fun e49 _ =>
some ((((e48.1 : Int) != e49.1), (v.1.1, (v.1.2.1, (v.1.2.2.1, ((w64 (v.1.2.2.2.1 + v.1.1)), (v.1.2.2.2.1, ())))))), ()))) : Option ((Bool × Int × Y2 × Y2 × Int × Int × Unit) × (Unit))).bind fun v50 =>
bif v50.1.1 then (let x51 := (if ((v50.1.2.2.2.1.length : Int) : Int) < v50.1.2.2.2.2.1 then (v50.1.2.2.2.1.length : Int) else v50.1.2.2.2.2.1)
bif (decide ((0 : Int) ≤ x51)) then
bif (decide (0 ≤ x51.toNat ∧ x51.toNat ≤ v50.1.2.2.2.1.length)) then
bif (decide (0 + (v50.1.2.2.2.1.take x51.toNat).length ≤ 4294967296)) then
bif (decide ((0 : Int) ≤ v50.1.2.1)) then
bif (decide (v50.1.2.1.toNat ≤ v50.1.2.2.1.length ∧ v50.1.2.2.1.length ≤ v50.1.2.2.1.length)) then
let x52 := ((v50.1.2.2.1.drop v50.1.2.1.toNat).take (v50.1.2.2.1.length - v50.1.2.1.toNat))
bif (decide ((v50.1.2.2.2.1.take x51.toNat).length + x52.length ≤ 4294967296)) then
some (.inr (.inl ((x51, ()), (((v50.1.2.2.2.1.take x51.toNat) ++ x52), ()))))
else none
else none
else none
else none
else none
else none)
else (some (.inl (((w64 (v50.1.2.1 + 1)), (v50.1.2.2.1, (v50.1.2.2.2.1, (v50.1.2.2.2.2.2.1, ())))), ()))))
else (some (.inr (.inr ((v.1.2.2.1, ()), ()))))

/- pagewatch/pagewatchref33.joined -/
def i106 : Abs.Sg := ⟨[0, 1, 2], (.dat (.row Z1) (.dat (.int .i64) (.dat (.row Z1) .nil))), .nil⟩

def o106 : Abs.Sg := ⟨[6, 7], (.st (.own Z1 (0, 0)) Qs3), (.arr Z1 false .nil)⟩

def m106 (v : ((Y2 × Int × Y2 × Unit) × (Unit))) : Option ((Int × Unit) × (Y2 × Unit)) :=
(loopT l106_0_2 ((0, (v.1.2.2.1, (v.1.1, (v.1.2.1, ())))), ())).bind fun d53 =>
sumE d53 (fun d54 => (some ((d54.1.1, ()), (d54.2.1, ())))) (fun d55 => (bif (decide (0 + d55.1.1.length ≤ 4294967296)) then
some (((d55.1.1.length : Int), ()), (d55.1.1, ()))
else none))

def sp106 : Abs.Spec := ⟨0, i106, o106, m106⟩

def an106 : Nat → Abs.FAn
  | 0 => Abs.FAn.mk (fun
    | 5 => some ⟨[35, 8, 2, 0, 9, 1], (.dat .bool (.dat (.int .i64) (.dat (.row Z1) (.dat (.row Z1) Qs13)))), .nil⟩
    | _ => none) (fun _ => none) (fun
    | 2 => some ⟨⟨[8, 2, 0, 1], (.dat (.int .i64) (.dat (.row Z1) (.dat (.row Z1) Qs3))), .nil⟩, (.more .ret ⟨[6, 7], (.st (.own Z1 (0, 0)) Qs3), (.arr Z1 false .nil)⟩ (.one (.exit 0) ⟨[0], (.dat (.row Z1) .nil), .nil⟩))⟩
    | _ => none) (fun _ _ => 0)
  | _ => {}

theorem ok106 : Abs.SpecOK Tryz.prog 106 sp106 :=
  okW (an := an106) al0 rfl (by intro v; kernel_rfl)

/- pagewatch/pagewatchref33.Accept -/
def i76 : Abs.Sg := ⟨[0, 1, 2], Qs30, .nil⟩

def o76 : Abs.Sg := ⟨[6, 7, 8], (.st Qx10 (.st Qx35 Qs12)), (.box 8 Qs21 (.box 9 Qs5 .nil))⟩

def m76 (v : ((Int × Y8 × Y9 × Unit) × (Unit))) : Option ((Bool × Unit) × ((Y8 × Unit) × Y17 × Unit)) :=
(((m104 ((v.1.1, (v.1.2.1, (v.1.2.2.1, (3, ())))), ())).bind fun u61 =>
bif (!u61.1.1) then (some ((true, ()), (((0, (0, (0, (0, (0, ()))))), ()), (((0, (0, (0, (0, (0, (0, (0, (false, ())))))))), ()), ((v.1.2.1, ()), ((v.1.2.2.1, ()), ()))))))
else (bif (decide ((v.1.2.2.1.2.2.2.2.1 : Int) < 0)) then (some ((true, ()), (((0, (0, (0, (0, (0, ()))))), ()), (((0, (0, (0, (0, (0, (0, (0, (false, ())))))))), ()), ((v.1.2.1, ()), ((v.1.2.2.1, ()), ()))))))
else (bif (decide ((v.1.2.2.1.2.2.2.2.2.1 : Int) < 0)) then (some ((true, ()), (((0, (0, (0, (0, (0, ()))))), ()), (((0, (0, (0, (0, (0, (0, (0, (false, ())))))))), ()), ((v.1.2.1, ()), ((v.1.2.2.1, ()), ()))))))
else (some (((decide ((v.1.2.2.1.2.2.2.2.2.2.1 : Int) < 0)), ()), (((0, (0, (0, (0, (0, ()))))), ()), (((0, (0, (0, (0, (0, (0, (0, (false, ())))))))), ()), ((v.1.2.1, ()), ((v.1.2.2.1, ()), ()))))))))) : Option ((Bool × Unit) × (Y12 × Y17 × (Y8 × Unit) × (Y9 × Unit) × Unit))).bind fun v62 =>
bif v62.1.1 then ((m89 ((v62.2.2.2.1.1, ()), ())).bind fun u63 =>
some ((false, ()), (((u63.2.1.1.1, (u63.2.1.1.2.1, (u63.2.1.1.2.2.1, (u63.2.1.1.2.2.2.1, (u63.2.2.1, (u63.2.1.1.2.2.2.2.1, (u63.2.2.2.1, (u63.2.2.2.2.1, ())))))))), ()), (((0, (0, (0, (0, (0, (0, (0, (false, ())))))))), ()), ()))))
else ((m89 ((v62.2.2.2.1.1, ()), ())).bind fun u64 =>
(m105 (((u64.2.1.1.1, (u64.2.1.1.2.1, (u64.2.1.1.2.2.1, (u64.2.1.1.2.2.2.1, (u64.2.2.1, (u64.2.1.1.2.2.2.2.1, (u64.2.2.2.1, (u64.2.2.2.2.1, ())))))))), (v62.2.2.2.2.1.1.2.2.2.1, ())), ())).bind fun u65 =>
((((bif ((u65.2.1.1.2.2.2.1 : Int) == 1) then (let x66 := ((u65.2.1.1.2.1 : Int) == v62.2.2.2.2.1.1.2.2.2.1)
some ((x66, ()), (((v62.2.1.1.1, (v62.2.1.1.2.1, (v62.2.1.1.2.2.1, (v62.2.1.1.2.2.2.1, (v62.2.1.1.2.2.2.2.1, ()))))), ()), (((v62.2.2.1.1.1, (v62.2.2.1.1.2.1, (v62.2.2.1.1.2.2.1, (v62.2.2.1.1.2.2.2.1, (v62.2.2.1.1.2.2.2.2.1, (v62.2.2.1.1.2.2.2.2.2.1, (v62.2.2.1.1.2.2.2.2.2.2.1, (v62.2.2.1.1.2.2.2.2.2.2.2.1, ())))))))), ()), ((u65.2.1.1, ()), ((v62.2.2.2.1.1, ()), ((v62.2.2.2.2.1.1, ()), ())))))))
else (some ((false, ()), (((v62.2.1.1.1, (v62.2.1.1.2.1, (v62.2.1.1.2.2.1, (v62.2.1.1.2.2.2.1, (v62.2.1.1.2.2.2.2.1, ()))))), ()), (((v62.2.2.1.1.1, (v62.2.2.1.1.2.1, (v62.2.2.1.1.2.2.1, (v62.2.2.1.1.2.2.2.1, (v62.2.2.1.1.2.2.2.2.1, (v62.2.2.1.1.2.2.2.2.2.1, (v62.2.2.1.1.2.2.2.2.2.2.1, (v62.2.2.1.1.2.2.2.2.2.2.2.1, ())))))))), ()), ((u65.2.1.1, ()), ((v62.2.2.2.1.1, ()), ((v62.2.2.2.2.1.1, ()), ())))))))) : Option ((Bool × Unit) × (Y12 × Y17 × (Y8 × Unit) × (Y8 × Unit) × (Y9 × Unit) × Unit))).bind fun v67 =>
bif v67.1.1 then (some ((), (((v67.2.1.1.1, (v67.2.1.1.2.1, (v67.2.1.1.2.2.1, (v67.2.1.1.2.2.2.1, (v67.2.1.1.2.2.2.2.1, ()))))), ()), (((v67.2.2.1.1.1, (v67.2.2.1.1.2.1, (v67.2.2.1.1.2.2.1, (v67.2.2.1.1.2.2.2.1, (v67.2.2.1.1.2.2.2.2.1, (v67.2.2.1.1.2.2.2.2.2.1, (v67.2.2.1.1.2.2.2.2.2.2.1, (v67.2.2.1.1.2.2.2.2.2.2.2.1, ())))))))), ()), (((v67.2.2.2.1.1.1, (v67.2.2.2.1.1.2.1, (v67.2.2.2.1.1.2.2.1, (0, (v67.2.2.2.1.1.2.2.2.2.1, (v67.2.2.2.1.1.2.2.2.2.2.1, ([], v67.2.2.2.1.1.2.2.2.2.2.2.2))))))), ()), ((v67.2.2.2.2.1.1, ()), ((v67.2.2.2.2.2.1.1, ()), ())))))))
else (some ((), (((v67.2.1.1.1, (v67.2.1.1.2.1, (v67.2.1.1.2.2.1, (v67.2.1.1.2.2.2.1, (v67.2.1.1.2.2.2.2.1, ()))))), ()), (((v67.2.2.1.1.1, (v67.2.2.1.1.2.1, (v67.2.2.1.1.2.2.1, (v67.2.2.1.1.2.2.2.1, (v67.2.2.1.1.2.2.2.2.1, (v67.2.2.1.1.2.2.2.2.2.1, (v67.2.2.1.1.2.2.2.2.2.2.1, (v67.2.2.1.1.2.2.2.2.2.2.2.1, ())))))))), ()), ((v67.2.2.2.1.1, ()), ((v67.2.2.2.2.1.1, ()), ((v67.2.2.2.2.2.1.1, ()), ())))))))) : Option ((Unit) × (Y12 × Y17 × (Y8 × Unit) × (Y8 × Unit) × (Y9 × Unit) × Unit))).bind fun v68 =>
((let x69 := ((v68.2.2.2.2.2.1.1.2.2.2.1 : Int) == v68.2.2.2.1.1.2.1)
bif x69 then (bif ((v68.2.2.2.1.1.2.2.2.1 : Int) != 2) then (let x70 := (decide ((v68.2.2.2.2.2.1.1.2.2.2.2.1 : Int) ≤ (v68.2.2.2.1.1.2.2.2.2.1.length : Int)))
bif x70 then (bif ((v68.2.2.2.2.2.1.1.2.2.2.2.1 : Int) == 0) then (some ((true, ()), (((v68.2.1.1.1, (v68.2.1.1.2.1, (v68.2.1.1.2.2.1, (v68.2.1.1.2.2.2.1, (v68.2.1.1.2.2.2.2.1, ()))))), ()), (((v68.2.2.1.1.1, (v68.2.2.1.1.2.1, (v68.2.2.1.1.2.2.1, (v68.2.2.1.1.2.2.2.1, (v68.2.2.1.1.2.2.2.2.1, (v68.2.2.1.1.2.2.2.2.2.1, (v68.2.2.1.1.2.2.2.2.2.2.1, (v68.2.2.1.1.2.2.2.2.2.2.2.1, ())))))))), ()), ((v68.2.2.2.1.1, ()), ((v68.2.2.2.2.1.1, ()), ((v68.2.2.2.2.2.1.1, ()), ())))))))
else (Abs.rowAt v68.2.2.2.1.1.2.2.2.2.1 (w64 (v68.2.2.2.2.2.1.1.2.2.2.2.1 - 1)) fun e71 _ =>
some ((((e71.1 : Int) == v68.2.2.2.2.2.1.1.2.2.2.2.2.1), ()), (((v68.2.1.1.1, (v68.2.1.1.2.1, (v68.2.1.1.2.2.1, (v68.2.1.1.2.2.2.1, (v68.2.1.1.2.2.2.2.1, ()))))), ()), (((v68.2.2.1.1.1, (v68.2.2.1.1.2.1, (v68.2.2.1.1.2.2.1, (v68.2.2.1.1.2.2.2.1, (v68.2.2.1.1.2.2.2.2.1, (v68.2.2.1.1.2.2.2.2.2.1, (v68.2.2.1.1.2.2.2.2.2.2.1, (v68.2.2.1.1.2.2.2.2.2.2.2.1, ())))))))), ()), ((v68.2.2.2.1.1, ()), ((v68.2.2.2.2.1.1, ()), ((v68.2.2.2.2.2.1.1, ()), ()))))))))
else (some ((false, ()), (((v68.2.1.1.1, (v68.2.1.1.2.1, (v68.2.1.1.2.2.1, (v68.2.1.1.2.2.2.1, (v68.2.1.1.2.2.2.2.1, ()))))), ()), (((v68.2.2.1.1.1, (v68.2.2.1.1.2.1, (v68.2.2.1.1.2.2.1, (v68.2.2.1.1.2.2.2.1, (v68.2.2.1.1.2.2.2.2.1, (v68.2.2.1.1.2.2.2.2.2.1, (v68.2.2.1.1.2.2.2.2.2.2.1, (v68.2.2.1.1.2.2.2.2.2.2.2.1, ())))))))), ()), ((v68.2.2.2.1.1, ()), ((v68.2.2.2.2.1.1, ()), ((v68.2.2.2.2.2.1.1, ()), ()))))))))
else (some ((false, ()), (((v68.2.1.1.1, (v68.2.1.1.2.1, (v68.2.1.1.2.2.1, (v68.2.1.1.2.2.2.1, (v68.2.1.1.2.2.2.2.1, ()))))), ()), (((v68.2.2.1.1.1, (v68.2.2.1.1.2.1, (v68.2.2.1.1.2.2.1, (v68.2.2.1.1.2.2.2.1, (v68.2.2.1.1.2.2.2.2.1, (v68.2.2.1.1.2.2.2.2.2.1, (v68.2.2.1.1.2.2.2.2.2.2.1, (v68.2.2.1.1.2.2.2.2.2.2.2.1, ())))))))), ()), ((v68.2.2.2.1.1, ()), ((v68.2.2.2.2.1.1, ()), ((v68.2.2.2.2.2.1.1, ()), ()))))))))
else (some ((false, ()), (((v68.2.1.1.1, (v68.2.1.1.2.1, (v68.2.1.1.2.2.1, (v68.2.1.1.2.2.2.1, (v68.2.1.1.2.2.2.2.1, ()))))), ()), (((v68.2.2.1.1.1, (v68.2.2.1.1.2.1, (v68.2.2.1.1.2.2.1, (v68.2.2.1.1.2.2.2.1, (v68.2.2.1.1.2.2.2.2.1, (v68.2.2.1.1.2.2.2.2.2.1, (v68.2.2.1.1.2.2.2.2.2.2.1, (v68.2.2.1.1.2.2.2.2.2.2.2.1, ())))))))), ()), ((v68.2.2.2.1.1, ()), ((v68.2.2.2.2.1.1, ()), ((v68.2.2.2.2.2.1.1, ()), ())))))))) : Option ((Bool × Unit) × (Y12 × Y17 × (Y8 × Unit) × (Y8 × Unit) × (Y9 × Unit) × Unit))).bind fun v72 =>
bif (!v72.1.1) then (some ((true, ()), ((v72.2.2.2.1.1, ()), (((4, (v72.2.2.2.2.1.1.1, (v72.2.2.2.2.2.1.1.2.1, (v72.2.2.2.1.1.2.1, (0, (0, (0, (false, ())))))))), ()), ()))))
else ((m106 ((v72.2.2.2.1.1.2.2.2.2.1, (v72.2.2.2.2.2.1.1.2.2.2.2.1, (v72.2.2.2.2.2.1.1.2.2.2.2.2.2.2.1, ()))), ())).bind fun u73 =>
(((m95 ((u73.2.1, (v72.2.2.2.2.2.1.1.2.2.2.1, ())), ())).bind fun u74 =>
bif (!u74.1.1) then (some ((true, ()), (((v72.2.1.1.1, (v72.2.1.1.2.1, (v72.2.1.1.2.2.1, (v72.2.1.1.2.2.2.1, (v72.2.1.1.2.2.2.2.1, ()))))), ()), (((v72.2.2.1.1.1, (v72.2.2.1.1.2.1, (v72.2.2.1.1.2.2.1, (v72.2.2.1.1.2.2.2.1, (v72.2.2.1.1.2.2.2.2.1, (v72.2.2.1.1.2.2.2.2.2.1, (v72.2.2.1.1.2.2.2.2.2.2.1, (v72.2.2.1.1.2.2.2.2.2.2.2.1, ())))))))), ()), ((v72.2.2.2.2.1.1, ()), (((4, (v72.2.2.2.2.1.1.1, (v72.2.2.2.2.2.1.1.2.1, (v72.2.2.2.1.1.2.1, (0, (0, (0, (false, ())))))))), ()), ((v72.2.2.2.1.1, ()), ((v72.2.2.2.2.2.1.1, ()), (u73.2.1, ())))))))))
else (let x75 := (decide ((u73.1.1 : Int) < v72.2.2.2.1.1.2.2.2.2.2.1))
some ((x75, ()), (((v72.2.1.1.1, (v72.2.1.1.2.1, (v72.2.1.1.2.2.1, (v72.2.1.1.2.2.2.1, (v72.2.1.1.2.2.2.2.1, ()))))), ()), (((v72.2.2.1.1.1, (v72.2.2.1.1.2.1, (v72.2.2.1.1.2.2.1, (v72.2.2.1.1.2.2.2.1, (v72.2.2.1.1.2.2.2.2.1, (v72.2.2.1.1.2.2.2.2.2.1, (v72.2.2.1.1.2.2.2.2.2.2.1, (v72.2.2.1.1.2.2.2.2.2.2.2.1, ())))))))), ()), ((v72.2.2.2.2.1.1, ()), (((4, (v72.2.2.2.2.1.1.1, (v72.2.2.2.2.2.1.1.2.1, (v72.2.2.2.1.1.2.1, (0, (0, (0, (false, ())))))))), ()), ((v72.2.2.2.1.1, ()), ((v72.2.2.2.2.2.1.1, ()), (u73.2.1, ())))))))))) : Option ((Bool × Unit) × (Y12 × Y17 × (Y8 × Unit) × Y17 × (Y8 × Unit) × (Y9 × Unit) × Y2 × Unit))).bind fun v76 =>
bif v76.1.1 then ((m89 ((v76.2.2.2.1.1, ()), ())).bind fun u77 =>
some ((false, ()), (((u77.2.1.1.1, (u77.2.1.1.2.1, (u77.2.1.1.2.2.1, (u77.2.1.1.2.2.2.1, (u77.2.2.1, (u77.2.1.1.2.2.2.2.1, (u77.2.2.2.1, (u77.2.2.2.2.1, ())))))))), ()), (((0, (0, (0, (0, (0, (0, (0, (false, ())))))))), ()), ()))))
else (let x78 := (w64 (v76.2.2.2.2.2.2.1.1.2.2.2.2.1 + (v76.2.2.2.2.2.2.1.1.2.2.2.2.2.2.2.1.length : Int)))
let x79 := (if (x78 : Int) < v76.2.2.2.2.2.2.1.1.2.2.2.2.2.2.1 then x78 else v76.2.2.2.2.2.2.1.1.2.2.2.2.2.2.1)
let x80 := (if (x79 : Int) > v76.2.2.2.2.2.1.1.2.2.2.2.2.1 then x79 else v76.2.2.2.2.2.1.1.2.2.2.2.2.1)
some ((true, ()), (((v76.2.2.2.2.2.1.1.1, (v76.2.2.2.2.2.1.1.2.1, (v76.2.2.2.2.2.1.1.2.2.1, (v76.2.2.2.2.2.1.1.2.2.2.1, (v76.2.2.2.2.2.2.2.1, (x80, v76.2.2.2.2.2.1.1.2.2.2.2.2.2)))))), ()), (((v76.2.2.2.2.1.1.1, (v76.2.2.2.2.1.1.2.1, (v76.2.2.2.2.1.1.2.2.1, (v76.2.2.2.2.1.1.2.2.2.1, (x78, (v76.2.2.2.2.1.1.2.2.2.2.2.1, (v76.2.2.2.2.1.1.2.2.2.2.2.2.1, (true, ())))))))), ()), ()))))))

def sp76 : Abs.Spec := ⟨0, i76, o76, m76⟩

def an76 : Nat → Abs.FAn
  | 0 => Abs.FAn.mk (fun
    | 11 => some ⟨[122, 6, 7, 4, 11, 9, 5, 12], (.dat .bool (.st Qx10 (.st Qx35 (.st Qx38 (.st (.ptr (3, 0) 9 0 0) (.st (.ptr (4, 0) 8 0 0) (.st (.ptr (5, 0) 9 0 0) (.st (.own Z1 (6, 0)) .nil)))))))), (.box 8 Qs1 (.box 9 Qs5 (.box 8 Qs21 (.box 9 Qs5 (.box 8 Qs21 (.box 9 (.dat Z4 .nil) (.arr Z1 false .nil)))))))⟩
    | 6 => some ⟨[6, 7, 9, 4, 5, 10], (.st Qx10 (.st Qx35 (.st Qx38 (.st (.ptr (3, 0) 8 0 0) (.st (.ptr (4, 0) 9 0 0) Qs12))))), (.box 8 Qs1 (.box 9 Qs5 (.box 8 Qs21 Qb28)))⟩
    | 4 => some ⟨[52, 6, 7, 9, 4, 5], (.dat .bool Qs22), (.box 8 Qs1 (.box 9 Qs5 (.box 8 Qs21 Qb28)))⟩
    | 1 => some ⟨[34, 6, 7, 4, 5], (.dat .bool (.st Qx10 (.st Qx35 (.st Qx38 (.st (.ptr (3, 0) 9 0 0) .nil))))), (.box 8 Qs1 (.box 9 Qs5 Qb28))⟩
    | _ => none) (fun
    | 6 => some (⟨[6, 7, 9, 4, 5], Qs22, (.box 8 Qs1 (.box 9 Qs5 (.box 8 Qs21 Qb28)))⟩, none)
    | _ => none) (fun _ => none) (fun _ _ => 0)
  | _ => {}

theorem ok76 : Abs.SpecOK Tryz.prog 76 sp76 :=
  okW (an := an76) (alc ok104 (alc ok89 (alc ok105 (alc ok106 (alc ok95 al0))))) rfl (by intro v; kernel_rfl)

def l77_0_14 (v : ((Int × Int × Int × Int × Unit) × Y19)) : Option (((Int × Int × Int × Int × Unit) × Y19) ⊕ ((Int × Int × Int × Unit) × Y19)) :=
bif (decide ((v.1.1 : Int) < v.1.2.2.2.1)) then (((bif (decide ((0 : Int) ≤ v.1.1 ∧ (v.1.1 : Int) < v.2.2.2.2.2.1.length)) then
(v.2.2.2.2.2.1[v.1.1.toNat]?).bind fun e76 =>
bif (decide ((e76 : Int) ≥ v.1.2.2.1)) then (some (((w64 (v.1.2.1 + 1)), (v.1.2.2.1, (v.1.2.2.2.1, (v.1.1, ())))), (((v.2.1.1.1, (v.2.1.1.2.1, (v.2.1.1.2.2.1, (v.2.1.1.2.2.2.1, (v.2.1.1.2.2.2.2.1, ()))))), ()), (((v.2.2.1.1.1, (v.2.2.1.1.2.1, (v.2.2.1.1.2.2.1, (v.2.2.1.1.2.2.2.1, (v.2.2.1.1.2.2.2.2.1, ()))))), ()), (v.2.2.2.1, (v.2.2.2.2.1, (v.2.2.2.2.2.1, ())))))))
else (some ((v.1.2.1, (v.1.2.2.1, (v.1.2.2.2.1, (v.1.1, ())))), (((v.2.1.1.1, (v.2.1.1.2.1, (v.2.1.1.2.2.1, (v.2.1.1.2.2.2.1, (v.2.1.1.2.2.2.2.1, ()))))), ()), (((v.2.2.1.1.1, (v.2.2.1.1.2.1, (v.2.2.1.1.2.2.1, (v.2.2.1.1.2.2.2.1, (v.2.2.1.1.2.2.2.2.1, ()))))), ()), (v.2.2.2.1, (v.2.2.2.2.1, (v.2.2.2.2.2.1, ())))))))
else none) : Option ((Int × Int × Int × Int × Unit) × Y19)).bind fun v77 =>
some (.inl (((w64 (v77.1.2.2.2.1 + 1)), (v77.1.1, (v77.1.2.1, (v77.1.2.2.1, ())))), (((v77.2.1.1.1, (v77.2.1.1.2.1, (v77.2.1.1.2.2.1, (v77.2.1.1.2.2.2.1, (v77.2.1.1.2.2.2.2.1, ()))))), ()), (((v77.2.2.1.1.1, (v77.2.2.1.1.2.1, (v77.2.2.1.1.2.2.1, (v77.2.2.1.1.2.2.2.1, (v77.2.2.1.1.2.2.2.2.1, ()))))), ()), (v77.2.2.2.1, (v77.2.2.2.2.1, (v77.2.2.2.2.2.1, ()))))))))
else (some (.inr ((v.1.2.2.1, (v.1.2.2.2.1, (v.1.2.1, ()))), (((v.2.2.1.1.1, (v.2.2.1.1.2.1, (v.2.2.1.1.2.2.1, (v.2.2.1.1.2.2.2.1, (v.2.2.1.1.2.2.2.2.1, ()))))), ()), (((v.2.1.1.1, (v.2.1.1.2.1, (v.2.1.1.2.2.1, (v.2.1.1.2.2.2.1, (v.2.1.1.2.2.2.2.1, ()))))), ()), (v.2.2.2.1, (v.2.2.2.2.1, (v.2.2.2.2.2.1, ()))))))))

def l77_0_10 (v : ((Int × Int × Unit) × Y19)) : Option (((Int × Int × Unit) × Y19) ⊕ ((Unit) × Y19)) :=
bif (decide ((v.1.1 : Int) > v.2.1.1.2.2.2.2.1)) then ((loopT l77_0_14 ((0, (0, (v.1.1, (v.1.2.1, ())))), (((v.2.1.1.1, (v.2.1.1.2.1, (v.2.1.1.2.2.1, (v.2.1.1.2.2.2.1, (v.2.1.1.2.2.2.2.1, ()))))), ()), (((v.2.2.1.1.1, (v.2.2.1.1.2.1, (v.2.2.1.1.2.2.1, (v.2.2.1.1.2.2.2.1, (v.2.2.1.1.2.2.2.2.1, ()))))), ()), (v.2.2.2.1, (v.2.2.2.2.1, (v.2.2.2.2.2.1, ()))))))).bind fun d78 =>
(((m13 ((d78.1.2.1, ()), ())).bind fun u79 =>
bif (decide ((d78.1.2.2.1 : Int) ≥ u79.1.1)) then (bif (decide ((0 : Int) ≤ (w64 (d78.1.1 - 1)) ∧ ((w64 (d78.1.1 - 1)) : Int) < d78.2.2.2.1.length)) then
(d78.2.2.2.1[(w64 (d78.1.1 - 1)).toNat]?).bind fun e80 =>
some ((((e80.1 : Int) == d78.2.2.1.1.2.1), (d78.1.1, (d78.1.2.1, ()))), (((d78.2.1.1.1, (d78.2.1.1.2.1, (d78.2.1.1.2.2.1, (d78.2.1.1.2.2.2.1, (d78.2.1.1.2.2.2.2.1, ()))))), ()), (((d78.2.2.1.1.1, (d78.2.2.1.1.2.1, (d78.2.2.1.1.2.2.1, (d78.2.2.1.1.2.2.2.1, (d78.2.2.1.1.2.2.2.2.1, ()))))), ()), (d78.2.2.2.1, (d78.2.2.2.2.1, (d78.2.2.2.2.2.1, ()))))))
else none)
else (some ((false, (d78.1.1, (d78.1.2.1, ()))), (((d78.2.1.1.1, (d78.2.1.1.2.1, (d78.2.1.1.2.2.1, (d78.2.1.1.2.2.2.1, (d78.2.1.1.2.2.2.2.1, ()))))), ()), (((d78.2.2.1.1.1, (d78.2.2.1.1.2.1, (d78.2.2.1.1.2.2.1, (d78.2.2.1.1.2.2.2.1, (d78.2.2.1.1.2.2.2.2.1, ()))))), ()), (d78.2.2.2.1, (d78.2.2.2.2.1, (d78.2.2.2.2.2.1, ())))))))) : Option ((Bool × Int × Int × Unit) × Y19)).bind fun v81 =>
bif v81.1.1 then (some (.inr ((), (((v81.2.1.1.1, (v81.2.1.1.2.1, (v81.2.1.1.2.2.1, (v81.2.1.1.2.2.2.1, (v81.2.1.1.2.2.2.2.1, ()))))), ()), (((v81.2.2.1.1.1, (v81.2.2.1.1.2.1, (v81.2.2.1.1.2.2.1, (v81.2.2.1.1.2.2.2.1, (v81.1.2.1, ()))))), ()), (v81.2.2.2.1, (v81.2.2.2.2.1, (v81.2.2.2.2.2.1, ()))))))))
else (some (.inl (((w64 (v81.1.2.1 - 1)), (v81.1.2.2.1, ())), (((v81.2.2.1.1.1, (v81.2.2.1.1.2.1, (v81.2.2.1.1.2.2.1, (v81.2.2.1.1.2.2.2.1, (v81.2.2.1.1.2.2.2.2.1, ()))))), ()), (((v81.2.1.1.1, (v81.2.1.1.2.1, (v81.2.1.1.2.2.1, (v81.2.1.1.2.2.2.1, (v81.2.1.1.2.2.2.2.1, ()))))), ()), (v81.2.2.2.1, (v81.2.2.2.2.1, (v81.2.2.2.2.2.1, ())))))))))
else (some (.inr ((), (((v.2.2.1.1.1, (v.2.2.1.1.2.1, (v.2.2.1.1.2.2.1, (v.2.2.1.1.2.2.2.1, (v.2.2.1.1.2.2.2.2.1, ()))))), ()), (((v.2.1.1.1, (v.2.1.1.2.1, (v.2.1.1.2.2.1, (v.2.1.1.2.2.2.1, (v.2.1.1.2.2.2.2.1, ()))))), ()), (v.2.2.2.1, (v.2.2.2.2.1, (v.2.2.2.2.2.1, ()))))))))

/- pagewatch/pagewatchref33.Appended -/
def i77 : Abs.Sg := ⟨[0, 1, 2], Qs30, .nil⟩

def o77 : Abs.Sg := ⟨[6], (.st Qx10 .nil), Qb14⟩

def m77 (v : ((Int × Y8 × Y9 × Unit) × (Unit))) : Option ((Unit) × ((Y8 × Unit) × Unit)) :=
(m89 ((v.1.2.1, ()), ())).bind fun u68 =>
(m104 ((v.1.1, (v.1.2.1, (v.1.2.2.1, (4, ())))), ())).bind fun u69 =>
bif (!u69.1.1) then (some ((), (((u68.2.1.1.1, (u68.2.1.1.2.1, (u68.2.1.1.2.2.1, (u68.2.1.1.2.2.2.1, (u68.2.2.1, (u68.2.1.1.2.2.2.2.1, (u68.2.2.2.1, (u68.2.2.2.2.1, ())))))))), ()), ())))
else (let x70 := (decide ((v.1.2.2.1.2.2.2.1 : Int) > v.1.2.1.2.1))
bif x70 then ((m105 (((u68.2.1.1.1, (u68.2.1.1.2.1, (u68.2.1.1.2.2.1, (u68.2.1.1.2.2.2.1, (u68.2.2.1, (u68.2.1.1.2.2.2.2.1, (u68.2.2.2.1, (u68.2.2.2.2.1, ())))))))), (v.1.2.2.1.2.2.2.1, ())), ())).bind fun u71 =>
some ((), ((u71.2.1.1, ()), ())))
else (((bif ((v.1.2.1.2.2.2.1 : Int) != 2) then (some ((true, (v.1.1, ())), (((0, (0, (0, (0, (0, ()))))), ()), (((u68.2.1.1.1, (u68.2.1.1.2.1, (u68.2.1.1.2.2.1, (u68.2.1.1.2.2.2.1, (u68.2.1.1.2.2.2.2.1, ()))))), ()), ((v.1.2.2.1, ()), (u68.2.2.1, (u68.2.2.2.1, (u68.2.2.2.2.1, ()))))))))
else (bif ((v.1.2.2.1.2.2.2.1 : Int) != v.1.2.1.2.1) then (some ((true, (v.1.1, ())), (((0, (0, (0, (0, (0, ()))))), ()), (((u68.2.1.1.1, (u68.2.1.1.2.1, (u68.2.1.1.2.2.1, (u68.2.1.1.2.2.2.1, (u68.2.1.1.2.2.2.2.1, ()))))), ()), ((v.1.2.2.1, ()), (u68.2.2.1, (u68.2.2.2.1, (u68.2.2.2.2.1, ()))))))))
else (bif (!v.1.2.2.1.2.2.2.2.2.2.2.2.1) then (some ((true, (v.1.1, ())), (((0, (0, (0, (0, (0, ()))))), ()), (((u68.2.1.1.1, (u68.2.1.1.2.1, (u68.2.1.1.2.2.1, (u68.2.1.1.2.2.2.1, (u68.2.1.1.2.2.2.2.1, ()))))), ()), ((v.1.2.2.1, ()), (u68.2.2.1, (u68.2.2.2.1, (u68.2.2.2.2.1, ()))))))))
else ((m54 ((v.1.2.2.1.2.2.2.2.1, (0, ((v.1.2.1.2.2.2.2.1.length : Int), ()))), ())).bind fun u72 =>
some (((!u72.1.1), (v.1.1, ())), (((0, (0, (0, (0, (0, ()))))), ()), (((u68.2.1.1.1, (u68.2.1.1.2.1, (u68.2.1.1.2.2.1, (u68.2.1.1.2.2.2.1, (u68.2.1.1.2.2.2.2.1, ()))))), ()), ((v.1.2.2.1, ()), (u68.2.2.1, (u68.2.2.2.1, (u68.2.2.2.2.1, ()))))))))))) : Option ((Bool × Int × Unit) × (Y12 × Y12 × (Y9 × Unit) × Y2 × (List Bool) × (List Int) × Unit))).bind fun v73 =>
bif v73.1.1 then (some ((), (((v73.2.2.1.1.1, (v73.2.2.1.1.2.1, (v73.2.2.1.1.2.2.1, (v73.2.2.1.1.2.2.2.1, (v73.2.2.2.2.1, (v73.2.2.1.1.2.2.2.2.1, (v73.2.2.2.2.2.1, (v73.2.2.2.2.2.2.1, ())))))))), ()), ())))
else (bif (decide ((0 : Int) ≤ v73.2.2.2.1.1.2.1 ∧ (v73.2.2.2.1.1.2.1 : Int) < v73.2.2.2.2.2.2.1.length)) then
(v73.2.2.2.2.2.2.1[v73.2.2.2.1.1.2.1.toNat]?).bind fun e74 =>
let x75 := (if (v73.2.2.2.1.1.2.2.2.2.1 : Int) > e74 then v73.2.2.2.1.1.2.2.2.2.1 else e74)
bif (decide ((0 : Int) ≤ v73.2.2.2.1.1.2.1 ∧ (v73.2.2.2.1.1.2.1 : Int) < v73.2.2.2.2.2.2.1.length)) then
bif (decide (v73.2.2.2.1.1.2.1.toNat < v73.2.2.2.2.2.2.1.length)) then
(loopT l77_0_10 ((((v73.2.2.2.2.1.length : Nat) : Int), (v73.1.2.1, ())), (((v73.2.2.1.1.1, (v73.2.2.1.1.2.1, (v73.2.2.1.1.2.2.1, (v73.2.2.1.1.2.2.2.1, (v73.2.2.1.1.2.2.2.2.1, ()))))), ()), (((v73.2.1.1.1, (v73.2.1.1.2.1, (v73.2.1.1.2.2.1, (v73.2.1.1.2.2.2.1, (v73.2.1.1.2.2.2.2.1, ()))))), ()), (v73.2.2.2.2.1, (v73.2.2.2.2.2.1, ((v73.2.2.2.2.2.2.1.set v73.2.2.2.1.1.2.1.toNat x75), ()))))))).bind fun d82 =>
some ((), (((d82.2.2.1.1.1, (d82.2.2.1.1.2.1, (d82.2.2.1.1.2.2.1, (d82.2.2.1.1.2.2.2.1, (d82.2.2.2.1, (d82.2.2.1.1.2.2.2.2.1, (d82.2.2.2.2.1, (d82.2.2.2.2.2.1, ())))))))), ()), ()))
else none
else none
else none)))

def sp77 : Abs.Spec := ⟨0, i77, o77, m77⟩

def an77 : Nat → Abs.FAn
  | 0 => Abs.FAn.mk (fun
    | 18 => some ⟨[105, 6, 7, 8, 0], (.dat .bool (.st Qx10 (.st Qx20 Qs13))), (.box 8 Qs1 (.box 8 Qs4 Qb8))⟩
    | 6 => some ⟨[51, 6, 7, 0, 5], Qs32, Qb16⟩
    | _ => none) (fun
    | 15 => some (⟨[9, 8, 7, 6, 0, 10], (.dat (.int .i64) (.dat (.int .i64) (.st Qx10 (.st Qx20 Qs13)))), Qb40⟩, none)
    | _ => none) (fun
    | 10 => some ⟨⟨[8, 7, 6, 0], (.dat (.int .i64) (.st Qx10 (.st Qx20 Qs3))), Qb40⟩, (.one (.exit 0) ⟨[6, 7], Qs41, (.box 8 Qs1 (.box 8 Qs4 Qb8))⟩)⟩
    | 14 => some ⟨⟨[10, 9, 8, 7, 6, 0], (.dat (.int .i64) (.dat (.int .i64) (.dat (.int .i64) (.st Qx10 (.st Qx20 Qs3))))), Qb40⟩, (.one (.exit 2) ⟨[6, 7, 8, 0, 9], (.st Qx10 (.st Qx20 (.dat (.int .i64) Qs13))), (.box 8 Qs1 (.box 8 Qs4 Qb8))⟩)⟩
    | _ => none) (fun _ _ => 0)
  | _ => {}

theorem ok77 : Abs.SpecOK Tryz.prog 77 sp77 :=
  okW (an := an77) (alc ok89 (alc ok104 (alc ok105 (alc ok54 (alc ok13 al0))))) rfl (by intro v; kernel_rfl)

/- pagewatch/pagewatchref34.Deliver -/

end
end Go.Proofs.YtfbikpbejkgegaaGreat
