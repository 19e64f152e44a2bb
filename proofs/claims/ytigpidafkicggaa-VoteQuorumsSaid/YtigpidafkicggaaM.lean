/- What each function makes of typed values. -/
import Derived.Test.YtigpidafkicggaaChecked
import Derived.Test.YtigpidafkicggaaPxL
import Derived.ProofKit
namespace Go.Proofs.Ytigpidafkicggaa
open Go Go.Abs
noncomputable section
def note : FuncId → Abs.Note
  | 2 => ⟨true, [], false, fun _ => []⟩
  | 3 => ⟨true, [0, 2, 3, 4, 5, 6, 7, 8, 9, 10, 11, 13, 14, 16, 17, 18, 19, 22, 32, 103, 104, 105, 106, 107, 113, 157], false, fun | 10 => [(1, 10), (4, 10), (6, 10), (9, 10), (1, 11), (4, 11), (6, 11), (9, 11), (10, 11), (6, 12), (9, 12)] | 11 => [(0, 5), (2, 5), (5, 7), (6, 7), (5, 9), (6, 9), (5, 11), (6, 11), (7, 12), (9, 12)] | 13 => [(3, 8), (5, 8)] | _ => []⟩
  | 4 => ⟨true, [0, 1, 2, 3, 5, 8, 9, 10, 11, 12, 14, 16, 17, 18, 19, 20, 21, 22, 24, 25, 26, 27, 28, 29, 30, 31, 32, 33, 34, 43, 63, 64, 65, 66, 73, 74, 75, 76, 92, 121, 131, 132, 133, 134, 194, 216], false, fun | 6 => [(1, 4), (1, 7), (4, 7), (6, 7)] | 7 => [(0, 3)] | 13 => [(2, 4)] | 19 => [(3, 5), (3, 8), (7, 8)] | 24 => [(19, 21), (19, 22), (33, 34), (33, 36), (33, 38)] | _ => []⟩
  | 5 => ⟨true, [0, 2, 3, 4, 5, 6, 7, 8, 9, 11, 13, 14, 15, 16, 17, 18, 19, 20, 23, 32, 35, 40, 41, 50, 59, 63, 82, 103, 109, 128], false, fun _ => []⟩
  | 6 => ⟨true, [0, 1, 2, 6, 7, 8, 9, 10, 11, 12, 13, 14, 23, 38, 41, 47], false, fun _ => []⟩
  | 7 => ⟨true, [0, 2, 3, 4, 5, 6, 7, 8, 9, 10, 11, 12, 13, 14, 15, 16, 17, 18, 19, 20, 21, 22, 23, 26, 35, 45, 52, 65, 77, 95, 113, 116, 132, 153, 166], false, fun | 23 => [(2, 5)] | 32 => [(4, 11), (5, 11), (6, 11), (4, 12), (5, 12), (6, 12), (11, 12)] | _ => []⟩
  | 8 => ⟨true, [0, 2], false, fun _ => []⟩
  | 9 => ⟨true, [0, 1, 2, 3, 4, 5, 6, 7, 8, 37], false, fun | 6 => [(0, 9), (3, 9), (4, 9)] | _ => []⟩
  | 10 => ⟨true, [0, 2], false, fun _ => []⟩
  | 11 => ⟨true, [0, 1, 4, 5, 7, 17, 33], false, fun | 3 => [(0, 5)] | _ => []⟩
  | 12 => ⟨true, [0, 1, 4, 5, 19, 40], false, fun _ => []⟩
  | 13 => ⟨true, [0, 1, 2, 3, 6], false, fun _ => []⟩
  | 14 => ⟨true, [0, 1, 2, 6], false, fun _ => []⟩
  | 15 => ⟨true, [0, 1, 3, 4, 5, 6, 7, 8, 12, 16, 37, 38, 39, 44], false, fun | 7 => [(1, 3), (3, 5), (3, 7)] | 14 => [(2, 10), (5, 10), (7, 10)] | _ => []⟩
  | 16 => ⟨true, [0, 1, 2, 4, 5, 6, 7, 8, 9, 16, 53], false, fun | 8 => [(2, 9), (4, 9), (6, 9)] | _ => []⟩
  | 17 => ⟨true, [0, 1, 3, 4, 5, 9, 10, 16, 22, 28, 34, 50, 63, 70, 77, 82], false, fun | 12 => [(1, 8), (1, 9), (1, 11)] | 21 => [(1, 6), (1, 8)] | _ => []⟩
  | 18 => ⟨true, [0, 1, 3, 4, 34, 36, 37, 49, 60], false, fun _ => []⟩
  | 19 => ⟨true, [0, 1, 3, 4, 5, 47, 49, 50, 62, 83, 117, 120, 132], false, fun _ => []⟩
  | 20 => ⟨true, [0, 2, 5], false, fun _ => []⟩
  | 21 => ⟨true, [0, 2, 5], false, fun _ => []⟩
  | 22 => ⟨true, [0, 1, 3, 4, 5, 6, 7, 8, 9, 13, 17, 40, 46, 52], false, fun | 6 => [(4, 6), (4, 8)] | 16 => [(2, 10), (5, 10), (7, 10)] | _ => []⟩
  | 23 => ⟨true, [0, 1, 2, 3, 4, 5, 12, 17, 30], false, fun _ => []⟩
  | 24 => ⟨true, [0, 1, 4, 5, 10, 14, 26], false, fun _ => []⟩
  | 25 => ⟨true, [0, 1, 2, 4, 6], false, fun | 1 => [(2, 14), (3, 14), (4, 14), (8, 14), (10, 14), (2, 16), (3, 16), (4, 16), (8, 16), (10, 16), (2, 17), (3, 17), (4, 17), (8, 17), (10, 17), (2, 21), (3, 21), (4, 21), (8, 21), (10, 21), (17, 21), (18, 21), (2, 23), (3, 23), (4, 23), (8, 23), (10, 23), (17, 23), (18, 23), (2, 25), (3, 25), (4, 25), (8, 25), (10, 25), (17, 25), (18, 25), (2, 28), (3, 28), (4, 28), (8, 28), (10, 28), (17, 28), (18, 28), (2, 30), (3, 30), (4, 30), (8, 30), (10, 30), (14, 30), (16, 30), (17, 30), (18, 30), (2, 34), (3, 34), (4, 34), (8, 34), (10, 34), (17, 34), (18, 34), (30, 34), (31, 34), (2, 37), (3, 37), (4, 37), (8, 37), (10, 37), (17, 37), (18, 37), (30, 37), (31, 37), (2, 40), (3, 40), (4, 40), (8, 40), (10, 40), (14, 40), (16, 40), (17, 40), (18, 40), (21, 40), (23, 40), (25, 40), (28, 40), (30, 40), (31, 40), (2, 43), (3, 43), (4, 43), (8, 43), (10, 43), (17, 43), (18, 43), (30, 43), (31, 43), (40, 43), (41, 43), (2, 46), (3, 46), (4, 46), (8, 46), (10, 46), (17, 46), (18, 46), (30, 46), (31, 46), (40, 46), (41, 46), (44, 46)] | _ => []⟩
  | 26 => ⟨true, [0, 1, 2, 4, 5, 6, 7, 8, 9, 10, 15, 54], false, fun | 3 => [(1, 3), (0, 5), (1, 5), (3, 5), (4, 5)] | 7 => [(2, 9), (4, 9), (6, 9)] | _ => []⟩
  | 27 => ⟨true, [0, 1, 2, 3, 4], false, fun _ => []⟩
  | 28 => ⟨true, [0, 1, 2, 4, 5, 6, 13, 19, 38], false, fun _ => []⟩
  | 29 => ⟨true, [0, 1, 2, 4, 5, 6, 7, 8, 9, 16, 22, 41, 50, 57, 63], false, fun _ => []⟩
  | 30 => ⟨true, [0, 1, 2, 3, 6], false, fun _ => []⟩
  | 31 => ⟨true, [0, 1, 4, 5, 15], false, fun _ => []⟩
  | 32 => ⟨true, [0, 1, 4, 5, 15], false, fun _ => []⟩
  | 33 => ⟨true, [0, 1, 4], false, fun _ => []⟩
  | 34 => ⟨true, [0, 2, 3, 4, 5, 6, 10, 17], false, fun _ => []⟩
  | 35 => ⟨true, [0, 1, 2, 4, 5, 6, 7, 8, 13, 26, 41], false, fun _ => []⟩
  | 36 => ⟨true, [0, 1, 3, 4, 5, 6, 7, 8, 9, 10, 26, 35, 38, 39, 47, 60, 69, 82, 90, 98, 106, 118, 124, 137], false, fun | 14 => [(0, 3)] | 32 => [(0, 5)] | 36 => [(0, 6)] | _ => []⟩
  | 37 => ⟨true, [0, 1, 2, 6], false, fun _ => []⟩
  | 38 => ⟨true, [0, 1, 2], false, fun | 1 => [(2, 4), (2, 7), (5, 7)] | _ => []⟩
  | 39 => ⟨true, [0, 1, 3, 4, 5, 7, 9, 10, 11, 12, 15, 22], false, fun | 9 => [(1, 3)] | _ => []⟩
  | 40 => ⟨true, [0, 1, 2, 3, 5, 6, 8], false, fun _ => []⟩
  | 41 => ⟨true, [0, 1, 2, 4, 9], false, fun _ => []⟩
  | 42 => ⟨true, [0, 1, 2], false, fun | 1 => [(2, 4), (2, 7), (5, 7)] | _ => []⟩
  | 43 => ⟨true, [0, 1, 2, 6], false, fun _ => []⟩
  | 44 => ⟨true, [0, 1, 2, 3, 5, 7, 8, 9, 10, 19], false, fun _ => []⟩
  | 45 => ⟨true, [0, 1, 3, 4], false, fun _ => []⟩
  | 46 => ⟨true, [0, 1, 3, 4], false, fun _ => []⟩
  | 47 => ⟨true, [0, 1, 2, 6], false, fun _ => []⟩
  | 48 => ⟨true, [0, 1, 4, 5, 6, 10, 28], false, fun _ => []⟩
  | 49 => ⟨true, [0, 1, 3, 4], false, fun | 1 => [(1, 3)] | _ => []⟩
  | 50 => ⟨true, [0, 1, 4, 5, 10, 14, 25], false, fun _ => []⟩
  | 51 => ⟨true, [0, 1, 4, 5, 10, 14, 25], false, fun _ => []⟩
  | 52 => ⟨true, [0, 1, 2, 3, 5, 6, 8], false, fun _ => []⟩
  | 53 => ⟨true, [0, 1, 2, 4, 8], false, fun _ => []⟩
  | 54 => ⟨true, [0, 1, 2, 4, 5, 9], false, fun _ => []⟩
  | 55 => ⟨true, [0, 1, 2, 3, 4, 5, 6, 11, 29], false, fun | 5 => [(1, 7), (1, 8)] | 12 => [(2, 4)] | _ => []⟩
  | 56 => ⟨true, [0, 1, 2, 4, 5, 6, 7, 8, 9, 10, 15, 22, 40, 49], false, fun | 7 => [(1, 13), (4, 13), (7, 13), (8, 13)] | 12 => [(1, 7), (3, 7)] | _ => []⟩
  | 57 => ⟨true, [0, 1, 2, 3, 4, 8, 15], false, fun _ => []⟩
  | 58 => ⟨true, [0, 1, 2, 4, 5, 6, 7, 8, 13, 20, 28, 47], false, fun _ => []⟩
  | 59 => ⟨true, [0, 1, 2, 3, 4, 5, 6, 7, 16, 49], false, fun _ => []⟩
  | 60 => ⟨true, [0, 1, 2, 3, 5, 6, 7, 8, 9, 10, 11, 16, 23, 41], false, fun | 7 => [(1, 13), (4, 13), (7, 13), (8, 13), (9, 13)] | _ => []⟩
  | 61 => ⟨true, [0, 1, 2, 4, 5, 6, 7, 8, 9, 10, 11, 12, 20, 43, 55, 56, 66, 72, 82, 94], false, fun | 7 => [(1, 9), (4, 9), (6, 9), (8, 9)] | _ => []⟩
  | 62 => ⟨true, [0, 1, 2, 4, 5, 6, 7, 12], false, fun | 5 => [(4, 6)] | _ => []⟩
  | 63 => ⟨true, [0, 1, 2, 4, 5, 6, 7, 12, 18], false, fun | 7 => [(1, 3), (1, 8)] | _ => []⟩
  | 64 => ⟨true, [0, 1, 2, 4, 5, 6, 7, 12, 19], false, fun _ => []⟩
  | 65 => ⟨true, [0, 1, 2, 4, 5, 6, 7, 12, 20], false, fun | 8 => [(1, 11)] | _ => []⟩
  | 66 => ⟨true, [0, 1, 2, 3, 6], false, fun _ => []⟩
  | 67 => ⟨true, [0, 1, 2, 3, 6, 7, 8, 9, 14, 17, 26, 31], false, fun _ => []⟩
  | 68 => ⟨true, [0, 2, 4], false, fun _ => []⟩
  | 69 => ⟨true, [0, 2, 4], false, fun _ => []⟩
  | 70 => ⟨true, [0, 2, 4], false, fun _ => []⟩
  | 71 => ⟨true, [0, 1, 4], false, fun _ => []⟩
  | 72 => ⟨true, [0, 1, 3], true, fun _ => []⟩
  | 73 => ⟨true, [0, 1, 2, 3, 4, 5, 6, 7, 8, 27, 30, 50, 55, 83, 88, 122], false, fun _ => []⟩
  | 74 => ⟨true, [0, 1, 3, 4, 5, 6, 7, 8, 17, 20, 26, 47], false, fun | 9 => [(1, 12), (4, 12), (7, 12), (1, 14), (4, 14), (7, 14), (9, 14), (12, 14)] | _ => []⟩
  | 75 => ⟨true, [0, 1, 2, 4, 5, 6, 7, 8, 9, 13, 17, 23, 35, 40, 63], false, fun _ => []⟩
  | 76 => ⟨true, [0, 1, 2, 6, 7, 11, 25], false, fun _ => []⟩
  | 77 => ⟨true, [0, 1, 2, 4, 5, 6, 7, 8, 9, 10, 11, 12, 13, 14, 34, 52, 99, 122], false, fun | 3 => [(1, 3), (0, 5), (1, 5), (3, 5), (4, 5)] | 9 => [(1, 2)] | 17 => [(1, 2)] | _ => []⟩
  | 78 => ⟨true, [0, 1, 2, 4, 5, 6, 7, 8, 9, 10, 17, 23, 51, 73, 78, 87, 105], false, fun _ => []⟩
  | 79 => ⟨true, [0, 1, 2, 4, 5, 9], false, fun _ => []⟩
  | 80 => ⟨true, [0, 1, 3, 4, 5, 6, 10], false, fun _ => []⟩
  | 81 => ⟨true, [0, 1, 4, 5, 7, 8, 9, 16], false, fun _ => []⟩
  | 82 => ⟨true, [0, 1, 2, 6, 7, 8, 9, 13, 35], false, fun _ => []⟩
  | _ => ⟨false, [], false, fun _ => []⟩

theorem good : Abs.Good Try.prog note := Abs.good_of (by kernel_rfl)
theorem foll : (Try.prog).follows .mixedOrders = true := by kernel_rfl

/- pagewatch/vote.in -/
def i43 : Abs.Sg := ⟨[0, 1, 2], (.dat (.int .i64) (.dat (.int .i64) (.dat (.int .i64) .nil))), .nil⟩
def o43 : Abs.Sg := ⟨[6], (.dat .bool .nil), .nil⟩
def m43 (v : ((Int × Int × Int × Unit) × (Unit))) : Option ((Bool × Unit) × (Unit)) :=
((bif (decide ((v.1.1 : Int) ≥ v.1.2.1)) then (some (((decide ((v.1.1 : Int) ≤ v.1.2.2.1)), ()), ()))
else (some ((false, ()), ()))) : Option ((Bool × Unit) × (Unit))).bind fun v1 =>
some ((v1.1.1, ()), ())
def sp43 : Abs.Spec := ⟨0, i43, o43, m43⟩
def an43 : Nat → Abs.FAn
  | 0 => Abs.FAn.mk (fun
    | 1 => some ⟨[6], (.dat .bool .nil), .nil⟩
    | _ => none) (fun _ => none) (fun _ => none) (fun _ _ => 0)
  | _ => {}
theorem ok43 : Abs.SpecOK Try.prog 43 sp43 :=
  Abs.specOK_of (n := 12) (an := an43) (T := Abs.tabOf []) good foll (Abs.tabOf_ok _ (fun _ h => by cases h)) rfl (by intro v; kernel_rfl)

/- pagewatch/vote.Quorum -/
def i20 : Abs.Sg := ⟨[0], (.dat (.int .i64) .nil), .nil⟩
def o20 : Abs.Sg := ⟨[2], (.dat (.int .i64) .nil), .nil⟩
def m20 (v : ((Int × Unit) × (Unit))) : Option ((Int × Unit) × (Unit)) :=
(m43 ((v.1.1, (1, (5, ()))), ())).bind fun u4 =>
bif (!u4.1.1) then (some ((0, ()), ()))
else (some (((w64 ((w64 ((v.1.1 : Int).tdiv 2)) + 1)), ()), ()))
def sp20 : Abs.Spec := ⟨0, i20, o20, m20⟩
def an20 : Nat → Abs.FAn
  | _ => {}
theorem ok20 : Abs.SpecOK Try.prog 20 sp20 :=
  Abs.specOK_of (n := 12) (an := an20) (T := Abs.tabOf [(43, sp43)]) good foll (Abs.tabOf_ok _ (by simp only [List.forall_mem_cons]; exact ⟨ok43, fun _ h => by cases h⟩)) rfl (by intro v; kernel_rfl)

/- pagewatch/vote.New -/
def i31 : Abs.Sg := ⟨[0, 1], (.dat (.int .i64) (.dat (.int .i64) .nil)), .nil⟩
def o31 : Abs.Sg := ⟨[4, 5], (.st (.ptr (0, 0) 8 0 0) (.dat (.int .i64) .nil)), (.box 8 (.agg (.dat (.int .i64) (.dat (.int .i64) (.dat (.int .i64) (.dat (.int .i64) (.st .nil (.dat (.int .i64) (.st .nil (.st .nil .nil)))))))) .nil) .nil)⟩
def m31 (v : ((Int × Int × Unit) × (Unit))) : Option ((Int × Unit) × (((Int × Int × Int × Int × Int × Unit) × Unit) × Unit)) :=
(((m43 ((v.1.2.1, (1, (5, ()))), ())).bind fun u11 =>
bif (!u11.1.1) then (some ((true, (v.1.1, ())), (((0, (0, (0, (0, (0, ()))))), ()), ())))
else ((m43 ((v.1.1, (0, ((w64 (v.1.2.1 - 1)), ()))), ())).bind fun u12 =>
some (((!u12.1.1), (v.1.1, ())), (((0, (0, (0, (0, (0, ()))))), ()), ())))) : Option ((Bool × Int × Unit) × (((Int × Int × Int × Int × Int × Unit) × Unit) × Unit))).bind fun v13 =>
bif v13.1.1 then (some ((1, ()), (((0, (0, (0, (0, (0, ()))))), ()), ())))
else (some ((0, ()), (((v13.1.2.1, (0, ((-1), (0, (0, ()))))), ()), ())))
def sp31 : Abs.Spec := ⟨0, i31, o31, m31⟩
def an31 : Nat → Abs.FAn
  | 0 => Abs.FAn.mk (fun
    | 1 => some ⟨[15, 4, 0], (.dat .bool (.st (.ptr (0, 0) 8 0 0) (.dat (.int .i64) .nil))), (.box 8 (.agg (.dat (.int .i64) (.dat (.int .i64) (.dat (.int .i64) (.dat (.int .i64) (.st .nil (.dat (.int .i64) (.st .nil (.st .nil .nil)))))))) .nil) .nil)⟩
    | _ => none) (fun _ => none) (fun _ => none) (fun _ _ => 0)
  | _ => {}
theorem ok31 : Abs.SpecOK Try.prog 31 sp31 :=
  Abs.specOK_of (n := 12) (an := an31) (T := Abs.tabOf [(43, sp43)]) good foll (Abs.tabOf_ok _ (by simp only [List.forall_mem_cons]; exact ⟨ok43, fun _ h => by cases h⟩)) rfl (by intro v; kernel_rfl)

def l44_0_3 (v : ((Int × Int × (List (Int × (Int × Int × Int × Int × Int × Int × Int × Int × Int × (Int × Int × Int × Int × Int × Int × Unit) × (Int × Int × Int × Int × Int × Unit) × Unit) × Unit)) × Int × Unit) × (((Int × Int × Int × Int × (List (Int × (Int × Int × Int × Int × Int × Int × Int × Int × Int × (Int × Int × Int × Int × Int × Int × Unit) × (Int × Int × Int × Int × Int × Unit) × Unit) × Unit)) × Int × (List Bool) × (List Int) × Unit) × Unit) × Unit))) : Option (((Int × Int × (List (Int × (Int × Int × Int × Int × Int × Int × Int × Int × Int × (Int × Int × Int × Int × Int × Int × Unit) × (Int × Int × Int × Int × Int × Unit) × Unit) × Unit)) × Int × Unit) × (((Int × Int × Int × Int × (List (Int × (Int × Int × Int × Int × Int × Int × Int × Int × Int × (Int × Int × Int × Int × Int × Int × Unit) × (Int × Int × Int × Int × Int × Unit) × Unit) × Unit)) × Int × (List Bool) × (List Int) × Unit) × Unit) × Unit)) ⊕ (((Bool × Unit) × (Unit)) ⊕ ((Unit) × (((Int × Int × Int × Int × (List (Int × (Int × Int × Int × Int × Int × Int × Int × Int × Int × (Int × Int × Int × Int × Int × Int × Unit) × (Int × Int × Int × Int × Int × Unit) × Unit) × Unit)) × Int × (List Bool) × (List Int) × Unit) × Unit) × Unit)))) :=
bif (decide ((v.1.1 : Int) < v.1.2.2.2.1)) then (Abs.rowAt v.1.2.2.1 v.1.1 fun e25 _ =>
(m43 ((e25.1, (v.1.2.1, (v.2.1.1.2.1, ()))), ())).bind fun u26 =>
bif (!u26.1.1) then (some (.inr (.inl ((false, ()), ()))))
else (some (.inl (((w64 (v.1.1 + 1)), (e25.1, (v.1.2.2.1, (v.1.2.2.2.1, ())))), ((v.2.1.1, ()), ())))))
else (some (.inr (.inr ((), ((v.2.1.1, ()), ())))))

/- pagewatch/vote.logged -/
def i44 : Abs.Sg := ⟨[0], (.dat (.cons (.int .i64) (.cons (.int .i64) (.cons (.int .i64) (.cons (.int .i64) (.cons (.row (.cons (.int .i64) (.cons (.cons (.int .i64) (.cons (.int .i64) (.cons (.int .i64) (.cons (.int .i64) (.cons (.int .i64) (.cons (.int .i64) (.cons (.int .i64) (.cons (.int .i64) (.cons (.int .i64) (.cons (.cons (.int .i64) (.cons (.int .i64) (.cons (.int .i64) (.cons (.int .i64) (.cons (.int .i64) (.cons (.int .i64) .unit)))))) (.cons (.cons (.int .i64) (.cons (.int .i64) (.cons (.int .i64) (.cons (.int .i64) (.cons (.int .i64) .unit))))) .unit))))))))))) .unit))) (.cons (.int .i64) (.cons (.row .bool) (.cons (.row (.int .i64)) .unit)))))))) .nil), .nil⟩
def o44 : Abs.Sg := ⟨[2], (.dat .bool .nil), .nil⟩
def m44 (v : (((Int × Int × Int × Int × (List (Int × (Int × Int × Int × Int × Int × Int × Int × Int × Int × (Int × Int × Int × Int × Int × Int × Unit) × (Int × Int × Int × Int × Int × Unit) × Unit) × Unit)) × Int × (List Bool) × (List Int) × Unit) × Unit) × (Unit))) : Option ((Bool × Unit) × (Unit)) :=
(loopT l44_0_3 ((0, (1, (v.1.1.2.2.2.2.1, ((v.1.1.2.2.2.2.1.length : Int), ())))), ((v.1.1, ()), ()))).bind fun d27 =>
sumE d27 (fun d28 => (some ((d28.1.1, ()), ()))) (fun d29 => (((let x30 := (decide (((d29.2.1.1.2.2.2.2.1.length : Int) : Int) ≤ 256))
bif x30 then ((m43 ((d29.2.1.1.2.2.2.2.2.1, (0, ((d29.2.1.1.2.2.2.2.1.length : Int), ()))), ())).bind fun u31 =>
some ((u31.1.1, ()), ()))
else (some ((false, ()), ()))) : Option ((Bool × Unit) × (Unit))).bind fun v32 =>
some ((v32.1.1, ()), ())))
def sp44 : Abs.Spec := ⟨0, i44, o44, m44⟩
def an44 : Nat → Abs.FAn
  | 0 => Abs.FAn.mk (fun
    | 9 => some ⟨[2], (.dat .bool .nil), .nil⟩
    | _ => none) (fun _ => none) (fun
    | 3 => some ⟨⟨[9, 1, 3, 7, 8], (.dat (.int .i64) (.st (.ptr (0, 0) 8 0 0) (.dat (.int .i64) (.dat (.row (.cons (.int .i64) (.cons (.cons (.int .i64) (.cons (.int .i64) (.cons (.int .i64) (.cons (.int .i64) (.cons (.int .i64) (.cons (.int .i64) (.cons (.int .i64) (.cons (.int .i64) (.cons (.int .i64) (.cons (.cons (.int .i64) (.cons (.int .i64) (.cons (.int .i64) (.cons (.int .i64) (.cons (.int .i64) (.cons (.int .i64) .unit)))))) (.cons (.cons (.int .i64) (.cons (.int .i64) (.cons (.int .i64) (.cons (.int .i64) (.cons (.int .i64) .unit))))) .unit))))))))))) .unit))) (.dat (.int .i64) .nil))))), (.box 8 (.dat (.cons (.int .i64) (.cons (.int .i64) (.cons (.int .i64) (.cons (.int .i64) (.cons (.row (.cons (.int .i64) (.cons (.cons (.int .i64) (.cons (.int .i64) (.cons (.int .i64) (.cons (.int .i64) (.cons (.int .i64) (.cons (.int .i64) (.cons (.int .i64) (.cons (.int .i64) (.cons (.int .i64) (.cons (.cons (.int .i64) (.cons (.int .i64) (.cons (.int .i64) (.cons (.int .i64) (.cons (.int .i64) (.cons (.int .i64) .unit)))))) (.cons (.cons (.int .i64) (.cons (.int .i64) (.cons (.int .i64) (.cons (.int .i64) (.cons (.int .i64) .unit))))) .unit))))))))))) .unit))) (.cons (.int .i64) (.cons (.row .bool) (.cons (.row (.int .i64)) .unit)))))))) .nil) .nil)⟩, (.more .ret ⟨[2], (.dat .bool .nil), .nil⟩ (.one (.exit 0) ⟨[1], (.st (.ptr (0, 0) 8 0 0) .nil), (.box 8 (.dat (.cons (.int .i64) (.cons (.int .i64) (.cons (.int .i64) (.cons (.int .i64) (.cons (.row (.cons (.int .i64) (.cons (.cons (.int .i64) (.cons (.int .i64) (.cons (.int .i64) (.cons (.int .i64) (.cons (.int .i64) (.cons (.int .i64) (.cons (.int .i64) (.cons (.int .i64) (.cons (.int .i64) (.cons (.cons (.int .i64) (.cons (.int .i64) (.cons (.int .i64) (.cons (.int .i64) (.cons (.int .i64) (.cons (.int .i64) .unit)))))) (.cons (.cons (.int .i64) (.cons (.int .i64) (.cons (.int .i64) (.cons (.int .i64) (.cons (.int .i64) .unit))))) .unit))))))))))) .unit))) (.cons (.int .i64) (.cons (.row .bool) (.cons (.row (.int .i64)) .unit)))))))) .nil) .nil)⟩))⟩
    | _ => none) (fun _ _ => 0)
  | _ => {}
theorem ok44 : Abs.SpecOK Try.prog 44 sp44 :=
  Abs.specOK_of (n := 12) (an := an44) (T := Abs.tabOf [(43, sp43)]) good foll (Abs.tabOf_ok _ (by simp only [List.forall_mem_cons]; exact ⟨ok43, fun _ h => by cases h⟩)) rfl (by intro v; kernel_rfl)

/- pagewatch/vote.votes -/
def i45 : Abs.Sg := ⟨[0, 1], (.dat (.int .i64) (.dat (.cons (.int .i64) (.cons (.int .i64) (.cons (.int .i64) (.cons (.int .i64) (.cons (.row (.cons (.int .i64) (.cons (.cons (.int .i64) (.cons (.int .i64) (.cons (.int .i64) (.cons (.int .i64) (.cons (.int .i64) (.cons (.int .i64) (.cons (.int .i64) (.cons (.int .i64) (.cons (.int .i64) (.cons (.cons (.int .i64) (.cons (.int .i64) (.cons (.int .i64) (.cons (.int .i64) (.cons (.int .i64) (.cons (.int .i64) .unit)))))) (.cons (.cons (.int .i64) (.cons (.int .i64) (.cons (.int .i64) (.cons (.int .i64) (.cons (.int .i64) .unit))))) .unit))))))))))) .unit))) (.cons (.int .i64) (.cons (.row .bool) (.cons (.row (.int .i64)) .unit)))))))) .nil)), .nil⟩
def o45 : Abs.Sg := ⟨[4], (.dat .bool .nil), .nil⟩
def m45 (v : ((Int × (Int × Int × Int × Int × (List (Int × (Int × Int × Int × Int × Int × Int × Int × Int × Int × (Int × Int × Int × Int × Int × Int × Unit) × (Int × Int × Int × Int × Int × Unit) × Unit) × Unit)) × Int × (List Bool) × (List Int) × Unit) × Unit) × (Unit))) : Option ((Bool × Unit) × (Unit)) :=
((let x5 := (((v.1.2.1.2.2.2.2.2.2.1.length : Int) : Int) == v.1.1)
bif x5 then (Abs.rowAt v.1.2.1.2.2.2.2.2.2.1 v.1.2.1.1 fun e6 _ =>
some ((e6, ()), ()))
else (some ((false, ()), ()))) : Option ((Bool × Unit) × (Unit))).bind fun v7 =>
some ((v7.1.1, ()), ())
def sp45 : Abs.Spec := ⟨0, i45, o45, m45⟩
def an45 : Nat → Abs.FAn
  | 0 => Abs.FAn.mk (fun
    | 1 => some ⟨[4], (.dat .bool .nil), .nil⟩
    | _ => none) (fun _ => none) (fun _ => none) (fun _ _ => 0)
  | _ => {}
theorem ok45 : Abs.SpecOK Try.prog 45 sp45 :=
  Abs.specOK_of (n := 12) (an := an45) (T := Abs.tabOf []) good foll (Abs.tabOf_ok _ (fun _ h => by cases h)) rfl (by intro v; kernel_rfl)

/- 72 pagewatch/vote.matches$1: not told by a law: a closure -/

/- 81 slices.IndexFunc[[]int,int]: not told by a law: a parameter -/

/- 71 slices.ContainsFunc[[]int,int]: not told by a law: a parameter -/

def l46_2_2 (v : ((Int × (List Int) × Int × Unit) × (((Int × Int × Int × Int × (List (Int × (Int × Int × Int × Int × Int × Int × Int × Int × Int × (Int × Int × Int × Int × Int × Int × Unit) × (Int × Int × Int × Int × Int × Unit) × Unit) × Unit)) × Int × (List Bool) × (List Int) × Unit) × Unit) × Unit))) : Option (((Int × (List Int) × Int × Unit) × (((Int × Int × Int × Int × (List (Int × (Int × Int × Int × Int × Int × Int × Int × Int × Int × (Int × Int × Int × Int × Int × Int × Unit) × (Int × Int × Int × Int × Int × Unit) × Unit) × Unit)) × Int × (List Bool) × (List Int) × Unit) × Unit) × Unit)) ⊕ (((Int × Unit) × (((Int × Int × Int × Int × (List (Int × (Int × Int × Int × Int × Int × Int × Int × Int × Int × (Int × Int × Int × Int × Int × Int × Unit) × (Int × Int × Int × Int × Int × Unit) × Unit) × Unit)) × Int × (List Bool) × (List Int) × Unit) × Unit) × Unit)) ⊕ ((Unit) × (((Int × Int × Int × Int × (List (Int × (Int × Int × Int × Int × Int × Int × Int × Int × Int × (Int × Int × Int × Int × Int × Int × Unit) × (Int × Int × Int × Int × Int × Unit) × Unit) × Unit)) × Int × (List Bool) × (List Int) × Unit) × Unit) × Unit)))) :=
bif (decide ((v.1.1 : Int) < v.1.2.2.1)) then (Abs.rowAt v.1.2.1 v.1.1 fun e41 _ =>
(m43 ((e41, (0, ((v.2.1.1.2.2.2.2.1.length : Int), ()))), ())).bind fun u42 =>
bif (!u42.1.1) then (some (.inr (.inl ((v.1.1, ()), ((v.2.1.1, ()), ())))))
else (some (.inl (((w64 (v.1.1 + 1)), (v.1.2.1, (v.1.2.2.1, ()))), ((v.2.1.1, ()), ())))))
else (some (.inr (.inr ((), ((v.2.1.1, ()), ())))))

/- pagewatch/vote.matches -/
def i46 : Abs.Sg := ⟨[0, 1], (.dat (.int .i64) (.dat (.cons (.int .i64) (.cons (.int .i64) (.cons (.int .i64) (.cons (.int .i64) (.cons (.row (.cons (.int .i64) (.cons (.cons (.int .i64) (.cons (.int .i64) (.cons (.int .i64) (.cons (.int .i64) (.cons (.int .i64) (.cons (.int .i64) (.cons (.int .i64) (.cons (.int .i64) (.cons (.int .i64) (.cons (.cons (.int .i64) (.cons (.int .i64) (.cons (.int .i64) (.cons (.int .i64) (.cons (.int .i64) (.cons (.int .i64) .unit)))))) (.cons (.cons (.int .i64) (.cons (.int .i64) (.cons (.int .i64) (.cons (.int .i64) (.cons (.int .i64) .unit))))) .unit))))))))))) .unit))) (.cons (.int .i64) (.cons (.row .bool) (.cons (.row (.int .i64)) .unit)))))))) .nil)), .nil⟩
def o46 : Abs.Sg := ⟨[4], (.dat .bool .nil), .nil⟩
def m46 (v : ((Int × (Int × Int × Int × Int × (List (Int × (Int × Int × Int × Int × Int × Int × Int × Int × Int × (Int × Int × Int × Int × Int × Int × Unit) × (Int × Int × Int × Int × Int × Unit) × Unit) × Unit)) × Int × (List Bool) × (List Int) × Unit) × Unit) × (Unit))) : Option ((Bool × Unit) × (Unit)) :=
((let x38 := (((v.1.2.1.2.2.2.2.2.2.2.1.length : Int) : Int) == v.1.1)
bif x38 then (Abs.rowAt v.1.2.1.2.2.2.2.2.2.2.1 v.1.2.1.1 fun e39 _ =>
let x40 := ((e39 : Int) == (v.1.2.1.2.2.2.2.1.length : Int))
bif x40 then ((((loopT l46_2_2 ((0, (v.1.2.1.2.2.2.2.2.2.2.1, ((v.1.2.1.2.2.2.2.2.2.2.1.length : Int), ()))), ((v.1.2.1, ()), ()))).bind fun d43 =>
sumE d43 (fun d44 => (some (((decide ((d44.1.1 : Int) ≥ 0)), ()), ((d44.2.1.1, ()), ())))) (fun d45 => (some ((false, ()), ((d45.2.1.1, ()), ()))))) : Option ((Bool × Unit) × (((Int × Int × Int × Int × (List (Int × (Int × Int × Int × Int × Int × Int × Int × Int × Int × (Int × Int × Int × Int × Int × Int × Unit) × (Int × Int × Int × Int × Int × Unit) × Unit) × Unit)) × Int × (List Bool) × (List Int) × Unit) × Unit) × Unit))).bind fun v46 =>
some (((!v46.1.1), ()), ()))
else (some ((false, ()), ())))
else (some ((false, ()), ()))) : Option ((Bool × Unit) × (Unit))).bind fun v47 =>
some ((v47.1.1, ()), ())
def sp46 : Abs.Spec := ⟨0, i46, o46, m46⟩
def an46 : Nat → Abs.FAn
  | 0 => Abs.FAn.mk (fun
    | 1 => some ⟨[4], (.dat .bool .nil), .nil⟩
    | _ => none) (fun _ => none) (fun _ => none) (fun
    | 1, 21 => 1
    | _, _ => 0)
  | 1 => Abs.FAn.mk (fun
    | 1 => some ⟨[4], (.dat .bool .nil), (.box 8 (.dat (.cons (.int .i64) (.cons (.int .i64) (.cons (.int .i64) (.cons (.int .i64) (.cons (.row (.cons (.int .i64) (.cons (.cons (.int .i64) (.cons (.int .i64) (.cons (.int .i64) (.cons (.int .i64) (.cons (.int .i64) (.cons (.int .i64) (.cons (.int .i64) (.cons (.int .i64) (.cons (.int .i64) (.cons (.cons (.int .i64) (.cons (.int .i64) (.cons (.int .i64) (.cons (.int .i64) (.cons (.int .i64) (.cons (.int .i64) .unit)))))) (.cons (.cons (.int .i64) (.cons (.int .i64) (.cons (.int .i64) (.cons (.int .i64) (.cons (.int .i64) .unit))))) .unit))))))))))) .unit))) (.cons (.int .i64) (.cons (.row .bool) (.cons (.row (.int .i64)) .unit)))))))) .nil) .nil)⟩
    | _ => none) (fun _ => none) (fun _ => none) (fun
    | 1, 2 => 2
    | _, _ => 0)
  | 2 => Abs.FAn.mk (fun _ => none) (fun _ => none) (fun
    | 2 => some ⟨⟨[8, 0, 1, 7], (.dat (.int .i64) (.dat (.row (.int .i64)) (.st (.clo 72 [((0, 0), 8, 0, 0)]) (.dat (.int .i64) .nil)))), (.box 8 (.dat (.cons (.int .i64) (.cons (.int .i64) (.cons (.int .i64) (.cons (.int .i64) (.cons (.row (.cons (.int .i64) (.cons (.cons (.int .i64) (.cons (.int .i64) (.cons (.int .i64) (.cons (.int .i64) (.cons (.int .i64) (.cons (.int .i64) (.cons (.int .i64) (.cons (.int .i64) (.cons (.int .i64) (.cons (.cons (.int .i64) (.cons (.int .i64) (.cons (.int .i64) (.cons (.int .i64) (.cons (.int .i64) (.cons (.int .i64) .unit)))))) (.cons (.cons (.int .i64) (.cons (.int .i64) (.cons (.int .i64) (.cons (.int .i64) (.cons (.int .i64) .unit))))) .unit))))))))))) .unit))) (.cons (.int .i64) (.cons (.row .bool) (.cons (.row (.int .i64)) .unit)))))))) .nil) .nil)⟩, (.more .ret ⟨[4], (.dat (.int .i64) .nil), (.box 8 (.dat (.cons (.int .i64) (.cons (.int .i64) (.cons (.int .i64) (.cons (.int .i64) (.cons (.row (.cons (.int .i64) (.cons (.cons (.int .i64) (.cons (.int .i64) (.cons (.int .i64) (.cons (.int .i64) (.cons (.int .i64) (.cons (.int .i64) (.cons (.int .i64) (.cons (.int .i64) (.cons (.int .i64) (.cons (.cons (.int .i64) (.cons (.int .i64) (.cons (.int .i64) (.cons (.int .i64) (.cons (.int .i64) (.cons (.int .i64) .unit)))))) (.cons (.cons (.int .i64) (.cons (.int .i64) (.cons (.int .i64) (.cons (.int .i64) (.cons (.int .i64) .unit))))) .unit))))))))))) .unit))) (.cons (.int .i64) (.cons (.row .bool) (.cons (.row (.int .i64)) .unit)))))))) .nil) .nil)⟩ (.one (.exit 0) ⟨[], .nil, (.box 8 (.dat (.cons (.int .i64) (.cons (.int .i64) (.cons (.int .i64) (.cons (.int .i64) (.cons (.row (.cons (.int .i64) (.cons (.cons (.int .i64) (.cons (.int .i64) (.cons (.int .i64) (.cons (.int .i64) (.cons (.int .i64) (.cons (.int .i64) (.cons (.int .i64) (.cons (.int .i64) (.cons (.int .i64) (.cons (.cons (.int .i64) (.cons (.int .i64) (.cons (.int .i64) (.cons (.int .i64) (.cons (.int .i64) (.cons (.int .i64) .unit)))))) (.cons (.cons (.int .i64) (.cons (.int .i64) (.cons (.int .i64) (.cons (.int .i64) (.cons (.int .i64) .unit))))) .unit))))))))))) .unit))) (.cons (.int .i64) (.cons (.row .bool) (.cons (.row (.int .i64)) .unit)))))))) .nil) .nil)⟩))⟩
    | _ => none) (fun
    | 4, 5 => 3
    | _, _ => 0)
  | _ => {}
theorem ok46 : Abs.SpecOK Try.prog 46 sp46 :=
  Abs.specOK_of (n := 12) (an := an46) (T := Abs.tabOf [(43, sp43)]) good foll (Abs.tabOf_ok _ (by simp only [List.forall_mem_cons]; exact ⟨ok43, fun _ h => by cases h⟩)) rfl (by intro v; kernel_rfl)

/- pagewatch/vote.Check -/
def i18 : Abs.Sg := ⟨[0, 1], (.dat (.int .i64) (.dat (.cons (.int .i64) (.cons (.int .i64) (.cons (.int .i64) (.cons (.int .i64) (.cons (.row (.cons (.int .i64) (.cons (.cons (.int .i64) (.cons (.int .i64) (.cons (.int .i64) (.cons (.int .i64) (.cons (.int .i64) (.cons (.int .i64) (.cons (.int .i64) (.cons (.int .i64) (.cons (.int .i64) (.cons (.cons (.int .i64) (.cons (.int .i64) (.cons (.int .i64) (.cons (.int .i64) (.cons (.int .i64) (.cons (.int .i64) .unit)))))) (.cons (.cons (.int .i64) (.cons (.int .i64) (.cons (.int .i64) (.cons (.int .i64) (.cons (.int .i64) .unit))))) .unit))))))))))) .unit))) (.cons (.int .i64) (.cons (.row .bool) (.cons (.row (.int .i64)) .unit)))))))) .nil)), .nil⟩
def o18 : Abs.Sg := ⟨[4], (.dat .bool .nil), .nil⟩
def m18 (v : ((Int × (Int × Int × Int × Int × (List (Int × (Int × Int × Int × Int × Int × Int × Int × Int × Int × (Int × Int × Int × Int × Int × Int × Unit) × (Int × Int × Int × Int × Int × Unit) × Unit) × Unit)) × Int × (List Bool) × (List Int) × Unit) × Unit) × (Unit))) : Option ((Bool × Unit) × (Unit)) :=
(((m43 ((v.1.1, (1, (5, ()))), ())).bind fun u47 =>
bif (!u47.1.1) then (some ((true, (v.1.1, ())), ((v.1.2.1, ()), ())))
else ((m43 ((v.1.2.1.1, (0, ((w64 (v.1.1 - 1)), ()))), ())).bind fun u48 =>
bif (!u48.1.1) then (some ((true, (v.1.1, ())), ((v.1.2.1, ()), ())))
else ((m43 ((v.1.2.1.2.1, (0, (1048576, ()))), ())).bind fun u49 =>
bif (!u49.1.1) then (some ((true, (v.1.1, ())), ((v.1.2.1, ()), ())))
else ((m43 ((v.1.2.1.2.2.1, ((-1), ((w64 (v.1.1 - 1)), ()))), ())).bind fun u50 =>
bif (!u50.1.1) then (some ((true, (v.1.1, ())), ((v.1.2.1, ()), ())))
else ((m44 ((v.1.2.1, ()), ())).bind fun u51 =>
some (((!u51.1.1), (v.1.1, ())), ((v.1.2.1, ()), ()))))))) : Option ((Bool × Int × Unit) × (((Int × Int × Int × Int × (List (Int × (Int × Int × Int × Int × Int × Int × Int × Int × Int × (Int × Int × Int × Int × Int × Int × Unit) × (Int × Int × Int × Int × Int × Unit) × Unit) × Unit)) × Int × (List Bool) × (List Int) × Unit) × Unit) × Unit))).bind fun v52 =>
bif v52.1.1 then (some ((false, ()), ()))
else (bif ((v52.2.1.1.2.2.2.1 : Int) == 0) then (((let x53 := (((v52.2.1.1.2.2.2.2.2.2.1.length : Int) : Int) == 0)
bif x53 then (let x54 := (((v52.2.1.1.2.2.2.2.2.2.2.1.length : Int) : Int) == 0)
some ((x54, ()), ()))
else (some ((false, ()), ()))) : Option ((Bool × Unit) × (Unit))).bind fun v55 =>
some ((v55.1.1, ()), ()))
else (bif ((v52.2.1.1.2.2.2.1 : Int) == 1) then ((((m45 ((v52.1.2.1, (v52.2.1.1, ())), ())).bind fun u56 =>
bif u56.1.1 then (let x57 := (((v52.2.1.1.2.2.2.2.2.2.2.1.length : Int) : Int) == 0)
some ((x57, ()), ()))
else (some ((false, ()), ()))) : Option ((Bool × Unit) × (Unit))).bind fun v58 =>
some ((v58.1.1, ()), ()))
else (bif ((v52.2.1.1.2.2.2.1 : Int) == 2) then ((((m45 ((v52.1.2.1, (v52.2.1.1, ())), ())).bind fun u59 =>
bif u59.1.1 then ((m46 ((v52.1.2.1, (v52.2.1.1, ())), ())).bind fun u60 =>
some ((u60.1.1, ()), ()))
else (some ((false, ()), ()))) : Option ((Bool × Unit) × (Unit))).bind fun v61 =>
some ((v61.1.1, ()), ()))
else (some ((false, ()), ())))))
def sp18 : Abs.Spec := ⟨0, i18, o18, m18⟩
def an18 : Nat → Abs.FAn
  | 0 => Abs.FAn.mk (fun
    | 9 => some ⟨[4], (.dat .bool .nil), .nil⟩
    | 7 => some ⟨[4], (.dat .bool .nil), .nil⟩
    | 5 => some ⟨[4], (.dat .bool .nil), .nil⟩
    | 1 => some ⟨[34, 3, 0], (.dat .bool (.st (.ptr (0, 0) 8 0 0) (.dat (.int .i64) .nil))), (.box 8 (.dat (.cons (.int .i64) (.cons (.int .i64) (.cons (.int .i64) (.cons (.int .i64) (.cons (.row (.cons (.int .i64) (.cons (.cons (.int .i64) (.cons (.int .i64) (.cons (.int .i64) (.cons (.int .i64) (.cons (.int .i64) (.cons (.int .i64) (.cons (.int .i64) (.cons (.int .i64) (.cons (.int .i64) (.cons (.cons (.int .i64) (.cons (.int .i64) (.cons (.int .i64) (.cons (.int .i64) (.cons (.int .i64) (.cons (.int .i64) .unit)))))) (.cons (.cons (.int .i64) (.cons (.int .i64) (.cons (.int .i64) (.cons (.int .i64) (.cons (.int .i64) .unit))))) .unit))))))))))) .unit))) (.cons (.int .i64) (.cons (.row .bool) (.cons (.row (.int .i64)) .unit)))))))) .nil) .nil)⟩
    | _ => none) (fun _ => none) (fun _ => none) (fun _ _ => 0)
  | _ => {}
theorem ok18 : Abs.SpecOK Try.prog 18 sp18 :=
  Abs.specOK_of (n := 12) (an := an18) (T := Abs.tabOf [(43, sp43), (44, sp44), (45, sp45), (46, sp46)]) good foll (Abs.tabOf_ok _ (by simp only [List.forall_mem_cons]; exact ⟨ok43, ok44, ok45, ok46, fun _ h => by cases h⟩)) rfl (by intro v; kernel_rfl)

/- slices.Clone[[]pagewatch/api.Entry,pagewatch/api.Entry]: the copy of a row -/
def i68 : Abs.Sg := ⟨[0], (.dat (.row (.cons (.int .i64) (.cons (.cons (.int .i64) (.cons (.int .i64) (.cons (.int .i64) (.cons (.int .i64) (.cons (.int .i64) (.cons (.int .i64) (.cons (.int .i64) (.cons (.int .i64) (.cons (.int .i64) (.cons (.cons (.int .i64) (.cons (.int .i64) (.cons (.int .i64) (.cons (.int .i64) (.cons (.int .i64) (.cons (.int .i64) .unit)))))) (.cons (.cons (.int .i64) (.cons (.int .i64) (.cons (.int .i64) (.cons (.int .i64) (.cons (.int .i64) .unit))))) .unit))))))))))) .unit))) .nil), .nil⟩
def o68 : Abs.Sg := ⟨[2], (.st (.own (.cons (.int .i64) (.cons (.cons (.int .i64) (.cons (.int .i64) (.cons (.int .i64) (.cons (.int .i64) (.cons (.int .i64) (.cons (.int .i64) (.cons (.int .i64) (.cons (.int .i64) (.cons (.int .i64) (.cons (.cons (.int .i64) (.cons (.int .i64) (.cons (.int .i64) (.cons (.int .i64) (.cons (.int .i64) (.cons (.int .i64) .unit)))))) (.cons (.cons (.int .i64) (.cons (.int .i64) (.cons (.int .i64) (.cons (.int .i64) (.cons (.int .i64) .unit))))) .unit))))))))))) .unit)) (0, 0)) .nil), (.arr (.cons (.int .i64) (.cons (.cons (.int .i64) (.cons (.int .i64) (.cons (.int .i64) (.cons (.int .i64) (.cons (.int .i64) (.cons (.int .i64) (.cons (.int .i64) (.cons (.int .i64) (.cons (.int .i64) (.cons (.cons (.int .i64) (.cons (.int .i64) (.cons (.int .i64) (.cons (.int .i64) (.cons (.int .i64) (.cons (.int .i64) .unit)))))) (.cons (.cons (.int .i64) (.cons (.int .i64) (.cons (.int .i64) (.cons (.int .i64) (.cons (.int .i64) .unit))))) .unit))))))))))) .unit)) false .nil)⟩
def m68 (v : (((List (Int × (Int × Int × Int × Int × Int × Int × Int × Int × Int × (Int × Int × Int × Int × Int × Int × Unit) × (Int × Int × Int × Int × Int × Unit) × Unit) × Unit)) × Unit) × (Unit))) : Option ((Unit) × ((List (Int × (Int × Int × Int × Int × Int × Int × Int × Int × Int × (Int × Int × Int × Int × Int × Int × Unit) × (Int × Int × Int × Int × Int × Unit) × Unit) × Unit)) × Unit)) :=
bif (decide (v.1.1.length ≤ 4294967296)) then some ((), (v.1.1, ())) else none
def sp68 : Abs.Spec := ⟨0, i68, o68, m68⟩
theorem ok68 : Abs.SpecOK Try.prog 68 sp68 :=
  Abs.clone_ok (N := note) (t := (.cons (.int .i64) (.cons (.cons (.int .i64) (.cons (.int .i64) (.cons (.int .i64) (.cons (.int .i64) (.cons (.int .i64) (.cons (.int .i64) (.cons (.int .i64) (.cons (.int .i64) (.cons (.int .i64) (.cons (.cons (.int .i64) (.cons (.int .i64) (.cons (.int .i64) (.cons (.int .i64) (.cons (.int .i64) (.cons (.int .i64) .unit)))))) (.cons (.cons (.int .i64) (.cons (.int .i64) (.cons (.int .i64) (.cons (.int .i64) (.cons (.int .i64) .unit))))) .unit))))))))))) .unit))) foll (Abs.specOK_of (n := 12) (an := fun _ => {}) (T := Abs.tabOf []) good foll (Abs.tabOf_ok _ (fun _ h => by cases h)) rfl (by intro v; kernel_rfl)) (by kernel_rfl) (by kernel_rfl)

/- slices.Clone[[]bool,bool]: the copy of a row -/
def i69 : Abs.Sg := ⟨[0], (.dat (.row .bool) .nil), .nil⟩
def o69 : Abs.Sg := ⟨[2], (.st (.own .bool (0, 0)) .nil), (.arr .bool false .nil)⟩
def m69 (v : (((List Bool) × Unit) × (Unit))) : Option ((Unit) × ((List Bool) × Unit)) :=
bif (decide (v.1.1.length ≤ 4294967296)) then some ((), (v.1.1, ())) else none
def sp69 : Abs.Spec := ⟨0, i69, o69, m69⟩
theorem ok69 : Abs.SpecOK Try.prog 69 sp69 :=
  Abs.clone_ok (N := note) (t := .bool) foll (Abs.specOK_of (n := 12) (an := fun _ => {}) (T := Abs.tabOf []) good foll (Abs.tabOf_ok _ (fun _ h => by cases h)) rfl (by intro v; kernel_rfl)) (by kernel_rfl) (by kernel_rfl)

/- slices.Clone[[]int,int]: the copy of a row -/
def i70 : Abs.Sg := ⟨[0], (.dat (.row (.int .i64)) .nil), .nil⟩
def o70 : Abs.Sg := ⟨[2], (.st (.own (.int .i64) (0, 0)) .nil), (.arr (.int .i64) false .nil)⟩
def m70 (v : (((List Int) × Unit) × (Unit))) : Option ((Unit) × ((List Int) × Unit)) :=
bif (decide (v.1.1.length ≤ 4294967296)) then some ((), (v.1.1, ())) else none
def sp70 : Abs.Spec := ⟨0, i70, o70, m70⟩
theorem ok70 : Abs.SpecOK Try.prog 70 sp70 :=
  Abs.clone_ok (N := note) (t := (.int .i64)) foll (Abs.specOK_of (n := 12) (an := fun _ => {}) (T := Abs.tabOf []) good foll (Abs.tabOf_ok _ (fun _ h => by cases h)) rfl (by intro v; kernel_rfl)) (by kernel_rfl) (by kernel_rfl)

/- pagewatch/vote.Copied -/
def i38 : Abs.Sg := ⟨[0], (.dat (.cons (.int .i64) (.cons (.int .i64) (.cons (.int .i64) (.cons (.int .i64) (.cons (.row (.cons (.int .i64) (.cons (.cons (.int .i64) (.cons (.int .i64) (.cons (.int .i64) (.cons (.int .i64) (.cons (.int .i64) (.cons (.int .i64) (.cons (.int .i64) (.cons (.int .i64) (.cons (.int .i64) (.cons (.cons (.int .i64) (.cons (.int .i64) (.cons (.int .i64) (.cons (.int .i64) (.cons (.int .i64) (.cons (.int .i64) .unit)))))) (.cons (.cons (.int .i64) (.cons (.int .i64) (.cons (.int .i64) (.cons (.int .i64) (.cons (.int .i64) .unit))))) .unit))))))))))) .unit))) (.cons (.int .i64) (.cons (.row .bool) (.cons (.row (.int .i64)) .unit)))))))) .nil), .nil⟩
def o38 : Abs.Sg := ⟨[2], (.st (.ptr (0, 0) 8 0 0) .nil), (.box 8 (.agg (.dat (.int .i64) (.dat (.int .i64) (.dat (.int .i64) (.dat (.int .i64) (.st (.own (.cons (.int .i64) (.cons (.cons (.int .i64) (.cons (.int .i64) (.cons (.int .i64) (.cons (.int .i64) (.cons (.int .i64) (.cons (.int .i64) (.cons (.int .i64) (.cons (.int .i64) (.cons (.int .i64) (.cons (.cons (.int .i64) (.cons (.int .i64) (.cons (.int .i64) (.cons (.int .i64) (.cons (.int .i64) (.cons (.int .i64) .unit)))))) (.cons (.cons (.int .i64) (.cons (.int .i64) (.cons (.int .i64) (.cons (.int .i64) (.cons (.int .i64) .unit))))) .unit))))))))))) .unit)) (1, 0)) (.dat (.int .i64) (.st (.own .bool (2, 0)) (.st (.own (.int .i64) (3, 0)) .nil)))))))) .nil) (.arr (.cons (.int .i64) (.cons (.cons (.int .i64) (.cons (.int .i64) (.cons (.int .i64) (.cons (.int .i64) (.cons (.int .i64) (.cons (.int .i64) (.cons (.int .i64) (.cons (.int .i64) (.cons (.int .i64) (.cons (.cons (.int .i64) (.cons (.int .i64) (.cons (.int .i64) (.cons (.int .i64) (.cons (.int .i64) (.cons (.int .i64) .unit)))))) (.cons (.cons (.int .i64) (.cons (.int .i64) (.cons (.int .i64) (.cons (.int .i64) (.cons (.int .i64) .unit))))) .unit))))))))))) .unit)) false (.arr .bool false (.arr (.int .i64) false .nil))))⟩
def m38 (v : (((Int × Int × Int × Int × (List (Int × (Int × Int × Int × Int × Int × Int × Int × Int × Int × (Int × Int × Int × Int × Int × Int × Unit) × (Int × Int × Int × Int × Int × Unit) × Unit) × Unit)) × Int × (List Bool) × (List Int) × Unit) × Unit) × (Unit))) : Option ((Unit) × (((Int × Int × Int × Int × Int × Unit) × Unit) × (List (Int × (Int × Int × Int × Int × Int × Int × Int × Int × Int × (Int × Int × Int × Int × Int × Int × Unit) × (Int × Int × Int × Int × Int × Unit) × Unit) × Unit)) × (List Bool) × (List Int) × Unit)) :=
(m68 ((v.1.1.2.2.2.2.1, ()), ())).bind fun u9 =>
(m69 ((v.1.1.2.2.2.2.2.2.1, ()), ())).bind fun u10 =>
(m70 ((v.1.1.2.2.2.2.2.2.2.1, ()), ())).bind fun u11 =>
some ((), (((v.1.1.1, (v.1.1.2.1, (v.1.1.2.2.1, (v.1.1.2.2.2.1, (v.1.1.2.2.2.2.2.1, ()))))), ()), (u9.2.1, (u10.2.1, (u11.2.1, ())))))
def sp38 : Abs.Spec := ⟨0, i38, o38, m38⟩
def an38 : Nat → Abs.FAn
  | _ => {}
theorem ok38 : Abs.SpecOK Try.prog 38 sp38 :=
  Abs.specOK_of (n := 12) (an := an38) (T := Abs.tabOf [(68, sp68), (69, sp69), (70, sp70)]) good foll (Abs.tabOf_ok _ (by simp only [List.forall_mem_cons]; exact ⟨ok68, ok69, ok70, fun _ h => by cases h⟩)) rfl (by intro v; kernel_rfl)

/- pagewatch/vote.last -/
def i37 : Abs.Sg := ⟨[0], (.dat (.cons (.int .i64) (.cons (.int .i64) (.cons (.int .i64) (.cons (.int .i64) (.cons (.row (.cons (.int .i64) (.cons (.cons (.int .i64) (.cons (.int .i64) (.cons (.int .i64) (.cons (.int .i64) (.cons (.int .i64) (.cons (.int .i64) (.cons (.int .i64) (.cons (.int .i64) (.cons (.int .i64) (.cons (.cons (.int .i64) (.cons (.int .i64) (.cons (.int .i64) (.cons (.int .i64) (.cons (.int .i64) (.cons (.int .i64) .unit)))))) (.cons (.cons (.int .i64) (.cons (.int .i64) (.cons (.int .i64) (.cons (.int .i64) (.cons (.int .i64) .unit))))) .unit))))))))))) .unit))) (.cons (.int .i64) (.cons (.row .bool) (.cons (.row (.int .i64)) .unit)))))))) .nil), .nil⟩
def o37 : Abs.Sg := ⟨[2], (.dat (.int .i64) .nil), .nil⟩
def m37 (v : (((Int × Int × Int × Int × (List (Int × (Int × Int × Int × Int × Int × Int × Int × Int × Int × (Int × Int × Int × Int × Int × Int × Unit) × (Int × Int × Int × Int × Int × Unit) × Unit) × Unit)) × Int × (List Bool) × (List Int) × Unit) × Unit) × (Unit))) : Option ((Int × Unit) × (Unit)) :=
bif (((v.1.1.2.2.2.2.1.length : Int) : Int) == 0) then (some ((0, ()), ()))
else (Abs.rowAt v.1.1.2.2.2.2.1 (w64 ((v.1.1.2.2.2.2.1.length : Int) - 1)) fun e2 _ =>
some ((e2.1, ()), ()))
def sp37 : Abs.Spec := ⟨0, i37, o37, m37⟩
def an37 : Nat → Abs.FAn
  | _ => {}
theorem ok37 : Abs.SpecOK Try.prog 37 sp37 :=
  Abs.specOK_of (n := 12) (an := an37) (T := Abs.tabOf []) good foll (Abs.tabOf_ok _ (fun _ h => by cases h)) rfl (by intro v; kernel_rfl)

def l39_0_3 (v : ((Int × Int × (List Bool) × Int × Int × Unit) × (((Int × Int × Int × Int × Int × Unit) × Unit) × ((Int × Int × Int × Int × (List (Int × (Int × Int × Int × Int × Int × Int × Int × Int × Int × (Int × Int × Int × Int × Int × Int × Unit) × (Int × Int × Int × Int × Int × Unit) × Unit) × Unit)) × Int × (List Bool) × (List Int) × Unit) × Unit) × Unit))) : Option (((Int × Int × (List Bool) × Int × Int × Unit) × (((Int × Int × Int × Int × Int × Unit) × Unit) × ((Int × Int × Int × Int × (List (Int × (Int × Int × Int × Int × Int × Int × Int × Int × Int × (Int × Int × Int × Int × Int × Int × Unit) × (Int × Int × Int × Int × Int × Unit) × Unit) × Unit)) × Int × (List Bool) × (List Int) × Unit) × Unit) × Unit)) ⊕ ((Int × Int × Unit) × (((Int × Int × Int × Int × Int × Unit) × Unit) × ((Int × Int × Int × Int × (List (Int × (Int × Int × Int × Int × Int × Int × Int × Int × Int × (Int × Int × Int × Int × Int × Int × Unit) × (Int × Int × Int × Int × Int × Unit) × Unit) × Unit)) × Int × (List Bool) × (List Int) × Unit) × Unit) × Unit))) :=
bif (decide ((v.1.1 : Int) < v.1.2.2.2.2.1)) then (((Abs.rowAt v.1.2.2.1 v.1.1 fun e17 _ =>
bif e17 then (some (((w64 (v.1.2.1 + 1)), (v.1.2.2.1, (v.1.2.2.2.1, (v.1.2.2.2.2.1, (v.1.1, ()))))), (((v.2.1.1.1, (v.2.1.1.2.1, (v.2.1.1.2.2.1, (v.2.1.1.2.2.2.1, (v.2.1.1.2.2.2.2.1, ()))))), ()), ((v.2.2.1.1, ()), ()))))
else (some ((v.1.2.1, (v.1.2.2.1, (v.1.2.2.2.1, (v.1.2.2.2.2.1, (v.1.1, ()))))), (((v.2.1.1.1, (v.2.1.1.2.1, (v.2.1.1.2.2.1, (v.2.1.1.2.2.2.1, (v.2.1.1.2.2.2.2.1, ()))))), ()), ((v.2.2.1.1, ()), ()))))) : Option ((Int × (List Bool) × Int × Int × Int × Unit) × (((Int × Int × Int × Int × Int × Unit) × Unit) × ((Int × Int × Int × Int × (List (Int × (Int × Int × Int × Int × Int × Int × Int × Int × Int × (Int × Int × Int × Int × Int × Int × Unit) × (Int × Int × Int × Int × Int × Unit) × Unit) × Unit)) × Int × (List Bool) × (List Int) × Unit) × Unit) × Unit))).bind fun v18 =>
some (.inl (((w64 (v18.1.2.2.2.2.1 + 1)), (v18.1.1, (v18.1.2.1, (v18.1.2.2.1, (v18.1.2.2.2.1, ()))))), (((v18.2.1.1.1, (v18.2.1.1.2.1, (v18.2.1.1.2.2.1, (v18.2.1.1.2.2.2.1, (v18.2.1.1.2.2.2.2.1, ()))))), ()), ((v18.2.2.1.1, ()), ())))))
else (some (.inr ((v.1.2.2.2.1, (v.1.2.1, ())), (((v.2.1.1.1, (v.2.1.1.2.1, (v.2.1.1.2.2.1, (v.2.1.1.2.2.2.1, (v.2.1.1.2.2.2.2.1, ()))))), ()), ((v.2.2.1.1, ()), ())))))

/- pagewatch/vote.lead -/
def i39 : Abs.Sg := ⟨[0, 1], (.dat (.int .i64) (.dat (.cons (.int .i64) (.cons (.int .i64) (.cons (.int .i64) (.cons (.int .i64) (.cons (.row (.cons (.int .i64) (.cons (.cons (.int .i64) (.cons (.int .i64) (.cons (.int .i64) (.cons (.int .i64) (.cons (.int .i64) (.cons (.int .i64) (.cons (.int .i64) (.cons (.int .i64) (.cons (.int .i64) (.cons (.cons (.int .i64) (.cons (.int .i64) (.cons (.int .i64) (.cons (.int .i64) (.cons (.int .i64) (.cons (.int .i64) .unit)))))) (.cons (.cons (.int .i64) (.cons (.int .i64) (.cons (.int .i64) (.cons (.int .i64) (.cons (.int .i64) .unit))))) .unit))))))))))) .unit))) (.cons (.int .i64) (.cons (.row .bool) (.cons (.row (.int .i64)) .unit)))))))) .nil)), .nil⟩
def o39 : Abs.Sg := ⟨[4], (.st (.ptr (0, 0) 8 0 0) .nil), (.box 8 (.dat (.cons (.int .i64) (.cons (.int .i64) (.cons (.int .i64) (.cons (.int .i64) (.cons (.row (.cons (.int .i64) (.cons (.cons (.int .i64) (.cons (.int .i64) (.cons (.int .i64) (.cons (.int .i64) (.cons (.int .i64) (.cons (.int .i64) (.cons (.int .i64) (.cons (.int .i64) (.cons (.int .i64) (.cons (.cons (.int .i64) (.cons (.int .i64) (.cons (.int .i64) (.cons (.int .i64) (.cons (.int .i64) (.cons (.int .i64) .unit)))))) (.cons (.cons (.int .i64) (.cons (.int .i64) (.cons (.int .i64) (.cons (.int .i64) (.cons (.int .i64) .unit))))) .unit))))))))))) .unit))) (.cons (.int .i64) (.cons (.row .bool) (.cons (.row (.int .i64)) .unit)))))))) .nil) .nil)⟩
def m39 (v : ((Int × (Int × Int × Int × Int × (List (Int × (Int × Int × Int × Int × Int × Int × Int × Int × Int × (Int × Int × Int × Int × Int × Int × Unit) × (Int × Int × Int × Int × Int × Unit) × Unit) × Unit)) × Int × (List Bool) × (List Int) × Unit) × Unit) × (Unit))) : Option ((Unit) × (((Int × Int × Int × Int × (List (Int × (Int × Int × Int × Int × Int × Int × Int × Int × Int × (Int × Int × Int × Int × Int × Int × Unit) × (Int × Int × Int × Int × Int × Unit) × Unit) × Unit)) × Int × (List Bool) × (List Int) × Unit) × Unit) × Unit)) :=
(loopT l39_0_3 ((0, (0, (v.1.2.1.2.2.2.2.2.2.1, (v.1.1, ((v.1.2.1.2.2.2.2.2.2.1.length : Int), ()))))), (((0, (0, (0, (0, (0, ()))))), ()), ((v.1.2.1, ()), ())))).bind fun d19 =>
(((m20 ((d19.1.1, ()), ())).bind fun u20 =>
bif (decide ((d19.1.2.1 : Int) ≥ u20.1.1)) then (bif (decide ((0 : Int) ≤ d19.1.1 ∧ (d19.1.1 : Int) ≤ d19.1.1 ∧ (d19.1.1 : Int) ≤ 4294967296)) then
bif (decide ((0 : Int) ≤ d19.2.2.1.1.1 ∧ (d19.2.2.1.1.1 : Int) < (List.replicate d19.1.1.toNat (0 : Int)).length)) then
bif (decide (d19.2.2.1.1.1.toNat < (List.replicate d19.1.1.toNat (0 : Int)).length)) then
some ((), (((d19.2.1.1.1, (d19.2.1.1.2.1, (d19.2.1.1.2.2.1, (d19.2.1.1.2.2.2.1, (d19.2.1.1.2.2.2.2.1, ()))))), ()), (((d19.2.2.1.1.1, (d19.2.2.1.1.2.1, (d19.2.2.1.1.2.2.1, (2, (d19.2.2.1.1.2.2.2.2.1, (d19.2.2.1.1.2.2.2.2.2.1, (d19.2.2.1.1.2.2.2.2.2.2.1, (((List.replicate d19.1.1.toNat (0 : Int)).set d19.2.2.1.1.1.toNat (d19.2.2.1.1.2.2.2.2.1.length : Int)), ())))))))), ()), ())))
else none
else none
else none)
else (some ((), (((d19.2.1.1.1, (d19.2.1.1.2.1, (d19.2.1.1.2.2.1, (d19.2.1.1.2.2.2.1, (d19.2.1.1.2.2.2.2.1, ()))))), ()), ((d19.2.2.1.1, ()), ()))))) : Option ((Unit) × (((Int × Int × Int × Int × Int × Unit) × Unit) × ((Int × Int × Int × Int × (List (Int × (Int × Int × Int × Int × Int × Int × Int × Int × Int × (Int × Int × Int × Int × Int × Int × Unit) × (Int × Int × Int × Int × Int × Unit) × Unit) × Unit)) × Int × (List Bool) × (List Int) × Unit) × Unit) × Unit))).bind fun v21 =>
some ((), ((v21.2.2.1.1, ()), ()))
def sp39 : Abs.Spec := ⟨0, i39, o39, m39⟩
def an39 : Nat → Abs.FAn
  | 0 => Abs.FAn.mk (fun _ => none) (fun
    | 11 => some (⟨[4, 3], (.st (.ptr (0, 0) 8 0 0) (.st (.ptr (1, 0) 8 0 0) .nil)), (.box 8 (.agg (.dat (.int .i64) (.dat (.int .i64) (.dat (.int .i64) (.dat (.int .i64) (.st .nil (.dat (.int .i64) (.st .nil (.st .nil .nil)))))))) .nil) (.box 8 (.dat (.cons (.int .i64) (.cons (.int .i64) (.cons (.int .i64) (.cons (.int .i64) (.cons (.row (.cons (.int .i64) (.cons (.cons (.int .i64) (.cons (.int .i64) (.cons (.int .i64) (.cons (.int .i64) (.cons (.int .i64) (.cons (.int .i64) (.cons (.int .i64) (.cons (.int .i64) (.cons (.int .i64) (.cons (.cons (.int .i64) (.cons (.int .i64) (.cons (.int .i64) (.cons (.int .i64) (.cons (.int .i64) (.cons (.int .i64) .unit)))))) (.cons (.cons (.int .i64) (.cons (.int .i64) (.cons (.int .i64) (.cons (.int .i64) (.cons (.int .i64) .unit))))) .unit))))))))))) .unit))) (.cons (.int .i64) (.cons (.row .bool) (.cons (.row (.int .i64)) .unit)))))))) .nil) .nil))⟩, none)
    | 7 => some (⟨[5, 9, 4, 3, 0, 10, 11], (.dat (.int .i64) (.dat (.row .bool) (.st (.ptr (0, 0) 8 0 0) (.st (.ptr (1, 0) 8 0 0) (.dat (.int .i64) (.dat (.int .i64) (.dat (.int .i64) .nil))))))), (.box 8 (.agg (.dat (.int .i64) (.dat (.int .i64) (.dat (.int .i64) (.dat (.int .i64) (.st .nil (.dat (.int .i64) (.st .nil (.st .nil .nil)))))))) .nil) (.box 8 (.dat (.cons (.int .i64) (.cons (.int .i64) (.cons (.int .i64) (.cons (.int .i64) (.cons (.row (.cons (.int .i64) (.cons (.cons (.int .i64) (.cons (.int .i64) (.cons (.int .i64) (.cons (.int .i64) (.cons (.int .i64) (.cons (.int .i64) (.cons (.int .i64) (.cons (.int .i64) (.cons (.int .i64) (.cons (.cons (.int .i64) (.cons (.int .i64) (.cons (.int .i64) (.cons (.int .i64) (.cons (.int .i64) (.cons (.int .i64) .unit)))))) (.cons (.cons (.int .i64) (.cons (.int .i64) (.cons (.int .i64) (.cons (.int .i64) (.cons (.int .i64) .unit))))) .unit))))))))))) .unit))) (.cons (.int .i64) (.cons (.row .bool) (.cons (.row (.int .i64)) .unit)))))))) .nil) .nil))⟩, none)
    | _ => none) (fun
    | 3 => some ⟨⟨[11, 5, 9, 4, 3, 0, 10], (.dat (.int .i64) (.dat (.int .i64) (.dat (.row .bool) (.st (.ptr (0, 0) 8 0 0) (.st (.ptr (1, 0) 8 0 0) (.dat (.int .i64) (.dat (.int .i64) .nil))))))), (.box 8 (.agg (.dat (.int .i64) (.dat (.int .i64) (.dat (.int .i64) (.dat (.int .i64) (.st .nil (.dat (.int .i64) (.st .nil (.st .nil .nil)))))))) .nil) (.box 8 (.dat (.cons (.int .i64) (.cons (.int .i64) (.cons (.int .i64) (.cons (.int .i64) (.cons (.row (.cons (.int .i64) (.cons (.cons (.int .i64) (.cons (.int .i64) (.cons (.int .i64) (.cons (.int .i64) (.cons (.int .i64) (.cons (.int .i64) (.cons (.int .i64) (.cons (.int .i64) (.cons (.int .i64) (.cons (.cons (.int .i64) (.cons (.int .i64) (.cons (.int .i64) (.cons (.int .i64) (.cons (.int .i64) (.cons (.int .i64) .unit)))))) (.cons (.cons (.int .i64) (.cons (.int .i64) (.cons (.int .i64) (.cons (.int .i64) (.cons (.int .i64) .unit))))) .unit))))))))))) .unit))) (.cons (.int .i64) (.cons (.row .bool) (.cons (.row (.int .i64)) .unit)))))))) .nil) .nil))⟩, (.one (.exit 0) ⟨[4, 3, 0, 5], (.st (.ptr (0, 0) 8 0 0) (.st (.ptr (1, 0) 8 0 0) (.dat (.int .i64) (.dat (.int .i64) .nil)))), (.box 8 (.agg (.dat (.int .i64) (.dat (.int .i64) (.dat (.int .i64) (.dat (.int .i64) (.st .nil (.dat (.int .i64) (.st .nil (.st .nil .nil)))))))) .nil) (.box 8 (.dat (.cons (.int .i64) (.cons (.int .i64) (.cons (.int .i64) (.cons (.int .i64) (.cons (.row (.cons (.int .i64) (.cons (.cons (.int .i64) (.cons (.int .i64) (.cons (.int .i64) (.cons (.int .i64) (.cons (.int .i64) (.cons (.int .i64) (.cons (.int .i64) (.cons (.int .i64) (.cons (.int .i64) (.cons (.cons (.int .i64) (.cons (.int .i64) (.cons (.int .i64) (.cons (.int .i64) (.cons (.int .i64) (.cons (.int .i64) .unit)))))) (.cons (.cons (.int .i64) (.cons (.int .i64) (.cons (.int .i64) (.cons (.int .i64) (.cons (.int .i64) .unit))))) .unit))))))))))) .unit))) (.cons (.int .i64) (.cons (.row .bool) (.cons (.row (.int .i64)) .unit)))))))) .nil) .nil))⟩)⟩
    | _ => none) (fun _ _ => 0)
  | _ => {}
theorem ok39 : Abs.SpecOK Try.prog 39 sp39 :=
  Abs.specOK_of (n := 12) (an := an39) (T := Abs.tabOf [(20, sp20)]) good foll (Abs.tabOf_ok _ (by simp only [List.forall_mem_cons]; exact ⟨ok20, fun _ h => by cases h⟩)) rfl (by intro v; kernel_rfl)

def l15_0_11 (v : ((Int × Int × Int × Unit) × (((Int × Int × Int × Int × Int × Unit) × Unit) × (List (Int × Int × Int × Int × Int × Int × Int × (List (Int × (Int × Int × Int × Int × Int × Int × Int × Int × Int × (Int × Int × Int × Int × Int × Int × Unit) × (Int × Int × Int × Int × Int × Unit) × Unit) × Unit)) × Bool × Unit)) × ((Int × Int × Int × Int × Int × Unit) × Unit) × (List (Int × (Int × Int × Int × Int × Int × Int × Int × Int × Int × (Int × Int × Int × Int × Int × Int × Unit) × (Int × Int × Int × Int × Int × Unit) × Unit) × Unit)) × (List Bool) × Unit))) : Option (((Int × Int × Int × Unit) × (((Int × Int × Int × Int × Int × Unit) × Unit) × (List (Int × Int × Int × Int × Int × Int × Int × (List (Int × (Int × Int × Int × Int × Int × Int × Int × Int × Int × (Int × Int × Int × Int × Int × Int × Unit) × (Int × Int × Int × Int × Int × Unit) × Unit) × Unit)) × Bool × Unit)) × ((Int × Int × Int × Int × Int × Unit) × Unit) × (List (Int × (Int × Int × Int × Int × Int × Int × Int × Int × Int × (Int × Int × Int × Int × Int × Int × Unit) × (Int × Int × Int × Int × Int × Unit) × Unit) × Unit)) × (List Bool) × Unit)) ⊕ ((Int × Unit) × (((Int × Int × Int × Int × Int × Unit) × Unit) × (List (Int × Int × Int × Int × Int × Int × Int × (List (Int × (Int × Int × Int × Int × Int × Int × Int × Int × Int × (Int × Int × Int × Int × Int × Int × Unit) × (Int × Int × Int × Int × Int × Unit) × Unit) × Unit)) × Bool × Unit)) × ((Int × Int × Int × Int × Int × Unit) × Unit) × (List (Int × (Int × Int × Int × Int × Int × Int × Int × Int × Int × (Int × Int × Int × Int × Int × Int × Unit) × (Int × Int × Int × Int × Int × Unit) × Unit) × Unit)) × (List Bool) × Unit))) :=
bif (decide ((v.1.1 : Int) < v.1.2.2.1)) then (((bif ((v.1.1 : Int) != v.2.1.1.1) then ((m37 (((v.2.1.1.1, (v.2.1.1.2.1, (v.2.1.1.2.2.1, (v.2.1.1.2.2.2.1, (v.2.2.2.2.1, (v.2.1.1.2.2.2.2.1, (v.2.2.2.2.2.1, ([], ())))))))), ()), ())).bind fun u27 =>
bif (decide (v.2.2.1.length + ([(1, (v.2.1.1.1, (v.1.1, (v.2.1.1.2.1, (((v.2.2.2.2.1.length : Nat) : Int), (u27.1.1, (0, ([], (false, ())))))))))] : List (Int × Int × Int × Int × Int × Int × Int × (List (Int × (Int × Int × Int × Int × Int × Int × Int × Int × Int × (Int × Int × Int × Int × Int × Int × Unit) × (Int × Int × Int × Int × Int × Unit) × Unit) × Unit)) × Bool × Unit)).length ≤ 4294967296)) then
let x28 := (v.2.2.1 ++ ([(1, (v.2.1.1.1, (v.1.1, (v.2.1.1.2.1, (((v.2.2.2.2.1.length : Nat) : Int), (u27.1.1, (0, ([], (false, ())))))))))] : List (Int × Int × Int × Int × Int × Int × Int × (List (Int × (Int × Int × Int × Int × Int × Int × Int × Int × Int × (Int × Int × Int × Int × Int × Int × Unit) × (Int × Int × Int × Int × Int × Unit) × Unit) × Unit)) × Bool × Unit)))
some ((v.1.2.1, (v.1.2.2.1, (v.1.1, ()))), (((v.2.1.1.1, (v.2.1.1.2.1, (v.2.1.1.2.2.1, (v.2.1.1.2.2.2.1, (v.2.1.1.2.2.2.2.1, ()))))), ()), (x28, (((v.2.2.2.1.1.1, (v.2.2.2.1.1.2.1, (v.2.2.2.1.1.2.2.1, (v.2.2.2.1.1.2.2.2.1, (v.2.2.2.1.1.2.2.2.2.1, ()))))), ()), (v.2.2.2.2.1, (v.2.2.2.2.2.1, ()))))))
else none)
else (some ((v.1.2.1, (v.1.2.2.1, (v.1.1, ()))), (((v.2.1.1.1, (v.2.1.1.2.1, (v.2.1.1.2.2.1, (v.2.1.1.2.2.2.1, (v.2.1.1.2.2.2.2.1, ()))))), ()), (v.2.2.1, (((v.2.2.2.1.1.1, (v.2.2.2.1.1.2.1, (v.2.2.2.1.1.2.2.1, (v.2.2.2.1.1.2.2.2.1, (v.2.2.2.1.1.2.2.2.2.1, ()))))), ()), (v.2.2.2.2.1, (v.2.2.2.2.2.1, ())))))))) : Option ((Int × Int × Int × Unit) × (((Int × Int × Int × Int × Int × Unit) × Unit) × (List (Int × Int × Int × Int × Int × Int × Int × (List (Int × (Int × Int × Int × Int × Int × Int × Int × Int × Int × (Int × Int × Int × Int × Int × Int × Unit) × (Int × Int × Int × Int × Int × Unit) × Unit) × Unit)) × Bool × Unit)) × ((Int × Int × Int × Int × Int × Unit) × Unit) × (List (Int × (Int × Int × Int × Int × Int × Int × Int × Int × Int × (Int × Int × Int × Int × Int × Int × Unit) × (Int × Int × Int × Int × Int × Unit) × Unit) × Unit)) × (List Bool) × Unit))).bind fun v29 =>
some (.inl (((w64 (v29.1.2.2.1 + 1)), (v29.1.1, (v29.1.2.1, ()))), (((v29.2.1.1.1, (v29.2.1.1.2.1, (v29.2.1.1.2.2.1, (v29.2.1.1.2.2.2.1, (v29.2.1.1.2.2.2.2.1, ()))))), ()), (v29.2.2.1, (((v29.2.2.2.1.1.1, (v29.2.2.2.1.1.2.1, (v29.2.2.2.1.1.2.2.1, (v29.2.2.2.1.1.2.2.2.1, (v29.2.2.2.1.1.2.2.2.2.1, ()))))), ()), (v29.2.2.2.2.1, (v29.2.2.2.2.2.1, ()))))))))
else (some (.inr ((v.1.2.1, ()), (((v.2.2.2.1.1.1, (v.2.2.2.1.1.2.1, (v.2.2.2.1.1.2.2.1, (v.2.2.2.1.1.2.2.2.1, (v.2.2.2.1.1.2.2.2.2.1, ()))))), ()), (v.2.2.1, (((v.2.1.1.1, (v.2.1.1.2.1, (v.2.1.1.2.2.1, (v.2.1.1.2.2.2.1, (v.2.1.1.2.2.2.2.1, ()))))), ()), (v.2.2.2.2.1, (v.2.2.2.2.2.1, ()))))))))

/- pagewatch/vote.Stand -/
def i15 : Abs.Sg := ⟨[0, 1], (.dat (.int .i64) (.dat (.cons (.int .i64) (.cons (.int .i64) (.cons (.int .i64) (.cons (.int .i64) (.cons (.row (.cons (.int .i64) (.cons (.cons (.int .i64) (.cons (.int .i64) (.cons (.int .i64) (.cons (.int .i64) (.cons (.int .i64) (.cons (.int .i64) (.cons (.int .i64) (.cons (.int .i64) (.cons (.int .i64) (.cons (.cons (.int .i64) (.cons (.int .i64) (.cons (.int .i64) (.cons (.int .i64) (.cons (.int .i64) (.cons (.int .i64) .unit)))))) (.cons (.cons (.int .i64) (.cons (.int .i64) (.cons (.int .i64) (.cons (.int .i64) (.cons (.int .i64) .unit))))) .unit))))))))))) .unit))) (.cons (.int .i64) (.cons (.row .bool) (.cons (.row (.int .i64)) .unit)))))))) .nil)), .nil⟩
def o15 : Abs.Sg := ⟨[4, 5, 6], (.st (.ptr (0, 0) 8 0 0) (.st (.own (.cons (.int .i64) (.cons (.int .i64) (.cons (.int .i64) (.cons (.int .i64) (.cons (.int .i64) (.cons (.int .i64) (.cons (.int .i64) (.cons (.row (.cons (.int .i64) (.cons (.cons (.int .i64) (.cons (.int .i64) (.cons (.int .i64) (.cons (.int .i64) (.cons (.int .i64) (.cons (.int .i64) (.cons (.int .i64) (.cons (.int .i64) (.cons (.int .i64) (.cons (.cons (.int .i64) (.cons (.int .i64) (.cons (.int .i64) (.cons (.int .i64) (.cons (.int .i64) (.cons (.int .i64) .unit)))))) (.cons (.cons (.int .i64) (.cons (.int .i64) (.cons (.int .i64) (.cons (.int .i64) (.cons (.int .i64) .unit))))) .unit))))))))))) .unit))) (.cons .bool .unit))))))))) (1, 0)) (.dat (.int .i64) .nil))), (.box 8 (.dat (.cons (.int .i64) (.cons (.int .i64) (.cons (.int .i64) (.cons (.int .i64) (.cons (.row (.cons (.int .i64) (.cons (.cons (.int .i64) (.cons (.int .i64) (.cons (.int .i64) (.cons (.int .i64) (.cons (.int .i64) (.cons (.int .i64) (.cons (.int .i64) (.cons (.int .i64) (.cons (.int .i64) (.cons (.cons (.int .i64) (.cons (.int .i64) (.cons (.int .i64) (.cons (.int .i64) (.cons (.int .i64) (.cons (.int .i64) .unit)))))) (.cons (.cons (.int .i64) (.cons (.int .i64) (.cons (.int .i64) (.cons (.int .i64) (.cons (.int .i64) .unit))))) .unit))))))))))) .unit))) (.cons (.int .i64) (.cons (.row .bool) (.cons (.row (.int .i64)) .unit)))))))) .nil) (.arr (.cons (.int .i64) (.cons (.int .i64) (.cons (.int .i64) (.cons (.int .i64) (.cons (.int .i64) (.cons (.int .i64) (.cons (.int .i64) (.cons (.row (.cons (.int .i64) (.cons (.cons (.int .i64) (.cons (.int .i64) (.cons (.int .i64) (.cons (.int .i64) (.cons (.int .i64) (.cons (.int .i64) (.cons (.int .i64) (.cons (.int .i64) (.cons (.int .i64) (.cons (.cons (.int .i64) (.cons (.int .i64) (.cons (.int .i64) (.cons (.int .i64) (.cons (.int .i64) (.cons (.int .i64) .unit)))))) (.cons (.cons (.int .i64) (.cons (.int .i64) (.cons (.int .i64) (.cons (.int .i64) (.cons (.int .i64) .unit))))) .unit))))))))))) .unit))) (.cons .bool .unit))))))))) false .nil))⟩
def m15 (v : ((Int × (Int × Int × Int × Int × (List (Int × (Int × Int × Int × Int × Int × Int × Int × Int × Int × (Int × Int × Int × Int × Int × Int × Unit) × (Int × Int × Int × Int × Int × Unit) × Unit) × Unit)) × Int × (List Bool) × (List Int) × Unit) × Unit) × (Unit))) : Option ((Int × Unit) × (((Int × Int × Int × Int × (List (Int × (Int × Int × Int × Int × Int × Int × Int × Int × Int × (Int × Int × Int × Int × Int × Int × Unit) × (Int × Int × Int × Int × Int × Unit) × Unit) × Unit)) × Int × (List Bool) × (List Int) × Unit) × Unit) × (List (Int × Int × Int × Int × Int × Int × Int × (List (Int × (Int × Int × Int × Int × Int × Int × Int × Int × Int × (Int × Int × Int × Int × Int × Int × Unit) × (Int × Int × Int × Int × Int × Unit) × Unit) × Unit)) × Bool × Unit)) × Unit)) :=
(m18 ((v.1.1, (v.1.2.1, ())), ())).bind fun u25 =>
bif (!u25.1.1) then (some ((8, ()), (((0, (0, (0, (0, ([], (0, ([], ([], ())))))))), ()), ([], ()))))
else (bif ((v.1.2.1.2.1 : Int) == 1048576) then (some ((5, ()), (((0, (0, (0, (0, ([], (0, ([], ([], ())))))))), ()), ([], ()))))
else ((m38 ((v.1.2.1, ()), ())).bind fun u26 =>
bif (decide ((0 : Int) ≤ v.1.1 ∧ (v.1.1 : Int) ≤ v.1.1 ∧ (v.1.1 : Int) ≤ 4294967296)) then
bif (decide ((0 : Int) ≤ u26.2.1.1.1 ∧ (u26.2.1.1.1 : Int) < (List.replicate v.1.1.toNat (false : Bool)).length)) then
bif (decide (u26.2.1.1.1.toNat < (List.replicate v.1.1.toNat (false : Bool)).length)) then
(loopT l15_0_11 ((0, (v.1.1, (v.1.1, ()))), (((u26.2.1.1.1, ((w64 (u26.2.1.1.2.1 + 1)), (u26.2.1.1.1, (1, (u26.2.1.1.2.2.2.2.1, ()))))), ()), ([], (((0, (0, (0, (0, (0, ()))))), ()), (u26.2.2.1, (((List.replicate v.1.1.toNat (false : Bool)).set u26.2.1.1.1.toNat true), ()))))))).bind fun d30 =>
(m39 ((d30.1.1, ((d30.2.2.2.1.1.1, (d30.2.2.2.1.1.2.1, (d30.2.2.2.1.1.2.2.1, (d30.2.2.2.1.1.2.2.2.1, (d30.2.2.2.2.1, (d30.2.2.2.1.1.2.2.2.2.1, (d30.2.2.2.2.2.1, ([], ())))))))), ())), ())).bind fun u31 =>
some ((0, ()), ((u31.2.1.1, ()), (d30.2.2.1, ())))
else none
else none
else none))
def sp15 : Abs.Spec := ⟨0, i15, o15, m15⟩
def an15 : Nat → Abs.FAn
  | 0 => Abs.FAn.mk (fun _ => none) (fun
    | 15 => some (⟨[3, 7, 4, 0, 37, 38], (.st (.ptr (0, 0) 8 0 0) (.st (.own (.cons (.int .i64) (.cons (.int .i64) (.cons (.int .i64) (.cons (.int .i64) (.cons (.int .i64) (.cons (.int .i64) (.cons (.int .i64) (.cons (.row (.cons (.int .i64) (.cons (.cons (.int .i64) (.cons (.int .i64) (.cons (.int .i64) (.cons (.int .i64) (.cons (.int .i64) (.cons (.int .i64) (.cons (.int .i64) (.cons (.int .i64) (.cons (.int .i64) (.cons (.cons (.int .i64) (.cons (.int .i64) (.cons (.int .i64) (.cons (.int .i64) (.cons (.int .i64) (.cons (.int .i64) .unit)))))) (.cons (.cons (.int .i64) (.cons (.int .i64) (.cons (.int .i64) (.cons (.int .i64) (.cons (.int .i64) .unit))))) .unit))))))))))) .unit))) (.cons .bool .unit))))))))) (1, 0)) (.st (.ptr (2, 0) 8 0 0) (.dat (.int .i64) (.dat (.int .i64) (.dat (.int .i64) .nil)))))), (.box 8 (.agg (.dat (.int .i64) (.dat (.int .i64) (.dat (.int .i64) (.dat (.int .i64) (.st (.own (.cons (.int .i64) (.cons (.cons (.int .i64) (.cons (.int .i64) (.cons (.int .i64) (.cons (.int .i64) (.cons (.int .i64) (.cons (.int .i64) (.cons (.int .i64) (.cons (.int .i64) (.cons (.int .i64) (.cons (.cons (.int .i64) (.cons (.int .i64) (.cons (.int .i64) (.cons (.int .i64) (.cons (.int .i64) (.cons (.int .i64) .unit)))))) (.cons (.cons (.int .i64) (.cons (.int .i64) (.cons (.int .i64) (.cons (.int .i64) (.cons (.int .i64) .unit))))) .unit))))))))))) .unit)) (3, 0)) (.dat (.int .i64) (.st (.own .bool (4, 0)) (.st .nil .nil)))))))) .nil) (.arr (.cons (.int .i64) (.cons (.int .i64) (.cons (.int .i64) (.cons (.int .i64) (.cons (.int .i64) (.cons (.int .i64) (.cons (.int .i64) (.cons (.row (.cons (.int .i64) (.cons (.cons (.int .i64) (.cons (.int .i64) (.cons (.int .i64) (.cons (.int .i64) (.cons (.int .i64) (.cons (.int .i64) (.cons (.int .i64) (.cons (.int .i64) (.cons (.int .i64) (.cons (.cons (.int .i64) (.cons (.int .i64) (.cons (.int .i64) (.cons (.int .i64) (.cons (.int .i64) (.cons (.int .i64) .unit)))))) (.cons (.cons (.int .i64) (.cons (.int .i64) (.cons (.int .i64) (.cons (.int .i64) (.cons (.int .i64) .unit))))) .unit))))))))))) .unit))) (.cons .bool .unit))))))))) false (.box 8 (.agg (.dat (.int .i64) (.dat (.int .i64) (.dat (.int .i64) (.dat (.int .i64) (.st .nil (.dat (.int .i64) (.st .nil (.st .nil .nil)))))))) .nil) (.arr (.cons (.int .i64) (.cons (.cons (.int .i64) (.cons (.int .i64) (.cons (.int .i64) (.cons (.int .i64) (.cons (.int .i64) (.cons (.int .i64) (.cons (.int .i64) (.cons (.int .i64) (.cons (.int .i64) (.cons (.cons (.int .i64) (.cons (.int .i64) (.cons (.int .i64) (.cons (.int .i64) (.cons (.int .i64) (.cons (.int .i64) .unit)))))) (.cons (.cons (.int .i64) (.cons (.int .i64) (.cons (.int .i64) (.cons (.int .i64) (.cons (.int .i64) .unit))))) .unit))))))))))) .unit)) false (.arr .bool false .nil)))))⟩, none)
    | _ => none) (fun
    | 11 => some ⟨⟨[38, 3, 7, 4, 0, 37], (.dat (.int .i64) (.st (.ptr (0, 0) 8 0 0) (.st (.own (.cons (.int .i64) (.cons (.int .i64) (.cons (.int .i64) (.cons (.int .i64) (.cons (.int .i64) (.cons (.int .i64) (.cons (.int .i64) (.cons (.row (.cons (.int .i64) (.cons (.cons (.int .i64) (.cons (.int .i64) (.cons (.int .i64) (.cons (.int .i64) (.cons (.int .i64) (.cons (.int .i64) (.cons (.int .i64) (.cons (.int .i64) (.cons (.int .i64) (.cons (.cons (.int .i64) (.cons (.int .i64) (.cons (.int .i64) (.cons (.int .i64) (.cons (.int .i64) (.cons (.int .i64) .unit)))))) (.cons (.cons (.int .i64) (.cons (.int .i64) (.cons (.int .i64) (.cons (.int .i64) (.cons (.int .i64) .unit))))) .unit))))))))))) .unit))) (.cons .bool .unit))))))))) (1, 0)) (.st (.ptr (2, 0) 8 0 0) (.dat (.int .i64) (.dat (.int .i64) .nil)))))), (.box 8 (.agg (.dat (.int .i64) (.dat (.int .i64) (.dat (.int .i64) (.dat (.int .i64) (.st (.own (.cons (.int .i64) (.cons (.cons (.int .i64) (.cons (.int .i64) (.cons (.int .i64) (.cons (.int .i64) (.cons (.int .i64) (.cons (.int .i64) (.cons (.int .i64) (.cons (.int .i64) (.cons (.int .i64) (.cons (.cons (.int .i64) (.cons (.int .i64) (.cons (.int .i64) (.cons (.int .i64) (.cons (.int .i64) (.cons (.int .i64) .unit)))))) (.cons (.cons (.int .i64) (.cons (.int .i64) (.cons (.int .i64) (.cons (.int .i64) (.cons (.int .i64) .unit))))) .unit))))))))))) .unit)) (3, 0)) (.dat (.int .i64) (.st (.own .bool (4, 0)) (.st .nil .nil)))))))) .nil) (.arr (.cons (.int .i64) (.cons (.int .i64) (.cons (.int .i64) (.cons (.int .i64) (.cons (.int .i64) (.cons (.int .i64) (.cons (.int .i64) (.cons (.row (.cons (.int .i64) (.cons (.cons (.int .i64) (.cons (.int .i64) (.cons (.int .i64) (.cons (.int .i64) (.cons (.int .i64) (.cons (.int .i64) (.cons (.int .i64) (.cons (.int .i64) (.cons (.int .i64) (.cons (.cons (.int .i64) (.cons (.int .i64) (.cons (.int .i64) (.cons (.int .i64) (.cons (.int .i64) (.cons (.int .i64) .unit)))))) (.cons (.cons (.int .i64) (.cons (.int .i64) (.cons (.int .i64) (.cons (.int .i64) (.cons (.int .i64) .unit))))) .unit))))))))))) .unit))) (.cons .bool .unit))))))))) false (.box 8 (.agg (.dat (.int .i64) (.dat (.int .i64) (.dat (.int .i64) (.dat (.int .i64) (.st .nil (.dat (.int .i64) (.st .nil (.st .nil .nil)))))))) .nil) (.arr (.cons (.int .i64) (.cons (.cons (.int .i64) (.cons (.int .i64) (.cons (.int .i64) (.cons (.int .i64) (.cons (.int .i64) (.cons (.int .i64) (.cons (.int .i64) (.cons (.int .i64) (.cons (.int .i64) (.cons (.cons (.int .i64) (.cons (.int .i64) (.cons (.int .i64) (.cons (.int .i64) (.cons (.int .i64) (.cons (.int .i64) .unit)))))) (.cons (.cons (.int .i64) (.cons (.int .i64) (.cons (.int .i64) (.cons (.int .i64) (.cons (.int .i64) .unit))))) .unit))))))))))) .unit)) false (.arr .bool false .nil)))))⟩, (.one (.exit 0) ⟨[4, 7, 3, 0], (.st (.ptr (0, 0) 8 0 0) (.st (.own (.cons (.int .i64) (.cons (.int .i64) (.cons (.int .i64) (.cons (.int .i64) (.cons (.int .i64) (.cons (.int .i64) (.cons (.int .i64) (.cons (.row (.cons (.int .i64) (.cons (.cons (.int .i64) (.cons (.int .i64) (.cons (.int .i64) (.cons (.int .i64) (.cons (.int .i64) (.cons (.int .i64) (.cons (.int .i64) (.cons (.int .i64) (.cons (.int .i64) (.cons (.cons (.int .i64) (.cons (.int .i64) (.cons (.int .i64) (.cons (.int .i64) (.cons (.int .i64) (.cons (.int .i64) .unit)))))) (.cons (.cons (.int .i64) (.cons (.int .i64) (.cons (.int .i64) (.cons (.int .i64) (.cons (.int .i64) .unit))))) .unit))))))))))) .unit))) (.cons .bool .unit))))))))) (1, 0)) (.st (.ptr (2, 0) 8 0 0) (.dat (.int .i64) .nil)))), (.box 8 (.agg (.dat (.int .i64) (.dat (.int .i64) (.dat (.int .i64) (.dat (.int .i64) (.st .nil (.dat (.int .i64) (.st .nil (.st .nil .nil)))))))) .nil) (.arr (.cons (.int .i64) (.cons (.int .i64) (.cons (.int .i64) (.cons (.int .i64) (.cons (.int .i64) (.cons (.int .i64) (.cons (.int .i64) (.cons (.row (.cons (.int .i64) (.cons (.cons (.int .i64) (.cons (.int .i64) (.cons (.int .i64) (.cons (.int .i64) (.cons (.int .i64) (.cons (.int .i64) (.cons (.int .i64) (.cons (.int .i64) (.cons (.int .i64) (.cons (.cons (.int .i64) (.cons (.int .i64) (.cons (.int .i64) (.cons (.int .i64) (.cons (.int .i64) (.cons (.int .i64) .unit)))))) (.cons (.cons (.int .i64) (.cons (.int .i64) (.cons (.int .i64) (.cons (.int .i64) (.cons (.int .i64) .unit))))) .unit))))))))))) .unit))) (.cons .bool .unit))))))))) false (.box 8 (.agg (.dat (.int .i64) (.dat (.int .i64) (.dat (.int .i64) (.dat (.int .i64) (.st (.own (.cons (.int .i64) (.cons (.cons (.int .i64) (.cons (.int .i64) (.cons (.int .i64) (.cons (.int .i64) (.cons (.int .i64) (.cons (.int .i64) (.cons (.int .i64) (.cons (.int .i64) (.cons (.int .i64) (.cons (.cons (.int .i64) (.cons (.int .i64) (.cons (.int .i64) (.cons (.int .i64) (.cons (.int .i64) (.cons (.int .i64) .unit)))))) (.cons (.cons (.int .i64) (.cons (.int .i64) (.cons (.int .i64) (.cons (.int .i64) (.cons (.int .i64) .unit))))) .unit))))))))))) .unit)) (3, 0)) (.dat (.int .i64) (.st (.own .bool (4, 0)) (.st .nil .nil)))))))) .nil) (.arr (.cons (.int .i64) (.cons (.cons (.int .i64) (.cons (.int .i64) (.cons (.int .i64) (.cons (.int .i64) (.cons (.int .i64) (.cons (.int .i64) (.cons (.int .i64) (.cons (.int .i64) (.cons (.int .i64) (.cons (.cons (.int .i64) (.cons (.int .i64) (.cons (.int .i64) (.cons (.int .i64) (.cons (.int .i64) (.cons (.int .i64) .unit)))))) (.cons (.cons (.int .i64) (.cons (.int .i64) (.cons (.int .i64) (.cons (.int .i64) (.cons (.int .i64) .unit))))) .unit))))))))))) .unit)) false (.arr .bool false .nil)))))⟩)⟩
    | _ => none) (fun _ _ => 0)
  | _ => {}
theorem ok15 : Abs.SpecOK Try.prog 15 sp15 :=
  Abs.specOK_of (n := 12) (an := an15) (T := Abs.tabOf [(18, sp18), (38, sp38), (37, sp37), (39, sp39)]) good foll (Abs.tabOf_ok _ (by simp only [List.forall_mem_cons]; exact ⟨ok18, ok38, ok37, ok39, fun _ h => by cases h⟩)) rfl (by intro v; kernel_rfl)

/- pagewatch/vote.Heard -/
def i40 : Abs.Sg := ⟨[0, 1, 2, 3], (.dat (.int .i64) (.dat (.cons (.int .i64) (.cons (.int .i64) (.cons (.int .i64) (.cons (.int .i64) (.cons (.row (.cons (.int .i64) (.cons (.cons (.int .i64) (.cons (.int .i64) (.cons (.int .i64) (.cons (.int .i64) (.cons (.int .i64) (.cons (.int .i64) (.cons (.int .i64) (.cons (.int .i64) (.cons (.int .i64) (.cons (.cons (.int .i64) (.cons (.int .i64) (.cons (.int .i64) (.cons (.int .i64) (.cons (.int .i64) (.cons (.int .i64) .unit)))))) (.cons (.cons (.int .i64) (.cons (.int .i64) (.cons (.int .i64) (.cons (.int .i64) (.cons (.int .i64) .unit))))) .unit))))))))))) .unit))) (.cons (.int .i64) (.cons (.row .bool) (.cons (.row (.int .i64)) .unit)))))))) (.dat (.cons (.int .i64) (.cons (.int .i64) (.cons (.int .i64) (.cons (.int .i64) (.cons (.int .i64) (.cons (.int .i64) (.cons (.int .i64) (.cons (.row (.cons (.int .i64) (.cons (.cons (.int .i64) (.cons (.int .i64) (.cons (.int .i64) (.cons (.int .i64) (.cons (.int .i64) (.cons (.int .i64) (.cons (.int .i64) (.cons (.int .i64) (.cons (.int .i64) (.cons (.cons (.int .i64) (.cons (.int .i64) (.cons (.int .i64) (.cons (.int .i64) (.cons (.int .i64) (.cons (.int .i64) .unit)))))) (.cons (.cons (.int .i64) (.cons (.int .i64) (.cons (.int .i64) (.cons (.int .i64) (.cons (.int .i64) .unit))))) .unit))))))))))) .unit))) (.cons .bool .unit))))))))) (.dat (.int .i64) .nil)))), .nil⟩
def o40 : Abs.Sg := ⟨[8], (.dat .bool .nil), .nil⟩
def m40 (v : ((Int × (Int × Int × Int × Int × (List (Int × (Int × Int × Int × Int × Int × Int × Int × Int × Int × (Int × Int × Int × Int × Int × Int × Unit) × (Int × Int × Int × Int × Int × Unit) × Unit) × Unit)) × Int × (List Bool) × (List Int) × Unit) × (Int × Int × Int × Int × Int × Int × Int × (List (Int × (Int × Int × Int × Int × Int × Int × Int × Int × Int × (Int × Int × Int × Int × Int × Int × Unit) × (Int × Int × Int × Int × Int × Unit) × Unit) × Unit)) × Bool × Unit) × Int × Unit) × (Unit))) : Option ((Bool × Unit) × (Unit)) :=
(((m18 ((v.1.1, (v.1.2.1, ())), ())).bind fun u7 =>
bif u7.1.1 then (bif ((v.1.2.2.1.1 : Int) == v.1.2.2.2.1) then (bif ((v.1.2.2.1.2.2.1 : Int) == v.1.2.1.1) then ((m43 ((v.1.2.2.1.2.1, (0, ((w64 (v.1.1 - 1)), ()))), ())).bind fun u8 =>
bif u8.1.1 then (bif ((v.1.2.2.1.2.1 : Int) != v.1.2.1.1) then ((m43 ((v.1.2.2.1.2.2.2.1, (1, (1048576, ()))), ())).bind fun u9 =>
some ((u9.1.1, ()), ()))
else (some ((false, ()), ())))
else (some ((false, ()), ())))
else (some ((false, ()), ())))
else (some ((false, ()), ())))
else (some ((false, ()), ()))) : Option ((Bool × Unit) × (Unit))).bind fun v10 =>
some ((v10.1.1, ()), ())
def sp40 : Abs.Spec := ⟨0, i40, o40, m40⟩
def an40 : Nat → Abs.FAn
  | 0 => Abs.FAn.mk (fun
    | 1 => some ⟨[8], (.dat .bool .nil), .nil⟩
    | _ => none) (fun _ => none) (fun _ => none) (fun _ _ => 0)
  | _ => {}
theorem ok40 : Abs.SpecOK Try.prog 40 sp40 :=
  Abs.specOK_of (n := 12) (an := an40) (T := Abs.tabOf [(18, sp18), (43, sp43)]) good foll (Abs.tabOf_ok _ (by simp only [List.forall_mem_cons]; exact ⟨ok18, ok43, fun _ h => by cases h⟩)) rfl (by intro v; kernel_rfl)

/- pagewatch/vote.Follow -/
def i41 : Abs.Sg := ⟨[0, 1], (.dat (.cons (.int .i64) (.cons (.int .i64) (.cons (.int .i64) (.cons (.int .i64) (.cons (.row (.cons (.int .i64) (.cons (.cons (.int .i64) (.cons (.int .i64) (.cons (.int .i64) (.cons (.int .i64) (.cons (.int .i64) (.cons (.int .i64) (.cons (.int .i64) (.cons (.int .i64) (.cons (.int .i64) (.cons (.cons (.int .i64) (.cons (.int .i64) (.cons (.int .i64) (.cons (.int .i64) (.cons (.int .i64) (.cons (.int .i64) .unit)))))) (.cons (.cons (.int .i64) (.cons (.int .i64) (.cons (.int .i64) (.cons (.int .i64) (.cons (.int .i64) .unit))))) .unit))))))))))) .unit))) (.cons (.int .i64) (.cons (.row .bool) (.cons (.row (.int .i64)) .unit)))))))) (.dat (.int .i64) .nil)), .nil⟩
def o41 : Abs.Sg := ⟨[4], (.st (.ptr (0, 0) 8 0 0) .nil), (.box 8 (.dat (.cons (.int .i64) (.cons (.int .i64) (.cons (.int .i64) (.cons (.int .i64) (.cons (.row (.cons (.int .i64) (.cons (.cons (.int .i64) (.cons (.int .i64) (.cons (.int .i64) (.cons (.int .i64) (.cons (.int .i64) (.cons (.int .i64) (.cons (.int .i64) (.cons (.int .i64) (.cons (.int .i64) (.cons (.cons (.int .i64) (.cons (.int .i64) (.cons (.int .i64) (.cons (.int .i64) (.cons (.int .i64) (.cons (.int .i64) .unit)))))) (.cons (.cons (.int .i64) (.cons (.int .i64) (.cons (.int .i64) (.cons (.int .i64) (.cons (.int .i64) .unit))))) .unit))))))))))) .unit))) (.cons (.int .i64) (.cons (.row .bool) (.cons (.row (.int .i64)) .unit)))))))) .nil) .nil)⟩
def m41 (v : (((Int × Int × Int × Int × (List (Int × (Int × Int × Int × Int × Int × Int × Int × Int × Int × (Int × Int × Int × Int × Int × Int × Unit) × (Int × Int × Int × Int × Int × Unit) × Unit) × Unit)) × Int × (List Bool) × (List Int) × Unit) × Int × Unit) × (Unit))) : Option ((Unit) × (((Int × Int × Int × Int × (List (Int × (Int × Int × Int × Int × Int × Int × Int × Int × Int × (Int × Int × Int × Int × Int × Int × Unit) × (Int × Int × Int × Int × Int × Unit) × Unit) × Unit)) × Int × (List Bool) × (List Int) × Unit) × Unit) × Unit)) :=
(((m43 ((v.1.2.1, ((w64 (v.1.1.2.1 + 1)), (1048576, ()))), ())).bind fun u5 =>
bif u5.1.1 then (some ((), (((0, (0, (0, (0, (0, ()))))), ()), (((v.1.1.1, (v.1.2.1, ((-1), (0, (v.1.1.2.2.2.2.1, (v.1.1.2.2.2.2.2.1, ([], ([], ())))))))), ()), ()))))
else (some ((), (((0, (0, (0, (0, (0, ()))))), ()), ((v.1.1, ()), ()))))) : Option ((Unit) × (((Int × Int × Int × Int × Int × Unit) × Unit) × ((Int × Int × Int × Int × (List (Int × (Int × Int × Int × Int × Int × Int × Int × Int × Int × (Int × Int × Int × Int × Int × Int × Unit) × (Int × Int × Int × Int × Int × Unit) × Unit) × Unit)) × Int × (List Bool) × (List Int) × Unit) × Unit) × Unit))).bind fun v6 =>
some ((), ((v6.2.2.1.1, ()), ()))
def sp41 : Abs.Spec := ⟨0, i41, o41, m41⟩
def an41 : Nat → Abs.FAn
  | 0 => Abs.FAn.mk (fun _ => none) (fun
    | 3 => some (⟨[4, 2], (.st (.ptr (0, 0) 8 0 0) (.st (.ptr (1, 0) 8 0 0) .nil)), (.box 8 (.agg (.dat (.int .i64) (.dat (.int .i64) (.dat (.int .i64) (.dat (.int .i64) (.st .nil (.dat (.int .i64) (.st .nil (.st .nil .nil)))))))) .nil) (.box 8 (.dat (.cons (.int .i64) (.cons (.int .i64) (.cons (.int .i64) (.cons (.int .i64) (.cons (.row (.cons (.int .i64) (.cons (.cons (.int .i64) (.cons (.int .i64) (.cons (.int .i64) (.cons (.int .i64) (.cons (.int .i64) (.cons (.int .i64) (.cons (.int .i64) (.cons (.int .i64) (.cons (.int .i64) (.cons (.cons (.int .i64) (.cons (.int .i64) (.cons (.int .i64) (.cons (.int .i64) (.cons (.int .i64) (.cons (.int .i64) .unit)))))) (.cons (.cons (.int .i64) (.cons (.int .i64) (.cons (.int .i64) (.cons (.int .i64) (.cons (.int .i64) .unit))))) .unit))))))))))) .unit))) (.cons (.int .i64) (.cons (.row .bool) (.cons (.row (.int .i64)) .unit)))))))) .nil) .nil))⟩, none)
    | _ => none) (fun _ => none) (fun _ _ => 0)
  | _ => {}
theorem ok41 : Abs.SpecOK Try.prog 41 sp41 :=
  Abs.specOK_of (n := 12) (an := an41) (T := Abs.tabOf [(43, sp43)]) good foll (Abs.tabOf_ok _ (by simp only [List.forall_mem_cons]; exact ⟨ok43, fun _ h => by cases h⟩)) rfl (by intro v; kernel_rfl)

/- pagewatch/vote.Fresh -/
def i13 : Abs.Sg := ⟨[0, 1, 2], (.dat (.cons (.int .i64) (.cons (.int .i64) (.cons (.int .i64) (.cons (.int .i64) (.cons (.row (.cons (.int .i64) (.cons (.cons (.int .i64) (.cons (.int .i64) (.cons (.int .i64) (.cons (.int .i64) (.cons (.int .i64) (.cons (.int .i64) (.cons (.int .i64) (.cons (.int .i64) (.cons (.int .i64) (.cons (.cons (.int .i64) (.cons (.int .i64) (.cons (.int .i64) (.cons (.int .i64) (.cons (.int .i64) (.cons (.int .i64) .unit)))))) (.cons (.cons (.int .i64) (.cons (.int .i64) (.cons (.int .i64) (.cons (.int .i64) (.cons (.int .i64) .unit))))) .unit))))))))))) .unit))) (.cons (.int .i64) (.cons (.row .bool) (.cons (.row (.int .i64)) .unit)))))))) (.dat (.int .i64) (.dat (.int .i64) .nil))), .nil⟩
def o13 : Abs.Sg := ⟨[6], (.dat .bool .nil), .nil⟩
def m13 (v : (((Int × Int × Int × Int × (List (Int × (Int × Int × Int × Int × Int × Int × Int × Int × Int × (Int × Int × Int × Int × Int × Int × Unit) × (Int × Int × Int × Int × Int × Unit) × Unit) × Unit)) × Int × (List Bool) × (List Int) × Unit) × Int × Int × Unit) × (Unit))) : Option ((Bool × Unit) × (Unit)) :=
(((m37 ((v.1.1, ()), ())).bind fun u7 =>
bif (decide ((v.1.2.2.1 : Int) > u7.1.1)) then (some ((true, ()), ()))
else ((m37 ((v.1.1, ()), ())).bind fun u8 =>
bif ((v.1.2.2.1 : Int) == u8.1.1) then (let x9 := (decide ((v.1.2.1 : Int) ≥ (v.1.1.2.2.2.2.1.length : Int)))
some ((x9, ()), ()))
else (some ((false, ()), ())))) : Option ((Bool × Unit) × (Unit))).bind fun v10 =>
some ((v10.1.1, ()), ())
def sp13 : Abs.Spec := ⟨0, i13, o13, m13⟩
def an13 : Nat → Abs.FAn
  | 0 => Abs.FAn.mk (fun
    | 1 => some ⟨[6], (.dat .bool .nil), .nil⟩
    | _ => none) (fun _ => none) (fun _ => none) (fun _ _ => 0)
  | _ => {}
theorem ok13 : Abs.SpecOK Try.prog 13 sp13 :=
  Abs.specOK_of (n := 12) (an := an13) (T := Abs.tabOf [(37, sp37)]) good foll (Abs.tabOf_ok _ (by simp only [List.forall_mem_cons]; exact ⟨ok37, fun _ h => by cases h⟩)) rfl (by intro v; kernel_rfl)

/- pagewatch/vote.Hear -/
def i16 : Abs.Sg := ⟨[0, 1, 2], (.dat (.int .i64) (.dat (.cons (.int .i64) (.cons (.int .i64) (.cons (.int .i64) (.cons (.int .i64) (.cons (.row (.cons (.int .i64) (.cons (.cons (.int .i64) (.cons (.int .i64) (.cons (.int .i64) (.cons (.int .i64) (.cons (.int .i64) (.cons (.int .i64) (.cons (.int .i64) (.cons (.int .i64) (.cons (.int .i64) (.cons (.cons (.int .i64) (.cons (.int .i64) (.cons (.int .i64) (.cons (.int .i64) (.cons (.int .i64) (.cons (.int .i64) .unit)))))) (.cons (.cons (.int .i64) (.cons (.int .i64) (.cons (.int .i64) (.cons (.int .i64) (.cons (.int .i64) .unit))))) .unit))))))))))) .unit))) (.cons (.int .i64) (.cons (.row .bool) (.cons (.row (.int .i64)) .unit)))))))) (.dat (.cons (.int .i64) (.cons (.int .i64) (.cons (.int .i64) (.cons (.int .i64) (.cons (.int .i64) (.cons (.int .i64) (.cons (.int .i64) (.cons (.row (.cons (.int .i64) (.cons (.cons (.int .i64) (.cons (.int .i64) (.cons (.int .i64) (.cons (.int .i64) (.cons (.int .i64) (.cons (.int .i64) (.cons (.int .i64) (.cons (.int .i64) (.cons (.int .i64) (.cons (.cons (.int .i64) (.cons (.int .i64) (.cons (.int .i64) (.cons (.int .i64) (.cons (.int .i64) (.cons (.int .i64) .unit)))))) (.cons (.cons (.int .i64) (.cons (.int .i64) (.cons (.int .i64) (.cons (.int .i64) (.cons (.int .i64) .unit))))) .unit))))))))))) .unit))) (.cons .bool .unit))))))))) .nil))), .nil⟩
def o16 : Abs.Sg := ⟨[6, 7, 8], (.st (.ptr (0, 0) 8 0 0) (.st (.ptr (1, 0) 9 0 0) (.dat .bool .nil))), (.box 8 (.dat (.cons (.int .i64) (.cons (.int .i64) (.cons (.int .i64) (.cons (.int .i64) (.cons (.row (.cons (.int .i64) (.cons (.cons (.int .i64) (.cons (.int .i64) (.cons (.int .i64) (.cons (.int .i64) (.cons (.int .i64) (.cons (.int .i64) (.cons (.int .i64) (.cons (.int .i64) (.cons (.int .i64) (.cons (.cons (.int .i64) (.cons (.int .i64) (.cons (.int .i64) (.cons (.int .i64) (.cons (.int .i64) (.cons (.int .i64) .unit)))))) (.cons (.cons (.int .i64) (.cons (.int .i64) (.cons (.int .i64) (.cons (.int .i64) (.cons (.int .i64) .unit))))) .unit))))))))))) .unit))) (.cons (.int .i64) (.cons (.row .bool) (.cons (.row (.int .i64)) .unit)))))))) .nil) (.box 9 (.agg (.dat (.int .i64) (.dat (.int .i64) (.dat (.int .i64) (.dat (.int .i64) (.dat (.int .i64) (.dat (.int .i64) (.dat (.int .i64) (.st .nil (.dat .bool .nil))))))))) .nil) .nil))⟩
def m16 (v : ((Int × (Int × Int × Int × Int × (List (Int × (Int × Int × Int × Int × Int × Int × Int × Int × Int × (Int × Int × Int × Int × Int × Int × Unit) × (Int × Int × Int × Int × Int × Unit) × Unit) × Unit)) × Int × (List Bool) × (List Int) × Unit) × (Int × Int × Int × Int × Int × Int × Int × (List (Int × (Int × Int × Int × Int × Int × Int × Int × Int × Int × (Int × Int × Int × Int × Int × Int × Unit) × (Int × Int × Int × Int × Int × Unit) × Unit) × Unit)) × Bool × Unit) × Unit) × (Unit))) : Option ((Bool × Unit) × (((Int × Int × Int × Int × (List (Int × (Int × Int × Int × Int × Int × Int × Int × Int × Int × (Int × Int × Int × Int × Int × Int × Unit) × (Int × Int × Int × Int × Int × Unit) × Unit) × Unit)) × Int × (List Bool) × (List Int) × Unit) × Unit) × ((Int × Int × Int × Int × Int × Int × Int × Bool × Unit) × Unit) × Unit)) :=
(m38 ((v.1.2.1, ()), ())).bind fun u19 =>
(m40 ((v.1.1, ((u19.2.1.1.1, (u19.2.1.1.2.1, (u19.2.1.1.2.2.1, (u19.2.1.1.2.2.2.1, (u19.2.2.1, (u19.2.1.1.2.2.2.2.1, (u19.2.2.2.1, (u19.2.2.2.2.1, ())))))))), (v.1.2.2.1, (1, ())))), ())).bind fun u20 =>
bif (!u20.1.1) then (some ((false, ()), (((u19.2.1.1.1, (u19.2.1.1.2.1, (u19.2.1.1.2.2.1, (u19.2.1.1.2.2.2.1, (u19.2.2.1, (u19.2.1.1.2.2.2.2.1, (u19.2.2.2.1, (u19.2.2.2.2.1, ())))))))), ()), (((0, (0, (0, (0, (0, (0, (0, (false, ())))))))), ()), ()))))
else ((m41 (((u19.2.1.1.1, (u19.2.1.1.2.1, (u19.2.1.1.2.2.1, (u19.2.1.1.2.2.2.1, (u19.2.2.1, (u19.2.1.1.2.2.2.2.1, (u19.2.2.2.1, (u19.2.2.2.2.1, ())))))))), (v.1.2.2.1.2.2.2.1, ())), ())).bind fun u21 =>
((bif ((u21.2.1.1.2.1 : Int) == v.1.2.2.1.2.2.2.1) then (bif ((u21.2.1.1.2.2.1 : Int) == (-1)) then (bif ((u21.2.1.1.2.2.2.1 : Int) == 0) then ((m13 ((u21.2.1.1, (v.1.2.2.1.2.2.2.2.1, (v.1.2.2.1.2.2.2.2.2.1, ()))), ())).bind fun u22 =>
some ((u22.1.1, ()), (((0, (0, (0, (0, (0, ()))))), ()), (((0, (0, (0, (0, (0, (0, (0, (false, ())))))))), ()), ((u21.2.1.1, ()), ((v.1.2.2.1, ()), ()))))))
else (some ((false, ()), (((0, (0, (0, (0, (0, ()))))), ()), (((0, (0, (0, (0, (0, (0, (0, (false, ())))))))), ()), ((u21.2.1.1, ()), ((v.1.2.2.1, ()), ())))))))
else (bif ((u21.2.1.1.2.2.1 : Int) == v.1.2.2.1.2.1) then (bif ((u21.2.1.1.2.2.2.1 : Int) == 0) then ((m13 ((u21.2.1.1, (v.1.2.2.1.2.2.2.2.1, (v.1.2.2.1.2.2.2.2.2.1, ()))), ())).bind fun u23 =>
some ((u23.1.1, ()), (((0, (0, (0, (0, (0, ()))))), ()), (((0, (0, (0, (0, (0, (0, (0, (false, ())))))))), ()), ((u21.2.1.1, ()), ((v.1.2.2.1, ()), ()))))))
else (some ((false, ()), (((0, (0, (0, (0, (0, ()))))), ()), (((0, (0, (0, (0, (0, (0, (0, (false, ())))))))), ()), ((u21.2.1.1, ()), ((v.1.2.2.1, ()), ())))))))
else (some ((false, ()), (((0, (0, (0, (0, (0, ()))))), ()), (((0, (0, (0, (0, (0, (0, (0, (false, ())))))))), ()), ((u21.2.1.1, ()), ((v.1.2.2.1, ()), ()))))))))
else (some ((false, ()), (((0, (0, (0, (0, (0, ()))))), ()), (((0, (0, (0, (0, (0, (0, (0, (false, ())))))))), ()), ((u21.2.1.1, ()), ((v.1.2.2.1, ()), ()))))))) : Option ((Bool × Unit) × (((Int × Int × Int × Int × Int × Unit) × Unit) × ((Int × Int × Int × Int × Int × Int × Int × Bool × Unit) × Unit) × ((Int × Int × Int × Int × (List (Int × (Int × Int × Int × Int × Int × Int × Int × Int × Int × (Int × Int × Int × Int × Int × Int × Unit) × (Int × Int × Int × Int × Int × Unit) × Unit) × Unit)) × Int × (List Bool) × (List Int) × Unit) × Unit) × ((Int × Int × Int × Int × Int × Int × Int × (List (Int × (Int × Int × Int × Int × Int × Int × Int × Int × Int × (Int × Int × Int × Int × Int × Int × Unit) × (Int × Int × Int × Int × Int × Unit) × Unit) × Unit)) × Bool × Unit) × Unit) × Unit))).bind fun v24 =>
((bif v24.1.1 then (some ((v24.1.1, ()), (((v24.2.1.1.1, (v24.2.1.1.2.1, (v24.2.1.1.2.2.1, (v24.2.1.1.2.2.2.1, (v24.2.1.1.2.2.2.2.1, ()))))), ()), (((v24.2.2.1.1.1, (v24.2.2.1.1.2.1, (v24.2.2.1.1.2.2.1, (v24.2.2.1.1.2.2.2.1, (v24.2.2.1.1.2.2.2.2.1, (v24.2.2.1.1.2.2.2.2.2.1, (v24.2.2.1.1.2.2.2.2.2.2.1, (v24.2.2.1.1.2.2.2.2.2.2.2.1, ())))))))), ()), (((v24.2.2.2.1.1.1, (v24.2.2.2.1.1.2.1, (v24.2.2.2.2.1.1.2.1, v24.2.2.2.1.1.2.2.2))), ()), ((v24.2.2.2.2.1.1, ()), ()))))))
else (some ((v24.1.1, ()), (((v24.2.1.1.1, (v24.2.1.1.2.1, (v24.2.1.1.2.2.1, (v24.2.1.1.2.2.2.1, (v24.2.1.1.2.2.2.2.1, ()))))), ()), (((v24.2.2.1.1.1, (v24.2.2.1.1.2.1, (v24.2.2.1.1.2.2.1, (v24.2.2.1.1.2.2.2.1, (v24.2.2.1.1.2.2.2.2.1, (v24.2.2.1.1.2.2.2.2.2.1, (v24.2.2.1.1.2.2.2.2.2.2.1, (v24.2.2.1.1.2.2.2.2.2.2.2.1, ())))))))), ()), ((v24.2.2.2.1.1, ()), ((v24.2.2.2.2.1.1, ()), ()))))))) : Option ((Bool × Unit) × (((Int × Int × Int × Int × Int × Unit) × Unit) × ((Int × Int × Int × Int × Int × Int × Int × Bool × Unit) × Unit) × ((Int × Int × Int × Int × (List (Int × (Int × Int × Int × Int × Int × Int × Int × Int × Int × (Int × Int × Int × Int × Int × Int × Unit) × (Int × Int × Int × Int × Int × Unit) × Unit) × Unit)) × Int × (List Bool) × (List Int) × Unit) × Unit) × ((Int × Int × Int × Int × Int × Int × Int × (List (Int × (Int × Int × Int × Int × Int × Int × Int × Int × Int × (Int × Int × Int × Int × Int × Int × Unit) × (Int × Int × Int × Int × Int × Unit) × Unit) × Unit)) × Bool × Unit) × Unit) × Unit))).bind fun v25 =>
some ((true, ()), ((v25.2.2.2.1.1, ()), (((2, (v25.2.2.2.1.1.1, (v25.2.2.2.2.1.1.2.1, (v25.2.2.2.1.1.2.1, (0, (0, (0, (v25.1.1, ())))))))), ()), ()))))
def sp16 : Abs.Spec := ⟨0, i16, o16, m16⟩
def an16 : Nat → Abs.FAn
  | 0 => Abs.FAn.mk (fun
    | 5 => some ⟨[6, 7, 9, 4, 5], (.st (.ptr (0, 0) 8 0 0) (.st (.ptr (1, 0) 9 0 0) (.dat .bool (.st (.ptr (2, 0) 8 0 0) (.st (.ptr (3, 0) 9 0 0) .nil))))), (.box 8 (.agg (.dat (.int .i64) (.dat (.int .i64) (.dat (.int .i64) (.dat (.int .i64) (.st .nil (.dat (.int .i64) (.st .nil (.st .nil .nil)))))))) .nil) (.box 9 (.agg (.dat (.int .i64) (.dat (.int .i64) (.dat (.int .i64) (.dat (.int .i64) (.dat (.int .i64) (.dat (.int .i64) (.dat (.int .i64) (.st .nil (.dat .bool .nil))))))))) .nil) (.box 8 (.dat (.cons (.int .i64) (.cons (.int .i64) (.cons (.int .i64) (.cons (.int .i64) (.cons (.row (.cons (.int .i64) (.cons (.cons (.int .i64) (.cons (.int .i64) (.cons (.int .i64) (.cons (.int .i64) (.cons (.int .i64) (.cons (.int .i64) (.cons (.int .i64) (.cons (.int .i64) (.cons (.int .i64) (.cons (.cons (.int .i64) (.cons (.int .i64) (.cons (.int .i64) (.cons (.int .i64) (.cons (.int .i64) (.cons (.int .i64) .unit)))))) (.cons (.cons (.int .i64) (.cons (.int .i64) (.cons (.int .i64) (.cons (.int .i64) (.cons (.int .i64) .unit))))) .unit))))))))))) .unit))) (.cons (.int .i64) (.cons (.row .bool) (.cons (.row (.int .i64)) .unit)))))))) .nil) (.box 9 (.dat (.cons (.int .i64) (.cons (.int .i64) (.cons (.int .i64) (.cons (.int .i64) (.cons (.int .i64) (.cons (.int .i64) (.cons (.int .i64) (.cons (.row (.cons (.int .i64) (.cons (.cons (.int .i64) (.cons (.int .i64) (.cons (.int .i64) (.cons (.int .i64) (.cons (.int .i64) (.cons (.int .i64) (.cons (.int .i64) (.cons (.int .i64) (.cons (.int .i64) (.cons (.cons (.int .i64) (.cons (.int .i64) (.cons (.int .i64) (.cons (.int .i64) (.cons (.int .i64) (.cons (.int .i64) .unit)))))) (.cons (.cons (.int .i64) (.cons (.int .i64) (.cons (.int .i64) (.cons (.int .i64) (.cons (.int .i64) .unit))))) .unit))))))))))) .unit))) (.cons .bool .unit))))))))) .nil) .nil))))⟩
    | _ => none) (fun
    | 8 => some (⟨[6, 7, 9, 4, 5], (.st (.ptr (0, 0) 8 0 0) (.st (.ptr (1, 0) 9 0 0) (.dat .bool (.st (.ptr (2, 0) 8 0 0) (.st (.ptr (3, 0) 9 0 0) .nil))))), (.box 8 (.agg (.dat (.int .i64) (.dat (.int .i64) (.dat (.int .i64) (.dat (.int .i64) (.st .nil (.dat (.int .i64) (.st .nil (.st .nil .nil)))))))) .nil) (.box 9 (.agg (.dat (.int .i64) (.dat (.int .i64) (.dat (.int .i64) (.dat (.int .i64) (.dat (.int .i64) (.dat (.int .i64) (.dat (.int .i64) (.st .nil (.dat .bool .nil))))))))) .nil) (.box 8 (.dat (.cons (.int .i64) (.cons (.int .i64) (.cons (.int .i64) (.cons (.int .i64) (.cons (.row (.cons (.int .i64) (.cons (.cons (.int .i64) (.cons (.int .i64) (.cons (.int .i64) (.cons (.int .i64) (.cons (.int .i64) (.cons (.int .i64) (.cons (.int .i64) (.cons (.int .i64) (.cons (.int .i64) (.cons (.cons (.int .i64) (.cons (.int .i64) (.cons (.int .i64) (.cons (.int .i64) (.cons (.int .i64) (.cons (.int .i64) .unit)))))) (.cons (.cons (.int .i64) (.cons (.int .i64) (.cons (.int .i64) (.cons (.int .i64) (.cons (.int .i64) .unit))))) .unit))))))))))) .unit))) (.cons (.int .i64) (.cons (.row .bool) (.cons (.row (.int .i64)) .unit)))))))) .nil) (.box 9 (.dat (.cons (.int .i64) (.cons (.int .i64) (.cons (.int .i64) (.cons (.int .i64) (.cons (.int .i64) (.cons (.int .i64) (.cons (.int .i64) (.cons (.row (.cons (.int .i64) (.cons (.cons (.int .i64) (.cons (.int .i64) (.cons (.int .i64) (.cons (.int .i64) (.cons (.int .i64) (.cons (.int .i64) (.cons (.int .i64) (.cons (.int .i64) (.cons (.int .i64) (.cons (.cons (.int .i64) (.cons (.int .i64) (.cons (.int .i64) (.cons (.int .i64) (.cons (.int .i64) (.cons (.int .i64) .unit)))))) (.cons (.cons (.int .i64) (.cons (.int .i64) (.cons (.int .i64) (.cons (.int .i64) (.cons (.int .i64) .unit))))) .unit))))))))))) .unit))) (.cons .bool .unit))))))))) .nil) .nil))))⟩, none)
    | _ => none) (fun _ => none) (fun _ _ => 0)
  | _ => {}
theorem ok16 : Abs.SpecOK Try.prog 16 sp16 :=
  Abs.specOK_of (n := 12) (an := an16) (T := Abs.tabOf [(38, sp38), (40, sp40), (41, sp41), (13, sp13)]) good foll (Abs.tabOf_ok _ (by simp only [List.forall_mem_cons]; exact ⟨ok38, ok40, ok41, ok13, fun _ h => by cases h⟩)) rfl (by intro v; kernel_rfl)

/- pagewatch/vote.Voted -/
def i28 : Abs.Sg := ⟨[0, 1, 2], (.dat (.int .i64) (.dat (.cons (.int .i64) (.cons (.int .i64) (.cons (.int .i64) (.cons (.int .i64) (.cons (.row (.cons (.int .i64) (.cons (.cons (.int .i64) (.cons (.int .i64) (.cons (.int .i64) (.cons (.int .i64) (.cons (.int .i64) (.cons (.int .i64) (.cons (.int .i64) (.cons (.int .i64) (.cons (.int .i64) (.cons (.cons (.int .i64) (.cons (.int .i64) (.cons (.int .i64) (.cons (.int .i64) (.cons (.int .i64) (.cons (.int .i64) .unit)))))) (.cons (.cons (.int .i64) (.cons (.int .i64) (.cons (.int .i64) (.cons (.int .i64) (.cons (.int .i64) .unit))))) .unit))))))))))) .unit))) (.cons (.int .i64) (.cons (.row .bool) (.cons (.row (.int .i64)) .unit)))))))) (.dat (.cons (.int .i64) (.cons (.int .i64) (.cons (.int .i64) (.cons (.int .i64) (.cons (.int .i64) (.cons (.int .i64) (.cons (.int .i64) (.cons (.row (.cons (.int .i64) (.cons (.cons (.int .i64) (.cons (.int .i64) (.cons (.int .i64) (.cons (.int .i64) (.cons (.int .i64) (.cons (.int .i64) (.cons (.int .i64) (.cons (.int .i64) (.cons (.int .i64) (.cons (.cons (.int .i64) (.cons (.int .i64) (.cons (.int .i64) (.cons (.int .i64) (.cons (.int .i64) (.cons (.int .i64) .unit)))))) (.cons (.cons (.int .i64) (.cons (.int .i64) (.cons (.int .i64) (.cons (.int .i64) (.cons (.int .i64) .unit))))) .unit))))))))))) .unit))) (.cons .bool .unit))))))))) .nil))), .nil⟩
def o28 : Abs.Sg := ⟨[6], (.st (.ptr (0, 0) 8 0 0) .nil), (.box 8 (.dat (.cons (.int .i64) (.cons (.int .i64) (.cons (.int .i64) (.cons (.int .i64) (.cons (.row (.cons (.int .i64) (.cons (.cons (.int .i64) (.cons (.int .i64) (.cons (.int .i64) (.cons (.int .i64) (.cons (.int .i64) (.cons (.int .i64) (.cons (.int .i64) (.cons (.int .i64) (.cons (.int .i64) (.cons (.cons (.int .i64) (.cons (.int .i64) (.cons (.int .i64) (.cons (.int .i64) (.cons (.int .i64) (.cons (.int .i64) .unit)))))) (.cons (.cons (.int .i64) (.cons (.int .i64) (.cons (.int .i64) (.cons (.int .i64) (.cons (.int .i64) .unit))))) .unit))))))))))) .unit))) (.cons (.int .i64) (.cons (.row .bool) (.cons (.row (.int .i64)) .unit)))))))) .nil) .nil)⟩
def m28 (v : ((Int × (Int × Int × Int × Int × (List (Int × (Int × Int × Int × Int × Int × Int × Int × Int × Int × (Int × Int × Int × Int × Int × Int × Unit) × (Int × Int × Int × Int × Int × Unit) × Unit) × Unit)) × Int × (List Bool) × (List Int) × Unit) × (Int × Int × Int × Int × Int × Int × Int × (List (Int × (Int × Int × Int × Int × Int × Int × Int × Int × Int × (Int × Int × Int × Int × Int × Int × Unit) × (Int × Int × Int × Int × Int × Unit) × Unit) × Unit)) × Bool × Unit) × Unit) × (Unit))) : Option ((Unit) × (((Int × Int × Int × Int × (List (Int × (Int × Int × Int × Int × Int × Int × Int × Int × Int × (Int × Int × Int × Int × Int × Int × Unit) × (Int × Int × Int × Int × Int × Unit) × Unit) × Unit)) × Int × (List Bool) × (List Int) × Unit) × Unit) × Unit)) :=
(m38 ((v.1.2.1, ()), ())).bind fun u19 =>
(m40 ((v.1.1, ((u19.2.1.1.1, (u19.2.1.1.2.1, (u19.2.1.1.2.2.1, (u19.2.1.1.2.2.2.1, (u19.2.2.1, (u19.2.1.1.2.2.2.2.1, (u19.2.2.2.1, (u19.2.2.2.2.1, ())))))))), (v.1.2.2.1, (2, ())))), ())).bind fun u20 =>
bif (!u20.1.1) then (some ((), (((u19.2.1.1.1, (u19.2.1.1.2.1, (u19.2.1.1.2.2.1, (u19.2.1.1.2.2.2.1, (u19.2.2.1, (u19.2.1.1.2.2.2.2.1, (u19.2.2.2.1, (u19.2.2.2.2.1, ())))))))), ()), ())))
else (let x21 := (decide ((v.1.2.2.1.2.2.2.1 : Int) > u19.2.1.1.2.1))
bif x21 then ((m41 (((u19.2.1.1.1, (u19.2.1.1.2.1, (u19.2.1.1.2.2.1, (u19.2.1.1.2.2.2.1, (u19.2.2.1, (u19.2.1.1.2.2.2.2.1, (u19.2.2.2.1, (u19.2.2.2.2.1, ())))))))), (v.1.2.2.1.2.2.2.1, ())), ())).bind fun u22 =>
some ((), ((u22.2.1.1, ()), ())))
else (((bif ((u19.2.1.1.2.2.2.1 : Int) != 1) then (some ((true, (v.1.1, ())), (((0, (0, (0, (0, (0, ()))))), ()), (((u19.2.1.1.1, (u19.2.1.1.2.1, (u19.2.1.1.2.2.1, (u19.2.1.1.2.2.2.1, (u19.2.1.1.2.2.2.2.1, ()))))), ()), ((v.1.2.2.1, ()), (u19.2.2.1, (u19.2.2.2.1, (u19.2.2.2.2.1, ()))))))))
else (bif ((v.1.2.2.1.2.2.2.1 : Int) != u19.2.1.1.2.1) then (some ((true, (v.1.1, ())), (((0, (0, (0, (0, (0, ()))))), ()), (((u19.2.1.1.1, (u19.2.1.1.2.1, (u19.2.1.1.2.2.1, (u19.2.1.1.2.2.2.1, (u19.2.1.1.2.2.2.2.1, ()))))), ()), ((v.1.2.2.1, ()), (u19.2.2.1, (u19.2.2.2.1, (u19.2.2.2.2.1, ()))))))))
else (some (((!v.1.2.2.1.2.2.2.2.2.2.2.2.1), (v.1.1, ())), (((0, (0, (0, (0, (0, ()))))), ()), (((u19.2.1.1.1, (u19.2.1.1.2.1, (u19.2.1.1.2.2.1, (u19.2.1.1.2.2.2.1, (u19.2.1.1.2.2.2.2.1, ()))))), ()), ((v.1.2.2.1, ()), (u19.2.2.1, (u19.2.2.2.1, (u19.2.2.2.2.1, ())))))))))) : Option ((Bool × Int × Unit) × (((Int × Int × Int × Int × Int × Unit) × Unit) × ((Int × Int × Int × Int × Int × Unit) × Unit) × ((Int × Int × Int × Int × Int × Int × Int × (List (Int × (Int × Int × Int × Int × Int × Int × Int × Int × Int × (Int × Int × Int × Int × Int × Int × Unit) × (Int × Int × Int × Int × Int × Unit) × Unit) × Unit)) × Bool × Unit) × Unit) × (List (Int × (Int × Int × Int × Int × Int × Int × Int × Int × Int × (Int × Int × Int × Int × Int × Int × Unit) × (Int × Int × Int × Int × Int × Unit) × Unit) × Unit)) × (List Bool) × (List Int) × Unit))).bind fun v23 =>
bif v23.1.1 then (some ((), (((v23.2.2.1.1.1, (v23.2.2.1.1.2.1, (v23.2.2.1.1.2.2.1, (v23.2.2.1.1.2.2.2.1, (v23.2.2.2.2.1, (v23.2.2.1.1.2.2.2.2.1, (v23.2.2.2.2.2.1, (v23.2.2.2.2.2.2.1, ())))))))), ()), ())))
else (bif (decide ((0 : Int) ≤ v23.2.2.2.1.1.2.1 ∧ (v23.2.2.2.1.1.2.1 : Int) < v23.2.2.2.2.2.1.length)) then
bif (decide (v23.2.2.2.1.1.2.1.toNat < v23.2.2.2.2.2.1.length)) then
(m39 ((v23.1.2.1, ((v23.2.2.1.1.1, (v23.2.2.1.1.2.1, (v23.2.2.1.1.2.2.1, (v23.2.2.1.1.2.2.2.1, (v23.2.2.2.2.1, (v23.2.2.1.1.2.2.2.2.1, ((v23.2.2.2.2.2.1.set v23.2.2.2.1.1.2.1.toNat true), (v23.2.2.2.2.2.2.1, ())))))))), ())), ())).bind fun u24 =>
some ((), ((u24.2.1.1, ()), ()))
else none
else none)))
def sp28 : Abs.Spec := ⟨0, i28, o28, m28⟩
def an28 : Nat → Abs.FAn
  | 0 => Abs.FAn.mk (fun
    | 6 => some ⟨[38, 6, 4, 0, 5], (.dat .bool (.st (.ptr (0, 0) 8 0 0) (.st (.ptr (1, 0) 8 0 0) (.dat (.int .i64) (.st (.ptr (2, 0) 9 0 0) .nil))))), (.box 8 (.agg (.dat (.int .i64) (.dat (.int .i64) (.dat (.int .i64) (.dat (.int .i64) (.st .nil (.dat (.int .i64) (.st .nil (.st .nil .nil)))))))) .nil) (.box 8 (.agg (.dat (.int .i64) (.dat (.int .i64) (.dat (.int .i64) (.dat (.int .i64) (.st (.own (.cons (.int .i64) (.cons (.cons (.int .i64) (.cons (.int .i64) (.cons (.int .i64) (.cons (.int .i64) (.cons (.int .i64) (.cons (.int .i64) (.cons (.int .i64) (.cons (.int .i64) (.cons (.int .i64) (.cons (.cons (.int .i64) (.cons (.int .i64) (.cons (.int .i64) (.cons (.int .i64) (.cons (.int .i64) (.cons (.int .i64) .unit)))))) (.cons (.cons (.int .i64) (.cons (.int .i64) (.cons (.int .i64) (.cons (.int .i64) (.cons (.int .i64) .unit))))) .unit))))))))))) .unit)) (3, 0)) (.dat (.int .i64) (.st (.own .bool (4, 0)) (.st (.own (.int .i64) (5, 0)) .nil)))))))) .nil) (.box 9 (.dat (.cons (.int .i64) (.cons (.int .i64) (.cons (.int .i64) (.cons (.int .i64) (.cons (.int .i64) (.cons (.int .i64) (.cons (.int .i64) (.cons (.row (.cons (.int .i64) (.cons (.cons (.int .i64) (.cons (.int .i64) (.cons (.int .i64) (.cons (.int .i64) (.cons (.int .i64) (.cons (.int .i64) (.cons (.int .i64) (.cons (.int .i64) (.cons (.int .i64) (.cons (.cons (.int .i64) (.cons (.int .i64) (.cons (.int .i64) (.cons (.int .i64) (.cons (.int .i64) (.cons (.int .i64) .unit)))))) (.cons (.cons (.int .i64) (.cons (.int .i64) (.cons (.int .i64) (.cons (.int .i64) (.cons (.int .i64) .unit))))) .unit))))))))))) .unit))) (.cons .bool .unit))))))))) .nil) (.arr (.cons (.int .i64) (.cons (.cons (.int .i64) (.cons (.int .i64) (.cons (.int .i64) (.cons (.int .i64) (.cons (.int .i64) (.cons (.int .i64) (.cons (.int .i64) (.cons (.int .i64) (.cons (.int .i64) (.cons (.cons (.int .i64) (.cons (.int .i64) (.cons (.int .i64) (.cons (.int .i64) (.cons (.int .i64) (.cons (.int .i64) .unit)))))) (.cons (.cons (.int .i64) (.cons (.int .i64) (.cons (.int .i64) (.cons (.int .i64) (.cons (.int .i64) .unit))))) .unit))))))))))) .unit)) false (.arr .bool false (.arr (.int .i64) false .nil))))))⟩
    | _ => none) (fun _ => none) (fun _ => none) (fun _ _ => 0)
  | _ => {}
theorem ok28 : Abs.SpecOK Try.prog 28 sp28 :=
  Abs.specOK_of (n := 12) (an := an28) (T := Abs.tabOf [(38, sp38), (40, sp40), (41, sp41), (39, sp39)]) good foll (Abs.tabOf_ok _ (by simp only [List.forall_mem_cons]; exact ⟨ok38, ok40, ok41, ok39, fun _ h => by cases h⟩)) rfl (by intro v; kernel_rfl)

/- pagewatch/pagewatchlaw32.sane -/
def i9 : Abs.Sg := ⟨[], .nil, .nil⟩
def o9 : Abs.Sg := ⟨[0], (.dat .bool .nil), .nil⟩
def m9 (_ : ((Unit) × (Unit))) : Option ((Bool × Unit) × (Unit)) :=
(m31 ((0, (3, ())), ())).bind fun u24 =>
(m31 ((1, (3, ())), ())).bind fun u25 =>
(m15 ((3, ((u24.2.1.1.1, (u24.2.1.1.2.1, (u24.2.1.1.2.2.1, (u24.2.1.1.2.2.2.1, ([], (u24.2.1.1.2.2.2.2.1, ([], ([], ())))))))), ())), ())).bind fun u26 =>
((bif ((u24.1.1 : Int) != 0) then (some ((true, ()), ((u26.2.1.1, ()), (((u25.2.1.1.1, (u25.2.1.1.2.1, (u25.2.1.1.2.2.1, (u25.2.1.1.2.2.2.1, (u25.2.1.1.2.2.2.2.1, ()))))), ()), (u26.2.2.1, ())))))
else (bif ((u25.1.1 : Int) != 0) then (some ((true, ()), ((u26.2.1.1, ()), (((u25.2.1.1.1, (u25.2.1.1.2.1, (u25.2.1.1.2.2.1, (u25.2.1.1.2.2.2.1, (u25.2.1.1.2.2.2.2.1, ()))))), ()), (u26.2.2.1, ())))))
else (bif ((u26.1.1 : Int) != 0) then (some ((true, ()), ((u26.2.1.1, ()), (((u25.2.1.1.1, (u25.2.1.1.2.1, (u25.2.1.1.2.2.1, (u25.2.1.1.2.2.2.1, (u25.2.1.1.2.2.2.2.1, ()))))), ()), (u26.2.2.1, ())))))
else (some ((((((u26.2.2.1.length : Nat) : Int) : Int) != 2), ()), ((u26.2.1.1, ()), (((u25.2.1.1.1, (u25.2.1.1.2.1, (u25.2.1.1.2.2.1, (u25.2.1.1.2.2.2.1, (u25.2.1.1.2.2.2.2.1, ()))))), ()), (u26.2.2.1, ())))))))) : Option ((Bool × Unit) × (((Int × Int × Int × Int × (List (Int × (Int × Int × Int × Int × Int × Int × Int × Int × Int × (Int × Int × Int × Int × Int × Int × Unit) × (Int × Int × Int × Int × Int × Unit) × Unit) × Unit)) × Int × (List Bool) × (List Int) × Unit) × Unit) × ((Int × Int × Int × Int × Int × Unit) × Unit) × (List (Int × Int × Int × Int × Int × Int × Int × (List (Int × (Int × Int × Int × Int × Int × Int × Int × Int × Int × (Int × Int × Int × Int × Int × Int × Unit) × (Int × Int × Int × Int × Int × Unit) × Unit) × Unit)) × Bool × Unit)) × Unit))).bind fun v27 =>
bif v27.1.1 then (some ((false, ()), ()))
else (bif (decide ((0 : Int) ≤ 0 ∧ (0 : Int) < v27.2.2.2.1.length)) then
(v27.2.2.2.1[0]?).bind fun e28 =>
(m16 ((3, ((v27.2.2.1.1.1, (v27.2.2.1.1.2.1, (v27.2.2.1.1.2.2.1, (v27.2.2.1.1.2.2.2.1, ([], (v27.2.2.1.1.2.2.2.2.1, ([], ([], ())))))))), (e28, ()))), ())).bind fun u29 =>
(m28 ((3, (v27.2.1.1, ((u29.2.2.1.1.1, (u29.2.2.1.1.2.1, (u29.2.2.1.1.2.2.1, (u29.2.2.1.1.2.2.2.1, (u29.2.2.1.1.2.2.2.2.1, (u29.2.2.1.1.2.2.2.2.2.1, (u29.2.2.1.1.2.2.2.2.2.2.1, ([], (u29.2.2.1.1.2.2.2.2.2.2.2.1, ()))))))))), ()))), ())).bind fun u30 =>
((bif u29.1.1 then (bif u29.2.2.1.1.2.2.2.2.2.2.2.1 then (bif ((u29.2.1.1.2.2.1 : Int) == 0) then (bif ((u30.2.1.1.2.2.2.1 : Int) == 2) then ((m20 ((5, ()), ())).bind fun u31 =>
some ((((u31.1.1 : Int) == 3), ()), ()))
else (some ((false, ()), ())))
else (some ((false, ()), ())))
else (some ((false, ()), ())))
else (some ((false, ()), ()))) : Option ((Bool × Unit) × (Unit))).bind fun v32 =>
some ((v32.1.1, ()), ())
else none)
def sp9 : Abs.Spec := ⟨0, i9, o9, m9⟩
def an9 : Nat → Abs.FAn
  | 0 => Abs.FAn.mk (fun
    | 8 => some ⟨[0], (.dat .bool .nil), .nil⟩
    | 4 => some ⟨[37, 1, 3, 5], (.dat .bool (.st (.ptr (0, 0) 8 0 0) (.st (.ptr (1, 0) 8 0 0) (.st (.own (.cons (.int .i64) (.cons (.int .i64) (.cons (.int .i64) (.cons (.int .i64) (.cons (.int .i64) (.cons (.int .i64) (.cons (.int .i64) (.cons (.row (.cons (.int .i64) (.cons (.cons (.int .i64) (.cons (.int .i64) (.cons (.int .i64) (.cons (.int .i64) (.cons (.int .i64) (.cons (.int .i64) (.cons (.int .i64) (.cons (.int .i64) (.cons (.int .i64) (.cons (.cons (.int .i64) (.cons (.int .i64) (.cons (.int .i64) (.cons (.int .i64) (.cons (.int .i64) (.cons (.int .i64) .unit)))))) (.cons (.cons (.int .i64) (.cons (.int .i64) (.cons (.int .i64) (.cons (.int .i64) (.cons (.int .i64) .unit))))) .unit))))))))))) .unit))) (.cons .bool .unit))))))))) (2, 0)) .nil)))), (.box 8 (.dat (.cons (.int .i64) (.cons (.int .i64) (.cons (.int .i64) (.cons (.int .i64) (.cons (.row (.cons (.int .i64) (.cons (.cons (.int .i64) (.cons (.int .i64) (.cons (.int .i64) (.cons (.int .i64) (.cons (.int .i64) (.cons (.int .i64) (.cons (.int .i64) (.cons (.int .i64) (.cons (.int .i64) (.cons (.cons (.int .i64) (.cons (.int .i64) (.cons (.int .i64) (.cons (.int .i64) (.cons (.int .i64) (.cons (.int .i64) .unit)))))) (.cons (.cons (.int .i64) (.cons (.int .i64) (.cons (.int .i64) (.cons (.int .i64) (.cons (.int .i64) .unit))))) .unit))))))))))) .unit))) (.cons (.int .i64) (.cons (.row .bool) (.cons (.row (.int .i64)) .unit)))))))) .nil) (.box 8 (.agg (.dat (.int .i64) (.dat (.int .i64) (.dat (.int .i64) (.dat (.int .i64) (.st .nil (.dat (.int .i64) (.st .nil (.st .nil .nil)))))))) .nil) (.arr (.cons (.int .i64) (.cons (.int .i64) (.cons (.int .i64) (.cons (.int .i64) (.cons (.int .i64) (.cons (.int .i64) (.cons (.int .i64) (.cons (.row (.cons (.int .i64) (.cons (.cons (.int .i64) (.cons (.int .i64) (.cons (.int .i64) (.cons (.int .i64) (.cons (.int .i64) (.cons (.int .i64) (.cons (.int .i64) (.cons (.int .i64) (.cons (.int .i64) (.cons (.cons (.int .i64) (.cons (.int .i64) (.cons (.int .i64) (.cons (.int .i64) (.cons (.int .i64) (.cons (.int .i64) .unit)))))) (.cons (.cons (.int .i64) (.cons (.int .i64) (.cons (.int .i64) (.cons (.int .i64) (.cons (.int .i64) .unit))))) .unit))))))))))) .unit))) (.cons .bool .unit))))))))) false .nil)))⟩
    | _ => none) (fun _ => none) (fun _ => none) (fun _ _ => 0)
  | _ => {}
theorem ok9 : Abs.SpecOK Try.prog 9 sp9 :=
  Abs.specOK_of (n := 12) (an := an9) (T := Abs.tabOf [(31, sp31), (15, sp15), (16, sp16), (28, sp28), (20, sp20)]) good foll (Abs.tabOf_ok _ (by simp only [List.forall_mem_cons]; exact ⟨ok31, ok15, ok16, ok28, ok20, fun _ h => by cases h⟩)) rfl (by intro v; kernel_rfl)

def l6_0_5 (v : ((Int × Int × Int × Int × Int × Int × Int × Int × Unit) × (Unit))) : Option (((Int × Int × Int × Int × Int × Int × Int × Int × Unit) × (Unit)) ⊕ ((Int × Int × Int × Int × Int × Unit) × (Unit))) :=
bif (decide ((v.1.1 : Int) < v.1.2.2.2.2.2.2.2.1)) then (((bif (decide ((0 : Int) ≤ (IntKind.wrap .u64 (v.1.1)))) then
let x58 := (shrI .u8 (v.1.2.2.2.2.2.1) ((IntKind.wrap .u64 (v.1.1))))
bif (decide ((0 : Int) ≤ (IntKind.wrap .u64 (v.1.1)))) then
let x59 := (shrI .u8 (v.1.2.2.2.2.1) ((IntKind.wrap .u64 (v.1.1))))
((bif (((bitI .and .u8 (x58) (1)) : Int) == 1) then (some (((w64 (v.1.2.2.2.1 + 1)), (v.1.2.2.2.2.1, (v.1.2.2.2.2.2.1, (v.1.2.2.2.2.2.2.1, (v.1.2.2.2.2.2.2.2.1, (v.1.1, (v.1.2.1, ((((bitI .and .u8 (x59) (1)) : Int) == 1), ((((bitI .and .u8 (x58) (1)) : Int) == 1), (v.1.2.2.1, ())))))))))), ()))
else (some ((v.1.2.2.2.1, (v.1.2.2.2.2.1, (v.1.2.2.2.2.2.1, (v.1.2.2.2.2.2.2.1, (v.1.2.2.2.2.2.2.2.1, (v.1.1, (v.1.2.1, ((((bitI .and .u8 (x59) (1)) : Int) == 1), ((((bitI .and .u8 (x58) (1)) : Int) == 1), (v.1.2.2.1, ())))))))))), ()))) : Option ((Int × Int × Int × Int × Int × Int × Int × Bool × Bool × Int × Unit) × (Unit))).bind fun v60 =>
((bif v60.1.2.2.2.2.2.2.2.1 then (some (((w64 (v60.1.2.2.2.2.2.2.2.2.2.1 + 1)), (v60.1.1, (v60.1.2.1, (v60.1.2.2.1, (v60.1.2.2.2.1, (v60.1.2.2.2.2.1, (v60.1.2.2.2.2.2.1, (v60.1.2.2.2.2.2.2.1, (v60.1.2.2.2.2.2.2.2.1, (v60.1.2.2.2.2.2.2.2.2.1, ())))))))))), ()))
else (some ((v60.1.2.2.2.2.2.2.2.2.2.1, (v60.1.1, (v60.1.2.1, (v60.1.2.2.1, (v60.1.2.2.2.1, (v60.1.2.2.2.2.1, (v60.1.2.2.2.2.2.1, (v60.1.2.2.2.2.2.2.1, (v60.1.2.2.2.2.2.2.2.1, (v60.1.2.2.2.2.2.2.2.2.1, ())))))))))), ()))) : Option ((Int × Int × Int × Int × Int × Int × Int × Int × Bool × Bool × Unit) × (Unit))).bind fun v61 =>
((bif v61.1.2.2.2.2.2.2.2.2.2.1 then (some ((v61.1.2.2.2.2.2.2.2.2.1, (v61.1.1, (v61.1.2.1, (v61.1.2.2.1, (v61.1.2.2.2.1, (v61.1.2.2.2.2.1, (v61.1.2.2.2.2.2.1, (v61.1.2.2.2.2.2.2.1, (v61.1.2.2.2.2.2.2.2.1, ()))))))))), ()))
else (some ((false, (v61.1.1, (v61.1.2.1, (v61.1.2.2.1, (v61.1.2.2.2.1, (v61.1.2.2.2.2.1, (v61.1.2.2.2.2.2.1, (v61.1.2.2.2.2.2.2.1, (v61.1.2.2.2.2.2.2.2.1, ()))))))))), ()))) : Option ((Bool × Int × Int × Int × Int × Int × Int × Int × Int × Unit) × (Unit))).bind fun v62 =>
bif v62.1.1 then (some (((w64 (v62.1.2.2.2.2.2.2.2.2.1 + 1)), (v62.1.2.1, (v62.1.2.2.1, (v62.1.2.2.2.1, (v62.1.2.2.2.2.1, (v62.1.2.2.2.2.2.1, (v62.1.2.2.2.2.2.2.1, (v62.1.2.2.2.2.2.2.2.1, ())))))))), ()))
else (some ((v62.1.2.2.2.2.2.2.2.2.1, (v62.1.2.1, (v62.1.2.2.1, (v62.1.2.2.2.1, (v62.1.2.2.2.2.1, (v62.1.2.2.2.2.2.1, (v62.1.2.2.2.2.2.2.1, (v62.1.2.2.2.2.2.2.2.1, ())))))))), ()))
else none
else none) : Option ((Int × Int × Int × Int × Int × Int × Int × Int × Unit) × (Unit))).bind fun v63 =>
some (.inl (((w64 (v63.1.2.2.2.2.2.2.2.1 + 1)), (v63.1.1, (v63.1.2.1, (v63.1.2.2.1, (v63.1.2.2.2.1, (v63.1.2.2.2.2.1, (v63.1.2.2.2.2.2.1, (v63.1.2.2.2.2.2.2.1, ())))))))), ())))
else (some (.inr ((v.1.2.1, (v.1.2.2.2.2.2.2.1, (v.1.2.2.1, (v.1.2.2.2.1, (v.1.2.2.2.2.2.2.2.1, ()))))), ())))

/- pagewatch/pagewatchlaw32.VoteQuorums -/
def i6 : Abs.Sg := ⟨[0, 1, 2], (.dat (.int .u8) (.dat (.int .u8) (.dat (.int .u8) .nil))), .nil⟩
def o6 : Abs.Sg := ⟨[6], (.dat .bool .nil), .nil⟩
def m6 (v : ((Int × Int × Int × Unit) × (Unit))) : Option ((Bool × Unit) × (Unit)) :=
(m20 (((w64 (1 + (((w64 (v.1.1)) : Int).tmod 5))), ()), ())).bind fun u57 =>
(loopT l6_0_5 ((0, (0, (0, (0, (v.1.2.2.1, (v.1.2.1, (u57.1.1, ((w64 (1 + (((w64 (v.1.1)) : Int).tmod 5))), ())))))))), ())).bind fun d64 =>
((bif (decide ((d64.1.2.1 : Int) > 0)) then (let x65 := (decide (((w64 (2 * d64.1.2.1)) : Int) > d64.1.2.2.2.2.1))
bif x65 then (let x66 := (decide (((w64 (2 * (w64 (d64.1.2.1 - 1)))) : Int) ≤ d64.1.2.2.2.2.1))
bif x66 then (bif (decide ((d64.1.2.2.2.1 : Int) < d64.1.2.1)) then ((m20 ((0, ()), ())).bind fun u67 =>
bif ((u67.1.1 : Int) == 0) then ((m20 ((6, ()), ())).bind fun u68 =>
bif ((u68.1.1 : Int) == 0) then ((m9 ((), ())).bind fun u69 =>
some ((u69.1.1, ()), ()))
else (some ((false, ()), ())))
else (some ((false, ()), ())))
else (bif (decide ((d64.1.2.2.1 : Int) < d64.1.2.1)) then ((m20 ((0, ()), ())).bind fun u70 =>
bif ((u70.1.1 : Int) == 0) then ((m20 ((6, ()), ())).bind fun u71 =>
bif ((u71.1.1 : Int) == 0) then ((m9 ((), ())).bind fun u72 =>
some ((u72.1.1, ()), ()))
else (some ((false, ()), ())))
else (some ((false, ()), ())))
else (bif (decide ((d64.1.1 : Int) > 0)) then ((m20 ((0, ()), ())).bind fun u73 =>
bif ((u73.1.1 : Int) == 0) then ((m20 ((6, ()), ())).bind fun u74 =>
bif ((u74.1.1 : Int) == 0) then ((m9 ((), ())).bind fun u75 =>
some ((u75.1.1, ()), ()))
else (some ((false, ()), ())))
else (some ((false, ()), ())))
else (some ((false, ()), ())))))
else (some ((false, ()), ())))
else (some ((false, ()), ())))
else (some ((false, ()), ()))) : Option ((Bool × Unit) × (Unit))).bind fun v76 =>
some ((v76.1.1, ()), ())
def sp6 : Abs.Spec := ⟨0, i6, o6, m6⟩
def an6 : Nat → Abs.FAn
  | 0 => Abs.FAn.mk (fun
    | 14 => some ⟨[6], (.dat .bool .nil), .nil⟩
    | 12 => some ⟨[47, 10, 9, 2, 1, 8, 7, 12, 11], (.dat .bool (.dat (.int .i64) (.dat (.int .i64) (.dat (.int .u8) (.dat (.int .u8) (.dat (.int .i64) (.dat (.int .i64) (.dat (.int .i64) (.dat (.int .i64) .nil))))))))), .nil⟩
    | _ => none) (fun
    | 6 => some (⟨[11, 10, 9, 2, 1, 8, 7, 12], (.dat (.int .i64) (.dat (.int .i64) (.dat (.int .i64) (.dat (.int .u8) (.dat (.int .u8) (.dat (.int .i64) (.dat (.int .i64) (.dat (.int .i64) .nil)))))))), .nil⟩, none)
    | 12 => some (⟨[10, 9, 2, 1, 8, 7, 12, 11, 14, 13], (.dat (.int .i64) (.dat (.int .i64) (.dat (.int .u8) (.dat (.int .u8) (.dat (.int .i64) (.dat (.int .i64) (.dat (.int .i64) (.dat (.int .i64) (.dat .bool (.dat .bool .nil)))))))))), .nil⟩, none)
    | 10 => some (⟨[9, 2, 1, 8, 7, 12, 11, 14, 13, 10], (.dat (.int .i64) (.dat (.int .u8) (.dat (.int .u8) (.dat (.int .i64) (.dat (.int .i64) (.dat (.int .i64) (.dat (.int .i64) (.dat .bool (.dat .bool (.dat (.int .i64) .nil)))))))))), .nil⟩, none)
    | _ => none) (fun
    | 5 => some ⟨⟨[12, 11, 10, 9, 2, 1, 8, 7], (.dat (.int .i64) (.dat (.int .i64) (.dat (.int .i64) (.dat (.int .i64) (.dat (.int .u8) (.dat (.int .u8) (.dat (.int .i64) (.dat (.int .i64) .nil)))))))), .nil⟩, (.one (.exit 0) ⟨[11, 8, 10, 9, 7], (.dat (.int .i64) (.dat (.int .i64) (.dat (.int .i64) (.dat (.int .i64) (.dat (.int .i64) .nil))))), .nil⟩)⟩
    | _ => none) (fun _ _ => 0)
  | _ => {}
theorem ok6 : Abs.SpecOK Try.prog 6 sp6 :=
  Abs.specOK_of (n := 12) (an := an6) (T := Abs.tabOf [(20, sp20), (9, sp9)]) good foll (Abs.tabOf_ok _ (by simp only [List.forall_mem_cons]; exact ⟨ok20, ok9, fun _ h => by cases h⟩)) rfl (by intro v; kernel_rfl)

end
end Go.Proofs.Ytigpidafkicggaa
