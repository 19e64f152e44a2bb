/- What each function makes of typed values. -/
import Derived.Test.YtnmfcglhgaocoaaChecked
import Derived.Test.YtnmfcglhgaocoaaPxH
import Derived.ProofKit
namespace Go.Proofs.Ytnmfcglhgaocoaa
open Go Go.Abs
noncomputable section
def note : FuncId → Abs.Note
  | 2 => ⟨true, [], false, fun _ => []⟩
  | 3 => ⟨true, [0, 1, 2, 6, 7, 8, 9, 10, 11, 12, 13, 14, 15, 16, 17, 18, 19, 22, 31, 60], false, fun | 19 => [(0, 4), (0, 8), (4, 8), (0, 9)] | 20 => [(24, 25)] | _ => []⟩
  | 4 => ⟨true, [0, 1, 4, 5, 6, 7, 8, 9, 10, 11, 14, 23], false, fun _ => []⟩
  | 5 => ⟨true, [0, 1, 4, 5, 6, 7, 8, 10, 11, 12, 13, 14, 15, 16, 18, 21, 29, 30, 31, 32, 37, 67, 80, 81, 82, 83, 94], false, fun | 19 => [(4, 9)] | _ => []⟩
  | 6 => ⟨true, [0, 1, 2, 3, 4, 6, 7, 10, 11, 12, 13, 15, 17, 19, 20, 21, 22, 23, 24, 25, 33, 41, 42, 48, 54, 60, 69, 70, 71, 72, 80, 81, 82, 83, 87, 88, 89, 90, 163, 177], false, fun | 27 => [(11, 12)] | 31 => [(1, 2), (7, 8)] | 35 => [(1, 2), (7, 8), (15, 17)] | _ => []⟩
  | 7 => ⟨true, [0, 1, 4, 5, 6, 7, 8, 11, 30, 66, 68, 69, 70, 113], false, fun | 4 => [(3, 6)] | _ => []⟩
  | 8 => ⟨true, [0, 2], false, fun _ => []⟩
  | 9 => ⟨true, [0, 1, 2, 3, 4], false, fun _ => []⟩
  | 10 => ⟨true, [0, 2], false, fun _ => []⟩
  | 11 => ⟨true, [0, 2], false, fun _ => []⟩
  | 12 => ⟨true, [0, 1, 4, 5, 19, 40], false, fun _ => []⟩
  | 13 => ⟨true, [0, 1, 4], false, fun _ => []⟩
  | 14 => ⟨true, [0, 1, 2, 3, 4, 6, 7, 8, 9, 17], false, fun _ => []⟩
  | 15 => ⟨true, [0, 1, 2, 5], false, fun _ => []⟩
  | 16 => ⟨true, [0, 2], false, fun _ => []⟩
  | 17 => ⟨true, [0, 1, 2, 4, 5, 7], false, fun _ => []⟩
  | 18 => ⟨true, [0, 2, 3, 4, 8], false, fun _ => []⟩
  | 19 => ⟨true, [0, 1, 2], false, fun _ => []⟩
  | 20 => ⟨true, [0, 1, 3, 4, 5, 17, 25], false, fun _ => []⟩
  | 21 => ⟨true, [0, 1, 4, 16], false, fun _ => []⟩
  | 22 => ⟨true, [0, 1, 2, 3, 6, 7, 8, 9, 10, 11, 12, 20, 24, 32, 48], false, fun _ => []⟩
  | 23 => ⟨true, [0, 1, 2, 4, 5, 6, 9, 13, 28], false, fun _ => []⟩
  | 24 => ⟨true, [0, 1, 4, 20], false, fun _ => []⟩
  | 25 => ⟨true, [0, 1, 4, 5, 10, 14, 25], false, fun _ => []⟩
  | 26 => ⟨true, [0, 1, 3, 4, 5, 17, 25], false, fun _ => []⟩
  | 27 => ⟨true, [0, 1, 3, 4, 5, 6, 12, 14, 15, 16], false, fun _ => []⟩
  | 28 => ⟨true, [0, 1, 3, 4, 5, 6, 7, 19], false, fun _ => []⟩
  | 29 => ⟨true, [0, 1, 2], false, fun _ => []⟩
  | 30 => ⟨true, [0, 1, 2], false, fun _ => []⟩
  | 31 => ⟨true, [0, 1, 2, 5], false, fun _ => []⟩
  | 32 => ⟨true, [0, 1, 2], false, fun _ => []⟩
  | 33 => ⟨true, [0, 1, 2, 6], false, fun _ => []⟩
  | 34 => ⟨true, [0, 1, 2, 3, 6, 7, 9, 10, 11, 18], false, fun _ => []⟩
  | 35 => ⟨true, [0, 1, 2, 3, 4, 5, 7, 8, 24], false, fun _ => []⟩
  | 36 => ⟨true, [0, 1, 2, 3, 5], false, fun _ => []⟩
  | 37 => ⟨true, [0, 1, 2, 6], false, fun _ => []⟩
  | _ => ⟨false, [], false, fun _ => []⟩

theorem good : Abs.Good Try.prog note := Abs.good_of (by kernel_rfl)
theorem foll : (Try.prog).follows .mixedOrders = true := by kernel_rfl

/- pagewatch/pagewatchmade.Light -/
def i8 : Abs.Sg := ⟨[0], (.dat (.row (.int .i64)) .nil), .nil⟩
def o8 : Abs.Sg := ⟨[2], (.dat .bool .nil), .nil⟩
def m8 (v : (((List Int) × Unit) × (Unit))) : Option ((Bool × Unit) × (Unit)) :=
some (((decide (((v.1.1.length : Int) : Int) ≤ 500)), ()), ())
def sp8 : Abs.Spec := ⟨0, i8, o8, m8⟩
def an8 : Nat → Abs.FAn
  | _ => {}
theorem ok8 : Abs.SpecOK Try.prog 8 sp8 :=
  Abs.specOK_of (n := 12) (an := an8) (T := Abs.tabOf []) good foll (Abs.tabOf_ok _ (fun _ h => by cases h)) rfl (by intro v; kernel_rfl)

/- pagewatch/channel.in -/
def i33 : Abs.Sg := ⟨[0, 1, 2], (.dat (.int .i64) (.dat (.int .i64) (.dat (.int .i64) .nil))), .nil⟩
def o33 : Abs.Sg := ⟨[6], (.dat .bool .nil), .nil⟩
def m33 (v : ((Int × Int × Int × Unit) × (Unit))) : Option ((Bool × Unit) × (Unit)) :=
((bif (decide ((v.1.1 : Int) ≥ v.1.2.1)) then (some (((decide ((v.1.1 : Int) ≤ v.1.2.2.1)), ()), ()))
else (some ((false, ()), ()))) : Option ((Bool × Unit) × (Unit))).bind fun v1 =>
some ((v1.1.1, ()), ())
def sp33 : Abs.Spec := ⟨0, i33, o33, m33⟩
def an33 : Nat → Abs.FAn
  | 0 => Abs.FAn.mk (fun
    | 1 => some ⟨[6], (.dat .bool .nil), .nil⟩
    | _ => none) (fun _ => none) (fun _ => none) (fun _ _ => 0)
  | _ => {}
theorem ok33 : Abs.SpecOK Try.prog 33 sp33 :=
  Abs.specOK_of (n := 12) (an := an33) (T := Abs.tabOf []) good foll (Abs.tabOf_ok _ (fun _ h => by cases h)) rfl (by intro v; kernel_rfl)

/- pagewatch/channel.Valid -/
def i29 : Abs.Sg := ⟨[0], (.dat (.cons (.int .i64) (.cons (.int .i64) (.cons (.int .i64) (.cons (.int .i64) .unit)))) .nil), .nil⟩
def o29 : Abs.Sg := ⟨[2], (.dat .bool .nil), .nil⟩
def m29 (v : (((Int × Int × Int × Int × Unit) × Unit) × (Unit))) : Option ((Bool × Unit) × (Unit)) :=
(((m33 ((v.1.1.1, (0, (2, ()))), ())).bind fun u9 =>
bif u9.1.1 then ((m33 ((v.1.1.2.1, (0, (3600, ()))), ())).bind fun u10 =>
bif u10.1.1 then ((m33 ((v.1.1.2.2.1, (1, (6, ()))), ())).bind fun u11 =>
bif u11.1.1 then ((m33 ((v.1.1.2.2.2.1, (1, (3600, ()))), ())).bind fun u12 =>
some ((u12.1.1, ()), ()))
else (some ((false, ()), ())))
else (some ((false, ()), ())))
else (some ((false, ()), ()))) : Option ((Bool × Unit) × (Unit))).bind fun v13 =>
some ((v13.1.1, ()), ())
def sp29 : Abs.Spec := ⟨0, i29, o29, m29⟩
def an29 : Nat → Abs.FAn
  | 0 => Abs.FAn.mk (fun
    | 1 => some ⟨[2], (.dat .bool .nil), .nil⟩
    | _ => none) (fun _ => none) (fun _ => none) (fun _ _ => 0)
  | _ => {}
theorem ok29 : Abs.SpecOK Try.prog 29 sp29 :=
  Abs.specOK_of (n := 12) (an := an29) (T := Abs.tabOf [(33, sp33)]) good foll (Abs.tabOf_ok _ (by simp only [List.forall_mem_cons]; exact ⟨ok33, fun _ h => by cases h⟩)) rfl (by intro v; kernel_rfl)

/- 35 pagewatch/channel.Reach$1: not told by a law: a closure -/

/- pagewatch/channel.ValidFate -/
def i32 : Abs.Sg := ⟨[0], (.dat (.cons .bool (.cons (.int .i64) (.cons (.int .i64) (.cons (.int .i64) .unit)))) .nil), .nil⟩
def o32 : Abs.Sg := ⟨[2], (.dat .bool .nil), .nil⟩
def m32 (v : (((Bool × Int × Int × Int × Unit) × Unit) × (Unit))) : Option ((Bool × Unit) × (Unit)) :=
(((m33 ((v.1.1.2.1, (0, (86400, ()))), ())).bind fun u7 =>
bif u7.1.1 then ((m33 ((v.1.1.2.2.1, (0, (86400, ()))), ())).bind fun u8 =>
bif u8.1.1 then ((m33 ((v.1.1.2.2.2.1, ((-1), (86400, ()))), ())).bind fun u9 =>
some ((u9.1.1, ()), ()))
else (some ((false, ()), ())))
else (some ((false, ()), ()))) : Option ((Bool × Unit) × (Unit))).bind fun v10 =>
some ((v10.1.1, ()), ())
def sp32 : Abs.Spec := ⟨0, i32, o32, m32⟩
def an32 : Nat → Abs.FAn
  | 0 => Abs.FAn.mk (fun
    | 1 => some ⟨[2], (.dat .bool .nil), .nil⟩
    | _ => none) (fun _ => none) (fun _ => none) (fun _ _ => 0)
  | _ => {}
theorem ok32 : Abs.SpecOK Try.prog 32 sp32 :=
  Abs.specOK_of (n := 12) (an := an32) (T := Abs.tabOf [(33, sp33)]) good foll (Abs.tabOf_ok _ (by simp only [List.forall_mem_cons]; exact ⟨ok33, fun _ h => by cases h⟩)) rfl (by intro v; kernel_rfl)

/- pagewatch/channel.Fates -/
def i21 : Abs.Sg := ⟨[0, 1], (.dat (.row (.cons .bool (.cons (.int .i64) (.cons (.int .i64) (.cons (.int .i64) .unit))))) (.dat (.int .i64) .nil)), .nil⟩
def o21 : Abs.Sg := ⟨[4], (.st (.ptr (0, 0) 4 0 0) .nil), (.box 4 (.dat (.cons .bool (.cons (.int .i64) (.cons (.int .i64) (.cons (.int .i64) .unit)))) .nil) .nil)⟩
def m21 (v : (((List (Bool × Int × Int × Int × Unit)) × Int × Unit) × (Unit))) : Option ((Unit) × (((Bool × Int × Int × Int × Unit) × Unit) × Unit)) :=
(((m33 ((v.1.2.1, (0, ((w64 ((v.1.1.length : Int) - 1)), ()))), ())).bind fun u18 =>
bif u18.1.1 then (Abs.rowAt v.1.1 v.1.2.1 fun e19 _ =>
(m32 ((e19, ()), ())).bind fun u20 =>
some ((u20.1.1, (v.1.2.1, (v.1.1, ()))), (((false, (0, (0, (0, ())))), ()), ())))
else (some ((false, (v.1.2.1, (v.1.1, ()))), (((false, (0, (0, (0, ())))), ()), ())))) : Option ((Bool × Int × (List (Bool × Int × Int × Int × Unit)) × Unit) × (((Bool × Int × Int × Int × Unit) × Unit) × Unit))).bind fun v21 =>
bif v21.1.1 then (Abs.rowAt v21.1.2.2.1 v21.1.2.1 fun e22 _ =>
some ((), ((e22, ()), ())))
else (some ((), (((true, (0, (0, (0, ())))), ()), ())))
def sp21 : Abs.Spec := ⟨0, i21, o21, m21⟩
def an21 : Nat → Abs.FAn
  | 0 => Abs.FAn.mk (fun
    | 1 => some ⟨[16, 4, 1, 0], (.dat .bool (.st (.ptr (0, 0) 4 0 0) (.dat (.int .i64) (.dat (.row (.cons .bool (.cons (.int .i64) (.cons (.int .i64) (.cons (.int .i64) .unit))))) .nil)))), (.box 4 (.dat (.cons .bool (.cons (.int .i64) (.cons (.int .i64) (.cons (.int .i64) .unit)))) .nil) .nil)⟩
    | _ => none) (fun _ => none) (fun _ => none) (fun _ _ => 0)
  | _ => {}
theorem ok21 : Abs.SpecOK Try.prog 21 sp21 :=
  Abs.specOK_of (n := 12) (an := an21) (T := Abs.tabOf [(33, sp33), (32, sp32)]) good foll (Abs.tabOf_ok _ (by simp only [List.forall_mem_cons]; exact ⟨ok33, ok32, fun _ h => by cases h⟩)) rfl (by intro v; kernel_rfl)

/- 34 pagewatch/channel.tries: not told by a law: a parameter -/

def l14_1_2 (v : ((Int × (List (Bool × Int × Int × Int × Unit)) × Int × Unit) × ((Int × Unit) × ((Int × Int × Int × Int × Unit) × Unit) × (Bool × Unit) × (Int × Unit) × Unit))) : Option (((Int × (List (Bool × Int × Int × Int × Unit)) × Int × Unit) × ((Int × Unit) × ((Int × Int × Int × Int × Unit) × Unit) × (Bool × Unit) × (Int × Unit) × Unit)) ⊕ ((Unit) × ((Int × Unit) × ((Int × Int × Int × Int × Unit) × Unit) × (Bool × Unit) × (Int × Unit) × Unit))) :=
bif (decide ((v.1.1 : Int) < v.1.2.2.1)) then ((((m21 ((v.1.2.1, (v.1.1, ())), ())).bind fun u57 =>
bif (!u57.2.1.1.1) then (((let x58 := (w64 (v.2.1.1 + (w64 (v.1.1 * v.2.2.1.1.2.2.2.1))))
((bif (!v.2.2.2.1.1) then (some ((true, ((w64 (x58 + u57.2.1.1.2.1)), ())), ((v.2.1.1, ()), ((v.2.2.1.1, ()), ((v.2.2.2.1.1, ()), ((v.2.2.2.2.1.1, ()), ()))))))
else (let x59 := (decide (((w64 (x58 + u57.2.1.1.2.1)) : Int) < v.2.2.2.2.1.1))
some ((x59, ((w64 (x58 + u57.2.1.1.2.1)), ())), ((v.2.1.1, ()), ((v.2.2.1.1, ()), ((v.2.2.2.1.1, ()), ((v.2.2.2.2.1.1, ()), ()))))))) : Option ((Bool × Int × Unit) × ((Int × Unit) × ((Int × Int × Int × Int × Unit) × Unit) × (Bool × Unit) × (Int × Unit) × Unit))).bind fun v60 =>
bif v60.1.1 then (some ((v.1.2.1, (v.1.2.2.1, (v.1.1, ()))), ((v60.2.1.1, ()), ((v60.2.2.1.1, ()), ((true, ()), ((v60.1.2.1, ()), ()))))))
else (some ((v.1.2.1, (v.1.2.2.1, (v.1.1, ()))), ((v60.2.1.1, ()), ((v60.2.2.1.1, ()), ((v60.2.2.2.1.1, ()), ((v60.2.2.2.2.1.1, ()), ()))))))) : Option (((List (Bool × Int × Int × Int × Unit)) × Int × Int × Unit) × ((Int × Unit) × ((Int × Int × Int × Int × Unit) × Unit) × (Bool × Unit) × (Int × Unit) × Unit))).bind fun v61 =>
some ((v61.1.1, (v61.1.2.1, (v61.1.2.2.1, ()))), ((v61.2.1.1, ()), ((v61.2.2.1.1, ()), ((v61.2.2.2.1.1, ()), ((v61.2.2.2.2.1.1, ()), ()))))))
else (some ((v.1.2.1, (v.1.2.2.1, (v.1.1, ()))), ((v.2.1.1, ()), ((v.2.2.1.1, ()), ((v.2.2.2.1.1, ()), ((v.2.2.2.2.1.1, ()), ()))))))) : Option (((List (Bool × Int × Int × Int × Unit)) × Int × Int × Unit) × ((Int × Unit) × ((Int × Int × Int × Int × Unit) × Unit) × (Bool × Unit) × (Int × Unit) × Unit))).bind fun v62 =>
some (.inl (((w64 (v62.1.2.2.1 + 1)), (v62.1.1, (v62.1.2.1, ()))), ((v62.2.1.1, ()), ((v62.2.2.1.1, ()), ((v62.2.2.2.1.1, ()), ((v62.2.2.2.2.1.1, ()), ())))))))
else (some (.inr ((), ((v.2.1.1, ()), ((v.2.2.1.1, ()), ((v.2.2.2.1.1, ()), ((v.2.2.2.2.1.1, ()), ())))))))

/- pagewatch/channel.Reach -/
def i14 : Abs.Sg := ⟨[0, 1, 2], (.dat (.cons (.int .i64) (.cons (.int .i64) (.cons (.int .i64) (.cons (.int .i64) .unit)))) (.dat (.int .i64) (.dat (.row (.cons .bool (.cons (.int .i64) (.cons (.int .i64) (.cons (.int .i64) .unit))))) .nil))), .nil⟩
def o14 : Abs.Sg := ⟨[6, 7], (.dat (.int .i64) (.dat .bool .nil)), .nil⟩
def m14 (v : (((Int × Int × Int × Int × Unit) × Int × (List (Bool × Int × Int × Int × Unit)) × Unit) × (Unit))) : Option ((Int × Bool × Unit) × (Unit)) :=
(((m29 ((v.1.1, ()), ())).bind fun u54 =>
bif (!u54.1.1) then (some ((true, (v.1.2.2.1, ())), ((v.1.2.1, ()), ((v.1.1, ()), ()))))
else ((m33 ((v.1.2.1, (0, (8589934592, ()))), ())).bind fun u55 =>
some (((!u55.1.1), (v.1.2.2.1, ())), ((v.1.2.1, ()), ((v.1.1, ()), ()))))) : Option ((Bool × (List (Bool × Int × Int × Int × Unit)) × Unit) × ((Int × Unit) × ((Int × Int × Int × Int × Unit) × Unit) × Unit))).bind fun v56 =>
bif v56.1.1 then (some ((0, (false, ())), ()))
else ((loopT l14_1_2 ((0, (v56.1.2.1, (v56.2.2.1.1.2.2.1, ()))), ((v56.2.1.1, ()), ((v56.2.2.1.1, ()), ((false, ()), ((0, ()), ())))))).bind fun d63 =>
some ((d63.2.2.2.2.1.1, (d63.2.2.2.1.1, ())), ()))
def sp14 : Abs.Spec := ⟨0, i14, o14, m14⟩
def an14 : Nat → Abs.FAn
  | 0 => Abs.FAn.mk (fun
    | 1 => some ⟨[17, 4, 3, 2], (.dat .bool (.st (.ptr (0, 0) 1 0 0) (.st (.ptr (1, 0) 4 0 0) (.dat (.row (.cons .bool (.cons (.int .i64) (.cons (.int .i64) (.cons (.int .i64) .unit))))) .nil)))), (.box 1 (.dat (.int .i64) .nil) (.box 4 (.dat (.cons (.int .i64) (.cons (.int .i64) (.cons (.int .i64) (.cons (.int .i64) .unit)))) .nil) .nil))⟩
    | _ => none) (fun _ => none) (fun _ => none) (fun
    | 4, 3 => 1
    | _, _ => 0)
  | 1 => Abs.FAn.mk (fun
    | 6 => some ⟨[2, 1, 9, 10], (.st (.clo 35 [((0, 0), 1, 0, 0), ((1, 0), 4, 0, 0), ((2, 0), 1, 0, 0), ((3, 0), 1, 0, 0)]) (.dat (.row (.cons .bool (.cons (.int .i64) (.cons (.int .i64) (.cons (.int .i64) .unit))))) (.dat (.int .i64) (.dat (.int .i64) .nil)))), (.box 1 (.dat (.int .i64) .nil) (.box 4 (.dat (.cons (.int .i64) (.cons (.int .i64) (.cons (.int .i64) (.cons (.int .i64) .unit)))) .nil) (.box 1 (.dat .bool .nil) (.box 1 (.dat (.int .i64) .nil) .nil))))⟩
    | _ => none) (fun
    | 7 => some (⟨[2, 1, 9, 10], (.st (.clo 35 [((0, 0), 1, 0, 0), ((1, 0), 4, 0, 0), ((2, 0), 1, 0, 0), ((3, 0), 1, 0, 0)]) (.dat (.row (.cons .bool (.cons (.int .i64) (.cons (.int .i64) (.cons (.int .i64) .unit))))) (.dat (.int .i64) (.dat (.int .i64) .nil)))), (.box 1 (.dat (.int .i64) .nil) (.box 4 (.dat (.cons (.int .i64) (.cons (.int .i64) (.cons (.int .i64) (.cons (.int .i64) .unit)))) .nil) (.box 1 (.dat .bool .nil) (.box 1 (.dat (.int .i64) .nil) .nil))))⟩, none)
    | _ => none) (fun
    | 2 => some ⟨⟨[10, 2, 1, 9], (.dat (.int .i64) (.st (.clo 35 [((0, 0), 1, 0, 0), ((1, 0), 4, 0, 0), ((2, 0), 1, 0, 0), ((3, 0), 1, 0, 0)]) (.dat (.row (.cons .bool (.cons (.int .i64) (.cons (.int .i64) (.cons (.int .i64) .unit))))) (.dat (.int .i64) .nil)))), (.box 1 (.dat (.int .i64) .nil) (.box 4 (.dat (.cons (.int .i64) (.cons (.int .i64) (.cons (.int .i64) (.cons (.int .i64) .unit)))) .nil) (.box 1 (.dat .bool .nil) (.box 1 (.dat (.int .i64) .nil) .nil))))⟩, (.one (.exit 0) ⟨[], .nil, (.box 1 (.dat (.int .i64) .nil) (.box 4 (.dat (.cons (.int .i64) (.cons (.int .i64) (.cons (.int .i64) (.cons (.int .i64) .unit)))) .nil) (.box 1 (.dat .bool .nil) (.box 1 (.dat (.int .i64) .nil) .nil))))⟩)⟩
    | _ => none) (fun
    | 6, 3 => 2
    | _, _ => 0)
  | 2 => Abs.FAn.mk (fun
    | 2 => some ⟨[24, 4, 5, 8], (.dat .bool (.st (.ptr (2, 0) 1 0 0) (.st (.ptr (3, 0) 1 0 0) (.dat (.int .i64) .nil)))), (.box 1 (.dat (.int .i64) .nil) (.box 4 (.dat (.cons (.int .i64) (.cons (.int .i64) (.cons (.int .i64) (.cons (.int .i64) .unit)))) .nil) (.box 1 (.dat .bool .nil) (.box 1 (.dat (.int .i64) .nil) .nil))))⟩
    | _ => none) (fun _ => none) (fun _ => none) (fun _ _ => 0)
  | _ => {}
theorem ok14 : Abs.SpecOK Try.prog 14 sp14 :=
  Abs.specOK_of (n := 12) (an := an14) (T := Abs.tabOf [(29, sp29), (33, sp33), (21, sp21)]) good foll (Abs.tabOf_ok _ (by simp only [List.forall_mem_cons]; exact ⟨ok29, ok33, ok21, fun _ h => by cases h⟩)) rfl (by intro v; kernel_rfl)

/- pagewatch/channel.Worst -/
def i15 : Abs.Sg := ⟨[0], (.dat (.cons (.int .i64) (.cons (.int .i64) (.cons (.int .i64) (.cons (.int .i64) .unit)))) .nil), .nil⟩
def o15 : Abs.Sg := ⟨[2], (.dat (.int .i64) .nil), .nil⟩
def m15 (v : (((Int × Int × Int × Int × Unit) × Unit) × (Unit))) : Option ((Int × Unit) × (Unit)) :=
(m29 ((v.1.1, ()), ())).bind fun u6 =>
bif (!u6.1.1) then (some ((0, ()), ()))
else (let x7 := (w64 ((w64 ((w64 (v.1.1.2.2.1 - 1)) * v.1.1.2.2.2.1)) + v.1.1.2.1))
some ((x7, ()), ()))
def sp15 : Abs.Spec := ⟨0, i15, o15, m15⟩
def an15 : Nat → Abs.FAn
  | _ => {}
theorem ok15 : Abs.SpecOK Try.prog 15 sp15 :=
  Abs.specOK_of (n := 12) (an := an15) (T := Abs.tabOf [(29, sp29)]) good foll (Abs.tabOf_ok _ (by simp only [List.forall_mem_cons]; exact ⟨ok29, fun _ h => by cases h⟩)) rfl (by intro v; kernel_rfl)

/- 36 pagewatch/channel.Works$1: not told by a law: a closure -/

def l17_1_2 (v : ((Int × (List (Bool × Int × Int × Int × Unit)) × Int × Unit) × ((Bool × Unit) × ((Int × Int × Int × Int × Unit) × Unit) × Unit))) : Option (((Int × (List (Bool × Int × Int × Int × Unit)) × Int × Unit) × ((Bool × Unit) × ((Int × Int × Int × Int × Unit) × Unit) × Unit)) ⊕ ((Unit) × ((Bool × Unit) × ((Int × Int × Int × Int × Unit) × Unit) × Unit))) :=
bif (decide ((v.1.1 : Int) < v.1.2.2.1)) then ((((m21 ((v.1.2.1, (v.1.1, ())), ())).bind fun u27 =>
bif (!u27.2.1.1.1) then (((bif v.2.1.1 then (some ((), ((true, ()), ((v.2.2.1.1, ()), ()))))
else (some ((), (((decide ((u27.2.1.1.2.1 : Int) ≤ v.2.2.1.1.2.1)), ()), ((v.2.2.1.1, ()), ()))))) : Option ((Unit) × ((Bool × Unit) × ((Int × Int × Int × Int × Unit) × Unit) × Unit))).bind fun v28 =>
some ((v.1.2.1, (v.1.2.2.1, (v.1.1, ()))), ((v28.2.1.1, ()), ((v28.2.2.1.1, ()), ()))))
else (some ((v.1.2.1, (v.1.2.2.1, (v.1.1, ()))), ((v.2.1.1, ()), ((v.2.2.1.1, ()), ()))))) : Option (((List (Bool × Int × Int × Int × Unit)) × Int × Int × Unit) × ((Bool × Unit) × ((Int × Int × Int × Int × Unit) × Unit) × Unit))).bind fun v29 =>
some (.inl (((w64 (v29.1.2.2.1 + 1)), (v29.1.1, (v29.1.2.1, ()))), ((v29.2.1.1, ()), ((v29.2.2.1.1, ()), ())))))
else (some (.inr ((), ((v.2.1.1, ()), ((v.2.2.1.1, ()), ())))))

/- pagewatch/channel.Works -/
def i17 : Abs.Sg := ⟨[0, 1], (.dat (.cons (.int .i64) (.cons (.int .i64) (.cons (.int .i64) (.cons (.int .i64) .unit)))) (.dat (.row (.cons .bool (.cons (.int .i64) (.cons (.int .i64) (.cons (.int .i64) .unit))))) .nil)), .nil⟩
def o17 : Abs.Sg := ⟨[4], (.dat .bool .nil), .nil⟩
def m17 (v : (((Int × Int × Int × Int × Unit) × (List (Bool × Int × Int × Int × Unit)) × Unit) × (Unit))) : Option ((Bool × Unit) × (Unit)) :=
(((m29 ((v.1.1, ()), ())).bind fun u26 =>
bif u26.1.1 then ((loopT l17_1_2 ((0, (v.1.2.1, (v.1.1.2.2.1, ()))), ((false, ()), ((v.1.1, ()), ())))).bind fun d30 =>
some ((), ((d30.2.1.1, ()), ())))
else (some ((), ((false, ()), ())))) : Option ((Unit) × ((Bool × Unit) × Unit))).bind fun v31 =>
some ((v31.2.1.1, ()), ())
def sp17 : Abs.Spec := ⟨0, i17, o17, m17⟩
def an17 : Nat → Abs.FAn
  | 0 => Abs.FAn.mk (fun _ => none) (fun
    | 4 => some (⟨[5], (.st (.ptr (0, 0) 1 0 0) .nil), (.box 1 (.dat .bool .nil) .nil)⟩, none)
    | _ => none) (fun _ => none) (fun
    | 3, 3 => 1
    | _, _ => 0)
  | 1 => Abs.FAn.mk (fun _ => none) (fun
    | 7 => some (⟨[2, 1, 9, 10], (.st (.clo 36 [((0, 0), 1, 0, 0), ((1, 0), 4, 0, 0)]) (.dat (.row (.cons .bool (.cons (.int .i64) (.cons (.int .i64) (.cons (.int .i64) .unit))))) (.dat (.int .i64) (.dat (.int .i64) .nil)))), (.box 1 (.dat .bool .nil) (.box 4 (.dat (.cons (.int .i64) (.cons (.int .i64) (.cons (.int .i64) (.cons (.int .i64) .unit)))) .nil) .nil))⟩, none)
    | _ => none) (fun
    | 2 => some ⟨⟨[10, 2, 1, 9], (.dat (.int .i64) (.st (.clo 36 [((0, 0), 1, 0, 0), ((1, 0), 4, 0, 0)]) (.dat (.row (.cons .bool (.cons (.int .i64) (.cons (.int .i64) (.cons (.int .i64) .unit))))) (.dat (.int .i64) .nil)))), (.box 1 (.dat .bool .nil) (.box 4 (.dat (.cons (.int .i64) (.cons (.int .i64) (.cons (.int .i64) (.cons (.int .i64) .unit)))) .nil) .nil))⟩, (.one (.exit 0) ⟨[], .nil, (.box 1 (.dat .bool .nil) (.box 4 (.dat (.cons (.int .i64) (.cons (.int .i64) (.cons (.int .i64) (.cons (.int .i64) .unit)))) .nil) .nil))⟩)⟩
    | _ => none) (fun
    | 6, 3 => 2
    | _, _ => 0)
  | 2 => Abs.FAn.mk (fun
    | 1 => some ⟨[], .nil, (.box 1 (.dat .bool .nil) (.box 4 (.dat (.cons (.int .i64) (.cons (.int .i64) (.cons (.int .i64) (.cons (.int .i64) .unit)))) .nil) .nil))⟩
    | _ => none) (fun _ => none) (fun _ => none) (fun _ _ => 0)
  | _ => {}
theorem ok17 : Abs.SpecOK Try.prog 17 sp17 :=
  Abs.specOK_of (n := 12) (an := an17) (T := Abs.tabOf [(29, sp29), (21, sp21)]) good foll (Abs.tabOf_ok _ (by simp only [List.forall_mem_cons]; exact ⟨ok29, ok21, fun _ h => by cases h⟩)) rfl (by intro v; kernel_rfl)

/- pagewatch/channel.Arrivals -/
def i20 : Abs.Sg := ⟨[0, 1], (.dat (.int .i64) (.dat (.cons .bool (.cons (.int .i64) (.cons (.int .i64) (.cons (.int .i64) .unit)))) .nil)), .nil⟩
def o20 : Abs.Sg := ⟨[4], (.st (.own (.int .i64) (0, 0)) .nil), (.arr (.int .i64) false .nil)⟩
def m20 (v : ((Int × (Bool × Int × Int × Int × Unit) × Unit) × (Unit))) : Option ((Unit) × ((List Int) × Unit)) :=
(((m33 ((v.1.1, (0, (8589956192, ()))), ())).bind fun u15 =>
bif (!u15.1.1) then (some ((true, (v.1.1, ())), ((v.1.2.1, ()), ())))
else ((m32 ((v.1.2.1, ()), ())).bind fun u16 =>
bif (!u16.1.1) then (some ((true, (v.1.1, ())), ((v.1.2.1, ()), ())))
else (some ((v.1.2.1.1, (v.1.1, ())), ((v.1.2.1, ()), ()))))) : Option ((Bool × Int × Unit) × (((Bool × Int × Int × Int × Unit) × Unit) × Unit))).bind fun v17 =>
bif v17.1.1 then (some ((), ([], ())))
else (((bif ((v17.2.1.1.2.2.1 : Int) != 0) then (let x18 := (w64 ((w64 (v17.1.2.1 + v17.2.1.1.2.1)) + v17.2.1.1.2.2.1))
bif (decide ([(w64 (v17.1.2.1 + v17.2.1.1.2.1))].length + [x18].length ≤ 4294967296)) then
some ((), (([(w64 (v17.1.2.1 + v17.2.1.1.2.1))] ++ [x18]), ()))
else none)
else (some ((), ([(w64 (v17.1.2.1 + v17.2.1.1.2.1))], ())))) : Option ((Unit) × ((List Int) × Unit))).bind fun v19 =>
some ((), (v19.2.1, ())))
def sp20 : Abs.Spec := ⟨0, i20, o20, m20⟩
def an20 : Nat → Abs.FAn
  | 0 => Abs.FAn.mk (fun
    | 1 => some ⟨[17, 3, 0], (.dat .bool (.st (.ptr (0, 0) 4 0 0) (.dat (.int .i64) .nil))), (.box 4 (.dat (.cons .bool (.cons (.int .i64) (.cons (.int .i64) (.cons (.int .i64) .unit)))) .nil) .nil)⟩
    | _ => none) (fun
    | 6 => some (⟨[5], (.st (.own (.int .i64) (0, 0)) .nil), (.arr (.int .i64) false .nil)⟩, none)
    | _ => none) (fun _ => none) (fun _ _ => 0)
  | _ => {}
theorem ok20 : Abs.SpecOK Try.prog 20 sp20 :=
  Abs.specOK_of (n := 12) (an := an20) (T := Abs.tabOf [(33, sp33), (32, sp32)]) good foll (Abs.tabOf_ok _ (by simp only [List.forall_mem_cons]; exact ⟨ok33, ok32, fun _ h => by cases h⟩)) rfl (by intro v; kernel_rfl)

/- pagewatch/pagewatchlaw26.sane -/
def i9 : Abs.Sg := ⟨[], .nil, .nil⟩
def o9 : Abs.Sg := ⟨[0], (.dat .bool .nil), .nil⟩
def m9 (v : ((Unit) × (Unit))) : Option ((Bool × Unit) × (Unit)) :=
(m14 (((0, (30, (3, (60, ())))), (1000, ([(true, (0, (0, (0, ())))), (true, (0, (0, (0, ())))), (false, (30, (0, (0, ()))))], ()))), ())).bind fun u10 =>
((bif u10.1.2.1 then (bif ((u10.1.1 : Int) == 1150) then ((m15 (((0, (30, (3, (60, ())))), ()), ())).bind fun u11 =>
bif ((u11.1.1 : Int) == 150) then ((m17 (((0, (30, (3, (60, ())))), ([(true, (0, (0, (0, ())))), (true, (0, (0, (0, ())))), (false, (30, (0, (0, ()))))], ())), ())).bind fun u12 =>
bif u12.1.1 then ((m20 ((5, ((false, (0, (2, (0, ())))), ())), ())).bind fun u13 =>
some ((((((u13.2.1.length : Nat) : Int) : Int) == 2), ()), ()))
else (some ((false, ()), ())))
else (some ((false, ()), ())))
else (some ((false, ()), ())))
else (some ((false, ()), ()))) : Option ((Bool × Unit) × (Unit))).bind fun v14 =>
some ((v14.1.1, ()), ())
def sp9 : Abs.Spec := ⟨0, i9, o9, m9⟩
def an9 : Nat → Abs.FAn
  | 0 => Abs.FAn.mk (fun
    | 4 => some ⟨[0], (.dat .bool .nil), .nil⟩
    | _ => none) (fun _ => none) (fun _ => none) (fun _ _ => 0)
  | _ => {}
theorem ok9 : Abs.SpecOK Try.prog 9 sp9 :=
  Abs.specOK_of (n := 12) (an := an9) (T := Abs.tabOf [(14, sp14), (15, sp15), (17, sp17), (20, sp20)]) good foll (Abs.tabOf_ok _ (by simp only [List.forall_mem_cons]; exact ⟨ok14, ok15, ok17, ok20, fun _ h => by cases h⟩)) rfl (by intro v; kernel_rfl)

/- pagewatch/pagewatchmade.Roll -/
def i10 : Abs.Sg := ⟨[0], (.dat (.row (.int .i64)) .nil), .nil⟩
def o10 : Abs.Sg := ⟨[2], (.st (.ptr (0, 0) 2 0 0) .nil), (.box 2 (.dat (.cons (.row (.int .i64)) (.cons (.int .i64) .unit)) .nil) .nil)⟩
def m10 (v : (((List Int) × Unit) × (Unit))) : Option ((Unit) × ((((List Int) × Int × Unit) × Unit) × Unit)) :=
some ((), (((v.1.1, (0, ())), ()), ()))
def sp10 : Abs.Spec := ⟨0, i10, o10, m10⟩
def an10 : Nat → Abs.FAn
  | _ => {}
theorem ok10 : Abs.SpecOK Try.prog 10 sp10 :=
  Abs.specOK_of (n := 12) (an := an10) (T := Abs.tabOf []) good foll (Abs.tabOf_ok _ (fun _ h => by cases h)) rfl (by intro v; kernel_rfl)

/- (*pagewatch/pagewatchmade.Dice).Next -/
def i12 : Abs.Sg := ⟨[0, 1], (.st (.ptr (0, 0) 2 0 0) (.dat (.int .i64) .nil)), (.box 2 (.dat (.cons (.row (.int .i64)) (.cons (.int .i64) .unit)) .nil) .nil)⟩
def o12 : Abs.Sg := ⟨[4], (.dat (.int .i64) .nil), (.box 2 (.dat (.cons (.row (.int .i64)) (.cons (.int .i64) .unit)) .nil) .nil)⟩
def m12 (v : ((Int × Unit) × ((((List Int) × Int × Unit) × Unit) × Unit))) : Option ((Int × Unit) × ((((List Int) × Int × Unit) × Unit) × Unit)) :=
((let x15 := (decide ((v.2.1.1.2.1 : Int) ≥ (v.2.1.1.1.length : Int)))
bif x15 then (some ((true, (v.1.1, ())), ((v.2.1.1, ()), ())))
else (some (((decide ((v.1.1 : Int) < 1)), (v.1.1, ())), ((v.2.1.1, ()), ())))) : Option ((Bool × Int × Unit) × ((((List Int) × Int × Unit) × Unit) × Unit))).bind fun v16 =>
bif v16.1.1 then (some ((0, ()), ((v16.2.1.1, ()), ())))
else (Abs.rowAt v16.2.1.1.1 v16.2.1.1.2.1 fun e17 _ =>
bif (decide (v16.1.2.1 ≠ (0 : Int))) then
((let x18 := (decide ((((e17 : Int).tmod v16.1.2.1) : Int) < 0))
bif x18 then (some (((w64 (((e17 : Int).tmod v16.1.2.1) + v16.1.2.1)), ()), (((v16.2.1.1.1, ((w64 (v16.2.1.1.2.1 + 1)), ())), ()), ())))
else (some ((((e17 : Int).tmod v16.1.2.1), ()), (((v16.2.1.1.1, ((w64 (v16.2.1.1.2.1 + 1)), ())), ()), ())))) : Option ((Int × Unit) × ((((List Int) × Int × Unit) × Unit) × Unit))).bind fun v19 =>
some ((v19.1.1, ()), ((v19.2.1.1, ()), ()))
else none)
def sp12 : Abs.Spec := ⟨1, i12, o12, m12⟩
def an12 : Nat → Abs.FAn
  | 0 => Abs.FAn.mk (fun
    | 1 => some ⟨[19, 1, 0], (.dat .bool (.dat (.int .i64) (.st (.ptr (0, 0) 2 0 0) .nil))), (.box 2 (.dat (.cons (.row (.int .i64)) (.cons (.int .i64) .unit)) .nil) .nil)⟩
    | _ => none) (fun
    | 7 => some (⟨[5], (.dat (.int .i64) .nil), (.box 2 (.dat (.cons (.row (.int .i64)) (.cons (.int .i64) .unit)) .nil) .nil)⟩, none)
    | _ => none) (fun _ => none) (fun _ _ => 0)
  | _ => {}
theorem ok12 : Abs.SpecOK Try.prog 12 sp12 :=
  Abs.specOK_of (n := 12) (an := an12) (T := Abs.tabOf []) good foll (Abs.tabOf_ok _ (fun _ h => by cases h)) rfl (by intro v; kernel_rfl)

/- (*pagewatch/pagewatchmade.Dice).One -/
def i13 : Abs.Sg := ⟨[0, 1], (.st (.ptr (0, 0) 2 0 0) (.dat (.row (.int .i64)) .nil)), (.box 2 (.dat (.cons (.row (.int .i64)) (.cons (.int .i64) .unit)) .nil) .nil)⟩
def o13 : Abs.Sg := ⟨[4], (.dat (.int .i64) .nil), (.box 2 (.dat (.cons (.row (.int .i64)) (.cons (.int .i64) .unit)) .nil) .nil)⟩
def m13 (v : (((List Int) × Unit) × ((((List Int) × Int × Unit) × Unit) × Unit))) : Option ((Int × Unit) × ((((List Int) × Int × Unit) × Unit) × Unit)) :=
(m12 (((v.1.1.length : Int), ()), ((v.2.1.1, ()), ()))).bind fun u4 =>
Abs.rowAt v.1.1 u4.1.1 fun e5 _ =>
some ((e5, ()), ((u4.2.1.1, ()), ()))
def sp13 : Abs.Spec := ⟨1, i13, o13, m13⟩
def an13 : Nat → Abs.FAn
  | _ => {}
theorem ok13 : Abs.SpecOK Try.prog 13 sp13 :=
  Abs.specOK_of (n := 12) (an := an13) (T := Abs.tabOf [(12, sp12)]) good foll (Abs.tabOf_ok _ (by simp only [List.forall_mem_cons]; exact ⟨ok12, fun _ h => by cases h⟩)) rfl (by intro v; kernel_rfl)

/- (*pagewatch/pagewatchmade.Dice).Channel -/
def i11 : Abs.Sg := ⟨[0], (.st (.ptr (0, 0) 2 0 0) .nil), (.box 2 (.dat (.cons (.row (.int .i64)) (.cons (.int .i64) .unit)) .nil) .nil)⟩
def o11 : Abs.Sg := ⟨[2], (.st (.ptr (1, 0) 4 0 0) .nil), (.box 2 (.dat (.cons (.row (.int .i64)) (.cons (.int .i64) .unit)) .nil) (.box 4 (.dat (.cons (.int .i64) (.cons (.int .i64) (.cons (.int .i64) (.cons (.int .i64) .unit)))) .nil) .nil))⟩
def m11 (v : ((Unit) × ((((List Int) × Int × Unit) × Unit) × Unit))) : Option ((Unit) × ((((List Int) × Int × Unit) × Unit) × ((Int × Int × Int × Int × Unit) × Unit) × Unit)) :=
(m12 ((3, ()), ((v.2.1.1, ()), ()))).bind fun u8 =>
(m13 (([0, 30, 60, 3600], ()), ((u8.2.1.1, ()), ()))).bind fun u9 =>
(m12 ((4, ()), ((u9.2.1.1, ()), ()))).bind fun u10 =>
(m13 (([1, 30, 60, 120], ()), ((u10.2.1.1, ()), ()))).bind fun u11 =>
some ((), ((u11.2.1.1, ()), (((u8.1.1, (u9.1.1, ((w64 (1 + u10.1.1)), (u11.1.1, ())))), ()), ())))
def sp11 : Abs.Spec := ⟨1, i11, o11, m11⟩
def an11 : Nat → Abs.FAn
  | _ => {}
theorem ok11 : Abs.SpecOK Try.prog 11 sp11 :=
  Abs.specOK_of (n := 12) (an := an11) (T := Abs.tabOf [(12, sp12), (13, sp13)]) good foll (Abs.tabOf_ok _ (by simp only [List.forall_mem_cons]; exact ⟨ok12, ok13, fun _ h => by cases h⟩)) rfl (by intro v; kernel_rfl)

def l3_0_7 (v : ((Int × Int × Int × Unit) × ((((List Int) × Int × Unit) × Unit) × (List (Bool × Int × Int × Int × Unit)) × ((Int × Int × Int × Int × Unit) × Unit) × Unit))) : Option (((Int × Int × Int × Unit) × ((((List Int) × Int × Unit) × Unit) × (List (Bool × Int × Int × Int × Unit)) × ((Int × Int × Int × Int × Unit) × Unit) × Unit)) ⊕ ((Int × Int × Unit) × (((Int × Int × Int × Int × Unit) × Unit) × (List (Bool × Int × Int × Int × Unit)) × (((List Int) × Int × Unit) × Unit) × Unit))) :=
bif (decide ((v.1.1 : Int) < v.2.2.2.1.1.2.2.1)) then ((m12 ((3, ()), ((v.2.1.1, ()), ()))).bind fun u92 =>
(m13 (([0, 5, 30, 200], ()), ((u92.2.1.1, ()), ()))).bind fun u93 =>
bif (decide (v.2.2.1.length + [(((u92.1.1 : Int) == 0), (u93.1.1, (0, (0, ()))))].length ≤ 4294967296)) then
let x94 := (v.2.2.1 ++ [(((u92.1.1 : Int) == 0), (u93.1.1, (0, (0, ()))))])
some (.inl (((w64 (v.1.1 + 1)), (v.1.2.1, (v.1.2.2.1, ()))), ((u93.2.1.1, ()), (x94, ((v.2.2.2.1.1, ()), ())))))
else none)
else (some (.inr ((v.1.2.1, (v.1.2.2.1, ())), ((v.2.2.2.1.1, ()), (v.2.2.1, ((v.2.1.1, ()), ()))))))

/- pagewatch/pagewatchlaw26.ChannelWorse -/
def i3 : Abs.Sg := ⟨[0, 1, 2], (.dat (.row (.int .i64)) (.dat (.int .u32) (.dat (.int .u8) .nil))), .nil⟩
def o3 : Abs.Sg := ⟨[6], (.dat .bool .nil), .nil⟩
def m3 (v : (((List Int) × Int × Int × Unit) × (Unit))) : Option ((Bool × Unit) × (Unit)) :=
(m8 ((v.1.1, ()), ())).bind fun u88 =>
bif (!u88.1.1) then ((m9 ((), ())).bind fun u89 =>
some ((u89.1.1, ()), ()))
else ((m10 ((v.1.1, ()), ())).bind fun u90 =>
(m11 ((), ((u90.2.1.1, ()), ()))).bind fun u91 =>
(loopT l3_0_7 ((0, (v.1.2.2.1, (v.1.2.1, ()))), ((u91.2.1.1, ()), ([], ((u91.2.2.1.1, ()), ()))))).bind fun d95 =>
(m14 ((d95.2.1.1, ((w64 (d95.1.2.1)), (d95.2.2.1, ()))), ())).bind fun u96 =>
bif (decide (0 + d95.2.2.1.length ≤ 4294967296)) then
(m12 ((d95.2.1.1.2.2.1, ()), ((d95.2.2.2.1.1, ()), ()))).bind fun u97 =>
(((m12 ((2, ()), ((u97.2.1.1, ()), ()))).bind fun u98 =>
bif ((u98.1.1 : Int) == 0) then (bif (decide ((0 : Int) ≤ u97.1.1 ∧ (u97.1.1 : Int) < d95.2.2.1.length)) then
(d95.2.2.1[u97.1.1.toNat]?).bind fun e99 =>
some ((u96.1.1, (u96.1.2.1, (d95.1.1, (d95.1.2.1, ())))), ((d95.2.1.1, ()), (d95.2.2.1, ((d95.2.2.1.set u97.1.1.toNat (true, e99.2)), ()))))
else none)
else (bif (decide ((0 : Int) ≤ u97.1.1 ∧ (u97.1.1 : Int) < d95.2.2.1.length)) then
(d95.2.2.1[u97.1.1.toNat]?).bind fun e100 =>
bif (decide ((0 : Int) ≤ u97.1.1 ∧ (u97.1.1 : Int) < d95.2.2.1.length)) then
(d95.2.2.1[u97.1.1.toNat]?).bind fun e101 =>
some ((u96.1.1, (u96.1.2.1, (d95.1.1, (d95.1.2.1, ())))), ((d95.2.1.1, ()), (d95.2.2.1, ((d95.2.2.1.set u97.1.1.toNat (e101.1, ((w64 (e100.2.1 + (w64 (d95.1.1)))), e101.2.2))), ()))))
else none
else none)) : Option ((Int × Bool × Int × Int × Unit) × (((Int × Int × Int × Int × Unit) × Unit) × (List (Bool × Int × Int × Int × Unit)) × (List (Bool × Int × Int × Int × Unit)) × Unit))).bind fun v102 =>
(m14 ((v102.2.1.1, ((w64 (v102.1.2.2.2.1)), (v102.2.2.2.1, ()))), ())).bind fun u103 =>
let x104 := (if (6 : Int) < (w64 (v102.2.1.1.2.2.1 + 1)) then 6 else (w64 (v102.2.1.1.2.2.1 + 1)))
bif (decide (0 + v102.2.2.1.length ≤ 4294967296)) then
bif (decide (v102.2.2.1.length + [(false, ((w64 (v102.1.2.2.1)), (0, (0, ()))))].length ≤ 4294967296)) then
let x105 := (v102.2.2.1 ++ [(false, ((w64 (v102.1.2.2.1)), (0, (0, ()))))])
(m14 (((v102.2.1.1.1, (v102.2.1.1.2.1, (x104, v102.2.1.1.2.2.2))), ((w64 (v102.1.2.2.2.1)), (x105, ()))), ())).bind fun u106 =>
((bif (!u103.1.2.1) then (bif (!v102.1.2.1) then ((m15 (((v102.2.1.1.1, (v102.2.1.1.2.1, (x104, v102.2.1.1.2.2.2))), ()), ())).bind fun u107 =>
(m15 ((v102.2.1.1, ()), ())).bind fun u108 =>
bif (decide ((u107.1.1 : Int) ≥ u108.1.1)) then ((m9 ((), ())).bind fun u109 =>
some ((u109.1.1, ()), ()))
else (some ((false, ()), ())))
else (bif u106.1.2.1 then (bif (decide ((u106.1.1 : Int) ≤ v102.1.1)) then ((m15 (((v102.2.1.1.1, (v102.2.1.1.2.1, (x104, v102.2.1.1.2.2.2))), ()), ())).bind fun u110 =>
(m15 ((v102.2.1.1, ()), ())).bind fun u111 =>
bif (decide ((u110.1.1 : Int) ≥ u111.1.1)) then ((m9 ((), ())).bind fun u112 =>
some ((u112.1.1, ()), ()))
else (some ((false, ()), ())))
else (some ((false, ()), ())))
else (some ((false, ()), ()))))
else (bif v102.1.2.1 then (bif (decide ((u103.1.1 : Int) ≥ v102.1.1)) then (bif (!v102.1.2.1) then ((m15 (((v102.2.1.1.1, (v102.2.1.1.2.1, (x104, v102.2.1.1.2.2.2))), ()), ())).bind fun u113 =>
(m15 ((v102.2.1.1, ()), ())).bind fun u114 =>
bif (decide ((u113.1.1 : Int) ≥ u114.1.1)) then ((m9 ((), ())).bind fun u115 =>
some ((u115.1.1, ()), ()))
else (some ((false, ()), ())))
else (bif u106.1.2.1 then (bif (decide ((u106.1.1 : Int) ≤ v102.1.1)) then ((m15 (((v102.2.1.1.1, (v102.2.1.1.2.1, (x104, v102.2.1.1.2.2.2))), ()), ())).bind fun u116 =>
(m15 ((v102.2.1.1, ()), ())).bind fun u117 =>
bif (decide ((u116.1.1 : Int) ≥ u117.1.1)) then ((m9 ((), ())).bind fun u118 =>
some ((u118.1.1, ()), ()))
else (some ((false, ()), ())))
else (some ((false, ()), ())))
else (some ((false, ()), ()))))
else (some ((false, ()), ())))
else (some ((false, ()), ())))) : Option ((Bool × Unit) × (Unit))).bind fun v119 =>
some ((v119.1.1, ()), ())
else none
else none
else none)
def sp3 : Abs.Spec := ⟨0, i3, o3, m3⟩
def an3 : Nat → Abs.FAn
  | 0 => Abs.FAn.mk (fun
    | 20 => some ⟨[6], (.dat .bool .nil), .nil⟩
    | _ => none) (fun
    | 16 => some (⟨[8, 11, 12, 2, 9, 1, 13], (.st (.ptr (0, 0) 4 0 0) (.dat (.int .i64) (.dat .bool (.dat (.int .u8) (.st (.own (.cons .bool (.cons (.int .i64) (.cons (.int .i64) (.cons (.int .i64) .unit)))) (1, 0)) (.dat (.int .u32) (.st (.own (.cons .bool (.cons (.int .i64) (.cons (.int .i64) (.cons (.int .i64) .unit)))) (2, 0)) .nil))))))), (.box 4 (.dat (.cons (.int .i64) (.cons (.int .i64) (.cons (.int .i64) (.cons (.int .i64) .unit)))) .nil) (.arr (.cons .bool (.cons (.int .i64) (.cons (.int .i64) (.cons (.int .i64) .unit)))) false (.arr (.cons .bool (.cons (.int .i64) (.cons (.int .i64) (.cons (.int .i64) .unit)))) false .nil)))⟩, none)
    | _ => none) (fun
    | 7 => some ⟨⟨[10, 7, 9, 8, 2, 1], (.dat (.int .i64) (.st (.ptr (0, 0) 2 0 0) (.st (.own (.cons .bool (.cons (.int .i64) (.cons (.int .i64) (.cons (.int .i64) .unit)))) (1, 0)) (.st (.ptr (2, 0) 4 0 0) (.dat (.int .u8) (.dat (.int .u32) .nil)))))), (.box 2 (.dat (.cons (.row (.int .i64)) (.cons (.int .i64) .unit)) .nil) (.arr (.cons .bool (.cons (.int .i64) (.cons (.int .i64) (.cons (.int .i64) .unit)))) false (.box 4 (.dat (.cons (.int .i64) (.cons (.int .i64) (.cons (.int .i64) (.cons (.int .i64) .unit)))) .nil) .nil)))⟩, (.one (.exit 0) ⟨[8, 2, 9, 1, 7], (.st (.ptr (0, 0) 4 0 0) (.dat (.int .u8) (.st (.own (.cons .bool (.cons (.int .i64) (.cons (.int .i64) (.cons (.int .i64) .unit)))) (1, 0)) (.dat (.int .u32) (.st (.ptr (2, 0) 2 0 0) .nil))))), (.box 4 (.dat (.cons (.int .i64) (.cons (.int .i64) (.cons (.int .i64) (.cons (.int .i64) .unit)))) .nil) (.arr (.cons .bool (.cons (.int .i64) (.cons (.int .i64) (.cons (.int .i64) .unit)))) false (.box 2 (.dat (.cons (.row (.int .i64)) (.cons (.int .i64) .unit)) .nil) .nil)))⟩)⟩
    | _ => none) (fun _ _ => 0)
  | _ => {}
theorem ok3 : Abs.SpecOK Try.prog 3 sp3 :=
  Abs.specOK_of (n := 12) (an := an3) (T := Abs.tabOf [(8, sp8), (9, sp9), (10, sp10), (11, sp11), (12, sp12), (13, sp13), (14, sp14), (15, sp15)]) good foll (Abs.tabOf_ok _ (by simp only [List.forall_mem_cons]; exact ⟨ok8, ok9, ok10, ok11, ok12, ok13, ok14, ok15, fun _ h => by cases h⟩)) rfl (by intro v; kernel_rfl)

/- (*pagewatch/pagewatchmade.Dice).Fate -/
def i16 : Abs.Sg := ⟨[0], (.st (.ptr (0, 0) 2 0 0) .nil), (.box 2 (.dat (.cons (.row (.int .i64)) (.cons (.int .i64) .unit)) .nil) .nil)⟩
def o16 : Abs.Sg := ⟨[2], (.st (.ptr (1, 0) 4 0 0) .nil), (.box 2 (.dat (.cons (.row (.int .i64)) (.cons (.int .i64) .unit)) .nil) (.box 4 (.dat (.cons .bool (.cons (.int .i64) (.cons (.int .i64) (.cons (.int .i64) .unit)))) .nil) .nil))⟩
def m16 (v : ((Unit) × ((((List Int) × Int × Unit) × Unit) × Unit))) : Option ((Unit) × ((((List Int) × Int × Unit) × Unit) × ((Bool × Int × Int × Int × Unit) × Unit) × Unit)) :=
(m12 ((3, ()), ((v.2.1.1, ()), ()))).bind fun u8 =>
(m13 (([0, 5, 30, 31, 200, 86400, 86401], ()), ((u8.2.1.1, ()), ()))).bind fun u9 =>
(m13 (([0, 0, 7, 100, (-1)], ()), ((u9.2.1.1, ()), ()))).bind fun u10 =>
(m13 (([(-1), 0, 10, 90, (-2)], ()), ((u10.2.1.1, ()), ()))).bind fun u11 =>
some ((), ((u11.2.1.1, ()), (((((u8.1.1 : Int) == 0), (u9.1.1, (u10.1.1, (u11.1.1, ())))), ()), ())))
def sp16 : Abs.Spec := ⟨1, i16, o16, m16⟩
def an16 : Nat → Abs.FAn
  | _ => {}
theorem ok16 : Abs.SpecOK Try.prog 16 sp16 :=
  Abs.specOK_of (n := 12) (an := an16) (T := Abs.tabOf [(12, sp12), (13, sp13)]) good foll (Abs.tabOf_ok _ (by simp only [List.forall_mem_cons]; exact ⟨ok12, ok13, fun _ h => by cases h⟩)) rfl (by intro v; kernel_rfl)

def l4_0_7 (v : ((Int × Int × Unit) × ((((List Int) × Int × Unit) × Unit) × (List (Bool × Int × Int × Int × Unit)) × ((Int × Int × Int × Int × Unit) × Unit) × Unit))) : Option (((Int × Int × Unit) × ((((List Int) × Int × Unit) × Unit) × (List (Bool × Int × Int × Int × Unit)) × ((Int × Int × Int × Int × Unit) × Unit) × Unit)) ⊕ ((Int × Unit) × ((List (Bool × Int × Int × Int × Unit)) × ((Int × Int × Int × Int × Unit) × Unit) × (((List Int) × Int × Unit) × Unit) × Unit))) :=
bif (decide ((v.1.1 : Int) < v.2.2.2.1.1.2.2.1)) then ((m16 ((), ((v.2.1.1, ()), ()))).bind fun u49 =>
bif (decide (v.2.2.1.length + [u49.2.2.1.1].length ≤ 4294967296)) then
some (.inl (((w64 (v.1.1 + 1)), (v.1.2.1, ())), ((u49.2.1.1, ()), ((v.2.2.1 ++ [u49.2.2.1.1]), ((v.2.2.2.1.1, ()), ())))))
else none)
else (some (.inr ((v.1.2.1, ()), (v.2.2.1, ((v.2.2.2.1.1, ()), ((v.2.1.1, ()), ()))))))

/- pagewatch/pagewatchlaw26.ChannelReaches -/
def i4 : Abs.Sg := ⟨[0, 1], (.dat (.row (.int .i64)) (.dat (.int .u32) .nil)), .nil⟩
def o4 : Abs.Sg := ⟨[4], (.dat .bool .nil), .nil⟩
def m4 (v : (((List Int) × Int × Unit) × (Unit))) : Option ((Bool × Unit) × (Unit)) :=
(m8 ((v.1.1, ()), ())).bind fun u45 =>
bif (!u45.1.1) then ((m9 ((), ())).bind fun u46 =>
some ((u46.1.1, ()), ()))
else ((m10 ((v.1.1, ()), ())).bind fun u47 =>
(m11 ((), ((u47.2.1.1, ()), ()))).bind fun u48 =>
(loopT l4_0_7 ((0, (v.1.2.1, ())), ((u48.2.1.1, ()), ([], ((u48.2.2.1.1, ()), ()))))).bind fun d50 =>
(m12 ((d50.2.2.1.1.2.2.1, ()), ((d50.2.2.2.1.1, ()), ()))).bind fun u51 =>
(m12 (((w64 (d50.2.2.1.1.2.1 + 1)), ()), ((u51.2.1.1, ()), ()))).bind fun u52 =>
bif (decide ((0 : Int) ≤ u51.1.1 ∧ (u51.1.1 : Int) < d50.2.1.length)) then
bif (decide (u51.1.1.toNat < d50.2.1.length)) then
(m14 ((d50.2.2.1.1, ((w64 (d50.1.1)), ((d50.2.1.set u51.1.1.toNat (false, (u52.1.1, (0, ((-1), ()))))), ()))), ())).bind fun u53 =>
((bif u53.1.2.1 then (bif (decide ((u53.1.1 : Int) ≥ (w64 (d50.1.1)))) then (let x54 := (w64 ((w64 (d50.1.1)) + (w64 (u51.1.1 * d50.2.2.1.1.2.2.2.1))))
bif (decide ((0 : Int) ≤ u51.1.1 ∧ (u51.1.1 : Int) < (d50.2.1.set u51.1.1.toNat (false, (u52.1.1, (0, ((-1), ()))))).length)) then
((d50.2.1.set u51.1.1.toNat (false, (u52.1.1, (0, ((-1), ())))))[u51.1.1.toNat]?).bind fun e55 =>
let x56 := (decide ((u53.1.1 : Int) ≤ (w64 (x54 + e55.2.1))))
bif x56 then ((m15 ((d50.2.2.1.1, ()), ())).bind fun u57 =>
let x58 := (decide ((u53.1.1 : Int) ≤ (w64 ((w64 (d50.1.1)) + u57.1.1))))
bif x58 then ((m17 ((d50.2.2.1.1, ((d50.2.1.set u51.1.1.toNat (false, (u52.1.1, (0, ((-1), ()))))), ())), ())).bind fun u59 =>
bif u59.1.1 then ((m9 ((), ())).bind fun u60 =>
some ((u60.1.1, ()), ()))
else (some ((false, ()), ())))
else (some ((false, ()), ())))
else (some ((false, ()), ()))
else none)
else (some ((false, ()), ())))
else (some ((false, ()), ()))) : Option ((Bool × Unit) × (Unit))).bind fun v61 =>
some ((v61.1.1, ()), ())
else none
else none)
def sp4 : Abs.Spec := ⟨0, i4, o4, m4⟩
def an4 : Nat → Abs.FAn
  | 0 => Abs.FAn.mk (fun
    | 13 => some ⟨[4], (.dat .bool .nil), .nil⟩
    | _ => none) (fun _ => none) (fun
    | 7 => some ⟨⟨[8, 5, 7, 6, 1], (.dat (.int .i64) (.st (.ptr (0, 0) 2 0 0) (.st (.own (.cons .bool (.cons (.int .i64) (.cons (.int .i64) (.cons (.int .i64) .unit)))) (1, 0)) (.st (.ptr (2, 0) 4 0 0) (.dat (.int .u32) .nil))))), (.box 2 (.dat (.cons (.row (.int .i64)) (.cons (.int .i64) .unit)) .nil) (.arr (.cons .bool (.cons (.int .i64) (.cons (.int .i64) (.cons (.int .i64) .unit)))) false (.box 4 (.dat (.cons (.int .i64) (.cons (.int .i64) (.cons (.int .i64) (.cons (.int .i64) .unit)))) .nil) .nil)))⟩, (.one (.exit 0) ⟨[7, 6, 1, 5], (.st (.own (.cons .bool (.cons (.int .i64) (.cons (.int .i64) (.cons (.int .i64) .unit)))) (0, 0)) (.st (.ptr (1, 0) 4 0 0) (.dat (.int .u32) (.st (.ptr (2, 0) 2 0 0) .nil)))), (.arr (.cons .bool (.cons (.int .i64) (.cons (.int .i64) (.cons (.int .i64) .unit)))) false (.box 4 (.dat (.cons (.int .i64) (.cons (.int .i64) (.cons (.int .i64) (.cons (.int .i64) .unit)))) .nil) (.box 2 (.dat (.cons (.row (.int .i64)) (.cons (.int .i64) .unit)) .nil) .nil)))⟩)⟩
    | _ => none) (fun _ _ => 0)
  | _ => {}
theorem ok4 : Abs.SpecOK Try.prog 4 sp4 :=
  Abs.specOK_of (n := 12) (an := an4) (T := Abs.tabOf [(8, sp8), (9, sp9), (10, sp10), (11, sp11), (16, sp16), (12, sp12), (14, sp14), (15, sp15), (17, sp17)]) good foll (Abs.tabOf_ok _ (by simp only [List.forall_mem_cons]; exact ⟨ok8, ok9, ok10, ok11, ok16, ok12, ok14, ok15, ok17, fun _ h => by cases h⟩)) rfl (by intro v; kernel_rfl)

def l18_0_3 (v : ((Int × Unit) × ((((List Int) × Int × Unit) × Unit) × (List (Bool × Int × Int × Int × Unit)) × Unit))) : Option (((Int × Unit) × ((((List Int) × Int × Unit) × Unit) × (List (Bool × Int × Int × Int × Unit)) × Unit)) ⊕ ((Unit) × ((((List Int) × Int × Unit) × Unit) × (List (Bool × Int × Int × Int × Unit)) × Unit))) :=
bif (decide ((v.1.1 : Int) > 0)) then ((m16 ((), ((v.2.1.1, ()), ()))).bind fun u14 =>
bif (decide (v.2.2.1.length + [u14.2.2.1.1].length ≤ 4294967296)) then
some (.inl (((w64 (v.1.1 - 1)), ()), ((u14.2.1.1, ()), ((v.2.2.1 ++ [u14.2.2.1.1]), ()))))
else none)
else (some (.inr ((), ((v.2.1.1, ()), (v.2.2.1, ())))))

/- (*pagewatch/pagewatchmade.Dice).Fates -/
def i18 : Abs.Sg := ⟨[0], (.st (.ptr (0, 0) 2 0 0) .nil), (.box 2 (.dat (.cons (.row (.int .i64)) (.cons (.int .i64) .unit)) .nil) .nil)⟩
def o18 : Abs.Sg := ⟨[2], (.st (.own (.cons .bool (.cons (.int .i64) (.cons (.int .i64) (.cons (.int .i64) .unit)))) (1, 0)) .nil), (.box 2 (.dat (.cons (.row (.int .i64)) (.cons (.int .i64) .unit)) .nil) (.arr (.cons .bool (.cons (.int .i64) (.cons (.int .i64) (.cons (.int .i64) .unit)))) false .nil))⟩
def m18 (v : ((Unit) × ((((List Int) × Int × Unit) × Unit) × Unit))) : Option ((Unit) × ((((List Int) × Int × Unit) × Unit) × (List (Bool × Int × Int × Int × Unit)) × Unit)) :=
(m12 ((5, ()), ((v.2.1.1, ()), ()))).bind fun u13 =>
(loopT l18_0_3 ((u13.1.1, ()), ((u13.2.1.1, ()), ([], ())))).bind fun d15 =>
some ((), ((d15.2.1.1, ()), (d15.2.2.1, ())))
def sp18 : Abs.Spec := ⟨1, i18, o18, m18⟩
def an18 : Nat → Abs.FAn
  | 0 => Abs.FAn.mk (fun _ => none) (fun _ => none) (fun
    | 3 => some ⟨⟨[4, 0, 3], (.dat (.int .i64) (.st (.ptr (0, 0) 2 0 0) (.st (.own (.cons .bool (.cons (.int .i64) (.cons (.int .i64) (.cons (.int .i64) .unit)))) (1, 0)) .nil))), (.box 2 (.dat (.cons (.row (.int .i64)) (.cons (.int .i64) .unit)) .nil) (.arr (.cons .bool (.cons (.int .i64) (.cons (.int .i64) (.cons (.int .i64) .unit)))) false .nil))⟩, (.one (.exit 0) ⟨[3], (.st (.own (.cons .bool (.cons (.int .i64) (.cons (.int .i64) (.cons (.int .i64) .unit)))) (1, 0)) .nil), (.box 2 (.dat (.cons (.row (.int .i64)) (.cons (.int .i64) .unit)) .nil) (.arr (.cons .bool (.cons (.int .i64) (.cons (.int .i64) (.cons (.int .i64) .unit)))) false .nil))⟩)⟩
    | _ => none) (fun _ _ => 0)
  | _ => {}
theorem ok18 : Abs.SpecOK Try.prog 18 sp18 :=
  Abs.specOK_of (n := 12) (an := an18) (T := Abs.tabOf [(12, sp12), (16, sp16)]) good foll (Abs.tabOf_ok _ (by simp only [List.forall_mem_cons]; exact ⟨ok12, ok16, fun _ h => by cases h⟩)) rfl (by intro v; kernel_rfl)

/- pagewatch/pagewatchref25.In -/
def i37 : Abs.Sg := ⟨[0, 1, 2], (.dat (.int .i64) (.dat (.int .i64) (.dat (.int .i64) .nil))), .nil⟩
def o37 : Abs.Sg := ⟨[6], (.dat .bool .nil), .nil⟩
def m37 (v : ((Int × Int × Int × Unit) × (Unit))) : Option ((Bool × Unit) × (Unit)) :=
((bif (decide ((v.1.1 : Int) ≥ v.1.2.1)) then (some (((decide ((v.1.1 : Int) ≤ v.1.2.2.1)), ()), ()))
else (some ((false, ()), ()))) : Option ((Bool × Unit) × (Unit))).bind fun v1 =>
some ((v1.1.1, ()), ())
def sp37 : Abs.Spec := ⟨0, i37, o37, m37⟩
def an37 : Nat → Abs.FAn
  | 0 => Abs.FAn.mk (fun
    | 1 => some ⟨[6], (.dat .bool .nil), .nil⟩
    | _ => none) (fun _ => none) (fun _ => none) (fun _ _ => 0)
  | _ => {}
theorem ok37 : Abs.SpecOK Try.prog 37 sp37 :=
  Abs.specOK_of (n := 12) (an := an37) (T := Abs.tabOf []) good foll (Abs.tabOf_ok _ (fun _ h => by cases h)) rfl (by intro v; kernel_rfl)

/- pagewatch/pagewatchref26.ValidFate -/
def i19 : Abs.Sg := ⟨[0], (.dat (.cons .bool (.cons (.int .i64) (.cons (.int .i64) (.cons (.int .i64) .unit)))) .nil), .nil⟩
def o19 : Abs.Sg := ⟨[2], (.dat .bool .nil), .nil⟩
def m19 (v : (((Bool × Int × Int × Int × Unit) × Unit) × (Unit))) : Option ((Bool × Unit) × (Unit)) :=
(((m37 ((v.1.1.2.1, (0, (86400, ()))), ())).bind fun u7 =>
bif u7.1.1 then ((m37 ((v.1.1.2.2.1, (0, (86400, ()))), ())).bind fun u8 =>
bif u8.1.1 then ((m37 ((v.1.1.2.2.2.1, ((-1), (86400, ()))), ())).bind fun u9 =>
some ((u9.1.1, ()), ()))
else (some ((false, ()), ())))
else (some ((false, ()), ()))) : Option ((Bool × Unit) × (Unit))).bind fun v10 =>
some ((v10.1.1, ()), ())
def sp19 : Abs.Spec := ⟨0, i19, o19, m19⟩
def an19 : Nat → Abs.FAn
  | 0 => Abs.FAn.mk (fun
    | 1 => some ⟨[2], (.dat .bool .nil), .nil⟩
    | _ => none) (fun _ => none) (fun _ => none) (fun _ _ => 0)
  | _ => {}
theorem ok19 : Abs.SpecOK Try.prog 19 sp19 :=
  Abs.specOK_of (n := 12) (an := an19) (T := Abs.tabOf [(37, sp37)]) good foll (Abs.tabOf_ok _ (by simp only [List.forall_mem_cons]; exact ⟨ok37, fun _ h => by cases h⟩)) rfl (by intro v; kernel_rfl)

def l5_0_7 (v : ((Int × Int × Int × Unit) × ((List (Bool × Int × Int × Int × Unit)) × (List (Bool × Int × Int × Int × Unit)) × ((Int × Int × Int × Int × Unit) × Unit) × Unit))) : Option (((Int × Int × Int × Unit) × ((List (Bool × Int × Int × Int × Unit)) × (List (Bool × Int × Int × Int × Unit)) × ((Int × Int × Int × Int × Unit) × Unit) × Unit)) ⊕ ((Int × Unit) × ((List (Bool × Int × Int × Int × Unit)) × ((Int × Int × Int × Int × Unit) × Unit) × (List (Bool × Int × Int × Int × Unit)) × Unit))) :=
bif (decide ((v.1.1 : Int) < v.1.2.2.1)) then (bif (decide ((0 : Int) ≤ v.1.1 ∧ (v.1.1 : Int) < v.2.2.1.length)) then
(v.2.2.1[v.1.1.toNat]?).bind fun e124 =>
(((m19 ((e124, ()), ())).bind fun u125 =>
bif (!u125.1.1) then (some ((v.1.2.1, (v.1.2.2.1, (v.1.1, ()))), (v.2.2.1, ((v.2.2.2.1.1, ()), (((true, (0, (0, (0, ())))), ()), (v.2.1, ()))))))
else (some ((v.1.2.1, (v.1.2.2.1, (v.1.1, ()))), (v.2.2.1, ((v.2.2.2.1.1, ()), ((e124, ()), (v.2.1, ()))))))) : Option ((Int × Int × Int × Unit) × ((List (Bool × Int × Int × Int × Unit)) × ((Int × Int × Int × Int × Unit) × Unit) × ((Bool × Int × Int × Int × Unit) × Unit) × (List (Bool × Int × Int × Int × Unit)) × Unit))).bind fun v126 =>
bif (decide (v126.2.2.2.2.1.length + [(v126.2.2.2.1.1.1, (v126.2.2.2.1.1.2.1, (0, ((-1), ()))))].length ≤ 4294967296)) then
let x127 := (v126.2.2.2.2.1 ++ [(v126.2.2.2.1.1.1, (v126.2.2.2.1.1.2.1, (0, ((-1), ()))))])
some (.inl (((w64 (v126.1.2.2.1 + 1)), (v126.1.1, (v126.1.2.1, ()))), (x127, (v126.2.1, ((v126.2.2.1.1, ()), ())))))
else none
else none)
else (some (.inr ((v.1.2.1, ()), (v.2.2.1, ((v.2.2.2.1.1, ()), (v.2.1, ()))))))

def l5_0_20 (v : ((Int × Int × Bool × Int × Bool × Bool × Int × Int × Int × Unit) × ((List Int) × (List (Bool × Int × Int × Int × Unit)) × ((Int × Int × Int × Int × Unit) × Unit) × Unit))) : Option (((Int × Int × Bool × Int × Bool × Bool × Int × Int × Int × Unit) × ((List Int) × (List (Bool × Int × Int × Int × Unit)) × ((Int × Int × Int × Int × Unit) × Unit) × Unit)) ⊕ (((Bool × Unit) × (Unit)) ⊕ ((Int × Bool × Int × Bool × Bool × Int × Int × Unit) × ((List (Bool × Int × Int × Int × Unit)) × ((Int × Int × Int × Int × Unit) × Unit) × Unit)))) :=
bif (decide ((v.1.1 : Int) < v.1.2.2.2.2.2.2.2.2.1)) then (bif (decide ((0 : Int) ≤ v.1.1 ∧ (v.1.1 : Int) < v.2.1.length)) then
(v.2.1[v.1.1.toNat]?).bind fun e134 =>
((bif v.1.2.2.1 then (some ((v.1.2.1, (true, (v.1.2.2.2.1, (v.1.2.2.2.2.1, (v.1.2.2.2.2.2.1, (v.1.2.2.2.2.2.2.1, (v.1.2.2.2.2.2.2.2.1, (v.1.2.2.2.2.2.2.2.2.1, (v.1.1, (e134, ())))))))))), (v.2.1, (v.2.2.1, ((v.2.2.2.1.1, ()), ())))))
else (some ((v.1.2.1, (((e134 : Int) == v.1.2.1), (v.1.2.2.2.1, (v.1.2.2.2.2.1, (v.1.2.2.2.2.2.1, (v.1.2.2.2.2.2.2.1, (v.1.2.2.2.2.2.2.2.1, (v.1.2.2.2.2.2.2.2.2.1, (v.1.1, (e134, ())))))))))), (v.2.1, (v.2.2.1, ((v.2.2.2.1.1, ()), ())))))) : Option ((Int × Bool × Int × Bool × Bool × Int × Int × Int × Int × Int × Unit) × ((List Int) × (List (Bool × Int × Int × Int × Unit)) × ((Int × Int × Int × Int × Unit) × Unit) × Unit))).bind fun v135 =>
let x136 := (decide ((v135.1.2.2.2.2.2.2.2.2.2.1 : Int) < v135.1.1))
bif x136 then (some (.inr (.inl ((false, ()), ()))))
else (some (.inl (((w64 (v135.1.2.2.2.2.2.2.2.2.1 + 1)), (v135.1.1, (v135.1.2.1, (v135.1.2.2.1, (v135.1.2.2.2.1, (v135.1.2.2.2.2.1, (v135.1.2.2.2.2.2.1, (v135.1.2.2.2.2.2.2.1, (v135.1.2.2.2.2.2.2.2.1, ()))))))))), (v135.2.1, (v135.2.2.1, ((v135.2.2.2.1.1, ()), ()))))))
else none)
else (some (.inr (.inr ((v.1.2.1, (v.1.2.2.1, (v.1.2.2.2.1, (v.1.2.2.2.2.1, (v.1.2.2.2.2.2.1, (v.1.2.2.2.2.2.2.1, (v.1.2.2.2.2.2.2.2.1, ()))))))), (v.2.2.1, ((v.2.2.2.1.1, ()), ()))))))

def l5_0_17 (v : ((Int × Bool × Int × Int × Bool × Bool × Int × Unit) × ((List (Bool × Int × Int × Int × Unit)) × ((Int × Int × Int × Int × Unit) × Unit) × Unit))) : Option (((Int × Bool × Int × Int × Bool × Bool × Int × Unit) × ((List (Bool × Int × Int × Int × Unit)) × ((Int × Int × Int × Int × Unit) × Unit) × Unit)) ⊕ (((Bool × Unit) × (Unit)) ⊕ ((Bool × Bool × Bool × Int × Int × Unit) × (Unit)))) :=
bif (decide ((v.1.2.2.1 : Int) < v.2.2.1.1.2.2.1)) then (let x131 := (w64 ((w64 (v.1.2.2.2.1)) + (w64 (v.1.2.2.1 * v.2.2.1.1.2.2.2.1))))
(m21 ((v.2.1, (v.1.2.2.1, ())), ())).bind fun u132 =>
(m20 ((x131, (u132.2.1.1, ())), ())).bind fun u133 =>
(loopT l5_0_20 ((0, (v.1.1, (v.1.2.1, (v.1.2.2.2.1, (v.1.2.2.2.2.1, (v.1.2.2.2.2.2.1, (v.1.2.2.2.2.2.2.1, (v.1.2.2.1, (((u133.2.1.length : Nat) : Int), ()))))))))), (u133.2.1, (v.2.1, ((v.2.2.1.1, ()), ()))))).bind fun d137 =>
sumE d137 (fun d138 => (some (.inr (.inl ((d138.1.1, ()), ()))))) (fun d139 => (some (.inl ((d139.1.1, (d139.1.2.1, ((w64 (d139.1.2.2.2.2.2.2.1 + 1)), (d139.1.2.2.1, (d139.1.2.2.2.1, (d139.1.2.2.2.2.1, (d139.1.2.2.2.2.2.1, ()))))))), (d139.2.1, ((d139.2.2.1.1, ()), ())))))))
else (some (.inr (.inr ((v.1.2.1, (v.1.2.2.2.2.1, (v.1.2.2.2.2.2.1, (v.1.2.2.2.2.2.2.1, (v.1.1, ()))))), ()))))

/- pagewatch/pagewatchlaw26.ChannelFirst -/
def i5 : Abs.Sg := ⟨[0, 1], (.dat (.row (.int .i64)) (.dat (.int .u32) .nil)), .nil⟩
def o5 : Abs.Sg := ⟨[4], (.dat .bool .nil), .nil⟩
def m5 (v : (((List Int) × Int × Unit) × (Unit))) : Option ((Bool × Unit) × (Unit)) :=
(m8 ((v.1.1, ()), ())).bind fun u119 =>
bif (!u119.1.1) then ((m9 ((), ())).bind fun u120 =>
some ((u120.1.1, ()), ()))
else ((m10 ((v.1.1, ()), ())).bind fun u121 =>
(m11 ((), ((u121.2.1.1, ()), ()))).bind fun u122 =>
(m18 ((), ((u122.2.1.1, ()), ()))).bind fun u123 =>
(loopT l5_0_7 ((0, (v.1.2.1, (((u123.2.2.1.length : Nat) : Int), ()))), ([], (u123.2.2.1, ((u122.2.2.1.1, ()), ()))))).bind fun d128 =>
(m14 ((d128.2.2.1.1, ((w64 (d128.1.1)), (d128.2.1, ()))), ())).bind fun u129 =>
(m14 ((d128.2.2.1.1, ((w64 (d128.1.1)), (d128.2.2.2.1, ()))), ())).bind fun u130 =>
(loopT l5_0_17 ((u129.1.1, (false, (0, (d128.1.1, (u129.1.2.1, (u130.1.2.1, (u130.1.1, ()))))))), (d128.2.1, ((d128.2.2.1.1, ()), ())))).bind fun d140 =>
sumE d140 (fun d141 => (some ((d141.1.1, ()), ()))) (fun d142 => (((bif ((d142.1.2.2.2.2.1 : Int) == d142.1.2.2.2.1) then (bif (d142.1.2.1 == d142.1.2.2.1) then (bif (d142.1.2.1 == d142.1.1) then ((m9 ((), ())).bind fun u143 =>
some ((u143.1.1, ()), ()))
else (some ((false, ()), ())))
else (some ((false, ()), ())))
else (some ((false, ()), ()))) : Option ((Bool × Unit) × (Unit))).bind fun v144 =>
some ((v144.1.1, ()), ()))))
def sp5 : Abs.Spec := ⟨0, i5, o5, m5⟩
def an5 : Nat → Abs.FAn
  | 0 => Abs.FAn.mk (fun
    | 26 => some ⟨[4], (.dat .bool .nil), .nil⟩
    | 22 => some ⟨[11, 15, 80, 7, 6, 1, 12, 14, 13, 16, 81, 82, 18], (.dat (.int .i64) (.dat .bool (.st (.own (.int .i64) (0, 0)) (.st (.own (.cons .bool (.cons (.int .i64) (.cons (.int .i64) (.cons (.int .i64) .unit)))) (1, 0)) (.st (.ptr (2, 0) 4 0 0) (.dat (.int .u32) (.dat .bool (.dat .bool (.dat (.int .i64) (.dat (.int .i64) (.dat (.int .i64) (.dat (.int .i64) (.dat (.int .i64) .nil))))))))))))), (.arr (.int .i64) false (.arr (.cons .bool (.cons (.int .i64) (.cons (.int .i64) (.cons (.int .i64) .unit)))) false (.box 4 (.dat (.cons (.int .i64) (.cons (.int .i64) (.cons (.int .i64) (.cons (.int .i64) .unit)))) .nil) .nil)))⟩
    | _ => none) (fun
    | 11 => some (⟨[29, 7, 6, 1, 30, 31, 10, 8], (.st (.own (.cons .bool (.cons (.int .i64) (.cons (.int .i64) (.cons (.int .i64) .unit)))) (0, 0)) (.st (.own (.cons .bool (.cons (.int .i64) (.cons (.int .i64) (.cons (.int .i64) .unit)))) (0, 0)) (.st (.ptr (1, 0) 4 0 0) (.dat (.int .u32) (.dat (.int .i64) (.dat (.int .i64) (.st (.ptr (2, 0) 4 0 0) (.st (.own (.cons .bool (.cons (.int .i64) (.cons (.int .i64) (.cons (.int .i64) .unit)))) (3, 0)) .nil)))))))), (.arr (.cons .bool (.cons (.int .i64) (.cons (.int .i64) (.cons (.int .i64) .unit)))) false (.box 4 (.dat (.cons (.int .i64) (.cons (.int .i64) (.cons (.int .i64) (.cons (.int .i64) .unit)))) .nil) (.box 4 (.dat (.cons .bool (.cons (.int .i64) (.cons (.int .i64) (.cons (.int .i64) .unit)))) .nil) (.arr (.cons .bool (.cons (.int .i64) (.cons (.int .i64) (.cons (.int .i64) .unit)))) false .nil))))⟩, none)
    | _ => none) (fun
    | 17 => some ⟨⟨[11, 15, 16, 7, 6, 1, 12, 14, 13], (.dat (.int .i64) (.dat .bool (.dat (.int .i64) (.st (.own (.cons .bool (.cons (.int .i64) (.cons (.int .i64) (.cons (.int .i64) .unit)))) (0, 0)) (.st (.ptr (1, 0) 4 0 0) (.dat (.int .u32) (.dat .bool (.dat .bool (.dat (.int .i64) .nil))))))))), (.arr (.cons .bool (.cons (.int .i64) (.cons (.int .i64) (.cons (.int .i64) .unit)))) false (.box 4 (.dat (.cons (.int .i64) (.cons (.int .i64) (.cons (.int .i64) (.cons (.int .i64) .unit)))) .nil) .nil))⟩, (.more .ret ⟨[4], (.dat .bool .nil), .nil⟩ (.one (.exit 2) ⟨[15, 12, 14, 13, 11], (.dat .bool (.dat .bool (.dat .bool (.dat (.int .i64) (.dat (.int .i64) .nil))))), .nil⟩))⟩
    | 20 => some ⟨⟨[82, 11, 15, 80, 7, 6, 1, 12, 14, 13, 16, 81], (.dat (.int .i64) (.dat (.int .i64) (.dat .bool (.st (.own (.int .i64) (0, 0)) (.st (.own (.cons .bool (.cons (.int .i64) (.cons (.int .i64) (.cons (.int .i64) .unit)))) (1, 0)) (.st (.ptr (2, 0) 4 0 0) (.dat (.int .u32) (.dat .bool (.dat .bool (.dat (.int .i64) (.dat (.int .i64) (.dat (.int .i64) .nil)))))))))))), (.arr (.int .i64) false (.arr (.cons .bool (.cons (.int .i64) (.cons (.int .i64) (.cons (.int .i64) .unit)))) false (.box 4 (.dat (.cons (.int .i64) (.cons (.int .i64) (.cons (.int .i64) (.cons (.int .i64) .unit)))) .nil) .nil)))⟩, (.more .ret ⟨[4], (.dat .bool .nil), .nil⟩ (.one (.exit 4) ⟨[11, 15, 7, 6, 1, 12, 14, 13, 16], (.dat (.int .i64) (.dat .bool (.st (.own (.cons .bool (.cons (.int .i64) (.cons (.int .i64) (.cons (.int .i64) .unit)))) (0, 0)) (.st (.ptr (1, 0) 4 0 0) (.dat (.int .u32) (.dat .bool (.dat .bool (.dat (.int .i64) (.dat (.int .i64) .nil))))))))), (.arr (.cons .bool (.cons (.int .i64) (.cons (.int .i64) (.cons (.int .i64) .unit)))) false (.box 4 (.dat (.cons (.int .i64) (.cons (.int .i64) (.cons (.int .i64) (.cons (.int .i64) .unit)))) .nil) .nil))⟩))⟩
    | 7 => some ⟨⟨[31, 8, 29, 7, 6, 1, 30], (.dat (.int .i64) (.st (.own (.cons .bool (.cons (.int .i64) (.cons (.int .i64) (.cons (.int .i64) .unit)))) (0, 0)) (.st (.own (.cons .bool (.cons (.int .i64) (.cons (.int .i64) (.cons (.int .i64) .unit)))) (1, 0)) (.st (.own (.cons .bool (.cons (.int .i64) (.cons (.int .i64) (.cons (.int .i64) .unit)))) (1, 0)) (.st (.ptr (2, 0) 4 0 0) (.dat (.int .u32) (.dat (.int .i64) .nil))))))), (.arr (.cons .bool (.cons (.int .i64) (.cons (.int .i64) (.cons (.int .i64) .unit)))) false (.arr (.cons .bool (.cons (.int .i64) (.cons (.int .i64) (.cons (.int .i64) .unit)))) false (.box 4 (.dat (.cons (.int .i64) (.cons (.int .i64) (.cons (.int .i64) (.cons (.int .i64) .unit)))) .nil) .nil)))⟩, (.one (.exit 0) ⟨[7, 6, 1, 8], (.st (.own (.cons .bool (.cons (.int .i64) (.cons (.int .i64) (.cons (.int .i64) .unit)))) (0, 0)) (.st (.ptr (1, 0) 4 0 0) (.dat (.int .u32) (.st (.own (.cons .bool (.cons (.int .i64) (.cons (.int .i64) (.cons (.int .i64) .unit)))) (2, 0)) .nil)))), (.arr (.cons .bool (.cons (.int .i64) (.cons (.int .i64) (.cons (.int .i64) .unit)))) false (.box 4 (.dat (.cons (.int .i64) (.cons (.int .i64) (.cons (.int .i64) (.cons (.int .i64) .unit)))) .nil) (.arr (.cons .bool (.cons (.int .i64) (.cons (.int .i64) (.cons (.int .i64) .unit)))) false .nil)))⟩)⟩
    | _ => none) (fun _ _ => 0)
  | _ => {}
theorem ok5 : Abs.SpecOK Try.prog 5 sp5 :=
  Abs.specOK_of (n := 12) (an := an5) (T := Abs.tabOf [(8, sp8), (9, sp9), (10, sp10), (11, sp11), (18, sp18), (19, sp19), (14, sp14), (21, sp21), (20, sp20)]) good foll (Abs.tabOf_ok _ (by simp only [List.forall_mem_cons]; exact ⟨ok8, ok9, ok10, ok11, ok18, ok19, ok14, ok21, ok20, fun _ h => by cases h⟩)) rfl (by intro v; kernel_rfl)

/- pagewatch/pagewatchref26.Valid -/
def i30 : Abs.Sg := ⟨[0], (.dat (.cons (.int .i64) (.cons (.int .i64) (.cons (.int .i64) (.cons (.int .i64) .unit)))) .nil), .nil⟩
def o30 : Abs.Sg := ⟨[2], (.dat .bool .nil), .nil⟩
def m30 (v : (((Int × Int × Int × Int × Unit) × Unit) × (Unit))) : Option ((Bool × Unit) × (Unit)) :=
(((m37 ((v.1.1.1, (0, (2, ()))), ())).bind fun u9 =>
bif u9.1.1 then ((m37 ((v.1.1.2.1, (0, (3600, ()))), ())).bind fun u10 =>
bif u10.1.1 then ((m37 ((v.1.1.2.2.1, (1, (6, ()))), ())).bind fun u11 =>
bif u11.1.1 then ((m37 ((v.1.1.2.2.2.1, (1, (3600, ()))), ())).bind fun u12 =>
some ((u12.1.1, ()), ()))
else (some ((false, ()), ())))
else (some ((false, ()), ())))
else (some ((false, ()), ()))) : Option ((Bool × Unit) × (Unit))).bind fun v13 =>
some ((v13.1.1, ()), ())
def sp30 : Abs.Spec := ⟨0, i30, o30, m30⟩
def an30 : Nat → Abs.FAn
  | 0 => Abs.FAn.mk (fun
    | 1 => some ⟨[2], (.dat .bool .nil), .nil⟩
    | _ => none) (fun _ => none) (fun _ => none) (fun _ _ => 0)
  | _ => {}
theorem ok30 : Abs.SpecOK Try.prog 30 sp30 :=
  Abs.specOK_of (n := 12) (an := an30) (T := Abs.tabOf [(37, sp37)]) good foll (Abs.tabOf_ok _ (by simp only [List.forall_mem_cons]; exact ⟨ok37, fun _ h => by cases h⟩)) rfl (by intro v; kernel_rfl)

/- pagewatch/pagewatchref26.Fates -/
def i24 : Abs.Sg := ⟨[0, 1], (.dat (.row (.cons .bool (.cons (.int .i64) (.cons (.int .i64) (.cons (.int .i64) .unit))))) (.dat (.int .i64) .nil)), .nil⟩
def o24 : Abs.Sg := ⟨[4], (.st (.ptr (0, 0) 4 0 0) .nil), (.box 4 (.dat (.cons .bool (.cons (.int .i64) (.cons (.int .i64) (.cons (.int .i64) .unit)))) .nil) .nil)⟩
def m24 (v : (((List (Bool × Int × Int × Int × Unit)) × Int × Unit) × (Unit))) : Option ((Unit) × (((Bool × Int × Int × Int × Unit) × Unit) × Unit)) :=
((bif (decide ((v.1.2.1 : Int) < 0)) then (some ((true, (v.1.2.1, (v.1.1, ()))), (((false, (0, (0, (0, ())))), ()), ())))
else (let x17 := (decide ((v.1.2.1 : Int) ≥ (v.1.1.length : Int)))
bif x17 then (some ((true, (v.1.2.1, (v.1.1, ()))), (((false, (0, (0, (0, ())))), ()), ())))
else (Abs.rowAt v.1.1 v.1.2.1 fun e18 _ =>
(m19 ((e18, ()), ())).bind fun u19 =>
some (((!u19.1.1), (v.1.2.1, (v.1.1, ()))), (((false, (0, (0, (0, ())))), ()), ()))))) : Option ((Bool × Int × (List (Bool × Int × Int × Int × Unit)) × Unit) × (((Bool × Int × Int × Int × Unit) × Unit) × Unit))).bind fun v20 =>
bif v20.1.1 then (some ((), (((true, (0, (0, (0, ())))), ()), ())))
else (Abs.rowAt v20.1.2.2.1 v20.1.2.1 fun e21 _ =>
some ((), ((e21, ()), ())))
def sp24 : Abs.Spec := ⟨0, i24, o24, m24⟩
def an24 : Nat → Abs.FAn
  | 0 => Abs.FAn.mk (fun
    | 1 => some ⟨[20, 4, 1, 0], (.dat .bool (.st (.ptr (0, 0) 4 0 0) (.dat (.int .i64) (.dat (.row (.cons .bool (.cons (.int .i64) (.cons (.int .i64) (.cons (.int .i64) .unit))))) .nil)))), (.box 4 (.dat (.cons .bool (.cons (.int .i64) (.cons (.int .i64) (.cons (.int .i64) .unit)))) .nil) .nil)⟩
    | _ => none) (fun _ => none) (fun _ => none) (fun _ _ => 0)
  | _ => {}
theorem ok24 : Abs.SpecOK Try.prog 24 sp24 :=
  Abs.specOK_of (n := 12) (an := an24) (T := Abs.tabOf [(19, sp19)]) good foll (Abs.tabOf_ok _ (by simp only [List.forall_mem_cons]; exact ⟨ok19, fun _ h => by cases h⟩)) rfl (by intro v; kernel_rfl)

def l22_0_5 (v : ((Int × Int × Bool × Int × (List (Bool × Int × Int × Int × Unit)) × Unit) × (((Int × Int × Int × Int × Unit) × Unit) × Unit))) : Option (((Int × Int × Bool × Int × (List (Bool × Int × Int × Int × Unit)) × Unit) × (((Int × Int × Int × Int × Unit) × Unit) × Unit)) ⊕ ((Bool × Int × Unit) × (Unit))) :=
bif (decide ((v.1.1 : Int) < v.2.1.1.2.2.1)) then ((((m24 ((v.1.2.2.2.2.1, (v.1.1, ())), ())).bind fun u43 =>
bif (!u43.2.1.1.1) then (let x44 := (w64 (v.1.2.2.2.1 + (w64 (v.1.1 * v.2.1.1.2.2.2.1))))
((bif (!v.1.2.2.1) then (some ((true, (v.1.2.2.2.1, (v.1.2.2.2.2.1, (v.1.1, ((w64 (x44 + u43.2.1.1.2.1)), (v.1.2.1, (v.1.2.2.1, ()))))))), ((v.2.1.1, ()), ())))
else (let x45 := (decide (((w64 (x44 + u43.2.1.1.2.1)) : Int) < v.1.2.1))
some ((x45, (v.1.2.2.2.1, (v.1.2.2.2.2.1, (v.1.1, ((w64 (x44 + u43.2.1.1.2.1)), (v.1.2.1, (v.1.2.2.1, ()))))))), ((v.2.1.1, ()), ())))) : Option ((Bool × Int × (List (Bool × Int × Int × Int × Unit)) × Int × Int × Int × Bool × Unit) × (((Int × Int × Int × Int × Unit) × Unit) × Unit))).bind fun v46 =>
bif v46.1.1 then (some ((v46.1.2.2.2.2.1, (true, (v46.1.2.1, (v46.1.2.2.1, (v46.1.2.2.2.1, ()))))), ((v46.2.1.1, ()), ())))
else (some ((v46.1.2.2.2.2.2.1, (v46.1.2.2.2.2.2.2.1, (v46.1.2.1, (v46.1.2.2.1, (v46.1.2.2.2.1, ()))))), ((v46.2.1.1, ()), ()))))
else (some ((v.1.2.1, (v.1.2.2.1, (v.1.2.2.2.1, (v.1.2.2.2.2.1, (v.1.1, ()))))), ((v.2.1.1, ()), ())))) : Option ((Int × Bool × Int × (List (Bool × Int × Int × Int × Unit)) × Int × Unit) × (((Int × Int × Int × Int × Unit) × Unit) × Unit))).bind fun v47 =>
some (.inl (((w64 (v47.1.2.2.2.2.1 + 1)), (v47.1.1, (v47.1.2.1, (v47.1.2.2.1, (v47.1.2.2.2.1, ()))))), ((v47.2.1.1, ()), ()))))
else (some (.inr ((v.1.2.2.1, (v.1.2.1, ())), ())))

/- pagewatch/pagewatchref26.Reach -/
def i22 : Abs.Sg := ⟨[0, 1, 2], (.dat (.cons (.int .i64) (.cons (.int .i64) (.cons (.int .i64) (.cons (.int .i64) .unit)))) (.dat (.int .i64) (.dat (.row (.cons .bool (.cons (.int .i64) (.cons (.int .i64) (.cons (.int .i64) .unit))))) .nil))), .nil⟩
def o22 : Abs.Sg := ⟨[6, 7], (.dat (.int .i64) (.dat .bool .nil)), .nil⟩
def m22 (v : (((Int × Int × Int × Int × Unit) × Int × (List (Bool × Int × Int × Int × Unit)) × Unit) × (Unit))) : Option ((Int × Bool × Unit) × (Unit)) :=
(((m30 ((v.1.1, ()), ())).bind fun u40 =>
bif (!u40.1.1) then (some ((true, (0, (false, (v.1.2.1, (v.1.2.2.1, ()))))), ((v.1.1, ()), ())))
else ((m37 ((v.1.2.1, (0, (8589934592, ()))), ())).bind fun u41 =>
some (((!u41.1.1), (0, (false, (v.1.2.1, (v.1.2.2.1, ()))))), ((v.1.1, ()), ())))) : Option ((Bool × Int × Bool × Int × (List (Bool × Int × Int × Int × Unit)) × Unit) × (((Int × Int × Int × Int × Unit) × Unit) × Unit))).bind fun v42 =>
bif v42.1.1 then (some ((0, (false, ())), ()))
else ((loopT l22_0_5 ((0, (v42.1.2.1, (v42.1.2.2.1, (v42.1.2.2.2.1, (v42.1.2.2.2.2.1, ()))))), ((v42.2.1.1, ()), ()))).bind fun d48 =>
some ((d48.1.2.1, (d48.1.1, ())), ()))
def sp22 : Abs.Spec := ⟨0, i22, o22, m22⟩
def an22 : Nat → Abs.FAn
  | 0 => Abs.FAn.mk (fun
    | 10 => some ⟨[48, 3, 1, 2, 10, 12, 8, 9], (.dat .bool (.st (.ptr (0, 0) 4 0 0) (.dat (.int .i64) (.dat (.row (.cons .bool (.cons (.int .i64) (.cons (.int .i64) (.cons (.int .i64) .unit))))) (.dat (.int .i64) (.dat (.int .i64) (.dat (.int .i64) (.dat .bool .nil)))))))), (.box 4 (.dat (.cons (.int .i64) (.cons (.int .i64) (.cons (.int .i64) (.cons (.int .i64) .unit)))) .nil) .nil)⟩
    | 2 => some ⟨[20, 8, 9, 3, 1, 2], (.dat .bool (.dat (.int .i64) (.dat .bool (.st (.ptr (0, 0) 4 0 0) (.dat (.int .i64) (.dat (.row (.cons .bool (.cons (.int .i64) (.cons (.int .i64) (.cons (.int .i64) .unit))))) .nil)))))), (.box 4 (.dat (.cons (.int .i64) (.cons (.int .i64) (.cons (.int .i64) (.cons (.int .i64) .unit)))) .nil) .nil)⟩
    | _ => none) (fun
    | 6 => some (⟨[8, 9, 3, 1, 2, 10], (.dat (.int .i64) (.dat .bool (.st (.ptr (0, 0) 4 0 0) (.dat (.int .i64) (.dat (.row (.cons .bool (.cons (.int .i64) (.cons (.int .i64) (.cons (.int .i64) .unit))))) (.dat (.int .i64) .nil)))))), (.box 4 (.dat (.cons (.int .i64) (.cons (.int .i64) (.cons (.int .i64) (.cons (.int .i64) .unit)))) .nil) .nil)⟩, none)
    | _ => none) (fun
    | 5 => some ⟨⟨[10, 8, 9, 3, 1, 2], (.dat (.int .i64) (.dat (.int .i64) (.dat .bool (.st (.ptr (0, 0) 4 0 0) (.dat (.int .i64) (.dat (.row (.cons .bool (.cons (.int .i64) (.cons (.int .i64) (.cons (.int .i64) .unit))))) .nil)))))), (.box 4 (.dat (.cons (.int .i64) (.cons (.int .i64) (.cons (.int .i64) (.cons (.int .i64) .unit)))) .nil) .nil)⟩, (.one (.exit 0) ⟨[9, 8], (.dat .bool (.dat (.int .i64) .nil)), .nil⟩)⟩
    | _ => none) (fun _ _ => 0)
  | _ => {}
theorem ok22 : Abs.SpecOK Try.prog 22 sp22 :=
  Abs.specOK_of (n := 12) (an := an22) (T := Abs.tabOf [(30, sp30), (37, sp37), (24, sp24)]) good foll (Abs.tabOf_ok _ (by simp only [List.forall_mem_cons]; exact ⟨ok30, ok37, ok24, fun _ h => by cases h⟩)) rfl (by intro v; kernel_rfl)

def l23_0_4 (v : ((Int × (List (Bool × Int × Int × Int × Unit)) × Unit) × (((Int × Int × Int × Int × Unit) × Unit) × Unit))) : Option (((Int × (List (Bool × Int × Int × Int × Unit)) × Unit) × (((Int × Int × Int × Int × Unit) × Unit) × Unit)) ⊕ (((Bool × Unit) × (Unit)) ⊕ ((Unit) × (Unit)))) :=
bif (decide ((v.1.1 : Int) < v.2.1.1.2.2.1)) then ((m24 ((v.1.2.1, (v.1.1, ())), ())).bind fun u23 =>
((bif (!u23.2.1.1.1) then (some (((decide ((u23.2.1.1.2.1 : Int) ≤ v.2.1.1.2.1)), (v.1.2.1, (v.1.1, ()))), ((v.2.1.1, ()), ())))
else (some ((false, (v.1.2.1, (v.1.1, ()))), ((v.2.1.1, ()), ())))) : Option ((Bool × (List (Bool × Int × Int × Int × Unit)) × Int × Unit) × (((Int × Int × Int × Int × Unit) × Unit) × Unit))).bind fun v24 =>
bif v24.1.1 then (some (.inr (.inl ((true, ()), ()))))
else (some (.inl (((w64 (v24.1.2.2.1 + 1)), (v24.1.2.1, ())), ((v24.2.1.1, ()), ())))))
else (some (.inr (.inr ((), ()))))

/- pagewatch/pagewatchref26.Works -/
def i23 : Abs.Sg := ⟨[0, 1], (.dat (.cons (.int .i64) (.cons (.int .i64) (.cons (.int .i64) (.cons (.int .i64) .unit)))) (.dat (.row (.cons .bool (.cons (.int .i64) (.cons (.int .i64) (.cons (.int .i64) .unit))))) .nil)), .nil⟩
def o23 : Abs.Sg := ⟨[4], (.dat .bool .nil), .nil⟩
def m23 (v : (((Int × Int × Int × Int × Unit) × (List (Bool × Int × Int × Int × Unit)) × Unit) × (Unit))) : Option ((Bool × Unit) × (Unit)) :=
(m30 ((v.1.1, ()), ())).bind fun u22 =>
bif (!u22.1.1) then (some ((false, ()), ()))
else ((loopT l23_0_4 ((0, (v.1.2.1, ())), ((v.1.1, ()), ()))).bind fun d25 =>
sumE d25 (fun d26 => (some ((d26.1.1, ()), ()))) (fun d27 => (some ((false, ()), ()))))
def sp23 : Abs.Spec := ⟨0, i23, o23, m23⟩
def an23 : Nat → Abs.FAn
  | 0 => Abs.FAn.mk (fun
    | 7 => some ⟨[28, 2, 1, 5], (.dat .bool (.st (.ptr (0, 0) 4 0 0) (.dat (.row (.cons .bool (.cons (.int .i64) (.cons (.int .i64) (.cons (.int .i64) .unit))))) (.dat (.int .i64) .nil)))), (.box 4 (.dat (.cons (.int .i64) (.cons (.int .i64) (.cons (.int .i64) (.cons (.int .i64) .unit)))) .nil) .nil)⟩
    | _ => none) (fun _ => none) (fun
    | 4 => some ⟨⟨[5, 2, 1], (.dat (.int .i64) (.st (.ptr (0, 0) 4 0 0) (.dat (.row (.cons .bool (.cons (.int .i64) (.cons (.int .i64) (.cons (.int .i64) .unit))))) .nil))), (.box 4 (.dat (.cons (.int .i64) (.cons (.int .i64) (.cons (.int .i64) (.cons (.int .i64) .unit)))) .nil) .nil)⟩, (.more .ret ⟨[4], (.dat .bool .nil), .nil⟩ (.one (.exit 0) ⟨[], .nil, .nil⟩))⟩
    | _ => none) (fun _ _ => 0)
  | _ => {}
theorem ok23 : Abs.SpecOK Try.prog 23 sp23 :=
  Abs.specOK_of (n := 12) (an := an23) (T := Abs.tabOf [(30, sp30), (24, sp24)]) good foll (Abs.tabOf_ok _ (by simp only [List.forall_mem_cons]; exact ⟨ok30, ok24, fun _ h => by cases h⟩)) rfl (by intro v; kernel_rfl)

/- pagewatch/pagewatchref26.Arrivals -/
def i26 : Abs.Sg := ⟨[0, 1], (.dat (.int .i64) (.dat (.cons .bool (.cons (.int .i64) (.cons (.int .i64) (.cons (.int .i64) .unit)))) .nil)), .nil⟩
def o26 : Abs.Sg := ⟨[4], (.st (.own (.int .i64) (0, 0)) .nil), (.arr (.int .i64) false .nil)⟩
def m26 (v : ((Int × (Bool × Int × Int × Int × Unit) × Unit) × (Unit))) : Option ((Unit) × ((List Int) × Unit)) :=
(((m37 ((v.1.1, (0, (8589956192, ()))), ())).bind fun u15 =>
bif (!u15.1.1) then (some ((true, (v.1.1, ())), ((v.1.2.1, ()), ())))
else ((m19 ((v.1.2.1, ()), ())).bind fun u16 =>
bif (!u16.1.1) then (some ((true, (v.1.1, ())), ((v.1.2.1, ()), ())))
else (some ((v.1.2.1.1, (v.1.1, ())), ((v.1.2.1, ()), ()))))) : Option ((Bool × Int × Unit) × (((Bool × Int × Int × Int × Unit) × Unit) × Unit))).bind fun v17 =>
bif v17.1.1 then (some ((), ([], ())))
else (((bif ((v17.2.1.1.2.2.1 : Int) != 0) then (let x18 := (w64 ((w64 (v17.1.2.1 + v17.2.1.1.2.1)) + v17.2.1.1.2.2.1))
bif (decide ([(w64 (v17.1.2.1 + v17.2.1.1.2.1))].length + [x18].length ≤ 4294967296)) then
some ((), (([(w64 (v17.1.2.1 + v17.2.1.1.2.1))] ++ [x18]), ()))
else none)
else (some ((), ([(w64 (v17.1.2.1 + v17.2.1.1.2.1))], ())))) : Option ((Unit) × ((List Int) × Unit))).bind fun v19 =>
some ((), (v19.2.1, ())))
def sp26 : Abs.Spec := ⟨0, i26, o26, m26⟩
def an26 : Nat → Abs.FAn
  | 0 => Abs.FAn.mk (fun
    | 1 => some ⟨[17, 3, 0], (.dat .bool (.st (.ptr (0, 0) 4 0 0) (.dat (.int .i64) .nil))), (.box 4 (.dat (.cons .bool (.cons (.int .i64) (.cons (.int .i64) (.cons (.int .i64) .unit)))) .nil) .nil)⟩
    | _ => none) (fun
    | 6 => some (⟨[5], (.st (.own (.int .i64) (0, 0)) .nil), (.arr (.int .i64) false .nil)⟩, none)
    | _ => none) (fun _ => none) (fun _ _ => 0)
  | _ => {}
theorem ok26 : Abs.SpecOK Try.prog 26 sp26 :=
  Abs.specOK_of (n := 12) (an := an26) (T := Abs.tabOf [(37, sp37), (19, sp19)]) good foll (Abs.tabOf_ok _ (by simp only [List.forall_mem_cons]; exact ⟨ok37, ok19, fun _ h => by cases h⟩)) rfl (by intro v; kernel_rfl)

def l25_0_4 (v : ((Int × (List Int) × (List Int) × Unit) × (Unit))) : Option (((Int × (List Int) × (List Int) × Unit) × (Unit)) ⊕ (((Bool × Unit) × (Unit)) ⊕ ((Unit) × (Unit)))) :=
let x29 := (decide ((v.1.1 : Int) < (v.1.2.2.1.length : Int)))
bif x29 then (Abs.rowAt v.1.2.2.1 v.1.1 fun e30 _ =>
Abs.rowAt v.1.2.1 v.1.1 fun e31 _ =>
bif ((e30 : Int) != e31) then (some (.inr (.inl ((false, ()), ()))))
else (some (.inl (((w64 (v.1.1 + 1)), (v.1.2.1, (v.1.2.2.1, ()))), ()))))
else (some (.inr (.inr ((), ()))))

/- pagewatch/pagewatchref25.Same -/
def i25 : Abs.Sg := ⟨[0, 1], (.dat (.row (.int .i64)) (.dat (.row (.int .i64)) .nil)), .nil⟩
def o25 : Abs.Sg := ⟨[4], (.dat .bool .nil), .nil⟩
def m25 (v : (((List Int) × (List Int) × Unit) × (Unit))) : Option ((Bool × Unit) × (Unit)) :=
let x28 := (((v.1.1.length : Int) : Int) != (v.1.2.1.length : Int))
bif x28 then (some ((false, ()), ()))
else ((loopT l25_0_4 ((0, (v.1.2.1, (v.1.1, ()))), ())).bind fun d32 =>
sumE d32 (fun d33 => (some ((d33.1.1, ()), ()))) (fun d34 => (some ((true, ()), ()))))
def sp25 : Abs.Spec := ⟨0, i25, o25, m25⟩
def an25 : Nat → Abs.FAn
  | 0 => Abs.FAn.mk (fun _ => none) (fun _ => none) (fun
    | 4 => some ⟨⟨[5, 1, 0], (.dat (.int .i64) (.dat (.row (.int .i64)) (.dat (.row (.int .i64)) .nil))), .nil⟩, (.more .ret ⟨[4], (.dat .bool .nil), .nil⟩ (.one (.exit 0) ⟨[], .nil, .nil⟩))⟩
    | _ => none) (fun _ _ => 0)
  | _ => {}
theorem ok25 : Abs.SpecOK Try.prog 25 sp25 :=
  Abs.specOK_of (n := 12) (an := an25) (T := Abs.tabOf []) good foll (Abs.tabOf_ok _ (fun _ h => by cases h)) rfl (by intro v; kernel_rfl)

def l27_0_5 (v : ((Int × Int × Unit) × (((Bool × Int × Int × Int × Unit) × Unit) × (List Int) × Unit))) : Option (((Int × Int × Unit) × (((Bool × Int × Int × Int × Unit) × Unit) × (List Int) × Unit)) ⊕ ((Unit) × ((List Int) × Unit))) :=
bif (decide ((v.1.1 : Int) < v.1.2.1)) then (bif (decide ((0 : Int) ≤ v.1.1 ∧ (v.1.1 : Int) < v.2.2.1.length)) then
(v.2.2.1[v.1.1.toNat]?).bind fun e12 =>
bif (decide ((0 : Int) ≤ v.1.1 ∧ (v.1.1 : Int) < v.2.2.1.length)) then
bif (decide (v.1.1.toNat < v.2.2.1.length)) then
some (.inl (((w64 (v.1.1 + 1)), (v.1.2.1, ())), ((v.2.1.1, ()), ((v.2.2.1.set v.1.1.toNat (w64 (e12 + v.2.1.1.2.2.2.1))), ()))))
else none
else none
else none)
else (some (.inr ((), (v.2.2.1, ()))))

/- pagewatch/channel.Receipts -/
def i27 : Abs.Sg := ⟨[0, 1], (.dat (.int .i64) (.dat (.cons .bool (.cons (.int .i64) (.cons (.int .i64) (.cons (.int .i64) .unit)))) .nil)), .nil⟩
def o27 : Abs.Sg := ⟨[4], (.st (.own (.int .i64) (0, 0)) .nil), (.arr (.int .i64) false .nil)⟩
def m27 (v : ((Int × (Bool × Int × Int × Int × Unit) × Unit) × (Unit))) : Option ((Unit) × ((List Int) × Unit)) :=
(m20 ((v.1.1, (v.1.2.1, ())), ())).bind fun u11 =>
bif ((v.1.2.1.2.2.2.1 : Int) == (-1)) then (some ((), ([], ())))
else ((loopT l27_0_5 ((0, (((u11.2.1.length : Nat) : Int), ())), ((v.1.2.1, ()), (u11.2.1, ())))).bind fun d13 =>
some ((), (d13.2.1, ())))
def sp27 : Abs.Spec := ⟨0, i27, o27, m27⟩
def an27 : Nat → Abs.FAn
  | 0 => Abs.FAn.mk (fun _ => none) (fun _ => none) (fun
    | 5 => some ⟨⟨[15, 3, 5, 14], (.dat (.int .i64) (.st (.ptr (0, 0) 4 0 0) (.st (.own (.int .i64) (1, 0)) (.dat (.int .i64) .nil)))), (.box 4 (.dat (.cons .bool (.cons (.int .i64) (.cons (.int .i64) (.cons (.int .i64) .unit)))) .nil) (.arr (.int .i64) false .nil))⟩, (.one (.exit 0) ⟨[5], (.st (.own (.int .i64) (0, 0)) .nil), (.arr (.int .i64) false .nil)⟩)⟩
    | _ => none) (fun _ _ => 0)
  | _ => {}
theorem ok27 : Abs.SpecOK Try.prog 27 sp27 :=
  Abs.specOK_of (n := 12) (an := an27) (T := Abs.tabOf [(20, sp20)]) good foll (Abs.tabOf_ok _ (by simp only [List.forall_mem_cons]; exact ⟨ok20, fun _ h => by cases h⟩)) rfl (by intro v; kernel_rfl)

def l28_0_4 (v : ((Int × Unit) × (((Bool × Int × Int × Int × Unit) × Unit) × (List Int) × (List Int) × Unit))) : Option (((Int × Unit) × (((Bool × Int × Int × Int × Unit) × Unit) × (List Int) × (List Int) × Unit)) ⊕ ((Unit) × ((List Int) × Unit))) :=
((let x23 := (decide ((v.1.1 : Int) < ((v.2.2.1.length : Nat) : Int)))
bif x23 then (some (((decide ((v.2.1.1.2.2.2.1 : Int) ≥ 0)), (v.1.1, ())), ((v.2.1.1, ()), (v.2.2.1, (v.2.2.2.1, ())))))
else (some ((false, (v.1.1, ())), ((v.2.1.1, ()), (v.2.2.1, (v.2.2.2.1, ())))))) : Option ((Bool × Int × Unit) × (((Bool × Int × Int × Int × Unit) × Unit) × (List Int) × (List Int) × Unit))).bind fun v24 =>
bif v24.1.1 then (bif (decide ((0 : Int) ≤ v24.1.2.1 ∧ (v24.1.2.1 : Int) < v24.2.2.1.length)) then
(v24.2.2.1[v24.1.2.1.toNat]?).bind fun e25 =>
bif (decide (v24.2.2.2.1.length + [(w64 (e25 + v24.2.1.1.2.2.2.1))].length ≤ 4294967296)) then
let x26 := (v24.2.2.2.1 ++ [(w64 (e25 + v24.2.1.1.2.2.2.1))])
some (.inl (((w64 (v24.1.2.1 + 1)), ()), ((v24.2.1.1, ()), (v24.2.2.1, (x26, ())))))
else none
else none)
else (some (.inr ((), (v24.2.2.2.1, ()))))

/- pagewatch/pagewatchref26.Receipts -/
def i28 : Abs.Sg := ⟨[0, 1], (.dat (.int .i64) (.dat (.cons .bool (.cons (.int .i64) (.cons (.int .i64) (.cons (.int .i64) .unit)))) .nil)), .nil⟩
def o28 : Abs.Sg := ⟨[4], (.st (.own (.int .i64) (0, 0)) .nil), (.arr (.int .i64) false .nil)⟩
def m28 (v : ((Int × (Bool × Int × Int × Int × Unit) × Unit) × (Unit))) : Option ((Unit) × ((List Int) × Unit)) :=
(m26 ((v.1.1, (v.1.2.1, ())), ())).bind fun u22 =>
(loopT l28_0_4 ((0, ()), ((v.1.2.1, ()), (u22.2.1, ([], ()))))).bind fun d27 =>
some ((), (d27.2.1, ()))
def sp28 : Abs.Spec := ⟨0, i28, o28, m28⟩
def an28 : Nat → Abs.FAn
  | 0 => Abs.FAn.mk (fun
    | 4 => some ⟨[19, 3, 6, 7, 5], (.dat .bool (.st (.ptr (0, 0) 4 0 0) (.st (.own (.int .i64) (1, 0)) (.dat (.int .i64) (.st (.own (.int .i64) (2, 0)) .nil))))), (.box 4 (.dat (.cons .bool (.cons (.int .i64) (.cons (.int .i64) (.cons (.int .i64) .unit)))) .nil) (.arr (.int .i64) false (.arr (.int .i64) false .nil)))⟩
    | _ => none) (fun _ => none) (fun
    | 4 => some ⟨⟨[7, 3, 6, 5], (.dat (.int .i64) (.st (.ptr (0, 0) 4 0 0) (.st (.own (.int .i64) (1, 0)) (.st (.own (.int .i64) (2, 0)) .nil)))), (.box 4 (.dat (.cons .bool (.cons (.int .i64) (.cons (.int .i64) (.cons (.int .i64) .unit)))) .nil) (.arr (.int .i64) false (.arr (.int .i64) false .nil)))⟩, (.one (.exit 0) ⟨[5], (.st (.own (.int .i64) (0, 0)) .nil), (.arr (.int .i64) false .nil)⟩)⟩
    | _ => none) (fun _ _ => 0)
  | _ => {}
theorem ok28 : Abs.SpecOK Try.prog 28 sp28 :=
  Abs.specOK_of (n := 12) (an := an28) (T := Abs.tabOf [(26, sp26)]) good foll (Abs.tabOf_ok _ (by simp only [List.forall_mem_cons]; exact ⟨ok26, fun _ h => by cases h⟩)) rfl (by intro v; kernel_rfl)

/- pagewatch/pagewatchref26.Worst -/
def i31 : Abs.Sg := ⟨[0], (.dat (.cons (.int .i64) (.cons (.int .i64) (.cons (.int .i64) (.cons (.int .i64) .unit)))) .nil), .nil⟩
def o31 : Abs.Sg := ⟨[2], (.dat (.int .i64) .nil), .nil⟩
def m31 (v : (((Int × Int × Int × Int × Unit) × Unit) × (Unit))) : Option ((Int × Unit) × (Unit)) :=
(m30 ((v.1.1, ()), ())).bind fun u6 =>
bif (!u6.1.1) then (some ((0, ()), ()))
else (let x7 := (w64 ((w64 ((w64 (v.1.1.2.2.1 - 1)) * v.1.1.2.2.2.1)) + v.1.1.2.1))
some ((x7, ()), ()))
def sp31 : Abs.Spec := ⟨0, i31, o31, m31⟩
def an31 : Nat → Abs.FAn
  | _ => {}
theorem ok31 : Abs.SpecOK Try.prog 31 sp31 :=
  Abs.specOK_of (n := 12) (an := an31) (T := Abs.tabOf [(30, sp30)]) good foll (Abs.tabOf_ok _ (by simp only [List.forall_mem_cons]; exact ⟨ok30, fun _ h => by cases h⟩)) rfl (by intro v; kernel_rfl)

def l6_0_22 (v : ((Int × (List (Bool × Int × Int × Int × Unit)) × Int × (List (Bool × Int × Int × Int × Unit)) × Int × Int × Int × Int × Int × Unit) × (((Int × Int × Int × Int × Unit) × Unit) × (((List Int) × Int × Unit) × Unit) × (List Int) × (List (List (Bool × Int × Int × Int × Unit))) × (List (Int × Int × Int × Int × Unit)) × ((Bool × Int × Int × Int × Unit) × Unit) × Unit))) : Option (((Int × (List (Bool × Int × Int × Int × Unit)) × Int × (List (Bool × Int × Int × Int × Unit)) × Int × Int × Int × Int × Int × Unit) × (((Int × Int × Int × Int × Unit) × Unit) × (((List Int) × Int × Unit) × Unit) × (List Int) × (List (List (Bool × Int × Int × Int × Unit))) × (List (Int × Int × Int × Int × Unit)) × ((Bool × Int × Int × Int × Unit) × Unit) × Unit)) ⊕ (((Bool × Unit) × (Unit)) ⊕ ((Int × (List (Bool × Int × Int × Int × Unit)) × Int × Int × Int × Int × Unit) × (((Int × Int × Int × Int × Unit) × Unit) × (((List Int) × Int × Unit) × Unit) × (List (List (Bool × Int × Int × Int × Unit))) × (List (Int × Int × Int × Int × Unit)) × ((Bool × Int × Int × Int × Unit) × Unit) × Unit)))) :=
bif (decide ((v.1.1 : Int) < v.1.2.2.2.2.2.2.2.2.1)) then (bif (decide ((0 : Int) ≤ v.1.1 ∧ (v.1.1 : Int) < v.2.2.2.1.length)) then
(v.2.2.2.1[v.1.1.toNat]?).bind fun e399 =>
(m14 ((v.2.1.1, (e399, (v.1.2.1, ()))), ())).bind fun u400 =>
(m22 ((v.2.1.1, (e399, (v.1.2.1, ()))), ())).bind fun u401 =>
(m12 ((6, ()), ((v.2.2.1.1, ()), ()))).bind fun u402 =>
((bif ((u400.1.1 : Int) != u401.1.1) then (some ((true, (v.1.2.1, (v.1.2.2.1, (v.1.2.2.2.1, (v.1.2.2.2.2.1, (v.1.2.2.2.2.2.1, (v.1.2.2.2.2.2.2.1, (v.1.2.2.2.2.2.2.2.1, (v.1.2.2.2.2.2.2.2.2.1, (v.1.1, ())))))))))), ((v.2.1.1, ()), ((u402.2.1.1, ()), (v.2.2.2.1, (v.2.2.2.2.1, (v.2.2.2.2.2.1, ((v.2.2.2.2.2.2.1.1, ()), ()))))))))
else (bif (!(u400.1.2.1 == u401.1.2.1)) then (some ((true, (v.1.2.1, (v.1.2.2.1, (v.1.2.2.2.1, (v.1.2.2.2.2.1, (v.1.2.2.2.2.2.1, (v.1.2.2.2.2.2.2.1, (v.1.2.2.2.2.2.2.2.1, (v.1.2.2.2.2.2.2.2.2.1, (v.1.1, ())))))))))), ((v.2.1.1, ()), ((u402.2.1.1, ()), (v.2.2.2.1, (v.2.2.2.2.1, (v.2.2.2.2.2.1, ((v.2.2.2.2.2.2.1.1, ()), ()))))))))
else ((m17 ((v.2.1.1, (v.1.2.1, ())), ())).bind fun u403 =>
(m23 ((v.2.1.1, (v.1.2.1, ())), ())).bind fun u404 =>
bif (!(u403.1.1 == u404.1.1)) then (some ((true, (v.1.2.1, (v.1.2.2.1, (v.1.2.2.2.1, (v.1.2.2.2.2.1, (v.1.2.2.2.2.2.1, (v.1.2.2.2.2.2.2.1, (v.1.2.2.2.2.2.2.2.1, (v.1.2.2.2.2.2.2.2.2.1, (v.1.1, ())))))))))), ((v.2.1.1, ()), ((u402.2.1.1, ()), (v.2.2.2.1, (v.2.2.2.2.1, (v.2.2.2.2.2.1, ((v.2.2.2.2.2.2.1.1, ()), ()))))))))
else ((m21 ((v.1.2.1, ((w64 (u402.1.1 - 1)), ())), ())).bind fun u405 =>
(m24 ((v.1.2.1, ((w64 (u402.1.1 - 1)), ())), ())).bind fun u406 =>
let x407 := (!((u405.2.1.1.1 == u406.2.1.1.1) && (((u405.2.1.1.2.1 : Int) == u406.2.1.1.2.1) && (((u405.2.1.1.2.2.1 : Int) == u406.2.1.1.2.2.1) && (((u405.2.1.1.2.2.2.1 : Int) == u406.2.1.1.2.2.2.1) && true)))))
bif x407 then (some ((true, (v.1.2.1, (v.1.2.2.1, (v.1.2.2.2.1, (v.1.2.2.2.2.1, (v.1.2.2.2.2.2.1, (v.1.2.2.2.2.2.2.1, (v.1.2.2.2.2.2.2.2.1, (v.1.2.2.2.2.2.2.2.2.1, (v.1.1, ())))))))))), ((v.2.1.1, ()), ((u402.2.1.1, ()), (v.2.2.2.1, (v.2.2.2.2.1, (v.2.2.2.2.2.1, ((v.2.2.2.2.2.2.1.1, ()), ()))))))))
else ((m21 ((v.1.2.1, ((w64 (u402.1.1 - 1)), ())), ())).bind fun u408 =>
(m20 ((e399, (u408.2.1.1, ())), ())).bind fun u409 =>
(m24 ((v.1.2.1, ((w64 (u402.1.1 - 1)), ())), ())).bind fun u410 =>
(m26 ((e399, (u410.2.1.1, ())), ())).bind fun u411 =>
(m25 ((u409.2.1, (u411.2.1, ())), ())).bind fun u412 =>
bif (!u412.1.1) then (some ((true, (v.1.2.1, (v.1.2.2.1, (v.1.2.2.2.1, (v.1.2.2.2.2.1, (v.1.2.2.2.2.2.1, (v.1.2.2.2.2.2.2.1, (v.1.2.2.2.2.2.2.2.1, (v.1.2.2.2.2.2.2.2.2.1, (v.1.1, ())))))))))), ((v.2.1.1, ()), ((u402.2.1.1, ()), (v.2.2.2.1, (v.2.2.2.2.1, (v.2.2.2.2.2.1, ((v.2.2.2.2.2.2.1.1, ()), ()))))))))
else ((m21 ((v.1.2.1, ((w64 (u402.1.1 - 1)), ())), ())).bind fun u413 =>
(m27 ((e399, (u413.2.1.1, ())), ())).bind fun u414 =>
(m24 ((v.1.2.1, ((w64 (u402.1.1 - 1)), ())), ())).bind fun u415 =>
(m28 ((e399, (u415.2.1.1, ())), ())).bind fun u416 =>
(m25 ((u414.2.1, (u416.2.1, ())), ())).bind fun u417 =>
some (((!u417.1.1), (v.1.2.1, (v.1.2.2.1, (v.1.2.2.2.1, (v.1.2.2.2.2.1, (v.1.2.2.2.2.2.1, (v.1.2.2.2.2.2.2.1, (v.1.2.2.2.2.2.2.2.1, (v.1.2.2.2.2.2.2.2.2.1, (v.1.1, ())))))))))), ((v.2.1.1, ()), ((u402.2.1.1, ()), (v.2.2.2.1, (v.2.2.2.2.1, (v.2.2.2.2.2.1, ((v.2.2.2.2.2.2.1.1, ()), ()))))))))))))) : Option ((Bool × (List (Bool × Int × Int × Int × Unit)) × Int × (List (Bool × Int × Int × Int × Unit)) × Int × Int × Int × Int × Int × Int × Unit) × (((Int × Int × Int × Int × Unit) × Unit) × (((List Int) × Int × Unit) × Unit) × (List Int) × (List (List (Bool × Int × Int × Int × Unit))) × (List (Int × Int × Int × Int × Unit)) × ((Bool × Int × Int × Int × Unit) × Unit) × Unit))).bind fun v418 =>
bif v418.1.1 then (some (.inr (.inl ((false, ()), ()))))
else (some (.inl (((w64 (v418.1.2.2.2.2.2.2.2.2.2.1 + 1)), (v418.1.2.1, (v418.1.2.2.1, (v418.1.2.2.2.1, (v418.1.2.2.2.2.1, (v418.1.2.2.2.2.2.1, (v418.1.2.2.2.2.2.2.1, (v418.1.2.2.2.2.2.2.2.1, (v418.1.2.2.2.2.2.2.2.2.1, ()))))))))), ((v418.2.1.1, ()), ((v418.2.2.1.1, ()), (v418.2.2.2.1, (v418.2.2.2.2.1, (v418.2.2.2.2.2.1, ((v418.2.2.2.2.2.2.1.1, ()), ())))))))))
else none)
else (some (.inr (.inr ((v.1.2.2.1, (v.1.2.2.2.1, (v.1.2.2.2.2.1, (v.1.2.2.2.2.2.1, (v.1.2.2.2.2.2.2.1, (v.1.2.2.2.2.2.2.2.1, ())))))), ((v.2.1.1, ()), ((v.2.2.1.1, ()), (v.2.2.2.2.1, (v.2.2.2.2.2.1, ((v.2.2.2.2.2.2.1.1, ()), ())))))))))

def l6_0_19 (v : ((Int × Int × (List (Bool × Int × Int × Int × Unit)) × Int × Int × Int × Unit) × (((Int × Int × Int × Int × Unit) × Unit) × (((List Int) × Int × Unit) × Unit) × (List (List (Bool × Int × Int × Int × Unit))) × (List (Int × Int × Int × Int × Unit)) × ((Bool × Int × Int × Int × Unit) × Unit) × Unit))) : Option (((Int × Int × (List (Bool × Int × Int × Int × Unit)) × Int × Int × Int × Unit) × (((Int × Int × Int × Int × Unit) × Unit) × (((List Int) × Int × Unit) × Unit) × (List (List (Bool × Int × Int × Int × Unit))) × (List (Int × Int × Int × Int × Unit)) × ((Bool × Int × Int × Int × Unit) × Unit) × Unit)) ⊕ (((Bool × Unit) × (Unit)) ⊕ ((Int × (List (Bool × Int × Int × Int × Unit)) × Int × Int × Unit) × ((((List Int) × Int × Unit) × Unit) × (List (Int × Int × Int × Int × Unit)) × ((Bool × Int × Int × Int × Unit) × Unit) × ((Int × Int × Int × Int × Unit) × Unit) × Unit)))) :=
bif (decide ((v.1.1 : Int) < v.1.2.2.2.2.2.1)) then (bif (decide ((0 : Int) ≤ v.1.1 ∧ (v.1.1 : Int) < v.2.2.2.1.length)) then
(v.2.2.2.1[v.1.1.toNat]?).bind fun e398 =>
(loopT l6_0_22 ((0, (e398, (v.1.2.1, (v.1.2.2.1, (v.1.2.2.2.1, (v.1.2.2.2.2.1, (v.1.2.2.2.2.2.1, (v.1.1, ((([v.1.2.1, 864000, 0, 8589934592, 8589956192, 8589934593, (-1)].length : Nat) : Int), ()))))))))), ((v.2.1.1, ()), ((v.2.2.1.1, ()), ([v.1.2.1, 864000, 0, 8589934592, 8589956192, 8589934593, (-1)], (v.2.2.2.1, (v.2.2.2.2.1, ((v.2.2.2.2.2.1.1, ()), ())))))))).bind fun d419 =>
sumE d419 (fun d420 => (some (.inr (.inl ((d420.1.1, ()), ()))))) (fun d421 => (some (.inl (((w64 (d421.1.2.2.2.2.2.1 + 1)), (d421.1.1, (d421.1.2.1, (d421.1.2.2.1, (d421.1.2.2.2.1, (d421.1.2.2.2.2.1, ())))))), ((d421.2.1.1, ()), ((d421.2.2.1.1, ()), (d421.2.2.2.1, (d421.2.2.2.2.1, ((d421.2.2.2.2.2.1.1, ()), ())))))))))
else none)
else (some (.inr (.inr ((v.1.2.1, (v.1.2.2.1, (v.1.2.2.2.1, (v.1.2.2.2.2.1, ())))), ((v.2.2.1.1, ()), (v.2.2.2.2.1, ((v.2.2.2.2.2.1.1, ()), ((v.2.1.1, ()), ()))))))))

def l6_0_16 (v : ((Int × Int × (List (Bool × Int × Int × Int × Unit)) × Int × Unit) × ((((List Int) × Int × Unit) × Unit) × (List (Int × Int × Int × Int × Unit)) × ((Bool × Int × Int × Int × Unit) × Unit) × Unit))) : Option (((Int × Int × (List (Bool × Int × Int × Int × Unit)) × Int × Unit) × ((((List Int) × Int × Unit) × Unit) × (List (Int × Int × Int × Int × Unit)) × ((Bool × Int × Int × Int × Unit) × Unit) × Unit)) ⊕ (((Bool × Unit) × (Unit)) ⊕ ((Int × Unit) × (((Bool × Int × Int × Int × Unit) × Unit) × (((List Int) × Int × Unit) × Unit) × Unit)))) :=
bif (decide ((v.1.2.1 : Int) < v.1.2.2.2.1)) then (bif (decide ((0 : Int) ≤ v.1.2.1 ∧ (v.1.2.1 : Int) < v.2.2.1.length)) then
(v.2.2.1[v.1.2.1.toNat]?).bind fun e395 =>
(m18 ((), ((v.2.1.1, ()), ()))).bind fun u396 =>
(m18 ((), ((u396.2.1.1, ()), ()))).bind fun u397 =>
(loopT l6_0_19 ((0, (v.1.1, (v.1.2.2.1, (v.1.2.2.2.1, (v.1.2.1, ((([v.1.2.2.1, u396.2.2.1, u397.2.2.1].length : Nat) : Int), ())))))), ((e395, ()), ((u397.2.1.1, ()), ([v.1.2.2.1, u396.2.2.1, u397.2.2.1], (v.2.2.1, ((v.2.2.2.1.1, ()), ()))))))).bind fun d422 =>
sumE d422 (fun d423 => (some (.inr (.inl ((d423.1.1, ()), ()))))) (fun d424 => ((((m29 ((d424.2.2.2.2.1.1, ()), ())).bind fun u425 =>
(m30 ((d424.2.2.2.2.1.1, ()), ())).bind fun u426 =>
bif (!(u425.1.1 == u426.1.1)) then (some ((true, (d424.1.1, (d424.1.2.1, (d424.1.2.2.1, (d424.1.2.2.2.1, ()))))), ((d424.2.1.1, ()), (d424.2.2.1, ((d424.2.2.2.1.1, ()), ())))))
else ((m15 ((d424.2.2.2.2.1.1, ()), ())).bind fun u427 =>
(m31 ((d424.2.2.2.2.1.1, ()), ())).bind fun u428 =>
some ((((u427.1.1 : Int) != u428.1.1), (d424.1.1, (d424.1.2.1, (d424.1.2.2.1, (d424.1.2.2.2.1, ()))))), ((d424.2.1.1, ()), (d424.2.2.1, ((d424.2.2.2.1.1, ()), ())))))) : Option ((Bool × Int × (List (Bool × Int × Int × Int × Unit)) × Int × Int × Unit) × ((((List Int) × Int × Unit) × Unit) × (List (Int × Int × Int × Int × Unit)) × ((Bool × Int × Int × Int × Unit) × Unit) × Unit))).bind fun v429 =>
bif v429.1.1 then (some (.inr (.inl ((false, ()), ()))))
else (some (.inl ((v429.1.2.1, ((w64 (v429.1.2.2.2.2.1 + 1)), (v429.1.2.2.1, (v429.1.2.2.2.1, ())))), ((v429.2.1.1, ()), (v429.2.2.1, ((v429.2.2.2.1.1, ()), ()))))))))
else none)
else (some (.inr (.inr ((v.1.1, ()), ((v.2.2.2.1.1, ()), (((v.2.1.1.1, (v.2.1.1.2.1, ())), ()), ()))))))

/- pagewatch/pagewatchlaw26.ChannelExact -/
def i6 : Abs.Sg := ⟨[0, 1, 2, 3, 4], (.dat (.row (.int .i64)) (.dat (.cons (.int .i64) (.cons (.int .i64) (.cons (.int .i64) (.cons (.int .i64) .unit)))) (.dat (.cons .bool (.cons (.int .i64) (.cons (.int .i64) (.cons (.int .i64) .unit)))) (.dat (.row (.cons .bool (.cons (.int .i64) (.cons (.int .i64) (.cons (.int .i64) .unit))))) (.dat (.int .i64) .nil))))), .nil⟩
def o6 : Abs.Sg := ⟨[10], (.dat .bool .nil), .nil⟩
def m6 (v : (((List Int) × (Int × Int × Int × Int × Unit) × (Bool × Int × Int × Int × Unit) × (List (Bool × Int × Int × Int × Unit)) × Int × Unit) × (Unit))) : Option ((Bool × Unit) × (Unit)) :=
(((m8 ((v.1.1, ()), ())).bind fun u383 =>
bif (!u383.1.1) then (some ((true, (v.1.2.2.2.2.1, (v.1.2.2.2.1, (v.1.1, ())))), ((v.1.2.2.1, ()), ((v.1.2.1, ()), ()))))
else (let x384 := (decide (((v.1.2.2.2.1.length : Int) : Int) > 30))
some ((x384, (v.1.2.2.2.2.1, (v.1.2.2.2.1, (v.1.1, ())))), ((v.1.2.2.1, ()), ((v.1.2.1, ()), ()))))) : Option ((Bool × Int × (List (Bool × Int × Int × Int × Unit)) × (List Int) × Unit) × (((Bool × Int × Int × Int × Unit) × Unit) × ((Int × Int × Int × Int × Unit) × Unit) × Unit))).bind fun v385 =>
bif v385.1.1 then ((m9 ((), ())).bind fun u386 =>
some ((u386.1.1, ()), ()))
else ((m10 ((v385.1.2.2.2.1, ()), ())).bind fun u387 =>
(m11 ((), ((u387.2.1.1, ()), ()))).bind fun u388 =>
(((m12 ((4, ()), ((u388.2.1.1, ()), ()))).bind fun u389 =>
bif ((u389.1.1 : Int) == 0) then ((m13 (([(-1), 3], ()), ((u389.2.1.1, ()), ()))).bind fun u390 =>
some ((v385.1.2.1, (v385.1.2.2.1, ())), ((u390.2.1.1, ()), ((v385.2.1.1, ()), (((u390.1.1, u388.2.2.1.1.2), ()), ((u388.2.2.1.1, ()), ((v385.2.2.1.1, ()), ())))))))
else (bif ((u389.1.1 : Int) == 1) then ((m13 (([(-1), 3601], ()), ((u389.2.1.1, ()), ()))).bind fun u391 =>
some ((v385.1.2.1, (v385.1.2.2.1, ())), ((u391.2.1.1, ()), ((v385.2.1.1, ()), (((u388.2.2.1.1.1, (u391.1.1, u388.2.2.1.1.2.2)), ()), ((u388.2.2.1.1, ()), ((v385.2.2.1.1, ()), ())))))))
else (bif ((u389.1.1 : Int) == 2) then ((m13 (([0, 6, 7], ()), ((u389.2.1.1, ()), ()))).bind fun u392 =>
some ((v385.1.2.1, (v385.1.2.2.1, ())), ((u392.2.1.1, ()), ((v385.2.1.1, ()), (((u388.2.2.1.1.1, (u388.2.2.1.1.2.1, (u392.1.1, u388.2.2.1.1.2.2.2))), ()), ((u388.2.2.1.1, ()), ((v385.2.2.1.1, ()), ())))))))
else (bif ((u389.1.1 : Int) == 3) then ((m13 (([0, 3600, 3601], ()), ((u389.2.1.1, ()), ()))).bind fun u393 =>
some ((v385.1.2.1, (v385.1.2.2.1, ())), ((u393.2.1.1, ()), ((v385.2.1.1, ()), (((u388.2.2.1.1.1, (u388.2.2.1.1.2.1, (u388.2.2.1.1.2.2.1, (u393.1.1, ())))), ()), ((u388.2.2.1.1, ()), ((v385.2.2.1.1, ()), ())))))))
else (some ((v385.1.2.1, (v385.1.2.2.1, ())), ((u389.2.1.1, ()), ((v385.2.1.1, ()), ((u388.2.2.1.1, ()), ((u388.2.2.1.1, ()), ((v385.2.2.1.1, ()), ()))))))))))) : Option ((Int × (List (Bool × Int × Int × Int × Unit)) × Unit) × ((((List Int) × Int × Unit) × Unit) × ((Bool × Int × Int × Int × Unit) × Unit) × ((Int × Int × Int × Int × Unit) × Unit) × ((Int × Int × Int × Int × Unit) × Unit) × ((Int × Int × Int × Int × Unit) × Unit) × Unit))).bind fun v394 =>
(loopT l6_0_16 ((v394.1.1, (0, (v394.1.2.1, ((([v394.2.2.2.2.2.1.1, v394.2.2.2.2.1.1, v394.2.2.2.1.1].length : Nat) : Int), ())))), ((v394.2.1.1, ()), ([v394.2.2.2.2.2.1.1, v394.2.2.2.2.1.1, v394.2.2.2.1.1], ((v394.2.2.1.1, ()), ()))))).bind fun d430 =>
sumE d430 (fun d431 => (some ((d431.1.1, ()), ()))) (fun d432 => ((m16 ((), ((d432.2.2.1.1, ()), ()))).bind fun u433 =>
(((m32 ((d432.2.1.1, ()), ())).bind fun u434 =>
(m19 ((d432.2.1.1, ()), ())).bind fun u435 =>
bif (u434.1.1 == u435.1.1) then ((m32 ((u433.2.2.1.1, ()), ())).bind fun u436 =>
(m19 ((u433.2.2.1.1, ()), ())).bind fun u437 =>
bif (u436.1.1 == u437.1.1) then ((m20 ((d432.1.1, (d432.2.1.1, ())), ())).bind fun u438 =>
(m26 ((d432.1.1, (d432.2.1.1, ())), ())).bind fun u439 =>
(m25 ((u438.2.1, (u439.2.1, ())), ())).bind fun u440 =>
bif u440.1.1 then ((m9 ((), ())).bind fun u441 =>
some ((u441.1.1, ()), ()))
else (some ((false, ()), ())))
else (some ((false, ()), ())))
else (some ((false, ()), ()))) : Option ((Bool × Unit) × (Unit))).bind fun v442 =>
some ((v442.1.1, ()), ()))))
def sp6 : Abs.Spec := ⟨0, i6, o6, m6⟩
def an6 : Nat → Abs.FAn
  | 0 => Abs.FAn.mk (fun
    | 35 => some ⟨[10], (.dat .bool .nil), .nil⟩
    | 31 => some ⟨[177, 11, 4, 3, 69, 7, 70, 71], (.dat .bool (.st (.ptr (0, 0) 2 0 0) (.dat (.int .i64) (.dat (.row (.cons .bool (.cons (.int .i64) (.cons (.int .i64) (.cons (.int .i64) .unit))))) (.st (.own (.cons (.int .i64) (.cons (.int .i64) (.cons (.int .i64) (.cons (.int .i64) .unit)))) (1, 0)) (.st (.ptr (2, 0) 4 0 0) (.dat (.int .i64) (.dat (.int .i64) .nil)))))))), (.box 2 (.dat (.cons (.row (.int .i64)) (.cons (.int .i64) .unit)) .nil) (.arr (.cons (.int .i64) (.cons (.int .i64) (.cons (.int .i64) (.cons (.int .i64) .unit)))) false (.box 4 (.dat (.cons .bool (.cons (.int .i64) (.cons (.int .i64) (.cons (.int .i64) .unit)))) .nil) .nil)))⟩
    | 27 => some ⟨[163, 17, 15, 11, 87, 4, 80, 3, 69, 7, 70, 71, 81, 82, 88, 89], (.dat .bool (.dat (.row (.cons .bool (.cons (.int .i64) (.cons (.int .i64) (.cons (.int .i64) .unit))))) (.st (.ptr (0, 0) 4 0 0) (.st (.ptr (1, 0) 2 0 0) (.st (.own (.int .i64) (2, 0)) (.dat (.int .i64) (.st (.own (.row (.cons .bool (.cons (.int .i64) (.cons (.int .i64) (.cons (.int .i64) .unit))))) (3, 0)) (.dat (.row (.cons .bool (.cons (.int .i64) (.cons (.int .i64) (.cons (.int .i64) .unit))))) (.st (.own (.cons (.int .i64) (.cons (.int .i64) (.cons (.int .i64) (.cons (.int .i64) .unit)))) (4, 0)) (.st (.ptr (5, 0) 4 0 0) (.dat (.int .i64) (.dat (.int .i64) (.dat (.int .i64) (.dat (.int .i64) (.dat (.int .i64) (.dat (.int .i64) .nil)))))))))))))))), (.box 4 (.dat (.cons (.int .i64) (.cons (.int .i64) (.cons (.int .i64) (.cons (.int .i64) .unit)))) .nil) (.box 2 (.dat (.cons (.row (.int .i64)) (.cons (.int .i64) .unit)) .nil) (.arr (.int .i64) false (.arr (.row (.cons .bool (.cons (.int .i64) (.cons (.int .i64) (.cons (.int .i64) .unit))))) false (.arr (.cons (.int .i64) (.cons (.int .i64) (.cons (.int .i64) (.cons (.int .i64) .unit)))) false (.box 4 (.dat (.cons .bool (.cons (.int .i64) (.cons (.int .i64) (.cons (.int .i64) .unit)))) .nil) .nil))))))⟩
    | 1 => some ⟨[33, 4, 3, 7, 6, 0], (.dat .bool (.dat (.int .i64) (.dat (.row (.cons .bool (.cons (.int .i64) (.cons (.int .i64) (.cons (.int .i64) .unit))))) (.st (.ptr (0, 0) 4 0 0) (.st (.ptr (1, 0) 4 0 0) (.dat (.row (.int .i64)) .nil)))))), (.box 4 (.dat (.cons .bool (.cons (.int .i64) (.cons (.int .i64) (.cons (.int .i64) .unit)))) .nil) (.box 4 (.dat (.cons (.int .i64) (.cons (.int .i64) (.cons (.int .i64) (.cons (.int .i64) .unit)))) .nil) .nil))⟩
    | _ => none) (fun
    | 15 => some (⟨[11, 4, 3, 7, 13, 12, 6], (.st (.ptr (0, 0) 2 0 0) (.dat (.int .i64) (.dat (.row (.cons .bool (.cons (.int .i64) (.cons (.int .i64) (.cons (.int .i64) .unit))))) (.st (.ptr (1, 0) 4 0 0) (.st (.ptr (2, 0) 4 0 0) (.st (.ptr (3, 0) 4 0 0) (.st (.ptr (4, 0) 4 0 0) .nil))))))), (.box 2 (.dat (.cons (.row (.int .i64)) (.cons (.int .i64) .unit)) .nil) (.box 4 (.dat (.cons .bool (.cons (.int .i64) (.cons (.int .i64) (.cons (.int .i64) .unit)))) .nil) (.box 4 (.dat (.cons (.int .i64) (.cons (.int .i64) (.cons (.int .i64) (.cons (.int .i64) .unit)))) .nil) (.box 4 (.dat (.cons (.int .i64) (.cons (.int .i64) (.cons (.int .i64) (.cons (.int .i64) .unit)))) .nil) (.box 4 (.dat (.cons (.int .i64) (.cons (.int .i64) (.cons (.int .i64) (.cons (.int .i64) .unit)))) .nil) .nil)))))⟩, none)
    | _ => none) (fun
    | 16 => some ⟨⟨[11, 4, 71, 3, 69, 7, 70], (.st (.ptr (0, 0) 2 0 0) (.dat (.int .i64) (.dat (.int .i64) (.dat (.row (.cons .bool (.cons (.int .i64) (.cons (.int .i64) (.cons (.int .i64) .unit))))) (.st (.own (.cons (.int .i64) (.cons (.int .i64) (.cons (.int .i64) (.cons (.int .i64) .unit)))) (1, 0)) (.st (.ptr (2, 0) 4 0 0) (.dat (.int .i64) .nil))))))), (.box 2 (.dat (.cons (.row (.int .i64)) (.cons (.int .i64) .unit)) .nil) (.arr (.cons (.int .i64) (.cons (.int .i64) (.cons (.int .i64) (.cons (.int .i64) .unit)))) false (.box 4 (.dat (.cons .bool (.cons (.int .i64) (.cons (.int .i64) (.cons (.int .i64) .unit)))) .nil) .nil)))⟩, (.more .ret ⟨[10], (.dat .bool .nil), .nil⟩ (.one (.exit 1) ⟨[7, 4, 11], (.st (.ptr (0, 0) 4 0 0) (.dat (.int .i64) (.st (.ptr (1, 0) 2 0 0) .nil))), (.box 4 (.dat (.cons .bool (.cons (.int .i64) (.cons (.int .i64) (.cons (.int .i64) .unit)))) .nil) (.box 2 (.dat (.cons (.row (.int .i64)) (.cons (.int .i64) .unit)) .nil) .nil))⟩))⟩
    | 19 => some ⟨⟨[15, 11, 82, 4, 80, 3, 69, 7, 70, 71, 81], (.st (.ptr (0, 0) 4 0 0) (.st (.ptr (1, 0) 2 0 0) (.dat (.int .i64) (.dat (.int .i64) (.st (.own (.row (.cons .bool (.cons (.int .i64) (.cons (.int .i64) (.cons (.int .i64) .unit))))) (2, 0)) (.dat (.row (.cons .bool (.cons (.int .i64) (.cons (.int .i64) (.cons (.int .i64) .unit))))) (.st (.own (.cons (.int .i64) (.cons (.int .i64) (.cons (.int .i64) (.cons (.int .i64) .unit)))) (3, 0)) (.st (.ptr (4, 0) 4 0 0) (.dat (.int .i64) (.dat (.int .i64) (.dat (.int .i64) .nil))))))))))), (.box 4 (.dat (.cons (.int .i64) (.cons (.int .i64) (.cons (.int .i64) (.cons (.int .i64) .unit)))) .nil) (.box 2 (.dat (.cons (.row (.int .i64)) (.cons (.int .i64) .unit)) .nil) (.arr (.row (.cons .bool (.cons (.int .i64) (.cons (.int .i64) (.cons (.int .i64) .unit))))) false (.arr (.cons (.int .i64) (.cons (.int .i64) (.cons (.int .i64) (.cons (.int .i64) .unit)))) false (.box 4 (.dat (.cons .bool (.cons (.int .i64) (.cons (.int .i64) (.cons (.int .i64) .unit)))) .nil) .nil)))))⟩, (.more .ret ⟨[10], (.dat .bool .nil), .nil⟩ (.one (.exit 3) ⟨[11, 4, 3, 69, 7, 70, 71, 15], (.st (.ptr (0, 0) 2 0 0) (.dat (.int .i64) (.dat (.row (.cons .bool (.cons (.int .i64) (.cons (.int .i64) (.cons (.int .i64) .unit))))) (.st (.own (.cons (.int .i64) (.cons (.int .i64) (.cons (.int .i64) (.cons (.int .i64) .unit)))) (1, 0)) (.st (.ptr (2, 0) 4 0 0) (.dat (.int .i64) (.dat (.int .i64) (.st (.ptr (3, 0) 4 0 0) .nil)))))))), (.box 2 (.dat (.cons (.row (.int .i64)) (.cons (.int .i64) .unit)) .nil) (.arr (.cons (.int .i64) (.cons (.int .i64) (.cons (.int .i64) (.cons (.int .i64) .unit)))) false (.box 4 (.dat (.cons .bool (.cons (.int .i64) (.cons (.int .i64) (.cons (.int .i64) .unit)))) .nil) (.box 4 (.dat (.cons (.int .i64) (.cons (.int .i64) (.cons (.int .i64) (.cons (.int .i64) .unit)))) .nil) .nil))))⟩))⟩
    | 22 => some ⟨⟨[89, 17, 15, 11, 87, 4, 80, 3, 69, 7, 70, 71, 81, 82, 88], (.dat (.int .i64) (.dat (.row (.cons .bool (.cons (.int .i64) (.cons (.int .i64) (.cons (.int .i64) .unit))))) (.st (.ptr (0, 0) 4 0 0) (.st (.ptr (1, 0) 2 0 0) (.st (.own (.int .i64) (2, 0)) (.dat (.int .i64) (.st (.own (.row (.cons .bool (.cons (.int .i64) (.cons (.int .i64) (.cons (.int .i64) .unit))))) (3, 0)) (.dat (.row (.cons .bool (.cons (.int .i64) (.cons (.int .i64) (.cons (.int .i64) .unit))))) (.st (.own (.cons (.int .i64) (.cons (.int .i64) (.cons (.int .i64) (.cons (.int .i64) .unit)))) (4, 0)) (.st (.ptr (5, 0) 4 0 0) (.dat (.int .i64) (.dat (.int .i64) (.dat (.int .i64) (.dat (.int .i64) (.dat (.int .i64) .nil))))))))))))))), (.box 4 (.dat (.cons (.int .i64) (.cons (.int .i64) (.cons (.int .i64) (.cons (.int .i64) .unit)))) .nil) (.box 2 (.dat (.cons (.row (.int .i64)) (.cons (.int .i64) .unit)) .nil) (.arr (.int .i64) false (.arr (.row (.cons .bool (.cons (.int .i64) (.cons (.int .i64) (.cons (.int .i64) .unit))))) false (.arr (.cons (.int .i64) (.cons (.int .i64) (.cons (.int .i64) (.cons (.int .i64) .unit)))) false (.box 4 (.dat (.cons .bool (.cons (.int .i64) (.cons (.int .i64) (.cons (.int .i64) .unit)))) .nil) .nil))))))⟩, (.more .ret ⟨[10], (.dat .bool .nil), .nil⟩ (.one (.exit 5) ⟨[15, 11, 4, 80, 3, 69, 7, 70, 71, 81, 82], (.st (.ptr (0, 0) 4 0 0) (.st (.ptr (1, 0) 2 0 0) (.dat (.int .i64) (.st (.own (.row (.cons .bool (.cons (.int .i64) (.cons (.int .i64) (.cons (.int .i64) .unit))))) (2, 0)) (.dat (.row (.cons .bool (.cons (.int .i64) (.cons (.int .i64) (.cons (.int .i64) .unit))))) (.st (.own (.cons (.int .i64) (.cons (.int .i64) (.cons (.int .i64) (.cons (.int .i64) .unit)))) (3, 0)) (.st (.ptr (4, 0) 4 0 0) (.dat (.int .i64) (.dat (.int .i64) (.dat (.int .i64) (.dat (.int .i64) .nil))))))))))), (.box 4 (.dat (.cons (.int .i64) (.cons (.int .i64) (.cons (.int .i64) (.cons (.int .i64) .unit)))) .nil) (.box 2 (.dat (.cons (.row (.int .i64)) (.cons (.int .i64) .unit)) .nil) (.arr (.row (.cons .bool (.cons (.int .i64) (.cons (.int .i64) (.cons (.int .i64) .unit))))) false (.arr (.cons (.int .i64) (.cons (.int .i64) (.cons (.int .i64) (.cons (.int .i64) .unit)))) false (.box 4 (.dat (.cons .bool (.cons (.int .i64) (.cons (.int .i64) (.cons (.int .i64) .unit)))) .nil) .nil)))))⟩))⟩
    | _ => none) (fun _ _ => 0)
  | _ => {}
theorem ok6 : Abs.SpecOK Try.prog 6 sp6 :=
  Abs.specOK_of (n := 12) (an := an6) (T := Abs.tabOf [(8, sp8), (9, sp9), (10, sp10), (11, sp11), (12, sp12), (13, sp13), (18, sp18), (14, sp14), (22, sp22), (17, sp17), (23, sp23), (21, sp21), (24, sp24), (20, sp20), (26, sp26), (25, sp25), (27, sp27), (28, sp28), (29, sp29), (30, sp30), (15, sp15), (31, sp31), (16, sp16), (32, sp32), (19, sp19)]) good foll (Abs.tabOf_ok _ (by simp only [List.forall_mem_cons]; exact ⟨ok8, ok9, ok10, ok11, ok12, ok13, ok18, ok14, ok22, ok17, ok23, ok21, ok24, ok20, ok26, ok25, ok27, ok28, ok29, ok30, ok15, ok31, ok16, ok32, ok19, fun _ h => by cases h⟩)) rfl (by intro v; kernel_rfl)

def l7_0_10 (v : ((Int × Int × Int × Unit) × (((Bool × Int × Int × Int × Unit) × Unit) × (List Int) × (List Int) × Unit))) : Option (((Int × Int × Int × Unit) × (((Bool × Int × Int × Int × Unit) × Unit) × (List Int) × (List Int) × Unit)) ⊕ (((Bool × Unit) × (Unit)) ⊕ ((Unit) × (Unit)))) :=
bif (decide ((v.1.1 : Int) < v.1.2.2.1)) then (((bif (decide ((0 : Int) ≤ v.1.1 ∧ (v.1.1 : Int) < v.2.2.1.length)) then
(v.2.2.1[v.1.1.toNat]?).bind fun e128 =>
bif (decide ((e128 : Int) < (w64 (v.1.2.1)))) then (some ((true, (v.1.2.1, (v.1.2.2.1, (v.1.1, ())))), ((v.2.1.1, ()), (v.2.2.1, (v.2.2.2.1, ())))))
else (bif (decide ((v.1.1 : Int) > 0)) then (bif (decide ((0 : Int) ≤ v.1.1 ∧ (v.1.1 : Int) < v.2.2.1.length)) then
(v.2.2.1[v.1.1.toNat]?).bind fun e129 =>
bif (decide ((0 : Int) ≤ (w64 (v.1.1 - 1)) ∧ ((w64 (v.1.1 - 1)) : Int) < v.2.2.1.length)) then
(v.2.2.1[(w64 (v.1.1 - 1)).toNat]?).bind fun e130 =>
bif (decide ((e129 : Int) ≤ e130)) then (some ((true, (v.1.2.1, (v.1.2.2.1, (v.1.1, ())))), ((v.2.1.1, ()), (v.2.2.1, (v.2.2.2.1, ())))))
else (let x131 := (decide ((((v.2.2.2.1.length : Nat) : Int) : Int) > 0))
bif x131 then (bif (decide ((0 : Int) ≤ v.1.1 ∧ (v.1.1 : Int) < v.2.2.2.1.length)) then
(v.2.2.2.1[v.1.1.toNat]?).bind fun e132 =>
bif (decide ((0 : Int) ≤ v.1.1 ∧ (v.1.1 : Int) < v.2.2.1.length)) then
(v.2.2.1[v.1.1.toNat]?).bind fun e133 =>
some ((((e132 : Int) != (w64 (e133 + v.2.1.1.2.2.2.1))), (v.1.2.1, (v.1.2.2.1, (v.1.1, ())))), ((v.2.1.1, ()), (v.2.2.1, (v.2.2.2.1, ()))))
else none
else none)
else (some ((false, (v.1.2.1, (v.1.2.2.1, (v.1.1, ())))), ((v.2.1.1, ()), (v.2.2.1, (v.2.2.2.1, ()))))))
else none
else none)
else (let x134 := (decide ((((v.2.2.2.1.length : Nat) : Int) : Int) > 0))
bif x134 then (bif (decide ((0 : Int) ≤ v.1.1 ∧ (v.1.1 : Int) < v.2.2.2.1.length)) then
(v.2.2.2.1[v.1.1.toNat]?).bind fun e135 =>
bif (decide ((0 : Int) ≤ v.1.1 ∧ (v.1.1 : Int) < v.2.2.1.length)) then
(v.2.2.1[v.1.1.toNat]?).bind fun e136 =>
some ((((e135 : Int) != (w64 (e136 + v.2.1.1.2.2.2.1))), (v.1.2.1, (v.1.2.2.1, (v.1.1, ())))), ((v.2.1.1, ()), (v.2.2.1, (v.2.2.2.1, ()))))
else none
else none)
else (some ((false, (v.1.2.1, (v.1.2.2.1, (v.1.1, ())))), ((v.2.1.1, ()), (v.2.2.1, (v.2.2.2.1, ())))))))
else none) : Option ((Bool × Int × Int × Int × Unit) × (((Bool × Int × Int × Int × Unit) × Unit) × (List Int) × (List Int) × Unit))).bind fun v137 =>
bif v137.1.1 then (some (.inr (.inl ((false, ()), ()))))
else (some (.inl (((w64 (v137.1.2.2.2.1 + 1)), (v137.1.2.1, (v137.1.2.2.1, ()))), ((v137.2.1.1, ()), (v137.2.2.1, (v137.2.2.2.1, ())))))))
else (some (.inr (.inr ((), ()))))

/- pagewatch/pagewatchlaw26.ChannelReceipts -/
def i7 : Abs.Sg := ⟨[0, 1], (.dat (.row (.int .i64)) (.dat (.int .u32) .nil)), .nil⟩
def o7 : Abs.Sg := ⟨[4], (.dat .bool .nil), .nil⟩
def m7 (v : (((List Int) × Int × Unit) × (Unit))) : Option ((Bool × Unit) × (Unit)) :=
(m8 ((v.1.1, ()), ())).bind fun u114 =>
bif (!u114.1.1) then ((m9 ((), ())).bind fun u115 =>
some ((u115.1.1, ()), ()))
else ((m10 ((v.1.1, ()), ())).bind fun u116 =>
(m16 ((), ((u116.2.1.1, ()), ()))).bind fun u117 =>
(m20 (((w64 (v.1.2.1)), (u117.2.2.1.1, ())), ())).bind fun u118 =>
(m27 (((w64 (v.1.2.1)), (u117.2.2.1.1, ())), ())).bind fun u119 =>
(((m19 ((u117.2.2.1.1, ()), ())).bind fun u120 =>
bif (!u120.1.1) then (some ((true, (v.1.2.1, ())), (u119.2.1, (u118.2.1, ((u117.2.2.1.1, ()), ())))))
else (some ((u117.2.2.1.1.1, (v.1.2.1, ())), (u119.2.1, (u118.2.1, ((u117.2.2.1.1, ()), ())))))) : Option ((Bool × Int × Unit) × ((List Int) × (List Int) × ((Bool × Int × Int × Int × Unit) × Unit) × Unit))).bind fun v121 =>
bif v121.1.1 then (((bif ((((v121.2.2.1.length : Nat) : Int) : Int) == 0) then (bif ((((v121.2.1.length : Nat) : Int) : Int) == 0) then ((m9 ((), ())).bind fun u122 =>
some ((u122.1.1, ()), ()))
else (some ((false, ()), ())))
else (some ((false, ()), ()))) : Option ((Bool × Unit) × (Unit))).bind fun v123 =>
some ((v123.1.1, ()), ()))
else (((bif ((((v121.2.2.1.length : Nat) : Int) : Int) == 0) then (some ((true, (v121.1.2.1, ())), ((v121.2.2.2.1.1, ()), (v121.2.2.1, (v121.2.1, ())))))
else (bif ((v121.2.2.2.1.1.2.2.2.1 : Int) == (-1)) then (let x124 := (decide ((((v121.2.1.length : Nat) : Int) : Int) > 0))
bif x124 then (some ((true, (v121.1.2.1, ())), ((v121.2.2.2.1.1, ()), (v121.2.2.1, (v121.2.1, ())))))
else (bif (decide ((v121.2.2.2.1.1.2.2.2.1 : Int) ≥ 0)) then (let x125 := ((((v121.2.1.length : Nat) : Int) : Int) != ((v121.2.2.1.length : Nat) : Int))
some ((x125, (v121.1.2.1, ())), ((v121.2.2.2.1.1, ()), (v121.2.2.1, (v121.2.1, ())))))
else (some ((false, (v121.1.2.1, ())), ((v121.2.2.2.1.1, ()), (v121.2.2.1, (v121.2.1, ())))))))
else (bif (decide ((v121.2.2.2.1.1.2.2.2.1 : Int) ≥ 0)) then (let x126 := ((((v121.2.1.length : Nat) : Int) : Int) != ((v121.2.2.1.length : Nat) : Int))
some ((x126, (v121.1.2.1, ())), ((v121.2.2.2.1.1, ()), (v121.2.2.1, (v121.2.1, ())))))
else (some ((false, (v121.1.2.1, ())), ((v121.2.2.2.1.1, ()), (v121.2.2.1, (v121.2.1, ())))))))) : Option ((Bool × Int × Unit) × (((Bool × Int × Int × Int × Unit) × Unit) × (List Int) × (List Int) × Unit))).bind fun v127 =>
bif v127.1.1 then (some ((false, ()), ()))
else ((loopT l7_0_10 ((0, (v127.1.2.1, (((v127.2.2.1.length : Nat) : Int), ()))), ((v127.2.1.1, ()), (v127.2.2.1, (v127.2.2.2.1, ()))))).bind fun d138 =>
sumE d138 (fun d139 => (some ((d139.1.1, ()), ()))) (fun d140 => ((m9 ((), ())).bind fun u141 =>
some ((u141.1.1, ()), ()))))))
def sp7 : Abs.Spec := ⟨0, i7, o7, m7⟩
def an7 : Nat → Abs.FAn
  | 0 => Abs.FAn.mk (fun
    | 12 => some ⟨[113, 5, 6, 7, 1, 68, 69], (.dat .bool (.st (.ptr (0, 0) 4 0 0) (.st (.own (.int .i64) (1, 0)) (.st (.own (.int .i64) (2, 0)) (.dat (.int .u32) (.dat (.int .i64) (.dat (.int .i64) .nil))))))), (.box 4 (.dat (.cons .bool (.cons (.int .i64) (.cons (.int .i64) (.cons (.int .i64) .unit)))) .nil) (.arr (.int .i64) false (.arr (.int .i64) false .nil)))⟩
    | 7 => some ⟨[66, 5, 6, 7, 1], (.dat .bool (.st (.ptr (0, 0) 4 0 0) (.st (.own (.int .i64) (1, 0)) (.st (.own (.int .i64) (2, 0)) (.dat (.int .u32) .nil))))), (.box 4 (.dat (.cons .bool (.cons (.int .i64) (.cons (.int .i64) (.cons (.int .i64) .unit)))) .nil) (.arr (.int .i64) false (.arr (.int .i64) false .nil)))⟩
    | 6 => some ⟨[4], (.dat .bool .nil), .nil⟩
    | 5 => some ⟨[30, 7, 6, 5, 1], (.dat .bool (.st (.own (.int .i64) (0, 0)) (.st (.own (.int .i64) (1, 0)) (.st (.ptr (2, 0) 4 0 0) (.dat (.int .u32) .nil))))), (.arr (.int .i64) false (.arr (.int .i64) false (.box 4 (.dat (.cons .bool (.cons (.int .i64) (.cons (.int .i64) (.cons (.int .i64) .unit)))) .nil) .nil)))⟩
    | _ => none) (fun _ => none) (fun
    | 10 => some ⟨⟨[69, 5, 6, 7, 1, 68], (.dat (.int .i64) (.st (.ptr (0, 0) 4 0 0) (.st (.own (.int .i64) (1, 0)) (.st (.own (.int .i64) (2, 0)) (.dat (.int .u32) (.dat (.int .i64) .nil)))))), (.box 4 (.dat (.cons .bool (.cons (.int .i64) (.cons (.int .i64) (.cons (.int .i64) .unit)))) .nil) (.arr (.int .i64) false (.arr (.int .i64) false .nil)))⟩, (.more .ret ⟨[4], (.dat .bool .nil), .nil⟩ (.one (.exit 0) ⟨[], .nil, .nil⟩))⟩
    | _ => none) (fun _ _ => 0)
  | _ => {}
theorem ok7 : Abs.SpecOK Try.prog 7 sp7 :=
  Abs.specOK_of (n := 12) (an := an7) (T := Abs.tabOf [(8, sp8), (9, sp9), (10, sp10), (16, sp16), (20, sp20), (27, sp27), (19, sp19)]) good foll (Abs.tabOf_ok _ (by simp only [List.forall_mem_cons]; exact ⟨ok8, ok9, ok10, ok16, ok20, ok27, ok19, fun _ h => by cases h⟩)) rfl (by intro v; kernel_rfl)

end
end Go.Proofs.Ytnmfcglhgaocoaa
