/- What each function makes of typed values. -/
import Derived.Test.YtcelhemfoehedaaChecked
import Derived.Test.YtcelhemfoehedaaPxH
import Derived.ProofKit
namespace Go.Proofs.Ytcelhemfoehedaa
open Go Go.Abs
noncomputable section
def note : FuncId → Abs.Note
  | 2 => ⟨true, [], false, fun _ => []⟩
  | 3 => ⟨true, [0, 2, 4, 5, 7, 10, 15, 16, 17, 18, 22, 23, 24, 25, 54], false, fun _ => []⟩
  | 4 => ⟨true, [0, 2], false, fun _ => []⟩
  | 5 => ⟨true, [0, 1, 2, 3, 4, 5], false, fun _ => []⟩
  | 6 => ⟨true, [0, 2], false, fun _ => []⟩
  | 7 => ⟨true, [0, 2, 3, 4, 5, 6, 7, 8, 9, 10, 14, 29, 48, 65, 78], false, fun | 5 => [(0, 2), (0, 7), (2, 7), (5, 7), (0, 8), (2, 8), (5, 8), (0, 10), (2, 10), (5, 10), (7, 10), (8, 10)] | 7 => [(1, 3), (1, 5)] | 12 => [(0, 2), (0, 7), (2, 7), (5, 7), (0, 8), (2, 8), (5, 8), (0, 10), (2, 10), (5, 10), (7, 10), (8, 10)] | 20 => [(1, 4), (1, 5)] | _ => []⟩
  | 8 => ⟨true, [0, 1, 2], false, fun _ => []⟩
  | 9 => ⟨true, [0, 1, 2, 4, 16], false, fun _ => []⟩
  | 10 => ⟨true, [0, 1, 2, 3], false, fun | 1 => [(0, 2)] | _ => []⟩
  | 11 => ⟨true, [0, 1, 2, 3, 4, 8, 9, 17, 25], false, fun _ => []⟩
  | 12 => ⟨true, [0, 1, 2, 3, 4, 5, 6, 7, 8, 9, 17, 24], false, fun _ => []⟩
  | 13 => ⟨true, [0, 1, 4, 5, 19, 40], false, fun _ => []⟩
  | 14 => ⟨true, [0, 1, 4], false, fun _ => []⟩
  | 15 => ⟨true, [0, 1, 3, 4, 5, 6, 16], false, fun _ => []⟩
  | 16 => ⟨true, [0, 1, 2, 3], false, fun | 1 => [(0, 2)] | _ => []⟩
  | 17 => ⟨true, [0, 1, 2, 4, 5, 6, 14], false, fun _ => []⟩
  | 18 => ⟨true, [0, 1, 2, 12], false, fun _ => []⟩
  | 19 => ⟨true, [0, 2, 3, 5, 6, 7, 8, 9], false, fun _ => []⟩
  | 20 => ⟨true, [0, 1, 2, 4, 5, 6, 7, 20, 23], false, fun _ => []⟩
  | 21 => ⟨true, [0, 1, 2, 12], false, fun _ => []⟩
  | 22 => ⟨true, [0, 1, 2, 6], false, fun _ => []⟩
  | 23 => ⟨true, [0, 1, 2, 3, 4, 5, 6, 7, 12], false, fun _ => []⟩
  | 24 => ⟨true, [0, 1, 2, 3, 5, 6, 10], false, fun _ => []⟩
  | 25 => ⟨true, [0, 1, 2, 3, 4, 6, 9, 10, 11, 33, 34, 35, 36, 42], false, fun _ => []⟩
  | 26 => ⟨true, [0, 1, 2, 6], false, fun _ => []⟩
  | 27 => ⟨true, [0, 1, 2, 3, 8, 18], false, fun _ => []⟩
  | 28 => ⟨true, [0, 1, 2, 3, 4, 5, 25, 42], false, fun | 4 => [(5, 7)] | _ => []⟩
  | 29 => ⟨true, [0, 1, 2, 6], false, fun _ => []⟩
  | 30 => ⟨true, [0, 1, 4], false, fun _ => []⟩
  | 31 => ⟨true, [0, 1, 2], true, fun _ => []⟩
  | 32 => ⟨true, [0, 1, 2], false, fun _ => []⟩
  | 33 => ⟨true, [0, 1, 2, 3, 4, 6, 10, 11, 12, 13, 41], false, fun _ => []⟩
  | 34 => ⟨true, [0, 2, 3, 4, 5, 6, 7, 8, 27], false, fun _ => []⟩
  | 35 => ⟨true, [0, 2, 3, 4, 5, 6, 7, 8, 16], false, fun _ => []⟩
  | 36 => ⟨true, [0, 1, 4, 5, 7, 8, 9, 16], false, fun _ => []⟩
  | 37 => ⟨true, [0, 1, 4], false, fun _ => []⟩
  | 38 => ⟨true, [0, 1, 4, 5, 7, 8, 9, 16], false, fun _ => []⟩
  | _ => ⟨false, [], false, fun _ => []⟩

theorem good : Abs.Good Try.prog note := Abs.good_of (by kernel_rfl)
theorem foll : (Try.prog).follows .mixedOrders = true := by kernel_rfl

/- pagewatch/pagewatchmade.Light -/
def i4 : Abs.Sg := ⟨[0], (.dat (.row (.int .i64)) .nil), .nil⟩
def o4 : Abs.Sg := ⟨[2], (.dat .bool .nil), .nil⟩
def m4 (v : (((List Int) × Unit) × (Unit))) : Option ((Bool × Unit) × (Unit)) :=
some (((decide (((v.1.1.length : Int) : Int) ≤ 500)), ()), ())
def sp4 : Abs.Spec := ⟨0, i4, o4, m4⟩
def an4 : Nat → Abs.FAn
  | _ => {}
theorem ok4 : Abs.SpecOK Try.prog 4 sp4 :=
  Abs.specOK_of (n := 12) (an := an4) (T := Abs.tabOf []) good foll (Abs.tabOf_ok _ (fun _ h => by cases h)) rfl (by intro v; kernel_rfl)

/- pagewatch/pagewatchref25.In -/
def i22 : Abs.Sg := ⟨[0, 1, 2], (.dat (.int .i64) (.dat (.int .i64) (.dat (.int .i64) .nil))), .nil⟩
def o22 : Abs.Sg := ⟨[6], (.dat .bool .nil), .nil⟩
def m22 (v : ((Int × Int × Int × Unit) × (Unit))) : Option ((Bool × Unit) × (Unit)) :=
((bif (decide ((v.1.1 : Int) ≥ v.1.2.1)) then (some (((decide ((v.1.1 : Int) ≤ v.1.2.2.1)), ()), ()))
else (some ((false, ()), ()))) : Option ((Bool × Unit) × (Unit))).bind fun v1 =>
some ((v1.1.1, ()), ())
def sp22 : Abs.Spec := ⟨0, i22, o22, m22⟩
def an22 : Nat → Abs.FAn
  | 0 => Abs.FAn.mk (fun
    | 1 => some ⟨[6], (.dat .bool .nil), .nil⟩
    | _ => none) (fun _ => none) (fun _ => none) (fun _ _ => 0)
  | _ => {}
theorem ok22 : Abs.SpecOK Try.prog 22 sp22 :=
  Abs.specOK_of (n := 12) (an := an22) (T := Abs.tabOf []) good foll (Abs.tabOf_ok _ (fun _ h => by cases h)) rfl (by intro v; kernel_rfl)

/- pagewatch/pagewatchref29.New -/
def i11 : Abs.Sg := ⟨[0, 1, 2, 3], (.dat (.cons (.row (.cons .str (.cons (.row (.int .i64)) .unit))) (.cons (.row (.cons .str (.cons (.row (.cons (.int .i64) (.cons .bool (.cons (.row (.cons (.int .i64) (.cons (.int .i64) .unit))) .unit)))) (.cons (.int .i64) .unit)))) .unit)) (.dat (.int .i64) (.dat (.int .i64) (.dat (.int .i64) .nil)))), .nil⟩
def o11 : Abs.Sg := ⟨[8, 9], (.st (.ptr (0, 0) 14 0 0) (.dat (.int .i64) .nil)), (.box 14 (.agg (.dat (.int .i64) (.dat (.int .i64) (.dat (.int .i64) (.dat (.int .i64) (.dat (.int .i64) (.dat (.int .i64) (.dat (.int .i64) (.dat (.int .i64) (.dat (.int .i64) (.dat (.int .i64) (.dat (.int .i64) (.st .nil (.st .nil (.st .nil .nil)))))))))))))) .nil) .nil)⟩
def m11 (v : ((((List (ByteArray × (List Int) × Unit)) × (List (ByteArray × (List (Int × Bool × (List (Int × Int × Unit)) × Unit)) × Int × Unit)) × Unit) × Int × Int × Int × Unit) × (Unit))) : Option ((Int × Unit) × (((Int × Int × Int × Int × Int × Int × Int × Int × Int × Int × Int × Unit) × Unit) × Unit)) :=
(((m22 ((v.1.2.1, (1, (999999, ()))), ())).bind fun u15 =>
bif (!u15.1.1) then (some ((true, (v.1.2.2.2.1, (v.1.2.2.1, (v.1.2.1, ())))), (((0, (0, (0, (0, (0, (0, (0, (0, (0, (0, (0, ()))))))))))), ()), ((v.1.1, ()), ()))))
else ((m22 ((v.1.2.2.2.1, (0, (8589934592, ()))), ())).bind fun u16 =>
some (((!u16.1.1), (v.1.2.2.2.1, (v.1.2.2.1, (v.1.2.1, ())))), (((0, (0, (0, (0, (0, (0, (0, (0, (0, (0, (0, ()))))))))))), ()), ((v.1.1, ()), ()))))) : Option ((Bool × Int × Int × Int × Unit) × (((Int × Int × Int × Int × Int × Int × Int × Int × Int × Int × Int × Unit) × Unit) × (((List (ByteArray × (List Int) × Unit)) × (List (ByteArray × (List (Int × Bool × (List (Int × Int × Unit)) × Unit)) × Int × Unit)) × Unit) × Unit) × Unit))).bind fun v17 =>
bif v17.1.1 then (some ((1, ()), (((0, (0, (0, (0, (0, (0, (0, (0, (0, (0, (0, ()))))))))))), ()), ())))
else ((m22 ((v17.1.2.2.1, (0, ((w64 ((v17.2.2.1.1.2.1.length : Int) - 1)), ()))), ())).bind fun u18 =>
bif (!u18.1.1) then (some ((3, ()), (((0, (0, (0, (0, (0, (0, (0, (0, (0, (0, (0, ()))))))))))), ()), ())))
else (some ((0, ()), (((v17.1.2.2.2.1, (v17.1.2.2.1, (v17.1.2.1, (0, (v17.1.2.1, (0, ((-1), (0, (v17.1.2.1, (0, (0, ()))))))))))), ()), ()))))
def sp11 : Abs.Spec := ⟨0, i11, o11, m11⟩
def an11 : Nat → Abs.FAn
  | 0 => Abs.FAn.mk (fun
    | 1 => some ⟨[17, 8, 3, 2, 1, 4], (.dat .bool (.st (.ptr (0, 0) 14 0 0) (.dat (.int .i64) (.dat (.int .i64) (.dat (.int .i64) (.st (.ptr (1, 0) 2 0 0) .nil)))))), (.box 14 (.agg (.dat (.int .i64) (.dat (.int .i64) (.dat (.int .i64) (.dat (.int .i64) (.dat (.int .i64) (.dat (.int .i64) (.dat (.int .i64) (.dat (.int .i64) (.dat (.int .i64) (.dat (.int .i64) (.dat (.int .i64) (.st .nil (.st .nil (.st .nil .nil)))))))))))))) .nil) (.box 2 (.dat (.cons (.row (.cons .str (.cons (.row (.int .i64)) .unit))) (.cons (.row (.cons .str (.cons (.row (.cons (.int .i64) (.cons .bool (.cons (.row (.cons (.int .i64) (.cons (.int .i64) .unit))) .unit)))) (.cons (.int .i64) .unit)))) .unit)) .nil) .nil))⟩
    | _ => none) (fun _ => none) (fun _ => none) (fun _ _ => 0)
  | _ => {}
theorem ok11 : Abs.SpecOK Try.prog 11 sp11 :=
  Abs.specOK_of (n := 12) (an := an11) (T := Abs.tabOf [(22, sp22)]) good foll (Abs.tabOf_ok _ (by simp only [List.forall_mem_cons]; exact ⟨ok22, fun _ h => by cases h⟩)) rfl (by intro v; kernel_rfl)

/- pagewatch/escalate.in -/
def i29 : Abs.Sg := ⟨[0, 1, 2], (.dat (.int .i64) (.dat (.int .i64) (.dat (.int .i64) .nil))), .nil⟩
def o29 : Abs.Sg := ⟨[6], (.dat .bool .nil), .nil⟩
def m29 (v : ((Int × Int × Int × Unit) × (Unit))) : Option ((Bool × Unit) × (Unit)) :=
((bif (decide ((v.1.1 : Int) ≥ v.1.2.1)) then (some (((decide ((v.1.1 : Int) ≤ v.1.2.2.1)), ()), ()))
else (some ((false, ()), ()))) : Option ((Bool × Unit) × (Unit))).bind fun v1 =>
some ((v1.1.1, ()), ())
def sp29 : Abs.Spec := ⟨0, i29, o29, m29⟩
def an29 : Nat → Abs.FAn
  | 0 => Abs.FAn.mk (fun
    | 1 => some ⟨[6], (.dat .bool .nil), .nil⟩
    | _ => none) (fun _ => none) (fun _ => none) (fun _ _ => 0)
  | _ => {}
theorem ok29 : Abs.SpecOK Try.prog 29 sp29 :=
  Abs.specOK_of (n := 12) (an := an29) (T := Abs.tabOf []) good foll (Abs.tabOf_ok _ (fun _ h => by cases h)) rfl (by intro v; kernel_rfl)

/- 36 slices.IndexFunc[[]pagewatch/api.PolicyStep,pagewatch/api.PolicyStep]: not told by a law: a parameter -/

/- 30 slices.ContainsFunc[[]pagewatch/api.PolicyStep,pagewatch/api.PolicyStep]: not told by a law: a parameter -/

/- pagewatch/escalate.Check$1 -/
def i31 : Abs.Sg := ⟨[0], (.dat (.cons (.int .i64) (.cons .bool (.cons (.row (.cons (.int .i64) (.cons (.int .i64) .unit))) .unit))) .nil), .nil⟩
def o31 : Abs.Sg := ⟨[2], (.dat .bool .nil), .nil⟩
def m31 (v : (((Int × Bool × (List (Int × Int × Unit)) × Unit) × Unit) × (Unit))) : Option ((Bool × Unit) × (Unit)) :=
(m29 ((v.1.1.1, (0, (86400, ()))), ())).bind fun u2 =>
some (((!u2.1.1), ()), ())
def sp31 : Abs.Spec := ⟨0, i31, o31, m31⟩
def an31 : Nat → Abs.FAn
  | _ => {}
theorem ok31 : Abs.SpecOK Try.prog 31 sp31 :=
  Abs.specOK_of (n := 12) (an := an31) (T := Abs.tabOf [(29, sp29)]) good foll (Abs.tabOf_ok _ (by simp only [List.forall_mem_cons]; exact ⟨ok29, fun _ h => by cases h⟩)) rfl (by intro v; kernel_rfl)

/- pagewatch/policy.in -/
def i26 : Abs.Sg := ⟨[0, 1, 2], (.dat (.int .i64) (.dat (.int .i64) (.dat (.int .i64) .nil))), .nil⟩
def o26 : Abs.Sg := ⟨[6], (.dat .bool .nil), .nil⟩
def m26 (v : ((Int × Int × Int × Unit) × (Unit))) : Option ((Bool × Unit) × (Unit)) :=
((bif (decide ((v.1.1 : Int) ≥ v.1.2.1)) then (some (((decide ((v.1.1 : Int) ≤ v.1.2.2.1)), ()), ()))
else (some ((false, ()), ()))) : Option ((Bool × Unit) × (Unit))).bind fun v1 =>
some ((v1.1.1, ()), ())
def sp26 : Abs.Spec := ⟨0, i26, o26, m26⟩
def an26 : Nat → Abs.FAn
  | 0 => Abs.FAn.mk (fun
    | 1 => some ⟨[6], (.dat .bool .nil), .nil⟩
    | _ => none) (fun _ => none) (fun _ => none) (fun _ _ => 0)
  | _ => {}
theorem ok26 : Abs.SpecOK Try.prog 26 sp26 :=
  Abs.specOK_of (n := 12) (an := an26) (T := Abs.tabOf []) good foll (Abs.tabOf_ok _ (fun _ h => by cases h)) rfl (by intro v; kernel_rfl)

/- pagewatch/policy.Count -/
def i18 : Abs.Sg := ⟨[0], (.dat (.cons .str (.cons (.row (.cons (.int .i64) (.cons .bool (.cons (.row (.cons (.int .i64) (.cons (.int .i64) .unit))) .unit)))) (.cons (.int .i64) .unit))) .nil), .nil⟩
def o18 : Abs.Sg := ⟨[2], (.dat (.int .i64) .nil), .nil⟩
def m18 (v : (((ByteArray × (List (Int × Bool × (List (Int × Int × Unit)) × Unit)) × Int × Unit) × Unit) × (Unit))) : Option ((Int × Unit) × (Unit)) :=
(((m26 ((v.1.1.2.2.1, (0, (8, ()))), ())).bind fun u9 =>
bif (!u9.1.1) then (some ((true, ()), ((v.1.1, ()), ())))
else (some (((decide (((v.1.1.2.1.length : Int) : Int) > 8)), ()), ((v.1.1, ()), ())))) : Option ((Bool × Unit) × (((ByteArray × (List (Int × Bool × (List (Int × Int × Unit)) × Unit)) × Int × Unit) × Unit) × Unit))).bind fun v10 =>
bif v10.1.1 then (some ((0, ()), ()))
else (let x11 := (w64 ((v10.2.1.1.2.1.length : Int) * (w64 (v10.2.1.1.2.2.1 + 1))))
some ((x11, ()), ()))
def sp18 : Abs.Spec := ⟨0, i18, o18, m18⟩
def an18 : Nat → Abs.FAn
  | 0 => Abs.FAn.mk (fun
    | 1 => some ⟨[12, 1], (.dat .bool (.st (.ptr (0, 0) 3 0 0) .nil)), (.box 3 (.dat (.cons .str (.cons (.row (.cons (.int .i64) (.cons .bool (.cons (.row (.cons (.int .i64) (.cons (.int .i64) .unit))) .unit)))) (.cons (.int .i64) .unit))) .nil) .nil)⟩
    | _ => none) (fun _ => none) (fun _ => none) (fun _ _ => 0)
  | _ => {}
theorem ok18 : Abs.SpecOK Try.prog 18 sp18 :=
  Abs.specOK_of (n := 12) (an := an18) (T := Abs.tabOf [(26, sp26)]) good foll (Abs.tabOf_ok _ (by simp only [List.forall_mem_cons]; exact ⟨ok26, fun _ h => by cases h⟩)) rfl (by intro v; kernel_rfl)

/- pagewatch/escalate.times -/
def i32 : Abs.Sg := ⟨[0], (.dat (.cons (.int .i64) (.cons (.int .i64) (.cons (.int .i64) (.cons (.int .i64) (.cons (.int .i64) (.cons (.int .i64) (.cons (.int .i64) (.cons (.int .i64) (.cons (.int .i64) (.cons (.int .i64) (.cons (.int .i64) (.cons (.row (.cons (.int .i64) (.cons (.int .i64) (.cons (.row (.int .i64)) .unit)))) (.cons (.row (.int .i64)) (.cons (.row (.int .i64)) .unit)))))))))))))) .nil), .nil⟩
def o32 : Abs.Sg := ⟨[2], (.dat .bool .nil), .nil⟩
def m32 (v : (((Int × Int × Int × Int × Int × Int × Int × Int × Int × Int × Int × (List (Int × Int × (List Int) × Unit)) × (List Int) × (List Int) × Unit) × Unit) × (Unit))) : Option ((Bool × Unit) × (Unit)) :=
(((m29 ((v.1.1.2.2.2.2.2.2.2.2.1, (v.1.1.2.2.1, (17179869184, ()))), ())).bind fun u11 =>
bif u11.1.1 then ((m29 ((v.1.1.2.2.2.2.1, (0, (17179869184, ()))), ())).bind fun u12 =>
bif u12.1.1 then ((m29 ((v.1.1.2.2.2.2.2.2.2.1, (0, (17179869184, ()))), ())).bind fun u13 =>
bif u13.1.1 then ((m29 ((v.1.1.2.2.2.2.2.2.2.2.2.1, (0, (4, ()))), ())).bind fun u14 =>
bif u14.1.1 then ((m29 ((v.1.1.2.2.2.2.2.2.2.2.2.2.1, (0, (4, ()))), ())).bind fun u15 =>
some ((u15.1.1, ()), ()))
else (some ((false, ()), ())))
else (some ((false, ()), ())))
else (some ((false, ()), ())))
else (some ((false, ()), ()))) : Option ((Bool × Unit) × (Unit))).bind fun v16 =>
some ((v16.1.1, ()), ())
def sp32 : Abs.Spec := ⟨0, i32, o32, m32⟩
def an32 : Nat → Abs.FAn
  | 0 => Abs.FAn.mk (fun
    | 1 => some ⟨[2], (.dat .bool .nil), .nil⟩
    | _ => none) (fun _ => none) (fun _ => none) (fun _ _ => 0)
  | _ => {}
theorem ok32 : Abs.SpecOK Try.prog 32 sp32 :=
  Abs.specOK_of (n := 12) (an := an32) (T := Abs.tabOf [(29, sp29)]) good foll (Abs.tabOf_ok _ (by simp only [List.forall_mem_cons]; exact ⟨ok29, fun _ h => by cases h⟩)) rfl (by intro v; kernel_rfl)

def l34_0_2 (v : ((Int × (List Int) × (List Int) × Int × Unit) × (Unit))) : Option (((Int × (List Int) × (List Int) × Int × Unit) × (Unit)) ⊕ (((Bool × Unit) × (Unit)) ⊕ ((Unit) × (Unit)))) :=
bif (decide ((v.1.1 : Int) < v.1.2.2.2.1)) then (Abs.rowAt v.1.2.2.1 v.1.1 fun e30 _ =>
(((m29 ((e30, (0, (31, ()))), ())).bind fun u31 =>
bif (!u31.1.1) then (some ((true, (v.1.2.1, (v.1.2.2.1, (v.1.2.2.2.1, (v.1.1, ()))))), ()))
else (bif (decide ((v.1.1 : Int) > 0)) then (Abs.rowAt v.1.2.1 (w64 (v.1.1 - 1)) fun e32 _ =>
some (((decide ((e30 : Int) ≤ e32)), (v.1.2.1, (v.1.2.2.1, (v.1.2.2.2.1, (v.1.1, ()))))), ()))
else (some ((false, (v.1.2.1, (v.1.2.2.1, (v.1.2.2.2.1, (v.1.1, ()))))), ())))) : Option ((Bool × (List Int) × (List Int) × Int × Int × Unit) × (Unit))).bind fun v33 =>
bif v33.1.1 then (some (.inr (.inl ((false, ()), ()))))
else (some (.inl (((w64 (v33.1.2.2.2.2.1 + 1)), (v33.1.2.1, (v33.1.2.2.1, (v33.1.2.2.2.1, ())))), ()))))
else (some (.inr (.inr ((), ()))))

/- pagewatch/escalate.set -/
def i34 : Abs.Sg := ⟨[0], (.dat (.row (.int .i64)) .nil), .nil⟩
def o34 : Abs.Sg := ⟨[2], (.dat .bool .nil), .nil⟩
def m34 (v : (((List Int) × Unit) × (Unit))) : Option ((Bool × Unit) × (Unit)) :=
(loopT l34_0_2 ((0, (v.1.1, (v.1.1, ((v.1.1.length : Int), ())))), ())).bind fun d34 =>
sumE d34 (fun d35 => (some ((d35.1.1, ()), ()))) (fun d36 => (some ((true, ()), ())))
def sp34 : Abs.Spec := ⟨0, i34, o34, m34⟩
def an34 : Nat → Abs.FAn
  | 0 => Abs.FAn.mk (fun
    | 4 => some ⟨[27, 0, 5, 6, 7], (.dat .bool (.dat (.row (.int .i64)) (.dat (.row (.int .i64)) (.dat (.int .i64) (.dat (.int .i64) .nil))))), .nil⟩
    | _ => none) (fun _ => none) (fun
    | 2 => some ⟨⟨[7, 0, 5, 6], (.dat (.int .i64) (.dat (.row (.int .i64)) (.dat (.row (.int .i64)) (.dat (.int .i64) .nil)))), .nil⟩, (.more .ret ⟨[2], (.dat .bool .nil), .nil⟩ (.one (.exit 0) ⟨[], .nil, .nil⟩))⟩
    | _ => none) (fun _ _ => 0)
  | _ => {}
theorem ok34 : Abs.SpecOK Try.prog 34 sp34 :=
  Abs.specOK_of (n := 12) (an := an34) (T := Abs.tabOf [(29, sp29)]) good foll (Abs.tabOf_ok _ (by simp only [List.forall_mem_cons]; exact ⟨ok29, fun _ h => by cases h⟩)) rfl (by intro v; kernel_rfl)

def l33_0_3 (v : ((Int × Int × Int × (List (Int × Int × (List Int) × Unit)) × Int × Unit) × (((Int × Int × Int × Int × Int × Int × Int × Int × Int × Int × Int × (List (Int × Int × (List Int) × Unit)) × (List Int) × (List Int) × Unit) × Unit) × Unit))) : Option (((Int × Int × Int × (List (Int × Int × (List Int) × Unit)) × Int × Unit) × (((Int × Int × Int × Int × Int × Int × Int × Int × Int × Int × Int × (List (Int × Int × (List Int) × Unit)) × (List Int) × (List Int) × Unit) × Unit) × Unit)) ⊕ (((Bool × Unit) × (Unit)) ⊕ ((Unit) × (((Int × Int × Int × Int × Int × Int × Int × Int × Int × Int × Int × (List (Int × Int × (List Int) × Unit)) × (List Int) × (List Int) × Unit) × Unit) × Unit)))) :=
bif (decide ((v.1.1 : Int) < v.1.2.2.2.2.1)) then (Abs.rowAt v.1.2.2.2.1 v.1.1 fun e40 _ =>
((bif (decide ((e40.2.1 : Int) < v.1.2.2.1)) then (some ((true, (v.1.2.2.2.1, (v.1.2.2.2.2.1, (v.1.1, (v.1.2.1, ()))))), ((v.2.1.1, ()), ((e40, ()), ()))))
else ((m34 ((e40.2.2.1, ()), ())).bind fun u41 =>
bif (!u41.1.1) then (some ((true, (v.1.2.2.2.1, (v.1.2.2.2.2.1, (v.1.1, (v.1.2.1, ()))))), ((v.2.1.1, ()), ((e40, ()), ()))))
else (bif ((e40.1 : Int) != (-1)) then ((m29 ((e40.1, ((w64 (v.1.2.1 + 1)), ((w64 (v.2.1.1.2.2.2.1 - 1)), ()))), ())).bind fun u42 =>
some (((!u42.1.1), (v.1.2.2.2.1, (v.1.2.2.2.2.1, (v.1.1, (v.1.2.1, ()))))), ((v.2.1.1, ()), ((e40, ()), ()))))
else (some ((false, (v.1.2.2.2.1, (v.1.2.2.2.2.1, (v.1.1, (v.1.2.1, ()))))), ((v.2.1.1, ()), ((e40, ()), ()))))))) : Option ((Bool × (List (Int × Int × (List Int) × Unit)) × Int × Int × Int × Unit) × (((Int × Int × Int × Int × Int × Int × Int × Int × Int × Int × Int × (List (Int × Int × (List Int) × Unit)) × (List Int) × (List Int) × Unit) × Unit) × ((Int × Int × (List Int) × Unit) × Unit) × Unit))).bind fun v43 =>
bif v43.1.1 then (some (.inr (.inl ((false, ()), ()))))
else (let x44 := (if (v43.2.2.1.1.1 : Int) > v43.1.2.2.2.2.1 then v43.2.2.1.1.1 else v43.1.2.2.2.2.1)
some (.inl (((w64 (v43.1.2.2.2.1 + 1)), (x44, (v43.2.2.1.1.2.1, (v43.1.2.1, (v43.1.2.2.1, ()))))), ((v43.2.1.1, ()), ())))))
else (some (.inr (.inr ((), ((v.2.1.1, ()), ())))))

/- pagewatch/escalate.started -/
def i33 : Abs.Sg := ⟨[0], (.dat (.cons (.int .i64) (.cons (.int .i64) (.cons (.int .i64) (.cons (.int .i64) (.cons (.int .i64) (.cons (.int .i64) (.cons (.int .i64) (.cons (.int .i64) (.cons (.int .i64) (.cons (.int .i64) (.cons (.int .i64) (.cons (.row (.cons (.int .i64) (.cons (.int .i64) (.cons (.row (.int .i64)) .unit)))) (.cons (.row (.int .i64)) (.cons (.row (.int .i64)) .unit)))))))))))))) .nil), .nil⟩
def o33 : Abs.Sg := ⟨[2], (.dat .bool .nil), .nil⟩
def m33 (v : (((Int × Int × Int × Int × Int × Int × Int × Int × Int × Int × Int × (List (Int × Int × (List Int) × Unit)) × (List Int) × (List Int) × Unit) × Unit) × (Unit))) : Option ((Bool × Unit) × (Unit)) :=
(loopT l33_0_3 ((0, ((-1), (v.1.1.2.2.1, (v.1.1.2.2.2.2.2.2.2.2.2.2.2.1, ((v.1.1.2.2.2.2.2.2.2.2.2.2.2.1.length : Int), ()))))), ((v.1.1, ()), ()))).bind fun d45 =>
sumE d45 (fun d46 => (some ((d46.1.1, ()), ()))) (fun d47 => (let x48 := (decide (((d47.2.1.1.2.2.2.2.2.2.2.2.2.2.2.1.length : Int) : Int) ≤ 200))
some ((x48, ()), ())))
def sp33 : Abs.Spec := ⟨0, i33, o33, m33⟩
def an33 : Nat → Abs.FAn
  | 0 => Abs.FAn.mk (fun
    | 5 => some ⟨[41, 1, 10, 11, 12, 6, 4], (.dat .bool (.st (.ptr (0, 0) 14 0 0) (.dat (.row (.cons (.int .i64) (.cons (.int .i64) (.cons (.row (.int .i64)) .unit)))) (.dat (.int .i64) (.dat (.int .i64) (.st (.ptr (1, 0) 3 0 0) (.dat (.int .i64) .nil))))))), (.box 14 (.dat (.cons (.int .i64) (.cons (.int .i64) (.cons (.int .i64) (.cons (.int .i64) (.cons (.int .i64) (.cons (.int .i64) (.cons (.int .i64) (.cons (.int .i64) (.cons (.int .i64) (.cons (.int .i64) (.cons (.int .i64) (.cons (.row (.cons (.int .i64) (.cons (.int .i64) (.cons (.row (.int .i64)) .unit)))) (.cons (.row (.int .i64)) (.cons (.row (.int .i64)) .unit)))))))))))))) .nil) (.box 3 (.dat (.cons (.int .i64) (.cons (.int .i64) (.cons (.row (.int .i64)) .unit))) .nil) .nil))⟩
    | _ => none) (fun _ => none) (fun
    | 3 => some ⟨⟨[12, 4, 1, 3, 10, 11], (.dat (.int .i64) (.dat (.int .i64) (.st (.ptr (0, 0) 14 0 0) (.dat (.int .i64) (.dat (.row (.cons (.int .i64) (.cons (.int .i64) (.cons (.row (.int .i64)) .unit)))) (.dat (.int .i64) .nil)))))), (.box 14 (.dat (.cons (.int .i64) (.cons (.int .i64) (.cons (.int .i64) (.cons (.int .i64) (.cons (.int .i64) (.cons (.int .i64) (.cons (.int .i64) (.cons (.int .i64) (.cons (.int .i64) (.cons (.int .i64) (.cons (.int .i64) (.cons (.row (.cons (.int .i64) (.cons (.int .i64) (.cons (.row (.int .i64)) .unit)))) (.cons (.row (.int .i64)) (.cons (.row (.int .i64)) .unit)))))))))))))) .nil) .nil)⟩, (.more .ret ⟨[2], (.dat .bool .nil), .nil⟩ (.one (.exit 0) ⟨[1], (.st (.ptr (0, 0) 14 0 0) .nil), (.box 14 (.dat (.cons (.int .i64) (.cons (.int .i64) (.cons (.int .i64) (.cons (.int .i64) (.cons (.int .i64) (.cons (.int .i64) (.cons (.int .i64) (.cons (.int .i64) (.cons (.int .i64) (.cons (.int .i64) (.cons (.int .i64) (.cons (.row (.cons (.int .i64) (.cons (.int .i64) (.cons (.row (.int .i64)) .unit)))) (.cons (.row (.int .i64)) (.cons (.row (.int .i64)) .unit)))))))))))))) .nil) .nil)⟩))⟩
    | _ => none) (fun _ _ => 0)
  | _ => {}
theorem ok33 : Abs.SpecOK Try.prog 33 sp33 :=
  Abs.specOK_of (n := 12) (an := an33) (T := Abs.tabOf [(34, sp34), (29, sp29)]) good foll (Abs.tabOf_ok _ (by simp only [List.forall_mem_cons]; exact ⟨ok34, ok29, fun _ h => by cases h⟩)) rfl (by intro v; kernel_rfl)

def l38_0_2 (v : ((Int × (List Int) × Int × Int × Unit) × (Unit))) : Option (((Int × (List Int) × Int × Int × Unit) × (Unit)) ⊕ (((Int × Unit) × (Unit)) ⊕ ((Unit) × (Unit)))) :=
bif (decide ((v.1.1 : Int) < v.1.2.2.2.1)) then (Abs.rowAt v.1.2.1 v.1.1 fun e13 _ =>
bif ((v.1.2.2.1 : Int) == e13) then (some (.inr (.inl ((v.1.1, ()), ()))))
else (some (.inl (((w64 (v.1.1 + 1)), (v.1.2.1, (v.1.2.2.1, (v.1.2.2.2.1, ())))), ()))))
else (some (.inr (.inr ((), ()))))

/- slices.Index[[]int,int] -/
def i38 : Abs.Sg := ⟨[0, 1], (.dat (.row (.int .i64)) (.dat (.int .i64) .nil)), .nil⟩
def o38 : Abs.Sg := ⟨[4], (.dat (.int .i64) .nil), .nil⟩
def m38 (v : (((List Int) × Int × Unit) × (Unit))) : Option ((Int × Unit) × (Unit)) :=
(loopT l38_0_2 ((0, (v.1.1, (v.1.2.1, ((v.1.1.length : Int), ())))), ())).bind fun d14 =>
sumE d14 (fun d15 => (some ((d15.1.1, ()), ()))) (fun d16 => (some (((-1), ()), ())))
def sp38 : Abs.Spec := ⟨0, i38, o38, m38⟩
def an38 : Nat → Abs.FAn
  | 0 => Abs.FAn.mk (fun _ => none) (fun _ => none) (fun
    | 2 => some ⟨⟨[8, 0, 1, 7], (.dat (.int .i64) (.dat (.row (.int .i64)) (.dat (.int .i64) (.dat (.int .i64) .nil)))), .nil⟩, (.more .ret ⟨[4], (.dat (.int .i64) .nil), .nil⟩ (.one (.exit 0) ⟨[], .nil, .nil⟩))⟩
    | _ => none) (fun _ _ => 0)
  | _ => {}
theorem ok38 : Abs.SpecOK Try.prog 38 sp38 :=
  Abs.specOK_of (n := 12) (an := an38) (T := Abs.tabOf []) good foll (Abs.tabOf_ok _ (fun _ h => by cases h)) rfl (by intro v; kernel_rfl)

/- slices.Contains[[]int,int] -/
def i37 : Abs.Sg := ⟨[0, 1], (.dat (.row (.int .i64)) (.dat (.int .i64) .nil)), .nil⟩
def o37 : Abs.Sg := ⟨[4], (.dat .bool .nil), .nil⟩
def m37 (v : (((List Int) × Int × Unit) × (Unit))) : Option ((Bool × Unit) × (Unit)) :=
(m38 ((v.1.1, (v.1.2.1, ())), ())).bind fun u2 =>
some (((decide ((u2.1.1 : Int) ≥ 0)), ()), ())
def sp37 : Abs.Spec := ⟨0, i37, o37, m37⟩
def an37 : Nat → Abs.FAn
  | _ => {}
theorem ok37 : Abs.SpecOK Try.prog 37 sp37 :=
  Abs.specOK_of (n := 12) (an := an37) (T := Abs.tabOf [(38, sp38)]) good foll (Abs.tabOf_ok _ (by simp only [List.forall_mem_cons]; exact ⟨ok38, fun _ h => by cases h⟩)) rfl (by intro v; kernel_rfl)

def l35_0_2 (v : ((Int × (List Int) × (List Int) × Int × Unit) × (Unit))) : Option (((Int × (List Int) × (List Int) × Int × Unit) × (Unit)) ⊕ (((Bool × Unit) × (Unit)) ⊕ (((List Int) × Unit) × (Unit)))) :=
bif (decide ((v.1.1 : Int) < v.1.2.2.2.1)) then (Abs.rowAt v.1.2.2.1 v.1.1 fun e19 _ =>
bif (decide ((0 : Int) ≤ v.1.1)) then
bif (decide (0 ≤ v.1.1.toNat ∧ v.1.1.toNat ≤ v.1.2.1.length)) then
(m37 (((v.1.2.1.take v.1.1.toNat), (e19, ())), ())).bind fun u20 =>
bif u20.1.1 then (some (.inr (.inl ((false, ()), ()))))
else (some (.inl (((w64 (v.1.1 + 1)), (v.1.2.1, (v.1.2.2.1, (v.1.2.2.2.1, ())))), ())))
else none
else none)
else (some (.inr (.inr ((v.1.2.1, ()), ()))))

/- pagewatch/escalate.seen -/
def i35 : Abs.Sg := ⟨[0], (.dat (.row (.int .i64)) .nil), .nil⟩
def o35 : Abs.Sg := ⟨[2], (.dat .bool .nil), .nil⟩
def m35 (v : (((List Int) × Unit) × (Unit))) : Option ((Bool × Unit) × (Unit)) :=
(loopT l35_0_2 ((0, (v.1.1, (v.1.1, ((v.1.1.length : Int), ())))), ())).bind fun d21 =>
sumE d21 (fun d22 => (some ((d22.1.1, ()), ()))) (fun d23 => (some (((decide (((d23.1.1.length : Int) : Int) ≤ 64)), ()), ())))
def sp35 : Abs.Spec := ⟨0, i35, o35, m35⟩
def an35 : Nat → Abs.FAn
  | 0 => Abs.FAn.mk (fun _ => none) (fun _ => none) (fun
    | 2 => some ⟨⟨[7, 0, 5, 6], (.dat (.int .i64) (.dat (.row (.int .i64)) (.dat (.row (.int .i64)) (.dat (.int .i64) .nil)))), .nil⟩, (.more .ret ⟨[2], (.dat .bool .nil), .nil⟩ (.one (.exit 0) ⟨[0], (.dat (.row (.int .i64)) .nil), .nil⟩))⟩
    | _ => none) (fun _ _ => 0)
  | _ => {}
theorem ok35 : Abs.SpecOK Try.prog 35 sp35 :=
  Abs.specOK_of (n := 12) (an := an35) (T := Abs.tabOf [(37, sp37)]) good foll (Abs.tabOf_ok _ (by simp only [List.forall_mem_cons]; exact ⟨ok37, fun _ h => by cases h⟩)) rfl (by intro v; kernel_rfl)

def l28_2_2 (v : ((Int × (List (Int × Bool × (List (Int × Int × Unit)) × Unit)) × Int × Unit) × (Unit))) : Option (((Int × (List (Int × Bool × (List (Int × Int × Unit)) × Unit)) × Int × Unit) × (Unit)) ⊕ (((Int × Unit) × (Unit)) ⊕ ((Unit) × (Unit)))) :=
bif (decide ((v.1.1 : Int) < v.1.2.2.1)) then (Abs.rowAt v.1.2.1 v.1.1 fun e90 _ =>
(m31 ((e90, ()), ())).bind fun u91 =>
bif u91.1.1 then (some (.inr (.inl ((v.1.1, ()), ()))))
else (some (.inl (((w64 (v.1.1 + 1)), (v.1.2.1, (v.1.2.2.1, ()))), ()))))
else (some (.inr (.inr ((), ()))))

/- pagewatch/escalate.Check -/
def i28 : Abs.Sg := ⟨[0, 1], (.dat (.cons (.row (.cons .str (.cons (.row (.int .i64)) .unit))) (.cons (.row (.cons .str (.cons (.row (.cons (.int .i64) (.cons .bool (.cons (.row (.cons (.int .i64) (.cons (.int .i64) .unit))) .unit)))) (.cons (.int .i64) .unit)))) .unit)) (.dat (.cons (.int .i64) (.cons (.int .i64) (.cons (.int .i64) (.cons (.int .i64) (.cons (.int .i64) (.cons (.int .i64) (.cons (.int .i64) (.cons (.int .i64) (.cons (.int .i64) (.cons (.int .i64) (.cons (.int .i64) (.cons (.row (.cons (.int .i64) (.cons (.int .i64) (.cons (.row (.int .i64)) .unit)))) (.cons (.row (.int .i64)) (.cons (.row (.int .i64)) .unit)))))))))))))) .nil)), .nil⟩
def o28 : Abs.Sg := ⟨[4], (.dat .bool .nil), .nil⟩
def m28 (v : ((((List (ByteArray × (List Int) × Unit)) × (List (ByteArray × (List (Int × Bool × (List (Int × Int × Unit)) × Unit)) × Int × Unit)) × Unit) × (Int × Int × Int × Int × Int × Int × Int × Int × Int × Int × Int × (List (Int × Int × (List Int) × Unit)) × (List Int) × (List Int) × Unit) × Unit) × (Unit))) : Option ((Bool × Unit) × (Unit)) :=
(((m29 ((v.1.2.1.1, (1, (999999, ()))), ())).bind fun u85 =>
bif (!u85.1.1) then (some ((true, ()), ((v.1.2.1, ()), ((v.1.1, ()), ()))))
else ((m29 ((v.1.2.1.2.1, (0, ((w64 ((v.1.1.2.1.length : Int) - 1)), ()))), ())).bind fun u86 =>
bif (!u86.1.1) then (some ((true, ()), ((v.1.2.1, ()), ((v.1.1, ()), ()))))
else ((m29 ((v.1.2.1.2.2.1, (0, (8589934592, ()))), ())).bind fun u87 =>
some (((!u87.1.1), ()), ((v.1.2.1, ()), ((v.1.1, ()), ())))))) : Option ((Bool × Unit) × (((Int × Int × Int × Int × Int × Int × Int × Int × Int × Int × Int × (List (Int × Int × (List Int) × Unit)) × (List Int) × (List Int) × Unit) × Unit) × (((List (ByteArray × (List Int) × Unit)) × (List (ByteArray × (List (Int × Bool × (List (Int × Int × Unit)) × Unit)) × Int × Unit)) × Unit) × Unit) × Unit))).bind fun v88 =>
bif v88.1.1 then (some ((false, ()), ()))
else (Abs.rowAt v88.2.2.1.1.2.1 v88.2.1.1.2.1 fun e89 _ =>
(((((loopT l28_2_2 ((0, (e89.2.1, ((e89.2.1.length : Int), ()))), ())).bind fun d92 =>
sumE d92 (fun d93 => (some (((decide ((d93.1.1 : Int) ≥ 0)), ()), ()))) (fun d94 => (some ((false, ()), ())))) : Option ((Bool × Unit) × (Unit))).bind fun v95 =>
bif v95.1.1 then (some ((true, ()), ((v88.2.1.1, ()), ())))
else ((m18 ((e89, ()), ())).bind fun u96 =>
(m29 ((v88.2.1.1.2.2.2.1, (0, (u96.1.1, ()))), ())).bind fun u97 =>
some (((!u97.1.1), ()), ((v88.2.1.1, ()), ())))) : Option ((Bool × Unit) × (((Int × Int × Int × Int × Int × Int × Int × Int × Int × Int × Int × (List (Int × Int × (List Int) × Unit)) × (List Int) × (List Int) × Unit) × Unit) × Unit))).bind fun v98 =>
bif v98.1.1 then (some ((false, ()), ()))
else ((((m29 ((v98.2.1.1.2.2.2.2.2.1, (0, (4, ()))), ())).bind fun u99 =>
bif u99.1.1 then ((m29 ((v98.2.1.1.2.2.2.2.2.2.1, ((-1), (31, ()))), ())).bind fun u100 =>
bif u100.1.1 then ((m32 ((v98.2.1.1, ()), ())).bind fun u101 =>
bif u101.1.1 then ((m33 ((v98.2.1.1, ()), ())).bind fun u102 =>
bif u102.1.1 then ((m34 ((v98.2.1.1.2.2.2.2.2.2.2.2.2.2.2.2.1, ()), ())).bind fun u103 =>
bif u103.1.1 then ((m35 ((v98.2.1.1.2.2.2.2.2.2.2.2.2.2.2.2.2.1, ()), ())).bind fun u104 =>
some ((u104.1.1, ()), ()))
else (some ((false, ()), ())))
else (some ((false, ()), ())))
else (some ((false, ()), ())))
else (some ((false, ()), ())))
else (some ((false, ()), ()))) : Option ((Bool × Unit) × (Unit))).bind fun v105 =>
some ((v105.1.1, ()), ())))
def sp28 : Abs.Spec := ⟨0, i28, o28, m28⟩
def an28 : Nat → Abs.FAn
  | 0 => Abs.FAn.mk (fun
    | 6 => some ⟨[4], (.dat .bool .nil), .nil⟩
    | 4 => some ⟨[42, 3], (.dat .bool (.st (.ptr (0, 0) 14 0 0) .nil)), (.box 14 (.dat (.cons (.int .i64) (.cons (.int .i64) (.cons (.int .i64) (.cons (.int .i64) (.cons (.int .i64) (.cons (.int .i64) (.cons (.int .i64) (.cons (.int .i64) (.cons (.int .i64) (.cons (.int .i64) (.cons (.int .i64) (.cons (.row (.cons (.int .i64) (.cons (.int .i64) (.cons (.row (.int .i64)) .unit)))) (.cons (.row (.int .i64)) (.cons (.row (.int .i64)) .unit)))))))))))))) .nil) .nil)⟩
    | 1 => some ⟨[25, 3, 2], (.dat .bool (.st (.ptr (0, 0) 14 0 0) (.st (.ptr (1, 0) 2 0 0) .nil))), (.box 14 (.dat (.cons (.int .i64) (.cons (.int .i64) (.cons (.int .i64) (.cons (.int .i64) (.cons (.int .i64) (.cons (.int .i64) (.cons (.int .i64) (.cons (.int .i64) (.cons (.int .i64) (.cons (.int .i64) (.cons (.int .i64) (.cons (.row (.cons (.int .i64) (.cons (.int .i64) (.cons (.row (.int .i64)) .unit)))) (.cons (.row (.int .i64)) (.cons (.row (.int .i64)) .unit)))))))))))))) .nil) (.box 2 (.dat (.cons (.row (.cons .str (.cons (.row (.int .i64)) .unit))) (.cons (.row (.cons .str (.cons (.row (.cons (.int .i64) (.cons .bool (.cons (.row (.cons (.int .i64) (.cons (.int .i64) .unit))) .unit)))) (.cons (.int .i64) .unit)))) .unit)) .nil) .nil))⟩
    | _ => none) (fun _ => none) (fun _ => none) (fun
    | 4, 2 => 1
    | _, _ => 0)
  | 1 => Abs.FAn.mk (fun
    | 1 => some ⟨[4], (.dat .bool .nil), .nil⟩
    | _ => none) (fun _ => none) (fun _ => none) (fun
    | 1, 2 => 2
    | _, _ => 0)
  | 2 => Abs.FAn.mk (fun _ => none) (fun _ => none) (fun
    | 2 => some ⟨⟨[8, 0, 1, 7], (.dat (.int .i64) (.dat (.row (.cons (.int .i64) (.cons .bool (.cons (.row (.cons (.int .i64) (.cons (.int .i64) .unit))) .unit)))) (.st (.clo 31 []) (.dat (.int .i64) .nil)))), .nil⟩, (.more .ret ⟨[4], (.dat (.int .i64) .nil), .nil⟩ (.one (.exit 0) ⟨[], .nil, .nil⟩))⟩
    | _ => none) (fun _ _ => 0)
  | _ => {}
theorem ok28 : Abs.SpecOK Try.prog 28 sp28 :=
  Abs.specOK_of (n := 12) (an := an28) (T := Abs.tabOf [(29, sp29), (31, sp31), (18, sp18), (32, sp32), (33, sp33), (34, sp34), (35, sp35)]) good foll (Abs.tabOf_ok _ (by simp only [List.forall_mem_cons]; exact ⟨ok29, ok31, ok18, ok32, ok33, ok34, ok35, fun _ h => by cases h⟩)) rfl (by intro v; kernel_rfl)

def l25_0_3 (v : ((Int × Int × Unit) × (((ByteArray × (List (Int × Bool × (List (Int × Int × Unit)) × Unit)) × Int × Unit) × Unit) × (List Int) × Unit))) : Option (((Int × Int × Unit) × (((ByteArray × (List (Int × Bool × (List (Int × Int × Unit)) × Unit)) × Int × Unit) × Unit) × (List Int) × Unit)) ⊕ ((Unit) × ((List Int) × ((ByteArray × (List (Int × Bool × (List (Int × Int × Unit)) × Unit)) × Int × Unit) × Unit) × Unit))) :=
bif (decide ((v.1.1 : Int) < v.1.2.1)) then (bif (decide ((0 : Int) ≤ v.1.1 ∧ (v.1.1 : Int) < v.2.2.1.length)) then
(v.2.2.1[v.1.1.toNat]?).bind fun e41 =>
bif (decide ((v.2.1.1.2.1.length : Int) ≠ (0 : Int))) then
Abs.rowAt v.2.1.1.2.1 ((v.1.1 : Int).tmod (v.2.1.1.2.1.length : Int)) fun e42 _ =>
bif (decide (v.2.2.1.length + [(w64 (e41 + e42.1))].length ≤ 4294967296)) then
some (.inl (((w64 (v.1.1 + 1)), (v.1.2.1, ())), ((v.2.1.1, ()), ((v.2.2.1 ++ [(w64 (e41 + e42.1))]), ()))))
else none
else none
else none)
else (some (.inr ((), (v.2.2.1, ((v.2.1.1, ()), ())))))

def l25_0_8 (v : ((Int × (List (Int × Bool × (List (Int × Int × Unit)) × Unit)) × Int × Unit) × ((List Int) × Unit))) : Option (((Int × (List (Int × Bool × (List (Int × Int × Unit)) × Unit)) × Int × Unit) × ((List Int) × Unit)) ⊕ (((Unit) × ((List Int) × Unit)) ⊕ ((Unit) × ((List Int) × Unit)))) :=
bif (decide ((v.1.1 : Int) < v.1.2.2.1)) then (Abs.rowAt v.1.2.1 v.1.1 fun e44 _ =>
(m26 ((e44.1, (0, (86400, ()))), ())).bind fun u45 =>
bif (!u45.1.1) then (some (.inr (.inl ((), ([], ())))))
else (some (.inl (((w64 (v.1.1 + 1)), (v.1.2.1, (v.1.2.2.1, ()))), (v.2.1, ())))))
else (some (.inr (.inr ((), (v.2.1, ())))))

/- pagewatch/policy.offsets -/
def i25 : Abs.Sg := ⟨[0], (.dat (.cons .str (.cons (.row (.cons (.int .i64) (.cons .bool (.cons (.row (.cons (.int .i64) (.cons (.int .i64) .unit))) .unit)))) (.cons (.int .i64) .unit))) .nil), .nil⟩
def o25 : Abs.Sg := ⟨[2], (.st (.own (.int .i64) (0, 0)) .nil), (.arr (.int .i64) false .nil)⟩
def m25 (v : (((ByteArray × (List (Int × Bool × (List (Int × Int × Unit)) × Unit)) × Int × Unit) × Unit) × (Unit))) : Option ((Unit) × ((List Int) × Unit)) :=
(m18 ((v.1.1, ()), ())).bind fun u40 =>
(loopT l25_0_3 ((0, (u40.1.1, ())), ((v.1.1, ()), ([0], ())))).bind fun d43 =>
(loopT l25_0_8 ((0, (d43.2.2.1.1.2.1, ((d43.2.2.1.1.2.1.length : Int), ()))), (d43.2.1, ()))).bind fun d46 =>
sumE d46 (fun d47 => (some ((), (d47.2.1, ())))) (fun d48 => (some ((), (d48.2.1, ()))))
def sp25 : Abs.Spec := ⟨0, i25, o25, m25⟩
def an25 : Nat → Abs.FAn
  | 0 => Abs.FAn.mk (fun _ => none) (fun _ => none) (fun
    | 8 => some ⟨⟨[35, 33, 3, 34], (.dat (.int .i64) (.dat (.row (.cons (.int .i64) (.cons .bool (.cons (.row (.cons (.int .i64) (.cons (.int .i64) .unit))) .unit)))) (.st (.own (.int .i64) (0, 0)) (.dat (.int .i64) .nil)))), (.arr (.int .i64) false .nil)⟩, (.more .ret ⟨[2], (.st (.own (.int .i64) (0, 0)) .nil), (.arr (.int .i64) false .nil)⟩ (.one (.exit 2) ⟨[3], (.st (.own (.int .i64) (0, 0)) .nil), (.arr (.int .i64) false .nil)⟩))⟩
    | 3 => some ⟨⟨[10, 1, 3, 9], (.dat (.int .i64) (.st (.ptr (0, 0) 3 0 0) (.st (.own (.int .i64) (1, 0)) (.dat (.int .i64) .nil)))), (.box 3 (.dat (.cons .str (.cons (.row (.cons (.int .i64) (.cons .bool (.cons (.row (.cons (.int .i64) (.cons (.int .i64) .unit))) .unit)))) (.cons (.int .i64) .unit))) .nil) (.arr (.int .i64) false .nil))⟩, (.one (.exit 0) ⟨[3, 1], (.st (.own (.int .i64) (0, 0)) (.st (.ptr (1, 0) 3 0 0) .nil)), (.arr (.int .i64) false (.box 3 (.dat (.cons .str (.cons (.row (.cons (.int .i64) (.cons .bool (.cons (.row (.cons (.int .i64) (.cons (.int .i64) .unit))) .unit)))) (.cons (.int .i64) .unit))) .nil) .nil))⟩)⟩
    | _ => none) (fun _ _ => 0)
  | _ => {}
theorem ok25 : Abs.SpecOK Try.prog 25 sp25 :=
  Abs.specOK_of (n := 12) (an := an25) (T := Abs.tabOf [(18, sp18), (26, sp26)]) good foll (Abs.tabOf_ok _ (by simp only [List.forall_mem_cons]; exact ⟨ok18, ok26, fun _ h => by cases h⟩)) rfl (by intro v; kernel_rfl)

/- pagewatch/policy.Offset -/
def i17 : Abs.Sg := ⟨[0, 1], (.dat (.cons .str (.cons (.row (.cons (.int .i64) (.cons .bool (.cons (.row (.cons (.int .i64) (.cons (.int .i64) .unit))) .unit)))) (.cons (.int .i64) .unit))) (.dat (.int .i64) .nil)), .nil⟩
def o17 : Abs.Sg := ⟨[4, 5], (.dat (.int .i64) (.dat .bool .nil)), .nil⟩
def m17 (v : (((ByteArray × (List (Int × Bool × (List (Int × Int × Unit)) × Unit)) × Int × Unit) × Int × Unit) × (Unit))) : Option ((Int × Bool × Unit) × (Unit)) :=
(m25 ((v.1.1, ()), ())).bind fun u9 =>
(m26 ((v.1.2.1, (0, ((w64 (((u9.2.1.length : Nat) : Int) - 1)), ()))), ())).bind fun u10 =>
bif (!u10.1.1) then (some ((0, (false, ())), ()))
else (bif (decide ((0 : Int) ≤ v.1.2.1 ∧ (v.1.2.1 : Int) < u9.2.1.length)) then
(u9.2.1[v.1.2.1.toNat]?).bind fun e11 =>
some ((e11, (true, ())), ())
else none)
def sp17 : Abs.Spec := ⟨0, i17, o17, m17⟩
def an17 : Nat → Abs.FAn
  | _ => {}
theorem ok17 : Abs.SpecOK Try.prog 17 sp17 :=
  Abs.specOK_of (n := 12) (an := an17) (T := Abs.tabOf [(25, sp25), (26, sp26)]) good foll (Abs.tabOf_ok _ (by simp only [List.forall_mem_cons]; exact ⟨ok25, ok26, fun _ h => by cases h⟩)) rfl (by intro v; kernel_rfl)

/- pagewatch/policy.End -/
def i16 : Abs.Sg := ⟨[0], (.dat (.cons .str (.cons (.row (.cons (.int .i64) (.cons .bool (.cons (.row (.cons (.int .i64) (.cons (.int .i64) .unit))) .unit)))) (.cons (.int .i64) .unit))) .nil), .nil⟩
def o16 : Abs.Sg := ⟨[2], (.dat (.int .i64) .nil), .nil⟩
def m16 (v : (((ByteArray × (List (Int × Bool × (List (Int × Int × Unit)) × Unit)) × Int × Unit) × Unit) × (Unit))) : Option ((Int × Unit) × (Unit)) :=
(m18 ((v.1.1, ()), ())).bind fun u6 =>
(m17 ((v.1.1, (u6.1.1, ())), ())).bind fun u7 =>
some ((u7.1.1, ()), ())
def sp16 : Abs.Spec := ⟨0, i16, o16, m16⟩
def an16 : Nat → Abs.FAn
  | _ => {}
theorem ok16 : Abs.SpecOK Try.prog 16 sp16 :=
  Abs.specOK_of (n := 12) (an := an16) (T := Abs.tabOf [(18, sp18), (17, sp17)]) good foll (Abs.tabOf_ok _ (by simp only [List.forall_mem_cons]; exact ⟨ok18, ok17, fun _ h => by cases h⟩)) rfl (by intro v; kernel_rfl)

def l19_0_3 (v : ((Int × Int × (List Int) × Int × Unit) × (Unit))) : Option (((Int × Int × (List Int) × Int × Unit) × (Unit)) ⊕ ((Int × Unit) × (Unit))) :=
bif (decide ((v.1.1 : Int) < v.1.2.2.2.1)) then (Abs.rowAt v.1.2.2.1 v.1.1 fun e9 _ =>
some (.inl (((w64 (v.1.1 + 1)), ((w64 (v.1.2.1 + e9)), (v.1.2.2.1, (v.1.2.2.2.1, ())))), ())))
else (some (.inr ((v.1.2.1, ()), ())))

/- pagewatch/bound.sum -/
def i19 : Abs.Sg := ⟨[0], (.dat (.row (.int .i64)) .nil), .nil⟩
def o19 : Abs.Sg := ⟨[2], (.dat (.int .i64) .nil), .nil⟩
def m19 (v : (((List Int) × Unit) × (Unit))) : Option ((Int × Unit) × (Unit)) :=
(loopT l19_0_3 ((0, (0, (v.1.1, ((v.1.1.length : Int), ())))), ())).bind fun d10 =>
some ((d10.1.1, ()), ())
def sp19 : Abs.Spec := ⟨0, i19, o19, m19⟩
def an19 : Nat → Abs.FAn
  | 0 => Abs.FAn.mk (fun _ => none) (fun _ => none) (fun
    | 3 => some ⟨⟨[8, 3, 6, 7], (.dat (.int .i64) (.dat (.int .i64) (.dat (.row (.int .i64)) (.dat (.int .i64) .nil)))), .nil⟩, (.one (.exit 0) ⟨[3], (.dat (.int .i64) .nil), .nil⟩)⟩
    | _ => none) (fun _ _ => 0)
  | _ => {}
theorem ok19 : Abs.SpecOK Try.prog 19 sp19 :=
  Abs.specOK_of (n := 12) (an := an19) (T := Abs.tabOf []) good foll (Abs.tabOf_ok _ (fun _ h => by cases h)) rfl (by intro v; kernel_rfl)

/- pagewatch/bound.Rest -/
def i23 : Abs.Sg := ⟨[0, 1], (.dat (.cons (.row (.cons .str (.cons (.row (.int .i64)) .unit))) (.cons (.row (.cons .str (.cons (.row (.cons (.int .i64) (.cons .bool (.cons (.row (.cons (.int .i64) (.cons (.int .i64) .unit))) .unit)))) (.cons (.int .i64) .unit)))) .unit)) (.dat (.cons (.int .i64) (.cons (.int .i64) (.cons (.int .i64) (.cons (.int .i64) (.cons (.int .i64) (.cons (.int .i64) (.cons (.int .i64) (.cons (.int .i64) (.cons (.int .i64) (.cons (.int .i64) (.cons (.int .i64) (.cons (.row (.cons (.int .i64) (.cons (.int .i64) (.cons (.row (.int .i64)) .unit)))) (.cons (.row (.int .i64)) (.cons (.row (.int .i64)) .unit)))))))))))))) .nil)), .nil⟩
def o23 : Abs.Sg := ⟨[4, 5], (.dat (.int .i64) (.dat .bool .nil)), .nil⟩
def m23 (v : ((((List (ByteArray × (List Int) × Unit)) × (List (ByteArray × (List (Int × Bool × (List (Int × Int × Unit)) × Unit)) × Int × Unit)) × Unit) × (Int × Int × Int × Int × Int × Int × Int × Int × Int × Int × Int × (List (Int × Int × (List Int) × Unit)) × (List Int) × (List Int) × Unit) × Unit) × (Unit))) : Option ((Int × Bool × Unit) × (Unit)) :=
(m28 ((v.1.1, (v.1.2.1, ())), ())).bind fun u14 =>
bif (!u14.1.1) then (some ((0, (false, ())), ()))
else (Abs.rowAt v.1.1.2.1 v.1.2.1.2.1 fun e15 _ =>
(m17 ((e15, (v.1.2.1.2.2.2.1, ())), ())).bind fun u16 =>
(m16 ((e15, ()), ())).bind fun u17 =>
(m19 (([u17.1.1, (w64 (0 - u16.1.1))], ()), ())).bind fun u18 =>
some ((u18.1.1, (true, ())), ()))
def sp23 : Abs.Spec := ⟨0, i23, o23, m23⟩
def an23 : Nat → Abs.FAn
  | _ => {}
theorem ok23 : Abs.SpecOK Try.prog 23 sp23 :=
  Abs.specOK_of (n := 12) (an := an23) (T := Abs.tabOf [(28, sp28), (17, sp17), (16, sp16), (19, sp19)]) good foll (Abs.tabOf_ok _ (by simp only [List.forall_mem_cons]; exact ⟨ok28, ok17, ok16, ok19, fun _ h => by cases h⟩)) rfl (by intro v; kernel_rfl)

/- pagewatch/escalate.Due -/
def i24 : Abs.Sg := ⟨[0], (.dat (.cons (.int .i64) (.cons (.int .i64) (.cons (.int .i64) (.cons (.int .i64) (.cons (.int .i64) (.cons (.int .i64) (.cons (.int .i64) (.cons (.int .i64) (.cons (.int .i64) (.cons (.int .i64) (.cons (.int .i64) (.cons (.row (.cons (.int .i64) (.cons (.int .i64) (.cons (.row (.int .i64)) .unit)))) (.cons (.row (.int .i64)) (.cons (.row (.int .i64)) .unit)))))))))))))) .nil), .nil⟩
def o24 : Abs.Sg := ⟨[2, 3], (.dat (.int .i64) (.dat .bool .nil)), .nil⟩
def m24 (v : (((Int × Int × Int × Int × Int × Int × Int × Int × Int × Int × Int × (List (Int × Int × (List Int) × Unit)) × (List Int) × (List Int) × Unit) × Unit) × (Unit))) : Option ((Int × Bool × Unit) × (Unit)) :=
bif ((v.1.1.2.2.2.2.2.1 : Int) == 0) then (some ((v.1.1.2.2.2.2.1, (true, ())), ()))
else (bif ((v.1.1.2.2.2.2.2.1 : Int) == 2) then (some ((v.1.1.2.2.2.2.2.2.2.1, (true, ())), ()))
else (some ((0, (false, ())), ())))
def sp24 : Abs.Spec := ⟨0, i24, o24, m24⟩
def an24 : Nat → Abs.FAn
  | _ => {}
theorem ok24 : Abs.SpecOK Try.prog 24 sp24 :=
  Abs.specOK_of (n := 12) (an := an24) (T := Abs.tabOf []) good foll (Abs.tabOf_ok _ (fun _ h => by cases h)) rfl (by intro v; kernel_rfl)

/- pagewatch/bound.Latest -/
def i12 : Abs.Sg := ⟨[0, 1], (.dat (.cons (.row (.cons .str (.cons (.row (.int .i64)) .unit))) (.cons (.row (.cons .str (.cons (.row (.cons (.int .i64) (.cons .bool (.cons (.row (.cons (.int .i64) (.cons (.int .i64) .unit))) .unit)))) (.cons (.int .i64) .unit)))) .unit)) (.dat (.cons (.int .i64) (.cons (.int .i64) (.cons (.int .i64) (.cons (.int .i64) (.cons (.int .i64) (.cons (.int .i64) (.cons (.int .i64) (.cons (.int .i64) (.cons (.int .i64) (.cons (.int .i64) (.cons (.int .i64) (.cons (.row (.cons (.int .i64) (.cons (.int .i64) (.cons (.row (.int .i64)) .unit)))) (.cons (.row (.int .i64)) (.cons (.row (.int .i64)) .unit)))))))))))))) .nil)), .nil⟩
def o12 : Abs.Sg := ⟨[4, 5], (.dat (.int .i64) (.dat .bool .nil)), .nil⟩
def m12 (v : ((((List (ByteArray × (List Int) × Unit)) × (List (ByteArray × (List (Int × Bool × (List (Int × Int × Unit)) × Unit)) × Int × Unit)) × Unit) × (Int × Int × Int × Int × Int × Int × Int × Int × Int × Int × Int × (List (Int × Int × (List Int) × Unit)) × (List Int) × (List Int) × Unit) × Unit) × (Unit))) : Option ((Int × Bool × Unit) × (Unit)) :=
(m23 ((v.1.1, (v.1.2.1, ())), ())).bind fun u8 =>
bif (!u8.1.2.1) then (some ((0, (false, ())), ()))
else ((m24 ((v.1.2.1, ()), ())).bind fun u9 =>
bif (!u9.1.2.1) then (some ((v.1.2.1.2.2.2.2.2.2.2.2.1, (true, ())), ()))
else ((m19 (([u9.1.1, u8.1.1], ()), ())).bind fun u10 =>
some ((u10.1.1, (true, ())), ())))
def sp12 : Abs.Spec := ⟨0, i12, o12, m12⟩
def an12 : Nat → Abs.FAn
  | _ => {}
theorem ok12 : Abs.SpecOK Try.prog 12 sp12 :=
  Abs.specOK_of (n := 12) (an := an12) (T := Abs.tabOf [(23, sp23), (24, sp24), (19, sp19)]) good foll (Abs.tabOf_ok _ (by simp only [List.forall_mem_cons]; exact ⟨ok23, ok24, ok19, fun _ h => by cases h⟩)) rfl (by intro v; kernel_rfl)

/- pagewatch/bound.Policy -/
def i8 : Abs.Sg := ⟨[0], (.dat (.cons .str (.cons (.row (.cons (.int .i64) (.cons .bool (.cons (.row (.cons (.int .i64) (.cons (.int .i64) .unit))) .unit)))) (.cons (.int .i64) .unit))) .nil), .nil⟩
def o8 : Abs.Sg := ⟨[2], (.dat (.int .i64) .nil), .nil⟩
def m8 (v : (((ByteArray × (List (Int × Bool × (List (Int × Int × Unit)) × Unit)) × Int × Unit) × Unit) × (Unit))) : Option ((Int × Unit) × (Unit)) :=
(m16 ((v.1.1, ()), ())).bind fun u2 =>
some ((u2.1.1, ()), ())
def sp8 : Abs.Spec := ⟨0, i8, o8, m8⟩
def an8 : Nat → Abs.FAn
  | _ => {}
theorem ok8 : Abs.SpecOK Try.prog 8 sp8 :=
  Abs.specOK_of (n := 12) (an := an8) (T := Abs.tabOf [(16, sp16)]) good foll (Abs.tabOf_ok _ (by simp only [List.forall_mem_cons]; exact ⟨ok16, fun _ h => by cases h⟩)) rfl (by intro v; kernel_rfl)

/- pagewatch/pagewatchlaw30.sane -/
def i5 : Abs.Sg := ⟨[], .nil, .nil⟩
def o5 : Abs.Sg := ⟨[0], (.dat .bool .nil), .nil⟩
def m5 (v : ((Unit) × (Unit))) : Option ((Bool × Unit) × (Unit)) :=
(m11 ((([], (([((bs [112]), (([(300, (false, ([], ()))), (600, (false, ([], ())))] : List (Int × Bool × (List (Int × Int × Unit)) × Unit)), (0, ())))] : List (ByteArray × (List (Int × Bool × (List (Int × Int × Unit)) × Unit)) × Int × Unit)), ())), (1, (0, (1000, ())))), ())).bind fun u11 =>
(m12 ((([], (([((bs [112]), (([(300, (false, ([], ()))), (600, (false, ([], ())))] : List (Int × Bool × (List (Int × Int × Unit)) × Unit)), (0, ())))] : List (ByteArray × (List (Int × Bool × (List (Int × Int × Unit)) × Unit)) × Int × Unit)), ())), ((u11.2.1.1.1, (u11.2.1.1.2.1, (u11.2.1.1.2.2.1, (u11.2.1.1.2.2.2.1, (u11.2.1.1.2.2.2.2.1, (u11.2.1.1.2.2.2.2.2.1, (u11.2.1.1.2.2.2.2.2.2.1, (u11.2.1.1.2.2.2.2.2.2.2.1, (u11.2.1.1.2.2.2.2.2.2.2.2.1, (u11.2.1.1.2.2.2.2.2.2.2.2.2.1, (u11.2.1.1.2.2.2.2.2.2.2.2.2.2.1, ([], ([], ([], ())))))))))))))), ())), ())).bind fun u12 =>
((bif ((u11.1.1 : Int) == 0) then (bif u12.1.2.1 then (bif ((u12.1.1 : Int) == 1900) then (bif (decide ((0 : Int) ≤ 0 ∧ (0 : Int) < ([((bs [112]), (([(300, (false, ([], ()))), (600, (false, ([], ())))] : List (Int × Bool × (List (Int × Int × Unit)) × Unit)), (0, ())))] : List (ByteArray × (List (Int × Bool × (List (Int × Int × Unit)) × Unit)) × Int × Unit)).length)) then
(([((bs [112]), (([(300, (false, ([], ()))), (600, (false, ([], ())))] : List (Int × Bool × (List (Int × Int × Unit)) × Unit)), (0, ())))] : List (ByteArray × (List (Int × Bool × (List (Int × Int × Unit)) × Unit)) × Int × Unit))[0]?).bind fun e13 =>
(m8 ((e13, ()), ())).bind fun u14 =>
some ((((u14.1.1 : Int) == 900), ()), ())
else none)
else (some ((false, ()), ())))
else (some ((false, ()), ())))
else (some ((false, ()), ()))) : Option ((Bool × Unit) × (Unit))).bind fun v15 =>
some ((v15.1.1, ()), ())
def sp5 : Abs.Spec := ⟨0, i5, o5, m5⟩
def an5 : Nat → Abs.FAn
  | 0 => Abs.FAn.mk (fun
    | 4 => some ⟨[0], (.dat .bool .nil), .nil⟩
    | _ => none) (fun _ => none) (fun _ => none) (fun _ _ => 0)
  | _ => {}
theorem ok5 : Abs.SpecOK Try.prog 5 sp5 :=
  Abs.specOK_of (n := 12) (an := an5) (T := Abs.tabOf [(11, sp11), (12, sp12), (8, sp8)]) good foll (Abs.tabOf_ok _ (by simp only [List.forall_mem_cons]; exact ⟨ok11, ok12, ok8, fun _ h => by cases h⟩)) rfl (by intro v; kernel_rfl)

/- pagewatch/pagewatchmade.Roll -/
def i6 : Abs.Sg := ⟨[0], (.dat (.row (.int .i64)) .nil), .nil⟩
def o6 : Abs.Sg := ⟨[2], (.st (.ptr (0, 0) 2 0 0) .nil), (.box 2 (.dat (.cons (.row (.int .i64)) (.cons (.int .i64) .unit)) .nil) .nil)⟩
def m6 (v : (((List Int) × Unit) × (Unit))) : Option ((Unit) × ((((List Int) × Int × Unit) × Unit) × Unit)) :=
some ((), (((v.1.1, (0, ())), ()), ()))
def sp6 : Abs.Spec := ⟨0, i6, o6, m6⟩
def an6 : Nat → Abs.FAn
  | _ => {}
theorem ok6 : Abs.SpecOK Try.prog 6 sp6 :=
  Abs.specOK_of (n := 12) (an := an6) (T := Abs.tabOf []) good foll (Abs.tabOf_ok _ (fun _ h => by cases h)) rfl (by intro v; kernel_rfl)

/- (*pagewatch/pagewatchmade.Dice).Next -/
def i13 : Abs.Sg := ⟨[0, 1], (.st (.ptr (0, 0) 2 0 0) (.dat (.int .i64) .nil)), (.box 2 (.dat (.cons (.row (.int .i64)) (.cons (.int .i64) .unit)) .nil) .nil)⟩
def o13 : Abs.Sg := ⟨[4], (.dat (.int .i64) .nil), (.box 2 (.dat (.cons (.row (.int .i64)) (.cons (.int .i64) .unit)) .nil) .nil)⟩
def m13 (v : ((Int × Unit) × ((((List Int) × Int × Unit) × Unit) × Unit))) : Option ((Int × Unit) × ((((List Int) × Int × Unit) × Unit) × Unit)) :=
((let x15 := (decide ((v.2.1.1.2.1 : Int) ≥ (v.2.1.1.1.length : Int)))
bif x15 then (some ((true, (v.1.1, ())), ((v.2.1.1, ()), ())))
else (some (((decide ((v.1.1 : Int) < 1)), (v.1.1, ())), ((v.2.1.1, ()), ())))) : Option ((Bool × Int × Unit) × ((((List Int) × Int × Unit) × Unit) × Unit))).bind fun v16 =>
bif v16.1.1 then (some ((0, ()), ((v16.2.1.1, ()), ())))
else (Abs.rowAt v16.2.1.1.1 v16.2.1.1.2.1 fun e17 _ =>
bif (decide (v16.1.2.1 ≠ (0 : Int))) then
((let x18 := (decide ((((e17 : Int).tmod v16.1.2.1) : Int) < 0))
bif x18 then (some (((w64 (((e17 : Int).tmod v16.1.2.1) + v16.1.2.1)), ()), (((v16.2.1.1.1, ((w64 (v16.2.1.1.2.1 + 1)), ())), ()), ())))
else (some ((((e17 : Int).tmod v16.1.2.1), ()), (((v16.2.1.1.1, ((w64 (v16.2.1.1.2.1 + 1)), ())), ()), ())))) : Option ((Int × Unit) × ((((List Int) × Int × Unit) × Unit) × Unit))).bind fun v19 =>
some ((v19.1.1, ()), ((v19.2.1.1, ()), ()))
else none)
def sp13 : Abs.Spec := ⟨1, i13, o13, m13⟩
def an13 : Nat → Abs.FAn
  | 0 => Abs.FAn.mk (fun
    | 1 => some ⟨[19, 1, 0], (.dat .bool (.dat (.int .i64) (.st (.ptr (0, 0) 2 0 0) .nil))), (.box 2 (.dat (.cons (.row (.int .i64)) (.cons (.int .i64) .unit)) .nil) .nil)⟩
    | _ => none) (fun
    | 7 => some (⟨[5], (.dat (.int .i64) .nil), (.box 2 (.dat (.cons (.row (.int .i64)) (.cons (.int .i64) .unit)) .nil) .nil)⟩, none)
    | _ => none) (fun _ => none) (fun _ _ => 0)
  | _ => {}
theorem ok13 : Abs.SpecOK Try.prog 13 sp13 :=
  Abs.specOK_of (n := 12) (an := an13) (T := Abs.tabOf []) good foll (Abs.tabOf_ok _ (fun _ h => by cases h)) rfl (by intro v; kernel_rfl)

/- (*pagewatch/pagewatchmade.Dice).One -/
def i14 : Abs.Sg := ⟨[0, 1], (.st (.ptr (0, 0) 2 0 0) (.dat (.row (.int .i64)) .nil)), (.box 2 (.dat (.cons (.row (.int .i64)) (.cons (.int .i64) .unit)) .nil) .nil)⟩
def o14 : Abs.Sg := ⟨[4], (.dat (.int .i64) .nil), (.box 2 (.dat (.cons (.row (.int .i64)) (.cons (.int .i64) .unit)) .nil) .nil)⟩
def m14 (v : (((List Int) × Unit) × ((((List Int) × Int × Unit) × Unit) × Unit))) : Option ((Int × Unit) × ((((List Int) × Int × Unit) × Unit) × Unit)) :=
(m13 (((v.1.1.length : Int), ()), ((v.2.1.1, ()), ()))).bind fun u4 =>
Abs.rowAt v.1.1 u4.1.1 fun e5 _ =>
some ((e5, ()), ((u4.2.1.1, ()), ()))
def sp14 : Abs.Spec := ⟨1, i14, o14, m14⟩
def an14 : Nat → Abs.FAn
  | _ => {}
theorem ok14 : Abs.SpecOK Try.prog 14 sp14 :=
  Abs.specOK_of (n := 12) (an := an14) (T := Abs.tabOf [(13, sp13)]) good foll (Abs.tabOf_ok _ (by simp only [List.forall_mem_cons]; exact ⟨ok13, fun _ h => by cases h⟩)) rfl (by intro v; kernel_rfl)

/- (*pagewatch/pagewatchmade.Dice).Target -/
def i15 : Abs.Sg := ⟨[0, 1], (.st (.ptr (0, 0) 2 0 0) (.dat (.cons (.row (.cons .str (.cons (.row (.int .i64)) .unit))) (.cons (.row (.cons .str (.cons (.row (.cons (.int .i64) (.cons .bool (.cons (.row (.cons (.int .i64) (.cons (.int .i64) .unit))) .unit)))) (.cons (.int .i64) .unit)))) .unit)) .nil)), (.box 2 (.dat (.cons (.row (.int .i64)) (.cons (.int .i64) .unit)) .nil) .nil)⟩
def o15 : Abs.Sg := ⟨[4], (.st (.ptr (1, 0) 2 0 0) .nil), (.box 2 (.dat (.cons (.row (.int .i64)) (.cons (.int .i64) .unit)) .nil) (.box 2 (.dat (.cons (.int .i64) (.cons (.int .i64) .unit)) .nil) .nil))⟩
def m15 (v : ((((List (ByteArray × (List Int) × Unit)) × (List (ByteArray × (List (Int × Bool × (List (Int × Int × Unit)) × Unit)) × Int × Unit)) × Unit) × Unit) × ((((List Int) × Int × Unit) × Unit) × Unit))) : Option ((Unit) × ((((List Int) × Int × Unit) × Unit) × ((Int × Int × Unit) × Unit) × Unit)) :=
(m13 ((3, ()), ((v.2.1.1, ()), ()))).bind fun u12 =>
((((bif ((u12.1.1 : Int) == 2) then (some (((((v.1.1.1.length : Int) : Int) == 0), (u12.1.1, ())), ((u12.2.1.1, ()), (((0, (0, ())), ()), ((v.1.1, ()), ())))))
else (some ((false, (u12.1.1, ())), ((u12.2.1.1, ()), (((0, (0, ())), ()), ((v.1.1, ()), ())))))) : Option ((Bool × Int × Unit) × ((((List Int) × Int × Unit) × Unit) × ((Int × Int × Unit) × Unit) × (((List (ByteArray × (List Int) × Unit)) × (List (ByteArray × (List (Int × Bool × (List (Int × Int × Unit)) × Unit)) × Int × Unit)) × Unit) × Unit) × Unit))).bind fun v13 =>
bif v13.1.1 then (some ((0, ()), ((v13.2.1.1, ()), ((v13.2.2.1.1, ()), ((v13.2.2.2.1.1, ()), ())))))
else (some ((v13.1.2.1, ()), ((v13.2.1.1, ()), ((v13.2.2.1.1, ()), ((v13.2.2.2.1.1, ()), ())))))) : Option ((Int × Unit) × ((((List Int) × Int × Unit) × Unit) × ((Int × Int × Unit) × Unit) × (((List (ByteArray × (List Int) × Unit)) × (List (ByteArray × (List (Int × Bool × (List (Int × Int × Unit)) × Unit)) × Int × Unit)) × Unit) × Unit) × Unit))).bind fun v14 =>
bif (decide ((0 : Int) ≤ v14.1.1 ∧ (v14.1.1 : Int) < [4, 2, (v14.2.2.2.1.1.1.length : Int)].length)) then
([4, 2, (v14.2.2.2.1.1.1.length : Int)][v14.1.1.toNat]?).bind fun e15 =>
(m13 ((e15, ()), ((v14.2.1.1, ()), ()))).bind fun u16 =>
some ((), ((u16.2.1.1, ()), (((v14.1.1, (u16.1.1, ())), ()), ())))
else none
def sp15 : Abs.Spec := ⟨1, i15, o15, m15⟩
def an15 : Nat → Abs.FAn
  | 0 => Abs.FAn.mk (fun
    | 2 => some ⟨[16, 4, 0, 3, 5], (.dat .bool (.st (.ptr (1, 0) 2 0 0) (.st (.ptr (0, 0) 2 0 0) (.st (.ptr (2, 0) 2 0 0) (.dat (.int .i64) .nil))))), (.box 2 (.dat (.cons (.row (.int .i64)) (.cons (.int .i64) .unit)) .nil) (.box 2 (.dat (.cons (.int .i64) (.cons (.int .i64) .unit)) .nil) (.box 2 (.dat (.cons (.row (.cons .str (.cons (.row (.int .i64)) .unit))) (.cons (.row (.cons .str (.cons (.row (.cons (.int .i64) (.cons .bool (.cons (.row (.cons (.int .i64) (.cons (.int .i64) .unit))) .unit)))) (.cons (.int .i64) .unit)))) .unit)) .nil) .nil)))⟩
    | _ => none) (fun
    | 4 => some (⟨[4, 0, 5, 3], (.st (.ptr (1, 0) 2 0 0) (.st (.ptr (0, 0) 2 0 0) (.dat (.int .i64) (.st (.ptr (2, 0) 2 0 0) .nil)))), (.box 2 (.dat (.cons (.row (.int .i64)) (.cons (.int .i64) .unit)) .nil) (.box 2 (.dat (.cons (.int .i64) (.cons (.int .i64) .unit)) .nil) (.box 2 (.dat (.cons (.row (.cons .str (.cons (.row (.int .i64)) .unit))) (.cons (.row (.cons .str (.cons (.row (.cons (.int .i64) (.cons .bool (.cons (.row (.cons (.int .i64) (.cons (.int .i64) .unit))) .unit)))) (.cons (.int .i64) .unit)))) .unit)) .nil) .nil)))⟩, none)
    | _ => none) (fun _ => none) (fun _ _ => 0)
  | _ => {}
theorem ok15 : Abs.SpecOK Try.prog 15 sp15 :=
  Abs.specOK_of (n := 12) (an := an15) (T := Abs.tabOf [(13, sp13)]) good foll (Abs.tabOf_ok _ (by simp only [List.forall_mem_cons]; exact ⟨ok13, fun _ h => by cases h⟩)) rfl (by intro v; kernel_rfl)

def l7_0_3 (v : ((Int × Unit) × ((((List Int) × Int × Unit) × Unit) × ((Unit) × Unit) × ((Unit) × Unit) × (List (ByteArray × (List Int) × Unit)) × Unit))) : Option (((Int × Unit) × ((((List Int) × Int × Unit) × Unit) × ((Unit) × Unit) × ((Unit) × Unit) × (List (ByteArray × (List Int) × Unit)) × Unit)) ⊕ ((Unit) × ((((List Int) × Int × Unit) × Unit) × ((Unit) × Unit) × ((Unit) × Unit) × (List (ByteArray × (List Int) × Unit)) × Unit))) :=
bif (decide ((v.1.1 : Int) > 0)) then (bif (decide ((0 : Int) ≤ ((v.2.2.2.2.1.length : Nat) : Int) ∧ (((v.2.2.2.2.1.length : Nat) : Int) : Int) < [(bs [99, 111, 114, 101]), (bs [119, 101, 98])].length)) then
([(bs [99, 111, 114, 101]), (bs [119, 101, 98])][((v.2.2.2.2.1.length : Nat) : Int).toNat]?).bind fun e451 =>
(m13 ((2, ()), ((v.2.1.1, ()), ()))).bind fun u452 =>
(((m13 ((2, ()), ((u452.2.1.1, ()), ()))).bind fun u453 =>
bif ((u453.1.1 : Int) == 0) then ((m13 ((2, ()), ((u453.2.1.1, ()), ()))).bind fun u454 =>
bif (decide ([u452.1.1].length + [(w64 (2 + u454.1.1))].length ≤ 4294967296)) then
some ((v.1.1, ()), ((u454.2.1.1, ()), (((), ()), (((), ()), (((e451, ()), ()), (v.2.2.2.2.1, (([u452.1.1] ++ [(w64 (2 + u454.1.1))]), ())))))))
else none)
else (some ((v.1.1, ()), ((u453.2.1.1, ()), (((), ()), (((), ()), (((e451, ()), ()), (v.2.2.2.2.1, ([u452.1.1], ()))))))))) : Option ((Int × Unit) × ((((List Int) × Int × Unit) × Unit) × ((Unit) × Unit) × ((Unit) × Unit) × ((ByteArray × Unit) × Unit) × (List (ByteArray × (List Int) × Unit)) × (List Int) × Unit))).bind fun v455 =>
bif (decide (v455.2.2.2.2.2.1.length + ([(v455.2.2.2.2.1.1.1, (v455.2.2.2.2.2.2.1, ()))] : List (ByteArray × (List Int) × Unit)).length ≤ 4294967296)) then
let x456 := (v455.2.2.2.2.2.1 ++ ([(v455.2.2.2.2.1.1.1, (v455.2.2.2.2.2.2.1, ()))] : List (ByteArray × (List Int) × Unit)))
some (.inl (((w64 (v455.1.1 - 1)), ()), ((v455.2.1.1, ()), (((), ()), (((), ()), (x456, ()))))))
else none
else none)
else (some (.inr ((), ((v.2.1.1, ()), (((), ()), (((), ()), (v.2.2.2.2.1, ())))))))

def l7_0_18 (v : ((Int × Int × Int × Unit) × ((((List Int) × Int × Unit) × Unit) × ((Int × Bool × Unit) × Unit) × ((Unit) × Unit) × ((ByteArray × Int × Unit) × Unit) × ((Unit) × Unit) × (List (Int × Int × Unit)) × (List (ByteArray × (List Int) × Unit)) × (List (ByteArray × (List (Int × Bool × (List (Int × Int × Unit)) × Unit)) × Int × Unit)) × (List (Int × Bool × (List (Int × Int × Unit)) × Unit)) × Unit))) : Option (((Int × Int × Int × Unit) × ((((List Int) × Int × Unit) × Unit) × ((Int × Bool × Unit) × Unit) × ((Unit) × Unit) × ((ByteArray × Int × Unit) × Unit) × ((Unit) × Unit) × (List (Int × Int × Unit)) × (List (ByteArray × (List Int) × Unit)) × (List (ByteArray × (List (Int × Bool × (List (Int × Int × Unit)) × Unit)) × Int × Unit)) × (List (Int × Bool × (List (Int × Int × Unit)) × Unit)) × Unit)) ⊕ ((Int × Int × Unit) × ((((List Int) × Int × Unit) × Unit) × ((Unit) × Unit) × ((ByteArray × Int × Unit) × Unit) × ((Unit) × Unit) × ((Int × Bool × Unit) × Unit) × (List (ByteArray × (List Int) × Unit)) × (List (ByteArray × (List (Int × Bool × (List (Int × Int × Unit)) × Unit)) × Int × Unit)) × (List (Int × Bool × (List (Int × Int × Unit)) × Unit)) × (List (Int × Int × Unit)) × Unit))) :=
bif (decide ((v.1.1 : Int) > 0)) then ((m15 (((v.2.2.2.2.2.2.2.1, (v.2.2.2.2.2.2.2.2.1, ())), ()), ((v.2.1.1, ()), ()))).bind fun u465 =>
bif (decide (v.2.2.2.2.2.2.1.length + ([u465.2.2.1.1] : List (Int × Int × Unit)).length ≤ 4294967296)) then
let x466 := (v.2.2.2.2.2.2.1 ++ ([u465.2.2.1.1] : List (Int × Int × Unit)))
some (.inl (((w64 (v.1.1 - 1)), (v.1.2.1, (v.1.2.2.1, ()))), ((u465.2.1.1, ()), (((v.2.2.1.1.1, (v.2.2.1.1.2.1, ())), ()), (((), ()), (((v.2.2.2.2.1.1.1, (v.2.2.2.2.1.1.2.1, ())), ()), (((), ()), (x466, (v.2.2.2.2.2.2.2.1, (v.2.2.2.2.2.2.2.2.1, (v.2.2.2.2.2.2.2.2.2.1, ())))))))))))
else none)
else (some (.inr ((v.1.2.1, (v.1.2.2.1, ())), ((v.2.1.1, ()), (((), ()), (((v.2.2.2.2.1.1.1, (v.2.2.2.2.1.1.2.1, ())), ()), (((), ()), (((v.2.2.1.1.1, (v.2.2.1.1.2.1, ())), ()), (v.2.2.2.2.2.2.2.1, (v.2.2.2.2.2.2.2.2.1, (v.2.2.2.2.2.2.2.2.2.1, (v.2.2.2.2.2.2.1, ()))))))))))))

def l7_0_14 (v : ((Int × Int × Unit) × ((((List Int) × Int × Unit) × Unit) × ((Unit) × Unit) × ((ByteArray × Int × Unit) × Unit) × ((Unit) × Unit) × (List (ByteArray × (List Int) × Unit)) × (List (ByteArray × (List (Int × Bool × (List (Int × Int × Unit)) × Unit)) × Int × Unit)) × (List (Int × Bool × (List (Int × Int × Unit)) × Unit)) × Unit))) : Option (((Int × Int × Unit) × ((((List Int) × Int × Unit) × Unit) × ((Unit) × Unit) × ((ByteArray × Int × Unit) × Unit) × ((Unit) × Unit) × (List (ByteArray × (List Int) × Unit)) × (List (ByteArray × (List (Int × Bool × (List (Int × Int × Unit)) × Unit)) × Int × Unit)) × (List (Int × Bool × (List (Int × Int × Unit)) × Unit)) × Unit)) ⊕ ((Int × Unit) × ((((List Int) × Int × Unit) × Unit) × ((Unit) × Unit) × ((Unit) × Unit) × ((ByteArray × Int × Unit) × Unit) × (List (ByteArray × (List Int) × Unit)) × (List (ByteArray × (List (Int × Bool × (List (Int × Int × Unit)) × Unit)) × Int × Unit)) × (List (Int × Bool × (List (Int × Int × Unit)) × Unit)) × Unit))) :=
bif (decide ((v.1.1 : Int) > 0)) then ((m14 (([0, 60, 300, 600, 900], ()), ((v.2.1.1, ()), ()))).bind fun u462 =>
(m13 ((2, ()), ((u462.2.1.1, ()), ()))).bind fun u463 =>
(m13 ((3, ()), ((u463.2.1.1, ()), ()))).bind fun u464 =>
(loopT l7_0_18 ((u464.1.1, (v.1.2.1, (v.1.1, ()))), ((u464.2.1.1, ()), (((u462.1.1, (((u463.1.1 : Int) == 0), ())), ()), (((), ()), (((v.2.2.2.1.1.1, (v.2.2.2.1.1.2.1, ())), ()), (((), ()), ([], (v.2.2.2.2.2.1, (v.2.2.2.2.2.2.1, (v.2.2.2.2.2.2.2.1, ()))))))))))).bind fun d467 =>
bif (decide (d467.2.2.2.2.2.2.2.2.1.length + ([(d467.2.2.2.2.2.1.1.1, (d467.2.2.2.2.2.1.1.2.1, (d467.2.2.2.2.2.2.2.2.2.1, ())))] : List (Int × Bool × (List (Int × Int × Unit)) × Unit)).length ≤ 4294967296)) then
let x468 := (d467.2.2.2.2.2.2.2.2.1 ++ ([(d467.2.2.2.2.2.1.1.1, (d467.2.2.2.2.2.1.1.2.1, (d467.2.2.2.2.2.2.2.2.2.1, ())))] : List (Int × Bool × (List (Int × Int × Unit)) × Unit)))
some (.inl (((w64 (d467.1.2.1 - 1)), (d467.1.1, ())), ((d467.2.1.1, ()), (((), ()), (((d467.2.2.2.1.1.1, (d467.2.2.2.1.1.2.1, ())), ()), (((), ()), (d467.2.2.2.2.2.2.1, (d467.2.2.2.2.2.2.2.1, (x468, ())))))))))
else none)
else (some (.inr ((v.1.2.1, ()), ((v.2.1.1, ()), (((), ()), (((), ()), (((v.2.2.2.1.1.1, (v.2.2.2.1.1.2.1, ())), ()), (v.2.2.2.2.2.1, (v.2.2.2.2.2.2.1, (v.2.2.2.2.2.2.2.1, ()))))))))))

def l7_0_10 (v : ((Int × Unit) × ((((List Int) × Int × Unit) × Unit) × ((Unit) × Unit) × ((Unit) × Unit) × (List (ByteArray × (List Int) × Unit)) × (List (ByteArray × (List (Int × Bool × (List (Int × Int × Unit)) × Unit)) × Int × Unit)) × Unit))) : Option (((Int × Unit) × ((((List Int) × Int × Unit) × Unit) × ((Unit) × Unit) × ((Unit) × Unit) × (List (ByteArray × (List Int) × Unit)) × (List (ByteArray × (List (Int × Bool × (List (Int × Int × Unit)) × Unit)) × Int × Unit)) × Unit)) ⊕ ((Unit) × ((((List Int) × Int × Unit) × Unit) × ((Unit) × Unit) × ((Unit) × Unit) × (List (ByteArray × (List Int) × Unit)) × (List (ByteArray × (List (Int × Bool × (List (Int × Int × Unit)) × Unit)) × Int × Unit)) × Unit))) :=
bif (decide ((v.1.1 : Int) > 0)) then (bif (decide ((0 : Int) ≤ ((v.2.2.2.2.2.1.length : Nat) : Int) ∧ (((v.2.2.2.2.2.1.length : Nat) : Int) : Int) < [(bs [112]), (bs [113]), (bs [114])].length)) then
([(bs [112]), (bs [113]), (bs [114])][((v.2.2.2.2.2.1.length : Nat) : Int).toNat]?).bind fun e459 =>
(m14 (([0, 0, 1, 2], ()), ((v.2.1.1, ()), ()))).bind fun u460 =>
(m13 ((3, ()), ((u460.2.1.1, ()), ()))).bind fun u461 =>
(loopT l7_0_14 (((w64 (1 + u461.1.1)), (v.1.1, ())), ((u461.2.1.1, ()), (((), ()), (((e459, (u460.1.1, ())), ()), (((), ()), (v.2.2.2.2.1, (v.2.2.2.2.2.1, ([], ()))))))))).bind fun d469 =>
bif (decide (d469.2.2.2.2.2.2.1.length + ([(d469.2.2.2.2.1.1.1, (d469.2.2.2.2.2.2.2.1, (d469.2.2.2.2.1.1.2.1, ())))] : List (ByteArray × (List (Int × Bool × (List (Int × Int × Unit)) × Unit)) × Int × Unit)).length ≤ 4294967296)) then
let x470 := (d469.2.2.2.2.2.2.1 ++ ([(d469.2.2.2.2.1.1.1, (d469.2.2.2.2.2.2.2.1, (d469.2.2.2.2.1.1.2.1, ())))] : List (ByteArray × (List (Int × Bool × (List (Int × Int × Unit)) × Unit)) × Int × Unit)))
some (.inl (((w64 (d469.1.1 - 1)), ()), ((d469.2.1.1, ()), (((), ()), (((), ()), (d469.2.2.2.2.2.1, (x470, ())))))))
else none
else none)
else (some (.inr ((), ((v.2.1.1, ()), (((), ()), (((), ()), (v.2.2.2.2.1, (v.2.2.2.2.2.1, ()))))))))

/- (*pagewatch/pagewatchmade.Dice).Book -/
def i7 : Abs.Sg := ⟨[0], (.st (.ptr (0, 0) 2 0 0) .nil), (.box 2 (.dat (.cons (.row (.int .i64)) (.cons (.int .i64) .unit)) .nil) .nil)⟩
def o7 : Abs.Sg := ⟨[2], (.st (.ptr (1, 0) 2 0 0) .nil), (.box 2 (.dat (.cons (.row (.int .i64)) (.cons (.int .i64) .unit)) .nil) (.box 2 (.agg (.st (.own (.cons .str (.cons (.row (.int .i64)) .unit)) (2, 0)) (.st (.own (.cons .str (.cons (.row (.cons (.int .i64) (.cons .bool (.cons (.row (.cons (.int .i64) (.cons (.int .i64) .unit))) .unit)))) (.cons (.int .i64) .unit))) (3, 0)) .nil)) .nil) (.arr (.cons .str (.cons (.row (.int .i64)) .unit)) true (.arr (.cons .str (.cons (.row (.cons (.int .i64) (.cons .bool (.cons (.row (.cons (.int .i64) (.cons (.int .i64) .unit))) .unit)))) (.cons (.int .i64) .unit))) true .nil))))⟩
def m7 (v : ((Unit) × ((((List Int) × Int × Unit) × Unit) × Unit))) : Option ((Unit) × ((((List Int) × Int × Unit) × Unit) × ((Unit) × Unit) × (List (ByteArray × (List Int) × Unit)) × (List (ByteArray × (List (Int × Bool × (List (Int × Int × Unit)) × Unit)) × Int × Unit)) × Unit)) :=
(m13 ((3, ()), ((v.2.1.1, ()), ()))).bind fun u450 =>
(loopT l7_0_3 ((u450.1.1, ()), ((u450.2.1.1, ()), (((), ()), (((), ()), ([], ())))))).bind fun d457 =>
(m13 ((3, ()), ((d457.2.1.1, ()), ()))).bind fun u458 =>
(loopT l7_0_10 (((w64 (1 + u458.1.1)), ()), ((u458.2.1.1, ()), (((), ()), (((), ()), (d457.2.2.2.2.1, ([], ()))))))).bind fun d471 =>
some ((), ((d471.2.1.1, ()), (((), ()), (d471.2.2.2.2.1, (d471.2.2.2.2.2.1, ())))))
def sp7 : Abs.Spec := ⟨1, i7, o7, m7⟩
def an7 : Nat → Abs.FAn
  | 0 => Abs.FAn.mk (fun _ => none) (fun
    | 8 => some (⟨[3, 0, 2, 4, 5], (.st (.ptr (1, 0) 2 0 0) (.st (.ptr (0, 0) 2 0 0) (.st (.ptr (2, 0) 2 0 0) (.dat (.int .i64) (.st (.ptr (3, 0) 2 0 0) .nil))))), (.box 2 (.dat (.cons (.row (.int .i64)) (.cons (.int .i64) .unit)) .nil) (.box 2 (.agg (.st (.own (.cons .str (.cons (.row (.int .i64)) .unit)) (4, 0)) (.st .nil .nil)) .nil) (.box 2 (.agg (.st .nil (.st .nil .nil)) .nil) (.box 2 (.agg (.dat .str (.st (.own (.int .i64) (5, 0)) .nil)) .nil) (.arr (.cons .str (.cons (.row (.int .i64)) .unit)) false (.arr (.int .i64) false .nil))))))⟩, none)
    | _ => none) (fun
    | 10 => some ⟨⟨[3, 0, 6, 2], (.st (.ptr (1, 0) 2 0 0) (.st (.ptr (0, 0) 2 0 0) (.dat (.int .i64) (.st (.ptr (2, 0) 2 0 0) .nil)))), (.box 2 (.dat (.cons (.row (.int .i64)) (.cons (.int .i64) .unit)) .nil) (.box 2 (.agg (.st (.own (.cons .str (.cons (.row (.int .i64)) .unit)) (3, 0)) (.st (.own (.cons .str (.cons (.row (.cons (.int .i64) (.cons .bool (.cons (.row (.cons (.int .i64) (.cons (.int .i64) .unit))) .unit)))) (.cons (.int .i64) .unit))) (4, 0)) .nil)) .nil) (.box 2 (.agg (.st .nil (.st .nil .nil)) .nil) (.arr (.cons .str (.cons (.row (.int .i64)) .unit)) true (.arr (.cons .str (.cons (.row (.cons (.int .i64) (.cons .bool (.cons (.row (.cons (.int .i64) (.cons (.int .i64) .unit))) .unit)))) (.cons (.int .i64) .unit))) true .nil)))))⟩, (.one (.exit 2) ⟨[2, 3], (.st (.ptr (1, 0) 2 0 0) (.st (.ptr (2, 0) 2 0 0) .nil)), (.box 2 (.dat (.cons (.row (.int .i64)) (.cons (.int .i64) .unit)) .nil) (.box 2 (.agg (.st .nil (.st .nil .nil)) .nil) (.box 2 (.agg (.st (.own (.cons .str (.cons (.row (.int .i64)) .unit)) (3, 0)) (.st (.own (.cons .str (.cons (.row (.cons (.int .i64) (.cons .bool (.cons (.row (.cons (.int .i64) (.cons (.int .i64) .unit))) .unit)))) (.cons (.int .i64) .unit))) (4, 0)) .nil)) .nil) (.arr (.cons .str (.cons (.row (.int .i64)) .unit)) true (.arr (.cons .str (.cons (.row (.cons (.int .i64) (.cons .bool (.cons (.row (.cons (.int .i64) (.cons (.int .i64) .unit))) .unit)))) (.cons (.int .i64) .unit))) true .nil)))))⟩)⟩
    | 14 => some ⟨⟨[3, 0, 8, 7, 2, 6], (.st (.ptr (1, 0) 2 0 0) (.st (.ptr (0, 0) 2 0 0) (.dat (.int .i64) (.st (.ptr (2, 0) 3 0 0) (.st (.ptr (3, 0) 2 0 0) (.dat (.int .i64) .nil)))))), (.box 2 (.dat (.cons (.row (.int .i64)) (.cons (.int .i64) .unit)) .nil) (.box 2 (.agg (.st (.own (.cons .str (.cons (.row (.int .i64)) .unit)) (4, 0)) (.st (.own (.cons .str (.cons (.row (.cons (.int .i64) (.cons .bool (.cons (.row (.cons (.int .i64) (.cons (.int .i64) .unit))) .unit)))) (.cons (.int .i64) .unit))) (5, 0)) .nil)) .nil) (.box 3 (.agg (.dat .str (.st (.own (.cons (.int .i64) (.cons .bool (.cons (.row (.cons (.int .i64) (.cons (.int .i64) .unit))) .unit))) (6, 0)) (.dat (.int .i64) .nil))) .nil) (.box 2 (.agg (.st .nil (.st .nil .nil)) .nil) (.arr (.cons .str (.cons (.row (.int .i64)) .unit)) true (.arr (.cons .str (.cons (.row (.cons (.int .i64) (.cons .bool (.cons (.row (.cons (.int .i64) (.cons (.int .i64) .unit))) .unit)))) (.cons (.int .i64) .unit))) true (.arr (.cons (.int .i64) (.cons .bool (.cons (.row (.cons (.int .i64) (.cons (.int .i64) .unit))) .unit))) false .nil)))))))⟩, (.one (.exit 4) ⟨[3, 0, 2, 6, 7], (.st (.ptr (1, 0) 2 0 0) (.st (.ptr (0, 0) 2 0 0) (.st (.ptr (2, 0) 2 0 0) (.dat (.int .i64) (.st (.ptr (3, 0) 3 0 0) .nil))))), (.box 2 (.dat (.cons (.row (.int .i64)) (.cons (.int .i64) .unit)) .nil) (.box 2 (.agg (.st (.own (.cons .str (.cons (.row (.int .i64)) .unit)) (4, 0)) (.st (.own (.cons .str (.cons (.row (.cons (.int .i64) (.cons .bool (.cons (.row (.cons (.int .i64) (.cons (.int .i64) .unit))) .unit)))) (.cons (.int .i64) .unit))) (5, 0)) .nil)) .nil) (.box 2 (.agg (.st .nil (.st .nil .nil)) .nil) (.box 3 (.agg (.dat .str (.st (.own (.cons (.int .i64) (.cons .bool (.cons (.row (.cons (.int .i64) (.cons (.int .i64) .unit))) .unit))) (6, 0)) (.dat (.int .i64) .nil))) .nil) (.arr (.cons .str (.cons (.row (.int .i64)) .unit)) true (.arr (.cons .str (.cons (.row (.cons (.int .i64) (.cons .bool (.cons (.row (.cons (.int .i64) (.cons (.int .i64) .unit))) .unit)))) (.cons (.int .i64) .unit))) true (.arr (.cons (.int .i64) (.cons .bool (.cons (.row (.cons (.int .i64) (.cons (.int .i64) .unit))) .unit))) false .nil)))))))⟩)⟩
    | 18 => some ⟨⟨[10, 9, 3, 0, 7, 2, 6, 8], (.dat (.int .i64) (.st (.ptr (1, 0) 3 0 0) (.st (.ptr (2, 0) 2 0 0) (.st (.ptr (0, 0) 2 0 0) (.st (.ptr (3, 0) 3 0 0) (.st (.ptr (4, 0) 2 0 0) (.dat (.int .i64) (.dat (.int .i64) .nil)))))))), (.box 2 (.dat (.cons (.row (.int .i64)) (.cons (.int .i64) .unit)) .nil) (.box 3 (.agg (.dat (.int .i64) (.dat .bool (.st (.own (.cons (.int .i64) (.cons (.int .i64) .unit)) (5, 0)) .nil))) .nil) (.box 2 (.agg (.st (.own (.cons .str (.cons (.row (.int .i64)) .unit)) (6, 0)) (.st (.own (.cons .str (.cons (.row (.cons (.int .i64) (.cons .bool (.cons (.row (.cons (.int .i64) (.cons (.int .i64) .unit))) .unit)))) (.cons (.int .i64) .unit))) (7, 0)) .nil)) .nil) (.box 3 (.agg (.dat .str (.st (.own (.cons (.int .i64) (.cons .bool (.cons (.row (.cons (.int .i64) (.cons (.int .i64) .unit))) .unit))) (8, 0)) (.dat (.int .i64) .nil))) .nil) (.box 2 (.agg (.st .nil (.st .nil .nil)) .nil) (.arr (.cons (.int .i64) (.cons (.int .i64) .unit)) false (.arr (.cons .str (.cons (.row (.int .i64)) .unit)) true (.arr (.cons .str (.cons (.row (.cons (.int .i64) (.cons .bool (.cons (.row (.cons (.int .i64) (.cons (.int .i64) .unit))) .unit)))) (.cons (.int .i64) .unit))) true (.arr (.cons (.int .i64) (.cons .bool (.cons (.row (.cons (.int .i64) (.cons (.int .i64) .unit))) .unit))) false .nil)))))))))⟩, (.one (.exit 6) ⟨[3, 0, 7, 2, 6, 8, 9], (.st (.ptr (1, 0) 2 0 0) (.st (.ptr (0, 0) 2 0 0) (.st (.ptr (2, 0) 3 0 0) (.st (.ptr (3, 0) 2 0 0) (.dat (.int .i64) (.dat (.int .i64) (.st (.ptr (4, 0) 3 0 0) .nil))))))), (.box 2 (.dat (.cons (.row (.int .i64)) (.cons (.int .i64) .unit)) .nil) (.box 2 (.agg (.st (.own (.cons .str (.cons (.row (.int .i64)) .unit)) (5, 0)) (.st (.own (.cons .str (.cons (.row (.cons (.int .i64) (.cons .bool (.cons (.row (.cons (.int .i64) (.cons (.int .i64) .unit))) .unit)))) (.cons (.int .i64) .unit))) (6, 0)) .nil)) .nil) (.box 3 (.agg (.dat .str (.st (.own (.cons (.int .i64) (.cons .bool (.cons (.row (.cons (.int .i64) (.cons (.int .i64) .unit))) .unit))) (7, 0)) (.dat (.int .i64) .nil))) .nil) (.box 2 (.agg (.st .nil (.st .nil .nil)) .nil) (.box 3 (.agg (.dat (.int .i64) (.dat .bool (.st (.own (.cons (.int .i64) (.cons (.int .i64) .unit)) (8, 0)) .nil))) .nil) (.arr (.cons .str (.cons (.row (.int .i64)) .unit)) true (.arr (.cons .str (.cons (.row (.cons (.int .i64) (.cons .bool (.cons (.row (.cons (.int .i64) (.cons (.int .i64) .unit))) .unit)))) (.cons (.int .i64) .unit))) true (.arr (.cons (.int .i64) (.cons .bool (.cons (.row (.cons (.int .i64) (.cons (.int .i64) .unit))) .unit))) false (.arr (.cons (.int .i64) (.cons (.int .i64) .unit)) false .nil)))))))))⟩)⟩
    | 3 => some ⟨⟨[4, 3, 0, 2], (.dat (.int .i64) (.st (.ptr (1, 0) 2 0 0) (.st (.ptr (0, 0) 2 0 0) (.st (.ptr (2, 0) 2 0 0) .nil)))), (.box 2 (.dat (.cons (.row (.int .i64)) (.cons (.int .i64) .unit)) .nil) (.box 2 (.agg (.st (.own (.cons .str (.cons (.row (.int .i64)) .unit)) (3, 0)) (.st .nil .nil)) .nil) (.box 2 (.agg (.st .nil (.st .nil .nil)) .nil) (.arr (.cons .str (.cons (.row (.int .i64)) .unit)) false .nil))))⟩, (.one (.exit 0) ⟨[3, 0, 2], (.st (.ptr (1, 0) 2 0 0) (.st (.ptr (0, 0) 2 0 0) (.st (.ptr (2, 0) 2 0 0) .nil))), (.box 2 (.dat (.cons (.row (.int .i64)) (.cons (.int .i64) .unit)) .nil) (.box 2 (.agg (.st (.own (.cons .str (.cons (.row (.int .i64)) .unit)) (3, 0)) (.st .nil .nil)) .nil) (.box 2 (.agg (.st .nil (.st .nil .nil)) .nil) (.arr (.cons .str (.cons (.row (.int .i64)) .unit)) false .nil))))⟩)⟩
    | _ => none) (fun _ _ => 0)
  | _ => {}
theorem ok7 : Abs.SpecOK Try.prog 7 sp7 :=
  Abs.specOK_of (n := 12) (an := an7) (T := Abs.tabOf [(13, sp13), (14, sp14), (15, sp15)]) good foll (Abs.tabOf_ok _ (by simp only [List.forall_mem_cons]; exact ⟨ok13, ok14, ok15, fun _ h => by cases h⟩)) rfl (by intro v; kernel_rfl)

/- pagewatch/bound.Worst -/
def i9 : Abs.Sg := ⟨[0], (.dat (.cons .str (.cons (.row (.cons (.int .i64) (.cons .bool (.cons (.row (.cons (.int .i64) (.cons (.int .i64) .unit))) .unit)))) (.cons (.int .i64) .unit))) .nil), .nil⟩
def o9 : Abs.Sg := ⟨[2], (.dat (.int .i64) .nil), .nil⟩
def m9 (v : (((ByteArray × (List (Int × Bool × (List (Int × Int × Unit)) × Unit)) × Int × Unit) × Unit) × (Unit))) : Option ((Int × Unit) × (Unit)) :=
(m17 ((v.1.1, (0, ())), ())).bind fun u15 =>
((bif (!u15.1.2.1) then (some ((true, ()), ((v.1.1, ()), ())))
else ((m18 ((v.1.1, ()), ())).bind fun u16 =>
some ((((u16.1.1 : Int) == 0), ()), ((v.1.1, ()), ())))) : Option ((Bool × Unit) × (((ByteArray × (List (Int × Bool × (List (Int × Int × Unit)) × Unit)) × Int × Unit) × Unit) × Unit))).bind fun v17 =>
bif v17.1.1 then (some ((0, ()), ()))
else ((m16 ((v17.2.1.1, ()), ())).bind fun u18 =>
(m19 (([u18.1.1, 345600, 2400], ()), ())).bind fun u19 =>
some ((u19.1.1, ()), ()))
def sp9 : Abs.Spec := ⟨0, i9, o9, m9⟩
def an9 : Nat → Abs.FAn
  | 0 => Abs.FAn.mk (fun
    | 2 => some ⟨[16, 1], (.dat .bool (.st (.ptr (0, 0) 3 0 0) .nil)), (.box 3 (.dat (.cons .str (.cons (.row (.cons (.int .i64) (.cons .bool (.cons (.row (.cons (.int .i64) (.cons (.int .i64) .unit))) .unit)))) (.cons (.int .i64) .unit))) .nil) .nil)⟩
    | _ => none) (fun _ => none) (fun _ => none) (fun _ _ => 0)
  | _ => {}
theorem ok9 : Abs.SpecOK Try.prog 9 sp9 :=
  Abs.specOK_of (n := 12) (an := an9) (T := Abs.tabOf [(17, sp17), (18, sp18), (16, sp16), (19, sp19)]) good foll (Abs.tabOf_ok _ (by simp only [List.forall_mem_cons]; exact ⟨ok17, ok18, ok16, ok19, fun _ h => by cases h⟩)) rfl (by intro v; kernel_rfl)

/- pagewatch/pagewatchref25.Count -/
def i21 : Abs.Sg := ⟨[0], (.dat (.cons .str (.cons (.row (.cons (.int .i64) (.cons .bool (.cons (.row (.cons (.int .i64) (.cons (.int .i64) .unit))) .unit)))) (.cons (.int .i64) .unit))) .nil), .nil⟩
def o21 : Abs.Sg := ⟨[2], (.dat (.int .i64) .nil), .nil⟩
def m21 (v : (((ByteArray × (List (Int × Bool × (List (Int × Int × Unit)) × Unit)) × Int × Unit) × Unit) × (Unit))) : Option ((Int × Unit) × (Unit)) :=
(((m22 ((v.1.1.2.2.1, (0, (8, ()))), ())).bind fun u9 =>
bif (!u9.1.1) then (some ((true, ()), ((v.1.1, ()), ())))
else (some (((decide (((v.1.1.2.1.length : Int) : Int) > 8)), ()), ((v.1.1, ()), ())))) : Option ((Bool × Unit) × (((ByteArray × (List (Int × Bool × (List (Int × Int × Unit)) × Unit)) × Int × Unit) × Unit) × Unit))).bind fun v10 =>
bif v10.1.1 then (some ((0, ()), ()))
else (let x11 := (w64 ((v10.2.1.1.2.1.length : Int) * (w64 (v10.2.1.1.2.2.1 + 1))))
some ((x11, ()), ()))
def sp21 : Abs.Spec := ⟨0, i21, o21, m21⟩
def an21 : Nat → Abs.FAn
  | 0 => Abs.FAn.mk (fun
    | 1 => some ⟨[12, 1], (.dat .bool (.st (.ptr (0, 0) 3 0 0) .nil)), (.box 3 (.dat (.cons .str (.cons (.row (.cons (.int .i64) (.cons .bool (.cons (.row (.cons (.int .i64) (.cons (.int .i64) .unit))) .unit)))) (.cons (.int .i64) .unit))) .nil) .nil)⟩
    | _ => none) (fun _ => none) (fun _ => none) (fun _ _ => 0)
  | _ => {}
theorem ok21 : Abs.SpecOK Try.prog 21 sp21 :=
  Abs.specOK_of (n := 12) (an := an21) (T := Abs.tabOf [(22, sp22)]) good foll (Abs.tabOf_ok _ (by simp only [List.forall_mem_cons]; exact ⟨ok22, fun _ h => by cases h⟩)) rfl (by intro v; kernel_rfl)

def l27_0_2 (v : ((Int × Unit) × (((ByteArray × (List (Int × Bool × (List (Int × Int × Unit)) × Unit)) × Int × Unit) × Unit) × Unit))) : Option (((Int × Unit) × (((ByteArray × (List (Int × Bool × (List (Int × Int × Unit)) × Unit)) × Int × Unit) × Unit) × Unit)) ⊕ (((Bool × Unit) × (Unit)) ⊕ ((Unit) × (Unit)))) :=
let x24 := (decide ((v.1.1 : Int) < (v.2.1.1.2.1.length : Int)))
bif x24 then (Abs.rowAt v.2.1.1.2.1 v.1.1 fun e25 _ =>
(m22 ((e25.1, (0, (86400, ()))), ())).bind fun u26 =>
bif (!u26.1.1) then (some (.inr (.inl ((false, ()), ()))))
else (some (.inl (((w64 (v.1.1 + 1)), ()), ((v.2.1.1, ()), ())))))
else (some (.inr (.inr ((), ()))))

/- pagewatch/pagewatchref25.Waits -/
def i27 : Abs.Sg := ⟨[0], (.dat (.cons .str (.cons (.row (.cons (.int .i64) (.cons .bool (.cons (.row (.cons (.int .i64) (.cons (.int .i64) .unit))) .unit)))) (.cons (.int .i64) .unit))) .nil), .nil⟩
def o27 : Abs.Sg := ⟨[2], (.dat .bool .nil), .nil⟩
def m27 (v : (((ByteArray × (List (Int × Bool × (List (Int × Int × Unit)) × Unit)) × Int × Unit) × Unit) × (Unit))) : Option ((Bool × Unit) × (Unit)) :=
(loopT l27_0_2 ((0, ()), ((v.1.1, ()), ()))).bind fun d27 =>
sumE d27 (fun d28 => (some ((d28.1.1, ()), ()))) (fun d29 => (some ((true, ()), ())))
def sp27 : Abs.Spec := ⟨0, i27, o27, m27⟩
def an27 : Nat → Abs.FAn
  | 0 => Abs.FAn.mk (fun _ => none) (fun _ => none) (fun
    | 2 => some ⟨⟨[3, 1], (.dat (.int .i64) (.st (.ptr (0, 0) 3 0 0) .nil)), (.box 3 (.dat (.cons .str (.cons (.row (.cons (.int .i64) (.cons .bool (.cons (.row (.cons (.int .i64) (.cons (.int .i64) .unit))) .unit)))) (.cons (.int .i64) .unit))) .nil) .nil)⟩, (.more .ret ⟨[2], (.dat .bool .nil), .nil⟩ (.one (.exit 0) ⟨[], .nil, .nil⟩))⟩
    | _ => none) (fun _ _ => 0)
  | _ => {}
theorem ok27 : Abs.SpecOK Try.prog 27 sp27 :=
  Abs.specOK_of (n := 12) (an := an27) (T := Abs.tabOf [(22, sp22)]) good foll (Abs.tabOf_ok _ (by simp only [List.forall_mem_cons]; exact ⟨ok22, fun _ h => by cases h⟩)) rfl (by intro v; kernel_rfl)

def l20_0_5 (v : ((Int × Int × Int × Unit) × (((ByteArray × (List (Int × Bool × (List (Int × Int × Unit)) × Unit)) × Int × Unit) × Unit) × Unit))) : Option (((Int × Int × Int × Unit) × (((ByteArray × (List (Int × Bool × (List (Int × Int × Unit)) × Unit)) × Int × Unit) × Unit) × Unit)) ⊕ ((Int × Unit) × (Unit))) :=
bif (decide ((v.1.1 : Int) < v.1.2.2.1)) then (bif (decide ((v.2.1.1.2.1.length : Int) ≠ (0 : Int))) then
Abs.rowAt v.2.1.1.2.1 ((v.1.1 : Int).tmod (v.2.1.1.2.1.length : Int)) fun e25 _ =>
some (.inl (((w64 (v.1.1 + 1)), ((w64 (v.1.2.1 + e25.1)), (v.1.2.2.1, ()))), ((v.2.1.1, ()), ())))
else none)
else (some (.inr ((v.1.2.1, ()), ())))

/- pagewatch/pagewatchref25.Offset -/
def i20 : Abs.Sg := ⟨[0, 1], (.dat (.cons .str (.cons (.row (.cons (.int .i64) (.cons .bool (.cons (.row (.cons (.int .i64) (.cons (.int .i64) .unit))) .unit)))) (.cons (.int .i64) .unit))) (.dat (.int .i64) .nil)), .nil⟩
def o20 : Abs.Sg := ⟨[4, 5], (.dat (.int .i64) (.dat .bool .nil)), .nil⟩
def m20 (v : (((ByteArray × (List (Int × Bool × (List (Int × Int × Unit)) × Unit)) × Int × Unit) × Int × Unit) × (Unit))) : Option ((Int × Bool × Unit) × (Unit)) :=
((bif (decide ((v.1.2.1 : Int) < 0)) then (some ((true, (v.1.2.1, ())), ((v.1.1, ()), ())))
else ((m21 ((v.1.1, ()), ())).bind fun u22 =>
bif (decide ((v.1.2.1 : Int) > u22.1.1)) then (some ((true, (v.1.2.1, ())), ((v.1.1, ()), ())))
else ((m27 ((v.1.1, ()), ())).bind fun u23 =>
some (((!u23.1.1), (v.1.2.1, ())), ((v.1.1, ()), ()))))) : Option ((Bool × Int × Unit) × (((ByteArray × (List (Int × Bool × (List (Int × Int × Unit)) × Unit)) × Int × Unit) × Unit) × Unit))).bind fun v24 =>
bif v24.1.1 then (some ((0, (false, ())), ()))
else ((loopT l20_0_5 ((0, (0, (v24.1.2.1, ()))), ((v24.2.1.1, ()), ()))).bind fun d26 =>
some ((d26.1.1, (true, ())), ()))
def sp20 : Abs.Spec := ⟨0, i20, o20, m20⟩
def an20 : Nat → Abs.FAn
  | 0 => Abs.FAn.mk (fun
    | 1 => some ⟨[20, 2, 1], (.dat .bool (.st (.ptr (0, 0) 3 0 0) (.dat (.int .i64) .nil))), (.box 3 (.dat (.cons .str (.cons (.row (.cons (.int .i64) (.cons .bool (.cons (.row (.cons (.int .i64) (.cons (.int .i64) .unit))) .unit)))) (.cons (.int .i64) .unit))) .nil) .nil)⟩
    | _ => none) (fun _ => none) (fun
    | 5 => some ⟨⟨[7, 2, 6, 1], (.dat (.int .i64) (.st (.ptr (0, 0) 3 0 0) (.dat (.int .i64) (.dat (.int .i64) .nil)))), (.box 3 (.dat (.cons .str (.cons (.row (.cons (.int .i64) (.cons .bool (.cons (.row (.cons (.int .i64) (.cons (.int .i64) .unit))) .unit)))) (.cons (.int .i64) .unit))) .nil) .nil)⟩, (.one (.exit 0) ⟨[6], (.dat (.int .i64) .nil), .nil⟩)⟩
    | _ => none) (fun _ _ => 0)
  | _ => {}
theorem ok20 : Abs.SpecOK Try.prog 20 sp20 :=
  Abs.specOK_of (n := 12) (an := an20) (T := Abs.tabOf [(21, sp21), (27, sp27)]) good foll (Abs.tabOf_ok _ (by simp only [List.forall_mem_cons]; exact ⟨ok21, ok27, fun _ h => by cases h⟩)) rfl (by intro v; kernel_rfl)

/- pagewatch/pagewatchref25.End -/
def i10 : Abs.Sg := ⟨[0], (.dat (.cons .str (.cons (.row (.cons (.int .i64) (.cons .bool (.cons (.row (.cons (.int .i64) (.cons (.int .i64) .unit))) .unit)))) (.cons (.int .i64) .unit))) .nil), .nil⟩
def o10 : Abs.Sg := ⟨[2], (.dat (.int .i64) .nil), .nil⟩
def m10 (v : (((ByteArray × (List (Int × Bool × (List (Int × Int × Unit)) × Unit)) × Int × Unit) × Unit) × (Unit))) : Option ((Int × Unit) × (Unit)) :=
(m21 ((v.1.1, ()), ())).bind fun u6 =>
(m20 ((v.1.1, (u6.1.1, ())), ())).bind fun u7 =>
some ((u7.1.1, ()), ())
def sp10 : Abs.Spec := ⟨0, i10, o10, m10⟩
def an10 : Nat → Abs.FAn
  | _ => {}
theorem ok10 : Abs.SpecOK Try.prog 10 sp10 :=
  Abs.specOK_of (n := 12) (an := an10) (T := Abs.tabOf [(21, sp21), (20, sp20)]) good foll (Abs.tabOf_ok _ (by simp only [List.forall_mem_cons]; exact ⟨ok21, ok20, fun _ h => by cases h⟩)) rfl (by intro v; kernel_rfl)

def l3_0_8 (v : ((Int × Int × (List (Int × Bool × (List (Int × Int × Unit)) × Unit)) × Int × Int × Int × Unit) × (((ByteArray × (List (Int × Bool × (List (Int × Int × Unit)) × Unit)) × Int × Unit) × Unit) × (List (ByteArray × (List (Int × Bool × (List (Int × Int × Unit)) × Unit)) × Int × Unit)) × Unit))) : Option (((Int × Int × (List (Int × Bool × (List (Int × Int × Unit)) × Unit)) × Int × Int × Int × Unit) × (((ByteArray × (List (Int × Bool × (List (Int × Int × Unit)) × Unit)) × Int × Unit) × Unit) × (List (ByteArray × (List (Int × Bool × (List (Int × Int × Unit)) × Unit)) × Int × Unit)) × Unit)) ⊕ ((Int × Int × Int × Unit) × ((List (ByteArray × (List (Int × Bool × (List (Int × Int × Unit)) × Unit)) × Int × Unit)) × ((ByteArray × (List (Int × Bool × (List (Int × Int × Unit)) × Unit)) × Int × Unit) × Unit) × Unit))) :=
bif (decide ((v.1.1 : Int) < v.1.2.2.2.2.2.1)) then (Abs.rowAt v.1.2.2.1 v.1.1 fun e89 _ =>
let x90 := (w64 (v.1.2.1 + (w64 (e89.1 * (w64 (v.2.1.1.2.2.1 + 1))))))
some (.inl (((w64 (v.1.1 + 1)), (x90, (v.1.2.2.1, (v.1.2.2.2.1, (v.1.2.2.2.2.1, (v.1.2.2.2.2.2.1, ())))))), ((v.2.1.1, ()), (v.2.2.1, ())))))
else (some (.inr ((v.1.2.2.2.1, (v.1.2.2.2.2.1, (v.1.2.1, ()))), (v.2.2.1, ((v.2.1.1, ()), ())))))

def l3_0_4 (v : ((Int × Int × Unit) × ((List (ByteArray × (List (Int × Bool × (List (Int × Int × Unit)) × Unit)) × Int × Unit)) × Unit))) : Option (((Int × Int × Unit) × ((List (ByteArray × (List (Int × Bool × (List (Int × Int × Unit)) × Unit)) × Int × Unit)) × Unit)) ⊕ (((Bool × Unit) × (Unit)) ⊕ ((Unit) × (Unit)))) :=
bif (decide ((v.1.1 : Int) < v.1.2.1)) then (bif (decide ((0 : Int) ≤ v.1.1 ∧ (v.1.1 : Int) < v.2.1.length)) then
(v.2.1[v.1.1.toNat]?).bind fun e88 =>
(loopT l3_0_8 ((0, (0, (e88.2.1, (v.1.2.1, (v.1.1, ((e88.2.1.length : Int), ())))))), ((e88, ()), (v.2.1, ())))).bind fun d91 =>
(((m8 ((d91.2.2.1.1, ()), ())).bind fun u92 =>
bif ((u92.1.1 : Int) != d91.1.2.2.1) then (some ((true, (d91.1.1, (d91.1.2.1, ()))), (d91.2.1, ())))
else ((m9 ((d91.2.2.1.1, ()), ())).bind fun u93 =>
let x94 := ((u93.1.1 : Int) != (w64 ((w64 (d91.1.2.2.1 + 345600)) + 2400)))
bif x94 then (some ((true, (d91.1.1, (d91.1.2.1, ()))), (d91.2.1, ())))
else ((m10 ((d91.2.2.1.1, ()), ())).bind fun u95 =>
some ((((u95.1.1 : Int) != d91.1.2.2.1), (d91.1.1, (d91.1.2.1, ()))), (d91.2.1, ()))))) : Option ((Bool × Int × Int × Unit) × ((List (ByteArray × (List (Int × Bool × (List (Int × Int × Unit)) × Unit)) × Int × Unit)) × Unit))).bind fun v96 =>
bif v96.1.1 then (some (.inr (.inl ((false, ()), ()))))
else (some (.inl (((w64 (v96.1.2.2.1 + 1)), (v96.1.2.1, ())), (v96.2.1, ()))))
else none)
else (some (.inr (.inr ((), ()))))

/- pagewatch/pagewatchlaw30.BoundPolicies -/
def i3 : Abs.Sg := ⟨[0], (.dat (.row (.int .i64)) .nil), .nil⟩
def o3 : Abs.Sg := ⟨[2], (.dat .bool .nil), .nil⟩
def m3 (v : (((List Int) × Unit) × (Unit))) : Option ((Bool × Unit) × (Unit)) :=
(m4 ((v.1.1, ()), ())).bind fun u84 =>
bif (!u84.1.1) then ((m5 ((), ())).bind fun u85 =>
some ((u85.1.1, ()), ()))
else ((m6 ((v.1.1, ()), ())).bind fun u86 =>
(m7 ((), ((u86.2.1.1, ()), ()))).bind fun u87 =>
(loopT l3_0_4 ((0, (((u87.2.2.2.2.1.length : Nat) : Int), ())), (u87.2.2.2.2.1, ()))).bind fun d97 =>
sumE d97 (fun d98 => (some ((d98.1.1, ()), ()))) (fun d99 => ((m5 ((), ())).bind fun u100 =>
some ((u100.1.1, ()), ()))))
def sp3 : Abs.Spec := ⟨0, i3, o3, m3⟩
def an3 : Nat → Abs.FAn
  | 0 => Abs.FAn.mk (fun
    | 12 => some ⟨[54, 15, 16, 17], (.dat .bool (.st (.own (.cons .str (.cons (.row (.cons (.int .i64) (.cons .bool (.cons (.row (.cons (.int .i64) (.cons (.int .i64) .unit))) .unit)))) (.cons (.int .i64) .unit))) (0, 0)) (.dat (.int .i64) (.dat (.int .i64) .nil)))), (.arr (.cons .str (.cons (.row (.cons (.int .i64) (.cons .bool (.cons (.row (.cons (.int .i64) (.cons (.int .i64) .unit))) .unit)))) (.cons (.int .i64) .unit))) true .nil)⟩
    | _ => none) (fun _ => none) (fun
    | 4 => some ⟨⟨[17, 15, 16], (.dat (.int .i64) (.st (.own (.cons .str (.cons (.row (.cons (.int .i64) (.cons .bool (.cons (.row (.cons (.int .i64) (.cons (.int .i64) .unit))) .unit)))) (.cons (.int .i64) .unit))) (0, 0)) (.dat (.int .i64) .nil))), (.arr (.cons .str (.cons (.row (.cons (.int .i64) (.cons .bool (.cons (.row (.cons (.int .i64) (.cons (.int .i64) .unit))) .unit)))) (.cons (.int .i64) .unit))) true .nil)⟩, (.more .ret ⟨[2], (.dat .bool .nil), .nil⟩ (.one (.exit 0) ⟨[], .nil, .nil⟩))⟩
    | 8 => some ⟨⟨[24, 4, 5, 22, 15, 16, 17, 23], (.dat (.int .i64) (.st (.ptr (0, 0) 3 0 0) (.dat (.int .i64) (.dat (.row (.cons (.int .i64) (.cons .bool (.cons (.row (.cons (.int .i64) (.cons (.int .i64) .unit))) .unit)))) (.st (.own (.cons .str (.cons (.row (.cons (.int .i64) (.cons .bool (.cons (.row (.cons (.int .i64) (.cons (.int .i64) .unit))) .unit)))) (.cons (.int .i64) .unit))) (1, 0)) (.dat (.int .i64) (.dat (.int .i64) (.dat (.int .i64) .nil)))))))), (.box 3 (.dat (.cons .str (.cons (.row (.cons (.int .i64) (.cons .bool (.cons (.row (.cons (.int .i64) (.cons (.int .i64) .unit))) .unit)))) (.cons (.int .i64) .unit))) .nil) (.arr (.cons .str (.cons (.row (.cons (.int .i64) (.cons .bool (.cons (.row (.cons (.int .i64) (.cons (.int .i64) .unit))) .unit)))) (.cons (.int .i64) .unit))) true .nil))⟩, (.one (.exit 2) ⟨[15, 16, 17, 5, 4], (.st (.own (.cons .str (.cons (.row (.cons (.int .i64) (.cons .bool (.cons (.row (.cons (.int .i64) (.cons (.int .i64) .unit))) .unit)))) (.cons (.int .i64) .unit))) (0, 0)) (.dat (.int .i64) (.dat (.int .i64) (.dat (.int .i64) (.st (.ptr (1, 0) 3 0 0) .nil))))), (.arr (.cons .str (.cons (.row (.cons (.int .i64) (.cons .bool (.cons (.row (.cons (.int .i64) (.cons (.int .i64) .unit))) .unit)))) (.cons (.int .i64) .unit))) true (.box 3 (.dat (.cons .str (.cons (.row (.cons (.int .i64) (.cons .bool (.cons (.row (.cons (.int .i64) (.cons (.int .i64) .unit))) .unit)))) (.cons (.int .i64) .unit))) .nil) .nil))⟩)⟩
    | _ => none) (fun _ _ => 0)
  | _ => {}
theorem ok3 : Abs.SpecOK Try.prog 3 sp3 :=
  Abs.specOK_of (n := 12) (an := an3) (T := Abs.tabOf [(4, sp4), (5, sp5), (6, sp6), (7, sp7), (8, sp8), (9, sp9), (10, sp10)]) good foll (Abs.tabOf_ok _ (by simp only [List.forall_mem_cons]; exact ⟨ok4, ok5, ok6, ok7, ok8, ok9, ok10, fun _ h => by cases h⟩)) rfl (by intro v; kernel_rfl)

end
end Go.Proofs.Ytcelhemfoehedaa
