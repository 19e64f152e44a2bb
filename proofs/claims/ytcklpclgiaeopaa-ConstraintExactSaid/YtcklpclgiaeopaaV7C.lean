/- Lemmas for the statement of the last text of this claim. -/
import Derived.Test.YtcklpclgiaeopaaPxK
import Derived.Test.YtcklpclgiaeopaaPxQ
import Derived.Test.YtcklpclgiaeopaaChecked
import Derived.ProofKit
import Derived.WalkKit
import Derived.BigCall
import Derived.Deep.LoopGhost
import Derived.Deep.OwnRows
import Derived.Test.YtcklpclgiaeopaaPxR
import Derived.Deep.AppendLies
import Derived.Laws.OwnMore
import Derived.BigQuiet
import Derived.Test.YtcklpclgiaeopaaV7B
set_option linter.unusedSimpArgs false
set_option linter.unusedVariables false
namespace Go.Proofs.Ytcklpclgiaeopaa
open Go Go.Abs
noncomputable section
abbrev Z1 : Abs.Ty := (.cons (.int .i64) (.cons (.int .i64) (.cons (.int .i64) .unit)))

abbrev Z3 : Abs.Ty := (.cons (.row (.int .i64)) (.cons (.int .i64) .unit))

abbrev Y4 : Type := (((List Int) × Int × Unit) × Unit)

abbrev Y5 : Type := (Int × Int × Int × Unit)

abbrev Y2 : Type := (List Y5)

abbrev Y6 : Type := ((Bool × Unit) × (Unit))

def note : FuncId → Abs.Note
  | 2 => ⟨true, [], false, fun _ => []⟩
  | 3 => ⟨true, [0, 1, 4, 5, 6, 7, 8, 9, 10, 11, 12, 13, 14, 15, 16, 17, 20, 58, 59, 60, 90, 96, 101, 157], false, fun _ => []⟩
  | 4 => ⟨true, [0, 2, 3, 4, 5, 6, 7, 8, 9, 10, 11, 12, 13, 14, 17, 34, 54, 57, 76, 81, 97, 102, 147, 175, 196], false, fun _ => []⟩
  | 5 => ⟨true, [0, 2, 3, 4, 5, 6, 7, 8, 9, 10, 11, 12, 13, 14, 17, 26, 38, 56, 116, 119, 130], false, fun | 15 => [(3, 7)] | 20 => [(6, 13), (10, 13)] | _ => []⟩
  | 6 => ⟨true, [0, 2, 3, 4, 5, 6, 7, 8, 9, 10, 12, 13, 14, 15, 16, 17, 18, 19, 20, 23, 43, 50, 51, 52, 53, 64, 105, 119, 121, 122, 123, 140], false, fun | 20 => [(2, 3), (2, 4)] | _ => []⟩
  | 7 => ⟨true, [0, 1, 2, 3, 4, 9, 10, 11, 12, 13, 14, 15, 17, 19, 20, 21, 22, 23, 24, 25, 26, 27, 28, 29, 30, 32, 45, 59, 90, 91, 92, 93, 101, 102, 103, 104, 108, 171, 205, 224, 225, 226, 227, 238, 259], false, fun | 9 => [(8, 14), (9, 14), (6, 15), (8, 15), (9, 15)] | 34 => [(3, 6), (13, 16)] | _ => []⟩
  | 8 => ⟨true, [0, 2], false, fun _ => []⟩
  | 9 => ⟨true, [0, 1, 2, 3, 4], false, fun _ => []⟩
  | 10 => ⟨true, [0, 2], false, fun _ => []⟩
  | 11 => ⟨true, [0, 1, 4, 5, 19, 40], false, fun _ => []⟩
  | 12 => ⟨true, [0, 1, 4, 5, 6, 7, 8, 9, 10, 13, 24, 53], false, fun | 11 => [(6, 13), (10, 13)] | _ => []⟩
  | 13 => ⟨true, [0, 1, 4, 5, 6, 7, 8, 9, 10, 11, 15, 19, 20, 21, 38, 39, 40, 42, 43, 44, 46, 47, 48, 67, 106, 108, 109, 110, 119], false, fun _ => []⟩
  | 14 => ⟨true, [0, 1, 4, 5, 7, 8, 9, 10, 11, 12, 13, 14, 15, 28, 37, 38, 39, 40, 41, 42, 44, 45, 46, 74, 98, 99, 100, 114], false, fun | 5 => [(1, 3)] | _ => []⟩
  | 15 => ⟨true, [0, 1, 2, 6, 7, 8, 9, 10, 11, 20, 24, 44, 48, 89, 96], false, fun _ => []⟩
  | 16 => ⟨true, [0, 1, 2, 5, 6, 20], false, fun _ => []⟩
  | 17 => ⟨true, [0, 1, 4, 5, 6, 7, 8, 9, 17, 18, 19, 20, 28], false, fun _ => []⟩
  | 18 => ⟨true, [0, 1, 3, 4, 6, 7, 8, 9, 10, 11, 12, 20, 25, 26, 27, 34, 35, 36, 37, 49], false, fun | 16 => [(2, 3)] | _ => []⟩
  | 19 => ⟨true, [0, 1, 2, 5, 6, 7, 8], false, fun _ => []⟩
  | 20 => ⟨true, [0, 1, 4, 5, 10, 12, 13, 14, 25], false, fun _ => []⟩
  | 21 => ⟨true, [0, 1, 4], false, fun _ => []⟩
  | 22 => ⟨true, [0, 1, 4, 5, 6, 7, 8, 9, 10, 11, 12, 13, 14, 18, 21, 26, 42, 98, 101, 106, 111, 131, 163, 173], false, fun _ => []⟩
  | 23 => ⟨true, [0, 1, 4, 5, 6, 7, 8, 9, 17, 20, 29], false, fun _ => []⟩
  | 24 => ⟨true, [0, 1, 2, 4, 12], false, fun _ => []⟩
  | 25 => ⟨true, [0, 1, 4, 5, 13, 17, 48], false, fun _ => []⟩
  | 26 => ⟨true, [0, 1, 4, 5, 10, 14, 25], false, fun _ => []⟩
  | 27 => ⟨true, [0, 1, 4, 6, 7, 8, 9, 10, 11, 12, 20, 27, 33, 45, 66, 73], false, fun _ => []⟩
  | 28 => ⟨true, [0, 1, 2, 6, 7, 8, 18, 21, 29, 33, 58], false, fun _ => []⟩
  | 29 => ⟨true, [0, 1, 2, 5, 6, 7, 8], false, fun _ => []⟩
  | 30 => ⟨true, [0, 1, 4, 5, 6, 7, 9, 13, 14, 15, 26, 27, 28, 38, 39, 40, 41], false, fun _ => []⟩
  | 31 => ⟨true, [0, 2, 3, 9], true, fun _ => []⟩
  | 32 => ⟨true, [0, 1, 2, 6], false, fun _ => []⟩
  | 33 => ⟨true, [0, 1, 4, 5, 9, 17], false, fun _ => []⟩
  | 34 => ⟨true, [0, 1, 4], false, fun _ => []⟩
  | 35 => ⟨true, [0, 2], true, fun _ => []⟩
  | 36 => ⟨true, [0, 1, 2, 6], false, fun _ => []⟩
  | 37 => ⟨true, [0, 1, 4], false, fun _ => []⟩
  | 38 => ⟨true, [0, 1, 2, 3], false, fun _ => []⟩
  | 39 => ⟨true, [0, 1, 2, 3, 4, 5, 6, 7, 8, 15], true, fun _ => []⟩
  | 40 => ⟨true, [0, 1, 2, 3], true, fun _ => []⟩
  | 41 => ⟨true, [0, 1, 3, 4, 9], false, fun _ => []⟩
  | 42 => ⟨true, [0, 1, 4, 5, 7, 8, 9, 16], false, fun _ => []⟩
  | 43 => ⟨true, [0, 1, 4, 5, 7, 8, 9, 16], false, fun _ => []⟩
  | _ => ⟨false, [], false, fun _ => []⟩

theorem good : Abs.Good Try.prog note := Abs.good_of (by kernel_rfl)

theorem foll : (Try.prog).follows .mixedOrders = true := by kernel_rfl

def mvtab (f : FuncId) : Bool := [].contains f

def ctab : FuncId → Option Abs.SCall := Abs.ctabOf [(13, Abs.pureC Abs.hfClose), (30, Abs.pureC Abs.hfDir), (22, Abs.pureC Abs.hfClose)]

theorem ctab_ok : ∀ f q, ctab f = some q → Abs.CallOK Try.prog f q := Abs.ctabOf_ok _ (by
  intro p hp
  simp only [List.mem_cons, List.not_mem_nil, or_false] at hp
  rcases hp with rfl | rfl | rfl
  · exact hand13
  · exact hand30
  · exact hand22
)

/- pagewatch/pagewatchmade.Light -/
def i8 : Abs.Sg := ⟨[0], (.dat (.row (.int .i64)) .nil), .nil⟩

def o8 : Abs.Sg := ⟨[2], (.dat .bool .nil), .nil⟩

def m8 (v : (((List Int) × Unit) × (Unit))) : Option Y6 :=
some (((decide (((v.1.1.length : Int) : Int) ≤ 500)), ()), ())

def sp8 : Abs.Spec := ⟨0, i8, o8, m8⟩

def an8 : Nat → Abs.FAn
  | _ => {}

theorem ok8 : Abs.SpecOK Try.prog 8 sp8 :=
  Abs.specOC_of (C := ctab) (mv := mvtab) ctab_ok (n := 12) (an := an8) (T := Abs.tabOf []) good foll (Abs.tabOf_ok _ (fun _ h => by cases h)) rfl (by intro v; kernel_rfl)

/- 13 pagewatch/constraint.Close: not told by a law: run where it is called -/

def l17_0_6 (v : ((Int × (List (List Int)) × Int × Unit) × ((List Int) × Unit))) : Option (((Int × (List (List Int)) × Int × Unit) × ((List Int) × Unit)) ⊕ (((Bool × Unit) × ((List Int) × Unit)) ⊕ ((Unit) × ((List Int) × Unit)))) :=
bif (decide ((v.1.1 : Int) < v.1.2.2.1)) then (Abs.rowAt v.1.2.1 v.1.1 fun e31 _ =>
Abs.rowAt e31 0 fun e32 _ =>
bif ((e32 : Int) == 1099511627776) then (some (.inr (.inl ((false, ()), ([], ())))))
else (Abs.rowAt v.1.2.1 v.1.1 fun e33 _ =>
Abs.rowAt e33 0 fun e34 _ =>
bif (decide (v.2.1.length + [(w64 (0 - e34))].length ≤ 4294967296)) then
some (.inl (((w64 (v.1.1 + 1)), (v.1.2.1, (v.1.2.2.1, ()))), ((v.2.1 ++ [(w64 (0 - e34))]), ())))
else none))
else (some (.inr (.inr ((), (v.2.1, ())))))

/- pagewatch/constraint.Earliest -/
def i17 : Abs.Sg := ⟨[0, 1], (.dat (.int .i64) (.dat (.row Z1) .nil)), .nil⟩

def o17 : Abs.Sg := ⟨[4, 5], (.st (.own (.int .i64) (0, 0)) (.dat .bool .nil)), (.arr (.int .i64) false .nil)⟩

def m17 (v : ((Int × Y2 × Unit) × (Unit))) : Option ((Bool × Unit) × ((List Int) × Unit)) :=
bif (!(cloB v.1.1 v.1.2.1)) then (some ((false, ()), ([], ())))
else ((loopT l17_0_6 ((0, ((cloL v.1.1 v.1.2.1), (v.1.1, ()))), ([], ()))).bind fun d35 =>
sumE d35 (fun d36 => (some ((d36.1.1, ()), (d36.2.1, ())))) (fun d37 => (some ((true, ()), (d37.2.1, ())))))

def sp17 : Abs.Spec := ⟨0, i17, o17, m17⟩

def an17 : Nat → Abs.FAn
  | 0 => Abs.FAn.mk (fun _ => none) (fun _ => none) (fun
    | 6 => some ⟨⟨[19, 6, 8, 18], (.dat (.int .i64) (.dat (.row (.row (.int .i64))) (.st (.own (.int .i64) (0, 0)) (.dat (.int .i64) .nil)))), (.arr (.int .i64) false .nil)⟩, (.more .ret ⟨[4, 5], (.st (.own (.int .i64) (0, 0)) (.dat .bool .nil)), (.arr (.int .i64) false .nil)⟩ (.one (.exit 0) ⟨[8], (.st (.own (.int .i64) (0, 0)) .nil), (.arr (.int .i64) false .nil)⟩))⟩
    | _ => none) (fun _ _ => 0)
  | _ => {}

theorem ok17 : Abs.SpecOK Try.prog 17 sp17 :=
  Abs.specOC_of (C := ctab) (mv := mvtab) ctab_ok (n := 12) (an := an17) (T := Abs.tabOf []) good foll (Abs.tabOf_ok _ (fun _ h => by cases h)) rfl (by intro v; kernel_rfl)

/- pagewatch/constraint.in -/
def i36 : Abs.Sg := ⟨[0, 1, 2], (.dat (.int .i64) (.dat (.int .i64) (.dat (.int .i64) .nil))), .nil⟩

def o36 : Abs.Sg := ⟨[6], (.dat .bool .nil), .nil⟩

def m36 (v : (Y5 × (Unit))) : Option Y6 :=
((bif (decide ((v.1.1 : Int) ≥ v.1.2.1)) then (some (((decide ((v.1.1 : Int) ≤ v.1.2.2.1)), ()), ()))
else (some ((false, ()), ()))) : Option Y6).bind fun v1 =>
some ((v1.1.1, ()), ())

def sp36 : Abs.Spec := ⟨0, i36, o36, m36⟩

def an36 : Nat → Abs.FAn
  | 0 => Abs.FAn.mk (fun
    | 1 => some ⟨[6], (.dat .bool .nil), .nil⟩
    | _ => none) (fun _ => none) (fun _ => none) (fun _ _ => 0)
  | _ => {}

theorem ok36 : Abs.SpecOK Try.prog 36 sp36 :=
  Abs.specOC_of (C := ctab) (mv := mvtab) ctab_ok (n := 12) (an := an36) (T := Abs.tabOf []) good foll (Abs.tabOf_ok _ (fun _ h => by cases h)) rfl (by intro v; kernel_rfl)

/- 40 pagewatch/constraint.Valid$1: not told by a law: a closure -/

/- 43 slices.IndexFunc[[]pagewatch/api.Diff,pagewatch/api.Diff]: not told by a law: a parameter -/

/- 37 slices.ContainsFunc[[]pagewatch/api.Diff,pagewatch/api.Diff]: not told by a law: a parameter -/

def l24_2_2 (v : ((Int × Y2 × Int × Unit) × ((Int × Unit) × Unit))) : Option (((Int × Y2 × Int × Unit) × ((Int × Unit) × Unit)) ⊕ (((Int × Unit) × ((Int × Unit) × Unit)) ⊕ ((Unit) × ((Int × Unit) × Unit)))) :=
bif (decide ((v.1.1 : Int) < v.1.2.2.1)) then (Abs.rowAt v.1.2.1 v.1.1 fun e67 _ =>
(((m36 ((e67.1, (0, ((w64 (v.2.1.1 - 1)), ()))), ())).bind fun u68 =>
bif (!u68.1.1) then (some ((true, ()), ((v.2.1.1, ()), ())))
else ((m36 ((e67.2.1, (0, ((w64 (v.2.1.1 - 1)), ()))), ())).bind fun u69 =>
bif (!u69.1.1) then (some ((true, ()), ((v.2.1.1, ()), ())))
else ((m36 ((e67.2.2.1, ((-17179869184), (17179869184, ()))), ())).bind fun u70 =>
some (((!u70.1.1), ()), ((v.2.1.1, ()), ()))))) : Option ((Bool × Unit) × ((Int × Unit) × Unit))).bind fun v71 =>
bif v71.1.1 then (some (.inr (.inl ((v.1.1, ()), ((v71.2.1.1, ()), ())))))
else (some (.inl (((w64 (v.1.1 + 1)), (v.1.2.1, (v.1.2.2.1, ()))), ((v71.2.1.1, ()), ())))))
else (some (.inr (.inr ((), ((v.2.1.1, ()), ())))))

/- pagewatch/constraint.Valid -/
def i24 : Abs.Sg := ⟨[0, 1], (.dat (.int .i64) (.dat (.row Z1) .nil)), .nil⟩

def o24 : Abs.Sg := ⟨[4], (.dat .bool .nil), .nil⟩

def m24 (v : ((Int × Y2 × Unit) × (Unit))) : Option Y6 :=
(((m36 ((v.1.1, (1, (41, ()))), ())).bind fun u65 =>
bif (!u65.1.1) then (some ((true, (v.1.2.1, ())), ((v.1.1, ()), ())))
else (some (((decide (((v.1.2.1.length : Int) : Int) > 4000)), (v.1.2.1, ())), ((v.1.1, ()), ())))) : Option ((Bool × Y2 × Unit) × ((Int × Unit) × Unit))).bind fun v66 =>
bif v66.1.1 then (some ((false, ()), ()))
else ((((loopT l24_2_2 ((0, (v66.1.2.1, ((v66.1.2.1.length : Int), ()))), ((v66.2.1.1, ()), ()))).bind fun d72 =>
sumE d72 (fun d73 => (some (((decide ((d73.1.1 : Int) ≥ 0)), ()), ((d73.2.1.1, ()), ())))) (fun d74 => (some ((false, ()), ((d74.2.1.1, ()), ()))))) : Option ((Bool × Unit) × ((Int × Unit) × Unit))).bind fun v75 =>
some (((!v75.1.1), ()), ()))

def sp24 : Abs.Spec := ⟨0, i24, o24, m24⟩

def an24 : Nat → Abs.FAn
  | 0 => Abs.FAn.mk (fun
    | 1 => some ⟨[12, 2, 1], (.dat .bool (.st (.ptr (0, 0) 1 0 0) (.dat (.row Z1) .nil))), (.box 1 (.dat (.int .i64) .nil) .nil)⟩
    | _ => none) (fun _ => none) (fun _ => none) (fun
    | 3, 2 => 1
    | _, _ => 0)
  | 1 => Abs.FAn.mk (fun
    | 1 => some ⟨[4], (.dat .bool .nil), (.box 1 (.dat (.int .i64) .nil) .nil)⟩
    | _ => none) (fun _ => none) (fun _ => none) (fun
    | 1, 2 => 2
    | _, _ => 0)
  | 2 => Abs.FAn.mk (fun _ => none) (fun _ => none) (fun
    | 2 => some ⟨⟨[8, 0, 1, 7], (.dat (.int .i64) (.dat (.row Z1) (.st (.clo 40 [((0, 0), 1, 0, 0)]) (.dat (.int .i64) .nil)))), (.box 1 (.dat (.int .i64) .nil) .nil)⟩, (.more .ret ⟨[4], (.dat (.int .i64) .nil), (.box 1 (.dat (.int .i64) .nil) .nil)⟩ (.one (.exit 0) ⟨[], .nil, (.box 1 (.dat (.int .i64) .nil) .nil)⟩))⟩
    | _ => none) (fun
    | 4, 5 => 3
    | _, _ => 0)
  | 3 => Abs.FAn.mk (fun
    | 1 => some ⟨[3], (.dat .bool .nil), (.box 1 (.dat (.int .i64) .nil) .nil)⟩
    | _ => none) (fun _ => none) (fun _ => none) (fun _ _ => 0)
  | _ => {}

theorem ok24 : Abs.SpecOK Try.prog 24 sp24 :=
  Abs.specOC_of (C := ctab) (mv := mvtab) ctab_ok (n := 12) (an := an24) (T := Abs.tabOf [(36, sp36)]) good foll (Abs.tabOf_ok _ (by simp only [List.forall_mem_cons]; exact ⟨ok36, fun _ h => by cases h⟩)) rfl (by intro v; kernel_rfl)

/- 30 pagewatch/constraint.direct: not told by a law: run where it is called -/

/- warnings: store: pointer &e16.0 -/

def l14_0_13 (v : ((Int × Int × (List (List Int)) × Int × Int × Int × Int × Int × Int × Int × Unit) × ((List Int) × (List Int) × Unit))) : Option (((Int × Int × (List (List Int)) × Int × Int × Int × Int × Int × Int × Int × Unit) × ((List Int) × (List Int) × Unit)) ⊕ (((List (List Int)) × Int × Int × Int × Int × Int × Int × Unit) × ((List Int) × (List Int) × Unit))) :=
let x170 := (decide ((v.1.1 : Int) < v.1.2.2.2.2.2.2.2.2.2.1))
bif x170 then (((((Abs.rowAt v.1.2.2.1 v.1.2.1 fun e171 _ =>
Abs.rowAt e171 v.1.1 fun e172 _ =>
bif ((e172 : Int) != 1099511627776) then (bif (decide ((0 : Int) ≤ v.1.2.1 ∧ (v.1.2.1 : Int) < v.2.1.length)) then
(v.2.1[v.1.2.1.toNat]?).bind fun e173 =>
Abs.rowAt v.1.2.2.1 v.1.2.1 fun e174 _ =>
Abs.rowAt e174 v.1.1 fun e175 _ =>
bif (decide ((0 : Int) ≤ v.1.1 ∧ (v.1.1 : Int) < v.2.1.length)) then
(v.2.1[v.1.1.toNat]?).bind fun e176 =>
some (((decide (((w64 (e173 + e175)) : Int) < e176)), (v.1.2.1, (v.1.2.2.1, (v.1.2.2.2.1, (v.1.2.2.2.2.2.1, (v.1.2.2.2.2.2.2.1, (v.1.2.2.2.2.2.2.2.1, (v.1.2.2.2.2.2.2.2.2.1, (v.1.2.2.2.2.2.2.2.2.2.1, (v.1.1, (v.1.1, (v.1.2.2.2.2.1, ())))))))))))), (v.2.1, (v.2.2.1, ())))
else none
else none)
else (some ((false, (v.1.2.1, (v.1.2.2.1, (v.1.2.2.2.1, (v.1.2.2.2.2.2.1, (v.1.2.2.2.2.2.2.1, (v.1.2.2.2.2.2.2.2.1, (v.1.2.2.2.2.2.2.2.2.1, (v.1.2.2.2.2.2.2.2.2.2.1, (v.1.1, (v.1.1, (v.1.2.2.2.2.1, ())))))))))))), (v.2.1, (v.2.2.1, ()))))) : Option ((Bool × Int × (List (List Int)) × Int × Int × Int × Int × Int × Int × Int × Int × Int × Unit) × ((List Int) × (List Int) × Unit))).bind fun v177 =>
bif v177.1.1 then (bif (decide ((0 : Int) ≤ v177.1.2.1 ∧ (v177.1.2.1 : Int) < v177.2.1.length)) then
(v177.2.1[v177.1.2.1.toNat]?).bind fun e178 =>
Abs.rowAt v177.1.2.2.1 v177.1.2.1 fun e179 _ =>
Abs.rowAt e179 v177.1.2.2.2.2.2.2.2.2.2.2.1 fun e180 _ =>
bif (decide ((0 : Int) ≤ v177.1.2.2.2.2.2.2.2.2.2.2.1 ∧ (v177.1.2.2.2.2.2.2.2.2.2.2.1 : Int) < v177.2.1.length)) then
bif (decide (v177.1.2.2.2.2.2.2.2.2.2.2.1.toNat < v177.2.1.length)) then
bif (decide ((0 : Int) ≤ v177.1.2.2.2.2.2.2.2.2.2.2.1 ∧ (v177.1.2.2.2.2.2.2.2.2.2.2.1 : Int) < v177.2.2.1.length)) then
bif (decide (v177.1.2.2.2.2.2.2.2.2.2.2.1.toNat < v177.2.2.1.length)) then
some ((v177.1.2.1, (v177.1.2.2.1, (v177.1.2.2.2.1, (v177.1.2.2.2.2.2.2.2.2.2.2.1, (v177.1.2.2.2.2.1, (v177.1.2.2.2.2.2.1, (v177.1.2.2.2.2.2.2.1, (v177.1.2.2.2.2.2.2.2.1, (v177.1.2.2.2.2.2.2.2.2.1, (v177.1.2.2.2.2.2.2.2.2.2.1, ())))))))))), ((v177.2.1.set v177.1.2.2.2.2.2.2.2.2.2.2.1.toNat (w64 (e178 + e180))), ((v177.2.2.1.set v177.1.2.2.2.2.2.2.2.2.2.2.1.toNat v177.1.2.1), ())))
else none
else none
else none
else none
else none)
else (some ((v177.1.2.1, (v177.1.2.2.1, (v177.1.2.2.2.1, (v177.1.2.2.2.2.2.2.2.2.2.2.2.1, (v177.1.2.2.2.2.1, (v177.1.2.2.2.2.2.1, (v177.1.2.2.2.2.2.2.1, (v177.1.2.2.2.2.2.2.2.1, (v177.1.2.2.2.2.2.2.2.2.1, (v177.1.2.2.2.2.2.2.2.2.2.1, ())))))))))), (v177.2.1, (v177.2.2.1, ()))))) : Option ((Int × (List (List Int)) × Int × Int × Int × Int × Int × Int × Int × Int × Unit) × ((List Int) × (List Int) × Unit))).bind fun v181 =>
some (.inl (((w64 (v181.1.2.2.2.2.2.2.2.2.2.1 + 1)), (v181.1.1, (v181.1.2.1, (v181.1.2.2.1, (v181.1.2.2.2.1, (v181.1.2.2.2.2.1, (v181.1.2.2.2.2.2.1, (v181.1.2.2.2.2.2.2.1, (v181.1.2.2.2.2.2.2.2.1, (v181.1.2.2.2.2.2.2.2.2.1, ())))))))))), (v181.2.1, (v181.2.2.1, ())))))
else (some (.inr ((v.1.2.2.1, (v.1.2.2.2.1, (v.1.2.2.2.2.1, (v.1.2.2.2.2.2.1, (v.1.2.2.2.2.2.2.1, (v.1.2.2.2.2.2.2.2.1, (v.1.2.2.2.2.2.2.2.2.1, ()))))))), (v.2.1, (v.2.2.1, ())))))

def l14_0_10 (v : (((List (List Int)) × Int × Int × Int × Int × Int × Int × Unit) × ((List Int) × (List Int) × Unit))) : Option ((((List (List Int)) × Int × Int × Int × Int × Int × Int × Unit) × ((List Int) × (List Int) × Unit)) ⊕ (((List (List Int)) × Int × Int × Int × Int × Unit) × ((List Int) × (List Int) × Unit))) :=
bif (decide ((v.1.2.1 : Int) < v.1.2.2.2.2.2.2.1)) then ((loopT l14_0_13 ((0, (v.1.2.1, (v.1.1, (v.1.2.2.1, (v.1.2.2.2.1, (v.1.2.2.2.2.1, (v.1.2.2.2.2.2.1, (v.1.2.2.2.2.2.2.1, (v.1.2.1, (v.1.2.2.1, ())))))))))), (v.2.1, (v.2.2.1, ())))).bind fun d182 =>
some (.inl ((d182.1.1, ((w64 (d182.1.2.2.2.2.2.2.1 + 1)), (d182.1.2.1, (d182.1.2.2.1, (d182.1.2.2.2.1, (d182.1.2.2.2.2.1, (d182.1.2.2.2.2.2.1, ()))))))), (d182.2.1, (d182.2.2.1, ())))))
else (some (.inr ((v.1.1, (v.1.2.2.1, (v.1.2.2.2.1, (v.1.2.2.2.2.1, (v.1.2.2.2.2.2.1, ()))))), (v.2.1, (v.2.2.1, ())))))

def l14_0_8 (v : (((List (List Int)) × Int × Int × Int × Int × Unit) × ((List Int) × (List Int) × Unit))) : Option ((((List (List Int)) × Int × Int × Int × Int × Unit) × ((List Int) × (List Int) × Unit)) ⊕ ((Int × Int × Unit) × ((List Int) × Unit))) :=
bif (decide ((v.1.2.2.1 : Int) < v.1.2.2.2.2.1)) then ((loopT l14_0_10 ((v.1.1, (0, (v.1.2.1, (v.1.2.2.2.1, (v.1.2.2.2.2.1, (v.1.2.2.1, (v.1.2.1, ()))))))), (v.2.1, (v.2.2.1, ())))).bind fun d183 =>
some (.inl ((d183.1.1, (d183.1.2.1, ((w64 (d183.1.2.2.2.2.1 + 1)), (d183.1.2.2.1, (d183.1.2.2.2.1, ()))))), (d183.2.1, (d183.2.2.1, ())))))
else (some (.inr ((v.1.2.2.2.1, (v.1.2.1, ())), (v.2.2.1, ()))))

def l14_0_21 (v : (Y5 × ((List Int) × Unit))) : Option ((Y5 × ((List Int) × Unit)) ⊕ ((Int × Unit) × ((List Int) × Unit))) :=
bif (decide ((v.1.1 : Int) < v.1.2.2.1)) then (bif (decide ((0 : Int) ≤ v.1.2.1 ∧ (v.1.2.1 : Int) < v.2.1.length)) then
(v.2.1[v.1.2.1.toNat]?).bind fun e185 =>
some (.inl (((w64 (v.1.1 + 1)), (e185, (v.1.2.2.1, ()))), (v.2.1, ())))
else none)
else (some (.inr ((v.1.2.1, ()), (v.2.1, ()))))

def l14_0_26 (v : ((Int × Int × Unit) × ((List Int) × (List Int) × Unit))) : Option (((Int × Int × Unit) × ((List Int) × (List Int) × Unit)) ⊕ ((Unit) × ((List Int) × Unit))) :=
((bif ((((v.2.2.1.length : Nat) : Int) : Int) == 0) then (some ((true, (v.1.2.1, (v.1.1, ()))), (v.2.1, (v.2.2.1, ()))))
else (some ((((v.1.1 : Int) != v.1.2.1), (v.1.2.1, (v.1.1, ()))), (v.2.1, (v.2.2.1, ()))))) : Option ((Bool × Int × Int × Unit) × ((List Int) × (List Int) × Unit))).bind fun v187 =>
bif v187.1.1 then (bif (decide (v187.2.2.1.length + [v187.1.2.2.1].length ≤ 4294967296)) then
bif (decide ((0 : Int) ≤ v187.1.2.2.1 ∧ (v187.1.2.2.1 : Int) < v187.2.1.length)) then
(v187.2.1[v187.1.2.2.1.toNat]?).bind fun e188 =>
some (.inl ((e188, (v187.1.2.1, ())), (v187.2.1, ((v187.2.2.1 ++ [v187.1.2.2.1]), ()))))
else none
else none)
else (some (.inr ((), (v187.2.2.1, ()))))

def l14_1_1 (v : ((Int × Int × Unit) × ((List Int) × Unit))) : Option (((Int × Int × Unit) × ((List Int) × Unit)) ⊕ ((Unit) × ((List Int) × Unit))) :=
bif (decide ((v.1.2.1 : Int) < v.1.1)) then (bif (decide ((0 : Int) ≤ v.1.1 ∧ (v.1.1 : Int) < v.2.1.length)) then
(v.2.1[v.1.1.toNat]?).bind fun e190 =>
bif (decide ((0 : Int) ≤ v.1.2.1 ∧ (v.1.2.1 : Int) < v.2.1.length)) then
(v.2.1[v.1.2.1.toNat]?).bind fun e191 =>
bif (decide ((0 : Int) ≤ v.1.2.1 ∧ (v.1.2.1 : Int) < v.2.1.length)) then
bif (decide (v.1.2.1.toNat < v.2.1.length)) then
bif (decide ((0 : Int) ≤ v.1.1 ∧ (v.1.1 : Int) < (v.2.1.set v.1.2.1.toNat e190).length)) then
bif (decide (v.1.1.toNat < (v.2.1.set v.1.2.1.toNat e190).length)) then
some (.inl (((w64 (v.1.1 - 1)), ((w64 (v.1.2.1 + 1)), ())), (((v.2.1.set v.1.2.1.toNat e190).set v.1.1.toNat e191), ())))
else none
else none
else none
else none
else none
else none)
else (some (.inr ((), (v.2.1, ()))))

/- pagewatch/constraint.Cycle -/
def i14 : Abs.Sg := ⟨[0, 1], (.dat (.int .i64) (.dat (.row Z1) .nil)), .nil⟩

def o14 : Abs.Sg := ⟨[4, 5], (.st (.own (.int .i64) (0, 0)) (.dat .bool .nil)), (.arr (.int .i64) false .nil)⟩

def m14 (v : ((Int × Y2 × Unit) × (Unit))) : Option ((Bool × Unit) × ((List Int) × Unit)) :=
((bif (cloB v.1.1 v.1.2.1) then (some ((true, (v.1.1, (v.1.2.1, ()))), ()))
else ((m24 ((v.1.1, (v.1.2.1, ())), ())).bind fun u168 =>
some (((!u168.1.1), (v.1.1, (v.1.2.1, ()))), ()))) : Option ((Bool × Int × Y2 × Unit) × (Unit))).bind fun v169 =>
bif v169.1.1 then (some ((false, ()), ([], ())))
else (bif (vldB v169.1.2.1 v169.1.2.2.1) then
bif (decide ((0 : Int) ≤ v169.1.2.1 ∧ (v169.1.2.1 : Int) ≤ v169.1.2.1 ∧ (v169.1.2.1 : Int) ≤ 4294967296)) then
bif (decide ((0 : Int) ≤ v169.1.2.1 ∧ (v169.1.2.1 : Int) ≤ v169.1.2.1 ∧ (v169.1.2.1 : Int) ≤ 4294967296)) then
(loopT l14_0_8 (((dirL v169.1.2.1 v169.1.2.2.1), (v169.1.2.1, (0, (0, ((w64 (v169.1.2.1 + 1)), ()))))), ((List.replicate v169.1.2.1.toNat (0 : Int)), ((List.replicate v169.1.2.1.toNat (0 : Int)), ())))).bind fun d184 =>
(loopT l14_0_21 ((0, (d184.1.1, (d184.1.2.1, ()))), (d184.2.1, ()))).bind fun d186 =>
(loopT l14_0_26 ((d186.1.1, (d186.1.1, ())), (d186.2.1, ([], ())))).bind fun d189 =>
(loopT l14_1_1 (((w64 (((d189.2.1.length : Nat) : Int) - 1)), (0, ())), (d189.2.1, ()))).bind fun d192 =>
bif (decide (d192.2.1.length = d189.2.1.length) && true) then
some ((true, ()), (d192.2.1, ()))
else none
else none
else none
else none)

def sp14 : Abs.Spec := ⟨0, i14, o14, m14⟩

def an14 : Nat → Abs.FAn
  | 0 => Abs.FAn.mk (fun
    | 26 => some ⟨[114, 10, 11, 15, 14], (.dat .bool (.st (.own (.int .i64) (0, 0)) (.dat (.int .i64) (.dat (.int .i64) (.st (.own (.int .i64) (1, 0)) .nil))))), (.arr (.int .i64) false (.arr (.int .i64) false .nil))⟩
    | 15 => some ⟨[74, 12, 8, 9, 10, 0, 37, 38, 40, 41, 44, 45, 13, 11], (.dat .bool (.dat (.int .i64) (.dat (.row (.row (.int .i64))) (.st (.own (.int .i64) (0, 0)) (.st (.own (.int .i64) (1, 0)) (.dat (.int .i64) (.dat (.int .i64) (.dat (.int .i64) (.dat (.int .i64) (.dat (.int .i64) (.dat (.int .i64) (.dat (.int .i64) (.dat (.int .i64) (.dat (.int .i64) .nil)))))))))))))), (.arr (.int .i64) false (.arr (.int .i64) false .nil))⟩
    | 2 => some ⟨[28, 0, 1], (.dat .bool (.dat (.int .i64) (.dat (.row Z1) .nil))), .nil⟩
    | _ => none) (fun
    | 17 => some (⟨[12, 8, 9, 10, 0, 11, 37, 38, 40, 41, 44, 45], (.dat (.int .i64) (.dat (.row (.row (.int .i64))) (.st (.own (.int .i64) (0, 0)) (.st (.own (.int .i64) (1, 0)) (.dat (.int .i64) (.dat (.int .i64) (.dat (.int .i64) (.dat (.int .i64) (.dat (.int .i64) (.dat (.int .i64) (.dat (.int .i64) (.dat (.int .i64) .nil)))))))))))), (.arr (.int .i64) false (.arr (.int .i64) false .nil))⟩, none)
    | _ => none) (fun
    | 26 => some ⟨⟨[15, 10, 14, 11], (.dat (.int .i64) (.st (.own (.int .i64) (0, 0)) (.st (.own (.int .i64) (1, 0)) (.dat (.int .i64) .nil)))), (.arr (.int .i64) false (.arr (.int .i64) false .nil))⟩, (.one (.exit 8) ⟨[14], (.st (.own (.int .i64) (0, 0)) .nil), (.arr (.int .i64) false .nil)⟩)⟩
    | 21 => some ⟨⟨[99, 11, 10, 98], (.dat (.int .i64) (.dat (.int .i64) (.st (.own (.int .i64) (0, 0)) (.dat (.int .i64) .nil)))), (.arr (.int .i64) false .nil)⟩, (.one (.exit 6) ⟨[10, 11], (.st (.own (.int .i64) (0, 0)) (.dat (.int .i64) .nil)), (.arr (.int .i64) false .nil)⟩)⟩
    | 8 => some ⟨⟨[8, 9, 10, 0, 38, 11, 37], (.dat (.row (.row (.int .i64))) (.st (.own (.int .i64) (0, 0)) (.st (.own (.int .i64) (1, 0)) (.dat (.int .i64) (.dat (.int .i64) (.dat (.int .i64) (.dat (.int .i64) .nil))))))), (.arr (.int .i64) false (.arr (.int .i64) false .nil))⟩, (.one (.exit 0) ⟨[11, 10, 0], (.dat (.int .i64) (.st (.own (.int .i64) (0, 0)) (.dat (.int .i64) .nil))), (.arr (.int .i64) false .nil)⟩)⟩
    | 10 => some ⟨⟨[8, 9, 10, 41, 0, 11, 37, 38, 40], (.dat (.row (.row (.int .i64))) (.st (.own (.int .i64) (0, 0)) (.st (.own (.int .i64) (1, 0)) (.dat (.int .i64) (.dat (.int .i64) (.dat (.int .i64) (.dat (.int .i64) (.dat (.int .i64) (.dat (.int .i64) .nil))))))))), (.arr (.int .i64) false (.arr (.int .i64) false .nil))⟩, (.one (.exit 2) ⟨[8, 9, 10, 0, 11, 37, 38], (.dat (.row (.row (.int .i64))) (.st (.own (.int .i64) (0, 0)) (.st (.own (.int .i64) (1, 0)) (.dat (.int .i64) (.dat (.int .i64) (.dat (.int .i64) (.dat (.int .i64) .nil))))))), (.arr (.int .i64) false (.arr (.int .i64) false .nil))⟩)⟩
    | 13 => some ⟨⟨[45, 12, 8, 9, 10, 0, 11, 37, 38, 40, 41, 44], (.dat (.int .i64) (.dat (.int .i64) (.dat (.row (.row (.int .i64))) (.st (.own (.int .i64) (0, 0)) (.st (.own (.int .i64) (1, 0)) (.dat (.int .i64) (.dat (.int .i64) (.dat (.int .i64) (.dat (.int .i64) (.dat (.int .i64) (.dat (.int .i64) (.dat (.int .i64) .nil)))))))))))), (.arr (.int .i64) false (.arr (.int .i64) false .nil))⟩, (.one (.exit 4) ⟨[8, 9, 10, 0, 11, 37, 38, 40, 41], (.dat (.row (.row (.int .i64))) (.st (.own (.int .i64) (0, 0)) (.st (.own (.int .i64) (1, 0)) (.dat (.int .i64) (.dat (.int .i64) (.dat (.int .i64) (.dat (.int .i64) (.dat (.int .i64) (.dat (.int .i64) .nil))))))))), (.arr (.int .i64) false (.arr (.int .i64) false .nil))⟩)⟩
    | _ => none) (fun
    | 29, 1 => 1
    | _, _ => 0)
  | 1 => Abs.FAn.mk (fun _ => none) (fun _ => none) (fun
    | 1 => some ⟨⟨[3, 2, 0], (.dat (.int .i64) (.dat (.int .i64) (.st (.own (.int .i64) (0, 0)) .nil))), (.arr (.int .i64) false .nil)⟩, (.one (.exit 0) ⟨[], .nil, (.arr (.int .i64) false .nil)⟩)⟩
    | _ => none) (fun _ _ => 0)
  | _ => {}

theorem ok14 : Abs.SpecOK Try.prog 14 sp14 :=
  Abs.specOC_of (C := ctab) (mv := mvtab) ctab_ok (n := 12) (an := an14) (T := Abs.tabOf [(24, sp24)]) good foll (Abs.tabOf_ok _ (by simp only [List.forall_mem_cons]; exact ⟨ok24, fun _ h => by cases h⟩)) rfl (by intro v; kernel_rfl)

def l26_0_4 (v : ((Int × (List Int) × (List Int) × Unit) × (Unit))) : Option (((Int × (List Int) × (List Int) × Unit) × (Unit)) ⊕ (Y6 ⊕ ((Unit) × (Unit)))) :=
let x29 := (decide ((v.1.1 : Int) < (v.1.2.2.1.length : Int)))
bif x29 then (Abs.rowAt v.1.2.2.1 v.1.1 fun e30 _ =>
Abs.rowAt v.1.2.1 v.1.1 fun e31 _ =>
bif ((e30 : Int) != e31) then (some (.inr (.inl ((false, ()), ()))))
else (some (.inl (((w64 (v.1.1 + 1)), (v.1.2.1, (v.1.2.2.1, ()))), ()))))
else (some (.inr (.inr ((), ()))))

/- pagewatch/pagewatchref25.Same -/
def i26 : Abs.Sg := ⟨[0, 1], (.dat (.row (.int .i64)) (.dat (.row (.int .i64)) .nil)), .nil⟩

def o26 : Abs.Sg := ⟨[4], (.dat .bool .nil), .nil⟩

def m26 (v : (((List Int) × (List Int) × Unit) × (Unit))) : Option Y6 :=
let x28 := (((v.1.1.length : Int) : Int) != (v.1.2.1.length : Int))
bif x28 then (some ((false, ()), ()))
else ((loopT l26_0_4 ((0, (v.1.2.1, (v.1.1, ()))), ())).bind fun d32 =>
sumE d32 (fun d33 => (some ((d33.1.1, ()), ()))) (fun d34 => (some ((true, ()), ()))))

def sp26 : Abs.Spec := ⟨0, i26, o26, m26⟩

def an26 : Nat → Abs.FAn
  | 0 => Abs.FAn.mk (fun _ => none) (fun _ => none) (fun
    | 4 => some ⟨⟨[5, 1, 0], (.dat (.int .i64) (.dat (.row (.int .i64)) (.dat (.row (.int .i64)) .nil))), .nil⟩, (.more .ret ⟨[4], (.dat .bool .nil), .nil⟩ (.one (.exit 0) ⟨[], .nil, .nil⟩))⟩
    | _ => none) (fun _ _ => 0)
  | _ => {}

theorem ok26 : Abs.SpecOK Try.prog 26 sp26 :=
  Abs.specOC_of (C := ctab) (mv := mvtab) ctab_ok (n := 12) (an := an26) (T := Abs.tabOf []) good foll (Abs.tabOf_ok _ (fun _ h => by cases h)) rfl (by intro v; kernel_rfl)

/- pagewatch/pagewatchlaw39.sane -/
def i9 : Abs.Sg := ⟨[], .nil, .nil⟩

def o9 : Abs.Sg := ⟨[0], (.dat .bool .nil), .nil⟩

def m9 (v : ((Unit) × (Unit))) : Option Y6 :=
(m17 ((2, (([(0, (1, (5, ()))), (1, (0, ((-3), ())))] : List Y5), ())), ())).bind fun u9 =>
(m14 ((2, (([(0, (1, (2, ()))), (1, (0, ((-3), ())))] : List Y5), ())), ())).bind fun u10 =>
((bif u9.1.1 then ((m26 ((u9.2.1, ([0, 3], ())), ())).bind fun u11 =>
bif u11.1.1 then (bif u10.1.1 then (some ((((((u10.2.1.length : Nat) : Int) : Int) == 2), ()), ()))
else (some ((false, ()), ())))
else (some ((false, ()), ())))
else (some ((false, ()), ()))) : Option Y6).bind fun v12 =>
some ((v12.1.1, ()), ())

def sp9 : Abs.Spec := ⟨0, i9, o9, m9⟩

def an9 : Nat → Abs.FAn
  | 0 => Abs.FAn.mk (fun
    | 3 => some ⟨[0], (.dat .bool .nil), .nil⟩
    | _ => none) (fun _ => none) (fun _ => none) (fun _ _ => 0)
  | _ => {}

theorem ok9 : Abs.SpecOK Try.prog 9 sp9 :=
  Abs.specOC_of (C := ctab) (mv := mvtab) ctab_ok (n := 12) (an := an9) (T := Abs.tabOf [(17, sp17), (14, sp14), (26, sp26)]) good foll (Abs.tabOf_ok _ (by simp only [List.forall_mem_cons]; exact ⟨ok17, ok14, ok26, fun _ h => by cases h⟩)) rfl (by intro v; kernel_rfl)

/- pagewatch/pagewatchmade.Roll -/
def i10 : Abs.Sg := ⟨[0], (.dat (.row (.int .i64)) .nil), .nil⟩

def o10 : Abs.Sg := ⟨[2], (.st (.ptr (0, 0) 2 0 0) .nil), (.box 2 (.dat Z3 .nil) .nil)⟩

def m10 (v : (((List Int) × Unit) × (Unit))) : Option ((Unit) × (Y4 × Unit)) :=
some ((), (((v.1.1, (0, ())), ()), ()))

def sp10 : Abs.Spec := ⟨0, i10, o10, m10⟩

def an10 : Nat → Abs.FAn
  | _ => {}

theorem ok10 : Abs.SpecOK Try.prog 10 sp10 :=
  Abs.specOC_of (C := ctab) (mv := mvtab) ctab_ok (n := 12) (an := an10) (T := Abs.tabOf []) good foll (Abs.tabOf_ok _ (fun _ h => by cases h)) rfl (by intro v; kernel_rfl)

/- (*pagewatch/pagewatchmade.Dice).Next -/
def i11 : Abs.Sg := ⟨[0, 1], (.st (.ptr (0, 0) 2 0 0) (.dat (.int .i64) .nil)), (.box 2 (.dat Z3 .nil) .nil)⟩

def o11 : Abs.Sg := ⟨[4], (.dat (.int .i64) .nil), (.box 2 (.dat Z3 .nil) .nil)⟩

def m11 (v : ((Int × Unit) × (Y4 × Unit))) : Option ((Int × Unit) × (Y4 × Unit)) :=
((let x15 := (decide ((v.2.1.1.2.1 : Int) ≥ (v.2.1.1.1.length : Int)))
bif x15 then (some ((true, (v.1.1, ())), ((v.2.1.1, ()), ())))
else (some (((decide ((v.1.1 : Int) < 1)), (v.1.1, ())), ((v.2.1.1, ()), ())))) : Option ((Bool × Int × Unit) × (Y4 × Unit))).bind fun v16 =>
bif v16.1.1 then (some ((0, ()), ((v16.2.1.1, ()), ())))
else (Abs.rowAt v16.2.1.1.1 v16.2.1.1.2.1 fun e17 _ =>
bif (decide (v16.1.2.1 ≠ (0 : Int))) then
((let x18 := (decide ((((e17 : Int).tmod v16.1.2.1) : Int) < 0))
bif x18 then (some (((w64 (((e17 : Int).tmod v16.1.2.1) + v16.1.2.1)), ()), (((v16.2.1.1.1, ((w64 (v16.2.1.1.2.1 + 1)), ())), ()), ())))
else (some ((((e17 : Int).tmod v16.1.2.1), ()), (((v16.2.1.1.1, ((w64 (v16.2.1.1.2.1 + 1)), ())), ()), ())))) : Option ((Int × Unit) × (Y4 × Unit))).bind fun v19 =>
some ((v19.1.1, ()), ((v19.2.1.1, ()), ()))
else none)

def sp11 : Abs.Spec := ⟨1, i11, o11, m11⟩

def an11 : Nat → Abs.FAn
  | 0 => Abs.FAn.mk (fun
    | 1 => some ⟨[19, 1, 0], (.dat .bool (.dat (.int .i64) (.st (.ptr (0, 0) 2 0 0) .nil))), (.box 2 (.dat Z3 .nil) .nil)⟩
    | _ => none) (fun
    | 7 => some (⟨[5], (.dat (.int .i64) .nil), (.box 2 (.dat Z3 .nil) .nil)⟩, none)
    | _ => none) (fun _ => none) (fun _ _ => 0)
  | _ => {}

theorem ok11 : Abs.SpecOK Try.prog 11 sp11 :=
  Abs.specOC_of (C := ctab) (mv := mvtab) ctab_ok (n := 12) (an := an11) (T := Abs.tabOf []) good foll (Abs.tabOf_ok _ (fun _ h => by cases h)) rfl (by intro v; kernel_rfl)

def l12_0_3 (v : ((Int × Int × Unit) × (Y4 × (List Int) × Unit))) : Option (((Int × Int × Unit) × (Y4 × (List Int) × Unit)) ⊕ ((Int × Unit) × (Y4 × (List Int) × Unit))) :=
bif (decide ((v.1.1 : Int) < v.1.2.1)) then ((m11 ((40, ()), ((v.2.1.1, ()), ()))).bind fun u65 =>
bif (decide (v.2.2.1.length + [u65.1.1].length ≤ 4294967296)) then
some (.inl (((w64 (v.1.1 + 1)), (v.1.2.1, ())), ((u65.2.1.1, ()), ((v.2.2.1 ++ [u65.1.1]), ()))))
else none)
else (some (.inr ((v.1.2.1, ()), ((v.2.1.1, ()), (v.2.2.1, ())))))

def l12_0_8 (v : ((Int × Int × Unit) × (Y4 × (List Int) × Y2 × Unit))) : Option (((Int × Int × Unit) × (Y4 × (List Int) × Y2 × Unit)) ⊕ ((Int × Unit) × (Y4 × Y2 × Unit))) :=
bif (decide ((v.1.1 : Int) > 0)) then ((m11 ((v.1.2.1, ()), ((v.2.1.1, ()), ()))).bind fun u68 =>
(m11 ((v.1.2.1, ()), ((u68.2.1.1, ()), ()))).bind fun u69 =>
bif (decide ((0 : Int) ≤ u69.1.1 ∧ (u69.1.1 : Int) < v.2.2.1.length)) then
(v.2.2.1[u69.1.1.toNat]?).bind fun e70 =>
bif (decide ((0 : Int) ≤ u68.1.1 ∧ (u68.1.1 : Int) < v.2.2.1.length)) then
(v.2.2.1[u68.1.1.toNat]?).bind fun e71 =>
(m11 ((6, ()), ((u69.2.1.1, ()), ()))).bind fun u72 =>
bif (decide (v.2.2.2.1.length + ([(u68.1.1, (u69.1.1, ((w64 ((w64 (e70 - e71)) + u72.1.1)), ())))] : List Y5).length ≤ 4294967296)) then
let x73 := (v.2.2.2.1 ++ ([(u68.1.1, (u69.1.1, ((w64 ((w64 (e70 - e71)) + u72.1.1)), ())))] : List Y5))
some (.inl (((w64 (v.1.1 - 1)), (v.1.2.1, ())), ((u72.2.1.1, ()), (v.2.2.1, (x73, ())))))
else none
else none
else none)
else (some (.inr ((v.1.2.1, ()), ((v.2.1.1, ()), (v.2.2.2.1, ())))))

/- (*pagewatch/pagewatchmade.Dice).Diffs -/
def i12 : Abs.Sg := ⟨[0, 1], (.st (.ptr (0, 0) 2 0 0) (.dat (.int .i64) .nil)), (.box 2 (.dat Z3 .nil) .nil)⟩

def o12 : Abs.Sg := ⟨[4], (.st (.own Z1 (1, 0)) .nil), (.box 2 (.dat Z3 .nil) (.arr Z1 false .nil))⟩

def m12 (v : ((Int × Unit) × (Y4 × Unit))) : Option ((Unit) × (Y4 × Y2 × Unit)) :=
(loopT l12_0_3 ((0, (v.1.1, ())), ((v.2.1.1, ()), ([], ())))).bind fun d66 =>
(m11 ((14, ()), ((d66.2.1.1, ()), ()))).bind fun u67 =>
(loopT l12_0_8 ((u67.1.1, (d66.1.1, ())), ((u67.2.1.1, ()), (d66.2.2.1, ([], ()))))).bind fun d74 =>
(((m11 ((4, ()), ((d74.2.1.1, ()), ()))).bind fun u75 =>
bif ((u75.1.1 : Int) == 0) then ((m11 ((d74.1.1, ()), ((u75.2.1.1, ()), ()))).bind fun u76 =>
(m11 ((d74.1.1, ()), ((u76.2.1.1, ()), ()))).bind fun u77 =>
(m11 ((20, ()), ((u77.2.1.1, ()), ()))).bind fun u78 =>
bif (decide (d74.2.2.1.length + ([(u76.1.1, (u77.1.1, ((w64 (u78.1.1 - 15)), ())))] : List Y5).length ≤ 4294967296)) then
let x79 := (d74.2.2.1 ++ ([(u76.1.1, (u77.1.1, ((w64 (u78.1.1 - 15)), ())))] : List Y5))
some ((), ((u78.2.1.1, ()), (x79, ())))
else none)
else (some ((), ((u75.2.1.1, ()), (d74.2.2.1, ()))))) : Option ((Unit) × (Y4 × Y2 × Unit))).bind fun v80 =>
some ((), ((v80.2.1.1, ()), (v80.2.2.1, ())))

def sp12 : Abs.Spec := ⟨1, i12, o12, m12⟩

def an12 : Nat → Abs.FAn
  | 0 => Abs.FAn.mk (fun _ => none) (fun
    | 14 => some (⟨[7], (.st (.own Z1 (1, 0)) .nil), (.box 2 (.dat Z3 .nil) (.arr Z1 false .nil))⟩, none)
    | _ => none) (fun
    | 8 => some ⟨⟨[8, 0, 5, 7, 1], (.dat (.int .i64) (.st (.ptr (0, 0) 2 0 0) (.st (.own (.int .i64) (1, 0)) (.st (.own Z1 (2, 0)) (.dat (.int .i64) .nil))))), (.box 2 (.dat Z3 .nil) (.arr (.int .i64) false (.arr Z1 false .nil)))⟩, (.one (.exit 2) ⟨[0, 1, 7], (.st (.ptr (0, 0) 2 0 0) (.dat (.int .i64) (.st (.own Z1 (1, 0)) .nil))), (.box 2 (.dat Z3 .nil) (.arr Z1 false .nil))⟩)⟩
    | 3 => some ⟨⟨[6, 0, 5, 1], (.dat (.int .i64) (.st (.ptr (0, 0) 2 0 0) (.st (.own (.int .i64) (1, 0)) (.dat (.int .i64) .nil)))), (.box 2 (.dat Z3 .nil) (.arr (.int .i64) false .nil))⟩, (.one (.exit 0) ⟨[0, 5, 1], (.st (.ptr (0, 0) 2 0 0) (.st (.own (.int .i64) (1, 0)) (.dat (.int .i64) .nil))), (.box 2 (.dat Z3 .nil) (.arr (.int .i64) false .nil))⟩)⟩
    | _ => none) (fun _ _ => 0)
  | _ => {}

theorem ok12 : Abs.SpecOK Try.prog 12 sp12 :=
  Abs.specOC_of (C := ctab) (mv := mvtab) ctab_ok (n := 12) (an := an12) (T := Abs.tabOf [(11, sp11)]) good foll (Abs.tabOf_ok _ (by simp only [List.forall_mem_cons]; exact ⟨ok11, fun _ h => by cases h⟩)) rfl (by intro v; kernel_rfl)

/- (*pagewatch/pagewatchmade.Dice).One -/
def i21 : Abs.Sg := ⟨[0, 1], (.st (.ptr (0, 0) 2 0 0) (.dat (.row (.int .i64)) .nil)), (.box 2 (.dat Z3 .nil) .nil)⟩

def o21 : Abs.Sg := ⟨[4], (.dat (.int .i64) .nil), (.box 2 (.dat Z3 .nil) .nil)⟩

def m21 (v : (((List Int) × Unit) × (Y4 × Unit))) : Option ((Int × Unit) × (Y4 × Unit)) :=
(m11 (((v.1.1.length : Int), ()), ((v.2.1.1, ()), ()))).bind fun u4 =>
Abs.rowAt v.1.1 u4.1.1 fun e5 _ =>
some ((e5, ()), ((u4.2.1.1, ()), ()))

def sp21 : Abs.Spec := ⟨1, i21, o21, m21⟩

def an21 : Nat → Abs.FAn
  | _ => {}

theorem ok21 : Abs.SpecOK Try.prog 21 sp21 :=
  Abs.specOC_of (C := ctab) (mv := mvtab) ctab_ok (n := 12) (an := an21) (T := Abs.tabOf [(11, sp11)]) good foll (Abs.tabOf_ok _ (by simp only [List.forall_mem_cons]; exact ⟨ok11, fun _ h => by cases h⟩)) rfl (by intro v; kernel_rfl)

/- 22 pagewatch/pagewatchref39.Close: not told by a law: run where it is called -/

def l23_0_6 (v : ((Int × (List (List Int)) × Int × Unit) × ((List Int) × Unit))) : Option (((Int × (List (List Int)) × Int × Unit) × ((List Int) × Unit)) ⊕ (((Bool × Unit) × ((List Int) × Unit)) ⊕ ((Unit) × ((List Int) × Unit)))) :=
bif (decide ((v.1.1 : Int) < v.1.2.2.1)) then (Abs.rowAt v.1.2.1 v.1.1 fun e31 _ =>
Abs.rowAt e31 0 fun e32 _ =>
bif ((e32 : Int) == 1099511627776) then (some (.inr (.inl ((false, ()), ([], ())))))
else (Abs.rowAt v.1.2.1 v.1.1 fun e33 _ =>
Abs.rowAt e33 0 fun e34 _ =>
bif (decide (v.2.1.length + [(w64 (0 - e34))].length ≤ 4294967296)) then
some (.inl (((w64 (v.1.1 + 1)), (v.1.2.1, (v.1.2.2.1, ()))), ((v.2.1 ++ [(w64 (0 - e34))]), ())))
else none))
else (some (.inr (.inr ((), (v.2.1, ())))))

/- pagewatch/pagewatchref39.Earliest -/
def i23 : Abs.Sg := ⟨[0, 1], (.dat (.int .i64) (.dat (.row Z1) .nil)), .nil⟩

def o23 : Abs.Sg := ⟨[4, 5], (.st (.own (.int .i64) (0, 0)) (.dat .bool .nil)), (.arr (.int .i64) false .nil)⟩

def m23 (v : ((Int × Y2 × Unit) × (Unit))) : Option ((Bool × Unit) × ((List Int) × Unit)) :=
bif (!(cloB v.1.1 v.1.2.1)) then (some ((false, ()), ([], ())))
else ((loopT l23_0_6 ((0, ((cloL v.1.1 v.1.2.1), (v.1.1, ()))), ([], ()))).bind fun d35 =>
sumE d35 (fun d36 => (some ((d36.1.1, ()), (d36.2.1, ())))) (fun d37 => (some ((true, ()), (d37.2.1, ())))))

def sp23 : Abs.Spec := ⟨0, i23, o23, m23⟩

def an23 : Nat → Abs.FAn
  | 0 => Abs.FAn.mk (fun _ => none) (fun _ => none) (fun
    | 6 => some ⟨⟨[9, 6, 8, 0], (.dat (.int .i64) (.dat (.row (.row (.int .i64))) (.st (.own (.int .i64) (0, 0)) (.dat (.int .i64) .nil)))), (.arr (.int .i64) false .nil)⟩, (.more .ret ⟨[4, 5], (.st (.own (.int .i64) (0, 0)) (.dat .bool .nil)), (.arr (.int .i64) false .nil)⟩ (.one (.exit 0) ⟨[8], (.st (.own (.int .i64) (0, 0)) .nil), (.arr (.int .i64) false .nil)⟩))⟩
    | _ => none) (fun _ _ => 0)
  | _ => {}

theorem ok23 : Abs.SpecOK Try.prog 23 sp23 :=
  Abs.specOC_of (C := ctab) (mv := mvtab) ctab_ok (n := 12) (an := an23) (T := Abs.tabOf []) good foll (Abs.tabOf_ok _ (fun _ h => by cases h)) rfl (by intro v; kernel_rfl)

/- pagewatch/pagewatchref25.In -/
def i32 : Abs.Sg := ⟨[0, 1, 2], (.dat (.int .i64) (.dat (.int .i64) (.dat (.int .i64) .nil))), .nil⟩

def o32 : Abs.Sg := ⟨[6], (.dat .bool .nil), .nil⟩

def m32 (v : (Y5 × (Unit))) : Option Y6 :=
((bif (decide ((v.1.1 : Int) ≥ v.1.2.1)) then (some (((decide ((v.1.1 : Int) ≤ v.1.2.2.1)), ()), ()))
else (some ((false, ()), ()))) : Option Y6).bind fun v1 =>
some ((v1.1.1, ()), ())

def sp32 : Abs.Spec := ⟨0, i32, o32, m32⟩

def an32 : Nat → Abs.FAn
  | 0 => Abs.FAn.mk (fun
    | 1 => some ⟨[6], (.dat .bool .nil), .nil⟩
    | _ => none) (fun _ => none) (fun _ => none) (fun _ _ => 0)
  | _ => {}

theorem ok32 : Abs.SpecOK Try.prog 32 sp32 :=
  Abs.specOC_of (C := ctab) (mv := mvtab) ctab_ok (n := 12) (an := an32) (T := Abs.tabOf []) good foll (Abs.tabOf_ok _ (fun _ h => by cases h)) rfl (by intro v; kernel_rfl)

def l25_0_4 (v : ((Int × Y2 × Int × Unit) × (Unit))) : Option (((Int × Y2 × Int × Unit) × (Unit)) ⊕ (Y6 ⊕ ((Unit) × (Unit)))) :=
let x62 := (decide ((v.1.1 : Int) < (v.1.2.1.length : Int)))
bif x62 then (((Abs.rowAt v.1.2.1 v.1.1 fun e63 _ =>
(m32 ((e63.1, (0, ((w64 (v.1.2.2.1 - 1)), ()))), ())).bind fun u64 =>
bif (!u64.1.1) then (some ((true, (v.1.2.1, (v.1.2.2.1, (v.1.1, ())))), ()))
else (Abs.rowAt v.1.2.1 v.1.1 fun e65 _ =>
(m32 ((e65.2.1, (0, ((w64 (v.1.2.2.1 - 1)), ()))), ())).bind fun u66 =>
bif (!u66.1.1) then (some ((true, (v.1.2.1, (v.1.2.2.1, (v.1.1, ())))), ()))
else (Abs.rowAt v.1.2.1 v.1.1 fun e67 _ =>
(m32 ((e67.2.2.1, ((-17179869184), (17179869184, ()))), ())).bind fun u68 =>
some (((!u68.1.1), (v.1.2.1, (v.1.2.2.1, (v.1.1, ())))), ())))) : Option ((Bool × Y2 × Int × Int × Unit) × (Unit))).bind fun v69 =>
bif v69.1.1 then (some (.inr (.inl ((false, ()), ()))))
else (some (.inl (((w64 (v69.1.2.2.2.1 + 1)), (v69.1.2.1, (v69.1.2.2.1, ()))), ()))))
else (some (.inr (.inr ((), ()))))

/- pagewatch/pagewatchref39.Valid -/
def i25 : Abs.Sg := ⟨[0, 1], (.dat (.int .i64) (.dat (.row Z1) .nil)), .nil⟩

def o25 : Abs.Sg := ⟨[4], (.dat .bool .nil), .nil⟩

def m25 (v : ((Int × Y2 × Unit) × (Unit))) : Option Y6 :=
(((m32 ((v.1.1, (1, (41, ()))), ())).bind fun u60 =>
bif (!u60.1.1) then (some ((true, (v.1.2.1, (v.1.1, ()))), ()))
else (some (((decide (((v.1.2.1.length : Int) : Int) > 4000)), (v.1.2.1, (v.1.1, ()))), ()))) : Option ((Bool × Y2 × Int × Unit) × (Unit))).bind fun v61 =>
bif v61.1.1 then (some ((false, ()), ()))
else ((loopT l25_0_4 ((0, (v61.1.2.1, (v61.1.2.2.1, ()))), ())).bind fun d70 =>
sumE d70 (fun d71 => (some ((d71.1.1, ()), ()))) (fun d72 => (some ((true, ()), ()))))

def sp25 : Abs.Spec := ⟨0, i25, o25, m25⟩

def an25 : Nat → Abs.FAn
  | 0 => Abs.FAn.mk (fun
    | 6 => some ⟨[48, 1, 0, 5], (.dat .bool (.dat (.row Z1) (.dat (.int .i64) (.dat (.int .i64) .nil)))), .nil⟩
    | 1 => some ⟨[13, 1, 0], (.dat .bool (.dat (.row Z1) (.dat (.int .i64) .nil))), .nil⟩
    | _ => none) (fun _ => none) (fun
    | 4 => some ⟨⟨[5, 1, 0], (.dat (.int .i64) (.dat (.row Z1) (.dat (.int .i64) .nil))), .nil⟩, (.more .ret ⟨[4], (.dat .bool .nil), .nil⟩ (.one (.exit 0) ⟨[], .nil, .nil⟩))⟩
    | _ => none) (fun _ _ => 0)
  | _ => {}

theorem ok25 : Abs.SpecOK Try.prog 25 sp25 :=
  Abs.specOC_of (C := ctab) (mv := mvtab) ctab_ok (n := 12) (an := an25) (T := Abs.tabOf [(32, sp32)]) good foll (Abs.tabOf_ok _ (by simp only [List.forall_mem_cons]; exact ⟨ok32, fun _ h => by cases h⟩)) rfl (by intro v; kernel_rfl)

def l20_0_4 (v : ((Int × (List (List Int)) × (List (List Int)) × Int × Unit) × (Unit))) : Option (((Int × (List (List Int)) × (List (List Int)) × Int × Unit) × (Unit)) ⊕ (Y6 ⊕ ((Unit) × (Unit)))) :=
bif (decide ((v.1.1 : Int) < v.1.2.2.2.1)) then (Abs.rowAt v.1.2.2.1 v.1.1 fun e30 _ =>
Abs.rowAt v.1.2.1 v.1.1 fun e31 _ =>
(m26 ((e30, (e31, ())), ())).bind fun u32 =>
bif (!u32.1.1) then (some (.inr (.inl ((false, ()), ()))))
else (some (.inl (((w64 (v.1.1 + 1)), (v.1.2.1, (v.1.2.2.1, (v.1.2.2.2.1, ())))), ()))))
else (some (.inr (.inr ((), ()))))

/- pagewatch/pagewatchlaw39.same -/
def i20 : Abs.Sg := ⟨[0, 1], (.dat (.row (.row (.int .i64))) (.dat (.row (.row (.int .i64))) .nil)), .nil⟩

def o20 : Abs.Sg := ⟨[4], (.dat .bool .nil), .nil⟩

def m20 (v : (((List (List Int)) × (List (List Int)) × Unit) × (Unit))) : Option Y6 :=
let x29 := (((v.1.1.length : Int) : Int) != (v.1.2.1.length : Int))
bif x29 then (some ((false, ()), ()))
else ((loopT l20_0_4 ((0, (v.1.2.1, (v.1.1, ((v.1.1.length : Int), ())))), ())).bind fun d33 =>
sumE d33 (fun d34 => (some ((d34.1.1, ()), ()))) (fun d35 => (some ((true, ()), ()))))

def sp20 : Abs.Spec := ⟨0, i20, o20, m20⟩

def an20 : Nat → Abs.FAn
  | 0 => Abs.FAn.mk (fun _ => none) (fun _ => none) (fun
    | 4 => some ⟨⟨[13, 1, 0, 12], (.dat (.int .i64) (.dat (.row (.row (.int .i64))) (.dat (.row (.row (.int .i64))) (.dat (.int .i64) .nil)))), .nil⟩, (.more .ret ⟨[4], (.dat .bool .nil), .nil⟩ (.one (.exit 0) ⟨[], .nil, .nil⟩))⟩
    | _ => none) (fun _ _ => 0)
  | _ => {}

theorem ok20 : Abs.SpecOK Try.prog 20 sp20 :=
  Abs.specOC_of (C := ctab) (mv := mvtab) ctab_ok (n := 12) (an := an20) (T := Abs.tabOf [(26, sp26)]) good foll (Abs.tabOf_ok _ (by simp only [List.forall_mem_cons]; exact ⟨ok26, fun _ h => by cases h⟩)) rfl (by intro v; kernel_rfl)

/- 39 pagewatch/constraint.Needed$1: not told by a law: a closure -/

/- pagewatch/constraint.Implied -/
def i19 : Abs.Sg := ⟨[0, 1, 2], (.dat (.int .i64) (.dat (.row Z1) (.dat Z1 .nil))), .nil⟩

def o19 : Abs.Sg := ⟨[6], (.dat .bool .nil), .nil⟩

def m19 (v : ((Int × Y2 × Y5 × Unit) × (Unit))) : Option Y6 :=
((bif (cloB v.1.1 v.1.2.1) then ((m36 ((v.1.2.2.1.1, (0, ((w64 (v.1.1 - 1)), ()))), ())).bind fun u13 =>
bif u13.1.1 then ((m36 ((v.1.2.2.1.2.1, (0, ((w64 (v.1.1 - 1)), ()))), ())).bind fun u14 =>
bif u14.1.1 then (Abs.rowAt (cloL v.1.1 v.1.2.1) v.1.2.2.1.1 fun e15 _ =>
Abs.rowAt e15 v.1.2.2.1.2.1 fun e16 _ =>
bif ((e16 : Int) != 1099511627776) then (Abs.rowAt (cloL v.1.1 v.1.2.1) v.1.2.2.1.1 fun e17 _ =>
Abs.rowAt e17 v.1.2.2.1.2.1 fun e18 _ =>
some (((decide ((v.1.2.2.1.2.2.1 : Int) ≥ e18)), ()), ()))
else (some ((false, ()), ())))
else (some ((false, ()), ())))
else (some ((false, ()), ())))
else (some ((false, ()), ()))) : Option Y6).bind fun v19 =>
some ((v19.1.1, ()), ())

def sp19 : Abs.Spec := ⟨0, i19, o19, m19⟩

def an19 : Nat → Abs.FAn
  | 0 => Abs.FAn.mk (fun
    | 2 => some ⟨[6], (.dat .bool .nil), .nil⟩
    | _ => none) (fun _ => none) (fun _ => none) (fun _ _ => 0)
  | _ => {}

theorem ok19 : Abs.SpecOK Try.prog 19 sp19 :=
  Abs.specOC_of (C := ctab) (mv := mvtab) ctab_ok (n := 12) (an := an19) (T := Abs.tabOf [(36, sp36)]) good foll (Abs.tabOf_ok _ (by simp only [List.forall_mem_cons]; exact ⟨ok36, fun _ h => by cases h⟩)) rfl (by intro v; kernel_rfl)

def l18_0_6 (v : (Y5 × ((Unit) × (Y2 × Unit) × (List Bool) × Unit))) : Option ((Y5 × ((Unit) × (Y2 × Unit) × (List Bool) × Unit)) ⊕ ((Int × Unit) × ((Unit) × (Y2 × Unit) × (List Bool) × Unit))) :=
bif (decide ((v.1.1 : Int) < v.1.2.2.1)) then (bif (decide ((0 : Int) ≤ v.1.1 ∧ (v.1.1 : Int) < v.2.2.2.1.length)) then
bif (decide (v.1.1.toNat < v.2.2.2.1.length)) then
some (.inl (((w64 (v.1.1 + 1)), (v.1.2.1, (v.1.2.2.1, ()))), ((), ((v.2.2.1.1, ()), ((v.2.2.2.1.set v.1.1.toNat true), ())))))
else none
else none)
else (some (.inr ((v.1.2.1, ()), ((), ((v.2.2.1.1, ()), (v.2.2.2.1, ()))))))

def l18_1_2 (v : ((Int × Y2 × Int × Unit) × ((Y2 × Unit) × (Unit) × (List Bool) × Y2 × Unit))) : Option (((Int × Y2 × Int × Unit) × ((Y2 × Unit) × (Unit) × (List Bool) × Y2 × Unit)) ⊕ ((Unit) × ((Y2 × Unit) × (Unit) × (List Bool) × Y2 × Unit))) :=
bif (decide ((v.1.1 : Int) < v.1.2.2.1)) then (((Abs.rowAt v.1.2.1 v.1.1 fun e71 _ =>
bif (decide ((0 : Int) ≤ v.1.1 ∧ (v.1.1 : Int) < v.2.2.2.1.length)) then
(v.2.2.2.1[v.1.1.toNat]?).bind fun e72 =>
bif e72 then (bif (decide (v.2.2.2.2.1.length + ([e71] : List Y5).length ≤ 4294967296)) then
let x73 := (v.2.2.2.2.1 ++ ([e71] : List Y5))
some ((v.1.2.1, (v.1.2.2.1, (v.1.1, ()))), ((v.2.1.1, ()), ((), (v.2.2.2.1, (x73, ())))))
else none)
else (some ((v.1.2.1, (v.1.2.2.1, (v.1.1, ()))), ((v.2.1.1, ()), ((), (v.2.2.2.1, (v.2.2.2.2.1, ()))))))
else none) : Option ((Y2 × Int × Int × Unit) × ((Y2 × Unit) × (Unit) × (List Bool) × Y2 × Unit))).bind fun v74 =>
some (.inl (((w64 (v74.1.2.2.1 + 1)), (v74.1.1, (v74.1.2.1, ()))), ((v74.2.1.1, ()), ((), (v74.2.2.2.1, (v74.2.2.2.2.1, ())))))))
else (some (.inr ((), ((v.2.1.1, ()), ((), (v.2.2.2.1, (v.2.2.2.2.1, ())))))))

def l18_0_13 (v : ((Int × Int × Y2 × Int × Unit) × ((List Int) × (Unit) × (Y2 × Unit) × (List Bool) × Unit))) : Option (((Int × Int × Y2 × Int × Unit) × ((List Int) × (Unit) × (Y2 × Unit) × (List Bool) × Unit)) ⊕ ((Unit) × ((List Int) × Unit))) :=
bif (decide ((v.1.1 : Int) < v.1.2.2.2.1)) then (((Abs.rowAt v.1.2.2.1 v.1.1 fun e70 _ =>
bif (decide ((0 : Int) ≤ v.1.1 ∧ (v.1.1 : Int) < v.2.2.2.2.1.length)) then
bif (decide (v.1.1.toNat < v.2.2.2.2.1.length)) then
(loopT l18_1_2 ((0, (v.2.2.2.1.1, ((v.2.2.2.1.1.length : Int), ()))), ((v.2.2.2.1.1, ()), ((), ((v.2.2.2.2.1.set v.1.1.toNat false), ([], ())))))).bind fun d75 =>
bif (decide (d75.2.2.2.1.length = (v.2.2.2.2.1.set v.1.1.toNat false).length) && true) then
(m19 ((v.1.2.1, (d75.2.2.2.2.1, (e70, ()))), ())).bind fun u76 =>
bif (!u76.1.1) then (bif (decide ((0 : Int) ≤ v.1.1 ∧ (v.1.1 : Int) < d75.2.2.2.1.length)) then
bif (decide (v.1.1.toNat < d75.2.2.2.1.length)) then
bif (decide (v.2.1.length + [v.1.1].length ≤ 4294967296)) then
some ((v.1.2.1, (v.1.2.2.1, (v.1.2.2.2.1, (v.1.1, ())))), ((v.2.1 ++ [v.1.1]), ((), ((d75.2.1.1, ()), ((d75.2.2.2.1.set v.1.1.toNat true), ())))))
else none
else none
else none)
else (some ((v.1.2.1, (v.1.2.2.1, (v.1.2.2.2.1, (v.1.1, ())))), (v.2.1, ((), ((d75.2.1.1, ()), (d75.2.2.2.1, ()))))))
else none
else none
else none) : Option ((Int × Y2 × Int × Int × Unit) × ((List Int) × (Unit) × (Y2 × Unit) × (List Bool) × Unit))).bind fun v77 =>
some (.inl (((w64 (v77.1.2.2.2.1 + 1)), (v77.1.1, (v77.1.2.1, (v77.1.2.2.1, ())))), (v77.2.1, ((), ((v77.2.2.2.1.1, ()), (v77.2.2.2.2.1, ())))))))
else (some (.inr ((), (v.2.1, ()))))

/- pagewatch/constraint.Needed -/
def i18 : Abs.Sg := ⟨[0, 1], (.dat (.int .i64) (.dat (.row Z1) .nil)), .nil⟩

def o18 : Abs.Sg := ⟨[4], (.st (.own (.int .i64) (0, 0)) .nil), (.arr (.int .i64) false .nil)⟩

def m18 (v : ((Int × Y2 × Unit) × (Unit))) : Option ((Unit) × ((List Int) × Unit)) :=
bif (!(cloB v.1.1 v.1.2.1)) then (some ((), ([], ())))
else (bif (decide ((0 : Int) ≤ (v.1.2.1.length : Int) ∧ ((v.1.2.1.length : Int) : Int) ≤ (v.1.2.1.length : Int) ∧ ((v.1.2.1.length : Int) : Int) ≤ 4294967296)) then
(loopT l18_0_6 ((0, (v.1.1, ((((List.replicate (v.1.2.1.length : Int).toNat (false : Bool)).length : Nat) : Int), ()))), ((), ((v.1.2.1, ()), ((List.replicate (v.1.2.1.length : Int).toNat (false : Bool)), ()))))).bind fun d69 =>
(loopT l18_0_13 ((0, (d69.1.1, (d69.2.2.1.1, ((d69.2.2.1.1.length : Int), ())))), ([], ((), ((d69.2.2.1.1, ()), (d69.2.2.2.1, ())))))).bind fun d78 =>
some ((), (d78.2.1, ()))
else none)

def sp18 : Abs.Spec := ⟨0, i18, o18, m18⟩

def an18 : Nat → Abs.FAn
  | 0 => Abs.FAn.mk (fun _ => none) (fun
    | 19 => some (⟨[10, 7, 9, 0, 34, 35, 36], (.st (.own (.int .i64) (0, 0)) (.st (.ptr (1, 0) 1 0 0) (.st (.clo 39 [((2, 0), 1, 0, 0), ((1, 0), 1, 0, 0)]) (.dat (.int .i64) (.dat (.row Z1) (.dat (.int .i64) (.dat (.int .i64) .nil))))))), (.arr (.int .i64) false (.box 1 (.st (.own .bool (3, 0)) .nil) (.box 1 (.dat (.row Z1) .nil) (.arr .bool false .nil))))⟩, none)
    | _ => none) (fun
    | 13 => some ⟨⟨[36, 10, 7, 9, 0, 34, 35], (.dat (.int .i64) (.st (.own (.int .i64) (0, 0)) (.st (.ptr (1, 0) 1 0 0) (.st (.clo 39 [((2, 0), 1, 0, 0), ((1, 0), 1, 0, 0)]) (.dat (.int .i64) (.dat (.row Z1) (.dat (.int .i64) .nil))))))), (.arr (.int .i64) false (.box 1 (.st (.own .bool (3, 0)) .nil) (.box 1 (.dat (.row Z1) .nil) (.arr .bool false .nil))))⟩, (.one (.exit 2) ⟨[10], (.st (.own (.int .i64) (0, 0)) .nil), (.arr (.int .i64) false .nil)⟩)⟩
    | 6 => some ⟨⟨[26, 7, 0, 3, 25], (.dat (.int .i64) (.st (.ptr (0, 0) 1 0 0) (.dat (.int .i64) (.st (.ptr (1, 0) 1 0 0) (.dat (.int .i64) .nil))))), (.box 1 (.st (.own .bool (2, 0)) .nil) (.box 1 (.dat (.row Z1) .nil) (.arr .bool false .nil)))⟩, (.one (.exit 0) ⟨[7, 0, 3], (.st (.ptr (0, 0) 1 0 0) (.dat (.int .i64) (.st (.ptr (1, 0) 1 0 0) .nil))), (.box 1 (.st (.own .bool (2, 0)) .nil) (.box 1 (.dat (.row Z1) .nil) (.arr .bool false .nil)))⟩)⟩
    | _ => none) (fun
    | 16, 2 => 1
    | _, _ => 0)
  | 1 => Abs.FAn.mk (fun _ => none) (fun
    | 6 => some (⟨[2, 1, 5, 6, 7], (.st (.own Z1 (3, 0)) (.st (.ptr (1, 0) 1 0 0) (.dat (.row Z1) (.dat (.int .i64) (.dat (.int .i64) .nil))))), (.box 1 (.dat (.row Z1) .nil) (.box 1 (.st (.own .bool (2, 0)) .nil) (.arr .bool false (.arr Z1 false .nil))))⟩, none)
    | _ => none) (fun
    | 2 => some ⟨⟨[7, 2, 1, 5, 6], (.dat (.int .i64) (.st (.own Z1 (3, 0)) (.st (.ptr (1, 0) 1 0 0) (.dat (.row Z1) (.dat (.int .i64) .nil))))), (.box 1 (.dat (.row Z1) .nil) (.box 1 (.st (.own .bool (2, 0)) .nil) (.arr .bool false (.arr Z1 false .nil))))⟩, (.one (.exit 0) ⟨[2], (.st (.own Z1 (3, 0)) .nil), (.box 1 (.dat (.row Z1) .nil) (.box 1 (.st (.own .bool (2, 0)) .nil) (.arr .bool false (.arr Z1 false .nil))))⟩)⟩
    | _ => none) (fun _ _ => 0)
  | _ => {}

theorem ok18 : Abs.SpecOK Try.prog 18 sp18 :=
  Abs.specOC_of (C := ctab) (mv := mvtab) ctab_ok (n := 12) (an := an18) (T := Abs.tabOf [(19, sp19)]) good foll (Abs.tabOf_ok _ (by simp only [List.forall_mem_cons]; exact ⟨ok19, fun _ h => by cases h⟩)) rfl (by intro v; kernel_rfl)

/- pagewatch/pagewatchref39.implied -/
def i41 : Abs.Sg := ⟨[0, 1], (.dat (.row (.row (.int .i64))) (.dat Z1 .nil)), .nil⟩

def o41 : Abs.Sg := ⟨[4], (.dat .bool .nil), .nil⟩

def m41 (v : (((List (List Int)) × Y5 × Unit) × (Unit))) : Option Y6 :=
bif ((v.1.2.1.1 : Int) == v.1.2.1.2.1) then (some (((decide ((v.1.2.1.2.2.1 : Int) ≥ 0)), ()), ()))
else (((Abs.rowAt v.1.1 v.1.2.1.1 fun e9 _ =>
Abs.rowAt e9 v.1.2.1.2.1 fun e10 _ =>
bif (decide ((e10 : Int) < 1099511627776)) then (Abs.rowAt v.1.1 v.1.2.1.1 fun e11 _ =>
Abs.rowAt e11 v.1.2.1.2.1 fun e12 _ =>
some (((decide ((e12 : Int) ≤ v.1.2.1.2.2.1)), ()), ()))
else (some ((false, ()), ()))) : Option Y6).bind fun v13 =>
some ((v13.1.1, ()), ()))

def sp41 : Abs.Spec := ⟨0, i41, o41, m41⟩

def an41 : Nat → Abs.FAn
  | 0 => Abs.FAn.mk (fun
    | 3 => some ⟨[4], (.dat .bool .nil), .nil⟩
    | _ => none) (fun _ => none) (fun _ => none) (fun _ _ => 0)
  | _ => {}

theorem ok41 : Abs.SpecOK Try.prog 41 sp41 :=
  Abs.specOC_of (C := ctab) (mv := mvtab) ctab_ok (n := 12) (an := an41) (T := Abs.tabOf []) good foll (Abs.tabOf_ok _ (fun _ h => by cases h)) rfl (by intro v; kernel_rfl)

/- pagewatch/pagewatchref39.Implied -/
def i29 : Abs.Sg := ⟨[0, 1, 2], (.dat (.int .i64) (.dat (.row Z1) (.dat Z1 .nil))), .nil⟩

def o29 : Abs.Sg := ⟨[6], (.dat .bool .nil), .nil⟩

def m29 (v : ((Int × Y2 × Y5 × Unit) × (Unit))) : Option Y6 :=
((bif (cloB v.1.1 v.1.2.1) then ((m32 ((v.1.2.2.1.1, (0, ((w64 (v.1.1 - 1)), ()))), ())).bind fun u7 =>
bif u7.1.1 then ((m32 ((v.1.2.2.1.2.1, (0, ((w64 (v.1.1 - 1)), ()))), ())).bind fun u8 =>
bif u8.1.1 then ((m41 (((cloL v.1.1 v.1.2.1), (v.1.2.2.1, ())), ())).bind fun u9 =>
some ((u9.1.1, ()), ()))
else (some ((false, ()), ())))
else (some ((false, ()), ())))
else (some ((false, ()), ()))) : Option Y6).bind fun v10 =>
some ((v10.1.1, ()), ())

def sp29 : Abs.Spec := ⟨0, i29, o29, m29⟩

def an29 : Nat → Abs.FAn
  | 0 => Abs.FAn.mk (fun
    | 2 => some ⟨[6], (.dat .bool .nil), .nil⟩
    | _ => none) (fun _ => none) (fun _ => none) (fun _ _ => 0)
  | _ => {}

theorem ok29 : Abs.SpecOK Try.prog 29 sp29 :=
  Abs.specOC_of (C := ctab) (mv := mvtab) ctab_ok (n := 12) (an := an29) (T := Abs.tabOf [(32, sp32), (41, sp41)]) good foll (Abs.tabOf_ok _ (by simp only [List.forall_mem_cons]; exact ⟨ok32, ok41, fun _ h => by cases h⟩)) rfl (by intro v; kernel_rfl)

def l27_0_10 (v : ((Int × Y2 × Int × Int × Unit) × (Y2 × (List Bool) × Unit))) : Option (((Int × Y2 × Int × Int × Unit) × (Y2 × (List Bool) × Unit)) ⊕ ((Y2 × Int × Int × Unit) × ((List Bool) × Y2 × Unit))) :=
let x89 := (decide ((v.1.1 : Int) < (v.1.2.1.length : Int)))
bif x89 then (((((bif ((v.1.1 : Int) != v.1.2.2.1) then (bif (decide ((0 : Int) ≤ v.1.1 ∧ (v.1.1 : Int) < v.2.2.1.length)) then
(v.2.2.1[v.1.1.toNat]?).bind fun e90 =>
some (((!e90), (v.1.2.1, (v.1.2.2.1, (v.1.2.2.2.1, (v.1.1, ()))))), (v.2.2.1, (v.2.1, ())))
else none)
else (some ((false, (v.1.2.1, (v.1.2.2.1, (v.1.2.2.2.1, (v.1.1, ()))))), (v.2.2.1, (v.2.1, ()))))) : Option ((Bool × Y2 × Int × Int × Int × Unit) × ((List Bool) × Y2 × Unit))).bind fun v91 =>
bif v91.1.1 then (Abs.rowAt v91.1.2.1 v91.1.2.2.2.2.1 fun e92 _ =>
bif (decide (v91.2.2.1.length + ([e92] : List Y5).length ≤ 4294967296)) then
let x93 := (v91.2.2.1 ++ ([e92] : List Y5))
some ((v91.1.2.1, (v91.1.2.2.1, (v91.1.2.2.2.1, (v91.1.2.2.2.2.1, ())))), (x93, (v91.2.1, ())))
else none)
else (some ((v91.1.2.1, (v91.1.2.2.1, (v91.1.2.2.2.1, (v91.1.2.2.2.2.1, ())))), (v91.2.2.1, (v91.2.1, ()))))) : Option ((Y2 × Int × Int × Int × Unit) × (Y2 × (List Bool) × Unit))).bind fun v94 =>
some (.inl (((w64 (v94.1.2.2.2.1 + 1)), (v94.1.1, (v94.1.2.1, (v94.1.2.2.1, ())))), (v94.2.1, (v94.2.2.1, ())))))
else (some (.inr ((v.1.2.1, (v.1.2.2.2.1, (v.1.2.2.1, ()))), (v.2.2.1, (v.2.1, ())))))

def l27_0_6 (v : ((Y2 × Int × Int × Unit) × ((List Bool) × Unit))) : Option (((Y2 × Int × Int × Unit) × ((List Bool) × Unit)) ⊕ ((Y2 × Unit) × ((List Bool) × Unit))) :=
let x88 := (decide ((v.1.2.1 : Int) < (v.1.1.length : Int)))
bif x88 then ((loopT l27_0_10 ((0, (v.1.1, (v.1.2.1, (v.1.2.2.1, ())))), ([], (v.2.1, ())))).bind fun d95 =>
Abs.rowAt d95.1.1 d95.1.2.2.1 fun e96 _ =>
(m29 ((d95.1.2.1, (d95.2.2.1, (e96, ()))), ())).bind fun u97 =>
bif (decide ((0 : Int) ≤ d95.1.2.2.1 ∧ (d95.1.2.2.1 : Int) < d95.2.1.length)) then
bif (decide (d95.1.2.2.1.toNat < d95.2.1.length)) then
some (.inl ((d95.1.1, ((w64 (d95.1.2.2.1 + 1)), (d95.1.2.1, ()))), ((d95.2.1.set d95.1.2.2.1.toNat u97.1.1), ())))
else none
else none)
else (some (.inr ((v.1.1, ()), (v.2.1, ()))))

def l27_0_17 (v : ((Int × Y2 × Unit) × ((List Int) × (List Bool) × Unit))) : Option (((Int × Y2 × Unit) × ((List Int) × (List Bool) × Unit)) ⊕ ((Unit) × ((List Int) × Unit))) :=
let x99 := (decide ((v.1.1 : Int) < (v.1.2.1.length : Int)))
bif x99 then (((bif (decide ((0 : Int) ≤ v.1.1 ∧ (v.1.1 : Int) < v.2.2.1.length)) then
(v.2.2.1[v.1.1.toNat]?).bind fun e100 =>
bif (!e100) then (bif (decide (v.2.1.length + [v.1.1].length ≤ 4294967296)) then
some ((v.1.2.1, (v.1.1, ())), ((v.2.1 ++ [v.1.1]), (v.2.2.1, ())))
else none)
else (some ((v.1.2.1, (v.1.1, ())), (v.2.1, (v.2.2.1, ()))))
else none) : Option ((Y2 × Int × Unit) × ((List Int) × (List Bool) × Unit))).bind fun v101 =>
some (.inl (((w64 (v101.1.2.1 + 1)), (v101.1.1, ())), (v101.2.1, (v101.2.2.1, ())))))
else (some (.inr ((), (v.2.1, ()))))

/- pagewatch/pagewatchref39.Needed -/
def i27 : Abs.Sg := ⟨[0, 1], (.dat (.int .i64) (.dat (.row Z1) .nil)), .nil⟩

def o27 : Abs.Sg := ⟨[4], (.st (.own (.int .i64) (0, 0)) .nil), (.arr (.int .i64) false .nil)⟩

def m27 (v : ((Int × Y2 × Unit) × (Unit))) : Option ((Unit) × ((List Int) × Unit)) :=
bif (!(cloB v.1.1 v.1.2.1)) then (some ((), ([], ())))
else (bif (decide ((0 : Int) ≤ (v.1.2.1.length : Int) ∧ ((v.1.2.1.length : Int) : Int) ≤ (v.1.2.1.length : Int) ∧ ((v.1.2.1.length : Int) : Int) ≤ 4294967296)) then
(loopT l27_0_6 ((v.1.2.1, (0, (v.1.1, ()))), ((List.replicate (v.1.2.1.length : Int).toNat (false : Bool)), ()))).bind fun d98 =>
(loopT l27_0_17 ((0, (d98.1.1, ())), ([], (d98.2.1, ())))).bind fun d102 =>
some ((), (d102.2.1, ()))
else none)

def sp27 : Abs.Spec := ⟨0, i27, o27, m27⟩

def an27 : Nat → Abs.FAn
  | 0 => Abs.FAn.mk (fun
    | 12 => some ⟨[45, 1, 7, 8, 0, 10, 9], (.dat .bool (.dat (.row Z1) (.st (.own .bool (0, 0)) (.dat (.int .i64) (.dat (.int .i64) (.dat (.int .i64) (.st (.own Z1 (1, 0)) .nil))))))), (.arr .bool false (.arr Z1 false .nil))⟩
    | _ => none) (fun
    | 18 => some (⟨[11, 7, 1, 12], (.st (.own (.int .i64) (0, 0)) (.st (.own .bool (1, 0)) (.dat (.row Z1) (.dat (.int .i64) .nil)))), (.arr (.int .i64) false (.arr .bool false .nil))⟩, none)
    | 11 => some (⟨[1, 9, 7, 8, 0, 10], (.dat (.row Z1) (.st (.own Z1 (0, 0)) (.st (.own .bool (1, 0)) (.dat (.int .i64) (.dat (.int .i64) (.dat (.int .i64) .nil)))))), (.arr Z1 false (.arr .bool false .nil))⟩, none)
    | _ => none) (fun
    | 17 => some ⟨⟨[12, 11, 7, 1], (.dat (.int .i64) (.st (.own (.int .i64) (0, 0)) (.st (.own .bool (1, 0)) (.dat (.row Z1) .nil)))), (.arr (.int .i64) false (.arr .bool false .nil))⟩, (.one (.exit 4) ⟨[11], (.st (.own (.int .i64) (0, 0)) .nil), (.arr (.int .i64) false .nil)⟩)⟩
    | 6 => some ⟨⟨[1, 7, 8, 0], (.dat (.row Z1) (.st (.own .bool (0, 0)) (.dat (.int .i64) (.dat (.int .i64) .nil)))), (.arr .bool false .nil)⟩, (.one (.exit 0) ⟨[7, 1], (.st (.own .bool (0, 0)) (.dat (.row Z1) .nil)), (.arr .bool false .nil)⟩)⟩
    | 10 => some ⟨⟨[10, 1, 9, 7, 8, 0], (.dat (.int .i64) (.dat (.row Z1) (.st (.own Z1 (0, 0)) (.st (.own .bool (1, 0)) (.dat (.int .i64) (.dat (.int .i64) .nil)))))), (.arr Z1 false (.arr .bool false .nil))⟩, (.one (.exit 2) ⟨[1, 7, 0, 8, 9], (.dat (.row Z1) (.st (.own .bool (0, 0)) (.dat (.int .i64) (.dat (.int .i64) (.st (.own Z1 (1, 0)) .nil))))), (.arr .bool false (.arr Z1 false .nil))⟩)⟩
    | _ => none) (fun _ _ => 0)
  | _ => {}

theorem ok27 : Abs.SpecOK Try.prog 27 sp27 :=
  Abs.specOC_of (C := ctab) (mv := mvtab) ctab_ok (n := 12) (an := an27) (T := Abs.tabOf [(29, sp29)]) good foll (Abs.tabOf_ok _ (by simp only [List.forall_mem_cons]; exact ⟨ok29, fun _ h => by cases h⟩)) rfl (by intro v; kernel_rfl)

def l33_0_2 (v : ((Int × Int × (List Int) × Unit) × (Unit))) : Option (((Int × Int × (List Int) × Unit) × (Unit)) ⊕ (Y6 ⊕ ((Unit) × (Unit)))) :=
let x18 := (decide ((v.1.1 : Int) < (v.1.2.2.1.length : Int)))
bif x18 then (Abs.rowAt v.1.2.2.1 v.1.1 fun e19 _ =>
bif ((e19 : Int) == v.1.2.1) then (some (.inr (.inl ((true, ()), ()))))
else (some (.inl (((w64 (v.1.1 + 1)), (v.1.2.1, (v.1.2.2.1, ()))), ()))))
else (some (.inr (.inr ((), ()))))

/- pagewatch/pagewatchref25.Has -/
def i33 : Abs.Sg := ⟨[0, 1], (.dat (.row (.int .i64)) (.dat (.int .i64) .nil)), .nil⟩

def o33 : Abs.Sg := ⟨[4], (.dat .bool .nil), .nil⟩

def m33 (v : (((List Int) × Int × Unit) × (Unit))) : Option Y6 :=
(loopT l33_0_2 ((0, (v.1.2.1, (v.1.1, ()))), ())).bind fun d20 =>
sumE d20 (fun d21 => (some ((d21.1.1, ()), ()))) (fun d22 => (some ((false, ()), ())))

def sp33 : Abs.Spec := ⟨0, i33, o33, m33⟩

def an33 : Nat → Abs.FAn
  | 0 => Abs.FAn.mk (fun _ => none) (fun _ => none) (fun
    | 2 => some ⟨⟨[5, 1, 0], (.dat (.int .i64) (.dat (.int .i64) (.dat (.row (.int .i64)) .nil))), .nil⟩, (.more .ret ⟨[4], (.dat .bool .nil), .nil⟩ (.one (.exit 0) ⟨[], .nil, .nil⟩))⟩
    | _ => none) (fun _ _ => 0)
  | _ => {}

theorem ok33 : Abs.SpecOK Try.prog 33 sp33 :=
  Abs.specOC_of (C := ctab) (mv := mvtab) ctab_ok (n := 12) (an := an33) (T := Abs.tabOf []) good foll (Abs.tabOf_ok _ (fun _ h => by cases h)) rfl (by intro v; kernel_rfl)

def l15_0_11 (v : ((Int × Y2 × Int × Bool × (List Int) × Int × Int × Int × Unit) × (Unit))) : Option (((Int × Y2 × Int × Bool × (List Int) × Int × Int × Int × Unit) × (Unit)) ⊕ ((Y2 × (List Int) × Int × Int × Int × Int × Bool × Unit) × (Unit))) :=
let x151 := (decide ((v.1.1 : Int) < (v.1.2.1.length : Int)))
bif x151 then (((((Abs.rowAt v.1.2.1 v.1.1 fun e152 _ =>
Abs.rowAt v.1.2.2.2.2.1 v.1.2.2.2.2.2.1 fun e153 _ =>
bif ((e152.1 : Int) == e153) then (Abs.rowAt v.1.2.1 v.1.1 fun e154 _ =>
bif (decide ((v.1.2.2.2.2.1.length : Int) ≠ (0 : Int))) then
let x155 := (((w64 (v.1.2.2.2.2.2.1 + 1)) : Int).tmod (v.1.2.2.2.2.1.length : Int))
Abs.rowAt v.1.2.2.2.2.1 x155 fun e156 _ =>
bif ((e154.2.1 : Int) == e156) then (bif (!v.1.2.2.2.1) then (some ((true, (v.1.2.1, (v.1.2.2.2.2.1, (v.1.2.2.2.2.2.1, (v.1.2.2.2.2.2.2.1, (v.1.2.2.2.2.2.2.2.1, (v.1.1, (v.1.2.2.1, (v.1.2.2.2.1, ()))))))))), ()))
else (Abs.rowAt v.1.2.1 v.1.1 fun e157 _ =>
some (((decide ((e157.2.2.1 : Int) < v.1.2.2.1)), (v.1.2.1, (v.1.2.2.2.2.1, (v.1.2.2.2.2.2.1, (v.1.2.2.2.2.2.2.1, (v.1.2.2.2.2.2.2.2.1, (v.1.1, (v.1.2.2.1, (v.1.2.2.2.1, ()))))))))), ())))
else (some ((false, (v.1.2.1, (v.1.2.2.2.2.1, (v.1.2.2.2.2.2.1, (v.1.2.2.2.2.2.2.1, (v.1.2.2.2.2.2.2.2.1, (v.1.1, (v.1.2.2.1, (v.1.2.2.2.1, ()))))))))), ()))
else none)
else (some ((false, (v.1.2.1, (v.1.2.2.2.2.1, (v.1.2.2.2.2.2.1, (v.1.2.2.2.2.2.2.1, (v.1.2.2.2.2.2.2.2.1, (v.1.1, (v.1.2.2.1, (v.1.2.2.2.1, ()))))))))), ()))) : Option ((Bool × Y2 × (List Int) × Int × Int × Int × Int × Int × Bool × Unit) × (Unit))).bind fun v158 =>
bif v158.1.1 then (Abs.rowAt v158.1.2.1 v158.1.2.2.2.2.2.2.1 fun e159 _ =>
some ((v158.1.2.1, (e159.2.2.1, (true, (v158.1.2.2.1, (v158.1.2.2.2.1, (v158.1.2.2.2.2.1, (v158.1.2.2.2.2.2.1, (v158.1.2.2.2.2.2.2.1, ())))))))), ()))
else (some ((v158.1.2.1, (v158.1.2.2.2.2.2.2.2.1, (v158.1.2.2.2.2.2.2.2.2.1, (v158.1.2.2.1, (v158.1.2.2.2.1, (v158.1.2.2.2.2.1, (v158.1.2.2.2.2.2.1, (v158.1.2.2.2.2.2.2.1, ())))))))), ()))) : Option ((Y2 × Int × Bool × (List Int) × Int × Int × Int × Int × Unit) × (Unit))).bind fun v160 =>
some (.inl (((w64 (v160.1.2.2.2.2.2.2.2.1 + 1)), (v160.1.1, (v160.1.2.1, (v160.1.2.2.1, (v160.1.2.2.2.1, (v160.1.2.2.2.2.1, (v160.1.2.2.2.2.2.1, (v160.1.2.2.2.2.2.2.1, ())))))))), ())))
else (some (.inr ((v.1.2.1, (v.1.2.2.2.2.1, (v.1.2.2.2.2.2.2.1, (v.1.2.2.2.2.2.1, (v.1.2.2.1, (v.1.2.2.2.2.2.2.2.1, (v.1.2.2.2.1, ()))))))), ())))

def l15_0_5 (v : ((Y2 × (List Int) × Int × Int × Int × Unit) × (Unit))) : Option (((Y2 × (List Int) × Int × Int × Int × Unit) × (Unit)) ⊕ (Y6 ⊕ ((Int × Unit) × (Unit)))) :=
let x145 := (decide ((v.1.2.2.1 : Int) < (v.1.2.1.length : Int)))
bif x145 then (((Abs.rowAt v.1.2.1 v.1.2.2.1 fun e146 _ =>
(m32 ((e146, (0, ((w64 (v.1.2.2.2.2.1 - 1)), ()))), ())).bind fun u147 =>
bif (!u147.1.1) then (some ((true, (v.1.1, (v.1.2.1, (v.1.2.2.1, (v.1.2.2.2.2.1, (v.1.2.2.2.1, ())))))), ()))
else (bif (decide ((0 : Int) ≤ v.1.2.2.1)) then
bif (decide (0 ≤ v.1.2.2.1.toNat ∧ v.1.2.2.1.toNat ≤ v.1.2.1.length)) then
Abs.rowAt v.1.2.1 v.1.2.2.1 fun e148 _ =>
(m33 (((v.1.2.1.take v.1.2.2.1.toNat), (e148, ())), ())).bind fun u149 =>
some ((u149.1.1, (v.1.1, (v.1.2.1, (v.1.2.2.1, (v.1.2.2.2.2.1, (v.1.2.2.2.1, ())))))), ())
else none
else none)) : Option ((Bool × Y2 × (List Int) × Int × Int × Int × Unit) × (Unit))).bind fun v150 =>
bif v150.1.1 then (some (.inr (.inl ((false, ()), ()))))
else ((loopT l15_0_11 ((0, (v150.1.2.1, (0, (false, (v150.1.2.2.1, (v150.1.2.2.2.1, (v150.1.2.2.2.2.1, (v150.1.2.2.2.2.2.1, ())))))))), ())).bind fun d161 =>
bif (!d161.1.2.2.2.2.2.2.1) then (some (.inr (.inl ((false, ()), ()))))
else (some (.inl ((d161.1.1, (d161.1.2.1, ((w64 (d161.1.2.2.2.1 + 1)), ((w64 (d161.1.2.2.2.2.2.1 + d161.1.2.2.2.2.1)), (d161.1.2.2.1, ()))))), ())))))
else (some (.inr (.inr ((v.1.2.2.2.1, ()), ()))))

/- pagewatch/pagewatchref39.Contradicts -/
def i15 : Abs.Sg := ⟨[0, 1, 2], (.dat (.int .i64) (.dat (.row Z1) (.dat (.row (.int .i64)) .nil))), .nil⟩

def o15 : Abs.Sg := ⟨[6], (.dat .bool .nil), .nil⟩

def m15 (v : ((Int × Y2 × (List Int) × Unit) × (Unit))) : Option Y6 :=
(((m25 ((v.1.1, (v.1.2.1, ())), ())).bind fun u143 =>
bif (!u143.1.1) then (some ((true, (v.1.2.1, (v.1.2.2.1, (v.1.1, ())))), ()))
else (some (((((v.1.2.2.1.length : Int) : Int) == 0), (v.1.2.1, (v.1.2.2.1, (v.1.1, ())))), ()))) : Option ((Bool × Y2 × (List Int) × Int × Unit) × (Unit))).bind fun v144 =>
bif v144.1.1 then (some ((false, ()), ()))
else ((loopT l15_0_5 ((v144.1.2.1, (v144.1.2.2.1, (0, (0, (v144.1.2.2.2.1, ()))))), ())).bind fun d162 =>
sumE d162 (fun d163 => (some ((d163.1.1, ()), ()))) (fun d164 => (some (((decide ((d164.1.1 : Int) < 0)), ()), ()))))

def sp15 : Abs.Spec := ⟨0, i15, o15, m15⟩

def an15 : Nat → Abs.FAn
  | 0 => Abs.FAn.mk (fun
    | 13 => some ⟨[89, 1, 2, 8, 0, 7, 11, 9, 10], (.dat .bool (.dat (.row Z1) (.dat (.row (.int .i64)) (.dat (.int .i64) (.dat (.int .i64) (.dat (.int .i64) (.dat (.int .i64) (.dat (.int .i64) (.dat .bool .nil))))))))), .nil⟩
    | 7 => some ⟨[44, 1, 2, 8, 0, 7], (.dat .bool (.dat (.row Z1) (.dat (.row (.int .i64)) (.dat (.int .i64) (.dat (.int .i64) (.dat (.int .i64) .nil)))))), .nil⟩
    | 1 => some ⟨[20, 1, 2, 0], (.dat .bool (.dat (.row Z1) (.dat (.row (.int .i64)) (.dat (.int .i64) .nil)))), .nil⟩
    | _ => none) (fun
    | 12 => some (⟨[1, 9, 10, 2, 8, 0, 7, 11], (.dat (.row Z1) (.dat (.int .i64) (.dat .bool (.dat (.row (.int .i64)) (.dat (.int .i64) (.dat (.int .i64) (.dat (.int .i64) (.dat (.int .i64) .nil)))))))), .nil⟩, none)
    | _ => none) (fun
    | 5 => some ⟨⟨[1, 2, 8, 7, 0], (.dat (.row Z1) (.dat (.row (.int .i64)) (.dat (.int .i64) (.dat (.int .i64) (.dat (.int .i64) .nil))))), .nil⟩, (.more .ret ⟨[6], (.dat .bool .nil), .nil⟩ (.one (.exit 0) ⟨[7], (.dat (.int .i64) .nil), .nil⟩))⟩
    | 11 => some ⟨⟨[11, 1, 9, 10, 2, 8, 0, 7], (.dat (.int .i64) (.dat (.row Z1) (.dat (.int .i64) (.dat .bool (.dat (.row (.int .i64)) (.dat (.int .i64) (.dat (.int .i64) (.dat (.int .i64) .nil)))))))), .nil⟩, (.one (.exit 2) ⟨[1, 2, 0, 8, 9, 7, 10], (.dat (.row Z1) (.dat (.row (.int .i64)) (.dat (.int .i64) (.dat (.int .i64) (.dat (.int .i64) (.dat (.int .i64) (.dat .bool .nil))))))), .nil⟩)⟩
    | _ => none) (fun _ _ => 0)
  | _ => {}

theorem ok15 : Abs.SpecOK Try.prog 15 sp15 :=
  Abs.specOC_of (C := ctab) (mv := mvtab) ctab_ok (n := 12) (an := an15) (T := Abs.tabOf [(25, sp25), (32, sp32), (33, sp33)]) good foll (Abs.tabOf_ok _ (by simp only [List.forall_mem_cons]; exact ⟨ok25, ok32, ok33, fun _ h => by cases h⟩)) rfl (by intro v; kernel_rfl)

/- 42 slices.IndexFunc[[]int,int]: not told by a law: a parameter -/

/- 34 slices.ContainsFunc[[]int,int]: not told by a law: a parameter -/

/- pagewatch/constraint.Fits$1 -/
def i35 : Abs.Sg := ⟨[0], (.dat (.int .i64) .nil), .nil⟩

def o35 : Abs.Sg := ⟨[2], (.dat .bool .nil), .nil⟩

def m35 (v : ((Int × Unit) × (Unit))) : Option Y6 :=
(m36 ((v.1.1, ((-1099511627776), (1099511627776, ()))), ())).bind fun u2 =>
some (((!u2.1.1), ()), ())

def sp35 : Abs.Spec := ⟨0, i35, o35, m35⟩

def an35 : Nat → Abs.FAn
  | _ => {}

theorem ok35 : Abs.SpecOK Try.prog 35 sp35 :=
  Abs.specOC_of (C := ctab) (mv := mvtab) ctab_ok (n := 12) (an := an35) (T := Abs.tabOf [(36, sp36)]) good foll (Abs.tabOf_ok _ (by simp only [List.forall_mem_cons]; exact ⟨ok36, fun _ h => by cases h⟩)) rfl (by intro v; kernel_rfl)

/- 38 pagewatch/constraint.Fits$2: not told by a law: a closure -/

def l16_2_2 (v : ((Int × (List Int) × Int × Unit) × (Unit))) : Option (((Int × (List Int) × Int × Unit) × (Unit)) ⊕ (((Int × Unit) × (Unit)) ⊕ ((Unit) × (Unit)))) :=
bif (decide ((v.1.1 : Int) < v.1.2.2.1)) then (Abs.rowAt v.1.2.1 v.1.1 fun e92 _ =>
(m35 ((e92, ()), ())).bind fun u93 =>
bif u93.1.1 then (some (.inr (.inl ((v.1.1, ()), ()))))
else (some (.inl (((w64 (v.1.1 + 1)), (v.1.2.1, (v.1.2.2.1, ()))), ()))))
else (some (.inr (.inr ((), ()))))

def l16_4_2 (v : ((Int × Y2 × Int × Unit) × (((List Int) × Unit) × Unit))) : Option (((Int × Y2 × Int × Unit) × (((List Int) × Unit) × Unit)) ⊕ (((Int × Unit) × (((List Int) × Unit) × Unit)) ⊕ ((Unit) × (((List Int) × Unit) × Unit)))) :=
bif (decide ((v.1.1 : Int) < v.1.2.2.1)) then (Abs.rowAt v.1.2.1 v.1.1 fun e99 _ =>
Abs.rowAt v.2.1.1 e99.2.1 fun e100 _ =>
Abs.rowAt v.2.1.1 e99.1 fun e101 _ =>
let x102 := (decide (((w64 (e100 - e101)) : Int) > e99.2.2.1))
bif x102 then (some (.inr (.inl ((v.1.1, ()), ((v.2.1.1, ()), ())))))
else (some (.inl (((w64 (v.1.1 + 1)), (v.1.2.1, (v.1.2.2.1, ()))), ((v.2.1.1, ()), ())))))
else (some (.inr (.inr ((), ((v.2.1.1, ()), ())))))

/- pagewatch/constraint.Fits -/
def i16 : Abs.Sg := ⟨[0, 1, 2], (.dat (.int .i64) (.dat (.row Z1) (.dat (.row (.int .i64)) .nil))), .nil⟩

def o16 : Abs.Sg := ⟨[6], (.dat .bool .nil), .nil⟩

def m16 (v : ((Int × Y2 × (List Int) × Unit) × (Unit))) : Option Y6 :=
(((m24 ((v.1.1, (v.1.2.1, ())), ())).bind fun u91 =>
bif (!u91.1.1) then (some ((true, (v.1.2.1, ())), ((v.1.2.2.1, ()), ())))
else (bif (((v.1.2.2.1.length : Int) : Int) != v.1.1) then (some ((true, (v.1.2.1, ())), ((v.1.2.2.1, ()), ())))
else ((((loopT l16_2_2 ((0, (v.1.2.2.1, ((v.1.2.2.1.length : Int), ()))), ())).bind fun d94 =>
sumE d94 (fun d95 => (some (((decide ((d95.1.1 : Int) ≥ 0)), ()), ()))) (fun d96 => (some ((false, ()), ())))) : Option Y6).bind fun v97 =>
some ((v97.1.1, (v.1.2.1, ())), ((v.1.2.2.1, ()), ()))))) : Option ((Bool × Y2 × Unit) × (((List Int) × Unit) × Unit))).bind fun v98 =>
bif v98.1.1 then (some ((false, ()), ()))
else ((((loopT l16_4_2 ((0, (v98.1.2.1, ((v98.1.2.1.length : Int), ()))), ((v98.2.1.1, ()), ()))).bind fun d103 =>
sumE d103 (fun d104 => (some (((decide ((d104.1.1 : Int) ≥ 0)), ()), ((d104.2.1.1, ()), ())))) (fun d105 => (some ((false, ()), ((d105.2.1.1, ()), ()))))) : Option ((Bool × Unit) × (((List Int) × Unit) × Unit))).bind fun v106 =>
some (((!v106.1.1), ()), ()))

def sp16 : Abs.Spec := ⟨0, i16, o16, m16⟩

def an16 : Nat → Abs.FAn
  | 0 => Abs.FAn.mk (fun
    | 1 => some ⟨[20, 5, 1], (.dat .bool (.st (.ptr (0, 0) 1 0 0) (.dat (.row Z1) .nil))), (.box 1 (.dat (.row (.int .i64)) .nil) .nil)⟩
    | _ => none) (fun _ => none) (fun _ => none) (fun
    | 3, 2 => 3
    | 1, 12 => 1
    | _, _ => 0)
  | 1 => Abs.FAn.mk (fun
    | 1 => some ⟨[4], (.dat .bool .nil), .nil⟩
    | _ => none) (fun _ => none) (fun _ => none) (fun
    | 1, 2 => 2
    | _, _ => 0)
  | 2 => Abs.FAn.mk (fun _ => none) (fun _ => none) (fun
    | 2 => some ⟨⟨[8, 0, 1, 7], (.dat (.int .i64) (.dat (.row (.int .i64)) (.st (.clo 35 []) (.dat (.int .i64) .nil)))), .nil⟩, (.more .ret ⟨[4], (.dat (.int .i64) .nil), .nil⟩ (.one (.exit 0) ⟨[], .nil, .nil⟩))⟩
    | _ => none) (fun _ _ => 0)
  | 3 => Abs.FAn.mk (fun
    | 1 => some ⟨[4], (.dat .bool .nil), (.box 1 (.dat (.row (.int .i64)) .nil) .nil)⟩
    | _ => none) (fun _ => none) (fun _ => none) (fun
    | 1, 2 => 4
    | _, _ => 0)
  | 4 => Abs.FAn.mk (fun _ => none) (fun _ => none) (fun
    | 2 => some ⟨⟨[8, 0, 1, 7], (.dat (.int .i64) (.dat (.row Z1) (.st (.clo 38 [((0, 0), 1, 0, 0)]) (.dat (.int .i64) .nil)))), (.box 1 (.dat (.row (.int .i64)) .nil) .nil)⟩, (.more .ret ⟨[4], (.dat (.int .i64) .nil), (.box 1 (.dat (.row (.int .i64)) .nil) .nil)⟩ (.one (.exit 0) ⟨[], .nil, (.box 1 (.dat (.row (.int .i64)) .nil) .nil)⟩))⟩
    | _ => none) (fun
    | 4, 5 => 5
    | _, _ => 0)
  | _ => {}

theorem ok16 : Abs.SpecOK Try.prog 16 sp16 :=
  Abs.specOC_of (C := ctab) (mv := mvtab) ctab_ok (n := 12) (an := an16) (T := Abs.tabOf [(24, sp24), (35, sp35)]) good foll (Abs.tabOf_ok _ (by simp only [List.forall_mem_cons]; exact ⟨ok24, ok35, fun _ h => by cases h⟩)) rfl (by intro v; kernel_rfl)

def l28_0_4 (v : ((Int × (List Int) × Y2 × Int × Unit) × (Unit))) : Option (((Int × (List Int) × Y2 × Int × Unit) × (Unit)) ⊕ (Y6 ⊕ ((Y2 × (List Int) × Unit) × (Unit)))) :=
bif (decide ((v.1.1 : Int) < v.1.2.2.2.1)) then (Abs.rowAt v.1.2.1 v.1.1 fun e70 _ =>
(m32 ((e70, ((-1099511627776), (1099511627776, ()))), ())).bind fun u71 =>
bif (!u71.1.1) then (some (.inr (.inl ((false, ()), ()))))
else (some (.inl (((w64 (v.1.1 + 1)), (v.1.2.1, (v.1.2.2.1, (v.1.2.2.2.1, ())))), ()))))
else (some (.inr (.inr ((v.1.2.2.1, (v.1.2.1, ())), ()))))

def l28_0_9 (v : ((Int × Y2 × (List Int) × Unit) × (Unit))) : Option (((Int × Y2 × (List Int) × Unit) × (Unit)) ⊕ (Y6 ⊕ ((Unit) × (Unit)))) :=
let x75 := (decide ((v.1.1 : Int) < (v.1.2.1.length : Int)))
bif x75 then (Abs.rowAt v.1.2.1 v.1.1 fun e76 _ =>
Abs.rowAt v.1.2.2.1 e76.2.1 fun e77 _ =>
Abs.rowAt v.1.2.1 v.1.1 fun e78 _ =>
Abs.rowAt v.1.2.2.1 e78.1 fun e79 _ =>
Abs.rowAt v.1.2.1 v.1.1 fun e80 _ =>
bif (decide (((w64 (e77 - e79)) : Int) > e80.2.2.1)) then (some (.inr (.inl ((false, ()), ()))))
else (some (.inl (((w64 (v.1.1 + 1)), (v.1.2.1, (v.1.2.2.1, ()))), ()))))
else (some (.inr (.inr ((), ()))))

/- pagewatch/pagewatchref39.Fits -/
def i28 : Abs.Sg := ⟨[0, 1, 2], (.dat (.int .i64) (.dat (.row Z1) (.dat (.row (.int .i64)) .nil))), .nil⟩

def o28 : Abs.Sg := ⟨[6], (.dat .bool .nil), .nil⟩

def m28 (v : ((Int × Y2 × (List Int) × Unit) × (Unit))) : Option Y6 :=
(((m25 ((v.1.1, (v.1.2.1, ())), ())).bind fun u68 =>
bif (!u68.1.1) then (some ((true, (v.1.2.2.1, (v.1.2.1, (v.1.1, ())))), ()))
else (some (((((v.1.2.2.1.length : Int) : Int) != v.1.1), (v.1.2.2.1, (v.1.2.1, (v.1.1, ())))), ()))) : Option ((Bool × (List Int) × Y2 × Int × Unit) × (Unit))).bind fun v69 =>
bif v69.1.1 then (some ((false, ()), ()))
else ((loopT l28_0_4 ((0, (v69.1.2.1, (v69.1.2.2.1, (v69.1.2.2.2.1, ())))), ())).bind fun d72 =>
sumE d72 (fun d73 => (some ((d73.1.1, ()), ()))) (fun d74 => ((loopT l28_0_9 ((0, (d74.1.1, (d74.1.2.1, ()))), ())).bind fun d81 =>
sumE d81 (fun d82 => (some ((d82.1.1, ()), ()))) (fun d83 => (some ((true, ()), ()))))))

def sp28 : Abs.Spec := ⟨0, i28, o28, m28⟩

def an28 : Nat → Abs.FAn
  | 0 => Abs.FAn.mk (fun
    | 1 => some ⟨[18, 2, 1, 0], (.dat .bool (.dat (.row (.int .i64)) (.dat (.row Z1) (.dat (.int .i64) .nil)))), .nil⟩
    | _ => none) (fun _ => none) (fun
    | 9 => some ⟨⟨[8, 1, 2], (.dat (.int .i64) (.dat (.row Z1) (.dat (.row (.int .i64)) .nil))), .nil⟩, (.more .ret ⟨[6], (.dat .bool .nil), .nil⟩ (.one (.exit 2) ⟨[], .nil, .nil⟩))⟩
    | 4 => some ⟨⟨[7, 2, 1, 0], (.dat (.int .i64) (.dat (.row (.int .i64)) (.dat (.row Z1) (.dat (.int .i64) .nil)))), .nil⟩, (.more .ret ⟨[6], (.dat .bool .nil), .nil⟩ (.one (.exit 0) ⟨[1, 2], (.dat (.row Z1) (.dat (.row (.int .i64)) .nil)), .nil⟩))⟩
    | _ => none) (fun _ _ => 0)
  | _ => {}

theorem ok28 : Abs.SpecOK Try.prog 28 sp28 :=
  Abs.specOC_of (C := ctab) (mv := mvtab) ctab_ok (n := 12) (an := an28) (T := Abs.tabOf [(25, sp25), (32, sp32)]) good foll (Abs.tabOf_ok _ (by simp only [List.forall_mem_cons]; exact ⟨ok25, ok32, fun _ h => by cases h⟩)) rfl (by intro v; kernel_rfl)

def l7_0_29 (v : ((Int × Y2 × Int × (List Int) × Int × Int × Int × Int × Int × Int × Int × Unit) × ((List (List Int)) × (Y5 × Unit) × Y4 × (List Int) × (List Y2) × (Y5 × Unit) × Unit))) : Option (((Int × Y2 × Int × (List Int) × Int × Int × Int × Int × Int × Int × Int × Unit) × ((List (List Int)) × (Y5 × Unit) × Y4 × (List Int) × (List Y2) × (Y5 × Unit) × Unit)) ⊕ (Y6 ⊕ ((Y2 × (List Int) × Int × Int × Int × Int × Int × Int × Int × Unit) × ((Y5 × Unit) × Y4 × (List Int) × (List Y2) × (Y5 × Unit) × Unit)))) :=
let x441 := (decide ((v.1.1 : Int) < v.1.2.2.2.2.2.2.2.2.2.2.1))
bif x441 then (bif (decide ((0 : Int) ≤ v.1.1 ∧ (v.1.1 : Int) < v.2.1.length)) then
(v.2.1[v.1.1.toNat]?).bind fun e442 =>
(m16 ((v.1.2.2.1, (v.1.2.1, (e442, ()))), ())).bind fun u443 =>
(m28 ((v.1.2.2.1, (v.1.2.1, (e442, ()))), ())).bind fun u444 =>
bif (!(u443.1.1 == u444.1.1)) then (some (.inr (.inl ((false, ()), ()))))
else (some (.inl (((w64 (v.1.1 + 1)), (v.1.2.1, (v.1.2.2.1, (v.1.2.2.2.1, (v.1.2.2.2.2.1, (v.1.2.2.2.2.2.1, (v.1.2.2.2.2.2.2.1, (v.1.2.2.2.2.2.2.2.1, (v.1.2.2.2.2.2.2.2.2.1, (v.1.2.2.2.2.2.2.2.2.2.1, (v.1.2.2.2.2.2.2.2.2.2.2.1, ()))))))))))), (v.2.1, ((v.2.2.1.1, ()), ((v.2.2.2.1.1, ()), (v.2.2.2.2.1, (v.2.2.2.2.2.1, ((v.2.2.2.2.2.2.1.1, ()), ())))))))))
else none)
else (some (.inr (.inr ((v.1.2.1, (v.1.2.2.2.1, (v.1.2.2.2.2.1, (v.1.2.2.2.2.2.1, (v.1.2.2.2.2.2.2.1, (v.1.2.2.2.2.2.2.2.1, (v.1.2.2.2.2.2.2.2.2.1, (v.1.2.2.2.2.2.2.2.2.2.1, (v.1.2.2.1, ()))))))))), ((v.2.2.1.1, ()), ((v.2.2.2.1.1, ()), (v.2.2.2.2.1, (v.2.2.2.2.2.1, ((v.2.2.2.2.2.2.1.1, ()), ())))))))))

def l7_0_14 (v : ((Y2 × Int × (List Int) × Int × Int × Int × Int × Int × Unit) × ((Y5 × Unit) × Y4 × (List Int) × (List Y2) × Unit))) : Option (((Y2 × Int × (List Int) × Int × Int × Int × Int × Int × Unit) × ((Y5 × Unit) × Y4 × (List Int) × (List Y2) × Unit)) ⊕ (Y6 ⊕ (((List Int) × Int × Int × Int × Int × Unit) × ((Y5 × Unit) × Y4 × (List Y2) × Unit)))) :=
bif (decide ((v.1.2.1 : Int) < v.1.2.2.2.2.2.2.2.1)) then (bif (decide ((0 : Int) ≤ v.1.2.1 ∧ (v.1.2.1 : Int) < v.2.2.2.1.length)) then
(v.2.2.2.1[v.1.2.1.toNat]?).bind fun e416 =>
((bif (decide ((e416 : Int) > 50)) then (some ((v.1.1, (50, (v.1.2.2.1, (v.1.2.2.2.1, (v.1.2.2.2.2.1, (v.1.2.2.2.2.2.1, (v.1.2.2.2.2.2.2.1, (v.1.2.2.2.2.2.2.2.1, (v.1.2.1, ()))))))))), ((v.2.1.1, ()), ((v.2.2.1.1, ()), (v.2.2.2.1, (v.2.2.2.2.1, ()))))))
else (some ((v.1.1, (e416, (v.1.2.2.1, (v.1.2.2.2.1, (v.1.2.2.2.2.1, (v.1.2.2.2.2.2.1, (v.1.2.2.2.2.2.2.1, (v.1.2.2.2.2.2.2.2.1, (v.1.2.1, ()))))))))), ((v.2.1.1, ()), ((v.2.2.1.1, ()), (v.2.2.2.1, (v.2.2.2.2.1, ()))))))) : Option ((Y2 × Int × (List Int) × Int × Int × Int × Int × Int × Int × Unit) × ((Y5 × Unit) × Y4 × (List Int) × (List Y2) × Unit))).bind fun v417 =>
(m17 ((v417.1.2.1, (v417.1.1, ())), ())).bind fun u418 =>
(m23 ((v417.1.2.1, (v417.1.1, ())), ())).bind fun u419 =>
(((m24 ((v417.1.2.1, (v417.1.1, ())), ())).bind fun u420 =>
(m25 ((v417.1.2.1, (v417.1.1, ())), ())).bind fun u421 =>
bif (!(u420.1.1 == u421.1.1)) then (some ((true, (v417.1.1, (v417.1.2.1, (v417.1.2.2.1, (v417.1.2.2.2.1, (v417.1.2.2.2.2.1, (v417.1.2.2.2.2.2.1, (v417.1.2.2.2.2.2.2.1, (v417.1.2.2.2.2.2.2.2.1, (v417.1.2.2.2.2.2.2.2.2.1, ((cloB v417.1.2.1 v417.1.1), ()))))))))))), ((v417.2.1.1, ()), ((v417.2.2.1.1, ()), (v417.2.2.2.1, (v417.2.2.2.2.1, (u418.2.1, ())))))))
else (let x422 := (!((cloB v417.1.2.1 v417.1.1) == (cloB v417.1.2.1 v417.1.1)))
bif x422 then (some ((true, (v417.1.1, (v417.1.2.1, (v417.1.2.2.1, (v417.1.2.2.2.1, (v417.1.2.2.2.2.1, (v417.1.2.2.2.2.2.1, (v417.1.2.2.2.2.2.2.1, (v417.1.2.2.2.2.2.2.2.1, (v417.1.2.2.2.2.2.2.2.2.1, ((cloB v417.1.2.1 v417.1.1), ()))))))))))), ((v417.2.1.1, ()), ((v417.2.2.1.1, ()), (v417.2.2.2.1, (v417.2.2.2.2.1, (u418.2.1, ())))))))
else ((m20 (((cloL v417.1.2.1 v417.1.1), ((cloL v417.1.2.1 v417.1.1), ())), ())).bind fun u423 =>
bif (!u423.1.1) then (some ((true, (v417.1.1, (v417.1.2.1, (v417.1.2.2.1, (v417.1.2.2.2.1, (v417.1.2.2.2.2.1, (v417.1.2.2.2.2.2.1, (v417.1.2.2.2.2.2.2.1, (v417.1.2.2.2.2.2.2.2.1, (v417.1.2.2.2.2.2.2.2.2.1, ((cloB v417.1.2.1 v417.1.1), ()))))))))))), ((v417.2.1.1, ()), ((v417.2.2.1.1, ()), (v417.2.2.2.1, (v417.2.2.2.2.1, (u418.2.1, ())))))))
else (bif (!(u418.1.1 == u419.1.1)) then (some ((true, (v417.1.1, (v417.1.2.1, (v417.1.2.2.1, (v417.1.2.2.2.1, (v417.1.2.2.2.2.1, (v417.1.2.2.2.2.2.1, (v417.1.2.2.2.2.2.2.1, (v417.1.2.2.2.2.2.2.2.1, (v417.1.2.2.2.2.2.2.2.2.1, ((cloB v417.1.2.1 v417.1.1), ()))))))))))), ((v417.2.1.1, ()), ((v417.2.2.1.1, ()), (v417.2.2.2.1, (v417.2.2.2.2.1, (u418.2.1, ())))))))
else ((m26 ((u418.2.1, (u419.2.1, ())), ())).bind fun u424 =>
bif (!u424.1.1) then (some ((true, (v417.1.1, (v417.1.2.1, (v417.1.2.2.1, (v417.1.2.2.2.1, (v417.1.2.2.2.2.1, (v417.1.2.2.2.2.2.1, (v417.1.2.2.2.2.2.2.1, (v417.1.2.2.2.2.2.2.2.1, (v417.1.2.2.2.2.2.2.2.2.1, ((cloB v417.1.2.1 v417.1.1), ()))))))))))), ((v417.2.1.1, ()), ((v417.2.2.1.1, ()), (v417.2.2.2.1, (v417.2.2.2.2.1, (u418.2.1, ())))))))
else ((m18 ((v417.1.2.1, (v417.1.1, ())), ())).bind fun u425 =>
(m27 ((v417.1.2.1, (v417.1.1, ())), ())).bind fun u426 =>
(m26 ((u425.2.1, (u426.2.1, ())), ())).bind fun u427 =>
some (((!u427.1.1), (v417.1.1, (v417.1.2.1, (v417.1.2.2.1, (v417.1.2.2.2.1, (v417.1.2.2.2.2.1, (v417.1.2.2.2.2.2.1, (v417.1.2.2.2.2.2.2.1, (v417.1.2.2.2.2.2.2.2.1, (v417.1.2.2.2.2.2.2.2.2.1, ((cloB v417.1.2.1 v417.1.1), ()))))))))))), ((v417.2.1.1, ()), ((v417.2.2.1.1, ()), (v417.2.2.2.1, (v417.2.2.2.2.1, (u418.2.1, ())))))))))))) : Option ((Bool × Y2 × Int × (List Int) × Int × Int × Int × Int × Int × Int × Bool × Unit) × ((Y5 × Unit) × Y4 × (List Int) × (List Y2) × (List Int) × Unit))).bind fun v428 =>
bif v428.1.1 then (some (.inr (.inl ((false, ()), ()))))
else ((m14 ((v428.1.2.2.1, (v428.1.2.1, ())), ())).bind fun u429 =>
(((m25 ((v428.1.2.2.1, (v428.1.2.1, ())), ())).bind fun u430 =>
bif u430.1.1 then (bif (!(u429.1.1 == (!v428.1.2.2.2.2.2.2.2.2.2.2.1))) then (some ((true, (v428.1.2.1, (v428.1.2.2.1, (v428.1.2.2.2.1, (v428.1.2.2.2.2.1, (v428.1.2.2.2.2.2.1, (v428.1.2.2.2.2.2.2.1, (v428.1.2.2.2.2.2.2.2.1, (v428.1.2.2.2.2.2.2.2.2.1, (v428.1.2.2.2.2.2.2.2.2.2.1, ())))))))))), ((v428.2.1.1, ()), ((v428.2.2.1.1, ()), (v428.2.2.2.1, (v428.2.2.2.2.1, (v428.2.2.2.2.2.1, ())))))))
else (bif u429.1.1 then ((m15 ((v428.1.2.2.1, (v428.1.2.1, (u429.2.1, ()))), ())).bind fun u431 =>
bif (!u431.1.1) then (some ((true, (v428.1.2.1, (v428.1.2.2.1, (v428.1.2.2.2.1, (v428.1.2.2.2.2.1, (v428.1.2.2.2.2.2.1, (v428.1.2.2.2.2.2.2.1, (v428.1.2.2.2.2.2.2.2.1, (v428.1.2.2.2.2.2.2.2.2.1, (v428.1.2.2.2.2.2.2.2.2.2.1, ())))))))))), ((v428.2.1.1, ()), ((v428.2.2.1.1, ()), (v428.2.2.2.1, (v428.2.2.2.2.1, (v428.2.2.2.2.2.1, ())))))))
else (bif (!u429.1.1) then (let x432 := (decide ((((u429.2.1.length : Nat) : Int) : Int) > 0))
some ((x432, (v428.1.2.1, (v428.1.2.2.1, (v428.1.2.2.2.1, (v428.1.2.2.2.2.1, (v428.1.2.2.2.2.2.1, (v428.1.2.2.2.2.2.2.1, (v428.1.2.2.2.2.2.2.2.1, (v428.1.2.2.2.2.2.2.2.2.1, (v428.1.2.2.2.2.2.2.2.2.2.1, ())))))))))), ((v428.2.1.1, ()), ((v428.2.2.1.1, ()), (v428.2.2.2.1, (v428.2.2.2.2.1, (v428.2.2.2.2.2.1, ())))))))
else (some ((false, (v428.1.2.1, (v428.1.2.2.1, (v428.1.2.2.2.1, (v428.1.2.2.2.2.1, (v428.1.2.2.2.2.2.1, (v428.1.2.2.2.2.2.2.1, (v428.1.2.2.2.2.2.2.2.1, (v428.1.2.2.2.2.2.2.2.2.1, (v428.1.2.2.2.2.2.2.2.2.2.1, ())))))))))), ((v428.2.1.1, ()), ((v428.2.2.1.1, ()), (v428.2.2.2.1, (v428.2.2.2.2.1, (v428.2.2.2.2.2.1, ())))))))))
else (bif (!u429.1.1) then (let x433 := (decide ((((u429.2.1.length : Nat) : Int) : Int) > 0))
some ((x433, (v428.1.2.1, (v428.1.2.2.1, (v428.1.2.2.2.1, (v428.1.2.2.2.2.1, (v428.1.2.2.2.2.2.1, (v428.1.2.2.2.2.2.2.1, (v428.1.2.2.2.2.2.2.2.1, (v428.1.2.2.2.2.2.2.2.2.1, (v428.1.2.2.2.2.2.2.2.2.2.1, ())))))))))), ((v428.2.1.1, ()), ((v428.2.2.1.1, ()), (v428.2.2.2.1, (v428.2.2.2.2.1, (v428.2.2.2.2.2.1, ())))))))
else (some ((false, (v428.1.2.1, (v428.1.2.2.1, (v428.1.2.2.2.1, (v428.1.2.2.2.2.1, (v428.1.2.2.2.2.2.1, (v428.1.2.2.2.2.2.2.1, (v428.1.2.2.2.2.2.2.2.1, (v428.1.2.2.2.2.2.2.2.2.1, (v428.1.2.2.2.2.2.2.2.2.2.1, ())))))))))), ((v428.2.1.1, ()), ((v428.2.2.1.1, ()), (v428.2.2.2.1, (v428.2.2.2.2.1, (v428.2.2.2.2.2.1, ()))))))))))
else (bif (!(u429.1.1 == false)) then (some ((true, (v428.1.2.1, (v428.1.2.2.1, (v428.1.2.2.2.1, (v428.1.2.2.2.2.1, (v428.1.2.2.2.2.2.1, (v428.1.2.2.2.2.2.2.1, (v428.1.2.2.2.2.2.2.2.1, (v428.1.2.2.2.2.2.2.2.2.1, (v428.1.2.2.2.2.2.2.2.2.2.1, ())))))))))), ((v428.2.1.1, ()), ((v428.2.2.1.1, ()), (v428.2.2.2.1, (v428.2.2.2.2.1, (v428.2.2.2.2.2.1, ())))))))
else (bif u429.1.1 then ((m15 ((v428.1.2.2.1, (v428.1.2.1, (u429.2.1, ()))), ())).bind fun u434 =>
bif (!u434.1.1) then (some ((true, (v428.1.2.1, (v428.1.2.2.1, (v428.1.2.2.2.1, (v428.1.2.2.2.2.1, (v428.1.2.2.2.2.2.1, (v428.1.2.2.2.2.2.2.1, (v428.1.2.2.2.2.2.2.2.1, (v428.1.2.2.2.2.2.2.2.2.1, (v428.1.2.2.2.2.2.2.2.2.2.1, ())))))))))), ((v428.2.1.1, ()), ((v428.2.2.1.1, ()), (v428.2.2.2.1, (v428.2.2.2.2.1, (v428.2.2.2.2.2.1, ())))))))
else (bif (!u429.1.1) then (let x435 := (decide ((((u429.2.1.length : Nat) : Int) : Int) > 0))
some ((x435, (v428.1.2.1, (v428.1.2.2.1, (v428.1.2.2.2.1, (v428.1.2.2.2.2.1, (v428.1.2.2.2.2.2.1, (v428.1.2.2.2.2.2.2.1, (v428.1.2.2.2.2.2.2.2.1, (v428.1.2.2.2.2.2.2.2.2.1, (v428.1.2.2.2.2.2.2.2.2.2.1, ())))))))))), ((v428.2.1.1, ()), ((v428.2.2.1.1, ()), (v428.2.2.2.1, (v428.2.2.2.2.1, (v428.2.2.2.2.2.1, ())))))))
else (some ((false, (v428.1.2.1, (v428.1.2.2.1, (v428.1.2.2.2.1, (v428.1.2.2.2.2.1, (v428.1.2.2.2.2.2.1, (v428.1.2.2.2.2.2.2.1, (v428.1.2.2.2.2.2.2.2.1, (v428.1.2.2.2.2.2.2.2.2.1, (v428.1.2.2.2.2.2.2.2.2.2.1, ())))))))))), ((v428.2.1.1, ()), ((v428.2.2.1.1, ()), (v428.2.2.2.1, (v428.2.2.2.2.1, (v428.2.2.2.2.2.1, ())))))))))
else (bif (!u429.1.1) then (let x436 := (decide ((((u429.2.1.length : Nat) : Int) : Int) > 0))
some ((x436, (v428.1.2.1, (v428.1.2.2.1, (v428.1.2.2.2.1, (v428.1.2.2.2.2.1, (v428.1.2.2.2.2.2.1, (v428.1.2.2.2.2.2.2.1, (v428.1.2.2.2.2.2.2.2.1, (v428.1.2.2.2.2.2.2.2.2.1, (v428.1.2.2.2.2.2.2.2.2.2.1, ())))))))))), ((v428.2.1.1, ()), ((v428.2.2.1.1, ()), (v428.2.2.2.1, (v428.2.2.2.2.1, (v428.2.2.2.2.2.1, ())))))))
else (some ((false, (v428.1.2.1, (v428.1.2.2.1, (v428.1.2.2.2.1, (v428.1.2.2.2.2.1, (v428.1.2.2.2.2.2.1, (v428.1.2.2.2.2.2.2.1, (v428.1.2.2.2.2.2.2.2.1, (v428.1.2.2.2.2.2.2.2.2.1, (v428.1.2.2.2.2.2.2.2.2.2.1, ())))))))))), ((v428.2.1.1, ()), ((v428.2.2.1.1, ()), (v428.2.2.2.1, (v428.2.2.2.2.1, (v428.2.2.2.2.2.1, ()))))))))))) : Option ((Bool × Y2 × Int × (List Int) × Int × Int × Int × Int × Int × Int × Unit) × ((Y5 × Unit) × Y4 × (List Int) × (List Y2) × (List Int) × Unit))).bind fun v437 =>
bif v437.1.1 then (some (.inr (.inl ((false, ()), ()))))
else ((m11 (((w64 (v437.1.2.2.2.2.1 + 2)), ()), ((v437.2.2.1.1, ()), ()))).bind fun u438 =>
(m11 ((v437.1.2.2.2.2.1, ()), ((u438.2.1.1, ()), ()))).bind fun u439 =>
(m11 ((30, ()), ((u439.2.1.1, ()), ()))).bind fun u440 =>
bif (decide (0 + v437.2.2.2.2.2.1.length ≤ 4294967296)) then
bif (decide (v437.2.2.2.2.2.1.length + [0].length ≤ 4294967296)) then
(loopT l7_0_29 ((0, (v437.1.2.1, (v437.1.2.2.1, (v437.1.2.2.2.1, (v437.1.2.2.2.2.1, (v437.1.2.2.2.2.2.1, (v437.1.2.2.2.2.2.2.1, (v437.1.2.2.2.2.2.2.2.1, (v437.1.2.2.2.2.2.2.2.2.1, (v437.1.2.2.2.2.2.2.2.2.2.1, (((([v437.1.2.2.2.1, v437.2.2.2.2.2.1, (v437.2.2.2.2.2.1 ++ [0])] : List (List Int)).length : Nat) : Int), ()))))))))))), (([v437.1.2.2.2.1, v437.2.2.2.2.2.1, (v437.2.2.2.2.2.1 ++ [0])] : List (List Int)), ((v437.2.1.1, ()), ((u440.2.1.1, ()), (v437.2.2.2.1, (v437.2.2.2.2.1, ((((w64 (u438.1.1 - 1)), (u439.1.1, ((w64 (u440.1.1 - 10)), ()))), ()), ())))))))).bind fun d445 =>
sumE d445 (fun d446 => (some (.inr (.inl ((d446.1.1, ()), ()))))) (fun d447 => ((((m19 ((d447.1.2.2.2.2.2.2.2.2.1, (d447.1.1, (d447.2.1.1, ()))), ())).bind fun u448 =>
(m29 ((d447.1.2.2.2.2.2.2.2.2.1, (d447.1.1, (d447.2.1.1, ()))), ())).bind fun u449 =>
bif (!(u448.1.1 == u449.1.1)) then (some ((true, (d447.1.1, (d447.1.2.1, (d447.1.2.2.1, (d447.1.2.2.2.1, (d447.1.2.2.2.2.1, (d447.1.2.2.2.2.2.1, (d447.1.2.2.2.2.2.2.1, (d447.1.2.2.2.2.2.2.2.1, ()))))))))), ((d447.2.1.1, ()), ((d447.2.2.1.1, ()), (d447.2.2.2.1, (d447.2.2.2.2.1, ()))))))
else ((m19 ((d447.1.2.2.2.2.2.2.2.2.1, (d447.1.1, (d447.2.2.2.2.2.1.1, ()))), ())).bind fun u450 =>
(m29 ((d447.1.2.2.2.2.2.2.2.2.1, (d447.1.1, (d447.2.2.2.2.2.1.1, ()))), ())).bind fun u451 =>
some (((!(u450.1.1 == u451.1.1)), (d447.1.1, (d447.1.2.1, (d447.1.2.2.1, (d447.1.2.2.2.1, (d447.1.2.2.2.2.1, (d447.1.2.2.2.2.2.1, (d447.1.2.2.2.2.2.2.1, (d447.1.2.2.2.2.2.2.2.1, ()))))))))), ((d447.2.1.1, ()), ((d447.2.2.1.1, ()), (d447.2.2.2.1, (d447.2.2.2.2.1, ()))))))) : Option ((Bool × Y2 × (List Int) × Int × Int × Int × Int × Int × Int × Unit) × ((Y5 × Unit) × Y4 × (List Int) × (List Y2) × Unit))).bind fun v452 =>
bif v452.1.1 then (some (.inr (.inl ((false, ()), ()))))
else (some (.inl ((v452.1.2.1, ((w64 (v452.1.2.2.2.2.2.2.2.2.1 + 1)), (v452.1.2.2.1, (v452.1.2.2.2.1, (v452.1.2.2.2.2.1, (v452.1.2.2.2.2.2.1, (v452.1.2.2.2.2.2.2.1, (v452.1.2.2.2.2.2.2.2.1, ())))))))), ((v452.2.1.1, ()), ((v452.2.2.1.1, ()), (v452.2.2.2.1, (v452.2.2.2.2.1, ())))))))))
else none
else none))
else none)
else (some (.inr (.inr ((v.1.2.2.1, (v.1.2.2.2.1, (v.1.2.2.2.2.1, (v.1.2.2.2.2.2.1, (v.1.2.2.2.2.2.2.1, ()))))), ((v.2.1.1, ()), (((v.2.2.1.1.1, (v.2.2.1.1.2.1, ())), ()), (v.2.2.2.2.1, ())))))))

def l7_0_11 (v : (((List Int) × Int × Int × Int × Int × Unit) × ((Y5 × Unit) × Y4 × (List Y2) × Unit))) : Option ((((List Int) × Int × Int × Int × Int × Unit) × ((Y5 × Unit) × Y4 × (List Y2) × Unit)) ⊕ (Y6 ⊕ ((Unit) × (Unit)))) :=
bif (decide ((v.1.2.2.1 : Int) < v.1.2.2.2.2.1)) then (bif (decide ((0 : Int) ≤ v.1.2.2.1 ∧ (v.1.2.2.1 : Int) < v.2.2.2.1.length)) then
(v.2.2.2.1[v.1.2.2.1.toNat]?).bind fun e414 =>
(m11 ((9, ()), ((v.2.2.1.1, ()), ()))).bind fun u415 =>
(loopT l7_0_14 ((e414, (0, (v.1.1, (v.1.2.1, (v.1.2.2.2.1, (v.1.2.2.2.2.1, (v.1.2.2.1, ((([v.1.2.1, v.1.2.2.2.1, (w64 (u415.1.1 - 1))].length : Nat) : Int), ())))))))), ((v.2.1.1, ()), ((u415.2.1.1, ()), ([v.1.2.1, v.1.2.2.2.1, (w64 (u415.1.1 - 1))], (v.2.2.2.1, ())))))).bind fun d453 =>
sumE d453 (fun d454 => (some (.inr (.inl ((d454.1.1, ()), ()))))) (fun d455 => (some (.inl ((d455.1.1, (d455.1.2.1, ((w64 (d455.1.2.2.2.2.1 + 1)), (d455.1.2.2.1, (d455.1.2.2.2.1, ()))))), ((d455.2.1.1, ()), ((d455.2.2.1.1, ()), (d455.2.2.2.1, ())))))))
else none)
else (some (.inr (.inr ((), ()))))

/- pagewatch/pagewatchlaw39.ConstraintExact -/
def i7 : Abs.Sg := ⟨[0, 1, 2, 3, 4], (.dat (.row (.int .i64)) (.dat (.row Z1) (.dat (.row (.int .i64)) (.dat (.int .i64) (.dat Z1 .nil))))), .nil⟩

def o7 : Abs.Sg := ⟨[10], (.dat .bool .nil), .nil⟩

def m7 (v : (((List Int) × Y2 × (List Int) × Int × Y5 × Unit) × (Unit))) : Option Y6 :=
(((m8 ((v.1.1, ()), ())).bind fun u399 =>
bif (!u399.1.1) then (some ((true, (v.1.2.2.1, (v.1.2.2.2.1, (v.1.2.1, (v.1.1, ()))))), ((v.1.2.2.2.2.1, ()), ())))
else (bif (decide (((v.1.2.1.length : Int) : Int) > 40)) then (some ((true, (v.1.2.2.1, (v.1.2.2.2.1, (v.1.2.1, (v.1.1, ()))))), ((v.1.2.2.2.2.1, ()), ())))
else (some (((decide (((v.1.2.2.1.length : Int) : Int) > 60)), (v.1.2.2.1, (v.1.2.2.2.1, (v.1.2.1, (v.1.1, ()))))), ((v.1.2.2.2.2.1, ()), ()))))) : Option ((Bool × (List Int) × Int × Y2 × (List Int) × Unit) × ((Y5 × Unit) × Unit))).bind fun v400 =>
bif v400.1.1 then ((m9 ((), ())).bind fun u401 =>
some ((u401.1.1, ()), ()))
else ((m10 ((v400.1.2.2.2.2.1, ()), ())).bind fun u402 =>
(m11 ((7, ()), ((u402.2.1.1, ()), ()))).bind fun u403 =>
(m12 (((w64 (1 + u403.1.1)), ()), ((u403.2.1.1, ()), ()))).bind fun u404 =>
bif (decide (0 + u404.2.2.1.length ≤ 4294967296)) then
((let x405 := (decide ((((u404.2.2.1.length : Nat) : Int) : Int) > 0))
bif x405 then ((m11 ((((u404.2.2.1.length : Nat) : Int), ()), ((u404.2.1.1, ()), ()))).bind fun u406 =>
bif (decide ((0 : Int) ≤ u406.1.1 ∧ (u406.1.1 : Int) < u404.2.2.1.length)) then
(u404.2.2.1[u406.1.1.toNat]?).bind fun e407 =>
(m21 (([e407.1, (-1), (w64 (1 + u403.1.1))], ()), ((u406.2.1.1, ()), ()))).bind fun u408 =>
(u404.2.2.1[u406.1.1.toNat]?).bind fun e409 =>
(m21 (([e409.2.2.1, 17179869184, 17179869185, (-17179869184), (-17179869185)], ()), ((u408.2.1.1, ()), ()))).bind fun u410 =>
(u404.2.2.1[u406.1.1.toNat]?).bind fun e411 =>
((u404.2.2.1.set u406.1.1.toNat (u408.1.1, e411.2))[u406.1.1.toNat]?).bind fun e412 =>
some ((v400.1.2.1, ((w64 (1 + u403.1.1)), (v400.1.2.2.1, (v400.1.2.2.2.1, ())))), ((v400.2.1.1, ()), ((u410.2.1.1, ()), (((u404.2.2.1.set u406.1.1.toNat (u408.1.1, e411.2)).set u406.1.1.toNat (e412.1, (e412.2.1, (u410.1.1, ())))), (u404.2.2.1, ())))))
else none)
else (some ((v400.1.2.1, ((w64 (1 + u403.1.1)), (v400.1.2.2.1, (v400.1.2.2.2.1, ())))), ((v400.2.1.1, ()), ((u404.2.1.1, ()), (u404.2.2.1, (u404.2.2.1, ()))))))) : Option (((List Int) × Int × Int × Y2 × Unit) × ((Y5 × Unit) × Y4 × Y2 × Y2 × Unit))).bind fun v413 =>
(loopT l7_0_11 ((v413.1.1, (v413.1.2.1, (0, (v413.1.2.2.1, (((([v413.2.2.2.2.1, v413.2.2.2.1, v413.1.2.2.2.1] : List Y2).length : Nat) : Int), ()))))), ((v413.2.1.1, ()), ((v413.2.2.1.1, ()), (([v413.2.2.2.2.1, v413.2.2.2.1, v413.1.2.2.2.1] : List Y2), ()))))).bind fun d456 =>
sumE d456 (fun d457 => (some ((d457.1.1, ()), ()))) (fun d458 => ((m9 ((), ())).bind fun u459 =>
some ((u459.1.1, ()), ())))
else none)

def sp7 : Abs.Spec := ⟨0, i7, o7, m7⟩

def an7 : Nat → Abs.FAn
  | 0 => Abs.FAn.mk (fun
    | 34 => some ⟨[259, 17, 9, 2, 11, 12, 101, 3, 90, 91, 92, 102, 103], (.dat .bool (.dat (.row Z1) (.st (.ptr (0, 0) 3 0 0) (.dat (.row (.int .i64)) (.st (.ptr (1, 0) 2 0 0) (.dat (.int .i64) (.st (.own (.int .i64) (2, 0)) (.dat (.int .i64) (.st (.own (.row Z1) (3, 0)) (.dat (.int .i64) (.dat (.int .i64) (.dat (.int .i64) (.dat (.int .i64) .nil))))))))))))), (.box 3 (.dat Z1 .nil) (.box 2 (.dat Z3 .nil) (.arr (.int .i64) false (.arr (.row Z1) false .nil))))⟩
    | 25 => some ⟨[205, 17, 19, 9, 2, 11, 12, 101, 3, 90, 91, 92, 102, 103, 24], (.dat .bool (.dat (.row Z1) (.dat (.int .i64) (.st (.ptr (0, 0) 3 0 0) (.dat (.row (.int .i64)) (.st (.ptr (1, 0) 2 0 0) (.dat (.int .i64) (.st (.own (.int .i64) (2, 0)) (.dat (.int .i64) (.st (.own (.row Z1) (3, 0)) (.dat (.int .i64) (.dat (.int .i64) (.dat (.int .i64) (.dat (.int .i64) (.st (.own (.int .i64) (4, 0)) .nil))))))))))))))), (.box 3 (.dat Z1 .nil) (.box 2 (.dat Z3 .nil) (.arr (.int .i64) false (.arr (.row Z1) false (.arr (.int .i64) false .nil)))))⟩
    | 22 => some ⟨[171, 17, 19, 9, 2, 11, 12, 101, 3, 90, 91, 92, 102, 103, 24, 23], (.dat .bool (.dat (.row Z1) (.dat (.int .i64) (.st (.ptr (0, 0) 3 0 0) (.dat (.row (.int .i64)) (.st (.ptr (1, 0) 2 0 0) (.dat (.int .i64) (.st (.own (.int .i64) (2, 0)) (.dat (.int .i64) (.st (.own (.row Z1) (3, 0)) (.dat (.int .i64) (.dat (.int .i64) (.dat (.int .i64) (.dat (.int .i64) (.st (.own (.int .i64) (4, 0)) (.dat .bool .nil)))))))))))))))), (.box 3 (.dat Z1 .nil) (.box 2 (.dat Z3 .nil) (.arr (.int .i64) false (.arr (.row Z1) false (.arr (.int .i64) false .nil)))))⟩
    | 1 => some ⟨[45, 9, 2, 3, 1, 0], (.dat .bool (.st (.ptr (0, 0) 3 0 0) (.dat (.row (.int .i64)) (.dat (.int .i64) (.dat (.row Z1) (.dat (.row (.int .i64)) .nil)))))), (.box 3 (.dat Z1 .nil) .nil)⟩
    | _ => none) (fun
    | 18 => some (⟨[17, 19, 9, 2, 11, 12, 101, 3, 90, 91, 92, 102, 103], (.dat (.row Z1) (.dat (.int .i64) (.st (.ptr (0, 0) 3 0 0) (.dat (.row (.int .i64)) (.st (.ptr (1, 0) 2 0 0) (.dat (.int .i64) (.st (.own (.int .i64) (2, 0)) (.dat (.int .i64) (.st (.own (.row Z1) (3, 0)) (.dat (.int .i64) (.dat (.int .i64) (.dat (.int .i64) (.dat (.int .i64) .nil))))))))))))), (.box 3 (.dat Z1 .nil) (.box 2 (.dat Z3 .nil) (.arr (.int .i64) false (.arr (.row Z1) false .nil))))⟩, none)
    | 10 => some (⟨[9, 2, 11, 12, 3, 1, 14, 13], (.st (.ptr (0, 0) 3 0 0) (.dat (.row (.int .i64)) (.st (.ptr (1, 0) 2 0 0) (.dat (.int .i64) (.dat (.int .i64) (.dat (.row Z1) (.st (.own Z1 (2, 0)) (.st (.own Z1 (3, 0)) .nil)))))))), (.box 3 (.dat Z1 .nil) (.box 2 (.dat Z3 .nil) (.arr Z1 false (.arr Z1 false .nil))))⟩, none)
    | _ => none) (fun
    | 11 => some ⟨⟨[9, 2, 11, 12, 92, 3, 90, 91], (.st (.ptr (0, 0) 3 0 0) (.dat (.row (.int .i64)) (.st (.ptr (1, 0) 2 0 0) (.dat (.int .i64) (.dat (.int .i64) (.dat (.int .i64) (.st (.own (.row Z1) (2, 0)) (.dat (.int .i64) .nil)))))))), (.box 3 (.dat Z1 .nil) (.box 2 (.dat Z3 .nil) (.arr (.row Z1) false .nil)))⟩, (.more .ret ⟨[10], (.dat .bool .nil), .nil⟩ (.one (.exit 0) ⟨[], .nil, .nil⟩))⟩
    | 14 => some ⟨⟨[17, 103, 9, 2, 11, 12, 101, 3, 90, 91, 92, 102], (.dat (.row Z1) (.dat (.int .i64) (.st (.ptr (0, 0) 3 0 0) (.dat (.row (.int .i64)) (.st (.ptr (1, 0) 2 0 0) (.dat (.int .i64) (.st (.own (.int .i64) (2, 0)) (.dat (.int .i64) (.st (.own (.row Z1) (3, 0)) (.dat (.int .i64) (.dat (.int .i64) (.dat (.int .i64) .nil)))))))))))), (.box 3 (.dat Z1 .nil) (.box 2 (.dat Z3 .nil) (.arr (.int .i64) false (.arr (.row Z1) false .nil))))⟩, (.more .ret ⟨[10], (.dat .bool .nil), .nil⟩ (.one (.exit 2) ⟨[9, 2, 11, 12, 3, 90, 91, 92], (.st (.ptr (0, 0) 3 0 0) (.dat (.row (.int .i64)) (.st (.ptr (1, 0) 2 0 0) (.dat (.int .i64) (.dat (.int .i64) (.st (.own (.row Z1) (2, 0)) (.dat (.int .i64) (.dat (.int .i64) .nil)))))))), (.box 3 (.dat Z1 .nil) (.box 2 (.dat Z3 .nil) (.arr (.row Z1) false .nil)))⟩))⟩
    | 29 => some ⟨⟨[226, 17, 19, 224, 9, 2, 11, 12, 101, 3, 90, 91, 92, 102, 103, 30, 225], (.dat (.int .i64) (.dat (.row Z1) (.dat (.int .i64) (.st (.own (.row (.int .i64)) (0, 0)) (.st (.ptr (1, 0) 3 0 0) (.dat (.row (.int .i64)) (.st (.ptr (2, 0) 2 0 0) (.dat (.int .i64) (.st (.own (.int .i64) (3, 0)) (.dat (.int .i64) (.st (.own (.row Z1) (4, 0)) (.dat (.int .i64) (.dat (.int .i64) (.dat (.int .i64) (.dat (.int .i64) (.st (.ptr (5, 0) 3 0 0) (.dat (.int .i64) .nil))))))))))))))))), (.arr (.row (.int .i64)) false (.box 3 (.dat Z1 .nil) (.box 2 (.dat Z3 .nil) (.arr (.int .i64) false (.arr (.row Z1) false (.box 3 (.dat Z1 .nil) .nil))))))⟩, (.more .ret ⟨[10], (.dat .bool .nil), .nil⟩ (.one (.exit 4) ⟨[17, 9, 2, 11, 12, 101, 3, 90, 91, 92, 102, 103, 30, 19], (.dat (.row Z1) (.st (.ptr (0, 0) 3 0 0) (.dat (.row (.int .i64)) (.st (.ptr (1, 0) 2 0 0) (.dat (.int .i64) (.st (.own (.int .i64) (2, 0)) (.dat (.int .i64) (.st (.own (.row Z1) (3, 0)) (.dat (.int .i64) (.dat (.int .i64) (.dat (.int .i64) (.dat (.int .i64) (.st (.ptr (4, 0) 3 0 0) (.dat (.int .i64) .nil)))))))))))))), (.box 3 (.dat Z1 .nil) (.box 2 (.dat Z3 .nil) (.arr (.int .i64) false (.arr (.row Z1) false (.box 3 (.dat Z1 .nil) .nil)))))⟩))⟩
    | _ => none) (fun _ _ => 0)
  | _ => {}

theorem ok7 : Abs.SpecOK Try.prog 7 sp7 :=
  Abs.specOC_of (C := ctab) (mv := mvtab) ctab_ok (n := 12) (an := an7) (T := Abs.tabOf [(8, sp8), (9, sp9), (10, sp10), (11, sp11), (12, sp12), (21, sp21), (17, sp17), (23, sp23), (24, sp24), (25, sp25), (20, sp20), (26, sp26), (18, sp18), (27, sp27), (14, sp14), (15, sp15), (16, sp16), (28, sp28), (19, sp19), (29, sp29)]) good foll (Abs.tabOf_ok _ (by simp only [List.forall_mem_cons]; exact ⟨ok8, ok9, ok10, ok11, ok12, ok21, ok17, ok23, ok24, ok25, ok20, ok26, ok18, ok27, ok14, ok15, ok16, ok28, ok19, ok29, fun _ h => by cases h⟩)) rfl (by intro v; kernel_rfl)

end
end Go.Proofs.Ytcklpclgiaeopaa
