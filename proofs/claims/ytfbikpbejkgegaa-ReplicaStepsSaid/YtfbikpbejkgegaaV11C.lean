/- Lemmas for the statement of the last text of this claim. -/
import Derived.Test.YtfbikpbejkgegaaChecked
import Derived.Test.YtfbikpbejkgegaaPxL
import Derived.ProofKit
import Derived.Test.YtfbikpbejkgegaaPxK
import Derived.Test.YtfbikpbejkgegaaV11B
set_option linter.unusedSimpArgs false
set_option linter.unusedVariables false
namespace Go.Proofs.Ytfbikpbejkgegaa
open Go Go.Abs
noncomputable section
/- pagewatch/pagewatchlaw33.must -/
def i90 : Abs.Sg := ⟨[0], (.dat (.int .i64) .nil), .nil⟩

def o90 : Abs.Sg := ⟨[2], (.st (.ptr (0, 0) 4 0 0) .nil), (.box 4 (.agg (.st (.own Z3 (1, 0)) (.st .nil (.st (.own .bool (2, 0)) (.st .nil .nil)))) .nil) (.arr Z3 false (.arr .bool false .nil)))⟩

def m90 (v : ((Int × Unit) × (Unit))) : Option ((Unit) × (((Unit) × Unit) × (List Y5) × (List Bool) × Unit)) :=
(m72 ((v.1.1, ()), ())).bind fun u3 =>
some ((), (((), ()), (u3.2.2.1, (u3.2.2.2.1, ()))))

def sp90 : Abs.Spec := ⟨0, i90, o90, m90⟩

def an90 : Nat → Abs.FAn
  | _ => {}

theorem ok90 : Abs.SpecOK Try.prog 90 sp90 :=
  Abs.specOK_of (n := 12) (an := an90) (T := Abs.tabOf [(72, sp72)]) good foll (Abs.tabOf_ok _ (by simp only [List.forall_mem_cons]; exact ⟨ok72, fun _ h => by cases h⟩)) rfl (by intro v; kernel_rfl)

/- 96 pagewatch/replica.Propose$1: not told by a law: a closure -/

/- 129 slices.IndexFunc[[]pagewatch/api.Entry,pagewatch/api.Entry]: not told by a law: a parameter -/

/- 95 slices.ContainsFunc[[]pagewatch/api.Entry,pagewatch/api.Entry]: not told by a law: a parameter -/

def l54_2_2 (v : ((Int × Y2 × Int × Unit) × ((Y9 × Unit) × Unit))) : Option (((Int × Y2 × Int × Unit) × ((Y9 × Unit) × Unit)) ⊕ (((Int × Unit) × ((Y9 × Unit) × Unit)) ⊕ ((Unit) × ((Y9 × Unit) × Unit)))) :=
bif (decide ((v.1.1 : Int) < v.1.2.2.1)) then (Abs.rowAt v.1.2.1 v.1.1 fun e53 _ =>
bif ((e53.2.1.1 : Int) == v.2.1.1.1) then (some (.inr (.inl ((v.1.1, ()), ((v.2.1.1, ()), ())))))
else (some (.inl (((w64 (v.1.1 + 1)), (v.1.2.1, (v.1.2.2.1, ()))), ((v.2.1.1, ()), ())))))
else (some (.inr (.inr ((), ((v.2.1.1, ()), ())))))

/- pagewatch/replica.Propose -/
def i54 : Abs.Sg := ⟨[0, 1, 2], (.dat (.int .i64) (.dat Z3 (.dat Z6 .nil))), .nil⟩

def o54 : Abs.Sg := ⟨[6, 7], (.st (.ptr (0, 0) 8 0 0) (.dat (.int .i64) .nil)), (.box 8 (.agg (.dat (.int .i64) (.dat (.int .i64) (.dat (.int .i64) (.dat (.int .i64) (.st (.own Z1 (1, 0)) (.dat (.int .i64) (.st (.own .bool (2, 0)) (.st (.own (.int .i64) (3, 0)) .nil)))))))) .nil) (.arr Z1 false (.arr .bool false (.arr (.int .i64) false .nil))))⟩

def m54 (v : ((Int × Y5 × Y9 × Unit) × (Unit))) : Option ((Int × Unit) × (Y11 × Y2 × (List Bool) × (List Int) × Unit)) :=
(m26 ((v.1.1, (v.1.2.1, ())), ())).bind fun u52 =>
bif (!u52.1.1) then (some ((8, ()), (((0, (0, (0, (0, (0, ()))))), ()), ([], ([], ([], ()))))))
else (bif ((v.1.2.1.2.2.2.1 : Int) != 2) then (some ((22, ()), (((0, (0, (0, (0, (0, ()))))), ()), ([], ([], ([], ()))))))
else ((((loopT l54_2_2 ((0, (v.1.2.1.2.2.2.2.1, ((v.1.2.1.2.2.2.2.1.length : Int), ()))), ((v.1.2.2.1, ()), ()))).bind fun d54 =>
sumE d54 (fun d55 => (some (((decide ((d55.1.1 : Int) ≥ 0)), ()), ((d55.2.1.1, ()), ())))) (fun d56 => (some ((false, ()), ((d56.2.1.1, ()), ()))))) : Option ((Bool × Unit) × ((Y9 × Unit) × Unit))).bind fun v57 =>
bif v57.1.1 then (some ((4, ()), (((0, (0, (0, (0, (0, ()))))), ()), ([], ([], ([], ()))))))
else (let x58 := (((v.1.2.1.2.2.2.2.1.length : Int) : Int) == 256)
bif x58 then (some ((5, ()), (((0, (0, (0, (0, (0, ()))))), ()), ([], ([], ([], ()))))))
else ((m76 ((v.1.2.1, ()), ())).bind fun u59 =>
bif (decide (u59.2.2.1.length + ([(u59.2.1.1.2.1, (v57.2.1.1, ()))] : List (Int × Y9 × Unit)).length ≤ 4294967296)) then
let x60 := (u59.2.2.1 ++ ([(u59.2.1.1.2.1, (v57.2.1.1, ()))] : List (Int × Y9 × Unit)))
bif (decide ((0 : Int) ≤ u59.2.1.1.1 ∧ (u59.2.1.1.1 : Int) < u59.2.2.2.2.1.length)) then
bif (decide (u59.2.1.1.1.toNat < u59.2.2.2.2.1.length)) then
(((m28 ((v.1.1, ()), ())).bind fun u61 =>
bif ((u61.1.1 : Int) == 1) then (some ((), (((0, (0, (0, (0, (0, ()))))), ()), (((u59.2.1.1.1, (u59.2.1.1.2.1, (u59.2.1.1.2.2.1, (u59.2.1.1.2.2.2.1, (((x60.length : Nat) : Int), ()))))), ()), (x60, (u59.2.2.2.1, ((u59.2.2.2.2.1.set u59.2.1.1.1.toNat ((x60.length : Nat) : Int)), ())))))))
else (some ((), (((0, (0, (0, (0, (0, ()))))), ()), (((u59.2.1.1.1, (u59.2.1.1.2.1, (u59.2.1.1.2.2.1, (u59.2.1.1.2.2.2.1, (u59.2.1.1.2.2.2.2.1, ()))))), ()), (x60, (u59.2.2.2.1, ((u59.2.2.2.2.1.set u59.2.1.1.1.toNat ((x60.length : Nat) : Int)), ())))))))) : Option ((Unit) × Y17)).bind fun v62 =>
some ((0, ()), (((v62.2.2.1.1.1, (v62.2.2.1.1.2.1, (v62.2.2.1.1.2.2.1, (v62.2.2.1.1.2.2.2.1, (v62.2.2.1.1.2.2.2.2.1, ()))))), ()), (v62.2.2.2.1, (v62.2.2.2.2.1, (v62.2.2.2.2.2.1, ())))))
else none
else none
else none))))

def sp54 : Abs.Spec := ⟨0, i54, o54, m54⟩

def an54 : Nat → Abs.FAn
  | 0 => Abs.FAn.mk (fun _ => none) (fun
    | 14 => some (⟨[6, 4], (.st (.ptr (0, 0) 8 0 0) (.st (.ptr (1, 0) 8 0 0) .nil)), (.box 8 (.agg (.dat (.int .i64) (.dat (.int .i64) (.dat (.int .i64) (.dat (.int .i64) (.st .nil (.dat (.int .i64) (.st .nil (.st .nil .nil)))))))) .nil) (.box 8 (.agg (.dat (.int .i64) (.dat (.int .i64) (.dat (.int .i64) (.dat (.int .i64) (.st (.own Z1 (2, 0)) (.dat (.int .i64) (.st (.own .bool (3, 0)) (.st (.own (.int .i64) (4, 0)) .nil)))))))) .nil) (.arr Z1 false (.arr .bool false (.arr (.int .i64) false .nil)))))⟩, none)
    | _ => none) (fun _ => none) (fun
    | 5, 3 => 1
    | _, _ => 0)
  | 1 => Abs.FAn.mk (fun
    | 1 => some ⟨[4], (.dat .bool .nil), (.box 20 (.dat Z6 .nil) .nil)⟩
    | _ => none) (fun _ => none) (fun _ => none) (fun
    | 1, 2 => 2
    | _, _ => 0)
  | 2 => Abs.FAn.mk (fun _ => none) (fun _ => none) (fun
    | 2 => some ⟨⟨[8, 0, 1, 7], (.dat (.int .i64) (.dat (.row Z1) (.st (.clo 96 [((0, 0), 20, 0, 0)]) (.dat (.int .i64) .nil)))), (.box 20 (.dat Z6 .nil) .nil)⟩, (.more .ret ⟨[4], (.dat (.int .i64) .nil), (.box 20 (.dat Z6 .nil) .nil)⟩ (.one (.exit 0) ⟨[], .nil, (.box 20 (.dat Z6 .nil) .nil)⟩))⟩
    | _ => none) (fun
    | 4, 5 => 3
    | _, _ => 0)
  | _ => {}

theorem ok54 : Abs.SpecOK Try.prog 54 sp54 :=
  Abs.specOK_of (n := 12) (an := an54) (T := Abs.tabOf [(26, sp26), (76, sp76), (28, sp28)]) good foll (Abs.tabOf_ok _ (by simp only [List.forall_mem_cons]; exact ⟨ok26, ok76, ok28, fun _ h => by cases h⟩)) rfl (by intro v; kernel_rfl)

def l46_0_5 (v : ((Int × (List Int) × Int × Unit) × ((List Y7) × (Y5 × Unit) × Unit))) : Option (((Int × (List Int) × Int × Unit) × ((List Y7) × (Y5 × Unit) × Unit)) ⊕ ((Unit) × ((List Y7) × Unit))) :=
bif (decide ((v.1.1 : Int) < v.1.2.2.1)) then (((Abs.rowAt v.1.2.1 v.1.1 fun e48 _ =>
bif ((v.1.1 : Int) == v.2.2.1.1.1) then (some ((v.1.2.1, (v.1.2.2.1, (v.1.1, ()))), (v.2.1, ((v.2.2.1.1, ()), ()))))
else (bif (decide ((0 : Int) ≤ e48)) then
bif (decide (e48.toNat ≤ v.2.2.1.1.2.2.2.2.1.length ∧ v.2.2.1.1.2.2.2.2.1.length ≤ v.2.2.1.1.2.2.2.2.1.length)) then
let x49 := ((v.2.2.1.1.2.2.2.2.1.drop e48.toNat).take (v.2.2.1.1.2.2.2.2.1.length - e48.toNat))
(m91 ((x49, ()), ())).bind fun u50 =>
((bif (decide ((e48 : Int) > 0)) then (Abs.rowAt v.2.2.1.1.2.2.2.2.1 (w64 (e48 - 1)) fun e51 _ =>
some ((v.1.2.1, (v.1.2.2.1, (v.1.1, ()))), ((v.2.2.1.1, ()), (((3, (v.2.2.1.1.1, (v.1.1, (v.2.2.1.1.2.1, (e48, (e51.1, (v.2.2.1.1.2.2.2.2.2.1, (false, ())))))))), ()), (v.2.1, (u50.2.1, ()))))))
else (some ((v.1.2.1, (v.1.2.2.1, (v.1.1, ()))), ((v.2.2.1.1, ()), (((3, (v.2.2.1.1.1, (v.1.1, (v.2.2.1.1.2.1, (e48, (0, (v.2.2.1.1.2.2.2.2.2.1, (false, ())))))))), ()), (v.2.1, (u50.2.1, ()))))))) : Option (((List Int) × Int × Int × Unit) × ((Y5 × Unit) × Y15 × (List Y7) × Y2 × Unit))).bind fun v52 =>
bif (decide (v52.2.2.2.1.length + ([(v52.2.2.1.1.1, (v52.2.2.1.1.2.1, (v52.2.2.1.1.2.2.1, (v52.2.2.1.1.2.2.2.1, (v52.2.2.1.1.2.2.2.2.1, (v52.2.2.1.1.2.2.2.2.2.1, (v52.2.2.1.1.2.2.2.2.2.2.1, (v52.2.2.2.2.1, (v52.2.2.1.1.2.2.2.2.2.2.2.1, ())))))))))] : List Y7).length ≤ 4294967296)) then
let x53 := (v52.2.2.2.1 ++ ([(v52.2.2.1.1.1, (v52.2.2.1.1.2.1, (v52.2.2.1.1.2.2.1, (v52.2.2.1.1.2.2.2.1, (v52.2.2.1.1.2.2.2.2.1, (v52.2.2.1.1.2.2.2.2.2.1, (v52.2.2.1.1.2.2.2.2.2.2.1, (v52.2.2.2.2.1, (v52.2.2.1.1.2.2.2.2.2.2.2.1, ())))))))))] : List Y7))
some ((v52.1.1, (v52.1.2.1, (v52.1.2.2.1, ()))), (x53, ((v52.2.1.1, ()), ())))
else none
else none
else none)) : Option (((List Int) × Int × Int × Unit) × ((List Y7) × (Y5 × Unit) × Unit))).bind fun v54 =>
some (.inl (((w64 (v54.1.2.2.1 + 1)), (v54.1.1, (v54.1.2.1, ()))), (v54.2.1, ((v54.2.2.1.1, ()), ())))))
else (some (.inr ((), (v.2.1, ()))))

/- pagewatch/replica.Appends -/
def i46 : Abs.Sg := ⟨[0, 1], (.dat (.int .i64) (.dat Z3 .nil)), .nil⟩

def o46 : Abs.Sg := ⟨[4], (.st (.own Z4 (0, 0)) .nil), (.arr Z4 false .nil)⟩

def m46 (v : ((Int × Y5 × Unit) × (Unit))) : Option ((Unit) × ((List Y7) × Unit)) :=
(((m26 ((v.1.1, (v.1.2.1, ())), ())).bind fun u46 =>
bif (!u46.1.1) then (some ((true, ()), ((v.1.2.1, ()), ())))
else (some ((((v.1.2.1.2.2.2.1 : Int) != 2), ()), ((v.1.2.1, ()), ())))) : Option ((Bool × Unit) × ((Y5 × Unit) × Unit))).bind fun v47 =>
bif v47.1.1 then (some ((), ([], ())))
else ((loopT l46_0_5 ((0, (v47.2.1.1.2.2.2.2.2.2.2.1, ((v47.2.1.1.2.2.2.2.2.2.2.1.length : Int), ()))), ([], ((v47.2.1.1, ()), ())))).bind fun d55 =>
some ((), (d55.2.1, ())))

def sp46 : Abs.Spec := ⟨0, i46, o46, m46⟩

def an46 : Nat → Abs.FAn
  | 0 => Abs.FAn.mk (fun
    | 1 => some ⟨[17, 3], (.dat .bool (.st (.ptr (0, 0) 8 0 0) .nil)), (.box 8 (.dat Z3 .nil) .nil)⟩
    | _ => none) (fun
    | 12 => some (⟨[5, 3, 19, 20, 21], (.st (.own Z4 (0, 0)) (.st (.ptr (1, 0) 8 0 0) (.dat (.row (.int .i64)) (.dat (.int .i64) (.dat (.int .i64) .nil))))), (.arr Z4 false (.box 8 (.dat Z3 .nil) .nil))⟩, none)
    | 11 => some (⟨[3, 19, 20, 21, 8, 5], (.st (.ptr (0, 0) 8 0 0) (.dat (.row (.int .i64)) (.dat (.int .i64) (.dat (.int .i64) (.st (.ptr (1, 0) 9 0 0) (.st (.own Z4 (2, 0)) .nil)))))), (.box 8 (.dat Z3 .nil) (.box 9 (.agg (.dat (.int .i64) (.dat (.int .i64) (.dat (.int .i64) (.dat (.int .i64) (.dat (.int .i64) (.dat (.int .i64) (.dat (.int .i64) (.st (.own Z1 (3, 0)) (.dat .bool .nil))))))))) .nil) (.arr Z4 false (.arr Z1 false .nil))))⟩, none)
    | _ => none) (fun
    | 5 => some ⟨⟨[21, 5, 3, 19, 20], (.dat (.int .i64) (.st (.own Z4 (0, 0)) (.st (.ptr (1, 0) 8 0 0) (.dat (.row (.int .i64)) (.dat (.int .i64) .nil))))), (.arr Z4 false (.box 8 (.dat Z3 .nil) .nil))⟩, (.one (.exit 0) ⟨[5], (.st (.own Z4 (0, 0)) .nil), (.arr Z4 false .nil)⟩)⟩
    | _ => none) (fun _ _ => 0)
  | _ => {}

theorem ok46 : Abs.SpecOK Try.prog 46 sp46 :=
  Abs.specOK_of (n := 12) (an := an46) (T := Abs.tabOf [(26, sp26), (91, sp91)]) good foll (Abs.tabOf_ok _ (by simp only [List.forall_mem_cons]; exact ⟨ok26, ok91, fun _ h => by cases h⟩)) rfl (by intro v; kernel_rfl)

/- pagewatch/replica.fits -/
def i92 : Abs.Sg := ⟨[0, 1], (.dat Z3 (.dat Z4 .nil)), .nil⟩

def o92 : Abs.Sg := ⟨[4], (.dat .bool .nil), .nil⟩

def m92 (v : ((Y5 × Y7 × Unit) × (Unit))) : Option Y14 :=
((bif ((v.1.2.1.2.2.2.1 : Int) == v.1.1.2.1) then (bif ((v.1.1.2.2.2.1 : Int) != 2) then (let x5 := (decide ((v.1.2.1.2.2.2.2.1 : Int) ≤ (v.1.1.2.2.2.2.1.length : Int)))
bif x5 then (bif ((v.1.2.1.2.2.2.2.1 : Int) == 0) then (some ((true, ()), ()))
else (Abs.rowAt v.1.1.2.2.2.2.1 (w64 (v.1.2.1.2.2.2.2.1 - 1)) fun e6 _ =>
some ((((e6.1 : Int) == v.1.2.1.2.2.2.2.2.1), ()), ())))
else (some ((false, ()), ())))
else (some ((false, ()), ())))
else (some ((false, ()), ()))) : Option Y14).bind fun v7 =>
some ((v7.1.1, ()), ())

def sp92 : Abs.Spec := ⟨0, i92, o92, m92⟩

def an92 : Nat → Abs.FAn
  | 0 => Abs.FAn.mk (fun
    | 1 => some ⟨[4], (.dat .bool .nil), .nil⟩
    | _ => none) (fun _ => none) (fun _ => none) (fun _ _ => 0)
  | _ => {}

theorem ok92 : Abs.SpecOK Try.prog 92 sp92 :=
  Abs.specOK_of (n := 12) (an := an92) (T := Abs.tabOf []) good foll (Abs.tabOf_ok _ (fun _ h => by cases h)) rfl (by intro v; kernel_rfl)

def l93_0_2 (v : ((Int × Unit) × ((Y5 × Unit) × (Y7 × Unit) × Unit))) : Option (((Int × Unit) × ((Y5 × Unit) × (Y7 × Unit) × Unit)) ⊕ ((Int × Unit) × ((Y5 × Unit) × (Y7 × Unit) × Unit))) :=
((let x61 := (decide ((v.1.1 : Int) < (v.2.2.1.1.2.2.2.2.2.2.2.1.length : Int)))
bif x61 then (let x62 := (decide (((w64 (v.2.2.1.1.2.2.2.2.1 + v.1.1)) : Int) < (v.2.1.1.2.2.2.2.1.length : Int)))
bif x62 then (Abs.rowAt v.2.1.1.2.2.2.2.1 (w64 (v.2.2.1.1.2.2.2.2.1 + v.1.1)) fun e63 _ =>
Abs.rowAt v.2.2.1.1.2.2.2.2.2.2.2.1 v.1.1 fun e64 _ =>
some ((((e63.1 : Int) == e64.1), (v.1.1, ())), ((v.2.1.1, ()), ((v.2.2.1.1, ()), ()))))
else (some ((false, (v.1.1, ())), ((v.2.1.1, ()), ((v.2.2.1.1, ()), ())))))
else (some ((false, (v.1.1, ())), ((v.2.1.1, ()), ((v.2.2.1.1, ()), ()))))) : Option ((Bool × Int × Unit) × ((Y5 × Unit) × (Y7 × Unit) × Unit))).bind fun v65 =>
bif v65.1.1 then (some (.inl (((w64 (v65.1.2.1 + 1)), ()), ((v65.2.1.1, ()), ((v65.2.2.1.1, ()), ())))))
else (some (.inr ((v65.1.2.1, ()), ((v65.2.1.1, ()), ((v65.2.2.1.1, ()), ())))))

def l93_0_10 (v : ((Int × Int × Y2 × Y2 × Int × Int × Unit) × ((Y7 × Unit) × (Y5 × Unit) × Unit))) : Option (((Int × Int × Y2 × Y2 × Int × Int × Unit) × ((Y7 × Unit) × (Y5 × Unit) × Unit)) ⊕ (((Bool × Unit) × (Y2 × Unit)) ⊕ ((Y2 × Int × Unit) × ((Y5 × Unit) × Unit)))) :=
bif (decide ((v.1.1 : Int) < v.1.2.2.2.2.2.1)) then (Abs.rowAt v.1.2.2.1 v.1.1 fun e71 _ =>
((bif (decide ((e71.1 : Int) < v.1.2.1)) then (some ((true, (v.1.2.2.1, (v.1.2.2.2.1, (v.1.2.2.2.2.1, (v.1.2.2.2.2.2.1, (v.1.1, ())))))), ((v.2.1.1, ()), ((v.2.2.1.1, ()), ((e71, ()), ())))))
else (some (((decide ((e71.1 : Int) > v.2.1.1.2.2.2.1)), (v.1.2.2.1, (v.1.2.2.2.1, (v.1.2.2.2.2.1, (v.1.2.2.2.2.2.1, (v.1.1, ())))))), ((v.2.1.1, ()), ((v.2.2.1.1, ()), ((e71, ()), ())))))) : Option ((Bool × Y2 × Y2 × Int × Int × Int × Unit) × ((Y7 × Unit) × (Y5 × Unit) × ((Int × Y9 × Unit) × Unit) × Unit))).bind fun v72 =>
bif v72.1.1 then (some (.inr (.inl ((false, ()), ([], ())))))
else (some (.inl (((w64 (v72.1.2.2.2.2.2.1 + 1)), (v72.2.2.2.1.1.1, (v72.1.2.1, (v72.1.2.2.1, (v72.1.2.2.2.1, (v72.1.2.2.2.2.1, ())))))), ((v72.2.1.1, ()), ((v72.2.2.1.1, ()), ()))))))
else (some (.inr (.inr ((v.1.2.2.2.1, (v.1.2.2.2.2.1, ())), ((v.2.2.1.1, ()), ())))))

/- pagewatch/replica.joined -/
def i93 : Abs.Sg := ⟨[0, 1], (.dat Z3 (.dat Z4 .nil)), .nil⟩

def o93 : Abs.Sg := ⟨[4, 5], (.dat (.row Z1) (.dat .bool .nil)), .nil⟩

def m93 (v : ((Y5 × Y7 × Unit) × (Unit))) : Option ((Y2 × Bool × Unit) × (Unit)) :=
(loopT l93_0_2 ((0, ()), ((v.1.1, ()), ((v.1.2.1, ()), ())))).bind fun d66 =>
let x67 := ((d66.1.1 : Int) == (d66.2.2.1.1.2.2.2.2.2.2.2.1.length : Int))
bif x67 then (some ((d66.2.1.1.2.2.2.2.1, (true, ())), ()))
else (((bif (decide ((0 : Int) ≤ (w64 (d66.2.2.1.1.2.2.2.2.1 + d66.1.1)))) then
bif (decide ((0 : Int) ≤ (w64 (d66.2.2.1.1.2.2.2.2.1 + d66.1.1)))) then
bif (decide (0 ≤ (w64 (d66.2.2.1.1.2.2.2.2.1 + d66.1.1)).toNat ∧ (w64 (d66.2.2.1.1.2.2.2.2.1 + d66.1.1)).toNat = (w64 (d66.2.2.1.1.2.2.2.2.1 + d66.1.1)).toNat ∧ (w64 (d66.2.2.1.1.2.2.2.2.1 + d66.1.1)).toNat ≤ d66.2.1.1.2.2.2.2.1.length)) then
let x68 := (d66.2.1.1.2.2.2.2.1.take (w64 (d66.2.2.1.1.2.2.2.2.1 + d66.1.1)).toNat)
bif (decide ((0 : Int) ≤ d66.1.1)) then
bif (decide (d66.1.1.toNat ≤ d66.2.2.1.1.2.2.2.2.2.2.2.1.length ∧ d66.2.2.1.1.2.2.2.2.2.2.2.1.length ≤ d66.2.2.1.1.2.2.2.2.2.2.2.1.length)) then
let x69 := ((d66.2.2.1.1.2.2.2.2.2.2.2.1.drop d66.1.1.toNat).take (d66.2.2.1.1.2.2.2.2.2.2.2.1.length - d66.1.1.toNat))
bif x68.isEmpty then (bif (decide (x68.length + x69.length ≤ 4294967296)) then
some (((x68 ++ x69), ((w64 (d66.2.2.1.1.2.2.2.2.1 + d66.1.1)), ())), ((d66.2.2.1.1, ()), ((d66.2.1.1, ()), ())))
else none)
else (bif x69.isEmpty then (some ((x68, ((w64 (d66.2.2.1.1.2.2.2.2.1 + d66.1.1)), ())), ((d66.2.2.1.1, ()), ((d66.2.1.1, ()), ()))))
else (bif (decide (x68.length + x69.length ≤ 4294967296)) then
some (((x68 ++ x69), ((w64 (d66.2.2.1.1.2.2.2.2.1 + d66.1.1)), ())), ((d66.2.2.1.1, ()), ((d66.2.1.1, ()), ())))
else none))
else none
else none
else none
else none
else none) : Option ((Y2 × Int × Unit) × ((Y7 × Unit) × (Y5 × Unit) × Unit))).bind fun v70 =>
(loopT l93_0_10 ((0, (1, (v70.1.1, (v70.1.1, (v70.1.2.1, ((v70.1.1.length : Int), ())))))), ((v70.2.1.1, ()), ((v70.2.2.1.1, ()), ())))).bind fun d73 =>
sumE d73 (fun d74 => (some ((d74.2.1, (d74.1.1, ())), ()))) (fun d75 => (((let x76 := (decide ((d75.1.2.1 : Int) ≥ d75.2.1.1.2.2.2.2.2.1))
bif x76 then (some ((d75.1.1, ((decide (((d75.1.1.length : Int) : Int) ≤ 256)), ())), ()))
else (some ((d75.1.1, (false, ())), ()))) : Option ((Y2 × Bool × Unit) × (Unit))).bind fun v77 =>
some ((v77.1.1, (v77.1.2.1, ())), ()))))

def sp93 : Abs.Spec := ⟨0, i93, o93, m93⟩

def an93 : Nat → Abs.FAn
  | 0 => Abs.FAn.mk (fun
    | 16 => some ⟨[4, 5], (.dat (.row Z1) (.dat .bool .nil)), .nil⟩
    | 12 => some ⟨[84, 3, 68, 8, 2, 7, 69, 70, 11], (.dat .bool (.st (.ptr (0, 0) 9 0 0) (.dat (.row Z1) (.dat (.row Z1) (.st (.ptr (1, 0) 8 0 0) (.dat (.int .i64) (.dat (.int .i64) (.dat (.int .i64) (.st (.ptr (2, 0) 21 0 0) .nil))))))))), (.box 9 (.dat Z4 .nil) (.box 8 (.dat Z3 .nil) (.box 21 (.dat Z1 .nil) .nil)))⟩
    | 7 => some ⟨[3, 8, 2, 7], (.st (.ptr (0, 0) 9 0 0) (.dat (.row Z1) (.st (.ptr (1, 0) 8 0 0) (.dat (.int .i64) .nil)))), (.box 9 (.dat Z4 .nil) (.box 8 (.dat Z3 .nil) .nil))⟩
    | 2 => some ⟨[44, 2, 3, 6], (.dat .bool (.st (.ptr (0, 0) 8 0 0) (.st (.ptr (1, 0) 9 0 0) (.dat (.int .i64) .nil)))), (.box 8 (.dat Z3 .nil) (.box 9 (.dat Z4 .nil) .nil))⟩
    | _ => none) (fun _ => none) (fun
    | 10 => some ⟨⟨[70, 3, 9, 68, 8, 2, 7, 69], (.dat (.int .i64) (.st (.ptr (0, 0) 9 0 0) (.dat (.int .i64) (.dat (.row Z1) (.dat (.row Z1) (.st (.ptr (1, 0) 8 0 0) (.dat (.int .i64) (.dat (.int .i64) .nil)))))))), (.box 9 (.dat Z4 .nil) (.box 8 (.dat Z3 .nil) .nil))⟩, (.more .ret ⟨[4, 5], (.st (.own Z1 (0, 0)) (.dat .bool .nil)), (.arr Z1 false .nil)⟩ (.one (.exit 2) ⟨[8, 2, 7], (.dat (.row Z1) (.st (.ptr (0, 0) 8 0 0) (.dat (.int .i64) .nil))), (.box 8 (.dat Z3 .nil) .nil)⟩))⟩
    | 2 => some ⟨⟨[6, 2, 3], (.dat (.int .i64) (.st (.ptr (0, 0) 8 0 0) (.st (.ptr (1, 0) 9 0 0) .nil))), (.box 8 (.dat Z3 .nil) (.box 9 (.dat Z4 .nil) .nil))⟩, (.one (.exit 0) ⟨[2, 3, 6], (.st (.ptr (0, 0) 8 0 0) (.st (.ptr (1, 0) 9 0 0) (.dat (.int .i64) .nil))), (.box 8 (.dat Z3 .nil) (.box 9 (.dat Z4 .nil) .nil))⟩)⟩
    | _ => none) (fun _ _ => 0)
  | _ => {}

theorem ok93 : Abs.SpecOK Try.prog 93 sp93 :=
  Abs.specOK_of (n := 12) (an := an93) (T := Abs.tabOf []) good foll (Abs.tabOf_ok _ (fun _ h => by cases h)) rfl (by intro v; kernel_rfl)

/- pagewatch/replica.Accept -/
def i47 : Abs.Sg := ⟨[0, 1, 2], (.dat (.int .i64) (.dat Z3 (.dat Z4 .nil))), .nil⟩

def o47 : Abs.Sg := ⟨[6, 7, 8], (.st (.ptr (0, 0) 8 0 0) (.st (.ptr (1, 0) 9 0 0) (.dat .bool .nil))), (.box 8 (.dat Z3 .nil) (.box 9 (.agg (.dat (.int .i64) (.dat (.int .i64) (.dat (.int .i64) (.dat (.int .i64) (.dat (.int .i64) (.dat (.int .i64) (.dat (.int .i64) (.st .nil (.dat .bool .nil))))))))) .nil) .nil))⟩

def m47 (v : ((Int × Y5 × Y7 × Unit) × (Unit))) : Option ((Bool × Unit) × ((Y5 × Unit) × Y15 × Unit)) :=
(m76 ((v.1.2.1, ()), ())).bind fun u40 =>
(((m78 ((v.1.1, (v.1.2.1, (v.1.2.2.1, (3, ())))), ())).bind fun u41 =>
bif (!u41.1.1) then (some ((true, ()), (((0, (0, (0, (0, (0, ()))))), ()), (((0, (0, (0, (0, (0, (0, (0, (false, ())))))))), ()), (((u40.2.1.1.1, (u40.2.1.1.2.1, (u40.2.1.1.2.2.1, (u40.2.1.1.2.2.2.1, (u40.2.1.1.2.2.2.2.1, ()))))), ()), ((v.1.2.1, ()), ((v.1.2.2.1, ()), (u40.2.2.1, (u40.2.2.2.1, (u40.2.2.2.2.1, ()))))))))))
else (bif (decide ((v.1.2.2.1.2.2.2.2.1 : Int) < 0)) then (some ((true, ()), (((0, (0, (0, (0, (0, ()))))), ()), (((0, (0, (0, (0, (0, (0, (0, (false, ())))))))), ()), (((u40.2.1.1.1, (u40.2.1.1.2.1, (u40.2.1.1.2.2.1, (u40.2.1.1.2.2.2.1, (u40.2.1.1.2.2.2.2.1, ()))))), ()), ((v.1.2.1, ()), ((v.1.2.2.1, ()), (u40.2.2.1, (u40.2.2.2.1, (u40.2.2.2.2.1, ()))))))))))
else (bif (decide ((v.1.2.2.1.2.2.2.2.2.1 : Int) < 0)) then (some ((true, ()), (((0, (0, (0, (0, (0, ()))))), ()), (((0, (0, (0, (0, (0, (0, (0, (false, ())))))))), ()), (((u40.2.1.1.1, (u40.2.1.1.2.1, (u40.2.1.1.2.2.1, (u40.2.1.1.2.2.2.1, (u40.2.1.1.2.2.2.2.1, ()))))), ()), ((v.1.2.1, ()), ((v.1.2.2.1, ()), (u40.2.2.1, (u40.2.2.2.1, (u40.2.2.2.2.1, ()))))))))))
else (some (((decide ((v.1.2.2.1.2.2.2.2.2.2.1 : Int) < 0)), ()), (((0, (0, (0, (0, (0, ()))))), ()), (((0, (0, (0, (0, (0, (0, (0, (false, ())))))))), ()), (((u40.2.1.1.1, (u40.2.1.1.2.1, (u40.2.1.1.2.2.1, (u40.2.1.1.2.2.2.1, (u40.2.1.1.2.2.2.2.1, ()))))), ()), ((v.1.2.1, ()), ((v.1.2.2.1, ()), (u40.2.2.1, (u40.2.2.2.1, (u40.2.2.2.2.1, ()))))))))))))) : Option ((Bool × Unit) × (Y11 × Y15 × Y11 × (Y5 × Unit) × (Y7 × Unit) × Y2 × (List Bool) × (List Int) × Unit))).bind fun v42 =>
bif v42.1.1 then (some ((false, ()), (((v42.2.2.2.1.1.1, (v42.2.2.2.1.1.2.1, (v42.2.2.2.1.1.2.2.1, (v42.2.2.2.1.1.2.2.2.1, (v42.2.2.2.2.2.2.1, (v42.2.2.2.1.1.2.2.2.2.1, (v42.2.2.2.2.2.2.2.1, (v42.2.2.2.2.2.2.2.2.1, ())))))))), ()), (((0, (0, (0, (0, (0, (0, (0, (false, ())))))))), ()), ()))))
else ((m76 ((v42.2.2.2.2.1.1, ()), ())).bind fun u43 =>
(m79 (((u43.2.1.1.1, (u43.2.1.1.2.1, (u43.2.1.1.2.2.1, (u43.2.1.1.2.2.2.1, (u43.2.2.1, (u43.2.1.1.2.2.2.2.1, (u43.2.2.2.1, (u43.2.2.2.2.1, ())))))))), (v42.2.2.2.2.2.1.1.2.2.2.1, ())), ())).bind fun u44 =>
((((bif ((u44.2.1.1.2.2.2.1 : Int) == 1) then (let x45 := ((u44.2.1.1.2.1 : Int) == v42.2.2.2.2.2.1.1.2.2.2.1)
some ((x45, ()), (((v42.2.1.1.1, (v42.2.1.1.2.1, (v42.2.1.1.2.2.1, (v42.2.1.1.2.2.2.1, (v42.2.1.1.2.2.2.2.1, ()))))), ()), (((v42.2.2.1.1.1, (v42.2.2.1.1.2.1, (v42.2.2.1.1.2.2.1, (v42.2.2.1.1.2.2.2.1, (v42.2.2.1.1.2.2.2.2.1, (v42.2.2.1.1.2.2.2.2.2.1, (v42.2.2.1.1.2.2.2.2.2.2.1, (v42.2.2.1.1.2.2.2.2.2.2.2.1, ())))))))), ()), ((u44.2.1.1, ()), (((v42.2.2.2.1.1.1, (v42.2.2.2.1.1.2.1, (v42.2.2.2.1.1.2.2.1, (v42.2.2.2.1.1.2.2.2.1, (v42.2.2.2.1.1.2.2.2.2.1, ()))))), ()), ((v42.2.2.2.2.2.1.1, ()), (v42.2.2.2.2.2.2.1, (v42.2.2.2.2.2.2.2.1, (v42.2.2.2.2.2.2.2.2.1, ()))))))))))
else (some ((false, ()), (((v42.2.1.1.1, (v42.2.1.1.2.1, (v42.2.1.1.2.2.1, (v42.2.1.1.2.2.2.1, (v42.2.1.1.2.2.2.2.1, ()))))), ()), (((v42.2.2.1.1.1, (v42.2.2.1.1.2.1, (v42.2.2.1.1.2.2.1, (v42.2.2.1.1.2.2.2.1, (v42.2.2.1.1.2.2.2.2.1, (v42.2.2.1.1.2.2.2.2.2.1, (v42.2.2.1.1.2.2.2.2.2.2.1, (v42.2.2.1.1.2.2.2.2.2.2.2.1, ())))))))), ()), ((u44.2.1.1, ()), (((v42.2.2.2.1.1.1, (v42.2.2.2.1.1.2.1, (v42.2.2.2.1.1.2.2.1, (v42.2.2.2.1.1.2.2.2.1, (v42.2.2.2.1.1.2.2.2.2.1, ()))))), ()), ((v42.2.2.2.2.2.1.1, ()), (v42.2.2.2.2.2.2.1, (v42.2.2.2.2.2.2.2.1, (v42.2.2.2.2.2.2.2.2.1, ()))))))))))) : Option ((Bool × Unit) × (Y11 × Y15 × (Y5 × Unit) × Y11 × (Y7 × Unit) × Y2 × (List Bool) × (List Int) × Unit))).bind fun v46 =>
bif v46.1.1 then (some ((), (((v46.2.1.1.1, (v46.2.1.1.2.1, (v46.2.1.1.2.2.1, (v46.2.1.1.2.2.2.1, (v46.2.1.1.2.2.2.2.1, ()))))), ()), (((v46.2.2.1.1.1, (v46.2.2.1.1.2.1, (v46.2.2.1.1.2.2.1, (v46.2.2.1.1.2.2.2.1, (v46.2.2.1.1.2.2.2.2.1, (v46.2.2.1.1.2.2.2.2.2.1, (v46.2.2.1.1.2.2.2.2.2.2.1, (v46.2.2.1.1.2.2.2.2.2.2.2.1, ())))))))), ()), (((v46.2.2.2.1.1.1, (v46.2.2.2.1.1.2.1, (v46.2.2.2.1.1.2.2.1, (0, (v46.2.2.2.1.1.2.2.2.2.1, (v46.2.2.2.1.1.2.2.2.2.2.1, ([], v46.2.2.2.1.1.2.2.2.2.2.2.2))))))), ()), (((v46.2.2.2.2.1.1.1, (v46.2.2.2.2.1.1.2.1, (v46.2.2.2.2.1.1.2.2.1, (v46.2.2.2.2.1.1.2.2.2.1, (v46.2.2.2.2.1.1.2.2.2.2.1, ()))))), ()), ((v46.2.2.2.2.2.1.1, ()), (v46.2.2.2.2.2.2.1, (v46.2.2.2.2.2.2.2.1, (v46.2.2.2.2.2.2.2.2.1, ()))))))))))
else (some ((), (((v46.2.1.1.1, (v46.2.1.1.2.1, (v46.2.1.1.2.2.1, (v46.2.1.1.2.2.2.1, (v46.2.1.1.2.2.2.2.1, ()))))), ()), (((v46.2.2.1.1.1, (v46.2.2.1.1.2.1, (v46.2.2.1.1.2.2.1, (v46.2.2.1.1.2.2.2.1, (v46.2.2.1.1.2.2.2.2.1, (v46.2.2.1.1.2.2.2.2.2.1, (v46.2.2.1.1.2.2.2.2.2.2.1, (v46.2.2.1.1.2.2.2.2.2.2.2.1, ())))))))), ()), ((v46.2.2.2.1.1, ()), (((v46.2.2.2.2.1.1.1, (v46.2.2.2.2.1.1.2.1, (v46.2.2.2.2.1.1.2.2.1, (v46.2.2.2.2.1.1.2.2.2.1, (v46.2.2.2.2.1.1.2.2.2.2.1, ()))))), ()), ((v46.2.2.2.2.2.1.1, ()), (v46.2.2.2.2.2.2.1, (v46.2.2.2.2.2.2.2.1, (v46.2.2.2.2.2.2.2.2.1, ()))))))))))) : Option ((Unit) × (Y11 × Y15 × (Y5 × Unit) × Y11 × (Y7 × Unit) × Y2 × (List Bool) × (List Int) × Unit))).bind fun v47 =>
(m92 ((v47.2.2.2.1.1, (v47.2.2.2.2.2.1.1, ())), ())).bind fun u48 =>
bif (!u48.1.1) then (some ((true, ()), ((v47.2.2.2.1.1, ()), (((4, (v47.2.2.2.1.1.1, (v47.2.2.2.2.2.1.1.2.1, (v47.2.2.2.1.1.2.1, (0, (0, (0, (false, ())))))))), ()), ()))))
else ((m93 ((v47.2.2.2.1.1, (v47.2.2.2.2.2.1.1, ())), ())).bind fun u49 =>
bif (!u49.1.2.1) then (some ((false, ()), (((v47.2.2.2.2.1.1.1, (v47.2.2.2.2.1.1.2.1, (v47.2.2.2.2.1.1.2.2.1, (v47.2.2.2.2.1.1.2.2.2.1, (v47.2.2.2.2.2.2.1, (v47.2.2.2.2.1.1.2.2.2.2.1, (v47.2.2.2.2.2.2.2.1, (v47.2.2.2.2.2.2.2.2.1, ())))))))), ()), (((0, (0, (0, (0, (0, (0, (0, (false, ())))))))), ()), ()))))
else (let x50 := (w64 (v47.2.2.2.2.2.1.1.2.2.2.2.1 + (v47.2.2.2.2.2.1.1.2.2.2.2.2.2.2.1.length : Int)))
let x51 := (if (x50 : Int) < v47.2.2.2.2.2.1.1.2.2.2.2.2.2.1 then x50 else v47.2.2.2.2.2.1.1.2.2.2.2.2.2.1)
let x52 := (if (x51 : Int) > v47.2.2.2.1.1.2.2.2.2.2.1 then x51 else v47.2.2.2.1.1.2.2.2.2.2.1)
some ((true, ()), (((v47.2.2.2.1.1.1, (v47.2.2.2.1.1.2.1, (v47.2.2.2.1.1.2.2.1, (v47.2.2.2.1.1.2.2.2.1, (u49.1.1, (x52, v47.2.2.2.1.1.2.2.2.2.2.2)))))), ()), (((4, (v47.2.2.2.1.1.1, (v47.2.2.2.2.2.1.1.2.1, (v47.2.2.2.1.1.2.1, (x50, (0, (0, (true, ())))))))), ()), ()))))))

def sp47 : Abs.Spec := ⟨0, i47, o47, m47⟩

def an47 : Nat → Abs.FAn
  | 0 => Abs.FAn.mk (fun
    | 5 => some ⟨[51, 6, 7, 4, 9, 5], (.dat .bool (.st (.ptr (0, 0) 8 0 0) (.st (.ptr (1, 0) 9 0 0) (.st (.ptr (2, 0) 8 0 0) (.st (.ptr (3, 0) 8 0 0) (.st (.ptr (4, 0) 9 0 0) .nil)))))), (.box 8 (.agg (.dat (.int .i64) (.dat (.int .i64) (.dat (.int .i64) (.dat (.int .i64) (.st .nil (.dat (.int .i64) (.st .nil (.st .nil .nil)))))))) .nil) (.box 9 (.agg (.dat (.int .i64) (.dat (.int .i64) (.dat (.int .i64) (.dat (.int .i64) (.dat (.int .i64) (.dat (.int .i64) (.dat (.int .i64) (.st .nil (.dat .bool .nil))))))))) .nil) (.box 8 (.dat Z3 .nil) (.box 8 (.agg (.dat (.int .i64) (.dat (.int .i64) (.dat (.int .i64) (.dat (.int .i64) (.st (.own Z1 (5, 0)) (.dat (.int .i64) (.st (.own .bool (6, 0)) (.st (.own (.int .i64) (7, 0)) .nil)))))))) .nil) (.box 9 (.dat Z4 .nil) (.arr Z1 false (.arr .bool false (.arr (.int .i64) false .nil))))))))⟩
    | 2 => some ⟨[34, 6, 7, 9, 4, 5], (.dat .bool (.st (.ptr (0, 0) 8 0 0) (.st (.ptr (1, 0) 9 0 0) (.st (.ptr (2, 0) 8 0 0) (.st (.ptr (3, 0) 8 0 0) (.st (.ptr (4, 0) 9 0 0) .nil)))))), (.box 8 (.agg (.dat (.int .i64) (.dat (.int .i64) (.dat (.int .i64) (.dat (.int .i64) (.st .nil (.dat (.int .i64) (.st .nil (.st .nil .nil)))))))) .nil) (.box 9 (.agg (.dat (.int .i64) (.dat (.int .i64) (.dat (.int .i64) (.dat (.int .i64) (.dat (.int .i64) (.dat (.int .i64) (.dat (.int .i64) (.st .nil (.dat .bool .nil))))))))) .nil) (.box 8 (.agg (.dat (.int .i64) (.dat (.int .i64) (.dat (.int .i64) (.dat (.int .i64) (.st (.own Z1 (5, 0)) (.dat (.int .i64) (.st (.own .bool (6, 0)) (.st (.own (.int .i64) (7, 0)) .nil)))))))) .nil) (.box 8 (.dat Z3 .nil) (.box 9 (.dat Z4 .nil) (.arr Z1 false (.arr .bool false (.arr (.int .i64) false .nil))))))))⟩
    | _ => none) (fun
    | 7 => some (⟨[6, 7, 4, 9, 5], (.st (.ptr (0, 0) 8 0 0) (.st (.ptr (1, 0) 9 0 0) (.st (.ptr (2, 0) 8 0 0) (.st (.ptr (3, 0) 8 0 0) (.st (.ptr (4, 0) 9 0 0) .nil))))), (.box 8 (.agg (.dat (.int .i64) (.dat (.int .i64) (.dat (.int .i64) (.dat (.int .i64) (.st .nil (.dat (.int .i64) (.st .nil (.st .nil .nil)))))))) .nil) (.box 9 (.agg (.dat (.int .i64) (.dat (.int .i64) (.dat (.int .i64) (.dat (.int .i64) (.dat (.int .i64) (.dat (.int .i64) (.dat (.int .i64) (.st .nil (.dat .bool .nil))))))))) .nil) (.box 8 (.dat Z3 .nil) (.box 8 (.agg (.dat (.int .i64) (.dat (.int .i64) (.dat (.int .i64) (.dat (.int .i64) (.st (.own Z1 (5, 0)) (.dat (.int .i64) (.st (.own .bool (6, 0)) (.st (.own (.int .i64) (7, 0)) .nil)))))))) .nil) (.box 9 (.dat Z4 .nil) (.arr Z1 false (.arr .bool false (.arr (.int .i64) false .nil))))))))⟩, none)
    | _ => none) (fun _ => none) (fun _ _ => 0)
  | _ => {}

theorem ok47 : Abs.SpecOK Try.prog 47 sp47 :=
  Abs.specOK_of (n := 12) (an := an47) (T := Abs.tabOf [(76, sp76), (78, sp78), (79, sp79), (92, sp92), (93, sp93)]) good foll (Abs.tabOf_ok _ (by simp only [List.forall_mem_cons]; exact ⟨ok76, ok78, ok79, ok92, ok93, fun _ h => by cases h⟩)) rfl (by intro v; kernel_rfl)

def l44_0_14 (v : ((Int × Int × Int × Int × Int × Unit) × ((List Int) × Y11 × Y11 × Y2 × (List Bool) × Unit))) : Option (((Int × Int × Int × Int × Int × Unit) × ((List Int) × Y11 × Y11 × Y2 × (List Bool) × Unit)) ⊕ (Y20 × Y17)) :=
bif (decide ((v.1.1 : Int) < v.1.2.2.2.2.1)) then (((bif (decide ((0 : Int) ≤ v.1.1 ∧ (v.1.1 : Int) < v.2.1.length)) then
(v.2.1[v.1.1.toNat]?).bind fun e79 =>
bif (decide ((e79 : Int) ≥ v.1.2.2.1)) then (some (((w64 (v.1.2.1 + 1)), (v.1.2.2.1, (v.1.2.2.2.1, (v.1.2.2.2.2.1, (v.1.1, ()))))), (v.2.1, (((v.2.2.1.1.1, (v.2.2.1.1.2.1, (v.2.2.1.1.2.2.1, (v.2.2.1.1.2.2.2.1, (v.2.2.1.1.2.2.2.2.1, ()))))), ()), (((v.2.2.2.1.1.1, (v.2.2.2.1.1.2.1, (v.2.2.2.1.1.2.2.1, (v.2.2.2.1.1.2.2.2.1, (v.2.2.2.1.1.2.2.2.2.1, ()))))), ()), (v.2.2.2.2.1, (v.2.2.2.2.2.1, ())))))))
else (some ((v.1.2.1, (v.1.2.2.1, (v.1.2.2.2.1, (v.1.2.2.2.2.1, (v.1.1, ()))))), (v.2.1, (((v.2.2.1.1.1, (v.2.2.1.1.2.1, (v.2.2.1.1.2.2.1, (v.2.2.1.1.2.2.2.1, (v.2.2.1.1.2.2.2.2.1, ()))))), ()), (((v.2.2.2.1.1.1, (v.2.2.2.1.1.2.1, (v.2.2.2.1.1.2.2.1, (v.2.2.2.1.1.2.2.2.1, (v.2.2.2.1.1.2.2.2.2.1, ()))))), ()), (v.2.2.2.2.1, (v.2.2.2.2.2.1, ())))))))
else none) : Option ((Int × Int × Int × Int × Int × Unit) × ((List Int) × Y11 × Y11 × Y2 × (List Bool) × Unit))).bind fun v80 =>
some (.inl (((w64 (v80.1.2.2.2.2.1 + 1)), (v80.1.1, (v80.1.2.1, (v80.1.2.2.1, (v80.1.2.2.2.1, ()))))), (v80.2.1, (((v80.2.2.1.1.1, (v80.2.2.1.1.2.1, (v80.2.2.1.1.2.2.1, (v80.2.2.1.1.2.2.2.1, (v80.2.2.1.1.2.2.2.2.1, ()))))), ()), (((v80.2.2.2.1.1.1, (v80.2.2.2.1.1.2.1, (v80.2.2.2.1.1.2.2.1, (v80.2.2.2.1.1.2.2.2.1, (v80.2.2.2.1.1.2.2.2.2.1, ()))))), ()), (v80.2.2.2.2.1, (v80.2.2.2.2.2.1, ()))))))))
else (some (.inr ((v.1.2.2.2.1, (v.1.2.2.1, (v.1.2.1, ()))), (((v.2.2.1.1.1, (v.2.2.1.1.2.1, (v.2.2.1.1.2.2.1, (v.2.2.1.1.2.2.2.1, (v.2.2.1.1.2.2.2.2.1, ()))))), ()), (((v.2.2.2.1.1.1, (v.2.2.2.1.1.2.1, (v.2.2.2.1.1.2.2.1, (v.2.2.2.1.1.2.2.2.1, (v.2.2.2.1.1.2.2.2.2.1, ()))))), ()), (v.2.2.2.2.1, (v.2.2.2.2.2.1, (v.2.1, ()))))))))

def l44_0_10 (v : ((Int × Int × Unit) × Y17)) : Option (((Int × Int × Unit) × Y17) ⊕ ((Unit) × Y17)) :=
bif (decide ((v.1.1 : Int) > v.2.1.1.2.2.2.2.1)) then ((((loopT l44_0_14 ((0, (0, (v.1.1, (v.1.2.1, (((v.2.2.2.2.2.1.length : Nat) : Int), ()))))), (v.2.2.2.2.2.1, (((v.2.1.1.1, (v.2.1.1.2.1, (v.2.1.1.2.2.1, (v.2.1.1.2.2.2.1, (v.2.1.1.2.2.2.2.1, ()))))), ()), (((v.2.2.1.1.1, (v.2.2.1.1.2.1, (v.2.2.1.1.2.2.1, (v.2.2.1.1.2.2.2.1, (v.2.2.1.1.2.2.2.2.1, ()))))), ()), (v.2.2.2.1, (v.2.2.2.2.1, ()))))))).bind fun d81 =>
(((m28 ((d81.1.1, ()), ())).bind fun u82 =>
bif (decide ((d81.1.2.2.1 : Int) ≥ u82.1.1)) then (bif (decide ((0 : Int) ≤ (w64 (d81.1.2.1 - 1)) ∧ ((w64 (d81.1.2.1 - 1)) : Int) < d81.2.2.2.1.length)) then
(d81.2.2.2.1[(w64 (d81.1.2.1 - 1)).toNat]?).bind fun e83 =>
some ((((e83.1 : Int) == d81.2.1.1.2.1), (d81.1.1, (d81.1.2.1, ()))), (((d81.2.1.1.1, (d81.2.1.1.2.1, (d81.2.1.1.2.2.1, (d81.2.1.1.2.2.2.1, (d81.2.1.1.2.2.2.2.1, ()))))), ()), (((d81.2.2.1.1.1, (d81.2.2.1.1.2.1, (d81.2.2.1.1.2.2.1, (d81.2.2.1.1.2.2.2.1, (d81.2.2.1.1.2.2.2.2.1, ()))))), ()), (d81.2.2.2.1, (d81.2.2.2.2.1, (d81.2.2.2.2.2.1, ()))))))
else none)
else (some ((false, (d81.1.1, (d81.1.2.1, ()))), (((d81.2.1.1.1, (d81.2.1.1.2.1, (d81.2.1.1.2.2.1, (d81.2.1.1.2.2.2.1, (d81.2.1.1.2.2.2.2.1, ()))))), ()), (((d81.2.2.1.1.1, (d81.2.2.1.1.2.1, (d81.2.2.1.1.2.2.1, (d81.2.2.1.1.2.2.2.1, (d81.2.2.1.1.2.2.2.2.1, ()))))), ()), (d81.2.2.2.1, (d81.2.2.2.2.1, (d81.2.2.2.2.2.1, ())))))))) : Option ((Bool × Int × Int × Unit) × Y17)).bind fun v84 =>
bif v84.1.1 then (some ((v84.1.2.1, (v84.1.2.2.1, ())), (((v84.2.1.1.1, (v84.2.1.1.2.1, (v84.2.1.1.2.2.1, (v84.2.1.1.2.2.2.1, (v84.1.2.2.1, ()))))), ()), (((v84.2.2.1.1.1, (v84.2.2.1.1.2.1, (v84.2.2.1.1.2.2.1, (v84.2.2.1.1.2.2.2.1, (v84.2.2.1.1.2.2.2.2.1, ()))))), ()), (v84.2.2.2.1, (v84.2.2.2.2.1, (v84.2.2.2.2.2.1, ())))))))
else (some ((v84.1.2.1, (v84.1.2.2.1, ())), (((v84.2.1.1.1, (v84.2.1.1.2.1, (v84.2.1.1.2.2.1, (v84.2.1.1.2.2.2.1, (v84.2.1.1.2.2.2.2.1, ()))))), ()), (((v84.2.2.1.1.1, (v84.2.2.1.1.2.1, (v84.2.2.1.1.2.2.1, (v84.2.2.1.1.2.2.2.1, (v84.2.2.1.1.2.2.2.2.1, ()))))), ()), (v84.2.2.2.1, (v84.2.2.2.2.1, (v84.2.2.2.2.2.1, ())))))))) : Option ((Int × Int × Unit) × Y17)).bind fun v85 =>
some (.inl (((w64 (v85.1.2.1 - 1)), (v85.1.1, ())), (((v85.2.1.1.1, (v85.2.1.1.2.1, (v85.2.1.1.2.2.1, (v85.2.1.1.2.2.2.1, (v85.2.1.1.2.2.2.2.1, ()))))), ()), (((v85.2.2.1.1.1, (v85.2.2.1.1.2.1, (v85.2.2.1.1.2.2.1, (v85.2.2.1.1.2.2.2.1, (v85.2.2.1.1.2.2.2.2.1, ()))))), ()), (v85.2.2.2.1, (v85.2.2.2.2.1, (v85.2.2.2.2.2.1, ()))))))))
else (some (.inr ((), (((v.2.2.1.1.1, (v.2.2.1.1.2.1, (v.2.2.1.1.2.2.1, (v.2.2.1.1.2.2.2.1, (v.2.2.1.1.2.2.2.2.1, ()))))), ()), (((v.2.1.1.1, (v.2.1.1.2.1, (v.2.1.1.2.2.1, (v.2.1.1.2.2.2.1, (v.2.1.1.2.2.2.2.1, ()))))), ()), (v.2.2.2.1, (v.2.2.2.2.1, (v.2.2.2.2.2.1, ()))))))))

/- pagewatch/replica.Appended -/
def i44 : Abs.Sg := ⟨[0, 1, 2], (.dat (.int .i64) (.dat Z3 (.dat Z4 .nil))), .nil⟩

def o44 : Abs.Sg := ⟨[6], (.st (.ptr (0, 0) 8 0 0) .nil), (.box 8 (.dat Z3 .nil) .nil)⟩

def m44 (v : ((Int × Y5 × Y7 × Unit) × (Unit))) : Option ((Unit) × ((Y5 × Unit) × Unit)) :=
(m76 ((v.1.2.1, ()), ())).bind fun u71 =>
(m78 ((v.1.1, ((u71.2.1.1.1, (u71.2.1.1.2.1, (u71.2.1.1.2.2.1, (u71.2.1.1.2.2.2.1, (u71.2.2.1, (u71.2.1.1.2.2.2.2.1, (u71.2.2.2.1, (u71.2.2.2.2.1, ())))))))), (v.1.2.2.1, (4, ())))), ())).bind fun u72 =>
bif (!u72.1.1) then (some ((), (((u71.2.1.1.1, (u71.2.1.1.2.1, (u71.2.1.1.2.2.1, (u71.2.1.1.2.2.2.1, (u71.2.2.1, (u71.2.1.1.2.2.2.2.1, (u71.2.2.2.1, (u71.2.2.2.2.1, ())))))))), ()), ())))
else (let x73 := (decide ((v.1.2.2.1.2.2.2.1 : Int) > u71.2.1.1.2.1))
bif x73 then ((m79 (((u71.2.1.1.1, (u71.2.1.1.2.1, (u71.2.1.1.2.2.1, (u71.2.1.1.2.2.2.1, (u71.2.2.1, (u71.2.1.1.2.2.2.2.1, (u71.2.2.2.1, (u71.2.2.2.2.1, ())))))))), (v.1.2.2.1.2.2.2.1, ())), ())).bind fun u74 =>
some ((), ((u74.2.1.1, ()), ())))
else (((bif ((u71.2.1.1.2.2.2.1 : Int) != 2) then (some ((true, (v.1.1, ())), (((0, (0, (0, (0, (0, ()))))), ()), (((u71.2.1.1.1, (u71.2.1.1.2.1, (u71.2.1.1.2.2.1, (u71.2.1.1.2.2.2.1, (u71.2.1.1.2.2.2.2.1, ()))))), ()), ((v.1.2.2.1, ()), (u71.2.2.1, (u71.2.2.2.1, (u71.2.2.2.2.1, ()))))))))
else (bif ((v.1.2.2.1.2.2.2.1 : Int) != u71.2.1.1.2.1) then (some ((true, (v.1.1, ())), (((0, (0, (0, (0, (0, ()))))), ()), (((u71.2.1.1.1, (u71.2.1.1.2.1, (u71.2.1.1.2.2.1, (u71.2.1.1.2.2.2.1, (u71.2.1.1.2.2.2.2.1, ()))))), ()), ((v.1.2.2.1, ()), (u71.2.2.1, (u71.2.2.2.1, (u71.2.2.2.2.1, ()))))))))
else (bif (!v.1.2.2.1.2.2.2.2.2.2.2.2.1) then (some ((true, (v.1.1, ())), (((0, (0, (0, (0, (0, ()))))), ()), (((u71.2.1.1.1, (u71.2.1.1.2.1, (u71.2.1.1.2.2.1, (u71.2.1.1.2.2.2.1, (u71.2.1.1.2.2.2.2.1, ()))))), ()), ((v.1.2.2.1, ()), (u71.2.2.1, (u71.2.2.2.1, (u71.2.2.2.2.1, ()))))))))
else (bif (decide ((v.1.2.2.1.2.2.2.2.1 : Int) < 0)) then (some ((true, (v.1.1, ())), (((0, (0, (0, (0, (0, ()))))), ()), (((u71.2.1.1.1, (u71.2.1.1.2.1, (u71.2.1.1.2.2.1, (u71.2.1.1.2.2.2.1, (u71.2.1.1.2.2.2.2.1, ()))))), ()), ((v.1.2.2.1, ()), (u71.2.2.1, (u71.2.2.2.1, (u71.2.2.2.2.1, ()))))))))
else (let x75 := (decide ((v.1.2.2.1.2.2.2.2.1 : Int) > ((u71.2.2.1.length : Nat) : Int)))
some ((x75, (v.1.1, ())), (((0, (0, (0, (0, (0, ()))))), ()), (((u71.2.1.1.1, (u71.2.1.1.2.1, (u71.2.1.1.2.2.1, (u71.2.1.1.2.2.2.1, (u71.2.1.1.2.2.2.2.1, ()))))), ()), ((v.1.2.2.1, ()), (u71.2.2.1, (u71.2.2.2.1, (u71.2.2.2.2.1, ())))))))))))) : Option ((Bool × Int × Unit) × (Y11 × Y11 × (Y7 × Unit) × Y2 × (List Bool) × (List Int) × Unit))).bind fun v76 =>
bif v76.1.1 then (some ((), (((v76.2.2.1.1.1, (v76.2.2.1.1.2.1, (v76.2.2.1.1.2.2.1, (v76.2.2.1.1.2.2.2.1, (v76.2.2.2.2.1, (v76.2.2.1.1.2.2.2.2.1, (v76.2.2.2.2.2.1, (v76.2.2.2.2.2.2.1, ())))))))), ()), ())))
else (bif (decide ((0 : Int) ≤ v76.2.2.2.1.1.2.1 ∧ (v76.2.2.2.1.1.2.1 : Int) < v76.2.2.2.2.2.2.1.length)) then
(v76.2.2.2.2.2.2.1[v76.2.2.2.1.1.2.1.toNat]?).bind fun e77 =>
let x78 := (if (v76.2.2.2.1.1.2.2.2.2.1 : Int) > e77 then v76.2.2.2.1.1.2.2.2.2.1 else e77)
bif (decide ((0 : Int) ≤ v76.2.2.2.1.1.2.1 ∧ (v76.2.2.2.1.1.2.1 : Int) < v76.2.2.2.2.2.2.1.length)) then
bif (decide (v76.2.2.2.1.1.2.1.toNat < v76.2.2.2.2.2.2.1.length)) then
(loopT l44_0_10 ((((v76.2.2.2.2.1.length : Nat) : Int), (v76.1.2.1, ())), (((v76.2.2.1.1.1, (v76.2.2.1.1.2.1, (v76.2.2.1.1.2.2.1, (v76.2.2.1.1.2.2.2.1, (v76.2.2.1.1.2.2.2.2.1, ()))))), ()), (((v76.2.1.1.1, (v76.2.1.1.2.1, (v76.2.1.1.2.2.1, (v76.2.1.1.2.2.2.1, (v76.2.1.1.2.2.2.2.1, ()))))), ()), (v76.2.2.2.2.1, (v76.2.2.2.2.2.1, ((v76.2.2.2.2.2.2.1.set v76.2.2.2.1.1.2.1.toNat x78), ()))))))).bind fun d86 =>
some ((), (((d86.2.2.1.1.1, (d86.2.2.1.1.2.1, (d86.2.2.1.1.2.2.1, (d86.2.2.1.1.2.2.2.1, (d86.2.2.2.1, (d86.2.2.1.1.2.2.2.2.1, (d86.2.2.2.2.1, (d86.2.2.2.2.2.1, ())))))))), ()), ()))
else none
else none
else none)))

def sp44 : Abs.Spec := ⟨0, i44, o44, m44⟩

def an44 : Nat → Abs.FAn
  | 0 => Abs.FAn.mk (fun
    | 19 => some ⟨[108, 4, 0, 6, 7], (.dat .bool (.st (.ptr (0, 0) 8 0 0) (.dat (.int .i64) (.st (.ptr (1, 0) 8 0 0) (.dat (.int .i64) .nil))))), (.box 8 (.agg (.dat (.int .i64) (.dat (.int .i64) (.dat (.int .i64) (.dat (.int .i64) (.st (.own Z1 (2, 0)) (.dat (.int .i64) (.st (.own .bool (3, 0)) (.st (.own (.int .i64) (4, 0)) .nil)))))))) .nil) (.box 8 (.agg (.dat (.int .i64) (.dat (.int .i64) (.dat (.int .i64) (.dat (.int .i64) (.st .nil (.dat (.int .i64) (.st .nil (.st .nil .nil)))))))) .nil) (.arr Z1 false (.arr .bool false (.arr (.int .i64) false .nil)))))⟩
    | 6 => some ⟨[55, 6, 4, 0, 5], (.dat .bool (.st (.ptr (0, 0) 8 0 0) (.st (.ptr (1, 0) 8 0 0) (.dat (.int .i64) (.st (.ptr (2, 0) 9 0 0) .nil))))), (.box 8 (.agg (.dat (.int .i64) (.dat (.int .i64) (.dat (.int .i64) (.dat (.int .i64) (.st .nil (.dat (.int .i64) (.st .nil (.st .nil .nil)))))))) .nil) (.box 8 (.agg (.dat (.int .i64) (.dat (.int .i64) (.dat (.int .i64) (.dat (.int .i64) (.st (.own Z1 (3, 0)) (.dat (.int .i64) (.st (.own .bool (4, 0)) (.st (.own (.int .i64) (5, 0)) .nil)))))))) .nil) (.box 9 (.dat Z4 .nil) (.arr Z1 false (.arr .bool false (.arr (.int .i64) false .nil))))))⟩
    | _ => none) (fun
    | 11 => some (⟨[4, 0, 6, 7], (.st (.ptr (0, 0) 8 0 0) (.dat (.int .i64) (.st (.ptr (1, 0) 8 0 0) (.dat (.int .i64) .nil)))), (.box 8 (.agg (.dat (.int .i64) (.dat (.int .i64) (.dat (.int .i64) (.dat (.int .i64) (.st (.own Z1 (2, 0)) (.dat (.int .i64) (.st (.own .bool (3, 0)) (.st (.own (.int .i64) (4, 0)) .nil)))))))) .nil) (.box 8 (.agg (.dat (.int .i64) (.dat (.int .i64) (.dat (.int .i64) (.dat (.int .i64) (.st .nil (.dat (.int .i64) (.st .nil (.st .nil .nil)))))))) .nil) (.arr Z1 false (.arr .bool false (.arr (.int .i64) false .nil)))))⟩, none)
    | 18 => some (⟨[8, 7, 81, 4, 0, 6, 82, 83], (.dat (.int .i64) (.dat (.int .i64) (.st (.own (.int .i64) (0, 0)) (.st (.ptr (1, 0) 8 0 0) (.dat (.int .i64) (.st (.ptr (2, 0) 8 0 0) (.dat (.int .i64) (.dat (.int .i64) .nil)))))))), (.arr (.int .i64) false (.box 8 (.agg (.dat (.int .i64) (.dat (.int .i64) (.dat (.int .i64) (.dat (.int .i64) (.st (.own Z1 (3, 0)) (.dat (.int .i64) (.st (.own .bool (4, 0)) (.st (.own (.int .i64) (0, 0)) .nil)))))))) .nil) (.box 8 (.agg (.dat (.int .i64) (.dat (.int .i64) (.dat (.int .i64) (.dat (.int .i64) (.st .nil (.dat (.int .i64) (.st .nil (.st .nil .nil)))))))) .nil) (.arr Z1 false (.arr .bool false .nil)))))⟩, none)
    | _ => none) (fun
    | 10 => some ⟨⟨[7, 4, 0, 6], (.dat (.int .i64) (.st (.ptr (0, 0) 8 0 0) (.dat (.int .i64) (.st (.ptr (1, 0) 8 0 0) .nil)))), (.box 8 (.agg (.dat (.int .i64) (.dat (.int .i64) (.dat (.int .i64) (.dat (.int .i64) (.st (.own Z1 (2, 0)) (.dat (.int .i64) (.st (.own .bool (3, 0)) (.st (.own (.int .i64) (4, 0)) .nil)))))))) .nil) (.box 8 (.agg (.dat (.int .i64) (.dat (.int .i64) (.dat (.int .i64) (.dat (.int .i64) (.st .nil (.dat (.int .i64) (.st .nil (.st .nil .nil)))))))) .nil) (.arr Z1 false (.arr .bool false (.arr (.int .i64) false .nil)))))⟩, (.one (.exit 0) ⟨[6, 4], (.st (.ptr (0, 0) 8 0 0) (.st (.ptr (1, 0) 8 0 0) .nil)), (.box 8 (.agg (.dat (.int .i64) (.dat (.int .i64) (.dat (.int .i64) (.dat (.int .i64) (.st .nil (.dat (.int .i64) (.st .nil (.st .nil .nil)))))))) .nil) (.box 8 (.agg (.dat (.int .i64) (.dat (.int .i64) (.dat (.int .i64) (.dat (.int .i64) (.st (.own Z1 (2, 0)) (.dat (.int .i64) (.st (.own .bool (3, 0)) (.st (.own (.int .i64) (4, 0)) .nil)))))))) .nil) (.arr Z1 false (.arr .bool false (.arr (.int .i64) false .nil)))))⟩)⟩
    | 14 => some ⟨⟨[83, 8, 7, 81, 4, 0, 6, 82], (.dat (.int .i64) (.dat (.int .i64) (.dat (.int .i64) (.st (.own (.int .i64) (0, 0)) (.st (.ptr (1, 0) 8 0 0) (.dat (.int .i64) (.st (.ptr (2, 0) 8 0 0) (.dat (.int .i64) .nil)))))))), (.arr (.int .i64) false (.box 8 (.agg (.dat (.int .i64) (.dat (.int .i64) (.dat (.int .i64) (.dat (.int .i64) (.st (.own Z1 (3, 0)) (.dat (.int .i64) (.st (.own .bool (4, 0)) (.st (.own (.int .i64) (0, 0)) .nil)))))))) .nil) (.box 8 (.agg (.dat (.int .i64) (.dat (.int .i64) (.dat (.int .i64) (.dat (.int .i64) (.st .nil (.dat (.int .i64) (.st .nil (.st .nil .nil)))))))) .nil) (.arr Z1 false (.arr .bool false .nil)))))⟩, (.one (.exit 2) ⟨[4, 0, 6, 7, 8], (.st (.ptr (0, 0) 8 0 0) (.dat (.int .i64) (.st (.ptr (1, 0) 8 0 0) (.dat (.int .i64) (.dat (.int .i64) .nil))))), (.box 8 (.agg (.dat (.int .i64) (.dat (.int .i64) (.dat (.int .i64) (.dat (.int .i64) (.st (.own Z1 (2, 0)) (.dat (.int .i64) (.st (.own .bool (3, 0)) (.st (.own (.int .i64) (4, 0)) .nil)))))))) .nil) (.box 8 (.agg (.dat (.int .i64) (.dat (.int .i64) (.dat (.int .i64) (.dat (.int .i64) (.st .nil (.dat (.int .i64) (.st .nil (.st .nil .nil)))))))) .nil) (.arr Z1 false (.arr .bool false (.arr (.int .i64) false .nil)))))⟩)⟩
    | _ => none) (fun _ _ => 0)
  | _ => {}

theorem ok44 : Abs.SpecOK Try.prog 44 sp44 :=
  Abs.specOK_of (n := 12) (an := an44) (T := Abs.tabOf [(76, sp76), (78, sp78), (79, sp79), (28, sp28)]) good foll (Abs.tabOf_ok _ (by simp only [List.forall_mem_cons]; exact ⟨ok76, ok78, ok79, ok28, fun _ h => by cases h⟩)) rfl (by intro v; kernel_rfl)

def l50_0_3 (v : ((Int × Y2 × Int × Unit) × ((List Y9) × Unit))) : Option (((Int × Y2 × Int × Unit) × ((List Y9) × Unit)) ⊕ ((Unit) × ((List Y9) × Unit))) :=
bif (decide ((v.1.1 : Int) < v.1.2.2.1)) then (Abs.rowAt v.1.2.1 v.1.1 fun e26 _ =>
bif (decide (v.2.1.length + ([e26.2.1] : List Y9).length ≤ 4294967296)) then
let x27 := (v.2.1 ++ ([e26.2.1] : List Y9))
some (.inl (((w64 (v.1.1 + 1)), (v.1.2.1, (v.1.2.2.1, ()))), (x27, ())))
else none)
else (some (.inr ((), (v.2.1, ()))))

/- pagewatch/replica.Committed -/
def i50 : Abs.Sg := ⟨[0], (.dat Z3 .nil), .nil⟩

def o50 : Abs.Sg := ⟨[2], (.st (.own Z6 (0, 0)) .nil), (.arr Z6 false .nil)⟩

def m50 (v : ((Y5 × Unit) × (Unit))) : Option ((Unit) × ((List Y9) × Unit)) :=
let x24 := (if ((v.1.1.2.2.2.2.1.length : Int) : Int) < v.1.1.2.2.2.2.2.1 then (v.1.1.2.2.2.2.1.length : Int) else v.1.1.2.2.2.2.2.1)
bif (decide ((0 : Int) ≤ (if (x24 : Int) > 0 then x24 else 0))) then
bif (decide (0 ≤ (if (x24 : Int) > 0 then x24 else 0).toNat ∧ (if (x24 : Int) > 0 then x24 else 0).toNat ≤ v.1.1.2.2.2.2.1.length)) then
let x25 := (v.1.1.2.2.2.2.1.take (if (x24 : Int) > 0 then x24 else 0).toNat)
(loopT l50_0_3 ((0, (x25, ((x25.length : Int), ()))), ([], ()))).bind fun d28 =>
some ((), (d28.2.1, ()))
else none
else none

def sp50 : Abs.Spec := ⟨0, i50, o50, m50⟩

def an50 : Nat → Abs.FAn
  | 0 => Abs.FAn.mk (fun _ => none) (fun _ => none) (fun
    | 3 => some ⟨⟨[17, 3, 15, 16], (.dat (.int .i64) (.st (.own Z6 (0, 0)) (.dat (.row Z1) (.dat (.int .i64) .nil)))), (.arr Z6 false .nil)⟩, (.one (.exit 0) ⟨[3], (.st (.own Z6 (0, 0)) .nil), (.arr Z6 false .nil)⟩)⟩
    | _ => none) (fun _ _ => 0)
  | _ => {}

theorem ok50 : Abs.SpecOK Try.prog 50 sp50 :=
  Abs.specOK_of (n := 12) (an := an50) (T := Abs.tabOf []) good foll (Abs.tabOf_ok _ (fun _ h => by cases h)) rfl (by intro v; kernel_rfl)

/- pagewatch/pagewatchlaw33.sane -/
def i42 : Abs.Sg := ⟨[], .nil, .nil⟩

def o42 : Abs.Sg := ⟨[0], (.dat .bool .nil), .nil⟩

def m42 (v : ((Unit) × (Unit))) : Option Y14 :=
(m90 ((3, ()), ())).bind fun u35 =>
(m73 (((u35.2.2.1, ([], (u35.2.2.2.1, ([], ())))), (0, ())), ())).bind fun u36 =>
Abs.rowAt u36.2.1.1.1 0 fun e37 _ =>
(m54 ((3, (e37, ((7, (2, (0, (0, (0, (0, (0, (0, (0, ((0, (0, (0, (0, (0, (0, ())))))), ((0, (0, (0, (0, (0, ()))))), ()))))))))))), ()))), ())).bind fun u38 =>
(m46 ((3, ((u38.2.1.1.1, (u38.2.1.1.2.1, (u38.2.1.1.2.2.1, (u38.2.1.1.2.2.2.1, (u38.2.2.1, (u38.2.1.1.2.2.2.2.1, (u38.2.2.2.1, (u38.2.2.2.2.1, ())))))))), ())), ())).bind fun u39 =>
((bif ((u38.1.1 : Int) != 0) then (some ((true, ()), (((u38.2.1.1.1, (u38.2.1.1.2.1, (u38.2.1.1.2.2.1, (u38.2.1.1.2.2.2.1, (u38.2.1.1.2.2.2.2.1, ()))))), ()), (u39.2.1, ((u36.2.1.1, ()), (u38.2.2.1, (u38.2.2.2.1, (u38.2.2.2.2.1, ()))))))))
else (some ((((((u39.2.1.length : Nat) : Int) : Int) != 2), ()), (((u38.2.1.1.1, (u38.2.1.1.2.1, (u38.2.1.1.2.2.1, (u38.2.1.1.2.2.2.1, (u38.2.1.1.2.2.2.2.1, ()))))), ()), (u39.2.1, ((u36.2.1.1, ()), (u38.2.2.1, (u38.2.2.2.1, (u38.2.2.2.2.1, ()))))))))) : Option ((Bool × Unit) × (Y11 × (List Y7) × Y10 × Y2 × (List Bool) × (List Int) × Unit))).bind fun v40 =>
bif v40.1.1 then (some ((false, ()), ()))
else (Abs.rowAt v40.2.2.2.1.1.1 1 fun e41 _ =>
bif (decide ((0 : Int) ≤ 0 ∧ (0 : Int) < v40.2.2.1.length)) then
(v40.2.2.1[0]?).bind fun e42 =>
(m47 ((3, (e41, (e42, ()))), ())).bind fun u43 =>
(m44 ((3, ((v40.2.1.1.1, (v40.2.1.1.2.1, (v40.2.1.1.2.2.1, (v40.2.1.1.2.2.2.1, (v40.2.2.2.2.1, (v40.2.1.1.2.2.2.2.1, (v40.2.2.2.2.2.1, (v40.2.2.2.2.2.2.1, ())))))))), ((u43.2.2.1.1.1, (u43.2.2.1.1.2.1, (u43.2.2.1.1.2.2.1, (u43.2.2.1.1.2.2.2.1, (u43.2.2.1.1.2.2.2.2.1, (u43.2.2.1.1.2.2.2.2.2.1, (u43.2.2.1.1.2.2.2.2.2.2.1, ([], (u43.2.2.1.1.2.2.2.2.2.2.2.1, ()))))))))), ()))), ())).bind fun u44 =>
((bif u43.1.1 then (bif u43.2.2.1.1.2.2.2.2.2.2.2.1 then (bif ((u43.2.2.1.1.2.2.2.2.1 : Int) == 1) then (let x45 := (((u43.2.1.1.2.2.2.2.1.length : Int) : Int) == 1)
bif x45 then (bif ((u44.2.1.1.2.2.2.2.2.1 : Int) == 1) then ((m50 ((u44.2.1.1, ()), ())).bind fun u46 =>
some ((((((u46.2.1.length : Nat) : Int) : Int) == 1), ()), ()))
else (some ((false, ()), ())))
else (some ((false, ()), ())))
else (some ((false, ()), ())))
else (some ((false, ()), ())))
else (some ((false, ()), ()))) : Option Y14).bind fun v47 =>
some ((v47.1.1, ()), ())
else none)

def sp42 : Abs.Spec := ⟨0, i42, o42, m42⟩

def an42 : Nat → Abs.FAn
  | 0 => Abs.FAn.mk (fun
    | 8 => some ⟨[0], (.dat .bool .nil), .nil⟩
    | 4 => some ⟨[31, 3, 5, 1], (.dat .bool (.st (.ptr (0, 0) 8 0 0) (.st (.own Z4 (1, 0)) (.st (.ptr (2, 0) 4 0 0) .nil)))), (.box 8 (.agg (.dat (.int .i64) (.dat (.int .i64) (.dat (.int .i64) (.dat (.int .i64) (.st (.own Z1 (3, 0)) (.dat (.int .i64) (.st (.own .bool (4, 0)) (.st (.own (.int .i64) (5, 0)) .nil)))))))) .nil) (.arr Z4 false (.box 4 (.dat Z8 .nil) (.arr Z1 true (.arr .bool true (.arr (.int .i64) true .nil))))))⟩
    | _ => none) (fun _ => none) (fun _ => none) (fun _ _ => 0)
  | _ => {}

theorem ok42 : Abs.SpecOK Try.prog 42 sp42 :=
  Abs.specOK_of (n := 12) (an := an42) (T := Abs.tabOf [(90, sp90), (73, sp73), (54, sp54), (46, sp46), (47, sp47), (44, sp44), (50, sp50)]) good foll (Abs.tabOf_ok _ (by simp only [List.forall_mem_cons]; exact ⟨ok90, ok73, ok54, ok46, ok47, ok44, ok50, fun _ h => by cases h⟩)) rfl (by intro v; kernel_rfl)

def l48_0_2 (v : ((Int × Y2 × Y2 × Unit) × (Unit))) : Option (((Int × Y2 × Y2 × Unit) × (Unit)) ⊕ ((Int × Unit) × (Unit))) :=
((let x32 := (decide ((v.1.1 : Int) < (v.1.2.2.1.length : Int)))
bif x32 then (let x33 := (decide ((v.1.1 : Int) < (v.1.2.1.length : Int)))
bif x33 then (Abs.rowAt v.1.2.2.1 v.1.1 fun e34 _ =>
Abs.rowAt v.1.2.1 v.1.1 fun e35 _ =>
let x36 := (((e34.1 : Int) == e35.1) && ((((e34.2.1.1 : Int) == e35.2.1.1) && (((e34.2.1.2.1 : Int) == e35.2.1.2.1) && (((e34.2.1.2.2.1 : Int) == e35.2.1.2.2.1) && (((e34.2.1.2.2.2.1 : Int) == e35.2.1.2.2.2.1) && (((e34.2.1.2.2.2.2.1 : Int) == e35.2.1.2.2.2.2.1) && (((e34.2.1.2.2.2.2.2.1 : Int) == e35.2.1.2.2.2.2.2.1) && (((e34.2.1.2.2.2.2.2.2.1 : Int) == e35.2.1.2.2.2.2.2.2.1) && (((e34.2.1.2.2.2.2.2.2.2.1 : Int) == e35.2.1.2.2.2.2.2.2.2.1) && (((e34.2.1.2.2.2.2.2.2.2.2.1 : Int) == e35.2.1.2.2.2.2.2.2.2.2.1) && ((((e34.2.1.2.2.2.2.2.2.2.2.2.1.1 : Int) == e35.2.1.2.2.2.2.2.2.2.2.2.1.1) && (((e34.2.1.2.2.2.2.2.2.2.2.2.1.2.1 : Int) == e35.2.1.2.2.2.2.2.2.2.2.2.1.2.1) && (((e34.2.1.2.2.2.2.2.2.2.2.2.1.2.2.1 : Int) == e35.2.1.2.2.2.2.2.2.2.2.2.1.2.2.1) && (((e34.2.1.2.2.2.2.2.2.2.2.2.1.2.2.2.1 : Int) == e35.2.1.2.2.2.2.2.2.2.2.2.1.2.2.2.1) && (((e34.2.1.2.2.2.2.2.2.2.2.2.1.2.2.2.2.1 : Int) == e35.2.1.2.2.2.2.2.2.2.2.2.1.2.2.2.2.1) && (((e34.2.1.2.2.2.2.2.2.2.2.2.1.2.2.2.2.2.1 : Int) == e35.2.1.2.2.2.2.2.2.2.2.2.1.2.2.2.2.2.1) && true)))))) && ((((e34.2.1.2.2.2.2.2.2.2.2.2.2.1.1 : Int) == e35.2.1.2.2.2.2.2.2.2.2.2.2.1.1) && (((e34.2.1.2.2.2.2.2.2.2.2.2.2.1.2.1 : Int) == e35.2.1.2.2.2.2.2.2.2.2.2.2.1.2.1) && (((e34.2.1.2.2.2.2.2.2.2.2.2.2.1.2.2.1 : Int) == e35.2.1.2.2.2.2.2.2.2.2.2.2.1.2.2.1) && (((e34.2.1.2.2.2.2.2.2.2.2.2.2.1.2.2.2.1 : Int) == e35.2.1.2.2.2.2.2.2.2.2.2.2.1.2.2.2.1) && (((e34.2.1.2.2.2.2.2.2.2.2.2.2.1.2.2.2.2.1 : Int) == e35.2.1.2.2.2.2.2.2.2.2.2.2.1.2.2.2.2.1) && true))))) && true))))))))))) && true))
some ((x36, (v.1.2.1, (v.1.2.2.1, (v.1.1, ())))), ()))
else (some ((false, (v.1.2.1, (v.1.2.2.1, (v.1.1, ())))), ())))
else (some ((false, (v.1.2.1, (v.1.2.2.1, (v.1.1, ())))), ()))) : Option ((Bool × Y2 × Y2 × Int × Unit) × (Unit))).bind fun v37 =>
bif v37.1.1 then (some (.inl (((w64 (v37.1.2.2.2.1 + 1)), (v37.1.2.1, (v37.1.2.2.1, ()))), ())))
else (some (.inr ((v37.1.2.2.2.1, ()), ())))

/- pagewatch/replica.Prefix -/
def i48 : Abs.Sg := ⟨[0, 1], (.dat (.row Z1) (.dat (.row Z1) .nil)), .nil⟩

def o48 : Abs.Sg := ⟨[4], (.dat (.int .i64) .nil), .nil⟩

def m48 (v : ((Y2 × Y2 × Unit) × (Unit))) : Option ((Int × Unit) × (Unit)) :=
(loopT l48_0_2 ((0, (v.1.2.1, (v.1.1, ()))), ())).bind fun d38 =>
some ((d38.1.1, ()), ())

def sp48 : Abs.Spec := ⟨0, i48, o48, m48⟩

def an48 : Nat → Abs.FAn
  | 0 => Abs.FAn.mk (fun
    | 2 => some ⟨[26, 1, 0, 5], (.dat .bool (.dat (.row Z1) (.dat (.row Z1) (.dat (.int .i64) .nil)))), .nil⟩
    | _ => none) (fun _ => none) (fun
    | 2 => some ⟨⟨[5, 1, 0], (.dat (.int .i64) (.dat (.row Z1) (.dat (.row Z1) .nil))), .nil⟩, (.one (.exit 0) ⟨[5], (.dat (.int .i64) .nil), .nil⟩)⟩
    | _ => none) (fun _ _ => 0)
  | _ => {}

theorem ok48 : Abs.SpecOK Try.prog 48 sp48 :=
  Abs.specOK_of (n := 12) (an := an48) (T := Abs.tabOf []) good foll (Abs.tabOf_ok _ (fun _ h => by cases h)) rfl (by intro v; kernel_rfl)

def l8_0_14 (v : (Y20 × ((Y5 × Unit) × Y10 × (List Y7) × Unit))) : Option ((Y20 × ((Y5 × Unit) × Y10 × (List Y7) × Unit)) ⊕ (Y14 ⊕ ((Unit) × (Unit)))) :=
bif (decide ((v.1.1 : Int) < v.1.2.2.1)) then (((bif (decide ((0 : Int) ≤ v.1.1 ∧ (v.1.1 : Int) < v.2.2.2.1.length)) then
(v.2.2.2.1[v.1.1.toNat]?).bind fun e156 =>
((bif (decide ((e156.2.2.1 : Int) < 0)) then (some ((true, (v.1.2.1, (v.1.2.2.1, (v.1.1, ())))), ((v.2.1.1, ()), ((v.2.2.1.1, ()), (v.2.2.2.1, ((e156, ()), ()))))))
else (bif (decide ((e156.2.2.1 : Int) ≥ v.1.2.1)) then (some ((true, (v.1.2.1, (v.1.2.2.1, (v.1.1, ())))), ((v.2.1.1, ()), ((v.2.2.1.1, ()), (v.2.2.2.1, ((e156, ()), ()))))))
else (Abs.rowAt v.2.1.1.2.2.2.2.2.2.2.1 e156.2.2.1 fun e157 _ =>
bif ((e156.2.2.2.2.1 : Int) != e157) then (some ((true, (v.1.2.1, (v.1.2.2.1, (v.1.1, ())))), ((v.2.1.1, ()), ((v.2.2.1.1, ()), (v.2.2.2.1, ((e156, ()), ()))))))
else (let x158 := (w64 (e156.2.2.2.2.1 + (e156.2.2.2.2.2.2.2.1.length : Int)))
let x159 := ((x158 : Int) != (v.2.1.1.2.2.2.2.1.length : Int))
some ((x159, (v.1.2.1, (v.1.2.2.1, (v.1.1, ())))), ((v.2.1.1, ()), ((v.2.2.1.1, ()), (v.2.2.2.1, ((e156, ()), ()))))))))) : Option ((Bool × Int × Int × Int × Unit) × ((Y5 × Unit) × Y10 × (List Y7) × (Y7 × Unit) × Unit))).bind fun v160 =>
bif v160.1.1 then (some (.inr ((false, ()), ())))
else (Abs.rowAt v160.2.2.1.1.1 v160.2.2.2.2.1.1.2.2.1 fun e161 _ =>
(m47 ((v160.1.2.1, (e161, (v160.2.2.2.2.1.1, ()))), ())).bind fun u162 =>
((bif (!u162.1.1) then (some ((true, (v160.1.2.1, (v160.1.2.2.1, (v160.1.2.2.2.1, ())))), ((v160.2.1.1, ()), ((v160.2.2.1.1, ()), (v160.2.2.2.1, (((u162.2.2.1.1.1, (u162.2.2.1.1.2.1, (u162.2.2.1.1.2.2.1, (u162.2.2.1.1.2.2.2.1, (u162.2.2.1.1.2.2.2.2.1, (u162.2.2.1.1.2.2.2.2.2.1, (u162.2.2.1.1.2.2.2.2.2.2.1, (u162.2.2.1.1.2.2.2.2.2.2.2.1, ())))))))), ()), ((u162.2.1.1, ()), ((v160.2.2.2.2.1.1, ()), ()))))))))
else (some (((!u162.2.2.1.1.2.2.2.2.2.2.2.1), (v160.1.2.1, (v160.1.2.2.1, (v160.1.2.2.2.1, ())))), ((v160.2.1.1, ()), ((v160.2.2.1.1, ()), (v160.2.2.2.1, (((u162.2.2.1.1.1, (u162.2.2.1.1.2.1, (u162.2.2.1.1.2.2.1, (u162.2.2.1.1.2.2.2.1, (u162.2.2.1.1.2.2.2.2.1, (u162.2.2.1.1.2.2.2.2.2.1, (u162.2.2.1.1.2.2.2.2.2.2.1, (u162.2.2.1.1.2.2.2.2.2.2.2.1, ())))))))), ()), ((u162.2.1.1, ()), ((v160.2.2.2.2.1.1, ()), ()))))))))) : Option ((Bool × Int × Int × Int × Unit) × ((Y5 × Unit) × Y10 × (List Y7) × Y15 × (Y5 × Unit) × (Y7 × Unit) × Unit))).bind fun v163 =>
bif v163.1.1 then (some (.inl ((v163.1.2.1, (v163.1.2.2.1, (v163.1.2.2.2.1, ()))), ((v163.2.1.1, ()), ((v163.2.2.1.1, ()), (v163.2.2.2.1, ()))))))
else ((m47 ((v163.1.2.1, (v163.2.2.2.2.2.1.1, (v163.2.2.2.2.2.2.1.1, ()))), ())).bind fun u164 =>
(((m48 ((v163.2.2.2.2.2.1.1.2.2.2.2.1, (v163.2.1.1.2.2.2.2.1, ())), ())).bind fun u165 =>
let x166 := (decide ((u165.1.1 : Int) < v163.2.2.2.2.1.1.2.2.2.2.1))
bif x166 then (some ((true, (v163.1.2.1, (v163.1.2.2.1, (v163.1.2.2.2.1, ())))), ((v163.2.1.1, ()), ((v163.2.2.1.1, ()), (v163.2.2.2.1, ())))))
else ((m31 ((v163.2.2.2.2.2.1.1, (u164.2.1.1, ())), ())).bind fun u167 =>
bif (!u167.1.1) then (some ((true, (v163.1.2.1, (v163.1.2.2.1, (v163.1.2.2.2.1, ())))), ((v163.2.1.1, ()), ((v163.2.2.1.1, ()), (v163.2.2.2.1, ())))))
else ((m35 (((u164.2.2.1.1.1, (u164.2.2.1.1.2.1, (u164.2.2.1.1.2.2.1, (u164.2.2.1.1.2.2.2.1, (u164.2.2.1.1.2.2.2.2.1, (u164.2.2.1.1.2.2.2.2.2.1, (u164.2.2.1.1.2.2.2.2.2.2.1, ([], (u164.2.2.1.1.2.2.2.2.2.2.2.1, ()))))))))), ((v163.2.2.2.2.1.1.1, (v163.2.2.2.2.1.1.2.1, (v163.2.2.2.2.1.1.2.2.1, (v163.2.2.2.2.1.1.2.2.2.1, (v163.2.2.2.2.1.1.2.2.2.2.1, (v163.2.2.2.2.1.1.2.2.2.2.2.1, (v163.2.2.2.2.1.1.2.2.2.2.2.2.1, ([], (v163.2.2.2.2.1.1.2.2.2.2.2.2.2.1, ()))))))))), ())), ())).bind fun u168 =>
bif (!u168.1.1) then (some ((true, (v163.1.2.1, (v163.1.2.2.1, (v163.1.2.2.2.1, ())))), ((v163.2.1.1, ()), ((v163.2.2.1.1, ()), (v163.2.2.2.1, ())))))
else (let x169 := ((v163.2.2.2.2.1.1.2.2.2.2.1 : Int) != (v163.2.1.1.2.2.2.2.1.length : Int))
some ((x169, (v163.1.2.1, (v163.1.2.2.1, (v163.1.2.2.2.1, ())))), ((v163.2.1.1, ()), ((v163.2.2.1.1, ()), (v163.2.2.2.1, ())))))))) : Option ((Bool × Int × Int × Int × Unit) × ((Y5 × Unit) × Y10 × (List Y7) × Unit))).bind fun v170 =>
bif v170.1.1 then (some (.inr ((false, ()), ())))
else (some (.inl ((v170.1.2.1, (v170.1.2.2.1, (v170.1.2.2.2.1, ()))), ((v170.2.1.1, ()), ((v170.2.2.1.1, ()), (v170.2.2.2.1, ()))))))))
else none) : Option ((Y20 × ((Y5 × Unit) × Y10 × (List Y7) × Unit)) ⊕ Y14)).bind fun r173 =>
sumE r173 (fun v171 => (some (.inl (((w64 (v171.1.2.2.1 + 1)), (v171.1.1, (v171.1.2.1, ()))), ((v171.2.1.1, ()), ((v171.2.2.1.1, ()), (v171.2.2.2.1, ()))))))) (fun d172 => (some (.inr (.inl ((d172.1.1, ()), ()))))))
else (some (.inr (.inr ((), ()))))

def m8 (v : (((List Int) × Unit) × (Unit))) : Option Y14 :=
(m16 ((v.1.1, ()), ())).bind fun u145 =>
bif (!u145.1.1) then ((m42 ((), ())).bind fun u146 =>
some ((u146.1.1, ()), ()))
else ((m18 ((v.1.1, ()), ())).bind fun u147 =>
(m19 ((20, ()), ((u147.2.1.1, ()), ()))).bind fun u148 =>
(m43 ((u148.2.2.1.1, ()), ())).bind fun u149 =>
((bif (!u149.1.2.1) then (some ((true, ((u148.2.2.1.1.1.length : Int), (u149.1.1, ()))), ((u148.2.2.1.1, ()), ())))
else (let x150 := (decide (((u148.2.2.1.1.1.length : Int) : Int) < 2))
some ((x150, ((u148.2.2.1.1.1.length : Int), (u149.1.1, ()))), ((u148.2.2.1.1, ()), ())))) : Option ((Bool × Int × Int × Unit) × (Y10 × Unit))).bind fun v151 =>
bif v151.1.1 then ((m42 ((), ())).bind fun u152 =>
some ((u152.1.1, ()), ()))
else (Abs.rowAt v151.2.1.1.1 v151.1.2.2.1 fun e153 _ =>
(m46 ((v151.1.2.1, (e153, ())), ())).bind fun u154 =>
let x155 := ((((u154.2.1.length : Nat) : Int) : Int) != (w64 (v151.1.2.1 - 1)))
bif x155 then (some ((false, ()), ()))
else ((loopT l8_0_14 ((0, (v151.1.2.1, (((u154.2.1.length : Nat) : Int), ()))), ((e153, ()), ((v151.2.1.1, ()), (u154.2.1, ()))))).bind fun d174 =>
sumE d174 (fun d175 => (some ((d175.1.1, ()), ()))) (fun d176 => ((m42 ((), ())).bind fun u177 =>
some ((u177.1.1, ()), ()))))))

/- pagewatch/replica.Restart -/
def i49 : Abs.Sg := ⟨[0, 1], (.dat (.int .i64) (.dat Z3 .nil)), .nil⟩

def o49 : Abs.Sg := ⟨[4, 5], (.st (.ptr (0, 0) 8 0 0) (.dat (.int .i64) .nil)), (.box 8 (.agg (.dat (.int .i64) (.dat (.int .i64) (.dat (.int .i64) (.dat (.int .i64) (.st (.own Z1 (1, 0)) (.dat (.int .i64) (.st .nil (.st .nil .nil)))))))) .nil) (.arr Z1 false .nil))⟩

def m49 (v : ((Int × Y5 × Unit) × (Unit))) : Option ((Int × Unit) × (Y11 × Y2 × Unit)) :=
(m26 ((v.1.1, (v.1.2.1, ())), ())).bind fun u7 =>
bif (!u7.1.1) then (some ((8, ()), (((0, (0, (0, (0, (0, ()))))), ()), ([], ()))))
else ((m76 ((v.1.2.1, ()), ())).bind fun u8 =>
some ((0, ()), (((u8.2.1.1.1, (u8.2.1.1.2.1, (u8.2.1.1.2.2.1, (0, (u8.2.1.1.2.2.2.2.1, ()))))), ()), (u8.2.2.1, ()))))

def sp49 : Abs.Spec := ⟨0, i49, o49, m49⟩

def an49 : Nat → Abs.FAn
  | _ => {}

theorem ok49 : Abs.SpecOK Try.prog 49 sp49 :=
  Abs.specOK_of (n := 12) (an := an49) (T := Abs.tabOf [(26, sp26), (76, sp76)]) good foll (Abs.tabOf_ok _ (by simp only [List.forall_mem_cons]; exact ⟨ok26, ok76, fun _ h => by cases h⟩)) rfl (by intro v; kernel_rfl)

def l51_0_4 (v : ((Int × (List Y9) × (List Y9) × Unit) × (Unit))) : Option (((Int × (List Y9) × (List Y9) × Unit) × (Unit)) ⊕ (Y14 ⊕ ((Unit) × (Unit)))) :=
let x35 := (decide ((v.1.1 : Int) < (v.1.2.2.1.length : Int)))
bif x35 then (Abs.rowAt v.1.2.2.1 v.1.1 fun e36 _ =>
Abs.rowAt v.1.2.1 v.1.1 fun e37 _ =>
let x38 := (!(((e36.1 : Int) == e37.1) && (((e36.2.1 : Int) == e37.2.1) && (((e36.2.2.1 : Int) == e37.2.2.1) && (((e36.2.2.2.1 : Int) == e37.2.2.2.1) && (((e36.2.2.2.2.1 : Int) == e37.2.2.2.2.1) && (((e36.2.2.2.2.2.1 : Int) == e37.2.2.2.2.2.1) && (((e36.2.2.2.2.2.2.1 : Int) == e37.2.2.2.2.2.2.1) && (((e36.2.2.2.2.2.2.2.1 : Int) == e37.2.2.2.2.2.2.2.1) && (((e36.2.2.2.2.2.2.2.2.1 : Int) == e37.2.2.2.2.2.2.2.2.1) && ((((e36.2.2.2.2.2.2.2.2.2.1.1 : Int) == e37.2.2.2.2.2.2.2.2.2.1.1) && (((e36.2.2.2.2.2.2.2.2.2.1.2.1 : Int) == e37.2.2.2.2.2.2.2.2.2.1.2.1) && (((e36.2.2.2.2.2.2.2.2.2.1.2.2.1 : Int) == e37.2.2.2.2.2.2.2.2.2.1.2.2.1) && (((e36.2.2.2.2.2.2.2.2.2.1.2.2.2.1 : Int) == e37.2.2.2.2.2.2.2.2.2.1.2.2.2.1) && (((e36.2.2.2.2.2.2.2.2.2.1.2.2.2.2.1 : Int) == e37.2.2.2.2.2.2.2.2.2.1.2.2.2.2.1) && (((e36.2.2.2.2.2.2.2.2.2.1.2.2.2.2.2.1 : Int) == e37.2.2.2.2.2.2.2.2.2.1.2.2.2.2.2.1) && true)))))) && ((((e36.2.2.2.2.2.2.2.2.2.2.1.1 : Int) == e37.2.2.2.2.2.2.2.2.2.2.1.1) && (((e36.2.2.2.2.2.2.2.2.2.2.1.2.1 : Int) == e37.2.2.2.2.2.2.2.2.2.2.1.2.1) && (((e36.2.2.2.2.2.2.2.2.2.2.1.2.2.1 : Int) == e37.2.2.2.2.2.2.2.2.2.2.1.2.2.1) && (((e36.2.2.2.2.2.2.2.2.2.2.1.2.2.2.1 : Int) == e37.2.2.2.2.2.2.2.2.2.2.1.2.2.2.1) && (((e36.2.2.2.2.2.2.2.2.2.2.1.2.2.2.2.1 : Int) == e37.2.2.2.2.2.2.2.2.2.2.1.2.2.2.2.1) && true))))) && true))))))))))))
bif x38 then (some (.inr (.inl ((false, ()), ()))))
else (some (.inl (((w64 (v.1.1 + 1)), (v.1.2.1, (v.1.2.2.1, ()))), ()))))
else (some (.inr (.inr ((), ()))))

/- pagewatch/pagewatchref34.SameOps -/
def i51 : Abs.Sg := ⟨[0, 1], (.dat (.row Z6) (.dat (.row Z6) .nil)), .nil⟩

def o51 : Abs.Sg := ⟨[4], (.dat .bool .nil), .nil⟩

def m51 (v : (((List Y9) × (List Y9) × Unit) × (Unit))) : Option Y14 :=
let x34 := (((v.1.1.length : Int) : Int) != (v.1.2.1.length : Int))
bif x34 then (some ((false, ()), ()))
else ((loopT l51_0_4 ((0, (v.1.2.1, (v.1.1, ()))), ())).bind fun d39 =>
sumE d39 (fun d40 => (some ((d40.1.1, ()), ()))) (fun d41 => (some ((true, ()), ()))))

def sp51 : Abs.Spec := ⟨0, i51, o51, m51⟩

def an51 : Nat → Abs.FAn
  | 0 => Abs.FAn.mk (fun _ => none) (fun _ => none) (fun
    | 4 => some ⟨⟨[5, 1, 0], (.dat (.int .i64) (.dat (.row Z6) (.dat (.row Z6) .nil))), .nil⟩, (.more .ret ⟨[4], (.dat .bool .nil), .nil⟩ (.one (.exit 0) ⟨[], .nil, .nil⟩))⟩
    | _ => none) (fun _ _ => 0)
  | _ => {}

theorem ok51 : Abs.SpecOK Try.prog 51 sp51 :=
  Abs.specOK_of (n := 12) (an := an51) (T := Abs.tabOf []) good foll (Abs.tabOf_ok _ (fun _ h => by cases h)) rfl (by intro v; kernel_rfl)

def l58_0_2 (v : ((Int × Y2 × Y2 × Unit) × (Unit))) : Option (((Int × Y2 × Y2 × Unit) × (Unit)) ⊕ ((Int × Unit) × (Unit))) :=
((let x32 := (decide ((v.1.1 : Int) < (v.1.2.2.1.length : Int)))
bif x32 then (let x33 := (decide ((v.1.1 : Int) < (v.1.2.1.length : Int)))
bif x33 then (Abs.rowAt v.1.2.2.1 v.1.1 fun e34 _ =>
Abs.rowAt v.1.2.1 v.1.1 fun e35 _ =>
let x36 := (((e34.1 : Int) == e35.1) && ((((e34.2.1.1 : Int) == e35.2.1.1) && (((e34.2.1.2.1 : Int) == e35.2.1.2.1) && (((e34.2.1.2.2.1 : Int) == e35.2.1.2.2.1) && (((e34.2.1.2.2.2.1 : Int) == e35.2.1.2.2.2.1) && (((e34.2.1.2.2.2.2.1 : Int) == e35.2.1.2.2.2.2.1) && (((e34.2.1.2.2.2.2.2.1 : Int) == e35.2.1.2.2.2.2.2.1) && (((e34.2.1.2.2.2.2.2.2.1 : Int) == e35.2.1.2.2.2.2.2.2.1) && (((e34.2.1.2.2.2.2.2.2.2.1 : Int) == e35.2.1.2.2.2.2.2.2.2.1) && (((e34.2.1.2.2.2.2.2.2.2.2.1 : Int) == e35.2.1.2.2.2.2.2.2.2.2.1) && ((((e34.2.1.2.2.2.2.2.2.2.2.2.1.1 : Int) == e35.2.1.2.2.2.2.2.2.2.2.2.1.1) && (((e34.2.1.2.2.2.2.2.2.2.2.2.1.2.1 : Int) == e35.2.1.2.2.2.2.2.2.2.2.2.1.2.1) && (((e34.2.1.2.2.2.2.2.2.2.2.2.1.2.2.1 : Int) == e35.2.1.2.2.2.2.2.2.2.2.2.1.2.2.1) && (((e34.2.1.2.2.2.2.2.2.2.2.2.1.2.2.2.1 : Int) == e35.2.1.2.2.2.2.2.2.2.2.2.1.2.2.2.1) && (((e34.2.1.2.2.2.2.2.2.2.2.2.1.2.2.2.2.1 : Int) == e35.2.1.2.2.2.2.2.2.2.2.2.1.2.2.2.2.1) && (((e34.2.1.2.2.2.2.2.2.2.2.2.1.2.2.2.2.2.1 : Int) == e35.2.1.2.2.2.2.2.2.2.2.2.1.2.2.2.2.2.1) && true)))))) && ((((e34.2.1.2.2.2.2.2.2.2.2.2.2.1.1 : Int) == e35.2.1.2.2.2.2.2.2.2.2.2.2.1.1) && (((e34.2.1.2.2.2.2.2.2.2.2.2.2.1.2.1 : Int) == e35.2.1.2.2.2.2.2.2.2.2.2.2.1.2.1) && (((e34.2.1.2.2.2.2.2.2.2.2.2.2.1.2.2.1 : Int) == e35.2.1.2.2.2.2.2.2.2.2.2.2.1.2.2.1) && (((e34.2.1.2.2.2.2.2.2.2.2.2.2.1.2.2.2.1 : Int) == e35.2.1.2.2.2.2.2.2.2.2.2.2.1.2.2.2.1) && (((e34.2.1.2.2.2.2.2.2.2.2.2.2.1.2.2.2.2.1 : Int) == e35.2.1.2.2.2.2.2.2.2.2.2.2.1.2.2.2.2.1) && true))))) && true))))))))))) && true))
some ((x36, (v.1.2.1, (v.1.2.2.1, (v.1.1, ())))), ()))
else (some ((false, (v.1.2.1, (v.1.2.2.1, (v.1.1, ())))), ())))
else (some ((false, (v.1.2.1, (v.1.2.2.1, (v.1.1, ())))), ()))) : Option ((Bool × Y2 × Y2 × Int × Unit) × (Unit))).bind fun v37 =>
bif v37.1.1 then (some (.inl (((w64 (v37.1.2.2.2.1 + 1)), (v37.1.2.1, (v37.1.2.2.1, ()))), ())))
else (some (.inr ((v37.1.2.2.2.1, ()), ())))

/- pagewatch/pagewatchref33.Prefix -/
def i58 : Abs.Sg := ⟨[0, 1], (.dat (.row Z1) (.dat (.row Z1) .nil)), .nil⟩

def o58 : Abs.Sg := ⟨[4], (.dat (.int .i64) .nil), .nil⟩

def m58 (v : ((Y2 × Y2 × Unit) × (Unit))) : Option ((Int × Unit) × (Unit)) :=
(loopT l58_0_2 ((0, (v.1.2.1, (v.1.1, ()))), ())).bind fun d38 =>
some ((d38.1.1, ()), ())

def sp58 : Abs.Spec := ⟨0, i58, o58, m58⟩

def an58 : Nat → Abs.FAn
  | 0 => Abs.FAn.mk (fun
    | 2 => some ⟨[26, 1, 0, 5], (.dat .bool (.dat (.row Z1) (.dat (.row Z1) (.dat (.int .i64) .nil)))), .nil⟩
    | _ => none) (fun _ => none) (fun
    | 2 => some ⟨⟨[5, 1, 0], (.dat (.int .i64) (.dat (.row Z1) (.dat (.row Z1) .nil))), .nil⟩, (.one (.exit 0) ⟨[5], (.dat (.int .i64) .nil), .nil⟩)⟩
    | _ => none) (fun _ _ => 0)
  | _ => {}

theorem ok58 : Abs.SpecOK Try.prog 58 sp58 :=
  Abs.specOK_of (n := 12) (an := an58) (T := Abs.tabOf []) good foll (Abs.tabOf_ok _ (fun _ h => by cases h)) rfl (by intro v; kernel_rfl)

def l59_0_3 (v : ((Int × Unit) × ((Y5 × Unit) × (List Y9) × Unit))) : Option (((Int × Unit) × ((Y5 × Unit) × (List Y9) × Unit)) ⊕ ((Unit) × ((List Y9) × Unit))) :=
((bif (decide ((v.1.1 : Int) < v.2.1.1.2.2.2.2.2.1)) then (let x22 := (decide ((v.1.1 : Int) < (v.2.1.1.2.2.2.2.1.length : Int)))
some ((x22, (v.1.1, ())), ((v.2.1.1, ()), (v.2.2.1, ()))))
else (some ((false, (v.1.1, ())), ((v.2.1.1, ()), (v.2.2.1, ()))))) : Option ((Bool × Int × Unit) × ((Y5 × Unit) × (List Y9) × Unit))).bind fun v23 =>
bif v23.1.1 then (Abs.rowAt v23.2.1.1.2.2.2.2.1 v23.1.2.1 fun e24 _ =>
bif (decide (v23.2.2.1.length + ([e24.2.1] : List Y9).length ≤ 4294967296)) then
let x25 := (v23.2.2.1 ++ ([e24.2.1] : List Y9))
some (.inl (((w64 (v23.1.2.1 + 1)), ()), ((v23.2.1.1, ()), (x25, ()))))
else none)
else (some (.inr ((), (v23.2.2.1, ()))))

/- pagewatch/pagewatchref33.Committed -/
def i59 : Abs.Sg := ⟨[0], (.dat Z3 .nil), .nil⟩

def o59 : Abs.Sg := ⟨[2], (.st (.own Z6 (0, 0)) .nil), (.arr Z6 false .nil)⟩

def m59 (v : ((Y5 × Unit) × (Unit))) : Option ((Unit) × ((List Y9) × Unit)) :=
(loopT l59_0_3 ((0, ()), ((v.1.1, ()), ([], ())))).bind fun d26 =>
some ((), (d26.2.1, ()))

def sp59 : Abs.Spec := ⟨0, i59, o59, m59⟩

def an59 : Nat → Abs.FAn
  | 0 => Abs.FAn.mk (fun
    | 3 => some ⟨[15, 1, 4, 3], (.dat .bool (.st (.ptr (0, 0) 8 0 0) (.dat (.int .i64) (.st (.own Z6 (1, 0)) .nil)))), (.box 8 (.dat Z3 .nil) (.arr Z6 false .nil))⟩
    | _ => none) (fun _ => none) (fun
    | 3 => some ⟨⟨[4, 1, 3], (.dat (.int .i64) (.st (.ptr (0, 0) 8 0 0) (.st (.own Z6 (1, 0)) .nil))), (.box 8 (.dat Z3 .nil) (.arr Z6 false .nil))⟩, (.one (.exit 0) ⟨[3], (.st (.own Z6 (0, 0)) .nil), (.arr Z6 false .nil)⟩)⟩
    | _ => none) (fun _ _ => 0)
  | _ => {}

theorem ok59 : Abs.SpecOK Try.prog 59 sp59 :=
  Abs.specOK_of (n := 12) (an := an59) (T := Abs.tabOf []) good foll (Abs.tabOf_ok _ (fun _ h => by cases h)) rfl (by intro v; kernel_rfl)

def l11_0_13 (v : ((Int × Int × Int × Int × Unit) × (Y15 × Y13 × (Y5 × Unit) × (Y9 × Unit) × Y10 × (Y7 × Unit) × (List Y7) × Y2 × Unit))) : Option (((Int × Int × Int × Int × Unit) × (Y15 × Y13 × (Y5 × Unit) × (Y9 × Unit) × Y10 × (Y7 × Unit) × (List Y7) × Y2 × Unit)) ⊕ (Y20 × (Y13 × (Y5 × Unit) × (Y9 × Unit) × Y10 × (Y7 × Unit) × Y15 × (List Y7) × Y2 × Unit))) :=
bif (decide ((v.1.1 : Int) > 0)) then ((m41 (([v.2.2.2.1.1.2.1, v.2.2.2.1.1.2.1, 1, (w64 (v.2.2.2.1.1.2.1 + 1)), 0], ()), ((v.2.2.1.1, ()), ()))).bind fun u407 =>
(m20 ((60, ()), ((u407.2.1.1, ()), ()))).bind fun u408 =>
bif (decide (v.2.2.2.2.2.2.2.2.1.length + ([(u407.1.1, (((w64 (1 + u408.1.1)), (2, (0, (0, (0, (0, (0, (0, (0, ((0, (0, (0, (0, (0, (0, ())))))), ((0, (0, (0, (0, (0, ()))))), ()))))))))))), ()))] : List (Int × Y9 × Unit)).length ≤ 4294967296)) then
let x409 := (v.2.2.2.2.2.2.2.2.1 ++ ([(u407.1.1, (((w64 (1 + u408.1.1)), (2, (0, (0, (0, (0, (0, (0, (0, ((0, (0, (0, (0, (0, (0, ())))))), ((0, (0, (0, (0, (0, ()))))), ()))))))))))), ()))] : List (Int × Y9 × Unit)))
some (.inl (((w64 (v.1.1 - 1)), (v.1.2.1, (v.1.2.2.1, (v.1.2.2.2.1, ())))), (((v.2.1.1.1, (v.2.1.1.2.1, (v.2.1.1.2.2.1, (v.2.1.1.2.2.2.1, (v.2.1.1.2.2.2.2.1, (v.2.1.1.2.2.2.2.2.1, (v.2.1.1.2.2.2.2.2.2.1, (v.2.1.1.2.2.2.2.2.2.2.1, ())))))))), ()), ((u408.2.1.1, ()), ((v.2.2.2.1.1, ()), ((v.2.2.2.2.1.1, ()), ((v.2.2.2.2.2.1.1, ()), ((v.2.2.2.2.2.2.1.1, ()), (v.2.2.2.2.2.2.2.1, (x409, ()))))))))))
else none)
else (some (.inr ((v.1.2.1, (v.1.2.2.1, (v.1.2.2.2.1, ()))), ((v.2.2.1.1, ()), ((v.2.2.2.1.1, ()), ((v.2.2.2.2.1.1, ()), ((v.2.2.2.2.2.1.1, ()), ((v.2.2.2.2.2.2.1.1, ()), (((v.2.1.1.1, (v.2.1.1.2.1, (v.2.1.1.2.2.1, (v.2.1.1.2.2.2.1, (v.2.1.1.2.2.2.2.1, (v.2.1.1.2.2.2.2.2.1, (v.2.1.1.2.2.2.2.2.2.1, (v.2.1.1.2.2.2.2.2.2.2.1, ())))))))), ()), (v.2.2.2.2.2.2.2.1, (v.2.2.2.2.2.2.2.2.1, ())))))))))))

def l11_0_9 (v : (Y20 × (Y13 × (Y5 × Unit) × (List Y7) × (Y9 × Unit) × Y10 × (Y7 × Unit) × Unit))) : Option ((Y20 × (Y13 × (Y5 × Unit) × (List Y7) × (Y9 × Unit) × Y10 × (Y7 × Unit) × Unit)) ⊕ ((Int × Int × Unit) × ((List Y7) × (Y5 × Unit) × Y13 × (Y9 × Unit) × Y10 × (Y7 × Unit) × Unit))) :=
bif (decide ((v.1.1 : Int) < 3)) then ((m41 (([3, 4], ()), ((v.2.1.1, ()), ()))).bind fun u398 =>
(m20 ((v.1.2.1, ()), ((u398.2.1.1, ()), ()))).bind fun u399 =>
(m41 (([v.2.2.1.1.2.1, (w64 (v.2.2.1.1.2.1 + 1)), 1, (w64 (v.2.2.1.1.2.1 - 1))], ()), ((u399.2.1.1, ()), ()))).bind fun u400 =>
(m41 (([(v.2.2.1.1.2.2.2.2.1.length : Int), 0, (w64 ((v.2.2.1.1.2.2.2.2.1.length : Int) + 1)), 1, (-1)], ()), ((u400.2.1.1, ()), ()))).bind fun u401 =>
(m22 ((v.2.2.1.1, ()), ())).bind fun u402 =>
(m41 (([u402.1.1, 0, 1], ()), ((u401.2.1.1, ()), ()))).bind fun u403 =>
(m20 ((5, ()), ((u403.2.1.1, ()), ()))).bind fun u404 =>
(m20 ((4, ()), ((u404.2.1.1, ()), ()))).bind fun u405 =>
(m20 ((4, ()), ((u405.2.1.1, ()), ()))).bind fun u406 =>
(loopT l11_0_13 ((u406.1.1, (v.1.2.1, (v.1.2.2.1, (v.1.1, ())))), (((u398.1.1, (u399.1.1, (v.2.2.1.1.1, (u400.1.1, (u401.1.1, (u403.1.1, ((w64 (u404.1.1 - 1)), ((decide ((u405.1.1 : Int) > 0)), ())))))))), ()), ((u406.2.1.1, ()), (((v.2.2.1.1.1, (v.2.2.1.1.2.1, v.2.2.1.1.2.2)), ()), ((v.2.2.2.2.1.1, ()), ((v.2.2.2.2.2.1.1, ()), ((v.2.2.2.2.2.2.1.1, ()), (v.2.2.2.1, ([], ())))))))))).bind fun d410 =>
bif (decide (d410.2.2.2.2.2.2.2.1.length + ([(d410.2.2.2.2.2.2.1.1.1, (d410.2.2.2.2.2.2.1.1.2.1, (d410.2.2.2.2.2.2.1.1.2.2.1, (d410.2.2.2.2.2.2.1.1.2.2.2.1, (d410.2.2.2.2.2.2.1.1.2.2.2.2.1, (d410.2.2.2.2.2.2.1.1.2.2.2.2.2.1, (d410.2.2.2.2.2.2.1.1.2.2.2.2.2.2.1, (d410.2.2.2.2.2.2.2.2.1, (d410.2.2.2.2.2.2.1.1.2.2.2.2.2.2.2.1, ())))))))))] : List Y7).length ≤ 4294967296)) then
let x411 := (d410.2.2.2.2.2.2.2.1 ++ ([(d410.2.2.2.2.2.2.1.1.1, (d410.2.2.2.2.2.2.1.1.2.1, (d410.2.2.2.2.2.2.1.1.2.2.1, (d410.2.2.2.2.2.2.1.1.2.2.2.1, (d410.2.2.2.2.2.2.1.1.2.2.2.2.1, (d410.2.2.2.2.2.2.1.1.2.2.2.2.2.1, (d410.2.2.2.2.2.2.1.1.2.2.2.2.2.2.1, (d410.2.2.2.2.2.2.2.2.1, (d410.2.2.2.2.2.2.1.1.2.2.2.2.2.2.2.1, ())))))))))] : List Y7))
some (.inl (((w64 (d410.1.2.2.1 + 1)), (d410.1.1, (d410.1.2.1, ()))), ((d410.2.1.1, ()), ((d410.2.2.1.1, ()), (x411, ((d410.2.2.2.1.1, ()), ((d410.2.2.2.2.1.1, ()), ((d410.2.2.2.2.2.1.1, ()), ()))))))))
else none)
else (some (.inr ((v.1.2.2.1, (v.1.2.1, ())), (v.2.2.2.1, (((v.2.2.1.1.1, (v.2.2.1.1.2.1, v.2.2.1.1.2.2)), ()), ((v.2.1.1, ()), ((v.2.2.2.2.1.1, ()), ((v.2.2.2.2.2.1.1, ()), ((v.2.2.2.2.2.2.1.1, ()), ())))))))))

def l11_0_18 (v : ((Int × (List Y7) × Int × Int × Int × Unit) × ((List Y7) × (Y5 × Unit) × Y13 × (Y9 × Unit) × Y10 × (Y7 × Unit) × Unit))) : Option (((Int × (List Y7) × Int × Int × Int × Unit) × ((List Y7) × (Y5 × Unit) × Y13 × (Y9 × Unit) × Y10 × (Y7 × Unit) × Unit)) ⊕ ((Int × Int × Unit) × ((Y5 × Unit) × Y13 × (Y9 × Unit) × Y10 × (Y7 × Unit) × (List Y7) × Unit))) :=
bif (decide ((v.1.1 : Int) < v.1.2.2.2.2.1)) then (((Abs.rowAt v.1.2.1 v.1.1 fun e413 _ =>
bif ((e413.2.2.1 : Int) == v.2.2.1.1.1) then (bif (decide (v.2.1.length + ([e413] : List Y7).length ≤ 4294967296)) then
let x414 := (v.2.1 ++ ([e413] : List Y7))
some ((v.1.2.1, (v.1.2.2.1, (v.1.2.2.2.1, (v.1.2.2.2.2.1, (v.1.1, ()))))), (x414, ((v.2.2.1.1, ()), ((v.2.2.2.1.1, ()), ((v.2.2.2.2.1.1, ()), ((v.2.2.2.2.2.1.1, ()), ((v.2.2.2.2.2.2.1.1, ()), ())))))))
else none)
else (some ((v.1.2.1, (v.1.2.2.1, (v.1.2.2.2.1, (v.1.2.2.2.2.1, (v.1.1, ()))))), (v.2.1, ((v.2.2.1.1, ()), ((v.2.2.2.1.1, ()), ((v.2.2.2.2.1.1, ()), ((v.2.2.2.2.2.1.1, ()), ((v.2.2.2.2.2.2.1.1, ()), ()))))))))) : Option (((List Y7) × Int × Int × Int × Int × Unit) × ((List Y7) × (Y5 × Unit) × Y13 × (Y9 × Unit) × Y10 × (Y7 × Unit) × Unit))).bind fun v415 =>
some (.inl (((w64 (v415.1.2.2.2.2.1 + 1)), (v415.1.1, (v415.1.2.1, (v415.1.2.2.1, (v415.1.2.2.2.1, ()))))), (v415.2.1, ((v415.2.2.1.1, ()), ((v415.2.2.2.1.1, ()), ((v415.2.2.2.2.1.1, ()), ((v415.2.2.2.2.2.1.1, ()), ((v415.2.2.2.2.2.2.1.1, ()), ())))))))))
else (some (.inr ((v.1.2.2.1, (v.1.2.2.2.1, ())), ((v.2.2.1.1, ()), ((v.2.2.2.1.1, ()), ((v.2.2.2.2.1.1, ()), ((v.2.2.2.2.2.1.1, ()), ((v.2.2.2.2.2.2.1.1, ()), (v.2.1, ())))))))))

def l11_0_27 (v : ((Int × Int × Int × Int × Int × Int × Unit) × ((Y7 × Unit) × (Y5 × Unit) × (List Int) × (List Y7) × Y13 × (Y9 × Unit) × Y10 × Unit))) : Option (((Int × Int × Int × Int × Int × Int × Unit) × ((Y7 × Unit) × (Y5 × Unit) × (List Int) × (List Y7) × Y13 × (Y9 × Unit) × Y10 × Unit)) ⊕ (Y14 ⊕ ((Int × Int × Int × Int × Unit) × ((Y5 × Unit) × (List Y7) × Y13 × (Y9 × Unit) × Y10 × Unit)))) :=
bif (decide ((v.1.1 : Int) < v.1.2.2.2.2.2.1)) then (bif (decide ((0 : Int) ≤ v.1.1 ∧ (v.1.1 : Int) < v.2.2.2.1.length)) then
(v.2.2.2.1[v.1.1.toNat]?).bind fun e419 =>
(m47 ((e419, (v.2.2.1.1, (v.2.1.1, ()))), ())).bind fun u420 =>
(m52 ((e419, (v.2.2.1.1, (v.2.1.1, ()))), ())).bind fun u421 =>
((bif (!(u420.1.1 == u421.1.1)) then (some ((true, (v.1.2.1, (v.1.2.2.1, (v.1.2.2.2.1, (v.1.2.2.2.2.1, (v.1.2.2.2.2.2.1, (v.1.1, ()))))))), ((v.2.1.1, ()), ((v.2.2.1.1, ()), (v.2.2.2.1, (v.2.2.2.2.1, ((v.2.2.2.2.2.1.1, ()), ((v.2.2.2.2.2.2.1.1, ()), ((v.2.2.2.2.2.2.2.1.1, ()), ())))))))))
else ((m31 ((u420.2.1.1, (u421.2.1.1, ())), ())).bind fun u422 =>
bif (!u422.1.1) then (some ((true, (v.1.2.1, (v.1.2.2.1, (v.1.2.2.2.1, (v.1.2.2.2.2.1, (v.1.2.2.2.2.2.1, (v.1.1, ()))))))), ((v.2.1.1, ()), ((v.2.2.1.1, ()), (v.2.2.2.1, (v.2.2.2.2.1, ((v.2.2.2.2.2.1.1, ()), ((v.2.2.2.2.2.2.1.1, ()), ((v.2.2.2.2.2.2.2.1.1, ()), ())))))))))
else ((m35 (((u420.2.2.1.1.1, (u420.2.2.1.1.2.1, (u420.2.2.1.1.2.2.1, (u420.2.2.1.1.2.2.2.1, (u420.2.2.1.1.2.2.2.2.1, (u420.2.2.1.1.2.2.2.2.2.1, (u420.2.2.1.1.2.2.2.2.2.2.1, ([], (u420.2.2.1.1.2.2.2.2.2.2.2.1, ()))))))))), ((u421.2.2.1.1.1, (u421.2.2.1.1.2.1, (u421.2.2.1.1.2.2.1, (u421.2.2.1.1.2.2.2.1, (u421.2.2.1.1.2.2.2.2.1, (u421.2.2.1.1.2.2.2.2.2.1, (u421.2.2.1.1.2.2.2.2.2.2.1, ([], (u421.2.2.1.1.2.2.2.2.2.2.2.1, ()))))))))), ())), ())).bind fun u423 =>
bif (!u423.1.1) then (some ((true, (v.1.2.1, (v.1.2.2.1, (v.1.2.2.2.1, (v.1.2.2.2.2.1, (v.1.2.2.2.2.2.1, (v.1.1, ()))))))), ((v.2.1.1, ()), ((v.2.2.1.1, ()), (v.2.2.2.1, (v.2.2.2.2.1, ((v.2.2.2.2.2.1.1, ()), ((v.2.2.2.2.2.2.1.1, ()), ((v.2.2.2.2.2.2.2.1.1, ()), ())))))))))
else ((m44 ((e419, (v.2.2.1.1, (v.2.1.1, ()))), ())).bind fun u424 =>
(m53 ((e419, (v.2.2.1.1, (v.2.1.1, ()))), ())).bind fun u425 =>
(m31 ((u424.2.1.1, (u425.2.1.1, ())), ())).bind fun u426 =>
some (((!u426.1.1), (v.1.2.1, (v.1.2.2.1, (v.1.2.2.2.1, (v.1.2.2.2.2.1, (v.1.2.2.2.2.2.1, (v.1.1, ()))))))), ((v.2.1.1, ()), ((v.2.2.1.1, ()), (v.2.2.2.1, (v.2.2.2.2.1, ((v.2.2.2.2.2.1.1, ()), ((v.2.2.2.2.2.2.1.1, ()), ((v.2.2.2.2.2.2.2.1.1, ()), ())))))))))))) : Option ((Bool × Int × Int × Int × Int × Int × Int × Unit) × ((Y7 × Unit) × (Y5 × Unit) × (List Int) × (List Y7) × Y13 × (Y9 × Unit) × Y10 × Unit))).bind fun v427 =>
bif v427.1.1 then (some (.inr (.inl ((false, ()), ()))))
else (some (.inl (((w64 (v427.1.2.2.2.2.2.2.1 + 1)), (v427.1.2.1, (v427.1.2.2.1, (v427.1.2.2.2.1, (v427.1.2.2.2.2.1, (v427.1.2.2.2.2.2.1, ())))))), ((v427.2.1.1, ()), ((v427.2.2.1.1, ()), (v427.2.2.2.1, (v427.2.2.2.2.1, ((v427.2.2.2.2.2.1.1, ()), ((v427.2.2.2.2.2.2.1.1, ()), ((v427.2.2.2.2.2.2.2.1.1, ()), ()))))))))))
else none)
else (some (.inr (.inr ((v.1.2.1, (v.1.2.2.1, (v.1.2.2.2.1, (v.1.2.2.2.2.1, ())))), ((v.2.2.1.1, ()), (v.2.2.2.2.1, ((v.2.2.2.2.2.1.1, ()), ((v.2.2.2.2.2.2.1.1, ()), ((v.2.2.2.2.2.2.2.1.1, ()), ())))))))))

def l11_0_24 (v : ((Int × Int × Int × Int × Unit) × ((Y5 × Unit) × (List Y7) × Y13 × (Y9 × Unit) × Y10 × Unit))) : Option (((Int × Int × Int × Int × Unit) × ((Y5 × Unit) × (List Y7) × Y13 × (Y9 × Unit) × Y10 × Unit)) ⊕ (Y14 ⊕ ((Int × Int × Unit) × ((Y5 × Unit) × Y13 × (Y9 × Unit) × Y10 × Unit)))) :=
bif (decide ((v.1.1 : Int) < v.1.2.2.2.1)) then (bif (decide ((0 : Int) ≤ v.1.1 ∧ (v.1.1 : Int) < v.2.2.1.length)) then
(v.2.2.1[v.1.1.toNat]?).bind fun e418 =>
(loopT l11_0_27 ((0, (v.1.2.1, (v.1.2.2.1, (v.1.2.2.2.1, (v.1.1, ((([v.1.2.2.1, v.1.2.1].length : Nat) : Int), ())))))), ((e418, ()), (((v.2.1.1.1, (v.2.1.1.2.1, (v.2.1.1.2.2.1, (v.2.1.1.2.2.2.1, (v.2.1.1.2.2.2.2.1, (v.2.1.1.2.2.2.2.2.1, (v.2.1.1.2.2.2.2.2.2.1, (v.2.1.1.2.2.2.2.2.2.2.1, ())))))))), ()), ([v.1.2.2.1, v.1.2.1], (v.2.2.1, ((v.2.2.2.1.1, ()), ((v.2.2.2.2.1.1, ()), (((v.2.2.2.2.2.1.1.1, (v.2.2.2.2.2.1.1.2.1, v.2.2.2.2.2.1.1.2.2)), ()), ()))))))))).bind fun d428 =>
sumE d428 (fun d429 => (some (.inr (.inl ((d429.1.1, ()), ()))))) (fun d430 => (some (.inl (((w64 (d430.1.2.2.2.1 + 1)), (d430.1.1, (d430.1.2.1, (d430.1.2.2.1, ())))), ((d430.2.1.1, ()), (d430.2.2.1, ((d430.2.2.2.1.1, ()), ((d430.2.2.2.2.1.1, ()), ((d430.2.2.2.2.2.1.1, ()), ())))))))))
else none)
else (some (.inr (.inr ((v.1.2.2.1, (v.1.2.1, ())), (((v.2.1.1.1, (v.2.1.1.2.1, (v.2.1.1.2.2.1, (v.2.1.1.2.2.2.1, (v.2.1.1.2.2.2.2.1, (v.2.1.1.2.2.2.2.2.1, (v.2.1.1.2.2.2.2.2.2.1, (v.2.1.1.2.2.2.2.2.2.2.1, ())))))))), ()), ((v.2.2.2.1.1, ()), ((v.2.2.2.2.1.1, ()), (((v.2.2.2.2.2.1.1.1, (v.2.2.2.2.2.1.1.2.1, v.2.2.2.2.2.1.1.2.2)), ()), ()))))))))

def l11_0_39 (v : ((Int × Int × Int × Int × Int × Int × Unit) × ((Y5 × Unit) × (List Y9) × Y13 × (Y9 × Unit) × (List Int) × Y10 × Unit))) : Option (((Int × Int × Int × Int × Int × Int × Unit) × ((Y5 × Unit) × (List Y9) × Y13 × (Y9 × Unit) × (List Int) × Y10 × Unit)) ⊕ (Y14 ⊕ ((Int × Int × Int × Int × Unit) × ((Y5 × Unit) × Y13 × (Y9 × Unit) × (List Int) × Y10 × Unit)))) :=
bif (decide ((v.1.1 : Int) < v.1.2.2.2.2.2.1)) then (bif (decide ((0 : Int) ≤ v.1.1 ∧ (v.1.1 : Int) < v.2.2.1.length)) then
(v.2.2.1[v.1.1.toNat]?).bind fun e436 =>
(m54 ((v.1.2.1, (v.2.1.1, (e436, ()))), ())).bind fun u437 =>
(m55 ((v.1.2.1, (v.2.1.1, (e436, ()))), ())).bind fun u438 =>
((bif ((u437.1.1 : Int) != u438.1.1) then (some ((true, (v.1.2.1, (v.1.2.2.1, (v.1.2.2.2.1, (v.1.2.2.2.2.1, (v.1.2.2.2.2.2.1, (v.1.1, ()))))))), ((v.2.1.1, ()), (v.2.2.1, ((v.2.2.2.1.1, ()), ((v.2.2.2.2.1.1, ()), (v.2.2.2.2.2.1, ((v.2.2.2.2.2.2.1.1, ()), ()))))))))
else ((m31 (((u437.2.1.1.1, (u437.2.1.1.2.1, (u437.2.1.1.2.2.1, (u437.2.1.1.2.2.2.1, (u437.2.2.1, (u437.2.1.1.2.2.2.2.1, (u437.2.2.2.1, (u437.2.2.2.2.1, ())))))))), ((u438.2.1.1.1, (u438.2.1.1.2.1, (u438.2.1.1.2.2.1, (u438.2.1.1.2.2.2.1, (u438.2.2.1, (u438.2.1.1.2.2.2.2.1, (u438.2.2.2.1, (u438.2.2.2.2.1, ())))))))), ())), ())).bind fun u439 =>
some (((!u439.1.1), (v.1.2.1, (v.1.2.2.1, (v.1.2.2.2.1, (v.1.2.2.2.2.1, (v.1.2.2.2.2.2.1, (v.1.1, ()))))))), ((v.2.1.1, ()), (v.2.2.1, ((v.2.2.2.1.1, ()), ((v.2.2.2.2.1.1, ()), (v.2.2.2.2.2.1, ((v.2.2.2.2.2.2.1.1, ()), ()))))))))) : Option ((Bool × Int × Int × Int × Int × Int × Int × Unit) × ((Y5 × Unit) × (List Y9) × Y13 × (Y9 × Unit) × (List Int) × Y10 × Unit))).bind fun v440 =>
bif v440.1.1 then (some (.inr (.inl ((false, ()), ()))))
else (some (.inl (((w64 (v440.1.2.2.2.2.2.2.1 + 1)), (v440.1.2.1, (v440.1.2.2.1, (v440.1.2.2.2.1, (v440.1.2.2.2.2.1, (v440.1.2.2.2.2.2.1, ())))))), ((v440.2.1.1, ()), (v440.2.2.1, ((v440.2.2.2.1.1, ()), ((v440.2.2.2.2.1.1, ()), (v440.2.2.2.2.2.1, ((v440.2.2.2.2.2.2.1.1, ()), ())))))))))
else none)
else (some (.inr (.inr ((v.1.2.2.1, (v.1.2.2.2.1, (v.1.2.2.2.2.1, (v.1.2.1, ())))), ((v.2.1.1, ()), ((v.2.2.2.1.1, ()), ((v.2.2.2.2.1.1, ()), (v.2.2.2.2.2.1, ((v.2.2.2.2.2.2.1.1, ()), ())))))))))

def l11_0_36 (v : (Y20 × ((Y5 × Unit) × Y13 × (Y9 × Unit) × (List Int) × Y10 × Unit))) : Option ((Y20 × ((Y5 × Unit) × Y13 × (Y9 × Unit) × (List Int) × Y10 × Unit)) ⊕ (Y14 ⊕ ((Int × Unit) × ((Y5 × Unit) × Y13 × Y10 × Unit)))) :=
bif (decide ((v.1.1 : Int) < v.1.2.2.1)) then (bif (decide ((0 : Int) ≤ v.1.1 ∧ (v.1.1 : Int) < v.2.2.2.2.1.length)) then
(v.2.2.2.2.1[v.1.1.toNat]?).bind fun e434 =>
(m20 ((60, ()), ((v.2.2.1.1, ()), ()))).bind fun u435 =>
(loopT l11_0_39 ((0, (e434, (v.1.2.1, (v.1.2.2.1, (v.1.1, (((([v.2.2.2.1.1, ((w64 (1 + u435.1.1)), (0, (0, (0, (0, (0, (0, (0, (0, ((0, (0, (0, (0, (0, (0, ())))))), ((0, (0, (0, (0, (0, ()))))), ())))))))))))] : List Y9).length : Nat) : Int), ())))))), ((v.2.1.1, ()), (([v.2.2.2.1.1, ((w64 (1 + u435.1.1)), (0, (0, (0, (0, (0, (0, (0, (0, ((0, (0, (0, (0, (0, (0, ())))))), ((0, (0, (0, (0, (0, ()))))), ())))))))))))] : List Y9), ((u435.2.1.1, ()), (((v.2.2.2.1.1.1, (v.2.2.2.1.1.2.1, v.2.2.2.1.1.2.2)), ()), (v.2.2.2.2.1, ((v.2.2.2.2.2.1.1, ()), ())))))))).bind fun d441 =>
sumE d441 (fun d442 => (some (.inr (.inl ((d442.1.1, ()), ()))))) (fun d443 => ((m49 ((d443.1.2.2.2.1, (d443.2.1.1, ())), ())).bind fun u444 =>
(m56 ((d443.1.2.2.2.1, (d443.2.1.1, ())), ())).bind fun u445 =>
((bif ((u444.1.1 : Int) != u445.1.1) then (some ((true, (d443.1.1, (d443.1.2.1, (d443.1.2.2.1, ())))), ((d443.2.1.1, ()), ((d443.2.2.1.1, ()), ((d443.2.2.2.1.1, ()), (d443.2.2.2.2.1, ((d443.2.2.2.2.2.1.1, ()), ())))))))
else ((m31 (((u444.2.1.1.1, (u444.2.1.1.2.1, (u444.2.1.1.2.2.1, (u444.2.1.1.2.2.2.1, (u444.2.2.1, (u444.2.1.1.2.2.2.2.1, ([], ([], ())))))))), ((u445.2.1.1.1, (u445.2.1.1.2.1, (u445.2.1.1.2.2.1, (u445.2.1.1.2.2.2.1, (u445.2.2.1, (u445.2.1.1.2.2.2.2.1, ([], ([], ())))))))), ())), ())).bind fun u446 =>
bif (!u446.1.1) then (some ((true, (d443.1.1, (d443.1.2.1, (d443.1.2.2.1, ())))), ((d443.2.1.1, ()), ((d443.2.2.1.1, ()), ((d443.2.2.2.1.1, ()), (d443.2.2.2.2.1, ((d443.2.2.2.2.2.1.1, ()), ())))))))
else ((m46 ((d443.1.2.2.2.1, (d443.2.1.1, ())), ())).bind fun u447 =>
(m57 ((d443.1.2.2.2.1, (d443.2.1.1, ())), ())).bind fun u448 =>
(m32 ((u447.2.1, (u448.2.1, ())), ())).bind fun u449 =>
some (((!u449.1.1), (d443.1.1, (d443.1.2.1, (d443.1.2.2.1, ())))), ((d443.2.1.1, ()), ((d443.2.2.1.1, ()), ((d443.2.2.2.1.1, ()), (d443.2.2.2.2.1, ((d443.2.2.2.2.2.1.1, ()), ()))))))))) : Option ((Bool × Int × Int × Int × Unit) × ((Y5 × Unit) × Y13 × (Y9 × Unit) × (List Int) × Y10 × Unit))).bind fun v450 =>
bif v450.1.1 then (some (.inr (.inl ((false, ()), ()))))
else (some (.inl (((w64 (v450.1.2.2.2.1 + 1)), (v450.1.2.1, (v450.1.2.2.1, ()))), ((v450.2.1.1, ()), ((v450.2.2.1.1, ()), ((v450.2.2.2.1.1, ()), (v450.2.2.2.2.1, ((v450.2.2.2.2.2.1.1, ()), ()))))))))))
else none)
else (some (.inr (.inr ((v.1.2.1, ()), ((v.2.1.1, ()), ((v.2.2.1.1, ()), ((v.2.2.2.2.2.1.1, ()), ())))))))

/- pagewatch/pagewatchlaw33.ReplicaSteps -/
def i11 : Abs.Sg := ⟨[0, 1, 2, 3], (.dat (.row (.int .i64)) (.dat Z4 (.dat Z6 (.dat (.int .i64) .nil)))), .nil⟩

def o11 : Abs.Sg := ⟨[8], (.dat .bool .nil), .nil⟩

def m11 (v : (((List Int) × Y7 × Y9 × Int × Unit) × (Unit))) : Option Y14 :=
(((m16 ((v.1.1, ()), ())).bind fun u390 =>
bif (!u390.1.1) then (some ((true, (v.1.2.2.2.1, (v.1.1, ()))), ((v.1.2.2.1, ()), ((v.1.2.1, ()), ()))))
else (let x391 := (decide (((v.1.2.1.2.2.2.2.2.2.2.1.length : Int) : Int) > 20))
some ((x391, (v.1.2.2.2.1, (v.1.1, ()))), ((v.1.2.2.1, ()), ((v.1.2.1, ()), ()))))) : Option ((Bool × Int × (List Int) × Unit) × ((Y9 × Unit) × (Y7 × Unit) × Unit))).bind fun v392 =>
bif v392.1.1 then ((m42 ((), ())).bind fun u393 =>
some ((u393.1.1, ()), ()))
else ((m18 ((v392.1.2.2.1, ()), ())).bind fun u394 =>
(m19 ((20, ()), ((u394.2.1.1, ()), ()))).bind fun u395 =>
(m20 (((u395.2.2.1.1.1.length : Int), ()), ((u395.2.1.1, ()), ()))).bind fun u396 =>
Abs.rowAt u395.2.2.1.1.1 u396.1.1 fun e397 _ =>
(loopT l11_0_9 ((0, ((u395.2.2.1.1.1.length : Int), (v392.1.2.1, ()))), ((u396.2.1.1, ()), ((e397, ()), ([], ((v392.2.1.1, ()), ((u395.2.2.1.1, ()), ((v392.2.2.1.1, ()), ())))))))).bind fun d412 =>
(loopT l11_0_18 ((0, (d412.2.2.2.2.2.1.1.2.1, (d412.1.1, (d412.1.2.1, ((d412.2.2.2.2.2.1.1.2.1.length : Int), ()))))), (d412.2.1, ((d412.2.2.1.1, ()), ((d412.2.2.2.1.1, ()), ((d412.2.2.2.2.1.1, ()), ((d412.2.2.2.2.2.1.1, ()), ((d412.2.2.2.2.2.2.1.1, ()), ())))))))).bind fun d416 =>
bif (decide (d416.2.2.2.2.2.2.1.length + ([d416.2.2.2.2.2.1.1] : List Y7).length ≤ 4294967296)) then
let x417 := (d416.2.2.2.2.2.2.1 ++ ([d416.2.2.2.2.2.1.1] : List Y7))
(loopT l11_0_24 ((0, (d416.1.1, (d416.1.2.1, (((x417.length : Nat) : Int), ())))), ((d416.2.1.1, ()), (x417, ((d416.2.2.1.1, ()), ((d416.2.2.2.1.1, ()), ((d416.2.2.2.2.1.1, ()), ()))))))).bind fun d431 =>
sumE d431 (fun d432 => (some ((d432.1.1, ()), ()))) (fun d433 => ((loopT l11_0_36 ((0, (d433.1.1, ((([d433.1.1, d433.1.2.1].length : Nat) : Int), ()))), ((d433.2.1.1, ()), ((d433.2.2.1.1, ()), ((d433.2.2.2.1.1, ()), ([d433.1.1, d433.1.2.1], ((d433.2.2.2.2.1.1, ()), ()))))))).bind fun d451 =>
sumE d451 (fun d452 => (some ((d452.1.1, ()), ()))) (fun d453 => ((m20 ((d453.1.1, ()), ((d453.2.2.1.1, ()), ()))).bind fun u454 =>
Abs.rowAt d453.2.2.2.1.1.1 u454.1.1 fun e455 _ =>
(((m48 ((d453.2.1.1.2.2.2.2.1, (e455.2.2.2.2.1, ())), ())).bind fun u456 =>
(m58 ((d453.2.1.1.2.2.2.2.1, (e455.2.2.2.2.1, ())), ())).bind fun u457 =>
bif ((u456.1.1 : Int) == u457.1.1) then ((m50 ((d453.2.1.1, ()), ())).bind fun u458 =>
(m59 ((d453.2.1.1, ()), ())).bind fun u459 =>
(m51 ((u458.2.1, (u459.2.1, ())), ())).bind fun u460 =>
bif u460.1.1 then ((m42 ((), ())).bind fun u461 =>
some ((u461.1.1, ()), ()))
else (some ((false, ()), ())))
else (some ((false, ()), ()))) : Option Y14).bind fun v462 =>
some ((v462.1.1, ()), ())))))
else none)

def sp11 : Abs.Spec := ⟨0, i11, o11, m11⟩

def an11 : Nat → Abs.FAn
  | 0 => Abs.FAn.mk (fun
    | 52 => some ⟨[8], (.dat .bool .nil), .nil⟩
    | 48 => some ⟨[293, 12, 9, 6, 222, 11, 10, 223, 224], (.dat .bool (.st (.ptr (0, 0) 8 0 0) (.st (.ptr (1, 0) 2 0 0) (.st (.ptr (2, 0) 20 0 0) (.st (.own (.int .i64) (3, 0)) (.dat (.int .i64) (.st (.ptr (4, 0) 4 0 0) (.dat (.int .i64) (.dat (.int .i64) .nil))))))))), (.box 8 (.dat Z3 .nil) (.box 2 (.dat Z12 .nil) (.box 20 (.dat Z6 .nil) (.arr (.int .i64) false (.box 4 (.dat Z8 .nil) .nil)))))⟩
    | 43 => some ⟨[261, 12, 30, 233, 9, 6, 222, 11, 10, 223, 224, 234, 235], (.dat .bool (.st (.ptr (0, 0) 8 0 0) (.dat (.int .i64) (.st (.own Z6 (1, 0)) (.st (.ptr (2, 0) 2 0 0) (.st (.ptr (3, 0) 20 0 0) (.st (.own (.int .i64) (4, 0)) (.dat (.int .i64) (.st (.ptr (5, 0) 4 0 0) (.dat (.int .i64) (.dat (.int .i64) (.dat (.int .i64) (.dat (.int .i64) .nil))))))))))))), (.box 8 (.dat Z3 .nil) (.arr Z6 false (.box 2 (.dat Z12 .nil) (.box 20 (.dat Z6 .nil) (.arr (.int .i64) false (.box 4 (.dat Z8 .nil) .nil))))))⟩
    | 31 => some ⟨[217, 20, 12, 169, 3, 11, 161, 9, 6, 10, 162, 163, 170, 171], (.dat .bool (.st (.ptr (0, 0) 9 0 0) (.st (.ptr (1, 0) 8 0 0) (.st (.own (.int .i64) (2, 0)) (.dat (.int .i64) (.dat (.int .i64) (.st (.own Z4 (3, 0)) (.st (.ptr (4, 0) 2 0 0) (.st (.ptr (5, 0) 20 0 0) (.st (.ptr (6, 0) 4 0 0) (.dat (.int .i64) (.dat (.int .i64) (.dat (.int .i64) (.dat (.int .i64) .nil)))))))))))))), (.box 9 (.dat Z4 .nil) (.box 8 (.dat Z3 .nil) (.arr (.int .i64) false (.arr Z4 false (.box 2 (.dat Z12 .nil) (.box 20 (.dat Z6 .nil) (.box 4 (.dat Z8 .nil) .nil)))))))⟩
    | 1 => some ⟨[50, 3, 6, 5, 0], (.dat .bool (.dat (.int .i64) (.st (.ptr (0, 0) 20 0 0) (.st (.ptr (1, 0) 9 0 0) (.dat (.row (.int .i64)) .nil))))), (.box 20 (.dat Z6 .nil) (.box 9 (.dat Z4 .nil) .nil))⟩
    | _ => none) (fun
    | 22 => some (⟨[13, 12, 142, 3, 11, 9, 6, 10, 5, 143, 144], (.st (.own Z4 (0, 0)) (.st (.ptr (1, 0) 8 0 0) (.dat (.row Z4) (.dat (.int .i64) (.dat (.int .i64) (.st (.ptr (2, 0) 2 0 0) (.st (.ptr (3, 0) 20 0 0) (.st (.ptr (4, 0) 4 0 0) (.st (.ptr (5, 0) 9 0 0) (.dat (.int .i64) (.dat (.int .i64) .nil))))))))))), (.arr Z4 false (.box 8 (.dat Z3 .nil) (.box 2 (.dat Z12 .nil) (.box 20 (.dat Z6 .nil) (.box 4 (.dat Z8 .nil) (.box 9 (.dat Z4 .nil) .nil))))))⟩, none)
    | _ => none) (fun
    | 36 => some ⟨⟨[12, 224, 9, 6, 222, 11, 10, 223], (.st (.ptr (0, 0) 8 0 0) (.dat (.int .i64) (.st (.ptr (1, 0) 2 0 0) (.st (.ptr (2, 0) 20 0 0) (.st (.own (.int .i64) (3, 0)) (.dat (.int .i64) (.st (.ptr (4, 0) 4 0 0) (.dat (.int .i64) .nil)))))))), (.box 8 (.dat Z3 .nil) (.box 2 (.dat Z12 .nil) (.box 20 (.dat Z6 .nil) (.arr (.int .i64) false (.box 4 (.dat Z8 .nil) .nil)))))⟩, (.more .ret ⟨[8], (.dat .bool .nil), .nil⟩ (.one (.exit 10) ⟨[12, 11, 9, 10], (.st (.ptr (0, 0) 8 0 0) (.dat (.int .i64) (.st (.ptr (1, 0) 2 0 0) (.st (.ptr (2, 0) 4 0 0) .nil)))), (.box 8 (.dat Z3 .nil) (.box 2 (.dat Z12 .nil) (.box 4 (.dat Z8 .nil) .nil)))⟩))⟩
    | 39 => some ⟨⟨[235, 12, 30, 233, 9, 6, 222, 11, 10, 223, 224, 234], (.dat (.int .i64) (.st (.ptr (0, 0) 8 0 0) (.dat (.int .i64) (.st (.own Z6 (1, 0)) (.st (.ptr (2, 0) 2 0 0) (.st (.ptr (3, 0) 20 0 0) (.st (.own (.int .i64) (4, 0)) (.dat (.int .i64) (.st (.ptr (5, 0) 4 0 0) (.dat (.int .i64) (.dat (.int .i64) (.dat (.int .i64) .nil)))))))))))), (.box 8 (.dat Z3 .nil) (.arr Z6 false (.box 2 (.dat Z12 .nil) (.box 20 (.dat Z6 .nil) (.arr (.int .i64) false (.box 4 (.dat Z8 .nil) .nil))))))⟩, (.more .ret ⟨[8], (.dat .bool .nil), .nil⟩ (.one (.exit 12) ⟨[12, 9, 6, 222, 11, 10, 223, 224, 30], (.st (.ptr (0, 0) 8 0 0) (.st (.ptr (1, 0) 2 0 0) (.st (.ptr (2, 0) 20 0 0) (.st (.own (.int .i64) (3, 0)) (.dat (.int .i64) (.st (.ptr (4, 0) 4 0 0) (.dat (.int .i64) (.dat (.int .i64) (.dat (.int .i64) .nil))))))))), (.box 8 (.dat Z3 .nil) (.box 2 (.dat Z12 .nil) (.box 20 (.dat Z6 .nil) (.arr (.int .i64) false (.box 4 (.dat Z8 .nil) .nil)))))⟩))⟩
    | 24 => some ⟨⟨[12, 163, 3, 11, 161, 9, 6, 10, 162], (.st (.ptr (0, 0) 8 0 0) (.dat (.int .i64) (.dat (.int .i64) (.dat (.int .i64) (.st (.own Z4 (1, 0)) (.st (.ptr (2, 0) 2 0 0) (.st (.ptr (3, 0) 20 0 0) (.st (.ptr (4, 0) 4 0 0) (.dat (.int .i64) .nil))))))))), (.box 8 (.dat Z3 .nil) (.arr Z4 false (.box 2 (.dat Z12 .nil) (.box 20 (.dat Z6 .nil) (.box 4 (.dat Z8 .nil) .nil)))))⟩, (.more .ret ⟨[8], (.dat .bool .nil), .nil⟩ (.one (.exit 6) ⟨[12, 9, 6, 11, 10, 3], (.st (.ptr (0, 0) 8 0 0) (.st (.ptr (1, 0) 2 0 0) (.st (.ptr (2, 0) 20 0 0) (.dat (.int .i64) (.st (.ptr (3, 0) 4 0 0) (.dat (.int .i64) .nil)))))), (.box 8 (.dat Z3 .nil) (.box 2 (.dat Z12 .nil) (.box 20 (.dat Z6 .nil) (.box 4 (.dat Z8 .nil) .nil))))⟩))⟩
    | 27 => some ⟨⟨[171, 20, 12, 169, 3, 11, 161, 9, 6, 10, 162, 163, 170], (.dat (.int .i64) (.st (.ptr (0, 0) 9 0 0) (.st (.ptr (1, 0) 8 0 0) (.st (.own (.int .i64) (2, 0)) (.dat (.int .i64) (.dat (.int .i64) (.st (.own Z4 (3, 0)) (.st (.ptr (4, 0) 2 0 0) (.st (.ptr (5, 0) 20 0 0) (.st (.ptr (6, 0) 4 0 0) (.dat (.int .i64) (.dat (.int .i64) (.dat (.int .i64) .nil))))))))))))), (.box 9 (.dat Z4 .nil) (.box 8 (.dat Z3 .nil) (.arr (.int .i64) false (.arr Z4 false (.box 2 (.dat Z12 .nil) (.box 20 (.dat Z6 .nil) (.box 4 (.dat Z8 .nil) .nil)))))))⟩, (.more .ret ⟨[8], (.dat .bool .nil), .nil⟩ (.one (.exit 8) ⟨[12, 3, 11, 161, 9, 6, 10, 162, 163], (.st (.ptr (0, 0) 8 0 0) (.dat (.int .i64) (.dat (.int .i64) (.st (.own Z4 (1, 0)) (.st (.ptr (2, 0) 2 0 0) (.st (.ptr (3, 0) 20 0 0) (.st (.ptr (4, 0) 4 0 0) (.dat (.int .i64) (.dat (.int .i64) .nil))))))))), (.box 8 (.dat Z3 .nil) (.arr Z4 false (.box 2 (.dat Z12 .nil) (.box 20 (.dat Z6 .nil) (.box 4 (.dat Z8 .nil) .nil)))))⟩))⟩
    | 18 => some ⟨⟨[144, 13, 12, 142, 3, 11, 9, 6, 10, 5, 143], (.dat (.int .i64) (.st (.own Z4 (0, 0)) (.st (.ptr (1, 0) 8 0 0) (.dat (.row Z4) (.dat (.int .i64) (.dat (.int .i64) (.st (.ptr (2, 0) 2 0 0) (.st (.ptr (3, 0) 20 0 0) (.st (.ptr (4, 0) 4 0 0) (.st (.ptr (5, 0) 9 0 0) (.dat (.int .i64) .nil))))))))))), (.arr Z4 false (.box 8 (.dat Z3 .nil) (.box 2 (.dat Z12 .nil) (.box 20 (.dat Z6 .nil) (.box 4 (.dat Z8 .nil) (.box 9 (.dat Z4 .nil) .nil))))))⟩, (.one (.exit 4) ⟨[12, 3, 11, 9, 6, 10, 5, 13], (.st (.ptr (0, 0) 8 0 0) (.dat (.int .i64) (.dat (.int .i64) (.st (.ptr (1, 0) 2 0 0) (.st (.ptr (2, 0) 20 0 0) (.st (.ptr (3, 0) 4 0 0) (.st (.ptr (4, 0) 9 0 0) (.st (.own Z4 (5, 0)) .nil)))))))), (.box 8 (.dat Z3 .nil) (.box 2 (.dat Z12 .nil) (.box 20 (.dat Z6 .nil) (.box 4 (.dat Z8 .nil) (.box 9 (.dat Z4 .nil) (.arr Z4 false .nil))))))⟩)⟩
    | 9 => some ⟨⟨[9, 12, 14, 13, 11, 3, 6, 10, 5], (.st (.ptr (0, 0) 2 0 0) (.st (.ptr (1, 0) 8 0 0) (.dat (.int .i64) (.st (.own Z4 (2, 0)) (.dat (.int .i64) (.dat (.int .i64) (.st (.ptr (3, 0) 20 0 0) (.st (.ptr (4, 0) 4 0 0) (.st (.ptr (5, 0) 9 0 0) .nil))))))))), (.box 2 (.dat Z12 .nil) (.box 8 (.dat Z3 .nil) (.arr Z4 false (.box 20 (.dat Z6 .nil) (.box 4 (.dat Z8 .nil) (.box 9 (.dat Z4 .nil) .nil))))))⟩, (.one (.exit 0) ⟨[13, 12, 3, 11, 9, 6, 10, 5], (.st (.own Z4 (0, 0)) (.st (.ptr (1, 0) 8 0 0) (.dat (.int .i64) (.dat (.int .i64) (.st (.ptr (2, 0) 2 0 0) (.st (.ptr (3, 0) 20 0 0) (.st (.ptr (4, 0) 4 0 0) (.st (.ptr (5, 0) 9 0 0) .nil)))))))), (.arr Z4 false (.box 8 (.dat Z3 .nil) (.box 2 (.dat Z12 .nil) (.box 20 (.dat Z6 .nil) (.box 4 (.dat Z8 .nil) (.box 9 (.dat Z4 .nil) .nil))))))⟩)⟩
    | 13 => some ⟨⟨[16, 15, 9, 12, 11, 3, 6, 10, 5, 14, 13], (.dat (.int .i64) (.st (.ptr (0, 0) 9 0 0) (.st (.ptr (1, 0) 2 0 0) (.st (.ptr (2, 0) 8 0 0) (.dat (.int .i64) (.dat (.int .i64) (.st (.ptr (3, 0) 20 0 0) (.st (.ptr (4, 0) 4 0 0) (.st (.ptr (5, 0) 9 0 0) (.dat (.int .i64) (.st (.own Z4 (6, 0)) .nil))))))))))), (.box 9 (.agg (.dat (.int .i64) (.dat (.int .i64) (.dat (.int .i64) (.dat (.int .i64) (.dat (.int .i64) (.dat (.int .i64) (.dat (.int .i64) (.st (.own Z1 (7, 0)) (.dat .bool .nil))))))))) .nil) (.box 2 (.dat Z12 .nil) (.box 8 (.dat Z3 .nil) (.box 20 (.dat Z6 .nil) (.box 4 (.dat Z8 .nil) (.box 9 (.dat Z4 .nil) (.arr Z4 false (.arr Z1 false .nil))))))))⟩, (.one (.exit 2) ⟨[9, 12, 11, 3, 6, 10, 5, 14, 15, 13], (.st (.ptr (0, 0) 2 0 0) (.st (.ptr (1, 0) 8 0 0) (.dat (.int .i64) (.dat (.int .i64) (.st (.ptr (2, 0) 20 0 0) (.st (.ptr (3, 0) 4 0 0) (.st (.ptr (4, 0) 9 0 0) (.dat (.int .i64) (.st (.ptr (5, 0) 9 0 0) (.st (.own Z4 (6, 0)) .nil)))))))))), (.box 2 (.dat Z12 .nil) (.box 8 (.dat Z3 .nil) (.box 20 (.dat Z6 .nil) (.box 4 (.dat Z8 .nil) (.box 9 (.dat Z4 .nil) (.box 9 (.agg (.dat (.int .i64) (.dat (.int .i64) (.dat (.int .i64) (.dat (.int .i64) (.dat (.int .i64) (.dat (.int .i64) (.dat (.int .i64) (.st (.own Z1 (7, 0)) (.dat .bool .nil))))))))) .nil) (.arr Z4 false (.arr Z1 false .nil))))))))⟩)⟩
    | _ => none) (fun _ _ => 0)
  | _ => {}

theorem ok11 : Abs.SpecOK Try.prog 11 sp11 :=
  Abs.specOK_of (n := 12) (an := an11) (T := Abs.tabOf [(16, sp16), (42, sp42), (18, sp18), (19, sp19), (20, sp20), (41, sp41), (22, sp22), (47, sp47), (52, sp52), (31, sp31), (35, sp35), (44, sp44), (53, sp53), (54, sp54), (55, sp55), (49, sp49), (56, sp56), (46, sp46), (57, sp57), (32, sp32), (48, sp48), (58, sp58), (50, sp50), (59, sp59), (51, sp51)]) good foll (Abs.tabOf_ok _ (by simp only [List.forall_mem_cons]; exact ⟨ok16, ok42, ok18, ok19, ok20, ok41, ok22, ok47, ok52, ok31, ok35, ok44, ok53, ok54, ok55, ok49, ok56, ok46, ok57, ok32, ok48, ok58, ok50, ok59, ok51, fun _ h => by cases h⟩)) rfl (by intro v; kernel_rfl)

end
end Go.Proofs.Ytfbikpbejkgegaa

namespace Go.Proofs.Ytfbikpbejkgegaa
open Go Go.Abs Go.Raft
abbrev OpT : Type := Int × Int × Int × Int × Int × Int × Int × Int × Int × (Int × Int × Int × Int × Int × Int × Unit) × (Int × Int × Int × Int × Int × Unit) × Unit

abbrev RT : Type := Rep OpT

abbrev MT : Type := Msg OpT

/-- An element of a row, without the proof that it is one. -/
def rowG {A B : Type} (l : List A) (n : Int) (F : A → Option B) : Option B := bif decide (0 ≤ n) then (l[n.toNat]?).bind F else none

theorem rowAt_G {A B : Type} {l : List A} {n : Int} (F : A → Option B) : Abs.rowAt l n (fun e _ => F e) = rowG l n F := by
  unfold Abs.rowAt rowG
  cases l[n.toNat]? <;> rfl

theorem rowG_nat {A B : Type} {l : List A} {i : Nat} {e : A} (h : l[i]? = some e) (F : A → Option B) : rowG l (i : Int) F = F e := by
  unfold rowG
  rw [show decide (0 ≤ (i : Int)) = true from decide_eq_true (by omega), Int.toNat_natCast, h]; rfl

theorem rowG_int {A B : Type} {l : List A} {n : Int} {e : A} (h0 : 0 ≤ n) (h : l[n.toNat]? = some e) (F : A → Option B) : rowG l n F = F e := by
  unfold rowG
  rw [show decide (0 ≤ n) = true from decide_eq_true h0, h]; rfl

theorem w64_nat {i : Nat} (h : i ≤ 4294967296) : w64 ((i : Int) + 1) = ((i + 1 : Nat) : Int) := by rw [w64_id (by omega) (by omega)]; omega

theorem drop_at {A : Type} {l : List A} {i : Nat} (h : i < l.length) : ∃ e, l[i]? = some e ∧ l.drop i = e :: l.drop (i + 1) :=
  ⟨l[i], List.getElem?_eq_getElem h, List.drop_eq_getElem_cons h⟩

/-- The rows of a replica are short. -/
def Shrt (r : RT) : Prop := r.log.length ≤ 4294967295 ∧ r.votes.length ≤ 4294967295 ∧ r.mtch.length ≤ 4294967295

theorem m45_eq (a b c : Int) : m45 ((a, b, c, ()), ()) = some ((inn a b c, ()), ()) := by
  unfold m45 inn
  by_cases h : a ≥ b <;> simp [h]

theorem m81_eq (a b c : Int) : m81 ((a, b, c, ()), ()) = some ((inn a b c, ()), ()) := by
  unfold m81 inn
  by_cases h : a ≥ b <;> simp [h]

theorem inn_quorum (n : Int) : ((quorum n == 0) : Bool) = !inn n 1 5 := by
  unfold quorum inn
  by_cases h : 1 ≤ n ∧ n ≤ 5
  · rw [if_pos h]
    have : n / 2 + 1 ≠ 0 := by omega
    simp [h.1, h.2, this]
  · rw [if_neg h]
    have : (decide (1 ≤ n) && decide (n ≤ 5)) = false := by simpa using h
    rw [this]; rfl

theorem quorum_w (n : Int) (h : inn n 1 5 = true) : w64 (w64 (n.tdiv 2) + 1) = quorum n := by
  simp only [inn, Bool.and_eq_true, decide_eq_true_eq] at h
  rw [quorum_eq h.1 h.2, Int.tdiv_eq_ediv_of_nonneg (by omega), w64_id (x := n / 2) (by omega) (by omega), w64_id (by omega) (by omega)]

theorem m29_eq (n : Int) : m29 ((n, ()), ()) = some ((quorum n, ()), ()) := by
  unfold m29
  simp only [m45_eq, Option.bind_some]
  cases h : inn n 1 5
  · have := inn_quorum n; rw [h] at this; simp at this; simp [this]
  · simp [quorum_w n h]

theorem m28_eq (n : Int) : m28 ((n, ()), ()) = some ((quorum n, ()), ()) := by
  unfold m28
  simp only [m81_eq, Option.bind_some]
  cases h : inn n 1 5
  · have := inn_quorum n; rw [h] at this; simp at this; simp [this]
  · simp [quorum_w n h]

/-! ### Check, the reference -/
theorem loop85 (l : Log OpT) (term : Int) (hl : l.length ≤ 4294967295) : ∀ (k i : Nat) (last : Int), i + k = l.length →
    loopT l85_0_3 (((i : Int), l, term, last, ()), ()) = some (if srt term last (l.drop i) then .inr ((l, ()), ()) else .inl ((false, ()), ())) := by
  intro k
  induction k with
  | zero =>
    intro i last h
    rw [List.drop_eq_nil_of_le (by omega)]
    refine loopT_inr ?_
    have : ¬ (i : Int) < (l.length : Int) := by omega
    simp [l85_0_3, srt, this]
  | succ k ih =>
    intro i last h
    obtain ⟨e, he, hd⟩ := drop_at (l := l) (i := i) (by omega)
    have hlt : (i : Int) < (l.length : Int) := by omega
    rw [hd, srt]
    by_cases h1 : last ≤ e.1
    · by_cases h2 : e.1 ≤ term
      · rw [show loopT l85_0_3 (((i : Int), l, term, last, ()), ()) = loopT l85_0_3 ((((i + 1 : Nat) : Int), l, term, e.1, ()), ()) from loopT_inl (by
          have h1' : ¬ e.1 < last := by omega
          have h2' : ¬ e.1 > term := by omega
          simp only [l85_0_3, rowAt_G, rowG_nat he, hlt, h1', h2', w64_nat (show i ≤ 4294967296 by omega), decide_true, decide_false, cond_true, cond_false, Option.bind_some])]
        rw [ih (i + 1) e.1 (by omega)]
        simp only [h1, h2, decide_true, Bool.true_and]
      · rw [show (decide (last ≤ e.1) && decide (e.1 ≤ term) && srt term e.1 (l.drop (i + 1))) = false by simp [h2]]
        refine loopT_inr ?_
        have h1' : ¬ e.1 < last := by omega
        have h2' : e.1 > term := by omega
        simp only [l85_0_3, rowAt_G, rowG_nat he, hlt, h1', h2', decide_true, decide_false, cond_true, cond_false, Option.bind_some]
        rfl
    · rw [show (decide (last ≤ e.1) && decide (e.1 ≤ term) && srt term e.1 (l.drop (i + 1))) = false by simp [h1]]
      refine loopT_inr ?_
      have h1' : e.1 < last := by omega
      simp only [l85_0_3, rowAt_G, rowG_nat he, hlt, h1', decide_true, cond_true, Option.bind_some]
      rfl

theorem m85_eq (l : Log OpT) (term : Int) (hl : l.length ≤ 4294967295) : m85 ((l, term, ()), ()) = some ((logFits l term, ()), ()) := by
  unfold m85 logFits
  have := loop85 l term hl l.length 0 1 (by omega)
  simp only [List.drop_zero] at this
  rw [show loopT l85_0_3 ((0, (l, (term, (1, ())))), ()) = _ from this]
  cases srt term 1 l
  · rfl
  · simp [sumE]
    omega

end Go.Proofs.Ytfbikpbejkgegaa

namespace Go.Proofs.Ytfbikpbejkgegaa
open Go Go.Abs Go.Raft
theorem inn_iff {x a b : Int} : inn x a b = true ↔ a ≤ x ∧ x ≤ b := by simp [inn]

theorem getD_some {A : Type} {l : List A} {i : Nat} (h : i < l.length) : ∃ e, l[i]? = some e := ⟨_, List.getElem?_eq_getElem h⟩

theorem loop27 (id term voted role : Int) (log : Log OpT) (commit : Int) (votes : List Bool) (mtch : List Int) (hm : mtch.length ≤ 4294967295) : ∀ (k i : Nat), i + k = mtch.length →
    loopT l27_0_12 (((i : Int), (mtch.length : Int), ()), (((id, term, voted, role, log, commit, votes, mtch, ()), ()), ())) = some (if (mtch.drop i).all (fun m => inn m 0 log.length) then .inr ((), ()) else .inl ((false, ()), ())) := by
  intro k
  induction k with
  | zero =>
    intro i h
    rw [List.drop_eq_nil_of_le (by omega)]
    refine loopT_inr ?_
    have : ¬ (i : Int) < (mtch.length : Int) := by omega
    simp only [l27_0_12, this, decide_true, decide_false, cond_true, cond_false, Option.bind_some, Bool.not_true, Bool.not_false, sumE, Bool.true_and, Bool.and_true, Bool.false_and, Bool.and_false, beq_self_eq_true, bne_self_eq_false, List.all_nil, if_true]
  | succ k ih =>
    intro i h
    obtain ⟨e, he, hd⟩ := drop_at (l := mtch) (i := i) (by omega)
    have hlt : (i : Int) < (mtch.length : Int) := by omega
    rw [hd, List.all_cons]
    cases hi : inn e 0 log.length
    · refine loopT_inr ?_
      simp only [l27_0_12, rowAt_G, rowG_nat he, hlt, m45_eq, hi, decide_true, decide_false, cond_true, cond_false, Option.bind_some, Bool.not_true, Bool.not_false, sumE, Bool.true_and, Bool.and_true, Bool.false_and, Bool.and_false, beq_self_eq_true, bne_self_eq_false]
      rfl
    · rw [show loopT l27_0_12 (((i : Int), (mtch.length : Int), ()), (((id, term, voted, role, log, commit, votes, mtch, ()), ()), ())) = loopT l27_0_12 ((((i + 1 : Nat) : Int), (mtch.length : Int), ()), (((id, term, voted, role, log, commit, votes, mtch, ()), ()), ())) from loopT_inl (by
        simp only [l27_0_12, rowAt_G, rowG_nat he, hlt, m45_eq, hi, decide_true, decide_false, cond_true, cond_false, Option.bind_some, Bool.not_true, Bool.not_false, sumE, Bool.true_and, Bool.and_true, Bool.false_and, Bool.and_false, beq_self_eq_true, bne_self_eq_false, w64_nat (show i ≤ 4294967296 by omega)])]
      rw [ih (i + 1) (by omega)]
      simp only [Bool.true_and]

theorem len_beq0 {A : Type} (l : List A) : ((l.length : Int) == 0) = decide (l.length = 0) := by
  by_cases h : l.length = 0
  · rw [h]; rfl
  · rw [decide_eq_false h]
    have : (l.length : Int) ≠ 0 := by omega
    simpa using this

theorem bne_decide (a b : Int) : (a != b) = decide (a ≠ b) := by
  by_cases h : a = b <;> simp [h]

theorem beq_decide (a b : Int) : (a == b) = decide (a = b) := by
  by_cases h : a = b <;> simp [h]

theorem w64_pred {n : Int} (h : inn n 1 5 = true) : w64 (n - 1) = n - 1 := by
  rw [inn_iff] at h; exact w64_id (by omega) (by omega)

theorem m27_eq (n : Int) (r : RT) (hs : Shrt r) : m27 ((n, r, ()), ()) = some ((chk n r, ()), ()) := by
  obtain ⟨id, term, voted, role, log, commit, votes, mtch, ⟨⟩⟩ := r
  obtain ⟨h1, h2, h3⟩ := hs
  simp only [Rep.id, Rep.term, Rep.voted, Rep.role, Rep.log, Rep.commit, Rep.votes, Rep.mtch, rp] at h1 h2 h3
  simp only [chk, Rep.id, Rep.term, Rep.voted, Rep.role, Rep.log, Rep.commit, Rep.votes, Rep.mtch, rp]
  unfold m27
  simp only [m29_eq, m45_eq, m85_eq _ _ h1, Option.bind_some, inn_quorum]
  cases hn : inn n 1 5
  · simp only [decide_true, decide_false, cond_true, cond_false, Option.bind_some, Bool.not_true, Bool.not_false, sumE, Bool.true_and, Bool.and_true, Bool.false_and, Bool.and_false, beq_self_eq_true, bne_self_eq_false]
  simp only [w64_pred hn]
  cases hid : inn id 0 (n - 1)
  · simp only [decide_true, decide_false, cond_true, cond_false, Option.bind_some, Bool.not_true, Bool.not_false, sumE, Bool.true_and, Bool.and_true, Bool.false_and, Bool.and_false, beq_self_eq_true, bne_self_eq_false]
  cases ht : inn term 0 1048576
  · simp only [decide_true, decide_false, cond_true, cond_false, Option.bind_some, Bool.not_true, Bool.not_false, sumE, Bool.true_and, Bool.and_true, Bool.false_and, Bool.and_false, beq_self_eq_true, bne_self_eq_false]
  cases hv : inn voted (-1) (n - 1)
  · simp only [decide_true, decide_false, cond_true, cond_false, Option.bind_some, Bool.not_true, Bool.not_false, sumE, Bool.true_and, Bool.and_true, Bool.false_and, Bool.and_false, beq_self_eq_true, bne_self_eq_false]
  cases hl : logFits log term
  · simp only [decide_true, decide_false, cond_true, cond_false, Option.bind_some, Bool.not_true, Bool.not_false, sumE, Bool.true_and, Bool.and_true, Bool.false_and, Bool.and_false, beq_self_eq_true, bne_self_eq_false]
  cases hc : inn commit 0 log.length
  · simp only [decide_true, decide_false, cond_true, cond_false, Option.bind_some, Bool.not_true, Bool.not_false, sumE, Bool.true_and, Bool.and_true, Bool.false_and, Bool.and_false, beq_self_eq_true, bne_self_eq_false]
  simp only [decide_true, decide_false, cond_true, cond_false, Option.bind_some, Bool.not_true, Bool.not_false, sumE, Bool.true_and, Bool.and_true, Bool.false_and, Bool.and_false, beq_self_eq_true, bne_self_eq_false]
  rw [inn_iff] at hid hn
  unfold roleOK
  simp only [Rep.id, Rep.term, Rep.voted, Rep.role, Rep.log, Rep.commit, Rep.votes, Rep.mtch, rp]
  by_cases r0 : role = 0
  · subst r0
    simp only [len_beq0]
    by_cases hv0 : votes.length = 0 <;> by_cases hm0 : mtch.length = 0 <;> simp only [hv0, hm0, decide_true, decide_false, cond_true, cond_false, Option.bind_some, Bool.not_true, Bool.not_false, sumE, Bool.true_and, Bool.and_true, Bool.false_and, Bool.and_false, beq_self_eq_true, bne_self_eq_false, if_true]
  by_cases r1 : role = 1
  · subst r1
    by_cases hvn : (votes.length : Int) = n
    · obtain ⟨b, hb⟩ := getD_some (l := votes) (i := id.toNat) (by omega)
      simp only [rowAt_G, rowG_int hid.1 hb, hvn, hb, Option.getD_some, decide_true, decide_false, cond_true, cond_false, Option.bind_some, Bool.not_true, Bool.not_false, sumE, Bool.true_and, Bool.and_true, Bool.false_and, Bool.and_false, beq_self_eq_true, bne_self_eq_false, show ((1 : Int) == 0) = false from rfl, if_neg r0, if_true]
      simp only [len_beq0]
      by_cases hm0 : mtch.length = 0 <;> cases b <;> simp only [hm0, decide_true, decide_false, cond_true, cond_false, Option.bind_some, Bool.not_true, Bool.not_false, sumE, Bool.true_and, Bool.and_true, Bool.false_and, Bool.and_false, beq_self_eq_true, bne_self_eq_false]
    · simp only [rowAt_G, show ((votes.length : Int) == n) = false by simpa using hvn, hvn, decide_true, decide_false, cond_true, cond_false, Option.bind_some, Bool.not_true, Bool.not_false, sumE, Bool.true_and, Bool.and_true, Bool.false_and, Bool.and_false, beq_self_eq_true, bne_self_eq_false, show ((1 : Int) == 0) = false from rfl, if_neg r0, if_true]
  by_cases r2 : role = 2
  · subst r2
    simp only [decide_true, decide_false, cond_true, cond_false, Option.bind_some, Bool.not_true, Bool.not_false, sumE, Bool.true_and, Bool.and_true, Bool.false_and, Bool.and_false, beq_self_eq_true, bne_self_eq_false, show ((2 : Int) == 0) = false from rfl, show ((2 : Int) == 1) = false from rfl, if_neg r0, if_neg r1, if_true]
    by_cases hvn : (votes.length : Int) = n
    · obtain ⟨b, hb⟩ := getD_some (l := votes) (i := id.toNat) (by omega)
      simp only [rowAt_G, rowG_int hid.1 hb, show ((votes.length : Int) != n) = false by simpa using hvn, hvn, hb, Option.getD_some, decide_true, decide_false, cond_true, cond_false, Option.bind_some, Bool.not_true, Bool.not_false, sumE, Bool.true_and, Bool.and_true, Bool.false_and, Bool.and_false, beq_self_eq_true, bne_self_eq_false]
      cases b
      · simp only [decide_true, decide_false, cond_true, cond_false, Option.bind_some, Bool.not_true, Bool.not_false, sumE, Bool.true_and, Bool.and_true, Bool.false_and, Bool.and_false, beq_self_eq_true, bne_self_eq_false]
      · by_cases hmn : (mtch.length : Int) = n
        · obtain ⟨p, hp⟩ := getD_some (l := mtch) (i := id.toNat) (by omega)
          simp only [rowG_int hid.1 hp, show ((mtch.length : Int) != n) = false by simpa using hmn, hmn, hp, Option.getD_some, decide_true, decide_false, cond_true, cond_false, Option.bind_some, Bool.not_true, Bool.not_false, sumE, Bool.true_and, Bool.and_true, Bool.false_and, Bool.and_false, beq_self_eq_true, bne_self_eq_false]
          by_cases hpl : p = (log.length : Int)
          · have := loop27 id term voted 2 log commit votes mtch h3 mtch.length 0 (by omega)
            simp only [List.drop_zero, hmn] at this
            simp only [show (p != (log.length : Int)) = false by simpa using hpl, hpl, decide_true, decide_false, cond_true, cond_false, Option.bind_some, Bool.not_true, Bool.not_false, sumE, Bool.true_and, Bool.and_true, Bool.false_and, Bool.and_false, beq_self_eq_true, bne_self_eq_false]
            rw [show loopT l27_0_12 ((0, (n, ())), (((id, (term, (voted, (2, (log, (commit, (votes, (mtch, ())))))))), ()), ())) = _ from this]
            cases mtch.all (fun m => inn m 0 log.length) <;> rfl
          · simp only [show (p != (log.length : Int)) = true by simpa using hpl, hpl, decide_true, decide_false, cond_true, cond_false, Option.bind_some, Bool.not_true, Bool.not_false, sumE, Bool.true_and, Bool.and_true, Bool.false_and, Bool.and_false, beq_self_eq_true, bne_self_eq_false]
        · simp only [show ((mtch.length : Int) != n) = true by simpa using hmn, hmn, decide_true, decide_false, cond_true, cond_false, Option.bind_some, Bool.not_true, Bool.not_false, sumE, Bool.true_and, Bool.and_true, Bool.false_and, Bool.and_false, beq_self_eq_true, bne_self_eq_false]
    · simp only [show ((votes.length : Int) != n) = true by simpa using hvn, hvn, decide_true, decide_false, cond_true, cond_false, Option.bind_some, Bool.not_true, Bool.not_false, sumE, Bool.true_and, Bool.and_true, Bool.false_and, Bool.and_false, beq_self_eq_true, bne_self_eq_false]
  · simp only [show (role == 0) = false by simpa using r0, show (role == 1) = false by simpa using r1, show (role == 2) = false by simpa using r2, r0, r1, r2, if_false, decide_true, decide_false, cond_true, cond_false, Option.bind_some, Bool.not_true, Bool.not_false, sumE, Bool.true_and, Bool.and_true, Bool.false_and, Bool.and_false, beq_self_eq_true, bne_self_eq_false]

/-! ### The program's Check -/
theorem loop82 (id term voted role : Int) (log : Log OpT) (commit : Int) (votes : List Bool) (mtch : List Int) (hm : log.length ≤ 4294967295) : ∀ (k i : Nat) (last : Int), i + k = log.length →
    loopT l82_0_3 (((i : Int), last, log, (log.length : Int), ()), (((id, term, voted, role, log, commit, votes, mtch, ()), ()), ())) = some (if srt term last (log.drop i) then .inr ((), (((id, term, voted, role, log, commit, votes, mtch, ()), ()), ())) else .inl ((false, ()), ())) := by
  intro k
  induction k with
  | zero =>
    intro i last h
    rw [List.drop_eq_nil_of_le (by omega)]
    refine loopT_inr ?_
    have : ¬ (i : Int) < (log.length : Int) := by omega
    simp only [l82_0_3, this, decide_true, decide_false, cond_true, cond_false, Option.bind_some, Bool.not_true, Bool.not_false, sumE, Bool.true_and, Bool.and_true, Bool.false_and, Bool.and_false, beq_self_eq_true, bne_self_eq_false, srt, if_true]
  | succ k ih =>
    intro i last h
    obtain ⟨e, he, hd⟩ := drop_at (l := log) (i := i) (by omega)
    have hlt : (i : Int) < (log.length : Int) := by omega
    rw [hd, srt]
    cases hi : inn e.1 last term
    · refine loopT_inr ?_
      simp only [l82_0_3, rowAt_G, rowG_nat he, hlt, m81_eq, hi, decide_true, decide_false, cond_true, cond_false, Option.bind_some, Bool.not_true, Bool.not_false, sumE, Bool.true_and, Bool.and_true, Bool.false_and, Bool.and_false, beq_self_eq_true, bne_self_eq_false]
      unfold inn at hi
      rw [hi]; rfl
    · rw [show loopT l82_0_3 (((i : Int), last, log, (log.length : Int), ()), (((id, term, voted, role, log, commit, votes, mtch, ()), ()), ())) = loopT l82_0_3 ((((i + 1 : Nat) : Int), e.1, log, (log.length : Int), ()), (((id, term, voted, role, log, commit, votes, mtch, ()), ()), ())) from loopT_inl (by
        simp only [l82_0_3, rowAt_G, rowG_nat he, hlt, m81_eq, hi, decide_true, decide_false, cond_true, cond_false, Option.bind_some, Bool.not_true, Bool.not_false, sumE, Bool.true_and, Bool.and_true, Bool.false_and, Bool.and_false, beq_self_eq_true, bne_self_eq_false, w64_nat (show i ≤ 4294967296 by omega)])]
      rw [ih (i + 1) e.1 (by omega)]
      unfold inn at hi
      rw [hi]; simp only [Bool.true_and]

theorem m82_eq (r : RT) (hs : Shrt r) : m82 ((r, ()), ()) = some ((logFits r.log r.term && inn r.commit 0 r.log.length, ()), ()) := by
  obtain ⟨id, term, voted, role, log, commit, votes, mtch, ⟨⟩⟩ := r
  obtain ⟨h1, h2, h3⟩ := hs
  simp only [Rep.id, Rep.term, Rep.voted, Rep.role, Rep.log, Rep.commit, Rep.votes, Rep.mtch, rp] at h1 h2 h3
  simp only [logFits, Rep.id, Rep.term, Rep.voted, Rep.role, Rep.log, Rep.commit, Rep.votes, Rep.mtch, rp]
  unfold m82
  have := loop82 id term voted role log commit votes mtch h1 log.length 0 1 (by omega)
  simp only [List.drop_zero] at this
  simp only []
  rw [show loopT l82_0_3 ((0, (1, (log, ((log.length : Int), ())))), (((id, term, voted, role, log, commit, votes, mtch, ()), ()), ())) = _ from this]
  cases srt term 1 log
  · rfl
  · simp only [if_true, m81_eq, decide_true, decide_false, cond_true, cond_false, Option.bind_some, Bool.not_true, Bool.not_false, sumE, Bool.true_and, Bool.and_true, Bool.false_and, Bool.and_false, beq_self_eq_true, bne_self_eq_false]
    by_cases hl : log.length ≤ 256
    · have : (log.length : Int) ≤ 256 := by omega
      simp only [hl, this, decide_true, decide_false, cond_true, cond_false, Option.bind_some, Bool.not_true, Bool.not_false, sumE, Bool.true_and, Bool.and_true, Bool.false_and, Bool.and_false, beq_self_eq_true, bne_self_eq_false]
    · have : ¬ (log.length : Int) ≤ 256 := by omega
      simp only [hl, this, decide_true, decide_false, cond_true, cond_false, Option.bind_some, Bool.not_true, Bool.not_false, sumE, Bool.true_and, Bool.and_true, Bool.false_and, Bool.and_false, beq_self_eq_true, bne_self_eq_false]

theorem loop84 (id term voted role : Int) (log : Log OpT) (commit : Int) (votes : List Bool) (mtch : List Int) (hm : mtch.length ≤ 4294967295) : ∀ (k i : Nat), i + k = mtch.length →
    ∃ d, loopT l84_2_2 (((i : Int), mtch, (mtch.length : Int), ()), (((id, term, voted, role, log, commit, votes, mtch, ()), ()), ())) = some d ∧
      (if (mtch.drop i).all (fun m => inn m 0 log.length) then d = .inr ((), (((id, term, voted, role, log, commit, votes, mtch, ()), ()), ())) else ∃ j : Nat, d = .inl (((j : Int), ()), (((id, term, voted, role, log, commit, votes, mtch, ()), ()), ()))) := by
  intro k
  induction k with
  | zero =>
    intro i h
    rw [List.drop_eq_nil_of_le (by omega)]
    refine ⟨.inr ((), (((id, term, voted, role, log, commit, votes, mtch, ()), ()), ())), loopT_inr ?_, by simp only [List.all_nil, if_true]⟩
    have : ¬ (i : Int) < (mtch.length : Int) := by omega
    simp only [l84_2_2, this, decide_true, decide_false, cond_true, cond_false, Option.bind_some, Bool.not_true, Bool.not_false, sumE, Bool.true_and, Bool.and_true, Bool.false_and, Bool.and_false, beq_self_eq_true, bne_self_eq_false]
  | succ k ih =>
    intro i h
    obtain ⟨e, he, hd⟩ := drop_at (l := mtch) (i := i) (by omega)
    have hlt : (i : Int) < (mtch.length : Int) := by omega
    rw [hd, List.all_cons]
    cases hi : inn e 0 log.length
    · refine ⟨.inl (((i : Int), ()), (((id, term, voted, role, log, commit, votes, mtch, ()), ()), ())), loopT_inr ?_, ⟨i, rfl⟩⟩
      simp only [l84_2_2, rowAt_G, rowG_nat he, hlt, m81_eq, hi, decide_true, decide_false, cond_true, cond_false, Option.bind_some, Bool.not_true, Bool.not_false, sumE, Bool.true_and, Bool.and_true, Bool.false_and, Bool.and_false, beq_self_eq_true, bne_self_eq_false]
    · rw [show loopT l84_2_2 (((i : Int), mtch, (mtch.length : Int), ()), (((id, term, voted, role, log, commit, votes, mtch, ()), ()), ())) = loopT l84_2_2 ((((i + 1 : Nat) : Int), mtch, (mtch.length : Int), ()), (((id, term, voted, role, log, commit, votes, mtch, ()), ()), ())) from loopT_inl (by
        simp only [l84_2_2, rowAt_G, rowG_nat he, hlt, m81_eq, hi, decide_true, decide_false, cond_true, cond_false, Option.bind_some, Bool.not_true, Bool.not_false, sumE, Bool.true_and, Bool.and_true, Bool.false_and, Bool.and_false, beq_self_eq_true, bne_self_eq_false, w64_nat (show i ≤ 4294967296 by omega)])]
      obtain ⟨d, h1, h2⟩ := ih (i + 1) (by omega)
      refine ⟨d, h1, ?_⟩
      simpa only [Bool.true_and] using h2

theorem m83_eq (n : Int) (r : RT) (h0 : 0 ≤ r.id) (h1 : r.id < n) : m83 ((n, r, ()), ()) = some ((decide ((r.votes.length : Int) = n) && r.votes[r.id.toNat]?.getD false, ()), ()) := by
  obtain ⟨id, term, voted, role, log, commit, votes, mtch, ⟨⟩⟩ := r
  simp only [Rep.id, Rep.term, Rep.voted, Rep.role, Rep.log, Rep.commit, Rep.votes, Rep.mtch, rp] at h0 h1 ⊢
  unfold m83
  by_cases hvn : (votes.length : Int) = n
  · obtain ⟨b, hb⟩ := getD_some (l := votes) (i := id.toNat) (by omega)
    simp only [rowAt_G, rowG_int h0 hb, show ((votes.length : Int) == n) = true by simpa using hvn, hvn, hb, Option.getD_some, decide_true, decide_false, cond_true, cond_false, Option.bind_some, Bool.not_true, Bool.not_false, sumE, Bool.true_and, Bool.and_true, Bool.false_and, Bool.and_false, beq_self_eq_true, bne_self_eq_false]
  · simp only [rowAt_G, show ((votes.length : Int) == n) = false by simpa using hvn, hvn, decide_true, decide_false, cond_true, cond_false, Option.bind_some, Bool.not_true, Bool.not_false, sumE, Bool.true_and, Bool.and_true, Bool.false_and, Bool.and_false, beq_self_eq_true, bne_self_eq_false]

theorem m84_eq (n : Int) (r : RT) (hs : Shrt r) (h0 : 0 ≤ r.id) (h1 : r.id < n) : m84 ((n, r, ()), ()) = some ((decide ((r.mtch.length : Int) = n) && decide (r.mtch[r.id.toNat]?.getD 0 = (r.log.length : Int)) && r.mtch.all (fun m => inn m 0 r.log.length), ()), ()) := by
  obtain ⟨id, term, voted, role, log, commit, votes, mtch, ⟨⟩⟩ := r
  obtain ⟨_, _, h3⟩ := hs
  simp only [Rep.id, Rep.term, Rep.voted, Rep.role, Rep.log, Rep.commit, Rep.votes, Rep.mtch, rp] at h0 h1 h3 ⊢
  unfold m84
  by_cases hmn : (mtch.length : Int) = n
  · obtain ⟨p, hp⟩ := getD_some (l := mtch) (i := id.toNat) (by omega)
    simp only [rowAt_G, rowG_int h0 hp, show ((mtch.length : Int) == n) = true by simpa using hmn, hp, Option.getD_some, decide_true, decide_false, cond_true, cond_false, Option.bind_some, Bool.not_true, Bool.not_false, sumE, Bool.true_and, Bool.and_true, Bool.false_and, Bool.and_false, beq_self_eq_true, bne_self_eq_false, hmn, eq_self]
    by_cases hpl : p = (log.length : Int)
    · simp only [show (p == (log.length : Int)) = true by simpa using hpl, hpl, decide_true, decide_false, cond_true, cond_false, Option.bind_some, Bool.not_true, Bool.not_false, sumE, Bool.true_and, Bool.and_true, Bool.false_and, Bool.and_false, beq_self_eq_true, bne_self_eq_false, hmn, eq_self]
      obtain ⟨d, e1, e2⟩ := loop84 id term voted role log commit votes mtch h3 mtch.length 0 (by omega)
      simp only [List.drop_zero] at e2
      rw [hmn] at e1
      rw [show loopT l84_2_2 ((0, (mtch, (n, ()))), (((id, term, voted, role, log, commit, votes, mtch, ()), ()), ())) = _ from e1]
      cases ha : mtch.all (fun m => inn m 0 log.length)
      · rw [ha] at e2
        obtain ⟨j, rfl⟩ := e2
        have : (j : Int) ≥ 0 := by omega
        simp only [this, decide_true, decide_false, cond_true, cond_false, Option.bind_some, Bool.not_true, Bool.not_false, sumE, Bool.true_and, Bool.and_true, Bool.false_and, Bool.and_false, beq_self_eq_true, bne_self_eq_false]
      · rw [ha] at e2
        simp only [if_true] at e2
        subst e2
        simp only [decide_true, decide_false, cond_true, cond_false, Option.bind_some, Bool.not_true, Bool.not_false, sumE, Bool.true_and, Bool.and_true, Bool.false_and, Bool.and_false, beq_self_eq_true, bne_self_eq_false]
    · simp only [show (p == (log.length : Int)) = false by simpa using hpl, hpl, decide_true, decide_false, cond_true, cond_false, Option.bind_some, Bool.not_true, Bool.not_false, sumE, Bool.true_and, Bool.and_true, Bool.false_and, Bool.and_false, beq_self_eq_true, bne_self_eq_false]
  · simp only [rowAt_G, show ((mtch.length : Int) == n) = false by simpa using hmn, hmn, decide_true, decide_false, cond_true, cond_false, Option.bind_some, Bool.not_true, Bool.not_false, sumE, Bool.true_and, Bool.and_true, Bool.false_and, Bool.and_false, beq_self_eq_true, bne_self_eq_false]

theorem m26_eq (n : Int) (r : RT) (hs : Shrt r) : m26 ((n, r, ()), ()) = some ((chk n r, ()), ()) := by
  have e82 := m82_eq r hs
  have e83 := m83_eq n r
  have e84 := m84_eq n r hs
  obtain ⟨id, term, voted, role, log, commit, votes, mtch, ⟨⟩⟩ := r
  simp only [Rep.id, Rep.term, Rep.voted, Rep.role, Rep.log, Rep.commit, Rep.votes, Rep.mtch, rp] at e82 e83 e84
  simp only [chk, roleOK, Rep.id, Rep.term, Rep.voted, Rep.role, Rep.log, Rep.commit, Rep.votes, Rep.mtch, rp]
  unfold m26
  simp only [m81_eq, Option.bind_some]
  cases hn : inn n 1 5
  · simp only [decide_true, decide_false, cond_true, cond_false, Option.bind_some, Bool.not_true, Bool.not_false, sumE, Bool.true_and, Bool.and_true, Bool.false_and, Bool.and_false, beq_self_eq_true, bne_self_eq_false]
  simp only [w64_pred hn]
  cases hid : inn id 0 (n - 1)
  · simp only [decide_true, decide_false, cond_true, cond_false, Option.bind_some, Bool.not_true, Bool.not_false, sumE, Bool.true_and, Bool.and_true, Bool.false_and, Bool.and_false, beq_self_eq_true, bne_self_eq_false]
  have hid' := inn_iff.1 hid
  simp only [e82, e83 hid'.1 (by omega), e84 hid'.1 (by omega), Option.bind_some]
  cases ht : inn term 0 1048576
  · simp only [decide_true, decide_false, cond_true, cond_false, Option.bind_some, Bool.not_true, Bool.not_false, sumE, Bool.true_and, Bool.and_true, Bool.false_and, Bool.and_false, beq_self_eq_true, bne_self_eq_false]
  cases hv : inn voted (-1) (n - 1)
  · simp only [decide_true, decide_false, cond_true, cond_false, Option.bind_some, Bool.not_true, Bool.not_false, sumE, Bool.true_and, Bool.and_true, Bool.false_and, Bool.and_false, beq_self_eq_true, bne_self_eq_false]
  cases hl : logFits log term
  · simp only [decide_true, decide_false, cond_true, cond_false, Option.bind_some, Bool.not_true, Bool.not_false, sumE, Bool.true_and, Bool.and_true, Bool.false_and, Bool.and_false, beq_self_eq_true, bne_self_eq_false]
  cases hc : inn commit 0 log.length
  · simp only [decide_true, decide_false, cond_true, cond_false, Option.bind_some, Bool.not_true, Bool.not_false, sumE, Bool.true_and, Bool.and_true, Bool.false_and, Bool.and_false, beq_self_eq_true, bne_self_eq_false]
  simp only [decide_true, decide_false, cond_true, cond_false, Option.bind_some, Bool.not_true, Bool.not_false, sumE, Bool.true_and, Bool.and_true, Bool.false_and, Bool.and_false, beq_self_eq_true, bne_self_eq_false, len_beq0]
  by_cases r0 : role = 0
  · subst r0
    by_cases hv0 : votes.length = 0 <;> simp only [hv0, decide_true, decide_false, cond_true, cond_false, Option.bind_some, Bool.not_true, Bool.not_false, sumE, Bool.true_and, Bool.and_true, Bool.false_and, Bool.and_false, beq_self_eq_true, bne_self_eq_false, if_true]
  by_cases r1 : role = 1
  · subst r1
    simp only [show ((1 : Int) == 0) = false from rfl, if_true, if_neg r0, e83 hid'.1 (by omega), decide_true, decide_false, cond_true, cond_false, Option.bind_some, Bool.not_true, Bool.not_false, sumE, Bool.true_and, Bool.and_true, Bool.false_and, Bool.and_false, beq_self_eq_true, bne_self_eq_false]
    cases (decide ((votes.length : Int) = n) && votes[id.toNat]?.getD false) <;> simp only [decide_true, decide_false, cond_true, cond_false, Option.bind_some, Bool.not_true, Bool.not_false, sumE, Bool.true_and, Bool.and_true, Bool.false_and, Bool.and_false, beq_self_eq_true, bne_self_eq_false]
  by_cases r2 : role = 2
  · subst r2
    simp only [show ((2 : Int) == 0) = false from rfl, show ((2 : Int) == 1) = false from rfl, if_true, if_neg r0, if_neg r1, e83 hid'.1 (by omega), e84 hid'.1 (by omega), decide_true, decide_false, cond_true, cond_false, Option.bind_some, Bool.not_true, Bool.not_false, sumE, Bool.true_and, Bool.and_true, Bool.false_and, Bool.and_false, beq_self_eq_true, bne_self_eq_false]
    cases (decide ((votes.length : Int) = n) && votes[id.toNat]?.getD false)
    · simp only [decide_true, decide_false, cond_true, cond_false, Option.bind_some, Bool.not_true, Bool.not_false, sumE, Bool.true_and, Bool.and_true, Bool.false_and, Bool.and_false, beq_self_eq_true, bne_self_eq_false]
    · simp only [decide_true, decide_false, cond_true, cond_false, Option.bind_some, Bool.not_true, Bool.not_false, sumE, Bool.true_and, Bool.and_true, Bool.false_and, Bool.and_false, beq_self_eq_true, bne_self_eq_false]
  · simp only [show (role == 0) = false by simpa using r0, show (role == 1) = false by simpa using r1, show (role == 2) = false by simpa using r2, r0, r1, r2, if_false, decide_true, decide_false, cond_true, cond_false, Option.bind_some, Bool.not_true, Bool.not_false, sumE, Bool.true_and, Bool.and_true, Bool.false_and, Bool.and_false, beq_self_eq_true, bne_self_eq_false]

end Go.Proofs.Ytfbikpbejkgegaa

namespace Go.Proofs.Ytfbikpbejkgegaa
open Go Go.Abs Go.Raft
/-- A copy as the functions return it. -/
abbrev cpR (r : RT) : Unit × (((Int × Int × Int × Int × Int × Unit) × Unit) × Log OpT × List Bool × List Int × Unit) := ((), (((r.id, r.term, r.voted, r.role, r.commit, ()), ()), (r.log, (r.votes, (r.mtch, ())))))

/-- A message without entries, as the functions return it. -/
abbrev nm (m : MT) : Int × Int × Int × Int × Int × Int × Int × Bool × Unit := (m.kind, m.frm, m.to, m.term, m.prev, m.pterm, m.commit, m.ok, ())

theorem m80_eq (r : RT) (hs : Shrt r) : m80 ((r, ()), ()) = some (cpR r) := by
  obtain ⟨id, term, voted, role, log, commit, votes, mtch, ⟨⟩⟩ := r
  obtain ⟨h1, h2, h3⟩ := hs
  simp only [Rep.id, Rep.term, Rep.voted, Rep.role, Rep.log, Rep.commit, Rep.votes, Rep.mtch, rp] at h1 h2 h3
  have a1 : 0 + log.length ≤ 4294967296 := by omega
  have a2 : 0 + votes.length ≤ 4294967296 := by omega
  have a3 : 0 + mtch.length ≤ 4294967296 := by omega
  unfold m80
  simp only [a1, a2, a3, decide_true, decide_false, cond_true, cond_false, Option.bind_some, Bool.not_true, Bool.not_false, sumE, Bool.true_and, Bool.and_true, Bool.false_and, Bool.and_false, beq_self_eq_true, bne_self_eq_false, cpR]

theorem m76_eq (r : RT) (hs : Shrt r) : m76 ((r, ()), ()) = some (cpR r) := by
  obtain ⟨id, term, voted, role, log, commit, votes, mtch, ⟨⟩⟩ := r
  obtain ⟨h1, h2, h3⟩ := hs
  simp only [Rep.id, Rep.term, Rep.voted, Rep.role, Rep.log, Rep.commit, Rep.votes, Rep.mtch, rp] at h1 h2 h3
  have a1 : log.length ≤ 4294967296 := by omega
  have a2 : votes.length ≤ 4294967296 := by omega
  have a3 : mtch.length ≤ 4294967296 := by omega
  unfold m76 m91 m125 m126
  simp only [a1, a2, a3, decide_true, decide_false, cond_true, cond_false, Option.bind_some, Bool.not_true, Bool.not_false, sumE, Bool.true_and, Bool.and_true, Bool.false_and, Bool.and_false, beq_self_eq_true, bne_self_eq_false, cpR]

theorem last_at {l : Log OpT} (h : l.length ≠ 0) : ∃ e, l[l.length - 1]? = some e ∧ lastT l = e.1 := by
  obtain ⟨e, he⟩ := getD_some (l := l) (i := l.length - 1) (by omega)
  exact ⟨e, he, lastT_get he (by omega)⟩

theorem lastT_eq0 {l : Log OpT} (h : l.length = 0) : lastT l = 0 := by
  rw [List.length_eq_zero_iff.1 h]; rfl

theorem m22_eq (r : RT) (hs : Shrt r) : m22 ((r, ()), ()) = some ((lastT r.log, ()), ()) := by
  obtain ⟨id, term, voted, role, log, commit, votes, mtch, ⟨⟩⟩ := r
  obtain ⟨h1, h2, h3⟩ := hs
  simp only [Rep.id, Rep.term, Rep.voted, Rep.role, Rep.log, Rep.commit, Rep.votes, Rep.mtch, rp] at h1 h2 h3
  unfold m22
  simp only [len_beq0, rowAt_G]
  by_cases h : log.length = 0
  · simp only [h, decide_true, decide_false, cond_true, cond_false, Option.bind_some, Bool.not_true, Bool.not_false, sumE, Bool.true_and, Bool.and_true, Bool.false_and, Bool.and_false, beq_self_eq_true, bne_self_eq_false, lastT_eq0 h]
  · obtain ⟨e, he, hl⟩ := last_at h
    have w : w64 ((log.length : Int) - 1) = ((log.length - 1 : Nat) : Int) := by rw [w64_id (by omega) (by omega)]; omega
    simp only [h, decide_true, decide_false, cond_true, cond_false, Option.bind_some, Bool.not_true, Bool.not_false, sumE, Bool.true_and, Bool.and_true, Bool.false_and, Bool.and_false, beq_self_eq_true, bne_self_eq_false, w, rowG_nat he, hl]

theorem m38_eq (r : RT) (a b : Int) (hs : Shrt r) : m38 ((r, a, b, ()), ()) = some ((fresh r.log a b, ()), ()) := by
  unfold m38 fresh
  simp only [m22_eq r hs, Option.bind_some]
  by_cases h1 : b > lastT r.log
  · simp only [h1, decide_true, decide_false, cond_true, cond_false, Option.bind_some, Bool.not_true, Bool.not_false, sumE, Bool.true_and, Bool.and_true, Bool.false_and, Bool.and_false, beq_self_eq_true, bne_self_eq_false, Bool.true_or]
  · by_cases h2 : b = lastT r.log
    · simp only [h1, h2, decide_true, decide_false, cond_true, cond_false, Option.bind_some, Bool.not_true, Bool.not_false, sumE, Bool.true_and, Bool.and_true, Bool.false_and, Bool.and_false, beq_self_eq_true, bne_self_eq_false, Bool.false_or]
      simp
    · simp only [h1, h2, show (b == lastT r.log) = false by simpa using h2, decide_true, decide_false, cond_true, cond_false, Option.bind_some, Bool.not_true, Bool.not_false, sumE, Bool.true_and, Bool.and_true, Bool.false_and, Bool.and_false, beq_self_eq_true, bne_self_eq_false, Bool.or_self]

theorem m89_eq (r : RT) (t : Int) : m89 ((r, t, ()), ()) = some ((), ((fol r t, ()), ())) := by
  obtain ⟨id, term, voted, role, log, commit, votes, mtch, ⟨⟩⟩ := r
  unfold m89 fol
  simp only [Rep.id, Rep.term, Rep.voted, Rep.role, Rep.log, Rep.commit, Rep.votes, Rep.mtch, rp]
  by_cases h : t > term
  · simp only [h, decide_true, decide_false, cond_true, cond_false, Option.bind_some, Bool.not_true, Bool.not_false, sumE, Bool.true_and, Bool.and_true, Bool.false_and, Bool.and_false, beq_self_eq_true, bne_self_eq_false, if_true]
  · simp only [h, decide_true, decide_false, cond_true, cond_false, Option.bind_some, Bool.not_true, Bool.not_false, sumE, Bool.true_and, Bool.and_true, Bool.false_and, Bool.and_false, beq_self_eq_true, bne_self_eq_false, if_false]

theorem m79_eq (r : RT) (t : Int) (ht : t ≤ 1048576) (h0 : -1000000000 ≤ r.term) (h1 : r.term ≤ 1000000000) : m79 ((r, t, ()), ()) = some ((), ((fol r t, ()), ())) := by
  obtain ⟨id, term, voted, role, log, commit, votes, mtch, ⟨⟩⟩ := r
  simp only [Rep.id, Rep.term, Rep.voted, Rep.role, Rep.log, Rep.commit, Rep.votes, Rep.mtch, rp] at h0 h1
  unfold m79 fol
  simp only [Rep.id, Rep.term, Rep.voted, Rep.role, Rep.log, Rep.commit, Rep.votes, Rep.mtch, rp, m81_eq, Option.bind_some]
  rw [w64_id (x := term + 1) (by omega) (by omega)]
  by_cases h : t > term
  · have : inn t (term + 1) 1048576 = true := inn_iff.2 ⟨by omega, by omega⟩
    simp only [h, this, decide_true, decide_false, cond_true, cond_false, Option.bind_some, Bool.not_true, Bool.not_false, sumE, Bool.true_and, Bool.and_true, Bool.false_and, Bool.and_false, beq_self_eq_true, bne_self_eq_false, if_true]
  · have : inn t (term + 1) 1048576 = false := by
      cases hh : inn t (term + 1) 1048576 with
      | false => rfl
      | true => have := inn_iff.1 hh; omega
    simp only [h, this, decide_true, decide_false, cond_true, cond_false, Option.bind_some, Bool.not_true, Bool.not_false, sumE, Bool.true_and, Bool.and_true, Bool.false_and, Bool.and_false, beq_self_eq_true, bne_self_eq_false, if_false]

theorem chk_n {n : Int} {r : RT} (h : chk n r = true) : inn n 1 5 = true := by
  have := chk_iff.1 h
  exact inn_iff.2 ⟨this.n1, this.n5⟩

theorem m88_eq (n : Int) (r : RT) (m : MT) (k : Int) (hs : Shrt r) : m88 ((n, r, m, k, ()), ()) = some ((toOK n r m k, ()), ()) := by
  unfold m88 toOK
  simp only [m27_eq n r hs, m45_eq, Option.bind_some]
  cases hc : chk n r
  · simp only [decide_true, decide_false, cond_true, cond_false, Option.bind_some, Bool.not_true, Bool.not_false, sumE, Bool.true_and, Bool.and_true, Bool.false_and, Bool.and_false, beq_self_eq_true, bne_self_eq_false]
  simp only [w64_pred (chk_n hc)]
  obtain ⟨kind, frm, to, term, prev, pterm, commit, ents, ok, ⟨⟩⟩ := m
  simp only [Msg.kind, Msg.frm, Msg.to, Msg.term, Msg.prev, Msg.pterm, Msg.commit, Msg.ents, Msg.ok, mg, beq_decide, bne_decide, Rep.id]
  by_cases h1 : kind = k
  · by_cases h2 : to = r.1
    · simp only [h1, h2, decide_true, decide_false, cond_true, cond_false, Option.bind_some, Bool.not_true, Bool.not_false, sumE, Bool.true_and, Bool.and_true, Bool.false_and, Bool.and_false, beq_self_eq_true, bne_self_eq_false]
      cases h3 : inn frm 0 (n - 1)
      · simp only [decide_true, decide_false, cond_true, cond_false, Option.bind_some, Bool.not_true, Bool.not_false, sumE, Bool.true_and, Bool.and_true, Bool.false_and, Bool.and_false, beq_self_eq_true, bne_self_eq_false]
      · by_cases h4 : frm = r.1 <;> simp [h4]
    · simp only [h1, h2, decide_true, decide_false, cond_true, cond_false, Option.bind_some, Bool.not_true, Bool.not_false, sumE, Bool.true_and, Bool.and_true, Bool.false_and, Bool.and_false, beq_self_eq_true, bne_self_eq_false]
  · simp only [h1, decide_true, decide_false, cond_true, cond_false, Option.bind_some, Bool.not_true, Bool.not_false, sumE, Bool.true_and, Bool.and_true, Bool.false_and, Bool.and_false, beq_self_eq_true, bne_self_eq_false]

theorem m78_eq (n : Int) (r : RT) (m : MT) (k : Int) (hs : Shrt r) : m78 ((n, r, m, k, ()), ()) = some ((toOK n r m k, ()), ()) := by
  unfold m78 toOK
  simp only [m26_eq n r hs, m81_eq, Option.bind_some]
  cases hc : chk n r
  · simp only [decide_true, decide_false, cond_true, cond_false, Option.bind_some, Bool.not_true, Bool.not_false, sumE, Bool.true_and, Bool.and_true, Bool.false_and, Bool.and_false, beq_self_eq_true, bne_self_eq_false]
  simp only [w64_pred (chk_n hc)]
  obtain ⟨kind, frm, to, term, prev, pterm, commit, ents, ok, ⟨⟩⟩ := m
  simp only [Msg.kind, Msg.frm, Msg.to, Msg.term, Msg.prev, Msg.pterm, Msg.commit, Msg.ents, Msg.ok, mg, beq_decide, bne_decide, Rep.id]
  by_cases h1 : kind = k
  · by_cases h2 : to = r.1
    · simp only [h1, h2, decide_true, decide_false, cond_true, cond_false, Option.bind_some, Bool.not_true, Bool.not_false, sumE, Bool.true_and, Bool.and_true, Bool.false_and, Bool.and_false, beq_self_eq_true, bne_self_eq_false]
      cases h3 : inn frm 0 (n - 1)
      · simp only [decide_true, decide_false, cond_true, cond_false, Option.bind_some, Bool.not_true, Bool.not_false, sumE, Bool.true_and, Bool.and_true, Bool.false_and, Bool.and_false, beq_self_eq_true, bne_self_eq_false]
      · by_cases h4 : frm = r.1 <;> simp [h4]
    · simp only [h1, h2, decide_true, decide_false, cond_true, cond_false, Option.bind_some, Bool.not_true, Bool.not_false, sumE, Bool.true_and, Bool.and_true, Bool.false_and, Bool.and_false, beq_self_eq_true, bne_self_eq_false]
  · simp only [h1, decide_true, decide_false, cond_true, cond_false, Option.bind_some, Bool.not_true, Bool.not_false, sumE, Bool.true_and, Bool.and_true, Bool.false_and, Bool.and_false, beq_self_eq_true, bne_self_eq_false]

theorem shrt_follow {r : RT} (t : Int) (hs : Shrt r) : Shrt (fol r t) := by
  unfold fol
  split
  · exact ⟨hs.1, Nat.zero_le _, Nat.zero_le _⟩
  · exact hs

theorem m34_eq (n : Int) (r : RT) (m : MT) (hs : Shrt r) : m34 ((n, r, m, ()), ()) = some (((hear n r m).2.2, ()), (((hear n r m).1, ()), ((nm (hear n r m).2.1, ()), ()))) := by
  unfold m34
  simp only [m88_eq n r m 1 hs, Option.bind_some, m80_eq r hs]
  unfold hear
  cases ho : toOK n r m 1
  · simp only [decide_true, decide_false, cond_true, cond_false, Option.bind_some, Bool.not_true, Bool.not_false, sumE, Bool.true_and, Bool.and_true, Bool.false_and, Bool.and_false, beq_self_eq_true, bne_self_eq_false]; rfl
  simp only [decide_true, decide_false, cond_true, cond_false, Option.bind_some, Bool.not_true, Bool.not_false, sumE, Bool.true_and, Bool.and_true, Bool.false_and, Bool.and_false, beq_self_eq_true, bne_self_eq_false, if_true]
  obtain ⟨kind, frm, to, mterm, prev, pterm, mcommit, ents, ok, ⟨⟩⟩ := m
  simp only [hearR, hearM, Msg.kind, Msg.frm, Msg.to, Msg.term, Msg.prev, Msg.pterm, Msg.commit, Msg.ents, Msg.ok, mg]
  rw [show m89 (((r.id, r.term, r.voted, r.role, r.log, r.commit, r.votes, r.mtch, ()), mterm, ()), ()) = some ((), ((fol r mterm, ()), ())) from m89_eq r mterm]
  have hx := shrt_follow mterm hs
  have hrid : r.id = r.1 := rfl
  generalize fol r mterm = x at hx
  have e38 := fun a b => m38_eq x a b hx
  obtain ⟨id, term, voted, role, log, commit, votes, mtch, ⟨⟩⟩ := x
  simp only [Option.bind_some, e38, hearYes, vote, Rep.id, Rep.term, Rep.voted, Rep.role, Rep.log, Rep.commit, Rep.votes, Rep.mtch, rp, Msg.kind, Msg.frm, Msg.to, Msg.term, Msg.prev, Msg.pterm, Msg.commit, Msg.ents, Msg.ok, mg, beq_decide]
  rcases Bool.eq_false_or_eq_true (decide (term = mterm)) with h1 | h1 <;> rcases Bool.eq_false_or_eq_true (decide (voted = -1)) with h2 | h2 <;> rcases Bool.eq_false_or_eq_true (decide (voted = frm)) with h3 | h3 <;> rcases Bool.eq_false_or_eq_true (decide (role = 0)) with h4 | h4 <;> rcases Bool.eq_false_or_eq_true (fresh log prev pterm) with h5 | h5 <;> simp only [h1, h2, h3, h4, h5, decide_true, decide_false, cond_true, cond_false, Option.bind_some, Bool.not_true, Bool.not_false, sumE, Bool.true_and, Bool.and_true, Bool.false_and, Bool.and_false, beq_self_eq_true, bne_self_eq_false, Bool.true_or, Bool.or_true, Bool.or_self, if_true, if_false, Bool.false_eq_true]

end Go.Proofs.Ytfbikpbejkgegaa

namespace Go.Proofs.Ytfbikpbejkgegaa
open Go Go.Abs Go.Raft
abbrev zeroR : RT := rp 0 0 0 0 [] 0 [] []

def stand (n : Int) (r : RT) : Int × RT × List MT :=
  if chk n r = true then (if r.term = 1048576 then (5, zeroR, []) else (0, standR n r, asks n r)) else (8, zeroR, [])

abbrev r7 (r : RT) : Int × Int × Int × Int × Log OpT × Int × List Bool × Unit := (r.id, r.term, r.voted, r.role, r.log, r.commit, r.votes, ())

theorem m86_eq (n : Int) (r : RT) (h1 : 1 ≤ n) (h5 : n ≤ 5) (i0 : 0 ≤ r.id) (i1 : r.id < n) : m86 ((n, r, ()), ()) = some ((), ((r7 (lead n r), ()), ((lead n r).mtch, ()))) := by
  obtain ⟨id, term, voted, role, log, commit, votes, mtch, ⟨⟩⟩ := r
  simp only [Rep.id, Rep.term, Rep.voted, Rep.role, Rep.log, Rep.commit, Rep.votes, Rep.mtch, rp] at i0 i1
  unfold m86
  have a1 : (0 : Int) ≤ n ∧ n ≤ n ∧ n ≤ 4294967296 := by omega
  have a2 : (0 : Int) ≤ id ∧ id < ((List.replicate n.toNat (0 : Int)).length : Int) := by simp; omega
  have a3 : id.toNat < (List.replicate n.toNat (0 : Int)).length := by simp; omega
  simp only [a1, a2, a3, decide_true, decide_false, cond_true, cond_false, Option.bind_some, Bool.not_true, Bool.not_false, sumE, Bool.true_and, Bool.and_true, Bool.false_and, Bool.and_false, beq_self_eq_true, bne_self_eq_false, and_self, r7, lead, Rep.id, Rep.term, Rep.voted, Rep.role, Rep.log, Rep.commit, Rep.votes, Rep.mtch, rp]

theorem yes_cons (b : Bool) (l : List Bool) : yes (b :: l) = (if b then 1 else 0) + yes l := by
  unfold yes
  rw [List.countP_cons]
  cases b <;> simp <;> omega

theorem range_filter (i k : Nat) (p : Nat → Bool) : (List.range' i (k + 1)).filter p = if p i then i :: (List.range' (i + 1) k).filter p else (List.range' (i + 1) k).filter p := by
  rw [List.range'_succ, List.filter_cons]

theorem asks_range (n : Int) (r : RT) : asks n r = ((List.range' 0 n.toNat).filter (fun (i : Nat) => decide ((i : Int) ≠ r.id))).map (fun (j : Nat) => mg 1 r.id (j : Int) (r.term + 1) r.log.length (lastT r.log) 0 [] false) := by
  unfold asks; rw [List.range_eq_range']

theorem loop30 (r : RT) (hs : Shrt r) (id term voted role commit : Int) (log : Log OpT) (votes : List Bool) (mt : List Int) (n : Int) (n5 : n ≤ 4294967295) : ∀ (k i : Nat) (acc : List MT), (i : Int) + k = n → acc.length ≤ i →
    loopT l30_0_13 (((i : Int), n, ()), ((r, ()), (((id, term, voted, role, log, commit, votes, ()), ()), (acc, (((0, 0, 0, 0, 0, ()), ()), (mt, ())))))) =
      some ((), (((0, 0, 0, 0, 0, ()), ()), (acc ++ ((List.range' i k).filter (fun (i : Nat) => decide ((i : Int) ≠ r.id))).map (fun (j : Nat) => mg 1 r.id (j : Int) term r.log.length (lastT r.log) 0 [] false), (((id, term, voted, role, log, commit, votes, ()), ()), (mt, ()))))) := by
  intro k
  induction k with
  | zero =>
    intro i acc h _
    refine loopT_inr ?_
    have : ¬ (i : Int) < n := by omega
    simp only [l30_0_13, this, decide_true, decide_false, cond_true, cond_false, Option.bind_some, Bool.not_true, Bool.not_false, sumE, Bool.true_and, Bool.and_true, Bool.false_and, Bool.and_false, beq_self_eq_true, bne_self_eq_false]
    simp
  | succ k ih =>
    intro i acc h ha
    have hlt : (i : Int) < n := by omega
    rw [range_filter]
    by_cases e : (i : Int) = r.id
    · rw [show loopT l30_0_13 (((i : Int), n, ()), ((r, ()), (((id, term, voted, role, log, commit, votes, ()), ()), (acc, (((0, 0, 0, 0, 0, ()), ()), (mt, ())))))) = loopT l30_0_13 ((((i + 1 : Nat) : Int), n, ()), ((r, ()), (((id, term, voted, role, log, commit, votes, ()), ()), (acc, (((0, 0, 0, 0, 0, ()), ()), (mt, ())))))) from loopT_inl (by
        simp only [l30_0_13, hlt, show ((i : Int) != r.1) = false by simpa using e, decide_true, decide_false, cond_true, cond_false, Option.bind_some, Bool.not_true, Bool.not_false, sumE, Bool.true_and, Bool.and_true, Bool.false_and, Bool.and_false, beq_self_eq_true, bne_self_eq_false, w64_nat (show i ≤ 4294967296 by omega)])]
      rw [ih (i + 1) acc (by omega) (by omega)]
      simp only [show decide ((i : Int) ≠ r.id) = false by simpa using e, Bool.false_eq_true, if_false]
    · have hlen : ∀ x : MT, acc.length + [x].length ≤ 4294967296 := by intro x; simp; omega
      rw [show loopT l30_0_13 (((i : Int), n, ()), ((r, ()), (((id, term, voted, role, log, commit, votes, ()), ()), (acc, (((0, 0, 0, 0, 0, ()), ()), (mt, ())))))) = loopT l30_0_13 ((((i + 1 : Nat) : Int), n, ()), ((r, ()), (((id, term, voted, role, log, commit, votes, ()), ()), (acc ++ [mg 1 r.id (i : Int) term r.log.length (lastT r.log) 0 [] false], (((0, 0, 0, 0, 0, ()), ()), (mt, ())))))) from loopT_inl (by
        simp only [l30_0_13, hlt, show ((i : Int) != r.1) = true by simpa using e, m22_eq r hs, hlen, decide_true, decide_false, cond_true, cond_false, Option.bind_some, Bool.not_true, Bool.not_false, sumE, Bool.true_and, Bool.and_true, Bool.false_and, Bool.and_false, beq_self_eq_true, bne_self_eq_false, w64_nat (show i ≤ 4294967296 by omega)])]
      rw [ih (i + 1) _ (by omega) (by simp; omega)]
      simp only [show decide ((i : Int) ≠ r.id) = true by simpa using e, if_true, List.map_cons, List.append_assoc, List.singleton_append]

theorem m30_eq (n : Int) (r : RT) (hs : Shrt r) : m30 ((n, r, ()), ()) = some (((stand n r).1, ()), ((r7 (stand n r).2.1, ()), ((stand n r).2.2, ((stand n r).2.1.mtch, ())))) := by
  unfold m30 stand
  simp only [m27_eq n r hs, m80_eq r hs, m29_eq, Option.bind_some]
  cases hc : chk n r
  · simp only [decide_true, decide_false, cond_true, cond_false, Option.bind_some, Bool.not_true, Bool.not_false, sumE, Bool.true_and, Bool.and_true, Bool.false_and, Bool.and_false, beq_self_eq_true, bne_self_eq_false, Bool.false_eq_true, if_false, Rep.id, Rep.term, Rep.voted, Rep.role, Rep.log, Rep.commit, Rep.votes, Rep.mtch, rp, r7]
  have C := chk_iff.1 hc
  have h1 := C.n1; have h5 := C.n5; have i0 := C.i0; have i1 := C.i1; have t0 := C.t0; have t1 := C.t1
  rw [asks_range]
  have l30 := fun a b c d e f g k => loop30 r hs a b c d e f g k n (by omega) n.toNat 0 [] (by omega) (by simp)
  obtain ⟨id, term, voted, role, log, commit, votes, mtch, ⟨⟩⟩ := r
  obtain ⟨s1, s2, s3⟩ := hs
  simp only [Rep.id, Rep.term, Rep.voted, Rep.role, Rep.log, Rep.commit, Rep.votes, Rep.mtch, rp] at s1 s2 s3 i0 i1 t0 t1 l30
  simp only [decide_true, decide_false, cond_true, cond_false, Option.bind_some, Bool.not_true, Bool.not_false, sumE, Bool.true_and, Bool.and_true, Bool.false_and, Bool.and_false, beq_self_eq_true, bne_self_eq_false, if_true, Rep.id, Rep.term, Rep.voted, Rep.role, Rep.log, Rep.commit, Rep.votes, Rep.mtch, rp, beq_decide]
  by_cases ht : term = 1048576
  · simp only [ht, decide_true, decide_false, cond_true, cond_false, Option.bind_some, Bool.not_true, Bool.not_false, sumE, Bool.true_and, Bool.and_true, Bool.false_and, Bool.and_false, beq_self_eq_true, bne_self_eq_false, if_true, r7]
  have a1 : (0 : Int) ≤ n ∧ n ≤ n ∧ n ≤ 4294967296 := by omega
  have a2 : (0 : Int) ≤ id ∧ id < ((List.replicate n.toNat false).length : Int) := by simp; omega
  have a3 : id.toNat < (List.replicate n.toNat false).length := by simp; omega
  have w : w64 (term + 1) = term + 1 := w64_id (by omega) (by omega)
  simp only [ht, decide_true, decide_false, cond_true, cond_false, Option.bind_some, Bool.not_true, Bool.not_false, sumE, Bool.true_and, Bool.and_true, Bool.false_and, Bool.and_false, beq_self_eq_true, bne_self_eq_false, if_false, a1, a2, a3, and_self, w]
  unfold standR
  simp only [Rep.id, Rep.term, Rep.voted, Rep.role, Rep.log, Rep.commit, Rep.votes, Rep.mtch, rp, r7]
  have e86 := m86_eq n (rp id (term + 1) id 1 log commit ((List.replicate n.toNat false).set id.toNat true) []) h1 h5 i0 i1
  simp only [Rep.id, Rep.term, Rep.voted, Rep.role, Rep.log, Rep.commit, Rep.votes, Rep.mtch, rp, r7, lead] at e86
  by_cases hq1 : quorum n = 1
  · simp only [hq1, decide_true, decide_false, cond_true, cond_false, Option.bind_some, Bool.not_true, Bool.not_false, sumE, Bool.true_and, Bool.and_true, Bool.false_and, Bool.and_false, beq_self_eq_true, bne_self_eq_false, if_true, e86, lead, Rep.id, Rep.term, Rep.voted, Rep.role, Rep.log, Rep.commit, Rep.votes, Rep.mtch, rp]
    rw [show loopT l30_0_13 ((0, (n, ())), (((id, term, voted, role, log, commit, votes, mtch, PUnit.unit), ()), (((id, term + 1, id, 2, log, commit, (List.replicate n.toNat false).set id.toNat true, ()), ()), ([], (((0, (0, (0, (0, (0, ()))))), ()), (((List.replicate n.toNat (0 : Int)).set id.toNat (log.length : Int)), ())))))) = _ from l30 id (term + 1) id 2 commit log _ _]
    simp only [Option.bind_some, List.nil_append]
  · simp only [hq1, decide_true, decide_false, cond_true, cond_false, Option.bind_some, Bool.not_true, Bool.not_false, sumE, Bool.true_and, Bool.and_true, Bool.false_and, Bool.and_false, beq_self_eq_true, bne_self_eq_false, if_false]
    rw [show loopT l30_0_13 ((0, (n, ())), (((id, term, voted, role, log, commit, votes, mtch, PUnit.unit), ()), (((id, term + 1, id, 1, log, commit, (List.replicate n.toNat false).set id.toNat true, ()), ()), ([], (((0, (0, (0, (0, (0, ()))))), ()), ([], ())))))) = _ from l30 id (term + 1) id 1 commit log _ _]
    simp only [Option.bind_some, List.nil_append]

theorem loop37 (id term voted role commit : Int) (log : Log OpT) (votes : List Bool) (mtch : List Int) (n : Int) (hv : (votes.length : Int) = n) (h5 : n ≤ 5) : ∀ (k i : Nat) (c : Int), i + k = votes.length → 0 ≤ c → c ≤ i →
    loopT l37_0_11 (((i : Int), c, n, ()), (((id, term, voted, role, commit, ()), ()), (((0, 0, 0, 0, 0, ()), ()), (log, (votes, (mtch, ())))))) = some ((n, c + yes (votes.drop i), ()), (((0, 0, 0, 0, 0, ()), ()), (((id, term, voted, role, commit, ()), ()), (log, (votes, (mtch, ())))))) := by
  intro k
  induction k with
  | zero =>
    intro i c h _ _
    rw [List.drop_eq_nil_of_le (by omega)]
    refine loopT_inr ?_
    have : ¬ (i : Int) < n := by omega
    simp only [l37_0_11, this, decide_true, decide_false, cond_true, cond_false, Option.bind_some, Bool.not_true, Bool.not_false, sumE, Bool.true_and, Bool.and_true, Bool.false_and, Bool.and_false, beq_self_eq_true, bne_self_eq_false]
    simp [yes]
  | succ k ih =>
    intro i c h c0 c1
    obtain ⟨e, he, hd⟩ := drop_at (l := votes) (i := i) (by omega)
    have hlt : (i : Int) < n := by omega
    have hb : (0 : Int) ≤ i ∧ (i : Int) < (votes.length : Int) := by omega
    rw [hd, yes_cons]
    have hc : w64 (c + 1) = c + 1 := w64_id (by omega) (by omega)
    cases e
    · rw [show loopT l37_0_11 (((i : Int), c, n, ()), (((id, term, voted, role, commit, ()), ()), (((0, 0, 0, 0, 0, ()), ()), (log, (votes, (mtch, ())))))) = loopT l37_0_11 ((((i + 1 : Nat) : Int), c, n, ()), (((id, term, voted, role, commit, ()), ()), (((0, 0, 0, 0, 0, ()), ()), (log, (votes, (mtch, ())))))) from loopT_inl (by
        simp only [l37_0_11, hb, and_self, Int.toNat_natCast, he, hlt, decide_true, decide_false, cond_true, cond_false, Option.bind_some, Bool.not_true, Bool.not_false, sumE, Bool.true_and, Bool.and_true, Bool.false_and, Bool.and_false, beq_self_eq_true, bne_self_eq_false, w64_nat (show i ≤ 4294967296 by omega)])]
      rw [ih (i + 1) c (by omega) (by omega) (by omega)]
      simp
    · rw [show loopT l37_0_11 (((i : Int), c, n, ()), (((id, term, voted, role, commit, ()), ()), (((0, 0, 0, 0, 0, ()), ()), (log, (votes, (mtch, ())))))) = loopT l37_0_11 ((((i + 1 : Nat) : Int), c + 1, n, ()), (((id, term, voted, role, commit, ()), ()), (((0, 0, 0, 0, 0, ()), ()), (log, (votes, (mtch, ())))))) from loopT_inl (by
        simp only [l37_0_11, hb, and_self, Int.toNat_natCast, he, hlt, decide_true, decide_false, cond_true, cond_false, Option.bind_some, Bool.not_true, Bool.not_false, sumE, Bool.true_and, Bool.and_true, Bool.false_and, Bool.and_false, beq_self_eq_true, bne_self_eq_false, w64_nat (show i ≤ 4294967296 by omega), hc])]
      rw [ih (i + 1) (c + 1) (by omega) (by omega) (by omega)]
      simp only [if_true]
      rw [show c + 1 + yes (votes.drop (i + 1)) = c + (1 + yes (votes.drop (i + 1))) by omega]

theorem m37_eq (n : Int) (r : RT) (m : MT) (hs : Shrt r) : m37 ((n, r, m, ()), ()) = some ((), ((voted n r m, ()), ())) := by
  unfold m37 voted
  simp only [m88_eq n r m 2 hs, m80_eq r hs, Option.bind_some]
  cases ho : toOK n r m 2
  · simp only [decide_true, decide_false, cond_true, cond_false, Option.bind_some, Bool.not_true, Bool.not_false, sumE, Bool.true_and, Bool.and_true, Bool.false_and, Bool.and_false, beq_self_eq_true, bne_self_eq_false]; rfl
  obtain ⟨C, _, _, f0, f1, _, _, ht⟩ := toOK_iff.1 ho
  have h1 := C.n1; have h5 := C.n5; have i0 := C.i0; have i1 := C.i1
  have ro := @role1_iff _ n r
  have cro := C.ro
  simp only [decide_true, decide_false, cond_true, cond_false, Option.bind_some, Bool.not_true, Bool.not_false, sumE, Bool.true_and, Bool.and_true, Bool.false_and, Bool.and_false, beq_self_eq_true, bne_self_eq_false, if_true]
  obtain ⟨kind, frm, to, mterm, prev, pterm, mcommit, ents, ok, ⟨⟩⟩ := m
  simp only [Msg.kind, Msg.frm, Msg.to, Msg.term, Msg.prev, Msg.pterm, Msg.commit, Msg.ents, Msg.ok, mg] at f0 f1 ⊢
  rw [show m89 (((r.id, r.term, r.voted, r.role, r.log, r.commit, r.votes, r.mtch, ()), mterm, ()), ()) = some ((), ((fol r mterm, ()), ())) from m89_eq r mterm]
  obtain ⟨id, term, voted, role, log, commit, votes, mtch, ⟨⟩⟩ := r
  obtain ⟨s1, s2, s3⟩ := hs
  simp only [Rep.id, Rep.term, Rep.voted, Rep.role, Rep.log, Rep.commit, Rep.votes, Rep.mtch, rp] at s1 s2 s3 i0 i1 ro
  simp only [Rep.id, Rep.term, Rep.voted, Rep.role, Rep.log, Rep.commit, Rep.votes, Rep.mtch, rp, bne_decide]
  by_cases hgt : mterm > term
  · simp only [hgt, decide_true, decide_false, cond_true, cond_false, Option.bind_some, Bool.not_true, Bool.not_false, sumE, Bool.true_and, Bool.and_true, Bool.false_and, Bool.and_false, beq_self_eq_true, bne_self_eq_false, if_true]
  simp only [hgt, decide_true, decide_false, cond_true, cond_false, Option.bind_some, Bool.not_true, Bool.not_false, sumE, Bool.true_and, Bool.and_true, Bool.false_and, Bool.and_false, beq_self_eq_true, bne_self_eq_false, if_false]
  by_cases hr : role = 1
  · subst hr
    by_cases hmt : mterm = term
    · cases ok
      · simp only [hmt, ne_eq, decide_true, decide_false, cond_true, cond_false, Option.bind_some, Bool.not_true, Bool.not_false, sumE, Bool.true_and, Bool.and_true, Bool.false_and, Bool.and_false, beq_self_eq_true, bne_self_eq_false, not_true_eq_false, decide_false, Bool.false_eq_true, and_false, if_false]
      · obtain ⟨v1, v2, v3⟩ := (ro rfl).1 cro
        have a2 : (0 : Int) ≤ frm ∧ frm < (votes.length : Int) := by omega
        have a3 : frm.toNat < votes.length := by omega
        simp only [hmt, ne_eq, decide_true, decide_false, cond_true, cond_false, Option.bind_some, Bool.not_true, Bool.not_false, sumE, Bool.true_and, Bool.and_true, Bool.false_and, Bool.and_false, beq_self_eq_true, bne_self_eq_false, not_true_eq_false, decide_false, a2, a3, and_self, if_true, m29_eq]
        have hv' : ((votes.set frm.toNat true).length : Int) = n := by simpa using v1
        have := loop37 id term voted 1 commit log (votes.set frm.toNat true) mtch n hv' h5 (votes.set frm.toNat true).length 0 0 (by omega) (by omega) (by omega)
        simp only [List.drop_zero, Int.zero_add] at this
        rw [show loopT l37_0_11 ((0, (0, (n, ()))), (((id, (term, (voted, (1, (commit, ()))))), ()), (((0, (0, (0, (0, (0, ()))))), ()), (log, ((votes.set frm.toNat true), (mtch, ())))))) = _ from this]
        simp only [Option.bind_some, m29_eq]
        unfold votedR
        simp only [Msg.kind, Msg.frm, Msg.to, Msg.term, Msg.prev, Msg.pterm, Msg.commit, Msg.ents, Msg.ok, mg, Rep.id, Rep.term, Rep.voted, Rep.role, Rep.log, Rep.commit, Rep.votes, Rep.mtch, rp]
        have e86 := m86_eq n (rp id term voted 1 log commit (votes.set frm.toNat true) mtch) h1 h5 i0 i1
        simp only [Rep.id, Rep.term, Rep.voted, Rep.role, Rep.log, Rep.commit, Rep.votes, Rep.mtch, rp, r7, lead] at e86
        by_cases hy : yes (votes.set frm.toNat true) ≥ quorum n
        · simp only [hy, decide_true, decide_false, cond_true, cond_false, Option.bind_some, Bool.not_true, Bool.not_false, sumE, Bool.true_and, Bool.and_true, Bool.false_and, Bool.and_false, beq_self_eq_true, bne_self_eq_false, e86, lead, Rep.id, Rep.term, Rep.voted, Rep.role, Rep.log, Rep.commit, Rep.votes, Rep.mtch, rp, if_true]
        · simp only [hy, decide_true, decide_false, cond_true, cond_false, Option.bind_some, Bool.not_true, Bool.not_false, sumE, Bool.true_and, Bool.and_true, Bool.false_and, Bool.and_false, beq_self_eq_true, bne_self_eq_false, if_false]
    · simp only [hmt, ne_eq, decide_true, decide_false, cond_true, cond_false, Option.bind_some, Bool.not_true, Bool.not_false, sumE, Bool.true_and, Bool.and_true, Bool.false_and, Bool.and_false, beq_self_eq_true, bne_self_eq_false, not_false_eq_true, decide_true, false_and, and_false, if_false, not_true_eq_false]
  · simp only [hr, ne_eq, decide_true, decide_false, cond_true, cond_false, Option.bind_some, Bool.not_true, Bool.not_false, sumE, Bool.true_and, Bool.and_true, Bool.false_and, Bool.and_false, beq_self_eq_true, bne_self_eq_false, not_false_eq_true, decide_true, false_and, if_false]

end Go.Proofs.Ytfbikpbejkgegaa

namespace Go.Proofs.Ytfbikpbejkgegaa
open Go Go.Abs Go.Raft
def hasID (l : Log OpT) (o : OpT) : Bool := l.any (fun e => e.2.1.1 == o.1)

def proposeE (n : Int) (r : RT) (o : OpT) : Int × RT :=
  if chk n r = true then
    if r.role = 2 then (if hasID r.log o = true then (4, zeroR) else if r.log.length < 256 then (0, proposeR n r o) else (5, zeroR)) else (22, zeroR)
  else (8, zeroR)

def restartE (n : Int) (r : RT) : Int × RT := if chk n r = true then (0, restartR r) else (8, zeroR)

def appendsE (n : Int) (r : RT) : List MT := if chk n r = true ∧ r.role = 2 then appends n r else []

theorem loop55 (n : Int) (o : OpT) (r : RT) (hl : r.log.length ≤ 4294967295) : ∀ (k i : Nat), i + k = r.log.length →
    loopT l55_0_6 (((i : Int), n, ()), (((0, 0, 0, 0, 0, ()), ()), ((o, ()), ((r, ()), ())))) = some (if hasID (r.log.drop i) o then .inl ((4, ()), (((0, 0, 0, 0, 0, ()), ()), ())) else .inr ((n, ()), (((0, 0, 0, 0, 0, ()), ()), ((r, ()), ((o, ()), ()))))) := by
  intro k
  induction k with
  | zero =>
    intro i h
    rw [List.drop_eq_nil_of_le (by omega)]
    refine loopT_inr ?_
    have : ¬ (i : Int) < (r.2.2.2.2.1.length : Int) := by show ¬ (i : Int) < (r.log.length : Int); omega
    simp only [l55_0_6, this, decide_true, decide_false, cond_true, cond_false, Option.bind_some, Bool.not_true, Bool.not_false, sumE, Bool.true_and, Bool.and_true, Bool.false_and, Bool.and_false, beq_self_eq_true, bne_self_eq_false, hasID, List.any_nil, Bool.false_eq_true, if_false]
  | succ k ih =>
    intro i h
    obtain ⟨e, he, hd⟩ := drop_at (l := r.log) (i := i) (by omega)
    have hlt : (i : Int) < (r.2.2.2.2.1.length : Int) := by show (i : Int) < (r.log.length : Int); omega
    rw [hd]
    unfold hasID
    rw [List.any_cons]
    cases hq : (e.2.1.1 == o.1)
    · rw [show loopT l55_0_6 (((i : Int), n, ()), (((0, 0, 0, 0, 0, ()), ()), ((o, ()), ((r, ()), ())))) = loopT l55_0_6 ((((i + 1 : Nat) : Int), n, ()), (((0, 0, 0, 0, 0, ()), ()), ((o, ()), ((r, ()), ())))) from loopT_inl (by
        simp only [l55_0_6, rowAt_G, rowG_nat he, hlt, hq, decide_true, decide_false, cond_true, cond_false, Option.bind_some, Bool.not_true, Bool.not_false, sumE, Bool.true_and, Bool.and_true, Bool.false_and, Bool.and_false, beq_self_eq_true, bne_self_eq_false, w64_nat (show i ≤ 4294967296 by omega)])]
      rw [ih (i + 1) (by omega)]
      rfl
    · refine loopT_inr ?_
      simp only [l55_0_6, rowAt_G, rowG_nat he, hlt, hq, decide_true, decide_false, cond_true, cond_false, Option.bind_some, Bool.not_true, Bool.not_false, sumE, Bool.true_and, Bool.and_true, Bool.false_and, Bool.and_false, beq_self_eq_true, bne_self_eq_false]
      rfl

theorem loop54 (o : OpT) (l : Log OpT) (hl : l.length ≤ 4294967295) : ∀ (k i : Nat), i + k = l.length →
    ∃ d, loopT l54_2_2 (((i : Int), l, (l.length : Int), ()), ((o, ()), ())) = some d ∧ (if hasID (l.drop i) o then ∃ j : Nat, d = .inl (((j : Int), ()), ((o, ()), ())) else d = .inr ((), ((o, ()), ()))) := by
  intro k
  induction k with
  | zero =>
    intro i h
    rw [List.drop_eq_nil_of_le (by omega)]
    refine ⟨.inr ((), ((o, ()), ())), loopT_inr ?_, by simp only [hasID, List.any_nil, Bool.false_eq_true, if_false]⟩
    have : ¬ (i : Int) < (l.length : Int) := by omega
    simp only [l54_2_2, this, decide_true, decide_false, cond_true, cond_false, Option.bind_some, Bool.not_true, Bool.not_false, sumE, Bool.true_and, Bool.and_true, Bool.false_and, Bool.and_false, beq_self_eq_true, bne_self_eq_false]
  | succ k ih =>
    intro i h
    obtain ⟨e, he, hd⟩ := drop_at (l := l) (i := i) (by omega)
    have hlt : (i : Int) < (l.length : Int) := by omega
    rw [hd]
    unfold hasID
    rw [List.any_cons]
    cases hq : (e.2.1.1 == o.1)
    · rw [show loopT l54_2_2 (((i : Int), l, (l.length : Int), ()), ((o, ()), ())) = loopT l54_2_2 ((((i + 1 : Nat) : Int), l, (l.length : Int), ()), ((o, ()), ())) from loopT_inl (by
        simp only [l54_2_2, rowAt_G, rowG_nat he, hlt, hq, decide_true, decide_false, cond_true, cond_false, Option.bind_some, Bool.not_true, Bool.not_false, sumE, Bool.true_and, Bool.and_true, Bool.false_and, Bool.and_false, beq_self_eq_true, bne_self_eq_false, w64_nat (show i ≤ 4294967296 by omega)])]
      obtain ⟨d, h1, h2⟩ := ih (i + 1) (by omega)
      exact ⟨d, h1, by rw [Bool.false_or]; exact h2⟩
    · refine ⟨.inl (((i : Int), ()), ((o, ()), ())), loopT_inr ?_, by simp only [Bool.true_or, if_true]; exact ⟨i, rfl⟩⟩
      simp only [l54_2_2, rowAt_G, rowG_nat he, hlt, hq, decide_true, decide_false, cond_true, cond_false, Option.bind_some, Bool.not_true, Bool.not_false, sumE, Bool.true_and, Bool.and_true, Bool.false_and, Bool.and_false, beq_self_eq_true, bne_self_eq_false]

theorem m55_eq (n : Int) (r : RT) (o : OpT) (hs : Shrt r) : m55 ((n, r, o, ()), ()) = some (((proposeE n r o).1, ()), (cpR (proposeE n r o).2).2) := by
  unfold m55 proposeE
  simp only [m27_eq n r hs, Option.bind_some]
  cases hc : chk n r
  · simp only [decide_true, decide_false, cond_true, cond_false, Option.bind_some, Bool.not_true, Bool.not_false, sumE, Bool.true_and, Bool.and_true, Bool.false_and, Bool.and_false, beq_self_eq_true, bne_self_eq_false, Bool.false_eq_true, if_false, Rep.id, Rep.term, Rep.voted, Rep.role, Rep.log, Rep.commit, Rep.votes, Rep.mtch, rp, cpR]
  have C := chk_iff.1 hc
  have h1 := C.n1; have h5 := C.n5; have i0 := C.i0; have i1 := C.i1; have ll := C.ll
  have ro := @role2_iff _ n r
  have cro := C.ro
  simp only [decide_true, decide_false, cond_true, cond_false, Option.bind_some, Bool.not_true, Bool.not_false, sumE, Bool.true_and, Bool.and_true, Bool.false_and, Bool.and_false, beq_self_eq_true, bne_self_eq_false, if_true, bne_decide]
  by_cases hr : r.role = 2
  · simp only [hr, ne_eq, not_true_eq_false, not_false_eq_true, eq_self, decide_true, decide_false, cond_true, cond_false, Option.bind_some, Bool.not_true, Bool.not_false, sumE, Bool.true_and, Bool.and_true, Bool.false_and, Bool.and_false, beq_self_eq_true, bne_self_eq_false, if_true]
    have := loop55 n o r hs.1 r.log.length 0 (by omega)
    rw [List.drop_zero] at this
    rw [show loopT l55_0_6 ((0, (n, ())), (((0, (0, (0, (0, (0, ()))))), ()), ((o, ()), ((r, ()), ())))) = _ from this]
    cases hh : hasID r.log o
    · obtain ⟨v1, v2, v3, v4, v5⟩ := (ro hr).1 cro
      simp only [Option.bind_some, Bool.false_eq_true, if_false, decide_true, decide_false, cond_true, cond_false, Option.bind_some, Bool.not_true, Bool.not_false, sumE, Bool.true_and, Bool.and_true, Bool.false_and, Bool.and_false, beq_self_eq_true, bne_self_eq_false, m80_eq r hs, m29_eq]
      obtain ⟨id, term, voted, role, log, commit, votes, mtch, ⟨⟩⟩ := r
      simp only [Rep.id, Rep.term, Rep.voted, Rep.role, Rep.log, Rep.commit, Rep.votes, Rep.mtch, rp] at ll v3 i0 i1 ⊢
      by_cases hlen : log.length < 256
      · have b1 : ¬ (log.length : Int) ≥ 256 := by omega
        have b2 : ∀ x : Ent OpT, log.length + [x].length ≤ 4294967296 := by intro x; simp; omega
        have b3 : (0 : Int) ≤ id ∧ id < (mtch.length : Int) := by omega
        have b4 : id.toNat < mtch.length := by omega
        simp only [hlen, b1, b2, b3, b4, and_self, decide_true, decide_false, cond_true, cond_false, Option.bind_some, Bool.not_true, Bool.not_false, sumE, Bool.true_and, Bool.and_true, Bool.false_and, Bool.and_false, beq_self_eq_true, bne_self_eq_false, if_true, beq_decide, proposeR, Rep.id, Rep.term, Rep.voted, Rep.role, Rep.log, Rep.commit, Rep.votes, Rep.mtch, rp]
        by_cases hq : quorum n = 1
        · simp only [hq, decide_true, decide_false, cond_true, cond_false, Option.bind_some, Bool.not_true, Bool.not_false, sumE, Bool.true_and, Bool.and_true, Bool.false_and, Bool.and_false, beq_self_eq_true, bne_self_eq_false, if_true]
        · simp only [hq, decide_true, decide_false, cond_true, cond_false, Option.bind_some, Bool.not_true, Bool.not_false, sumE, Bool.true_and, Bool.and_true, Bool.false_and, Bool.and_false, beq_self_eq_true, bne_self_eq_false, if_false]
      · have b1 : (log.length : Int) ≥ 256 := by omega
        simp only [hlen, b1, decide_true, decide_false, cond_true, cond_false, Option.bind_some, Bool.not_true, Bool.not_false, sumE, Bool.true_and, Bool.and_true, Bool.false_and, Bool.and_false, beq_self_eq_true, bne_self_eq_false, if_false]
    · simp only [Option.bind_some, if_true, decide_true, decide_false, cond_true, cond_false, Option.bind_some, Bool.not_true, Bool.not_false, sumE, Bool.true_and, Bool.and_true, Bool.false_and, Bool.and_false, beq_self_eq_true, bne_self_eq_false, cpR, Rep.id, Rep.term, Rep.voted, Rep.role, Rep.log, Rep.commit, Rep.votes, Rep.mtch, rp]
  · simp only [hr, ne_eq, not_true_eq_false, not_false_eq_true, eq_self, decide_true, decide_false, cond_true, cond_false, Option.bind_some, Bool.not_true, Bool.not_false, sumE, Bool.true_and, Bool.and_true, Bool.false_and, Bool.and_false, beq_self_eq_true, bne_self_eq_false, if_false, cpR, Rep.id, Rep.term, Rep.voted, Rep.role, Rep.log, Rep.commit, Rep.votes, Rep.mtch, rp]

theorem m54_eq (n : Int) (r : RT) (o : OpT) (hs : Shrt r) : m54 ((n, r, o, ()), ()) = some (((proposeE n r o).1, ()), (cpR (proposeE n r o).2).2) := by
  unfold m54 proposeE
  simp only [m26_eq n r hs, Option.bind_some]
  cases hc : chk n r
  · simp only [decide_true, decide_false, cond_true, cond_false, Option.bind_some, Bool.not_true, Bool.not_false, sumE, Bool.true_and, Bool.and_true, Bool.false_and, Bool.and_false, beq_self_eq_true, bne_self_eq_false, Bool.false_eq_true, if_false, Rep.id, Rep.term, Rep.voted, Rep.role, Rep.log, Rep.commit, Rep.votes, Rep.mtch, rp, cpR]
  have C := chk_iff.1 hc
  have h1 := C.n1; have h5 := C.n5; have i0 := C.i0; have i1 := C.i1; have ll := C.ll
  have ro := @role2_iff _ n r
  have cro := C.ro
  simp only [decide_true, decide_false, cond_true, cond_false, Option.bind_some, Bool.not_true, Bool.not_false, sumE, Bool.true_and, Bool.and_true, Bool.false_and, Bool.and_false, beq_self_eq_true, bne_self_eq_false, if_true, bne_decide, beq_decide]
  by_cases hr : r.role = 2
  · simp only [hr, ne_eq, not_true_eq_false, not_false_eq_true, eq_self, decide_true, decide_false, cond_true, cond_false, Option.bind_some, Bool.not_true, Bool.not_false, sumE, Bool.true_and, Bool.and_true, Bool.false_and, Bool.and_false, beq_self_eq_true, bne_self_eq_false, if_true]
    obtain ⟨d, e1, e2⟩ := loop54 o r.log hs.1 r.log.length 0 (by omega)
    rw [List.drop_zero] at e2
    rw [show loopT l54_2_2 ((0, (r.2.2.2.2.1, ((r.2.2.2.2.1.length : Int), ()))), ((o, ()), ())) = _ from e1]
    cases hh : hasID r.log o
    · rw [hh] at e2
      simp only [Bool.false_eq_true, if_false] at e2
      subst e2
      obtain ⟨v1, v2, v3, v4, v5⟩ := (ro hr).1 cro
      simp only [Option.bind_some, Bool.false_eq_true, if_false, decide_true, decide_false, cond_true, cond_false, Option.bind_some, Bool.not_true, Bool.not_false, sumE, Bool.true_and, Bool.and_true, Bool.false_and, Bool.and_false, beq_self_eq_true, bne_self_eq_false, m76_eq r hs, m28_eq]
      obtain ⟨id, term, voted, role, log, commit, votes, mtch, ⟨⟩⟩ := r
      simp only [Rep.id, Rep.term, Rep.voted, Rep.role, Rep.log, Rep.commit, Rep.votes, Rep.mtch, rp] at ll v3 i0 i1 ⊢
      by_cases hlen : log.length < 256
      · have b1 : ¬ (log.length : Int) = 256 := by omega
        have b2 : ∀ x : Ent OpT, log.length + [x].length ≤ 4294967296 := by intro x; simp; omega
        have b3 : (0 : Int) ≤ id ∧ id < (mtch.length : Int) := by omega
        have b4 : id.toNat < mtch.length := by omega
        simp only [hlen, b1, b2, b3, b4, and_self, decide_true, decide_false, cond_true, cond_false, Option.bind_some, Bool.not_true, Bool.not_false, sumE, Bool.true_and, Bool.and_true, Bool.false_and, Bool.and_false, beq_self_eq_true, bne_self_eq_false, if_true, proposeR, Rep.id, Rep.term, Rep.voted, Rep.role, Rep.log, Rep.commit, Rep.votes, Rep.mtch, rp]
        by_cases hq : quorum n = 1
        · simp only [hq, decide_true, decide_false, cond_true, cond_false, Option.bind_some, Bool.not_true, Bool.not_false, sumE, Bool.true_and, Bool.and_true, Bool.false_and, Bool.and_false, beq_self_eq_true, bne_self_eq_false, if_true]
        · simp only [hq, decide_true, decide_false, cond_true, cond_false, Option.bind_some, Bool.not_true, Bool.not_false, sumE, Bool.true_and, Bool.and_true, Bool.false_and, Bool.and_false, beq_self_eq_true, bne_self_eq_false, if_false]
      · have b1 : (log.length : Int) = 256 := by omega
        simp only [hlen, b1, decide_true, decide_false, cond_true, cond_false, Option.bind_some, Bool.not_true, Bool.not_false, sumE, Bool.true_and, Bool.and_true, Bool.false_and, Bool.and_false, beq_self_eq_true, bne_self_eq_false, if_false]
    · rw [hh] at e2
      simp only [if_true] at e2
      obtain ⟨j, rfl⟩ := e2
      have : (j : Int) ≥ 0 := by omega
      simp only [Option.bind_some, if_true, this, decide_true, decide_false, cond_true, cond_false, Option.bind_some, Bool.not_true, Bool.not_false, sumE, Bool.true_and, Bool.and_true, Bool.false_and, Bool.and_false, beq_self_eq_true, bne_self_eq_false, cpR, Rep.id, Rep.term, Rep.voted, Rep.role, Rep.log, Rep.commit, Rep.votes, Rep.mtch, rp]
  · simp only [hr, ne_eq, not_true_eq_false, not_false_eq_true, eq_self, decide_true, decide_false, cond_true, cond_false, Option.bind_some, Bool.not_true, Bool.not_false, sumE, Bool.true_and, Bool.and_true, Bool.false_and, Bool.and_false, beq_self_eq_true, bne_self_eq_false, if_false, cpR, Rep.id, Rep.term, Rep.voted, Rep.role, Rep.log, Rep.commit, Rep.votes, Rep.mtch, rp]

theorem m56_eq (n : Int) (r : RT) (hs : Shrt r) : m56 ((n, r, ()), ()) = some (((restartE n r).1, ()), ((cpR (restartE n r).2).2.1, ((restartE n r).2.log, ()))) := by
  unfold m56 restartE
  simp only [m27_eq n r hs, m80_eq r hs, Option.bind_some]
  cases hc : chk n r
  · simp only [decide_true, decide_false, cond_true, cond_false, Option.bind_some, Bool.not_true, Bool.not_false, sumE, Bool.true_and, Bool.and_true, Bool.false_and, Bool.and_false, beq_self_eq_true, bne_self_eq_false, Bool.false_eq_true, if_false, Rep.id, Rep.term, Rep.voted, Rep.role, Rep.log, Rep.commit, Rep.votes, Rep.mtch, rp, cpR]
  · simp only [decide_true, decide_false, cond_true, cond_false, Option.bind_some, Bool.not_true, Bool.not_false, sumE, Bool.true_and, Bool.and_true, Bool.false_and, Bool.and_false, beq_self_eq_true, bne_self_eq_false, if_true, Rep.id, Rep.term, Rep.voted, Rep.role, Rep.log, Rep.commit, Rep.votes, Rep.mtch, rp, cpR, restartR]

theorem m49_eq (n : Int) (r : RT) (hs : Shrt r) : m49 ((n, r, ()), ()) = some (((restartE n r).1, ()), ((cpR (restartE n r).2).2.1, ((restartE n r).2.log, ()))) := by
  unfold m49 restartE
  simp only [m26_eq n r hs, m76_eq r hs, Option.bind_some]
  cases hc : chk n r
  · simp only [decide_true, decide_false, cond_true, cond_false, Option.bind_some, Bool.not_true, Bool.not_false, sumE, Bool.true_and, Bool.and_true, Bool.false_and, Bool.and_false, beq_self_eq_true, bne_self_eq_false, Bool.false_eq_true, if_false, Rep.id, Rep.term, Rep.voted, Rep.role, Rep.log, Rep.commit, Rep.votes, Rep.mtch, rp, cpR]
  · simp only [decide_true, decide_false, cond_true, cond_false, Option.bind_some, Bool.not_true, Bool.not_false, sumE, Bool.true_and, Bool.and_true, Bool.false_and, Bool.and_false, beq_self_eq_true, bne_self_eq_false, if_true, Rep.id, Rep.term, Rep.voted, Rep.role, Rep.log, Rep.commit, Rep.votes, Rep.mtch, rp, cpR, restartR]

/-! ### Appends -/
def appendM (r : RT) (i : Nat) : MT := mg 3 r.id (i : Int) r.term (r.mtch[i]?.getD 0) (ptermAt r.log (r.mtch[i]?.getD 0)) r.commit (r.log.drop (r.mtch[i]?.getD 0).toNat) false

theorem appends_range (n : Int) (r : RT) : appends n r = ((List.range' 0 n.toNat).filter (fun (i : Nat) => decide ((i : Int) ≠ r.id))).map (appendM r) := by
  unfold appends; rw [List.range_eq_range']; rfl

theorem loop57 (n : Int) (id term voted role : Int) (log : Log OpT) (commit : Int) (votes : List Bool) (mtch : List Int) (hl : log.length ≤ 4294967295) (hm : (mtch.length : Int) = n) (n5 : n ≤ 5) (hb : ∀ p ∈ mtch, 0 ≤ p ∧ p ≤ (log.length : Int)) : ∀ (k i : Nat) (acc : List MT), (i : Int) + k = n → acc.length ≤ i →
    loopT l57_0_5 (((i : Int), n, ()), (acc, (((id, term, voted, role, log, commit, votes, mtch, ()), ()), ()))) = some ((), (acc ++ ((List.range' i k).filter (fun (i : Nat) => decide ((i : Int) ≠ id))).map (appendM (id, term, voted, role, log, commit, votes, mtch, ())), ())) := by
  intro k
  induction k with
  | zero =>
    intro i acc h _
    refine loopT_inr ?_
    have : ¬ (i : Int) < n := by omega
    simp only [l57_0_5, this, decide_true, decide_false, cond_true, cond_false, Option.bind_some, Bool.not_true, Bool.not_false, sumE, Bool.true_and, Bool.and_true, Bool.false_and, Bool.and_false, beq_self_eq_true, bne_self_eq_false]
    simp
  | succ k ih =>
    intro i acc h ha
    have hlt : (i : Int) < n := by omega
    rw [range_filter]
    by_cases e : (i : Int) = id
    · rw [show loopT l57_0_5 (((i : Int), n, ()), (acc, (((id, term, voted, role, log, commit, votes, mtch, ()), ()), ()))) = loopT l57_0_5 ((((i + 1 : Nat) : Int), n, ()), (acc, (((id, term, voted, role, log, commit, votes, mtch, ()), ()), ()))) from loopT_inl (by
        simp only [l57_0_5, hlt, beq_decide, decide_eq_true e, decide_true, decide_false, cond_true, cond_false, Option.bind_some, Bool.not_true, Bool.not_false, sumE, Bool.true_and, Bool.and_true, Bool.false_and, Bool.and_false, beq_self_eq_true, bne_self_eq_false, w64_nat (show i ≤ 4294967296 by omega)])]
      rw [ih (i + 1) acc (by omega) (by omega)]
      simp only [show decide ((i : Int) ≠ id) = false by simpa using e, Bool.false_eq_true, if_false]
    · obtain ⟨p, hp⟩ := getD_some (l := mtch) (i := i) (by omega)
      obtain ⟨p0, p1⟩ := hb p (List.mem_of_getElem? hp)
      have hlen : ∀ x : MT, acc.length + [x].length ≤ 4294967296 := by intro x; simp; omega
      have c1 : p.toNat ≤ log.length ∧ log.length ≤ log.length := by omega
      have c2 : 0 + (log.drop p.toNat).length ≤ 4294967296 := by simp; omega
      have c3 : (log.drop p.toNat).take (log.length - p.toNat) = log.drop p.toNat := List.take_of_length_le (by simp)
      have step : l57_0_5 (((i : Int), n, ()), (acc, (((id, term, voted, role, log, commit, votes, mtch, ()), ()), ()))) = some (.inl ((((i + 1 : Nat) : Int), n, ()), (acc ++ [appendM (id, term, voted, role, log, commit, votes, mtch, ()) i], (((id, term, voted, role, log, commit, votes, mtch, ()), ()), ())))) := by
        unfold appendM
        simp only [Rep.id, Rep.term, Rep.voted, Rep.role, Rep.log, Rep.commit, Rep.votes, Rep.mtch, rp, hp, Option.getD_some]
        by_cases hp0 : p > 0
        · have hw : w64 (p - 1) = p - 1 := w64_id (by omega) (by omega)
          obtain ⟨x, hx⟩ := getD_some (l := log) (i := (p - 1).toNat) (by omega)
          simp only [ptermAt, if_pos hp0, hx, Option.map_some, Option.getD_some]
          simp only [l57_0_5, rowAt_G, rowG_nat hp, hw, rowG_int (show 0 ≤ p - 1 by omega) hx, hlt, beq_decide, decide_eq_false e, p0, c1, c2, c3, hp0, hlen, and_self, decide_true, decide_false, cond_true, cond_false, Option.bind_some, Bool.not_true, Bool.not_false, sumE, Bool.true_and, Bool.and_true, Bool.false_and, Bool.and_false, beq_self_eq_true, bne_self_eq_false, w64_nat (show i ≤ 4294967296 by omega)]
        · simp only [ptermAt, if_neg hp0]
          simp only [l57_0_5, rowAt_G, rowG_nat hp, hlt, beq_decide, decide_eq_false e, p0, c1, c2, c3, hp0, hlen, and_self, decide_true, decide_false, cond_true, cond_false, Option.bind_some, Bool.not_true, Bool.not_false, sumE, Bool.true_and, Bool.and_true, Bool.false_and, Bool.and_false, beq_self_eq_true, bne_self_eq_false, w64_nat (show i ≤ 4294967296 by omega)]
      rw [loopT_inl step, ih (i + 1) _ (by omega) (by simp; omega)]
      simp only [show decide ((i : Int) ≠ id) = true by simpa using e, if_true, List.map_cons, List.append_assoc, List.singleton_append]

theorem m57_eq (n : Int) (r : RT) (hs : Shrt r) : m57 ((n, r, ()), ()) = some ((), (appendsE n r, ())) := by
  unfold m57 appendsE
  simp only [m27_eq n r hs, Option.bind_some]
  cases hc : chk n r
  · simp only [decide_true, decide_false, cond_true, cond_false, Option.bind_some, Bool.not_true, Bool.not_false, sumE, Bool.true_and, Bool.and_true, Bool.false_and, Bool.and_false, beq_self_eq_true, bne_self_eq_false, Bool.false_eq_true, false_and, if_false]
  have C := chk_iff.1 hc
  have h1 := C.n1; have h5 := C.n5
  have ro := @role2_iff _ n r
  have cro := C.ro
  rw [appends_range]
  simp only [decide_true, decide_false, cond_true, cond_false, Option.bind_some, Bool.not_true, Bool.not_false, sumE, Bool.true_and, Bool.and_true, Bool.false_and, Bool.and_false, beq_self_eq_true, bne_self_eq_false, bne_decide, true_and]
  by_cases hr : r.role = 2
  · obtain ⟨v1, v2, v3, v4, v5⟩ := (ro hr).1 cro
    simp only [hr, ne_eq, not_true_eq_false, not_false_eq_true, eq_self, decide_true, decide_false, cond_true, cond_false, Option.bind_some, Bool.not_true, Bool.not_false, sumE, Bool.true_and, Bool.and_true, Bool.false_and, Bool.and_false, beq_self_eq_true, bne_self_eq_false, if_true]
    obtain ⟨id, term, voted, role, log, commit, votes, mtch, ⟨⟩⟩ := r
    have := loop57 n id term voted role log commit votes mtch hs.1 v3 h5 v5 n.toNat 0 [] (by omega) (by simp)
    rw [show loopT l57_0_5 ((0, (n, ())), ([], (((id, term, voted, role, log, commit, votes, mtch, PUnit.unit), ()), ()))) = _ from this]
    simp only [Option.bind_some, List.nil_append]
  · simp only [hr, ne_eq, not_true_eq_false, not_false_eq_true, eq_self, decide_true, decide_false, cond_true, cond_false, Option.bind_some, Bool.not_true, Bool.not_false, sumE, Bool.true_and, Bool.and_true, Bool.false_and, Bool.and_false, beq_self_eq_true, bne_self_eq_false, if_false]

theorem loop46 (n : Int) (id term voted role : Int) (log : Log OpT) (commit : Int) (votes : List Bool) (mtch : List Int) (hl : log.length ≤ 4294967295) (hm : (mtch.length : Int) = n) (n5 : n ≤ 5) (hb : ∀ p ∈ mtch, 0 ≤ p ∧ p ≤ (log.length : Int)) : ∀ (k i : Nat) (acc : List MT), (i : Int) + k = n → acc.length ≤ i →
    loopT l46_0_5 (((i : Int), mtch, n, ()), (acc, (((id, term, voted, role, log, commit, votes, mtch, ()), ()), ()))) = some ((), (acc ++ ((List.range' i k).filter (fun (i : Nat) => decide ((i : Int) ≠ id))).map (appendM (id, term, voted, role, log, commit, votes, mtch, ())), ())) := by
  intro k
  induction k with
  | zero =>
    intro i acc h _
    refine loopT_inr ?_
    have : ¬ (i : Int) < n := by omega
    simp only [l46_0_5, this, decide_true, decide_false, cond_true, cond_false, Option.bind_some, Bool.not_true, Bool.not_false, sumE, Bool.true_and, Bool.and_true, Bool.false_and, Bool.and_false, beq_self_eq_true, bne_self_eq_false]
    simp
  | succ k ih =>
    intro i acc h ha
    have hlt : (i : Int) < n := by omega
    obtain ⟨p, hp⟩ := getD_some (l := mtch) (i := i) (by omega)
    rw [range_filter]
    by_cases e : (i : Int) = id
    · rw [show loopT l46_0_5 (((i : Int), mtch, n, ()), (acc, (((id, term, voted, role, log, commit, votes, mtch, ()), ()), ()))) = loopT l46_0_5 ((((i + 1 : Nat) : Int), mtch, n, ()), (acc, (((id, term, voted, role, log, commit, votes, mtch, ()), ()), ()))) from loopT_inl (by
        simp only [l46_0_5, rowAt_G, rowG_nat hp, hlt, beq_decide, decide_eq_true e, decide_true, decide_false, cond_true, cond_false, Option.bind_some, Bool.not_true, Bool.not_false, sumE, Bool.true_and, Bool.and_true, Bool.false_and, Bool.and_false, beq_self_eq_true, bne_self_eq_false, w64_nat (show i ≤ 4294967296 by omega)])]
      rw [ih (i + 1) acc (by omega) (by omega)]
      simp only [show decide ((i : Int) ≠ id) = false by simpa using e, Bool.false_eq_true, if_false]
    · obtain ⟨p0, p1⟩ := hb p (List.mem_of_getElem? hp)
      have hlen : ∀ x : MT, acc.length + [x].length ≤ 4294967296 := by intro x; simp; omega
      have c1 : p.toNat ≤ log.length ∧ log.length ≤ log.length := by omega
      have c3 : (log.drop p.toNat).take (log.length - p.toNat) = log.drop p.toNat := List.take_of_length_le (by simp)
      have c2 : (log.drop p.toNat).length ≤ 4294967296 := by simp; omega
      have step : l46_0_5 (((i : Int), mtch, n, ()), (acc, (((id, term, voted, role, log, commit, votes, mtch, ()), ()), ()))) = some (.inl ((((i + 1 : Nat) : Int), mtch, n, ()), (acc ++ [appendM (id, term, voted, role, log, commit, votes, mtch, ()) i], (((id, term, voted, role, log, commit, votes, mtch, ()), ()), ())))) := by
        unfold appendM
        simp only [Rep.id, Rep.term, Rep.voted, Rep.role, Rep.log, Rep.commit, Rep.votes, Rep.mtch, rp, hp, Option.getD_some]
        by_cases hp0 : p > 0
        · have hw : w64 (p - 1) = p - 1 := w64_id (by omega) (by omega)
          obtain ⟨x, hx⟩ := getD_some (l := log) (i := (p - 1).toNat) (by omega)
          simp only [ptermAt, if_pos hp0, hx, Option.map_some, Option.getD_some]
          simp only [l46_0_5, m91, rowAt_G, rowG_nat hp, hw, rowG_int (show 0 ≤ p - 1 by omega) hx, hlt, beq_decide, decide_eq_false e, p0, c1, c2, c3, hp0, hlen, and_self, decide_true, decide_false, cond_true, cond_false, Option.bind_some, Bool.not_true, Bool.not_false, sumE, Bool.true_and, Bool.and_true, Bool.false_and, Bool.and_false, beq_self_eq_true, bne_self_eq_false, w64_nat (show i ≤ 4294967296 by omega)]
        · simp only [ptermAt, if_neg hp0]
          simp only [l46_0_5, m91, rowAt_G, rowG_nat hp, hlt, beq_decide, decide_eq_false e, p0, c1, c2, c3, hp0, hlen, and_self, decide_true, decide_false, cond_true, cond_false, Option.bind_some, Bool.not_true, Bool.not_false, sumE, Bool.true_and, Bool.and_true, Bool.false_and, Bool.and_false, beq_self_eq_true, bne_self_eq_false, w64_nat (show i ≤ 4294967296 by omega)]
      rw [loopT_inl step, ih (i + 1) _ (by omega) (by simp; omega)]
      simp only [show decide ((i : Int) ≠ id) = true by simpa using e, if_true, List.map_cons, List.append_assoc, List.singleton_append]

theorem m46_eq (n : Int) (r : RT) (hs : Shrt r) : m46 ((n, r, ()), ()) = some ((), (appendsE n r, ())) := by
  unfold m46 appendsE
  simp only [m26_eq n r hs, Option.bind_some]
  cases hc : chk n r
  · simp only [decide_true, decide_false, cond_true, cond_false, Option.bind_some, Bool.not_true, Bool.not_false, sumE, Bool.true_and, Bool.and_true, Bool.false_and, Bool.and_false, beq_self_eq_true, bne_self_eq_false, Bool.false_eq_true, false_and, if_false]
  have C := chk_iff.1 hc
  have h1 := C.n1; have h5 := C.n5
  have ro := @role2_iff _ n r
  have cro := C.ro
  rw [appends_range]
  simp only [decide_true, decide_false, cond_true, cond_false, Option.bind_some, Bool.not_true, Bool.not_false, sumE, Bool.true_and, Bool.and_true, Bool.false_and, Bool.and_false, beq_self_eq_true, bne_self_eq_false, bne_decide, true_and]
  by_cases hr : r.role = 2
  · obtain ⟨v1, v2, v3, v4, v5⟩ := (ro hr).1 cro
    simp only [hr, ne_eq, not_true_eq_false, not_false_eq_true, eq_self, decide_true, decide_false, cond_true, cond_false, Option.bind_some, Bool.not_true, Bool.not_false, sumE, Bool.true_and, Bool.and_true, Bool.false_and, Bool.and_false, beq_self_eq_true, bne_self_eq_false, if_true]
    obtain ⟨id, term, voted, role, log, commit, votes, mtch, ⟨⟩⟩ := r
    have := loop46 n id term voted role log commit votes mtch hs.1 v3 h5 v5 n.toNat 0 [] (by omega) (by simp)
    simp only [Rep.id, Rep.term, Rep.voted, Rep.role, Rep.log, Rep.commit, Rep.votes, Rep.mtch, rp] at v3
    simp only [v3]
    rw [show loopT l46_0_5 ((0, (mtch, (n, ()))), ([], (((id, term, voted, role, log, commit, votes, mtch, PUnit.unit), ()), ()))) = _ from this]
    simp only [Option.bind_some, List.nil_append]
  · simp only [hr, ne_eq, not_true_eq_false, not_false_eq_true, eq_self, decide_true, decide_false, cond_true, cond_false, Option.bind_some, Bool.not_true, Bool.not_false, sumE, Bool.true_and, Bool.and_true, Bool.false_and, Bool.and_false, beq_self_eq_true, bne_self_eq_false, if_false]

end Go.Proofs.Ytfbikpbejkgegaa

namespace Go.Proofs.Ytfbikpbejkgegaa
open Go Go.Abs Go.Raft
theorem loop_up {A D : Type} {f : A → Option (A ⊕ D)} (st : Nat → A) (d : D) (N : Nat) (h1 : ∀ i, i < N → f (st i) = some (.inl (st (i + 1)))) (h2 : f (st N) = some (.inr d)) : ∀ (k i : Nat), i + k = N → loopT f (st i) = some d := by
  intro k
  induction k with
  | zero => intro i h; rw [show i = N by omega]; exact loopT_inr h2
  | succ k ih => intro i h; rw [loopT_inl (h1 i (by omega))]; exact ih (i + 1) (by omega)

theorem m69_refl (l : Log OpT) (hl : l.length ≤ 4294967295) : m69 ((l, l, ()), ()) = some ((true, ()), ()) := by
  unfold m69
  simp only [decide_true, decide_false, cond_true, cond_false, Option.bind_some, Bool.not_true, Bool.not_false, sumE, Bool.true_and, Bool.and_true, Bool.false_and, Bool.and_false, beq_self_eq_true, bne_self_eq_false]
  rw [show loopT l69_0_4 ((0, (l, (l, ()))), ()) = some (.inr ((), ())) from loop_up (fun i => (((i : Int), l, l, ()), ())) _ l.length (fun i hi => by
      obtain ⟨e, he⟩ := getD_some hi
      have hlt : (i : Int) < (l.length : Int) := by omega
      simp only [l69_0_4, rowAt_G, rowG_nat he, hlt, decide_true, decide_false, cond_true, cond_false, Option.bind_some, Bool.not_true, Bool.not_false, sumE, Bool.true_and, Bool.and_true, Bool.false_and, Bool.and_false, beq_self_eq_true, bne_self_eq_false, w64_nat (show i ≤ 4294967296 by omega)]) (by
      have : ¬ (l.length : Int) < (l.length : Int) := by omega
      simp only [l69_0_4, this, decide_true, decide_false, cond_true, cond_false, Option.bind_some, Bool.not_true, Bool.not_false, sumE, Bool.true_and, Bool.and_true, Bool.false_and, Bool.and_false, beq_self_eq_true, bne_self_eq_false]) l.length 0 (by omega)]
  simp only [decide_true, decide_false, cond_true, cond_false, Option.bind_some, Bool.not_true, Bool.not_false, sumE, Bool.true_and, Bool.and_true, Bool.false_and, Bool.and_false, beq_self_eq_true, bne_self_eq_false]

theorem m87_refl (l : List Int) (hl : l.length ≤ 4294967295) : m87 ((l, l, ()), ()) = some ((true, ()), ()) := by
  unfold m87
  simp only [decide_true, decide_false, cond_true, cond_false, Option.bind_some, Bool.not_true, Bool.not_false, sumE, Bool.true_and, Bool.and_true, Bool.false_and, Bool.and_false, beq_self_eq_true, bne_self_eq_false]
  rw [show loopT l87_0_4 ((0, (l, (l, ()))), ()) = some (.inr ((), ())) from loop_up (fun i => (((i : Int), l, l, ()), ())) _ l.length (fun i hi => by
      obtain ⟨e, he⟩ := getD_some hi
      have hlt : (i : Int) < (l.length : Int) := by omega
      simp only [l87_0_4, rowAt_G, rowG_nat he, hlt, decide_true, decide_false, cond_true, cond_false, Option.bind_some, Bool.not_true, Bool.not_false, sumE, Bool.true_and, Bool.and_true, Bool.false_and, Bool.and_false, beq_self_eq_true, bne_self_eq_false, w64_nat (show i ≤ 4294967296 by omega)]) (by
      have : ¬ (l.length : Int) < (l.length : Int) := by omega
      simp only [l87_0_4, this, decide_true, decide_false, cond_true, cond_false, Option.bind_some, Bool.not_true, Bool.not_false, sumE, Bool.true_and, Bool.and_true, Bool.false_and, Bool.and_false, beq_self_eq_true, bne_self_eq_false]) l.length 0 (by omega)]
  simp only [decide_true, decide_false, cond_true, cond_false, Option.bind_some, Bool.not_true, Bool.not_false, sumE, Bool.true_and, Bool.and_true, Bool.false_and, Bool.and_false, beq_self_eq_true, bne_self_eq_false]

theorem m51_refl (l : List OpT) (hl : l.length ≤ 4294967295) : m51 ((l, l, ()), ()) = some ((true, ()), ()) := by
  unfold m51
  simp only [decide_true, decide_false, cond_true, cond_false, Option.bind_some, Bool.not_true, Bool.not_false, sumE, Bool.true_and, Bool.and_true, Bool.false_and, Bool.and_false, beq_self_eq_true, bne_self_eq_false]
  rw [show loopT l51_0_4 ((0, (l, (l, ()))), ()) = some (.inr ((), ())) from loop_up (fun i => (((i : Int), l, l, ()), ())) _ l.length (fun i hi => by
      obtain ⟨e, he⟩ := getD_some hi
      have hlt : (i : Int) < (l.length : Int) := by omega
      simp only [l51_0_4, rowAt_G, rowG_nat he, hlt, decide_true, decide_false, cond_true, cond_false, Option.bind_some, Bool.not_true, Bool.not_false, sumE, Bool.true_and, Bool.and_true, Bool.false_and, Bool.and_false, beq_self_eq_true, bne_self_eq_false, w64_nat (show i ≤ 4294967296 by omega)]) (by
      have : ¬ (l.length : Int) < (l.length : Int) := by omega
      simp only [l51_0_4, this, decide_true, decide_false, cond_true, cond_false, Option.bind_some, Bool.not_true, Bool.not_false, sumE, Bool.true_and, Bool.and_true, Bool.false_and, Bool.and_false, beq_self_eq_true, bne_self_eq_false]) l.length 0 (by omega)]
  simp only [decide_true, decide_false, cond_true, cond_false, Option.bind_some, Bool.not_true, Bool.not_false, sumE, Bool.true_and, Bool.and_true, Bool.false_and, Bool.and_false, beq_self_eq_true, bne_self_eq_false]

theorem m31_refl (r : RT) (hs : Shrt r) : m31 ((r, r, ()), ()) = some ((true, ()), ()) := by
  obtain ⟨id, term, voted, role, log, commit, votes, mtch, ⟨⟩⟩ := r
  obtain ⟨s1, s2, s3⟩ := hs
  simp only [Rep.id, Rep.term, Rep.voted, Rep.role, Rep.log, Rep.commit, Rep.votes, Rep.mtch, rp] at s1 s2 s3
  unfold m31
  simp only [decide_true, decide_false, cond_true, cond_false, Option.bind_some, Bool.not_true, Bool.not_false, sumE, Bool.true_and, Bool.and_true, Bool.false_and, Bool.and_false, beq_self_eq_true, bne_self_eq_false]
  rw [show loopT l31_0_4 ((0, ()), (((id, term, voted, role, log, commit, votes, mtch, PUnit.unit), ()), (((id, term, voted, role, log, commit, votes, mtch, PUnit.unit), ()), ()))) = some (.inr ((), (((id, term, voted, role, log, commit, votes, mtch, PUnit.unit), ()), (((id, term, voted, role, log, commit, votes, mtch, PUnit.unit), ()), ())))) from loop_up (fun i => (((i : Int), ()), (((id, term, voted, role, log, commit, votes, mtch, PUnit.unit), ()), (((id, term, voted, role, log, commit, votes, mtch, PUnit.unit), ()), ())))) _ votes.length (fun i hi => by
      obtain ⟨e, he⟩ := getD_some hi
      have hlt : (i : Int) < (votes.length : Int) := by omega
      simp only [l31_0_4, rowAt_G, rowG_nat he, hlt, decide_true, decide_false, cond_true, cond_false, Option.bind_some, Bool.not_true, Bool.not_false, sumE, Bool.true_and, Bool.and_true, Bool.false_and, Bool.and_false, beq_self_eq_true, bne_self_eq_false, w64_nat (show i ≤ 4294967296 by omega)]) (by
      have : ¬ (votes.length : Int) < (votes.length : Int) := by omega
      simp only [l31_0_4, this, decide_true, decide_false, cond_true, cond_false, Option.bind_some, Bool.not_true, Bool.not_false, sumE, Bool.true_and, Bool.and_true, Bool.false_and, Bool.and_false, beq_self_eq_true, bne_self_eq_false]) votes.length 0 (by omega)]
  simp only [decide_true, decide_false, cond_true, cond_false, Option.bind_some, Bool.not_true, Bool.not_false, sumE, Bool.true_and, Bool.and_true, Bool.false_and, Bool.and_false, beq_self_eq_true, bne_self_eq_false, m69_refl log s1, m87_refl mtch s3]

theorem m35_refl (m : MT) (hs : m.ents.length ≤ 4294967295) : m35 ((m, m, ()), ()) = some ((true, ()), ()) := by
  obtain ⟨kind, frm, to, mterm, prev, pterm, mcommit, ents, ok, ⟨⟩⟩ := m
  simp only [Msg.kind, Msg.frm, Msg.to, Msg.term, Msg.prev, Msg.pterm, Msg.commit, Msg.ents, Msg.ok, mg] at hs
  unfold m35
  simp only [decide_true, decide_false, cond_true, cond_false, Option.bind_some, Bool.not_true, Bool.not_false, sumE, Bool.true_and, Bool.and_true, Bool.false_and, Bool.and_false, beq_self_eq_true, bne_self_eq_false, m69_refl ents hs]

theorem m32_refl (l : List MT) (hl : l.length ≤ 4294967295) (hs : ∀ m ∈ l, m.ents.length ≤ 4294967295) : m32 ((l, l, ()), ()) = some ((true, ()), ()) := by
  unfold m32
  simp only [decide_true, decide_false, cond_true, cond_false, Option.bind_some, Bool.not_true, Bool.not_false, sumE, Bool.true_and, Bool.and_true, Bool.false_and, Bool.and_false, beq_self_eq_true, bne_self_eq_false]
  rw [show loopT l32_0_4 ((0, (l, (l, ()))), ()) = some (.inr ((), ())) from loop_up (fun i => (((i : Int), l, l, ()), ())) _ l.length (fun i hi => by
      obtain ⟨e, he⟩ := getD_some hi
      have hlt : (i : Int) < (l.length : Int) := by omega
      simp only [l32_0_4, rowAt_G, rowG_nat he, hlt, m35_refl e (hs e (List.mem_of_getElem? he)), decide_true, decide_false, cond_true, cond_false, Option.bind_some, Bool.not_true, Bool.not_false, sumE, Bool.true_and, Bool.and_true, Bool.false_and, Bool.and_false, beq_self_eq_true, bne_self_eq_false, w64_nat (show i ≤ 4294967296 by omega)]) (by
      have : ¬ (l.length : Int) < (l.length : Int) := by omega
      simp only [l32_0_4, this, decide_true, decide_false, cond_true, cond_false, Option.bind_some, Bool.not_true, Bool.not_false, sumE, Bool.true_and, Bool.and_true, Bool.false_and, Bool.and_false, beq_self_eq_true, bne_self_eq_false]) l.length 0 (by omega)]
  simp only [decide_true, decide_false, cond_true, cond_false, Option.bind_some, Bool.not_true, Bool.not_false, sumE, Bool.true_and, Bool.and_true, Bool.false_and, Bool.and_false, beq_self_eq_true, bne_self_eq_false]

/-! ### Prefix -/
theorem m48_m58 (a b : Log OpT) : m48 ((a, b, ()), ()) = m58 ((a, b, ()), ()) := rfl

theorem loop58 (a b : Log OpT) (ha : a.length ≤ 4294967295) : ∀ (k i : Nat), i + k = a.length → i ≤ b.length → ∃ p : Nat, loopT l58_0_2 (((i : Int), b, a, ()), ()) = some (((p : Int), ()), ()) ∧ i ≤ p ∧ p ≤ a.length ∧ p ≤ b.length ∧ ∀ c, c ≤ a.length → c ≤ b.length → a.take c = b.take c → c ≤ p := by
  intro k
  induction k with
  | zero =>
    intro i h hb
    refine ⟨i, loopT_inr ?_, Nat.le_refl _, by omega, hb, fun c hc _ _ => by omega⟩
    have : ¬ (i : Int) < (a.length : Int) := by omega
    simp only [l58_0_2, this, decide_true, decide_false, cond_true, cond_false, Option.bind_some, Bool.not_true, Bool.not_false, sumE, Bool.true_and, Bool.and_true, Bool.false_and, Bool.and_false, beq_self_eq_true, bne_self_eq_false]
  | succ k ih =>
    intro i h hb
    obtain ⟨x, hx⟩ := getD_some (l := a) (i := i) (by omega)
    have hlt : (i : Int) < (a.length : Int) := by omega
    by_cases hbl : i < b.length
    · obtain ⟨y, hy⟩ := getD_some (l := b) (i := i) hbl
      have hlt' : (i : Int) < (b.length : Int) := by omega
      generalize hf : l58_0_2 (((i : Int), b, a, ()), ()) = f
      have hf' := hf
      simp only [l58_0_2, rowAt_G, rowG_nat hx, rowG_nat hy, hlt, hlt', decide_true, decide_false, cond_true, cond_false, Option.bind_some, Bool.not_true, Bool.not_false, sumE, Bool.true_and, Bool.and_true, Bool.false_and, Bool.and_false, beq_self_eq_true, bne_self_eq_false, w64_nat (show i ≤ 4294967296 by omega)] at hf
      by_cases hxy : x = y
      · subst hxy
        simp only [decide_true, decide_false, cond_true, cond_false, Option.bind_some, Bool.not_true, Bool.not_false, sumE, Bool.true_and, Bool.and_true, Bool.false_and, Bool.and_false, beq_self_eq_true, bne_self_eq_false] at hf
        rw [← hf] at hf'
        obtain ⟨p, h1, h2, h3, h4, h5⟩ := ih (i + 1) (by omega) (by omega)
        exact ⟨p, by rw [loopT_inl hf']; exact h1, by omega, h3, h4, h5⟩
      · have hno : ∀ c, c ≤ a.length → c ≤ b.length → a.take c = b.take c → c ≤ i := by
          intro c _ _ hc
          rcases Nat.lt_or_ge i c with hlt | hge
          · have := take_get hc hlt
            rw [hx, hy] at this
            exact absurd (Option.some.inj this) hxy
          · exact hge
        rcases hb2 : f with _ | ⟨z | z⟩
        · rw [hb2] at hf; revert hf; generalize ((_ : Bool) && _) = q; intro hf; cases q <;> cases hf
        · rw [hb2] at hf hf'
          revert hf; generalize ((_ : Bool) && _) = q; intro hf
          cases q
          · cases hf
          · simp only [decide_true, decide_false, cond_true, cond_false, Option.bind_some, Bool.not_true, Bool.not_false, sumE, Bool.true_and, Bool.and_true, Bool.false_and, Bool.and_false, beq_self_eq_true, bne_self_eq_false] at hf
            obtain ⟨p, h1, h2, h3, h4, h5⟩ := ih (i + 1) (by omega) (by omega)
            rw [← hf] at hf'
            exact ⟨p, by rw [loopT_inl hf']; exact h1, by omega, h3, h4, h5⟩
        · rw [hb2] at hf hf'
          revert hf; generalize ((_ : Bool) && _) = q; intro hf
          cases q
          · simp only [decide_true, decide_false, cond_true, cond_false, Option.bind_some, Bool.not_true, Bool.not_false, sumE, Bool.true_and, Bool.and_true, Bool.false_and, Bool.and_false, beq_self_eq_true, bne_self_eq_false] at hf
            rw [← hf] at hf'
            exact ⟨i, loopT_inr hf', Nat.le_refl _, by omega, hb, hno⟩
          · cases hf
    · refine ⟨i, loopT_inr ?_, Nat.le_refl _, by omega, hb, fun c _ hc _ => by omega⟩
      have : ¬ (i : Int) < (b.length : Int) := by omega
      simp only [l58_0_2, hlt, this, decide_true, decide_false, cond_true, cond_false, Option.bind_some, Bool.not_true, Bool.not_false, sumE, Bool.true_and, Bool.and_true, Bool.false_and, Bool.and_false, beq_self_eq_true, bne_self_eq_false]

theorem prefix_spec (a b : Log OpT) (ha : a.length ≤ 4294967295) : ∃ p : Nat, m58 ((a, b, ()), ()) = some (((p : Int), ()), ()) ∧ m48 ((a, b, ()), ()) = some (((p : Int), ()), ()) ∧ p ≤ a.length ∧ p ≤ b.length ∧ ∀ c, c ≤ a.length → c ≤ b.length → a.take c = b.take c → c ≤ p := by
  obtain ⟨p, h1, _, h3, h4, h5⟩ := loop58 a b ha a.length 0 (by omega) (by omega)
  have : m58 ((a, b, ()), ()) = some (((p : Int), ()), ()) := by
    unfold m58
    simp only []
    rw [show loopT l58_0_2 ((0, (b, (a, ()))), ()) = _ from h1]
    rfl
  exact ⟨p, this, by rw [m48_m58]; exact this, h3, h4, h5⟩

end Go.Proofs.Ytfbikpbejkgegaa

namespace Go.Proofs.Ytfbikpbejkgegaa
open Go Go.Abs Go.Raft
theorem take_at {A : Type} {l : List A} {i : Nat} {e : A} (h : l[i]? = some e) : l.take (i + 1) = l.take i ++ [e] := by
  rw [List.take_add_one, h]; rfl

theorem m59_eq (r : RT) (hl : r.log.length ≤ 4294967295) : m59 ((r, ()), ()) = some ((), (committed r, ())) := by
  obtain ⟨id, term, voted, role, log, commit, votes, mtch, ⟨⟩⟩ := r
  simp only [Rep.id, Rep.term, Rep.voted, Rep.role, Rep.log, Rep.commit, Rep.votes, Rep.mtch, rp] at hl
  unfold m59 committed
  simp only [Rep.id, Rep.term, Rep.voted, Rep.role, Rep.log, Rep.commit, Rep.votes, Rep.mtch, rp]
  have hN : (log.take commit.toNat) = log.take (min commit.toNat log.length) := by
    rcases Nat.le_total commit.toNat log.length with h | h
    · rw [Nat.min_eq_left h]
    · rw [Nat.min_eq_right h, List.take_of_length_le h, List.take_of_length_le (Nat.le_refl _)]
  rw [hN]
  generalize hNN : min commit.toNat log.length = N
  rw [show loopT l59_0_3 ((0, ()), (((id, term, voted, role, log, commit, votes, mtch, PUnit.unit), ()), ([], ()))) = some ((), ((log.take N).map (·.2.1), ())) from loop_up (fun i => (((i : Int), ()), (((id, term, voted, role, log, commit, votes, mtch, PUnit.unit), ()), ((log.take i).map (·.2.1), ())))) _ N (fun i hi => by
      obtain ⟨e, he⟩ := getD_some (l := log) (i := i) (by omega)
      have h1 : (i : Int) < commit := by omega
      have h2 : (i : Int) < (log.length : Int) := by omega
      have h3 : ∀ x : OpT, ((log.take i).map (·.2.1)).length + [x].length ≤ 4294967296 := by intro x; simp; omega
      rw [take_at he, List.map_append]
      simp only [l59_0_3, rowAt_G, rowG_nat he, h1, h2, h3, decide_true, decide_false, cond_true, cond_false, Option.bind_some, Bool.not_true, Bool.not_false, sumE, Bool.true_and, Bool.and_true, Bool.false_and, Bool.and_false, beq_self_eq_true, bne_self_eq_false, w64_nat (show i ≤ 4294967296 by omega), List.map_cons, List.map_nil]) (by
      by_cases h1 : (N : Int) < commit
      · have h2 : ¬ (N : Int) < (log.length : Int) := by omega
        simp only [l59_0_3, h1, h2, decide_true, decide_false, cond_true, cond_false, Option.bind_some, Bool.not_true, Bool.not_false, sumE, Bool.true_and, Bool.and_true, Bool.false_and, Bool.and_false, beq_self_eq_true, bne_self_eq_false]
      · simp only [l59_0_3, h1, decide_true, decide_false, cond_true, cond_false, Option.bind_some, Bool.not_true, Bool.not_false, sumE, Bool.true_and, Bool.and_true, Bool.false_and, Bool.and_false, beq_self_eq_true, bne_self_eq_false]) N 0 (by omega)]
  simp only [decide_true, decide_false, cond_true, cond_false, Option.bind_some, Bool.not_true, Bool.not_false, sumE, Bool.true_and, Bool.and_true, Bool.false_and, Bool.and_false, beq_self_eq_true, bne_self_eq_false]

theorem m50_eq (r : RT) (hl : r.log.length ≤ 4294967295) : m50 ((r, ()), ()) = some ((), (committed r, ())) := by
  obtain ⟨id, term, voted, role, log, commit, votes, mtch, ⟨⟩⟩ := r
  simp only [Rep.id, Rep.term, Rep.voted, Rep.role, Rep.log, Rep.commit, Rep.votes, Rep.mtch, rp] at hl
  unfold m50 committed
  simp only [Rep.id, Rep.term, Rep.voted, Rep.role, Rep.log, Rep.commit, Rep.votes, Rep.mtch, rp]
  have hN : (log.take commit.toNat) = log.take (min commit.toNat log.length) := by
    rcases Nat.le_total commit.toNat log.length with h | h
    · rw [Nat.min_eq_left h]
    · rw [Nat.min_eq_right h, List.take_of_length_le h, List.take_of_length_le (Nat.le_refl _)]
  rw [hN]
  generalize hNN : min commit.toNat log.length = N
  have hx : (if (if (log.length : Int) < commit then (log.length : Int) else commit) > 0 then (if (log.length : Int) < commit then (log.length : Int) else commit) else 0) = (N : Int) := by
    split <;> split <;> omega
  have b1 : (0 : Int) ≤ (N : Int) := by omega
  have b2 : 0 ≤ N ∧ N ≤ log.length := by omega
  simp only [hx, b1, Int.toNat_natCast, b2, and_self, decide_true, decide_false, cond_true, cond_false, Option.bind_some, Bool.not_true, Bool.not_false, sumE, Bool.true_and, Bool.and_true, Bool.false_and, Bool.and_false, beq_self_eq_true, bne_self_eq_false]
  have hlen : (log.take N).length = N := by simp; omega
  rw [hlen]
  rw [show loopT l50_0_3 ((0, (log.take N, ((N : Int), ()))), ([], ())) = some ((), ((log.take N).map (·.2.1), ())) from loop_up (fun i => (((i : Int), log.take N, (N : Int), ()), (((log.take N).take i).map (·.2.1), ()))) ((), ((log.take N).map (·.2.1), ())) N (fun i hi => by
      obtain ⟨e, he⟩ := getD_some (l := log.take N) (i := i) (by omega)
      have h2 : (i : Int) < (N : Int) := by omega
      have h3 : ∀ x : OpT, (((log.take N).take i).map (·.2.1)).length + [x].length ≤ 4294967296 := by intro x; simp; omega
      rw [take_at he, List.map_append]
      simp only [l50_0_3, rowAt_G, rowG_nat he, h2, h3, decide_true, decide_false, cond_true, cond_false, Option.bind_some, Bool.not_true, Bool.not_false, sumE, Bool.true_and, Bool.and_true, Bool.false_and, Bool.and_false, beq_self_eq_true, bne_self_eq_false, w64_nat (show i ≤ 4294967296 by omega), List.map_cons, List.map_nil]) (by
      have h1 : ¬ (N : Int) < (N : Int) := by omega
      simp only [l50_0_3, h1, decide_true, decide_false, cond_true, cond_false, Option.bind_some, Bool.not_true, Bool.not_false, sumE, Bool.true_and, Bool.and_true, Bool.false_and, Bool.and_false, beq_self_eq_true, bne_self_eq_false]
      rw [List.take_take, Nat.min_self]) N 0 (by omega)]
  simp only [decide_true, decide_false, cond_true, cond_false, Option.bind_some, Bool.not_true, Bool.not_false, sumE, Bool.true_and, Bool.and_true, Bool.false_and, Bool.and_false, beq_self_eq_true, bne_self_eq_false]

/-! ### The joined log -/
theorem agree_cons (x y : Ent OpT) (l e : Log OpT) : agree (x :: l) (y :: e) = if x.1 = y.1 then agree l e + 1 else 0 := rfl

theorem agree_nil (e : Log OpT) : agree [] e = 0 := by cases e <;> rfl

theorem agree_nil' (l : Log OpT) : agree l [] = 0 := by cases l <;> rfl

/-- From which place on, if the first ones agree. -/
def from_ (l : Log OpT) (p : Nat) (e : Log OpT) (i : Nat) : Nat := i + agree (l.drop (p + i)) (e.drop i)

theorem from_step {l e : Log OpT} {p i : Nat} {x y : Ent OpT} (hx : l[p + i]? = some x) (hy : e[i]? = some y) : from_ l p e i = if x.1 = y.1 then from_ l p e (i + 1) else i := by
  unfold from_
  obtain ⟨h1, h1'⟩ := List.getElem?_eq_some_iff.1 hx
  obtain ⟨h2, h2'⟩ := List.getElem?_eq_some_iff.1 hy
  rw [List.drop_eq_getElem_cons h1, List.drop_eq_getElem_cons h2, agree_cons, h1', h2']
  split
  · rw [show p + i + 1 = p + (i + 1) by omega]; omega
  · omega

theorem from_out {l e : Log OpT} {p i : Nat} (h : l.length ≤ p + i) : from_ l p e i = i := by
  unfold from_; rw [List.drop_eq_nil_of_le h, agree_nil]; omega

theorem from_end {l e : Log OpT} {p i : Nat} (h : e.length ≤ i) : from_ l p e i = i := by
  unfold from_; rw [List.drop_eq_nil_of_le h, agree_nil']; omega

theorem loop94 (l ents : Log OpT) (p : Nat) (hl : l.length ≤ 1000000000) (he : ents.length ≤ 1000000000) : ∀ (k i : Nat), i + k = ents.length → p + i ≤ l.length →
    loopT l94_0_2 (((i : Int), ents, l, (p : Int), ()), ()) = some (if from_ l p ents i = ents.length then .inr ((l, ()), ()) else .inl ((((p + from_ l p ents i : Nat) : Int), ()), (l.take (p + from_ l p ents i) ++ ents.drop (from_ l p ents i), ()))) := by
  intro k
  induction k with
  | zero =>
    intro i h hp
    rw [from_end (by omega), if_pos (by omega)]
    refine loopT_inr ?_
    have : ¬ (i : Int) < (ents.length : Int) := by omega
    simp only [l94_0_2, this, decide_true, decide_false, cond_true, cond_false, Option.bind_some, Bool.not_true, Bool.not_false, sumE, Bool.true_and, Bool.and_true, Bool.false_and, Bool.and_false, beq_self_eq_true, bne_self_eq_false]
  | succ k ih =>
    intro i h hp
    have hlt : (i : Int) < (ents.length : Int) := by omega
    have hw : w64 ((p : Int) + (i : Int)) = ((p + i : Nat) : Int) := by rw [w64_id (by omega) (by omega)]; omega
    obtain ⟨y, hy⟩ := getD_some (l := ents) (i := i) (by omega)
    have b1 : (0 : Int) ≤ ((p + i : Nat) : Int) := by omega
    have b2 : 0 ≤ p + i ∧ p + i ≤ l.length := by omega
    have b3 : 0 + (l.take (p + i)).length ≤ 4294967296 := by simp; omega
    have b4 : (0 : Int) ≤ (i : Int) := by omega
    have b5 : i ≤ ents.length ∧ ents.length ≤ ents.length := by omega
    have b6 : (ents.drop i).take (ents.length - i) = ents.drop i := List.take_of_length_le (by simp)
    have b7 : (l.take (p + i)).length + (ents.drop i).length ≤ 4294967296 := by simp; omega
    by_cases hin : p + i < l.length
    · obtain ⟨x, hx⟩ := getD_some (l := l) (i := p + i) hin
      have hge : ¬ ((p + i : Nat) : Int) ≥ (l.length : Int) := by omega
      have hmin : ¬ (l.length : Int) < ((p + i : Nat) : Int) := by omega
      rw [from_step hx hy]
      by_cases hxy : x.1 = y.1
      · rw [if_pos hxy]
        rw [show loopT l94_0_2 (((i : Int), ents, l, (p : Int), ()), ()) = loopT l94_0_2 ((((i + 1 : Nat) : Int), ents, l, (p : Int), ()), ()) from loopT_inl (by
          simp only [l94_0_2, hw, hlt, hge, rowAt_G, rowG_nat hx, rowG_nat hy, bne_decide, decide_eq_false (show ¬ x.1 ≠ y.1 by simpa using hxy), decide_true, decide_false, cond_true, cond_false, Option.bind_some, Bool.not_true, Bool.not_false, sumE, Bool.true_and, Bool.and_true, Bool.false_and, Bool.and_false, beq_self_eq_true, bne_self_eq_false, w64_nat (show i ≤ 4294967296 by omega)])]
        exact ih (i + 1) (by omega) (by omega)
      · rw [if_neg hxy, if_neg (by omega)]
        refine loopT_inr ?_
        simp only [l94_0_2, hw, hlt, hge, rowAt_G, rowG_nat hx, rowG_nat hy, bne_decide, decide_eq_true (show x.1 ≠ y.1 from hxy), decide_true, decide_false, cond_true, cond_false, Option.bind_some, Bool.not_true, Bool.not_false, sumE, Bool.true_and, Bool.and_true, Bool.false_and, Bool.and_false, beq_self_eq_true, bne_self_eq_false]
        simp only [hmin, if_false, b1, Int.toNat_natCast, b2, b3, b4, b5, b6, b7, and_self, decide_true, decide_false, cond_true, cond_false, Option.bind_some, Bool.not_true, Bool.not_false, sumE, Bool.true_and, Bool.and_true, Bool.false_and, Bool.and_false, beq_self_eq_true, bne_self_eq_false]
    · have hge : ((p + i : Nat) : Int) ≥ (l.length : Int) := by omega
      have hmin : ¬ (l.length : Int) < ((p + i : Nat) : Int) := by omega
      rw [from_out (by omega), if_neg (by omega)]
      refine loopT_inr ?_
      simp only [l94_0_2, hw, hlt, hge, decide_true, decide_false, cond_true, cond_false, Option.bind_some, Bool.not_true, Bool.not_false, sumE, Bool.true_and, Bool.and_true, Bool.false_and, Bool.and_false, beq_self_eq_true, bne_self_eq_false, hmin, if_false, b1, Int.toNat_natCast, b2, b3, b4, b5, b6, b7, and_self]

theorem joined_from (l ents : Log OpT) (p : Nat) : joined l p ents = if from_ l p ents 0 = ents.length then (l, l.length) else (l.take (p + from_ l p ents 0) ++ ents.drop (from_ l p ents 0), p + from_ l p ents 0) := by
  unfold joined from_
  simp only [Nat.add_zero, List.drop_zero, Nat.zero_add]

theorem m94_eq (l ents : Log OpT) (p : Nat) (hl : l.length ≤ 1000000000) (he : ents.length ≤ 1000000000) (hp : p ≤ l.length) :
    m94 ((l, (p : Int), ents, ()), ()) = some ((((joined l p ents).2 : Int), ()), ((joined l p ents).1, ())) := by
  unfold m94
  rw [joined_from]
  have := loop94 l ents p hl he ents.length 0 (by omega) (by omega)
  rw [show loopT l94_0_2 ((0, (ents, (l, ((p : Int), ())))), ()) = _ from this]
  have b3 : 0 + l.length ≤ 4294967296 := by omega
  by_cases h : from_ l p ents 0 = ents.length
  · simp only [if_pos h, decide_true, decide_false, cond_true, cond_false, Option.bind_some, Bool.not_true, Bool.not_false, sumE, Bool.true_and, Bool.and_true, Bool.false_and, Bool.and_false, beq_self_eq_true, bne_self_eq_false, b3]
  · simp only [if_neg h, decide_true, decide_false, cond_true, cond_false, Option.bind_some, Bool.not_true, Bool.not_false, sumE, Bool.true_and, Bool.and_true, Bool.false_and, Bool.and_false, beq_self_eq_true, bne_self_eq_false]

theorem loop93 (r : RT) (m : MT) (p : Nat) (hpm : m.prev = (p : Int)) (hl : r.log.length ≤ 1000000000) (he : m.ents.length ≤ 1000000000) : ∀ (k i : Nat), i + k = m.ents.length → p + i ≤ r.log.length →
    loopT l93_0_2 (((i : Int), ()), ((r, ()), ((m, ()), ()))) = some ((((from_ r.log p m.ents i : Nat) : Int), ()), ((r, ()), ((m, ()), ()))) := by
  obtain ⟨kind, frm, to, mterm, prev, pterm, mcommit, ents, ok, ⟨⟩⟩ := m
  simp only [Msg.kind, Msg.frm, Msg.to, Msg.term, Msg.prev, Msg.pterm, Msg.commit, Msg.ents, Msg.ok, mg] at hpm he ⊢
  subst hpm
  intro k
  induction k with
  | zero =>
    intro i h hp
    rw [from_end (by omega)]
    refine loopT_inr ?_
    have : ¬ (i : Int) < (ents.length : Int) := by omega
    simp only [l93_0_2, this, decide_true, decide_false, cond_true, cond_false, Option.bind_some, Bool.not_true, Bool.not_false, sumE, Bool.true_and, Bool.and_true, Bool.false_and, Bool.and_false, beq_self_eq_true, bne_self_eq_false]
  | succ k ih =>
    intro i h hp
    have hlt : (i : Int) < (ents.length : Int) := by omega
    have hw : w64 ((p : Int) + (i : Int)) = ((p + i : Nat) : Int) := by rw [w64_id (by omega) (by omega)]; omega
    obtain ⟨y, hy⟩ := getD_some (l := ents) (i := i) (by omega)
    by_cases hin : p + i < r.log.length
    · obtain ⟨x, hx⟩ := getD_some (l := r.log) (i := p + i) hin
      have hge : ((p + i : Nat) : Int) < (r.2.2.2.2.1.length : Int) := by show ((p + i : Nat) : Int) < (r.log.length : Int); omega
      rw [from_step hx hy]
      by_cases hxy : x.1 = y.1
      · rw [if_pos hxy]
        rw [show loopT l93_0_2 (((i : Int), ()), ((r, ()), (((kind, frm, to, mterm, (p : Int), pterm, mcommit, ents, ok, PUnit.unit), ()), ()))) = loopT l93_0_2 ((((i + 1 : Nat) : Int), ()), ((r, ()), (((kind, frm, to, mterm, (p : Int), pterm, mcommit, ents, ok, PUnit.unit), ()), ()))) from loopT_inl (by
          simp only [l93_0_2, hw, hlt, hge, rowAt_G, rowG_nat hx, rowG_nat hy, beq_decide, decide_eq_true hxy, decide_true, decide_false, cond_true, cond_false, Option.bind_some, Bool.not_true, Bool.not_false, sumE, Bool.true_and, Bool.and_true, Bool.false_and, Bool.and_false, beq_self_eq_true, bne_self_eq_false, w64_nat (show i ≤ 4294967296 by omega)])]
        exact ih (i + 1) (by omega) (by omega)
      · rw [if_neg hxy]
        refine loopT_inr ?_
        simp only [l93_0_2, hw, hlt, hge, rowAt_G, rowG_nat hx, rowG_nat hy, beq_decide, decide_eq_false hxy, decide_true, decide_false, cond_true, cond_false, Option.bind_some, Bool.not_true, Bool.not_false, sumE, Bool.true_and, Bool.and_true, Bool.false_and, Bool.and_false, beq_self_eq_true, bne_self_eq_false]
    · have hge : ¬ ((p + i : Nat) : Int) < (r.2.2.2.2.1.length : Int) := by show ¬ ((p + i : Nat) : Int) < (r.log.length : Int); omega
      rw [from_out (by omega)]
      refine loopT_inr ?_
      simp only [l93_0_2, hw, hlt, hge, decide_true, decide_false, cond_true, cond_false, Option.bind_some, Bool.not_true, Bool.not_false, sumE, Bool.true_and, Bool.and_true, Bool.false_and, Bool.and_false, beq_self_eq_true, bne_self_eq_false]

theorem loop93b (r : RT) (m : MT) (at_ : Int) (log : Log OpT) (hl : log.length ≤ 4294967295) : ∀ (k i : Nat) (last : Int), i + k = log.length →
    loopT l93_0_10 (((i : Int), last, log, log, at_, (log.length : Int), ()), ((m, ()), ((r, ()), ()))) = some (if srt m.term last (log.drop i) then .inr ((log, at_, ()), ((r, ()), ())) else .inl ((false, ()), ([], ()))) := by
  obtain ⟨kind, frm, to, mterm, prev, pterm, mcommit, ents, ok, ⟨⟩⟩ := m
  simp only [Msg.kind, Msg.frm, Msg.to, Msg.term, Msg.prev, Msg.pterm, Msg.commit, Msg.ents, Msg.ok, mg]
  intro k
  induction k with
  | zero =>
    intro i last h
    rw [List.drop_eq_nil_of_le (by omega)]
    refine loopT_inr ?_
    have : ¬ (i : Int) < (log.length : Int) := by omega
    simp only [l93_0_10, this, decide_true, decide_false, cond_true, cond_false, Option.bind_some, Bool.not_true, Bool.not_false, sumE, Bool.true_and, Bool.and_true, Bool.false_and, Bool.and_false, beq_self_eq_true, bne_self_eq_false, srt, if_true]
  | succ k ih =>
    intro i last h
    obtain ⟨e, he, hd⟩ := drop_at (l := log) (i := i) (by omega)
    have hlt : (i : Int) < (log.length : Int) := by omega
    rw [hd, srt]
    by_cases h1 : last ≤ e.1
    · by_cases h2 : e.1 ≤ mterm
      · rw [show loopT l93_0_10 (((i : Int), last, log, log, at_, (log.length : Int), ()), (((kind, frm, to, mterm, prev, pterm, mcommit, ents, ok, PUnit.unit), ()), ((r, ()), ()))) = loopT l93_0_10 ((((i + 1 : Nat) : Int), e.1, log, log, at_, (log.length : Int), ()), (((kind, frm, to, mterm, prev, pterm, mcommit, ents, ok, PUnit.unit), ()), ((r, ()), ()))) from loopT_inl (by
          have h1' : ¬ e.1 < last := by omega
          have h2' : ¬ e.1 > mterm := by omega
          simp only [l93_0_10, rowAt_G, rowG_nat he, hlt, h1', h2', w64_nat (show i ≤ 4294967296 by omega), decide_true, decide_false, cond_true, cond_false, Option.bind_some, Bool.not_true, Bool.not_false, sumE, Bool.true_and, Bool.and_true, Bool.false_and, Bool.and_false, beq_self_eq_true, bne_self_eq_false])]
        rw [ih (i + 1) e.1 (by omega)]
        simp only [h1, h2, decide_true, decide_false, cond_true, cond_false, Option.bind_some, Bool.not_true, Bool.not_false, sumE, Bool.true_and, Bool.and_true, Bool.false_and, Bool.and_false, beq_self_eq_true, bne_self_eq_false]
      · rw [show (decide (last ≤ e.1) && decide (e.1 ≤ mterm) && srt mterm e.1 (log.drop (i + 1))) = false by simp [h2]]
        refine loopT_inr ?_
        have h1' : ¬ e.1 < last := by omega
        have h2' : e.1 > mterm := by omega
        simp only [l93_0_10, rowAt_G, rowG_nat he, hlt, h1', h2', decide_true, decide_false, cond_true, cond_false, Option.bind_some, Bool.not_true, Bool.not_false, sumE, Bool.true_and, Bool.and_true, Bool.false_and, Bool.and_false, beq_self_eq_true, bne_self_eq_false]
        rfl
    · rw [show (decide (last ≤ e.1) && decide (e.1 ≤ mterm) && srt mterm e.1 (log.drop (i + 1))) = false by simp [h1]]
      refine loopT_inr ?_
      have h1' : e.1 < last := by omega
      simp only [l93_0_10, rowAt_G, rowG_nat he, hlt, h1', decide_true, decide_false, cond_true, cond_false, Option.bind_some, Bool.not_true, Bool.not_false, sumE, Bool.true_and, Bool.and_true, Bool.false_and, Bool.and_false, beq_self_eq_true, bne_self_eq_false]
      rfl

/-- What the program's joined returns. -/
def joinedE (r : RT) (m : MT) : Log OpT × Bool :=
  let j := joined r.log m.prev.toNat m.ents
  if from_ r.log m.prev.toNat m.ents 0 = m.ents.length then (j.1, true)
  else if srt m.term 1 j.1 = true then (j.1, decide ((j.2 : Int) ≥ r.commit) && decide (j.1.length ≤ 256)) else ([], false)

theorem bind_of {A B : Type} {o : Option A} {f : A → Option B} {y : Option B} (x : A) (h : o = some x) (h2 : f x = y) : o.bind f = y := by rw [h]; exact h2

theorem m93_eq (r : RT) (m : MT) (hl : r.log.length ≤ 1000000000) (he : m.ents.length ≤ 1000000000) (h0 : 0 ≤ m.prev) (hp : m.prev ≤ r.log.length) :
    m93 ((r, m, ()), ()) = some (((joinedE r m).1, ((joinedE r m).2, ())), ()) := by
  unfold m93 joinedE
  have hpm : m.prev = ((m.prev.toNat : Nat) : Int) := by omega
  rw [joined_from]
  generalize m.prev.toNat = p at hpm
  have hl1 := loop93 r m p hpm hl he m.ents.length 0 (by omega) (by omega)
  have hl2 := fun at_ log h => loop93b r m at_ log h log.length 0 1 (by omega)
  rw [show loopT l93_0_2 ((0, ()), ((r, ()), ((m, ()), ()))) = _ from hl1]
  obtain ⟨kind, frm, to, mterm, prev, pterm, mcommit, ents, ok, ⟨⟩⟩ := m
  obtain ⟨id, term, voted, role, log, commit, votes, mtch, ⟨⟩⟩ := r
  simp only [Msg.kind, Msg.frm, Msg.to, Msg.term, Msg.prev, Msg.pterm, Msg.commit, Msg.ents, Msg.ok, mg, Rep.id, Rep.term, Rep.voted, Rep.role, Rep.log, Rep.commit, Rep.votes, Rep.mtch, rp] at hpm he hl hp hl2 ⊢
  subst hpm
  have hfl : from_ log p ents 0 ≤ ents.length ∧ p + from_ log p ents 0 ≤ log.length := by
    have := agree_le (log.drop p) ents
    simp only [List.length_drop] at this
    unfold from_
    simp only [Nat.add_zero, List.drop_zero, Nat.zero_add]
    omega
  generalize from_ log p ents 0 = s at hfl
  simp only [Option.bind_some, beq_decide]
  by_cases hs : s = ents.length
  · have : (s : Int) = (ents.length : Int) := by omega
    simp only [decide_eq_true this, if_pos hs, decide_true, decide_false, cond_true, cond_false, Option.bind_some, Bool.not_true, Bool.not_false, sumE, Bool.true_and, Bool.and_true, Bool.false_and, Bool.and_false, beq_self_eq_true, bne_self_eq_false]
  · have hs' : ¬ (s : Int) = (ents.length : Int) := by omega
    have hw : w64 ((p : Int) + (s : Int)) = ((p + s : Nat) : Int) := by rw [w64_id (by omega) (by omega)]; omega
    have b1 : (0 : Int) ≤ ((p + s : Nat) : Int) := by omega
    have b2 : 0 ≤ p + s ∧ p + s = p + s ∧ p + s ≤ log.length := by omega
    have b3 : (0 : Int) ≤ (s : Int) := by omega
    have b4 : s ≤ ents.length ∧ ents.length ≤ ents.length := by omega
    have b6 : (ents.drop s).take (ents.length - s) = ents.drop s := List.take_of_length_le (by simp)
    have b5 : 0 < (ents.drop s).length := by simp; omega
    have b7 : (log.take (p + s)).length + (ents.drop s).length ≤ 4294967296 := by simp; omega
    have b8 : (log.take (p + s) ++ ents.drop s).length ≤ 4294967295 := by simp; omega
    have hin : from_ log p ents 0 = from_ log p ents 0 := rfl
    simp only [decide_eq_false hs', if_neg hs, decide_true, decide_false, cond_true, cond_false, Option.bind_some, Bool.not_true, Bool.not_false, sumE, Bool.true_and, Bool.and_true, Bool.false_and, Bool.and_false, beq_self_eq_true, bne_self_eq_false, hw, b1, b3, Int.toNat_natCast, b2, b4, b6, and_self]
    refine bind_of (((log.take (p + s) ++ ents.drop s), (((p + s : Nat) : Int), ())), (((kind, frm, to, mterm, (p : Int), pterm, mcommit, ents, ok, ()), ()), (((id, term, voted, role, log, commit, votes, mtch, ()), ()), ()))) ?_ ?_
    · have b7' : decide ((log.take (p + s)).length + (ents.drop s).length ≤ 4294967296) = true := decide_eq_true b7
      simp only [b7', decide_true, decide_false, cond_true, cond_false, Option.bind_some, Bool.not_true, Bool.not_false, sumE, Bool.true_and, Bool.and_true, Bool.false_and, Bool.and_false, beq_self_eq_true, bne_self_eq_false]
      generalize log.take (p + s) = u
      generalize ents.drop s = v
      cases u with
      | nil => rfl
      | cons a u => cases v with
        | nil => simp only [List.isEmpty_cons, List.isEmpty_nil, List.append_nil, decide_true, decide_false, cond_true, cond_false, Option.bind_some, Bool.not_true, Bool.not_false, sumE, Bool.true_and, Bool.and_true, Bool.false_and, Bool.and_false, beq_self_eq_true, bne_self_eq_false]
        | cons b v => rfl
    simp only []
    rw [show loopT l93_0_10 ((0, (1, ((log.take (p + s) ++ ents.drop s), ((log.take (p + s) ++ ents.drop s), (((p + s : Nat) : Int), (((log.take (p + s) ++ ents.drop s).length : Int), ())))))), (((kind, frm, to, mterm, (p : Int), pterm, mcommit, ents, ok, ()), ()), (((id, term, voted, role, log, commit, votes, mtch, ()), ()), ()))) = _ from hl2 _ _ b8]
    rw [List.drop_zero]
    cases hsr : srt mterm 1 (log.take (p + s) ++ ents.drop s)
    · simp only [Bool.false_eq_true, if_false, decide_true, decide_false, cond_true, cond_false, Option.bind_some, Bool.not_true, Bool.not_false, sumE, Bool.true_and, Bool.and_true, Bool.false_and, Bool.and_false, beq_self_eq_true, bne_self_eq_false]
    · simp only [if_true, decide_true, decide_false, cond_true, cond_false, Option.bind_some, Bool.not_true, Bool.not_false, sumE, Bool.true_and, Bool.and_true, Bool.false_and, Bool.and_false, beq_self_eq_true, bne_self_eq_false]
      by_cases hc : ((p + s : Nat) : Int) ≥ commit
      · simp only [decide_eq_true hc, decide_true, decide_false, cond_true, cond_false, Option.bind_some, Bool.not_true, Bool.not_false, sumE, Bool.true_and, Bool.and_true, Bool.false_and, Bool.and_false, beq_self_eq_true, bne_self_eq_false]
        by_cases h256 : (log.take (p + s) ++ ents.drop s).length ≤ 256
        · have : ((log.take (p + s) ++ ents.drop s).length : Int) ≤ 256 := by omega
          simp only [decide_eq_true this, decide_eq_true h256]
        · have : ¬ ((log.take (p + s) ++ ents.drop s).length : Int) ≤ 256 := by omega
          simp only [decide_eq_false this, decide_eq_false h256]
      · simp only [decide_eq_false hc, decide_true, decide_false, cond_true, cond_false, Option.bind_some, Bool.not_true, Bool.not_false, sumE, Bool.true_and, Bool.and_true, Bool.false_and, Bool.and_false, beq_self_eq_true, bne_self_eq_false]

theorem m92_eq (r : RT) (m : MT) (hl : r.log.length ≤ 1000000000) (h0 : 0 ≤ m.prev) : m92 ((r, m, ()), ()) = some ((fits r m, ()), ()) := by
  obtain ⟨kind, frm, to, mterm, prev, pterm, mcommit, ents, ok, ⟨⟩⟩ := m
  obtain ⟨id, term, voted, role, log, commit, votes, mtch, ⟨⟩⟩ := r
  simp only [Msg.kind, Msg.frm, Msg.to, Msg.term, Msg.prev, Msg.pterm, Msg.commit, Msg.ents, Msg.ok, mg, Rep.id, Rep.term, Rep.voted, Rep.role, Rep.log, Rep.commit, Rep.votes, Rep.mtch, rp] at hl h0
  unfold m92 fits
  simp only [Msg.kind, Msg.frm, Msg.to, Msg.term, Msg.prev, Msg.pterm, Msg.commit, Msg.ents, Msg.ok, mg, Rep.id, Rep.term, Rep.voted, Rep.role, Rep.log, Rep.commit, Rep.votes, Rep.mtch, rp, beq_decide, bne_decide]
  rcases Bool.eq_false_or_eq_true (decide (mterm = term)) with h1 | h1 <;> simp only [h1, decide_true, decide_false, cond_true, cond_false, Option.bind_some, Bool.not_true, Bool.not_false, sumE, Bool.true_and, Bool.and_true, Bool.false_and, Bool.and_false, beq_self_eq_true, bne_self_eq_false]
  rcases Bool.eq_false_or_eq_true (decide (role ≠ 2)) with h2 | h2 <;> simp only [h2, decide_true, decide_false, cond_true, cond_false, Option.bind_some, Bool.not_true, Bool.not_false, sumE, Bool.true_and, Bool.and_true, Bool.false_and, Bool.and_false, beq_self_eq_true, bne_self_eq_false]
  by_cases h3 : prev ≤ (log.length : Int)
  · simp only [decide_eq_true h3, decide_true, decide_false, cond_true, cond_false, Option.bind_some, Bool.not_true, Bool.not_false, sumE, Bool.true_and, Bool.and_true, Bool.false_and, Bool.and_false, beq_self_eq_true, bne_self_eq_false]
    by_cases h4 : prev = 0
    · simp only [decide_eq_true h4, decide_true, decide_false, cond_true, cond_false, Option.bind_some, Bool.not_true, Bool.not_false, sumE, Bool.true_and, Bool.and_true, Bool.false_and, Bool.and_false, beq_self_eq_true, bne_self_eq_false, Bool.true_or]
    · have hw : w64 (prev - 1) = prev - 1 := w64_id (by omega) (by omega)
      obtain ⟨x, hx⟩ := getD_some (l := log) (i := (prev - 1).toNat) (by omega)
      simp only [decide_eq_false h4, decide_true, decide_false, cond_true, cond_false, Option.bind_some, Bool.not_true, Bool.not_false, sumE, Bool.true_and, Bool.and_true, Bool.false_and, Bool.and_false, beq_self_eq_true, bne_self_eq_false, Bool.false_or, hw, rowAt_G, rowG_int (show 0 ≤ prev - 1 by omega) hx, ptermAt, if_pos (show prev > 0 by omega), hx, Option.map_some, Option.getD_some]
  · simp only [decide_eq_false h3, decide_true, decide_false, cond_true, cond_false, Option.bind_some, Bool.not_true, Bool.not_false, sumE, Bool.true_and, Bool.and_true, Bool.false_and, Bool.and_false, beq_self_eq_true, bne_self_eq_false]

end Go.Proofs.Ytfbikpbejkgegaa

namespace Go.Proofs.Ytfbikpbejkgegaa
open Go Go.Abs Go.Raft
abbrev z5 : (Int × Int × Int × Int × Int × Unit) × Unit := ((0, 0, 0, 0, 0, ()), ())

abbrev z8 : (Int × Int × Int × Int × Int × Int × Int × Bool × Unit) × Unit := ((0, 0, 0, 0, 0, 0, 0, false, ()), ())

theorem shrt_back {r : RT} (t : Int) (hs : Shrt r) : Shrt (back r t) := by
  have := shrt_follow t hs
  unfold back
  simp only
  split
  · exact ⟨this.1, Nat.zero_le _, this.2.2⟩
  · exact this

theorem back_id (r : RT) (t : Int) : (back r t).id = r.id := by
  unfold back fol; simp only; split <;> split <;> rfl

theorem maxmin (c mc e : Int) : (if (if e < mc then e else mc) > c then (if e < mc then e else mc) else c) = max c (min mc e) := by
  split <;> split <;> omega

theorem decide_neg (x : Int) : decide (x < 0) = !decide (0 ≤ x) := by
  by_cases h : 0 ≤ x
  · rw [decide_eq_true h, decide_eq_false (by omega)]; rfl
  · rw [decide_eq_false h, decide_eq_true (by omega)]; rfl

theorem m52_eq (n : Int) (r : RT) (m : MT) (hs : Shrt r) (hm : m.ents.length ≤ 1000000) : m52 ((n, r, m, ()), ()) = some (((accept n r m).2.2, ()), (((accept n r m).1, ()), ((nm (accept n r m).2.1, ()), ()))) := by
  unfold m52
  simp only [m88_eq n r m 3 hs, Option.bind_some]
  unfold accept acceptable
  cases ho : toOK n r m 3
  · simp only [decide_true, decide_false, cond_true, cond_false, Option.bind_some, Bool.not_true, Bool.not_false, sumE, Bool.true_and, Bool.and_true, Bool.false_and, Bool.and_false, beq_self_eq_true, bne_self_eq_false, Bool.false_eq_true, if_false, m80_eq r hs]; rfl
  obtain ⟨C, _, _, _, _, _, mt1, mt2⟩ := toOK_iff.1 ho
  have hbc := chk_back (t := m.term) C mt2
  simp only [decide_true, decide_false, cond_true, cond_false, Option.bind_some, Bool.not_true, Bool.not_false, sumE, Bool.true_and, Bool.and_true, Bool.false_and, Bool.and_false, beq_self_eq_true, bne_self_eq_false, decide_neg]
  have e89 := m89_eq r m.term
  have hbs := shrt_back m.term hs
  have hbid := back_id r m.term
  have hbe : back r m.term = back r m.term := rfl
  generalize hbx : back r m.term = x at hbe hbs hbid hbc
  obtain ⟨kind, frm, to, mterm, prev, pterm, mcommit, ents, ok, ⟨⟩⟩ := m
  simp only [Msg.kind, Msg.frm, Msg.to, Msg.term, Msg.prev, Msg.pterm, Msg.commit, Msg.ents, Msg.ok, mg] at hm hbx e89 mt1 mt2 ⊢
  rcases Bool.eq_false_or_eq_true (decide (0 ≤ prev)) with h1 | h1 <;> simp only [h1, decide_true, decide_false, cond_true, cond_false, Option.bind_some, Bool.not_true, Bool.not_false, sumE, Bool.true_and, Bool.and_true, Bool.false_and, Bool.and_false, beq_self_eq_true, bne_self_eq_false]
  rotate_left
  · simp only [Bool.false_eq_true, if_false, m80_eq r hs]; rfl
  rcases Bool.eq_false_or_eq_true (decide (0 ≤ pterm)) with h2 | h2 <;> simp only [h2, decide_true, decide_false, cond_true, cond_false, Option.bind_some, Bool.not_true, Bool.not_false, sumE, Bool.true_and, Bool.and_true, Bool.false_and, Bool.and_false, beq_self_eq_true, bne_self_eq_false]
  rotate_left
  · simp only [Bool.false_eq_true, if_false, m80_eq r hs]; rfl
  rcases Bool.eq_false_or_eq_true (decide (0 ≤ mcommit)) with h3 | h3 <;> simp only [h3, decide_true, decide_false, cond_true, cond_false, Option.bind_some, Bool.not_true, Bool.not_false, sumE, Bool.true_and, Bool.and_true, Bool.false_and, Bool.and_false, beq_self_eq_true, bne_self_eq_false]
  rotate_left
  · simp only [Bool.false_eq_true, if_false, m80_eq r hs]; rfl
  simp only [if_true, m80_eq r hs, Option.bind_some, e89]
  have hp0 := of_decide_eq_true h1
  clear h1 h2 h3 ho
  refine bind_of ((), (z5, (z8, ((x, ()), ((r, ()), (((kind, frm, to, mterm, prev, pterm, mcommit, ents, ok, ()), ()), ())))))) ?_ ?_
  · rw [← hbx]
    unfold back
    generalize fol r mterm = y
    obtain ⟨id, term, voted, role, log, commit, votes, mtch, ⟨⟩⟩ := y
    simp only [Rep.id, Rep.term, Rep.voted, Rep.role, Rep.log, Rep.commit, Rep.votes, Rep.mtch, rp, beq_decide]
    by_cases c1 : role = 1
    · by_cases c2 : term = mterm
      · simp only [c1, c2, decide_true, decide_false, cond_true, cond_false, Option.bind_some, Bool.not_true, Bool.not_false, sumE, Bool.true_and, Bool.and_true, Bool.false_and, Bool.and_false, beq_self_eq_true, bne_self_eq_false, ne_eq, not_true_eq_false, not_false_eq_true, eq_self, and_self, if_true]
      · simp only [c1, c2, decide_true, decide_false, cond_true, cond_false, Option.bind_some, Bool.not_true, Bool.not_false, sumE, Bool.true_and, Bool.and_true, Bool.false_and, Bool.and_false, beq_self_eq_true, bne_self_eq_false, ne_eq, not_true_eq_false, not_false_eq_true, eq_self, and_false, if_false]
    · simp only [c1, decide_true, decide_false, cond_true, cond_false, Option.bind_some, Bool.not_true, Bool.not_false, sumE, Bool.true_and, Bool.and_true, Bool.false_and, Bool.and_false, beq_self_eq_true, bne_self_eq_false, ne_eq, not_true_eq_false, not_false_eq_true, eq_self, false_and, if_false]
  have hll := hbc.ll
  have hfx : ∀ q : MT, q = (kind, frm, to, mterm, prev, pterm, mcommit, ents, ok, ()) → fits x q = fits x (kind, frm, to, mterm, prev, pterm, mcommit, ents, ok, ()) := fun q e => by rw [e]
  generalize hff : fits x (kind, frm, to, mterm, prev, pterm, mcommit, ents, ok, ()) = f at hfx
  obtain ⟨id, term, voted, role, log, commit, votes, mtch, ⟨⟩⟩ := x
  simp only [Rep.id, Rep.term, Rep.voted, Rep.role, Rep.log, Rep.commit, Rep.votes, Rep.mtch, rp] at hbid hll
  refine bind_of ((f, ()), (z5, (z8, (((id, term, voted, role, log, commit, votes, mtch, ()), ()), ((r, ()), (((kind, frm, to, mterm, prev, pterm, mcommit, ents, ok, ()), ()), ())))))) ?_ ?_
  · rw [← hff]
    unfold fits
    simp only [Msg.kind, Msg.frm, Msg.to, Msg.term, Msg.prev, Msg.pterm, Msg.commit, Msg.ents, Msg.ok, mg, Rep.id, Rep.term, Rep.voted, Rep.role, Rep.log, Rep.commit, Rep.votes, Rep.mtch, rp, beq_decide, bne_decide]
    rcases Bool.eq_false_or_eq_true (decide (mterm = term)) with h1 | h1 <;> simp only [h1, decide_true, decide_false, cond_true, cond_false, Option.bind_some, Bool.not_true, Bool.not_false, sumE, Bool.true_and, Bool.and_true, Bool.false_and, Bool.and_false, beq_self_eq_true, bne_self_eq_false]
    rcases Bool.eq_false_or_eq_true (decide (role ≠ 2)) with h2 | h2 <;> simp only [h2, decide_true, decide_false, cond_true, cond_false, Option.bind_some, Bool.not_true, Bool.not_false, sumE, Bool.true_and, Bool.and_true, Bool.false_and, Bool.and_false, beq_self_eq_true, bne_self_eq_false]
    by_cases h3 : prev ≤ (log.length : Int)
    · simp only [decide_eq_true h3, decide_true, decide_false, cond_true, cond_false, Option.bind_some, Bool.not_true, Bool.not_false, sumE, Bool.true_and, Bool.and_true, Bool.false_and, Bool.and_false, beq_self_eq_true, bne_self_eq_false]
      by_cases h4 : prev = 0
      · simp only [decide_eq_true h4, decide_true, decide_false, cond_true, cond_false, Option.bind_some, Bool.not_true, Bool.not_false, sumE, Bool.true_and, Bool.and_true, Bool.false_and, Bool.and_false, beq_self_eq_true, bne_self_eq_false, Bool.true_or]
      · have hw : w64 (prev - 1) = prev - 1 := w64_id (by omega) (by omega)
        obtain ⟨y, hy⟩ := getD_some (l := log) (i := (prev - 1).toNat) (by omega)
        simp only [decide_eq_false h4, decide_true, decide_false, cond_true, cond_false, Option.bind_some, Bool.not_true, Bool.not_false, sumE, Bool.true_and, Bool.and_true, Bool.false_and, Bool.and_false, beq_self_eq_true, bne_self_eq_false, Bool.false_or, hw, rowAt_G, rowG_int (show 0 ≤ prev - 1 by omega) hy, ptermAt, if_pos (show prev > 0 by omega), hy, Option.map_some, Option.getD_some]
    · simp only [decide_eq_false h3, decide_true, decide_false, cond_true, cond_false, Option.bind_some, Bool.not_true, Bool.not_false, sumE, Bool.true_and, Bool.and_true, Bool.false_and, Bool.and_false, beq_self_eq_true, bne_self_eq_false]
  cases f
  · simp only [decide_true, decide_false, cond_true, cond_false, Option.bind_some, Bool.not_true, Bool.not_false, sumE, Bool.true_and, Bool.and_true, Bool.false_and, Bool.and_false, beq_self_eq_true, bne_self_eq_false, Bool.false_eq_true, if_false, hff, hbid]
  have hpl : prev ≤ (log.length : Int) := by
    simp only [fits, Bool.and_eq_true, decide_eq_true_eq, Msg.kind, Msg.frm, Msg.to, Msg.term, Msg.prev, Msg.pterm, Msg.commit, Msg.ents, Msg.ok, mg, Rep.id, Rep.term, Rep.voted, Rep.role, Rep.log, Rep.commit, Rep.votes, Rep.mtch, rp] at hff
    exact hff.1.2
  simp only [decide_true, decide_false, cond_true, cond_false, Option.bind_some, Bool.not_true, Bool.not_false, sumE, Bool.true_and, Bool.and_true, Bool.false_and, Bool.and_false, beq_self_eq_true, bne_self_eq_false, hff, if_true]
  have e94 := m94_eq log ents prev.toNat (by omega) (by omega) (by omega)
  rw [Int.toNat_of_nonneg hp0] at e94
  rw [e94]
  have hje := joined_end (e := ents) (show prev.toNat ≤ log.length by omega)
  have hjl : (joined log prev.toNat ents).1.length ≤ 4294967295 := by
    rw [joined_from]
    split
    · simp only; omega
    · simp; omega
  generalize joined log prev.toNat ents = j at hjl
  obtain ⟨jl, jk⟩ := j
  simp only [Option.bind_some, m85_eq jl mterm hjl]
  have hw : w64 (prev + (ents.length : Int)) = prev + (ents.length : Int) := w64_id (by omega) (by omega)
  refine bind_of ((!(logFits jl mterm && decide (commit ≤ (jk : Int))), ()), (z5, (z8, ((r, ()), (((4, r.id, frm, term, 0, 0, 0, false, ()), ()), (((id, term, voted, role, log, commit, votes, mtch, ()), ()), (((kind, frm, to, mterm, prev, pterm, mcommit, ents, ok, ()), ()), (jl, ())))))))) ?_ ?_
  · cases logFits jl mterm
    · simp only [decide_true, decide_false, cond_true, cond_false, Option.bind_some, Bool.not_true, Bool.not_false, sumE, Bool.true_and, Bool.and_true, Bool.false_and, Bool.and_false, beq_self_eq_true, bne_self_eq_false]
    · simp only [decide_true, decide_false, cond_true, cond_false, Option.bind_some, Bool.not_true, Bool.not_false, sumE, Bool.true_and, Bool.and_true, Bool.false_and, Bool.and_false, beq_self_eq_true, bne_self_eq_false]
      by_cases hc : commit ≤ (jk : Int)
      · simp only [decide_eq_true hc, decide_eq_false (show ¬ (jk : Int) < commit by omega), decide_true, decide_false, cond_true, cond_false, Option.bind_some, Bool.not_true, Bool.not_false, sumE, Bool.true_and, Bool.and_true, Bool.false_and, Bool.and_false, beq_self_eq_true, bne_self_eq_false]
      · simp only [decide_eq_false hc, decide_eq_true (show (jk : Int) < commit by omega), decide_true, decide_false, cond_true, cond_false, Option.bind_some, Bool.not_true, Bool.not_false, sumE, Bool.true_and, Bool.and_true, Bool.false_and, Bool.and_false, beq_self_eq_true, bne_self_eq_false]
  cases hlf : (logFits jl mterm && decide (commit ≤ (jk : Int)))
  · simp only [decide_true, decide_false, cond_true, cond_false, Option.bind_some, Bool.not_true, Bool.not_false, sumE, Bool.true_and, Bool.and_true, Bool.false_and, Bool.and_false, beq_self_eq_true, bne_self_eq_false, Bool.false_eq_true, if_false, m80_eq r hs]; rfl
  · simp only [decide_true, decide_false, cond_true, cond_false, Option.bind_some, Bool.not_true, Bool.not_false, sumE, Bool.true_and, Bool.and_true, Bool.false_and, Bool.and_false, beq_self_eq_true, bne_self_eq_false, if_true, hw, maxmin, hbid]

theorem m47_eq (n : Int) (r : RT) (m : MT) (hs : Shrt r) (hm : m.ents.length ≤ 1000000) : m47 ((n, r, m, ()), ()) = some (((accept n r m).2.2, ()), (((accept n r m).1, ()), ((nm (accept n r m).2.1, ()), ()))) := by
  unfold m47
  simp only [m78_eq n r m 3 hs, m76_eq r hs, Option.bind_some]
  unfold accept acceptable
  cases ho : toOK n r m 3
  · simp only [decide_true, decide_false, cond_true, cond_false, Option.bind_some, Bool.not_true, Bool.not_false, sumE, Bool.true_and, Bool.and_true, Bool.false_and, Bool.and_false, beq_self_eq_true, bne_self_eq_false, Bool.false_eq_true, if_false]; rfl
  obtain ⟨C, _, _, _, _, _, mt1, mt2⟩ := toOK_iff.1 ho
  have hbc := chk_back (t := m.term) C mt2
  simp only [decide_true, decide_false, cond_true, cond_false, Option.bind_some, Bool.not_true, Bool.not_false, sumE, Bool.true_and, Bool.and_true, Bool.false_and, Bool.and_false, beq_self_eq_true, bne_self_eq_false, decide_neg]
  have e79 := m79_eq r m.term mt2 (by have := C.t0; omega) (by have := C.t1; omega)
  have hbs := shrt_back m.term hs
  have hbid := back_id r m.term
  have hbe : back r m.term = back r m.term := rfl
  generalize hbx : back r m.term = x at hbe hbs hbid hbc
  obtain ⟨kind, frm, to, mterm, prev, pterm, mcommit, ents, ok, ⟨⟩⟩ := m
  simp only [Msg.kind, Msg.frm, Msg.to, Msg.term, Msg.prev, Msg.pterm, Msg.commit, Msg.ents, Msg.ok, mg] at hm hbx e79 mt1 mt2 ⊢
  rcases Bool.eq_false_or_eq_true (decide (0 ≤ prev)) with h1 | h1 <;> simp only [h1, decide_true, decide_false, cond_true, cond_false, Option.bind_some, Bool.not_true, Bool.not_false, sumE, Bool.true_and, Bool.and_true, Bool.false_and, Bool.and_false, beq_self_eq_true, bne_self_eq_false]
  rotate_left
  · simp only [Bool.false_eq_true, if_false]; rfl
  rcases Bool.eq_false_or_eq_true (decide (0 ≤ pterm)) with h2 | h2 <;> simp only [h2, decide_true, decide_false, cond_true, cond_false, Option.bind_some, Bool.not_true, Bool.not_false, sumE, Bool.true_and, Bool.and_true, Bool.false_and, Bool.and_false, beq_self_eq_true, bne_self_eq_false]
  rotate_left
  · simp only [Bool.false_eq_true, if_false]; rfl
  rcases Bool.eq_false_or_eq_true (decide (0 ≤ mcommit)) with h3 | h3 <;> simp only [h3, decide_true, decide_false, cond_true, cond_false, Option.bind_some, Bool.not_true, Bool.not_false, sumE, Bool.true_and, Bool.and_true, Bool.false_and, Bool.and_false, beq_self_eq_true, bne_self_eq_false]
  rotate_left
  · simp only [Bool.false_eq_true, if_false]; rfl
  simp only [if_true, m76_eq r hs, Option.bind_some]
  rw [show m79 (((r.id, r.term, r.voted, r.role, r.log, r.commit, r.votes, r.mtch, ()), mterm, ()), ()) = some ((), ((fol r mterm, ()), ())) from e79]
  simp only [Option.bind_some]
  have hp0 := of_decide_eq_true h1
  clear h1 h2 h3 ho
  refine bind_of ((), (z5, (z8, ((x, ()), ((cpR r).2.1, (((kind, frm, to, mterm, prev, pterm, mcommit, ents, ok, ()), ()), (cpR r).2.2)))))) ?_ ?_
  · rw [← hbx]
    unfold back
    generalize fol r mterm = y
    obtain ⟨id, term, voted, role, log, commit, votes, mtch, ⟨⟩⟩ := y
    simp only [Rep.id, Rep.term, Rep.voted, Rep.role, Rep.log, Rep.commit, Rep.votes, Rep.mtch, rp, beq_decide]
    by_cases c1 : role = 1
    · by_cases c2 : term = mterm
      · simp only [c1, c2, decide_true, decide_false, cond_true, cond_false, Option.bind_some, Bool.not_true, Bool.not_false, sumE, Bool.true_and, Bool.and_true, Bool.false_and, Bool.and_false, beq_self_eq_true, bne_self_eq_false, ne_eq, not_true_eq_false, not_false_eq_true, eq_self, and_self, if_true]
      · simp only [c1, c2, decide_true, decide_false, cond_true, cond_false, Option.bind_some, Bool.not_true, Bool.not_false, sumE, Bool.true_and, Bool.and_true, Bool.false_and, Bool.and_false, beq_self_eq_true, bne_self_eq_false, ne_eq, not_true_eq_false, not_false_eq_true, eq_self, and_false, if_false]
    · simp only [c1, decide_true, decide_false, cond_true, cond_false, Option.bind_some, Bool.not_true, Bool.not_false, sumE, Bool.true_and, Bool.and_true, Bool.false_and, Bool.and_false, beq_self_eq_true, bne_self_eq_false, ne_eq, not_true_eq_false, not_false_eq_true, eq_self, false_and, if_false]
  have hll := hbc.ll
  have hso := hbc.so
  have hcc := hbc.c1
  have e92 := m92_eq x (kind, frm, to, mterm, prev, pterm, mcommit, ents, ok, ()) (by omega) hp0
  simp only [e92, Option.bind_some]
  cases hff : fits x (kind, frm, to, mterm, prev, pterm, mcommit, ents, ok, ())
  · simp only [decide_true, decide_false, cond_true, cond_false, Option.bind_some, Bool.not_true, Bool.not_false, sumE, Bool.true_and, Bool.and_true, Bool.false_and, Bool.and_false, beq_self_eq_true, bne_self_eq_false, Bool.false_eq_true, if_false, ← hbid, Rep.id, Rep.term, Rep.voted, Rep.role, Rep.log, Rep.commit, Rep.votes, Rep.mtch, rp]
  have hpl : prev ≤ (x.log.length : Int) ∧ mterm = x.term := by
    simp only [fits, Bool.and_eq_true, decide_eq_true_eq, Msg.kind, Msg.frm, Msg.to, Msg.term, Msg.prev, Msg.pterm, Msg.commit, Msg.ents, Msg.ok, mg, Rep.id, Rep.term, Rep.voted, Rep.role, Rep.log, Rep.commit, Rep.votes, Rep.mtch, rp] at hff
    exact ⟨hff.1.2, hff.1.1.1⟩
  have e93 := m93_eq x (kind, frm, to, mterm, prev, pterm, mcommit, ents, ok, ()) (by omega) (show ents.length ≤ 1000000000 by omega) hp0 hpl.1
  simp only [decide_true, decide_false, cond_true, cond_false, Option.bind_some, Bool.not_true, Bool.not_false, sumE, Bool.true_and, Bool.and_true, Bool.false_and, Bool.and_false, beq_self_eq_true, bne_self_eq_false, if_true, e93]
  have hje := joined_end (e := ents) (show prev.toNat ≤ x.log.length by omega)
  have hw : w64 (prev + (ents.length : Int)) = prev + (ents.length : Int) := w64_id (by omega) (by omega)
  unfold joinedE
  simp only [Msg.kind, Msg.frm, Msg.to, Msg.term, Msg.prev, Msg.pterm, Msg.commit, Msg.ents, Msg.ok, mg]
  have hjf := joined_from x.log ents prev.toNat
  rw [hjf]
  by_cases hall : from_ x.log prev.toNat ents 0 = ents.length
  · have h1 : logFits x.log mterm = true := by
      simp only [logFits, Bool.and_eq_true, decide_eq_true_eq]
      exact ⟨by rw [hpl.2]; exact hso, hll⟩
    simp only [if_pos hall, h1, decide_eq_true hcc, decide_true, decide_false, cond_true, cond_false, Option.bind_some, Bool.not_true, Bool.not_false, sumE, Bool.true_and, Bool.and_true, Bool.false_and, Bool.and_false, beq_self_eq_true, bne_self_eq_false, if_true, hw, ← hbid]
    simp only [maxmin, Rep.id, Rep.term, Rep.voted, Rep.role, Rep.log, Rep.commit, Rep.votes, Rep.mtch, rp]
  · simp only [if_neg hall]
    unfold logFits
    generalize hjl : (x.log.take (prev.toNat + from_ x.log prev.toNat ents 0) ++ ents.drop (from_ x.log prev.toNat ents 0)) = jl
    generalize prev.toNat + from_ x.log prev.toNat ents 0 = jk
    cases hsr : srt mterm 1 jl
    · simp only [Bool.false_eq_true, if_false, decide_true, decide_false, cond_true, cond_false, Option.bind_some, Bool.not_true, Bool.not_false, sumE, Bool.true_and, Bool.and_true, Bool.false_and, Bool.and_false, beq_self_eq_true, bne_self_eq_false]; rfl
    · simp only [if_true, decide_true, decide_false, cond_true, cond_false, Option.bind_some, Bool.not_true, Bool.not_false, sumE, Bool.true_and, Bool.and_true, Bool.false_and, Bool.and_false, beq_self_eq_true, bne_self_eq_false]
      rcases Bool.eq_false_or_eq_true (decide ((jk : Int) ≥ x.commit)) with a1 | a1
      · rcases Bool.eq_false_or_eq_true (decide (jl.length ≤ 256)) with a2 | a2
        · have a1' : decide (x.commit ≤ (jk : Int)) = true := a1
          simp only [a1, a1', a2, decide_true, decide_false, cond_true, cond_false, Option.bind_some, Bool.not_true, Bool.not_false, sumE, Bool.true_and, Bool.and_true, Bool.false_and, Bool.and_false, beq_self_eq_true, bne_self_eq_false, if_true, hw, ← hbid]
          simp only [maxmin, Rep.id, Rep.term, Rep.voted, Rep.role, Rep.log, Rep.commit, Rep.votes, Rep.mtch, rp]
        · simp only [a1, a2, decide_true, decide_false, cond_true, cond_false, Option.bind_some, Bool.not_true, Bool.not_false, sumE, Bool.true_and, Bool.and_true, Bool.false_and, Bool.and_false, beq_self_eq_true, bne_self_eq_false, Bool.false_eq_true, if_false]; rfl
      · have a1' : decide (x.commit ≤ (jk : Int)) = false := a1
        simp only [a1, a1', decide_true, decide_false, cond_true, cond_false, Option.bind_some, Bool.not_true, Bool.not_false, sumE, Bool.true_and, Bool.and_true, Bool.false_and, Bool.and_false, beq_self_eq_true, bne_self_eq_false, Bool.false_eq_true, if_false]; rfl

end Go.Proofs.Ytfbikpbejkgegaa

namespace Go.Proofs.Ytfbikpbejkgegaa
open Go Go.Abs Go.Raft
theorem have_cons (i x : Int) (l : List Int) : have_ (x :: l) i = (if x ≥ i then 1 else 0) + have_ l i := by
  unfold have_
  rw [List.countP_cons]
  by_cases h : x ≥ i <;> simp [h] <;> omega

theorem loop53a (id term voted role commit : Int) (log : Log OpT) (votes : List Bool) (mtch : List Int) (n i : Int) (hv : (mtch.length : Int) = n) (h5 : n ≤ 5) : ∀ (k j : Nat) (c : Int), j + k = mtch.length → 0 ≤ c → c ≤ j →
    loopT l53_0_14 (((j : Int), c, i, n, ()), (((id, term, voted, role, commit, ()), ()), (z5, (log, (votes, (mtch, ())))))) = some ((i, n, c + have_ (mtch.drop j) i, ()), (z5, (((id, term, voted, role, commit, ()), ()), (log, (votes, (mtch, ())))))) := by
  intro k
  induction k with
  | zero =>
    intro j c h _ _
    rw [List.drop_eq_nil_of_le (by omega)]
    refine loopT_inr ?_
    have : ¬ (j : Int) < n := by omega
    simp only [l53_0_14, this, decide_true, decide_false, cond_true, cond_false, Option.bind_some, Bool.not_true, Bool.not_false, sumE, Bool.true_and, Bool.and_true, Bool.false_and, Bool.and_false, beq_self_eq_true, bne_self_eq_false]
    simp [have_]
  | succ k ih =>
    intro j c h c0 c1
    obtain ⟨e, he, hd⟩ := drop_at (l := mtch) (i := j) (by omega)
    have hlt : (j : Int) < n := by omega
    have hb : (0 : Int) ≤ j ∧ (j : Int) < (mtch.length : Int) := by omega
    rw [hd, have_cons]
    have hc : w64 (c + 1) = c + 1 := w64_id (by omega) (by omega)
    by_cases hge : e ≥ i
    · rw [show loopT l53_0_14 (((j : Int), c, i, n, ()), (((id, term, voted, role, commit, ()), ()), (z5, (log, (votes, (mtch, ())))))) = loopT l53_0_14 ((((j + 1 : Nat) : Int), c + 1, i, n, ()), (((id, term, voted, role, commit, ()), ()), (z5, (log, (votes, (mtch, ())))))) from loopT_inl (by
        simp only [l53_0_14, hb, and_self, Int.toNat_natCast, he, hlt, hge, decide_true, decide_false, cond_true, cond_false, Option.bind_some, Bool.not_true, Bool.not_false, sumE, Bool.true_and, Bool.and_true, Bool.false_and, Bool.and_false, beq_self_eq_true, bne_self_eq_false, w64_nat (show j ≤ 4294967296 by omega), hc])]
      rw [ih (j + 1) (c + 1) (by omega) (by omega) (by omega), if_pos hge]
      rw [show c + 1 + have_ (mtch.drop (j + 1)) i = c + (1 + have_ (mtch.drop (j + 1)) i) by omega]
    · rw [show loopT l53_0_14 (((j : Int), c, i, n, ()), (((id, term, voted, role, commit, ()), ()), (z5, (log, (votes, (mtch, ())))))) = loopT l53_0_14 ((((j + 1 : Nat) : Int), c, i, n, ()), (((id, term, voted, role, commit, ()), ()), (z5, (log, (votes, (mtch, ())))))) from loopT_inl (by
        simp only [l53_0_14, hb, and_self, Int.toNat_natCast, he, hlt, hge, decide_true, decide_false, cond_true, cond_false, Option.bind_some, Bool.not_true, Bool.not_false, sumE, Bool.true_and, Bool.and_true, Bool.false_and, Bool.and_false, beq_self_eq_true, bne_self_eq_false, w64_nat (show j ≤ 4294967296 by omega)])]
      rw [ih (j + 1) c (by omega) (by omega) (by omega), if_neg hge]
      rw [Int.zero_add]

theorem loop53b (id term voted role commit : Int) (log : Log OpT) (votes v0 : List Bool) (mtch m0 : List Int) (n : Int) (hv : (mtch.length : Int) = n) (h1 : 1 ≤ n) (h5 : n ≤ 5) (hl : log.length ≤ 4294967295) (hc : 0 ≤ commit) : ∀ (i : Nat), i ≤ log.length →
    loopT l53_0_10 (((i : Int), n, ()), (((id, term, voted, role, commit, ()), ()), (z5, (log, (votes, (mtch, ())))))) = some ((), (z5, (((id, term, voted, role, newCommit n (id, term, voted, role, log, commit, v0, m0, ()) mtch i, ()), ()), (log, (votes, (mtch, ())))))) := by
  intro i
  induction i with
  | zero =>
    intro _
    refine loopT_inr ?_
    have : ¬ ((0 : Nat) : Int) > commit := by omega
    simp only [l53_0_10, this, decide_true, decide_false, cond_true, cond_false, Option.bind_some, Bool.not_true, Bool.not_false, sumE, Bool.true_and, Bool.and_true, Bool.false_and, Bool.and_false, beq_self_eq_true, bne_self_eq_false, newCommit, Rep.id, Rep.term, Rep.voted, Rep.role, Rep.log, Rep.commit, Rep.votes, Rep.mtch, rp]
  | succ i ih =>
    intro hi
    unfold newCommit
    simp only [Rep.id, Rep.term, Rep.voted, Rep.role, Rep.log, Rep.commit, Rep.votes, Rep.mtch, rp]
    by_cases hgt : ((i + 1 : Nat) : Int) > commit
    · have hin := loop53a id term voted role commit log votes mtch n ((i + 1 : Nat) : Int) hv h5 mtch.length 0 0 (by omega) (by omega) (by omega)
      rw [List.drop_zero, Int.zero_add] at hin
      have hw : w64 (((i + 1 : Nat) : Int) - 1) = (i : Int) := by rw [w64_id (by omega) (by omega)]; omega
      obtain ⟨e, he⟩ := getD_some (l := log) (i := i) (by omega)
      have hb : (0 : Int) ≤ (i : Int) ∧ (i : Int) < (log.length : Int) := by omega
      have hin' : loopT l53_0_14 ((0, (0, (((i + 1 : Nat) : Int), (n, ())))), (((id, term, voted, role, commit, ()), ()), (z5, (log, (votes, (mtch, ())))))) = _ := hin
      simp only [if_pos hgt, he, Option.map_some, Option.getD_some]
      by_cases hq : have_ mtch ((i + 1 : Nat) : Int) ≥ quorum n
      · by_cases ht : e.1 = term
        · rw [if_pos ⟨hq, ht⟩]
          refine loopT_inr ?_
          simp only [l53_0_10, decide_eq_true hgt, decide_true, decide_false, cond_true, cond_false, Option.bind_some, Bool.not_true, Bool.not_false, sumE, Bool.true_and, Bool.and_true, Bool.false_and, Bool.and_false, beq_self_eq_true, bne_self_eq_false, hin', m29_eq, decide_eq_true hq, hw, hb, and_self, Int.toNat_natCast, he, beq_decide, decide_eq_true ht]
        · rw [if_neg (fun h => ht h.2)]
          rw [show loopT l53_0_10 ((((i + 1 : Nat) : Int), n, ()), (((id, term, voted, role, commit, ()), ()), (z5, (log, (votes, (mtch, ())))))) = loopT l53_0_10 (((i : Int), n, ()), (((id, term, voted, role, commit, ()), ()), (z5, (log, (votes, (mtch, ())))))) from loopT_inl (by
            simp only [l53_0_10, decide_eq_true hgt, decide_true, decide_false, cond_true, cond_false, Option.bind_some, Bool.not_true, Bool.not_false, sumE, Bool.true_and, Bool.and_true, Bool.false_and, Bool.and_false, beq_self_eq_true, bne_self_eq_false, hin', m29_eq, decide_eq_true hq, hw, hb, and_self, Int.toNat_natCast, he, beq_decide, decide_eq_false ht])]
          exact ih (by omega)
      · rw [if_neg (fun h => hq h.1)]
        rw [show loopT l53_0_10 ((((i + 1 : Nat) : Int), n, ()), (((id, term, voted, role, commit, ()), ()), (z5, (log, (votes, (mtch, ())))))) = loopT l53_0_10 (((i : Int), n, ()), (((id, term, voted, role, commit, ()), ()), (z5, (log, (votes, (mtch, ())))))) from loopT_inl (by
          simp only [l53_0_10, decide_eq_true hgt, decide_true, decide_false, cond_true, cond_false, Option.bind_some, Bool.not_true, Bool.not_false, sumE, Bool.true_and, Bool.and_true, Bool.false_and, Bool.and_false, beq_self_eq_true, bne_self_eq_false, hin', m29_eq, decide_eq_false hq, hw])]
        exact ih (by omega)
    · rw [if_neg hgt]
      refine loopT_inr ?_
      simp only [l53_0_10, decide_eq_false hgt, decide_true, decide_false, cond_true, cond_false, Option.bind_some, Bool.not_true, Bool.not_false, sumE, Bool.true_and, Bool.and_true, Bool.false_and, Bool.and_false, beq_self_eq_true, bne_self_eq_false]

theorem maxe (e p : Int) : (if p > e then p else e) = max e p := by split <;> omega

theorem m53_eq (n : Int) (r : RT) (m : MT) (hs : Shrt r) : m53 ((n, r, m, ()), ()) = some ((), ((appended n r m, ()), ())) := by
  unfold m53 appended
  simp only [m88_eq n r m 4 hs, m80_eq r hs, Option.bind_some]
  cases ho : toOK n r m 4
  · simp only [decide_true, decide_false, cond_true, cond_false, Option.bind_some, Bool.not_true, Bool.not_false, sumE, Bool.true_and, Bool.and_true, Bool.false_and, Bool.and_false, beq_self_eq_true, bne_self_eq_false]; rfl
  obtain ⟨C, _, _, f0, f1, _, _, ht⟩ := toOK_iff.1 ho
  have h1 := C.n1; have h5 := C.n5; have i0 := C.i0; have i1 := C.i1; have c0 := C.c0
  have ro := @role2_iff _ n r
  have cro := C.ro
  simp only [decide_true, decide_false, cond_true, cond_false, Option.bind_some, Bool.not_true, Bool.not_false, sumE, Bool.true_and, Bool.and_true, Bool.false_and, Bool.and_false, beq_self_eq_true, bne_self_eq_false, if_true]
  obtain ⟨kind, frm, to, mterm, prev, pterm, mcommit, ents, ok, ⟨⟩⟩ := m
  simp only [Msg.kind, Msg.frm, Msg.to, Msg.term, Msg.prev, Msg.pterm, Msg.commit, Msg.ents, Msg.ok, mg] at f0 f1 ⊢
  rw [show m89 (((r.id, r.term, r.voted, r.role, r.log, r.commit, r.votes, r.mtch, ()), mterm, ()), ()) = some ((), ((fol r mterm, ()), ())) from m89_eq r mterm]
  obtain ⟨id, term, voted, role, log, commit, votes, mtch, ⟨⟩⟩ := r
  obtain ⟨s1, s2, s3⟩ := hs
  simp only [Rep.id, Rep.term, Rep.voted, Rep.role, Rep.log, Rep.commit, Rep.votes, Rep.mtch, rp] at s1 s2 s3 i0 i1 ro c0
  simp only [Rep.id, Rep.term, Rep.voted, Rep.role, Rep.log, Rep.commit, Rep.votes, Rep.mtch, rp, bne_decide]
  by_cases hgt : mterm > term
  · simp only [hgt, decide_true, decide_false, cond_true, cond_false, Option.bind_some, Bool.not_true, Bool.not_false, sumE, Bool.true_and, Bool.and_true, Bool.false_and, Bool.and_false, beq_self_eq_true, bne_self_eq_false, if_true]
  simp only [hgt, decide_true, decide_false, cond_true, cond_false, Option.bind_some, Bool.not_true, Bool.not_false, sumE, Bool.true_and, Bool.and_true, Bool.false_and, Bool.and_false, beq_self_eq_true, bne_self_eq_false, if_false]
  by_cases hr : role = 2
  · subst hr
    by_cases hmt : mterm = term
    · cases ok
      · simp only [hmt, ne_eq, not_true_eq_false, not_false_eq_true, eq_self, decide_true, decide_false, cond_true, cond_false, Option.bind_some, Bool.not_true, Bool.not_false, sumE, Bool.true_and, Bool.and_true, Bool.false_and, Bool.and_false, beq_self_eq_true, bne_self_eq_false, Bool.false_eq_true, and_false, false_and, if_false]
      · simp only [hmt, ne_eq, not_true_eq_false, not_false_eq_true, eq_self, decide_true, decide_false, cond_true, cond_false, Option.bind_some, Bool.not_true, Bool.not_false, sumE, Bool.true_and, Bool.and_true, Bool.false_and, Bool.and_false, beq_self_eq_true, bne_self_eq_false, m45_eq, true_and, if_true]
        cases hin : inn prev 0 (log.length : Int)
        · have : ¬ (0 ≤ prev ∧ prev ≤ (log.length : Int)) := fun h => by rw [inn_iff.2 h] at hin; cases hin
          simp only [this, decide_true, decide_false, cond_true, cond_false, Option.bind_some, Bool.not_true, Bool.not_false, sumE, Bool.true_and, Bool.and_true, Bool.false_and, Bool.and_false, beq_self_eq_true, bne_self_eq_false, if_false]
        · have hpr := inn_iff.1 hin
          obtain ⟨v1, v2, v3, v4, v5⟩ := (ro rfl).1 cro
          have a2 : (0 : Int) ≤ frm ∧ frm < (mtch.length : Int) := by omega
          have a3 : frm.toNat < mtch.length := by omega
          obtain ⟨e, he⟩ := getD_some a3
          simp only [hpr, and_self, if_true, decide_true, decide_false, cond_true, cond_false, Option.bind_some, Bool.not_true, Bool.not_false, sumE, Bool.true_and, Bool.and_true, Bool.false_and, Bool.and_false, beq_self_eq_true, bne_self_eq_false, a2, a3, he, maxe]
          have hv' : ((mtch.set frm.toNat (max e prev)).length : Int) = n := by simpa using v3
          have := loop53b id term voted 2 commit log votes votes (mtch.set frm.toNat (max e prev)) mtch n hv' h1 h5 s1 c0 log.length (Nat.le_refl _)
          rw [show loopT l53_0_10 (((log.length : Int), (n, ())), (((id, (term, (voted, (2, (commit, ()))))), ()), (((0, (0, (0, (0, (0, ()))))), ()), (log, (votes, ((mtch.set frm.toNat (max e prev)), ())))))) = _ from this]
          unfold appendedR
          simp only [Rep.id, Rep.term, Rep.voted, Rep.role, Rep.log, Rep.commit, Rep.votes, Rep.mtch, rp, Msg.kind, Msg.frm, Msg.to, Msg.term, Msg.prev, Msg.pterm, Msg.commit, Msg.ents, Msg.ok, mg, Option.bind_some, he, Option.getD_some]
    · simp only [hmt, ne_eq, not_true_eq_false, not_false_eq_true, eq_self, decide_true, decide_false, cond_true, cond_false, Option.bind_some, Bool.not_true, Bool.not_false, sumE, Bool.true_and, Bool.and_true, Bool.false_and, Bool.and_false, beq_self_eq_true, bne_self_eq_false, false_and, and_false, if_false]
  · simp only [hr, ne_eq, not_true_eq_false, not_false_eq_true, eq_self, decide_true, decide_false, cond_true, cond_false, Option.bind_some, Bool.not_true, Bool.not_false, sumE, Bool.true_and, Bool.and_true, Bool.false_and, Bool.and_false, beq_self_eq_true, bne_self_eq_false, false_and, if_false]

theorem loop44a (id term voted role commit : Int) (log : Log OpT) (votes : List Bool) (mtch : List Int) (n i : Int) (hl : mtch.length ≤ 4294967295) : ∀ (k j : Nat) (c : Int), j + k = mtch.length → 0 ≤ c → c ≤ j →
    loopT l44_0_14 (((j : Int), c, i, n, (mtch.length : Int), ()), (mtch, (((id, term, voted, role, commit, ()), ()), (z5, (log, (votes, ())))))) = some ((n, i, c + have_ (mtch.drop j) i, ()), (((id, term, voted, role, commit, ()), ()), (z5, (log, (votes, (mtch, ())))))) := by
  intro k
  induction k with
  | zero =>
    intro j c h _ _
    rw [List.drop_eq_nil_of_le (by omega)]
    refine loopT_inr ?_
    have : ¬ (j : Int) < (mtch.length : Int) := by omega
    simp only [l44_0_14, this, decide_true, decide_false, cond_true, cond_false, Option.bind_some, Bool.not_true, Bool.not_false, sumE, Bool.true_and, Bool.and_true, Bool.false_and, Bool.and_false, beq_self_eq_true, bne_self_eq_false]
    simp [have_]
  | succ k ih =>
    intro j c h c0 c1
    obtain ⟨e, he, hd⟩ := drop_at (l := mtch) (i := j) (by omega)
    have hlt : (j : Int) < (mtch.length : Int) := by omega
    have hb : (0 : Int) ≤ j ∧ (j : Int) < (mtch.length : Int) := by omega
    rw [hd, have_cons]
    have hc : w64 (c + 1) = c + 1 := w64_id (by omega) (by omega)
    by_cases hge : e ≥ i
    · rw [show loopT l44_0_14 (((j : Int), c, i, n, (mtch.length : Int), ()), (mtch, (((id, term, voted, role, commit, ()), ()), (z5, (log, (votes, ())))))) = loopT l44_0_14 ((((j + 1 : Nat) : Int), c + 1, i, n, (mtch.length : Int), ()), (mtch, (((id, term, voted, role, commit, ()), ()), (z5, (log, (votes, ())))))) from loopT_inl (by
        simp only [l44_0_14, hb, and_self, Int.toNat_natCast, he, hlt, hge, decide_true, decide_false, cond_true, cond_false, Option.bind_some, Bool.not_true, Bool.not_false, sumE, Bool.true_and, Bool.and_true, Bool.false_and, Bool.and_false, beq_self_eq_true, bne_self_eq_false, w64_nat (show j ≤ 4294967296 by omega), hc])]
      rw [ih (j + 1) (c + 1) (by omega) (by omega) (by omega), if_pos hge]
      rw [show c + 1 + have_ (mtch.drop (j + 1)) i = c + (1 + have_ (mtch.drop (j + 1)) i) by omega]
    · rw [show loopT l44_0_14 (((j : Int), c, i, n, (mtch.length : Int), ()), (mtch, (((id, term, voted, role, commit, ()), ()), (z5, (log, (votes, ())))))) = loopT l44_0_14 ((((j + 1 : Nat) : Int), c, i, n, (mtch.length : Int), ()), (mtch, (((id, term, voted, role, commit, ()), ()), (z5, (log, (votes, ())))))) from loopT_inl (by
        simp only [l44_0_14, hb, and_self, Int.toNat_natCast, he, hlt, hge, decide_true, decide_false, cond_true, cond_false, Option.bind_some, Bool.not_true, Bool.not_false, sumE, Bool.true_and, Bool.and_true, Bool.false_and, Bool.and_false, beq_self_eq_true, bne_self_eq_false, w64_nat (show j ≤ 4294967296 by omega)])]
      rw [ih (j + 1) c (by omega) (by omega) (by omega), if_neg hge]
      rw [Int.zero_add]

theorem loop44b (id term voted role : Int) (log : Log OpT) (votes v0 : List Bool) (mtch m0 : List Int) (n : Int) (hv : mtch.length ≤ 4294967295) (hl : log.length ≤ 4294967295) : ∀ (i : Nat) (commit : Int), 0 ≤ commit → i ≤ log.length →
    loopT l44_0_10 (((i : Int), n, ()), (((id, term, voted, role, commit, ()), ()), (z5, (log, (votes, (mtch, ())))))) = some ((), (z5, (((id, term, voted, role, newCommit n (id, term, voted, role, log, commit, v0, m0, ()) mtch i, ()), ()), (log, (votes, (mtch, ())))))) := by
  have stop : ∀ (i : Nat) (commit : Int), ¬ (i : Int) > commit → loopT l44_0_10 (((i : Int), n, ()), (((id, term, voted, role, commit, ()), ()), (z5, (log, (votes, (mtch, ())))))) = some ((), (z5, (((id, term, voted, role, commit, ()), ()), (log, (votes, (mtch, ())))))) := by
    intro i commit hgt
    refine loopT_inr ?_
    simp only [l44_0_10, decide_eq_false hgt, decide_true, decide_false, cond_true, cond_false, Option.bind_some, Bool.not_true, Bool.not_false, sumE, Bool.true_and, Bool.and_true, Bool.false_and, Bool.and_false, beq_self_eq_true, bne_self_eq_false]
  intro i
  induction i with
  | zero =>
    intro commit hc _
    rw [stop 0 commit (by omega)]
    simp only [newCommit, Rep.id, Rep.term, Rep.voted, Rep.role, Rep.log, Rep.commit, Rep.votes, Rep.mtch, rp]
  | succ i ih =>
    intro commit hc hi
    unfold newCommit
    simp only [Rep.id, Rep.term, Rep.voted, Rep.role, Rep.log, Rep.commit, Rep.votes, Rep.mtch, rp]
    by_cases hgt : ((i + 1 : Nat) : Int) > commit
    · have hin := loop44a id term voted role commit log votes mtch n ((i + 1 : Nat) : Int) hv mtch.length 0 0 (by omega) (by omega) (by omega)
      rw [List.drop_zero, Int.zero_add] at hin
      have hw : w64 (((i + 1 : Nat) : Int) - 1) = (i : Int) := by rw [w64_id (by omega) (by omega)]; omega
      obtain ⟨e, he⟩ := getD_some (l := log) (i := i) (by omega)
      have hb : (0 : Int) ≤ (i : Int) ∧ (i : Int) < (log.length : Int) := by omega
      have hin' : loopT l44_0_14 ((0, (0, (((i + 1 : Nat) : Int), (n, ((mtch.length : Int), ()))))), (mtch, (((id, term, voted, role, commit, ()), ()), (z5, (log, (votes, ())))))) = _ := hin
      simp only [if_pos hgt, he, Option.map_some, Option.getD_some]
      by_cases hq : have_ mtch ((i + 1 : Nat) : Int) ≥ quorum n
      · by_cases ht : e.1 = term
        · rw [if_pos ⟨hq, ht⟩]
          rw [show loopT l44_0_10 ((((i + 1 : Nat) : Int), n, ()), (((id, term, voted, role, commit, ()), ()), (z5, (log, (votes, (mtch, ())))))) = loopT l44_0_10 (((i : Int), n, ()), (((id, term, voted, role, ((i + 1 : Nat) : Int), ()), ()), (z5, (log, (votes, (mtch, ())))))) from loopT_inl (by
            simp only [l44_0_10, decide_eq_true hgt, decide_true, decide_false, cond_true, cond_false, Option.bind_some, Bool.not_true, Bool.not_false, sumE, Bool.true_and, Bool.and_true, Bool.false_and, Bool.and_false, beq_self_eq_true, bne_self_eq_false, hin', m28_eq, decide_eq_true hq, hw, hb, and_self, Int.toNat_natCast, he, beq_decide, decide_eq_true ht])]
          exact stop i _ (by omega)
        · rw [if_neg (fun h => ht h.2)]
          rw [show loopT l44_0_10 ((((i + 1 : Nat) : Int), n, ()), (((id, term, voted, role, commit, ()), ()), (z5, (log, (votes, (mtch, ())))))) = loopT l44_0_10 (((i : Int), n, ()), (((id, term, voted, role, commit, ()), ()), (z5, (log, (votes, (mtch, ())))))) from loopT_inl (by
            simp only [l44_0_10, decide_eq_true hgt, decide_true, decide_false, cond_true, cond_false, Option.bind_some, Bool.not_true, Bool.not_false, sumE, Bool.true_and, Bool.and_true, Bool.false_and, Bool.and_false, beq_self_eq_true, bne_self_eq_false, hin', m28_eq, decide_eq_true hq, hw, hb, and_self, Int.toNat_natCast, he, beq_decide, decide_eq_false ht])]
          exact ih commit hc (by omega)
      · rw [if_neg (fun h => hq h.1)]
        rw [show loopT l44_0_10 ((((i + 1 : Nat) : Int), n, ()), (((id, term, voted, role, commit, ()), ()), (z5, (log, (votes, (mtch, ())))))) = loopT l44_0_10 (((i : Int), n, ()), (((id, term, voted, role, commit, ()), ()), (z5, (log, (votes, (mtch, ())))))) from loopT_inl (by
          simp only [l44_0_10, decide_eq_true hgt, decide_true, decide_false, cond_true, cond_false, Option.bind_some, Bool.not_true, Bool.not_false, sumE, Bool.true_and, Bool.and_true, Bool.false_and, Bool.and_false, beq_self_eq_true, bne_self_eq_false, hin', m28_eq, decide_eq_false hq, hw])]
        exact ih commit hc (by omega)
    · rw [if_neg hgt]
      exact stop (i + 1) commit hgt

theorem m44_eq (n : Int) (r : RT) (m : MT) (hs : Shrt r) : m44 ((n, r, m, ()), ()) = some ((), ((appended n r m, ()), ())) := by
  unfold m44 appended
  simp only [m76_eq r hs, Option.bind_some]
  rw [show m78 ((n, (r.id, r.term, r.voted, r.role, r.log, r.commit, r.votes, r.mtch, ()), m, 4, ()), ()) = some ((toOK n r m 4, ()), ()) from m78_eq n r m 4 hs]
  cases ho : toOK n r m 4
  · simp only [decide_true, decide_false, cond_true, cond_false, Option.bind_some, Bool.not_true, Bool.not_false, sumE, Bool.true_and, Bool.and_true, Bool.false_and, Bool.and_false, beq_self_eq_true, bne_self_eq_false]; rfl
  obtain ⟨C, _, _, f0, f1, _, _, ht⟩ := toOK_iff.1 ho
  have h1 := C.n1; have h5 := C.n5; have i0 := C.i0; have i1 := C.i1; have c0 := C.c0; have t0 := C.t0; have t1 := C.t1
  have ro := @role2_iff _ n r
  have cro := C.ro
  simp only [decide_true, decide_false, cond_true, cond_false, Option.bind_some, Bool.not_true, Bool.not_false, sumE, Bool.true_and, Bool.and_true, Bool.false_and, Bool.and_false, beq_self_eq_true, bne_self_eq_false, if_true]
  obtain ⟨kind, frm, to, mterm, prev, pterm, mcommit, ents, ok, ⟨⟩⟩ := m
  simp only [Msg.kind, Msg.frm, Msg.to, Msg.term, Msg.prev, Msg.pterm, Msg.commit, Msg.ents, Msg.ok, mg] at f0 f1 ht ⊢
  rw [show m79 (((r.id, r.term, r.voted, r.role, r.log, r.commit, r.votes, r.mtch, ()), mterm, ()), ()) = some ((), ((fol r mterm, ()), ())) from m79_eq r mterm ht (by omega) (by omega)]
  obtain ⟨id, term, voted, role, log, commit, votes, mtch, ⟨⟩⟩ := r
  obtain ⟨s1, s2, s3⟩ := hs
  simp only [Rep.id, Rep.term, Rep.voted, Rep.role, Rep.log, Rep.commit, Rep.votes, Rep.mtch, rp] at s1 s2 s3 i0 i1 ro c0
  simp only [Rep.id, Rep.term, Rep.voted, Rep.role, Rep.log, Rep.commit, Rep.votes, Rep.mtch, rp, bne_decide]
  by_cases hgt : mterm > term
  · simp only [hgt, decide_true, decide_false, cond_true, cond_false, Option.bind_some, Bool.not_true, Bool.not_false, sumE, Bool.true_and, Bool.and_true, Bool.false_and, Bool.and_false, beq_self_eq_true, bne_self_eq_false, if_true]
  simp only [hgt, decide_true, decide_false, cond_true, cond_false, Option.bind_some, Bool.not_true, Bool.not_false, sumE, Bool.true_and, Bool.and_true, Bool.false_and, Bool.and_false, beq_self_eq_true, bne_self_eq_false, if_false]
  by_cases hr : role = 2
  · subst hr
    by_cases hmt : mterm = term
    · cases ok
      · simp only [hmt, ne_eq, not_true_eq_false, not_false_eq_true, eq_self, decide_true, decide_false, cond_true, cond_false, Option.bind_some, Bool.not_true, Bool.not_false, sumE, Bool.true_and, Bool.and_true, Bool.false_and, Bool.and_false, beq_self_eq_true, bne_self_eq_false, Bool.false_eq_true, and_false, false_and, if_false]
      · simp only [hmt, ne_eq, not_true_eq_false, not_false_eq_true, eq_self, decide_true, decide_false, cond_true, cond_false, Option.bind_some, Bool.not_true, Bool.not_false, sumE, Bool.true_and, Bool.and_true, Bool.false_and, Bool.and_false, beq_self_eq_true, bne_self_eq_false, true_and, if_true]
        by_cases hp0 : prev < 0
        · have : ¬ (0 ≤ prev ∧ prev ≤ (log.length : Int)) := by omega
          simp only [hp0, this, decide_true, decide_false, cond_true, cond_false, Option.bind_some, Bool.not_true, Bool.not_false, sumE, Bool.true_and, Bool.and_true, Bool.false_and, Bool.and_false, beq_self_eq_true, bne_self_eq_false, if_false]
        by_cases hp1 : prev > (log.length : Int)
        · have : ¬ (0 ≤ prev ∧ prev ≤ (log.length : Int)) := by omega
          simp only [hp0, hp1, this, decide_true, decide_false, cond_true, cond_false, Option.bind_some, Bool.not_true, Bool.not_false, sumE, Bool.true_and, Bool.and_true, Bool.false_and, Bool.and_false, beq_self_eq_true, bne_self_eq_false, if_false]
        · have hpr : 0 ≤ prev ∧ prev ≤ (log.length : Int) := by omega
          obtain ⟨v1, v2, v3, v4, v5⟩ := (ro rfl).1 cro
          have a2 : (0 : Int) ≤ frm ∧ frm < (mtch.length : Int) := by omega
          have a3 : frm.toNat < mtch.length := by omega
          obtain ⟨e, he⟩ := getD_some a3
          simp only [hp0, hp1, hpr, and_self, if_true, decide_true, decide_false, cond_true, cond_false, Option.bind_some, Bool.not_true, Bool.not_false, sumE, Bool.true_and, Bool.and_true, Bool.false_and, Bool.and_false, beq_self_eq_true, bne_self_eq_false, a2, a3, he, maxe]
          have := loop44b id term voted 2 log votes votes (mtch.set frm.toNat (max e prev)) mtch n (by simpa using s3) s1 log.length commit c0 (Nat.le_refl _)
          rw [show loopT l44_0_10 (((log.length : Int), (n, ())), (((id, (term, (voted, (2, (commit, ()))))), ()), (((0, (0, (0, (0, (0, ()))))), ()), (log, (votes, ((mtch.set frm.toNat (max e prev)), ())))))) = _ from this]
          unfold appendedR
          simp only [Rep.id, Rep.term, Rep.voted, Rep.role, Rep.log, Rep.commit, Rep.votes, Rep.mtch, rp, Msg.kind, Msg.frm, Msg.to, Msg.term, Msg.prev, Msg.pterm, Msg.commit, Msg.ents, Msg.ok, mg, Option.bind_some, he, Option.getD_some]
    · simp only [hmt, ne_eq, not_true_eq_false, not_false_eq_true, eq_self, decide_true, decide_false, cond_true, cond_false, Option.bind_some, Bool.not_true, Bool.not_false, sumE, Bool.true_and, Bool.and_true, Bool.false_and, Bool.and_false, beq_self_eq_true, bne_self_eq_false, false_and, and_false, if_false]
  · simp only [hr, ne_eq, not_true_eq_false, not_false_eq_true, eq_self, decide_true, decide_false, cond_true, cond_false, Option.bind_some, Bool.not_true, Bool.not_false, sumE, Bool.true_and, Bool.and_true, Bool.false_and, Bool.and_false, beq_self_eq_true, bne_self_eq_false, false_and, if_false]

end Go.Proofs.Ytfbikpbejkgegaa
