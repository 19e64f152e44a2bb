/- Lemmas for the statement of the last text of this claim. -/
import Derived.Test.YtfbikpbejkgegaaChecked
import Derived.Test.YtfbikpbejkgegaaPxM
import Derived.WalkKit
import Derived.ProofKit
import Derived.Deep.RegionLaw
import Derived.Deep.LoopGhost
import Derived.Lib.Walk
import Derived.Maps.Own
import Derived.Shelf.RegionOpenPlain
import Derived.Lib.LazyBuf
import Derived.Test.YtfbikpbejkgegaaPxK
import Derived.Test.YtfbikpbejkgegaaV15A
set_option linter.unusedSimpArgs false
set_option linter.unusedVariables false
namespace Go.Proofs.Ytfbikpbejkgegaa
open Go Go.Abs
noncomputable section
def o4 : Abs.Sg := ⟨[8], (.dat .bool .nil), .nil⟩

/- 96 pagewatch/replica.Propose$1: not told by a law: a closure -/

/- 129 slices.IndexFunc[[]pagewatch/api.Entry,pagewatch/api.Entry]: not told by a law: a parameter -/

/- 95 slices.ContainsFunc[[]pagewatch/api.Entry,pagewatch/api.Entry]: not told by a law: a parameter -/

def l54_2_2 (v : ((Int × Y2 × Int × Unit) × ((Y10 × Unit) × Unit))) : Option (((Int × Y2 × Int × Unit) × ((Y10 × Unit) × Unit)) ⊕ (((Int × Unit) × ((Y10 × Unit) × Unit)) ⊕ ((Unit) × ((Y10 × Unit) × Unit)))) :=
bif (decide ((v.1.1 : Int) < v.1.2.2.1)) then (Abs.rowAt v.1.2.1 v.1.1 fun e53 _ =>
bif ((e53.2.1.1 : Int) == v.2.1.1.1) then (some (.inr (.inl ((v.1.1, ()), ((v.2.1.1, ()), ())))))
else (some (.inl (((w64 (v.1.1 + 1)), (v.1.2.1, (v.1.2.2.1, ()))), ((v.2.1.1, ()), ())))))
else (some (.inr (.inr ((), ((v.2.1.1, ()), ())))))

/- pagewatch/replica.Propose -/
def i54 : Abs.Sg := ⟨[0, 1, 2], (.dat (.int .i64) (.dat Z3 (.dat Z6 .nil))), .nil⟩

def o54 : Abs.Sg := ⟨[6, 7], (.st (.ptr (0, 0) 8 0 0) (.dat (.int .i64) .nil)), (.box 8 (.agg (.dat (.int .i64) (.dat (.int .i64) (.dat (.int .i64) (.dat (.int .i64) (.st (.own Z1 (1, 0)) (.dat (.int .i64) (.st (.own .bool (2, 0)) (.st (.own (.int .i64) (3, 0)) .nil)))))))) .nil) (.arr Z1 false (.arr .bool false (.arr (.int .i64) false .nil))))⟩

def m54 (v : ((Int × Y7 × Y10 × Unit) × (Unit))) : Option ((Int × Unit) × (Y11 × Y2 × (List Bool) × (List Int) × Unit)) :=
(m26 ((v.1.1, (v.1.2.1, ())), ())).bind fun u52 =>
bif (!u52.1.1) then (some ((8, ()), (((0, (0, (0, (0, (0, ()))))), ()), ([], ([], ([], ()))))))
else (bif ((v.1.2.1.2.2.2.1 : Int) != 2) then (some ((22, ()), (((0, (0, (0, (0, (0, ()))))), ()), ([], ([], ([], ()))))))
else ((((loopT l54_2_2 ((0, (v.1.2.1.2.2.2.2.1, ((v.1.2.1.2.2.2.2.1.length : Int), ()))), ((v.1.2.2.1, ()), ()))).bind fun d54 =>
sumE d54 (fun d55 => (some (((decide ((d55.1.1 : Int) ≥ 0)), ()), ((d55.2.1.1, ()), ())))) (fun d56 => (some ((false, ()), ((d56.2.1.1, ()), ()))))) : Option ((Bool × Unit) × ((Y10 × Unit) × Unit))).bind fun v57 =>
bif v57.1.1 then (some ((4, ()), (((0, (0, (0, (0, (0, ()))))), ()), ([], ([], ([], ()))))))
else (let x58 := (((v.1.2.1.2.2.2.2.1.length : Int) : Int) == 256)
bif x58 then (some ((5, ()), (((0, (0, (0, (0, (0, ()))))), ()), ([], ([], ([], ()))))))
else ((m76 ((v.1.2.1, ()), ())).bind fun u59 =>
bif (decide (u59.2.2.1.length + ([(u59.2.1.1.2.1, (v57.2.1.1, ()))] : List (Int × Y10 × Unit)).length ≤ 4294967296)) then
let x60 := (u59.2.2.1 ++ ([(u59.2.1.1.2.1, (v57.2.1.1, ()))] : List (Int × Y10 × Unit)))
bif (decide ((0 : Int) ≤ u59.2.1.1.1 ∧ (u59.2.1.1.1 : Int) < u59.2.2.2.2.1.length)) then
bif (decide (u59.2.1.1.1.toNat < u59.2.2.2.2.1.length)) then
(((m28 ((v.1.1, ()), ())).bind fun u61 =>
bif ((u61.1.1 : Int) == 1) then (some ((), (((0, (0, (0, (0, (0, ()))))), ()), (((u59.2.1.1.1, (u59.2.1.1.2.1, (u59.2.1.1.2.2.1, (u59.2.1.1.2.2.2.1, (((x60.length : Nat) : Int), ()))))), ()), (x60, (u59.2.2.2.1, ((u59.2.2.2.2.1.set u59.2.1.1.1.toNat ((x60.length : Nat) : Int)), ())))))))
else (some ((), (((0, (0, (0, (0, (0, ()))))), ()), (((u59.2.1.1.1, (u59.2.1.1.2.1, (u59.2.1.1.2.2.1, (u59.2.1.1.2.2.2.1, (u59.2.1.1.2.2.2.2.1, ()))))), ()), (x60, (u59.2.2.2.1, ((u59.2.2.2.2.1.set u59.2.1.1.1.toNat ((x60.length : Nat) : Int)), ())))))))) : Option ((Unit) × Y19)).bind fun v62 =>
some ((0, ()), (((v62.2.2.1.1.1, (v62.2.2.1.1.2.1, (v62.2.2.1.1.2.2.1, (v62.2.2.1.1.2.2.2.1, (v62.2.2.1.1.2.2.2.2.1, ()))))), ()), (v62.2.2.2.1, (v62.2.2.2.2.1, (v62.2.2.2.2.2.1, ())))))
else none
else none
else none))))

def sp54 : Abs.Spec := ⟨0, i54, o54, m54⟩

def an54 : Nat → Abs.FAn
  | 0 => Abs.FAn.mk (fun _ => none) (fun
    | 14 => some (⟨[6, 4], (.st (.ptr (0, 0) 8 0 0) (.st (.ptr (1, 0) 8 0 0) .nil)), (.box 8 (.agg (.dat (.int .i64) (.dat (.int .i64) (.dat (.int .i64) (.dat (.int .i64) (.st .nil (.dat (.int .i64) (.st .nil (.st .nil .nil)))))))) .nil) (.box 8 (.agg (.dat (.int .i64) (.dat (.int .i64) (.dat (.int .i64) (.dat (.int .i64) (.st (.own Z1 (2, 0)) (.dat (.int .i64) (.st (.own .bool (3, 0)) (.st (.own (.int .i64) (4, 0)) .nil)))))))) .nil) (.arr Z1 false (.arr .bool false (.arr (.int .i64) false .nil)))))⟩, none)
    | _ => none) (fun _ => none) (fun
    | 5, 3 => 1
    | _, _ => 0)
  | 1 => Abs.FAn.mk (fun
    | 1 => some ⟨[4], (.dat .bool .nil), (.box 20 (.dat Z6 .nil) .nil)⟩
    | _ => none) (fun _ => none) (fun _ => none) (fun
    | 1, 2 => 2
    | _, _ => 0)
  | 2 => Abs.FAn.mk (fun _ => none) (fun _ => none) (fun
    | 2 => some ⟨⟨[8, 0, 1, 7], (.dat (.int .i64) (.dat (.row Z1) (.st (.clo 96 [((0, 0), 20, 0, 0)]) (.dat (.int .i64) .nil)))), (.box 20 (.dat Z6 .nil) .nil)⟩, (.more .ret ⟨[4], (.dat (.int .i64) .nil), (.box 20 (.dat Z6 .nil) .nil)⟩ (.one (.exit 0) ⟨[], .nil, (.box 20 (.dat Z6 .nil) .nil)⟩))⟩
    | _ => none) (fun
    | 4, 5 => 3
    | _, _ => 0)
  | _ => {}

theorem ok54 : Abs.SpecOK Try.prog 54 sp54 :=
  Abs.specOC_of (C := ctab) (mv := mvtab) ctab_ok (n := 12) (an := an54) (T := Abs.tabOf [(26, sp26), (76, sp76), (28, sp28)]) good foll (Abs.tabOf_ok _ (by simp only [List.forall_mem_cons]; exact ⟨ok26, ok76, ok28, fun _ h => by cases h⟩)) rfl (by intro v; kernel_rfl)

def l46_0_5 (v : ((Int × (List Int) × Int × Unit) × ((List Y9) × (Y7 × Unit) × Unit))) : Option (((Int × (List Int) × Int × Unit) × ((List Y9) × (Y7 × Unit) × Unit)) ⊕ ((Unit) × ((List Y9) × Unit))) :=
bif (decide ((v.1.1 : Int) < v.1.2.2.1)) then (((Abs.rowAt v.1.2.1 v.1.1 fun e48 _ =>
bif ((v.1.1 : Int) == v.2.2.1.1.1) then (some ((v.1.2.1, (v.1.2.2.1, (v.1.1, ()))), (v.2.1, ((v.2.2.1.1, ()), ()))))
else (bif (decide ((0 : Int) ≤ e48)) then
bif (decide (e48.toNat ≤ v.2.2.1.1.2.2.2.2.1.length ∧ v.2.2.1.1.2.2.2.2.1.length ≤ v.2.2.1.1.2.2.2.2.1.length)) then
let x49 := ((v.2.2.1.1.2.2.2.2.1.drop e48.toNat).take (v.2.2.1.1.2.2.2.2.1.length - e48.toNat))
(m91 ((x49, ()), ())).bind fun u50 =>
((bif (decide ((e48 : Int) > 0)) then (Abs.rowAt v.2.2.1.1.2.2.2.2.1 (w64 (e48 - 1)) fun e51 _ =>
some ((v.1.2.1, (v.1.2.2.1, (v.1.1, ()))), ((v.2.2.1.1, ()), (((3, (v.2.2.1.1.1, (v.1.1, (v.2.2.1.1.2.1, (e48, (e51.1, (v.2.2.1.1.2.2.2.2.2.1, (false, ())))))))), ()), (v.2.1, (u50.2.1, ()))))))
else (some ((v.1.2.1, (v.1.2.2.1, (v.1.1, ()))), ((v.2.2.1.1, ()), (((3, (v.2.2.1.1.1, (v.1.1, (v.2.2.1.1.2.1, (e48, (0, (v.2.2.1.1.2.2.2.2.2.1, (false, ())))))))), ()), (v.2.1, (u50.2.1, ()))))))) : Option (((List Int) × Int × Int × Unit) × ((Y7 × Unit) × Y18 × (List Y9) × Y2 × Unit))).bind fun v52 =>
bif (decide (v52.2.2.2.1.length + ([(v52.2.2.1.1.1, (v52.2.2.1.1.2.1, (v52.2.2.1.1.2.2.1, (v52.2.2.1.1.2.2.2.1, (v52.2.2.1.1.2.2.2.2.1, (v52.2.2.1.1.2.2.2.2.2.1, (v52.2.2.1.1.2.2.2.2.2.2.1, (v52.2.2.2.2.1, (v52.2.2.1.1.2.2.2.2.2.2.2.1, ())))))))))] : List Y9).length ≤ 4294967296)) then
let x53 := (v52.2.2.2.1 ++ ([(v52.2.2.1.1.1, (v52.2.2.1.1.2.1, (v52.2.2.1.1.2.2.1, (v52.2.2.1.1.2.2.2.1, (v52.2.2.1.1.2.2.2.2.1, (v52.2.2.1.1.2.2.2.2.2.1, (v52.2.2.1.1.2.2.2.2.2.2.1, (v52.2.2.2.2.1, (v52.2.2.1.1.2.2.2.2.2.2.2.1, ())))))))))] : List Y9))
some ((v52.1.1, (v52.1.2.1, (v52.1.2.2.1, ()))), (x53, ((v52.2.1.1, ()), ())))
else none
else none
else none)) : Option (((List Int) × Int × Int × Unit) × ((List Y9) × (Y7 × Unit) × Unit))).bind fun v54 =>
some (.inl (((w64 (v54.1.2.2.1 + 1)), (v54.1.1, (v54.1.2.1, ()))), (v54.2.1, ((v54.2.2.1.1, ()), ())))))
else (some (.inr ((), (v.2.1, ()))))

/- pagewatch/replica.Appends -/
def i46 : Abs.Sg := ⟨[0, 1], (.dat (.int .i64) (.dat Z3 .nil)), .nil⟩

def o46 : Abs.Sg := ⟨[4], (.st (.own Z4 (0, 0)) .nil), (.arr Z4 false .nil)⟩

def m46 (v : ((Int × Y7 × Unit) × (Unit))) : Option ((Unit) × ((List Y9) × Unit)) :=
(((m26 ((v.1.1, (v.1.2.1, ())), ())).bind fun u46 =>
bif (!u46.1.1) then (some ((true, ()), ((v.1.2.1, ()), ())))
else (some ((((v.1.2.1.2.2.2.1 : Int) != 2), ()), ((v.1.2.1, ()), ())))) : Option ((Bool × Unit) × ((Y7 × Unit) × Unit))).bind fun v47 =>
bif v47.1.1 then (some ((), ([], ())))
else ((loopT l46_0_5 ((0, (v47.2.1.1.2.2.2.2.2.2.2.1, ((v47.2.1.1.2.2.2.2.2.2.2.1.length : Int), ()))), ([], ((v47.2.1.1, ()), ())))).bind fun d55 =>
some ((), (d55.2.1, ())))

def sp46 : Abs.Spec := ⟨0, i46, o46, m46⟩

def an46 : Nat → Abs.FAn
  | 0 => Abs.FAn.mk (fun
    | 1 => some ⟨[17, 3], (.dat .bool (.st (.ptr (0, 0) 8 0 0) .nil)), (.box 8 (.dat Z3 .nil) .nil)⟩
    | _ => none) (fun
    | 12 => some (⟨[5, 3, 19, 20, 21], (.st (.own Z4 (0, 0)) (.st (.ptr (1, 0) 8 0 0) (.dat (.row (.int .i64)) (.dat (.int .i64) (.dat (.int .i64) .nil))))), (.arr Z4 false (.box 8 (.dat Z3 .nil) .nil))⟩, none)
    | 11 => some (⟨[3, 19, 20, 21, 8, 5], (.st (.ptr (0, 0) 8 0 0) (.dat (.row (.int .i64)) (.dat (.int .i64) (.dat (.int .i64) (.st (.ptr (1, 0) 9 0 0) (.st (.own Z4 (2, 0)) .nil)))))), (.box 8 (.dat Z3 .nil) (.box 9 (.agg (.dat (.int .i64) (.dat (.int .i64) (.dat (.int .i64) (.dat (.int .i64) (.dat (.int .i64) (.dat (.int .i64) (.dat (.int .i64) (.st (.own Z1 (3, 0)) (.dat .bool .nil))))))))) .nil) (.arr Z4 false (.arr Z1 false .nil))))⟩, none)
    | _ => none) (fun
    | 5 => some ⟨⟨[21, 5, 3, 19, 20], (.dat (.int .i64) (.st (.own Z4 (0, 0)) (.st (.ptr (1, 0) 8 0 0) (.dat (.row (.int .i64)) (.dat (.int .i64) .nil))))), (.arr Z4 false (.box 8 (.dat Z3 .nil) .nil))⟩, (.one (.exit 0) ⟨[5], (.st (.own Z4 (0, 0)) .nil), (.arr Z4 false .nil)⟩)⟩
    | _ => none) (fun _ _ => 0)
  | _ => {}

theorem ok46 : Abs.SpecOK Try.prog 46 sp46 :=
  Abs.specOC_of (C := ctab) (mv := mvtab) ctab_ok (n := 12) (an := an46) (T := Abs.tabOf [(26, sp26), (91, sp91)]) good foll (Abs.tabOf_ok _ (by simp only [List.forall_mem_cons]; exact ⟨ok26, ok91, fun _ h => by cases h⟩)) rfl (by intro v; kernel_rfl)

/- pagewatch/replica.fits -/
def i92 : Abs.Sg := ⟨[0, 1], (.dat Z3 (.dat Z4 .nil)), .nil⟩

def o92 : Abs.Sg := ⟨[4], (.dat .bool .nil), .nil⟩

def m92 (v : ((Y7 × Y9 × Unit) × (Unit))) : Option Y16 :=
((bif ((v.1.2.1.2.2.2.1 : Int) == v.1.1.2.1) then (bif ((v.1.1.2.2.2.1 : Int) != 2) then (let x5 := (decide ((v.1.2.1.2.2.2.2.1 : Int) ≤ (v.1.1.2.2.2.2.1.length : Int)))
bif x5 then (bif ((v.1.2.1.2.2.2.2.1 : Int) == 0) then (some ((true, ()), ()))
else (Abs.rowAt v.1.1.2.2.2.2.1 (w64 (v.1.2.1.2.2.2.2.1 - 1)) fun e6 _ =>
some ((((e6.1 : Int) == v.1.2.1.2.2.2.2.2.1), ()), ())))
else (some ((false, ()), ())))
else (some ((false, ()), ())))
else (some ((false, ()), ()))) : Option Y16).bind fun v7 =>
some ((v7.1.1, ()), ())

def sp92 : Abs.Spec := ⟨0, i92, o92, m92⟩

def an92 : Nat → Abs.FAn
  | 0 => Abs.FAn.mk (fun
    | 1 => some ⟨[4], (.dat .bool .nil), .nil⟩
    | _ => none) (fun _ => none) (fun _ => none) (fun _ _ => 0)
  | _ => {}

theorem ok92 : Abs.SpecOK Try.prog 92 sp92 :=
  Abs.specOC_of (C := ctab) (mv := mvtab) ctab_ok (n := 12) (an := an92) (T := Abs.tabOf []) good foll (Abs.tabOf_ok _ (fun _ h => by cases h)) rfl (by intro v; kernel_rfl)

def l93_0_2 (v : ((Int × Unit) × ((Y7 × Unit) × (Y9 × Unit) × Unit))) : Option (((Int × Unit) × ((Y7 × Unit) × (Y9 × Unit) × Unit)) ⊕ ((Int × Unit) × ((Y7 × Unit) × (Y9 × Unit) × Unit))) :=
((let x61 := (decide ((v.1.1 : Int) < (v.2.2.1.1.2.2.2.2.2.2.2.1.length : Int)))
bif x61 then (let x62 := (decide (((w64 (v.2.2.1.1.2.2.2.2.1 + v.1.1)) : Int) < (v.2.1.1.2.2.2.2.1.length : Int)))
bif x62 then (Abs.rowAt v.2.1.1.2.2.2.2.1 (w64 (v.2.2.1.1.2.2.2.2.1 + v.1.1)) fun e63 _ =>
Abs.rowAt v.2.2.1.1.2.2.2.2.2.2.2.1 v.1.1 fun e64 _ =>
some ((((e63.1 : Int) == e64.1), (v.1.1, ())), ((v.2.1.1, ()), ((v.2.2.1.1, ()), ()))))
else (some ((false, (v.1.1, ())), ((v.2.1.1, ()), ((v.2.2.1.1, ()), ())))))
else (some ((false, (v.1.1, ())), ((v.2.1.1, ()), ((v.2.2.1.1, ()), ()))))) : Option ((Bool × Int × Unit) × ((Y7 × Unit) × (Y9 × Unit) × Unit))).bind fun v65 =>
bif v65.1.1 then (some (.inl (((w64 (v65.1.2.1 + 1)), ()), ((v65.2.1.1, ()), ((v65.2.2.1.1, ()), ())))))
else (some (.inr ((v65.1.2.1, ()), ((v65.2.1.1, ()), ((v65.2.2.1.1, ()), ())))))

def l93_0_10 (v : ((Int × Int × Y2 × Y2 × Int × Int × Unit) × ((Y9 × Unit) × (Y7 × Unit) × Unit))) : Option (((Int × Int × Y2 × Y2 × Int × Int × Unit) × ((Y9 × Unit) × (Y7 × Unit) × Unit)) ⊕ (((Bool × Unit) × (Y2 × Unit)) ⊕ ((Y2 × Int × Unit) × ((Y7 × Unit) × Unit)))) :=
bif (decide ((v.1.1 : Int) < v.1.2.2.2.2.2.1)) then (Abs.rowAt v.1.2.2.1 v.1.1 fun e71 _ =>
((bif (decide ((e71.1 : Int) < v.1.2.1)) then (some ((true, (v.1.2.2.1, (v.1.2.2.2.1, (v.1.2.2.2.2.1, (v.1.2.2.2.2.2.1, (v.1.1, ())))))), ((v.2.1.1, ()), ((v.2.2.1.1, ()), ((e71, ()), ())))))
else (some (((decide ((e71.1 : Int) > v.2.1.1.2.2.2.1)), (v.1.2.2.1, (v.1.2.2.2.1, (v.1.2.2.2.2.1, (v.1.2.2.2.2.2.1, (v.1.1, ())))))), ((v.2.1.1, ()), ((v.2.2.1.1, ()), ((e71, ()), ())))))) : Option ((Bool × Y2 × Y2 × Int × Int × Int × Unit) × ((Y9 × Unit) × (Y7 × Unit) × ((Int × Y10 × Unit) × Unit) × Unit))).bind fun v72 =>
bif v72.1.1 then (some (.inr (.inl ((false, ()), ([], ())))))
else (some (.inl (((w64 (v72.1.2.2.2.2.2.1 + 1)), (v72.2.2.2.1.1.1, (v72.1.2.1, (v72.1.2.2.1, (v72.1.2.2.2.1, (v72.1.2.2.2.2.1, ())))))), ((v72.2.1.1, ()), ((v72.2.2.1.1, ()), ()))))))
else (some (.inr (.inr ((v.1.2.2.2.1, (v.1.2.2.2.2.1, ())), ((v.2.2.1.1, ()), ())))))

/- pagewatch/replica.joined -/
def i93 : Abs.Sg := ⟨[0, 1], (.dat Z3 (.dat Z4 .nil)), .nil⟩

def o93 : Abs.Sg := ⟨[4, 5], (.dat (.row Z1) (.dat .bool .nil)), .nil⟩

def m93 (v : ((Y7 × Y9 × Unit) × (Unit))) : Option ((Y2 × Bool × Unit) × (Unit)) :=
(loopT l93_0_2 ((0, ()), ((v.1.1, ()), ((v.1.2.1, ()), ())))).bind fun d66 =>
let x67 := ((d66.1.1 : Int) == (d66.2.2.1.1.2.2.2.2.2.2.2.1.length : Int))
bif x67 then (some ((d66.2.1.1.2.2.2.2.1, (true, ())), ()))
else (((bif (decide ((0 : Int) ≤ (w64 (d66.2.2.1.1.2.2.2.2.1 + d66.1.1)))) then
bif (decide ((0 : Int) ≤ (w64 (d66.2.2.1.1.2.2.2.2.1 + d66.1.1)))) then
bif (decide (0 ≤ (w64 (d66.2.2.1.1.2.2.2.2.1 + d66.1.1)).toNat ∧ (w64 (d66.2.2.1.1.2.2.2.2.1 + d66.1.1)).toNat = (w64 (d66.2.2.1.1.2.2.2.2.1 + d66.1.1)).toNat ∧ (w64 (d66.2.2.1.1.2.2.2.2.1 + d66.1.1)).toNat ≤ d66.2.1.1.2.2.2.2.1.length)) then
let x68 := (d66.2.1.1.2.2.2.2.1.take (w64 (d66.2.2.1.1.2.2.2.2.1 + d66.1.1)).toNat)
bif (decide ((0 : Int) ≤ d66.1.1)) then
bif (decide (d66.1.1.toNat ≤ d66.2.2.1.1.2.2.2.2.2.2.2.1.length ∧ d66.2.2.1.1.2.2.2.2.2.2.2.1.length ≤ d66.2.2.1.1.2.2.2.2.2.2.2.1.length)) then
let x69 := ((d66.2.2.1.1.2.2.2.2.2.2.2.1.drop d66.1.1.toNat).take (d66.2.2.1.1.2.2.2.2.2.2.2.1.length - d66.1.1.toNat))
bif x68.isEmpty then (bif (decide (x68.length + x69.length ≤ 4294967296)) then
some (((x68 ++ x69), ((w64 (d66.2.2.1.1.2.2.2.2.1 + d66.1.1)), ())), ((d66.2.2.1.1, ()), ((d66.2.1.1, ()), ())))
else none)
else (bif x69.isEmpty then (some ((x68, ((w64 (d66.2.2.1.1.2.2.2.2.1 + d66.1.1)), ())), ((d66.2.2.1.1, ()), ((d66.2.1.1, ()), ()))))
else (bif (decide (x68.length + x69.length ≤ 4294967296)) then
some (((x68 ++ x69), ((w64 (d66.2.2.1.1.2.2.2.2.1 + d66.1.1)), ())), ((d66.2.2.1.1, ()), ((d66.2.1.1, ()), ())))
else none))
else none
else none
else none
else none
else none) : Option ((Y2 × Int × Unit) × ((Y9 × Unit) × (Y7 × Unit) × Unit))).bind fun v70 =>
(loopT l93_0_10 ((0, (1, (v70.1.1, (v70.1.1, (v70.1.2.1, ((v70.1.1.length : Int), ())))))), ((v70.2.1.1, ()), ((v70.2.2.1.1, ()), ())))).bind fun d73 =>
sumE d73 (fun d74 => (some ((d74.2.1, (d74.1.1, ())), ()))) (fun d75 => (((let x76 := (decide ((d75.1.2.1 : Int) ≥ d75.2.1.1.2.2.2.2.2.1))
bif x76 then (some ((d75.1.1, ((decide (((d75.1.1.length : Int) : Int) ≤ 256)), ())), ()))
else (some ((d75.1.1, (false, ())), ()))) : Option ((Y2 × Bool × Unit) × (Unit))).bind fun v77 =>
some ((v77.1.1, (v77.1.2.1, ())), ()))))

def sp93 : Abs.Spec := ⟨0, i93, o93, m93⟩

def an93 : Nat → Abs.FAn
  | 0 => Abs.FAn.mk (fun
    | 16 => some ⟨[4, 5], (.dat (.row Z1) (.dat .bool .nil)), .nil⟩
    | 12 => some ⟨[84, 3, 68, 8, 2, 7, 69, 70, 11], (.dat .bool (.st (.ptr (0, 0) 9 0 0) (.dat (.row Z1) (.dat (.row Z1) (.st (.ptr (1, 0) 8 0 0) (.dat (.int .i64) (.dat (.int .i64) (.dat (.int .i64) (.st (.ptr (2, 0) 21 0 0) .nil))))))))), (.box 9 (.dat Z4 .nil) (.box 8 (.dat Z3 .nil) (.box 21 (.dat Z1 .nil) .nil)))⟩
    | 7 => some ⟨[3, 8, 2, 7], (.st (.ptr (0, 0) 9 0 0) (.dat (.row Z1) (.st (.ptr (1, 0) 8 0 0) (.dat (.int .i64) .nil)))), (.box 9 (.dat Z4 .nil) (.box 8 (.dat Z3 .nil) .nil))⟩
    | 2 => some ⟨[44, 2, 3, 6], (.dat .bool (.st (.ptr (0, 0) 8 0 0) (.st (.ptr (1, 0) 9 0 0) (.dat (.int .i64) .nil)))), (.box 8 (.dat Z3 .nil) (.box 9 (.dat Z4 .nil) .nil))⟩
    | _ => none) (fun _ => none) (fun
    | 10 => some ⟨⟨[70, 3, 9, 68, 8, 2, 7, 69], (.dat (.int .i64) (.st (.ptr (0, 0) 9 0 0) (.dat (.int .i64) (.dat (.row Z1) (.dat (.row Z1) (.st (.ptr (1, 0) 8 0 0) (.dat (.int .i64) (.dat (.int .i64) .nil)))))))), (.box 9 (.dat Z4 .nil) (.box 8 (.dat Z3 .nil) .nil))⟩, (.more .ret ⟨[4, 5], (.st (.own Z1 (0, 0)) (.dat .bool .nil)), (.arr Z1 false .nil)⟩ (.one (.exit 2) ⟨[8, 2, 7], (.dat (.row Z1) (.st (.ptr (0, 0) 8 0 0) (.dat (.int .i64) .nil))), (.box 8 (.dat Z3 .nil) .nil)⟩))⟩
    | 2 => some ⟨⟨[6, 2, 3], (.dat (.int .i64) (.st (.ptr (0, 0) 8 0 0) (.st (.ptr (1, 0) 9 0 0) .nil))), (.box 8 (.dat Z3 .nil) (.box 9 (.dat Z4 .nil) .nil))⟩, (.one (.exit 0) ⟨[2, 3, 6], (.st (.ptr (0, 0) 8 0 0) (.st (.ptr (1, 0) 9 0 0) (.dat (.int .i64) .nil))), (.box 8 (.dat Z3 .nil) (.box 9 (.dat Z4 .nil) .nil))⟩)⟩
    | _ => none) (fun _ _ => 0)
  | _ => {}

theorem ok93 : Abs.SpecOK Try.prog 93 sp93 :=
  Abs.specOC_of (C := ctab) (mv := mvtab) ctab_ok (n := 12) (an := an93) (T := Abs.tabOf []) good foll (Abs.tabOf_ok _ (fun _ h => by cases h)) rfl (by intro v; kernel_rfl)

/- pagewatch/replica.Accept -/
def i47 : Abs.Sg := ⟨[0, 1, 2], (.dat (.int .i64) (.dat Z3 (.dat Z4 .nil))), .nil⟩

def o47 : Abs.Sg := ⟨[6, 7, 8], (.st (.ptr (0, 0) 8 0 0) (.st (.ptr (1, 0) 9 0 0) (.dat .bool .nil))), (.box 8 (.dat Z3 .nil) (.box 9 (.agg (.dat (.int .i64) (.dat (.int .i64) (.dat (.int .i64) (.dat (.int .i64) (.dat (.int .i64) (.dat (.int .i64) (.dat (.int .i64) (.st .nil (.dat .bool .nil))))))))) .nil) .nil))⟩

def m47 (v : ((Int × Y7 × Y9 × Unit) × (Unit))) : Option ((Bool × Unit) × ((Y7 × Unit) × Y18 × Unit)) :=
(m76 ((v.1.2.1, ()), ())).bind fun u40 =>
(((m78 ((v.1.1, (v.1.2.1, (v.1.2.2.1, (3, ())))), ())).bind fun u41 =>
bif (!u41.1.1) then (some ((true, ()), (((0, (0, (0, (0, (0, ()))))), ()), (((0, (0, (0, (0, (0, (0, (0, (false, ())))))))), ()), (((u40.2.1.1.1, (u40.2.1.1.2.1, (u40.2.1.1.2.2.1, (u40.2.1.1.2.2.2.1, (u40.2.1.1.2.2.2.2.1, ()))))), ()), ((v.1.2.1, ()), ((v.1.2.2.1, ()), (u40.2.2.1, (u40.2.2.2.1, (u40.2.2.2.2.1, ()))))))))))
else (bif (decide ((v.1.2.2.1.2.2.2.2.1 : Int) < 0)) then (some ((true, ()), (((0, (0, (0, (0, (0, ()))))), ()), (((0, (0, (0, (0, (0, (0, (0, (false, ())))))))), ()), (((u40.2.1.1.1, (u40.2.1.1.2.1, (u40.2.1.1.2.2.1, (u40.2.1.1.2.2.2.1, (u40.2.1.1.2.2.2.2.1, ()))))), ()), ((v.1.2.1, ()), ((v.1.2.2.1, ()), (u40.2.2.1, (u40.2.2.2.1, (u40.2.2.2.2.1, ()))))))))))
else (bif (decide ((v.1.2.2.1.2.2.2.2.2.1 : Int) < 0)) then (some ((true, ()), (((0, (0, (0, (0, (0, ()))))), ()), (((0, (0, (0, (0, (0, (0, (0, (false, ())))))))), ()), (((u40.2.1.1.1, (u40.2.1.1.2.1, (u40.2.1.1.2.2.1, (u40.2.1.1.2.2.2.1, (u40.2.1.1.2.2.2.2.1, ()))))), ()), ((v.1.2.1, ()), ((v.1.2.2.1, ()), (u40.2.2.1, (u40.2.2.2.1, (u40.2.2.2.2.1, ()))))))))))
else (some (((decide ((v.1.2.2.1.2.2.2.2.2.2.1 : Int) < 0)), ()), (((0, (0, (0, (0, (0, ()))))), ()), (((0, (0, (0, (0, (0, (0, (0, (false, ())))))))), ()), (((u40.2.1.1.1, (u40.2.1.1.2.1, (u40.2.1.1.2.2.1, (u40.2.1.1.2.2.2.1, (u40.2.1.1.2.2.2.2.1, ()))))), ()), ((v.1.2.1, ()), ((v.1.2.2.1, ()), (u40.2.2.1, (u40.2.2.2.1, (u40.2.2.2.2.1, ()))))))))))))) : Option ((Bool × Unit) × (Y11 × Y18 × Y11 × (Y7 × Unit) × (Y9 × Unit) × Y2 × (List Bool) × (List Int) × Unit))).bind fun v42 =>
bif v42.1.1 then (some ((false, ()), (((v42.2.2.2.1.1.1, (v42.2.2.2.1.1.2.1, (v42.2.2.2.1.1.2.2.1, (v42.2.2.2.1.1.2.2.2.1, (v42.2.2.2.2.2.2.1, (v42.2.2.2.1.1.2.2.2.2.1, (v42.2.2.2.2.2.2.2.1, (v42.2.2.2.2.2.2.2.2.1, ())))))))), ()), (((0, (0, (0, (0, (0, (0, (0, (false, ())))))))), ()), ()))))
else ((m76 ((v42.2.2.2.2.1.1, ()), ())).bind fun u43 =>
(m79 (((u43.2.1.1.1, (u43.2.1.1.2.1, (u43.2.1.1.2.2.1, (u43.2.1.1.2.2.2.1, (u43.2.2.1, (u43.2.1.1.2.2.2.2.1, (u43.2.2.2.1, (u43.2.2.2.2.1, ())))))))), (v42.2.2.2.2.2.1.1.2.2.2.1, ())), ())).bind fun u44 =>
((((bif ((u44.2.1.1.2.2.2.1 : Int) == 1) then (let x45 := ((u44.2.1.1.2.1 : Int) == v42.2.2.2.2.2.1.1.2.2.2.1)
some ((x45, ()), (((v42.2.1.1.1, (v42.2.1.1.2.1, (v42.2.1.1.2.2.1, (v42.2.1.1.2.2.2.1, (v42.2.1.1.2.2.2.2.1, ()))))), ()), (((v42.2.2.1.1.1, (v42.2.2.1.1.2.1, (v42.2.2.1.1.2.2.1, (v42.2.2.1.1.2.2.2.1, (v42.2.2.1.1.2.2.2.2.1, (v42.2.2.1.1.2.2.2.2.2.1, (v42.2.2.1.1.2.2.2.2.2.2.1, (v42.2.2.1.1.2.2.2.2.2.2.2.1, ())))))))), ()), ((u44.2.1.1, ()), (((v42.2.2.2.1.1.1, (v42.2.2.2.1.1.2.1, (v42.2.2.2.1.1.2.2.1, (v42.2.2.2.1.1.2.2.2.1, (v42.2.2.2.1.1.2.2.2.2.1, ()))))), ()), ((v42.2.2.2.2.2.1.1, ()), (v42.2.2.2.2.2.2.1, (v42.2.2.2.2.2.2.2.1, (v42.2.2.2.2.2.2.2.2.1, ()))))))))))
else (some ((false, ()), (((v42.2.1.1.1, (v42.2.1.1.2.1, (v42.2.1.1.2.2.1, (v42.2.1.1.2.2.2.1, (v42.2.1.1.2.2.2.2.1, ()))))), ()), (((v42.2.2.1.1.1, (v42.2.2.1.1.2.1, (v42.2.2.1.1.2.2.1, (v42.2.2.1.1.2.2.2.1, (v42.2.2.1.1.2.2.2.2.1, (v42.2.2.1.1.2.2.2.2.2.1, (v42.2.2.1.1.2.2.2.2.2.2.1, (v42.2.2.1.1.2.2.2.2.2.2.2.1, ())))))))), ()), ((u44.2.1.1, ()), (((v42.2.2.2.1.1.1, (v42.2.2.2.1.1.2.1, (v42.2.2.2.1.1.2.2.1, (v42.2.2.2.1.1.2.2.2.1, (v42.2.2.2.1.1.2.2.2.2.1, ()))))), ()), ((v42.2.2.2.2.2.1.1, ()), (v42.2.2.2.2.2.2.1, (v42.2.2.2.2.2.2.2.1, (v42.2.2.2.2.2.2.2.2.1, ()))))))))))) : Option ((Bool × Unit) × (Y11 × Y18 × (Y7 × Unit) × Y11 × (Y9 × Unit) × Y2 × (List Bool) × (List Int) × Unit))).bind fun v46 =>
bif v46.1.1 then (some ((), (((v46.2.1.1.1, (v46.2.1.1.2.1, (v46.2.1.1.2.2.1, (v46.2.1.1.2.2.2.1, (v46.2.1.1.2.2.2.2.1, ()))))), ()), (((v46.2.2.1.1.1, (v46.2.2.1.1.2.1, (v46.2.2.1.1.2.2.1, (v46.2.2.1.1.2.2.2.1, (v46.2.2.1.1.2.2.2.2.1, (v46.2.2.1.1.2.2.2.2.2.1, (v46.2.2.1.1.2.2.2.2.2.2.1, (v46.2.2.1.1.2.2.2.2.2.2.2.1, ())))))))), ()), (((v46.2.2.2.1.1.1, (v46.2.2.2.1.1.2.1, (v46.2.2.2.1.1.2.2.1, (0, (v46.2.2.2.1.1.2.2.2.2.1, (v46.2.2.2.1.1.2.2.2.2.2.1, ([], v46.2.2.2.1.1.2.2.2.2.2.2.2))))))), ()), (((v46.2.2.2.2.1.1.1, (v46.2.2.2.2.1.1.2.1, (v46.2.2.2.2.1.1.2.2.1, (v46.2.2.2.2.1.1.2.2.2.1, (v46.2.2.2.2.1.1.2.2.2.2.1, ()))))), ()), ((v46.2.2.2.2.2.1.1, ()), (v46.2.2.2.2.2.2.1, (v46.2.2.2.2.2.2.2.1, (v46.2.2.2.2.2.2.2.2.1, ()))))))))))
else (some ((), (((v46.2.1.1.1, (v46.2.1.1.2.1, (v46.2.1.1.2.2.1, (v46.2.1.1.2.2.2.1, (v46.2.1.1.2.2.2.2.1, ()))))), ()), (((v46.2.2.1.1.1, (v46.2.2.1.1.2.1, (v46.2.2.1.1.2.2.1, (v46.2.2.1.1.2.2.2.1, (v46.2.2.1.1.2.2.2.2.1, (v46.2.2.1.1.2.2.2.2.2.1, (v46.2.2.1.1.2.2.2.2.2.2.1, (v46.2.2.1.1.2.2.2.2.2.2.2.1, ())))))))), ()), ((v46.2.2.2.1.1, ()), (((v46.2.2.2.2.1.1.1, (v46.2.2.2.2.1.1.2.1, (v46.2.2.2.2.1.1.2.2.1, (v46.2.2.2.2.1.1.2.2.2.1, (v46.2.2.2.2.1.1.2.2.2.2.1, ()))))), ()), ((v46.2.2.2.2.2.1.1, ()), (v46.2.2.2.2.2.2.1, (v46.2.2.2.2.2.2.2.1, (v46.2.2.2.2.2.2.2.2.1, ()))))))))))) : Option ((Unit) × (Y11 × Y18 × (Y7 × Unit) × Y11 × (Y9 × Unit) × Y2 × (List Bool) × (List Int) × Unit))).bind fun v47 =>
(m92 ((v47.2.2.2.1.1, (v47.2.2.2.2.2.1.1, ())), ())).bind fun u48 =>
bif (!u48.1.1) then (some ((true, ()), ((v47.2.2.2.1.1, ()), (((4, (v47.2.2.2.1.1.1, (v47.2.2.2.2.2.1.1.2.1, (v47.2.2.2.1.1.2.1, (0, (0, (0, (false, ())))))))), ()), ()))))
else ((m93 ((v47.2.2.2.1.1, (v47.2.2.2.2.2.1.1, ())), ())).bind fun u49 =>
bif (!u49.1.2.1) then (some ((false, ()), (((v47.2.2.2.2.1.1.1, (v47.2.2.2.2.1.1.2.1, (v47.2.2.2.2.1.1.2.2.1, (v47.2.2.2.2.1.1.2.2.2.1, (v47.2.2.2.2.2.2.1, (v47.2.2.2.2.1.1.2.2.2.2.1, (v47.2.2.2.2.2.2.2.1, (v47.2.2.2.2.2.2.2.2.1, ())))))))), ()), (((0, (0, (0, (0, (0, (0, (0, (false, ())))))))), ()), ()))))
else (let x50 := (w64 (v47.2.2.2.2.2.1.1.2.2.2.2.1 + (v47.2.2.2.2.2.1.1.2.2.2.2.2.2.2.1.length : Int)))
let x51 := (if (x50 : Int) < v47.2.2.2.2.2.1.1.2.2.2.2.2.2.1 then x50 else v47.2.2.2.2.2.1.1.2.2.2.2.2.2.1)
let x52 := (if (x51 : Int) > v47.2.2.2.1.1.2.2.2.2.2.1 then x51 else v47.2.2.2.1.1.2.2.2.2.2.1)
some ((true, ()), (((v47.2.2.2.1.1.1, (v47.2.2.2.1.1.2.1, (v47.2.2.2.1.1.2.2.1, (v47.2.2.2.1.1.2.2.2.1, (u49.1.1, (x52, v47.2.2.2.1.1.2.2.2.2.2.2)))))), ()), (((4, (v47.2.2.2.1.1.1, (v47.2.2.2.2.2.1.1.2.1, (v47.2.2.2.1.1.2.1, (x50, (0, (0, (true, ())))))))), ()), ()))))))

def sp47 : Abs.Spec := ⟨0, i47, o47, m47⟩

def an47 : Nat → Abs.FAn
  | 0 => Abs.FAn.mk (fun
    | 5 => some ⟨[51, 6, 7, 4, 9, 5], (.dat .bool (.st (.ptr (0, 0) 8 0 0) (.st (.ptr (1, 0) 9 0 0) (.st (.ptr (2, 0) 8 0 0) (.st (.ptr (3, 0) 8 0 0) (.st (.ptr (4, 0) 9 0 0) .nil)))))), (.box 8 (.agg (.dat (.int .i64) (.dat (.int .i64) (.dat (.int .i64) (.dat (.int .i64) (.st .nil (.dat (.int .i64) (.st .nil (.st .nil .nil)))))))) .nil) (.box 9 (.agg (.dat (.int .i64) (.dat (.int .i64) (.dat (.int .i64) (.dat (.int .i64) (.dat (.int .i64) (.dat (.int .i64) (.dat (.int .i64) (.st .nil (.dat .bool .nil))))))))) .nil) (.box 8 (.dat Z3 .nil) (.box 8 (.agg (.dat (.int .i64) (.dat (.int .i64) (.dat (.int .i64) (.dat (.int .i64) (.st (.own Z1 (5, 0)) (.dat (.int .i64) (.st (.own .bool (6, 0)) (.st (.own (.int .i64) (7, 0)) .nil)))))))) .nil) (.box 9 (.dat Z4 .nil) (.arr Z1 false (.arr .bool false (.arr (.int .i64) false .nil))))))))⟩
    | 2 => some ⟨[34, 6, 7, 9, 4, 5], (.dat .bool (.st (.ptr (0, 0) 8 0 0) (.st (.ptr (1, 0) 9 0 0) (.st (.ptr (2, 0) 8 0 0) (.st (.ptr (3, 0) 8 0 0) (.st (.ptr (4, 0) 9 0 0) .nil)))))), (.box 8 (.agg (.dat (.int .i64) (.dat (.int .i64) (.dat (.int .i64) (.dat (.int .i64) (.st .nil (.dat (.int .i64) (.st .nil (.st .nil .nil)))))))) .nil) (.box 9 (.agg (.dat (.int .i64) (.dat (.int .i64) (.dat (.int .i64) (.dat (.int .i64) (.dat (.int .i64) (.dat (.int .i64) (.dat (.int .i64) (.st .nil (.dat .bool .nil))))))))) .nil) (.box 8 (.agg (.dat (.int .i64) (.dat (.int .i64) (.dat (.int .i64) (.dat (.int .i64) (.st (.own Z1 (5, 0)) (.dat (.int .i64) (.st (.own .bool (6, 0)) (.st (.own (.int .i64) (7, 0)) .nil)))))))) .nil) (.box 8 (.dat Z3 .nil) (.box 9 (.dat Z4 .nil) (.arr Z1 false (.arr .bool false (.arr (.int .i64) false .nil))))))))⟩
    | _ => none) (fun
    | 7 => some (⟨[6, 7, 4, 9, 5], (.st (.ptr (0, 0) 8 0 0) (.st (.ptr (1, 0) 9 0 0) (.st (.ptr (2, 0) 8 0 0) (.st (.ptr (3, 0) 8 0 0) (.st (.ptr (4, 0) 9 0 0) .nil))))), (.box 8 (.agg (.dat (.int .i64) (.dat (.int .i64) (.dat (.int .i64) (.dat (.int .i64) (.st .nil (.dat (.int .i64) (.st .nil (.st .nil .nil)))))))) .nil) (.box 9 (.agg (.dat (.int .i64) (.dat (.int .i64) (.dat (.int .i64) (.dat (.int .i64) (.dat (.int .i64) (.dat (.int .i64) (.dat (.int .i64) (.st .nil (.dat .bool .nil))))))))) .nil) (.box 8 (.dat Z3 .nil) (.box 8 (.agg (.dat (.int .i64) (.dat (.int .i64) (.dat (.int .i64) (.dat (.int .i64) (.st (.own Z1 (5, 0)) (.dat (.int .i64) (.st (.own .bool (6, 0)) (.st (.own (.int .i64) (7, 0)) .nil)))))))) .nil) (.box 9 (.dat Z4 .nil) (.arr Z1 false (.arr .bool false (.arr (.int .i64) false .nil))))))))⟩, none)
    | _ => none) (fun _ => none) (fun _ _ => 0)
  | _ => {}

theorem ok47 : Abs.SpecOK Try.prog 47 sp47 :=
  Abs.specOC_of (C := ctab) (mv := mvtab) ctab_ok (n := 12) (an := an47) (T := Abs.tabOf [(76, sp76), (78, sp78), (79, sp79), (92, sp92), (93, sp93)]) good foll (Abs.tabOf_ok _ (by simp only [List.forall_mem_cons]; exact ⟨ok76, ok78, ok79, ok92, ok93, fun _ h => by cases h⟩)) rfl (by intro v; kernel_rfl)

def l44_0_14 (v : ((Int × Int × Int × Int × Int × Unit) × ((List Int) × Y11 × Y11 × Y2 × (List Bool) × Unit))) : Option (((Int × Int × Int × Int × Int × Unit) × ((List Int) × Y11 × Y11 × Y2 × (List Bool) × Unit)) ⊕ (Y21 × Y19)) :=
bif (decide ((v.1.1 : Int) < v.1.2.2.2.2.1)) then (((bif (decide ((0 : Int) ≤ v.1.1 ∧ (v.1.1 : Int) < v.2.1.length)) then
(v.2.1[v.1.1.toNat]?).bind fun e79 =>
bif (decide ((e79 : Int) ≥ v.1.2.2.1)) then (some (((w64 (v.1.2.1 + 1)), (v.1.2.2.1, (v.1.2.2.2.1, (v.1.2.2.2.2.1, (v.1.1, ()))))), (v.2.1, (((v.2.2.1.1.1, (v.2.2.1.1.2.1, (v.2.2.1.1.2.2.1, (v.2.2.1.1.2.2.2.1, (v.2.2.1.1.2.2.2.2.1, ()))))), ()), (((v.2.2.2.1.1.1, (v.2.2.2.1.1.2.1, (v.2.2.2.1.1.2.2.1, (v.2.2.2.1.1.2.2.2.1, (v.2.2.2.1.1.2.2.2.2.1, ()))))), ()), (v.2.2.2.2.1, (v.2.2.2.2.2.1, ())))))))
else (some ((v.1.2.1, (v.1.2.2.1, (v.1.2.2.2.1, (v.1.2.2.2.2.1, (v.1.1, ()))))), (v.2.1, (((v.2.2.1.1.1, (v.2.2.1.1.2.1, (v.2.2.1.1.2.2.1, (v.2.2.1.1.2.2.2.1, (v.2.2.1.1.2.2.2.2.1, ()))))), ()), (((v.2.2.2.1.1.1, (v.2.2.2.1.1.2.1, (v.2.2.2.1.1.2.2.1, (v.2.2.2.1.1.2.2.2.1, (v.2.2.2.1.1.2.2.2.2.1, ()))))), ()), (v.2.2.2.2.1, (v.2.2.2.2.2.1, ())))))))
else none) : Option ((Int × Int × Int × Int × Int × Unit) × ((List Int) × Y11 × Y11 × Y2 × (List Bool) × Unit))).bind fun v80 =>
some (.inl (((w64 (v80.1.2.2.2.2.1 + 1)), (v80.1.1, (v80.1.2.1, (v80.1.2.2.1, (v80.1.2.2.2.1, ()))))), (v80.2.1, (((v80.2.2.1.1.1, (v80.2.2.1.1.2.1, (v80.2.2.1.1.2.2.1, (v80.2.2.1.1.2.2.2.1, (v80.2.2.1.1.2.2.2.2.1, ()))))), ()), (((v80.2.2.2.1.1.1, (v80.2.2.2.1.1.2.1, (v80.2.2.2.1.1.2.2.1, (v80.2.2.2.1.1.2.2.2.1, (v80.2.2.2.1.1.2.2.2.2.1, ()))))), ()), (v80.2.2.2.2.1, (v80.2.2.2.2.2.1, ()))))))))
else (some (.inr ((v.1.2.2.2.1, (v.1.2.2.1, (v.1.2.1, ()))), (((v.2.2.1.1.1, (v.2.2.1.1.2.1, (v.2.2.1.1.2.2.1, (v.2.2.1.1.2.2.2.1, (v.2.2.1.1.2.2.2.2.1, ()))))), ()), (((v.2.2.2.1.1.1, (v.2.2.2.1.1.2.1, (v.2.2.2.1.1.2.2.1, (v.2.2.2.1.1.2.2.2.1, (v.2.2.2.1.1.2.2.2.2.1, ()))))), ()), (v.2.2.2.2.1, (v.2.2.2.2.2.1, (v.2.1, ()))))))))

def l44_0_10 (v : ((Int × Int × Unit) × Y19)) : Option (((Int × Int × Unit) × Y19) ⊕ ((Unit) × Y19)) :=
bif (decide ((v.1.1 : Int) > v.2.1.1.2.2.2.2.1)) then ((((loopT l44_0_14 ((0, (0, (v.1.1, (v.1.2.1, (((v.2.2.2.2.2.1.length : Nat) : Int), ()))))), (v.2.2.2.2.2.1, (((v.2.1.1.1, (v.2.1.1.2.1, (v.2.1.1.2.2.1, (v.2.1.1.2.2.2.1, (v.2.1.1.2.2.2.2.1, ()))))), ()), (((v.2.2.1.1.1, (v.2.2.1.1.2.1, (v.2.2.1.1.2.2.1, (v.2.2.1.1.2.2.2.1, (v.2.2.1.1.2.2.2.2.1, ()))))), ()), (v.2.2.2.1, (v.2.2.2.2.1, ()))))))).bind fun d81 =>
(((m28 ((d81.1.1, ()), ())).bind fun u82 =>
bif (decide ((d81.1.2.2.1 : Int) ≥ u82.1.1)) then (bif (decide ((0 : Int) ≤ (w64 (d81.1.2.1 - 1)) ∧ ((w64 (d81.1.2.1 - 1)) : Int) < d81.2.2.2.1.length)) then
(d81.2.2.2.1[(w64 (d81.1.2.1 - 1)).toNat]?).bind fun e83 =>
some ((((e83.1 : Int) == d81.2.1.1.2.1), (d81.1.1, (d81.1.2.1, ()))), (((d81.2.1.1.1, (d81.2.1.1.2.1, (d81.2.1.1.2.2.1, (d81.2.1.1.2.2.2.1, (d81.2.1.1.2.2.2.2.1, ()))))), ()), (((d81.2.2.1.1.1, (d81.2.2.1.1.2.1, (d81.2.2.1.1.2.2.1, (d81.2.2.1.1.2.2.2.1, (d81.2.2.1.1.2.2.2.2.1, ()))))), ()), (d81.2.2.2.1, (d81.2.2.2.2.1, (d81.2.2.2.2.2.1, ()))))))
else none)
else (some ((false, (d81.1.1, (d81.1.2.1, ()))), (((d81.2.1.1.1, (d81.2.1.1.2.1, (d81.2.1.1.2.2.1, (d81.2.1.1.2.2.2.1, (d81.2.1.1.2.2.2.2.1, ()))))), ()), (((d81.2.2.1.1.1, (d81.2.2.1.1.2.1, (d81.2.2.1.1.2.2.1, (d81.2.2.1.1.2.2.2.1, (d81.2.2.1.1.2.2.2.2.1, ()))))), ()), (d81.2.2.2.1, (d81.2.2.2.2.1, (d81.2.2.2.2.2.1, ())))))))) : Option ((Bool × Int × Int × Unit) × Y19)).bind fun v84 =>
bif v84.1.1 then (some ((v84.1.2.1, (v84.1.2.2.1, ())), (((v84.2.1.1.1, (v84.2.1.1.2.1, (v84.2.1.1.2.2.1, (v84.2.1.1.2.2.2.1, (v84.1.2.2.1, ()))))), ()), (((v84.2.2.1.1.1, (v84.2.2.1.1.2.1, (v84.2.2.1.1.2.2.1, (v84.2.2.1.1.2.2.2.1, (v84.2.2.1.1.2.2.2.2.1, ()))))), ()), (v84.2.2.2.1, (v84.2.2.2.2.1, (v84.2.2.2.2.2.1, ())))))))
else (some ((v84.1.2.1, (v84.1.2.2.1, ())), (((v84.2.1.1.1, (v84.2.1.1.2.1, (v84.2.1.1.2.2.1, (v84.2.1.1.2.2.2.1, (v84.2.1.1.2.2.2.2.1, ()))))), ()), (((v84.2.2.1.1.1, (v84.2.2.1.1.2.1, (v84.2.2.1.1.2.2.1, (v84.2.2.1.1.2.2.2.1, (v84.2.2.1.1.2.2.2.2.1, ()))))), ()), (v84.2.2.2.1, (v84.2.2.2.2.1, (v84.2.2.2.2.2.1, ())))))))) : Option ((Int × Int × Unit) × Y19)).bind fun v85 =>
some (.inl (((w64 (v85.1.2.1 - 1)), (v85.1.1, ())), (((v85.2.1.1.1, (v85.2.1.1.2.1, (v85.2.1.1.2.2.1, (v85.2.1.1.2.2.2.1, (v85.2.1.1.2.2.2.2.1, ()))))), ()), (((v85.2.2.1.1.1, (v85.2.2.1.1.2.1, (v85.2.2.1.1.2.2.1, (v85.2.2.1.1.2.2.2.1, (v85.2.2.1.1.2.2.2.2.1, ()))))), ()), (v85.2.2.2.1, (v85.2.2.2.2.1, (v85.2.2.2.2.2.1, ()))))))))
else (some (.inr ((), (((v.2.2.1.1.1, (v.2.2.1.1.2.1, (v.2.2.1.1.2.2.1, (v.2.2.1.1.2.2.2.1, (v.2.2.1.1.2.2.2.2.1, ()))))), ()), (((v.2.1.1.1, (v.2.1.1.2.1, (v.2.1.1.2.2.1, (v.2.1.1.2.2.2.1, (v.2.1.1.2.2.2.2.1, ()))))), ()), (v.2.2.2.1, (v.2.2.2.2.1, (v.2.2.2.2.2.1, ()))))))))

/- pagewatch/replica.Appended -/
def i44 : Abs.Sg := ⟨[0, 1, 2], (.dat (.int .i64) (.dat Z3 (.dat Z4 .nil))), .nil⟩

def o44 : Abs.Sg := ⟨[6], (.st (.ptr (0, 0) 8 0 0) .nil), (.box 8 (.dat Z3 .nil) .nil)⟩

def m44 (v : ((Int × Y7 × Y9 × Unit) × (Unit))) : Option ((Unit) × ((Y7 × Unit) × Unit)) :=
(m76 ((v.1.2.1, ()), ())).bind fun u71 =>
(m78 ((v.1.1, ((u71.2.1.1.1, (u71.2.1.1.2.1, (u71.2.1.1.2.2.1, (u71.2.1.1.2.2.2.1, (u71.2.2.1, (u71.2.1.1.2.2.2.2.1, (u71.2.2.2.1, (u71.2.2.2.2.1, ())))))))), (v.1.2.2.1, (4, ())))), ())).bind fun u72 =>
bif (!u72.1.1) then (some ((), (((u71.2.1.1.1, (u71.2.1.1.2.1, (u71.2.1.1.2.2.1, (u71.2.1.1.2.2.2.1, (u71.2.2.1, (u71.2.1.1.2.2.2.2.1, (u71.2.2.2.1, (u71.2.2.2.2.1, ())))))))), ()), ())))
else (let x73 := (decide ((v.1.2.2.1.2.2.2.1 : Int) > u71.2.1.1.2.1))
bif x73 then ((m79 (((u71.2.1.1.1, (u71.2.1.1.2.1, (u71.2.1.1.2.2.1, (u71.2.1.1.2.2.2.1, (u71.2.2.1, (u71.2.1.1.2.2.2.2.1, (u71.2.2.2.1, (u71.2.2.2.2.1, ())))))))), (v.1.2.2.1.2.2.2.1, ())), ())).bind fun u74 =>
some ((), ((u74.2.1.1, ()), ())))
else (((bif ((u71.2.1.1.2.2.2.1 : Int) != 2) then (some ((true, (v.1.1, ())), (((0, (0, (0, (0, (0, ()))))), ()), (((u71.2.1.1.1, (u71.2.1.1.2.1, (u71.2.1.1.2.2.1, (u71.2.1.1.2.2.2.1, (u71.2.1.1.2.2.2.2.1, ()))))), ()), ((v.1.2.2.1, ()), (u71.2.2.1, (u71.2.2.2.1, (u71.2.2.2.2.1, ()))))))))
else (bif ((v.1.2.2.1.2.2.2.1 : Int) != u71.2.1.1.2.1) then (some ((true, (v.1.1, ())), (((0, (0, (0, (0, (0, ()))))), ()), (((u71.2.1.1.1, (u71.2.1.1.2.1, (u71.2.1.1.2.2.1, (u71.2.1.1.2.2.2.1, (u71.2.1.1.2.2.2.2.1, ()))))), ()), ((v.1.2.2.1, ()), (u71.2.2.1, (u71.2.2.2.1, (u71.2.2.2.2.1, ()))))))))
else (bif (!v.1.2.2.1.2.2.2.2.2.2.2.2.1) then (some ((true, (v.1.1, ())), (((0, (0, (0, (0, (0, ()))))), ()), (((u71.2.1.1.1, (u71.2.1.1.2.1, (u71.2.1.1.2.2.1, (u71.2.1.1.2.2.2.1, (u71.2.1.1.2.2.2.2.1, ()))))), ()), ((v.1.2.2.1, ()), (u71.2.2.1, (u71.2.2.2.1, (u71.2.2.2.2.1, ()))))))))
else (bif (decide ((v.1.2.2.1.2.2.2.2.1 : Int) < 0)) then (some ((true, (v.1.1, ())), (((0, (0, (0, (0, (0, ()))))), ()), (((u71.2.1.1.1, (u71.2.1.1.2.1, (u71.2.1.1.2.2.1, (u71.2.1.1.2.2.2.1, (u71.2.1.1.2.2.2.2.1, ()))))), ()), ((v.1.2.2.1, ()), (u71.2.2.1, (u71.2.2.2.1, (u71.2.2.2.2.1, ()))))))))
else (let x75 := (decide ((v.1.2.2.1.2.2.2.2.1 : Int) > ((u71.2.2.1.length : Nat) : Int)))
some ((x75, (v.1.1, ())), (((0, (0, (0, (0, (0, ()))))), ()), (((u71.2.1.1.1, (u71.2.1.1.2.1, (u71.2.1.1.2.2.1, (u71.2.1.1.2.2.2.1, (u71.2.1.1.2.2.2.2.1, ()))))), ()), ((v.1.2.2.1, ()), (u71.2.2.1, (u71.2.2.2.1, (u71.2.2.2.2.1, ())))))))))))) : Option ((Bool × Int × Unit) × (Y11 × Y11 × (Y9 × Unit) × Y2 × (List Bool) × (List Int) × Unit))).bind fun v76 =>
bif v76.1.1 then (some ((), (((v76.2.2.1.1.1, (v76.2.2.1.1.2.1, (v76.2.2.1.1.2.2.1, (v76.2.2.1.1.2.2.2.1, (v76.2.2.2.2.1, (v76.2.2.1.1.2.2.2.2.1, (v76.2.2.2.2.2.1, (v76.2.2.2.2.2.2.1, ())))))))), ()), ())))
else (bif (decide ((0 : Int) ≤ v76.2.2.2.1.1.2.1 ∧ (v76.2.2.2.1.1.2.1 : Int) < v76.2.2.2.2.2.2.1.length)) then
(v76.2.2.2.2.2.2.1[v76.2.2.2.1.1.2.1.toNat]?).bind fun e77 =>
let x78 := (if (v76.2.2.2.1.1.2.2.2.2.1 : Int) > e77 then v76.2.2.2.1.1.2.2.2.2.1 else e77)
bif (decide ((0 : Int) ≤ v76.2.2.2.1.1.2.1 ∧ (v76.2.2.2.1.1.2.1 : Int) < v76.2.2.2.2.2.2.1.length)) then
bif (decide (v76.2.2.2.1.1.2.1.toNat < v76.2.2.2.2.2.2.1.length)) then
(loopT l44_0_10 ((((v76.2.2.2.2.1.length : Nat) : Int), (v76.1.2.1, ())), (((v76.2.2.1.1.1, (v76.2.2.1.1.2.1, (v76.2.2.1.1.2.2.1, (v76.2.2.1.1.2.2.2.1, (v76.2.2.1.1.2.2.2.2.1, ()))))), ()), (((v76.2.1.1.1, (v76.2.1.1.2.1, (v76.2.1.1.2.2.1, (v76.2.1.1.2.2.2.1, (v76.2.1.1.2.2.2.2.1, ()))))), ()), (v76.2.2.2.2.1, (v76.2.2.2.2.2.1, ((v76.2.2.2.2.2.2.1.set v76.2.2.2.1.1.2.1.toNat x78), ()))))))).bind fun d86 =>
some ((), (((d86.2.2.1.1.1, (d86.2.2.1.1.2.1, (d86.2.2.1.1.2.2.1, (d86.2.2.1.1.2.2.2.1, (d86.2.2.2.1, (d86.2.2.1.1.2.2.2.2.1, (d86.2.2.2.2.1, (d86.2.2.2.2.2.1, ())))))))), ()), ()))
else none
else none
else none)))

def sp44 : Abs.Spec := ⟨0, i44, o44, m44⟩

def an44 : Nat → Abs.FAn
  | 0 => Abs.FAn.mk (fun
    | 19 => some ⟨[108, 4, 0, 6, 7], (.dat .bool (.st (.ptr (0, 0) 8 0 0) (.dat (.int .i64) (.st (.ptr (1, 0) 8 0 0) (.dat (.int .i64) .nil))))), (.box 8 (.agg (.dat (.int .i64) (.dat (.int .i64) (.dat (.int .i64) (.dat (.int .i64) (.st (.own Z1 (2, 0)) (.dat (.int .i64) (.st (.own .bool (3, 0)) (.st (.own (.int .i64) (4, 0)) .nil)))))))) .nil) (.box 8 (.agg (.dat (.int .i64) (.dat (.int .i64) (.dat (.int .i64) (.dat (.int .i64) (.st .nil (.dat (.int .i64) (.st .nil (.st .nil .nil)))))))) .nil) (.arr Z1 false (.arr .bool false (.arr (.int .i64) false .nil)))))⟩
    | 6 => some ⟨[55, 6, 4, 0, 5], (.dat .bool (.st (.ptr (0, 0) 8 0 0) (.st (.ptr (1, 0) 8 0 0) (.dat (.int .i64) (.st (.ptr (2, 0) 9 0 0) .nil))))), (.box 8 (.agg (.dat (.int .i64) (.dat (.int .i64) (.dat (.int .i64) (.dat (.int .i64) (.st .nil (.dat (.int .i64) (.st .nil (.st .nil .nil)))))))) .nil) (.box 8 (.agg (.dat (.int .i64) (.dat (.int .i64) (.dat (.int .i64) (.dat (.int .i64) (.st (.own Z1 (3, 0)) (.dat (.int .i64) (.st (.own .bool (4, 0)) (.st (.own (.int .i64) (5, 0)) .nil)))))))) .nil) (.box 9 (.dat Z4 .nil) (.arr Z1 false (.arr .bool false (.arr (.int .i64) false .nil))))))⟩
    | _ => none) (fun
    | 11 => some (⟨[4, 0, 6, 7], (.st (.ptr (0, 0) 8 0 0) (.dat (.int .i64) (.st (.ptr (1, 0) 8 0 0) (.dat (.int .i64) .nil)))), (.box 8 (.agg (.dat (.int .i64) (.dat (.int .i64) (.dat (.int .i64) (.dat (.int .i64) (.st (.own Z1 (2, 0)) (.dat (.int .i64) (.st (.own .bool (3, 0)) (.st (.own (.int .i64) (4, 0)) .nil)))))))) .nil) (.box 8 (.agg (.dat (.int .i64) (.dat (.int .i64) (.dat (.int .i64) (.dat (.int .i64) (.st .nil (.dat (.int .i64) (.st .nil (.st .nil .nil)))))))) .nil) (.arr Z1 false (.arr .bool false (.arr (.int .i64) false .nil)))))⟩, none)
    | 18 => some (⟨[8, 7, 81, 4, 0, 6, 82, 83], (.dat (.int .i64) (.dat (.int .i64) (.st (.own (.int .i64) (0, 0)) (.st (.ptr (1, 0) 8 0 0) (.dat (.int .i64) (.st (.ptr (2, 0) 8 0 0) (.dat (.int .i64) (.dat (.int .i64) .nil)))))))), (.arr (.int .i64) false (.box 8 (.agg (.dat (.int .i64) (.dat (.int .i64) (.dat (.int .i64) (.dat (.int .i64) (.st (.own Z1 (3, 0)) (.dat (.int .i64) (.st (.own .bool (4, 0)) (.st (.own (.int .i64) (0, 0)) .nil)))))))) .nil) (.box 8 (.agg (.dat (.int .i64) (.dat (.int .i64) (.dat (.int .i64) (.dat (.int .i64) (.st .nil (.dat (.int .i64) (.st .nil (.st .nil .nil)))))))) .nil) (.arr Z1 false (.arr .bool false .nil)))))⟩, none)
    | _ => none) (fun
    | 10 => some ⟨⟨[7, 4, 0, 6], (.dat (.int .i64) (.st (.ptr (0, 0) 8 0 0) (.dat (.int .i64) (.st (.ptr (1, 0) 8 0 0) .nil)))), (.box 8 (.agg (.dat (.int .i64) (.dat (.int .i64) (.dat (.int .i64) (.dat (.int .i64) (.st (.own Z1 (2, 0)) (.dat (.int .i64) (.st (.own .bool (3, 0)) (.st (.own (.int .i64) (4, 0)) .nil)))))))) .nil) (.box 8 (.agg (.dat (.int .i64) (.dat (.int .i64) (.dat (.int .i64) (.dat (.int .i64) (.st .nil (.dat (.int .i64) (.st .nil (.st .nil .nil)))))))) .nil) (.arr Z1 false (.arr .bool false (.arr (.int .i64) false .nil)))))⟩, (.one (.exit 0) ⟨[6, 4], (.st (.ptr (0, 0) 8 0 0) (.st (.ptr (1, 0) 8 0 0) .nil)), (.box 8 (.agg (.dat (.int .i64) (.dat (.int .i64) (.dat (.int .i64) (.dat (.int .i64) (.st .nil (.dat (.int .i64) (.st .nil (.st .nil .nil)))))))) .nil) (.box 8 (.agg (.dat (.int .i64) (.dat (.int .i64) (.dat (.int .i64) (.dat (.int .i64) (.st (.own Z1 (2, 0)) (.dat (.int .i64) (.st (.own .bool (3, 0)) (.st (.own (.int .i64) (4, 0)) .nil)))))))) .nil) (.arr Z1 false (.arr .bool false (.arr (.int .i64) false .nil)))))⟩)⟩
    | 14 => some ⟨⟨[83, 8, 7, 81, 4, 0, 6, 82], (.dat (.int .i64) (.dat (.int .i64) (.dat (.int .i64) (.st (.own (.int .i64) (0, 0)) (.st (.ptr (1, 0) 8 0 0) (.dat (.int .i64) (.st (.ptr (2, 0) 8 0 0) (.dat (.int .i64) .nil)))))))), (.arr (.int .i64) false (.box 8 (.agg (.dat (.int .i64) (.dat (.int .i64) (.dat (.int .i64) (.dat (.int .i64) (.st (.own Z1 (3, 0)) (.dat (.int .i64) (.st (.own .bool (4, 0)) (.st (.own (.int .i64) (0, 0)) .nil)))))))) .nil) (.box 8 (.agg (.dat (.int .i64) (.dat (.int .i64) (.dat (.int .i64) (.dat (.int .i64) (.st .nil (.dat (.int .i64) (.st .nil (.st .nil .nil)))))))) .nil) (.arr Z1 false (.arr .bool false .nil)))))⟩, (.one (.exit 2) ⟨[4, 0, 6, 7, 8], (.st (.ptr (0, 0) 8 0 0) (.dat (.int .i64) (.st (.ptr (1, 0) 8 0 0) (.dat (.int .i64) (.dat (.int .i64) .nil))))), (.box 8 (.agg (.dat (.int .i64) (.dat (.int .i64) (.dat (.int .i64) (.dat (.int .i64) (.st (.own Z1 (2, 0)) (.dat (.int .i64) (.st (.own .bool (3, 0)) (.st (.own (.int .i64) (4, 0)) .nil)))))))) .nil) (.box 8 (.agg (.dat (.int .i64) (.dat (.int .i64) (.dat (.int .i64) (.dat (.int .i64) (.st .nil (.dat (.int .i64) (.st .nil (.st .nil .nil)))))))) .nil) (.arr Z1 false (.arr .bool false (.arr (.int .i64) false .nil)))))⟩)⟩
    | _ => none) (fun _ _ => 0)
  | _ => {}

theorem ok44 : Abs.SpecOK Try.prog 44 sp44 :=
  Abs.specOC_of (C := ctab) (mv := mvtab) ctab_ok (n := 12) (an := an44) (T := Abs.tabOf [(76, sp76), (78, sp78), (79, sp79), (28, sp28)]) good foll (Abs.tabOf_ok _ (by simp only [List.forall_mem_cons]; exact ⟨ok76, ok78, ok79, ok28, fun _ h => by cases h⟩)) rfl (by intro v; kernel_rfl)

def l50_0_3 (v : ((Int × Y2 × Int × Unit) × ((List Y10) × Unit))) : Option (((Int × Y2 × Int × Unit) × ((List Y10) × Unit)) ⊕ ((Unit) × ((List Y10) × Unit))) :=
bif (decide ((v.1.1 : Int) < v.1.2.2.1)) then (Abs.rowAt v.1.2.1 v.1.1 fun e26 _ =>
bif (decide (v.2.1.length + ([e26.2.1] : List Y10).length ≤ 4294967296)) then
let x27 := (v.2.1 ++ ([e26.2.1] : List Y10))
some (.inl (((w64 (v.1.1 + 1)), (v.1.2.1, (v.1.2.2.1, ()))), (x27, ())))
else none)
else (some (.inr ((), (v.2.1, ()))))

/- pagewatch/replica.Committed -/
def i50 : Abs.Sg := ⟨[0], (.dat Z3 .nil), .nil⟩

def o50 : Abs.Sg := ⟨[2], (.st (.own Z6 (0, 0)) .nil), (.arr Z6 false .nil)⟩

def m50 (v : ((Y7 × Unit) × (Unit))) : Option ((Unit) × ((List Y10) × Unit)) :=
let x24 := (if ((v.1.1.2.2.2.2.1.length : Int) : Int) < v.1.1.2.2.2.2.2.1 then (v.1.1.2.2.2.2.1.length : Int) else v.1.1.2.2.2.2.2.1)
bif (decide ((0 : Int) ≤ (if (x24 : Int) > 0 then x24 else 0))) then
bif (decide (0 ≤ (if (x24 : Int) > 0 then x24 else 0).toNat ∧ (if (x24 : Int) > 0 then x24 else 0).toNat ≤ v.1.1.2.2.2.2.1.length)) then
let x25 := (v.1.1.2.2.2.2.1.take (if (x24 : Int) > 0 then x24 else 0).toNat)
(loopT l50_0_3 ((0, (x25, ((x25.length : Int), ()))), ([], ()))).bind fun d28 =>
some ((), (d28.2.1, ()))
else none
else none

def sp50 : Abs.Spec := ⟨0, i50, o50, m50⟩

def an50 : Nat → Abs.FAn
  | 0 => Abs.FAn.mk (fun _ => none) (fun _ => none) (fun
    | 3 => some ⟨⟨[17, 3, 15, 16], (.dat (.int .i64) (.st (.own Z6 (0, 0)) (.dat (.row Z1) (.dat (.int .i64) .nil)))), (.arr Z6 false .nil)⟩, (.one (.exit 0) ⟨[3], (.st (.own Z6 (0, 0)) .nil), (.arr Z6 false .nil)⟩)⟩
    | _ => none) (fun _ _ => 0)
  | _ => {}

theorem ok50 : Abs.SpecOK Try.prog 50 sp50 :=
  Abs.specOC_of (C := ctab) (mv := mvtab) ctab_ok (n := 12) (an := an50) (T := Abs.tabOf []) good foll (Abs.tabOf_ok _ (fun _ h => by cases h)) rfl (by intro v; kernel_rfl)

def o7 : Abs.Sg := ⟨[2], (.dat .bool .nil), .nil⟩

/- pagewatch/replica.Restart -/
def i49 : Abs.Sg := ⟨[0, 1], (.dat (.int .i64) (.dat Z3 .nil)), .nil⟩

def o49 : Abs.Sg := ⟨[4, 5], (.st (.ptr (0, 0) 8 0 0) (.dat (.int .i64) .nil)), (.box 8 (.agg (.dat (.int .i64) (.dat (.int .i64) (.dat (.int .i64) (.dat (.int .i64) (.st (.own Z1 (1, 0)) (.dat (.int .i64) (.st .nil (.st .nil .nil)))))))) .nil) (.arr Z1 false .nil))⟩

def m49 (v : ((Int × Y7 × Unit) × (Unit))) : Option ((Int × Unit) × (Y11 × Y2 × Unit)) :=
(m26 ((v.1.1, (v.1.2.1, ())), ())).bind fun u7 =>
bif (!u7.1.1) then (some ((8, ()), (((0, (0, (0, (0, (0, ()))))), ()), ([], ()))))
else ((m76 ((v.1.2.1, ()), ())).bind fun u8 =>
some ((0, ()), (((u8.2.1.1.1, (u8.2.1.1.2.1, (u8.2.1.1.2.2.1, (0, (u8.2.1.1.2.2.2.2.1, ()))))), ()), (u8.2.2.1, ()))))

def sp49 : Abs.Spec := ⟨0, i49, o49, m49⟩

def an49 : Nat → Abs.FAn
  | _ => {}

theorem ok49 : Abs.SpecOK Try.prog 49 sp49 :=
  Abs.specOC_of (C := ctab) (mv := mvtab) ctab_ok (n := 12) (an := an49) (T := Abs.tabOf [(26, sp26), (76, sp76)]) good foll (Abs.tabOf_ok _ (by simp only [List.forall_mem_cons]; exact ⟨ok26, ok76, fun _ h => by cases h⟩)) rfl (by intro v; kernel_rfl)

/- pagewatch/region.in -/
def i99 : Abs.Sg := ⟨[0, 1, 2], (.dat (.int .i64) (.dat (.int .i64) (.dat (.int .i64) .nil))), .nil⟩

def o99 : Abs.Sg := ⟨[6], (.dat .bool .nil), .nil⟩

def m99 (v : (Y21 × (Unit))) : Option Y16 :=
((bif (decide ((v.1.1 : Int) ≥ v.1.2.1)) then (some (((decide ((v.1.1 : Int) ≤ v.1.2.2.1)), ()), ()))
else (some ((false, ()), ()))) : Option Y16).bind fun v1 =>
some ((v1.1.1, ()), ())

def sp99 : Abs.Spec := ⟨0, i99, o99, m99⟩

def an99 : Nat → Abs.FAn
  | 0 => Abs.FAn.mk (fun
    | 1 => some ⟨[6], (.dat .bool .nil), .nil⟩
    | _ => none) (fun _ => none) (fun _ => none) (fun _ _ => 0)
  | _ => {}

theorem ok99 : Abs.SpecOK Try.prog 99 sp99 :=
  Abs.specOC_of (C := ctab) (mv := mvtab) ctab_ok (n := 12) (an := an99) (T := Abs.tabOf []) good foll (Abs.tabOf_ok _ (fun _ h => by cases h)) rfl (by intro v; kernel_rfl)

def l61_0_5 (v : (Y21 × (((Unit) × Unit) × ((Unit) × Unit) × (List Y7) × (List Bool) × Unit))) : Option ((Y21 × (((Unit) × Unit) × ((Unit) × Unit) × (List Y7) × (List Bool) × Unit)) ⊕ ((Unit) × (((Unit) × Unit) × ((Unit) × Unit) × (List Y7) × (List Bool) × Unit))) :=
bif (decide ((v.1.1 : Int) < v.1.2.2.1)) then ((m39 ((v.1.1, (v.1.2.1, ())), ())).bind fun u27 =>
bif (decide (v.2.2.2.1.length + ([(u27.2.1.1.1, (u27.2.1.1.2.1, (u27.2.1.1.2.2.1, (u27.2.1.1.2.2.2.1, ([], (u27.2.1.1.2.2.2.2.1, ([], ([], ()))))))))] : List Y7).length ≤ 4294967296)) then
let x28 := (v.2.2.2.1 ++ ([(u27.2.1.1.1, (u27.2.1.1.2.1, (u27.2.1.1.2.2.1, (u27.2.1.1.2.2.2.1, ([], (u27.2.1.1.2.2.2.2.1, ([], ([], ()))))))))] : List Y7))
some (.inl (((w64 (v.1.1 + 1)), (v.1.2.1, (v.1.2.2.1, ()))), (((), ()), (((), ()), (x28, (v.2.2.2.2.1, ()))))))
else none)
else (some (.inr ((), (((), ()), (((), ()), (v.2.2.2.1, (v.2.2.2.2.1, ())))))))

/- pagewatch/region.New -/
def i61 : Abs.Sg := ⟨[0], (.dat (.int .i64) .nil), .nil⟩

def o61 : Abs.Sg := ⟨[2, 3], (.st (.ptr (0, 0) 4 0 0) (.dat (.int .i64) .nil)), (.box 4 (.agg (.st (.own Z3 (1, 0)) (.st .nil (.st (.own .bool (2, 0)) (.st .nil .nil)))) .nil) (.arr Z3 false (.arr .bool false .nil)))⟩

def m61 (v : ((Int × Unit) × (Unit))) : Option ((Int × Unit) × (((Unit) × Unit) × (List Y7) × (List Bool) × Unit)) :=
(m99 ((v.1.1, (1, (5, ()))), ())).bind fun u26 =>
bif (!u26.1.1) then (some ((1, ()), (((), ()), ([], ([], ())))))
else (bif (decide ((0 : Int) ≤ v.1.1 ∧ (v.1.1 : Int) ≤ v.1.1 ∧ (v.1.1 : Int) ≤ 4294967296)) then
(loopT l61_0_5 ((0, (v.1.1, (v.1.1, ()))), (((), ()), (((), ()), ([], ((List.replicate v.1.1.toNat (false : Bool)), ())))))).bind fun d29 =>
some ((0, ()), (((), ()), (d29.2.2.2.1, (d29.2.2.2.2.1, ()))))
else none)

def sp61 : Abs.Spec := ⟨0, i61, o61, m61⟩

def an61 : Nat → Abs.FAn
  | 0 => Abs.FAn.mk (fun _ => none) (fun _ => none) (fun
    | 5 => some ⟨⟨[16, 4, 0, 2, 15], (.dat (.int .i64) (.st (.ptr (0, 0) 4 0 0) (.dat (.int .i64) (.st (.ptr (1, 0) 4 0 0) (.dat (.int .i64) .nil))))), (.box 4 (.agg (.st (.own Z3 (2, 0)) (.st .nil (.st (.own .bool (3, 0)) (.st .nil .nil)))) .nil) (.box 4 (.agg (.st .nil (.st .nil (.st .nil (.st .nil .nil)))) .nil) (.arr Z3 false (.arr .bool false .nil))))⟩, (.one (.exit 0) ⟨[2, 4], (.st (.ptr (0, 0) 4 0 0) (.st (.ptr (1, 0) 4 0 0) .nil)), (.box 4 (.agg (.st .nil (.st .nil (.st .nil (.st .nil .nil)))) .nil) (.box 4 (.agg (.st (.own Z3 (2, 0)) (.st .nil (.st (.own .bool (3, 0)) (.st .nil .nil)))) .nil) (.arr Z3 false (.arr .bool false .nil))))⟩)⟩
    | _ => none) (fun _ _ => 0)
  | _ => {}

theorem ok61 : Abs.SpecOK Try.prog 61 sp61 :=
  Abs.specOC_of (C := ctab) (mv := mvtab) ctab_ok (n := 12) (an := an61) (T := Abs.tabOf [(99, sp99), (39, sp39)]) good foll (Abs.tabOf_ok _ (by simp only [List.forall_mem_cons]; exact ⟨ok99, ok39, fun _ h => by cases h⟩)) rfl (by intro v; kernel_rfl)

def l134_0_2 (v : ((Int × (List (Int × Int × Unit)) × Int × Unit) × (((Int × Int × Unit) × Unit) × Unit))) : Option (((Int × (List (Int × Int × Unit)) × Int × Unit) × (((Int × Int × Unit) × Unit) × Unit)) ⊕ (((Int × Unit) × (Unit)) ⊕ ((Unit) × (Unit)))) :=
bif (decide ((v.1.1 : Int) < v.1.2.2.1)) then (Abs.rowAt v.1.2.1 v.1.1 fun e19 _ =>
let x20 := (((v.2.1.1.1 : Int) == e19.1) && (((v.2.1.1.2.1 : Int) == e19.2.1) && true))
bif x20 then (some (.inr (.inl ((v.1.1, ()), ()))))
else (some (.inl (((w64 (v.1.1 + 1)), (v.1.2.1, (v.1.2.2.1, ()))), ((v.2.1.1, ()), ())))))
else (some (.inr (.inr ((), ()))))

/- slices.Index[[][2]int,[2]int] -/
def i134 : Abs.Sg := ⟨[0, 1], (.dat (.row Z12) (.dat Z12 .nil)), .nil⟩

def o134 : Abs.Sg := ⟨[4], (.dat (.int .i64) .nil), .nil⟩

def m134 (v : (((List (Int × Int × Unit)) × (Int × Int × Unit) × Unit) × (Unit))) : Option ((Int × Unit) × (Unit)) :=
(loopT l134_0_2 ((0, (v.1.1, ((v.1.1.length : Int), ()))), ((v.1.2.1, ()), ()))).bind fun d21 =>
sumE d21 (fun d22 => (some ((d22.1.1, ()), ()))) (fun d23 => (some (((-1), ()), ())))

def sp134 : Abs.Spec := ⟨0, i134, o134, m134⟩

def an134 : Nat → Abs.FAn
  | 0 => Abs.FAn.mk (fun _ => none) (fun _ => none) (fun
    | 2 => some ⟨⟨[8, 0, 3, 7], (.dat (.int .i64) (.dat (.row Z12) (.st (.ptr (0, 0) 2 0 0) (.dat (.int .i64) .nil)))), (.box 2 (.dat Z12 .nil) .nil)⟩, (.more .ret ⟨[4], (.dat (.int .i64) .nil), .nil⟩ (.one (.exit 0) ⟨[], .nil, .nil⟩))⟩
    | _ => none) (fun _ _ => 0)
  | _ => {}

theorem ok134 : Abs.SpecOK Try.prog 134 sp134 :=
  Abs.specOC_of (C := ctab) (mv := mvtab) ctab_ok (n := 12) (an := an134) (T := Abs.tabOf []) good foll (Abs.tabOf_ok _ (fun _ h => by cases h)) rfl (by intro v; kernel_rfl)

/- slices.Contains[[][2]int,[2]int] -/
def i108 : Abs.Sg := ⟨[0, 1], (.dat (.row Z12) (.dat Z12 .nil)), .nil⟩

def o108 : Abs.Sg := ⟨[4], (.dat .bool .nil), .nil⟩

def m108 (v : (((List (Int × Int × Unit)) × (Int × Int × Unit) × Unit) × (Unit))) : Option Y16 :=
(m134 ((v.1.1, (v.1.2.1, ())), ())).bind fun u2 =>
some (((decide ((u2.1.1 : Int) ≥ 0)), ()), ())

def sp108 : Abs.Spec := ⟨0, i108, o108, m108⟩

def an108 : Nat → Abs.FAn
  | _ => {}

theorem ok108 : Abs.SpecOK Try.prog 108 sp108 :=
  Abs.specOC_of (C := ctab) (mv := mvtab) ctab_ok (n := 12) (an := an108) (T := Abs.tabOf [(134, sp134)]) good foll (Abs.tabOf_ok _ (by simp only [List.forall_mem_cons]; exact ⟨ok134, fun _ h => by cases h⟩)) rfl (by intro v; kernel_rfl)

def l106_0_5 (v : ((Int × Int × (List Y7) × Int × Unit) × ((Y5 × Unit) × Unit))) : Option (((Int × Int × (List Y7) × Int × Unit) × ((Y5 × Unit) × Unit)) ⊕ (Y16 ⊕ ((Int × Unit) × ((Y5 × Unit) × Unit)))) :=
bif (decide ((v.1.1 : Int) < v.1.2.2.2.1)) then (Abs.rowAt v.1.2.2.1 v.1.1 fun e109 _ =>
((bif ((e109.1 : Int) != v.1.1) then (some ((true, (v.1.2.1, (v.1.2.2.1, (v.1.2.2.2.1, (v.1.1, ()))))), ((v.2.1.1, ()), ())))
else ((m26 ((v.1.2.1, (e109, ())), ())).bind fun u110 =>
some (((!u110.1.1), (v.1.2.1, (v.1.2.2.1, (v.1.2.2.2.1, (v.1.1, ()))))), ((v.2.1.1, ()), ())))) : Option ((Bool × Int × (List Y7) × Int × Int × Unit) × ((Y5 × Unit) × Unit))).bind fun v111 =>
bif v111.1.1 then (some (.inr (.inl ((false, ()), ()))))
else (some (.inl (((w64 (v111.1.2.2.2.2.1 + 1)), (v111.1.2.1, (v111.1.2.2.1, (v111.1.2.2.2.1, ())))), ((v111.2.1.1, ()), ())))))
else (some (.inr (.inr ((v.1.2.1, ()), ((v.2.1.1, ()), ())))))

def l106_0_11 (v : ((Int × Int × (List Y9) × Int × Unit) × ((Y5 × Unit) × Unit))) : Option (((Int × Int × (List Y9) × Int × Unit) × ((Y5 × Unit) × Unit)) ⊕ (Y16 ⊕ ((Int × Unit) × ((Y5 × Unit) × Unit)))) :=
bif (decide ((v.1.1 : Int) < v.1.2.2.2.1)) then (Abs.rowAt v.1.2.2.1 v.1.1 fun e115 _ =>
(((m99 ((e115.2.1, (0, ((w64 (v.1.2.1 - 1)), ()))), ())).bind fun u116 =>
bif (!u116.1.1) then (some ((true, (v.1.2.1, (v.1.2.2.1, (v.1.2.2.2.1, (v.1.1, ()))))), ((v.2.1.1, ()), ())))
else ((m99 ((e115.2.2.1, (0, ((w64 (v.1.2.1 - 1)), ()))), ())).bind fun u117 =>
bif (!u117.1.1) then (some ((true, (v.1.2.1, (v.1.2.2.1, (v.1.2.2.2.1, (v.1.1, ()))))), ((v.2.1.1, ()), ())))
else (some ((((e115.2.1 : Int) == e115.2.2.1), (v.1.2.1, (v.1.2.2.1, (v.1.2.2.2.1, (v.1.1, ()))))), ((v.2.1.1, ()), ()))))) : Option ((Bool × Int × (List Y9) × Int × Int × Unit) × ((Y5 × Unit) × Unit))).bind fun v118 =>
bif v118.1.1 then (some (.inr (.inl ((false, ()), ()))))
else (some (.inl (((w64 (v118.1.2.2.2.2.1 + 1)), (v118.1.2.1, (v118.1.2.2.1, (v118.1.2.2.2.1, ())))), ((v118.2.1.1, ()), ())))))
else (some (.inr (.inr ((v.1.2.1, ()), ((v.2.1.1, ()), ())))))

def l106_0_17 (v : ((Int × Int × (List (Int × Int × Unit)) × Int × Unit) × ((Y5 × Unit) × Unit))) : Option (((Int × Int × (List (Int × Int × Unit)) × Int × Unit) × ((Y5 × Unit) × Unit)) ⊕ (Y16 ⊕ ((Unit) × (Unit)))) :=
bif (decide ((v.1.1 : Int) < v.1.2.2.2.1)) then (Abs.rowAt v.1.2.2.1 v.1.1 fun e122 _ =>
(((m99 ((e122.1, (0, ((w64 (v.1.2.1 - 1)), ()))), ())).bind fun u123 =>
bif (!u123.1.1) then (some ((true, (v.1.2.1, (v.1.2.2.1, (v.1.2.2.2.1, (v.1.1, ()))))), ((v.2.1.1, ()), ())))
else ((m99 ((e122.2.1, ((w64 (e122.1 + 1)), ((w64 (v.1.2.1 - 1)), ()))), ())).bind fun u124 =>
bif (!u124.1.1) then (some ((true, (v.1.2.1, (v.1.2.2.1, (v.1.2.2.2.1, (v.1.1, ()))))), ((v.2.1.1, ()), ())))
else (bif (decide ((0 : Int) ≤ v.1.1)) then
bif (decide (0 ≤ v.1.1.toNat ∧ v.1.1.toNat ≤ v.2.1.1.2.2.2.1.length)) then
(m108 (((v.2.1.1.2.2.2.1.take v.1.1.toNat), (e122, ())), ())).bind fun u125 =>
some ((u125.1.1, (v.1.2.1, (v.1.2.2.1, (v.1.2.2.2.1, (v.1.1, ()))))), ((v.2.1.1, ()), ()))
else none
else none))) : Option ((Bool × Int × (List (Int × Int × Unit)) × Int × Int × Unit) × ((Y5 × Unit) × Unit))).bind fun v126 =>
bif v126.1.1 then (some (.inr (.inl ((false, ()), ()))))
else (some (.inl (((w64 (v126.1.2.2.2.2.1 + 1)), (v126.1.2.1, (v126.1.2.2.1, (v126.1.2.2.2.1, ())))), ((v126.2.1.1, ()), ())))))
else (some (.inr (.inr ((), ()))))

/- pagewatch/region.Check -/
def i106 : Abs.Sg := ⟨[0], (.dat Z8 .nil), .nil⟩

def o106 : Abs.Sg := ⟨[2], (.dat .bool .nil), .nil⟩

def m106 (v : ((Y5 × Unit) × (Unit))) : Option Y16 :=
(((m99 (((v.1.1.1.length : Int), (1, (5, ()))), ())).bind fun u105 =>
bif (!u105.1.1) then (some ((true, ((v.1.1.1.length : Int), ())), ((v.1.1, ()), ())))
else (let x106 := (((v.1.1.2.2.1.length : Int) : Int) != (v.1.1.1.length : Int))
bif x106 then (some ((true, ((v.1.1.1.length : Int), ())), ((v.1.1, ()), ())))
else (let x107 := (decide (((v.1.1.2.1.length : Int) : Int) > 256))
some ((x107, ((v.1.1.1.length : Int), ())), ((v.1.1, ()), ()))))) : Option ((Bool × Int × Unit) × ((Y5 × Unit) × Unit))).bind fun v108 =>
bif v108.1.1 then (some ((false, ()), ()))
else ((loopT l106_0_5 ((0, (v108.1.2.1, (v108.2.1.1.1, ((v108.2.1.1.1.length : Int), ())))), ((v108.2.1.1, ()), ()))).bind fun d112 =>
sumE d112 (fun d113 => (some ((d113.1.1, ()), ()))) (fun d114 => ((loopT l106_0_11 ((0, (d114.1.1, (d114.2.1.1.2.1, ((d114.2.1.1.2.1.length : Int), ())))), ((d114.2.1.1, ()), ()))).bind fun d119 =>
sumE d119 (fun d120 => (some ((d120.1.1, ()), ()))) (fun d121 => ((loopT l106_0_17 ((0, (d121.1.1, (d121.2.1.1.2.2.2.1, ((d121.2.1.1.2.2.2.1.length : Int), ())))), ((d121.2.1.1, ()), ()))).bind fun d127 =>
sumE d127 (fun d128 => (some ((d128.1.1, ()), ()))) (fun d129 => (some ((true, ()), ()))))))))

def sp106 : Abs.Spec := ⟨0, i106, o106, m106⟩

def an106 : Nat → Abs.FAn
  | 0 => Abs.FAn.mk (fun
    | 19 => some ⟨[109, 1, 3, 78, 79, 80], (.dat .bool (.st (.ptr (0, 0) 4 0 0) (.dat (.int .i64) (.dat (.row Z12) (.dat (.int .i64) (.dat (.int .i64) .nil)))))), (.box 4 (.dat Z8 .nil) .nil)⟩
    | 13 => some ⟨[75, 3, 49, 1, 50, 51], (.dat .bool (.dat (.int .i64) (.dat (.row Z4) (.st (.ptr (0, 0) 4 0 0) (.dat (.int .i64) (.dat (.int .i64) .nil)))))), (.box 4 (.dat Z8 .nil) .nil)⟩
    | 7 => some ⟨[46, 3, 30, 1, 31, 32], (.dat .bool (.dat (.int .i64) (.dat (.row Z3) (.st (.ptr (0, 0) 4 0 0) (.dat (.int .i64) (.dat (.int .i64) .nil)))))), (.box 4 (.dat Z8 .nil) .nil)⟩
    | 2 => some ⟨[28, 3, 1], (.dat .bool (.dat (.int .i64) (.st (.ptr (0, 0) 4 0 0) .nil))), (.box 4 (.dat Z8 .nil) .nil)⟩
    | _ => none) (fun _ => none) (fun
    | 17 => some ⟨⟨[80, 1, 3, 78, 79], (.dat (.int .i64) (.st (.ptr (0, 0) 4 0 0) (.dat (.int .i64) (.dat (.row Z12) (.dat (.int .i64) .nil))))), (.box 4 (.dat Z8 .nil) .nil)⟩, (.more .ret ⟨[2], (.dat .bool .nil), .nil⟩ (.one (.exit 4) ⟨[], .nil, .nil⟩))⟩
    | 11 => some ⟨⟨[51, 3, 49, 1, 50], (.dat (.int .i64) (.dat (.int .i64) (.dat (.row Z4) (.st (.ptr (0, 0) 4 0 0) (.dat (.int .i64) .nil))))), (.box 4 (.dat Z8 .nil) .nil)⟩, (.more .ret ⟨[2], (.dat .bool .nil), .nil⟩ (.one (.exit 2) ⟨[1, 3], (.st (.ptr (0, 0) 4 0 0) (.dat (.int .i64) .nil)), (.box 4 (.dat Z8 .nil) .nil)⟩))⟩
    | 5 => some ⟨⟨[32, 3, 30, 1, 31], (.dat (.int .i64) (.dat (.int .i64) (.dat (.row Z3) (.st (.ptr (0, 0) 4 0 0) (.dat (.int .i64) .nil))))), (.box 4 (.dat Z8 .nil) .nil)⟩, (.more .ret ⟨[2], (.dat .bool .nil), .nil⟩ (.one (.exit 0) ⟨[3, 1], (.dat (.int .i64) (.st (.ptr (0, 0) 4 0 0) .nil)), (.box 4 (.dat Z8 .nil) .nil)⟩))⟩
    | _ => none) (fun _ _ => 0)
  | _ => {}

theorem ok106 : Abs.SpecOK Try.prog 106 sp106 :=
  Abs.specOC_of (C := ctab) (mv := mvtab) ctab_ok (n := 12) (an := an106) (T := Abs.tabOf [(99, sp99), (26, sp26), (108, sp108)]) good foll (Abs.tabOf_ok _ (by simp only [List.forall_mem_cons]; exact ⟨ok99, ok26, ok108, fun _ h => by cases h⟩)) rfl (by intro v; kernel_rfl)

/- pagewatch/region.check -/
def i107 : Abs.Sg := ⟨[0, 1, 2], (.dat Z8 (.dat (.int .i64) (.dat (.int .i64) .nil))), .nil⟩

def o107 : Abs.Sg := ⟨[6], (.dat (.int .i64) .nil), .nil⟩

def m107 (v : ((Y5 × Int × Int × Unit) × (Unit))) : Option ((Int × Unit) × (Unit)) :=
(m106 ((v.1.1, ()), ())).bind fun u8 =>
bif (!u8.1.1) then (some ((8, ()), ()))
else ((m99 ((v.1.2.1, (0, ((w64 (v.1.2.2.1 - 1)), ()))), ())).bind fun u9 =>
bif (!u9.1.1) then (some ((3, ()), ()))
else (some ((0, ()), ())))

def sp107 : Abs.Spec := ⟨0, i107, o107, m107⟩

def an107 : Nat → Abs.FAn
  | _ => {}

theorem ok107 : Abs.SpecOK Try.prog 107 sp107 :=
  Abs.specOC_of (C := ctab) (mv := mvtab) ctab_ok (n := 12) (an := an107) (T := Abs.tabOf [(106, sp106), (99, sp99)]) good foll (Abs.tabOf_ok _ (by simp only [List.forall_mem_cons]; exact ⟨ok106, ok99, fun _ h => by cases h⟩)) rfl (by intro v; kernel_rfl)

/- pagewatch/region.up -/
def i100 : Abs.Sg := ⟨[0, 1], (.dat Z8 (.dat (.int .i64) .nil)), .nil⟩

def o100 : Abs.Sg := ⟨[4], (.dat (.int .i64) .nil), .nil⟩

def m100 (v : Y22) : Option ((Int × Unit) × (Unit)) :=
(m107 ((v.1.1, (v.1.2.1, ((v.1.1.1.length : Int), ()))), ())).bind fun u8 =>
bif ((u8.1.1 : Int) != 0) then (some ((u8.1.1, ()), ()))
else (Abs.rowAt v.1.1.2.2.1 v.1.2.1 fun e9 _ =>
bif e9 then (some ((21, ()), ()))
else (some ((0, ()), ())))

def sp100 : Abs.Spec := ⟨0, i100, o100, m100⟩

def an100 : Nat → Abs.FAn
  | _ => {}

theorem ok100 : Abs.SpecOK Try.prog 100 sp100 :=
  Abs.specOC_of (C := ctab) (mv := mvtab) ctab_ok (n := 12) (an := an100) (T := Abs.tabOf [(107, sp107)]) good foll (Abs.tabOf_ok _ (by simp only [List.forall_mem_cons]; exact ⟨ok107, fun _ h => by cases h⟩)) rfl (by intro v; kernel_rfl)

/- slices.Clone[[]pagewatch/api.Replica,pagewatch/api.Replica]: the copy of a row -/
def i131 : Abs.Sg := ⟨[0], (.dat (.row Z3) .nil), .nil⟩

def o131 : Abs.Sg := ⟨[2], (.st (.own Z3 (0, 0)) .nil), (.arr Z3 false .nil)⟩

def m131 (v : (((List Y7) × Unit) × (Unit))) : Option ((Unit) × ((List Y7) × Unit)) :=
bif (decide (v.1.1.length ≤ 4294967296)) then some ((), (v.1.1, ())) else none

def sp131 : Abs.Spec := ⟨0, i131, o131, m131⟩

theorem ok131 : Abs.SpecOK Try.prog 131 sp131 :=
  Abs.clone_ok (N := note) (t := Z3) foll (Abs.specOK_of (n := 12) (an := fun _ => {}) (T := Abs.tabOf []) good foll (Abs.tabOf_ok _ (fun _ h => by cases h)) rfl (by intro v; kernel_rfl)) (by kernel_rfl) (by kernel_rfl)

/- slices.Clone[[]pagewatch/api.Message,pagewatch/api.Message]: the copy of a row -/
def i132 : Abs.Sg := ⟨[0], (.dat (.row Z4) .nil), .nil⟩

def o132 : Abs.Sg := ⟨[2], (.st (.own Z4 (0, 0)) .nil), (.arr Z4 false .nil)⟩

def m132 (v : (((List Y9) × Unit) × (Unit))) : Option ((Unit) × ((List Y9) × Unit)) :=
bif (decide (v.1.1.length ≤ 4294967296)) then some ((), (v.1.1, ())) else none

def sp132 : Abs.Spec := ⟨0, i132, o132, m132⟩

theorem ok132 : Abs.SpecOK Try.prog 132 sp132 :=
  Abs.clone_ok (N := note) (t := Z4) foll (Abs.specOK_of (n := 12) (an := fun _ => {}) (T := Abs.tabOf []) good foll (Abs.tabOf_ok _ (fun _ h => by cases h)) rfl (by intro v; kernel_rfl)) (by kernel_rfl) (by kernel_rfl)

/- slices.Clone[[][2]int,[2]int]: the copy of a row -/
def i133 : Abs.Sg := ⟨[0], (.dat (.row Z12) .nil), .nil⟩

def o133 : Abs.Sg := ⟨[2], (.st (.own Z12 (0, 0)) .nil), (.arr Z12 false .nil)⟩

def m133 (v : (((List (Int × Int × Unit)) × Unit) × (Unit))) : Option ((Unit) × ((List (Int × Int × Unit)) × Unit)) :=
bif (decide (v.1.1.length ≤ 4294967296)) then some ((), (v.1.1, ())) else none

def sp133 : Abs.Spec := ⟨0, i133, o133, m133⟩

theorem ok133 : Abs.SpecOK Try.prog 133 sp133 :=
  Abs.clone_ok (N := note) (t := Z12) foll (Abs.specOK_of (n := 12) (an := fun _ => {}) (T := Abs.tabOf []) good foll (Abs.tabOf_ok _ (fun _ h => by cases h)) rfl (by intro v; kernel_rfl)) (by kernel_rfl) (by kernel_rfl)

def l101_0_3 (v : ((Int × Int × Unit) × Y17)) : Option (((Int × Int × Unit) × Y17) ⊕ ((Unit) × Y17)) :=
bif (decide ((v.1.1 : Int) < v.1.2.1)) then (bif (decide ((0 : Int) ≤ v.1.1 ∧ (v.1.1 : Int) < v.2.2.2.1.length)) then
(v.2.2.2.1[v.1.1.toNat]?).bind fun e47 =>
(m76 ((e47, ()), ())).bind fun u48 =>
bif (decide ((0 : Int) ≤ v.1.1 ∧ (v.1.1 : Int) < v.2.2.2.1.length)) then
bif (decide (v.1.1.toNat < v.2.2.2.1.length)) then
some (.inl (((w64 (v.1.1 + 1)), (v.1.2.1, ())), (((), ()), (((), ()), ((v.2.2.2.1.set v.1.1.toNat (u48.2.1.1.1, (u48.2.1.1.2.1, (u48.2.1.1.2.2.1, (u48.2.1.1.2.2.2.1, (u48.2.2.1, (u48.2.1.1.2.2.2.2.1, (u48.2.2.2.1, (u48.2.2.2.2.1, ()))))))))), (v.2.2.2.2.1, (v.2.2.2.2.2.1, (v.2.2.2.2.2.2.1, ()))))))))
else none
else none
else none)
else (some (.inr ((), (((), ()), (((), ()), (v.2.2.2.1, (v.2.2.2.2.1, (v.2.2.2.2.2.1, (v.2.2.2.2.2.2.1, ())))))))))

def l101_0_8 (v : ((Int × Int × Unit) × Y17)) : Option (((Int × Int × Unit) × Y17) ⊕ ((Unit) × Y17)) :=
bif (decide ((v.1.1 : Int) < v.1.2.1)) then (bif (decide ((0 : Int) ≤ v.1.1 ∧ (v.1.1 : Int) < v.2.2.2.2.1.length)) then
(v.2.2.2.2.1[v.1.1.toNat]?).bind fun e50 =>
(m91 ((e50.2.2.2.2.2.2.2.1, ()), ())).bind fun u51 =>
bif (decide ((0 : Int) ≤ v.1.1 ∧ (v.1.1 : Int) < v.2.2.2.2.1.length)) then
(v.2.2.2.2.1[v.1.1.toNat]?).bind fun e52 =>
some (.inl (((w64 (v.1.1 + 1)), (v.1.2.1, ())), (((), ()), (((), ()), (v.2.2.2.1, ((v.2.2.2.2.1.set v.1.1.toNat (e52.1, (e52.2.1, (e52.2.2.1, (e52.2.2.2.1, (e52.2.2.2.2.1, (e52.2.2.2.2.2.1, (e52.2.2.2.2.2.2.1, (u51.2.1, e52.2.2.2.2.2.2.2.2))))))))), (v.2.2.2.2.2.1, (v.2.2.2.2.2.2.1, ()))))))))
else none
else none)
else (some (.inr ((), (((), ()), (((), ()), (v.2.2.2.1, (v.2.2.2.2.1, (v.2.2.2.2.2.1, (v.2.2.2.2.2.2.1, ())))))))))

/- pagewatch/region.copied -/
def i101 : Abs.Sg := ⟨[0], (.dat Z8 .nil), .nil⟩

def o101 : Abs.Sg := ⟨[2], (.st (.ptr (0, 0) 4 0 0) .nil), (.box 4 (.agg (.st (.own Z3 (1, 0)) (.st (.own Z4 (2, 0)) (.st (.own .bool (3, 0)) (.st (.own Z12 (4, 0)) .nil)))) .nil) (.arr Z3 false (.arr Z4 false (.arr .bool false (.arr Z12 false .nil)))))⟩

def m101 (v : ((Y5 × Unit) × (Unit))) : Option ((Unit) × Y15) :=
(m131 ((v.1.1.1, ()), ())).bind fun u43 =>
(m132 ((v.1.1.2.1, ()), ())).bind fun u44 =>
(m125 ((v.1.1.2.2.1, ()), ())).bind fun u45 =>
(m133 ((v.1.1.2.2.2.1, ()), ())).bind fun u46 =>
(loopT l101_0_3 ((0, (((u43.2.1.length : Nat) : Int), ())), (((), ()), (((), ()), (u43.2.1, (u44.2.1, (u45.2.1, (u46.2.1, ())))))))).bind fun d49 =>
(loopT l101_0_8 ((0, (((d49.2.2.2.2.1.length : Nat) : Int), ())), (((), ()), (((), ()), (d49.2.2.2.1, (d49.2.2.2.2.1, (d49.2.2.2.2.2.1, (d49.2.2.2.2.2.2.1, ())))))))).bind fun d53 =>
some ((), (((), ()), (d53.2.2.2.1, (d53.2.2.2.2.1, (d53.2.2.2.2.2.1, (d53.2.2.2.2.2.2.1, ()))))))

def sp101 : Abs.Spec := ⟨0, i101, o101, m101⟩

def an101 : Nat → Abs.FAn
  | 0 => Abs.FAn.mk (fun _ => none) (fun _ => none) (fun
    | 8 => some ⟨⟨[41, 1, 2, 40], (.dat (.int .i64) (.st (.ptr (0, 0) 4 0 0) (.st (.ptr (1, 0) 4 0 0) (.dat (.int .i64) .nil)))), (.box 4 (.agg (.st (.own Z3 (2, 0)) (.st (.own Z4 (3, 0)) (.st (.own .bool (4, 0)) (.st (.own Z12 (5, 0)) .nil)))) .nil) (.box 4 (.agg (.st .nil (.st .nil (.st .nil (.st .nil .nil)))) .nil) (.arr Z3 false (.arr Z4 false (.arr .bool false (.arr Z12 false .nil))))))⟩, (.one (.exit 2) ⟨[2, 1], (.st (.ptr (0, 0) 4 0 0) (.st (.ptr (1, 0) 4 0 0) .nil)), (.box 4 (.agg (.st .nil (.st .nil (.st .nil (.st .nil .nil)))) .nil) (.box 4 (.agg (.st (.own Z3 (2, 0)) (.st (.own Z4 (3, 0)) (.st (.own .bool (4, 0)) (.st (.own Z12 (5, 0)) .nil)))) .nil) (.arr Z3 false (.arr Z4 false (.arr .bool false (.arr Z12 false .nil))))))⟩)⟩
    | 3 => some ⟨⟨[24, 1, 2, 23], (.dat (.int .i64) (.st (.ptr (0, 0) 4 0 0) (.st (.ptr (1, 0) 4 0 0) (.dat (.int .i64) .nil)))), (.box 4 (.agg (.st (.own Z3 (2, 0)) (.st (.own Z4 (3, 0)) (.st (.own .bool (4, 0)) (.st (.own Z12 (5, 0)) .nil)))) .nil) (.box 4 (.agg (.st .nil (.st .nil (.st .nil (.st .nil .nil)))) .nil) (.arr Z3 false (.arr Z4 false (.arr .bool false (.arr Z12 false .nil))))))⟩, (.one (.exit 0) ⟨[1, 2], (.st (.ptr (0, 0) 4 0 0) (.st (.ptr (1, 0) 4 0 0) .nil)), (.box 4 (.agg (.st (.own Z3 (2, 0)) (.st (.own Z4 (3, 0)) (.st (.own .bool (4, 0)) (.st (.own Z12 (5, 0)) .nil)))) .nil) (.box 4 (.agg (.st .nil (.st .nil (.st .nil (.st .nil .nil)))) .nil) (.arr Z3 false (.arr Z4 false (.arr .bool false (.arr Z12 false .nil))))))⟩)⟩
    | _ => none) (fun _ _ => 0)
  | _ => {}

theorem ok101 : Abs.SpecOK Try.prog 101 sp101 :=
  Abs.specOC_of (C := ctab) (mv := mvtab) ctab_ok (n := 12) (an := an101) (T := Abs.tabOf [(131, sp131), (132, sp132), (125, sp125), (133, sp133), (76, sp76), (91, sp91)]) good foll (Abs.tabOf_ok _ (by simp only [List.forall_mem_cons]; exact ⟨ok131, ok132, ok125, ok133, ok76, ok91, fun _ h => by cases h⟩)) rfl (by intro v; kernel_rfl)

/- 104 pagewatch/region.send: not told by a law: run where it is called -/

/- pagewatch/region.Stand -/
def i102 : Abs.Sg := ⟨[0, 1], (.dat Z8 (.dat (.int .i64) .nil)), .nil⟩

def o102 : Abs.Sg := ⟨[4, 5], (.st (.ptr (0, 0) 4 0 0) (.dat (.int .i64) .nil)), (.box 4 (.agg (.st (.own Z3 (1, 0)) (.st (.own Z4 (2, 0)) (.st (.own .bool (3, 0)) (.st (.own Z12 (4, 0)) .nil)))) .nil) (.arr Z3 false (.arr Z4 false (.arr .bool false (.arr Z12 false .nil)))))⟩

def m102 (v : Y22) : Option ((Int × Unit) × Y15) :=
(m100 ((v.1.1, (v.1.2.1, ())), ())).bind fun u19 =>
bif ((u19.1.1 : Int) != 0) then (some ((u19.1.1, ()), (((), ()), ([], ([], ([], ([], ())))))))
else ((m101 ((v.1.1, ()), ())).bind fun u20 =>
bif (decide ((0 : Int) ≤ v.1.2.1 ∧ (v.1.2.1 : Int) < u20.2.2.1.length)) then
(u20.2.2.1[v.1.2.1.toNat]?).bind fun e21 =>
(m23 ((((u20.2.2.1.length : Nat) : Int), (e21, ())), ())).bind fun u22 =>
bif ((u22.1.1 : Int) != 0) then (some ((u22.1.1, ()), (((), ()), ([], ([], ([], ([], ())))))))
else (bif (decide ((0 : Int) ≤ v.1.2.1 ∧ (v.1.2.1 : Int) < u20.2.2.1.length)) then
bif (decide (v.1.2.1.toNat < u20.2.2.1.length)) then
((let x23 := (w64 (((u20.2.2.2.1.length : Nat) : Int) + ((u22.2.2.1.length : Nat) : Int)))
bif (decide ((x23 : Int) > 256)) then (bif (decide ((u20.2.2.1.set v.1.2.1.toNat u22.2.1.1).length = (u20.2.2.1.set v.1.2.1.toNat u22.2.1.1).length) && (decide (u20.2.2.2.1.length = u20.2.2.2.1.length) && (decide (u20.2.2.2.2.1.length = u20.2.2.2.2.1.length) && (decide (u20.2.2.2.2.2.1.length = u20.2.2.2.2.2.1.length) && (decide (u22.2.2.1.length = u22.2.2.1.length) && true))))) then
some ((5, ()), (((), ()), ([], ([], ([], ([], ()))))))
else none)
else (bif (decide (u20.2.2.2.1.length + u22.2.2.1.length ≤ 4294967296)) then
bif (decide ((u20.2.2.1.set v.1.2.1.toNat u22.2.1.1).length = (u20.2.2.1.set v.1.2.1.toNat u22.2.1.1).length) && (decide (u20.2.2.2.1.length = u20.2.2.2.1.length) && (decide (u20.2.2.2.2.1.length = u20.2.2.2.2.1.length) && (decide (u20.2.2.2.2.2.1.length = u20.2.2.2.2.2.1.length) && (decide (u22.2.2.1.length = u22.2.2.1.length) && true))))) then
some ((0, ()), (((), ()), ((u20.2.2.1.set v.1.2.1.toNat u22.2.1.1), ((u20.2.2.2.1 ++ u22.2.2.1), (u20.2.2.2.2.1, (u20.2.2.2.2.2.1, ()))))))
else none
else none)) : Option ((Int × Unit) × Y15)).bind fun v24 =>
some ((v24.1.1, ()), (((), ()), (v24.2.2.1, (v24.2.2.2.1, (v24.2.2.2.2.1, (v24.2.2.2.2.2.1, ()))))))
else none
else none)
else none)

def sp102 : Abs.Spec := ⟨0, i102, o102, m102⟩

def an102 : Nat → Abs.FAn
  | 0 => Abs.FAn.mk (fun
    | 9 => some ⟨[4, 5], (.st (.ptr (0, 0) 4 0 0) (.dat (.int .i64) .nil)), (.box 4 (.agg (.st (.own Z3 (1, 0)) (.st (.own Z4 (2, 0)) (.st (.own .bool (3, 0)) (.st (.own Z12 (4, 0)) .nil)))) .nil) (.arr Z3 false (.arr Z4 false (.arr .bool false (.arr Z12 false .nil)))))⟩
    | _ => none) (fun _ => none) (fun _ => none) (fun
    | 9, 2 => 1
    | _, _ => 0)
  | _ => {}

theorem ok102 : Abs.SpecOK Try.prog 102 sp102 :=
  Abs.specOC_of (C := ctab) (mv := mvtab) ctab_ok (n := 12) (an := an102) (T := Abs.tabOf [(100, sp100), (101, sp101), (23, sp23)]) good foll (Abs.tabOf_ok _ (by simp only [List.forall_mem_cons]; exact ⟨ok100, ok101, ok23, fun _ h => by cases h⟩)) rfl (by intro v; kernel_rfl)

/- 135 slices.Delete[[]pagewatch/api.Message,pagewatch/api.Message]: not told by a law: run where it is called -/

/- 140 pagewatch/region.hearers$1$1: not told by a law: a closure -/

/- 139 pagewatch/region.hearers$1: not told by a law: a parameter -/

/- 138 pagewatch/region.hearers: not told by a law: run where it is called -/

/- 130 pagewatch/region.deliver: not told by a law: run where it is called -/

/- 103 pagewatch/region.drain: not told by a law: run where it is called -/

def l62_1_1 (v : ((Unit) × Y17)) : Option (((Unit) × Y17) ⊕ ((Unit) × Y17)) :=
let x457 := (decide ((((v.2.2.2.2.1.length : Nat) : Int) : Int) > 0))
bif x457 then (((bif (decide ((0 : Int) ≤ 0 ∧ (0 : Int) < v.2.2.2.2.1.length)) then
(v.2.2.2.2.1[0]?).bind fun e458 =>
bif (decide ((0 : Int) ≤ 0 ∧ (0 : Int) < 1 ∧ (1 : Int) ≤ v.2.2.2.2.1.length ∧ v.2.2.2.2.1.length ≤ 4294967296)) then
bif (decide (v.2.2.2.2.1.length = v.2.2.2.2.1.length) && true) then
bif ((e458.1 : Int) == 1) then (bif (decide ((0 : Int) ≤ e458.2.2.1 ∧ (e458.2.2.1 : Int) < v.2.2.2.2.2.1.length)) then
(v.2.2.2.2.2.1[e458.2.2.1.toNat]?).bind fun e459 =>
bif e459 then (bif (decide (v.2.2.2.1.length = v.2.2.2.1.length) && (decide (v.2.2.2.2.1.length = v.2.2.2.2.1.length) && (decide (v.2.2.2.2.2.1.length = v.2.2.2.2.2.1.length) && (decide (v.2.2.2.2.2.2.1.length = v.2.2.2.2.2.2.1.length) && true)))) then
some ((), (((), ()), (((), ()), (v.2.2.2.1, ((v.2.2.2.2.1.take 0 ++ v.2.2.2.2.1.drop 1), (v.2.2.2.2.2.1, (v.2.2.2.2.2.2.1, ())))))))
else none)
else (let x460 := (if (e458.2.2.1 : Int) < e458.2.1 then e458.2.2.1 else e458.2.1)
let x461 := (if (e458.2.2.1 : Int) > e458.2.1 then e458.2.2.1 else e458.2.1)
(m108 ((v.2.2.2.2.2.2.1, ((x460, (x461, ())), ())), ())).bind fun u462 =>
bif u462.1.1 then (bif (decide (v.2.2.2.1.length = v.2.2.2.1.length) && (decide (v.2.2.2.2.1.length = v.2.2.2.2.1.length) && (decide (v.2.2.2.2.2.1.length = v.2.2.2.2.2.1.length) && (decide (v.2.2.2.2.2.2.1.length = v.2.2.2.2.2.2.1.length) && true)))) then
some ((), (((), ()), (((), ()), (v.2.2.2.1, ((v.2.2.2.2.1.take 0 ++ v.2.2.2.2.1.drop 1), (v.2.2.2.2.2.1, (v.2.2.2.2.2.2.1, ())))))))
else none)
else (bif (decide ((0 : Int) ≤ e458.2.2.1 ∧ (e458.2.2.1 : Int) < v.2.2.2.1.length)) then
(v.2.2.2.1[e458.2.2.1.toNat]?).bind fun e463 =>
(m24 ((((v.2.2.2.1.length : Nat) : Int), (e463, (e458, ()))), ())).bind fun u464 =>
bif (decide ((0 : Int) ≤ e458.2.2.1 ∧ (e458.2.2.1 : Int) < v.2.2.2.1.length)) then
bif (decide (e458.2.2.1.toNat < v.2.2.2.1.length)) then
bif u464.1.1 then (bif (decide ((v.2.2.2.2.1.take 0 ++ v.2.2.2.2.1.drop 1).length + ([(u464.2.2.1.1.1, (u464.2.2.1.1.2.1, (u464.2.2.1.1.2.2.1, (u464.2.2.1.1.2.2.2.1, (u464.2.2.1.1.2.2.2.2.1, (u464.2.2.1.1.2.2.2.2.2.1, (u464.2.2.1.1.2.2.2.2.2.2.1, ([], (u464.2.2.1.1.2.2.2.2.2.2.2.1, ())))))))))] : List Y9).length ≤ 4294967296)) then
let x465 := ((v.2.2.2.2.1.take 0 ++ v.2.2.2.2.1.drop 1) ++ ([(u464.2.2.1.1.1, (u464.2.2.1.1.2.1, (u464.2.2.1.1.2.2.1, (u464.2.2.1.1.2.2.2.1, (u464.2.2.1.1.2.2.2.2.1, (u464.2.2.1.1.2.2.2.2.2.1, (u464.2.2.1.1.2.2.2.2.2.2.1, ([], (u464.2.2.1.1.2.2.2.2.2.2.2.1, ())))))))))] : List Y9))
bif (decide ((v.2.2.2.1.set e458.2.2.1.toNat u464.2.1.1).length = v.2.2.2.1.length) && (decide (v.2.2.2.2.1.length = v.2.2.2.2.1.length) && (decide (v.2.2.2.2.2.1.length = v.2.2.2.2.2.1.length) && (decide (v.2.2.2.2.2.2.1.length = v.2.2.2.2.2.2.1.length) && true)))) then
some ((), (((), ()), (((), ()), ((v.2.2.2.1.set e458.2.2.1.toNat u464.2.1.1), (x465, (v.2.2.2.2.2.1, (v.2.2.2.2.2.2.1, ())))))))
else none
else none)
else (bif (decide ((v.2.2.2.1.set e458.2.2.1.toNat u464.2.1.1).length = v.2.2.2.1.length) && (decide (v.2.2.2.2.1.length = v.2.2.2.2.1.length) && (decide (v.2.2.2.2.2.1.length = v.2.2.2.2.2.1.length) && (decide (v.2.2.2.2.2.2.1.length = v.2.2.2.2.2.2.1.length) && true)))) then
some ((), (((), ()), (((), ()), ((v.2.2.2.1.set e458.2.2.1.toNat u464.2.1.1), ((v.2.2.2.2.1.take 0 ++ v.2.2.2.2.1.drop 1), (v.2.2.2.2.2.1, (v.2.2.2.2.2.2.1, ())))))))
else none)
else none
else none
else none))
else none)
else (bif ((e458.1 : Int) == 2) then (bif (decide ((0 : Int) ≤ e458.2.2.1 ∧ (e458.2.2.1 : Int) < v.2.2.2.2.2.1.length)) then
(v.2.2.2.2.2.1[e458.2.2.1.toNat]?).bind fun e466 =>
bif e466 then (bif (decide (v.2.2.2.1.length = v.2.2.2.1.length) && (decide (v.2.2.2.2.1.length = v.2.2.2.2.1.length) && (decide (v.2.2.2.2.2.1.length = v.2.2.2.2.2.1.length) && (decide (v.2.2.2.2.2.2.1.length = v.2.2.2.2.2.2.1.length) && true)))) then
some ((), (((), ()), (((), ()), (v.2.2.2.1, ((v.2.2.2.2.1.take 0 ++ v.2.2.2.2.1.drop 1), (v.2.2.2.2.2.1, (v.2.2.2.2.2.2.1, ())))))))
else none)
else (let x467 := (if (e458.2.2.1 : Int) < e458.2.1 then e458.2.2.1 else e458.2.1)
let x468 := (if (e458.2.2.1 : Int) > e458.2.1 then e458.2.2.1 else e458.2.1)
(m108 ((v.2.2.2.2.2.2.1, ((x467, (x468, ())), ())), ())).bind fun u469 =>
bif u469.1.1 then (bif (decide (v.2.2.2.1.length = v.2.2.2.1.length) && (decide (v.2.2.2.2.1.length = v.2.2.2.2.1.length) && (decide (v.2.2.2.2.2.1.length = v.2.2.2.2.2.1.length) && (decide (v.2.2.2.2.2.2.1.length = v.2.2.2.2.2.2.1.length) && true)))) then
some ((), (((), ()), (((), ()), (v.2.2.2.1, ((v.2.2.2.2.1.take 0 ++ v.2.2.2.2.1.drop 1), (v.2.2.2.2.2.1, (v.2.2.2.2.2.2.1, ())))))))
else none)
else (bif (decide ((0 : Int) ≤ e458.2.2.1 ∧ (e458.2.2.1 : Int) < v.2.2.2.1.length)) then
(v.2.2.2.1[e458.2.2.1.toNat]?).bind fun e470 =>
(m36 ((((v.2.2.2.1.length : Nat) : Int), (e470, (e458, ()))), ())).bind fun u471 =>
bif (decide ((0 : Int) ≤ e458.2.2.1 ∧ (e458.2.2.1 : Int) < v.2.2.2.1.length)) then
bif (decide (e458.2.2.1.toNat < v.2.2.2.1.length)) then
bif (decide ((v.2.2.2.1.set e458.2.2.1.toNat u471.2.1.1).length = v.2.2.2.1.length) && (decide (v.2.2.2.2.1.length = v.2.2.2.2.1.length) && (decide (v.2.2.2.2.2.1.length = v.2.2.2.2.2.1.length) && (decide (v.2.2.2.2.2.2.1.length = v.2.2.2.2.2.2.1.length) && true)))) then
some ((), (((), ()), (((), ()), ((v.2.2.2.1.set e458.2.2.1.toNat u471.2.1.1), ((v.2.2.2.2.1.take 0 ++ v.2.2.2.2.1.drop 1), (v.2.2.2.2.2.1, (v.2.2.2.2.2.2.1, ())))))))
else none
else none
else none
else none))
else none)
else (bif ((e458.1 : Int) == 3) then (bif (decide ((0 : Int) ≤ e458.2.2.1 ∧ (e458.2.2.1 : Int) < v.2.2.2.2.2.1.length)) then
(v.2.2.2.2.2.1[e458.2.2.1.toNat]?).bind fun e472 =>
bif e472 then (bif (decide (v.2.2.2.1.length = v.2.2.2.1.length) && (decide (v.2.2.2.2.1.length = v.2.2.2.2.1.length) && (decide (v.2.2.2.2.2.1.length = v.2.2.2.2.2.1.length) && (decide (v.2.2.2.2.2.2.1.length = v.2.2.2.2.2.2.1.length) && true)))) then
some ((), (((), ()), (((), ()), (v.2.2.2.1, ((v.2.2.2.2.1.take 0 ++ v.2.2.2.2.1.drop 1), (v.2.2.2.2.2.1, (v.2.2.2.2.2.2.1, ())))))))
else none)
else (let x473 := (if (e458.2.2.1 : Int) < e458.2.1 then e458.2.2.1 else e458.2.1)
let x474 := (if (e458.2.2.1 : Int) > e458.2.1 then e458.2.2.1 else e458.2.1)
(m108 ((v.2.2.2.2.2.2.1, ((x473, (x474, ())), ())), ())).bind fun u475 =>
bif u475.1.1 then (bif (decide (v.2.2.2.1.length = v.2.2.2.1.length) && (decide (v.2.2.2.2.1.length = v.2.2.2.2.1.length) && (decide (v.2.2.2.2.2.1.length = v.2.2.2.2.2.1.length) && (decide (v.2.2.2.2.2.2.1.length = v.2.2.2.2.2.2.1.length) && true)))) then
some ((), (((), ()), (((), ()), (v.2.2.2.1, ((v.2.2.2.2.1.take 0 ++ v.2.2.2.2.1.drop 1), (v.2.2.2.2.2.1, (v.2.2.2.2.2.2.1, ())))))))
else none)
else (bif (decide ((0 : Int) ≤ e458.2.2.1 ∧ (e458.2.2.1 : Int) < v.2.2.2.1.length)) then
(v.2.2.2.1[e458.2.2.1.toNat]?).bind fun e476 =>
(m47 ((((v.2.2.2.1.length : Nat) : Int), (e476, (e458, ()))), ())).bind fun u477 =>
bif (decide ((0 : Int) ≤ e458.2.2.1 ∧ (e458.2.2.1 : Int) < v.2.2.2.1.length)) then
bif (decide (e458.2.2.1.toNat < v.2.2.2.1.length)) then
bif u477.1.1 then (bif (decide ((v.2.2.2.2.1.take 0 ++ v.2.2.2.2.1.drop 1).length + ([(u477.2.2.1.1.1, (u477.2.2.1.1.2.1, (u477.2.2.1.1.2.2.1, (u477.2.2.1.1.2.2.2.1, (u477.2.2.1.1.2.2.2.2.1, (u477.2.2.1.1.2.2.2.2.2.1, (u477.2.2.1.1.2.2.2.2.2.2.1, ([], (u477.2.2.1.1.2.2.2.2.2.2.2.1, ())))))))))] : List Y9).length ≤ 4294967296)) then
let x478 := ((v.2.2.2.2.1.take 0 ++ v.2.2.2.2.1.drop 1) ++ ([(u477.2.2.1.1.1, (u477.2.2.1.1.2.1, (u477.2.2.1.1.2.2.1, (u477.2.2.1.1.2.2.2.1, (u477.2.2.1.1.2.2.2.2.1, (u477.2.2.1.1.2.2.2.2.2.1, (u477.2.2.1.1.2.2.2.2.2.2.1, ([], (u477.2.2.1.1.2.2.2.2.2.2.2.1, ())))))))))] : List Y9))
bif (decide ((v.2.2.2.1.set e458.2.2.1.toNat u477.2.1.1).length = v.2.2.2.1.length) && (decide (v.2.2.2.2.1.length = v.2.2.2.2.1.length) && (decide (v.2.2.2.2.2.1.length = v.2.2.2.2.2.1.length) && (decide (v.2.2.2.2.2.2.1.length = v.2.2.2.2.2.2.1.length) && true)))) then
some ((), (((), ()), (((), ()), ((v.2.2.2.1.set e458.2.2.1.toNat u477.2.1.1), (x478, (v.2.2.2.2.2.1, (v.2.2.2.2.2.2.1, ())))))))
else none
else none)
else (bif (decide ((v.2.2.2.1.set e458.2.2.1.toNat u477.2.1.1).length = v.2.2.2.1.length) && (decide (v.2.2.2.2.1.length = v.2.2.2.2.1.length) && (decide (v.2.2.2.2.2.1.length = v.2.2.2.2.2.1.length) && (decide (v.2.2.2.2.2.2.1.length = v.2.2.2.2.2.2.1.length) && true)))) then
some ((), (((), ()), (((), ()), ((v.2.2.2.1.set e458.2.2.1.toNat u477.2.1.1), ((v.2.2.2.2.1.take 0 ++ v.2.2.2.2.1.drop 1), (v.2.2.2.2.2.1, (v.2.2.2.2.2.2.1, ())))))))
else none)
else none
else none
else none))
else none)
else (bif ((e458.1 : Int) == 4) then (bif (decide ((0 : Int) ≤ e458.2.2.1 ∧ (e458.2.2.1 : Int) < v.2.2.2.2.2.1.length)) then
(v.2.2.2.2.2.1[e458.2.2.1.toNat]?).bind fun e479 =>
bif e479 then (bif (decide (v.2.2.2.1.length = v.2.2.2.1.length) && (decide (v.2.2.2.2.1.length = v.2.2.2.2.1.length) && (decide (v.2.2.2.2.2.1.length = v.2.2.2.2.2.1.length) && (decide (v.2.2.2.2.2.2.1.length = v.2.2.2.2.2.2.1.length) && true)))) then
some ((), (((), ()), (((), ()), (v.2.2.2.1, ((v.2.2.2.2.1.take 0 ++ v.2.2.2.2.1.drop 1), (v.2.2.2.2.2.1, (v.2.2.2.2.2.2.1, ())))))))
else none)
else (let x480 := (if (e458.2.2.1 : Int) < e458.2.1 then e458.2.2.1 else e458.2.1)
let x481 := (if (e458.2.2.1 : Int) > e458.2.1 then e458.2.2.1 else e458.2.1)
(m108 ((v.2.2.2.2.2.2.1, ((x480, (x481, ())), ())), ())).bind fun u482 =>
bif u482.1.1 then (bif (decide (v.2.2.2.1.length = v.2.2.2.1.length) && (decide (v.2.2.2.2.1.length = v.2.2.2.2.1.length) && (decide (v.2.2.2.2.2.1.length = v.2.2.2.2.2.1.length) && (decide (v.2.2.2.2.2.2.1.length = v.2.2.2.2.2.2.1.length) && true)))) then
some ((), (((), ()), (((), ()), (v.2.2.2.1, ((v.2.2.2.2.1.take 0 ++ v.2.2.2.2.1.drop 1), (v.2.2.2.2.2.1, (v.2.2.2.2.2.2.1, ())))))))
else none)
else (bif (decide ((0 : Int) ≤ e458.2.2.1 ∧ (e458.2.2.1 : Int) < v.2.2.2.1.length)) then
(v.2.2.2.1[e458.2.2.1.toNat]?).bind fun e483 =>
(m44 ((((v.2.2.2.1.length : Nat) : Int), (e483, (e458, ()))), ())).bind fun u484 =>
bif (decide ((0 : Int) ≤ e458.2.2.1 ∧ (e458.2.2.1 : Int) < v.2.2.2.1.length)) then
bif (decide (e458.2.2.1.toNat < v.2.2.2.1.length)) then
bif (decide ((v.2.2.2.1.set e458.2.2.1.toNat u484.2.1.1).length = v.2.2.2.1.length) && (decide (v.2.2.2.2.1.length = v.2.2.2.2.1.length) && (decide (v.2.2.2.2.2.1.length = v.2.2.2.2.2.1.length) && (decide (v.2.2.2.2.2.2.1.length = v.2.2.2.2.2.2.1.length) && true)))) then
some ((), (((), ()), (((), ()), ((v.2.2.2.1.set e458.2.2.1.toNat u484.2.1.1), ((v.2.2.2.2.1.take 0 ++ v.2.2.2.2.1.drop 1), (v.2.2.2.2.2.1, (v.2.2.2.2.2.2.1, ())))))))
else none
else none
else none
else none))
else none)
else (bif (decide (v.2.2.2.1.length = v.2.2.2.1.length) && (decide (v.2.2.2.2.1.length = v.2.2.2.2.1.length) && (decide (v.2.2.2.2.2.1.length = v.2.2.2.2.2.1.length) && (decide (v.2.2.2.2.2.2.1.length = v.2.2.2.2.2.2.1.length) && true)))) then
some ((), (((), ()), (((), ()), (v.2.2.2.1, ((v.2.2.2.2.1.take 0 ++ v.2.2.2.2.1.drop 1), (v.2.2.2.2.2.1, (v.2.2.2.2.2.2.1, ())))))))
else none))))
else none
else none
else none) : Option ((Unit) × Y17)).bind fun v485 =>
some (.inl ((), (((), ()), (((), ()), (v485.2.2.2.1, (v485.2.2.2.2.1, (v485.2.2.2.2.2.1, (v485.2.2.2.2.2.2.1, ())))))))))
else (some (.inr ((), (((), ()), (((), ()), (v.2.2.2.1, (v.2.2.2.2.1, (v.2.2.2.2.2.1, (v.2.2.2.2.2.2.1, ())))))))))

def l62_4_1 (v : ((Unit) × Y17)) : Option (((Unit) × Y17) ⊕ ((Unit) × Y17)) :=
let x490 := (decide ((((v.2.2.2.2.1.length : Nat) : Int) : Int) > 0))
bif x490 then (((bif (decide ((0 : Int) ≤ 0 ∧ (0 : Int) < v.2.2.2.2.1.length)) then
(v.2.2.2.2.1[0]?).bind fun e491 =>
bif (decide ((0 : Int) ≤ 0 ∧ (0 : Int) < 1 ∧ (1 : Int) ≤ v.2.2.2.2.1.length ∧ v.2.2.2.2.1.length ≤ 4294967296)) then
bif (decide (v.2.2.2.2.1.length = v.2.2.2.2.1.length) && true) then
bif ((e491.1 : Int) == 1) then (bif (decide ((0 : Int) ≤ e491.2.2.1 ∧ (e491.2.2.1 : Int) < v.2.2.2.2.2.1.length)) then
(v.2.2.2.2.2.1[e491.2.2.1.toNat]?).bind fun e492 =>
bif e492 then (bif (decide (v.2.2.2.1.length = v.2.2.2.1.length) && (decide (v.2.2.2.2.1.length = v.2.2.2.2.1.length) && (decide (v.2.2.2.2.2.1.length = v.2.2.2.2.2.1.length) && (decide (v.2.2.2.2.2.2.1.length = v.2.2.2.2.2.2.1.length) && true)))) then
some ((), (((), ()), (((), ()), (v.2.2.2.1, ((v.2.2.2.2.1.take 0 ++ v.2.2.2.2.1.drop 1), (v.2.2.2.2.2.1, (v.2.2.2.2.2.2.1, ())))))))
else none)
else (let x493 := (if (e491.2.2.1 : Int) < e491.2.1 then e491.2.2.1 else e491.2.1)
let x494 := (if (e491.2.2.1 : Int) > e491.2.1 then e491.2.2.1 else e491.2.1)
(m108 ((v.2.2.2.2.2.2.1, ((x493, (x494, ())), ())), ())).bind fun u495 =>
bif u495.1.1 then (bif (decide (v.2.2.2.1.length = v.2.2.2.1.length) && (decide (v.2.2.2.2.1.length = v.2.2.2.2.1.length) && (decide (v.2.2.2.2.2.1.length = v.2.2.2.2.2.1.length) && (decide (v.2.2.2.2.2.2.1.length = v.2.2.2.2.2.2.1.length) && true)))) then
some ((), (((), ()), (((), ()), (v.2.2.2.1, ((v.2.2.2.2.1.take 0 ++ v.2.2.2.2.1.drop 1), (v.2.2.2.2.2.1, (v.2.2.2.2.2.2.1, ())))))))
else none)
else (bif (decide ((0 : Int) ≤ e491.2.2.1 ∧ (e491.2.2.1 : Int) < v.2.2.2.1.length)) then
(v.2.2.2.1[e491.2.2.1.toNat]?).bind fun e496 =>
(m24 ((((v.2.2.2.1.length : Nat) : Int), (e496, (e491, ()))), ())).bind fun u497 =>
bif (decide ((0 : Int) ≤ e491.2.2.1 ∧ (e491.2.2.1 : Int) < v.2.2.2.1.length)) then
bif (decide (e491.2.2.1.toNat < v.2.2.2.1.length)) then
bif u497.1.1 then (bif (decide ((v.2.2.2.2.1.take 0 ++ v.2.2.2.2.1.drop 1).length + ([(u497.2.2.1.1.1, (u497.2.2.1.1.2.1, (u497.2.2.1.1.2.2.1, (u497.2.2.1.1.2.2.2.1, (u497.2.2.1.1.2.2.2.2.1, (u497.2.2.1.1.2.2.2.2.2.1, (u497.2.2.1.1.2.2.2.2.2.2.1, ([], (u497.2.2.1.1.2.2.2.2.2.2.2.1, ())))))))))] : List Y9).length ≤ 4294967296)) then
let x498 := ((v.2.2.2.2.1.take 0 ++ v.2.2.2.2.1.drop 1) ++ ([(u497.2.2.1.1.1, (u497.2.2.1.1.2.1, (u497.2.2.1.1.2.2.1, (u497.2.2.1.1.2.2.2.1, (u497.2.2.1.1.2.2.2.2.1, (u497.2.2.1.1.2.2.2.2.2.1, (u497.2.2.1.1.2.2.2.2.2.2.1, ([], (u497.2.2.1.1.2.2.2.2.2.2.2.1, ())))))))))] : List Y9))
bif (decide ((v.2.2.2.1.set e491.2.2.1.toNat u497.2.1.1).length = v.2.2.2.1.length) && (decide (v.2.2.2.2.1.length = v.2.2.2.2.1.length) && (decide (v.2.2.2.2.2.1.length = v.2.2.2.2.2.1.length) && (decide (v.2.2.2.2.2.2.1.length = v.2.2.2.2.2.2.1.length) && true)))) then
some ((), (((), ()), (((), ()), ((v.2.2.2.1.set e491.2.2.1.toNat u497.2.1.1), (x498, (v.2.2.2.2.2.1, (v.2.2.2.2.2.2.1, ())))))))
else none
else none)
else (bif (decide ((v.2.2.2.1.set e491.2.2.1.toNat u497.2.1.1).length = v.2.2.2.1.length) && (decide (v.2.2.2.2.1.length = v.2.2.2.2.1.length) && (decide (v.2.2.2.2.2.1.length = v.2.2.2.2.2.1.length) && (decide (v.2.2.2.2.2.2.1.length = v.2.2.2.2.2.2.1.length) && true)))) then
some ((), (((), ()), (((), ()), ((v.2.2.2.1.set e491.2.2.1.toNat u497.2.1.1), ((v.2.2.2.2.1.take 0 ++ v.2.2.2.2.1.drop 1), (v.2.2.2.2.2.1, (v.2.2.2.2.2.2.1, ())))))))
else none)
else none
else none
else none))
else none)
else (bif ((e491.1 : Int) == 2) then (bif (decide ((0 : Int) ≤ e491.2.2.1 ∧ (e491.2.2.1 : Int) < v.2.2.2.2.2.1.length)) then
(v.2.2.2.2.2.1[e491.2.2.1.toNat]?).bind fun e499 =>
bif e499 then (bif (decide (v.2.2.2.1.length = v.2.2.2.1.length) && (decide (v.2.2.2.2.1.length = v.2.2.2.2.1.length) && (decide (v.2.2.2.2.2.1.length = v.2.2.2.2.2.1.length) && (decide (v.2.2.2.2.2.2.1.length = v.2.2.2.2.2.2.1.length) && true)))) then
some ((), (((), ()), (((), ()), (v.2.2.2.1, ((v.2.2.2.2.1.take 0 ++ v.2.2.2.2.1.drop 1), (v.2.2.2.2.2.1, (v.2.2.2.2.2.2.1, ())))))))
else none)
else (let x500 := (if (e491.2.2.1 : Int) < e491.2.1 then e491.2.2.1 else e491.2.1)
let x501 := (if (e491.2.2.1 : Int) > e491.2.1 then e491.2.2.1 else e491.2.1)
(m108 ((v.2.2.2.2.2.2.1, ((x500, (x501, ())), ())), ())).bind fun u502 =>
bif u502.1.1 then (bif (decide (v.2.2.2.1.length = v.2.2.2.1.length) && (decide (v.2.2.2.2.1.length = v.2.2.2.2.1.length) && (decide (v.2.2.2.2.2.1.length = v.2.2.2.2.2.1.length) && (decide (v.2.2.2.2.2.2.1.length = v.2.2.2.2.2.2.1.length) && true)))) then
some ((), (((), ()), (((), ()), (v.2.2.2.1, ((v.2.2.2.2.1.take 0 ++ v.2.2.2.2.1.drop 1), (v.2.2.2.2.2.1, (v.2.2.2.2.2.2.1, ())))))))
else none)
else (bif (decide ((0 : Int) ≤ e491.2.2.1 ∧ (e491.2.2.1 : Int) < v.2.2.2.1.length)) then
(v.2.2.2.1[e491.2.2.1.toNat]?).bind fun e503 =>
(m36 ((((v.2.2.2.1.length : Nat) : Int), (e503, (e491, ()))), ())).bind fun u504 =>
bif (decide ((0 : Int) ≤ e491.2.2.1 ∧ (e491.2.2.1 : Int) < v.2.2.2.1.length)) then
bif (decide (e491.2.2.1.toNat < v.2.2.2.1.length)) then
bif (decide ((v.2.2.2.1.set e491.2.2.1.toNat u504.2.1.1).length = v.2.2.2.1.length) && (decide (v.2.2.2.2.1.length = v.2.2.2.2.1.length) && (decide (v.2.2.2.2.2.1.length = v.2.2.2.2.2.1.length) && (decide (v.2.2.2.2.2.2.1.length = v.2.2.2.2.2.2.1.length) && true)))) then
some ((), (((), ()), (((), ()), ((v.2.2.2.1.set e491.2.2.1.toNat u504.2.1.1), ((v.2.2.2.2.1.take 0 ++ v.2.2.2.2.1.drop 1), (v.2.2.2.2.2.1, (v.2.2.2.2.2.2.1, ())))))))
else none
else none
else none
else none))
else none)
else (bif ((e491.1 : Int) == 3) then (bif (decide ((0 : Int) ≤ e491.2.2.1 ∧ (e491.2.2.1 : Int) < v.2.2.2.2.2.1.length)) then
(v.2.2.2.2.2.1[e491.2.2.1.toNat]?).bind fun e505 =>
bif e505 then (bif (decide (v.2.2.2.1.length = v.2.2.2.1.length) && (decide (v.2.2.2.2.1.length = v.2.2.2.2.1.length) && (decide (v.2.2.2.2.2.1.length = v.2.2.2.2.2.1.length) && (decide (v.2.2.2.2.2.2.1.length = v.2.2.2.2.2.2.1.length) && true)))) then
some ((), (((), ()), (((), ()), (v.2.2.2.1, ((v.2.2.2.2.1.take 0 ++ v.2.2.2.2.1.drop 1), (v.2.2.2.2.2.1, (v.2.2.2.2.2.2.1, ())))))))
else none)
else (let x506 := (if (e491.2.2.1 : Int) < e491.2.1 then e491.2.2.1 else e491.2.1)
let x507 := (if (e491.2.2.1 : Int) > e491.2.1 then e491.2.2.1 else e491.2.1)
(m108 ((v.2.2.2.2.2.2.1, ((x506, (x507, ())), ())), ())).bind fun u508 =>
bif u508.1.1 then (bif (decide (v.2.2.2.1.length = v.2.2.2.1.length) && (decide (v.2.2.2.2.1.length = v.2.2.2.2.1.length) && (decide (v.2.2.2.2.2.1.length = v.2.2.2.2.2.1.length) && (decide (v.2.2.2.2.2.2.1.length = v.2.2.2.2.2.2.1.length) && true)))) then
some ((), (((), ()), (((), ()), (v.2.2.2.1, ((v.2.2.2.2.1.take 0 ++ v.2.2.2.2.1.drop 1), (v.2.2.2.2.2.1, (v.2.2.2.2.2.2.1, ())))))))
else none)
else (bif (decide ((0 : Int) ≤ e491.2.2.1 ∧ (e491.2.2.1 : Int) < v.2.2.2.1.length)) then
(v.2.2.2.1[e491.2.2.1.toNat]?).bind fun e509 =>
(m47 ((((v.2.2.2.1.length : Nat) : Int), (e509, (e491, ()))), ())).bind fun u510 =>
bif (decide ((0 : Int) ≤ e491.2.2.1 ∧ (e491.2.2.1 : Int) < v.2.2.2.1.length)) then
bif (decide (e491.2.2.1.toNat < v.2.2.2.1.length)) then
bif u510.1.1 then (bif (decide ((v.2.2.2.2.1.take 0 ++ v.2.2.2.2.1.drop 1).length + ([(u510.2.2.1.1.1, (u510.2.2.1.1.2.1, (u510.2.2.1.1.2.2.1, (u510.2.2.1.1.2.2.2.1, (u510.2.2.1.1.2.2.2.2.1, (u510.2.2.1.1.2.2.2.2.2.1, (u510.2.2.1.1.2.2.2.2.2.2.1, ([], (u510.2.2.1.1.2.2.2.2.2.2.2.1, ())))))))))] : List Y9).length ≤ 4294967296)) then
let x511 := ((v.2.2.2.2.1.take 0 ++ v.2.2.2.2.1.drop 1) ++ ([(u510.2.2.1.1.1, (u510.2.2.1.1.2.1, (u510.2.2.1.1.2.2.1, (u510.2.2.1.1.2.2.2.1, (u510.2.2.1.1.2.2.2.2.1, (u510.2.2.1.1.2.2.2.2.2.1, (u510.2.2.1.1.2.2.2.2.2.2.1, ([], (u510.2.2.1.1.2.2.2.2.2.2.2.1, ())))))))))] : List Y9))
bif (decide ((v.2.2.2.1.set e491.2.2.1.toNat u510.2.1.1).length = v.2.2.2.1.length) && (decide (v.2.2.2.2.1.length = v.2.2.2.2.1.length) && (decide (v.2.2.2.2.2.1.length = v.2.2.2.2.2.1.length) && (decide (v.2.2.2.2.2.2.1.length = v.2.2.2.2.2.2.1.length) && true)))) then
some ((), (((), ()), (((), ()), ((v.2.2.2.1.set e491.2.2.1.toNat u510.2.1.1), (x511, (v.2.2.2.2.2.1, (v.2.2.2.2.2.2.1, ())))))))
else none
else none)
else (bif (decide ((v.2.2.2.1.set e491.2.2.1.toNat u510.2.1.1).length = v.2.2.2.1.length) && (decide (v.2.2.2.2.1.length = v.2.2.2.2.1.length) && (decide (v.2.2.2.2.2.1.length = v.2.2.2.2.2.1.length) && (decide (v.2.2.2.2.2.2.1.length = v.2.2.2.2.2.2.1.length) && true)))) then
some ((), (((), ()), (((), ()), ((v.2.2.2.1.set e491.2.2.1.toNat u510.2.1.1), ((v.2.2.2.2.1.take 0 ++ v.2.2.2.2.1.drop 1), (v.2.2.2.2.2.1, (v.2.2.2.2.2.2.1, ())))))))
else none)
else none
else none
else none))
else none)
else (bif ((e491.1 : Int) == 4) then (bif (decide ((0 : Int) ≤ e491.2.2.1 ∧ (e491.2.2.1 : Int) < v.2.2.2.2.2.1.length)) then
(v.2.2.2.2.2.1[e491.2.2.1.toNat]?).bind fun e512 =>
bif e512 then (bif (decide (v.2.2.2.1.length = v.2.2.2.1.length) && (decide (v.2.2.2.2.1.length = v.2.2.2.2.1.length) && (decide (v.2.2.2.2.2.1.length = v.2.2.2.2.2.1.length) && (decide (v.2.2.2.2.2.2.1.length = v.2.2.2.2.2.2.1.length) && true)))) then
some ((), (((), ()), (((), ()), (v.2.2.2.1, ((v.2.2.2.2.1.take 0 ++ v.2.2.2.2.1.drop 1), (v.2.2.2.2.2.1, (v.2.2.2.2.2.2.1, ())))))))
else none)
else (let x513 := (if (e491.2.2.1 : Int) < e491.2.1 then e491.2.2.1 else e491.2.1)
let x514 := (if (e491.2.2.1 : Int) > e491.2.1 then e491.2.2.1 else e491.2.1)
(m108 ((v.2.2.2.2.2.2.1, ((x513, (x514, ())), ())), ())).bind fun u515 =>
bif u515.1.1 then (bif (decide (v.2.2.2.1.length = v.2.2.2.1.length) && (decide (v.2.2.2.2.1.length = v.2.2.2.2.1.length) && (decide (v.2.2.2.2.2.1.length = v.2.2.2.2.2.1.length) && (decide (v.2.2.2.2.2.2.1.length = v.2.2.2.2.2.2.1.length) && true)))) then
some ((), (((), ()), (((), ()), (v.2.2.2.1, ((v.2.2.2.2.1.take 0 ++ v.2.2.2.2.1.drop 1), (v.2.2.2.2.2.1, (v.2.2.2.2.2.2.1, ())))))))
else none)
else (bif (decide ((0 : Int) ≤ e491.2.2.1 ∧ (e491.2.2.1 : Int) < v.2.2.2.1.length)) then
(v.2.2.2.1[e491.2.2.1.toNat]?).bind fun e516 =>
(m44 ((((v.2.2.2.1.length : Nat) : Int), (e516, (e491, ()))), ())).bind fun u517 =>
bif (decide ((0 : Int) ≤ e491.2.2.1 ∧ (e491.2.2.1 : Int) < v.2.2.2.1.length)) then
bif (decide (e491.2.2.1.toNat < v.2.2.2.1.length)) then
bif (decide ((v.2.2.2.1.set e491.2.2.1.toNat u517.2.1.1).length = v.2.2.2.1.length) && (decide (v.2.2.2.2.1.length = v.2.2.2.2.1.length) && (decide (v.2.2.2.2.2.1.length = v.2.2.2.2.2.1.length) && (decide (v.2.2.2.2.2.2.1.length = v.2.2.2.2.2.2.1.length) && true)))) then
some ((), (((), ()), (((), ()), ((v.2.2.2.1.set e491.2.2.1.toNat u517.2.1.1), ((v.2.2.2.2.1.take 0 ++ v.2.2.2.2.1.drop 1), (v.2.2.2.2.2.1, (v.2.2.2.2.2.2.1, ())))))))
else none
else none
else none
else none))
else none)
else (bif (decide (v.2.2.2.1.length = v.2.2.2.1.length) && (decide (v.2.2.2.2.1.length = v.2.2.2.2.1.length) && (decide (v.2.2.2.2.2.1.length = v.2.2.2.2.2.1.length) && (decide (v.2.2.2.2.2.2.1.length = v.2.2.2.2.2.2.1.length) && true)))) then
some ((), (((), ()), (((), ()), (v.2.2.2.1, ((v.2.2.2.2.1.take 0 ++ v.2.2.2.2.1.drop 1), (v.2.2.2.2.2.1, (v.2.2.2.2.2.2.1, ())))))))
else none))))
else none
else none
else none) : Option ((Unit) × Y17)).bind fun v518 =>
some (.inl ((), (((), ()), (((), ()), (v518.2.2.2.1, (v518.2.2.2.2.1, (v518.2.2.2.2.2.1, (v518.2.2.2.2.2.2.1, ())))))))))
else (some (.inr ((), (((), ()), (((), ()), (v.2.2.2.1, (v.2.2.2.2.1, (v.2.2.2.2.2.1, (v.2.2.2.2.2.2.1, ())))))))))

def l62_0_11 (v : ((Int × Int × Unit) × Y17)) : Option (((Int × Int × Unit) × Y17) ⊕ ((Unit) × Y17)) :=
bif (decide ((v.1.1 : Int) < 2)) then (((bif (decide ((0 : Int) ≤ v.1.2.1 ∧ (v.1.2.1 : Int) < v.2.2.2.1.length)) then
(v.2.2.2.1[v.1.2.1.toNat]?).bind fun e487 =>
bif ((e487.2.2.2.1 : Int) == 2) then (bif (decide ((0 : Int) ≤ v.1.2.1 ∧ (v.1.2.1 : Int) < v.2.2.2.1.length)) then
(v.2.2.2.1[v.1.2.1.toNat]?).bind fun e488 =>
(m46 ((((v.2.2.2.1.length : Nat) : Int), (e488, ())), ())).bind fun u489 =>
(loopT l62_4_1 ((), (((), ()), (((), ()), (v.2.2.2.1, (u489.2.1, (v.2.2.2.2.2.1, (v.2.2.2.2.2.2.1, ())))))))).bind fun d519 =>
bif (decide (v.2.2.2.1.length = v.2.2.2.1.length) && (decide (u489.2.1.length = u489.2.1.length) && (decide (v.2.2.2.2.2.1.length = v.2.2.2.2.2.1.length) && (decide (v.2.2.2.2.2.2.1.length = v.2.2.2.2.2.2.1.length) && true)))) then
some ((v.1.2.1, (v.1.1, ())), (((), ()), (((), ()), (d519.2.2.2.1, (d519.2.2.2.2.1, (d519.2.2.2.2.2.1, (d519.2.2.2.2.2.2.1, ())))))))
else none
else none)
else (some ((v.1.2.1, (v.1.1, ())), (((), ()), (((), ()), (v.2.2.2.1, (v.2.2.2.2.1, (v.2.2.2.2.2.1, (v.2.2.2.2.2.2.1, ()))))))))
else none) : Option ((Int × Int × Unit) × Y17)).bind fun v520 =>
some (.inl (((w64 (v520.1.2.1 + 1)), (v520.1.1, ())), (((), ()), (((), ()), (v520.2.2.2.1, (v520.2.2.2.2.1, (v520.2.2.2.2.2.1, (v520.2.2.2.2.2.2.1, ())))))))))
else (some (.inr ((), (((), ()), (((), ()), (v.2.2.2.1, (v.2.2.2.2.1, (v.2.2.2.2.2.1, (v.2.2.2.2.2.2.1, ())))))))))

/- pagewatch/region.Settle -/
def i62 : Abs.Sg := ⟨[0, 1], (.dat Z8 (.dat (.int .i64) .nil)), .nil⟩

def o62 : Abs.Sg := ⟨[4, 5], (.st (.ptr (0, 0) 4 0 0) (.dat (.int .i64) .nil)), (.box 4 (.agg (.st (.own Z3 (1, 0)) (.st (.own Z4 (2, 0)) (.st (.own .bool (3, 0)) (.st (.own Z12 (4, 0)) .nil)))) .nil) (.arr Z3 false (.arr Z4 false (.arr .bool false (.arr Z12 false .nil)))))⟩

def m62 (v : Y22) : Option ((Int × Unit) × Y15) :=
(m100 ((v.1.1, (v.1.2.1, ())), ())).bind fun u454 =>
bif ((u454.1.1 : Int) != 0) then (some ((u454.1.1, ()), (((), ()), ([], ([], ([], ([], ())))))))
else ((m101 ((v.1.1, ()), ())).bind fun u455 =>
(m102 (((u455.2.2.1, ([], (u455.2.2.2.2.1, (u455.2.2.2.2.2.1, ())))), (v.1.2.1, ())), ())).bind fun u456 =>
bif ((u456.1.1 : Int) != 0) then (some ((u456.1.1, ()), (((), ()), ([], ([], ([], ([], ())))))))
else ((loopT l62_1_1 ((), (((), ()), (((), ()), (u456.2.2.1, (u456.2.2.2.1, (u456.2.2.2.2.1, (u456.2.2.2.2.2.1, ())))))))).bind fun d486 =>
bif (decide (u456.2.2.1.length = u456.2.2.1.length) && (decide (u456.2.2.2.1.length = u456.2.2.2.1.length) && (decide (u456.2.2.2.2.1.length = u456.2.2.2.2.1.length) && (decide (u456.2.2.2.2.2.1.length = u456.2.2.2.2.2.1.length) && true)))) then
(loopT l62_0_11 ((0, (v.1.2.1, ())), (((), ()), (((), ()), (d486.2.2.2.1, (d486.2.2.2.2.1, (d486.2.2.2.2.2.1, (d486.2.2.2.2.2.2.1, ())))))))).bind fun d521 =>
some ((0, ()), (((), ()), (d521.2.2.2.1, (d521.2.2.2.2.1, (d521.2.2.2.2.2.1, (d521.2.2.2.2.2.2.1, ()))))))
else none))

def sp62 : Abs.Spec := ⟨0, i62, o62, m62⟩

def an62 : Nat → Abs.FAn
  | 0 => Abs.FAn.mk (fun _ => none) (fun
    | 15 => some (⟨[2, 1, 4, 30], (.st (.ptr (0, 0) 4 0 0) (.dat (.int .i64) (.st (.ptr (1, 0) 4 0 0) (.dat (.int .i64) .nil)))), (.box 4 (.agg (.st (.own Z3 (2, 0)) (.st (.own Z4 (3, 0)) (.st (.own .bool (4, 0)) (.st (.own Z12 (5, 0)) .nil)))) .nil) (.box 4 (.agg (.st .nil (.st .nil (.st .nil (.st .nil .nil)))) .nil) (.arr Z3 false (.arr Z4 false (.arr .bool false (.arr Z12 false .nil))))))⟩, none)
    | _ => none) (fun
    | 11 => some ⟨⟨[30, 2, 1, 4], (.dat (.int .i64) (.st (.ptr (0, 0) 4 0 0) (.dat (.int .i64) (.st (.ptr (1, 0) 4 0 0) .nil)))), (.box 4 (.agg (.st (.own Z3 (2, 0)) (.st (.own Z4 (3, 0)) (.st (.own .bool (4, 0)) (.st (.own Z12 (5, 0)) .nil)))) .nil) (.box 4 (.agg (.st .nil (.st .nil (.st .nil (.st .nil .nil)))) .nil) (.arr Z3 false (.arr Z4 false (.arr .bool false (.arr Z12 false .nil))))))⟩, (.one (.exit 0) ⟨[4, 2], (.st (.ptr (0, 0) 4 0 0) (.st (.ptr (1, 0) 4 0 0) .nil)), (.box 4 (.agg (.st .nil (.st .nil (.st .nil (.st .nil .nil)))) .nil) (.box 4 (.agg (.st (.own Z3 (2, 0)) (.st (.own Z4 (3, 0)) (.st (.own .bool (4, 0)) (.st (.own Z12 (5, 0)) .nil)))) .nil) (.arr Z3 false (.arr Z4 false (.arr .bool false (.arr Z12 false .nil))))))⟩)⟩
    | _ => none) (fun
    | 14, 1 => 4
    | 9, 1 => 1
    | _, _ => 0)
  | 1 => Abs.FAn.mk (fun
    | 2 => some ⟨[1, 2], (.st (.ptr (0, 0) 4 0 0) (.st (.ptr (1, 0) 4 0 0) .nil)), (.box 4 (.agg (.st (.own Z3 (2, 0)) (.st (.own Z4 (3, 0)) (.st (.own .bool (4, 0)) (.st (.own Z12 (5, 0)) .nil)))) .nil) (.box 4 (.agg (.st .nil (.st .nil (.st .nil (.st .nil .nil)))) .nil) (.arr Z3 false (.arr Z4 false (.arr .bool false (.arr Z12 false .nil))))))⟩
    | _ => none) (fun _ => none) (fun
    | 1 => some ⟨⟨[1, 2], (.st (.ptr (0, 0) 4 0 0) (.st (.ptr (1, 0) 4 0 0) .nil)), (.box 4 (.agg (.st (.own Z3 (2, 0)) (.st (.own Z4 (3, 0)) (.st (.own .bool (4, 0)) (.st (.own Z12 (5, 0)) .nil)))) .nil) (.box 4 (.agg (.st .nil (.st .nil (.st .nil (.st .nil .nil)))) .nil) (.arr Z3 false (.arr Z4 false (.arr .bool false (.arr Z12 false .nil))))))⟩, (.one (.exit 0) ⟨[2, 1], (.st (.ptr (0, 0) 4 0 0) (.st (.ptr (1, 0) 4 0 0) .nil)), (.box 4 (.agg (.st .nil (.st .nil (.st .nil (.st .nil .nil)))) .nil) (.box 4 (.agg (.st (.own Z3 (2, 0)) (.st (.own Z4 (3, 0)) (.st (.own .bool (4, 0)) (.st (.own Z12 (5, 0)) .nil)))) .nil) (.arr Z3 false (.arr Z4 false (.arr .bool false (.arr Z12 false .nil))))))⟩)⟩
    | _ => none) (fun
    | 2, 1 => 2
    | _, _ => 0)
  | 2 => Abs.FAn.mk (fun _ => none) (fun _ => none) (fun _ => none) (fun
    | 6, 11 => 3
    | _, _ => 0)
  | 4 => Abs.FAn.mk (fun
    | 2 => some ⟨[1, 2], (.st (.ptr (0, 0) 4 0 0) (.st (.ptr (1, 0) 4 0 0) .nil)), (.box 4 (.agg (.st (.own Z3 (2, 0)) (.st (.own Z4 (3, 0)) (.st (.own .bool (4, 0)) (.st (.own Z12 (5, 0)) .nil)))) .nil) (.box 4 (.agg (.st .nil (.st .nil (.st .nil (.st .nil .nil)))) .nil) (.arr Z3 false (.arr Z4 false (.arr .bool false (.arr Z12 false .nil))))))⟩
    | _ => none) (fun _ => none) (fun
    | 1 => some ⟨⟨[1, 2], (.st (.ptr (0, 0) 4 0 0) (.st (.ptr (1, 0) 4 0 0) .nil)), (.box 4 (.agg (.st (.own Z3 (2, 0)) (.st (.own Z4 (3, 0)) (.st (.own .bool (4, 0)) (.st (.own Z12 (5, 0)) .nil)))) .nil) (.box 4 (.agg (.st .nil (.st .nil (.st .nil (.st .nil .nil)))) .nil) (.arr Z3 false (.arr Z4 false (.arr .bool false (.arr Z12 false .nil))))))⟩, (.one (.exit 0) ⟨[2, 1], (.st (.ptr (0, 0) 4 0 0) (.st (.ptr (1, 0) 4 0 0) .nil)), (.box 4 (.agg (.st .nil (.st .nil (.st .nil (.st .nil .nil)))) .nil) (.box 4 (.agg (.st (.own Z3 (2, 0)) (.st (.own Z4 (3, 0)) (.st (.own .bool (4, 0)) (.st (.own Z12 (5, 0)) .nil)))) .nil) (.arr Z3 false (.arr Z4 false (.arr .bool false (.arr Z12 false .nil))))))⟩)⟩
    | _ => none) (fun
    | 2, 1 => 5
    | _, _ => 0)
  | 5 => Abs.FAn.mk (fun _ => none) (fun _ => none) (fun _ => none) (fun
    | 6, 11 => 6
    | _, _ => 0)
  | _ => {}

theorem ok62 : Abs.SpecOK Try.prog 62 sp62 :=
  Abs.specOC_of (C := ctab) (mv := mvtab) ctab_ok (n := 12) (an := an62) (T := Abs.tabOf [(100, sp100), (101, sp101), (102, sp102), (108, sp108), (24, sp24), (36, sp36), (47, sp47), (44, sp44), (46, sp46)]) good foll (Abs.tabOf_ok _ (by simp only [List.forall_mem_cons]; exact ⟨ok100, ok101, ok102, ok108, ok24, ok36, ok47, ok44, ok46, fun _ h => by cases h⟩)) rfl (by intro v; kernel_rfl)

/- pagewatch/region.Propose -/
def i63 : Abs.Sg := ⟨[0, 1, 2], (.dat Z8 (.dat (.int .i64) (.dat Z6 .nil))), .nil⟩

def o63 : Abs.Sg := ⟨[6, 7], (.st (.ptr (0, 0) 4 0 0) (.dat (.int .i64) .nil)), (.box 4 (.agg (.st (.own Z3 (1, 0)) (.st (.own Z4 (2, 0)) (.st (.own .bool (3, 0)) (.st (.own Z12 (4, 0)) .nil)))) .nil) (.arr Z3 false (.arr Z4 false (.arr .bool false (.arr Z12 false .nil)))))⟩

def m63 (v : ((Y5 × Int × Y10 × Unit) × (Unit))) : Option ((Int × Unit) × Y15) :=
(m100 ((v.1.1, (v.1.2.1, ())), ())).bind fun u13 =>
bif ((u13.1.1 : Int) != 0) then (some ((u13.1.1, ()), (((), ()), ([], ([], ([], ([], ())))))))
else ((m101 ((v.1.1, ()), ())).bind fun u14 =>
bif (decide ((0 : Int) ≤ v.1.2.1 ∧ (v.1.2.1 : Int) < u14.2.2.1.length)) then
(u14.2.2.1[v.1.2.1.toNat]?).bind fun e15 =>
(m54 ((((u14.2.2.1.length : Nat) : Int), (e15, (v.1.2.2.1, ()))), ())).bind fun u16 =>
bif ((u16.1.1 : Int) != 0) then (some ((u16.1.1, ()), (((), ()), ([], ([], ([], ([], ())))))))
else (bif (decide ((0 : Int) ≤ v.1.2.1 ∧ (v.1.2.1 : Int) < u14.2.2.1.length)) then
bif (decide (v.1.2.1.toNat < u14.2.2.1.length)) then
some ((0, ()), (((), ()), ((u14.2.2.1.set v.1.2.1.toNat (u16.2.1.1.1, (u16.2.1.1.2.1, (u16.2.1.1.2.2.1, (u16.2.1.1.2.2.2.1, (u16.2.2.1, (u16.2.1.1.2.2.2.2.1, (u16.2.2.2.1, (u16.2.2.2.2.1, ()))))))))), (u14.2.2.2.1, (u14.2.2.2.2.1, (u14.2.2.2.2.2.1, ()))))))
else none
else none)
else none)

def sp63 : Abs.Spec := ⟨0, i63, o63, m63⟩

def an63 : Nat → Abs.FAn
  | _ => {}

theorem ok63 : Abs.SpecOK Try.prog 63 sp63 :=
  Abs.specOC_of (C := ctab) (mv := mvtab) ctab_ok (n := 12) (an := an63) (T := Abs.tabOf [(100, sp100), (101, sp101), (54, sp54)]) good foll (Abs.tabOf_ok _ (by simp only [List.forall_mem_cons]; exact ⟨ok100, ok101, ok54, fun _ h => by cases h⟩)) rfl (by intro v; kernel_rfl)

/- pagewatch/region.Beat -/
def i64 : Abs.Sg := ⟨[0, 1], (.dat Z8 (.dat (.int .i64) .nil)), .nil⟩

def o64 : Abs.Sg := ⟨[4, 5], (.st (.ptr (0, 0) 4 0 0) (.dat (.int .i64) .nil)), (.box 4 (.agg (.st (.own Z3 (1, 0)) (.st (.own Z4 (2, 0)) (.st (.own .bool (3, 0)) (.st (.own Z12 (4, 0)) .nil)))) .nil) (.arr Z3 false (.arr Z4 false (.arr .bool false (.arr Z12 false .nil)))))⟩

def m64 (v : Y22) : Option ((Int × Unit) × Y15) :=
(m100 ((v.1.1, (v.1.2.1, ())), ())).bind fun u21 =>
bif ((u21.1.1 : Int) != 0) then (some ((u21.1.1, ()), (((), ()), ([], ([], ([], ([], ())))))))
else (Abs.rowAt v.1.1.1 v.1.2.1 fun e22 _ =>
bif ((e22.2.2.2.1 : Int) != 2) then (some ((22, ()), (((), ()), ([], ([], ([], ([], ())))))))
else ((m101 ((v.1.1, ()), ())).bind fun u23 =>
((bif (decide ((0 : Int) ≤ v.1.2.1 ∧ (v.1.2.1 : Int) < u23.2.2.1.length)) then
(u23.2.2.1[v.1.2.1.toNat]?).bind fun e24 =>
(m46 ((((u23.2.2.1.length : Nat) : Int), (e24, ())), ())).bind fun u25 =>
let x26 := (w64 (((u23.2.2.2.1.length : Nat) : Int) + ((u25.2.1.length : Nat) : Int)))
bif (decide ((x26 : Int) > 256)) then (bif (decide (u23.2.2.1.length = u23.2.2.1.length) && (decide (u23.2.2.2.1.length = u23.2.2.2.1.length) && (decide (u23.2.2.2.2.1.length = u23.2.2.2.2.1.length) && (decide (u23.2.2.2.2.2.1.length = u23.2.2.2.2.2.1.length) && (decide (u25.2.1.length = u25.2.1.length) && true))))) then
some ((5, ()), (((), ()), ([], ([], ([], ([], ()))))))
else none)
else (bif (decide (u23.2.2.2.1.length + u25.2.1.length ≤ 4294967296)) then
bif (decide (u23.2.2.1.length = u23.2.2.1.length) && (decide (u23.2.2.2.1.length = u23.2.2.2.1.length) && (decide (u23.2.2.2.2.1.length = u23.2.2.2.2.1.length) && (decide (u23.2.2.2.2.2.1.length = u23.2.2.2.2.2.1.length) && (decide (u25.2.1.length = u25.2.1.length) && true))))) then
some ((0, ()), (((), ()), (u23.2.2.1, ((u23.2.2.2.1 ++ u25.2.1), (u23.2.2.2.2.1, (u23.2.2.2.2.2.1, ()))))))
else none
else none)
else none) : Option ((Int × Unit) × Y15)).bind fun v27 =>
some ((v27.1.1, ()), (((), ()), (v27.2.2.1, (v27.2.2.2.1, (v27.2.2.2.2.1, (v27.2.2.2.2.2.1, ()))))))))

def sp64 : Abs.Spec := ⟨0, i64, o64, m64⟩

def an64 : Nat → Abs.FAn
  | 0 => Abs.FAn.mk (fun
    | 7 => some ⟨[4, 5], (.st (.ptr (0, 0) 4 0 0) (.dat (.int .i64) .nil)), (.box 4 (.agg (.st (.own Z3 (1, 0)) (.st (.own Z4 (2, 0)) (.st (.own .bool (3, 0)) (.st (.own Z12 (4, 0)) .nil)))) .nil) (.arr Z3 false (.arr Z4 false (.arr .bool false (.arr Z12 false .nil)))))⟩
    | _ => none) (fun _ => none) (fun _ => none) (fun
    | 7, 10 => 1
    | _, _ => 0)
  | _ => {}

theorem ok64 : Abs.SpecOK Try.prog 64 sp64 :=
  Abs.specOC_of (C := ctab) (mv := mvtab) ctab_ok (n := 12) (an := an64) (T := Abs.tabOf [(100, sp100), (101, sp101), (46, sp46)]) good foll (Abs.tabOf_ok _ (by simp only [List.forall_mem_cons]; exact ⟨ok100, ok101, ok46, fun _ h => by cases h⟩)) rfl (by intro v; kernel_rfl)

/- pagewatch/region.Deliver -/
def i97 : Abs.Sg := ⟨[0, 1], (.dat Z8 (.dat (.int .i64) .nil)), .nil⟩

def o97 : Abs.Sg := ⟨[4, 5], (.st (.ptr (0, 0) 4 0 0) (.dat (.int .i64) .nil)), (.box 4 (.agg (.st (.own Z3 (1, 0)) (.st (.own Z4 (2, 0)) (.st (.own .bool (3, 0)) (.st (.own Z12 (4, 0)) .nil)))) .nil) (.arr Z3 false (.arr Z4 false (.arr .bool false (.arr Z12 false .nil)))))⟩

def m97 (v : Y22) : Option ((Int × Unit) × Y15) :=
(m107 ((v.1.1, (v.1.2.1, ((v.1.1.2.1.length : Int), ()))), ())).bind fun u62 =>
bif ((u62.1.1 : Int) != 0) then (some ((u62.1.1, ()), (((), ()), ([], ([], ([], ([], ())))))))
else ((((m101 ((v.1.1, ()), ())).bind fun u63 =>
bif (decide ((0 : Int) ≤ v.1.2.1 ∧ (v.1.2.1 : Int) < u63.2.2.2.1.length)) then
(u63.2.2.2.1[v.1.2.1.toNat]?).bind fun e64 =>
bif (decide ((0 : Int) ≤ v.1.2.1 ∧ (v.1.2.1 : Int) < (w64 (v.1.2.1 + 1)) ∧ ((w64 (v.1.2.1 + 1)) : Int) ≤ u63.2.2.2.1.length ∧ u63.2.2.2.1.length ≤ 4294967296)) then
bif (decide (u63.2.2.2.1.length = u63.2.2.2.1.length) && true) then
bif ((e64.1 : Int) == 1) then (bif (decide ((0 : Int) ≤ e64.2.2.1 ∧ (e64.2.2.1 : Int) < u63.2.2.2.2.1.length)) then
(u63.2.2.2.2.1[e64.2.2.1.toNat]?).bind fun e65 =>
bif e65 then (bif (decide (u63.2.2.1.length = u63.2.2.1.length) && (decide (u63.2.2.2.1.length = u63.2.2.2.1.length) && (decide (u63.2.2.2.2.1.length = u63.2.2.2.2.1.length) && (decide (u63.2.2.2.2.2.1.length = u63.2.2.2.2.2.1.length) && true)))) then
some ((0, ()), (((), ()), (u63.2.2.1, ((u63.2.2.2.1.take v.1.2.1.toNat ++ u63.2.2.2.1.drop (w64 (v.1.2.1 + 1)).toNat), (u63.2.2.2.2.1, (u63.2.2.2.2.2.1, ()))))))
else none)
else (let x66 := (if (e64.2.2.1 : Int) < e64.2.1 then e64.2.2.1 else e64.2.1)
let x67 := (if (e64.2.2.1 : Int) > e64.2.1 then e64.2.2.1 else e64.2.1)
(m108 ((u63.2.2.2.2.2.1, ((x66, (x67, ())), ())), ())).bind fun u68 =>
bif u68.1.1 then (bif (decide (u63.2.2.1.length = u63.2.2.1.length) && (decide (u63.2.2.2.1.length = u63.2.2.2.1.length) && (decide (u63.2.2.2.2.1.length = u63.2.2.2.2.1.length) && (decide (u63.2.2.2.2.2.1.length = u63.2.2.2.2.2.1.length) && true)))) then
some ((0, ()), (((), ()), (u63.2.2.1, ((u63.2.2.2.1.take v.1.2.1.toNat ++ u63.2.2.2.1.drop (w64 (v.1.2.1 + 1)).toNat), (u63.2.2.2.2.1, (u63.2.2.2.2.2.1, ()))))))
else none)
else (bif (decide ((0 : Int) ≤ e64.2.2.1 ∧ (e64.2.2.1 : Int) < u63.2.2.1.length)) then
(u63.2.2.1[e64.2.2.1.toNat]?).bind fun e69 =>
(m24 ((((u63.2.2.1.length : Nat) : Int), (e69, (e64, ()))), ())).bind fun u70 =>
bif (decide ((0 : Int) ≤ e64.2.2.1 ∧ (e64.2.2.1 : Int) < u63.2.2.1.length)) then
bif (decide (e64.2.2.1.toNat < u63.2.2.1.length)) then
bif u70.1.1 then (bif (decide ((u63.2.2.2.1.take v.1.2.1.toNat ++ u63.2.2.2.1.drop (w64 (v.1.2.1 + 1)).toNat).length + ([(u70.2.2.1.1.1, (u70.2.2.1.1.2.1, (u70.2.2.1.1.2.2.1, (u70.2.2.1.1.2.2.2.1, (u70.2.2.1.1.2.2.2.2.1, (u70.2.2.1.1.2.2.2.2.2.1, (u70.2.2.1.1.2.2.2.2.2.2.1, ([], (u70.2.2.1.1.2.2.2.2.2.2.2.1, ())))))))))] : List Y9).length ≤ 4294967296)) then
let x71 := ((u63.2.2.2.1.take v.1.2.1.toNat ++ u63.2.2.2.1.drop (w64 (v.1.2.1 + 1)).toNat) ++ ([(u70.2.2.1.1.1, (u70.2.2.1.1.2.1, (u70.2.2.1.1.2.2.1, (u70.2.2.1.1.2.2.2.1, (u70.2.2.1.1.2.2.2.2.1, (u70.2.2.1.1.2.2.2.2.2.1, (u70.2.2.1.1.2.2.2.2.2.2.1, ([], (u70.2.2.1.1.2.2.2.2.2.2.2.1, ())))))))))] : List Y9))
bif (decide ((u63.2.2.1.set e64.2.2.1.toNat u70.2.1.1).length = u63.2.2.1.length) && (decide (u63.2.2.2.1.length = u63.2.2.2.1.length) && (decide (u63.2.2.2.2.1.length = u63.2.2.2.2.1.length) && (decide (u63.2.2.2.2.2.1.length = u63.2.2.2.2.2.1.length) && true)))) then
some ((0, ()), (((), ()), ((u63.2.2.1.set e64.2.2.1.toNat u70.2.1.1), (x71, (u63.2.2.2.2.1, (u63.2.2.2.2.2.1, ()))))))
else none
else none)
else (bif (decide ((u63.2.2.1.set e64.2.2.1.toNat u70.2.1.1).length = u63.2.2.1.length) && (decide (u63.2.2.2.1.length = u63.2.2.2.1.length) && (decide (u63.2.2.2.2.1.length = u63.2.2.2.2.1.length) && (decide (u63.2.2.2.2.2.1.length = u63.2.2.2.2.2.1.length) && true)))) then
some ((0, ()), (((), ()), ((u63.2.2.1.set e64.2.2.1.toNat u70.2.1.1), ((u63.2.2.2.1.take v.1.2.1.toNat ++ u63.2.2.2.1.drop (w64 (v.1.2.1 + 1)).toNat), (u63.2.2.2.2.1, (u63.2.2.2.2.2.1, ()))))))
else none)
else none
else none
else none))
else none)
else (bif ((e64.1 : Int) == 2) then (bif (decide ((0 : Int) ≤ e64.2.2.1 ∧ (e64.2.2.1 : Int) < u63.2.2.2.2.1.length)) then
(u63.2.2.2.2.1[e64.2.2.1.toNat]?).bind fun e72 =>
bif e72 then (bif (decide (u63.2.2.1.length = u63.2.2.1.length) && (decide (u63.2.2.2.1.length = u63.2.2.2.1.length) && (decide (u63.2.2.2.2.1.length = u63.2.2.2.2.1.length) && (decide (u63.2.2.2.2.2.1.length = u63.2.2.2.2.2.1.length) && true)))) then
some ((0, ()), (((), ()), (u63.2.2.1, ((u63.2.2.2.1.take v.1.2.1.toNat ++ u63.2.2.2.1.drop (w64 (v.1.2.1 + 1)).toNat), (u63.2.2.2.2.1, (u63.2.2.2.2.2.1, ()))))))
else none)
else (let x73 := (if (e64.2.2.1 : Int) < e64.2.1 then e64.2.2.1 else e64.2.1)
let x74 := (if (e64.2.2.1 : Int) > e64.2.1 then e64.2.2.1 else e64.2.1)
(m108 ((u63.2.2.2.2.2.1, ((x73, (x74, ())), ())), ())).bind fun u75 =>
bif u75.1.1 then (bif (decide (u63.2.2.1.length = u63.2.2.1.length) && (decide (u63.2.2.2.1.length = u63.2.2.2.1.length) && (decide (u63.2.2.2.2.1.length = u63.2.2.2.2.1.length) && (decide (u63.2.2.2.2.2.1.length = u63.2.2.2.2.2.1.length) && true)))) then
some ((0, ()), (((), ()), (u63.2.2.1, ((u63.2.2.2.1.take v.1.2.1.toNat ++ u63.2.2.2.1.drop (w64 (v.1.2.1 + 1)).toNat), (u63.2.2.2.2.1, (u63.2.2.2.2.2.1, ()))))))
else none)
else (bif (decide ((0 : Int) ≤ e64.2.2.1 ∧ (e64.2.2.1 : Int) < u63.2.2.1.length)) then
(u63.2.2.1[e64.2.2.1.toNat]?).bind fun e76 =>
(m36 ((((u63.2.2.1.length : Nat) : Int), (e76, (e64, ()))), ())).bind fun u77 =>
bif (decide ((0 : Int) ≤ e64.2.2.1 ∧ (e64.2.2.1 : Int) < u63.2.2.1.length)) then
bif (decide (e64.2.2.1.toNat < u63.2.2.1.length)) then
bif (decide ((u63.2.2.1.set e64.2.2.1.toNat u77.2.1.1).length = u63.2.2.1.length) && (decide (u63.2.2.2.1.length = u63.2.2.2.1.length) && (decide (u63.2.2.2.2.1.length = u63.2.2.2.2.1.length) && (decide (u63.2.2.2.2.2.1.length = u63.2.2.2.2.2.1.length) && true)))) then
some ((0, ()), (((), ()), ((u63.2.2.1.set e64.2.2.1.toNat u77.2.1.1), ((u63.2.2.2.1.take v.1.2.1.toNat ++ u63.2.2.2.1.drop (w64 (v.1.2.1 + 1)).toNat), (u63.2.2.2.2.1, (u63.2.2.2.2.2.1, ()))))))
else none
else none
else none
else none))
else none)
else (bif ((e64.1 : Int) == 3) then (bif (decide ((0 : Int) ≤ e64.2.2.1 ∧ (e64.2.2.1 : Int) < u63.2.2.2.2.1.length)) then
(u63.2.2.2.2.1[e64.2.2.1.toNat]?).bind fun e78 =>
bif e78 then (bif (decide (u63.2.2.1.length = u63.2.2.1.length) && (decide (u63.2.2.2.1.length = u63.2.2.2.1.length) && (decide (u63.2.2.2.2.1.length = u63.2.2.2.2.1.length) && (decide (u63.2.2.2.2.2.1.length = u63.2.2.2.2.2.1.length) && true)))) then
some ((0, ()), (((), ()), (u63.2.2.1, ((u63.2.2.2.1.take v.1.2.1.toNat ++ u63.2.2.2.1.drop (w64 (v.1.2.1 + 1)).toNat), (u63.2.2.2.2.1, (u63.2.2.2.2.2.1, ()))))))
else none)
else (let x79 := (if (e64.2.2.1 : Int) < e64.2.1 then e64.2.2.1 else e64.2.1)
let x80 := (if (e64.2.2.1 : Int) > e64.2.1 then e64.2.2.1 else e64.2.1)
(m108 ((u63.2.2.2.2.2.1, ((x79, (x80, ())), ())), ())).bind fun u81 =>
bif u81.1.1 then (bif (decide (u63.2.2.1.length = u63.2.2.1.length) && (decide (u63.2.2.2.1.length = u63.2.2.2.1.length) && (decide (u63.2.2.2.2.1.length = u63.2.2.2.2.1.length) && (decide (u63.2.2.2.2.2.1.length = u63.2.2.2.2.2.1.length) && true)))) then
some ((0, ()), (((), ()), (u63.2.2.1, ((u63.2.2.2.1.take v.1.2.1.toNat ++ u63.2.2.2.1.drop (w64 (v.1.2.1 + 1)).toNat), (u63.2.2.2.2.1, (u63.2.2.2.2.2.1, ()))))))
else none)
else (bif (decide ((0 : Int) ≤ e64.2.2.1 ∧ (e64.2.2.1 : Int) < u63.2.2.1.length)) then
(u63.2.2.1[e64.2.2.1.toNat]?).bind fun e82 =>
(m47 ((((u63.2.2.1.length : Nat) : Int), (e82, (e64, ()))), ())).bind fun u83 =>
bif (decide ((0 : Int) ≤ e64.2.2.1 ∧ (e64.2.2.1 : Int) < u63.2.2.1.length)) then
bif (decide (e64.2.2.1.toNat < u63.2.2.1.length)) then
bif u83.1.1 then (bif (decide ((u63.2.2.2.1.take v.1.2.1.toNat ++ u63.2.2.2.1.drop (w64 (v.1.2.1 + 1)).toNat).length + ([(u83.2.2.1.1.1, (u83.2.2.1.1.2.1, (u83.2.2.1.1.2.2.1, (u83.2.2.1.1.2.2.2.1, (u83.2.2.1.1.2.2.2.2.1, (u83.2.2.1.1.2.2.2.2.2.1, (u83.2.2.1.1.2.2.2.2.2.2.1, ([], (u83.2.2.1.1.2.2.2.2.2.2.2.1, ())))))))))] : List Y9).length ≤ 4294967296)) then
let x84 := ((u63.2.2.2.1.take v.1.2.1.toNat ++ u63.2.2.2.1.drop (w64 (v.1.2.1 + 1)).toNat) ++ ([(u83.2.2.1.1.1, (u83.2.2.1.1.2.1, (u83.2.2.1.1.2.2.1, (u83.2.2.1.1.2.2.2.1, (u83.2.2.1.1.2.2.2.2.1, (u83.2.2.1.1.2.2.2.2.2.1, (u83.2.2.1.1.2.2.2.2.2.2.1, ([], (u83.2.2.1.1.2.2.2.2.2.2.2.1, ())))))))))] : List Y9))
bif (decide ((u63.2.2.1.set e64.2.2.1.toNat u83.2.1.1).length = u63.2.2.1.length) && (decide (u63.2.2.2.1.length = u63.2.2.2.1.length) && (decide (u63.2.2.2.2.1.length = u63.2.2.2.2.1.length) && (decide (u63.2.2.2.2.2.1.length = u63.2.2.2.2.2.1.length) && true)))) then
some ((0, ()), (((), ()), ((u63.2.2.1.set e64.2.2.1.toNat u83.2.1.1), (x84, (u63.2.2.2.2.1, (u63.2.2.2.2.2.1, ()))))))
else none
else none)
else (bif (decide ((u63.2.2.1.set e64.2.2.1.toNat u83.2.1.1).length = u63.2.2.1.length) && (decide (u63.2.2.2.1.length = u63.2.2.2.1.length) && (decide (u63.2.2.2.2.1.length = u63.2.2.2.2.1.length) && (decide (u63.2.2.2.2.2.1.length = u63.2.2.2.2.2.1.length) && true)))) then
some ((0, ()), (((), ()), ((u63.2.2.1.set e64.2.2.1.toNat u83.2.1.1), ((u63.2.2.2.1.take v.1.2.1.toNat ++ u63.2.2.2.1.drop (w64 (v.1.2.1 + 1)).toNat), (u63.2.2.2.2.1, (u63.2.2.2.2.2.1, ()))))))
else none)
else none
else none
else none))
else none)
else (bif ((e64.1 : Int) == 4) then (bif (decide ((0 : Int) ≤ e64.2.2.1 ∧ (e64.2.2.1 : Int) < u63.2.2.2.2.1.length)) then
(u63.2.2.2.2.1[e64.2.2.1.toNat]?).bind fun e85 =>
bif e85 then (bif (decide (u63.2.2.1.length = u63.2.2.1.length) && (decide (u63.2.2.2.1.length = u63.2.2.2.1.length) && (decide (u63.2.2.2.2.1.length = u63.2.2.2.2.1.length) && (decide (u63.2.2.2.2.2.1.length = u63.2.2.2.2.2.1.length) && true)))) then
some ((0, ()), (((), ()), (u63.2.2.1, ((u63.2.2.2.1.take v.1.2.1.toNat ++ u63.2.2.2.1.drop (w64 (v.1.2.1 + 1)).toNat), (u63.2.2.2.2.1, (u63.2.2.2.2.2.1, ()))))))
else none)
else (let x86 := (if (e64.2.2.1 : Int) < e64.2.1 then e64.2.2.1 else e64.2.1)
let x87 := (if (e64.2.2.1 : Int) > e64.2.1 then e64.2.2.1 else e64.2.1)
(m108 ((u63.2.2.2.2.2.1, ((x86, (x87, ())), ())), ())).bind fun u88 =>
bif u88.1.1 then (bif (decide (u63.2.2.1.length = u63.2.2.1.length) && (decide (u63.2.2.2.1.length = u63.2.2.2.1.length) && (decide (u63.2.2.2.2.1.length = u63.2.2.2.2.1.length) && (decide (u63.2.2.2.2.2.1.length = u63.2.2.2.2.2.1.length) && true)))) then
some ((0, ()), (((), ()), (u63.2.2.1, ((u63.2.2.2.1.take v.1.2.1.toNat ++ u63.2.2.2.1.drop (w64 (v.1.2.1 + 1)).toNat), (u63.2.2.2.2.1, (u63.2.2.2.2.2.1, ()))))))
else none)
else (bif (decide ((0 : Int) ≤ e64.2.2.1 ∧ (e64.2.2.1 : Int) < u63.2.2.1.length)) then
(u63.2.2.1[e64.2.2.1.toNat]?).bind fun e89 =>
(m44 ((((u63.2.2.1.length : Nat) : Int), (e89, (e64, ()))), ())).bind fun u90 =>
bif (decide ((0 : Int) ≤ e64.2.2.1 ∧ (e64.2.2.1 : Int) < u63.2.2.1.length)) then
bif (decide (e64.2.2.1.toNat < u63.2.2.1.length)) then
bif (decide ((u63.2.2.1.set e64.2.2.1.toNat u90.2.1.1).length = u63.2.2.1.length) && (decide (u63.2.2.2.1.length = u63.2.2.2.1.length) && (decide (u63.2.2.2.2.1.length = u63.2.2.2.2.1.length) && (decide (u63.2.2.2.2.2.1.length = u63.2.2.2.2.2.1.length) && true)))) then
some ((0, ()), (((), ()), ((u63.2.2.1.set e64.2.2.1.toNat u90.2.1.1), ((u63.2.2.2.1.take v.1.2.1.toNat ++ u63.2.2.2.1.drop (w64 (v.1.2.1 + 1)).toNat), (u63.2.2.2.2.1, (u63.2.2.2.2.2.1, ()))))))
else none
else none
else none
else none))
else none)
else (bif (decide (u63.2.2.1.length = u63.2.2.1.length) && (decide (u63.2.2.2.1.length = u63.2.2.2.1.length) && (decide (u63.2.2.2.2.1.length = u63.2.2.2.2.1.length) && (decide (u63.2.2.2.2.2.1.length = u63.2.2.2.2.2.1.length) && true)))) then
some ((0, ()), (((), ()), (u63.2.2.1, ((u63.2.2.2.1.take v.1.2.1.toNat ++ u63.2.2.2.1.drop (w64 (v.1.2.1 + 1)).toNat), (u63.2.2.2.2.1, (u63.2.2.2.2.2.1, ()))))))
else none))))
else none
else none
else none) : Option ((Int × Unit) × Y15)).bind fun v91 =>
some ((v91.1.1, ()), (((), ()), (v91.2.2.1, (v91.2.2.2.1, (v91.2.2.2.2.1, (v91.2.2.2.2.2.1, ())))))))

def sp97 : Abs.Spec := ⟨0, i97, o97, m97⟩

def an97 : Nat → Abs.FAn
  | 0 => Abs.FAn.mk (fun
    | 4 => some ⟨[4, 5], (.st (.ptr (0, 0) 4 0 0) (.dat (.int .i64) .nil)), (.box 4 (.agg (.st (.own Z3 (1, 0)) (.st (.own Z4 (2, 0)) (.st (.own .bool (3, 0)) (.st (.own Z12 (4, 0)) .nil)))) .nil) (.arr Z3 false (.arr Z4 false (.arr .bool false (.arr Z12 false .nil)))))⟩
    | _ => none) (fun _ => none) (fun _ => none) (fun
    | 4, 3 => 1
    | _, _ => 0)
  | 1 => Abs.FAn.mk (fun _ => none) (fun _ => none) (fun _ => none) (fun
    | 6, 11 => 2
    | _, _ => 0)
  | _ => {}

theorem ok97 : Abs.SpecOK Try.prog 97 sp97 :=
  Abs.specOC_of (C := ctab) (mv := mvtab) ctab_ok (n := 12) (an := an97) (T := Abs.tabOf [(107, sp107), (101, sp101), (108, sp108), (24, sp24), (36, sp36), (47, sp47), (44, sp44)]) good foll (Abs.tabOf_ok _ (by simp only [List.forall_mem_cons]; exact ⟨ok107, ok101, ok108, ok24, ok36, ok47, ok44, fun _ h => by cases h⟩)) rfl (by intro v; kernel_rfl)

def l98_0_5 (v : ((Int × Int × Bool × (List Y7) × Int × Unit) × ((Y5 × Unit) × Unit))) : Option (((Int × Int × Bool × (List Y7) × Int × Unit) × ((Y5 × Unit) × Unit)) ⊕ ((Bool × Int × Unit) × (Unit))) :=
bif (decide ((v.1.1 : Int) < v.1.2.2.2.2.1)) then (((Abs.rowAt v.1.2.2.2.1 v.1.1 fun e34 _ =>
((Abs.rowAt v.2.1.1.2.2.1 v.1.1 fun e35 _ =>
bif (!e35) then (bif ((e34.2.2.2.1 : Int) == 2) then (bif (!v.1.2.2.1) then (some ((true, (v.1.2.2.2.1, (v.1.2.2.2.2.1, (v.1.1, (v.1.1, (v.1.2.1, (v.1.2.2.1, ()))))))), ((v.2.1.1, ()), ())))
else (Abs.rowAt v.2.1.1.1 v.1.2.1 fun e36 _ =>
some (((decide ((e34.2.1 : Int) > e36.2.1)), (v.1.2.2.2.1, (v.1.2.2.2.2.1, (v.1.1, (v.1.1, (v.1.2.1, (v.1.2.2.1, ()))))))), ((v.2.1.1, ()), ()))))
else (some ((false, (v.1.2.2.2.1, (v.1.2.2.2.2.1, (v.1.1, (v.1.1, (v.1.2.1, (v.1.2.2.1, ()))))))), ((v.2.1.1, ()), ()))))
else (some ((false, (v.1.2.2.2.1, (v.1.2.2.2.2.1, (v.1.1, (v.1.1, (v.1.2.1, (v.1.2.2.1, ()))))))), ((v.2.1.1, ()), ())))) : Option ((Bool × (List Y7) × Int × Int × Int × Int × Bool × Unit) × ((Y5 × Unit) × Unit))).bind fun v37 =>
bif v37.1.1 then (some ((v37.1.2.2.2.2.1, (true, (v37.1.2.1, (v37.1.2.2.1, (v37.1.2.2.2.1, ()))))), ((v37.2.1.1, ()), ())))
else (some ((v37.1.2.2.2.2.2.1, (v37.1.2.2.2.2.2.2.1, (v37.1.2.1, (v37.1.2.2.1, (v37.1.2.2.2.1, ()))))), ((v37.2.1.1, ()), ())))) : Option ((Int × Bool × (List Y7) × Int × Int × Unit) × ((Y5 × Unit) × Unit))).bind fun v38 =>
some (.inl (((w64 (v38.1.2.2.2.2.1 + 1)), (v38.1.1, (v38.1.2.1, (v38.1.2.2.1, (v38.1.2.2.2.1, ()))))), ((v38.2.1.1, ()), ()))))
else (some (.inr ((v.1.2.2.1, (v.1.2.1, ())), ())))

/- pagewatch/region.Leader -/
def i98 : Abs.Sg := ⟨[0], (.dat Z8 .nil), .nil⟩

def o98 : Abs.Sg := ⟨[2, 3], (.dat (.int .i64) (.dat .bool .nil)), .nil⟩

def m98 (v : ((Y5 × Unit) × (Unit))) : Option ((Int × Bool × Unit) × (Unit)) :=
(m106 ((v.1.1, ()), ())).bind fun u33 =>
bif (!u33.1.1) then (some ((0, (false, ())), ()))
else ((loopT l98_0_5 ((0, (0, (false, (v.1.1.1, ((v.1.1.1.length : Int), ()))))), ((v.1.1, ()), ()))).bind fun d39 =>
some ((d39.1.2.1, (d39.1.1, ())), ()))

def sp98 : Abs.Spec := ⟨0, i98, o98, m98⟩

def an98 : Nat → Abs.FAn
  | 0 => Abs.FAn.mk (fun
    | 7 => some ⟨[44, 1, 12, 13, 14, 6, 4, 5], (.dat .bool (.st (.ptr (0, 0) 4 0 0) (.dat (.row Z3) (.dat (.int .i64) (.dat (.int .i64) (.dat (.int .i64) (.dat (.int .i64) (.dat .bool .nil)))))))), (.box 4 (.dat Z8 .nil) .nil)⟩
    | _ => none) (fun
    | 9 => some (⟨[4, 1, 5, 12, 13, 14], (.dat (.int .i64) (.st (.ptr (0, 0) 4 0 0) (.dat .bool (.dat (.row Z3) (.dat (.int .i64) (.dat (.int .i64) .nil)))))), (.box 4 (.dat Z8 .nil) .nil)⟩, none)
    | _ => none) (fun
    | 5 => some ⟨⟨[14, 4, 1, 5, 12, 13], (.dat (.int .i64) (.dat (.int .i64) (.st (.ptr (0, 0) 4 0 0) (.dat .bool (.dat (.row Z3) (.dat (.int .i64) .nil)))))), (.box 4 (.dat Z8 .nil) .nil)⟩, (.one (.exit 0) ⟨[5, 4], (.dat .bool (.dat (.int .i64) .nil)), .nil⟩)⟩
    | _ => none) (fun _ _ => 0)
  | _ => {}

theorem ok98 : Abs.SpecOK Try.prog 98 sp98 :=
  Abs.specOC_of (C := ctab) (mv := mvtab) ctab_ok (n := 12) (an := an98) (T := Abs.tabOf [(106, sp106)]) good foll (Abs.tabOf_ok _ (by simp only [List.forall_mem_cons]; exact ⟨ok106, fun _ h => by cases h⟩)) rfl (by intro v; kernel_rfl)

def l66_0_5 (v : ((Int × (List Y7) × Int × Unit) × ((List Y10) × Unit))) : Option (((Int × (List Y7) × Int × Unit) × ((List Y10) × Unit)) ⊕ ((Unit) × ((List Y10) × Unit))) :=
bif (decide ((v.1.1 : Int) < v.1.2.2.1)) then (((Abs.rowAt v.1.2.1 v.1.1 fun e29 _ =>
(m50 ((e29, ()), ())).bind fun u30 =>
let x31 := (decide ((((u30.2.1.length : Nat) : Int) : Int) > ((v.2.1.length : Nat) : Int)))
bif x31 then (some ((v.1.2.1, (v.1.2.2.1, (v.1.1, ()))), (u30.2.1, ())))
else (some ((v.1.2.1, (v.1.2.2.1, (v.1.1, ()))), (v.2.1, ())))) : Option (((List Y7) × Int × Int × Unit) × ((List Y10) × Unit))).bind fun v32 =>
some (.inl (((w64 (v32.1.2.2.1 + 1)), (v32.1.1, (v32.1.2.1, ()))), (v32.2.1, ()))))
else (some (.inr ((), (v.2.1, ()))))

/- pagewatch/region.Agreed -/
def i66 : Abs.Sg := ⟨[0], (.dat Z8 .nil), .nil⟩

def o66 : Abs.Sg := ⟨[2], (.st (.own Z6 (0, 0)) .nil), (.arr Z6 false .nil)⟩

def m66 (v : ((Y5 × Unit) × (Unit))) : Option ((Unit) × ((List Y10) × Unit)) :=
(m106 ((v.1.1, ()), ())).bind fun u28 =>
bif (!u28.1.1) then (some ((), ([], ())))
else ((loopT l66_0_5 ((0, (v.1.1.1, ((v.1.1.1.length : Int), ()))), ([], ()))).bind fun d33 =>
some ((), (d33.2.1, ())))

def sp66 : Abs.Spec := ⟨0, i66, o66, m66⟩

def an66 : Nat → Abs.FAn
  | 0 => Abs.FAn.mk (fun _ => none) (fun
    | 10 => some (⟨[3, 11, 12, 13], (.st (.own Z6 (0, 0)) (.dat (.row Z3) (.dat (.int .i64) (.dat (.int .i64) .nil)))), (.arr Z6 false .nil)⟩, none)
    | _ => none) (fun
    | 5 => some ⟨⟨[13, 3, 11, 12], (.dat (.int .i64) (.st (.own Z6 (0, 0)) (.dat (.row Z3) (.dat (.int .i64) .nil)))), (.arr Z6 false .nil)⟩, (.one (.exit 0) ⟨[3], (.st (.own Z6 (0, 0)) .nil), (.arr Z6 false .nil)⟩)⟩
    | _ => none) (fun _ _ => 0)
  | _ => {}

theorem ok66 : Abs.SpecOK Try.prog 66 sp66 :=
  Abs.specOC_of (C := ctab) (mv := mvtab) ctab_ok (n := 12) (an := an66) (T := Abs.tabOf [(106, sp106), (50, sp50)]) good foll (Abs.tabOf_ok _ (by simp only [List.forall_mem_cons]; exact ⟨ok106, ok50, fun _ h => by cases h⟩)) rfl (by intro v; kernel_rfl)

def l60_0_6 (v : ((Int × Int × Int × Int × Int × Unit) × Y15)) : Option (((Int × Int × Int × Int × Int × Unit) × Y15) ⊕ ((Int × Int × Int × Int × Unit) × Y15)) :=
((bif (decide ((v.1.1 : Int) < 9)) then (let x39 := (decide ((((v.2.2.2.1.length : Nat) : Int) : Int) > 0))
some ((x39, (v.1.2.1, (v.1.2.2.1, (v.1.2.2.2.1, (v.1.2.2.2.2.1, (v.1.1, ())))))), (((), ()), (v.2.2.1, (v.2.2.2.1, (v.2.2.2.2.1, (v.2.2.2.2.2.1, ())))))))
else (some ((false, (v.1.2.1, (v.1.2.2.1, (v.1.2.2.2.1, (v.1.2.2.2.2.1, (v.1.1, ())))))), (((), ()), (v.2.2.1, (v.2.2.2.1, (v.2.2.2.2.1, (v.2.2.2.2.2.1, ())))))))) : Option ((Bool × Int × Int × Int × Int × Int × Unit) × Y15)).bind fun v40 =>
bif v40.1.1 then ((m97 (((v40.2.2.1, (v40.2.2.2.1, (v40.2.2.2.2.1, (v40.2.2.2.2.2.1, ())))), (0, ())), ())).bind fun u41 =>
some (.inl (((w64 (v40.1.2.2.2.2.2.1 + 1)), (v40.1.2.1, (v40.1.2.2.1, (v40.1.2.2.2.1, (v40.1.2.2.2.2.1, ()))))), (((), ()), (u41.2.2.1, (u41.2.2.2.1, (u41.2.2.2.2.1, (u41.2.2.2.2.2.1, ()))))))))
else (some (.inr ((v40.1.2.1, (v40.1.2.2.1, (v40.1.2.2.2.1, (v40.1.2.2.2.2.1, ())))), (((), ()), (v40.2.2.1, (v40.2.2.2.1, (v40.2.2.2.2.1, (v40.2.2.2.2.2.1, ()))))))))

/- pagewatch/pagewatchlaw34.sane -/
def i60 : Abs.Sg := ⟨[], .nil, .nil⟩

def o60 : Abs.Sg := ⟨[0], (.dat .bool .nil), .nil⟩

def m60 (v : ((Unit) × (Unit))) : Option Y16 :=
(m61 ((3, ()), ())).bind fun u35 =>
(m62 (((u35.2.2.1, ([], (u35.2.2.2.1, ([], ())))), (0, ())), ())).bind fun u36 =>
(m63 (((u36.2.2.1, (u36.2.2.2.1, (u36.2.2.2.2.1, (u36.2.2.2.2.2.1, ())))), (0, ((1, (2, (0, (0, (0, (0, (0, (0, (0, ((0, (0, (0, (0, (0, (0, ())))))), ((0, (0, (0, (0, (0, ()))))), ()))))))))))), ()))), ())).bind fun u37 =>
(m64 (((u37.2.2.1, (u37.2.2.2.1, (u37.2.2.2.2.1, (u37.2.2.2.2.2.1, ())))), (0, ())), ())).bind fun u38 =>
(loopT l60_0_6 ((0, (u38.1.1, (u37.1.1, (u36.1.1, (u35.1.1, ()))))), (((), ()), (u38.2.2.1, (u38.2.2.2.1, (u38.2.2.2.2.1, (u38.2.2.2.2.2.1, ()))))))).bind fun d42 =>
(m98 (((d42.2.2.1, (d42.2.2.2.1, (d42.2.2.2.2.1, (d42.2.2.2.2.2.1, ())))), ()), ())).bind fun u43 =>
((bif ((d42.1.2.2.2.1 : Int) == 0) then (bif ((d42.1.2.2.1 : Int) == 0) then (bif ((d42.1.2.1 : Int) == 0) then (bif ((d42.1.1 : Int) == 0) then (bif u43.1.2.1 then (bif ((u43.1.1 : Int) == 0) then ((m66 (((d42.2.2.1, (d42.2.2.2.1, (d42.2.2.2.2.1, (d42.2.2.2.2.2.1, ())))), ()), ())).bind fun u44 =>
some ((((((u44.2.1.length : Nat) : Int) : Int) == 1), ()), ()))
else (some ((false, ()), ())))
else (some ((false, ()), ())))
else (some ((false, ()), ())))
else (some ((false, ()), ())))
else (some ((false, ()), ())))
else (some ((false, ()), ()))) : Option Y16).bind fun v45 =>
some ((v45.1.1, ()), ())

def sp60 : Abs.Spec := ⟨0, i60, o60, m60⟩

def an60 : Nat → Abs.FAn
  | 0 => Abs.FAn.mk (fun
    | 10 => some ⟨[0], (.dat .bool .nil), .nil⟩
    | 6 => some ⟨[36, 1, 5, 4, 3, 2, 6], (.dat .bool (.st (.ptr (0, 0) 4 0 0) (.dat (.int .i64) (.dat (.int .i64) (.dat (.int .i64) (.dat (.int .i64) (.dat (.int .i64) .nil))))))), (.box 4 (.agg (.st (.own Z3 (1, 0)) (.st (.own Z4 (2, 0)) (.st (.own .bool (3, 0)) (.st (.own Z12 (4, 0)) .nil)))) .nil) (.arr Z3 false (.arr Z4 false (.arr .bool false (.arr Z12 false .nil)))))⟩
    | _ => none) (fun _ => none) (fun
    | 6 => some ⟨⟨[6, 1, 5, 4, 3, 2], (.dat (.int .i64) (.st (.ptr (0, 0) 4 0 0) (.dat (.int .i64) (.dat (.int .i64) (.dat (.int .i64) (.dat (.int .i64) .nil)))))), (.box 4 (.agg (.st (.own Z3 (1, 0)) (.st (.own Z4 (2, 0)) (.st (.own .bool (3, 0)) (.st (.own Z12 (4, 0)) .nil)))) .nil) (.arr Z3 false (.arr Z4 false (.arr .bool false (.arr Z12 false .nil)))))⟩, (.one (.exit 0) ⟨[1, 5, 4, 3, 2], (.st (.ptr (0, 0) 4 0 0) (.dat (.int .i64) (.dat (.int .i64) (.dat (.int .i64) (.dat (.int .i64) .nil))))), (.box 4 (.agg (.st (.own Z3 (1, 0)) (.st (.own Z4 (2, 0)) (.st (.own .bool (3, 0)) (.st (.own Z12 (4, 0)) .nil)))) .nil) (.arr Z3 false (.arr Z4 false (.arr .bool false (.arr Z12 false .nil)))))⟩)⟩
    | _ => none) (fun _ _ => 0)
  | _ => {}

theorem ok60 : Abs.SpecOK Try.prog 60 sp60 :=
  Abs.specOC_of (C := ctab) (mv := mvtab) ctab_ok (n := 12) (an := an60) (T := Abs.tabOf [(61, sp61), (62, sp62), (63, sp63), (64, sp64), (97, sp97), (98, sp98), (66, sp66)]) good foll (Abs.tabOf_ok _ (by simp only [List.forall_mem_cons]; exact ⟨ok61, ok62, ok63, ok64, ok97, ok98, ok66, fun _ h => by cases h⟩)) rfl (by intro v; kernel_rfl)

/- pagewatch/region.Cut -/
def i67 : Abs.Sg := ⟨[0, 1, 2], (.dat Z8 (.dat (.int .i64) (.dat (.int .i64) .nil))), .nil⟩

def o67 : Abs.Sg := ⟨[6, 7], (.st (.ptr (0, 0) 4 0 0) (.dat (.int .i64) .nil)), (.box 4 (.agg (.st (.own Z3 (1, 0)) (.st (.own Z4 (2, 0)) (.st (.own .bool (3, 0)) (.st (.own Z12 (4, 0)) .nil)))) .nil) (.arr Z3 false (.arr Z4 false (.arr .bool false (.arr Z12 false .nil)))))⟩

def m67 (v : ((Y5 × Int × Int × Unit) × (Unit))) : Option ((Int × Unit) × Y15) :=
let x24 := (if (v.1.2.2.1 : Int) < v.1.2.1 then v.1.2.2.1 else v.1.2.1)
(m107 ((v.1.1, (x24, ((v.1.1.1.length : Int), ()))), ())).bind fun u25 =>
bif ((u25.1.1 : Int) != 0) then (some ((u25.1.1, ()), (((), ()), ([], ([], ([], ([], ())))))))
else (let x26 := (if (v.1.2.2.1 : Int) < v.1.2.1 then v.1.2.2.1 else v.1.2.1)
let x27 := (if (v.1.2.2.1 : Int) > v.1.2.1 then v.1.2.2.1 else v.1.2.1)
bif (decide ((x27 : Int) ≥ (v.1.1.1.length : Int))) then (some ((3, ()), (((), ()), ([], ([], ([], ([], ())))))))
else (bif ((v.1.2.1 : Int) == v.1.2.2.1) then (some ((1, ()), (((), ()), ([], ([], ([], ([], ())))))))
else ((m108 ((v.1.1.2.2.2.1, ((x26, (x27, ())), ())), ())).bind fun u28 =>
bif u28.1.1 then (some ((9, ()), (((), ()), ([], ([], ([], ([], ())))))))
else ((m101 ((v.1.1, ()), ())).bind fun u29 =>
bif (decide (u29.2.2.2.2.2.1.length + ([(x26, (x27, ()))] : List (Int × Int × Unit)).length ≤ 4294967296)) then
let x30 := (u29.2.2.2.2.2.1 ++ ([(x26, (x27, ()))] : List (Int × Int × Unit)))
some ((0, ()), (((), ()), (u29.2.2.1, (u29.2.2.2.1, (u29.2.2.2.2.1, (x30, ()))))))
else none))))

def sp67 : Abs.Spec := ⟨0, i67, o67, m67⟩

def an67 : Nat → Abs.FAn
  | _ => {}

theorem ok67 : Abs.SpecOK Try.prog 67 sp67 :=
  Abs.specOC_of (C := ctab) (mv := mvtab) ctab_ok (n := 12) (an := an67) (T := Abs.tabOf [(107, sp107), (108, sp108), (101, sp101)]) good foll (Abs.tabOf_ok _ (by simp only [List.forall_mem_cons]; exact ⟨ok107, ok108, ok101, fun _ h => by cases h⟩)) rfl (by intro v; kernel_rfl)

/- pagewatch/region.Heal -/
def i68 : Abs.Sg := ⟨[0], (.dat Z8 .nil), .nil⟩

def o68 : Abs.Sg := ⟨[2], (.st (.ptr (0, 0) 4 0 0) .nil), (.box 4 (.agg (.st (.own Z3 (1, 0)) (.st (.own Z4 (2, 0)) (.st (.own .bool (3, 0)) (.st .nil .nil)))) .nil) (.arr Z3 false (.arr Z4 false (.arr .bool false .nil))))⟩

def m68 (v : ((Y5 × Unit) × (Unit))) : Option ((Unit) × (((Unit) × Unit) × (List Y7) × (List Y9) × (List Bool) × Unit)) :=
(m106 ((v.1.1, ()), ())).bind fun u7 =>
bif (!u7.1.1) then (some ((), (((), ()), ([], ([], ([], ()))))))
else ((m101 ((v.1.1, ()), ())).bind fun u8 =>
some ((), (((), ()), (u8.2.2.1, (u8.2.2.2.1, (u8.2.2.2.2.1, ()))))))

def sp68 : Abs.Spec := ⟨0, i68, o68, m68⟩

def an68 : Nat → Abs.FAn
  | _ => {}

theorem ok68 : Abs.SpecOK Try.prog 68 sp68 :=
  Abs.specOC_of (C := ctab) (mv := mvtab) ctab_ok (n := 12) (an := an68) (T := Abs.tabOf [(106, sp106), (101, sp101)]) good foll (Abs.tabOf_ok _ (by simp only [List.forall_mem_cons]; exact ⟨ok106, ok101, fun _ h => by cases h⟩)) rfl (by intro v; kernel_rfl)

/- pagewatch/region.Drop -/
def i109 : Abs.Sg := ⟨[0, 1], (.dat Z8 (.dat (.int .i64) .nil)), .nil⟩

def o109 : Abs.Sg := ⟨[4, 5], (.st (.ptr (0, 0) 4 0 0) (.dat (.int .i64) .nil)), (.box 4 (.agg (.st (.own Z3 (1, 0)) (.st (.own Z4 (2, 0)) (.st (.own .bool (3, 0)) (.st (.own Z12 (4, 0)) .nil)))) .nil) (.arr Z3 false (.arr Z4 false (.arr .bool false (.arr Z12 false .nil)))))⟩

def m109 (v : Y22) : Option ((Int × Unit) × Y15) :=
(m107 ((v.1.1, (v.1.2.1, ((v.1.1.2.1.length : Int), ()))), ())).bind fun u7 =>
bif ((u7.1.1 : Int) != 0) then (some ((u7.1.1, ()), (((), ()), ([], ([], ([], ([], ())))))))
else ((m101 ((v.1.1, ()), ())).bind fun u8 =>
bif (decide ((0 : Int) ≤ v.1.2.1 ∧ (v.1.2.1 : Int) < (w64 (v.1.2.1 + 1)) ∧ ((w64 (v.1.2.1 + 1)) : Int) ≤ u8.2.2.2.1.length ∧ u8.2.2.2.1.length ≤ 4294967296)) then
bif (decide (u8.2.2.2.1.length = u8.2.2.2.1.length) && true) then
some ((0, ()), (((), ()), (u8.2.2.1, ((u8.2.2.2.1.take v.1.2.1.toNat ++ u8.2.2.2.1.drop (w64 (v.1.2.1 + 1)).toNat), (u8.2.2.2.2.1, (u8.2.2.2.2.2.1, ()))))))
else none
else none)

def sp109 : Abs.Spec := ⟨0, i109, o109, m109⟩

def an109 : Nat → Abs.FAn
  | _ => {}

theorem ok109 : Abs.SpecOK Try.prog 109 sp109 :=
  Abs.specOC_of (C := ctab) (mv := mvtab) ctab_ok (n := 12) (an := an109) (T := Abs.tabOf [(107, sp107), (101, sp101)]) good foll (Abs.tabOf_ok _ (by simp only [List.forall_mem_cons]; exact ⟨ok107, ok101, fun _ h => by cases h⟩)) rfl (by intro v; kernel_rfl)

/- pagewatch/region.Double -/
def i110 : Abs.Sg := ⟨[0, 1], (.dat Z8 (.dat (.int .i64) .nil)), .nil⟩

def o110 : Abs.Sg := ⟨[4, 5], (.st (.ptr (0, 0) 4 0 0) (.dat (.int .i64) .nil)), (.box 4 (.agg (.st (.own Z3 (1, 0)) (.st (.own Z4 (2, 0)) (.st (.own .bool (3, 0)) (.st (.own Z12 (4, 0)) .nil)))) .nil) (.arr Z3 false (.arr Z4 false (.arr .bool false (.arr Z12 false .nil)))))⟩

def m110 (v : Y22) : Option ((Int × Unit) × Y15) :=
(m107 ((v.1.1, (v.1.2.1, ((v.1.1.2.1.length : Int), ()))), ())).bind fun u23 =>
bif ((u23.1.1 : Int) != 0) then (some ((u23.1.1, ()), (((), ()), ([], ([], ([], ([], ())))))))
else ((m101 ((v.1.1, ()), ())).bind fun u24 =>
bif (decide ((0 : Int) ≤ v.1.2.1 ∧ (v.1.2.1 : Int) < u24.2.2.2.1.length)) then
(u24.2.2.2.1[v.1.2.1.toNat]?).bind fun e25 =>
(m91 ((e25.2.2.2.2.2.2.2.1, ()), ())).bind fun u26 =>
((let x27 := (w64 (((u24.2.2.2.1.length : Nat) : Int) + ((([(e25.1, (e25.2.1, (e25.2.2.1, (e25.2.2.2.1, (e25.2.2.2.2.1, (e25.2.2.2.2.2.1, (e25.2.2.2.2.2.2.1, (u26.2.1, e25.2.2.2.2.2.2.2.2))))))))] : List Y9).length : Nat) : Int)))
bif (decide ((x27 : Int) > 256)) then (bif (decide (u24.2.2.1.length = u24.2.2.1.length) && (decide (u24.2.2.2.1.length = u24.2.2.2.1.length) && (decide (u24.2.2.2.2.1.length = u24.2.2.2.2.1.length) && (decide (u24.2.2.2.2.2.1.length = u24.2.2.2.2.2.1.length) && (decide (([(e25.1, (e25.2.1, (e25.2.2.1, (e25.2.2.2.1, (e25.2.2.2.2.1, (e25.2.2.2.2.2.1, (e25.2.2.2.2.2.2.1, (u26.2.1, e25.2.2.2.2.2.2.2.2))))))))] : List Y9).length = ([(e25.1, (e25.2.1, (e25.2.2.1, (e25.2.2.2.1, (e25.2.2.2.2.1, (e25.2.2.2.2.2.1, (e25.2.2.2.2.2.2.1, (u26.2.1, e25.2.2.2.2.2.2.2.2))))))))] : List Y9).length) && true))))) then
some ((5, ()), (((), ()), ([], ([], ([], ([], ()))))))
else none)
else (bif (decide (u24.2.2.2.1.length + ([(e25.1, (e25.2.1, (e25.2.2.1, (e25.2.2.2.1, (e25.2.2.2.2.1, (e25.2.2.2.2.2.1, (e25.2.2.2.2.2.2.1, (u26.2.1, e25.2.2.2.2.2.2.2.2))))))))] : List Y9).length ≤ 4294967296)) then
let x28 := (u24.2.2.2.1 ++ ([(e25.1, (e25.2.1, (e25.2.2.1, (e25.2.2.2.1, (e25.2.2.2.2.1, (e25.2.2.2.2.2.1, (e25.2.2.2.2.2.2.1, (u26.2.1, e25.2.2.2.2.2.2.2.2))))))))] : List Y9))
bif (decide (u24.2.2.1.length = u24.2.2.1.length) && (decide (u24.2.2.2.1.length = u24.2.2.2.1.length) && (decide (u24.2.2.2.2.1.length = u24.2.2.2.2.1.length) && (decide (u24.2.2.2.2.2.1.length = u24.2.2.2.2.2.1.length) && (decide (([(e25.1, (e25.2.1, (e25.2.2.1, (e25.2.2.2.1, (e25.2.2.2.2.1, (e25.2.2.2.2.2.1, (e25.2.2.2.2.2.2.1, (u26.2.1, e25.2.2.2.2.2.2.2.2))))))))] : List Y9).length = ([(e25.1, (e25.2.1, (e25.2.2.1, (e25.2.2.2.1, (e25.2.2.2.2.1, (e25.2.2.2.2.2.1, (e25.2.2.2.2.2.2.1, (u26.2.1, e25.2.2.2.2.2.2.2.2))))))))] : List Y9).length) && true))))) then
some ((0, ()), (((), ()), (u24.2.2.1, (x28, (u24.2.2.2.2.1, (u24.2.2.2.2.2.1, ()))))))
else none
else none)) : Option ((Int × Unit) × Y15)).bind fun v29 =>
some ((v29.1.1, ()), (((), ()), (v29.2.2.1, (v29.2.2.2.1, (v29.2.2.2.2.1, (v29.2.2.2.2.2.1, ()))))))
else none)

def sp110 : Abs.Spec := ⟨0, i110, o110, m110⟩

def an110 : Nat → Abs.FAn
  | 0 => Abs.FAn.mk (fun
    | 7 => some ⟨[4, 5], (.st (.ptr (0, 0) 4 0 0) (.dat (.int .i64) .nil)), (.box 4 (.agg (.st (.own Z3 (1, 0)) (.st (.own Z4 (2, 0)) (.st (.own .bool (3, 0)) (.st (.own Z12 (4, 0)) .nil)))) .nil) (.arr Z3 false (.arr Z4 false (.arr .bool false (.arr Z12 false .nil)))))⟩
    | _ => none) (fun _ => none) (fun _ => none) (fun
    | 7, 3 => 1
    | _, _ => 0)
  | _ => {}

theorem ok110 : Abs.SpecOK Try.prog 110 sp110 :=
  Abs.specOC_of (C := ctab) (mv := mvtab) ctab_ok (n := 12) (an := an110) (T := Abs.tabOf [(107, sp107), (101, sp101), (91, sp91)]) good foll (Abs.tabOf_ok _ (by simp only [List.forall_mem_cons]; exact ⟨ok107, ok101, ok91, fun _ h => by cases h⟩)) rfl (by intro v; kernel_rfl)

/- pagewatch/region.Crash -/
def i111 : Abs.Sg := ⟨[0, 1], (.dat Z8 (.dat (.int .i64) .nil)), .nil⟩

def o111 : Abs.Sg := ⟨[4, 5], (.st (.ptr (0, 0) 4 0 0) (.dat (.int .i64) .nil)), (.box 4 (.agg (.st (.own Z3 (1, 0)) (.st (.own Z4 (2, 0)) (.st (.own .bool (3, 0)) (.st (.own Z12 (4, 0)) .nil)))) .nil) (.arr Z3 false (.arr Z4 false (.arr .bool false (.arr Z12 false .nil)))))⟩

def m111 (v : Y22) : Option ((Int × Unit) × Y15) :=
(m107 ((v.1.1, (v.1.2.1, ((v.1.1.1.length : Int), ()))), ())).bind fun u11 =>
bif ((u11.1.1 : Int) != 0) then (some ((u11.1.1, ()), (((), ()), ([], ([], ([], ([], ())))))))
else (Abs.rowAt v.1.1.2.2.1 v.1.2.1 fun e12 _ =>
bif e12 then (some ((9, ()), (((), ()), ([], ([], ([], ([], ())))))))
else ((m101 ((v.1.1, ()), ())).bind fun u13 =>
bif (decide ((0 : Int) ≤ v.1.2.1 ∧ (v.1.2.1 : Int) < u13.2.2.2.2.1.length)) then
bif (decide (v.1.2.1.toNat < u13.2.2.2.2.1.length)) then
some ((0, ()), (((), ()), (u13.2.2.1, (u13.2.2.2.1, ((u13.2.2.2.2.1.set v.1.2.1.toNat true), (u13.2.2.2.2.2.1, ()))))))
else none
else none))

def sp111 : Abs.Spec := ⟨0, i111, o111, m111⟩

def an111 : Nat → Abs.FAn
  | _ => {}

theorem ok111 : Abs.SpecOK Try.prog 111 sp111 :=
  Abs.specOC_of (C := ctab) (mv := mvtab) ctab_ok (n := 12) (an := an111) (T := Abs.tabOf [(107, sp107), (101, sp101)]) good foll (Abs.tabOf_ok _ (by simp only [List.forall_mem_cons]; exact ⟨ok107, ok101, fun _ h => by cases h⟩)) rfl (by intro v; kernel_rfl)

/- pagewatch/region.Restart -/
def i112 : Abs.Sg := ⟨[0, 1], (.dat Z8 (.dat (.int .i64) .nil)), .nil⟩

def o112 : Abs.Sg := ⟨[4, 5], (.st (.ptr (0, 0) 4 0 0) (.dat (.int .i64) .nil)), (.box 4 (.agg (.st (.own Z3 (1, 0)) (.st (.own Z4 (2, 0)) (.st (.own .bool (3, 0)) (.st (.own Z12 (4, 0)) .nil)))) .nil) (.arr Z3 false (.arr Z4 false (.arr .bool false (.arr Z12 false .nil)))))⟩

def m112 (v : Y22) : Option ((Int × Unit) × Y15) :=
(m107 ((v.1.1, (v.1.2.1, ((v.1.1.1.length : Int), ()))), ())).bind fun u17 =>
bif ((u17.1.1 : Int) != 0) then (some ((u17.1.1, ()), (((), ()), ([], ([], ([], ([], ())))))))
else (Abs.rowAt v.1.1.2.2.1 v.1.2.1 fun e18 _ =>
bif (!e18) then (some ((9, ()), (((), ()), ([], ([], ([], ([], ())))))))
else ((m101 ((v.1.1, ()), ())).bind fun u19 =>
bif (decide ((0 : Int) ≤ v.1.2.1 ∧ (v.1.2.1 : Int) < u19.2.2.2.2.1.length)) then
bif (decide (v.1.2.1.toNat < u19.2.2.2.2.1.length)) then
bif (decide ((0 : Int) ≤ v.1.2.1 ∧ (v.1.2.1 : Int) < u19.2.2.1.length)) then
(u19.2.2.1[v.1.2.1.toNat]?).bind fun e20 =>
(m49 ((((u19.2.2.1.length : Nat) : Int), (e20, ())), ())).bind fun u21 =>
bif (decide ((0 : Int) ≤ v.1.2.1 ∧ (v.1.2.1 : Int) < u19.2.2.1.length)) then
bif (decide (v.1.2.1.toNat < u19.2.2.1.length)) then
some ((0, ()), (((), ()), ((u19.2.2.1.set v.1.2.1.toNat (u21.2.1.1.1, (u21.2.1.1.2.1, (u21.2.1.1.2.2.1, (u21.2.1.1.2.2.2.1, (u21.2.2.1, (u21.2.1.1.2.2.2.2.1, ([], ([], ()))))))))), (u19.2.2.2.1, ((u19.2.2.2.2.1.set v.1.2.1.toNat false), (u19.2.2.2.2.2.1, ()))))))
else none
else none
else none
else none
else none))

def sp112 : Abs.Spec := ⟨0, i112, o112, m112⟩

def an112 : Nat → Abs.FAn
  | _ => {}

theorem ok112 : Abs.SpecOK Try.prog 112 sp112 :=
  Abs.specOC_of (C := ctab) (mv := mvtab) ctab_ok (n := 12) (an := an112) (T := Abs.tabOf [(107, sp107), (101, sp101), (49, sp49)]) good foll (Abs.tabOf_ok _ (by simp only [List.forall_mem_cons]; exact ⟨ok107, ok101, ok49, fun _ h => by cases h⟩)) rfl (by intro v; kernel_rfl)

/- pagewatch/pagewatchlaw34.act -/

end
end Go.Proofs.Ytfbikpbejkgegaa

namespace Go.Proofs.Ytfbikpbejkgegaa
open Go Go.Abs
noncomputable section
def i70 : Abs.Sg := ⟨[0, 1], (.st (.ptr (0, 0) 2 0 0) (.dat Z8 .nil)), (.box 2 (.dat Z13 .nil) .nil)⟩

def o70 : Abs.Sg := ⟨[4], (.st (.ptr (1, 0) 4 0 0) .nil), (.box 2 (.dat Z13 .nil) (.box 4 (.dat Z8 .nil) .nil))⟩

def m70 (v : ((Y5 × Unit) × (Y14 × Unit))) : Option ((Unit) × (Y14 × (Y5 × Unit) × Unit)) :=
(m20 (((v.1.1.1.length : Int), ()), ((v.2.1.1, ()), ()))).bind fun u70 =>
(((m43 ((v.1.1, ()), ())).bind fun u71 =>
((bif u71.1.2.1 then ((m20 ((3, ()), ((u70.2.1.1, ()), ()))).bind fun u72 =>
some (((decide ((u72.1.1 : Int) > 0)), (u71.1.1, (u70.1.1, ()))), ((u72.2.1.1, ()), (((), ()), ((v.1.1, ()), ())))))
else (some ((false, (u71.1.1, (u70.1.1, ()))), ((u70.2.1.1, ()), (((), ()), ((v.1.1, ()), ())))))) : Option ((Bool × Int × Int × Unit) × (Y14 × ((Unit) × Unit) × (Y5 × Unit) × Unit))).bind fun v73 =>
bif v73.1.1 then (some ((v73.1.2.1, ()), ((v73.2.1.1, ()), (((), ()), ((v73.2.2.2.1.1, ()), ())))))
else (some ((v73.1.2.2.1, ()), ((v73.2.1.1, ()), (((), ()), ((v73.2.2.2.1.1, ()), ())))))) : Option ((Int × Unit) × (Y14 × ((Unit) × Unit) × (Y5 × Unit) × Unit))).bind fun v74 =>
(m20 (((v74.2.2.2.1.1.2.1.length : Int), ()), ((v74.2.1.1, ()), ()))).bind fun u75 =>
(((m20 ((16, ()), ((u75.2.1.1, ()), ()))).bind fun u76 =>
((bif ((u76.1.1 : Int) == 0) then (some ((((u76.1.1 : Int) == 0), (v74.1.1, (u75.1.1, (0, (u76.1.1, ()))))), ((u76.2.1.1, ()), (((), ()), ((v74.2.2.2.1.1, ()), ((v74.2.2.2.1.1, ()), ()))))))
else (some ((((u76.1.1 : Int) == 1), (v74.1.1, (u75.1.1, (0, (u76.1.1, ()))))), ((u76.2.1.1, ()), (((), ()), ((v74.2.2.2.1.1, ()), ((v74.2.2.2.1.1, ()), ()))))))) : Option Y20).bind fun v77 =>
bif v77.1.1 then ((m102 ((v77.2.2.2.1.1, (v77.1.2.1, ())), ())).bind fun u78 =>
some ((u78.1.1, ()), ((v77.2.1.1, ()), (((), ()), ((v77.2.2.2.1.1, ()), (((u78.2.2.1, (u78.2.2.2.1, (u78.2.2.2.2.1, (u78.2.2.2.2.2.1, ())))), ()), ()))))))
else (((bif ((v77.1.2.2.2.2.1 : Int) == 2) then (some ((((v77.1.2.2.2.2.1 : Int) == 2), (v77.1.2.1, (v77.1.2.2.1, (v77.1.2.2.2.1, (v77.1.2.2.2.2.1, ()))))), ((v77.2.1.1, ()), (((), ()), ((v77.2.2.2.1.1, ()), ((v77.2.2.2.2.1.1, ()), ()))))))
else (some ((((v77.1.2.2.2.2.1 : Int) == 3), (v77.1.2.1, (v77.1.2.2.1, (v77.1.2.2.2.1, (v77.1.2.2.2.2.1, ()))))), ((v77.2.1.1, ()), (((), ()), ((v77.2.2.2.1.1, ()), ((v77.2.2.2.2.1.1, ()), ()))))))) : Option Y20).bind fun v79 =>
bif v79.1.1 then ((m20 ((90, ()), ((v79.2.1.1, ()), ()))).bind fun u80 =>
(m63 ((v79.2.2.2.1.1, (v79.1.2.1, (((w64 (1 + u80.1.1)), (2, (0, (0, (0, (0, (0, (0, (0, ((0, (0, (0, (0, (0, (0, ())))))), ((0, (0, (0, (0, (0, ()))))), ()))))))))))), ()))), ())).bind fun u81 =>
some ((u81.1.1, ()), ((u80.2.1.1, ()), (((), ()), ((v79.2.2.2.1.1, ()), (((u81.2.2.1, (u81.2.2.2.1, (u81.2.2.2.2.1, (u81.2.2.2.2.2.1, ())))), ()), ()))))))
else (((bif ((v79.1.2.2.2.2.1 : Int) == 4) then (some ((((v79.1.2.2.2.2.1 : Int) == 4), (v79.1.2.1, (v79.1.2.2.1, (v79.1.2.2.2.1, (v79.1.2.2.2.2.1, ()))))), ((v79.2.1.1, ()), (((), ()), ((v79.2.2.2.1.1, ()), ((v79.2.2.2.2.1.1, ()), ()))))))
else (some ((((v79.1.2.2.2.2.1 : Int) == 5), (v79.1.2.1, (v79.1.2.2.1, (v79.1.2.2.2.1, (v79.1.2.2.2.2.1, ()))))), ((v79.2.1.1, ()), (((), ()), ((v79.2.2.2.1.1, ()), ((v79.2.2.2.2.1.1, ()), ()))))))) : Option Y20).bind fun v82 =>
bif v82.1.1 then ((m64 ((v82.2.2.2.1.1, (v82.1.2.1, ())), ())).bind fun u83 =>
some ((u83.1.1, ()), ((v82.2.1.1, ()), (((), ()), ((v82.2.2.2.1.1, ()), (((u83.2.2.1, (u83.2.2.2.1, (u83.2.2.2.2.1, (u83.2.2.2.2.2.1, ())))), ()), ()))))))
else (((bif ((v82.1.2.2.2.2.1 : Int) == 6) then (some ((((v82.1.2.2.2.2.1 : Int) == 6), (v82.1.2.2.1, (v82.1.2.1, (v82.1.2.2.2.1, (v82.1.2.2.2.2.1, ()))))), ((v82.2.1.1, ()), (((), ()), ((v82.2.2.2.1.1, ()), ((v82.2.2.2.2.1.1, ()), ()))))))
else (bif ((v82.1.2.2.2.2.1 : Int) == 7) then (some ((((v82.1.2.2.2.2.1 : Int) == 7), (v82.1.2.2.1, (v82.1.2.1, (v82.1.2.2.2.1, (v82.1.2.2.2.2.1, ()))))), ((v82.2.1.1, ()), (((), ()), ((v82.2.2.2.1.1, ()), ((v82.2.2.2.2.1.1, ()), ()))))))
else (bif ((v82.1.2.2.2.2.1 : Int) == 8) then (some ((((v82.1.2.2.2.2.1 : Int) == 8), (v82.1.2.2.1, (v82.1.2.1, (v82.1.2.2.2.1, (v82.1.2.2.2.2.1, ()))))), ((v82.2.1.1, ()), (((), ()), ((v82.2.2.2.1.1, ()), ((v82.2.2.2.2.1.1, ()), ()))))))
else (bif ((v82.1.2.2.2.2.1 : Int) == 9) then (some ((((v82.1.2.2.2.2.1 : Int) == 9), (v82.1.2.2.1, (v82.1.2.1, (v82.1.2.2.2.1, (v82.1.2.2.2.2.1, ()))))), ((v82.2.1.1, ()), (((), ()), ((v82.2.2.2.1.1, ()), ((v82.2.2.2.2.1.1, ()), ()))))))
else (bif ((v82.1.2.2.2.2.1 : Int) == 10) then (some ((((v82.1.2.2.2.2.1 : Int) == 10), (v82.1.2.2.1, (v82.1.2.1, (v82.1.2.2.2.1, (v82.1.2.2.2.2.1, ()))))), ((v82.2.1.1, ()), (((), ()), ((v82.2.2.2.1.1, ()), ((v82.2.2.2.2.1.1, ()), ()))))))
else (some ((((v82.1.2.2.2.2.1 : Int) == 11), (v82.1.2.2.1, (v82.1.2.1, (v82.1.2.2.2.1, (v82.1.2.2.2.2.1, ()))))), ((v82.2.1.1, ()), (((), ()), ((v82.2.2.2.1.1, ()), ((v82.2.2.2.2.1.1, ()), ()))))))))))) : Option Y20).bind fun v84 =>
bif v84.1.1 then ((m97 ((v84.2.2.2.1.1, (v84.1.2.1, ())), ())).bind fun u85 =>
some ((u85.1.1, ()), ((v84.2.1.1, ()), (((), ()), ((v84.2.2.2.1.1, ()), (((u85.2.2.1, (u85.2.2.2.1, (u85.2.2.2.2.1, (u85.2.2.2.2.2.1, ())))), ()), ()))))))
else (bif ((v84.1.2.2.2.2.1 : Int) == 12) then ((m109 ((v84.2.2.2.1.1, (v84.1.2.1, ())), ())).bind fun u86 =>
some ((u86.1.1, ()), ((v84.2.1.1, ()), (((), ()), ((v84.2.2.2.1.1, ()), (((u86.2.2.1, (u86.2.2.2.1, (u86.2.2.2.2.1, (u86.2.2.2.2.2.1, ())))), ()), ()))))))
else (bif ((v84.1.2.2.2.2.1 : Int) == 13) then ((m110 ((v84.2.2.2.1.1, (v84.1.2.1, ())), ())).bind fun u87 =>
some ((u87.1.1, ()), ((v84.2.1.1, ()), (((), ()), ((v84.2.2.2.1.1, ()), (((u87.2.2.1, (u87.2.2.2.1, (u87.2.2.2.2.1, (u87.2.2.2.2.2.1, ())))), ()), ()))))))
else (bif ((v84.1.2.2.2.2.1 : Int) == 14) then ((m111 ((v84.2.2.2.1.1, (v84.1.2.2.1, ())), ())).bind fun u88 =>
bif ((u88.1.1 : Int) != 0) then ((m112 ((v84.2.2.2.1.1, (v84.1.2.2.1, ())), ())).bind fun u89 =>
some ((u89.1.1, ()), ((v84.2.1.1, ()), (((), ()), ((v84.2.2.2.1.1, ()), (((u89.2.2.1, (u89.2.2.2.1, (u89.2.2.2.2.1, (u89.2.2.2.2.2.1, ())))), ()), ()))))))
else (some ((u88.1.1, ()), ((v84.2.1.1, ()), (((), ()), ((v84.2.2.2.1.1, ()), (((u88.2.2.1, (u88.2.2.2.1, (u88.2.2.2.2.1, (u88.2.2.2.2.2.1, ())))), ()), ())))))))
else (bif ((v84.1.2.2.2.2.1 : Int) == 15) then ((m20 (((v84.2.2.2.1.1.1.length : Int), ()), ((v84.2.1.1, ()), ()))).bind fun u90 =>
(m67 ((v84.2.2.2.1.1, (v84.1.2.2.1, (u90.1.1, ()))), ())).bind fun u91 =>
bif ((u91.1.1 : Int) != 0) then ((m68 ((v84.2.2.2.1.1, ()), ())).bind fun u92 =>
some ((0, ()), ((u90.2.1.1, ()), (((), ()), ((v84.2.2.2.1.1, ()), (((u92.2.2.1, (u92.2.2.2.1, (u92.2.2.2.2.1, ([], ())))), ()), ()))))))
else (some ((u91.1.1, ()), ((u90.2.1.1, ()), (((), ()), ((v84.2.2.2.1.1, ()), (((u91.2.2.1, (u91.2.2.2.1, (u91.2.2.2.2.1, (u91.2.2.2.2.2.1, ())))), ()), ())))))))
else (some ((v84.1.2.2.2.1, ()), ((v84.2.1.1, ()), (((), ()), ((v84.2.2.2.1.1, ()), ((v84.2.2.2.2.1.1, ()), ())))))))))))))) : Option ((Int × Unit) × (Y14 × ((Unit) × Unit) × (Y5 × Unit) × (Y5 × Unit) × Unit))).bind fun v93 =>
bif ((v93.1.1 : Int) != 0) then (some ((), ((v93.2.1.1, ()), ((v93.2.2.2.1.1, ()), ()))))
else (some ((), ((v93.2.1.1, ()), ((v93.2.2.2.2.1.1, ()), ()))))

def sp70 : Abs.Spec := ⟨1, i70, o70, m70⟩

def an70 : Nat → Abs.FAn
  | 0 => Abs.FAn.mk (fun
    | 3 => some ⟨[26, 4, 3, 0, 6, 5], (.dat .bool (.st (.ptr (1, 0) 4 0 0) (.st (.ptr (2, 0) 4 0 0) (.st (.ptr (0, 0) 2 0 0) (.dat (.int .i64) (.dat (.int .i64) .nil)))))), (.box 2 (.dat Z13 .nil) (.box 4 (.agg (.st .nil (.st .nil (.st .nil (.st .nil .nil)))) .nil) (.box 4 (.dat Z8 .nil) .nil)))⟩
    | _ => none) (fun
    | 36 => some (⟨[4, 3, 9, 10], (.st (.ptr (1, 0) 4 0 0) (.st (.ptr (2, 0) 4 0 0) (.st (.ptr (3, 0) 4 0 0) (.dat (.int .i64) .nil)))), (.box 2 (.dat Z13 .nil) (.box 4 (.agg (.st .nil (.st .nil (.st .nil (.st .nil .nil)))) .nil) (.box 4 (.dat Z8 .nil) (.box 4 (.dat Z8 .nil) .nil))))⟩, none)
    | 23 => some (⟨[67, 4, 3, 9, 8, 5, 0, 10, 35], (.dat .bool (.st (.ptr (1, 0) 4 0 0) (.st (.ptr (2, 0) 4 0 0) (.st (.ptr (3, 0) 4 0 0) (.dat (.int .i64) (.dat (.int .i64) (.st (.ptr (0, 0) 2 0 0) (.dat (.int .i64) (.dat (.int .i64) .nil))))))))), (.box 2 (.dat Z13 .nil) (.box 4 (.agg (.st .nil (.st .nil (.st .nil (.st .nil .nil)))) .nil) (.box 4 (.dat Z8 .nil) (.box 4 (.dat Z8 .nil) .nil))))⟩, none)
    | 16 => some (⟨[58, 4, 3, 9, 5, 8, 0, 10, 35], (.dat .bool (.st (.ptr (1, 0) 4 0 0) (.st (.ptr (2, 0) 4 0 0) (.st (.ptr (3, 0) 4 0 0) (.dat (.int .i64) (.dat (.int .i64) (.st (.ptr (0, 0) 2 0 0) (.dat (.int .i64) (.dat (.int .i64) .nil))))))))), (.box 2 (.dat Z13 .nil) (.box 4 (.agg (.st .nil (.st .nil (.st .nil (.st .nil .nil)))) .nil) (.box 4 (.dat Z8 .nil) (.box 4 (.dat Z8 .nil) .nil))))⟩, none)
    | 13 => some (⟨[45, 4, 3, 9, 0, 5, 8, 10, 35], (.dat .bool (.st (.ptr (1, 0) 4 0 0) (.st (.ptr (2, 0) 4 0 0) (.st (.ptr (3, 0) 4 0 0) (.st (.ptr (0, 0) 2 0 0) (.dat (.int .i64) (.dat (.int .i64) (.dat (.int .i64) (.dat (.int .i64) .nil))))))))), (.box 2 (.dat Z13 .nil) (.box 4 (.agg (.st .nil (.st .nil (.st .nil (.st .nil .nil)))) .nil) (.box 4 (.dat Z8 .nil) (.box 4 (.dat Z8 .nil) .nil))))⟩, none)
    | 10 => some (⟨[36, 4, 3, 9, 5, 0, 8, 10, 35], (.dat .bool (.st (.ptr (1, 0) 4 0 0) (.st (.ptr (2, 0) 4 0 0) (.st (.ptr (3, 0) 4 0 0) (.dat (.int .i64) (.st (.ptr (0, 0) 2 0 0) (.dat (.int .i64) (.dat (.int .i64) (.dat (.int .i64) .nil))))))))), (.box 2 (.dat Z13 .nil) (.box 4 (.agg (.st .nil (.st .nil (.st .nil (.st .nil .nil)))) .nil) (.box 4 (.dat Z8 .nil) (.box 4 (.dat Z8 .nil) .nil))))⟩, none)
    | 5 => some (⟨[4, 3, 5, 0], (.st (.ptr (1, 0) 4 0 0) (.st (.ptr (2, 0) 4 0 0) (.dat (.int .i64) (.st (.ptr (0, 0) 2 0 0) .nil)))), (.box 2 (.dat Z13 .nil) (.box 4 (.agg (.st .nil (.st .nil (.st .nil (.st .nil .nil)))) .nil) (.box 4 (.dat Z8 .nil) .nil)))⟩, none)
    | _ => none) (fun _ => none) (fun _ _ => 0)
  | _ => {}

theorem ok70 : Abs.SpecOK Try.prog 70 sp70 :=
  Abs.specOC_of (C := ctab) (mv := mvtab) ctab_ok (n := 12) (an := an70) (T := Abs.tabOf [(20, sp20), (43, sp43), (102, sp102), (63, sp63), (64, sp64), (97, sp97), (109, sp109), (110, sp110), (111, sp111), (112, sp112), (67, sp67), (68, sp68)]) good foll (Abs.tabOf_ok _ (by simp only [List.forall_mem_cons]; exact ⟨ok20, ok43, ok102, ok63, ok64, ok97, ok109, ok110, ok111, ok112, ok67, ok68, fun _ h => by cases h⟩)) rfl (by intro v; kernel_rfl)

def l15_0_9 (v : ((Int × Unit) × ((Y5 × Unit) × Y14 × Unit))) : Option (((Int × Unit) × ((Y5 × Unit) × Y14 × Unit)) ⊕ (Y16 ⊕ ((Unit) × ((Y5 × Unit) × Unit)))) :=
bif (decide ((v.1.1 : Int) < 40)) then ((m70 ((v.2.1.1, ()), ((v.2.2.1.1, ()), ()))).bind fun u128 =>
(m71 ((u128.2.2.1.1, ()), ())).bind fun u129 =>
bif (!u129.1.1) then (some (.inr (.inl ((false, ()), ()))))
else (some (.inl (((w64 (v.1.1 + 1)), ()), ((u128.2.2.1.1, ()), ((u128.2.1.1, ()), ()))))))
else (some (.inr (.inr ((), ((v.2.1.1, ()), ())))))

def l15_0_21 (v : ((Int × (List Y7) × Int × Int × Int × Bool × Unit) × ((List Y10) × (Y7 × Unit) × (Y5 × Unit) × Unit))) : Option (((Int × (List Y7) × Int × Int × Int × Bool × Unit) × ((List Y10) × (Y7 × Unit) × (Y5 × Unit) × Unit)) ⊕ (((List Y7) × Int × Int × Int × Bool × Unit) × ((List Y10) × (Y5 × Unit) × Unit))) :=
((let x136 := (decide ((v.1.1 : Int) < ((v.2.1.length : Nat) : Int)))
bif x136 then (some ((v.1.2.2.2.2.2.1, (v.1.2.1, (v.1.2.2.1, (v.1.2.2.2.1, (v.1.2.2.2.2.1, (v.1.1, (v.1.2.2.2.2.2.1, ()))))))), (v.2.1, ((v.2.2.1.1, ()), ((v.2.2.2.1.1, ()), ())))))
else (some ((false, (v.1.2.1, (v.1.2.2.1, (v.1.2.2.2.1, (v.1.2.2.2.2.1, (v.1.1, (v.1.2.2.2.2.2.1, ()))))))), (v.2.1, ((v.2.2.1.1, ()), ((v.2.2.2.1.1, ()), ())))))) : Option ((Bool × (List Y7) × Int × Int × Int × Int × Bool × Unit) × ((List Y10) × (Y7 × Unit) × (Y5 × Unit) × Unit))).bind fun v137 =>
bif v137.1.1 then (Abs.rowAt v137.2.2.1.1.2.2.2.2.1 v137.1.2.2.2.2.2.1 fun e138 _ =>
bif (decide ((0 : Int) ≤ v137.1.2.2.2.2.2.1 ∧ (v137.1.2.2.2.2.2.1 : Int) < v137.2.1.length)) then
(v137.2.1[v137.1.2.2.2.2.2.1.toNat]?).bind fun e139 =>
let x140 := (((e138.2.1.1 : Int) == e139.1) && (((e138.2.1.2.1 : Int) == e139.2.1) && (((e138.2.1.2.2.1 : Int) == e139.2.2.1) && (((e138.2.1.2.2.2.1 : Int) == e139.2.2.2.1) && (((e138.2.1.2.2.2.2.1 : Int) == e139.2.2.2.2.1) && (((e138.2.1.2.2.2.2.2.1 : Int) == e139.2.2.2.2.2.1) && (((e138.2.1.2.2.2.2.2.2.1 : Int) == e139.2.2.2.2.2.2.1) && (((e138.2.1.2.2.2.2.2.2.2.1 : Int) == e139.2.2.2.2.2.2.2.1) && (((e138.2.1.2.2.2.2.2.2.2.2.1 : Int) == e139.2.2.2.2.2.2.2.2.1) && ((((e138.2.1.2.2.2.2.2.2.2.2.2.1.1 : Int) == e139.2.2.2.2.2.2.2.2.2.1.1) && (((e138.2.1.2.2.2.2.2.2.2.2.2.1.2.1 : Int) == e139.2.2.2.2.2.2.2.2.2.1.2.1) && (((e138.2.1.2.2.2.2.2.2.2.2.2.1.2.2.1 : Int) == e139.2.2.2.2.2.2.2.2.2.1.2.2.1) && (((e138.2.1.2.2.2.2.2.2.2.2.2.1.2.2.2.1 : Int) == e139.2.2.2.2.2.2.2.2.2.1.2.2.2.1) && (((e138.2.1.2.2.2.2.2.2.2.2.2.1.2.2.2.2.1 : Int) == e139.2.2.2.2.2.2.2.2.2.1.2.2.2.2.1) && (((e138.2.1.2.2.2.2.2.2.2.2.2.1.2.2.2.2.2.1 : Int) == e139.2.2.2.2.2.2.2.2.2.1.2.2.2.2.2.1) && true)))))) && ((((e138.2.1.2.2.2.2.2.2.2.2.2.2.1.1 : Int) == e139.2.2.2.2.2.2.2.2.2.2.1.1) && (((e138.2.1.2.2.2.2.2.2.2.2.2.2.1.2.1 : Int) == e139.2.2.2.2.2.2.2.2.2.2.1.2.1) && (((e138.2.1.2.2.2.2.2.2.2.2.2.2.1.2.2.1 : Int) == e139.2.2.2.2.2.2.2.2.2.2.1.2.2.1) && (((e138.2.1.2.2.2.2.2.2.2.2.2.2.1.2.2.2.1 : Int) == e139.2.2.2.2.2.2.2.2.2.2.1.2.2.2.1) && (((e138.2.1.2.2.2.2.2.2.2.2.2.2.1.2.2.2.2.1 : Int) == e139.2.2.2.2.2.2.2.2.2.2.1.2.2.2.2.1) && true))))) && true)))))))))))
some (.inl (((w64 (v137.1.2.2.2.2.2.1 + 1)), (v137.1.2.1, (v137.1.2.2.1, (v137.1.2.2.2.1, (v137.1.2.2.2.2.1, (x140, ())))))), (v137.2.1, ((v137.2.2.1.1, ()), ((v137.2.2.2.1.1, ()), ())))))
else none)
else (some (.inr ((v137.1.2.1, (v137.1.2.2.1, (v137.1.2.2.2.1, (v137.1.2.2.2.2.1, (v137.1.2.2.2.2.2.2.1, ()))))), (v137.2.1, ((v137.2.2.2.1.1, ()), ())))))

def l15_0_17 (v : ((Int × Int × (List Y7) × Int × Unit) × ((List Y10) × (Y5 × Unit) × Unit))) : Option (((Int × Int × (List Y7) × Int × Unit) × ((List Y10) × (Y5 × Unit) × Unit)) ⊕ ((Int × Unit) × ((Y5 × Unit) × Unit))) :=
bif (decide ((v.1.1 : Int) < v.1.2.2.2.1)) then (((Abs.rowAt v.1.2.2.1 v.1.1 fun e134 _ =>
let x135 := (decide (((e134.2.2.2.2.1.length : Int) : Int) ≥ ((v.2.1.length : Nat) : Int)))
(loopT l15_0_21 ((0, (v.1.2.2.1, (v.1.2.2.2.1, (v.1.1, (v.1.2.1, (x135, ())))))), (v.2.1, ((e134, ()), (((v.2.2.1.1.1, (v.2.2.1.1.2.1, (v.2.2.1.1.2.2.1, (v.2.2.1.1.2.2.2.1, ())))), ()), ()))))).bind fun d141 =>
bif d141.1.2.2.2.2.1 then (some (((w64 (d141.1.2.2.2.1 + 1)), (d141.1.1, (d141.1.2.1, (d141.1.2.2.1, ())))), (d141.2.1, ((d141.2.2.1.1, ()), ()))))
else (some ((d141.1.2.2.2.1, (d141.1.1, (d141.1.2.1, (d141.1.2.2.1, ())))), (d141.2.1, ((d141.2.2.1.1, ()), ()))))) : Option ((Int × (List Y7) × Int × Int × Unit) × ((List Y10) × (Y5 × Unit) × Unit))).bind fun v142 =>
some (.inl (((w64 (v142.1.2.2.2.1 + 1)), (v142.1.1, (v142.1.2.1, (v142.1.2.2.1, ())))), (v142.2.1, ((v142.2.2.1.1, ()), ())))))
else (some (.inr ((v.1.2.1, ()), (((v.2.2.1.1.1, (v.2.2.1.1.2.1, (v.2.2.1.1.2.2.1, (v.2.2.1.1.2.2.2.1, ())))), ()), ()))))

/- pagewatch/pagewatchlaw34.RegionMajority -/
def i15 : Abs.Sg := ⟨[0], (.dat (.row (.int .i64)) .nil), .nil⟩

def o15 : Abs.Sg := ⟨[2], (.dat .bool .nil), .nil⟩

def m15 (v : (((List Int) × Unit) × (Unit))) : Option Y16 :=
(m16 ((v.1.1, ()), ())).bind fun u121 =>
bif (!u121.1.1) then ((m60 ((), ())).bind fun u122 =>
some ((u122.1.1, ()), ()))
else ((m18 ((v.1.1, ()), ())).bind fun u123 =>
(m41 (([3, 5, 2], ()), ((u123.2.1.1, ()), ()))).bind fun u124 =>
(m61 ((u124.1.1, ()), ())).bind fun u125 =>
(m62 (((u125.2.2.1, ([], (u125.2.2.2.1, ([], ())))), (0, ())), ())).bind fun u126 =>
((bif ((u125.1.1 : Int) != 0) then (some ((true, ()), (((), ()), ((u124.2.1.1, ()), (u126.2.2.1, (u126.2.2.2.1, (u126.2.2.2.2.1, (u126.2.2.2.2.2.1, ()))))))))
else (some ((((u126.1.1 : Int) != 0), ()), (((), ()), ((u124.2.1.1, ()), (u126.2.2.1, (u126.2.2.2.1, (u126.2.2.2.2.1, (u126.2.2.2.2.2.1, ()))))))))) : Option ((Bool × Unit) × (((Unit) × Unit) × Y14 × (List Y7) × (List Y9) × (List Bool) × (List (Int × Int × Unit)) × Unit))).bind fun v127 =>
bif v127.1.1 then (some ((false, ()), ()))
else ((loopT l15_0_9 ((0, ()), (((v127.2.2.2.1, (v127.2.2.2.2.1, (v127.2.2.2.2.2.1, (v127.2.2.2.2.2.2.1, ())))), ()), ((v127.2.2.1.1, ()), ())))).bind fun d130 =>
sumE d130 (fun d131 => (some ((d131.1.1, ()), ()))) (fun d132 => ((m66 ((d132.2.1.1, ()), ())).bind fun u133 =>
(loopT l15_0_17 ((0, (0, (d132.2.1.1.1, ((d132.2.1.1.1.length : Int), ())))), (u133.2.1, ((d132.2.1.1, ()), ())))).bind fun d143 =>
(((m29 (((d143.2.1.1.1.length : Int), ()), ())).bind fun u144 =>
bif (decide ((d143.1.1 : Int) ≥ u144.1.1)) then ((m60 ((), ())).bind fun u145 =>
some ((u145.1.1, ()), ()))
else (some ((false, ()), ()))) : Option Y16).bind fun v146 =>
some ((v146.1.1, ()), ())))))

def sp15 : Abs.Spec := ⟨0, i15, o15, m15⟩

def an15 : Nat → Abs.FAn
  | 0 => Abs.FAn.mk (fun
    | 27 => some ⟨[2], (.dat .bool .nil), .nil⟩
    | 21 => some ⟨[69, 8, 11, 51, 4, 52, 53, 9, 13, 12], (.dat .bool (.st (.own Z6 (0, 0)) (.st (.ptr (1, 0) 8 0 0) (.dat (.row Z3) (.st (.ptr (2, 0) 4 0 0) (.dat (.int .i64) (.dat (.int .i64) (.dat (.int .i64) (.dat (.int .i64) (.dat .bool .nil)))))))))), (.arr Z6 false (.box 8 (.dat Z3 .nil) (.box 4 (.dat Z8 .nil) .nil)))⟩
    | 6 => some ⟨[37, 4, 3], (.dat .bool (.st (.ptr (0, 0) 4 0 0) (.st (.ptr (1, 0) 2 0 0) .nil))), (.box 4 (.agg (.st (.own Z3 (2, 0)) (.st (.own Z4 (3, 0)) (.st (.own .bool (4, 0)) (.st (.own Z12 (5, 0)) .nil)))) .nil) (.box 2 (.dat Z13 .nil) (.arr Z3 false (.arr Z4 false (.arr .bool false (.arr Z12 false .nil))))))⟩
    | _ => none) (fun
    | 26 => some (⟨[8, 9, 51, 4, 52, 53], (.st (.own Z6 (0, 0)) (.dat (.int .i64) (.dat (.row Z3) (.st (.ptr (1, 0) 4 0 0) (.dat (.int .i64) (.dat (.int .i64) .nil)))))), (.arr Z6 false (.box 4 (.dat Z8 .nil) .nil))⟩, none)
    | _ => none) (fun
    | 17 => some ⟨⟨[8, 53, 9, 51, 4, 52], (.st (.own Z6 (0, 0)) (.dat (.int .i64) (.dat (.int .i64) (.dat (.row Z3) (.st (.ptr (1, 0) 4 0 0) (.dat (.int .i64) .nil)))))), (.arr Z6 false (.box 4 (.dat Z8 .nil) .nil))⟩, (.one (.exit 2) ⟨[4, 9], (.st (.ptr (0, 0) 4 0 0) (.dat (.int .i64) .nil)), (.box 4 (.dat Z8 .nil) .nil)⟩)⟩
    | 21 => some ⟨⟨[13, 8, 11, 51, 4, 52, 53, 9, 12], (.dat (.int .i64) (.st (.own Z6 (0, 0)) (.st (.ptr (1, 0) 8 0 0) (.dat (.row Z3) (.st (.ptr (2, 0) 4 0 0) (.dat (.int .i64) (.dat (.int .i64) (.dat (.int .i64) (.dat .bool .nil))))))))), (.arr Z6 false (.box 8 (.dat Z3 .nil) (.box 4 (.dat Z8 .nil) .nil)))⟩, (.one (.exit 4) ⟨[8, 51, 4, 52, 53, 9, 12], (.st (.own Z6 (0, 0)) (.dat (.row Z3) (.st (.ptr (1, 0) 4 0 0) (.dat (.int .i64) (.dat (.int .i64) (.dat (.int .i64) (.dat .bool .nil))))))), (.arr Z6 false (.box 4 (.dat Z8 .nil) .nil))⟩)⟩
    | 9 => some ⟨⟨[7, 4, 3], (.dat (.int .i64) (.st (.ptr (0, 0) 4 0 0) (.st (.ptr (1, 0) 2 0 0) .nil))), (.box 4 (.dat Z8 .nil) (.box 2 (.dat Z13 .nil) .nil))⟩, (.more .ret ⟨[2], (.dat .bool .nil), .nil⟩ (.one (.exit 0) ⟨[4], (.st (.ptr (0, 0) 4 0 0) .nil), (.box 4 (.dat Z8 .nil) .nil)⟩))⟩
    | _ => none) (fun _ _ => 0)
  | _ => {}

theorem ok15 : Abs.SpecOK Try.prog 15 sp15 :=
  Abs.specOC_of (C := ctab) (mv := mvtab) ctab_ok (n := 12) (an := an15) (T := Abs.tabOf [(16, sp16), (60, sp60), (18, sp18), (41, sp41), (61, sp61), (62, sp62), (70, sp70), (71, sp71), (66, sp66), (29, sp29)]) good foll (Abs.tabOf_ok _ (by simp only [List.forall_mem_cons]; exact ⟨ok16, ok60, ok18, ok41, ok61, ok62, ok70, ok71, ok66, ok29, fun _ h => by cases h⟩)) rfl (by intro v; kernel_rfl)

end
end Go.Proofs.Ytfbikpbejkgegaa

namespace Go.Proofs.Ytfbikpbejkgegaa
open Go Go.Abs Go.Raft
abbrev OpT : Type := Int × Int × Int × Int × Int × Int × Int × Int × Int × (Int × Int × Int × Int × Int × Int × Unit) × (Int × Int × Int × Int × Int × Unit) × Unit

abbrev RT : Type := Rep OpT

abbrev MT : Type := Msg OpT

/-- An element of a row, without the proof that it is one. -/
def rowG {A B : Type} (l : List A) (n : Int) (F : A → Option B) : Option B := bif decide (0 ≤ n) then (l[n.toNat]?).bind F else none

theorem rowAt_G {A B : Type} {l : List A} {n : Int} (F : A → Option B) : Abs.rowAt l n (fun e _ => F e) = rowG l n F := by
  unfold Abs.rowAt rowG
  cases l[n.toNat]? <;> rfl

theorem rowG_nat {A B : Type} {l : List A} {i : Nat} {e : A} (h : l[i]? = some e) (F : A → Option B) : rowG l (i : Int) F = F e := by
  unfold rowG
  rw [show decide (0 ≤ (i : Int)) = true from decide_eq_true (by omega), Int.toNat_natCast, h]; rfl

theorem rowG_int {A B : Type} {l : List A} {n : Int} {e : A} (h0 : 0 ≤ n) (h : l[n.toNat]? = some e) (F : A → Option B) : rowG l n F = F e := by
  unfold rowG
  rw [show decide (0 ≤ n) = true from decide_eq_true h0, h]; rfl

theorem w64_nat {i : Nat} (h : i ≤ 4294967296) : w64 ((i : Int) + 1) = ((i + 1 : Nat) : Int) := by rw [w64_id (by omega) (by omega)]; omega

theorem drop_at {A : Type} {l : List A} {i : Nat} (h : i < l.length) : ∃ e, l[i]? = some e ∧ l.drop i = e :: l.drop (i + 1) :=
  ⟨l[i], List.getElem?_eq_getElem h, List.drop_eq_getElem_cons h⟩

/-- The rows of a replica are short. -/
def Shrt (r : RT) : Prop := r.log.length ≤ 4294967295 ∧ r.votes.length ≤ 4294967295 ∧ r.mtch.length ≤ 4294967295

theorem m45_eq (a b c : Int) : m45 ((a, b, c, ()), ()) = some ((inn a b c, ()), ()) := by
  unfold m45 inn
  by_cases h : a ≥ b <;> simp [h]

theorem m81_eq (a b c : Int) : m81 ((a, b, c, ()), ()) = some ((inn a b c, ()), ()) := by
  unfold m81 inn
  by_cases h : a ≥ b <;> simp [h]

theorem inn_quorum (n : Int) : ((quorum n == 0) : Bool) = !inn n 1 5 := by
  unfold quorum inn
  by_cases h : 1 ≤ n ∧ n ≤ 5
  · rw [if_pos h]
    have : n / 2 + 1 ≠ 0 := by omega
    simp [h.1, h.2, this]
  · rw [if_neg h]
    have : (decide (1 ≤ n) && decide (n ≤ 5)) = false := by simpa using h
    rw [this]; rfl

theorem quorum_w (n : Int) (h : inn n 1 5 = true) : w64 (w64 (n.tdiv 2) + 1) = quorum n := by
  simp only [inn, Bool.and_eq_true, decide_eq_true_eq] at h
  rw [quorum_eq h.1 h.2, Int.tdiv_eq_ediv_of_nonneg (by omega), w64_id (x := n / 2) (by omega) (by omega), w64_id (by omega) (by omega)]

theorem m29_eq (n : Int) : m29 ((n, ()), ()) = some ((quorum n, ()), ()) := by
  unfold m29
  simp only [m45_eq, Option.bind_some]
  cases h : inn n 1 5
  · have := inn_quorum n; rw [h] at this; simp at this; simp [this]
  · simp [quorum_w n h]

theorem m28_eq (n : Int) : m28 ((n, ()), ()) = some ((quorum n, ()), ()) := by
  unfold m28
  simp only [m81_eq, Option.bind_some]
  cases h : inn n 1 5
  · have := inn_quorum n; rw [h] at this; simp at this; simp [this]
  · simp [quorum_w n h]

/-! ### Check, the reference -/
theorem loop85 (l : Log OpT) (term : Int) (hl : l.length ≤ 4294967295) : ∀ (k i : Nat) (last : Int), i + k = l.length →
    loopT l85_0_3 (((i : Int), l, term, last, ()), ()) = some (if srt term last (l.drop i) then .inr ((l, ()), ()) else .inl ((false, ()), ())) := by
  intro k
  induction k with
  | zero =>
    intro i last h
    rw [List.drop_eq_nil_of_le (by omega)]
    refine loopT_inr ?_
    have : ¬ (i : Int) < (l.length : Int) := by omega
    simp [l85_0_3, srt, this]
  | succ k ih =>
    intro i last h
    obtain ⟨e, he, hd⟩ := drop_at (l := l) (i := i) (by omega)
    have hlt : (i : Int) < (l.length : Int) := by omega
    rw [hd, srt]
    by_cases h1 : last ≤ e.1
    · by_cases h2 : e.1 ≤ term
      · rw [show loopT l85_0_3 (((i : Int), l, term, last, ()), ()) = loopT l85_0_3 ((((i + 1 : Nat) : Int), l, term, e.1, ()), ()) from loopT_inl (by
          have h1' : ¬ e.1 < last := by omega
          have h2' : ¬ e.1 > term := by omega
          simp only [l85_0_3, rowAt_G, rowG_nat he, hlt, h1', h2', w64_nat (show i ≤ 4294967296 by omega), decide_true, decide_false, cond_true, cond_false, Option.bind_some])]
        rw [ih (i + 1) e.1 (by omega)]
        simp only [h1, h2, decide_true, Bool.true_and]
      · rw [show (decide (last ≤ e.1) && decide (e.1 ≤ term) && srt term e.1 (l.drop (i + 1))) = false by simp [h2]]
        refine loopT_inr ?_
        have h1' : ¬ e.1 < last := by omega
        have h2' : e.1 > term := by omega
        simp only [l85_0_3, rowAt_G, rowG_nat he, hlt, h1', h2', decide_true, decide_false, cond_true, cond_false, Option.bind_some]
        rfl
    · rw [show (decide (last ≤ e.1) && decide (e.1 ≤ term) && srt term e.1 (l.drop (i + 1))) = false by simp [h1]]
      refine loopT_inr ?_
      have h1' : e.1 < last := by omega
      simp only [l85_0_3, rowAt_G, rowG_nat he, hlt, h1', decide_true, cond_true, Option.bind_some]
      rfl

theorem m85_eq (l : Log OpT) (term : Int) (hl : l.length ≤ 4294967295) : m85 ((l, term, ()), ()) = some ((logFits l term, ()), ()) := by
  unfold m85 logFits
  have := loop85 l term hl l.length 0 1 (by omega)
  simp only [List.drop_zero] at this
  rw [show loopT l85_0_3 ((0, (l, (term, (1, ())))), ()) = _ from this]
  cases srt term 1 l
  · rfl
  · simp [sumE]
    omega

end Go.Proofs.Ytfbikpbejkgegaa

namespace Go.Proofs.Ytfbikpbejkgegaa
open Go Go.Abs Go.Raft
theorem inn_iff {x a b : Int} : inn x a b = true ↔ a ≤ x ∧ x ≤ b := by simp [inn]

theorem getD_some {A : Type} {l : List A} {i : Nat} (h : i < l.length) : ∃ e, l[i]? = some e := ⟨_, List.getElem?_eq_getElem h⟩

theorem loop27 (id term voted role : Int) (log : Log OpT) (commit : Int) (votes : List Bool) (mtch : List Int) (hm : mtch.length ≤ 4294967295) : ∀ (k i : Nat), i + k = mtch.length →
    loopT l27_0_12 (((i : Int), (mtch.length : Int), ()), (((id, term, voted, role, log, commit, votes, mtch, ()), ()), ())) = some (if (mtch.drop i).all (fun m => inn m 0 log.length) then .inr ((), ()) else .inl ((false, ()), ())) := by
  intro k
  induction k with
  | zero =>
    intro i h
    rw [List.drop_eq_nil_of_le (by omega)]
    refine loopT_inr ?_
    have : ¬ (i : Int) < (mtch.length : Int) := by omega
    simp only [l27_0_12, this, decide_true, decide_false, cond_true, cond_false, Option.bind_some, Bool.not_true, Bool.not_false, sumE, Bool.true_and, Bool.and_true, Bool.false_and, Bool.and_false, beq_self_eq_true, bne_self_eq_false, List.all_nil, if_true]
  | succ k ih =>
    intro i h
    obtain ⟨e, he, hd⟩ := drop_at (l := mtch) (i := i) (by omega)
    have hlt : (i : Int) < (mtch.length : Int) := by omega
    rw [hd, List.all_cons]
    cases hi : inn e 0 log.length
    · refine loopT_inr ?_
      simp only [l27_0_12, rowAt_G, rowG_nat he, hlt, m45_eq, hi, decide_true, decide_false, cond_true, cond_false, Option.bind_some, Bool.not_true, Bool.not_false, sumE, Bool.true_and, Bool.and_true, Bool.false_and, Bool.and_false, beq_self_eq_true, bne_self_eq_false]
      rfl
    · rw [show loopT l27_0_12 (((i : Int), (mtch.length : Int), ()), (((id, term, voted, role, log, commit, votes, mtch, ()), ()), ())) = loopT l27_0_12 ((((i + 1 : Nat) : Int), (mtch.length : Int), ()), (((id, term, voted, role, log, commit, votes, mtch, ()), ()), ())) from loopT_inl (by
        simp only [l27_0_12, rowAt_G, rowG_nat he, hlt, m45_eq, hi, decide_true, decide_false, cond_true, cond_false, Option.bind_some, Bool.not_true, Bool.not_false, sumE, Bool.true_and, Bool.and_true, Bool.false_and, Bool.and_false, beq_self_eq_true, bne_self_eq_false, w64_nat (show i ≤ 4294967296 by omega)])]
      rw [ih (i + 1) (by omega)]
      simp only [Bool.true_and]

theorem len_beq0 {A : Type} (l : List A) : ((l.length : Int) == 0) = decide (l.length = 0) := by
  by_cases h : l.length = 0
  · rw [h]; rfl
  · rw [decide_eq_false h]
    have : (l.length : Int) ≠ 0 := by omega
    simpa using this

theorem bne_decide (a b : Int) : (a != b) = decide (a ≠ b) := by
  by_cases h : a = b <;> simp [h]

theorem beq_decide (a b : Int) : (a == b) = decide (a = b) := by
  by_cases h : a = b <;> simp [h]

theorem w64_pred {n : Int} (h : inn n 1 5 = true) : w64 (n - 1) = n - 1 := by
  rw [inn_iff] at h; exact w64_id (by omega) (by omega)

theorem m27_eq (n : Int) (r : RT) (hs : Shrt r) : m27 ((n, r, ()), ()) = some ((chk n r, ()), ()) := by
  obtain ⟨id, term, voted, role, log, commit, votes, mtch, ⟨⟩⟩ := r
  obtain ⟨h1, h2, h3⟩ := hs
  simp only [Rep.id, Rep.term, Rep.voted, Rep.role, Rep.log, Rep.commit, Rep.votes, Rep.mtch, rp] at h1 h2 h3
  simp only [chk, Rep.id, Rep.term, Rep.voted, Rep.role, Rep.log, Rep.commit, Rep.votes, Rep.mtch, rp]
  unfold m27
  simp only [m29_eq, m45_eq, m85_eq _ _ h1, Option.bind_some, inn_quorum]
  cases hn : inn n 1 5
  · simp only [decide_true, decide_false, cond_true, cond_false, Option.bind_some, Bool.not_true, Bool.not_false, sumE, Bool.true_and, Bool.and_true, Bool.false_and, Bool.and_false, beq_self_eq_true, bne_self_eq_false]
  simp only [w64_pred hn]
  cases hid : inn id 0 (n - 1)
  · simp only [decide_true, decide_false, cond_true, cond_false, Option.bind_some, Bool.not_true, Bool.not_false, sumE, Bool.true_and, Bool.and_true, Bool.false_and, Bool.and_false, beq_self_eq_true, bne_self_eq_false]
  cases ht : inn term 0 1048576
  · simp only [decide_true, decide_false, cond_true, cond_false, Option.bind_some, Bool.not_true, Bool.not_false, sumE, Bool.true_and, Bool.and_true, Bool.false_and, Bool.and_false, beq_self_eq_true, bne_self_eq_false]
  cases hv : inn voted (-1) (n - 1)
  · simp only [decide_true, decide_false, cond_true, cond_false, Option.bind_some, Bool.not_true, Bool.not_false, sumE, Bool.true_and, Bool.and_true, Bool.false_and, Bool.and_false, beq_self_eq_true, bne_self_eq_false]
  cases hl : logFits log term
  · simp only [decide_true, decide_false, cond_true, cond_false, Option.bind_some, Bool.not_true, Bool.not_false, sumE, Bool.true_and, Bool.and_true, Bool.false_and, Bool.and_false, beq_self_eq_true, bne_self_eq_false]
  cases hc : inn commit 0 log.length
  · simp only [decide_true, decide_false, cond_true, cond_false, Option.bind_some, Bool.not_true, Bool.not_false, sumE, Bool.true_and, Bool.and_true, Bool.false_and, Bool.and_false, beq_self_eq_true, bne_self_eq_false]
  simp only [decide_true, decide_false, cond_true, cond_false, Option.bind_some, Bool.not_true, Bool.not_false, sumE, Bool.true_and, Bool.and_true, Bool.false_and, Bool.and_false, beq_self_eq_true, bne_self_eq_false]
  rw [inn_iff] at hid hn
  unfold roleOK
  simp only [Rep.id, Rep.term, Rep.voted, Rep.role, Rep.log, Rep.commit, Rep.votes, Rep.mtch, rp]
  by_cases r0 : role = 0
  · subst r0
    simp only [len_beq0]
    by_cases hv0 : votes.length = 0 <;> by_cases hm0 : mtch.length = 0 <;> simp only [hv0, hm0, decide_true, decide_false, cond_true, cond_false, Option.bind_some, Bool.not_true, Bool.not_false, sumE, Bool.true_and, Bool.and_true, Bool.false_and, Bool.and_false, beq_self_eq_true, bne_self_eq_false, if_true]
  by_cases r1 : role = 1
  · subst r1
    by_cases hvn : (votes.length : Int) = n
    · obtain ⟨b, hb⟩ := getD_some (l := votes) (i := id.toNat) (by omega)
      simp only [rowAt_G, rowG_int hid.1 hb, hvn, hb, Option.getD_some, decide_true, decide_false, cond_true, cond_false, Option.bind_some, Bool.not_true, Bool.not_false, sumE, Bool.true_and, Bool.and_true, Bool.false_and, Bool.and_false, beq_self_eq_true, bne_self_eq_false, show ((1 : Int) == 0) = false from rfl, if_neg r0, if_true]
      simp only [len_beq0]
      by_cases hm0 : mtch.length = 0 <;> cases b <;> simp only [hm0, decide_true, decide_false, cond_true, cond_false, Option.bind_some, Bool.not_true, Bool.not_false, sumE, Bool.true_and, Bool.and_true, Bool.false_and, Bool.and_false, beq_self_eq_true, bne_self_eq_false]
    · simp only [rowAt_G, show ((votes.length : Int) == n) = false by simpa using hvn, hvn, decide_true, decide_false, cond_true, cond_false, Option.bind_some, Bool.not_true, Bool.not_false, sumE, Bool.true_and, Bool.and_true, Bool.false_and, Bool.and_false, beq_self_eq_true, bne_self_eq_false, show ((1 : Int) == 0) = false from rfl, if_neg r0, if_true]
  by_cases r2 : role = 2
  · subst r2
    simp only [decide_true, decide_false, cond_true, cond_false, Option.bind_some, Bool.not_true, Bool.not_false, sumE, Bool.true_and, Bool.and_true, Bool.false_and, Bool.and_false, beq_self_eq_true, bne_self_eq_false, show ((2 : Int) == 0) = false from rfl, show ((2 : Int) == 1) = false from rfl, if_neg r0, if_neg r1, if_true]
    by_cases hvn : (votes.length : Int) = n
    · obtain ⟨b, hb⟩ := getD_some (l := votes) (i := id.toNat) (by omega)
      simp only [rowAt_G, rowG_int hid.1 hb, show ((votes.length : Int) != n) = false by simpa using hvn, hvn, hb, Option.getD_some, decide_true, decide_false, cond_true, cond_false, Option.bind_some, Bool.not_true, Bool.not_false, sumE, Bool.true_and, Bool.and_true, Bool.false_and, Bool.and_false, beq_self_eq_true, bne_self_eq_false]
      cases b
      · simp only [decide_true, decide_false, cond_true, cond_false, Option.bind_some, Bool.not_true, Bool.not_false, sumE, Bool.true_and, Bool.and_true, Bool.false_and, Bool.and_false, beq_self_eq_true, bne_self_eq_false]
      · by_cases hmn : (mtch.length : Int) = n
        · obtain ⟨p, hp⟩ := getD_some (l := mtch) (i := id.toNat) (by omega)
          simp only [rowG_int hid.1 hp, show ((mtch.length : Int) != n) = false by simpa using hmn, hmn, hp, Option.getD_some, decide_true, decide_false, cond_true, cond_false, Option.bind_some, Bool.not_true, Bool.not_false, sumE, Bool.true_and, Bool.and_true, Bool.false_and, Bool.and_false, beq_self_eq_true, bne_self_eq_false]
          by_cases hpl : p = (log.length : Int)
          · have := loop27 id term voted 2 log commit votes mtch h3 mtch.length 0 (by omega)
            simp only [List.drop_zero, hmn] at this
            simp only [show (p != (log.length : Int)) = false by simpa using hpl, hpl, decide_true, decide_false, cond_true, cond_false, Option.bind_some, Bool.not_true, Bool.not_false, sumE, Bool.true_and, Bool.and_true, Bool.false_and, Bool.and_false, beq_self_eq_true, bne_self_eq_false]
            rw [show loopT l27_0_12 ((0, (n, ())), (((id, (term, (voted, (2, (log, (commit, (votes, (mtch, ())))))))), ()), ())) = _ from this]
            cases mtch.all (fun m => inn m 0 log.length) <;> rfl
          · simp only [show (p != (log.length : Int)) = true by simpa using hpl, hpl, decide_true, decide_false, cond_true, cond_false, Option.bind_some, Bool.not_true, Bool.not_false, sumE, Bool.true_and, Bool.and_true, Bool.false_and, Bool.and_false, beq_self_eq_true, bne_self_eq_false]
        · simp only [show ((mtch.length : Int) != n) = true by simpa using hmn, hmn, decide_true, decide_false, cond_true, cond_false, Option.bind_some, Bool.not_true, Bool.not_false, sumE, Bool.true_and, Bool.and_true, Bool.false_and, Bool.and_false, beq_self_eq_true, bne_self_eq_false]
    · simp only [show ((votes.length : Int) != n) = true by simpa using hvn, hvn, decide_true, decide_false, cond_true, cond_false, Option.bind_some, Bool.not_true, Bool.not_false, sumE, Bool.true_and, Bool.and_true, Bool.false_and, Bool.and_false, beq_self_eq_true, bne_self_eq_false]
  · simp only [show (role == 0) = false by simpa using r0, show (role == 1) = false by simpa using r1, show (role == 2) = false by simpa using r2, r0, r1, r2, if_false, decide_true, decide_false, cond_true, cond_false, Option.bind_some, Bool.not_true, Bool.not_false, sumE, Bool.true_and, Bool.and_true, Bool.false_and, Bool.and_false, beq_self_eq_true, bne_self_eq_false]

/-! ### The program's Check -/
theorem loop82 (id term voted role : Int) (log : Log OpT) (commit : Int) (votes : List Bool) (mtch : List Int) (hm : log.length ≤ 4294967295) : ∀ (k i : Nat) (last : Int), i + k = log.length →
    loopT l82_0_3 (((i : Int), last, log, (log.length : Int), ()), (((id, term, voted, role, log, commit, votes, mtch, ()), ()), ())) = some (if srt term last (log.drop i) then .inr ((), (((id, term, voted, role, log, commit, votes, mtch, ()), ()), ())) else .inl ((false, ()), ())) := by
  intro k
  induction k with
  | zero =>
    intro i last h
    rw [List.drop_eq_nil_of_le (by omega)]
    refine loopT_inr ?_
    have : ¬ (i : Int) < (log.length : Int) := by omega
    simp only [l82_0_3, this, decide_true, decide_false, cond_true, cond_false, Option.bind_some, Bool.not_true, Bool.not_false, sumE, Bool.true_and, Bool.and_true, Bool.false_and, Bool.and_false, beq_self_eq_true, bne_self_eq_false, srt, if_true]
  | succ k ih =>
    intro i last h
    obtain ⟨e, he, hd⟩ := drop_at (l := log) (i := i) (by omega)
    have hlt : (i : Int) < (log.length : Int) := by omega
    rw [hd, srt]
    cases hi : inn e.1 last term
    · refine loopT_inr ?_
      simp only [l82_0_3, rowAt_G, rowG_nat he, hlt, m81_eq, hi, decide_true, decide_false, cond_true, cond_false, Option.bind_some, Bool.not_true, Bool.not_false, sumE, Bool.true_and, Bool.and_true, Bool.false_and, Bool.and_false, beq_self_eq_true, bne_self_eq_false]
      unfold inn at hi
      rw [hi]; rfl
    · rw [show loopT l82_0_3 (((i : Int), last, log, (log.length : Int), ()), (((id, term, voted, role, log, commit, votes, mtch, ()), ()), ())) = loopT l82_0_3 ((((i + 1 : Nat) : Int), e.1, log, (log.length : Int), ()), (((id, term, voted, role, log, commit, votes, mtch, ()), ()), ())) from loopT_inl (by
        simp only [l82_0_3, rowAt_G, rowG_nat he, hlt, m81_eq, hi, decide_true, decide_false, cond_true, cond_false, Option.bind_some, Bool.not_true, Bool.not_false, sumE, Bool.true_and, Bool.and_true, Bool.false_and, Bool.and_false, beq_self_eq_true, bne_self_eq_false, w64_nat (show i ≤ 4294967296 by omega)])]
      rw [ih (i + 1) e.1 (by omega)]
      unfold inn at hi
      rw [hi]; simp only [Bool.true_and]

theorem m82_eq (r : RT) (hs : Shrt r) : m82 ((r, ()), ()) = some ((logFits r.log r.term && inn r.commit 0 r.log.length, ()), ()) := by
  obtain ⟨id, term, voted, role, log, commit, votes, mtch, ⟨⟩⟩ := r
  obtain ⟨h1, h2, h3⟩ := hs
  simp only [Rep.id, Rep.term, Rep.voted, Rep.role, Rep.log, Rep.commit, Rep.votes, Rep.mtch, rp] at h1 h2 h3
  simp only [logFits, Rep.id, Rep.term, Rep.voted, Rep.role, Rep.log, Rep.commit, Rep.votes, Rep.mtch, rp]
  unfold m82
  have := loop82 id term voted role log commit votes mtch h1 log.length 0 1 (by omega)
  simp only [List.drop_zero] at this
  simp only []
  rw [show loopT l82_0_3 ((0, (1, (log, ((log.length : Int), ())))), (((id, term, voted, role, log, commit, votes, mtch, ()), ()), ())) = _ from this]
  cases srt term 1 log
  · rfl
  · simp only [if_true, m81_eq, decide_true, decide_false, cond_true, cond_false, Option.bind_some, Bool.not_true, Bool.not_false, sumE, Bool.true_and, Bool.and_true, Bool.false_and, Bool.and_false, beq_self_eq_true, bne_self_eq_false]
    by_cases hl : log.length ≤ 256
    · have : (log.length : Int) ≤ 256 := by omega
      simp only [hl, this, decide_true, decide_false, cond_true, cond_false, Option.bind_some, Bool.not_true, Bool.not_false, sumE, Bool.true_and, Bool.and_true, Bool.false_and, Bool.and_false, beq_self_eq_true, bne_self_eq_false]
    · have : ¬ (log.length : Int) ≤ 256 := by omega
      simp only [hl, this, decide_true, decide_false, cond_true, cond_false, Option.bind_some, Bool.not_true, Bool.not_false, sumE, Bool.true_and, Bool.and_true, Bool.false_and, Bool.and_false, beq_self_eq_true, bne_self_eq_false]

theorem loop84 (id term voted role : Int) (log : Log OpT) (commit : Int) (votes : List Bool) (mtch : List Int) (hm : mtch.length ≤ 4294967295) : ∀ (k i : Nat), i + k = mtch.length →
    ∃ d, loopT l84_2_2 (((i : Int), mtch, (mtch.length : Int), ()), (((id, term, voted, role, log, commit, votes, mtch, ()), ()), ())) = some d ∧
      (if (mtch.drop i).all (fun m => inn m 0 log.length) then d = .inr ((), (((id, term, voted, role, log, commit, votes, mtch, ()), ()), ())) else ∃ j : Nat, d = .inl (((j : Int), ()), (((id, term, voted, role, log, commit, votes, mtch, ()), ()), ()))) := by
  intro k
  induction k with
  | zero =>
    intro i h
    rw [List.drop_eq_nil_of_le (by omega)]
    refine ⟨.inr ((), (((id, term, voted, role, log, commit, votes, mtch, ()), ()), ())), loopT_inr ?_, by simp only [List.all_nil, if_true]⟩
    have : ¬ (i : Int) < (mtch.length : Int) := by omega
    simp only [l84_2_2, this, decide_true, decide_false, cond_true, cond_false, Option.bind_some, Bool.not_true, Bool.not_false, sumE, Bool.true_and, Bool.and_true, Bool.false_and, Bool.and_false, beq_self_eq_true, bne_self_eq_false]
  | succ k ih =>
    intro i h
    obtain ⟨e, he, hd⟩ := drop_at (l := mtch) (i := i) (by omega)
    have hlt : (i : Int) < (mtch.length : Int) := by omega
    rw [hd, List.all_cons]
    cases hi : inn e 0 log.length
    · refine ⟨.inl (((i : Int), ()), (((id, term, voted, role, log, commit, votes, mtch, ()), ()), ())), loopT_inr ?_, ⟨i, rfl⟩⟩
      simp only [l84_2_2, rowAt_G, rowG_nat he, hlt, m81_eq, hi, decide_true, decide_false, cond_true, cond_false, Option.bind_some, Bool.not_true, Bool.not_false, sumE, Bool.true_and, Bool.and_true, Bool.false_and, Bool.and_false, beq_self_eq_true, bne_self_eq_false]
    · rw [show loopT l84_2_2 (((i : Int), mtch, (mtch.length : Int), ()), (((id, term, voted, role, log, commit, votes, mtch, ()), ()), ())) = loopT l84_2_2 ((((i + 1 : Nat) : Int), mtch, (mtch.length : Int), ()), (((id, term, voted, role, log, commit, votes, mtch, ()), ()), ())) from loopT_inl (by
        simp only [l84_2_2, rowAt_G, rowG_nat he, hlt, m81_eq, hi, decide_true, decide_false, cond_true, cond_false, Option.bind_some, Bool.not_true, Bool.not_false, sumE, Bool.true_and, Bool.and_true, Bool.false_and, Bool.and_false, beq_self_eq_true, bne_self_eq_false, w64_nat (show i ≤ 4294967296 by omega)])]
      obtain ⟨d, h1, h2⟩ := ih (i + 1) (by omega)
      refine ⟨d, h1, ?_⟩
      simpa only [Bool.true_and] using h2

theorem m83_eq (n : Int) (r : RT) (h0 : 0 ≤ r.id) (h1 : r.id < n) : m83 ((n, r, ()), ()) = some ((decide ((r.votes.length : Int) = n) && r.votes[r.id.toNat]?.getD false, ()), ()) := by
  obtain ⟨id, term, voted, role, log, commit, votes, mtch, ⟨⟩⟩ := r
  simp only [Rep.id, Rep.term, Rep.voted, Rep.role, Rep.log, Rep.commit, Rep.votes, Rep.mtch, rp] at h0 h1 ⊢
  unfold m83
  by_cases hvn : (votes.length : Int) = n
  · obtain ⟨b, hb⟩ := getD_some (l := votes) (i := id.toNat) (by omega)
    simp only [rowAt_G, rowG_int h0 hb, show ((votes.length : Int) == n) = true by simpa using hvn, hvn, hb, Option.getD_some, decide_true, decide_false, cond_true, cond_false, Option.bind_some, Bool.not_true, Bool.not_false, sumE, Bool.true_and, Bool.and_true, Bool.false_and, Bool.and_false, beq_self_eq_true, bne_self_eq_false]
  · simp only [rowAt_G, show ((votes.length : Int) == n) = false by simpa using hvn, hvn, decide_true, decide_false, cond_true, cond_false, Option.bind_some, Bool.not_true, Bool.not_false, sumE, Bool.true_and, Bool.and_true, Bool.false_and, Bool.and_false, beq_self_eq_true, bne_self_eq_false]

theorem m84_eq (n : Int) (r : RT) (hs : Shrt r) (h0 : 0 ≤ r.id) (h1 : r.id < n) : m84 ((n, r, ()), ()) = some ((decide ((r.mtch.length : Int) = n) && decide (r.mtch[r.id.toNat]?.getD 0 = (r.log.length : Int)) && r.mtch.all (fun m => inn m 0 r.log.length), ()), ()) := by
  obtain ⟨id, term, voted, role, log, commit, votes, mtch, ⟨⟩⟩ := r
  obtain ⟨_, _, h3⟩ := hs
  simp only [Rep.id, Rep.term, Rep.voted, Rep.role, Rep.log, Rep.commit, Rep.votes, Rep.mtch, rp] at h0 h1 h3 ⊢
  unfold m84
  by_cases hmn : (mtch.length : Int) = n
  · obtain ⟨p, hp⟩ := getD_some (l := mtch) (i := id.toNat) (by omega)
    simp only [rowAt_G, rowG_int h0 hp, show ((mtch.length : Int) == n) = true by simpa using hmn, hp, Option.getD_some, decide_true, decide_false, cond_true, cond_false, Option.bind_some, Bool.not_true, Bool.not_false, sumE, Bool.true_and, Bool.and_true, Bool.false_and, Bool.and_false, beq_self_eq_true, bne_self_eq_false, hmn, eq_self]
    by_cases hpl : p = (log.length : Int)
    · simp only [show (p == (log.length : Int)) = true by simpa using hpl, hpl, decide_true, decide_false, cond_true, cond_false, Option.bind_some, Bool.not_true, Bool.not_false, sumE, Bool.true_and, Bool.and_true, Bool.false_and, Bool.and_false, beq_self_eq_true, bne_self_eq_false, hmn, eq_self]
      obtain ⟨d, e1, e2⟩ := loop84 id term voted role log commit votes mtch h3 mtch.length 0 (by omega)
      simp only [List.drop_zero] at e2
      rw [hmn] at e1
      rw [show loopT l84_2_2 ((0, (mtch, (n, ()))), (((id, term, voted, role, log, commit, votes, mtch, ()), ()), ())) = _ from e1]
      cases ha : mtch.all (fun m => inn m 0 log.length)
      · rw [ha] at e2
        obtain ⟨j, rfl⟩ := e2
        have : (j : Int) ≥ 0 := by omega
        simp only [this, decide_true, decide_false, cond_true, cond_false, Option.bind_some, Bool.not_true, Bool.not_false, sumE, Bool.true_and, Bool.and_true, Bool.false_and, Bool.and_false, beq_self_eq_true, bne_self_eq_false]
      · rw [ha] at e2
        simp only [if_true] at e2
        subst e2
        simp only [decide_true, decide_false, cond_true, cond_false, Option.bind_some, Bool.not_true, Bool.not_false, sumE, Bool.true_and, Bool.and_true, Bool.false_and, Bool.and_false, beq_self_eq_true, bne_self_eq_false]
    · simp only [show (p == (log.length : Int)) = false by simpa using hpl, hpl, decide_true, decide_false, cond_true, cond_false, Option.bind_some, Bool.not_true, Bool.not_false, sumE, Bool.true_and, Bool.and_true, Bool.false_and, Bool.and_false, beq_self_eq_true, bne_self_eq_false]
  · simp only [rowAt_G, show ((mtch.length : Int) == n) = false by simpa using hmn, hmn, decide_true, decide_false, cond_true, cond_false, Option.bind_some, Bool.not_true, Bool.not_false, sumE, Bool.true_and, Bool.and_true, Bool.false_and, Bool.and_false, beq_self_eq_true, bne_self_eq_false]

theorem m26_eq (n : Int) (r : RT) (hs : Shrt r) : m26 ((n, r, ()), ()) = some ((chk n r, ()), ()) := by
  have e82 := m82_eq r hs
  have e83 := m83_eq n r
  have e84 := m84_eq n r hs
  obtain ⟨id, term, voted, role, log, commit, votes, mtch, ⟨⟩⟩ := r
  simp only [Rep.id, Rep.term, Rep.voted, Rep.role, Rep.log, Rep.commit, Rep.votes, Rep.mtch, rp] at e82 e83 e84
  simp only [chk, roleOK, Rep.id, Rep.term, Rep.voted, Rep.role, Rep.log, Rep.commit, Rep.votes, Rep.mtch, rp]
  unfold m26
  simp only [m81_eq, Option.bind_some]
  cases hn : inn n 1 5
  · simp only [decide_true, decide_false, cond_true, cond_false, Option.bind_some, Bool.not_true, Bool.not_false, sumE, Bool.true_and, Bool.and_true, Bool.false_and, Bool.and_false, beq_self_eq_true, bne_self_eq_false]
  simp only [w64_pred hn]
  cases hid : inn id 0 (n - 1)
  · simp only [decide_true, decide_false, cond_true, cond_false, Option.bind_some, Bool.not_true, Bool.not_false, sumE, Bool.true_and, Bool.and_true, Bool.false_and, Bool.and_false, beq_self_eq_true, bne_self_eq_false]
  have hid' := inn_iff.1 hid
  simp only [e82, e83 hid'.1 (by omega), e84 hid'.1 (by omega), Option.bind_some]
  cases ht : inn term 0 1048576
  · simp only [decide_true, decide_false, cond_true, cond_false, Option.bind_some, Bool.not_true, Bool.not_false, sumE, Bool.true_and, Bool.and_true, Bool.false_and, Bool.and_false, beq_self_eq_true, bne_self_eq_false]
  cases hv : inn voted (-1) (n - 1)
  · simp only [decide_true, decide_false, cond_true, cond_false, Option.bind_some, Bool.not_true, Bool.not_false, sumE, Bool.true_and, Bool.and_true, Bool.false_and, Bool.and_false, beq_self_eq_true, bne_self_eq_false]
  cases hl : logFits log term
  · simp only [decide_true, decide_false, cond_true, cond_false, Option.bind_some, Bool.not_true, Bool.not_false, sumE, Bool.true_and, Bool.and_true, Bool.false_and, Bool.and_false, beq_self_eq_true, bne_self_eq_false]
  cases hc : inn commit 0 log.length
  · simp only [decide_true, decide_false, cond_true, cond_false, Option.bind_some, Bool.not_true, Bool.not_false, sumE, Bool.true_and, Bool.and_true, Bool.false_and, Bool.and_false, beq_self_eq_true, bne_self_eq_false]
  simp only [decide_true, decide_false, cond_true, cond_false, Option.bind_some, Bool.not_true, Bool.not_false, sumE, Bool.true_and, Bool.and_true, Bool.false_and, Bool.and_false, beq_self_eq_true, bne_self_eq_false, len_beq0]
  by_cases r0 : role = 0
  · subst r0
    by_cases hv0 : votes.length = 0 <;> simp only [hv0, decide_true, decide_false, cond_true, cond_false, Option.bind_some, Bool.not_true, Bool.not_false, sumE, Bool.true_and, Bool.and_true, Bool.false_and, Bool.and_false, beq_self_eq_true, bne_self_eq_false, if_true]
  by_cases r1 : role = 1
  · subst r1
    simp only [show ((1 : Int) == 0) = false from rfl, if_true, if_neg r0, e83 hid'.1 (by omega), decide_true, decide_false, cond_true, cond_false, Option.bind_some, Bool.not_true, Bool.not_false, sumE, Bool.true_and, Bool.and_true, Bool.false_and, Bool.and_false, beq_self_eq_true, bne_self_eq_false]
    cases (decide ((votes.length : Int) = n) && votes[id.toNat]?.getD false) <;> simp only [decide_true, decide_false, cond_true, cond_false, Option.bind_some, Bool.not_true, Bool.not_false, sumE, Bool.true_and, Bool.and_true, Bool.false_and, Bool.and_false, beq_self_eq_true, bne_self_eq_false]
  by_cases r2 : role = 2
  · subst r2
    simp only [show ((2 : Int) == 0) = false from rfl, show ((2 : Int) == 1) = false from rfl, if_true, if_neg r0, if_neg r1, e83 hid'.1 (by omega), e84 hid'.1 (by omega), decide_true, decide_false, cond_true, cond_false, Option.bind_some, Bool.not_true, Bool.not_false, sumE, Bool.true_and, Bool.and_true, Bool.false_and, Bool.and_false, beq_self_eq_true, bne_self_eq_false]
    cases (decide ((votes.length : Int) = n) && votes[id.toNat]?.getD false)
    · simp only [decide_true, decide_false, cond_true, cond_false, Option.bind_some, Bool.not_true, Bool.not_false, sumE, Bool.true_and, Bool.and_true, Bool.false_and, Bool.and_false, beq_self_eq_true, bne_self_eq_false]
    · simp only [decide_true, decide_false, cond_true, cond_false, Option.bind_some, Bool.not_true, Bool.not_false, sumE, Bool.true_and, Bool.and_true, Bool.false_and, Bool.and_false, beq_self_eq_true, bne_self_eq_false]
  · simp only [show (role == 0) = false by simpa using r0, show (role == 1) = false by simpa using r1, show (role == 2) = false by simpa using r2, r0, r1, r2, if_false, decide_true, decide_false, cond_true, cond_false, Option.bind_some, Bool.not_true, Bool.not_false, sumE, Bool.true_and, Bool.and_true, Bool.false_and, Bool.and_false, beq_self_eq_true, bne_self_eq_false]

end Go.Proofs.Ytfbikpbejkgegaa

namespace Go.Proofs.Ytfbikpbejkgegaa
open Go Go.Abs Go.Raft
/-- A copy as the functions return it. -/
abbrev cpR (r : RT) : Unit × (((Int × Int × Int × Int × Int × Unit) × Unit) × Log OpT × List Bool × List Int × Unit) := ((), (((r.id, r.term, r.voted, r.role, r.commit, ()), ()), (r.log, (r.votes, (r.mtch, ())))))

/-- A message without entries, as the functions return it. -/
abbrev nm (m : MT) : Int × Int × Int × Int × Int × Int × Int × Bool × Unit := (m.kind, m.frm, m.to, m.term, m.prev, m.pterm, m.commit, m.ok, ())

theorem m76_eq (r : RT) (hs : Shrt r) : m76 ((r, ()), ()) = some (cpR r) := by
  obtain ⟨id, term, voted, role, log, commit, votes, mtch, ⟨⟩⟩ := r
  obtain ⟨h1, h2, h3⟩ := hs
  simp only [Rep.id, Rep.term, Rep.voted, Rep.role, Rep.log, Rep.commit, Rep.votes, Rep.mtch, rp] at h1 h2 h3
  have a1 : log.length ≤ 4294967296 := by omega
  have a2 : votes.length ≤ 4294967296 := by omega
  have a3 : mtch.length ≤ 4294967296 := by omega
  unfold m76 m91 m125 m126
  simp only [a1, a2, a3, decide_true, decide_false, cond_true, cond_false, Option.bind_some, Bool.not_true, Bool.not_false, sumE, Bool.true_and, Bool.and_true, Bool.false_and, Bool.and_false, beq_self_eq_true, bne_self_eq_false, cpR]

theorem last_at {l : Log OpT} (h : l.length ≠ 0) : ∃ e, l[l.length - 1]? = some e ∧ lastT l = e.1 := by
  obtain ⟨e, he⟩ := getD_some (l := l) (i := l.length - 1) (by omega)
  exact ⟨e, he, lastT_get he (by omega)⟩

theorem lastT_eq0 {l : Log OpT} (h : l.length = 0) : lastT l = 0 := by
  rw [List.length_eq_zero_iff.1 h]; rfl

theorem m75_eq (r : RT) (hs : Shrt r) : m75 ((r, ()), ()) = some ((lastT r.log, ()), ()) := by
  obtain ⟨id, term, voted, role, log, commit, votes, mtch, ⟨⟩⟩ := r
  obtain ⟨h1, h2, h3⟩ := hs
  simp only [Rep.id, Rep.term, Rep.voted, Rep.role, Rep.log, Rep.commit, Rep.votes, Rep.mtch, rp] at h1 h2 h3
  unfold m75
  simp only [len_beq0, rowAt_G]
  by_cases h : log.length = 0
  · simp only [h, decide_true, decide_false, cond_true, cond_false, Option.bind_some, Bool.not_true, Bool.not_false, sumE, Bool.true_and, Bool.and_true, Bool.false_and, Bool.and_false, beq_self_eq_true, bne_self_eq_false, lastT_eq0 h]
  · obtain ⟨e, he, hl⟩ := last_at h
    have w : w64 ((log.length : Int) - 1) = ((log.length - 1 : Nat) : Int) := by rw [w64_id (by omega) (by omega)]; omega
    simp only [h, decide_true, decide_false, cond_true, cond_false, Option.bind_some, Bool.not_true, Bool.not_false, sumE, Bool.true_and, Bool.and_true, Bool.false_and, Bool.and_false, beq_self_eq_true, bne_self_eq_false, w, rowG_nat he, hl]

theorem m21_eq (r : RT) (a b : Int) (hs : Shrt r) : m21 ((r, a, b, ()), ()) = some ((fresh r.log a b, ()), ()) := by
  unfold m21 fresh
  simp only [m75_eq r hs, Option.bind_some]
  by_cases h1 : b > lastT r.log
  · simp only [h1, decide_true, decide_false, cond_true, cond_false, Option.bind_some, Bool.not_true, Bool.not_false, sumE, Bool.true_and, Bool.and_true, Bool.false_and, Bool.and_false, beq_self_eq_true, bne_self_eq_false, Bool.true_or]
  · by_cases h2 : b = lastT r.log
    · simp only [h1, h2, decide_true, decide_false, cond_true, cond_false, Option.bind_some, Bool.not_true, Bool.not_false, sumE, Bool.true_and, Bool.and_true, Bool.false_and, Bool.and_false, beq_self_eq_true, bne_self_eq_false, Bool.false_or]
      simp
    · simp only [h1, h2, show (b == lastT r.log) = false by simpa using h2, decide_true, decide_false, cond_true, cond_false, Option.bind_some, Bool.not_true, Bool.not_false, sumE, Bool.true_and, Bool.and_true, Bool.false_and, Bool.and_false, beq_self_eq_true, bne_self_eq_false, Bool.or_self]

theorem m79_eq (r : RT) (t : Int) (ht : t ≤ 1048576) (h0 : -1000000000 ≤ r.term) (h1 : r.term ≤ 1000000000) : m79 ((r, t, ()), ()) = some ((), ((fol r t, ()), ())) := by
  obtain ⟨id, term, voted, role, log, commit, votes, mtch, ⟨⟩⟩ := r
  simp only [Rep.id, Rep.term, Rep.voted, Rep.role, Rep.log, Rep.commit, Rep.votes, Rep.mtch, rp] at h0 h1
  unfold m79 fol
  simp only [Rep.id, Rep.term, Rep.voted, Rep.role, Rep.log, Rep.commit, Rep.votes, Rep.mtch, rp, m81_eq, Option.bind_some]
  rw [w64_id (x := term + 1) (by omega) (by omega)]
  by_cases h : t > term
  · have : inn t (term + 1) 1048576 = true := inn_iff.2 ⟨by omega, by omega⟩
    simp only [h, this, decide_true, decide_false, cond_true, cond_false, Option.bind_some, Bool.not_true, Bool.not_false, sumE, Bool.true_and, Bool.and_true, Bool.false_and, Bool.and_false, beq_self_eq_true, bne_self_eq_false, if_true]
  · have : inn t (term + 1) 1048576 = false := by
      cases hh : inn t (term + 1) 1048576 with
      | false => rfl
      | true => have := inn_iff.1 hh; omega
    simp only [h, this, decide_true, decide_false, cond_true, cond_false, Option.bind_some, Bool.not_true, Bool.not_false, sumE, Bool.true_and, Bool.and_true, Bool.false_and, Bool.and_false, beq_self_eq_true, bne_self_eq_false, if_false]

theorem chk_n {n : Int} {r : RT} (h : chk n r = true) : inn n 1 5 = true := by
  have := chk_iff.1 h
  exact inn_iff.2 ⟨this.n1, this.n5⟩

theorem m78_eq (n : Int) (r : RT) (m : MT) (k : Int) (hs : Shrt r) : m78 ((n, r, m, k, ()), ()) = some ((toOK n r m k, ()), ()) := by
  unfold m78 toOK
  simp only [m26_eq n r hs, m81_eq, Option.bind_some]
  cases hc : chk n r
  · simp only [decide_true, decide_false, cond_true, cond_false, Option.bind_some, Bool.not_true, Bool.not_false, sumE, Bool.true_and, Bool.and_true, Bool.false_and, Bool.and_false, beq_self_eq_true, bne_self_eq_false]
  simp only [w64_pred (chk_n hc)]
  obtain ⟨kind, frm, to, term, prev, pterm, commit, ents, ok, ⟨⟩⟩ := m
  simp only [Msg.kind, Msg.frm, Msg.to, Msg.term, Msg.prev, Msg.pterm, Msg.commit, Msg.ents, Msg.ok, mg, beq_decide, bne_decide, Rep.id]
  by_cases h1 : kind = k
  · by_cases h2 : to = r.1
    · simp only [h1, h2, decide_true, decide_false, cond_true, cond_false, Option.bind_some, Bool.not_true, Bool.not_false, sumE, Bool.true_and, Bool.and_true, Bool.false_and, Bool.and_false, beq_self_eq_true, bne_self_eq_false]
      cases h3 : inn frm 0 (n - 1)
      · simp only [decide_true, decide_false, cond_true, cond_false, Option.bind_some, Bool.not_true, Bool.not_false, sumE, Bool.true_and, Bool.and_true, Bool.false_and, Bool.and_false, beq_self_eq_true, bne_self_eq_false]
      · by_cases h4 : frm = r.1 <;> simp [h4]
    · simp only [h1, h2, decide_true, decide_false, cond_true, cond_false, Option.bind_some, Bool.not_true, Bool.not_false, sumE, Bool.true_and, Bool.and_true, Bool.false_and, Bool.and_false, beq_self_eq_true, bne_self_eq_false]
  · simp only [h1, decide_true, decide_false, cond_true, cond_false, Option.bind_some, Bool.not_true, Bool.not_false, sumE, Bool.true_and, Bool.and_true, Bool.false_and, Bool.and_false, beq_self_eq_true, bne_self_eq_false]

theorem shrt_follow {r : RT} (t : Int) (hs : Shrt r) : Shrt (fol r t) := by
  unfold fol
  split
  · exact ⟨hs.1, Nat.zero_le _, Nat.zero_le _⟩
  · exact hs

theorem m24_eq (n : Int) (r : RT) (m : MT) (hs : Shrt r) : m24 ((n, r, m, ()), ()) = some (((hear n r m).2.2, ()), (((hear n r m).1, ()), ((nm (hear n r m).2.1, ()), ()))) := by
  unfold m24
  simp only [m76_eq r hs, Option.bind_some]
  rw [show m78 ((n, (r.id, r.term, r.voted, r.role, r.log, r.commit, r.votes, r.mtch, ()), m, 1, ()), ()) = some ((toOK n r m 1, ()), ()) from m78_eq n r m 1 hs]
  unfold hear
  cases ho : toOK n r m 1
  · simp only [decide_true, decide_false, cond_true, cond_false, Option.bind_some, Bool.not_true, Bool.not_false, sumE, Bool.true_and, Bool.and_true, Bool.false_and, Bool.and_false, beq_self_eq_true, bne_self_eq_false]; rfl
  obtain ⟨hc, _, _, _, _, _, _, ht⟩ := toOK_iff.1 ho
  simp only [decide_true, decide_false, cond_true, cond_false, Option.bind_some, Bool.not_true, Bool.not_false, sumE, Bool.true_and, Bool.and_true, Bool.false_and, Bool.and_false, beq_self_eq_true, bne_self_eq_false, if_true]
  obtain ⟨kind, frm, to, mterm, prev, pterm, mcommit, ents, ok, ⟨⟩⟩ := m
  simp only [hearR, hearM, Msg.kind, Msg.frm, Msg.to, Msg.term, Msg.prev, Msg.pterm, Msg.commit, Msg.ents, Msg.ok, mg] at ht ⊢
  rw [show m79 (((r.id, r.term, r.voted, r.role, r.log, r.commit, r.votes, r.mtch, ()), mterm, ()), ()) = some ((), ((fol r mterm, ()), ())) from m79_eq r mterm ht (by have := hc.t0; omega) (by have := hc.t1; omega)]
  have hx := shrt_follow mterm hs
  have hrid : r.id = (fol r mterm).id := by unfold fol; split <;> rfl
  rw [hrid]
  generalize fol r mterm = x at hx
  have e21 := fun a b => m21_eq x a b hx
  obtain ⟨id, term, voted, role, log, commit, votes, mtch, ⟨⟩⟩ := x
  simp only [Option.bind_some, e21, hearYes, vote, Rep.id, Rep.term, Rep.voted, Rep.role, Rep.log, Rep.commit, Rep.votes, Rep.mtch, rp, Msg.kind, Msg.frm, Msg.to, Msg.term, Msg.prev, Msg.pterm, Msg.commit, Msg.ents, Msg.ok, mg, beq_decide]
  rcases Bool.eq_false_or_eq_true (decide (term = mterm)) with h1 | h1 <;> rcases Bool.eq_false_or_eq_true (decide (voted = -1)) with h2 | h2 <;> rcases Bool.eq_false_or_eq_true (decide (voted = frm)) with h3 | h3 <;> rcases Bool.eq_false_or_eq_true (decide (role = 0)) with h4 | h4 <;> rcases Bool.eq_false_or_eq_true (fresh log prev pterm) with h5 | h5 <;> simp only [h1, h2, h3, h4, h5, decide_true, decide_false, cond_true, cond_false, Option.bind_some, Bool.not_true, Bool.not_false, sumE, Bool.true_and, Bool.and_true, Bool.false_and, Bool.and_false, beq_self_eq_true, bne_self_eq_false, Bool.true_or, Bool.or_true, Bool.or_self, if_true, if_false, Bool.false_eq_true]

end Go.Proofs.Ytfbikpbejkgegaa

namespace Go.Proofs.Ytfbikpbejkgegaa
open Go Go.Abs Go.Raft
abbrev zeroR : RT := rp 0 0 0 0 [] 0 [] []

def stand (n : Int) (r : RT) : Int × RT × List MT :=
  if chk n r = true then (if r.term = 1048576 then (5, zeroR, []) else (0, standR n r, asks n r)) else (8, zeroR, [])

theorem yes_cons (b : Bool) (l : List Bool) : yes (b :: l) = (if b then 1 else 0) + yes l := by
  unfold yes
  rw [List.countP_cons]
  cases b <;> simp <;> omega

theorem loop77 (id term voted role : Int) (log : Log OpT) (commit : Int) (vs : List Bool) (mtch : List Int) (n : Int) (votes : List Bool) (hv : votes.length ≤ 4294967295) : ∀ (k i : Nat) (c : Int), i + k = votes.length → 0 ≤ c → c ≤ i →
    loopT l77_0_3 (((i : Int), c, votes, n, (votes.length : Int), ()), (((0, 0, 0, 0, 0, ()), ()), (((id, term, voted, role, log, commit, vs, mtch, ()), ()), ()))) = some ((n, c + yes (votes.drop i), ()), (((0, 0, 0, 0, 0, ()), ()), (((id, term, voted, role, log, commit, vs, mtch, ()), ()), ()))) := by
  intro k
  induction k with
  | zero =>
    intro i c h _ _
    rw [List.drop_eq_nil_of_le (by omega)]
    refine loopT_inr ?_
    have : ¬ (i : Int) < (votes.length : Int) := by omega
    simp only [l77_0_3, this, decide_true, decide_false, cond_true, cond_false, Option.bind_some, Bool.not_true, Bool.not_false, sumE, Bool.true_and, Bool.and_true, Bool.false_and, Bool.and_false, beq_self_eq_true, bne_self_eq_false]
    simp [yes]
  | succ k ih =>
    intro i c h c0 c1
    obtain ⟨e, he, hd⟩ := drop_at (l := votes) (i := i) (by omega)
    have hlt : (i : Int) < (votes.length : Int) := by omega
    rw [hd, yes_cons]
    have hc : w64 (c + 1) = c + 1 := w64_id (by omega) (by omega)
    cases e
    · rw [show loopT l77_0_3 (((i : Int), c, votes, n, (votes.length : Int), ()), (((0, 0, 0, 0, 0, ()), ()), (((id, term, voted, role, log, commit, vs, mtch, ()), ()), ()))) = loopT l77_0_3 ((((i + 1 : Nat) : Int), c, votes, n, (votes.length : Int), ()), (((0, 0, 0, 0, 0, ()), ()), (((id, term, voted, role, log, commit, vs, mtch, ()), ()), ()))) from loopT_inl (by
        simp only [l77_0_3, rowAt_G, rowG_nat he, hlt, decide_true, decide_false, cond_true, cond_false, Option.bind_some, Bool.not_true, Bool.not_false, sumE, Bool.true_and, Bool.and_true, Bool.false_and, Bool.and_false, beq_self_eq_true, bne_self_eq_false, w64_nat (show i ≤ 4294967296 by omega)])]
      rw [ih (i + 1) c (by omega) (by omega) (by omega)]
      simp
    · rw [show loopT l77_0_3 (((i : Int), c, votes, n, (votes.length : Int), ()), (((0, 0, 0, 0, 0, ()), ()), (((id, term, voted, role, log, commit, vs, mtch, ()), ()), ()))) = loopT l77_0_3 ((((i + 1 : Nat) : Int), c + 1, votes, n, (votes.length : Int), ()), (((0, 0, 0, 0, 0, ()), ()), (((id, term, voted, role, log, commit, vs, mtch, ()), ()), ()))) from loopT_inl (by
        simp only [l77_0_3, rowAt_G, rowG_nat he, hlt, decide_true, decide_false, cond_true, cond_false, Option.bind_some, Bool.not_true, Bool.not_false, sumE, Bool.true_and, Bool.and_true, Bool.false_and, Bool.and_false, beq_self_eq_true, bne_self_eq_false, w64_nat (show i ≤ 4294967296 by omega), hc])]
      rw [ih (i + 1) (c + 1) (by omega) (by omega) (by omega)]
      simp only [if_true]
      rw [show c + 1 + yes (votes.drop (i + 1)) = c + (1 + yes (votes.drop (i + 1))) by omega]

theorem m77_eq (n : Int) (r : RT) (hs : Shrt r) (h1 : 1 ≤ n) (h5 : n ≤ 5) (i0 : 0 ≤ r.id) (i1 : r.id < n) : m77 ((n, r, ()), ()) = some ((), ((if yes r.votes ≥ quorum n then lead n r else r, ()), ())) := by
  obtain ⟨id, term, voted, role, log, commit, votes, mtch, ⟨⟩⟩ := r
  obtain ⟨s1, s2, s3⟩ := hs
  simp only [Rep.id, Rep.term, Rep.voted, Rep.role, Rep.log, Rep.commit, Rep.votes, Rep.mtch, rp] at i0 i1 s1 s2 s3 ⊢
  unfold m77
  have := loop77 id term voted role log commit votes mtch n votes s2 votes.length 0 0 (by omega) (by omega) (by omega)
  simp only [List.drop_zero] at this
  simp only []
  rw [show loopT l77_0_3 ((0, (0, (votes, (n, ((votes.length : Int), ()))))), (((0, (0, (0, (0, (0, ()))))), ()), (((id, term, voted, role, log, commit, votes, mtch, ()), ()), ()))) = _ from this]
  have a1 : (0 : Int) ≤ n ∧ n ≤ n ∧ n ≤ 4294967296 := by omega
  have a2 : (0 : Int) ≤ id ∧ id < ((List.replicate n.toNat (0 : Int)).length : Int) := by simp; omega
  have a3 : id.toNat < (List.replicate n.toNat (0 : Int)).length := by simp; omega
  rw [Int.zero_add]
  by_cases hq : yes votes ≥ quorum n
  · simp only [Option.bind_some, m28_eq, hq, decide_true, decide_false, cond_true, cond_false, Option.bind_some, Bool.not_true, Bool.not_false, sumE, Bool.true_and, Bool.and_true, Bool.false_and, Bool.and_false, beq_self_eq_true, bne_self_eq_false, a1, a2, a3, and_self, if_true, lead, Rep.id, Rep.term, Rep.voted, Rep.role, Rep.log, Rep.commit, Rep.votes, Rep.mtch, rp]
  · simp only [Option.bind_some, m28_eq, hq, decide_true, decide_false, cond_true, cond_false, Option.bind_some, Bool.not_true, Bool.not_false, sumE, Bool.true_and, Bool.and_true, Bool.false_and, Bool.and_false, beq_self_eq_true, bne_self_eq_false, if_false]

theorem yes_one' : ∀ n ≤ 5, ∀ k < n, yes ((List.replicate n false).set k true) = 1 := by decide

theorem range_filter (i k : Nat) (p : Nat → Bool) : (List.range' i (k + 1)).filter p = if p i then i :: (List.range' (i + 1) k).filter p else (List.range' (i + 1) k).filter p := by
  rw [List.range'_succ, List.filter_cons]

theorem loop23 (id term voted role commit : Int) (log : Log OpT) (votes : List Bool) (n : Int) (hl : log.length ≤ 4294967295) (hvv : votes.length ≤ 4294967295) (n5 : n ≤ 4294967295) : ∀ (k i : Nat) (acc : List MT), (i : Int) + k = n → acc.length ≤ i →
    loopT l23_0_11 (((i : Int), n, n, ()), (((id, term, voted, role, commit, ()), ()), (acc, (((0, 0, 0, 0, 0, ()), ()), (log, (votes, ())))))) =
      some ((n, ()), (((0, 0, 0, 0, 0, ()), ()), (acc ++ ((List.range' i k).filter (fun (i : Nat) => decide ((i : Int) ≠ id))).map (fun (j : Nat) => mg 1 id (j : Int) term log.length (lastT log) 0 [] false), (((id, term, voted, role, commit, ()), ()), (log, (votes, ())))))) := by
  intro k
  induction k with
  | zero =>
    intro i acc h _
    refine loopT_inr ?_
    have : ¬ (i : Int) < n := by omega
    simp only [l23_0_11, this, decide_true, decide_false, cond_true, cond_false, Option.bind_some, Bool.not_true, Bool.not_false, sumE, Bool.true_and, Bool.and_true, Bool.false_and, Bool.and_false, beq_self_eq_true, bne_self_eq_false]
    simp
  | succ k ih =>
    intro i acc h ha
    have hlt : (i : Int) < n := by omega
    rw [range_filter]
    by_cases e : (i : Int) = id
    · rw [show loopT l23_0_11 (((i : Int), n, n, ()), (((id, term, voted, role, commit, ()), ()), (acc, (((0, 0, 0, 0, 0, ()), ()), (log, (votes, ())))))) = loopT l23_0_11 ((((i + 1 : Nat) : Int), n, n, ()), (((id, term, voted, role, commit, ()), ()), (acc, (((0, 0, 0, 0, 0, ()), ()), (log, (votes, ())))))) from loopT_inl (by
        simp only [l23_0_11, hlt, show ((i : Int) != id) = false by simpa using e, decide_true, decide_false, cond_true, cond_false, Option.bind_some, Bool.not_true, Bool.not_false, sumE, Bool.true_and, Bool.and_true, Bool.false_and, Bool.and_false, beq_self_eq_true, bne_self_eq_false, w64_nat (show i ≤ 4294967296 by omega)])]
      rw [ih (i + 1) acc (by omega) (by omega)]
      simp only [show decide ((i : Int) ≠ id) = false by simpa using e, Bool.false_eq_true, if_false]
    · have e75 := m75_eq (rp id term voted role log commit votes []) ⟨hl, hvv, by simp⟩
      simp only [Rep.id, Rep.term, Rep.voted, Rep.role, Rep.log, Rep.commit, Rep.votes, Rep.mtch, rp] at e75
      have hlen : ∀ x : MT, acc.length + [x].length ≤ 4294967296 := by intro x; simp; omega
      rw [show loopT l23_0_11 (((i : Int), n, n, ()), (((id, term, voted, role, commit, ()), ()), (acc, (((0, 0, 0, 0, 0, ()), ()), (log, (votes, ())))))) = loopT l23_0_11 ((((i + 1 : Nat) : Int), n, n, ()), (((id, term, voted, role, commit, ()), ()), (acc ++ [mg 1 id (i : Int) term log.length (lastT log) 0 [] false], (((0, 0, 0, 0, 0, ()), ()), (log, (votes, ())))))) from loopT_inl (by
        simp only [l23_0_11, hlt, show ((i : Int) != id) = true by simpa using e, e75, hlen, decide_true, decide_false, cond_true, cond_false, Option.bind_some, Bool.not_true, Bool.not_false, sumE, Bool.true_and, Bool.and_true, Bool.false_and, Bool.and_false, beq_self_eq_true, bne_self_eq_false, w64_nat (show i ≤ 4294967296 by omega)])]
      rw [ih (i + 1) _ (by omega) (by simp; omega)]
      simp only [show decide ((i : Int) ≠ id) = true by simpa using e, if_true, List.map_cons, List.append_assoc, List.singleton_append]

theorem asks_range (n : Int) (r : RT) : asks n r = ((List.range' 0 n.toNat).filter (fun (i : Nat) => decide ((i : Int) ≠ r.id))).map (fun (j : Nat) => mg 1 r.id (j : Int) (r.term + 1) r.log.length (lastT r.log) 0 [] false) := by
  unfold asks; rw [List.range_eq_range']

theorem m23_eq (n : Int) (r : RT) (hs : Shrt r) : m23 ((n, r, ()), ()) = some (((stand n r).1, ()), (((stand n r).2.1, ()), ((stand n r).2.2, ()))) := by
  unfold m23 stand
  simp only [m26_eq n r hs, m76_eq r hs, Option.bind_some]
  cases hc : chk n r
  · simp only [decide_true, decide_false, cond_true, cond_false, Option.bind_some, Bool.not_true, Bool.not_false, sumE, Bool.true_and, Bool.and_true, Bool.false_and, Bool.and_false, beq_self_eq_true, bne_self_eq_false, Bool.false_eq_true, if_false, Rep.id, Rep.term, Rep.voted, Rep.role, Rep.log, Rep.commit, Rep.votes, Rep.mtch, rp]
  have C := chk_iff.1 hc
  have h1 := C.n1; have h5 := C.n5; have i0 := C.i0; have i1 := C.i1; have t0 := C.t0; have t1 := C.t1
  rw [asks_range]
  obtain ⟨id, term, voted, role, log, commit, votes, mtch, ⟨⟩⟩ := r
  obtain ⟨s1, s2, s3⟩ := hs
  simp only [Rep.id, Rep.term, Rep.voted, Rep.role, Rep.log, Rep.commit, Rep.votes, Rep.mtch, rp] at s1 s2 s3 i0 i1 t0 t1
  simp only [decide_true, decide_false, cond_true, cond_false, Option.bind_some, Bool.not_true, Bool.not_false, sumE, Bool.true_and, Bool.and_true, Bool.false_and, Bool.and_false, beq_self_eq_true, bne_self_eq_false, if_true, Rep.id, Rep.term, Rep.voted, Rep.role, Rep.log, Rep.commit, Rep.votes, Rep.mtch, rp, beq_decide]
  by_cases ht : term = 1048576
  · simp only [ht, decide_true, decide_false, cond_true, cond_false, Option.bind_some, Bool.not_true, Bool.not_false, sumE, Bool.true_and, Bool.and_true, Bool.false_and, Bool.and_false, beq_self_eq_true, bne_self_eq_false, if_true]
  have a1 : (0 : Int) ≤ n ∧ n ≤ n ∧ n ≤ 4294967296 := by omega
  have a2 : (0 : Int) ≤ id ∧ id < ((List.replicate n.toNat false).length : Int) := by simp; omega
  have a3 : id.toNat < (List.replicate n.toNat false).length := by simp; omega
  have w : w64 (term + 1) = term + 1 := w64_id (by omega) (by omega)
  simp only [ht, decide_true, decide_false, cond_true, cond_false, Option.bind_some, Bool.not_true, Bool.not_false, sumE, Bool.true_and, Bool.and_true, Bool.false_and, Bool.and_false, beq_self_eq_true, bne_self_eq_false, if_false, a1, a2, a3, and_self, w]
  have hvv : ((List.replicate n.toNat false).set id.toNat true).length ≤ 4294967295 := by simp; omega
  have := loop23 id (term + 1) id 1 commit log ((List.replicate n.toNat false).set id.toNat true) n s1 hvv (by omega) n.toNat 0 [] (by omega) (by simp)
  rw [show loopT l23_0_11 ((0, (n, (n, ()))), (((id, (term + 1, (id, (1, (commit, ()))))), ()), ([], (((0, (0, (0, (0, (0, ()))))), ()), (log, ((List.replicate n.toNat false).set id.toNat true, ())))))) = _ from this]
  have e77 := m77_eq n (rp id (term + 1) id 1 log commit ((List.replicate n.toNat false).set id.toNat true) []) ⟨s1, hvv, by simp⟩ h1 h5 i0 i1
  simp only [Rep.id, Rep.term, Rep.voted, Rep.role, Rep.log, Rep.commit, Rep.votes, Rep.mtch, rp] at e77
  simp only [Option.bind_some, e77, List.nil_append]
  rw [yes_one' n.toNat (by omega) id.toNat (by omega)]
  unfold standR
  simp only [Rep.id, Rep.term, Rep.voted, Rep.role, Rep.log, Rep.commit, Rep.votes, Rep.mtch, rp]
  have hq := quorum_eq h1 h5
  by_cases hq1 : quorum n = 1
  · rw [if_pos (by omega), if_pos hq1]
  · rw [if_neg (by omega), if_neg hq1]

theorem m36_eq (n : Int) (r : RT) (m : MT) (hs : Shrt r) : m36 ((n, r, m, ()), ()) = some ((), ((voted n r m, ()), ())) := by
  unfold m36 voted
  simp only [m76_eq r hs, Option.bind_some]
  rw [show m78 ((n, (r.id, r.term, r.voted, r.role, r.log, r.commit, r.votes, r.mtch, ()), m, 2, ()), ()) = some ((toOK n r m 2, ()), ()) from m78_eq n r m 2 hs]
  cases ho : toOK n r m 2
  · simp only [decide_true, decide_false, cond_true, cond_false, Option.bind_some, Bool.not_true, Bool.not_false, sumE, Bool.true_and, Bool.and_true, Bool.false_and, Bool.and_false, beq_self_eq_true, bne_self_eq_false]; rfl
  obtain ⟨C, _, _, f0, f1, _, _, ht⟩ := toOK_iff.1 ho
  have h1 := C.n1; have h5 := C.n5; have i0 := C.i0; have i1 := C.i1; have t0 := C.t0; have t1 := C.t1
  have ro := @role1_iff _ n r
  have cro := C.ro
  simp only [decide_true, decide_false, cond_true, cond_false, Option.bind_some, Bool.not_true, Bool.not_false, sumE, Bool.true_and, Bool.and_true, Bool.false_and, Bool.and_false, beq_self_eq_true, bne_self_eq_false, if_true]
  obtain ⟨kind, frm, to, mterm, prev, pterm, mcommit, ents, ok, ⟨⟩⟩ := m
  simp only [Msg.kind, Msg.frm, Msg.to, Msg.term, Msg.prev, Msg.pterm, Msg.commit, Msg.ents, Msg.ok, mg] at f0 f1 ht ⊢
  rw [show m79 (((r.id, r.term, r.voted, r.role, r.log, r.commit, r.votes, r.mtch, ()), mterm, ()), ()) = some ((), ((fol r mterm, ()), ())) from m79_eq r mterm ht (by omega) (by omega)]
  obtain ⟨id, term, voted, role, log, commit, votes, mtch, ⟨⟩⟩ := r
  obtain ⟨s1, s2, s3⟩ := hs
  simp only [Rep.id, Rep.term, Rep.voted, Rep.role, Rep.log, Rep.commit, Rep.votes, Rep.mtch, rp] at s1 s2 s3 i0 i1 ro
  simp only [Rep.id, Rep.term, Rep.voted, Rep.role, Rep.log, Rep.commit, Rep.votes, Rep.mtch, rp, bne_decide]
  by_cases hgt : mterm > term
  · simp only [hgt, decide_true, decide_false, cond_true, cond_false, Option.bind_some, Bool.not_true, Bool.not_false, sumE, Bool.true_and, Bool.and_true, Bool.false_and, Bool.and_false, beq_self_eq_true, bne_self_eq_false, if_true]
  simp only [hgt, decide_true, decide_false, cond_true, cond_false, Option.bind_some, Bool.not_true, Bool.not_false, sumE, Bool.true_and, Bool.and_true, Bool.false_and, Bool.and_false, beq_self_eq_true, bne_self_eq_false, if_false]
  by_cases hr : role = 1
  · subst hr
    by_cases hmt : mterm = term
    · cases ok
      · simp only [hmt, ne_eq, decide_true, decide_false, cond_true, cond_false, Option.bind_some, Bool.not_true, Bool.not_false, sumE, Bool.true_and, Bool.and_true, Bool.false_and, Bool.and_false, beq_self_eq_true, bne_self_eq_false, not_true_eq_false, decide_false, Bool.false_eq_true, and_false, if_false]
      · obtain ⟨v1, v2, v3⟩ := (ro rfl).1 cro
        have a2 : (0 : Int) ≤ frm ∧ frm < (votes.length : Int) := by omega
        have a3 : frm.toNat < votes.length := by omega
        simp only [hmt, ne_eq, decide_true, decide_false, cond_true, cond_false, Option.bind_some, Bool.not_true, Bool.not_false, sumE, Bool.true_and, Bool.and_true, Bool.false_and, Bool.and_false, beq_self_eq_true, bne_self_eq_false, not_true_eq_false, decide_false, a2, a3, and_self, if_true]
        have e77 := m77_eq n (rp id term voted 1 log commit (votes.set frm.toNat true) mtch) ⟨s1, by simpa using s2, s3⟩ h1 h5 i0 i1
        simp only [Rep.id, Rep.term, Rep.voted, Rep.role, Rep.log, Rep.commit, Rep.votes, Rep.mtch, rp] at e77
        simp only [e77, Option.bind_some]
        rfl
    · simp only [hmt, ne_eq, decide_true, decide_false, cond_true, cond_false, Option.bind_some, Bool.not_true, Bool.not_false, sumE, Bool.true_and, Bool.and_true, Bool.false_and, Bool.and_false, beq_self_eq_true, bne_self_eq_false, not_false_eq_true, decide_true, false_and, and_false, if_false, not_true_eq_false]
  · simp only [hr, ne_eq, decide_true, decide_false, cond_true, cond_false, Option.bind_some, Bool.not_true, Bool.not_false, sumE, Bool.true_and, Bool.and_true, Bool.false_and, Bool.and_false, beq_self_eq_true, bne_self_eq_false, not_false_eq_true, decide_true, false_and, if_false]

end Go.Proofs.Ytfbikpbejkgegaa

namespace Go.Proofs.Ytfbikpbejkgegaa
open Go Go.Abs Go.Raft
def hasID (l : Log OpT) (o : OpT) : Bool := l.any (fun e => e.2.1.1 == o.1)

def proposeE (n : Int) (r : RT) (o : OpT) : Int × RT :=
  if chk n r = true then
    if r.role = 2 then (if hasID r.log o = true then (4, zeroR) else if r.log.length < 256 then (0, proposeR n r o) else (5, zeroR)) else (22, zeroR)
  else (8, zeroR)

def restartE (n : Int) (r : RT) : Int × RT := if chk n r = true then (0, restartR r) else (8, zeroR)

def appendsE (n : Int) (r : RT) : List MT := if chk n r = true ∧ r.role = 2 then appends n r else []

theorem loop54 (o : OpT) (l : Log OpT) (hl : l.length ≤ 4294967295) : ∀ (k i : Nat), i + k = l.length →
    ∃ d, loopT l54_2_2 (((i : Int), l, (l.length : Int), ()), ((o, ()), ())) = some d ∧ (if hasID (l.drop i) o then ∃ j : Nat, d = .inl (((j : Int), ()), ((o, ()), ())) else d = .inr ((), ((o, ()), ()))) := by
  intro k
  induction k with
  | zero =>
    intro i h
    rw [List.drop_eq_nil_of_le (by omega)]
    refine ⟨.inr ((), ((o, ()), ())), loopT_inr ?_, by simp only [hasID, List.any_nil, Bool.false_eq_true, if_false]⟩
    have : ¬ (i : Int) < (l.length : Int) := by omega
    simp only [l54_2_2, this, decide_true, decide_false, cond_true, cond_false, Option.bind_some, Bool.not_true, Bool.not_false, sumE, Bool.true_and, Bool.and_true, Bool.false_and, Bool.and_false, beq_self_eq_true, bne_self_eq_false]
  | succ k ih =>
    intro i h
    obtain ⟨e, he, hd⟩ := drop_at (l := l) (i := i) (by omega)
    have hlt : (i : Int) < (l.length : Int) := by omega
    rw [hd]
    unfold hasID
    rw [List.any_cons]
    cases hq : (e.2.1.1 == o.1)
    · rw [show loopT l54_2_2 (((i : Int), l, (l.length : Int), ()), ((o, ()), ())) = loopT l54_2_2 ((((i + 1 : Nat) : Int), l, (l.length : Int), ()), ((o, ()), ())) from loopT_inl (by
        simp only [l54_2_2, rowAt_G, rowG_nat he, hlt, hq, decide_true, decide_false, cond_true, cond_false, Option.bind_some, Bool.not_true, Bool.not_false, sumE, Bool.true_and, Bool.and_true, Bool.false_and, Bool.and_false, beq_self_eq_true, bne_self_eq_false, w64_nat (show i ≤ 4294967296 by omega)])]
      obtain ⟨d, h1, h2⟩ := ih (i + 1) (by omega)
      exact ⟨d, h1, by rw [Bool.false_or]; exact h2⟩
    · refine ⟨.inl (((i : Int), ()), ((o, ()), ())), loopT_inr ?_, by simp only [Bool.true_or, if_true]; exact ⟨i, rfl⟩⟩
      simp only [l54_2_2, rowAt_G, rowG_nat he, hlt, hq, decide_true, decide_false, cond_true, cond_false, Option.bind_some, Bool.not_true, Bool.not_false, sumE, Bool.true_and, Bool.and_true, Bool.false_and, Bool.and_false, beq_self_eq_true, bne_self_eq_false]

theorem m54_eq (n : Int) (r : RT) (o : OpT) (hs : Shrt r) : m54 ((n, r, o, ()), ()) = some (((proposeE n r o).1, ()), (cpR (proposeE n r o).2).2) := by
  unfold m54 proposeE
  simp only [m26_eq n r hs, Option.bind_some]
  cases hc : chk n r
  · simp only [decide_true, decide_false, cond_true, cond_false, Option.bind_some, Bool.not_true, Bool.not_false, sumE, Bool.true_and, Bool.and_true, Bool.false_and, Bool.and_false, beq_self_eq_true, bne_self_eq_false, Bool.false_eq_true, if_false, Rep.id, Rep.term, Rep.voted, Rep.role, Rep.log, Rep.commit, Rep.votes, Rep.mtch, rp, cpR]
  have C := chk_iff.1 hc
  have h1 := C.n1; have h5 := C.n5; have i0 := C.i0; have i1 := C.i1; have ll := C.ll
  have ro := @role2_iff _ n r
  have cro := C.ro
  simp only [decide_true, decide_false, cond_true, cond_false, Option.bind_some, Bool.not_true, Bool.not_false, sumE, Bool.true_and, Bool.and_true, Bool.false_and, Bool.and_false, beq_self_eq_true, bne_self_eq_false, if_true, bne_decide, beq_decide]
  by_cases hr : r.role = 2
  · simp only [hr, ne_eq, not_true_eq_false, not_false_eq_true, eq_self, decide_true, decide_false, cond_true, cond_false, Option.bind_some, Bool.not_true, Bool.not_false, sumE, Bool.true_and, Bool.and_true, Bool.false_and, Bool.and_false, beq_self_eq_true, bne_self_eq_false, if_true]
    obtain ⟨d, e1, e2⟩ := loop54 o r.log hs.1 r.log.length 0 (by omega)
    rw [List.drop_zero] at e2
    rw [show loopT l54_2_2 ((0, (r.2.2.2.2.1, ((r.2.2.2.2.1.length : Int), ()))), ((o, ()), ())) = _ from e1]
    cases hh : hasID r.log o
    · rw [hh] at e2
      simp only [Bool.false_eq_true, if_false] at e2
      subst e2
      obtain ⟨v1, v2, v3, v4, v5⟩ := (ro hr).1 cro
      simp only [Option.bind_some, Bool.false_eq_true, if_false, decide_true, decide_false, cond_true, cond_false, Option.bind_some, Bool.not_true, Bool.not_false, sumE, Bool.true_and, Bool.and_true, Bool.false_and, Bool.and_false, beq_self_eq_true, bne_self_eq_false, m76_eq r hs, m28_eq]
      obtain ⟨id, term, voted, role, log, commit, votes, mtch, ⟨⟩⟩ := r
      simp only [Rep.id, Rep.term, Rep.voted, Rep.role, Rep.log, Rep.commit, Rep.votes, Rep.mtch, rp] at ll v3 i0 i1 ⊢
      by_cases hlen : log.length < 256
      · have b1 : ¬ (log.length : Int) = 256 := by omega
        have b2 : ∀ x : Ent OpT, log.length + [x].length ≤ 4294967296 := by intro x; simp; omega
        have b3 : (0 : Int) ≤ id ∧ id < (mtch.length : Int) := by omega
        have b4 : id.toNat < mtch.length := by omega
        simp only [hlen, b1, b2, b3, b4, and_self, decide_true, decide_false, cond_true, cond_false, Option.bind_some, Bool.not_true, Bool.not_false, sumE, Bool.true_and, Bool.and_true, Bool.false_and, Bool.and_false, beq_self_eq_true, bne_self_eq_false, if_true, proposeR, Rep.id, Rep.term, Rep.voted, Rep.role, Rep.log, Rep.commit, Rep.votes, Rep.mtch, rp]
        by_cases hq : quorum n = 1
        · simp only [hq, decide_true, decide_false, cond_true, cond_false, Option.bind_some, Bool.not_true, Bool.not_false, sumE, Bool.true_and, Bool.and_true, Bool.false_and, Bool.and_false, beq_self_eq_true, bne_self_eq_false, if_true]
        · simp only [hq, decide_true, decide_false, cond_true, cond_false, Option.bind_some, Bool.not_true, Bool.not_false, sumE, Bool.true_and, Bool.and_true, Bool.false_and, Bool.and_false, beq_self_eq_true, bne_self_eq_false, if_false]
      · have b1 : (log.length : Int) = 256 := by omega
        simp only [hlen, b1, decide_true, decide_false, cond_true, cond_false, Option.bind_some, Bool.not_true, Bool.not_false, sumE, Bool.true_and, Bool.and_true, Bool.false_and, Bool.and_false, beq_self_eq_true, bne_self_eq_false, if_false]
    · rw [hh] at e2
      simp only [if_true] at e2
      obtain ⟨j, rfl⟩ := e2
      have : (j : Int) ≥ 0 := by omega
      simp only [Option.bind_some, if_true, this, decide_true, decide_false, cond_true, cond_false, Option.bind_some, Bool.not_true, Bool.not_false, sumE, Bool.true_and, Bool.and_true, Bool.false_and, Bool.and_false, beq_self_eq_true, bne_self_eq_false, cpR, Rep.id, Rep.term, Rep.voted, Rep.role, Rep.log, Rep.commit, Rep.votes, Rep.mtch, rp]
  · simp only [hr, ne_eq, not_true_eq_false, not_false_eq_true, eq_self, decide_true, decide_false, cond_true, cond_false, Option.bind_some, Bool.not_true, Bool.not_false, sumE, Bool.true_and, Bool.and_true, Bool.false_and, Bool.and_false, beq_self_eq_true, bne_self_eq_false, if_false, cpR, Rep.id, Rep.term, Rep.voted, Rep.role, Rep.log, Rep.commit, Rep.votes, Rep.mtch, rp]

theorem m49_eq (n : Int) (r : RT) (hs : Shrt r) : m49 ((n, r, ()), ()) = some (((restartE n r).1, ()), ((cpR (restartE n r).2).2.1, ((restartE n r).2.log, ()))) := by
  unfold m49 restartE
  simp only [m26_eq n r hs, m76_eq r hs, Option.bind_some]
  cases hc : chk n r
  · simp only [decide_true, decide_false, cond_true, cond_false, Option.bind_some, Bool.not_true, Bool.not_false, sumE, Bool.true_and, Bool.and_true, Bool.false_and, Bool.and_false, beq_self_eq_true, bne_self_eq_false, Bool.false_eq_true, if_false, Rep.id, Rep.term, Rep.voted, Rep.role, Rep.log, Rep.commit, Rep.votes, Rep.mtch, rp, cpR]
  · simp only [decide_true, decide_false, cond_true, cond_false, Option.bind_some, Bool.not_true, Bool.not_false, sumE, Bool.true_and, Bool.and_true, Bool.false_and, Bool.and_false, beq_self_eq_true, bne_self_eq_false, if_true, Rep.id, Rep.term, Rep.voted, Rep.role, Rep.log, Rep.commit, Rep.votes, Rep.mtch, rp, cpR, restartR]

/-! ### Appends -/
def appendM (r : RT) (i : Nat) : MT := mg 3 r.id (i : Int) r.term (r.mtch[i]?.getD 0) (ptermAt r.log (r.mtch[i]?.getD 0)) r.commit (r.log.drop (r.mtch[i]?.getD 0).toNat) false

theorem appends_range (n : Int) (r : RT) : appends n r = ((List.range' 0 n.toNat).filter (fun (i : Nat) => decide ((i : Int) ≠ r.id))).map (appendM r) := by
  unfold appends; rw [List.range_eq_range']; rfl

theorem loop46 (n : Int) (id term voted role : Int) (log : Log OpT) (commit : Int) (votes : List Bool) (mtch : List Int) (hl : log.length ≤ 4294967295) (hm : (mtch.length : Int) = n) (n5 : n ≤ 5) (hb : ∀ p ∈ mtch, 0 ≤ p ∧ p ≤ (log.length : Int)) : ∀ (k i : Nat) (acc : List MT), (i : Int) + k = n → acc.length ≤ i →
    loopT l46_0_5 (((i : Int), mtch, n, ()), (acc, (((id, term, voted, role, log, commit, votes, mtch, ()), ()), ()))) = some ((), (acc ++ ((List.range' i k).filter (fun (i : Nat) => decide ((i : Int) ≠ id))).map (appendM (id, term, voted, role, log, commit, votes, mtch, ())), ())) := by
  intro k
  induction k with
  | zero =>
    intro i acc h _
    refine loopT_inr ?_
    have : ¬ (i : Int) < n := by omega
    simp only [l46_0_5, this, decide_true, decide_false, cond_true, cond_false, Option.bind_some, Bool.not_true, Bool.not_false, sumE, Bool.true_and, Bool.and_true, Bool.false_and, Bool.and_false, beq_self_eq_true, bne_self_eq_false]
    simp
  | succ k ih =>
    intro i acc h ha
    have hlt : (i : Int) < n := by omega
    obtain ⟨p, hp⟩ := getD_some (l := mtch) (i := i) (by omega)
    rw [range_filter]
    by_cases e : (i : Int) = id
    · rw [show loopT l46_0_5 (((i : Int), mtch, n, ()), (acc, (((id, term, voted, role, log, commit, votes, mtch, ()), ()), ()))) = loopT l46_0_5 ((((i + 1 : Nat) : Int), mtch, n, ()), (acc, (((id, term, voted, role, log, commit, votes, mtch, ()), ()), ()))) from loopT_inl (by
        simp only [l46_0_5, rowAt_G, rowG_nat hp, hlt, beq_decide, decide_eq_true e, decide_true, decide_false, cond_true, cond_false, Option.bind_some, Bool.not_true, Bool.not_false, sumE, Bool.true_and, Bool.and_true, Bool.false_and, Bool.and_false, beq_self_eq_true, bne_self_eq_false, w64_nat (show i ≤ 4294967296 by omega)])]
      rw [ih (i + 1) acc (by omega) (by omega)]
      simp only [show decide ((i : Int) ≠ id) = false by simpa using e, Bool.false_eq_true, if_false]
    · obtain ⟨p0, p1⟩ := hb p (List.mem_of_getElem? hp)
      have hlen : ∀ x : MT, acc.length + [x].length ≤ 4294967296 := by intro x; simp; omega
      have c1 : p.toNat ≤ log.length ∧ log.length ≤ log.length := by omega
      have c3 : (log.drop p.toNat).take (log.length - p.toNat) = log.drop p.toNat := List.take_of_length_le (by simp)
      have c2 : (log.drop p.toNat).length ≤ 4294967296 := by simp; omega
      have step : l46_0_5 (((i : Int), mtch, n, ()), (acc, (((id, term, voted, role, log, commit, votes, mtch, ()), ()), ()))) = some (.inl ((((i + 1 : Nat) : Int), mtch, n, ()), (acc ++ [appendM (id, term, voted, role, log, commit, votes, mtch, ()) i], (((id, term, voted, role, log, commit, votes, mtch, ()), ()), ())))) := by
        unfold appendM
        simp only [Rep.id, Rep.term, Rep.voted, Rep.role, Rep.log, Rep.commit, Rep.votes, Rep.mtch, rp, hp, Option.getD_some]
        by_cases hp0 : p > 0
        · have hw : w64 (p - 1) = p - 1 := w64_id (by omega) (by omega)
          obtain ⟨x, hx⟩ := getD_some (l := log) (i := (p - 1).toNat) (by omega)
          simp only [ptermAt, if_pos hp0, hx, Option.map_some, Option.getD_some]
          simp only [l46_0_5, m91, rowAt_G, rowG_nat hp, hw, rowG_int (show 0 ≤ p - 1 by omega) hx, hlt, beq_decide, decide_eq_false e, p0, c1, c2, c3, hp0, hlen, and_self, decide_true, decide_false, cond_true, cond_false, Option.bind_some, Bool.not_true, Bool.not_false, sumE, Bool.true_and, Bool.and_true, Bool.false_and, Bool.and_false, beq_self_eq_true, bne_self_eq_false, w64_nat (show i ≤ 4294967296 by omega)]
        · simp only [ptermAt, if_neg hp0]
          simp only [l46_0_5, m91, rowAt_G, rowG_nat hp, hlt, beq_decide, decide_eq_false e, p0, c1, c2, c3, hp0, hlen, and_self, decide_true, decide_false, cond_true, cond_false, Option.bind_some, Bool.not_true, Bool.not_false, sumE, Bool.true_and, Bool.and_true, Bool.false_and, Bool.and_false, beq_self_eq_true, bne_self_eq_false, w64_nat (show i ≤ 4294967296 by omega)]
      rw [loopT_inl step, ih (i + 1) _ (by omega) (by simp; omega)]
      simp only [show decide ((i : Int) ≠ id) = true by simpa using e, if_true, List.map_cons, List.append_assoc, List.singleton_append]

theorem m46_eq (n : Int) (r : RT) (hs : Shrt r) : m46 ((n, r, ()), ()) = some ((), (appendsE n r, ())) := by
  unfold m46 appendsE
  simp only [m26_eq n r hs, Option.bind_some]
  cases hc : chk n r
  · simp only [decide_true, decide_false, cond_true, cond_false, Option.bind_some, Bool.not_true, Bool.not_false, sumE, Bool.true_and, Bool.and_true, Bool.false_and, Bool.and_false, beq_self_eq_true, bne_self_eq_false, Bool.false_eq_true, false_and, if_false]
  have C := chk_iff.1 hc
  have h1 := C.n1; have h5 := C.n5
  have ro := @role2_iff _ n r
  have cro := C.ro
  rw [appends_range]
  simp only [decide_true, decide_false, cond_true, cond_false, Option.bind_some, Bool.not_true, Bool.not_false, sumE, Bool.true_and, Bool.and_true, Bool.false_and, Bool.and_false, beq_self_eq_true, bne_self_eq_false, bne_decide, true_and]
  by_cases hr : r.role = 2
  · obtain ⟨v1, v2, v3, v4, v5⟩ := (ro hr).1 cro
    simp only [hr, ne_eq, not_true_eq_false, not_false_eq_true, eq_self, decide_true, decide_false, cond_true, cond_false, Option.bind_some, Bool.not_true, Bool.not_false, sumE, Bool.true_and, Bool.and_true, Bool.false_and, Bool.and_false, beq_self_eq_true, bne_self_eq_false, if_true]
    obtain ⟨id, term, voted, role, log, commit, votes, mtch, ⟨⟩⟩ := r
    have := loop46 n id term voted role log commit votes mtch hs.1 v3 h5 v5 n.toNat 0 [] (by omega) (by simp)
    simp only [Rep.id, Rep.term, Rep.voted, Rep.role, Rep.log, Rep.commit, Rep.votes, Rep.mtch, rp] at v3
    simp only [v3]
    rw [show loopT l46_0_5 ((0, (mtch, (n, ()))), ([], (((id, term, voted, role, log, commit, votes, mtch, PUnit.unit), ()), ()))) = _ from this]
    simp only [Option.bind_some, List.nil_append]
  · simp only [hr, ne_eq, not_true_eq_false, not_false_eq_true, eq_self, decide_true, decide_false, cond_true, cond_false, Option.bind_some, Bool.not_true, Bool.not_false, sumE, Bool.true_and, Bool.and_true, Bool.false_and, Bool.and_false, beq_self_eq_true, bne_self_eq_false, if_false]

end Go.Proofs.Ytfbikpbejkgegaa

namespace Go.Proofs.Ytfbikpbejkgegaa
open Go Go.Abs Go.Raft
theorem loop_up {A D : Type} {f : A → Option (A ⊕ D)} (st : Nat → A) (d : D) (N : Nat) (h1 : ∀ i, i < N → f (st i) = some (.inl (st (i + 1)))) (h2 : f (st N) = some (.inr d)) : ∀ (k i : Nat), i + k = N → loopT f (st i) = some d := by
  intro k
  induction k with
  | zero => intro i h; rw [show i = N by omega]; exact loopT_inr h2
  | succ k ih => intro i h; rw [loopT_inl (h1 i (by omega))]; exact ih (i + 1) (by omega)

end Go.Proofs.Ytfbikpbejkgegaa

namespace Go.Proofs.Ytfbikpbejkgegaa
open Go Go.Abs Go.Raft
theorem take_at {A : Type} {l : List A} {i : Nat} {e : A} (h : l[i]? = some e) : l.take (i + 1) = l.take i ++ [e] := by
  rw [List.take_add_one, h]; rfl

theorem m50_eq (r : RT) (hl : r.log.length ≤ 4294967295) : m50 ((r, ()), ()) = some ((), (committed r, ())) := by
  obtain ⟨id, term, voted, role, log, commit, votes, mtch, ⟨⟩⟩ := r
  simp only [Rep.id, Rep.term, Rep.voted, Rep.role, Rep.log, Rep.commit, Rep.votes, Rep.mtch, rp] at hl
  unfold m50 committed
  simp only [Rep.id, Rep.term, Rep.voted, Rep.role, Rep.log, Rep.commit, Rep.votes, Rep.mtch, rp]
  have hN : (log.take commit.toNat) = log.take (min commit.toNat log.length) := by
    rcases Nat.le_total commit.toNat log.length with h | h
    · rw [Nat.min_eq_left h]
    · rw [Nat.min_eq_right h, List.take_of_length_le h, List.take_of_length_le (Nat.le_refl _)]
  rw [hN]
  generalize hNN : min commit.toNat log.length = N
  have hx : (if (if (log.length : Int) < commit then (log.length : Int) else commit) > 0 then (if (log.length : Int) < commit then (log.length : Int) else commit) else 0) = (N : Int) := by
    split <;> split <;> omega
  have b1 : (0 : Int) ≤ (N : Int) := by omega
  have b2 : 0 ≤ N ∧ N ≤ log.length := by omega
  simp only [hx, b1, Int.toNat_natCast, b2, and_self, decide_true, decide_false, cond_true, cond_false, Option.bind_some, Bool.not_true, Bool.not_false, sumE, Bool.true_and, Bool.and_true, Bool.false_and, Bool.and_false, beq_self_eq_true, bne_self_eq_false]
  have hlen : (log.take N).length = N := by simp; omega
  rw [hlen]
  rw [show loopT l50_0_3 ((0, (log.take N, ((N : Int), ()))), ([], ())) = some ((), ((log.take N).map (·.2.1), ())) from loop_up (fun i => (((i : Int), log.take N, (N : Int), ()), (((log.take N).take i).map (·.2.1), ()))) ((), ((log.take N).map (·.2.1), ())) N (fun i hi => by
      obtain ⟨e, he⟩ := getD_some (l := log.take N) (i := i) (by omega)
      have h2 : (i : Int) < (N : Int) := by omega
      have h3 : ∀ x : OpT, (((log.take N).take i).map (·.2.1)).length + [x].length ≤ 4294967296 := by intro x; simp; omega
      rw [take_at he, List.map_append]
      simp only [l50_0_3, rowAt_G, rowG_nat he, h2, h3, decide_true, decide_false, cond_true, cond_false, Option.bind_some, Bool.not_true, Bool.not_false, sumE, Bool.true_and, Bool.and_true, Bool.false_and, Bool.and_false, beq_self_eq_true, bne_self_eq_false, w64_nat (show i ≤ 4294967296 by omega), List.map_cons, List.map_nil]) (by
      have h1 : ¬ (N : Int) < (N : Int) := by omega
      simp only [l50_0_3, h1, decide_true, decide_false, cond_true, cond_false, Option.bind_some, Bool.not_true, Bool.not_false, sumE, Bool.true_and, Bool.and_true, Bool.false_and, Bool.and_false, beq_self_eq_true, bne_self_eq_false]
      rw [List.take_take, Nat.min_self]) N 0 (by omega)]
  simp only [decide_true, decide_false, cond_true, cond_false, Option.bind_some, Bool.not_true, Bool.not_false, sumE, Bool.true_and, Bool.and_true, Bool.false_and, Bool.and_false, beq_self_eq_true, bne_self_eq_false]

/-! ### The joined log -/
theorem agree_cons (x y : Ent OpT) (l e : Log OpT) : agree (x :: l) (y :: e) = if x.1 = y.1 then agree l e + 1 else 0 := rfl

theorem agree_nil (e : Log OpT) : agree [] e = 0 := by cases e <;> rfl

theorem agree_nil' (l : Log OpT) : agree l [] = 0 := by cases l <;> rfl

/-- From which place on, if the first ones agree. -/
def from_ (l : Log OpT) (p : Nat) (e : Log OpT) (i : Nat) : Nat := i + agree (l.drop (p + i)) (e.drop i)

theorem from_step {l e : Log OpT} {p i : Nat} {x y : Ent OpT} (hx : l[p + i]? = some x) (hy : e[i]? = some y) : from_ l p e i = if x.1 = y.1 then from_ l p e (i + 1) else i := by
  unfold from_
  obtain ⟨h1, h1'⟩ := List.getElem?_eq_some_iff.1 hx
  obtain ⟨h2, h2'⟩ := List.getElem?_eq_some_iff.1 hy
  rw [List.drop_eq_getElem_cons h1, List.drop_eq_getElem_cons h2, agree_cons, h1', h2']
  split
  · rw [show p + i + 1 = p + (i + 1) by omega]; omega
  · omega

theorem from_out {l e : Log OpT} {p i : Nat} (h : l.length ≤ p + i) : from_ l p e i = i := by
  unfold from_; rw [List.drop_eq_nil_of_le h, agree_nil]; omega

theorem from_end {l e : Log OpT} {p i : Nat} (h : e.length ≤ i) : from_ l p e i = i := by
  unfold from_; rw [List.drop_eq_nil_of_le h, agree_nil']; omega

theorem joined_from (l ents : Log OpT) (p : Nat) : joined l p ents = if from_ l p ents 0 = ents.length then (l, l.length) else (l.take (p + from_ l p ents 0) ++ ents.drop (from_ l p ents 0), p + from_ l p ents 0) := by
  unfold joined from_
  simp only [Nat.add_zero, List.drop_zero, Nat.zero_add]

theorem loop93 (r : RT) (m : MT) (p : Nat) (hpm : m.prev = (p : Int)) (hl : r.log.length ≤ 1000000000) (he : m.ents.length ≤ 1000000000) : ∀ (k i : Nat), i + k = m.ents.length → p + i ≤ r.log.length →
    loopT l93_0_2 (((i : Int), ()), ((r, ()), ((m, ()), ()))) = some ((((from_ r.log p m.ents i : Nat) : Int), ()), ((r, ()), ((m, ()), ()))) := by
  obtain ⟨kind, frm, to, mterm, prev, pterm, mcommit, ents, ok, ⟨⟩⟩ := m
  simp only [Msg.kind, Msg.frm, Msg.to, Msg.term, Msg.prev, Msg.pterm, Msg.commit, Msg.ents, Msg.ok, mg] at hpm he ⊢
  subst hpm
  intro k
  induction k with
  | zero =>
    intro i h hp
    rw [from_end (by omega)]
    refine loopT_inr ?_
    have : ¬ (i : Int) < (ents.length : Int) := by omega
    simp only [l93_0_2, this, decide_true, decide_false, cond_true, cond_false, Option.bind_some, Bool.not_true, Bool.not_false, sumE, Bool.true_and, Bool.and_true, Bool.false_and, Bool.and_false, beq_self_eq_true, bne_self_eq_false]
  | succ k ih =>
    intro i h hp
    have hlt : (i : Int) < (ents.length : Int) := by omega
    have hw : w64 ((p : Int) + (i : Int)) = ((p + i : Nat) : Int) := by rw [w64_id (by omega) (by omega)]; omega
    obtain ⟨y, hy⟩ := getD_some (l := ents) (i := i) (by omega)
    by_cases hin : p + i < r.log.length
    · obtain ⟨x, hx⟩ := getD_some (l := r.log) (i := p + i) hin
      have hge : ((p + i : Nat) : Int) < (r.2.2.2.2.1.length : Int) := by show ((p + i : Nat) : Int) < (r.log.length : Int); omega
      rw [from_step hx hy]
      by_cases hxy : x.1 = y.1
      · rw [if_pos hxy]
        rw [show loopT l93_0_2 (((i : Int), ()), ((r, ()), (((kind, frm, to, mterm, (p : Int), pterm, mcommit, ents, ok, PUnit.unit), ()), ()))) = loopT l93_0_2 ((((i + 1 : Nat) : Int), ()), ((r, ()), (((kind, frm, to, mterm, (p : Int), pterm, mcommit, ents, ok, PUnit.unit), ()), ()))) from loopT_inl (by
          simp only [l93_0_2, hw, hlt, hge, rowAt_G, rowG_nat hx, rowG_nat hy, beq_decide, decide_eq_true hxy, decide_true, decide_false, cond_true, cond_false, Option.bind_some, Bool.not_true, Bool.not_false, sumE, Bool.true_and, Bool.and_true, Bool.false_and, Bool.and_false, beq_self_eq_true, bne_self_eq_false, w64_nat (show i ≤ 4294967296 by omega)])]
        exact ih (i + 1) (by omega) (by omega)
      · rw [if_neg hxy]
        refine loopT_inr ?_
        simp only [l93_0_2, hw, hlt, hge, rowAt_G, rowG_nat hx, rowG_nat hy, beq_decide, decide_eq_false hxy, decide_true, decide_false, cond_true, cond_false, Option.bind_some, Bool.not_true, Bool.not_false, sumE, Bool.true_and, Bool.and_true, Bool.false_and, Bool.and_false, beq_self_eq_true, bne_self_eq_false]
    · have hge : ¬ ((p + i : Nat) : Int) < (r.2.2.2.2.1.length : Int) := by show ¬ ((p + i : Nat) : Int) < (r.log.length : Int); omega
      rw [from_out (by omega)]
      refine loopT_inr ?_
      simp only [l93_0_2, hw, hlt, hge, decide_true, decide_false, cond_true, cond_false, Option.bind_some, Bool.not_true, Bool.not_false, sumE, Bool.true_and, Bool.and_true, Bool.false_and, Bool.and_false, beq_self_eq_true, bne_self_eq_false]

theorem loop93b (r : RT) (m : MT) (at_ : Int) (log : Log OpT) (hl : log.length ≤ 4294967295) : ∀ (k i : Nat) (last : Int), i + k = log.length →
    loopT l93_0_10 (((i : Int), last, log, log, at_, (log.length : Int), ()), ((m, ()), ((r, ()), ()))) = some (if srt m.term last (log.drop i) then .inr ((log, at_, ()), ((r, ()), ())) else .inl ((false, ()), ([], ()))) := by
  obtain ⟨kind, frm, to, mterm, prev, pterm, mcommit, ents, ok, ⟨⟩⟩ := m
  simp only [Msg.kind, Msg.frm, Msg.to, Msg.term, Msg.prev, Msg.pterm, Msg.commit, Msg.ents, Msg.ok, mg]
  intro k
  induction k with
  | zero =>
    intro i last h
    rw [List.drop_eq_nil_of_le (by omega)]
    refine loopT_inr ?_
    have : ¬ (i : Int) < (log.length : Int) := by omega
    simp only [l93_0_10, this, decide_true, decide_false, cond_true, cond_false, Option.bind_some, Bool.not_true, Bool.not_false, sumE, Bool.true_and, Bool.and_true, Bool.false_and, Bool.and_false, beq_self_eq_true, bne_self_eq_false, srt, if_true]
  | succ k ih =>
    intro i last h
    obtain ⟨e, he, hd⟩ := drop_at (l := log) (i := i) (by omega)
    have hlt : (i : Int) < (log.length : Int) := by omega
    rw [hd, srt]
    by_cases h1 : last ≤ e.1
    · by_cases h2 : e.1 ≤ mterm
      · rw [show loopT l93_0_10 (((i : Int), last, log, log, at_, (log.length : Int), ()), (((kind, frm, to, mterm, prev, pterm, mcommit, ents, ok, PUnit.unit), ()), ((r, ()), ()))) = loopT l93_0_10 ((((i + 1 : Nat) : Int), e.1, log, log, at_, (log.length : Int), ()), (((kind, frm, to, mterm, prev, pterm, mcommit, ents, ok, PUnit.unit), ()), ((r, ()), ()))) from loopT_inl (by
          have h1' : ¬ e.1 < last := by omega
          have h2' : ¬ e.1 > mterm := by omega
          simp only [l93_0_10, rowAt_G, rowG_nat he, hlt, h1', h2', w64_nat (show i ≤ 4294967296 by omega), decide_true, decide_false, cond_true, cond_false, Option.bind_some, Bool.not_true, Bool.not_false, sumE, Bool.true_and, Bool.and_true, Bool.false_and, Bool.and_false, beq_self_eq_true, bne_self_eq_false])]
        rw [ih (i + 1) e.1 (by omega)]
        simp only [h1, h2, decide_true, decide_false, cond_true, cond_false, Option.bind_some, Bool.not_true, Bool.not_false, sumE, Bool.true_and, Bool.and_true, Bool.false_and, Bool.and_false, beq_self_eq_true, bne_self_eq_false]
      · rw [show (decide (last ≤ e.1) && decide (e.1 ≤ mterm) && srt mterm e.1 (log.drop (i + 1))) = false by simp [h2]]
        refine loopT_inr ?_
        have h1' : ¬ e.1 < last := by omega
        have h2' : e.1 > mterm := by omega
        simp only [l93_0_10, rowAt_G, rowG_nat he, hlt, h1', h2', decide_true, decide_false, cond_true, cond_false, Option.bind_some, Bool.not_true, Bool.not_false, sumE, Bool.true_and, Bool.and_true, Bool.false_and, Bool.and_false, beq_self_eq_true, bne_self_eq_false]
        rfl
    · rw [show (decide (last ≤ e.1) && decide (e.1 ≤ mterm) && srt mterm e.1 (log.drop (i + 1))) = false by simp [h1]]
      refine loopT_inr ?_
      have h1' : e.1 < last := by omega
      simp only [l93_0_10, rowAt_G, rowG_nat he, hlt, h1', decide_true, decide_false, cond_true, cond_false, Option.bind_some, Bool.not_true, Bool.not_false, sumE, Bool.true_and, Bool.and_true, Bool.false_and, Bool.and_false, beq_self_eq_true, bne_self_eq_false]
      rfl

/-- What the program's joined returns. -/
def joinedE (r : RT) (m : MT) : Log OpT × Bool :=
  let j := joined r.log m.prev.toNat m.ents
  if from_ r.log m.prev.toNat m.ents 0 = m.ents.length then (j.1, true)
  else if srt m.term 1 j.1 = true then (j.1, decide ((j.2 : Int) ≥ r.commit) && decide (j.1.length ≤ 256)) else ([], false)

theorem bind_of {A B : Type} {o : Option A} {f : A → Option B} {y : Option B} (x : A) (h : o = some x) (h2 : f x = y) : o.bind f = y := by rw [h]; exact h2

theorem m93_eq (r : RT) (m : MT) (hl : r.log.length ≤ 1000000000) (he : m.ents.length ≤ 1000000000) (h0 : 0 ≤ m.prev) (hp : m.prev ≤ r.log.length) :
    m93 ((r, m, ()), ()) = some (((joinedE r m).1, ((joinedE r m).2, ())), ()) := by
  unfold m93 joinedE
  have hpm : m.prev = ((m.prev.toNat : Nat) : Int) := by omega
  rw [joined_from]
  generalize m.prev.toNat = p at hpm
  have hl1 := loop93 r m p hpm hl he m.ents.length 0 (by omega) (by omega)
  have hl2 := fun at_ log h => loop93b r m at_ log h log.length 0 1 (by omega)
  rw [show loopT l93_0_2 ((0, ()), ((r, ()), ((m, ()), ()))) = _ from hl1]
  obtain ⟨kind, frm, to, mterm, prev, pterm, mcommit, ents, ok, ⟨⟩⟩ := m
  obtain ⟨id, term, voted, role, log, commit, votes, mtch, ⟨⟩⟩ := r
  simp only [Msg.kind, Msg.frm, Msg.to, Msg.term, Msg.prev, Msg.pterm, Msg.commit, Msg.ents, Msg.ok, mg, Rep.id, Rep.term, Rep.voted, Rep.role, Rep.log, Rep.commit, Rep.votes, Rep.mtch, rp] at hpm he hl hp hl2 ⊢
  subst hpm
  have hfl : from_ log p ents 0 ≤ ents.length ∧ p + from_ log p ents 0 ≤ log.length := by
    have := agree_le (log.drop p) ents
    simp only [List.length_drop] at this
    unfold from_
    simp only [Nat.add_zero, List.drop_zero, Nat.zero_add]
    omega
  generalize from_ log p ents 0 = s at hfl
  simp only [Option.bind_some, beq_decide]
  by_cases hs : s = ents.length
  · have : (s : Int) = (ents.length : Int) := by omega
    simp only [decide_eq_true this, if_pos hs, decide_true, decide_false, cond_true, cond_false, Option.bind_some, Bool.not_true, Bool.not_false, sumE, Bool.true_and, Bool.and_true, Bool.false_and, Bool.and_false, beq_self_eq_true, bne_self_eq_false]
  · have hs' : ¬ (s : Int) = (ents.length : Int) := by omega
    have hw : w64 ((p : Int) + (s : Int)) = ((p + s : Nat) : Int) := by rw [w64_id (by omega) (by omega)]; omega
    have b1 : (0 : Int) ≤ ((p + s : Nat) : Int) := by omega
    have b2 : 0 ≤ p + s ∧ p + s = p + s ∧ p + s ≤ log.length := by omega
    have b3 : (0 : Int) ≤ (s : Int) := by omega
    have b4 : s ≤ ents.length ∧ ents.length ≤ ents.length := by omega
    have b6 : (ents.drop s).take (ents.length - s) = ents.drop s := List.take_of_length_le (by simp)
    have b5 : 0 < (ents.drop s).length := by simp; omega
    have b7 : (log.take (p + s)).length + (ents.drop s).length ≤ 4294967296 := by simp; omega
    have b8 : (log.take (p + s) ++ ents.drop s).length ≤ 4294967295 := by simp; omega
    have hin : from_ log p ents 0 = from_ log p ents 0 := rfl
    simp only [decide_eq_false hs', if_neg hs, decide_true, decide_false, cond_true, cond_false, Option.bind_some, Bool.not_true, Bool.not_false, sumE, Bool.true_and, Bool.and_true, Bool.false_and, Bool.and_false, beq_self_eq_true, bne_self_eq_false, hw, b1, b3, Int.toNat_natCast, b2, b4, b6, and_self]
    refine bind_of (((log.take (p + s) ++ ents.drop s), (((p + s : Nat) : Int), ())), (((kind, frm, to, mterm, (p : Int), pterm, mcommit, ents, ok, ()), ()), (((id, term, voted, role, log, commit, votes, mtch, ()), ()), ()))) ?_ ?_
    · have b7' : decide ((log.take (p + s)).length + (ents.drop s).length ≤ 4294967296) = true := decide_eq_true b7
      simp only [b7', decide_true, decide_false, cond_true, cond_false, Option.bind_some, Bool.not_true, Bool.not_false, sumE, Bool.true_and, Bool.and_true, Bool.false_and, Bool.and_false, beq_self_eq_true, bne_self_eq_false]
      generalize log.take (p + s) = u
      generalize ents.drop s = v
      cases u with
      | nil => rfl
      | cons a u => cases v with
        | nil => simp only [List.isEmpty_cons, List.isEmpty_nil, List.append_nil, decide_true, decide_false, cond_true, cond_false, Option.bind_some, Bool.not_true, Bool.not_false, sumE, Bool.true_and, Bool.and_true, Bool.false_and, Bool.and_false, beq_self_eq_true, bne_self_eq_false]
        | cons b v => rfl
    simp only []
    rw [show loopT l93_0_10 ((0, (1, ((log.take (p + s) ++ ents.drop s), ((log.take (p + s) ++ ents.drop s), (((p + s : Nat) : Int), (((log.take (p + s) ++ ents.drop s).length : Int), ())))))), (((kind, frm, to, mterm, (p : Int), pterm, mcommit, ents, ok, ()), ()), (((id, term, voted, role, log, commit, votes, mtch, ()), ()), ()))) = _ from hl2 _ _ b8]
    rw [List.drop_zero]
    cases hsr : srt mterm 1 (log.take (p + s) ++ ents.drop s)
    · simp only [Bool.false_eq_true, if_false, decide_true, decide_false, cond_true, cond_false, Option.bind_some, Bool.not_true, Bool.not_false, sumE, Bool.true_and, Bool.and_true, Bool.false_and, Bool.and_false, beq_self_eq_true, bne_self_eq_false]
    · simp only [if_true, decide_true, decide_false, cond_true, cond_false, Option.bind_some, Bool.not_true, Bool.not_false, sumE, Bool.true_and, Bool.and_true, Bool.false_and, Bool.and_false, beq_self_eq_true, bne_self_eq_false]
      by_cases hc : ((p + s : Nat) : Int) ≥ commit
      · simp only [decide_eq_true hc, decide_true, decide_false, cond_true, cond_false, Option.bind_some, Bool.not_true, Bool.not_false, sumE, Bool.true_and, Bool.and_true, Bool.false_and, Bool.and_false, beq_self_eq_true, bne_self_eq_false]
        by_cases h256 : (log.take (p + s) ++ ents.drop s).length ≤ 256
        · have : ((log.take (p + s) ++ ents.drop s).length : Int) ≤ 256 := by omega
          simp only [decide_eq_true this, decide_eq_true h256]
        · have : ¬ ((log.take (p + s) ++ ents.drop s).length : Int) ≤ 256 := by omega
          simp only [decide_eq_false this, decide_eq_false h256]
      · simp only [decide_eq_false hc, decide_true, decide_false, cond_true, cond_false, Option.bind_some, Bool.not_true, Bool.not_false, sumE, Bool.true_and, Bool.and_true, Bool.false_and, Bool.and_false, beq_self_eq_true, bne_self_eq_false]

theorem m92_eq (r : RT) (m : MT) (hl : r.log.length ≤ 1000000000) (h0 : 0 ≤ m.prev) : m92 ((r, m, ()), ()) = some ((fits r m, ()), ()) := by
  obtain ⟨kind, frm, to, mterm, prev, pterm, mcommit, ents, ok, ⟨⟩⟩ := m
  obtain ⟨id, term, voted, role, log, commit, votes, mtch, ⟨⟩⟩ := r
  simp only [Msg.kind, Msg.frm, Msg.to, Msg.term, Msg.prev, Msg.pterm, Msg.commit, Msg.ents, Msg.ok, mg, Rep.id, Rep.term, Rep.voted, Rep.role, Rep.log, Rep.commit, Rep.votes, Rep.mtch, rp] at hl h0
  unfold m92 fits
  simp only [Msg.kind, Msg.frm, Msg.to, Msg.term, Msg.prev, Msg.pterm, Msg.commit, Msg.ents, Msg.ok, mg, Rep.id, Rep.term, Rep.voted, Rep.role, Rep.log, Rep.commit, Rep.votes, Rep.mtch, rp, beq_decide, bne_decide]
  rcases Bool.eq_false_or_eq_true (decide (mterm = term)) with h1 | h1 <;> simp only [h1, decide_true, decide_false, cond_true, cond_false, Option.bind_some, Bool.not_true, Bool.not_false, sumE, Bool.true_and, Bool.and_true, Bool.false_and, Bool.and_false, beq_self_eq_true, bne_self_eq_false]
  rcases Bool.eq_false_or_eq_true (decide (role ≠ 2)) with h2 | h2 <;> simp only [h2, decide_true, decide_false, cond_true, cond_false, Option.bind_some, Bool.not_true, Bool.not_false, sumE, Bool.true_and, Bool.and_true, Bool.false_and, Bool.and_false, beq_self_eq_true, bne_self_eq_false]
  by_cases h3 : prev ≤ (log.length : Int)
  · simp only [decide_eq_true h3, decide_true, decide_false, cond_true, cond_false, Option.bind_some, Bool.not_true, Bool.not_false, sumE, Bool.true_and, Bool.and_true, Bool.false_and, Bool.and_false, beq_self_eq_true, bne_self_eq_false]
    by_cases h4 : prev = 0
    · simp only [decide_eq_true h4, decide_true, decide_false, cond_true, cond_false, Option.bind_some, Bool.not_true, Bool.not_false, sumE, Bool.true_and, Bool.and_true, Bool.false_and, Bool.and_false, beq_self_eq_true, bne_self_eq_false, Bool.true_or]
    · have hw : w64 (prev - 1) = prev - 1 := w64_id (by omega) (by omega)
      obtain ⟨x, hx⟩ := getD_some (l := log) (i := (prev - 1).toNat) (by omega)
      simp only [decide_eq_false h4, decide_true, decide_false, cond_true, cond_false, Option.bind_some, Bool.not_true, Bool.not_false, sumE, Bool.true_and, Bool.and_true, Bool.false_and, Bool.and_false, beq_self_eq_true, bne_self_eq_false, Bool.false_or, hw, rowAt_G, rowG_int (show 0 ≤ prev - 1 by omega) hx, ptermAt, if_pos (show prev > 0 by omega), hx, Option.map_some, Option.getD_some]
  · simp only [decide_eq_false h3, decide_true, decide_false, cond_true, cond_false, Option.bind_some, Bool.not_true, Bool.not_false, sumE, Bool.true_and, Bool.and_true, Bool.false_and, Bool.and_false, beq_self_eq_true, bne_self_eq_false]

end Go.Proofs.Ytfbikpbejkgegaa

namespace Go.Proofs.Ytfbikpbejkgegaa
open Go Go.Abs Go.Raft
abbrev z5 : (Int × Int × Int × Int × Int × Unit) × Unit := ((0, 0, 0, 0, 0, ()), ())

abbrev z8 : (Int × Int × Int × Int × Int × Int × Int × Bool × Unit) × Unit := ((0, 0, 0, 0, 0, 0, 0, false, ()), ())

theorem shrt_back {r : RT} (t : Int) (hs : Shrt r) : Shrt (back r t) := by
  have := shrt_follow t hs
  unfold back
  simp only
  split
  · exact ⟨this.1, Nat.zero_le _, this.2.2⟩
  · exact this

theorem back_id (r : RT) (t : Int) : (back r t).id = r.id := by
  unfold back fol; simp only; split <;> split <;> rfl

theorem maxmin (c mc e : Int) : (if (if e < mc then e else mc) > c then (if e < mc then e else mc) else c) = max c (min mc e) := by
  split <;> split <;> omega

theorem decide_neg (x : Int) : decide (x < 0) = !decide (0 ≤ x) := by
  by_cases h : 0 ≤ x
  · rw [decide_eq_true h, decide_eq_false (by omega)]; rfl
  · rw [decide_eq_false h, decide_eq_true (by omega)]; rfl

theorem m47_eq (n : Int) (r : RT) (m : MT) (hs : Shrt r) (hm : m.ents.length ≤ 1000000) : m47 ((n, r, m, ()), ()) = some (((accept n r m).2.2, ()), (((accept n r m).1, ()), ((nm (accept n r m).2.1, ()), ()))) := by
  unfold m47
  simp only [m78_eq n r m 3 hs, m76_eq r hs, Option.bind_some]
  unfold accept acceptable
  cases ho : toOK n r m 3
  · simp only [decide_true, decide_false, cond_true, cond_false, Option.bind_some, Bool.not_true, Bool.not_false, sumE, Bool.true_and, Bool.and_true, Bool.false_and, Bool.and_false, beq_self_eq_true, bne_self_eq_false, Bool.false_eq_true, if_false]; rfl
  obtain ⟨C, _, _, _, _, _, mt1, mt2⟩ := toOK_iff.1 ho
  have hbc := chk_back (t := m.term) C mt2
  simp only [decide_true, decide_false, cond_true, cond_false, Option.bind_some, Bool.not_true, Bool.not_false, sumE, Bool.true_and, Bool.and_true, Bool.false_and, Bool.and_false, beq_self_eq_true, bne_self_eq_false, decide_neg]
  have e79 := m79_eq r m.term mt2 (by have := C.t0; omega) (by have := C.t1; omega)
  have hbs := shrt_back m.term hs
  have hbid := back_id r m.term
  have hbe : back r m.term = back r m.term := rfl
  generalize hbx : back r m.term = x at hbe hbs hbid hbc
  obtain ⟨kind, frm, to, mterm, prev, pterm, mcommit, ents, ok, ⟨⟩⟩ := m
  simp only [Msg.kind, Msg.frm, Msg.to, Msg.term, Msg.prev, Msg.pterm, Msg.commit, Msg.ents, Msg.ok, mg] at hm hbx e79 mt1 mt2 ⊢
  rcases Bool.eq_false_or_eq_true (decide (0 ≤ prev)) with h1 | h1 <;> simp only [h1, decide_true, decide_false, cond_true, cond_false, Option.bind_some, Bool.not_true, Bool.not_false, sumE, Bool.true_and, Bool.and_true, Bool.false_and, Bool.and_false, beq_self_eq_true, bne_self_eq_false]
  rotate_left
  · simp only [Bool.false_eq_true, if_false]; rfl
  rcases Bool.eq_false_or_eq_true (decide (0 ≤ pterm)) with h2 | h2 <;> simp only [h2, decide_true, decide_false, cond_true, cond_false, Option.bind_some, Bool.not_true, Bool.not_false, sumE, Bool.true_and, Bool.and_true, Bool.false_and, Bool.and_false, beq_self_eq_true, bne_self_eq_false]
  rotate_left
  · simp only [Bool.false_eq_true, if_false]; rfl
  rcases Bool.eq_false_or_eq_true (decide (0 ≤ mcommit)) with h3 | h3 <;> simp only [h3, decide_true, decide_false, cond_true, cond_false, Option.bind_some, Bool.not_true, Bool.not_false, sumE, Bool.true_and, Bool.and_true, Bool.false_and, Bool.and_false, beq_self_eq_true, bne_self_eq_false]
  rotate_left
  · simp only [Bool.false_eq_true, if_false]; rfl
  simp only [if_true, m76_eq r hs, Option.bind_some]
  rw [show m79 (((r.id, r.term, r.voted, r.role, r.log, r.commit, r.votes, r.mtch, ()), mterm, ()), ()) = some ((), ((fol r mterm, ()), ())) from e79]
  simp only [Option.bind_some]
  have hp0 := of_decide_eq_true h1
  clear h1 h2 h3 ho
  refine bind_of ((), (z5, (z8, ((x, ()), ((cpR r).2.1, (((kind, frm, to, mterm, prev, pterm, mcommit, ents, ok, ()), ()), (cpR r).2.2)))))) ?_ ?_
  · rw [← hbx]
    unfold back
    generalize fol r mterm = y
    obtain ⟨id, term, voted, role, log, commit, votes, mtch, ⟨⟩⟩ := y
    simp only [Rep.id, Rep.term, Rep.voted, Rep.role, Rep.log, Rep.commit, Rep.votes, Rep.mtch, rp, beq_decide]
    by_cases c1 : role = 1
    · by_cases c2 : term = mterm
      · simp only [c1, c2, decide_true, decide_false, cond_true, cond_false, Option.bind_some, Bool.not_true, Bool.not_false, sumE, Bool.true_and, Bool.and_true, Bool.false_and, Bool.and_false, beq_self_eq_true, bne_self_eq_false, ne_eq, not_true_eq_false, not_false_eq_true, eq_self, and_self, if_true]
      · simp only [c1, c2, decide_true, decide_false, cond_true, cond_false, Option.bind_some, Bool.not_true, Bool.not_false, sumE, Bool.true_and, Bool.and_true, Bool.false_and, Bool.and_false, beq_self_eq_true, bne_self_eq_false, ne_eq, not_true_eq_false, not_false_eq_true, eq_self, and_false, if_false]
    · simp only [c1, decide_true, decide_false, cond_true, cond_false, Option.bind_some, Bool.not_true, Bool.not_false, sumE, Bool.true_and, Bool.and_true, Bool.false_and, Bool.and_false, beq_self_eq_true, bne_self_eq_false, ne_eq, not_true_eq_false, not_false_eq_true, eq_self, false_and, if_false]
  have hll := hbc.ll
  have hso := hbc.so
  have hcc := hbc.c1
  have e92 := m92_eq x (kind, frm, to, mterm, prev, pterm, mcommit, ents, ok, ()) (by omega) hp0
  simp only [e92, Option.bind_some]
  cases hff : fits x (kind, frm, to, mterm, prev, pterm, mcommit, ents, ok, ())
  · simp only [decide_true, decide_false, cond_true, cond_false, Option.bind_some, Bool.not_true, Bool.not_false, sumE, Bool.true_and, Bool.and_true, Bool.false_and, Bool.and_false, beq_self_eq_true, bne_self_eq_false, Bool.false_eq_true, if_false, ← hbid, Rep.id, Rep.term, Rep.voted, Rep.role, Rep.log, Rep.commit, Rep.votes, Rep.mtch, rp]
  have hpl : prev ≤ (x.log.length : Int) ∧ mterm = x.term := by
    simp only [fits, Bool.and_eq_true, decide_eq_true_eq, Msg.kind, Msg.frm, Msg.to, Msg.term, Msg.prev, Msg.pterm, Msg.commit, Msg.ents, Msg.ok, mg, Rep.id, Rep.term, Rep.voted, Rep.role, Rep.log, Rep.commit, Rep.votes, Rep.mtch, rp] at hff
    exact ⟨hff.1.2, hff.1.1.1⟩
  have e93 := m93_eq x (kind, frm, to, mterm, prev, pterm, mcommit, ents, ok, ()) (by omega) (show ents.length ≤ 1000000000 by omega) hp0 hpl.1
  simp only [decide_true, decide_false, cond_true, cond_false, Option.bind_some, Bool.not_true, Bool.not_false, sumE, Bool.true_and, Bool.and_true, Bool.false_and, Bool.and_false, beq_self_eq_true, bne_self_eq_false, if_true, e93]
  have hje := joined_end (e := ents) (show prev.toNat ≤ x.log.length by omega)
  have hw : w64 (prev + (ents.length : Int)) = prev + (ents.length : Int) := w64_id (by omega) (by omega)
  unfold joinedE
  simp only [Msg.kind, Msg.frm, Msg.to, Msg.term, Msg.prev, Msg.pterm, Msg.commit, Msg.ents, Msg.ok, mg]
  have hjf := joined_from x.log ents prev.toNat
  rw [hjf]
  by_cases hall : from_ x.log prev.toNat ents 0 = ents.length
  · have h1 : logFits x.log mterm = true := by
      simp only [logFits, Bool.and_eq_true, decide_eq_true_eq]
      exact ⟨by rw [hpl.2]; exact hso, hll⟩
    simp only [if_pos hall, h1, decide_eq_true hcc, decide_true, decide_false, cond_true, cond_false, Option.bind_some, Bool.not_true, Bool.not_false, sumE, Bool.true_and, Bool.and_true, Bool.false_and, Bool.and_false, beq_self_eq_true, bne_self_eq_false, if_true, hw, ← hbid]
    simp only [maxmin, Rep.id, Rep.term, Rep.voted, Rep.role, Rep.log, Rep.commit, Rep.votes, Rep.mtch, rp]
  · simp only [if_neg hall]
    unfold logFits
    generalize hjl : (x.log.take (prev.toNat + from_ x.log prev.toNat ents 0) ++ ents.drop (from_ x.log prev.toNat ents 0)) = jl
    generalize prev.toNat + from_ x.log prev.toNat ents 0 = jk
    cases hsr : srt mterm 1 jl
    · simp only [Bool.false_eq_true, if_false, decide_true, decide_false, cond_true, cond_false, Option.bind_some, Bool.not_true, Bool.not_false, sumE, Bool.true_and, Bool.and_true, Bool.false_and, Bool.and_false, beq_self_eq_true, bne_self_eq_false]; rfl
    · simp only [if_true, decide_true, decide_false, cond_true, cond_false, Option.bind_some, Bool.not_true, Bool.not_false, sumE, Bool.true_and, Bool.and_true, Bool.false_and, Bool.and_false, beq_self_eq_true, bne_self_eq_false]
      rcases Bool.eq_false_or_eq_true (decide ((jk : Int) ≥ x.commit)) with a1 | a1
      · rcases Bool.eq_false_or_eq_true (decide (jl.length ≤ 256)) with a2 | a2
        · have a1' : decide (x.commit ≤ (jk : Int)) = true := a1
          simp only [a1, a1', a2, decide_true, decide_false, cond_true, cond_false, Option.bind_some, Bool.not_true, Bool.not_false, sumE, Bool.true_and, Bool.and_true, Bool.false_and, Bool.and_false, beq_self_eq_true, bne_self_eq_false, if_true, hw, ← hbid]
          simp only [maxmin, Rep.id, Rep.term, Rep.voted, Rep.role, Rep.log, Rep.commit, Rep.votes, Rep.mtch, rp]
        · simp only [a1, a2, decide_true, decide_false, cond_true, cond_false, Option.bind_some, Bool.not_true, Bool.not_false, sumE, Bool.true_and, Bool.and_true, Bool.false_and, Bool.and_false, beq_self_eq_true, bne_self_eq_false, Bool.false_eq_true, if_false]; rfl
      · have a1' : decide (x.commit ≤ (jk : Int)) = false := a1
        simp only [a1, a1', decide_true, decide_false, cond_true, cond_false, Option.bind_some, Bool.not_true, Bool.not_false, sumE, Bool.true_and, Bool.and_true, Bool.false_and, Bool.and_false, beq_self_eq_true, bne_self_eq_false, Bool.false_eq_true, if_false]; rfl

end Go.Proofs.Ytfbikpbejkgegaa

namespace Go.Proofs.Ytfbikpbejkgegaa
open Go Go.Abs Go.Raft
theorem have_cons (i x : Int) (l : List Int) : have_ (x :: l) i = (if x ≥ i then 1 else 0) + have_ l i := by
  unfold have_
  rw [List.countP_cons]
  by_cases h : x ≥ i <;> simp [h] <;> omega

theorem maxe (e p : Int) : (if p > e then p else e) = max e p := by split <;> omega

theorem loop44a (id term voted role commit : Int) (log : Log OpT) (votes : List Bool) (mtch : List Int) (n i : Int) (hl : mtch.length ≤ 4294967295) : ∀ (k j : Nat) (c : Int), j + k = mtch.length → 0 ≤ c → c ≤ j →
    loopT l44_0_14 (((j : Int), c, i, n, (mtch.length : Int), ()), (mtch, (((id, term, voted, role, commit, ()), ()), (z5, (log, (votes, ())))))) = some ((n, i, c + have_ (mtch.drop j) i, ()), (((id, term, voted, role, commit, ()), ()), (z5, (log, (votes, (mtch, ())))))) := by
  intro k
  induction k with
  | zero =>
    intro j c h _ _
    rw [List.drop_eq_nil_of_le (by omega)]
    refine loopT_inr ?_
    have : ¬ (j : Int) < (mtch.length : Int) := by omega
    simp only [l44_0_14, this, decide_true, decide_false, cond_true, cond_false, Option.bind_some, Bool.not_true, Bool.not_false, sumE, Bool.true_and, Bool.and_true, Bool.false_and, Bool.and_false, beq_self_eq_true, bne_self_eq_false]
    simp [have_]
  | succ k ih =>
    intro j c h c0 c1
    obtain ⟨e, he, hd⟩ := drop_at (l := mtch) (i := j) (by omega)
    have hlt : (j : Int) < (mtch.length : Int) := by omega
    have hb : (0 : Int) ≤ j ∧ (j : Int) < (mtch.length : Int) := by omega
    rw [hd, have_cons]
    have hc : w64 (c + 1) = c + 1 := w64_id (by omega) (by omega)
    by_cases hge : e ≥ i
    · rw [show loopT l44_0_14 (((j : Int), c, i, n, (mtch.length : Int), ()), (mtch, (((id, term, voted, role, commit, ()), ()), (z5, (log, (votes, ())))))) = loopT l44_0_14 ((((j + 1 : Nat) : Int), c + 1, i, n, (mtch.length : Int), ()), (mtch, (((id, term, voted, role, commit, ()), ()), (z5, (log, (votes, ())))))) from loopT_inl (by
        simp only [l44_0_14, hb, and_self, Int.toNat_natCast, he, hlt, hge, decide_true, decide_false, cond_true, cond_false, Option.bind_some, Bool.not_true, Bool.not_false, sumE, Bool.true_and, Bool.and_true, Bool.false_and, Bool.and_false, beq_self_eq_true, bne_self_eq_false, w64_nat (show j ≤ 4294967296 by omega), hc])]
      rw [ih (j + 1) (c + 1) (by omega) (by omega) (by omega), if_pos hge]
      rw [show c + 1 + have_ (mtch.drop (j + 1)) i = c + (1 + have_ (mtch.drop (j + 1)) i) by omega]
    · rw [show loopT l44_0_14 (((j : Int), c, i, n, (mtch.length : Int), ()), (mtch, (((id, term, voted, role, commit, ()), ()), (z5, (log, (votes, ())))))) = loopT l44_0_14 ((((j + 1 : Nat) : Int), c, i, n, (mtch.length : Int), ()), (mtch, (((id, term, voted, role, commit, ()), ()), (z5, (log, (votes, ())))))) from loopT_inl (by
        simp only [l44_0_14, hb, and_self, Int.toNat_natCast, he, hlt, hge, decide_true, decide_false, cond_true, cond_false, Option.bind_some, Bool.not_true, Bool.not_false, sumE, Bool.true_and, Bool.and_true, Bool.false_and, Bool.and_false, beq_self_eq_true, bne_self_eq_false, w64_nat (show j ≤ 4294967296 by omega)])]
      rw [ih (j + 1) c (by omega) (by omega) (by omega), if_neg hge]
      rw [Int.zero_add]

theorem loop44b (id term voted role : Int) (log : Log OpT) (votes v0 : List Bool) (mtch m0 : List Int) (n : Int) (hv : mtch.length ≤ 4294967295) (hl : log.length ≤ 4294967295) : ∀ (i : Nat) (commit : Int), 0 ≤ commit → i ≤ log.length →
    loopT l44_0_10 (((i : Int), n, ()), (((id, term, voted, role, commit, ()), ()), (z5, (log, (votes, (mtch, ())))))) = some ((), (z5, (((id, term, voted, role, newCommit n (id, term, voted, role, log, commit, v0, m0, ()) mtch i, ()), ()), (log, (votes, (mtch, ())))))) := by
  have stop : ∀ (i : Nat) (commit : Int), ¬ (i : Int) > commit → loopT l44_0_10 (((i : Int), n, ()), (((id, term, voted, role, commit, ()), ()), (z5, (log, (votes, (mtch, ())))))) = some ((), (z5, (((id, term, voted, role, commit, ()), ()), (log, (votes, (mtch, ())))))) := by
    intro i commit hgt
    refine loopT_inr ?_
    simp only [l44_0_10, decide_eq_false hgt, decide_true, decide_false, cond_true, cond_false, Option.bind_some, Bool.not_true, Bool.not_false, sumE, Bool.true_and, Bool.and_true, Bool.false_and, Bool.and_false, beq_self_eq_true, bne_self_eq_false]
  intro i
  induction i with
  | zero =>
    intro commit hc _
    rw [stop 0 commit (by omega)]
    simp only [newCommit, Rep.id, Rep.term, Rep.voted, Rep.role, Rep.log, Rep.commit, Rep.votes, Rep.mtch, rp]
  | succ i ih =>
    intro commit hc hi
    unfold newCommit
    simp only [Rep.id, Rep.term, Rep.voted, Rep.role, Rep.log, Rep.commit, Rep.votes, Rep.mtch, rp]
    by_cases hgt : ((i + 1 : Nat) : Int) > commit
    · have hin := loop44a id term voted role commit log votes mtch n ((i + 1 : Nat) : Int) hv mtch.length 0 0 (by omega) (by omega) (by omega)
      rw [List.drop_zero, Int.zero_add] at hin
      have hw : w64 (((i + 1 : Nat) : Int) - 1) = (i : Int) := by rw [w64_id (by omega) (by omega)]; omega
      obtain ⟨e, he⟩ := getD_some (l := log) (i := i) (by omega)
      have hb : (0 : Int) ≤ (i : Int) ∧ (i : Int) < (log.length : Int) := by omega
      have hin' : loopT l44_0_14 ((0, (0, (((i + 1 : Nat) : Int), (n, ((mtch.length : Int), ()))))), (mtch, (((id, term, voted, role, commit, ()), ()), (z5, (log, (votes, ())))))) = _ := hin
      simp only [if_pos hgt, he, Option.map_some, Option.getD_some]
      by_cases hq : have_ mtch ((i + 1 : Nat) : Int) ≥ quorum n
      · by_cases ht : e.1 = term
        · rw [if_pos ⟨hq, ht⟩]
          rw [show loopT l44_0_10 ((((i + 1 : Nat) : Int), n, ()), (((id, term, voted, role, commit, ()), ()), (z5, (log, (votes, (mtch, ())))))) = loopT l44_0_10 (((i : Int), n, ()), (((id, term, voted, role, ((i + 1 : Nat) : Int), ()), ()), (z5, (log, (votes, (mtch, ())))))) from loopT_inl (by
            simp only [l44_0_10, decide_eq_true hgt, decide_true, decide_false, cond_true, cond_false, Option.bind_some, Bool.not_true, Bool.not_false, sumE, Bool.true_and, Bool.and_true, Bool.false_and, Bool.and_false, beq_self_eq_true, bne_self_eq_false, hin', m28_eq, decide_eq_true hq, hw, hb, and_self, Int.toNat_natCast, he, beq_decide, decide_eq_true ht])]
          exact stop i _ (by omega)
        · rw [if_neg (fun h => ht h.2)]
          rw [show loopT l44_0_10 ((((i + 1 : Nat) : Int), n, ()), (((id, term, voted, role, commit, ()), ()), (z5, (log, (votes, (mtch, ())))))) = loopT l44_0_10 (((i : Int), n, ()), (((id, term, voted, role, commit, ()), ()), (z5, (log, (votes, (mtch, ())))))) from loopT_inl (by
            simp only [l44_0_10, decide_eq_true hgt, decide_true, decide_false, cond_true, cond_false, Option.bind_some, Bool.not_true, Bool.not_false, sumE, Bool.true_and, Bool.and_true, Bool.false_and, Bool.and_false, beq_self_eq_true, bne_self_eq_false, hin', m28_eq, decide_eq_true hq, hw, hb, and_self, Int.toNat_natCast, he, beq_decide, decide_eq_false ht])]
          exact ih commit hc (by omega)
      · rw [if_neg (fun h => hq h.1)]
        rw [show loopT l44_0_10 ((((i + 1 : Nat) : Int), n, ()), (((id, term, voted, role, commit, ()), ()), (z5, (log, (votes, (mtch, ())))))) = loopT l44_0_10 (((i : Int), n, ()), (((id, term, voted, role, commit, ()), ()), (z5, (log, (votes, (mtch, ())))))) from loopT_inl (by
          simp only [l44_0_10, decide_eq_true hgt, decide_true, decide_false, cond_true, cond_false, Option.bind_some, Bool.not_true, Bool.not_false, sumE, Bool.true_and, Bool.and_true, Bool.false_and, Bool.and_false, beq_self_eq_true, bne_self_eq_false, hin', m28_eq, decide_eq_false hq, hw])]
        exact ih commit hc (by omega)
    · rw [if_neg hgt]
      exact stop (i + 1) commit hgt

theorem m44_eq (n : Int) (r : RT) (m : MT) (hs : Shrt r) : m44 ((n, r, m, ()), ()) = some ((), ((appended n r m, ()), ())) := by
  unfold m44 appended
  simp only [m76_eq r hs, Option.bind_some]
  rw [show m78 ((n, (r.id, r.term, r.voted, r.role, r.log, r.commit, r.votes, r.mtch, ()), m, 4, ()), ()) = some ((toOK n r m 4, ()), ()) from m78_eq n r m 4 hs]
  cases ho : toOK n r m 4
  · simp only [decide_true, decide_false, cond_true, cond_false, Option.bind_some, Bool.not_true, Bool.not_false, sumE, Bool.true_and, Bool.and_true, Bool.false_and, Bool.and_false, beq_self_eq_true, bne_self_eq_false]; rfl
  obtain ⟨C, _, _, f0, f1, _, _, ht⟩ := toOK_iff.1 ho
  have h1 := C.n1; have h5 := C.n5; have i0 := C.i0; have i1 := C.i1; have c0 := C.c0; have t0 := C.t0; have t1 := C.t1
  have ro := @role2_iff _ n r
  have cro := C.ro
  simp only [decide_true, decide_false, cond_true, cond_false, Option.bind_some, Bool.not_true, Bool.not_false, sumE, Bool.true_and, Bool.and_true, Bool.false_and, Bool.and_false, beq_self_eq_true, bne_self_eq_false, if_true]
  obtain ⟨kind, frm, to, mterm, prev, pterm, mcommit, ents, ok, ⟨⟩⟩ := m
  simp only [Msg.kind, Msg.frm, Msg.to, Msg.term, Msg.prev, Msg.pterm, Msg.commit, Msg.ents, Msg.ok, mg] at f0 f1 ht ⊢
  rw [show m79 (((r.id, r.term, r.voted, r.role, r.log, r.commit, r.votes, r.mtch, ()), mterm, ()), ()) = some ((), ((fol r mterm, ()), ())) from m79_eq r mterm ht (by omega) (by omega)]
  obtain ⟨id, term, voted, role, log, commit, votes, mtch, ⟨⟩⟩ := r
  obtain ⟨s1, s2, s3⟩ := hs
  simp only [Rep.id, Rep.term, Rep.voted, Rep.role, Rep.log, Rep.commit, Rep.votes, Rep.mtch, rp] at s1 s2 s3 i0 i1 ro c0
  simp only [Rep.id, Rep.term, Rep.voted, Rep.role, Rep.log, Rep.commit, Rep.votes, Rep.mtch, rp, bne_decide]
  by_cases hgt : mterm > term
  · simp only [hgt, decide_true, decide_false, cond_true, cond_false, Option.bind_some, Bool.not_true, Bool.not_false, sumE, Bool.true_and, Bool.and_true, Bool.false_and, Bool.and_false, beq_self_eq_true, bne_self_eq_false, if_true]
  simp only [hgt, decide_true, decide_false, cond_true, cond_false, Option.bind_some, Bool.not_true, Bool.not_false, sumE, Bool.true_and, Bool.and_true, Bool.false_and, Bool.and_false, beq_self_eq_true, bne_self_eq_false, if_false]
  by_cases hr : role = 2
  · subst hr
    by_cases hmt : mterm = term
    · cases ok
      · simp only [hmt, ne_eq, not_true_eq_false, not_false_eq_true, eq_self, decide_true, decide_false, cond_true, cond_false, Option.bind_some, Bool.not_true, Bool.not_false, sumE, Bool.true_and, Bool.and_true, Bool.false_and, Bool.and_false, beq_self_eq_true, bne_self_eq_false, Bool.false_eq_true, and_false, false_and, if_false]
      · simp only [hmt, ne_eq, not_true_eq_false, not_false_eq_true, eq_self, decide_true, decide_false, cond_true, cond_false, Option.bind_some, Bool.not_true, Bool.not_false, sumE, Bool.true_and, Bool.and_true, Bool.false_and, Bool.and_false, beq_self_eq_true, bne_self_eq_false, true_and, if_true]
        by_cases hp0 : prev < 0
        · have : ¬ (0 ≤ prev ∧ prev ≤ (log.length : Int)) := by omega
          simp only [hp0, this, decide_true, decide_false, cond_true, cond_false, Option.bind_some, Bool.not_true, Bool.not_false, sumE, Bool.true_and, Bool.and_true, Bool.false_and, Bool.and_false, beq_self_eq_true, bne_self_eq_false, if_false]
        by_cases hp1 : prev > (log.length : Int)
        · have : ¬ (0 ≤ prev ∧ prev ≤ (log.length : Int)) := by omega
          simp only [hp0, hp1, this, decide_true, decide_false, cond_true, cond_false, Option.bind_some, Bool.not_true, Bool.not_false, sumE, Bool.true_and, Bool.and_true, Bool.false_and, Bool.and_false, beq_self_eq_true, bne_self_eq_false, if_false]
        · have hpr : 0 ≤ prev ∧ prev ≤ (log.length : Int) := by omega
          obtain ⟨v1, v2, v3, v4, v5⟩ := (ro rfl).1 cro
          have a2 : (0 : Int) ≤ frm ∧ frm < (mtch.length : Int) := by omega
          have a3 : frm.toNat < mtch.length := by omega
          obtain ⟨e, he⟩ := getD_some a3
          simp only [hp0, hp1, hpr, and_self, if_true, decide_true, decide_false, cond_true, cond_false, Option.bind_some, Bool.not_true, Bool.not_false, sumE, Bool.true_and, Bool.and_true, Bool.false_and, Bool.and_false, beq_self_eq_true, bne_self_eq_false, a2, a3, he, maxe]
          have := loop44b id term voted 2 log votes votes (mtch.set frm.toNat (max e prev)) mtch n (by simpa using s3) s1 log.length commit c0 (Nat.le_refl _)
          rw [show loopT l44_0_10 (((log.length : Int), (n, ())), (((id, (term, (voted, (2, (commit, ()))))), ()), (((0, (0, (0, (0, (0, ()))))), ()), (log, (votes, ((mtch.set frm.toNat (max e prev)), ())))))) = _ from this]
          unfold appendedR
          simp only [Rep.id, Rep.term, Rep.voted, Rep.role, Rep.log, Rep.commit, Rep.votes, Rep.mtch, rp, Msg.kind, Msg.frm, Msg.to, Msg.term, Msg.prev, Msg.pterm, Msg.commit, Msg.ents, Msg.ok, mg, Option.bind_some, he, Option.getD_some]
    · simp only [hmt, ne_eq, not_true_eq_false, not_false_eq_true, eq_self, decide_true, decide_false, cond_true, cond_false, Option.bind_some, Bool.not_true, Bool.not_false, sumE, Bool.true_and, Bool.and_true, Bool.false_and, Bool.and_false, beq_self_eq_true, bne_self_eq_false, false_and, and_false, if_false]
  · simp only [hr, ne_eq, not_true_eq_false, not_false_eq_true, eq_self, decide_true, decide_false, cond_true, cond_false, Option.bind_some, Bool.not_true, Bool.not_false, sumE, Bool.true_and, Bool.and_true, Bool.false_and, Bool.and_false, beq_self_eq_true, bne_self_eq_false, false_and, if_false]

end Go.Proofs.Ytfbikpbejkgegaa
