/- Lemmas for the statement of the last text of this claim. -/
import Derived.Test.YtfbikpbejkgegaaChecked
import Derived.Test.YtfbikpbejkgegaaPxM
import Derived.WalkKit
import Derived.ProofKit
import Derived.Deep.RegionLaw
import Derived.Deep.LoopGhost
import Derived.Lib.Walk
import Derived.Maps.Own
import Derived.Shelf.RegionOpenPlain
import Derived.Lib.LazyBuf
import Derived.Test.YtfbikpbejkgegaaPxK
import Derived.Test.YtfbikpbejkgegaaV12A
set_option linter.unusedSimpArgs false
set_option linter.unusedVariables false
namespace Go.Proofs.Ytfbikpbejkgegaa
open Go Go.Abs
noncomputable section
def o4 : Abs.Sg := ⟨[8], (.dat .bool .nil), .nil⟩

/- 96 pagewatch/replica.Propose$1: not told by a law: a closure -/

/- 129 slices.IndexFunc[[]pagewatch/api.Entry,pagewatch/api.Entry]: not told by a law: a parameter -/

/- 95 slices.ContainsFunc[[]pagewatch/api.Entry,pagewatch/api.Entry]: not told by a law: a parameter -/

def l54_2_2 (v : ((Int × Y2 × Int × Unit) × ((Y10 × Unit) × Unit))) : Option (((Int × Y2 × Int × Unit) × ((Y10 × Unit) × Unit)) ⊕ (((Int × Unit) × ((Y10 × Unit) × Unit)) ⊕ ((Unit) × ((Y10 × Unit) × Unit)))) :=
bif (decide ((v.1.1 : Int) < v.1.2.2.1)) then (Abs.rowAt v.1.2.1 v.1.1 fun e53 _ =>
bif ((e53.2.1.1 : Int) == v.2.1.1.1) then (some (.inr (.inl ((v.1.1, ()), ((v.2.1.1, ()), ())))))
else (some (.inl (((w64 (v.1.1 + 1)), (v.1.2.1, (v.1.2.2.1, ()))), ((v.2.1.1, ()), ())))))
else (some (.inr (.inr ((), ((v.2.1.1, ()), ())))))

/- pagewatch/replica.Propose -/
def i54 : Abs.Sg := ⟨[0, 1, 2], (.dat (.int .i64) (.dat Z3 (.dat Z6 .nil))), .nil⟩

def o54 : Abs.Sg := ⟨[6, 7], (.st (.ptr (0, 0) 8 0 0) (.dat (.int .i64) .nil)), (.box 8 (.agg (.dat (.int .i64) (.dat (.int .i64) (.dat (.int .i64) (.dat (.int .i64) (.st (.own Z1 (1, 0)) (.dat (.int .i64) (.st (.own .bool (2, 0)) (.st (.own (.int .i64) (3, 0)) .nil)))))))) .nil) (.arr Z1 false (.arr .bool false (.arr (.int .i64) false .nil))))⟩

def m54 (v : ((Int × Y7 × Y10 × Unit) × (Unit))) : Option ((Int × Unit) × (Y11 × Y2 × (List Bool) × (List Int) × Unit)) :=
(m26 ((v.1.1, (v.1.2.1, ())), ())).bind fun u52 =>
bif (!u52.1.1) then (some ((8, ()), (((0, (0, (0, (0, (0, ()))))), ()), ([], ([], ([], ()))))))
else (bif ((v.1.2.1.2.2.2.1 : Int) != 2) then (some ((22, ()), (((0, (0, (0, (0, (0, ()))))), ()), ([], ([], ([], ()))))))
else ((((loopT l54_2_2 ((0, (v.1.2.1.2.2.2.2.1, ((v.1.2.1.2.2.2.2.1.length : Int), ()))), ((v.1.2.2.1, ()), ()))).bind fun d54 =>
sumE d54 (fun d55 => (some (((decide ((d55.1.1 : Int) ≥ 0)), ()), ((d55.2.1.1, ()), ())))) (fun d56 => (some ((false, ()), ((d56.2.1.1, ()), ()))))) : Option ((Bool × Unit) × ((Y10 × Unit) × Unit))).bind fun v57 =>
bif v57.1.1 then (some ((4, ()), (((0, (0, (0, (0, (0, ()))))), ()), ([], ([], ([], ()))))))
else (let x58 := (((v.1.2.1.2.2.2.2.1.length : Int) : Int) == 256)
bif x58 then (some ((5, ()), (((0, (0, (0, (0, (0, ()))))), ()), ([], ([], ([], ()))))))
else ((m76 ((v.1.2.1, ()), ())).bind fun u59 =>
bif (decide (u59.2.2.1.length + ([(u59.2.1.1.2.1, (v57.2.1.1, ()))] : List (Int × Y10 × Unit)).length ≤ 4294967296)) then
let x60 := (u59.2.2.1 ++ ([(u59.2.1.1.2.1, (v57.2.1.1, ()))] : List (Int × Y10 × Unit)))
bif (decide ((0 : Int) ≤ u59.2.1.1.1 ∧ (u59.2.1.1.1 : Int) < u59.2.2.2.2.1.length)) then
bif (decide (u59.2.1.1.1.toNat < u59.2.2.2.2.1.length)) then
(((m28 ((v.1.1, ()), ())).bind fun u61 =>
bif ((u61.1.1 : Int) == 1) then (some ((), (((0, (0, (0, (0, (0, ()))))), ()), (((u59.2.1.1.1, (u59.2.1.1.2.1, (u59.2.1.1.2.2.1, (u59.2.1.1.2.2.2.1, (((x60.length : Nat) : Int), ()))))), ()), (x60, (u59.2.2.2.1, ((u59.2.2.2.2.1.set u59.2.1.1.1.toNat ((x60.length : Nat) : Int)), ())))))))
else (some ((), (((0, (0, (0, (0, (0, ()))))), ()), (((u59.2.1.1.1, (u59.2.1.1.2.1, (u59.2.1.1.2.2.1, (u59.2.1.1.2.2.2.1, (u59.2.1.1.2.2.2.2.1, ()))))), ()), (x60, (u59.2.2.2.1, ((u59.2.2.2.2.1.set u59.2.1.1.1.toNat ((x60.length : Nat) : Int)), ())))))))) : Option ((Unit) × Y19)).bind fun v62 =>
some ((0, ()), (((v62.2.2.1.1.1, (v62.2.2.1.1.2.1, (v62.2.2.1.1.2.2.1, (v62.2.2.1.1.2.2.2.1, (v62.2.2.1.1.2.2.2.2.1, ()))))), ()), (v62.2.2.2.1, (v62.2.2.2.2.1, (v62.2.2.2.2.2.1, ())))))
else none
else none
else none))))

def sp54 : Abs.Spec := ⟨0, i54, o54, m54⟩

def an54 : Nat → Abs.FAn
  | 0 => Abs.FAn.mk (fun _ => none) (fun
    | 14 => some (⟨[6, 4], (.st (.ptr (0, 0) 8 0 0) (.st (.ptr (1, 0) 8 0 0) .nil)), (.box 8 (.agg (.dat (.int .i64) (.dat (.int .i64) (.dat (.int .i64) (.dat (.int .i64) (.st .nil (.dat (.int .i64) (.st .nil (.st .nil .nil)))))))) .nil) (.box 8 (.agg (.dat (.int .i64) (.dat (.int .i64) (.dat (.int .i64) (.dat (.int .i64) (.st (.own Z1 (2, 0)) (.dat (.int .i64) (.st (.own .bool (3, 0)) (.st (.own (.int .i64) (4, 0)) .nil)))))))) .nil) (.arr Z1 false (.arr .bool false (.arr (.int .i64) false .nil)))))⟩, none)
    | _ => none) (fun _ => none) (fun
    | 5, 3 => 1
    | _, _ => 0)
  | 1 => Abs.FAn.mk (fun
    | 1 => some ⟨[4], (.dat .bool .nil), (.box 20 (.dat Z6 .nil) .nil)⟩
    | _ => none) (fun _ => none) (fun _ => none) (fun
    | 1, 2 => 2
    | _, _ => 0)
  | 2 => Abs.FAn.mk (fun _ => none) (fun _ => none) (fun
    | 2 => some ⟨⟨[8, 0, 1, 7], (.dat (.int .i64) (.dat (.row Z1) (.st (.clo 96 [((0, 0), 20, 0, 0)]) (.dat (.int .i64) .nil)))), (.box 20 (.dat Z6 .nil) .nil)⟩, (.more .ret ⟨[4], (.dat (.int .i64) .nil), (.box 20 (.dat Z6 .nil) .nil)⟩ (.one (.exit 0) ⟨[], .nil, (.box 20 (.dat Z6 .nil) .nil)⟩))⟩
    | _ => none) (fun
    | 4, 5 => 3
    | _, _ => 0)
  | _ => {}

theorem ok54 : Abs.SpecOK Try.prog 54 sp54 :=
  Abs.specOC_of (C := ctab) (mv := mvtab) ctab_ok (n := 12) (an := an54) (T := Abs.tabOf [(26, sp26), (76, sp76), (28, sp28)]) good foll (Abs.tabOf_ok _ (by simp only [List.forall_mem_cons]; exact ⟨ok26, ok76, ok28, fun _ h => by cases h⟩)) rfl (by intro v; kernel_rfl)

def l46_0_5 (v : ((Int × (List Int) × Int × Unit) × ((List Y9) × (Y7 × Unit) × Unit))) : Option (((Int × (List Int) × Int × Unit) × ((List Y9) × (Y7 × Unit) × Unit)) ⊕ ((Unit) × ((List Y9) × Unit))) :=
bif (decide ((v.1.1 : Int) < v.1.2.2.1)) then (((Abs.rowAt v.1.2.1 v.1.1 fun e48 _ =>
bif ((v.1.1 : Int) == v.2.2.1.1.1) then (some ((v.1.2.1, (v.1.2.2.1, (v.1.1, ()))), (v.2.1, ((v.2.2.1.1, ()), ()))))
else (bif (decide ((0 : Int) ≤ e48)) then
bif (decide (e48.toNat ≤ v.2.2.1.1.2.2.2.2.1.length ∧ v.2.2.1.1.2.2.2.2.1.length ≤ v.2.2.1.1.2.2.2.2.1.length)) then
let x49 := ((v.2.2.1.1.2.2.2.2.1.drop e48.toNat).take (v.2.2.1.1.2.2.2.2.1.length - e48.toNat))
(m91 ((x49, ()), ())).bind fun u50 =>
((bif (decide ((e48 : Int) > 0)) then (Abs.rowAt v.2.2.1.1.2.2.2.2.1 (w64 (e48 - 1)) fun e51 _ =>
some ((v.1.2.1, (v.1.2.2.1, (v.1.1, ()))), ((v.2.2.1.1, ()), (((3, (v.2.2.1.1.1, (v.1.1, (v.2.2.1.1.2.1, (e48, (e51.1, (v.2.2.1.1.2.2.2.2.2.1, (false, ())))))))), ()), (v.2.1, (u50.2.1, ()))))))
else (some ((v.1.2.1, (v.1.2.2.1, (v.1.1, ()))), ((v.2.2.1.1, ()), (((3, (v.2.2.1.1.1, (v.1.1, (v.2.2.1.1.2.1, (e48, (0, (v.2.2.1.1.2.2.2.2.2.1, (false, ())))))))), ()), (v.2.1, (u50.2.1, ()))))))) : Option (((List Int) × Int × Int × Unit) × ((Y7 × Unit) × Y18 × (List Y9) × Y2 × Unit))).bind fun v52 =>
bif (decide (v52.2.2.2.1.length + ([(v52.2.2.1.1.1, (v52.2.2.1.1.2.1, (v52.2.2.1.1.2.2.1, (v52.2.2.1.1.2.2.2.1, (v52.2.2.1.1.2.2.2.2.1, (v52.2.2.1.1.2.2.2.2.2.1, (v52.2.2.1.1.2.2.2.2.2.2.1, (v52.2.2.2.2.1, (v52.2.2.1.1.2.2.2.2.2.2.2.1, ())))))))))] : List Y9).length ≤ 4294967296)) then
let x53 := (v52.2.2.2.1 ++ ([(v52.2.2.1.1.1, (v52.2.2.1.1.2.1, (v52.2.2.1.1.2.2.1, (v52.2.2.1.1.2.2.2.1, (v52.2.2.1.1.2.2.2.2.1, (v52.2.2.1.1.2.2.2.2.2.1, (v52.2.2.1.1.2.2.2.2.2.2.1, (v52.2.2.2.2.1, (v52.2.2.1.1.2.2.2.2.2.2.2.1, ())))))))))] : List Y9))
some ((v52.1.1, (v52.1.2.1, (v52.1.2.2.1, ()))), (x53, ((v52.2.1.1, ()), ())))
else none
else none
else none)) : Option (((List Int) × Int × Int × Unit) × ((List Y9) × (Y7 × Unit) × Unit))).bind fun v54 =>
some (.inl (((w64 (v54.1.2.2.1 + 1)), (v54.1.1, (v54.1.2.1, ()))), (v54.2.1, ((v54.2.2.1.1, ()), ())))))
else (some (.inr ((), (v.2.1, ()))))

/- pagewatch/replica.Appends -/
def i46 : Abs.Sg := ⟨[0, 1], (.dat (.int .i64) (.dat Z3 .nil)), .nil⟩

def o46 : Abs.Sg := ⟨[4], (.st (.own Z4 (0, 0)) .nil), (.arr Z4 false .nil)⟩

def m46 (v : ((Int × Y7 × Unit) × (Unit))) : Option ((Unit) × ((List Y9) × Unit)) :=
(((m26 ((v.1.1, (v.1.2.1, ())), ())).bind fun u46 =>
bif (!u46.1.1) then (some ((true, ()), ((v.1.2.1, ()), ())))
else (some ((((v.1.2.1.2.2.2.1 : Int) != 2), ()), ((v.1.2.1, ()), ())))) : Option ((Bool × Unit) × ((Y7 × Unit) × Unit))).bind fun v47 =>
bif v47.1.1 then (some ((), ([], ())))
else ((loopT l46_0_5 ((0, (v47.2.1.1.2.2.2.2.2.2.2.1, ((v47.2.1.1.2.2.2.2.2.2.2.1.length : Int), ()))), ([], ((v47.2.1.1, ()), ())))).bind fun d55 =>
some ((), (d55.2.1, ())))

def sp46 : Abs.Spec := ⟨0, i46, o46, m46⟩

def an46 : Nat → Abs.FAn
  | 0 => Abs.FAn.mk (fun
    | 1 => some ⟨[17, 3], (.dat .bool (.st (.ptr (0, 0) 8 0 0) .nil)), (.box 8 (.dat Z3 .nil) .nil)⟩
    | _ => none) (fun
    | 12 => some (⟨[5, 3, 19, 20, 21], (.st (.own Z4 (0, 0)) (.st (.ptr (1, 0) 8 0 0) (.dat (.row (.int .i64)) (.dat (.int .i64) (.dat (.int .i64) .nil))))), (.arr Z4 false (.box 8 (.dat Z3 .nil) .nil))⟩, none)
    | 11 => some (⟨[3, 19, 20, 21, 8, 5], (.st (.ptr (0, 0) 8 0 0) (.dat (.row (.int .i64)) (.dat (.int .i64) (.dat (.int .i64) (.st (.ptr (1, 0) 9 0 0) (.st (.own Z4 (2, 0)) .nil)))))), (.box 8 (.dat Z3 .nil) (.box 9 (.agg (.dat (.int .i64) (.dat (.int .i64) (.dat (.int .i64) (.dat (.int .i64) (.dat (.int .i64) (.dat (.int .i64) (.dat (.int .i64) (.st (.own Z1 (3, 0)) (.dat .bool .nil))))))))) .nil) (.arr Z4 false (.arr Z1 false .nil))))⟩, none)
    | _ => none) (fun
    | 5 => some ⟨⟨[21, 5, 3, 19, 20], (.dat (.int .i64) (.st (.own Z4 (0, 0)) (.st (.ptr (1, 0) 8 0 0) (.dat (.row (.int .i64)) (.dat (.int .i64) .nil))))), (.arr Z4 false (.box 8 (.dat Z3 .nil) .nil))⟩, (.one (.exit 0) ⟨[5], (.st (.own Z4 (0, 0)) .nil), (.arr Z4 false .nil)⟩)⟩
    | _ => none) (fun _ _ => 0)
  | _ => {}

theorem ok46 : Abs.SpecOK Try.prog 46 sp46 :=
  Abs.specOC_of (C := ctab) (mv := mvtab) ctab_ok (n := 12) (an := an46) (T := Abs.tabOf [(26, sp26), (91, sp91)]) good foll (Abs.tabOf_ok _ (by simp only [List.forall_mem_cons]; exact ⟨ok26, ok91, fun _ h => by cases h⟩)) rfl (by intro v; kernel_rfl)

/- pagewatch/replica.fits -/
def i92 : Abs.Sg := ⟨[0, 1], (.dat Z3 (.dat Z4 .nil)), .nil⟩

def o92 : Abs.Sg := ⟨[4], (.dat .bool .nil), .nil⟩

def m92 (v : ((Y7 × Y9 × Unit) × (Unit))) : Option Y16 :=
((bif ((v.1.2.1.2.2.2.1 : Int) == v.1.1.2.1) then (bif ((v.1.1.2.2.2.1 : Int) != 2) then (let x5 := (decide ((v.1.2.1.2.2.2.2.1 : Int) ≤ (v.1.1.2.2.2.2.1.length : Int)))
bif x5 then (bif ((v.1.2.1.2.2.2.2.1 : Int) == 0) then (some ((true, ()), ()))
else (Abs.rowAt v.1.1.2.2.2.2.1 (w64 (v.1.2.1.2.2.2.2.1 - 1)) fun e6 _ =>
some ((((e6.1 : Int) == v.1.2.1.2.2.2.2.2.1), ()), ())))
else (some ((false, ()), ())))
else (some ((false, ()), ())))
else (some ((false, ()), ()))) : Option Y16).bind fun v7 =>
some ((v7.1.1, ()), ())

def sp92 : Abs.Spec := ⟨0, i92, o92, m92⟩

def an92 : Nat → Abs.FAn
  | 0 => Abs.FAn.mk (fun
    | 1 => some ⟨[4], (.dat .bool .nil), .nil⟩
    | _ => none) (fun _ => none) (fun _ => none) (fun _ _ => 0)
  | _ => {}

theorem ok92 : Abs.SpecOK Try.prog 92 sp92 :=
  Abs.specOC_of (C := ctab) (mv := mvtab) ctab_ok (n := 12) (an := an92) (T := Abs.tabOf []) good foll (Abs.tabOf_ok _ (fun _ h => by cases h)) rfl (by intro v; kernel_rfl)

def l93_0_2 (v : ((Int × Unit) × ((Y7 × Unit) × (Y9 × Unit) × Unit))) : Option (((Int × Unit) × ((Y7 × Unit) × (Y9 × Unit) × Unit)) ⊕ ((Int × Unit) × ((Y7 × Unit) × (Y9 × Unit) × Unit))) :=
((let x61 := (decide ((v.1.1 : Int) < (v.2.2.1.1.2.2.2.2.2.2.2.1.length : Int)))
bif x61 then (let x62 := (decide (((w64 (v.2.2.1.1.2.2.2.2.1 + v.1.1)) : Int) < (v.2.1.1.2.2.2.2.1.length : Int)))
bif x62 then (Abs.rowAt v.2.1.1.2.2.2.2.1 (w64 (v.2.2.1.1.2.2.2.2.1 + v.1.1)) fun e63 _ =>
Abs.rowAt v.2.2.1.1.2.2.2.2.2.2.2.1 v.1.1 fun e64 _ =>
some ((((e63.1 : Int) == e64.1), (v.1.1, ())), ((v.2.1.1, ()), ((v.2.2.1.1, ()), ()))))
else (some ((false, (v.1.1, ())), ((v.2.1.1, ()), ((v.2.2.1.1, ()), ())))))
else (some ((false, (v.1.1, ())), ((v.2.1.1, ()), ((v.2.2.1.1, ()), ()))))) : Option ((Bool × Int × Unit) × ((Y7 × Unit) × (Y9 × Unit) × Unit))).bind fun v65 =>
bif v65.1.1 then (some (.inl (((w64 (v65.1.2.1 + 1)), ()), ((v65.2.1.1, ()), ((v65.2.2.1.1, ()), ())))))
else (some (.inr ((v65.1.2.1, ()), ((v65.2.1.1, ()), ((v65.2.2.1.1, ()), ())))))

def l93_0_10 (v : ((Int × Int × Y2 × Y2 × Int × Int × Unit) × ((Y9 × Unit) × (Y7 × Unit) × Unit))) : Option (((Int × Int × Y2 × Y2 × Int × Int × Unit) × ((Y9 × Unit) × (Y7 × Unit) × Unit)) ⊕ (((Bool × Unit) × (Y2 × Unit)) ⊕ ((Y2 × Int × Unit) × ((Y7 × Unit) × Unit)))) :=
bif (decide ((v.1.1 : Int) < v.1.2.2.2.2.2.1)) then (Abs.rowAt v.1.2.2.1 v.1.1 fun e71 _ =>
((bif (decide ((e71.1 : Int) < v.1.2.1)) then (some ((true, (v.1.2.2.1, (v.1.2.2.2.1, (v.1.2.2.2.2.1, (v.1.2.2.2.2.2.1, (v.1.1, ())))))), ((v.2.1.1, ()), ((v.2.2.1.1, ()), ((e71, ()), ())))))
else (some (((decide ((e71.1 : Int) > v.2.1.1.2.2.2.1)), (v.1.2.2.1, (v.1.2.2.2.1, (v.1.2.2.2.2.1, (v.1.2.2.2.2.2.1, (v.1.1, ())))))), ((v.2.1.1, ()), ((v.2.2.1.1, ()), ((e71, ()), ())))))) : Option ((Bool × Y2 × Y2 × Int × Int × Int × Unit) × ((Y9 × Unit) × (Y7 × Unit) × ((Int × Y10 × Unit) × Unit) × Unit))).bind fun v72 =>
bif v72.1.1 then (some (.inr (.inl ((false, ()), ([], ())))))
else (some (.inl (((w64 (v72.1.2.2.2.2.2.1 + 1)), (v72.2.2.2.1.1.1, (v72.1.2.1, (v72.1.2.2.1, (v72.1.2.2.2.1, (v72.1.2.2.2.2.1, ())))))), ((v72.2.1.1, ()), ((v72.2.2.1.1, ()), ()))))))
else (some (.inr (.inr ((v.1.2.2.2.1, (v.1.2.2.2.2.1, ())), ((v.2.2.1.1, ()), ())))))

/- pagewatch/replica.joined -/
def i93 : Abs.Sg := ⟨[0, 1], (.dat Z3 (.dat Z4 .nil)), .nil⟩

def o93 : Abs.Sg := ⟨[4, 5], (.dat (.row Z1) (.dat .bool .nil)), .nil⟩

def m93 (v : ((Y7 × Y9 × Unit) × (Unit))) : Option ((Y2 × Bool × Unit) × (Unit)) :=
(loopT l93_0_2 ((0, ()), ((v.1.1, ()), ((v.1.2.1, ()), ())))).bind fun d66 =>
let x67 := ((d66.1.1 : Int) == (d66.2.2.1.1.2.2.2.2.2.2.2.1.length : Int))
bif x67 then (some ((d66.2.1.1.2.2.2.2.1, (true, ())), ()))
else (((bif (decide ((0 : Int) ≤ (w64 (d66.2.2.1.1.2.2.2.2.1 + d66.1.1)))) then
bif (decide ((0 : Int) ≤ (w64 (d66.2.2.1.1.2.2.2.2.1 + d66.1.1)))) then
bif (decide (0 ≤ (w64 (d66.2.2.1.1.2.2.2.2.1 + d66.1.1)).toNat ∧ (w64 (d66.2.2.1.1.2.2.2.2.1 + d66.1.1)).toNat = (w64 (d66.2.2.1.1.2.2.2.2.1 + d66.1.1)).toNat ∧ (w64 (d66.2.2.1.1.2.2.2.2.1 + d66.1.1)).toNat ≤ d66.2.1.1.2.2.2.2.1.length)) then
let x68 := (d66.2.1.1.2.2.2.2.1.take (w64 (d66.2.2.1.1.2.2.2.2.1 + d66.1.1)).toNat)
bif (decide ((0 : Int) ≤ d66.1.1)) then
bif (decide (d66.1.1.toNat ≤ d66.2.2.1.1.2.2.2.2.2.2.2.1.length ∧ d66.2.2.1.1.2.2.2.2.2.2.2.1.length ≤ d66.2.2.1.1.2.2.2.2.2.2.2.1.length)) then
let x69 := ((d66.2.2.1.1.2.2.2.2.2.2.2.1.drop d66.1.1.toNat).take (d66.2.2.1.1.2.2.2.2.2.2.2.1.length - d66.1.1.toNat))
bif x68.isEmpty then (bif (decide (x68.length + x69.length ≤ 4294967296)) then
some (((x68 ++ x69), ((w64 (d66.2.2.1.1.2.2.2.2.1 + d66.1.1)), ())), ((d66.2.2.1.1, ()), ((d66.2.1.1, ()), ())))
else none)
else (bif x69.isEmpty then (some ((x68, ((w64 (d66.2.2.1.1.2.2.2.2.1 + d66.1.1)), ())), ((d66.2.2.1.1, ()), ((d66.2.1.1, ()), ()))))
else (bif (decide (x68.length + x69.length ≤ 4294967296)) then
some (((x68 ++ x69), ((w64 (d66.2.2.1.1.2.2.2.2.1 + d66.1.1)), ())), ((d66.2.2.1.1, ()), ((d66.2.1.1, ()), ())))
else none))
else none
else none
else none
else none
else none) : Option ((Y2 × Int × Unit) × ((Y9 × Unit) × (Y7 × Unit) × Unit))).bind fun v70 =>
(loopT l93_0_10 ((0, (1, (v70.1.1, (v70.1.1, (v70.1.2.1, ((v70.1.1.length : Int), ())))))), ((v70.2.1.1, ()), ((v70.2.2.1.1, ()), ())))).bind fun d73 =>
sumE d73 (fun d74 => (some ((d74.2.1, (d74.1.1, ())), ()))) (fun d75 => (((let x76 := (decide ((d75.1.2.1 : Int) ≥ d75.2.1.1.2.2.2.2.2.1))
bif x76 then (some ((d75.1.1, ((decide (((d75.1.1.length : Int) : Int) ≤ 256)), ())), ()))
else (some ((d75.1.1, (false, ())), ()))) : Option ((Y2 × Bool × Unit) × (Unit))).bind fun v77 =>
some ((v77.1.1, (v77.1.2.1, ())), ()))))

def sp93 : Abs.Spec := ⟨0, i93, o93, m93⟩

def an93 : Nat → Abs.FAn
  | 0 => Abs.FAn.mk (fun
    | 16 => some ⟨[4, 5], (.dat (.row Z1) (.dat .bool .nil)), .nil⟩
    | 12 => some ⟨[84, 3, 68, 8, 2, 7, 69, 70, 11], (.dat .bool (.st (.ptr (0, 0) 9 0 0) (.dat (.row Z1) (.dat (.row Z1) (.st (.ptr (1, 0) 8 0 0) (.dat (.int .i64) (.dat (.int .i64) (.dat (.int .i64) (.st (.ptr (2, 0) 21 0 0) .nil))))))))), (.box 9 (.dat Z4 .nil) (.box 8 (.dat Z3 .nil) (.box 21 (.dat Z1 .nil) .nil)))⟩
    | 7 => some ⟨[3, 8, 2, 7], (.st (.ptr (0, 0) 9 0 0) (.dat (.row Z1) (.st (.ptr (1, 0) 8 0 0) (.dat (.int .i64) .nil)))), (.box 9 (.dat Z4 .nil) (.box 8 (.dat Z3 .nil) .nil))⟩
    | 2 => some ⟨[44, 2, 3, 6], (.dat .bool (.st (.ptr (0, 0) 8 0 0) (.st (.ptr (1, 0) 9 0 0) (.dat (.int .i64) .nil)))), (.box 8 (.dat Z3 .nil) (.box 9 (.dat Z4 .nil) .nil))⟩
    | _ => none) (fun _ => none) (fun
    | 10 => some ⟨⟨[70, 3, 9, 68, 8, 2, 7, 69], (.dat (.int .i64) (.st (.ptr (0, 0) 9 0 0) (.dat (.int .i64) (.dat (.row Z1) (.dat (.row Z1) (.st (.ptr (1, 0) 8 0 0) (.dat (.int .i64) (.dat (.int .i64) .nil)))))))), (.box 9 (.dat Z4 .nil) (.box 8 (.dat Z3 .nil) .nil))⟩, (.more .ret ⟨[4, 5], (.st (.own Z1 (0, 0)) (.dat .bool .nil)), (.arr Z1 false .nil)⟩ (.one (.exit 2) ⟨[8, 2, 7], (.dat (.row Z1) (.st (.ptr (0, 0) 8 0 0) (.dat (.int .i64) .nil))), (.box 8 (.dat Z3 .nil) .nil)⟩))⟩
    | 2 => some ⟨⟨[6, 2, 3], (.dat (.int .i64) (.st (.ptr (0, 0) 8 0 0) (.st (.ptr (1, 0) 9 0 0) .nil))), (.box 8 (.dat Z3 .nil) (.box 9 (.dat Z4 .nil) .nil))⟩, (.one (.exit 0) ⟨[2, 3, 6], (.st (.ptr (0, 0) 8 0 0) (.st (.ptr (1, 0) 9 0 0) (.dat (.int .i64) .nil))), (.box 8 (.dat Z3 .nil) (.box 9 (.dat Z4 .nil) .nil))⟩)⟩
    | _ => none) (fun _ _ => 0)
  | _ => {}

theorem ok93 : Abs.SpecOK Try.prog 93 sp93 :=
  Abs.specOC_of (C := ctab) (mv := mvtab) ctab_ok (n := 12) (an := an93) (T := Abs.tabOf []) good foll (Abs.tabOf_ok _ (fun _ h => by cases h)) rfl (by intro v; kernel_rfl)

/- pagewatch/replica.Accept -/
def i47 : Abs.Sg := ⟨[0, 1, 2], (.dat (.int .i64) (.dat Z3 (.dat Z4 .nil))), .nil⟩

def o47 : Abs.Sg := ⟨[6, 7, 8], (.st (.ptr (0, 0) 8 0 0) (.st (.ptr (1, 0) 9 0 0) (.dat .bool .nil))), (.box 8 (.dat Z3 .nil) (.box 9 (.agg (.dat (.int .i64) (.dat (.int .i64) (.dat (.int .i64) (.dat (.int .i64) (.dat (.int .i64) (.dat (.int .i64) (.dat (.int .i64) (.st .nil (.dat .bool .nil))))))))) .nil) .nil))⟩

def m47 (v : ((Int × Y7 × Y9 × Unit) × (Unit))) : Option ((Bool × Unit) × ((Y7 × Unit) × Y18 × Unit)) :=
(m76 ((v.1.2.1, ()), ())).bind fun u40 =>
(((m78 ((v.1.1, (v.1.2.1, (v.1.2.2.1, (3, ())))), ())).bind fun u41 =>
bif (!u41.1.1) then (some ((true, ()), (((0, (0, (0, (0, (0, ()))))), ()), (((0, (0, (0, (0, (0, (0, (0, (false, ())))))))), ()), (((u40.2.1.1.1, (u40.2.1.1.2.1, (u40.2.1.1.2.2.1, (u40.2.1.1.2.2.2.1, (u40.2.1.1.2.2.2.2.1, ()))))), ()), ((v.1.2.1, ()), ((v.1.2.2.1, ()), (u40.2.2.1, (u40.2.2.2.1, (u40.2.2.2.2.1, ()))))))))))
else (bif (decide ((v.1.2.2.1.2.2.2.2.1 : Int) < 0)) then (some ((true, ()), (((0, (0, (0, (0, (0, ()))))), ()), (((0, (0, (0, (0, (0, (0, (0, (false, ())))))))), ()), (((u40.2.1.1.1, (u40.2.1.1.2.1, (u40.2.1.1.2.2.1, (u40.2.1.1.2.2.2.1, (u40.2.1.1.2.2.2.2.1, ()))))), ()), ((v.1.2.1, ()), ((v.1.2.2.1, ()), (u40.2.2.1, (u40.2.2.2.1, (u40.2.2.2.2.1, ()))))))))))
else (bif (decide ((v.1.2.2.1.2.2.2.2.2.1 : Int) < 0)) then (some ((true, ()), (((0, (0, (0, (0, (0, ()))))), ()), (((0, (0, (0, (0, (0, (0, (0, (false, ())))))))), ()), (((u40.2.1.1.1, (u40.2.1.1.2.1, (u40.2.1.1.2.2.1, (u40.2.1.1.2.2.2.1, (u40.2.1.1.2.2.2.2.1, ()))))), ()), ((v.1.2.1, ()), ((v.1.2.2.1, ()), (u40.2.2.1, (u40.2.2.2.1, (u40.2.2.2.2.1, ()))))))))))
else (some (((decide ((v.1.2.2.1.2.2.2.2.2.2.1 : Int) < 0)), ()), (((0, (0, (0, (0, (0, ()))))), ()), (((0, (0, (0, (0, (0, (0, (0, (false, ())))))))), ()), (((u40.2.1.1.1, (u40.2.1.1.2.1, (u40.2.1.1.2.2.1, (u40.2.1.1.2.2.2.1, (u40.2.1.1.2.2.2.2.1, ()))))), ()), ((v.1.2.1, ()), ((v.1.2.2.1, ()), (u40.2.2.1, (u40.2.2.2.1, (u40.2.2.2.2.1, ()))))))))))))) : Option ((Bool × Unit) × (Y11 × Y18 × Y11 × (Y7 × Unit) × (Y9 × Unit) × Y2 × (List Bool) × (List Int) × Unit))).bind fun v42 =>
bif v42.1.1 then (some ((false, ()), (((v42.2.2.2.1.1.1, (v42.2.2.2.1.1.2.1, (v42.2.2.2.1.1.2.2.1, (v42.2.2.2.1.1.2.2.2.1, (v42.2.2.2.2.2.2.1, (v42.2.2.2.1.1.2.2.2.2.1, (v42.2.2.2.2.2.2.2.1, (v42.2.2.2.2.2.2.2.2.1, ())))))))), ()), (((0, (0, (0, (0, (0, (0, (0, (false, ())))))))), ()), ()))))
else ((m76 ((v42.2.2.2.2.1.1, ()), ())).bind fun u43 =>
(m79 (((u43.2.1.1.1, (u43.2.1.1.2.1, (u43.2.1.1.2.2.1, (u43.2.1.1.2.2.2.1, (u43.2.2.1, (u43.2.1.1.2.2.2.2.1, (u43.2.2.2.1, (u43.2.2.2.2.1, ())))))))), (v42.2.2.2.2.2.1.1.2.2.2.1, ())), ())).bind fun u44 =>
((((bif ((u44.2.1.1.2.2.2.1 : Int) == 1) then (let x45 := ((u44.2.1.1.2.1 : Int) == v42.2.2.2.2.2.1.1.2.2.2.1)
some ((x45, ()), (((v42.2.1.1.1, (v42.2.1.1.2.1, (v42.2.1.1.2.2.1, (v42.2.1.1.2.2.2.1, (v42.2.1.1.2.2.2.2.1, ()))))), ()), (((v42.2.2.1.1.1, (v42.2.2.1.1.2.1, (v42.2.2.1.1.2.2.1, (v42.2.2.1.1.2.2.2.1, (v42.2.2.1.1.2.2.2.2.1, (v42.2.2.1.1.2.2.2.2.2.1, (v42.2.2.1.1.2.2.2.2.2.2.1, (v42.2.2.1.1.2.2.2.2.2.2.2.1, ())))))))), ()), ((u44.2.1.1, ()), (((v42.2.2.2.1.1.1, (v42.2.2.2.1.1.2.1, (v42.2.2.2.1.1.2.2.1, (v42.2.2.2.1.1.2.2.2.1, (v42.2.2.2.1.1.2.2.2.2.1, ()))))), ()), ((v42.2.2.2.2.2.1.1, ()), (v42.2.2.2.2.2.2.1, (v42.2.2.2.2.2.2.2.1, (v42.2.2.2.2.2.2.2.2.1, ()))))))))))
else (some ((false, ()), (((v42.2.1.1.1, (v42.2.1.1.2.1, (v42.2.1.1.2.2.1, (v42.2.1.1.2.2.2.1, (v42.2.1.1.2.2.2.2.1, ()))))), ()), (((v42.2.2.1.1.1, (v42.2.2.1.1.2.1, (v42.2.2.1.1.2.2.1, (v42.2.2.1.1.2.2.2.1, (v42.2.2.1.1.2.2.2.2.1, (v42.2.2.1.1.2.2.2.2.2.1, (v42.2.2.1.1.2.2.2.2.2.2.1, (v42.2.2.1.1.2.2.2.2.2.2.2.1, ())))))))), ()), ((u44.2.1.1, ()), (((v42.2.2.2.1.1.1, (v42.2.2.2.1.1.2.1, (v42.2.2.2.1.1.2.2.1, (v42.2.2.2.1.1.2.2.2.1, (v42.2.2.2.1.1.2.2.2.2.1, ()))))), ()), ((v42.2.2.2.2.2.1.1, ()), (v42.2.2.2.2.2.2.1, (v42.2.2.2.2.2.2.2.1, (v42.2.2.2.2.2.2.2.2.1, ()))))))))))) : Option ((Bool × Unit) × (Y11 × Y18 × (Y7 × Unit) × Y11 × (Y9 × Unit) × Y2 × (List Bool) × (List Int) × Unit))).bind fun v46 =>
bif v46.1.1 then (some ((), (((v46.2.1.1.1, (v46.2.1.1.2.1, (v46.2.1.1.2.2.1, (v46.2.1.1.2.2.2.1, (v46.2.1.1.2.2.2.2.1, ()))))), ()), (((v46.2.2.1.1.1, (v46.2.2.1.1.2.1, (v46.2.2.1.1.2.2.1, (v46.2.2.1.1.2.2.2.1, (v46.2.2.1.1.2.2.2.2.1, (v46.2.2.1.1.2.2.2.2.2.1, (v46.2.2.1.1.2.2.2.2.2.2.1, (v46.2.2.1.1.2.2.2.2.2.2.2.1, ())))))))), ()), (((v46.2.2.2.1.1.1, (v46.2.2.2.1.1.2.1, (v46.2.2.2.1.1.2.2.1, (0, (v46.2.2.2.1.1.2.2.2.2.1, (v46.2.2.2.1.1.2.2.2.2.2.1, ([], v46.2.2.2.1.1.2.2.2.2.2.2.2))))))), ()), (((v46.2.2.2.2.1.1.1, (v46.2.2.2.2.1.1.2.1, (v46.2.2.2.2.1.1.2.2.1, (v46.2.2.2.2.1.1.2.2.2.1, (v46.2.2.2.2.1.1.2.2.2.2.1, ()))))), ()), ((v46.2.2.2.2.2.1.1, ()), (v46.2.2.2.2.2.2.1, (v46.2.2.2.2.2.2.2.1, (v46.2.2.2.2.2.2.2.2.1, ()))))))))))
else (some ((), (((v46.2.1.1.1, (v46.2.1.1.2.1, (v46.2.1.1.2.2.1, (v46.2.1.1.2.2.2.1, (v46.2.1.1.2.2.2.2.1, ()))))), ()), (((v46.2.2.1.1.1, (v46.2.2.1.1.2.1, (v46.2.2.1.1.2.2.1, (v46.2.2.1.1.2.2.2.1, (v46.2.2.1.1.2.2.2.2.1, (v46.2.2.1.1.2.2.2.2.2.1, (v46.2.2.1.1.2.2.2.2.2.2.1, (v46.2.2.1.1.2.2.2.2.2.2.2.1, ())))))))), ()), ((v46.2.2.2.1.1, ()), (((v46.2.2.2.2.1.1.1, (v46.2.2.2.2.1.1.2.1, (v46.2.2.2.2.1.1.2.2.1, (v46.2.2.2.2.1.1.2.2.2.1, (v46.2.2.2.2.1.1.2.2.2.2.1, ()))))), ()), ((v46.2.2.2.2.2.1.1, ()), (v46.2.2.2.2.2.2.1, (v46.2.2.2.2.2.2.2.1, (v46.2.2.2.2.2.2.2.2.1, ()))))))))))) : Option ((Unit) × (Y11 × Y18 × (Y7 × Unit) × Y11 × (Y9 × Unit) × Y2 × (List Bool) × (List Int) × Unit))).bind fun v47 =>
(m92 ((v47.2.2.2.1.1, (v47.2.2.2.2.2.1.1, ())), ())).bind fun u48 =>
bif (!u48.1.1) then (some ((true, ()), ((v47.2.2.2.1.1, ()), (((4, (v47.2.2.2.1.1.1, (v47.2.2.2.2.2.1.1.2.1, (v47.2.2.2.1.1.2.1, (0, (0, (0, (false, ())))))))), ()), ()))))
else ((m93 ((v47.2.2.2.1.1, (v47.2.2.2.2.2.1.1, ())), ())).bind fun u49 =>
bif (!u49.1.2.1) then (some ((false, ()), (((v47.2.2.2.2.1.1.1, (v47.2.2.2.2.1.1.2.1, (v47.2.2.2.2.1.1.2.2.1, (v47.2.2.2.2.1.1.2.2.2.1, (v47.2.2.2.2.2.2.1, (v47.2.2.2.2.1.1.2.2.2.2.1, (v47.2.2.2.2.2.2.2.1, (v47.2.2.2.2.2.2.2.2.1, ())))))))), ()), (((0, (0, (0, (0, (0, (0, (0, (false, ())))))))), ()), ()))))
else (let x50 := (w64 (v47.2.2.2.2.2.1.1.2.2.2.2.1 + (v47.2.2.2.2.2.1.1.2.2.2.2.2.2.2.1.length : Int)))
let x51 := (if (x50 : Int) < v47.2.2.2.2.2.1.1.2.2.2.2.2.2.1 then x50 else v47.2.2.2.2.2.1.1.2.2.2.2.2.2.1)
let x52 := (if (x51 : Int) > v47.2.2.2.1.1.2.2.2.2.2.1 then x51 else v47.2.2.2.1.1.2.2.2.2.2.1)
some ((true, ()), (((v47.2.2.2.1.1.1, (v47.2.2.2.1.1.2.1, (v47.2.2.2.1.1.2.2.1, (v47.2.2.2.1.1.2.2.2.1, (u49.1.1, (x52, v47.2.2.2.1.1.2.2.2.2.2.2)))))), ()), (((4, (v47.2.2.2.1.1.1, (v47.2.2.2.2.2.1.1.2.1, (v47.2.2.2.1.1.2.1, (x50, (0, (0, (true, ())))))))), ()), ()))))))

def sp47 : Abs.Spec := ⟨0, i47, o47, m47⟩

def an47 : Nat → Abs.FAn
  | 0 => Abs.FAn.mk (fun
    | 5 => some ⟨[51, 6, 7, 4, 9, 5], (.dat .bool (.st (.ptr (0, 0) 8 0 0) (.st (.ptr (1, 0) 9 0 0) (.st (.ptr (2, 0) 8 0 0) (.st (.ptr (3, 0) 8 0 0) (.st (.ptr (4, 0) 9 0 0) .nil)))))), (.box 8 (.agg (.dat (.int .i64) (.dat (.int .i64) (.dat (.int .i64) (.dat (.int .i64) (.st .nil (.dat (.int .i64) (.st .nil (.st .nil .nil)))))))) .nil) (.box 9 (.agg (.dat (.int .i64) (.dat (.int .i64) (.dat (.int .i64) (.dat (.int .i64) (.dat (.int .i64) (.dat (.int .i64) (.dat (.int .i64) (.st .nil (.dat .bool .nil))))))))) .nil) (.box 8 (.dat Z3 .nil) (.box 8 (.agg (.dat (.int .i64) (.dat (.int .i64) (.dat (.int .i64) (.dat (.int .i64) (.st (.own Z1 (5, 0)) (.dat (.int .i64) (.st (.own .bool (6, 0)) (.st (.own (.int .i64) (7, 0)) .nil)))))))) .nil) (.box 9 (.dat Z4 .nil) (.arr Z1 false (.arr .bool false (.arr (.int .i64) false .nil))))))))⟩
    | 2 => some ⟨[34, 6, 7, 9, 4, 5], (.dat .bool (.st (.ptr (0, 0) 8 0 0) (.st (.ptr (1, 0) 9 0 0) (.st (.ptr (2, 0) 8 0 0) (.st (.ptr (3, 0) 8 0 0) (.st (.ptr (4, 0) 9 0 0) .nil)))))), (.box 8 (.agg (.dat (.int .i64) (.dat (.int .i64) (.dat (.int .i64) (.dat (.int .i64) (.st .nil (.dat (.int .i64) (.st .nil (.st .nil .nil)))))))) .nil) (.box 9 (.agg (.dat (.int .i64) (.dat (.int .i64) (.dat (.int .i64) (.dat (.int .i64) (.dat (.int .i64) (.dat (.int .i64) (.dat (.int .i64) (.st .nil (.dat .bool .nil))))))))) .nil) (.box 8 (.agg (.dat (.int .i64) (.dat (.int .i64) (.dat (.int .i64) (.dat (.int .i64) (.st (.own Z1 (5, 0)) (.dat (.int .i64) (.st (.own .bool (6, 0)) (.st (.own (.int .i64) (7, 0)) .nil)))))))) .nil) (.box 8 (.dat Z3 .nil) (.box 9 (.dat Z4 .nil) (.arr Z1 false (.arr .bool false (.arr (.int .i64) false .nil))))))))⟩
    | _ => none) (fun
    | 7 => some (⟨[6, 7, 4, 9, 5], (.st (.ptr (0, 0) 8 0 0) (.st (.ptr (1, 0) 9 0 0) (.st (.ptr (2, 0) 8 0 0) (.st (.ptr (3, 0) 8 0 0) (.st (.ptr (4, 0) 9 0 0) .nil))))), (.box 8 (.agg (.dat (.int .i64) (.dat (.int .i64) (.dat (.int .i64) (.dat (.int .i64) (.st .nil (.dat (.int .i64) (.st .nil (.st .nil .nil)))))))) .nil) (.box 9 (.agg (.dat (.int .i64) (.dat (.int .i64) (.dat (.int .i64) (.dat (.int .i64) (.dat (.int .i64) (.dat (.int .i64) (.dat (.int .i64) (.st .nil (.dat .bool .nil))))))))) .nil) (.box 8 (.dat Z3 .nil) (.box 8 (.agg (.dat (.int .i64) (.dat (.int .i64) (.dat (.int .i64) (.dat (.int .i64) (.st (.own Z1 (5, 0)) (.dat (.int .i64) (.st (.own .bool (6, 0)) (.st (.own (.int .i64) (7, 0)) .nil)))))))) .nil) (.box 9 (.dat Z4 .nil) (.arr Z1 false (.arr .bool false (.arr (.int .i64) false .nil))))))))⟩, none)
    | _ => none) (fun _ => none) (fun _ _ => 0)
  | _ => {}

theorem ok47 : Abs.SpecOK Try.prog 47 sp47 :=
  Abs.specOC_of (C := ctab) (mv := mvtab) ctab_ok (n := 12) (an := an47) (T := Abs.tabOf [(76, sp76), (78, sp78), (79, sp79), (92, sp92), (93, sp93)]) good foll (Abs.tabOf_ok _ (by simp only [List.forall_mem_cons]; exact ⟨ok76, ok78, ok79, ok92, ok93, fun _ h => by cases h⟩)) rfl (by intro v; kernel_rfl)

def l44_0_14 (v : ((Int × Int × Int × Int × Int × Unit) × ((List Int) × Y11 × Y11 × Y2 × (List Bool) × Unit))) : Option (((Int × Int × Int × Int × Int × Unit) × ((List Int) × Y11 × Y11 × Y2 × (List Bool) × Unit)) ⊕ (Y21 × Y19)) :=
bif (decide ((v.1.1 : Int) < v.1.2.2.2.2.1)) then (((bif (decide ((0 : Int) ≤ v.1.1 ∧ (v.1.1 : Int) < v.2.1.length)) then
(v.2.1[v.1.1.toNat]?).bind fun e79 =>
bif (decide ((e79 : Int) ≥ v.1.2.2.1)) then (some (((w64 (v.1.2.1 + 1)), (v.1.2.2.1, (v.1.2.2.2.1, (v.1.2.2.2.2.1, (v.1.1, ()))))), (v.2.1, (((v.2.2.1.1.1, (v.2.2.1.1.2.1, (v.2.2.1.1.2.2.1, (v.2.2.1.1.2.2.2.1, (v.2.2.1.1.2.2.2.2.1, ()))))), ()), (((v.2.2.2.1.1.1, (v.2.2.2.1.1.2.1, (v.2.2.2.1.1.2.2.1, (v.2.2.2.1.1.2.2.2.1, (v.2.2.2.1.1.2.2.2.2.1, ()))))), ()), (v.2.2.2.2.1, (v.2.2.2.2.2.1, ())))))))
else (some ((v.1.2.1, (v.1.2.2.1, (v.1.2.2.2.1, (v.1.2.2.2.2.1, (v.1.1, ()))))), (v.2.1, (((v.2.2.1.1.1, (v.2.2.1.1.2.1, (v.2.2.1.1.2.2.1, (v.2.2.1.1.2.2.2.1, (v.2.2.1.1.2.2.2.2.1, ()))))), ()), (((v.2.2.2.1.1.1, (v.2.2.2.1.1.2.1, (v.2.2.2.1.1.2.2.1, (v.2.2.2.1.1.2.2.2.1, (v.2.2.2.1.1.2.2.2.2.1, ()))))), ()), (v.2.2.2.2.1, (v.2.2.2.2.2.1, ())))))))
else none) : Option ((Int × Int × Int × Int × Int × Unit) × ((List Int) × Y11 × Y11 × Y2 × (List Bool) × Unit))).bind fun v80 =>
some (.inl (((w64 (v80.1.2.2.2.2.1 + 1)), (v80.1.1, (v80.1.2.1, (v80.1.2.2.1, (v80.1.2.2.2.1, ()))))), (v80.2.1, (((v80.2.2.1.1.1, (v80.2.2.1.1.2.1, (v80.2.2.1.1.2.2.1, (v80.2.2.1.1.2.2.2.1, (v80.2.2.1.1.2.2.2.2.1, ()))))), ()), (((v80.2.2.2.1.1.1, (v80.2.2.2.1.1.2.1, (v80.2.2.2.1.1.2.2.1, (v80.2.2.2.1.1.2.2.2.1, (v80.2.2.2.1.1.2.2.2.2.1, ()))))), ()), (v80.2.2.2.2.1, (v80.2.2.2.2.2.1, ()))))))))
else (some (.inr ((v.1.2.2.2.1, (v.1.2.2.1, (v.1.2.1, ()))), (((v.2.2.1.1.1, (v.2.2.1.1.2.1, (v.2.2.1.1.2.2.1, (v.2.2.1.1.2.2.2.1, (v.2.2.1.1.2.2.2.2.1, ()))))), ()), (((v.2.2.2.1.1.1, (v.2.2.2.1.1.2.1, (v.2.2.2.1.1.2.2.1, (v.2.2.2.1.1.2.2.2.1, (v.2.2.2.1.1.2.2.2.2.1, ()))))), ()), (v.2.2.2.2.1, (v.2.2.2.2.2.1, (v.2.1, ()))))))))

def l44_0_10 (v : ((Int × Int × Unit) × Y19)) : Option (((Int × Int × Unit) × Y19) ⊕ ((Unit) × Y19)) :=
bif (decide ((v.1.1 : Int) > v.2.1.1.2.2.2.2.1)) then ((((loopT l44_0_14 ((0, (0, (v.1.1, (v.1.2.1, (((v.2.2.2.2.2.1.length : Nat) : Int), ()))))), (v.2.2.2.2.2.1, (((v.2.1.1.1, (v.2.1.1.2.1, (v.2.1.1.2.2.1, (v.2.1.1.2.2.2.1, (v.2.1.1.2.2.2.2.1, ()))))), ()), (((v.2.2.1.1.1, (v.2.2.1.1.2.1, (v.2.2.1.1.2.2.1, (v.2.2.1.1.2.2.2.1, (v.2.2.1.1.2.2.2.2.1, ()))))), ()), (v.2.2.2.1, (v.2.2.2.2.1, ()))))))).bind fun d81 =>
(((m28 ((d81.1.1, ()), ())).bind fun u82 =>
bif (decide ((d81.1.2.2.1 : Int) ≥ u82.1.1)) then (bif (decide ((0 : Int) ≤ (w64 (d81.1.2.1 - 1)) ∧ ((w64 (d81.1.2.1 - 1)) : Int) < d81.2.2.2.1.length)) then
(d81.2.2.2.1[(w64 (d81.1.2.1 - 1)).toNat]?).bind fun e83 =>
some ((((e83.1 : Int) == d81.2.1.1.2.1), (d81.1.1, (d81.1.2.1, ()))), (((d81.2.1.1.1, (d81.2.1.1.2.1, (d81.2.1.1.2.2.1, (d81.2.1.1.2.2.2.1, (d81.2.1.1.2.2.2.2.1, ()))))), ()), (((d81.2.2.1.1.1, (d81.2.2.1.1.2.1, (d81.2.2.1.1.2.2.1, (d81.2.2.1.1.2.2.2.1, (d81.2.2.1.1.2.2.2.2.1, ()))))), ()), (d81.2.2.2.1, (d81.2.2.2.2.1, (d81.2.2.2.2.2.1, ()))))))
else none)
else (some ((false, (d81.1.1, (d81.1.2.1, ()))), (((d81.2.1.1.1, (d81.2.1.1.2.1, (d81.2.1.1.2.2.1, (d81.2.1.1.2.2.2.1, (d81.2.1.1.2.2.2.2.1, ()))))), ()), (((d81.2.2.1.1.1, (d81.2.2.1.1.2.1, (d81.2.2.1.1.2.2.1, (d81.2.2.1.1.2.2.2.1, (d81.2.2.1.1.2.2.2.2.1, ()))))), ()), (d81.2.2.2.1, (d81.2.2.2.2.1, (d81.2.2.2.2.2.1, ())))))))) : Option ((Bool × Int × Int × Unit) × Y19)).bind fun v84 =>
bif v84.1.1 then (some ((v84.1.2.1, (v84.1.2.2.1, ())), (((v84.2.1.1.1, (v84.2.1.1.2.1, (v84.2.1.1.2.2.1, (v84.2.1.1.2.2.2.1, (v84.1.2.2.1, ()))))), ()), (((v84.2.2.1.1.1, (v84.2.2.1.1.2.1, (v84.2.2.1.1.2.2.1, (v84.2.2.1.1.2.2.2.1, (v84.2.2.1.1.2.2.2.2.1, ()))))), ()), (v84.2.2.2.1, (v84.2.2.2.2.1, (v84.2.2.2.2.2.1, ())))))))
else (some ((v84.1.2.1, (v84.1.2.2.1, ())), (((v84.2.1.1.1, (v84.2.1.1.2.1, (v84.2.1.1.2.2.1, (v84.2.1.1.2.2.2.1, (v84.2.1.1.2.2.2.2.1, ()))))), ()), (((v84.2.2.1.1.1, (v84.2.2.1.1.2.1, (v84.2.2.1.1.2.2.1, (v84.2.2.1.1.2.2.2.1, (v84.2.2.1.1.2.2.2.2.1, ()))))), ()), (v84.2.2.2.1, (v84.2.2.2.2.1, (v84.2.2.2.2.2.1, ())))))))) : Option ((Int × Int × Unit) × Y19)).bind fun v85 =>
some (.inl (((w64 (v85.1.2.1 - 1)), (v85.1.1, ())), (((v85.2.1.1.1, (v85.2.1.1.2.1, (v85.2.1.1.2.2.1, (v85.2.1.1.2.2.2.1, (v85.2.1.1.2.2.2.2.1, ()))))), ()), (((v85.2.2.1.1.1, (v85.2.2.1.1.2.1, (v85.2.2.1.1.2.2.1, (v85.2.2.1.1.2.2.2.1, (v85.2.2.1.1.2.2.2.2.1, ()))))), ()), (v85.2.2.2.1, (v85.2.2.2.2.1, (v85.2.2.2.2.2.1, ()))))))))
else (some (.inr ((), (((v.2.2.1.1.1, (v.2.2.1.1.2.1, (v.2.2.1.1.2.2.1, (v.2.2.1.1.2.2.2.1, (v.2.2.1.1.2.2.2.2.1, ()))))), ()), (((v.2.1.1.1, (v.2.1.1.2.1, (v.2.1.1.2.2.1, (v.2.1.1.2.2.2.1, (v.2.1.1.2.2.2.2.1, ()))))), ()), (v.2.2.2.1, (v.2.2.2.2.1, (v.2.2.2.2.2.1, ()))))))))

/- pagewatch/replica.Appended -/
def i44 : Abs.Sg := ⟨[0, 1, 2], (.dat (.int .i64) (.dat Z3 (.dat Z4 .nil))), .nil⟩

def o44 : Abs.Sg := ⟨[6], (.st (.ptr (0, 0) 8 0 0) .nil), (.box 8 (.dat Z3 .nil) .nil)⟩

def m44 (v : ((Int × Y7 × Y9 × Unit) × (Unit))) : Option ((Unit) × ((Y7 × Unit) × Unit)) :=
(m76 ((v.1.2.1, ()), ())).bind fun u71 =>
(m78 ((v.1.1, ((u71.2.1.1.1, (u71.2.1.1.2.1, (u71.2.1.1.2.2.1, (u71.2.1.1.2.2.2.1, (u71.2.2.1, (u71.2.1.1.2.2.2.2.1, (u71.2.2.2.1, (u71.2.2.2.2.1, ())))))))), (v.1.2.2.1, (4, ())))), ())).bind fun u72 =>
bif (!u72.1.1) then (some ((), (((u71.2.1.1.1, (u71.2.1.1.2.1, (u71.2.1.1.2.2.1, (u71.2.1.1.2.2.2.1, (u71.2.2.1, (u71.2.1.1.2.2.2.2.1, (u71.2.2.2.1, (u71.2.2.2.2.1, ())))))))), ()), ())))
else (let x73 := (decide ((v.1.2.2.1.2.2.2.1 : Int) > u71.2.1.1.2.1))
bif x73 then ((m79 (((u71.2.1.1.1, (u71.2.1.1.2.1, (u71.2.1.1.2.2.1, (u71.2.1.1.2.2.2.1, (u71.2.2.1, (u71.2.1.1.2.2.2.2.1, (u71.2.2.2.1, (u71.2.2.2.2.1, ())))))))), (v.1.2.2.1.2.2.2.1, ())), ())).bind fun u74 =>
some ((), ((u74.2.1.1, ()), ())))
else (((bif ((u71.2.1.1.2.2.2.1 : Int) != 2) then (some ((true, (v.1.1, ())), (((0, (0, (0, (0, (0, ()))))), ()), (((u71.2.1.1.1, (u71.2.1.1.2.1, (u71.2.1.1.2.2.1, (u71.2.1.1.2.2.2.1, (u71.2.1.1.2.2.2.2.1, ()))))), ()), ((v.1.2.2.1, ()), (u71.2.2.1, (u71.2.2.2.1, (u71.2.2.2.2.1, ()))))))))
else (bif ((v.1.2.2.1.2.2.2.1 : Int) != u71.2.1.1.2.1) then (some ((true, (v.1.1, ())), (((0, (0, (0, (0, (0, ()))))), ()), (((u71.2.1.1.1, (u71.2.1.1.2.1, (u71.2.1.1.2.2.1, (u71.2.1.1.2.2.2.1, (u71.2.1.1.2.2.2.2.1, ()))))), ()), ((v.1.2.2.1, ()), (u71.2.2.1, (u71.2.2.2.1, (u71.2.2.2.2.1, ()))))))))
else (bif (!v.1.2.2.1.2.2.2.2.2.2.2.2.1) then (some ((true, (v.1.1, ())), (((0, (0, (0, (0, (0, ()))))), ()), (((u71.2.1.1.1, (u71.2.1.1.2.1, (u71.2.1.1.2.2.1, (u71.2.1.1.2.2.2.1, (u71.2.1.1.2.2.2.2.1, ()))))), ()), ((v.1.2.2.1, ()), (u71.2.2.1, (u71.2.2.2.1, (u71.2.2.2.2.1, ()))))))))
else (bif (decide ((v.1.2.2.1.2.2.2.2.1 : Int) < 0)) then (some ((true, (v.1.1, ())), (((0, (0, (0, (0, (0, ()))))), ()), (((u71.2.1.1.1, (u71.2.1.1.2.1, (u71.2.1.1.2.2.1, (u71.2.1.1.2.2.2.1, (u71.2.1.1.2.2.2.2.1, ()))))), ()), ((v.1.2.2.1, ()), (u71.2.2.1, (u71.2.2.2.1, (u71.2.2.2.2.1, ()))))))))
else (let x75 := (decide ((v.1.2.2.1.2.2.2.2.1 : Int) > ((u71.2.2.1.length : Nat) : Int)))
some ((x75, (v.1.1, ())), (((0, (0, (0, (0, (0, ()))))), ()), (((u71.2.1.1.1, (u71.2.1.1.2.1, (u71.2.1.1.2.2.1, (u71.2.1.1.2.2.2.1, (u71.2.1.1.2.2.2.2.1, ()))))), ()), ((v.1.2.2.1, ()), (u71.2.2.1, (u71.2.2.2.1, (u71.2.2.2.2.1, ())))))))))))) : Option ((Bool × Int × Unit) × (Y11 × Y11 × (Y9 × Unit) × Y2 × (List Bool) × (List Int) × Unit))).bind fun v76 =>
bif v76.1.1 then (some ((), (((v76.2.2.1.1.1, (v76.2.2.1.1.2.1, (v76.2.2.1.1.2.2.1, (v76.2.2.1.1.2.2.2.1, (v76.2.2.2.2.1, (v76.2.2.1.1.2.2.2.2.1, (v76.2.2.2.2.2.1, (v76.2.2.2.2.2.2.1, ())))))))), ()), ())))
else (bif (decide ((0 : Int) ≤ v76.2.2.2.1.1.2.1 ∧ (v76.2.2.2.1.1.2.1 : Int) < v76.2.2.2.2.2.2.1.length)) then
(v76.2.2.2.2.2.2.1[v76.2.2.2.1.1.2.1.toNat]?).bind fun e77 =>
let x78 := (if (v76.2.2.2.1.1.2.2.2.2.1 : Int) > e77 then v76.2.2.2.1.1.2.2.2.2.1 else e77)
bif (decide ((0 : Int) ≤ v76.2.2.2.1.1.2.1 ∧ (v76.2.2.2.1.1.2.1 : Int) < v76.2.2.2.2.2.2.1.length)) then
bif (decide (v76.2.2.2.1.1.2.1.toNat < v76.2.2.2.2.2.2.1.length)) then
(loopT l44_0_10 ((((v76.2.2.2.2.1.length : Nat) : Int), (v76.1.2.1, ())), (((v76.2.2.1.1.1, (v76.2.2.1.1.2.1, (v76.2.2.1.1.2.2.1, (v76.2.2.1.1.2.2.2.1, (v76.2.2.1.1.2.2.2.2.1, ()))))), ()), (((v76.2.1.1.1, (v76.2.1.1.2.1, (v76.2.1.1.2.2.1, (v76.2.1.1.2.2.2.1, (v76.2.1.1.2.2.2.2.1, ()))))), ()), (v76.2.2.2.2.1, (v76.2.2.2.2.2.1, ((v76.2.2.2.2.2.2.1.set v76.2.2.2.1.1.2.1.toNat x78), ()))))))).bind fun d86 =>
some ((), (((d86.2.2.1.1.1, (d86.2.2.1.1.2.1, (d86.2.2.1.1.2.2.1, (d86.2.2.1.1.2.2.2.1, (d86.2.2.2.1, (d86.2.2.1.1.2.2.2.2.1, (d86.2.2.2.2.1, (d86.2.2.2.2.2.1, ())))))))), ()), ()))
else none
else none
else none)))

def sp44 : Abs.Spec := ⟨0, i44, o44, m44⟩

def an44 : Nat → Abs.FAn
  | 0 => Abs.FAn.mk (fun
    | 19 => some ⟨[108, 4, 0, 6, 7], (.dat .bool (.st (.ptr (0, 0) 8 0 0) (.dat (.int .i64) (.st (.ptr (1, 0) 8 0 0) (.dat (.int .i64) .nil))))), (.box 8 (.agg (.dat (.int .i64) (.dat (.int .i64) (.dat (.int .i64) (.dat (.int .i64) (.st (.own Z1 (2, 0)) (.dat (.int .i64) (.st (.own .bool (3, 0)) (.st (.own (.int .i64) (4, 0)) .nil)))))))) .nil) (.box 8 (.agg (.dat (.int .i64) (.dat (.int .i64) (.dat (.int .i64) (.dat (.int .i64) (.st .nil (.dat (.int .i64) (.st .nil (.st .nil .nil)))))))) .nil) (.arr Z1 false (.arr .bool false (.arr (.int .i64) false .nil)))))⟩
    | 6 => some ⟨[55, 6, 4, 0, 5], (.dat .bool (.st (.ptr (0, 0) 8 0 0) (.st (.ptr (1, 0) 8 0 0) (.dat (.int .i64) (.st (.ptr (2, 0) 9 0 0) .nil))))), (.box 8 (.agg (.dat (.int .i64) (.dat (.int .i64) (.dat (.int .i64) (.dat (.int .i64) (.st .nil (.dat (.int .i64) (.st .nil (.st .nil .nil)))))))) .nil) (.box 8 (.agg (.dat (.int .i64) (.dat (.int .i64) (.dat (.int .i64) (.dat (.int .i64) (.st (.own Z1 (3, 0)) (.dat (.int .i64) (.st (.own .bool (4, 0)) (.st (.own (.int .i64) (5, 0)) .nil)))))))) .nil) (.box 9 (.dat Z4 .nil) (.arr Z1 false (.arr .bool false (.arr (.int .i64) false .nil))))))⟩
    | _ => none) (fun
    | 11 => some (⟨[4, 0, 6, 7], (.st (.ptr (0, 0) 8 0 0) (.dat (.int .i64) (.st (.ptr (1, 0) 8 0 0) (.dat (.int .i64) .nil)))), (.box 8 (.agg (.dat (.int .i64) (.dat (.int .i64) (.dat (.int .i64) (.dat (.int .i64) (.st (.own Z1 (2, 0)) (.dat (.int .i64) (.st (.own .bool (3, 0)) (.st (.own (.int .i64) (4, 0)) .nil)))))))) .nil) (.box 8 (.agg (.dat (.int .i64) (.dat (.int .i64) (.dat (.int .i64) (.dat (.int .i64) (.st .nil (.dat (.int .i64) (.st .nil (.st .nil .nil)))))))) .nil) (.arr Z1 false (.arr .bool false (.arr (.int .i64) false .nil)))))⟩, none)
    | 18 => some (⟨[8, 7, 81, 4, 0, 6, 82, 83], (.dat (.int .i64) (.dat (.int .i64) (.st (.own (.int .i64) (0, 0)) (.st (.ptr (1, 0) 8 0 0) (.dat (.int .i64) (.st (.ptr (2, 0) 8 0 0) (.dat (.int .i64) (.dat (.int .i64) .nil)))))))), (.arr (.int .i64) false (.box 8 (.agg (.dat (.int .i64) (.dat (.int .i64) (.dat (.int .i64) (.dat (.int .i64) (.st (.own Z1 (3, 0)) (.dat (.int .i64) (.st (.own .bool (4, 0)) (.st (.own (.int .i64) (0, 0)) .nil)))))))) .nil) (.box 8 (.agg (.dat (.int .i64) (.dat (.int .i64) (.dat (.int .i64) (.dat (.int .i64) (.st .nil (.dat (.int .i64) (.st .nil (.st .nil .nil)))))))) .nil) (.arr Z1 false (.arr .bool false .nil)))))⟩, none)
    | _ => none) (fun
    | 10 => some ⟨⟨[7, 4, 0, 6], (.dat (.int .i64) (.st (.ptr (0, 0) 8 0 0) (.dat (.int .i64) (.st (.ptr (1, 0) 8 0 0) .nil)))), (.box 8 (.agg (.dat (.int .i64) (.dat (.int .i64) (.dat (.int .i64) (.dat (.int .i64) (.st (.own Z1 (2, 0)) (.dat (.int .i64) (.st (.own .bool (3, 0)) (.st (.own (.int .i64) (4, 0)) .nil)))))))) .nil) (.box 8 (.agg (.dat (.int .i64) (.dat (.int .i64) (.dat (.int .i64) (.dat (.int .i64) (.st .nil (.dat (.int .i64) (.st .nil (.st .nil .nil)))))))) .nil) (.arr Z1 false (.arr .bool false (.arr (.int .i64) false .nil)))))⟩, (.one (.exit 0) ⟨[6, 4], (.st (.ptr (0, 0) 8 0 0) (.st (.ptr (1, 0) 8 0 0) .nil)), (.box 8 (.agg (.dat (.int .i64) (.dat (.int .i64) (.dat (.int .i64) (.dat (.int .i64) (.st .nil (.dat (.int .i64) (.st .nil (.st .nil .nil)))))))) .nil) (.box 8 (.agg (.dat (.int .i64) (.dat (.int .i64) (.dat (.int .i64) (.dat (.int .i64) (.st (.own Z1 (2, 0)) (.dat (.int .i64) (.st (.own .bool (3, 0)) (.st (.own (.int .i64) (4, 0)) .nil)))))))) .nil) (.arr Z1 false (.arr .bool false (.arr (.int .i64) false .nil)))))⟩)⟩
    | 14 => some ⟨⟨[83, 8, 7, 81, 4, 0, 6, 82], (.dat (.int .i64) (.dat (.int .i64) (.dat (.int .i64) (.st (.own (.int .i64) (0, 0)) (.st (.ptr (1, 0) 8 0 0) (.dat (.int .i64) (.st (.ptr (2, 0) 8 0 0) (.dat (.int .i64) .nil)))))))), (.arr (.int .i64) false (.box 8 (.agg (.dat (.int .i64) (.dat (.int .i64) (.dat (.int .i64) (.dat (.int .i64) (.st (.own Z1 (3, 0)) (.dat (.int .i64) (.st (.own .bool (4, 0)) (.st (.own (.int .i64) (0, 0)) .nil)))))))) .nil) (.box 8 (.agg (.dat (.int .i64) (.dat (.int .i64) (.dat (.int .i64) (.dat (.int .i64) (.st .nil (.dat (.int .i64) (.st .nil (.st .nil .nil)))))))) .nil) (.arr Z1 false (.arr .bool false .nil)))))⟩, (.one (.exit 2) ⟨[4, 0, 6, 7, 8], (.st (.ptr (0, 0) 8 0 0) (.dat (.int .i64) (.st (.ptr (1, 0) 8 0 0) (.dat (.int .i64) (.dat (.int .i64) .nil))))), (.box 8 (.agg (.dat (.int .i64) (.dat (.int .i64) (.dat (.int .i64) (.dat (.int .i64) (.st (.own Z1 (2, 0)) (.dat (.int .i64) (.st (.own .bool (3, 0)) (.st (.own (.int .i64) (4, 0)) .nil)))))))) .nil) (.box 8 (.agg (.dat (.int .i64) (.dat (.int .i64) (.dat (.int .i64) (.dat (.int .i64) (.st .nil (.dat (.int .i64) (.st .nil (.st .nil .nil)))))))) .nil) (.arr Z1 false (.arr .bool false (.arr (.int .i64) false .nil)))))⟩)⟩
    | _ => none) (fun _ _ => 0)
  | _ => {}

theorem ok44 : Abs.SpecOK Try.prog 44 sp44 :=
  Abs.specOC_of (C := ctab) (mv := mvtab) ctab_ok (n := 12) (an := an44) (T := Abs.tabOf [(76, sp76), (78, sp78), (79, sp79), (28, sp28)]) good foll (Abs.tabOf_ok _ (by simp only [List.forall_mem_cons]; exact ⟨ok76, ok78, ok79, ok28, fun _ h => by cases h⟩)) rfl (by intro v; kernel_rfl)

def l50_0_3 (v : ((Int × Y2 × Int × Unit) × ((List Y10) × Unit))) : Option (((Int × Y2 × Int × Unit) × ((List Y10) × Unit)) ⊕ ((Unit) × ((List Y10) × Unit))) :=
bif (decide ((v.1.1 : Int) < v.1.2.2.1)) then (Abs.rowAt v.1.2.1 v.1.1 fun e26 _ =>
bif (decide (v.2.1.length + ([e26.2.1] : List Y10).length ≤ 4294967296)) then
let x27 := (v.2.1 ++ ([e26.2.1] : List Y10))
some (.inl (((w64 (v.1.1 + 1)), (v.1.2.1, (v.1.2.2.1, ()))), (x27, ())))
else none)
else (some (.inr ((), (v.2.1, ()))))

/- pagewatch/replica.Committed -/
def i50 : Abs.Sg := ⟨[0], (.dat Z3 .nil), .nil⟩

def o50 : Abs.Sg := ⟨[2], (.st (.own Z6 (0, 0)) .nil), (.arr Z6 false .nil)⟩

def m50 (v : ((Y7 × Unit) × (Unit))) : Option ((Unit) × ((List Y10) × Unit)) :=
let x24 := (if ((v.1.1.2.2.2.2.1.length : Int) : Int) < v.1.1.2.2.2.2.2.1 then (v.1.1.2.2.2.2.1.length : Int) else v.1.1.2.2.2.2.2.1)
bif (decide ((0 : Int) ≤ (if (x24 : Int) > 0 then x24 else 0))) then
bif (decide (0 ≤ (if (x24 : Int) > 0 then x24 else 0).toNat ∧ (if (x24 : Int) > 0 then x24 else 0).toNat ≤ v.1.1.2.2.2.2.1.length)) then
let x25 := (v.1.1.2.2.2.2.1.take (if (x24 : Int) > 0 then x24 else 0).toNat)
(loopT l50_0_3 ((0, (x25, ((x25.length : Int), ()))), ([], ()))).bind fun d28 =>
some ((), (d28.2.1, ()))
else none
else none

def sp50 : Abs.Spec := ⟨0, i50, o50, m50⟩

def an50 : Nat → Abs.FAn
  | 0 => Abs.FAn.mk (fun _ => none) (fun _ => none) (fun
    | 3 => some ⟨⟨[17, 3, 15, 16], (.dat (.int .i64) (.st (.own Z6 (0, 0)) (.dat (.row Z1) (.dat (.int .i64) .nil)))), (.arr Z6 false .nil)⟩, (.one (.exit 0) ⟨[3], (.st (.own Z6 (0, 0)) .nil), (.arr Z6 false .nil)⟩)⟩
    | _ => none) (fun _ _ => 0)
  | _ => {}

theorem ok50 : Abs.SpecOK Try.prog 50 sp50 :=
  Abs.specOC_of (C := ctab) (mv := mvtab) ctab_ok (n := 12) (an := an50) (T := Abs.tabOf []) good foll (Abs.tabOf_ok _ (fun _ h => by cases h)) rfl (by intro v; kernel_rfl)

def o7 : Abs.Sg := ⟨[2], (.dat .bool .nil), .nil⟩

def l51_0_4 (v : ((Int × (List Y10) × (List Y10) × Unit) × (Unit))) : Option (((Int × (List Y10) × (List Y10) × Unit) × (Unit)) ⊕ (Y16 ⊕ ((Unit) × (Unit)))) :=
let x35 := (decide ((v.1.1 : Int) < (v.1.2.2.1.length : Int)))
bif x35 then (Abs.rowAt v.1.2.2.1 v.1.1 fun e36 _ =>
Abs.rowAt v.1.2.1 v.1.1 fun e37 _ =>
let x38 := (!(((e36.1 : Int) == e37.1) && (((e36.2.1 : Int) == e37.2.1) && (((e36.2.2.1 : Int) == e37.2.2.1) && (((e36.2.2.2.1 : Int) == e37.2.2.2.1) && (((e36.2.2.2.2.1 : Int) == e37.2.2.2.2.1) && (((e36.2.2.2.2.2.1 : Int) == e37.2.2.2.2.2.1) && (((e36.2.2.2.2.2.2.1 : Int) == e37.2.2.2.2.2.2.1) && (((e36.2.2.2.2.2.2.2.1 : Int) == e37.2.2.2.2.2.2.2.1) && (((e36.2.2.2.2.2.2.2.2.1 : Int) == e37.2.2.2.2.2.2.2.2.1) && ((((e36.2.2.2.2.2.2.2.2.2.1.1 : Int) == e37.2.2.2.2.2.2.2.2.2.1.1) && (((e36.2.2.2.2.2.2.2.2.2.1.2.1 : Int) == e37.2.2.2.2.2.2.2.2.2.1.2.1) && (((e36.2.2.2.2.2.2.2.2.2.1.2.2.1 : Int) == e37.2.2.2.2.2.2.2.2.2.1.2.2.1) && (((e36.2.2.2.2.2.2.2.2.2.1.2.2.2.1 : Int) == e37.2.2.2.2.2.2.2.2.2.1.2.2.2.1) && (((e36.2.2.2.2.2.2.2.2.2.1.2.2.2.2.1 : Int) == e37.2.2.2.2.2.2.2.2.2.1.2.2.2.2.1) && (((e36.2.2.2.2.2.2.2.2.2.1.2.2.2.2.2.1 : Int) == e37.2.2.2.2.2.2.2.2.2.1.2.2.2.2.2.1) && true)))))) && ((((e36.2.2.2.2.2.2.2.2.2.2.1.1 : Int) == e37.2.2.2.2.2.2.2.2.2.2.1.1) && (((e36.2.2.2.2.2.2.2.2.2.2.1.2.1 : Int) == e37.2.2.2.2.2.2.2.2.2.2.1.2.1) && (((e36.2.2.2.2.2.2.2.2.2.2.1.2.2.1 : Int) == e37.2.2.2.2.2.2.2.2.2.2.1.2.2.1) && (((e36.2.2.2.2.2.2.2.2.2.2.1.2.2.2.1 : Int) == e37.2.2.2.2.2.2.2.2.2.2.1.2.2.2.1) && (((e36.2.2.2.2.2.2.2.2.2.2.1.2.2.2.2.1 : Int) == e37.2.2.2.2.2.2.2.2.2.2.1.2.2.2.2.1) && true))))) && true))))))))))))
bif x38 then (some (.inr (.inl ((false, ()), ()))))
else (some (.inl (((w64 (v.1.1 + 1)), (v.1.2.1, (v.1.2.2.1, ()))), ()))))
else (some (.inr (.inr ((), ()))))

/- pagewatch/pagewatchref34.SameOps -/
def i51 : Abs.Sg := ⟨[0, 1], (.dat (.row Z6) (.dat (.row Z6) .nil)), .nil⟩

def o51 : Abs.Sg := ⟨[4], (.dat .bool .nil), .nil⟩

def m51 (v : (((List Y10) × (List Y10) × Unit) × (Unit))) : Option Y16 :=
let x34 := (((v.1.1.length : Int) : Int) != (v.1.2.1.length : Int))
bif x34 then (some ((false, ()), ()))
else ((loopT l51_0_4 ((0, (v.1.2.1, (v.1.1, ()))), ())).bind fun d39 =>
sumE d39 (fun d40 => (some ((d40.1.1, ()), ()))) (fun d41 => (some ((true, ()), ()))))

def sp51 : Abs.Spec := ⟨0, i51, o51, m51⟩

def an51 : Nat → Abs.FAn
  | 0 => Abs.FAn.mk (fun _ => none) (fun _ => none) (fun
    | 4 => some ⟨⟨[5, 1, 0], (.dat (.int .i64) (.dat (.row Z6) (.dat (.row Z6) .nil))), .nil⟩, (.more .ret ⟨[4], (.dat .bool .nil), .nil⟩ (.one (.exit 0) ⟨[], .nil, .nil⟩))⟩
    | _ => none) (fun _ _ => 0)
  | _ => {}

theorem ok51 : Abs.SpecOK Try.prog 51 sp51 :=
  Abs.specOC_of (C := ctab) (mv := mvtab) ctab_ok (n := 12) (an := an51) (T := Abs.tabOf []) good foll (Abs.tabOf_ok _ (fun _ h => by cases h)) rfl (by intro v; kernel_rfl)

/- pagewatch/region.in -/
def i99 : Abs.Sg := ⟨[0, 1, 2], (.dat (.int .i64) (.dat (.int .i64) (.dat (.int .i64) .nil))), .nil⟩

def o99 : Abs.Sg := ⟨[6], (.dat .bool .nil), .nil⟩

def m99 (v : (Y21 × (Unit))) : Option Y16 :=
((bif (decide ((v.1.1 : Int) ≥ v.1.2.1)) then (some (((decide ((v.1.1 : Int) ≤ v.1.2.2.1)), ()), ()))
else (some ((false, ()), ()))) : Option Y16).bind fun v1 =>
some ((v1.1.1, ()), ())

def sp99 : Abs.Spec := ⟨0, i99, o99, m99⟩

def an99 : Nat → Abs.FAn
  | 0 => Abs.FAn.mk (fun
    | 1 => some ⟨[6], (.dat .bool .nil), .nil⟩
    | _ => none) (fun _ => none) (fun _ => none) (fun _ _ => 0)
  | _ => {}

theorem ok99 : Abs.SpecOK Try.prog 99 sp99 :=
  Abs.specOC_of (C := ctab) (mv := mvtab) ctab_ok (n := 12) (an := an99) (T := Abs.tabOf []) good foll (Abs.tabOf_ok _ (fun _ h => by cases h)) rfl (by intro v; kernel_rfl)

def l61_0_5 (v : (Y21 × (((Unit) × Unit) × ((Unit) × Unit) × (List Y7) × (List Bool) × Unit))) : Option ((Y21 × (((Unit) × Unit) × ((Unit) × Unit) × (List Y7) × (List Bool) × Unit)) ⊕ ((Unit) × (((Unit) × Unit) × ((Unit) × Unit) × (List Y7) × (List Bool) × Unit))) :=
bif (decide ((v.1.1 : Int) < v.1.2.2.1)) then ((m39 ((v.1.1, (v.1.2.1, ())), ())).bind fun u27 =>
bif (decide (v.2.2.2.1.length + ([(u27.2.1.1.1, (u27.2.1.1.2.1, (u27.2.1.1.2.2.1, (u27.2.1.1.2.2.2.1, ([], (u27.2.1.1.2.2.2.2.1, ([], ([], ()))))))))] : List Y7).length ≤ 4294967296)) then
let x28 := (v.2.2.2.1 ++ ([(u27.2.1.1.1, (u27.2.1.1.2.1, (u27.2.1.1.2.2.1, (u27.2.1.1.2.2.2.1, ([], (u27.2.1.1.2.2.2.2.1, ([], ([], ()))))))))] : List Y7))
some (.inl (((w64 (v.1.1 + 1)), (v.1.2.1, (v.1.2.2.1, ()))), (((), ()), (((), ()), (x28, (v.2.2.2.2.1, ()))))))
else none)
else (some (.inr ((), (((), ()), (((), ()), (v.2.2.2.1, (v.2.2.2.2.1, ())))))))

/- pagewatch/region.New -/
def i61 : Abs.Sg := ⟨[0], (.dat (.int .i64) .nil), .nil⟩

def o61 : Abs.Sg := ⟨[2, 3], (.st (.ptr (0, 0) 4 0 0) (.dat (.int .i64) .nil)), (.box 4 (.agg (.st (.own Z3 (1, 0)) (.st .nil (.st (.own .bool (2, 0)) (.st .nil .nil)))) .nil) (.arr Z3 false (.arr .bool false .nil)))⟩

def m61 (v : ((Int × Unit) × (Unit))) : Option ((Int × Unit) × (((Unit) × Unit) × (List Y7) × (List Bool) × Unit)) :=
(m99 ((v.1.1, (1, (5, ()))), ())).bind fun u26 =>
bif (!u26.1.1) then (some ((1, ()), (((), ()), ([], ([], ())))))
else (bif (decide ((0 : Int) ≤ v.1.1 ∧ (v.1.1 : Int) ≤ v.1.1 ∧ (v.1.1 : Int) ≤ 4294967296)) then
(loopT l61_0_5 ((0, (v.1.1, (v.1.1, ()))), (((), ()), (((), ()), ([], ((List.replicate v.1.1.toNat (false : Bool)), ())))))).bind fun d29 =>
some ((0, ()), (((), ()), (d29.2.2.2.1, (d29.2.2.2.2.1, ()))))
else none)

def sp61 : Abs.Spec := ⟨0, i61, o61, m61⟩

def an61 : Nat → Abs.FAn
  | 0 => Abs.FAn.mk (fun _ => none) (fun _ => none) (fun
    | 5 => some ⟨⟨[16, 4, 0, 2, 15], (.dat (.int .i64) (.st (.ptr (0, 0) 4 0 0) (.dat (.int .i64) (.st (.ptr (1, 0) 4 0 0) (.dat (.int .i64) .nil))))), (.box 4 (.agg (.st (.own Z3 (2, 0)) (.st .nil (.st (.own .bool (3, 0)) (.st .nil .nil)))) .nil) (.box 4 (.agg (.st .nil (.st .nil (.st .nil (.st .nil .nil)))) .nil) (.arr Z3 false (.arr .bool false .nil))))⟩, (.one (.exit 0) ⟨[2, 4], (.st (.ptr (0, 0) 4 0 0) (.st (.ptr (1, 0) 4 0 0) .nil)), (.box 4 (.agg (.st .nil (.st .nil (.st .nil (.st .nil .nil)))) .nil) (.box 4 (.agg (.st (.own Z3 (2, 0)) (.st .nil (.st (.own .bool (3, 0)) (.st .nil .nil)))) .nil) (.arr Z3 false (.arr .bool false .nil))))⟩)⟩
    | _ => none) (fun _ _ => 0)
  | _ => {}

theorem ok61 : Abs.SpecOK Try.prog 61 sp61 :=
  Abs.specOC_of (C := ctab) (mv := mvtab) ctab_ok (n := 12) (an := an61) (T := Abs.tabOf [(99, sp99), (39, sp39)]) good foll (Abs.tabOf_ok _ (by simp only [List.forall_mem_cons]; exact ⟨ok99, ok39, fun _ h => by cases h⟩)) rfl (by intro v; kernel_rfl)

def l134_0_2 (v : ((Int × (List (Int × Int × Unit)) × Int × Unit) × (((Int × Int × Unit) × Unit) × Unit))) : Option (((Int × (List (Int × Int × Unit)) × Int × Unit) × (((Int × Int × Unit) × Unit) × Unit)) ⊕ (((Int × Unit) × (Unit)) ⊕ ((Unit) × (Unit)))) :=
bif (decide ((v.1.1 : Int) < v.1.2.2.1)) then (Abs.rowAt v.1.2.1 v.1.1 fun e19 _ =>
let x20 := (((v.2.1.1.1 : Int) == e19.1) && (((v.2.1.1.2.1 : Int) == e19.2.1) && true))
bif x20 then (some (.inr (.inl ((v.1.1, ()), ()))))
else (some (.inl (((w64 (v.1.1 + 1)), (v.1.2.1, (v.1.2.2.1, ()))), ((v.2.1.1, ()), ())))))
else (some (.inr (.inr ((), ()))))

/- slices.Index[[][2]int,[2]int] -/
def i134 : Abs.Sg := ⟨[0, 1], (.dat (.row Z12) (.dat Z12 .nil)), .nil⟩

def o134 : Abs.Sg := ⟨[4], (.dat (.int .i64) .nil), .nil⟩

def m134 (v : (((List (Int × Int × Unit)) × (Int × Int × Unit) × Unit) × (Unit))) : Option ((Int × Unit) × (Unit)) :=
(loopT l134_0_2 ((0, (v.1.1, ((v.1.1.length : Int), ()))), ((v.1.2.1, ()), ()))).bind fun d21 =>
sumE d21 (fun d22 => (some ((d22.1.1, ()), ()))) (fun d23 => (some (((-1), ()), ())))

def sp134 : Abs.Spec := ⟨0, i134, o134, m134⟩

def an134 : Nat → Abs.FAn
  | 0 => Abs.FAn.mk (fun _ => none) (fun _ => none) (fun
    | 2 => some ⟨⟨[8, 0, 3, 7], (.dat (.int .i64) (.dat (.row Z12) (.st (.ptr (0, 0) 2 0 0) (.dat (.int .i64) .nil)))), (.box 2 (.dat Z12 .nil) .nil)⟩, (.more .ret ⟨[4], (.dat (.int .i64) .nil), .nil⟩ (.one (.exit 0) ⟨[], .nil, .nil⟩))⟩
    | _ => none) (fun _ _ => 0)
  | _ => {}

theorem ok134 : Abs.SpecOK Try.prog 134 sp134 :=
  Abs.specOC_of (C := ctab) (mv := mvtab) ctab_ok (n := 12) (an := an134) (T := Abs.tabOf []) good foll (Abs.tabOf_ok _ (fun _ h => by cases h)) rfl (by intro v; kernel_rfl)

/- slices.Contains[[][2]int,[2]int] -/
def i108 : Abs.Sg := ⟨[0, 1], (.dat (.row Z12) (.dat Z12 .nil)), .nil⟩

def o108 : Abs.Sg := ⟨[4], (.dat .bool .nil), .nil⟩

def m108 (v : (((List (Int × Int × Unit)) × (Int × Int × Unit) × Unit) × (Unit))) : Option Y16 :=
(m134 ((v.1.1, (v.1.2.1, ())), ())).bind fun u2 =>
some (((decide ((u2.1.1 : Int) ≥ 0)), ()), ())

def sp108 : Abs.Spec := ⟨0, i108, o108, m108⟩

def an108 : Nat → Abs.FAn
  | _ => {}

theorem ok108 : Abs.SpecOK Try.prog 108 sp108 :=
  Abs.specOC_of (C := ctab) (mv := mvtab) ctab_ok (n := 12) (an := an108) (T := Abs.tabOf [(134, sp134)]) good foll (Abs.tabOf_ok _ (by simp only [List.forall_mem_cons]; exact ⟨ok134, fun _ h => by cases h⟩)) rfl (by intro v; kernel_rfl)

def l106_0_5 (v : ((Int × Int × (List Y7) × Int × Unit) × ((Y5 × Unit) × Unit))) : Option (((Int × Int × (List Y7) × Int × Unit) × ((Y5 × Unit) × Unit)) ⊕ (Y16 ⊕ ((Int × Unit) × ((Y5 × Unit) × Unit)))) :=
bif (decide ((v.1.1 : Int) < v.1.2.2.2.1)) then (Abs.rowAt v.1.2.2.1 v.1.1 fun e109 _ =>
((bif ((e109.1 : Int) != v.1.1) then (some ((true, (v.1.2.1, (v.1.2.2.1, (v.1.2.2.2.1, (v.1.1, ()))))), ((v.2.1.1, ()), ())))
else ((m26 ((v.1.2.1, (e109, ())), ())).bind fun u110 =>
some (((!u110.1.1), (v.1.2.1, (v.1.2.2.1, (v.1.2.2.2.1, (v.1.1, ()))))), ((v.2.1.1, ()), ())))) : Option ((Bool × Int × (List Y7) × Int × Int × Unit) × ((Y5 × Unit) × Unit))).bind fun v111 =>
bif v111.1.1 then (some (.inr (.inl ((false, ()), ()))))
else (some (.inl (((w64 (v111.1.2.2.2.2.1 + 1)), (v111.1.2.1, (v111.1.2.2.1, (v111.1.2.2.2.1, ())))), ((v111.2.1.1, ()), ())))))
else (some (.inr (.inr ((v.1.2.1, ()), ((v.2.1.1, ()), ())))))

def l106_0_11 (v : ((Int × Int × (List Y9) × Int × Unit) × ((Y5 × Unit) × Unit))) : Option (((Int × Int × (List Y9) × Int × Unit) × ((Y5 × Unit) × Unit)) ⊕ (Y16 ⊕ ((Int × Unit) × ((Y5 × Unit) × Unit)))) :=
bif (decide ((v.1.1 : Int) < v.1.2.2.2.1)) then (Abs.rowAt v.1.2.2.1 v.1.1 fun e115 _ =>
(((m99 ((e115.2.1, (0, ((w64 (v.1.2.1 - 1)), ()))), ())).bind fun u116 =>
bif (!u116.1.1) then (some ((true, (v.1.2.1, (v.1.2.2.1, (v.1.2.2.2.1, (v.1.1, ()))))), ((v.2.1.1, ()), ())))
else ((m99 ((e115.2.2.1, (0, ((w64 (v.1.2.1 - 1)), ()))), ())).bind fun u117 =>
bif (!u117.1.1) then (some ((true, (v.1.2.1, (v.1.2.2.1, (v.1.2.2.2.1, (v.1.1, ()))))), ((v.2.1.1, ()), ())))
else (some ((((e115.2.1 : Int) == e115.2.2.1), (v.1.2.1, (v.1.2.2.1, (v.1.2.2.2.1, (v.1.1, ()))))), ((v.2.1.1, ()), ()))))) : Option ((Bool × Int × (List Y9) × Int × Int × Unit) × ((Y5 × Unit) × Unit))).bind fun v118 =>
bif v118.1.1 then (some (.inr (.inl ((false, ()), ()))))
else (some (.inl (((w64 (v118.1.2.2.2.2.1 + 1)), (v118.1.2.1, (v118.1.2.2.1, (v118.1.2.2.2.1, ())))), ((v118.2.1.1, ()), ())))))
else (some (.inr (.inr ((v.1.2.1, ()), ((v.2.1.1, ()), ())))))

def l106_0_17 (v : ((Int × Int × (List (Int × Int × Unit)) × Int × Unit) × ((Y5 × Unit) × Unit))) : Option (((Int × Int × (List (Int × Int × Unit)) × Int × Unit) × ((Y5 × Unit) × Unit)) ⊕ (Y16 ⊕ ((Unit) × (Unit)))) :=
bif (decide ((v.1.1 : Int) < v.1.2.2.2.1)) then (Abs.rowAt v.1.2.2.1 v.1.1 fun e122 _ =>
(((m99 ((e122.1, (0, ((w64 (v.1.2.1 - 1)), ()))), ())).bind fun u123 =>
bif (!u123.1.1) then (some ((true, (v.1.2.1, (v.1.2.2.1, (v.1.2.2.2.1, (v.1.1, ()))))), ((v.2.1.1, ()), ())))
else ((m99 ((e122.2.1, ((w64 (e122.1 + 1)), ((w64 (v.1.2.1 - 1)), ()))), ())).bind fun u124 =>
bif (!u124.1.1) then (some ((true, (v.1.2.1, (v.1.2.2.1, (v.1.2.2.2.1, (v.1.1, ()))))), ((v.2.1.1, ()), ())))
else (bif (decide ((0 : Int) ≤ v.1.1)) then
bif (decide (0 ≤ v.1.1.toNat ∧ v.1.1.toNat ≤ v.2.1.1.2.2.2.1.length)) then
(m108 (((v.2.1.1.2.2.2.1.take v.1.1.toNat), (e122, ())), ())).bind fun u125 =>
some ((u125.1.1, (v.1.2.1, (v.1.2.2.1, (v.1.2.2.2.1, (v.1.1, ()))))), ((v.2.1.1, ()), ()))
else none
else none))) : Option ((Bool × Int × (List (Int × Int × Unit)) × Int × Int × Unit) × ((Y5 × Unit) × Unit))).bind fun v126 =>
bif v126.1.1 then (some (.inr (.inl ((false, ()), ()))))
else (some (.inl (((w64 (v126.1.2.2.2.2.1 + 1)), (v126.1.2.1, (v126.1.2.2.1, (v126.1.2.2.2.1, ())))), ((v126.2.1.1, ()), ())))))
else (some (.inr (.inr ((), ()))))

/- pagewatch/region.Check -/
def i106 : Abs.Sg := ⟨[0], (.dat Z8 .nil), .nil⟩

def o106 : Abs.Sg := ⟨[2], (.dat .bool .nil), .nil⟩

def m106 (v : ((Y5 × Unit) × (Unit))) : Option Y16 :=
(((m99 (((v.1.1.1.length : Int), (1, (5, ()))), ())).bind fun u105 =>
bif (!u105.1.1) then (some ((true, ((v.1.1.1.length : Int), ())), ((v.1.1, ()), ())))
else (let x106 := (((v.1.1.2.2.1.length : Int) : Int) != (v.1.1.1.length : Int))
bif x106 then (some ((true, ((v.1.1.1.length : Int), ())), ((v.1.1, ()), ())))
else (let x107 := (decide (((v.1.1.2.1.length : Int) : Int) > 256))
some ((x107, ((v.1.1.1.length : Int), ())), ((v.1.1, ()), ()))))) : Option ((Bool × Int × Unit) × ((Y5 × Unit) × Unit))).bind fun v108 =>
bif v108.1.1 then (some ((false, ()), ()))
else ((loopT l106_0_5 ((0, (v108.1.2.1, (v108.2.1.1.1, ((v108.2.1.1.1.length : Int), ())))), ((v108.2.1.1, ()), ()))).bind fun d112 =>
sumE d112 (fun d113 => (some ((d113.1.1, ()), ()))) (fun d114 => ((loopT l106_0_11 ((0, (d114.1.1, (d114.2.1.1.2.1, ((d114.2.1.1.2.1.length : Int), ())))), ((d114.2.1.1, ()), ()))).bind fun d119 =>
sumE d119 (fun d120 => (some ((d120.1.1, ()), ()))) (fun d121 => ((loopT l106_0_17 ((0, (d121.1.1, (d121.2.1.1.2.2.2.1, ((d121.2.1.1.2.2.2.1.length : Int), ())))), ((d121.2.1.1, ()), ()))).bind fun d127 =>
sumE d127 (fun d128 => (some ((d128.1.1, ()), ()))) (fun d129 => (some ((true, ()), ()))))))))

def sp106 : Abs.Spec := ⟨0, i106, o106, m106⟩

def an106 : Nat → Abs.FAn
  | 0 => Abs.FAn.mk (fun
    | 19 => some ⟨[109, 1, 3, 78, 79, 80], (.dat .bool (.st (.ptr (0, 0) 4 0 0) (.dat (.int .i64) (.dat (.row Z12) (.dat (.int .i64) (.dat (.int .i64) .nil)))))), (.box 4 (.dat Z8 .nil) .nil)⟩
    | 13 => some ⟨[75, 3, 49, 1, 50, 51], (.dat .bool (.dat (.int .i64) (.dat (.row Z4) (.st (.ptr (0, 0) 4 0 0) (.dat (.int .i64) (.dat (.int .i64) .nil)))))), (.box 4 (.dat Z8 .nil) .nil)⟩
    | 7 => some ⟨[46, 3, 30, 1, 31, 32], (.dat .bool (.dat (.int .i64) (.dat (.row Z3) (.st (.ptr (0, 0) 4 0 0) (.dat (.int .i64) (.dat (.int .i64) .nil)))))), (.box 4 (.dat Z8 .nil) .nil)⟩
    | 2 => some ⟨[28, 3, 1], (.dat .bool (.dat (.int .i64) (.st (.ptr (0, 0) 4 0 0) .nil))), (.box 4 (.dat Z8 .nil) .nil)⟩
    | _ => none) (fun _ => none) (fun
    | 17 => some ⟨⟨[80, 1, 3, 78, 79], (.dat (.int .i64) (.st (.ptr (0, 0) 4 0 0) (.dat (.int .i64) (.dat (.row Z12) (.dat (.int .i64) .nil))))), (.box 4 (.dat Z8 .nil) .nil)⟩, (.more .ret ⟨[2], (.dat .bool .nil), .nil⟩ (.one (.exit 4) ⟨[], .nil, .nil⟩))⟩
    | 11 => some ⟨⟨[51, 3, 49, 1, 50], (.dat (.int .i64) (.dat (.int .i64) (.dat (.row Z4) (.st (.ptr (0, 0) 4 0 0) (.dat (.int .i64) .nil))))), (.box 4 (.dat Z8 .nil) .nil)⟩, (.more .ret ⟨[2], (.dat .bool .nil), .nil⟩ (.one (.exit 2) ⟨[1, 3], (.st (.ptr (0, 0) 4 0 0) (.dat (.int .i64) .nil)), (.box 4 (.dat Z8 .nil) .nil)⟩))⟩
    | 5 => some ⟨⟨[32, 3, 30, 1, 31], (.dat (.int .i64) (.dat (.int .i64) (.dat (.row Z3) (.st (.ptr (0, 0) 4 0 0) (.dat (.int .i64) .nil))))), (.box 4 (.dat Z8 .nil) .nil)⟩, (.more .ret ⟨[2], (.dat .bool .nil), .nil⟩ (.one (.exit 0) ⟨[3, 1], (.dat (.int .i64) (.st (.ptr (0, 0) 4 0 0) .nil)), (.box 4 (.dat Z8 .nil) .nil)⟩))⟩
    | _ => none) (fun _ _ => 0)
  | _ => {}

theorem ok106 : Abs.SpecOK Try.prog 106 sp106 :=
  Abs.specOC_of (C := ctab) (mv := mvtab) ctab_ok (n := 12) (an := an106) (T := Abs.tabOf [(99, sp99), (26, sp26), (108, sp108)]) good foll (Abs.tabOf_ok _ (by simp only [List.forall_mem_cons]; exact ⟨ok99, ok26, ok108, fun _ h => by cases h⟩)) rfl (by intro v; kernel_rfl)

/- pagewatch/region.check -/
def i107 : Abs.Sg := ⟨[0, 1, 2], (.dat Z8 (.dat (.int .i64) (.dat (.int .i64) .nil))), .nil⟩

def o107 : Abs.Sg := ⟨[6], (.dat (.int .i64) .nil), .nil⟩

def m107 (v : ((Y5 × Int × Int × Unit) × (Unit))) : Option ((Int × Unit) × (Unit)) :=
(m106 ((v.1.1, ()), ())).bind fun u8 =>
bif (!u8.1.1) then (some ((8, ()), ()))
else ((m99 ((v.1.2.1, (0, ((w64 (v.1.2.2.1 - 1)), ()))), ())).bind fun u9 =>
bif (!u9.1.1) then (some ((3, ()), ()))
else (some ((0, ()), ())))

def sp107 : Abs.Spec := ⟨0, i107, o107, m107⟩

def an107 : Nat → Abs.FAn
  | _ => {}

theorem ok107 : Abs.SpecOK Try.prog 107 sp107 :=
  Abs.specOC_of (C := ctab) (mv := mvtab) ctab_ok (n := 12) (an := an107) (T := Abs.tabOf [(106, sp106), (99, sp99)]) good foll (Abs.tabOf_ok _ (by simp only [List.forall_mem_cons]; exact ⟨ok106, ok99, fun _ h => by cases h⟩)) rfl (by intro v; kernel_rfl)

/- pagewatch/region.up -/
def i100 : Abs.Sg := ⟨[0, 1], (.dat Z8 (.dat (.int .i64) .nil)), .nil⟩

def o100 : Abs.Sg := ⟨[4], (.dat (.int .i64) .nil), .nil⟩

def m100 (v : Y22) : Option ((Int × Unit) × (Unit)) :=
(m107 ((v.1.1, (v.1.2.1, ((v.1.1.1.length : Int), ()))), ())).bind fun u8 =>
bif ((u8.1.1 : Int) != 0) then (some ((u8.1.1, ()), ()))
else (Abs.rowAt v.1.1.2.2.1 v.1.2.1 fun e9 _ =>
bif e9 then (some ((21, ()), ()))
else (some ((0, ()), ())))

def sp100 : Abs.Spec := ⟨0, i100, o100, m100⟩

def an100 : Nat → Abs.FAn
  | _ => {}

theorem ok100 : Abs.SpecOK Try.prog 100 sp100 :=
  Abs.specOC_of (C := ctab) (mv := mvtab) ctab_ok (n := 12) (an := an100) (T := Abs.tabOf [(107, sp107)]) good foll (Abs.tabOf_ok _ (by simp only [List.forall_mem_cons]; exact ⟨ok107, fun _ h => by cases h⟩)) rfl (by intro v; kernel_rfl)

/- slices.Clone[[]pagewatch/api.Replica,pagewatch/api.Replica]: the copy of a row -/
def i131 : Abs.Sg := ⟨[0], (.dat (.row Z3) .nil), .nil⟩

def o131 : Abs.Sg := ⟨[2], (.st (.own Z3 (0, 0)) .nil), (.arr Z3 false .nil)⟩

def m131 (v : (((List Y7) × Unit) × (Unit))) : Option ((Unit) × ((List Y7) × Unit)) :=
bif (decide (v.1.1.length ≤ 4294967296)) then some ((), (v.1.1, ())) else none

def sp131 : Abs.Spec := ⟨0, i131, o131, m131⟩

theorem ok131 : Abs.SpecOK Try.prog 131 sp131 :=
  Abs.clone_ok (N := note) (t := Z3) foll (Abs.specOK_of (n := 12) (an := fun _ => {}) (T := Abs.tabOf []) good foll (Abs.tabOf_ok _ (fun _ h => by cases h)) rfl (by intro v; kernel_rfl)) (by kernel_rfl) (by kernel_rfl)

/- slices.Clone[[]pagewatch/api.Message,pagewatch/api.Message]: the copy of a row -/
def i132 : Abs.Sg := ⟨[0], (.dat (.row Z4) .nil), .nil⟩

def o132 : Abs.Sg := ⟨[2], (.st (.own Z4 (0, 0)) .nil), (.arr Z4 false .nil)⟩

def m132 (v : (((List Y9) × Unit) × (Unit))) : Option ((Unit) × ((List Y9) × Unit)) :=
bif (decide (v.1.1.length ≤ 4294967296)) then some ((), (v.1.1, ())) else none

def sp132 : Abs.Spec := ⟨0, i132, o132, m132⟩

theorem ok132 : Abs.SpecOK Try.prog 132 sp132 :=
  Abs.clone_ok (N := note) (t := Z4) foll (Abs.specOK_of (n := 12) (an := fun _ => {}) (T := Abs.tabOf []) good foll (Abs.tabOf_ok _ (fun _ h => by cases h)) rfl (by intro v; kernel_rfl)) (by kernel_rfl) (by kernel_rfl)

/- slices.Clone[[][2]int,[2]int]: the copy of a row -/
def i133 : Abs.Sg := ⟨[0], (.dat (.row Z12) .nil), .nil⟩

def o133 : Abs.Sg := ⟨[2], (.st (.own Z12 (0, 0)) .nil), (.arr Z12 false .nil)⟩

def m133 (v : (((List (Int × Int × Unit)) × Unit) × (Unit))) : Option ((Unit) × ((List (Int × Int × Unit)) × Unit)) :=
bif (decide (v.1.1.length ≤ 4294967296)) then some ((), (v.1.1, ())) else none

def sp133 : Abs.Spec := ⟨0, i133, o133, m133⟩

theorem ok133 : Abs.SpecOK Try.prog 133 sp133 :=
  Abs.clone_ok (N := note) (t := Z12) foll (Abs.specOK_of (n := 12) (an := fun _ => {}) (T := Abs.tabOf []) good foll (Abs.tabOf_ok _ (fun _ h => by cases h)) rfl (by intro v; kernel_rfl)) (by kernel_rfl) (by kernel_rfl)

def l101_0_3 (v : ((Int × Int × Unit) × Y17)) : Option (((Int × Int × Unit) × Y17) ⊕ ((Unit) × Y17)) :=
bif (decide ((v.1.1 : Int) < v.1.2.1)) then (bif (decide ((0 : Int) ≤ v.1.1 ∧ (v.1.1 : Int) < v.2.2.2.1.length)) then
(v.2.2.2.1[v.1.1.toNat]?).bind fun e47 =>
(m76 ((e47, ()), ())).bind fun u48 =>
bif (decide ((0 : Int) ≤ v.1.1 ∧ (v.1.1 : Int) < v.2.2.2.1.length)) then
bif (decide (v.1.1.toNat < v.2.2.2.1.length)) then
some (.inl (((w64 (v.1.1 + 1)), (v.1.2.1, ())), (((), ()), (((), ()), ((v.2.2.2.1.set v.1.1.toNat (u48.2.1.1.1, (u48.2.1.1.2.1, (u48.2.1.1.2.2.1, (u48.2.1.1.2.2.2.1, (u48.2.2.1, (u48.2.1.1.2.2.2.2.1, (u48.2.2.2.1, (u48.2.2.2.2.1, ()))))))))), (v.2.2.2.2.1, (v.2.2.2.2.2.1, (v.2.2.2.2.2.2.1, ()))))))))
else none
else none
else none)
else (some (.inr ((), (((), ()), (((), ()), (v.2.2.2.1, (v.2.2.2.2.1, (v.2.2.2.2.2.1, (v.2.2.2.2.2.2.1, ())))))))))

def l101_0_8 (v : ((Int × Int × Unit) × Y17)) : Option (((Int × Int × Unit) × Y17) ⊕ ((Unit) × Y17)) :=
bif (decide ((v.1.1 : Int) < v.1.2.1)) then (bif (decide ((0 : Int) ≤ v.1.1 ∧ (v.1.1 : Int) < v.2.2.2.2.1.length)) then
(v.2.2.2.2.1[v.1.1.toNat]?).bind fun e50 =>
(m91 ((e50.2.2.2.2.2.2.2.1, ()), ())).bind fun u51 =>
bif (decide ((0 : Int) ≤ v.1.1 ∧ (v.1.1 : Int) < v.2.2.2.2.1.length)) then
(v.2.2.2.2.1[v.1.1.toNat]?).bind fun e52 =>
some (.inl (((w64 (v.1.1 + 1)), (v.1.2.1, ())), (((), ()), (((), ()), (v.2.2.2.1, ((v.2.2.2.2.1.set v.1.1.toNat (e52.1, (e52.2.1, (e52.2.2.1, (e52.2.2.2.1, (e52.2.2.2.2.1, (e52.2.2.2.2.2.1, (e52.2.2.2.2.2.2.1, (u51.2.1, e52.2.2.2.2.2.2.2.2))))))))), (v.2.2.2.2.2.1, (v.2.2.2.2.2.2.1, ()))))))))
else none
else none)
else (some (.inr ((), (((), ()), (((), ()), (v.2.2.2.1, (v.2.2.2.2.1, (v.2.2.2.2.2.1, (v.2.2.2.2.2.2.1, ())))))))))

/- pagewatch/region.copied -/
def i101 : Abs.Sg := ⟨[0], (.dat Z8 .nil), .nil⟩

def o101 : Abs.Sg := ⟨[2], (.st (.ptr (0, 0) 4 0 0) .nil), (.box 4 (.agg (.st (.own Z3 (1, 0)) (.st (.own Z4 (2, 0)) (.st (.own .bool (3, 0)) (.st (.own Z12 (4, 0)) .nil)))) .nil) (.arr Z3 false (.arr Z4 false (.arr .bool false (.arr Z12 false .nil)))))⟩

def m101 (v : ((Y5 × Unit) × (Unit))) : Option ((Unit) × Y15) :=
(m131 ((v.1.1.1, ()), ())).bind fun u43 =>
(m132 ((v.1.1.2.1, ()), ())).bind fun u44 =>
(m125 ((v.1.1.2.2.1, ()), ())).bind fun u45 =>
(m133 ((v.1.1.2.2.2.1, ()), ())).bind fun u46 =>
(loopT l101_0_3 ((0, (((u43.2.1.length : Nat) : Int), ())), (((), ()), (((), ()), (u43.2.1, (u44.2.1, (u45.2.1, (u46.2.1, ())))))))).bind fun d49 =>
(loopT l101_0_8 ((0, (((d49.2.2.2.2.1.length : Nat) : Int), ())), (((), ()), (((), ()), (d49.2.2.2.1, (d49.2.2.2.2.1, (d49.2.2.2.2.2.1, (d49.2.2.2.2.2.2.1, ())))))))).bind fun d53 =>
some ((), (((), ()), (d53.2.2.2.1, (d53.2.2.2.2.1, (d53.2.2.2.2.2.1, (d53.2.2.2.2.2.2.1, ()))))))

def sp101 : Abs.Spec := ⟨0, i101, o101, m101⟩

def an101 : Nat → Abs.FAn
  | 0 => Abs.FAn.mk (fun _ => none) (fun _ => none) (fun
    | 8 => some ⟨⟨[41, 1, 2, 40], (.dat (.int .i64) (.st (.ptr (0, 0) 4 0 0) (.st (.ptr (1, 0) 4 0 0) (.dat (.int .i64) .nil)))), (.box 4 (.agg (.st (.own Z3 (2, 0)) (.st (.own Z4 (3, 0)) (.st (.own .bool (4, 0)) (.st (.own Z12 (5, 0)) .nil)))) .nil) (.box 4 (.agg (.st .nil (.st .nil (.st .nil (.st .nil .nil)))) .nil) (.arr Z3 false (.arr Z4 false (.arr .bool false (.arr Z12 false .nil))))))⟩, (.one (.exit 2) ⟨[2, 1], (.st (.ptr (0, 0) 4 0 0) (.st (.ptr (1, 0) 4 0 0) .nil)), (.box 4 (.agg (.st .nil (.st .nil (.st .nil (.st .nil .nil)))) .nil) (.box 4 (.agg (.st (.own Z3 (2, 0)) (.st (.own Z4 (3, 0)) (.st (.own .bool (4, 0)) (.st (.own Z12 (5, 0)) .nil)))) .nil) (.arr Z3 false (.arr Z4 false (.arr .bool false (.arr Z12 false .nil))))))⟩)⟩
    | 3 => some ⟨⟨[24, 1, 2, 23], (.dat (.int .i64) (.st (.ptr (0, 0) 4 0 0) (.st (.ptr (1, 0) 4 0 0) (.dat (.int .i64) .nil)))), (.box 4 (.agg (.st (.own Z3 (2, 0)) (.st (.own Z4 (3, 0)) (.st (.own .bool (4, 0)) (.st (.own Z12 (5, 0)) .nil)))) .nil) (.box 4 (.agg (.st .nil (.st .nil (.st .nil (.st .nil .nil)))) .nil) (.arr Z3 false (.arr Z4 false (.arr .bool false (.arr Z12 false .nil))))))⟩, (.one (.exit 0) ⟨[1, 2], (.st (.ptr (0, 0) 4 0 0) (.st (.ptr (1, 0) 4 0 0) .nil)), (.box 4 (.agg (.st (.own Z3 (2, 0)) (.st (.own Z4 (3, 0)) (.st (.own .bool (4, 0)) (.st (.own Z12 (5, 0)) .nil)))) .nil) (.box 4 (.agg (.st .nil (.st .nil (.st .nil (.st .nil .nil)))) .nil) (.arr Z3 false (.arr Z4 false (.arr .bool false (.arr Z12 false .nil))))))⟩)⟩
    | _ => none) (fun _ _ => 0)
  | _ => {}

theorem ok101 : Abs.SpecOK Try.prog 101 sp101 :=
  Abs.specOC_of (C := ctab) (mv := mvtab) ctab_ok (n := 12) (an := an101) (T := Abs.tabOf [(131, sp131), (132, sp132), (125, sp125), (133, sp133), (76, sp76), (91, sp91)]) good foll (Abs.tabOf_ok _ (by simp only [List.forall_mem_cons]; exact ⟨ok131, ok132, ok125, ok133, ok76, ok91, fun _ h => by cases h⟩)) rfl (by intro v; kernel_rfl)

/- 104 pagewatch/region.send: not told by a law: run where it is called -/

/- pagewatch/region.Stand -/
def i102 : Abs.Sg := ⟨[0, 1], (.dat Z8 (.dat (.int .i64) .nil)), .nil⟩

def o102 : Abs.Sg := ⟨[4, 5], (.st (.ptr (0, 0) 4 0 0) (.dat (.int .i64) .nil)), (.box 4 (.agg (.st (.own Z3 (1, 0)) (.st (.own Z4 (2, 0)) (.st (.own .bool (3, 0)) (.st (.own Z12 (4, 0)) .nil)))) .nil) (.arr Z3 false (.arr Z4 false (.arr .bool false (.arr Z12 false .nil)))))⟩

def m102 (v : Y22) : Option ((Int × Unit) × Y15) :=
(m100 ((v.1.1, (v.1.2.1, ())), ())).bind fun u19 =>
bif ((u19.1.1 : Int) != 0) then (some ((u19.1.1, ()), (((), ()), ([], ([], ([], ([], ())))))))
else ((m101 ((v.1.1, ()), ())).bind fun u20 =>
bif (decide ((0 : Int) ≤ v.1.2.1 ∧ (v.1.2.1 : Int) < u20.2.2.1.length)) then
(u20.2.2.1[v.1.2.1.toNat]?).bind fun e21 =>
(m23 ((((u20.2.2.1.length : Nat) : Int), (e21, ())), ())).bind fun u22 =>
bif ((u22.1.1 : Int) != 0) then (some ((u22.1.1, ()), (((), ()), ([], ([], ([], ([], ())))))))
else (bif (decide ((0 : Int) ≤ v.1.2.1 ∧ (v.1.2.1 : Int) < u20.2.2.1.length)) then
bif (decide (v.1.2.1.toNat < u20.2.2.1.length)) then
((let x23 := (w64 (((u20.2.2.2.1.length : Nat) : Int) + ((u22.2.2.1.length : Nat) : Int)))
bif (decide ((x23 : Int) > 256)) then (bif (decide ((u20.2.2.1.set v.1.2.1.toNat u22.2.1.1).length = (u20.2.2.1.set v.1.2.1.toNat u22.2.1.1).length) && (decide (u20.2.2.2.1.length = u20.2.2.2.1.length) && (decide (u20.2.2.2.2.1.length = u20.2.2.2.2.1.length) && (decide (u20.2.2.2.2.2.1.length = u20.2.2.2.2.2.1.length) && (decide (u22.2.2.1.length = u22.2.2.1.length) && true))))) then
some ((5, ()), (((), ()), ([], ([], ([], ([], ()))))))
else none)
else (bif (decide (u20.2.2.2.1.length + u22.2.2.1.length ≤ 4294967296)) then
bif (decide ((u20.2.2.1.set v.1.2.1.toNat u22.2.1.1).length = (u20.2.2.1.set v.1.2.1.toNat u22.2.1.1).length) && (decide (u20.2.2.2.1.length = u20.2.2.2.1.length) && (decide (u20.2.2.2.2.1.length = u20.2.2.2.2.1.length) && (decide (u20.2.2.2.2.2.1.length = u20.2.2.2.2.2.1.length) && (decide (u22.2.2.1.length = u22.2.2.1.length) && true))))) then
some ((0, ()), (((), ()), ((u20.2.2.1.set v.1.2.1.toNat u22.2.1.1), ((u20.2.2.2.1 ++ u22.2.2.1), (u20.2.2.2.2.1, (u20.2.2.2.2.2.1, ()))))))
else none
else none)) : Option ((Int × Unit) × Y15)).bind fun v24 =>
some ((v24.1.1, ()), (((), ()), (v24.2.2.1, (v24.2.2.2.1, (v24.2.2.2.2.1, (v24.2.2.2.2.2.1, ()))))))
else none
else none)
else none)

def sp102 : Abs.Spec := ⟨0, i102, o102, m102⟩

def an102 : Nat → Abs.FAn
  | 0 => Abs.FAn.mk (fun
    | 9 => some ⟨[4, 5], (.st (.ptr (0, 0) 4 0 0) (.dat (.int .i64) .nil)), (.box 4 (.agg (.st (.own Z3 (1, 0)) (.st (.own Z4 (2, 0)) (.st (.own .bool (3, 0)) (.st (.own Z12 (4, 0)) .nil)))) .nil) (.arr Z3 false (.arr Z4 false (.arr .bool false (.arr Z12 false .nil)))))⟩
    | _ => none) (fun _ => none) (fun _ => none) (fun
    | 9, 2 => 1
    | _, _ => 0)
  | _ => {}

theorem ok102 : Abs.SpecOK Try.prog 102 sp102 :=
  Abs.specOC_of (C := ctab) (mv := mvtab) ctab_ok (n := 12) (an := an102) (T := Abs.tabOf [(100, sp100), (101, sp101), (23, sp23)]) good foll (Abs.tabOf_ok _ (by simp only [List.forall_mem_cons]; exact ⟨ok100, ok101, ok23, fun _ h => by cases h⟩)) rfl (by intro v; kernel_rfl)

/- 135 slices.Delete[[]pagewatch/api.Message,pagewatch/api.Message]: not told by a law: run where it is called -/

/- 140 pagewatch/region.hearers$1$1: not told by a law: a closure -/

/- 139 pagewatch/region.hearers$1: not told by a law: a parameter -/

/- 138 pagewatch/region.hearers: not told by a law: run where it is called -/

/- 130 pagewatch/region.deliver: not told by a law: run where it is called -/

/- 103 pagewatch/region.drain: not told by a law: run where it is called -/

def l62_1_1 (v : ((Unit) × Y17)) : Option (((Unit) × Y17) ⊕ ((Unit) × Y17)) :=
let x457 := (decide ((((v.2.2.2.2.1.length : Nat) : Int) : Int) > 0))
bif x457 then (((bif (decide ((0 : Int) ≤ 0 ∧ (0 : Int) < v.2.2.2.2.1.length)) then
(v.2.2.2.2.1[0]?).bind fun e458 =>
bif (decide ((0 : Int) ≤ 0 ∧ (0 : Int) < 1 ∧ (1 : Int) ≤ v.2.2.2.2.1.length ∧ v.2.2.2.2.1.length ≤ 4294967296)) then
bif (decide (v.2.2.2.2.1.length = v.2.2.2.2.1.length) && true) then
bif ((e458.1 : Int) == 1) then (bif (decide ((0 : Int) ≤ e458.2.2.1 ∧ (e458.2.2.1 : Int) < v.2.2.2.2.2.1.length)) then
(v.2.2.2.2.2.1[e458.2.2.1.toNat]?).bind fun e459 =>
bif e459 then (bif (decide (v.2.2.2.1.length = v.2.2.2.1.length) && (decide (v.2.2.2.2.1.length = v.2.2.2.2.1.length) && (decide (v.2.2.2.2.2.1.length = v.2.2.2.2.2.1.length) && (decide (v.2.2.2.2.2.2.1.length = v.2.2.2.2.2.2.1.length) && true)))) then
some ((), (((), ()), (((), ()), (v.2.2.2.1, ((v.2.2.2.2.1.take 0 ++ v.2.2.2.2.1.drop 1), (v.2.2.2.2.2.1, (v.2.2.2.2.2.2.1, ())))))))
else none)
else (let x460 := (if (e458.2.2.1 : Int) < e458.2.1 then e458.2.2.1 else e458.2.1)
let x461 := (if (e458.2.2.1 : Int) > e458.2.1 then e458.2.2.1 else e458.2.1)
(m108 ((v.2.2.2.2.2.2.1, ((x460, (x461, ())), ())), ())).bind fun u462 =>
bif u462.1.1 then (bif (decide (v.2.2.2.1.length = v.2.2.2.1.length) && (decide (v.2.2.2.2.1.length = v.2.2.2.2.1.length) && (decide (v.2.2.2.2.2.1.length = v.2.2.2.2.2.1.length) && (decide (v.2.2.2.2.2.2.1.length = v.2.2.2.2.2.2.1.length) && true)))) then
some ((), (((), ()), (((), ()), (v.2.2.2.1, ((v.2.2.2.2.1.take 0 ++ v.2.2.2.2.1.drop 1), (v.2.2.2.2.2.1, (v.2.2.2.2.2.2.1, ())))))))
else none)
else (bif (decide ((0 : Int) ≤ e458.2.2.1 ∧ (e458.2.2.1 : Int) < v.2.2.2.1.length)) then
(v.2.2.2.1[e458.2.2.1.toNat]?).bind fun e463 =>
(m24 ((((v.2.2.2.1.length : Nat) : Int), (e463, (e458, ()))), ())).bind fun u464 =>
bif (decide ((0 : Int) ≤ e458.2.2.1 ∧ (e458.2.2.1 : Int) < v.2.2.2.1.length)) then
bif (decide (e458.2.2.1.toNat < v.2.2.2.1.length)) then
bif u464.1.1 then (bif (decide ((v.2.2.2.2.1.take 0 ++ v.2.2.2.2.1.drop 1).length + ([(u464.2.2.1.1.1, (u464.2.2.1.1.2.1, (u464.2.2.1.1.2.2.1, (u464.2.2.1.1.2.2.2.1, (u464.2.2.1.1.2.2.2.2.1, (u464.2.2.1.1.2.2.2.2.2.1, (u464.2.2.1.1.2.2.2.2.2.2.1, ([], (u464.2.2.1.1.2.2.2.2.2.2.2.1, ())))))))))] : List Y9).length ≤ 4294967296)) then
let x465 := ((v.2.2.2.2.1.take 0 ++ v.2.2.2.2.1.drop 1) ++ ([(u464.2.2.1.1.1, (u464.2.2.1.1.2.1, (u464.2.2.1.1.2.2.1, (u464.2.2.1.1.2.2.2.1, (u464.2.2.1.1.2.2.2.2.1, (u464.2.2.1.1.2.2.2.2.2.1, (u464.2.2.1.1.2.2.2.2.2.2.1, ([], (u464.2.2.1.1.2.2.2.2.2.2.2.1, ())))))))))] : List Y9))
bif (decide ((v.2.2.2.1.set e458.2.2.1.toNat u464.2.1.1).length = v.2.2.2.1.length) && (decide (v.2.2.2.2.1.length = v.2.2.2.2.1.length) && (decide (v.2.2.2.2.2.1.length = v.2.2.2.2.2.1.length) && (decide (v.2.2.2.2.2.2.1.length = v.2.2.2.2.2.2.1.length) && true)))) then
some ((), (((), ()), (((), ()), ((v.2.2.2.1.set e458.2.2.1.toNat u464.2.1.1), (x465, (v.2.2.2.2.2.1, (v.2.2.2.2.2.2.1, ())))))))
else none
else none)
else (bif (decide ((v.2.2.2.1.set e458.2.2.1.toNat u464.2.1.1).length = v.2.2.2.1.length) && (decide (v.2.2.2.2.1.length = v.2.2.2.2.1.length) && (decide (v.2.2.2.2.2.1.length = v.2.2.2.2.2.1.length) && (decide (v.2.2.2.2.2.2.1.length = v.2.2.2.2.2.2.1.length) && true)))) then
some ((), (((), ()), (((), ()), ((v.2.2.2.1.set e458.2.2.1.toNat u464.2.1.1), ((v.2.2.2.2.1.take 0 ++ v.2.2.2.2.1.drop 1), (v.2.2.2.2.2.1, (v.2.2.2.2.2.2.1, ())))))))
else none)
else none
else none
else none))
else none)
else (bif ((e458.1 : Int) == 2) then (bif (decide ((0 : Int) ≤ e458.2.2.1 ∧ (e458.2.2.1 : Int) < v.2.2.2.2.2.1.length)) then
(v.2.2.2.2.2.1[e458.2.2.1.toNat]?).bind fun e466 =>
bif e466 then (bif (decide (v.2.2.2.1.length = v.2.2.2.1.length) && (decide (v.2.2.2.2.1.length = v.2.2.2.2.1.length) && (decide (v.2.2.2.2.2.1.length = v.2.2.2.2.2.1.length) && (decide (v.2.2.2.2.2.2.1.length = v.2.2.2.2.2.2.1.length) && true)))) then
some ((), (((), ()), (((), ()), (v.2.2.2.1, ((v.2.2.2.2.1.take 0 ++ v.2.2.2.2.1.drop 1), (v.2.2.2.2.2.1, (v.2.2.2.2.2.2.1, ())))))))
else none)
else (let x467 := (if (e458.2.2.1 : Int) < e458.2.1 then e458.2.2.1 else e458.2.1)
let x468 := (if (e458.2.2.1 : Int) > e458.2.1 then e458.2.2.1 else e458.2.1)
(m108 ((v.2.2.2.2.2.2.1, ((x467, (x468, ())), ())), ())).bind fun u469 =>
bif u469.1.1 then (bif (decide (v.2.2.2.1.length = v.2.2.2.1.length) && (decide (v.2.2.2.2.1.length = v.2.2.2.2.1.length) && (decide (v.2.2.2.2.2.1.length = v.2.2.2.2.2.1.length) && (decide (v.2.2.2.2.2.2.1.length = v.2.2.2.2.2.2.1.length) && true)))) then
some ((), (((), ()), (((), ()), (v.2.2.2.1, ((v.2.2.2.2.1.take 0 ++ v.2.2.2.2.1.drop 1), (v.2.2.2.2.2.1, (v.2.2.2.2.2.2.1, ())))))))
else none)
else (bif (decide ((0 : Int) ≤ e458.2.2.1 ∧ (e458.2.2.1 : Int) < v.2.2.2.1.length)) then
(v.2.2.2.1[e458.2.2.1.toNat]?).bind fun e470 =>
(m36 ((((v.2.2.2.1.length : Nat) : Int), (e470, (e458, ()))), ())).bind fun u471 =>
bif (decide ((0 : Int) ≤ e458.2.2.1 ∧ (e458.2.2.1 : Int) < v.2.2.2.1.length)) then
bif (decide (e458.2.2.1.toNat < v.2.2.2.1.length)) then
bif (decide ((v.2.2.2.1.set e458.2.2.1.toNat u471.2.1.1).length = v.2.2.2.1.length) && (decide (v.2.2.2.2.1.length = v.2.2.2.2.1.length) && (decide (v.2.2.2.2.2.1.length = v.2.2.2.2.2.1.length) && (decide (v.2.2.2.2.2.2.1.length = v.2.2.2.2.2.2.1.length) && true)))) then
some ((), (((), ()), (((), ()), ((v.2.2.2.1.set e458.2.2.1.toNat u471.2.1.1), ((v.2.2.2.2.1.take 0 ++ v.2.2.2.2.1.drop 1), (v.2.2.2.2.2.1, (v.2.2.2.2.2.2.1, ())))))))
else none
else none
else none
else none))
else none)
else (bif ((e458.1 : Int) == 3) then (bif (decide ((0 : Int) ≤ e458.2.2.1 ∧ (e458.2.2.1 : Int) < v.2.2.2.2.2.1.length)) then
(v.2.2.2.2.2.1[e458.2.2.1.toNat]?).bind fun e472 =>
bif e472 then (bif (decide (v.2.2.2.1.length = v.2.2.2.1.length) && (decide (v.2.2.2.2.1.length = v.2.2.2.2.1.length) && (decide (v.2.2.2.2.2.1.length = v.2.2.2.2.2.1.length) && (decide (v.2.2.2.2.2.2.1.length = v.2.2.2.2.2.2.1.length) && true)))) then
some ((), (((), ()), (((), ()), (v.2.2.2.1, ((v.2.2.2.2.1.take 0 ++ v.2.2.2.2.1.drop 1), (v.2.2.2.2.2.1, (v.2.2.2.2.2.2.1, ())))))))
else none)
else (let x473 := (if (e458.2.2.1 : Int) < e458.2.1 then e458.2.2.1 else e458.2.1)
let x474 := (if (e458.2.2.1 : Int) > e458.2.1 then e458.2.2.1 else e458.2.1)
(m108 ((v.2.2.2.2.2.2.1, ((x473, (x474, ())), ())), ())).bind fun u475 =>
bif u475.1.1 then (bif (decide (v.2.2.2.1.length = v.2.2.2.1.length) && (decide (v.2.2.2.2.1.length = v.2.2.2.2.1.length) && (decide (v.2.2.2.2.2.1.length = v.2.2.2.2.2.1.length) && (decide (v.2.2.2.2.2.2.1.length = v.2.2.2.2.2.2.1.length) && true)))) then
some ((), (((), ()), (((), ()), (v.2.2.2.1, ((v.2.2.2.2.1.take 0 ++ v.2.2.2.2.1.drop 1), (v.2.2.2.2.2.1, (v.2.2.2.2.2.2.1, ())))))))
else none)
else (bif (decide ((0 : Int) ≤ e458.2.2.1 ∧ (e458.2.2.1 : Int) < v.2.2.2.1.length)) then
(v.2.2.2.1[e458.2.2.1.toNat]?).bind fun e476 =>
(m47 ((((v.2.2.2.1.length : Nat) : Int), (e476, (e458, ()))), ())).bind fun u477 =>
bif (decide ((0 : Int) ≤ e458.2.2.1 ∧ (e458.2.2.1 : Int) < v.2.2.2.1.length)) then
bif (decide (e458.2.2.1.toNat < v.2.2.2.1.length)) then
bif u477.1.1 then (bif (decide ((v.2.2.2.2.1.take 0 ++ v.2.2.2.2.1.drop 1).length + ([(u477.2.2.1.1.1, (u477.2.2.1.1.2.1, (u477.2.2.1.1.2.2.1, (u477.2.2.1.1.2.2.2.1, (u477.2.2.1.1.2.2.2.2.1, (u477.2.2.1.1.2.2.2.2.2.1, (u477.2.2.1.1.2.2.2.2.2.2.1, ([], (u477.2.2.1.1.2.2.2.2.2.2.2.1, ())))))))))] : List Y9).length ≤ 4294967296)) then
let x478 := ((v.2.2.2.2.1.take 0 ++ v.2.2.2.2.1.drop 1) ++ ([(u477.2.2.1.1.1, (u477.2.2.1.1.2.1, (u477.2.2.1.1.2.2.1, (u477.2.2.1.1.2.2.2.1, (u477.2.2.1.1.2.2.2.2.1, (u477.2.2.1.1.2.2.2.2.2.1, (u477.2.2.1.1.2.2.2.2.2.2.1, ([], (u477.2.2.1.1.2.2.2.2.2.2.2.1, ())))))))))] : List Y9))
bif (decide ((v.2.2.2.1.set e458.2.2.1.toNat u477.2.1.1).length = v.2.2.2.1.length) && (decide (v.2.2.2.2.1.length = v.2.2.2.2.1.length) && (decide (v.2.2.2.2.2.1.length = v.2.2.2.2.2.1.length) && (decide (v.2.2.2.2.2.2.1.length = v.2.2.2.2.2.2.1.length) && true)))) then
some ((), (((), ()), (((), ()), ((v.2.2.2.1.set e458.2.2.1.toNat u477.2.1.1), (x478, (v.2.2.2.2.2.1, (v.2.2.2.2.2.2.1, ())))))))
else none
else none)
else (bif (decide ((v.2.2.2.1.set e458.2.2.1.toNat u477.2.1.1).length = v.2.2.2.1.length) && (decide (v.2.2.2.2.1.length = v.2.2.2.2.1.length) && (decide (v.2.2.2.2.2.1.length = v.2.2.2.2.2.1.length) && (decide (v.2.2.2.2.2.2.1.length = v.2.2.2.2.2.2.1.length) && true)))) then
some ((), (((), ()), (((), ()), ((v.2.2.2.1.set e458.2.2.1.toNat u477.2.1.1), ((v.2.2.2.2.1.take 0 ++ v.2.2.2.2.1.drop 1), (v.2.2.2.2.2.1, (v.2.2.2.2.2.2.1, ())))))))
else none)
else none
else none
else none))
else none)
else (bif ((e458.1 : Int) == 4) then (bif (decide ((0 : Int) ≤ e458.2.2.1 ∧ (e458.2.2.1 : Int) < v.2.2.2.2.2.1.length)) then
(v.2.2.2.2.2.1[e458.2.2.1.toNat]?).bind fun e479 =>
bif e479 then (bif (decide (v.2.2.2.1.length = v.2.2.2.1.length) && (decide (v.2.2.2.2.1.length = v.2.2.2.2.1.length) && (decide (v.2.2.2.2.2.1.length = v.2.2.2.2.2.1.length) && (decide (v.2.2.2.2.2.2.1.length = v.2.2.2.2.2.2.1.length) && true)))) then
some ((), (((), ()), (((), ()), (v.2.2.2.1, ((v.2.2.2.2.1.take 0 ++ v.2.2.2.2.1.drop 1), (v.2.2.2.2.2.1, (v.2.2.2.2.2.2.1, ())))))))
else none)
else (let x480 := (if (e458.2.2.1 : Int) < e458.2.1 then e458.2.2.1 else e458.2.1)
let x481 := (if (e458.2.2.1 : Int) > e458.2.1 then e458.2.2.1 else e458.2.1)
(m108 ((v.2.2.2.2.2.2.1, ((x480, (x481, ())), ())), ())).bind fun u482 =>
bif u482.1.1 then (bif (decide (v.2.2.2.1.length = v.2.2.2.1.length) && (decide (v.2.2.2.2.1.length = v.2.2.2.2.1.length) && (decide (v.2.2.2.2.2.1.length = v.2.2.2.2.2.1.length) && (decide (v.2.2.2.2.2.2.1.length = v.2.2.2.2.2.2.1.length) && true)))) then
some ((), (((), ()), (((), ()), (v.2.2.2.1, ((v.2.2.2.2.1.take 0 ++ v.2.2.2.2.1.drop 1), (v.2.2.2.2.2.1, (v.2.2.2.2.2.2.1, ())))))))
else none)
else (bif (decide ((0 : Int) ≤ e458.2.2.1 ∧ (e458.2.2.1 : Int) < v.2.2.2.1.length)) then
(v.2.2.2.1[e458.2.2.1.toNat]?).bind fun e483 =>
(m44 ((((v.2.2.2.1.length : Nat) : Int), (e483, (e458, ()))), ())).bind fun u484 =>
bif (decide ((0 : Int) ≤ e458.2.2.1 ∧ (e458.2.2.1 : Int) < v.2.2.2.1.length)) then
bif (decide (e458.2.2.1.toNat < v.2.2.2.1.length)) then
bif (decide ((v.2.2.2.1.set e458.2.2.1.toNat u484.2.1.1).length = v.2.2.2.1.length) && (decide (v.2.2.2.2.1.length = v.2.2.2.2.1.length) && (decide (v.2.2.2.2.2.1.length = v.2.2.2.2.2.1.length) && (decide (v.2.2.2.2.2.2.1.length = v.2.2.2.2.2.2.1.length) && true)))) then
some ((), (((), ()), (((), ()), ((v.2.2.2.1.set e458.2.2.1.toNat u484.2.1.1), ((v.2.2.2.2.1.take 0 ++ v.2.2.2.2.1.drop 1), (v.2.2.2.2.2.1, (v.2.2.2.2.2.2.1, ())))))))
else none
else none
else none
else none))
else none)
else (bif (decide (v.2.2.2.1.length = v.2.2.2.1.length) && (decide (v.2.2.2.2.1.length = v.2.2.2.2.1.length) && (decide (v.2.2.2.2.2.1.length = v.2.2.2.2.2.1.length) && (decide (v.2.2.2.2.2.2.1.length = v.2.2.2.2.2.2.1.length) && true)))) then
some ((), (((), ()), (((), ()), (v.2.2.2.1, ((v.2.2.2.2.1.take 0 ++ v.2.2.2.2.1.drop 1), (v.2.2.2.2.2.1, (v.2.2.2.2.2.2.1, ())))))))
else none))))
else none
else none
else none) : Option ((Unit) × Y17)).bind fun v485 =>
some (.inl ((), (((), ()), (((), ()), (v485.2.2.2.1, (v485.2.2.2.2.1, (v485.2.2.2.2.2.1, (v485.2.2.2.2.2.2.1, ())))))))))
else (some (.inr ((), (((), ()), (((), ()), (v.2.2.2.1, (v.2.2.2.2.1, (v.2.2.2.2.2.1, (v.2.2.2.2.2.2.1, ())))))))))

def l62_4_1 (v : ((Unit) × Y17)) : Option (((Unit) × Y17) ⊕ ((Unit) × Y17)) :=
let x490 := (decide ((((v.2.2.2.2.1.length : Nat) : Int) : Int) > 0))
bif x490 then (((bif (decide ((0 : Int) ≤ 0 ∧ (0 : Int) < v.2.2.2.2.1.length)) then
(v.2.2.2.2.1[0]?).bind fun e491 =>
bif (decide ((0 : Int) ≤ 0 ∧ (0 : Int) < 1 ∧ (1 : Int) ≤ v.2.2.2.2.1.length ∧ v.2.2.2.2.1.length ≤ 4294967296)) then
bif (decide (v.2.2.2.2.1.length = v.2.2.2.2.1.length) && true) then
bif ((e491.1 : Int) == 1) then (bif (decide ((0 : Int) ≤ e491.2.2.1 ∧ (e491.2.2.1 : Int) < v.2.2.2.2.2.1.length)) then
(v.2.2.2.2.2.1[e491.2.2.1.toNat]?).bind fun e492 =>
bif e492 then (bif (decide (v.2.2.2.1.length = v.2.2.2.1.length) && (decide (v.2.2.2.2.1.length = v.2.2.2.2.1.length) && (decide (v.2.2.2.2.2.1.length = v.2.2.2.2.2.1.length) && (decide (v.2.2.2.2.2.2.1.length = v.2.2.2.2.2.2.1.length) && true)))) then
some ((), (((), ()), (((), ()), (v.2.2.2.1, ((v.2.2.2.2.1.take 0 ++ v.2.2.2.2.1.drop 1), (v.2.2.2.2.2.1, (v.2.2.2.2.2.2.1, ())))))))
else none)
else (let x493 := (if (e491.2.2.1 : Int) < e491.2.1 then e491.2.2.1 else e491.2.1)
let x494 := (if (e491.2.2.1 : Int) > e491.2.1 then e491.2.2.1 else e491.2.1)
(m108 ((v.2.2.2.2.2.2.1, ((x493, (x494, ())), ())), ())).bind fun u495 =>
bif u495.1.1 then (bif (decide (v.2.2.2.1.length = v.2.2.2.1.length) && (decide (v.2.2.2.2.1.length = v.2.2.2.2.1.length) && (decide (v.2.2.2.2.2.1.length = v.2.2.2.2.2.1.length) && (decide (v.2.2.2.2.2.2.1.length = v.2.2.2.2.2.2.1.length) && true)))) then
some ((), (((), ()), (((), ()), (v.2.2.2.1, ((v.2.2.2.2.1.take 0 ++ v.2.2.2.2.1.drop 1), (v.2.2.2.2.2.1, (v.2.2.2.2.2.2.1, ())))))))
else none)
else (bif (decide ((0 : Int) ≤ e491.2.2.1 ∧ (e491.2.2.1 : Int) < v.2.2.2.1.length)) then
(v.2.2.2.1[e491.2.2.1.toNat]?).bind fun e496 =>
(m24 ((((v.2.2.2.1.length : Nat) : Int), (e496, (e491, ()))), ())).bind fun u497 =>
bif (decide ((0 : Int) ≤ e491.2.2.1 ∧ (e491.2.2.1 : Int) < v.2.2.2.1.length)) then
bif (decide (e491.2.2.1.toNat < v.2.2.2.1.length)) then
bif u497.1.1 then (bif (decide ((v.2.2.2.2.1.take 0 ++ v.2.2.2.2.1.drop 1).length + ([(u497.2.2.1.1.1, (u497.2.2.1.1.2.1, (u497.2.2.1.1.2.2.1, (u497.2.2.1.1.2.2.2.1, (u497.2.2.1.1.2.2.2.2.1, (u497.2.2.1.1.2.2.2.2.2.1, (u497.2.2.1.1.2.2.2.2.2.2.1, ([], (u497.2.2.1.1.2.2.2.2.2.2.2.1, ())))))))))] : List Y9).length ≤ 4294967296)) then
let x498 := ((v.2.2.2.2.1.take 0 ++ v.2.2.2.2.1.drop 1) ++ ([(u497.2.2.1.1.1, (u497.2.2.1.1.2.1, (u497.2.2.1.1.2.2.1, (u497.2.2.1.1.2.2.2.1, (u497.2.2.1.1.2.2.2.2.1, (u497.2.2.1.1.2.2.2.2.2.1, (u497.2.2.1.1.2.2.2.2.2.2.1, ([], (u497.2.2.1.1.2.2.2.2.2.2.2.1, ())))))))))] : List Y9))
bif (decide ((v.2.2.2.1.set e491.2.2.1.toNat u497.2.1.1).length = v.2.2.2.1.length) && (decide (v.2.2.2.2.1.length = v.2.2.2.2.1.length) && (decide (v.2.2.2.2.2.1.length = v.2.2.2.2.2.1.length) && (decide (v.2.2.2.2.2.2.1.length = v.2.2.2.2.2.2.1.length) && true)))) then
some ((), (((), ()), (((), ()), ((v.2.2.2.1.set e491.2.2.1.toNat u497.2.1.1), (x498, (v.2.2.2.2.2.1, (v.2.2.2.2.2.2.1, ())))))))
else none
else none)
else (bif (decide ((v.2.2.2.1.set e491.2.2.1.toNat u497.2.1.1).length = v.2.2.2.1.length) && (decide (v.2.2.2.2.1.length = v.2.2.2.2.1.length) && (decide (v.2.2.2.2.2.1.length = v.2.2.2.2.2.1.length) && (decide (v.2.2.2.2.2.2.1.length = v.2.2.2.2.2.2.1.length) && true)))) then
some ((), (((), ()), (((), ()), ((v.2.2.2.1.set e491.2.2.1.toNat u497.2.1.1), ((v.2.2.2.2.1.take 0 ++ v.2.2.2.2.1.drop 1), (v.2.2.2.2.2.1, (v.2.2.2.2.2.2.1, ())))))))
else none)
else none
else none
else none))
else none)
else (bif ((e491.1 : Int) == 2) then (bif (decide ((0 : Int) ≤ e491.2.2.1 ∧ (e491.2.2.1 : Int) < v.2.2.2.2.2.1.length)) then
(v.2.2.2.2.2.1[e491.2.2.1.toNat]?).bind fun e499 =>
bif e499 then (bif (decide (v.2.2.2.1.length = v.2.2.2.1.length) && (decide (v.2.2.2.2.1.length = v.2.2.2.2.1.length) && (decide (v.2.2.2.2.2.1.length = v.2.2.2.2.2.1.length) && (decide (v.2.2.2.2.2.2.1.length = v.2.2.2.2.2.2.1.length) && true)))) then
some ((), (((), ()), (((), ()), (v.2.2.2.1, ((v.2.2.2.2.1.take 0 ++ v.2.2.2.2.1.drop 1), (v.2.2.2.2.2.1, (v.2.2.2.2.2.2.1, ())))))))
else none)
else (let x500 := (if (e491.2.2.1 : Int) < e491.2.1 then e491.2.2.1 else e491.2.1)
let x501 := (if (e491.2.2.1 : Int) > e491.2.1 then e491.2.2.1 else e491.2.1)
(m108 ((v.2.2.2.2.2.2.1, ((x500, (x501, ())), ())), ())).bind fun u502 =>
bif u502.1.1 then (bif (decide (v.2.2.2.1.length = v.2.2.2.1.length) && (decide (v.2.2.2.2.1.length = v.2.2.2.2.1.length) && (decide (v.2.2.2.2.2.1.length = v.2.2.2.2.2.1.length) && (decide (v.2.2.2.2.2.2.1.length = v.2.2.2.2.2.2.1.length) && true)))) then
some ((), (((), ()), (((), ()), (v.2.2.2.1, ((v.2.2.2.2.1.take 0 ++ v.2.2.2.2.1.drop 1), (v.2.2.2.2.2.1, (v.2.2.2.2.2.2.1, ())))))))
else none)
else (bif (decide ((0 : Int) ≤ e491.2.2.1 ∧ (e491.2.2.1 : Int) < v.2.2.2.1.length)) then
(v.2.2.2.1[e491.2.2.1.toNat]?).bind fun e503 =>
(m36 ((((v.2.2.2.1.length : Nat) : Int), (e503, (e491, ()))), ())).bind fun u504 =>
bif (decide ((0 : Int) ≤ e491.2.2.1 ∧ (e491.2.2.1 : Int) < v.2.2.2.1.length)) then
bif (decide (e491.2.2.1.toNat < v.2.2.2.1.length)) then
bif (decide ((v.2.2.2.1.set e491.2.2.1.toNat u504.2.1.1).length = v.2.2.2.1.length) && (decide (v.2.2.2.2.1.length = v.2.2.2.2.1.length) && (decide (v.2.2.2.2.2.1.length = v.2.2.2.2.2.1.length) && (decide (v.2.2.2.2.2.2.1.length = v.2.2.2.2.2.2.1.length) && true)))) then
some ((), (((), ()), (((), ()), ((v.2.2.2.1.set e491.2.2.1.toNat u504.2.1.1), ((v.2.2.2.2.1.take 0 ++ v.2.2.2.2.1.drop 1), (v.2.2.2.2.2.1, (v.2.2.2.2.2.2.1, ())))))))
else none
else none
else none
else none))
else none)
else (bif ((e491.1 : Int) == 3) then (bif (decide ((0 : Int) ≤ e491.2.2.1 ∧ (e491.2.2.1 : Int) < v.2.2.2.2.2.1.length)) then
(v.2.2.2.2.2.1[e491.2.2.1.toNat]?).bind fun e505 =>
bif e505 then (bif (decide (v.2.2.2.1.length = v.2.2.2.1.length) && (decide (v.2.2.2.2.1.length = v.2.2.2.2.1.length) && (decide (v.2.2.2.2.2.1.length = v.2.2.2.2.2.1.length) && (decide (v.2.2.2.2.2.2.1.length = v.2.2.2.2.2.2.1.length) && true)))) then
some ((), (((), ()), (((), ()), (v.2.2.2.1, ((v.2.2.2.2.1.take 0 ++ v.2.2.2.2.1.drop 1), (v.2.2.2.2.2.1, (v.2.2.2.2.2.2.1, ())))))))
else none)
else (let x506 := (if (e491.2.2.1 : Int) < e491.2.1 then e491.2.2.1 else e491.2.1)
let x507 := (if (e491.2.2.1 : Int) > e491.2.1 then e491.2.2.1 else e491.2.1)
(m108 ((v.2.2.2.2.2.2.1, ((x506, (x507, ())), ())), ())).bind fun u508 =>
bif u508.1.1 then (bif (decide (v.2.2.2.1.length = v.2.2.2.1.length) && (decide (v.2.2.2.2.1.length = v.2.2.2.2.1.length) && (decide (v.2.2.2.2.2.1.length = v.2.2.2.2.2.1.length) && (decide (v.2.2.2.2.2.2.1.length = v.2.2.2.2.2.2.1.length) && true)))) then
some ((), (((), ()), (((), ()), (v.2.2.2.1, ((v.2.2.2.2.1.take 0 ++ v.2.2.2.2.1.drop 1), (v.2.2.2.2.2.1, (v.2.2.2.2.2.2.1, ())))))))
else none)
else (bif (decide ((0 : Int) ≤ e491.2.2.1 ∧ (e491.2.2.1 : Int) < v.2.2.2.1.length)) then
(v.2.2.2.1[e491.2.2.1.toNat]?).bind fun e509 =>
(m47 ((((v.2.2.2.1.length : Nat) : Int), (e509, (e491, ()))), ())).bind fun u510 =>
bif (decide ((0 : Int) ≤ e491.2.2.1 ∧ (e491.2.2.1 : Int) < v.2.2.2.1.length)) then
bif (decide (e491.2.2.1.toNat < v.2.2.2.1.length)) then
bif u510.1.1 then (bif (decide ((v.2.2.2.2.1.take 0 ++ v.2.2.2.2.1.drop 1).length + ([(u510.2.2.1.1.1, (u510.2.2.1.1.2.1, (u510.2.2.1.1.2.2.1, (u510.2.2.1.1.2.2.2.1, (u510.2.2.1.1.2.2.2.2.1, (u510.2.2.1.1.2.2.2.2.2.1, (u510.2.2.1.1.2.2.2.2.2.2.1, ([], (u510.2.2.1.1.2.2.2.2.2.2.2.1, ())))))))))] : List Y9).length ≤ 4294967296)) then
let x511 := ((v.2.2.2.2.1.take 0 ++ v.2.2.2.2.1.drop 1) ++ ([(u510.2.2.1.1.1, (u510.2.2.1.1.2.1, (u510.2.2.1.1.2.2.1, (u510.2.2.1.1.2.2.2.1, (u510.2.2.1.1.2.2.2.2.1, (u510.2.2.1.1.2.2.2.2.2.1, (u510.2.2.1.1.2.2.2.2.2.2.1, ([], (u510.2.2.1.1.2.2.2.2.2.2.2.1, ())))))))))] : List Y9))
bif (decide ((v.2.2.2.1.set e491.2.2.1.toNat u510.2.1.1).length = v.2.2.2.1.length) && (decide (v.2.2.2.2.1.length = v.2.2.2.2.1.length) && (decide (v.2.2.2.2.2.1.length = v.2.2.2.2.2.1.length) && (decide (v.2.2.2.2.2.2.1.length = v.2.2.2.2.2.2.1.length) && true)))) then
some ((), (((), ()), (((), ()), ((v.2.2.2.1.set e491.2.2.1.toNat u510.2.1.1), (x511, (v.2.2.2.2.2.1, (v.2.2.2.2.2.2.1, ())))))))
else none
else none)
else (bif (decide ((v.2.2.2.1.set e491.2.2.1.toNat u510.2.1.1).length = v.2.2.2.1.length) && (decide (v.2.2.2.2.1.length = v.2.2.2.2.1.length) && (decide (v.2.2.2.2.2.1.length = v.2.2.2.2.2.1.length) && (decide (v.2.2.2.2.2.2.1.length = v.2.2.2.2.2.2.1.length) && true)))) then
some ((), (((), ()), (((), ()), ((v.2.2.2.1.set e491.2.2.1.toNat u510.2.1.1), ((v.2.2.2.2.1.take 0 ++ v.2.2.2.2.1.drop 1), (v.2.2.2.2.2.1, (v.2.2.2.2.2.2.1, ())))))))
else none)
else none
else none
else none))
else none)
else (bif ((e491.1 : Int) == 4) then (bif (decide ((0 : Int) ≤ e491.2.2.1 ∧ (e491.2.2.1 : Int) < v.2.2.2.2.2.1.length)) then
(v.2.2.2.2.2.1[e491.2.2.1.toNat]?).bind fun e512 =>
bif e512 then (bif (decide (v.2.2.2.1.length = v.2.2.2.1.length) && (decide (v.2.2.2.2.1.length = v.2.2.2.2.1.length) && (decide (v.2.2.2.2.2.1.length = v.2.2.2.2.2.1.length) && (decide (v.2.2.2.2.2.2.1.length = v.2.2.2.2.2.2.1.length) && true)))) then
some ((), (((), ()), (((), ()), (v.2.2.2.1, ((v.2.2.2.2.1.take 0 ++ v.2.2.2.2.1.drop 1), (v.2.2.2.2.2.1, (v.2.2.2.2.2.2.1, ())))))))
else none)
else (let x513 := (if (e491.2.2.1 : Int) < e491.2.1 then e491.2.2.1 else e491.2.1)
let x514 := (if (e491.2.2.1 : Int) > e491.2.1 then e491.2.2.1 else e491.2.1)
(m108 ((v.2.2.2.2.2.2.1, ((x513, (x514, ())), ())), ())).bind fun u515 =>
bif u515.1.1 then (bif (decide (v.2.2.2.1.length = v.2.2.2.1.length) && (decide (v.2.2.2.2.1.length = v.2.2.2.2.1.length) && (decide (v.2.2.2.2.2.1.length = v.2.2.2.2.2.1.length) && (decide (v.2.2.2.2.2.2.1.length = v.2.2.2.2.2.2.1.length) && true)))) then
some ((), (((), ()), (((), ()), (v.2.2.2.1, ((v.2.2.2.2.1.take 0 ++ v.2.2.2.2.1.drop 1), (v.2.2.2.2.2.1, (v.2.2.2.2.2.2.1, ())))))))
else none)
else (bif (decide ((0 : Int) ≤ e491.2.2.1 ∧ (e491.2.2.1 : Int) < v.2.2.2.1.length)) then
(v.2.2.2.1[e491.2.2.1.toNat]?).bind fun e516 =>
(m44 ((((v.2.2.2.1.length : Nat) : Int), (e516, (e491, ()))), ())).bind fun u517 =>
bif (decide ((0 : Int) ≤ e491.2.2.1 ∧ (e491.2.2.1 : Int) < v.2.2.2.1.length)) then
bif (decide (e491.2.2.1.toNat < v.2.2.2.1.length)) then
bif (decide ((v.2.2.2.1.set e491.2.2.1.toNat u517.2.1.1).length = v.2.2.2.1.length) && (decide (v.2.2.2.2.1.length = v.2.2.2.2.1.length) && (decide (v.2.2.2.2.2.1.length = v.2.2.2.2.2.1.length) && (decide (v.2.2.2.2.2.2.1.length = v.2.2.2.2.2.2.1.length) && true)))) then
some ((), (((), ()), (((), ()), ((v.2.2.2.1.set e491.2.2.1.toNat u517.2.1.1), ((v.2.2.2.2.1.take 0 ++ v.2.2.2.2.1.drop 1), (v.2.2.2.2.2.1, (v.2.2.2.2.2.2.1, ())))))))
else none
else none
else none
else none))
else none)
else (bif (decide (v.2.2.2.1.length = v.2.2.2.1.length) && (decide (v.2.2.2.2.1.length = v.2.2.2.2.1.length) && (decide (v.2.2.2.2.2.1.length = v.2.2.2.2.2.1.length) && (decide (v.2.2.2.2.2.2.1.length = v.2.2.2.2.2.2.1.length) && true)))) then
some ((), (((), ()), (((), ()), (v.2.2.2.1, ((v.2.2.2.2.1.take 0 ++ v.2.2.2.2.1.drop 1), (v.2.2.2.2.2.1, (v.2.2.2.2.2.2.1, ())))))))
else none))))
else none
else none
else none) : Option ((Unit) × Y17)).bind fun v518 =>
some (.inl ((), (((), ()), (((), ()), (v518.2.2.2.1, (v518.2.2.2.2.1, (v518.2.2.2.2.2.1, (v518.2.2.2.2.2.2.1, ())))))))))
else (some (.inr ((), (((), ()), (((), ()), (v.2.2.2.1, (v.2.2.2.2.1, (v.2.2.2.2.2.1, (v.2.2.2.2.2.2.1, ())))))))))

def l62_0_11 (v : ((Int × Int × Unit) × Y17)) : Option (((Int × Int × Unit) × Y17) ⊕ ((Unit) × Y17)) :=
bif (decide ((v.1.1 : Int) < 2)) then (((bif (decide ((0 : Int) ≤ v.1.2.1 ∧ (v.1.2.1 : Int) < v.2.2.2.1.length)) then
(v.2.2.2.1[v.1.2.1.toNat]?).bind fun e487 =>
bif ((e487.2.2.2.1 : Int) == 2) then (bif (decide ((0 : Int) ≤ v.1.2.1 ∧ (v.1.2.1 : Int) < v.2.2.2.1.length)) then
(v.2.2.2.1[v.1.2.1.toNat]?).bind fun e488 =>
(m46 ((((v.2.2.2.1.length : Nat) : Int), (e488, ())), ())).bind fun u489 =>
(loopT l62_4_1 ((), (((), ()), (((), ()), (v.2.2.2.1, (u489.2.1, (v.2.2.2.2.2.1, (v.2.2.2.2.2.2.1, ())))))))).bind fun d519 =>
bif (decide (v.2.2.2.1.length = v.2.2.2.1.length) && (decide (u489.2.1.length = u489.2.1.length) && (decide (v.2.2.2.2.2.1.length = v.2.2.2.2.2.1.length) && (decide (v.2.2.2.2.2.2.1.length = v.2.2.2.2.2.2.1.length) && true)))) then
some ((v.1.2.1, (v.1.1, ())), (((), ()), (((), ()), (d519.2.2.2.1, (d519.2.2.2.2.1, (d519.2.2.2.2.2.1, (d519.2.2.2.2.2.2.1, ())))))))
else none
else none)
else (some ((v.1.2.1, (v.1.1, ())), (((), ()), (((), ()), (v.2.2.2.1, (v.2.2.2.2.1, (v.2.2.2.2.2.1, (v.2.2.2.2.2.2.1, ()))))))))
else none) : Option ((Int × Int × Unit) × Y17)).bind fun v520 =>
some (.inl (((w64 (v520.1.2.1 + 1)), (v520.1.1, ())), (((), ()), (((), ()), (v520.2.2.2.1, (v520.2.2.2.2.1, (v520.2.2.2.2.2.1, (v520.2.2.2.2.2.2.1, ())))))))))
else (some (.inr ((), (((), ()), (((), ()), (v.2.2.2.1, (v.2.2.2.2.1, (v.2.2.2.2.2.1, (v.2.2.2.2.2.2.1, ())))))))))

/- pagewatch/region.Settle -/
def i62 : Abs.Sg := ⟨[0, 1], (.dat Z8 (.dat (.int .i64) .nil)), .nil⟩

def o62 : Abs.Sg := ⟨[4, 5], (.st (.ptr (0, 0) 4 0 0) (.dat (.int .i64) .nil)), (.box 4 (.agg (.st (.own Z3 (1, 0)) (.st (.own Z4 (2, 0)) (.st (.own .bool (3, 0)) (.st (.own Z12 (4, 0)) .nil)))) .nil) (.arr Z3 false (.arr Z4 false (.arr .bool false (.arr Z12 false .nil)))))⟩

def m62 (v : Y22) : Option ((Int × Unit) × Y15) :=
(m100 ((v.1.1, (v.1.2.1, ())), ())).bind fun u454 =>
bif ((u454.1.1 : Int) != 0) then (some ((u454.1.1, ()), (((), ()), ([], ([], ([], ([], ())))))))
else ((m101 ((v.1.1, ()), ())).bind fun u455 =>
(m102 (((u455.2.2.1, ([], (u455.2.2.2.2.1, (u455.2.2.2.2.2.1, ())))), (v.1.2.1, ())), ())).bind fun u456 =>
bif ((u456.1.1 : Int) != 0) then (some ((u456.1.1, ()), (((), ()), ([], ([], ([], ([], ())))))))
else ((loopT l62_1_1 ((), (((), ()), (((), ()), (u456.2.2.1, (u456.2.2.2.1, (u456.2.2.2.2.1, (u456.2.2.2.2.2.1, ())))))))).bind fun d486 =>
bif (decide (u456.2.2.1.length = u456.2.2.1.length) && (decide (u456.2.2.2.1.length = u456.2.2.2.1.length) && (decide (u456.2.2.2.2.1.length = u456.2.2.2.2.1.length) && (decide (u456.2.2.2.2.2.1.length = u456.2.2.2.2.2.1.length) && true)))) then
(loopT l62_0_11 ((0, (v.1.2.1, ())), (((), ()), (((), ()), (d486.2.2.2.1, (d486.2.2.2.2.1, (d486.2.2.2.2.2.1, (d486.2.2.2.2.2.2.1, ())))))))).bind fun d521 =>
some ((0, ()), (((), ()), (d521.2.2.2.1, (d521.2.2.2.2.1, (d521.2.2.2.2.2.1, (d521.2.2.2.2.2.2.1, ()))))))
else none))

def sp62 : Abs.Spec := ⟨0, i62, o62, m62⟩

def an62 : Nat → Abs.FAn
  | 0 => Abs.FAn.mk (fun _ => none) (fun
    | 15 => some (⟨[2, 1, 4, 30], (.st (.ptr (0, 0) 4 0 0) (.dat (.int .i64) (.st (.ptr (1, 0) 4 0 0) (.dat (.int .i64) .nil)))), (.box 4 (.agg (.st (.own Z3 (2, 0)) (.st (.own Z4 (3, 0)) (.st (.own .bool (4, 0)) (.st (.own Z12 (5, 0)) .nil)))) .nil) (.box 4 (.agg (.st .nil (.st .nil (.st .nil (.st .nil .nil)))) .nil) (.arr Z3 false (.arr Z4 false (.arr .bool false (.arr Z12 false .nil))))))⟩, none)
    | _ => none) (fun
    | 11 => some ⟨⟨[30, 2, 1, 4], (.dat (.int .i64) (.st (.ptr (0, 0) 4 0 0) (.dat (.int .i64) (.st (.ptr (1, 0) 4 0 0) .nil)))), (.box 4 (.agg (.st (.own Z3 (2, 0)) (.st (.own Z4 (3, 0)) (.st (.own .bool (4, 0)) (.st (.own Z12 (5, 0)) .nil)))) .nil) (.box 4 (.agg (.st .nil (.st .nil (.st .nil (.st .nil .nil)))) .nil) (.arr Z3 false (.arr Z4 false (.arr .bool false (.arr Z12 false .nil))))))⟩, (.one (.exit 0) ⟨[4, 2], (.st (.ptr (0, 0) 4 0 0) (.st (.ptr (1, 0) 4 0 0) .nil)), (.box 4 (.agg (.st .nil (.st .nil (.st .nil (.st .nil .nil)))) .nil) (.box 4 (.agg (.st (.own Z3 (2, 0)) (.st (.own Z4 (3, 0)) (.st (.own .bool (4, 0)) (.st (.own Z12 (5, 0)) .nil)))) .nil) (.arr Z3 false (.arr Z4 false (.arr .bool false (.arr Z12 false .nil))))))⟩)⟩
    | _ => none) (fun
    | 14, 1 => 4
    | 9, 1 => 1
    | _, _ => 0)
  | 1 => Abs.FAn.mk (fun
    | 2 => some ⟨[1, 2], (.st (.ptr (0, 0) 4 0 0) (.st (.ptr (1, 0) 4 0 0) .nil)), (.box 4 (.agg (.st (.own Z3 (2, 0)) (.st (.own Z4 (3, 0)) (.st (.own .bool (4, 0)) (.st (.own Z12 (5, 0)) .nil)))) .nil) (.box 4 (.agg (.st .nil (.st .nil (.st .nil (.st .nil .nil)))) .nil) (.arr Z3 false (.arr Z4 false (.arr .bool false (.arr Z12 false .nil))))))⟩
    | _ => none) (fun _ => none) (fun
    | 1 => some ⟨⟨[1, 2], (.st (.ptr (0, 0) 4 0 0) (.st (.ptr (1, 0) 4 0 0) .nil)), (.box 4 (.agg (.st (.own Z3 (2, 0)) (.st (.own Z4 (3, 0)) (.st (.own .bool (4, 0)) (.st (.own Z12 (5, 0)) .nil)))) .nil) (.box 4 (.agg (.st .nil (.st .nil (.st .nil (.st .nil .nil)))) .nil) (.arr Z3 false (.arr Z4 false (.arr .bool false (.arr Z12 false .nil))))))⟩, (.one (.exit 0) ⟨[2, 1], (.st (.ptr (0, 0) 4 0 0) (.st (.ptr (1, 0) 4 0 0) .nil)), (.box 4 (.agg (.st .nil (.st .nil (.st .nil (.st .nil .nil)))) .nil) (.box 4 (.agg (.st (.own Z3 (2, 0)) (.st (.own Z4 (3, 0)) (.st (.own .bool (4, 0)) (.st (.own Z12 (5, 0)) .nil)))) .nil) (.arr Z3 false (.arr Z4 false (.arr .bool false (.arr Z12 false .nil))))))⟩)⟩
    | _ => none) (fun
    | 2, 1 => 2
    | _, _ => 0)
  | 2 => Abs.FAn.mk (fun _ => none) (fun _ => none) (fun _ => none) (fun
    | 6, 11 => 3
    | _, _ => 0)
  | 4 => Abs.FAn.mk (fun
    | 2 => some ⟨[1, 2], (.st (.ptr (0, 0) 4 0 0) (.st (.ptr (1, 0) 4 0 0) .nil)), (.box 4 (.agg (.st (.own Z3 (2, 0)) (.st (.own Z4 (3, 0)) (.st (.own .bool (4, 0)) (.st (.own Z12 (5, 0)) .nil)))) .nil) (.box 4 (.agg (.st .nil (.st .nil (.st .nil (.st .nil .nil)))) .nil) (.arr Z3 false (.arr Z4 false (.arr .bool false (.arr Z12 false .nil))))))⟩
    | _ => none) (fun _ => none) (fun
    | 1 => some ⟨⟨[1, 2], (.st (.ptr (0, 0) 4 0 0) (.st (.ptr (1, 0) 4 0 0) .nil)), (.box 4 (.agg (.st (.own Z3 (2, 0)) (.st (.own Z4 (3, 0)) (.st (.own .bool (4, 0)) (.st (.own Z12 (5, 0)) .nil)))) .nil) (.box 4 (.agg (.st .nil (.st .nil (.st .nil (.st .nil .nil)))) .nil) (.arr Z3 false (.arr Z4 false (.arr .bool false (.arr Z12 false .nil))))))⟩, (.one (.exit 0) ⟨[2, 1], (.st (.ptr (0, 0) 4 0 0) (.st (.ptr (1, 0) 4 0 0) .nil)), (.box 4 (.agg (.st .nil (.st .nil (.st .nil (.st .nil .nil)))) .nil) (.box 4 (.agg (.st (.own Z3 (2, 0)) (.st (.own Z4 (3, 0)) (.st (.own .bool (4, 0)) (.st (.own Z12 (5, 0)) .nil)))) .nil) (.arr Z3 false (.arr Z4 false (.arr .bool false (.arr Z12 false .nil))))))⟩)⟩
    | _ => none) (fun
    | 2, 1 => 5
    | _, _ => 0)
  | 5 => Abs.FAn.mk (fun _ => none) (fun _ => none) (fun _ => none) (fun
    | 6, 11 => 6
    | _, _ => 0)
  | _ => {}

theorem ok62 : Abs.SpecOK Try.prog 62 sp62 :=
  Abs.specOC_of (C := ctab) (mv := mvtab) ctab_ok (n := 12) (an := an62) (T := Abs.tabOf [(100, sp100), (101, sp101), (102, sp102), (108, sp108), (24, sp24), (36, sp36), (47, sp47), (44, sp44), (46, sp46)]) good foll (Abs.tabOf_ok _ (by simp only [List.forall_mem_cons]; exact ⟨ok100, ok101, ok102, ok108, ok24, ok36, ok47, ok44, ok46, fun _ h => by cases h⟩)) rfl (by intro v; kernel_rfl)

/- pagewatch/region.Propose -/
def i63 : Abs.Sg := ⟨[0, 1, 2], (.dat Z8 (.dat (.int .i64) (.dat Z6 .nil))), .nil⟩

def o63 : Abs.Sg := ⟨[6, 7], (.st (.ptr (0, 0) 4 0 0) (.dat (.int .i64) .nil)), (.box 4 (.agg (.st (.own Z3 (1, 0)) (.st (.own Z4 (2, 0)) (.st (.own .bool (3, 0)) (.st (.own Z12 (4, 0)) .nil)))) .nil) (.arr Z3 false (.arr Z4 false (.arr .bool false (.arr Z12 false .nil)))))⟩

def m63 (v : ((Y5 × Int × Y10 × Unit) × (Unit))) : Option ((Int × Unit) × Y15) :=
(m100 ((v.1.1, (v.1.2.1, ())), ())).bind fun u13 =>
bif ((u13.1.1 : Int) != 0) then (some ((u13.1.1, ()), (((), ()), ([], ([], ([], ([], ())))))))
else ((m101 ((v.1.1, ()), ())).bind fun u14 =>
bif (decide ((0 : Int) ≤ v.1.2.1 ∧ (v.1.2.1 : Int) < u14.2.2.1.length)) then
(u14.2.2.1[v.1.2.1.toNat]?).bind fun e15 =>
(m54 ((((u14.2.2.1.length : Nat) : Int), (e15, (v.1.2.2.1, ()))), ())).bind fun u16 =>
bif ((u16.1.1 : Int) != 0) then (some ((u16.1.1, ()), (((), ()), ([], ([], ([], ([], ())))))))
else (bif (decide ((0 : Int) ≤ v.1.2.1 ∧ (v.1.2.1 : Int) < u14.2.2.1.length)) then
bif (decide (v.1.2.1.toNat < u14.2.2.1.length)) then
some ((0, ()), (((), ()), ((u14.2.2.1.set v.1.2.1.toNat (u16.2.1.1.1, (u16.2.1.1.2.1, (u16.2.1.1.2.2.1, (u16.2.1.1.2.2.2.1, (u16.2.2.1, (u16.2.1.1.2.2.2.2.1, (u16.2.2.2.1, (u16.2.2.2.2.1, ()))))))))), (u14.2.2.2.1, (u14.2.2.2.2.1, (u14.2.2.2.2.2.1, ()))))))
else none
else none)
else none)

def sp63 : Abs.Spec := ⟨0, i63, o63, m63⟩

def an63 : Nat → Abs.FAn
  | _ => {}

theorem ok63 : Abs.SpecOK Try.prog 63 sp63 :=
  Abs.specOC_of (C := ctab) (mv := mvtab) ctab_ok (n := 12) (an := an63) (T := Abs.tabOf [(100, sp100), (101, sp101), (54, sp54)]) good foll (Abs.tabOf_ok _ (by simp only [List.forall_mem_cons]; exact ⟨ok100, ok101, ok54, fun _ h => by cases h⟩)) rfl (by intro v; kernel_rfl)

/- pagewatch/region.Beat -/
def i64 : Abs.Sg := ⟨[0, 1], (.dat Z8 (.dat (.int .i64) .nil)), .nil⟩

def o64 : Abs.Sg := ⟨[4, 5], (.st (.ptr (0, 0) 4 0 0) (.dat (.int .i64) .nil)), (.box 4 (.agg (.st (.own Z3 (1, 0)) (.st (.own Z4 (2, 0)) (.st (.own .bool (3, 0)) (.st (.own Z12 (4, 0)) .nil)))) .nil) (.arr Z3 false (.arr Z4 false (.arr .bool false (.arr Z12 false .nil)))))⟩

def m64 (v : Y22) : Option ((Int × Unit) × Y15) :=
(m100 ((v.1.1, (v.1.2.1, ())), ())).bind fun u21 =>
bif ((u21.1.1 : Int) != 0) then (some ((u21.1.1, ()), (((), ()), ([], ([], ([], ([], ())))))))
else (Abs.rowAt v.1.1.1 v.1.2.1 fun e22 _ =>
bif ((e22.2.2.2.1 : Int) != 2) then (some ((22, ()), (((), ()), ([], ([], ([], ([], ())))))))
else ((m101 ((v.1.1, ()), ())).bind fun u23 =>
((bif (decide ((0 : Int) ≤ v.1.2.1 ∧ (v.1.2.1 : Int) < u23.2.2.1.length)) then
(u23.2.2.1[v.1.2.1.toNat]?).bind fun e24 =>
(m46 ((((u23.2.2.1.length : Nat) : Int), (e24, ())), ())).bind fun u25 =>
let x26 := (w64 (((u23.2.2.2.1.length : Nat) : Int) + ((u25.2.1.length : Nat) : Int)))
bif (decide ((x26 : Int) > 256)) then (bif (decide (u23.2.2.1.length = u23.2.2.1.length) && (decide (u23.2.2.2.1.length = u23.2.2.2.1.length) && (decide (u23.2.2.2.2.1.length = u23.2.2.2.2.1.length) && (decide (u23.2.2.2.2.2.1.length = u23.2.2.2.2.2.1.length) && (decide (u25.2.1.length = u25.2.1.length) && true))))) then
some ((5, ()), (((), ()), ([], ([], ([], ([], ()))))))
else none)
else (bif (decide (u23.2.2.2.1.length + u25.2.1.length ≤ 4294967296)) then
bif (decide (u23.2.2.1.length = u23.2.2.1.length) && (decide (u23.2.2.2.1.length = u23.2.2.2.1.length) && (decide (u23.2.2.2.2.1.length = u23.2.2.2.2.1.length) && (decide (u23.2.2.2.2.2.1.length = u23.2.2.2.2.2.1.length) && (decide (u25.2.1.length = u25.2.1.length) && true))))) then
some ((0, ()), (((), ()), (u23.2.2.1, ((u23.2.2.2.1 ++ u25.2.1), (u23.2.2.2.2.1, (u23.2.2.2.2.2.1, ()))))))
else none
else none)
else none) : Option ((Int × Unit) × Y15)).bind fun v27 =>
some ((v27.1.1, ()), (((), ()), (v27.2.2.1, (v27.2.2.2.1, (v27.2.2.2.2.1, (v27.2.2.2.2.2.1, ()))))))))

def sp64 : Abs.Spec := ⟨0, i64, o64, m64⟩

def an64 : Nat → Abs.FAn
  | 0 => Abs.FAn.mk (fun
    | 7 => some ⟨[4, 5], (.st (.ptr (0, 0) 4 0 0) (.dat (.int .i64) .nil)), (.box 4 (.agg (.st (.own Z3 (1, 0)) (.st (.own Z4 (2, 0)) (.st (.own .bool (3, 0)) (.st (.own Z12 (4, 0)) .nil)))) .nil) (.arr Z3 false (.arr Z4 false (.arr .bool false (.arr Z12 false .nil)))))⟩
    | _ => none) (fun _ => none) (fun _ => none) (fun
    | 7, 10 => 1
    | _, _ => 0)
  | _ => {}

theorem ok64 : Abs.SpecOK Try.prog 64 sp64 :=
  Abs.specOC_of (C := ctab) (mv := mvtab) ctab_ok (n := 12) (an := an64) (T := Abs.tabOf [(100, sp100), (101, sp101), (46, sp46)]) good foll (Abs.tabOf_ok _ (by simp only [List.forall_mem_cons]; exact ⟨ok100, ok101, ok46, fun _ h => by cases h⟩)) rfl (by intro v; kernel_rfl)

/- pagewatch/region.Deliver -/
def i97 : Abs.Sg := ⟨[0, 1], (.dat Z8 (.dat (.int .i64) .nil)), .nil⟩

def o97 : Abs.Sg := ⟨[4, 5], (.st (.ptr (0, 0) 4 0 0) (.dat (.int .i64) .nil)), (.box 4 (.agg (.st (.own Z3 (1, 0)) (.st (.own Z4 (2, 0)) (.st (.own .bool (3, 0)) (.st (.own Z12 (4, 0)) .nil)))) .nil) (.arr Z3 false (.arr Z4 false (.arr .bool false (.arr Z12 false .nil)))))⟩

def m97 (v : Y22) : Option ((Int × Unit) × Y15) :=
(m107 ((v.1.1, (v.1.2.1, ((v.1.1.2.1.length : Int), ()))), ())).bind fun u62 =>
bif ((u62.1.1 : Int) != 0) then (some ((u62.1.1, ()), (((), ()), ([], ([], ([], ([], ())))))))
else ((((m101 ((v.1.1, ()), ())).bind fun u63 =>
bif (decide ((0 : Int) ≤ v.1.2.1 ∧ (v.1.2.1 : Int) < u63.2.2.2.1.length)) then
(u63.2.2.2.1[v.1.2.1.toNat]?).bind fun e64 =>
bif (decide ((0 : Int) ≤ v.1.2.1 ∧ (v.1.2.1 : Int) < (w64 (v.1.2.1 + 1)) ∧ ((w64 (v.1.2.1 + 1)) : Int) ≤ u63.2.2.2.1.length ∧ u63.2.2.2.1.length ≤ 4294967296)) then
bif (decide (u63.2.2.2.1.length = u63.2.2.2.1.length) && true) then
bif ((e64.1 : Int) == 1) then (bif (decide ((0 : Int) ≤ e64.2.2.1 ∧ (e64.2.2.1 : Int) < u63.2.2.2.2.1.length)) then
(u63.2.2.2.2.1[e64.2.2.1.toNat]?).bind fun e65 =>
bif e65 then (bif (decide (u63.2.2.1.length = u63.2.2.1.length) && (decide (u63.2.2.2.1.length = u63.2.2.2.1.length) && (decide (u63.2.2.2.2.1.length = u63.2.2.2.2.1.length) && (decide (u63.2.2.2.2.2.1.length = u63.2.2.2.2.2.1.length) && true)))) then
some ((0, ()), (((), ()), (u63.2.2.1, ((u63.2.2.2.1.take v.1.2.1.toNat ++ u63.2.2.2.1.drop (w64 (v.1.2.1 + 1)).toNat), (u63.2.2.2.2.1, (u63.2.2.2.2.2.1, ()))))))
else none)
else (let x66 := (if (e64.2.2.1 : Int) < e64.2.1 then e64.2.2.1 else e64.2.1)
let x67 := (if (e64.2.2.1 : Int) > e64.2.1 then e64.2.2.1 else e64.2.1)
(m108 ((u63.2.2.2.2.2.1, ((x66, (x67, ())), ())), ())).bind fun u68 =>
bif u68.1.1 then (bif (decide (u63.2.2.1.length = u63.2.2.1.length) && (decide (u63.2.2.2.1.length = u63.2.2.2.1.length) && (decide (u63.2.2.2.2.1.length = u63.2.2.2.2.1.length) && (decide (u63.2.2.2.2.2.1.length = u63.2.2.2.2.2.1.length) && true)))) then
some ((0, ()), (((), ()), (u63.2.2.1, ((u63.2.2.2.1.take v.1.2.1.toNat ++ u63.2.2.2.1.drop (w64 (v.1.2.1 + 1)).toNat), (u63.2.2.2.2.1, (u63.2.2.2.2.2.1, ()))))))
else none)
else (bif (decide ((0 : Int) ≤ e64.2.2.1 ∧ (e64.2.2.1 : Int) < u63.2.2.1.length)) then
(u63.2.2.1[e64.2.2.1.toNat]?).bind fun e69 =>
(m24 ((((u63.2.2.1.length : Nat) : Int), (e69, (e64, ()))), ())).bind fun u70 =>
bif (decide ((0 : Int) ≤ e64.2.2.1 ∧ (e64.2.2.1 : Int) < u63.2.2.1.length)) then
bif (decide (e64.2.2.1.toNat < u63.2.2.1.length)) then
bif u70.1.1 then (bif (decide ((u63.2.2.2.1.take v.1.2.1.toNat ++ u63.2.2.2.1.drop (w64 (v.1.2.1 + 1)).toNat).length + ([(u70.2.2.1.1.1, (u70.2.2.1.1.2.1, (u70.2.2.1.1.2.2.1, (u70.2.2.1.1.2.2.2.1, (u70.2.2.1.1.2.2.2.2.1, (u70.2.2.1.1.2.2.2.2.2.1, (u70.2.2.1.1.2.2.2.2.2.2.1, ([], (u70.2.2.1.1.2.2.2.2.2.2.2.1, ())))))))))] : List Y9).length ≤ 4294967296)) then
let x71 := ((u63.2.2.2.1.take v.1.2.1.toNat ++ u63.2.2.2.1.drop (w64 (v.1.2.1 + 1)).toNat) ++ ([(u70.2.2.1.1.1, (u70.2.2.1.1.2.1, (u70.2.2.1.1.2.2.1, (u70.2.2.1.1.2.2.2.1, (u70.2.2.1.1.2.2.2.2.1, (u70.2.2.1.1.2.2.2.2.2.1, (u70.2.2.1.1.2.2.2.2.2.2.1, ([], (u70.2.2.1.1.2.2.2.2.2.2.2.1, ())))))))))] : List Y9))
bif (decide ((u63.2.2.1.set e64.2.2.1.toNat u70.2.1.1).length = u63.2.2.1.length) && (decide (u63.2.2.2.1.length = u63.2.2.2.1.length) && (decide (u63.2.2.2.2.1.length = u63.2.2.2.2.1.length) && (decide (u63.2.2.2.2.2.1.length = u63.2.2.2.2.2.1.length) && true)))) then
some ((0, ()), (((), ()), ((u63.2.2.1.set e64.2.2.1.toNat u70.2.1.1), (x71, (u63.2.2.2.2.1, (u63.2.2.2.2.2.1, ()))))))
else none
else none)
else (bif (decide ((u63.2.2.1.set e64.2.2.1.toNat u70.2.1.1).length = u63.2.2.1.length) && (decide (u63.2.2.2.1.length = u63.2.2.2.1.length) && (decide (u63.2.2.2.2.1.length = u63.2.2.2.2.1.length) && (decide (u63.2.2.2.2.2.1.length = u63.2.2.2.2.2.1.length) && true)))) then
some ((0, ()), (((), ()), ((u63.2.2.1.set e64.2.2.1.toNat u70.2.1.1), ((u63.2.2.2.1.take v.1.2.1.toNat ++ u63.2.2.2.1.drop (w64 (v.1.2.1 + 1)).toNat), (u63.2.2.2.2.1, (u63.2.2.2.2.2.1, ()))))))
else none)
else none
else none
else none))
else none)
else (bif ((e64.1 : Int) == 2) then (bif (decide ((0 : Int) ≤ e64.2.2.1 ∧ (e64.2.2.1 : Int) < u63.2.2.2.2.1.length)) then
(u63.2.2.2.2.1[e64.2.2.1.toNat]?).bind fun e72 =>
bif e72 then (bif (decide (u63.2.2.1.length = u63.2.2.1.length) && (decide (u63.2.2.2.1.length = u63.2.2.2.1.length) && (decide (u63.2.2.2.2.1.length = u63.2.2.2.2.1.length) && (decide (u63.2.2.2.2.2.1.length = u63.2.2.2.2.2.1.length) && true)))) then
some ((0, ()), (((), ()), (u63.2.2.1, ((u63.2.2.2.1.take v.1.2.1.toNat ++ u63.2.2.2.1.drop (w64 (v.1.2.1 + 1)).toNat), (u63.2.2.2.2.1, (u63.2.2.2.2.2.1, ()))))))
else none)
else (let x73 := (if (e64.2.2.1 : Int) < e64.2.1 then e64.2.2.1 else e64.2.1)
let x74 := (if (e64.2.2.1 : Int) > e64.2.1 then e64.2.2.1 else e64.2.1)
(m108 ((u63.2.2.2.2.2.1, ((x73, (x74, ())), ())), ())).bind fun u75 =>
bif u75.1.1 then (bif (decide (u63.2.2.1.length = u63.2.2.1.length) && (decide (u63.2.2.2.1.length = u63.2.2.2.1.length) && (decide (u63.2.2.2.2.1.length = u63.2.2.2.2.1.length) && (decide (u63.2.2.2.2.2.1.length = u63.2.2.2.2.2.1.length) && true)))) then
some ((0, ()), (((), ()), (u63.2.2.1, ((u63.2.2.2.1.take v.1.2.1.toNat ++ u63.2.2.2.1.drop (w64 (v.1.2.1 + 1)).toNat), (u63.2.2.2.2.1, (u63.2.2.2.2.2.1, ()))))))
else none)
else (bif (decide ((0 : Int) ≤ e64.2.2.1 ∧ (e64.2.2.1 : Int) < u63.2.2.1.length)) then
(u63.2.2.1[e64.2.2.1.toNat]?).bind fun e76 =>
(m36 ((((u63.2.2.1.length : Nat) : Int), (e76, (e64, ()))), ())).bind fun u77 =>
bif (decide ((0 : Int) ≤ e64.2.2.1 ∧ (e64.2.2.1 : Int) < u63.2.2.1.length)) then
bif (decide (e64.2.2.1.toNat < u63.2.2.1.length)) then
bif (decide ((u63.2.2.1.set e64.2.2.1.toNat u77.2.1.1).length = u63.2.2.1.length) && (decide (u63.2.2.2.1.length = u63.2.2.2.1.length) && (decide (u63.2.2.2.2.1.length = u63.2.2.2.2.1.length) && (decide (u63.2.2.2.2.2.1.length = u63.2.2.2.2.2.1.length) && true)))) then
some ((0, ()), (((), ()), ((u63.2.2.1.set e64.2.2.1.toNat u77.2.1.1), ((u63.2.2.2.1.take v.1.2.1.toNat ++ u63.2.2.2.1.drop (w64 (v.1.2.1 + 1)).toNat), (u63.2.2.2.2.1, (u63.2.2.2.2.2.1, ()))))))
else none
else none
else none
else none))
else none)
else (bif ((e64.1 : Int) == 3) then (bif (decide ((0 : Int) ≤ e64.2.2.1 ∧ (e64.2.2.1 : Int) < u63.2.2.2.2.1.length)) then
(u63.2.2.2.2.1[e64.2.2.1.toNat]?).bind fun e78 =>
bif e78 then (bif (decide (u63.2.2.1.length = u63.2.2.1.length) && (decide (u63.2.2.2.1.length = u63.2.2.2.1.length) && (decide (u63.2.2.2.2.1.length = u63.2.2.2.2.1.length) && (decide (u63.2.2.2.2.2.1.length = u63.2.2.2.2.2.1.length) && true)))) then
some ((0, ()), (((), ()), (u63.2.2.1, ((u63.2.2.2.1.take v.1.2.1.toNat ++ u63.2.2.2.1.drop (w64 (v.1.2.1 + 1)).toNat), (u63.2.2.2.2.1, (u63.2.2.2.2.2.1, ()))))))
else none)
else (let x79 := (if (e64.2.2.1 : Int) < e64.2.1 then e64.2.2.1 else e64.2.1)
let x80 := (if (e64.2.2.1 : Int) > e64.2.1 then e64.2.2.1 else e64.2.1)
(m108 ((u63.2.2.2.2.2.1, ((x79, (x80, ())), ())), ())).bind fun u81 =>
bif u81.1.1 then (bif (decide (u63.2.2.1.length = u63.2.2.1.length) && (decide (u63.2.2.2.1.length = u63.2.2.2.1.length) && (decide (u63.2.2.2.2.1.length = u63.2.2.2.2.1.length) && (decide (u63.2.2.2.2.2.1.length = u63.2.2.2.2.2.1.length) && true)))) then
some ((0, ()), (((), ()), (u63.2.2.1, ((u63.2.2.2.1.take v.1.2.1.toNat ++ u63.2.2.2.1.drop (w64 (v.1.2.1 + 1)).toNat), (u63.2.2.2.2.1, (u63.2.2.2.2.2.1, ()))))))
else none)
else (bif (decide ((0 : Int) ≤ e64.2.2.1 ∧ (e64.2.2.1 : Int) < u63.2.2.1.length)) then
(u63.2.2.1[e64.2.2.1.toNat]?).bind fun e82 =>
(m47 ((((u63.2.2.1.length : Nat) : Int), (e82, (e64, ()))), ())).bind fun u83 =>
bif (decide ((0 : Int) ≤ e64.2.2.1 ∧ (e64.2.2.1 : Int) < u63.2.2.1.length)) then
bif (decide (e64.2.2.1.toNat < u63.2.2.1.length)) then
bif u83.1.1 then (bif (decide ((u63.2.2.2.1.take v.1.2.1.toNat ++ u63.2.2.2.1.drop (w64 (v.1.2.1 + 1)).toNat).length + ([(u83.2.2.1.1.1, (u83.2.2.1.1.2.1, (u83.2.2.1.1.2.2.1, (u83.2.2.1.1.2.2.2.1, (u83.2.2.1.1.2.2.2.2.1, (u83.2.2.1.1.2.2.2.2.2.1, (u83.2.2.1.1.2.2.2.2.2.2.1, ([], (u83.2.2.1.1.2.2.2.2.2.2.2.1, ())))))))))] : List Y9).length ≤ 4294967296)) then
let x84 := ((u63.2.2.2.1.take v.1.2.1.toNat ++ u63.2.2.2.1.drop (w64 (v.1.2.1 + 1)).toNat) ++ ([(u83.2.2.1.1.1, (u83.2.2.1.1.2.1, (u83.2.2.1.1.2.2.1, (u83.2.2.1.1.2.2.2.1, (u83.2.2.1.1.2.2.2.2.1, (u83.2.2.1.1.2.2.2.2.2.1, (u83.2.2.1.1.2.2.2.2.2.2.1, ([], (u83.2.2.1.1.2.2.2.2.2.2.2.1, ())))))))))] : List Y9))
bif (decide ((u63.2.2.1.set e64.2.2.1.toNat u83.2.1.1).length = u63.2.2.1.length) && (decide (u63.2.2.2.1.length = u63.2.2.2.1.length) && (decide (u63.2.2.2.2.1.length = u63.2.2.2.2.1.length) && (decide (u63.2.2.2.2.2.1.length = u63.2.2.2.2.2.1.length) && true)))) then
some ((0, ()), (((), ()), ((u63.2.2.1.set e64.2.2.1.toNat u83.2.1.1), (x84, (u63.2.2.2.2.1, (u63.2.2.2.2.2.1, ()))))))
else none
else none)
else (bif (decide ((u63.2.2.1.set e64.2.2.1.toNat u83.2.1.1).length = u63.2.2.1.length) && (decide (u63.2.2.2.1.length = u63.2.2.2.1.length) && (decide (u63.2.2.2.2.1.length = u63.2.2.2.2.1.length) && (decide (u63.2.2.2.2.2.1.length = u63.2.2.2.2.2.1.length) && true)))) then
some ((0, ()), (((), ()), ((u63.2.2.1.set e64.2.2.1.toNat u83.2.1.1), ((u63.2.2.2.1.take v.1.2.1.toNat ++ u63.2.2.2.1.drop (w64 (v.1.2.1 + 1)).toNat), (u63.2.2.2.2.1, (u63.2.2.2.2.2.1, ()))))))
else none)
else none
else none
else none))
else none)
else (bif ((e64.1 : Int) == 4) then (bif (decide ((0 : Int) ≤ e64.2.2.1 ∧ (e64.2.2.1 : Int) < u63.2.2.2.2.1.length)) then
(u63.2.2.2.2.1[e64.2.2.1.toNat]?).bind fun e85 =>
bif e85 then (bif (decide (u63.2.2.1.length = u63.2.2.1.length) && (decide (u63.2.2.2.1.length = u63.2.2.2.1.length) && (decide (u63.2.2.2.2.1.length = u63.2.2.2.2.1.length) && (decide (u63.2.2.2.2.2.1.length = u63.2.2.2.2.2.1.length) && true)))) then
some ((0, ()), (((), ()), (u63.2.2.1, ((u63.2.2.2.1.take v.1.2.1.toNat ++ u63.2.2.2.1.drop (w64 (v.1.2.1 + 1)).toNat), (u63.2.2.2.2.1, (u63.2.2.2.2.2.1, ()))))))
else none)
else (let x86 := (if (e64.2.2.1 : Int) < e64.2.1 then e64.2.2.1 else e64.2.1)
let x87 := (if (e64.2.2.1 : Int) > e64.2.1 then e64.2.2.1 else e64.2.1)
(m108 ((u63.2.2.2.2.2.1, ((x86, (x87, ())), ())), ())).bind fun u88 =>
bif u88.1.1 then (bif (decide (u63.2.2.1.length = u63.2.2.1.length) && (decide (u63.2.2.2.1.length = u63.2.2.2.1.length) && (decide (u63.2.2.2.2.1.length = u63.2.2.2.2.1.length) && (decide (u63.2.2.2.2.2.1.length = u63.2.2.2.2.2.1.length) && true)))) then
some ((0, ()), (((), ()), (u63.2.2.1, ((u63.2.2.2.1.take v.1.2.1.toNat ++ u63.2.2.2.1.drop (w64 (v.1.2.1 + 1)).toNat), (u63.2.2.2.2.1, (u63.2.2.2.2.2.1, ()))))))
else none)
else (bif (decide ((0 : Int) ≤ e64.2.2.1 ∧ (e64.2.2.1 : Int) < u63.2.2.1.length)) then
(u63.2.2.1[e64.2.2.1.toNat]?).bind fun e89 =>
(m44 ((((u63.2.2.1.length : Nat) : Int), (e89, (e64, ()))), ())).bind fun u90 =>
bif (decide ((0 : Int) ≤ e64.2.2.1 ∧ (e64.2.2.1 : Int) < u63.2.2.1.length)) then
bif (decide (e64.2.2.1.toNat < u63.2.2.1.length)) then
bif (decide ((u63.2.2.1.set e64.2.2.1.toNat u90.2.1.1).length = u63.2.2.1.length) && (decide (u63.2.2.2.1.length = u63.2.2.2.1.length) && (decide (u63.2.2.2.2.1.length = u63.2.2.2.2.1.length) && (decide (u63.2.2.2.2.2.1.length = u63.2.2.2.2.2.1.length) && true)))) then
some ((0, ()), (((), ()), ((u63.2.2.1.set e64.2.2.1.toNat u90.2.1.1), ((u63.2.2.2.1.take v.1.2.1.toNat ++ u63.2.2.2.1.drop (w64 (v.1.2.1 + 1)).toNat), (u63.2.2.2.2.1, (u63.2.2.2.2.2.1, ()))))))
else none
else none
else none
else none))
else none)
else (bif (decide (u63.2.2.1.length = u63.2.2.1.length) && (decide (u63.2.2.2.1.length = u63.2.2.2.1.length) && (decide (u63.2.2.2.2.1.length = u63.2.2.2.2.1.length) && (decide (u63.2.2.2.2.2.1.length = u63.2.2.2.2.2.1.length) && true)))) then
some ((0, ()), (((), ()), (u63.2.2.1, ((u63.2.2.2.1.take v.1.2.1.toNat ++ u63.2.2.2.1.drop (w64 (v.1.2.1 + 1)).toNat), (u63.2.2.2.2.1, (u63.2.2.2.2.2.1, ()))))))
else none))))
else none
else none
else none) : Option ((Int × Unit) × Y15)).bind fun v91 =>
some ((v91.1.1, ()), (((), ()), (v91.2.2.1, (v91.2.2.2.1, (v91.2.2.2.2.1, (v91.2.2.2.2.2.1, ())))))))

def sp97 : Abs.Spec := ⟨0, i97, o97, m97⟩

def an97 : Nat → Abs.FAn
  | 0 => Abs.FAn.mk (fun
    | 4 => some ⟨[4, 5], (.st (.ptr (0, 0) 4 0 0) (.dat (.int .i64) .nil)), (.box 4 (.agg (.st (.own Z3 (1, 0)) (.st (.own Z4 (2, 0)) (.st (.own .bool (3, 0)) (.st (.own Z12 (4, 0)) .nil)))) .nil) (.arr Z3 false (.arr Z4 false (.arr .bool false (.arr Z12 false .nil)))))⟩
    | _ => none) (fun _ => none) (fun _ => none) (fun
    | 4, 3 => 1
    | _, _ => 0)
  | 1 => Abs.FAn.mk (fun _ => none) (fun _ => none) (fun _ => none) (fun
    | 6, 11 => 2
    | _, _ => 0)
  | _ => {}

theorem ok97 : Abs.SpecOK Try.prog 97 sp97 :=
  Abs.specOC_of (C := ctab) (mv := mvtab) ctab_ok (n := 12) (an := an97) (T := Abs.tabOf [(107, sp107), (101, sp101), (108, sp108), (24, sp24), (36, sp36), (47, sp47), (44, sp44)]) good foll (Abs.tabOf_ok _ (by simp only [List.forall_mem_cons]; exact ⟨ok107, ok101, ok108, ok24, ok36, ok47, ok44, fun _ h => by cases h⟩)) rfl (by intro v; kernel_rfl)

def l98_0_5 (v : ((Int × Int × Bool × (List Y7) × Int × Unit) × ((Y5 × Unit) × Unit))) : Option (((Int × Int × Bool × (List Y7) × Int × Unit) × ((Y5 × Unit) × Unit)) ⊕ ((Bool × Int × Unit) × (Unit))) :=
bif (decide ((v.1.1 : Int) < v.1.2.2.2.2.1)) then (((Abs.rowAt v.1.2.2.2.1 v.1.1 fun e34 _ =>
((Abs.rowAt v.2.1.1.2.2.1 v.1.1 fun e35 _ =>
bif (!e35) then (bif ((e34.2.2.2.1 : Int) == 2) then (bif (!v.1.2.2.1) then (some ((true, (v.1.2.2.2.1, (v.1.2.2.2.2.1, (v.1.1, (v.1.1, (v.1.2.1, (v.1.2.2.1, ()))))))), ((v.2.1.1, ()), ())))
else (Abs.rowAt v.2.1.1.1 v.1.2.1 fun e36 _ =>
some (((decide ((e34.2.1 : Int) > e36.2.1)), (v.1.2.2.2.1, (v.1.2.2.2.2.1, (v.1.1, (v.1.1, (v.1.2.1, (v.1.2.2.1, ()))))))), ((v.2.1.1, ()), ()))))
else (some ((false, (v.1.2.2.2.1, (v.1.2.2.2.2.1, (v.1.1, (v.1.1, (v.1.2.1, (v.1.2.2.1, ()))))))), ((v.2.1.1, ()), ()))))
else (some ((false, (v.1.2.2.2.1, (v.1.2.2.2.2.1, (v.1.1, (v.1.1, (v.1.2.1, (v.1.2.2.1, ()))))))), ((v.2.1.1, ()), ())))) : Option ((Bool × (List Y7) × Int × Int × Int × Int × Bool × Unit) × ((Y5 × Unit) × Unit))).bind fun v37 =>
bif v37.1.1 then (some ((v37.1.2.2.2.2.1, (true, (v37.1.2.1, (v37.1.2.2.1, (v37.1.2.2.2.1, ()))))), ((v37.2.1.1, ()), ())))
else (some ((v37.1.2.2.2.2.2.1, (v37.1.2.2.2.2.2.2.1, (v37.1.2.1, (v37.1.2.2.1, (v37.1.2.2.2.1, ()))))), ((v37.2.1.1, ()), ())))) : Option ((Int × Bool × (List Y7) × Int × Int × Unit) × ((Y5 × Unit) × Unit))).bind fun v38 =>
some (.inl (((w64 (v38.1.2.2.2.2.1 + 1)), (v38.1.1, (v38.1.2.1, (v38.1.2.2.1, (v38.1.2.2.2.1, ()))))), ((v38.2.1.1, ()), ()))))
else (some (.inr ((v.1.2.2.1, (v.1.2.1, ())), ())))

/- pagewatch/region.Leader -/
def i98 : Abs.Sg := ⟨[0], (.dat Z8 .nil), .nil⟩

def o98 : Abs.Sg := ⟨[2, 3], (.dat (.int .i64) (.dat .bool .nil)), .nil⟩

def m98 (v : ((Y5 × Unit) × (Unit))) : Option ((Int × Bool × Unit) × (Unit)) :=
(m106 ((v.1.1, ()), ())).bind fun u33 =>
bif (!u33.1.1) then (some ((0, (false, ())), ()))
else ((loopT l98_0_5 ((0, (0, (false, (v.1.1.1, ((v.1.1.1.length : Int), ()))))), ((v.1.1, ()), ()))).bind fun d39 =>
some ((d39.1.2.1, (d39.1.1, ())), ()))

def sp98 : Abs.Spec := ⟨0, i98, o98, m98⟩

def an98 : Nat → Abs.FAn
  | 0 => Abs.FAn.mk (fun
    | 7 => some ⟨[44, 1, 12, 13, 14, 6, 4, 5], (.dat .bool (.st (.ptr (0, 0) 4 0 0) (.dat (.row Z3) (.dat (.int .i64) (.dat (.int .i64) (.dat (.int .i64) (.dat (.int .i64) (.dat .bool .nil)))))))), (.box 4 (.dat Z8 .nil) .nil)⟩
    | _ => none) (fun
    | 9 => some (⟨[4, 1, 5, 12, 13, 14], (.dat (.int .i64) (.st (.ptr (0, 0) 4 0 0) (.dat .bool (.dat (.row Z3) (.dat (.int .i64) (.dat (.int .i64) .nil)))))), (.box 4 (.dat Z8 .nil) .nil)⟩, none)
    | _ => none) (fun
    | 5 => some ⟨⟨[14, 4, 1, 5, 12, 13], (.dat (.int .i64) (.dat (.int .i64) (.st (.ptr (0, 0) 4 0 0) (.dat .bool (.dat (.row Z3) (.dat (.int .i64) .nil)))))), (.box 4 (.dat Z8 .nil) .nil)⟩, (.one (.exit 0) ⟨[5, 4], (.dat .bool (.dat (.int .i64) .nil)), .nil⟩)⟩
    | _ => none) (fun _ _ => 0)
  | _ => {}

theorem ok98 : Abs.SpecOK Try.prog 98 sp98 :=
  Abs.specOC_of (C := ctab) (mv := mvtab) ctab_ok (n := 12) (an := an98) (T := Abs.tabOf [(106, sp106)]) good foll (Abs.tabOf_ok _ (by simp only [List.forall_mem_cons]; exact ⟨ok106, fun _ h => by cases h⟩)) rfl (by intro v; kernel_rfl)

def l66_0_5 (v : ((Int × (List Y7) × Int × Unit) × ((List Y10) × Unit))) : Option (((Int × (List Y7) × Int × Unit) × ((List Y10) × Unit)) ⊕ ((Unit) × ((List Y10) × Unit))) :=
bif (decide ((v.1.1 : Int) < v.1.2.2.1)) then (((Abs.rowAt v.1.2.1 v.1.1 fun e29 _ =>
(m50 ((e29, ()), ())).bind fun u30 =>
let x31 := (decide ((((u30.2.1.length : Nat) : Int) : Int) > ((v.2.1.length : Nat) : Int)))
bif x31 then (some ((v.1.2.1, (v.1.2.2.1, (v.1.1, ()))), (u30.2.1, ())))
else (some ((v.1.2.1, (v.1.2.2.1, (v.1.1, ()))), (v.2.1, ())))) : Option (((List Y7) × Int × Int × Unit) × ((List Y10) × Unit))).bind fun v32 =>
some (.inl (((w64 (v32.1.2.2.1 + 1)), (v32.1.1, (v32.1.2.1, ()))), (v32.2.1, ()))))
else (some (.inr ((), (v.2.1, ()))))

/- pagewatch/region.Agreed -/
def i66 : Abs.Sg := ⟨[0], (.dat Z8 .nil), .nil⟩

def o66 : Abs.Sg := ⟨[2], (.st (.own Z6 (0, 0)) .nil), (.arr Z6 false .nil)⟩

def m66 (v : ((Y5 × Unit) × (Unit))) : Option ((Unit) × ((List Y10) × Unit)) :=
(m106 ((v.1.1, ()), ())).bind fun u28 =>
bif (!u28.1.1) then (some ((), ([], ())))
else ((loopT l66_0_5 ((0, (v.1.1.1, ((v.1.1.1.length : Int), ()))), ([], ()))).bind fun d33 =>
some ((), (d33.2.1, ())))

def sp66 : Abs.Spec := ⟨0, i66, o66, m66⟩

def an66 : Nat → Abs.FAn
  | 0 => Abs.FAn.mk (fun _ => none) (fun
    | 10 => some (⟨[3, 11, 12, 13], (.st (.own Z6 (0, 0)) (.dat (.row Z3) (.dat (.int .i64) (.dat (.int .i64) .nil)))), (.arr Z6 false .nil)⟩, none)
    | _ => none) (fun
    | 5 => some ⟨⟨[13, 3, 11, 12], (.dat (.int .i64) (.st (.own Z6 (0, 0)) (.dat (.row Z3) (.dat (.int .i64) .nil)))), (.arr Z6 false .nil)⟩, (.one (.exit 0) ⟨[3], (.st (.own Z6 (0, 0)) .nil), (.arr Z6 false .nil)⟩)⟩
    | _ => none) (fun _ _ => 0)
  | _ => {}

theorem ok66 : Abs.SpecOK Try.prog 66 sp66 :=
  Abs.specOC_of (C := ctab) (mv := mvtab) ctab_ok (n := 12) (an := an66) (T := Abs.tabOf [(106, sp106), (50, sp50)]) good foll (Abs.tabOf_ok _ (by simp only [List.forall_mem_cons]; exact ⟨ok106, ok50, fun _ h => by cases h⟩)) rfl (by intro v; kernel_rfl)

def l60_0_6 (v : ((Int × Int × Int × Int × Int × Unit) × Y15)) : Option (((Int × Int × Int × Int × Int × Unit) × Y15) ⊕ ((Int × Int × Int × Int × Unit) × Y15)) :=
((bif (decide ((v.1.1 : Int) < 9)) then (let x39 := (decide ((((v.2.2.2.1.length : Nat) : Int) : Int) > 0))
some ((x39, (v.1.2.1, (v.1.2.2.1, (v.1.2.2.2.1, (v.1.2.2.2.2.1, (v.1.1, ())))))), (((), ()), (v.2.2.1, (v.2.2.2.1, (v.2.2.2.2.1, (v.2.2.2.2.2.1, ())))))))
else (some ((false, (v.1.2.1, (v.1.2.2.1, (v.1.2.2.2.1, (v.1.2.2.2.2.1, (v.1.1, ())))))), (((), ()), (v.2.2.1, (v.2.2.2.1, (v.2.2.2.2.1, (v.2.2.2.2.2.1, ())))))))) : Option ((Bool × Int × Int × Int × Int × Int × Unit) × Y15)).bind fun v40 =>
bif v40.1.1 then ((m97 (((v40.2.2.1, (v40.2.2.2.1, (v40.2.2.2.2.1, (v40.2.2.2.2.2.1, ())))), (0, ())), ())).bind fun u41 =>
some (.inl (((w64 (v40.1.2.2.2.2.2.1 + 1)), (v40.1.2.1, (v40.1.2.2.1, (v40.1.2.2.2.1, (v40.1.2.2.2.2.1, ()))))), (((), ()), (u41.2.2.1, (u41.2.2.2.1, (u41.2.2.2.2.1, (u41.2.2.2.2.2.1, ()))))))))
else (some (.inr ((v40.1.2.1, (v40.1.2.2.1, (v40.1.2.2.2.1, (v40.1.2.2.2.2.1, ())))), (((), ()), (v40.2.2.1, (v40.2.2.2.1, (v40.2.2.2.2.1, (v40.2.2.2.2.2.1, ()))))))))

/- pagewatch/pagewatchlaw34.sane -/
def i60 : Abs.Sg := ⟨[], .nil, .nil⟩

def o60 : Abs.Sg := ⟨[0], (.dat .bool .nil), .nil⟩

def m60 (v : ((Unit) × (Unit))) : Option Y16 :=
(m61 ((3, ()), ())).bind fun u35 =>
(m62 (((u35.2.2.1, ([], (u35.2.2.2.1, ([], ())))), (0, ())), ())).bind fun u36 =>
(m63 (((u36.2.2.1, (u36.2.2.2.1, (u36.2.2.2.2.1, (u36.2.2.2.2.2.1, ())))), (0, ((1, (2, (0, (0, (0, (0, (0, (0, (0, ((0, (0, (0, (0, (0, (0, ())))))), ((0, (0, (0, (0, (0, ()))))), ()))))))))))), ()))), ())).bind fun u37 =>
(m64 (((u37.2.2.1, (u37.2.2.2.1, (u37.2.2.2.2.1, (u37.2.2.2.2.2.1, ())))), (0, ())), ())).bind fun u38 =>
(loopT l60_0_6 ((0, (u38.1.1, (u37.1.1, (u36.1.1, (u35.1.1, ()))))), (((), ()), (u38.2.2.1, (u38.2.2.2.1, (u38.2.2.2.2.1, (u38.2.2.2.2.2.1, ()))))))).bind fun d42 =>
(m98 (((d42.2.2.1, (d42.2.2.2.1, (d42.2.2.2.2.1, (d42.2.2.2.2.2.1, ())))), ()), ())).bind fun u43 =>
((bif ((d42.1.2.2.2.1 : Int) == 0) then (bif ((d42.1.2.2.1 : Int) == 0) then (bif ((d42.1.2.1 : Int) == 0) then (bif ((d42.1.1 : Int) == 0) then (bif u43.1.2.1 then (bif ((u43.1.1 : Int) == 0) then ((m66 (((d42.2.2.1, (d42.2.2.2.1, (d42.2.2.2.2.1, (d42.2.2.2.2.2.1, ())))), ()), ())).bind fun u44 =>
some ((((((u44.2.1.length : Nat) : Int) : Int) == 1), ()), ()))
else (some ((false, ()), ())))
else (some ((false, ()), ())))
else (some ((false, ()), ())))
else (some ((false, ()), ())))
else (some ((false, ()), ())))
else (some ((false, ()), ()))) : Option Y16).bind fun v45 =>
some ((v45.1.1, ()), ())

def sp60 : Abs.Spec := ⟨0, i60, o60, m60⟩

def an60 : Nat → Abs.FAn
  | 0 => Abs.FAn.mk (fun
    | 10 => some ⟨[0], (.dat .bool .nil), .nil⟩
    | 6 => some ⟨[36, 1, 5, 4, 3, 2, 6], (.dat .bool (.st (.ptr (0, 0) 4 0 0) (.dat (.int .i64) (.dat (.int .i64) (.dat (.int .i64) (.dat (.int .i64) (.dat (.int .i64) .nil))))))), (.box 4 (.agg (.st (.own Z3 (1, 0)) (.st (.own Z4 (2, 0)) (.st (.own .bool (3, 0)) (.st (.own Z12 (4, 0)) .nil)))) .nil) (.arr Z3 false (.arr Z4 false (.arr .bool false (.arr Z12 false .nil)))))⟩
    | _ => none) (fun _ => none) (fun
    | 6 => some ⟨⟨[6, 1, 5, 4, 3, 2], (.dat (.int .i64) (.st (.ptr (0, 0) 4 0 0) (.dat (.int .i64) (.dat (.int .i64) (.dat (.int .i64) (.dat (.int .i64) .nil)))))), (.box 4 (.agg (.st (.own Z3 (1, 0)) (.st (.own Z4 (2, 0)) (.st (.own .bool (3, 0)) (.st (.own Z12 (4, 0)) .nil)))) .nil) (.arr Z3 false (.arr Z4 false (.arr .bool false (.arr Z12 false .nil)))))⟩, (.one (.exit 0) ⟨[1, 5, 4, 3, 2], (.st (.ptr (0, 0) 4 0 0) (.dat (.int .i64) (.dat (.int .i64) (.dat (.int .i64) (.dat (.int .i64) .nil))))), (.box 4 (.agg (.st (.own Z3 (1, 0)) (.st (.own Z4 (2, 0)) (.st (.own .bool (3, 0)) (.st (.own Z12 (4, 0)) .nil)))) .nil) (.arr Z3 false (.arr Z4 false (.arr .bool false (.arr Z12 false .nil)))))⟩)⟩
    | _ => none) (fun _ _ => 0)
  | _ => {}

theorem ok60 : Abs.SpecOK Try.prog 60 sp60 :=
  Abs.specOC_of (C := ctab) (mv := mvtab) ctab_ok (n := 12) (an := an60) (T := Abs.tabOf [(61, sp61), (62, sp62), (63, sp63), (64, sp64), (97, sp97), (98, sp98), (66, sp66)]) good foll (Abs.tabOf_ok _ (by simp only [List.forall_mem_cons]; exact ⟨ok61, ok62, ok63, ok64, ok97, ok98, ok66, fun _ h => by cases h⟩)) rfl (by intro v; kernel_rfl)

/- pagewatch/region.Cut -/
def i67 : Abs.Sg := ⟨[0, 1, 2], (.dat Z8 (.dat (.int .i64) (.dat (.int .i64) .nil))), .nil⟩

def o67 : Abs.Sg := ⟨[6, 7], (.st (.ptr (0, 0) 4 0 0) (.dat (.int .i64) .nil)), (.box 4 (.agg (.st (.own Z3 (1, 0)) (.st (.own Z4 (2, 0)) (.st (.own .bool (3, 0)) (.st (.own Z12 (4, 0)) .nil)))) .nil) (.arr Z3 false (.arr Z4 false (.arr .bool false (.arr Z12 false .nil)))))⟩

def m67 (v : ((Y5 × Int × Int × Unit) × (Unit))) : Option ((Int × Unit) × Y15) :=
let x24 := (if (v.1.2.2.1 : Int) < v.1.2.1 then v.1.2.2.1 else v.1.2.1)
(m107 ((v.1.1, (x24, ((v.1.1.1.length : Int), ()))), ())).bind fun u25 =>
bif ((u25.1.1 : Int) != 0) then (some ((u25.1.1, ()), (((), ()), ([], ([], ([], ([], ())))))))
else (let x26 := (if (v.1.2.2.1 : Int) < v.1.2.1 then v.1.2.2.1 else v.1.2.1)
let x27 := (if (v.1.2.2.1 : Int) > v.1.2.1 then v.1.2.2.1 else v.1.2.1)
bif (decide ((x27 : Int) ≥ (v.1.1.1.length : Int))) then (some ((3, ()), (((), ()), ([], ([], ([], ([], ())))))))
else (bif ((v.1.2.1 : Int) == v.1.2.2.1) then (some ((1, ()), (((), ()), ([], ([], ([], ([], ())))))))
else ((m108 ((v.1.1.2.2.2.1, ((x26, (x27, ())), ())), ())).bind fun u28 =>
bif u28.1.1 then (some ((9, ()), (((), ()), ([], ([], ([], ([], ())))))))
else ((m101 ((v.1.1, ()), ())).bind fun u29 =>
bif (decide (u29.2.2.2.2.2.1.length + ([(x26, (x27, ()))] : List (Int × Int × Unit)).length ≤ 4294967296)) then
let x30 := (u29.2.2.2.2.2.1 ++ ([(x26, (x27, ()))] : List (Int × Int × Unit)))
some ((0, ()), (((), ()), (u29.2.2.1, (u29.2.2.2.1, (u29.2.2.2.2.1, (x30, ()))))))
else none))))

def sp67 : Abs.Spec := ⟨0, i67, o67, m67⟩

def an67 : Nat → Abs.FAn
  | _ => {}

theorem ok67 : Abs.SpecOK Try.prog 67 sp67 :=
  Abs.specOC_of (C := ctab) (mv := mvtab) ctab_ok (n := 12) (an := an67) (T := Abs.tabOf [(107, sp107), (108, sp108), (101, sp101)]) good foll (Abs.tabOf_ok _ (by simp only [List.forall_mem_cons]; exact ⟨ok107, ok108, ok101, fun _ h => by cases h⟩)) rfl (by intro v; kernel_rfl)

/- pagewatch/region.Heal -/
def i68 : Abs.Sg := ⟨[0], (.dat Z8 .nil), .nil⟩

def o68 : Abs.Sg := ⟨[2], (.st (.ptr (0, 0) 4 0 0) .nil), (.box 4 (.agg (.st (.own Z3 (1, 0)) (.st (.own Z4 (2, 0)) (.st (.own .bool (3, 0)) (.st .nil .nil)))) .nil) (.arr Z3 false (.arr Z4 false (.arr .bool false .nil))))⟩

def m68 (v : ((Y5 × Unit) × (Unit))) : Option ((Unit) × (((Unit) × Unit) × (List Y7) × (List Y9) × (List Bool) × Unit)) :=
(m106 ((v.1.1, ()), ())).bind fun u7 =>
bif (!u7.1.1) then (some ((), (((), ()), ([], ([], ([], ()))))))
else ((m101 ((v.1.1, ()), ())).bind fun u8 =>
some ((), (((), ()), (u8.2.2.1, (u8.2.2.2.1, (u8.2.2.2.2.1, ()))))))

def sp68 : Abs.Spec := ⟨0, i68, o68, m68⟩

def an68 : Nat → Abs.FAn
  | _ => {}

theorem ok68 : Abs.SpecOK Try.prog 68 sp68 :=
  Abs.specOC_of (C := ctab) (mv := mvtab) ctab_ok (n := 12) (an := an68) (T := Abs.tabOf [(106, sp106), (101, sp101)]) good foll (Abs.tabOf_ok _ (by simp only [List.forall_mem_cons]; exact ⟨ok106, ok101, fun _ h => by cases h⟩)) rfl (by intro v; kernel_rfl)

def l12_0_9 (v : ((Int × Unit) × ((Y5 × Unit) × Unit))) : Option (((Int × Unit) × ((Y5 × Unit) × Unit)) ⊕ ((Unit) × ((Y5 × Unit) × Unit))) :=
bif (decide ((v.1.1 : Int) > 0)) then ((m63 ((v.2.1.1, (0, ((v.1.1, (2, (0, (0, (0, (0, (0, (0, (0, ((0, (0, (0, (0, (0, (0, ())))))), ((0, (0, (0, (0, (0, ()))))), ()))))))))))), ()))), ())).bind fun u136 =>
(m64 (((u136.2.2.1, (u136.2.2.2.1, (u136.2.2.2.2.1, (u136.2.2.2.2.2.1, ())))), (0, ())), ())).bind fun u137 =>
(m65 (((u137.2.2.1, (u137.2.2.2.1, (u137.2.2.2.2.1, (u137.2.2.2.2.2.1, ())))), ()), ())).bind fun u138 =>
some (.inl (((w64 (v.1.1 - 1)), ()), ((u138.2.1.1, ()), ()))))
else (some (.inr ((), ((v.2.1.1, ()), ()))))

/- pagewatch/pagewatchlaw34.RegionMinority -/
def i12 : Abs.Sg := ⟨[0], (.dat (.row (.int .i64)) .nil), .nil⟩

def o12 : Abs.Sg := ⟨[2], (.dat .bool .nil), .nil⟩

def m12 (v : (((List Int) × Unit) × (Unit))) : Option Y16 :=
(m16 ((v.1.1, ()), ())).bind fun u129 =>
bif (!u129.1.1) then ((m60 ((), ())).bind fun u130 =>
some ((u130.1.1, ()), ()))
else ((m18 ((v.1.1, ()), ())).bind fun u131 =>
(m61 ((3, ()), ())).bind fun u132 =>
(m62 (((u132.2.2.1, ([], (u132.2.2.2.1, ([], ())))), (0, ())), ())).bind fun u133 =>
((bif ((u132.1.1 : Int) != 0) then (some ((true, ()), (((), ()), ((u131.2.1.1, ()), (u133.2.2.1, (u133.2.2.2.1, (u133.2.2.2.2.1, (u133.2.2.2.2.2.1, ()))))))))
else (some ((((u133.1.1 : Int) != 0), ()), (((), ()), ((u131.2.1.1, ()), (u133.2.2.1, (u133.2.2.2.1, (u133.2.2.2.2.1, (u133.2.2.2.2.2.1, ()))))))))) : Option ((Bool × Unit) × (((Unit) × Unit) × Y14 × (List Y7) × (List Y9) × (List Bool) × (List (Int × Int × Unit)) × Unit))).bind fun v134 =>
bif v134.1.1 then (some ((false, ()), ()))
else ((m20 ((3, ()), ((v134.2.2.1.1, ()), ()))).bind fun u135 =>
(loopT l12_0_9 ((u135.1.1, ()), (((v134.2.2.2.1, (v134.2.2.2.2.1, (v134.2.2.2.2.2.1, (v134.2.2.2.2.2.2.1, ())))), ()), ()))).bind fun d139 =>
(m66 ((d139.2.1.1, ()), ())).bind fun u140 =>
(m67 ((d139.2.1.1, (0, (1, ()))), ())).bind fun u141 =>
(m67 (((u141.2.2.1, (u141.2.2.2.1, (u141.2.2.2.2.1, (u141.2.2.2.2.2.1, ())))), (0, (2, ()))), ())).bind fun u142 =>
(m63 (((u142.2.2.1, (u142.2.2.2.1, (u142.2.2.2.2.1, (u142.2.2.2.2.2.1, ())))), (0, ((50, (2, (0, (0, (0, (0, (0, (0, (0, ((0, (0, (0, (0, (0, (0, ())))))), ((0, (0, (0, (0, (0, ()))))), ()))))))))))), ()))), ())).bind fun u143 =>
(m64 (((u143.2.2.1, (u143.2.2.2.1, (u143.2.2.2.2.1, (u143.2.2.2.2.2.1, ())))), (0, ())), ())).bind fun u144 =>
((bif ((u141.1.1 : Int) != 0) then (some ((true, ()), (((), ()), (u140.2.1, (u144.2.2.1, (u144.2.2.2.1, (u144.2.2.2.2.1, (u144.2.2.2.2.2.1, ()))))))))
else (bif ((u142.1.1 : Int) != 0) then (some ((true, ()), (((), ()), (u140.2.1, (u144.2.2.1, (u144.2.2.2.1, (u144.2.2.2.2.1, (u144.2.2.2.2.2.1, ()))))))))
else (bif ((u143.1.1 : Int) != 0) then (some ((true, ()), (((), ()), (u140.2.1, (u144.2.2.1, (u144.2.2.2.1, (u144.2.2.2.2.1, (u144.2.2.2.2.2.1, ()))))))))
else (some ((((u144.1.1 : Int) != 0), ()), (((), ()), (u140.2.1, (u144.2.2.1, (u144.2.2.2.1, (u144.2.2.2.2.1, (u144.2.2.2.2.2.1, ()))))))))))) : Option ((Bool × Unit) × (((Unit) × Unit) × (List Y10) × (List Y7) × (List Y9) × (List Bool) × (List (Int × Int × Unit)) × Unit))).bind fun v145 =>
bif v145.1.1 then (some ((false, ()), ()))
else ((m65 (((v145.2.2.2.1, (v145.2.2.2.2.1, (v145.2.2.2.2.2.1, (v145.2.2.2.2.2.2.1, ())))), ()), ())).bind fun u146 =>
(m66 ((u146.2.1.1, ()), ())).bind fun u147 =>
(m51 ((u147.2.1, (v145.2.2.1, ())), ())).bind fun u148 =>
bif (!u148.1.1) then (some ((false, ()), ()))
else ((m62 ((u146.2.1.1, (1, ())), ())).bind fun u149 =>
(m63 (((u149.2.2.1, (u149.2.2.2.1, (u149.2.2.2.2.1, (u149.2.2.2.2.2.1, ())))), (1, ((51, (2, (0, (0, (0, (0, (0, (0, (0, ((0, (0, (0, (0, (0, (0, ())))))), ((0, (0, (0, (0, (0, ()))))), ()))))))))))), ()))), ())).bind fun u150 =>
(m64 (((u150.2.2.1, (u150.2.2.2.1, (u150.2.2.2.2.1, (u150.2.2.2.2.2.1, ())))), (1, ())), ())).bind fun u151 =>
((bif ((u149.1.1 : Int) != 0) then (some ((true, ()), (((), ()), (v145.2.2.1, (u151.2.2.1, (u151.2.2.2.1, (u151.2.2.2.2.1, (u151.2.2.2.2.2.1, ()))))))))
else (bif ((u150.1.1 : Int) != 0) then (some ((true, ()), (((), ()), (v145.2.2.1, (u151.2.2.1, (u151.2.2.2.1, (u151.2.2.2.2.1, (u151.2.2.2.2.2.1, ()))))))))
else (some ((((u151.1.1 : Int) != 0), ()), (((), ()), (v145.2.2.1, (u151.2.2.1, (u151.2.2.2.1, (u151.2.2.2.2.1, (u151.2.2.2.2.2.1, ())))))))))) : Option ((Bool × Unit) × (((Unit) × Unit) × (List Y10) × (List Y7) × (List Y9) × (List Bool) × (List (Int × Int × Unit)) × Unit))).bind fun v152 =>
bif v152.1.1 then (some ((false, ()), ()))
else ((m65 (((v152.2.2.2.1, (v152.2.2.2.2.1, (v152.2.2.2.2.2.1, (v152.2.2.2.2.2.2.1, ())))), ()), ())).bind fun u153 =>
(m66 ((u153.2.1.1, ()), ())).bind fun u154 =>
((let x155 := ((((u154.2.1.length : Nat) : Int) : Int) != (w64 (((v152.2.2.1.length : Nat) : Int) + 1)))
bif x155 then (some ((true, ()), ((u153.2.1.1, ()), ())))
else (bif (decide ((0 : Int) ≤ ((v152.2.2.1.length : Nat) : Int) ∧ (((v152.2.2.1.length : Nat) : Int) : Int) < u154.2.1.length)) then
(u154.2.1[((v152.2.2.1.length : Nat) : Int).toNat]?).bind fun e156 =>
some ((((e156.1 : Int) != 51), ()), ((u153.2.1.1, ()), ()))
else none)) : Option ((Bool × Unit) × ((Y5 × Unit) × Unit))).bind fun v157 =>
bif v157.1.1 then (some ((false, ()), ()))
else ((m68 ((v157.2.1.1, ()), ())).bind fun u158 =>
(m62 (((u158.2.2.1, (u158.2.2.2.1, (u158.2.2.2.2.1, ([], ())))), (1, ())), ())).bind fun u159 =>
((bif ((u159.1.1 : Int) == 0) then (bif (decide ((0 : Int) ≤ 0 ∧ (0 : Int) < u159.2.2.1.length)) then
(u159.2.2.1[0]?).bind fun e160 =>
bif (decide ((0 : Int) ≤ 1 ∧ (1 : Int) < u159.2.2.1.length)) then
(u159.2.2.1[1]?).bind fun e161 =>
(m69 ((e160.2.2.2.2.1, (e161.2.2.2.2.1, ())), ())).bind fun u162 =>
bif u162.1.1 then ((m60 ((), ())).bind fun u163 =>
some ((u163.1.1, ()), ()))
else (some ((false, ()), ()))
else none
else none)
else (some ((false, ()), ()))) : Option Y16).bind fun v164 =>
some ((v164.1.1, ()), ())))))))

def sp12 : Abs.Spec := ⟨0, i12, o12, m12⟩

def an12 : Nat → Abs.FAn
  | 0 => Abs.FAn.mk (fun
    | 34 => some ⟨[2], (.dat .bool .nil), .nil⟩
    | 31 => some ⟨[147, 4], (.dat .bool (.st (.ptr (0, 0) 4 0 0) .nil)), (.box 4 (.dat Z8 .nil) .nil)⟩
    | 27 => some ⟨[128, 4, 8], (.dat .bool (.st (.ptr (0, 0) 4 0 0) (.st (.own Z6 (1, 0)) .nil))), (.box 4 (.agg (.st (.own Z3 (2, 0)) (.st (.own Z4 (3, 0)) (.st (.own .bool (4, 0)) (.st (.own Z12 (5, 0)) .nil)))) .nil) (.arr Z6 false (.arr Z3 false (.arr Z4 false (.arr .bool false (.arr Z12 false .nil))))))⟩
    | 19 => some ⟨[95, 4, 8], (.dat .bool (.st (.ptr (0, 0) 4 0 0) (.st (.own Z6 (1, 0)) .nil))), (.box 4 (.agg (.st (.own Z3 (2, 0)) (.st (.own Z4 (3, 0)) (.st (.own .bool (4, 0)) (.st (.own Z12 (5, 0)) .nil)))) .nil) (.arr Z6 false (.arr Z3 false (.arr Z4 false (.arr .bool false (.arr Z12 false .nil))))))⟩
    | 6 => some ⟨[38, 4, 3], (.dat .bool (.st (.ptr (0, 0) 4 0 0) (.st (.ptr (1, 0) 2 0 0) .nil))), (.box 4 (.agg (.st (.own Z3 (2, 0)) (.st (.own Z4 (3, 0)) (.st (.own .bool (4, 0)) (.st (.own Z12 (5, 0)) .nil)))) .nil) (.box 2 (.dat Z13 .nil) (.arr Z3 false (.arr Z4 false (.arr .bool false (.arr Z12 false .nil))))))⟩
    | _ => none) (fun _ => none) (fun
    | 9 => some ⟨⟨[7, 4], (.dat (.int .i64) (.st (.ptr (0, 0) 4 0 0) .nil)), (.box 4 (.dat Z8 .nil) .nil)⟩, (.one (.exit 0) ⟨[4], (.st (.ptr (0, 0) 4 0 0) .nil), (.box 4 (.dat Z8 .nil) .nil)⟩)⟩
    | _ => none) (fun _ _ => 0)
  | _ => {}

theorem ok12 : Abs.SpecOK Try.prog 12 sp12 :=
  Abs.specOC_of (C := ctab) (mv := mvtab) ctab_ok (n := 12) (an := an12) (T := Abs.tabOf [(16, sp16), (60, sp60), (18, sp18), (61, sp61), (62, sp62), (20, sp20), (63, sp63), (64, sp64), (65, sp65), (66, sp66), (67, sp67), (51, sp51), (68, sp68), (69, sp69)]) good foll (Abs.tabOf_ok _ (by simp only [List.forall_mem_cons]; exact ⟨ok16, ok60, ok18, ok61, ok62, ok20, ok63, ok64, ok65, ok66, ok67, ok51, ok68, ok69, fun _ h => by cases h⟩)) rfl (by intro v; kernel_rfl)

/- pagewatch/pagewatchlaw34.act -/

end
end Go.Proofs.Ytfbikpbejkgegaa

namespace Go.Proofs.Ytfbikpbejkgegaa
open Go Go.Abs
noncomputable section
end
end Go.Proofs.Ytfbikpbejkgegaa

namespace Go.Proofs.Ytfbikpbejkgegaa
open Go Go.Abs Go.Raft
abbrev OpT : Type := Int × Int × Int × Int × Int × Int × Int × Int × Int × (Int × Int × Int × Int × Int × Int × Unit) × (Int × Int × Int × Int × Int × Unit) × Unit

abbrev RT : Type := Rep OpT

abbrev MT : Type := Msg OpT

/-- An element of a row, without the proof that it is one. -/
def rowG {A B : Type} (l : List A) (n : Int) (F : A → Option B) : Option B := bif decide (0 ≤ n) then (l[n.toNat]?).bind F else none

theorem rowAt_G {A B : Type} {l : List A} {n : Int} (F : A → Option B) : Abs.rowAt l n (fun e _ => F e) = rowG l n F := by
  unfold Abs.rowAt rowG
  cases l[n.toNat]? <;> rfl

theorem rowG_int {A B : Type} {l : List A} {n : Int} {e : A} (h0 : 0 ≤ n) (h : l[n.toNat]? = some e) (F : A → Option B) : rowG l n F = F e := by
  unfold rowG
  rw [show decide (0 ≤ n) = true from decide_eq_true h0, h]; rfl

theorem w64_nat {i : Nat} (h : i ≤ 4294967296) : w64 ((i : Int) + 1) = ((i + 1 : Nat) : Int) := by rw [w64_id (by omega) (by omega)]; omega

/-- The rows of a replica are short. -/
def Shrt (r : RT) : Prop := r.log.length ≤ 4294967295 ∧ r.votes.length ≤ 4294967295 ∧ r.mtch.length ≤ 4294967295

theorem m81_eq (a b c : Int) : m81 ((a, b, c, ()), ()) = some ((inn a b c, ()), ()) := by
  unfold m81 inn
  by_cases h : a ≥ b <;> simp [h]

theorem inn_quorum (n : Int) : ((quorum n == 0) : Bool) = !inn n 1 5 := by
  unfold quorum inn
  by_cases h : 1 ≤ n ∧ n ≤ 5
  · rw [if_pos h]
    have : n / 2 + 1 ≠ 0 := by omega
    simp [h.1, h.2, this]
  · rw [if_neg h]
    have : (decide (1 ≤ n) && decide (n ≤ 5)) = false := by simpa using h
    rw [this]; rfl

end Go.Proofs.Ytfbikpbejkgegaa

namespace Go.Proofs.Ytfbikpbejkgegaa
open Go Go.Abs Go.Raft
theorem inn_iff {x a b : Int} : inn x a b = true ↔ a ≤ x ∧ x ≤ b := by simp [inn]

theorem getD_some {A : Type} {l : List A} {i : Nat} (h : i < l.length) : ∃ e, l[i]? = some e := ⟨_, List.getElem?_eq_getElem h⟩

theorem w64_pred {n : Int} (h : inn n 1 5 = true) : w64 (n - 1) = n - 1 := by
  rw [inn_iff] at h; exact w64_id (by omega) (by omega)

end Go.Proofs.Ytfbikpbejkgegaa

namespace Go.Proofs.Ytfbikpbejkgegaa
open Go Go.Abs Go.Raft
end Go.Proofs.Ytfbikpbejkgegaa

namespace Go.Proofs.Ytfbikpbejkgegaa
open Go Go.Abs Go.Raft
end Go.Proofs.Ytfbikpbejkgegaa

namespace Go.Proofs.Ytfbikpbejkgegaa
open Go Go.Abs Go.Raft
end Go.Proofs.Ytfbikpbejkgegaa

namespace Go.Proofs.Ytfbikpbejkgegaa
open Go Go.Abs Go.Raft
theorem loop_up {A D : Type} {f : A → Option (A ⊕ D)} (st : Nat → A) (d : D) (N : Nat) (h1 : ∀ i, i < N → f (st i) = some (.inl (st (i + 1)))) (h2 : f (st N) = some (.inr d)) : ∀ (k i : Nat), i + k = N → loopT f (st i) = some d := by
  intro k
  induction k with
  | zero => intro i h; rw [show i = N by omega]; exact loopT_inr h2
  | succ k ih => intro i h; rw [loopT_inl (h1 i (by omega))]; exact ih (i + 1) (by omega)

end Go.Proofs.Ytfbikpbejkgegaa

namespace Go.Proofs.Ytfbikpbejkgegaa
open Go Go.Abs Go.Raft
end Go.Proofs.Ytfbikpbejkgegaa

namespace Go.Proofs.Ytfbikpbejkgegaa
open Go Go.Abs Go.Raft
end Go.Proofs.Ytfbikpbejkgegaa

namespace Go.Proofs.Ytfbikpbejkgegaa
open Go Go.Abs Go.Raft
end Go.Proofs.Ytfbikpbejkgegaa

namespace Go.Proofs.Ytfbikpbejkgegaa
open Go Go.Abs Go.Raft
abbrev CutT : Type := Int × Int × Unit

abbrev CT : Type := List RT × List MT × List Bool × List CutT × Unit

abbrev CT.reps (c : CT) : List RT := c.1

abbrev CT.wire (c : CT) : List MT := c.2.1

abbrev CT.down (c : CT) : List Bool := c.2.2.1

abbrev CT.cut (c : CT) : List CutT := c.2.2.2.1

abbrev cl (reps : List RT) (wire : List MT) (down : List Bool) (cut : List CutT) : CT := (reps, wire, down, cut, ())

abbrev zeroC : CT := cl [] [] [] []

abbrev u2 : Unit × Unit := ((), ())

def isCut (l : List CutT) (a b : Int) : Bool := l.any (fun p => decide (p.1 = min a b) && decide (p.2.1 = max a b))

def cutOK1 (n : Int) (x : CutT) : Bool := decide (0 ≤ x.1) && decide (x.1 < x.2.1) && decide (x.2.1 < n)

def cutsOK (n : Int) : List CutT → List CutT → Bool
  | _, [] => true
  | pre, x :: l => cutOK1 n x && !(isCut pre x.1 x.2.1) && cutsOK n (pre ++ [x]) l

structure ShC (c : CT) : Prop where
  r : ∀ r ∈ c.reps, Shrt r
  rl : c.reps.length ≤ 2147483647
  w : ∀ m ∈ c.wire, m.ents.length ≤ 1000000
  wl : c.wire.length ≤ 2147483647
  dl : c.down.length ≤ 2147483647
  cl : c.cut.length ≤ 2147483647

end Go.Proofs.Ytfbikpbejkgegaa

namespace Go.Proofs.Ytfbikpbejkgegaa
open Go Go.Abs Go.Raft
def newC (n : Int) : CT := cl ((List.range n.toNat).map rep0) [] (List.replicate n.toNat false) []

def newE (n : Int) : Int × CT := if quorum n = 0 then (1, zeroC) else (0, newC n)

structure VC (c : CT) : Prop where
  n1 : 1 ≤ c.reps.length
  n5 : c.reps.length ≤ 5
  dn : c.down.length = c.reps.length
  wl : c.wire.length ≤ 256
  rp : ∀ (j : Nat) (r : RT), c.reps[j]? = some r → r.id = (j : Int) ∧ Chk (c.reps.length : Int) r
  wm : ∀ m ∈ c.wire, 0 ≤ m.frm ∧ m.frm < (c.reps.length : Int) ∧ 0 ≤ m.to ∧ m.to < (c.reps.length : Int) ∧ m.frm ≠ m.to
  cs : cutsOK (c.reps.length : Int) [] c.cut = true

end Go.Proofs.Ytfbikpbejkgegaa

namespace Go.Proofs.Ytfbikpbejkgegaa
open Go Go.Abs Go.Raft
def key (p : CutT) : Nat := p.1.toNat * 8 + p.2.1.toNat

/-! ### Good clusters -/
structure CG (c : CT) : Prop where
  n1 : 1 ≤ c.reps.length
  n5 : c.reps.length ≤ 5
  dn : c.down.length = c.reps.length
  wl : c.wire.length ≤ 256
  wm : ∀ m ∈ c.wire, 0 ≤ m.frm ∧ m.frm < (c.reps.length : Int) ∧ 0 ≤ m.to ∧ m.to < (c.reps.length : Int) ∧ m.frm ≠ m.to
  we : ∀ m ∈ c.wire, m.ents.length ≤ 256
  cs : cutsOK (c.reps.length : Int) [] c.cut = true
  gd : ∃ g, Inv c.reps.length c.reps g ∧ ∀ m ∈ c.wire, MsgOK c.reps.length g m

theorem CG.v {c : CT} (h : CG c) : VC c := by
  obtain ⟨g, hi, _⟩ := h.gd
  exact ⟨h.n1, h.n5, h.dn, h.wl, fun j r hj => ⟨(hi.nod j r hj).id, (hi.nod j r hj).chk⟩, h.wm, h.cs⟩

theorem CG.put {c : CT} (h : CG c) {reps' : List RT} {new : List MT} (hl : reps'.length = c.reps.length)
    (hs : ∀ g, Inv c.reps.length c.reps g → (∀ m ∈ c.wire, MsgOK c.reps.length g m) → Step c.reps.length g reps' new)
    {w' : List MT} (hw : ∀ m ∈ w', m ∈ c.wire ∨ m ∈ new)
    (hn : ∀ m ∈ new, (0 ≤ m.frm ∧ m.frm < (c.reps.length : Int) ∧ 0 ≤ m.to ∧ m.to < (c.reps.length : Int) ∧ m.frm ≠ m.to) ∧ m.ents.length ≤ 256)
    (hwl : w'.length ≤ 256) {down' : List Bool} (hd : down'.length = c.reps.length) {cut' : List CutT} (hc : cutsOK (c.reps.length : Int) [] cut' = true) : CG (cl reps' w' down' cut') := by
  obtain ⟨g, hi, hm⟩ := h.gd
  obtain ⟨g', a, b, d⟩ := hs g hi hm
  have h1 := h.n1
  have h5 := h.n5
  refine ⟨by show 1 ≤ reps'.length; omega, by show reps'.length ≤ 5; omega, by show down'.length = reps'.length; omega, hwl, ?_, ?_, by show cutsOK (reps'.length : Int) [] cut' = true; rw [hl]; exact hc, ?_⟩
  · intro m hm'
    show _ ∧ m.frm < (reps'.length : Int) ∧ _ ∧ m.to < (reps'.length : Int) ∧ _
    rw [hl]
    rcases hw m hm' with hm' | hm'
    · exact h.wm m hm'
    · exact (hn m hm').1
  · intro m hm'
    rcases hw m hm' with hm' | hm'
    · exact h.we m hm'
    · exact (hn m hm').2
  · show ∃ g, Inv reps'.length reps' g ∧ ∀ m ∈ w', MsgOK reps'.length g m
    rw [hl]
    refine ⟨g', a, fun m hm' => ?_⟩
    rcases hw m hm' with hm' | hm'
    · exact b m (hm m hm')
    · exact d m hm'

theorem CG.same {c : CT} (h : CG c) {w' : List MT} (hw : ∀ m ∈ w', m ∈ c.wire) (hwl : w'.length ≤ 256) {down' : List Bool} (hd : down'.length = c.reps.length) {cut' : List CutT} (hc : cutsOK (c.reps.length : Int) [] cut' = true) : CG (cl c.reps w' down' cut') :=
  h.put rfl (fun g hi _ => hi.refl) (new := []) (fun m hm => .inl (hw m hm)) (fun m hm => by cases hm) hwl hd hc

theorem CG.id {c : CT} (h : CG c) {i : Int} {r : RT} (hr : c.reps[i.toNat]? = some r) (i0 : 0 ≤ i) : r.id = i := by
  have := (h.v.rp _ _ hr).1; omega

/-! ### Terms -/
def TB (c : CT) (T : Int) : Prop := (∀ r ∈ c.reps, r.term ≤ T) ∧ ∀ m ∈ c.wire, m.term ≤ T

theorem TB.le {c : CT} {T U : Int} (h : TB c T) (hu : T ≤ U) : TB c U := ⟨fun r hr => by have := h.1 r hr; omega, fun m hm => by have := h.2 m hm; omega⟩

theorem TB.put {c : CT} {T U : Int} (h : TB c T) (hu : T ≤ U) {i : Nat} {r' : RT} (hr : r'.term ≤ U) {w' : List MT} (hw : ∀ m ∈ w', m ∈ c.wire ∨ m.term ≤ U) {d : List Bool} {k : List CutT} : TB (cl (c.reps.set i r') w' d k) U := by
  refine ⟨fun r hr' => ?_, fun m hm => ?_⟩
  · rcases List.mem_or_eq_of_mem_set hr' with hr' | hr'
    · have := h.1 r hr'; omega
    · subst hr'; exact hr
  · rcases hw m hm with hm | hm
    · have := h.2 m hm; omega
    · exact hm

theorem TB.same {c : CT} {T : Int} (h : TB c T) {w' : List MT} (hw : ∀ m ∈ w', m ∈ c.wire ∨ m.term ≤ T) {d : List Bool} {k : List CutT} : TB (cl c.reps w' d k) T := by
  refine ⟨h.1, fun m hm => ?_⟩
  rcases hw m hm with hm | hm
  · exact h.2 m hm
  · exact hm

end Go.Proofs.Ytfbikpbejkgegaa

namespace Go.Proofs.Ytfbikpbejkgegaa
open Go Go.Abs Go.Raft
end Go.Proofs.Ytfbikpbejkgegaa

namespace Go.Proofs.Ytfbikpbejkgegaa
open Go Go.Abs Go.Raft
abbrev Dice := List Int × Int × Unit

def DOK (d : Dice) : Prop := 0 ≤ d.2.1 ∧ d.2.1 ≤ d.1.length ∧ d.1.length ≤ 500

theorem next_spec (n : Int) (d : Dice) (hd : DOK d) (hn : n ≤ 9223372036854775807) :
    ∃ (r : Int) (d' : Dice), m20 ((n, ()), ((d, ()), ())) = some ((r, ()), ((d', ()), ())) ∧ DOK d' ∧ (1 ≤ n → 0 ≤ r ∧ r < n) ∧ (n < 1 → r = 0) := by
  obtain ⟨l, at_, u⟩ := d
  obtain ⟨h1, h2, h3⟩ := hd
  simp only at h1 h2 h3
  unfold m20
  simp only [rowAt_G]
  by_cases c1 : at_ ≥ (l.length : Int)
  · refine ⟨0, (l, at_, ()), ?_, ⟨h1, h2, h3⟩, fun h => ⟨by omega, by omega⟩, fun _ => rfl⟩
    simp only [decide_eq_true c1, decide_true, decide_false, cond_true, cond_false, Option.bind_some, Bool.not_true, Bool.not_false, sumE, Bool.true_and, Bool.and_true, Bool.false_and, Bool.and_false, beq_self_eq_true, bne_self_eq_false]
  · by_cases c2 : n < 1
    · refine ⟨0, (l, at_, ()), ?_, ⟨h1, h2, h3⟩, fun h => ⟨by omega, by omega⟩, fun _ => rfl⟩
      simp only [decide_eq_false c1, decide_eq_true c2, decide_true, decide_false, cond_true, cond_false, Option.bind_some, Bool.not_true, Bool.not_false, sumE, Bool.true_and, Bool.and_true, Bool.false_and, Bool.and_false, beq_self_eq_true, bne_self_eq_false]
    · have hat : w64 (at_ + 1) = at_ + 1 := w64_id (by omega) (by omega)
      have hne : n ≠ 0 := by omega
      obtain ⟨e, he⟩ := getD_some (l := l) (i := at_.toNat) (by omega)
      have hb := Int.tmod_lt_of_pos e (show (0 : Int) < n by omega)
      have hb2 : -n < e.tmod n := by
        have := Int.lt_tmod_of_pos e (show (0 : Int) < n by omega)
        omega
      by_cases c3 : e.tmod n < 0
      · refine ⟨e.tmod n + n, (l, at_ + 1, ()), ?_, ⟨by simp only; omega, by simp only; omega, h3⟩, fun h => ⟨by omega, by omega⟩, fun h => by omega⟩
        simp only [decide_eq_false c1, decide_eq_false c2, decide_true, decide_false, cond_true, cond_false, Option.bind_some, Bool.not_true, Bool.not_false, sumE, Bool.true_and, Bool.and_true, Bool.false_and, Bool.and_false, beq_self_eq_true, bne_self_eq_false, rowG_int h1 he, decide_eq_true hne, decide_eq_true c3, hat, w64_id (x := e.tmod n + n) (by omega) (by omega)]
      · refine ⟨e.tmod n, (l, at_ + 1, ()), ?_, ⟨by simp only; omega, by simp only; omega, h3⟩, fun h => ⟨by omega, by omega⟩, fun h => by omega⟩
        simp only [decide_eq_false c1, decide_eq_false c2, decide_true, decide_false, cond_true, cond_false, Option.bind_some, Bool.not_true, Bool.not_false, sumE, Bool.true_and, Bool.and_true, Bool.false_and, Bool.and_false, beq_self_eq_true, bne_self_eq_false, rowG_int h1 he, decide_eq_true hne, decide_eq_false c3, hat]

end Go.Proofs.Ytfbikpbejkgegaa

namespace Go.Proofs.Ytfbikpbejkgegaa
open Go Go.Abs Go.Raft
theorem CG.voted {c : CT} (h : CG c) {j : Nat} {r : RT} (hj : c.reps[j]? = some r) (hr : r.role = 1 ∨ r.role = 2) : r.voted = (j : Int) := by
  obtain ⟨g, hi, _⟩ := h.gd
  have hn := hi.nod j r hj
  rcases hr with hr | hr
  · exact hn.v1 _ _ (hn.cd hr).1
  · obtain ⟨R, hR, hw, _⟩ := hn.ld hr
    have := (hi.rcd _ R hR).vt
    rw [hw] at this
    exact hn.v1 _ _ this

theorem light (l : List Int) : m16 ((l, ()), ()) = some ((decide (l.length ≤ 500), ()), ()) := by
  unfold m16
  have : decide ((l.length : Int) ≤ 500) = decide (l.length ≤ 500) := by
    by_cases h : l.length ≤ 500
    · rw [decide_eq_true h, decide_eq_true (by omega)]
    · rw [decide_eq_false h, decide_eq_false (by omega)]
  rw [this]

theorem roll (l : List Int) : m18 ((l, ()), ()) = some ((), (((l, (0, ())), ()), ())) := rfl

theorem dok0 {l : List Int} (h : l.length ≤ 500) : DOK (l, 0, ()) := ⟨Int.le_refl _, by simp only; omega, h⟩

end Go.Proofs.Ytfbikpbejkgegaa

namespace Go.Proofs.Ytfbikpbejkgegaa
open Go Go.Abs Go.Raft
end Go.Proofs.Ytfbikpbejkgegaa

namespace Go.Proofs.Ytfbikpbejkgegaa
open Go Go.Abs Go.Raft
end Go.Proofs.Ytfbikpbejkgegaa

namespace Go.Proofs.Ytfbikpbejkgegaa
open Go Go.Abs Go.Raft
def newV (i n : Int) : Int × Int := if inn n 1 5 = true ∧ inn i 0 (n - 1) = true then (0, i) else (1, 0)

abbrev newI (i n : Int) : (Int × Int × Int × Int × Int × Unit) × Unit := if inn n 1 5 = true ∧ inn i 0 (n - 1) = true then ((i, 0, -1, 0, 0, ()), ()) else ((0, 0, 0, 0, 0, ()), ())

theorem m39_eq (i n : Int) : m39 ((i, n, ()), ()) = some (((newV i n).1, ()), (newI i n, ())) := by
  unfold m39
  simp only [m81_eq, Option.bind_some]
  cases h : inn n 1 5
  · simp only [decide_true, decide_false, cond_true, cond_false, Option.bind_some, Bool.not_true, Bool.not_false, sumE, Bool.true_and, Bool.and_true, Bool.false_and, Bool.and_false, beq_self_eq_true, bne_self_eq_false, newV, newI, h, Bool.false_eq_true, false_and, if_false]
  · simp only [decide_true, decide_false, cond_true, cond_false, Option.bind_some, Bool.not_true, Bool.not_false, sumE, Bool.true_and, Bool.and_true, Bool.false_and, Bool.and_false, beq_self_eq_true, bne_self_eq_false, w64_pred h]
    cases h2 : inn i 0 (n - 1)
    · simp only [decide_true, decide_false, cond_true, cond_false, Option.bind_some, Bool.not_true, Bool.not_false, sumE, Bool.true_and, Bool.and_true, Bool.false_and, Bool.and_false, beq_self_eq_true, bne_self_eq_false, newV, newI, h2, Bool.false_eq_true, and_false, if_false]
    · simp only [decide_true, decide_false, cond_true, cond_false, Option.bind_some, Bool.not_true, Bool.not_false, sumE, Bool.true_and, Bool.and_true, Bool.false_and, Bool.and_false, beq_self_eq_true, bne_self_eq_false, newV, newI, h, h2, and_self, if_true]

end Go.Proofs.Ytfbikpbejkgegaa

namespace Go.Proofs.Ytfbikpbejkgegaa
open Go Go.Abs Go.Raft
theorem m99_eq (a b c : Int) : m99 ((a, b, c, ()), ()) = some ((inn a b c, ()), ()) := by
  unfold m99 inn
  simp only []
  by_cases h : a ≥ b
  · simp only [decide_eq_true h, decide_true, decide_false, cond_true, cond_false, Option.bind_some, Bool.not_true, Bool.not_false, sumE, Bool.true_and, Bool.and_true, Bool.false_and, Bool.and_false, beq_self_eq_true, bne_self_eq_false]
  · simp only [decide_eq_false h, decide_true, decide_false, cond_true, cond_false, Option.bind_some, Bool.not_true, Bool.not_false, sumE, Bool.true_and, Bool.and_true, Bool.false_and, Bool.and_false, beq_self_eq_true, bne_self_eq_false]

end Go.Proofs.Ytfbikpbejkgegaa

namespace Go.Proofs.Ytfbikpbejkgegaa
open Go Go.Abs Go.Raft
end Go.Proofs.Ytfbikpbejkgegaa

namespace Go.Proofs.Ytfbikpbejkgegaa
open Go Go.Abs Go.Raft
/-! ### New -/
theorem m61_eq (n : Int) : m61 ((n, ()), ()) = some (((newE n).1, ()), (u2, ((newE n).2.reps, ((newE n).2.down, ())))) ∧ (newE n).2.wire = [] ∧ (newE n).2.cut = [] := by
  unfold m61 newE
  simp only [m99_eq, Option.bind_some]
  cases hq : inn n 1 5
  · have : quorum n = 0 := by have := inn_quorum n; rw [hq] at this; simpa using this
    simp only [this, decide_true, decide_false, cond_true, cond_false, Option.bind_some, Bool.not_true, Bool.not_false, sumE, Bool.true_and, Bool.and_true, Bool.false_and, Bool.and_false, beq_self_eq_true, bne_self_eq_false, if_true, CT.reps, CT.wire, CT.down, CT.cut, cl, and_self]
  · have hq0 : ¬ quorum n = 0 := by have := inn_quorum n; rw [hq] at this; simpa using this
    obtain ⟨n1, n5⟩ := inn_iff.1 hq
    have b1 : decide ((0 : Int) ≤ n ∧ n ≤ n ∧ n ≤ 4294967296) = true := decide_eq_true (by omega)
    simp only [b1, decide_true, decide_false, cond_true, cond_false, Option.bind_some, Bool.not_true, Bool.not_false, sumE, Bool.true_and, Bool.and_true, Bool.false_and, Bool.and_false, beq_self_eq_true, bne_self_eq_false, if_neg hq0]
    refine ⟨?_, rfl, rfl⟩
    have hN : (n.toNat : Int) = n := by omega
    rw [show loopT l61_0_5 ((0, (n, (n, ()))), (((), ()), (((), ()), ([], ((List.replicate n.toNat false), ()))))) = some ((), (u2, (u2, ((List.range n.toNat).map rep0, ((List.replicate n.toNat false), ()))))) from loop_up (fun i => (((i : Int), n, n, ()), (u2, (u2, ((List.range i).map rep0, ((List.replicate n.toNat false), ())))))) _ n.toNat (fun i hi => by
      have hlt : (i : Int) < n := by omega
      have h3 : ∀ x : RT, decide (((List.range i).map (rep0 : Nat → RT)).length + [x].length ≤ 4294967296) = true := by intro x; simp; omega
      have hI : newI (i : Int) n = (((i : Int), 0, -1, 0, 0, ()), ()) := by
        unfold newI
        rw [if_pos ⟨hq, inn_iff.2 (by omega)⟩]
      rw [List.range_succ, List.map_append]
      simp only [l61_0_5, decide_eq_true hlt, m39_eq (i : Int) n, hI, h3, decide_true, decide_false, cond_true, cond_false, Option.bind_some, Bool.not_true, Bool.not_false, sumE, Bool.true_and, Bool.and_true, Bool.false_and, Bool.and_false, beq_self_eq_true, bne_self_eq_false, w64_nat (show i ≤ 4294967296 by omega), List.map_cons, List.map_nil, rep0, rp]) (by
      have : ¬ (n.toNat : Int) < n := by omega
      simp only [l61_0_5, decide_eq_false this, decide_true, decide_false, cond_true, cond_false, Option.bind_some, Bool.not_true, Bool.not_false, sumE, Bool.true_and, Bool.and_true, Bool.false_and, Bool.and_false, beq_self_eq_true, bne_self_eq_false]) n.toNat 0 (by omega)]
    simp only [Option.bind_some, newC, CT.reps, CT.down]

end Go.Proofs.Ytfbikpbejkgegaa

namespace Go.Proofs.Ytfbikpbejkgegaa
open Go Go.Abs Go.Raft
/-! ### What was committed stays, in each region -/
def KC (c c' : CT) : Prop := ∀ (j : Nat) (r : RT), c.reps[j]? = some r → ∃ r', c'.reps[j]? = some r' ∧ Keeps r r'

theorem KC.refl (c : CT) : KC c c := fun _ r h => ⟨r, h, Keeps.refl r⟩

end Go.Proofs.Ytfbikpbejkgegaa

namespace Go.Proofs.Ytfbikpbejkgegaa
open Go Go.Abs Go.Raft
theorem sane34 : m60 ((), ()) = some ((true, ()), ()) := by kernel_rfl

theorem new34 {q : Int} (h1 : 1 ≤ q) (h5 : q ≤ 5) : m61 ((q, ()), ()) = some ((0, ()), (u2, ((newC q).reps, ((newC q).down, ())))) := by
  have hne : newE q = (0, newC q) := by
    unfold newE
    rw [if_neg (by rw [quorum_eq h1 h5]; omega)]
  have := (m61_eq q).1
  rw [hne] at this
  exact this

end Go.Proofs.Ytfbikpbejkgegaa

namespace Go.Proofs.Ytfbikpbejkgegaa
open Go Go.Abs Go.Raft
theorem some12 : (m62 ((((newC 3).reps, ([], ((newC 3).down, ([], ())))), (0, ())), ())).isSome = true := by kernel_rfl

noncomputable def led3 := (m62 ((((newC 3).reps, ([], ((newC 3).down, ([], ())))), (0, ())), ())).get some12

theorem led3_eq : m62 ((((newC 3).reps, ([], ((newC 3).down, ([], ())))), (0, ())), ()) = some led3 := by simp [led3]

theorem led3_zero : led3.1.1 = 0 := by kernel_rfl

theorem law12c (l : List Int) : m12 ((l, ()), ()) = some ((true, ()), ()) := by
  unfold m12
  simp only [light, Option.bind_some, sane34]
  by_cases hl : l.length ≤ 500
  · obtain ⟨q, d1, e1, hd1, hq, _⟩ := next_spec 3 (l, 0, ()) (dok0 hl) (by omega)
    have hq := hq (by omega)
    simp only [decide_eq_true hl, decide_true, decide_false, cond_true, cond_false, Option.bind_some, Bool.not_true, Bool.not_false, sumE, Bool.true_and, Bool.and_true, Bool.false_and, Bool.and_false, beq_self_eq_true, bne_self_eq_false, roll, new34 (show (1 : Int) ≤ 3 by omega) (show (3 : Int) ≤ 5 by omega), led3_eq, led3_zero, e1]
    clear hl e1 hd1
    have : q = 0 ∨ q = 1 ∨ q = 2 := by omega
    rcases this with rfl | rfl | rfl
    · show _ = some ((true, ()), ()); kernel_rfl
    · show _ = some ((true, ()), ()); kernel_rfl
    · show _ = some ((true, ()), ()); kernel_rfl
  · simp only [decide_eq_false hl, decide_true, decide_false, cond_true, cond_false, Option.bind_some, Bool.not_true, Bool.not_false, sumE, Bool.true_and, Bool.and_true, Bool.false_and, Bool.and_false, beq_self_eq_true, bne_self_eq_false]

theorem law12 : ∀ x, Abs.InRs [.row (.int .i64)] x → m12 (x, ()) = some ((true, ()), ()) := fun x _ => law12c x.1

end Go.Proofs.Ytfbikpbejkgegaa
